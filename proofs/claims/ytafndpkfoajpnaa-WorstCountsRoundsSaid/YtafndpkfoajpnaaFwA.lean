/- The interpreter over typed plain data, and its soundness: part A. Nothing of the program stands here. -/
import Derived.Tactics
import Derived.Orders
import Derived.Laws.OwnMore
import Derived.Laws.MakeOwn
import Derived.Laws.CopyRow
import Derived.Laws.Rows
import Derived.Laws.StructEq
import Derived.IntWalk
import Derived.LoopN
import Derived.Below
import Derived.Deep.MidRow
namespace Go.Fw
open Go

/-! Types of plain data, and what they denote. -/
inductive GTy where
  | int (k : IntKind) | bool | str | unit | opq
  | pair (a b : GTy) | slice (e : GTy)
  deriving DecidableEq

@[reducible] def GTy.denote : GTy → Type
  | .int _ => Int
  | .bool => Bool
  | .str => ByteArray
  | .unit => Unit
  | .opq => Unit
  | .pair a b => a.denote × b.denote
  | .slice e => List e.denote

def GTy.zero : (t : GTy) → t.denote
  | .int _ => (0 : Int)
  | .bool => false
  | .str => ByteArray.empty
  | .unit => ()
  | .opq => ()
  | .pair a b => (a.zero, b.zero)
  | .slice _ => []

def GTy.size : GTy → Nat
  | .int _ => 1
  | .bool => 1
  | .str => 1
  | .unit => 0
  | .opq => 1
  | .pair a b => a.size + b.size
  | .slice _ => 1

/-- without slices and what is not seen -/
def GTy.flat : GTy → Bool
  | .pair a b => a.flat && b.flat
  | .slice _ => false
  | .opq => false
  | _ => true

/-- without what is not seen -/
def GTy.seen : GTy → Bool
  | .opq => false
  | .pair a b => a.seen && b.seen
  | _ => true

def GTy.isAgg : GTy → Bool
  | .pair _ _ => true
  | .unit => true
  | _ => false

def GTy.beq : (t : GTy) → t.denote → t.denote → Bool
  | .int _, a, b => decide ((a : Int) = b)
  | .bool, a, b => (a : Bool) == b
  | .str, a, b => (a : ByteArray) == b
  | .unit, _, _ => true
  | .opq, _, _ => false
  | .pair s t, x, y => s.beq x.1 y.1 && t.beq x.2 y.2
  | .slice _, _, _ => false

def rdl (e : GTy) (l : List e.denote) (i : Nat) : e.denote := l.getD i e.zero

/-- A window of a list: from o on, n of them. -/
def view {α : Type} (l : List α) : Option (Nat × Nat) → List α
  | none => l
  | some (0, n) => l.take n
  | some (o + 1, n) => (l.drop (o + 1)).take n

/-! Abstract values, objects, states. -/
inductive AVal where
  | none
  | val (t : GTy) (x : t.denote)
  | nilS
  | hdr (id : Nat) (win : Option (Nat × Nat))
  | hdr2 (id g i : Nat) (win : Option (Nat × Nat))
  | ptr (id : Nat) (fs : List Nat) (t : GTy)
  | eptr (id i : Nat) (fs : List Nat) (t : GTy)
  | eptr2 (id g i j : Nat) (fs : List Nat) (t : GTy)
  | fptr (t : GTy) (x : t.denote)
  | nil
  | cons (a b : AVal)
  | tup (l : AVal)
  | clo (f : Nat) (caps : AVal)
  | mref (id : Nat)
  | opq

inductive AObj where
  | dead
  | box (t : GTy) (v : AVal)
  | row (e : GTy) (l : List e.denote)
  | row2 (e : GTy) (l : List (List e.denote)) (g : Nat) (hole : Option Nat)
  | map (k v : GTy) (m : List (k.denote × v.denote))

structure St where
  tmps : Nat → AVal
  objs : Nat → AObj
  next : Nat
  nt : Nat

def upd {α : Type} (f : Nat → α) (i : Nat) (v : α) : Nat → α := fun j => if j = i then v else f j
def upds {α : Type} (f : Nat → α) : List (Nat × α) → Nat → α
  | [] => f
  | (i, v) :: r => upds (upd f i v) r
def look {α : Type} : List (Nat × α) → Nat → Option α
  | [], _ => none
  | (i, v) :: r, j => if j = i then some v else look r j

/-! The tree of an evaluation. -/
inductive M (α : Type) : Type 1 where
  | ret (a : α)
  | fail
  | ite (b : Bool) (x y : M α)
  | bind {β : Type} (m : Option β) (k : β → M α)
  | case {A B : Type} (y : A ⊕ B) (f : A → M α) (g : B → M α)
  | rd (id : Nat) (k : AObj → M α)
  | opt (m : Option α)

def M.andThen {α β : Type} : M α → (α → M β) → M β
  | .ret a, f => f a
  | .fail, _ => .fail
  | .ite b x y, f => .ite b (x.andThen f) (y.andThen f)
  | .bind m k, f => .bind m fun x => (k x).andThen f
  | .case y g h, f => .case y (fun a => (g a).andThen f) (fun b => (h b).andThen f)
  | .rd id k, f => .rd id fun o => (k o).andThen f
  | .opt m, f => .bind m f

/-- The objects are known; what is read is listed. -/
def M.res {α : Type} (objs : Nat → AObj) : M α → List Nat → M (α × List Nat)
  | .ret a, l => .ret (a, l)
  | .fail, _ => .fail
  | .ite b x y, l => .ite b (x.res objs l) (y.res objs l)
  | .bind m k, l => .bind m fun x => (k x).res objs l
  | .case y g h, l => .case y (fun a => (g a).res objs l) (fun b => (h b).res objs l)
  | .rd id k, l => (k (objs id)).res objs (id :: l)
  | .opt m, l => .bind m fun x => .ret (x, l)

def M.eval {α : Type} : M α → Option α
  | .ret a => some a
  | .fail => none
  | .ite b x y => if b then x.eval else y.eval
  | .bind m k => m.bind fun x => (k x).eval
  | .case y g h => match y with | .inl a => (g a).eval | .inr b => (h b).eval
  | .rd _ _ => none
  | .opt m => m

/-! Parts of a value. -/
def fldT : (t : GTy) → t.denote → Nat → AVal
  | .pair a b, x, n => match n with
    | 0 => .val a x.1
    | n + 1 => fldT b x.2 n
  | _, _, _ => .none

def AVal.fld : AVal → Nat → AVal
  | .val t x, n => fldT t x n
  | .cons a b, n => match n with
    | 0 => a
    | n + 1 => b.fld n
  | _, _ => .none

def AVal.path (v : AVal) : List Nat → AVal
  | [] => v
  | f :: fs => (v.fld f).path fs

/-- the shape that a type asks -/
def AVal.shape : GTy → AVal → Bool
  | .pair a b, v => match v with
    | .val t _ => decide (t = .pair a b)
    | .cons x y => x.shape a && y.shape b
    | _ => false
  | .unit, v => match v with
    | .val t _ => decide (t = .unit)
    | .nil => true
    | _ => false
  | .slice e, v => match v with
    | .val t _ => decide (t = .slice e)
    | .nilS => true
    | .hdr _ _ => true
    | .hdr2 _ _ _ _ => true
    | _ => false
  | .opq, v => match v with
    | .ptr _ _ _ => true
    | .eptr _ _ _ _ => true
    | .eptr2 _ _ _ _ _ _ => true
    | .fptr _ _ => true
    | .clo _ _ => true
    | .mref _ => true
    | .opq => true
    | .val t _ => decide (t = .opq)
    | _ => false
  | t, v => match v with
    | .val t' _ => decide (t' = t)
    | _ => false

def fldTy : GTy → Nat → Option GTy
  | .pair a b, n => match n with
    | 0 => some a
    | n + 1 => fldTy b n
  | _, _ => none

def setT (v : AVal) : (t : GTy) → List Nat → t.denote → AVal
  | .pair a b, fs, x => match fs with
    | [] => v
    | 0 :: fs => .cons (setT v a fs x.1) (.val b x.2)
    | (n + 1) :: fs => .cons (.val a x.1) (setT v b (n :: fs) x.2)
  | _, fs, _ => match fs with
    | [] => v
    | _ => .none

/-- a part is laid anew -/
def setA (v : AVal) : AVal → List Nat → AVal
  | .val t x, fs => setT v t fs x
  | .cons a b, fs => match fs with
    | [] => v
    | 0 :: fs => .cons (setA v a fs) b
    | (n + 1) :: fs => .cons a (setA v b (n :: fs))
  | _, fs => match fs with
    | [] => v
    | _ => .none

/-- the same in plain data -/
def putT (t : GTy) (y : t.denote) : (e : GTy) → List Nat → e.denote → Option e.denote
  | .pair a b, fs, x => match fs with
    | [] => if h : t = .pair a b then some (h ▸ y) else none
    | 0 :: fs => match putT t y a fs x.1 with
      | some u => some (u, x.2)
      | none => none
    | (n + 1) :: fs => match putT t y b (n :: fs) x.2 with
      | some u => some (x.1, u)
      | none => none
  | e, fs, _ => match fs with
    | [] => if h : t = e then some (h ▸ y) else none
    | _ => none

def zeroA : (t : GTy) → AVal
  | .slice _ => .nilS
  | .opq => .opq
  | .pair a b => if (GTy.pair a b).flat then .val (.pair a b) (a.zero, b.zero) else .cons (zeroA a) (zeroA b)
  | t => .val t t.zero

/-! A value as plain data; the objects that are read by it. -/
def coerce : (t : GTy) → AVal → M (t.denote × List Nat)
  | t, .val t' x => if h : t' = t then .ret (h ▸ x, []) else .fail
  | .slice e, v => match v with
    | .nilS => .ret ([], [])
    | .hdr id w => .rd id fun
      | .row e' l => if h : e' = e then .ret (view (h ▸ l : List e.denote) w, [id]) else .fail
      | .row2 e' l _ none => match e with
        | .slice e1 => if h : e' = e1 then .ret (view (h ▸ l : List (List e1.denote)) w, [id]) else .fail
        | _ => .fail
      | _ => .fail
    | .hdr2 id g i w => .rd id fun
      | .row2 e' l g' none => if h : e' = e then (if g = g' then .ret (view (rdl (.slice e) (h ▸ l : List (List e.denote)) i) w, [id]) else .fail) else .fail
      | _ => .fail
    | _ => .fail
  | .pair a b, .cons x y => (coerce a x).andThen fun u => (coerce b y).andThen fun v => .ret ((u.1, v.1), u.2 ++ v.2)
  | .unit, .nil => .ret ((), [])
  | _, _ => .fail

/-! Templates of values, of objects, of states. -/
inductive TA where
  | opq
  | v (t : GTy)
  | href (i : Nat)
  | ref (i : Nat) (t : GTy)
  | mref (i : Nat)
  | cons (a b : TA)
  | nil
  | tup (l : TA)
  | clo (f : Nat) (caps : TA)

@[reducible] def TA.X : TA → Type
  | .v t => t.denote
  | .cons a b => a.X × b.X
  | .tup l => l.X
  | .clo _ c => c.X
  | _ => Unit

inductive OSlot where
  | dead
  | box (g : GTy) (t : TA)
  | row (e : GTy)
  | row2 (e : GTy)
  | map (k v : GTy)

@[reducible] def OSlot.X : OSlot → Type
  | .dead => Unit
  | .box _ t => t.X
  | .row e => List e.denote
  | .row2 e => List (List e.denote)
  | .map k v => List (k.denote × v.denote)

@[reducible] def slotsX : List (Nat × TA) → Type
  | [] => Unit
  | s :: r => s.2.X × slotsX r

@[reducible] def objsX : List OSlot → Type
  | [] => Unit
  | s :: r => s.X × objsX r

inductive Ex where
  | normal | exit (id : Nat) | ret
  deriving DecidableEq

structure Out where
  ex : Ex
  slots : List (Nat × TA)
  objs : List (Option Nat × OSlot)

@[reducible] def Out.X (o : Out) : Type := slotsX o.slots × objsX (o.objs.map (·.2))

@[reducible] def outsX : List Out → Type
  | [] => Empty
  | [o] => o.X
  | o :: r => o.X ⊕ outsX r

structure Piece where
  slots : List (Nat × TA)
  objs : List OSlot
  outs : List Out
  asg : List Nat
  nt : Nat
  fn : slotsX slots × objsX objs → Option (outsX outs)

structure Env where
  ty : Nat → Option GTy
  eqt : Nat → Bool
  mty : Nat → Option (GTy × GTy)
  fn : Nat → Option Piece
  pc : Nat → Option Piece

/-! The templates' making. -/
def TA.mk (ids : Nat → Nat) : (t : TA) → t.X → AVal
  | .opq, _ => .opq
  | .v t, x => .val t x
  | .href i, _ => .hdr (ids i) none
  | .ref i t, _ => .ptr (ids i) [] t
  | .mref i, _ => .mref (ids i)
  | .cons a b, x => .cons (a.mk ids x.1) (b.mk ids x.2)
  | .nil, _ => .nil
  | .tup l, x => .tup (l.mk ids x)
  | .clo f c, x => .clo f (c.mk ids x)

def OSlot.mk (ids : Nat → Nat) : (t : OSlot) → t.X → AObj
  | .dead, _ => .dead
  | .box g t, x => .box g (t.mk ids x)
  | .row e, l => .row e l
  | .row2 e, l => .row2 e l 0 none
  | .map k v, m => .map k v m

def slotsMk (ids : Nat → Nat) : (l : List (Nat × TA)) → slotsX l → List (Nat × AVal)
  | [], _ => []
  | s :: r, x => (s.1, s.2.mk ids x.1) :: slotsMk ids r x.2

def objsMk (ids : Nat → Nat) : (j : Nat) → (l : List OSlot) → objsX l → List (Nat × AObj)
  | _, [], _ => []
  | j, s :: r, x => (ids j, s.mk ids x.1) :: objsMk ids (j + 1) r x.2

/-- an object of a template, at a generation -/
def OSlot.mkG (ids : Nat → Nat) (gen : Nat) : (t : OSlot) → t.X → AObj
  | .row2 e, l => .row2 e l gen none
  | s, x => s.mk ids x

def objsMkG (ids : Nat → Nat) (gens : List Nat) : (j : Nat) → (l : List OSlot) → objsX l → List (Nat × AObj)
  | _, [], _ => []
  | j, s :: r, x => (ids j, s.mkG ids (gens.getD j 0) x.1) :: objsMkG ids gens (j + 1) r x.2

/-! The templates' matching: where the template's objects are. -/
inductive Src where
  | obj (id : Nat) (w : Option (Nat × Nat))
  | nil

structure Mt where
  map : List (Nat × Src)
  views : List Nat

def Mt.bind (m : Mt) (i : Nat) (s : Src) : M Mt :=
  match look m.map i with
  | none => .ret { m with map := (i, s) :: m.map }
  | some (.obj a none) => match s with
    | .obj b none => if a = b then .ret m else .fail
    | _ => .fail
  | some .nil => match s with
    | .nil => .ret m
    | _ => .fail
  | _ => .fail

/-- a list of templates -/
def TA.isList : TA → Bool
  | .cons _ b => b.isList
  | .nil => true
  | _ => false

def getA : (t : TA) → AVal → Mt → M (t.X × Mt)
  | .opq, a, m => if a.shape .opq then .ret ((), m) else .fail
  | .v t, a, m => (coerce t a).andThen fun r => .ret (r.1, { m with views := r.2 ++ m.views })
  | .href i, a, m => match a with
    | .hdr id w => (m.bind i (.obj id w)).andThen fun m => .ret ((), m)
    | .nilS => (m.bind i .nil).andThen fun m => .ret ((), m)
    | _ => .fail
  | .ref i t, a, m => match a with
    | .ptr id [] t' => if t' = t then (m.bind i (.obj id none)).andThen fun m => .ret ((), m) else .fail
    | _ => .fail
  | .mref i, a, m => match a with
    | .mref id => (m.bind i (.obj id none)).andThen fun m => .ret ((), m)
    | _ => .fail
  | .cons a b, x, m => match x with
    | .cons x y => (getA a x m).andThen fun r => (getA b y r.2).andThen fun q => .ret ((r.1, q.1), q.2)
    | .val (.pair s t) z => (getA a (.val s z.1) m).andThen fun r => (getA b (.val t z.2) r.2).andThen fun q => .ret ((r.1, q.1), q.2)
    | _ => .fail
  | .nil, x, m => match x with
    | .nil => .ret ((), m)
    | .val .unit _ => .ret ((), m)
    | _ => .fail
  | .tup l, x, m => match x with
    | .tup y => if l.isList then getA l y m else .fail
    | _ => .fail
  | .clo f c, x, m => match x with
    | .clo g d => if f = g ∧ c.isList then getA c d m else .fail
    | _ => .fail

def getO : (t : OSlot) → AObj → Option (Nat × Nat) → Mt → M (t.X × Mt)
  | .dead, _, _, _ => .fail
  | .box g t, o, w, m => match o, w with
    | .box g' a, none => if g' = g then (getA t a m).andThen fun r => if (t.mk id r.1).shape g then .ret r else .fail else .fail
    | _, _ => .fail
  | .row e, o, w, m => match o with
    | .row e' l => if h : e' = e then .ret (view (h ▸ l) w, m) else .fail
    | _ => .fail
  | .row2 e, o, w, m => match o, w with
    | .row2 e' l _ none, none => if h : e' = e then .ret (h ▸ l, m) else .fail
    | _, _ => .fail
  | .map k v, o, w, m => match o, w with
    | .map k' v' l, none => if h : k' = k ∧ v' = v then .ret (h.1 ▸ h.2 ▸ l, m) else .fail
    | _, _ => .fail

def getSlots (f : Nat → AVal) : (l : List (Nat × TA)) → Mt → M (slotsX l × Mt)
  | [], m => .ret ((), m)
  | s :: r, m => (getA s.2 (f s.1) m).andThen fun x => (getSlots f r x.2).andThen fun y => .ret ((x.1, y.1), y.2)

def OSlot.empty : (t : OSlot) → Option t.X
  | .row _ => some []
  | .row2 _ => some []
  | .dead => some ()
  | _ => none

def getObjs : (j : Nat) → (l : List OSlot) → Mt → M (objsX l × Mt)
  | _, [], m => .ret ((), m)
  | j, s :: r, m =>
    (match look m.map j with
    | some (.obj id w) => .rd id fun o => getO s o w m
    | some .nil => match s.empty with
      | some x => .ret (x, m)
      | none => .fail
    | none => match s with
      | .dead => .ret ((), m)
      | _ => .fail : M (s.X × Mt)).andThen fun x => (getObjs (j + 1) r x.2).andThen fun y => .ret ((x.1, y.1), y.2)

def Mt.ids (m : Mt) : List Nat := m.map.filterMap fun p => match p.2 with | .obj id _ => some id | .nil => none

def distinct : List Nat → Bool
  | [] => true
  | a :: r => !r.elem a && distinct r

def TA.flat : TA → Bool
  | .v t => t.flat
  | .cons a b => a.flat && b.flat
  | .tup l => l.flat
  | .clo _ c => c.flat
  | _ => true

def OSlot.flat : OSlot → Bool
  | .dead => true
  | .box _ t => t.flat
  | .row e => e.flat
  | .row2 e => e.flat
  | .map k v => k.flat && v.flat

def Out.flat (o : Out) : Bool := o.slots.all (·.2.flat) && o.objs.all (·.2.flat)

def Mt.ok (m : Mt) (outs : List Out) : Bool :=
  distinct m.ids && m.views.all (fun v => !m.ids.elem v) && (m.views.isEmpty || outs.all Out.flat)

def OSlot.live : OSlot → Bool
  | .dead => false
  | _ => true

/-- the objects that are named are slots of the template -/
def Mt.within (m : Mt) (os : List OSlot) : Bool := m.map.all fun q => match os[q.1]? with | some o => o.live | none => false

/-! A piece's or a function's use. -/
def Mt.objId (m : Mt) (base : Nat) (o : List (Option Nat × OSlot)) (j : Nat) : Nat :=
  match o[j]? with
  | some (some i, _) => match look m.map i with
    | some (.obj id none) => id
    | _ => base + j
  | _ => base + j

/-- pinned objects are where they were, and whole -/
def Mt.pinsOk (m : Mt) (o : List (Option Nat × OSlot)) : Bool :=
  decide (o.length ≤ 8) && distinct (o.filterMap (·.1)) && o.all fun p => match p.1 with
    | none => true
    | some i => match look m.map i with
      | some (.obj _ none) => true
      | _ => false

/-- a list of lists that stays where it was is of the next generation -/
def genM (m : Mt) : Option Nat × OSlot → M Nat
  | (some i, .row2 _) => match look m.map i with
    | some (.obj id none) => .rd id fun
      | .row2 _ _ g _ => .ret (g + 1)
      | _ => .fail
    | _ => .fail
  | _ => .ret 0
def gensM (m : Mt) : List (Option Nat × OSlot) → M (List Nat)
  | [] => .ret []
  | p :: r => (genM m p).andThen fun g => (gensM m r).andThen fun gs => .ret (g :: gs)

structure Eff where
  ex : Ex
  slots : List (Nat × AVal)
  objs : List (Nat × AObj)

def putOut (m : Mt) (base : Nat) (o : Out) (y : o.X) : M Eff :=
  if m.pinsOk o.objs then
    (gensM m o.objs).andThen fun gs =>
      .ret { ex := o.ex, slots := slotsMk (m.objId base o.objs) o.slots y.1,
             objs := m.ids.map (fun id => (id, .dead)) ++ objsMkG (m.objId base o.objs) gs 0 (o.objs.map (·.2)) y.2 }
  else .fail

def putOuts (m : Mt) (base : Nat) : (os : List Out) → outsX os → M Eff
  | [], y => nomatch y
  | [o], y => putOut m base o y
  | o :: p :: r, y => .case y (putOut m base o) (putOuts m base (p :: r))

def Piece.use (p : Piece) (f : Nat → AVal) (base : Nat) : M Eff :=
  (getSlots f p.slots { map := [], views := [] }).andThen fun x =>
    (getObjs 0 p.objs x.2).andThen fun y =>
      if y.2.ok p.outs && y.2.within p.objs then .bind (p.fn (x.1, y.1)) fun z => putOuts y.2 base p.outs z else .fail

end Go.Fw
namespace Go.Fw
open Go

structure Res where
  v : AVal
  w : List (Nat × AObj)

def retV (v : AVal) : M Res := .ret { v, w := [] }

def ofConst : Value → AVal
  | .int k n => if decide (k.min ≤ n ∧ n ≤ k.max) then .val (.int k) n else .none
  | .bool b => .val .bool b
  | .string s => .val .str s
  | .slice none 0 0 => .nilS
  | _ => .none

def evalA (tmps : Nat → AVal) : Operand → AVal
  | .tmp t => tmps t
  | .const v => ofConst v
  | .func f => .clo f .nil
  | .global _ => .none

/-! Numbers. -/
def ibits (op : BinOp) (k : IntKind) (x y : Int) : Int :=
  match op with
  | .and => k.wrap (BitVec.ofInt k.bits x &&& BitVec.ofInt k.bits y).toNat
  | .or => k.wrap (BitVec.ofInt k.bits x ||| BitVec.ofInt k.bits y).toNat
  | .xor => k.wrap (BitVec.ofInt k.bits x ^^^ BitVec.ofInt k.bits y).toNat
  | _ => k.wrap (BitVec.ofInt k.bits x &&& ~~~BitVec.ofInt k.bits y).toNat
def iand (k : IntKind) (x y : Int) : Int := ibits .and k x y
def ior (k : IntKind) (x y : Int) : Int := ibits .or k x y
def ixor (k : IntKind) (x y : Int) : Int := ibits .xor k x y
def iandNot (k : IntKind) (x y : Int) : Int := ibits .andNot k x y
def ishl (k : IntKind) (x y : Int) : Int := k.wrap (x * 2 ^ min y.toNat k.bits)
def ishr (k : IntKind) (x y : Int) : Int := x.fdiv (2 ^ min y.toNat k.bits)

def binInt (op : BinOp) (k : IntKind) (x y : Int) : M AVal :=
  let i (n : Int) : M AVal := .ret (.val (.int k) n)
  let b (c : Bool) : M AVal := .ret (.val .bool c)
  match op with
  | .add => i (k.wrap (x + y))
  | .sub => i (k.wrap (x - y))
  | .mul => i (k.wrap (x * y))
  | .quo => .ite (decide (y = 0)) .fail (i (k.wrap (x.tdiv y)))
  | .rem => .ite (decide (y = 0)) .fail (i (x.tmod y))
  | .and => i (iand k x y)
  | .or => i (ior k x y)
  | .xor => i (ixor k x y)
  | .andNot => i (iandNot k x y)
  | .eql => b (decide (x = y))
  | .neq => b (!decide (x = y))
  | .lss => b (decide (x < y))
  | .leq => b (decide (x ≤ y))
  | .gtr => b (decide (y < x))
  | .geq => b (decide (y ≤ x))
  | _ => .fail

def shiftInt (op : BinOp) (k : IntKind) (x y : Int) : M AVal :=
  .ite (decide (y < 0)) .fail (match op with
    | .shl => .ret (.val (.int k) (ishl k x y))
    | .shr => .ret (.val (.int k) (ishr k x y))
    | _ => .fail)

def binM (op : BinOp) (ty : Option GTy) (eq : Bool) (x y : AVal) : M AVal :=
  match x with
  | .val (.int k) a => match y with
    | .val (.int k') b => match op with
      | .shl => shiftInt .shl k a b
      | .shr => shiftInt .shr k a b
      | op => if k = k' then binInt op k a b else .fail
    | _ => .fail
  | .val .str a => match y with
    | .val .str b => match op with
      | .eql => .ret (.val .bool (a == b))
      | .neq => .ret (.val .bool (!(a == b)))
      | .add => .ite (decide (a.size + b.size ≤ 4294967296)) (.ret (.val .str (a ++ b))) .fail
      | _ => .fail
    | _ => .fail
  | x => match ty with
    | some t => if eq then (coerce t x).andThen fun a => (coerce t y).andThen fun b =>
        match op with
        | .eql => .ret (.val .bool (t.beq a.1 b.1))
        | .neq => .ret (.val .bool (!t.beq a.1 b.1))
        | _ => .fail
      else .fail
    | none => .fail

def unM (op : UnOp) (x : AVal) : M AVal :=
  match x with
  | .val (.int k) a => match op with
    | .neg => .ret (.val (.int k) (k.wrap (0 - a)))
    | .xor => .ret (.val (.int k) (ixor k (if k.signed then -1 else k.max) a))
    | _ => .fail
  | .val .bool a => match op with
    | .not => .ret (.val .bool (!a))
    | _ => .fail
  | _ => .fail

def convM (src dst : Option GTy) (x : AVal) : M AVal :=
  match src with
  | some sg => match dst with
    | some (.int k) => match x with
      | .val (.int _) a => .ret (.val (.int k) (k.wrap a))
      | _ => .fail
    | some .str => match sg, x with
      | .str, .val .str s => .ret (.val .str s)
      | _, _ => .fail
    | _ => .fail
  | none => .fail

/-! Memory. -/
def nz (v : AVal) : M AVal := match v with | .none => .fail | v => .ret v

def loadM (a : AVal) : M AVal :=
  match a with
  | .ptr id fs _ => .rd id fun
    | .box _ v => .ret (v.path fs)
    | _ => .fail
  | .eptr id i fs _ => .rd id fun
    | .row e l => .ret ((AVal.val e (rdl e l i)).path fs)
    | .row2 _ _ g hole => match fs, hole with
      | [], none => .ret (.hdr2 id g i none)
      | _, _ => .fail
    | _ => .fail
  | .eptr2 id g i j fs _ => .rd id fun
    | .row2 e l g' none => if g = g' then .ret ((AVal.val e (rdl e (rdl (.slice e) l i) j)).path fs) else .fail
    | _ => .fail
  | .fptr t x => .ret (.val t x)
  | _ => .fail

def setW (id : Nat) (o : AObj) : M Res := .ret { v := .none, w := [(id, o)] }

/-- an element is laid anew, at its part fs; the value reads no objects -/
def setElem (t e : GTy) (x : e.denote) (fs : List Nat) (v : AVal) : M e.denote :=
  (coerce t v).andThen fun y => if y.2.isEmpty then (match putT t y.1 e fs x with | some z => .ret z | none => .fail) else .fail

def storeM (t : GTy) (a v : AVal) : M Res :=
  match a with
  | .ptr id fs t' => if t' = t && v.shape t then .rd id fun
      | .box g c => setW id (.box g (setA v c fs))
      | _ => .fail
    else .fail
  | .eptr id i fs t' => if t' = t then .rd id fun
      | .row e l => (setElem t e (rdl e l i) fs v).andThen fun x => setW id (.row e (l.set i x))
      | .row2 e l g hole => match fs with
        | [] =>
          let put (x : List e.denote) (more : List (Nat × AObj)) : M Res :=
            let r : M Res := .ret { v := .none, w := (id, .row2 e (l.set i x) (g + 1) none) :: more }
            match hole with
            | none => r
            | some j => .ite (decide (i = j)) r .fail
          match v with
          | .nilS => put [] []
          | .hdr id2 w => if id2 = id then .fail else .rd id2 fun
            | .row e' l' => if h : e' = e then put (view (h ▸ l') w) [(id2, .dead)] else .fail
            | _ => .fail
          | _ => .fail
        | _ => .fail
      | _ => .fail
    else .fail
  | .eptr2 id g i j fs t' => if t' = t then .rd id fun
      | .row2 e l g' none => if g = g' then (setElem t e (rdl e (rdl (.slice e) l i) j) fs v).andThen fun x => setW id (.row2 e (l.set i ((rdl (.slice e) l i).set j x)) g none) else .fail
      | _ => .fail
    else .fail
  | _ => .fail

def addrFld (s : GTy) (a : AVal) (f : Nat) : M AVal :=
  match a with
  | .ptr id fs t => if t = s then (match fldTy t f with | some u => if u.size = 0 then .fail else .ret (.ptr id (fs ++ [f]) u) | none => .fail) else .fail
  | .eptr id i fs t => if t = s then (match fldTy t f with | some u => if u.size = 0 then .fail else .ret (.eptr id i (fs ++ [f]) u) | none => .fail) else .fail
  | .eptr2 id g i j fs t => if t = s then (match fldTy t f with | some u => if u.size = 0 then .fail else .ret (.eptr2 id g i j (fs ++ [f]) u) | none => .fail) else .fail
  | .fptr t x => if t = s then (match fldT t x f with
    | .val u y => if u.size = 0 then .fail else .ret (.fptr u y)
    | _ => .fail) else .fail
  | _ => .fail

/-- the place of the i-th element of a window -/
def winAt (w : Option (Nat × Nat)) (i : Nat) : Nat := match w with | none => i | some (o, _) => i + o
def winLen {α : Type} (w : Option (Nat × Nat)) (l : List α) : Nat := match w with | none => l.length | some (_, n) => n

def inB (i : Int) (n : Nat) (x : M AVal) : M AVal := .ite (decide (0 ≤ i ∧ i < n)) x .fail

def indexAddrM (e : GTy) (x i : AVal) : M AVal :=
  match i with
  | .val (.int _) i => match x with
    | .val (.slice e') l => if e' = e then inB i l.length (.ret (.fptr e' (rdl e' l i.toNat))) else .fail
    | .hdr id w => .rd id fun
      | .row e' l => if e' = e then inB i (winLen w l) (.ret (.eptr id (winAt w i.toNat) [] e)) else .fail
      | .row2 e' l _ _ => if .slice e' = e then inB i (winLen w l) (.ret (.eptr id (winAt w i.toNat) [] e)) else .fail
      | _ => .fail
    | .hdr2 id g k w => .rd id fun
      | .row2 e' l g' none => if g = g' ∧ e' = e then inB i (winLen w (rdl (.slice e') l k)) (.ret (.eptr2 id g k (winAt w i.toNat) [] e)) else .fail
      | _ => .fail
    | _ => .fail
  | _ => .fail

def indexM (x i : AVal) : M AVal :=
  match i with
  | .val (.int _) i => match x with
    | .val .str s => inB i s.size (.ret (.val (.int .u8) (s.data.toList.getD i.toNat 0).toNat))
    | _ => .fail
  | _ => .fail

def lenM (ty : Option GTy) (mp : Bool) (x : AVal) : M AVal :=
  let n (k : Nat) : M AVal := .ret (.val (.int .i64) (k : Int))
  match ty with
  | some (.slice _) => match x with
    | .val (.slice _) l => n l.length
    | .nilS => n 0
    | .hdr id w => match w with
      | some (_, k) => n k
      | none => .rd id fun
        | .row _ l => n l.length
        | .row2 _ l _ _ => n l.length
        | _ => .fail
    | .hdr2 id g i w => .rd id fun
      | .row2 e l g' none => if g = g' then n (winLen w (rdl (.slice e) l i)) else .fail
      | _ => .fail
    | _ => .fail
  | some .str => match x with
    | .val .str s => .ite (decide (s.size ≤ 9223372036854775807)) (n s.size) .fail
    | _ => .fail
  | _ => if mp then (match x with
    | .mref id => .rd id fun
      | .map _ _ m => .ite (decide (m.length ≤ 9223372036854775807)) (n m.length) .fail
      | _ => .fail
    | _ => .fail) else .fail

/-- bounds of a slice expression -/
def cut (w : Option (Nat × Nat)) (n : Nat) (lo hi : Option Int) (k : Option (Nat × Nat) → M AVal) : M AVal :=
  match lo, hi with
  | none, none => k w
  | none, some b => .ite (decide (0 ≤ b ∧ b ≤ n)) (k (some (winAt w 0, b.toNat))) .fail
  | some a, none => .ite (decide (0 ≤ a ∧ a ≤ n)) (k (some (winAt w a.toNat, n - a.toNat))) .fail
  | some a, some b => .ite (decide (0 ≤ b ∧ b ≤ n)) (.ite (decide (0 ≤ a ∧ a ≤ b)) (k (some (winAt w a.toNat, b.toNat - a.toNat))) .fail) .fail

def cutL {α : Type} (l : List α) (lo hi : Option Int) (k : List α → M AVal) : M AVal :=
  match lo, hi with
  | none, none => k l
  | none, some b => .ite (decide (0 ≤ b ∧ b ≤ l.length)) (k (l.take b.toNat)) .fail
  | some a, none => .ite (decide (0 ≤ a ∧ a ≤ l.length)) (k (l.drop a.toNat)) .fail
  | some a, some b => .ite (decide (0 ≤ b ∧ b ≤ l.length)) (.ite (decide (0 ≤ a ∧ a ≤ b)) (k ((l.take b.toNat).drop a.toNat)) .fail) .fail

def optInt (ρ : Operand → AVal) : Option Operand → Option (Option Int)
  | none => some none
  | some o => match ρ o with
    | .val (.int _) i => some (some i)
    | _ => none

def sliceM (ty : Option GTy) (x : AVal) (lo hi : Option Int) : M AVal :=
  match ty with
  | some (.slice e0) => match x with
    | .val (.slice e) l => if e.size = e0.size then cutL l lo hi fun l => .ret (.val (.slice e) l) else .fail
    | .hdr id w => .rd id fun
      | .row e l => if e.size = e0.size then cut w (winLen w l) lo hi fun w => .ret (.hdr id w) else .fail
      | .row2 _ l _ _ => if e0.size = 1 then cut w (winLen w l) lo hi fun w => .ret (.hdr id w) else .fail
      | _ => .fail
    | _ => .fail
  | some .str => match x with
    | .val .str s => match lo, hi with
      | none, none => .ret (.val .str s)
      | none, some b => .ite (decide (0 ≤ b ∧ b ≤ s.size)) (.ret (.val .str (s.extract 0 b.toNat))) .fail
      | some a, none => .ite (decide (0 ≤ a ∧ a ≤ s.size)) (.ret (.val .str (s.extract a.toNat s.size))) .fail
      | some a, some b => .ite (decide (0 ≤ b ∧ b ≤ s.size)) (.ite (decide (0 ≤ a ∧ a ≤ b)) (.ret (.val .str (s.extract a.toNat b.toNat))) .fail) .fail
    | _ => .fail
  | _ => .fail

def lenCap : Nat := 4294967296

def mkRow (base : Nat) (e : GTy) (l : List e.denote) (w : List (Nat × AObj)) : M Res :=
  .ret { v := .hdr base none, w := w ++ [(base, .row e l)] }
def mkRow2 (base : Nat) (e : GTy) (l : List (List e.denote)) (w : List (Nat × AObj)) : M Res :=
  .ret { v := .hdr base none, w := w ++ [(base, .row2 e l 0 none)] }

def makeM (ty : Option GTy) (n c : AVal) (base : Nat) : M Res :=
  match ty with
  | some (.slice e) => match n with
    | .val (.int _) n => match c with
      | .val (.int _) c => .ite (decide (0 ≤ n ∧ n ≤ c ∧ c ≤ 4294967296)) (match e with
        | .slice e1 => mkRow2 base e1 (List.replicate n.toNat []) []
        | e => if e.seen then mkRow base e (List.replicate n.toNat e.zero) [] else .fail) .fail
      | _ => .fail
    | _ => .fail
  | _ => .fail

def room (n : Nat) (r : M Res) : M Res := .ite (decide (n ≤ 4294967296)) r .fail

/-- plain values are appended to a list -/
def appendPlain (e : GTy) (base : Nat) (x : AVal) (old : List e.denote) (w : List (Nat × AObj)) : M Res :=
  (coerce (.slice e) x).andThen fun y => if e.flat || y.2.isEmpty then room (old.length + y.1.length) (mkRow base e (old ++ y.1) w) else .fail

/-- lists of the call's own are appended to a list of lists -/
def appendLists (e : GTy) (base : Nat) (x : AVal) (no : List Nat) (old : List (List e.denote)) (w : List (Nat × AObj)) : M Res :=
  match x with
  | .hdr id2 none => if no.elem id2 then .fail else .rd id2 fun
    | .row2 e' l' _ none => if h : e' = e then room (old.length + l'.length) (mkRow2 base e (old ++ (h ▸ l' : List (List e.denote))) (w ++ [(id2, .dead)])) else .fail
    | _ => .fail
  | _ => .fail

def appendM (ty ty2 : Option GTy) (s x : AVal) (base : Nat) : M Res :=
  match ty, ty2 with
  | some (.slice e), some (.slice _) =>
    match s with
    | .nilS => match e with
      | .slice e1 => appendLists e1 base x [] [] []
      | e => appendPlain e base x [] []
    | .hdr id w => .rd id fun
      | .row e' l => if h : e' = e then appendPlain e base x (view (h ▸ l) w) [(id, .dead)] else .fail
      | .row2 e' l _ none => match w with
        | none => if .slice e' = e then appendLists e' base x [id] l [(id, .dead)] else .fail
        | _ => .fail
      | _ => .fail
    | .hdr2 id g i none => .rd id fun
      | .row2 e' l g' none => if h : e' = e then (if g = g' then appendPlain e base x (rdl (.slice e) (h ▸ l : List (List e.denote)) i) [(id, .row2 e' l g' (some i))] else .fail) else .fail
      | _ => .fail
    | _ => .fail
  | _, _ => .fail

/-- the parts of a slice literal, in the order of their places -/
def listParts (e : GTy) : List (Nat × AVal) → Nat → M (List e.denote)
  | [], _ => .ret []
  | p :: r, i => if p.1 = i then (coerce e p.2).andThen fun x => if x.2.isEmpty then (listParts e r (i + 1)).andThen fun l => .ret (x.1 :: l) else .fail else .fail

/-- own lists as parts -/
def listParts2 (e : GTy) : List (Nat × AVal) → Nat → M (List (List e.denote) × List Nat)
  | [], _ => .ret ([], [])
  | p :: r, i => if p.1 = i then (match p.2 with
      | .nilS => .ret ([], [])
      | .hdr id w => .rd id fun
        | .row e' l => if h : e' = e then .ret (view (h ▸ l) w, [id]) else .fail
        | _ => .fail
      | _ => .fail : M (List e.denote × List Nat)).andThen fun x => (listParts2 e r (i + 1)).andThen fun l => .ret (x.1 :: l.1, x.2 ++ l.2)
    else .fail

def buildSliceM (ty : Option GTy) (n : Nat) (parts : List (Nat × AVal)) (base : Nat) : M Res :=
  if parts.length = n then match ty with
  | some (.slice (.slice e)) => if n ≤ 65536 then (listParts2 e parts 0).andThen fun l => if distinct l.2 then mkRow2 base e l.1 (l.2.map fun id => (id, .dead)) else .fail else .fail
  | some (.slice e) => if n ≤ 65536 ∧ e.size ≤ 256 then (listParts e parts 0).andThen fun l => mkRow base e l [] else .fail
  | _ => .fail
  else .fail

def setParts (t : GTy) : List (Nat × AVal) → AVal → M AVal
  | [], v => .ret v
  | p :: r, v => match fldTy t p.1 with
    | some u => if p.2.shape u then setParts t r (setA p.2 v [p.1]) else .fail
    | none => .fail

def buildM (ty : Option GTy) (parts : List (Nat × AVal)) : M AVal :=
  match ty with
  | some t => if t.isAgg then setParts t parts (zeroA t) else .fail
  | none => .fail

/-! Maps. -/
def mget (k : GTy) {v : Type} : List (k.denote × v) → k.denote → Option v
  | [], _ => none
  | p :: r, x => if k.beq x p.1 then some p.2 else mget k r x
def mput (k : GTy) {v : Type} : List (k.denote × v) → k.denote → v → List (k.denote × v)
  | [], x, y => [(x, y)]
  | p :: r, x, y => if k.beq x p.1 then (x, y) :: r else p :: mput k r x y

def lookupM (mt : Option (GTy × GTy)) (m i : AVal) (ok : Bool) : M AVal :=
  match m with
  | .mref id => .rd id fun
    | .map k v l => if mt = some (k, v) then (coerce k i).andThen fun x =>
      let got := mget k l x.1
      let y := AVal.val v (got.getD v.zero)
      if ok then .ret (.tup (.cons y (.cons (.val .bool got.isSome) .nil))) else .ret y
      else .fail
    | _ => .fail
  | _ => .fail

def mapUpdateM (mt : Option (GTy × GTy)) (m i x : AVal) : M Res :=
  match m with
  | .mref id => .rd id fun
    | .map k v l => if mt = some (k, v) then (coerce k i).andThen fun a => (coerce v x).andThen fun b => if a.2.isEmpty && b.2.isEmpty then setW id (.map k v (mput k l a.1 b.1)) else .fail else .fail
    | _ => .fail
  | _ => .fail

/-! Calls. -/
def argList : List AVal → Nat → AVal
  | [], _ => .none
  | a :: r, i => match i with
    | 0 => a
    | i + 1 => argList r i

def capList : AVal → List AVal
  | .cons a b => a :: capList b
  | _ => []

def callM (E : Env) (f : AVal) (args : List AVal) (base : Nat) : M Res :=
  match f with
  | .clo fid caps => match E.fn fid with
    | some p => (p.use (argList (args ++ capList caps)) base).andThen fun r => match r.slots with
      | [(0, v)] => .ret { v, w := r.objs }
      | _ => .fail
    | none => .fail
  | _ => .fail

def minMax (mx : Bool) (xs : List AVal) : M AVal :=
  match xs with
  | .val (.int k) a :: r => go k a r
  | _ => .fail
where
  go (k : IntKind) (a : Int) : List AVal → M AVal
    | [] => .ret (.val (.int k) a)
    | .val (.int k') b :: r => if k = k' then go k (if mx then (if b > a then b else a) else (if b < a then b else a)) r else .fail
    | _ => .fail

def copyM (ty : Option GTy) (d s : AVal) : M Res :=
  match d with
  | .hdr id none => .rd id fun
    | .row e l => if ty = some (.slice e) then (coerce (.slice e) s).andThen fun y =>
      if e.flat then .ret { v := .val (.int .i64) ((min y.1.length l.length : Nat) : Int), w := [(id, .row e (y.1.take l.length ++ l.drop y.1.length))] } else .fail else .fail
    | _ => .fail
  | _ => .fail

def builtinM (b : Builtin) (mp : Bool) (tys : List (Option GTy)) (args : List AVal) (base : Nat) : M Res :=
  match b with
  | .len => match tys, args with
    | [t], [x] => (lenM t mp x).andThen retV
    | _, _ => .fail
  | .append => match tys, args with
    | [t, u], [s, x] => appendM t u s x base
    | _, _ => .fail
  | .max => (minMax true args).andThen retV
  | .min => (minMax false args).andThen retV
  | _ => .fail

def opM (E : Env) (op : Op) (ρ : Operand → AVal) (base : Nat) : M Res :=
  match op with
  | .move x => (nz (ρ x)).andThen retV
  | .assign x => (nz (ρ x)).andThen retV
  | .pick c a b => match ρ c with
    | .val .bool t => .ite t ((nz (ρ a)).andThen retV) ((nz (ρ b)).andThen retV)
    | _ => .fail
  | .alloc t => match E.ty t with
    | some g => .ret { v := .ptr base [] g, w := [(base, .box g (zeroA g))] }
    | none => .fail
  | .box t x => match E.ty t with
    | some g => if (ρ x).shape g then .ret { v := .ptr base [] g, w := [(base, .box g (ρ x))] } else .fail
    | none => .fail
  | .build t ps => (buildM (E.ty t) (ps.toList.map fun p => (p.1, ρ p.2))).andThen retV
  | .buildSlice t n ps => buildSliceM (E.ty t) n (ps.toList.map fun p => (p.1, ρ p.2)) base
  | .load t a => match E.ty t with
    | some g => (loadM (ρ a)).andThen fun v => if v.shape g then retV v else .fail
    | none => .fail
  | .store t a v => match E.ty t with
    | some g => storeM g (ρ a) (ρ v)
    | none => .fail
  | .nilCheck x => match ρ x with
    | .ptr id fs t => retV (.ptr id fs t)
    | .eptr id i fs t => retV (.eptr id i fs t)
    | .fptr t y => retV (.fptr t y)
    | .clo f c => retV (.clo f c)
    | _ => .fail
  | .binOp op t x y _ => (binM op (E.ty t) (E.eqt t) (ρ x) (ρ y)).andThen retV
  | .unOp op _ x => (unM op (ρ x)).andThen retV
  | .convert s d x => (convM (E.ty s) (E.ty d) (ρ x)).andThen retV
  | .makeFunc (.func f) first caps => if first.toList.isEmpty && caps.toList.all (fun c => match ρ c with | .none => false | .tup _ => false | _ => true) then retV (.clo f (caps.toList.foldr (fun c r => .cons (ρ c) r) .nil)) else .fail
  | .makeMap t none => match E.mty t with
    | some (k, v) => .ret { v := .mref base, w := [(base, .map k v [])] }
    | _ => .fail
  | .makeSlice t n c => makeM (E.ty t) (ρ n) (ρ c) base
  | .slice t x lo hi none => match optInt ρ lo, optInt ρ hi with
    | some lo, some hi => (sliceM (E.ty t) (ρ x) lo hi).andThen retV
    | _, _ => .fail
  | .fieldAddr t x f => match E.ty t with
    | some g => (addrFld g (ρ x) f).andThen retV
    | none => .fail
  | .field t x f => match E.ty t with
    | some g => if (ρ x).shape g then (nz ((ρ x).fld f)).andThen retV else .fail
    | none => .fail
  | .indexAddr t x i => match E.ty t with
    | some (.slice e) => (indexAddrM e (ρ x) (ρ i)).andThen retV
    | _ => .fail
  | .index t x i => match E.ty t with
    | some .str => (indexM (ρ x) (ρ i)).andThen retV
    | _ => .fail
  | .lookup t m i ok => (lookupM (E.mty t) (ρ m) (ρ i) ok).andThen retV
  | .mapUpdate t m k x => mapUpdateM (E.mty t) (ρ m) (ρ k) (ρ x)
  | .extract t i => match ρ t with
    | .tup l => (nz (l.fld i)).andThen retV
    | _ => .fail
  | .call { callee := .value f, args, .. } => callM E (ρ f) (args.toList.map ρ) base
  | .call { callee := .builtin b, args, argTypes } => builtinM b (match argTypes.toList with | t :: _ => (E.mty t).isSome | [] => false) (argTypes.toList.map E.ty) (args.toList.map ρ) base
  | _ => .fail

/-! Regions. -/
structure Log where
  reads : List Nat
  writes : List Nat

def putA (s : St) (o : Oper) (v : AVal) : Nat → AVal := match o.dst with | some d => upd s.tmps d v | none => s.tmps

/-- a later operation is guarded by this one -/
def isGuard (ops : List Oper) (i : Nat) : Bool := ops.any fun o => match o.guard with | some (j, _) => j == i | none => false

/-- a guard's value is known from here on -/
def forkM (g : Bool) (r : Res) : M Res :=
  if g then (match r.v with
    | .val .bool b => .ite b (.ret { r with v := .val .bool true }) (.ret { r with v := .val .bool false })
    | _ => .ret r) else .ret r

def goM (E : Env) (ops : List Oper) (base i : Nat) (o : Oper) (s : St) : M (St × Log) :=
  ((opM E o.op (evalA s.tmps) (base + 8 * i)).res s.objs []).andThen fun r => (forkM (isGuard ops i) r.1).andThen fun v =>
    .ret ({ s with tmps := putA s o v.v, objs := upds s.objs v.w }, { reads := r.2, writes := v.w.map (·.1) })

def skipM (o : Oper) (s : St) : M (St × Log) := .ret ({ s with tmps := putA s o (.tup .nil) }, { reads := [], writes := [] })

def stepM (E : Env) (ops : List Oper) (base : Nat) (i : Nat) (o : Oper) (s : St) : M (St × Log) :=
  if (match o.dst with | some d => decide (d < s.nt) | none => true) then
    match o.guard with
    | none => goM E ops base i o s
    | some (j, want) => match (ops[j]?).bind (·.dst) with
      | some d => match s.tmps d with
        | .val .bool b => match want with
          | true => .ite b (goM E ops base i o s) (skipM o s)
          | false => .ite b (skipM o s) (goM E ops base i o s)
        | .tup .nil => skipM o s
        | _ => .fail
      | none => .fail
  else .fail

def runOps (E : Env) (ops : List Oper) (base : Nat) : (i : Nat) → List Oper → St → List Log → M (St × List Log)
  | _, [], s, l => .ret (s, l)
  | i, o :: r, s, l => (stepM E ops base i o s).andThen fun x => runOps E ops base (i + 1) r x.1 (l ++ [x.2])

/-- what stands ahead of each operation, by the edges: a set of numbers as bits -/
def aheadM (l : List Nat) (acc : List Nat) : Nat := l.foldr (fun i m => (1 <<< i ||| acc.getD i 0) ||| m) 0
def edgesOf (o : Oper) : List Nat := (o.after.toList.filter (fun e => Region.binds .any e)).map (·.on)
def befores : List Oper → List Nat → List Nat
  | [], acc => acc
  | o :: r, acc => befores r (acc ++ [aheadM (edgesOf o) acc])

def edgesBack (ops : List Oper) : Bool := ops.zipIdx.all fun p => (edgesOf p.1).all fun e => decide (e < p.2)

def clash (a b : Log) : Bool := a.writes.any (fun x => b.reads.elem x || b.writes.elem x) || b.writes.any (fun x => a.reads.elem x)

/-- one of the two stands ahead of the other -/
def ordered (b : List Nat) (i j : Nat) : Bool := i == j || (b.getD i 0).testBit j || (b.getD j 0).testBit i

/-- as far as the text tells -/
def textFree (ops : List Oper) (b : List Nat) : Bool :=
  ops.zipIdx.all fun p => ops.zipIdx.all fun q => ordered b p.2 q.2 || p.1.apart ops.toArray q.1

def Log.any (l : Log) : Bool := !(l.reads.isEmpty && l.writes.isEmpty)

/-- as far as memory goes -/
def memFree (l : List Log) (b : List Nat) : Bool :=
  let m := l.zipIdx.filter fun p => p.1.any
  m.all fun p => m.all fun q => ordered b p.2 q.2 || !clash p.1 q.1

def orderFree (ops : List Oper) (l : List Log) : Bool := edgesBack ops && textFree ops (befores ops []) && memFree l (befores ops [])

def regionM (E : Env) (ops : List Oper) (draw : Bool) (s : St) : M St :=
  (runOps E ops s.next 0 ops s []).andThen fun x =>
    if draw then (if orderFree ops x.2 then .ret { x.1 with next := s.next + 8 * ops.length } else .fail) else .ret { x.1 with next := s.next + 8 * ops.length }

/-! Code. -/
def Piece.apply (p : Piece) (s : St) : M (Ex × St) :=
  if s.nt < p.nt then .fail else (p.use s.tmps s.next).res s.objs [] |>.andThen fun r =>
    .ret (r.1.ex, { tmps := fun t => match look r.1.slots t with | some v => v | none => if p.asg.elem t then .none else s.tmps t, objs := upds s.objs r.1.objs, next := s.next + 8, nt := s.nt })

def run (E : Env) : Code → Nat → St → M (Ex × St)
  | .skip, _, s => .ret (.normal, s)
  | .region _ ops draw, _, s => (regionM E ops.toList draw s).andThen fun s => .ret (.normal, s)
  | .seq a b, p, s => (run E a (2 * p) s).andThen fun r => match r.1 with
    | .normal => match E.pc (2 * p + 1) with
      | some pc => pc.apply r.2
      | none => run E b (2 * p + 1) r.2
    | e => .ret (e, r.2)
  | .cond c a b, p, s => match evalA s.tmps c with
    | .val .bool t => .ite t (run E a (2 * p) s) (run E b (2 * p + 1) s)
    | _ => .fail
  | .block id c, p, s => (run E c (2 * p) s).andThen fun r => match r.1 with
    | .exit j => if j = id then .ret (.normal, r.2) else .ret (.exit j, r.2)
    | e => .ret (e, r.2)
  | .loop _, p, s => match E.pc p with
    | some pc => pc.apply s
    | none => .fail
  | .scope c, p, s => run E c (2 * p) s
  | .exit id, _, s => .ret (.exit id, s)
  | .label _, _, s => .ret (.normal, s)
  | .ret, _, s => .ret (.ret, s)
  | _, _, _ => .fail

/-! The use of a template as a state, and the end of a piece. -/
def stOf (p : Piece) (x : slotsX p.slots × objsX p.objs) : St :=
  { tmps := fun t => match look (slotsMk id p.slots x.1) t with | some v => v | none => .none
    objs := upds (fun _ => .dead) (objsMk id 0 p.objs x.2)
    next := p.objs.length
    nt := p.nt }

def pinMap : Nat → List (Option Nat × OSlot) → List (Nat × Src)
  | _, [] => []
  | j, o :: r => match o.1 with
    | some i => (j, .obj i none) :: pinMap (j + 1) r
    | none => pinMap (j + 1) r

def getOut (o : Out) (f : Nat → AVal) (objs : Nat → AObj) : M o.X :=
  (((getSlots f o.slots { map := pinMap 0 o.objs, views := [] }).andThen fun x =>
    (getObjs 0 (o.objs.map (·.2)) x.2).andThen fun y => if distinct y.2.ids && y.2.views.all (fun v => !y.2.ids.elem v) && y.2.within (o.objs.map (·.2)) then .ret (x.1, y.1) else .fail).res objs []).andThen fun r => .ret r.1

/-- an exit that fits, laid into the sum -/
def inOut : (os : List Out) → Ex → (Nat → AVal) → (Nat → AObj) → M (outsX os)
  | [], _, _, _ => .fail
  | [o], e, f, g => if e = o.ex then getOut o f g else .fail
  | o :: p :: r, e, f, g => if e = o.ex then (getOut o f g).andThen fun x => .ret (.inl x) else (inOut (p :: r) e f g).andThen fun x => .ret (.inr x)

/-- at a loop's next round the pinned objects are where they were -/
def pinsSame (m : Mt) (outs : List Out) : Bool :=
  outs.all fun o => o.objs.all fun p => match p.1 with
    | none => true
    | some i => match look m.map i with
      | some (.obj j none) => j == i
      | _ => false

def againM (p : Piece) (again : slotsX p.slots × objsX p.objs → Option (outsX p.outs)) (s : St) : M (outsX p.outs) :=
  (((getSlots s.tmps p.slots { map := [], views := [] }).andThen fun x =>
    (getObjs 0 p.objs x.2).andThen fun y =>
      if y.2.ok p.outs && pinsSame y.2 p.outs && y.2.within p.objs then .ret (x.1, y.1) else .fail).res s.objs []).andThen fun x => .opt (again x.1)

/-- a loop: round and round -/
def roundM (E : Env) (p : Piece) (again : slotsX p.slots × objsX p.objs → Option (outsX p.outs)) (c : Code) (n : Nat) (x : slotsX p.slots × objsX p.objs) : M (outsX p.outs) :=
  (run E c (2 * n) (stOf p x)).andThen fun r => match r.1 with
    | .normal => againM p again r.2
    | e => inOut p.outs e r.2.tmps r.2.objs

/-- a piece of straight code -/
def segM (E : Env) (p : Piece) (c : Code) (n : Nat) (x : slotsX p.slots × objsX p.objs) : M (outsX p.outs) :=
  (run E c n (stOf p x)).andThen fun r => inOut p.outs r.1 r.2.tmps r.2.objs

/-- what a function returns -/
def resultM (E : Env) (s : St) : ResultVar → M AVal
  | .tmp t => match s.tmps t with
    | .none => .fail
    | .tup _ => .fail
    | v => .ret v
  | .cell a t => match s.tmps a with
    | .ptr id [] _ => match s.objs id with
      | .box g v => if E.ty t = some g then .ret v else .fail
      | _ => .fail
    | _ => .fail

def resultL (E : Env) (s : St) : List ResultVar → M AVal
  | [] => .ret .nil
  | r :: l => (resultM E s r).andThen fun a => (resultL E s l).andThen fun b => .ret (.cons a b)

def resultsM (E : Env) (s : St) (rs : List ResultVar) : M AVal :=
  match rs with
  | [r] => resultM E s r
  | rs => (resultL E s rs).andThen fun l => .ret (.tup l)

def funM (E : Env) (p : Piece) (rs : List ResultVar) (c : Code) (x : slotsX p.slots × objsX p.objs) : M (outsX p.outs) :=
  (run E c 1 (stOf p x)).andThen fun r => match r.1 with
    | .exit _ => .fail
    | _ => (resultsM E r.2 rs).andThen fun v => inOut p.outs .ret (fun _ => v) r.2.objs

end Go.Fw
namespace Go.Fw
open Go

/-! ### What types of the program are -/
def zMatch : GTy → List Value → Option (List Value)
  | .int k, cs => match cs with
    | .int k' n :: r => if k' = k ∧ n = 0 then some r else none
    | _ => none
  | .bool, cs => match cs with
    | .bool false :: r => some r
    | _ => none
  | .str, cs => match cs with
    | .string s :: r => if s.data.toList = [] then some r else none
    | _ => none
  | .unit, cs => some cs
  | .opq, cs => match cs with
    | v :: r => if v.oneCell' then some r else none
    | _ => none
  | .slice _, cs => match cs with
    | .slice none 0 0 :: r => some r
    | _ => none
  | .pair a b, cs => match zMatch a cs with
    | some r => zMatch b r
    | none => none

def infoOk (P : Program) (g : GTy) (t : TypeId) : Bool :=
  match P.info? t with
  | some i => i.size == g.size && decide (i.bytes ≤ 16384) && (match i.zero with
    | some z => (match z with | .agg _ => g.isAgg | .tuple _ => false | _ => !g.isAgg) && (match zMatch g z.cells.toList with | some [] => true | _ => false)
    | none => false)
  | none => false

mutual
def tyOk (P : Program) : GTy → TypeId → Bool
  | .int k, t => infoOk P (.int k) t && (match P.underlying t with | some (.int k') => decide (k' = k) | _ => false)
  | .bool, t => infoOk P .bool t && (match P.underlying t with | some .bool => true | _ => false)
  | .str, t => infoOk P .str t && (match P.underlying t with | some .string => true | _ => false)
  | .unit, t => infoOk P .unit t && (match P.underlying t with | some (.struct fs) => fs.toList.isEmpty | _ => false)
  | .opq, t => infoOk P .opq t && (match P.underlying t with
    | some (.pointer _) => true
    | some (.map _ _) => true
    | some (.func _ _ _) => true
    | some (.interface _) => true
    | _ => false)
  | .slice e, t => infoOk P (.slice e) t && (match P.underlying t with | some (.slice te) => tyOk P e te | _ => false)
  | .pair a b, t => infoOk P (.pair a b) t && (match P.underlying t with
    | some (.struct fs) => (match fs.toList with
      | f :: r => f.offset == 0 && tyOk P a f.type && fldsOk P b a.size r
      | [] => false)
    | _ => false)
def fldsOk (P : Program) : GTy → Nat → List Field → Bool
  | .unit, _, fs => fs.isEmpty
  | .pair a b, off, fs => match fs with
    | f :: r => f.offset == off && tyOk P a f.type && fldsOk P b (off + a.size) r
    | [] => false
  | _, _, _ => false
end

mutual
/-- the type's '==' is its cells' -/
def eqOk (P : Program) : GTy → TypeId → Bool
  | .pair a b, t => !P.eqGuardType P.depth t && !P.stoodInHeld t && (match P.underlying t with
    | some (.struct fs) => (match fs.toList with
      | f :: r => decide (f.name ≠ "_") && eqOk P a f.type && eqFldsOk P b r
      | [] => false)
    | _ => false)
  | .int _, _ => true
  | .bool, _ => true
  | .str, _ => true
  | _, _ => false
def eqFldsOk (P : Program) : GTy → List Field → Bool
  | .unit, fs => fs.isEmpty
  | .pair a b, fs => match fs with
    | f :: r => decide (f.name ≠ "_") && eqOk P a f.type && eqFldsOk P b r
    | [] => false
  | _, _ => false
end

def GTy.dep : GTy → Nat
  | .pair a b => max (a.dep + 1) b.dep
  | _ => 1

structure EnvTy (P : Program) (E : Env) : Prop where
  eqt : ∀ t g, E.eqt t = true → E.ty t = some g → eqOk P g t = true ∧ g.dep ≤ 10000
  ty : ∀ t g, E.ty t = some g → tyOk P g t = true
  mty : ∀ t k v, E.mty t = some (k, v) → ∃ tk tv, P.underlying t = some (.map tk tv) ∧ (tyOk P k tk = true ∧ eqOk P k tk = true ∧ k.dep ≤ 10000) ∧ (tyOk P v tv = true ∧ v.seen = true)

/-! ### What the abstract state says of the machine's -/
inductive Lb where
  | own (l : List Nat)
  | frz
  | out

inductive Kd where
  | row (e : GTy) (len b off c : Nat)
  | row2 (e : GTy) (len b off c : Nat)
  | box (t : GTy) (b : Nat)
  | map (b : Nat)

structure Gh where
  ow : Nat → Lb
  kd : Nat → Option Kd
  nd : Nat → Nat → Nat → Option (Nat × Nat × Nat × Nat)

def CellsAt (w : World) (b o : Nat) (cs : List Value) : Prop := ∀ j v, cs[j]? = some v → w.cell? ⟨b, o + j, none⟩ = some v

def RowAt {α : Type} (w : World) (sz b o : Nat) (R : α → List Value → Prop) (l : List α) : Prop :=
  ∀ i x, l[i]? = some x → ∃ cs, CellsAt w b (o + i * sz) cs ∧ R x cs

def maxL : Nat := 9223372036854775807

def RepC (w : World) (fz : Nat → Prop) : (t : GTy) → t.denote → List Value → Prop
  | .int k, x, cs => cs = [.int k x] ∧ k.has x
  | .bool, x, cs => cs = [.bool x]
  | .str, x, cs => cs = [.string x]
  | .unit, _, cs => cs = []
  | .opq, _, _ => False
  | .pair a b, x, cs => ∃ c1 c2, cs = c1 ++ c2 ∧ RepC w fz a x.1 c1 ∧ RepC w fz b x.2 c2
  | .slice e, l, cs => ∃ ad c, cs = [.slice ad (List.length l) c] ∧ List.length l ≤ c ∧ c ≤ maxL ∧
      (0 < List.length l → ∃ b o, ad = some ⟨b, o, none⟩ ∧ fz b ∧ b < w.heap.size ∧ RowAt w e.size b o (RepC w fz e) l)

def Gh.fz (G : Gh) : Nat → Prop := fun b => G.ow b = .frz

def typeAt : GTy → List Nat → Option GTy
  | .pair a b, fs => match fs with
    | [] => some (.pair a b)
    | 0 :: fs => typeAt a fs
    | (n + 1) :: fs => typeAt b (n :: fs)
  | t, fs => match fs with
    | [] => some t
    | _ => none

def offT : GTy → List Nat → Nat
  | .pair a b, fs => match fs with
    | [] => 0
    | 0 :: fs => offT a fs
    | (n + 1) :: fs => a.size + offT b (n :: fs)
  | _, _ => 0

def AVal.isAgg : AVal → Bool
  | .val t _ => t.isAgg
  | .nil => true
  | .cons _ _ => true
  | _ => false

def winOff : Option (Nat × Nat) → Nat
  | none => 0
  | some (o, _) => o
def winNum (len : Nat) : Option (Nat × Nat) → Nat
  | none => len
  | some (_, n) => n

/-- a window of a row: its header -/
def HdrIs (sz len b off c : Nat) (win : Option (Nat × Nat)) (v : Value) : Prop :=
  ∃ ad, v = .slice ad (winNum len win) (c - winOff win) ∧ winOff win + winNum len win ≤ len ∧ len ≤ c ∧ c ≤ maxL ∧
    (winOff win < c → ad = some ⟨b, off + winOff win * sz, none⟩)

def ValOf (agg : Bool) (R : List Value → Prop) (v : Value) : Prop :=
  if agg then ∃ cells : Array Value, v = .agg cells ∧ R cells.toList else R [v]

/-- md = true: the parts are values; false: they are cells -/
def RepG (G : Gh) (w : World) : AVal → Bool → List Value → Prop
  | .none, _, _ => False
  | .val t x, md, cs => md = false ∧ RepC w G.fz t x cs
  | .nilS, md, cs => md = false ∧ cs = [.slice none 0 0]
  | .hdr id win, md, cs => md = false ∧ ∃ v, cs = [v] ∧ ((∃ e len b off c, G.kd id = some (.row e len b off c) ∧ HdrIs e.size len b off c win v) ∨
      (∃ e len b off c, G.kd id = some (.row2 e len b off c) ∧ HdrIs 1 len b off c win v))
  | .hdr2 id g i win, md, cs => md = false ∧ ∃ v, cs = [v] ∧ ∃ e len b off c, G.kd id = some (.row2 e len b off c) ∧ i < len ∧
      ∃ len' b' off' c', G.nd id g i = some (len', b', off', c') ∧ HdrIs e.size len' b' off' c' win v
  | .ptr id fs t, md, cs => md = false ∧ ∃ t0 b, G.kd id = some (.box t0 b) ∧ typeAt t0 fs = some t ∧ cs = [.pointer (some ⟨b, offT t0 fs, none⟩)]
  | .eptr id i fs t, md, cs => md = false ∧ ((∃ e len b off c, G.kd id = some (.row e len b off c) ∧ i < len ∧ typeAt e fs = some t ∧ cs = [.pointer (some ⟨b, off + i * e.size + offT e fs, none⟩)]) ∨
      (∃ e len b off c, G.kd id = some (.row2 e len b off c) ∧ i < len ∧ fs = [] ∧ t = .slice e ∧ cs = [.pointer (some ⟨b, off + i, none⟩)]))
  | .eptr2 id g i j fs t, md, cs => md = false ∧ ∃ e len b off c, G.kd id = some (.row2 e len b off c) ∧ i < len ∧
      ∃ len' b' off' c', G.nd id g i = some (len', b', off', c') ∧ j < len' ∧ typeAt e fs = some t ∧ cs = [.pointer (some ⟨b', off' + j * e.size + offT e fs, none⟩)]
  | .fptr t x, md, cs => md = false ∧ ∃ b o cs', cs = [.pointer (some ⟨b, o, none⟩)] ∧ G.ow b = .frz ∧ b < w.heap.size ∧ CellsAt w b o cs' ∧ RepC w G.fz t x cs'
  | .nil, _, cs => cs = []
  | .cons a b, md, cs => match md with
    | false => ∃ c1 c2, cs = c1 ++ c2 ∧ RepG G w a false c1 ∧ RepG G w b false c2
    | true => ∃ v vs, cs = v :: vs ∧ ValOf a.isAgg (RepG G w a false) v ∧ RepG G w b true vs
  | .tup _, _, _ => False
  | .clo f c, md, cs => md = false ∧ ∃ vals : Array Value, cs = [.func (.func f) #[] vals] ∧ RepG G w c true vals.toList
  | .mref id, md, cs => md = false ∧ ∃ b, G.kd id = some (.map b) ∧ cs = [.map (some b)]
  | .opq, md, cs => md = false ∧ ∃ v, cs = [v] ∧ v.oneCell' = true

def RepT (G : Gh) (w : World) : AVal → Value → Prop
  | .none, _ => True
  | .tup l, v => ∃ vs : Array Value, v = .tuple vs ∧ RepG G w l true vs.toList
  | a, v => ValOf a.isAgg (RepG G w a false) v

/-- a block of the call's own, of cells that may be written -/
def OwnB (G : Gh) (w : World) (b : Nat) (l : List Nat) (n : Nat) : Prop :=
  G.ow b = .own l ∧ ∃ c T, w.heap[b]? = some (.cells c T (0, 0)) ∧ n ≤ c.size

def Ent (w : World) (fz : Nat → Prop) (k v : GTy) (m : k.denote × v.denote) (e : MapEntry) : Prop :=
  ValOf k.isAgg (RepC w fz k m.1) e.key ∧ ValOf v.isAgg (RepC w fz v m.2) e.val

def AllR {α β : Type} (R : α → β → Prop) : List α → List β → Prop
  | [], [] => True
  | a :: r, b :: s => R a b ∧ AllR R r s
  | _, _ => False

def RepO (G : Gh) (w : World) (id : Nat) : AObj → Prop
  | .dead => True
  | .box t v => ∃ b cs, G.kd id = some (.box t b) ∧ OwnB G w b [id] t.size ∧ CellsAt w b 0 cs ∧ RepG G w v false cs ∧ v.shape t = true
  | .row e l => ∃ b off c, G.kd id = some (.row e l.length b off c) ∧ l.length ≤ c ∧ c ≤ maxL ∧
      (0 < c → OwnB G w b [id] (off + c * e.size) ∧ RowAt w e.size b off (RepC w G.fz e) l)
  | .row2 e l g hole => ∃ b off c, G.kd id = some (.row2 e l.length b off c) ∧ l.length ≤ c ∧ c ≤ maxL ∧ (∀ g' i, g < g' → G.nd id g' i = none) ∧
      (0 < c → OwnB G w b [id] (off + c) ∧ ∀ (i : Nat) (x : List e.denote), l[i]? = some x → ∃ len b' off' c', G.nd id g i = some (len, b', off', c') ∧ len = x.length ∧
        (hole ≠ some i → ∃ v, w.cell? ⟨b, off + i, none⟩ = some v ∧ HdrIs e.size len b' off' c' none v ∧
          (0 < c' → OwnB G w b' [id, i] (off' + c' * e.size) ∧ RowAt w e.size b' off' (RepC w G.fz e) x)))
  | .map k v m => ∃ b, G.kd id = some (.map b) ∧ G.ow b = .own [id] ∧ ∃ es cl, w.heap[b]? = some (.map es cl) ∧ AllR (Ent w G.fz k v) m es.toList

structure Rel (G : Gh) (w : World) (s : St) (a : Act) : Prop where
  tmp : ∀ t, RepT G w (s.tmps t) (a.tmps.getD t undef)
  obj : ∀ id, RepO G w id (s.objs id)
  wf : ∀ id, G.kd id = none → ∀ g i, G.nd id g i = none
  nodef : a.defers = []

/-- what may become of the world and of what is known of it -/
structure Ext (G : Gh) (w : World) (G' : Gh) (w' : World) : Prop where
  os : w'.os = w.os
  tape : w'.tape = w.tape
  output : w'.output = w.output
  size : w.heap.size ≤ w'.heap.size
  kd : ∀ id k, G.kd id = some k → G'.kd id = some k
  nd : ∀ id g i x, G.nd id g i = some x → G'.nd id g i = some x
  keep : ∀ b, b < w.heap.size → (∀ l, G.ow b ≠ .own l) → w'.heap[b]? = w.heap[b]? ∧ G'.ow b = G.ow b

theorem Ext.refl (G : Gh) (w : World) : Ext G w G w := ⟨rfl, rfl, rfl, Nat.le_refl _, fun _ _ h => h, fun _ _ _ _ h => h, fun _ _ _ => ⟨rfl, rfl⟩⟩

theorem Ext.trans {G G' G'' : Gh} {w w' w'' : World} (h : Ext G w G' w') (k : Ext G' w' G'' w'') : Ext G w G'' w'' :=
  ⟨k.os.trans h.os, k.tape.trans h.tape, k.output.trans h.output, Nat.le_trans h.size k.size, fun _ _ x => k.kd _ _ (h.kd _ _ x), fun _ _ _ _ x => k.nd _ _ _ _ (h.nd _ _ _ _ x),
   fun b hb ho => by
    have h1 := h.keep b hb ho
    have h2 := k.keep b (Nat.lt_of_lt_of_le hb h.size) (by rw [h1.2]; exact ho)
    exact ⟨h2.1.trans h1.1, h2.2.trans h1.2⟩⟩

/-! ### Cells -/
theorem cell_of_heap {w w' : World} {b o : Nat} (h : w'.heap[b]? = w.heap[b]?) : w'.cell? ⟨b, o, none⟩ = w.cell? ⟨b, o, none⟩ := World.cell?_of_block (a := ⟨b, o, none⟩) h

theorem CellsAt.of_heap {w w' : World} {b o : Nat} {cs : List Value} (h : w'.heap[b]? = w.heap[b]?) (hc : CellsAt w b o cs) : CellsAt w' b o cs :=
  fun j v hj => by rw [cell_of_heap h]; exact hc j v hj

theorem RowAt.mono {α : Type} {w w' : World} {sz b o : Nat} {R R' : α → List Value → Prop} {l : List α} (h : w'.heap[b]? = w.heap[b]?)
    (hr : ∀ x cs, R x cs → R' x cs) (hc : RowAt w sz b o R l) : RowAt w' sz b o R' l :=
  fun i x hx => let ⟨cs, h1, h2⟩ := hc i x hx; ⟨cs, h1.of_heap h, hr x cs h2⟩

theorem RepC.mono {w w' : World} {fz fz' : Nat → Prop} (h : ∀ b, b < w.heap.size → fz b → fz' b ∧ w'.heap[b]? = w.heap[b]?) (hs : w.heap.size ≤ w'.heap.size) :
    ∀ (t : GTy) (x : t.denote) (cs : List Value), RepC w fz t x cs → RepC w' fz' t x cs
  | .int _, _, _, hc => hc
  | .bool, _, _, hc => hc
  | .str, _, _, hc => hc
  | .unit, _, _, hc => hc
  | .opq, _, _, hc => hc
  | .pair a b, x, cs, hc => let ⟨c1, c2, he, h1, h2⟩ := hc; ⟨c1, c2, he, RepC.mono h hs a _ _ h1, RepC.mono h hs b _ _ h2⟩
  | .slice e, l, cs, hc => by
    obtain ⟨ad, c, he, h1, h2, h3⟩ := hc
    refine ⟨ad, c, he, h1, h2, fun hl => ?_⟩
    obtain ⟨b, o, ha, hf, hb, hr⟩ := h3 hl
    exact ⟨b, o, ha, (h b hb hf).1, Nat.lt_of_lt_of_le hb hs, hr.mono (h b hb hf).2 (fun x cs hx => RepC.mono h hs e x cs hx)⟩

theorem Ext.fz {G G' : Gh} {w w' : World} (h : Ext G w G' w') : ∀ b, b < w.heap.size → G.fz b → G'.fz b ∧ w'.heap[b]? = w.heap[b]? :=
  fun b hb hf => by
    have hf' : G.ow b = .frz := hf
    have := h.keep b hb (by rw [hf']; intro l; nofun)
    exact ⟨by show G'.ow b = .frz; rw [this.2, hf'], this.1⟩

theorem Ext.repC {G G' : Gh} {w w' : World} (h : Ext G w G' w') {t : GTy} {x : t.denote} {cs : List Value} (hc : RepC w G.fz t x cs) : RepC w' G'.fz t x cs :=
  RepC.mono h.fz h.size t x cs hc

theorem RepC.len {w : World} {fz : Nat → Prop} : ∀ (t : GTy) (x : t.denote) (cs : List Value), RepC w fz t x cs → cs.length = t.size
  | .int _, _, _, hc => by rw [hc.1]; rfl
  | .bool, _, _, hc => by rw [show _ = _ from hc]; rfl
  | .str, _, _, hc => by rw [show _ = _ from hc]; rfl
  | .unit, _, _, hc => by rw [show _ = _ from hc]; rfl
  | .opq, _, _, hc => hc.elim
  | .pair a b, x, cs, hc => by
    obtain ⟨c1, c2, he, h1, h2⟩ := hc
    rw [he, List.length_append, RepC.len a _ _ h1, RepC.len b _ _ h2]; rfl
  | .slice e, l, cs, hc => by obtain ⟨ad, c, he, _⟩ := hc; rw [he]; rfl

theorem RepC.one {w : World} {fz : Nat → Prop} : ∀ (t : GTy) (x : t.denote) (cs : List Value), RepC w fz t x cs → ∀ v ∈ cs, v.oneCell' = true
  | .int _, _, _, hc => by rw [hc.1]; simp [Value.oneCell']
  | .bool, _, _, hc => by rw [show _ = _ from hc]; simp [Value.oneCell']
  | .str, _, _, hc => by rw [show _ = _ from hc]; simp [Value.oneCell']
  | .unit, _, _, hc => by rw [show _ = _ from hc]; simp
  | .opq, _, _, hc => hc.elim
  | .pair a b, x, cs, hc => by
    obtain ⟨c1, c2, he, h1, h2⟩ := hc
    rw [he]; intro v hv
    rcases List.mem_append.1 hv with hv | hv
    · exact RepC.one a _ _ h1 v hv
    · exact RepC.one b _ _ h2 v hv
  | .slice e, l, cs, hc => by obtain ⟨ad, c, he, _⟩ := hc; rw [he]; simp [Value.oneCell']

theorem ValOf.mono {b : Bool} {R R' : List Value → Prop} {v : Value} (h : ∀ cs, R cs → R' cs) (hv : ValOf b R v) : ValOf b R' v := by
  unfold ValOf at *
  split
  · rename_i hb; rw [if_pos hb] at hv; obtain ⟨c, h1, h2⟩ := hv; exact ⟨c, h1, h _ h2⟩
  · rename_i hb; rw [if_neg hb] at hv; exact h _ hv

theorem Ext.repG {G G' : Gh} {w w' : World} (h : Ext G w G' w') : ∀ (a : AVal) (md : Bool) (cs : List Value), RepG G w a md cs → RepG G' w' a md cs
  | .none, _, _, hc => hc
  | .val t x, _, _, hc => ⟨hc.1, h.repC hc.2⟩
  | .nilS, _, _, hc => hc
  | .hdr id win, _, _, hc => by
    obtain ⟨h0, v, h1, h2⟩ := hc
    refine ⟨h0, v, h1, ?_⟩
    rcases h2 with ⟨e, len, b, off, c, hk, hh⟩ | ⟨e, len, b, off, c, hk, hh⟩
    · exact .inl ⟨e, len, b, off, c, h.kd _ _ hk, hh⟩
    · exact .inr ⟨e, len, b, off, c, h.kd _ _ hk, hh⟩
  | .hdr2 id g i win, _, _, hc => by
    obtain ⟨h0, v, h1, e, len, b, off, c, hk, hi, len', b', off', c', hn, hh⟩ := hc
    exact ⟨h0, v, h1, e, len, b, off, c, h.kd _ _ hk, hi, len', b', off', c', h.nd _ _ _ _ hn, hh⟩
  | .ptr id fs t, _, _, hc => by
    obtain ⟨h0, t0, b, hk, h1⟩ := hc
    exact ⟨h0, t0, b, h.kd _ _ hk, h1⟩
  | .eptr id i fs t, _, _, hc => by
    obtain ⟨h0, h2⟩ := hc
    refine ⟨h0, ?_⟩
    rcases h2 with ⟨e, len, b, off, c, hk, hh⟩ | ⟨e, len, b, off, c, hk, hh⟩
    · exact .inl ⟨e, len, b, off, c, h.kd _ _ hk, hh⟩
    · exact .inr ⟨e, len, b, off, c, h.kd _ _ hk, hh⟩
  | .eptr2 id g i j fs t, _, _, hc => by
    obtain ⟨h0, e, len, b, off, c, hk, hi, len', b', off', c', hn, hh⟩ := hc
    exact ⟨h0, e, len, b, off, c, h.kd _ _ hk, hi, len', b', off', c', h.nd _ _ _ _ hn, hh⟩
  | .fptr t x, _, _, hc => by
    obtain ⟨h0, b, o, cs', h1, h2, h3, h4, h5⟩ := hc
    have := h.fz b h3 h2
    exact ⟨h0, b, o, cs', h1, this.1, Nat.lt_of_lt_of_le h3 h.size, h4.of_heap this.2, h.repC h5⟩
  | .nil, _, _, hc => hc
  | .cons a b, md, cs, hc => by
    cases md with
    | false =>
      obtain ⟨c1, c2, he, h1, h2⟩ := hc
      exact ⟨c1, c2, he, h.repG a _ _ h1, h.repG b _ _ h2⟩
    | true =>
      obtain ⟨v, vs, he, h1, h2⟩ := hc
      exact ⟨v, vs, he, h1.mono (fun cs hx => h.repG a _ _ hx), h.repG b _ _ h2⟩
  | .tup _, _, _, hc => hc
  | .clo f c, _, _, hc => by
    obtain ⟨h0, vals, h1, h2⟩ := hc
    exact ⟨h0, vals, h1, h.repG c _ _ h2⟩
  | .mref id, _, _, hc => by
    obtain ⟨h0, b, hk, h1⟩ := hc
    exact ⟨h0, b, h.kd _ _ hk, h1⟩
  | .opq, _, _, hc => hc

theorem Ext.repT {G G' : Gh} {w w' : World} (h : Ext G w G' w') {a : AVal} {v : Value} (hc : RepT G w a v) : RepT G' w' a v := by
  cases a <;> first
    | exact trivial
    | (obtain ⟨vs, h1, h2⟩ := hc; exact ⟨vs, h1, h.repG _ _ _ h2⟩)
    | exact ValOf.mono (fun cs hx => h.repG _ _ _ hx) hc

end Go.Fw
namespace Go.Fw
open Go

/-! ### An object that nobody touches -/
theorem OwnB.keep {G G' : Gh} {w w' : World} {b n : Nat} {l : List Nat} (h : w'.heap[b]? = w.heap[b]? ∧ G'.ow b = G.ow b) (hb : OwnB G w b l n) : OwnB G' w' b l n := by
  obtain ⟨h1, c, T, h2, h3⟩ := hb
  exact ⟨h.2.trans h1, c, T, h.1.trans h2, h3⟩

theorem OwnB.lt {G : Gh} {w : World} {b n : Nat} {l : List Nat} (hb : OwnB G w b l n) : b < w.heap.size := by
  obtain ⟨_, c, T, h2, _⟩ := hb
  rcases Nat.lt_or_ge b w.heap.size with h | h
  · exact h
  · simp [Array.getElem?_eq_none h] at h2

theorem AllR.mono {α β : Type} {R R' : α → β → Prop} (h : ∀ a b, R a b → R' a b) : ∀ {l : List α} {m : List β}, AllR R l m → AllR R' l m
  | [], [], _ => trivial
  | [], _ :: _, h0 => h0.elim
  | _ :: _, [], h0 => h0.elim
  | _ :: _, _ :: _, h0 => ⟨h _ _ h0.1, AllR.mono h h0.2⟩

theorem RepO.frame {G G' : Gh} {w w' : World} (h : Ext G w G' w') {id : Nat} (hn : ∀ g i, G'.nd id g i = G.nd id g i) (hk : ∀ b r, b < w.heap.size → G.ow b = .own (id :: r) → w'.heap[b]? = w.heap[b]? ∧ G'.ow b = G.ow b) :
    ∀ {o : AObj}, RepO G w id o → RepO G' w' id o
  | .dead, ho => ho
  | .box t v, ho => by
    obtain ⟨b, cs, h1, h2, h3, h4, h5⟩ := ho
    have hb := hk b [] h2.lt h2.1
    exact ⟨b, cs, h.kd _ _ h1, h2.keep hb, h3.of_heap hb.1, h.repG _ _ _ h4, h5⟩
  | .row e l, ho => by
    obtain ⟨b, off, c, h1, h2, h3, h4⟩ := ho
    refine ⟨b, off, c, h.kd _ _ h1, h2, h3, fun hc => ?_⟩
    obtain ⟨h5, h6⟩ := h4 hc
    have hb := hk b [] h5.lt h5.1
    exact ⟨h5.keep hb, h6.mono hb.1 (fun x cs hx => h.repC hx)⟩
  | .row2 e l g hole, ho => by
    obtain ⟨b, off, c, h1, h2, h3, hg, h4⟩ := ho
    refine ⟨b, off, c, h.kd _ _ h1, h2, h3, fun g' i hgg => by rw [hn]; exact hg g' i hgg, fun hc => ?_⟩
    obtain ⟨h5, h6⟩ := h4 hc
    have hb := hk b [] h5.lt h5.1
    refine ⟨h5.keep hb, fun i x hx => ?_⟩
    obtain ⟨len, b', off', c', h7, h8, h9⟩ := h6 i x hx
    refine ⟨len, b', off', c', h.nd _ _ _ _ h7, h8, fun hh => ?_⟩
    obtain ⟨v, h10, h11, h12⟩ := h9 hh
    refine ⟨v, (cell_of_heap hb.1).trans h10, h11, fun hc' => ?_⟩
    obtain ⟨h13, h14⟩ := h12 hc'
    have hb' := hk b' [i] h13.lt h13.1
    exact ⟨h13.keep hb', h14.mono hb'.1 (fun x cs hx => h.repC hx)⟩
  | .map k v m, ho => by
    obtain ⟨b, h1, h2, es, cl, h3, h4⟩ := ho
    have hlt : b < w.heap.size := by
      rcases Nat.lt_or_ge b w.heap.size with hh | hh
      · exact hh
      · simp [Array.getElem?_eq_none hh] at h3
    have hb := hk b [] hlt h2
    exact ⟨b, h.kd _ _ h1, hb.2.trans h2, es, cl, hb.1.trans h3, h4.mono fun a b hh => ⟨hh.1.mono fun cs hx => h.repC hx, hh.2.mono fun cs hx => h.repC hx⟩⟩

/-! ### Segments of cells -/
def Seg (cs : List Value) (o : Nat) (vs : List Value) : Prop := ∃ c1 c3, cs = c1 ++ vs ++ c3 ∧ c1.length = o

theorem Seg.cells {w : World} {b o0 o : Nat} {cs vs : List Value} (h : Seg cs o vs) (hc : CellsAt w b o0 cs) : CellsAt w b (o0 + o) vs := by
  obtain ⟨c1, c3, rfl, rfl⟩ := h
  intro j v hj
  have hlt : j < vs.length := by
    rcases Nat.lt_or_ge j vs.length with hh | hh
    · exact hh
    · simp [List.getElem?_eq_none hh] at hj
  have := hc (c1.length + j) v (by rw [List.append_assoc, List.getElem?_append_right (by omega), List.getElem?_append_left (by omega)]; simpa using hj)
  rwa [← Nat.add_assoc] at this

theorem Seg.refl (cs : List Value) : Seg cs 0 cs := ⟨[], [], by simp, rfl⟩

theorem Seg.trans {cs vs us : List Value} {o p : Nat} (h : Seg cs o vs) (k : Seg vs p us) : Seg cs (o + p) us := by
  obtain ⟨c1, c3, rfl, rfl⟩ := h
  obtain ⟨d1, d3, rfl, rfl⟩ := k
  exact ⟨c1 ++ d1, d3 ++ c3, by simp [List.append_assoc], by simp⟩

theorem Seg.len {cs vs : List Value} {o : Nat} (h : Seg cs o vs) : o + vs.length ≤ cs.length := by
  obtain ⟨c1, c3, rfl, rfl⟩ := h; simp [← Nat.add_assoc]

/-! ### Shapes -/
theorem shape_val {t u : GTy} {x : u.denote} (h : (AVal.val u x).shape t = true) : u = t := by
  cases t <;> simp [AVal.shape] at h <;> exact h

theorem shape_len {G : Gh} {w : World} : ∀ (t : GTy) (v : AVal) (cs : List Value), v.shape t = true → RepG G w v false cs → cs.length = t.size ∧ (∀ u ∈ cs, u.oneCell' = true) ∧ v.isAgg = t.isAgg
  | .pair a b, v, cs, hs, hr => by
    cases v <;> simp [AVal.shape] at hs
    case val u x =>
      subst hs
      exact ⟨RepC.len _ _ _ hr.2, RepC.one _ _ _ hr.2, rfl⟩
    case cons x y =>
      obtain ⟨c1, c2, rfl, h1, h2⟩ := hr
      have i1 := shape_len a x c1 hs.1 h1
      have i2 := shape_len b y c2 hs.2 h2
      refine ⟨by rw [List.length_append, i1.1, i2.1]; rfl, fun u hu => ?_, rfl⟩
      rcases List.mem_append.1 hu with hu | hu
      · exact i1.2.1 u hu
      · exact i2.2.1 u hu
  | .unit, v, cs, hs, hr => by
    cases v <;> simp [AVal.shape] at hs
    case val u x =>
      subst hs
      exact ⟨RepC.len _ _ _ hr.2, RepC.one _ _ _ hr.2, rfl⟩
    case nil => rw [show cs = [] from hr]; simp [GTy.size, AVal.isAgg, GTy.isAgg]
  | .slice e, v, cs, hs, hr => by
    cases v <;> simp [AVal.shape] at hs
    case val u x =>
      subst hs
      exact ⟨RepC.len _ _ _ hr.2, RepC.one _ _ _ hr.2, rfl⟩
    case nilS => rw [hr.2]; simp [GTy.size, Value.oneCell', AVal.isAgg, GTy.isAgg]
    case hdr id win =>
      obtain ⟨_, v, rfl, h⟩ := hr
      have : v.oneCell' = true := by
        rcases h with ⟨_, _, _, _, _, _, _, rfl, _⟩ | ⟨_, _, _, _, _, _, _, rfl, _⟩ <;> rfl
      simp [GTy.size, this, AVal.isAgg, GTy.isAgg]
    case hdr2 id g i win =>
      obtain ⟨_, v, rfl, _, _, _, _, _, _, _, _, _, _, _, _, _, rfl, _⟩ := hr
      simp [GTy.size, Value.oneCell', AVal.isAgg, GTy.isAgg]
  | .opq, v, cs, hs, hr => by
    cases v <;> simp [AVal.shape] at hs
    case ptr => obtain ⟨_, _, _, _, _, rfl⟩ := hr; simp [GTy.size, Value.oneCell', AVal.isAgg, GTy.isAgg]
    case eptr =>
      obtain ⟨_, h⟩ := hr
      rcases h with ⟨_, _, _, _, _, _, _, _, rfl⟩ | ⟨_, _, _, _, _, _, _, _, _, rfl⟩ <;> simp [GTy.size, Value.oneCell', AVal.isAgg, GTy.isAgg]
    case eptr2 => obtain ⟨_, _, _, _, _, _, _, _, _, _, _, _, _, _, _, rfl⟩ := hr; simp [GTy.size, Value.oneCell', AVal.isAgg, GTy.isAgg]
    case fptr => obtain ⟨_, _, _, _, rfl, _⟩ := hr; simp [GTy.size, Value.oneCell', AVal.isAgg, GTy.isAgg]
    case clo => obtain ⟨_, _, rfl, _⟩ := hr; simp [GTy.size, Value.oneCell', AVal.isAgg, GTy.isAgg]
    case mref => obtain ⟨_, _, _, rfl⟩ := hr; simp [GTy.size, Value.oneCell', AVal.isAgg, GTy.isAgg]
    case opq => obtain ⟨_, v, rfl, h⟩ := hr; simp [GTy.size, h, AVal.isAgg, GTy.isAgg]
    case val u x => subst hs; exact hr.2.elim
  | .int k, v, cs, hs, hr => by
    cases v <;> simp [AVal.shape] at hs
    case val u x => subst hs; exact ⟨RepC.len _ _ _ hr.2, RepC.one _ _ _ hr.2, rfl⟩
  | .bool, v, cs, hs, hr => by
    cases v <;> simp [AVal.shape] at hs
    case val u x => subst hs; exact ⟨RepC.len _ _ _ hr.2, RepC.one _ _ _ hr.2, rfl⟩
  | .str, v, cs, hs, hr => by
    cases v <;> simp [AVal.shape] at hs
    case val u x => subst hs; exact ⟨RepC.len _ _ _ hr.2, RepC.one _ _ _ hr.2, rfl⟩

/-! ### Fields and paths -/
theorem typeAt_cons (t : GTy) (n : Nat) (fs : List Nat) : typeAt t (n :: fs) = (fldTy t n).bind fun u => typeAt u fs := by
  induction t generalizing n with
  | pair a b iha ihb =>
    cases n with
    | zero => simp [typeAt, fldTy]
    | succ n => simp only [typeAt, fldTy]; exact ihb n
  | _ => simp [typeAt, fldTy]

theorem typeAt_nil (t : GTy) : typeAt t [] = some t := by cases t <;> simp [typeAt]
theorem offT_nil (t : GTy) : offT t [] = 0 := by cases t <;> simp [offT]

theorem offT_cons (t u : GTy) (n : Nat) (fs : List Nat) (h : fldTy t n = some u) : offT t (n :: fs) = offT t [n] + offT u fs := by
  induction t generalizing n with
  | pair a b iha ihb =>
    cases n with
    | zero => simp [fldTy] at h; subst h; simp [offT, offT_nil]
    | succ n =>
      simp only [fldTy] at h
      simp only [offT]
      rw [ihb n h]; omega
  | _ => simp [fldTy] at h

theorem shape_of_val (t : GTy) (x : t.denote) : (AVal.val t x).shape t = true := by cases t <;> simp [AVal.shape]

theorem fldT_spec {w : World} {fz : Nat → Prop} : ∀ (t u : GTy) (x : t.denote) (n : Nat) (cs : List Value), RepC w fz t x cs → fldTy t n = some u →
    ∃ y, fldT t x n = .val u y ∧ ∃ c2, Seg cs (offT t [n]) c2 ∧ RepC w fz u y c2
  | .pair a b, u, x, n, cs, hr, hf => by
    obtain ⟨c1, c2, rfl, h1, h2⟩ := hr
    cases n with
    | zero =>
      simp [fldTy] at hf; subst hf
      exact ⟨x.1, rfl, c1, ⟨[], c2, by simp, by simp [offT, offT_nil]⟩, h1⟩
    | succ n =>
      simp only [fldTy] at hf
      obtain ⟨y, h3, c3, h4, h5⟩ := fldT_spec b u x.2 n c2 h2 hf
      refine ⟨y, h3, c3, ?_, h5⟩
      obtain ⟨d1, d3, rfl, hd⟩ := h4
      exact ⟨c1 ++ d1, d3, by simp [List.append_assoc], by simp [offT, hd, RepC.len _ _ _ h1]⟩
  | .int _, _, _, _, _, _, hf => by simp [fldTy] at hf
  | .bool, _, _, _, _, _, hf => by simp [fldTy] at hf
  | .str, _, _, _, _, _, hf => by simp [fldTy] at hf
  | .unit, _, _, _, _, _, hf => by simp [fldTy] at hf
  | .opq, _, _, _, _, _, hf => by simp [fldTy] at hf
  | .slice _, _, _, _, _, _, hf => by simp [fldTy] at hf

theorem fld_spec {G : Gh} {w : World} : ∀ (t u : GTy) (v : AVal) (n : Nat) (cs : List Value), v.shape t = true → RepG G w v false cs → fldTy t n = some u →
    ∃ c2, Seg cs (offT t [n]) c2 ∧ RepG G w (v.fld n) false c2 ∧ (v.fld n).shape u = true
  | .pair a b, u, v, n, cs, hs, hr, hf => by
    cases v <;> simp [AVal.shape] at hs
    case val t' x =>
      subst hs
      obtain ⟨y, h3, c3, h4, h5⟩ := fldT_spec (.pair a b) u x n cs hr.2 hf
      refine ⟨c3, h4, ?_, ?_⟩
      · simp only [AVal.fld, h3]; exact ⟨rfl, h5⟩
      · simp only [AVal.fld, h3]; exact shape_of_val u y
    case cons x y =>
      obtain ⟨c1, c2, rfl, h1, h2⟩ := hr
      cases n with
      | zero =>
        simp [fldTy] at hf; subst hf
        exact ⟨c1, ⟨[], c2, by simp, by simp [offT, offT_nil]⟩, h1, hs.1⟩
      | succ n =>
        simp only [fldTy] at hf
        obtain ⟨c3, h4, h5, h6⟩ := fld_spec b u y n c2 hs.2 h2 hf
        refine ⟨c3, ?_, h5, h6⟩
        obtain ⟨d1, d3, rfl, hd⟩ := h4
        exact ⟨c1 ++ d1, d3, by simp [List.append_assoc], by simp [offT, hd, (shape_len a x c1 hs.1 h1).1]⟩
  | .int _, _, _, _, _, _, _, hf => by simp [fldTy] at hf
  | .bool, _, _, _, _, _, _, hf => by simp [fldTy] at hf
  | .str, _, _, _, _, _, _, hf => by simp [fldTy] at hf
  | .unit, _, _, _, _, _, _, hf => by simp [fldTy] at hf
  | .opq, _, _, _, _, _, _, hf => by simp [fldTy] at hf
  | .slice _, _, _, _, _, _, _, hf => by simp [fldTy] at hf

theorem path_spec {G : Gh} {w : World} : ∀ (fs : List Nat) (t u : GTy) (v : AVal) (cs : List Value), v.shape t = true → RepG G w v false cs → typeAt t fs = some u →
    ∃ c2, Seg cs (offT t fs) c2 ∧ RepG G w (v.path fs) false c2 ∧ (v.path fs).shape u = true
  | [], t, u, v, cs, hs, hr, hf => by
    rw [typeAt_nil] at hf; simp at hf; subst hf
    exact ⟨cs, by rw [offT_nil]; exact Seg.refl cs, hr, hs⟩
  | n :: fs, t, u, v, cs, hs, hr, hf => by
    rw [typeAt_cons] at hf
    cases h : fldTy t n with
    | none => rw [h] at hf; simp at hf
    | some t1 =>
      rw [h] at hf; simp at hf
      obtain ⟨c2, h1, h2, h3⟩ := fld_spec t t1 v n cs hs hr h
      obtain ⟨c3, h4, h5, h6⟩ := path_spec fs t1 u (v.fld n) c2 h3 h2 hf
      exact ⟨c3, by rw [offT_cons t t1 n fs h]; exact h1.trans h4, h5, h6⟩

/-! ### A part laid anew -/
def lay (cs : List Value) (o : Nat) (vs : List Value) : List Value := cs.take o ++ vs ++ cs.drop (o + vs.length)

theorem lay_all {cs vs : List Value} (h : vs.length = cs.length) : lay cs 0 vs = vs := by
  simp [lay, h]

theorem lay_left {c1 c2 vs : List Value} {o : Nat} (h : o + vs.length ≤ c1.length) : lay (c1 ++ c2) o vs = lay c1 o vs ++ c2 := by
  simp only [lay]
  rw [List.take_append_of_le_length (by omega), List.drop_append_of_le_length (by omega)]
  simp [List.append_assoc]

theorem lay_right {c1 c2 vs : List Value} {o : Nat} : lay (c1 ++ c2) (c1.length + o) vs = c1 ++ lay c2 o vs := by
  simp only [lay]
  rw [List.take_length_add_append, Nat.add_assoc, List.drop_length_add_append]
  simp [List.append_assoc]

theorem typeAt_fits : ∀ (t u : GTy) (fs : List Nat), typeAt t fs = some u → offT t fs + u.size ≤ t.size
  | .pair a b, u, fs, h => by
    match fs with
    | [] => simp [typeAt] at h; subst h; simp [offT]
    | 0 :: fs => simp only [typeAt] at h; have := typeAt_fits a u fs h; simp only [offT, GTy.size]; omega
    | (n + 1) :: fs => simp only [typeAt] at h; have := typeAt_fits b u (n :: fs) h; simp only [offT, GTy.size]; omega
  | .int _, u, fs, h => by cases fs <;> simp [typeAt] at h; subst h; simp [offT]
  | .bool, u, fs, h => by cases fs <;> simp [typeAt] at h; subst h; simp [offT]
  | .str, u, fs, h => by cases fs <;> simp [typeAt] at h; subst h; simp [offT]
  | .unit, u, fs, h => by cases fs <;> simp [typeAt] at h; subst h; simp [offT]
  | .opq, u, fs, h => by cases fs <;> simp [typeAt] at h; subst h; simp [offT]
  | .slice _, u, fs, h => by cases fs <;> simp [typeAt] at h; subst h; simp [offT]

theorem setT_spec {G : Gh} {w : World} (v : AVal) (vs : List Value) (u : GTy) (hv : v.shape u = true) (hvr : RepG G w v false vs) :
    ∀ (t : GTy) (fs : List Nat) (x : t.denote) (cs : List Value), RepC w G.fz t x cs → typeAt t fs = some u →
      (setT v t fs x).shape t = true ∧ RepG G w (setT v t fs x) false (lay cs (offT t fs) vs)
  | .pair a b, fs, x, cs, hr, hf => by
    have hl := (shape_len u v vs hv hvr).1
    match fs with
    | [] =>
      simp [typeAt] at hf; subst hf
      simp only [setT, offT]
      exact ⟨hv, by rw [lay_all (by rw [hl, RepC.len _ _ _ hr])]; exact hvr⟩
    | 0 :: fs =>
      obtain ⟨c1, c2, rfl, h1, h2⟩ := hr
      simp only [typeAt] at hf
      have ih := setT_spec v vs u hv hvr a fs x.1 c1 h1 hf
      have hfit := typeAt_fits a u fs hf
      simp only [setT, offT]
      rw [lay_left (by rw [hl, RepC.len _ _ _ h1]; exact hfit)]
      exact ⟨by simp only [AVal.shape, ih.1, shape_of_val, Bool.and_self], _, _, rfl, ih.2, rfl, h2⟩
    | (n + 1) :: fs =>
      obtain ⟨c1, c2, rfl, h1, h2⟩ := hr
      simp only [typeAt] at hf
      have ih := setT_spec v vs u hv hvr b (n :: fs) x.2 c2 h2 hf
      simp only [setT, offT]
      rw [← RepC.len _ _ _ h1, lay_right]
      exact ⟨by simp only [AVal.shape, ih.1, shape_of_val, Bool.and_self], _, _, rfl, ⟨rfl, h1⟩, ih.2⟩
  | .int k, fs, x, cs, hr, hf => by
    cases fs <;> simp [typeAt] at hf
    subst hf
    simp only [setT, offT]
    exact ⟨hv, by rw [lay_all (by rw [(shape_len _ v vs hv hvr).1, RepC.len _ _ _ hr])]; exact hvr⟩
  | .bool, fs, x, cs, hr, hf => by
    cases fs <;> simp [typeAt] at hf
    subst hf
    simp only [setT, offT]
    exact ⟨hv, by rw [lay_all (by rw [(shape_len _ v vs hv hvr).1, RepC.len _ _ _ hr])]; exact hvr⟩
  | .str, fs, x, cs, hr, hf => by
    cases fs <;> simp [typeAt] at hf
    subst hf
    simp only [setT, offT]
    exact ⟨hv, by rw [lay_all (by rw [(shape_len _ v vs hv hvr).1, RepC.len _ _ _ hr])]; exact hvr⟩
  | .unit, fs, x, cs, hr, hf => by
    cases fs <;> simp [typeAt] at hf
    subst hf
    simp only [setT, offT]
    exact ⟨hv, by rw [lay_all (by rw [(shape_len _ v vs hv hvr).1, RepC.len _ _ _ hr])]; exact hvr⟩
  | .opq, fs, x, cs, hr, hf => hr.elim
  | .slice e, fs, x, cs, hr, hf => by
    cases fs <;> simp [typeAt] at hf
    subst hf
    simp only [setT, offT]
    exact ⟨hv, by rw [lay_all (by rw [(shape_len _ v vs hv hvr).1, RepC.len _ _ _ hr])]; exact hvr⟩

theorem setT_nil (v : AVal) (t : GTy) (x : t.denote) : setT v t [] x = v := by cases t <;> simp [setT]
theorem setA_nil (v c : AVal) : setA v c [] = v := by
  cases c
  case val t x => exact setT_nil v t x
  all_goals simp [setA]

theorem setA_spec {G : Gh} {w : World} (v : AVal) (vs : List Value) (u : GTy) (hv : v.shape u = true) (hvr : RepG G w v false vs) :
    ∀ (t : GTy) (c : AVal) (fs : List Nat) (cs : List Value), c.shape t = true → RepG G w c false cs → typeAt t fs = some u →
      (setA v c fs).shape t = true ∧ RepG G w (setA v c fs) false (lay cs (offT t fs) vs)
  | t, c, [], cs, hs, hr, hf => by
    have hl := (shape_len u v vs hv hvr).1
    have hcl := (shape_len t c cs hs hr).1
    rw [typeAt_nil] at hf; simp at hf; subst hf
    have he : setA v c [] = v := setA_nil v c
    rw [he, offT_nil, lay_all (by omega)]
    exact ⟨hv, hvr⟩
  | .pair a b, c, n :: fs, cs, hs, hr, hf => by
    cases c <;> simp [AVal.shape] at hs
    case val t' x =>
      subst hs
      exact setT_spec v vs u hv hvr _ _ x cs hr.2 hf
    case cons x y =>
      have hl := (shape_len u v vs hv hvr).1
      obtain ⟨c1, c2, rfl, h1, h2⟩ := hr
      have hl1 := (shape_len a x c1 hs.1 h1).1
      cases n with
      | zero =>
        simp only [typeAt] at hf
        have ih := setA_spec v vs u hv hvr a x fs c1 hs.1 h1 hf
        have hfit := typeAt_fits a u fs hf
        simp only [setA, offT]
        rw [lay_left (by rw [hl, hl1]; exact hfit)]
        exact ⟨by simp only [AVal.shape, ih.1, hs.2, Bool.and_self], _, _, rfl, ih.2, h2⟩
      | succ n =>
        simp only [typeAt] at hf
        have ih := setA_spec v vs u hv hvr b y (n :: fs) c2 hs.2 h2 hf
        simp only [setA, offT]
        rw [← hl1, lay_right]
        exact ⟨by simp only [AVal.shape, ih.1, hs.1, Bool.and_self], _, _, rfl, h1, ih.2⟩
  | .int _, _, _ :: _, _, _, _, hf => by simp [typeAt] at hf
  | .bool, _, _ :: _, _, _, _, hf => by simp [typeAt] at hf
  | .str, _, _ :: _, _, _, _, hf => by simp [typeAt] at hf
  | .unit, _, _ :: _, _, _, _, hf => by simp [typeAt] at hf
  | .opq, _, _ :: _, _, _, _, hf => by simp [typeAt] at hf
  | .slice _, _, _ :: _, _, _, _, hf => by simp [typeAt] at hf

theorem putT_spec {w : World} {fz : Nat → Prop} (u : GTy) (y : u.denote) (vs : List Value) (hvr : RepC w fz u y vs) :
    ∀ (t : GTy) (fs : List Nat) (x z : t.denote) (cs : List Value), RepC w fz t x cs → typeAt t fs = some u → putT u y t fs x = some z →
      RepC w fz t z (lay cs (offT t fs) vs)
  | t, [], x, z, cs, hr, hf, hp => by
    rw [typeAt_nil] at hf; simp at hf; subst hf
    have hz : z = y := by cases t <;> simp [putT] at hp <;> first | exact hp.symm | rfl
    subst hz
    rw [offT_nil, lay_all (by rw [RepC.len _ _ _ hvr, RepC.len _ _ _ hr])]
    exact hvr
  | .pair a b, n :: fs, x, z, cs, hr, hf, hp => by
    have hl := RepC.len _ _ _ hvr
    obtain ⟨c1, c2, rfl, h1, h2⟩ := hr
    have hl1 := RepC.len _ _ _ h1
    cases n with
    | zero =>
      simp only [typeAt] at hf
      simp only [putT] at hp
      cases h : putT u y a fs x.1 with
      | none => simp [h] at hp
      | some q =>
        rw [h] at hp; simp at hp; subst hp
        have ih := putT_spec u y vs hvr a fs x.1 q c1 h1 hf h
        have hfit := typeAt_fits a u fs hf
        simp only [offT]
        rw [lay_left (by rw [hl, hl1]; exact hfit)]
        exact ⟨_, _, rfl, ih, h2⟩
    | succ n =>
      simp only [typeAt] at hf
      simp only [putT] at hp
      cases h : putT u y b (n :: fs) x.2 with
      | none => simp [h] at hp
      | some q =>
        rw [h] at hp; simp at hp; subst hp
        have ih := putT_spec u y vs hvr b (n :: fs) x.2 q c2 h2 hf h
        simp only [offT]
        rw [← hl1, lay_right]
        exact ⟨_, _, rfl, h1, ih⟩
  | .int _, _ :: _, _, _, _, _, hf, _ => by simp [typeAt] at hf
  | .bool, _ :: _, _, _, _, _, hf, _ => by simp [typeAt] at hf
  | .str, _ :: _, _, _, _, _, hf, _ => by simp [typeAt] at hf
  | .unit, _ :: _, _, _, _, _, hf, _ => by simp [typeAt] at hf
  | .opq, _ :: _, _, _, _, _, hf, _ => by simp [typeAt] at hf
  | .slice _, _ :: _, _, _, _, _, hf, _ => by simp [typeAt] at hf

end Go.Fw
namespace Go.Fw
open Go

/-! ### What a tree comes to, the objects known -/
def M.ev {α : Type} (objs : Nat → AObj) : M α → Option α
  | .ret a => some a
  | .fail => none
  | .ite b x y => if b then x.ev objs else y.ev objs
  | .bind m k => m.bind fun x => (k x).ev objs
  | .case y g h => match y with | .inl a => (g a).ev objs | .inr b => (h b).ev objs
  | .rd id k => (k (objs id)).ev objs
  | .opt m => m

section
variable {α β : Type} {objs : Nat → AObj}
theorem ev_andThen (m : M α) (f : α → M β) : (m.andThen f).ev objs = (m.ev objs).bind fun a => (f a).ev objs := by
  induction m with
  | ret a => rfl
  | fail => rfl
  | ite b x y ihx ihy => simp only [M.andThen, M.ev]; split <;> assumption
  | bind m k ih =>
    simp only [M.andThen, M.ev]
    cases m with
    | none => rfl
    | some x => exact ih x
  | case y g h ihg ihh =>
    cases y with
    | inl a => exact ihg a
    | inr b => exact ihh b
  | rd id k ih => exact ih _
  | opt m => cases m <;> rfl

theorem ev_some {m : M α} {f : α → M β} {b : β} (h : (m.andThen f).ev objs = some b) : ∃ a, m.ev objs = some a ∧ (f a).ev objs = some b := by
  rw [ev_andThen] at h
  cases hm : m.ev objs with
  | none => simp [hm] at h
  | some a => exact ⟨a, rfl, by simpa [hm] using h⟩

theorem ev_ite {b : Bool} {x y : M α} {r : α} (h : (M.ite b x y).ev objs = some r) : (b = true ∧ x.ev objs = some r) ∨ (b = false ∧ y.ev objs = some r) := by
  simp only [M.ev] at h
  cases b
  · exact .inr ⟨rfl, by simpa using h⟩
  · exact .inl ⟨rfl, by simpa using h⟩

/-- the tree with the objects laid in: the same, and what was read -/
theorem res_eval (m : M α) : ∀ (l : List Nat), (m.res objs l).eval.map (·.1) = m.ev objs := by
  induction m with
  | ret a => intro l; rfl
  | fail => intro l; rfl
  | ite b x y ihx ihy => intro l; simp only [M.res, M.eval, M.ev]; split; exact ihx l; exact ihy l
  | bind m k ih =>
    intro l
    cases m with
    | none => rfl
    | some x => exact ih x l
  | case y g h ihg ihh =>
    intro l
    cases y with
    | inl a => exact ihg a l
    | inr b => exact ihh b l
  | rd id k ih => intro l; exact ih _ _
  | opt m => intro l; cases m <;> rfl

theorem res_ev {m : M α} {l l' : List Nat} {a : α} (h : (m.res objs l).eval = some (a, l')) : m.ev objs = some a := by
  rw [← res_eval m l, h]; rfl

theorem res_sub (m : M α) : ∀ (l l' : List Nat) (a : α), (m.res objs l).eval = some (a, l') → ∀ x ∈ l, x ∈ l' := by
  induction m with
  | ret a => intro l l' b h; simp [M.res, M.eval] at h; obtain ⟨_, rfl⟩ := h; exact fun x hx => hx
  | fail => intro l l' b h; simp [M.res, M.eval] at h
  | ite b x y ihx ihy =>
    intro l l' a h
    simp only [M.res, M.eval] at h
    split at h
    · exact ihx l l' a h
    · exact ihy l l' a h
  | bind m k ih =>
    intro l l' a h
    cases m with
    | none => simp [M.res, M.eval] at h
    | some x => exact ih x l l' a h
  | case y g h ihg ihh =>
    intro l l' a hh
    cases y with
    | inl a' => exact ihg a' l l' a hh
    | inr b => exact ihh b l l' a hh
  | rd id k ih => intro l l' a h x hx; exact ih _ (id :: l) l' a h x (List.mem_cons_of_mem _ hx)
  | opt m =>
    intro l l' a h
    cases m with
    | none => simp [M.res, M.eval] at h
    | some x => simp [M.res, M.eval] at h; obtain ⟨_, rfl⟩ := h; exact fun x hx => hx

/-- only what is read matters -/
theorem res_congr {objs' : Nat → AObj} (m : M α) : ∀ (l l' : List Nat) (a : α), (m.res objs l).eval = some (a, l') → (∀ x ∈ l', objs' x = objs x) → (m.res objs' l).eval = some (a, l') := by
  induction m with
  | ret a => intro l l' b h _; exact h
  | fail => intro l l' b h _; exact h
  | ite b x y ihx ihy =>
    intro l l' a h hx
    simp only [M.res, M.eval] at h ⊢
    split
    · rename_i hb; rw [if_pos hb] at h; exact ihx l l' a h hx
    · rename_i hb; rw [if_neg hb] at h; exact ihy l l' a h hx
  | bind m k ih =>
    intro l l' a h hx
    cases m with
    | none => simp [M.res, M.eval] at h
    | some x => exact ih x l l' a h hx
  | case y g h ihg ihh =>
    intro l l' a hh hx
    cases y with
    | inl a' => exact ihg a' l l' a hh hx
    | inr b => exact ihh b l l' a hh hx
  | rd id k ih =>
    intro l l' a h hx
    have hm : id ∈ l' := res_sub (k (objs id)) (id :: l) l' a h id (List.mem_cons_self ..)
    simp only [M.res]
    rw [hx id hm]
    exact ih _ (id :: l) l' a h hx
  | opt m => intro l l' a h _; exact h
end

/-! ### Windows -/
theorem view_get {α : Type} (l : List α) (win : Option (Nat × Nat)) (i : Nat) (x : α) (h : (view l win)[i]? = some x) : l[i + winOff win]? = some x := by
  match win with
  | none => simpa [view, winOff] using h
  | some (0, n) =>
    simp only [view] at h
    rw [List.getElem?_take] at h
    split at h
    · simpa [winOff] using h
    · simp at h
  | some (o + 1, n) =>
    simp only [view] at h
    rw [List.getElem?_take] at h
    split at h
    · rw [List.getElem?_drop] at h; rw [Nat.add_comm]; exact h
    · simp at h

theorem view_len {α : Type} (l : List α) (win : Option (Nat × Nat)) (h : winOff win + winNum l.length win ≤ l.length) : (view l win).length = winNum l.length win := by
  match win, h with
  | none, _ => simp [view, winNum]
  | some (0, n), h => simp only [view, winNum, winOff] at h ⊢; simp; omega
  | some (o + 1, n), h => simp only [view, winNum, winOff] at h ⊢; simp; omega

theorem RowAt.view {α : Type} {w : World} {sz b off : Nat} {R : α → List Value → Prop} {l : List α} (h : RowAt w sz b off R l) (win : Option (Nat × Nat)) :
    RowAt w sz b (off + winOff win * sz) R (view l win) := by
  intro i x hx
  have := h _ x (view_get l win i x hx)
  obtain ⟨cs, h1, h2⟩ := this
  refine ⟨cs, ?_, h2⟩
  rw [Nat.add_mul, Nat.add_comm (i * sz), ← Nat.add_assoc] at h1
  exact h1

/-- blocks that are read as plain data: what is frozen, and the blocks of some objects -/
def Gh.fzV (G : Gh) (ids : List Nat) : Nat → Prop := fun b => G.ow b = .frz ∨ ∃ id r, id ∈ ids ∧ G.ow b = .own (id :: r)

theorem RepC.more {w : World} {fz fz' : Nat → Prop} {t : GTy} {x : t.denote} {cs : List Value} (h : ∀ b, fz b → fz' b) (hc : RepC w fz t x cs) : RepC w fz' t x cs :=
  RepC.mono (fun b _ hb => ⟨h b hb, rfl⟩) (Nat.le_refl _) t x cs hc

theorem repC_nil {w : World} {fz : Nat → Prop} (e : GTy) : RepC w fz (.slice e) [] [.slice none 0 0] :=
  ⟨none, 0, rfl, Nat.le_refl _, Nat.zero_le _, fun h => absurd h (Nat.lt_irrefl 0)⟩

/-- a header of a row reads as a list -/
theorem hdr_repC {w : World} {fz : Nat → Prop} {e : GTy} {l : List e.denote} {b off c : Nat} {win : Option (Nat × Nat)} {v : Value}
    (hh : HdrIs e.size l.length b off c win v) (hb : 0 < c → fz b ∧ b < w.heap.size ∧ RowAt w e.size b off (RepC w fz e) l) :
    RepC w fz (.slice e) (view l win) [v] := by
  obtain ⟨ad, rfl, h1, h2, h3, h4⟩ := hh
  have hvl := view_len l win h1
  refine ⟨ad, c - winOff win, by rw [hvl], by rw [hvl]; omega, by simp only [maxL] at *; omega, fun hl => ?_⟩
  rw [hvl] at hl
  obtain ⟨h5, h6, h7⟩ := hb (by omega)
  exact ⟨b, off + winOff win * e.size, h4 (by omega), h5, h6, h7.view win⟩

theorem coerce_spec {G : Gh} {w : World} {objs : Nat → AObj} (ho : ∀ id, RepO G w id (objs id)) :
    ∀ (t : GTy) (v : AVal) (x : t.denote) (ids : List Nat) (cs : List Value), RepG G w v false cs → (coerce t v).ev objs = some (x, ids) →
      RepC w (G.fzV ids) t x cs := by
  intro t
  induction t with
  | int k =>
    intro v x ids cs hr he
    cases v <;> simp [coerce, M.ev] at he
    case val t' y =>
      split at he <;> simp [M.ev] at he
      rename_i h; subst h; obtain ⟨rfl, rfl⟩ := he
      exact hr.2.more fun b hb => .inl hb
  | bool =>
    intro v x ids cs hr he
    cases v <;> simp [coerce, M.ev] at he
    case val t' y =>
      split at he <;> simp [M.ev] at he
      rename_i h; subst h; obtain ⟨rfl, rfl⟩ := he
      exact hr.2.more fun b hb => .inl hb
  | str =>
    intro v x ids cs hr he
    cases v <;> simp [coerce, M.ev] at he
    case val t' y =>
      split at he <;> simp [M.ev] at he
      rename_i h; subst h; obtain ⟨rfl, rfl⟩ := he
      exact hr.2.more fun b hb => .inl hb
  | opq =>
    intro v x ids cs hr he
    cases v <;> simp [coerce, M.ev] at he
    case val t' y =>
      split at he <;> simp [M.ev] at he
      rename_i h; subst h
      exact hr.2.elim
  | unit =>
    intro v x ids cs hr he
    cases v <;> simp [coerce, M.ev] at he
    case val t' y =>
      split at he <;> simp [M.ev] at he
      rename_i h; subst h; 
      exact hr.2.more fun b hb => .inl hb
    case nil => exact hr
  | pair a b iha ihb =>
    intro v x ids cs hr he
    cases v <;> simp [coerce, M.ev] at he
    case val t' y =>
      split at he <;> simp [M.ev] at he
      rename_i h; subst h; obtain ⟨rfl, rfl⟩ := he
      exact hr.2.more fun b hb => .inl hb
    case cons p q =>
      obtain ⟨r1, h1, he⟩ := ev_some he
      obtain ⟨r2, h2, he⟩ := ev_some he
      simp [M.ev] at he
      obtain ⟨rfl, rfl⟩ := he
      obtain ⟨c1, c2, rfl, hc1, hc2⟩ := hr
      refine ⟨c1, c2, rfl, (iha p r1.1 r1.2 c1 hc1 h1).more ?_, (ihb q r2.1 r2.2 c2 hc2 h2).more ?_⟩
      · rintro b (hb | ⟨id, r, hm, hb⟩)
        · exact .inl hb
        · exact .inr ⟨id, r, List.mem_append_left _ hm, hb⟩
      · rintro b (hb | ⟨id, r, hm, hb⟩)
        · exact .inl hb
        · exact .inr ⟨id, r, List.mem_append_right _ hm, hb⟩
  | slice e ih =>
    intro v x ids cs hr he
    cases v <;> simp [coerce, M.ev] at he
    case val t' y =>
      split at he <;> simp [M.ev] at he
      rename_i h; subst h; obtain ⟨rfl, rfl⟩ := he
      exact hr.2.more fun b hb => .inl hb
    case nilS =>
      obtain ⟨rfl, rfl⟩ := he
      rw [hr.2]; exact repC_nil e
    case hdr id win =>
      have hoid := ho id
      obtain ⟨_, v, rfl, hh⟩ := hr
      split at he
      · -- row
        rename_i e' l hobj
        rw [hobj] at hoid
        split at he <;> simp [M.ev] at he
        rename_i h; subst h; obtain ⟨rfl, rfl⟩ := he
        obtain ⟨b, off, c, hk, h1, h2, h3⟩ := hoid
        rcases hh with ⟨e2, len, b2, off2, c2, hk2, hh⟩ | ⟨e2, len, b2, off2, c2, hk2, hh⟩
        · rw [hk] at hk2; simp at hk2; obtain ⟨rfl, rfl, rfl, rfl, rfl⟩ := hk2
          refine hdr_repC hh fun hc => ?_
          obtain ⟨h5, h6⟩ := h3 hc
          exact ⟨.inr ⟨id, [], by simp, h5.1⟩, h5.lt, h6.mono rfl fun x cs hx => hx.more fun b hb => .inl hb⟩
        · rw [hk] at hk2; simp at hk2
      · -- row2
        rename_i e' l g hobj
        rw [hobj] at hoid
        cases e <;> simp [M.ev] at he
        case slice e1 =>
          split at he <;> simp [M.ev] at he
          rename_i h; subst h; obtain ⟨rfl, rfl⟩ := he
          obtain ⟨b, off, c, hk, h1, h2, _, h3⟩ := hoid
          rcases hh with ⟨e2, len, b2, off2, c2, hk2, hh⟩ | ⟨e2, len, b2, off2, c2, hk2, hh⟩
          · rw [hk] at hk2; simp at hk2
          · rw [hk] at hk2; simp at hk2; obtain ⟨rfl, rfl, rfl, rfl, rfl⟩ := hk2
            refine hdr_repC (e := .slice e') hh fun hc => ?_
            obtain ⟨h5, h6⟩ := h3 hc
            refine ⟨.inr ⟨id, [], by simp, h5.1⟩, h5.lt, fun i x hx => ?_⟩
            obtain ⟨len, b', off', c', h7, h8, h9⟩ := h6 i x hx
            obtain ⟨v', h10, h11, h12⟩ := h9 (by simp)
            subst h8
            refine ⟨[v'], fun j u hj => ?_, ?_⟩
            · cases j with
              | zero => simp at hj; subst hj; simpa [GTy.size] using h10
              | succ j => simp at hj
            · refine hdr_repC (win := none) h11 fun hc' => ?_
              obtain ⟨h13, h14⟩ := h12 hc'
              exact ⟨.inr ⟨id, [i], by simp, h13.1⟩, h13.lt, h14.mono rfl fun x cs hx => hx.more fun b hb => .inl hb⟩
      · simp [M.ev] at he
    case hdr2 id g i win =>
      have hoid := ho id
      obtain ⟨_, v, rfl, e2, len, b, off, c, hk2, hi, len', b', off', c', hn, hh⟩ := hr
      split at he
      · rename_i e' l g' hobj
        rw [hobj] at hoid
        split at he
        · rename_i h; subst h
          split at he <;> simp [M.ev] at he
          rename_i hg; subst hg
          obtain ⟨rfl, rfl⟩ := he
          obtain ⟨b2, off2, c2, hk, h1, h2, _, h3⟩ := hoid
          rw [hk] at hk2; simp at hk2; obtain ⟨rfl, rfl, rfl, rfl, rfl⟩ := hk2
          obtain ⟨h5, h6⟩ := h3 (by omega)
          have hget : l[i]? = some l[i] := List.getElem?_eq_getElem hi
          obtain ⟨len2, b3, off3, c3, h7, h8, h9⟩ := h6 i _ hget
          rw [hn] at h7; simp at h7; obtain ⟨rfl, rfl, rfl, rfl⟩ := h7
          obtain ⟨v', h10, h11, h12⟩ := h9 (by simp)
          have hrd : rdl (.slice e') l i = l[i] := by simp [rdl, List.getD, hget]
          rw [hrd]
          subst h8
          refine hdr_repC hh fun hc' => ?_
          obtain ⟨h13, h14⟩ := h12 hc'
          exact ⟨.inr ⟨id, [i], by simp, h13.1⟩, h13.lt, h14.mono rfl fun x cs hx => hx.more fun b hb => .inl hb⟩
        · simp [M.ev] at he
      · simp [M.ev] at he

end Go.Fw
namespace Go.Fw
open Go

/-! ### What the types' table says -/
theorem infoOk_of {P : Program} {g : GTy} {t : TypeId} (h : tyOk P g t = true) : infoOk P g t = true := by
  cases g <;> simp only [tyOk, Bool.and_eq_true] at h <;> exact h.1

theorem infoOk_info {P : Program} {g : GTy} {t : TypeId} (h : infoOk P g t = true) : ∃ i z, P.info? t = some i ∧ i.size = g.size ∧ i.bytes ≤ 16384 ∧ i.zero = some z ∧
    (match z with | .agg _ => g.isAgg = true | .tuple _ => False | _ => g.isAgg = false) ∧ zMatch g z.cells.toList = some [] := by
  unfold infoOk at h
  split at h
  · rename_i i hi
    simp only [Bool.and_eq_true] at h
    obtain ⟨⟨h1, h2⟩, h3⟩ := h
    split at h3
    · rename_i z hz
      simp only [Bool.and_eq_true] at h3
      refine ⟨i, z, hi, by simpa using h1, by simpa using h2, hz, ?_, ?_⟩
      · cases z <;> simp at h3 ⊢ <;> first | exact h3.1 | skip
      · have := h3.2
        split at this
        · assumption
        · simp at this
    · simp at h3
  · simp at h

theorem ty_info {P : Program} {g : GTy} {t : TypeId} (h : tyOk P g t = true) : ∃ i, P.info? t = some i ∧ i.size = g.size ∧ i.bytes ≤ 16384 :=
  let ⟨i, _, h1, h2, h3, _⟩ := infoOk_info (infoOk_of h); ⟨i, h1, h2, h3⟩

theorem run_sizeOf {P : Program} {g : GTy} {t : TypeId} (h : tyOk P g t = true) (w : World) : (sizeOf t).run P w = .ok g.size w := by
  obtain ⟨i, h1, h2, _⟩ := ty_info h
  simp [sizeOf, typeInfo, h1, h2]

theorem run_isAgg {P : Program} {g : GTy} {t : TypeId} (h : tyOk P g t = true) (w : World) : (isAgg t).run P w = .ok g.isAgg w := by
  have key : ∃ d, P.underlying t = some d ∧ (match d with | .struct _ | .array _ _ => true | _ => false) = g.isAgg := by
    cases g <;> simp only [tyOk, Bool.and_eq_true] at h <;> (obtain ⟨_, h⟩ := h; split at h <;> first | contradiction | (rename_i hu; exact ⟨_, hu, rfl⟩))
  obtain ⟨d, hd, hg⟩ := key
  unfold isAgg
  rw [Sem.run_bind, run_underlying hd]
  rw [← hg]
  cases d <;> rfl

/-! ### Values and their cells -/
theorem ValOf.cells {agg : Bool} {R : List Value → Prop} {v : Value} (h : ValOf agg R v) (h1 : ∀ cs, R cs → ∀ u ∈ cs, u.oneCell' = true) : R v.cells.toList := by
  unfold ValOf at h
  split at h
  · obtain ⟨cells, rfl, hr⟩ := h; exact hr
  · have := h1 _ h v (by simp)
    cases v <;> first | exact h | simp [Value.oneCell'] at this

theorem ValOf.mk {agg : Bool} {R : List Value → Prop} {cs : List Value} (h : R cs) (hl : agg = false → ∃ v, cs = [v]) :
    ∃ v, (if agg then v = .agg cs.toArray else cs = [v]) ∧ ValOf agg R v := by
  cases agg with
  | true => exact ⟨_, rfl, ⟨_, rfl, by simpa using h⟩⟩
  | false => obtain ⟨v, rfl⟩ := hl rfl; exact ⟨v, by simp, by simpa [ValOf] using h⟩

theorem size_notAgg : ∀ (g : GTy), g.isAgg = false → g.size = 1
  | .int _, _ => rfl
  | .bool, _ => rfl
  | .str, _ => rfl
  | .opq, _ => rfl
  | .slice _, _ => rfl
  | .unit, h => by simp [GTy.isAgg] at h
  | .pair _ _, h => by simp [GTy.isAgg] at h

theorem run_loadVar {P : Program} {g : GTy} {t : TypeId} (h : tyOk P g t = true) {w : World} {b o : Nat} {cs : List Value} (hc : CellsAt w b o cs) (hl : cs.length = g.size) :
    ∃ v, (loadVar t ⟨b, o, none⟩).run P w = .ok v w ∧ ∀ R : List Value → Prop, R cs → ValOf g.isAgg R v := by
  have hload : (loadCells ⟨b, o, none⟩ g.size).run P w = .ok cs.toArray w := by
    rw [← hl]; exact run_loadCells_list w ⟨b, o, none⟩ cs fun j v hj => by rw [Addr.add_mid]; exact hc j v hj
  unfold loadVar
  rw [Sem.run_bind, run_isAgg h]
  cases hg : g.isAgg with
  | true =>
    refine ⟨.agg cs.toArray, ?_, fun R hr => ⟨_, rfl, by simpa using hr⟩⟩
    simp [run_sizeOf h, hload]
  | false =>
    have h1 := size_notAgg g hg
    rw [h1] at hl
    match cs, hl with
    | [v], _ =>
      have := hc 0 v (by simp)
      simp only [Nat.add_zero] at this
      exact ⟨v, by simp [this], fun R hr => by simpa [ValOf] using hr⟩

/-- the cells of a block of the call's own, laid anew -/
theorem run_storeVar {P : Program} {g : GTy} {t : TypeId} (h : tyOk P g t = true) {w : World} {b o : Nat} {v : Value} {c : Array Value} {T : TypeId}
    (hb : w.heap[b]? = some (.cells c T (0, 0))) (hl : v.cells.toList.length = g.size) (hfit : o + g.size ≤ c.size) (h1 : ∀ u ∈ v.cells.toList, u.oneCell' = true) :
    (storeVar t ⟨b, o, none⟩ v).run P w = .ok () (w.setRow b (lay c.toList o v.cells.toList).toArray) := by
  unfold storeVar
  have hsz : v.cells.size = g.size := by simpa using hl
  have := run_storeCells_at P b o T v.cells.toList 0 c w hb (by simpa [hsz] using hfit) h1
  simp only [Sem.run_bind, run_sizeOf h, Result.andThen_ok, hsz, ne_eq, not_true_eq_false, if_false]
  rw [this]
  simp [lay]

theorem heap_setRow {w : World} {b : Nat} {c c' : Array Value} {T : TypeId} (hb : w.heap[b]? = some (.cells c T (0, 0))) : (w.setRow b c').heap[b]? = some (.cells c' T (0, 0)) :=
  setRow_heap w b c c' T (0, 0) hb

theorem heap_setRow_other {w : World} {b k : Nat} {c' : Array Value} (h : k ≠ b) : (w.setRow b c').heap[k]? = w.heap[k]? := by
  unfold World.setRow
  simp only [Array.getElem?_modify]
  rw [if_neg (by omega)]

theorem size_lay {cs vs : List Value} {o : Nat} (h : o + vs.length ≤ cs.length) : (lay cs o vs).length = cs.length := by
  simp [lay]; omega

theorem lay_get {cs vs : List Value} {o : Nat} (h : o + vs.length ≤ cs.length) (j : Nat) :
    (lay cs o vs)[j]? = if o ≤ j ∧ j < o + vs.length then vs[j - o]? else cs[j]? := by
  unfold lay
  by_cases h1 : j < o
  · rw [List.append_assoc, List.getElem?_append_left (by simp; omega), List.getElem?_take_of_lt h1, if_neg (by omega)]
  · by_cases h2 : j < o + vs.length
    · rw [List.getElem?_append_left (by simp; omega), List.getElem?_append_right (by simp; omega), if_pos ⟨by omega, h2⟩]
      congr 1; simp; omega
    · rw [List.getElem?_append_right (by simp; omega), if_neg (by omega), List.getElem?_drop]
      congr 1; simp; omega

end Go.Fw
namespace Go.Fw
open Go

/-! ### The soundness of the operations: their frame -/
structure Post (G : Gh) (w : World) (objs : Nat → AObj) (base : Nat) (r : Res) (val : Value) (w' : World) (G' : Gh) : Prop where
  ext : Ext G w G' w'
  v : RepT G' w' r.v val
  obj : ∀ id, RepO G' w' id (upds objs r.w id)
  wf : ∀ id, G'.kd id = none → ∀ g i, G'.nd id g i = none
  fresh : ∀ id k, G'.kd id = some k → G.kd id = some k ∨ (base ≤ id ∧ id < base + 8)

/-- one operation, soundly told -/
def Sound (P : Program) (E : Env) (o : Oper) : Prop :=
  ∀ (G : Gh) (w : World) (s : St) (a : Act) (base : Nat) (r : Res), Rel G w s a → (∀ id, base ≤ id → id < base + 8 → G.kd id = none) →
    (opM E o.op (evalA s.tmps) base).ev s.objs = some r → ∀ (next : Act → World → Prop) (Q : Exit → Act → World → Prop),
      (∀ val w' G', Post G w s.objs base r val w' G' → next (a.put o.dst val) w') → o.wp P a w next Q

section
variable {P : Program} {E : Env} {o : Oper} {a : Act} {w w' : World} {next : Act → World → Prop} {Q : Exit → Act → World → Prop} {v : Value}
theorem wp_val (h : (execOp a.eval o).run P w = .ok (.value v) w') (hn : next (a.put o.dst v) w') : o.wp P a w next Q := by
  unfold Oper.wp; rw [h]; exact hn
theorem wp_skp (h : (execOp a.eval o).run P w = .ok .skip w') (hn : next (a.put o.dst undef) w') : o.wp P a w next Q := by
  unfold Oper.wp; rw [h]; exact hn
end

/-- nothing changes but the value -/
theorem Post.same {G : Gh} {w : World} {s : St} {a : Act} {base : Nat} {v : AVal} {val : Value} (hr : Rel G w s a) (h : RepT G w v val) :
    Post G w s.objs base { v, w := [] } val w G :=
  ⟨Ext.refl G w, h, hr.obj, hr.wf, fun _ _ hk => .inl hk⟩

theorem evalA_rep {G : Gh} {w : World} {s : St} {a : Act} (hr : Rel G w s a) (x : Operand) : RepT G w (evalA s.tmps x) (a.eval x) := by
  cases x with
  | tmp t => exact hr.tmp t
  | const v =>
    simp only [evalA, Act.eval]
    unfold ofConst
    split
    · split
      · rename_i h; exact ⟨rfl, rfl, by simpa [IntKind.has] using h⟩
      · exact trivial
    · exact ⟨rfl, rfl⟩
    · exact ⟨rfl, rfl⟩
    · exact ⟨rfl, rfl⟩
    · exact trivial
  | func f => exact ⟨rfl, #[], rfl, rfl⟩
  | global g => exact trivial

theorem nz_some {objs : Nat → AObj} {v u : AVal} (h : (nz v).ev objs = some u) : u = v ∧ v ≠ .none := by
  cases v <;> simp [nz, M.ev] at h <;> subst h <;> exact ⟨rfl, by simp⟩

theorem retV_some {objs : Nat → AObj} {v : AVal} {r : Res} (h : (retV v).ev objs = some r) : r = { v, w := [] } := by
  simp [retV, M.ev] at h; exact h.symm

theorem andRetV {objs : Nat → AObj} {m : M AVal} {r : Res} (h : (m.andThen retV).ev objs = some r) : ∃ v, m.ev objs = some v ∧ r = { v, w := [] } := by
  obtain ⟨v, h1, h2⟩ := ev_some h
  exact ⟨v, h1, retV_some h2⟩

/-- what is a plain value stands there as one -/
theorem repT_val {G : Gh} {w : World} {t : GTy} {x : t.denote} {v : Value} (h : RepT G w (.val t x) v) : ValOf t.isAgg (RepC w G.fz t x) v :=
  ValOf.mono (fun _ hx => hx.2) h

theorem repT_int {G : Gh} {w : World} {k : IntKind} {x : Int} {v : Value} (h : RepT G w (.val (.int k) x) v) : v = .int k x ∧ k.has x := by
  have := repT_val h
  simp only [ValOf, GTy.isAgg] at this
  obtain ⟨h1, h2⟩ := this
  simp at h1
  exact ⟨h1, h2⟩

theorem repT_bool {G : Gh} {w : World} {x : Bool} {v : Value} (h : RepT G w (.val .bool x) v) : v = .bool x := by
  have := repT_val h
  simp only [ValOf, GTy.isAgg] at this
  have h1 : [v] = [.bool x] := this
  simpa using h1

theorem repT_str {G : Gh} {w : World} {x : ByteArray} {v : Value} (h : RepT G w (.val .str x) v) : v = .string x := by
  have := repT_val h
  simp only [ValOf, GTy.isAgg] at this
  have h1 : [v] = [.string x] := this
  simpa using h1

theorem mkT_int {G : Gh} {w : World} {k : IntKind} {x : Int} (h : k.has x) : RepT G w (.val (.int k) x) (.int k x) := ⟨rfl, rfl, h⟩
theorem mkT_bool {G : Gh} {w : World} {x : Bool} : RepT G w (.val .bool x) (.bool x) := ⟨rfl, rfl⟩
theorem mkT_str {G : Gh} {w : World} {x : ByteArray} : RepT G w (.val .str x) (.string x) := ⟨rfl, rfl⟩

/-- a shaped value has its cells -/
theorem repT_cells {G : Gh} {w : World} {t : GTy} {v : AVal} {x : Value} (hs : v.shape t = true) (h : RepT G w v x) :
    RepG G w v false x.cells.toList ∧ x.cells.toList.length = t.size ∧ (∀ u ∈ x.cells.toList, u.oneCell' = true) := by
  have h' : ValOf v.isAgg (RepG G w v false) x := by
    cases v <;> first | exact h | (cases t <;> simp [AVal.shape] at hs)
  have := h'.cells fun cs hc => (shape_len t v cs hs hc).2.1
  exact ⟨this, (shape_len t v _ hs this).1, (shape_len t v _ hs this).2.1⟩

theorem repT_mk {G : Gh} {w : World} {t : GTy} {v : AVal} {x : Value} {cs : List Value} (hs : v.shape t = true) (hr : RepG G w v false cs) (hx : ∀ R : List Value → Prop, R cs → ValOf t.isAgg R x) : RepT G w v x := by
  have ha := (shape_len t v cs hs hr).2.2
  have : ValOf v.isAgg (RepG G w v false) x := by rw [ha]; exact hx _ hr
  cases v <;> first | exact this | (cases t <;> simp [AVal.shape] at hs)

/-! ### Numbers -/
theorem wrap_has (k : IntKind) (n : Int) : k.has (k.wrap n) := by
  have h8 : ∀ n : Int, IntKind.i8.wrap n = (n + 128) % 256 - 128 := by
    intro n; simp [IntKind.wrap, IntKind.bits, IntKind.signed]; split <;> omega
  have h16 : ∀ n : Int, IntKind.i16.wrap n = (n + 32768) % 65536 - 32768 := by
    intro n; simp [IntKind.wrap, IntKind.bits, IntKind.signed]; split <;> omega
  cases k <;> simp only [IntKind.has, IntKind.min, IntKind.max, IntKind.bits, IntKind.signed]
  · rw [h8]; simp; omega
  · rw [h16]; simp; omega
  · rw [IntKind.wrap_i32]; simp; omega
  · rw [IntKind.wrap_i64]; simp; omega
  · rw [IntKind.wrap_u8]; simp; omega
  · simp [IntKind.wrap, IntKind.bits, IntKind.signed]; omega
  · rw [IntKind.wrap_u32]; simp; omega
  · simp [IntKind.wrap, IntKind.bits, IntKind.signed]; omega

theorem tmod_has {k : IntKind} {x y : Int} (hx : k.has x) (hy : k.has y) : k.has (x.tmod y) := by
  unfold IntKind.has at *
  have h0 : k.min ≤ 0 := by cases k <;> decide
  have h1 : 0 ≤ k.max := by cases k <;> decide
  have hm := Nat.mod_le x.natAbs y.natAbs
  rw [← Int.natAbs_tmod] at hm
  rcases Int.le_total 0 x with h | h
  · have a1 := Int.tmod_nonneg y h
    omega
  · have e : x.tmod y = -((-x).tmod y) := by rw [Int.neg_tmod]; omega
    have a1 := Int.tmod_nonneg y (show 0 ≤ -x by omega)
    omega

theorem fdiv_has {k : IntKind} {x : Int} (hx : k.has x) (n : Nat) : k.has (x.fdiv (2 ^ n)) := by
  unfold IntKind.has at *
  have h0 : k.min ≤ 0 := by cases k <;> decide
  have h1 : 0 ≤ k.max := by cases k <;> decide
  have hp : (0 : Int) < 2 ^ n := Int.pow_pos (by decide)
  rw [Int.fdiv_eq_ediv_of_nonneg _ (by omega)]
  rcases Int.le_total 0 x with h | h
  · have a1 : 0 ≤ x / 2 ^ n := Int.ediv_nonneg h (by omega)
    have a2 : x / 2 ^ n ≤ x := Int.ediv_le_self _ h
    omega
  · have a1 : x / 2 ^ n ≤ 0 := by
      have := Int.ediv_le_ediv hp h; simpa using this
    have a2 : x ≤ x / 2 ^ n := by
      rw [Int.le_ediv_iff_mul_le hp]
      have h1 : (1 : Int) ≤ 2 ^ n := by omega
      have : 0 ≤ (-x) * (2 ^ n - 1) := Int.mul_nonneg (by omega) (by omega)
      have e : (-x) * (2 ^ n - 1) = x - x * 2 ^ n := by rw [Int.mul_sub, Int.neg_mul]; omega
      omega
    omega

theorem binInt_spec {P : Program} {w : World} {objs : Nat → AObj} {op : BinOp} {k : IntKind} {x y : Int} {v : AVal} (hx : k.has x) (hy : k.has y) (h : (binInt op k x y).ev objs = some v) :
    (op ≠ .shl ∧ op ≠ .shr) ∧ ∃ val, (∀ t, (binOp op t (.int k x) (.int k y)).run P w = .ok val w) ∧ ((∃ n, v = .val (.int k) n ∧ val = .int k n ∧ k.has n) ∨ (∃ b, v = .val .bool b ∧ val = .bool b)) := by
  have hz : ∀ {z : Int}, y ≠ 0 → True := fun _ => trivial
  cases op <;> simp only [binInt, M.ev] at h
  case add => simp at h; subst h; exact ⟨by simp, _, fun t => by simp [binOp, Op.intArith], .inl ⟨_, rfl, rfl, wrap_has _ _⟩⟩
  case sub => simp at h; subst h; exact ⟨by simp, _, fun t => by simp [binOp, Op.intArith], .inl ⟨_, rfl, rfl, wrap_has _ _⟩⟩
  case mul => simp at h; subst h; exact ⟨by simp, _, fun t => by simp [binOp, Op.intArith], .inl ⟨_, rfl, rfl, wrap_has _ _⟩⟩
  case quo =>
    by_cases h0 : y = 0
    · simp [h0] at h
    · simp [h0] at h; subst h; exact ⟨by simp, _, fun t => by simp [binOp, Op.intDiv, h0], .inl ⟨_, rfl, rfl, wrap_has _ _⟩⟩
  case rem =>
    by_cases h0 : y = 0
    · simp [h0] at h
    · simp [h0] at h; subst h; exact ⟨by simp, _, fun t => by simp [binOp, Op.intDiv, h0], .inl ⟨_, rfl, rfl, tmod_has hx hy⟩⟩
  case and => simp at h; subst h; exact ⟨by simp, _, fun t => by simp only [binOp, ne_eq, not_true_eq_false, if_false]; rfl, .inl ⟨_, rfl, rfl, wrap_has _ _⟩⟩
  case or => simp at h; subst h; exact ⟨by simp, _, fun t => by simp only [binOp, ne_eq, not_true_eq_false, if_false]; rfl, .inl ⟨_, rfl, rfl, wrap_has _ _⟩⟩
  case xor => simp at h; subst h; exact ⟨by simp, _, fun t => by simp only [binOp, ne_eq, not_true_eq_false, if_false]; rfl, .inl ⟨_, rfl, rfl, wrap_has _ _⟩⟩
  case andNot => simp at h; subst h; exact ⟨by simp, _, fun t => by simp only [binOp, ne_eq, not_true_eq_false, if_false]; rfl, .inl ⟨_, rfl, rfl, wrap_has _ _⟩⟩
  case eql => simp at h; subst h; exact ⟨by simp, .bool (x == y), fun t => by simp [binOp, Op.intCmp], .inr ⟨_, rfl, by congr⟩⟩
  case neq => simp at h; subst h; exact ⟨by simp, .bool (x != y), fun t => by simp [binOp, Op.intCmp], .inr ⟨_, rfl, by congr⟩⟩
  case lss => simp at h; subst h; exact ⟨by simp, .bool (decide (x < y)), fun t => by simp [binOp, Op.intCmp], .inr ⟨_, rfl, rfl⟩⟩
  case leq => simp at h; subst h; exact ⟨by simp, .bool (decide (x ≤ y)), fun t => by simp [binOp, Op.intCmp], .inr ⟨_, rfl, rfl⟩⟩
  case gtr => simp at h; subst h; exact ⟨by simp, .bool (decide (y < x)), fun t => by simp [binOp, Op.intCmp], .inr ⟨_, rfl, rfl⟩⟩
  case geq => simp at h; subst h; exact ⟨by simp, .bool (decide (y ≤ x)), fun t => by simp [binOp, Op.intCmp], .inr ⟨_, rfl, rfl⟩⟩
  all_goals simp at h

end Go.Fw
