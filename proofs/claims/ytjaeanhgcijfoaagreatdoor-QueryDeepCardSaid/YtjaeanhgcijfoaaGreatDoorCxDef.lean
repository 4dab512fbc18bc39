/- An abstract interpreter over the model's functions: pure trees, abstract values, a small syntax, and its evaluation. -/
import GoSem.Step
import Derived.Orders
set_option linter.unusedVariables false
set_option linter.unusedSimpArgs false
namespace Go.Cx

/-- Pure trees: values without addresses that matter. 'bad' is what no value reads as. -/
inductive PV where
  | bad
  | bool (b : Bool) | int (k : IntKind) (n : Int) | str (s : ByteArray)
  | nilp | nilIface | nilFn
  | sl (sz : Nat) (xs : List (List PV))
  | agg (c : List PV)
  | tup (c : List PV)
  | iface (t : TypeId) (v : PV)
  deriving Inhabited

/-- Abstract values. 'own': a slice whose spare room is nobody else's. 'ptr': into the abstract store. 'rp': to cells that stay as they are. -/
inductive AV where
  | any
  | pv (p : PV)
  | own (sz : Nat) (xs : List (List PV))
  | nil (sz : Nat)
  | ptr (o off : Nat)
  | rp (c : List PV)
  | fn (f : FuncId) (first captured : List AV)
  | agg (c : List AV)
  | tup (c : List AV)
  deriving Inhabited

/-- Objects of the abstract store. -/
inductive AObj where
  | cells (c : List AV)
  | iter (s : ByteArray) (pos : Nat)
  deriving Inhabited

structure St where
  env : List AV
  objs : List AObj

/-- Operands. -/
inductive AO where
  | t (i : Nat)
  | c (v : AV)

/-- Types of cells, of values. -/
inductive CT where
  | int (k : IntKind) | bool | str | sl (sz : Nat) | raw
inductive VT where
  | c (t : CT) | agg (ts : List CT) | tup (ts : List VT)
/-- What a cell of an object may be behind a call that was handed the object. -/
inductive OT where
  | c (t : CT) | own (sz : Nat)

/-- How a call is taken: it writes to no object that is handed over, and hands back a tree; or it may write, hands back a tree, and the objects' shapes are told; or whatever comes is taken. -/
inductive CR where
  | read (vt : VT)
  | write (vt : VT) (shapes : List (List OT))
  | wide

/-- Operations. -/
inductive AOp where
  | mv (tk : Bool) (x : AO)
  | pick (c a b : AO)
  | alloc (z : List AV)
  | box (n : Option Nat) (x : AO)
  | build (z : List PV) (ps : List (Nat × Nat × AO))
  | bslice (sz n : Nat) (z : List PV) (ps : List (Nat × AO))
  | load (ts : Option (List CT)) (t : CT) (tk : Bool) (a : AO)
  | store (n : Option Nat) (a x : AO)
  | nilck (x : AO)
  | bin (op : BinOp) (x y : AO)
  | eqa (neg : Bool) (ts : List CT) (x y : AO)
  | eqb (neg : Bool) (x y : AO)
  | eqp (neg : Bool) (x y : AO)
  | not (x : AO)
  | neg (x : AO)
  | conv (k : IntKind) (x : AO)
  | cvs (x : AO)
  | bstr (x : AO)
  | mm (mx : Bool) (x y : AO)
  | slstr (x : AO) (lo hi : Option AO)
  | slsl (sz : Nat) (x : AO) (lo hi : Option AO)
  | faddr (off : Nat) (x : AO)
  | fld (off : Nat) (n : Option Nat) (x : AO)
  | iaddr (sz : Nat) (x i : AO)
  | idxs (x i : AO)
  | lens (x : AO)
  | len (x : AO)
  | append (sz bytes : Nat) (x y : AO)
  | call (x : AO) (args : List AO) (r : CR)
  | extract (x : AO) (i : Nat)
  | range (x : AO)
  | next (x : AO)
  | mkfn (f : FuncId) (first captured : List AO)
  | mkif (t : TypeId) (x : AO)
  | stuck

structure AIn where
  dst : Option Nat
  op : AOp
  guard : Option (Nat × Bool)

/-- An operation of a region whose order is drawn; where what it loads from begins; where what loads that it may overtake look at begins. -/
structure DIn where
  ai : AIn
  root : Option AO
  chk : List AO

inductive ACode where
  | skip
  | region (is : List AIn)
  | rany (is : List DIn)
  | rgrow (is : List DIn) (sz by_ : Nat) (l z i v : AO) (d t : Nat) (fin : AIn)
  | seq (a b : ACode)
  | cond (c : AO) (a b : ACode)
  | block (id : Nat) (c : ACode)
  | loop (keep : Option (List Nat)) (c : ACode)
  | exit (id : Nat)
  | ret
  | mask (keep : List Nat) (c : ACode)
  | stuck

/-- A result: a slot; or a variable of some cells (of no struct: none). -/
inductive ARes where
  | tmp (t : Nat)
  | cell (n : Option Nat) (a : Nat)

structure AFn where
  ntmps : Nat
  res : List ARes
  body : ACode

/-! ### Readers of pure trees, each handing on what it finds -/
section
variable {β : Type}

def IntKind.same : IntKind → IntKind → Bool
  | .i8, .i8 | .i16, .i16 | .i32, .i32 | .i64, .i64 | .u8, .u8 | .u16, .u16 | .u32, .u32 | .u64, .u64 => true
  | _, _ => false

def PV.isInt (k : IntKind) : PV → Bool | .int k' _ => IntKind.same k' k | _ => false
def PV.toInt : PV → Int | .int _ n => n | _ => 0
def PV.isBool : PV → Bool | .bool _ => true | _ => false
def PV.toBool : PV → Bool | .bool b => b | _ => false
def PV.isStr : PV → Bool | .str _ => true | _ => false
def PV.toStr : PV → ByteArray | .str s => s | _ => default
def PV.isSl (sz : Nat) : PV → Bool | .sl sz' _ => Nat.beq sz' sz | _ => false
def PV.toSl : PV → List (List PV) | .sl _ xs => xs | _ => []
def PV.isBad : PV → Bool | .bad => true | _ => false
def PV.isAgg (n : Nat) : PV → Bool | .agg c => Nat.beq c.length n | _ => false
def PV.toAgg : PV → List PV | .agg c => c | _ => []
def PV.isTup (n : Nat) : PV → Bool | .tup c => Nat.beq c.length n | _ => false
def PV.toTup : PV → List PV | .tup c => c | _ => []

def pInt (k : IntKind) (p : PV) (K : Int → Option β) : Option β := cond (p.isInt k) (K p.toInt) none
def pBool (p : PV) (K : Bool → Option β) : Option β := cond p.isBool (K p.toBool) none
def pStr (p : PV) (K : ByteArray → Option β) : Option β := cond p.isStr (K p.toStr) none
def pSl (sz : Nat) (p : PV) (K : List (List PV) → Option β) : Option β := cond (p.isSl sz) (K p.toSl) none
def pRaw (p : PV) (K : PV → Option β) : Option β := cond p.isBad none (K p)
def pAgg (n : Nat) (p : PV) (K : List PV → Option β) : Option β := cond (p.isAgg n) (K p.toAgg) none
def pTup (n : Nat) (p : PV) (K : List PV → Option β) : Option β := cond (p.isTup n) (K p.toTup) none

theorem pInt_eq (k : IntKind) (p : PV) (K : Int → Option β) : pInt k p K = match p with | .int k' n => cond (IntKind.same k' k) (K n) none | _ => none := by cases p <;> rfl
theorem pBool_eq (p : PV) (K : Bool → Option β) : pBool p K = match p with | .bool b => K b | _ => none := by cases p <;> rfl
theorem pStr_eq (p : PV) (K : ByteArray → Option β) : pStr p K = match p with | .str s => K s | _ => none := by cases p <;> rfl
theorem pSl_eq (sz : Nat) (p : PV) (K : List (List PV) → Option β) : pSl sz p K = match p with | .sl sz' xs => cond (Nat.beq sz' sz) (K xs) none | _ => none := by cases p <;> rfl
theorem pRaw_eq (p : PV) (K : PV → Option β) : pRaw p K = match p with | .bad => none | p => K p := by cases p <;> rfl
theorem pAgg_eq (n : Nat) (p : PV) (K : List PV → Option β) : pAgg n p K = match p with | .agg c => cond (Nat.beq c.length n) (K c) none | _ => none := by cases p <;> rfl
theorem pTup_eq (n : Nat) (p : PV) (K : List PV → Option β) : pTup n p K = match p with | .tup c => cond (Nat.beq c.length n) (K c) none | _ => none := by cases p <;> rfl

def asC (t : CT) (p : PV) (K : PV → Option β) : Option β :=
  match t with
  | .int k => pInt k p fun n => K (.int k n)
  | .bool => pBool p fun b => K (.bool b)
  | .str => pStr p fun s => K (.str s)
  | .sl z => pSl z p fun xs => K (.sl z xs)
  | .raw => pRaw p K

def asCs : List CT → Nat → List PV → (List PV → Option β) → Option β
  | [], _, _, K => K []
  | t :: ts, j, cs, K => asC t (cs.getD j .bad) fun p => asCs ts (j + 1) cs fun ps => K (p :: ps)

mutual
def asV : VT → PV → (PV → Option β) → Option β
  | .c t, p, K => asC t p K
  | .agg ts, p, K => pAgg ts.length p fun cs => asCs ts 0 cs fun cs => K (.agg cs)
  | .tup ts, p, K => pTup ts.length p fun cs => asVs ts 0 cs fun cs => K (.tup cs)
def asVs : List VT → Nat → List PV → (List PV → Option β) → Option β
  | [], _, _, K => K []
  | t :: ts, j, cs, K => asV t (cs.getD j .bad) fun p => asVs ts (j + 1) cs fun ps => K (p :: ps)
end
end

/-- A copy of a value: it owns nothing. -/
def AV.view : AV → AV
  | .own sz xs => .pv (.sl sz xs)
  | .nil sz => .pv (.sl sz [])
  | v => v

/-- A copy that leaves a nil slice what it is. -/
def AV.soft : AV → AV
  | .own sz xs => .pv (.sl sz xs)
  | v => v
def AV.isNil : AV → Bool
  | .nil _ => true
  | _ => false
/-- A nil slice is one's own. -/
def AV.grow : AV → AV
  | .nil sz => .own sz []
  | v => v

def toPV : AV → Option PV
  | .pv p => some p
  | .own sz xs => some (.sl sz xs)
  | .nil sz => some (.sl sz [])
  | _ => none
def toPVs : List AV → Option (List PV)
  | [] => some []
  | v :: r => match toPV v, toPVs r with
    | some p, some ps => some (p :: ps)
    | _, _ => none
def mkAgg (l : List AV) : AV := match toPVs l with | some ps => .pv (.agg ps) | none => .agg (l.map AV.view)
/-- The same, with its nil slices. -/
def mkAggB (l : List AV) : AV := cond (l.any AV.isNil) (.agg (l.map AV.soft)) (mkAgg l)
def AV.shut : AV → AV
  | .agg l => mkAgg l
  | v => v.view
def nilAV : PV → AV
  | .sl z [] => .nil z
  | p => .pv p

def St.get (st : St) : AO → AV
  | .t i => st.env.getD i .any
  | .c v => v
def St.put (st : St) (d : Option Nat) (v : AV) : St := match d with | some d => { st with env := st.env.set d v } | none => st
/-- An operand that is a slot of its own gives up what it owns. -/
def St.drop (st : St) : AO → St
  | .t i => { st with env := st.env.set i (st.env.getD i .any).view }
  | .c _ => st

/-- The bytes of a slice of bytes, and whether they are bytes. -/
def rowInt (r : List PV) : Int := (r.getD 0 .bad).toInt
def bytesOf (xs : List (List PV)) : ByteArray := (xs.map rowInt).foldl (fun r n => r.push (UInt8.ofNat n.toNat)) ByteArray.empty
def isU8 (r : List PV) : Bool := (r.getD 0 .bad).isInt .u8
def allU8 (xs : List (List PV)) : Bool := xs.all isU8
/-- A byte of a string. -/
def byteAt (s : ByteArray) (i : Int) : Int := ((s.data.toList.getD i.toNat 0).toNat : Int)
/-- The elements of a string as a slice of bytes has them. -/
def elemsOf (s : ByteArray) : List (List PV) := s.data.toList.map fun b => [PV.int .u8 (b.toNat : Int)]


section
variable {β : Type}

def binInt (op : BinOp) (k : IntKind) (a b : Int) (K : PV → Option β) : Option β :=
  match op with
  | .add => K (.int k (k.wrap (a + b)))
  | .sub => K (.int k (k.wrap (a - b)))
  | .mul => K (.int k (k.wrap (a * b)))
  | .quo => cond (b == 0) none (K (.int k (k.wrap (a.tdiv b))))
  | .rem => cond (b == 0) none (K (.int k (a.tmod b)))
  | .eql => K (.bool (a == b))
  | .neq => K (.bool (a != b))
  | .lss => K (.bool (decide (a < b)))
  | .leq => K (.bool (decide (a ≤ b)))
  | .gtr => K (.bool (decide (a > b)))
  | .geq => K (.bool (decide (a ≥ b)))
  | _ => none

def binStr (op : BinOp) (a b : ByteArray) (K : PV → Option β) : Option β :=
  match op with
  | .add => cond (Nat.ble (a.size + b.size) 9223372036854775807) (K (.str (a ++ b))) none
  | .eql => K (.bool (a.toList == b.toList))
  | .neq => K (.bool (!(a.toList == b.toList)))
  | .lss => K (.bool (Op.bytesLess a.toList b.toList))
  | _ => none

def binOpA (op : BinOp) (x y : AV) (K : AV → Option β) : Option β :=
  match x, y with
  | .pv (.int k a), .pv (.int k' b) => match op with
    | .shl => cond (decide (b < 0)) none (K (.pv (.int k (k.wrap (a * 2 ^ (min b.toNat k.bits))))))
    | .shr => cond (decide (b < 0)) none (K (.pv (.int k (a.fdiv (2 ^ (min b.toNat k.bits))))))
    | _ => cond (IntKind.same k k') (binInt op k a b fun p => K (.pv p)) none
  | .pv (.str a), .pv (.str b) => binStr op a b fun p => K (.pv p)
  | _, _ => none

/-- Whether two pointers, one of them nil, are one. -/
def eqPtr (x y : AV) : Option Bool :=
  match x, y with
  | .ptr _ _, .pv .nilp | .rp _, .pv .nilp | .pv .nilp, .ptr _ _ | .pv .nilp, .rp _ => some false
  | .pv .nilp, .pv .nilp => some true
  | _, _ => none

def eqCell (t : CT) (x y : PV) : Option Bool :=
  match t, x, y with
  | .int k, .int k1 a, .int k2 b => cond (IntKind.same k1 k && IntKind.same k2 k) (some (a == b)) none
  | .bool, .bool a, .bool b => some (a == b)
  | .str, .str a, .str b => some (a == b)
  | _, _, _ => none
def eqCells : List CT → List PV → List PV → Option Bool
  | [], [], [] => some true
  | t :: ts, x :: xs, y :: ys => match eqCell t x y, eqCells ts xs ys with
    | some a, some b => some (a && b)
    | _, _ => none
  | _, _, _ => none

end

/-- The objects that values point into, each once. -/
def addId (l : List Nat) (o : Nat) : List Nat := cond (l.contains o) l (l ++ [o])
mutual
def idsA : AV → List Nat → List Nat
  | .ptr o _, l => addId l o
  | .fn _ a c, l => idsL c (idsL a l)
  | .agg c, l => idsL c l
  | .tup c, l => idsL c l
  | _, l => l
def idsL : List AV → List Nat → List Nat
  | [], l => l
  | v :: r, l => idsL r (idsA v l)
end
mutual
def renA (ids : List Nat) : AV → AV
  | .ptr o off => .ptr (ids.idxOf o) off
  | .fn f a c => .fn f (renL ids a) (renL ids c)
  | .agg c => .agg (renL ids c)
  | .tup c => .tup (renL ids c)
  | v => v
def renL (ids : List Nat) : List AV → List AV
  | [] => []
  | v :: r => renA ids v :: renL ids r
end
/- All that values point to is among some objects. -/
mutual
def inA (ids : List Nat) : AV → Bool
  | .ptr o _ => ids.contains o
  | .fn _ a c => inL ids a && inL ids c
  | .agg c => inL ids c
  | .tup c => inL ids c
  | _ => true
def inL (ids : List Nat) : List AV → Bool
  | [] => true
  | v :: r => inA ids v && inL ids r
end
/- No value of the list points to an object from m on. -/
mutual
def belowA (m : Nat) : AV → Bool
  | .ptr o _ => Nat.blt o m
  | .fn _ a c => belowL m a && belowL m c
  | .agg c => belowL m c
  | .tup c => belowL m c
  | _ => true
def belowL (m : Nat) : List AV → Bool
  | [] => true
  | v :: r => belowA m v && belowL m r
end
def idsO : AObj → List Nat → List Nat
  | .cells c, l => idsL c l
  | .iter _ _, l => l
/-- The objects reached from those of a list, too. -/
def reachIds (objs : List AObj) : Nat → List Nat → List Nat
  | 0, l => l
  | n + 1, l => reachIds objs n (l.foldl (fun l o => match objs[o]? with | some ob => idsO ob l | none => l) l)
def renO (ids : List Nat) : AObj → AObj
  | .cells c => .cells (renL ids c)
  | ob => ob
/-- An object that is only read: it owns nothing. -/
def viewO : AObj → AObj
  | .cells c => .cells (c.map AV.view)
  | ob => ob
def inO (ids : List Nat) : AObj → Bool
  | .cells c => inL ids c
  | .iter _ _ => true
def belowO (m : Nat) : AObj → Bool
  | .cells c => belowL m c
  | .iter _ _ => true
def nodupB : List Nat → Bool
  | [] => true
  | o :: r => !(r.contains o) && nodupB r

/-- The objects that a call is handed. -/
def lendIds (objs : List AObj) (args : List AV) : List Nat := cond (inL [] args) [] (reachIds objs objs.length (idsL args []))
def lend (objs : List AObj) (ids : List Nat) : List AObj := ids.map fun o => renO ids (objs.getD o (.cells []))
def okIds (objs : List AObj) (args : List AV) (ids : List Nat) : Bool :=
  nodupB ids && inL ids args && ids.all fun o => Nat.blt o objs.length && inO ids (objs.getD o (.cells []))

/-- Where an object of a call stands for its caller, who has L objects: lent, or new. -/
def outI (ids : List Nat) (L i : Nat) : Nat := cond (Nat.blt i ids.length) (ids.getD i 0) (L + (i - ids.length))
mutual
def outA (ids : List Nat) (L : Nat) : AV → AV
  | .ptr o off => .ptr (outI ids L o) off
  | .fn f a c => .fn f (outL ids L a) (outL ids L c)
  | .agg c => .agg (outL ids L c)
  | .tup c => .tup (outL ids L c)
  | v => v
def outL (ids : List Nat) (L : Nat) : List AV → List AV
  | [] => []
  | v :: r => outA ids L v :: outL ids L r
end
def outO (ids : List Nat) (L : Nat) : AObj → AObj
  | .cells c => .cells (outL ids L c)
  | ob => ob

/-- An answer: told under a condition; or what an evaluation comes to. -/
inductive Ans where
  | val (b : Bool) (v : AV) (objs : List AObj)
  | opt (o : Option (AV × List AObj))
def Ans.get : Ans → Option (AV × List AObj)
  | .val b v objs => cond b (some (v, objs)) none
  | .opt o => o
def Ans.bind {β : Type} (a : Ans) (K : AV × List AObj → Option β) : Option β :=
  match a with
  | .val b v objs => cond b (K (v, objs)) none
  | .opt o => o.bind K
theorem Ans.bind_eq {β : Type} (a : Ans) (K : AV × List AObj → Option β) : a.bind K = a.get.bind K := by
  cases a with
  | val b v objs => cases b <;> rfl
  | opt o => rfl

/-- What evaluates calls. -/
structure Caller where
  R : FuncId → List AV → List AObj → Option PV
  A : FuncId → List AV → List AObj → Ans
def Caller.M (C : Caller) (f : FuncId) (args : List AV) (objs : List AObj) : Option (AV × List AObj) := (C.A f args objs).get

section
variable {β : Type}

/-- A cell of an object that comes back. -/
def asOT (t : OT) (v : AV) (K : AV → Option β) : Option β :=
  match t with
  | .c t => match v with | .pv p => asC t p fun p => K (.pv p) | _ => none
  | .own z => match v with | .own z' xs => cond (Nat.beq z' z) (K (.own z xs)) none | _ => none
def asOTs : List OT → Nat → List AV → (List AV → Option β) → Option β
  | [], _, _, K => K []
  | t :: ts, j, cs, K => asOT t (cs.getD j .any) fun v => asOTs ts (j + 1) cs fun vs => K (v :: vs)
def asObj (ts : List OT) (ob : AObj) (K : AObj → Option β) : Option β :=
  match ob with
  | .cells cs => cond (Nat.beq cs.length ts.length) (asOTs ts 0 cs fun vs => K (.cells vs)) none
  | _ => none
def asObjs : List (List OT) → Nat → List AObj → (List AObj → Option β) → Option β
  | [], _, _, K => K []
  | t :: ts, j, obs, K => asObj t (obs.getD j (.iter default 0)) fun ob => asObjs ts (j + 1) obs fun r => K (ob :: r)

/-- The objects that came back, at their places. -/
def backObjs : List Nat → List AObj → List AObj → List AObj
  | o :: ids, ob :: r, objs => backObjs ids r (objs.set o ob)
  | _, _, objs => objs

def doCall (C : Caller) (ro : Nat) (f : FuncId) (args : List AV) (r : CR) (st : St) (K : St → AV → Option β) : Option β :=
  let args := args.map AV.shut
  let ids := lendIds st.objs args
  cond (okIds st.objs args ids)
    (match r with
    | .read vt => (C.R f (renL ids args) ((lend st.objs ids).map viewO)).bind fun p => asV vt p fun p => K st (.pv p)
    | .write vt shapes => cond (ids.all (Nat.ble ro) && Nat.beq shapes.length ids.length)
        ((C.A f (renL ids args) (lend st.objs ids)).bind fun x => match x.1 with
          | .pv p => asV vt p fun p => asObjs shapes 0 x.2 fun obs => K { st with objs := backObjs ids obs st.objs } (.pv p)
          | _ => none) none
    | .wide => cond (ids.all (Nat.ble ro))
        ((C.A f (renL ids args) (lend st.objs ids)).bind fun x =>
          K { st with objs := backObjs ids ((x.2.take ids.length).map (outO ids st.objs.length)) st.objs ++ (x.2.drop ids.length).map (outO ids st.objs.length) } (outA ids st.objs.length x.1).view) none) none

def doCallM (C : Caller) (ro : Nat) (f : FuncId) (args : List AV) (r : CR) (st : St) (K : St → AV → Option β) : Option β :=
  let args := args.map AV.shut
  let ids := lendIds st.objs args
  cond (okIds st.objs args ids)
    (match r with
    | .read vt => (C.R f (renL ids args) ((lend st.objs ids).map viewO)).bind fun p => asV vt p fun p => K st (.pv p)
    | .write vt shapes => cond (ids.all (Nat.ble ro) && Nat.beq shapes.length ids.length)
        ((C.M f (renL ids args) (lend st.objs ids)).bind fun x => match x.1 with
          | .pv p => asV vt p fun p => asObjs shapes 0 x.2 fun obs => K { st with objs := backObjs ids obs st.objs } (.pv p)
          | _ => none) none
    | .wide => cond (ids.all (Nat.ble ro))
        ((C.M f (renL ids args) (lend st.objs ids)).bind fun x =>
          K { st with objs := backObjs ids ((x.2.take ids.length).map (outO ids st.objs.length)) st.objs ++ (x.2.drop ids.length).map (outO ids st.objs.length) } (outA ids st.objs.length x.1).view) none) none

theorem doCall_eq : @doCall β = @doCallM β := by
  funext C ro f args r st K
  unfold doCall doCallM Caller.M
  cases r <;> simp only [Ans.bind_eq]

/-- The cells of a value (of no cell: none). -/
def cellsOf (n : Option Nat) (v : AV) (K : List AV → Option β) : Option β :=
  match n with
  | none => match v with
    | .agg _ | .tup _ | .any | .pv (.agg _) | .pv (.tup _) | .pv .bad => none
    | v => K [v]
  | some n => match v with
    | .agg c => cond (Nat.beq c.length n) (K (c.map AV.soft)) none
    | .pv (.agg c) => cond (Nat.beq c.length n) (K (c.map AV.pv)) none
    | _ => none

/-- One cell. -/
def pOne (p : PV) (K : PV → Option β) : Option β := match p with | .bad => none | .agg _ => none | .tup _ => none | p => K p
def ones : List AV → (List AV → Option β) → Option β
  | [], K => K []
  | .pv p :: r, K => pOne p fun p => ones r fun l => K (.pv p :: l)
  | .own sz xs :: r, K => ones r fun l => K (.own sz xs :: l)
  | .nil sz :: r, K => ones r fun l => K (.nil sz :: l)
  | .ptr o off :: r, K => ones r fun l => K (.ptr o off :: l)
  | .rp c :: r, K => ones r fun l => K (.rp c :: l)
  | .fn f a c :: r, K => ones r fun l => K (.fn f a c :: l)
  | _ :: _, _ => none

def fillAV : List (Nat × Nat × List AV) → List AV → List AV
  | [], z => z
  | (off, n, c) :: r, z => fillAV r (z.take off ++ c ++ z.drop (off + n))

def partsAV (g : AO → AV) : List (Nat × Nat × AO) → (List (Nat × Nat × List AV) → Option β) → Option β
  | [], K => K []
  | (off, n, x) :: r, K => match (g x).view with
    | .agg c => cond (Nat.beq c.length n) (partsAV g r fun l => K ((off, n, c) :: l)) none
    | .pv (.agg c) => cond (Nat.beq c.length n) (partsAV g r fun l => K ((off, n, c.map AV.pv) :: l)) none
    | .tup _ | .any | .pv (.tup _) | .pv .bad => none
    | v => cond (Nat.beq n 1) (partsAV g r fun l => K ((off, n, [v]) :: l)) none

def onesP : List PV → (List PV → Option β) → Option β
  | [], K => K []
  | p :: r, K => pOne p fun p => onesP r fun l => K (p :: l)

/-- A tree as the cells of an element. -/
def elemCells (sz : Nat) (v : AV) (K : List PV → Option β) : Option β :=
  match v.view with
  | .pv (.agg c) => cond (Nat.beq c.length sz) (onesP c K) none
  | .pv p => cond (Nat.beq sz 1) (onesP [p] K) none
  | _ => none
def partsSl (g : AO → AV) (sz : Nat) : List (Nat × AO) → List (List PV) → (List (List PV) → Option β) → Option β
  | [], xs, K => K xs
  | (i, x) :: r, xs, K => elemCells sz (g x) fun c => partsSl g sz r (xs.set i c) K

/-- An int as a bound of a slice expression. -/
def bound (v : Option AV) (dflt : Int) (K : Int → Option β) : Option β :=
  match v with
  | none => K dflt
  | some (.pv (.int _ n)) => K n
  | _ => none

def evOp (C : Caller) (ro : Nat) (o : AOp) (st : St) (K : St → AV → Option β) : Option β :=
  match o with
  | .mv tk x => cond tk (K (st.drop x) (st.get x)) (K st (st.get x).view)
  | .pick c a b => match st.get c with
    | .pv (.bool t) => match (st.get a).view, (st.get b).view with
      | .pv (.bool x), .pv (.bool y) => K st (.pv (.bool (cond t x y)))
      | x, y => cond t (K st x) (K st y)
    | _ => none
  | .alloc z => K { st with objs := st.objs ++ [.cells z] } (.ptr st.objs.length 0)
  | .box n x => cellsOf n (st.get x).view fun c => K { st with objs := st.objs ++ [.cells c] } (.ptr st.objs.length 0)
  | .build z ps => partsAV st.get ps fun l => K st (mkAggB (fillAV l (z.map nilAV)))
  | .bslice sz n z ps => partsSl st.get sz ps (List.replicate n z) fun xs => K st (.own sz xs)
  | .load ts t tk a => match st.get a with
    | .ptr o off => match st.objs[o]? with
      | some (.cells c) => match ts with
        | some ts => cond (Nat.ble (off + ts.length) c.length) (K st (mkAgg ((c.drop off).take ts.length))) none
        | none => cond (Nat.blt off c.length) (cond (tk && Nat.ble ro o)
            (K { st with objs := st.objs.set o (.cells (c.set off (c.getD off .any).view)) } (c.getD off .any))
            (K st (c.getD off .any).view)) none
      | _ => none
    | .rp c => match ts with
      | some ts => asCs ts 0 c fun ps => K st (.pv (.agg ps))
      | none => asC t (c.getD 0 .bad) fun p => K st (.pv p)
    | _ => none
  | .store n a x => match st.get a with
    | .ptr o off => match st.objs[o]? with
      | some (.cells c) => cellsOf n (st.get x) fun vs => ones vs fun vs =>
        cond (Nat.ble (off + vs.length) c.length && Nat.ble ro o)
          (K { (st.drop x) with objs := st.objs.set o (.cells (c.take off ++ vs ++ c.drop (off + vs.length))) } .any) none
      | _ => none
    | _ => none
  | .nilck x => match st.get x with
    | .ptr o off => K st (.ptr o off)
    | .rp c => K st (.rp c)
    | .fn f a c => K st (.fn f a c)
    | _ => none
  | .bin op x y => binOpA op (st.get x).view (st.get y).view (K st)
  | .eqa neg ts x y => match st.get x, st.get y with
    | .pv (.agg a), .pv (.agg b) => match eqCells ts a b with
      | some r => K st (.pv (.bool (cond neg (!r) r)))
      | none => none
    | _, _ => none
  | .eqb neg x y => match st.get x, st.get y with
    | .pv (.bool a), .pv (.bool b) => K st (.pv (.bool (cond neg (!(a == b)) (a == b))))
    | _, _ => none
  | .eqp neg x y => match eqPtr (st.get x) (st.get y) with
    | some r => K st (.pv (.bool (cond neg (!r) r)))
    | none => none
  | .not x => match st.get x with
    | .pv (.bool b) => K st (.pv (.bool (!b)))
    | _ => none
  | .neg x => match st.get x with
    | .pv (.int k n) => K st (.pv (.int k (k.wrap (0 - n))))
    | _ => none
  | .conv k x => match st.get x with
    | .pv (.int _ n) => K st (.pv (.int k (k.wrap n)))
    | _ => none
  | .cvs x => match st.get x with
    | .pv (.str s) => K st (.pv (.str s))
    | _ => none
  | .bstr x => match (st.get x).view with
    | .pv (.sl sz xs) => cond (Nat.beq sz 1 && allU8 xs) (K st (.pv (.str (bytesOf xs)))) none
    | _ => none
  | .mm mx x y => match st.get x, st.get y with
    | .pv (.int k a), .pv (.int k' b) => cond (IntKind.same k k') (K st (.pv (.int k (cond mx (max a b) (min a b))))) none
    | _, _ => none
  | .slstr x lo hi => match st.get x with
    | .pv (.str s) => bound (hi.map st.get) s.size fun h => bound (lo.map st.get) 0 fun l =>
        cond (decide (0 ≤ l) && decide (l ≤ h) && decide (h ≤ s.size)) (K st (.pv (.str (s.extract l.toNat h.toNat)))) none
    | _ => none
  | .slsl sz x lo hi => match (st.get x).view with
    | .pv (.sl sz' xs) => bound (hi.map st.get) xs.length fun h => bound (lo.map st.get) 0 fun l =>
        cond (Nat.beq sz' sz && decide (0 ≤ l) && decide (l ≤ h) && decide (h ≤ xs.length)) (K st (.pv (.sl sz ((xs.take h.toNat).drop l.toNat)))) none
    | _ => none
  | .faddr off x => match st.get x with
    | .ptr o b => K st (.ptr o (b + off))
    | .rp c => K st (.rp (c.drop off))
    | _ => none
  | .fld off n x => match st.get x with
    | .pv (.agg c) => match n with
      | some n => cond (Nat.ble (off + n) c.length) (K st (.pv (.agg ((c.drop off).take n)))) none
      | none => cond (Nat.blt off c.length) (K st (.pv (c.getD off .bad))) none
    | .agg c => match n with
      | some n => cond (Nat.ble (off + n) c.length) (K st (mkAgg ((c.drop off).take n))) none
      | none => cond (Nat.blt off c.length) (K st (c.getD off .any).view) none
    | _ => none
  | .iaddr sz x i => match (st.get x).view, st.get i with
    | .pv (.sl sz' xs), .pv (.int _ n) => cond (Nat.beq sz' sz && decide (0 ≤ n) && decide (n < xs.length)) (K st (.rp (xs.getD n.toNat []))) none
    | _, _ => none
  | .idxs x i => match st.get x, st.get i with
    | .pv (.str s), .pv (.int _ n) => cond (decide (0 ≤ n) && decide (n < s.size)) (K st (.pv (.int .u8 (byteAt s n)))) none
    | _, _ => none
  | .lens x => match st.get x with
    | .pv (.str s) => K st (.pv (.int .i64 s.size))
    | _ => none
  | .len x => match (st.get x).view with
    | .pv (.sl _ xs) => K st (.pv (.int .i64 xs.length))
    | _ => none
  | .append sz by_ x y => match (st.get x).grow with
    | .own sz' xs => cond (Nat.beq sz' sz) (match (st.get y).view with
      | .pv (.sl sz2 ys) => cond (Nat.beq sz2 sz && Nat.ble ((xs.length + ys.length) * by_) 140737488355328) (K (st.drop x) (.own sz (xs ++ ys))) none
      | .pv (.str s) => cond (Nat.beq 1 sz && Nat.ble ((xs.length + s.size) * by_) 140737488355328) (K (st.drop x) (.own sz (xs ++ elemsOf s))) none
      | _ => none) none
    | _ => none
  | .call x args r => match st.get x with
    | .fn f a c => doCall C ro f (a ++ args.map st.get ++ c) r st K
    | _ => none
  | .extract x i => match st.get x with
    | .pv (.tup c) => cond (Nat.blt i c.length) (K st (.pv (c.getD i .bad))) none
    | .tup c => cond (Nat.blt i c.length) (K st (c.getD i .any).view) none
    | _ => none
  | .range x => match st.get x with
    | .pv (.str s) => K { st with objs := st.objs ++ [.iter s 0] } (.ptr st.objs.length 0)
    | _ => none
  | .next x => match st.get x with
    | .ptr o 0 => match st.objs[o]? with
      | some (.iter s pos) => cond (Nat.blt pos s.size)
          (cond (Nat.ble ro o) (K { st with objs := st.objs.set o (.iter s (pos + (Utf8.decode s pos).2)) } (.pv (.tup [.bool true, .int .i64 pos, .int .i32 (Utf8.decode s pos).1]))) none)
          (K st (.pv (.tup [.bool false])))
      | _ => none
    | _ => none
  | .mkfn f a c => K st (.fn f (a.map fun x => (st.get x).view) (c.map fun x => (st.get x).view))
  | .mkif t x => match (st.get x).view with
    | .pv .bad => none
    | .pv p => K st (.pv (.iface t p))
    | _ => none
  | .stuck => none

def evIn (C : Caller) (ro : Nat) (i : AIn) (st : St) (K : St → Option β) : Option β :=
  let go (st : St) := evOp C ro i.op st fun st v => K (st.put i.dst v)
  match i.guard with
  | none => go st
  | some (j, want) => match st.env.getD j .any with
    | .pv (.bool b) => cond b
        (let st := { st with env := st.env.set j (.pv (.bool true)) }; cond want (go st) (K (st.put i.dst (.pv (.tup [])))))
        (let st := { st with env := st.env.set j (.pv (.bool false)) }; cond want (K (st.put i.dst (.pv (.tup [])))) (go st))
    | .pv (.tup _) => K (st.put i.dst (.pv (.tup [])))
    | _ => none

def evIns (C : Caller) (ro : Nat) : List AIn → St → (St → Option β) → Option β
  | [], st, K => K st
  | i :: is, st, K => evIn C ro i st fun st => evIns C ro is st K

/-- The objects that an operation of a drawn region touches. -/
def hitIds (o : AOp) (st : St) : Option (List Nat) :=
  match o with
  | .store _ a _ | .load none _ true a => match st.get a with
    | .ptr o _ => some [o]
    | .rp _ => some []
    | _ => none
  | .call x as .wide => match st.get x with
    | .fn _ a c => some (lendIds st.objs ((a ++ as.map st.get ++ c).map AV.shut))
    | _ => none
  | _ => some []
/-- It touches nothing that is read beside it. -/
def okChk (d : DIn) (st : St) : Bool :=
  match hitIds d.ai.op st with
  | some l => d.chk.all fun b => match st.get b with
    | .ptr o' _ => !(l.contains o')
    | .rp _ => true
    | _ => false
  | none => false
/-- What it loads from is of the object of its root. -/
def okRoot (d : DIn) (st : St) : Bool :=
  match d.ai.op, d.root with
  | .load _ _ _ b, some r => match st.get b, st.get r with
    | .ptr j _, .ptr j' _ => Nat.beq j j'
    | .rp _, _ => true
    | _, _ => false
  | _, _ => true
def evD (C : Caller) (ro : Nat) (d : DIn) (st : St) (K : St → Option β) : Option β := cond (okRoot d st && okChk d st) (evIn C ro d.ai st K) none
def evDs (C : Caller) (ro : Nat) : List DIn → St → (St → Option β) → Option β
  | [], st, K => K st
  | d :: ds, st, K => evD C ro d st fun st => evDs C ro ds st K

/-- A zero appended, then written, then the row laid into its variable: in whatever order. -/
def evGrow (C : Caller) (ro sz by_ : Nat) (l z i v : AO) (d t : Nat) (fin : AIn) (st : St) (K : St → Option β) : Option β :=
  match (st.get l).grow with
  | .own sz' xs => match (st.get z).view, st.get i with
    | .pv (.sl sz2 ys), .pv (.int _ k) => cond (Nat.beq sz' sz && Nat.beq sz2 sz && Nat.beq ys.length 1 && (k == (xs.length : Int)) && Nat.ble ((xs.length + 1) * by_) 140737488355328 && Nat.blt d st.env.length && Nat.blt t st.env.length)
        (elemCells sz (st.get v) fun row => evIn C ro fin (((st.drop l).put (some d) (.own sz (xs ++ [row]))).put (some t) .any) K) none
    | _, _ => none
  | _ => none

inductive AExit where
  | normal | exit (id : Nat) | ret

def maskEnv (keep : List Nat) : Nat → List AV → List AV
  | _, [] => []
  | i, v :: r => cond (keep.contains i) v .any :: maskEnv keep (i + 1) r
/-- An object whose nil slices are its own. -/
def growO : AObj → AObj
  | .cells c => .cells (c.map AV.grow)
  | ob => ob
/-- What is kept of the slots; the objects from m on are let go. -/
def maskSt (keep : List Nat) (m : Nat) (st : St) (K : St → Option β) : Option β :=
  let env := maskEnv keep 0 st.env
  let objs := st.objs.take m
  cond (belowL m env && objs.all (belowO m)) (K ⟨env.map AV.grow, objs.map growO⟩) none

def maskOp (keep : Option (List Nat)) (m : Nat) (st : St) (K : St → Option β) : Option β :=
  match keep with
  | some keep => maskSt keep m st K
  | none => K st

def loopN (body : (AExit → St → Option β) → St → Option β) (mask : St → (St → Option β) → Option β) (K : AExit → St → Option β) : Nat → St → Option β
  | 0, _ => none
  | n + 1, st => body (fun e st => match e with
    | .normal => mask st (loopN body mask K n)
    | e => K e st) st

def evC (C : Caller) (ro n : Nat) : ACode → (AExit → St → Option β) → St → Option β
  | .skip, K, st => K .normal st
  | .region is, K, st => evIns C ro is st (K .normal)
  | .rany is, K, st => evDs C ro is st (K .normal)
  | .rgrow is sz by_ l z i v d t fin, K, st => evDs C ro is st fun st => evGrow C ro sz by_ l z i v d t fin st (K .normal)
  | .seq a b, K, st => evC C ro n a (fun e st => match e with
    | .normal => evC C ro n b K st
    | e => K e st) st
  | .cond c a b, K, st => match st.get c with
    | .pv (.bool t) => cond t (evC C ro n a K st) (evC C ro n b K st)
    | _ => none
  | .block id c, K, st => evC C ro n c (fun e st => match e with
    | .exit id' => cond (Nat.beq id' id) (K .normal st) (K (.exit id') st)
    | e => K e st) st
  | .loop keep c, K, st => maskOp keep st.objs.length st (loopN (evC C ro n c) (maskOp keep st.objs.length) K n)
  | .exit id, K, st => K (.exit id) st
  | .ret, K, st => K .ret st
  | .mask keep c, K, st => maskSt keep st.objs.length st (evC C ro n c K)
  | .stuck, _, _ => none

def evRes1 (st : St) (r : ARes) (K : AV → Option β) : Option β :=
  match r with
  | .tmp t => K (st.env.getD t .any).view
  | .cell n a => match st.env.getD a .any with
    | .ptr o off => match st.objs[o]? with
      | some (.cells c) => match n with
        | some n => cond (Nat.ble (off + n) c.length) (K (mkAgg ((c.drop off).take n))) none
        | none => cond (Nat.blt off c.length) (K (c.getD off .any).view) none
      | _ => none
    | _ => none
def evResL (st : St) : List ARes → (List AV → Option β) → Option β
  | [], K => K []
  | r :: rs, K => evRes1 st r fun v => evResL st rs fun l => K (v :: l)
/-- What a function hands back. -/
def mkTup (l : List AV) : AV :=
  match l with
  | [x] => x
  | l => match toPVs l with
    | some ps => .pv (.tup ps)
    | none => .tup l

def evFn (C : Caller) (ro n : Nat) (F : AFn) (args : List AV) (objs : List AObj) (K : AV → List AObj → Option β) : Option β :=
  evC C ro n F.body (fun e st => match e with
    | .exit _ => none
    | _ => evResL st F.res fun l => K (mkTup l) st.objs) ⟨args ++ List.replicate (F.ntmps - args.length) .any, objs⟩
end

/-- What is known of a function: its syntax; or an answer told otherwise; or one that leans on calls. -/
inductive Ent where
  | fn (F : AFn)
  | told (R : List AV → List AObj → Option PV) (M : List AV → List AObj → Ans)
  | hand (H : Caller → List AV → List AObj → Option (AV × List AObj))

/-- What a call that may write hands back: a value, and the objects that it was handed; behind them new ones, if there is a way to one. -/
def endM (m : Nat) (v : AV) (objs : List AObj) : Option (AV × List AObj) :=
  cond (belowA m v && (objs.take m).all (belowO m)) (some (v, objs.take m)) (some (v, objs))
def endR (v : AV) : Option PV :=
  match v with
  | .pv p => some p
  | _ => none

def ev (T : FuncId → Option Ent) : Nat → Caller
  | 0 => ⟨fun _ _ _ => none, fun _ _ _ => .opt none⟩
  | k + 1 =>
    ⟨fun f args objs => match T f with
      | some (.fn F) => evFn (ev T k) objs.length k F args objs fun v _ => endR v
      | some (.told R _) => R args objs
      | _ => none,
     fun f args objs => match T f with
      | some (.fn F) => .opt (evFn (ev T k) 0 k F args objs (endM objs.length))
      | some (.told _ M) => M args objs
      | some (.hand H) => .opt (H (ev T k) args objs)
      | none => .opt none⟩

/-- A call of trees alone. -/
def evP (T : FuncId → Option Ent) (k : Nat) (f : FuncId) (args : List PV) : Option PV := (ev T k).R f (args.map .pv) []
end Go.Cx
