/- From a function of the model to the small syntax. -/
import Derived.Test.YtjaeanhgcijfoaaGreatDoorCxDef
set_option linter.unusedVariables false
set_option linter.unusedSimpArgs false
namespace Go.Cx

def isAggB (P : Program) (t : TypeId) : Bool :=
  match P.underlying t with
  | some (.struct _) | some (.array _ _) => true
  | _ => false

def ctOf (P : Program) (t : TypeId) : CT :=
  match P.underlying t with
  | some (.int k) => .int k
  | some .bool => .bool
  | some .string => .str
  | some (.slice e) => .sl (P.cellsOf e)
  | _ => .raw

mutual
def layout (P : Program) : Nat → TypeId → Option (List CT)
  | 0, _ => none
  | d + 1, t =>
    match P.underlying t with
    | some (.struct fs) => layoutFs P d fs.toList 0
    | some (.array n e) => (layout P d e).map fun l => (List.replicate n l).flatten
    | some _ => some [ctOf P t]
    | none => none
def layoutFs (P : Program) : Nat → List Field → Nat → Option (List CT)
  | 0, _, _ => none
  | _ + 1, [], _ => some []
  | d + 1, f :: fs, off =>
    match layout P d f.type, layoutFs P d fs (off + P.cellsOf f.type) with
    | some l, some r => if f.offset = off ∧ l.length = P.cellsOf f.type then some (l ++ r) else none
    | _, _ => none
end

/-- The layout of a type, as long as the model has it. -/
def lay (P : Program) (t : TypeId) : Option (List CT) :=
  match layout P 40 t with
  | some l => if l.length = P.cellsOf t then some l else none
  | none => none

def vtOf (P : Program) : Nat → TypeId → Option VT
  | 0, _ => none
  | d + 1, t =>
    match P.underlying t with
    | some (.tuple ts) => (ts.toList.mapM (vtOf P d)).map .tup
    | some (.struct _) | some (.array _ _) => (lay P t).map .agg
    | some _ => some (.c (ctOf P t))
    | none => none

/-- A constant's cell as a tree. -/
def pvCell (t : CT) (v : Value) : Option PV :=
  match t, v with
  | .sl z, .slice none 0 0 => some (.sl z [])
  | .sl _, _ => none
  | _, .bool b => some (.bool b)
  | _, .int k n => some (.int k n)
  | _, .string s => some (.str s)
  | _, .pointer none => some .nilp
  | _, .nilIface => some .nilIface
  | _, .nilFunc => some .nilFn
  | _, _ => none
def pvCells : List CT → List Value → Option (List PV)
  | [], [] => some []
  | t :: ts, v :: vs => match pvCell t v, pvCells ts vs with
    | some p, some r => some (p :: r)
    | _, _ => none
  | _, _ => none

def constAV (P : Program) (t : TypeId) (v : Value) : Option AV :=
  match v with
  | .slice none 0 0 => match P.underlying t with
    | some (.slice e) => some (.own (P.cellsOf e) [])
    | _ => none
  | .agg cs => match lay P t with
    | some l => (pvCells l cs.toList).map fun ps => .pv (.agg ps)
    | none => none
  | .tuple cs => if cs.size = 0 then some (.pv (.tup [])) else none
  | v => (pvCell .raw v).map .pv

def trO (P : Program) (t : TypeId) : Operand → Option AO
  | .tmp i => some (.t i)
  | .const v => (constAV P t v).map .c
  | .func f => some (.c (.fn f [] []))
  | .global _ => none
/-- An operand whose constant needs no type. -/
def trO' (P : Program) (x : Operand) : Option AO := trO P 0 x
def trOs (P : Program) : List Operand → Option (List AO)
  | [] => some []
  | x :: r => match trO' P x, trOs P r with
    | some a, some l => some (a :: l)
    | _, _ => none
def trArgs (P : Program) : List Operand → List TypeId → Option (List AO)
  | [], _ => some []
  | x :: r, t :: ts => match trO P t x, trArgs P r ts with
    | some a, some l => some (a :: l)
    | _, _ => none
  | _, _ => none
def trOpt (P : Program) : Option Operand → Option (Option AO)
  | none => some none
  | some x => (trO' P x).map some

def zeroPV (P : Program) (t : TypeId) : Option (List PV) :=
  match P.info? t, lay P t with
  | some i, some l => match i.zero with
    | some z => pvCells l z.cells.toList
    | none => none
  | _, _ => none
/-- Fresh cells: a nil slice in them is one's own. -/
def ownAV : PV → AV
  | .sl z [] => .own z []
  | p => .pv p

def trParts (P : Program) (tot : Nat) (fs : Array Field) : List (Nat × Operand) → Option (List (Nat × Nat × AO))
  | [] => some []
  | (i, x) :: r => match fs[i]? with
    | some f => match trO P f.type x, trParts P tot fs r with
      | some a, some l => if f.offset + P.cellsOf f.type ≤ tot then some ((f.offset, P.cellsOf f.type, a) :: l) else none
      | _, _ => none
    | none => none
def trSlParts (P : Program) (n : Nat) (e : TypeId) : List (Nat × Operand) → Option (List (Nat × AO))
  | [] => some []
  | (i, x) :: r => match trO P e x, trSlParts P n e r with
    | some a, some l => if i < n then some ((i, a) :: l) else none
    | _, _ => none

mutual
/-- The cells of a type whose values are compared cell by cell. -/
def eqLay (P : Program) : Nat → TypeId → Option (List CT)
  | 0, _ => none
  | d + 1, t =>
    match P.underlying t with
    | some (.int k) => some [.int k]
    | some .bool => some [.bool]
    | some .string => some [.str]
    | some (.struct fs) => if P.stoodInHeld t then none else eqLayFs P d fs.toList 0
    | _ => none
def eqLayFs (P : Program) : Nat → List Field → Nat → Option (List CT)
  | 0, _, _ => none
  | _ + 1, [], _ => some []
  | d + 1, f :: fs, off =>
    match eqLay P d f.type, eqLayFs P d fs (off + P.cellsOf f.type) with
    | some l, some r => if f.offset = off ∧ f.name ≠ "_" ∧ l.length = P.cellsOf f.type then some (l ++ r) else none
    | _, _ => none
end
def eqKinds (P : Program) (t : TypeId) : Option (List CT) :=
  match P.underlying t with
  | some (.struct _) => if P.eqGuardType P.depth t then none else eqLay P 40 t
  | _ => none

/-- Is a slot the first argument of an append of the region? -/
def grows (ops : List Oper) (d : Option Tmp) : Bool :=
  ops.any fun o => match o.op with
    | .call { callee := .builtin .append, args, .. } => match (args[0]? : Option Operand), d with
      | some (.tmp t), some d => t == d
      | _, _ => false
    | _ => false

/-- One operation. 'cr': how calls of a function are taken; else by their result. -/
def trOp (P : Program) (cr : Option FuncId → Option CR) (ops : List Oper) (o : Oper) : Option AOp :=
  match o.op with
  | .move x => (trO P o.type x).map (.mv (grows ops o.dst))
  | .assign x => (trO P o.type x).map (.mv true)
  | .pick c a b => match trO' P c, trO P o.type a, trO P o.type b with
    | some c, some a, some b => some (.pick c a b)
    | _, _, _ => none
  | .alloc e => (zeroPV P e).map fun z => .alloc (z.map ownAV)
  | .box e x => match trO P e x with
    | some a => if isAggB P e then some (.box (some (P.cellsOf e)) a) else if P.cellsOf e = 1 then some (.box none a) else none
    | none => none
  | .build t ps => match P.underlying t, zeroPV P t with
    | some (.struct fs), some z => if fs.toList.all fun f => (P.info? f.type).isSome then (trParts P z.length fs ps.toList).map (.build z) else none
    | _, _ => none
  | .buildSlice t n ps => match P.underlying t with
    | some (.slice e) => match zeroPV P e, trSlParts P n e ps.toList with
      | some z, some l => if n * P.cellsOf e ≤ 16777216 ∧ 0 < P.cellsOf e then some (.bslice (P.cellsOf e) n z l) else none
      | _, _ => none
    | _ => none
  | .load t a => match trO' P a with
    | some a => if (P.underlying t).isNone then none else if isAggB P t then (lay P t).map fun l => .load (some l) .raw false a
      else some (.load none (ctOf P t) (grows ops o.dst) a)
    | none => none
  | .store t a x => match trO' P a, trO P t x with
    | some a, some x => if (P.info? t).isNone then none else if isAggB P t then some (.store (some (P.cellsOf t)) a x) else if P.cellsOf t = 1 then some (.store none a x) else none
    | _, _ => none
  | .nilCheck x => (trO' P x).map .nilck
  | .binOp op t x y _ => match trO P t x, trO P t y with
    | some x, some y => match eqKinds P t with
      | some l => match op with
        | .eql => some (.eqa false l x y)
        | .neq => some (.eqa true l x y)
        | _ => none
      | none => match P.underlying t with
        | some (.int _) => some (.bin op x y)
        | some .string => some (.bin op x y)
        | some .bool => match op with
          | .eql => some (.eqb false x y)
          | .neq => some (.eqb true x y)
          | _ => none
        | some (.pointer _) => match op with
          | .eql => some (.eqp false x y)
          | .neq => some (.eqp true x y)
          | _ => none
        | _ => none
    | _, _ => none
  | .unOp .not _ x => (trO' P x).map .not
  | .unOp .neg _ x => (trO' P x).map .neg
  | .convert s t x => match P.underlying s, P.underlying t, trO P s x with
    | some (.int _), some (.int k), some x => some (.conv k x)
    | some .string, some .string, some x => some (.cvs x)
    | some (.slice e), some .string, some x => match P.underlying e with
      | some (.int .u8) => some (.bstr x)
      | _ => none
    | _, _, _ => none
  | .slice t x lo hi none => match P.underlying t, trO P t x, trOpt P lo, trOpt P hi with
    | some .string, some x, some lo, some hi => some (.slstr x lo hi)
    | some (.slice e), some x, some lo, some hi => if (P.info? e).isNone then none else some (.slsl (P.cellsOf e) x lo hi)
    | _, _, _, _ => none
  | .fieldAddr t x f => match P.underlying t, trO' P x with
    | some (.struct fs), some x => match fs[f]? with
      | some fd => if P.cellsOf fd.type = 0 then none else some (.faddr fd.offset x)
      | none => none
    | _, _ => none
  | .field t x f => match P.underlying t, trO P t x with
    | some (.struct fs), some x => match fs[f]? with
      | some fd => if (P.underlying fd.type).isNone then none else if isAggB P fd.type then some (.fld fd.offset (some (P.cellsOf fd.type)) x) else some (.fld fd.offset none x)
      | none => none
    | _, _ => none
  | .indexAddr t x i => match P.underlying t, trO P t x, trO' P i with
    | some (.slice e), some x, some i => if (P.info? e).isNone then none else some (.iaddr (P.cellsOf e) x i)
    | _, _, _ => none
  | .index t x i => match P.underlying t, trO P t x, trO' P i with
    | some .string, some x, some i => some (.idxs x i)
    | _, _, _ => none
  | .extract x i => (trO' P x).map (.extract · i)
  | .range t x => match P.underlying t, trO P t x with
    | some .string, some x => some (.range x)
    | _, _ => none
  | .next x true => (trO' P x).map .next
  | .makeFunc (.func f) a c => match trOs P a.toList, trOs P c.toList with
    | some a, some c => some (.mkfn f a c)
    | _, _ => none
  | .makeInterface t x => match P.underlying t, trO P t x with
    | some (.interface _), _ => none
    | some _, some x => some (.mkif t x)
    | _, _ => none
  | .call c => match c.callee with
    | .builtin .len => match c.args.toList, c.argTypes.toList with
      | [x], [t] => match P.underlying t, trO P t x with
        | some .string, some x => some (.lens x)
        | some (.slice _), some x => some (.len x)
        | _, _ => none
      | _, _ => none
    | .builtin .min => match c.args.toList with
      | [x, y] => match trO' P x, trO' P y with
        | some x, some y => some (.mm false x y)
        | _, _ => none
      | _ => none
    | .builtin .max => match c.args.toList with
      | [x, y] => match trO' P x, trO' P y with
        | some x, some y => some (.mm true x y)
        | _, _ => none
      | _ => none
    | .builtin .append => match c.args.toList, c.argTypes.toList with
      | [x, y], [t, u] => match P.underlying t, trO P t x, trO P u y with
        | some (.slice e), some x, some y => if 0 < P.cellsOf e ∧ 0 < P.bytesOf e ∧ (zeroPV P e).isSome then match P.underlying u with
            | some (.slice _) => some (.append (P.cellsOf e) (P.bytesOf e) x y)
            | some .string => some (.append (P.cellsOf e) (P.bytesOf e) x y)
            | _ => none
          else none
        | _, _, _ => none
      | _, _ => none
    | .value f => match trO' P f, trArgs P c.args.toList c.argTypes.toList with
      | some x, some as => match (match f with | .func g => cr (some g) | _ => cr none) with
        | some r => some (.call x as r)
        | none => (vtOf P 10 o.type).map fun vt => .call x as (.read vt)
      | _, _ => none
    | _ => none
  | _ => none

def trIn (P : Program) (cr : Option FuncId → Option CR) (ops : List Oper) (o : Oper) : Option AIn :=
  let a := (trOp P cr ops o).getD .stuck
  match o.guard with
  | none => some ⟨o.dst, a, none⟩
  | some (j, want) => match (ops[j]?).bind (·.dst) with
    | some d => some ⟨o.dst, a, some (d, want)⟩
    | none => none
def trIns (P : Program) (cr : Option FuncId → Option CR) (ops : List Oper) : List Oper → Option (List AIn)
  | [] => some []
  | o :: r => match trIn P cr ops o, trIns P cr ops r with
    | some a, some l => some (a :: l)
    | _, _ => none

/-! ### Regions whose order is drawn -/

def AO.slots : AO → List Nat
  | .t i => [i]
  | .c _ => []
def AO.slotsL (l : List AO) : List Nat := l.flatMap AO.slots
def AO.slotsO (o : Option AO) : List Nat := match o with | some x => x.slots | none => []
/-- The slots that an operation looks at. -/
def AOp.slots : AOp → List Nat
  | .mv _ x | .box _ x | .load _ _ _ x | .nilck x | .not x | .neg x | .conv _ x | .cvs x | .bstr x | .faddr _ x | .fld _ _ x | .lens x | .len x | .extract x _ | .range x | .next x | .mkif _ x => x.slots
  | .pick c a b => c.slots ++ a.slots ++ b.slots
  | .alloc _ | .stuck => []
  | .build _ ps => ps.flatMap fun p => p.2.2.slots
  | .bslice _ _ _ ps => ps.flatMap fun p => p.2.slots
  | .store _ a x => a.slots ++ x.slots
  | .bin _ x y | .mm _ x y | .eqa _ _ x y | .eqb _ x y | .eqp _ x y | .iaddr _ x y | .idxs x y | .append _ _ x y => x.slots ++ y.slots
  | .slstr x lo hi | .slsl _ x lo hi => x.slots ++ AO.slotsO lo ++ AO.slotsO hi
  | .call x as _ => x.slots ++ AO.slotsL as
  | .mkfn _ a c => AO.slotsL a ++ AO.slotsL c
/-- The slots that it takes from. -/
def AOp.drops : AOp → List Nat
  | .mv true x => x.slots
  | .store _ _ x => x.slots
  | .append _ _ x _ => x.slots
  | _ => []
/-- It hands back a value and writes to nothing. -/
def AOp.quiet : AOp → Bool
  | .mv .. | .pick .. | .build .. | .bslice .. | .load _ _ false _ | .nilck _ | .bin .. | .eqa .. | .eqb .. | .eqp .. | .not _ | .neg _ | .conv .. | .cvs _ | .bstr _ | .mm .. | .slstr .. | .slsl .. | .faddr .. | .fld .. | .iaddr ..
  | .idxs .. | .lens _ | .len _ | .extract .. | .mkfn .. | .mkif .. => true
  | _ => false
/-- A load that takes. -/
def AOp.takes : AOp → Bool
  | .load none _ true _ => true
  | _ => false
/-- It writes to no object that was there, or says which. -/
def AOp.tame : AOp → Bool
  | .alloc _ | .box .. | .store .. | .append .. | .range _ => true
  | .load none _ true _ => true
  | .call _ _ (.read _) | .call _ _ .wide => true
  | o => o.quiet
def AIn.slots (i : AIn) : List Nat := (match i.guard with | some (j, _) => [j] | none => []) ++ i.op.slots
def AIn.writes (i : AIn) : List Nat := (match i.dst with | some d => [d] | none => []) ++ i.op.drops
def DIn.slots (d : DIn) : List Nat := d.ai.slots ++ AO.slotsO d.root ++ AO.slotsL d.chk
def disj (a b : List Nat) : Bool := a.all fun x => !(b.contains x)
/-- What it loads from. -/
def AOp.from? : AOp → Option AO
  | .load _ _ _ b => some b
  | _ => none
/-- It may hit objects that others load from. -/
def AOp.hits : AOp → Bool
  | .store .. | .load none _ true _ | .call _ _ .wide => true
  | _ => false
def sameAO : AO → AO → Bool
  | .t x, .t y => Nat.beq x y
  | _, _ => false
/-- A quiet operation, or a load that takes, may be overtaken. -/
def indep (p i : DIn) : Bool :=
  (p.ai.op.quiet || p.ai.op.takes) && i.ai.op.tame && disj p.ai.writes i.slots && disj p.ai.writes i.ai.writes && disj i.ai.writes p.slots &&
  (match p.ai.op.from? with
  | some _ => !i.ai.op.hits || (match p.root with
    | some r => i.chk.any (sameAO r)
    | none => false)
  | none => true)
/-- Waits one for another? -/
def ancB (ops : List Oper) : Nat → Nat → Nat → Bool
  | 0, _, _ => false
  | n + 1, p, i => match ops[i]? with
    | some o => o.after.toList.any fun e => Region.binds .any e && (Nat.beq e.on p || ancB ops n p e.on)
    | none => false
def okPairs (ops : List Oper) : List (Nat × DIn) → Bool
  | [] => true
  | p :: r => (r.all fun i => ancB ops ops.length p.1 i.1 || indep p.2 i.2) && okPairs ops r
/-- The quiet ones as soon as they may, and the others one by one. -/
def canon (ops : List Oper) (ais : List AIn) : Nat → List Nat → List Nat
  | 0, acc => acc
  | n + 1, acc =>
    let ready := (List.range ops.length).filter fun i => !(acc.contains i) && (match ops[i]? with | some o => o.after.toList.all fun e => !(Region.binds .any e) || acc.contains e.on | none => false)
    match ready.find? (fun i => match ais[i]? with | some a => a.op.quiet || a.op.takes | none => false) with
    | some i => canon ops ais n (acc ++ [i])
    | none => match ready with
      | i :: _ => canon ops ais n (acc ++ [i])
      | [] => acc
/-- Where an address begins. -/
def rootOf (ais : List AIn) : Nat → AO → AO
  | 0, x => x
  | n + 1, .t i => match ais.find? (fun a => match a.dst with | some d => Nat.beq d i | none => false) with
    | some a => match a.op with
      | .faddr _ x | .nilck x | .mv _ x => rootOf ais n x
      | _ => .t i
    | none => .t i
  | _, x => x
def rootAt (ais : List AIn) (a : AIn) : Option AO := a.op.from?.map (rootOf ais ais.length)
def chkOf (ops : List Oper) (ais : List AIn) (seen : List Nat) (i : Nat) (a : AIn) : List AO :=
  cond a.op.hits (seen.flatMap fun p => if ancB ops ops.length p i then [] else (match ais[p]? with | some b => (rootAt ais b).toList | none => [])) []
def mkDs (ops : List Oper) (ais : List AIn) : List Nat → List Nat → Option (List (Nat × DIn))
  | [], _ => some []
  | i :: r, seen => match ais[i]?, mkDs ops ais r (seen ++ [i]) with
    | some a, some l => some ((i, ⟨a, rootAt ais a, chkOf ops ais seen i a⟩) :: l)
    | _, _ => none
def okOrd (ops : List Oper) : List Nat → List Nat → Bool
  | [], _ => true
  | i :: r, seen => (match ops[i]? with | some o => o.after.toList.all (fun e => !(Region.binds .any e) || seen.contains e.on) | none => false) && okOrd ops r (seen ++ [i])
/-- A drawn region in an order that stands for all. -/
def trAny (P : Program) (cr : Option FuncId → Option CR) (ops : List Oper) : Option (List DIn) :=
  match trIns P cr ops ops with
  | some ais =>
    let ord := canon ops ais ops.length []
    match mkDs ops ais ord [] with
    | some ds => if P.follows .mixedOrders && okPairs ops ds && nodupB ord && (List.range ops.length).all (ord.contains ·) && okOrd ops ord [] && Nat.ble ord.length ops.length then some (ds.map (·.2)) else none
    | none => none
  | none => none

def hasEdge (ops : List Oper) (i j : Nat) : Bool := match ops[i]? with | some o => o.after.toList.any fun e => Region.binds .any e && Nat.beq e.on j | none => false
def edgesBelow (ops : List Oper) (i : Nat) : Bool := match ops[i]? with | some o => o.after.toList.all fun e => !(Region.binds .any e) || Nat.blt e.on i | none => false
/-- The last four wait for all others, and for one another. -/
def tailOK (ops : List Oper) (k : Nat) : Bool :=
  (List.range k).all (hasEdge ops k ·) && hasEdge ops (k + 1) k && hasEdge ops (k + 2) (k + 1) && hasEdge ops (k + 3) k && edgesBelow ops k && edgesBelow ops (k + 1) && edgesBelow ops (k + 2) && edgesBelow ops (k + 3)
def isTmp (x : Operand) (d : Nat) : Bool := match x with | .tmp i => Nat.beq i d | _ => false
/-- Append of a zero, the address of the new element, a store there, a store of the row. -/
def trTail (P : Program) (o6 o7 o8 o9 : Oper) (ds : List DIn) : Option ACode :=
  match o6.op, o6.dst, o7.op, o7.dst, o8.op, o9.op with
  | .call c, some d, .indexAddr t7 x x7, some tt, .store te x' x8, .store t9 y9 x9 => match c.callee, c.args.toList, c.argTypes.toList with
    | .builtin .append, [y, z], [t, u] => match P.underlying t7, P.underlying t, P.underlying u, trO P t y, trO P u z, trO' P x7, trO P te x8, trO' P y9 with
      | some (.slice e), some (.slice e1), some (.slice e2), some al, some az, some ai, some av, some ap =>
        if o6.guard.isNone && o7.guard.isNone && o8.guard.isNone && o9.guard.isNone && o8.dst.isNone && o9.dst.isNone && isTmp x d && isTmp x' tt && isTmp x9 d && !(Nat.beq d tt) && Nat.beq e te && Nat.beq e1 te && Nat.beq e2 te &&
          Nat.blt 0 (P.cellsOf te) && Nat.blt 0 (P.bytesOf te) && (zeroPV P te).isSome && (P.info? t9).isSome && Nat.beq (P.cellsOf t9) 1 && !(isTmp x7 d) && !(isTmp x8 d) && !(isTmp x8 tt) && !(isTmp y9 d) && !(isTmp y9 tt)
        then some (.rgrow ds (P.cellsOf te) (P.bytesOf te) al az ai av d tt ⟨none, .store none ap (.t d), none⟩) else none
      | _, _, _, _, _, _, _, _ => none
    | _, _, _ => none
  | _, _, _, _, _, _ => none
def trGrow (P : Program) (cr : Option FuncId → Option CR) (ops : List Oper) : Option ACode :=
  match trIns P cr ops ops with
  | some ais =>
    let k := ops.length - 4
    let ord := canon ops ais k []
    match mkDs ops ais ord [], ops[k]?, ops[k + 1]?, ops[k + 2]?, ops[k + 3]? with
    | some ds, some o6, some o7, some o8, some o9 =>
      if P.follows .mixedOrders && okPairs ops ds && nodupB ord && (List.range k).all (ord.contains ·) && ord.all (Nat.blt · k) && Nat.beq ord.length k && okOrd ops ord [] && Nat.ble 4 ops.length && tailOK ops k then trTail P o6 o7 o8 o9 (ds.map (·.2)) else none
    | _, _, _, _, _ => none
  | none => none

/-- What is let go where: beside the code. -/
inductive Ann where
  | auto
  | seq (m : Option (List Nat)) (a b : Ann)
  | two (a b : Ann)
  | one (a : Ann)
  | loop (keep : List Nat) (a : Ann)
def Ann.l : Ann → Ann
  | .auto => .auto
  | .seq _ a _ | .two a _ | .one a | .loop _ a => a
def Ann.r : Ann → Ann
  | .seq _ _ b | .two _ b => b
  | _ => .auto
def Ann.m : Ann → Option (List Nat)
  | .seq m _ _ => m
  | _ => none
def Ann.keep : Ann → Option (List Nat)
  | .loop k _ => some k
  | _ => none

def trC (P : Program) (cr : Option FuncId → Option CR) : Code → Ann → ACode
  | .skip, _ => .skip
  | .region _ ops false, _ => match trIns P cr ops.toList ops.toList with
    | some is => .region is
    | none => .stuck
  | .region _ ops true, _ => match trAny P cr ops.toList with
    | some ds => .rany ds
    | none => (trGrow P cr ops.toList).getD .stuck
  | .seq a b, x => match x.m with
    | none => .seq (trC P cr a x.l) (trC P cr b x.r)
    | some keep => .seq (trC P cr a x.l) (.mask keep (trC P cr b x.r))
  | .cond c a b, x => match trO' P c with
    | some c => .cond c (trC P cr a x.l) (trC P cr b x.r)
    | none => .stuck
  | .block id c, x => .block id (trC P cr c x.l)
  | .loop c, x => .loop x.keep (trC P cr c x.l)
  | .exit id, _ => .exit id
  | .ret, _ => .ret
  | _, _ => .stuck

def trRes (P : Program) : List ResultVar → Option (List ARes)
  | [] => some []
  | .tmp t :: r => (trRes P r).map (.tmp t :: ·)
  | .cell a t :: r => if (P.underlying t).isNone then none else if isAggB P t then match lay P t with
      | some l => (trRes P r).map (.cell (some l.length) a :: ·)
      | none => none
    else (trRes P r).map (.cell none a :: ·)

def trF (P : Program) (cr : Option FuncId → Option CR) (f : FuncId) (x : Ann) : Option AFn :=
  match P.funcs[f]? with
  | some fn => match fn.body, trRes P fn.results.toList with
    | some c, some rs => if fn.name = "runtime.NumGoroutine" then none else some ⟨fn.ntmps, rs, trC P cr c x⟩
    | _, _ => none
  | none => none
end Go.Cx
