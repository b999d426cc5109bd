/-
  An abstract interpreter over the model's code: values are held by value, the call's own variables lie in a list of blocks. This text holds the definitions alone; what they are worth is proved in the texts that import it.
-/
import Derived.Calls
import Derived.Orders
import Derived.KernelRfl
namespace Go.Abs

inductive Cell where
  | int (k : IntKind) (n : Int)
  | bool (b : Bool)
  | str (s : List UInt8)
  | slice (e : TypeId) (rows : List (List Cell))

abbrev Row := List Cell
abbrev Rows := List (List Cell)

inductive CK where
  | int (k : IntKind)
  | bool
  | str
  | slice (e : TypeId)
  | ptr
  | fn
  | other
  deriving DecidableEq, Inhabited

def IntKind.same : IntKind → IntKind → Bool
  | .i8, .i8 | .i16, .i16 | .i32, .i32 | .i64, .i64 | .u8, .u8 | .u16, .u16 | .u32, .u32 | .u64, .u64 => true
  | _, _ => false

def CK.same : CK → CK → Bool
  | .int j, .int k => IntKind.same j k
  | .bool, .bool | .str, .str | .ptr, .ptr | .fn, .fn => true
  | .slice d, .slice e => Nat.beq d e
  | _, _ => false

def Cell.kind : Cell → CK
  | .int k _ => .int k
  | .bool _ => .bool
  | .str _ => .str
  | .slice e _ => .slice e

/-- An abstract cell: what a slot or a cell of memory holds. -/
inductive AC where
  | int (k : IntKind) (n : Int)
  | bool (b : Bool)
  | str (s : List UInt8)
  | sl (own : Bool) (e : TypeId) (rows : List (List Cell))
  | nils
  | ptr (b o : Nat)
  | eptr (e : TypeId) (row : List Cell) (o : Nat)
  | nilp
  | fn (f : FuncId) (caps : List AC)
  | nilf
  | refs (l : List AC)
  | aptr (a : AC)
  /-- a slice whose elements may be written: so many of the block -/
  | msl (e : TypeId) (b n : Nat)
  /-- into an element of such a block -/
  | mptr (b : Nat) (e : TypeId) (i o : Nat)
  /-- a window on such a block: n rows from row lo on; its capacity, where it is known -/
  | win (e : TypeId) (b lo n : Nat) (c : Option Nat)
  /-- to the whole of such a block, as an array of n -/
  | parr (e : TypeId) (b n : Nat)
  deriving Inhabited

inductive AV where
  | undef
  | one (a : AC)
  | agg (l : List AC)
  | tup (l : List AV)
  deriving Inhabited

inductive Block where
  | var (cells : List AC)
  | dead
  | fro (e : TypeId) (rows : Rows)
  /-- the elements of slices that may be written -/
  | arr (e : TypeId) (rows : List (List Cell))
  deriving Inhabited

structure St where
  fr : List (Nat × AV)
  blk : List Block

/-- What one operation does: the value for its slot, the slot whose slice is owned no more, blocks written, blocks made, blocks read. -/
structure Upd where
  val : AV
  dis : Option Nat
  wr : List (Nat × Block)
  nu : List Block
  rd : List Nat

def Upd.pure (v : AV) : Upd := ⟨v, none, [], [], []⟩

inductive TD where
  | int (k : IntKind) | bool | str
  | slice (e : TypeId)
  | array (n : Nat) (e : TypeId)
  | struct (fields : List (Nat × TypeId))
  | ptr (e : TypeId)
  | fn
  | other

structure Ty where
  desc : TD
  size : Nat
  bytes : Nat
  kinds : List CK
  /-- its values are compared as a whole -/
  eq : Bool

inductive Pat where
  | int (k : IntKind)
  | bool
  | str
  | sl (own : Bool) (e : TypeId)
  | ptr (b o : Nat)
  | nilp
  | nilf
  | msl (e : TypeId) (b : Nat)
  | win (e : TypeId) (b : Nat)
  /-- alone in a block's list: the block's elements, a block that is no more -/
  | arrp (e : TypeId)
  | deadp

inductive PV where
  | one (p : Pat)
  | agg (l : List Pat)

/-- What a call hands back, and what the blocks that it was handed (and those it made) hold behind it. -/
structure Sig where
  res : List PV
  blks : List (List Pat)
  /-- what else it may be that it hands back -/
  alts : List (List PV × List (List Pat))

/-- Notes beside the code, which the soundness of the interpreter doesn't rest on. -/
inductive Ann where
  | leaf
  | seq (mask : Option (List (Nat × Bool))) (x y : Ann)
  | cond (x y : Ann)
  | sub (x : Ann)
  | loop (mask : List (Nat × Bool)) (x : Ann)
  | scope (mask : List (Nat × Bool)) (x rest : Ann)
  | reg (take : List Nat) (sigs : List (Nat × Sig))

structure AFunc where
  code : Code
  ann : Ann
  params : List TypeId
  results : List ResultVar
  ownp : List Nat
  ownr : List Nat
  ownb : Bool

/-- what a function is to the interpreter: its code, or a contract that is proved beside it -/
inductive FnDef where
  | code (f : AFunc)
  | prim (g : List AV → List Block → Option (List AV × List Block))

structure Env where
  tys : Nat → Option Ty
  funcs : Nat → Option (Sig × FnDef)

/- THE FRAME -/

def get : List (Nat × AV) → Nat → AV
  | [], _ => .undef
  | (u, v) :: r, t => cond (Nat.beq u t) v (get r t)

def del : List (Nat × AV) → Nat → List (Nat × AV)
  | [], _ => []
  | (u, v) :: r, t => cond (Nat.beq u t) (del r t) ((u, v) :: del r t)

def set (fr : List (Nat × AV)) (t : Nat) (v : AV) : List (Nat × AV) := (t, v) :: del fr t

def put (fr : List (Nat × AV)) : Option Nat → AV → List (Nat × AV)
  | none, _ => fr
  | some t, v => set fr t v

def memN : List Nat → Nat → Bool
  | [], _ => false
  | x :: r, t => cond (Nat.beq x t) true (memN r t)

def AC.dis : AC → AC
  | .sl _ e r => .sl false e r
  | a => a

def AC.owns : AC → Bool
  | .sl o _ _ => o
  | _ => false

def disL : List AC → List AC
  | [] => []
  | a :: r => a.dis :: disL r

def AV.dis : AV → AV
  | .one a => .one a.dis
  | .agg l => .agg (disL l)
  | .tup l => .tup (go l)
  | .undef => .undef
where
  go : List AV → List AV
    | [] => []
    | v :: r => v.dis :: go r

def disT (fr : List (Nat × AV)) : Option Nat → List (Nat × AV)
  | none => fr
  | some t => set fr t (get fr t).dis

def nth {α : Type} : List α → Nat → Option α
  | [], _ => none
  | x :: _, 0 => some x
  | _ :: r, n + 1 => nth r n

def setN {α : Type} : List α → Nat → α → List α
  | [], _, _ => []
  | _ :: r, 0, y => y :: r
  | x :: r, n + 1, y => x :: setN r n y

def lenN {α : Type} : List α → Nat
  | [] => 0
  | _ :: r => lenN r + 1

def writes (bs : List Block) : List (Nat × Block) → List Block
  | [] => bs
  | (k, c) :: r => writes (setN bs k c) r

def app {α : Type} : List α → List α → List α
  | [], r => r
  | x :: l, r => x :: app l r

def St.apply (st : St) (dst : Option Nat) (u : Upd) : St :=
  ⟨put (disT st.fr u.dis) dst u.val, app (writes st.blk u.wr) u.nu⟩

/- READING ROWS -/

def cellAt : Row → Nat → Cell
  | [], _ => .bool false
  | c :: _, 0 => c
  | _ :: r, j + 1 => cellAt r j

def Cell.toInt : Cell → Int | .int _ n => n | _ => 0
def Cell.toBool : Cell → Bool | .bool b => b | _ => false
def Cell.toStr : Cell → List UInt8 | .str s => s | _ => []
def Cell.toRows : Cell → Rows | .slice _ r => r | _ => []

def projCell (row : Row) (j : Nat) : CK → Option AC
  | .int k => some (.int k (cellAt row j).toInt)
  | .bool => some (.bool (cellAt row j).toBool)
  | .str => some (.str (cellAt row j).toStr)
  | .slice e => some (.sl false e (cellAt row j).toRows)
  | _ => none

def rowAt : Rows → Nat → Row
  | [], _ => []
  | r :: _, 0 => r
  | _ :: rs, i + 1 => rowAt rs i

def AC.toCell : AC → Option Cell
  | .int k n => some (.int k n)
  | .bool b => some (.bool b)
  | .str s => some (.str s)
  | .sl _ e r => some (.slice e r)
  | _ => none

def fitK : CK → AC → AC
  | .slice e, .nils => .sl true e []
  | _, a => a

def zeroK : CK → Option AC
  | .int k => some (.int k 0)
  | .bool => some (.bool false)
  | .str => some (.str [])
  | .slice e => some (.sl true e [])
  | .ptr => some .nilp
  | .fn => some .nilf
  | .other => none

section cps
variable {β : Type}

def zerosK : List CK → (List AC → Option β) → Option β
  | [], K => K []
  | k :: ks, K => match zeroK k with
    | some a => zerosK ks fun r => K (a :: r)
    | none => none

def projK (row : Row) : List CK → Nat → (List AC → Option β) → Option β
  | [], _, K => K []
  | k :: ks, j, K => match projCell row j k with
    | some a => projK row ks (j + 1) fun r => K (a :: r)
    | none => none

def fitL : List CK → List AC → List AC
  | k :: ks, a :: r => fitK k a :: fitL ks r
  | _, r => r

/-- a row of cells out of abstract cells, of the kinds that are wanted -/
def rowK : List CK → List AC → (Row → Option β) → Option β
  | [], [], K => K []
  | k :: ks, a :: r, K => match (fitK k a).toCell with
    | some c => cond (CK.same c.kind k) (rowK ks r fun cs => K (c :: cs)) none
    | none => none
  | _, _, _ => none

def takeK : List AC → Nat → Nat → (List AC → Option β) → Option β
  | _, _, 0, K => K []
  | [], _, _ + 1, _ => none
  | a :: r, 0, n + 1, K => takeK r 0 n fun l => K (a :: l)
  | _ :: r, o + 1, n + 1, K => takeK r o (n + 1) K

def storeK : List AC → Nat → List AC → (List AC → Option β) → Option β
  | l, _, [], K => K l
  | [], _, _ :: _, _ => none
  | _ :: r, 0, x :: xs, K => storeK r 0 xs fun l => K (x :: l)
  | a :: r, o + 1, x :: xs, K => storeK r o (x :: xs) fun l => K (a :: l)

def dropN {α : Type} : List α → Nat → List α
  | l, 0 => l
  | [], _ => []
  | _ :: r, n + 1 => dropN r n

def takeN {α : Type} : List α → Nat → List α
  | _, 0 => []
  | [], _ => []
  | x :: r, n + 1 => x :: takeN r n

end cps

def constC : Value → Option AC
  | .int k n => some (.int k n)
  | .bool b => some (.bool b)
  | .string s => some (.str s.data.toList)
  | .pointer none => some .nilp
  | .slice none 0 0 => some .nils
  | .nilFunc => some .nilf
  | _ => none

def constL : List Value → Option (List AC)
  | [] => some []
  | v :: r => match constC v, constL r with
    | some a, some l => some (a :: l)
    | _, _ => none

def constV : Value → AV
  | .agg cs => match constL cs.toList with | some l => .agg l | none => .undef
  | v => match constC v with | some a => .one a | none => .undef

def ev (fr : List (Nat × AV)) : Operand → AV
  | .tmp t => get fr t
  | .const v => constV v
  | .func f => .one (.fn f [])
  | .global _ => .undef

def tmpOf : Operand → Option Nat
  | .tmp t => some t
  | _ => none

def Env.fit (E : Env) (t : TypeId) (v : AV) : AV :=
  match E.tys t with
  | none => v
  | some ty => match v with
    | .one a => match ty.kinds with | [k] => .one (fitK k a) | _ => v
    | .agg l => .agg (fitL ty.kinds l)
    | v => v

/-- the greatest number of elements that an append may come to -/
def LIM : Nat := 4294967296
def fits (n : Nat) : Bool := Nat.ble n LIM

def isNilL {α : Type} : List α → Bool
  | [] => true
  | _ => false


/-- a part of a list of rows -/
def subL {α : Type} (l : List α) (lo hi : Nat) : List α := dropN (takeN l hi) lo

/-- the rows with others from a place on -/
def overL (rows : Rows) (o : Nat) (ys : Rows) : Rows := app (takeN rows o) (app ys (dropN rows (o + lenN ys)))

def minN (a b : Nat) : Nat := cond (Nat.ble a b) a b

def Upd.reads (u : Upd) (rd : List Nat) : Upd := ⟨u.val, u.dis, u.wr, u.nu, app rd u.rd⟩

section ops
variable {β : Type} (E : Env)

def scalarTy (e : TypeId) : Bool :=
  match E.tys e with
  | some te => match te.desc with
    | .int _ => true
    | _ => false
  | none => false

/-- what a slice shows now, and the block that is looked at for it -/
def srcK (st : St) (y : AV) (K : AV → List Nat → Option β) : Option β :=
  match y with
  | .one (.msl e b n) => match nth st.blk b with
    | some (.arr e' rows) => cond (Nat.beq e e' && scalarTy E e) (cond (Nat.beq n rows.length) (K (.one (.sl false e rows)) [b]) none) none
    | _ => none
  | .one (.win e b lo n _) => match nth st.blk b with
    | some (.arr e' rows) => cond (Nat.beq e e' && scalarTy E e) (cond (Nat.ble (lo + n) rows.length) (K (.one (.sl false e (subL rows lo (lo + n)))) [b]) none) none
    | _ => none
  | y => K y []

def pureK (v : AV) (K : Upd → Option β) : Option β := K (Upd.pure v)
def intK (k : IntKind) (n : Int) (K : Upd → Option β) : Option β := K (Upd.pure (.one (.int k n)))
def boolK (b : Bool) (K : Upd → Option β) : Option β := K (Upd.pure (.one (.bool b)))

def andI (k : IntKind) (x y : Int) : Int := k.wrap ((BitVec.ofInt k.bits x &&& BitVec.ofInt k.bits y).toNat)
def orI (k : IntKind) (x y : Int) : Int := k.wrap ((BitVec.ofInt k.bits x ||| BitVec.ofInt k.bits y).toNat)
def xorI (k : IntKind) (x y : Int) : Int := k.wrap ((BitVec.ofInt k.bits x ^^^ BitVec.ofInt k.bits y).toNat)
def andNotI (k : IntKind) (x y : Int) : Int := k.wrap ((BitVec.ofInt k.bits x &&& ~~~(BitVec.ofInt k.bits y)).toNat)
def shlI (k : IntKind) (x y : Int) : Int := k.wrap (x * 2 ^ (min y.toNat k.bits))
def shrI (k : IntKind) (x y : Int) : Int := x.fdiv (2 ^ (min y.toNat k.bits))

def bytesLess : List UInt8 → List UInt8 → Bool
  | _, [] => false
  | [], _ :: _ => true
  | a :: x, b :: y => a < b || (a == b && bytesLess x y)

/-- two cells of one plain kind -/
def eqC : AC → AC → Option Bool
  | .int j a, .int k b => cond (IntKind.same j k) (some (a == b)) none
  | .bool a, .bool b => some (a == b)
  | .str a, .str b => some (a == b)
  | .nilp, .nilp => some true
  | .nilp, .ptr _ _ => some false
  | .ptr _ _, .nilp => some false
  | _, _ => none

def both (p : Bool) : Option Bool → Option Bool
  | some q => some (p && q)
  | none => none

def eqL : List CK → List AC → List AC → Option Bool
  | [], [], [] => some true
  | .int j :: ks, .int k a :: x, .int l b :: y => cond (IntKind.same j k && IntKind.same j l) (both (a == b) (eqL ks x y)) none
  | .bool :: ks, .bool a :: x, .bool b :: y => both (a == b) (eqL ks x y)
  | .str :: ks, .str a :: x, .str b :: y => both (a == b) (eqL ks x y)
  | _, _, _ => none

def okEq : TD → AC → Bool
  | .bool, .bool _ => true
  | .ptr _, .nilp => true
  | .ptr _, .ptr _ _ => true
  | _, _ => false

def binK (op : BinOp) (t : TypeId) (x y : AV) (K : Upd → Option β) : Option β :=
  match x, y with
  | .one (.int j a), .one (.int k b) => match op with
    | .shl => cond (decide (b < 0)) none (intK j (shlI j a b) K)
    | .shr => cond (decide (b < 0)) none (intK j (shrI j a b) K)
    | _ => cond (IntKind.same j k) (match op with
      | .add => intK j (j.wrap (a + b)) K
      | .sub => intK j (j.wrap (a - b)) K
      | .mul => intK j (j.wrap (a * b)) K
      | .quo => cond (decide (b = 0)) none (intK j (j.wrap (a.tdiv b)) K)
      | .rem => cond (decide (b = 0)) none (intK j (a.tmod b) K)
      | .and => intK j (andI j a b) K
      | .or => intK j (orI j a b) K
      | .xor => intK j (xorI j a b) K
      | .andNot => intK j (andNotI j a b) K
      | .eql => boolK (a == b) K
      | .neq => boolK (a != b) K
      | .lss => boolK (decide (a < b)) K
      | .leq => boolK (decide (a ≤ b)) K
      | .gtr => boolK (decide (a > b)) K
      | .geq => boolK (decide (a ≥ b)) K
      | _ => none) none
  | .one (.str a), .one (.str b) => match op with
    | .add => cond (fits (a.length + b.length)) (pureK (.one (.str (app a b))) K) none
    | .eql => boolK (a == b) K
    | .neq => boolK (!(a == b)) K
    | .lss => boolK (bytesLess a b) K
    | .leq => boolK (bytesLess a b || (a == b)) K
    | .gtr => boolK (!(bytesLess a b || (a == b))) K
    | .geq => boolK (!(bytesLess a b)) K
    | _ => none
  | .one (.sl _ _ rows), .one .nils => match E.tys t with
    | some ty => match ty.desc with
      | .slice _ => cond (isNilL rows) none (match op with
        | .eql => boolK false K
        | .neq => boolK true K
        | _ => none)
      | _ => none
    | none => none
  | .one a, .one b => match E.tys t with
    | some ty => cond (okEq ty.desc a) (match op, eqC a b with
      | .eql, some p => boolK p K
      | .neq, some p => boolK (!p) K
      | _, _ => none) none
    | none => none
  | .agg a, .agg b => match E.tys t with
    | some ty => cond ty.eq (match op, eqL ty.kinds a b with
      | .eql, some p => boolK p K
      | .neq, some p => boolK (!p) K
      | _, _ => none) none
    | none => none
  | _, _ => none

def unK (op : UnOp) (x : AV) (K : Upd → Option β) : Option β :=
  match op, x with
  | .neg, .one (.int k n) => intK k (k.wrap (0 - n)) K
  | .xor, .one (.int k n) => intK k (xorI k (cond k.signed (-1) k.max) n) K
  | .not, .one (.bool b) => boolK (!b) K
  | _, _ => none

def byteRow (b : UInt8) : Row := [.int .u8 b.toNat]
def rowByte (r : Row) : UInt8 := UInt8.ofNat (cellAt r 0).toInt.toNat
def toBytes : Rows → List UInt8
  | [] => []
  | r :: rs => rowByte r :: toBytes rs
def ofBytes : List UInt8 → Rows
  | [] => []
  | b :: r => byteRow b :: ofBytes r

def convK (src dst : TypeId) (x : AV) (K : Upd → Option β) : Option β :=
  match E.tys src, E.tys dst with
  | some ts, some td => match x with
    | .one (.int _ n) => match td.desc with
      | .int k => intK k (k.wrap n) K
      | _ => none
    | .one (.str s) => match td.desc with
      | .str => pureK (.one (.str s)) K
      | .slice e => match E.tys e with
        | some te => match te.desc with
          | .int .u8 => cond (fits s.length) (pureK (.one (.sl true e (ofBytes s))) K) none
          | _ => none
        | none => none
      | _ => none
    | .one (.sl _ e r) => match td.desc, ts.desc, E.tys e with
      | .str, .slice e', some te => match te.desc with
        | .int .u8 => cond (Nat.beq e e') (pureK (.one (.str (toBytes r))) K) none
        | _ => none
      | _, _, _ => none
    | .one .nils => match td.desc, ts.desc with
      | .str, .slice e => match E.tys e with
        | some te => match te.desc with
          | .int .u8 => pureK (.one (.str [])) K
          | _ => none
        | none => none
      | _, _ => none
    | _ => none
  | _, _ => none

/-- the slot's value as memory and rows take it: its cells -/
def cellsK (ty : Ty) (v : AV) (K : List AC → Option β) : Option β :=
  match v with
  | .one a => match ty.kinds with | [k] => K [fitK k a] | _ => none
  | .agg l => cond (Nat.beq (lenN l) ty.size) (K (fitL ty.kinds l)) none
  | _ => none

def TD.isAgg : TD → Bool
  | .struct _ => true
  | .array _ _ => true
  | _ => false

def valueK (ty : Ty) (l : List AC) (K : AV → Option β) : Option β :=
  match ty.desc.isAgg, l with
  | true, l => K (.agg l)
  | false, [a] => K (.one a)
  | _, _ => none

def sameKinds : List CK → List CK → Bool
  | [], [] => true
  | a :: x, b :: y => cond (CK.same a b) (sameKinds x y) false
  | _, _ => false

def loadK (tk : Bool) (t : TypeId) (st : St) (p : AV) (K : Upd → Option β) : Option β :=
  match E.tys t with
  | none => none
  | some ty => match p with
    | .one (.ptr b o) => match nth st.blk b with
      | some (.var cells) => takeK cells o ty.size fun l => valueK ty l fun v => match tk with
        | false => K ⟨v.dis, none, [], [], [b]⟩
        | true => storeK cells o (disL l) fun cells' => K ⟨v, none, [(b, .var cells')], [], [b]⟩
      | _ => none
    | .one (.eptr e row o) => match E.tys e with
      | some te => cond (sameKinds (takeN (dropN te.kinds o) ty.size) ty.kinds) (projK row ty.kinds o fun l => valueK ty l fun v => K (Upd.pure v)) none
      | none => none
    | .one (.aptr a) => match ty.kinds with | [_] => valueK ty [a.dis] fun v => K (Upd.pure v) | _ => none
    | .one (.mptr b e i o) => match nth st.blk b with
      | some (.arr e' rows) => match E.tys e with
        | some te => cond (Nat.beq e e' && sameKinds (takeN (dropN te.kinds o) ty.size) ty.kinds) (cond (Nat.blt i rows.length) (projK (rowAt rows i) ty.kinds o fun l => valueK ty l fun v => K ⟨v, none, [], [], [b]⟩) none) none
        | none => none
      | _ => none
    | _ => none

/-- the row with other cells from a place on -/
def setCells (row : Row) (o : Nat) (cs : Row) : Row := app (takeN row o) (app cs (dropN row (o + lenN cs)))

def storeOpK (t : TypeId) (st : St) (p v : AV) (dis : Option Nat) (K : Upd → Option β) : Option β :=
  match E.tys t with
  | none => none
  | some ty => match p with
    | .one (.ptr b o) => match nth st.blk b with
      | some (.var cells) => cellsK ty v fun l => storeK cells o l fun cells' => K ⟨.undef, dis, [(b, .var cells')], [], [b]⟩
      | _ => none
    | .one (.mptr b e i o) => match nth st.blk b with
      | some (.arr e' rows) => match E.tys e with
        | some te => cond (Nat.beq e e' && sameKinds (takeN (dropN te.kinds o) ty.size) ty.kinds) (cond (Nat.blt i rows.length) (cellsK ty v fun l => rowK ty.kinds l fun cs => K ⟨.undef, none, [(b, .arr e (setN rows i (setCells (rowAt rows i) o cs)))], [], [b]⟩) none) none
        | none => none
      | _ => none
    | _ => none

def inB (i : Int) (n : Nat) : Bool := decide (0 ≤ i ∧ i < n)

def indexAddrK (t : TypeId) (x i : AV) (K : Upd → Option β) : Option β :=
  match E.tys t with
  | none => none
  | some ty => match x, i with
    | .one (.sl _ e rows), .one (.int _ n) => match ty.desc with
      | .slice e' => cond (Nat.beq e e') (cond (inB n rows.length) (pureK (.one (.eptr e (rowAt rows n.toNat) 0)) K) none) none
      | _ => none
    | .one (.refs l), .one (.int _ n) => match ty.desc with
      | .slice e => match E.tys e with
        | some te => cond (Nat.beq te.size 1) (cond (inB n (lenN l)) (match nth l n.toNat with | some a => pureK (.one (.aptr a)) K | none => none) none) none
        | none => none
      | _ => none
    | .one (.ptr b o), .one (.int _ n) => match ty.desc with
      | .array len e => match E.tys e with
        | some te => cond (inB n len) (pureK (.one (.ptr b (o + n.toNat * te.size))) K) none
        | none => none
      | _ => none
    | .one (.msl e b m), .one (.int _ n) => match ty.desc with
      | .slice e' => cond (Nat.beq e e') (cond (inB n m) (pureK (.one (.mptr b e n.toNat 0)) K) none) none
      | _ => none
    | .one (.win e b lo m _), .one (.int _ n) => match ty.desc with
      | .slice e' => cond (Nat.beq e e') (cond (inB n m) (pureK (.one (.mptr b e (lo + n.toNat) 0)) K) none) none
      | _ => none
    | _, _ => none

def fieldAt (s : TypeId) (f : Nat) : Option (Nat × Ty) :=
  match E.tys s with
  | some ty => match ty.desc with
    | .struct fs => match nth fs f with
      | some (off, ft) => match E.tys ft with
        | some tf => some (off, tf)
        | none => none
      | none => none
    | _ => none
  | none => none

def fieldAddrK (s : TypeId) (x : AV) (f : Nat) (K : Upd → Option β) : Option β :=
  match fieldAt E s f with
  | some (off, _) => match x with
    | .one (.ptr b o) => pureK (.one (.ptr b (o + off))) K
    | .one (.eptr e row o) => pureK (.one (.eptr e row (o + off))) K
    | .one (.mptr b e i o) => pureK (.one (.mptr b e i (o + off))) K
    | _ => none
  | none => none

def fieldK (s : TypeId) (x : AV) (f : Nat) (K : Upd → Option β) : Option β :=
  match fieldAt E s f with
  | some (off, tf) => match x with
    | .agg l => takeK l off tf.size fun cs => valueK tf cs fun v => pureK v.dis K
    | _ => none
  | none => none

def indexK (t : TypeId) (x i : AV) (K : Upd → Option β) : Option β :=
  match x, i with
  | .one (.str s), .one (.int _ n) => match E.tys t with
    | some ty => match ty.desc with
      | .str => cond (inB n s.length) (intK .u8 (s.getD n.toNat 0).toNat K) none
      | _ => none
    | none => none
  | _, _ => none

def asI : AV → Option Int
  | .one (.int _ n) => some n
  | _ => none

def sliceRK (own : Bool) (e : TypeId) (rows : Rows) (lo hi mx : Option AV) (K : AV → Option β) : Option β :=
  match lo, hi, mx with
  | none, none, none => K (.one (.sl own e rows))
  | some l, none, none => match asI l with
    | some l => cond (inB l (rows.length + 1)) (K (.one (.sl own e (dropN rows l.toNat)))) none
    | none => none
  | none, some h, none => match asI h with
    | some h => cond (inB h (rows.length + 1)) (K (.one (.sl false e (takeN rows h.toNat)))) none
    | none => none
  | some l, some h, none => match asI l, asI h with
    | some l, some h => cond (inB h (rows.length + 1)) (cond (inB l (h.toNat + 1)) (K (.one (.sl false e (subL rows l.toNat h.toNat)))) none) none
    | _, _ => none
  | none, some h, some m => match asI h, asI m with
    | some h, some m => cond (inB m (rows.length + 1)) (cond (decide (h = m)) (K (.one (.sl true e (takeN rows h.toNat)))) none) none
    | _, _ => none
  | some l, some h, some m => match asI l, asI h, asI m with
    | some l, some h, some m => cond (inB m (rows.length + 1)) (cond (decide (h = m)) (cond (inB l (h.toNat + 1)) (K (.one (.sl true e (subL rows l.toNat h.toNat)))) none) none) none
    | _, _, _ => none
  | _, _, _ => none

def sliceSK (s : List UInt8) (lo hi : Option AV) (K : AV → Option β) : Option β :=
  match lo, hi with
  | none, none => K (.one (.str s))
  | some l, none => match asI l with
    | some l => cond (inB l (s.length + 1)) (K (.one (.str (dropN s l.toNat)))) none
    | none => none
  | none, some h => match asI h with
    | some h => cond (inB h (s.length + 1)) (K (.one (.str (takeN s h.toNat)))) none
    | none => none
  | some l, some h => match asI l, asI h with
    | some l, some h => cond (inB h (s.length + 1)) (cond (inB l (h.toNat + 1)) (K (.one (.str (subL s l.toNat h.toNat)))) none) none
    | _, _ => none

/-- a part of what may be written -/
def sliceWK (e : TypeId) (b lo0 n : Nat) (c : Option Nat) (lo hi mx : Option AV) (K : AV → Option β) : Option β :=
  match lo, hi, mx with
  | none, none, none => K (.one (.win e b lo0 n c))
  | some l, none, none => match asI l with
    | some l => cond (inB l (n + 1)) (K (.one (.win e b (lo0 + l.toNat) (n - l.toNat) none))) none
    | none => none
  | none, some h, none => match asI h with
    | some h => cond (inB h (n + 1)) (K (.one (.win e b lo0 h.toNat c))) none
    | none => none
  | some l, some h, none => match asI l, asI h with
    | some l, some h => cond (inB h (n + 1)) (cond (inB l (h.toNat + 1)) (K (.one (.win e b (lo0 + l.toNat) (h.toNat - l.toNat) none))) none) none
    | _, _ => none
  | none, some h, some m => match asI h, asI m with
    | some h, some m => cond (inB m (n + 1)) (cond (decide (h = m)) (K (.one (.win e b lo0 h.toNat none))) none) none
    | _, _ => none
  | some l, some h, some m => match asI l, asI h, asI m with
    | some l, some h, some m => cond (inB m (n + 1)) (cond (decide (h = m)) (cond (inB l (h.toNat + 1)) (K (.one (.win e b (lo0 + l.toNat) (h.toNat - l.toNat) none))) none) none) none
    | _, _, _ => none
  | _, _, _ => none

def sliceK (t : TypeId) (dis : Option Nat) (x : AV) (lo hi mx : Option AV) (K : Upd → Option β) : Option β :=
  match E.tys t with
  | none => none
  | some ty => match x with
    | .one (.sl own e rows) => match ty.desc with
      | .slice e' => match E.tys e with
        | some _ => cond (Nat.beq e e') (sliceRK own e rows lo hi mx fun v => K ⟨v, dis, [], [], []⟩) none
        | none => none
      | _ => none
    | .one (.str s) => match ty.desc, mx with
      | .str, none => sliceSK s lo hi fun v => pureK v K
      | _, _ => none
    | .one (.msl e b n) => match ty.desc with
      | .slice e' => cond (Nat.beq e e') (cond (Nat.blt 0 n) (sliceWK e b 0 n none lo hi mx fun v => pureK v K) none) none
      | _ => none
    | .one (.win e b lo0 n c) => match ty.desc with
      | .slice e' => cond (Nat.beq e e') (sliceWK e b lo0 n c lo hi mx fun v => pureK v K) none
      | _ => none
    | .one (.parr e b n) => match ty.desc with
      | .array m e' => cond (Nat.beq e e' && Nat.beq n m) (sliceWK e b 0 n (some n) lo hi mx fun v => pureK v K) none
      | _ => none
    | _ => none

def ownNil (e : TypeId) : AV → AV
  | .one .nils => .one (.sl true e [])
  | v => v

def TD.source : TD → Bool
  | .slice _ => true
  | .str => true
  | _ => false

def appendK (t t2 : TypeId) (dis : Option Nat) (x y : AV) (K : Upd → Option β) : Option β :=
  match E.tys t, E.tys t2 with
  | none, _ => none
  | _, none => none
  | some ty, some ty2 => cond ty2.desc.source (match ty.desc with
    | .slice e => match E.tys e with
      | some te => cond (Nat.ble te.bytes 4096) (match ownNil e x, y with
        | .one (.sl true e' rows), .one (.sl _ e'' ys) => cond (Nat.beq e e' && Nat.beq e e'') (cond (fits (rows.length + ys.length)) (K ⟨.one (.sl true e (rows ++ ys)), dis, [], [], []⟩) none) none
        | .one (.sl true e' rows), .one .nils => cond (Nat.beq e e') (cond (fits rows.length) (K ⟨.one (.sl true e rows), dis, [], [], []⟩) none) none
        | .one (.sl true e' rows), .one (.str s) => match te.desc with
          | .int .u8 => cond (Nat.beq e e') (cond (fits (rows.length + s.length)) (K ⟨.one (.sl true e (rows ++ ofBytes s)), dis, [], [], []⟩) none) none
          | _ => none
        | _, _ => none) none
      | none => none
    | _ => none) none

/-- an append to a slice whose elements may be written: the block gives way to a new one -/
def mappK (t t2 : TypeId) (e : TypeId) (b n : Nat) (st : St) (y : AV) (K : Upd → Option β) : Option β :=
  match E.tys t, E.tys t2 with
  | some ty, some ty2 => cond ty2.desc.source (match ty.desc with
    | .slice e0 => match E.tys e with
      | some te => cond (Nat.beq e e0 && Nat.ble te.bytes 4096) (match nth st.blk b, y with
        | some (.arr e' rows), .one (.sl _ e'' ys) => cond (Nat.beq e e' && Nat.beq e e'') (cond (Nat.beq n rows.length) (cond (fits (rows.length + ys.length))
            (K ⟨.one (.msl e (lenN st.blk) (rows.length + ys.length)), none, [(b, .dead)], [.arr e (rows ++ ys)], [b]⟩) none) none) none
        | _, _ => none) none
      | none => none
    | _ => none) none
  | _, _ => none

/-- an append to a window that has room: the rows behind it are written -/
def wappK (t t2 : TypeId) (e : TypeId) (b lo n c : Nat) (st : St) (y : AV) (K : Upd → Option β) : Option β :=
  match E.tys t, E.tys t2 with
  | some ty, some ty2 => cond ty2.desc.source (match ty.desc with
    | .slice e0 => cond (Nat.beq e e0) (match nth st.blk b, y with
        | some (.arr e' rows), .one (.sl _ e'' ys) => cond (Nat.beq e e' && Nat.beq e e'') (cond (Nat.blt 0 rows.length) (cond (Nat.ble (n + ys.length) c) (cond (Nat.ble (lo + n + ys.length) rows.length)
            (K ⟨.one (.win e b lo (n + ys.length) (some c)), none, [(b, .arr e (overL rows (lo + n) ys))], [], [b]⟩) none) none) none) none
        | _, _ => none) none
    | _ => none) none
  | _, _ => none

def okMake (n m : Int) : Bool := decide (0 ≤ n ∧ n ≤ m) && fits m.toNat

/-- zeros appended to such a slice -/
def mzappK (t t2 : TypeId) (e : TypeId) (b n : Nat) (st : St) (k : Int) (K : Upd → Option β) : Option β :=
  match E.tys t, E.tys t2 with
  | some ty, some ty2 => match ty.desc, ty2.desc with
    | .slice e0, .int _ => match E.tys e with
      | some te => cond (Nat.beq e e0 && Nat.ble te.bytes 4096) (match nth st.blk b with
        | some (.arr e' rows) => cond (Nat.beq e e') (cond (Nat.beq n rows.length) (cond (okMake k k) (cond (fits (rows.length + k.toNat)) (zerosK te.kinds fun z => rowK te.kinds z fun row =>
            K ⟨.one (.msl e (lenN st.blk) (rows.length + k.toNat)), none, [(b, .dead)], [.arr e (rows ++ List.replicate k.toNat row)], [b]⟩) none) none) none) none
        | _ => none) none
      | none => none
    | _, _ => none
  | _, _ => none

def appAnyK (t t2 : TypeId) (dis : Option Nat) (x : AV) (st : St) (y : AV) (K : Upd → Option β) : Option β :=
  match x with
  | .one (.msl e b n) => match y with
    | .one (.int _ k) => mzappK E t t2 e b n st k K
    | y => mappK E t t2 e b n st y K
  | .one (.win e b lo n (some c)) => wappK E t t2 e b lo n c st y K
  | v => appendK E t t2 dis v y K

/-- rows copied over those of a block -/
def copyBK (e0 e : TypeId) (b lo n : Nat) (st : St) (y : AV) (K : Upd → Option β) : Option β :=
  match nth st.blk b, y with
  | some (.arr e' rows), .one (.sl _ e'' ys) => cond (Nat.beq e e0 && (Nat.beq e e' && Nat.beq e e'')) (cond (Nat.blt 0 rows.length) (cond (Nat.ble (lo + n) rows.length)
      (K ⟨.one (.int .i64 (minN n ys.length)), none, [(b, .arr e (overL rows lo (takeN ys (minN n ys.length))))], [], [b]⟩) none) none) none
  | _, _ => none

def copyK (t : TypeId) (x : AV) (st : St) (y : AV) (K : Upd → Option β) : Option β :=
  match E.tys t with
  | none => none
  | some ty => match ty.desc with
    | .slice e0 => match x with
      | .one (.msl e b n) => cond (Nat.blt 0 n) (copyBK e0 e b 0 n st y K) none
      | .one (.win e b lo n _) => copyBK e0 e b lo n st y K
      | _ => none
    | _ => none

/-- the nil slice taken for one whose elements may be written -/
def thawK (t : TypeId) (st : St) (x : AV) (K : Upd → Option β) : Option β :=
  match E.tys t with
  | some ty => match ty.desc, x with
    | .slice e, .one .nils => match E.tys e with
      | some _ => K ⟨.one (.msl e (lenN st.blk) 0), none, [], [.arr e []], []⟩
      | none => none
    | _, .one (.msl e b n) => K ⟨.one (.msl e b n), none, [], [], []⟩
    | _, _ => none
  | none => none

/-- an empty slice that is built, taken for one whose elements may be written -/
def thawBK (t : TypeId) (len : Nat) (st : St) (K : Upd → Option β) : Option β :=
  match E.tys t with
  | some ty => match ty.desc with
    | .slice e => match E.tys e with
      | some _ => cond (Nat.beq len 0) (K ⟨.one (.msl e (lenN st.blk) 0), none, [], [.arr e []], []⟩) none
      | none => none
    | _ => none
  | none => none

/-- .. and back: its block is no more -/
def freezeK (st : St) (x : AV) (K : Upd → Option β) : Option β :=
  match x with
  | .one (.sl _ e rows) => K ⟨.one (.sl false e rows), none, [], [], []⟩
  | .one (.msl e b n) => match nth st.blk b with
    | some (.arr e' rows) => cond (Nat.beq e e') (cond (Nat.beq n rows.length) (K ⟨.one (.sl false e rows), none, [(b, .fro e rows)], [], [b]⟩) none) none
    | some (.fro e' rows) => cond (Nat.beq e e') (cond (Nat.beq n rows.length) (K ⟨.one (.sl false e rows), none, [], [], [b]⟩) none) none
    | _ => none
  | .one (.win e b lo n _) => match nth st.blk b with
    | some (.arr e' rows) => cond (Nat.beq e e') (cond (Nat.ble (lo + n) rows.length) (K ⟨.one (.sl false e (subL rows lo (lo + n))), none, [(b, .fro e rows)], [], [b]⟩) none) none
    | _ => none
  | _ => none

def lenK (t : TypeId) (x : AV) (K : Upd → Option β) : Option β :=
  match E.tys t with
  | none => none
  | some ty => match x, ty.desc with
    | .one (.sl _ _ rows), .slice _ => intK .i64 rows.length K
    | .one .nils, .slice _ => intK .i64 0 K
    | .one (.refs l), .slice _ => intK .i64 (lenN l) K
    | .one (.str s), .str => intK .i64 s.length K
    | .one (.msl _ _ n), .slice _ => intK .i64 n K
    | .one (.win _ _ _ n _), .slice _ => intK .i64 n K
    | _, _ => none

def buildK (t : TypeId) (parts : List (Nat × AV)) (K : Upd → Option β) : Option β :=
  match E.tys t with
  | some ty => match ty.desc with
    | .struct fs => zerosK ty.kinds fun z => fillK (fun i => match nth fs i with
        | some (off, ft) => (E.tys ft).map fun tf => (off, tf)
        | none => none) parts z fun l => pureK (.agg l) K
    | .array _ e => match E.tys e with
      | some te => zerosK ty.kinds fun z => fillK (fun i => some (i * te.size, te)) parts z fun l => pureK (.agg l) K
      | none => none
    | _ => none
  | none => none
where
  fillK (place : Nat → Option (Nat × Ty)) : List (Nat × AV) → List AC → (List AC → Option β) → Option β
    | [], z, K => K z
    | (i, v) :: r, z, K => match place i with
      | some (off, tf) => cellsK tf v fun l => storeK z off l fun z' => fillK place r z' K
      | none => none

def nilL : List CK → List AC → List AC
  | .slice _ :: ks, _ :: l => .nils :: nilL ks l
  | _ :: ks, a :: l => a :: nilL ks l
  | _, l => l

/-- a struct whose slices are known to be nil, but for those that are given -/
def buildNK (t : TypeId) (parts : List (Nat × AV)) (K : Upd → Option β) : Option β :=
  match E.tys t with
  | some ty => match ty.desc with
    | .struct fs => zerosK ty.kinds fun z => buildK.fillK (fun i => match nth fs i with
        | some (off, ft) => (E.tys ft).map fun tf => (off, tf)
        | none => none) parts (nilL ty.kinds z) fun l => pureK (.agg l) K
    | _ => none
  | none => none

/-- a store that leaves nil slices as they are -/
def storeNK (t : TypeId) (st : St) (p v : AV) (K : Upd → Option β) : Option β :=
  match E.tys t with
  | none => none
  | some ty => match p, v with
    | .one (.ptr b o), .agg l => match nth st.blk b with
      | some (.var cells) => cond (Nat.beq (lenN l) ty.size) (storeK cells o l fun cells' => K ⟨.undef, none, [(b, .var cells')], [], [b]⟩) none
      | _ => none
    | _, _ => none

/-- the parts in order, each in its place: a row each -/
def rowsOfK (te : Ty) (len : Nat) : Nat → List (Nat × AV) → (Rows → Option β) → Option β
  | i, [], K => cond (Nat.beq i len) (K []) none
  | i, (j, v) :: r, K => cond (Nat.beq i j) (cellsK te v fun l => rowK te.kinds l fun row => rowsOfK te len (i + 1) r fun rs => K (row :: rs)) none

def refsOfK (len : Nat) : Nat → List (Nat × AV) → (List AC → Option β) → Option β
  | i, [], K => cond (Nat.beq i len) (K []) none
  | i, (j, v) :: r, K => cond (Nat.beq i j) (match v with
    | .one (.ptr b o) => refsOfK len (i + 1) r fun rs => K (.ptr b o :: rs)
    | .one .nilp => refsOfK len (i + 1) r fun rs => K (.nilp :: rs)
    | _ => none) none

def buildSliceK (t : TypeId) (len : Nat) (parts : List (Nat × AV)) (K : Upd → Option β) : Option β :=
  match E.tys t with
  | none => none
  | some ty => match ty.desc with
    | .slice e => match E.tys e with
      | some te => cond (Nat.ble (len * te.size) 16777216) (match te.desc with
        | .ptr _ => refsOfK len 0 parts fun l => pureK (.one (.refs l)) K
        | _ => rowsOfK te len 0 parts fun rows => pureK (.one (.sl true e rows)) K) none
      | none => none
    | _ => none

def makeSliceK (t : TypeId) (len cap : AV) (K : Upd → Option β) : Option β :=
  match E.tys t with
  | none => none
  | some ty => match ty.desc with
    | .slice e => match E.tys e, asI len, asI cap with
      | some te, some n, some m => cond (Nat.ble te.bytes 4096) (cond (okMake n m) (zerosK te.kinds fun z => rowK te.kinds z fun row =>
          pureK (.one (.sl true e (List.replicate n.toNat row))) K) none) none
      | _, _, _ => none
    | _ => none

/-- a slice that is made and whose elements may be written -/
def thawMK (t : TypeId) (st : St) (len cap : AV) (K : Upd → Option β) : Option β :=
  match E.tys t with
  | none => none
  | some ty => match ty.desc with
    | .slice e => match E.tys e, asI len, asI cap with
      | some te, some n, some m => cond (Nat.ble te.bytes 4096) (cond (okMake n m) (cond (Nat.blt 0 n.toNat) (zerosK te.kinds fun z => rowK te.kinds z fun row =>
          K ⟨.one (.msl e (lenN st.blk) n.toNat), none, [], [.arr e (List.replicate n.toNat row)], []⟩) none) none) none
      | _, _, _ => none
    | _ => none

def allSame (k : CK) : List CK → Bool
  | [] => true
  | x :: r => cond (CK.same k x) (allSame k r) false

/-- an array variable as such a block -/
def thawAK (t : TypeId) (st : St) (K : Upd → Option β) : Option β :=
  match E.tys t with
  | none => none
  | some ty => match ty.desc with
    | .array n e => match E.tys e with
      | some te => match te.kinds with
        | [k] => cond (Nat.beq ty.size n && (Nat.blt 0 n && allSame k ty.kinds)) (match zeroK k with
          | some c => match c.toCell with
            | some x => K ⟨.one (.parr e (lenN st.blk) n), none, [], [.arr e (List.replicate n [x])], []⟩
            | none => none
          | none => none) none
        | _ => none
      | none => none
    | _ => none

def minMaxK (isMax : Bool) : AV → List AV → (Upd → Option β) → Option β
  | v, [], K => pureK v K
  | .one (.int k a), .one (.int _ b) :: r, K => minMaxK isMax (.one (.int k (cond isMax (if b > a then b else a) (if b < a then b else a)))) r K
  | _, _, _ => none

end ops

/- CALLS: the blocks that the arguments lead to are handed to the callee under new numbers. -/

mutual
def AC.refsOf : AC → List Nat
  | .ptr b _ => [b]
  | .fn _ caps => refsOfL caps
  | .refs l => refsOfL l
  | .aptr a => a.refsOf
  | .msl _ b _ => [b]
  | .mptr b _ _ _ => [b]
  | .win _ b _ _ _ => [b]
  | .parr _ b _ => [b]
  | _ => []
def refsOfL : List AC → List Nat
  | [] => []
  | a :: r => app a.refsOf (refsOfL r)
end

def AV.refsOf : AV → List Nat
  | .one a => a.refsOf
  | .agg l => refsOfL l
  | .tup l => go l
  | .undef => []
where
  go : List AV → List Nat
    | [] => []
    | v :: r => app v.refsOf (go r)

def refsOfVs : List AV → List Nat
  | [] => []
  | v :: r => app v.refsOf (refsOfVs r)

def Block.refsOf : Block → List Nat
  | .var cells => refsOfL cells
  | .dead => []
  | .arr _ _ => []
  | .fro _ _ => []

def refsOfBs : List Block → List Nat
  | [] => []
  | b :: r => app b.refsOf (refsOfBs r)

def range0 : Nat → Nat → List Nat
  | _, 0 => []
  | i, n + 1 => i :: range0 (i + 1) n

def reach (blk : List Block) : Nat → List Nat → List Nat → List Nat
  | 0, _, seen => seen
  | _ + 1, [], seen => seen
  | n + 1, b :: todo, seen => cond (memN seen b) (reach blk n todo seen) (reach blk n (app (match nth blk b with | some c => c.refsOf | none => []) todo) (app seen [b]))

def posIn : List Nat → Nat → Nat → Option Nat
  | [], _, _ => none
  | x :: r, b, i => cond (Nat.beq x b) (some i) (posIn r b (i + 1))

mutual
def AC.remap (μ : Nat → Option Nat) : AC → Option AC
  | .ptr b o => match μ b with | some b' => some (.ptr b' o) | none => none
  | .fn f caps => match remapL μ caps with | some l => some (.fn f l) | none => none
  | .refs l => match remapL μ l with | some l' => some (.refs l') | none => none
  | .aptr a => match a.remap μ with | some a' => some (.aptr a') | none => none
  | .msl e b n => match μ b with | some b' => some (.msl e b' n) | none => none
  | .mptr b e i o => match μ b with | some b' => some (.mptr b' e i o) | none => none
  | .win e b lo n c => match μ b with | some b' => some (.win e b' lo n c) | none => none
  | .parr e b n => match μ b with | some b' => some (.parr e b' n) | none => none
  | a => some a
def remapL (μ : Nat → Option Nat) : List AC → Option (List AC)
  | [] => some []
  | a :: r => match a.remap μ, remapL μ r with
    | some a', some r' => some (a' :: r')
    | _, _ => none
end

def AV.remap (μ : Nat → Option Nat) : AV → Option AV
  | .one a => match a.remap μ with | some a' => some (.one a') | none => none
  | .agg l => match remapL μ l with | some l' => some (.agg l') | none => none
  | .tup l => match go l with | some l' => some (.tup l') | none => none
  | .undef => some .undef
where
  go : List AV → Option (List AV)
    | [] => some []
    | v :: r => match v.remap μ, go r with
      | some v', some r' => some (v' :: r')
      | _, _ => none

def remapVs (μ : Nat → Option Nat) : List AV → Option (List AV)
  | [] => some []
  | v :: r => match v.remap μ, remapVs μ r with
    | some v', some r' => some (v' :: r')
    | _, _ => none

def Block.remap (μ : Nat → Option Nat) : Block → Option Block
  | .var cells => match remapL μ cells with | some l => some (.var l) | none => none
  | .dead => some .dead
  | .arr e rows => some (.arr e rows)
  | .fro e rows => some (.fro e rows)

/-- the chosen blocks, renumbered -/
def pickBlks (μ : Nat → Option Nat) (blk : List Block) : List Nat → Option (List Block)
  | [] => some []
  | b :: r => match nth blk b, pickBlks μ blk r with
    | some c, some l => match c.remap μ with | some c' => some (c' :: l) | none => none
    | _, _ => none

def keepFrom : List (Nat × AV) → (Nat → Option Nat) → List (Nat × Bool) → Option (List (Nat × AV))
  | _, _, [] => some []
  | fr, μ, (t, own) :: r => match (cond own (get fr t) (get fr t).dis).remap μ, keepFrom fr μ r with
    | some v, some l => some ((t, v) :: l)
    | _, _ => none

def ascend : List Nat → Nat → Nat → List Nat
  | _, _, 0 => []
  | l, i, n + 1 => cond (memN l i) (i :: ascend l (i + 1) n) (ascend l (i + 1) n)

def refsOfFr (fr : List (Nat × AV)) : List (Nat × Bool) → List Nat
  | [] => []
  | (t, _) :: r => app (get fr t).refsOf (refsOfFr fr r)

section run
variable {β : Type}

/-- the slots named are kept, and the blocks that they lead to; all else is forgotten -/
def maskK (nw : Nat) (m : List (Nat × Bool)) (st : St) (K : St → Option β) : Option β :=
  let sel := app (range0 0 nw) (ascend (reach st.blk 1000 (app (refsOfFr st.fr m) (refsOfBs (takeN st.blk nw))) []) nw (lenN st.blk - nw))
  match keepFrom st.fr (fun b => posIn sel b 0) m, pickBlks (fun b => posIn sel b 0) st.blk sel with
  | some fr, some blk => K ⟨fr, blk⟩
  | _, _ => none

def Pat.ok : Pat → AC → Bool
  | .int j, .int k _ => IntKind.same j k
  | .bool, .bool _ => true
  | .str, .str _ => true
  | .sl own e, .sl own' e' _ => Nat.beq e e' && (!own || own')
  | .sl _ _, .nils => true
  | .ptr b o, .ptr b' o' => Nat.beq b b' && Nat.beq o o'
  | .nilp, .nilp => true
  | .nilf, .nilf => true
  | .msl e b, .msl e' b' _ => Nat.beq e e' && Nat.beq b b'
  | .win e b, .win e' b' _ _ _ => Nat.beq e e' && Nat.beq b b'
  | _, _ => false

def AC.toN : AC → Nat | .msl _ _ n => n | .win _ _ _ n _ => n | _ => 0
def AC.toLo : AC → Nat | .win _ _ lo _ _ => lo | _ => 0
def AC.toCap : AC → Option Nat | .win _ _ _ _ c => c | _ => none
def AC.toI : AC → Int | .int _ n => n | _ => 0
def AC.toB : AC → Bool | .bool b => b | _ => false
def AC.toS : AC → List UInt8 | .str s => s | _ => []
def AC.toR : AC → Rows | .sl _ _ r => r | _ => []

def Pat.proj : Pat → AC → AC
  | .int k, a => .int k a.toI
  | .bool, a => .bool a.toB
  | .str, a => .str a.toS
  | .sl own e, a => .sl own e a.toR
  | .ptr b o, _ => .ptr b o
  | .nilp, _ => .nilp
  | .nilf, _ => .nilf
  | .msl e b, a => .msl e b a.toN
  | .win e b, a => .win e b a.toLo a.toN a.toCap
  | .arrp _, _ => .nilp
  | .deadp, _ => .nilp

def acAt : List AC → Nat → AC
  | [], _ => .nilp
  | a :: _, 0 => a
  | _ :: r, n + 1 => acAt r n

def AV.toC : AV → AC | .one a => a | _ => .nilp
def AV.toL : AV → List AC | .agg l => l | _ => []
def avAt : List AV → Nat → AV
  | [], _ => .undef
  | a :: _, 0 => a
  | _ :: r, n + 1 => avAt r n
def Block.toL : Block → List AC | .var l => l | _ => []
def Block.toR : Block → Rows | .arr _ r => r | _ => []
def blkAt : List Block → Nat → Block
  | [], _ => .dead
  | a :: _, 0 => a
  | _ :: r, n + 1 => blkAt r n

def okL : List Pat → List AC → Bool
  | [], [] => true
  | p :: ps, a :: r => p.ok a && okL ps r
  | _, _ => false

def projL : List Pat → List AC → Nat → List AC
  | [], _, _ => []
  | p :: ps, l, i => p.proj (acAt l i) :: projL ps l (i + 1)

def PV.ok : PV → AV → Bool
  | .one p, .one a => p.ok a
  | .agg ps, .agg l => okL ps l
  | _, _ => false

def PV.proj : PV → AV → AV
  | .one p, v => .one (p.proj v.toC)
  | .agg ps, v => .agg (projL ps v.toL 0)

def okVs : List PV → List AV → Bool
  | [], [] => true
  | p :: ps, v :: r => p.ok v && okVs ps r
  | _, _ => false

def projVs : List PV → List AV → Nat → List AV
  | [], _, _ => []
  | p :: ps, l, i => p.proj (avAt l i) :: projVs ps l (i + 1)

def okB1 (p : List Pat) : Block → Bool
  | .var l => okL p l
  | .arr e _ => match p with | [.arrp e'] => Nat.beq e e' | _ => false
  | .dead => match p with | [.deadp] => true | _ => false
  | .fro _ _ => false

def projB1 (p : List Pat) (b : Block) : Block :=
  match p with
  | [.arrp e] => .arr e b.toR
  | [.deadp] => .dead
  | _ => .var (projL p b.toL 0)

def okBs : List (List Pat) → List Block → Bool
  | [], [] => true
  | p :: ps, b :: r => okB1 p b && okBs ps r
  | _, _ => false

def projBs : List (List Pat) → List Block → Nat → List Block
  | [], _, _ => []
  | p :: ps, l, i => projB1 p (blkAt l i) :: projBs ps l (i + 1)

def Sig.ok (s : Sig) (r : List AV × List Block) : Bool := okVs s.res r.1 && okBs s.blks r.2

def back (sel : List Nat) (n m : Nat) (i : Nat) : Option Nat :=
  match nth sel i with
  | some b => some b
  | none => cond (Nat.blt i m) (some (n + (i - lenN sel))) none

def zipW : List Nat → List Block → List (Nat × Block)
  | b :: bs, c :: cs => (b, c) :: zipW bs cs
  | _, _ => []

def remapBs (μ : Nat → Option Nat) : List Block → Option (List Block)
  | [] => some []
  | c :: r => match c.remap μ, remapBs μ r with
    | some c', some r' => some (c' :: r')
    | _, _ => none

def oneOrTup : List AV → AV
  | [v] => v
  | l => .tup l

/-- whether a callee is known to answer, and what -/
abbrev Ans := Bool × (List AV × List Block)
abbrev CallF := FuncId → List AV → List Block → Ans

def callU (sg : Sig) (sel : List Nat) (r : List AV × List Block) (st : St) (K : Upd → Option β) : Option β :=
  match remapVs (back sel (lenN st.blk) (lenN sg.blks)) (projVs sg.res r.1 0), remapBs (back sel (lenN st.blk) (lenN sg.blks)) (projBs sg.blks r.2 0) with
      | some vs, some bs' => cond (Nat.ble (lenN sel) (lenN bs')) (K ⟨oneOrTup vs, none, zipW sel bs', dropN bs' (lenN sel), sel⟩) none
      | _, _ => none

/-- the first of the shapes that fits -/
def callB (sel : List Nat) (r : List AV × List Block) (st : St) (K : Upd → Option β) : List PV × List (List Pat) → List (List PV × List (List Pat)) → Option β
  | x, [] => cond (Sig.ok ⟨x.1, x.2, []⟩ r) (callU ⟨x.1, x.2, []⟩ sel r st K) none
  | x, y :: l => cond (Sig.ok ⟨x.1, x.2, []⟩ r) (callU ⟨x.1, x.2, []⟩ sel r st K) (callB sel r st K y l)

def pickB (r : List AV × List Block) : List PV × List (List Pat) → List (List PV × List (List Pat)) → Sig
  | x, [] => ⟨x.1, x.2, []⟩
  | x, y :: l => cond (Sig.ok ⟨x.1, x.2, []⟩ r) ⟨x.1, x.2, []⟩ (pickB r y l)

/-- where there is but one shape: the patterns of as many blocks as there are -/
def callA (sg : Sig) (sel : List Nat) (known : Bool) (r : List AV × List Block) (st : St) (K : Upd → Option β) : Option β :=
  cond known (match sg.alts with
    | [] => cond (Sig.ok ⟨sg.res, takeN sg.blks (lenN r.2), []⟩ r) (callU ⟨sg.res, takeN sg.blks (lenN r.2), []⟩ sel r st K) none
    | l => callB sel r st K (sg.res, sg.blks) l) none

def pickA (sg : Sig) (r : List AV × List Block) : Sig :=
  match sg.alts with
  | [] => ⟨sg.res, takeN sg.blks (lenN r.2), []⟩
  | l => pickB r (sg.res, sg.blks) l

def callT (sg : Sig) (sel : List Nat) (known : Bool) (r : List AV × List Block) (st : St) (K : Upd → Option β) : Option β :=
  cond known (cond (sg.ok r) (callU sg sel r st K) none) none

theorem callB_eq (sel : List Nat) (r : List AV × List Block) (st : St) (K : Upd → Option β) : ∀ (x : List PV × List (List Pat)) (l : List (List PV × List (List Pat))), callB sel r st K x l = cond ((pickB r x l).ok r) (callU (pickB r x l) sel r st K) none
  | x, [] => rfl
  | x, y :: l => by
    have ih := callB_eq sel r st K y l
    simp only [callB, pickB]
    cases h : Sig.ok ⟨x.1, x.2, []⟩ r
    · exact ih
    · simp only [cond_true, h]

theorem callA_eq (sg : Sig) (sel : List Nat) (known : Bool) (r : List AV × List Block) (st : St) (K : Upd → Option β) : callA sg sel known r st K = callT (pickA sg r) sel known r st K := by
  obtain ⟨vs, bs, al⟩ := sg
  cases al with
  | nil => rfl
  | cons y l =>
    unfold callA pickA callT
    dsimp only
    rw [callB_eq]

def callK (call : CallF) (sg : Sig) (f : FuncId) (args : List AV) (st : St) (K : Upd → Option β) : Option β :=
  let sel := reach st.blk 1000 (refsOfVs args) []
  match remapVs (fun b => posIn sel b 0) args, pickBlks (fun b => posIn sel b 0) st.blk sel with
  | some args', some bs => match call f args' bs with
    | (known, r) => callA sg sel known r st K
  | _, _ => none

open Classical in
/-- whether two blocks are the same: left open by the interpreter -/
noncomputable def sameB1 (x y : Block) : Bool := decide (x = y)
/-- whether what is written is what is there -/
noncomputable def sameWr (bs : List Block) : List (Nat × Block) → Bool
  | [] => true
  | (k, c) :: r => sameB1 (blkAt bs k) c && sameWr bs r

/-- a call that leaves the blocks as they are -/
noncomputable def pureCK (call : CallF) (sg : Sig) (f : FuncId) (args : List AV) (st : St) (K : Upd → Option β) : Option β :=
  callK call sg f args st fun u => cond (isNilL u.nu && sameWr st.blk u.wr) (K ⟨u.val, none, [], [], u.rd⟩) none

def evL (fr : List (Nat × AV)) : List Operand → List AV
  | [] => []
  | x :: r => (ev fr x).dis :: evL fr r

def evLO (fr : List (Nat × AV)) : List Operand → List AV
  | [] => []
  | x :: r => ev fr x :: evLO fr r

def evParts (fr : List (Nat × AV)) : List (Nat × Operand) → List (Nat × AV)
  | [] => []
  | (i, x) :: r => (i, (ev fr x).dis) :: evParts fr r

/-- the parts, one of which keeps what it owns -/
def evPartsT (fr : List (Nat × AV)) (x : Nat) : List (Nat × Operand) → List (Nat × AV)
  | [] => []
  | (i, y) :: r => match tmpOf y with
    | some t => cond (Nat.beq t x) ((i, ev fr y) :: evParts fr r) ((i, (ev fr y).dis) :: evPartsT fr x r)
    | none => (i, (ev fr y).dis) :: evPartsT fr x r

def firstTk (tk : List Nat) (fr : List (Nat × AV)) : List (Nat × Operand) → Option Nat
  | [] => none
  | (_, y) :: r => match tmpOf y with
    | some t => match memN tk t, get fr t with
      | true, .one _ => some t
      | _, _ => firstTk tk fr r
    | none => firstTk tk fr r

def evO (fr : List (Nat × AV)) : Option Operand → Option AV
  | none => none
  | some x => some (ev fr x)

def sigAt : List (Nat × Sig) → Nat → Option Sig
  | [], _ => none
  | (i, s) :: r, j => cond (Nat.beq i j) (some s) (sigAt r j)

def takes (tk : List Nat) : Option Nat → Bool
  | none => false
  | some d => memN tk d

def flag (tk : List Nat) : Option Nat → Nat → Bool
  | none, _ => false
  | some d, k => memN tk (k + d)

/-- one operation -/
noncomputable def actK (E : Env) (call : CallF) (tk : List Nat) (sg : Option Sig) (o : Oper) (st : St) (K : Upd → Option β) : Option β :=
  match o.op with
  | .move x | .assign x => match flag tk o.dst 1000000, flag tk o.dst 2000000 with
    | true, _ => thawK E o.type st (ev st.fr x) K
    | _, true => freezeK st (ev st.fr x) K
    | false, false => match takes tk o.dst with
      | true => K ⟨E.fit o.type (ev st.fr x), tmpOf x, [], [], []⟩
      | false => K ⟨E.fit o.type (ev st.fr x).dis, none, [], [], []⟩
  | .pick c a b => match ev st.fr c with
    | .one (.bool t) => cond t (pureK (ev st.fr a).dis K) (pureK (ev st.fr b).dis K)
    | _ => none
  | .alloc t => match flag tk o.dst 1000000 with
    | true => thawAK E t st K
    | false => match E.tys t with
      | some ty => zerosK ty.kinds fun z => K ⟨.one (.ptr (lenN st.blk) 0), none, [], [.var z], []⟩
      | none => none
  | .box t x => match E.tys t with
    | some ty => cellsK ty (cond (takes tk o.dst) (ev st.fr x) (ev st.fr x).dis) fun l => K ⟨.one (.ptr (lenN st.blk) 0), cond (takes tk o.dst) (tmpOf x) none, [], [.var l], []⟩
    | none => none
  | .build t parts => match flag tk o.dst 3000000 with
    | true => buildNK E t (evParts st.fr parts.toList) K
    | false => match firstTk tk st.fr parts.toList with
      | some x => buildK E t (evPartsT st.fr x parts.toList) fun u => K ⟨u.val, some x, [], [], []⟩
      | none => buildK E t (evParts st.fr parts.toList) K
  | .buildSlice t len parts => match flag tk o.dst 1000000 with
    | true => match parts.toList with
      | [] => thawBK E t len st K
      | _ => none
    | false => buildSliceK E t len (evParts st.fr parts.toList) K
  | .load t p => loadK E (takes tk o.dst) t st (ev st.fr p) K
  | .store t p x => match flag tk (tmpOf x) 4000000 with
    | true => storeNK E t st (ev st.fr p) (ev st.fr x).dis K
    | false => match memTmp tk x with
      | true => storeOpK E t st (ev st.fr p) (ev st.fr x) (tmpOf x) K
      | false => storeOpK E t st (ev st.fr p) (ev st.fr x).dis none K
  | .nilCheck x => match ev st.fr x with
    | .one (.ptr b o) => pureK (.one (.ptr b o)) K
    | .one (.eptr e r o) => pureK (.one (.eptr e r o)) K
    | .one (.aptr a) => pureK (.one (.aptr a)) K
    | _ => none
  | .binOp op t x y _ => binK E op t (ev st.fr x) (ev st.fr y) K
  | .unOp op _ x => unK op (ev st.fr x) K
  | .convert src dst x => srcK E st (ev st.fr x) fun x' rd => convK E src dst x' fun u => K (u.reads rd)
  | .makeFunc (.func f) first caps => match first.toList with
    | [] => match capsOf (evL st.fr caps.toList) with
      | some l => pureK (.one (.fn f l)) K
      | none => none
    | _ => none
  | .makeSlice t l c => match flag tk o.dst 1000000 with
    | true => thawMK E t st (ev st.fr l) (ev st.fr c) K
    | false => makeSliceK E t (ev st.fr l) (ev st.fr c) K
  | .slice t x lo hi mx => match takes tk o.dst with
    | true => sliceK E t (tmpOf x) (ev st.fr x) (evO st.fr lo) (evO st.fr hi) (evO st.fr mx) K
    | false => sliceK E t none (ev st.fr x).dis (evO st.fr lo) (evO st.fr hi) (evO st.fr mx) K
  | .fieldAddr s x f => fieldAddrK E s (ev st.fr x) f K
  | .field s x f => fieldK E s (ev st.fr x) f K
  | .indexAddr t x i => indexAddrK E t (ev st.fr x) (ev st.fr i) K
  | .index t x i => indexK E t (ev st.fr x) (ev st.fr i) K
  | .extract x i => match ev st.fr x with
    | .tup l => match nth l i with
      | some v => match takes tk o.dst with
        | true => K ⟨v, tmpOf x, [], [], []⟩
        | false => pureK v.dis K
      | none => none
    | _ => none
  | .call c => match c.callee with
    | .builtin .len => match c.argTypes.toList, c.args.toList with
      | [t], [x] => lenK E t (ev st.fr x) K
      | _, _ => none
    | .builtin .append => match c.argTypes.toList, c.args.toList with
      | [t, t2], [x, y] => srcK E st (ev st.fr y).dis fun y' rd => appAnyK E t t2 (tmpOf x) (ev st.fr x) st y' fun u => K (u.reads rd)
      | _, _ => none
    | .builtin .copy => match c.argTypes.toList, c.args.toList with
      | [t, _], [x, y] => srcK E st (ev st.fr y).dis fun y' rd => copyK E t (ev st.fr x) st y' fun u => K (u.reads rd)
      | _, _ => none
    | .builtin .min => match evL st.fr c.args.toList with
      | v :: r => minMaxK false v r K
      | [] => none
    | .builtin .max => match evL st.fr c.args.toList with
      | v :: r => minMaxK true v r K
      | [] => none
    | .value g => match ev st.fr g with
      | .one (.fn f caps) => match E.funcs f with
        | some fn => match flag tk o.dst 5000000 with
          | true => pureCK call (sg.getD fn.1) f (app (evL st.fr c.args.toList) (capsV caps)) st K
          | false => callK call (sg.getD fn.1) f (app (evL st.fr c.args.toList) (capsV caps)) st K
        | none => none
      | _ => none
    | _ => none
  | _ => none
where
  memTmp (tk : List Nat) : Operand → Bool
    | .tmp t => memN tk t
    | _ => false
  capsOf : List AV → Option (List AC)
    | [] => some []
    | .one a :: r => match capsOf r with | some l => some (a :: l) | none => none
    | _ :: _ => none
  capsV : List AC → List AV
    | [] => []
    | a :: r => .one a :: capsV r

/- REGIONS -/

inductive Out where
  | normal
  | exit (id : Nat)
  | goto (l : Nat)
  | ret

def dstOf : List Oper → Nat → Option Nat
  | [], _ => none
  | o :: _, 0 => o.dst
  | _ :: r, j + 1 => dstOf r j

def condW (want b : Bool) (x y : Option β) : Option β :=
  match want with
  | true => cond b x y
  | false => cond b y x

/-- the value of a slot whose operation was passed over -/
def AV.skip : AV := .tup []

def St.know (st : St) (g : Nat) (b : Bool) : St := ⟨set st.fr g (.one (.bool b)), st.blk⟩

def guardK (all : List Oper) (o : Oper) (st : St) (yes no : St → Option β) : Option β :=
  match o.guard with
  | none => yes st
  | some (j, want) => match dstOf all j with
    | some g => match get st.fr g with
      | .one (.bool b) => condW want b (yes (st.know g want)) (no (st.know g (!want)))
      | .tup _ => no st
      | _ => none
    | none => no st

def skipU : Upd := Upd.pure AV.skip

noncomputable def regK (E : Env) (call : CallF) (tk : List Nat) (sigs : List (Nat × Sig)) (all : List Oper) : List Oper → Nat → St → (St → Option β) → Option β
  | [], _, st, K => K st
  | o :: r, i, st, K => guardK all o st
    (fun st => actK E call tk (sigAt sigs i) o st fun u => regK E call tk sigs all r (i + 1) (st.apply o.dst u) K)
    (fun st => regK E call tk sigs all r (i + 1) (st.apply o.dst skipU) K)

structure FP where
  tw : List Nat
  tr : List Nat
  bw : List Nat
  br : List Nat
  al : Bool

def optL {α : Type} : Option α → List α
  | none => []
  | some a => [a]

def opOps : Op → List Operand
  | .move x | .assign x | .box _ x | .load _ x | .nilCheck x | .unOp _ _ x | .convert _ _ x | .fieldAddr _ x _ | .field _ x _ | .extract x _ => [x]
  | .pick c a b => [c, a, b]
  | .build _ ps | .buildSlice _ _ ps => partOps ps.toList
  | .store _ a v | .binOp _ _ a v _ | .makeSlice _ a v | .indexAddr _ a v | .index _ a v => [a, v]
  | .makeFunc _ _ captured => captured.toList
  | .slice _ x l h m => x :: app (optL l) (app (optL h) (optL m))
  | .call c => match c.callee with
    | .value f => f :: c.args.toList
    | _ => c.args.toList
  | _ => []
where
  partOps : List (Nat × Operand) → List Operand
    | [] => []
    | (_, x) :: r => x :: partOps r

def tmpsOf : List Operand → List Nat
  | [] => []
  | .tmp t :: r => t :: tmpsOf r
  | _ :: r => tmpsOf r

def fsts : List (Nat × Block) → List Nat
  | [] => []
  | (k, _) :: r => k :: fsts r

def looks (all : List Oper) (o : Oper) : List Nat :=
  app (tmpsOf (opOps o.op)) (match o.guard with | some (j, _) => optL (dstOf all j) | none => [])

def footOf (all : List Oper) (o : Oper) (st : St) (u : Upd) : FP :=
  ⟨app (optL o.dst) (optL u.dis), looks all o, app (fsts u.wr) (range0 (lenN st.blk) (lenN u.nu)), u.rd, !isNilL u.nu⟩

def disj : List Nat → List Nat → Bool
  | [], _ => true
  | x :: r, l => cond (memN l x) false (disj r l)

def FP.apart (p q : FP) : Bool :=
  disj p.tw q.tw && disj p.tw q.tr && disj q.tw p.tr && disj p.bw q.bw && disj p.bw q.br && disj q.bw p.br && !(p.al && q.al)

def bindsAny (e : Edge) : Bool :=
  match e.ground with
  | .textOnly _ | .gcOnly _ => false
  | _ => true

def edgesOf : List Edge → List Nat
  | [] => []
  | e :: r => cond (bindsAny e) (e.on :: edgesOf r) (edgesOf r)

/-- those that are not there yet are put in -/
def addAll : List Nat → List Nat → List Nat
  | [], r => r
  | x :: l, r => cond (memN r x) (addAll l r) (addAll l (x :: r))

def flatN (acc : List (List Nat)) : List Nat → List Nat
  | [] => []
  | d :: r => addAll (d :: (match nth acc d with | some l => l | none => [])) (flatN acc r)

/-- for each operation all that must lie before it -/
def befs : List Oper → List (List Nat) → List (List Nat)
  | [], acc => acc
  | o :: r, acc => befs r (app acc [flatN acc (edgesOf o.after.toList)])

def backward : List Oper → Nat → Bool
  | [], _ => true
  | o :: r, i => allLt (edgesOf o.after.toList) i && backward r (i + 1)
where
  allLt : List Nat → Nat → Bool
    | [], _ => true
    | x :: r, i => Nat.blt x i && allLt r i

/-- each pair of operations whose order is open: neither looks at what the other touches -/
def openOk (bef : List (List Nat)) : List FP → Nat → List FP → Bool
  | [], _, _ => true
  | q :: r, j, seen => go (match nth bef j with | some l => l | none => []) q seen 0 && openOk bef r (j + 1) (app seen [q])
where
  go (b : List Nat) (q : FP) : List FP → Nat → Bool
    | [], _ => true
    | p :: ps, i => (memN b i || p.apart q) && go b q ps (i + 1)

noncomputable def regDK (E : Env) (call : CallF) (tk : List Nat) (sigs : List (Nat × Sig)) (all : List Oper) (bef : List (List Nat)) : List Oper → Nat → List FP → St → (St → Option β) → Option β
  | [], _, fps, st, K => cond (openOk bef fps 0 []) (K st) none
  | o :: r, i, fps, st, K => guardK all o st
    (fun st => actK E call tk (sigAt sigs i) o st fun u => regDK E call tk sigs all bef r (i + 1) (app fps [footOf all o st u]) (st.apply o.dst u) K)
    (fun st => regDK E call tk sigs all bef r (i + 1) (app fps [footOf all o st skipU]) (st.apply o.dst skipU) K)

open Classical in
/-- the one, if the other is the same -/
noncomputable def sameO (x y : Option β) : Option β := if x = y then x else none

noncomputable def foldO : List (Option β) → Option β
  | [] => none
  | [x] => x
  | x :: y :: l => sameO x (foldO (y :: l))

/-- what may be done next -/
def readyL (all : List Oper) (done : List Nat) : List Oper → Nat → List Nat
  | [], _ => []
  | o :: r, i => cond (!memN done i && subN (edgesOf o.after.toList) done) (i :: readyL all done r (i + 1)) (readyL all done r (i + 1))
where
  subN : List Nat → List Nat → Bool
    | [], _ => true
    | x :: l, d => memN d x && subN l d

/-- a region in every order -/
noncomputable def exK (E : Env) (call : CallF) (tk : List Nat) (sigs : List (Nat × Sig)) (all : List Oper) : Nat → List Nat → St → (St → Option β) → Option β
  | 0, done, st, K => cond (isNilL (readyL all done all 0)) (K st) none
  | n + 1, done, st, K => match readyL all done all 0 with
    | [] => K st
    | i :: r => foldO (mapE (fun i => match nth all i with
        | some o => guardK all o st
          (fun st => actK E call tk (sigAt sigs i) o st fun u => exK E call tk sigs all n (i :: done) (st.apply o.dst u) K)
          (fun st => exK E call tk sigs all n (i :: done) (st.apply o.dst skipU) K)
        | none => none) (i :: r))
where
  mapE (f : Nat → Option β) : List Nat → List (Option β)
    | [] => []
    | i :: r => f i :: mapE f r

def Ann.takes : Ann → List Nat | .reg tk _ => tk | _ => []
def Ann.sigs : Ann → List (Nat × Sig) | .reg _ s => s | _ => []
def Ann.fst : Ann → Ann | .seq _ x _ => x | .cond x _ => x | .sub x => x | .loop _ x => x | .scope _ x _ => x | _ => .leaf
def Ann.snd : Ann → Ann | .seq _ _ y => y | .cond _ y => y | .scope _ _ y => y | _ => .leaf
def Ann.mask? : Ann → Option (List (Nat × Bool)) | .seq m _ _ => m | .loop m _ => some m | .scope m _ _ => some m | _ => none

/-- whether an operation is to be done, where that is known -/
def wantedA (all : List Oper) (o : Oper) (st : St) : Option Bool :=
  match o.guard with
  | none => some true
  | some (j, want) => match dstOf all j with
    | some g => match get st.fr g with
      | .one (.bool b) => some (b == want)
      | .tup _ => some false
      | _ => none
    | none => some false

/-- a literal that is converted to its own type: one whose elements may be written (th), or not -/
def pairK (E : Env) (ops : List Oper) (p : Nat) (th : Bool) (st : St) (K : St → Option β) : Option β :=
  match nth ops p, nth ops (p + 1) with
  | some o1, some o2 => match wantedA ops o1 st with
    | some true => match o1.op, o2.op with
      | .buildSlice t len parts, .convert src dst (.tmp x) => match o1.dst, o2.dst, wantedA ops o2 (st.apply o1.dst (Upd.pure .undef)) with
        | some d1, some d2, some true => cond (Nat.beq x d1 && (Nat.beq t src && Nat.beq src dst)) (match E.tys t with
          | some ty => match ty.desc with
            | .slice e => match E.tys e with
              | some te => match te.desc with
                | .int .u8 => cond (Nat.ble (len * te.size) 16777216 && Nat.blt 0 len) (rowsOfK te len 0 (evParts st.fr parts.toList) fun rows => match th with
                    | true => K ((st.apply (some d1) (Upd.pure .undef)).apply (some d2) ⟨.one (.msl e (lenN st.blk) len), none, [], [.arr e rows], []⟩)
                    | false => K ((st.apply (some d1) (Upd.pure .undef)).apply (some d2) (Upd.pure (.one (.sl true e rows))))) none
                | _ => none
              | none => none
            | _ => none
          | none => none) none
        | _, _, _ => none
      | _, _ => none
    | some false => match wantedA ops o2 (st.apply o1.dst skipU) with
      | some false => K ((st.apply o1.dst skipU).apply o2.dst skipU)
      | _ => none
    | none => none
  | _, _ => none

def pairAt : List Nat → Option (Nat × Bool)
  | [] => none
  | x :: r => cond (Nat.ble 8000000 x && !(Nat.ble 9000000 x)) (some (x - 8000000, false)) (cond (Nat.ble 7000000 x && !(Nat.ble 9000000 x)) (some (x - 7000000, true)) (pairAt r))

noncomputable def regionK (E : Env) (call : CallF) (an : Ann) (ops : List Oper) (draw : Bool) (st : St) (K : St → Option β) : Option β :=
  match draw with
  | false => match pairAt an.takes with
    | none => regK E call an.takes an.sigs ops ops 0 st K
    | some (p, th) => cond (Nat.ble (p + 2) (lenN ops)) (regK E call an.takes an.sigs ops (takeN ops p) 0 st fun st1 => pairK E ops p th st1 fun st2 => regK E call an.takes an.sigs ops (dropN ops (p + 2)) (p + 2) st2 K) none
  | true => match memN an.takes 9000000 with
    | true => exK E call an.takes an.sigs ops (lenN ops) [] st K
    | false => cond (backward ops 0) (regDK E call an.takes an.sigs ops (befs ops []) ops 0 [] st K) none

def labelOf : Code → Nat → Option Code
  | .seq a b, l => match labelOf a l with
    | some r => some (.seq r b)
    | none => labelOf b l
  | .label l', l => cond (Nat.beq l' l) (some .skip) none
  | _, _ => none

end run

/- CONTROL: a stack of what is still to be done -/

inductive AItem where
  | code (c : Code) (an : Ann)
  | inBlock (id : Nat)
  | inLoop (c : Code) (an : Ann)
  | inScope (c : Code) (an : Ann)
  | cut (m : List (Nat × Bool))

abbrev Res := Option (List AV × List Block)

def push (m : Option (List (Nat × Bool))) (k : List AItem) : List AItem :=
  match m with
  | none => k
  | some m => .cut m :: k

def exitA (id : Nat) : List AItem → Option (List AItem)
  | [] => none
  | .inBlock i :: k => cond (Nat.beq i id) (some k) (exitA id k)
  | _ :: k => exitA id k

def gotoA (l : Nat) : List AItem → Option (List AItem)
  | [] => none
  | .inScope c an :: k => match labelOf c l with
    | some r => some (push an.mask? (.code r an.snd :: .inScope c an :: k))
    | none => gotoA l k
  | _ :: k => gotoA l k

def initFr (E : Env) (ownp : List Nat) : List TypeId → List AV → Nat → List (Nat × AV)
  | t :: ts, v :: vs, i => (i, cond (memN ownp (1000000 + i)) v.dis (cond (memN ownp i) (E.fit t v) (E.fit t v.dis))) :: initFr E ownp ts vs (i + 1)
  | _, _, _ => []

section res
variable {β : Type}

def resK (E : Env) (st : St) : List ResultVar → (List AV → St → Option β) → Option β
  | [], K => K [] st
  | .tmp t :: r, K => resK E ⟨disT st.fr (some t), st.blk⟩ r fun vs st' => K (get st.fr t :: vs) st'
  | .cell a t :: r, K => loadK E true t st (get st.fr a) fun u => resK E (st.apply none u) r fun vs st' => K (u.val :: vs) st'

def ownResK (ownr : List Nat) : List AV → Nat → (List AV → Option β) → Option β
  | [], _, K => K []
  | v :: vs, i, K => ownResK ownr vs (i + 1) fun r => K ((cond (memN ownr i) v v.dis) :: r)

end res

def Block.dis : Block → Block
  | .var l => .var (disL l)
  | b => b

def disBs : List Block → List Block
  | [] => []
  | b :: r => b.dis :: disBs r

def above : List Nat → Nat → List Nat
  | [], _ => []
  | x :: r, n => cond (Nat.ble n x) (x :: above r n) (above r n)

/-- at the end of a function: its results, the blocks that it was handed, and the new ones that these lead to -/
def ret (E : Env) (fn : AFunc) (nw : Nat) (st : St) : Res :=
  resK E st fn.results fun vs0 st => ownResK fn.ownr vs0 0 fun vs =>
    let sel := app (range0 0 nw) (above (reach st.blk 1000 (app (refsOfVs vs) (refsOfBs (takeN st.blk nw))) []) nw)
    match remapVs (fun b => posIn sel b 0) vs, pickBlks (fun b => posIn sel b 0) st.blk sel with
    | some vs', some bs => some (vs', cond fn.ownb bs (disBs bs))
    | _, _ => none

abbrev JumpF := List AItem → St → Res

noncomputable def go (E : Env) (call : CallF) (fn : AFunc) (nw : Nat) (J : JumpF) : Nat → List AItem → St → Res
  | 0, _, _ => none
  | _ + 1, [], st => ret E fn nw st
  | d + 1, it :: k, st => match it with
    | .cut m => maskK nw m st fun st' => J k st'
    | .inBlock _ => go E call fn nw J d k st
    | .inScope _ _ => go E call fn nw J d k st
    | .inLoop c an => go E call fn nw J d (push an.mask? (.code c an.fst :: .inLoop c an :: k)) st
    | .code c an => match c with
      | .skip => go E call fn nw J d k st
      | .region _ ops draw => regionK E call an ops.toList draw st fun st' => go E call fn nw J d k st'
      | .seq x y => go E call fn nw J d (.code x an.fst :: push an.mask? (.code y an.snd :: k)) st
      | .cond c x y => match ev st.fr c with
        | .one (.bool b) => cond b (go E call fn nw J d (.code x an.fst :: k) st) (go E call fn nw J d (.code y an.snd :: k) st)
        | _ => none
      | .block id x => go E call fn nw J d (.code x an.fst :: .inBlock id :: k) st
      | .loop x => go E call fn nw J d (push an.mask? (.code x an.fst :: .inLoop x an :: k)) st
      | .exit id => match exitA id k with
        | some k' => go E call fn nw J d k' st
        | none => none
      | .scope x => go E call fn nw J d (.code x an.fst :: .inScope x an :: k) st
      | .label _ => go E call fn nw J d k st
      | .goto l => match gotoA l k with
        | some k' => go E call fn nw J d k' st
        | none => none
      | .ret => ret E fn nw st
      | _ => none

def depth : Nat := 1000000

/-- how often a run may pass a cut: the first number -/
noncomputable def goF (E : Env) (call : CallF) (fn : AFunc) (nw : Nat) : Nat → JumpF
  | 0 => fun _ _ => none
  | k + 1 => fun s st => go E call fn nw (goF E call fn nw k) depth s st

noncomputable def runF (E : Env) (call : CallF) (n : Nat) (f : FuncId) (args : List AV) (blk : List Block) : Res :=
  match E.funcs f with
  | some (_, .code fn) => cond (Nat.beq (lenN args) (lenN fn.params)) (goF E call fn (lenN blk) n [.code fn.code fn.ann] ⟨initFr E fn.ownp fn.params args 0, blk⟩) none
  | some (_, .prim g) => g args blk
  | none => none

def ansOf : Res → Ans
  | some r => (true, r)
  | none => (false, ([], []))

noncomputable def run (E : Env) : Nat → CallF
  | 0 => fun _ _ _ => (false, ([], []))
  | n + 1 => fun f args blk => ansOf (runF E (run E n) n f args blk)

/- A PLACE IN THE CODE: what is still to be done there -/

inductive Step where
  | fst
  | snd
  | sub
  | head
  | body
  | jump (l : Nat)

/-- what is still to be done at a place -/
def stackAt : List Step → Code → Ann → List AItem → List AItem
  | [], c, an, k => .code c an :: k
  | s :: p, c, an, k => match s, c with
    | .fst, .seq x y => stackAt p x an.fst (push an.mask? (.code y an.snd :: k))
    | .snd, .seq _ y => stackAt p y an.snd k
    | .fst, .cond _ x _ => stackAt p x an.fst k
    | .snd, .cond _ _ y => stackAt p y an.snd k
    | .sub, .block id x => stackAt p x an.fst (.inBlock id :: k)
    | .sub, .scope x => stackAt p x an.fst (.inScope x an :: k)
    | .jump l, .scope x => match labelOf x l with
      | some r => stackAt p r an.snd (.inScope x an :: k)
      | none => []
    | .head, .loop x => .code x an.fst :: .inLoop x an :: k
    | .body, .loop x => stackAt p x an.fst (.inLoop x an :: k)
    | _, _ => []

def AFunc.at (fn : AFunc) (p : List Step) : List AItem := stackAt p fn.code fn.ann []

theorem ansOf_eq {x : Res} {r : List AV × List Block} (h : ansOf x = (true, r)) : x = some r := by
  cases x with
  | none => cases h
  | some y => cases h; rfl

theorem goF_succ (E : Env) (call : CallF) (fn : AFunc) (nw k : Nat) (s : List AItem) (st : St) :
    goF E call fn nw (k + 1) s st = go E call fn nw (goF E call fn nw k) depth s st := rfl

end Go.Abs
