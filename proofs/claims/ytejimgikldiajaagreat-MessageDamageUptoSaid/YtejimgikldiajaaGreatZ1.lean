/-
  Merged texts.
-/
import Derived.Calls
import Derived.Orders
import Derived.KernelRfl
import Derived.ChangeFn
import Derived.Laws.Cells
import Derived.RowKit3
import Derived.Laws.Slices
import Derived.Laws.Pointers
import Derived.Laws.Unary
import Derived.Laws.Strings
import Derived.Laws.Cover3
namespace Go.Abs
abbrev bF :=false
abbrev bT :=true
inductive Cell where
 | int (k:IntKind) (n:Int)
 | bool (b:Bool)
 | str (s:List UInt8)
 | slice (e:TypeId) (rows:List (List Cell))
abbrev Row :=List Cell
abbrev RL :=List (List Cell)
abbrev Rows :=RL
abbrev Cell.i (n:Int):Cell:=.int .i64 n
inductive CK where
 | int (k:IntKind)
 | bool
 | str
 | slice (e:TypeId)
 | ptr
 | fn
 | other
 deriving DecidableEq,Inhabited
def IntKind.same :IntKind→IntKind→Bool
 | .i8,.i8 | .i16,.i16 | .i32,.i32 | .i64,.i64 | .u8,.u8 | .u16,.u16 | .u32,.u32 | .u64,.u64=>true
 | _,_=>false
def CK.same :CK→CK→Bool
 | .int j,.int k=>IntKind.same j k
 | .bool,.bool | .str,.str | .ptr,.ptr | .fn,.fn=>true
 | .slice d,.slice e=>Nat.beq d e
 | _,_=>false
def Cell.kind :Cell→CK
 | .int k _=> .int k
 | .bool _=> .bool
 | .str _=> .str
 | .slice e _=> .slice e
inductive AC where
 | int (k:IntKind) (n:Int)
 | bool (b:Bool)
 | str (s:List UInt8)
 | sl (own:Bool) (e:TypeId) (rows:RL)
 | nils
 | ptr (b o:Nat)
 | eptr (e:TypeId) (row:List Cell) (o:Nat)
 | nilp
 | fn (f:FuncId) (caps:List AC)
 | nilf
 | refs (l:List AC)
 | aptr (a:AC)
 | msl (e:TypeId) (b n:Nat)
 | mptr (b:Nat) (e:TypeId) (i o:Nat)
 | win (e:TypeId) (b lo n:Nat) (c:Option Nat)
 | parr (e:TypeId) (b n:Nat)
 deriving Inhabited
abbrev AC.i (n:Int):AC:=.int .i64 n
abbrev AC.s (r:List (List Cell)):AC:=.sl false 93 r
abbrev AC.r (r:List (List Cell)):AC:=.sl false 5 r
inductive AV where
 | undef
 | one (a:AC)
 | agg (l:List AC)
 | tup (l:List AV)
 deriving Inhabited
abbrev AV.oi (n:Int):AV:=.one (.i n)
abbrev AV.os (r:List (List Cell)):AV:=.one (.s r)
abbrev AV.or (r:List (List Cell)):AV:=.one (.r r)
abbrev AV.ob (b:Bool):AV:=.one (.bool b)
inductive Block where
 | var (cells:List AC)
 | dead
 | fro (e:TypeId) (rows:Rows)
 | arr (e:TypeId) (rows:RL)
 deriving Inhabited
structure St where
 fr:List (Nat×AV)
 blk:List Block
structure Upd where
 val:AV
 dis:Option Nat
 wr:List (Nat×Block)
 nu:List Block
 rd:List Nat
def Upd.pure (v:AV):Upd:=⟨v,none,[],[],[]⟩
inductive TD where
 | int (k:IntKind) | bool | str
 | slice (e:TypeId)
 | array (n:Nat) (e:TypeId)
 | struct (fields:List (Nat×TypeId))
 | ptr (e:TypeId)
 | fn
 | other
structure Ty where
 desc:TD
 size:Nat
 bytes:Nat
 kinds:List CK
 eq:Bool
inductive Pat where
 | int (k:IntKind)
 | bool
 | str
 | sl (own:Bool) (e:TypeId)
 | ptr (b o:Nat)
 | nilp
 | nilf
 | msl (e:TypeId) (b:Nat)
 | win (e:TypeId) (b:Nat)
 | arrp (e:TypeId)
 | deadp
inductive PV where
 | one (p:Pat)
 | agg (l:List Pat)
structure Sig where
 res:List PV
 blks:List (List Pat)
 alts:List (List PV×List (List Pat))
inductive Ann where
 | leaf
 | seq (mask:Option (List (Nat×Bool))) (x y:Ann)
 | cond (x y:Ann)
 | sub (x:Ann)
 | loop (mask:List (Nat×Bool)) (x:Ann)
 | scope (mask:List (Nat×Bool)) (x rest:Ann)
 | reg (take:List Nat) (sigs:List (Nat×Sig))
abbrev Ann.q (x y:Ann):Ann:=.seq none x y
structure AFunc where
 code:Code
 ann:Ann
 params:List TypeId
 results:List ResultVar
 ownp:List Nat
 ownr:List Nat
 ownb:Bool
inductive FnDef where
 | code (f:AFunc)
 | prim (g:List AV→List Block→Option (List AV×List Block))
structure Env where
 tys:Nat→Option Ty
 funcs:Nat→Option (Sig×FnDef)
def get :List (Nat×AV)→Nat→AV
 | [],_=> .undef
 | (u,v)::r,t=>cond (Nat.beq u t) v (get r t)
def del :List (Nat×AV)→Nat→List (Nat×AV)
 | [],_=> []
 | (u,v)::r,t=>cond (Nat.beq u t) (del r t) ((u,v)::del r t)
def set (fr:List (Nat×AV))(t:Nat)(v:AV):List (Nat×AV):=(t,v)::del fr t
def put (fr:List (Nat×AV)):Option Nat→AV→List (Nat×AV)
 | none,_=>fr
 | some t,v=>set fr t v
def dF :List Nat→Nat→Bool
 | [],_=>false
 | x::r,t=>cond (Nat.beq x t) true (dF r t)
def AC.dis :AC→AC
 | .sl _ e r=> .sl false e r
 | a=>a
def qh :List AC→List AC
 | []=> []
 | a::r=>a.dis::qh r
def AV.dis :AV→AV
 | .one a=> .one a.dis
 | .agg l=> .agg (qh l)
 | .tup l=> .tup (go l)
 | .undef=> .undef
where
 go:List AV→List AV
  | []=> []
  | v::r=>v.dis::go r
def jC (fr:List (Nat×AV)):Option Nat→List (Nat×AV)
 | none=>fr
 | some t=>set fr t (get fr t).dis
def nth {α:Type}:List α→Nat→Option α
 | [],_=>none
 | x::_,0=>some x
 | _::r,n+1=>nth r n
def setN {α:Type}:List α→Nat→α→List α
 | [],_,_=> []
 | _::r,0,y=>y::r
 | x::r,n+1,y=>x::setN r n y
def bI {α:Type}:List α→Nat
 | []=>0
 | _::r=>bI r+1
def bz (bs:List Block):List (Nat×Block)→List Block
 | []=>bs
 | (k,c)::r=>bz (setN bs k c) r
def app {α:Type}:List α→List α→List α
 | [],r=>r
 | x::l,r=>x::app l r
def St.apply (st:St)(dst:Option Nat)(u:Upd):St:=
 ⟨put (jC st.fr u.dis) dst u.val,app (bz st.blk u.wr) u.nu⟩
def dV :Row→Nat→Cell
 | [],_=> .bool false
 | c::_,0=>c
 | _::r,j+1=>dV r j
def Cell.toInt :Cell→Int | .int _ n=>n | _=>0
def Cell.toBool :Cell→Bool | .bool b=>b | _=>false
def Cell.toStr :Cell→List UInt8 | .str s=>s | _=> []
def Cell.toRows :Cell→Rows | .slice _ r=>r | _=> []
def ko (row:Row)(j:Nat):CK→Option AC
 | .int k=>some (.int k (dV row j).toInt)
 | .bool=>some (.bool (dV row j).toBool)
 | .str=>some (.str (dV row j).toStr)
 | .slice e=>some (.sl false e (dV row j).toRows)
 | _=>none
def rA :Rows→Nat→Row
 | [],_=> []
 | r::_,0=>r
 | _::rs,i+1=>rA rs i
def AC.toCell :AC→Option Cell
 | .int k n=>some (.int k n)
 | .bool b=>some (.bool b)
 | .str s=>some (.str s)
 | .sl _ e r=>some (.slice e r)
 | _=>none
def va :CK→AC→AC
 | .slice e,.nils=> .sl true e []
 | _,a=>a
def lZ :CK→Option AC
 | .int k=>some (.int k 0)
 | .bool=>some (.bool false)
 | .str=>some (.str [])
 | .slice e=>some (.sl true e [])
 | .ptr=>some .nilp
 | .fn=>some .nilf
 | .other=>none
section cps
variable {β:Type}
def eE :List CK→(List AC→Option β)→Option β
 | [],K=>K []
 | k::ks,K=>match lZ k with
  | some a=>eE ks fun r=>K (a::r)
  | none=>none
def pg (row:Row):List CK→Nat→(List AC→Option β)→Option β
 | [],_,K=>K []
 | k::ks,j,K=>match ko row j k with
  | some a=>pg row ks (j+1) fun r=>K (a::r)
  | none=>none
def oF :List CK→List AC→List AC
 | k::ks,a::r=>va k a::oF ks r
 | _,r=>r
def qw :List CK→List AC→(Row→Option β)→Option β
 | [],[],K=>K []
 | k::ks,a::r,K=>match(va k a).toCell with
  | some c=>cond (CK.same c.kind k) (qw ks r fun cs=>K (c::cs)) none
  | none=>none
 | _,_,_=>none
def lw :List AC→Nat→Nat→(List AC→Option β)→Option β
 | _,_,0,K=>K []
 | [],_,_+1,_=>none
 | a::r,0,n+1,K=>lw r 0 n fun l=>K (a::l)
 | _::r,o+1,n+1,K=>lw r o (n+1) K
def eR :List AC→Nat→List AC→(List AC→Option β)→Option β
 | l,_,[],K=>K l
 | [],_,_::_,_=>none
 | _::r,0,x::xs,K=>eR r 0 xs fun l=>K (x::l)
 | a::r,o+1,x::xs,K=>eR r o (x::xs) fun l=>K (a::l)
def ag {α:Type}:List α→Nat→List α
 | l,0=>l
 | [],_=> []
 | _::r,n+1=>ag r n
def bA {α:Type}:List α→Nat→List α
 | _,0=> []
 | [],_=> []
 | x::r,n+1=>x::bA r n
end cps
def pH :Value→Option AC
 | .int k n=>some (.int k n)
 | .bool b=>some (.bool b)
 | .string s=>some (.str s.data.toList)
 | .pointer none=>some .nilp
 | .slice none 0 0=>some .nils
 | .nilFunc=>some .nilf
 | _=>none
def ql :List Value→Option (List AC)
 | []=>some []
 | v::r=>match pH v,ql r with
  | some a,some l=>some (a::l)
  | _,_=>none
def C1 :Value→AV
 | .agg cs=>match ql cs.toList with | some l=> .agg l | none=> .undef
 | v=>match pH v with | some a=> .one a | none=> .undef
def ev (fr:List (Nat×AV)):Operand→AV
 | .tmp t=>get fr t
 | .const v=>C1 v
 | .func f=> .one (.fn f [])
 | .global _=> .undef
def fw :Operand→Option Nat
 | .tmp t=>some t
 | _=>none
def Env.fit (E:Env)(t:TypeId)(v:AV):AV:=
 match E.tys t with
 | none=>v
 | some ty=>match v with
  | .one a=>match ty.kinds with | [k]=> .one (va k a) | _=>v
  | .agg l=> .agg (oF ty.kinds l)
  | v=>v
def LIM :Nat:=4294967296
def cb (n:Nat):Bool:=Nat.ble n LIM
def el {α:Type}:List α→Bool
 | []=>true
 | _=>false
def dA {α:Type}(l:List α)(lo hi:Nat):List α:=ag (bA l hi) lo
def ou (rows:Rows)(o:Nat)(ys:Rows):Rows:=app (bA rows o) (app ys (ag rows (o+bI ys)))
def KI (a b:Nat):Nat:=cond (Nat.ble a b) a b
def Upd.reads (u:Upd)(rd:List Nat):Upd:=⟨u.val,u.dis,u.wr,u.nu,app rd u.rd⟩
section ops
variable {β:Type} (E:Env)
def pn (e:TypeId):Bool:=
 match E.tys e with
 | some te=>match te.desc with
  | .int _=>true
  | _=>false
 | none=>false
def pY (st:St)(y:AV)(K:AV→List Nat→Option β):Option β:=
 match y with
 | .one (.msl e b n)=>match nth st.blk b with
  | some (.arr e' rows)=>cond (Nat.beq e e'&&pn E e) (cond (Nat.beq n rows.length) (K (.one (.sl false e rows)) [b]) none) none
  | _=>none
 | .one (.win e b lo n _)=>match nth st.blk b with
  | some (.arr e' rows)=>cond (Nat.beq e e'&&pn E e) (cond (Nat.ble (lo+n) rows.length) (K (.one (.sl false e (dA rows lo (lo+n)))) [b]) none) none
  | _=>none
 | y=>K y []
def cd (v:AV)(K:Upd→Option β):Option β:=K (Upd.pure v)
def iF (k:IntKind)(n:Int)(K:Upd→Option β):Option β:=K (Upd.pure (.one (.int k n)))
def eJ (b:Bool)(K:Upd→Option β):Option β:=K (Upd.pure (.one (.bool b)))
def GX (k:IntKind)(x y:Int):Int:=k.wrap ((BitVec.ofInt k.bits x&&&BitVec.ofInt k.bits y).toNat)
def orI (k:IntKind)(x y:Int):Int:=k.wrap ((BitVec.ofInt k.bits x ||| BitVec.ofInt k.bits y).toNat)
def m7 (k:IntKind)(x y:Int):Int:=k.wrap ((BitVec.ofInt k.bits x^^^BitVec.ofInt k.bits y).toNat)
def eH (k:IntKind)(x y:Int):Int:=k.wrap ((BitVec.ofInt k.bits x&&& ~~~(BitVec.ofInt k.bits y)).toNat)
def iA (k:IntKind)(x y:Int):Int:=k.wrap (x*2^(min y.toNat k.bits))
def nD (k:IntKind)(x y:Int):Int:=x.fdiv (2^(min y.toNat k.bits))
def bytesLess :List UInt8→List UInt8→Bool
 | _,[]=>false
 | [],_::_=>true
 | a::x,b::y=>a<b || (a==b&&bytesLess x y)
def eqC :AC→AC→Option Bool
 | .int j a,.int k b=>cond (IntKind.same j k) (some (a==b)) none
 | .bool a,.bool b=>some (a==b)
 | .str a,.str b=>some (a==b)
 | .nilp,.nilp=>some true
 | .nilp,.ptr _ _=>some false
 | .ptr _ _,.nilp=>some false
 | _,_=>none
def zi (p:Bool):Option Bool→Option Bool
 | some q=>some (p&&q)
 | none=>none
def eqL :List CK→List AC→List AC→Option Bool
 | [],[],[]=>some true
 | .int j::ks,.int k a::x,.int l b::y=>cond (IntKind.same j k&&IntKind.same j l) (zi (a==b) (eqL ks x y)) none
 | .bool::ks,.bool a::x,.bool b::y=>zi (a==b) (eqL ks x y)
 | .str::ks,.str a::x,.str b::y=>zi (a==b) (eqL ks x y)
 | _,_,_=>none
def Fb :TD→AC→Bool
 | .bool,.bool _=>true
 | .ptr _,.nilp=>true
 | .ptr _,.ptr _ _=>true
 | _,_=>false
def kr (op:BinOp)(t:TypeId)(x y:AV)(K:Upd→Option β):Option β:=
 match x,y with
 | .one (.int j a),.one (.int k b)=>match op with
  | .shl=>cond (decide (b<0)) none (iF j (iA j a b) K)
  | .shr=>cond (decide (b<0)) none (iF j (nD j a b) K)
  | _=>cond (IntKind.same j k) (match op with
   | .add=>iF j (j.wrap (a+b)) K
   | .sub=>iF j (j.wrap (a - b)) K
   | .mul=>iF j (j.wrap (a*b)) K
   | .quo=>cond (decide (b=0)) none (iF j (j.wrap (a.tdiv b)) K)
   | .rem=>cond (decide (b=0)) none (iF j (a.tmod b) K)
   | .and=>iF j (GX j a b) K
   | .or=>iF j (orI j a b) K
   | .xor=>iF j (m7 j a b) K
   | .andNot=>iF j (eH j a b) K
   | .eql=>eJ (a==b) K
   | .neq=>eJ (a !=b) K
   | .lss=>eJ (decide (a<b)) K
   | .leq=>eJ (decide (a≤b)) K
   | .gtr=>eJ (decide (a>b)) K
   | .geq=>eJ (decide (a≥b)) K
   | _=>none) none
 | .one (.str a),.one (.str b)=>match op with
  | .add=>cond (cb (a.length+b.length)) (cd (.one (.str (app a b))) K) none
  | .eql=>eJ (a==b) K
  | .neq=>eJ (!(a==b)) K
  | .lss=>eJ (bytesLess a b) K
  | .leq=>eJ (bytesLess a b || (a==b)) K
  | .gtr=>eJ (!(bytesLess a b || (a==b))) K
  | .geq=>eJ (!(bytesLess a b)) K
  | _=>none
 | .one (.sl _ _ rows),.one .nils=>match E.tys t with
  | some ty=>match ty.desc with
   | .slice _=>cond (el rows) none (match op with
    | .eql=>eJ false K
    | .neq=>eJ true K
    | _=>none)
   | _=>none
  | none=>none
 | .one a,.one b=>match E.tys t with
  | some ty=>cond (Fb ty.desc a) (match op,eqC a b with
   | .eql,some p=>eJ p K
   | .neq,some p=>eJ (!p) K
   | _,_=>none) none
  | none=>none
 | .agg a,.agg b=>match E.tys t with
  | some ty=>cond ty.eq (match op,eqL ty.kinds a b with
   | .eql,some p=>eJ p K
   | .neq,some p=>eJ (!p) K
   | _,_=>none) none
  | none=>none
 | _,_=>none
def unK (op:UnOp)(x:AV)(K:Upd→Option β):Option β:=
 match op,x with
 | .neg,.one (.int k n)=>iF k (k.wrap (0 - n)) K
 | .xor,.one (.int k n)=>iF k (m7 k (cond k.signed (-1) k.max) n) K
 | .not,.one (.bool b)=>eJ (!b) K
 | _,_=>none
def mv (b:UInt8):Row:=[.int .u8 b.toNat]
def rZ (r:Row):UInt8:=UInt8.ofNat (dV r 0).toInt.toNat
def ii :Rows→List UInt8
 | []=> []
 | r::rs=>rZ r::ii rs
def bK :List UInt8→Rows
 | []=> []
 | b::r=>mv b::bK r
def qQ (src dst:TypeId)(x:AV)(K:Upd→Option β):Option β:=
 match E.tys src,E.tys dst with
 | some ts,some td=>match x with
  | .one (.int _ n)=>match td.desc with
   | .int k=>iF k (k.wrap n) K
   | _=>none
  | .one (.str s)=>match td.desc with
   | .str=>cd (.one (.str s)) K
   | .slice e=>match E.tys e with
    | some te=>match te.desc with
     | .int .u8=>cond (cb s.length) (cd (.one (.sl true e (bK s))) K) none
     | _=>none
    | none=>none
   | _=>none
  | .one (.sl _ e r)=>match td.desc,ts.desc,E.tys e with
   | .str,.slice e',some te=>match te.desc with
    | .int .u8=>cond (Nat.beq e e') (cd (.one (.str (ii r))) K) none
    | _=>none
   | _,_,_=>none
  | .one .nils=>match td.desc,ts.desc with
   | .str,.slice e=>match E.tys e with
    | some te=>match te.desc with
     | .int .u8=>cd (.one (.str [])) K
     | _=>none
    | none=>none
   | _,_=>none
  | _=>none
 | _,_=>none
def eF (ty:Ty)(v:AV)(K:List AC→Option β):Option β:=
 match v with
 | .one a=>match ty.kinds with | [k]=>K [va k a] | _=>none
 | .agg l=>cond (Nat.beq (bI l) ty.size) (K (oF ty.kinds l)) none
 | _=>none
def TD.isAgg :TD→Bool
 | .struct _=>true
 | .array _ _=>true
 | _=>false
def dg (ty:Ty)(l:List AC)(K:AV→Option β):Option β:=
 match ty.desc.isAgg,l with
 | true,l=>K (.agg l)
 | false,[a]=>K (.one a)
 | _,_=>none
def ff :List CK→List CK→Bool
 | [],[]=>true
 | a::x,b::y=>cond (CK.same a b) (ff x y) false
 | _,_=>false
def lx (tk:Bool)(t:TypeId)(st:St)(p:AV)(K:Upd→Option β):Option β:=
 match E.tys t with
 | none=>none
 | some ty=>match p with
  | .one (.ptr b o)=>match nth st.blk b with
   | some (.var cells)=>lw cells o ty.size fun l=>dg ty l fun v=>match tk with
    | false=>K ⟨v.dis,none,[],[],[b]⟩
    | true=>eR cells o (qh l) fun cells'=>K ⟨v,none,[(b,.var cells')],[],[b]⟩
   | _=>none
  | .one (.eptr e row o)=>match E.tys e with
   | some te=>cond (ff (bA (ag te.kinds o) ty.size) ty.kinds) (pg row ty.kinds o fun l=>dg ty l fun v=>K (Upd.pure v)) none
   | none=>none
  | .one (.aptr a)=>match ty.kinds with | [_]=>dg ty [a.dis] fun v=>K (Upd.pure v) | _=>none
  | .one (.mptr b e i o)=>match nth st.blk b with
   | some (.arr e' rows)=>match E.tys e with
    | some te=>cond (Nat.beq e e'&&ff (bA (ag te.kinds o) ty.size) ty.kinds) (cond (Nat.blt i rows.length) (pg (rA rows i) ty.kinds o fun l=>dg ty l fun v=>K ⟨v,none,[],[],[b]⟩) none) none
    | none=>none
   | _=>none
  | _=>none
def dT (row:Row)(o:Nat)(cs:Row):Row:=app (bA row o) (app cs (ag row (o+bI cs)))
def fB (t:TypeId)(st:St)(p v:AV)(dis:Option Nat)(K:Upd→Option β):Option β:=
 match E.tys t with
 | none=>none
 | some ty=>match p with
  | .one (.ptr b o)=>match nth st.blk b with
   | some (.var cells)=>eF ty v fun l=>eR cells o l fun cells'=>K ⟨.undef,dis,[(b,.var cells')],[],[b]⟩
   | _=>none
  | .one (.mptr b e i o)=>match nth st.blk b with
   | some (.arr e' rows)=>match E.tys e with
    | some te=>cond (Nat.beq e e'&&ff (bA (ag te.kinds o) ty.size) ty.kinds) (cond (Nat.blt i rows.length) (eF ty v fun l=>qw ty.kinds l fun cs=>K ⟨.undef,none,[(b,.arr e (setN rows i (dT (rA rows i) o cs)))],[],[b]⟩) none) none
    | none=>none
   | _=>none
  | _=>none
def inB (i:Int)(n:Nat):Bool:=decide (0≤i∧i<n)
def gS (t:TypeId)(x i:AV)(K:Upd→Option β):Option β:=
 match E.tys t with
 | none=>none
 | some ty=>match x,i with
  | .one (.sl _ e rows),.one (.int _ n)=>match ty.desc with
   | .slice e'=>cond (Nat.beq e e') (cond (inB n rows.length) (cd (.one (.eptr e (rA rows n.toNat) 0)) K) none) none
   | _=>none
  | .one (.refs l),.one (.int _ n)=>match ty.desc with
   | .slice e=>match E.tys e with
    | some te=>cond (Nat.beq te.size 1) (cond (inB n (bI l)) (match nth l n.toNat with | some a=>cd (.one (.aptr a)) K | none=>none) none) none
    | none=>none
   | _=>none
  | .one (.ptr b o),.one (.int _ n)=>match ty.desc with
   | .array len e=>match E.tys e with
    | some te=>cond (inB n len) (cd (.one (.ptr b (o+n.toNat*te.size))) K) none
    | none=>none
   | _=>none
  | .one (.msl e b m),.one (.int _ n)=>match ty.desc with
   | .slice e'=>cond (Nat.beq e e') (cond (inB n m) (cd (.one (.mptr b e n.toNat 0)) K) none) none
   | _=>none
  | .one (.win e b lo m _),.one (.int _ n)=>match ty.desc with
   | .slice e'=>cond (Nat.beq e e') (cond (inB n m) (cd (.one (.mptr b e (lo+n.toNat) 0)) K) none) none
   | _=>none
  | _,_=>none
def fieldAt (s:TypeId)(f:Nat):Option (Nat×Ty):=
 match E.tys s with
 | some ty=>match ty.desc with
  | .struct fs=>match nth fs f with
   | some (off,ft)=>match E.tys ft with
    | some tf=>some (off,tf)
    | none=>none
   | none=>none
  | _=>none
 | none=>none
def hP (s:TypeId)(x:AV)(f:Nat)(K:Upd→Option β):Option β:=
 match fieldAt E s f with
 | some (off,_)=>match x with
  | .one (.ptr b o)=>cd (.one (.ptr b (o+off))) K
  | .one (.eptr e row o)=>cd (.one (.eptr e row (o+off))) K
  | .one (.mptr b e i o)=>cd (.one (.mptr b e i (o+off))) K
  | _=>none
 | none=>none
def pL (s:TypeId)(x:AV)(f:Nat)(K:Upd→Option β):Option β:=
 match fieldAt E s f with
 | some (off,tf)=>match x with
  | .agg l=>lw l off tf.size fun cs=>dg tf cs fun v=>cd v.dis K
  | _=>none
 | none=>none
def uL (k:IntKind):List AC→Bool
 | []=>true
 | .int j _::r=>cond (IntKind.same k j) (uL k r) false
 | _=>false
def wW :List AC→Nat→Int
 | [],_=>0
 | .int _ n::_,0=>n
 | _::_,0=>0
 | _::r,n+1=>wW r n
def qg (t:TypeId)(x i:AV)(K:Upd→Option β):Option β:=
 match x,i with
 | .one (.str s),.one (.int _ n)=>match E.tys t with
  | some ty=>match ty.desc with
   | .str=>cond (inB n s.length) (iF .u8 (s.getD n.toNat 0).toNat K) none
   | _=>none
  | none=>none
 | .agg l,.one (.int _ n)=>match E.tys t with
  | some ty=>match ty.desc with
   | .array len e=>match E.tys e with
    | some te=>match te.desc with
     | .int k=>cond (Nat.beq te.size 1&&(Nat.beq (bI l) len&&uL k l)) (cond (inB n len) (iF k (wW l n.toNat) K) none) none
     | _=>none
    | none=>none
   | _=>none
  | none=>none
 | _,_=>none
def asI :AV→Option Int
 | .one (.int _ n)=>some n
 | _=>none
def dS (own:Bool)(e:TypeId)(rows:Rows)(lo hi mx:Option AV)(K:AV→Option β):Option β:=
 match lo,hi,mx with
 | none,none,none=>K (.one (.sl own e rows))
 | some l,none,none=>match asI l with
  | some l=>cond (inB l (rows.length+1)) (K (.one (.sl own e (ag rows l.toNat)))) none
  | none=>none
 | none,some h,none=>match asI h with
  | some h=>cond (inB h (rows.length+1)) (K (.one (.sl false e (bA rows h.toNat)))) none
  | none=>none
 | some l,some h,none=>match asI l,asI h with
  | some l,some h=>cond (inB h (rows.length+1)) (cond (inB l (h.toNat+1)) (K (.one (.sl false e (dA rows l.toNat h.toNat)))) none) none
  | _,_=>none
 | none,some h,some m=>match asI h,asI m with
  | some h,some m=>cond (inB m (rows.length+1)) (cond (decide (h=m)) (K (.one (.sl true e (bA rows h.toNat)))) none) none
  | _,_=>none
 | some l,some h,some m=>match asI l,asI h,asI m with
  | some l,some h,some m=>cond (inB m (rows.length+1)) (cond (decide (h=m)) (cond (inB l (h.toNat+1)) (K (.one (.sl true e (dA rows l.toNat h.toNat)))) none) none) none
  | _,_,_=>none
 | _,_,_=>none
def gg (s:List UInt8)(lo hi:Option AV)(K:AV→Option β):Option β:=
 match lo,hi with
 | none,none=>K (.one (.str s))
 | some l,none=>match asI l with
  | some l=>cond (inB l (s.length+1)) (K (.one (.str (ag s l.toNat)))) none
  | none=>none
 | none,some h=>match asI h with
  | some h=>cond (inB h (s.length+1)) (K (.one (.str (bA s h.toNat)))) none
  | none=>none
 | some l,some h=>match asI l,asI h with
  | some l,some h=>cond (inB h (s.length+1)) (cond (inB l (h.toNat+1)) (K (.one (.str (dA s l.toNat h.toNat)))) none) none
  | _,_=>none
def gr (e:TypeId)(b lo0 n:Nat)(c:Option Nat)(lo hi mx:Option AV)(K:AV→Option β):Option β:=
 match lo,hi,mx with
 | none,none,none=>K (.one (.win e b lo0 n c))
 | some l,none,none=>match asI l with
  | some l=>cond (inB l (n+1)) (K (.one (.win e b (lo0+l.toNat) (n - l.toNat) none))) none
  | none=>none
 | none,some h,none=>match asI h with
  | some h=>cond (inB h (n+1)) (K (.one (.win e b lo0 h.toNat c))) none
  | none=>none
 | some l,some h,none=>match asI l,asI h with
  | some l,some h=>cond (inB h (n+1)) (cond (inB l (h.toNat+1)) (K (.one (.win e b (lo0+l.toNat) (h.toNat - l.toNat) none))) none) none
  | _,_=>none
 | none,some h,some m=>match asI h,asI m with
  | some h,some m=>cond (inB m (n+1)) (cond (decide (h=m)) (K (.one (.win e b lo0 h.toNat none))) none) none
  | _,_=>none
 | some l,some h,some m=>match asI l,asI h,asI m with
  | some l,some h,some m=>cond (inB m (n+1)) (cond (decide (h=m)) (cond (inB l (h.toNat+1)) (K (.one (.win e b (lo0+l.toNat) (h.toNat - l.toNat) none))) none) none) none
  | _,_,_=>none
 | _,_,_=>none
def nR (t:TypeId)(dis:Option Nat)(x:AV)(lo hi mx:Option AV)(K:Upd→Option β):Option β:=
 match E.tys t with
 | none=>none
 | some ty=>match x with
  | .one (.sl own e rows)=>match ty.desc with
   | .slice e'=>match E.tys e with
    | some _=>cond (Nat.beq e e') (dS own e rows lo hi mx fun v=>K ⟨v,dis,[],[],[]⟩) none
    | none=>none
   | _=>none
  | .one (.str s)=>match ty.desc,mx with
   | .str,none=>gg s lo hi fun v=>cd v K
   | _,_=>none
  | .one (.msl e b n)=>match ty.desc with
   | .slice e'=>cond (Nat.beq e e') (cond (Nat.blt 0 n) (gr e b 0 n none lo hi mx fun v=>cd v K) none) none
   | _=>none
  | .one (.win e b lo0 n c)=>match ty.desc with
   | .slice e'=>cond (Nat.beq e e') (gr e b lo0 n c lo hi mx fun v=>cd v K) none
   | _=>none
  | .one (.parr e b n)=>match ty.desc with
   | .array m e'=>cond (Nat.beq e e'&&Nat.beq n m) (gr e b 0 n (some n) lo hi mx fun v=>cd v K) none
   | _=>none
  | _=>none
def yA (e:TypeId):AV→AV
 | .one .nils=> .one (.sl true e [])
 | v=>v
def TD.source :TD→Bool
 | .slice _=>true
 | .str=>true
 | _=>false
def mD (t t2:TypeId)(dis:Option Nat)(x y:AV)(K:Upd→Option β):Option β:=
 match E.tys t,E.tys t2 with
 | none,_=>none
 | _,none=>none
 | some ty,some ty2=>cond ty2.desc.source (match ty.desc with
  | .slice e=>match E.tys e with
   | some te=>cond (Nat.ble te.bytes 4096) (match yA e x,y with
    | .one (.sl true e' rows),.one (.sl _ e'' ys)=>cond (Nat.beq e e'&&Nat.beq e e'') (cond (cb (rows.length+ys.length)) (K ⟨.one (.sl true e (rows++ys)),dis,[],[],[]⟩) none) none
    | .one (.sl true e' rows),.one .nils=>cond (Nat.beq e e') (cond (cb rows.length) (K ⟨.one (.sl true e rows),dis,[],[],[]⟩) none) none
    | .one (.sl true e' rows),.one (.str s)=>match te.desc with
     | .int .u8=>cond (Nat.beq e e') (cond (cb (rows.length+s.length)) (K ⟨.one (.sl true e (rows++bK s)),dis,[],[],[]⟩) none) none
     | _=>none
    | _,_=>none) none
   | none=>none
  | _=>none) none
def md (t t2:TypeId)(e:TypeId)(b n:Nat)(st:St)(y:AV)(K:Upd→Option β):Option β:=
 match E.tys t,E.tys t2 with
 | some ty,some ty2=>cond ty2.desc.source (match ty.desc with
  | .slice e0=>match E.tys e with
   | some te=>cond (Nat.beq e e0&&Nat.ble te.bytes 4096) (match nth st.blk b,y with
    | some (.arr e' rows),.one (.sl _ e'' ys)=>cond (Nat.beq e e'&&Nat.beq e e'') (cond (Nat.beq n rows.length) (cond (cb (rows.length+ys.length))
     (K ⟨.one (.msl e (bI st.blk) (rows.length+ys.length)),none,[(b,.dead)],[.arr e (rows++ys)],[b]⟩) none) none) none
    | _,_=>none) none
   | none=>none
  | _=>none) none
 | _,_=>none
def mj (t t2:TypeId)(e:TypeId)(b lo n c:Nat)(st:St)(y:AV)(K:Upd→Option β):Option β:=
 match E.tys t,E.tys t2 with
 | some ty,some ty2=>cond ty2.desc.source (match ty.desc with
  | .slice e0=>cond (Nat.beq e e0) (match nth st.blk b,y with
   | some (.arr e' rows),.one (.sl _ e'' ys)=>cond (Nat.beq e e'&&Nat.beq e e'') (cond (Nat.blt 0 rows.length) (cond (Nat.ble (n+ys.length) c) (cond (Nat.ble (lo+n+ys.length) rows.length)
    (K ⟨.one (.win e b lo (n+ys.length) (some c)),none,[(b,.arr e (ou rows (lo+n) ys))],[],[b]⟩) none) none) none) none
   | _,_=>none) none
  | _=>none) none
 | _,_=>none
def qr (n m:Int):Bool:=decide (0≤n∧n≤m)&&cb m.toNat
def jg (t t2:TypeId)(e:TypeId)(b n:Nat)(st:St)(k:Int)(K:Upd→Option β):Option β:=
 match E.tys t,E.tys t2 with
 | some ty,some ty2=>match ty.desc,ty2.desc with
  | .slice e0,.int _=>match E.tys e with
   | some te=>cond (Nat.beq e e0&&Nat.ble te.bytes 4096) (match nth st.blk b with
    | some (.arr e' rows)=>cond (Nat.beq e e') (cond (Nat.beq n rows.length) (cond (qr k k) (cond (cb (rows.length+k.toNat)) (eE te.kinds fun z=>qw te.kinds z fun row=>
     K ⟨.one (.msl e (bI st.blk) (rows.length+k.toNat)),none,[(b,.dead)],[.arr e (rows++List.replicate k.toNat row)],[b]⟩) none) none) none) none
    | _=>none) none
   | none=>none
  | _,_=>none
 | _,_=>none
def ig (t t2:TypeId)(dis:Option Nat)(x:AV)(st:St)(y:AV)(K:Upd→Option β):Option β:=
 match x with
 | .one (.msl e b n)=>match y with
  | .one (.int _ k)=>jg E t t2 e b n st k K
  | y=>md E t t2 e b n st y K
 | .one (.win e b lo n (some c))=>mj E t t2 e b lo n c st y K
 | v=>mD E t t2 dis v y K
def jm (e0 e:TypeId)(b lo n:Nat)(st:St)(y:AV)(K:Upd→Option β):Option β:=
 match nth st.blk b,y with
 | some (.arr e' rows),.one (.sl _ e'' ys)=>cond (Nat.beq e e0&&(Nat.beq e e'&&Nat.beq e e'')) (cond (Nat.blt 0 rows.length) (cond (Nat.ble (lo+n) rows.length)
  (K ⟨.one (.int .i64 (KI n ys.length)),none,[(b,.arr e (ou rows lo (bA ys (KI n ys.length))))],[],[b]⟩) none) none) none
 | _,_=>none
def me (t:TypeId)(x:AV)(st:St)(y:AV)(K:Upd→Option β):Option β:=
 match E.tys t with
 | none=>none
 | some ty=>match ty.desc with
  | .slice e0=>match x with
   | .one (.msl e b n)=>cond (Nat.blt 0 n) (jm e0 e b 0 n st y K) none
   | .one (.win e b lo n _)=>jm e0 e b lo n st y K
   | _=>none
  | _=>none
def o0 (t:TypeId)(st:St)(x:AV)(K:Upd→Option β):Option β:=
 match E.tys t with
 | some ty=>match ty.desc,x with
  | .slice e,.one .nils=>match E.tys e with
   | some _=>K ⟨.one (.msl e (bI st.blk) 0),none,[],[.arr e []],[]⟩
   | none=>none
  | _,.one (.msl e b n)=>K ⟨.one (.msl e b n),none,[],[],[]⟩
  | _,_=>none
 | none=>none
def kL (t:TypeId)(len:Nat)(st:St)(K:Upd→Option β):Option β:=
 match E.tys t with
 | some ty=>match ty.desc with
  | .slice e=>match E.tys e with
   | some _=>cond (Nat.beq len 0) (K ⟨.one (.msl e (bI st.blk) 0),none,[],[.arr e []],[]⟩) none
   | none=>none
  | _=>none
 | none=>none
def iT (st:St)(x:AV)(K:Upd→Option β):Option β:=
 match x with
 | .one (.sl _ e rows)=>K ⟨.one (.sl false e rows),none,[],[],[]⟩
 | .one (.msl e b n)=>match nth st.blk b with
  | some (.arr e' rows)=>cond (Nat.beq e e') (cond (Nat.beq n rows.length) (K ⟨.one (.sl false e rows),none,[(b,.fro e rows)],[],[b]⟩) none) none
  | some (.fro e' rows)=>cond (Nat.beq e e') (cond (Nat.beq n rows.length) (K ⟨.one (.sl false e rows),none,[],[],[b]⟩) none) none
  | _=>none
 | .one (.win e b lo n _)=>match nth st.blk b with
  | some (.arr e' rows)=>cond (Nat.beq e e') (cond (Nat.ble (lo+n) rows.length) (K ⟨.one (.sl false e (dA rows lo (lo+n))),none,[(b,.fro e rows)],[],[b]⟩) none) none
  | _=>none
 | _=>none
def ES (t:TypeId)(x:AV)(K:Upd→Option β):Option β:=
 match E.tys t with
 | none=>none
 | some ty=>match x,ty.desc with
  | .one (.sl _ _ rows),.slice _=>iF .i64 rows.length K
  | .one .nils,.slice _=>iF .i64 0 K
  | .one (.refs l),.slice _=>iF .i64 (bI l) K
  | .one (.str s),.str=>iF .i64 s.length K
  | .one (.msl _ _ n),.slice _=>iF .i64 n K
  | .one (.win _ _ _ n _),.slice _=>iF .i64 n K
  | _,_=>none
def buildK (t:TypeId)(parts:List (Nat×AV))(K:Upd→Option β):Option β:=
 match E.tys t with
 | some ty=>match ty.desc with
  | .struct fs=>eE ty.kinds fun z=>fillK (fun i=>match nth fs i with
   | some (off,ft)=>(E.tys ft).map fun tf=>(off,tf)
   | none=>none) parts z fun l=>cd (.agg l) K
  | .array _ e=>match E.tys e with
   | some te=>eE ty.kinds fun z=>fillK (fun i=>some (i*te.size,te)) parts z fun l=>cd (.agg l) K
   | none=>none
  | _=>none
 | none=>none
where
 fillK (place:Nat→Option (Nat×Ty)):List (Nat×AV)→List AC→(List AC→Option β)→Option β
  | [],z,K=>K z
  | (i,v)::r,z,K=>match place i with
   | some (off,tf)=>eF tf v fun l=>eR z off l fun z'=>fillK place r z' K
   | none=>none
def qn :List CK→List AC→List AC
 | .slice _::ks,_::l=> .nils::qn ks l
 | _::ks,a::l=>a::qn ks l
 | _,l=>l
def jN (t:TypeId)(parts:List (Nat×AV))(K:Upd→Option β):Option β:=
 match E.tys t with
 | some ty=>match ty.desc with
  | .struct fs=>eE ty.kinds fun z=>buildK.fillK (fun i=>match nth fs i with
   | some (off,ft)=>(E.tys ft).map fun tf=>(off,tf)
   | none=>none) parts (qn ty.kinds z) fun l=>cd (.agg l) K
  | _=>none
 | none=>none
def lb (t:TypeId)(st:St)(p v:AV)(K:Upd→Option β):Option β:=
 match E.tys t with
 | none=>none
 | some ty=>match p,v with
  | .one (.ptr b o),.agg l=>match nth st.blk b with
   | some (.var cells)=>cond (Nat.beq (bI l) ty.size) (eR cells o l fun cells'=>K ⟨.undef,none,[(b,.var cells')],[],[b]⟩) none
   | _=>none
  | _,_=>none
def eI (te:Ty)(len:Nat):Nat→List (Nat×AV)→(Rows→Option β)→Option β
 | i,[],K=>cond (Nat.beq i len) (K []) none
 | i,(j,v)::r,K=>cond (Nat.beq i j) (eF te v fun l=>qw te.kinds l fun row=>eI te len (i+1) r fun rs=>K (row::rs)) none
def eK (len:Nat):Nat→List (Nat×AV)→(List AC→Option β)→Option β
 | i,[],K=>cond (Nat.beq i len) (K []) none
 | i,(j,v)::r,K=>cond (Nat.beq i j) (match v with
  | .one (.ptr b o)=>eK len (i+1) r fun rs=>K (.ptr b o::rs)
  | .one .nilp=>eK len (i+1) r fun rs=>K (.nilp::rs)
  | _=>none) none
def fV (t:TypeId)(len:Nat)(parts:List (Nat×AV))(K:Upd→Option β):Option β:=
 match E.tys t with
 | none=>none
 | some ty=>match ty.desc with
  | .slice e=>match E.tys e with
   | some te=>cond (Nat.ble (len*te.size) 16777216) (match te.desc with
    | .ptr _=>eK len 0 parts fun l=>cd (.one (.refs l)) K
    | _=>eI te len 0 parts fun rows=>cd (.one (.sl true e rows)) K) none
   | none=>none
  | _=>none
def gZ (t:TypeId)(len cap:AV)(K:Upd→Option β):Option β:=
 match E.tys t with
 | none=>none
 | some ty=>match ty.desc with
  | .slice e=>match E.tys e,asI len,asI cap with
   | some te,some n,some m=>cond (Nat.ble te.bytes 4096) (cond (qr n m) (eE te.kinds fun z=>qw te.kinds z fun row=>
    cd (.one (.sl true e (List.replicate n.toNat row))) K) none) none
   | _,_,_=>none
  | _=>none
def jW (t:TypeId)(st:St)(len cap:AV)(K:Upd→Option β):Option β:=
 match E.tys t with
 | none=>none
 | some ty=>match ty.desc with
  | .slice e=>match E.tys e,asI len,asI cap with
   | some te,some n,some m=>cond (Nat.ble te.bytes 4096) (cond (qr n m) (cond (Nat.blt 0 n.toNat) (eE te.kinds fun z=>qw te.kinds z fun row=>
    K ⟨.one (.msl e (bI st.blk) n.toNat),none,[],[.arr e (List.replicate n.toNat row)],[]⟩) none) none) none
   | _,_,_=>none
  | _=>none
def ot (k:CK):List CK→Bool
 | []=>true
 | x::r=>cond (CK.same k x) (ot k r) false
def jX (t:TypeId)(st:St)(K:Upd→Option β):Option β:=
 match E.tys t with
 | none=>none
 | some ty=>match ty.desc with
  | .array n e=>match E.tys e with
   | some te=>match te.kinds with
    | [k]=>cond (Nat.beq ty.size n&&(Nat.blt 0 n&&ot k ty.kinds)) (match lZ k with
     | some c=>match c.toCell with
      | some x=>K ⟨.one (.parr e (bI st.blk) n),none,[],[.arr e (List.replicate n [x])],[]⟩
      | none=>none
     | none=>none) none
    | _=>none
   | none=>none
  | _=>none
def dI (isMax:Bool):AV→List AV→(Upd→Option β)→Option β
 | v,[],K=>cd v K
 | .one (.int k a),.one (.int _ b)::r,K=>dI isMax (.one (.int k (cond isMax (if b>a then b else a) (if b<a then b else a)))) r K
 | _,_,_=>none
end ops
mutual
def AC.refsOf :AC→List Nat
 | .ptr b _=> [b]
 | .fn _ caps=>pz caps
 | .refs l=>pz l
 | .aptr a=>a.refsOf
 | .msl _ b _=> [b]
 | .mptr b _ _ _=> [b]
 | .win _ b _ _ _=> [b]
 | .parr _ b _=> [b]
 | _=> []
def pz :List AC→List Nat
 | []=> []
 | a::r=>app a.refsOf (pz r)
end
def AV.refsOf :AV→List Nat
 | .one a=>a.refsOf
 | .agg l=>pz l
 | .tup l=>go l
 | .undef=> []
where
 go:List AV→List Nat
  | []=> []
  | v::r=>app v.refsOf (go r)
def gG :List AV→List Nat
 | []=> []
 | v::r=>app v.refsOf (gG r)
def Block.refsOf :Block→List Nat
 | .var cells=>pz cells
 | .dead=> []
 | .arr _ _=> []
 | .fro _ _=> []
def gH :List Block→List Nat
 | []=> []
 | b::r=>app b.refsOf (gH r)
def bE :Nat→Nat→List Nat
 | _,0=> []
 | i,n+1=>i::bE (i+1) n
def dQ (blk:List Block):Nat→List Nat→List Nat→List Nat
 | 0,_,seen=>seen
 | _+1,[],seen=>seen
 | n+1,b::todo,seen=>cond (dF seen b) (dQ blk n todo seen) (dQ blk n (app (match nth blk b with | some c=>c.refsOf | none=> []) todo) (app seen [b]))
def dY :List Nat→Nat→Nat→Option Nat
 | [],_,_=>none
 | x::r,b,i=>cond (Nat.beq x b) (some i) (dY r b (i+1))
mutual
def AC.remap (μ:Nat→Option Nat):AC→Option AC
 | .ptr b o=>match μ b with | some b'=>some (.ptr b' o) | none=>none
 | .fn f caps=>match mr μ caps with | some l=>some (.fn f l) | none=>none
 | .refs l=>match mr μ l with | some l'=>some (.refs l') | none=>none
 | .aptr a=>match a.remap μ with | some a'=>some (.aptr a') | none=>none
 | .msl e b n=>match μ b with | some b'=>some (.msl e b' n) | none=>none
 | .mptr b e i o=>match μ b with | some b'=>some (.mptr b' e i o) | none=>none
 | .win e b lo n c=>match μ b with | some b'=>some (.win e b' lo n c) | none=>none
 | .parr e b n=>match μ b with | some b'=>some (.parr e b' n) | none=>none
 | a=>some a
def mr (μ:Nat→Option Nat):List AC→Option (List AC)
 | []=>some []
 | a::r=>match a.remap μ,mr μ r with
  | some a',some r'=>some (a'::r')
  | _,_=>none
end
def AV.remap (μ:Nat→Option Nat):AV→Option AV
 | .one a=>match a.remap μ with | some a'=>some (.one a') | none=>none
 | .agg l=>match mr μ l with | some l'=>some (.agg l') | none=>none
 | .tup l=>match go l with | some l'=>some (.tup l') | none=>none
 | .undef=>some .undef
where
 go:List AV→Option (List AV)
  | []=>some []
  | v::r=>match v.remap μ,go r with
   | some v',some r'=>some (v'::r')
   | _,_=>none
def jJ (μ:Nat→Option Nat):List AV→Option (List AV)
 | []=>some []
 | v::r=>match v.remap μ,jJ μ r with
  | some v',some r'=>some (v'::r')
  | _,_=>none
def Block.remap (μ:Nat→Option Nat):Block→Option Block
 | .var cells=>match mr μ cells with | some l=>some (.var l) | none=>none
 | .dead=>some .dead
 | .arr e rows=>some (.arr e rows)
 | .fro e rows=>some (.fro e rows)
def ey (μ:Nat→Option Nat)(blk:List Block):List Nat→Option (List Block)
 | []=>some []
 | b::r=>match nth blk b,ey μ blk r with
  | some c,some l=>match c.remap μ with | some c'=>some (c'::l) | none=>none
  | _,_=>none
def mo :List (Nat×AV)→(Nat→Option Nat)→List (Nat×Bool)→Option (List (Nat×AV))
 | _,_,[]=>some []
 | fr,μ,(t,own)::r=>match(cond own (get fr t) (get fr t).dis).remap μ,mo fr μ r with
  | some v,some l=>some ((t,v)::l)
  | _,_=>none
def gY :List Nat→Nat→Nat→List Nat
 | _,_,0=> []
 | l,i,n+1=>cond (dF l i) (i::gY l (i+1) n) (gY l (i+1) n)
def lT (fr:List (Nat×AV)):List (Nat×Bool)→List Nat
 | []=> []
 | (t,_)::r=>app (get fr t).refsOf (lT fr r)
section run
variable {β:Type}
def uu (nw:Nat)(m:List (Nat×Bool))(st:St)(K:St→Option β):Option β:=
 let sel:=app (bE 0 nw) (gY (dQ st.blk 1000 (app (lT st.fr m) (gH (bA st.blk nw))) []) nw (bI st.blk - nw))
 match mo st.fr (fun b=>dY sel b 0) m,ey (fun b=>dY sel b 0) st.blk sel with
 | some fr,some blk=>K ⟨fr,blk⟩
 | _,_=>none
def Pat.ok :Pat→AC→Bool
 | .int j,.int k _=>IntKind.same j k
 | .bool,.bool _=>true
 | .str,.str _=>true
 | .sl own e,.sl own' e' _=>Nat.beq e e'&&(!own || own')
 | .sl _ _,.nils=>true
 | .ptr b o,.ptr b' o'=>Nat.beq b b'&&Nat.beq o o'
 | .nilp,.nilp=>true
 | .nilf,.nilf=>true
 | .msl e b,.msl e' b' _=>Nat.beq e e'&&Nat.beq b b'
 | .win e b,.win e' b' _ _ _=>Nat.beq e e'&&Nat.beq b b'
 | _,_=>false
def AC.toN :AC→Nat | .msl _ _ n=>n | .win _ _ _ n _=>n | _=>0
def AC.toLo :AC→Nat | .win _ _ lo _ _=>lo | _=>0
def AC.toCap :AC→Option Nat | .win _ _ _ _ c=>c | _=>none
def AC.toI :AC→Int | .int _ n=>n | _=>0
def AC.toB :AC→Bool | .bool b=>b | _=>false
def AC.toS :AC→List UInt8 | .str s=>s | _=> []
def AC.toR :AC→Rows | .sl _ _ r=>r | _=> []
def Pat.proj :Pat→AC→AC
 | .int k,a=> .int k a.toI
 | .bool,a=> .bool a.toB
 | .str,a=> .str a.toS
 | .sl own e,a=> .sl own e a.toR
 | .ptr b o,_=> .ptr b o
 | .nilp,_=> .nilp
 | .nilf,_=> .nilf
 | .msl e b,a=> .msl e b a.toN
 | .win e b,a=> .win e b a.toLo a.toN a.toCap
 | .arrp _,_=> .nilp
 | .deadp,_=> .nilp
def J4 :List AC→Nat→AC
 | [],_=> .nilp
 | a::_,0=>a
 | _::r,n+1=>J4 r n
def AV.toC :AV→AC | .one a=>a | _=> .nilp
def AV.toL :AV→List AC | .agg l=>l | _=> []
def Ma :List AV→Nat→AV
 | [],_=> .undef
 | a::_,0=>a
 | _::r,n+1=>Ma r n
def Block.toL :Block→List AC | .var l=>l | _=> []
def Block.toR :Block→Rows | .arr _ r=>r | _=> []
def kz :List Block→Nat→Block
 | [],_=> .dead
 | a::_,0=>a
 | _::r,n+1=>kz r n
def okL :List Pat→List AC→Bool
 | [],[]=>true
 | p::ps,a::r=>p.ok a&&okL ps r
 | _,_=>false
def iD :List Pat→List AC→Nat→List AC
 | [],_,_=> []
 | p::ps,l,i=>p.proj (J4 l i)::iD ps l (i+1)
def PV.ok :PV→AV→Bool
 | .one p,.one a=>p.ok a
 | .agg ps,.agg l=>okL ps l
 | _,_=>false
def PV.proj :PV→AV→AV
 | .one p,v=> .one (p.proj v.toC)
 | .agg ps,v=> .agg (iD ps v.toL 0)
def FL :List PV→List AV→Bool
 | [],[]=>true
 | p::ps,v::r=>p.ok v&&FL ps r
 | _,_=>false
def gm :List PV→List AV→Nat→List AV
 | [],_,_=> []
 | p::ps,l,i=>p.proj (Ma l i)::gm ps l (i+1)
def Fv (p:List Pat):Block→Bool
 | .var l=>okL p l
 | .arr e _=>match p with | [.arrp e']=>Nat.beq e e' | _=>false
 | .dead=>match p with | [.deadp]=>true | _=>false
 | .fro _ _=>false
def nI (p:List Pat)(b:Block):Block:=
 match p with
 | [.arrp e]=> .arr e b.toR
 | [.deadp]=> .dead
 | _=> .var (iD p b.toL 0)
def EP :List (List Pat)→List Block→Bool
 | [],[]=>true
 | p::ps,b::r=>Fv p b&&EP ps r
 | _,_=>false
def fG :List (List Pat)→List Block→Nat→List Block
 | [],_,_=> []
 | p::ps,l,i=>nI p (kz l i)::fG ps l (i+1)
def Sig.ok (s:Sig)(r:List AV×List Block):Bool:=FL s.res r.1&&EP s.blks r.2
def vf (sel:List Nat)(n m:Nat)(i:Nat):Option Nat:=
 match nth sel i with
 | some b=>some b
 | none=>cond (Nat.blt i m) (some (n+(i - bI sel))) none
def u9 :List Nat→List Block→List (Nat×Block)
 | b::bs,c::cs=>(b,c)::u9 bs cs
 | _,_=> []
def oD (μ:Nat→Option Nat):List Block→Option (List Block)
 | []=>some []
 | c::r=>match c.remap μ,oD μ r with
  | some c',some r'=>some (c'::r')
  | _,_=>none
def tM :List AV→AV
 | [v]=>v
 | l=> .tup l
abbrev Ans :=Bool×(List AV×List Block)
abbrev cQ :=FuncId→List AV→List Block→Ans
def l3 (sg:Sig)(sel:List Nat)(r:List AV×List Block)(st:St)(K:Upd→Option β):Option β:=
 match jJ (vf sel (bI st.blk) (bI sg.blks)) (gm sg.res r.1 0),oD (vf sel (bI st.blk) (bI sg.blks)) (fG sg.blks r.2 0)with
  | some vs,some bs'=>cond (Nat.ble (bI sel) (bI bs')) (K ⟨tM vs,none,u9 sel bs',ag bs' (bI sel),sel⟩) none
  | _,_=>none
def Ek (sel:List Nat)(r:List AV×List Block)(st:St)(K:Upd→Option β):List PV×List (List Pat)→List (List PV×List (List Pat))→Option β
 | x,[]=>cond (Sig.ok ⟨x.1,x.2,[]⟩ r) (l3 ⟨x.1,x.2,[]⟩ sel r st K) none
 | x,y::l=>cond (Sig.ok ⟨x.1,x.2,[]⟩ r) (l3 ⟨x.1,x.2,[]⟩ sel r st K) (Ek sel r st K y l)
def Bs (r:List AV×List Block):List PV×List (List Pat)→List (List PV×List (List Pat))→Sig
 | x,[]=>⟨x.1,x.2,[]⟩
 | x,y::l=>cond (Sig.ok ⟨x.1,x.2,[]⟩ r) ⟨x.1,x.2,[]⟩ (Bs r y l)
def G5 (sg:Sig)(sel:List Nat)(known:Bool)(r:List AV×List Block)(st:St)(K:Upd→Option β):Option β:=
 cond known (match sg.alts with
  | []=>cond (Sig.ok ⟨sg.res,bA sg.blks (bI r.2),[]⟩ r) (l3 ⟨sg.res,bA sg.blks (bI r.2),[]⟩ sel r st K) none
  | l=>Ek sel r st K (sg.res,sg.blks) l) none
def sS (sg:Sig)(r:List AV×List Block):Sig:=
 match sg.alts with
 | []=>⟨sg.res,bA sg.blks (bI r.2),[]⟩
 | l=>Bs r (sg.res,sg.blks) l
def qH (sg:Sig)(sel:List Nat)(known:Bool)(r:List AV×List Block)(st:St)(K:Upd→Option β):Option β:=
 cond known (cond (sg.ok r) (l3 sg sel r st K) none) none
theorem zY (sel:List Nat)(r:List AV×List Block)(st:St)(K:Upd→Option β):∀(x:List PV×List (List Pat)) (l:List (List PV×List (List Pat))),Ek sel r st K x l=cond ((Bs r x l).ok r) (l3 (Bs r x l) sel r st K) none
 | x,[]=>rfl
 | x,y::l=>by
  have ih:=zY sel r st K y l
  simp only [Ek,Bs]
  cases h:Sig.ok ⟨x.1,x.2,[]⟩ r
  · exact ih
  · simp only [cond_true,h]
theorem kv (sg:Sig)(sel:List Nat)(known:Bool)(r:List AV×List Block)(st:St)(K:Upd→Option β):G5 sg sel known r st K=qH (sS sg r) sel known r st K:=by
 obtain⟨vs,bs,al⟩:=sg
 cases al with
 | nil=>rfl
 | cons y l=>
  unfold G5 sS qH
  dsimp only
  rw [zY]
def eT (call:cQ)(sg:Sig)(f:FuncId)(args:List AV)(st:St)(K:Upd→Option β):Option β:=
 let sel:=dQ st.blk 1000 (gG args) []
 match jJ (fun b=>dY sel b 0) args,ey (fun b=>dY sel b 0) st.blk sel with
 | some args',some bs=>match call f args' bs with
  | (known,r)=>G5 sg sel known r st K
 | _,_=>none
open Classical in
noncomputable def Jp (x y:Block):Bool:=decide (x=y)
noncomputable def gI (bs:List Block):List (Nat×Block)→Bool
 | []=>true
 | (k,c)::r=>Jp (kz bs k) c&&gI bs r
noncomputable def fL (call:cQ)(sg:Sig)(f:FuncId)(args:List AV)(st:St)(K:Upd→Option β):Option β:=
 eT call sg f args st fun u=>cond (el u.nu&&gI st.blk u.wr) (K ⟨u.val,none,[],[],u.rd⟩) none
def evL (fr:List (Nat×AV)):List Operand→List AV
 | []=> []
 | x::r=>(ev fr x).dis::evL fr r
def gw (fr:List (Nat×AV)):List (Nat×Operand)→List (Nat×AV)
 | []=> []
 | (i,x)::r=>(i,(ev fr x).dis)::gw fr r
def iy (fr:List (Nat×AV))(x:Nat):List (Nat×Operand)→List (Nat×AV)
 | []=> []
 | (i,y)::r=>match fw y with
  | some t=>cond (Nat.beq t x) ((i,ev fr y)::gw fr r) ((i,(ev fr y).dis)::iy fr x r)
  | none=>(i,(ev fr y).dis)::iy fr x r
def ie (tk:List Nat)(fr:List (Nat×AV)):List (Nat×Operand)→Option Nat
 | []=>none
 | (_,y)::r=>match fw y with
  | some t=>match dF tk t,get fr t with
   | true,.one _=>some t
   | _,_=>ie tk fr r
  | none=>ie tk fr r
def evO (fr:List (Nat×AV)):Option Operand→Option AV
 | none=>none
 | some x=>some (ev fr x)
def iw :List (Nat×Sig)→Nat→Option Sig
 | [],_=>none
 | (i,s)::r,j=>cond (Nat.beq i j) (some s) (iw r j)
def takes (tk:List Nat):Option Nat→Bool
 | none=>false
 | some d=>dF tk d
def rS (tk:List Nat):Option Nat→Nat→Bool
 | none,_=>false
 | some d,k=>dF tk (k+d)
noncomputable def actK (E:Env)(call:cQ)(tk:List Nat)(sg:Option Sig)(o:Oper)(st:St)(K:Upd→Option β):Option β:=
 match o.op with
 | .move x | .assign x=>match rS tk o.dst 1000000,rS tk o.dst 2000000 with
  | true,_=>o0 E o.type st (ev st.fr x) K
  | _,true=>iT st (ev st.fr x) K
  | false,false=>match takes tk o.dst with
   | true=>K ⟨E.fit o.type (ev st.fr x),fw x,[],[],[]⟩
   | false=>K ⟨E.fit o.type (ev st.fr x).dis,none,[],[],[]⟩
 | .pick c a b=>match ev st.fr c with
  | .one (.bool t)=>cond t (cd (ev st.fr a).dis K) (cd (ev st.fr b).dis K)
  | _=>none
 | .alloc t=>match rS tk o.dst 1000000 with
  | true=>jX E t st K
  | false=>match E.tys t with
   | some ty=>eE ty.kinds fun z=>K ⟨.one (.ptr (bI st.blk) 0),none,[],[.var z],[]⟩
   | none=>none
 | .box t x=>match E.tys t with
  | some ty=>eF ty (cond (takes tk o.dst) (ev st.fr x) (ev st.fr x).dis) fun l=>K ⟨.one (.ptr (bI st.blk) 0),cond (takes tk o.dst) (fw x) none,[],[.var l],[]⟩
  | none=>none
 | .build t parts=>match rS tk o.dst 3000000 with
  | true=>jN E t (gw st.fr parts.toList) K
  | false=>match ie tk st.fr parts.toList with
   | some x=>buildK E t (iy st.fr x parts.toList) fun u=>K ⟨u.val,some x,[],[],[]⟩
   | none=>buildK E t (gw st.fr parts.toList) K
 | .buildSlice t len parts=>match rS tk o.dst 1000000 with
  | true=>match parts.toList with
   | []=>kL E t len st K
   | _=>none
  | false=>fV E t len (gw st.fr parts.toList) K
 | .load t p=>lx E (takes tk o.dst) t st (ev st.fr p) K
 | .store t p x=>match rS tk (fw x) 4000000 with
  | true=>lb E t st (ev st.fr p) (ev st.fr x).dis K
  | false=>match memTmp tk x with
   | true=>fB E t st (ev st.fr p) (ev st.fr x) (fw x) K
   | false=>fB E t st (ev st.fr p) (ev st.fr x).dis none K
 | .nilCheck x=>match ev st.fr x with
  | .one (.ptr b o)=>cd (.one (.ptr b o)) K
  | .one (.eptr e r o)=>cd (.one (.eptr e r o)) K
  | .one (.aptr a)=>cd (.one (.aptr a)) K
  | _=>none
 | .binOp op t x y _=>kr E op t (ev st.fr x) (ev st.fr y) K
 | .unOp op _ x=>unK op (ev st.fr x) K
 | .convert src dst x=>pY E st (ev st.fr x) fun x' rd=>qQ E src dst x' fun u=>K (u.reads rd)
 | .makeFunc (.func f) first caps=>match first.toList with
  | []=>match capsOf (evL st.fr caps.toList)with
   | some l=>cd (.one (.fn f l)) K
   | none=>none
  | _=>none
 | .makeSlice t l c=>match rS tk o.dst 1000000 with
  | true=>jW E t st (ev st.fr l) (ev st.fr c) K
  | false=>gZ E t (ev st.fr l) (ev st.fr c) K
 | .slice t x lo hi mx=>match takes tk o.dst with
  | true=>nR E t (fw x) (ev st.fr x) (evO st.fr lo) (evO st.fr hi) (evO st.fr mx) K
  | false=>nR E t none (ev st.fr x).dis (evO st.fr lo) (evO st.fr hi) (evO st.fr mx) K
 | .fieldAddr s x f=>hP E s (ev st.fr x) f K
 | .field s x f=>pL E s (ev st.fr x) f K
 | .indexAddr t x i=>gS E t (ev st.fr x) (ev st.fr i) K
 | .index t x i=>qg E t (ev st.fr x) (ev st.fr i) K
 | .extract x i=>match ev st.fr x with
  | .tup l=>match nth l i with
   | some v=>match takes tk o.dst with
    | true=>K ⟨v,fw x,[],[],[]⟩
    | false=>cd v.dis K
   | none=>none
  | _=>none
 | .call c=>match c.callee with
  | .builtin .len=>match c.argTypes.toList,c.args.toList with
   | [t],[x]=>ES E t (ev st.fr x) K
   | _,_=>none
  | .builtin .append=>match c.argTypes.toList,c.args.toList with
   | [t,t2],[x,y]=>pY E st (ev st.fr y).dis fun y' rd=>ig E t t2 (fw x) (ev st.fr x) st y' fun u=>K (u.reads rd)
   | _,_=>none
  | .builtin .copy=>match c.argTypes.toList,c.args.toList with
   | [t,_],[x,y]=>pY E st (ev st.fr y).dis fun y' rd=>me E t (ev st.fr x) st y' fun u=>K (u.reads rd)
   | _,_=>none
  | .builtin .min=>match evL st.fr c.args.toList with
   | v::r=>dI false v r K
   | []=>none
  | .builtin .max=>match evL st.fr c.args.toList with
   | v::r=>dI true v r K
   | []=>none
  | .value g=>match ev st.fr g with
   | .one (.fn f caps)=>match E.funcs f with
    | some fn=>match rS tk o.dst 5000000 with
     | true=>fL call (sg.getD fn.1) f (app (evL st.fr c.args.toList) (capsV caps)) st K
     | false=>eT call (sg.getD fn.1) f (app (evL st.fr c.args.toList) (capsV caps)) st K
    | none=>none
   | _=>none
  | _=>none
 | _=>none
where
 memTmp (tk:List Nat):Operand→Bool
  | .tmp t=>dF tk t
  | _=>false
 capsOf:List AV→Option (List AC)
  | []=>some []
  | .one a::r=>match capsOf r with | some l=>some (a::l) | none=>none
  | _::_=>none
 capsV:List AC→List AV
  | []=> []
  | a::r=> .one a::capsV r
inductive Out where
 | normal
 | exit (id:Nat)
 | goto (l:Nat)
 | ret
def lv :List Oper→Nat→Option Nat
 | [],_=>none
 | o::_,0=>o.dst
 | _::r,j+1=>lv r j
def uw (want b:Bool)(x y:Option β):Option β:=
 match want with
 | true=>cond b x y
 | false=>cond b y x
def AV.skip :AV:=.tup []
def St.know (st:St)(g:Nat)(b:Bool):St:=⟨set st.fr g (.one (.bool b)),st.blk⟩
def gz (all:List Oper)(o:Oper)(st:St)(yes no:St→Option β):Option β:=
 match o.guard with
 | none=>yes st
 | some (j,want)=>match lv all j with
  | some g=>match get st.fr g with
   | .one (.bool b)=>uw want b (yes (st.know g want)) (no (st.know g (!want)))
   | .tup _=>no st
   | _=>none
  | none=>no st
def ex :Upd:=Upd.pure AV.skip
noncomputable def j3 (E:Env)(call:cQ)(tk:List Nat)(sigs:List (Nat×Sig))(all:List Oper):List Oper→Nat→St→(St→Option β)→Option β
 | [],_,st,K=>K st
 | o::r,i,st,K=>gz all o st
  (fun st=>actK E call tk (iw sigs i) o st fun u=>j3 E call tk sigs all r (i+1) (st.apply o.dst u) K)
  (fun st=>j3 E call tk sigs all r (i+1) (st.apply o.dst ex) K)
structure FP where
 tw:List Nat
 tr:List Nat
 bw:List Nat
 br:List Nat
 al:Bool
def rR {α:Type}:Option α→List α
 | none=> []
 | some a=> [a]
def opOps :Op→List Operand
 | .move x | .assign x | .box _ x | .load _ x | .nilCheck x | .unOp _ _ x | .convert _ _ x | .fieldAddr _ x _ | .field _ x _ | .extract x _=> [x]
 | .pick c a b=> [c,a,b]
 | .build _ ps | .buildSlice _ _ ps=>partOps ps.toList
 | .store _ a v | .binOp _ _ a v _ | .makeSlice _ a v | .indexAddr _ a v | .index _ a v=> [a,v]
 | .makeFunc _ _ captured=>captured.toList
 | .slice _ x l h m=>x::app (rR l) (app (rR h) (rR m))
 | .call c=>match c.callee with
  | .value f=>f::c.args.toList
  | _=>c.args.toList
 | _=> []
where
 partOps:List (Nat×Operand)→List Operand
  | []=> []
  | (_,x)::r=>x::partOps r
def nW :List Operand→List Nat
 | []=> []
 | .tmp t::r=>t::nW r
 | _::r=>nW r
def vc :List (Nat×Block)→List Nat
 | []=> []
 | (k,_)::r=>k::vc r
def wm (all:List Oper)(o:Oper):List Nat:=
 app (nW (opOps o.op)) (match o.guard with | some (j,_)=>rR (lv all j) | none=> [])
def cU (all:List Oper)(o:Oper)(st:St)(u:Upd):FP:=
 ⟨app (rR o.dst) (rR u.dis),wm all o,app (vc u.wr) (bE (bI st.blk) (bI u.nu)),u.rd, !el u.nu⟩
def uW :List Nat→List Nat→Bool
 | [],_=>true
 | x::r,l=>cond (dF l x) false (uW r l)
def FP.apart (p q:FP):Bool:=
 uW p.tw q.tw&&uW p.tw q.tr&&uW q.tw p.tr&&uW p.bw q.bw&&uW p.bw q.br&&uW q.bw p.br&& !(p.al&&q.al)
def tc (e:Edge):Bool:=
 match e.ground with
 | .textOnly _ | .gcOnly _=>false
 | _=>true
def dz :List Edge→List Nat
 | []=> []
 | e::r=>cond (tc e) (e.on::dz r) (dz r)
def uN :List Nat→List Nat→List Nat
 | [],r=>r
 | x::l,r=>cond (dF r x) (uN l r) (uN l (x::r))
def tN (acc:List (List Nat)):List Nat→List Nat
 | []=> []
 | d::r=>uN (d::(match nth acc d with | some l=>l | none=> [])) (tN acc r)
def xm :List Oper→List (List Nat)→List (List Nat)
 | [],acc=>acc
 | o::r,acc=>xm r (app acc [tN acc (dz o.after.toList)])
def backward :List Oper→Nat→Bool
 | [],_=>true
 | o::r,i=>allLt (dz o.after.toList) i&&backward r (i+1)
where
 allLt:List Nat→Nat→Bool
  | [],_=>true
  | x::r,i=>Nat.blt x i&&allLt r i
def openOk (bef:List (List Nat)):List FP→Nat→List FP→Bool
 | [],_,_=>true
 | q::r,j,seen=>go (match nth bef j with | some l=>l | none=> []) q seen 0&&openOk bef r (j+1) (app seen [q])
where
 go (b:List Nat) (q:FP):List FP→Nat→Bool
  | [],_=>true
  | p::ps,i=>(dF b i || p.apart q)&&go b q ps (i+1)
noncomputable def gb (E:Env)(call:cQ)(tk:List Nat)(sigs:List (Nat×Sig))(all:List Oper)(bef:List (List Nat)):List Oper→Nat→List FP→St→(St→Option β)→Option β
 | [],_,fps,st,K=>cond (openOk bef fps 0 []) (K st) none
 | o::r,i,fps,st,K=>gz all o st
  (fun st=>actK E call tk (iw sigs i) o st fun u=>gb E call tk sigs all bef r (i+1) (app fps [cU all o st u]) (st.apply o.dst u) K)
  (fun st=>gb E call tk sigs all bef r (i+1) (app fps [cU all o st ex]) (st.apply o.dst ex) K)
open Classical in
noncomputable def sh (x y:Option β):Option β:=if x=y then x else none
noncomputable def qV :List (Option β)→Option β
 | []=>none
 | [x]=>x
 | x::y::l=>sh x (qV (y::l))
def readyL (all:List Oper)(done:List Nat):List Oper→Nat→List Nat
 | [],_=> []
 | o::r,i=>cond (!dF done i&&subN (dz o.after.toList) done) (i::readyL all done r (i+1)) (readyL all done r (i+1))
where
 subN:List Nat→List Nat→Bool
  | [],_=>true
  | x::l,d=>dF d x&&subN l d
noncomputable def exK (E:Env)(call:cQ)(tk:List Nat)(sigs:List (Nat×Sig))(all:List Oper):Nat→List Nat→St→(St→Option β)→Option β
 | 0,done,st,K=>cond (el (readyL all done all 0)) (K st) none
 | n+1,done,st,K=>match readyL all done all 0 with
  | []=>K st
  | i::r=>qV (mapE (fun i=>match nth all i with
   | some o=>gz all o st
    (fun st=>actK E call tk (iw sigs i) o st fun u=>exK E call tk sigs all n (i::done) (st.apply o.dst u) K)
    (fun st=>exK E call tk sigs all n (i::done) (st.apply o.dst ex) K)
   | none=>none) (i::r))
where
 mapE (f:Nat→Option β):List Nat→List (Option β)
  | []=> []
  | i::r=>f i::mapE f r
def Ann.takes :Ann→List Nat | .reg tk _=>tk | _=> []
def Ann.sigs :Ann→List (Nat×Sig) | .reg _ s=>s | _=> []
def Ann.fst :Ann→Ann | .seq _ x _=>x | .cond x _=>x | .sub x=>x | .loop _ x=>x | .scope _ x _=>x | _=> .leaf
def Ann.snd :Ann→Ann | .seq _ _ y=>y | .cond _ y=>y | .scope _ _ y=>y | _=> .leaf
def Ann.mask? :Ann→Option (List (Nat×Bool)) | .seq m _ _=>m | .loop m _=>some m | .scope m _ _=>some m | _=>none
def dy (all:List Oper)(o:Oper)(st:St):Option Bool:=
 match o.guard with
 | none=>some true
 | some (j,want)=>match lv all j with
  | some g=>match get st.fr g with
   | .one (.bool b)=>some (b==want)
   | .tup _=>some false
   | _=>none
  | none=>some false
def m8 (E:Env)(ops:List Oper)(p:Nat)(th:Bool)(st:St)(K:St→Option β):Option β:=
 match nth ops p,nth ops (p+1)with
 | some o1,some o2=>match dy ops o1 st with
  | some true=>match o1.op,o2.op with
   | .buildSlice t len parts,.convert src dst (.tmp x)=>match o1.dst,o2.dst,dy ops o2 (st.apply o1.dst (Upd.pure .undef))with
    | some d1,some d2,some true=>cond (Nat.beq x d1&&(Nat.beq t src&&Nat.beq src dst)) (match E.tys t with
     | some ty=>match ty.desc with
      | .slice e=>match E.tys e with
       | some te=>match te.desc with
        | .int .u8=>cond (Nat.ble (len*te.size) 16777216&&Nat.blt 0 len) (eI te len 0 (gw st.fr parts.toList) fun rows=>match th with
         | true=>K ((st.apply (some d1) (Upd.pure .undef)).apply (some d2) ⟨.one (.msl e (bI st.blk) len),none,[],[.arr e rows],[]⟩)
         | false=>K ((st.apply (some d1) (Upd.pure .undef)).apply (some d2) (Upd.pure (.one (.sl true e rows))))) none
        | _=>none
       | none=>none
      | _=>none
     | none=>none) none
    | _,_,_=>none
   | _,_=>none
  | some false=>match dy ops o2 (st.apply o1.dst ex)with
   | some false=>K ((st.apply o1.dst ex).apply o2.dst ex)
   | _=>none
  | none=>none
 | _,_=>none
def xI :List Nat→Option (Nat×Bool)
 | []=>none
 | x::r=>cond (Nat.ble 8000000 x&& !(Nat.ble 9000000 x)) (some (x - 8000000,false)) (cond (Nat.ble 7000000 x&& !(Nat.ble 9000000 x)) (some (x - 7000000,true)) (xI r))
noncomputable def gx (E:Env)(call:cQ)(an:Ann)(ops:List Oper)(draw:Bool)(st:St)(K:St→Option β):Option β:=
 match draw with
 | false=>match xI an.takes with
  | none=>j3 E call an.takes an.sigs ops ops 0 st K
  | some (p,th)=>cond (Nat.ble (p+2) (bI ops)) (j3 E call an.takes an.sigs ops (bA ops p) 0 st fun st1=>m8 E ops p th st1 fun st2=>j3 E call an.takes an.sigs ops (ag ops (p+2)) (p+2) st2 K) none
 | true=>match dF an.takes 9000000 with
  | true=>exK E call an.takes an.sigs ops (bI ops) [] st K
  | false=>cond (backward ops 0) (gb E call an.takes an.sigs ops (xm ops []) ops 0 [] st K) none
def ib :Code→Nat→Option Code
 | .seq a b,l=>match ib a l with
  | some r=>some (.seq r b)
  | none=>ib b l
 | .label l',l=>cond (Nat.beq l' l) (some .skip) none
 | _,_=>none
end run
inductive AItem where
 | code (c:Code) (an:Ann)
 | inBlock (id:Nat)
 | inLoop (c:Code) (an:Ann)
 | inScope (c:Code) (an:Ann)
 | cut (m:List (Nat×Bool))
abbrev Res :=Option (List AV×List Block)
def push (m:Option (List (Nat×Bool)))(k:List AItem):List AItem:=
 match m with
 | none=>k
 | some m=> .cut m::k
def Bk (id:Nat):List AItem→Option (List AItem)
 | []=>none
 | .inBlock i::k=>cond (Nat.beq i id) (some k) (Bk id k)
 | _::k=>Bk id k
def AH (l:Nat):List AItem→Option (List AItem)
 | []=>none
 | .inScope c an::k=>match ib c l with
  | some r=>some (push an.mask? (.code r an.snd:: .inScope c an::k))
  | none=>AH l k
 | _::k=>AH l k
def qD (E:Env)(ownp:List Nat):List TypeId→List AV→Nat→List (Nat×AV)
 | t::ts,v::vs,i=>(i,cond (dF ownp (1000000+i)) v.dis (cond (dF ownp i) (E.fit t v) (E.fit t v.dis)))::qD E ownp ts vs (i+1)
 | _,_,_=> []
section res
variable {β:Type}
def uT (E:Env)(st:St):List ResultVar→(List AV→St→Option β)→Option β
 | [],K=>K [] st
 | .tmp t::r,K=>uT E ⟨jC st.fr (some t),st.blk⟩ r fun vs st'=>K (get st.fr t::vs) st'
 | .cell a t::r,K=>lx E true t st (get st.fr a) fun u=>uT E (st.apply none u) r fun vs st'=>K (u.val::vs) st'
def sa (ownr:List Nat):List AV→Nat→(List AV→Option β)→Option β
 | [],_,K=>K []
 | v::vs,i,K=>sa ownr vs (i+1) fun r=>K ((cond (dF ownr i) v v.dis)::r)
end res
def Block.dis :Block→Block
 | .var l=> .var (qh l)
 | b=>b
def disBs :List Block→List Block
 | []=> []
 | b::r=>b.dis::disBs r
def lr :List Nat→Nat→List Nat
 | [],_=> []
 | x::r,n=>cond (Nat.ble n x) (x::lr r n) (lr r n)
def ret (E:Env)(fn:AFunc)(nw:Nat)(st:St):Res:=
 uT E st fn.results fun vs0 st=>sa fn.ownr vs0 0 fun vs=>
  let sel:=app (bE 0 nw) (lr (dQ st.blk 1000 (app (gG vs) (gH (bA st.blk nw))) []) nw)
  match jJ (fun b=>dY sel b 0) vs,ey (fun b=>dY sel b 0) st.blk sel with
  | some vs',some bs=>some (vs',cond fn.ownb bs (disBs bs))
  | _,_=>none
abbrev pd :=List AItem→St→Res
noncomputable def go (E:Env)(call:cQ)(fn:AFunc)(nw:Nat)(J:pd):Nat→List AItem→St→Res
 | 0,_,_=>none
 | _+1,[],st=>ret E fn nw st
 | d+1,it::k,st=>match it with
  | .cut m=>uu nw m st fun st'=>J k st'
  | .inBlock _=>go E call fn nw J d k st
  | .inScope _ _=>go E call fn nw J d k st
  | .inLoop c an=>go E call fn nw J d (push an.mask? (.code c an.fst:: .inLoop c an::k)) st
  | .code c an=>match c with
   | .skip=>go E call fn nw J d k st
   | .region _ ops draw=>gx E call an ops.toList draw st fun st'=>go E call fn nw J d k st'
   | .seq x y=>go E call fn nw J d (.code x an.fst::push an.mask? (.code y an.snd::k)) st
   | .cond c x y=>match ev st.fr c with
    | .one (.bool b)=>cond b (go E call fn nw J d (.code x an.fst::k) st) (go E call fn nw J d (.code y an.snd::k) st)
    | _=>none
   | .block id x=>go E call fn nw J d (.code x an.fst:: .inBlock id::k) st
   | .loop x=>go E call fn nw J d (push an.mask? (.code x an.fst:: .inLoop x an::k)) st
   | .exit id=>match Bk id k with
    | some k'=>go E call fn nw J d k' st
    | none=>none
   | .scope x=>go E call fn nw J d (.code x an.fst:: .inScope x an::k) st
   | .label _=>go E call fn nw J d k st
   | .goto l=>match AH l k with
    | some k'=>go E call fn nw J d k' st
    | none=>none
   | .ret=>ret E fn nw st
   | _=>none
def depth :Nat:=1000000
noncomputable def goF (E:Env)(call:cQ)(fn:AFunc)(nw:Nat):Nat→pd
 | 0=>fun _ _=>none
 | k+1=>fun s st=>go E call fn nw (goF E call fn nw k) depth s st
noncomputable def aj (E:Env)(call:cQ)(n:Nat)(f:FuncId)(args:List AV)(blk:List Block):Res:=
 match E.funcs f with
 | some (_,.code fn)=>cond (Nat.beq (bI args) (bI fn.params)) (goF E call fn (bI blk) n [.code fn.code fn.ann] ⟨qD E fn.ownp fn.params args 0,blk⟩) none
 | some (_,.prim g)=>g args blk
 | none=>none
def zm :Res→Ans
 | some r=>(true,r)
 | none=>(false,([],[]))
noncomputable def run (E:Env):Nat→cQ
 | 0=>fun _ _ _=>(false,([],[]))
 | n+1=>fun f args blk=>zm (aj E (run E n) n f args blk)
inductive Step where
 | fst
 | snd
 | sub
 | head
 | body
 | jump (l:Nat)
def iK :List Step→Code→Ann→List AItem→List AItem
 | [],c,an,k=> .code c an::k
 | s::p,c,an,k=>match s,c with
  | .fst,.seq x y=>iK p x an.fst (push an.mask? (.code y an.snd::k))
  | .snd,.seq _ y=>iK p y an.snd k
  | .fst,.cond _ x _=>iK p x an.fst k
  | .snd,.cond _ _ y=>iK p y an.snd k
  | .sub,.block id x=>iK p x an.fst (.inBlock id::k)
  | .sub,.scope x=>iK p x an.fst (.inScope x an::k)
  | .jump l,.scope x=>match ib x l with
   | some r=>iK p r an.snd (.inScope x an::k)
   | none=> []
  | .head,.loop x=> .code x an.fst:: .inLoop x an::k
  | .body,.loop x=>iK p x an.fst (.inLoop x an::k)
  | _,_=> []
def AFunc.at (fn:AFunc)(p:List Step):List AItem:=iK p fn.code fn.ann []
theorem Ba {x:Res}{r:List AV×List Block}(h:zm x=(true,r)):x=some r:=by
 cases x with
 | none=>cases h
 | some y=>cases h;rfl
theorem pl (E:Env)(call:cQ)(fn:AFunc)(nw k:Nat)(s:List AItem)(st:St):
 goF E call fn nw (k+1) s st=go E call fn nw (goF E call fn nw k) depth s st:=rfl
end Go.Abs
namespace Go.Abs
abbrev aG :=Nat→Nat→Prop
def inT (T:aG):MemPlace→Prop
 | .cell b o=>T b o
 | _=>False
abbrev cell (w:World)(B off:Nat):Option Value:=w.cell? ⟨B,off,none⟩
abbrev dl (w:World)(B off:Nat):Bool:=w.frozen? ⟨B,off,none⟩
theorem cell_lt {w:World}{B off:Nat}{v:Value}(h:cell w B off=some v):B<w.heap.size:=World.block_lt_of_cell? w ⟨B,off,none⟩ h
inductive CR (E:Env) (w:World) (F:aG):Cell→Value→Prop
 | int (k:IntKind) (n:Int):CR E w F (.int k n) (.int k n)
 | bool (b:Bool):CR E w F (.bool b) (.bool b)
 | str (s:List UInt8):CR E w F (.str s) (.string ⟨s.toArray⟩)
 | empty (e:TypeId) (a:Option Addr) (cap:Nat):CR E w F (.slice e []) (.slice a 0 cap)
 | slice (e:TypeId) (rows:Rows) (te:Ty) (B off cap:Nat) (g:Nat→Value) (he:E.tys e=some te) (hk:∀r∈rows,r.map Cell.kind=te.kinds) (hc:rows.length≤cap)
  (hm:∀i,i<rows.flatten.length→cell w B (off+i)=some (g i)∧¬F B (off+i))
  (hr:∀(i:Nat) (h:i<rows.flatten.length),CR E w F rows.flatten[i] (g i)):CR E w F (.slice e rows) (.slice (some ⟨B,off,none⟩) rows.length cap)
structure Keeps (w:World) (F:aG) (w':World) (F':aG):Prop where
 chill:∀B i v j,cell w B i=some v→dl w' B j=dl w B j
 old:∀B off v,cell w B off=some v→¬F B off→cell w' B off=some v∧¬F' B off
 still:∀B j,((∃v,cell w B j=some v)∧dl w B j=false)→((∃v,cell w' B j=some v)∧dl w' B j=false)
theorem CR.keep {E:Env}{w w':World}{F F':aG}{c:Cell}{v:Value}(h:CR E w F c v)(hk:Keeps w F w' F'):CR E w' F' c v:=by
 induction h with
 | int k n=>exact .int k n
 | bool b=>exact .bool b
 | str s=>exact .str s
 | empty e a cap=>exact .empty e a cap
 | slice e rows te B off cap g he hk' hc hm hr ih=>exact .slice e rows te B off cap g he hk' hc (fun i hi=>hk.old _ _ _ (hm i hi).1 (hm i hi).2) (fun i hi=>ih i hi)
inductive AR (E:Env) (w:World) (F:aG) (ρ:List Nat):AC→Value→Option (Nat×Nat)→Prop
 | int (k:IntKind) (n:Int):AR E w F ρ (.int k n) (.int k n) none
 | bool (b:Bool):AR E w F ρ (.bool b) (.bool b) none
 | str (s:List UInt8):AR E w F ρ (.str s) (.string ⟨s.toArray⟩) none
 | sl (e:TypeId) (rows:Rows) (v:Value) (h:CR E w F (.slice e rows) v):AR E w F ρ (.sl false e rows) v none
 | full (e:TypeId) (rows:Rows) (a:Option Addr) (n:Nat) (h:CR E w F (.slice e rows) (.slice a n n)):AR E w F ρ (.sl true e rows) (.slice a n n) none
 | own (e:TypeId) (rows:Rows) (te:Ty) (B off len cap:Nat) (h:CR E w F (.slice e rows) (.slice (some ⟨B,off,none⟩) len cap)) (he:E.tys e=some te) (hl:len<cap)
  (hs:∀j,off+len*te.size≤j→j<off+cap*te.size→(∃v,cell w B j=some v)∧dl w B j=false):
  AR E w F ρ (.sl true e rows) (.slice (some ⟨B,off,none⟩) len cap) (some (B,off+len*te.size))
 | nils:AR E w F ρ .nils (.slice none 0 0) none
 | ptr (b o B:Nat) (h:nth ρ b=some B):AR E w F ρ (.ptr b o) (.pointer (some ⟨B,o,none⟩)) none
 | eptr (e:TypeId) (row:Row) (o:Nat) (te:Ty) (B off:Nat) (g:Nat→Value) (he:E.tys e=some te) (hk:row.map Cell.kind=te.kinds)
  (hm:∀i,i<row.length→cell w B (off+i)=some (g i)∧¬F B (off+i)) (hr:∀(i:Nat) (h:i<row.length),CR E w F row[i] (g i)):
  AR E w F ρ (.eptr e row o) (.pointer (some ⟨B,off+o,none⟩)) none
 | nilp:AR E w F ρ .nilp (.pointer none) none
 | fn (f:FuncId) (caps:List AC) (g:Nat→Value) (hr:∀(i:Nat) (h:i<caps.length),AR E w F ρ caps[i] (g i) none):
  AR E w F ρ (.fn f caps) (.func (.func f) #[] ((List.range caps.length).map g).toArray) none
 | nilf:AR E w F ρ .nilf .nilFunc none
 | refs (l:List AC) (B off cap:Nat) (g:Nat→Value) (hc:l.length≤cap) (hm:∀i,i<l.length→cell w B (off+i)=some (g i)∧¬F B (off+i))
  (hr:∀(i:Nat) (h:i<l.length),AR E w F ρ l[i] (g i) none):AR E w F ρ (.refs l) (.slice (some ⟨B,off,none⟩) l.length cap) none
 | aptr (a:AC) (B off:Nat) (v:Value) (hm:cell w B off=some v∧¬F B off) (h:AR E w F ρ a v none):AR E w F ρ (.aptr a) (.pointer (some ⟨B,off,none⟩)) none
 | msl (e:TypeId) (b n:Nat) (te:Ty) (B cap:Nat) (hB:nth ρ b=some B) (he:E.tys e=some te) (h0:0<n) (hn:n≤cap) (hm:cap≤9223372036854775807)
  (hs:∀j,j<cap*te.size→(∃v,cell w B j=some v)∧dl w B j=false):AR E w F ρ (.msl e b n) (.slice (some ⟨B,0,none⟩) n cap) none
 | mnil (e:TypeId) (b:Nat) (v:Option Addr):AR E w F ρ (.msl e b 0) (.slice v 0 0) none
 | mptr (b:Nat) (e:TypeId) (i o:Nat) (te:Ty) (B:Nat) (hB:nth ρ b=some B) (he:E.tys e=some te):AR E w F ρ (.mptr b e i o) (.pointer (some ⟨B,i*te.size+o,none⟩)) none
 | win (e:TypeId) (b lo n:Nat) (c:Option Nat) (te:Ty) (B off cap:Nat) (hB:nth ρ b=some B) (he:E.tys e=some te) (hn:n≤cap) (hc:∀k,c=some k→cap=k) (ho:0<cap→off=lo*te.size)
  (hs:∀j,lo*te.size≤j→j<(lo+cap)*te.size→(∃v,cell w B j=some v)∧dl w B j=false):AR E w F ρ (.win e b lo n c) (.slice (some ⟨B,off,none⟩) n cap) none
 | parr (e:TypeId) (b n:Nat) (te:Ty) (B:Nat) (hB:nth ρ b=some B) (he:E.tys e=some te)
  (hs:∀j,j<n*te.size→(∃v,cell w B j=some v)∧dl w B j=false):AR E w F ρ (.parr e b n) (.pointer (some ⟨B,0,none⟩)) none
abbrev aH :=Option (Nat×Nat)
theorem AR.keep {E:Env}{w w':World}{F F':aG}{ρ ρ':List Nat}{a:AC}{v:Value}{o:aH}(h:AR E w F ρ a v o)(hk:Keeps w F w' F')(hρ:∀b B,nth ρ b=some B→nth ρ' b=some B)
 (ho:∀B t,o=some (B,t)→∀j,t≤j→(∃v,cell w B j=some v)∧dl w B j=false→(∃v,cell w' B j=some v)∧dl w' B j=false):AR E w' F' ρ' a v o:=by
 induction h with
 | int k n=>exact .int k n
 | bool b=>exact .bool b
 | str s=>exact .str s
 | sl e rows v h=>exact .sl e rows v (h.keep hk)
 | full e rows a n h=>exact .full e rows a n (h.keep hk)
 | own e rows te B off len cap h he hl hs=>exact .own e rows te B off len cap (h.keep hk) he hl fun j h1 h2=>ho _ _ rfl j h1 (hs j h1 h2)
 | nils=>exact .nils
 | ptr b o B h=>exact .ptr b o B (hρ _ _ h)
 | eptr e row o te B off g he hk' hm hr=>exact .eptr e row o te B off g he hk' (fun i hi=>hk.old _ _ _ (hm i hi).1 (hm i hi).2) (fun i hi=>(hr i hi).keep hk)
 | nilp=>exact .nilp
 | fn f caps g hr ih=>exact .fn f caps g fun i hi=>ih i hi (by simp)
 | nilf=>exact .nilf
 | refs l B off cap g hc hm hr ih=>exact .refs l B off cap g hc (fun i hi=>hk.old _ _ _ (hm i hi).1 (hm i hi).2) fun i hi=>ih i hi (by simp)
 | aptr a B off v hm h ih=>exact .aptr a B off v (hk.old _ _ _ hm.1 hm.2) (ih (by simp))
 | msl e b n te B cap hB he h0 hn hm hs=>exact .msl e b n te B cap (hρ _ _ hB) he h0 hn hm fun j hj=>hk.still _ _ (hs j hj)
 | mnil e b v=>exact .mnil e b v
 | mptr b e i o te B hB he=>exact .mptr b e i o te B (hρ _ _ hB) he
 | win e b lo n c te B off cap hB he hn hc hoff hs=>exact .win e b lo n c te B off cap (hρ _ _ hB) he hn hc hoff fun j h1 h2=>hk.still _ _ (hs j h1 h2)
 | parr e b n te B hB he hs=>exact .parr e b n te B (hρ _ _ hB) he fun j h1=>hk.still _ _ (hs j h1)
theorem AR.dis {E:Env}{w:World}{F:aG}{ρ:List Nat}{a:AC}{v:Value}{o:aH}(h:AR E w F ρ a v o):AR E w F ρ a.dis v none:=by
 cases h with
 | full e rows a n h=>exact .sl e rows _ h
 | own e rows te B off len cap h=>exact .sl e rows _ h
 | sl e rows v h=>exact .sl e rows v h
 | int k n=>exact .int k n
 | bool b=>exact .bool b
 | str s=>exact .str s
 | nils=>exact .nils
 | ptr b o B h=>exact .ptr b o B h
 | eptr e row o te B off g he hk' hm hr=>exact .eptr e row o te B off g he hk' hm hr
 | nilp=>exact .nilp
 | fn f caps g hr=>exact .fn f caps g hr
 | nilf=>exact .nilf
 | refs l B off cap g hc hm hr=>exact .refs l B off cap g hc hm hr
 | aptr a B off v hm h=>exact .aptr a B off v hm h
 | msl e b n te B cap hB he h0 hn hm hs=>exact .msl e b n te B cap hB he h0 hn hm hs
 | mnil e b v=>exact .mnil e b v
 | mptr b e i o te B hB he=>exact .mptr b e i o te B hB he
 | win e b lo n c te B off cap hB he hn hc hoff hs=>exact .win e b lo n c te B off cap hB he hn hc hoff hs
 | parr e b n te B hB he hs=>exact .parr e b n te B hB he hs
abbrev aS :=List Nat→aH
inductive AVR (E:Env) (w:World) (F:aG) (ρ:List Nat):AV→Value→aS→Prop
 | undef (v:Value) (o:aS) (ho:∀p,o p=none):AVR E w F ρ .undef v o
 | one (a:AC) (v:Value) (o:aS) (h:AR E w F ρ a v (o [])) (ho:∀p,p≠ []→o p=none):AVR E w F ρ (.one a) v o
 | agg (l:List AC) (g:Nat→Value) (o:aS) (h:∀(i:Nat) (hi:i<l.length),AR E w F ρ l[i] (g i) (o [i])) (ho:∀p,(∀i,i<l.length→p≠ [i])→o p=none):
  AVR E w F ρ (.agg l) (.agg ((List.range l.length).map g).toArray) o
 | tup (l:List AV) (g:Nat→Value) (o:aS) (h:∀(i:Nat) (hi:i<l.length),AVR E w F ρ l[i] (g i) (fun p=>o (i::p))) (ho:o []=none∧∀i p,l.length≤i→o (i::p)=none):
  AVR E w F ρ (.tup l) (.tuple ((List.range l.length).map g).toArray) o
theorem AVR.keep {E:Env}{w w':World}{F F':aG}{ρ ρ':List Nat}{a:AV}{v:Value}{o:aS}(h:AVR E w F ρ a v o)(hk:Keeps w F w' F')(hρ:∀b B,nth ρ b=some B→nth ρ' b=some B)
 (ho:∀p B t,o p=some (B,t)→∀j,t≤j→(∃v,cell w B j=some v)∧dl w B j=false→(∃v,cell w' B j=some v)∧dl w' B j=false):AVR E w' F' ρ' a v o:=by
 induction h with
 | undef v o h0=>exact .undef v o h0
 | one a v o h h2=>exact .one a v o (h.keep hk hρ fun B t e=>ho _ B t e) h2
 | agg l g o h h2=>exact .agg l g o (fun i hi=>(h i hi).keep hk hρ fun B t e=>ho _ B t e) h2
 | tup l g o h h2 ih=>exact .tup l g o (fun i hi=>ih i hi fun p B t e=>ho _ B t e) h2
theorem mY (l:List AC):qh l=l.map AC.dis:=by induction l<;>simp_all [qh]
theorem Au (l:List AV):AV.dis.go l=l.map AV.dis:=by induction l<;>simp_all [AV.dis.go]
theorem AVR.dis {E:Env}{w:World}{F:aG}{ρ:List Nat}{a:AV}{v:Value}{o:aS}(h:AVR E w F ρ a v o):AVR E w F ρ a.dis v (fun _=>none):=by
 induction h with
 | undef v o ho=>exact .undef v _ fun _=>rfl
 | one a v o h h2=>exact .one a.dis v _ h.dis fun _ _=>rfl
 | agg l g o h h2=>
  simp only [AV.dis]
  have hl:(qh l).length=l.length:=by simp [mY]
  have:=AVR.agg (E:=E) (w:=w) (F:=F) (ρ:=ρ) (qh l) g (fun _=>none) (fun i hi=>by
   simp only [mY,List.getElem_map];exact(h i (by omega)).dis) (fun _ _=>rfl)
  rwa [hl]at this
 | tup l g o h h2 ih=>
  simp only [AV.dis]
  have hl:(AV.dis.go l).length=l.length:=by simp [Au]
  have:=AVR.tup (E:=E) (w:=w) (F:=F) (ρ:=ρ) (AV.dis.go l) g (fun _=>none) (fun i hi=>by
   simp only [Au,List.getElem_map];exact ih i (by omega)) ⟨rfl,fun _ _ _=>rfl⟩
  rwa [hl]at this
theorem aY {α:Type}(l:List α)(n:Nat):nth l n=l[n]? :=by
 induction l generalizing n with
 | nil=>simp [nth]
 | cons x r ih=>cases n<;>simp [nth,ih]
theorem de {α:Type}(l:List α)(n:Nat)(y:α):setN l n y=l.set n y:=by
 induction l generalizing n with
 | nil=>simp [setN]
 | cons x r ih=>cases n<;>simp [setN,ih]
theorem bq {α:Type}(l:List α):bI l=l.length:=by induction l<;>simp_all [bI]
theorem ba {α:Type}(l r:List α):app l r=l++r:=by induction l<;>simp_all [app]
theorem bp {α:Type}(l:List α)(n:Nat):bA l n=l.take n:=by
 induction l generalizing n with
 | nil=>cases n<;>simp [bA]
 | cons x r ih=>cases n<;>simp [bA,ih]
theorem aN {α:Type}(l:List α)(n:Nat):ag l n=l.drop n:=by
 induction l generalizing n with
 | nil=>cases n<;>simp [ag]
 | cons x r ih=>cases n<;>simp [ag,ih]
theorem dH {a b:Nat}(h:a≠b):Nat.beq a b=false:=by
 cases e:Nat.beq a b with
 | false=>rfl
 | true=>exact absurd (Nat.eq_of_beq_eq_true e) h
theorem co (a:Nat):Nat.beq a a=true:=Nat.beq_refl a
theorem BU (fr:List (Nat×AV)){t s:Nat}(h:s≠t):get (del fr t) s=get fr s:=by
 induction fr with
 | nil=>rfl
 | cons x r ih=>
  obtain⟨u,v⟩:=x
  by_cases h1:u=t
  · subst h1;simp only [del,co,cond_true,get,ih,dH (Ne.symm h),cond_false]
  · simp only [del,dH h1,cond_false,get,ih]
theorem kO (fr:List (Nat×AV))(t:Nat)(v:AV):get (set fr t v) t=v:=by simp only [set,get,co,cond_true]
theorem nm (fr:List (Nat×AV)){t s:Nat}(v:AV)(h:s≠t):get (set fr t v) s=get fr s:=by simp only [set,get,dH (Ne.symm h),cond_false,BU _ h]
theorem cE (fr:List (Nat×AV))(d:Option Nat)(v:AV)(t:Nat):get (put fr d v) t=if d=some t then v else get fr t:=by
 cases d with
 | none=>simp [put]
 | some d=>
  by_cases h:d=t
  · subst h;simp [put,kO]
  · simp [put,h,nm _ _ (Ne.symm h)]
theorem ik (fr:List (Nat×AV))(d:Option Nat)(t:Nat):get (jC fr d) t=if d=some t then(get fr t).dis else get fr t:=by
 cases d with
 | none=>simp [jC]
 | some d=>
  by_cases h:d=t
  · subst h;simp [jC,kO]
  · simp [jC,h,nm _ _ (Ne.symm h)]
theorem pB (l:List Nat)(t:Nat):dF l t=true↔t∈l:=by
 induction l with
 | nil=>simp [dF]
 | cons x r ih=>
  by_cases h:x=t
  · simp [dF,h]
  · simp [dF,h,ih,Ne.symm h]
inductive OI where
 | tmp (t:Nat) (p:List Nat)
 | self (k:Nat)
 | cell (k j:Nat)
def Fn (own:OI→aH)(R:aG):aG:=fun B off=>R B off∨∃x t,own x=some (B,t)∧t≤off
def FroR (E:Env)(w:World)(F:aG)(ρ:List Nat)(k:Nat)(e:TypeId)(rows:Rows):Prop:=
 rows=[]∨∃(B:Nat) (te:Ty) (g:Nat→Value),nth ρ k=some B∧E.tys e=some te∧(∀r∈rows,r.map Cell.kind=te.kinds)∧∀(i:Nat) (h:i<rows.flatten.length),(cell w B i=some (g i)∧¬F B i)∧CR E w F rows.flatten[i] (g i)
theorem FroR.keep {E:Env}{w w':World}{F F':aG}{ρ ρ':List Nat}{k k':Nat}{e:TypeId}{rows:Rows}(h:FroR E w F ρ k e rows)(hK:Keeps w F w' F')(hρ:∀B,nth ρ k=some B→nth ρ' k'=some B):FroR E w' F' ρ' k' e rows:=by
 rcases h with h | ⟨B,te,g,h1,h2,h3,h4⟩
 · exact .inl h
 · exact .inr ⟨B,te,g,hρ _ h1,h2,h3,fun i hi=>⟨hK.old _ _ _ (h4 i hi).1.1 (h4 i hi).1.2,(h4 i hi).2.keep hK⟩⟩
def BlkR (E:Env)(w:World)(F:aG)(ρ:List Nat)(own:OI→aH)(k:Nat):Option Block→Prop
 | some (.var cells)=>∃B,nth ρ k=some B∧own (.self k)=some (B,0)∧(∀j,cells.length≤j→own (.cell k j)=none)∧
  ∀(j:Nat) (h:j<cells.length),∃v,cell w B j=some v∧dl w B j=false∧AR E w F ρ cells[j] v (own (.cell k j))
 | some (.arr e rows)=>(rows=[]∧own (.self k)=none∧∀j,own (.cell k j)=none)∨
  ∃B te,nth ρ k=some B∧own (.self k)=some (B,0)∧(∀j,own (.cell k j)=none)∧E.tys e=some te∧(∀r∈rows,r.map Cell.kind=te.kinds)∧((∃v,cell w B 0=some v)∧dl w B 0=false)∧
   ∀(i:Nat) (h:i<rows.flatten.length),∃v,cell w B i=some v∧dl w B i=false∧CR E w F rows.flatten[i] v
 | some (.fro e rows)=>own (.self k)=none∧(∀j,own (.cell k j)=none)∧FroR E w F ρ k e rows
 | _=>own (.self k)=none∧∀j,own (.cell k j)=none
structure Rel (E:Env) (R:aG) (ρ:List Nat) (own:OI→aH) (N:Nat) (st:St) (a:Act) (w:World):Prop where
 size:a.tmps.size=N
 defers:a.defers=[]
 fr:∀t,AVR E w (Fn own R) ρ (get st.fr t) (a.tmps.getD t undef) (fun p=>own (.tmp t p))
 rho:ρ.length=st.blk.length
 blk:∀k,BlkR E w (Fn own R) ρ own k (nth st.blk k)
 inj:∀x y B t t',own x=some (B,t)→own y=some (B,t')→x=y
 out:∀x B t,own x=some (B,t)→B<w.heap.size∧∀off,¬R B off
 low:∀B off,R B off→B<w.heap.size
structure Grow (own own':OI→aH) (w w':World):Prop where
 kept:w.keptBut w' (inT fun B off=>∃x t,own x=some (B,t)∧t≤off)
 news:∀x B t',own' x=some (B,t')→w.heap.size≤B∨∃y t,own y=some (B,t)∧t≤t'
theorem Grow.size {own own':OI→aH}{w w':World}(h:Grow own own' w w'):w.heap.size≤w'.heap.size:=h.kept.size
theorem lJ {T T':aG}(h:∀B off,T B off→T' B off):∀p,inT T p→inT T' p:=by
 intro p hp
 cases p with
 | cell b o=>exact h _ _ hp
 | map b=>exact hp.elim
theorem Grow.refl (own own':OI→aH)(w:World)(h:∀x B t',own' x=some (B,t')→∃y t,own y=some (B,t)∧t≤t'):Grow own own' w w:=
 ⟨World.keptBut_refl _ _,fun x B t' hx=> .inr (h x B t' hx)⟩
theorem G7 {w w':World}{T T':aG}(h:w.keptBut w' (inT T))(hT:∀B off,B<w.heap.size→T B off→T' B off):w.keptBut w' (inT T'):=by
 obtain⟨h1,h2,h3⟩:=h
 refine⟨h1,h2,fun i hi=> ?_⟩
 have:=h3 i hi
 split at this
 · rename_i c t f c' t' f' e1 e2
   obtain⟨g1,g2,g3,g4⟩:=this
   exact⟨g1,g2,g3,fun j hj=>g4 j fun hm=>hj (hT i j hi hm)⟩
 · rename_i es cl es' cl' e1 e2
   exact .inr (this.resolve_left id)
 · exact this
theorem Grow.trans {o1 o2 o3:OI→aH}{w1 w2 w3:World}(h:Grow o1 o2 w1 w2)(k:Grow o2 o3 w2 w3):Grow o1 o3 w1 w3:=by
 refine⟨?_,fun x B t' hx=> ?_⟩
 · have h1:w1.keptBut w2 (inT fun B off=>(∃x t,o1 x=some (B,t)∧t≤off)∨w1.heap.size≤B):=World.keptBut_mono (lJ fun B off hm=> .inl hm) h.kept
   have h2:w2.keptBut w3 (inT fun B off=>(∃x t,o1 x=some (B,t)∧t≤off)∨w1.heap.size≤B):=World.keptBut_mono (lJ fun B off hm=>by
    obtain⟨x,t,hx,ht⟩:=hm
    rcases h.news x B t hx with hn | ⟨y,t1,hy,hl⟩
    · exact .inr hn
    · exact .inl ⟨y,t1,hy,by omega⟩) k.kept
   exact G7 (World.keptBut_trans h1 h2) fun B off hB hm=>hm.resolve_right (by omega)
 · rcases k.news x B t' hx with hn | ⟨y,t,hy,hl⟩
   · exact .inl (Nat.le_trans h.size hn)
   · rcases h.news y B t hy with hn | ⟨z,t2,hz,hl2⟩
     · exact .inl hn
     · exact .inr ⟨z,t2,hz,by omega⟩
theorem dv {w w':World}{T:aG}(h:w.keptBut w' (inT T)){B j:Nat}(hc:(∃v,cell w B j=some v)∧dl w B j=false):(∃v,cell w' B j=some v)∧dl w' B j=false:=by
 obtain⟨⟨v,hv⟩,hf⟩:=hc
 have hl:=cell_lt hv
 have:=h.2.2 B hl
 simp only [cell,dl,World.cell?,World.frozen?]at*
 cases e1:w.heap[B]? with
 | none=>simp [e1]at hv
 | some x=>
  rw [e1]at hv hf this
  cases x<;>simp at hv
  rename_i c t f
  cases e2:w'.heap[B]? with
  | none=>rw [e2]at this;simp at this
  | some y=>
   rw [e2]at this
   cases y<;>simp at this
   rename_i c' t' f'
   obtain⟨rfl,rfl,hs,_⟩:=this
   have hj:j<c.size:=by
    rcases Nat.lt_or_ge j c.size with h | h
    · exact h
    · simp [Array.getElem?_eq_none h]at hv
   refine⟨?_,by simpa using hf⟩
   simp only [Option.isSome_none,Bool.false_eq_true,if_false]
   exact⟨c'[j]'(by omega),by simp [show j<c'.size by omega]⟩
theorem EV {w w':World}{T:aG}(h:w.keptBut w' (inT T)){B i:Nat}{v:Value}(hv:cell w B i=some v)(j:Nat):dl w' B j=dl w B j:=by
 have hl:=cell_lt hv
 have:=h.2.2 B hl
 simp only [cell,dl,World.cell?,World.frozen?]at*
 cases e1:w.heap[B]? with
 | none=>simp [e1]at hv
 | some x=>
  rw [e1]at hv this
  cases x<;>simp at hv
  rename_i c t f
  cases e2:w'.heap[B]? with
  | none=>rw [e2]at this;simp at this
  | some y=>
   rw [e2]at this
   cases y<;>simp at this
   obtain⟨rfl,rfl,hs,_⟩:=this
   rfl
theorem uh {own own':OI→aH}{R:aG}{w w':World}(h:Grow own own' w w'):Keeps w (Fn own R) w' (Fn own' R):=by
 refine⟨fun B i v j hv=>EV h.kept hv j,fun B off v hc hF=> ?_,fun B j hh=>dv h.kept hh⟩
 have hl:=cell_lt hc
 refine⟨?_, ?_⟩
 · have:=h.kept.cell (b:=B) (off:=off) hl (fun hm=>hF (.inr hm))
   rw [cell,this];exact hc
 · rintro(hR | ⟨x,t,hx,ht⟩)
   · exact hF (.inl hR)
   · rcases h.news x B t hx with hn | ⟨y,t1,hy,hle⟩
     · omega
     · exact hF (.inr ⟨y,t1,hy,by omega⟩)
end Go.Abs
namespace Go.Abs
variable {E:Env} {R:aG} {ρ:List Nat} {own:OI→aH} {N:Nat} {st:St} {a:Act} {w:World}
def cL (own:OI→aH)(x:Option Nat):OI→aH
 | .tmp t p=>if x=some t then none else own (.tmp t p)
 | y=>own y
def bg (own:OI→aH)(d:Option Nat)(o:aS):OI→aH
 | .tmp t p=>if d=some t then o p else own (.tmp t p)
 | y=>own y
theorem cP {x:Option Nat}{y:OI}{B t:Nat}(h:cL own x y=some (B,t)):own y=some (B,t):=by
 cases y with
 | tmp s p=>simp only [cL]at h;split at h<;>simp_all
 | self k=>exact h
 | cell k j=>exact h
theorem bU (a:Act)(d:Option Nat)(v:Value)(t:Nat)(hd:∀x,d=some x→x<a.tmps.size):(a.put d v).tmps.getD t undef=if d=some t then v else a.tmps.getD t undef:=by
 cases d with
 | none=>simp [Act.put]
 | some d=>
  have h1:=hd d rfl
  by_cases h:d=t
  · subst h;simp [Act.put,h1]
  · simp only [Act.put,Option.some.injEq,h,if_false,Array.getD_eq_getD_getElem?,Array.getElem?_setIfInBounds_ne h]
theorem eV (a:Act)(d:Option Nat)(v:Value):(a.put d v).tmps.size=a.tmps.size:=by cases d<;>simp [Act.put]
theorem dm (a:Act)(d:Option Nat)(v:Value):(a.put d v).defers=a.defers:=by cases d<;>rfl
theorem BlkR.keep {E:Env}{R:aG}{ρ ρ':List Nat}{own own':OI→aH}{w w':World}{k:Nat}{b:Option Block}{T:aG}(h:BlkR E w (Fn own R) ρ own k b)(hK:Keeps w (Fn own R) w' (Fn own' R))
 (hk:w.keptBut w' (inT T)) (hT:∀B t,own (.self k)=some (B,t)→∀off,¬T B off) (hρ:∀b B,nth ρ b=some B→nth ρ' b=some B)
 (hs:own' (.self k)=own (.self k)) (hc:∀j,own' (.cell k j)=own (.cell k j)):BlkR E w' (Fn own' R) ρ' own' k b:=by
 cases b with
 | none=>exact⟨hs.trans h.1,fun j=>(hc j).trans (h.2 j)⟩
 | some b=>cases b with
  | dead=>exact⟨hs.trans h.1,fun j=>(hc j).trans (h.2 j)⟩
  | fro e rows=>exact⟨hs.trans h.1,fun j=>(hc j).trans (h.2.1 j),h.2.2.keep hK fun B=>hρ _ B⟩
  | var cells=>
   obtain⟨B,h1,h2,h3,h4⟩:=h
   refine⟨B,hρ _ _ h1,hs.trans h2,fun j hj=>(hc j).trans (h3 j hj),fun j hj=> ?_⟩
   obtain⟨v,g1,g2,g3⟩:=h4 j hj
   have hsame:cell w' B j=cell w B j:=hk.cell (cell_lt g1) (fun hm=>hT B 0 h2 j hm)
   have hth:=dv hk ⟨⟨v,g1⟩,g2⟩
   refine⟨v,hsame.trans g1,hth.2, ?_⟩
   rw [hc]
   exact g3.keep hK hρ fun B' t e j' _ hh=>dv hk hh
  | arr e rows=>
   rcases h with⟨h1,h2,h3⟩ | ⟨B,te,h1,h2,h3,h4,h5,h7,h6⟩
   · exact .inl ⟨h1,hs.trans h2,fun j=>(hc j).trans (h3 j)⟩
   · refine .inr ⟨B,te,hρ _ _ h1,hs.trans h2,fun j=>(hc j).trans (h3 j),h4,h5,hK.still B 0 h7,fun i hi=> ?_⟩
     obtain⟨v,g1,g2,g3⟩:=h6 i hi
     have hsame:cell w' B i=cell w B i:=hk.cell (cell_lt g1) (fun hm=>hT B 0 h2 i hm)
     exact⟨v,hsame.trans g1,(dv hk ⟨⟨v,g1⟩,g2⟩).2,g3.keep hK⟩
theorem Rel.put (h:Rel E R ρ own N st a w){dst dis:Option Nat}{v:AV}{val:Value}{oV:aS}{w':World}{T:aG}{rd:List Nat}
 (hd:∀d,dst=some d→d<N) (hk:w.keptBut w' (inT T))
 (hT:∀B off,T B off→∃x p t,dis=some x∧own (.tmp x p)=some (B,t)∧t≤off)
 (ho:∀p B t',oV p=some (B,t')→(∃x q t,dis=some x∧own (.tmp x q)=some (B,t)∧t≤t')∨(w.heap.size≤B∧B<w'.heap.size))
 (hi:∀p p' B t t',oV p=some (B,t)→oV p'=some (B,t')→p=p')
 (hV:Keeps w (Fn own R) w' (Fn (bg (cL own dis) dst oV) R)→AVR E w' (Fn (bg (cL own dis) dst oV) R) ρ v val oV):
 Rel E R ρ (bg (cL own dis) dst oV) N (st.apply dst ⟨v,dis,[],[],rd⟩) (a.put dst val) w'∧Grow own (bg (cL own dis) dst oV) w w':=by
 have hcase:∀y B t',bg (cL own dis) dst oV y=some (B,t')→(∃d p,dst=some d∧y=.tmp d p∧oV p=some (B,t'))∨cL own dis y=some (B,t'):=by
  intro y B t' hy
  cases y with
  | tmp t p=>
   simp only [bg]at hy
   split at hy
   · rename_i e;exact .inl ⟨t,p,e,rfl,hy⟩
   · exact .inr hy
  | self k=>exact .inr hy
  | cell k j=>exact .inr hy
 have g:Grow own (bg (cL own dis) dst oV) w w':=by
  refine⟨World.keptBut_mono (lJ fun B off hm=> ?_) hk,fun y B t' hy=> ?_⟩
  · obtain⟨x,p,t,_,e,l⟩:=hT B off hm;exact⟨_,t,e,l⟩
  · rcases hcase y B t' hy with⟨d,p,e,rfl,hp⟩ | hy
    · rcases ho p B t' hp with⟨x,q,t,_,hx,hl⟩ | hn
      · exact .inr ⟨_,t,hx,hl⟩
      · exact .inl hn.1
    · exact .inr ⟨y,t',cP hy,Nat.le_refl _⟩
 have hK:=uh (R:=R) g
 have hth:∀{B j:Nat},(∃v,cell w B j=some v)∧dl w B j=false→(∃v,cell w' B j=some v)∧dl w' B j=false:=fun h=>dv hk h
 refine⟨⟨by rw [eV];exact h.size,by rw [dm];exact h.defers,fun t=> ?_, ?_,fun k=> ?_, ?_, ?_, ?_⟩,g⟩
 · have hget:get (st.apply dst ⟨v,dis,[],[],rd⟩).fr t=if dst=some t then v else if dis=some t then(get st.fr t).dis else get st.fr t:=by
    simp only [St.apply,cE,ik]
   rw [hget,bU a dst val t (by rw [h.size];exact hd)]
   by_cases e:dst=some t
   · subst e
     simpa [bg]using hV hK
   · simp only [e,if_false]
     by_cases e2:dis=some t
     · simp only [e2,if_true]
       have hh:=((h.fr t).keep hK (fun _ _ h=>h) fun p B t' _ j _ hh=>hth hh).dis
       rw [e2]at hh
       simpa [bg,cL,e]using hh
     · simp only [e2,if_false]
       have hh:=(h.fr t).keep hK (fun _ _ h=>h) fun p B t' _ j _ hh=>hth hh
       simpa [bg,cL,e,e2]using hh
 · simp only [St.apply,bz,ba,List.append_nil];exact h.rho
 · have hb:nth (st.apply dst ⟨v,dis,[],[],rd⟩).blk k=nth st.blk k:=by simp only [St.apply,bz,ba,List.append_nil]
   rw [hb]
   refine(h.blk k).keep hK hk (fun B t hs off hm=> ?_) (fun _ _ h=>h) rfl fun _=>rfl
   obtain⟨x,p,t',_,e,_⟩:=hT B off hm
   have:=h.inj _ _ _ _ _ hs e
   cases this
 · intro x y B t t' hx hy
   rcases hcase x B t hx with⟨d,p,e,rfl,hp⟩ | hx<;>rcases hcase y B t' hy with⟨d',p',e',rfl,hp'⟩ | hy
   · have:d=d':=by rw [e]at e';exact Option.some.inj e'
     subst this
     rw [hi p p' B t t' hp hp']
   · exfalso
     rcases ho p B t hp with⟨z,q,t2,hz,hq,_⟩ | hn
     · have:=h.inj _ _ _ _ _ (cP hy) hq
       subst this
       simp [cL,hz]at hy
     · have:=(h.out _ _ _ (cP hy)).1;omega
   · exfalso
     rcases ho p' B t' hp' with⟨z,q,t2,hz,hq,_⟩ | hn
     · have:=h.inj _ _ _ _ _ (cP hx) hq
       subst this
       simp [cL,hz]at hx
     · have:=(h.out _ _ _ (cP hx)).1;omega
   · exact h.inj _ _ _ _ _ (cP hx) (cP hy)
 · intro x B t hx
   rcases hcase x B t hx with⟨d,p,e,rfl,hp⟩ | hx
   · rcases ho p B t hp with⟨z,q,t2,hz,hq,_⟩ | hn
     · have:=h.out _ _ _ hq
       exact⟨Nat.lt_of_lt_of_le this.1 g.size,this.2⟩
     · exact⟨hn.2,fun off hR=>by have:=h.low _ _ hR;omega⟩
   · have:=h.out _ _ _ (cP hx)
     exact⟨Nat.lt_of_lt_of_le this.1 g.size,this.2⟩
 · intro B off hR
   exact Nat.lt_of_lt_of_le (h.low B off hR) g.size
def After (E:Env)(R:aG)(ρ:List Nat)(own:OI→aH)(N:Nat)(w:World)(st':St)(a':Act)(w':World):Prop:=
 ∃ρ' own',(∀b B,nth ρ b=some B→nth ρ' b=some B)∧Rel E R ρ' own' N st' a' w'∧Grow own own' w w'
theorem AVR.none_of {E:Env}{w:World}{F:aG}{ρ:List Nat}{a:AV}{v:Value}{o:aS}(h:AVR E w F ρ a v o)(ho:∀p,o p=none):AVR E w F ρ a v (fun _=>none):=by
 have:o=fun _=>none:=funext ho
 rwa [this]at h
theorem Rel.pure (h:Rel E R ρ own N st a w){dst:Option Nat}{v:AV}{val:Value}{w':World}{rd:List Nat}(hd:∀d,dst=some d→d<N)(hk:w.keptBut w' (inT fun _ _=>False))
 (hV:∀F',Keeps w (Fn own R) w' F'→(∀B off,F' B off→Fn own R B off)→AVR E w' F' ρ v val (fun _=>none)):
 After E R ρ own N w (st.apply dst ⟨v,none,[],[],rd⟩) (a.put dst val) w':=by
 refine⟨ρ,_,fun _ _ h=>h,h.put (dis:=none) (oV:=fun _=>none) (T:=fun _ _=>False) hd hk (fun _ _ h=>h.elim) (fun p B t' e=>by cases e) (fun p p' B t t' e=>by cases e) fun hK=>hV _ hK fun B off hF=> ?_⟩
 rcases hF with hR | ⟨x,t,hx,hl⟩
 · exact .inl hR
 · refine .inr ⟨x,t, ?_,hl⟩
   cases x with
   | tmp s p=>
    simp only [bg]at hx
    split at hx
    · cases hx
    · exact cP hx
   | self k=>exact hx
   | cell k j=>exact hx
theorem Rel.pure0 (h:Rel E R ρ own N st a w){dst:Option Nat}{v:AV}{val:Value}{rd:List Nat}(hd:∀d,dst=some d→d<N)
 (hV:AVR E w (Fn own R) ρ v val (fun _=>none)):After E R ρ own N w (st.apply dst ⟨v,none,[],[],rd⟩) (a.put dst val) w:=
 h.pure hd (World.keptBut_refl _ _) fun F' hK _=>hV.keep hK (fun _ _ h=>h) fun p B t e=>by cases e
theorem Rel.take (h:Rel E R ρ own N st a w){dst:Option Nat}{x:Nat}{v:AV}{val:Value}{rd:List Nat}(hd:∀d,dst=some d→d<N)
 (hV:AVR E w (Fn own R) ρ v val (fun p=>own (.tmp x p))):After E R ρ own N w (st.apply dst ⟨v,some x,[],[],rd⟩) (a.put dst val) w:=by
 refine⟨ρ,_,fun _ _ h=>h,h.put (dis:=some x) (oV:=fun p=>own (.tmp x p)) (T:=fun _ _=>False) hd (World.keptBut_refl _ _) (fun _ _ h=>h.elim) (fun p B t' e=> .inl ⟨x,p,t',rfl,e,Nat.le_refl _⟩)
  (fun p p' B t t' e e'=>by have:=h.inj _ _ _ _ _ e e';injection this) fun hK=>hV.keep hK (fun _ _ h=>h) fun p B t e j _ hh=>hh⟩
theorem Rel.takePart (h:Rel E R ρ own N st a w){dst:Option Nat}{x:Nat}{v:AV}{val:Value}{rd:List Nat}{oV:aS}(f:List Nat→List Nat)(hf:∀p q,f p=f q→p=q)(hd:∀d,dst=some d→d<N)
 (ho:∀p,oV p=none∨oV p=own (.tmp x (f p))) (hV:AVR E w (Fn own R) ρ v val oV):After E R ρ own N w (st.apply dst ⟨v,some x,[],[],rd⟩) (a.put dst val) w:=by
 have ho':∀p B t,oV p=some (B,t)→own (.tmp x (f p))=some (B,t):=fun p B t e=>by
  rcases ho p with h | h
  · rw [h]at e;cases e
  · rw [←h];exact e
 refine⟨ρ,_,fun _ _ h=>h,h.put (dis:=some x) (oV:=oV) (T:=fun _ _=>False) hd (World.keptBut_refl _ _) (fun _ _ h=>h.elim) (fun p B t' e=> .inl ⟨x,f p,t',rfl,ho' _ _ _ e,Nat.le_refl _⟩)
  (fun p p' B t t' e e'=>by have:=h.inj _ _ _ _ _ (ho' _ _ _ e) (ho' _ _ _ e');injection this with _ hp;exact hf _ _ hp) fun hK=>hV.keep hK (fun _ _ h=>h) fun p B t e j _ hh=>hh⟩
def PP (chg bch:Nat→Prop):OI→Prop
 | .tmp t _=>chg t
 | .self k=>bch k
 | .cell k _=>bch k
theorem Rel.gen (h:Rel E R ρ own N st a w){own':OI→aH}{ρ':List Nat}{st':St}{a':Act}{w':World}(T:aG)(chg bch:Nat→Prop)
 (hk:w.keptBut w' (inT T))
 (hT:∀B off,T B off→∃x t,own x=some (B,t)∧t≤off∧PP chg bch x)
 (hn:∀y B t',own' y=some (B,t')→(∃x t,own x=some (B,t)∧t≤t')∨(w.heap.size≤B∧B<w'.heap.size))
 (hi:∀x y B t t',own' x=some (B,t)→own' y=some (B,t')→x=y)
 (hsz:a'.tmps.size=N) (hdf:a'.defers=[])
 (fr0:∀t,¬chg t→get st'.fr t=get st.fr t∧a'.tmps.getD t undef=a.tmps.getD t undef∧∀p,own' (.tmp t p)=own (.tmp t p))
 (fr1:Keeps w (Fn own R) w' (Fn own' R)→∀t,chg t→AVR E w' (Fn own' R) ρ' (get st'.fr t) (a'.tmps.getD t undef) (fun p=>own' (.tmp t p)))
 (hρ':ρ'.length=st'.blk.length) (hρ:∀b B,nth ρ b=some B→nth ρ' b=some B)
 (blk0:∀k,¬bch k→nth st'.blk k=nth st.blk k∧own' (.self k)=own (.self k)∧∀j,own' (.cell k j)=own (.cell k j))
 (blk1:Keeps w (Fn own R) w' (Fn own' R)→∀k,bch k→BlkR E w' (Fn own' R) ρ' own' k (nth st'.blk k)):
 Rel E R ρ' own' N st' a' w'∧Grow own own' w w':=by
 have g:Grow own own' w w':=by
  refine⟨World.keptBut_mono (lJ fun B off hm=> ?_) hk,fun y B t' hy=> ?_⟩
  · obtain⟨x,t,e,l,_⟩:=hT B off hm;exact⟨_,t,e,l⟩
  · rcases hn y B t' hy with⟨x,t,e,l⟩ | hn
    · exact .inr ⟨x,t,e,l⟩
    · exact .inl hn.1
 have hK:=uh (R:=R) g
 refine⟨⟨hsz,hdf,fun t=> ?_,hρ',fun k=> ?_,hi, ?_, ?_⟩,g⟩
 · by_cases c:chg t
   · exact fr1 hK t c
   · obtain⟨e1,e2,e3⟩:=fr0 t c
     rw [e1,e2]
     have:(fun p=>own' (.tmp t p))=fun p=>own (.tmp t p):=funext e3
     rw [this]
     exact(h.fr t).keep hK hρ fun p B t' _ j _ hh=>dv hk hh
 · by_cases c:bch k
   · exact blk1 hK k c
   · obtain⟨e1,e2,e3⟩:=blk0 k c
     rw [e1]
     refine(h.blk k).keep hK hk (fun B t hs off hm=> ?_) hρ e2 e3
     obtain⟨x,t',e,_,hc⟩:=hT B off hm
     have:=h.inj _ _ _ _ _ hs e
     subst this
     exact c hc
 · intro x B t hx
   rcases hn x B t hx with⟨y,t1,e,_⟩ | hn
   · have:=h.out _ _ _ e
     exact⟨Nat.lt_of_lt_of_le this.1 g.size,this.2⟩
   · exact⟨hn.2,fun off hR=>by have:=h.low _ _ hR;omega⟩
 · intro B off hR
   exact Nat.lt_of_lt_of_le (h.low B off hR) g.size
def db (own:OI→aH)(b:Nat)(s:aH)(o:Nat→aH):OI→aH
 | .self k=>if k=b then s else own (.self k)
 | .cell k j=>if k=b then o j else own (.cell k j)
 | y=>own y
def ch (own:OI→aH)(dst dis:Option Nat)(oV:aS)(b:Nat)(s:aH)(oC:Nat→aH):OI→aH:=
 db (bg (cL own dis) dst oV) b s oC
theorem gj {α:Type}(l:List α)(b k:Nat)(c:α)(hb:(nth l b).isSome):nth (setN l b c) k=if k=b then some c else nth l k:=by
 rw [aY,de,aY,List.getElem?_set]
 rw [aY]at hb
 by_cases h:b=k
 · subst h
   have:b<l.length:=by
    rcases Nat.lt_or_ge b l.length with h | h
    · exact h
    · simp [List.getElem?_eq_none h]at hb
   simp [this]
 · simp [h,Ne.symm h]
theorem Rel.write (h:Rel E R ρ own N st a w){dst dis:Option Nat}{v:AV}{val:Value}{oV:aS}{oC:Nat→aH}{w':World}{b B:Nat}{cells cells':List AC}{rd:List Nat}
 (hb:nth st.blk b=some (.var cells)) (hB:nth ρ b=some B)
 (hd:∀d,dst=some d→d<N) (hk:w.keptBut w' (inT fun B' _=>B'=B))
 (src:OI→Prop) (hsrc:∀x,src x→(∃t p,dis=some t∧x=.tmp t p)∨∃j,x=.cell b j)
 (hoV:∀p B t,oV p=some (B,t)→∃x,src x∧own x=some (B,t))
 (hoC:∀j B t,oC j=some (B,t)→∃x,src x∧own x=some (B,t))
 (hVV:∀p p' B t t',oV p=some (B,t)→oV p'=some (B,t')→p=p')
 (hCC:∀p p' B t t',oC p=some (B,t)→oC p'=some (B,t')→p=p')
 (hVC:∀p j B t t',oV p=some (B,t)→oC j=some (B,t')→dst=none)
 (hV:Keeps w (Fn own R) w' (Fn (ch own dst dis oV b (own (.self b)) oC) R)→AVR E w' (Fn (ch own dst dis oV b (own (.self b)) oC) R) ρ v val oV)
 (hC0:∀j,cells'.length≤j→oC j=none)
 (hC:Keeps w (Fn own R) w' (Fn (ch own dst dis oV b (own (.self b)) oC) R)→∀(j:Nat) (hj:j<cells'.length),∃u,cell w' B j=some u∧dl w' B j=false∧AR E w' (Fn (ch own dst dis oV b (own (.self b)) oC) R) ρ cells'[j] u (oC j)):
 After E R ρ own N w (st.apply dst ⟨v,dis,[(b,.var cells')],[],rd⟩) (a.put dst val) w':=by
 have hself:own (.self b)=some (B,0):=by
  have:=h.blk b
  rw [hb]at this
  obtain⟨B',h1,h2,_⟩:=this
  rw [hB]at h1;cases h1;exact h2
 have hcase:∀y B t',ch own dst dis oV b (own (.self b)) oC y=some (B,t')→
  (∃d p,dst=some d∧y=.tmp d p∧oV p=some (B,t'))∨(∃j,y=.cell b j∧oC j=some (B,t'))∨(own y=some (B,t')∧¬src y∧∀j,y≠ .cell b j):=by
  intro y B t' hy
  cases y with
  | tmp t p=>
   simp only [ch,db,bg]at hy
   split at hy
   · rename_i e;exact .inl ⟨t,p,e,rfl,hy⟩
   · refine .inr (.inr ⟨cP hy,fun hs=> ?_,fun j e=>by cases e⟩)
     rcases hsrc _ hs with⟨t',p',e1,e2⟩ | ⟨j,e⟩
     · injection e2 with e2 e3
       subst e2
       simp [cL,e1]at hy
     · cases e
  | self k=>
   simp only [ch,db]at hy
   refine .inr (.inr ⟨?_,fun hs=> ?_,fun j e=>by cases e⟩)
   · split at hy
     · rename_i e;subst e;exact hy
     · exact hy
   · rcases hsrc _ hs with⟨t',p',e1,e2⟩ | ⟨j,e⟩
     · cases e2
     · cases e
  | cell k j=>
   simp only [ch,db]at hy
   split at hy
   · rename_i e;subst e;exact .inr (.inl ⟨j,rfl,hy⟩)
   · rename_i e
     refine .inr (.inr ⟨hy,fun hs=> ?_,fun j' e'=> ?_⟩)
     · rcases hsrc _ hs with⟨t',p',e1,e2⟩ | ⟨j',e2⟩
       · cases e2
       · injection e2 with e2;exact e e2
     · injection e' with e';exact e e'
 refine⟨ρ,_,fun _ _ h=>h,h.gen (own':=ch own dst dis oV b (own (.self b)) oC) (fun B' _=>B'=B) (fun t=>dst=some t∨dis=some t) (fun k=>k=b) hk ?_ ?_ ?_ (by rw [eV];exact h.size) (by rw [dm];exact h.defers) ?_ ?_ ?_ (fun _ _ h=>h) ?_ ?_⟩
 · intro B' off e
   subst e
   exact⟨.self b,0,hself,Nat.zero_le _,rfl⟩
 · intro y B t' hy
   rcases hcase y B t' hy with⟨d,p,_,rfl,hp⟩ | ⟨j,rfl,hj⟩ | ⟨hy,_,_⟩
   · obtain⟨x,_,hx⟩:=hoV p B t' hp;exact .inl ⟨x,t',hx,Nat.le_refl _⟩
   · obtain⟨x,_,hx⟩:=hoC j B t' hj;exact .inl ⟨x,t',hx,Nat.le_refl _⟩
   · exact .inl ⟨y,t',hy,Nat.le_refl _⟩
 · intro x y B t t' hx hy
   rcases hcase x B t hx with⟨d,p,e,rfl,hp⟩ | ⟨j,rfl,hj⟩ | ⟨hx,nx,cx⟩<;>rcases hcase y B t' hy with⟨d',p',e',rfl,hp'⟩ | ⟨j',rfl,hj'⟩ | ⟨hy,ny,cy⟩
   · rw [e]at e';cases e';rw [hVV p p' B t t' hp hp']
   · rw [hVC p j' B t t' hp hj']at e;cases e
   · obtain⟨z,hz,ez⟩:=hoV p B t hp
     have:=h.inj _ _ _ _ _ ez hy;subst this;exact absurd hz ny
   · rw [hVC p' j B t' t hp' hj]at e';cases e'
   · rw [hCC j j' B t t' hj hj']
   · obtain⟨z,hz,ez⟩:=hoC j B t hj
     have:=h.inj _ _ _ _ _ ez hy;subst this;exact absurd hz ny
   · obtain⟨z,hz,ez⟩:=hoV p' B t' hp'
     have:=h.inj _ _ _ _ _ ez hx;subst this;exact absurd hz nx
   · obtain⟨z,hz,ez⟩:=hoC j' B t' hj'
     have:=h.inj _ _ _ _ _ ez hx;subst this;exact absurd hz nx
   · exact h.inj _ _ _ _ _ hx hy
 · intro t hc
   have h1:dst≠some t:=fun e=>hc (.inl e)
   have h2:dis≠some t:=fun e=>hc (.inr e)
   refine⟨by simp only [St.apply,cE,ik,h1,h2,if_false], ?_,fun p=>by simp only [ch,db,bg,cL,h1,h2,if_false]⟩
   rw [bU a dst val t (by rw [h.size];exact hd)]
   simp only [h1,if_false]
 · intro hK t hc
   have hget:get (st.apply dst ⟨v,dis,[(b,.var cells')],[],rd⟩).fr t=if dst=some t then v else if dis=some t then(get st.fr t).dis else get st.fr t:=by
    simp only [St.apply,cE,ik]
   rw [hget,bU a dst val t (by rw [h.size];exact hd)]
   by_cases e:dst=some t
   · have:=hV hK
     subst e
     simpa [ch,db,bg]using this
   · have e2:dis=some t:=hc.resolve_left e
     simp only [e,if_false,e2,if_true]
     have hh:=((h.fr t).keep hK (fun _ _ h=>h) fun p B t' _ j _ hh=>dv hk hh).dis
     rw [e2]at hh
     simpa [ch,db,bg,cL,e]using hh
 · simp only [St.apply,bz,ba,List.append_nil,de,List.length_set];exact h.rho
 · intro k hkb
   refine⟨?_,by simp only [ch,db,hkb,if_false,bg,cL],fun j=>by simp only [ch,db,hkb,if_false,bg,cL]⟩
   simp only [St.apply,bz,ba,List.append_nil]
   rw [gj _ _ _ _ (by rw [hb];rfl)]
   simp [hkb]
 · intro hK k hkb
   subst hkb
   simp only [St.apply,bz,ba,List.append_nil]
   rw [gj _ _ _ _ (by rw [hb];rfl)]
   simp only [if_true]
   refine⟨B,hB,by simp only [ch,db,if_true];exact hself,fun j hj=>by simp only [ch,db,if_true];exact hC0 j hj,fun j hj=> ?_⟩
   obtain⟨u,h1,h2,h3⟩:=hC hK j hj
   exact⟨u,h1,h2,by simpa only [ch,db,if_true]using h3⟩
theorem bj {α:Type}(l r:List α)(k:Nat)(h:k<l.length):nth (l++r) k=nth l k:=by
 rw [aY,aY,List.getElem?_append_left h]
theorem bD {α:Type}(l:List α)(x:α):nth (l++ [x]) l.length=some x:=by
 rw [aY];simp
theorem dE {α:Type}{l:List α}{k:Nat}{x:α}(h:nth l k=some x):k<l.length:=by
 rw [aY]at h
 rcases Nat.lt_or_ge k l.length with h' | h'
 · exact h'
 · simp [List.getElem?_eq_none h']at h
theorem eS {α:Type}{l:List α}{k:Nat}(h:l.length≤k):nth l k=none:=by
 rw [aY];exact List.getElem?_eq_none h
theorem Rel.make (h:Rel E R ρ own N st a w){dst dis:Option Nat}{w':World}{B:Nat}{oC:Nat→aH}{cells:List AC}{rd:List Nat}
 (hd:∀d,dst=some d→d<N) (hk:w.keptBut w' (inT fun _ _=>False)) (hB1:w.heap.size≤B) (hB2:B<w'.heap.size)
 (hoC:∀j B t,oC j=some (B,t)→∃x p,dis=some x∧own (.tmp x p)=some (B,t))
 (hCC:∀p p' B t t',oC p=some (B,t)→oC p'=some (B,t')→p=p')
 (hC0:∀j,cells.length≤j→oC j=none)
 (hC:∀F',Keeps w (Fn own R) w' F'→(∀B' off,F' B' off→Fn own R B' off∨B'=B)→∀(j:Nat) (hj:j<cells.length),∃u,cell w' B j=some u∧dl w' B j=false∧AR E w' F' (ρ++ [B]) cells[j] u (oC j)):
 After E R ρ own N w (st.apply dst ⟨.one (.ptr (bI st.blk) 0),dis,[],[.var cells],rd⟩) (a.put dst (.pointer (some ⟨B,0,none⟩))) w':=by
 have hlen:=bq st.blk
 have hρl:ρ.length=st.blk.length:=h.rho
 have hnb:=h.blk st.blk.length
 rw [eS (Nat.le_refl _)]at hnb
 have hcase:∀y B' t',ch own dst dis (fun _=>none) st.blk.length (some (B,0)) oC y=some (B',t')→
  (y=.self st.blk.length∧B'=B∧t'=0)∨(∃j,y=.cell st.blk.length j∧oC j=some (B',t'))∨(own y=some (B',t')∧(∀x p,dis=some x→y≠ .tmp x p)∧(∀j,y≠ .cell st.blk.length j)):=by
  intro y B' t' hy
  cases y with
  | tmp t p=>
   simp only [ch,db,bg]at hy
   split at hy
   · cases hy
   · refine .inr (.inr ⟨cP hy,fun x q e1 e2=> ?_,fun j e=>by cases e⟩)
     injection e2 with e2 e3
     subst e2
     simp [cL,e1]at hy
  | self k=>
   simp only [ch,db]at hy
   split at hy
   · rename_i e;subst e;cases hy;exact .inl ⟨rfl,rfl,rfl⟩
   · exact .inr (.inr ⟨hy,fun x q e1 e2=>(by cases e2),fun j e=>(by cases e)⟩)
  | cell k j=>
   simp only [ch,db]at hy
   split at hy
   · rename_i e;subst e;exact .inr (.inl ⟨j,rfl,hy⟩)
   · rename_i e
     exact .inr (.inr ⟨hy,fun x q e1 e2=>(by cases e2),fun j e2=>(by injection e2 with e2;exact e e2)⟩)
 have hlt:∀y B' t',own y=some (B',t')→B'<w.heap.size:=fun y B' t' e=>(h.out _ _ _ e).1
 refine⟨ρ++ [B],_,fun b B' hb=>by rw [bj _ _ _ (dE hb)];exact hb,h.gen (own':=ch own dst dis (fun _=>none) st.blk.length (some (B,0)) oC) (fun _ _=>False) (fun t=>dst=some t∨dis=some t) (fun k=>k=st.blk.length) hk (fun _ _ h=>h.elim) ?_ ?_ (by rw [eV];exact h.size) (by rw [dm];exact h.defers) ?_ ?_ ?_ ?_ ?_ ?_⟩
 · intro y B' t' hy
   rcases hcase y B' t' hy with⟨_,rfl,_⟩ | ⟨j,_,hj⟩ | ⟨hy,_⟩
   · exact .inr ⟨hB1,hB2⟩
   · obtain⟨x,p,_,e⟩:=hoC j B' t' hj;exact .inl ⟨_,t',e,Nat.le_refl _⟩
   · exact .inl ⟨y,t',hy,Nat.le_refl _⟩
 · intro x y B' t t' hx hy
   rcases hcase x B' t hx with⟨rfl,rfl,rfl⟩ | ⟨j,rfl,hj⟩ | ⟨hx2,nx,cx⟩<;>rcases hcase y B' t' hy with⟨rfl,e1,e2⟩ | ⟨j',rfl,hj'⟩ | ⟨hy2,ny,cy⟩
   · rfl
   · obtain⟨z,p,_,e⟩:=hoC j' _ t' hj';have:=hlt _ _ _ e;omega
   · have:=hlt _ _ _ hy2;omega
   · obtain⟨z,p,_,e⟩:=hoC j _ t hj;have:=hlt _ _ _ e;omega
   · rw [hCC j j' B' t t' hj hj']
   · obtain⟨z,p,ez,e⟩:=hoC j B' t hj
     have:=h.inj _ _ _ _ _ e hy2;subst this;exact absurd rfl (ny z p ez)
   · have:=hlt _ _ _ hx2;omega
   · obtain⟨z,p,ez,e⟩:=hoC j' B' t' hj'
     have:=h.inj _ _ _ _ _ e hx2;subst this;exact absurd rfl (nx z p ez)
   · exact h.inj _ _ _ _ _ hx2 hy2
 · intro t hc
   have h1:dst≠some t:=fun e=>hc (.inl e)
   have h2:dis≠some t:=fun e=>hc (.inr e)
   refine⟨by simp only [St.apply,cE,ik,h1,h2,if_false], ?_,fun p=>by simp only [ch,db,bg,cL,h1,h2,if_false]⟩
   rw [bU a dst _ t (by rw [h.size];exact hd)]
   simp only [h1,if_false]
 · intro hK t hc
   have hget:get (st.apply dst ⟨.one (.ptr (bI st.blk) 0),dis,[],[.var cells],rd⟩).fr t=if dst=some t then .one (.ptr (bI st.blk) 0)else if dis=some t then(get st.fr t).dis else get st.fr t:=by
    simp only [St.apply,cE,ik]
   rw [hget,bU a dst _ t (by rw [h.size];exact hd)]
   by_cases e:dst=some t
   · subst e
     simp only [if_true]
     refine .one _ _ _ ?_ fun p _=>by simp [ch,db,bg]
     have hnone:ch own (some t) dis (fun _=>none) st.blk.length (some (B,0)) oC (.tmp t [])=none:=by simp [ch,db,bg]
     rw [hnone]
     exact .ptr _ _ _ (by rw [hlen,←hρl];exact bD ρ B)
   · have e2:dis=some t:=hc.resolve_left e
     simp only [e,if_false,e2,if_true]
     have hh:=((h.fr t).keep hK (ρ':=ρ++ [B]) (fun b B' hb=>by rw [bj _ _ _ (dE hb)];exact hb) fun p B t' _ j _ hh=>dv hk hh).dis
     rw [e2]at hh
     simpa [ch,db,bg,cL,e]using hh
 · simp only [St.apply,bz,ba,List.length_append,List.length_singleton,hρl]
 · intro b B' hb
   rw [bj _ _ _ (dE hb)];exact hb
 · intro k hkb
   refine⟨?_,by simp only [ch,db,hkb,if_false,bg,cL],fun j=>by simp only [ch,db,hkb,if_false,bg,cL]⟩
   simp only [St.apply,bz,ba]
   by_cases hk':k<st.blk.length
   · rw [bj _ _ _ hk']
   · rw [eS (l:=st.blk) (by omega),eS]
     simp;omega
 · intro hK k hkb
   subst hkb
   simp only [St.apply,bz,ba]
   rw [bD]
   refine⟨B,by rw [←hρl];exact bD ρ B,by simp only [ch,db,if_true],fun j hj=>by simp only [ch,db,if_true];exact hC0 j hj,fun j hj=> ?_⟩
   refine Exists.elim (hC _ hK (fun B' off hF=> ?_) j hj) fun u ⟨h1,h2,h3⟩=> ?_
   rotate_left
   · exact⟨u,h1,h2,by simpa only [ch,db,if_true]using h3⟩
   · rcases hF with hR | ⟨x,t,hx,hl⟩
     · exact .inl (.inl hR)
     · rcases hcase x B' t hx with⟨_,e,_⟩ | ⟨j',_,hj'⟩ | ⟨hx,_⟩
       · exact .inr e
       · obtain⟨z,p,_,e⟩:=hoC j' B' t hj';exact .inl (.inr ⟨_,t,e,hl⟩)
       · exact .inl (.inr ⟨x,t,hx,hl⟩)
end Go.Abs
namespace Go.Abs
variable {E:Env} {P:Program} {R:aG} {ρ:List Nat} {own:OI→aH} {N:Nat} {st:St} {a:Act} {w:World} {F:aG}
def ly :CK→Option Value
 | .int k=>some (.int k 0)
 | .bool=>some (.bool false)
 | .str=>some (.string .empty)
 | .slice _=>some (.slice none 0 0)
 | .ptr=>some (.pointer none)
 | .fn=>some .nilFunc
 | .other=>none
def eY (ty:Ty)(d:TypeDesc):Prop:=
 match ty.desc,d with
 | .int k,.int k'=>k=k'∧ty.kinds=[.int k]
 | .bool,.bool=>ty.kinds=[.bool]
 | .str,.string=>ty.kinds=[.str]
 | .slice e,.slice e'=>e=e'∧ty.kinds=[.slice e]
 | .array n e,.array n' e'=>n=n'∧e=e'
 | .struct fs,.struct fields=>fields.toList.map (fun f=>(f.offset,f.type))=fs
 | .ptr e,.pointer e'=>e=e'∧ty.kinds=[.ptr]
 | .fn,.func _ _ _=>ty.kinds=[.fn]
 | _,_=>False
structure TyOk (P:Program) (t:TypeId) (ty:Ty):Prop where
 len:ty.kinds.length=ty.size
 pos:1≤ty.size
 info:∃i z,P.info? t=some i∧i.size=ty.size∧i.bytes=ty.bytes∧i.zero=some z∧z.cells.toList.map some=ty.kinds.map ly
 desc:∃d,P.underlying t=some d∧eY ty d
 fields:∀fs,P.underlying t=some (.struct fs)→∀f∈fs.toList,∃i,P.info? f.type=some i
theorem TyOk.run_size {t:TypeId}{ty:Ty}(h:TyOk P t ty)(w:World):(sizeOf t).run P w=.ok ty.size w:=by
 obtain⟨i,z,h1,h2,_⟩:=h.info
 simp [sizeOf,typeInfo,h1,h2]
theorem TyOk.run_bytes {t:TypeId}{ty:Ty}(h:TyOk P t ty):∃i,P.info? t=some i∧i.bytes=ty.bytes:=by
 obtain⟨i,z,h1,h2,h3,_⟩:=h.info
 exact⟨i,h1,h3⟩
theorem TyOk.run_isAgg {t:TypeId}{ty:Ty}(h:TyOk P t ty)(w:World):(isAgg t).run P w=.ok ty.desc.isAgg w:=by
 obtain⟨d,h1,h2⟩:=h.desc
 unfold isAgg
 simp only [Sem.run_bind,run_underlying h1,Result.andThen_ok]
 unfold eY at h2
 cases hd:ty.desc<;>cases d<;>simp_all [TD.isAgg]
theorem TyOk.run_zero {t:TypeId}{ty:Ty}(h:TyOk P t ty)(w:World):∃z,(zeroValue t).run P w=.ok z w∧z.cells.toList.map some=ty.kinds.map ly:=by
 obtain⟨i,z,h1,_,_,h2,h3⟩:=h.info
 exact⟨z,by simp [zeroValue,typeInfo,h1,h2],h3⟩
def ve (own:OI→aH):Operand→aS
 | .tmp t=>fun p=>own (.tmp t p)
 | _=>fun _=>none
theorem sV {v:Value}{c:AC}(h:pH v=some c):AR E w F ρ c v none:=by
 unfold pH at h
 split at h<;>simp at h<;>subst h
 · exact .int _ _
 · exact .bool _
 · rename_i s
   have:s=⟨s.data.toList.toArray⟩:=by simp
   conv=>arg 6;rw [this]
   exact .str _
 · exact .nilp
 · exact .nils
 · exact .nilf
theorem uk :∀{vs:List Value} {l:List AC},ql vs=some l→l.length=vs.length∧∀(i:Nat) (h1:i<l.length) (h2:i<vs.length),AR E w F ρ l[i] vs[i] none
 | [],l,h=>by simp [ql]at h;subst h;simp
 | v::r,l,h=>by
  simp only [ql]at h
  split at h
  · rename_i c l' h1 h2
    simp at h;subst h
    obtain⟨g1,g2⟩:=uk h2
    refine⟨by simp [g1],fun i h3 h4=> ?_⟩
    cases i with
    | zero=>exact sV h1
    | succ i=>exact g2 i (by simpa using h3) (by simpa using h4)
  · cases h
theorem BH (v:Value):AVR E w F ρ (C1 v) v (fun _=>none):=by
 have hone:∀c,pH v=some c→AVR E w F ρ (.one c) v (fun _=>none):=fun c hc=> .one _ _ _ (sV hc) fun _ _=>rfl
 have hun:AVR E w F ρ .undef v (fun _=>none):=.undef _ _ fun _=>rfl
 unfold C1
 split
 · rename_i cs
   cases hc:ql cs.toList with
   | none=>exact .undef _ _ fun _=>rfl
   | some l=>
    obtain⟨h1,h2⟩:=uk (E:=E) (w:=w) (F:=F) (ρ:=ρ) hc
    have hcs:cs=((List.range l.length).map fun i=>cs.toList.getD i undef).toArray:=by
     apply Array.ext'
     simp only [h1]
     apply List.ext_getElem
     · simp
     · intro i h3 h4
       have h5:i<cs.size:=by simpa using h3
       simp [List.getD,h5]
    conv=>arg 6;rw [hcs]
    refine .agg l _ _ (fun i hi=> ?_) fun _ _=>rfl
    have:=h2 i hi (by omega)
    have h3:i<cs.toList.length:=by omega
    simpa [List.getD,List.getElem?_eq_getElem h3]using this
 · cases hc:pH v with
   | none=>exact hun
   | some c=>exact hone c hc
theorem a9 (h:Rel E R ρ own N st a w)(x:Operand):AVR E w (Fn own R) ρ (ev st.fr x) (a.eval x) (ve own x):=by
 cases x with
 | tmp t=>exact h.fr t
 | const v=>exact BH v
 | global g=>exact .undef _ _ fun _=>rfl
 | func f=>
  refine .one _ _ _ ?_ fun _ _=>rfl
  exact .fn f [] (fun _=>undef) (by simp)
theorem lN {k:CK}{c:AC}{v:Value}{o:aH}(h:AR E w F ρ c v o):AR E w F ρ (va k c) v o:=by
 unfold va
 split
 · cases h;exact .full _ _ _ _ (.empty _ _ _)
 · exact h
theorem uH :∀(ks:List CK) (l:List AC),(oF ks l).length=l.length
 | [],l=>by simp [oF]
 | _::_,[]=>by simp [oF]
 | k::ks,c::r=>by simp [oF,uH ks r]
theorem tm :∀{ks:List CK} {l:List AC} {g:Nat→Value} {o:Nat→aH},(∀(i:Nat) (h:i<l.length),AR E w F ρ l[i] (g i) (o i))→
 ∀(i:Nat) (h:i<(oF ks l).length),AR E w F ρ (oF ks l)[i] (g i) (o i)
 | [],l,g,o,h=>by simpa [oF]using h
 | _::_,[],g,o,h=>by simp [oF]
 | k::ks,c::r,g,o,h=>by
  intro i hi
  cases i with
  | zero=>exact lN (h 0 (by simp))
  | succ i=>
   have:=tm (ks:=ks) (l:=r) (g:=fun j=>g (j+1)) (o:=fun j=>o (j+1)) (fun j hj=>h (j+1) (Nat.succ_lt_succ hj)) i (by simpa [oF]using hi)
   simpa [oF]using this
theorem fC {t:TypeId}{v:AV}{val:Value}{o:aS}(h:AVR E w F ρ v val o):AVR E w F ρ (E.fit t v) val o:=by
 unfold Env.fit
 cases E.tys t with
 | none=>exact h
 | some ty=>
  dsimp only
  cases h with
  | undef v o ho=>exact .undef _ _ ho
  | one c v o h ho=>
   dsimp only
   split
   · exact .one _ _ _ (lN h) ho
   · exact .one _ _ _ h ho
  | agg l g o h ho=>
   dsimp only
   have hl:=uH ty.kinds l
   have:=AVR.agg (E:=E) (w:=w) (F:=F) (ρ:=ρ) (oF ty.kinds l) g o (fun i hi=>tm (o:=fun i=>o [i]) h i hi) (fun p hp=>ho p (by rwa [hl]at hp))
   rwa [hl]at this
  | tup l g o h ho=>exact .tup l g o h ho
theorem gN {β:Type}:∀{l:List AC} {o n:Nat} {K:List AC→Option β} {r:β},lw l o n K=some r→(n=0∨o+n≤l.length)∧K ((l.drop o).take n)=some r
 | _,_,0,K,r,h=>by simpa [lw]using h
 | [],o,n+1,K,r,h=>by simp [lw]at h
 | c::l,0,n+1,K,r,h=>by
  simp only [lw]at h
  obtain⟨h1,h2⟩:=gN h
  refine⟨.inr ?_,by simpa using h2⟩
  simp only [List.length_cons]
  omega
 | _::l,o+1,n+1,K,r,h=>by
  simp only [lw]at h
  obtain⟨h1,h2⟩:=gN h
  refine⟨.inr ?_,by simpa using h2⟩
  simp only [List.length_cons]
  omega
def fh (l:List AC)(o:Nat)(xs:List AC):List AC:=l.take o++xs++l.drop (o+xs.length)
theorem cc {β:Type}:∀{l:List AC} {o:Nat} {xs:List AC} {K:List AC→Option β} {r:β},eR l o xs K=some r→(xs=[]∨o+xs.length≤l.length)∧K (fh l o xs)=some r
 | l,o,[],K,r,h=>by
  simp only [eR]at h
  refine⟨.inl rfl, ?_⟩
  simpa [fh]using h
 | [],o,_::_,K,r,h=>by simp [eR]at h
 | c::l,0,x::xs,K,r,h=>by
  simp only [eR]at h
  obtain⟨h1,h2⟩:=cc h
  refine⟨.inr ?_, ?_⟩
  · rcases h1 with h1 | h1
    · subst h1;simp
    · simp at h1⊢;omega
  · simpa [fh]using h2
 | c::l,o+1,x::xs,K,r,h=>by
  simp only [eR]at h
  obtain⟨h1,h2⟩:=cc h
  refine⟨.inr ?_, ?_⟩
  · simp at h1⊢;omega
  · rw [←h2]
    simp [fh,Nat.add_right_comm o 1]
theorem eX {l:List AC}{o:Nat}{xs:List AC}(h:o+xs.length≤l.length):(fh l o xs).length=l.length:=by
 simp [fh];omega
theorem jF {l:List AC}{o:Nat}{xs:List AC}(h:o+xs.length≤l.length)(j:Nat)(hj:j<(fh l o xs).length):
 (∃(_:o≤j) (h2:j - o<xs.length),(fh l o xs)[j]=xs[j - o])∨((j<o∨o+xs.length≤j)∧∃h3:j<l.length,(fh l o xs)[j]=l[j]):=by
 have hl:=eX h
 unfold fh at*
 by_cases h1:j<o
 · refine .inr ⟨.inl h1,by omega, ?_⟩
   rw [List.getElem_append_left (by simp;omega),List.getElem_append_left (by simp;omega),List.getElem_take]
 · by_cases h2:j<o+xs.length
   · refine .inl ⟨by omega,by omega, ?_⟩
     rw [List.getElem_append_left (by simp;omega),List.getElem_append_right (by simp;omega)]
     simp only [List.length_take]
     congr 1
     omega
   · refine .inr ⟨.inr (by omega),by omega, ?_⟩
     rw [List.getElem_append_right (by simp;omega)]
     simp only [List.getElem_drop,List.length_append,List.length_take]
     congr 1
     omega
end Go.Abs
namespace Go.Abs
variable {E:Env} {P:Program} {R:aG} {ρ:List Nat} {own:OI→aH} {N:Nat} {st:St} {a:Act} {w:World} {F:aG}
def Ran (E:Env)(R:aG)(ρ:List Nat)(own:OI→aH)(N:Nat)(w:World)(st':St)(dst:Option Nat)(a:Act)(r:Result Next):Prop:=
 (∃v w',r=.ok (.value v) w'∧After E R ρ own N w st' (a.put dst v) w')∨(∃w',r=.ok .skip w'∧After E R ρ own N w st' (a.put dst undef) w')
theorem Ran.value {st':St}{dst:Option Nat}{r:Result Next}{v:Value}{w':World}(h1:r=.ok (.value v) w')(h2:After E R ρ own N w st' (a.put dst v) w'):Ran E R ρ own N w st' dst a r:=
 .inl ⟨v,w',h1,h2⟩
theorem DH {s:Sem Value}{v:Value}{w w':World}(h:s.run P w=.ok v w'):(do pure (Next.value (←s)):Sem Next).run P w=.ok (.value v) w':=by
 simp [h]
theorem AVR.int {k:IntKind}{n:Int}:AVR E w F ρ (.one (.int k n)) (.int k n) (fun _=>none):=.one _ _ _ (.int k n) fun _ _=>rfl
theorem AVR.bool {b:Bool}:AVR E w F ρ (.one (.bool b)) (.bool b) (fun _=>none):=.one _ _ _ (.bool b) fun _ _=>rfl
theorem AVR.of {c:AC}{v:Value}(h:AR E w F ρ c v none):AVR E w F ρ (.one c) v (fun _=>none):=.one _ _ _ h fun _ _=>rfl
theorem AR.inv_int {v:Value}{o:aH}{k:IntKind}{n:Int}(h:AR E w F ρ (.int k n) v o):v=.int k n:=by cases h;rfl
theorem AR.inv_bool {v:Value}{o:aH}{b:Bool}(h:AR E w F ρ (.bool b) v o):v=.bool b:=by cases h;rfl
theorem AR.inv_str {v:Value}{o:aH}{s:List UInt8}(h:AR E w F ρ (.str s) v o):v=.string ⟨s.toArray⟩:=by cases h;rfl
theorem AR.inv_nilp {v:Value}{o:aH}(h:AR E w F ρ .nilp v o):v=.pointer none:=by cases h;rfl
theorem AR.inv_ptr {v:Value}{o:aH}{b k:Nat}(h:AR E w F ρ (.ptr b k) v o):∃B,nth ρ b=some B∧v=.pointer (some ⟨B,k,none⟩):=by
 cases h with | ptr _ _ B h=>exact⟨B,h,rfl⟩
theorem AVR.get_one {v:Value}{o:aS}{c:AC}(h:AVR E w F ρ (.one c) v o):AR E w F ρ c v (o []):=by
 cases h with | one _ _ _ h _=>exact h
theorem AVR.get_int {v:Value}{o:aS}{k:IntKind}{n:Int}(h:AVR E w F ρ (.one (.int k n)) v o):v=.int k n:=h.get_one.inv_int
theorem AVR.get_bool {v:Value}{o:aS}{b:Bool}(h:AVR E w F ρ (.one (.bool b)) v o):v=.bool b:=h.get_one.inv_bool
theorem AVR.get_str {v:Value}{o:aS}{s:List UInt8}(h:AVR E w F ρ (.one (.str s)) v o):v=.string ⟨s.toArray⟩:=h.get_one.inv_str
theorem FF {β:Type}{b:Bool}{x y:Option β}{r:β}(h:cond b x y=some r):(b=true∧x=some r)∨(b=false∧y=some r):=by
 cases b
 · exact .inr ⟨rfl,h⟩
 · exact .inl ⟨rfl,h⟩
theorem ab {β:Type}{b:Bool}{x:Option β}{r:β}(h:cond b x none=some r):b=true∧x=some r:=by
 cases b
 · cases h
 · exact⟨rfl,h⟩
theorem jb {β:Type}{b:Bool}{x:Option β}{r:β}(h:cond b none x=some r):b=false∧x=some r:=by
 cases b
 · exact⟨rfl,h⟩
 · cases h
theorem lf {j k:IntKind}(h:IntKind.same j k=true):j=k:=by cases j<;>cases k<;>first | rfl | (exact absurd h (by decide))
theorem ofK {v:AV}{u:Upd}(h:cd v some=some u):u=Upd.pure v:=by injection h with h;exact h.symm
theorem fM {k:IntKind}{n:Int}{u:Upd}(h:iF k n some=some u):u=Upd.pure (.one (.int k n)):=by injection h with h;exact h.symm
theorem iQ {b:Bool}{u:Upd}(h:eJ b some=some u):u=Upd.pure (.one (.bool b)):=by injection h with h;exact h.symm
theorem pk (s:List UInt8):(⟨s.toArray⟩:ByteArray).toList=s:=by
 rw [ByteArray.toList_eq]
def dL :AC→Value
 | .int k n=> .int k n
 | .bool b=> .bool b
 | .str s=> .string ⟨s.toArray⟩
 | _=>undef
structure Good (P:Program) (E:Env):Prop where
 ty:∀t ty,E.tys t=some ty→TyOk P t ty
 eqs:∀t ty xs ys b,E.tys t=some ty→ty.eq=true→eqL ty.kinds xs ys=some b→P.eqGuardType P.depth t=false∧∀w,(Op.equal t (.agg (xs.map dL).toArray) (.agg (ys.map dL).toArray)).run P w=.ok b w
theorem E2 {t:TypeId}{ty:Ty}(h:TyOk P t ty)(hd:ty.desc=.bool):P.underlying t=some .bool:=by
 obtain⟨d,h1,h2⟩:=h.desc;unfold eY at h2;rw [hd]at h2;cases d<;>simp_all
theorem Jk {t:TypeId}{ty:Ty}{e:TypeId}(h:TyOk P t ty)(hd:ty.desc=.ptr e):P.underlying t=some (.pointer e):=by
 obtain⟨d,h1,h2⟩:=h.desc;unfold eY at h2;rw [hd]at h2;cases d<;>simp_all
theorem kp {t:TypeId}{ty:Ty}{k:IntKind}(h:TyOk P t ty)(hd:ty.desc=.int k):P.underlying t=some (.int k):=by
 obtain⟨d,h1,h2⟩:=h.desc;unfold eY at h2;rw [hd]at h2;cases d<;>simp_all
theorem gp {t:TypeId}{ty:Ty}(h:TyOk P t ty)(hd:ty.desc=.str):P.underlying t=some .string:=by
 obtain⟨d,h1,h2⟩:=h.desc;unfold eY at h2;rw [hd]at h2;cases d<;>simp_all
theorem bl {t:TypeId}{ty:Ty}{e:TypeId}(h:TyOk P t ty)(hd:ty.desc=.slice e):P.underlying t=some (.slice e):=by
 obtain⟨d,h1,h2⟩:=h.desc;unfold eY at h2;rw [hd]at h2;cases d<;>simp_all
theorem kH {t:TypeId}{ty:Ty}{n:Nat}{e:TypeId}(h:TyOk P t ty)(hd:ty.desc=.array n e):P.underlying t=some (.array n e):=by
 obtain⟨d,h1,h2⟩:=h.desc;unfold eY at h2;rw [hd]at h2;cases d<;>simp_all
theorem mp {t:TypeId}{ty:Ty}{fs:List (Nat×TypeId)}(h:TyOk P t ty)(hd:ty.desc=.struct fs):∃fields,P.underlying t=some (.struct fields)∧fields.toList.map (fun f=>(f.offset,f.type))=fs:=by
 obtain⟨d,h1,h2⟩:=h.desc;unfold eY at h2;rw [hd]at h2;cases d<;>simp_all
theorem oY :∀(x y:List UInt8),Op.bytesLess x y=bytesLess x y
 | _,[]=>by simp [Op.bytesLess,bytesLess]
 | [],_::_=>by simp [Op.bytesLess,bytesLess]
 | c::x,d::y=>by simp only [Op.bytesLess,bytesLess,oY x y]
def AC.plain :AC→Bool
 | .int _ _ | .bool _ | .str _=>true
 | _=>false
theorem AR.inv_plain {c:AC}{v:Value}{o:aH}(h:AR E w F ρ c v o)(hp:c.plain=true):v=dL c:=by
 cases h<;>first | rfl | (simp [AC.plain]at hp)
theorem FD :∀{ks:List CK} {xs ys:List AC} {b:Bool},eqL ks xs ys=some b→(∀c∈xs,c.plain=true)∧(∀c∈ys,c.plain=true):=by
 have hb:∀{p:Bool} {q:Option Bool} {b:Bool},zi p q=some b→∃r,q=some r:=by
  intro p q b h
  cases q with
  | none=>cases h
  | some r=>exact⟨r,rfl⟩
 intro ks xs ys
 induction ks,xs,ys using eqL.induct with
 | case1=>intro b _;simp
 | case2 j ks k a x l b y hc ih=>
  intro q h
  simp only [eqL,hc,cond_true]at h
  obtain⟨r,e⟩:=hb h
  obtain⟨h1,h2⟩:=ih e;exact⟨by simpa [AC.plain]using h1,by simpa [AC.plain]using h2⟩
 | case3 j ks k a x l b y hc=>
  intro q h
  simp only [eqL,hc,cond_false]at h
  cases h
 | case4 ks a x b y ih=>
  intro q h
  simp only [eqL]at h
  obtain⟨r,e⟩:=hb h
  obtain⟨h1,h2⟩:=ih e;exact⟨by simpa [AC.plain]using h1,by simpa [AC.plain]using h2⟩
 | case5 ks a x b y ih=>
  intro q h
  simp only [eqL]at h
  obtain⟨r,e⟩:=hb h
  obtain⟨h1,h2⟩:=ih e;exact⟨by simpa [AC.plain]using h1,by simpa [AC.plain]using h2⟩
 | case6=>intro b h;simp_all [eqL]
theorem vF {l:List AC}{v:Value}{o:aS}(h:AVR E w F ρ (.agg l) v o)(hp:∀c∈l,c.plain=true):v=.agg (l.map dL).toArray:=by
 cases h with
 | agg l g o h ho=>
  congr 2
  apply List.ext_getElem
  · simp
  · intro i h1 h2
    simp only [List.getElem_map,List.getElem_range]
    have hi:i<l.length:=by simpa using h2
    exact(h i hi).inv_plain (hp _ (List.getElem_mem hi))
theorem vd (op:BinOp)(t:TypeId)(x y:Operand){c:AC}{v u:Value}{o:aH}(h:AR E w F ρ c v o):eqGuard op t x y v u=Pure.pure ():=by
 cases h with
 | sl e rows v h=>cases h<;>exact eqGuard_at_slice ..
 | int k n=>exact eqGuard_at_int ..
 | bool b=>exact eqGuard_at_bool ..
 | str s=>exact eqGuard_at_string ..
 | full=>exact eqGuard_at_slice ..
 | own=>exact eqGuard_at_slice ..
 | nils=>exact eqGuard_at_slice ..
 | ptr=>exact eqGuard_at_pointer ..
 | eptr=>exact eqGuard_at_pointer ..
 | nilp=>exact eqGuard_at_pointer ..
 | fn=>exact eqGuard_at_func ..
 | nilf=>exact eqGuard_at_nilFunc op t x y u
 | refs=>exact eqGuard_at_slice ..
 | aptr=>exact eqGuard_at_pointer ..
 | msl=>exact eqGuard_at_slice ..
 | mnil=>exact eqGuard_at_slice ..
 | mptr=>exact eqGuard_at_pointer ..
 | win=>exact eqGuard_at_slice ..
 | parr=>exact eqGuard_at_pointer ..
theorem sG {t:TypeId}(h:P.underlying t=some .bool)(p q:Bool)(w:World):(Op.equal t (.bool p) (.bool q)).run P w=.ok (p==q) w:=by
 have:∀d,(Op.equalIn (d+1) t (.bool p) (.bool q)).run P w=.ok (p==q) w:=by
  intro d
  simp only [Op.equalIn,Sem.run_bind,run_underlying h,Result.andThen_ok,Sem.run_pure]
 exact this 9999
theorem jY {t e:TypeId}(h:P.underlying t=some (.pointer e))(p q:Option Addr)(hpq:p=none∨q=none)(w:World):(Op.equal t (.pointer p) (.pointer q)).run P w=.ok (p.isNone&&q.isNone) w:=by
 have:∀d,(Op.equalIn (d+1) t (.pointer p) (.pointer q)).run P w=.ok (p.isNone&&q.isNone) w:=by
  intro d
  cases p with
  | none=>simp only [Op.equalIn,Sem.run_bind,run_underlying h,Result.andThen_ok,Sem.run_pure];rfl
  | some x=>cases q with
   | none=>simp only [Op.equalIn,Sem.run_bind,run_underlying h,Result.andThen_ok,Sem.run_pure];rfl
   | some y=>simp at hpq
 exact this 9999
theorem K8 (G:Good P E){t:TypeId}{ty:Ty}(ht:E.tys t=some ty){c d:AC}{vx vy:Value}{ox oy:aH}(hx:AR E w F ρ c vx ox)(hy:AR E w F ρ d vy oy){p:Bool}(h1:Fb ty.desc c=true)(he:eqC c d=some p):
 (Op.equal t vx vy).run P w=.ok p w∧∀op,(op=.eql∨op=.neq)→(binOp op t vx vy).run P w=((Op.equal t vx vy).run P w).andThen fun b w'=> .ok (.bool (match op with | .neq=> !b | _=>b)) w':=by
 have hT:=G.ty t ty ht
 cases hd:ty.desc with
 | bool=>
  rw [hd]at h1
  cases c<;>simp [Fb]at h1
  cases d<;>simp [eqC]at he
  rw [hx.inv_bool,hy.inv_bool]
  refine⟨by rw [sG (E2 hT hd)];simp [←he],fun op hop=> ?_⟩
  rcases hop with rfl | rfl<;>simp [binOp]
 | ptr e=>
  rw [hd]at h1
  have hu:=Jk hT hd
  have hb:∀p q,∀op,(op=.eql∨op=.neq)→(binOp op t (.pointer p) (.pointer q)).run P w=((Op.equal t (.pointer p) (.pointer q)).run P w).andThen fun b w'=> .ok (.bool (match op with | .neq=> !b | _=>b)) w':=by
   intro p q op hop
   rcases hop with rfl | rfl<;>simp [binOp]
  cases c<;>simp [Fb]at h1
  · cases d<;>simp [eqC]at he
    rw [hy.inv_nilp]
    obtain⟨B,_,e⟩:=hx.inv_ptr
    rw [e]
    exact⟨by rw [jY hu _ _ (.inr rfl)];subst he;rfl,hb _ _⟩
  · cases d<;>simp [eqC]at he
    · rw [hx.inv_nilp]
      obtain⟨B,_,e⟩:=hy.inv_ptr
      rw [e]
      exact⟨by rw [jY hu _ _ (.inl rfl)];subst he;rfl,hb _ _⟩
    · rw [hx.inv_nilp,hy.inv_nilp]
      exact⟨by rw [jY hu _ _ (.inl rfl)];subst he;rfl,hb _ _⟩
 | _=>rw [hd]at h1;cases c<;>simp [Fb]at h1
def Nu (E:Env)(t:TypeId)(op:BinOp)(c d:AC):Option Upd:=
 match E.tys t with
 | some ty=>cond (Fb ty.desc c) (match op,eqC c d with
  | .eql,some p=>eJ p some
  | .neq,some p=>eJ (!p) some
  | _,_=>none) none
 | none=>none
theorem E4 (G:Good P E){t:TypeId}{op:BinOp}{c d:AC}{vx vy:Value}{ox oy:aH}(hx:AR E w F ρ c vx ox)(hy:AR E w F ρ d vy oy){u:Upd}(h:Nu E t op c d=some u):
 ∃v val,u=Upd.pure v∧(binOp op t vx vy).run P w=.ok val w∧AVR E w F ρ v val (fun _=>none):=by
 unfold Nu at h
 cases ht:E.tys t with
 | none=>simp [ht]at h
 | some ty=>
  rw [ht]at h
  dsimp only at h
  obtain⟨h1,h⟩:=ab h
  cases he:eqC c d with
  | none=>rw [he]at h;cases op<;>simp at h
  | some p=>
   rw [he]at h
   obtain⟨r1,r2⟩:=K8 G ht hx hy h1 he
   have hop:op=.eql∨op=.neq:=by cases op<;>simp at h<;>simp
   rw [r2 op hop,r1]
   simp only [Result.andThen_ok]
   rcases hop with rfl | rfl
   · exact⟨_,_,iQ h,rfl,AVR.bool⟩
   · exact⟨_,_,iQ h,rfl,AVR.bool⟩
theorem EE {op:BinOp}{t:TypeId}{j k:IntKind}{m n:Int}{u:Upd}(h:kr E op t (.one (.int j m)) (.one (.int k n)) some=some u):
 ∃v val,u=Upd.pure v∧(binOp op t (.int j m) (.int k n)).run P w=.ok val w∧AVR E w F ρ v val (fun _=>none):=by
 by_cases h1:op=.shl
 · subst h1
   obtain⟨hb,h⟩:=jb h
   have hn:¬n<0:=by simpa using hb
   refine⟨_,_,fM h, ?_,AVR.int⟩
   simp [binOp,Op.shift,hn,iA]
 by_cases h2:op=.shr
 · subst h2
   obtain⟨hb,h⟩:=jb h
   have hn:¬n<0:=by simpa using hb
   refine⟨_,_,fM h, ?_,AVR.int⟩
   simp [binOp,Op.shift,hn,nD]
 have hk:j=k:=by
  cases op<;>first | exact absurd rfl h1 | exact absurd rfl h2 | exact lf (ab h).1
 subst hk
 cases op<;>first | exact absurd rfl h1 | exact absurd rfl h2 | skip
 all_goals obtain⟨_,h⟩:=ab h
 all_goals dsimp only at h
 all_goals first
  | exact⟨_,_,fM h,(by first | (simp [binOp,Op.intArith];done) | (simp only [binOp,Op.intBits,ne_eq,not_true_eq_false,if_false];rfl)),AVR.int⟩
  | exact⟨_,_,iQ h,(by simp [binOp,Op.intCmp]),AVR.bool⟩
  | (obtain⟨hb,h⟩:=jb h
     have hn:¬n=0:=by simpa using hb
     exact⟨_,_,fM h,(by simp [binOp,Op.intDiv,hn]),AVR.int⟩)
  | cases h
theorem Ft {op:BinOp}{t:TypeId}{x y:List UInt8}{u:Upd}(h:kr E op t (.one (.str x)) (.one (.str y)) some=some u):
 ∃v val,u=Upd.pure v∧(binOp op t (.string ⟨x.toArray⟩) (.string ⟨y.toArray⟩)).run P w=.ok val w∧AVR E w F ρ v val (fun _=>none):=by
 by_cases ha:op=.add
 rotate_left
 · cases op<;>simp only [kr]at h
   all_goals first
    | exact absurd rfl ha
    | exact⟨_,_,iQ h,(by simp only [binOp,Op.stringOp,pk,oY,Sem.run_pure]),AVR.bool⟩
    | (cases h;done)
 subst ha
 obtain⟨hb,h⟩:=ab h
 have hl:x.length+y.length≤LIM:=by simpa [cb]using hb
 refine⟨_,.string ⟨(app x y).toArray⟩,ofK h, ?_,.one _ _ _ (.str _) fun _ _=>rfl⟩
 have:¬(((⟨x.toArray⟩:ByteArray).size+(⟨y.toArray⟩:ByteArray).size:Nat):Int)>IntKind.i64.max:=by
  simp only [ByteArray.size,List.size_toArray,IntKind.max_i64]
  unfold LIM at hl
  omega
 simp only [binOp,Op.stringOp,this,if_false,Sem.run_pure,ba]
 congr 2
theorem AZ (G:Good P E){op:BinOp}{t:TypeId}{b:Bool}{e:TypeId}{rows:Rows}{vx vy:Value}{ox oy:aH}(hx:AR E w F ρ (.sl b e rows) vx ox)(hy:AR E w F ρ .nils vy oy){u:Upd}
 (h:kr E op t (.one (.sl b e rows)) (.one .nils) some=some u):∃v val,u=Upd.pure v∧(binOp op t vx vy).run P w=.ok val w∧AVR E w F ρ v val (fun _=>none):=by
 simp only [kr]at h
 cases ht:E.tys t with
 | none=>simp [ht]at h
 | some ty=>
  rw [ht]at h
  dsimp only at h
  cases hd:ty.desc with
  | slice e'=>
   rw [hd]at h
   dsimp only at h
   have hu:=bl (G.ty t ty ht) hd
   cases rows with
   | nil=>simp [el]at h
   | cons r rs=>
    simp only [el,cond_false]at h
    have hv:∃a n c,vx=.slice (some a) n c:=by
     cases hx with
     | sl _ _ _ h=>cases h;exact⟨_,_,_,rfl⟩
     | full _ _ _ _ h=>cases h;exact⟨_,_,_,rfl⟩
     | own=>exact⟨_,_,_,rfl⟩
    obtain⟨a,n,c,rfl⟩:=hv
    cases hy
    have hq:=run_equal_slice_nil (P:=P) w t e' (some a) n c hu
    by_cases h1:op=.eql
    · subst h1
      refine⟨_,_,iQ h, ?_,AVR.bool⟩
      show(do pure (.bool (←Op.equal t (.slice (some a) n c) (.slice none 0 0))):Sem Value).run P w=_
      rw [Sem.run_bind,hq]
      rfl
    · by_cases h2:op=.neq
      · subst h2
        refine⟨_,_,iQ h, ?_,AVR.bool⟩
        show(do pure (.bool (!(←Op.equal t (.slice (some a) n c) (.slice none 0 0)))):Sem Value).run P w=_
        rw [Sem.run_bind,hq]
        rfl
      · cases op<;>first | exact absurd rfl h1 | exact absurd rfl h2 | cases h
  | _=>rw [hd]at h;simp at h
theorem Fj (G:Good P E)(op:BinOp)(t:TypeId)(ox oy:Operand){x y:AV}{vx vy:Value}{px py:aS}(hx:AVR E w F ρ x vx px)(hy:AVR E w F ρ y vy py){u:Upd}(h:kr E op t x y some=some u):
 ∃v val,u=Upd.pure v∧(do eqGuard op t ox oy vx vy;binOp op t vx vy:Sem Value).run P w=.ok val w∧AVR E w F ρ v val (fun _=>none):=by
 cases x with
 | undef=>cases y<;>simp [kr]at h
 | tup l=>cases y<;>simp [kr]at h
 | agg l=>cases y with
  | undef=>simp [kr]at h
  | one c=>simp [kr]at h
  | tup l=>simp [kr]at h
  | agg l'=>
   simp only [kr]at h
   cases ht:E.tys t with
   | none=>simp [ht]at h
   | some ty=>
    rw [ht]at h
    dsimp only at h
    cases hq:ty.eq with
    | false=>rw [hq]at h;cases h
    | true=>
    rw [hq]at h
    simp only [cond_true]at h
    cases he:eqL ty.kinds l l' with
    | none=>rw [he]at h;cases op<;>simp at h
    | some p=>
     obtain⟨p1,p2⟩:=FD he
     obtain⟨g1,g2⟩:=G.eqs t ty l l' p ht hq he
     have e1:=vF hx p1
     have e2:=vF hy p2
     subst e1 e2
     rw [he]at h
     cases op<;>simp at h
     · refine⟨_,.bool p,iQ h, ?_,AVR.bool⟩
       simp [eqGuard,g1,binOp,g2]
     · refine⟨_,.bool (!p),iQ h, ?_,AVR.bool⟩
       simp [eqGuard,g1,binOp,g2]
 | one c=>cases y with
  | undef=>cases c<;>simp [kr]at h
  | agg l=>cases c<;>simp [kr]at h
  | tup l=>cases c<;>simp [kr]at h
  | one d=>
   have hcx:=hx.get_one
   have hcy:=hy.get_one
   have hg:=vd op t ox oy (u:=vy) hcx
   rw [hg]
   simp only [Sem.run_bind,Sem.run_pure,Result.andThen_ok]
   have hgen:((∀k n,c≠ .int k n)∨(∀k n,d≠ .int k n))→((∀s,c≠ .str s)∨(∀s,d≠ .str s))→((∀b e r,c≠ .sl b e r)∨d≠ .nils)→kr E op t (.one c) (.one d) some=Nu E t op c d:=by
    intro n1 n2 n3
    cases c<;>cases d<;>first | rfl | (exfalso;rcases n1 with n | n<;>exact n _ _ rfl) | (exfalso;rcases n2 with n | n<;>exact n _ rfl) | (exfalso;rcases n3 with n | n;exact n _ _ _ rfl;exact n rfl)
   by_cases hi:(∃k n,c=.int k n)∧(∃k n,d=.int k n)
   · obtain⟨⟨k,n,rfl⟩,⟨k',n',rfl⟩⟩:=hi
     rw [hcx.inv_int,hcy.inv_int]
     exact EE h
   · by_cases hs:(∃s,c=.str s)∧(∃s,d=.str s)
     · obtain⟨⟨s,rfl⟩,⟨s',rfl⟩⟩:=hs
       rw [hcx.inv_str,hcy.inv_str]
       exact Ft h
     · by_cases hsl:(∃b e r,c=.sl b e r)∧d=.nils
       · obtain⟨⟨b,e,r,rfl⟩,rfl⟩:=hsl
         exact AZ G hcx hcy h
       rw [hgen (by
        by_cases e:∃k n,c=.int k n
        · exact .inr fun k n e2=>hi ⟨e,k,n,e2⟩
        · exact .inl fun k n e2=>e ⟨k,n,e2⟩) (by
        by_cases e:∃s,c=.str s
        · exact .inr fun s e2=>hs ⟨e,s,e2⟩
        · exact .inl fun s e2=>e ⟨s,e2⟩) (by
        by_cases e:∃b e r,c=.sl b e r
        · exact .inr fun e2=>hsl ⟨e,e2⟩
        · exact .inl fun b e1 r e2=>e ⟨b,e1,r,e2⟩)]at h
       exact E4 G hcx hcy h
end Go.Abs
namespace Go.Abs
variable {E:Env} {P:Program} {R:aG} {ρ:List Nat} {own:OI→aH} {N:Nat} {st:St} {a:Act} {w:World} {F:aG}
def us (s:Nat)(rows:Rows):Prop:=∀r∈rows,r.length=s
theorem bS {te:Ty}{rows:Rows}(hl:te.kinds.length=te.size)(h:∀r∈rows,r.map Cell.kind=te.kinds):us te.size rows:=by
 intro r hr
 have:=congrArg List.length (h r hr)
 simpa [hl]using this
theorem bJ {s:Nat}:∀{rows:Rows},us s rows→rows.flatten.length=rows.length*s
 | [],_=>by simp
 | r::rs,h=>by
  have h1:=h r (by simp)
  have h2:=bJ (rows:=rs) fun x hx=>h x (by simp [hx])
  simp only [List.flatten_cons,List.length_append,List.length_cons,h1,h2,Nat.succ_mul]
  omega
theorem kf {s:Nat}:∀{rows:Rows} (n:Nat),us s rows→(rows.drop n).flatten=rows.flatten.drop (n*s)
 | rows,0,_=>by simp
 | [],n+1,_=>by simp
 | r::rs,n+1,h=>by
  have h1:=h r (by simp)
  have h2:=kf (rows:=rs) n fun x hx=>h x (by simp [hx])
  simp only [List.drop_succ_cons,h2,List.flatten_cons,Nat.succ_mul]
  rw [List.drop_append,h1]
  simp [←h1]
theorem kc {s:Nat}:∀{rows:Rows} (n:Nat),us s rows→(rows.take n).flatten=rows.flatten.take (n*s)
 | rows,0,_=>by simp
 | [],n+1,_=>by simp
 | r::rs,n+1,h=>by
  have h1:=h r (by simp)
  have h2:=kc (rows:=rs) n fun x hx=>h x (by simp [hx])
  simp only [List.take_succ_cons,h2,List.flatten_cons,Nat.succ_mul]
  rw [List.take_append,h1]
  have:n*s+s - s=n*s:=by omega
  rw [this,List.take_of_length_le (l:=r) (by omega)]
theorem gv {s:Nat}{rows:Rows}(h:us s rows){i j:Nat}(hi:i<rows.length)(hj:j<s):∃(h1:i*s+j<rows.flatten.length) (h2:j<rows[i].length),rows.flatten[i*s+j]=rows[i][j]:=by
 have hl:=bJ h
 have h0:=h _ (List.getElem_mem hi)
 have hle:i*s+s≤rows.length*s:=by
  have:=Nat.mul_le_mul_right s (Nat.succ_le_of_lt hi)
  rwa [Nat.succ_mul]at this
 refine⟨by rw [hl];omega,by rw [h0];exact hj, ?_⟩
 have e:(rows.drop i).flatten=rows.flatten.drop (i*s):=kf i h
 have e2:rows.drop i=rows[i]::rows.drop (i+1):=List.drop_eq_getElem_cons hi
 rw [e2,List.flatten_cons]at e
 have h1:i*s+j<rows.flatten.length:=by rw [hl];omega
 have h3:j<(rows.flatten.drop (i*s)).length:=by rw [List.length_drop,hl];omega
 have h4:(rows.flatten.drop (i*s))[j]=rows.flatten[i*s+j]:=List.getElem_drop ..
 rw [←h4]
 have h5:(rows[i]++(rows.drop (i+1)).flatten)[j]'(by rw [e];exact h3)=rows[i][j]'(by omega):=List.getElem_append_left _
 rw [←h5]
 congr 1
 exact e.symm
theorem cg :∀{rows:Rows} {i:Nat} (h:i<rows.length),rA rows i=rows[i]
 | [],i,h=>by simp at h
 | r::rs,0,_=>rfl
 | r::rs,i+1,h=>cg (rows:=rs) (by simpa using h)
theorem wY :∀{row:Row} {j:Nat} (h:j<row.length),dV row j=row[j]
 | [],j,h=>by simp at h
 | c::r,0,_=>rfl
 | c::r,j+1,h=>wY (row:=r) (by simpa using h)
theorem cM (B off n:Nat):(⟨B,off,none⟩:Addr).add n=⟨B,off+n,none⟩:=Addr.add_lit B off n
theorem KY (k:IntKind)(n:Int)(w:World):(Op.unary .xor (.int k n)).run P w=.ok (.int k (m7 k (cond k.signed (-1) k.max) n)) w:=by
 cases k<;>rfl
theorem Js {op:UnOp}{x:AV}{vx:Value}{px:aS}(hx:AVR E w F ρ x vx px){u:Upd}(h:unK op x some=some u):
 ∃v val,u=Upd.pure v∧(Op.unary op vx).run P w=.ok val w∧AVR E w F ρ v val (fun _=>none):=by
 cases x with
 | one c=>
  cases c<;>cases op<;>simp only [unK]at h
  all_goals first
   | (cases h;done)
   | (rw [hx.get_int];exact⟨_,_,fM h,KY _ _ _,AVR.int⟩)
   | (rw [hx.get_int];exact⟨_,_,fM h,(by simp [Op.unary,Op.intArith];done),AVR.int⟩)
   | (rw [hx.get_bool];exact⟨_,_,iQ h,(by simp [Op.unary]),AVR.bool⟩)
 | undef=>cases op<;>simp [unK]at h
 | agg l=>cases op<;>simp [unK]at h
 | tup l=>cases op<;>simp [unK]at h
theorem rV {α β:Type}(f:α→β):∀(l:List α) (n:Nat),nth (l.map f) n=(nth l n).map f
 | [],n=>by simp [nth]
 | x::r,0=>rfl
 | x::r,n+1=>rV f r n
theorem ng (G:Good P E){s:TypeId}{f off:Nat}{tf:Ty}(h:fieldAt E s f=some (off,tf)):
 ∃fields fld,P.underlying s=some (.struct fields)∧fields[f]? =some fld∧fld.offset=off∧E.tys fld.type=some tf:=by
 unfold fieldAt at h
 cases h1:E.tys s with
 | none=>simp [h1]at h
 | some ty=>
  simp only [h1]at h
  cases hd:ty.desc<;>simp only [hd]at h<;>try cases h
  rename_i fs
  obtain⟨fields,h2,h3⟩:=mp (G.ty _ _ h1) hd
  cases h4:nth fs f with
  | none=>simp [h4]at h
  | some p=>
   obtain⟨o,ft⟩:=p
   simp only [h4]at h
   cases h5:E.tys ft with
   | none=>simp [h5]at h
   | some tf'=>
    simp only [h5]at h
    cases h
    rw [←h3,rV,aY]at h4
    cases h6:fields.toList[f]? with
    | none=>simp [h6]at h4
    | some fld=>
     simp only [h6,Option.map_some]at h4
     cases h4
     exact⟨fields,fld,h2,by simpa using h6,rfl,h5⟩
theorem rG (G:Good P E){s:TypeId}{f:Nat}{x:AV}{vx:Value}{px:aS}(hx:AVR E w F ρ x vx px){u:Upd}(h:hP E s x f some=some u):
 ∃v val,u=Upd.pure v∧(Instr.fieldAt s vx f).run P w=.ok val w∧AVR E w F ρ v val (fun _=>none):=by
 unfold hP at h
 cases h1:fieldAt E s f with
 | none=>simp [h1]at h
 | some q=>
  obtain⟨off,tf⟩:=q
  simp only [h1]at h
  obtain⟨fields,fld,g1,g2,g3,g4⟩:=ng G h1
  have hsz:=(G.ty _ _ g4).run_size (w:=w)
  have hpos:=(G.ty _ _ g4).pos
  have key:∀(B o:Nat),(Instr.fieldAt s (.pointer (some ⟨B,o,none⟩)) f).run P w=.ok (.pointer (some ⟨B,o+off,none⟩)) w:=by
   intro B o
   simp only [Instr.fieldAt,Sem.run_bind,run_underlying g1,Result.andThen_ok,g2,Instr.sureAddr,Sem.run_pure,fieldPlace,hsz]
   rw [if_neg (by omega)]
   simp only [Sem.run_pure,Result.andThen_ok,g3,cM]
  cases x with
  | one c=>
   cases c with
   | ptr b o=>
    obtain⟨B,hB,rfl⟩:=hx.get_one.inv_ptr
    exact⟨_,_,ofK h,key B o,.of (.ptr _ _ _ hB)⟩
   | eptr e row o=>
    have:=hx.get_one
    generalize px []=q at this
    cases this with
    | eptr _ _ _ te B off' g he hk hm hr=>
     have e:=Nat.add_assoc off' o off
     refine⟨_,_,ofK h,key B (off'+o), ?_⟩
     rw [e]
     exact .of (.eptr _ _ _ te B off' g he hk hm hr)
   | mptr b e i o=>
    have:=hx.get_one
    generalize px []=q at this
    cases this with
    | mptr _ _ _ _ te B hB he=>
     have e:=Nat.add_assoc (i*te.size) o off
     refine⟨_,_,ofK h,key B (i*te.size+o), ?_⟩
     rw [e]
     exact .of (.mptr _ _ _ _ te B hB he)
   | _=>simp at h
  | _=>simp at h
def q9 (agg:Bool)(o:Nat→aH):aS
 | []=>if agg then none else o 0
 | [i]=>if agg then o i else none
 | _=>none
theorem kg (G:Good P E){t:TypeId}{ty:Ty}(ht:E.tys t=some ty){l:List AC}{g:Nat→Value}{o:Nat→aH}{v:AV}(hl:l.length=ty.size)(h:∀(i:Nat) (hi:i<l.length),AR E w F ρ l[i] (g i) (o i))
 (ho:∀i,l.length≤i→o i=none) {r:Option AV} (hv:dg ty l some=r) (hr:r=some v):
 AVR E w F ρ v (if ty.desc.isAgg then .agg ((List.range ty.size).map g).toArray else g 0) (q9 ty.desc.isAgg o):=by
 have hT:=G.ty t ty ht
 subst hr
 unfold dg at hv
 cases hd:ty.desc.isAgg with
 | true=>
  rw [hd]at hv
  simp only [Option.some.injEq]at hv
  subst hv
  simp only [if_true]
  have:=AVR.agg (E:=E) (w:=w) (F:=F) (ρ:=ρ) l g (q9 true o) (fun i hi=>h i hi) (fun p hp=> ?_)
  · rwa [hl]at this
  · cases p with
    | nil=>rfl
    | cons i p=>cases p with
     | nil=>
      rcases Nat.lt_or_ge i l.length with hi | hi
      · exact absurd rfl (hp i hi)
      · exact ho i hi
     | cons j p=>rfl
 | false=>
  rw [hd]at hv
  cases l with
  | nil=>simp at hv
  | cons c r=>cases r with
   | nil=>
    simp only [Option.some.injEq]at hv
    subst hv
    simp only [Bool.false_eq_true,if_false]
    exact .one _ _ _ (h 0 (by simp)) fun p hp=>by
     cases p with
     | nil=>exact absurd rfl hp
     | cons i p=>cases p<;>rfl
   | cons d r=>simp at hv
theorem FA (G:Good P E){t ty0:TypeId}{x:AV}{vx:Value}{px:aS}(hx:AVR E w F ρ x vx px){u:Upd}(h:ES E t x some=some u):
 ∃v val,u=Upd.pure v∧(Builtin.len_ #[t] ty0 #[vx]).run P w=.ok val w∧AVR E w F ρ v val (fun _=>none):=by
 unfold ES at h
 cases h1:E.tys t with
 | none=>simp [h1]at h
 | some ty=>
  simp only [h1]at h
  have hsl:∀e,ty.desc=.slice e→∀a n c,(Builtin.len_ #[t] ty0 #[.slice a n c]).run P w=.ok (.int .i64 n) w:=by
   intro e hd a n c
   simp [Builtin.len_,run_underlying (bl (G.ty _ _ h1) hd),goInt]
  split at h<;>try (cases h;done)
  · rename_i hd
    have:=hx.get_one
    generalize px []=q at this
    refine⟨_,_,fM h, ?_,AVR.int⟩
    cases this with
    | sl e rows v hc=>cases hc<;>exact hsl _ hd _ _ _
    | full e rows a n hc=>cases hc<;>exact hsl _ hd _ _ _
    | own e rows te B off len cap hc=>cases hc<;>exact hsl _ hd _ _ _
  · rename_i hd
    have:=hx.get_one
    generalize px []=q at this
    refine⟨_,_,fM h, ?_,AVR.int⟩
    cases this
    exact hsl _ hd _ _ _
  · rename_i hd
    have:=hx.get_one
    generalize px []=q at this
    refine⟨_,_,fM h, ?_,AVR.int⟩
    rw [bq]
    cases this
    exact hsl _ hd _ _ _
  · rename_i s hd
    rw [hx.get_str]
    refine⟨_,_,fM h, ?_,AVR.int⟩
    have hk:∀b:ByteArray,(Builtin.len_ #[t] ty0 #[.string b]).run P w=.ok (.int .i64 b.size) w:=by
     intro b
     simp [Builtin.len_,run_underlying (gp (G.ty _ _ h1) hd),goInt]
    rw [hk]
    rfl
  · rename_i n hd
    have:=hx.get_one
    generalize px []=q at this
    refine⟨_,_,fM h, ?_,AVR.int⟩
    cases this with
    | msl=>exact hsl _ hd _ _ _
    | mnil=>exact hsl _ hd _ _ _
  · rename_i n _ hd
    have:=hx.get_one
    generalize px []=q at this
    refine⟨_,_,fM h, ?_,AVR.int⟩
    cases this with
    | win=>exact hsl _ hd _ _ _
end Go.Abs
namespace Go.Abs
variable {E:Env} {P:Program} {R:aG} {ρ:List Nat} {own:OI→aH} {N:Nat} {st:St} {a:Act} {w:World} {F:aG}
theorem AR.inv_sl {o:Bool}{e:TypeId}{rows:Rows}{v:Value}{q:aH}(h:AR E w F ρ (.sl o e rows) v q):CR E w F (.slice e rows) v:=by
 cases h with
 | sl e rows v h=>exact h
 | full e rows a n h=>exact h
 | own e rows te B off len cap h=>exact h
theorem CR.inv_slice {e:TypeId}{rows:Rows}{v:Value}(h:CR E w F (.slice e rows) v):∃a cap,v=.slice a rows.length cap:=by
 cases h with
 | empty=>exact⟨_,_,rfl⟩
 | slice=>exact⟨_,_,rfl⟩
theorem Kp (G:Good P E){e:TypeId}{rows:Rows}{te:Ty}{B off:Nat}{g:Nat→Value}(he:E.tys e=some te)(hk:∀r∈rows,r.map Cell.kind=te.kinds)
 (hm:∀i,i<rows.flatten.length→cell w B (off+i)=some (g i)∧¬F B (off+i)) (hr:∀(i:Nat) (h:i<rows.flatten.length),CR E w F rows.flatten[i] (g i)) {i:Nat} (hi:i<rows.length):
 (∀j,j<rows[i].length→cell w B (off+i*te.size+j)=some (g (i*te.size+j))∧¬F B (off+i*te.size+j))∧∀(j:Nat) (h:j<rows[i].length),CR E w F rows[i][j] (g (i*te.size+j)):=by
 have hE:=bS (G.ty _ _ he).len hk
 have hs:rows[i].length=te.size:=hE _ (List.getElem_mem hi)
 refine⟨fun j hj=> ?_,fun j hj=> ?_⟩
 · obtain⟨h1,_,_⟩:=gv hE hi (by omega:j<te.size)
   have:=hm _ h1
   rwa [show off+(i*te.size+j)=off+i*te.size+j by omega]at this
 · obtain⟨h1,h2,h3⟩:=gv hE hi (by omega:j<te.size)
   have:=hr _ h1
   rwa [h3]at this
theorem rQ (G:Good P E){t:TypeId}{x i:AV}{vx vi:Value}{px pi:aS}(hx:AVR E w F ρ x vx px)(hi:AVR E w F ρ i vi pi){u:Upd}(h:gS E t x i some=some u):
 ∃v val,u=Upd.pure v∧(Instr.indexAt t vx vi).run P w=.ok val w∧AVR E w F ρ v val (fun _=>none):=by
 unfold gS at h
 cases h1:E.tys t with
 | none=>simp [h1]at h
 | some ty=>
  simp only [h1]at h
  split at h<;>try (cases h;done)
  · rename_i o e rows k n
    cases hd:ty.desc<;>simp only [hd]at h<;>try cases h
    rename_i e'
    obtain⟨hb,hA⟩:=ab h
    clear h
    have:=Nat.eq_of_beq_eq_true hb
    subst this
    obtain⟨hb2,h⟩:=ab hA
    have hb':0≤n∧n<rows.length:=by simpa [inB]using hb2
    have hlt:n.toNat<rows.length:=by omega
    rw [hi.get_int]
    have hc:=hx.get_one.inv_sl
    have hu:=bl (G.ty _ _ h1) hd
    cases hc with
    | empty=>simp at hlt
    | slice _ _ te B off cap g he hk hc hm hr=>
     have hsz:=(G.ty _ _ he).run_size (w:=w)
     refine⟨_,.pointer (some ⟨B,off+n.toNat*te.size,none⟩),ofK h, ?_,.of ?_⟩
     · simp only [Instr.indexAt,asIntOf,Sem.run_bind,Sem.run_pure,Result.andThen_ok,run_underlying hu,hb',and_self,if_true,hsz,cM]
       try (by_cases hl:rows.length≤1<;>simp [hl])
     · obtain⟨h2,h3⟩:=Kp G he hk hm hr hlt
       rw [cg hlt]
       have:=AR.eptr (E:=E) (w:=w) (F:=F) (ρ:=ρ) e rows[n.toNat] 0 te B (off+n.toNat*te.size) (fun j=>g (n.toNat*te.size+j)) he (hk _ (List.getElem_mem hlt)) h2 h3
       simpa using this
  · rename_i l k n
    cases hd:ty.desc<;>simp only [hd]at h<;>try cases h
    rename_i e
    cases h2:E.tys e with
    | none=>simp [h2]at h
    | some te=>
     simp only [h2]at h
     obtain⟨hb,h⟩:=ab h
     have hs1:te.size=1:=Nat.eq_of_beq_eq_true hb
     obtain⟨hb2,h⟩:=ab h
     have hb':0≤n∧n<l.length:=by simpa [inB,bq]using hb2
     have hlt:n.toNat<l.length:=by omega
     rw [aY,List.getElem?_eq_getElem hlt]at h
     simp only at h
     rw [hi.get_int]
     have hu:=bl (G.ty _ _ h1) hd
     have hsz:=(G.ty _ _ h2).run_size (w:=w)
     have:=hx.get_one
     generalize px []=q at this
     cases this with
     | refs _ B off cap g hc hm hr=>
      refine⟨_,.pointer (some ⟨B,off+n.toNat,none⟩),ofK h, ?_,.of (.aptr _ B _ (g n.toNat) (hm _ hlt) (hr _ hlt))⟩
      simp only [Instr.indexAt,asIntOf,Sem.run_bind,Sem.run_pure,Result.andThen_ok,run_underlying hu,hb',and_self,if_true,hsz,hs1,Nat.mul_one,cM]
      try (by_cases hl:l.length≤1<;>simp [hl])
  · rename_i b o k n
    cases hd:ty.desc<;>simp only [hd]at h<;>try cases h
    rename_i len e
    cases h2:E.tys e with
    | none=>simp [h2]at h
    | some te=>
     simp only [h2]at h
     obtain⟨hb2,h⟩:=ab h
     have hb':0≤n∧n<len:=by simpa [inB]using hb2
     rw [hi.get_int]
     obtain⟨B,hB,rfl⟩:=hx.get_one.inv_ptr
     have hu:=kH (G.ty _ _ h1) hd
     have hsz:=(G.ty _ _ h2).run_size (w:=w)
     refine⟨_,.pointer (some ⟨B,o+n.toNat*te.size,none⟩),ofK h, ?_,.of (.ptr _ _ _ hB)⟩
     simp only [Instr.indexAt,asIntOf,Sem.run_bind,Sem.run_pure,Result.andThen_ok,run_underlying hu,Instr.sureAddr,hb',and_self,if_true,hsz,cM]
     try (by_cases hl:len≤1<;>simp [hl])
  · rename_i e b m k n
    cases hd:ty.desc<;>simp only [hd]at h<;>try cases h
    rename_i e'
    obtain⟨hb,hA⟩:=ab h
    clear h
    have:=Nat.eq_of_beq_eq_true hb
    subst this
    obtain⟨hb2,h⟩:=ab hA
    have hb':0≤n∧n<m:=by simpa [inB]using hb2
    rw [hi.get_int]
    have hu:=bl (G.ty _ _ h1) hd
    have:=hx.get_one
    generalize px []=q at this
    cases this with
    | mnil=>omega
    | msl _ _ _ te B cap hB he h0 hn hm hs=>
     have hsz:=(G.ty _ _ he).run_size (w:=w)
     refine⟨_,.pointer (some ⟨B,n.toNat*te.size,none⟩),ofK h, ?_,.of ?_⟩
     · simp only [Instr.indexAt,asIntOf,Sem.run_bind,Sem.run_pure,Result.andThen_ok,run_underlying hu,hb',and_self,if_true,hsz,cM,Nat.zero_add]
       try (by_cases hl:m≤1<;>simp [hl])
     · exact .mptr b e n.toNat 0 te B hB he
  · rename_i e b lo m c k n
    cases hd:ty.desc<;>simp only [hd]at h<;>try cases h
    rename_i e'
    obtain⟨hb,hA⟩:=ab h
    clear h
    have:=Nat.eq_of_beq_eq_true hb
    subst this
    obtain⟨hb2,h⟩:=ab hA
    have hb':0≤n∧n<m:=by simpa [inB]using hb2
    rw [hi.get_int]
    have hu:=bl (G.ty _ _ h1) hd
    have:=hx.get_one
    generalize px []=q at this
    cases this with
    | win _ _ _ _ _ te B off cap hB he hn hc ho hs=>
     have hsz:=(G.ty _ _ he).run_size (w:=w)
     have hoff:=ho (by omega)
     refine⟨_,.pointer (some ⟨B,off+n.toNat*te.size,none⟩),ofK h, ?_,.of ?_⟩
     · simp only [Instr.indexAt,asIntOf,Sem.run_bind,Sem.run_pure,Result.andThen_ok,run_underlying hu,hb',and_self,if_true,hsz,cM]
       try (by_cases hl:m≤1<;>simp [hl])
     · have:=AR.mptr (E:=E) (w:=w) (F:=F) (ρ:=ρ) b e (lo+n.toNat) 0 te B hB he
       rw [hoff,←Nat.add_mul]
       exact this
theorem DB {l:List AC}{v:Value}{o:aS}(h:AVR E w F ρ (.agg l) v o):∃g:Nat→Value,v=.agg ((List.range l.length).map g).toArray∧∀(i:Nat) (hi:i<l.length),AR E w F ρ l[i] (g i) (o [i]):=by
 cases h with | agg l g o h ho=>exact⟨g,rfl,h⟩
theorem uX (g:Nat→Value)(n o s:Nat)(h:o+s≤n):(((List.range n).map g).toArray).extract o (o+s)=((List.range s).map fun i=>g (o+i)).toArray:=by
 apply Array.ext'
 simp only [List.extract_toArray,List.extract_eq_take_drop]
 apply List.ext_getElem
 · simp;omega
 · intro i h1 h2
   simp
theorem Cy (G:Good P E){t:TypeId}{tf:Ty}(g4:E.tys t=some tf){l:List AC}{vx:Value}{px:aS}(hx:AVR E w F ρ (.agg l) vx px){off:Nat}{u:Upd}(h:(lw l off tf.size fun cs=>dg tf cs fun v=>cd v.dis some)=some u):
 ∃v val cs,u=Upd.pure v∧vx=.agg cs∧(part t cs off).run P w=.ok val w∧AVR E w F ρ v val (fun _=>none):=by
 have hT:=G.ty _ _ g4
 have hpos:=hT.pos
 obtain⟨h2,h3⟩:=gN h
 have hle:off+tf.size≤l.length:=by omega
 obtain⟨g,rfl,hg⟩:=DB hx
 have hlen:((l.drop off).take tf.size).length=tf.size:=by simp;omega
 cases hv:dg tf ((l.drop off).take tf.size) some with
 | none=>
  exfalso
  unfold dg at hv h3
  cases hd:tf.desc.isAgg with
  | true=>simp [hd]at hv
  | false=>
   simp only [hd]at hv h3
   split at h3
   · simp_all
   · simp_all
   · cases h3
 | some v=>
  have h4:cd v.dis some=some u:=by
   unfold dg at hv h3
   cases hd:tf.desc.isAgg with
   | true=>simp only [hd]at hv h3;cases hv;exact h3
   | false=>
    simp only [hd]at hv h3
    split at h3
    · simp_all
    · rename_i c e1 e2;rw [e2]at hv;simp at hv;subst hv;exact h3
    · cases h3
  have hrel:=kg G g4 (g:=fun i=>g (off+i)) (o:=fun i=>if i<tf.size then px [off+i]else none) hlen (fun i hi=>by
   have hi':i<tf.size:=by omega
   simp only [hi',if_true,List.getElem_take,List.getElem_drop]
   exact hg (off+i) (by omega)) (fun i hi=>by rw [if_neg (by omega)]) hv rfl
  refine⟨_,_,_,ofK h4,rfl, ?_,hrel.dis⟩
  simp only [part,Sem.run_bind,hT.run_isAgg,Result.andThen_ok]
  cases hd:tf.desc.isAgg with
  | true=>
   simp only [if_true,Sem.run_bind,hT.run_size,Result.andThen_ok,Sem.run_pure]
   rw [uX _ _ _ _ hle]
  | false=>
   have hl0:off<l.length:=by omega
   simp [hl0]
theorem zh (G:Good P E){s:TypeId}{f:Nat}{x:AV}{vx:Value}{px:aS}(hx:AVR E w F ρ x vx px){u:Upd}(h:pL E s x f some=some u):
 ∃v val,u=Upd.pure v∧(Instr.field s vx f).run P w=.ok val w∧AVR E w F ρ v val (fun _=>none):=by
 unfold pL at h
 cases h1:fieldAt E s f with
 | none=>simp [h1]at h
 | some q=>
  obtain⟨off,tf⟩:=q
  simp only [h1]at h
  obtain⟨fields,fld,g1,g2,g3,g4⟩:=ng G h1
  cases x with
  | agg l=>
   obtain⟨v,val,cs,h5,rfl,h6,h7⟩:=Cy G g4 hx h
   refine⟨v,val,h5, ?_,h7⟩
   simp only [Instr.field,Sem.run_bind,run_underlying g1,Result.andThen_ok,g2,asAgg,Sem.run_pure,g3]
   exact h6
  | _=>simp at h
theorem J6 {j k:IntKind}(h:IntKind.same k j=true):j=k:=by cases j<;>cases k<;>first | rfl | cases h
theorem wb {k:IntKind}:∀(l:List AC) (n:Nat),uL k l=true→(h:n<l.length)→l[n]=.int k (wW l n)
 | [],_,_,h=>absurd h (by simp)
 | a::r,n,ha,h=>by
  cases a with
  | int j m=>
   unfold uL at ha
   cases hs:IntKind.same k j with
   | false=>simp [hs]at ha
   | true=>
    simp only [hs,cond_true]at ha
    cases n with
    | zero=>simp [wW,J6 hs]
    | succ n=>simpa [wW]using wb r n ha (by simpa using h)
  | _=>simp [uL]at ha
theorem At (G:Good P E){t:TypeId}{x i:AV}{vx vi:Value}{px pi:aS}(hx:AVR E w F ρ x vx px)(hi:AVR E w F ρ i vi pi){u:Upd}(h:qg E t x i some=some u):
 ∃v val,u=Upd.pure v∧(Instr.index t vx vi).run P w=.ok val w∧AVR E w F ρ v val (fun _=>none):=by
 unfold qg at h
 split at h<;>try (cases h;done)
 rotate_left
 · rename_i l k n
   cases h1:E.tys t with
   | none=>simp [h1]at h
   | some ty=>
    simp only [h1]at h
    cases hd:ty.desc<;>simp only [hd]at h<;>try cases h
    rename_i len e
    cases h2:E.tys e with
    | none=>simp [h2]at h
    | some te=>
     simp only [h2]at h
     cases hd2:te.desc<;>simp only [hd2]at h<;>try cases h
     rename_i k2
     obtain⟨hc,h⟩:=ab h
     simp only [Bool.and_eq_true]at hc
     obtain⟨hb,h⟩:=ab h
     have hb':0≤n∧n<len:=by simpa [inB]using hb
     have hz:=Nat.eq_of_beq_eq_true hc.1
     have hl:=Nat.eq_of_beq_eq_true hc.2.1
     rw [bq]at hl
     have hT:=G.ty _ _ h2
     obtain⟨g,rfl,hg⟩:=DB hx
     have hlt:n.toNat<l.length:=by omega
     have hi2:=wb l n.toNat hc.2.2 hlt
     have hv:=hg n.toNat hlt
     rw [hi2]at hv
     generalize px [n.toNat]=q at hv
     have hgv:g n.toNat=.int k2 (wW l n.toNat):=hv.inv_int
     rw [hi.get_int]
     refine⟨_,_,fM h, ?_,AVR.int⟩
     simp only [Instr.index,asIntOf,Sem.run_bind,Sem.run_pure,Result.andThen_ok,run_underlying (kH (G.ty _ _ h1) hd),hb'.1,hb'.2,and_self,if_true,hT.run_size,part,hT.run_isAgg,hd2,TD.isAgg,hz,Nat.mul_one]
     simp [hlt,hgv]
 rename_i s k n
 cases h1:E.tys t with
 | none=>simp [h1]at h
 | some ty=>
  simp only [h1]at h
  cases hd:ty.desc<;>simp only [hd]at h<;>try cases h
  obtain⟨hb,h⟩:=ab h
  have hb':0≤n∧n<s.length:=by simpa [inB]using hb
  rw [hx.get_str,hi.get_int]
  refine⟨_,_,fM h, ?_,AVR.int⟩
  have hlt:n.toNat<s.length:=by omega
  have:(⟨s.toArray⟩:ByteArray)[n.toNat]? =some s[n.toNat]:=by
   rw [getElem?_pos _ _ (by simpa [ByteArray.size]using hlt)];rfl
  simp only [Instr.index,asIntOf,Sem.run_bind,Sem.run_pure,Result.andThen_ok,run_underlying (gp (G.ty _ _ h1) hd),hb'.1,if_true,this]
  simp [List.getD,List.getElem?_eq_getElem hlt]
theorem pm (G:Good P E){e:TypeId}{rows:Rows}{a:Option Addr}{len cap l h m:Nat}(hc:CR E w F (.slice e rows) (.slice a len cap)){te:Ty}(he:E.tys e=some te)(h1:l≤h)(h2:h≤rows.length)(h3:h≤m):
 CR E w F (.slice e (dA rows l h)) (.slice (if m=l then a else a.map (·.add (l*te.size))) (h - l) (m - l)):=by
 have hlen:(dA rows l h).length=h - l:=by simp [dA,aN,bp];omega
 by_cases hz:h=l
 · have:dA rows l h=[]:=List.eq_nil_of_length_eq_zero (by omega)
   rw [this,hz,Nat.sub_self]
   exact .empty _ _ _
 · cases hc with
   | empty=>simp at h2;omega
   | slice _ _ te' B off cap g he' hk hc hm hr=>
    rw [he]at he'
    cases he'
    have hE:=bS (G.ty _ _ he).len hk
    rw [if_neg (by omega)]
    simp only [Option.map_some,cM]
    rw [←hlen]
    have hsub:∀r∈dA rows l h,r∈rows:=fun r hr=>by
     simp only [dA,aN,bp]at hr
     exact List.mem_of_mem_take (List.mem_of_mem_drop hr)
    have hflat:(dA rows l h).flatten=(rows.flatten.take (h*te.size)).drop (l*te.size):=by
     simp only [dA,aN,bp]
     rw [kf l (fun r hr=>hE r (List.mem_of_mem_take hr)),kc h hE]
    have hfl:∀i,i<(dA rows l h).flatten.length→l*te.size+i<rows.flatten.length:=fun i hi=>by
     rw [hflat]at hi
     simp only [List.length_drop,List.length_take]at hi
     omega
    refine .slice _ _ te B (off+l*te.size) _ (fun i=>g (l*te.size+i)) he (fun r hr=>hk r (hsub r hr)) (by rw [hlen];omega) (fun i hi=> ?_) (fun i hi=> ?_)
    · have:=hm _ (hfl i hi)
      rwa [←Nat.add_assoc]at this
    · have:=hr _ (hfl i hi)
      have e2:(dA rows l h).flatten[i]=rows.flatten[l*te.size+i]'(hfl i hi):=by
       simp only [hflat,List.getElem_drop,List.getElem_take]
      rw [e2]
      exact this
theorem fb {v:AV}{val:Value}{o:aS}(hv:AVR E w F ρ v val o){n:Int}(hn:asI v=some n){y:Nat}(hb:inB n (y+1)=true)(code:BoundsCode):(Instr.sliceBound val y code).run P w=.ok n.toNat w:=by
 unfold asI at hn
 split at hn<;>try (cases hn;done)
 rename_i k m
 cases hn
 rw [hv.get_int]
 have h1:0≤n∧n<(y:Int)+1:=by simpa [inB]using hb
 have h2:0≤n∧n≤y:=by omega
 simp [Instr.sliceBound,asIntOf,h2]
end Go.Abs
namespace Go.Abs
variable {E:Env} {P:Program} {R:aG} {ρ:List Nat} {own:OI→aH} {N:Nat} {st:St} {a:Act} {w:World} {F:aG}
theorem eh {t e:TypeId}{s:Nat}(hu:P.underlying t=some (.slice e))(hs:(sizeOf e).run P w=.ok s w){b:Option Addr}{len cap:Nat}{lo hi mx:Option Value}{l h m:Nat}
 (hb:(Instr.sliceBounds true len cap lo hi mx).run P w=.ok (l,h,m) w):
 (Instr.slice t (.slice b len cap) lo hi mx).run P w=.ok (.slice (if m=l then b else b.map (·.add (l*s))) (h - l) (m - l)) w:=by
 simp only [Instr.slice,Sem.run_bind,run_underlying hu,Result.andThen_ok,hb,hs,Sem.run_pure]
theorem rI {t:TypeId}(hu:P.underlying t=some .string){s:ByteArray}{lo hi:Option Value}{l h m:Nat}
 (hb:(Instr.sliceBounds false s.size s.size lo hi none).run P w=.ok (l,h,m) w):
 (Instr.slice t (.string s) lo hi none).run P w=.ok (.string (s.extract l h)) w:=by
 simp only [Instr.slice,Sem.run_bind,run_underlying hu,Result.andThen_ok,Option.isSome_none,Bool.false_eq_true,if_false,hb,Sem.run_pure]
def j0 (E:Env)(w:World)(F:aG)(ρ:List Nat):Option AV→Option Value→Prop
 | none,none=>True
 | some x,some v=>∃o,AVR E w F ρ x v o
 | _,_=>False
theorem vU {α:Type}(l:List α)(h:Nat):dA l 0 h=bA l h:=by cases l<;>simp [dA,ag]
theorem JE {α:Type}(l:List α)(n:Nat):dA l n l.length=ag l n:=by simp [dA,bp]
theorem dh {n:Int}{y:Nat}(h:inB n (y+1)=true):n.toNat≤y:=by
 have:0≤n∧n<(y:Int)+1:=by simpa [inB]using h
 omega
theorem lk {isS:Bool}{len cap:Nat}{lo hi mx:Option AV}{vlo vhi vmx:Option Value}(hlo:j0 E w F ρ lo vlo)(hhi:j0 E w F ρ hi vhi)(hmx:j0 E w F ρ mx vmx)(hlc:len≤cap):
 (∀l,lo=none→hi=some l→mx=none→∀h,asI l=some h→inB h (len+1)=true→(Instr.sliceBounds isS len cap vlo vhi vmx).run P w=.ok (0,h.toNat,cap) w)∧
 (lo=none→hi=none→mx=none→(Instr.sliceBounds isS len cap vlo vhi vmx).run P w=.ok (0,len,cap) w)∧
 (∀x,lo=some x→hi=none→mx=none→∀l,asI x=some l→inB l (len+1)=true→(Instr.sliceBounds isS len cap vlo vhi vmx).run P w=.ok (l.toNat,len,cap) w)∧
 (∀x y,lo=some x→hi=some y→mx=none→∀l h,asI x=some l→asI y=some h→inB h (len+1)=true→inB l (h.toNat+1)=true→(Instr.sliceBounds isS len cap vlo vhi vmx).run P w=.ok (l.toNat,h.toNat,cap) w)∧
 (∀y z,lo=none→hi=some y→mx=some z→∀h m,asI y=some h→asI z=some m→inB m (len+1)=true→h=m→(Instr.sliceBounds isS len cap vlo vhi vmx).run P w=.ok (0,h.toNat,h.toNat) w)∧
 (∀x y z,lo=some x→hi=some y→mx=some z→∀l h m,asI x=some l→asI y=some h→asI z=some m→inB m (len+1)=true→h=m→inB l (h.toNat+1)=true→(Instr.sliceBounds isS len cap vlo vhi vmx).run P w=.ok (l.toNat,h.toNat,h.toNat) w):=by
 have up:∀{n:Int} {y z:Nat},inB n (y+1)=true→y≤z→inB n (z+1)=true:=by
  intro n y z h hz
  have:0≤n∧n<(y:Int)+1:=by simpa [inB]using h
  simp only [inB,decide_eq_true_eq]
  omega
 refine⟨?_, ?_, ?_, ?_, ?_, ?_⟩
 · rintro l rfl rfl rfl h h1 h2
   cases vlo<;>cases vhi<;>cases vmx<;>simp only [j0]at hlo hhi hmx
   obtain⟨o,hv⟩:=hhi
   simp only [Instr.sliceBounds,Sem.run_bind,Sem.run_pure,Result.andThen_ok,fb hv h1 (up h2 hlc)]
 · rintro rfl rfl rfl
   cases vlo<;>cases vhi<;>cases vmx<;>simp only [j0]at hlo hhi hmx
   simp only [Instr.sliceBounds,Sem.run_bind,Sem.run_pure,Result.andThen_ok]
 · rintro x rfl rfl rfl l h1 h2
   cases vlo<;>cases vhi<;>cases vmx<;>simp only [j0]at hlo hhi hmx
   obtain⟨o,hv⟩:=hlo
   simp only [Instr.sliceBounds,Sem.run_bind,Sem.run_pure,Result.andThen_ok,fb hv h1 h2]
 · rintro x y rfl rfl rfl l h h1 h2 h3 h4
   cases vlo<;>cases vhi<;>cases vmx<;>simp only [j0]at hlo hhi hmx
   obtain⟨o,hv⟩:=hlo
   obtain⟨o',hv'⟩:=hhi
   simp only [Instr.sliceBounds,Sem.run_bind,Sem.run_pure,Result.andThen_ok,fb hv' h2 (up h3 hlc),fb hv h1 h4]
 · rintro y z rfl rfl rfl h m h1 h2 h3 rfl
   cases vlo<;>cases vhi<;>cases vmx<;>simp only [j0]at hlo hhi hmx
   obtain⟨o',hv'⟩:=hhi
   obtain⟨o'',hv''⟩:=hmx
   have hh:inB h (h.toNat+1)=true:=by
    have:0≤h∧h<(len:Int)+1:=by simpa [inB]using h3
    simp only [inB,decide_eq_true_eq];omega
   simp only [Instr.sliceBounds,Sem.run_bind,Sem.run_pure,Result.andThen_ok,fb hv'' h2 (up h3 hlc),fb hv' h1 hh]
 · rintro x y z rfl rfl rfl l h m h1 h2 h3 h4 rfl h5
   cases vlo<;>cases vhi<;>cases vmx<;>simp only [j0]at hlo hhi hmx
   obtain⟨o,hv⟩:=hlo
   obtain⟨o',hv'⟩:=hhi
   obtain⟨o'',hv''⟩:=hmx
   have hh:inB h (h.toNat+1)=true:=by
    have:0≤h∧h<(len:Int)+1:=by simpa [inB]using h4
    simp only [inB,decide_eq_true_eq];omega
   simp only [Instr.sliceBounds,Sem.run_bind,Sem.run_pure,Result.andThen_ok,fb hv'' h3 (up h4 hlc),fb hv' h2 hh,fb hv h1 h5]
theorem AR.inv_slV {o:Bool}{e:TypeId}{rows:Rows}{v:Value}{q:aH}(h:AR E w F ρ (.sl o e rows) v q):∃b cap,v=.slice b rows.length cap:=h.inv_sl.inv_slice
theorem Aj (G:Good P E){o:Bool}{e:TypeId}{rows:Rows}{b:Option Addr}{cap l:Nat}{q:aH}(h:AR E w F ρ (.sl o e rows) (.slice b rows.length cap) q)(hcap:rows.length≤cap){te:Ty}(he:E.tys e=some te)(hl:l≤rows.length):
 AR E w F ρ (.sl o e (ag rows l)) (.slice (if cap=l then b else b.map (·.add (l*te.size))) (rows.length - l) (cap - l)) q:=by
 have hsub:=pm G (m:=cap) h.inv_sl he hl (Nat.le_refl _) hcap
 rw [JE]at hsub
 generalize hv:Value.slice b rows.length cap=v at h
 cases h with
 | sl e rows v h=>exact .sl _ _ _ hsub
 | full e rows b' n h=>
  cases hv
  exact .full _ _ _ _ hsub
 | own e rows te' B off len cap' h he' hlt hs=>
  cases hv
  rw [he]at he'
  cases he'
  rw [if_neg (by omega)]at hsub⊢
  simp only [Option.map_some,cM]at hsub⊢
  have harith:∀n,l≤n→off+l*te.size+(n - l)*te.size=off+n*te.size:=fun n hn=>by
   have:l*te.size+(n - l)*te.size=n*te.size:=by rw [←Nat.add_mul];congr 1;omega
   omega
  have h1:=harith rows.length hl
  have h2:=harith cap (by omega)
  have:=AR.own (E:=E) (w:=w) (F:=F) (ρ:=ρ) e (ag rows l) te B (off+l*te.size) (rows.length - l) (cap - l) hsub he (by omega) (fun j hj1 hj2=>hs j (by omega) (by omega))
  rwa [h1]at this
theorem CR.inv_cap {e:TypeId}{rows:Rows}{b:Option Addr}{n cap:Nat}(h:CR E w F (.slice e rows) (.slice b n cap)):n=rows.length∧(rows.length≤cap):=by
 cases h with
 | empty=>exact⟨rfl,Nat.zero_le _⟩
 | slice _ _ te B off cap g he hk hc=>exact⟨rfl,hc⟩
theorem x6 (G:Good P E){t e:TypeId}(hu:P.underlying t=some (.slice e)){te:Ty}(he:E.tys e=some te){o:Bool}{rows:Rows}{vx:Value}{px:aS}(hx:AVR E w F ρ (.one (.sl o e rows)) vx px)
 {lo hi mx:Option AV} {vlo vhi vmx:Option Value} (hlo:j0 E w F ρ lo vlo) (hhi:j0 E w F ρ hi vhi) (hmx:j0 E w F ρ mx vmx) {v:AV} (h:dS o e rows lo hi mx some=some v):
 ∃val oV,(Instr.slice t vx vlo vhi vmx).run P w=.ok val w∧AVR E w F ρ v val oV∧∀p,oV p=none∨oV p=px p:=by
 have hx1:=hx.get_one
 obtain⟨b,cap,rfl⟩:=hx1.inv_slV
 obtain⟨_,hcap⟩:=hx1.inv_sl.inv_cap
 have hsz:=(G.ty _ _ he).run_size (w:=w)
 obtain⟨b1,b2,b3,b4,b5,b6⟩:=lk (P:=P) (isS:=true) (len:=rows.length) (cap:=cap) hlo hhi hmx hcap
 have fin:∀{o':Bool} {rows':Rows} {val:Value} {q:aH},v=.one (.sl o' e rows')→(Instr.slice t (.slice b rows.length cap) vlo vhi vmx).run P w=.ok val w→AR E w F ρ (.sl o' e rows') val q→(q=none∨q=px [])→
  ∃val oV,(Instr.slice t (.slice b rows.length cap) vlo vhi vmx).run P w=.ok val w∧AVR E w F ρ v val oV∧∀p,oV p=none∨oV p=px p:=by
  intro o' rows' val q hv hr ha hq
  subst hv
  refine⟨val,fun p=>match p with | []=>q | _=>none,hr,.one _ _ _ ha fun p hp=> ?_,fun p=> ?_⟩
  · cases p with
    | nil=>exact absurd rfl hp
    | cons=>rfl
  · cases p with
    | nil=>exact hq
    | cons=>exact .inl rfl
 cases lo with
 | none=>cases hi with
  | none=>cases mx with
   | none=>
    simp only [dS,Option.some.injEq]at h
    have hr:=eh hu hsz (b:=b) (b2 rfl rfl rfl)
    have:=Aj G (l:=0) hx1 hcap he (Nat.zero_le _)
    have e0:ag rows 0=rows:=by rw [aN];rfl
    rw [e0]at this
    exact fin h.symm hr this (.inr rfl)
   | some z=>simp [dS]at h
  | some y=>cases mx with
   | none=>
    simp only [dS]at h
    cases hy:asI y with
    | none=>simp [hy]at h
    | some n=>
     simp only [hy]at h
     obtain⟨hb,h⟩:=ab h
     have hr:=eh hu hsz (b:=b) (b1 y rfl rfl rfl n hy hb)
     have hn:=dh hb
     have:=pm G (m:=cap) (l:=0) hx1.inv_sl he (Nat.zero_le _) hn (by omega)
     rw [vU]at this
     exact fin (Option.some.inj h).symm hr (.sl _ _ _ this) (.inl rfl)
   | some z=>
    simp only [dS]at h
    cases hy:asI y with
    | none=>simp [hy]at h
    | some n=>cases hz:asI z with
     | none=>simp [hy,hz]at h
     | some k=>
      simp only [hy,hz]at h
      obtain⟨hb,h2⟩:=ab h
      obtain⟨hnk,h3⟩:=ab h2
      have hnk:n=k:=by simpa using hnk
      have hn:n.toNat≤rows.length:=by rw [hnk];exact dh hb
      have hr:=eh hu hsz (b:=b) (b5 y z rfl rfl rfl n k hy hz hb hnk)
      have:=pm G (m:=n.toNat) (l:=0) hx1.inv_sl he (Nat.zero_le _) hn (Nat.le_refl _)
      rw [vU]at this
      exact fin (Option.some.inj h3).symm hr (.full _ _ _ _ this) (.inl rfl)
 | some x=>cases hi with
  | none=>cases mx with
   | none=>
    simp only [dS]at h
    cases hy:asI x with
    | none=>simp [hy]at h
    | some n=>
     simp only [hy]at h
     obtain⟨hb,h⟩:=ab h
     have hr:=eh hu hsz (b:=b) (b3 x rfl rfl rfl n hy hb)
     exact fin (Option.some.inj h).symm hr (Aj G hx1 hcap he (dh hb)) (.inr rfl)
   | some z=>simp [dS]at h
  | some y=>cases mx with
   | none=>
    simp only [dS]at h
    cases hx':asI x with
    | none=>simp [hx']at h
    | some l=>cases hy:asI y with
     | none=>simp [hx',hy]at h
     | some n=>
      simp only [hx',hy]at h
      obtain⟨hb,h2⟩:=ab h
      obtain⟨hl,h3⟩:=ab h2
      have hr:=eh hu hsz (b:=b) (b4 x y rfl rfl rfl l n hx' hy hb hl)
      have:=pm G (m:=cap) hx1.inv_sl he (dh hl) (dh hb) (by have:=dh hb;omega)
      exact fin (Option.some.inj h3).symm hr (.sl _ _ _ this) (.inl rfl)
   | some z=>
    simp only [dS]at h
    cases hx':asI x with
    | none=>simp [hx']at h
    | some l=>cases hy:asI y with
     | none=>simp [hx',hy]at h
     | some n=>cases hz:asI z with
      | none=>simp [hx',hy,hz]at h
      | some k=>
       simp only [hx',hy,hz]at h
       obtain⟨hb,h2⟩:=ab h
       obtain⟨hnk,h3⟩:=ab h2
       obtain⟨hl,h4⟩:=ab h3
       have hnk:n=k:=by simpa using hnk
       have hn:n.toNat≤rows.length:=by rw [hnk];exact dh hb
       have hr:=eh hu hsz (b:=b) (b6 x y z rfl rfl rfl l n k hx' hy hz hb hnk hl)
       have:=pm G (m:=n.toNat) hx1.inv_sl he (dh hl) hn (Nat.le_refl _)
       exact fin (Option.some.inj h4).symm hr (.full _ _ _ _ this) (.inl rfl)
theorem yj {t:TypeId}(hu:P.underlying t=some .string){s:List UInt8}{lo hi:Option AV}{vlo vhi:Option Value}(hlo:j0 E w F ρ lo vlo)(hhi:j0 E w F ρ hi vhi){v:AV}(h:gg s lo hi some=some v):
 ∃val,(Instr.slice t (.string ⟨s.toArray⟩) vlo vhi none).run P w=.ok val w∧AVR E w F ρ v val (fun _=>none):=by
 have hsize:(⟨s.toArray⟩:ByteArray).size=s.length:=rfl
 obtain⟨b1,b2,b3,b4,_,_⟩:=lk (P:=P) (isS:=false) (len:=s.length) (cap:=s.length) (mx:=none) (vmx:=none) hlo hhi trivial (Nat.le_refl _)
 have hext:∀l h,h≤s.length→(⟨s.toArray⟩:ByteArray).extract l h=⟨((s.take h).drop l).toArray⟩:=by
  intro l h hh
  apply ByteArray.ext
  simp [ByteArray.data_extract,List.extract_eq_take_drop,List.drop_take]
 have fin:∀l h r,h≤s.length→(Instr.sliceBounds false s.length s.length vlo vhi none).run P w=.ok (l,h,s.length) w→some (AV.one (.str r))=some v→r=(s.take h).drop l→
  ∃val,(Instr.slice t (.string ⟨s.toArray⟩) vlo vhi none).run P w=.ok val w∧AVR E w F ρ v val (fun _=>none):=by
  intro l k r hh hb hv hr
  cases hv
  refine⟨_,rI hu (l:=l) (h:=k) (m:=s.length) (by rw [hsize];exact hb), ?_⟩
  rw [hext _ _ hh,hr]
  exact .of (.str _)
 cases lo with
 | none=>cases hi with
  | none=>exact fin _ _ _ (Nat.le_refl _) (b2 rfl rfl rfl) h (by simp)
  | some y=>
   simp only [gg]at h
   cases hy:asI y with
   | none=>simp [hy]at h
   | some n=>
    simp only [hy]at h
    obtain⟨hb,h⟩:=ab h
    exact fin _ _ _ (dh hb) (b1 y rfl rfl rfl n hy hb) h (by simp [bp])
 | some x=>cases hi with
  | none=>
   simp only [gg]at h
   cases hy:asI x with
   | none=>simp [hy]at h
   | some n=>
    simp only [hy]at h
    obtain⟨hb,h⟩:=ab h
    exact fin _ _ _ (Nat.le_refl _) (b3 x rfl rfl rfl n hy hb) h (by simp [aN])
  | some y=>
   simp only [gg]at h
   cases hx':asI x with
   | none=>simp [hx']at h
   | some l=>cases hy:asI y with
    | none=>simp [hx',hy]at h
    | some n=>
     simp only [hx',hy]at h
     obtain⟨hb,h2⟩:=ab h
     obtain⟨hl,h3⟩:=ab h2
     exact fin _ _ _ (dh hb) (b4 x y rfl rfl rfl l n hx' hy hb hl) h3 (by simp [dA,aN,bp])
end Go.Abs
namespace Go.Abs
variable {E:Env} {P:Program} {R:aG} {ρ:List Nat} {own:OI→aH} {N:Nat} {st:St} {a:Act} {w:World} {F:aG}
theorem mS {j k:CK}(h:CK.same j k=true):j=k:=by
 cases j<;>cases k<;>simp only [CK.same]at h<;>first | rfl | (cases h;done) | (rw [lf h]) | (rw [Nat.eq_of_beq_eq_true h])
theorem iN :∀{x y:List CK},ff x y=true→x=y
 | [],[],_=>rfl
 | [],_::_,h=>by simp [ff]at h
 | _::_,[],h=>by simp [ff]at h
 | j::x,k::y,h=>by
  simp only [ff]at h
  cases hs:CK.same j k with
  | false=>simp [hs]at h
  | true=>rw [mS hs,iN (x:=x) (y:=y) (by simpa [hs]using h)]
theorem o8 {row:Row}{j:Nat}(hj:j<row.length){k:CK}(hk:row[j].kind=k){v:Value}(h:CR E w F row[j] v){c:AC}(hc:ko row j k=some c):AR E w F ρ c v none:=by
 unfold ko at hc
 rw [wY hj]at hc
 generalize row[j]=x at*
 subst hk
 cases h with
 | int k n=>simp only [Cell.kind,Cell.toInt]at hc;cases hc;exact .int _ _
 | bool b=>simp only [Cell.kind,Cell.toBool]at hc;cases hc;exact .bool _
 | str s=>simp only [Cell.kind,Cell.toStr]at hc;cases hc;exact .str _
 | empty e b cap=>simp only [Cell.kind,Cell.toRows]at hc;cases hc;exact .sl _ _ _ (.empty _ _ _)
 | slice e rows te B off cap g he hk hc' hm hr=>simp only [Cell.kind,Cell.toRows]at hc;cases hc;exact .sl _ _ _ (.slice e rows te B off cap g he hk hc' hm hr)
theorem jq {β:Type}{row:Row}:∀{ks:List CK} {o:Nat} {K:List AC→Option β} {r:β},pg row ks o K=some r→
 ∃l,K l=some r∧l.length=ks.length∧∀(i:Nat) (h1:i<l.length) (h2:i<ks.length),ko row (o+i) ks[i]=some l[i]
 | [],o,K,r,h=>⟨[],h,rfl,fun i h=>by simp at h⟩
 | k::ks,o,K,r,h=>by
  simp only [pg]at h
  cases hc:ko row o k with
  | none=>simp [hc]at h
  | some c=>
   simp only [hc]at h
   obtain⟨l,h1,h2,h3⟩:=jq h
   refine⟨c::l,h1,by simp [h2],fun i g1 g2=> ?_⟩
   cases i with
   | zero=>exact hc
   | succ i=>
    have:=h3 i (by simpa using g1) (by simpa using g2)
    rw [show o+(i+1)=o+1+i by omega]
    exact this
theorem jQ (G:Good P E){t:TypeId}{ty:Ty}(ht:E.tys t=some ty){B o:Nat}{g:Nat→Value}(h:∀i,i<ty.size→cell w B (o+i)=some (g i)):
 (Instr.loadAt t (.pointer (some ⟨B,o,none⟩))).run P w=.ok (if ty.desc.isAgg then .agg ((List.range ty.size).map g).toArray else g 0) w:=by
 have hT:=G.ty t ty ht
 have hpos:=hT.pos
 simp only [Instr.loadAt,Instr.sureAddr,Sem.run_bind,Sem.run_pure,Result.andThen_ok,loadVar,hT.run_isAgg]
 cases hd:ty.desc.isAgg with
 | true=>
  simp only [if_true,Sem.run_bind,hT.run_size,Result.andThen_ok,Sem.run_pure]
  rw [run_loadCells w ⟨B,o,none⟩ ty.size g (fun j hj=>by rw [cM];exact h j hj)]
  rfl
 | false=>
  have:=h 0 (by omega)
  simp only [Nat.add_zero]at this
  simp [this]
theorem zQ {b:Nat}{cells:List AC}(h:BlkR E w F ρ own b (some (.var cells))):∃B,nth ρ b=some B∧own (.self b)=some (B,0)∧(∀j,cells.length≤j→own (.cell b j)=none)∧
 ∃g:Nat→Value,∀(j:Nat) (hj:j<cells.length),cell w B j=some (g j)∧dl w B j=false∧AR E w F ρ cells[j] (g j) (own (.cell b j)):=by
 obtain⟨B,h1,h2,h3,h4⟩:=h
 refine⟨B,h1,h2,h3,fun j=>if hj:j<cells.length then Classical.choose (h4 j hj)else undef,fun j hj=> ?_⟩
 simp only [hj,dif_pos]
 exact Classical.choose_spec (h4 j hj)
theorem B9 {agg:Bool}{o:Nat→aH}{p:List Nat}{B t:Nat}(h:q9 agg o p=some (B,t)):∃i,o i=some (B,t)∧p=(if agg then [i]else [])∧(agg=false→i=0):=by
 cases agg with
 | true=>
  match p,h with
  | [],h=>cases h
  | [i],h=>exact⟨i,h,rfl,by simp⟩
  | _::_::_,h=>cases h
 | false=>
  match p,h with
  | [],h=>exact⟨0,h,rfl,by simp⟩
  | [_],h=>cases h
  | _::_::_,h=>cases h
theorem nZ (agg:Bool)(p:List Nat):q9 agg (fun _=>none) p=none:=by
 match p with
 | []=>simp [q9]
 | [i]=>simp [q9]
 | _::_::_=>rfl
theorem jT {β:Type}{ty:Ty}{l:List AC}{K:AV→Option β}{r:β}(h:dg ty l K=some r):∃v,dg ty l some=some v∧K v=some r:=by
 unfold dg at h⊢
 cases hd:ty.desc.isAgg with
 | true=>rw [hd]at h;exact⟨_,rfl,h⟩
 | false=>
  rw [hd]at h
  cases l with
  | nil=>cases h
  | cons c l=>cases l with
   | nil=>exact⟨_,rfl,h⟩
   | cons d l=>cases h
theorem yS (h:Rel E R ρ own N st a w){b:Nat}{e:TypeId}{rows:Rows}{te:Ty}{i o:Nat}(hb:nth st.blk b=some (.arr e rows))(he:E.tys e=some te)(hi:i<rows.length){vp:Value}{pp:aS}(hp:AVR E w F ρ (.one (.mptr b e i o)) vp pp):
 ∃B,nth ρ b=some B∧vp=.pointer (some ⟨B,i*te.size+o,none⟩)∧own (.self b)=some (B,0)∧(∀r∈rows,r.map Cell.kind=te.kinds)∧∃g:Nat→Value,∀(j:Nat) (hj:j<rows.flatten.length),cell w B j=some (g j)∧dl w B j=false∧CR E w (Fn own R) rows.flatten[j] (g j):=by
 have hbr:=h.blk b
 rw [hb]at hbr
 have hq:=hp.get_one
 generalize pp []=q at hq
 cases hq with
 | mptr _ _ _ _ te' B hB he'=>
  rw [he]at he'
  cases he'
  rcases hbr with⟨h1,_⟩ | ⟨B',te',h1,h2,_,h4,h5,h7,h6⟩
  · subst h1;simp at hi
  · rw [hB]at h1
    cases h1
    rw [he]at h4
    cases h4
    refine⟨B,hB,rfl,h2,h5,fun j=>if hj:j<rows.flatten.length then Classical.choose (h6 j hj)else undef,fun j hj=> ?_⟩
    simp only [hj,dif_pos]
    exact Classical.choose_spec (h6 j hj)
theorem tH (G:Good P E)(h:Rel E R ρ own N st a w){tk:Bool}{t:TypeId}{p:AV}{vp:Value}{pp:aS}(hp:AVR E w (Fn own R) ρ p vp pp){u:Upd}(hu:lx E tk t st p some=some u){dst:Option Nat}(hd:∀d,dst=some d→d<N):
 ∃val,(Instr.loadAt t vp).run P w=.ok val w∧After E R ρ own N w (st.apply dst u) (a.put dst val) w:=by
 unfold lx at hu
 cases ht:E.tys t with
 | none=>simp [ht]at hu
 | some ty=>
  simp only [ht]at hu
  have hT:=G.ty t ty ht
  have hpos:=hT.pos
  split at hu<;>try (cases hu;done)
  · rename_i b o
    cases hb:nth st.blk b with
    | none=>simp [hb]at hu
    | some blk=>cases blk with
     | dead=>simp [hb]at hu
     | fro=>simp [hb]at hu
     | arr=>simp [hb]at hu
     | var cells=>
      simp only [hb]at hu
      obtain⟨h1,h2⟩:=gN hu
      obtain⟨v,hv,h3⟩:=jT h2
      have hle:o+ty.size≤cells.length:=by omega
      have hlen:((cells.drop o).take ty.size).length=ty.size:=by simp;omega
      have hbr:=h.blk b
      rw [hb]at hbr
      obtain⟨B,hB,hself,hnone,g,hg⟩:=zQ hbr
      obtain⟨B',hB',rfl⟩:=hp.get_one.inv_ptr
      rw [hB]at hB'
      cases hB'
      have hrun:=jQ (w:=w) G ht (B:=B) (o:=o) (g:=fun i=>g (o+i)) (fun i hi=>(hg _ (by omega)).1)
      have hrel:=kg G ht (g:=fun i=>g (o+i)) (o:=fun i=>if i<ty.size then own (.cell b (o+i))else none) hlen (fun i hi=>by
       have hi':i<ty.size:=by omega
       simp only [hi',if_true,List.getElem_take,List.getElem_drop]
       exact(hg (o+i) (by omega)).2.2) (fun i hi=>by rw [if_neg (by omega)]) hv rfl
      refine⟨_,hrun, ?_⟩
      cases tk with
      | false=>
       simp only [Option.some.injEq]at h3
       subst h3
       exact h.pure0 hd hrel.dis
      | true=>
       simp only at h3
       obtain⟨h4,h5⟩:=cc h3
       simp only [Option.some.injEq]at h5
       subst h5
       have hdl:(qh ((cells.drop o).take ty.size)).length=ty.size:=by rw [mY,List.length_map,hlen]
       have hov:=eX (l:=cells) (o:=o) (xs:=qh ((cells.drop o).take ty.size)) (by omega)
       have hVsrc:∀p B t,(q9 ty.desc.isAgg fun i=>if i<ty.size then own (.cell b (o+i))else none) p=some (B,t)→∃i,i<ty.size∧own (.cell b (o+i))=some (B,t)∧p=(if ty.desc.isAgg then [i]else [])∧(ty.desc.isAgg=false→i=0):=by
        intro p B t e
        obtain⟨i,e1,e2,e3⟩:=B9 e
        by_cases hi:i<ty.size
        · rw [if_pos hi]at e1;exact⟨i,hi,e1,e2,e3⟩
        · rw [if_neg hi]at e1;cases e1
       refine h.write (oV:=q9 ty.desc.isAgg fun i=>if i<ty.size then own (.cell b (o+i))else none) (oC:=fun j=>if o≤j∧j<o+ty.size then none else own (.cell b j)) hb hB hd (World.keptBut_refl _ _) (fun x=>∃j,x=.cell b j) (fun x hx=> .inr hx) ?_ ?_ ?_ ?_ ?_ ?_ ?_ ?_
       · intro p B t e
         obtain⟨i,_,e1,_⟩:=hVsrc p B t e
         exact⟨_,⟨_,rfl⟩,e1⟩
       · intro j B t e
         split at e
         · cases e
         · exact⟨_,⟨_,rfl⟩,e⟩
       · intro p p' B t t' e e'
         obtain⟨i,_,e1,e2,e3⟩:=hVsrc p B t e
         obtain⟨i',_,e1',e2',e3'⟩:=hVsrc p' B t' e'
         have:=h.inj _ _ _ _ _ e1 e1'
         injection this with _ hj
         have hii:i=i':=by omega
         rw [e2,e2',hii]
       · intro j j' B t t' e e'
         split at e
         · cases e
         · split at e'
           · cases e'
           · have:=h.inj _ _ _ _ _ e e'
             injection this
       · intro p j B t t' e e'
         exfalso
         obtain⟨i,hi,e1,_⟩:=hVsrc p B t e
         split at e'
         · cases e'
         · rename_i hn
           have:=h.inj _ _ _ _ _ e1 e'
           injection this with _ hj
           omega
       · intro hK
         exact hrel.keep hK (fun _ _ h=>h) fun p B t e j _ hh=>hh
       · intro j hj
         rw [hov]at hj
         split
         · rfl
         · exact hnone j hj
       · intro hK j hj
         rw [hov]at hj
         obtain⟨k1,k2,k3⟩:=hg j hj
         refine⟨g j,k1,k2, ?_⟩
         rcases jF (l:=cells) (o:=o) (xs:=qh ((cells.drop o).take ty.size)) (by omega) j (by omega)with⟨q1,q2,q3⟩ | ⟨q1,q2,q3⟩
         · rw [q3]
           rw [hdl]at q2
           rw [if_pos ⟨q1,by omega⟩]
           have:(qh ((cells.drop o).take ty.size))[j - o]'(by omega)=cells[j].dis:=by
            simp only [mY,List.getElem_map,List.getElem_take,List.getElem_drop]
            congr 2
            omega
           rw [this]
           exact(k3.dis).keep hK (fun _ _ h=>h) fun B t e=>by cases e
         · rw [q3]
           rw [hdl]at q1
           rw [if_neg (by omega)]
           exact k3.keep hK (fun _ _ h=>h) fun B t e j _ hh=>hh
  · rename_i e row o
    cases he:E.tys e with
    | none=>simp [he]at hu
    | some te=>
     simp only [he]at hu
     obtain⟨hk,h1⟩:=ab hu
     obtain⟨l,h2,h3,h4⟩:=jq h1
     obtain⟨v,hv,h5⟩:=jT h2
     have hks:=iN hk
     rw [bp,aN]at hks
     have hq:=hp.get_one
     generalize pp []=q at hq
     cases hq with
     | eptr _ _ _ te' B off g he' hrk hm hr=>
      rw [he]at he'
      cases he'
      have hlen:l.length=ty.size:=by rw [h3];exact hT.len
      have hkl:ty.kinds.length=ty.size:=hT.len
      have hrl:o+ty.size≤row.length:=by
       have e1:row.length=te.kinds.length:=by rw [←hrk];simp
       have e2:=congrArg List.length hks
       rw [List.length_take,List.length_drop,hkl]at e2
       omega
      have hrun:=jQ (w:=w) G ht (B:=B) (o:=off+o) (g:=fun i=>g (o+i)) (fun i hi=>by
       have:=(hm (o+i) (by omega)).1
       rwa [show off+(o+i)=off+o+i by omega]at this)
      have hrel:=kg (ρ:=ρ) (F:=Fn own R) (w:=w) G ht (l:=l) (g:=fun i=>g (o+i)) (o:=fun _=>none) hlen (fun i hi=>by
       have hi':i<ty.size:=by omega
       have hj:o+i<row.length:=by omega
       refine o8 hj ?_ (hr (o+i) hj) (h4 i hi (by omega))
       have e3:ty.kinds[i]'(by omega)=(row.map Cell.kind)[o+i]'(by simpa using hj):=by
        simp only [←hks,List.getElem_take,List.getElem_drop,hrk]
       rw [e3,List.getElem_map]) (fun _ _=>rfl) hv rfl
      refine⟨_,hrun, ?_⟩
      cases h5
      exact h.pure0 hd (hrel.none_of (nZ _))
  · rename_i c
    cases hk:ty.kinds with
    | nil=>simp [hk]at hu
    | cons k ks=>cases ks with
     | cons k' ks=>simp [hk]at hu
     | nil=>
      simp only [hk]at hu
      obtain⟨v,hv,h5⟩:=jT hu
      have hs1:ty.size=1:=by rw [←hT.len,hk];rfl
      have hq:=hp.get_one
      generalize pp []=q at hq
      cases hq with
      | aptr _ B off val hm hr=>
       have hrun:=jQ (w:=w) G ht (B:=B) (o:=off) (g:=fun _=>val) (fun i hi=>by
        have:i=0:=by omega
        subst this
        exact hm.1)
       have hrel:=kg (ρ:=ρ) (F:=Fn own R) (w:=w) G ht (l:=[c.dis]) (g:=fun _=>val) (o:=fun _=>none) (by simp [hs1]) (fun i hi=>by
        have:i=0:=by simpa using hi
        subst this
        exact hr.dis) (fun _ _=>rfl) hv rfl
       refine⟨_,hrun, ?_⟩
       cases h5
       exact h.pure0 hd (hrel.none_of (nZ _))
  · rename_i b e i o
    cases hb:nth st.blk b with
    | none=>simp [hb]at hu
    | some blk=>cases blk with
     | dead=>simp [hb]at hu
     | fro=>simp [hb]at hu
     | var=>simp [hb]at hu
     | arr e' rows=>
      simp only [hb]at hu
      cases he:E.tys e with
      | none=>simp [he]at hu
      | some te=>
       simp only [he]at hu
       obtain⟨hk,hu⟩:=ab hu
       obtain⟨hi,h1⟩:=ab hu
       rw [Bool.and_eq_true]at hk
       have hee:=Nat.eq_of_beq_eq_true hk.1
       subst hee
       have hi:i<rows.length:=Nat.lt_of_succ_le (Nat.le_of_ble_eq_true hi)
       obtain⟨l,h2,h3,h4⟩:=jq h1
       obtain⟨v,hv,h5⟩:=jT h2
       have hks:=iN hk.2
       rw [bp,aN]at hks
       obtain⟨B,hB,rfl,_,hrk,g,hg⟩:=yS h hb he hi hp
       have hlen:l.length=ty.size:=by rw [h3];exact hT.len
       have hkl:ty.kinds.length=ty.size:=hT.len
       have hte:=(G.ty _ _ he).len
       have hrow:rows[i].map Cell.kind=te.kinds:=hrk _ (List.getElem_mem hi)
       have hrlen:rows[i].length=te.size:=by rw [←hte,←hrow];simp
       have hrl:o+ty.size≤te.size:=by
        have e2:=congrArg List.length hks
        rw [List.length_take,List.length_drop,hkl]at e2
        omega
       have hat:∀j (hj:j<te.size),cell w B (i*te.size+j)=some (g (i*te.size+j))∧CR E w (Fn own R) (rows[i][j]'(by omega)) (g (i*te.size+j)):=by
        intro j hj
        obtain⟨q1,q2,q3⟩:=gv (bS hte hrk) hi hj
        have:=hg _ q1
        rw [q3]at this
        exact⟨this.1,this.2.2⟩
       have hrun:=jQ (w:=w) G ht (B:=B) (o:=i*te.size+o) (g:=fun k=>g (i*te.size+(o+k))) (fun k hk=>by
        rw [Nat.add_assoc]
        exact(hat (o+k) (by omega)).1)
       have hrel:=kg (ρ:=ρ) (F:=Fn own R) (w:=w) G ht (l:=l) (g:=fun k=>g (i*te.size+(o+k))) (o:=fun _=>none) hlen (fun k hk=>by
        have hj:o+k<rows[i].length:=by omega
        rw [cg hi]at h4
        refine o8 hj ?_ (hat (o+k) (by omega)).2 (h4 k hk (by omega))
        have e3:ty.kinds[k]'(by omega)=(rows[i].map Cell.kind)[o+k]'(by simpa using hj):=by
         simp only [←hks,List.getElem_take,List.getElem_drop,hrow]
        rw [e3,List.getElem_map]) (fun _ _=>rfl) hv rfl
       refine⟨_,hrun, ?_⟩
       cases h5
       exact h.pure0 hd (hrel.none_of (nZ _))
theorem AR.oneCell {c:AC}{v:Value}{o:aH}(h:AR E w F ρ c v o):v.cells= #[v]∧v.oneCell'=true:=by
 cases h with
 | sl e rows v h=>cases h<;>exact⟨rfl,rfl⟩
 | _=>exact⟨rfl,rfl⟩
def kW (v:AV)(p:aS)(i:Nat):aH:=
 match v with
 | .one _=>if i=0 then p []else none
 | .agg _=>p [i]
 | _=>none
theorem dj {β:Type}{ty:Ty}{v:AV}{K:List AC→Option β}{r:β}(h:eF ty v K=some r):∃l,eF ty v some=some l∧K l=some r:=by
 unfold eF at h⊢
 cases v with
 | one c=>cases hk:ty.kinds with
  | nil=>simp [hk]at h
  | cons k ks=>cases ks with
   | nil=>rw [hk]at h;exact⟨_,rfl,h⟩
   | cons k' ks=>simp [hk]at h
 | agg l=>
  obtain⟨h1,h2⟩:=ab h
  exact⟨_,by simp only [h1,cond_true],h2⟩
 | undef=>simp at h
 | tup l=>simp at h
theorem kk {ty:Ty}(hl:ty.kinds.length=ty.size){v:AV}{val:Value}{p:aS}(hv:AVR E w F ρ v val p){l:List AC}(h:eF ty v some=some l):
 l.length=ty.size∧val.cells.size=ty.size∧∀(i:Nat) (h1:i<l.length),∃(h2:i<val.cells.size),AR E w F ρ l[i] val.cells[i] (kW v p i):=by
 unfold eF at h
 cases hv with
 | undef=>simp at h
 | tup=>simp at h
 | one c v o h1 ho=>
  cases hk:ty.kinds with
  | nil=>simp [hk]at h
  | cons k ks=>cases ks with
   | cons k' ks=>simp [hk]at h
   | nil=>
    simp only [hk,Option.some.injEq]at h
    subst h
    have hs:ty.size=1:=by rw [←hl,hk];rfl
    obtain⟨hc,_⟩:=h1.oneCell
    refine⟨by simp [hs],by rw [hc,hs];rfl,fun i hi=> ?_⟩
    have:i=0:=by simpa using hi
    subst this
    refine⟨by rw [hc];simp, ?_⟩
    simp only [hc,kW,if_true]
    exact lN h1
 | agg cs g o h1 ho=>
  obtain⟨h2,h3⟩:=ab h
  cases h3
  have hs:cs.length=ty.size:=by have:=Nat.eq_of_beq_eq_true h2;rwa [bq]at this
  have hlen:=uH ty.kinds cs
  refine⟨by rw [hlen,hs],by simp [Value.cells,hs],fun i hi=> ?_⟩
  refine⟨by simp [Value.cells];omega, ?_⟩
  have:=tm (ks:=ty.kinds) (o:=fun i=>p [i]) h1 i hi
  simpa [Value.cells,kW]using this
def cX (w:World)(B:Nat):Nat→List Value→World
 | _,[]=>w
 | o,v::vs=>cX (w.setCell ⟨B,o,none⟩ v) B (o+1) vs
theorem lK (w:World){B o B' o':Nat}(v:Value)(h:B'≠B∨o'≠o):cell (w.setCell ⟨B,o,none⟩ v) B' o'=cell w B' o':=
 World.cell?_setCell_other _ _ _ _ fun e=>by cases e;simp at h
theorem eo :∀(vs:List Value) (w:World) (B o B' o':Nat),(B'≠B∨o'<o∨o+vs.length≤o')→cell (cX w B o vs) B' o'=cell w B' o'
 | [],_,_,_,_,_,_=>rfl
 | v::vs,w,B,o,B',o',h=>by
  simp only [List.length_cons]at h
  rw [cX,eo vs _ B (o+1) B' o' (by omega),lK _ _ (by omega)]
theorem cK :∀(vs:List Value) (w:World) (B o B' o':Nat),dl (cX w B o vs) B' o'=dl w B' o'
 | [],_,_,_,_,_=>rfl
 | v::vs,w,B,o,B',o'=>by
  rw [cX,cK vs];exact World.frozen?_setCell ..
theorem fY :∀(vs:List Value) (w:World) (B o i:Nat) (hi:i<vs.length),(∃u,cell w B (o+i)=some u)→cell (cX w B o vs) B (o+i)=some vs[i]
 | [],_,_,_,i,hi,_=>by simp at hi
 | v::vs,w,B,o,0,_,⟨u,hu⟩=>by
  rw [cX,eo vs _ B (o+1) B (o+0) (by omega)]
  exact World.cell?_setCell_same w _ _ hu
 | v::vs,w,B,o,i+1,hi,⟨u,hu⟩=>by
  rw [cX,show o+(i+1)=o+1+i by omega]
  refine fY vs _ B (o+1) i (by simpa using hi) ⟨u, ?_⟩
  rw [lK _ _ (by omega),show o+1+i=o+(i+1)by omega]
  exact hu
theorem fZ :∀(vs:List Value) (w:World) (B o:Nat) (T:aG),(∀i,i<vs.length→T B (o+i))→w.keptBut (cX w B o vs) (inT T)
 | [],w,_,_,_,_=>World.keptBut_refl _ _
 | v::vs,w,B,o,T,h=>by
  refine World.keptBut_trans (World.keptBut_setCell w ⟨B,o,none⟩ v (h 0 (by simp))) ?_
  exact fZ vs _ B (o+1) T fun i hi=>by
   have:=h (i+1) (by simpa using hi)
   rwa [show o+(i+1)=o+1+i by omega]at this
theorem d7 :∀(vs:List Value) (w:World) (B o i:Nat),(∀v∈vs,v.oneCell'=true)→(∀j,j<vs.length→(∃u,cell w B (o+i+j)=some u)∧dl w B (o+i+j)=false)→
 (storeCells ⟨B,o,none⟩ vs i).run P w=.ok () (cX w B (o+i) vs)
 | [],w,B,o,i,_,_=>rfl
 | v::vs,w,B,o,i,h1,h2=>by
  obtain⟨⟨u,hu⟩,hc⟩:=h2 0 (by simp)
  simp only [Nat.add_zero]at hu hc
  have hst:(store (⟨B,o+i,none⟩:Addr) v).run P w=.ok () (w.setCell ⟨B,o+i,none⟩ v):=by
   rw [run_store P w _ _ _ (h1 v (by simp))]
   simp [hu,hc]
  simp only [storeCells,Sem.run_bind,cM,hst,Result.andThen_ok,cX]
  have:=d7 vs (w.setCell ⟨B,o+i,none⟩ v) B o (i+1) (fun x hx=>h1 x (by simp [hx])) (fun j hj=>by
   obtain⟨⟨u',hu'⟩,hc'⟩:=h2 (j+1) (by simpa using hj)
   refine⟨⟨u', ?_⟩, ?_⟩
   · rw [lK _ _ (by omega),show o+(i+1)+j=o+i+(j+1)by omega];exact hu'
   · rw [dl,World.frozen?_setCell,show o+(i+1)+j=o+i+(j+1)by omega];exact hc')
  rw [show o+(i+1)=o+i+1 by omega]at this
  exact this
theorem nL {c:AC}{v:Value}{o:aH}(h:AR E w F ρ c v o){x:Cell}(hx:c.toCell=some x):CR E w F x v:=by
 cases h with
 | int k n=>cases hx;exact .int _ _
 | bool b=>cases hx;exact .bool _
 | str s=>cases hx;exact .str _
 | sl e rows v h=>cases hx;exact h
 | full e rows a n h=>cases hx;exact h
 | own e rows te B off len cap h=>cases hx;exact h
 | _=>cases hx
theorem eC {β:Type}:∀{ks:List CK} {l:List AC} {K:Row→Option β} {r:β},qw ks l K=some r→
 ∃row,K row=some r∧row.map Cell.kind=ks∧row.length=l.length∧l.length=ks.length∧∀(i:Nat) (h1:i<l.length) (h2:i<row.length) (h3:i<ks.length),(va ks[i] l[i]).toCell=some row[i]
 | [],[],K,r,h=>⟨[],h,rfl,rfl,rfl,fun i h=>by simp at h⟩
 | [],_::_,K,r,h=>by simp [qw]at h
 | _::_,[],K,r,h=>by simp [qw]at h
 | k::ks,c::l,K,r,h=>by
  simp only [qw]at h
  cases hc:(va k c).toCell with
  | none=>simp [hc]at h
  | some x=>
   simp only [hc]at h
   obtain⟨h1,h2⟩:=ab h
   obtain⟨row,g1,g2,g3,g4,g5⟩:=eC h2
   refine⟨x::row,g1,by simp [g2,mS h1],by simp [g3],by simp [g4],fun i k1 k2 k3=> ?_⟩
   cases i with
   | zero=>exact hc
   | succ i=>exact g5 i (by simpa using k1) (by simpa using k2) (by simpa using k3)
theorem xo {ks:List CK}{l:List AC}{row:Row}(hl:l.length=ks.length)(hr:row.length=l.length)(h:∀(i:Nat) (h1:i<l.length) (h2:i<row.length) (h3:i<ks.length),(va ks[i] l[i]).toCell=some row[i])
 {g:Nat→Value} (hg:∀(i:Nat) (h1:i<l.length),AR E w F ρ l[i] (g i) none):∀(i:Nat) (h1:i<row.length),CR E w F row[i] (g i):=fun i h1=>
 nL (lN (hg i (by omega))) (h i (by omega) h1 (by omega))
theorem cY {d:Option Nat}{y:OI}{B t:Nat}(h:bg own d (fun _=>none) y=some (B,t)):own y=some (B,t):=by
 cases y with
 | tmp s p=>
  simp only [bg]at h
  split at h
  · cases h
  · exact h
 | self k=>exact h
 | cell k j=>exact h
theorem Rel.arrSet (h:Rel E R ρ own N st a w){dst:Option Nat}{val:Value}{w':World}{b B:Nat}{e:TypeId}{rows rows':Rows}{rd:List Nat}(hb:nth st.blk b=some (.arr e rows))(hself:own (.self b)=some (B,0))
 (hd:∀d,dst=some d→d<N) (hk:w.keptBut w' (inT fun B' _=>B'=B))
 (hnew:Keeps w (Fn own R) w' (Fn (bg own dst (fun _=>none)) R)→BlkR E w' (Fn (bg own dst (fun _=>none)) R) ρ (bg own dst (fun _=>none)) b (some (.arr e rows'))):
 After E R ρ own N w (st.apply dst ⟨.undef,none,[(b,.arr e rows')],[],rd⟩) (a.put dst val) w':=by
 refine⟨ρ,_,fun _ _ h=>h,h.gen (own':=bg own dst (fun _=>none)) (fun B' _=>B'=B) (fun t=>dst=some t) (fun k=>k=b) hk ?_ ?_ ?_ (by rw [eV];exact h.size) (by rw [dm];exact h.defers) ?_ ?_ ?_ (fun _ _ h=>h) ?_ ?_⟩
 · rintro B' off rfl
   exact⟨.self b,0,hself,Nat.zero_le _,rfl⟩
 · intro y B' t' hy
   exact .inl ⟨y,t',cY hy,Nat.le_refl _⟩
 · intro x y B' t t' hx hy
   exact h.inj _ _ _ _ _ (cY hx) (cY hy)
 · intro t hc
   have h1:dst≠some t:=hc
   refine⟨by simp only [St.apply,jC,cE,h1,if_false], ?_,fun p=>by simp only [bg,h1,if_false]⟩
   rw [bU a dst val t (by rw [h.size];exact hd)]
   simp only [h1,if_false]
 · intro hK t hc
   have:get (st.apply dst ⟨.undef,none,[(b,.arr e rows')],[],rd⟩).fr t=.undef:=by simp only [St.apply,jC,cE,hc,if_true]
   rw [this]
   exact .undef _ _ fun p=>by simp only [bg,hc,if_true]
 · simp only [St.apply,bz,ba,List.append_nil,de,List.length_set];exact h.rho
 · intro k hkb
   refine⟨?_,rfl,fun j=>rfl⟩
   simp only [St.apply,bz,ba,List.append_nil]
   rw [gj _ _ _ _ (by rw [hb];rfl)]
   simp [hkb]
 · intro hK k hkb
   subst hkb
   simp only [St.apply,bz,ba,List.append_nil]
   rw [gj _ _ _ _ (by rw [hb];rfl)]
   simp only [if_true]
   exact hnew hK
theorem pu (row cs:Row)(o j:Nat)(h:o+cs.length≤row.length):(dT row o cs)[j]? =if o≤j∧j<o+cs.length then cs[j - o]? else row[j]? :=by
 unfold dT
 simp only [ba,bp,aN,bq]
 by_cases h1:j<o
 · rw [List.getElem?_append_left (by simp;omega),if_neg (by omega),List.getElem?_take_of_lt h1]
 · rw [List.getElem?_append_right (by simp;omega),List.length_take,Nat.min_eq_left (by omega)]
   by_cases h2:j<o+cs.length
   · rw [if_pos ⟨by omega,h2⟩,List.getElem?_append_left (by omega)]
   · rw [if_neg (by omega),List.getElem?_append_right (by omega),List.getElem?_drop]
     congr 1
     omega
theorem lQ {row cs:Row}{ks ks':List CK}{o:Nat}(h1:row.map Cell.kind=ks)(h2:cs.map Cell.kind=ks')(h3:(ks.drop o).take ks'.length=ks')(h:o+cs.length≤row.length):(dT row o cs).map Cell.kind=ks:=by
 apply List.ext_getElem?
 intro j
 rw [List.getElem?_map,pu row cs o j h]
 have hl:cs.length=ks'.length:=by rw [←h2];simp
 split
 · rename_i hj
   rw [←List.getElem?_map,h2,←h3,List.getElem?_take_of_lt (by omega),List.getElem?_drop]
   congr 1
   omega
 · rw [←List.getElem?_map,h1]
theorem ud (G:Good P E)(h:Rel E R ρ own N st a w){t:TypeId}{ty:Ty}(ht:E.tys t=some ty){b o:Nat}{cells l:List AC}{v:AV}{vp val:Value}{pp pv:aS}{dis:Option Nat}(hb:nth st.blk b=some (.var cells))(hp:AVR E w (Fn own R) ρ (.one (.ptr b o)) vp pp)
 (hpv:∀q B s,pv q=some (B,s)→∃x,dis=some x∧own (.tmp x q)=some (B,s)) (h2:l=[]∨o+l.length≤cells.length) (c1:l.length=ty.size) (c2:val.cells.size=ty.size)
 (c3:∀(i:Nat) (h1:i<l.length),∃(h2:i<val.cells.size),AR E w (Fn own R) ρ l[i] val.cells[i] (kW v pv i)) {dst:Option Nat} (hd:∀d,dst=some d→d<N):
 ∃w',(Instr.storeAt t vp val).run P w=.ok () w'∧After E R ρ own N w (st.apply dst ⟨.undef,dis,[(b,.var (fh cells o l))],[],[b]⟩) (a.put dst undef) w':=by
 have hT:=G.ty t ty ht
 have hpos:=hT.pos
 have hle:o+l.length≤cells.length:=by
  rcases h2 with rfl | h2
  · simp at c1;omega
  · exact h2
 have hbr:=h.blk b
 rw [hb]at hbr
 obtain⟨B,hB,hself,hnone,g,hg⟩:=zQ hbr
 obtain⟨B',hB',rfl⟩:=hp.get_one.inv_ptr
 rw [hB]at hB'
 cases hB'
 have hlist:val.cells.toList.length=l.length:=by simp [c1,c2]
 have hone:∀x∈val.cells.toList,x.oneCell'=true:=by
  intro x hx
  obtain⟨i,hi,rfl⟩:=List.getElem_of_mem hx
  obtain⟨h4,h5⟩:=c3 i (by omega)
  have:=h5.oneCell.2
  simpa using this
 have hrun:=d7 (P:=P) val.cells.toList w B o 0 hone (fun j hj=>by
  have:=hg (o+j) (by omega)
  exact⟨⟨_,this.1⟩,this.2.1⟩)
 refine⟨cX w B o val.cells.toList, ?_, ?_⟩
 · simp only [Instr.storeAt,Instr.sureAddr,Sem.run_bind,Sem.run_pure,Result.andThen_ok,storeVar,hT.run_size]
   rw [if_neg (by rw [c2];simp)]
   exact hrun
 · have hk:w.keptBut (cX w B o val.cells.toList) (inT fun B' _=>B'=B):=fZ _ _ _ _ _ fun _ _=>rfl
   have hov:=eX (l:=cells) (o:=o) (xs:=l) hle
   have hinj:∀i j B t t',kW v pv i=some (B,t)→kW v pv j=some (B,t')→i=j:=by
    intro i j B t t' e1 e2
    cases v with
    | one c=>
     simp only [kW]at e1 e2
     split at e1
     · split at e2
       · omega
       · cases e2
     · cases e1
    | agg cs=>
     simp only [kW]at e1 e2
     obtain⟨x,hx,q1⟩:=hpv _ _ _ e1
     obtain⟨x',hx',q2⟩:=hpv _ _ _ e2
     have:=h.inj _ _ _ _ _ q1 q2
     injection this with _ h6
     injection h6
    | undef=>cases e1
    | tup l=>cases e1
   have hsrcC:∀i B t,kW v pv i=some (B,t)→∃x q,dis=some x∧own (.tmp x q)=some (B,t):=by
    intro i B t e
    cases v with
    | one c=>
     simp only [kW]at e
     split at e
     · obtain⟨x,hx,q⟩:=hpv _ _ _ e;exact⟨x,_,hx,q⟩
     · cases e
    | agg cs=>obtain⟨x,hx,q⟩:=hpv _ _ _ e;exact⟨x,_,hx,q⟩
    | undef=>cases e
    | tup l=>cases e
   refine h.write (oV:=fun _=>none) (oC:=fun j=>if o≤j∧j<o+l.length then kW v pv (j - o)else own (.cell b j)) hb hB hd hk (fun x=>(∃t p,dis=some t∧x=.tmp t p)∨∃j,x=.cell b j) (fun x hx=>hx) ?_ ?_ ?_ ?_ ?_ ?_ ?_ ?_
   · intro p B t e;cases e
   · intro j B t e
     split at e
     · obtain⟨x,q,hx,e2⟩:=hsrcC _ _ _ e
       exact⟨_,.inl ⟨x,q,hx,rfl⟩,e2⟩
     · exact⟨_,.inr ⟨j,rfl⟩,e⟩
   · intro p p' B t t' e;cases e
   · intro j j' B t t' e e'
     split at e
     · split at e'
       · have:=hinj _ _ _ _ _ e e';omega
       · obtain⟨x,q,hx,e2⟩:=hsrcC _ _ _ e
         have:=h.inj _ _ _ _ _ e2 e'
         cases this
     · split at e'
       · obtain⟨x,q,hx,e2⟩:=hsrcC _ _ _ e'
         have:=h.inj _ _ _ _ _ e2 e
         cases this
       · have:=h.inj _ _ _ _ _ e e'
         injection this
   · intro p j B t t' e;cases e
   · intro hK;exact .undef _ _ fun _=>rfl
   · intro j hj
     rw [hov]at hj
     rw [if_neg (by omega)]
     exact hnone j hj
   · intro hK j hj
     rw [hov]at hj
     obtain⟨k1,k2,k3⟩:=hg j hj
     rcases jF (l:=cells) (o:=o) (xs:=l) hle j (by omega)with⟨q1,q2,q3⟩ | ⟨q1,q2,q3⟩
     · obtain⟨h4,h5⟩:=c3 (j - o) q2
       rw [if_pos ⟨q1,by omega⟩]
       refine⟨val.cells[j - o], ?_, ?_, ?_⟩
       · have:=fY val.cells.toList w B o (j - o) (by omega) ⟨_,by rw [show o+(j - o)=j by omega];exact k1⟩
         rw [show o+(j - o)=j by omega]at this
         simpa using this
       · rw [cK];exact k2
       · rw [q3]
         exact h5.keep hK (fun _ _ h=>h) fun B t e j _ hh=>dv hk hh
     · rw [if_neg (by omega)]
       refine⟨g j, ?_, ?_, ?_⟩
       · rw [eo _ _ _ _ _ _ (by omega)];exact k1
       · rw [cK];exact k2
       · rw [q3]
         exact k3.keep hK (fun _ _ h=>h) fun B t e j _ hh=>dv hk hh
theorem rF (G:Good P E)(h:Rel E R ρ own N st a w){t:TypeId}{p v:AV}{vp val:Value}{pp pv:aS}{dis:Option Nat}(hp:AVR E w (Fn own R) ρ p vp pp)(hv:AVR E w (Fn own R) ρ v val pv)
 (hpv:∀q B s,pv q=some (B,s)→∃x,dis=some x∧own (.tmp x q)=some (B,s)) {u:Upd} (hu:fB E t st p v dis some=some u) {dst:Option Nat} (hd:∀d,dst=some d→d<N):
 ∃w',(Instr.storeAt t vp val).run P w=.ok () w'∧After E R ρ own N w (st.apply dst u) (a.put dst undef) w':=by
 unfold fB at hu
 cases ht:E.tys t with
 | none=>simp [ht]at hu
 | some ty=>
  simp only [ht]at hu
  have hT:=G.ty t ty ht
  have hpos:=hT.pos
  split at hu<;>try (cases hu;done)
  rotate_left
  · rename_i b e i o
    cases hb:nth st.blk b with
    | none=>simp [hb]at hu
    | some blk=>cases blk with
     | dead=>simp [hb]at hu
     | fro=>simp [hb]at hu
     | var=>simp [hb]at hu
     | arr e' rows=>
      simp only [hb]at hu
      cases he:E.tys e with
      | none=>simp [he]at hu
      | some te=>
       simp only [he]at hu
       obtain⟨hk,hu⟩:=ab hu
       obtain⟨hi,h1⟩:=ab hu
       rw [Bool.and_eq_true]at hk
       have hee:=Nat.eq_of_beq_eq_true hk.1
       subst hee
       have hi:i<rows.length:=Nat.lt_of_succ_le (Nat.le_of_ble_eq_true hi)
       have hks:=iN hk.2
       rw [bp,aN]at hks
       obtain⟨l,hl,h1⟩:=dj h1
       obtain⟨cs,h3,hck,hcl,hll,hr⟩:=eC h1
       cases h3
       obtain⟨c1,c2,c3⟩:=kk hT.len hv hl
       obtain⟨B,hB,rfl,hself,hrk,g,hg⟩:=yS h hb he hi hp
       have hte:=(G.ty _ _ he).len
       have hrow:rows[i].map Cell.kind=te.kinds:=hrk _ (List.getElem_mem hi)
       have hrlen:rows[i].length=te.size:=by rw [←hte,←hrow];simp
       have hkl:ty.kinds.length=ty.size:=hT.len
       have hrl:o+ty.size≤te.size:=by
        have e2:=congrArg List.length hks
        rw [List.length_take,List.length_drop,hkl]at e2
        omega
       have hcsl:cs.length=ty.size:=by omega
       have hfl:=bJ (bS hte hrk)
       have hmul:i*te.size+te.size≤rows.flatten.length:=by
        rw [hfl]
        have:=Nat.mul_le_mul_right te.size (show i+1≤rows.length by omega)
        rw [Nat.add_mul]at this
        omega
       have hlist:val.cells.toList.length=ty.size:=by simp [c2]
       have hone:∀x∈val.cells.toList,x.oneCell'=true:=by
        intro x hx
        obtain⟨j,hj,rfl⟩:=List.getElem_of_mem hx
        obtain⟨h4,h5⟩:=c3 j (by omega)
        have:=h5.oneCell.2
        simpa using this
       have hrun:=d7 (P:=P) val.cells.toList w B (i*te.size+o) 0 hone (fun j hj=>by
        have:=hg (i*te.size+o+j) (by omega)
        exact⟨⟨_,this.1⟩,this.2.1⟩)
       refine⟨cX w B (i*te.size+o) val.cells.toList, ?_, ?_⟩
       · simp only [Instr.storeAt,Instr.sureAddr,Sem.run_bind,Sem.run_pure,Result.andThen_ok,storeVar,hT.run_size]
         rw [if_neg (by rw [c2];simp)]
         exact hrun
       · have hkp:w.keptBut (cX w B (i*te.size+o) val.cells.toList) (inT fun B' _=>B'=B):=fZ _ _ _ _ _ fun _ _=>rfl
         refine h.arrSet hb hself hd hkp fun hK=> .inr ⟨B,te,hB,hself, ?_,he, ?_, ?_,fun k hk'=> ?_⟩
         · intro j
           have hbr:=h.blk b
           rw [hb]at hbr
           rcases hbr with⟨_,h2,_⟩ | ⟨_,_,_,_,h3,_⟩
           · rw [hself]at h2;cases h2
           · exact h3 j
         · intro r hr'
           rw [de]at hr'
           rcases List.mem_or_eq_of_mem_set hr' with hm | rfl
           · exact hrk r hm
           · rw [cg hi]
             exact lQ hrow hck (by rw [hkl];exact hks) (by omega)
         · have hbr:=h.blk b
           rw [hb]at hbr
           rcases hbr with⟨_,h2,_⟩ | ⟨B2,_,hB2,_,_,_,_,h7,_⟩
           · rw [hself]at h2;cases h2
           · rw [hB]at hB2
             cases hB2
             exact hK.still B 0 h7
         · have hev:∀r∈setN rows i (dT (rA rows i) o cs),r.map Cell.kind=te.kinds:=by
            intro r hr'
            rw [de]at hr'
            rcases List.mem_or_eq_of_mem_set hr' with hm | rfl
            · exact hrk r hm
            · rw [cg hi]
              exact lQ hrow hck (by rw [hkl];exact hks) (by omega)
           have hlen':(setN rows i (dT (rA rows i) o cs)).length=rows.length:=by rw [de,List.length_set]
           have hfl':=bJ (bS hte hev)
           rw [hlen']at hfl'
           have hposs:0<te.size:=by have:=(G.ty _ _ he).pos;omega
           have hdm:k=k / te.size*te.size+k%te.size:=by rw [Nat.mul_comm];exact(Nat.div_add_mod k te.size).symm
           have hmod:k%te.size<te.size:=Nat.mod_lt _ hposs
           have hdiv:k / te.size<rows.length:=by rw [Nat.div_lt_iff_lt_mul hposs];omega
           have hold:=hg k (by omega)
           obtain⟨q1,q2,q3⟩:=gv (bS hte hrk) hdiv hmod
           obtain⟨p1,p2,p3⟩:=gv (bS hte hev) (i:=k / te.size) (by omega) hmod
           have e1:(setN rows i (dT (rA rows i) o cs)).flatten[k]=((setN rows i (dT (rA rows i) o cs))[k / te.size]'(by omega))[k%te.size]'p2:=by
            rw [←p3]
            congr 1
           have e2:rows.flatten[k]'(by omega)=rows[k / te.size][k%te.size]'q2:=by
            rw [←q3]
            congr 1
           rw [e1]
           have e3:((setN rows i (dT (rA rows i) o cs))[k / te.size]'(by omega))[k%te.size]? =if k / te.size=i∧o≤k%te.size∧k%te.size<o+cs.length then cs[k%te.size - o]? else rows[k / te.size][k%te.size]? :=by
            simp only [de,List.getElem_set]
            by_cases hki:i=k / te.size
            · rw [if_pos hki,cg hi,pu _ _ _ _ (by omega)]
              subst hki
              simp
            · rw [if_neg hki,if_neg (fun hh=>hki hh.1.symm)]
           rw [List.getElem?_eq_getElem p2]at e3
           by_cases hin:k / te.size=i∧o≤k%te.size∧k%te.size<o+cs.length
           · rw [if_pos hin,List.getElem?_eq_getElem (by omega)]at e3
             rw [Option.some.inj e3]
             have hkk:k=i*te.size+o+(k%te.size - o):=by rw [←hin.1];omega
             obtain⟨h4,h5⟩:=c3 (k%te.size - o) (by omega)
             refine⟨val.cells[k%te.size - o], ?_, ?_, ?_⟩
             · have:=fY val.cells.toList w B (i*te.size+o) (k%te.size - o) (by omega) ⟨_,by rw [←hkk];exact hold.1⟩
               rw [←hkk]at this
               simpa using this
             · rw [cK];exact hold.2.1
             · exact(nL (lN h5) (hr _ (by omega) (by omega) (by omega))).keep hK
           · rw [if_neg hin,List.getElem?_eq_getElem q2]at e3
             rw [Option.some.inj e3,←e2]
             refine⟨g k, ?_, ?_,hold.2.2.keep hK⟩
             · rw [eo _ _ _ _ _ _ ?_]
               · exact hold.1
               · by_cases hki:k / te.size=i
                 · rw [hlist]
                   have:¬(o≤k%te.size∧k%te.size<o+cs.length):=fun hh=>hin ⟨hki,hh⟩
                   rw [hki]at hdm
                   omega
                 · rcases Nat.lt_or_gt_of_ne hki with hlt | hgt
                   · have:=Nat.mul_le_mul_right te.size (show k / te.size+1≤i by omega)
                     rw [Nat.add_mul]at this
                     omega
                   · have:=Nat.mul_le_mul_right te.size (show i+1≤k / te.size by omega)
                     rw [Nat.add_mul]at this
                     rw [hlist]
                     omega
             · rw [cK];exact hold.2.1
  rename_i b o
  cases hb:nth st.blk b with
  | none=>simp [hb]at hu
  | some blk=>cases blk with
   | dead=>simp [hb]at hu
   | fro=>simp [hb]at hu
   | arr=>simp [hb]at hu
   | var cells=>
    simp only [hb]at hu
    obtain⟨l,hl,h1⟩:=dj hu
    obtain⟨h2,h3⟩:=cc h1
    cases h3
    obtain⟨c1,c2,c3⟩:=kk hT.len hv hl
    exact ud G h ht hb hp hpv h2 c1 c2 c3 hd
theorem xj (G:Good P E)(h:Rel E R ρ own N st a w){t:TypeId}{p v:AV}{vp val:Value}{pp:aS}(hp:AVR E w (Fn own R) ρ p vp pp)(hv:AVR E w (Fn own R) ρ v val (fun _=>none))
 {u:Upd} (hu:lb E t st p v some=some u) {dst:Option Nat} (hd:∀d,dst=some d→d<N):
 ∃w',(Instr.storeAt t vp val).run P w=.ok () w'∧After E R ρ own N w (st.apply dst u) (a.put dst undef) w':=by
 unfold lb at hu
 cases ht:E.tys t with
 | none=>simp [ht]at hu
 | some ty=>
  simp only [ht]at hu
  have hT:=G.ty t ty ht
  split at hu<;>try (cases hu;done)
  rename_i b o l
  split at hu<;>try (cases hu;done)
  rename_i cells hb
  obtain⟨hl,hu⟩:=ab hu
  have hl:l.length=ty.size:=by rw [←bq];exact Nat.eq_of_beq_eq_true hl
  obtain⟨h2,h3⟩:=cc hu
  cases h3
  cases hv with
  | agg _ g _ hr ho=>
   refine ud G h ht (v:=.agg l) (pv:=fun _=>none) hb hp (fun q B s e=>by cases e) h2 hl (by simp [Value.cells,hl]) (fun i h1=>⟨by simp [Value.cells,h1], ?_⟩) hd
   have:=hr i h1
   simpa [Value.cells,kW,h1]using this
end Go.Abs
namespace Go.Abs
variable {E:Env} {P:Program} {R:aG} {ρ:List Nat} {own:OI→aH} {N:Nat} {st:St} {a:Act} {w:World} {F:aG}
theorem w8 {k:CK}{c:AC}{z:Value}(h:lZ k=some c)(hz:ly k=some z):AR E w F ρ c z none:=by
 cases k<;>simp only [lZ,ly,Option.some.injEq,reduceCtorEq]at h hz<;>subst h hz
 · exact .int _ _
 · exact .bool _
 · exact .str []
 · exact .full _ _ _ _ (.empty _ _ _)
 · exact .nilp
 · exact .nilf
theorem cw {β:Type}:∀{ks:List CK} {K:List AC→Option β} {r:β},eE ks K=some r→∃l,K l=some r∧l.length=ks.length∧∀(i:Nat) (h1:i<l.length) (h2:i<ks.length),lZ ks[i]=some l[i]
 | [],K,r,h=>⟨[],h,rfl,fun i h=>by simp at h⟩
 | k::ks,K,r,h=>by
  simp only [eE]at h
  cases hc:lZ k with
  | none=>simp [hc]at h
  | some c=>
   simp only [hc]at h
   obtain⟨l,h1,h2,h3⟩:=cw h
   refine⟨c::l,h1,by simp [h2],fun i g1 g2=> ?_⟩
   cases i with
   | zero=>exact hc
   | succ i=>exact h3 i (by simpa using g1) (by simpa using g2)
theorem d8 {z:Value}{ks:List CK}(h:z.cells.toList.map some=ks.map ly):z.cells.size=ks.length∧∀(i:Nat) (h1:i<z.cells.size) (h2:i<ks.length),ly ks[i]=some z.cells[i]:=by
 have hl:=congrArg List.length h
 simp only [List.length_map,Array.length_toList]at hl
 refine⟨hl,fun i h1 h2=> ?_⟩
 have:(z.cells.toList.map some)[i]? =(ks.map ly)[i]? :=by rw [h]
 simp only [List.getElem?_map,Array.getElem?_toList,h1,getElem?_pos,h2,Option.map_some,Option.some.injEq]at this
 exact this.symm
theorem hG {z:Value}{ks:List CK}(h:z.cells.toList.map some=ks.map ly){l:List AC}(hl:l.length=ks.length)(hz:∀(i:Nat) (h1:i<l.length) (h2:i<ks.length),lZ ks[i]=some l[i]):
 ∀(i:Nat) (h1:i<l.length) (h2:i<z.cells.size),AR E w F ρ l[i] z.cells[i] none:=by
 obtain⟨h1,h2⟩:=d8 h
 intro i g1 g2
 exact w8 (hz i g1 (by omega)) (h2 i g2 (by omega))
theorem cell_new (w:World)(c:Array Value)(t:TypeId)(j:Nat)(hj:j<c.size):cell (w.alloc (.cells c t)) w.heap.size j=some c[j]:=by
 rw [cell,World.cell?_alloc_new];simp [hj]
theorem im (w:World)(c:Array Value)(t:TypeId)(j:Nat):dl (w.alloc (.cells c t)) w.heap.size j=false:=World.frozen?_alloc_new ..
theorem du (w:World)(t:TypeId)(c:Array Value):(newRow t c).run P w=.ok ⟨w.heap.size,0,none⟩ (w.alloc (.cells c t)):=by
 simp [newRow]
theorem wF (h:Rel E R ρ own N st a w){t:TypeId}{c:Array Value}{l:List AC}{oC:Nat→aH}{dst dis:Option Nat}(hd:∀d,dst=some d→d<N)(hl:l.length=c.size)
 (hr:∀(i:Nat) (h1:i<l.length) (h2:i<c.size),AR E w (Fn own R) ρ l[i] c[i] (oC i)) (hC0:∀j,l.length≤j→oC j=none)
 (hoC:∀j B t,oC j=some (B,t)→∃x p,dis=some x∧own (.tmp x p)=some (B,t))
 (hCC:∀p p' B t t',oC p=some (B,t)→oC p'=some (B,t')→p=p'):
 After E R ρ own N w (st.apply dst ⟨.one (.ptr (bI st.blk) 0),dis,[],[.var l],[]⟩) (a.put dst (.pointer (some ⟨w.heap.size,0,none⟩))) (w.alloc (.cells c t)):=by
 refine h.make hd (World.keptBut_alloc _ _ _) (Nat.le_refl _) (by simp) hoC hCC hC0 fun F' hK _ j hj=>⟨c[j],cell_new _ _ _ _ (by omega),im .., ?_⟩
 exact(hr j hj (by omega)).keep hK (fun b B hb=>by rw [bj _ _ _ (dE hb)];exact hb) fun B t' e j _ hh=>dv (World.keptBut_alloc w (.cells c t) (inT fun _ _=>False)) hh
theorem yH (G:Good P E)(h:Rel E R ρ own N st a w){t:TypeId}{ty:Ty}(ht:E.tys t=some ty){u:Upd}(hu:(eE ty.kinds fun z=>some (⟨.one (.ptr (bI st.blk) 0),none,[],[.var z],[]⟩:Upd))=some u){dst:Option Nat}(hd:∀d,dst=some d→d<N):
 ∃val w',(Instr.alloc t true (.tuple #[])).run P w=.ok val w'∧After E R ρ own N w (st.apply dst u) (a.put dst val) w':=by
 have hT:=G.ty t ty ht
 obtain⟨l,h1,h2,h3⟩:=cw hu
 cases h1
 obtain⟨z,hz,hz2⟩:=hT.run_zero (w:=w)
 obtain⟨hs,_⟩:=d8 hz2
 refine⟨.pointer (some ⟨w.heap.size,0,none⟩),w.alloc (.cells z.cells t), ?_, ?_⟩
 · simp only [Instr.alloc,Sem.run_bind,hz,Result.andThen_ok,newVar,du,Sem.run_pure]
 · exact wF h (oC:=fun _=>none) hd (by omega) (fun i g1 g2=>hG hz2 h2 h3 i g1 g2) (fun _ _=>rfl) (fun j B t e=>by cases e) (fun p p' B t t' e=>by cases e)
theorem wC (G:Good P E)(h:Rel E R ρ own N st a w){t:TypeId}{ty:Ty}(ht:E.tys t=some ty){v:AV}{val:Value}{pv:aS}{dis:Option Nat}(hv:AVR E w (Fn own R) ρ v val pv)
 (hpv:∀q B s,pv q=some (B,s)→∃x,dis=some x∧own (.tmp x q)=some (B,s)) {u:Upd} (hu:(eF ty v fun l=>some (⟨.one (.ptr (bI st.blk) 0),dis,[],[.var l],[]⟩:Upd))=some u) {dst:Option Nat} (hd:∀d,dst=some d→d<N):
 ∃val' w',(Instr.box t val).run P w=.ok val' w'∧After E R ρ own N w (st.apply dst u) (a.put dst val') w':=by
 have hT:=G.ty t ty ht
 obtain⟨l,hl,h1⟩:=dj hu
 cases h1
 obtain⟨c1,c2,c3⟩:=kk hT.len hv hl
 refine⟨.pointer (some ⟨w.heap.size,0,none⟩),w.alloc (.cells val.cells t), ?_, ?_⟩
 · simp only [Instr.box,Sem.run_bind,newVar,du,Result.andThen_ok,Sem.run_pure]
 · refine wF h (oC:=fun j=>if j<l.length then kW v pv j else none) hd (by omega) (fun i g1 g2=> ?_) (fun j hj=>if_neg (by omega)) (fun j B t e=> ?_) (fun j j' B t t' e e'=> ?_)
   · rw [if_pos g1]
     exact(c3 i g1).2
   · split at e
     · cases v with
       | one c=>
        simp only [kW]at e
        split at e
        · obtain⟨x,hx,q⟩:=hpv _ _ _ e;exact⟨x,_,hx,q⟩
        · cases e
       | agg cs=>obtain⟨x,hx,q⟩:=hpv _ _ _ e;exact⟨x,_,hx,q⟩
       | undef=>cases e
       | tup l=>cases e
     · cases e
   · split at e
     · split at e'
       · cases v with
         | one c=>
          simp only [kW]at e e'
          split at e
          · split at e'
            · omega
            · cases e'
          · cases e
         | agg cs=>
          simp only [kW]at e e'
          obtain⟨x,hx,q1⟩:=hpv _ _ _ e
          obtain⟨x',hx',q2⟩:=hpv _ _ _ e'
          have:=h.inj _ _ _ _ _ q1 q2
          injection this with _ h6
          injection h6
         | undef=>cases e
         | tup l=>cases e
       · cases e'
     · cases e
theorem zJ (off:Nat):∀(vs:List Value) (k:Nat) (cs:Array Value),off+k+vs.length≤cs.size→
 ((vs.zipIdx k).foldl (fun cs (c,j)=>cs.setIfInBounds (off+j) c) cs).size=cs.size∧
 ∀i,((vs.zipIdx k).foldl (fun cs (c,j)=>cs.setIfInBounds (off+j) c) cs)[i]? =if off+k≤i∧i<off+k+vs.length then vs[i - (off+k)]? else cs[i]?
 | [],k,cs,_=>by simp;intro i h1 h2;omega
 | v::vs,k,cs,h=>by
  simp only [List.length_cons]at h
  obtain⟨h1,h2⟩:=zJ off vs (k+1) (cs.setIfInBounds (off+k) v) (by simp;omega)
  simp only [List.zipIdx_cons,List.foldl_cons]
  refine⟨by rw [h1];simp,fun i=> ?_⟩
  rw [h2]
  by_cases hi:i=off+k
  · subst hi
    have hlt:off+k<cs.size:=by omega
    rw [if_neg (by omega),if_pos (by simp)]
    simp [hlt]
  · by_cases hr:off+(k+1)≤i∧i<off+(k+1)+vs.length
    · rw [if_pos hr,if_pos (by simp;omega),show i - (off+k)=(i - (off+(k+1)))+1 by omega]
      simp
    · rw [if_neg hr,if_neg (by simp;omega)]
      rw [Array.getElem?_setIfInBounds_ne (by omega)]
theorem oK {place:Nat→Option (Nat×Nat)}{cs:Array Value}{i:Nat}{v:Value}{rest:List (Nat×Value)}{off n:Nat}(hp:place i=some (off,n))(hn:v.cells.size=n)(hb:off+n≤cs.size):
 ∃cs':Array Value,Instr.fill place cs ((i,v)::rest)=Instr.fill place cs' rest∧cs'.size=cs.size∧∀k,cs'[k]? =if off≤k∧k<off+n then v.cells[k - off]? else cs[k]? :=by
 have hf:=zJ off v.cells.toList 0 cs (by simp;omega)
 refine⟨v.cells.zipIdx.foldl (fun cs (c,j)=>cs.setIfInBounds (off+j) c) cs, ?_, ?_, ?_⟩
 · simp only [Instr.fill,hp]
   rw [if_neg (by simp;omega)]
 · rw [←Array.foldl_toList,Array.toList_zipIdx]
   exact hf.1
 · intro k
   rw [←Array.foldl_toList,Array.toList_zipIdx,hf.2]
   simp [hn]
end Go.Abs
namespace Go.Abs
variable {E:Env} {P:Program} {R:aG} {ρ:List Nat} {own:OI→aH} {N:Nat} {st:St} {a:Act} {w:World} {F:aG}
theorem EK (v:AV)(i:Nat):kW v (fun _=>none) i=none:=by cases v<;>simp [kW]
theorem uJ {ty:Ty}(hl:ty.kinds.length=ty.size){v:AV}{val:Value}(hv:AVR E w F ρ v val (fun _=>none)){l:List AC}(h:eF ty v some=some l):
 l.length=ty.size∧val.cells.size=ty.size∧∀(i:Nat) (_:i<l.length) (h2:i<val.cells.size),AR E w F ρ l[i] val.cells[i] none:=by
 obtain⟨h1,h2,h3⟩:=kk hl hv h
 refine⟨h1,h2,fun i g1 g2=> ?_⟩
 obtain⟨_,h4⟩:=h3 i g1
 rwa [EK]at h4
inductive PartsR (E:Env) (w:World) (F:aG) (ρ:List Nat):List (Nat×AV)→List (Nat×Value)→Prop
 | nil:PartsR E w F ρ [] []
 | cons (i:Nat) (v:AV) (val:Value) (r:List (Nat×AV)) (r':List (Nat×Value)) (h:AVR E w F ρ v val (fun _=>none)) (hr:PartsR E w F ρ r r'):PartsR E w F ρ ((i,v)::r) ((i,val)::r')
theorem qi (h:Rel E R ρ own N st a w):∀(l:List (Nat×Operand)),PartsR E w (Fn own R) ρ (gw st.fr l) (l.map fun(i,x)=>(i,a.eval x))
 | []=> .nil
 | (i,x)::r=> .cons i _ _ _ _ (a9 h x).dis (qi h r)
def uZ (own:OI→aH):Option Nat→aS
 | some x=>fun p=>own (.tmp x p)
 | none=>fun _=>none
inductive PartsO (E:Env) (w:World) (F:aG) (ρ:List Nat) (oX:aS):Bool→List (Nat×AV)→List (Nat×Value)→Prop
 | nil (b:Bool):PartsO E w F ρ oX b [] []
 | cons (b:Bool) (i:Nat) (v:AV) (val:Value) (r:List (Nat×AV)) (r':List (Nat×Value)) (h:AVR E w F ρ v val (fun _=>none)) (hr:PartsO E w F ρ oX b r r'):PartsO E w F ρ oX b ((i,v)::r) ((i,val)::r')
 | own (i:Nat) (c:AC) (val:Value) (r:List (Nat×AV)) (r':List (Nat×Value)) (h:AVR E w F ρ (.one c) val oX) (hr:PartsO E w F ρ oX false r r'):PartsO E w F ρ oX true ((i,.one c)::r) ((i,val)::r')
theorem kP (h:Rel E R ρ own N st a w)(oX:aS)(b:Bool):∀(l:List (Nat×Operand)),PartsO E w (Fn own R) ρ oX b (gw st.fr l) (l.map fun(i,x)=>(i,a.eval x))
 | []=> .nil b
 | (i,x)::r=> .cons b i _ _ _ _ (a9 h x).dis (kP h oX b r)
theorem ja (h:Rel E R ρ own N st a w){x:Nat}{c:AC}(hx:get st.fr x=.one c):∀(l:List (Nat×Operand)),PartsO E w (Fn own R) ρ (fun p=>own (.tmp x p)) true (iy st.fr x l) (l.map fun(i,x)=>(i,a.eval x))
 | []=> .nil true
 | (i,y)::r=>by
  simp only [iy,List.map_cons]
  cases y with
  | tmp t=>
   simp only [fw]
   by_cases e:t=x
   · subst e
     simp only [co,cond_true,ev,hx]
     have:=a9 h (.tmp t)
     simp only [ev,hx,ve]at this
     exact .own i c _ _ _ this (kP h _ _ r)
   · simp only [dH e,cond_false]
     exact .cons true i _ _ _ _ (a9 h (.tmp t)).dis (ja h hx r)
  | const v=>exact .cons true i _ _ _ _ (a9 h (.const v)).dis (ja h hx r)
  | func f=>exact .cons true i _ _ _ _ (a9 h (.func f)).dis (ja h hx r)
  | global g=>exact .cons true i _ _ _ _ (a9 h (.global g)).dis (ja h hx r)
theorem la {tk:List Nat}{fr:List (Nat×AV)}{x:Nat}:∀{l:List (Nat×Operand)},ie tk fr l=some x→∃c,get fr x=.one c
 | [],h=>by cases h
 | (i,y)::r,h=>by
  simp only [ie]at h
  split at h
  · split at h
    · rename_i hc;cases h;exact⟨_,hc⟩
    · exact la h
  · exact la h
theorem lH {β:Type}{oX:aS}{place:Nat→Option (Nat×Ty)}{place':Nat→Option (Nat×Nat)}(hplace:∀i off tf,place i=some (off,tf)→place' i=some (off,tf.size)∧tf.kinds.length=tf.size∧1≤tf.size):
 ∀{b:Bool} {parts:List (Nat×AV)} {cp:List (Nat×Value)} {z:List AC} {cs:Array Value} {k0:Option Nat} {K:List AC→Option β} {r:β},PartsO E w F ρ oX b parts cp→z.length=cs.size→(b=true→k0=none)→
 (∀(k:Nat) (_:k<z.length) (h2:k<cs.size),AR E w F ρ z[k] cs[k] (if k0=some k then oX []else none))→
 buildK.fillK place parts z K=some r→∃(z':List AC) (cs':Array Value) (k1:Option Nat),K z'=some r∧Instr.fill place' cs cp=some cs'∧z'.length=cs'.size∧cs'.size=cs.size∧(∀k,k1=some k→k0=some k∨b=true)∧
  ∀(k:Nat) (_:k<z'.length) (h2:k<cs'.size),AR E w F ρ z'[k] cs'[k] (if k1=some k then oX []else none):=by
 intro b parts cp z cs k0 K r hp
 induction hp generalizing z cs k0 with
 | nil b=>intro hl _ hr h;exact⟨z,cs,k0,h,rfl,hl,rfl,fun k hk=> .inl hk,hr⟩
 | cons b i v val rest rest' hv hrest ih=>
  intro hl hb hr h
  simp only [buildK.fillK]at h
  cases hpl:place i with
  | none=>simp [hpl]at h
  | some q=>
   obtain⟨off,tf⟩:=q
   simp only [hpl]at h
   obtain⟨p1,p2,p3⟩:=hplace i off tf hpl
   obtain⟨l,hcl,h1⟩:=dj h
   obtain⟨h2,h3⟩:=cc h1
   obtain⟨c1,c2,c3⟩:=uJ p2 hv hcl
   have hle:off+l.length≤z.length:=by
    rcases h2 with rfl | h2
    · simp at c1;omega
    · exact h2
   obtain⟨cs1,f1,f2,f3⟩:=oK (rest:=rest') p1 c2 (by omega:off+tf.size≤cs.size)
   have hov:=eX (l:=z) (o:=off) (xs:=l) hle
   obtain⟨z',cs',k1,g1,g2,g3,g4,g6,g5⟩:=ih (z:=fh z off l) (cs:=cs1) (k0:=k0.bind fun k=>if off≤k∧k<off+l.length then none else some k) (by omega) (fun hbt=>by rw [hb hbt];rfl) (fun k k1 k2=>by
    have hk:=f3 k
    rw [getElem?_pos cs1 k k2]at hk
    rcases jF (l:=z) (o:=off) (xs:=l) hle k k1 with⟨q1,q2,q3⟩ | ⟨q1,q2,q3⟩
    · rw [if_pos (by omega),getElem?_pos val.cells (k - off) (by omega)]at hk
      rw [q3,Option.some.inj hk,if_neg]
      · exact c3 _ _ _
      · cases k0 with
        | none=>simp
        | some k'=>
         simp only [Option.bind_some]
         split
         · simp
         · intro e;cases e;omega
    · rw [if_neg (by omega),getElem?_pos cs k (by omega)]at hk
      rw [q3,Option.some.inj hk]
      have:=hr k q2 (by omega)
      cases k0 with
      | none=>simpa using this
      | some k'=>
       by_cases e:k'=k
       · subst e
         rw [Option.bind_some,if_neg (show¬(off≤k'∧k'<off+l.length)by omega)]
         exact this
       · have e2:¬(some k'=some k):=by simpa using e
         rw [if_neg e2]at this
         rw [if_neg]
         · exact this
         · simp only [Option.bind_some]
           split
           · simp
           · exact e2) h3
   refine⟨z',cs',k1,g1,by rw [f1];exact g2,g3,by omega,fun k hk=> ?_,g5⟩
   rcases g6 k hk with h | h
   · cases k0 with
     | none=>cases h
     | some k'=>
      simp only [Option.bind_some]at h
      split at h
      · cases h
      · exact .inl h
   · exact .inr h
 | own i c val rest rest' hv hrest ih=>
  intro hl hb hr h
  have hb0:=hb rfl
  subst hb0
  simp only [buildK.fillK]at h
  cases hpl:place i with
  | none=>simp [hpl]at h
  | some q=>
   obtain⟨off,tf⟩:=q
   simp only [hpl]at h
   obtain⟨p1,p2,p3⟩:=hplace i off tf hpl
   obtain⟨l,hcl,h1⟩:=dj h
   obtain⟨h2,h3⟩:=cc h1
   obtain⟨c1,c2,c3⟩:=kk p2 hv hcl
   have hle:off+l.length≤z.length:=by
    rcases h2 with rfl | h2
    · simp at c1;omega
    · exact h2
   obtain⟨cs1,f1,f2,f3⟩:=oK (rest:=rest') p1 c2 (by omega:off+tf.size≤cs.size)
   have hov:=eX (l:=z) (o:=off) (xs:=l) hle
   obtain⟨z',cs',k1,g1,g2,g3,g4,g6,g5⟩:=ih (z:=fh z off l) (cs:=cs1) (k0:=some off) (by omega) (fun hbt=>by cases hbt) (fun k k1 k2=>by
    have hk:=f3 k
    rw [getElem?_pos cs1 k k2]at hk
    rcases jF (l:=z) (o:=off) (xs:=l) hle k k1 with⟨q1,q2,q3⟩ | ⟨q1,q2,q3⟩
    · rw [if_pos (by omega),getElem?_pos val.cells (k - off) (by omega)]at hk
      rw [q3,Option.some.inj hk]
      obtain⟨_,h4⟩:=c3 (k - off) q2
      simp only [kW]at h4
      by_cases e:k=off
      · subst e;simpa using h4
      · rw [if_neg (by omega)]at h4
        rw [if_neg (by simpa using Ne.symm e)]
        exact h4
    · rw [if_neg (by omega),getElem?_pos cs k (by omega)]at hk
      rw [q3,Option.some.inj hk]
      have:=hr k q2 (by omega)
      rw [if_neg (by simp)]at this
      rw [if_neg]
      · exact this
      · intro e
        cases e
        have:l.length=tf.size:=c1
        omega) h3
   exact⟨z',cs',k1,g1,by rw [f1];exact g2,g3,by omega,fun k hk=> .inr rfl,g5⟩
theorem tq {fs:List Field}(w:World)(h:∀f∈fs,∃i,P.info? f.type=some i):
 (fs.mapM fun f=>(do pure (f.offset,←sizeOf f.type):Sem (Nat×Nat))).run P w=.ok (fs.map fun f=>(f.offset,P.cellsOf f.type)) w:=by
 induction fs with
 | nil=>rfl
 | cons f fs ih=>
  obtain⟨i,hi⟩:=h f (by simp)
  have hs:(sizeOf f.type).run P w=.ok (P.cellsOf f.type) w:=by simp [sizeOf,typeInfo,hi,Program.cellsOf]
  simp only [List.mapM_cons,Sem.run_bind,hs,Result.andThen_ok,Sem.run_pure,ih fun g hg=>h g (by simp [hg]),List.map_cons]
theorem tp (G:Good P E){t:TypeId}{ty:Ty}(ht:E.tys t=some ty):P.cellsOf t=ty.size:=by
 obtain⟨i,z,h1,h2,_⟩:=(G.ty t ty ht).info
 simp [Program.cellsOf,h1,h2]
theorem rh (G:Good P E)(h:Rel E R ρ own N st a w){t:TypeId}{parts:List (Nat×AV)}{cp:List (Nat×Value)}{dis:Option Nat}{b:Bool}(hp:PartsO E w (Fn own R) ρ (uZ own dis) b parts cp){u:Upd}
 (hu:buildK E t parts some=some u) {dst:Option Nat} (hd:∀d,dst=some d→d<N):
 ∃val,(Instr.build t cp.toArray).run P w=.ok val w∧After E R ρ own N w (st.apply dst ⟨u.val,dis,[],[],[]⟩) (a.put dst val) w:=by
 unfold buildK at hu
 cases ht:E.tys t with
 | none=>simp [ht]at hu
 | some ty=>
  simp only [ht]at hu
  have hT:=G.ty t ty ht
  obtain⟨z,hz,hz2⟩:=hT.run_zero (w:=w)
  obtain⟨hs,_⟩:=d8 hz2
  have fin:∀{l:List AC} {cs:Array Value} {k1:Option Nat},l.length=cs.size→(∀(k:Nat) (_:k<l.length) (h2:k<cs.size),AR E w (Fn own R) ρ l[k] cs[k] (if k1=some k then(uZ own dis [])else none))→
   cd (.agg l) some=some u→After E R ρ own N w (st.apply dst ⟨u.val,dis,[],[],[]⟩) (a.put dst (.agg cs)) w:=by
   intro l cs k1 hl hr hk
   rw [ofK hk]
   have hval:AVR E w (Fn own R) ρ (.agg l) (.agg cs) (fun p=>match p with | [k]=>if k<l.length∧k1=some k then(uZ own dis [])else none | _=>none):=by
    have:cs=((List.range l.length).map fun i=>cs.getD i undef).toArray:=by
     apply Array.ext'
     apply List.ext_getElem
     · simp [hl]
     · intro i h1 h2
       have h5:i<cs.size:=by simpa using h1
       simp [h5]
    conv=>arg 6;rw [this]
    refine .agg l _ _ (fun i hi=> ?_) fun p hp=> ?_
    · have h5:i<cs.size:=by omega
      have:=hr i hi h5
      simpa [h5,hi]using this
    · match p,hp with
      | [],_=>rfl
      | [k],hp=>
       dsimp only
       rw [if_neg]
       rintro⟨h1,_⟩
       exact hp k h1 rfl
      | _::_::_,_=>rfl
   have hown:∀p B t',(match p with | [k]=>if k<l.length∧k1=some k then(uZ own dis [])else none | _=>none:aH)=some (B,t')→∃x k,dis=some x∧own (.tmp x [])=some (B,t')∧p=[k]∧k1=some k:=by
    intro p B t' e
    match p,e with
    | [k],e=>
     dsimp only at e
     split at e
     · rename_i hk
       cases hds:dis with
       | none=>rw [hds]at e;cases e
       | some x=>rw [hds]at e;exact⟨x,k,rfl,e,rfl,hk.2⟩
     · cases e
   refine⟨ρ,_,fun _ _ h=>h,h.put (dis:=dis) (T:=fun _ _=>False) hd (World.keptBut_refl _ _) (fun _ _ h=>h.elim) (fun p B t' e=> ?_) (fun p p' B t t' e e'=> ?_) fun hK=>hval.keep hK (fun _ _ h=>h) fun p B t e j _ hh=>hh⟩
   · obtain⟨x,k,e1,e2,_⟩:=hown p B t' e
     exact .inl ⟨x,[],t',e1,e2,Nat.le_refl _⟩
   · obtain⟨x,k,_,_,e1,e2⟩:=hown p B t e
     obtain⟨x',k',_,_,e3,e4⟩:=hown p' B t' e'
     rw [e1,e3,Option.some.inj (e2.symm.trans e4)]
  cases hd':ty.desc<;>simp only [hd']at hu<;>try (cases hu;done)
  · rename_i n e
    cases he:E.tys e with
    | none=>simp [he]at hu
    | some te=>
     simp only [he]at hu
     obtain⟨zl,h1,h2,h3⟩:=cw hu
     obtain⟨z',cs',k1,g1,g2,g3,g4,_,g5⟩:=lH (k0:=none) (place':=fun i=>some (i*te.size,te.size)) (fun i off tf hpl=>by
      cases hpl;exact⟨rfl,(G.ty _ _ he).len,(G.ty _ _ he).pos⟩) hp (cs:=z.cells) (by omega) (fun _=>rfl) (fun k k1 k2=>by simpa using hG hz2 h2 h3 k k1 k2) h1
     refine⟨.agg cs', ?_,fin g3 g5 g1⟩
     simp only [Instr.build,Sem.run_bind,hz,Result.andThen_ok,run_underlying (kH hT hd'),(G.ty _ _ he).run_size,g2,Sem.run_pure]
  · rename_i fs
    obtain⟨fields,hf1,hf2⟩:=mp hT hd'
    obtain⟨zl,h1,h2,h3⟩:=cw hu
    have hpl:∀i off tf,(match nth fs i with | some (off,ft)=>(E.tys ft).map fun tf=>(off,tf) | none=>none)=some (off,tf)→((fields.toList.map fun f=>(f.offset,P.cellsOf f.type)).toArray[i]?)=some (off,tf.size)∧tf.kinds.length=tf.size∧1≤tf.size:=by
     intro i off tf hh
     cases hn:nth fs i with
     | none=>simp [hn]at hh
     | some q=>
      obtain⟨o,ft⟩:=q
      simp only [hn]at hh
      cases h5:E.tys ft with
      | none=>simp [h5]at hh
      | some tf'=>
       simp only [h5,Option.map_some,Option.some.injEq,Prod.mk.injEq]at hh
       obtain⟨rfl,rfl⟩:=hh
       refine⟨?_,(G.ty _ _ h5).len,(G.ty _ _ h5).pos⟩
       rw [←hf2,rV,aY]at hn
       cases h6:fields.toList[i]? with
       | none=>simp [h6]at hn
       | some fld=>
        simp only [h6,Option.map_some,Option.some.injEq,Prod.mk.injEq]at hn
        obtain⟨rfl,rfl⟩:=hn
        simp only [List.getElem?_toArray,List.getElem?_map,h6,Option.map_some,tp G h5]
    obtain⟨z',cs',k1,g1,g2,g3,g4,_,g5⟩:=lH (k0:=none) (place':=fun i=>(fields.toList.map fun f=>(f.offset,P.cellsOf f.type)).toArray[i]?) hpl hp (cs:=z.cells) (by omega) (fun _=>rfl) (fun k k1 k2=>by simpa using hG hz2 h2 h3 k k1 k2) h1
    refine⟨.agg cs', ?_,fin g3 g5 g1⟩
    have hrun:(fields.mapM fun f=>(do pure (f.offset,←sizeOf f.type):Sem (Nat×Nat))).run P w=.ok (fields.toList.map fun f=>(f.offset,P.cellsOf f.type)).toArray w:=by
     rw [Array.mapM_eq_mapM_toList]
     simp only [Sem.run_map,tq w (hT.fields _ hf1),Result.andThen_ok]
    simp only [Instr.build,Sem.run_bind,hz,Result.andThen_ok,run_underlying hf1,hrun,g2,Sem.run_pure]
theorem oN :∀(ks:List CK) (l:List AC),(qn ks l).length=l.length
 | [],l=>rfl
 | k::ks,[]=>by cases k<;>rfl
 | k::ks,a::l=>by cases k<;>simp [qn,oN ks l]
theorem LU {z:Value}{ks:List CK}(h:z.cells.toList.map some=ks.map ly){l:List AC}(hl:l.length=ks.length)(hz:∀(i:Nat) (h1:i<l.length) (h2:i<ks.length),lZ ks[i]=some l[i]):
 ∀(i:Nat) (h1:i<(qn ks l).length) (h2:i<z.cells.size),AR E w F ρ (qn ks l)[i] z.cells[i] none:=by
 obtain⟨g1,g2⟩:=d8 h
 have key:∀(ks:List CK) (l:List AC) (i:Nat) (h1:i<(qn ks l).length) (h2:i<ks.length) (h3:i<l.length),(qn ks l)[i]=l[i]∨(∃e,ks[i]=.slice e)∧(qn ks l)[i]=.nils:=by
  intro ks
  induction ks with
  | nil=>intro l i h1 h2;simp at h2
  | cons k ks ih=>
   intro l i h1 h2 h3
   cases l with
   | nil=>simp at h3
   | cons c l=>
    cases i with
    | zero=>cases k<;>simp [qn]
    | succ i=>
     have h1':i<(qn ks l).length:=by rw [oN]at h1⊢;simpa using h1
     have:=ih l i h1' (by simpa using h2) (by simpa using h3)
     cases k<;>simpa [qn]using this
 intro i h1 h2
 have h3:i<l.length:=by rw [oN]at h1;exact h1
 have h4:i<ks.length:=by omega
 rcases key ks l i h1 h4 h3 with e | ⟨⟨e,hk⟩,hn⟩
 · rw [e];exact hG h hl hz i h3 h2
 · rw [hn]
   have h5:=g2 i h2 h4
   rw [hk]at h5
   simp only [ly,Option.some.injEq]at h5
   rw [←h5]
   exact .nils
theorem x7 (G:Good P E)(h:Rel E R ρ own N st a w){t:TypeId}{parts:List (Nat×AV)}{cp:List (Nat×Value)}{dis:Option Nat}{b:Bool}(hp:PartsO E w (Fn own R) ρ (uZ own dis) b parts cp){u:Upd}
 (hu:jN E t parts some=some u) {dst:Option Nat} (hd:∀d,dst=some d→d<N):
 ∃val,(Instr.build t cp.toArray).run P w=.ok val w∧After E R ρ own N w (st.apply dst ⟨u.val,dis,[],[],[]⟩) (a.put dst val) w:=by
 unfold jN at hu
 cases ht:E.tys t with
 | none=>simp [ht]at hu
 | some ty=>
  simp only [ht]at hu
  have hT:=G.ty t ty ht
  obtain⟨z,hz,hz2⟩:=hT.run_zero (w:=w)
  obtain⟨hs,_⟩:=d8 hz2
  have fin:∀{l:List AC} {cs:Array Value} {k1:Option Nat},l.length=cs.size→(∀(k:Nat) (_:k<l.length) (h2:k<cs.size),AR E w (Fn own R) ρ l[k] cs[k] (if k1=some k then(uZ own dis [])else none))→
   cd (.agg l) some=some u→After E R ρ own N w (st.apply dst ⟨u.val,dis,[],[],[]⟩) (a.put dst (.agg cs)) w:=by
   intro l cs k1 hl hr hk
   rw [ofK hk]
   have hval:AVR E w (Fn own R) ρ (.agg l) (.agg cs) (fun p=>match p with | [k]=>if k<l.length∧k1=some k then(uZ own dis [])else none | _=>none):=by
    have:cs=((List.range l.length).map fun i=>cs.getD i undef).toArray:=by
     apply Array.ext'
     apply List.ext_getElem
     · simp [hl]
     · intro i h1 h2
       have h5:i<cs.size:=by simpa using h1
       simp [h5]
    conv=>arg 6;rw [this]
    refine .agg l _ _ (fun i hi=> ?_) fun p hp=> ?_
    · have h5:i<cs.size:=by omega
      have:=hr i hi h5
      simpa [h5,hi]using this
    · match p,hp with
      | [],_=>rfl
      | [k],hp=>
       dsimp only
       rw [if_neg]
       rintro⟨h1,_⟩
       exact hp k h1 rfl
      | _::_::_,_=>rfl
   have hown:∀p B t',(match p with | [k]=>if k<l.length∧k1=some k then(uZ own dis [])else none | _=>none:aH)=some (B,t')→∃x k,dis=some x∧own (.tmp x [])=some (B,t')∧p=[k]∧k1=some k:=by
    intro p B t' e
    match p,e with
    | [k],e=>
     dsimp only at e
     split at e
     · rename_i hk
       cases hds:dis with
       | none=>rw [hds]at e;cases e
       | some x=>rw [hds]at e;exact⟨x,k,rfl,e,rfl,hk.2⟩
     · cases e
   refine⟨ρ,_,fun _ _ h=>h,h.put (dis:=dis) (T:=fun _ _=>False) hd (World.keptBut_refl _ _) (fun _ _ h=>h.elim) (fun p B t' e=> ?_) (fun p p' B t t' e e'=> ?_) fun hK=>hval.keep hK (fun _ _ h=>h) fun p B t e j _ hh=>hh⟩
   · obtain⟨x,k,e1,e2,_⟩:=hown p B t' e
     exact .inl ⟨x,[],t',e1,e2,Nat.le_refl _⟩
   · obtain⟨x,k,_,_,e1,e2⟩:=hown p B t e
     obtain⟨x',k',_,_,e3,e4⟩:=hown p' B t' e'
     rw [e1,e3,Option.some.inj (e2.symm.trans e4)]
  cases hd':ty.desc<;>simp only [hd']at hu<;>try (cases hu;done)
  rename_i fs
  obtain⟨fields,hf1,hf2⟩:=mp hT hd'
  obtain⟨zl,h1,h2,h3⟩:=cw hu
  have hpl:∀i off tf,(match nth fs i with | some (off,ft)=>(E.tys ft).map fun tf=>(off,tf) | none=>none)=some (off,tf)→((fields.toList.map fun f=>(f.offset,P.cellsOf f.type)).toArray[i]?)=some (off,tf.size)∧tf.kinds.length=tf.size∧1≤tf.size:=by
   intro i off tf hh
   cases hn:nth fs i with
   | none=>simp [hn]at hh
   | some q=>
    obtain⟨o,ft⟩:=q
    simp only [hn]at hh
    cases h5:E.tys ft with
    | none=>simp [h5]at hh
    | some tf'=>
     simp only [h5,Option.map_some,Option.some.injEq,Prod.mk.injEq]at hh
     obtain⟨rfl,rfl⟩:=hh
     refine⟨?_,(G.ty _ _ h5).len,(G.ty _ _ h5).pos⟩
     rw [←hf2,rV,aY]at hn
     cases h6:fields.toList[i]? with
     | none=>simp [h6]at hn
     | some fld=>
      simp only [h6,Option.map_some,Option.some.injEq,Prod.mk.injEq]at hn
      obtain⟨rfl,rfl⟩:=hn
      simp only [List.getElem?_toArray,List.getElem?_map,h6,Option.map_some,tp G h5]
  obtain⟨z',cs',k1,g1,g2,g3,g4,_,g5⟩:=lH (k0:=none) (place':=fun i=>(fields.toList.map fun f=>(f.offset,P.cellsOf f.type)).toArray[i]?) hpl hp (cs:=z.cells) (by rw [oN];omega) (fun _=>rfl) (fun k k1 k2=>by simpa using LU hz2 h2 h3 k k1 k2) h1
  refine⟨.agg cs', ?_,fin g3 g5 g1⟩
  have hrun:(fields.mapM fun f=>(do pure (f.offset,←sizeOf f.type):Sem (Nat×Nat))).run P w=.ok (fields.toList.map fun f=>(f.offset,P.cellsOf f.type)).toArray w:=by
   rw [Array.mapM_eq_mapM_toList]
   simp only [Sem.run_map,tq w (hT.fields _ hf1),Result.andThen_ok]
  simp only [Instr.build,Sem.run_bind,hz,Result.andThen_ok,run_underlying hf1,hrun,g2,Sem.run_pure]
end Go.Abs
