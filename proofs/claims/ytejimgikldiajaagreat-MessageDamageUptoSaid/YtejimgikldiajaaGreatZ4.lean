/-
  Merged texts.
-/
import Derived.Test.YtejimgikldiajaaGreatZ3
import Derived.Test.YtejimgikldiajaaGreatProg
namespace Go.Proofs.YtejimgikldiajaaGreat
open Go.Abs
def ej (n lo hi:Int)(u:Bool):Bool:=cond u (decide (n≥lo)&&decide (n≤hi)) (n==0)
def dt (n:Int):Bool:=decide (n≥1)&&decide (n≤12)
def ic (n:Int):Bool:=decide (n≥201)&&decide (n<204)
def iH (k c f:Int):Int:=
 if k<1∨4<k then 10
 else if(k=3∧¬(1≤c∧c≤12))∨(k≠3∧c≠0)∨(k=4∧¬(0≤f∧f≤12))∨(k≠4∧f≠0)then 9
 else 0
def dx (k s w v rk rc rf:Int):Int:=
 if k<1∨4<k then 10
 else if(k=4∧s≠0)∨(k≠4∧¬(1≤s∧s≤12))∨((k=1∨k=3)∧¬(1≤w∧w≤9))∨((k=2∨k=4)∧w≠0)∨((k=3∨k=4)∧¬(1≤v∧v≤1000))∨((k=1∨k=2)∧v≠0)then 9
 else if k=4 then iH rk rc rf
 else if rk=0∧rc=0∧rf=0 then 0 else 2
def lz (r:List Cell):Int:=dx (nr r 0) (nr r 1) (nr r 2) (nr r 3) (nr r 4) (nr r 5) (nr r 6)
def sC (r q:List Cell):Bool:=(nr q 0==nr r 0)&&(nr q 1==nr r 1)
def dup (pre:RL)(r:List Cell):Bool:=pre.any (sC r)
def kt (pre:RL):RL→Int
 | []=>0
 | r::rest=>if lz r≠0 then lz r else if dup pre r=true then 5 else kt (pre++ [r]) rest
def di (a n:Int)(c:RL):Int:=
 if a<201∨204≤a∨n<1∨3<n then 9 else if c.length=0 then 2 else if 6<c.length then 3 else kt [] c
def km (a n b m:Int):Int:=if a<b∨(a=b∧n<m)then -1 else if a=b∧n=m then 0 else 1
def vh (k1 s1 w1 v1 rk1 rc1 rf1 k2 s2 w2 v2 rk2 rc2 rf2:Int):Bool:=
 (k1==k2)&&(s1==s2)&&(w1==w2)&&(v1==v2)&&(rk1==rk2)&&(rc1==rc2)&&(rf1==rf2)
def i9 (r q:List Cell):Bool:=vh (nr r 0) (nr r 1) (nr r 2) (nr r 3) (nr r 4) (nr r 5) (nr r 6) (nr q 0) (nr q 1) (nr q 2) (nr q 3) (nr q 4) (nr q 5) (nr q 6)
def ge :RL→RL→Bool
 | [],_=>true
 | r::c,d=>i9 r (rA d 0)&&ge c (d.drop 1)
def eqP (a n:Int)(c:RL)(b m:Int)(d:RL):Bool:=
 (a==b)&&(n==m)&&decide (c.length=d.length)&&ge c d
def bZ (r:List Cell):RL:=
 [[.int .i64 (nr r 0)],[.int .i64 (nr r 1)],[.int .i64 (nr r 2)],[.int .i64 (nr r 3)],[.int .i64 (nr r 4)],[.int .i64 (nr r 5)],[.int .i64 (nr r 6)]]
def bd :RL→RL
 | []=> []
 | r::rs=>bZ r++bd rs
def bm (a n k:Int):RL:=[[.int .i64 a],[.int .i64 n],[.int .i64 k]]
def gt (a n:Int)(c:RL):RL:=aP (bm a n c.length++bd c)
def nb (x c:RL):Bool:=decide (x.length≤1000000)&&decide (c.length≤1000)
def GY (l:RL):List Cell:=
 [.int .i64 (nr (rA l 0) 0),.int .i64 (nr (rA l 1) 0),.int .i64 (nr (rA l 2) 0),.int .i64 (nr (rA l 3) 0),.int .i64 (nr (rA l 4) 0),.int .i64 (nr (rA l 5) 0),.int .i64 (nr (rA l 6) 0)]
def dZ (x:RL):Nat→Int→RL→RL×Int×Int
 | 0,at',acc=>(acc,at',0)
 | k+1,at',acc=>
  if(ai (x.drop at'.toNat) 7).2.2≠0 then([],0,(ai (x.drop at'.toNat) 7).2.2)
  else dZ x k (at'+(ai (x.drop at'.toNat) 7).2.1) (acc++ [GY (ai (x.drop at'.toNat) 7).1])
def PB (x:RL)(a n k at':Int):Int×Int×RL×Int×Int:=
 if 6<k then(0,0,[],0,3)
 else if(dZ x k.toNat at' []).2.2≠0 then(0,0,[],0,(dZ x k.toNat at' []).2.2)
 else if di a n (dZ x k.toNat at' []).1≠0 then(0,0,[],0,di a n (dZ x k.toNat at' []).1)
 else(a,n,(dZ x k.toNat at' []).1,(dZ x k.toNat at' []).2.1,0)
def cJ (x:RL):Int×Int×RL×Int×Int:=
 if(ai x 3).2.2≠0 then(0,0,[],0,(ai x 3).2.2)
 else PB x (nr (rA (ai x 3).1 0) 0) (nr (rA (ai x 3).1 1) 0) (nr (rA (ai x 3).1 2) 0) (ai x 3).2.1
def jk (n:Int):Int×Int×Int:=
 if ad n 8 0=1∨ad n 8 0=2 then(2,0,0)
 else if ad n 8 0=3 then(3,1+ad n 4 2,0)
 else if ad n 8 0=4 then(4,0,ad n 2 3)
 else(1,0,0)
def gCh (n:Int):Nat→Int:=fun j=>
 nr (if ad n 8 0≤2 then [.int .i64 1,.int .i64 (1+ad n 8 1),.int .i64 (1+ad n 4 3),.int .i64 0,.int .i64 0,.int .i64 0,.int .i64 0]
  else if ad n 8 0≤4 then [.int .i64 2,.int .i64 (1+ad n 8 1),.int .i64 0,.int .i64 0,.int .i64 0,.int .i64 0,.int .i64 0]
  else if ad n 8 0=5 then [.int .i64 3,.int .i64 (1+ad n 8 1),.int .i64 (1+ad n 4 3),.int .i64 (1+ad n 2 9),.int .i64 0,.int .i64 0,.int .i64 0]
  else if ad n 8 0=6 then [.int .i64 4,.int .i64 0,.int .i64 0,.int .i64 (1+ad n 2 9),.int .i64 (jk (n%1099511627776 / 64)).1,.int .i64 (jk (n%1099511627776 / 64)).2.1,.int .i64 (jk (n%1099511627776 / 64)).2.2]
  else [.int .i64 1,.int .i64 (1+ad n 12 1),.int .i64 1,.int .i64 0,.int .i64 0,.int .i64 0,.int .i64 0]) j
def KN (n:Int):List Cell:=[.int .i64 (gCh n 0),.int .i64 (gCh n 1),.int .i64 (gCh n 2),.int .i64 (gCh n 3),.int .i64 (gCh n 4),.int .i64 (gCh n 5),.int .i64 (gCh n 6)]
def oW (l:RL)(a i:Nat)(p:Int):List Cell:=
 [.int .i64 (201+a),.int .i64 (i+1),.slice 89 (if ad (gAt l p) 2 12=1∧(gCh (gAt l (p+1)) 0≠gCh (gAt l p) 0∨gCh (gAt l (p+1)) 1≠gCh (gAt l p) 1)then [KN (gAt l p),KN (gAt l (p+1))]else [KN (gAt l p)])]
def gIn (l:RL)(a:Nat):Nat→Nat→Int→RL→RL×Int
 | 0,_,p,acc=>(acc,p)
 | k+1,i,p,acc=>gIn l a k (i+1) (p+2) (acc++ [oW l a i p])
def Ct (l:RL):Nat→Nat→Int→RL→RL
 | 0,_,_,acc=>acc
 | k+1,a,p,acc=>Ct l k (a+1) (gIn l a (ad (gAt l a) 4 0).toNat 0 p acc).2 (gIn l a (ad (gAt l a) 4 0).toNat 0 p acc).1
def pj (l:RL):RL:=Ct l 3 0 3 []
def nv (r:List Cell):Prop:=di (nr r 0) (nr r 1) (nl r 2)=0
def okU (v:Int):Bool:=v%18446744073709551616==v
def dN (r:List Cell):Int:=di (nr r 0) (nr r 1) (nl r 2)
def FX (r q:List Cell):Bool:=eqP (nr r 0) (nr r 1) (nl r 2) (nr q 0) (nr q 1) (nl q 2)
def kd (r:List Cell):Bool:=decide ((nl r 2).length<9223372036854775808)
def bO (c:RL):Bool:=c.all kd
def ao (c:RL):Bool:=decide (c.length≤1000)&&c.all kd
def iJ (first:Bool)(q:List Cell):RL→Int
 | []=>0
 | r::rs=>
  if dN r≠0 then dN r
  else if first=false∧km (nr r 0) (nr r 1) (nr q 0) (nr q 1)≤0 then 7
  else if 1<nr r 1∧(first=true∨nr q 0≠nr r 0∨nr q 1≠nr r 1 - 1)then 8
  else iJ false r rs
def bM (c:RL):Int:=iJ true [] c
def l7 :RL→RL→Bool
 | [],_=>true
 | r::c,d=>FX r (rA d 0)&&l7 c (d.drop 1)
def da (c d:RL):Bool:=decide (c.length=d.length)&&l7 c d
def jA (r:List Cell):RL:=gt (nr r 0) (nr r 1) (nl r 2)
def bQ :RL→RL
 | []=> []
 | r::rs=>jA r++bQ rs
def gB (c:RL):RL:=bc c.length++bQ c
def lI (r:List Cell):Bool:=decide ((nl r 2).length≤100)
def dq (x c:RL):Bool:=decide (x.length≤100000)&&(decide (c.length≤100)&&c.all lI)
def B4 (d:Int×Int×RL×Int×Int):List Cell:=[.int .i64 d.1,.int .i64 d.2.1,.slice 89 d.2.2.1]
def fo (x:RL):Nat→Int→RL→RL×Int×Int
 | 0,o,acc=>(acc,o,0)
 | k+1,o,acc=>
  if(cJ (x.drop o.toNat)).2.2.2.2≠0 then([],0,(cJ (x.drop o.toNat)).2.2.2.2)
  else fo x k (o+(cJ (x.drop o.toNat)).2.2.2.1) (acc++ [B4 (cJ (x.drop o.toNat))])
def uE (r:RL×Int×Int):RL×Int×Int:=
 if r.2.2≠0 then([],0,r.2.2)else if bM r.1≠0 then([],0,bM r.1)else r
def aX (x:RL):RL×Int×Int:=
 if(aD x).2.2≠0 then([],0,(aD x).2.2)
 else if 9<(aD x).1 then([],0,3)
 else uE (fo x (aD x).1.toNat (aD x).2.1 [])
def xV :List Cell→Bool
 | [.int .i64 _,.int .i64 _,.slice e _]=>Nat.beq e 89
 | _=>false
def PQ (c:RL):Bool:=decide (0<c.length)&&decide (c.length≤1000)
def ek (c:RL):Bool:=cN c&&c.all xV
def oc (n:Int)(a:Nat):RL:=if 0<ad n 4 a then [ent (201+a) (ad n 4 a)]else []
def Mp (n:Int):RL:=oc n 0++(oc n 1++oc n 2)
def bv (c:RL)(n:Int):RL:=lm c (Mp n)
def isP (a n:Int)(l:RL)(q:List Cell):Bool:=eqP a n l (nr q 0) (nr q 1) (nl q 2)
def qJ (a n:Int)(l:RL)(i:Int):RL→Int
 | []=> -1
 | q::c=>if isP a n l q=true then i else qJ a n l (i+1) c
def Lp (a n:Int)(l c:RL):Int:=qJ a n l 0 c
def inP (a n:Int)(l c:RL):Bool:=c.any (isP a n l)
def kM (c d:RL):Bool:=d.all fun p=>inP (nr p 0) (nr p 1) (nl p 2) c
def aV (f t:RL):Int:=
 if bM f≠0 then bM f else if bM t≠0 then bM t else if kM t f=true then 0 else 2
def jj (f t:RL):RL:=gB f++gB t
def en (x f t:RL):Bool:=dq x f&&dq (x++gB f) t
def bn (x:RL):RL×RL×Int×Int:=
 let p:=aX x
 let q:=aX (x.drop p.2.1.toNat)
 if p.2.2≠0 then([],[],0,p.2.2)
 else if q.2.2≠0 then([],[],0,q.2.2)
 else if aV p.1 q.1≠0 then([],[],0,aV p.1 q.1)
 else(p.1,q.1,p.2.1+q.2.1,0)
def d9 (n:Int):Bool:=decide (n≥101)&&decide (n<107)
def jV (k:Int)(o f:List UInt8)(n:Int)(s:List UInt8):Int:=
 if k<1∨5<k then 10
 else if o=[]∨f=[]then 2
 else if 16<o.length∨16<f.length∨32<s.length then 3
 else if k=3∧(n< -1000000∨1000000<n)then 9
 else if(k=4∨k=5)∧n≠0 then 9
 else if(k=2∨k=3∨k=5)∧s≠ []then 2
 else 0
def fW (r:List Cell):Int:=jV (nr r 0) (ns r 1) (ns r 2) (nr r 3) (ns r 4)
def qI (i:Int):RL→Int
 | []=> -1
 | r::rs=>if nr r 0=1 then i else qI (i+1) rs
def Kt (l:RL):Int:=qI 0 l
def fI (l:RL):Bool:=l.all fun r=> !(nr r 0==1)
def fX :RL→Int
 | []=>0
 | r::rs=>if fW r≠0 then fW r else fX rs
def eb (c q t:Int)(l:RL):Int:=
 if c<101∨107≤c∨q<1∨8<q∨t<0∨1000<t then 9
 else if l.length=0 then 2
 else if 4<l.length then 3
 else if fX l≠0 then fX l
 else if(fI l=true∧t≠0)∨(fI l=false∧1<l.length)then 2
 else 0
def ir (a n b m:Int):Int:=if a<b∨(a=b∧n<m)then -1 else if a=b∧n=m then 0 else 1
def qp (r q:List Cell):Bool:=(nr r 0==nr q 0)&&((ns r 1==ns q 1)&&((ns r 2==ns q 2)&&((nr r 3==nr q 3)&&((ns r 4==ns q 4)&&true))))
def lL :RL→RL→Bool
 | [],_=>true
 | r::c,d=>qp r (rA d 0)&&lL c (d.drop 1)
def C3 (c d:RL):Bool:=decide (c.length=d.length)&&lL c d
def eqU (a n t:Int)(c:RL)(b m u:Int)(d:RL):Bool:=
 (a==b)&&((n==m)&&((t==u)&&C3 c d))
def cC (r:List Cell):RL:=
 bc (IntKind.wrap .u64 (nr r 0))++(cz (ns r 1)++(cz (ns r 2)++(bc (zig (nr r 3))++cz (ns r 4))))
def bu :RL→RL
 | []=> []
 | r::rs=>cC r++bu rs
def cR (c q t k:Int):RL:=[[.int .i64 c],[.int .i64 q],[.int .i64 t],[.int .i64 k]]
def gE (c q t:Int)(l:RL):RL:=aP (cR c q t l.length)++bu l
def fm (r:List Cell):Bool:=decide ((ns r 1).length≤100)&&(decide ((ns r 2).length≤100)&&(decide ((ns r 4).length≤100)&&okI (nr r 3)))
def kR (x l:RL):Bool:=decide (x.length≤1000000)&&(decide (l.length≤100)&&l.all fm)
def j5 (o n:Int):Bool:=decide (0≤o)&&(decide (0≤n)&&decide (o+n≤4611686018427387904))
def bx {α:Type}(z:α)(d:RL→α×Int×Int)(b:RL)(o e:Int):α×Int×Int:=
 if e≠0 then(z,o,e)else((d (b.drop o.toNat)).1,o+(d (b.drop o.toNat)).2.1,(d (b.drop o.toNat)).2.2)
def aU (b:RL)(o e:Int):List UInt8×Int×Int:=bx [] cT b o e
def ip (b:RL)(o e:Int):Int×Int×Int:=bx 0 fg b o e
def gD (b:RL)(o e:Int):(Int×List UInt8×List UInt8×Int×List UInt8)×Int×Int:=
 let p1:=af b o e
 let p2:=aU b p1.2.1 p1.2.2
 let p3:=aU b p2.2.1 p2.2.2
 let p4:=ip b p3.2.1 p3.2.2
 let p5:=aU b p4.2.1 p4.2.2
 ((p1.1,p2.1,p3.1,p4.1,p5.1),p5.2)
def cZ (x:RL):(Int×List UInt8×List UInt8×Int×List UInt8)×Int×Int:=
 let p1:=am x
 let p2:=cT (x.drop p1.2.1.toNat)
 let p3:=cT (x.drop (p1.2.1+p2.2.1).toNat)
 let p4:=fg (x.drop (p1.2.1+p2.2.1+p3.2.1).toNat)
 let p5:=cT (x.drop (p1.2.1+p2.2.1+p3.2.1+p4.2.1).toNat)
 if p1.2.2≠0 then((0,[],[],0,[]),0,p1.2.2)
 else if p2.2.2≠0 then((0,[],[],0,[]),0,p2.2.2)
 else if p3.2.2≠0 then((0,[],[],0,[]),0,p3.2.2)
 else if p4.2.2≠0 then((0,[],[],0,[]),0,p4.2.2)
 else if p5.2.2≠0 then((0,[],[],0,[]),0,p5.2.2)
 else((p1.1,p2.1,p3.1,p4.1,p5.1),p1.2.1+p2.2.1+p3.2.1+p4.2.1+p5.2.1,0)
def jl (p:Int×List UInt8×List UInt8×Int×List UInt8):List Cell:=[.int .i64 p.1,.str p.2.1,.str p.2.2.1,.int .i64 p.2.2.2.1,.str p.2.2.2.2]
def fv (x:RL):Nat→Int→RL→RL×Int×Int
 | 0,o,acc=>(acc,o,0)
 | k+1,o,acc=>
  if(cZ (x.drop o.toNat)).2.2≠0 then([],0,(cZ (x.drop o.toNat)).2.2)
  else fv x k (o+(cZ (x.drop o.toNat)).2.1) (acc++ [jl (cZ (x.drop o.toNat)).1])
def rL (c q t:Int)(r:RL×Int×Int):Int×Int×Int×RL×Int×Int:=
 if r.2.2≠0 then(0,0,0,[],0,r.2.2)else if eb c q t r.1≠0 then(0,0,0,[],0,eb c q t r.1)else(c,q,t,r.1,r.2.1,0)
def bY (x:RL):Int×Int×Int×RL×Int×Int:=
 if(ai x 4).2.2≠0 then(0,0,0,[],0,(ai x 4).2.2)
 else if 4<nr (rA (ai x 4).1 3) 0 then(0,0,0,[],0,3)
 else rL (nr (rA (ai x 4).1 0) 0) (nr (rA (ai x 4).1 1) 0) (nr (rA (ai x 4).1 2) 0) (fv x (nr (rA (ai x 4).1 3) 0).toNat (ai x 4).2.1 [])
def dD (n:Int):List UInt8:=if n%4=0 then [97]else if n%4=1 then [98]else if n%4=2 then [99]else [120,49]
def eW (n:Int)(w:Bool):Int×List UInt8×List UInt8×Int×List UInt8:=
 if w=true then(1,dD (ad n 4 1),dD (ad n 4 2),ad n 16 3 - 5,dD (ad n 4 5))
 else if ad n 4 0=0 then(2,dD (ad n 4 1),dD (ad n 4 2),ad n 16 3 - 5,[])
 else if ad n 4 0=1 then(3,dD (ad n 4 1),dD (ad n 4 2),ad n 16 3 - 5,[])
 else if ad n 4 0=2 then(4,dD (ad n 4 1),dD (ad n 4 2),0,dD (ad n 4 5))
 else(5,dD (ad n 4 1),dD (ad n 4 2),0,[])
def Ah (n:Int):Int:=if ad n 3 8=0 then ad n 16 4 else 0
def nj (n:Int):Nat→Nat→RL→RL
 | 0,_,acc=>acc
 | k+1,i,acc=>nj n k (i+1) (acc++ [jl (eW (n%1099511627776 / (i+1)) false)])
def rp (n:Int):RL:=if ad n 3 8=0 then [jl (eW n true)]else nj n ((ad n 3 9).toNat+1) 0 []
def ya (c q n:Int):List Cell:=[.int .i64 c,.int .i64 q,.int .i64 (Ah n),.slice 136 (rp n)]
def dO (l:RL)(c:Nat):Nat→Nat→Int→RL→RL
 | 0,_,_,acc=>acc
 | k+1,i,q,acc=>
  if ad (nr (rA l i) 0) 3 0=c∧q<8 then dO l c k (i+1) (q+1) (acc++ [ya (101+c) (q+1) (nr (rA l i) 0%1099511627776 / 3)])
  else dO l c k (i+1) q acc
def jp (l:RL):RL:=
 dO l 2 (min l.length 24) 0 0 (dO l 1 (min l.length 24) 0 0 (dO l 0 (min l.length 24) 0 0 []))
def xM :List AV→List Block→Option (List AV×List Block):=fun args blk=>match args,blk with
 | [.one (.str s)],[]=>some ([.one (.bool s.isEmpty)],[])
 | _,_=>none
def GU (a n t:Int)(e:RL):List Cell:=[.int .i64 a,.int .i64 n,.int .i64 t,.slice 136 e]
def sN :List Cell→Bool
 | [.int .i64 _,.int .i64 _,.int .i64 _,.slice e _]=>Nat.beq e 136
 | _=>false
def dB (r:List Cell):Int:=eb (nr r 0) (nr r 1) (nr r 2) (nl r 3)
def Ju (r q:List Cell):Bool:=eqU (nr r 0) (nr r 1) (nr r 2) (nl r 3) (nr q 0) (nr q 1) (nr q 2) (nl q 3)
def kw (r:List Cell):Bool:=decide ((nl r 3).length<9223372036854775808)
def fH (c:RL):Bool:=c.all kw
def eG (c:RL):Bool:=decide (c.length≤1000)&&c.all kw
def o7 (first:Bool)(q:List Cell):RL→Int
 | []=>0
 | r::rs=>
  if dB r≠0 then dB r
  else if first=false∧ir (nr r 0) (nr r 1) (nr q 0) (nr q 1)≤0 then 7
  else if 1<nr r 1∧(first=true∨nr q 0≠nr r 0∨nr q 1≠nr r 1 - 1)then 8
  else o7 false r rs
def vSt (c:RL):Int:=o7 true [] c
def qU :RL→RL→Bool
 | [],_=>true
 | r::c,d=>Ju r (rA d 0)&&qU c (d.drop 1)
def za (c d:RL):Bool:=decide (c.length=d.length)&&qU c d
def gA (r:List Cell):RL:=gE (nr r 0) (nr r 1) (nr r 2) (nl r 3)
def bC :RL→RL
 | []=> []
 | r::rs=>gA r++bC rs
def sY (r:List Cell):Bool:=decide ((nl r 3).length≤4)&&(nl r 3).all fm
def mkU (d:Int×Int×Int×RL×Int×Int):List Cell:=[.int .i64 d.1,.int .i64 d.2.1,.int .i64 d.2.2.1,.slice 136 d.2.2.2.1]
def fA (x:RL):Nat→Int→RL→RL×Int×Int
 | 0,o,acc=>(acc,o,0)
 | k+1,o,acc=>
  if(bY (x.drop o.toNat)).2.2.2.2.2≠0 then([],0,(bY (x.drop o.toNat)).2.2.2.2.2)
  else fA x k (o+(bY (x.drop o.toNat)).2.2.2.2.1) (acc++ [mkU (bY (x.drop o.toNat))])
def ce (x:RL):RL×Int×Int:=
 if(am x).2.2≠0 then([],0,(am x).2.2)
 else if 48<(am x).1 then([],0,3)
 else fA x (am x).1.toNat (am x).2.1 []
def NR (e:RL):Bool:=decide (e.length≤1000)
def fz (c:RL):Bool:=cN c&&c.all sN
def bey (c v:RL):RL:=c.filter fun r=>decide (bH v (nr r 0)<nr r 1)
def PS (c v:RL)(k:Int):RL×Bool:=((bey c v).take (min k.toNat (bey c v).length),decide (min k.toNat (bey c v).length<(bey c v).length))
def mq (v:RL)(k:Int):RL→RL→RL×Bool
 | acc,[]=>(acc,false)
 | acc,r::c=>if nr r 1≤bH v (nr r 0)then mq v k acc c else if(acc.length:Int)≥k then(acc,true)else mq v k (acc++ [r]) c
def iR (c v:RL)(k:Int):RL×Bool:=mq v k [] c
def bP (c:RL)(k:Int):RL:=c.filter fun r=>decide (nr r 1≤ad k 9 (IntKind.wrap .i64 (nr r 0 - 101)))
def ca (k:Int):Option (List Int):=
 if k=1 then some [0,1,2,3,4]
 else if k=2 then some [0,1,3,4,8,9,10]
 else if k=3 then some [5]
 else if k=4 then some [5,6]
 else if k=5 then some [5,4,7,8,9,10]
 else if k=6 then some [5]
 else if k=7 then some [5]
 else if k=8 then some [5]
 else none
def be (k:Int):RL:=((ca k).getD []).map fun n=> [.int .i64 n]
def pw (FE:TypeId):List AV→List Block→Option (List AV×List Block):=fun args blk=>match args,blk with
 | [.one (.int .i64 k)],[]=>some ([.one (.sl false FE (be k)),.one (.bool (ca k).isSome)],[])
 | _,_=>none
def okM (cf ct bf bt ef et g u v:RL):Bool:=
 (ao cf&&ao ct)&&((ao bf&&ao bt)&&((ao ef&&ao et)&&(ao g&&(eG u&&cN v))))
def pG (cf ct bf bt ef et g u v:RL):Bool:=
 decide (g.length≤30)&&(decide (u.length≤60)&&(decide (v.length≤60)&&(decide (cf.length≤30)&&(decide (ct.length≤30)&&(decide (bf.length≤30)&&(decide (bt.length≤30)&&(decide (ef.length≤30)&&decide (et.length≤30))))))))
def xC (cf ct bf bt ef et g u v:RL):Bool:=
 (bO cf&&bO ct)&&((bO bf&&bO bt)&&((bO ef&&bO et)&&(bO g&&fH u)))
def eqM (k f t p n r o:Int)(cf ct bf bt:RL)(h:Bool)(ef et g u v:RL)(m:Bool)
 (k2 f2 t2 p2 n2 r2 o2:Int) (cf2 ct2 bf2 bt2:RL) (h2:Bool) (ef2 et2 g2 u2 v2:RL) (m2:Bool):Bool:=
 (k==k2)&&((f==f2)&&((t==t2)&&((p==p2)&&((n==n2)&&((r==r2)&&((o==o2)&&((h==h2)&&((m==m2)&&
 ((da cf cf2&&da ct ct2)&&((da bf bf2&&da bt bt2)&&((da ef ef2&&da et et2)&&(da g g2&&(za u u2&&rC v v2)))))))))))))
structure Msg where
 k:Int
 f:Int
 t:Int
 p:Int
 n:Int
 r:Int
 o:Int
 cf:RL
 ct:RL
 bf:RL
 bt:RL
 h:Bool
 ef:RL
 et:RL
 g:RL
 u:RL
 v:RL
 m:Bool
def cW :Msg:=⟨0,0,0,0,0,0,0,[],[],[],[],false,[],[],[],[],[],false⟩
def cO (n:Int):Bool:=d9 n || ic n
def cI (n:Int):Bool:=dt n || cO n
def noT (f t:RL):Bool:=decide (f.length=0)&&decide (t.length=0)
def inF (l:RL)(f:Int):Bool:=l.any fun r=>nr r 0==f
def rE (f i:Int):RL→Int
 | []=> -1
 | r::l=>if f=nr r 0 then i else rE f (i+1) l
def Kf (l:RL)(f:Int):Int:=rE f 0 l
def cn (w:Msg)(f:Int):Bool:=
 if f=0 then(w.p==0)&&(w.n==0)
 else if f=1 then w.r==0
 else if f=2 then w.o==0
 else if f=3 then decide (w.g.length=0)
 else if f=4 then decide (w.u.length=0)
 else if f=5 then noT w.cf w.ct
 else if f=6 then decide (w.v.length=0)
 else if f=7 then !w.m
 else if f=8 then !w.h
 else if f=9 then noT w.bf w.bt
 else noT w.ef w.et
def qy (first:Bool)(q:List Cell):RL→Int
 | []=>0
 | r::rs=>
  if dB r≠0 then dB r
  else if first=false∧ir (nr r 0) (nr r 1) (nr q 0) (nr q 1)≤0 then 7
  else qy false r rs
def vCh (c:RL):Int:=if 4<c.length then 3 else qy true [] c
def nO (w:Msg):Int:=
 if w.k=5 then vCh w.u else if vSt w.u≠0 then vSt w.u else if w.k=1∧w.o=1∧0<w.u.length then 2 else 0
def aB (w:Msg)(f:Int):Int:=
 if f=0 then(if cO w.p=true∧1≤w.n∧w.n≤1000000 then 0 else 9)
 else if f=1 then(if 1≤w.r∧w.r≤1000000 then 0 else 9)
 else if f=2 then(if 1≤w.o∧w.o≤3 then 0 else 10)
 else if f=3 then bM w.g
 else if f=4 then nO w
 else if f=5 then aV w.cf w.ct
 else if f=6 then qx w.v
 else if f=9 then(if w.h=false∧noT w.bf w.bt=false then 2 else aV w.bf w.bt)
 else if f=10 then aV w.ef w.et
 else 0
def qA (w:Msg):RL→Int
 | []=>0
 | r::l=>if aB w (nr r 0)≠0 then aB w (nr r 0)else qA w l
def lA (w:Msg)(l:RL):Nat→Nat→Bool
 | 0,_=>false
 | d+1,i=>(!(inF l i)&& !(cn w i)) || lA w l d (i+1)
def gM (w:Msg):Int:=
 if(ca w.k).isNone=true then 10
 else if cI w.f=false∨cI w.t=false then 9
 else if lA w (be w.k) 11 0=true then 2
 else qA w (be w.k)
def uA (k:Int):Bool:=(k==1) || (k==2)
def uS (k:Int):Bool:=(k==1) || ((k==2) || (k==5))
def uB (k:Int):Bool:=(k==2) || (k==5)
def unT (c:Bool)(w:Msg):Bool:= !c&& !(noT w.cf w.ct)
def unB (b c:Bool)(w:Msg):Bool:=(!b&&(w.h || (!(noT w.bf w.bt) || !(noT w.ef w.et)))) || unT c w
def unC (s b c h q:Bool)(w:Msg):Bool:=(!s&&decide (0<w.u.length)) || ((!h&&decide (0<w.v.length)) || ((!q&&w.m) || unB b c w))
def jR (a r o g s b c h q:Bool)(w:Msg):Bool:=
 !((!a&& !((w.p==0)&&(w.n==0))) || ((!r&&(w.r !=0)) || ((!o&&(w.o !=0)) || ((!g&&decide (0<w.g.length)) || unC s b c h q w))))
def cS (w:Msg):Bool:=jR (uA w.k) (uA w.k) (w.k==1) (uA w.k) (uS w.k) (uB w.k) (!(uA w.k)) (w.k==4) (w.k==5) w
def eD (w:Msg):Int:=
 if w.h=false∧noT w.bf w.bt=false then 2 else if aV w.bf w.bt≠0 then aV w.bf w.bt else aV w.ef w.et
def nc (w:Msg):Int:=
 if cO w.p=false∨w.n<1∨1000000<w.n then 9
 else if w.r<1∨1000000<w.r then 9
 else if w.k=1∧(w.o<1∨3<w.o)then 10
 else if bM w.g≠0 then bM w.g
 else if vSt w.u≠0 then vSt w.u
 else if w.o=1∧0<w.u.length then 2
 else if w.k=2 then eD w
 else 0
def ae (b:RL)(o e:Int):Int×Int×Int:=
 if(bx 0 aD b o e).2.2≠0 then(0,(bx 0 aD b o e).2.1,(bx 0 aD b o e).2.2)
 else if 2147483647<(bx 0 aD b o e).1 then(0,(bx 0 aD b o e).2.1,9)
 else bx 0 aD b o e
def aQ (x:RL):Bool×Int×Int:=
 if x.length=0 then(false,0,1)else if 1<nr (rA x 0) 0 then(false,0,2)else(nr (rA x 0) 0==1,1,0)
def aM (x:RL):(RL×RL)×Int×Int:=(((bn x).1,(bn x).2.1),(bn x).2.2.1,(bn x).2.2.2)
def MG (x:RL):(Int×Int×Int×RL)×Int×Int:=
 (((bY x).1,(bY x).2.1,(bY x).2.2.1,(bY x).2.2.2.1),(bY x).2.2.2.2.1,(bY x).2.2.2.2.2)
def qo (b:RL)(o e:Int):RL×Int×Int:=bx [] aX b o e
def dk (b:RL)(o e:Int):(RL×RL)×Int×Int:=bx ([],[]) aM b o e
def dR (b:RL)(o e:Int):(Int×Int×Int×RL)×Int×Int:=bx (0,0,0,[]) MG b o e
def iI (b:RL)(o e:Int):Bool×Int×Int:=bx false aQ b o e
def bN (w:Bool)(k e:Int):Int:=if w=true∧e=0 then k else e
def lU (b:RL):Nat→Int→Int→RL→RL×Int×Int
 | 0,o,e,acc=>(acc,o,e)
 | d+1,o,e,acc=>
  if e≠0 then(acc,o,e)
  else lU b d (dR b o e).2.1 (dR b o e).2.2 (acc++ [GU (dR b o e).1.1 (dR b o e).1.2.1 (dR b o e).1.2.2.1 (dR b o e).1.2.2.2])
def rst (b:RL)(o e:Int):RL×Int×Int:=
 lU b (ae b o e).1.toNat (ae b o e).2.1 (bN (decide (48<(ae b o e).1)) 3 (ae b o e).2.2) []
def m4 (b:RL):Nat→Int→Int→RL→RL×Int×Int
 | 0,o,e,acc=>(acc,o,e)
 | d+1,o,e,acc=>
  if e≠0 then(acc,o,e)
  else m4 b d (ae b (ae b o e).2.1 (ae b o e).2.2).2.1 (ae b (ae b o e).2.1 (ae b o e).2.2).2.2 (acc++ [ent (ae b o e).1 (ae b (ae b o e).2.1 (ae b o e).2.2).1])
def rvc (b:RL)(o e:Int):RL×Int×Int:=
 m4 b (ae b o e).1.toNat (ae b o e).2.1 (bN (decide (100<(ae b o e).1)) 3 (ae b o e).2.2) []
def rdF (b:RL)(o e:Int)(w:Msg)(f:Int):Msg×Int×Int:=
 if f=0 then({w with p:=(ae b o e).1,n:=(ae b (ae b o e).2.1 (ae b o e).2.2).1},(ae b (ae b o e).2.1 (ae b o e).2.2).2)
 else if f=1 then({w with r:=(ae b o e).1},(ae b o e).2)
 else if f=2 then({w with o:=(ae b o e).1},(ae b o e).2)
 else if f=3 then({w with g:=(qo b o e).1},(qo b o e).2)
 else if f=4 then({w with u:=(rst b o e).1},(rst b o e).2)
 else if f=5 then({w with cf:=(dk b o e).1.1,ct:=(dk b o e).1.2},(dk b o e).2)
 else if f=6 then({w with v:=(rvc b o e).1},(rvc b o e).2)
 else if f=7 then({w with m:=(iI b o e).1},(iI b o e).2)
 else if f=8 then({w with h:=(iI b o e).1},(iI b o e).2)
 else if f=9 then(if w.h=true then({w with bf:=(dk b o e).1.1,bt:=(dk b o e).1.2},(dk b o e).2)else(w,o,e))
 else if f=10 then({w with ef:=(dk b o e).1.1,et:=(dk b o e).1.2},(dk b o e).2)
 else(w,o,e)
def cV (b:RL):RL→Int→Int→Msg→Msg×Int×Int
 | [],o,e,w=>(w,o,e)
 | r::l,o,e,w=>cV b l (rdF b o e w (nr r 0)).2.1 (rdF b o e w (nr r 0)).2.2 (rdF b o e w (nr r 0)).1
def rK (p:Msg×Int×Int):Msg×Int×Int:=
 if p.2.2≠0 then(cW,0,p.2.2)else if gM p.1≠0 then(cW,0,gM p.1)else p
def aL (b:RL):Msg×Int×Int:=
 let p1:=ae b 0 0
 let p2:=ae b p1.2.1 (bN (ca p1.1).isNone 10 p1.2.2)
 let p3:=ae b p2.2.1 p2.2.2
 rK (cV b (be p1.1) p3.2.1 p3.2.2 {cW with k:=p1.1,f:=p2.1,t:=p3.1})
def rbW (w:Msg)(x:RL):Msg×Int×Int:=
 if(aQ x).2.2≠0 then(w,0,(aQ x).2.2)
 else if(aQ x).1=true then
  (if(aM (x.drop (aQ x).2.1.toNat)).2.2≠0 then({w with h:=(aQ x).1},0,(aM (x.drop (aQ x).2.1.toNat)).2.2)
  else if(aM (x.drop ((aQ x).2.1+(aM (x.drop (aQ x).2.1.toNat)).2.1).toNat)).2.2≠0 then
   ({w with h:=(aQ x).1,bf:=(aM (x.drop (aQ x).2.1.toNat)).1.1,bt:=(aM (x.drop (aQ x).2.1.toNat)).1.2},0,(aM (x.drop ((aQ x).2.1+(aM (x.drop (aQ x).2.1.toNat)).2.1).toNat)).2.2)
  else({w with h:=(aQ x).1,bf:=(aM (x.drop (aQ x).2.1.toNat)).1.1,bt:=(aM (x.drop (aQ x).2.1.toNat)).1.2,ef:=(aM (x.drop ((aQ x).2.1+(aM (x.drop (aQ x).2.1.toNat)).2.1).toNat)).1.1,et:=(aM (x.drop ((aQ x).2.1+(aM (x.drop (aQ x).2.1.toNat)).2.1).toNat)).1.2},
   (aQ x).2.1+(aM (x.drop (aQ x).2.1.toNat)).2.1+(aM (x.drop ((aQ x).2.1+(aM (x.drop (aQ x).2.1.toNat)).2.1).toNat)).2.1,0))
 else if(aM (x.drop (aQ x).2.1.toNat)).2.2≠0 then({w with h:=(aQ x).1},0,(aM (x.drop (aQ x).2.1.toNat)).2.2)
 else({w with h:=(aQ x).1,ef:=(aM (x.drop (aQ x).2.1.toNat)).1.1,et:=(aM (x.drop (aQ x).2.1.toNat)).1.2},(aQ x).2.1+(aM (x.drop (aQ x).2.1.toNat)).2.1,0)
def dX (a:Int)(p:Msg×Int×Int):Msg×Int×Int:=(p.1,a+p.2.1,p.2.2)
def rxB (w:Msg)(x:RL)(a:Int):Msg×Int×Int:=
 let c:=aX (x.drop a.toNat)
 let s:=ce (x.drop (a+c.2.1).toNat)
 if c.2.2≠0 then(w,0,c.2.2)
 else if s.2.2≠0 then(w,0,s.2.2)
 else if w.k=1 then({w with g:=c.1,u:=s.1},a+c.2.1+s.2.1,0)
 else dX (a+c.2.1+s.2.1) (rbW {w with g:=c.1,u:=s.1} (x.drop (a+c.2.1+s.2.1).toNat))
def rxW (w:Msg)(x:RL):Msg×Int×Int:=
 let l:=ai x (if w.k=1 then 4 else 3)
 if l.2.2≠0 then(w,0,l.2.2)
 else rxB {w with p:=nr (rA l.1 0) 0,n:=nr (rA l.1 1) 0,r:=nr (rA l.1 2) 0,o:=if w.k=1 then nr (rA l.1 3) 0 else w.o} x l.2.1
def m9 (l:RL):Nat→Nat→RL
 | 0,_=> []
 | d+1,i=>ent (nr (rA l (2*i)) 0) (nr (rA l (2*i+1)) 0)::m9 l d (i+1)
def rhW (w:Msg)(x:RL)(a:Int):Msg×Int×Int:=
 let c:=am (x.drop a.toNat)
 let l:=ai (x.drop (a+c.2.1).toNat) (2*c.1)
 if c.2.2≠0 then(w,0,c.2.2)
 else if 100<c.1 then(w,0,3)
 else if l.2.2≠0 then(w,0,l.2.2)
 else({w with v:=w.v++m9 l.1 c.1.toNat 0},a+c.2.1+l.2.1,0)
def rcW (w:Msg)(x:RL)(a:Int):Msg×Int×Int:=
 let s:=ce (x.drop a.toNat)
 let q:=aQ (x.drop (a+s.2.1).toNat)
 if s.2.2≠0 then(w,0,s.2.2)
 else if q.2.2≠0 then(w,0,q.2.2)
 else dX (a+s.2.1+q.2.1) (rbW {w with u:=s.1,m:=q.1} (x.drop (a+s.2.1+q.2.1).toNat))
def rrW (w:Msg)(x:RL):Msg×Int×Int:=
 let c:=aM x
 if c.2.2≠0 then(w,0,c.2.2)
 else if w.k=4 then rhW {w with cf:=c.1.1,ct:=c.1.2} x c.2.1
 else if w.k=5 then rcW {w with cf:=c.1.1,ct:=c.1.2} x c.2.1
 else({w with cf:=c.1.1,ct:=c.1.2},c.2.1,0)
def jI (w:Msg)(x:RL):Msg×Int×Int:=if w.k=1∨w.k=2 then rxW w x else rrW w x
def Es (x:RL):Msg×Int×Int:=
 let p:=am x
 let l:=ai (x.drop p.2.1.toNat) 2
 let a:=p.2.1+l.2.1
 let q:=jI {cW with k:=p.1,f:=nr (rA l.1 0) 0,t:=nr (rA l.1 1) 0} (x.drop a.toNat)
 if p.2.2≠0 then(cW,0,p.2.2)
 else if p.1<1∨8<p.1 then(cW,0,10)
 else if l.2.2≠0 then(cW,0,l.2.2)
 else rK (dX a q)
def o9 (b:Bool):RL:=[[.int .u8 (if b=true then 1 else 0)]]
def gy :RL→RL
 | []=> []
 | r::rs=>aP [[.int .i64 (nr r 0)],[.int .i64 (nr r 1)]]++gy rs
def iL (w:Msg)(f:Int):RL:=
 if f=0 then aP [[.int .i64 w.p],[.int .i64 w.n]]
 else if f=1 then aP [[.int .i64 w.r]]
 else if f=2 then aP [[.int .i64 w.o]]
 else if f=3 then gB w.g
 else if f=4 then aP [[.int .i64 (w.u.length:Int)]]++bC w.u
 else if f=5 then jj w.cf w.ct
 else if f=6 then aP [[.int .i64 (w.v.length:Int)]]++gy w.v
 else if f=7 then o9 w.m
 else if f=8 then o9 w.h
 else if f=9 then(if w.h=true then jj w.bf w.bt else [])
 else jj w.ef w.et
def iz (w:Msg):RL→RL
 | []=> []
 | r::l=>iL w (nr r 0)++iz w l
def oE (w:Msg):RL:=aP [[.int .i64 w.k],[.int .i64 w.f],[.int .i64 w.t]]++iz w (be w.k)
def rH (w:Msg):Bool:=okM w.cf w.ct w.bf w.bt w.ef w.et w.g w.u w.v&&((dq [] w.g&&(en [] w.cf w.ct&&(en [] w.bf w.bt&&en [] w.ef w.et)))&&(decide (w.u.length≤100)&&(w.u.all sY&&decide (w.v.length≤1000))))
def gC (p:RL)(n:Int):RL×RL:=(bv (bv p n) (n%1099511627776 / 64),bv p n)
def gK (p:RL)(m:Int)(w:Msg):Msg:=
 {w with
  h:=decide (0<ad m 3 12)
  bf:=if 0<ad m 3 12 then(gC p (aK m 1099511627776 / 16)).1 else []
  bt:=if 0<ad m 3 12 then(gC p (aK m 1099511627776 / 16)).2 else []
  ef:=(gC p (aK m 1099511627776 / 1024)).1
  et:=(gC p (aK m 1099511627776 / 1024)).2}
def fy (p s:RL)(kind n m:Int):Msg:=
 let k:=1+aK kind 8
 let b:Msg:={cW with k:=k,f:=1+ad n 6 0,t:=1+ad n 6 1}
 if k=1 then{b with p:=101+ad n 3 4,n:=1+ad n 2 9,r:=1+ad n 2 10,g:=bv p m,u:=if 1+ad m 3 9=1 then []else bP s n,o:=1+ad m 3 9,f:=101+ad n 3 4}
 else if k=2 then gK p m {b with p:=101+ad n 3 4,n:=1+ad n 2 9,r:=1+ad n 2 10,g:=bv p m,u:=bP s n,t:=101+ad n 3 4}
 else if k=4 then{b with cf:=(gC p m).1,ct:=(gC p m).2,v:=gf (bP s n)}
 else if k=5 then gK p m {b with cf:=(gC p m).1,ct:=(gC p m).2,u:=(iR s (gf (bP s n)) 4).1,m:=(iR s (gf (bP s n)) 4).2}
 else{b with cf:=(gC p m).1,ct:=(gC p m).2}
end Go.Proofs.YtejimgikldiajaaGreat
namespace Go.Proofs.YtejimgikldiajaaGreat
open Go.Abs
def HQ :List (Nat×Ty):=[
 (2,⟨.int .i64,1,8,[.int .i64],false⟩),
 (3,⟨.int .i64,1,8,[.int .i64],false⟩),
 (4,⟨.bool,1,1,[.bool],false⟩),
 (5,⟨.int .u8,1,1,[.int .u8],false⟩),
 (9,⟨.str,1,16,[.str],false⟩),
 (23,⟨.struct [(0,3),(1,3)],2,16,[.int .i64,.int .i64],true⟩),
 (25,⟨.slice 93,1,24,[.slice 93],false⟩),
 (27,⟨.struct [(0,25),(1,25)],2,48,[.slice 93,.slice 93],false⟩),
 (28,⟨.slice 96,1,24,[.slice 96],false⟩),
 (29,⟨.slice 96,1,24,[.slice 96],false⟩),
 (31,⟨.slice 103,1,24,[.slice 103],false⟩),
 (33,⟨.struct [(0,3),(1,3),(2,3),(3,23),(5,3),(6,3),(7,27),(9,27),(11,4),(12,27),(14,25),(15,29),(16,31),(17,4)],18,288,[.int .i64,.int .i64,.int .i64,.int .i64,.int .i64,.int .i64,.int .i64,.slice 93,.slice 93,.slice 93,.slice 93,.bool,.slice 93,.slice 93,.slice 93,.slice 96,.slice 103,.bool],false⟩),
 (36,⟨.int .i64,1,8,[.int .i64],false⟩),
 (38,⟨.slice 5,1,24,[.slice 5],false⟩),
 (43,⟨.slice 3,1,24,[.slice 3],false⟩),
 (44,⟨.int .u16,1,2,[.int .u16],false⟩),
 (50,⟨.slice 54,1,24,[.slice 54],false⟩),
 (54,⟨.int .i64,1,8,[.int .i64],false⟩),
 (61,⟨.ptr 63,1,8,[.ptr],false⟩),
 (63,⟨.struct [(0,38),(1,3),(2,36)],3,40,[.slice 5,.int .i64,.int .i64],false⟩),
 (67,⟨.ptr 33,1,8,[.ptr],false⟩),
 (87,⟨.struct [(0,3),(1,3),(2,3)],3,24,[.int .i64,.int .i64,.int .i64],true⟩),
 (89,⟨.struct [(0,3),(1,3),(2,3),(3,3),(4,87)],7,56,[.int .i64,.int .i64,.int .i64,.int .i64,.int .i64,.int .i64,.int .i64],true⟩),
 (91,⟨.slice 89,1,24,[.slice 89],false⟩),
 (93,⟨.struct [(0,3),(1,3),(2,91)],3,40,[.int .i64,.int .i64,.slice 89],false⟩),
 (94,⟨.slice 136,1,24,[.slice 136],false⟩),
 (96,⟨.struct [(0,3),(1,3),(2,3),(3,94)],4,48,[.int .i64,.int .i64,.int .i64,.slice 136],false⟩),
 (103,⟨.struct [(0,3),(1,3)],2,16,[.int .i64,.int .i64],true⟩),
 (109,⟨.struct [(0,4),(1,4),(2,4),(3,4),(4,4),(5,4),(6,4),(7,4),(8,4)],9,9,[.bool,.bool,.bool,.bool,.bool,.bool,.bool,.bool,.bool],false⟩),
 (113,⟨.int .u64,1,8,[.int .u64],false⟩),
 (136,⟨.struct [(0,3),(1,9),(2,9),(3,2),(4,9)],5,64,[.int .i64,.str,.str,.int .i64,.str],true⟩),
 (148,⟨.slice 25,1,24,[.slice 25],false⟩),
 (155,⟨.ptr 25,1,8,[.ptr],false⟩),
 (156,⟨.slice 155,1,24,[.slice 155],false⟩),
 (157,⟨.int .u64,1,8,[.int .u64],false⟩),
 (168,⟨.struct [(0,38),(1,3),(2,36)],3,40,[.slice 5,.int .i64,.int .i64],false⟩),
 (169,⟨.ptr 3,1,8,[.ptr],false⟩),
 (170,⟨.slice 169,1,24,[.slice 169],false⟩),
 (172,⟨.struct [(0,38),(1,3),(2,36)],3,40,[.slice 5,.int .i64,.int .i64],false⟩),
 (176,⟨.slice 9,1,24,[.slice 9],false⟩),
 (181,⟨.ptr 168,1,8,[.ptr],false⟩),
 (182,⟨.ptr 172,1,8,[.ptr],false⟩)]
noncomputable def ak (f:Func):Code:=match f.body with | some c=>c | none=> .skip
noncomputable def Qt :AFunc:=⟨ak Tryz.f138,.leaf,[3,3,3,4],[.tmp 8],[],[],true⟩
noncomputable def Qq :AFunc:=⟨ak Tryz.f139,.leaf,[87],[.tmp 2],[],[],true⟩
noncomputable def F65 :AFunc:=⟨ak Tryz.f65,.leaf,[3],[.tmp 2],[],[],true⟩
noncomputable def F67 :AFunc:=⟨ak Tryz.f67,.leaf,[3],[.tmp 2],[],[],true⟩
noncomputable def Rg :AFunc:=⟨ak Tryz.f145,.leaf,[87],[.tmp 2],[],[],true⟩
noncomputable def Q6 :AFunc:=⟨ak Tryz.f125,.leaf,[89],[.tmp 2],[],[],true⟩
noncomputable def F133 :AFunc:=⟨ak Tryz.f133,(.q .leaf (.q .leaf (.seq (some []) (.sub (.seq (some [(1,bF),(3,bF),(4,bF),(5,bF),(6,bF),(19,bF)]) .leaf (.cond .leaf (.seq (some [(1,bF),(3,bF),(4,bF),(5,bF),(6,bF),(34,bF)]) .leaf (.cond .leaf (.seq (some [(1,bF),(3,bF),(4,bF),(5,bF),(6,bF),(51,bF)]) .leaf (.cond .leaf (.seq (some [(1,bF),(6,bF),(77,bF)]) .leaf .leaf)))))))) .leaf))),[89],[.tmp 2],[],[],true⟩
noncomputable def F107 :AFunc:=⟨ak Tryz.f107,(.q (.reg [1] []) (.q .leaf (.q (.q .leaf (.sub (.loop [(1,bT),(38,bF),(39,bF),(40,bF)] (.q .leaf (.q .leaf (.q (.sub (.q .leaf (.q .leaf (.q .leaf (.sub (.loop [(1,bT),(4,bF),(38,bF),(39,bF),(40,bF),(53,bF),(54,bF),(55,bF)] .leaf)))))) .leaf)))))) .leaf))),[93],[.tmp 2],[],[],true⟩
noncomputable def F112 :AFunc:=⟨ak Tryz.f112,(.q (.reg [1] []) (.seq (some [(1,bT)]) (.sub (.seq (some [(1,bT),(6,bF)]) .leaf .leaf)) (.seq (some []) (.q .leaf (.sub (.loop [(1,bT),(3,bF)] (.seq (some [(1,bT),(3,bF)]) .leaf (.seq (some [(1,bT),(3,bF)]) (.sub (.seq (some [(1,bT),(3,bF)]) .leaf (.q .leaf (.sub (.loop [(1,bT),(3,bF),(5,bF)] (.seq (some [(1,bT),(3,bF),(5,bF)]) .leaf (.seq (some [(1,bT),(3,bF),(5,bF)]) (.sub (.seq (some [(1,bT),(3,bF),(5,bF),(79,bF)]) .leaf .leaf)) .leaf))))))) .leaf))))) .leaf))),[93],[.tmp 2],[],[],true⟩
noncomputable def QJ :AFunc:=⟨ak Tryz.f140,.leaf,[3],[.tmp 2],[],[],true⟩
noncomputable def R4 :AFunc:=⟨ak Tryz.f127,.leaf,[3,3],[.tmp 4],[],[],true⟩
noncomputable def F126 :AFunc:=⟨ak Tryz.f126,(.q .leaf (.q .leaf (.q (.q .leaf (.sub (.loop [(3,bF),(6,bF),(7,bF),(8,bF)] .leaf))) .leaf))),[43],[.tmp 2],[],[],true⟩
noncomputable def Qc :AFunc:=⟨ak Tryz.f108,(.q (.reg [2,3] []) .leaf),[93,93],[.tmp 4],[],[],true⟩
noncomputable def QV :AFunc:=⟨ak Tryz.f113,(.q (.reg [2,3] []) .leaf),[93,93],[.tmp 4],[],[],true⟩
noncomputable def F91 :AFunc:=⟨ak Tryz.f91,(.q (.reg [2,3] []) (.q .leaf (.q (.q .leaf (.sub (.loop [(2,bT),(3,bT),(5,bF)] .leaf))) .leaf))),[93,93],[.tmp 4],[],[],true⟩
noncomputable def F98 :AFunc:=⟨ak Tryz.f98,(.q (.reg [4] []) (.q (.reg [5] []) (.q (.sub (.loop [(0,bT),(1,bF),(5,bT)] (.q .leaf (.sub (.q (.reg [5,8] []) .leaf))))) (.q (.reg [5,16] []) (.q (.reg [4,21,26] []) .leaf))))),[38,113],[.tmp 4],[],[0],true⟩
noncomputable def F76 :AFunc:=⟨ak Tryz.f76,(.q .leaf (.scope [(0,bF),(5,bF),(6,bF)] .leaf .leaf)),[38],[.tmp 2,.tmp 3,.tmp 4],[],[],true⟩
noncomputable def F85 :AFunc:=⟨ak Tryz.f85,(.q .leaf (.q .leaf (.q (.q .leaf (.sub (.loop [(0,bF),(5,bF),(6,bF)] .leaf))) .leaf))),[38],[.tmp 2,.tmp 3,.tmp 4],[],[],true⟩
noncomputable def Tk :AFunc:=⟨ak Tryz.f134,.leaf,[181],[.tmp 2],[],[],true⟩
noncomputable def F122 :AFunc:=⟨ak Tryz.f122,(.q (.reg [3,4] []) (.q (.reg [5] []) (.q (.q .leaf (.sub (.loop [(0,bT),(5,bT),(20,bF),(21,bF),(22,bF)] (.q .leaf (.q .leaf (.q (.sub (.q .leaf (.reg [5,26] []))) .leaf)))))) (.q .leaf (.q (.q .leaf (.sub (.loop [(0,bT),(8,bF),(47,bF),(48,bF),(49,bF)] .leaf))) (.q (.reg [4,58,63] []) .leaf)))))),[38,93],[.tmp 4],[],[0],true⟩
noncomputable def F116 :AFunc:=⟨ak Tryz.f116,(.q .leaf (.q (.reg [12,13] []) (.q (.reg [15] []) (.q .leaf (.q .leaf (.q .leaf (.q (.q .leaf (.sub (.loop [(2,bF),(5,bF),(6,bF),(7,bF),(8,bF)] (.q .leaf (.q (.sub (.q .leaf (.q .leaf (.reg [58,61] [])))) .leaf))))) (.q .leaf (.q (.q .leaf (.cond (.q (.reg [72] []) .leaf) .leaf)) (.q (.reg [75] []) .leaf)))))))))),[38],[.cell 2 93,.tmp 3,.tmp 4],[],[0],true⟩
noncomputable def F33 :AFunc:=⟨ak Tryz.f33,.leaf,[38],[.tmp 2,.tmp 3,.tmp 4],[],[],true⟩
noncomputable def F34 :AFunc:=⟨ak Tryz.f34,(.q (.reg [4] []) (.q (.reg [7] []) (.q .leaf (.q (.q .leaf (.sub (.loop [(0,bF),(1,bF),(7,bT),(8,bF),(9,bF)] (.q .leaf (.q (.sub (.q .leaf (.q (.q .leaf (.cond (.q (.reg [4] []) .leaf) .leaf)) (.q (.reg [7,29] []) .leaf)))) .leaf))))) (.q (.reg [4,36] []) .leaf))))),[38,3],[.tmp 4,.tmp 5,.tmp 6],[],[0],true⟩
noncomputable def F119 :AFunc:=⟨ak Tryz.f119,(.q .leaf (.q .leaf (.q (.q .leaf (.cond (.q (.reg [22] []) .leaf) .leaf)) (.q (.q .leaf (.cond (.q (.reg [28] []) .leaf) .leaf)) (.q (.reg [35] []) (.q (.q .leaf (.sub (.loop [(0,bF),(2,bF),(5,bF),(6,bF),(8,bF),(9,bF)] (.q .leaf (.q (.sub (.q .leaf (.q (.q .leaf (.cond (.q (.reg [53] []) .leaf) .leaf)) (.q (.reg [56,81] []) .leaf)))) .leaf))))) (.q (.q .leaf (.q .leaf (.cond (.q (.reg [90] []) .leaf) .leaf))) (.q (.reg [92] []) .leaf)))))))),[38],[.cell 2 93,.tmp 3,.tmp 4],[],[0],true⟩
noncomputable def F41 :AFunc:=⟨ak Tryz.f41,.leaf,[3,3],[.tmp 4],[],[],true⟩
noncomputable def F42 :AFunc:=⟨ak Tryz.f42,(.q .leaf (.q .leaf (.q (.q .leaf (.sub (.loop [(1,bF),(2,bF),(7,bF),(8,bF)] .leaf))) .leaf))),[3,3,3],[.tmp 6],[],[],true⟩
noncomputable def F48 :AFunc:=⟨ak Tryz.f48,.leaf,[43,3],[.tmp 4],[],[],true⟩
noncomputable def F96 :AFunc:=⟨ak Tryz.f96,.leaf,[3],[.cell 2 87],[],[],true⟩
noncomputable def F49 :AFunc:=⟨ak Tryz.f49,.leaf,[3],[.cell 2 89],[],[],true⟩
noncomputable def F14 :AFunc:=⟨ak Tryz.f14,(.q (.reg [2] []) (.q (.reg [3] []) (.q .leaf (.q (.q .leaf (.sub (.loop [(0,bF),(3,bT),(4,bF),(5,bF)] (.q .leaf (.q (.sub (.q .leaf (.sub (.loop [(0,bF),(3,bT),(4,bF),(5,bF),(6,bF)] (.q .leaf (.q (.sub (.q (.reg [29,30] []) (.q .leaf (.q (.q .leaf (.cond (.reg [62,65] []) .leaf)) (.q (.reg [3,67] []) .leaf))))) .leaf)))))) .leaf))))) (.q (.reg [2,73] []) .leaf))))),[43],[.tmp 2],[],[0],true⟩
noncomputable def F61 :AFunc:=⟨ak Tryz.f61,(.q .leaf (.q (.q .leaf (.sub (.loop [(0,bF),(6,bF),(7,bF),(8,bF)] (.q .leaf (.q .leaf (.q (.sub (.q (.reg [12] []) .leaf)) .leaf)))))) .leaf)),[25],[.tmp 2],[],[],true⟩
noncomputable def F70 :AFunc:=⟨ak Tryz.f70,(.q .leaf (.q (.q .leaf (.sub (.loop [(0,bF),(3,bF)] .leaf))) .leaf)),[25],[.tmp 2],[],[],true⟩
noncomputable def F38 :AFunc:=⟨ak Tryz.f38,(.q .leaf (.q .leaf (.q (.q .leaf (.sub (.loop [(0,bF),(1,bF),(5,bF)] .leaf))) .leaf))),[25,25],[.tmp 4],[],[],true⟩
noncomputable def F99 :AFunc:=⟨ak Tryz.f99,(.q (.reg [4] []) (.q (.reg [5] []) (.q (.q .leaf (.sub (.loop [(0,bT),(5,bT),(12,bF),(13,bF),(14,bF)] (.q .leaf (.q .leaf (.q (.sub (.q (.reg [17] []) (.reg [5,18] []))) .leaf)))))) (.q (.reg [4,23,28] []) .leaf)))),[38,25],[.tmp 4],[],[0],true⟩
noncomputable def F78 :AFunc:=⟨ak Tryz.f78,(.q (.reg [2] []) (.q .leaf (.q (.q .leaf (.cond (.q (.reg [2] []) .leaf) .leaf)) (.q (.q .leaf (.cond (.q (.reg [2] []) .leaf) .leaf)) (.q (.reg [8] []) (.q (.q .leaf (.sub (.loop [(0,bF),(6,bF),(8,bT),(24,bF),(25,bF)] (.q .leaf (.q .leaf (.q (.sub (.q (.reg [27,32] []) (.q (.q .leaf (.cond (.q (.reg [2] []) .leaf) .leaf)) (.q (.reg [8,38] []) .leaf)))) .leaf)))))) (.q (.q .leaf (.q .leaf (.cond (.q (.reg [2] []) .leaf) .leaf))) (.q (.reg [2,51] []) .leaf)))))))),[38],[.tmp 2,.tmp 3,.tmp 4],[],[0],true⟩
noncomputable def F86 :AFunc:=⟨ak Tryz.f86,(.q (.reg [2] []) (.q .leaf (.q (.q .leaf (.cond (.q (.reg [2] []) .leaf) .leaf)) (.q (.q .leaf (.cond (.q (.reg [2] []) .leaf) .leaf)) (.q (.reg [8] []) (.q (.q .leaf (.sub (.loop [(0,bF),(5,bF),(6,bF),(8,bT),(9,bF)] (.q .leaf (.q (.sub (.q (.reg [31,36] []) (.q (.q .leaf (.cond (.q (.reg [2] []) .leaf) .leaf)) (.q (.reg [8,42] []) .leaf)))) .leaf))))) (.q (.q .leaf (.q .leaf (.cond (.q (.reg [2] []) .leaf) .leaf))) (.q (.reg [2,54] []) .leaf)))))))),[38],[.tmp 2,.tmp 3,.tmp 4],[],[0],true⟩
noncomputable def F95 :AFunc:=⟨ak Tryz.f95,(.q .leaf (.q (.q .leaf (.sub (.loop [(0,bF),(1,bF),(5,bF)] .leaf))) .leaf)),[31,3],[.tmp 4],[],[],true⟩
noncomputable def F94 :AFunc:=⟨ak Tryz.f94,(.q (.reg [6] []) (.q (.q .leaf (.cond (.q (.reg [6,20] []) .leaf) .leaf)) (.q (.reg [7] []) (.q .leaf (.q (.q .leaf (.sub (.loop [(0,bT),(1,bF),(2,bF),(7,bT),(8,bF),(9,bF)] (.q .leaf (.q (.sub (.q (.q .leaf (.cond (.q (.reg [7,40] []) .leaf) .leaf)) (.q .leaf (.cond (.reg [7,53] []) .leaf)))) .leaf))))) (.q (.q .leaf (.cond (.reg [7,62] []) .leaf)) (.q (.reg [6,68] []) .leaf))))))),[31,3,3],[.tmp 6],[],[],true⟩
noncomputable def F40 :AFunc:=⟨ak Tryz.f40,(.q .leaf (.q .leaf (.q (.q .leaf (.sub (.loop [(0,bF),(1,bF),(5,bF)] .leaf))) .leaf))),[31,31],[.tmp 4],[],[],true⟩
noncomputable def F27 :AFunc:=⟨ak Tryz.f27,(.q .leaf (.q (.q .leaf (.sub (.loop [(0,bF),(3,bF)] .leaf))) .leaf)),[31],[.tmp 2],[],[],true⟩
noncomputable def F93 :AFunc:=⟨ak Tryz.f93,(.q (.reg [4] []) (.q (.reg [5] []) (.q (.q .leaf (.sub (.loop [(0,bF),(1,bF),(5,bT),(6,bF)] (.q .leaf (.q (.sub (.q .leaf (.cond (.reg [5,26] []) .leaf))) .leaf))))) (.q (.reg [4,33] []) .leaf)))),[25,31],[.tmp 4],[],[],true⟩
noncomputable def F43 :AFunc:=⟨ak Tryz.f43,(.q (.reg [4] []) (.q (.reg [5] []) (.q (.q .leaf (.sub (.loop [(0,bF),(1,bF),(5,bT),(6,bF)] (.q .leaf (.q (.sub (.q .leaf (.cond (.reg [5,16] []) .leaf))) .leaf))))) (.q (.reg [4] []) .leaf)))),[25,3],[.tmp 4],[],[],true⟩
noncomputable def Rq :AFunc:=⟨ak Tryz.f144,.leaf,[89,89],[.tmp 4],[],[],true⟩
noncomputable def F132 :AFunc:=⟨ak Tryz.f132,(.q (.reg [2,3] []) (.q .leaf (.q (.q .leaf (.sub (.loop [(3,bT),(29,bF),(30,bF),(31,bF)] .leaf))) .leaf))),[93,93],[.tmp 4],[],[],true⟩
noncomputable def Rf :AFunc:=⟨ak Tryz.f131,(.q (.reg [2] []) .leaf),[93,3],[.tmp 3],[],[],true⟩
noncomputable def F143 :AFunc:=⟨ak Tryz.f143,(.q .leaf (.q (.q .leaf (.sub (.loop [(0,bF),(1,bF),(7,bF),(8,bF)] .leaf))) .leaf)),[25,166],[.tmp 4],[],[],true⟩
noncomputable def QA :AFunc:=⟨ak Tryz.f130,.leaf,[25,166],[.tmp 4],[],[],true⟩
noncomputable def F111 :AFunc:=⟨ak Tryz.f111,(.q .leaf (.q (.q .leaf (.sub (.loop [(0,bF),(7,bF),(8,bF),(9,bF)] (.q .leaf (.q .leaf (.q (.sub (.q (.reg [12] []) .leaf)) .leaf)))))) .leaf)),[25,25],[.tmp 4],[],[],true⟩
noncomputable def F72 :AFunc:=⟨ak Tryz.f72,(.q .leaf (.q (.q .leaf (.sub (.loop [(0,bF),(1,bF),(5,bF)] (.q .leaf (.q (.sub (.q .leaf (.q (.q .leaf (.sub (.loop [(0,bF),(1,bF),(5,bF),(6,bF),(7,bF)] .leaf))) .leaf))) .leaf))))) .leaf)),[25,25],[.tmp 4],[],[],true⟩
noncomputable def F63 :AFunc:=⟨ak Tryz.f63,(.q (.reg [1] []) (.q (.q .leaf (.sub (.loop [(1,bT),(10,bF),(11,bF),(12,bF)] .leaf))) .leaf)),[27],[.tmp 2],[],[],true⟩
noncomputable def F26 :AFunc:=⟨ak Tryz.f26,(.q (.reg [1] []) .leaf),[27],[.tmp 2],[],[],true⟩
noncomputable def F37 :AFunc:=⟨ak Tryz.f37,(.q (.reg [2,3] []) .leaf),[27,27],[.tmp 4],[],[],true⟩
noncomputable def F81 :AFunc:=⟨ak Tryz.f81,(.q .leaf (.q .leaf (.q .leaf (.q (.q .leaf (.sub (.sub (.q .leaf (.q .leaf (.q (.sub (.q .leaf (.q (.reg [9,21,26] []) (.q (.q .leaf (.cond (.q (.reg [31] []) .leaf) .leaf)) (.q (.reg [34] []) .leaf))))) .leaf)))))) (.q (.q .leaf (.q .leaf (.cond (.q (.reg [44] []) .leaf) .leaf))) (.q (.reg [46] []) .leaf)))))),[38],[.cell 2 27,.tmp 3,.tmp 4],[],[0],true⟩
noncomputable def F89 :AFunc:=⟨ak Tryz.f89,(.q .leaf (.q (.reg [5,12,15] []) (.q (.q .leaf (.cond (.q (.reg [20] []) .leaf) .leaf)) (.q .leaf (.q (.q .leaf (.cond (.q (.reg [32] []) .leaf) .leaf)) (.q (.reg [34,36] []) (.q (.q .leaf (.q .leaf (.cond (.q (.reg [41] []) .leaf) .leaf))) (.q (.reg [43] []) .leaf)))))))),[38],[.cell 2 27,.tmp 3,.tmp 4],[],[],true⟩
noncomputable def Ti :AFunc:=⟨ak Tryz.f101,(.q (.reg [3,4] []) (.q (.reg [4] []) .leaf)),[38,27],[.tmp 4],[],[0],true⟩
noncomputable def F45 :AFunc:=⟨ak Tryz.f45,(.q .leaf (.q .leaf (.q (.reg [13,15] []) .leaf))),[25,3],[.cell 4 27],[],[],true⟩
noncomputable def F66 :AFunc:=⟨ak Tryz.f66,.leaf,[3],[.tmp 2],[],[],true⟩
noncomputable def Ry :AFunc:=⟨ak Tryz.f141,.leaf,[136],[.tmp 2],[],[],true⟩
noncomputable def SS :AFunc:=⟨ak Tryz.f114,.leaf,[136],[.tmp 2],[],[],true⟩
noncomputable def Sr :AFunc:=⟨ak Tryz.f153,.leaf,[136],[.tmp 2],[],[],true⟩
noncomputable def F156 :AFunc:=⟨ak Tryz.f156,(.q .leaf (.q (.q .leaf (.sub (.loop [(0,bF),(1,bF),(7,bF),(8,bF)] .leaf))) .leaf)),[94,192],[.tmp 4],[],[],true⟩
noncomputable def Sf :AFunc:=⟨ak Tryz.f152,.leaf,[94,192],[.tmp 4],[],[],true⟩
noncomputable def RR :AFunc:=⟨ak Tryz.f142,(.q (.reg [1] []) .leaf),[96],[.tmp 2],[],[],true⟩
noncomputable def F115 :AFunc:=⟨ak Tryz.f115,(.q (.reg [1] []) (.q (.q .leaf (.sub (.loop [(1,bT),(3,bF)] .leaf))) .leaf)),[96],[.tmp 2],[],[],true⟩
noncomputable def F128 :AFunc:=⟨ak Tryz.f128,(.q (.reg [1] []) (.q .leaf (.q (.q .leaf (.sub (.loop [(1,bT),(46,bF),(47,bF),(48,bF)] .leaf))) .leaf))),[96],[.tmp 2],[],[],true⟩
noncomputable def F73 :AFunc:=⟨ak Tryz.f73,(.q (.reg [1] []) (.q .leaf (.q (.q .leaf (.sub (.loop [(1,bT),(3,bF)] .leaf))) .leaf))),[96],[.tmp 2],[],[],true⟩
noncomputable def SB :AFunc:=⟨ak Tryz.f129,(.q (.reg [2,3] []) .leaf),[96,96],[.tmp 4],[],[],true⟩
noncomputable def F74 :AFunc:=⟨ak Tryz.f74,(.q (.reg [2,3] []) .leaf),[96,96],[.tmp 4],[],[],true⟩
noncomputable def F92 :AFunc:=⟨ak Tryz.f92,(.q (.reg [2,3] []) (.q .leaf (.q (.q .leaf (.sub (.loop [(2,bT),(3,bT),(5,bF)] .leaf))) .leaf))),[96,96],[.tmp 4],[],[],true⟩
noncomputable def QM :AFunc:=⟨ak Tryz.f123,(.q (.reg [4] []) (.q (.reg [4] []) .leaf)),[38,9],[.tmp 4],[],[0],true⟩
noncomputable def S4 :AFunc:=⟨ak Tryz.f124,(.q (.reg [4] []) (.q (.reg [4] []) .leaf)),[38,2],[.tmp 4],[],[0],true⟩
noncomputable def F100 :AFunc:=⟨ak Tryz.f100,(.q (.reg [3,4] []) (.q .leaf (.q (.q .leaf (.sub (.loop [(0,bT),(3,bT),(5,bF),(19,bF),(20,bF),(21,bF)] .leaf))) (.q (.q .leaf (.sub (.loop [(0,bT),(5,bF),(31,bF),(32,bF),(33,bF)] .leaf))) (.q (.reg [4,57,62] []) .leaf))))),[38,96],[.tmp 4],[],[0],true⟩
noncomputable def Rb :AFunc:=⟨ak Tryz.f155,.leaf,[38],[.tmp 2,.tmp 3,.tmp 4],[],[],true⟩
noncomputable def Sw :AFunc:=⟨ak Tryz.f150,.leaf,[38],[.tmp 2,.tmp 3,.tmp 4],[],[],true⟩
noncomputable def Q2 :AFunc:=⟨ak Tryz.f154,.leaf,[38],[.tmp 2,.tmp 3,.tmp 4],[],[],true⟩
noncomputable def Sg :AFunc:=⟨ak Tryz.f149,.leaf,[38],[.tmp 2,.tmp 3,.tmp 4],[],[],true⟩
noncomputable def QB :AFunc:=⟨ak Tryz.f146,.leaf,[182,3,36],[],[],[],true⟩
noncomputable def R1 :AFunc:=⟨ak Tryz.f135,.leaf,[182],[.tmp 2],[],[],true⟩
noncomputable def TA :AFunc:=⟨ak Tryz.f147,.leaf,[182],[.tmp 2],[],[],true⟩
noncomputable def RF :AFunc:=⟨ak Tryz.f148,.leaf,[182],[.tmp 2],[],[],true⟩
noncomputable def RA :AFunc:=⟨ak Tryz.f136,.leaf,[182],[.cell 2 136],[],[],true⟩
noncomputable def F118 :AFunc:=⟨ak Tryz.f118,(.q .leaf (.q (.reg [9,10] []) (.q (.reg [12] []) (.q .leaf (.q .leaf (.q .leaf (.q .leaf (.q (.q .leaf (.sub (.loop [(2,bF),(5,bF),(6,bF),(7,bF),(8,bF)] (.q .leaf (.q (.sub (.reg [37,40] [])) .leaf))))) (.q .leaf (.q (.q .leaf (.cond (.q (.reg [51] []) .leaf) .leaf)) (.q (.reg [54] []) .leaf))))))))))),[38],[.cell 2 96,.tmp 3,.tmp 4],[],[0],true⟩
noncomputable def R8 :AFunc:=⟨ak Tryz.f137,.leaf,[38],[.cell 2 136,.tmp 3,.tmp 4],[],[],true⟩
noncomputable def F120 :AFunc:=⟨ak Tryz.f120,(.q .leaf (.q .leaf (.q (.q .leaf (.cond (.q (.reg [22] []) .leaf) .leaf)) (.q (.q .leaf (.cond (.q (.reg [28] []) .leaf) .leaf)) (.q (.reg [38] []) (.q (.q .leaf (.sub (.loop [(0,bF),(2,bF),(5,bF),(6,bF),(8,bF),(9,bF)] (.q .leaf (.q (.sub (.q .leaf (.q (.q .leaf (.cond (.q (.reg [56] []) .leaf) .leaf)) (.q (.reg [59,62] []) .leaf)))) .leaf))))) (.q (.q .leaf (.q .leaf (.cond (.q (.reg [71] []) .leaf) .leaf))) (.q (.reg [73] []) .leaf)))))))),[38],[.cell 2 96,.tmp 3,.tmp 4],[],[0],true⟩
noncomputable def Ss :AFunc:=⟨ak Tryz.f121,.leaf,[3],[.tmp 2],[],[],true⟩
noncomputable def F97 :AFunc:=⟨ak Tryz.f97,.leaf,[3,4],[.cell 4 136],[],[],true⟩
noncomputable def F50 :AFunc:=⟨ak Tryz.f50,(.q .leaf (.q (.reg [11] []) (.q (.q .leaf (.cond (.q .leaf (.q (.reg [20] []) (.q (.reg [22] []) .leaf))) .leaf)) (.q (.q .leaf (.sub (.loop [(2,bF),(6,bF),(7,bF),(8,bF)] (.q .leaf (.q (.sub (.reg [30,38] [])) .leaf))))) (.q (.reg [40] []) .leaf))))),[3,3,3],[.cell 6 96],[],[0],true⟩
noncomputable def F15 :AFunc:=⟨ak Tryz.f15,(.q (.reg [2] []) (.q (.reg [3] []) (.q (.q .leaf (.sub (.loop [(0,bF),(3,bT),(4,bF)] (.q .leaf (.q (.sub (.q .leaf (.q .leaf (.sub (.loop [(0,bF),(3,bT),(4,bF),(5,bF),(6,bF)] (.q .leaf (.q (.sub (.q .leaf (.cond (.q .leaf (.reg [3,34] [])) .leaf))) .leaf))))))) .leaf))))) (.q (.reg [2,47] []) .leaf)))),[43],[.tmp 2],[],[0],true⟩
noncomputable def F110 :AFunc:=⟨ak Tryz.f110,(.q .leaf (.q (.q .leaf (.sub (.loop [(0,bF),(6,bF),(7,bF),(8,bF)] (.q .leaf (.q .leaf (.q (.sub (.q (.reg [12] []) .leaf)) .leaf)))))) .leaf)),[29],[.tmp 2],[],[],true⟩
noncomputable def F71 :AFunc:=⟨ak Tryz.f71,(.q .leaf (.q (.q .leaf (.sub (.loop [(0,bF),(3,bF)] .leaf))) .leaf)),[29],[.tmp 2],[],[],true⟩
noncomputable def F39 :AFunc:=⟨ak Tryz.f39,(.q .leaf (.q .leaf (.q (.q .leaf (.sub (.loop [(0,bF),(1,bF),(5,bF)] .leaf))) .leaf))),[29,29],[.tmp 4],[],[],true⟩
noncomputable def F87 :AFunc:=⟨ak Tryz.f87,(.q (.reg [2] []) (.q .leaf (.q (.q .leaf (.cond (.q (.reg [2] []) .leaf) .leaf)) (.q (.q .leaf (.cond (.q (.reg [2] []) .leaf) .leaf)) (.q (.reg [8] []) (.q (.q .leaf (.sub (.loop [(0,bF),(5,bF),(6,bF),(8,bT),(9,bF)] (.q .leaf (.q (.sub (.q (.reg [29,34] []) (.q (.q .leaf (.cond (.q (.reg [2] []) .leaf) .leaf)) (.q (.reg [8,40] []) .leaf)))) .leaf))))) (.q (.reg [2,47] []) .leaf))))))),[38],[.tmp 2,.tmp 3,.tmp 4],[],[0],true⟩
noncomputable def F46 :AFunc:=⟨ak Tryz.f46,(.q (.reg [2] []) (.q (.reg [3] []) (.q (.q .leaf (.sub (.loop [(0,bF),(3,bF),(4,bF)] (.q .leaf (.q (.sub (.reg [3] [])) .leaf))))) (.q (.reg [2,26] []) .leaf)))),[29],[.tmp 2],[],[],true⟩
noncomputable def F47 :AFunc:=⟨ak Tryz.f47,(.q (.reg [6] []) (.q (.reg [8] []) (.q (.q .leaf (.sub (.loop [(0,bF),(1,bF),(2,bF),(8,bT),(9,bF)] (.q .leaf (.q (.sub (.q .leaf (.q (.q .leaf (.cond (.q (.reg [6,33] []) .leaf) .leaf)) (.reg [8,34] [])))) .leaf))))) (.q (.reg [6,41] []) .leaf)))),[29,31,3],[.tmp 6,.tmp 7],[],[],true⟩
noncomputable def F44 :AFunc:=⟨ak Tryz.f44,(.q (.reg [4] []) (.q (.reg [5] []) (.q (.q .leaf (.sub (.loop [(0,bF),(1,bF),(5,bT),(6,bF)] (.q .leaf (.q (.sub (.q .leaf (.cond (.reg [5,27] []) .leaf))) .leaf))))) (.q (.reg [4,34] []) .leaf)))),[29,3],[.tmp 4],[],[],true⟩
noncomputable def F58 :AFunc:=⟨ak Tryz.f58,.leaf,[3],[.tmp 2],[],[],true⟩
noncomputable def F19 :AFunc:=⟨ak Tryz.f19,.leaf,[3],[.tmp 2],[],[],true⟩
noncomputable def F23 :AFunc:=⟨ak Tryz.f23,.leaf,[3],[.tmp 2],[],[],true⟩
noncomputable def F60 :AFunc:=⟨ak Tryz.f60,(.q (.reg [1] []) .leaf),[27],[.tmp 2],[],[],true⟩
noncomputable def F69 :AFunc:=⟨ak Tryz.f69,(.q (.reg [1] []) .leaf),[27],[.tmp 2],[],[],true⟩
noncomputable def F59 :AFunc:=⟨ak Tryz.f59,(.q .leaf (.q (.q .leaf (.sub (.loop [(0,bF),(1,bF),(7,bF),(8,bF)] .leaf))) .leaf)),[50,54],[.tmp 4],[],[],true⟩
noncomputable def F20 :AFunc:=⟨ak Tryz.f20,.leaf,[50,54],[.tmp 4],[],[],true⟩
noncomputable def F21 :AFunc:=⟨ak Tryz.f21,(.q (.reg [2] []) .leaf),[33,54],[.tmp 4],[],[],true⟩
noncomputable def F109 :AFunc:=⟨ak Tryz.f109,(.q .leaf (.q .leaf (.q (.q .leaf (.sub (.loop [(0,bF),(9,bF),(10,bF),(11,bF)] (.q .leaf (.q .leaf (.q (.sub (.q (.reg [15] []) .leaf)) .leaf)))))) .leaf))),[29],[.tmp 2],[],[],true⟩
noncomputable def F28 :AFunc:=⟨ak Tryz.f28,(.q .leaf (.q .leaf (.q (.q .leaf (.sub (.loop [(0,bF),(3,bF)] .leaf))) .leaf))),[29],[.tmp 2],[],[],true⟩
noncomputable def F62 :AFunc:=⟨ak Tryz.f62,(.q (.reg [1] []) .leaf),[33],[.tmp 2],[],[],true⟩
noncomputable def F64 :AFunc:=⟨ak Tryz.f64,(.q .leaf (.q (.q .leaf (.sub (.loop [(0,bF),(5,bF),(6,bF),(7,bF)] .leaf))) .leaf)),[31],[.tmp 2],[],[],true⟩
noncomputable def F22 :AFunc:=⟨ak Tryz.f22,(.q (.reg [2] []) .leaf),[33,54],[.tmp 4],[],[],true⟩
noncomputable def F8 :AFunc:=⟨ak Tryz.f8,(.q (.reg [1] []) (.q .leaf (.q .leaf (.q .leaf (.q (.q .leaf (.sub (.loop [(1,bT),(3,bF),(27,bF)] .leaf))) (.q (.q .leaf (.sub (.loop [(1,bT),(41,bF),(42,bF),(43,bF)] .leaf))) .leaf)))))),[33],[.tmp 2],[],[],true⟩
noncomputable def F68 :AFunc:=⟨ak Tryz.f68,.leaf,[3],[.cell 2 109],[],[],true⟩
noncomputable def F24 :AFunc:=⟨ak Tryz.f24,(.q (.reg [1] []) (.q .leaf (.seq (some []) (.sub (.seq (some [(1,bT),(3,bF),(7,bF)]) (.seq (some [(1,bT),(3,bF),(7,bF)]) .leaf (.cond .leaf (.seq (some [(1,bT),(3,bF),(7,bF)]) .leaf .leaf))) (.cond .leaf (.seq (some [(1,bT),(3,bF),(33,bF)]) (.seq (some [(1,bT),(3,bF),(33,bF)]) .leaf (.cond .leaf (.seq (some [(1,bT),(3,bF),(33,bF)]) .leaf (.cond .leaf (.seq (some [(1,bT),(3,bF),(33,bF)]) .leaf .leaf))))) (.cond .leaf (.seq (some [(68,bF)]) (.seq (some [(1,bT),(3,bF),(68,bF)]) .leaf .leaf) .leaf)))))) .leaf))),[33],[.tmp 2],[],[],true⟩
noncomputable def F29 :AFunc:=⟨ak Tryz.f29,(.q (.reg [1] []) .leaf),[33],[.tmp 2],[],[],true⟩
noncomputable def F25 :AFunc:=⟨ak Tryz.f25,(.q (.reg [1] []) (.seq (some []) (.sub (.seq (some [(1,bT),(3,bF)]) .leaf (.cond .leaf (.seq (some [(1,bT),(28,bF)]) .leaf (.cond .leaf (.seq (some [(1,bT),(37,bF)]) .leaf (.cond .leaf (.q .leaf (.cond .leaf (.q .leaf (.cond .leaf (.seq (some [(1,bT),(67,bF)]) .leaf .leaf)))))))))))) .leaf)),[33],[.tmp 2],[],[],true⟩
noncomputable def F9 :AFunc:=⟨ak Tryz.f9,(.q (.reg [1] []) .leaf),[33],[.tmp 2],[],[],true⟩
noncomputable def F84 :AFunc:=⟨ak Tryz.f84,.leaf,[38],[.tmp 2,.tmp 3,.tmp 4],[],[],true⟩
noncomputable def F90 :AFunc:=⟨ak Tryz.f90,.leaf,[38],[.tmp 2,.tmp 3,.tmp 4],[],[],true⟩
noncomputable def F75 :AFunc:=⟨ak Tryz.f75,.leaf,[61,115],[.tmp 4],[],[],true⟩
noncomputable def F31 :AFunc:=⟨ak Tryz.f31,.leaf,[61,4,36],[],[],[],true⟩
noncomputable def F30 :AFunc:=⟨ak Tryz.f30,.leaf,[61],[.tmp 2],[],[],true⟩
noncomputable def F77 :AFunc:=⟨ak Tryz.f77,.leaf,[61,117],[.tmp 4],[],[],true⟩
noncomputable def F80 :AFunc:=⟨ak Tryz.f80,.leaf,[61,120],[.cell 4 27],[],[],true⟩
noncomputable def Qo :AFunc:=⟨ak Tryz.f117,.leaf,[61,154],[.cell 4 96],[],[],true⟩
noncomputable def F83 :AFunc:=⟨ak Tryz.f83,.leaf,[61,123],[.tmp 4],[],[],true⟩
noncomputable def F79 :AFunc:=⟨ak Tryz.f79,(.q (.reg [2] []) (.q .leaf (.q .leaf (.q (.reg [4] []) (.q (.q .leaf (.sub (.loop [(0,bF),(3,bF),(4,bT),(5,bF)] (.q .leaf (.q (.sub (.reg [4,24] [])) .leaf))))) (.q (.reg [2,29] []) .leaf)))))),[61],[.tmp 2],[],[],true⟩
noncomputable def F82 :AFunc:=⟨ak Tryz.f82,(.q (.reg [2] []) (.q .leaf (.q .leaf (.q (.reg [4] []) (.q (.q .leaf (.sub (.loop [(0,bF),(3,bF),(4,bT),(5,bF)] (.q .leaf (.q (.sub (.q .leaf (.q .leaf (.reg [4,31] [])))) .leaf))))) (.q (.reg [2,35] []) .leaf)))))),[61],[.tmp 2],[],[],true⟩
noncomputable def F32 :AFunc:=⟨ak Tryz.f32,(.q .leaf (.sub (.q .leaf (.cond .leaf (.q .leaf (.cond .leaf (.q .leaf (.cond .leaf (.q .leaf (.cond (.reg [39] []) (.q .leaf (.cond (.reg [46] []) (.q .leaf (.cond (.reg [53] []) (.q .leaf (.cond (.reg [60] []) (.q .leaf (.cond .leaf (.q .leaf (.cond .leaf (.q .leaf (.cond (.q .leaf (.cond (.reg [85] []) .leaf)) (.q .leaf (.cond (.reg [92] []) .leaf)))))))))))))))))))))))),[61,67,54],[],[],[],true⟩
noncomputable def F10 :AFunc:=⟨ak Tryz.f10,(.q .leaf (.q .leaf (.q .leaf (.q .leaf (.q .leaf (.q .leaf (.q .leaf (.q (.q .leaf (.sub (.loop [(2,bF),(5,bF),(6,bF),(33,bF),(34,bF),(35,bF)] .leaf))) .leaf)))))))),[38],[.cell 2 33,.tmp 3,.tmp 4],[],[],true⟩
noncomputable def F88 :AFunc:=⟨ak Tryz.f88,(.q (.reg [2] []) (.q .leaf (.q (.q .leaf (.cond (.q (.reg [23] []) .leaf) .leaf)) (.q .leaf (.q (.q .leaf (.cond (.q (.reg [28,33] []) (.q (.q .leaf (.cond (.q (.reg [38] []) .leaf) .leaf)) (.q (.reg [40] []) .leaf))) .leaf)) (.q (.reg [45,50] []) (.q (.q .leaf (.cond (.q (.reg [55] []) .leaf) .leaf)) (.q (.reg [57] []) (.q (.reg [59] []) .leaf))))))))),[33,38],[.cell 4 33,.tmp 5,.tmp 6],[],[],true⟩
noncomputable def F35 :AFunc:=⟨ak Tryz.f35,.leaf,[33,38],[.cell 4 33,.tmp 5,.tmp 6],[],[],true⟩
noncomputable def F36 :AFunc:=⟨ak Tryz.f36,(.q (.reg [2] []) (.q .leaf (.q .leaf (.q .leaf (.q (.q .leaf (.sub (.q .leaf (.cond (.q .leaf (.q .leaf (.q .leaf (.q .leaf (.q .leaf (.q .leaf (.q (.q .leaf (.sub (.loop [(2,bT),(4,bF),(8,bF),(10,bF),(11,bF),(13,bF),(14,bF)] (.q .leaf (.q (.sub (.reg [73,87] [])) .leaf))))) .leaf))))))) .leaf)))) .leaf))))),[33,38],[.cell 4 33,.tmp 5,.tmp 6],[],[],true⟩
noncomputable def F11 :AFunc:=⟨ak Tryz.f11,(.q .leaf (.q .leaf (.q .leaf (.q .leaf (.q .leaf (.q .leaf (.q .leaf (.q (.reg [3000051,4000051] []) .leaf)))))))),[38],[.cell 2 33,.tmp 3,.tmp 4],[],[],true⟩
noncomputable def F12 :AFunc:=⟨ak Tryz.f12,(.q (.reg [2,3] []) .leaf),[33,33],[.tmp 4],[],[],true⟩
noncomputable def F6 :AFunc:=⟨ak Tryz.f6,(.q (.reg [1] []) .leaf),[33],[.tmp 2],[],[],true⟩
noncomputable def Tj :AFunc:=⟨ak Tryz.f102,(.q (.reg [4] []) (.q (.q .leaf (.cond (.q (.reg [4,6,11] []) .leaf) .leaf)) (.q (.reg [4,14,19] []) .leaf))),[38,4],[.tmp 4],[],[0],true⟩
noncomputable def F51 :AFunc:=⟨ak Tryz.f51,(.q (.reg [2] []) (.q (.reg [3] []) (.q (.q .leaf (.sub (.loop [(3,bT),(6,bF),(7,bF),(8,bF)] (.q .leaf (.q .leaf (.q (.sub (.q .leaf (.reg [3] []))) .leaf)))))) (.q (.reg [2,17] []) .leaf)))),[43],[.tmp 2],[],[0],true⟩
noncomputable def F52 :AFunc:=⟨ak Tryz.f52,(.q (.reg [2,4] []) (.q (.q .leaf (.sub (.q .leaf (.cond (.q (.reg [4] []) .leaf) (.q .leaf (.cond (.q (.reg [4] []) .leaf) (.q .leaf (.cond (.q (.reg [4] []) .leaf) (.q .leaf (.cond (.q (.reg [4] []) .leaf) (.q .leaf (.cond (.q (.reg [5] []) (.q (.q .leaf (.sub (.loop [(5,bT),(47,bF),(48,bF),(49,bF)] (.q .leaf (.q .leaf (.q (.sub (.q (.reg [52] []) (.reg [5,53] []))) .leaf)))))) (.q (.reg [4,58] []) .leaf))) (.q .leaf (.cond (.q (.reg [4] []) .leaf) (.q .leaf (.cond (.q (.reg [8] []) (.q (.q .leaf (.sub (.loop [(8,bT),(72,bF),(73,bF),(74,bF)] (.q .leaf (.q .leaf (.q (.sub (.q .leaf (.reg [8,78] []))) .leaf)))))) (.q (.reg [4,87] []) .leaf))) (.q .leaf (.cond (.q (.reg [4] []) .leaf) (.q .leaf (.cond (.q (.reg [4] []) .leaf) (.q .leaf (.cond (.q (.q .leaf (.cond (.q (.reg [4] []) .leaf) .leaf)) (.q (.reg [4] []) .leaf)) .leaf)))))))))))))))))))))) (.q (.reg [4] []) .leaf))),[33,54],[.tmp 4],[],[0],true⟩
noncomputable def F16 :AFunc:=⟨ak Tryz.f16,(.q (.reg [3,4] []) (.q (.reg [5] []) (.q .leaf (.q (.q .leaf (.sub (.loop [(0,bT),(3,bT),(5,bT),(24,bF),(25,bF),(26,bF)] (.q .leaf (.q .leaf (.q (.sub (.q .leaf (.reg [5,30] []))) .leaf)))))) (.q (.reg [4,36,41] []) .leaf))))),[38,33],[.tmp 4],[],[0],true⟩
noncomputable def F13 :AFunc:=⟨ak Tryz.f13,(.q .leaf (.q (.reg [21] []) (.q (.q .leaf (.sub (.q .leaf (.cond (.q .leaf (.q .leaf (.q (.reg [46] []) (.q (.reg [50] []) (.q (.q .leaf (.cond (.q .leaf (.q .leaf (.q .leaf (.q (.reg [67] []) .leaf)))) .leaf)) .leaf))))) (.q .leaf (.cond (.q (.reg [76] []) (.q (.reg [81] []) (.q (.reg [83] []) .leaf))) (.q .leaf (.cond (.q (.reg [88] []) (.reg [90,97] [])) (.q (.reg [26] []) (.q (.reg [28] []) .leaf)))))))))) (.q .leaf (.q (.q .leaf (.cond (.reg [111] []) .leaf)) (.q (.reg [117] []) (.q (.reg [119] []) .leaf))))))),[25,29,3,3,3],[.cell 10 33],[],[],true⟩
noncomputable def F7 :AFunc:=⟨ak Tryz.f7,(.q .leaf (.q (.reg [6] []) (.q (.reg [7,11] []) .leaf))),[],[.tmp 0],[],[],true⟩
noncomputable def F3 :AFunc:=⟨ak Tryz.f3,(.q (.reg [1] []) .leaf),[33],[.tmp 2],[],[],true⟩
noncomputable def F4 :AFunc:=⟨ak Tryz.f4,(.q .leaf (.q .leaf (.q (.reg [13,16] []) (.q (.reg [19,22] []) .leaf)))),[38],[.tmp 2],[],[],true⟩
noncomputable def F5 :AFunc:=⟨ak Tryz.f5,(.q .leaf (.q (.reg [34] []) (.q .leaf (.q .leaf (.q .leaf (.q .leaf (.q (.reg [1000048] []) (.q (.q .leaf (.cond (.reg [2000020] []) .leaf)) (.q (.reg [59,62,2000060] []) (.q (.reg [65,68,2000066] []) .leaf)))))))))),[43,43,3,3,3,44,5,4],[.tmp 16],[],[],true⟩
noncomputable def Re :AFunc:=⟨ak Tryz.f105,(.q .leaf (.q .leaf (.q (.q .leaf (.sub (.loop [(0,bF),(1,bF),(12,bF),(13,bF)] .leaf))) .leaf))),[91,91],[.tmp 4],[],[],true⟩
noncomputable def R6 :AFunc:=⟨ak Tryz.f106,(.q .leaf (.q .leaf (.q (.q .leaf (.sub (.loop [(0,bF),(1,bF),(12,bF),(13,bF)] .leaf))) .leaf))),[94,94],[.tmp 4],[],[],true⟩
noncomputable def F57 :AFunc:=⟨ak Tryz.f57,(.q .leaf (.q .leaf (.q (.q .leaf (.sub (.loop [(0,bF),(1,bF),(12,bF),(13,bF)] .leaf))) .leaf))),[31,31],[.tmp 4],[],[],true⟩
noncomputable def F53 :AFunc:=⟨ak Tryz.f53,(.q (.reg [2,3] []) .leaf),[27,27],[.tmp 4],[],[],true⟩
noncomputable def F54 :AFunc:=⟨ak Tryz.f54,.leaf,[25,25],[.tmp 4],[],[],true⟩
noncomputable def SM :AFunc:=⟨ak Tryz.f104,(.q (.reg [2,3] []) .leaf),[93,93],[.tmp 4],[],[],true⟩
noncomputable def F17 :AFunc:=⟨ak Tryz.f17,(.q (.reg [2,3] []) .leaf),[33,33],[.tmp 4],[],[],true⟩
noncomputable def F56 :AFunc:=⟨ak Tryz.f56,(.q (.reg [2,3] []) .leaf),[96,96],[.tmp 4],[],[],true⟩
noncomputable def F55 :AFunc:=⟨ak Tryz.f55,(.q .leaf (.q .leaf (.q (.q .leaf (.sub (.loop [(1,bF),(2,bF),(15,bF),(16,bF),(17,bF)] (.q .leaf (.q .leaf (.q (.sub (.q (.reg [21] []) (.q (.reg [25] []) .leaf))) .leaf)))))) .leaf))),[29,29,101],[.tmp 6],[],[],true⟩
noncomputable def Tc :AFunc:=⟨ak Tryz.f103,(.q .leaf (.q .leaf (.q (.q .leaf (.sub (.loop [(1,bF),(2,bF),(15,bF),(16,bF),(17,bF)] (.q .leaf (.q .leaf (.q (.sub (.q (.reg [21] []) (.q (.reg [25] []) .leaf))) .leaf)))))) .leaf))),[25,25,130],[.tmp 6],[],[],true⟩
noncomputable def IP :List (Nat×(Sig×FnDef)):=[
 (103,(⟨[.one (.bool)],[],[]⟩,.code Tc)),
 (55,(⟨[.one (.bool)],[],[]⟩,.code F55)),
 (56,(⟨[.one (.bool)],[],[]⟩,.code F56)),
 (17,(⟨[.one (.bool)],[],[]⟩,.code F17)),
 (104,(⟨[.one (.bool)],[],[]⟩,.code SM)),
 (54,(⟨[.one (.bool)],[],[]⟩,.code F54)),
 (53,(⟨[.one (.bool)],[],[]⟩,.code F53)),
 (57,(⟨[.one (.bool)],[],[]⟩,.code F57)),
 (106,(⟨[.one (.bool)],[],[]⟩,.code R6)),
 (105,(⟨[.one (.bool)],[],[]⟩,.code Re)),
 (5,(⟨[.one (.bool)],[],[]⟩,.code F5)),
 (4,(⟨[.one (.bool)],[],[]⟩,.code F4)),
 (3,(⟨[.one (.bool)],[],[]⟩,.code F3)),
 (7,(⟨[.one (.bool)],[],[]⟩,.code F7)),
 (13,(⟨[.agg [.int .i64,.int .i64,.int .i64,.int .i64,.int .i64,.int .i64,.int .i64,.sl false 93,.sl false 93,.sl false 93,.sl false 93,.bool,.sl false 93,.sl false 93,.sl false 93,.sl false 96,.sl false 103,.bool]],[],[]⟩,.code F13)),
 (16,(⟨[.one (.sl true 5)],[],[]⟩,.code F16)),
 (52,(⟨[.one (.sl true 5)],[],[]⟩,.code F52)),
 (51,(⟨[.one (.sl true 5)],[],[]⟩,.code F51)),
 (102,(⟨[.one (.sl true 5)],[],[]⟩,.code Tj)),
 (6,(⟨[.one (.bool)],[],[]⟩,.code F6)),
 (12,(⟨[.one (.bool)],[],[]⟩,.code F12)),
 (11,(⟨[.agg [.int .i64,.int .i64,.int .i64,.int .i64,.int .i64,.int .i64,.int .i64,.sl false 93,.sl false 93,.sl false 93,.sl false 93,.bool,.sl false 93,.sl false 93,.sl false 93,.sl false 96,.sl false 103,.bool],.one (.int .i64),.one (.int .i64)],[],[]⟩,.code F11)),
 (36,(⟨[.agg [.int .i64,.int .i64,.int .i64,.int .i64,.int .i64,.int .i64,.int .i64,.sl false 93,.sl false 93,.sl false 93,.sl false 93,.bool,.sl false 93,.sl false 93,.sl false 93,.sl false 96,.sl false 103,.bool],.one (.int .i64),.one (.int .i64)],[],[]⟩,.code F36)),
 (35,(⟨[.agg [.int .i64,.int .i64,.int .i64,.int .i64,.int .i64,.int .i64,.int .i64,.sl false 93,.sl false 93,.sl false 93,.sl false 93,.bool,.sl false 93,.sl false 93,.sl false 93,.sl false 96,.sl false 103,.bool],.one (.int .i64),.one (.int .i64)],[],[]⟩,.code F35)),
 (88,(⟨[.agg [.int .i64,.int .i64,.int .i64,.int .i64,.int .i64,.int .i64,.int .i64,.sl false 93,.sl false 93,.sl false 93,.sl false 93,.bool,.sl false 93,.sl false 93,.sl false 93,.sl false 96,.sl false 103,.bool],.one (.int .i64),.one (.int .i64)],[],[]⟩,.code F88)),
 (10,(⟨[.agg [.int .i64,.int .i64,.int .i64,.int .i64,.int .i64,.int .i64,.int .i64,.sl false 93,.sl false 93,.sl false 93,.sl false 93,.bool,.sl false 93,.sl false 93,.sl false 93,.sl false 96,.sl false 103,.bool],.one (.int .i64),.one (.int .i64)],[],[]⟩,.code F10)),
 (32,(⟨[],[[.sl false 5,.int .i64,.int .i64],[.int .i64,.int .i64,.int .i64,.int .i64,.int .i64,.int .i64,.int .i64,.sl false 93,.sl false 93,.sl false 93,.sl false 93,.bool,.sl false 93,.sl false 93,.sl false 93,.sl false 96,.sl false 103,.bool]],[]⟩,.code F32)),
 (82,(⟨[.one (.sl false 103)],[[.sl false 5,.int .i64,.int .i64]],[]⟩,.code F82)),
 (79,(⟨[.one (.sl false 96)],[[.sl false 5,.int .i64,.int .i64]],[]⟩,.code F79)),
 (83,(⟨[.one (.bool)],[[.sl false 5,.int .i64,.int .i64]],[]⟩,.code F83)),
 (117,(⟨[.agg [.int .i64,.int .i64,.int .i64,.sl false 136]],[[.sl false 5,.int .i64,.int .i64]],[]⟩,.code Qo)),
 (80,(⟨[.agg [.sl false 93,.sl false 93]],[[.sl false 5,.int .i64,.int .i64]],[]⟩,.code F80)),
 (77,(⟨[.one (.sl false 93)],[[.sl false 5,.int .i64,.int .i64]],[]⟩,.code F77)),
 (30,(⟨[.one (.int .i64)],[[.sl false 5,.int .i64,.int .i64]],[]⟩,.code F30)),
 (31,(⟨[],[[.sl false 5,.int .i64,.int .i64]],[]⟩,.code F31)),
 (75,(⟨[.one (.int .u64)],[[.sl false 5,.int .i64,.int .i64]],[]⟩,.code F75)),
 (90,(⟨[.one (.bool),.one (.int .i64),.one (.int .i64)],[],[]⟩,.code F90)),
 (84,(⟨[.one (.bool),.one (.int .i64),.one (.int .i64)],[],[]⟩,.code F84)),
 (9,(⟨[.one (.int .i64)],[],[]⟩,.code F9)),
 (25,(⟨[.one (.int .i64)],[],[]⟩,.code F25)),
 (29,(⟨[.one (.int .i64)],[],[]⟩,.code F29)),
 (24,(⟨[.one (.bool)],[],[]⟩,.code F24)),
 (68,(⟨[.agg [.bool,.bool,.bool,.bool,.bool,.bool,.bool,.bool,.bool]],[],[]⟩,.code F68)),
 (8,(⟨[.one (.int .i64)],[],[]⟩,.code F8)),
 (22,(⟨[.one (.int .i64)],[],[]⟩,.code F22)),
 (64,(⟨[.one (.int .i64)],[],[]⟩,.code F64)),
 (62,(⟨[.one (.int .i64)],[],[]⟩,.code F62)),
 (28,(⟨[.one (.int .i64)],[],[]⟩,.code F28)),
 (109,(⟨[.one (.int .i64)],[],[]⟩,.code F109)),
 (21,(⟨[.one (.bool)],[],[]⟩,.code F21)),
 (20,(⟨[.one (.bool)],[],[]⟩,.code F20)),
 (59,(⟨[.one (.int .i64)],[],[]⟩,.code F59)),
 (69,(⟨[.one (.bool)],[],[]⟩,.code F69)),
 (60,(⟨[.one (.bool)],[],[]⟩,.code F60)),
 (23,(⟨[.one (.bool)],[],[]⟩,.code F23)),
 (19,(⟨[.one (.bool)],[],[]⟩,.code F19)),
 (58,(⟨[.one (.bool)],[],[]⟩,.code F58)),
 (18,(⟨[.one (.sl false 54),.one (.bool)],[],[]⟩,.prim (pw 54))),
 (44,(⟨[.one (.sl false 96)],[],[]⟩,.code F44)),
 (47,(⟨[.one (.sl false 96),.one (.bool)],[],[]⟩,.code F47)),
 (46,(⟨[.one (.sl false 103)],[],[]⟩,.code F46)),
 (87,(⟨[.one (.sl true 96),.one (.int .i64),.one (.int .i64)],[],[]⟩,.code F87)),
 (39,(⟨[.one (.bool)],[],[]⟩,.code F39)),
 (71,(⟨[.one (.int .i64)],[],[]⟩,.code F71)),
 (110,(⟨[.one (.int .i64)],[],[]⟩,.code F110)),
 (15,(⟨[.one (.sl true 96)],[],[]⟩,.code F15)),
 (50,(⟨[.agg [.int .i64,.int .i64,.int .i64,.sl true 136]],[],[]⟩,.code F50)),
 (97,(⟨[.agg [.int .i64,.str,.str,.int .i64,.str]],[],[]⟩,.code F97)),
 (121,(⟨[.one (.str)],[],[]⟩,.code Ss)),
 (120,(⟨[.agg [.int .i64,.int .i64,.int .i64,.sl true 136],.one (.int .i64),.one (.int .i64)],[],[]⟩,.code F120)),
 (137,(⟨[.agg [.int .i64,.str,.str,.int .i64,.str],.one (.int .i64),.one (.int .i64)],[],[]⟩,.code R8)),
 (118,(⟨[.agg [.int .i64,.int .i64,.int .i64,.sl true 136],.one (.int .i64),.one (.int .i64)],[],[]⟩,.code F118)),
 (136,(⟨[.agg [.int .i64,.str,.str,.int .i64,.str]],[[.sl false 5,.int .i64,.int .i64]],[]⟩,.code RA)),
 (148,(⟨[.one (.int .i64)],[[.sl false 5,.int .i64,.int .i64]],[]⟩,.code RF)),
 (147,(⟨[.one (.str)],[[.sl false 5,.int .i64,.int .i64]],[]⟩,.code TA)),
 (135,(⟨[.one (.int .i64)],[[.sl false 5,.int .i64,.int .i64]],[]⟩,.code R1)),
 (146,(⟨[],[[.sl false 5,.int .i64,.int .i64]],[]⟩,.code QB)),
 (149,(⟨[.one (.str),.one (.int .i64),.one (.int .i64)],[],[]⟩,.code Sg)),
 (154,(⟨[.one (.str),.one (.int .i64),.one (.int .i64)],[],[]⟩,.code Q2)),
 (150,(⟨[.one (.int .i64),.one (.int .i64),.one (.int .i64)],[],[]⟩,.code Sw)),
 (155,(⟨[.one (.int .i64),.one (.int .i64),.one (.int .i64)],[],[]⟩,.code Rb)),
 (100,(⟨[.one (.sl true 5)],[],[]⟩,.code F100)),
 (124,(⟨[.one (.sl true 5)],[],[]⟩,.code S4)),
 (123,(⟨[.one (.sl true 5)],[],[]⟩,.code QM)),
 (92,(⟨[.one (.bool)],[],[]⟩,.code F92)),
 (74,(⟨[.one (.int .i64)],[],[]⟩,.code F74)),
 (129,(⟨[.one (.int .i64)],[],[]⟩,.code SB)),
 (73,(⟨[.one (.int .i64)],[],[]⟩,.code F73)),
 (128,(⟨[.one (.int .i64)],[],[]⟩,.code F128)),
 (115,(⟨[.one (.bool)],[],[]⟩,.code F115)),
 (142,(⟨[.one (.bool)],[],[]⟩,.code RR)),
 (152,(⟨[.one (.bool)],[],[]⟩,.code Sf)),
 (156,(⟨[.one (.int .i64)],[],[]⟩,.code F156)),
 (153,(⟨[.one (.bool)],[],[]⟩,.code Sr)),
 (114,(⟨[.one (.int .i64)],[],[]⟩,.code SS)),
 (141,(⟨[.one (.int .i64)],[],[]⟩,.code Ry)),
 (151,(⟨[.one (.bool)],[],[]⟩,.prim xM)),
 (66,(⟨[.one (.bool)],[],[]⟩,.code F66)),
 (45,(⟨[.agg [.sl false 93,.sl false 93]],[],[]⟩,.code F45)),
 (101,(⟨[.one (.sl true 5)],[],[]⟩,.code Ti)),
 (89,(⟨[.agg [.sl false 93,.sl false 93],.one (.int .i64),.one (.int .i64)],[],[]⟩,.code F89)),
 (81,(⟨[.agg [.sl true 93,.sl true 93],.one (.int .i64),.one (.int .i64)],[],[]⟩,.code F81)),
 (37,(⟨[.one (.bool)],[],[]⟩,.code F37)),
 (26,(⟨[.one (.int .i64)],[],[]⟩,.code F26)),
 (63,(⟨[.one (.int .i64)],[],[]⟩,.code F63)),
 (72,(⟨[.one (.bool)],[],[]⟩,.code F72)),
 (111,(⟨[.one (.bool)],[],[]⟩,.code F111)),
 (130,(⟨[.one (.bool)],[[.int .i64,.int .i64,.sl false 89]],[]⟩,.code QA)),
 (143,(⟨[.one (.int .i64)],[[.int .i64,.int .i64,.sl false 89]],[]⟩,.code F143)),
 (131,(⟨[.one (.bool)],[[.int .i64,.int .i64,.sl false 89]],[]⟩,.code Rf)),
 (132,(⟨[.one (.bool)],[],[]⟩,.code F132)),
 (144,(⟨[.one (.bool)],[],[]⟩,.code Rq)),
 (43,(⟨[.one (.sl false 93)],[],[]⟩,.code F43)),
 (93,(⟨[.one (.sl false 93)],[],[]⟩,.code F93)),
 (27,(⟨[.one (.int .i64)],[],[]⟩,.code F27)),
 (40,(⟨[.one (.bool)],[],[]⟩,.code F40)),
 (94,(⟨[.one (.sl false 103)],[],[]⟩,.code F94)),
 (95,(⟨[.one (.int .i64)],[],[]⟩,.code F95)),
 (86,(⟨[.one (.sl true 93),.one (.int .i64),.one (.int .i64)],[],[]⟩,.code F86)),
 (78,(⟨[.one (.sl true 93),.one (.int .i64),.one (.int .i64)],[],[]⟩,.code F78)),
 (99,(⟨[.one (.sl true 5)],[],[]⟩,.code F99)),
 (38,(⟨[.one (.bool)],[],[]⟩,.code F38)),
 (70,(⟨[.one (.int .i64)],[],[]⟩,.code F70)),
 (61,(⟨[.one (.int .i64)],[],[]⟩,.code F61)),
 (14,(⟨[.one (.sl true 93)],[],[]⟩,.code F14)),
 (49,(⟨[.agg [.int .i64,.int .i64,.int .i64,.int .i64,.int .i64,.int .i64,.int .i64]],[],[]⟩,.code F49)),
 (96,(⟨[.agg [.int .i64,.int .i64,.int .i64]],[],[]⟩,.code F96)),
 (48,(⟨[.one (.int .i64)],[],[]⟩,.code F48)),
 (42,(⟨[.one (.int .i64)],[],[]⟩,.code F42)),
 (41,(⟨[.one (.int .i64)],[],[]⟩,.code F41)),
 (119,(⟨[.agg [.int .i64,.int .i64,.sl true 89],.one (.int .i64),.one (.int .i64)],[],[]⟩,.code F119)),
 (34,(⟨[.one (.sl true 3),.one (.int .i64),.one (.int .i64)],[],[]⟩,.code F34)),
 (33,(⟨[.one (.int .i64),.one (.int .i64),.one (.int .i64)],[],[]⟩,.code F33)),
 (116,(⟨[.agg [.int .i64,.int .i64,.sl true 89],.one (.int .i64),.one (.int .i64)],[],[]⟩,.code F116)),
 (122,(⟨[.one (.sl true 5)],[],[]⟩,.code F122)),
 (134,(⟨[.one (.int .i64)],[[.sl false 5,.int .i64,.int .i64]],[]⟩,.code Tk)),
 (85,(⟨[.one (.int .u64),.one (.int .i64),.one (.int .i64)],[],[]⟩,.code F85)),
 (76,(⟨[.one (.int .u64),.one (.int .i64),.one (.int .i64)],[],[]⟩,.code F76)),
 (98,(⟨[.one (.sl true 5)],[],[]⟩,.code F98)),
 (91,(⟨[.one (.bool)],[],[]⟩,.code F91)),
 (113,(⟨[.one (.int .i64)],[],[]⟩,.code QV)),
 (108,(⟨[.one (.int .i64)],[],[]⟩,.code Qc)),
 (126,(⟨[.one (.int .i64)],[],[]⟩,.code F126)),
 (127,(⟨[.one (.int .i64)],[],[]⟩,.code R4)),
 (140,(⟨[.one (.bool)],[],[]⟩,.code QJ)),
 (112,(⟨[.one (.int .i64)],[],[]⟩,.code F112)),
 (107,(⟨[.one (.int .i64)],[],[]⟩,.code F107)),
 (133,(⟨[.one (.int .i64)],[],[]⟩,.code F133)),
 (125,(⟨[.one (.int .i64)],[],[]⟩,.code Q6)),
 (145,(⟨[.one (.int .i64)],[],[]⟩,.code Rg)),
 (67,(⟨[.one (.bool)],[],[]⟩,.code F67)),
 (65,(⟨[.one (.bool)],[],[]⟩,.code F65)),
 (139,(⟨[.one (.int .i64)],[],[]⟩,.code Qq)),
 (138,(⟨[.one (.bool)],[],[]⟩,.code Qt))]
noncomputable def E :Env:=⟨lM HQ,lM IP⟩
def M6 :Go.Abs.Spec:=fun args blk=>match args,blk with
 | [.one (.int .i64 n),.one (.int .i64 lo),.one (.int .i64 hi),.one (.bool u)],[]=>(true,([.one (.bool (ej n lo hi u))],[]))
 | _,_=>(false,([],[]))
def Oz :Go.Abs.Spec:=fun args blk=>match args,blk with
 | [.agg [.int .i64 k,.int .i64 c,.int .i64 f]],[]=>(true,([.one (.int .i64 (iH k c f))],[]))
 | _,_=>(false,([],[]))
def s65 :Go.Abs.Spec:=fun args blk=>match args,blk with
 | [.one (.int .i64 n)],[]=>(true,([.one (.bool (dt n))],[]))
 | _,_=>(false,([],[]))
def s67 :Go.Abs.Spec:=fun args blk=>match args,blk with
 | [.one (.int .i64 n)],[]=>(true,([.one (.bool (ic n))],[]))
 | _,_=>(false,([],[]))
def N9 :Go.Abs.Spec:=fun args blk=>match args,blk with
 | [.agg [.int .i64 k,.int .i64 c,.int .i64 f]],[]=>(true,([.one (.int .i64 (iH k c f))],[]))
 | _,_=>(false,([],[]))
def Ni :Go.Abs.Spec:=fun args blk=>match args,blk with
 | [.agg [.int .i64 k,.int .i64 s,.int .i64 w,.int .i64 v,.int .i64 rk,.int .i64 rc,.int .i64 rf]],[]=>(true,([.one (.int .i64 (dx k s w v rk rc rf))],[]))
 | _,_=>(false,([],[]))
def NL :Go.Abs.Spec:=fun args blk=>match args,blk with
 | [.agg [.int .i64 k,.int .i64 s,.int .i64 w,.int .i64 v,.int .i64 rk,.int .i64 rc,.int .i64 rf]],[]=>(true,([.one (.int .i64 (dx k s w v rk rc rf))],[]))
 | _,_=>(false,([],[]))
def NE :Go.Abs.Spec:=fun args blk=>match args,blk with
 | [.agg [.int .i64 ap,.int .i64 np,.sl false 89 cp]],[]=>((decide (cp.length<9223372036854775808)),([.one (.int .i64 (di ap np cp))],[]))
 | _,_=>(false,([],[]))
def NJ :Go.Abs.Spec:=fun args blk=>match args,blk with
 | [.agg [.int .i64 ap,.int .i64 np,.sl false 89 cp]],[]=>((decide (cp.length<9223372036854775808)),([.one (.int .i64 (di ap np cp))],[]))
 | _,_=>(false,([],[]))
def Nh :Go.Abs.Spec:=fun args blk=>match args,blk with
 | [.one (.int .i64 n)],[]=>(true,([.one (.bool false)],[]))
 | _,_=>(false,([],[]))
def Nf :Go.Abs.Spec:=fun args blk=>match args,blk with
 | [.one (.int .i64 x),.one (.int .i64 y)],[]=>(true,([.one (.int .i64 (qm x y))],[]))
 | _,_=>(false,([],[]))
def O3 :Go.Abs.Spec:=fun args blk=>match args,blk with
 | [.one (.sl false 3 l)],[]=>((decide (l.length<9223372036854775808)),([.one (.int .i64 (vj l))],[]))
 | _,_=>(false,([],[]))
def NW :Go.Abs.Spec:=fun args blk=>match args,blk with
 | [.agg [.int .i64 ap,.int .i64 np,.sl false 89 cp],.agg [.int .i64 aq,.int .i64 nq,.sl false 89 cq]],[]=>(true,([.one (.int .i64 (km ap np aq nq))],[]))
 | _,_=>(false,([],[]))
def Nm :Go.Abs.Spec:=fun args blk=>match args,blk with
 | [.agg [.int .i64 ap,.int .i64 np,.sl false 89 cp],.agg [.int .i64 aq,.int .i64 nq,.sl false 89 cq]],[]=>(true,([.one (.int .i64 (km ap np aq nq))],[]))
 | _,_=>(false,([],[]))
def s91 :Go.Abs.Spec:=fun args blk=>match args,blk with
 | [.agg [.int .i64 ap,.int .i64 np,.sl false 89 cp],.agg [.int .i64 aq,.int .i64 nq,.sl false 89 cq]],[]=>((decide (cp.length<9223372036854775808)),([.one (.bool (eqP ap np cp aq nq cq))],[]))
 | _,_=>(false,([],[]))
def s98 :Go.Abs.Spec:=fun args blk=>match args,blk with
 | [.one (.sl false 5 x),.one (.int .u64 v)],[]=>((jo x v),([.one (.sl true 5 (x++bc v))],[]))
 | [.one (.nils),.one (.int .u64 v)],[]=>((okU v),([.one (.sl true 5 (bc v))],[]))
 | _,_=>(false,([],[]))
def s76 :Go.Abs.Spec:=fun args blk=>match args,blk with
 | [.one (.sl false 5 x)],[]=>((aI x),([.one (.int .u64 (aD x).1),.one (.int .i64 (aD x).2.1),.one (.int .i64 (aD x).2.2)],[]))
 | _,_=>(false,([],[]))
def s85 :Go.Abs.Spec:=fun args blk=>match args,blk with
 | [.one (.sl false 5 x)],[]=>((aI x),([.one (.int .u64 (aD x).1),.one (.int .i64 (aD x).2.1),.one (.int .i64 (aD x).2.2)],[]))
 | _,_=>(false,([],[]))
def NN :Go.Abs.Spec:=fun args blk=>match args,blk with
 | [.one (.ptr 0 0)],[.var [.sl false 5 b,.int .i64 o,.int .i64 e]]=>((aT b o),([.one (.int .i64 (af b o e).1)],[.var [.sl false 5 b,.int .i64 (af b o e).2.1,.int .i64 (af b o e).2.2]]))
 | _,_=>(false,([],[]))
def Ow :Go.Abs.Spec:=fun args blk=>match args,blk with
 | [.one (.sl false 5 x),.agg [.int .i64 ap,.int .i64 np,.sl false 89 cp]],[]=>((nb x cp),([.one (.sl true 5 (x++gt ap np cp))],[]))
 | [.one (.nils),.agg [.int .i64 ap,.int .i64 np,.sl false 89 cp]],[]=>((nb [] cp),([.one (.sl true 5 (gt ap np cp))],[]))
 | _,_=>(false,([],[]))
def Nc :Go.Abs.Spec:=fun args blk=>match args,blk with
 | [.one (.sl false 5 x)],[]=>((aI x),([.agg [.int .i64 (cJ x).1,.int .i64 (cJ x).2.1,.sl true 89 (cJ x).2.2.1],.one (.int .i64 (cJ x).2.2.2.1),.one (.int .i64 (cJ x).2.2.2.2)],[]))
 | _,_=>(false,([],[]))
def s33 :Go.Abs.Spec:=fun args blk=>match args,blk with
 | [.one (.sl false 5 x)],[]=>((aI x),([.one (.int .i64 (am x).1),.one (.int .i64 (am x).2.1),.one (.int .i64 (am x).2.2)],[]))
 | _,_=>(false,([],[]))
def s34 :Go.Abs.Spec:=fun args blk=>match args,blk with
 | [.one (.sl false 5 x),.one (.int .i64 c)],[]=>((aI x&&decide (c≤1000)),([.one (.sl true 3 (ai x c).1),.one (.int .i64 (ai x c).2.1),.one (.int .i64 (ai x c).2.2)],[]))
 | _,_=>(false,([],[]))
def Od :Go.Abs.Spec:=fun args blk=>match args,blk with
 | [.one (.sl false 5 x)],[]=>((aI x),([.agg [.int .i64 (cJ x).1,.int .i64 (cJ x).2.1,.sl true 89 (cJ x).2.2.1],.one (.int .i64 (cJ x).2.2.2.1),.one (.int .i64 (cJ x).2.2.2.2)],[]))
 | _,_=>(false,([],[]))
def s41 :Go.Abs.Spec:=fun args blk=>match args,blk with
 | [.one (.int .i64 n),.one (.int .i64 k)],[]=>((decide (k≤4611686018427387904)),([.one (.int .i64 (aK n k))],[]))
 | _,_=>(false,([],[]))
def s42 :Go.Abs.Spec:=fun args blk=>match args,blk with
 | [.one (.int .i64 n),.one (.int .i64 b),.one (.int .i64 j)],[]=>((decide (2≤b)&&decide (j≤9223372036854775807)),([.one (.int .i64 (ad n b j))],[]))
 | _,_=>(false,([],[]))
def s48 :Go.Abs.Spec:=fun args blk=>match args,blk with
 | [.one (.sl false 3 l),.one (.int .i64 j)],[]=>((decide (l.length<4611686018427387904)),([.one (.int .i64 (gAt l j))],[]))
 | _,_=>(false,([],[]))
def s96 :Go.Abs.Spec:=fun args blk=>match args,blk with
 | [.one (.int .i64 n)],[]=>(true,([.agg [.int .i64 (jk n).1,.int .i64 (jk n).2.1,.int .i64 (jk n).2.2]],[]))
 | _,_=>(false,([],[]))
def s49 :Go.Abs.Spec:=fun args blk=>match args,blk with
 | [.one (.int .i64 n)],[]=>(true,([.agg [.int .i64 (gCh n 0),.int .i64 (gCh n 1),.int .i64 (gCh n 2),.int .i64 (gCh n 3),.int .i64 (gCh n 4),.int .i64 (gCh n 5),.int .i64 (gCh n 6)]],[]))
 | _,_=>(false,([],[]))
def s14 :Go.Abs.Spec:=fun args blk=>match args,blk with
 | [.one (.sl false 3 l)],[]=>((decide (l.length<4611686018427387904)),([.one (.sl true 93 (pj l))],[]))
 | _,_=>(false,([],[]))
def s61 :Go.Abs.Spec:=fun args blk=>match args,blk with
 | [.one (.sl false 93 c)],[]=>((ao c),([.one (.int .i64 (bM c))],[]))
 | _,_=>(false,([],[]))
def s70 :Go.Abs.Spec:=fun args blk=>match args,blk with
 | [.one (.sl false 93 c)],[]=>((ao c),([.one (.int .i64 (bM c))],[]))
 | _,_=>(false,([],[]))
def s38 :Go.Abs.Spec:=fun args blk=>match args,blk with
 | [.one (.sl false 93 c),.one (.sl false 93 d)],[]=>((ao c),([.one (.bool (da c d))],[]))
 | _,_=>(false,([],[]))
def s99 :Go.Abs.Spec:=fun args blk=>match args,blk with
 | [.one (.sl false 5 x),.one (.sl false 93 c)],[]=>((dq x c),([.one (.sl true 5 (x++gB c))],[]))
 | [.one (.nils),.one (.sl false 93 c)],[]=>((dq [] c),([.one (.sl true 5 (gB c))],[]))
 | _,_=>(false,([],[]))
def s78 :Go.Abs.Spec:=fun args blk=>match args,blk with
 | [.one (.sl false 5 x)],[]=>((aI x),([.one (.sl true 93 (aX x).1),.one (.int .i64 (aX x).2.1),.one (.int .i64 (aX x).2.2)],[]))
 | _,_=>(false,([],[]))
def s86 :Go.Abs.Spec:=fun args blk=>match args,blk with
 | [.one (.sl false 5 x)],[]=>((aI x),([.one (.sl true 93 (aX x).1),.one (.int .i64 (aX x).2.1),.one (.int .i64 (aX x).2.2)],[]))
 | _,_=>(false,([],[]))
def s95 :Go.Abs.Spec:=fun args blk=>match args,blk with
 | [.one (.sl false 103 v),.one (.int .i64 a)],[]=>((cN v),([.one (.int .i64 (bH v a))],[]))
 | _,_=>(false,([],[]))
def s94 :Go.Abs.Spec:=fun args blk=>match args,blk with
 | [.one (.sl false 103 v),.one (.int .i64 a),.one (.int .i64 k)],[]=>((Ce v),([.one (.sl false 103 (ix v a k))],[]))
 | _,_=>(false,([],[]))
def s40 :Go.Abs.Spec:=fun args blk=>match args,blk with
 | [.one (.sl false 103 v),.one (.sl false 103 w)],[]=>((cN v),([.one (.bool (rC v w))],[]))
 | _,_=>(false,([],[]))
def s27 :Go.Abs.Spec:=fun args blk=>match args,blk with
 | [.one (.sl false 103 v)],[]=>((cN v),([.one (.int .i64 (qx v))],[]))
 | _,_=>(false,([],[]))
def s93 :Go.Abs.Spec:=fun args blk=>match args,blk with
 | [.one (.sl false 93 c),.one (.sl false 103 v)],[]=>((ek c&&cN v),([.one (.sl false 93 (lm c v))],[]))
 | _,_=>(false,([],[]))
def s43 :Go.Abs.Spec:=fun args blk=>match args,blk with
 | [.one (.sl false 93 c),.one (.int .i64 n)],[]=>((ek c),([.one (.sl false 93 (bv c n))],[]))
 | _,_=>(false,([],[]))
def Nt :Go.Abs.Spec:=fun args blk=>match args,blk with
 | [.agg [.int .i64 k1,.int .i64 s1,.int .i64 w1,.int .i64 v1,.int .i64 rk1,.int .i64 rc1,.int .i64 rf1],.agg [.int .i64 k2,.int .i64 s2,.int .i64 w2,.int .i64 v2,.int .i64 rk2,.int .i64 rc2,.int .i64 rf2]],[]=>(true,([.one (.bool (vh k1 s1 w1 v1 rk1 rc1 rf1 k2 s2 w2 v2 rk2 rc2 rf2))],[]))
 | _,_=>(false,([],[]))
def Nw :Go.Abs.Spec:=fun args blk=>match args,blk with
 | [.agg [.int .i64 ap,.int .i64 np,.sl false 89 cp],.agg [.int .i64 aq,.int .i64 nq,.sl false 89 cq]],[]=>((decide (cp.length<9223372036854775808)),([.one (.bool (eqP ap np cp aq nq cq))],[]))
 | _,_=>(false,([],[]))
def OX :Go.Abs.Spec:=fun args blk=>match args,blk with
 | [.agg [.int .i64 aq,.int .i64 nq,.sl false 89 cq],.one (.ptr 0 0)],[.var [.int .i64 a,.int .i64 n,.sl false 89 l]]=>((decide (l.length<9223372036854775808)),([.one (.bool (eqP a n l aq nq cq))],[.var [.int .i64 a,.int .i64 n,.sl false 89 l]]))
 | _,_=>(false,([],[]))
def OM :Go.Abs.Spec:=fun args blk=>match args,blk with
 | [.one (.sl false 93 c),.one (.fn 131 [.ptr 0 0])],[.var [.int .i64 a,.int .i64 n,.sl false 89 l]]=>((ao c&&decide (l.length<9223372036854775808)),([.one (.int .i64 (Lp a n l c))],[.var [.int .i64 a,.int .i64 n,.sl false 89 l]]))
 | _,_=>(false,([],[]))
def OG :Go.Abs.Spec:=fun args blk=>match args,blk with
 | [.one (.sl false 93 c),.one (.fn 131 [.ptr 0 0])],[.var [.int .i64 a,.int .i64 n,.sl false 89 l]]=>((ao c&&decide (l.length<9223372036854775808)),([.one (.bool (inP a n l c))],[.var [.int .i64 a,.int .i64 n,.sl false 89 l]]))
 | _,_=>(false,([],[]))
def Og :Go.Abs.Spec:=fun args blk=>match args,blk with
 | [.one (.sl false 93 c),.one (.sl false 93 d)],[]=>((ao c&&ao d),([.one (.bool (kM c d))],[]))
 | _,_=>(false,([],[]))
def s72 :Go.Abs.Spec:=fun args blk=>match args,blk with
 | [.one (.sl false 93 c),.one (.sl false 93 d)],[]=>((ao c&&ao d),([.one (.bool (kM c d))],[]))
 | _,_=>(false,([],[]))
def s63 :Go.Abs.Spec:=fun args blk=>match args,blk with
 | [.agg [.sl false 93 f1,.sl false 93 t1]],[]=>((ao f1&&ao t1),([.one (.int .i64 (aV f1 t1))],[]))
 | _,_=>(false,([],[]))
def s26 :Go.Abs.Spec:=fun args blk=>match args,blk with
 | [.agg [.sl false 93 f1,.sl false 93 t1]],[]=>((ao f1&&ao t1),([.one (.int .i64 (aV f1 t1))],[]))
 | _,_=>(false,([],[]))
def s37 :Go.Abs.Spec:=fun args blk=>match args,blk with
 | [.agg [.sl false 93 f1,.sl false 93 t1],.agg [.sl false 93 f2,.sl false 93 t2]],[]=>((ao f1&&ao t1),([.one (.bool (da f1 f2&&da t1 t2))],[]))
 | _,_=>(false,([],[]))
def s81 :Go.Abs.Spec:=fun args blk=>match args,blk with
 | [.one (.sl false 5 x)],[]=>((aI x),([.agg [.sl true 93 (bn x).1,.sl true 93 (bn x).2.1],.one (.int .i64 (bn x).2.2.1),.one (.int .i64 (bn x).2.2.2)],[]))
 | _,_=>(false,([],[]))
def s89 :Go.Abs.Spec:=fun args blk=>match args,blk with
 | [.one (.sl false 5 x)],[]=>((aI x),([.agg [.sl false 93 (bn x).1,.sl false 93 (bn x).2.1],.one (.int .i64 (bn x).2.2.1),.one (.int .i64 (bn x).2.2.2)],[]))
 | _,_=>(false,([],[]))
def NV :Go.Abs.Spec:=fun args blk=>match args,blk with
 | [.one (.sl false 5 x),.agg [.sl false 93 f1,.sl false 93 t1]],[]=>((en x f1 t1),([.one (.sl true 5 (x++jj f1 t1))],[]))
 | [.one (.nils),.agg [.sl false 93 f1,.sl false 93 t1]],[]=>((en [] f1 t1),([.one (.sl true 5 (jj f1 t1))],[]))
 | _,_=>(false,([],[]))
def s45 :Go.Abs.Spec:=fun args blk=>match args,blk with
 | [.one (.sl false 93 p),.one (.int .i64 n)],[]=>((ek p),([.agg [.sl false 93 (bv (bv p n) (n%1099511627776 / 64)),.sl false 93 (bv p n)]],[]))
 | _,_=>(false,([],[]))
def s66 :Go.Abs.Spec:=fun args blk=>match args,blk with
 | [.one (.int .i64 n)],[]=>(true,([.one (.bool (d9 n))],[]))
 | _,_=>(false,([],[]))
def NK :Go.Abs.Spec:=fun args blk=>match args,blk with
 | [.one (.str s)],[]=>(true,([.one (.bool (s.isEmpty))],[]))
 | _,_=>(false,([],[]))
def N4 :Go.Abs.Spec:=fun args blk=>match args,blk with
 | [.agg [.int .i64 k1,.str o1,.str f1,.int .i64 n1,.str s1]],[]=>(true,([.one (.int .i64 (jV k1 o1 f1 n1 s1))],[]))
 | _,_=>(false,([],[]))
def Ns :Go.Abs.Spec:=fun args blk=>match args,blk with
 | [.agg [.int .i64 k1,.str o1,.str f1,.int .i64 n1,.str s1]],[]=>(true,([.one (.int .i64 (jV k1 o1 f1 n1 s1))],[]))
 | _,_=>(false,([],[]))
def Nv :Go.Abs.Spec:=fun args blk=>match args,blk with
 | [.agg [.int .i64 k1,.str o1,.str f1,.int .i64 n1,.str s1]],[]=>(true,([.one (.bool (k1==1))],[]))
 | _,_=>(false,([],[]))
def Np :Go.Abs.Spec:=fun args blk=>match args,blk with
 | [.one (.sl false 136 l),.one (.fn 153 [])],[]=>((decide (l.length<9223372036854775808)),([.one (.int .i64 (Kt l))],[]))
 | _,_=>(false,([],[]))
def Nn :Go.Abs.Spec:=fun args blk=>match args,blk with
 | [.one (.sl false 136 l),.one (.fn 153 [])],[]=>((decide (l.length<9223372036854775808)),([.one (.bool (!(fI l)))],[]))
 | _,_=>(false,([],[]))
def Nq :Go.Abs.Spec:=fun args blk=>match args,blk with
 | [.agg [.int .i64 cu,.int .i64 qu,.int .i64 tu,.sl false 136 eu]],[]=>((decide (eu.length<9223372036854775808)),([.one (.bool (fI eu))],[]))
 | _,_=>(false,([],[]))
def Oj :Go.Abs.Spec:=fun args blk=>match args,blk with
 | [.agg [.int .i64 cu,.int .i64 qu,.int .i64 tu,.sl false 136 eu]],[]=>((decide (eu.length<9223372036854775808)),([.one (.bool (fI eu))],[]))
 | _,_=>(false,([],[]))
def M7 :Go.Abs.Spec:=fun args blk=>match args,blk with
 | [.agg [.int .i64 cu,.int .i64 qu,.int .i64 tu,.sl false 136 eu]],[]=>(true,([.one (.int .i64 (eb cu qu tu eu))],[]))
 | _,_=>(false,([],[]))
def s73 :Go.Abs.Spec:=fun args blk=>match args,blk with
 | [.agg [.int .i64 cu,.int .i64 qu,.int .i64 tu,.sl false 136 eu]],[]=>(true,([.one (.int .i64 (eb cu qu tu eu))],[]))
 | _,_=>(false,([],[]))
def Oy :Go.Abs.Spec:=fun args blk=>match args,blk with
 | [.agg [.int .i64 cu,.int .i64 qu,.int .i64 tu,.sl false 136 eu],.agg [.int .i64 cv,.int .i64 qv,.int .i64 tv,.sl false 136 ev]],[]=>(true,([.one (.int .i64 (ir cu qu cv qv))],[]))
 | _,_=>(false,([],[]))
def s74 :Go.Abs.Spec:=fun args blk=>match args,blk with
 | [.agg [.int .i64 cu,.int .i64 qu,.int .i64 tu,.sl false 136 eu],.agg [.int .i64 cv,.int .i64 qv,.int .i64 tv,.sl false 136 ev]],[]=>(true,([.one (.int .i64 (ir cu qu cv qv))],[]))
 | _,_=>(false,([],[]))
def s92 :Go.Abs.Spec:=fun args blk=>match args,blk with
 | [.agg [.int .i64 cu,.int .i64 qu,.int .i64 tu,.sl false 136 eu],.agg [.int .i64 cv,.int .i64 qv,.int .i64 tv,.sl false 136 ev]],[]=>((decide (eu.length<9223372036854775808)),([.one (.bool (eqU cu qu tu eu cv qv tv ev))],[]))
 | _,_=>(false,([],[]))
def NT :Go.Abs.Spec:=fun args blk=>match args,blk with
 | [.one (.sl false 5 x),.one (.str s)],[]=>((jn x s),([.one (.sl true 5 (x++cz s))],[]))
 | _,_=>(false,([],[]))
def OZ :Go.Abs.Spec:=fun args blk=>match args,blk with
 | [.one (.sl false 5 x),.one (.int .i64 v)],[]=>((jG x&&okI v),([.one (.sl true 5 (x++bc (zig v)))],[]))
 | _,_=>(false,([],[]))
def On :Go.Abs.Spec:=fun args blk=>match args,blk with
 | [.one (.sl false 5 x),.agg [.int .i64 cu,.int .i64 qu,.int .i64 tu,.sl false 136 eu]],[]=>((kR x eu),([.one (.sl true 5 (x++gE cu qu tu eu))],[]))
 | [.one (.nils),.agg [.int .i64 cu,.int .i64 qu,.int .i64 tu,.sl false 136 eu]],[]=>((kR [] eu),([.one (.sl true 5 (gE cu qu tu eu))],[]))
 | _,_=>(false,([],[]))
def Nx :Go.Abs.Spec:=fun args blk=>match args,blk with
 | [.one (.sl false 5 x)],[]=>((aI x),([.one (.int .i64 (fg x).1),.one (.int .i64 (fg x).2.1),.one (.int .i64 (fg x).2.2)],[]))
 | _,_=>(false,([],[]))
def Nd :Go.Abs.Spec:=fun args blk=>match args,blk with
 | [.one (.sl false 5 x)],[]=>((aI x),([.one (.int .i64 (fg x).1),.one (.int .i64 (fg x).2.1),.one (.int .i64 (fg x).2.2)],[]))
 | _,_=>(false,([],[]))
def OL :Go.Abs.Spec:=fun args blk=>match args,blk with
 | [.one (.sl false 5 x)],[]=>((aI x),([.one (.str (cT x).1),.one (.int .i64 (cT x).2.1),.one (.int .i64 (cT x).2.2)],[]))
 | _,_=>(false,([],[]))
def OR :Go.Abs.Spec:=fun args blk=>match args,blk with
 | [.one (.sl false 5 x)],[]=>((aI x),([.one (.str (cT x).1),.one (.int .i64 (cT x).2.1),.one (.int .i64 (cT x).2.2)],[]))
 | _,_=>(false,([],[]))
def Nb :Go.Abs.Spec:=fun args blk=>match args,blk with
 | [.one (.ptr 0 0),.one (.int .i64 n),.one (.int .i64 z)],[.var [.sl false 5 b,.int .i64 o,.int .i64 e]]=>((j5 o n),([],[.var [.sl false 5 b,.int .i64 (o+n),.int .i64 z]]))
 | _,_=>(false,([],[]))
def NG :Go.Abs.Spec:=fun args blk=>match args,blk with
 | [.one (.ptr 0 0)],[.var [.sl false 5 b,.int .i64 o,.int .i64 e]]=>((aT b o),([.one (.int .i64 (af b o e).1)],[.var [.sl false 5 b,.int .i64 (af b o e).2.1,.int .i64 (af b o e).2.2]]))
 | _,_=>(false,([],[]))
def N1 :Go.Abs.Spec:=fun args blk=>match args,blk with
 | [.one (.ptr 0 0)],[.var [.sl false 5 b,.int .i64 o,.int .i64 e]]=>((aT b o),([.one (.str (aU b o e).1)],[.var [.sl false 5 b,.int .i64 (aU b o e).2.1,.int .i64 (aU b o e).2.2]]))
 | _,_=>(false,([],[]))
def NZ :Go.Abs.Spec:=fun args blk=>match args,blk with
 | [.one (.ptr 0 0)],[.var [.sl false 5 b,.int .i64 o,.int .i64 e]]=>((aT b o),([.one (.int .i64 (ip b o e).1)],[.var [.sl false 5 b,.int .i64 (ip b o e).2.1,.int .i64 (ip b o e).2.2]]))
 | _,_=>(false,([],[]))
def M8 :Go.Abs.Spec:=fun args blk=>match args,blk with
 | [.one (.ptr 0 0)],[.var [.sl false 5 b,.int .i64 o,.int .i64 e]]=>((aT b o),([.agg [.int .i64 (gD b o e).1.1,.str (gD b o e).1.2.1,.str (gD b o e).1.2.2.1,.int .i64 (gD b o e).1.2.2.2.1,.str (gD b o e).1.2.2.2.2]],[.var [.sl false 5 b,.int .i64 (gD b o e).2.1,.int .i64 (gD b o e).2.2]]))
 | _,_=>(false,([],[]))
def Om :Go.Abs.Spec:=fun args blk=>match args,blk with
 | [.one (.sl false 5 x)],[]=>((aI x),([.agg [.int .i64 (bY x).1,.int .i64 (bY x).2.1,.int .i64 (bY x).2.2.1,.sl true 136 (bY x).2.2.2.1],.one (.int .i64 (bY x).2.2.2.2.1),.one (.int .i64 (bY x).2.2.2.2.2)],[]))
 | _,_=>(false,([],[]))
def Oh :Go.Abs.Spec:=fun args blk=>match args,blk with
 | [.one (.sl false 5 x)],[]=>((aI x),([.agg [.int .i64 (cZ x).1.1,.str (cZ x).1.2.1,.str (cZ x).1.2.2.1,.int .i64 (cZ x).1.2.2.2.1,.str (cZ x).1.2.2.2.2],.one (.int .i64 (cZ x).2.1),.one (.int .i64 (cZ x).2.2)],[]))
 | _,_=>(false,([],[]))
def Nk :Go.Abs.Spec:=fun args blk=>match args,blk with
 | [.one (.sl false 5 x)],[]=>((aI x),([.agg [.int .i64 (bY x).1,.int .i64 (bY x).2.1,.int .i64 (bY x).2.2.1,.sl true 136 (bY x).2.2.2.1],.one (.int .i64 (bY x).2.2.2.2.1),.one (.int .i64 (bY x).2.2.2.2.2)],[]))
 | _,_=>(false,([],[]))
def O4 :Go.Abs.Spec:=fun args blk=>match args,blk with
 | [.one (.int .i64 n)],[]=>(true,([.one (.str (dD n))],[]))
 | _,_=>(false,([],[]))
def s97 :Go.Abs.Spec:=fun args blk=>match args,blk with
 | [.one (.int .i64 n),.one (.bool w)],[]=>(true,([.agg [.int .i64 (eW n w).1,.str (eW n w).2.1,.str (eW n w).2.2.1,.int .i64 (eW n w).2.2.2.1,.str (eW n w).2.2.2.2]],[]))
 | _,_=>(false,([],[]))
def s50 :Go.Abs.Spec:=fun args blk=>match args,blk with
 | [.one (.int .i64 c),.one (.int .i64 q),.one (.int .i64 n)],[]=>(true,([.agg [.int .i64 c,.int .i64 q,.int .i64 (Ah n),.sl true 136 (rp n)]],[]))
 | _,_=>(false,([],[]))
def s15 :Go.Abs.Spec:=fun args blk=>match args,blk with
 | [.one (.sl false 3 l)],[]=>((decide (l.length<9223372036854775808)),([.one (.sl true 96 (jp l))],[]))
 | _,_=>(false,([],[]))
def O0 :Go.Abs.Spec:=fun args blk=>match args,blk with
 | [.one (.sl false 96 c)],[]=>((cN c),([.one (.int .i64 (vSt c))],[]))
 | _,_=>(false,([],[]))
def s71 :Go.Abs.Spec:=fun args blk=>match args,blk with
 | [.one (.sl false 96 c)],[]=>((cN c),([.one (.int .i64 (vSt c))],[]))
 | _,_=>(false,([],[]))
def s39 :Go.Abs.Spec:=fun args blk=>match args,blk with
 | [.one (.sl false 96 c),.one (.sl false 96 d)],[]=>((eG c),([.one (.bool (za c d))],[]))
 | _,_=>(false,([],[]))
def s87 :Go.Abs.Spec:=fun args blk=>match args,blk with
 | [.one (.sl false 5 x)],[]=>((aI x),([.one (.sl true 96 (ce x).1),.one (.int .i64 (ce x).2.1),.one (.int .i64 (ce x).2.2)],[]))
 | _,_=>(false,([],[]))
def s46 :Go.Abs.Spec:=fun args blk=>match args,blk with
 | [.one (.sl false 96 c)],[]=>((cN c),([.one (.sl false 103 (gf c))],[]))
 | _,_=>(false,([],[]))
def s47 :Go.Abs.Spec:=fun args blk=>match args,blk with
 | [.one (.sl false 96 c),.one (.sl false 103 v),.one (.int .i64 k)],[]=>((fz c&&cN v),([.one (.sl false 96 (iR c v k).1),.one (.bool (iR c v k).2)],[]))
 | _,_=>(false,([],[]))
def s44 :Go.Abs.Spec:=fun args blk=>match args,blk with
 | [.one (.sl false 96 c),.one (.int .i64 k)],[]=>((fz c),([.one (.sl false 96 (bP c k))],[]))
 | _,_=>(false,([],[]))
def s18 :Go.Abs.Spec:=fun args blk=>match args,blk with
 | [.one (.int .i64 k)],[]=>(true,([.one (.sl false 54 (be k)),.one (.bool ((ca k).isSome))],[]))
 | _,_=>(false,([],[]))
def s58 :Go.Abs.Spec:=fun args blk=>match args,blk with
 | [.one (.int .i64 n)],[]=>(true,([.one (.bool (cO n))],[]))
 | _,_=>(false,([],[]))
def s19 :Go.Abs.Spec:=fun args blk=>match args,blk with
 | [.one (.int .i64 n)],[]=>(true,([.one (.bool (cI n))],[]))
 | _,_=>(false,([],[]))
def s23 :Go.Abs.Spec:=fun args blk=>match args,blk with
 | [.one (.int .i64 n)],[]=>(true,([.one (.bool (cI n))],[]))
 | _,_=>(false,([],[]))
def s60 :Go.Abs.Spec:=fun args blk=>match args,blk with
 | [.agg [.sl false 93 f1,.sl false 93 t1]],[]=>(true,([.one (.bool (noT f1 t1))],[]))
 | _,_=>(false,([],[]))
def s69 :Go.Abs.Spec:=fun args blk=>match args,blk with
 | [.agg [.sl false 93 f1,.sl false 93 t1]],[]=>(true,([.one (.bool (noT f1 t1))],[]))
 | _,_=>(false,([],[]))
def s59 :Go.Abs.Spec:=fun args blk=>match args,blk with
 | [.one (.sl false 54 l),.one (.int .i64 f)],[]=>((decide (l.length<9223372036854775808)),([.one (.int .i64 (Kf l f))],[]))
 | _,_=>(false,([],[]))
def s20 :Go.Abs.Spec:=fun args blk=>match args,blk with
 | [.one (.sl false 54 l),.one (.int .i64 f)],[]=>((decide (l.length<9223372036854775808)),([.one (.bool (inF l f))],[]))
 | _,_=>(false,([],[]))
def s21 :Go.Abs.Spec:=fun args blk=>match args,blk with
 | [.agg [.int .i64 k1,.int .i64 f1,.int .i64 t1,.int .i64 p1,.int .i64 n1,.int .i64 r1,.int .i64 o1,.sl false 93 cf1,.sl false 93 ct1,.sl false 93 bf1,.sl false 93 bt1,.bool h1,.sl false 93 ef1,.sl false 93 et1,.sl false 93 g1,.sl false 96 u1,.sl false 103 v1,.bool m1],.one (.int .i64 f)],[]=>(true,([.one (.bool (cn (Msg.mk k1 f1 t1 p1 n1 r1 o1 cf1 ct1 bf1 bt1 h1 ef1 et1 g1 u1 v1 m1) f))],[]))
 | _,_=>(false,([],[]))
def M9 :Go.Abs.Spec:=fun args blk=>match args,blk with
 | [.one (.sl false 96 c)],[]=>((decide (c.length<9223372036854775808)),([.one (.int .i64 (vCh c))],[]))
 | _,_=>(false,([],[]))
def s28 :Go.Abs.Spec:=fun args blk=>match args,blk with
 | [.one (.sl false 96 c)],[]=>((decide (c.length<9223372036854775808)),([.one (.int .i64 (vCh c))],[]))
 | _,_=>(false,([],[]))
def s62 :Go.Abs.Spec:=fun args blk=>match args,blk with
 | [.agg [.int .i64 k1,.int .i64 f1,.int .i64 t1,.int .i64 p1,.int .i64 n1,.int .i64 r1,.int .i64 o1,.sl false 93 cf1,.sl false 93 ct1,.sl false 93 bf1,.sl false 93 bt1,.bool h1,.sl false 93 ef1,.sl false 93 et1,.sl false 93 g1,.sl false 96 u1,.sl false 103 v1,.bool m1]],[]=>((cN u1),([.one (.int .i64 (nO (Msg.mk k1 f1 t1 p1 n1 r1 o1 cf1 ct1 bf1 bt1 h1 ef1 et1 g1 u1 v1 m1)))],[]))
 | _,_=>(false,([],[]))
def s64 :Go.Abs.Spec:=fun args blk=>match args,blk with
 | [.one (.sl false 103 v)],[]=>((cN v),([.one (.int .i64 (qx v))],[]))
 | _,_=>(false,([],[]))
def s22 :Go.Abs.Spec:=fun args blk=>match args,blk with
 | [.agg [.int .i64 k1,.int .i64 f1,.int .i64 t1,.int .i64 p1,.int .i64 n1,.int .i64 r1,.int .i64 o1,.sl false 93 cf1,.sl false 93 ct1,.sl false 93 bf1,.sl false 93 bt1,.bool h1,.sl false 93 ef1,.sl false 93 et1,.sl false 93 g1,.sl false 96 u1,.sl false 103 v1,.bool m1],.one (.int .i64 f)],[]=>((okM cf1 ct1 bf1 bt1 ef1 et1 g1 u1 v1),([.one (.int .i64 (aB (Msg.mk k1 f1 t1 p1 n1 r1 o1 cf1 ct1 bf1 bt1 h1 ef1 et1 g1 u1 v1 m1) f))],[]))
 | _,_=>(false,([],[]))
def s8 :Go.Abs.Spec:=fun args blk=>match args,blk with
 | [.agg [.int .i64 k1,.int .i64 f1,.int .i64 t1,.int .i64 p1,.int .i64 n1,.int .i64 r1,.int .i64 o1,.sl false 93 cf1,.sl false 93 ct1,.sl false 93 bf1,.sl false 93 bt1,.bool h1,.sl false 93 ef1,.sl false 93 et1,.sl false 93 g1,.sl false 96 u1,.sl false 103 v1,.bool m1]],[]=>((okM cf1 ct1 bf1 bt1 ef1 et1 g1 u1 v1),([.one (.int .i64 (gM (Msg.mk k1 f1 t1 p1 n1 r1 o1 cf1 ct1 bf1 bt1 h1 ef1 et1 g1 u1 v1 m1)))],[]))
 | _,_=>(false,([],[]))
def s68 :Go.Abs.Spec:=fun args blk=>match args,blk with
 | [.one (.int .i64 k)],[]=>(true,([.agg [.bool (uA k),.bool (uA k),.bool (k==1),.bool (uA k),.bool (uS k),.bool (uB k),.bool (!(uA k)),.bool (k==4),.bool (k==5)]],[]))
 | _,_=>(false,([],[]))
def s24 :Go.Abs.Spec:=fun args blk=>match args,blk with
 | [.agg [.int .i64 k1,.int .i64 f1,.int .i64 t1,.int .i64 p1,.int .i64 n1,.int .i64 r1,.int .i64 o1,.sl false 93 cf1,.sl false 93 ct1,.sl false 93 bf1,.sl false 93 bt1,.bool h1,.sl false 93 ef1,.sl false 93 et1,.sl false 93 g1,.sl false 96 u1,.sl false 103 v1,.bool m1]],[]=>(true,([.one (.bool (cS (Msg.mk k1 f1 t1 p1 n1 r1 o1 cf1 ct1 bf1 bt1 h1 ef1 et1 g1 u1 v1 m1)))],[]))
 | _,_=>(false,([],[]))
def s29 :Go.Abs.Spec:=fun args blk=>match args,blk with
 | [.agg [.int .i64 k1,.int .i64 f1,.int .i64 t1,.int .i64 p1,.int .i64 n1,.int .i64 r1,.int .i64 o1,.sl false 93 cf1,.sl false 93 ct1,.sl false 93 bf1,.sl false 93 bt1,.bool h1,.sl false 93 ef1,.sl false 93 et1,.sl false 93 g1,.sl false 96 u1,.sl false 103 v1,.bool m1]],[]=>((okM cf1 ct1 bf1 bt1 ef1 et1 g1 u1 v1),([.one (.int .i64 (eD (Msg.mk k1 f1 t1 p1 n1 r1 o1 cf1 ct1 bf1 bt1 h1 ef1 et1 g1 u1 v1 m1)))],[]))
 | _,_=>(false,([],[]))
def s25 :Go.Abs.Spec:=fun args blk=>match args,blk with
 | [.agg [.int .i64 k1,.int .i64 f1,.int .i64 t1,.int .i64 p1,.int .i64 n1,.int .i64 r1,.int .i64 o1,.sl false 93 cf1,.sl false 93 ct1,.sl false 93 bf1,.sl false 93 bt1,.bool h1,.sl false 93 ef1,.sl false 93 et1,.sl false 93 g1,.sl false 96 u1,.sl false 103 v1,.bool m1]],[]=>((okM cf1 ct1 bf1 bt1 ef1 et1 g1 u1 v1),([.one (.int .i64 (nc (Msg.mk k1 f1 t1 p1 n1 r1 o1 cf1 ct1 bf1 bt1 h1 ef1 et1 g1 u1 v1 m1)))],[]))
 | _,_=>(false,([],[]))
def s9 :Go.Abs.Spec:=fun args blk=>match args,blk with
 | [.agg [.int .i64 k1,.int .i64 f1,.int .i64 t1,.int .i64 p1,.int .i64 n1,.int .i64 r1,.int .i64 o1,.sl false 93 cf1,.sl false 93 ct1,.sl false 93 bf1,.sl false 93 bt1,.bool h1,.sl false 93 ef1,.sl false 93 et1,.sl false 93 g1,.sl false 96 u1,.sl false 103 v1,.bool m1]],[]=>((okM cf1 ct1 bf1 bt1 ef1 et1 g1 u1 v1),([.one (.int .i64 (gM (Msg.mk k1 f1 t1 p1 n1 r1 o1 cf1 ct1 bf1 bt1 h1 ef1 et1 g1 u1 v1 m1)))],[]))
 | _,_=>(false,([],[]))
def s84 :Go.Abs.Spec:=fun args blk=>match args,blk with
 | [.one (.sl false 5 x)],[]=>((aI x),([.one (.bool (aQ x).1),.one (.int .i64 (aQ x).2.1),.one (.int .i64 (aQ x).2.2)],[]))
 | _,_=>(false,([],[]))
def s90 :Go.Abs.Spec:=fun args blk=>match args,blk with
 | [.one (.sl false 5 x)],[]=>((aI x),([.one (.bool (aQ x).1),.one (.int .i64 (aQ x).2.1),.one (.int .i64 (aQ x).2.2)],[]))
 | _,_=>(false,([],[]))
def s75 :Go.Abs.Spec:=fun args blk=>match args,blk with
 | [.one (.ptr 0 0),.one (.fn 76 [])],[.var [.sl false 5 b,.int .i64 o,.int .i64 e]]=>((aT b o),([.one (.int .u64 (bx 0 aD b o e).1)],[.var [.sl false 5 b,.int .i64 (bx 0 aD b o e).2.1,.int .i64 (bx 0 aD b o e).2.2]]))
 | _,_=>(false,([],[]))
def s31 :Go.Abs.Spec:=fun args blk=>match args,blk with
 | [.one (.ptr 0 0),.one (.bool w),.one (.int .i64 k)],[.var [.sl false 5 b,.int .i64 o,.int .i64 e]]=>(true,([],[.var [.sl false 5 b,.int .i64 o,.int .i64 (bN w k e)]]))
 | _,_=>(false,([],[]))
def s30 :Go.Abs.Spec:=fun args blk=>match args,blk with
 | [.one (.ptr 0 0)],[.var [.sl false 5 b,.int .i64 o,.int .i64 e]]=>((aT b o),([.one (.int .i64 (ae b o e).1)],[.var [.sl false 5 b,.int .i64 (ae b o e).2.1,.int .i64 (ae b o e).2.2]]))
 | _,_=>(false,([],[]))
def s77 :Go.Abs.Spec:=fun args blk=>match args,blk with
 | [.one (.ptr 0 0),.one (.fn 78 [])],[.var [.sl false 5 b,.int .i64 o,.int .i64 e]]=>((aT b o),([.one (.sl false 93 (qo b o e).1)],[.var [.sl false 5 b,.int .i64 (qo b o e).2.1,.int .i64 (qo b o e).2.2]]))
 | _,_=>(false,([],[]))
def s80 :Go.Abs.Spec:=fun args blk=>match args,blk with
 | [.one (.ptr 0 0),.one (.fn 81 [])],[.var [.sl false 5 b,.int .i64 o,.int .i64 e]]=>((aT b o),([.agg [.sl false 93 (dk b o e).1.1,.sl false 93 (dk b o e).1.2]],[.var [.sl false 5 b,.int .i64 (dk b o e).2.1,.int .i64 (dk b o e).2.2]]))
 | _,_=>(false,([],[]))
def OK :Go.Abs.Spec:=fun args blk=>match args,blk with
 | [.one (.ptr 0 0),.one (.fn 118 [])],[.var [.sl false 5 b,.int .i64 o,.int .i64 e]]=>((aT b o),([.agg [.int .i64 (dR b o e).1.1,.int .i64 (dR b o e).1.2.1,.int .i64 (dR b o e).1.2.2.1,.sl false 136 (dR b o e).1.2.2.2]],[.var [.sl false 5 b,.int .i64 (dR b o e).2.1,.int .i64 (dR b o e).2.2]]))
 | _,_=>(false,([],[]))
def s83 :Go.Abs.Spec:=fun args blk=>match args,blk with
 | [.one (.ptr 0 0),.one (.fn 84 [])],[.var [.sl false 5 b,.int .i64 o,.int .i64 e]]=>((aT b o),([.one (.bool (iI b o e).1)],[.var [.sl false 5 b,.int .i64 (iI b o e).2.1,.int .i64 (iI b o e).2.2]]))
 | _,_=>(false,([],[]))
def s79 :Go.Abs.Spec:=fun args blk=>match args,blk with
 | [.one (.ptr 0 0)],[.var [.sl false 5 b,.int .i64 o,.int .i64 e]]=>((aT b o),([.one (.sl false 96 (rst b o e).1)],[.var [.sl false 5 b,.int .i64 (rst b o e).2.1,.int .i64 (rst b o e).2.2]]))
 | _,_=>(false,([],[]))
def s82 :Go.Abs.Spec:=fun args blk=>match args,blk with
 | [.one (.ptr 0 0)],[.var [.sl false 5 b,.int .i64 o,.int .i64 e]]=>((aT b o),([.one (.sl false 103 (rvc b o e).1)],[.var [.sl false 5 b,.int .i64 (rvc b o e).2.1,.int .i64 (rvc b o e).2.2]]))
 | _,_=>(false,([],[]))
def s32 :Go.Abs.Spec:=fun args blk=>match args,blk with
 | [.one (.ptr 0 0),.one (.ptr 1 0),.one (.int .i64 f)],[.var [.sl false 5 b,.int .i64 o,.int .i64 e],.var [.int .i64 k1,.int .i64 f1,.int .i64 t1,.int .i64 p1,.int .i64 n1,.int .i64 r1,.int .i64 o1,.sl false 93 cf1,.sl false 93 ct1,.sl false 93 bf1,.sl false 93 bt1,.bool h1,.sl false 93 ef1,.sl false 93 et1,.sl false 93 g1,.sl false 96 u1,.sl false 103 v1,.bool m1]]=>((aT b o),([],[.var [.sl false 5 b,.int .i64 (rdF b o e (Msg.mk k1 f1 t1 p1 n1 r1 o1 cf1 ct1 bf1 bt1 h1 ef1 et1 g1 u1 v1 m1) f).2.1,.int .i64 (rdF b o e (Msg.mk k1 f1 t1 p1 n1 r1 o1 cf1 ct1 bf1 bt1 h1 ef1 et1 g1 u1 v1 m1) f).2.2],.var [.int .i64 (rdF b o e (Msg.mk k1 f1 t1 p1 n1 r1 o1 cf1 ct1 bf1 bt1 h1 ef1 et1 g1 u1 v1 m1) f).1.k,.int .i64 (rdF b o e (Msg.mk k1 f1 t1 p1 n1 r1 o1 cf1 ct1 bf1 bt1 h1 ef1 et1 g1 u1 v1 m1) f).1.f,.int .i64 (rdF b o e (Msg.mk k1 f1 t1 p1 n1 r1 o1 cf1 ct1 bf1 bt1 h1 ef1 et1 g1 u1 v1 m1) f).1.t,.int .i64 (rdF b o e (Msg.mk k1 f1 t1 p1 n1 r1 o1 cf1 ct1 bf1 bt1 h1 ef1 et1 g1 u1 v1 m1) f).1.p,.int .i64 (rdF b o e (Msg.mk k1 f1 t1 p1 n1 r1 o1 cf1 ct1 bf1 bt1 h1 ef1 et1 g1 u1 v1 m1) f).1.n,.int .i64 (rdF b o e (Msg.mk k1 f1 t1 p1 n1 r1 o1 cf1 ct1 bf1 bt1 h1 ef1 et1 g1 u1 v1 m1) f).1.r,.int .i64 (rdF b o e (Msg.mk k1 f1 t1 p1 n1 r1 o1 cf1 ct1 bf1 bt1 h1 ef1 et1 g1 u1 v1 m1) f).1.o,.sl false 93 (rdF b o e (Msg.mk k1 f1 t1 p1 n1 r1 o1 cf1 ct1 bf1 bt1 h1 ef1 et1 g1 u1 v1 m1) f).1.cf,.sl false 93 (rdF b o e (Msg.mk k1 f1 t1 p1 n1 r1 o1 cf1 ct1 bf1 bt1 h1 ef1 et1 g1 u1 v1 m1) f).1.ct,.sl false 93 (rdF b o e (Msg.mk k1 f1 t1 p1 n1 r1 o1 cf1 ct1 bf1 bt1 h1 ef1 et1 g1 u1 v1 m1) f).1.bf,.sl false 93 (rdF b o e (Msg.mk k1 f1 t1 p1 n1 r1 o1 cf1 ct1 bf1 bt1 h1 ef1 et1 g1 u1 v1 m1) f).1.bt,.bool (rdF b o e (Msg.mk k1 f1 t1 p1 n1 r1 o1 cf1 ct1 bf1 bt1 h1 ef1 et1 g1 u1 v1 m1) f).1.h,.sl false 93 (rdF b o e (Msg.mk k1 f1 t1 p1 n1 r1 o1 cf1 ct1 bf1 bt1 h1 ef1 et1 g1 u1 v1 m1) f).1.ef,.sl false 93 (rdF b o e (Msg.mk k1 f1 t1 p1 n1 r1 o1 cf1 ct1 bf1 bt1 h1 ef1 et1 g1 u1 v1 m1) f).1.et,.sl false 93 (rdF b o e (Msg.mk k1 f1 t1 p1 n1 r1 o1 cf1 ct1 bf1 bt1 h1 ef1 et1 g1 u1 v1 m1) f).1.g,.sl false 96 (rdF b o e (Msg.mk k1 f1 t1 p1 n1 r1 o1 cf1 ct1 bf1 bt1 h1 ef1 et1 g1 u1 v1 m1) f).1.u,.sl false 103 (rdF b o e (Msg.mk k1 f1 t1 p1 n1 r1 o1 cf1 ct1 bf1 bt1 h1 ef1 et1 g1 u1 v1 m1) f).1.v,.bool (rdF b o e (Msg.mk k1 f1 t1 p1 n1 r1 o1 cf1 ct1 bf1 bt1 h1 ef1 et1 g1 u1 v1 m1) f).1.m]]))
 | _,_=>(false,([],[]))
def s10 :Go.Abs.Spec:=fun args blk=>match args,blk with
 | [.one (.sl false 5 x)],[]=>((aI x),([.agg [.int .i64 (aL x).1.k,.int .i64 (aL x).1.f,.int .i64 (aL x).1.t,.int .i64 (aL x).1.p,.int .i64 (aL x).1.n,.int .i64 (aL x).1.r,.int .i64 (aL x).1.o,.sl false 93 (aL x).1.cf,.sl false 93 (aL x).1.ct,.sl false 93 (aL x).1.bf,.sl false 93 (aL x).1.bt,.bool (aL x).1.h,.sl false 93 (aL x).1.ef,.sl false 93 (aL x).1.et,.sl false 93 (aL x).1.g,.sl false 96 (aL x).1.u,.sl false 103 (aL x).1.v,.bool (aL x).1.m],.one (.int .i64 (aL x).2.1),.one (.int .i64 (aL x).2.2)],[]))
 | _,_=>(false,([],[]))
def s88 :Go.Abs.Spec:=fun args blk=>match args,blk with
 | [.agg [.int .i64 k1,.int .i64 f1,.int .i64 t1,.int .i64 p1,.int .i64 n1,.int .i64 r1,.int .i64 o1,.sl false 93 cf1,.sl false 93 ct1,.sl false 93 bf1,.sl false 93 bt1,.bool h1,.sl false 93 ef1,.sl false 93 et1,.sl false 93 g1,.sl false 96 u1,.sl false 103 v1,.bool m1],.one (.sl false 5 x)],[]=>((aI x),([.agg [.int .i64 (rbW (Msg.mk k1 f1 t1 p1 n1 r1 o1 cf1 ct1 bf1 bt1 h1 ef1 et1 g1 u1 v1 m1) x).1.k,.int .i64 (rbW (Msg.mk k1 f1 t1 p1 n1 r1 o1 cf1 ct1 bf1 bt1 h1 ef1 et1 g1 u1 v1 m1) x).1.f,.int .i64 (rbW (Msg.mk k1 f1 t1 p1 n1 r1 o1 cf1 ct1 bf1 bt1 h1 ef1 et1 g1 u1 v1 m1) x).1.t,.int .i64 (rbW (Msg.mk k1 f1 t1 p1 n1 r1 o1 cf1 ct1 bf1 bt1 h1 ef1 et1 g1 u1 v1 m1) x).1.p,.int .i64 (rbW (Msg.mk k1 f1 t1 p1 n1 r1 o1 cf1 ct1 bf1 bt1 h1 ef1 et1 g1 u1 v1 m1) x).1.n,.int .i64 (rbW (Msg.mk k1 f1 t1 p1 n1 r1 o1 cf1 ct1 bf1 bt1 h1 ef1 et1 g1 u1 v1 m1) x).1.r,.int .i64 (rbW (Msg.mk k1 f1 t1 p1 n1 r1 o1 cf1 ct1 bf1 bt1 h1 ef1 et1 g1 u1 v1 m1) x).1.o,.sl false 93 (rbW (Msg.mk k1 f1 t1 p1 n1 r1 o1 cf1 ct1 bf1 bt1 h1 ef1 et1 g1 u1 v1 m1) x).1.cf,.sl false 93 (rbW (Msg.mk k1 f1 t1 p1 n1 r1 o1 cf1 ct1 bf1 bt1 h1 ef1 et1 g1 u1 v1 m1) x).1.ct,.sl false 93 (rbW (Msg.mk k1 f1 t1 p1 n1 r1 o1 cf1 ct1 bf1 bt1 h1 ef1 et1 g1 u1 v1 m1) x).1.bf,.sl false 93 (rbW (Msg.mk k1 f1 t1 p1 n1 r1 o1 cf1 ct1 bf1 bt1 h1 ef1 et1 g1 u1 v1 m1) x).1.bt,.bool (rbW (Msg.mk k1 f1 t1 p1 n1 r1 o1 cf1 ct1 bf1 bt1 h1 ef1 et1 g1 u1 v1 m1) x).1.h,.sl false 93 (rbW (Msg.mk k1 f1 t1 p1 n1 r1 o1 cf1 ct1 bf1 bt1 h1 ef1 et1 g1 u1 v1 m1) x).1.ef,.sl false 93 (rbW (Msg.mk k1 f1 t1 p1 n1 r1 o1 cf1 ct1 bf1 bt1 h1 ef1 et1 g1 u1 v1 m1) x).1.et,.sl false 93 (rbW (Msg.mk k1 f1 t1 p1 n1 r1 o1 cf1 ct1 bf1 bt1 h1 ef1 et1 g1 u1 v1 m1) x).1.g,.sl false 96 (rbW (Msg.mk k1 f1 t1 p1 n1 r1 o1 cf1 ct1 bf1 bt1 h1 ef1 et1 g1 u1 v1 m1) x).1.u,.sl false 103 (rbW (Msg.mk k1 f1 t1 p1 n1 r1 o1 cf1 ct1 bf1 bt1 h1 ef1 et1 g1 u1 v1 m1) x).1.v,.bool (rbW (Msg.mk k1 f1 t1 p1 n1 r1 o1 cf1 ct1 bf1 bt1 h1 ef1 et1 g1 u1 v1 m1) x).1.m],.one (.int .i64 (rbW (Msg.mk k1 f1 t1 p1 n1 r1 o1 cf1 ct1 bf1 bt1 h1 ef1 et1 g1 u1 v1 m1) x).2.1),.one (.int .i64 (rbW (Msg.mk k1 f1 t1 p1 n1 r1 o1 cf1 ct1 bf1 bt1 h1 ef1 et1 g1 u1 v1 m1) x).2.2)],[]))
 | _,_=>(false,([],[]))
def s35 :Go.Abs.Spec:=fun args blk=>match args,blk with
 | [.agg [.int .i64 k1,.int .i64 f1,.int .i64 t1,.int .i64 p1,.int .i64 n1,.int .i64 r1,.int .i64 o1,.nils,.nils,.nils,.nils,.bool h1,.nils,.nils,.nils,.nils,.nils,.bool m1],.one (.sl false 5 x)],[]=>((aI x),([.agg [.int .i64 (rxW (Msg.mk k1 f1 t1 p1 n1 r1 o1 [] [] [] [] h1 [] [] [] [] [] m1) x).1.k,.int .i64 (rxW (Msg.mk k1 f1 t1 p1 n1 r1 o1 [] [] [] [] h1 [] [] [] [] [] m1) x).1.f,.int .i64 (rxW (Msg.mk k1 f1 t1 p1 n1 r1 o1 [] [] [] [] h1 [] [] [] [] [] m1) x).1.t,.int .i64 (rxW (Msg.mk k1 f1 t1 p1 n1 r1 o1 [] [] [] [] h1 [] [] [] [] [] m1) x).1.p,.int .i64 (rxW (Msg.mk k1 f1 t1 p1 n1 r1 o1 [] [] [] [] h1 [] [] [] [] [] m1) x).1.n,.int .i64 (rxW (Msg.mk k1 f1 t1 p1 n1 r1 o1 [] [] [] [] h1 [] [] [] [] [] m1) x).1.r,.int .i64 (rxW (Msg.mk k1 f1 t1 p1 n1 r1 o1 [] [] [] [] h1 [] [] [] [] [] m1) x).1.o,.sl false 93 (rxW (Msg.mk k1 f1 t1 p1 n1 r1 o1 [] [] [] [] h1 [] [] [] [] [] m1) x).1.cf,.sl false 93 (rxW (Msg.mk k1 f1 t1 p1 n1 r1 o1 [] [] [] [] h1 [] [] [] [] [] m1) x).1.ct,.sl false 93 (rxW (Msg.mk k1 f1 t1 p1 n1 r1 o1 [] [] [] [] h1 [] [] [] [] [] m1) x).1.bf,.sl false 93 (rxW (Msg.mk k1 f1 t1 p1 n1 r1 o1 [] [] [] [] h1 [] [] [] [] [] m1) x).1.bt,.bool (rxW (Msg.mk k1 f1 t1 p1 n1 r1 o1 [] [] [] [] h1 [] [] [] [] [] m1) x).1.h,.sl false 93 (rxW (Msg.mk k1 f1 t1 p1 n1 r1 o1 [] [] [] [] h1 [] [] [] [] [] m1) x).1.ef,.sl false 93 (rxW (Msg.mk k1 f1 t1 p1 n1 r1 o1 [] [] [] [] h1 [] [] [] [] [] m1) x).1.et,.sl false 93 (rxW (Msg.mk k1 f1 t1 p1 n1 r1 o1 [] [] [] [] h1 [] [] [] [] [] m1) x).1.g,.sl false 96 (rxW (Msg.mk k1 f1 t1 p1 n1 r1 o1 [] [] [] [] h1 [] [] [] [] [] m1) x).1.u,.sl false 103 (rxW (Msg.mk k1 f1 t1 p1 n1 r1 o1 [] [] [] [] h1 [] [] [] [] [] m1) x).1.v,.bool (rxW (Msg.mk k1 f1 t1 p1 n1 r1 o1 [] [] [] [] h1 [] [] [] [] [] m1) x).1.m],.one (.int .i64 (rxW (Msg.mk k1 f1 t1 p1 n1 r1 o1 [] [] [] [] h1 [] [] [] [] [] m1) x).2.1),.one (.int .i64 (rxW (Msg.mk k1 f1 t1 p1 n1 r1 o1 [] [] [] [] h1 [] [] [] [] [] m1) x).2.2)],[]))
 | _,_=>(false,([],[]))
def s36 :Go.Abs.Spec:=fun args blk=>match args,blk with
 | [.agg [.int .i64 k1,.int .i64 f1,.int .i64 t1,.int .i64 p1,.int .i64 n1,.int .i64 r1,.int .i64 o1,.nils,.nils,.nils,.nils,.bool h1,.nils,.nils,.nils,.nils,.nils,.bool m1],.one (.sl false 5 x)],[]=>((aI x),([.agg [.int .i64 (rrW (Msg.mk k1 f1 t1 p1 n1 r1 o1 [] [] [] [] h1 [] [] [] [] [] m1) x).1.k,.int .i64 (rrW (Msg.mk k1 f1 t1 p1 n1 r1 o1 [] [] [] [] h1 [] [] [] [] [] m1) x).1.f,.int .i64 (rrW (Msg.mk k1 f1 t1 p1 n1 r1 o1 [] [] [] [] h1 [] [] [] [] [] m1) x).1.t,.int .i64 (rrW (Msg.mk k1 f1 t1 p1 n1 r1 o1 [] [] [] [] h1 [] [] [] [] [] m1) x).1.p,.int .i64 (rrW (Msg.mk k1 f1 t1 p1 n1 r1 o1 [] [] [] [] h1 [] [] [] [] [] m1) x).1.n,.int .i64 (rrW (Msg.mk k1 f1 t1 p1 n1 r1 o1 [] [] [] [] h1 [] [] [] [] [] m1) x).1.r,.int .i64 (rrW (Msg.mk k1 f1 t1 p1 n1 r1 o1 [] [] [] [] h1 [] [] [] [] [] m1) x).1.o,.sl false 93 (rrW (Msg.mk k1 f1 t1 p1 n1 r1 o1 [] [] [] [] h1 [] [] [] [] [] m1) x).1.cf,.sl false 93 (rrW (Msg.mk k1 f1 t1 p1 n1 r1 o1 [] [] [] [] h1 [] [] [] [] [] m1) x).1.ct,.sl false 93 (rrW (Msg.mk k1 f1 t1 p1 n1 r1 o1 [] [] [] [] h1 [] [] [] [] [] m1) x).1.bf,.sl false 93 (rrW (Msg.mk k1 f1 t1 p1 n1 r1 o1 [] [] [] [] h1 [] [] [] [] [] m1) x).1.bt,.bool (rrW (Msg.mk k1 f1 t1 p1 n1 r1 o1 [] [] [] [] h1 [] [] [] [] [] m1) x).1.h,.sl false 93 (rrW (Msg.mk k1 f1 t1 p1 n1 r1 o1 [] [] [] [] h1 [] [] [] [] [] m1) x).1.ef,.sl false 93 (rrW (Msg.mk k1 f1 t1 p1 n1 r1 o1 [] [] [] [] h1 [] [] [] [] [] m1) x).1.et,.sl false 93 (rrW (Msg.mk k1 f1 t1 p1 n1 r1 o1 [] [] [] [] h1 [] [] [] [] [] m1) x).1.g,.sl false 96 (rrW (Msg.mk k1 f1 t1 p1 n1 r1 o1 [] [] [] [] h1 [] [] [] [] [] m1) x).1.u,.sl false 103 (rrW (Msg.mk k1 f1 t1 p1 n1 r1 o1 [] [] [] [] h1 [] [] [] [] [] m1) x).1.v,.bool (rrW (Msg.mk k1 f1 t1 p1 n1 r1 o1 [] [] [] [] h1 [] [] [] [] [] m1) x).1.m],.one (.int .i64 (rrW (Msg.mk k1 f1 t1 p1 n1 r1 o1 [] [] [] [] h1 [] [] [] [] [] m1) x).2.1),.one (.int .i64 (rrW (Msg.mk k1 f1 t1 p1 n1 r1 o1 [] [] [] [] h1 [] [] [] [] [] m1) x).2.2)],[]))
 | _,_=>(false,([],[]))
def s11 :Go.Abs.Spec:=fun args blk=>match args,blk with
 | [.one (.sl false 5 x)],[]=>((aI x),([.agg [.int .i64 (aL x).1.k,.int .i64 (aL x).1.f,.int .i64 (aL x).1.t,.int .i64 (aL x).1.p,.int .i64 (aL x).1.n,.int .i64 (aL x).1.r,.int .i64 (aL x).1.o,.sl false 93 (aL x).1.cf,.sl false 93 (aL x).1.ct,.sl false 93 (aL x).1.bf,.sl false 93 (aL x).1.bt,.bool (aL x).1.h,.sl false 93 (aL x).1.ef,.sl false 93 (aL x).1.et,.sl false 93 (aL x).1.g,.sl false 96 (aL x).1.u,.sl false 103 (aL x).1.v,.bool (aL x).1.m],.one (.int .i64 (aL x).2.1),.one (.int .i64 (aL x).2.2)],[]))
 | _,_=>(false,([],[]))
def s12 :Go.Abs.Spec:=fun args blk=>match args,blk with
 | [.agg [.int .i64 k1,.int .i64 f1,.int .i64 t1,.int .i64 p1,.int .i64 n1,.int .i64 r1,.int .i64 o1,.sl false 93 cf1,.sl false 93 ct1,.sl false 93 bf1,.sl false 93 bt1,.bool h1,.sl false 93 ef1,.sl false 93 et1,.sl false 93 g1,.sl false 96 u1,.sl false 103 v1,.bool m1],.agg [.int .i64 k2,.int .i64 f2,.int .i64 t2,.int .i64 p2,.int .i64 n2,.int .i64 r2,.int .i64 o2,.sl false 93 cf2,.sl false 93 ct2,.sl false 93 bf2,.sl false 93 bt2,.bool h2,.sl false 93 ef2,.sl false 93 et2,.sl false 93 g2,.sl false 96 u2,.sl false 103 v2,.bool m2]],[]=>((okM cf1 ct1 bf1 bt1 ef1 et1 g1 u1 v1),([.one (.bool (eqM k1 f1 t1 p1 n1 r1 o1 cf1 ct1 bf1 bt1 h1 ef1 et1 g1 u1 v1 m1 k2 f2 t2 p2 n2 r2 o2 cf2 ct2 bf2 bt2 h2 ef2 et2 g2 u2 v2 m2))],[]))
 | _,_=>(false,([],[]))
def s6 :Go.Abs.Spec:=fun args blk=>match args,blk with
 | [.agg [.int .i64 k1,.int .i64 f1,.int .i64 t1,.int .i64 p1,.int .i64 n1,.int .i64 r1,.int .i64 o1,.sl false 93 cf1,.sl false 93 ct1,.sl false 93 bf1,.sl false 93 bt1,.bool h1,.sl false 93 ef1,.sl false 93 et1,.sl false 93 g1,.sl false 96 u1,.sl false 103 v1,.bool m1]],[]=>(true,([.one (.bool (pG cf1 ct1 bf1 bt1 ef1 et1 g1 u1 v1))],[]))
 | _,_=>(false,([],[]))
def Nl :Go.Abs.Spec:=fun args blk=>match args,blk with
 | [.one (.sl false 5 x),.one (.bool v)],[]=>((cb (x.length+1)),([.one (.sl true 5 (x++o9 v))],[]))
 | [.one (.nils),.one (.bool v)],[]=>(true,([.one (.sl true 5 (o9 v))],[]))
 | _,_=>(false,([],[]))
def s51 :Go.Abs.Spec:=fun args blk=>match args,blk with
 | [.one (.sl false 3 l)],[]=>((decide (l.length≤1000)),([.one (.sl true 5 (aP l))],[]))
 | _,_=>(false,([],[]))
def s52 :Go.Abs.Spec:=fun args blk=>match args,blk with
 | [.agg [.int .i64 k1,.int .i64 f1,.int .i64 t1,.int .i64 p1,.int .i64 n1,.int .i64 r1,.int .i64 o1,.sl false 93 cf1,.sl false 93 ct1,.sl false 93 bf1,.sl false 93 bt1,.bool h1,.sl false 93 ef1,.sl false 93 et1,.sl false 93 g1,.sl false 96 u1,.sl false 103 v1,.bool m1],.one (.int .i64 f)],[]=>((rH (Msg.mk k1 f1 t1 p1 n1 r1 o1 cf1 ct1 bf1 bt1 h1 ef1 et1 g1 u1 v1 m1)),([.one (.sl true 5 (iL (Msg.mk k1 f1 t1 p1 n1 r1 o1 cf1 ct1 bf1 bt1 h1 ef1 et1 g1 u1 v1 m1) f))],[]))
 | _,_=>(false,([],[]))
def s16 :Go.Abs.Spec:=fun args blk=>match args,blk with
 | [.one (.nils),.agg [.int .i64 k1,.int .i64 f1,.int .i64 t1,.int .i64 p1,.int .i64 n1,.int .i64 r1,.int .i64 o1,.sl false 93 cf1,.sl false 93 ct1,.sl false 93 bf1,.sl false 93 bt1,.bool h1,.sl false 93 ef1,.sl false 93 et1,.sl false 93 g1,.sl false 96 u1,.sl false 103 v1,.bool m1]],[]=>((rH (Msg.mk k1 f1 t1 p1 n1 r1 o1 cf1 ct1 bf1 bt1 h1 ef1 et1 g1 u1 v1 m1)),([.one (.sl true 5 (oE (Msg.mk k1 f1 t1 p1 n1 r1 o1 cf1 ct1 bf1 bt1 h1 ef1 et1 g1 u1 v1 m1)))],[]))
 | _,_=>(false,([],[]))
def s13 :Go.Abs.Spec:=fun args blk=>match args,blk with
 | [.one (.sl false 93 p),.one (.sl false 96 c),.one (.int .i64 ki),.one (.int .i64 ni),.one (.int .i64 mi)],[]=>((ek p&&fz c),([.agg [.int .i64 (fy p c ki ni mi).k,.int .i64 (fy p c ki ni mi).f,.int .i64 (fy p c ki ni mi).t,.int .i64 (fy p c ki ni mi).p,.int .i64 (fy p c ki ni mi).n,.int .i64 (fy p c ki ni mi).r,.int .i64 (fy p c ki ni mi).o,.sl false 93 (fy p c ki ni mi).cf,.sl false 93 (fy p c ki ni mi).ct,.sl false 93 (fy p c ki ni mi).bf,.sl false 93 (fy p c ki ni mi).bt,.bool (fy p c ki ni mi).h,.sl false 93 (fy p c ki ni mi).ef,.sl false 93 (fy p c ki ni mi).et,.sl false 93 (fy p c ki ni mi).g,.sl false 96 (fy p c ki ni mi).u,.sl false 103 (fy p c ki ni mi).v,.bool (fy p c ki ni mi).m]],[]))
 | _,_=>(false,([],[]))
def s7 :Go.Abs.Spec:=fun args blk=>match args,blk with
 | [],[]=>(true,([.one (.bool true)],[]))
 | _,_=>(false,([],[]))
def s3 :Go.Abs.Spec:=fun args blk=>match args,blk with
 | [.agg [.int .i64 k1,.int .i64 f1,.int .i64 t1,.int .i64 p1,.int .i64 n1,.int .i64 r1,.int .i64 o1,.sl false 93 cf1,.sl false 93 ct1,.sl false 93 bf1,.sl false 93 bt1,.bool h1,.sl false 93 ef1,.sl false 93 et1,.sl false 93 g1,.sl false 96 u1,.sl false 103 v1,.bool m1]],[]=>((xC cf1 ct1 bf1 bt1 ef1 et1 g1 u1 v1),([.one (.bool true)],[]))
 | _,_=>(false,([],[]))
def s4 :Go.Abs.Spec:=fun args blk=>match args,blk with
 | [.one (.sl false 5 x)],[]=>((okB x),([.one (.bool true)],[]))
 | _,_=>(false,([],[]))
def s5 :Go.Abs.Spec:=fun args blk=>match args,blk with
 | [.one (.sl false 3 l),.one (.sl false 3 u),.one (.int .i64 ki),.one (.int .i64 ni),.one (.int .i64 mi),.one (.int .u16 av),.one (.int .u8 wi),.one (.bool ct)],[]=>((decide (l.length<4611686018427387904)&&(decide (u.length<4611686018427387904)&&(decide (0≤av)&&(decide (av<65536)&&(decide (0≤wi)&&decide (wi<256)))))),([.one (.bool true)],[]))
 | _,_=>(false,([],[]))
def L :LS:=[]
def Iq :LS:=(138,M6)::L
def FS :LS:=(139,Oz)::Iq
def L65 :LS:=(65,s65)::FS
def L67 :LS:=(67,s67)::L65
def Io :LS:=(145,N9)::L67
def df :LS:=(125,Ni)::Io
def nY :LS:=(133,NL)::df
def eQ :LS:=(107,NE)::nY
def JK :LS:=(112,NJ)::eQ
def Je :LS:=(140,Nh)::JK
def xe :LS:=(127,Nf)::Je
def JC :LS:=(126,O3)::xe
def IZ :LS:=(108,NW)::JC
def xp :LS:=(113,Nm)::IZ
def L91 :LS:=(91,s91)::xp
def L98 :LS:=(98,s98)::L91
def L76 :LS:=(76,s76)::L98
def L85 :LS:=(85,s85)::L76
def jx :LS:=(134,NN)::L85
def qc :LS:=(122,Ow)::jx
def Gh :LS:=(116,Nc)::qc
def L33 :LS:=(33,s33)::Gh
def L34 :LS:=(34,s34)::L33
def IO :LS:=(119,Od)::L34
def L41 :LS:=(41,s41)::IO
def L42 :LS:=(42,s42)::L41
def L48 :LS:=(48,s48)::L42
def L96 :LS:=(96,s96)::L48
def L49 :LS:=(49,s49)::L96
def L14 :LS:=(14,s14)::L49
def L61 :LS:=(61,s61)::L14
def L70 :LS:=(70,s70)::L61
def L38 :LS:=(38,s38)::L70
def L99 :LS:=(99,s99)::L38
def L78 :LS:=(78,s78)::L99
def L86 :LS:=(86,s86)::L78
def L95 :LS:=(95,s95)::L86
def L94 :LS:=(94,s94)::L95
def L40 :LS:=(40,s40)::L94
def L27 :LS:=(27,s27)::L40
def L93 :LS:=(93,s93)::L27
def L43 :LS:=(43,s43)::L93
def yG :LS:=(144,Nt)::L43
def Ji :LS:=(132,Nw)::yG
def xw :LS:=(131,OX)::Ji
def IG :LS:=(143,OM)::xw
def x9 :LS:=(130,OG)::IG
def nE :LS:=(111,Og)::x9
def L72 :LS:=(72,s72)::nE
def L63 :LS:=(63,s63)::L72
def L26 :LS:=(26,s26)::L63
def L37 :LS:=(37,s37)::L26
def L81 :LS:=(81,s81)::L37
def L89 :LS:=(89,s89)::L81
def H7 :LS:=(101,NV)::L89
def L45 :LS:=(45,s45)::H7
def L66 :LS:=(66,s66)::L45
def GF :LS:=(151,NK)::L66
def JB :LS:=(141,N4)::GF
def IR :LS:=(114,Ns)::JB
def xF :LS:=(153,Nv)::IR
def GN :LS:=(156,Np)::xF
def IB :LS:=(152,Nn)::GN
def yC :LS:=(142,Nq)::IB
def yl :LS:=(115,Oj)::yC
def yc :LS:=(128,M7)::yl
def L73 :LS:=(73,s73)::yc
def Hw :LS:=(129,Oy)::L73
def L74 :LS:=(74,s74)::Hw
def L92 :LS:=(92,s92)::L74
def HI :LS:=(123,NT)::L92
def js :LS:=(124,OZ)::HI
def Gy :LS:=(100,On)::js
def HW :LS:=(155,Nx)::Gy
def FU :LS:=(150,Nd)::HW
def FY :LS:=(154,OL)::FU
def G8 :LS:=(149,OR)::FY
def H8 :LS:=(146,Nb)::G8
def Hs :LS:=(135,NG)::H8
def Jn :LS:=(147,N1)::Hs
def Hm :LS:=(148,NZ)::Jn
def qe :LS:=(136,M8)::Hm
def H1 :LS:=(118,Om)::qe
def xl :LS:=(137,Oh)::H1
def Jo :LS:=(120,Nk)::xl
def Iy :LS:=(121,O4)::Jo
def L97 :LS:=(97,s97)::Iy
def L50 :LS:=(50,s50)::L97
def L15 :LS:=(15,s15)::L50
def rT :LS:=(110,O0)::L15
def L71 :LS:=(71,s71)::rT
def L39 :LS:=(39,s39)::L71
def L87 :LS:=(87,s87)::L39
def L46 :LS:=(46,s46)::L87
def L47 :LS:=(47,s47)::L46
def L44 :LS:=(44,s44)::L47
def L18 :LS:=(18,s18)::L44
def L58 :LS:=(58,s58)::L18
def L19 :LS:=(19,s19)::L58
def L23 :LS:=(23,s23)::L19
def L60 :LS:=(60,s60)::L23
def L69 :LS:=(69,s69)::L60
def L59 :LS:=(59,s59)::L69
def L20 :LS:=(20,s20)::L59
def L21 :LS:=(21,s21)::L20
def vb :LS:=(109,M9)::L21
def L28 :LS:=(28,s28)::vb
def L62 :LS:=(62,s62)::L28
def L64 :LS:=(64,s64)::L62
def L22 :LS:=(22,s22)::L64
def L8 :LS:=(8,s8)::L22
def L68 :LS:=(68,s68)::L8
def L24 :LS:=(24,s24)::L68
def L29 :LS:=(29,s29)::L24
def L25 :LS:=(25,s25)::L29
def L9 :LS:=(9,s9)::L25
def L84 :LS:=(84,s84)::L9
def L90 :LS:=(90,s90)::L84
def L75 :LS:=(75,s75)::L90
def L31 :LS:=(31,s31)::L75
def L30 :LS:=(30,s30)::L31
def L77 :LS:=(77,s77)::L30
def L80 :LS:=(80,s80)::L77
def HD :LS:=(117,OK)::L80
def L83 :LS:=(83,s83)::HD
def L79 :LS:=(79,s79)::L83
def L82 :LS:=(82,s82)::L79
def L32 :LS:=(32,s32)::L82
def L10 :LS:=(10,s10)::L32
def L88 :LS:=(88,s88)::L10
def L35 :LS:=(35,s35)::L88
def L36 :LS:=(36,s36)::L35
def L11 :LS:=(11,s11)::L36
def L12 :LS:=(12,s12)::L11
def L6 :LS:=(6,s6)::L12
def xA :LS:=(102,Nl)::L6
def L51 :LS:=(51,s51)::xA
def L52 :LS:=(52,s52)::L51
def L16 :LS:=(16,s16)::L52
def L13 :LS:=(13,s13)::L16
def L7 :LS:=(7,s7)::L13
def L3 :LS:=(3,s3)::L7
def L4 :LS:=(4,s4)::L3
def L5 :LS:=(5,s5)::L4
theorem RH :Ph Tryz.prog E HQ=true:=by kernel_rfl
theorem Sq :Go.Abs.Good Tryz.prog E:=Lw (l:=HQ) rfl RH
end Go.Proofs.YtejimgikldiajaaGreat
namespace Go.Proofs.YtejimgikldiajaaGreat
open Go.Abs
set_option maxRecDepth 20000
theorem SI (m:Nat)(n lo hi:Int)(u:Bool):aj E (aa L) (m+1) 138 [.oi n,.oi lo,.oi hi,.ob u] []=
(cond (!u)
(some ([.ob (n==0)],[]))
(cond (decide (n≥lo))
(some ([.ob (decide (n≤hi))],[]))
(some ([.ob false],[])))):=by kernel_rfl
theorem R0 (m:Nat)(k c f:Int):aj E (aa Iq) (m+1) 139 [.agg [.i k,.i c,.i f]] []=
(cond (k==1)
(cond (k==1)
(cond (!(c==0))
(some ([.oi 9],[]))
(cond (!(f==0))
(some ([.oi 9],[]))
(some ([.oi 0],[]))))
(cond (k==3)
(cond (decide (c≥1))
(cond (!(decide (c≤12)))
(some ([.oi 9],[]))
(cond (!(f==0))
(some ([.oi 9],[]))
(some ([.oi 0],[]))))
(some ([.oi 9],[])))
(cond (k==4)
(cond (decide (f≥0))
(cond (!(c==0))
(some ([.oi 9],[]))
(cond (!(decide (f≤12)))
(some ([.oi 9],[]))
(some ([.oi 0],[]))))
(cond (!(c==0))
(some ([.oi 9],[]))
(some ([.oi 9],[]))))
(some ([.oi 10],[])))))
(cond (k==2)
(cond (!(c==0))
(some ([.oi 9],[]))
(cond (!(f==0))
(some ([.oi 9],[]))
(some ([.oi 0],[]))))
(cond (k==3)
(cond (decide (c≥1))
(cond (!(decide (c≤12)))
(some ([.oi 9],[]))
(cond (!(f==0))
(some ([.oi 9],[]))
(some ([.oi 0],[]))))
(some ([.oi 9],[])))
(cond (k==4)
(cond (decide (f≥0))
(cond (!(c==0))
(some ([.oi 9],[]))
(cond (!(decide (f≤12)))
(some ([.oi 9],[]))
(some ([.oi 0],[]))))
(cond (!(c==0))
(some ([.oi 9],[]))
(some ([.oi 9],[]))))
(some ([.oi 10],[])))))):=by kernel_rfl
theorem e65 (m:Nat)(n:Int):aj E (aa FS) (m+1) 65 [.oi n] []=
(cond (decide (n≥1))
(some ([.ob (decide (n≤12))],[]))
(some ([.ob false],[]))):=by kernel_rfl
theorem e67 (m:Nat)(n:Int):aj E (aa L65) (m+1) 67 [.oi n] []=
(cond (decide (n≥201))
(some ([.ob (decide (n<204))],[]))
(some ([.ob false],[]))):=by kernel_rfl
theorem SH (m:Nat)(k c f:Int):aj E (aa L67) (m+1) 145 [.agg [.i k,.i c,.i f]] []=
(cond (decide (k<1))
(some ([.oi 10],[]))
(cond (decide (k>4))
(some ([.oi 10],[]))
(cond (k==3)
(cond (!(dt c))
(some ([.oi 9],[]))
(cond (k !=3)
(cond (c !=0)
(some ([.oi 9],[]))
(cond (k==4)
(cond (decide (f<0))
(some ([.oi 9],[]))
(cond (decide (f>12))
(some ([.oi 9],[]))
(cond (k !=4)
(cond (f !=0)
(some ([.oi 9],[]))
(some ([.oi 0],[])))
(some ([.oi 0],[])))))
(cond (k !=4)
(cond (f !=0)
(some ([.oi 9],[]))
(some ([.oi 0],[])))
(some ([.oi 0],[])))))
(cond (k==4)
(cond (decide (f<0))
(some ([.oi 9],[]))
(cond (decide (f>12))
(some ([.oi 9],[]))
(cond (k !=4)
(cond (f !=0)
(some ([.oi 9],[]))
(some ([.oi 0],[])))
(some ([.oi 0],[])))))
(cond (k !=4)
(cond (f !=0)
(some ([.oi 9],[]))
(some ([.oi 0],[])))
(some ([.oi 0],[]))))))
(cond (k !=3)
(cond (c !=0)
(some ([.oi 9],[]))
(cond (k==4)
(cond (decide (f<0))
(some ([.oi 9],[]))
(cond (decide (f>12))
(some ([.oi 9],[]))
(cond (k !=4)
(cond (f !=0)
(some ([.oi 9],[]))
(some ([.oi 0],[])))
(some ([.oi 0],[])))))
(cond (k !=4)
(cond (f !=0)
(some ([.oi 9],[]))
(some ([.oi 0],[])))
(some ([.oi 0],[])))))
(cond (k==4)
(cond (decide (f<0))
(some ([.oi 9],[]))
(cond (decide (f>12))
(some ([.oi 9],[]))
(cond (k !=4)
(cond (f !=0)
(some ([.oi 9],[]))
(some ([.oi 0],[])))
(some ([.oi 0],[])))))
(cond (k !=4)
(cond (f !=0)
(some ([.oi 9],[]))
(some ([.oi 0],[])))
(some ([.oi 0],[])))))))):=by kernel_rfl
theorem Sx (m:Nat)(k s w v rk rc rf:Int):aj E (aa Io) (m+1) 125 [.agg [.i k,.i s,.i w,.i v,.i rk,.i rc,.i rf]] []=
(cond (decide (k<1))
(some ([.oi 10],[]))
(cond (decide (k>4))
(some ([.oi 10],[]))
(cond (k==1)
(cond (k==3)
(cond (!(ej s 1 12 (!(k==4))))
(some ([.oi 9],[]))
(cond (!(ej w 1 9 true))
(some ([.oi 9],[]))
(cond (!(ej v 1 1000 true))
(some ([.oi 9],[]))
(cond (k==4)
(some ([.oi (iH rk rc rf)],[]))
(cond (!((rk==0)&&((rc==0)&&((rf==0)&&true))))
(some ([.oi 2],[]))
(some ([.oi 0],[])))))))
(cond (!(ej s 1 12 (!(k==4))))
(some ([.oi 9],[]))
(cond (!(ej w 1 9 true))
(some ([.oi 9],[]))
(cond (!(ej v 1 1000 (k==4)))
(some ([.oi 9],[]))
(cond (k==4)
(some ([.oi (iH rk rc rf)],[]))
(cond (!((rk==0)&&((rc==0)&&((rf==0)&&true))))
(some ([.oi 2],[]))
(some ([.oi 0],[]))))))))
(cond (k==3)
(cond (!(ej s 1 12 (!(k==4))))
(some ([.oi 9],[]))
(cond (!(ej w 1 9 (k==3)))
(some ([.oi 9],[]))
(cond (!(ej v 1 1000 true))
(some ([.oi 9],[]))
(cond (k==4)
(some ([.oi (iH rk rc rf)],[]))
(cond (!((rk==0)&&((rc==0)&&((rf==0)&&true))))
(some ([.oi 2],[]))
(some ([.oi 0],[])))))))
(cond (!(ej s 1 12 (!(k==4))))
(some ([.oi 9],[]))
(cond (!(ej w 1 9 (k==3)))
(some ([.oi 9],[]))
(cond (!(ej v 1 1000 (k==4)))
(some ([.oi 9],[]))
(cond (k==4)
(some ([.oi (iH rk rc rf)],[]))
(cond (!((rk==0)&&((rc==0)&&((rf==0)&&true))))
(some ([.oi 2],[]))
(some ([.oi 0],[]))))))))))):=by kernel_rfl
noncomputable def sM :List AItem:=F133.at [.snd,.snd,.fst,.sub,.snd]
def su (t3:Bool)(t4:Bool)(t5:Bool)(t6:Bool)(t19:Bool)(b0:Int)(b0_1:Int)(b0_2:Int)(b0_3:Int)(b0_4:Int)(b0_5:Int)(b0_6:Int):St:=⟨[(1,.one (.ptr 0 0)),(3,.ob t3),(4,.ob t4),(5,.ob t5),(6,.ob t6),(19,.ob t19)],[.var [.i b0,.i b0_1,.i b0_2,.i b0_3,.i b0_4,.i b0_5,.i b0_6]]⟩
noncomputable def nH :List AItem:=F133.at [.snd,.snd,.fst,.sub,.snd,.snd,.snd]
def nS (t3:Bool)(t4:Bool)(t5:Bool)(t6:Bool)(t34:Bool)(b0:Int)(b0_1:Int)(b0_2:Int)(b0_3:Int)(b0_4:Int)(b0_5:Int)(b0_6:Int):St:=⟨[(1,.one (.ptr 0 0)),(3,.ob t3),(4,.ob t4),(5,.ob t5),(6,.ob t6),(34,.ob t34)],[.var [.i b0,.i b0_1,.i b0_2,.i b0_3,.i b0_4,.i b0_5,.i b0_6]]⟩
noncomputable def fR :List AItem:=F133.at [.snd,.snd,.fst,.sub,.snd,.snd,.snd,.snd,.snd]
def fK (t3:Bool)(t4:Bool)(t5:Bool)(t6:Bool)(t51:Bool)(b0:Int)(b0_1:Int)(b0_2:Int)(b0_3:Int)(b0_4:Int)(b0_5:Int)(b0_6:Int):St:=⟨[(1,.one (.ptr 0 0)),(3,.ob t3),(4,.ob t4),(5,.ob t5),(6,.ob t6),(51,.ob t51)],[.var [.i b0,.i b0_1,.i b0_2,.i b0_3,.i b0_4,.i b0_5,.i b0_6]]⟩
noncomputable def fJ :List AItem:=F133.at [.snd,.snd,.fst,.sub,.snd,.snd,.snd,.snd,.snd,.snd,.snd]
def fQ (t6:Bool)(t77:Bool)(b0:Int)(b0_1:Int)(b0_2:Int)(b0_3:Int)(b0_4:Int)(b0_5:Int)(b0_6:Int):St:=⟨[(1,.one (.ptr 0 0)),(6,.ob t6),(77,.ob t77)],[.var [.i b0,.i b0_1,.i b0_2,.i b0_3,.i b0_4,.i b0_5,.i b0_6]]⟩
noncomputable def Gq :List AItem:=F133.at [.snd,.snd,.snd]
def Ib :St:=⟨[],[]⟩
theorem Ta (m:Nat)(k s w v rk rc rf:Int):aj E (aa df) (m+1) 133 [.agg [.i k,.i s,.i w,.i v,.i rk,.i rc,.i rf]] []=
(cond (!(k==1))
(cond (!(k==2))
(cond (!(k==3))
(goF E (aa df) F133 0 m sM (su (k==1) (k==2) (k==3) (k==4) (!(k==4)) k s w v rk rc rf))
(goF E (aa df) F133 0 m sM (su (k==1) (k==2) (k==3) (k==4) false k s w v rk rc rf)))
(goF E (aa df) F133 0 m sM (su (k==1) (k==2) (k==3) (k==4) false k s w v rk rc rf)))
(goF E (aa df) F133 0 m sM (su (k==1) (k==2) (k==3) (k==4) false k s w v rk rc rf))):=by kernel_rfl
theorem OV (m:Nat)(t3 t4 t5 t6 t19:Bool)(b0 b0_1 b0_2 b0_3 b0_4 b0_5 b0_6:Int):goF E (aa df) F133 0 (m+1) sM (su t3 t4 t5 t6 t19 b0 b0_1 b0_2 b0_3 b0_4 b0_5 b0_6)=
(cond t19
(some ([.oi 10],[]))
(cond (!t6)
(cond (!(dt b0_1))
(goF E (aa df) F133 0 m nH (nS t3 t4 t5 t6 true b0 b0_1 b0_2 b0_3 b0_4 b0_5 b0_6))
(cond t6
(goF E (aa df) F133 0 m nH (nS t3 t4 t5 t6 (b0_1 !=0) b0 b0_1 b0_2 b0_3 b0_4 b0_5 b0_6))
(goF E (aa df) F133 0 m nH (nS t3 t4 t5 t6 false b0 b0_1 b0_2 b0_3 b0_4 b0_5 b0_6))))
(cond t6
(goF E (aa df) F133 0 m nH (nS t3 t4 t5 t6 (b0_1 !=0) b0 b0_1 b0_2 b0_3 b0_4 b0_5 b0_6))
(goF E (aa df) F133 0 m nH (nS t3 t4 t5 t6 false b0 b0_1 b0_2 b0_3 b0_4 b0_5 b0_6))))):=by kernel_rfl
theorem Ox (m:Nat)(t3 t4 t5 t6 t34:Bool)(b0 b0_1 b0_2 b0_3 b0_4 b0_5 b0_6:Int):goF E (aa df) F133 0 (m+1) nH (nS t3 t4 t5 t6 t34 b0 b0_1 b0_2 b0_3 b0_4 b0_5 b0_6)=
(cond t34
(some ([.oi 9],[]))
(cond t3
(cond (decide (b0_2<1))
(goF E (aa df) F133 0 m fR (fK t3 t4 t5 t6 true b0 b0_1 b0_2 b0_3 b0_4 b0_5 b0_6))
(cond (decide (b0_2>9))
(goF E (aa df) F133 0 m fR (fK t3 t4 t5 t6 true b0 b0_1 b0_2 b0_3 b0_4 b0_5 b0_6))
(cond t4
(goF E (aa df) F133 0 m fR (fK t3 t4 t5 t6 (b0_2 !=0) b0 b0_1 b0_2 b0_3 b0_4 b0_5 b0_6))
(cond t6
(goF E (aa df) F133 0 m fR (fK t3 t4 t5 t6 (b0_2 !=0) b0 b0_1 b0_2 b0_3 b0_4 b0_5 b0_6))
(goF E (aa df) F133 0 m fR (fK t3 t4 t5 t6 false b0 b0_1 b0_2 b0_3 b0_4 b0_5 b0_6))))))
(cond t5
(cond (decide (b0_2<1))
(goF E (aa df) F133 0 m fR (fK t3 t4 t5 t6 true b0 b0_1 b0_2 b0_3 b0_4 b0_5 b0_6))
(cond (decide (b0_2>9))
(goF E (aa df) F133 0 m fR (fK t3 t4 t5 t6 true b0 b0_1 b0_2 b0_3 b0_4 b0_5 b0_6))
(cond t4
(goF E (aa df) F133 0 m fR (fK t3 t4 t5 t6 (b0_2 !=0) b0 b0_1 b0_2 b0_3 b0_4 b0_5 b0_6))
(cond t6
(goF E (aa df) F133 0 m fR (fK t3 t4 t5 t6 (b0_2 !=0) b0 b0_1 b0_2 b0_3 b0_4 b0_5 b0_6))
(goF E (aa df) F133 0 m fR (fK t3 t4 t5 t6 false b0 b0_1 b0_2 b0_3 b0_4 b0_5 b0_6))))))
(cond t4
(goF E (aa df) F133 0 m fR (fK t3 t4 t5 t6 (b0_2 !=0) b0 b0_1 b0_2 b0_3 b0_4 b0_5 b0_6))
(cond t6
(goF E (aa df) F133 0 m fR (fK t3 t4 t5 t6 (b0_2 !=0) b0 b0_1 b0_2 b0_3 b0_4 b0_5 b0_6))
(goF E (aa df) F133 0 m fR (fK t3 t4 t5 t6 false b0 b0_1 b0_2 b0_3 b0_4 b0_5 b0_6))))))):=by kernel_rfl
theorem N2 (m:Nat)(t3 t4 t5 t6 t51:Bool)(b0 b0_1 b0_2 b0_3 b0_4 b0_5 b0_6:Int):goF E (aa df) F133 0 (m+1) fR (fK t3 t4 t5 t6 t51 b0 b0_1 b0_2 b0_3 b0_4 b0_5 b0_6)=
(cond t51
(some ([.oi 9],[]))
(cond t5
(cond (decide (b0_3<1))
(goF E (aa df) F133 0 m fJ (fQ t6 true b0 b0_1 b0_2 b0_3 b0_4 b0_5 b0_6))
(cond (decide (b0_3>1000))
(goF E (aa df) F133 0 m fJ (fQ t6 true b0 b0_1 b0_2 b0_3 b0_4 b0_5 b0_6))
(cond t3
(goF E (aa df) F133 0 m fJ (fQ t6 (b0_3 !=0) b0 b0_1 b0_2 b0_3 b0_4 b0_5 b0_6))
(cond t4
(goF E (aa df) F133 0 m fJ (fQ t6 (b0_3 !=0) b0 b0_1 b0_2 b0_3 b0_4 b0_5 b0_6))
(goF E (aa df) F133 0 m fJ (fQ t6 false b0 b0_1 b0_2 b0_3 b0_4 b0_5 b0_6))))))
(cond t6
(cond (decide (b0_3<1))
(goF E (aa df) F133 0 m fJ (fQ t6 true b0 b0_1 b0_2 b0_3 b0_4 b0_5 b0_6))
(cond (decide (b0_3>1000))
(goF E (aa df) F133 0 m fJ (fQ t6 true b0 b0_1 b0_2 b0_3 b0_4 b0_5 b0_6))
(cond t3
(goF E (aa df) F133 0 m fJ (fQ t6 (b0_3 !=0) b0 b0_1 b0_2 b0_3 b0_4 b0_5 b0_6))
(cond t4
(goF E (aa df) F133 0 m fJ (fQ t6 (b0_3 !=0) b0 b0_1 b0_2 b0_3 b0_4 b0_5 b0_6))
(goF E (aa df) F133 0 m fJ (fQ t6 false b0 b0_1 b0_2 b0_3 b0_4 b0_5 b0_6))))))
(cond t3
(goF E (aa df) F133 0 m fJ (fQ t6 (b0_3 !=0) b0 b0_1 b0_2 b0_3 b0_4 b0_5 b0_6))
(cond t4
(goF E (aa df) F133 0 m fJ (fQ t6 (b0_3 !=0) b0 b0_1 b0_2 b0_3 b0_4 b0_5 b0_6))
(goF E (aa df) F133 0 m fJ (fQ t6 false b0 b0_1 b0_2 b0_3 b0_4 b0_5 b0_6))))))):=by kernel_rfl
theorem Nj (m:Nat)(t6 t77:Bool)(b0 b0_1 b0_2 b0_3 b0_4 b0_5 b0_6:Int):goF E (aa df) F133 0 (m+1) fJ (fQ t6 t77 b0 b0_1 b0_2 b0_3 b0_4 b0_5 b0_6)=
(cond t77
(some ([.oi 9],[]))
(cond t6
(some ([.oi (iH b0_4 b0_5 b0_6)],[]))
(cond (!((b0_4==0)&&((b0_5==0)&&((b0_6==0)&&true))))
(some ([.oi 2],[]))
(goF E (aa df) F133 0 m Gq (Ib))))):=by kernel_rfl
theorem OW (m:Nat):goF E (aa df) F133 0 (m+1) Gq (Ib)=
(some ([.oi 0],[])):=by kernel_rfl
noncomputable def sW :List AItem:=F107.at [.snd,.snd,.fst,.snd,.sub,.head]
def tO (t38:RL)(t39:Int)(t40:Int)(b0:Int)(b0_1:Int)(b0_2:RL):St:=⟨[(1,.one (.ptr 0 0)),(38,.one (.sl false 89 t38)),(39,.oi t39),(40,.oi t40)],[.var [.i b0,.i b0_1,.sl false 89 b0_2]]⟩
noncomputable def sb :List AItem:=F107.at [.snd,.snd,.fst,.snd,.sub,.body,.snd,.snd,.fst,.sub,.snd,.snd,.snd,.sub,.head]
def tU (t38:RL)(t39:Int)(t40:Int)(t53:RL)(t54:Int)(t55:Int)(b0:Int)(b0_1:Int)(b0_2:RL)(b1:Int)(b1_1:Int)(b1_2:Int)(b1_3:Int)(b1_4:Int)(b1_5:Int)(b1_6:Int):St:=⟨[(1,.one (.ptr 0 0)),(4,.one (.ptr 1 0)),(38,.one (.sl false 89 t38)),(39,.oi t39),(40,.oi t40),(53,.one (.sl false 89 t53)),(54,.oi t54),(55,.oi t55)],[.var [.i b0,.i b0_1,.sl false 89 b0_2],.var [.i b1,.i b1_1,.i b1_2,.i b1_3,.i b1_4,.i b1_5,.i b1_6]]⟩
theorem SP (m:Nat)(ap np:Int)(cp:RL):aj E (aa nY) (m+1) 107 [.agg [.i ap,.i np,.sl false 89 cp]] []=
(cond (decide (ap<201))
(some ([.oi 9],[]))
(cond (decide (ap≥204))
(some ([.oi 9],[]))
(cond (decide (np<1))
(some ([.oi 9],[]))
(cond (decide (np>3))
(some ([.oi 9],[]))
(cond ((cp.length:Int)==0)
(some ([.oi 2],[]))
(cond (decide ((cp.length:Int)>6))
(some ([.oi 3],[]))
(goF E (aa nY) F107 0 m sW (tO cp (cp.length:Int) 0 ap np cp)))))))):=by kernel_rfl
theorem Gl (m:Nat)(t38:RL)(t39 t40 b0 b0_1:Int)(b0_2:RL):goF E (aa nY) F107 0 (m+1) sW (tO t38 t39 t40 b0 b0_1 b0_2)=
(cond (decide (t40<t39))
(cond (inB t40 t38.length)
(cond ((dx (nr (rA t38 (Int.toNat t40)) 0) (nr (rA t38 (Int.toNat t40)) 1) (nr (rA t38 (Int.toNat t40)) 2) (nr (rA t38 (Int.toNat t40)) 3) (nr (rA t38 (Int.toNat t40)) 4) (nr (rA t38 (Int.toNat t40)) 5) (nr (rA t38 (Int.toNat t40)) 6)) !=0)
(some ([.oi (dx (nr (rA t38 (Int.toNat t40)) 0) (nr (rA t38 (Int.toNat t40)) 1) (nr (rA t38 (Int.toNat t40)) 2) (nr (rA t38 (Int.toNat t40)) 3) (nr (rA t38 (Int.toNat t40)) 4) (nr (rA t38 (Int.toNat t40)) 5) (nr (rA t38 (Int.toNat t40)) 6))],[]))
(cond (inB t40 (b0_2.length+1))
(goF E (aa nY) F107 0 m sb (tU t38 t39 t40 (bA b0_2 (Int.toNat t40)) ((bA b0_2 (Int.toNat t40)).length:Int) 0 b0 b0_1 b0_2 (nr (rA t38 (Int.toNat t40)) 0) (nr (rA t38 (Int.toNat t40)) 1) (nr (rA t38 (Int.toNat t40)) 2) (nr (rA t38 (Int.toNat t40)) 3) (nr (rA t38 (Int.toNat t40)) 4) (nr (rA t38 (Int.toNat t40)) 5) (nr (rA t38 (Int.toNat t40)) 6))) none)) none)
(some ([.oi 0],[]))):=by kernel_rfl
theorem GJ (m:Nat)(t38:RL)(t39 t40:Int)(t53:RL)(t54 t55 b0 b0_1:Int)(b0_2:RL)(b1 b1_1 b1_2 b1_3 b1_4 b1_5 b1_6:Int):goF E (aa nY) F107 0 (m+1) sb (tU t38 t39 t40 t53 t54 t55 b0 b0_1 b0_2 b1 b1_1 b1_2 b1_3 b1_4 b1_5 b1_6)=
(cond (decide (t55<t54))
(cond (inB t55 t53.length)
(cond ((nr (rA t53 (Int.toNat t55)) 0)==b1)
(cond ((nr (rA t53 (Int.toNat t55)) 1)==b1_1)
(some ([.oi 5],[]))
(goF E (aa nY) F107 0 m sb (tU t38 t39 t40 t53 t54 (IntKind.wrap .i64 (t55+1)) b0 b0_1 b0_2 b1 b1_1 b1_2 b1_3 b1_4 b1_5 b1_6)))
(goF E (aa nY) F107 0 m sb (tU t38 t39 t40 t53 t54 (IntKind.wrap .i64 (t55+1)) b0 b0_1 b0_2 b1 b1_1 b1_2 b1_3 b1_4 b1_5 b1_6))) none)
(goF E (aa nY) F107 0 m sW (tO t38 t39 (IntKind.wrap .i64 (t40+1)) b0 b0_1 b0_2))):=by kernel_rfl
noncomputable def yn :List AItem:=F112.at [.snd,.fst,.sub,.snd]
def x5 (t6:Bool)(b0:Int)(b0_1:Int)(b0_2:RL):St:=⟨[(1,.one (.ptr 0 0)),(6,.ob t6)],[.var [.i b0,.i b0_1,.sl false 89 b0_2]]⟩
noncomputable def IV :List AItem:=F112.at [.snd,.snd]
def Jq (b0:Int)(b0_1:Int)(b0_2:RL):St:=⟨[(1,.one (.ptr 0 0))],[.var [.i b0,.i b0_1,.sl false 89 b0_2]]⟩
noncomputable def sf :List AItem:=F112.at [.snd,.snd,.fst,.snd,.sub,.head]
def uM (t3:Int)(b0:Int)(b0_1:Int)(b0_2:RL):St:=⟨[(1,.one (.ptr 0 0)),(3,.oi t3)],[.var [.i b0,.i b0_1,.sl false 89 b0_2]]⟩
noncomputable def IH :List AItem:=F112.at [.snd,.snd,.fst,.snd,.sub,.body,.snd]
def FZ (t3:Int)(b0:Int)(b0_1:Int)(b0_2:RL):St:=⟨[(1,.one (.ptr 0 0)),(3,.oi t3)],[.var [.i b0,.i b0_1,.sl false 89 b0_2]]⟩
noncomputable def GP :List AItem:=F112.at [.snd,.snd,.snd]
def IN :St:=⟨[],[]⟩
noncomputable def JJ :List AItem:=F112.at [.snd,.snd,.fst,.snd,.sub,.body,.snd,.fst,.sub,.snd]
def HU (t3:Int)(b0:Int)(b0_1:Int)(b0_2:RL):St:=⟨[(1,.one (.ptr 0 0)),(3,.oi t3)],[.var [.i b0,.i b0_1,.sl false 89 b0_2]]⟩
noncomputable def yo :List AItem:=F112.at [.snd,.snd,.fst,.snd,.sub,.body,.snd,.fst,.sub,.snd,.snd,.sub,.head]
def yd (t3:Int)(t5:Int)(b0:Int)(b0_1:Int)(b0_2:RL):St:=⟨[(1,.one (.ptr 0 0)),(3,.oi t3),(5,.oi t5)],[.var [.i b0,.i b0_1,.sl false 89 b0_2]]⟩
noncomputable def HM :List AItem:=F112.at [.snd,.snd,.fst,.snd,.sub,.body,.snd,.fst,.sub,.snd,.snd,.sub,.body,.snd]
def GW (t3:Int)(t5:Int)(b0:Int)(b0_1:Int)(b0_2:RL):St:=⟨[(1,.one (.ptr 0 0)),(3,.oi t3),(5,.oi t5)],[.var [.i b0,.i b0_1,.sl false 89 b0_2]]⟩
noncomputable def HX :List AItem:=F112.at [.snd,.snd,.fst,.snd,.sub,.body,.snd,.snd]
def HN (t3:Int)(b0:Int)(b0_1:Int)(b0_2:RL):St:=⟨[(1,.one (.ptr 0 0)),(3,.oi t3)],[.var [.i b0,.i b0_1,.sl false 89 b0_2]]⟩
noncomputable def BK :List AItem:=F112.at [.snd,.snd,.fst,.snd,.sub,.body,.snd,.fst,.sub,.snd,.snd,.sub,.body,.snd,.fst,.sub,.snd]
def Cp (t3:Int)(t5:Int)(t79:Bool)(b0:Int)(b0_1:Int)(b0_2:RL):St:=⟨[(1,.one (.ptr 0 0)),(3,.oi t3),(5,.oi t5),(79,.ob t79)],[.var [.i b0,.i b0_1,.sl false 89 b0_2]]⟩
noncomputable def xk :List AItem:=F112.at [.snd,.snd,.fst,.snd,.sub,.body,.snd,.fst,.sub,.snd,.snd,.sub,.body,.snd,.snd]
def xN (t3:Int)(t5:Int)(b0:Int)(b0_1:Int)(b0_2:RL):St:=⟨[(1,.one (.ptr 0 0)),(3,.oi t3),(5,.oi t5)],[.var [.i b0,.i b0_1,.sl false 89 b0_2]]⟩
theorem Tw (m:Nat)(ap np:Int)(cp:RL):aj E (aa eQ) (m+1) 112 [.agg [.i ap,.i np,.sl false 89 cp]] []=
(cond (!(ic ap))
(goF E (aa eQ) F112 0 m yn (x5 true ap np cp))
(cond (decide (np<1))
(goF E (aa eQ) F112 0 m yn (x5 true ap np cp))
(goF E (aa eQ) F112 0 m yn (x5 (decide (np>3)) ap np cp)))):=by kernel_rfl
theorem O2 (m:Nat)(t6:Bool)(b0 b0_1:Int)(b0_2:RL):goF E (aa eQ) F112 0 (m+1) yn (x5 t6 b0 b0_1 b0_2)=
(cond t6
(some ([.oi 9],[]))
(cond ((b0_2.length:Int)==0)
(some ([.oi 2],[]))
(cond (decide ((b0_2.length:Int)>6))
(some ([.oi 3],[]))
(goF E (aa eQ) F112 0 m IV (Jq b0 b0_1 b0_2))))):=by kernel_rfl
theorem OJ (m:Nat)(b0 b0_1:Int)(b0_2:RL):goF E (aa eQ) F112 0 (m+1) IV (Jq b0 b0_1 b0_2)=
(goF E (aa eQ) F112 0 m sf (uM 0 b0 b0_1 b0_2)):=by kernel_rfl
theorem HE (m:Nat)(t3 b0 b0_1:Int)(b0_2:RL):goF E (aa eQ) F112 0 (m+1) sf (uM t3 b0 b0_1 b0_2)=
(cond (decide (t3<(b0_2.length:Int)))
(goF E (aa eQ) F112 0 m IH (FZ t3 b0 b0_1 b0_2))
(goF E (aa eQ) F112 0 m GP (IN))):=by kernel_rfl
theorem Ou (m:Nat)(t3 b0 b0_1:Int)(b0_2:RL):goF E (aa eQ) F112 0 (m+1) IH (FZ t3 b0 b0_1 b0_2)=
(cond (inB t3 b0_2.length)
(cond ((dx (nr (rA b0_2 (Int.toNat t3)) 0) (nr (rA b0_2 (Int.toNat t3)) 1) (nr (rA b0_2 (Int.toNat t3)) 2) (nr (rA b0_2 (Int.toNat t3)) 3) (nr (rA b0_2 (Int.toNat t3)) 4) (nr (rA b0_2 (Int.toNat t3)) 5) (nr (rA b0_2 (Int.toNat t3)) 6)) !=0)
(some ([.oi (dx (nr (rA b0_2 (Int.toNat t3)) 0) (nr (rA b0_2 (Int.toNat t3)) 1) (nr (rA b0_2 (Int.toNat t3)) 2) (nr (rA b0_2 (Int.toNat t3)) 3) (nr (rA b0_2 (Int.toNat t3)) 4) (nr (rA b0_2 (Int.toNat t3)) 5) (nr (rA b0_2 (Int.toNat t3)) 6))],[]))
(goF E (aa eQ) F112 0 m JJ (HU t3 b0 b0_1 b0_2))) none):=by kernel_rfl
theorem Ok (m:Nat):goF E (aa eQ) F112 0 (m+1) GP (IN)=
(some ([.oi 0],[])):=by kernel_rfl
theorem OP (m:Nat)(t3 b0 b0_1:Int)(b0_2:RL):goF E (aa eQ) F112 0 (m+1) JJ (HU t3 b0 b0_1 b0_2)=
(goF E (aa eQ) F112 0 m yo (yd t3 0 b0 b0_1 b0_2)):=by kernel_rfl
theorem I0 (m:Nat)(t3 t5 b0 b0_1:Int)(b0_2:RL):goF E (aa eQ) F112 0 (m+1) yo (yd t3 t5 b0 b0_1 b0_2)=
(cond (decide (t5<t3))
(goF E (aa eQ) F112 0 m HM (GW t3 t5 b0 b0_1 b0_2))
(goF E (aa eQ) F112 0 m HX (HN t3 b0 b0_1 b0_2))):=by kernel_rfl
theorem NF (m:Nat)(t3 t5 b0 b0_1:Int)(b0_2:RL):goF E (aa eQ) F112 0 (m+1) HM (GW t3 t5 b0 b0_1 b0_2)=
(cond (inB t5 b0_2.length)
(cond (inB t3 b0_2.length)
(cond ((nr (rA b0_2 (Int.toNat t5)) 0)==(nr (rA b0_2 (Int.toNat t3)) 0))
(cond (inB t5 b0_2.length)
(cond (inB t3 b0_2.length)
(goF E (aa eQ) F112 0 m BK (Cp t3 t5 ((nr (rA b0_2 (Int.toNat t5)) 1)==(nr (rA b0_2 (Int.toNat t3)) 1)) b0 b0_1 b0_2)) none) none)
(goF E (aa eQ) F112 0 m BK (Cp t3 t5 false b0 b0_1 b0_2))) none) none):=by kernel_rfl
theorem Oq (m:Nat)(t3 b0 b0_1:Int)(b0_2:RL):goF E (aa eQ) F112 0 (m+1) HX (HN t3 b0 b0_1 b0_2)=
(goF E (aa eQ) F112 0 m sf (uM (IntKind.wrap .i64 (t3+1)) b0 b0_1 b0_2)):=by kernel_rfl
theorem OB (m:Nat)(t3 t5:Int)(t79:Bool)(b0 b0_1:Int)(b0_2:RL):goF E (aa eQ) F112 0 (m+1) BK (Cp t3 t5 t79 b0 b0_1 b0_2)=
(cond t79
(some ([.oi 5],[]))
(goF E (aa eQ) F112 0 m xk (xN t3 t5 b0 b0_1 b0_2))):=by kernel_rfl
theorem LP (m:Nat)(t3 t5 b0 b0_1:Int)(b0_2:RL):goF E (aa eQ) F112 0 (m+1) xk (xN t3 t5 b0 b0_1 b0_2)=
(goF E (aa eQ) F112 0 m yo (yd t3 (IntKind.wrap .i64 (t5+1)) b0 b0_1 b0_2)):=by kernel_rfl
theorem R9 (m:Nat)(n:Int):aj E (aa JK) (m+1) 140 [.oi n] []=
(some ([.ob (n !=n)],[])):=by kernel_rfl
theorem Qm (m:Nat)(x y:Int):aj E (aa Je) (m+1) 127 [.oi x,.oi y] []=
(cond false
(cond false
(some ([.oi 0],[]))
(some ([.oi (-1)],[])))
(cond false
(some ([.oi 1],[]))
(cond (decide (x<y))
(some ([.oi (-1)],[]))
(cond (decide (x>y))
(some ([.oi 1],[]))
(some ([.oi 0],[])))))):=by kernel_rfl
noncomputable def xf :List AItem:=F126.at [.snd,.snd,.fst,.snd,.sub,.head]
def yF (t3:Int)(t6:RL)(t7:Int)(t8:Int):St:=⟨[(3,.oi t3),(6,.one (.sl false 3 t6)),(7,.oi t7),(8,.oi t8)],[]⟩
theorem RE (m:Nat)(l:RL):aj E (aa xe) (m+1) 126 [.one (.sl false 3 l)] []=
(goF E (aa xe) F126 0 m xf (yF 0 l (l.length:Int) 0)):=by kernel_rfl
theorem G3 (m:Nat)(t3:Int)(t6:RL)(t7 t8:Int):goF E (aa xe) F126 0 (m+1) xf (yF t3 t6 t7 t8)=
(cond (decide (t8<t7))
(cond (inB t8 t6.length)
(cond ((nr (rA t6 (Int.toNat t8)) 0) !=t3)
(some ([.oi (nr (rA t6 (Int.toNat t8)) 0)],[]))
(goF E (aa xe) F126 0 m xf (yF t3 t6 t7 (IntKind.wrap .i64 (t8+1))))) none)
(some ([.oi t3],[]))):=by kernel_rfl
theorem SJ (m:Nat)(ap np:Int)(cp:RL)(aq nq:Int)(cq:RL):aj E (aa JC) (m+1) 108 [.agg [.i ap,.i np,.sl false 89 cp],.agg [.i aq,.i nq,.sl false 89 cq]] []=
(cond (decide ([[Cell.int .i64 (qm ap aq)],[Cell.int .i64 (qm np nq)]].length<9223372036854775808))
(some ([.oi (vj [[Cell.int .i64 (qm ap aq)],[Cell.int .i64 (qm np nq)]])],[])) none):=by kernel_rfl
theorem Rv (m:Nat)(ap np:Int)(cp:RL)(aq nq:Int)(cq:RL):aj E (aa IZ) (m+1) 113 [.agg [.i ap,.i np,.sl false 89 cp],.agg [.i aq,.i nq,.sl false 89 cq]] []=
(cond (decide (ap<aq))
(some ([.oi (-1)],[]))
(cond (ap==aq)
(cond (decide (np<nq))
(some ([.oi (-1)],[]))
(cond (ap==aq)
(cond (np==nq)
(some ([.oi 0],[]))
(some ([.oi 1],[])))
(some ([.oi 1],[]))))
(cond (ap==aq)
(cond (np==nq)
(some ([.oi 0],[]))
(some ([.oi 1],[])))
(some ([.oi 1],[]))))):=by kernel_rfl
noncomputable def DQ :List AItem:=F91.at [.snd,.snd,.fst,.snd,.sub,.head]
def Ea (t5:Int)(b0:Int)(b0_1:Int)(b0_2:RL)(b1:Int)(b1_1:Int)(b1_2:RL):St:=⟨[(2,.one (.ptr 0 0)),(3,.one (.ptr 1 0)),(5,.oi t5)],[.var [.i b0,.i b0_1,.sl false 89 b0_2],.var [.i b1,.i b1_1,.sl false 89 b1_2]]⟩
theorem e91 (m:Nat)(ap np:Int)(cp:RL)(aq nq:Int)(cq:RL):aj E (aa xp) (m+1) 91 [.agg [.i ap,.i np,.sl false 89 cp],.agg [.i aq,.i nq,.sl false 89 cq]] []=
(cond (ap !=aq)
(some ([.ob false],[]))
(cond (np !=nq)
(some ([.ob false],[]))
(cond ((cp.length:Int) !=(cq.length:Int))
(some ([.ob false],[]))
(goF E (aa xp) F91 0 m DQ (Ea 0 ap np cp aq nq cq))))):=by kernel_rfl
theorem Mv (m:Nat)(t5 b0 b0_1:Int)(b0_2:RL)(b1 b1_1:Int)(b1_2:RL):goF E (aa xp) F91 0 (m+1) DQ (Ea t5 b0 b0_1 b0_2 b1 b1_1 b1_2)=
(cond (decide (t5<(b0_2.length:Int)))
(cond (inB t5 b0_2.length)
(cond (inB t5 b1_2.length)
(cond (!(((nr (rA b0_2 (Int.toNat t5)) 0)==(nr (rA b1_2 (Int.toNat t5)) 0))&&(((nr (rA b0_2 (Int.toNat t5)) 1)==(nr (rA b1_2 (Int.toNat t5)) 1))&&(((nr (rA b0_2 (Int.toNat t5)) 2)==(nr (rA b1_2 (Int.toNat t5)) 2))&&(((nr (rA b0_2 (Int.toNat t5)) 3)==(nr (rA b1_2 (Int.toNat t5)) 3))&&(((nr (rA b0_2 (Int.toNat t5)) 4)==(nr (rA b1_2 (Int.toNat t5)) 4))&&(((nr (rA b0_2 (Int.toNat t5)) 5)==(nr (rA b1_2 (Int.toNat t5)) 5))&&(((nr (rA b0_2 (Int.toNat t5)) 6)==(nr (rA b1_2 (Int.toNat t5)) 6))&&true))))))))
(some ([.ob false],[]))
(goF E (aa xp) F91 0 m DQ (Ea (IntKind.wrap .i64 (t5+1)) b0 b0_1 b0_2 b1 b1_1 b1_2))) none) none)
(some ([.ob true],[]))):=by kernel_rfl
noncomputable def El :List AItem:=F98.at [.snd,.snd,.fst,.sub,.head]
def C7 (t0:RL)(t1:Int)(t5:RL):St:=⟨[(0,.or t0),(1,.one (.int .u64 t1)),(5,.one (.sl true 5 t5))],[]⟩
theorem e98 (m:Nat)(x:RL)(v:Int):aj E (aa L91) (m+1) 98 [.or x,.one (.int .u64 v)] []=
(goF E (aa L91) F98 0 m El (C7 x v ([]:RL))):=by kernel_rfl
theorem Mj (m:Nat)(t0:RL)(t1:Int)(t5:RL):goF E (aa L91) F98 0 (m+1) El (C7 t0 t1 t5)=
(cond (decide (t1≥128))
(cond (cb (t5.length+ [[Cell.int .u8 (orI .u8 (IntKind.wrap .u8 t1) 128)]].length))
(goF E (aa L91) F98 0 m El (C7 t0 (nD .u64 t1 7) (t5++ [[Cell.int .u8 (orI .u8 (IntKind.wrap .u8 t1) 128)]]))) none)
(cond (cb (t5.length+ [[Cell.int .u8 (IntKind.wrap .u8 t1)]].length))
(cond (inB (t0.length:Int) (t0.length+1))
(cond (decide ((t0.length:Int)=(t0.length:Int)))
(cond (cb ((bA t0 (Int.toNat (t0.length:Int))).length+(t5++ [[Cell.int .u8 (IntKind.wrap .u8 t1)]]).length))
(some ([.one (.sl true 5 ((bA t0 (Int.toNat (t0.length:Int)))++(t5++ [[Cell.int .u8 (IntKind.wrap .u8 t1)]])))],[])) none) none) none) none)):=by kernel_rfl
noncomputable def oU :List AItem:=F98.at [.snd,.snd,.fst,.sub,.head]
def pa (t0:RL)(t1:Int)(t5:RL):St:=⟨[(0,.one (.sl true 5 t0)),(1,.one (.int .u64 t1)),(5,.one (.sl true 5 t5))],[]⟩
theorem Oa (m:Nat)(v:Int):aj E (aa L91) (m+1) 98 [.one (.nils),.one (.int .u64 v)] []=
(goF E (aa L91) F98 0 m oU (pa ([]:RL) v ([]:RL))):=by kernel_rfl
theorem AS (m:Nat)(t0:RL)(t1:Int)(t5:RL):goF E (aa L91) F98 0 (m+1) oU (pa t0 t1 t5)=
(cond (decide (t1≥128))
(cond (cb (t5.length+ [[Cell.int .u8 (orI .u8 (IntKind.wrap .u8 t1) 128)]].length))
(goF E (aa L91) F98 0 m oU (pa t0 (nD .u64 t1 7) (t5++ [[Cell.int .u8 (orI .u8 (IntKind.wrap .u8 t1) 128)]]))) none)
(cond (cb (t5.length+ [[Cell.int .u8 (IntKind.wrap .u8 t1)]].length))
(cond (inB (t0.length:Int) (t0.length+1))
(cond (decide ((t0.length:Int)=(t0.length:Int)))
(cond (cb ((bA t0 (Int.toNat (t0.length:Int))).length+(t5++ [[Cell.int .u8 (IntKind.wrap .u8 t1)]]).length))
(some ([.one (.sl true 5 ((bA t0 (Int.toNat (t0.length:Int)))++(t5++ [[Cell.int .u8 (IntKind.wrap .u8 t1)]])))],[])) none) none) none) none)):=by kernel_rfl
noncomputable def AM :List AItem:=F76.at [.snd,(.jump 0)]
def zW (t0:RL)(t5:Int)(t6:Int):St:=⟨[(0,.or t0),(5,.one (.int .u64 t5)),(6,.oi t6)],[]⟩
theorem e76 (m:Nat)(x:RL):aj E (aa L98) (m+1) 76 [.or x] []=
(cond ((0:Int)==(x.length:Int))
(some ([.one (.int .u64 0),.oi 0,.oi 1],[]))
(cond (inB 0 x.length)
(cond (decide ((nr (rA x 0) 0)≥128))
(goF E (aa L98) F76 0 m AM (zW x (orI .u64 0 (iA .u64 (IntKind.wrap .u64 (eH .u8 (nr (rA x 0) 0) 128)) 0)) 1))
(cond ((nr (rA x 0) 0)==0)
(some ([.one (.int .u64 (orI .u64 0 (iA .u64 (IntKind.wrap .u64 (eH .u8 (nr (rA x 0) 0) 128)) 0))),.oi 1,.oi 0],[]))
(some ([.one (.int .u64 (orI .u64 0 (iA .u64 (IntKind.wrap .u64 (eH .u8 (nr (rA x 0) 0) 128)) 0))),.oi 1,.oi 0],[])))) none)):=by kernel_rfl
theorem zL (m:Nat)(t0:RL)(t5 t6:Int):goF E (aa L98) F76 0 (m+1) AM (zW t0 t5 t6)=
(cond (t6==(t0.length:Int))
(some ([.one (.int .u64 0),.oi 0,.oi 1],[]))
(cond (inB t6 t0.length)
(cond (t6==9)
(cond (decide ((nr (rA t0 (Int.toNat t6)) 0)>1))
(some ([.one (.int .u64 0),.oi 0,.oi 9],[]))
(cond (decide ((IntKind.wrap .i64 (7*t6))<0)) none
(cond (decide ((nr (rA t0 (Int.toNat t6)) 0)≥128))
(goF E (aa L98) F76 0 m AM (zW t0 (orI .u64 t5 (iA .u64 (IntKind.wrap .u64 (eH .u8 (nr (rA t0 (Int.toNat t6)) 0) 128)) (IntKind.wrap .i64 (7*t6)))) (IntKind.wrap .i64 (t6+1))))
(cond ((nr (rA t0 (Int.toNat t6)) 0)==0)
(cond (decide ((IntKind.wrap .i64 (t6+1))>1))
(some ([.one (.int .u64 0),.oi 0,.oi 2],[]))
(some ([.one (.int .u64 (orI .u64 t5 (iA .u64 (IntKind.wrap .u64 (eH .u8 (nr (rA t0 (Int.toNat t6)) 0) 128)) (IntKind.wrap .i64 (7*t6))))),.oi (IntKind.wrap .i64 (t6+1)),.oi 0],[])))
(some ([.one (.int .u64 (orI .u64 t5 (iA .u64 (IntKind.wrap .u64 (eH .u8 (nr (rA t0 (Int.toNat t6)) 0) 128)) (IntKind.wrap .i64 (7*t6))))),.oi (IntKind.wrap .i64 (t6+1)),.oi 0],[]))))))
(cond (decide ((IntKind.wrap .i64 (7*t6))<0)) none
(cond (decide ((nr (rA t0 (Int.toNat t6)) 0)≥128))
(goF E (aa L98) F76 0 m AM (zW t0 (orI .u64 t5 (iA .u64 (IntKind.wrap .u64 (eH .u8 (nr (rA t0 (Int.toNat t6)) 0) 128)) (IntKind.wrap .i64 (7*t6)))) (IntKind.wrap .i64 (t6+1))))
(cond ((nr (rA t0 (Int.toNat t6)) 0)==0)
(cond (decide ((IntKind.wrap .i64 (t6+1))>1))
(some ([.one (.int .u64 0),.oi 0,.oi 2],[]))
(some ([.one (.int .u64 (orI .u64 t5 (iA .u64 (IntKind.wrap .u64 (eH .u8 (nr (rA t0 (Int.toNat t6)) 0) 128)) (IntKind.wrap .i64 (7*t6))))),.oi (IntKind.wrap .i64 (t6+1)),.oi 0],[])))
(some ([.one (.int .u64 (orI .u64 t5 (iA .u64 (IntKind.wrap .u64 (eH .u8 (nr (rA t0 (Int.toNat t6)) 0) 128)) (IntKind.wrap .i64 (7*t6))))),.oi (IntKind.wrap .i64 (t6+1)),.oi 0],[])))))) none)):=by kernel_rfl
noncomputable def zy :List AItem:=F85.at [.snd,.snd,.fst,.snd,.sub,.head]
def AU (t0:RL)(t5:Int)(t6:Int):St:=⟨[(0,.or t0),(5,.one (.int .u64 t5)),(6,.oi t6)],[]⟩
theorem e85 (m:Nat)(x:RL):aj E (aa L76) (m+1) 85 [.or x] []=
(goF E (aa L76) F85 0 m zy (AU x 0 0)):=by kernel_rfl
theorem Dk (m:Nat)(t0:RL)(t5 t6:Int):goF E (aa L76) F85 0 (m+1) zy (AU t0 t5 t6)=
(cond (decide (t6<10))
(cond (t6==(t0.length:Int))
(some ([.one (.int .u64 0),.oi 0,.oi 1],[]))
(cond (t6==9)
(cond (inB t6 t0.length)
(cond (decide ((nr (rA t0 (Int.toNat t6)) 0)>1))
(some ([.one (.int .u64 0),.oi 0,.oi 9],[]))
(cond (inB t6 t0.length)
(cond (decide ((IntKind.wrap .u64 (IntKind.wrap .i64 (7*t6)))<0)) none
(cond (inB t6 t0.length)
(cond (decide ((nr (rA t0 (Int.toNat t6)) 0)<128))
(cond (inB t6 t0.length)
(cond ((nr (rA t0 (Int.toNat t6)) 0)==0)
(cond (decide (t6>0))
(some ([.one (.int .u64 0),.oi 0,.oi 2],[]))
(some ([.one (.int .u64 (orI .u64 t5 (iA .u64 (IntKind.wrap .u64 (Int.tmod (nr (rA t0 (Int.toNat t6)) 0) 128)) (IntKind.wrap .u64 (IntKind.wrap .i64 (7*t6)))))),.oi (IntKind.wrap .i64 (t6+1)),.oi 0],[])))
(some ([.one (.int .u64 (orI .u64 t5 (iA .u64 (IntKind.wrap .u64 (Int.tmod (nr (rA t0 (Int.toNat t6)) 0) 128)) (IntKind.wrap .u64 (IntKind.wrap .i64 (7*t6)))))),.oi (IntKind.wrap .i64 (t6+1)),.oi 0],[]))) none)
(goF E (aa L76) F85 0 m zy (AU t0 (orI .u64 t5 (iA .u64 (IntKind.wrap .u64 (Int.tmod (nr (rA t0 (Int.toNat t6)) 0) 128)) (IntKind.wrap .u64 (IntKind.wrap .i64 (7*t6))))) (IntKind.wrap .i64 (t6+1))))) none)) none)) none)
(cond (inB t6 t0.length)
(cond (decide ((IntKind.wrap .u64 (IntKind.wrap .i64 (7*t6)))<0)) none
(cond (inB t6 t0.length)
(cond (decide ((nr (rA t0 (Int.toNat t6)) 0)<128))
(cond (inB t6 t0.length)
(cond ((nr (rA t0 (Int.toNat t6)) 0)==0)
(cond (decide (t6>0))
(some ([.one (.int .u64 0),.oi 0,.oi 2],[]))
(some ([.one (.int .u64 (orI .u64 t5 (iA .u64 (IntKind.wrap .u64 (Int.tmod (nr (rA t0 (Int.toNat t6)) 0) 128)) (IntKind.wrap .u64 (IntKind.wrap .i64 (7*t6)))))),.oi (IntKind.wrap .i64 (t6+1)),.oi 0],[])))
(some ([.one (.int .u64 (orI .u64 t5 (iA .u64 (IntKind.wrap .u64 (Int.tmod (nr (rA t0 (Int.toNat t6)) 0) 128)) (IntKind.wrap .u64 (IntKind.wrap .i64 (7*t6)))))),.oi (IntKind.wrap .i64 (t6+1)),.oi 0],[]))) none)
(goF E (aa L76) F85 0 m zy (AU t0 (orI .u64 t5 (iA .u64 (IntKind.wrap .u64 (Int.tmod (nr (rA t0 (Int.toNat t6)) 0) 128)) (IntKind.wrap .u64 (IntKind.wrap .i64 (7*t6))))) (IntKind.wrap .i64 (t6+1))))) none)) none)))
(some ([.one (.int .u64 0),.oi 0,.oi 9],[]))):=by kernel_rfl
theorem Sm (m:Nat)(b:RL)(o e:Int):aj E (aa L85) (m+1) 134 [.one (.ptr 0 0)] [.var [.r b,.i o,.i e]]=
(cond (e !=0)
(some ([.oi 0],[.var [.r b,.i o,.i e]]))
(cond (inB o (b.length+1))
(cond (aI (ag b (Int.toNat o)))
(cond ((aD (ag b (Int.toNat o))).2.2 !=0)
(some ([.oi 0],[.var [.r b,.i o,.i (aD (ag b (Int.toNat o))).2.2]]))
(cond (decide ((aD (ag b (Int.toNat o))).1>2147483647))
(some ([.oi 0],[.var [.r b,.i o,.i 9]]))
(some ([.oi (IntKind.wrap .i64 (aD (ag b (Int.toNat o))).1)],[.var [.r b,.i (IntKind.wrap .i64 (o+(aD (ag b (Int.toNat o))).2.1)),.i e]])))) none) none)):=by kernel_rfl
noncomputable def xB :List AItem:=F122.at [.snd,.snd,.fst,.snd,.sub,.head]
def yD (t0:RL)(t5:RL)(t20:RL)(t21:Int)(t22:Int):St:=⟨[(0,.or t0),(5,.one (.sl true 3 t5)),(20,.one (.sl false 89 t20)),(21,.oi t21),(22,.oi t22)],[]⟩
noncomputable def yq :List AItem:=F122.at [.snd,.snd,.snd,.snd,.fst,.snd,.sub,.head]
def xx (t0:RL)(t8:RL)(t47:RL)(t48:Int)(t49:Int):St:=⟨[(0,.or t0),(8,.or t8),(47,.one (.sl false 3 t47)),(48,.oi t48),(49,.oi t49)],[]⟩
theorem S5 (m:Nat)(x:RL)(ap np:Int)(cp:RL):aj E (aa jx) (m+1) 122 [.or x,.agg [.i ap,.i np,.sl false 89 cp]] []=
(goF E (aa jx) F122 0 m xB (yD x [[Cell.int .i64 ap],[Cell.int .i64 np],[Cell.int .i64 (cp.length:Int)]] cp (cp.length:Int) 0)):=by kernel_rfl
theorem Gm (m:Nat)(t0 t5 t20:RL)(t21 t22:Int):goF E (aa jx) F122 0 (m+1) xB (yD t0 t5 t20 t21 t22)=
(cond (decide (t22<t21))
(cond (inB t22 t20.length)
(cond (cb (t5.length+ [[Cell.int .i64 (nr (rA t20 (Int.toNat t22)) 0)],[Cell.int .i64 (nr (rA t20 (Int.toNat t22)) 1)],[Cell.int .i64 (nr (rA t20 (Int.toNat t22)) 2)],[Cell.int .i64 (nr (rA t20 (Int.toNat t22)) 3)],[Cell.int .i64 (nr (rA t20 (Int.toNat t22)) 4)],[Cell.int .i64 (nr (rA t20 (Int.toNat t22)) 5)],[Cell.int .i64 (nr (rA t20 (Int.toNat t22)) 6)]].length))
(goF E (aa jx) F122 0 m xB (yD t0 (t5++ [[Cell.int .i64 (nr (rA t20 (Int.toNat t22)) 0)],[Cell.int .i64 (nr (rA t20 (Int.toNat t22)) 1)],[Cell.int .i64 (nr (rA t20 (Int.toNat t22)) 2)],[Cell.int .i64 (nr (rA t20 (Int.toNat t22)) 3)],[Cell.int .i64 (nr (rA t20 (Int.toNat t22)) 4)],[Cell.int .i64 (nr (rA t20 (Int.toNat t22)) 5)],[Cell.int .i64 (nr (rA t20 (Int.toNat t22)) 6)]]) t20 t21 (IntKind.wrap .i64 (t22+1)))) none) none)
(goF E (aa jx) F122 0 m yq (xx t0 ([]:RL) t5 (t5.length:Int) 0))):=by kernel_rfl
theorem Jr (m:Nat)(t0 t8 t47:RL)(t48 t49:Int):goF E (aa jx) F122 0 (m+1) yq (xx t0 t8 t47 t48 t49)=
(cond (decide (t49<t48))
(cond (inB t49 t47.length)
(cond (jo t8 (IntKind.wrap .u64 (nr (rA t47 (Int.toNat t49)) 0)))
(goF E (aa jx) F122 0 m yq (xx t0 (t8++bc (IntKind.wrap .u64 (nr (rA t47 (Int.toNat t49)) 0))) t47 t48 (IntKind.wrap .i64 (t49+1)))) none) none)
(cond (inB (t0.length:Int) (t0.length+1))
(cond (decide ((t0.length:Int)=(t0.length:Int)))
(cond (cb ((bA t0 (Int.toNat (t0.length:Int))).length+t8.length))
(some ([.one (.sl true 5 ((bA t0 (Int.toNat (t0.length:Int)))++t8))],[])) none) none) none)):=by kernel_rfl
noncomputable def mX :List AItem:=F122.at [.snd,.snd,.fst,.snd,.sub,.head]
def mJ (t0:RL)(t5:RL)(t20:RL)(t21:Int)(t22:Int):St:=⟨[(0,.one (.sl true 5 t0)),(5,.one (.sl true 3 t5)),(20,.one (.sl false 89 t20)),(21,.oi t21),(22,.oi t22)],[]⟩
noncomputable def mt :List AItem:=F122.at [.snd,.snd,.snd,.snd,.fst,.snd,.sub,.head]
def mP (t0:RL)(t8:RL)(t47:RL)(t48:Int)(t49:Int):St:=⟨[(0,.one (.sl true 5 t0)),(8,.or t8),(47,.one (.sl false 3 t47)),(48,.oi t48),(49,.oi t49)],[]⟩
theorem Kd (m:Nat)(ap np:Int)(cp:RL):aj E (aa jx) (m+1) 122 [.one (.nils),.agg [.i ap,.i np,.sl false 89 cp]] []=
(goF E (aa jx) F122 0 m mX (mJ ([]:RL) [[Cell.int .i64 ap],[Cell.int .i64 np],[Cell.int .i64 (cp.length:Int)]] cp (cp.length:Int) 0)):=by kernel_rfl
theorem vO (m:Nat)(t0 t5 t20:RL)(t21 t22:Int):goF E (aa jx) F122 0 (m+1) mX (mJ t0 t5 t20 t21 t22)=
(cond (decide (t22<t21))
(cond (inB t22 t20.length)
(cond (cb (t5.length+ [[Cell.int .i64 (nr (rA t20 (Int.toNat t22)) 0)],[Cell.int .i64 (nr (rA t20 (Int.toNat t22)) 1)],[Cell.int .i64 (nr (rA t20 (Int.toNat t22)) 2)],[Cell.int .i64 (nr (rA t20 (Int.toNat t22)) 3)],[Cell.int .i64 (nr (rA t20 (Int.toNat t22)) 4)],[Cell.int .i64 (nr (rA t20 (Int.toNat t22)) 5)],[Cell.int .i64 (nr (rA t20 (Int.toNat t22)) 6)]].length))
(goF E (aa jx) F122 0 m mX (mJ t0 (t5++ [[Cell.int .i64 (nr (rA t20 (Int.toNat t22)) 0)],[Cell.int .i64 (nr (rA t20 (Int.toNat t22)) 1)],[Cell.int .i64 (nr (rA t20 (Int.toNat t22)) 2)],[Cell.int .i64 (nr (rA t20 (Int.toNat t22)) 3)],[Cell.int .i64 (nr (rA t20 (Int.toNat t22)) 4)],[Cell.int .i64 (nr (rA t20 (Int.toNat t22)) 5)],[Cell.int .i64 (nr (rA t20 (Int.toNat t22)) 6)]]) t20 t21 (IntKind.wrap .i64 (t22+1)))) none) none)
(goF E (aa jx) F122 0 m mt (mP t0 ([]:RL) t5 (t5.length:Int) 0))):=by kernel_rfl
theorem vZ (m:Nat)(t0 t8 t47:RL)(t48 t49:Int):goF E (aa jx) F122 0 (m+1) mt (mP t0 t8 t47 t48 t49)=
(cond (decide (t49<t48))
(cond (inB t49 t47.length)
(cond (jo t8 (IntKind.wrap .u64 (nr (rA t47 (Int.toNat t49)) 0)))
(goF E (aa jx) F122 0 m mt (mP t0 (t8++bc (IntKind.wrap .u64 (nr (rA t47 (Int.toNat t49)) 0))) t47 t48 (IntKind.wrap .i64 (t49+1)))) none) none)
(cond (inB (t0.length:Int) (t0.length+1))
(cond (decide ((t0.length:Int)=(t0.length:Int)))
(cond (cb ((bA t0 (Int.toNat (t0.length:Int))).length+t8.length))
(some ([.one (.sl true 5 ((bA t0 (Int.toNat (t0.length:Int)))++t8))],[])) none) none) none)):=by kernel_rfl
noncomputable def mc :List AItem:=F116.at [.snd,.snd,.snd,.snd,.snd,.snd,.fst,.snd,.sub,.head]
def mh (t7:Int)(t8:Int)(b0:Int)(b0_1:Int)(b0_2:RL)(b1:RL)(b1_1:Int)(b1_2:Int)(b2:Int)(b2_1:Int)(b2_2:RL):St:=⟨[(2,.one (.ptr 0 0)),(5,.one (.ptr 1 0)),(6,.one (.ptr 2 0)),(7,.oi t7),(8,.oi t8)],[.var [.i b0,.i b0_1,.sl true 89 b0_2],.var [.r b1,.i b1_1,.i b1_2],.var [.i b2,.i b2_1,.sl true 89 b2_2]]⟩
theorem O8 (m:Nat)(x:RL):aj E (aa qc) (m+1) 116 [.or x] []=
(cond (aT x 0)
(cond (aT x (af x 0 0).2.1)
(cond (aT x (af x (af x 0 0).2.1 (af x 0 0).2.2).2.1)
(cond ((af x (af x (af x 0 0).2.1 (af x 0 0).2.2).2.1 (af x (af x 0 0).2.1 (af x 0 0).2.2).2.2).2.2==0)
(cond (decide ((af x (af x (af x 0 0).2.1 (af x 0 0).2.2).2.1 (af x (af x 0 0).2.1 (af x 0 0).2.2).2.2).1>6))
(goF E (aa qc) F116 0 m mc (mh (af x (af x (af x 0 0).2.1 (af x 0 0).2.2).2.1 (af x (af x 0 0).2.1 (af x 0 0).2.2).2.2).1 0 0 0 ([]:RL) x (af x (af x (af x 0 0).2.1 (af x 0 0).2.2).2.1 (af x (af x 0 0).2.1 (af x 0 0).2.2).2.2).2.1 3 (af x 0 0).1 (af x (af x 0 0).2.1 (af x 0 0).2.2).1 ([]:RL)))
(goF E (aa qc) F116 0 m mc (mh (af x (af x (af x 0 0).2.1 (af x 0 0).2.2).2.1 (af x (af x 0 0).2.1 (af x 0 0).2.2).2.2).1 0 0 0 ([]:RL) x (af x (af x (af x 0 0).2.1 (af x 0 0).2.2).2.1 (af x (af x 0 0).2.1 (af x 0 0).2.2).2.2).2.1 (af x (af x (af x 0 0).2.1 (af x 0 0).2.2).2.1 (af x (af x 0 0).2.1 (af x 0 0).2.2).2.2).2.2 (af x 0 0).1 (af x (af x 0 0).2.1 (af x 0 0).2.2).1 ([]:RL))))
(goF E (aa qc) F116 0 m mc (mh (af x (af x (af x 0 0).2.1 (af x 0 0).2.2).2.1 (af x (af x 0 0).2.1 (af x 0 0).2.2).2.2).1 0 0 0 ([]:RL) x (af x (af x (af x 0 0).2.1 (af x 0 0).2.2).2.1 (af x (af x 0 0).2.1 (af x 0 0).2.2).2.2).2.1 (af x (af x (af x 0 0).2.1 (af x 0 0).2.2).2.1 (af x (af x 0 0).2.1 (af x 0 0).2.2).2.2).2.2 (af x 0 0).1 (af x (af x 0 0).2.1 (af x 0 0).2.2).1 ([]:RL)))) none) none) none):=by kernel_rfl
theorem xg (m:Nat)(t7 t8 b0 b0_1:Int)(b0_2 b1:RL)(b1_1 b1_2 b2 b2_1:Int)(b2_2:RL):goF E (aa qc) F116 0 (m+1) mc (mh t7 t8 b0 b0_1 b0_2 b1 b1_1 b1_2 b2 b2_1 b2_2)=
 let z2:=af b1 (af b1 b1_1 b1_2).2.1 (af b1 b1_1 b1_2).2.2
 let z1:=af b1 (af b1 z2.2.1 z2.2.2).2.1 (af b1 z2.2.1 z2.2.2).2.2
 let z3:=af b1 (af b1 z1.2.1 z1.2.2).2.1 (af b1 z1.2.1 z1.2.2).2.2
(cond (decide (t8<t7))
(cond (b1_2==0)
(cond (aT b1 b1_1)
(cond (aT b1 (af b1 b1_1 b1_2).2.1)
(cond (aT b1 z2.2.1)
(cond (aT b1 (af b1 z2.2.1 z2.2.2).2.1)
(cond (aT b1 z1.2.1)
(cond (aT b1 (af b1 z1.2.1 z1.2.2).2.1)
(cond (aT b1 z3.2.1)
(cond (cb (b2_2.length+ [[Cell.int .i64 (af b1 b1_1 b1_2).1,Cell.int .i64 z2.1,Cell.int .i64 (af b1 z2.2.1 z2.2.2).1,Cell.int .i64 z1.1,Cell.int .i64 (af b1 z1.2.1 z1.2.2).1,Cell.int .i64 z3.1,Cell.int .i64 (af b1 z3.2.1 z3.2.2).1]].length))
(goF E (aa qc) F116 0 m mc (mh t7 (IntKind.wrap .i64 (t8+1)) b0 b0_1 b0_2 b1 (af b1 z3.2.1 z3.2.2).2.1 (af b1 z3.2.1 z3.2.2).2.2 b2 b2_1 (b2_2++ [[Cell.int .i64 (af b1 b1_1 b1_2).1,Cell.int .i64 z2.1,Cell.int .i64 (af b1 z2.2.1 z2.2.2).1,Cell.int .i64 z1.1,Cell.int .i64 (af b1 z1.2.1 z1.2.2).1,Cell.int .i64 z3.1,Cell.int .i64 (af b1 z3.2.1 z3.2.2).1]]))) none) none) none) none) none) none) none) none)
(cond (b1_2==0)
(cond (decide (b2_2.length<9223372036854775808))
(cond ((di b2 b2_1 b2_2) !=0)
(some ([.agg [.i 0,.i 0,.sl true 89 ([]:RL)],.oi 0,.oi (di b2 b2_1 b2_2)],[]))
(some ([.agg [.i b2,.i b2_1,.sl true 89 b2_2],.oi b1_1,.oi 0],[]))) none)
(cond (b1_2 !=0)
(some ([.agg [.i 0,.i 0,.sl true 89 ([]:RL)],.oi 0,.oi b1_2],[]))
(some ([.agg [.i b2,.i b2_1,.sl true 89 b2_2],.oi b1_1,.oi 0],[])))))
(cond (b1_2==0)
(cond (decide (b2_2.length<9223372036854775808))
(cond ((di b2 b2_1 b2_2) !=0)
(some ([.agg [.i 0,.i 0,.sl true 89 ([]:RL)],.oi 0,.oi (di b2 b2_1 b2_2)],[]))
(some ([.agg [.i b2,.i b2_1,.sl true 89 b2_2],.oi b1_1,.oi 0],[]))) none)
(cond (b1_2 !=0)
(some ([.agg [.i 0,.i 0,.sl true 89 ([]:RL)],.oi 0,.oi b1_2],[]))
(some ([.agg [.i b2,.i b2_1,.sl true 89 b2_2],.oi b1_1,.oi 0],[]))))):=by kernel_rfl
theorem e33 (m:Nat)(x:RL):aj E (aa Gh) (m+1) 33 [.or x] []=
(cond (aI x)
(cond ((aD x).2.2 !=0)
(some ([.oi 0,.oi 0,.oi (aD x).2.2],[]))
(cond (decide ((aD x).1>2147483647))
(some ([.oi 0,.oi 0,.oi 9],[]))
(some ([.oi (IntKind.wrap .i64 (aD x).1),.oi (aD x).2.1,.oi 0],[])))) none):=by kernel_rfl
noncomputable def Di :List AItem:=F34.at [.snd,.snd,.snd,.fst,.snd,.sub,.head]
def DT (t0:RL)(t1:Int)(t7:RL)(t8:Int)(t9:Int):St:=⟨[(0,.or t0),(1,.oi t1),(7,.one (.sl true 3 t7)),(8,.oi t8),(9,.oi t9)],[]⟩
theorem e34 (m:Nat)(x:RL)(c:Int):aj E (aa L33) (m+1) 34 [.or x,.oi c] []=
(goF E (aa L33) F34 0 m Di (DT x c ([]:RL) 0 0)):=by kernel_rfl
theorem Il (m:Nat)(t0:RL)(t1:Int)(t7:RL)(t8 t9:Int):goF E (aa L33) F34 0 (m+1) Di (DT t0 t1 t7 t8 t9)=
(cond (decide (t9<t1))
(cond (inB t8 (t0.length+1))
(cond (aI (ag t0 (Int.toNat t8)))
(cond ((am (ag t0 (Int.toNat t8))).2.2 !=0)
(some ([.one (.sl true 3 ([]:RL)),.oi 0,.oi (am (ag t0 (Int.toNat t8))).2.2],[]))
(cond (cb (t7.length+ [[Cell.int .i64 (am (ag t0 (Int.toNat t8))).1]].length))
(goF E (aa L33) F34 0 m Di (DT t0 t1 (t7++ [[Cell.int .i64 (am (ag t0 (Int.toNat t8))).1]]) (IntKind.wrap .i64 (t8+(am (ag t0 (Int.toNat t8))).2.1)) (IntKind.wrap .i64 (t9+1)))) none)) none) none)
(some ([.one (.sl true 3 t7),.oi t8,.oi 0],[]))):=by kernel_rfl
noncomputable def yb :List AItem:=F119.at [.snd,.snd,.snd,.snd,.snd,.fst,.snd,.sub,.head]
def yt (t0:RL)(t5:RL)(t6:Int)(t9:Int)(b0:Int)(b0_1:Int)(b0_2:RL)(b1:Int)(b1_1:Int)(b1_2:RL):St:=⟨[(0,.or t0),(2,.one (.ptr 0 0)),(5,.one (.sl false 3 t5)),(6,.oi t6),(8,.one (.ptr 1 0)),(9,.oi t9)],[.var [.i b0,.i b0_1,.sl true 89 b0_2],.var [.i b1,.i b1_1,.sl true 89 b1_2]]⟩
theorem N5 (m:Nat)(x:RL):aj E (aa L34) (m+1) 119 [.or x] []=
(cond (aI x&&decide (3≤1000))
(cond ((ai x 3).2.2 !=0)
(some ([.agg [.i 0,.i 0,.sl true 89 ([]:RL)],.oi 0,.oi (ai x 3).2.2],[]))
(cond (inB 2 (ai x 3).1.length)
(cond (decide ((nr (rA (ai x 3).1 2) 0)>6))
(some ([.agg [.i 0,.i 0,.sl true 89 ([]:RL)],.oi 0,.oi 3],[]))
(cond (inB 0 (ai x 3).1.length)
(cond (inB 1 (ai x 3).1.length)
(goF E (aa L34) F119 0 m yb (yt x (ai x 3).1 (ai x 3).2.1 0 0 0 ([]:RL) (nr (rA (ai x 3).1 0) 0) (nr (rA (ai x 3).1 1) 0) ([]:RL))) none) none)) none)) none):=by kernel_rfl
theorem BB (m:Nat)(t0 t5:RL)(t6 t9 b0 b0_1:Int)(b0_2:RL)(b1 b1_1:Int)(b1_2:RL):goF E (aa L34) F119 0 (m+1) yb (yt t0 t5 t6 t9 b0 b0_1 b0_2 b1 b1_1 b1_2)=
(cond (inB 2 t5.length)
(cond (decide (t9<(nr (rA t5 2) 0)))
(cond (inB t6 (t0.length+1))
(cond (aI (ag t0 (Int.toNat t6))&&decide (7≤1000))
(cond ((ai (ag t0 (Int.toNat t6)) 7).2.2 !=0)
(some ([.agg [.i 0,.i 0,.sl true 89 ([]:RL)],.oi 0,.oi (ai (ag t0 (Int.toNat t6)) 7).2.2],[]))
(cond (inB 0 (ai (ag t0 (Int.toNat t6)) 7).1.length)
(cond (inB 1 (ai (ag t0 (Int.toNat t6)) 7).1.length)
(cond (inB 2 (ai (ag t0 (Int.toNat t6)) 7).1.length)
(cond (inB 3 (ai (ag t0 (Int.toNat t6)) 7).1.length)
(cond (inB 4 (ai (ag t0 (Int.toNat t6)) 7).1.length)
(cond (inB 5 (ai (ag t0 (Int.toNat t6)) 7).1.length)
(cond (inB 6 (ai (ag t0 (Int.toNat t6)) 7).1.length)
(cond (cb (b1_2.length+ [[Cell.int .i64 (nr (rA (ai (ag t0 (Int.toNat t6)) 7).1 0) 0),Cell.int .i64 (nr (rA (ai (ag t0 (Int.toNat t6)) 7).1 1) 0),Cell.int .i64 (nr (rA (ai (ag t0 (Int.toNat t6)) 7).1 2) 0),Cell.int .i64 (nr (rA (ai (ag t0 (Int.toNat t6)) 7).1 3) 0),Cell.int .i64 (nr (rA (ai (ag t0 (Int.toNat t6)) 7).1 4) 0),Cell.int .i64 (nr (rA (ai (ag t0 (Int.toNat t6)) 7).1 5) 0),Cell.int .i64 (nr (rA (ai (ag t0 (Int.toNat t6)) 7).1 6) 0)]].length))
(goF E (aa L34) F119 0 m yb (yt t0 t5 (IntKind.wrap .i64 (t6+(ai (ag t0 (Int.toNat t6)) 7).2.1)) (IntKind.wrap .i64 (t9+1)) b0 b0_1 b0_2 b1 b1_1 (b1_2++ [[Cell.int .i64 (nr (rA (ai (ag t0 (Int.toNat t6)) 7).1 0) 0),Cell.int .i64 (nr (rA (ai (ag t0 (Int.toNat t6)) 7).1 1) 0),Cell.int .i64 (nr (rA (ai (ag t0 (Int.toNat t6)) 7).1 2) 0),Cell.int .i64 (nr (rA (ai (ag t0 (Int.toNat t6)) 7).1 3) 0),Cell.int .i64 (nr (rA (ai (ag t0 (Int.toNat t6)) 7).1 4) 0),Cell.int .i64 (nr (rA (ai (ag t0 (Int.toNat t6)) 7).1 5) 0),Cell.int .i64 (nr (rA (ai (ag t0 (Int.toNat t6)) 7).1 6) 0)]]))) none) none) none) none) none) none) none) none)) none) none)
(cond (decide (b1_2.length<9223372036854775808))
(cond ((di b1 b1_1 b1_2) !=0)
(some ([.agg [.i 0,.i 0,.sl true 89 ([]:RL)],.oi 0,.oi (di b1 b1_1 b1_2)],[]))
(some ([.agg [.i b1,.i b1_1,.sl true 89 b1_2],.oi t6,.oi 0],[]))) none)) none):=by kernel_rfl
theorem e41 (m:Nat)(n k:Int):aj E (aa IO) (m+1) 41 [.oi n,.oi k] []=
(cond (decide (k<1))
(some ([.oi 0],[]))
(cond (decide (k=0)) none
(cond (decide (k=0)) none
(some ([.oi (Int.tmod (IntKind.wrap .i64 ((Int.tmod n k)+k)) k)],[]))))):=by kernel_rfl
noncomputable def DM :List AItem:=F42.at [.snd,.snd,.fst,.snd,.sub,.head]
def DY (t1:Int)(t2:Int)(t7:Int)(t8:Int):St:=⟨[(1,.oi t1),(2,.oi t2),(7,.oi t7),(8,.oi t8)],[]⟩
theorem e42 (m:Nat)(n b j:Int):aj E (aa L41) (m+1) 42 [.oi n,.oi b,.oi j] []=
(cond (decide (1099511627776≤4611686018427387904))
(goF E (aa L41) F42 0 m DM (DY b j (aK n 1099511627776) 0)) none):=by kernel_rfl
theorem Mt (m:Nat)(t1 t2 t7 t8:Int):goF E (aa L41) F42 0 (m+1) DM (DY t1 t2 t7 t8)=
(cond (decide (t8<t2))
(cond (decide (t1=0)) none
(goF E (aa L41) F42 0 m DM (DY t1 t2 (IntKind.wrap .i64 (Int.tdiv t7 t1)) (IntKind.wrap .i64 (t8+1)))))
(cond (decide (t1=0)) none
(some ([.oi (Int.tmod t7 t1)],[])))):=by kernel_rfl
theorem e48 (m:Nat)(l:RL)(j:Int):aj E (aa L42) (m+1) 48 [.one (.sl false 3 l),.oi j] []=
(cond ((l.length:Int)==0)
(some ([.oi 0],[]))
(cond (decide ((l.length:Int)≤4611686018427387904))
(cond (inB (aK j (l.length:Int)) l.length)
(some ([.oi (nr (rA l (Int.toNat (aK j (l.length:Int)))) 0)],[])) none) none)):=by kernel_rfl
theorem e96 (m:Nat)(n:Int):aj E (aa L48) (m+1) 96 [.oi n] []=
(cond (decide (2≤8)&&decide (0≤9223372036854775807))
(cond ((ad n 8 0)==1)
(cond ((ad n 8 0)==1)
(some ([.agg [.i 2,.i 0,.i 0]],[]))
(cond ((ad n 8 0)==3)
(cond (decide (2≤4)&&decide (2≤9223372036854775807))
(some ([.agg [.i 3,.i (IntKind.wrap .i64 (1+(ad n 4 2))),.i 0]],[])) none)
(cond ((ad n 8 0)==4)
(cond (decide (2≤2)&&decide (3≤9223372036854775807))
(some ([.agg [.i 4,.i 0,.i (ad n 2 3)]],[])) none)
(some ([.agg [.i 1,.i 0,.i 0]],[])))))
(cond ((ad n 8 0)==2)
(some ([.agg [.i 2,.i 0,.i 0]],[]))
(cond ((ad n 8 0)==3)
(cond (decide (2≤4)&&decide (2≤9223372036854775807))
(some ([.agg [.i 3,.i (IntKind.wrap .i64 (1+(ad n 4 2))),.i 0]],[])) none)
(cond ((ad n 8 0)==4)
(cond (decide (2≤2)&&decide (3≤9223372036854775807))
(some ([.agg [.i 4,.i 0,.i (ad n 2 3)]],[])) none)
(some ([.agg [.i 1,.i 0,.i 0]],[])))))) none):=by kernel_rfl
theorem e49 (m:Nat)(n:Int):aj E (aa L96) (m+1) 49 [.oi n] []=
 let z1:=jk (IntKind.wrap .i64 (Int.tdiv (aK n 1099511627776) 64))
 let z2:=IntKind.wrap .i64 (1+(ad n 8 1))
 let z3:=IntKind.wrap .i64 (1+(ad n 2 9))
 let z4:=IntKind.wrap .i64 (1+(ad n 4 3))
(cond (decide (2≤8)&&decide (1≤9223372036854775807))
(cond (decide (2≤8)&&decide (0≤9223372036854775807))
(cond ((ad n 8 0)==0)
(cond ((ad n 8 0)==0)
(cond (decide (2≤4)&&decide (3≤9223372036854775807))
(some ([.agg [.i 1,.i z2,.i z4,.i 0,.i 0,.i 0,.i 0]],[])) none)
(cond ((ad n 8 0)==3)
(cond ((ad n 8 0)==3)
(some ([.agg [.i 2,.i z2,.i 0,.i 0,.i 0,.i 0,.i 0]],[]))
(cond ((ad n 8 0)==5)
(cond (decide (2≤4)&&decide (3≤9223372036854775807))
(cond (decide (2≤2)&&decide (9≤9223372036854775807))
(some ([.agg [.i 3,.i z2,.i z4,.i z3,.i 0,.i 0,.i 0]],[])) none) none)
(cond ((ad n 8 0)==6)
(cond (decide (2≤2)&&decide (9≤9223372036854775807))
(cond (decide (1099511627776≤4611686018427387904))
(some ([.agg [.i 4,.i 0,.i 0,.i z3,.i z1.1,.i z1.2.1,.i z1.2.2]],[])) none) none)
(cond (decide (2≤12)&&decide (1≤9223372036854775807))
(some ([.agg [.i 1,.i (IntKind.wrap .i64 (1+(ad n 12 1))),.i 1,.i 0,.i 0,.i 0,.i 0]],[])) none))))
(cond ((ad n 8 0)==4)
(some ([.agg [.i 2,.i z2,.i 0,.i 0,.i 0,.i 0,.i 0]],[]))
(cond ((ad n 8 0)==5)
(cond (decide (2≤4)&&decide (3≤9223372036854775807))
(cond (decide (2≤2)&&decide (9≤9223372036854775807))
(some ([.agg [.i 3,.i z2,.i z4,.i z3,.i 0,.i 0,.i 0]],[])) none) none)
(cond ((ad n 8 0)==6)
(cond (decide (2≤2)&&decide (9≤9223372036854775807))
(cond (decide (1099511627776≤4611686018427387904))
(some ([.agg [.i 4,.i 0,.i 0,.i z3,.i z1.1,.i z1.2.1,.i z1.2.2]],[])) none) none)
(cond (decide (2≤12)&&decide (1≤9223372036854775807))
(some ([.agg [.i 1,.i (IntKind.wrap .i64 (1+(ad n 12 1))),.i 1,.i 0,.i 0,.i 0,.i 0]],[])) none))))))
(cond ((ad n 8 0)==1)
(cond ((ad n 8 0)==1)
(cond (decide (2≤4)&&decide (3≤9223372036854775807))
(some ([.agg [.i 1,.i z2,.i z4,.i 0,.i 0,.i 0,.i 0]],[])) none)
(cond ((ad n 8 0)==3)
(cond ((ad n 8 0)==3)
(some ([.agg [.i 2,.i z2,.i 0,.i 0,.i 0,.i 0,.i 0]],[]))
(cond ((ad n 8 0)==5)
(cond (decide (2≤4)&&decide (3≤9223372036854775807))
(cond (decide (2≤2)&&decide (9≤9223372036854775807))
(some ([.agg [.i 3,.i z2,.i z4,.i z3,.i 0,.i 0,.i 0]],[])) none) none)
(cond ((ad n 8 0)==6)
(cond (decide (2≤2)&&decide (9≤9223372036854775807))
(cond (decide (1099511627776≤4611686018427387904))
(some ([.agg [.i 4,.i 0,.i 0,.i z3,.i z1.1,.i z1.2.1,.i z1.2.2]],[])) none) none)
(cond (decide (2≤12)&&decide (1≤9223372036854775807))
(some ([.agg [.i 1,.i (IntKind.wrap .i64 (1+(ad n 12 1))),.i 1,.i 0,.i 0,.i 0,.i 0]],[])) none))))
(cond ((ad n 8 0)==4)
(some ([.agg [.i 2,.i z2,.i 0,.i 0,.i 0,.i 0,.i 0]],[]))
(cond ((ad n 8 0)==5)
(cond (decide (2≤4)&&decide (3≤9223372036854775807))
(cond (decide (2≤2)&&decide (9≤9223372036854775807))
(some ([.agg [.i 3,.i z2,.i z4,.i z3,.i 0,.i 0,.i 0]],[])) none) none)
(cond ((ad n 8 0)==6)
(cond (decide (2≤2)&&decide (9≤9223372036854775807))
(cond (decide (1099511627776≤4611686018427387904))
(some ([.agg [.i 4,.i 0,.i 0,.i z3,.i z1.1,.i z1.2.1,.i z1.2.2]],[])) none) none)
(cond (decide (2≤12)&&decide (1≤9223372036854775807))
(some ([.agg [.i 1,.i (IntKind.wrap .i64 (1+(ad n 12 1))),.i 1,.i 0,.i 0,.i 0,.i 0]],[])) none))))))
(cond ((ad n 8 0)==2)
(cond (decide (2≤4)&&decide (3≤9223372036854775807))
(some ([.agg [.i 1,.i z2,.i z4,.i 0,.i 0,.i 0,.i 0]],[])) none)
(cond ((ad n 8 0)==3)
(cond ((ad n 8 0)==3)
(some ([.agg [.i 2,.i z2,.i 0,.i 0,.i 0,.i 0,.i 0]],[]))
(cond ((ad n 8 0)==5)
(cond (decide (2≤4)&&decide (3≤9223372036854775807))
(cond (decide (2≤2)&&decide (9≤9223372036854775807))
(some ([.agg [.i 3,.i z2,.i z4,.i z3,.i 0,.i 0,.i 0]],[])) none) none)
(cond ((ad n 8 0)==6)
(cond (decide (2≤2)&&decide (9≤9223372036854775807))
(cond (decide (1099511627776≤4611686018427387904))
(some ([.agg [.i 4,.i 0,.i 0,.i z3,.i z1.1,.i z1.2.1,.i z1.2.2]],[])) none) none)
(cond (decide (2≤12)&&decide (1≤9223372036854775807))
(some ([.agg [.i 1,.i (IntKind.wrap .i64 (1+(ad n 12 1))),.i 1,.i 0,.i 0,.i 0,.i 0]],[])) none))))
(cond ((ad n 8 0)==4)
(some ([.agg [.i 2,.i z2,.i 0,.i 0,.i 0,.i 0,.i 0]],[]))
(cond ((ad n 8 0)==5)
(cond (decide (2≤4)&&decide (3≤9223372036854775807))
(cond (decide (2≤2)&&decide (9≤9223372036854775807))
(some ([.agg [.i 3,.i z2,.i z4,.i z3,.i 0,.i 0,.i 0]],[])) none) none)
(cond ((ad n 8 0)==6)
(cond (decide (2≤2)&&decide (9≤9223372036854775807))
(cond (decide (1099511627776≤4611686018427387904))
(some ([.agg [.i 4,.i 0,.i 0,.i z3,.i z1.1,.i z1.2.1,.i z1.2.2]],[])) none) none)
(cond (decide (2≤12)&&decide (1≤9223372036854775807))
(some ([.agg [.i 1,.i (IntKind.wrap .i64 (1+(ad n 12 1))),.i 1,.i 0,.i 0,.i 0,.i 0]],[])) none)))))))) none) none):=by kernel_rfl
noncomputable def AX :List AItem:=F14.at [.snd,.snd,.snd,.fst,.snd,.sub,.head]
def zj (t0:RL)(t3:RL)(t4:Int)(t5:Int):St:=⟨[(0,.one (.sl false 3 t0)),(3,.one (.sl true 93 t3)),(4,.oi t4),(5,.oi t5)],[]⟩
noncomputable def tl :List AItem:=F14.at [.snd,.snd,.snd,.fst,.snd,.sub,.body,.snd,.fst,.sub,.snd,.sub,.head]
def Ae (t0:RL)(t3:RL)(t4:Int)(t5:Int)(t6:Int):St:=⟨[(0,.one (.sl false 3 t0)),(3,.one (.sl true 93 t3)),(4,.oi t4),(5,.oi t5),(6,.oi t6)],[]⟩
theorem e14 (m:Nat)(l:RL):aj E (aa L49) (m+1) 14 [.one (.sl false 3 l)] []=
(goF E (aa L49) F14 0 m AX (zj l ([]:RL) 3 0)):=by kernel_rfl
theorem MJ (m:Nat)(t0 t3:RL)(t4 t5:Int):goF E (aa L49) F14 0 (m+1) AX (zj t0 t3 t4 t5)=
(cond (decide (t5<3))
(goF E (aa L49) F14 0 m tl (Ae t0 t3 t4 t5 0))
(some ([.one (.sl true 93 t3)],[]))):=by kernel_rfl
theorem MP (m:Nat)(t0 t3:RL)(t4 t5 t6:Int):goF E (aa L49) F14 0 (m+1) tl (Ae t0 t3 t4 t5 t6)=
 let z1:=gAt t0 (IntKind.wrap .i64 (t4+1))
 let z2:=Ae t0 (t3++ [[Cell.int .i64 (IntKind.wrap .i64 (201+t5)),Cell.int .i64 (IntKind.wrap .i64 (t6+1)),Cell.slice 89 ([[Cell.int .i64 (gCh (gAt t0 t4) 0),Cell.int .i64 (gCh (gAt t0 t4) 1),Cell.int .i64 (gCh (gAt t0 t4) 2),Cell.int .i64 (gCh (gAt t0 t4) 3),Cell.int .i64 (gCh (gAt t0 t4) 4),Cell.int .i64 (gCh (gAt t0 t4) 5),Cell.int .i64 (gCh (gAt t0 t4) 6)]]++ [[Cell.int .i64 (gCh z1 0),Cell.int .i64 (gCh z1 1),Cell.int .i64 (gCh z1 2),Cell.int .i64 (gCh z1 3),Cell.int .i64 (gCh z1 4),Cell.int .i64 (gCh z1 5),Cell.int .i64 (gCh z1 6)]])]]) (IntKind.wrap .i64 (t4+2)) t5 (IntKind.wrap .i64 (t6+1))
 let z3:=cb (t3.length+ [[Cell.int .i64 (IntKind.wrap .i64 (201+t5)),Cell.int .i64 (IntKind.wrap .i64 (t6+1)),Cell.slice 89 ([[Cell.int .i64 (gCh (gAt t0 t4) 0),Cell.int .i64 (gCh (gAt t0 t4) 1),Cell.int .i64 (gCh (gAt t0 t4) 2),Cell.int .i64 (gCh (gAt t0 t4) 3),Cell.int .i64 (gCh (gAt t0 t4) 4),Cell.int .i64 (gCh (gAt t0 t4) 5),Cell.int .i64 (gCh (gAt t0 t4) 6)]]++ [[Cell.int .i64 (gCh z1 0),Cell.int .i64 (gCh z1 1),Cell.int .i64 (gCh z1 2),Cell.int .i64 (gCh z1 3),Cell.int .i64 (gCh z1 4),Cell.int .i64 (gCh z1 5),Cell.int .i64 (gCh z1 6)]])]].length)
 let z4:=Ae t0 (t3++ [[Cell.int .i64 (IntKind.wrap .i64 (201+t5)),Cell.int .i64 (IntKind.wrap .i64 (t6+1)),Cell.slice 89 [[Cell.int .i64 (gCh (gAt t0 t4) 0),Cell.int .i64 (gCh (gAt t0 t4) 1),Cell.int .i64 (gCh (gAt t0 t4) 2),Cell.int .i64 (gCh (gAt t0 t4) 3),Cell.int .i64 (gCh (gAt t0 t4) 4),Cell.int .i64 (gCh (gAt t0 t4) 5),Cell.int .i64 (gCh (gAt t0 t4) 6)]]]]) (IntKind.wrap .i64 (t4+2)) t5 (IntKind.wrap .i64 (t6+1))
 let z5:=cb (t3.length+ [[Cell.int .i64 (IntKind.wrap .i64 (201+t5)),Cell.int .i64 (IntKind.wrap .i64 (t6+1)),Cell.slice 89 [[Cell.int .i64 (gCh (gAt t0 t4) 0),Cell.int .i64 (gCh (gAt t0 t4) 1),Cell.int .i64 (gCh (gAt t0 t4) 2),Cell.int .i64 (gCh (gAt t0 t4) 3),Cell.int .i64 (gCh (gAt t0 t4) 4),Cell.int .i64 (gCh (gAt t0 t4) 5),Cell.int .i64 (gCh (gAt t0 t4) 6)]]]].length)
 let z6:=rA [[Cell.int .i64 (gCh (gAt t0 t4) 0),Cell.int .i64 (gCh (gAt t0 t4) 1),Cell.int .i64 (gCh (gAt t0 t4) 2),Cell.int .i64 (gCh (gAt t0 t4) 3),Cell.int .i64 (gCh (gAt t0 t4) 4),Cell.int .i64 (gCh (gAt t0 t4) 5),Cell.int .i64 (gCh (gAt t0 t4) 6)]] 0
(cond (decide (t0.length<4611686018427387904))
(cond (decide (2≤4)&&decide (0≤9223372036854775807))
(cond (decide (t6<(ad (gAt t0 t5) 4 0)))
(cond (decide (t0.length<4611686018427387904))
(cond (decide (t0.length<4611686018427387904))
(cond (decide (t0.length<4611686018427387904))
(cond (decide (2≤2)&&decide (12≤9223372036854775807))
(cond ((ad (gAt t0 t4) 2 12)==1)
(cond ((gCh z1 0) !=(nr z6 0))
(cond z3
(goF E (aa L49) F14 0 m tl z2) none)
(cond ((gCh z1 1) !=(nr z6 1))
(cond z3
(goF E (aa L49) F14 0 m tl z2) none)
(cond z5
(goF E (aa L49) F14 0 m tl z4) none)))
(cond z5
(goF E (aa L49) F14 0 m tl z4) none)) none) none) none) none)
(goF E (aa L49) F14 0 m AX (zj t0 t3 t4 (IntKind.wrap .i64 (t5+1))))) none) none):=by kernel_rfl
noncomputable def uf :List AItem:=F61.at [.snd,.fst,.snd,.sub,.head]
def sj (t0:RL)(t6:RL)(t7:Int)(t8:Int):St:=⟨[(0,.os t0),(6,.os t6),(7,.oi t7),(8,.oi t8)],[]⟩
theorem e61 (m:Nat)(c:RL):aj E (aa L14) (m+1) 61 [.os c] []=
(goF E (aa L14) F61 0 m uf (sj c c (c.length:Int) 0)):=by kernel_rfl
theorem MZ (m:Nat)(t0 t6:RL)(t7 t8:Int):goF E (aa L14) F61 0 (m+1) uf (sj t0 t6 t7 t8)=
(cond (decide (t8<t7))
(cond (inB t8 t6.length)
(cond (decide ((nl (rA t6 (Int.toNat t8)) 2).length<9223372036854775808))
(cond ((di (nr (rA t6 (Int.toNat t8)) 0) (nr (rA t6 (Int.toNat t8)) 1) (nl (rA t6 (Int.toNat t8)) 2)) !=0)
(some ([.oi (di (nr (rA t6 (Int.toNat t8)) 0) (nr (rA t6 (Int.toNat t8)) 1) (nl (rA t6 (Int.toNat t8)) 2))],[]))
(cond (decide (t8>0))
(cond (inB (IntKind.wrap .i64 (t8 - 1)) t0.length)
(cond (decide ((km (nr (rA t6 (Int.toNat t8)) 0) (nr (rA t6 (Int.toNat t8)) 1) (nr (rA t0 (Int.toNat (IntKind.wrap .i64 (t8 - 1)))) 0) (nr (rA t0 (Int.toNat (IntKind.wrap .i64 (t8 - 1)))) 1))≤0))
(some ([.oi 7],[]))
(cond (decide ((nr (rA t6 (Int.toNat t8)) 1)>1))
(cond (t8==0)
(some ([.oi 8],[]))
(cond (inB (IntKind.wrap .i64 (t8 - 1)) t0.length)
(cond ((nr (rA t0 (Int.toNat (IntKind.wrap .i64 (t8 - 1)))) 0) !=(nr (rA t6 (Int.toNat t8)) 0))
(some ([.oi 8],[]))
(cond (inB (IntKind.wrap .i64 (t8 - 1)) t0.length)
(cond ((nr (rA t0 (Int.toNat (IntKind.wrap .i64 (t8 - 1)))) 1) !=(IntKind.wrap .i64 ((nr (rA t6 (Int.toNat t8)) 1) - 1)))
(some ([.oi 8],[]))
(goF E (aa L14) F61 0 m uf (sj t0 t6 t7 (IntKind.wrap .i64 (t8+1))))) none)) none))
(goF E (aa L14) F61 0 m uf (sj t0 t6 t7 (IntKind.wrap .i64 (t8+1)))))) none)
(cond (decide ((nr (rA t6 (Int.toNat t8)) 1)>1))
(cond (t8==0)
(some ([.oi 8],[]))
(cond (inB (IntKind.wrap .i64 (t8 - 1)) t0.length)
(cond ((nr (rA t0 (Int.toNat (IntKind.wrap .i64 (t8 - 1)))) 0) !=(nr (rA t6 (Int.toNat t8)) 0))
(some ([.oi 8],[]))
(cond (inB (IntKind.wrap .i64 (t8 - 1)) t0.length)
(cond ((nr (rA t0 (Int.toNat (IntKind.wrap .i64 (t8 - 1)))) 1) !=(IntKind.wrap .i64 ((nr (rA t6 (Int.toNat t8)) 1) - 1)))
(some ([.oi 8],[]))
(goF E (aa L14) F61 0 m uf (sj t0 t6 t7 (IntKind.wrap .i64 (t8+1))))) none)) none))
(goF E (aa L14) F61 0 m uf (sj t0 t6 t7 (IntKind.wrap .i64 (t8+1))))))) none) none)
(some ([.oi 0],[]))):=by kernel_rfl
noncomputable def tg :List AItem:=F70.at [.snd,.fst,.snd,.sub,.head]
def uG (t0:RL)(t3:Int):St:=⟨[(0,.os t0),(3,.oi t3)],[]⟩
theorem e70 (m:Nat)(c:RL):aj E (aa L61) (m+1) 70 [.os c] []=
(goF E (aa L61) F70 0 m tg (uG c 0)):=by kernel_rfl
theorem MW (m:Nat)(t0:RL)(t3:Int):goF E (aa L61) F70 0 (m+1) tg (uG t0 t3)=
(cond (decide (t3<(t0.length:Int)))
(cond (inB t3 t0.length)
(cond (decide ((nl (rA t0 (Int.toNat t3)) 2).length<9223372036854775808))
(cond ((di (nr (rA t0 (Int.toNat t3)) 0) (nr (rA t0 (Int.toNat t3)) 1) (nl (rA t0 (Int.toNat t3)) 2)) !=0)
(some ([.oi (di (nr (rA t0 (Int.toNat t3)) 0) (nr (rA t0 (Int.toNat t3)) 1) (nl (rA t0 (Int.toNat t3)) 2))],[]))
(cond (decide (t3>0))
(cond (inB (IntKind.wrap .i64 (t3 - 1)) t0.length)
(cond (inB t3 t0.length)
(cond (decide ((km (nr (rA t0 (Int.toNat (IntKind.wrap .i64 (t3 - 1)))) 0) (nr (rA t0 (Int.toNat (IntKind.wrap .i64 (t3 - 1)))) 1) (nr (rA t0 (Int.toNat t3)) 0) (nr (rA t0 (Int.toNat t3)) 1))≥0))
(some ([.oi 7],[]))
(cond (inB t3 t0.length)
(cond (decide ((nr (rA t0 (Int.toNat t3)) 1)>1))
(cond (t3==0)
(some ([.oi 8],[]))
(cond (inB (IntKind.wrap .i64 (t3 - 1)) t0.length)
(cond (inB t3 t0.length)
(cond ((nr (rA t0 (Int.toNat (IntKind.wrap .i64 (t3 - 1)))) 0) !=(nr (rA t0 (Int.toNat t3)) 0))
(some ([.oi 8],[]))
(cond (inB (IntKind.wrap .i64 (t3 - 1)) t0.length)
(cond (inB t3 t0.length)
(cond ((nr (rA t0 (Int.toNat (IntKind.wrap .i64 (t3 - 1)))) 1) !=(IntKind.wrap .i64 ((nr (rA t0 (Int.toNat t3)) 1) - 1)))
(some ([.oi 8],[]))
(goF E (aa L61) F70 0 m tg (uG t0 (IntKind.wrap .i64 (t3+1))))) none) none)) none) none))
(goF E (aa L61) F70 0 m tg (uG t0 (IntKind.wrap .i64 (t3+1))))) none)) none) none)
(cond (inB t3 t0.length)
(cond (decide ((nr (rA t0 (Int.toNat t3)) 1)>1))
(cond (t3==0)
(some ([.oi 8],[]))
(cond (inB (IntKind.wrap .i64 (t3 - 1)) t0.length)
(cond (inB t3 t0.length)
(cond ((nr (rA t0 (Int.toNat (IntKind.wrap .i64 (t3 - 1)))) 0) !=(nr (rA t0 (Int.toNat t3)) 0))
(some ([.oi 8],[]))
(cond (inB (IntKind.wrap .i64 (t3 - 1)) t0.length)
(cond (inB t3 t0.length)
(cond ((nr (rA t0 (Int.toNat (IntKind.wrap .i64 (t3 - 1)))) 1) !=(IntKind.wrap .i64 ((nr (rA t0 (Int.toNat t3)) 1) - 1)))
(some ([.oi 8],[]))
(goF E (aa L61) F70 0 m tg (uG t0 (IntKind.wrap .i64 (t3+1))))) none) none)) none) none))
(goF E (aa L61) F70 0 m tg (uG t0 (IntKind.wrap .i64 (t3+1))))) none))) none) none)
(some ([.oi 0],[]))):=by kernel_rfl
noncomputable def Dy :List AItem:=F38.at [.snd,.snd,.fst,.snd,.sub,.head]
def Ew (t0:RL)(t1:RL)(t5:Int):St:=⟨[(0,.os t0),(1,.os t1),(5,.oi t5)],[]⟩
theorem e38 (m:Nat)(c d:RL):aj E (aa L70) (m+1) 38 [.os c,.os d] []=
(cond ((c.length:Int) !=(d.length:Int))
(some ([.ob false],[]))
(goF E (aa L70) F38 0 m Dy (Ew c d 0))):=by kernel_rfl
theorem Mn (m:Nat)(t0 t1:RL)(t5:Int):goF E (aa L70) F38 0 (m+1) Dy (Ew t0 t1 t5)=
(cond (decide (t5<(t0.length:Int)))
(cond (inB t5 t0.length)
(cond (inB t5 t1.length)
(cond (decide ((nl (rA t0 (Int.toNat t5)) 2).length<9223372036854775808))
(cond (!(eqP (nr (rA t0 (Int.toNat t5)) 0) (nr (rA t0 (Int.toNat t5)) 1) (nl (rA t0 (Int.toNat t5)) 2) (nr (rA t1 (Int.toNat t5)) 0) (nr (rA t1 (Int.toNat t5)) 1) (nl (rA t1 (Int.toNat t5)) 2)))
(some ([.ob false],[]))
(goF E (aa L70) F38 0 m Dy (Ew t0 t1 (IntKind.wrap .i64 (t5+1))))) none) none) none)
(some ([.ob true],[]))):=by kernel_rfl
noncomputable def Et :List AItem:=F99.at [.snd,.snd,.fst,.snd,.sub,.head]
def Df (t0:RL)(t5:RL)(t12:RL)(t13:Int)(t14:Int):St:=⟨[(0,.or t0),(5,.one (.sl true 5 t5)),(12,.os t12),(13,.oi t13),(14,.oi t14)],[]⟩
theorem e99 (m:Nat)(x c:RL):aj E (aa L38) (m+1) 99 [.or x,.os c] []=
(cond (okU (IntKind.wrap .u64 (c.length:Int)))
(goF E (aa L38) F99 0 m Et (Df x (bc (IntKind.wrap .u64 (c.length:Int))) c (c.length:Int) 0)) none):=by kernel_rfl
theorem Mr (m:Nat)(t0 t5 t12:RL)(t13 t14:Int):goF E (aa L38) F99 0 (m+1) Et (Df t0 t5 t12 t13 t14)=
(cond (decide (t14<t13))
(cond (inB t14 t12.length)
(cond (nb [] (nl (rA t12 (Int.toNat t14)) 2))
(cond (cb (t5.length+(gt (nr (rA t12 (Int.toNat t14)) 0) (nr (rA t12 (Int.toNat t14)) 1) (nl (rA t12 (Int.toNat t14)) 2)).length))
(goF E (aa L38) F99 0 m Et (Df t0 (t5++(gt (nr (rA t12 (Int.toNat t14)) 0) (nr (rA t12 (Int.toNat t14)) 1) (nl (rA t12 (Int.toNat t14)) 2))) t12 t13 (IntKind.wrap .i64 (t14+1)))) none) none) none)
(cond (inB (t0.length:Int) (t0.length+1))
(cond (decide ((t0.length:Int)=(t0.length:Int)))
(cond (cb ((bA t0 (Int.toNat (t0.length:Int))).length+t5.length))
(some ([.one (.sl true 5 ((bA t0 (Int.toNat (t0.length:Int)))++t5))],[])) none) none) none)):=by kernel_rfl
noncomputable def pC :List AItem:=F99.at [.snd,.snd,.fst,.snd,.sub,.head]
def pt (t0:RL)(t5:RL)(t12:RL)(t13:Int)(t14:Int):St:=⟨[(0,.one (.sl true 5 t0)),(5,.one (.sl true 5 t5)),(12,.os t12),(13,.oi t13),(14,.oi t14)],[]⟩
theorem Ol (m:Nat)(c:RL):aj E (aa L38) (m+1) 99 [.one (.nils),.os c] []=
(cond (okU (IntKind.wrap .u64 (c.length:Int)))
(goF E (aa L38) F99 0 m pC (pt ([]:RL) (bc (IntKind.wrap .u64 (c.length:Int))) c (c.length:Int) 0)) none):=by kernel_rfl
theorem Bf (m:Nat)(t0 t5 t12:RL)(t13 t14:Int):goF E (aa L38) F99 0 (m+1) pC (pt t0 t5 t12 t13 t14)=
(cond (decide (t14<t13))
(cond (inB t14 t12.length)
(cond (nb [] (nl (rA t12 (Int.toNat t14)) 2))
(cond (cb (t5.length+(gt (nr (rA t12 (Int.toNat t14)) 0) (nr (rA t12 (Int.toNat t14)) 1) (nl (rA t12 (Int.toNat t14)) 2)).length))
(goF E (aa L38) F99 0 m pC (pt t0 (t5++(gt (nr (rA t12 (Int.toNat t14)) 0) (nr (rA t12 (Int.toNat t14)) 1) (nl (rA t12 (Int.toNat t14)) 2))) t12 t13 (IntKind.wrap .i64 (t14+1)))) none) none) none)
(cond (inB (t0.length:Int) (t0.length+1))
(cond (decide ((t0.length:Int)=(t0.length:Int)))
(cond (cb ((bA t0 (Int.toNat (t0.length:Int))).length+t5.length))
(some ([.one (.sl true 5 ((bA t0 (Int.toNat (t0.length:Int)))++t5))],[])) none) none) none)):=by kernel_rfl
noncomputable def D2 :List AItem:=F78.at [.snd,.snd,.snd,.snd,.snd,.fst,.snd,.sub,.head]
def Dp (t0:RL)(t6:Int)(t8:RL)(t24:Int)(t25:Int):St:=⟨[(0,.or t0),(6,.oi t6),(8,.one (.sl true 93 t8)),(24,.one (.int .u64 t24)),(25,.one (.int .u64 t25))],[]⟩
theorem e78 (m:Nat)(x:RL):aj E (aa L99) (m+1) 78 [.or x] []=
(cond (aI x)
(cond ((aD x).2.2 !=0)
(some ([.one (.sl true 93 ([]:RL)),.oi 0,.oi (aD x).2.2],[]))
(cond (decide ((aD x).1>9))
(some ([.one (.sl true 93 ([]:RL)),.oi 0,.oi 3],[]))
(goF E (aa L99) F78 0 m D2 (Dp x (aD x).2.1 ([]:RL) (aD x).1 0)))) none):=by kernel_rfl
theorem I8 (m:Nat)(t0:RL)(t6:Int)(t8:RL)(t24 t25:Int):goF E (aa L99) F78 0 (m+1) D2 (Dp t0 t6 t8 t24 t25)=
(cond (decide (t25<t24))
(cond (inB t6 (t0.length+1))
(cond (aI (ag t0 (Int.toNat t6)))
(cond ((cJ (ag t0 (Int.toNat t6))).2.2.2.2 !=0)
(some ([.one (.sl true 93 ([]:RL)),.oi 0,.oi (cJ (ag t0 (Int.toNat t6))).2.2.2.2],[]))
(cond (cb (t8.length+ [[Cell.int .i64 (cJ (ag t0 (Int.toNat t6))).1,Cell.int .i64 (cJ (ag t0 (Int.toNat t6))).2.1,Cell.slice 89 (cJ (ag t0 (Int.toNat t6))).2.2.1]].length))
(goF E (aa L99) F78 0 m D2 (Dp t0 (IntKind.wrap .i64 (t6+(cJ (ag t0 (Int.toNat t6))).2.2.2.1)) (t8++ [[Cell.int .i64 (cJ (ag t0 (Int.toNat t6))).1,Cell.int .i64 (cJ (ag t0 (Int.toNat t6))).2.1,Cell.slice 89 (cJ (ag t0 (Int.toNat t6))).2.2.1]]) t24 (IntKind.wrap .u64 (t25+1)))) none)) none) none)
(cond (ao t8)
(cond ((bM t8) !=0)
(some ([.one (.sl true 93 ([]:RL)),.oi 0,.oi (bM t8)],[]))
(some ([.one (.sl true 93 t8),.oi t6,.oi 0],[]))) none)):=by kernel_rfl
noncomputable def Du :List AItem:=F86.at [.snd,.snd,.snd,.snd,.snd,.fst,.snd,.sub,.head]
def Dw (t0:RL)(t5:Int)(t6:Int)(t8:RL)(t9:Int):St:=⟨[(0,.or t0),(5,.one (.int .u64 t5)),(6,.oi t6),(8,.one (.sl true 93 t8)),(9,.oi t9)],[]⟩
theorem e86 (m:Nat)(x:RL):aj E (aa L78) (m+1) 86 [.or x] []=
(cond (aI x)
(cond ((aD x).2.2 !=0)
(some ([.one (.sl true 93 ([]:RL)),.oi 0,.oi (aD x).2.2],[]))
(cond (decide ((aD x).1>9))
(some ([.one (.sl true 93 ([]:RL)),.oi 0,.oi 3],[]))
(goF E (aa L78) F86 0 m Du (Dw x (aD x).1 (aD x).2.1 ([]:RL) 0)))) none):=by kernel_rfl
theorem I7 (m:Nat)(t0:RL)(t5 t6:Int)(t8:RL)(t9:Int):goF E (aa L78) F86 0 (m+1) Du (Dw t0 t5 t6 t8 t9)=
(cond (decide (t9<(IntKind.wrap .i64 t5)))
(cond (inB t6 (t0.length+1))
(cond (aI (ag t0 (Int.toNat t6)))
(cond ((cJ (ag t0 (Int.toNat t6))).2.2.2.2 !=0)
(some ([.one (.sl true 93 ([]:RL)),.oi 0,.oi (cJ (ag t0 (Int.toNat t6))).2.2.2.2],[]))
(cond (cb (t8.length+ [[Cell.int .i64 (cJ (ag t0 (Int.toNat t6))).1,Cell.int .i64 (cJ (ag t0 (Int.toNat t6))).2.1,Cell.slice 89 (cJ (ag t0 (Int.toNat t6))).2.2.1]].length))
(goF E (aa L78) F86 0 m Du (Dw t0 t5 (IntKind.wrap .i64 (t6+(cJ (ag t0 (Int.toNat t6))).2.2.2.1)) (t8++ [[Cell.int .i64 (cJ (ag t0 (Int.toNat t6))).1,Cell.int .i64 (cJ (ag t0 (Int.toNat t6))).2.1,Cell.slice 89 (cJ (ag t0 (Int.toNat t6))).2.2.1]]) (IntKind.wrap .i64 (t9+1)))) none)) none) none)
(cond (ao t8)
(cond ((bM t8) !=0)
(some ([.one (.sl true 93 ([]:RL)),.oi 0,.oi (bM t8)],[]))
(some ([.one (.sl true 93 t8),.oi t6,.oi 0],[]))) none)):=by kernel_rfl
noncomputable def Ee :List AItem:=F95.at [.snd,.fst,.snd,.sub,.head]
def Ed (t0:RL)(t1:Int)(t5:Int):St:=⟨[(0,.one (.sl false 103 t0)),(1,.oi t1),(5,.oi t5)],[]⟩
theorem e95 (m:Nat)(v:RL)(a:Int):aj E (aa L86) (m+1) 95 [.one (.sl false 103 v),.oi a] []=
(goF E (aa L86) F95 0 m Ee (Ed v a 0)):=by kernel_rfl
theorem Ml (m:Nat)(t0:RL)(t1 t5:Int):goF E (aa L86) F95 0 (m+1) Ee (Ed t0 t1 t5)=
(cond (decide (t5<(t0.length:Int)))
(cond (inB t5 t0.length)
(cond ((nr (rA t0 (Int.toNat t5)) 0)==t1)
(cond (inB t5 t0.length)
(some ([.oi (nr (rA t0 (Int.toNat t5)) 1)],[])) none)
(goF E (aa L86) F95 0 m Ee (Ed t0 t1 (IntKind.wrap .i64 (t5+1))))) none)
(some ([.oi 0],[]))):=by kernel_rfl
noncomputable def lD :List AItem:=F94.at [.snd,.snd,.snd,.snd,.fst,.snd,.sub,.head]
def lG (t0:RL)(t1:Int)(t2:Int)(t7:RL)(t8:Bool)(t9:Int):St:=⟨[(0,.one (.sl false 103 t0)),(1,.oi t1),(2,.oi t2),(7,.one (.sl true 103 t7)),(8,.ob t8),(9,.oi t9)],[]⟩
theorem e94 (m:Nat)(v:RL)(a k:Int):aj E (aa L95) (m+1) 94 [.one (.sl false 103 v),.oi a,.oi k] []=
(cond (decide (a<1))
(some ([.one (.sl false 103 v)],[]))
(cond (decide (k<0))
(some ([.one (.sl false 103 v)],[]))
(cond (decide (k>1000000))
(some ([.one (.sl false 103 v)],[]))
(goF E (aa L95) F94 0 m lD (lG v a k ([]:RL) (k==0) 0))))):=by kernel_rfl
theorem zM (m:Nat)(t0:RL)(t1 t2:Int)(t7:RL)(t8:Bool)(t9:Int):goF E (aa L95) F94 0 (m+1) lD (lG t0 t1 t2 t7 t8 t9)=
(cond (decide (t9<(t0.length:Int)))
(cond (!t8)
(cond (inB t9 t0.length)
(cond (decide ((nr (rA t0 (Int.toNat t9)) 0)≥t1))
(cond (cb (t7.length+ [[Cell.int .i64 t1,Cell.int .i64 t2]].length))
(cond (inB t9 t0.length)
(cond ((nr (rA t0 (Int.toNat t9)) 0) !=t1)
(cond (inB t9 t0.length)
(cond (cb ((t7++ [[Cell.int .i64 t1,Cell.int .i64 t2]]).length+ [[Cell.int .i64 (nr (rA t0 (Int.toNat t9)) 0),Cell.int .i64 (nr (rA t0 (Int.toNat t9)) 1)]].length))
(goF E (aa L95) F94 0 m lD (lG t0 t1 t2 ((t7++ [[Cell.int .i64 t1,Cell.int .i64 t2]])++ [[Cell.int .i64 (nr (rA t0 (Int.toNat t9)) 0),Cell.int .i64 (nr (rA t0 (Int.toNat t9)) 1)]]) true (IntKind.wrap .i64 (t9+1)))) none) none)
(goF E (aa L95) F94 0 m lD (lG t0 t1 t2 (t7++ [[Cell.int .i64 t1,Cell.int .i64 t2]]) true (IntKind.wrap .i64 (t9+1))))) none) none)
(cond (inB t9 t0.length)
(cond ((nr (rA t0 (Int.toNat t9)) 0) !=t1)
(cond (inB t9 t0.length)
(cond (cb (t7.length+ [[Cell.int .i64 (nr (rA t0 (Int.toNat t9)) 0),Cell.int .i64 (nr (rA t0 (Int.toNat t9)) 1)]].length))
(goF E (aa L95) F94 0 m lD (lG t0 t1 t2 (t7++ [[Cell.int .i64 (nr (rA t0 (Int.toNat t9)) 0),Cell.int .i64 (nr (rA t0 (Int.toNat t9)) 1)]]) t8 (IntKind.wrap .i64 (t9+1)))) none) none)
(goF E (aa L95) F94 0 m lD (lG t0 t1 t2 t7 t8 (IntKind.wrap .i64 (t9+1))))) none)) none)
(cond (inB t9 t0.length)
(cond ((nr (rA t0 (Int.toNat t9)) 0) !=t1)
(cond (inB t9 t0.length)
(cond (cb (t7.length+ [[Cell.int .i64 (nr (rA t0 (Int.toNat t9)) 0),Cell.int .i64 (nr (rA t0 (Int.toNat t9)) 1)]].length))
(goF E (aa L95) F94 0 m lD (lG t0 t1 t2 (t7++ [[Cell.int .i64 (nr (rA t0 (Int.toNat t9)) 0),Cell.int .i64 (nr (rA t0 (Int.toNat t9)) 1)]]) t8 (IntKind.wrap .i64 (t9+1)))) none) none)
(goF E (aa L95) F94 0 m lD (lG t0 t1 t2 t7 t8 (IntKind.wrap .i64 (t9+1))))) none))
(cond (!t8)
(cond (cb (t7.length+ [[Cell.int .i64 t1,Cell.int .i64 t2]].length))
(some ([.one (.sl false 103 (t7++ [[Cell.int .i64 t1,Cell.int .i64 t2]]))],[])) none)
(some ([.one (.sl false 103 t7)],[])))):=by kernel_rfl
noncomputable def Dc :List AItem:=F40.at [.snd,.snd,.fst,.snd,.sub,.head]
def DU (t0:RL)(t1:RL)(t5:Int):St:=⟨[(0,.one (.sl false 103 t0)),(1,.one (.sl false 103 t1)),(5,.oi t5)],[]⟩
theorem e40 (m:Nat)(v w:RL):aj E (aa L94) (m+1) 40 [.one (.sl false 103 v),.one (.sl false 103 w)] []=
(cond ((v.length:Int) !=(w.length:Int))
(some ([.ob false],[]))
(goF E (aa L94) F40 0 m Dc (DU v w 0))):=by kernel_rfl
theorem Mq (m:Nat)(t0 t1:RL)(t5:Int):goF E (aa L94) F40 0 (m+1) Dc (DU t0 t1 t5)=
(cond (decide (t5<(t0.length:Int)))
(cond (inB t5 t0.length)
(cond (inB t5 t1.length)
(cond (!(((nr (rA t0 (Int.toNat t5)) 0)==(nr (rA t1 (Int.toNat t5)) 0))&&(((nr (rA t0 (Int.toNat t5)) 1)==(nr (rA t1 (Int.toNat t5)) 1))&&true)))
(some ([.ob false],[]))
(goF E (aa L94) F40 0 m Dc (DU t0 t1 (IntKind.wrap .i64 (t5+1))))) none) none)
(some ([.ob true],[]))):=by kernel_rfl
noncomputable def Be :List AItem:=F27.at [.snd,.fst,.snd,.sub,.head]
def zA (t0:RL)(t3:Int):St:=⟨[(0,.one (.sl false 103 t0)),(3,.oi t3)],[]⟩
theorem e27 (m:Nat)(v:RL):aj E (aa L40) (m+1) 27 [.one (.sl false 103 v)] []=
(goF E (aa L40) F27 0 m Be (zA v 0)):=by kernel_rfl
theorem M1 (m:Nat)(t0:RL)(t3:Int):goF E (aa L40) F27 0 (m+1) Be (zA t0 t3)=
(cond (decide (t3<(t0.length:Int)))
(cond (inB t3 t0.length)
(cond (decide ((nr (rA t0 (Int.toNat t3)) 0)<1))
(some ([.oi 9],[]))
(cond (inB t3 t0.length)
(cond (decide ((nr (rA t0 (Int.toNat t3)) 1)<1))
(some ([.oi 9],[]))
(cond (inB t3 t0.length)
(cond (decide ((nr (rA t0 (Int.toNat t3)) 1)>1000000))
(some ([.oi 9],[]))
(cond (decide (t3>0))
(cond (inB (IntKind.wrap .i64 (t3 - 1)) t0.length)
(cond (inB t3 t0.length)
(cond (decide ((nr (rA t0 (Int.toNat (IntKind.wrap .i64 (t3 - 1)))) 0)≥(nr (rA t0 (Int.toNat t3)) 0)))
(some ([.oi 7],[]))
(goF E (aa L40) F27 0 m Be (zA t0 (IntKind.wrap .i64 (t3+1))))) none) none)
(goF E (aa L40) F27 0 m Be (zA t0 (IntKind.wrap .i64 (t3+1)))))) none)) none)) none)
(some ([.oi 0],[]))):=by kernel_rfl
noncomputable def Ax :List AItem:=F93.at [.snd,.snd,.fst,.snd,.sub,.head]
def zT (t0:RL)(t1:RL)(t5:RL)(t6:Int):St:=⟨[(0,.os t0),(1,.one (.sl false 103 t1)),(5,.one (.sl true 93 t5)),(6,.oi t6)],[]⟩
theorem e93 (m:Nat)(c v:RL):aj E (aa L27) (m+1) 93 [.os c,.one (.sl false 103 v)] []=
(goF E (aa L27) F93 0 m Ax (zT c v ([]:RL) 0)):=by kernel_rfl
theorem Hr (m:Nat)(t0 t1 t5:RL)(t6:Int):goF E (aa L27) F93 0 (m+1) Ax (zT t0 t1 t5 t6)=
(cond (decide (t6<(t0.length:Int)))
(cond (inB t6 t0.length)
(cond (inB t6 t0.length)
(cond (cN t1)
(cond (decide ((nr (rA t0 (Int.toNat t6)) 1)≤(bH t1 (nr (rA t0 (Int.toNat t6)) 0))))
(cond (inB t6 t0.length)
(cond (cb (t5.length+ [[Cell.int .i64 (nr (rA t0 (Int.toNat t6)) 0),Cell.int .i64 (nr (rA t0 (Int.toNat t6)) 1),Cell.slice 89 (nl (rA t0 (Int.toNat t6)) 2)]].length))
(goF E (aa L27) F93 0 m Ax (zT t0 t1 (t5++ [[Cell.int .i64 (nr (rA t0 (Int.toNat t6)) 0),Cell.int .i64 (nr (rA t0 (Int.toNat t6)) 1),Cell.slice 89 (nl (rA t0 (Int.toNat t6)) 2)]]) (IntKind.wrap .i64 (t6+1)))) none) none)
(goF E (aa L27) F93 0 m Ax (zT t0 t1 t5 (IntKind.wrap .i64 (t6+1))))) none) none) none)
(some ([.os t5],[]))):=by kernel_rfl
noncomputable def wR :List AItem:=F43.at [.snd,.snd,.fst,.snd,.sub,.head]
def wu (t0:RL)(t1:Int)(t5:RL)(t6:Int):St:=⟨[(0,.os t0),(1,.oi t1),(5,.one (.sl true 103 t5)),(6,.oi t6)],[]⟩
theorem e43 (m:Nat)(c:RL)(n:Int):aj E (aa L93) (m+1) 43 [.os c,.oi n] []=
(goF E (aa L93) F43 0 m wR (wu c n ([]:RL) 0)):=by kernel_rfl
theorem Mz (m:Nat)(t0:RL)(t1:Int)(t5:RL)(t6:Int):goF E (aa L93) F43 0 (m+1) wR (wu t0 t1 t5 t6)=
(cond (decide (t6<3))
(cond (decide (2≤4)&&decide (t6≤9223372036854775807))
(cond (decide ((ad t1 4 t6)>0))
(cond (decide (2≤4)&&decide (t6≤9223372036854775807))
(cond (cb (t5.length+ [[Cell.int .i64 (IntKind.wrap .i64 (201+t6)),Cell.int .i64 (ad t1 4 t6)]].length))
(goF E (aa L93) F43 0 m wR (wu t0 t1 (t5++ [[Cell.int .i64 (IntKind.wrap .i64 (201+t6)),Cell.int .i64 (ad t1 4 t6)]]) (IntKind.wrap .i64 (t6+1)))) none) none)
(goF E (aa L93) F43 0 m wR (wu t0 t1 t5 (IntKind.wrap .i64 (t6+1))))) none)
(cond (ek t0&&cN t5)
(some ([.os (lm t0 t5)],[])) none)):=by kernel_rfl
theorem Rh (m:Nat)(k1 s1 w1 v1 rk1 rc1 rf1 k2 s2 w2 v2 rk2 rc2 rf2:Int):aj E (aa L43) (m+1) 144 [.agg [.i k1,.i s1,.i w1,.i v1,.i rk1,.i rc1,.i rf1],.agg [.i k2,.i s2,.i w2,.i v2,.i rk2,.i rc2,.i rf2]] []=
(cond (k1==k2)
(cond (s1==s2)
(cond (w1==w2)
(cond (v1==v2)
(some ([.ob ((rk1==rk2)&&((rc1==rc2)&&((rf1==rf2)&&true)))],[]))
(some ([.ob false],[])))
(some ([.ob false],[])))
(some ([.ob false],[])))
(some ([.ob false],[]))):=by kernel_rfl
noncomputable def yu :List AItem:=F132.at [.snd,.snd,.fst,.snd,.sub,.head]
def yk (t29:RL)(t30:Int)(t31:Int)(b0:Int)(b0_1:Int)(b0_2:RL):St:=⟨[(3,.one (.ptr 0 0)),(29,.one (.sl false 89 t29)),(30,.oi t30),(31,.oi t31)],[.var [.i b0,.i b0_1,.sl false 89 b0_2]]⟩
theorem PU (m:Nat)(ap np:Int)(cp:RL)(aq nq:Int)(cq:RL):aj E (aa yG) (m+1) 132 [.agg [.i ap,.i np,.sl false 89 cp],.agg [.i aq,.i nq,.sl false 89 cq]] []=
(cond (ap !=aq)
(some ([.ob false],[]))
(cond (np !=nq)
(some ([.ob false],[]))
(cond ((cp.length:Int) !=(cq.length:Int))
(some ([.ob false],[]))
(goF E (aa yG) F132 0 m yu (yk cp (cp.length:Int) 0 aq nq cq))))):=by kernel_rfl
theorem HG (m:Nat)(t29:RL)(t30 t31 b0 b0_1:Int)(b0_2:RL):goF E (aa yG) F132 0 (m+1) yu (yk t29 t30 t31 b0 b0_1 b0_2)=
(cond (decide (t31<t30))
(cond (inB t31 t29.length)
(cond (inB t31 b0_2.length)
(cond (!(vh (nr (rA t29 (Int.toNat t31)) 0) (nr (rA t29 (Int.toNat t31)) 1) (nr (rA t29 (Int.toNat t31)) 2) (nr (rA t29 (Int.toNat t31)) 3) (nr (rA t29 (Int.toNat t31)) 4) (nr (rA t29 (Int.toNat t31)) 5) (nr (rA t29 (Int.toNat t31)) 6) (nr (rA b0_2 (Int.toNat t31)) 0) (nr (rA b0_2 (Int.toNat t31)) 1) (nr (rA b0_2 (Int.toNat t31)) 2) (nr (rA b0_2 (Int.toNat t31)) 3) (nr (rA b0_2 (Int.toNat t31)) 4) (nr (rA b0_2 (Int.toNat t31)) 5) (nr (rA b0_2 (Int.toNat t31)) 6)))
(some ([.ob false],[]))
(goF E (aa yG) F132 0 m yu (yk t29 t30 (IntKind.wrap .i64 (t31+1)) b0 b0_1 b0_2))) none) none)
(some ([.ob true],[]))):=by kernel_rfl
theorem TF (m:Nat)(aq nq:Int)(cq:RL)(a n:Int)(l:RL):aj E (aa Ji) (m+1) 131 [.agg [.i aq,.i nq,.sl false 89 cq],.one (.ptr 0 0)] [.var [.i a,.i n,.sl false 89 l]]=
(cond (decide (l.length<9223372036854775808))
(some ([.ob (eqP a n l aq nq cq)],[.var [.i a,.i n,.sl false 89 l]])) none):=by kernel_rfl
noncomputable def ye :List AItem:=F143.at [.snd,.fst,.snd,.sub,.head]
def x8 (t0:RL)(t7:Int)(t8:Int)(b0:Int)(b0_1:Int)(b0_2:RL):St:=⟨[(0,.os t0),(1,.one (.fn 131 [.ptr 0 0])),(7,.oi t7),(8,.oi t8)],[.var [.i b0,.i b0_1,.sl false 89 b0_2]]⟩
theorem QH (m:Nat)(c:RL)(a n:Int)(l:RL):aj E (aa xw) (m+1) 143 [.os c,.one (.fn 131 [.ptr 0 0])] [.var [.i a,.i n,.sl false 89 l]]=
(goF E (aa xw) F143 1 m ye (x8 c (c.length:Int) 0 a n l)):=by kernel_rfl
theorem GS (m:Nat)(t0:RL)(t7 t8 b0 b0_1:Int)(b0_2:RL):goF E (aa xw) F143 1 (m+1) ye (x8 t0 t7 t8 b0 b0_1 b0_2)=
(cond (decide (t8<t7))
(cond (inB t8 t0.length)
(cond (decide (b0_2.length<9223372036854775808))
(cond (eqP b0 b0_1 b0_2 (nr (rA t0 (Int.toNat t8)) 0) (nr (rA t0 (Int.toNat t8)) 1) (nl (rA t0 (Int.toNat t8)) 2))
(some ([.oi t8],[.var [.i b0,.i b0_1,.sl false 89 b0_2]]))
(goF E (aa xw) F143 1 m ye (x8 t0 t7 (IntKind.wrap .i64 (t8+1)) b0 b0_1 b0_2))) none) none)
(some ([.oi (-1)],[.var [.i b0,.i b0_1,.sl false 89 b0_2]]))):=by kernel_rfl
theorem Tu (m:Nat)(c:RL)(a n:Int)(l:RL):aj E (aa IG) (m+1) 130 [.os c,.one (.fn 131 [.ptr 0 0])] [.var [.i a,.i n,.sl false 89 l]]=
(cond (ao c&&decide (l.length<9223372036854775808))
(some ([.ob (decide ((Lp a n l c)≥0))],[.var [.i a,.i n,.sl false 89 l]])) none):=by kernel_rfl
end Go.Proofs.YtejimgikldiajaaGreat
