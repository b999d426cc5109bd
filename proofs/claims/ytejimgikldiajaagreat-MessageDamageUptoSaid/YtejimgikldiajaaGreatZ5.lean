/-
  Merged texts.
-/
import Derived.Test.YtejimgikldiajaaGreatZ4
namespace Go.Proofs.YtejimgikldiajaaGreat
open Go.Abs
set_option maxRecDepth 20000
noncomputable def yz :List AItem:=F111.at [.snd,.fst,.snd,.sub,.head]
def xU (t0:RL)(t7:RL)(t8:Int)(t9:Int):St:=⟨[(0,.os t0),(7,.os t7),(8,.oi t8),(9,.oi t9)],[]⟩
theorem Tg (m:Nat)(c d:RL):aj E (aa x9) (m+1) 111 [.os c,.os d] []=
(goF E (aa x9) F111 0 m yz (xU c d (d.length:Int) 0)):=by kernel_rfl
theorem HA (m:Nat)(t0 t7:RL)(t8 t9:Int):goF E (aa x9) F111 0 (m+1) yz (xU t0 t7 t8 t9)=
(cond (decide (t9<t8))
(cond (inB t9 t7.length)
(cond (ao t0&&decide ((nl (rA t7 (Int.toNat t9)) 2).length<9223372036854775808))
(cond (!(inP (nr (rA t7 (Int.toNat t9)) 0) (nr (rA t7 (Int.toNat t9)) 1) (nl (rA t7 (Int.toNat t9)) 2) t0))
(some ([.ob false],[]))
(goF E (aa x9) F111 0 m yz (xU t0 t7 t8 (IntKind.wrap .i64 (t9+1))))) none) none)
(some ([.ob true],[]))):=by kernel_rfl
noncomputable def Bo :List AItem:=F72.at [.snd,.fst,.snd,.sub,.head]
def Bl (t0:RL)(t1:RL)(t5:Int):St:=⟨[(0,.os t0),(1,.os t1),(5,.oi t5)],[]⟩
noncomputable def zc :List AItem:=F72.at [.snd,.fst,.snd,.sub,.body,.snd,.fst,.sub,.snd,.fst,.snd,.sub,.head]
def zX (t0:RL)(t1:RL)(t5:Int)(t6:Bool)(t7:Int):St:=⟨[(0,.os t0),(1,.os t1),(5,.oi t5),(6,.ob t6),(7,.oi t7)],[]⟩
theorem e72 (m:Nat)(c d:RL):aj E (aa nE) (m+1) 72 [.os c,.os d] []=
(goF E (aa nE) F72 0 m Bo (Bl c d 0)):=by kernel_rfl
theorem MN (m:Nat)(t0 t1:RL)(t5:Int):goF E (aa nE) F72 0 (m+1) Bo (Bl t0 t1 t5)=
(cond (decide (t5<(t1.length:Int)))
(goF E (aa nE) F72 0 m zc (zX t0 t1 t5 false 0))
(some ([.ob true],[]))):=by kernel_rfl
theorem G2 (m:Nat)(t0 t1:RL)(t5:Int)(t6:Bool)(t7:Int):goF E (aa nE) F72 0 (m+1) zc (zX t0 t1 t5 t6 t7)=
(cond (decide (t7<(t0.length:Int)))
(cond t6
(goF E (aa nE) F72 0 m zc (zX t0 t1 t5 true (IntKind.wrap .i64 (t7+1))))
(cond (inB t7 t0.length)
(cond (inB t5 t1.length)
(cond (decide ((nl (rA t0 (Int.toNat t7)) 2).length<9223372036854775808))
(goF E (aa nE) F72 0 m zc (zX t0 t1 t5 (eqP (nr (rA t0 (Int.toNat t7)) 0) (nr (rA t0 (Int.toNat t7)) 1) (nl (rA t0 (Int.toNat t7)) 2) (nr (rA t1 (Int.toNat t5)) 0) (nr (rA t1 (Int.toNat t5)) 1) (nl (rA t1 (Int.toNat t5)) 2)) (IntKind.wrap .i64 (t7+1)))) none) none) none))
(cond (!t6)
(some ([.ob false],[]))
(goF E (aa nE) F72 0 m Bo (Bl t0 t1 (IntKind.wrap .i64 (t5+1)))))):=by kernel_rfl
noncomputable def AN :List AItem:=F63.at [.snd,.fst,.snd,.sub,.head]
def zg (t10:RL)(t11:Int)(t12:Int)(b0:RL)(b0_1:RL):St:=⟨[(1,.one (.ptr 0 0)),(10,.one (.sl false 25 t10)),(11,.oi t11),(12,.oi t12)],[.var [.s b0,.s b0_1]]⟩
theorem e63 (m:Nat)(f1 t1:RL):aj E (aa L72) (m+1) 63 [.agg [.s f1,.s t1]] []=
(goF E (aa L72) F63 0 m AN (zg [[Cell.slice 93 f1],[Cell.slice 93 t1]] 2 0 f1 t1)):=by kernel_rfl
theorem H0 (m:Nat)(t10:RL)(t11 t12:Int)(b0 b0_1:RL):goF E (aa L72) F63 0 (m+1) AN (zg t10 t11 t12 b0 b0_1)=
(cond (decide (t12<t11))
(cond (inB t12 t10.length)
(cond (ao (nl (rA t10 (Int.toNat t12)) 0))
(cond ((bM (nl (rA t10 (Int.toNat t12)) 0)) !=0)
(some ([.oi (bM (nl (rA t10 (Int.toNat t12)) 0))],[]))
(goF E (aa L72) F63 0 m AN (zg t10 t11 (IntKind.wrap .i64 (t12+1)) b0 b0_1))) none) none)
(cond (ao b0_1&&ao b0)
(cond (!(kM b0_1 b0))
(some ([.oi 2],[]))
(some ([.oi 0],[]))) none)):=by kernel_rfl
theorem e26 (m:Nat)(f1 t1:RL):aj E (aa L63) (m+1) 26 [.agg [.s f1,.s t1]] []=
(cond (ao f1)
(cond ((bM f1) !=0)
(cond (ao f1)
(some ([.oi (bM f1)],[])) none)
(cond (ao t1)
(cond ((bM t1) !=0)
(cond (ao t1)
(some ([.oi (bM t1)],[])) none)
(cond (ao t1&&ao f1)
(cond (!(kM t1 f1))
(some ([.oi 2],[]))
(some ([.oi 0],[]))) none)) none)) none):=by kernel_rfl
theorem e37 (m:Nat)(f1 t1 f2 t2:RL):aj E (aa L26) (m+1) 37 [.agg [.s f1,.s t1],.agg [.s f2,.s t2]] []=
(cond (ao f1)
(cond (da f1 f2)
(cond (ao t1)
(some ([.ob (da t1 t2)],[])) none)
(some ([.ob false],[]))) none):=by kernel_rfl
theorem e81 (m:Nat)(x:RL):aj E (aa L37) (m+1) 81 [.or x] []=
(cond (inB 0 (x.length+1))
(cond (aI (ag x 0))
(cond ((aX (ag x 0)).2.2 !=0)
(some ([.agg [.sl true 93 ([]:RL),.sl true 93 ([]:RL)],.oi 0,.oi (aX (ag x 0)).2.2],[]))
(cond (inB (IntKind.wrap .i64 (0+(aX (ag x 0)).2.1)) (x.length+1))
(cond (aI (ag x (Int.toNat (IntKind.wrap .i64 (0+(aX (ag x 0)).2.1)))))
(cond ((aX (ag x (Int.toNat (IntKind.wrap .i64 (0+(aX (ag x 0)).2.1))))).2.2 !=0)
(some ([.agg [.sl true 93 ([]:RL),.sl true 93 ([]:RL)],.oi 0,.oi (aX (ag x (Int.toNat (IntKind.wrap .i64 (0+(aX (ag x 0)).2.1))))).2.2],[]))
(cond (ao (aX (ag x 0)).1&&ao (aX (ag x (Int.toNat (IntKind.wrap .i64 (0+(aX (ag x 0)).2.1))))).1)
(cond ((aV (aX (ag x 0)).1 (aX (ag x (Int.toNat (IntKind.wrap .i64 (0+(aX (ag x 0)).2.1))))).1) !=0)
(some ([.agg [.sl true 93 ([]:RL),.sl true 93 ([]:RL)],.oi 0,.oi (aV (aX (ag x 0)).1 (aX (ag x (Int.toNat (IntKind.wrap .i64 (0+(aX (ag x 0)).2.1))))).1)],[]))
(some ([.agg [.sl true 93 (aX (ag x 0)).1,.sl true 93 (aX (ag x (Int.toNat (IntKind.wrap .i64 (0+(aX (ag x 0)).2.1))))).1],.oi (IntKind.wrap .i64 ((IntKind.wrap .i64 (0+(aX (ag x 0)).2.1))+(aX (ag x (Int.toNat (IntKind.wrap .i64 (0+(aX (ag x 0)).2.1))))).2.1)),.oi 0],[]))) none)) none) none)) none) none):=by kernel_rfl
theorem e89 (m:Nat)(x:RL):aj E (aa L81) (m+1) 89 [.or x] []=
(cond (aI x)
(cond ((aX x).2.2 !=0)
(some ([.agg [.s ([]:RL),.s ([]:RL)],.oi 0,.oi (aX x).2.2],[]))
(cond (inB (aX x).2.1 (x.length+1))
(cond (aI (ag x (Int.toNat (aX x).2.1)))
(cond ((aX (ag x (Int.toNat (aX x).2.1))).2.2 !=0)
(some ([.agg [.s ([]:RL),.s ([]:RL)],.oi 0,.oi (aX (ag x (Int.toNat (aX x).2.1))).2.2],[]))
(cond (ao (aX x).1&&ao (aX (ag x (Int.toNat (aX x).2.1))).1)
(cond ((aV (aX x).1 (aX (ag x (Int.toNat (aX x).2.1))).1) !=0)
(some ([.agg [.s ([]:RL),.s ([]:RL)],.oi 0,.oi (aV (aX x).1 (aX (ag x (Int.toNat (aX x).2.1))).1)],[]))
(some ([.agg [.s (aX x).1,.s (aX (ag x (Int.toNat (aX x).2.1))).1],.oi (IntKind.wrap .i64 ((aX x).2.1+(aX (ag x (Int.toNat (aX x).2.1))).2.1)),.oi 0],[]))) none)) none) none)) none):=by kernel_rfl
theorem R5 (m:Nat)(x f1 t1:RL):aj E (aa L89) (m+1) 101 [.or x,.agg [.s f1,.s t1]] []=
(cond (dq x f1)
(cond (dq (x++gB f1) t1)
(some ([.one (.sl true 5 ((x++gB f1)++gB t1))],[])) none) none):=by kernel_rfl
theorem Ll (m:Nat)(f1 t1:RL):aj E (aa L89) (m+1) 101 [.one (.nils),.agg [.s f1,.s t1]] []=
(cond (dq ([]:RL) f1)
(cond (dq (([]:RL)++gB f1) t1)
(some ([.one (.sl true 5 ((([]:RL)++gB f1)++gB t1))],[])) none) none):=by kernel_rfl
theorem e45 (m:Nat)(p:RL)(n:Int):aj E (aa H7) (m+1) 45 [.os p,.oi n] []=
(cond (ek p)
(cond (decide (1099511627776≤4611686018427387904))
(cond (ek (bv p n))
(some ([.agg [.s (bv (bv p n) (IntKind.wrap .i64 (Int.tdiv (aK n 1099511627776) 64))),.s (bv p n)]],[])) none) none) none):=by kernel_rfl
theorem e66 (m:Nat)(n:Int):aj E (aa L45) (m+1) 66 [.oi n] []=
(cond (decide (n≥101))
(some ([.ob (decide (n<107))],[]))
(some ([.ob false],[]))):=by kernel_rfl
theorem Rr (m:Nat)(k1:Int)(o1 f1:List UInt8)(n1:Int)(s1:List UInt8):aj E (aa GF) (m+1) 141 [.agg [.i k1,.str o1,.str f1,.i n1,.str s1]] []=
(cond (decide (k1<1))
(some ([.oi 10],[]))
(cond (decide (k1>5))
(some ([.oi 10],[]))
(cond (o1.isEmpty)
(some ([.oi 2],[]))
(cond (f1.isEmpty)
(some ([.oi 2],[]))
(cond (decide ((o1.length:Int)>16))
(some ([.oi 3],[]))
(cond (decide ((f1.length:Int)>16))
(some ([.oi 3],[]))
(cond (decide ((s1.length:Int)>32))
(some ([.oi 3],[]))
(cond (k1==3)
(cond (decide (n1<(-1000000)))
(some ([.oi 9],[]))
(cond (decide (n1>1000000))
(some ([.oi 9],[]))
(cond (!(s1==([]:List UInt8)))
(cond (k1 !=1)
(cond (k1 !=4)
(some ([.oi 2],[]))
(some ([.oi 0],[])))
(some ([.oi 0],[])))
(some ([.oi 0],[])))))
(cond (k1==4)
(cond (k1==4)
(cond (n1 !=0)
(some ([.oi 9],[]))
(cond (!(s1==([]:List UInt8)))
(cond (k1 !=1)
(cond (k1 !=4)
(some ([.oi 2],[]))
(some ([.oi 0],[])))
(some ([.oi 0],[])))
(some ([.oi 0],[]))))
(cond (!(s1==([]:List UInt8)))
(cond (k1 !=1)
(cond (k1 !=4)
(some ([.oi 2],[]))
(some ([.oi 0],[])))
(some ([.oi 0],[])))
(some ([.oi 0],[]))))
(cond (k1==5)
(cond (n1 !=0)
(some ([.oi 9],[]))
(cond (!(s1==([]:List UInt8)))
(cond (k1 !=1)
(cond (k1 !=4)
(some ([.oi 2],[]))
(some ([.oi 0],[])))
(some ([.oi 0],[])))
(some ([.oi 0],[]))))
(cond (!(s1==([]:List UInt8)))
(cond (k1 !=1)
(cond (k1 !=4)
(some ([.oi 2],[]))
(some ([.oi 0],[])))
(some ([.oi 0],[])))
(some ([.oi 0],[]))))))))))))):=by kernel_rfl
theorem Sb (m:Nat)(k1:Int)(o1 f1:List UInt8)(n1:Int)(s1:List UInt8):aj E (aa JB) (m+1) 114 [.agg [.i k1,.str o1,.str f1,.i n1,.str s1]] []=
(cond (decide (k1<1))
(some ([.oi 10],[]))
(cond (decide (k1>5))
(some ([.oi 10],[]))
(cond (o1==([]:List UInt8))
(some ([.oi 2],[]))
(cond (f1==([]:List UInt8))
(some ([.oi 2],[]))
(cond (decide ((o1.length:Int)>16))
(some ([.oi 3],[]))
(cond (decide ((f1.length:Int)>16))
(some ([.oi 3],[]))
(cond (decide ((s1.length:Int)>32))
(some ([.oi 3],[]))
(cond (k1==3)
(cond (decide (n1<(-1000000)))
(some ([.oi 9],[]))
(cond (decide (n1>1000000))
(some ([.oi 9],[]))
(cond (k1==4)
(cond (n1 !=0)
(some ([.oi 9],[]))
(cond (k1==2)
(cond (!(s1==([]:List UInt8)))
(some ([.oi 2],[]))
(some ([.oi 0],[])))
(cond (k1==3)
(cond (!(s1==([]:List UInt8)))
(some ([.oi 2],[]))
(some ([.oi 0],[])))
(cond (k1==5)
(cond (!(s1==([]:List UInt8)))
(some ([.oi 2],[]))
(some ([.oi 0],[])))
(some ([.oi 0],[]))))))
(cond (k1==5)
(cond (n1 !=0)
(some ([.oi 9],[]))
(cond (k1==2)
(cond (!(s1==([]:List UInt8)))
(some ([.oi 2],[]))
(some ([.oi 0],[])))
(cond (k1==3)
(cond (!(s1==([]:List UInt8)))
(some ([.oi 2],[]))
(some ([.oi 0],[])))
(cond (k1==5)
(cond (!(s1==([]:List UInt8)))
(some ([.oi 2],[]))
(some ([.oi 0],[])))
(some ([.oi 0],[]))))))
(cond (k1==2)
(cond (!(s1==([]:List UInt8)))
(some ([.oi 2],[]))
(some ([.oi 0],[])))
(cond (k1==3)
(cond (!(s1==([]:List UInt8)))
(some ([.oi 2],[]))
(some ([.oi 0],[])))
(cond (k1==5)
(cond (!(s1==([]:List UInt8)))
(some ([.oi 2],[]))
(some ([.oi 0],[])))
(some ([.oi 0],[])))))))))
(cond (k1==4)
(cond (n1 !=0)
(some ([.oi 9],[]))
(cond (k1==2)
(cond (!(s1==([]:List UInt8)))
(some ([.oi 2],[]))
(some ([.oi 0],[])))
(cond (k1==3)
(cond (!(s1==([]:List UInt8)))
(some ([.oi 2],[]))
(some ([.oi 0],[])))
(cond (k1==5)
(cond (!(s1==([]:List UInt8)))
(some ([.oi 2],[]))
(some ([.oi 0],[])))
(some ([.oi 0],[]))))))
(cond (k1==5)
(cond (n1 !=0)
(some ([.oi 9],[]))
(cond (k1==2)
(cond (!(s1==([]:List UInt8)))
(some ([.oi 2],[]))
(some ([.oi 0],[])))
(cond (k1==3)
(cond (!(s1==([]:List UInt8)))
(some ([.oi 2],[]))
(some ([.oi 0],[])))
(cond (k1==5)
(cond (!(s1==([]:List UInt8)))
(some ([.oi 2],[]))
(some ([.oi 0],[])))
(some ([.oi 0],[]))))))
(cond (k1==2)
(cond (!(s1==([]:List UInt8)))
(some ([.oi 2],[]))
(some ([.oi 0],[])))
(cond (k1==3)
(cond (!(s1==([]:List UInt8)))
(some ([.oi 2],[]))
(some ([.oi 0],[])))
(cond (k1==5)
(cond (!(s1==([]:List UInt8)))
(some ([.oi 2],[]))
(some ([.oi 0],[])))
(some ([.oi 0],[]))))))))))))))):=by kernel_rfl
theorem SE (m:Nat)(k1:Int)(o1 f1:List UInt8)(n1:Int)(s1:List UInt8):aj E (aa IR) (m+1) 153 [.agg [.i k1,.str o1,.str f1,.i n1,.str s1]] []=
(some ([.ob (k1==1)],[])):=by kernel_rfl
noncomputable def yy :List AItem:=F156.at [.snd,.fst,.snd,.sub,.head]
def xP (t0:RL)(t7:Int)(t8:Int):St:=⟨[(0,.one (.sl false 136 t0)),(1,.one (.fn 153 [])),(7,.oi t7),(8,.oi t8)],[]⟩
theorem S2 (m:Nat)(l:RL):aj E (aa xF) (m+1) 156 [.one (.sl false 136 l),.one (.fn 153 [])] []=
(goF E (aa xF) F156 0 m yy (xP l (l.length:Int) 0)):=by kernel_rfl
theorem H5 (m:Nat)(t0:RL)(t7 t8:Int):goF E (aa xF) F156 0 (m+1) yy (xP t0 t7 t8)=
(cond (decide (t8<t7))
(cond (inB t8 t0.length)
(cond ((nr (rA t0 (Int.toNat t8)) 0)==1)
(some ([.oi t8],[]))
(goF E (aa xF) F156 0 m yy (xP t0 t7 (IntKind.wrap .i64 (t8+1))))) none)
(some ([.oi (-1)],[]))):=by kernel_rfl
theorem QS (m:Nat)(l:RL):aj E (aa GN) (m+1) 152 [.one (.sl false 136 l),.one (.fn 153 [])] []=
(cond (decide (l.length<9223372036854775808))
(some ([.ob (decide ((Kt l)≥0))],[])) none):=by kernel_rfl
theorem Tl (m:Nat)(cu qu tu:Int)(eu:RL):aj E (aa IB) (m+1) 142 [.agg [.i cu,.i qu,.i tu,.sl false 136 eu]] []=
(cond (decide (eu.length<9223372036854775808))
(some ([.ob (!(!(fI eu)))],[])) none):=by kernel_rfl
noncomputable def xL :List AItem:=F115.at [.snd,.fst,.snd,.sub,.head]
def yw (t3:Int)(b0:Int)(b0_1:Int)(b0_2:Int)(b0_3:RL):St:=⟨[(1,.one (.ptr 0 0)),(3,.oi t3)],[.var [.i b0,.i b0_1,.i b0_2,.sl false 136 b0_3]]⟩
theorem QZ (m:Nat)(cu qu tu:Int)(eu:RL):aj E (aa yC) (m+1) 115 [.agg [.i cu,.i qu,.i tu,.sl false 136 eu]] []=
(goF E (aa yC) F115 0 m xL (yw 0 cu qu tu eu)):=by kernel_rfl
theorem Gz (m:Nat)(t3 b0 b0_1 b0_2:Int)(b0_3:RL):goF E (aa yC) F115 0 (m+1) xL (yw t3 b0 b0_1 b0_2 b0_3)=
(cond (decide (t3<(b0_3.length:Int)))
(cond (inB t3 b0_3.length)
(cond ((nr (rA b0_3 (Int.toNat t3)) 0)==1)
(some ([.ob false],[]))
(goF E (aa yC) F115 0 m xL (yw (IntKind.wrap .i64 (t3+1)) b0 b0_1 b0_2 b0_3))) none)
(some ([.ob true],[]))):=by kernel_rfl
noncomputable def xn :List AItem:=F128.at [.snd,.snd,.fst,.snd,.sub,.head]
def xt (t46:RL)(t47:Int)(t48:Int)(b0:Int)(b0_1:Int)(b0_2:Int)(b0_3:RL):St:=⟨[(1,.one (.ptr 0 0)),(46,.one (.sl false 136 t46)),(47,.oi t47),(48,.oi t48)],[.var [.i b0,.i b0_1,.i b0_2,.sl false 136 b0_3]]⟩
theorem PF (m:Nat)(cu qu tu:Int)(eu:RL):aj E (aa yl) (m+1) 128 [.agg [.i cu,.i qu,.i tu,.sl false 136 eu]] []=
(cond (decide (cu<101))
(some ([.oi 9],[]))
(cond (decide (cu≥107))
(some ([.oi 9],[]))
(cond (decide (qu<1))
(some ([.oi 9],[]))
(cond (decide (qu>8))
(some ([.oi 9],[]))
(cond (decide (tu<0))
(some ([.oi 9],[]))
(cond (decide (tu>1000))
(some ([.oi 9],[]))
(cond ((eu.length:Int)==0)
(some ([.oi 2],[]))
(cond (decide ((eu.length:Int)>4))
(some ([.oi 3],[]))
(goF E (aa yl) F128 0 m xn (xt eu (eu.length:Int) 0 cu qu tu eu)))))))))):=by kernel_rfl
theorem Iw (m:Nat)(t46:RL)(t47 t48 b0 b0_1 b0_2:Int)(b0_3:RL):goF E (aa yl) F128 0 (m+1) xn (xt t46 t47 t48 b0 b0_1 b0_2 b0_3)=
(cond (decide (t48<t47))
(cond (inB t48 t46.length)
(cond ((jV (nr (rA t46 (Int.toNat t48)) 0) (ns (rA t46 (Int.toNat t48)) 1) (ns (rA t46 (Int.toNat t48)) 2) (nr (rA t46 (Int.toNat t48)) 3) (ns (rA t46 (Int.toNat t48)) 4)) !=0)
(some ([.oi (jV (nr (rA t46 (Int.toNat t48)) 0) (ns (rA t46 (Int.toNat t48)) 1) (ns (rA t46 (Int.toNat t48)) 2) (nr (rA t46 (Int.toNat t48)) 3) (ns (rA t46 (Int.toNat t48)) 4))],[]))
(goF E (aa yl) F128 0 m xn (xt t46 t47 (IntKind.wrap .i64 (t48+1)) b0 b0_1 b0_2 b0_3))) none)
(cond (decide (b0_3.length<9223372036854775808))
(cond (fI b0_3)
(cond (b0_2 !=0)
(some ([.oi 2],[]))
(cond (!(fI b0_3))
(cond (decide ((b0_3.length:Int)>1))
(some ([.oi 2],[]))
(some ([.oi 0],[])))
(some ([.oi 0],[]))))
(cond (!(fI b0_3))
(cond (decide ((b0_3.length:Int)>1))
(some ([.oi 2],[]))
(some ([.oi 0],[])))
(some ([.oi 0],[])))) none)):=by kernel_rfl
noncomputable def DP :List AItem:=F73.at [.snd,.snd,.fst,.snd,.sub,.head]
def D4 (t3:Int)(b0:Int)(b0_1:Int)(b0_2:Int)(b0_3:RL):St:=⟨[(1,.one (.ptr 0 0)),(3,.oi t3)],[.var [.i b0,.i b0_1,.i b0_2,.sl false 136 b0_3]]⟩
theorem e73 (m:Nat)(cu qu tu:Int)(eu:RL):aj E (aa yc) (m+1) 73 [.agg [.i cu,.i qu,.i tu,.sl false 136 eu]] []=
(cond (!(d9 cu))
(some ([.oi 9],[]))
(cond (decide (qu<1))
(some ([.oi 9],[]))
(cond (decide (qu>8))
(some ([.oi 9],[]))
(cond (decide (tu<0))
(some ([.oi 9],[]))
(cond (decide (tu>1000))
(some ([.oi 9],[]))
(cond ((eu.length:Int)==0)
(some ([.oi 2],[]))
(cond (decide ((eu.length:Int)>4))
(some ([.oi 3],[]))
(goF E (aa yc) F73 0 m DP (D4 0 cu qu tu eu))))))))):=by kernel_rfl
theorem M4 (m:Nat)(t3 b0 b0_1 b0_2:Int)(b0_3:RL):goF E (aa yc) F73 0 (m+1) DP (D4 t3 b0 b0_1 b0_2 b0_3)=
(cond (decide (t3<(b0_3.length:Int)))
(cond (inB t3 b0_3.length)
(cond ((jV (nr (rA b0_3 (Int.toNat t3)) 0) (ns (rA b0_3 (Int.toNat t3)) 1) (ns (rA b0_3 (Int.toNat t3)) 2) (nr (rA b0_3 (Int.toNat t3)) 3) (ns (rA b0_3 (Int.toNat t3)) 4)) !=0)
(some ([.oi (jV (nr (rA b0_3 (Int.toNat t3)) 0) (ns (rA b0_3 (Int.toNat t3)) 1) (ns (rA b0_3 (Int.toNat t3)) 2) (nr (rA b0_3 (Int.toNat t3)) 3) (ns (rA b0_3 (Int.toNat t3)) 4))],[]))
(goF E (aa yc) F73 0 m DP (D4 (IntKind.wrap .i64 (t3+1)) b0 b0_1 b0_2 b0_3))) none)
(cond (decide (b0_3.length<9223372036854775808))
(cond (!(fI b0_3))
(cond (decide ((b0_3.length:Int)>1))
(some ([.oi 2],[]))
(cond (decide (b0_3.length<9223372036854775808))
(cond (fI b0_3)
(cond (b0_2 !=0)
(some ([.oi 2],[]))
(some ([.oi 0],[])))
(some ([.oi 0],[]))) none))
(cond (decide (b0_3.length<9223372036854775808))
(cond (fI b0_3)
(cond (b0_2 !=0)
(some ([.oi 2],[]))
(some ([.oi 0],[])))
(some ([.oi 0],[]))) none)) none)):=by kernel_rfl
theorem Ru (m:Nat)(cu qu tu:Int)(eu:RL)(cv qv tv:Int)(ev:RL):aj E (aa L73) (m+1) 129 [.agg [.i cu,.i qu,.i tu,.sl false 136 eu],.agg [.i cv,.i qv,.i tv,.sl false 136 ev]] []=
(cond (decide ([[Cell.int .i64 (qm cu cv)],[Cell.int .i64 (qm qu qv)]].length<9223372036854775808))
(some ([.oi (vj [[Cell.int .i64 (qm cu cv)],[Cell.int .i64 (qm qu qv)]])],[])) none):=by kernel_rfl
theorem e74 (m:Nat)(cu qu tu:Int)(eu:RL)(cv qv tv:Int)(ev:RL):aj E (aa Hw) (m+1) 74 [.agg [.i cu,.i qu,.i tu,.sl false 136 eu],.agg [.i cv,.i qv,.i tv,.sl false 136 ev]] []=
(cond (decide (cu<cv))
(some ([.oi (-1)],[]))
(cond (cu==cv)
(cond (decide (qu<qv))
(some ([.oi (-1)],[]))
(cond (cu==cv)
(cond (qu==qv)
(some ([.oi 0],[]))
(some ([.oi 1],[])))
(some ([.oi 1],[]))))
(cond (cu==cv)
(cond (qu==qv)
(some ([.oi 0],[]))
(some ([.oi 1],[])))
(some ([.oi 1],[]))))):=by kernel_rfl
noncomputable def Dx :List AItem:=F92.at [.snd,.snd,.fst,.snd,.sub,.head]
def C8 (t5:Int)(b0:Int)(b0_1:Int)(b0_2:Int)(b0_3:RL)(b1:Int)(b1_1:Int)(b1_2:Int)(b1_3:RL):St:=⟨[(2,.one (.ptr 0 0)),(3,.one (.ptr 1 0)),(5,.oi t5)],[.var [.i b0,.i b0_1,.i b0_2,.sl false 136 b0_3],.var [.i b1,.i b1_1,.i b1_2,.sl false 136 b1_3]]⟩
theorem e92 (m:Nat)(cu qu tu:Int)(eu:RL)(cv qv tv:Int)(ev:RL):aj E (aa L74) (m+1) 92 [.agg [.i cu,.i qu,.i tu,.sl false 136 eu],.agg [.i cv,.i qv,.i tv,.sl false 136 ev]] []=
(cond (cu !=cv)
(some ([.ob false],[]))
(cond (qu !=qv)
(some ([.ob false],[]))
(cond (tu !=tv)
(some ([.ob false],[]))
(cond ((eu.length:Int) !=(ev.length:Int))
(some ([.ob false],[]))
(goF E (aa L74) F92 0 m Dx (C8 0 cu qu tu eu cv qv tv ev)))))):=by kernel_rfl
theorem Mi (m:Nat)(t5 b0 b0_1 b0_2:Int)(b0_3:RL)(b1 b1_1 b1_2:Int)(b1_3:RL):goF E (aa L74) F92 0 (m+1) Dx (C8 t5 b0 b0_1 b0_2 b0_3 b1 b1_1 b1_2 b1_3)=
(cond (decide (t5<(b0_3.length:Int)))
(cond (inB t5 b0_3.length)
(cond (inB t5 b1_3.length)
(cond (!(((nr (rA b0_3 (Int.toNat t5)) 0)==(nr (rA b1_3 (Int.toNat t5)) 0))&&(((ns (rA b0_3 (Int.toNat t5)) 1)==(ns (rA b1_3 (Int.toNat t5)) 1))&&(((ns (rA b0_3 (Int.toNat t5)) 2)==(ns (rA b1_3 (Int.toNat t5)) 2))&&(((nr (rA b0_3 (Int.toNat t5)) 3)==(nr (rA b1_3 (Int.toNat t5)) 3))&&(((ns (rA b0_3 (Int.toNat t5)) 4)==(ns (rA b1_3 (Int.toNat t5)) 4))&&true))))))
(some ([.ob false],[]))
(goF E (aa L74) F92 0 m Dx (C8 (IntKind.wrap .i64 (t5+1)) b0 b0_1 b0_2 b0_3 b1 b1_1 b1_2 b1_3))) none) none)
(some ([.ob true],[]))):=by kernel_rfl
theorem Qz (m:Nat)(x:RL)(s:List UInt8):aj E (aa L92) (m+1) 123 [.or x,.one (.str s)] []=
(cond (jo x (IntKind.wrap .u64 (s.length:Int)))
(cond (cb ((x++bc (IntKind.wrap .u64 (s.length:Int))).length+s.length))
(some ([.one (.sl true 5 ((x++bc (IntKind.wrap .u64 (s.length:Int)))++bK s))],[])) none) none):=by kernel_rfl
theorem QX (m:Nat)(x:RL)(v:Int):aj E (aa HI) (m+1) 124 [.or x,.oi v] []=
(cond (jo x (m7 .u64 (iA .u64 (IntKind.wrap .u64 v) 1) (IntKind.wrap .u64 (nD .i64 v 63))))
(some ([.one (.sl true 5 (x++bc (m7 .u64 (iA .u64 (IntKind.wrap .u64 v) 1) (IntKind.wrap .u64 (nD .i64 v 63)))))],[])) none):=by kernel_rfl
noncomputable def xz :List AItem:=F100.at [.snd,.snd,.fst,.snd,.sub,.head]
def yx (t0:RL)(t5:RL)(t19:RL)(t20:Int)(t21:Int)(b0:Int)(b0_1:Int)(b0_2:Int)(b0_3:RL):St:=⟨[(0,.or t0),(3,.one (.ptr 0 0)),(5,.or t5),(19,.one (.sl false 3 t19)),(20,.oi t20),(21,.oi t21)],[.var [.i b0,.i b0_1,.i b0_2,.sl false 136 b0_3]]⟩
noncomputable def xy :List AItem:=F100.at [.snd,.snd,.snd,.fst,.snd,.sub,.head]
def yi (t0:RL)(t5:RL)(t31:RL)(t32:Int)(t33:Int):St:=⟨[(0,.or t0),(5,.or t5),(31,.one (.sl false 136 t31)),(32,.oi t32),(33,.oi t33)],[]⟩
theorem Rw (m:Nat)(x:RL)(cu qu tu:Int)(eu:RL):aj E (aa js) (m+1) 100 [.or x,.agg [.i cu,.i qu,.i tu,.sl false 136 eu]] []=
(goF E (aa js) F100 0 m xz (yx x ([]:RL) [[Cell.int .i64 cu],[Cell.int .i64 qu],[Cell.int .i64 tu],[Cell.int .i64 (eu.length:Int)]] 4 0 cu qu tu eu)):=by kernel_rfl
theorem GZ (m:Nat)(t0 t5 t19:RL)(t20 t21 b0 b0_1 b0_2:Int)(b0_3:RL):goF E (aa js) F100 0 (m+1) xz (yx t0 t5 t19 t20 t21 b0 b0_1 b0_2 b0_3)=
(cond (decide (t21<t20))
(cond (inB t21 t19.length)
(cond (jo t5 (IntKind.wrap .u64 (nr (rA t19 (Int.toNat t21)) 0)))
(goF E (aa js) F100 0 m xz (yx t0 (t5++bc (IntKind.wrap .u64 (nr (rA t19 (Int.toNat t21)) 0))) t19 t20 (IntKind.wrap .i64 (t21+1)) b0 b0_1 b0_2 b0_3)) none) none)
(goF E (aa js) F100 0 m xy (yi t0 t5 b0_3 (b0_3.length:Int) 0))):=by kernel_rfl
theorem Ip (m:Nat)(t0 t5 t31:RL)(t32 t33:Int):goF E (aa js) F100 0 (m+1) xy (yi t0 t5 t31 t32 t33)=
(cond (decide (t33<t32))
(cond (inB t33 t31.length)
(cond (jo t5 (IntKind.wrap .u64 (nr (rA t31 (Int.toNat t33)) 0)))
(cond (jn (t5++bc (IntKind.wrap .u64 (nr (rA t31 (Int.toNat t33)) 0))) (ns (rA t31 (Int.toNat t33)) 1))
(cond (jn ((t5++bc (IntKind.wrap .u64 (nr (rA t31 (Int.toNat t33)) 0)))++cz (ns (rA t31 (Int.toNat t33)) 1)) (ns (rA t31 (Int.toNat t33)) 2))
(cond (jG (((t5++bc (IntKind.wrap .u64 (nr (rA t31 (Int.toNat t33)) 0)))++cz (ns (rA t31 (Int.toNat t33)) 1))++cz (ns (rA t31 (Int.toNat t33)) 2))&&okI (nr (rA t31 (Int.toNat t33)) 3))
(cond (jn ((((t5++bc (IntKind.wrap .u64 (nr (rA t31 (Int.toNat t33)) 0)))++cz (ns (rA t31 (Int.toNat t33)) 1))++cz (ns (rA t31 (Int.toNat t33)) 2))++bc (zig (nr (rA t31 (Int.toNat t33)) 3))) (ns (rA t31 (Int.toNat t33)) 4))
(goF E (aa js) F100 0 m xy (yi t0 (((((t5++bc (IntKind.wrap .u64 (nr (rA t31 (Int.toNat t33)) 0)))++cz (ns (rA t31 (Int.toNat t33)) 1))++cz (ns (rA t31 (Int.toNat t33)) 2))++bc (zig (nr (rA t31 (Int.toNat t33)) 3)))++cz (ns (rA t31 (Int.toNat t33)) 4)) t31 t32 (IntKind.wrap .i64 (t33+1)))) none) none) none) none) none) none)
(cond (inB (t0.length:Int) (t0.length+1))
(cond (decide ((t0.length:Int)=(t0.length:Int)))
(cond (cb ((bA t0 (Int.toNat (t0.length:Int))).length+t5.length))
(some ([.one (.sl true 5 ((bA t0 (Int.toNat (t0.length:Int)))++t5))],[])) none) none) none)):=by kernel_rfl
noncomputable def mz :List AItem:=F100.at [.snd,.snd,.fst,.snd,.sub,.head]
def mV (t0:RL)(t5:RL)(t19:RL)(t20:Int)(t21:Int)(b0:Int)(b0_1:Int)(b0_2:Int)(b0_3:RL):St:=⟨[(0,.one (.sl true 5 t0)),(3,.one (.ptr 0 0)),(5,.or t5),(19,.one (.sl false 3 t19)),(20,.oi t20),(21,.oi t21)],[.var [.i b0,.i b0_1,.i b0_2,.sl false 136 b0_3]]⟩
noncomputable def mA :List AItem:=F100.at [.snd,.snd,.snd,.fst,.snd,.sub,.head]
def mL (t0:RL)(t5:RL)(t31:RL)(t32:Int)(t33:Int):St:=⟨[(0,.one (.sl true 5 t0)),(5,.or t5),(31,.one (.sl false 136 t31)),(32,.oi t32),(33,.oi t33)],[]⟩
theorem LY (m:Nat)(cu qu tu:Int)(eu:RL):aj E (aa js) (m+1) 100 [.one (.nils),.agg [.i cu,.i qu,.i tu,.sl false 136 eu]] []=
(goF E (aa js) F100 0 m mz (mV ([]:RL) ([]:RL) [[Cell.int .i64 cu],[Cell.int .i64 qu],[Cell.int .i64 tu],[Cell.int .i64 (eu.length:Int)]] 4 0 cu qu tu eu)):=by kernel_rfl
theorem vG (m:Nat)(t0 t5 t19:RL)(t20 t21 b0 b0_1 b0_2:Int)(b0_3:RL):goF E (aa js) F100 0 (m+1) mz (mV t0 t5 t19 t20 t21 b0 b0_1 b0_2 b0_3)=
(cond (decide (t21<t20))
(cond (inB t21 t19.length)
(cond (jo t5 (IntKind.wrap .u64 (nr (rA t19 (Int.toNat t21)) 0)))
(goF E (aa js) F100 0 m mz (mV t0 (t5++bc (IntKind.wrap .u64 (nr (rA t19 (Int.toNat t21)) 0))) t19 t20 (IntKind.wrap .i64 (t21+1)) b0 b0_1 b0_2 b0_3)) none) none)
(goF E (aa js) F100 0 m mA (mL t0 t5 b0_3 (b0_3.length:Int) 0))):=by kernel_rfl
theorem wS (m:Nat)(t0 t5 t31:RL)(t32 t33:Int):goF E (aa js) F100 0 (m+1) mA (mL t0 t5 t31 t32 t33)=
(cond (decide (t33<t32))
(cond (inB t33 t31.length)
(cond (jo t5 (IntKind.wrap .u64 (nr (rA t31 (Int.toNat t33)) 0)))
(cond (jn (t5++bc (IntKind.wrap .u64 (nr (rA t31 (Int.toNat t33)) 0))) (ns (rA t31 (Int.toNat t33)) 1))
(cond (jn ((t5++bc (IntKind.wrap .u64 (nr (rA t31 (Int.toNat t33)) 0)))++cz (ns (rA t31 (Int.toNat t33)) 1)) (ns (rA t31 (Int.toNat t33)) 2))
(cond (jG (((t5++bc (IntKind.wrap .u64 (nr (rA t31 (Int.toNat t33)) 0)))++cz (ns (rA t31 (Int.toNat t33)) 1))++cz (ns (rA t31 (Int.toNat t33)) 2))&&okI (nr (rA t31 (Int.toNat t33)) 3))
(cond (jn ((((t5++bc (IntKind.wrap .u64 (nr (rA t31 (Int.toNat t33)) 0)))++cz (ns (rA t31 (Int.toNat t33)) 1))++cz (ns (rA t31 (Int.toNat t33)) 2))++bc (zig (nr (rA t31 (Int.toNat t33)) 3))) (ns (rA t31 (Int.toNat t33)) 4))
(goF E (aa js) F100 0 m mA (mL t0 (((((t5++bc (IntKind.wrap .u64 (nr (rA t31 (Int.toNat t33)) 0)))++cz (ns (rA t31 (Int.toNat t33)) 1))++cz (ns (rA t31 (Int.toNat t33)) 2))++bc (zig (nr (rA t31 (Int.toNat t33)) 3)))++cz (ns (rA t31 (Int.toNat t33)) 4)) t31 t32 (IntKind.wrap .i64 (t33+1)))) none) none) none) none) none) none)
(cond (inB (t0.length:Int) (t0.length+1))
(cond (decide ((t0.length:Int)=(t0.length:Int)))
(cond (cb ((bA t0 (Int.toNat (t0.length:Int))).length+t5.length))
(some ([.one (.sl true 5 ((bA t0 (Int.toNat (t0.length:Int)))++t5))],[])) none) none) none)):=by kernel_rfl
theorem RS (m:Nat)(x:RL):aj E (aa Gy) (m+1) 155 [.or x] []=
(cond (aI x)
(cond ((aD x).2.2 !=0)
(some ([.oi 0,.oi 0,.oi (aD x).2.2],[]))
(some ([.oi (m7 .i64 (IntKind.wrap .i64 (nD .u64 (aD x).1 1)) (IntKind.wrap .i64 (0 - (IntKind.wrap .i64 (GX .u64 (aD x).1 1))))),.oi (aD x).2.1,.oi 0],[]))) none):=by kernel_rfl
theorem Qy (m:Nat)(x:RL):aj E (aa HW) (m+1) 150 [.or x] []=
(cond (aI x)
(cond ((aD x).2.2 !=0)
(some ([.oi 0,.oi 0,.oi (aD x).2.2],[]))
(cond ((Int.tmod (aD x).1 2)==0)
(some ([.oi (IntKind.wrap .i64 (IntKind.wrap .u64 (Int.tdiv (aD x).1 2))),.oi (aD x).2.1,.oi 0],[]))
(some ([.oi (IntKind.wrap .i64 ((IntKind.wrap .i64 (0 - (IntKind.wrap .i64 (IntKind.wrap .u64 (Int.tdiv (aD x).1 2))))) - 1)),.oi (aD x).2.1,.oi 0],[])))) none):=by kernel_rfl
theorem SN (m:Nat)(x:RL):aj E (aa FU) (m+1) 154 [.or x] []=
(cond (aI x)
(cond ((aD x).2.2 !=0)
(some ([.one (.str ([]:List UInt8)),.oi 0,.oi (aD x).2.2],[]))
(cond (decide ((aD x).1>(IntKind.wrap .u64 (IntKind.wrap .i64 ((x.length:Int) - (aD x).2.1)))))
(some ([.one (.str ([]:List UInt8)),.oi 0,.oi 1],[]))
(cond (inB (IntKind.wrap .i64 ((aD x).2.1+(IntKind.wrap .i64 (aD x).1))) (x.length+1))
(cond (inB (aD x).2.1 ((Int.toNat (IntKind.wrap .i64 ((aD x).2.1+(IntKind.wrap .i64 (aD x).1))))+1))
(some ([.one (.str (ii (dA x (Int.toNat (aD x).2.1) (Int.toNat (IntKind.wrap .i64 ((aD x).2.1+(IntKind.wrap .i64 (aD x).1))))))),.oi (IntKind.wrap .i64 ((aD x).2.1+(IntKind.wrap .i64 (aD x).1))),.oi 0],[])) none) none))) none):=by kernel_rfl
theorem RY (m:Nat)(x:RL):aj E (aa FY) (m+1) 149 [.or x] []=
(cond (aI x)
(cond ((aD x).2.2 !=0)
(some ([.one (.str ([]:List UInt8)),.oi 0,.oi (aD x).2.2],[]))
(cond (decide ((aD x).1>(IntKind.wrap .u64 (IntKind.wrap .i64 ((x.length:Int) - (aD x).2.1)))))
(some ([.one (.str ([]:List UInt8)),.oi 0,.oi 1],[]))
(cond (inB (IntKind.wrap .i64 ((aD x).2.1+(IntKind.wrap .i64 (aD x).1))) (x.length+1))
(cond (inB (aD x).2.1 ((Int.toNat (IntKind.wrap .i64 ((aD x).2.1+(IntKind.wrap .i64 (aD x).1))))+1))
(some ([.one (.str (ii (dA x (Int.toNat (aD x).2.1) (Int.toNat (IntKind.wrap .i64 ((aD x).2.1+(IntKind.wrap .i64 (aD x).1))))))),.oi (IntKind.wrap .i64 ((aD x).2.1+(IntKind.wrap .i64 (aD x).1))),.oi 0],[])) none) none))) none):=by kernel_rfl
theorem Q8 (m:Nat)(n z:Int)(b:RL)(o e:Int):aj E (aa G8) (m+1) 146 [.one (.ptr 0 0),.oi n,.oi z] [.var [.r b,.i o,.i e]]=
(some ([],[.var [.r b,.i (IntKind.wrap .i64 (o+n)),.i z]])):=by kernel_rfl
theorem Sl (m:Nat)(b:RL)(o e:Int):aj E (aa H8) (m+1) 135 [.one (.ptr 0 0)] [.var [.r b,.i o,.i e]]=
(cond (e !=0)
(some ([.oi 0],[.var [.r b,.i o,.i e]]))
(cond (inB o (b.length+1))
(cond (aI (ag b (Int.toNat o)))
(cond ((aD (ag b (Int.toNat o))).2.2==0)
(cond (decide ((aD (ag b (Int.toNat o))).1>2147483647))
(cond (j5 o 0)
(some ([.oi 0],[.var [.r b,.i (o+0),.i 9]])) none)
(cond (j5 o (aD (ag b (Int.toNat o))).2.1)
(some ([.oi (IntKind.wrap .i64 (aD (ag b (Int.toNat o))).1)],[.var [.r b,.i (o+(aD (ag b (Int.toNat o))).2.1),.i (aD (ag b (Int.toNat o))).2.2]])) none))
(cond (j5 o (aD (ag b (Int.toNat o))).2.1)
(some ([.oi (IntKind.wrap .i64 (aD (ag b (Int.toNat o))).1)],[.var [.r b,.i (o+(aD (ag b (Int.toNat o))).2.1),.i (aD (ag b (Int.toNat o))).2.2]])) none)) none) none)):=by kernel_rfl
theorem Td (m:Nat)(b:RL)(o e:Int):aj E (aa Hs) (m+1) 147 [.one (.ptr 0 0)] [.var [.r b,.i o,.i e]]=
(cond (e !=0)
(some ([.one (.str ([]:List UInt8))],[.var [.r b,.i o,.i e]]))
(cond (inB o (b.length+1))
(cond (aI (ag b (Int.toNat o)))
(cond (j5 o (cT (ag b (Int.toNat o))).2.1)
(some ([.one (.str (cT (ag b (Int.toNat o))).1)],[.var [.r b,.i (o+(cT (ag b (Int.toNat o))).2.1),.i (cT (ag b (Int.toNat o))).2.2]])) none) none) none)):=by kernel_rfl
theorem Tb (m:Nat)(b:RL)(o e:Int):aj E (aa Jn) (m+1) 148 [.one (.ptr 0 0)] [.var [.r b,.i o,.i e]]=
(cond (e !=0)
(some ([.oi 0],[.var [.r b,.i o,.i e]]))
(cond (inB o (b.length+1))
(cond (aI (ag b (Int.toNat o)))
(cond (j5 o (fg (ag b (Int.toNat o))).2.1)
(some ([.oi (fg (ag b (Int.toNat o))).1],[.var [.r b,.i (o+(fg (ag b (Int.toNat o))).2.1),.i (fg (ag b (Int.toNat o))).2.2]])) none) none) none)):=by kernel_rfl
theorem Tp (m:Nat)(b:RL)(o e:Int):aj E (aa Hm) (m+1) 136 [.one (.ptr 0 0)] [.var [.r b,.i o,.i e]]=
(cond (aT b o)
(cond (aT b (af b o e).2.1)
(cond (aT b (aU b (af b o e).2.1 (af b o e).2.2).2.1)
(cond (aT b (aU b (aU b (af b o e).2.1 (af b o e).2.2).2.1 (aU b (af b o e).2.1 (af b o e).2.2).2.2).2.1)
(cond (aT b (ip b (aU b (aU b (af b o e).2.1 (af b o e).2.2).2.1 (aU b (af b o e).2.1 (af b o e).2.2).2.2).2.1 (aU b (aU b (af b o e).2.1 (af b o e).2.2).2.1 (aU b (af b o e).2.1 (af b o e).2.2).2.2).2.2).2.1)
(some ([.agg [.i (af b o e).1,.str (aU b (af b o e).2.1 (af b o e).2.2).1,.str (aU b (aU b (af b o e).2.1 (af b o e).2.2).2.1 (aU b (af b o e).2.1 (af b o e).2.2).2.2).1,.i (ip b (aU b (aU b (af b o e).2.1 (af b o e).2.2).2.1 (aU b (af b o e).2.1 (af b o e).2.2).2.2).2.1 (aU b (aU b (af b o e).2.1 (af b o e).2.2).2.1 (aU b (af b o e).2.1 (af b o e).2.2).2.2).2.2).1,.str (aU b (ip b (aU b (aU b (af b o e).2.1 (af b o e).2.2).2.1 (aU b (af b o e).2.1 (af b o e).2.2).2.2).2.1 (aU b (aU b (af b o e).2.1 (af b o e).2.2).2.1 (aU b (af b o e).2.1 (af b o e).2.2).2.2).2.2).2.1 (ip b (aU b (aU b (af b o e).2.1 (af b o e).2.2).2.1 (aU b (af b o e).2.1 (af b o e).2.2).2.2).2.1 (aU b (aU b (af b o e).2.1 (af b o e).2.2).2.1 (aU b (af b o e).2.1 (af b o e).2.2).2.2).2.2).2.2).1]],[.var [.r b,.i (aU b (ip b (aU b (aU b (af b o e).2.1 (af b o e).2.2).2.1 (aU b (af b o e).2.1 (af b o e).2.2).2.2).2.1 (aU b (aU b (af b o e).2.1 (af b o e).2.2).2.1 (aU b (af b o e).2.1 (af b o e).2.2).2.2).2.2).2.1 (ip b (aU b (aU b (af b o e).2.1 (af b o e).2.2).2.1 (aU b (af b o e).2.1 (af b o e).2.2).2.2).2.1 (aU b (aU b (af b o e).2.1 (af b o e).2.2).2.1 (aU b (af b o e).2.1 (af b o e).2.2).2.2).2.2).2.2).2.1,.i (aU b (ip b (aU b (aU b (af b o e).2.1 (af b o e).2.2).2.1 (aU b (af b o e).2.1 (af b o e).2.2).2.2).2.1 (aU b (aU b (af b o e).2.1 (af b o e).2.2).2.1 (aU b (af b o e).2.1 (af b o e).2.2).2.2).2.2).2.1 (ip b (aU b (aU b (af b o e).2.1 (af b o e).2.2).2.1 (aU b (af b o e).2.1 (af b o e).2.2).2.2).2.1 (aU b (aU b (af b o e).2.1 (af b o e).2.2).2.1 (aU b (af b o e).2.1 (af b o e).2.2).2.2).2.2).2.2).2.2]])) none) none) none) none) none):=by kernel_rfl
noncomputable def mf :List AItem:=F118.at [.snd,.snd,.snd,.snd,.snd,.snd,.snd,.fst,.snd,.sub,.head]
def mb (t7:Int)(t8:Int)(b0:Int)(b0_1:Int)(b0_2:Int)(b0_3:RL)(b1:RL)(b1_1:Int)(b1_2:Int)(b2:Int)(b2_1:Int)(b2_2:Int)(b2_3:RL):St:=⟨[(2,.one (.ptr 0 0)),(5,.one (.ptr 1 0)),(6,.one (.ptr 2 0)),(7,.oi t7),(8,.oi t8)],[.var [.i b0,.i b0_1,.i b0_2,.sl true 136 b0_3],.var [.r b1,.i b1_1,.i b1_2],.var [.i b2,.i b2_1,.i b2_2,.sl true 136 b2_3]]⟩
theorem Ov (m:Nat)(x:RL):aj E (aa qe) (m+1) 118 [.or x] []=
(cond (aT x 0)
(cond (aT x (af x 0 0).2.1)
(cond (aT x (af x (af x 0 0).2.1 (af x 0 0).2.2).2.1)
(cond (aT x (af x (af x (af x 0 0).2.1 (af x 0 0).2.2).2.1 (af x (af x 0 0).2.1 (af x 0 0).2.2).2.2).2.1)
(cond ((af x (af x (af x (af x 0 0).2.1 (af x 0 0).2.2).2.1 (af x (af x 0 0).2.1 (af x 0 0).2.2).2.2).2.1 (af x (af x (af x 0 0).2.1 (af x 0 0).2.2).2.1 (af x (af x 0 0).2.1 (af x 0 0).2.2).2.2).2.2).2.2==0)
(cond (decide ((af x (af x (af x (af x 0 0).2.1 (af x 0 0).2.2).2.1 (af x (af x 0 0).2.1 (af x 0 0).2.2).2.2).2.1 (af x (af x (af x 0 0).2.1 (af x 0 0).2.2).2.1 (af x (af x 0 0).2.1 (af x 0 0).2.2).2.2).2.2).1>4))
(goF E (aa qe) F118 0 m mf (mb (af x (af x (af x (af x 0 0).2.1 (af x 0 0).2.2).2.1 (af x (af x 0 0).2.1 (af x 0 0).2.2).2.2).2.1 (af x (af x (af x 0 0).2.1 (af x 0 0).2.2).2.1 (af x (af x 0 0).2.1 (af x 0 0).2.2).2.2).2.2).1 0 0 0 0 ([]:RL) x (af x (af x (af x (af x 0 0).2.1 (af x 0 0).2.2).2.1 (af x (af x 0 0).2.1 (af x 0 0).2.2).2.2).2.1 (af x (af x (af x 0 0).2.1 (af x 0 0).2.2).2.1 (af x (af x 0 0).2.1 (af x 0 0).2.2).2.2).2.2).2.1 3 (af x 0 0).1 (af x (af x 0 0).2.1 (af x 0 0).2.2).1 (af x (af x (af x 0 0).2.1 (af x 0 0).2.2).2.1 (af x (af x 0 0).2.1 (af x 0 0).2.2).2.2).1 ([]:RL)))
(goF E (aa qe) F118 0 m mf (mb (af x (af x (af x (af x 0 0).2.1 (af x 0 0).2.2).2.1 (af x (af x 0 0).2.1 (af x 0 0).2.2).2.2).2.1 (af x (af x (af x 0 0).2.1 (af x 0 0).2.2).2.1 (af x (af x 0 0).2.1 (af x 0 0).2.2).2.2).2.2).1 0 0 0 0 ([]:RL) x (af x (af x (af x (af x 0 0).2.1 (af x 0 0).2.2).2.1 (af x (af x 0 0).2.1 (af x 0 0).2.2).2.2).2.1 (af x (af x (af x 0 0).2.1 (af x 0 0).2.2).2.1 (af x (af x 0 0).2.1 (af x 0 0).2.2).2.2).2.2).2.1 (af x (af x (af x (af x 0 0).2.1 (af x 0 0).2.2).2.1 (af x (af x 0 0).2.1 (af x 0 0).2.2).2.2).2.1 (af x (af x (af x 0 0).2.1 (af x 0 0).2.2).2.1 (af x (af x 0 0).2.1 (af x 0 0).2.2).2.2).2.2).2.2 (af x 0 0).1 (af x (af x 0 0).2.1 (af x 0 0).2.2).1 (af x (af x (af x 0 0).2.1 (af x 0 0).2.2).2.1 (af x (af x 0 0).2.1 (af x 0 0).2.2).2.2).1 ([]:RL))))
(goF E (aa qe) F118 0 m mf (mb (af x (af x (af x (af x 0 0).2.1 (af x 0 0).2.2).2.1 (af x (af x 0 0).2.1 (af x 0 0).2.2).2.2).2.1 (af x (af x (af x 0 0).2.1 (af x 0 0).2.2).2.1 (af x (af x 0 0).2.1 (af x 0 0).2.2).2.2).2.2).1 0 0 0 0 ([]:RL) x (af x (af x (af x (af x 0 0).2.1 (af x 0 0).2.2).2.1 (af x (af x 0 0).2.1 (af x 0 0).2.2).2.2).2.1 (af x (af x (af x 0 0).2.1 (af x 0 0).2.2).2.1 (af x (af x 0 0).2.1 (af x 0 0).2.2).2.2).2.2).2.1 (af x (af x (af x (af x 0 0).2.1 (af x 0 0).2.2).2.1 (af x (af x 0 0).2.1 (af x 0 0).2.2).2.2).2.1 (af x (af x (af x 0 0).2.1 (af x 0 0).2.2).2.1 (af x (af x 0 0).2.1 (af x 0 0).2.2).2.2).2.2).2.2 (af x 0 0).1 (af x (af x 0 0).2.1 (af x 0 0).2.2).1 (af x (af x (af x 0 0).2.1 (af x 0 0).2.2).2.1 (af x (af x 0 0).2.1 (af x 0 0).2.2).2.2).1 ([]:RL)))) none) none) none) none):=by kernel_rfl
theorem xS (m:Nat)(t7 t8 b0 b0_1 b0_2:Int)(b0_3 b1:RL)(b1_1 b1_2 b2 b2_1 b2_2:Int)(b2_3:RL):goF E (aa qe) F118 0 (m+1) mf (mb t7 t8 b0 b0_1 b0_2 b0_3 b1 b1_1 b1_2 b2 b2_1 b2_2 b2_3)=
(cond (decide (t8<t7))
(cond (b1_2==0)
(cond (aT b1 b1_1)
(cond (cb (b2_3.length+ [[Cell.int .i64 (gD b1 b1_1 b1_2).1.1,Cell.str (gD b1 b1_1 b1_2).1.2.1,Cell.str (gD b1 b1_1 b1_2).1.2.2.1,Cell.int .i64 (gD b1 b1_1 b1_2).1.2.2.2.1,Cell.str (gD b1 b1_1 b1_2).1.2.2.2.2]].length))
(goF E (aa qe) F118 0 m mf (mb t7 (IntKind.wrap .i64 (t8+1)) b0 b0_1 b0_2 b0_3 b1 (gD b1 b1_1 b1_2).2.1 (gD b1 b1_1 b1_2).2.2 b2 b2_1 b2_2 (b2_3++ [[Cell.int .i64 (gD b1 b1_1 b1_2).1.1,Cell.str (gD b1 b1_1 b1_2).1.2.1,Cell.str (gD b1 b1_1 b1_2).1.2.2.1,Cell.int .i64 (gD b1 b1_1 b1_2).1.2.2.2.1,Cell.str (gD b1 b1_1 b1_2).1.2.2.2.2]]))) none) none)
(cond (b1_2==0)
(cond ((eb b2 b2_1 b2_2 b2_3) !=0)
(some ([.agg [.i 0,.i 0,.i 0,.sl true 136 ([]:RL)],.oi 0,.oi (eb b2 b2_1 b2_2 b2_3)],[]))
(some ([.agg [.i b2,.i b2_1,.i b2_2,.sl true 136 b2_3],.oi b1_1,.oi 0],[])))
(cond (b1_2 !=0)
(some ([.agg [.i 0,.i 0,.i 0,.sl true 136 ([]:RL)],.oi 0,.oi b1_2],[]))
(some ([.agg [.i b2,.i b2_1,.i b2_2,.sl true 136 b2_3],.oi b1_1,.oi 0],[])))))
(cond (b1_2==0)
(cond ((eb b2 b2_1 b2_2 b2_3) !=0)
(some ([.agg [.i 0,.i 0,.i 0,.sl true 136 ([]:RL)],.oi 0,.oi (eb b2 b2_1 b2_2 b2_3)],[]))
(some ([.agg [.i b2,.i b2_1,.i b2_2,.sl true 136 b2_3],.oi b1_1,.oi 0],[])))
(cond (b1_2 !=0)
(some ([.agg [.i 0,.i 0,.i 0,.sl true 136 ([]:RL)],.oi 0,.oi b1_2],[]))
(some ([.agg [.i b2,.i b2_1,.i b2_2,.sl true 136 b2_3],.oi b1_1,.oi 0],[]))))):=by kernel_rfl
theorem S7 (m:Nat)(x:RL):aj E (aa H1) (m+1) 137 [.or x] []=
 let z1:=cT (ag x (Int.toNat (am x).2.1))
 let z2:=IntKind.wrap .i64 ((am x).2.1+z1.2.1)
 let z3:=IntKind.wrap .i64 (z2+(cT (ag x (Int.toNat z2))).2.1)
 let z4:=IntKind.wrap .i64 (z3+(fg (ag x (Int.toNat z3))).2.1)
(cond (aI x)
(cond ((am x).2.2 !=0)
(some ([.agg [.i 0,.str ([]:List UInt8),.str ([]:List UInt8),.i 0,.str ([]:List UInt8)],.oi 0,.oi (am x).2.2],[]))
(cond (inB (am x).2.1 (x.length+1))
(cond (aI (ag x (Int.toNat (am x).2.1)))
(cond (z1.2.2 !=0)
(some ([.agg [.i 0,.str ([]:List UInt8),.str ([]:List UInt8),.i 0,.str ([]:List UInt8)],.oi 0,.oi z1.2.2],[]))
(cond (inB z2 (x.length+1))
(cond (aI (ag x (Int.toNat z2)))
(cond ((cT (ag x (Int.toNat z2))).2.2 !=0)
(some ([.agg [.i 0,.str ([]:List UInt8),.str ([]:List UInt8),.i 0,.str ([]:List UInt8)],.oi 0,.oi (cT (ag x (Int.toNat z2))).2.2],[]))
(cond (inB z3 (x.length+1))
(cond (aI (ag x (Int.toNat z3)))
(cond ((fg (ag x (Int.toNat z3))).2.2 !=0)
(some ([.agg [.i 0,.str ([]:List UInt8),.str ([]:List UInt8),.i 0,.str ([]:List UInt8)],.oi 0,.oi (fg (ag x (Int.toNat z3))).2.2],[]))
(cond (inB z4 (x.length+1))
(cond (aI (ag x (Int.toNat z4)))
(cond ((cT (ag x (Int.toNat z4))).2.2 !=0)
(some ([.agg [.i 0,.str ([]:List UInt8),.str ([]:List UInt8),.i 0,.str ([]:List UInt8)],.oi 0,.oi (cT (ag x (Int.toNat z4))).2.2],[]))
(some ([.agg [.i (am x).1,.str z1.1,.str (cT (ag x (Int.toNat z2))).1,.i (fg (ag x (Int.toNat z3))).1,.str (cT (ag x (Int.toNat z4))).1],.oi (IntKind.wrap .i64 (z4+(cT (ag x (Int.toNat z4))).2.1)),.oi 0],[]))) none) none)) none) none)) none) none)) none) none)) none):=by kernel_rfl
noncomputable def xJ :List AItem:=F120.at [.snd,.snd,.snd,.snd,.snd,.fst,.snd,.sub,.head]
def xH (t0:RL)(t5:RL)(t6:Int)(t9:Int)(b0:Int)(b0_1:Int)(b0_2:Int)(b0_3:RL)(b1:Int)(b1_1:Int)(b1_2:Int)(b1_3:RL):St:=⟨[(0,.or t0),(2,.one (.ptr 0 0)),(5,.one (.sl false 3 t5)),(6,.oi t6),(8,.one (.ptr 1 0)),(9,.oi t9)],[.var [.i b0,.i b0_1,.i b0_2,.sl true 136 b0_3],.var [.i b1,.i b1_1,.i b1_2,.sl true 136 b1_3]]⟩
theorem Nr (m:Nat)(x:RL):aj E (aa xl) (m+1) 120 [.or x] []=
(cond (aI x&&decide (4≤1000))
(cond ((ai x 4).2.2 !=0)
(some ([.agg [.i 0,.i 0,.i 0,.sl true 136 ([]:RL)],.oi 0,.oi (ai x 4).2.2],[]))
(cond (inB 3 (ai x 4).1.length)
(cond (decide ((nr (rA (ai x 4).1 3) 0)>4))
(some ([.agg [.i 0,.i 0,.i 0,.sl true 136 ([]:RL)],.oi 0,.oi 3],[]))
(cond (inB 0 (ai x 4).1.length)
(cond (inB 1 (ai x 4).1.length)
(cond (inB 2 (ai x 4).1.length)
(goF E (aa xl) F120 0 m xJ (xH x (ai x 4).1 (ai x 4).2.1 0 0 0 0 ([]:RL) (nr (rA (ai x 4).1 0) 0) (nr (rA (ai x 4).1 1) 0) (nr (rA (ai x 4).1 2) 0) ([]:RL))) none) none) none)) none)) none):=by kernel_rfl
theorem B8 (m:Nat)(t0 t5:RL)(t6 t9 b0 b0_1 b0_2:Int)(b0_3:RL)(b1 b1_1 b1_2:Int)(b1_3:RL):goF E (aa xl) F120 0 (m+1) xJ (xH t0 t5 t6 t9 b0 b0_1 b0_2 b0_3 b1 b1_1 b1_2 b1_3)=
(cond (inB 3 t5.length)
(cond (decide (t9<(nr (rA t5 3) 0)))
(cond (inB t6 (t0.length+1))
(cond (aI (ag t0 (Int.toNat t6)))
(cond ((cZ (ag t0 (Int.toNat t6))).2.2 !=0)
(some ([.agg [.i 0,.i 0,.i 0,.sl true 136 ([]:RL)],.oi 0,.oi (cZ (ag t0 (Int.toNat t6))).2.2],[]))
(cond (cb (b1_3.length+ [[Cell.int .i64 (cZ (ag t0 (Int.toNat t6))).1.1,Cell.str (cZ (ag t0 (Int.toNat t6))).1.2.1,Cell.str (cZ (ag t0 (Int.toNat t6))).1.2.2.1,Cell.int .i64 (cZ (ag t0 (Int.toNat t6))).1.2.2.2.1,Cell.str (cZ (ag t0 (Int.toNat t6))).1.2.2.2.2]].length))
(goF E (aa xl) F120 0 m xJ (xH t0 t5 (IntKind.wrap .i64 (t6+(cZ (ag t0 (Int.toNat t6))).2.1)) (IntKind.wrap .i64 (t9+1)) b0 b0_1 b0_2 b0_3 b1 b1_1 b1_2 (b1_3++ [[Cell.int .i64 (cZ (ag t0 (Int.toNat t6))).1.1,Cell.str (cZ (ag t0 (Int.toNat t6))).1.2.1,Cell.str (cZ (ag t0 (Int.toNat t6))).1.2.2.1,Cell.int .i64 (cZ (ag t0 (Int.toNat t6))).1.2.2.2.1,Cell.str (cZ (ag t0 (Int.toNat t6))).1.2.2.2.2]]))) none)) none) none)
(cond ((eb b1 b1_1 b1_2 b1_3) !=0)
(some ([.agg [.i 0,.i 0,.i 0,.sl true 136 ([]:RL)],.oi 0,.oi (eb b1 b1_1 b1_2 b1_3)],[]))
(some ([.agg [.i b1,.i b1_1,.i b1_2,.sl true 136 b1_3],.oi t6,.oi 0],[])))) none):=by kernel_rfl
theorem SA (m:Nat)(n:Int):aj E (aa Jo) (m+1) 121 [.oi n] []=
(cond (decide (4≤4611686018427387904))
(cond (inB (aK n 4) [[Cell.str ([97]:List UInt8)],[Cell.str ([98]:List UInt8)],[Cell.str ([99]:List UInt8)],[Cell.str ([120,49]:List UInt8)]].length)
(some ([.one (.str (ns (rA [[Cell.str ([97]:List UInt8)],[Cell.str ([98]:List UInt8)],[Cell.str ([99]:List UInt8)],[Cell.str ([120,49]:List UInt8)]] (Int.toNat (aK n 4))) 0))],[])) none) none):=by kernel_rfl
theorem e97 (m:Nat)(n:Int)(w:Bool):aj E (aa Iy) (m+1) 97 [.oi n,.ob w] []=
(cond (decide (2≤4)&&decide (1≤9223372036854775807))
(cond (decide (2≤4)&&decide (2≤9223372036854775807))
(cond (decide (2≤16)&&decide (3≤9223372036854775807))
(cond w
(cond (decide (2≤4)&&decide (5≤9223372036854775807))
(some ([.agg [.i 1,.str (dD (ad n 4 1)),.str (dD (ad n 4 2)),.i (IntKind.wrap .i64 ((ad n 16 3) - 5)),.str (dD (ad n 4 5))]],[])) none)
(cond (decide (2≤4)&&decide (0≤9223372036854775807))
(cond ((ad n 4 0)==0)
(some ([.agg [.i 2,.str (dD (ad n 4 1)),.str (dD (ad n 4 2)),.i (IntKind.wrap .i64 ((ad n 16 3) - 5)),.str ([]:List UInt8)]],[]))
(cond (decide (2≤4)&&decide (0≤9223372036854775807))
(cond ((ad n 4 0)==1)
(some ([.agg [.i 3,.str (dD (ad n 4 1)),.str (dD (ad n 4 2)),.i (IntKind.wrap .i64 ((ad n 16 3) - 5)),.str ([]:List UInt8)]],[]))
(cond (decide (2≤4)&&decide (0≤9223372036854775807))
(cond ((ad n 4 0)==2)
(cond (decide (2≤4)&&decide (5≤9223372036854775807))
(some ([.agg [.i 4,.str (dD (ad n 4 1)),.str (dD (ad n 4 2)),.i 0,.str (dD (ad n 4 5))]],[])) none)
(some ([.agg [.i 5,.str (dD (ad n 4 1)),.str (dD (ad n 4 2)),.i 0,.str ([]:List UInt8)]],[]))) none)) none)) none)) none) none) none):=by kernel_rfl
noncomputable def Ez :List AItem:=F50.at [.snd,.snd,.snd,.fst,.snd,.sub,.head]
def DW (t2:Int)(t8:Int)(b0:Int)(b0_1:Int)(b0_2:Int)(b0_3:RL)(b1:Int)(b1_1:Int)(b1_2:Int)(b1_3:RL):St:=⟨[(2,.oi t2),(6,.one (.ptr 0 0)),(7,.one (.ptr 1 0)),(8,.oi t8)],[.var [.i b0,.i b0_1,.i b0_2,.sl true 136 b0_3],.var [.i b1,.i b1_1,.i b1_2,.sl true 136 b1_3]]⟩
theorem e50 (m:Nat)(c q n:Int):aj E (aa L97) (m+1) 50 [.oi c,.oi q,.oi n] []=
(cond (decide (2≤3)&&decide (8≤9223372036854775807))
(cond ((ad n 3 8)==0)
(cond (decide (2≤16)&&decide (4≤9223372036854775807))
(some ([.agg [.i c,.i q,.i (ad n 16 4),.sl true 136 [[Cell.int .i64 (eW n true).1,Cell.str (eW n true).2.1,Cell.str (eW n true).2.2.1,Cell.int .i64 (eW n true).2.2.2.1,Cell.str (eW n true).2.2.2.2]]]],[])) none)
(goF E (aa L97) F50 0 m Ez (DW n 0 0 0 0 ([]:RL) c q 0 ([]:RL)))) none):=by kernel_rfl
theorem M2 (m:Nat)(t2 t8 b0 b0_1 b0_2:Int)(b0_3:RL)(b1 b1_1 b1_2:Int)(b1_3:RL):goF E (aa L97) F50 0 (m+1) Ez (DW t2 t8 b0 b0_1 b0_2 b0_3 b1 b1_1 b1_2 b1_3)=
(cond (decide (2≤3)&&decide (9≤9223372036854775807))
(cond (decide (t8≤(ad t2 3 9)))
(cond (decide (1099511627776≤4611686018427387904))
(cond (decide ((IntKind.wrap .i64 (t8+1))=0)) none
(cond (cb (b1_3.length+ [[Cell.int .i64 (eW (IntKind.wrap .i64 (Int.tdiv (aK t2 1099511627776) (IntKind.wrap .i64 (t8+1)))) false).1,Cell.str (eW (IntKind.wrap .i64 (Int.tdiv (aK t2 1099511627776) (IntKind.wrap .i64 (t8+1)))) false).2.1,Cell.str (eW (IntKind.wrap .i64 (Int.tdiv (aK t2 1099511627776) (IntKind.wrap .i64 (t8+1)))) false).2.2.1,Cell.int .i64 (eW (IntKind.wrap .i64 (Int.tdiv (aK t2 1099511627776) (IntKind.wrap .i64 (t8+1)))) false).2.2.2.1,Cell.str (eW (IntKind.wrap .i64 (Int.tdiv (aK t2 1099511627776) (IntKind.wrap .i64 (t8+1)))) false).2.2.2.2]].length))
(goF E (aa L97) F50 0 m Ez (DW t2 (IntKind.wrap .i64 (t8+1)) b0 b0_1 b0_2 b0_3 b1 b1_1 b1_2 (b1_3++ [[Cell.int .i64 (eW (IntKind.wrap .i64 (Int.tdiv (aK t2 1099511627776) (IntKind.wrap .i64 (t8+1)))) false).1,Cell.str (eW (IntKind.wrap .i64 (Int.tdiv (aK t2 1099511627776) (IntKind.wrap .i64 (t8+1)))) false).2.1,Cell.str (eW (IntKind.wrap .i64 (Int.tdiv (aK t2 1099511627776) (IntKind.wrap .i64 (t8+1)))) false).2.2.1,Cell.int .i64 (eW (IntKind.wrap .i64 (Int.tdiv (aK t2 1099511627776) (IntKind.wrap .i64 (t8+1)))) false).2.2.2.1,Cell.str (eW (IntKind.wrap .i64 (Int.tdiv (aK t2 1099511627776) (IntKind.wrap .i64 (t8+1)))) false).2.2.2.2]]))) none)) none)
(some ([.agg [.i b1,.i b1_1,.i b1_2,.sl true 136 b1_3]],[]))) none):=by kernel_rfl
noncomputable def ru :List AItem:=F15.at [.snd,.snd,.fst,.snd,.sub,.head]
def qS (t0:RL)(t3:RL)(t4:Int):St:=⟨[(0,.one (.sl false 3 t0)),(3,.one (.sl true 96 t3)),(4,.oi t4)],[]⟩
noncomputable def xc :List AItem:=F15.at [.snd,.snd,.fst,.snd,.sub,.body,.snd,.fst,.sub,.snd,.snd,.sub,.head]
def wV (t0:RL)(t3:RL)(t4:Int)(t5:Int)(t6:Int):St:=⟨[(0,.one (.sl false 3 t0)),(3,.one (.sl true 96 t3)),(4,.oi t4),(5,.oi t5),(6,.oi t6)],[]⟩
theorem e15 (m:Nat)(l:RL):aj E (aa L50) (m+1) 15 [.one (.sl false 3 l)] []=
(goF E (aa L50) F15 0 m ru (qS l ([]:RL) 0)):=by kernel_rfl
theorem Ms (m:Nat)(t0 t3:RL)(t4:Int):goF E (aa L50) F15 0 (m+1) ru (qS t0 t3 t4)=
(cond (decide (t4<3))
(goF E (aa L50) F15 0 m xc (wV t0 t3 t4 0 0))
(some ([.one (.sl true 96 t3)],[]))):=by kernel_rfl
theorem Jv (m:Nat)(t0 t3:RL)(t4 t5 t6:Int):goF E (aa L50) F15 0 (m+1) xc (wV t0 t3 t4 t5 t6)=
(cond (decide (t6<(t0.length:Int)))
(cond (decide (t6<24))
(cond (inB t6 t0.length)
(cond (decide (2≤3)&&decide (0≤9223372036854775807))
(cond ((ad (nr (rA t0 (Int.toNat t6)) 0) 3 0)==t4)
(cond (decide (t5<8))
(cond (inB t6 t0.length)
(cond (decide (1099511627776≤4611686018427387904))
(cond (cb (t3.length+ [[Cell.int .i64 (IntKind.wrap .i64 (101+t4)),Cell.int .i64 (IntKind.wrap .i64 (t5+1)),Cell.int .i64 (Ah (IntKind.wrap .i64 (Int.tdiv (aK (nr (rA t0 (Int.toNat t6)) 0) 1099511627776) 3))),Cell.slice 136 (rp (IntKind.wrap .i64 (Int.tdiv (aK (nr (rA t0 (Int.toNat t6)) 0) 1099511627776) 3)))]].length))
(goF E (aa L50) F15 0 m xc (wV t0 (t3++ [[Cell.int .i64 (IntKind.wrap .i64 (101+t4)),Cell.int .i64 (IntKind.wrap .i64 (t5+1)),Cell.int .i64 (Ah (IntKind.wrap .i64 (Int.tdiv (aK (nr (rA t0 (Int.toNat t6)) 0) 1099511627776) 3))),Cell.slice 136 (rp (IntKind.wrap .i64 (Int.tdiv (aK (nr (rA t0 (Int.toNat t6)) 0) 1099511627776) 3)))]]) t4 (IntKind.wrap .i64 (t5+1)) (IntKind.wrap .i64 (t6+1)))) none) none) none)
(goF E (aa L50) F15 0 m xc (wV t0 t3 t4 t5 (IntKind.wrap .i64 (t6+1)))))
(goF E (aa L50) F15 0 m xc (wV t0 t3 t4 t5 (IntKind.wrap .i64 (t6+1))))) none) none)
(goF E (aa L50) F15 0 m ru (qS t0 t3 (IntKind.wrap .i64 (t4+1)))))
(goF E (aa L50) F15 0 m ru (qS t0 t3 (IntKind.wrap .i64 (t4+1))))):=by kernel_rfl
noncomputable def nV :List AItem:=F110.at [.snd,.fst,.snd,.sub,.head]
def nB (t0:RL)(t6:RL)(t7:Int)(t8:Int):St:=⟨[(0,.one (.sl false 96 t0)),(6,.one (.sl false 96 t6)),(7,.oi t7),(8,.oi t8)],[]⟩
theorem QP (m:Nat)(c:RL):aj E (aa L15) (m+1) 110 [.one (.sl false 96 c)] []=
(goF E (aa L15) F110 0 m nV (nB c c (c.length:Int) 0)):=by kernel_rfl
theorem IF (m:Nat)(t0 t6:RL)(t7 t8:Int):goF E (aa L15) F110 0 (m+1) nV (nB t0 t6 t7 t8)=
(cond (decide (t8<t7))
(cond (inB t8 t6.length)
(cond ((eb (nr (rA t6 (Int.toNat t8)) 0) (nr (rA t6 (Int.toNat t8)) 1) (nr (rA t6 (Int.toNat t8)) 2) (nl (rA t6 (Int.toNat t8)) 3)) !=0)
(some ([.oi (eb (nr (rA t6 (Int.toNat t8)) 0) (nr (rA t6 (Int.toNat t8)) 1) (nr (rA t6 (Int.toNat t8)) 2) (nl (rA t6 (Int.toNat t8)) 3))],[]))
(cond (decide (t8>0))
(cond (inB (IntKind.wrap .i64 (t8 - 1)) t0.length)
(cond (decide ((ir (nr (rA t6 (Int.toNat t8)) 0) (nr (rA t6 (Int.toNat t8)) 1) (nr (rA t0 (Int.toNat (IntKind.wrap .i64 (t8 - 1)))) 0) (nr (rA t0 (Int.toNat (IntKind.wrap .i64 (t8 - 1)))) 1))≤0))
(some ([.oi 7],[]))
(cond (decide ((nr (rA t6 (Int.toNat t8)) 1)>1))
(cond (t8==0)
(some ([.oi 8],[]))
(cond (inB (IntKind.wrap .i64 (t8 - 1)) t0.length)
(cond ((nr (rA t0 (Int.toNat (IntKind.wrap .i64 (t8 - 1)))) 0) !=(nr (rA t6 (Int.toNat t8)) 0))
(some ([.oi 8],[]))
(cond (inB (IntKind.wrap .i64 (t8 - 1)) t0.length)
(cond ((nr (rA t0 (Int.toNat (IntKind.wrap .i64 (t8 - 1)))) 1) !=(IntKind.wrap .i64 ((nr (rA t6 (Int.toNat t8)) 1) - 1)))
(some ([.oi 8],[]))
(goF E (aa L15) F110 0 m nV (nB t0 t6 t7 (IntKind.wrap .i64 (t8+1))))) none)) none))
(goF E (aa L15) F110 0 m nV (nB t0 t6 t7 (IntKind.wrap .i64 (t8+1)))))) none)
(cond (decide ((nr (rA t6 (Int.toNat t8)) 1)>1))
(cond (t8==0)
(some ([.oi 8],[]))
(cond (inB (IntKind.wrap .i64 (t8 - 1)) t0.length)
(cond ((nr (rA t0 (Int.toNat (IntKind.wrap .i64 (t8 - 1)))) 0) !=(nr (rA t6 (Int.toNat t8)) 0))
(some ([.oi 8],[]))
(cond (inB (IntKind.wrap .i64 (t8 - 1)) t0.length)
(cond ((nr (rA t0 (Int.toNat (IntKind.wrap .i64 (t8 - 1)))) 1) !=(IntKind.wrap .i64 ((nr (rA t6 (Int.toNat t8)) 1) - 1)))
(some ([.oi 8],[]))
(goF E (aa L15) F110 0 m nV (nB t0 t6 t7 (IntKind.wrap .i64 (t8+1))))) none)) none))
(goF E (aa L15) F110 0 m nV (nB t0 t6 t7 (IntKind.wrap .i64 (t8+1))))))) none)
(some ([.oi 0],[]))):=by kernel_rfl
noncomputable def un :List AItem:=F71.at [.snd,.fst,.snd,.sub,.head]
def sE (t0:RL)(t3:Int):St:=⟨[(0,.one (.sl false 96 t0)),(3,.oi t3)],[]⟩
theorem e71 (m:Nat)(c:RL):aj E (aa rT) (m+1) 71 [.one (.sl false 96 c)] []=
(goF E (aa rT) F71 0 m un (sE c 0)):=by kernel_rfl
theorem MV (m:Nat)(t0:RL)(t3:Int):goF E (aa rT) F71 0 (m+1) un (sE t0 t3)=
(cond (decide (t3<(t0.length:Int)))
(cond (inB t3 t0.length)
(cond ((eb (nr (rA t0 (Int.toNat t3)) 0) (nr (rA t0 (Int.toNat t3)) 1) (nr (rA t0 (Int.toNat t3)) 2) (nl (rA t0 (Int.toNat t3)) 3)) !=0)
(some ([.oi (eb (nr (rA t0 (Int.toNat t3)) 0) (nr (rA t0 (Int.toNat t3)) 1) (nr (rA t0 (Int.toNat t3)) 2) (nl (rA t0 (Int.toNat t3)) 3))],[]))
(cond (decide (t3>0))
(cond (inB (IntKind.wrap .i64 (t3 - 1)) t0.length)
(cond (inB t3 t0.length)
(cond (decide ((ir (nr (rA t0 (Int.toNat (IntKind.wrap .i64 (t3 - 1)))) 0) (nr (rA t0 (Int.toNat (IntKind.wrap .i64 (t3 - 1)))) 1) (nr (rA t0 (Int.toNat t3)) 0) (nr (rA t0 (Int.toNat t3)) 1))≥0))
(some ([.oi 7],[]))
(cond (inB t3 t0.length)
(cond (decide ((nr (rA t0 (Int.toNat t3)) 1)>1))
(cond (t3==0)
(some ([.oi 8],[]))
(cond (inB (IntKind.wrap .i64 (t3 - 1)) t0.length)
(cond (inB t3 t0.length)
(cond ((nr (rA t0 (Int.toNat (IntKind.wrap .i64 (t3 - 1)))) 0) !=(nr (rA t0 (Int.toNat t3)) 0))
(some ([.oi 8],[]))
(cond (inB (IntKind.wrap .i64 (t3 - 1)) t0.length)
(cond (inB t3 t0.length)
(cond ((nr (rA t0 (Int.toNat (IntKind.wrap .i64 (t3 - 1)))) 1) !=(IntKind.wrap .i64 ((nr (rA t0 (Int.toNat t3)) 1) - 1)))
(some ([.oi 8],[]))
(goF E (aa rT) F71 0 m un (sE t0 (IntKind.wrap .i64 (t3+1))))) none) none)) none) none))
(goF E (aa rT) F71 0 m un (sE t0 (IntKind.wrap .i64 (t3+1))))) none)) none) none)
(cond (inB t3 t0.length)
(cond (decide ((nr (rA t0 (Int.toNat t3)) 1)>1))
(cond (t3==0)
(some ([.oi 8],[]))
(cond (inB (IntKind.wrap .i64 (t3 - 1)) t0.length)
(cond (inB t3 t0.length)
(cond ((nr (rA t0 (Int.toNat (IntKind.wrap .i64 (t3 - 1)))) 0) !=(nr (rA t0 (Int.toNat t3)) 0))
(some ([.oi 8],[]))
(cond (inB (IntKind.wrap .i64 (t3 - 1)) t0.length)
(cond (inB t3 t0.length)
(cond ((nr (rA t0 (Int.toNat (IntKind.wrap .i64 (t3 - 1)))) 1) !=(IntKind.wrap .i64 ((nr (rA t0 (Int.toNat t3)) 1) - 1)))
(some ([.oi 8],[]))
(goF E (aa rT) F71 0 m un (sE t0 (IntKind.wrap .i64 (t3+1))))) none) none)) none) none))
(goF E (aa rT) F71 0 m un (sE t0 (IntKind.wrap .i64 (t3+1))))) none))) none)
(some ([.oi 0],[]))):=by kernel_rfl
noncomputable def DG :List AItem:=F39.at [.snd,.snd,.fst,.snd,.sub,.head]
def Ds (t0:RL)(t1:RL)(t5:Int):St:=⟨[(0,.one (.sl false 96 t0)),(1,.one (.sl false 96 t1)),(5,.oi t5)],[]⟩
theorem e39 (m:Nat)(c d:RL):aj E (aa L71) (m+1) 39 [.one (.sl false 96 c),.one (.sl false 96 d)] []=
(cond ((c.length:Int) !=(d.length:Int))
(some ([.ob false],[]))
(goF E (aa L71) F39 0 m DG (Ds c d 0))):=by kernel_rfl
theorem ML (m:Nat)(t0 t1:RL)(t5:Int):goF E (aa L71) F39 0 (m+1) DG (Ds t0 t1 t5)=
(cond (decide (t5<(t0.length:Int)))
(cond (inB t5 t0.length)
(cond (inB t5 t1.length)
(cond (decide ((nl (rA t0 (Int.toNat t5)) 3).length<9223372036854775808))
(cond (!(eqU (nr (rA t0 (Int.toNat t5)) 0) (nr (rA t0 (Int.toNat t5)) 1) (nr (rA t0 (Int.toNat t5)) 2) (nl (rA t0 (Int.toNat t5)) 3) (nr (rA t1 (Int.toNat t5)) 0) (nr (rA t1 (Int.toNat t5)) 1) (nr (rA t1 (Int.toNat t5)) 2) (nl (rA t1 (Int.toNat t5)) 3)))
(some ([.ob false],[]))
(goF E (aa L71) F39 0 m DG (Ds t0 t1 (IntKind.wrap .i64 (t5+1))))) none) none) none)
(some ([.ob true],[]))):=by kernel_rfl
noncomputable def Dt :List AItem:=F87.at [.snd,.snd,.snd,.snd,.snd,.fst,.snd,.sub,.head]
def DF (t0:RL)(t5:Int)(t6:Int)(t8:RL)(t9:Int):St:=⟨[(0,.or t0),(5,.oi t5),(6,.oi t6),(8,.one (.sl true 96 t8)),(9,.oi t9)],[]⟩
theorem e87 (m:Nat)(x:RL):aj E (aa L39) (m+1) 87 [.or x] []=
(cond (aI x)
(cond ((am x).2.2 !=0)
(some ([.one (.sl true 96 ([]:RL)),.oi 0,.oi (am x).2.2],[]))
(cond (decide ((am x).1>48))
(some ([.one (.sl true 96 ([]:RL)),.oi 0,.oi 3],[]))
(goF E (aa L39) F87 0 m Dt (DF x (am x).1 (am x).2.1 ([]:RL) 0)))) none):=by kernel_rfl
theorem Gu (m:Nat)(t0:RL)(t5 t6:Int)(t8:RL)(t9:Int):goF E (aa L39) F87 0 (m+1) Dt (DF t0 t5 t6 t8 t9)=
(cond (decide (t9<t5))
(cond (inB t6 (t0.length+1))
(cond (aI (ag t0 (Int.toNat t6)))
(cond ((bY (ag t0 (Int.toNat t6))).2.2.2.2.2 !=0)
(some ([.one (.sl true 96 ([]:RL)),.oi 0,.oi (bY (ag t0 (Int.toNat t6))).2.2.2.2.2],[]))
(cond (cb (t8.length+ [[Cell.int .i64 (bY (ag t0 (Int.toNat t6))).1,Cell.int .i64 (bY (ag t0 (Int.toNat t6))).2.1,Cell.int .i64 (bY (ag t0 (Int.toNat t6))).2.2.1,Cell.slice 136 (bY (ag t0 (Int.toNat t6))).2.2.2.1]].length))
(goF E (aa L39) F87 0 m Dt (DF t0 t5 (IntKind.wrap .i64 (t6+(bY (ag t0 (Int.toNat t6))).2.2.2.2.1)) (t8++ [[Cell.int .i64 (bY (ag t0 (Int.toNat t6))).1,Cell.int .i64 (bY (ag t0 (Int.toNat t6))).2.1,Cell.int .i64 (bY (ag t0 (Int.toNat t6))).2.2.1,Cell.slice 136 (bY (ag t0 (Int.toNat t6))).2.2.2.1]]) (IntKind.wrap .i64 (t9+1)))) none)) none) none)
(some ([.one (.sl true 96 t8),.oi t6,.oi 0],[]))):=by kernel_rfl
noncomputable def Dz :List AItem:=F46.at [.snd,.snd,.fst,.snd,.sub,.head]
def Em (t0:RL)(t3:RL)(t4:Int):St:=⟨[(0,.one (.sl false 96 t0)),(3,.one (.sl false 103 t3)),(4,.oi t4)],[]⟩
theorem e46 (m:Nat)(c:RL):aj E (aa L87) (m+1) 46 [.one (.sl false 96 c)] []=
(goF E (aa L87) F46 0 m Dz (Em c ([]:RL) 0)):=by kernel_rfl
theorem Mh (m:Nat)(t0 t3:RL)(t4:Int):goF E (aa L87) F46 0 (m+1) Dz (Em t0 t3 t4)=
(cond (decide (t4<(t0.length:Int)))
(cond (inB t4 t0.length)
(cond (inB t4 t0.length)
(cond (cN t3)
(cond (Ce t3)
(goF E (aa L87) F46 0 m Dz (Em t0 (ix t3 (nr (rA t0 (Int.toNat t4)) 0) (IntKind.wrap .i64 ((bH t3 (nr (rA t0 (Int.toNat t4)) 0))+1))) (IntKind.wrap .i64 (t4+1)))) none) none) none) none)
(some ([.one (.sl false 103 t3)],[]))):=by kernel_rfl
noncomputable def yI :List AItem:=F47.at [.snd,.snd,.fst,.snd,.sub,.head]
def zO (t0:RL)(t1:RL)(t2:Int)(t8:RL)(t9:Int):St:=⟨[(0,.one (.sl false 96 t0)),(1,.one (.sl false 103 t1)),(2,.oi t2),(8,.one (.sl true 96 t8)),(9,.oi t9)],[]⟩
theorem e47 (m:Nat)(c v:RL)(k:Int):aj E (aa L46) (m+1) 47 [.one (.sl false 96 c),.one (.sl false 103 v),.oi k] []=
(goF E (aa L46) F47 0 m yI (zO c v k ([]:RL) 0)):=by kernel_rfl
theorem Dd (m:Nat)(t0 t1:RL)(t2:Int)(t8:RL)(t9:Int):goF E (aa L46) F47 0 (m+1) yI (zO t0 t1 t2 t8 t9)=
(cond (decide (t9<(t0.length:Int)))
(cond (inB t9 t0.length)
(cond (inB t9 t0.length)
(cond (cN t1)
(cond (decide ((nr (rA t0 (Int.toNat t9)) 1)≤(bH t1 (nr (rA t0 (Int.toNat t9)) 0))))
(goF E (aa L46) F47 0 m yI (zO t0 t1 t2 t8 (IntKind.wrap .i64 (t9+1))))
(cond (decide ((t8.length:Int)≥t2))
(some ([.one (.sl false 96 t8),.ob true],[]))
(cond (inB t9 t0.length)
(cond (cb (t8.length+ [[Cell.int .i64 (nr (rA t0 (Int.toNat t9)) 0),Cell.int .i64 (nr (rA t0 (Int.toNat t9)) 1),Cell.int .i64 (nr (rA t0 (Int.toNat t9)) 2),Cell.slice 136 (nl (rA t0 (Int.toNat t9)) 3)]].length))
(goF E (aa L46) F47 0 m yI (zO t0 t1 t2 (t8++ [[Cell.int .i64 (nr (rA t0 (Int.toNat t9)) 0),Cell.int .i64 (nr (rA t0 (Int.toNat t9)) 1),Cell.int .i64 (nr (rA t0 (Int.toNat t9)) 2),Cell.slice 136 (nl (rA t0 (Int.toNat t9)) 3)]]) (IntKind.wrap .i64 (t9+1)))) none) none))) none) none) none)
(some ([.one (.sl false 96 t8),.ob false],[]))):=by kernel_rfl
noncomputable def Ao :List AItem:=F44.at [.snd,.snd,.fst,.snd,.sub,.head]
def ze (t0:RL)(t1:Int)(t5:RL)(t6:Int):St:=⟨[(0,.one (.sl false 96 t0)),(1,.oi t1),(5,.one (.sl true 96 t5)),(6,.oi t6)],[]⟩
theorem e44 (m:Nat)(c:RL)(k:Int):aj E (aa L47) (m+1) 44 [.one (.sl false 96 c),.oi k] []=
(goF E (aa L47) F44 0 m Ao (ze c k ([]:RL) 0)):=by kernel_rfl
theorem HL (m:Nat)(t0:RL)(t1:Int)(t5:RL)(t6:Int):goF E (aa L47) F44 0 (m+1) Ao (ze t0 t1 t5 t6)=
(cond (decide (t6<(t0.length:Int)))
(cond (inB t6 t0.length)
(cond (inB t6 t0.length)
(cond (decide (2≤9)&&decide ((IntKind.wrap .i64 ((nr (rA t0 (Int.toNat t6)) 0) - 101))≤9223372036854775807))
(cond (decide ((nr (rA t0 (Int.toNat t6)) 1)≤(ad t1 9 (IntKind.wrap .i64 ((nr (rA t0 (Int.toNat t6)) 0) - 101)))))
(cond (inB t6 t0.length)
(cond (cb (t5.length+ [[Cell.int .i64 (nr (rA t0 (Int.toNat t6)) 0),Cell.int .i64 (nr (rA t0 (Int.toNat t6)) 1),Cell.int .i64 (nr (rA t0 (Int.toNat t6)) 2),Cell.slice 136 (nl (rA t0 (Int.toNat t6)) 3)]].length))
(goF E (aa L47) F44 0 m Ao (ze t0 t1 (t5++ [[Cell.int .i64 (nr (rA t0 (Int.toNat t6)) 0),Cell.int .i64 (nr (rA t0 (Int.toNat t6)) 1),Cell.int .i64 (nr (rA t0 (Int.toNat t6)) 2),Cell.slice 136 (nl (rA t0 (Int.toNat t6)) 3)]]) (IntKind.wrap .i64 (t6+1)))) none) none)
(goF E (aa L47) F44 0 m Ao (ze t0 t1 t5 (IntKind.wrap .i64 (t6+1))))) none) none) none)
(some ([.one (.sl false 96 t5)],[]))):=by kernel_rfl
end Go.Proofs.YtejimgikldiajaaGreat
namespace Go.Proofs.YtejimgikldiajaaGreat
open Go.Abs
theorem Ri (n lo hi:Int)(u:Bool):aj E (aa L) 1 138 [.oi n,.oi lo,.oi hi,.ob u] []=some ([.ob (ej n lo hi u)],[]):=by
 rw [SI];unfold ej
 cases u
 · rfl
 · generalize decide (n≥lo)=b
   cases b<;>rfl
theorem k65 (n:Int):aj E (aa FS) 1 65 [.oi n] []=some ([.ob (dt n)],[]):=by
 rw [e65];unfold dt
 generalize decide (n≥1)=b
 cases b<;>rfl
theorem k67 (n:Int):aj E (aa L65) 1 67 [.oi n] []=some ([.ob (ic n)],[]):=by
 rw [e67];unfold ic
 generalize decide (n≥201)=b
 cases b<;>rfl
theorem Ts (k c f:Int):aj E (aa Iq) 1 139 [.agg [.i k,.i c,.i f]] []=some ([.oi (iH k c f)],[]):=by
 rw [R0]
 repeat' (refine cs (fun _=> ?_) (fun _=> ?_))
 all_goals refine congrArg (fun z=>some ([AV.one (AC.int .i64 z)],([]:List Block))) ?_
 all_goals simp only [Bool.not_eq_true',Bool.not_eq_false',bne_iff_ne,bne_eq_false_iff_eq,decide_eq_true_eq,beq_iff_eq,beq_eq_false_iff_ne,decide_eq_false_iff_not,Bool.and_eq_true,Bool.and_eq_false_iff]at*
 all_goals (unfold iH;(repeat' split)<;>omega)
theorem Rc (k c f:Int):aj E (aa L67) 1 145 [.agg [.i k,.i c,.i f]] []=some ([.oi (iH k c f)],[]):=by
 rw [SH]
 repeat' (refine cs (fun _=> ?_) (fun _=> ?_))
 all_goals refine congrArg (fun z=>some ([AV.one (AC.int .i64 z)],([]:List Block))) ?_
 all_goals simp only [dt,Bool.not_eq_true',Bool.not_eq_false',bne_iff_ne,bne_eq_false_iff_eq,decide_eq_true_eq,beq_iff_eq,beq_eq_false_iff_ne,decide_eq_false_iff_not,Bool.and_eq_true,Bool.and_eq_false_iff]at*
 all_goals (unfold iH;(repeat' split)<;>omega)
theorem Jm {n lo hi:Int}{u:Bool}:ej n lo hi u=true↔(u=true∧lo≤n∧n≤hi)∨(u=false∧n=0):=by
 unfold ej
 cases u<;>simp
theorem Jz {n lo hi:Int}{u:Bool}:ej n lo hi u=false↔(u=true∧¬(lo≤n∧n≤hi))∨(u=false∧n≠0):=by
 unfold ej
 cases u<;>simp
theorem Sk (k s w v rk rc rf:Int):aj E (aa Io) 1 125 [.agg [.i k,.i s,.i w,.i v,.i rk,.i rc,.i rf]] []=some ([.oi (dx k s w v rk rc rf)],[]):=by
 rw [Sx]
 repeat' (refine cs (fun _=> ?_) (fun _=> ?_))
 all_goals refine congrArg (fun z=>some ([AV.one (AC.int .i64 z)],([]:List Block))) ?_
 all_goals simp only [Jm,Jz,Bool.not_eq_true',Bool.not_eq_false',bne_iff_ne,bne_eq_false_iff_eq,decide_eq_true_eq,beq_iff_eq,beq_eq_false_iff_ne,decide_eq_false_iff_not,Bool.and_eq_true,Bool.and_eq_false_iff,Bool.true_eq_false,Bool.false_eq_true,and_true,true_and,false_and,or_false,false_or]at*
 all_goals (unfold dx;(repeat' split)<;>omega)
def ms (t6:Bool)(b4 b5 b6:Int):Int:=if t6=true then iH b4 b5 b6 else if b4=0∧b5=0∧b6=0 then 0 else 2
theorem ON (t6 t77:Bool)(b0 b1 b2 b3 b4 b5 b6:Int):goF E (aa df) F133 0 2 fJ (fQ t6 t77 b0 b1 b2 b3 b4 b5 b6)=some ([.oi (if t77=true then 9 else ms t6 b4 b5 b6)],[]):=by
 rw [Nj,OW]
 unfold ms
 cases t77<;>cases t6<;>try rfl
 simp only [cond_false,Bool.false_eq_true,if_false]
 refine cs (fun h=> ?_) (fun h=> ?_)
 · simp at h;rw [if_neg (by omega)]
 · simp at h;rw [if_pos (by omega)]
theorem Ot (t3 t4 t5 t6 t:Bool)(b0 b1 b2 b3 b4 b5 b6:Int):goF E (aa df) F133 0 3 fR (fK t3 t4 t5 t6 t b0 b1 b2 b3 b4 b5 b6)=
 some ([.oi (if t=true∨((t5=true∨t6=true)∧(b3<1∨1000<b3))∨((t3=true∨t4=true)∧b3≠0)then 9 else ms t6 b4 b5 b6)],[]):=by
 rw [N2]
 simp only [ON]
 cases t<;>cases t5<;>cases t6<;>cases t3<;>cases t4
 all_goals simp only [cond_true,cond_false]
 all_goals repeat' (refine cs (fun _=> ?_) (fun _=> ?_))
 all_goals refine congrArg (fun z=>some ([AV.one (AC.int .i64 z)],([]:List Block))) ?_
 all_goals simp only [bne_iff_ne,decide_eq_true_eq,decide_eq_false_iff_not,Bool.true_eq_false,Bool.false_eq_true,and_true,true_and,false_and,or_false,false_or,true_or,or_true,if_true,if_false,or_self,ne_eq]at*
 all_goals ((repeat' split)<;>first | rfl | omega)
theorem O1 (t3 t4 t5 t6 t:Bool)(b0 b1 b2 b3 b4 b5 b6:Int):goF E (aa df) F133 0 4 nH (nS t3 t4 t5 t6 t b0 b1 b2 b3 b4 b5 b6)=
 some ([.oi (if t=true∨((t3=true∨t5=true)∧(b2<1∨9<b2))∨((t4=true∨t6=true)∧b2≠0)∨((t5=true∨t6=true)∧(b3<1∨1000<b3))∨((t3=true∨t4=true)∧b3≠0)then 9 else ms t6 b4 b5 b6)],[]):=by
 rw [Ox]
 simp only [Ot]
 cases t<;>cases t5<;>cases t6<;>cases t3<;>cases t4
 all_goals simp only [cond_true,cond_false]
 all_goals repeat' (refine cs (fun _=> ?_) (fun _=> ?_))
 all_goals refine congrArg (fun z=>some ([AV.one (AC.int .i64 z)],([]:List Block))) ?_
 all_goals simp only [bne_iff_ne,decide_eq_true_eq,decide_eq_false_iff_not,Bool.true_eq_false,Bool.false_eq_true,and_true,true_and,false_and,or_false,false_or,true_or,or_true,if_true,if_false,or_self,ne_eq]at*
 all_goals ((repeat' split)<;>first | rfl | omega)
theorem Qd (k s w v rk rc rf:Int):aj E (aa df) 6 133 [.agg [.i k,.i s,.i w,.i v,.i rk,.i rc,.i rf]] []=some ([.oi (dx k s w v rk rc rf)],[]):=by
 rw [Ta]
 simp only [OV,O1]
 by_cases h1:k=1
 · subst h1
   simp only [Int.reduceBEq,Bool.not_true,Bool.not_false,cond_true,cond_false,dt]
   repeat' (refine cs (fun _=> ?_) (fun _=> ?_))
   all_goals refine congrArg (fun z=>some ([AV.one (AC.int .i64 z)],([]:List Block))) ?_
   all_goals simp only [ms,Bool.not_eq_true',Bool.not_eq_false',bne_iff_ne,bne_eq_false_iff_eq,decide_eq_true_eq,decide_eq_false_iff_not,Bool.and_eq_true,Bool.and_eq_false_iff,Bool.true_eq_false,Bool.false_eq_true,and_true,true_and,false_and,or_false,false_or,true_or,or_true,if_true,if_false,or_self,ne_eq]at*
   all_goals (unfold dx;(repeat' split)<;>omega)
 by_cases h2:k=2
 · subst h2
   simp only [Int.reduceBEq,Bool.not_true,Bool.not_false,cond_true,cond_false,dt]
   repeat' (refine cs (fun _=> ?_) (fun _=> ?_))
   all_goals refine congrArg (fun z=>some ([AV.one (AC.int .i64 z)],([]:List Block))) ?_
   all_goals simp only [ms,Bool.not_eq_true',Bool.not_eq_false',bne_iff_ne,bne_eq_false_iff_eq,decide_eq_true_eq,decide_eq_false_iff_not,Bool.and_eq_true,Bool.and_eq_false_iff,Bool.true_eq_false,Bool.false_eq_true,and_true,true_and,false_and,or_false,false_or,true_or,or_true,if_true,if_false,or_self,ne_eq]at*
   all_goals (unfold dx;(repeat' split)<;>omega)
 by_cases h3:k=3
 · subst h3
   simp only [Int.reduceBEq,Bool.not_true,Bool.not_false,cond_true,cond_false,dt]
   repeat' (refine cs (fun _=> ?_) (fun _=> ?_))
   all_goals refine congrArg (fun z=>some ([AV.one (AC.int .i64 z)],([]:List Block))) ?_
   all_goals simp only [ms,Bool.not_eq_true',Bool.not_eq_false',bne_iff_ne,bne_eq_false_iff_eq,decide_eq_true_eq,decide_eq_false_iff_not,Bool.and_eq_true,Bool.and_eq_false_iff,Bool.true_eq_false,Bool.false_eq_true,and_true,true_and,false_and,or_false,false_or,true_or,or_true,if_true,if_false,or_self,ne_eq]at*
   all_goals (unfold dx;(repeat' split)<;>omega)
 by_cases h4:k=4
 · subst h4
   simp only [Int.reduceBEq,Bool.not_true,Bool.not_false,cond_true,cond_false,dt]
   repeat' (refine cs (fun _=> ?_) (fun _=> ?_))
   all_goals refine congrArg (fun z=>some ([AV.one (AC.int .i64 z)],([]:List Block))) ?_
   all_goals simp only [ms,Bool.not_eq_true',Bool.not_eq_false',bne_iff_ne,bne_eq_false_iff_eq,decide_eq_true_eq,decide_eq_false_iff_not,Bool.and_eq_true,Bool.and_eq_false_iff,Bool.true_eq_false,Bool.false_eq_true,and_true,true_and,false_and,or_false,false_or,true_or,or_true,if_true,if_false,or_self,ne_eq]at*
   all_goals (unfold dx;(repeat' split)<;>omega)
 · have g1:(k==1)=false:=by simpa using h1
   have g2:(k==2)=false:=by simpa using h2
   have g3:(k==3)=false:=by simpa using h3
   have g4:(k==4)=false:=by simpa using h4
   simp only [g1,g2,g3,g4,Bool.not_false,cond_true]
   refine congrArg (fun z=>some ([AV.one (AC.int .i64 z)],([]:List Block))) ?_
   unfold dx
   rw [if_pos (by omega)]
theorem aF {i n:Nat}(h:i<n)(hn:n<9223372036854775808):IntKind.i64.wrap ((i:Int)+1)=((i+1:Nat):Int):=by
 rw [aA (by omega) (by omega)]
 omega
theorem MS (c:RL)(ap np:Int)(hc:c.length<9223372036854775808)(i:Nat)(hi:i<c.length)(q0 q1 q2 q3 q4 q5 q6:Int)(R:List AV×List Block)
 (hr:∃m,goF E (aa nY) F107 0 m sW (tO c c.length ((i+1:Nat):Int) ap np c)=some R):∀(d j:Nat),j+d=i→
 ∃m,goF E (aa nY) F107 0 m sb (tU c c.length i (c.take i) i j ap np c q0 q1 q2 q3 q4 q5 q6)=
  some (if((c.take i).drop j).any (fun q=>(nr q 0==q0)&&(nr q 1==q1))=true then([.one (.int .i64 5)],[])else R)
 | 0,j,hj=>by
  have:j=i:=by omega
  subst this
  obtain⟨m,hm⟩:=hr
  refine⟨m+1, ?_⟩
  rw [GJ]
  refine cf (by simp) ?_
  rw [aF hi hc,hm]
  have:(c.take j).drop j=[]:=List.drop_eq_nil_of_le (by simp;omega)
  simp [this]
 | d+1,j,hj=>by
  have hlen:(c.take i).length=i:=by simp;omega
  obtain⟨m,hm⟩:=MS c ap np hc i hi q0 q1 q2 q3 q4 q5 q6 R hr d (j+1) (by omega)
  refine⟨m+1, ?_⟩
  rw [GJ]
  refine ct (by simp;omega) (ct (ax (by omega)) ?_)
  rw [aE (c.take i) j (by omega),List.any_cons,Int.toNat_natCast,aF (n:=i) (by omega) (by omega),hm]
  show cond (nr (rA (c.take i) j) 0==q0) (cond (nr (rA (c.take i) j) 1==q1) _ _) _=_
  generalize (nr (rA (c.take i) j) 0==q0)=b1
  generalize (nr (rA (c.take i) j) 1==q1)=b2
  cases b1<;>cases b2<;>simp
theorem IQ (c:RL)(ap np:Int)(hc:c.length<9223372036854775808):∀(d i:Nat),i+d=c.length→
 ∃m,goF E (aa nY) F107 0 m sW (tO c c.length i ap np c)=some ([.one (.int .i64 (kt (c.take i) (c.drop i)))],[])
 | 0,i,hi=>by
  refine⟨1, ?_⟩
  rw [Gl]
  refine cf (by simp;omega) ?_
  have:c.drop i=[]:=List.drop_eq_nil_of_le (by omega)
  rw [this,kt]
 | d+1,i,hi=>by
  have hlen:(c.take i).length=i:=by simp;omega
  obtain⟨m,hm⟩:=MS c ap np hc i (by omega) (nr (rA c i) 0) (nr (rA c i) 1) (nr (rA c i) 2) (nr (rA c i) 3) (nr (rA c i) 4) (nr (rA c i) 5) (nr (rA c i) 6) _ (IQ c ap np hc d (i+1) (by omega)) i 0 (by omega)
  refine⟨m+1, ?_⟩
  rw [Gl]
  refine ct (by simp;omega) (ct (ax (by omega)) ?_)
  rw [aE c i (by omega),kt,Int.toNat_natCast]
  show cond (lz (rA c i) !=0) (some ([AV.one (AC.int .i64 (lz (rA c i)))],([]:List Block))) _=_
  by_cases h0:lz (rA c i)=0
  · rw [if_neg (by simpa using h0)]
    refine cf (by simpa using h0) (ct (aC (by omega) (by omega)) ?_)
    rw [bp,hlen]
    refine Eq.trans hm ?_
    rw [qk c i (by omega),List.drop_zero]
    show some (if dup (c.take i) (rA c i)=true then _ else _)=_
    split<;>rfl
  · rw [if_pos h0]
    exact ct (by simpa using h0) rfl
theorem Sh (a n:Int)(c:RL)(hc:c.length<9223372036854775808):∃m,aj E (aa nY) m 107 [.agg [.i a,.i n,.sl false 89 c]] []=some ([.oi (di a n c)],[]):=by
 obtain⟨m,hm⟩:=IQ c a n hc c.length 0 (by omega)
 refine⟨m+1, ?_⟩
 rw [SP]
 rw [List.take_zero,List.drop_zero]at hm
 rw [show(0:Int)=((0:Nat):Int)from rfl,hm]
 repeat' (refine cs (fun _=> ?_) (fun _=> ?_))
 all_goals refine congrArg (fun z=>some ([AV.one (AC.int .i64 z)],([]:List Block))) ?_
 all_goals simp only [bne_iff_ne,beq_iff_eq,beq_eq_false_iff_ne,decide_eq_true_eq,decide_eq_false_iff_not,ne_eq]at*
 all_goals (unfold di;(repeat' split)<;>omega)
theorem MO (c:RL)(ap np:Int)(hc:c.length<9223372036854775808)(i:Nat)(hi:i<c.length)(R:List AV×List Block)
 (hr:∃m,goF E (aa eQ) F112 0 m sf (uM ((i+1:Nat):Int) ap np c)=some R):∀(d j:Nat),j+d=i→
 ∃m,goF E (aa eQ) F112 0 m yo (yd i j ap np c)=
  some (if((c.take i).drop j).any (sC (rA c i))=true then([.one (.int .i64 5)],[])else R)
 | 0,j,hj=>by
  have:j=i:=by omega
  subst this
  obtain⟨m,hm⟩:=hr
  refine⟨m+2, ?_⟩
  rw [I0]
  refine cf (by simp) ?_
  rw [Oq,aF hi hc,hm]
  have:(c.take j).drop j=[]:=List.drop_eq_nil_of_le (by simp;omega)
  simp [this]
 | d+1,j,hj=>by
  have hlen:(c.take i).length=i:=by simp;omega
  obtain⟨m,hm⟩:=MO c ap np hc i hi R hr d (j+1) (by omega)
  refine⟨m+4, ?_⟩
  rw [I0]
  refine ct (by simp;omega) ?_
  rw [NF]
  refine ct (ax (by omega)) (ct (ax (by omega)) ?_)
  rw [aE (c.take i) j (by omega),List.any_cons,CC c i j (by omega),Int.toNat_natCast,Int.toNat_natCast]
  have hn:goF E (aa eQ) F112 0 (m+1) xk (xN i j ap np c)=some (if((c.take i).drop (j+1)).any (sC (rA c i))=true then([.one (.int .i64 5)],[])else R):=by
   rw [LP,aF (n:=i) (by omega) (by omega),hm]
  simp only [OB,hn]
  unfold sC
  show cond (nr (rA c j) 0==nr (rA c i) 0) (cond _ (cond _ (cond (nr (rA c j) 1==nr (rA c i) 1) _ _) _) _) _=_
  rw [ax (by omega:j<c.length),ax (by omega:i<c.length)]
  generalize (nr (rA c j) 0==nr (rA c i) 0)=b1
  generalize (nr (rA c j) 1==nr (rA c i) 1)=b2
  cases b1<;>cases b2<;>simp
theorem Jd (c:RL)(ap np:Int)(hc:c.length<9223372036854775808):∀(d i:Nat),i+d=c.length→
 ∃m,goF E (aa eQ) F112 0 m sf (uM i ap np c)=some ([.one (.int .i64 (kt (c.take i) (c.drop i)))],[])
 | 0,i,hi=>by
  refine⟨2, ?_⟩
  rw [HE]
  refine cf (by simp;omega) ?_
  have:c.drop i=[]:=List.drop_eq_nil_of_le (by omega)
  rw [this,kt,Ok]
 | d+1,i,hi=>by
  have hlen:(c.take i).length=i:=by simp;omega
  obtain⟨m,hm⟩:=MO c ap np hc i (by omega) _ (Jd c ap np hc d (i+1) (by omega)) i 0 (by omega)
  refine⟨m+3, ?_⟩
  rw [HE]
  refine ct (by simp;omega) ?_
  rw [Ou]
  refine ct (ax (by omega)) ?_
  rw [aE c i (by omega),kt,Int.toNat_natCast]
  show cond (lz (rA c i) !=0) (some ([AV.one (AC.int .i64 (lz (rA c i)))],([]:List Block))) _=_
  by_cases h0:lz (rA c i)=0
  · rw [if_neg (by simpa using h0)]
    refine cf (by simpa using h0) ?_
    rw [OP]
    refine Eq.trans hm ?_
    rw [qk c i (by omega),List.drop_zero]
    show some (if dup (c.take i) (rA c i)=true then _ else _)=_
    split<;>rfl
  · rw [if_pos h0]
    exact ct (by simpa using h0) rfl
theorem Q9 (a n:Int)(c:RL)(hc:c.length<9223372036854775808):∃m,aj E (aa eQ) m 112 [.agg [.i a,.i n,.sl false 89 c]] []=some ([.oi (di a n c)],[]):=by
 obtain⟨m,hm⟩:=Jd c a n hc c.length 0 (by omega)
 refine⟨m+3, ?_⟩
 rw [Tw]
 rw [List.take_zero,List.drop_zero]at hm
 simp only [O2,OJ,show(0:Int)=((0:Nat):Int)from rfl,hm]
 simp only [ic]
 repeat' (refine cs (fun _=> ?_) (fun _=> ?_))
 all_goals refine congrArg (fun z=>some ([AV.one (AC.int .i64 z)],([]:List Block))) ?_
 all_goals simp only [bne_iff_ne,beq_iff_eq,beq_eq_false_iff_ne,decide_eq_true_eq,decide_eq_false_iff_not,ne_eq,Bool.not_eq_true',Bool.not_eq_false',Bool.and_eq_true,Bool.and_eq_false_iff,Bool.true_eq_false,Bool.false_eq_true]at*
 all_goals (unfold di;(repeat' split)<;>omega)
theorem Rd (n:Int):aj E (aa JK) 1 140 [.oi n] []=some ([.ob false],[]):=by
 rw [R9];simp
theorem Qn (x y:Int):aj E (aa Je) 1 127 [.oi x,.oi y] []=some ([.oi (qm x y)],[]):=by
 rw [Qm]
 repeat' (refine cs (fun _=> ?_) (fun _=> ?_))
 all_goals refine congrArg (fun z=>some ([AV.one (AC.int .i64 z)],([]:List Block))) ?_
 all_goals simp only [decide_eq_true_eq,decide_eq_false_iff_not,Bool.true_eq_false,Bool.false_eq_true]at*
 all_goals (unfold qm;(repeat' split)<;>omega)
theorem Pe (l:RL)(hl:l.length<9223372036854775808):∀(d i:Nat),i+d=l.length→
 ∃m,goF E (aa xe) F126 0 m xf (yF 0 l l.length i)=some ([.one (.int .i64 (vj (l.drop i)))],[])
 | 0,i,hi=>by
  refine⟨1, ?_⟩
  rw [G3]
  refine cf (by simp;omega) ?_
  have:l.drop i=[]:=List.drop_eq_nil_of_le (by omega)
  rw [this,vj]
 | d+1,i,hi=>by
  obtain⟨m,hm⟩:=Pe l hl d (i+1) (by omega)
  refine⟨m+1, ?_⟩
  rw [G3]
  refine ct (by simp;omega) (ct (ax (by omega)) ?_)
  rw [aE l i (by omega),vj,Int.toNat_natCast,aF (n:=l.length) (by omega) hl,hm]
  show cond (nr (rA l i) 0 !=0) (some ([AV.one (AC.int .i64 (nr (rA l i) 0))],([]:List Block))) _=_
  by_cases h0:nr (rA l i) 0=0
  · rw [if_neg (by simpa using h0)]
    exact cf (by simpa using h0) rfl
  · rw [if_pos h0]
    exact ct (by simpa using h0) rfl
theorem SR (l:RL)(hl:l.length<9223372036854775808):∃m,aj E (aa xe) m 126 [.one (.sl false 3 l)] []=some ([.oi (vj l)],[]):=by
 obtain⟨m,hm⟩:=Pe l hl l.length 0 (by omega)
 exact⟨m+1,by rw [RE];exact hm⟩
theorem SQ (a n:Int)(c:RL)(b k:Int)(d:RL):aj E (aa JC) 1 108 [.agg [.i a,.i n,.sl false 89 c],.agg [.i b,.i k,.sl false 89 d]] []=some ([.oi (km a n b k)],[]):=by
 rw [SJ]
 refine ct (by simp) ?_
 refine congrArg (fun z=>some ([AV.one (AC.int .i64 z)],([]:List Block))) ?_
 simp only [vj,nr,dV,Cell.toInt,qm,km]
 (repeat' split)<;>omega
theorem Q7 (a n:Int)(c:RL)(b k:Int)(d:RL):aj E (aa IZ) 1 113 [.agg [.i a,.i n,.sl false 89 c],.agg [.i b,.i k,.sl false 89 d]] []=some ([.oi (km a n b k)],[]):=by
 rw [Rv]
 repeat' (refine cs (fun _=> ?_) (fun _=> ?_))
 all_goals refine congrArg (fun z=>some ([AV.one (AC.int .i64 z)],([]:List Block))) ?_
 all_goals simp only [beq_iff_eq,beq_eq_false_iff_ne,decide_eq_true_eq,decide_eq_false_iff_not,ne_eq]at*
 all_goals (unfold km;(repeat' split)<;>omega)
theorem l91 (c d:RL)(a n b k:Int)(hc:c.length<9223372036854775808)(hd:c.length=d.length):∀(e i:Nat),i+e=c.length→
 ∃m,goF E (aa xp) F91 0 m DQ (Ea i a n c b k d)=some ([.one (.bool (ge (c.drop i) (d.drop i)))],[])
 | 0,i,hi=>by
  refine⟨1, ?_⟩
  rw [Mv]
  refine cf (by simp;omega) ?_
  have:c.drop i=[]:=List.drop_eq_nil_of_le (by omega)
  rw [this,ge]
 | e+1,i,hi=>by
  obtain⟨m,hm⟩:=l91 c d a n b k hc hd e (i+1) (by omega)
  refine⟨m+1, ?_⟩
  rw [Mv]
  refine ct (by simp;omega) (ct (ax (by omega)) (ct (ax (by omega)) ?_))
  rw [aE c i (by omega),ge,Int.toNat_natCast,aF (n:=c.length) (by omega) hc,hm,gT,List.drop_drop]
  have hE:(((nr (rA c i) 0)==(nr (rA d i) 0))&&(((nr (rA c i) 1)==(nr (rA d i) 1))&&(((nr (rA c i) 2)==(nr (rA d i) 2))&&(((nr (rA c i) 3)==(nr (rA d i) 3))&&(((nr (rA c i) 4)==(nr (rA d i) 4))&&(((nr (rA c i) 5)==(nr (rA d i) 5))&&(((nr (rA c i) 6)==(nr (rA d i) 6))&&true)))))))=i9 (rA c i) (rA d i):=by
   simp only [i9,vh,Bool.and_assoc,Bool.and_true]
  refine Eq.trans (congrArg (fun b=>cond (!b) (some ([AV.one (AC.bool false)],([]:List Block))) _) hE) ?_
  rw [Nat.add_zero]
  generalize i9 (rA c i) (rA d i)=b1
  cases b1<;>rfl
theorem k91 (a n:Int)(c:RL)(b k:Int)(d:RL)(hc:c.length<9223372036854775808):∃m,aj E (aa xp) m 91 [.agg [.i a,.i n,.sl false 89 c],.agg [.i b,.i k,.sl false 89 d]] []=
 some ([.ob (eqP a n c b k d)],[]):=by
 by_cases hd:c.length=d.length
 · obtain⟨m,hm⟩:=l91 c d a n b k hc hd c.length 0 (by omega)
   refine⟨m+1, ?_⟩
   rw [e91,show(0:Int)=((0:Nat):Int)from rfl,hm]
   unfold eqP bne
   rw [List.drop_zero,List.drop_zero]
   generalize (a==b)=b1
   generalize (n==k)=b2
   generalize ge c d=b3
   rw [show((c.length:Int)==(d.length:Int))=true by simp;omega,decide_eq_true hd]
   cases b1<;>cases b2<;>cases b3<;>rfl
 · refine⟨1, ?_⟩
   rw [e91]
   unfold eqP bne
   generalize (a==b)=b1
   generalize (n==k)=b2
   rw [show((c.length:Int)==(d.length:Int))=false by simp;omega,decide_eq_false hd]
   cases b1<;>cases b2<;>rfl
theorem lg (a n b m:Int):(km a n b m= -1∧(a<b∨(a=b∧n<m)))∨(km a n b m=0∧a=b∧n=m)∨(km a n b m=1∧(b<a∨(a=b∧m<n))):=by
 unfold km
 (repeat' split)<;>omega
theorem tZ :∀c:RL,ge c c=true
 | []=>rfl
 | r::c=>by
  have:i9 r r=true:=by simp [i9,vh]
  rw [ge]
  show(i9 r r&&ge c c)=true
  rw [this,tZ c]
  rfl
theorem zS (a n:Int)(c:RL):eqP a n c a n c=true:=by
 simp [eqP,tZ]
theorem bh {n:Nat}(h:n≤4294967296):cb n=true:=by
 unfold cb LIM
 exact Nat.ble_eq_true_of_le h
theorem Gr {x:RL}{v:Int}(h:jo x v=true):x.length≤4000000∧0≤v∧v<18446744073709551616:=by
 unfold jo at h
 simp only [Bool.and_eq_true,decide_eq_true_eq]at h
 exact h
theorem gF {x:RL}{v:Int}(h1:x.length≤4000000)(h2:0≤v)(h3:v<18446744073709551616):jo x v=true:=by
 unfold jo
 simp only [Bool.and_eq_true,decide_eq_true_eq]
 exact⟨h1,h2,h3⟩
theorem l98 (x:RL)(hx:x.length≤4000000):∀(k:Nat) (v:Int) (acc:RL),0≤v→v<128^k→v<18446744073709551616→1≤k→acc.length+k≤1000→
 ∃m,goF E (aa L91) F98 0 m El (C7 x v acc)=some ([.one (.sl true 5 (x++(acc++fx k v)))],[])
 | 0,_,_,_,_,_,h,_=>by omega
 | k+1,v,acc,h0,h1,h2,_,hl=>by
  by_cases hs:v<128
  · refine⟨1, ?_⟩
    rw [Mj]
    refine cf (decide_eq_false (by omega)) (ct (bh (by simp;omega)) (ct (ax (by omega)) (ct (by simp) (ct (bh (by simp [bp];omega)) ?_))))
    rw [bp,Int.toNat_natCast,List.take_length,MD (by omega) (by omega),fx,if_pos hs]
  · have hk:1≤k:=by
     cases k with
     | zero=>simp at h1;omega
     | succ k=>omega
    obtain⟨m,hm⟩:=l98 x hx k (v / 128) (acc++ [[.int .u8 (v%128+128)]]) (by omega) (by rw [Int.pow_succ]at h1;omega) (by omega) hk (by simp;omega)
    refine⟨m+1, ?_⟩
    rw [Mj]
    refine ct (decide_eq_true (by omega)) (ct (bh (by simp;omega)) ?_)
    have e:orI .u8 (IntKind.wrap .u8 v) 128=v%128+128:=by
     rw [qq,or8 (by omega) (by omega)]
     omega
    rw [e,P0,hm,fx,if_neg hs,List.append_assoc]
    rfl
theorem Mo {v:Int}(h:v<18446744073709551616):v<128^10:=by
 have e:(128:Int)^10=1180591620717411303424:=by decide
 rw [e];omega
theorem k98 (x:RL)(v:Int)(h:jo x v=true):∃m,aj E (aa L91) m 98 [.or x,.one (.int .u64 v)] []=some ([.one (.sl true 5 (x++bc v))],[]):=by
 obtain⟨h1,h2,h3⟩:=Gr h
 obtain⟨m,hm⟩:=l98 x h1 10 v [] h2 (Mo h3) h3 (by omega) (by simp)
 exact⟨m+1,by rw [e98];exact hm⟩
theorem aR {x:RL}(h:aI x=true):okB x=true∧x.length≤4000000:=by
 unfold aI jG at h
 simpa using h
theorem K4 {x:RL}(h1:okB x=true)(h2:x.length≤4000000):aI x=true:=by
 unfold aI jG
 simp [h1,h2]
theorem au {x:RL}(h:aI x=true)(n:Nat):aI (x.drop n)=true:=
 K4 (zI (aR h).1 n) (by have:=(aR h).2;simp;omega)
def rd3 (r:Int×Int×Int):List AV×List Block:=([.one (.int .u64 r.1),.one (.int .i64 r.2.1),.one (.int .i64 r.2.2)],[])
theorem jB (k i:Nat)(acc:Int)(x:RL)(hi:i<x.length):cB (k+1) i acc (x.drop i)=
 if k=0∧1<nr (rA x i) 0 then(0,0,9)
 else if nr (rA x i) 0<128 then(if nr (rA x i) 0=0∧0<i then(0,0,2)else(acc+nr (rA x i) 0*128^i,(i:Int)+1,0))
 else cB k ((i+1:Nat):Int) (acc+(nr (rA x i) 0 - 128)*128^i) (x.drop (i+1)):=by
 rw [aE x i hi,cB]
 simp only [Int.toNat_natCast]
 rw [show((i:Int)+1)=((i+1:Nat):Int)by omega]
 simp only [Int.natCast_pos]
theorem l76 (x:RL)(hx:aI x=true):∀(k i:Nat) (acc:Int),i+k=9→1≤i→i≤x.length→0≤acc→acc<128^i→
 ∃m,goF E (aa L98) F76 0 m AM (zW x acc i)=some (rd3 (cB (k+1) i acc (x.drop i))):=by
 intro k
 induction k with
 | zero=>
  intro i acc hi h1 hl h0 hacc
  have h9:i=9:=by omega
  subst h9
  by_cases hend:9=x.length
  · refine⟨1, ?_⟩
    rw [zL]
    refine ct (by simp;omega) ?_
    have:x.drop 9=[]:=List.drop_eq_nil_of_le (by omega)
    rw [this,cB]
    rfl
  · refine⟨1, ?_⟩
    obtain⟨c0,c1⟩:=tn (aR hx).1 (i:=9) (by omega)
    rw [zL,jB 0 9 acc x (by omega)]
    refine cf (by simp;omega) (ct (ax (by omega)) (ct (by simp) ?_))
    simp only [Int.toNat_natCast]
    by_cases hc:1<nr (rA x 9) 0
    · rw [if_pos ⟨by trivial,hc⟩]
      exact ct (decide_eq_true hc) rfl
    · rw [if_neg (fun h=>hc h.2),if_pos (by omega)]
      refine cf (decide_eq_false hc) ?_
      rw [aA (n:=7*((9:Nat):Int)) (by omega) (by omega),aA (n:=((9:Nat):Int)+1) (by omega) (by omega)]
      refine cf (by decide) ?_
      refine cf (decide_eq_false (by omega)) ?_
      by_cases hz:nr (rA x 9) 0=0
      · rw [if_pos ⟨hz,by omega⟩]
        exact ct (by simpa using hz) (ct (by decide) rfl)
      · rw [if_neg (fun h=>hz h.1)]
        refine cf (by simpa using hz) ?_
        rw [xO c0 c1,eN (by omega) (by omega),show nr (rA x 9) 0%128=nr (rA x 9) 0 by omega]
        have:=(nA (i:=9) h0 hacc c0 (by omega) (by omega) (fun _=>by omega)).1
        rw [show(7*((9:Nat):Int))=((7*9:Nat):Int)by omega,this]
        rfl
 | succ k ih=>
  intro i acc hi h1 hl h0 hacc
  by_cases hend:i=x.length
  · refine⟨1, ?_⟩
    rw [zL]
    refine ct (by simp;omega) ?_
    have:x.drop i=[]:=List.drop_eq_nil_of_le (by omega)
    rw [this,cB]
    rfl
  · obtain⟨c0,c1⟩:=tn (aR hx).1 (i:=i) (by omega)
    have hs:=nA (c:=nr (rA x i) 0%128) (i:=i) h0 hacc (by omega) (by omega) (by omega) (fun h=>by omega)
    have hw:IntKind.u64.wrap (eH .u8 (nr (rA x i) 0) 128)=nr (rA x i) 0%128:=by
     rw [xO c0 c1,eN (by omega) (by omega)]
    rw [jB (k+1) i acc x (by omega),if_neg (by omega)]
    by_cases hc:nr (rA x i) 0<128
    · refine⟨1, ?_⟩
      rw [zL]
      refine cf (by simp;omega) (ct (ax (by omega)) (cf (by simp;omega) ?_))
      rw [aA (n:=7*(i:Int)) (by omega) (by omega),aA (n:=(i:Int)+1) (by omega) (by omega),Int.toNat_natCast]
      refine cf (decide_eq_false (by omega)) ?_
      refine cf (decide_eq_false (by omega)) ?_
      rw [if_pos hc]
      by_cases hz:nr (rA x i) 0=0
      · rw [if_pos ⟨hz,by omega⟩]
        exact ct (by simpa using hz) (ct (decide_eq_true (by omega)) rfl)
      · rw [if_neg (fun h=>hz h.1)]
        refine cf (by simpa using hz) ?_
        rw [hw,show(7*(i:Int))=((7*i:Nat):Int)by omega,hs.1,show nr (rA x i) 0%128=nr (rA x i) 0 by omega]
        rfl
    · rw [if_neg hc]
      obtain⟨m,hm⟩:=ih (i+1) (acc+(nr (rA x i) 0%128)*128^i) (by omega) (by omega) (by omega) hs.2.1 hs.2.2.1
      refine⟨m+1, ?_⟩
      rw [zL]
      refine cf (by simp;omega) (ct (ax (by omega)) (cf (by simp;omega) ?_))
      rw [aA (n:=7*(i:Int)) (by omega) (by omega),aA (n:=(i:Int)+1) (by omega) (by omega),Int.toNat_natCast]
      refine cf (decide_eq_false (by omega)) ?_
      refine ct (decide_eq_true (by omega)) ?_
      rw [hw,show(7*(i:Int))=((7*i:Nat):Int)by omega,hs.1,show(i:Int)+1=((i+1:Nat):Int)by omega,hm,show nr (rA x i) 0%128=nr (rA x i) 0 - 128 by omega]
theorem k76 (x:RL)(hx:aI x=true):∃m,aj E (aa L98) m 76 [.or x] []=some (rd3 (aD x)):=by
 unfold aD
 by_cases hend:x.length=0
 · refine⟨1, ?_⟩
   rw [e76]
   refine ct (by simp;omega) ?_
   rw [List.length_eq_zero_iff.1 hend,cB]
   rfl
 · obtain⟨c0,c1⟩:=tn (aR hx).1 (i:=0) (by omega)
   have hs:=nA (acc:=0) (c:=nr (rA x 0) 0%128) (i:=0) (by omega) (by simp) (by omega) (by omega) (by omega) (fun h=>by omega)
   have hw:IntKind.u64.wrap (eH .u8 (nr (rA x 0) 0) 128)=nr (rA x 0) 0%128:=by
    rw [xO c0 c1,eN (by omega) (by omega)]
   have hu:=jB 9 0 0 x (by omega)
   rw [List.drop_zero]at hu
   simp only [Int.ofNat_zero]at hu
   rw [hu,if_neg (by omega)]
   have hs1:orI .u64 0 (iA .u64 (nr (rA x 0) 0%128) 0)=nr (rA x 0) 0%128:=by
    have:=hs.1
    simpa using this
   by_cases hc:nr (rA x 0) 0<128
   · refine⟨1, ?_⟩
     rw [e76,if_pos hc,if_neg (by omega)]
     refine cf (by simp;omega) (ct (aC (by omega) (by omega)) ?_)
     refine cf (decide_eq_false (by omega)) ?_
     rw [hw,hs1,show nr (rA x 0) 0%128=nr (rA x 0) 0 by omega]
     generalize nr (rA x 0) 0=c
     unfold rd3
     cases (c==0)<;>simp
   · obtain⟨m,hm⟩:=l76 x hx 8 1 (nr (rA x 0) 0%128) (by omega) (by omega) (by omega) (by omega) (by simp;omega)
     refine⟨m+1, ?_⟩
     rw [e76,if_neg hc]
     refine cf (by simp;omega) (ct (aC (by omega) (by omega)) ?_)
     refine ct (decide_eq_true (by omega)) ?_
     rw [hw,hs1]
     refine Eq.trans hm ?_
     congr 2
     rw [show nr (rA x 0) 0%128=0+(nr (rA x 0) 0 - 128)*128^0 by simp;omega]
theorem l85 (x:RL)(hx:aI x=true):∀(k i:Nat) (acc:Int),i+k=9→i≤x.length→0≤acc→acc<128^i→
 ∃m,goF E (aa L76) F85 0 m zy (AU x acc i)=some (rd3 (cB (k+1) i acc (x.drop i))):=by
 intro k
 induction k with
 | zero=>
  intro i acc hi hl h0 hacc
  have h9:i=9:=by omega
  subst h9
  refine⟨1, ?_⟩
  rw [Dk]
  refine ct (by simp) ?_
  by_cases hend:9=x.length
  · refine ct (by simp;omega) ?_
    have:x.drop 9=[]:=List.drop_eq_nil_of_le (by omega)
    rw [this,cB]
    rfl
  · obtain⟨c0,c1⟩:=tn (aR hx).1 (i:=9) (by omega)
    rw [jB 0 9 acc x (by omega)]
    refine cf (by simp;omega) (ct (by simp) (ct (ax (by omega)) ?_))
    simp only [Int.toNat_natCast]
    by_cases hc:1<nr (rA x 9) 0
    · rw [if_pos ⟨by trivial,hc⟩]
      exact ct (decide_eq_true hc) rfl
    · rw [if_neg (fun h=>hc h.2),if_pos (by omega)]
      refine cf (decide_eq_false hc) ?_
      rw [ax (by omega:9<x.length),aA (n:=7*((9:Nat):Int)) (by omega) (by omega),aA (n:=((9:Nat):Int)+1) (by omega) (by omega),eN (n:=7*((9:Nat):Int)) (by omega) (by omega)]
      refine ct rfl (cf (by decide) (ct rfl ?_))
      refine ct (decide_eq_true (by omega)) (ct rfl ?_)
      by_cases hz:nr (rA x 9) 0=0
      · rw [if_pos ⟨hz,by omega⟩]
        exact ct (by simpa using hz) (ct (by decide) rfl)
      · rw [if_neg (fun h=>hz h.1)]
        refine cf (by simpa using hz) ?_
        rw [Int.tmod_eq_emod_of_nonneg c0,eN (n:=nr (rA x 9) 0%128) (by omega) (by omega),show nr (rA x 9) 0%128=nr (rA x 9) 0 by omega]
        have:=(nA (i:=9) h0 hacc c0 (by omega) (by omega) (fun _=>by omega)).1
        rw [show(7*((9:Nat):Int))=((7*9:Nat):Int)by omega,this]
        rfl
 | succ k ih=>
  intro i acc hi hl h0 hacc
  by_cases hend:i=x.length
  · refine⟨1, ?_⟩
    rw [Dk]
    refine ct (decide_eq_true (by omega)) (ct (by simp;omega) ?_)
    have:x.drop i=[]:=List.drop_eq_nil_of_le (by omega)
    rw [this,cB]
    rfl
  · obtain⟨c0,c1⟩:=tn (aR hx).1 (i:=i) (by omega)
    have hs:=nA (c:=nr (rA x i) 0%128) (i:=i) h0 hacc (by omega) (by omega) (by omega) (fun h=>by omega)
    have hw:IntKind.u64.wrap (Int.tmod (nr (rA x i) 0) 128)=nr (rA x i) 0%128:=by
     rw [Int.tmod_eq_emod_of_nonneg c0,eN (by omega) (by omega)]
    rw [jB (k+1) i acc x (by omega),if_neg (by omega)]
    by_cases hc:nr (rA x i) 0<128
    · refine⟨1, ?_⟩
      rw [Dk]
      rw [ax (by omega:i<x.length),aA (n:=7*(i:Int)) (by omega) (by omega),aA (n:=(i:Int)+1) (by omega) (by omega),eN (n:=7*(i:Int)) (by omega) (by omega),Int.toNat_natCast]
      refine ct (decide_eq_true (by omega)) (cf (by simp;omega) (cf (by simp;omega) (ct rfl (cf (decide_eq_false (by omega)) (ct rfl ?_)))))
      refine ct (decide_eq_true hc) (ct rfl ?_)
      rw [if_pos hc,hw,show(7*(i:Int))=((7*i:Nat):Int)by omega,hs.1,show nr (rA x i) 0%128=nr (rA x i) 0 by omega]
      by_cases hz:nr (rA x i) 0=0
      · refine ct (by simpa using hz) ?_
        by_cases hp:0<i
        · rw [if_pos ⟨hz,hp⟩]
          exact ct (decide_eq_true (by omega)) rfl
        · rw [if_neg (fun h=>hp h.2)]
          exact cf (decide_eq_false (by omega)) rfl
      · rw [if_neg (fun h=>hz h.1)]
        exact cf (by simpa using hz) rfl
    · rw [if_neg hc]
      obtain⟨m,hm⟩:=ih (i+1) (acc+(nr (rA x i) 0%128)*128^i) (by omega) (by omega) hs.2.1 hs.2.2.1
      refine⟨m+1, ?_⟩
      rw [Dk]
      rw [ax (by omega:i<x.length),aA (n:=7*(i:Int)) (by omega) (by omega),aA (n:=(i:Int)+1) (by omega) (by omega),eN (n:=7*(i:Int)) (by omega) (by omega),Int.toNat_natCast]
      refine ct (decide_eq_true (by omega)) (cf (by simp;omega) (cf (by simp;omega) (ct rfl (cf (decide_eq_false (by omega)) (ct rfl ?_)))))
      refine cf (decide_eq_false hc) ?_
      rw [hw,show(7*(i:Int))=((7*i:Nat):Int)by omega,hs.1,show(i:Int)+1=((i+1:Nat):Int)by omega,hm,show nr (rA x i) 0%128=nr (rA x i) 0 - 128 by omega]
theorem k85 (x:RL)(hx:aI x=true):∃m,aj E (aa L76) m 85 [.or x] []=some (rd3 (aD x)):=by
 obtain⟨m,hm⟩:=l85 x hx 9 0 0 (by omega) (by omega) (by omega) (by simp)
 exact⟨m+1,by rw [e85];exact hm⟩
theorem qR :∀(k:Nat) (i acc:Int) (l:RL),0≤acc→0≤i→(∀r∈l,0≤nr r 0)→(cB k i acc l).2.2=0→i<(cB k i acc l).2.1∧(cB k i acc l).2.1≤i+l.length∧0≤(cB k i acc l).1
 | 0,_,_,_,_,_,_,h=>by simp [cB]at h
 | k+1,_,_,[],_,_,_,h=>by simp [cB]at h
 | k+1,i,acc,r::rs,ha,hi,hl,h=>by
  have h0:=hl r (List.mem_cons_self)
  have hp:(0:Int)<128^i.toNat:=Int.pow_pos (by decide)
  unfold cB at h⊢
  split
  · rw [if_pos (by assumption)]at h;simp at h
  · rw [if_neg (by assumption)]at h
    split
    · rw [if_pos (by assumption)]at h
      split
      · rw [if_pos (by assumption)]at h;simp at h
      · have:=Int.mul_nonneg h0 (Int.le_of_lt hp)
        simp only [List.length_cons]
        omega
    · rw [if_neg (by assumption)]at h
      have:=Int.mul_nonneg (show 0≤nr r 0 - 128 by omega) (Int.le_of_lt hp)
      have:=qR k (i+1) (acc+(nr r 0 - 128)*128^i.toNat) rs (by omega) (by omega) (fun r hr=>hl r (List.mem_cons_of_mem _ hr)) h
      simp only [List.length_cons]
      omega
theorem B1 {x:RL}(h:okB x=true):∀r∈x,0≤nr r 0:=fun r hr=>(kl (List.all_eq_true.1 h r hr)).1
theorem bX {x:RL}(hx:okB x=true)(h:(aD x).2.2=0):0<(aD x).2.1∧(aD x).2.1≤x.length∧0≤(aD x).1:=by
 have:=qR 10 0 0 x (by omega) (by omega) (B1 hx) h
 unfold aD
 omega
theorem cr {x:RL}(hx:okB x=true)(h:(am x).2.2=0):0<(am x).2.1∧(am x).2.1≤x.length∧0≤(am x).1∧(am x).1≤2147483647:=by
 unfold am at h⊢
 split
 · rw [if_pos (by assumption)]at h
   simp at h
   omega
 · rename_i h1
   rw [if_neg h1]at h
   split
   · rw [if_pos (by assumption)]at h;simp at h
   · have:=bX hx (by omega)
     omega
theorem k33 (x:RL)(hx:aI x=true):aj E (aa Gh) 1 33 [.or x] []=some ([.oi (am x).1,.oi (am x).2.1,.oi (am x).2.2],[]):=by
 rw [e33]
 refine ct hx ?_
 unfold am
 by_cases h:(aD x).2.2=0
 · refine cf (by simpa using h) ?_
   rw [if_neg (by simpa using h)]
   by_cases h1:2147483647<(aD x).1
   · rw [if_pos h1]
     exact ct (decide_eq_true h1) rfl
   · rw [if_neg h1]
     refine cf (decide_eq_false h1) ?_
     have:=bX (aR hx).1 h
     rw [aA (by omega) (by omega),h]
 · rw [if_pos h]
   exact ct (by simpa using h) rfl
theorem cA {x:RL}{o:Int}(h:aT x o=true):aI x=true∧0≤o∧o≤x.length:=by
 unfold aT at h
 unfold aI
 simp only [Bool.and_eq_true,decide_eq_true_eq]at h⊢
 exact⟨⟨h.1,h.2.1⟩,h.2.2⟩
theorem dK {x:RL}{o:Int}(h:aI x=true)(h0:0≤o)(h1:o≤x.length):aT x o=true:=by
 unfold aT
 unfold aI at h
 simp only [Bool.and_eq_true,decide_eq_true_eq]at h⊢
 exact⟨h.1,h.2,h0,h1⟩
theorem fF {b:RL}{o e:Int}(h:aT b o=true):aT b (af b o e).2.1=true:=by
 obtain⟨h1,h2,h3⟩:=cA h
 unfold af
 split
 · exact h
 · split
   · exact h
   · rename_i h4
     have:=cr (zI (aR h1).1 o.toNat) (by simpa using h4)
     rw [List.length_drop]at this
     exact dK h1 (by simp only;omega) (by simp only;omega)
theorem RM (b:RL)(o e:Int)(h:aT b o=true):aj E (aa L85) 1 134 [.one (.ptr 0 0)] [.var [.r b,.i o,.i e]]=
 some ([.oi (af b o e).1],[.var [.r b,.i (af b o e).2.1,.i (af b o e).2.2]]):=by
 obtain⟨h1,h2,h3⟩:=cA h
 have h4:=au h1 o.toNat
 rw [Sm]
 unfold af
 by_cases he:e=0
 · subst he
   rw [if_neg (by simp)]
   refine cf (by simp) (ct (aC h2 (by omega)) ?_)
   rw [aN]
   refine ct h4 ?_
   have hl:=(aR h1).2
   by_cases hd:(aD (b.drop o.toNat)).2.2=0
   · refine cf (by simpa using hd) ?_
     have hb:=bX (aR h4).1 hd
     rw [List.length_drop]at hb
     by_cases hbig:2147483647<(aD (b.drop o.toNat)).1
     · refine ct (decide_eq_true hbig) ?_
       have e:am (b.drop o.toNat)=(0,0,9):=by
        unfold am
        rw [if_neg (by simpa using hd),if_pos hbig]
       rw [e]
       rfl
     · refine cf (decide_eq_false hbig) ?_
       have e:am (b.drop o.toNat)=aD (b.drop o.toNat):=by
        unfold am
        rw [if_neg (by simpa using hd),if_neg hbig]
       rw [e,if_neg (by simpa using hd),aA (by omega) (by omega),aA (by omega) (by omega)]
   · refine ct (by simpa using hd) ?_
     have e:am (b.drop o.toNat)=(0,0,(aD (b.drop o.toNat)).2.2):=by
      unfold am
      rw [if_pos hd]
     rw [e,if_pos (by simpa using hd)]
 · rw [if_pos he]
   exact ct (by simpa using he) rfl
theorem l34 (x:RL)(hx:aI x=true)(c:Int)(hc:c≤1000):∀(d i:Nat) (o:Int) (acc:RL),i+d=c.toNat→0≤o→o≤x.length→acc.length=i→
 ∃m,goF E (aa L33) F34 0 m Di (DT x c acc o i)=some ([.one (.sl true 3 (cj x d o acc).1),.one (.int .i64 (cj x d o acc).2.1),.one (.int .i64 (cj x d o acc).2.2)],[]):=by
 intro d
 induction d with
 | zero=>
  intro i o acc hi h0 h1 ha
  refine⟨1, ?_⟩
  rw [Il]
  exact cf (decide_eq_false (by omega)) rfl
 | succ d ih=>
  intro i o acc hi h0 h1 ha
  have h4:=au hx o.toNat
  have hl:=(aR hx).2
  by_cases he:(am (x.drop o.toNat)).2.2=0
  · have hb:=cr (aR h4).1 he
    rw [List.length_drop]at hb
    obtain⟨m,hm⟩:=ih (i+1) (o+(am (x.drop o.toNat)).2.1) (acc++ [[.int .i64 (am (x.drop o.toNat)).1]]) (by omega) (by omega) (by omega) (by simp;omega)
    refine⟨m+1, ?_⟩
    rw [Il,aN]
    refine ct (decide_eq_true (by omega)) (ct (aC h0 (by omega)) (ct h4 (cf (by simpa using he) (ct (bh (by simp;omega)) ?_))))
    rw [aA (by omega) (by omega),aA (by omega) (by omega),show(i:Int)+1=((i+1:Nat):Int)by omega,hm,cj,if_neg (by simpa using he)]
  · refine⟨1, ?_⟩
    rw [Il,aN]
    refine ct (decide_eq_true (by omega)) (ct (aC h0 (by omega)) (ct h4 (ct (by simpa using he) ?_)))
    rw [cj,if_pos he]
theorem k34 (x:RL)(c:Int)(h:(aI x&&decide (c≤1000))=true):∃m,aj E (aa L33) m 34 [.or x,.oi c] []=some ([.one (.sl true 3 (ai x c).1),.oi (ai x c).2.1,.oi (ai x c).2.2],[]):=by
 simp only [Bool.and_eq_true,decide_eq_true_eq]at h
 obtain⟨m,hm⟩:=l34 x h.1 c h.2 c.toNat 0 0 [] (by omega) (by omega) (by omega) rfl
 exact⟨m+1,by rw [e34];exact hm⟩
theorem dU :∀(x y:RL),aP (x++y)=aP x++aP y
 | [],y=>rfl
 | r::x,y=>by rw [List.cons_append,aP,aP,dU x y,List.append_assoc]
theorem cG :∀(x:RL),(aP x).length≤10*x.length
 | []=>by simp [aP]
 | r::x=>by
  have:=cG x
  have:=dJ (IntKind.wrap .u64 (nr r 0))
  simp only [aP,List.length_append,List.length_cons]
  omega
theorem fp :∀(x:RL),okB (aP x)=true
 | []=>rfl
 | r::x=>by
  rw [aP]
  exact dG (iV 10 _ (cm _).1) (fp x)
theorem Bq {x c:RL}(h:nb x c=true):x.length≤1000000∧c.length≤1000:=by
 unfold nb at h
 simpa using h
theorem ri :∀(c:RL),(bd c).length=7*c.length
 | []=>rfl
 | r::c=>by
  have h7:(bZ r).length=7:=rfl
  rw [bd,List.length_append,ri c,List.length_cons]
  omega
theorem MF (x l:RL)(hx:x.length≤1000000)(hl:l.length≤10000):∀(d i:Nat) (y:RL),i+d=l.length→y.length≤10*i→
 ∃m,goF E (aa jx) F122 0 m yq (xx x y l l.length i)=some ([.one (.sl true 5 (x++(y++aP (l.drop i))))],[])
 | 0,i,y,hi,hy=>by
  refine⟨1, ?_⟩
  rw [Jr]
  have:l.drop i=[]:=List.drop_eq_nil_of_le (by omega)
  simp only [bp,Int.toNat_natCast,List.take_length,this,aP,List.append_nil]
  exact cf (decide_eq_false (by omega)) (ct (ax (by omega)) (ct (by simp) (ct (bh (by omega)) rfl)))
 | d+1,i,y,hi,hy=>by
  have hu:=dJ (IntKind.wrap .u64 (nr (rA l i) 0))
  obtain⟨m,hm⟩:=MF x l hx hl d (i+1) (y++bc (IntKind.wrap .u64 (nr (rA l i) 0))) (by omega) (by simp;omega)
  refine⟨m+1, ?_⟩
  have hr:=cm (nr (rA l i) 0)
  rw [Jr,Int.toNat_natCast (n:=i)]
  refine ct (decide_eq_true (by omega)) (ct (ax (by omega)) (ct (gF (by omega) hr.1 hr.2) ?_))
  rw [aF (n:=l.length) (by omega) (by omega),hm,aE l i (by omega),aP]
  simp only [List.append_assoc]
theorem MT (x:RL)(hx:x.length≤1000000)(c:RL)(hc:c.length≤1000):∀(d i:Nat) (l:RL),i+d=c.length→l.length=3+7*i→
 ∃m,goF E (aa jx) F122 0 m xB (yD x l c c.length i)=some ([.one (.sl true 5 (x++aP (l++bd (c.drop i))))],[])
 | 0,i,l,hi,hl=>by
  obtain⟨m,hm⟩:=MF x l hx (by omega) l.length 0 [] (by omega) (by simp)
  refine⟨m+1, ?_⟩
  rw [Gm]
  have:c.drop i=[]:=List.drop_eq_nil_of_le (by omega)
  rw [this,bd,List.append_nil]
  exact cf (decide_eq_false (by omega)) hm
 | d+1,i,l,hi,hl=>by
  have h7:(bZ (rA c i)).length=7:=rfl
  obtain⟨m,hm⟩:=MT x hx c hc d (i+1) (l++bZ (rA c i)) (by omega) (by simp;omega)
  refine⟨m+1, ?_⟩
  rw [Gm,Int.toNat_natCast]
  refine ct (decide_eq_true (by omega)) (ct (ax (by omega)) (ct (bh (by simp;omega)) ?_))
  rw [aF (n:=c.length) (by omega) (by omega)]
  refine Eq.trans hm ?_
  rw [aE c i (by omega),bd,List.append_assoc]
theorem SF (x:RL)(a n:Int)(c:RL)(h:nb x c=true):∃m,aj E (aa jx) m 122 [.or x,.agg [.i a,.i n,.sl false 89 c]] []=some ([.one (.sl true 5 (x++gt a n c))],[]):=by
 obtain⟨h1,h2⟩:=Bq h
 obtain⟨m,hm⟩:=MT x h1 c h2 c.length 0 (bm a n c.length) (by omega) rfl
 exact⟨m+1,by rw [S5];exact hm⟩
theorem GG (l:RL)(hl:l.length≤10000):∀(d i:Nat) (y:RL),i+d=l.length→y.length≤10*i→
 ∃m,goF E (aa jx) F122 0 m mt (mP [] y l l.length i)=some ([.one (.sl true 5 (y++aP (l.drop i)))],[])
 | 0,i,y,hi,hy=>by
  refine⟨1, ?_⟩
  rw [vZ]
  have:l.drop i=[]:=List.drop_eq_nil_of_le (by omega)
  simp only [bp,Int.toNat_natCast,List.take_length,this,aP,List.append_nil]
  exact cf (decide_eq_false (by omega)) (ct (ax (by simp)) (ct (by simp) (ct (bh (by simp;omega)) rfl)))
 | d+1,i,y,hi,hy=>by
  have hu:=dJ (IntKind.wrap .u64 (nr (rA l i) 0))
  obtain⟨m,hm⟩:=GG l hl d (i+1) (y++bc (IntKind.wrap .u64 (nr (rA l i) 0))) (by omega) (by simp;omega)
  refine⟨m+1, ?_⟩
  have hr:=cm (nr (rA l i) 0)
  rw [vZ,Int.toNat_natCast (n:=i)]
  refine ct (decide_eq_true (by omega)) (ct (ax (by omega)) (ct (gF (by omega) hr.1 hr.2) ?_))
  rw [aF (n:=l.length) (by omega) (by omega),hm,aE l i (by omega),aP]
  simp only [List.append_assoc]
theorem G0 (c:RL)(hc:c.length≤1000):∀(d i:Nat) (l:RL),i+d=c.length→l.length=3+7*i→
 ∃m,goF E (aa jx) F122 0 m mX (mJ [] l c c.length i)=some ([.one (.sl true 5 (aP (l++bd (c.drop i))))],[])
 | 0,i,l,hi,hl=>by
  obtain⟨m,hm⟩:=GG l (by omega) l.length 0 [] (by omega) (by simp)
  refine⟨m+1, ?_⟩
  rw [vO]
  have:c.drop i=[]:=List.drop_eq_nil_of_le (by omega)
  rw [this,bd,List.append_nil]
  exact cf (decide_eq_false (by omega)) hm
 | d+1,i,l,hi,hl=>by
  have h7:(bZ (rA c i)).length=7:=rfl
  obtain⟨m,hm⟩:=G0 c hc d (i+1) (l++bZ (rA c i)) (by omega) (by simp;omega)
  refine⟨m+1, ?_⟩
  rw [vO,Int.toNat_natCast]
  refine ct (decide_eq_true (by omega)) (ct (ax (by omega)) (ct (bh (by simp;omega)) ?_))
  rw [aF (n:=c.length) (by omega) (by omega)]
  refine Eq.trans hm ?_
  rw [aE c i (by omega),bd,List.append_assoc]
theorem PA (a n:Int)(c:RL)(h:nb [] c=true):∃m,aj E (aa jx) m 122 [.one .nils,.agg [.i a,.i n,.sl false 89 c]] []=some ([.one (.sl true 5 (gt a n c))],[]):=by
 obtain⟨h1,h2⟩:=Bq h
 obtain⟨m,hm⟩:=G0 c h2 c.length 0 (bm a n c.length) (by omega) rfl
 exact⟨m+1,by rw [Kd];exact hm⟩
def je (x:RL):Nat→Int→Int→List Int×Int×Int
 | 0,o,e=>([],o,e)
 | k+1,o,e=>((af x o e).1::(je x k (af x o e).2.1 (af x o e).2.2).1,(je x k (af x o e).2.1 (af x o e).2.2).2)
theorem wI (x:RL)(o e:Int)(he:e≠0):∀k,(je x k o e).2=(o,e)
 | 0=>rfl
 | k+1=>by
  have:af x o e=(0,o,e):=by unfold af;rw [if_pos he]
  simp only [je,this]
  exact wI x o e he k
theorem Bp (x:RL)(hx:aI x=true)(o:Int)(ho:0≤o):∀(k:Nat) (a:Int) (acc:RL),0≤a→o+a≤x.length→
 (cj (x.drop o.toNat) k a acc).2.2=(je x k (o+a) 0).2.2∧
 ((cj (x.drop o.toNat) k a acc).2.2=0→(je x k (o+a) 0).2.1=o+(cj (x.drop o.toNat) k a acc).2.1∧(cj (x.drop o.toNat) k a acc).1=acc++(je x k (o+a) 0).1.map fun n=> [Cell.int .i64 n])
 | 0,a,acc,_,_=>by simp [cj,je]
 | k+1,a,acc,ha,hl=>by
  have hd:(x.drop o.toNat).drop a.toNat=x.drop (o+a).toNat:=by
   rw [List.drop_drop]
   congr 1
   omega
  simp only [cj,je,hd]
  by_cases he:(am (x.drop (o+a).toNat)).2.2=0
  · have hr:af x (o+a) 0=((am (x.drop (o+a).toNat)).1,o+a+(am (x.drop (o+a).toNat)).2.1,0):=by
     unfold af
     rw [if_neg (by simp),if_neg (by simpa using he)]
    have hb:=cr (aR (au hx (o+a).toNat)).1 he
    rw [List.length_drop]at hb
    rw [if_neg (by simpa using he),hr]
    have:=Bp x hx o ho k (a+(am (x.drop (o+a).toNat)).2.1) (acc++ [[.int .i64 (am (x.drop (o+a).toNat)).1]]) (by omega) (by omega)
    rw [←Int.add_assoc]at this
    refine⟨this.1,fun h=>⟨(this.2 h).1, ?_⟩⟩
    rw [(this.2 h).2]
    simp
  · have hr:af x (o+a) 0=(0,o+a,(am (x.drop (o+a).toNat)).2.2):=by
     unfold af
     rw [if_neg (by simp),if_pos he]
    rw [if_pos he,hr]
    simp only
    rw [wI x (o+a) _ he k]
    exact⟨rfl,fun h=>absurd h he⟩
theorem nP {x:RL}(hx:aI x=true){o:Int}(ho:0≤o)(hl:o≤x.length)(c:Int):
 (ai (x.drop o.toNat) c).2.2=(je x c.toNat o 0).2.2∧
 ((ai (x.drop o.toNat) c).2.2=0→(je x c.toNat o 0).2.1=o+(ai (x.drop o.toNat) c).2.1∧(ai (x.drop o.toNat) c).1=(je x c.toNat o 0).1.map fun n=> [Cell.int .i64 n]):=by
 have:=Bp x hx o ho c.toNat 0 [] (by omega) (by omega)
 rw [Int.add_zero]at this
 exact this
theorem lj (x:RL)(hx:aI x=true):∀(k:Nat) (a:Int) (acc:RL),0≤a→a≤x.length→(cj x k a acc).2.2=0→
 a≤(cj x k a acc).2.1∧(cj x k a acc).2.1≤x.length∧(cj x k a acc).1.length=acc.length+k∧(1≤k→a<(cj x k a acc).2.1)
 | 0,a,acc,ha,hl,_=>⟨Int.le_refl _,hl,rfl,fun h=>by omega⟩
 | k+1,a,acc,ha,hl,h=>by
  simp only [cj]at h⊢
  by_cases he:(am (x.drop a.toNat)).2.2=0
  · have hb:=cr (aR (au hx a.toNat)).1 he
    rw [List.length_drop]at hb
    rw [if_neg (by simpa using he)]at h⊢
    have:=lj x hx k _ (acc++ [[.int .i64 (am (x.drop a.toNat)).1]]) (by omega) (by omega) h
    simp only [List.length_append,List.length_cons,List.length_nil]at this
    exact⟨by omega,this.2.1,by omega,fun _=>by omega⟩
  · rw [if_pos he]at h
    exact absurd h he
theorem bV {x:RL}(hx:aI x=true){c:Int}(h:(ai x c).2.2=0):0≤(ai x c).2.1∧(ai x c).2.1≤x.length∧(ai x c).1.length=c.toNat∧(1≤c.toNat→0<(ai x c).2.1):=by
 have:=lj x hx c.toNat 0 [] (by omega) (by omega) h
 rw [List.length_nil,Nat.zero_add]at this
 exact this
theorem lX (x:RL)(hx:aI x=true):∀(k:Nat) (a:Int) (acc:RL),0≤a→a≤x.length→(dZ x k a acc).2.2=0→
 a≤(dZ x k a acc).2.1∧(dZ x k a acc).2.1≤x.length∧(dZ x k a acc).1.length=acc.length+k
 | 0,a,acc,ha,hl,_=>⟨Int.le_refl _,hl,rfl⟩
 | k+1,a,acc,ha,hl,h=>by
  simp only [dZ]at h⊢
  by_cases he:(ai (x.drop a.toNat) 7).2.2=0
  · have hb:=bV (au hx a.toNat) he
    rw [List.length_drop]at hb
    rw [if_neg (by simpa using he)]at h⊢
    have:=lX x hx k _ (acc++ [GY (ai (x.drop a.toNat) 7).1]) (by omega) (by omega) h
    simp only [List.length_append,List.length_cons,List.length_nil]at this
    exact⟨by omega,this.2.1,by omega⟩
  · rw [if_pos he]at h
    exact absurd h he
def dp (r:Int×Int×RL×Int×Int):List AV×List Block:=
 ([.agg [.int .i64 r.1,.int .i64 r.2.1,.sl true 89 r.2.2.1],.one (.int .i64 r.2.2.2.1),.one (.int .i64 r.2.2.2.2)],[])
def rU (a n:Int)(r:RL×Int×Int):Int×Int×RL×Int×Int:=
 if r.2.2≠0 then(0,0,[],0,r.2.2)else if di a n r.1≠0 then(0,0,[],0,di a n r.1)else(a,n,r.1,r.2.1,0)
theorem BP (m:Nat)(t7 t8:Int)(x:RL)(o e a n:Int)(l:RL)(he:e≠0):
 goF E (aa qc) F116 0 (m+1) mc (mh t7 t8 0 0 [] x o e a n l)=some (dp (0,0,[],0,e)):=by
 rw [xg]
 have h1:(e==0)=false:=by simpa using he
 have h2:(e !=0)=true:=by simpa using he
 rw [h1,h2]
 cases (decide (t8<t7))<;>rfl
theorem NC (m:Nat)(t7 t8:Int)(x:RL)(o a n:Int)(l:RL)(h:¬t8<t7)(hl:l.length<9223372036854775808):
 goF E (aa qc) F116 0 (m+1) mc (mh t7 t8 0 0 [] x o 0 a n l)=some (dp (rU a n (l,o,0))):=by
 rw [xg]
 refine cf (decide_eq_false h) (ct rfl (ct (decide_eq_true hl) ?_))
 unfold rU
 rw [if_neg (by simp)]
 by_cases hv:di a n l=0
 · rw [if_neg (by simpa using hv)]
   exact cf (by simpa using hv) rfl
 · rw [if_pos hv]
   exact ct (by simpa using hv) rfl
theorem Ql (x:RL)(hx:aI x=true)(k a n:Int)(hk:k≤6):∀(d i:Nat) (o:Int) (acc:RL),i+d=k.toNat→0≤o→o≤x.length→acc.length=i→
 ∃m,goF E (aa qc) F116 0 m mc (mh k i 0 0 [] x o 0 a n acc)=some (dp (rU a n (dZ x d o acc))):=by
 intro d
 induction d with
 | zero=>
  intro i o acc hi h0 h1 ha
  exact⟨1,by rw [NC 0 _ _ _ _ _ _ _ (by omega) (by omega)];rfl⟩
 | succ d ih=>
  intro i o acc hi h0 h1 ha
  have hc:=nP hx h0 h1 7
  have a1:=dK hx h0 h1
  have a2:=fF (e:=0) a1
  have a3:=fF (e:=(af x o 0).2.2) a2
  simp only [show(7:Int).toNat=7 from rfl,je]at hc
  rw [show((x.drop o.toNat):RL)=x.drop o.toNat from rfl]at hc
  have a4:=fF (e:=(af x (af x o 0).2.1 (af x o 0).2.2).2.2) a3
  generalize hp1:af x o 0=p1 at*
  generalize hp2:af x p1.2.1 p1.2.2=p2 at*
  generalize hp3:af x p2.2.1 p2.2.2=p3 at*
  have a5:=fF (e:=p3.2.2) a4
  generalize hp4:af x p3.2.1 p3.2.2=p4 at*
  have a6:=fF (e:=p4.2.2) a5
  generalize hp5:af x p4.2.1 p4.2.2=p5 at*
  have a7:=fF (e:=p5.2.2) a6
  generalize hp6:af x p5.2.1 p5.2.2=p6 at*
  generalize hp7:af x p6.2.1 p6.2.2=p7 at*
  obtain⟨c1,c2⟩:=hc
  by_cases he:(ai (x.drop o.toNat) 7).2.2=0
  · obtain⟨c3,c4⟩:=c2 he
    have hb:=bV (au hx o.toNat) he
    rw [List.length_drop]at hb
    obtain⟨m,hm⟩:=ih (i+1) (o+(ai (x.drop o.toNat) 7).2.1) (acc++ [GY (ai (x.drop o.toNat) 7).1]) (by omega) (by omega) (by omega) (by simp;omega)
    refine⟨m+1, ?_⟩
    rw [xg]
    dsimp only
    rw [hp1,hp2,hp3,hp4,hp5,hp6,hp7]
    refine ct (decide_eq_true (by omega)) (ct rfl (ct a1 (ct a2 (ct a3 (ct a4 (ct a5 (ct a6 (ct a7 (ct (bh (by simp;omega)) ?_)))))))))
    rw [aF (n:=6) (by omega) (by omega),c3,←c1,he]
    simp only [dZ,if_neg (show¬(ai (x.drop o.toNat) 7).2.2≠0 by simpa using he)]
    refine Eq.trans ?_ hm
    rw [c4]
    rfl
  · refine⟨2, ?_⟩
    rw [xg]
    dsimp only
    rw [hp1,hp2,hp3,hp4,hp5,hp6,hp7]
    refine ct (decide_eq_true (by omega)) (ct rfl (ct a1 (ct a2 (ct a3 (ct a4 (ct a5 (ct a6 (ct a7 (ct (bh (by simp;omega)) ?_)))))))))
    rw [BP 0 _ _ _ _ _ _ _ _ (by rw [←c1];exact he),←c1]
    simp only [dZ,if_pos he,rU]
theorem mW (x:RL):cJ x=if(ai x 3).2.2≠0 then(0,0,[],0,(ai x 3).2.2)else if 6<nr (rA (ai x 3).1 2) 0 then(0,0,[],0,3)
 else rU (nr (rA (ai x 3).1 0) 0) (nr (rA (ai x 3).1 1) 0) (dZ x (nr (rA (ai x 3).1 2) 0).toNat (ai x 3).2.1 []):=rfl
theorem Qu (x:RL)(hx:aI x=true):∃m,aj E (aa qc) m 116 [.or x] []=some (dp (cJ x)):=by
 have hc:=nP hx (o:=0) (by omega) (by omega) 3
 have a1:=dK hx (o:=0) (by omega) (by omega)
 have a2:=fF (e:=0) a1
 have a3:=fF (e:=(af x 0 0).2.2) a2
 simp only [show(3:Int).toNat=3 from rfl,show(0:Int).toNat=0 from rfl,List.drop_zero,je]at hc
 generalize hp1:af x 0 0=p1 at*
 generalize hp2:af x p1.2.1 p1.2.2=p2 at*
 generalize hp3:af x p2.2.1 p2.2.2=p3 at*
 obtain⟨c1,c2⟩:=hc
 rw [mW]
 by_cases he:(ai x 3).2.2=0
 · obtain⟨c3,c4⟩:=c2 he
   have hb:=bV hx he
   have e0:nr (rA (ai x 3).1 0) 0=p1.1:=by rw [c4];rfl
   have e1:nr (rA (ai x 3).1 1) 0=p2.1:=by rw [c4];rfl
   have e2:nr (rA (ai x 3).1 2) 0=p3.1:=by rw [c4];rfl
   rw [if_neg (by simpa using he),e0,e1,e2]
   have hz:p3.2.2=0:=by rw [←c1];exact he
   by_cases h6:6<p3.1
   · refine⟨2, ?_⟩
     rw [O8,hp1,hp2,hp3,if_pos h6]
     refine ct a1 (ct a2 (ct a3 (ct (by simpa using hz) (ct (decide_eq_true h6) ?_))))
     exact BP 0 _ _ _ _ _ _ _ _ (by decide)
   · obtain⟨m,hm⟩:=Ql x hx p3.1 p1.1 p2.1 (by omega) p3.1.toNat 0 (ai x 3).2.1 [] (by omega) hb.1 hb.2.1 rfl
     refine⟨m+1, ?_⟩
     rw [O8,hp1,hp2,hp3,if_neg h6]
     refine ct a1 (ct a2 (ct a3 (ct (by simpa using hz) (cf (decide_eq_false h6) ?_))))
     rw [c3,hz,Int.zero_add]
     exact hm
 · refine⟨2, ?_⟩
   rw [O8,hp1,hp2,hp3,if_pos he,c1]
   have hz:p3.2.2≠0:=by rw [←c1];exact he
   refine ct a1 (ct a2 (ct a3 (cf (by simpa using hz) ?_)))
   exact BP 0 _ _ _ _ _ _ _ _ hz
theorem So (x:RL)(hx:aI x=true)(t:RL)(k a n:Int)(ht:t.length=3)(htk:nr (rA t 2) 0=k)(hk:k≤6):∀(d i:Nat) (o:Int) (acc:RL),i+d=k.toNat→0≤o→o≤x.length→acc.length=i→
 ∃m,goF E (aa L34) F119 0 m yb (yt x t o i 0 0 [] a n acc)=some (dp (rU a n (dZ x d o acc))):=by
 intro d
 induction d with
 | zero=>
  intro i o acc hi h0 h1 ha
  refine⟨1, ?_⟩
  rw [BB,htk]
  refine ct (aC (by omega) (by omega)) (cf (decide_eq_false (by omega)) (ct (decide_eq_true (by omega)) ?_))
  unfold rU dZ
  rw [if_neg (by simp)]
  by_cases hv:di a n acc=0
  · rw [if_neg (by simpa using hv)]
    exact cf (by simpa using hv) rfl
  · rw [if_pos hv]
    exact ct (by simpa using hv) rfl
 | succ d ih=>
  intro i o acc hi h0 h1 ha
  have h4:=au hx o.toNat
  by_cases he:(ai (x.drop o.toNat) 7).2.2=0
  · have hb:=bV h4 he
    rw [List.length_drop]at hb
    have h7:(ai (x.drop o.toNat) 7).1.length=7:=hb.2.2.1
    obtain⟨m,hm⟩:=ih (i+1) (o+(ai (x.drop o.toNat) 7).2.1) (acc++ [GY (ai (x.drop o.toNat) 7).1]) (by omega) (by omega) (by omega) (by simp;omega)
    refine⟨m+1, ?_⟩
    have hl:=(aR hx).2
    rw [BB,htk,aN]
    refine ct (aC (by omega) (by omega)) (ct (decide_eq_true (by omega)) (ct (aC h0 (by omega)) (ct (by simp [h4]) (cf (by simpa using he) ?_))))
    refine ct (aC (by omega) (by omega)) (ct (aC (by omega) (by omega)) (ct (aC (by omega) (by omega)) (ct (aC (by omega) (by omega)) (ct (aC (by omega) (by omega)) (ct (aC (by omega) (by omega)) (ct (aC (by omega) (by omega)) (ct (bh (by simp;omega)) ?_)))))))
    rw [aF (n:=6) (by omega) (by omega),aA (by omega) (by omega)]
    simp only [dZ,if_neg (show¬(ai (x.drop o.toNat) 7).2.2≠0 by simpa using he)]
    exact hm
  · refine⟨1, ?_⟩
    rw [BB,htk,aN]
    refine ct (aC (by omega) (by omega)) (ct (decide_eq_true (by omega)) (ct (aC h0 (by omega)) (ct (by simp [h4]) (ct (by simpa using he) ?_))))
    simp only [dZ,if_pos he,rU]
    rfl
theorem Q4 (x:RL)(hx:aI x=true):∃m,aj E (aa L34) m 119 [.or x] []=some (dp (cJ x)):=by
 rw [mW]
 by_cases he:(ai x 3).2.2=0
 · have hb:=bV hx he
   have h3:(ai x 3).1.length=3:=hb.2.2.1
   rw [if_neg (by simpa using he)]
   by_cases h6:6<nr (rA (ai x 3).1 2) 0
   · refine⟨1, ?_⟩
     rw [N5,if_pos h6]
     exact ct (by simp [hx]) (cf (by simpa using he) (ct (aC (by omega) (by omega)) (ct (decide_eq_true h6) rfl)))
   · obtain⟨m,hm⟩:=So x hx (ai x 3).1 _ (nr (rA (ai x 3).1 0) 0) (nr (rA (ai x 3).1 1) 0) h3 rfl (by omega) _ 0 (ai x 3).2.1 [] (Nat.zero_add _) hb.1 hb.2.1 rfl
     refine⟨m+1, ?_⟩
     rw [N5,if_neg h6]
     exact ct (by simp [hx]) (cf (by simpa using he) (ct (aC (by omega) (by omega)) (cf (decide_eq_false h6) (ct (aC (by omega) (by omega)) (ct (aC (by omega) (by omega)) hm)))))
 · refine⟨1, ?_⟩
   rw [N5,if_pos he]
   exact ct (by simp [hx]) (ct (by simpa using he) rfl)
def kB (l:RL):Prop:=∀r∈l,0≤nr r 0∧nr r 0≤2147483647
def eL (r:List Cell):List Cell:=[.int .i64 (nr r 0)]
def ju (r:List Cell):List Cell:=[.int .i64 (nr r 0),.int .i64 (nr r 1),.int .i64 (nr r 2),.int .i64 (nr r 3),.int .i64 (nr r 4),.int .i64 (nr r 5),.int .i64 (nr r 6)]
theorem kx {v:Int}(h0:0≤v)(h1:v≤2147483647)(rest:RL):am (bc (IntKind.wrap .u64 v)++rest)=(v,((bc (IntKind.wrap .u64 v)).length:Int),0):=by
 have h:=iZ (v:=IntKind.wrap .u64 v) (cm v).1 (cm v).2 rest
 unfold am
 rw [h,if_neg (by simp),eN h0 (by omega)]
 simp only
 rw [if_neg (by omega)]
theorem gU (rest:RL):∀(l pre acc:RL),kB l→
 cj (pre++(aP l++rest)) l.length pre.length acc=(acc++l.map eL,((pre.length+(aP l).length:Nat):Int),0)
 | [],pre,acc,_=>by simp [cj,aP]
 | r::l,pre,acc,h=>by
  have hr:=h r (List.mem_cons_self)
  have ih:=gU rest l (pre++bc (IntKind.wrap .u64 (nr r 0))) (acc++ [eL r]) (fun q hq=>h q (List.mem_cons_of_mem _ hq))
  have e:(pre++(aP (r::l)++rest)).drop ((pre.length:Nat):Int).toNat=bc (IntKind.wrap .u64 (nr r 0))++(aP l++rest):=by
   rw [Int.toNat_natCast,List.drop_left,aP,List.append_assoc]
  rw [List.length_cons,cj,e,kx hr.1 hr.2,if_neg (by simp)]
  simp only
  have e2:pre++(aP (r::l)++rest)=(pre++bc (IntKind.wrap .u64 (nr r 0)))++(aP l++rest):=by
   rw [aP];simp only [List.append_assoc]
  rw [e2,←Int.natCast_add,←List.length_append]
  refine ih.trans ?_
  simp only [List.map_cons,List.append_assoc,List.length_append,aP,List.cons_append,List.nil_append]
  congr 3
  omega
theorem Aq (r:List Cell):GY ((bZ r).map eL)=ju r:=rfl
theorem pK {x y:RL}:kB (x++y)↔kB x∧kB y:=by
 unfold kB
 simp only [List.mem_append]
 exact⟨fun h=>⟨fun r hr=>h r (Or.inl hr),fun r hr=>h r (Or.inr hr)⟩,fun h r hr=>hr.elim (h.1 r) (h.2 r)⟩
theorem vL (rest:RL):∀(c pre acc:RL),kB (bd c)→
 dZ (pre++(aP (bd c)++rest)) c.length pre.length acc=(acc++c.map ju,((pre.length+(aP (bd c)).length:Nat):Int),0)
 | [],pre,acc,_=>by simp [dZ,aP,bd]
 | r::c,pre,acc,h=>by
  rw [bd,pK]at h
  have ih:=vL rest c (pre++aP (bZ r)) (acc++ [ju r]) h.2
  have e:(pre++(aP (bd (r::c))++rest)).drop ((pre.length:Nat):Int).toNat=[]++(aP (bZ r)++(aP (bd c)++rest)):=by
   rw [Int.toNat_natCast,List.drop_left,bd,dU,List.append_assoc,List.nil_append]
  have e7:=gU (aP (bd c)++rest) (bZ r) [] [] h.1
  have e7':ai ([]++(aP (bZ r)++(aP (bd c)++rest))) 7=((bZ r).map eL,((aP (bZ r)).length:Int),0):=by
   simpa [ai,bZ]using e7
  rw [List.length_cons,dZ,e,e7',if_neg (by simp)]
  simp only
  have e2:pre++(aP (bd (r::c))++rest)=(pre++aP (bZ r))++(aP (bd c)++rest):=by
   rw [bd,dU];simp only [List.append_assoc]
  rw [e2,←Int.natCast_add,←List.length_append,Aq]
  refine ih.trans ?_
  simp only [List.map_cons,List.append_assoc,List.length_append,bd,dU,List.cons_append,List.nil_append]
  congr 3
  omega
theorem LE (r:List Cell):lz (ju r)=lz r:=rfl
theorem N0 (pre:RL)(r:List Cell):dup (pre.map ju) (ju r)=dup pre r:=by
 unfold dup
 rw [List.any_map]
 rfl
theorem Ex :∀(c pre:RL),kt (pre.map ju) (c.map ju)=kt pre c
 | [],_=>rfl
 | r::c,pre=>by
  rw [List.map_cons,kt,kt,LE,N0]
  have:=Ex c (pre++ [r])
  rw [List.map_append]at this
  simp only [List.map_cons,List.map_nil]at this
  rw [this]
theorem zR (a n:Int)(c:RL):di a n (c.map ju)=di a n c:=by
 unfold di
 rw [List.length_map]
 have:=Ex c []
 simp only [List.map_nil]at this
 rw [this]
theorem sP :∀(c pre:RL),kt pre c=0→∀r∈c,lz r=0
 | [],_,_,r,hr=>by cases hr
 | q::c,pre,h,r,hr=>by
  rw [kt]at h
  by_cases h0:lz q=0
  · rw [if_neg (by simpa using h0)]at h
    split at h
    · simp at h
    · rcases List.mem_cons.1 hr with rfl | hr
      · exact h0
      · exact sP c _ h r hr
  · rw [if_pos h0]at h
    exact absurd h h0
theorem Cf {r:List Cell}(h:lz r=0):kB (bZ r):=by
 unfold lz dx iH at h
 have hh:0≤nr r 0∧nr r 0≤1000∧0≤nr r 1∧nr r 1≤1000∧0≤nr r 2∧nr r 2≤1000∧0≤nr r 3∧nr r 3≤1000∧0≤nr r 4∧nr r 4≤1000∧0≤nr r 5∧nr r 5≤1000∧0≤nr r 6∧nr r 6≤1000:=by
  generalize nr r 0=k at*
  generalize nr r 1=s at*
  generalize nr r 2=w at*
  generalize nr r 3=v at*
  generalize nr r 4=rk at*
  generalize nr r 5=rc at*
  generalize nr r 6=rf at*
  (repeat' split at h)<;>first | omega | (simp at h)
 intro q hq
 simp only [bZ,List.mem_cons,List.not_mem_nil,or_false]at hq
 rcases hq with rfl | rfl | rfl | rfl | rfl | rfl | rfl<;>simp only [nr,dV,Cell.toInt]at hh⊢<;>omega
theorem pF :∀(c:RL),(∀r∈c,lz r=0)→kB (bd c)
 | [],_=>fun r hr=>by cases hr
 | r::c,h=>by
  rw [bd,pK]
  exact⟨Cf (h r (List.mem_cons_self)),pF c (fun q hq=>h q (List.mem_cons_of_mem _ hq))⟩
theorem iC {a n:Int}{c:RL}(h:di a n c=0):201≤a∧a<204∧1≤n∧n≤3∧1≤c.length∧c.length≤6∧kt [] c=0:=by
 unfold di at h
 split at h
 · simp at h
 · split at h
   · simp at h
   · split at h
     · simp at h
     · omega
theorem As {a n:Int}{c:RL}(h:di a n c=0)(rest:RL):cJ (gt a n c++rest)=(a,n,c.map ju,((gt a n c).length:Int),0):=by
 obtain⟨h1,h2,h3,h4,h5,h6,h7⟩:=iC h
 have hs:kB (bm a n c.length):=by
  intro q hq
  simp only [bm,List.mem_cons,List.not_mem_nil,or_false]at hq
  rcases hq with rfl | rfl | rfl<;>simp only [nr,dV,Cell.toInt]<;>omega
 have hc:=pF c (sP c [] h7)
 have e:gt a n c++rest=[]++(aP (bm a n c.length)++(aP (bd c)++rest)):=by
  rw [gt,dU,List.append_assoc,List.nil_append]
 have e3:ai (gt a n c++rest) 3=((bm a n c.length).map eL,((aP (bm a n c.length)).length:Int),0):=by
  have:=gU (aP (bd c)++rest) (bm a n c.length) [] [] hs
  rw [←e]at this
  simpa [ai,bm]using this
 have e4:dZ (gt a n c++rest) c.length ((aP (bm a n c.length)).length:Int) []=(c.map ju,((gt a n c).length:Int),0):=by
  have:=vL rest c (aP (bm a n c.length)) [] hc
  have e5:aP (bm a n c.length)++(aP (bd c)++rest)=gt a n c++rest:=by
   rw [gt,dU,List.append_assoc]
  rw [e5]at this
  rw [this,gt,dU,List.length_append,List.nil_append]
 rw [mW,e3,if_neg (by simp)]
 have k0:nr (rA ((bm a n c.length).map eL) 0) 0=a:=rfl
 have k1:nr (rA ((bm a n c.length).map eL) 1) 0=n:=rfl
 have k2:nr (rA ((bm a n c.length).map eL) 2) 0=(c.length:Int):=rfl
 simp only [k0,k1,k2,Int.toNat_natCast]
 rw [if_neg (by omega),e4]
 unfold rU
 simp only
 rw [if_neg (by simp),zR,h,if_neg (by simp)]
theorem Ix (a n:Int)(c:RL):(gt a n c).length≤30+70*c.length:=by
 have:=cG (bm a n c.length++bd c)
 rw [List.length_append,ri]at this
 have h3:(bm a n c.length).length=3:=rfl
 unfold gt
 omega
theorem Bh (x:RL)(hx:aI x=true):(cJ x).2.2.1.length≤6:=by
 rw [mW]
 split
 · simp
 · rename_i h0
   split
   · simp
   · rename_i h6
     unfold rU
     split
     · simp
     · rename_i h1
       split
       · simp
       · have hb:=bV hx (c:=3) (by simpa using h0)
         have:=(lX x hx _ _ [] hb.1 hb.2.1 (by simpa using h1)).2.2
         simp only [this,List.length_nil]
         omega
theorem p9 {v:Int}{n:Nat}(hn:n<(bc (IntKind.wrap .u64 v)).length):am ((bc (IntKind.wrap .u64 v)).take n)=(0,0,1):=by
 have h:=oR (v:=IntKind.wrap .u64 v) (cm v).1 (cm v).2 hn
 unfold am
 rw [h,if_pos (by simp)]
theorem mQ :∀(l pre acc:RL) (k:Nat),kB l→k<(aP l).length→cj (pre++(aP l).take k) l.length pre.length acc=([],0,1)
 | [],pre,acc,k,_,hk=>by simp [aP]at hk
 | r::l,pre,acc,k,h,hk=>by
  have hr:=h r (List.mem_cons_self)
  rw [aP,List.length_append]at hk
  by_cases hc:k<(bc (IntKind.wrap .u64 (nr r 0))).length
  · have e:(pre++(aP (r::l)).take k).drop ((pre.length:Nat):Int).toNat=(bc (IntKind.wrap .u64 (nr r 0))).take k:=by
     rw [Int.toNat_natCast,List.drop_left,aP,List.take_append_of_le_length (by omega)]
    rw [List.length_cons,cj,e,p9 hc,if_pos (by simp)]
  · have ih:=mQ l (pre++bc (IntKind.wrap .u64 (nr r 0))) (acc++ [eL r]) (k - (bc (IntKind.wrap .u64 (nr r 0))).length) (fun q hq=>h q (List.mem_cons_of_mem _ hq)) (by omega)
    have et:(aP (r::l)).take k=bc (IntKind.wrap .u64 (nr r 0))++(aP l).take (k - (bc (IntKind.wrap .u64 (nr r 0))).length):=by
     rw [aP,List.take_append,List.take_of_length_le (by omega)]
    have e:(pre++(aP (r::l)).take k).drop ((pre.length:Nat):Int).toNat=bc (IntKind.wrap .u64 (nr r 0))++(aP l).take (k - (bc (IntKind.wrap .u64 (nr r 0))).length):=by
     rw [Int.toNat_natCast,List.drop_left,et]
    rw [List.length_cons,cj,e,kx hr.1 hr.2,if_neg (by simp)]
    simp only
    rw [et,←List.append_assoc,←Int.natCast_add,←List.length_append]
    exact ih
theorem wG :∀(c pre acc:RL) (k:Nat),kB (bd c)→k<(aP (bd c)).length→(dZ (pre++(aP (bd c)).take k) c.length pre.length acc).2.2=1
 | [],pre,acc,k,_,hk=>by simp [aP,bd]at hk
 | r::c,pre,acc,k,h,hk=>by
  rw [bd,pK]at h
  rw [bd,dU,List.length_append]at hk
  by_cases hc:k<(aP (bZ r)).length
  · have e:(pre++(aP (bd (r::c))).take k).drop ((pre.length:Nat):Int).toNat=[]++(aP (bZ r)).take k:=by
     rw [Int.toNat_natCast,List.drop_left,bd,dU,List.take_append_of_le_length (by omega),List.nil_append]
    have e7:=mQ (bZ r) [] [] k h.1 hc
    have e7':ai ([]++(aP (bZ r)).take k) 7=([],0,1):=e7
    rw [List.length_cons,dZ,e,e7',if_pos (by simp)]
  · have et:(aP (bd (r::c))).take k=aP (bZ r)++(aP (bd c)).take (k - (aP (bZ r)).length):=by
     rw [bd,dU,List.take_append,List.take_of_length_le (by omega)]
    have ih:=wG c (pre++aP (bZ r)) (acc++ [ju r]) (k - (aP (bZ r)).length) h.2 (by omega)
    have e:(pre++(aP (bd (r::c))).take k).drop ((pre.length:Nat):Int).toNat=[]++(aP (bZ r)++(aP (bd c)).take (k - (aP (bZ r)).length)):=by
     rw [Int.toNat_natCast,List.drop_left,et,List.nil_append]
    have e7:=gU ((aP (bd c)).take (k - (aP (bZ r)).length)) (bZ r) [] [] h.1
    have e7':ai ([]++(aP (bZ r)++(aP (bd c)).take (k - (aP (bZ r)).length))) 7=((bZ r).map eL,((aP (bZ r)).length:Int),0):=by
     simpa [ai,bZ]using e7
    rw [List.length_cons,dZ,e,e7',if_neg (by simp)]
    simp only
    rw [et,←List.append_assoc,←Int.natCast_add,←List.length_append,Aq]
    exact ih
theorem IE {a n:Int}{c:RL}(h:di a n c=0){k:Nat}(hk:k<(gt a n c).length):(cJ ((gt a n c).take k)).2.2.2.2=1:=by
 obtain⟨h1,h2,h3,h4,h5,h6,h7⟩:=iC h
 have hs:kB (bm a n c.length):=by
  intro q hq
  simp only [bm,List.mem_cons,List.not_mem_nil,or_false]at hq
  rcases hq with rfl | rfl | rfl<;>simp only [nr,dV,Cell.toInt]<;>omega
 have hc:=pF c (sP c [] h7)
 rw [gt,dU,List.length_append]at hk
 rw [mW]
 by_cases hk1:k<(aP (bm a n c.length)).length
 · have e:(gt a n c).take k=[]++(aP (bm a n c.length)).take k:=by
    rw [gt,dU,List.take_append_of_le_length (by omega),List.nil_append]
   have e3:ai ([]++(aP (bm a n c.length)).take k) 3=([],0,1):=mQ (bm a n c.length) [] [] k hs hk1
   rw [e,e3,if_pos (by simp)]
 · have et:(gt a n c).take k=aP (bm a n c.length)++(aP (bd c)).take (k - (aP (bm a n c.length)).length):=by
    rw [gt,dU,List.take_append,List.take_of_length_le (by omega)]
   have e3:ai ((gt a n c).take k) 3=((bm a n c.length).map eL,((aP (bm a n c.length)).length:Int),0):=by
    have:=gU ((aP (bd c)).take (k - (aP (bm a n c.length)).length)) (bm a n c.length) [] [] hs
    rw [et]
    simpa [ai,bm]using this
   have e4:=wG c (aP (bm a n c.length)) [] (k - (aP (bm a n c.length)).length) hc (by omega)
   rw [←et]at e4
   rw [e3,if_neg (by simp)]
   have k0:nr (rA ((bm a n c.length).map eL) 0) 0=a:=rfl
   have k1:nr (rA ((bm a n c.length).map eL) 1) 0=n:=rfl
   have k2:nr (rA ((bm a n c.length).map eL) 2) 0=(c.length:Int):=rfl
   simp only [k0,k1,k2,Int.toNat_natCast]
   rw [if_neg (by omega)]
   unfold rU
   rw [if_pos (by rw [e4];simp)]
   exact e4
theorem se :∀(x:RL),okB (bQ x)=true
 | []=>rfl
 | r::x=>dG (fp _) (se x)
theorem Hj (v:Int):1≤(bc v).length:=by
 unfold bc fx
 split<;>simp
theorem k41 (n k:Int)(hk:k≤4611686018427387904):aj E (aa IO) 1 41 [.oi n,.oi k] []=some ([.oi (aK n k)],[]):=by
 rw [e41]
 unfold aK
 by_cases h:k<1
 · rw [if_pos h]
   exact ct (decide_eq_true h) rfl
 · rw [if_neg h]
   refine cf (decide_eq_false h) (cf (decide_eq_false (by omega)) (cf (decide_eq_false (by omega)) ?_))
   have h0:=Int.emod_nonneg n (show k≠0 by omega)
   have h1:=Int.emod_lt_of_pos n (show 0<k by omega)
   have hn:(k.natAbs:Int)=k:=by omega
   have e:Int.tmod n k=n%k∨Int.tmod n k=n%k - k:=by
    rw [Int.tmod_eq_emod]
    split
    · left;omega
    · right;omega
   refine congrArg (fun z=>some ([AV.one (AC.int .i64 z)],([]:List Block))) ?_
   rcases e with e | e
   · rw [e,aA (by omega) (by omega),Int.tmod_eq_emod_of_nonneg (by omega),Int.add_emod_right]
     exact Int.emod_eq_of_lt h0 h1
   · rw [e,Int.sub_add_cancel,aA (by omega) (by omega),Int.tmod_eq_emod_of_nonneg (by omega)]
     exact Int.emod_eq_of_lt h0 h1
theorem ay (n b j:Int)(hb:2≤b):0≤ad n b j∧ad n b j<b:=by
 unfold ad
 exact⟨Int.emod_nonneg _ (by omega),Int.emod_lt_of_pos _ (by omega)⟩
theorem l42 (n b j:Int)(hb:2≤b)(hj:j≤9223372036854775807):∀(d i:Nat),i+d=j.toNat→
 ∃m,goF E (aa L41) F42 0 m DM (DY b j (n%1099511627776 / b^i) i)=some ([.one (.int .i64 (ad n b j))],[])
 | 0,i,hi=>by
  refine⟨1, ?_⟩
  rw [Mt]
  have hp:(0:Int)<b^i:=Int.pow_pos (by omega)
  refine cf (decide_eq_false (by omega)) (cf (decide_eq_false (by omega)) ?_)
  rw [Int.tmod_eq_emod_of_nonneg (Int.ediv_nonneg (Int.emod_nonneg _ (by omega)) (by omega))]
  unfold ad
  rw [show j.toNat=i by omega]
 | d+1,i,hi=>by
  obtain⟨m,hm⟩:=l42 n b j hb hj d (i+1) (by omega)
  refine⟨m+1, ?_⟩
  have hp:(0:Int)<b^i:=Int.pow_pos (by omega)
  have h0:0≤n%1099511627776 / b^i:=Int.ediv_nonneg (Int.emod_nonneg _ (by omega)) (by omega)
  have h1:n%1099511627776 / b^i<1099511627776:=Int.lt_of_le_of_lt (Int.ediv_le_self _ (Int.emod_nonneg _ (by omega))) (Int.emod_lt_of_pos _ (by omega))
  have h2:0≤n%1099511627776 / b^i / b:=Int.ediv_nonneg h0 (by omega)
  have h3:n%1099511627776 / b^i / b≤n%1099511627776 / b^i:=Int.ediv_le_self _ h0
  rw [Mt]
  refine ct (decide_eq_true (by omega)) (cf (decide_eq_false (by omega)) ?_)
  rw [Int.tdiv_eq_ediv_of_nonneg h0,aA (by omega) (by omega),aA (by omega) (by omega),show(i:Int)+1=((i+1:Nat):Int)by omega]
  rw [Int.ediv_ediv,if_neg (fun h=>by omega),Int.sub_zero,←Int.pow_succ]
  exact hm
theorem k42 (n b j:Int)(hb:2≤b)(hj:j≤9223372036854775807):∃m,aj E (aa L41) m 42 [.oi n,.oi b,.oi j] []=some ([.oi (ad n b j)],[]):=by
 obtain⟨m,hm⟩:=l42 n b j hb hj j.toNat 0 (by omega)
 refine⟨m+1, ?_⟩
 rw [e42]
 refine ct (decide_eq_true (by omega)) ?_
 simpa [aK]using hm
theorem k48 (l:RL)(j:Int)(hl:l.length<4611686018427387904):aj E (aa L42) 1 48 [.one (.sl false 3 l),.oi j] []=some ([.oi (gAt l j)],[]):=by
 rw [e48]
 unfold gAt
 by_cases h:l.length=0
 · rw [if_pos h]
   exact ct (beq_iff_eq.2 (by omega)) rfl
 · rw [if_neg h]
   have e:aK j l.length=j%l.length:=by
    unfold aK
    rw [if_neg (by omega)]
   have h0:=Int.emod_nonneg j (show(l.length:Int)≠0 by omega)
   have h1:=Int.emod_lt_of_pos j (show(0:Int)<l.length by omega)
   rw [e]
   exact cf (beq_eq_false_iff_ne.2 (by omega)) (ct (decide_eq_true (by omega)) (ct (aC h0 (by omega)) rfl))
theorem k96 (n:Int):aj E (aa L48) 1 96 [.oi n] []=some ([.agg [.i (jk n).1,.i (jk n).2.1,.i (jk n).2.2]],[]):=by
 rw [e96]
 have h:=ay n 8 0 (by omega)
 have h4:=ay n 4 2 (by omega)
 rw [aA (n:=1+ad n 4 2) (by omega) (by omega)]
 unfold jk
 generalize ad n 8 0=d at*
 have hd:d=0∨d=1∨d=2∨d=3∨d=4∨d=5∨d=6∨d=7:=by omega
 rcases hd with rfl | rfl | rfl | rfl | rfl | rfl | rfl | rfl<;>rfl
theorem k49 (n:Int):aj E (aa L96) 1 49 [.oi n] []=some ([.agg [.i (gCh n 0),.i (gCh n 1),.i (gCh n 2),.i (gCh n 3),.i (gCh n 4),.i (gCh n 5),.i (gCh n 6)]],[]):=by
 rw [e49]
 have h:=ay n 8 0 (by omega)
 have h1:=ay n 8 1 (by omega)
 have h2:=ay n 4 3 (by omega)
 have h3:=ay n 2 9 (by omega)
 have h4:=ay n 12 1 (by omega)
 have h5:IntKind.wrap .i64 (Int.tdiv (aK n 1099511627776) 64)=n%1099511627776 / 64:=by
  have e:aK n 1099511627776=n%1099511627776:=by unfold aK;rw [if_neg (by omega)]
  rw [e,Int.tdiv_eq_ediv_of_nonneg (by omega),aA (by omega) (by omega)]
 rw [aA (n:=1+ad n 8 1) (by omega) (by omega),aA (n:=1+ad n 4 3) (by omega) (by omega),aA (n:=1+ad n 2 9) (by omega) (by omega),aA (n:=1+ad n 12 1) (by omega) (by omega),h5]
 unfold gCh
 generalize ad n 8 0=d at*
 have hd:d=0∨d=1∨d=2∨d=3∨d=4∨d=5∨d=6∨d=7:=by omega
 rcases hd with rfl | rfl | rfl | rfl | rfl | rfl | rfl | rfl<;>rfl
theorem Pc (l:RL)(hl:l.length<4611686018427387904)(a:Nat)(ha:a<3)(K:Int)(hK:K=ad (gAt l a) 4 0)(R:List AV×List Block):∀(d i:Nat) (p:Int) (acc:RL),i+d=K.toNat→0≤p→p≤1000+2*i→acc.length≤1000+i→
 (∃m,goF E (aa L49) F14 0 m AX (zj l (gIn l a d i p acc).1 (gIn l a d i p acc).2 ((a+1:Nat):Int))=some R)→
 ∃m,goF E (aa L49) F14 0 m tl (Ae l acc p a i)=some R
 | 0,i,p,acc,hi,h0,h1,h2,hr=>by
  obtain⟨m,hm⟩:=hr
  refine⟨m+1, ?_⟩
  rw [MP,←hK]
  refine ct (decide_eq_true hl) (ct rfl (cf (decide_eq_false (by omega)) ?_))
  rw [aA (by omega) (by omega)]
  exact hm
 | d+1,i,p,acc,hi,h0,h1,h2,hr=>by
  have hk:=ay (gAt l a) 4 0 (by omega)
  obtain⟨m,hm⟩:=Pc l hl a ha K hK R d (i+1) (p+2) (acc++ [oW l a i p]) (by omega) (by omega) (by omega) (by simp;omega) hr
  refine⟨m+1, ?_⟩
  rw [MP,←hK]
  refine ct (decide_eq_true hl) (ct rfl (ct (decide_eq_true (by omega)) (ct (decide_eq_true hl) (ct (decide_eq_true hl) (ct (decide_eq_true hl) (ct rfl ?_))))))
  rw [aA (n:=p+1) (by omega) (by omega),aA (n:=p+2) (by omega) (by omega),aA (n:=(i:Int)+1) (by omega) (by omega),aA (n:=201+(a:Int)) (by omega) (by omega),bh (by simp;omega),bh (by simp;omega)]
  unfold oW at hm
  by_cases hd:ad (gAt l p) 2 12=1
  · refine ct (by simpa using hd) ?_
    by_cases hx:gCh (gAt l (p+1)) 0=gCh (gAt l p) 0
    · refine cf (bne_eq_false_iff_eq.2 hx) ?_
      by_cases hy:gCh (gAt l (p+1)) 1=gCh (gAt l p) 1
      · rw [if_neg (by simp [hx,hy])]at hm
        exact cf (bne_eq_false_iff_eq.2 hy) (ct rfl hm)
      · rw [if_pos ⟨hd,Or.inr hy⟩]at hm
        exact ct (bne_iff_ne.2 hy) (ct rfl hm)
    · rw [if_pos ⟨hd,Or.inl hx⟩]at hm
      exact ct (bne_iff_ne.2 hx) (ct rfl hm)
  · rw [if_neg (fun h=>hd h.1)]at hm
    exact cf (by simpa using hd) (ct rfl hm)
theorem pR (l:RL)(a:Nat):∀(d i:Nat) (p:Int) (acc:RL),(gIn l a d i p acc).1.length=acc.length+d∧(gIn l a d i p acc).2=p+2*d
 | 0,i,p,acc=>by simp [gIn]
 | d+1,i,p,acc=>by
  have:=pR l a d (i+1) (p+2) (acc++ [oW l a i p])
  simp only [gIn,List.length_append,List.length_cons,List.length_nil]at this⊢
  omega
theorem MY (l:RL)(hl:l.length<4611686018427387904):∀(d a:Nat) (p:Int) (acc:RL),a+d=3→0≤p→p≤100+10*a→acc.length≤100+10*a→
 ∃m,goF E (aa L49) F14 0 m AX (zj l acc p a)=some ([.one (.sl true 93 (Ct l d a p acc))],[])
 | 0,a,p,acc,ha,_,_,_=>by
  refine⟨1, ?_⟩
  rw [MJ]
  exact cf (decide_eq_false (by omega)) rfl
 | d+1,a,p,acc,ha,h0,h1,h2=>by
  have hk:=ay (gAt l a) 4 0 (by omega)
  have hb:=pR l a (ad (gAt l a) 4 0).toNat 0 p acc
  have hrec:=MY l hl d (a+1) (gIn l a (ad (gAt l a) 4 0).toNat 0 p acc).2 (gIn l a (ad (gAt l a) 4 0).toNat 0 p acc).1 (by omega) (by omega) (by omega) (by omega)
  obtain⟨m,hm⟩:=Pc l hl a (by omega) _ rfl _ (ad (gAt l a) 4 0).toNat 0 p acc (by omega) h0 (by omega) (by omega) hrec
  refine⟨m+1, ?_⟩
  rw [MJ]
  exact ct (decide_eq_true (by omega)) hm
theorem k14 (l:RL)(hl:l.length<4611686018427387904):∃m,aj E (aa L49) m 14 [.one (.sl false 3 l)] []=some ([.one (.sl true 93 (pj l))],[]):=by
 obtain⟨m,hm⟩:=MY l hl 3 0 3 [] rfl (by omega) (by omega) (by simp)
 exact⟨m+1,by rw [e14];exact hm⟩
theorem GE (n:Int):iH (jk n).1 (jk n).2.1 (jk n).2.2=0:=by
 have h:=ay n 8 0 (by omega)
 have h4:=ay n 4 2 (by omega)
 have h2:=ay n 2 3 (by omega)
 unfold jk
 (repeat' split)<;>simp only [iH]<;>(rw [if_neg (by omega),if_neg (by omega)])
theorem Ia (n:Int):lz (KN n)=0:=by
 have h:=ay n 8 0 (by omega)
 have h1:=ay n 8 1 (by omega)
 have h2:=ay n 4 3 (by omega)
 have h3:=ay n 2 9 (by omega)
 have h4:=ay n 12 1 (by omega)
 have hr:=GE (n%1099511627776 / 64)
 have hv:∀a b c d e f g:Int,lz [.int .i64 a,.int .i64 b,.int .i64 c,.int .i64 d,.int .i64 e,.int .i64 f,.int .i64 g]=dx a b c d e f g:=fun _ _ _ _ _ _ _=>rfl
 show lz (if ad n 8 0≤2 then _ else _)=0
 (repeat' split)<;>rw [hv]<;>unfold dx<;>(repeat' split)<;>first | rfl | exact hr | omega
theorem Jl (l:RL)(a i:Nat)(p:Int)(ha:a<3)(hi:i<3):nv (oW l a i p):=by
 have hc:=Ia (gAt l p)
 have hx:=Ia (gAt l (p+1))
 unfold nv oW
 simp only [nr,nl,dV,Cell.toInt,Cell.toRows]
 unfold di
 rw [if_neg (by omega)]
 split
 · rename_i h
   rw [if_neg (by simp),if_neg (by simp),kt,if_neg (by simpa using hc),if_neg (by simp [dup]),kt,if_neg (by simpa using hx),if_neg,kt]
   simp only [dup,List.nil_append,List.any_cons,List.any_nil,Bool.or_false,sC,Bool.and_eq_true,beq_iff_eq]
   intro hs
   have e0:gCh (gAt l (p+1)) 0=gCh (gAt l p) 0:=hs.1.symm
   have e1:gCh (gAt l (p+1)) 1=gCh (gAt l p) 1:=hs.2.symm
   exact h.2.elim (fun h=>h e0) (fun h=>h e1)
 · rw [if_neg (by simp),if_neg (by simp),kt,if_neg (by simpa using hc),if_neg (by simp [dup]),kt]
theorem Ik (l:RL)(a:Nat)(ha:a<3):∀(d i:Nat) (p:Int) (acc:RL),i+d≤3→(∀r∈acc,nv r)→∀r∈(gIn l a d i p acc).1,nv r
 | 0,_,_,_,_,h=>h
 | d+1,i,p,acc,hi,h=>by
  refine Ik l a ha d (i+1) (p+2) _ (by omega) fun r hr=> ?_
  rcases List.mem_append.1 hr with hr | hr
  · exact h r hr
  · rw [List.mem_singleton.1 hr]
    exact Jl l a i p ha (by omega)
theorem Dn (l:RL):∀(d a:Nat) (p:Int) (acc:RL),a+d=3→(∀r∈acc,nv r)→acc.length≤3*a→(∀r∈Ct l d a p acc,nv r)∧(Ct l d a p acc).length≤9
 | 0,_,_,_,ha,h,hl=>⟨h,by simp only [Ct];omega⟩
 | d+1,a,p,acc,ha,h,hl=>by
  have hk:=ay (gAt l a) 4 0 (by omega)
  have hb:=pR l a (ad (gAt l a) 4 0).toNat 0 p acc
  exact Dn l d (a+1) _ _ (by omega) (Ik l a (by omega) _ 0 p acc (by omega) h) (by omega)
theorem G1 (l:RL):(∀r∈pj l,nv r)∧(pj l).length≤9:=
 Dn l 3 0 3 [] rfl (fun r hr=>by cases hr) (by simp)
end Go.Proofs.YtejimgikldiajaaGreat
namespace Go.Proofs.YtejimgikldiajaaGreat
open Go.Abs
def Gap (c:Rs):Prop:=∀r∈c,1<nr r 1→∃q∈c,nr q 0=nr r 0∧nr q 1=nr r 1 - 1
def Sa (c:Rs):Prop:=∀r∈c,1≤nr r 0∧1≤nr r 1∧nr r 1≤1000000
structure Vld (c:Rs):Prop where
 asc:Asc c
 gap:Gap c
 nums:Sa c
def sub (c:Rs)(f:Int→Int):Rs:=c.filter fun r=>decide (nr r 1≤f (nr r 0))
theorem mem_sub {c:Rs}{f:Int→Int}{r:List Cell}:r∈sub c f↔r∈c∧nr r 1≤f (nr r 0):=by
 simp [sub,List.mem_filter]
theorem Vld.sub {c:Rs}(h:Vld c)(f:Int→Int):Vld (sub c f):=by
 refine⟨Ci h.asc _,fun r hr h1=> ?_,fun r hr=>h.nums r (mem_sub.1 hr).1⟩
 obtain⟨hr1,hr2⟩:=mem_sub.1 hr
 obtain⟨q,hq,e0,e1⟩:=h.gap r hr1 h1
 exact⟨q,mem_sub.2 ⟨hq,by rw [e0,e1];omega⟩,e0,e1⟩
theorem kG (c:Rs)(f:Int→Int):(sub c f).length≤c.length:=List.length_filter_le _ _
theorem ka :∀(u w:Rs) (b:Int),bH (u++w) b=if rP u b=true then bH u b else bH w b
 | [],_,_=>rfl
 | e::u,w,b=>by
  rw [List.cons_append,bH,bH,ka u w b]
  show _=if(decide (nr e 0=b) || rP u b)=true then _ else _
  by_cases h:nr e 0=b
  · simp [h]
  · simp [h]
theorem oQ {u:Rs}{e:List Cell}(h:kZ (u++ [e])){b:Int}(hb:nr e 0≤b):rP u b=false:=by
 refine Bool.eq_false_iff.2 fun hh=> ?_
 obtain⟨q,hq,he⟩:=hasV_iff.1 hh
 have:=(List.pairwise_append.1 h).2.2 q hq e (List.mem_singleton.2 rfl)
 omega
theorem kh (e:List Cell)(b:Int):bH [e] b=if nr e 0=b then nr e 1 else 0:=rfl
theorem Lj (a k:Int):nr (ent a k) 0=a:=rfl
theorem PJ (a k:Int):nr (ent a k) 1=k:=rfl
theorem nz {v:Rs}{a:Int}(h:kZ v)(hm:om v a)(b:Int):bH (jL v a) b=if b=a then bH v a+1 else bH v b:=by
 unfold jL
 split
 · rename_i hh
   have e:=hL hh.1
   have h2:kZ (v.take (v.length - 1)++ [rA v (v.length - 1)]):=by rw [←e];exact h
   have hv:∀b,bH v b=if rP (v.take (v.length - 1)) b=true then bH (v.take (v.length - 1)) b else bH [rA v (v.length - 1)] b:=fun b=>by
    conv=>lhs;rw [e]
    exact ka _ _ _
   have ha:=oQ h2 (Int.le_of_eq hh.2)
   rw [ka,hv a,hv b]
   by_cases hb:b=a
   · subst hb
     rw [if_pos rfl,ha]
     simp only [Bool.false_eq_true,if_false]
     rw [kh,kh,Lj,PJ,if_pos rfl,if_pos hh.2]
   · rw [if_neg hb]
     split
     · rfl
     · have hb1:¬a=b:=fun h=>hb h.symm
       have hb2:¬nr (rA v (v.length - 1)) 0=b:=fun h=>hb (by rw [←h,hh.2])
       rw [kh,kh,Lj,if_neg hb1,if_neg hb2]
 · rename_i hh
   rw [ka]
   have hna:rP v a=false:=by
    refine Bool.eq_false_iff.2 fun h1=> ?_
    obtain⟨q,hq,he⟩:=hasV_iff.1 h1
    have hpos:0<v.length:=List.length_pos_of_mem hq
    refine hh ⟨hpos, ?_⟩
    have h2:=hm _ (oT hpos)
    have e:=hL hpos
    rw [e]at hq
    rcases List.mem_append.1 hq with hq | hq
    · have h3:kZ (v.take (v.length - 1)++ [rA v (v.length - 1)]):=by rw [←e];exact h
      have:=(List.pairwise_append.1 h3).2.2 q hq _ (List.mem_singleton.2 rfl)
      omega
    · rw [List.mem_singleton]at hq
      rw [←hq]
      exact he
   by_cases hb:b=a
   · subst hb
     rw [if_pos rfl,hna,pc hna]
     simp only [Bool.false_eq_true,if_false]
     rw [kh,Lj,PJ,if_pos rfl]
     rfl
   · rw [if_neg hb]
     have hb1:¬a=b:=fun h=>hb h.symm
     by_cases h1:rP v b=true
     · rw [if_pos h1]
     · have h1':rP v b=false:=by simpa using h1
       rw [if_neg h1,kh,Lj,if_neg hb1,pc h1']
def DI (v:Rs):Prop:=∀e∈v,xh e=true∧1≤nr e 0∧1≤nr e 1∧nr e 1≤1000000
structure IsVec (v c:Rs):Prop where
 asc:kZ v
 ents:DI v
 has:∀r:List Cell,Oi c r=true↔1≤nr r 1∧nr r 1≤bH v (nr r 0)
structure VInv (pre v:Rs):Prop where
 asc:kZ v
 ents:DI v
 lo:∀r∈pre,nr r 1≤bH v (nr r 0)
 hi:∀a,bH v a≠0→∃r∈pre,nr r 0=a∧nr r 1=bH v a
 most:∀e∈v,∃r∈pre,nr r 0=nr e 0
theorem wJ {v:Rs}{a:Int}(h:kZ v)(hm:om v a){e:List Cell}(he:e∈jL v a):e∈v∨e=ent a (bH v a+1):=by
 have hc:=nz h hm a
 rw [if_pos rfl]at hc
 have h1:=wz h hm
 unfold jL at he hc
 split at he
 · rename_i hh
   rw [if_pos hh]at hc
   rcases List.mem_append.1 he with he | he
   · exact .inl (List.mem_of_mem_take he)
   · rw [List.mem_singleton]at he
     right
     have e2:=hL hh.1
     have h2:kZ (v.take (v.length - 1)++ [rA v (v.length - 1)]):=by rw [←e2];exact h
     have ha:=oQ h2 (Int.le_of_eq hh.2)
     rw [ka,ha]at hc
     simp only [Bool.false_eq_true,if_false]at hc
     rw [bH,if_pos (show nr (ent a (nr (rA v (v.length - 1)) 1+1)) 0=a from rfl)]at hc
     have hc:nr (rA v (v.length - 1)) 1+1=bH v a+1:=hc
     rw [he,hc]
 · rename_i hh
   rw [if_neg hh]at hc
   rcases List.mem_append.1 he with he | he
   · exact .inl he
   · rw [List.mem_singleton]at he
     right
     rw [ka]at hc
     by_cases hv:rP v a=true
     · rw [if_pos hv]at hc
       omega
     · rw [if_neg hv]at hc
       rw [bH,if_pos (show nr (ent a 1) 0=a from rfl)]at hc
       have hc:(1:Int)=bH v a+1:=hc
       rw [he,←hc]
theorem ph :∀(l pre v:Rs),Vld (pre++l)→VInv pre v→VInv (pre++l) (G4 v l)
 | [],pre,v,_,h=>by rw [List.append_nil];exact h
 | r::l,pre,v,hV,h=>by
  have hsplit:=List.pairwise_append.1 hV.asc
  have hr:r∈pre++r::l:=List.mem_append.2 (.inr List.mem_cons_self)
  have hpre:∀q∈pre,kLt q r=true:=fun q hq=>hsplit.2.2 q hq r List.mem_cons_self
  have hm:om v (nr r 0):=fun e he=>by
   obtain⟨q,hq,e0⟩:=h.most e he
   have:=kLt_iff.1 (hpre q hq)
   omega
  have hn:=hV.nums r hr
  -- the count
  have hcnt:bH v (nr r 0)+1=nr r 1:=by
   have hlt:bH v (nr r 0)≠0→bH v (nr r 0)<nr r 1:=fun h0=>by
    obtain⟨q,hq,e0,e1⟩:=h.hi _ h0
    have:=kLt_iff.1 (hpre q hq)
    omega
   have hnn:0≤bH v (nr r 0):=by
    by_cases h0:bH v (nr r 0)=0
    · omega
    · obtain⟨q,hq,e0,e1⟩:=h.hi _ h0
      have:=(hV.nums q (List.mem_append.2 (.inl hq))).2.1
      omega
   by_cases h1:1<nr r 1
   · obtain⟨q,hq,e0,e1⟩:=hV.gap r hr h1
     have hq':q∈pre:=by
      rcases List.mem_append.1 hq with hq | hq
      · exact hq
      · rcases List.mem_cons.1 hq with rfl | hq
        · omega
        · have:=kLt_iff.1 ((asc_cons.1 hsplit.2.1).1 q hq)
          omega
     have:=h.lo q hq'
     rw [e0]at this
     by_cases h0:bH v (nr r 0)=0
     · have:=(hV.nums q hq).2.1
       omega
     · have:=hlt h0
       omega
   · by_cases h0:bH v (nr r 0)=0
     · omega
     · have:=hlt h0
       have:1≤bH v (nr r 0):=by omega
       omega
  have h1:=wz h.asc hm
  have hc:=nz h.asc hm
  have:=ph l (pre++ [r]) (jL v (nr r 0)) (by rw [List.append_assoc];exact hV) ⟨h1.1,fun e he=> ?_,fun q hq=> ?_,fun a ha=> ?_,fun e he=> ?_⟩
  · rw [List.append_assoc]at this
    exact this
  · rcases wJ h.asc hm he with he | rfl
    · exact h.ents e he
    · refine⟨rfl,hn.1, ?_, ?_⟩
      · show 1≤bH v (nr r 0)+1
        omega
      · show bH v (nr r 0)+1≤1000000
        omega
  · rw [hc]
    rcases List.mem_append.1 hq with hq | hq
    · have h2:=h.lo q hq
      split
      · rename_i e0
        rw [e0]at h2
        omega
      · exact h2
    · rw [List.mem_singleton]at hq
      subst hq
      rw [if_pos rfl]
      omega
  · rw [hc]at ha
    by_cases hb:a=nr r 0
    · subst hb
      exact⟨r,List.mem_append.2 (.inr (List.mem_singleton.2 rfl)),rfl,by rw [hc,if_pos rfl];omega⟩
    · rw [if_neg hb]at ha
      obtain⟨q,hq,e0,e1⟩:=h.hi a ha
      exact⟨q,List.mem_append.2 (.inl hq),e0,by rw [hc,if_neg hb];exact e1⟩
  · rcases wJ h.asc hm he with he | rfl
    · obtain⟨q,hq,e0⟩:=h.most e he
      exact⟨q,List.mem_append.2 (.inl hq),e0⟩
    · exact⟨r,List.mem_append.2 (.inr (List.mem_singleton.2 rfl)),rfl⟩
theorem uK :VInv [] []:=⟨by simp [kZ],fun e he=>(by cases he),fun r hr=>(by cases hr),fun a ha=>absurd rfl ha,fun e he=>(by cases he)⟩
theorem Bv {c:Rs}(hg:Gap c){r:List Cell}(hr:r∈c):∀(d:Nat) (n:Int),1≤n→n+d=nr r 1→∃q∈c,nr q 0=nr r 0∧nr q 1=n
 | 0,n,_,h=>⟨r,hr,rfl,by omega⟩
 | d+1,n,h1,h=>by
  obtain⟨q,hq,e0,e1⟩:=Bv hg hr d (n+1) (by omega) (by omega)
  obtain⟨p,hp,f0,f1⟩:=hg q hq (by omega)
  exact⟨p,hp,by rw [f0,e0],by omega⟩
theorem D1 {c:Rs}(h:Vld c):IsVec (Jy c) c:=by
 have hI:=ph c [] [] h uK
 refine⟨hI.asc,hI.ents,fun r=>⟨fun hr=> ?_,fun hr=> ?_⟩⟩
 · obtain⟨q,hq,e0,e1⟩:=hasK_iff.1 hr
   have h1:=hI.lo q hq
   have h2:=(h.nums q hq).2.1
   rw [←e0,←e1]
   exact⟨h2,h1⟩
 · obtain⟨q,hq,e0,e1⟩:=hI.hi (nr r 0) (fun h0=>by
    have:bH (Jy c) (nr r 0)=0:=h0
    omega)
   have e1:nr q 1=bH (Jy c) (nr r 0):=e1
   obtain⟨p,hp,f0,f1⟩:=Bv h.gap hq (nr q 1 - nr r 1).toNat (nr r 1) hr.1 (by omega)
   exact hasK_iff.2 ⟨p,hp,by rw [f0,e0],f1⟩
theorem JD {v:Rs}(h:DI v)(a:Int):0≤bH v a:=by
 induction v with
 | nil=>exact Int.le_refl _
 | cons e v ih=>
  unfold bH
  split
  · have:=(h e List.mem_cons_self).2.2.1;omega
  · exact ih fun x hx=>h x (List.mem_cons_of_mem _ hx)
theorem F1 {v:Rs}(h:kZ v){e:List Cell}(he:e∈v):bH v (nr e 0)=nr e 1:=by
 obtain⟨j,hj,rfl⟩:=List.getElem_of_mem he
 have:=DX (c:=v) (a:=nr v[j] 0) hj (by rw [cg hj]) (fun i hi=>by
  have:=List.pairwise_iff_getElem.1 h i j (by omega) hj hi
  rw [cg (by omega)]
  omega)
 rw [this,cg hj]
theorem wB {a k:Int}:∀{v:Rs} (p:Bool),(∀e∈v,nr e 0<a)→dP a k p v=if p=true then v else v++ [ent a k]
 | [],p,_=>by cases p<;>rfl
 | e::v,p,h=>by
  have h1:=h e List.mem_cons_self
  rw [dP,if_neg (fun hh=>by omega),if_neg (by omega),wB p fun x hx=>h x (List.mem_cons_of_mem _ hx)]
  cases p<;>rfl
theorem vC {a k:Int}:∀{u:Rs} (w:Rs) (p:Bool),(∀e∈u,nr e 0<a)→dP a k p (u++w)=u++dP a k p w
 | [],_,_,_=>rfl
 | e::u,w,p,h=>by
  have h1:=h e List.mem_cons_self
  rw [List.cons_append,dP,if_neg (fun hh=>by omega),if_neg (by omega),vC w p fun x hx=>h x (List.mem_cons_of_mem _ hx)]
  rfl
theorem B7 {v:Rs}{a:Int}(h:kZ v)(hm:om v a)(ha:1≤a)(h0:0≤bH v a)(h1:bH v a<1000000):ix v a (bH v a+1)=jL v a:=by
 unfold ix
 rw [if_neg (by omega),decide_eq_false (by omega)]
 unfold jL
 split
 · rename_i hh
   have e:=hL hh.1
   have h2:kZ (v.take (v.length - 1)++ [rA v (v.length - 1)]):=by rw [←e];exact h
   have hlow:∀x∈v.take (v.length - 1),nr x 0<a:=fun x hx=>by
    have:=(List.pairwise_append.1 h2).2.2 x hx _ (List.mem_singleton.2 rfl)
    omega
   have hc:bH v a=nr (rA v (v.length - 1)) 1:=by
    have:=F1 h (oT hh.1)
    rw [hh.2]at this
    exact this
   rw [hc]
   refine Eq.trans (congrArg (dP a _ false) e) ?_
   rw [vC _ _ hlow,dP,if_pos ⟨rfl,by omega⟩,if_pos hh.2]
   rfl
 · rename_i hh
   have hlow:∀x∈v,nr x 0<a:=fun x hx=>by
    have h2:=hm x hx
    by_cases he:nr x 0=a
    · exfalso
      have hpos:0<v.length:=List.length_pos_of_mem hx
      refine hh ⟨hpos, ?_⟩
      have h2:=hm _ (oT hpos)
      have e:=hL hpos
      rw [e]at hx
      rcases List.mem_append.1 hx with hx | hx
      · have h3:kZ (v.take (v.length - 1)++ [rA v (v.length - 1)]):=by rw [←e];exact h
        have:=(List.pairwise_append.1 h3).2.2 x hx _ (List.mem_singleton.2 rfl)
        omega
      · rw [List.mem_singleton]at hx
        rw [←hx]
        exact he
    · omega
   have hc:bH v a=0:=pc (Bool.eq_false_iff.2 fun hv=>by
    obtain⟨q,hq,e0⟩:=hasV_iff.1 hv
    have:=hlow q hq
    omega)
   rw [hc,wB false hlow]
   rfl
theorem AO :∀(l pre v:Rs),Vld (pre++l)→(pre++l).length≤1000→VInv pre v→(∀a,bH v a≤pre.length)→nh v l=G4 v l
 | [],_,_,_,_,_,_=>rfl
 | r::l,pre,v,hV,hl,h,hb=>by
  have hsplit:=List.pairwise_append.1 hV.asc
  have hr:r∈pre++r::l:=List.mem_append.2 (.inr List.mem_cons_self)
  have hm:om v (nr r 0):=fun e he=>by
   obtain⟨q,hq,e0⟩:=h.most e he
   have:=kLt_iff.1 (hsplit.2.2 q hq r List.mem_cons_self)
   omega
  have h1:G4 v [r]=jL v (nr r 0):=rfl
  have hI:=ph [r] pre v ⟨List.Pairwise.sublist (by simp) hV.asc,fun q hq h1=> ?_,fun q hq=>hV.nums q (by simp at hq⊢;rcases hq with hq | hq<;>simp [hq])⟩ h
  · simp only [List.length_append,List.length_cons]at hl
    have e1:ix v (nr r 0) (bH v (nr r 0)+1)=jL v (nr r 0):=B7 h.asc hm (hV.nums r hr).1 (JD h.ents _) (by have:=hb (nr r 0);omega)
    show nh (ix v (nr r 0) (bH v (nr r 0)+1)) l=G4 (jL v (nr r 0)) l
    rw [e1]
    rw [h1]at hI
    refine AO l (pre++ [r]) _ (by rw [List.append_assoc];exact hV) (by simp;omega) hI fun a=> ?_
    rw [nz h.asc hm]
    have:=hb a
    have:=hb (nr r 0)
    simp only [List.length_append,List.length_cons,List.length_nil]
    split<;>omega
  · have hq':q∈pre++r::l:=by simp at hq⊢;rcases hq with hq | hq<;>simp [hq]
    obtain⟨p,hp,e0,e1⟩:=hV.gap q hq' h1
    refine⟨p, ?_,e0,e1⟩
    rcases List.mem_append.1 hp with hp | hp
    · exact List.mem_append.2 (.inl hp)
    · rcases List.mem_cons.1 hp with rfl | hp
      · exact List.mem_append.2 (.inr (List.mem_singleton.2 rfl))
      · exfalso
        have h3:=kLt_iff.1 ((asc_cons.1 hsplit.2.1).1 p hp)
        rcases List.mem_append.1 hq with hq | hq
        · have h4:=kLt_iff.1 (hsplit.2.2 q hq p (List.mem_cons_of_mem _ hp))
          omega
        · rw [List.mem_singleton]at hq
          subst hq
          omega
theorem Ec {c:Rs}(h:Vld c)(hl:c.length≤1000):gf c=Jy c:=
 AO c [] [] h hl uK fun a=>by simp [bH]
theorem vK :∀v:Rs,B3 v v=true
 | []=>rfl
 | e::v=>by
  rw [B3]
  have:B3 v ((e::v).drop 1)=true:=vK v
  rw [this]
  simp [rA]
theorem BC (v:Rs):rC v v=true:=by simp [rC,vK]
end Go.Proofs.YtejimgikldiajaaGreat
namespace Go.Proofs.YtejimgikldiajaaGreat
open Go.Abs
theorem P6 :∀(k:Nat) (v:Int) (acc:RL),0≤v→v<128^k→v<18446744073709551616→1≤k→acc.length+k≤1000→
 ∃m,goF E (aa L91) F98 0 m oU (pa [] v acc)=some ([.one (.sl true 5 (acc++fx k v))],[])
 | 0,_,_,_,_,_,h,_=>by omega
 | k+1,v,acc,h0,h1,h2,_,hl=>by
  by_cases hs:v<128
  · refine⟨1, ?_⟩
    rw [AS]
    refine cf (decide_eq_false (by omega)) (ct (bh (by simp;omega)) (ct (ax (by simp)) (ct (by simp) (ct (bh (by simp [bp];omega)) ?_))))
    rw [bp,Int.toNat_natCast,List.take_length,MD (by omega) (by omega),fx,if_pos hs,List.nil_append]
  · have hk:1≤k:=by
     cases k with
     | zero=>simp at h1;omega
     | succ k=>omega
    obtain⟨m,hm⟩:=P6 k (v / 128) (acc++ [[.int .u8 (v%128+128)]]) (by omega) (by rw [Int.pow_succ]at h1;omega) (by omega) hk (by simp;omega)
    refine⟨m+1, ?_⟩
    rw [AS]
    refine ct (decide_eq_true (by omega)) (ct (bh (by simp;omega)) ?_)
    have e:orI .u8 (IntKind.wrap .u8 v) 128=v%128+128:=by
     rw [qq,or8 (by omega) (by omega)]
     omega
    rw [e,P0,hm,fx,if_neg hs,List.append_assoc]
    rfl
theorem Of {v:Int}(h:okU v=true):0≤v∧v<18446744073709551616:=by
 unfold okU at h
 have h:=eq_of_beq h
 omega
theorem Is {v:Int}(h0:0≤v)(h1:v<18446744073709551616):okU v=true:=by
 unfold okU
 exact beq_iff_eq.2 (by omega)
theorem QK (v:Int)(h:okU v=true):∃m,aj E (aa L91) m 98 [.one .nils,.one (.int .u64 v)] []=some ([.one (.sl true 5 (bc v))],[]):=by
 obtain⟨h0,h1⟩:=Of h
 obtain⟨m,hm⟩:=P6 10 v [] h0 (Mo h1) h1 (by omega) (by simp)
 exact⟨m+1,by rw [Oa];exact hm⟩
theorem gV {c:RL}(h:ao c=true):c.length≤1000∧bO c=true:=by
 unfold ao at h
 simp only [Bool.and_eq_true,decide_eq_true_eq]at h
 exact h
theorem dW {c:RL}(h1:c.length≤1000)(h2:bO c=true):ao c=true:=by
 unfold ao
 simp only [Bool.and_eq_true,decide_eq_true_eq]
 exact⟨h1,h2⟩
theorem pP {p:List Cell→Bool}{l:RL}(h:l.all p=true){i:Nat}(hi:i<l.length):p (rA l i)=true:=by
 rw [cg hi]
 exact List.all_eq_true.1 h _ (List.getElem_mem hi)
theorem l0 {c:RL}(h:bO c=true){i:Nat}(hi:i<c.length):(nl (rA c i) 2).length<9223372036854775808:=by
 have:=pP h hi
 unfold kd at this
 simpa using this
theorem l4 (q q':List Cell)(l:RL):iJ true q l=iJ true q' l:=by
 cases l<;>simp [iJ]
theorem fe (first:Bool)(q r:List Cell)(rs:RL):iJ first q (r::rs)=
 if dN r≠0 then dN r
 else if first=false∧km (nr r 0) (nr r 1) (nr q 0) (nr q 1)≤0 then 7
 else if 1<nr r 1∧(first=true∨nr q 0≠nr r 0∨nr q 1≠nr r 1 - 1)then 8
 else iJ false r rs:=rfl
theorem l61 (c:RL)(hc:c.length≤1000)(hs:bO c=true):∀(d i:Nat),i+d=c.length→
 ∃m,goF E (aa L14) F61 0 m uf (sj c c c.length i)=some ([.one (.int .i64 (iJ (decide (i=0)) (rA c (i - 1)) (c.drop i)))],[])
 | 0,i,hi=>by
  refine⟨1, ?_⟩
  rw [MZ]
  have:c.drop i=[]:=List.drop_eq_nil_of_le (by omega)
  rw [this,iJ]
  exact cf (decide_eq_false (by omega)) rfl
 | d+1,i,hi=>by
  have hi':i<c.length:=by omega
  obtain⟨m,hm⟩:=l61 c hc hs d (i+1) (by omega)
  rw [decide_eq_false (by omega:¬i+1=0),Nat.add_sub_cancel]at hm
  have hsh:=l0 hs hi'
  refine⟨m+1, ?_⟩
  rw [MZ,aE c i hi',fe,Int.toNat_natCast,aF (n:=c.length) hi' (by omega),hm]
  refine ct (decide_eq_true (by omega)) (ct (ax hi') (ct (decide_eq_true hsh) ?_))
  generalize hr:rA c i=r
  show cond (dN r !=0) (some ([AV.one (AC.int .i64 (dN r))],([]:List Block))) _=_
  by_cases hv:dN r=0
  · rw [if_neg (by simpa using hv)]
    refine cf (by simpa using hv) ?_
    have hn:=iC hv
    by_cases h0:i=0
    · subst h0
      refine cf (decide_eq_false (by simp)) ?_
      rw [decide_eq_true rfl,if_neg (by simp)]
      by_cases h1:1<nr r 1
      · rw [if_pos ⟨h1,Or.inl rfl⟩]
        exact ct (decide_eq_true h1) (ct (by simp) rfl)
      · rw [if_neg (fun h=>h1 h.1)]
        exact cf (decide_eq_false h1) rfl
    · rw [aA (n:=(i:Int) - 1) (by omega) (by omega),show((i:Int) - 1).toNat=i - 1 by omega,aA (n:=nr r 1 - 1) (by omega) (by omega)]
      rw [decide_eq_false h0]
      generalize rA c (i - 1)=q
      refine ct (decide_eq_true (by omega)) (ct (aC (by omega) (by omega)) ?_)
      by_cases h2:km (nr r 0) (nr r 1) (nr q 0) (nr q 1)≤0
      · rw [if_pos ⟨rfl,h2⟩]
        exact ct (decide_eq_true h2) rfl
      · rw [if_neg (fun h=>h2 h.2)]
        refine cf (decide_eq_false h2) ?_
        by_cases h1:1<nr r 1
        · refine ct (decide_eq_true h1) (cf (beq_eq_false_iff_ne.2 (by omega)) (ct (aC (by omega) (by omega)) ?_))
          by_cases h3:nr q 0=nr r 0
          · refine cf (bne_eq_false_iff_eq.2 h3) (ct (aC (by omega) (by omega)) ?_)
            by_cases h4:nr q 1=nr r 1 - 1
            · rw [if_neg (by simp [h3,h4])]
              exact cf (bne_eq_false_iff_eq.2 h4) rfl
            · rw [if_pos ⟨h1,Or.inr (Or.inr h4)⟩]
              exact ct (bne_iff_ne.2 h4) rfl
          · rw [if_pos ⟨h1,Or.inr (Or.inl h3)⟩]
            exact ct (bne_iff_ne.2 h3) rfl
        · rw [if_neg (fun h=>h1 h.1)]
          exact cf (decide_eq_false h1) rfl
  · rw [if_pos hv]
    exact ct (by simpa using hv) rfl
theorem k61 (c:RL)(h:ao c=true):∃m,aj E (aa L14) m 61 [.os c] []=some ([.oi (bM c)],[]):=by
 obtain⟨h1,h2⟩:=gV h
 obtain⟨m,hm⟩:=l61 c h1 h2 c.length 0 (by omega)
 refine⟨m+1, ?_⟩
 rw [e61]
 refine Eq.trans hm ?_
 rw [decide_eq_true rfl,List.drop_zero,l4 _ []]
 rfl
theorem EO (a n b m:Int):(km b m a n≥0)↔(km a n b m≤0):=by
 have:=lg a n b m
 have:=lg b m a n
 omega
theorem l70 (c:RL)(hc:c.length≤1000)(hs:bO c=true):∀(d i:Nat),i+d=c.length→
 ∃m,goF E (aa L61) F70 0 m tg (uG c i)=some ([.one (.int .i64 (iJ (decide (i=0)) (rA c (i - 1)) (c.drop i)))],[])
 | 0,i,hi=>by
  refine⟨1, ?_⟩
  rw [MW]
  have:c.drop i=[]:=List.drop_eq_nil_of_le (by omega)
  rw [this,iJ]
  exact cf (decide_eq_false (by omega)) rfl
 | d+1,i,hi=>by
  have hi':i<c.length:=by omega
  obtain⟨m,hm⟩:=l70 c hc hs d (i+1) (by omega)
  rw [decide_eq_false (by omega:¬i+1=0),Nat.add_sub_cancel]at hm
  have hsh:=l0 hs hi'
  have hib:=ax hi'
  refine⟨m+1, ?_⟩
  rw [MW,aE c i hi',fe,Int.toNat_natCast,aF (n:=c.length) hi' (by omega),hm]
  refine ct (decide_eq_true (by omega)) (ct hib (ct (decide_eq_true hsh) ?_))
  generalize hr:rA c i=r
  show cond (dN r !=0) (some ([AV.one (AC.int .i64 (dN r))],([]:List Block))) _=_
  by_cases hv:dN r=0
  · rw [if_neg (by simpa using hv)]
    refine cf (by simpa using hv) ?_
    have hn:=iC hv
    by_cases h0:i=0
    · subst h0
      refine cf (decide_eq_false (by simp)) (ct hib ?_)
      rw [decide_eq_true rfl,if_neg (by simp)]
      by_cases h1:1<nr r 1
      · rw [if_pos ⟨h1,Or.inl rfl⟩]
        exact ct (decide_eq_true h1) (ct (by simp) rfl)
      · rw [if_neg (fun h=>h1 h.1)]
        exact cf (decide_eq_false h1) rfl
    · rw [aA (n:=(i:Int) - 1) (by omega) (by omega),show((i:Int) - 1).toNat=i - 1 by omega,aA (n:=nr r 1 - 1) (by omega) (by omega)]
      rw [decide_eq_false h0]
      generalize rA c (i - 1)=q
      have hsw:=EO (nr r 0) (nr r 1) (nr q 0) (nr q 1)
      refine ct (decide_eq_true (by omega)) (ct (aC (by omega) (by omega)) (ct hib ?_))
      by_cases h2:km (nr r 0) (nr r 1) (nr q 0) (nr q 1)≤0
      · rw [if_pos ⟨rfl,h2⟩]
        exact ct (decide_eq_true (hsw.2 h2)) rfl
      · rw [if_neg (fun h=>h2 h.2)]
        refine cf (decide_eq_false (fun h=>h2 (hsw.1 h))) (ct hib ?_)
        by_cases h1:1<nr r 1
        · refine ct (decide_eq_true h1) (cf (beq_eq_false_iff_ne.2 (by omega)) (ct (aC (by omega) (by omega)) (ct hib ?_)))
          by_cases h3:nr q 0=nr r 0
          · refine cf (bne_eq_false_iff_eq.2 h3) (ct (aC (by omega) (by omega)) (ct hib ?_))
            by_cases h4:nr q 1=nr r 1 - 1
            · rw [if_neg (by simp [h3,h4])]
              exact cf (bne_eq_false_iff_eq.2 h4) rfl
            · rw [if_pos ⟨h1,Or.inr (Or.inr h4)⟩]
              exact ct (bne_iff_ne.2 h4) rfl
          · rw [if_pos ⟨h1,Or.inr (Or.inl h3)⟩]
            exact ct (bne_iff_ne.2 h3) rfl
        · rw [if_neg (fun h=>h1 h.1)]
          exact cf (decide_eq_false h1) rfl
  · rw [if_pos hv]
    exact ct (by simpa using hv) rfl
theorem k70 (c:RL)(h:ao c=true):∃m,aj E (aa L61) m 70 [.os c] []=some ([.oi (bM c)],[]):=by
 obtain⟨h1,h2⟩:=gV h
 obtain⟨m,hm⟩:=l70 c h1 h2 c.length 0 (by omega)
 refine⟨m+1, ?_⟩
 rw [e70]
 refine Eq.trans hm ?_
 rw [decide_eq_true rfl,List.drop_zero,l4 _ []]
 rfl
theorem l38 (c d:RL)(hc:c.length≤1000)(hs:bO c=true)(hd:c.length=d.length):∀(e i:Nat),i+e=c.length→
 ∃m,goF E (aa L70) F38 0 m Dy (Ew c d i)=some ([.one (.bool (l7 (c.drop i) (d.drop i)))],[])
 | 0,i,hi=>by
  refine⟨1, ?_⟩
  rw [Mn]
  have:c.drop i=[]:=List.drop_eq_nil_of_le (by omega)
  rw [this,l7]
  exact cf (decide_eq_false (by omega)) rfl
 | e+1,i,hi=>by
  have hi':i<c.length:=by omega
  obtain⟨m,hm⟩:=l38 c d hc hs hd e (i+1) (by omega)
  refine⟨m+1, ?_⟩
  rw [Mn]
  rw [aE c i hi',l7,Int.toNat_natCast,aF (n:=c.length) hi' (by omega),hm,gT,List.drop_drop,Nat.add_zero]
  refine ct (decide_eq_true (by omega)) (ct (ax hi') (ct (ax (by omega)) (ct (decide_eq_true (l0 hs hi')) ?_)))
  show cond (!(FX (rA c i) (rA d i))) _ _=_
  generalize FX (rA c i) (rA d i)=b1
  cases b1<;>rfl
theorem k38 (c d:RL)(h:ao c=true):∃m,aj E (aa L70) m 38 [.os c,.os d] []=some ([.ob (da c d)],[]):=by
 obtain⟨h1,h2⟩:=gV h
 unfold da
 by_cases hd:c.length=d.length
 · obtain⟨m,hm⟩:=l38 c d h1 h2 hd c.length 0 (by omega)
   refine⟨m+1, ?_⟩
   rw [e38,show(0:Int)=((0:Nat):Int)from rfl,hm,decide_eq_true hd]
   exact cf (bne_eq_false_iff_eq.2 (by omega)) rfl
 · refine⟨1, ?_⟩
   rw [e38,decide_eq_false hd]
   exact ct (bne_iff_ne.2 (by omega)) rfl
theorem pV {x c:RL}(h:dq x c=true):x.length≤100000∧c.length≤100∧c.all lI=true:=by
 unfold dq at h
 simp only [Bool.and_eq_true,decide_eq_true_eq]at h
 exact h
theorem Gx {c:RL}(h:c.all lI=true){i:Nat}(hi:i<c.length):(nl (rA c i) 2).length≤100:=by
 have:=pP h hi
 unfold lI at this
 simpa using this
theorem zk {x c:RL}(h1:x.length≤1000000)(h2:c.length≤1000):nb x c=true:=by
 unfold nb
 simp [h1,h2]
theorem xG (r:List Cell):(jA r).length≤30+70*(nl r 2).length:=Ix _ _ _
theorem l99 (x c:RL)(hx:x.length≤100000)(hc:c.length≤100)(hf:c.all lI=true):∀(d i:Nat) (y:RL),i+d=c.length→y.length≤20+7030*i→
 ∃m,goF E (aa L38) F99 0 m Et (Df x y c c.length i)=some ([.one (.sl true 5 (x++(y++bQ (c.drop i))))],[])
 | 0,i,y,hi,hy=>by
  refine⟨1, ?_⟩
  rw [Mr]
  have:c.drop i=[]:=List.drop_eq_nil_of_le (by omega)
  simp only [bp,Int.toNat_natCast,List.take_length,this,bQ,List.append_nil]
  exact cf (decide_eq_false (by omega)) (ct (ax (by omega)) (ct (by simp) (ct (bh (by omega)) rfl)))
 | d+1,i,y,hi,hy=>by
  have hi':i<c.length:=by omega
  have hfew:=Gx hf hi'
  have hle:=xG (rA c i)
  obtain⟨m,hm⟩:=l99 x c hx hc hf d (i+1) (y++jA (rA c i)) (by omega) (by simp;omega)
  refine⟨m+1, ?_⟩
  rw [Mr,Int.toNat_natCast]
  refine ct (decide_eq_true (by omega)) (ct (ax hi') (ct (zk (by simp) (by omega)) (ct (bh (by have:=hle;unfold jA at this;omega)) ?_)))
  rw [aF (n:=c.length) hi' (by omega)]
  refine Eq.trans hm ?_
  rw [aE c i hi',bQ]
  simp only [List.append_assoc]
theorem PY (x c:RL)(hx:x.length≤100000)(hc:c.length≤100)(hf:c.all lI=true):∀(d i:Nat) (y:RL),i+d=c.length→y.length≤20+7030*i→
 ∃m,goF E (aa L38) F99 0 m pC (pt x y c c.length i)=some ([.one (.sl true 5 (x++(y++bQ (c.drop i))))],[])
 | 0,i,y,hi,hy=>by
  refine⟨1, ?_⟩
  rw [Bf]
  have:c.drop i=[]:=List.drop_eq_nil_of_le (by omega)
  simp only [bp,Int.toNat_natCast,List.take_length,this,bQ,List.append_nil]
  exact cf (decide_eq_false (by omega)) (ct (ax (by omega)) (ct (by simp) (ct (bh (by omega)) rfl)))
 | d+1,i,y,hi,hy=>by
  have hi':i<c.length:=by omega
  have hfew:=Gx hf hi'
  have hle:=xG (rA c i)
  obtain⟨m,hm⟩:=PY x c hx hc hf d (i+1) (y++jA (rA c i)) (by omega) (by simp;omega)
  refine⟨m+1, ?_⟩
  rw [Bf,Int.toNat_natCast]
  refine ct (decide_eq_true (by omega)) (ct (ax hi') (ct (zk (by simp) (by omega)) (ct (bh (by have:=hle;unfold jA at this;omega)) ?_)))
  rw [aF (n:=c.length) hi' (by omega)]
  refine Eq.trans hm ?_
  rw [aE c i hi',bQ]
  simp only [List.append_assoc]
theorem k99 (x c:RL)(h:dq x c=true):∃m,aj E (aa L38) m 99 [.or x,.os c] []=some ([.one (.sl true 5 (x++gB c))],[]):=by
 obtain⟨h1,h2,h3⟩:=pV h
 have hu:=dJ (c.length:Int)
 obtain⟨m,hm⟩:=l99 x c h1 h2 h3 c.length 0 (bc c.length) (by omega) (by omega)
 refine⟨m+1, ?_⟩
 rw [e99,eN (n:=(c.length:Int)) (by omega) (by omega)]
 exact ct (Is (by omega) (by omega)) hm
theorem Qv (c:RL)(h:dq [] c=true):∃m,aj E (aa L38) m 99 [.one .nils,.os c] []=some ([.one (.sl true 5 (gB c))],[]):=by
 obtain⟨h1,h2,h3⟩:=pV h
 have hu:=dJ (c.length:Int)
 obtain⟨m,hm⟩:=PY [] c h1 h2 h3 c.length 0 (bc c.length) (by omega) (by omega)
 refine⟨m+1, ?_⟩
 rw [Ol,eN (n:=(c.length:Int)) (by omega) (by omega)]
 refine ct (Is (by omega) (by omega)) ?_
 refine Eq.trans hm ?_
 rw [List.nil_append,List.drop_zero]
 rfl
theorem kF {x:RL}(hx:aI x=true):0≤(cJ x).2.2.2.1∧(cJ x).2.2.2.1≤x.length:=by
 rw [mW]
 split
 · simp
 · rename_i h0
   have hb:=bV hx (c:=3) (by simpa using h0)
   split
   · simp
   · unfold rU
     split
     · simp
     · rename_i h1
       split
       · simp
       · have:=lX x hx _ _ [] hb.1 hb.2.1 (by simpa using h1)
         simp only
         omega
theorem rx (x:RL)(hx:aI x=true):∀(k:Nat) (o:Int) (acc:RL),0≤o→o≤x.length→(fo x k o acc).2.2=0→
 (fo x k o acc).1.length=acc.length+k∧(bO acc=true→bO (fo x k o acc).1=true)
 | 0,o,acc,_,_,_=>⟨rfl,id⟩
 | k+1,o,acc,h0,h1,h=>by
  simp only [fo]at h⊢
  have hb:=kF (au hx o.toNat)
  rw [List.length_drop]at hb
  have hl:=Bh _ (au hx o.toNat)
  by_cases he:(cJ (x.drop o.toNat)).2.2.2.2=0
  · rw [if_neg (by simpa using he)]at h⊢
    have:=rx x hx k _ (acc++ [B4 (cJ (x.drop o.toNat))]) (by omega) (by omega) h
    simp only [List.length_append,List.length_cons,List.length_nil]at this
    refine⟨by omega,fun hs=>this.2 ?_⟩
    unfold bO at hs⊢
    rw [List.all_append,hs]
    have e:nl (B4 (cJ (x.drop o.toNat))) 2=(cJ (x.drop o.toNat)).2.2.1:=rfl
    simp only [List.all_cons,List.all_nil,Bool.and_true,Bool.true_and,kd,e,decide_eq_true_eq]
    omega
  · rw [if_pos he]at h
    exact absurd h he
def dc (r:RL×Int×Int):List AV×List Block:=([.one (.sl true 93 r.1),.one (.int .i64 r.2.1),.one (.int .i64 r.2.2)],[])
theorem Af {acc:RL}{o:Int}(ho:ao acc=true):
 (cond (ao acc) (cond ((bM acc) !=0) (some ([AV.one (.sl true 93 ([]:RL)),.one (.int .i64 0),.one (.int .i64 (bM acc))],([]:List Block)))
   (some ([.one (.sl true 93 acc),.one (.int .i64 o),.one (.int .i64 0)],[]))) none)=some (dc (uE (acc,o,0))):=by
 refine ct ho ?_
 unfold uE
 rw [if_neg (by simp)]
 by_cases hv:bM acc=0
 · rw [if_neg (by simpa using hv)]
   exact cf (by simpa using hv) rfl
 · rw [if_pos hv]
   exact ct (by simpa using hv) rfl
theorem uz {acc:RL}{x:RL}(hs:bO acc=true)(hx:aI x=true):bO (acc++ [B4 (cJ x)])=true:=by
 have hl:=Bh x hx
 unfold bO at hs⊢
 rw [List.all_append,hs]
 have e:nl (B4 (cJ x)) 2=(cJ x).2.2.1:=rfl
 simp only [List.all_cons,List.all_nil,Bool.and_true,Bool.true_and,kd,e,decide_eq_true_eq]
 omega
theorem l78 (x:RL)(hx:aI x=true)(k:Int)(hk:k≤9):∀(d i:Nat) (o:Int) (acc:RL),i+d=k.toNat→0≤o→o≤x.length→acc.length=i→bO acc=true→
 ∃m,goF E (aa L99) F78 0 m D2 (Dp x o acc k i)=some (dc (uE (fo x d o acc))):=by
 intro d
 induction d with
 | zero=>
  intro i o acc hi h0 h1 ha hs
  refine⟨1, ?_⟩
  rw [I8]
  exact cf (decide_eq_false (by omega)) (Af (dW (by omega) hs))
 | succ d ih=>
  intro i o acc hi h0 h1 ha hs
  have h4:=au hx o.toNat
  have hb:=kF h4
  rw [List.length_drop]at hb
  have hl:=(aR hx).2
  by_cases he:(cJ (x.drop o.toNat)).2.2.2.2=0
  · obtain⟨m,hm⟩:=ih (i+1) (o+(cJ (x.drop o.toNat)).2.2.2.1) (acc++ [B4 (cJ (x.drop o.toNat))]) (by omega) (by omega) (by omega) (by simp;omega) (uz hs h4)
    refine⟨m+1, ?_⟩
    rw [I8,aN]
    refine ct (decide_eq_true (by omega)) (ct (aC h0 (by omega)) (ct h4 (cf (by simpa using he) (ct (bh (by simp;omega)) ?_))))
    rw [aA (by omega) (by omega),eN (by omega) (by omega),show(i:Int)+1=((i+1:Nat):Int)by omega]
    simp only [fo,if_neg (show¬(cJ (x.drop o.toNat)).2.2.2.2≠0 by simpa using he)]
    exact hm
  · refine⟨1, ?_⟩
    rw [I8,aN]
    refine ct (decide_eq_true (by omega)) (ct (aC h0 (by omega)) (ct h4 (ct (by simpa using he) ?_)))
    simp only [fo,if_pos he,uE]
    rfl
theorem k78 (x:RL)(hx:aI x=true):∃m,aj E (aa L99) m 78 [.or x] []=some (dc (aX x)):=by
 unfold aX
 by_cases he:(aD x).2.2=0
 · rw [if_neg (by simpa using he)]
   have hb:=bX (aR hx).1 he
   by_cases h9:9<(aD x).1
   · refine⟨1, ?_⟩
     rw [e78,if_pos h9]
     exact ct hx (cf (by simpa using he) (ct (decide_eq_true h9) rfl))
   · obtain⟨m,hm⟩:=l78 x hx (aD x).1 (by omega) (aD x).1.toNat 0 (aD x).2.1 [] (by omega) (by omega) (by omega) rfl rfl
     refine⟨m+1, ?_⟩
     rw [e78,if_neg h9]
     exact ct hx (cf (by simpa using he) (cf (decide_eq_false h9) hm))
 · refine⟨1, ?_⟩
   rw [e78,if_pos he]
   exact ct hx (ct (by simpa using he) rfl)
theorem l86 (x:RL)(hx:aI x=true)(k:Int)(hk:k≤9)(hk0:0≤k):∀(d i:Nat) (o:Int) (acc:RL),i+d=k.toNat→0≤o→o≤x.length→acc.length=i→bO acc=true→
 ∃m,goF E (aa L78) F86 0 m Du (Dw x k o acc i)=some (dc (uE (fo x d o acc))):=by
 intro d
 induction d with
 | zero=>
  intro i o acc hi h0 h1 ha hs
  refine⟨1, ?_⟩
  rw [I7,aA (n:=k) (by omega) (by omega)]
  exact cf (decide_eq_false (by omega)) (Af (dW (by omega) hs))
 | succ d ih=>
  intro i o acc hi h0 h1 ha hs
  have h4:=au hx o.toNat
  have hb:=kF h4
  rw [List.length_drop]at hb
  have hl:=(aR hx).2
  by_cases he:(cJ (x.drop o.toNat)).2.2.2.2=0
  · obtain⟨m,hm⟩:=ih (i+1) (o+(cJ (x.drop o.toNat)).2.2.2.1) (acc++ [B4 (cJ (x.drop o.toNat))]) (by omega) (by omega) (by omega) (by simp;omega) (uz hs h4)
    refine⟨m+1, ?_⟩
    rw [I7,aN,aA (n:=k) (by omega) (by omega)]
    refine ct (decide_eq_true (by omega)) (ct (aC h0 (by omega)) (ct h4 (cf (by simpa using he) (ct (bh (by simp;omega)) ?_))))
    rw [aA (by omega) (by omega),aF (n:=9) (by omega) (by omega)]
    simp only [fo,if_neg (show¬(cJ (x.drop o.toNat)).2.2.2.2≠0 by simpa using he)]
    exact hm
  · refine⟨1, ?_⟩
    rw [I7,aN,aA (n:=k) (by omega) (by omega)]
    refine ct (decide_eq_true (by omega)) (ct (aC h0 (by omega)) (ct h4 (ct (by simpa using he) ?_)))
    simp only [fo,if_pos he,uE]
    rfl
theorem k86 (x:RL)(hx:aI x=true):∃m,aj E (aa L78) m 86 [.or x] []=some (dc (aX x)):=by
 unfold aX
 by_cases he:(aD x).2.2=0
 · rw [if_neg (by simpa using he)]
   have hb:=bX (aR hx).1 he
   by_cases h9:9<(aD x).1
   · refine⟨1, ?_⟩
     rw [e86,if_pos h9]
     exact ct hx (cf (by simpa using he) (ct (decide_eq_true h9) rfl))
   · obtain⟨m,hm⟩:=l86 x hx (aD x).1 (by omega) (by omega) (aD x).1.toNat 0 (aD x).2.1 [] (by omega) (by omega) (by omega) rfl rfl
     refine⟨m+1, ?_⟩
     rw [e86,if_neg h9]
     exact ct hx (cf (by simpa using he) (cf (decide_eq_false h9) hm))
 · refine⟨1, ?_⟩
   rw [e86,if_pos he]
   exact ct hx (ct (by simpa using he) rfl)
theorem re :∀c:RL,l7 c c=true
 | []=>rfl
 | r::c=>by
  rw [l7]
  show(FX r r&&l7 c c)=true
  rw [re c]
  simp [FX,zS]
theorem CP (c:RL):da c c=true:=by
 simp [da,re]
theorem hN {x:RL}(hx:aI x=true):ao (aX x).1=true:=by
 unfold aX
 split
 · rfl
 · rename_i he
   have hb:=bX (aR hx).1 (by simpa using he)
   split
   · rfl
   · unfold uE
     split
     · rfl
     · rename_i h1
       split
       · rfl
       · have:=rx x hx (aD x).1.toNat (aD x).2.1 [] (by omega) (by omega) (by simpa using h1)
         exact dW (by rw [this.1,List.length_nil];omega) (this.2 rfl)
def ky (r:List Cell):List Cell:=[.int .i64 (nr r 0),.int .i64 (nr r 1),.slice 89 ((nl r 2).map ju)]
theorem EW (r:List Cell):dN (ky r)=dN r:=zR _ _ _
theorem zx :∀(l:RL) (first:Bool) (q:List Cell),iJ first (ky q) (l.map ky)=iJ first q l
 | [],_,_=>rfl
 | r::l,first,q=>by
  rw [List.map_cons,fe,fe,EW,zx l false r]
  rfl
theorem yp (l:RL):bM (l.map ky)=bM l:=by
 unfold bM
 rw [l4 [] (ky [])]
 exact zx l true []
theorem j8 :∀{l:RL} {first:Bool} {q:List Cell},iJ first q l=0→∀r∈l,dN r=0
 | [],_,_,_,r,hr=>by cases hr
 | p::l,first,q,h,r,hr=>by
  rw [fe]at h
  by_cases h0:dN p=0
  · rw [if_neg (by simpa using h0)]at h
    split at h
    · simp at h
    · split at h
      · simp at h
      · rcases List.mem_cons.1 hr with rfl | hr
        · exact h0
        · exact j8 h r hr
  · rw [if_pos h0]at h
    exact absurd h h0
theorem wP (rest:RL):∀(l pre acc:RL),(∀r∈l,dN r=0)→
 fo (pre++(bQ l++rest)) l.length pre.length acc=(acc++l.map ky,((pre.length+(bQ l).length:Nat):Int),0)
 | [],pre,acc,_=>by simp [fo,bQ]
 | r::l,pre,acc,h=>by
  have ih:=wP rest l (pre++jA r) (acc++ [ky r]) (fun q hq=>h q (List.mem_cons_of_mem _ hq))
  have e:(pre++(bQ (r::l)++rest)).drop ((pre.length:Nat):Int).toNat=jA r++(bQ l++rest):=by
   rw [Int.toNat_natCast,List.drop_left,bQ,List.append_assoc]
  have hd:cJ (jA r++(bQ l++rest))=(nr r 0,nr r 1,(nl r 2).map ju,((jA r).length:Int),0):=As (h r List.mem_cons_self) _
  rw [List.length_cons,fo,e,hd,if_neg (by simp)]
  simp only
  have e2:pre++(bQ (r::l)++rest)=(pre++jA r)++(bQ l++rest):=by
   rw [bQ];simp only [List.append_assoc]
  rw [e2,←Int.natCast_add,←List.length_append]
  refine Eq.trans ih ?_
  simp only [List.map_cons,List.append_assoc,List.length_append,bQ,List.cons_append,List.nil_append]
  congr 3
  omega
theorem rD :∀(l:RL) (q:List Cell),201≤nr q 0→nr q 0≤203→1≤nr q 1→nr q 1≤3→iJ false q l=0→(l.length:Int)≤3*(203 - nr q 0)+(3 - nr q 1)
 | [],q,h0,h1,h2,h3,_=>by simp;omega
 | r::l,q,h0,h1,h2,h3,h=>by
  rw [fe]at h
  by_cases hv:dN r=0
  · rw [if_neg (by simpa using hv)]at h
    have hn:=iC hv
    split at h
    · simp at h
    · rename_i h4
      split at h
      · simp at h
      · rename_i h5
        have ih:=rD l r (by omega) (by omega) (by omega) (by omega) h
        have hcmp:=lg (nr r 0) (nr r 1) (nr q 0) (nr q 1)
        have hgt:¬km (nr r 0) (nr r 1) (nr q 0) (nr q 1)≤0:=fun hh=>h4 ⟨rfl,hh⟩
        have h6:¬(1<nr r 1∧(nr q 0≠nr r 0∨nr q 1≠nr r 1 - 1)):=fun hh=>h5 ⟨hh.1,Or.inr hh.2⟩
        rw [List.length_cons]
        omega
  · rw [if_pos hv]at h
    exact absurd h hv
theorem j9 {c:RL}(h:bM c=0):c.length≤9:=by
 cases c with
 | nil=>simp
 | cons r l=>
  unfold bM at h
  have hm:=j8 h r List.mem_cons_self
  have hn:=iC hm
  rw [fe,if_neg (by simpa using hm),if_neg (by simp)]at h
  split at h
  · simp at h
  · have:=rD l r (by omega) (by omega) (by omega) (by omega) h
    rw [List.length_cons]
    omega
theorem lS :∀(x:RL),x.all lI=true→(bQ x).length≤7030*x.length
 | [],_=>by simp [bQ]
 | r::x,h=>by
  rw [List.all_cons,Bool.and_eq_true]at h
  have h1:(nl r 2).length≤100:=by simpa [lI]using h.1
  have:=xG r
  have:=lS x h.2
  simp only [bQ,List.length_append,List.length_cons]
  omega
theorem pQ {c:RL}(h:bM c=0):c.all lI=true:=by
 refine List.all_eq_true.2 fun r hr=> ?_
 have:=(iC (j8 h r hr)).2.2.2.2.2.1
 unfold lI
 simp only [decide_eq_true_eq]
 omega
theorem sL {c:RL}(h:bM c=0)(rest:RL):aX (gB c++rest)=(c.map ky,((gB c).length:Int),0):=by
 have h9:=j9 h
 have hu:=iZ (v:=(c.length:Int)) (by omega) (by omega) (bQ c++rest)
 have e:gB c++rest=bc c.length++(bQ c++rest):=by rw [gB,List.append_assoc]
 unfold aX
 rw [e,hu,if_neg (by simp)]
 simp only
 rw [if_neg (by omega),Int.toNat_natCast,wP rest c (bc c.length) [] (fun r hr=>j8 h r hr)]
 unfold uE
 simp only
 rw [if_neg (by simp),List.nil_append,yp,h,if_neg (by simp),gB,List.length_append]
theorem gJ {c:RL}(h:cN c=true):c.length≤1000:=by simpa [cN]using h
theorem fE {c:RL}(h:c.length≤1000):cN c=true:=by simpa [cN]using h
theorem DV {c:RL}(h:ek c=true):c.length≤1000∧c.all xV=true:=by
 unfold ek at h
 simp only [Bool.and_eq_true]at h
 exact⟨gJ h.1,h.2⟩
theorem KJ {r:List Cell}(h:xV r=true):[Cell.int .i64 (nr r 0),Cell.int .i64 (nr r 1),Cell.slice 89 (nl r 2)]=r:=by
 unfold xV at h
 split at h
 · have:=Nat.eq_of_beq_eq_true h
   subst this
   rfl
 · cases h
theorem vY {l:RL}{i:Nat}(h:i<l.length):rA l i∈l:=by
 rw [cg h]
 exact List.getElem_mem h
theorem Pg {c:RL}(h:c.all xV=true){i:Nat}(hi:i<c.length):[Cell.int .i64 (nr (rA c i) 0),Cell.int .i64 (nr (rA c i) 1),Cell.slice 89 (nl (rA c i) 2)]=rA c i:=
 KJ (List.all_eq_true.1 h _ (vY hi))
def lu (v:RL)(k:Nat):Prop:=∀e∈v,xh e=true∧0≤nr e 1∧nr e 1≤k
theorem Kk {r:List Cell}(h:xh r=true):r=ent (nr r 0) (nr r 1):=by
 unfold xh at h
 split at h
 · rfl
 · cases h
theorem CU {v:RL}{k:Nat}(h:lu v k)(a:Int):0≤bH v a∧bH v a≤k:=by
 induction v with
 | nil=>simp [bH]
 | cons e v ih=>
  unfold bH
  split
  · exact(h e List.mem_cons_self).2
  · exact ih fun x hx=>h x (List.mem_cons_of_mem _ hx)
theorem l95 (v:RL)(a:Int)(hv:v.length≤1000):∀(d i:Nat),i+d=v.length→
 ∃m,goF E (aa L86) F95 0 m Ee (Ed v a i)=some ([.one (.int .i64 (bH (v.drop i) a))],[])
 | 0,i,hi=>by
  refine⟨1, ?_⟩
  have:v.drop i=[]:=List.drop_eq_nil_of_le (by omega)
  rw [Ml,this]
  exact cf (decide_eq_false (by omega)) rfl
 | d+1,i,hi=>by
  have hi':i<v.length:=by omega
  obtain⟨m,hm⟩:=l95 v a hv d (i+1) (by omega)
  refine⟨m+1, ?_⟩
  rw [Ml,Int.toNat_natCast,aE v i hi',bH,aF (n:=v.length) hi' (by omega),hm]
  refine ct (decide_eq_true (by omega)) (ct (ax hi') ?_)
  by_cases h:nr (rA v i) 0=a
  · rw [if_pos h]
    exact ct (beq_iff_eq.2 h) (ct (ax hi') rfl)
  · rw [if_neg h]
    exact cf (beq_eq_false_iff_ne.2 h) rfl
theorem k95 (v:RL)(a:Int)(h:cN v=true):∃m,aj E (aa L86) m 95 [.one (.sl false 103 v),.oi a] []=some ([.oi (bH v a)],[]):=by
 obtain⟨m,hm⟩:=l95 v a (gJ h) v.length 0 (by omega)
 exact⟨m+1,by rw [e95];exact hm⟩
theorem PE {v:RL}(h:v.all xh=true){i:Nat}(hi:i<v.length):[Cell.int .i64 (nr (rA v i) 0),Cell.int .i64 (nr (rA v i) 1)]=rA v i:=
 (Kk (List.all_eq_true.1 h _ (vY hi))).symm
theorem l94 (v:RL)(a k:Int)(hv:v.length≤100000)(he:v.all xh=true):∀(d i:Nat) (p:Bool) (acc:RL),i+d=v.length→acc.length≤i+(cond p 1 0)→
 ∃m,goF E (aa L95) F94 0 m lD (lG v a k acc p i)=some ([.one (.sl false 103 (acc++dP a k p (v.drop i)))],[])
 | 0,i,p,acc,hi,ha=>by
  have ha':acc.length≤i+1:=by cases p<;>simp at ha<;>omega
  refine⟨1, ?_⟩
  have:v.drop i=[]:=List.drop_eq_nil_of_le (by omega)
  rw [zM,this]
  refine cf (decide_eq_false (by omega)) ?_
  cases p with
  | false=>exact ct rfl (ct (bh (by simp;omega)) rfl)
  | true=>
   refine cf rfl ?_
   simp [dP]
 | d+1,i,p,acc,hi,ha=>by
  have ha':acc.length≤i+1:=by cases p<;>simp at ha<;>omega
  have hi':i<v.length:=by omega
  have hib:=ax hi'
  have hen:=PE he hi'
  have hf1:∀r:List Cell,cb (acc.length+ [r].length)=true:=fun r=>bh (by simp;omega)
  have hf2:∀r q:List Cell,cb ((acc++ [r]).length+ [q].length)=true:=fun r q=>bh (by simp;omega)
  have hw:IntKind.wrap .i64 ((i:Int)+1)=((i+1:Nat):Int):=aF hi' (by omega)
  have hd:=aE v i hi'
  -- the entry is copied,or xi over
  have tailc:∀(q:Bool),acc.length≤i+(cond q 1 0)→∃m,cond (inB (i:Int) v.length) (cond ((nr (rA v i) 0) !=a) (cond (inB (i:Int) v.length) (cond (cb (acc.length+ [rA v i].length))
   (goF E (aa L95) F94 0 m lD (lG v a k (acc++ [rA v i]) q ((i+1:Nat):Int))) none) none) (goF E (aa L95) F94 0 m lD (lG v a k acc q ((i+1:Nat):Int)))) none=
   some ([.one (.sl false 103 (acc++(if nr (rA v i) 0=a then dP a k q (v.drop (i+1))else rA v i::dP a k q (v.drop (i+1)))))],[]):=fun q hq=>by
   by_cases h:nr (rA v i) 0=a
   · obtain⟨m,hm⟩:=l94 v a k hv he d (i+1) q acc (by omega) (by cases q<;>simp at hq⊢<;>omega)
     refine⟨m, ?_⟩
     rw [if_pos h]
     exact ct hib (cf (bne_eq_false_iff_eq.2 h) hm)
   · obtain⟨m,hm⟩:=l94 v a k hv he d (i+1) q (acc++ [rA v i]) (by omega) (by cases q<;>simp at hq⊢<;>omega)
     refine⟨m, ?_⟩
     rw [if_neg h]
     rw [List.append_assoc]at hm
     exact ct hib (ct (bne_iff_ne.2 h) (ct hib (ct (hf1 _) hm)))
  cases p with
  | true=>
   obtain⟨m,hm⟩:=tailc true ha
   refine⟨m+1, ?_⟩
   rw [zM,Int.toNat_natCast,hen,hw,hd,dP,if_neg (by simp)]
   exact ct (decide_eq_true (by omega)) (cf rfl hm)
  | false=>
   by_cases hge:a≤nr (rA v i) 0
   · by_cases h:nr (rA v i) 0=a
     · obtain⟨m,hm⟩:=l94 v a k hv he d (i+1) true (acc++ [ent a k]) (by omega) (by simp at ha⊢;omega)
       refine⟨m+1, ?_⟩
       rw [zM,Int.toNat_natCast,hen,hw,hd,dP,if_pos ⟨rfl,hge⟩,if_pos h]
       rw [List.append_assoc]at hm
       exact ct (decide_eq_true (by omega)) (ct rfl (ct hib (ct (decide_eq_true hge) (ct (hf1 _) (ct hib (cf (bne_eq_false_iff_eq.2 h) hm))))))
     · obtain⟨m,hm⟩:=l94 v a k hv he d (i+1) true ((acc++ [ent a k])++ [rA v i]) (by omega) (by simp at ha⊢;omega)
       refine⟨m+1, ?_⟩
       rw [zM,Int.toNat_natCast,hen,hw,hd,dP,if_pos ⟨rfl,hge⟩,if_neg h]
       rw [List.append_assoc,List.append_assoc]at hm
       refine ct (decide_eq_true (by omega)) (ct rfl (ct hib (ct (decide_eq_true hge) (ct (hf1 _) (ct hib (ct (bne_iff_ne.2 h) (ct hib (ct (hf2 _ _) ?_))))))))
       rw [←List.append_assoc]at hm
       exact hm
   · obtain⟨m,hm⟩:=tailc false ha
     refine⟨m+1, ?_⟩
     rw [zM,Int.toNat_natCast,hen,hw,hd,dP,if_neg (fun hh=>hge hh.2)]
     exact ct (decide_eq_true (by omega)) (ct rfl (ct hib (cf (decide_eq_false hge) hm)))
theorem LW {v:RL}(h:Ce v=true):v.length≤100000∧v.all xh=true:=by
 unfold Ce at h
 simp only [Bool.and_eq_true,decide_eq_true_eq]at h
 exact h
theorem k94 (v:RL)(a k:Int)(h:Ce v=true):∃m,aj E (aa L95) m 94 [.one (.sl false 103 v),.oi a,.oi k] []=some ([.one (.sl false 103 (ix v a k))],[]):=by
 obtain⟨h1,h2⟩:=LW h
 unfold ix
 by_cases g1:a<1
 · exact⟨1,by rw [e94,if_pos (.inl g1)];exact ct (decide_eq_true g1) rfl⟩
 · by_cases g2:k<0
   · exact⟨1,by rw [e94,if_pos (.inr (.inl g2))];exact cf (decide_eq_false g1) (ct (decide_eq_true g2) rfl)⟩
   · by_cases g3:1000000<k
     · exact⟨1,by rw [e94,if_pos (.inr (.inr g3))];exact cf (decide_eq_false g1) (cf (decide_eq_false g2) (ct (decide_eq_true g3) rfl))⟩
     · obtain⟨m,hm⟩:=l94 v a k h1 h2 v.length 0 (decide (k=0)) [] (by omega) (by simp)
       refine⟨m+1, ?_⟩
       have e:(k==0)=decide (k=0):=by rw [Bool.eq_iff_iff,beq_iff_eq,decide_eq_true_eq]
       rw [e94,if_neg (fun hh=>by omega),e]
       exact cf (decide_eq_false g1) (cf (decide_eq_false g2) (cf (decide_eq_false g3) hm))
theorem uF {a k:Int}(hk0:0≤k)(hk:k≤1000000):∀(v:RL) (p:Bool),lu v 1000000→lu (dP a k p v) 1000000∧(dP a k p v).length≤v.length+1∧(p=true→(dP a k p v).length≤v.length)
 | [],p,h=>by
  cases p
  · refine⟨fun e he=> ?_,by simp [dP],by simp⟩
    simp only [dP,Bool.false_eq_true,if_false,List.mem_singleton]at he
    subst he
    exact⟨rfl,hk0,hk⟩
  · exact⟨h,by simp [dP],by simp [dP]⟩
 | e::v,p,h=>by
  have he:=h e List.mem_cons_self
  have hv:lu v 1000000:=fun x hx=>h x (List.mem_cons_of_mem _ hx)
  have h1:=uF (a:=a) hk0 hk v true hv
  have h2:=uF (a:=a) hk0 hk v p hv
  unfold dP
  split
  · rename_i hp
    split
    · refine⟨fun x hx=> ?_, ?_,fun hh=>by rw [hp.1]at hh;cases hh⟩
      · rcases List.mem_cons.1 hx with rfl | hx
        · exact⟨rfl,hk0,hk⟩
        · exact h1.1 x hx
      · have:=h1.2.2 rfl
        simp only [List.length_cons]
        omega
    · refine⟨fun x hx=> ?_, ?_,fun hh=>by rw [hp.1]at hh;cases hh⟩
      · rcases List.mem_cons.1 hx with rfl | hx
        · exact⟨rfl,hk0,hk⟩
        · rcases List.mem_cons.1 hx with rfl | hx
          · exact he
          · exact h1.1 x hx
      · have:=h1.2.2 rfl
        simp only [List.length_cons]
        omega
  · split
    · refine⟨h2.1, ?_,fun hh=> ?_⟩
      · have:=h2.2.1
        simp only [List.length_cons]
        omega
      · have:=h2.2.2 hh
        simp only [List.length_cons]
        omega
    · refine⟨fun x hx=> ?_, ?_,fun hh=> ?_⟩
      · rcases List.mem_cons.1 hx with rfl | hx
        · exact he
        · exact h2.1 x hx
      · have:=h2.2.1
        simp only [List.length_cons]
        omega
      · have:=h2.2.2 hh
        simp only [List.length_cons]
        omega
theorem yQ {v:RL}(h:lu v 1000000)(a k:Int):lu (ix v a k) 1000000∧(ix v a k).length≤v.length+1:=by
 unfold ix
 split
 · exact⟨h,by omega⟩
 · rename_i hh
   have:=uF (a:=a) (k:=k) (by omega) (by omega) v (decide (k=0)) h
   exact⟨this.1,this.2.1⟩
theorem NH {v:RL}{k:Nat}(h:lu v k):v.all xh=true:=List.all_eq_true.2 fun e he=>(h e he).1
theorem l40 (v w:RL)(hv:v.length≤1000)(hl:v.length=w.length):∀(d i:Nat),i+d=v.length→
 ∃m,goF E (aa L94) F40 0 m Dc (DU v w i)=some ([.one (.bool (B3 (v.drop i) (w.drop i)))],[])
 | 0,i,hi=>by
  refine⟨1, ?_⟩
  have:v.drop i=[]:=List.drop_eq_nil_of_le (by omega)
  rw [Mq,this]
  exact cf (decide_eq_false (by omega)) rfl
 | d+1,i,hi=>by
  have hi':i<v.length:=by omega
  obtain⟨m,hm⟩:=l40 v w hv hl d (i+1) (by omega)
  refine⟨m+1, ?_⟩
  rw [Mq,Int.toNat_natCast,aE v i hi',B3,aF (n:=v.length) hi' (by omega),hm,gT,List.drop_drop,Nat.add_zero]
  refine ct (decide_eq_true (by omega)) (ct (ax hi') (ct (ax (by omega)) ?_))
  have e1:((nr (rA v i) 0)==(nr (rA w i) 0))=decide (nr (rA v i) 0=nr (rA w i) 0):=by rw [Bool.eq_iff_iff,beq_iff_eq,decide_eq_true_eq]
  have e2:((nr (rA v i) 1)==(nr (rA w i) 1))=decide (nr (rA v i) 1=nr (rA w i) 1):=by rw [Bool.eq_iff_iff,beq_iff_eq,decide_eq_true_eq]
  rw [e1,e2,Bool.and_true]
  cases (decide (nr (rA v i) 0=nr (rA w i) 0)&&decide (nr (rA v i) 1=nr (rA w i) 1))<;>rfl
theorem k40 (v w:RL)(h:cN v=true):∃m,aj E (aa L94) m 40 [.one (.sl false 103 v),.one (.sl false 103 w)] []=some ([.ob (rC v w)],[]):=by
 unfold rC
 by_cases hl:v.length=w.length
 · obtain⟨m,hm⟩:=l40 v w (gJ h) hl v.length 0 (by omega)
   refine⟨m+1, ?_⟩
   rw [e40,decide_eq_true hl]
   exact cf (bne_eq_false_iff_eq.2 (by omega)) hm
 · refine⟨1, ?_⟩
   rw [e40,decide_eq_false hl]
   exact ct (bne_iff_ne.2 (by omega)) rfl
theorem l27 (v:RL)(hv:v.length≤1000):∀(d i:Nat),i+d=v.length→
 ∃m,goF E (aa L40) F27 0 m Be (zA v i)=some ([.one (.int .i64 (ls (decide (i=0)) (rA v (i - 1)) (v.drop i)))],[])
 | 0,i,hi=>by
  refine⟨1, ?_⟩
  have:v.drop i=[]:=List.drop_eq_nil_of_le (by omega)
  rw [M1,this]
  exact cf (decide_eq_false (by omega)) rfl
 | d+1,i,hi=>by
  have hi':i<v.length:=by omega
  have hib:=ax hi'
  obtain⟨m,hm⟩:=l27 v hv d (i+1) (by omega)
  rw [decide_eq_false (by omega:¬i+1=0),Nat.add_sub_cancel]at hm
  refine⟨m+1, ?_⟩
  rw [M1,Int.toNat_natCast,aE v i hi',ls,aF (n:=v.length) hi' (by omega),hm]
  generalize rA v i=r
  refine ct (decide_eq_true (by omega)) (ct hib ?_)
  by_cases g1:nr r 0<1
  · rw [if_pos (.inl g1)]
    exact ct (decide_eq_true g1) rfl
  · refine cf (decide_eq_false g1) (ct hib ?_)
    by_cases g2:nr r 1<1
    · rw [if_pos (.inr (.inl g2))]
      exact ct (decide_eq_true g2) rfl
    · refine cf (decide_eq_false g2) (ct hib ?_)
      by_cases g3:1000000<nr r 1
      · rw [if_pos (.inr (.inr g3))]
        exact ct (decide_eq_true g3) rfl
      · rw [if_neg (fun h=>by omega)]
        refine cf (decide_eq_false g3) ?_
        by_cases h0:i=0
        · subst h0
          rw [decide_eq_true rfl,if_neg (by simp)]
          exact cf (decide_eq_false (by simp)) rfl
        · rw [aA (n:=(i:Int) - 1) (by omega) (by omega),show((i:Int) - 1).toNat=i - 1 by omega,decide_eq_false h0]
          generalize rA v (i - 1)=q
          refine ct (decide_eq_true (by omega)) (ct (aC (by omega) (by omega)) (ct hib ?_))
          by_cases h2:nr r 0≤nr q 0
          · rw [if_pos ⟨rfl,h2⟩]
            exact ct (decide_eq_true h2) rfl
          · rw [if_neg (fun h=>h2 h.2)]
            exact cf (decide_eq_false h2) rfl
theorem ro (q q':List Cell)(l:RL):ls true q l=ls true q' l:=by
 cases l<;>simp [ls]
theorem k27 (v:RL)(h:cN v=true):∃m,aj E (aa L40) m 27 [.one (.sl false 103 v)] []=some ([.oi (qx v)],[]):=by
 obtain⟨m,hm⟩:=l27 v (gJ h) v.length 0 (by omega)
 refine⟨m+1, ?_⟩
 rw [e27]
 refine Eq.trans hm ?_
 rw [decide_eq_true rfl,List.drop_zero,ro _ []]
 rfl
theorem l93 (c b:RL)(hb:cN b=true)(hc:c.length≤1000)(hp:c.all xV=true):∀(d i:Nat) (v:RL),i+d=c.length→v.length≤i→
 ∃m,goF E (aa L27) F93 0 m Ax (zT c b v i)=some ([.one (.sl false 93 (v++lm (c.drop i) b))],[])
 | 0,i,v,hi,hv=>by
  refine⟨1, ?_⟩
  have:c.drop i=[]:=List.drop_eq_nil_of_le (by omega)
  rw [Hr,this]
  refine cf (decide_eq_false (by omega)) ?_
  simp [lm]
 | d+1,i,v,hi,hv=>by
  have hi':i<c.length:=by omega
  have hib:=ax hi'
  by_cases hk:nr (rA c i) 1≤bH b (nr (rA c i) 0)
  · obtain⟨m,hm⟩:=l93 c b hb hc hp d (i+1) (v++ [rA c i]) (by omega) (by simp;omega)
    refine⟨m+1, ?_⟩
    have e1:lm (c.drop i) b=rA c i::lm (c.drop (i+1)) b:=by
     rw [aE c i hi']
     unfold lm
     rw [List.filter_cons,if_pos (decide_eq_true hk)]
    rw [Hr,Int.toNat_natCast,aF (n:=c.length) hi' (by omega),Pg hp hi',e1]
    rw [List.append_assoc]at hm
    exact ct (decide_eq_true (by omega)) (ct hib (ct hib (ct hb (ct (decide_eq_true hk) (ct hib (ct (bh (by simp;omega)) hm))))))
  · obtain⟨m,hm⟩:=l93 c b hb hc hp d (i+1) v (by omega) (by omega)
    refine⟨m+1, ?_⟩
    have e1:lm (c.drop i) b=lm (c.drop (i+1)) b:=by
     rw [aE c i hi']
     unfold lm
     rw [List.filter_cons,if_neg (by simpa using hk)]
    rw [Hr,Int.toNat_natCast,aF (n:=c.length) hi' (by omega),e1]
    exact ct (decide_eq_true (by omega)) (ct hib (ct hib (ct hb (cf (decide_eq_false hk) hm))))
theorem k93 (c v:RL)(h:(ek c&&cN v)=true):∃m,aj E (aa L27) m 93 [.os c,.one (.sl false 103 v)] []=some ([.os (lm c v)],[]):=by
 simp only [Bool.and_eq_true]at h
 obtain⟨h1,h2⟩:=DV h.1
 obtain⟨m,hm⟩:=l93 c v h.2 h1 h2 c.length 0 [] (by omega) (by simp)
 exact⟨m+1,by rw [e93];exact hm⟩
theorem ws :∀(c v:RL),lu v 1000000→lu (nh v c) 1000000∧(nh v c).length≤v.length+c.length
 | [],v,h=>⟨h,Nat.le_refl _⟩
 | r::c,v,h=>by
  have hw:=yQ h (nr r 0) (bH v (nr r 0)+1)
  have:=ws c (ix v (nr r 0) (bH v (nr r 0)+1)) hw.1
  show lu (nh (ix v (nr r 0) (bH v (nr r 0)+1)) c) _∧_
  refine⟨this.1, ?_⟩
  show(nh (ix v (nr r 0) (bH v (nr r 0)+1)) c).length≤_
  simp only [List.length_cons]
  omega
theorem zq (c:RL):lu (gf c) 1000000∧(gf c).length≤c.length:=by
 have:=ws c [] (fun e he=>by cases he)
 simpa [gf]using this
theorem Ob (c:RL)(n:Int)(a:Nat)(ha:a<3)(acc:RL)(hacc:acc.length≤10)(R:List AV×List Block)(hR:∃m,goF E (aa L93) F43 0 m wR (wu c n (acc++oc n a) ((a+1:Nat):Int))=some R):
 ∃m,goF E (aa L93) F43 0 m wR (wu c n acc a)=some R:=by
 obtain⟨m,hm⟩:=hR
 refine⟨m+1, ?_⟩
 rw [Mz,aF (n:=3) ha (by omega),aA (n:=201+(a:Int)) (by omega) (by omega)]
 refine ct (decide_eq_true (by omega)) (ct (by simp;omega) ?_)
 unfold oc at hm
 by_cases hg:0<ad n 4 a
 · rw [if_pos hg]at hm
   exact ct (decide_eq_true hg) (ct (by simp;omega) (ct (bh (by simp;omega)) hm))
 · rw [if_neg hg,List.append_nil]at hm
   exact cf (decide_eq_false hg) hm
theorem og (n:Int)(a:Nat):(oc n a).length≤1:=by
 unfold oc
 split<;>simp
theorem k43 (c:RL)(n:Int)(h:ek c=true):∃m,aj E (aa L93) m 43 [.os c,.oi n] []=some ([.os (bv c n)],[]):=by
 have h0:=og n 0
 have h1:=og n 1
 have h2:=og n 2
 obtain⟨m,hm⟩:=Ob c n 0 (by omega) [] (by simp) _ (Ob c n 1 (by omega) _ (by simp;omega) _ (Ob c n 2 (by omega) _ (by simp;omega) _ ⟨1,by
  rw [Mz]
  refine cf (decide_eq_false (by omega)) (ct (by rw [h,fE (by simp;omega)];rfl) rfl)⟩))
 refine⟨m+1, ?_⟩
 rw [e43]
 refine Eq.trans hm ?_
 simp [bv,Mp]
theorem kLt_cmp {r q:List Cell}:kLt q r=true↔¬km (nr r 0) (nr r 1) (nr q 0) (nr q 1)≤0:=by
 rw [kLt_iff]
 have:=lg (nr r 0) (nr r 1) (nr q 0) (nr q 1)
 omega
theorem Fk {r:List Cell}(h:dN r=0):201≤nr r 0∧nr r 0<204∧1≤nr r 1∧nr r 1≤3∧PQ (nl r 2)=true:=by
 have:=iC h
 refine⟨this.1,this.2.1,this.2.2.1,this.2.2.2.1, ?_⟩
 unfold PQ
 simp only [Bool.and_eq_true,decide_eq_true_eq]
 omega
theorem Bu :∀(l pre:RL) (q:List Cell),Vld (pre++q::l)→(∀r∈l,dN r=0)→iJ false q l=0
 | [],_,_,_,_=>rfl
 | r::l,pre,q,hV,hp=>by
  have hs:=List.pairwise_append.1 hV.asc
  have hql:=asc_cons.1 hs.2.1
  have hqr:=hql.1 r List.mem_cons_self
  rw [fe,if_neg (by simpa using hp r List.mem_cons_self),if_neg (fun hh=>kLt_cmp.1 hqr hh.2),if_neg,Bu l (pre++ [q]) r (by rw [List.append_assoc];exact hV) fun x hx=>hp x (List.mem_cons_of_mem _ hx)]
  rintro⟨h1,h2⟩
  obtain⟨p,hpm,e0,e1⟩:=hV.gap r (by simp) h1
  have hqr':=kLt_iff.1 hqr
  have hpq:nr q 0=nr r 0∧nr q 1=nr r 1 - 1:=by
   rcases List.mem_append.1 hpm with hpm | hpm
   · have:=kLt_iff.1 (hs.2.2 p hpm q List.mem_cons_self)
     omega
   · rcases List.mem_cons.1 hpm with rfl | hpm
     · exact⟨e0,e1⟩
     · exfalso
       rcases List.mem_cons.1 hpm with rfl | hpm
       · omega
       · have:=kLt_iff.1 ((asc_cons.1 hql.2).1 p hpm)
         omega
  rcases h2 with h2 | h2 | h2
  · cases h2
  · exact h2 hpq.1
  · exact h2 hpq.2
theorem IS {c:RL}(h:Vld c)(hp:∀r∈c,dN r=0):bM c=0:=by
 cases c with
 | nil=>rfl
 | cons r l=>
  have hV:=Bu l [] r h fun x hx=>hp x (List.mem_cons_of_mem _ hx)
  have hl:=asc_cons.1 h.asc
  unfold bM
  rw [fe,if_neg (by simpa using hp r List.mem_cons_self),if_neg (by simp),if_neg,hV]
  rintro⟨h1,_⟩
  obtain⟨p,hpm,e0,e1⟩:=h.gap r List.mem_cons_self h1
  rcases List.mem_cons.1 hpm with rfl | hpm
  · omega
  · have:=kLt_iff.1 (hl.1 p hpm)
    omega
structure Fit (c:RL):Prop where
 vld:Vld c
 prop:∀r∈c,dN r=0
 pr:c.all xV=true
 len:c.length≤9
theorem Fit.ln {c:RL}(h:Fit c):cN c=true:=fE (by have:=h.len;omega)
theorem Fit.cf {c:RL}(h:Fit c):ek c=true:=by
 unfold ek
 rw [h.ln,h.pr]
 rfl
theorem Fit.valid {c:RL}(h:Fit c):bM c=0:=IS h.vld h.prop
theorem xR {c d:RL}{p:List Cell→Bool}(h:c.all p=true)(hs:∀r∈d,r∈c):d.all p=true:=
 List.all_eq_true.2 fun r hr=>List.all_eq_true.1 h r (hs r hr)
theorem Fit.sub {c:RL}(h:Fit c)(f:Int→Int):Fit (sub c f):=
 ⟨h.vld.sub f,fun r hr=>h.prop r (mem_sub.1 hr).1,xR h.pr fun r hr=>(mem_sub.1 hr).1,Nat.le_trans (kG _ _) h.len⟩
structure PInv (a i:Nat) (acc:RL):Prop where
 asc:Asc acc
 gap:Gap acc
 low:∀r∈acc,nr r 0<201+a∨(nr r 0=201+a∧nr r 1≤i)
 last:0<i→∃q∈acc,nr q 0=201+a∧nr q 1=i
 pr:acc.all xV=true
theorem Dl (l:RL)(a:Nat):∀(d i:Nat) (p:Int) (acc:RL),PInv a i acc→PInv a (i+d) (gIn l a d i p acc).1
 | 0,_,_,_,h=>h
 | d+1,i,p,acc,h=>by
  have e0:nr (oW l a i p) 0=201+a:=rfl
  have e1:nr (oW l a i p) 1=i+1:=rfl
  have:=Dl l a d (i+1) (p+2) (acc++ [oW l a i p]) ⟨?_, ?_, ?_, ?_, ?_⟩
  · rw [show i+(d+1)=i+1+d by omega]
    exact this
  · refine List.pairwise_append.2 ⟨h.asc,by simp,fun x hx y hy=> ?_⟩
    rw [List.mem_singleton]at hy
    subst hy
    have:=h.low x hx
    rw [kLt_iff]
    omega
  · intro r hr h1
    rcases List.mem_append.1 hr with hr | hr
    · obtain⟨q,hq,e⟩:=h.gap r hr h1
      exact⟨q,List.mem_append.2 (.inl hq),e⟩
    · rw [List.mem_singleton]at hr
      subst hr
      obtain⟨q,hq,f0,f1⟩:=h.last (by omega)
      exact⟨q,List.mem_append.2 (.inl hq),by omega,by omega⟩
  · intro r hr
    rcases List.mem_append.1 hr with hr | hr
    · have:=h.low r hr
      omega
    · rw [List.mem_singleton]at hr
      subst hr
      omega
  · intro _
    exact⟨_,List.mem_append.2 (.inr (List.mem_singleton.2 rfl)),e0,by omega⟩
  · rw [List.all_append,h.pr,List.all_cons,List.all_nil]
    rfl
theorem AB (l:RL):∀(d a:Nat) (p:Int) (acc:RL),PInv a 0 acc→PInv (a+d) 0 (Ct l d a p acc)
 | 0,_,_,_,h=>h
 | d+1,a,p,acc,h=>by
  have h1:=Dl l a (ad (gAt l a) 4 0).toNat 0 p acc h
  have:=AB l d (a+1) (gIn l a (ad (gAt l a) 4 0).toNat 0 p acc).2 (gIn l a (ad (gAt l a) 4 0).toNat 0 p acc).1 ⟨h1.asc,h1.gap,fun r hr=> ?_,fun h0=>absurd h0 (by omega),h1.pr⟩
  · rw [show a+(d+1)=a+1+d by omega]
    exact this
  · have:=h1.low r hr
    omega
theorem JF (l:RL):Fit (pj l):=by
 have h:=AB l 3 0 3 [] ⟨by simp [Asc],fun r hr=>(by cases hr),fun r hr=>(by cases hr),fun h0=>absurd h0 (by omega),rfl⟩
 have ho:=G1 l
 exact⟨⟨h.asc,h.gap,fun r hr=>by
  have:=Fk (r:=r) (ho.1 r hr)
  omega⟩,ho.1,h.pr,ho.2⟩
theorem iO (n k:Int)(hk:1≤k):0≤aK n k∧aK n k<k:=by
 unfold aK
 rw [if_neg (by omega)]
 exact⟨Int.emod_nonneg _ (by omega),Int.emod_lt_of_pos _ (by omega)⟩
end Go.Proofs.YtejimgikldiajaaGreat
namespace Go.Proofs.YtejimgikldiajaaGreat
open Go.Abs
theorem Tx (k1 s1 w1 v1 rk1 rc1 rf1 k2 s2 w2 v2 rk2 rc2 rf2:Int):aj E (aa L43) 1 144 [.agg [.i k1,.i s1,.i w1,.i v1,.i rk1,.i rc1,.i rf1],.agg [.i k2,.i s2,.i w2,.i v2,.i rk2,.i rc2,.i rf2]] []=
 some ([.ob (vh k1 s1 w1 v1 rk1 rc1 rf1 k2 s2 w2 v2 rk2 rc2 rf2)],[]):=by
 rw [Rh]
 unfold vh
 generalize (k1==k2)=b1
 generalize (s1==s2)=b2
 generalize (w1==w2)=b3
 generalize (v1==v2)=b4
 generalize (rk1==rk2)=b5
 generalize (rc1==rc2)=b6
 generalize (rf1==rf2)=b7
 cases b1<;>cases b2<;>cases b3<;>cases b4<;>cases b5<;>cases b6<;>cases b7<;>rfl
theorem PI (c d:RL)(b k:Int)(hc:c.length<9223372036854775808)(hd:c.length=d.length):∀(e i:Nat),i+e=c.length→
 ∃m,goF E (aa yG) F132 0 m yu (yk c c.length i b k d)=some ([.one (.bool (ge (c.drop i) (d.drop i)))],[])
 | 0,i,hi=>by
  refine⟨1, ?_⟩
  rw [HG]
  refine cf (by simp;omega) ?_
  have:c.drop i=[]:=List.drop_eq_nil_of_le (by omega)
  rw [this,ge]
 | e+1,i,hi=>by
  obtain⟨m,hm⟩:=PI c d b k hc hd e (i+1) (by omega)
  refine⟨m+1, ?_⟩
  rw [HG]
  refine ct (by simp;omega) (ct (ax (by omega)) (ct (ax (by omega)) ?_))
  rw [aE c i (by omega),ge,Int.toNat_natCast,aF (n:=c.length) (by omega) hc,hm,gT,List.drop_drop,Nat.add_zero]
  show cond (!(i9 (rA c i) (rA d i))) _ _=_
  generalize i9 (rA c i) (rA d i)=b1
  cases b1<;>rfl
theorem RZ (a n:Int)(c:RL)(b k:Int)(d:RL)(hc:c.length<9223372036854775808):∃m,aj E (aa yG) m 132 [.agg [.i a,.i n,.sl false 89 c],.agg [.i b,.i k,.sl false 89 d]] []=
 some ([.ob (eqP a n c b k d)],[]):=by
 by_cases hd:c.length=d.length
 · obtain⟨m,hm⟩:=PI c d b k hc hd c.length 0 (by omega)
   refine⟨m+1, ?_⟩
   rw [PU,show(0:Int)=((0:Nat):Int)from rfl,hm]
   unfold eqP bne
   rw [List.drop_zero,List.drop_zero]
   generalize (a==b)=b1
   generalize (n==k)=b2
   generalize ge c d=b3
   rw [show((c.length:Int)==(d.length:Int))=true by simp;omega,decide_eq_true hd]
   cases b1<;>cases b2<;>cases b3<;>rfl
 · refine⟨1, ?_⟩
   rw [PU]
   unfold eqP bne
   generalize (a==b)=b1
   generalize (n==k)=b2
   rw [show((c.length:Int)==(d.length:Int))=false by simp;omega,decide_eq_false hd]
   cases b1<;>cases b2<;>rfl
end Go.Proofs.YtejimgikldiajaaGreat
namespace Go.Proofs.YtejimgikldiajaaGreat
open Go.Abs
theorem RC (aq nq:Int)(cq:RL)(a n:Int)(l:RL)(h:l.length<9223372036854775808):
 aj E (aa Ji) 1 131 [.agg [.i aq,.i nq,.sl false 89 cq],.one (.ptr 0 0)] [.var [.i a,.i n,.sl false 89 l]]=some ([.ob (eqP a n l aq nq cq)],[.var [.i a,.i n,.sl false 89 l]]):=by
 rw [TF]
 exact ct (decide_eq_true h) rfl
theorem rn (a n:Int)(l:RL):∀(c:RL) (i:Int),0≤i→(0≤qJ a n l i c↔inP a n l c=true)
 | [],i,h=>by simp [qJ,inP]
 | q::c,i,h=>by
  have ih:=rn a n l c (i+1) (by omega)
  unfold qJ
  unfold inP at ih⊢
  rw [List.any_cons]
  by_cases hr:isP a n l q=true
  · simp [hr,h]
  · rw [if_neg hr,ih]
    simp [hr]
theorem Pn (c:RL)(a n:Int)(l:RL)(hl:l.length<9223372036854775808)(hc:c.length≤1000):∀(d i:Nat),i+d=c.length→
 ∃m,goF E (aa xw) F143 1 m ye (x8 c c.length i a n l)=some ([.one (.int .i64 (qJ a n l i (c.drop i)))],[.var [.int .i64 a,.int .i64 n,.sl false 89 l]])
 | 0,i,hi=>by
  refine⟨1, ?_⟩
  rw [GS]
  have:c.drop i=[]:=List.drop_eq_nil_of_le (by omega)
  rw [this,qJ]
  exact cf (decide_eq_false (by omega)) rfl
 | d+1,i,hi=>by
  obtain⟨m,hm⟩:=Pn c a n l hl hc d (i+1) (by omega)
  refine⟨m+1, ?_⟩
  rw [GS,aE c i (by omega),qJ,Int.toNat_natCast]
  refine ct (decide_eq_true (by omega)) (ct (ax (by omega)) (ct (decide_eq_true hl) ?_))
  show cond (isP a n l (rA c i)) _ _=_
  by_cases hr:isP a n l (rA c i)=true
  · rw [if_pos hr]
    exact ct hr rfl
  · rw [if_neg hr,aF (n:=c.length) (by omega) (by omega)]
    refine cf (by simpa using hr) ?_
    rw [hm]
    rfl
theorem OU {c l:RL}(h:(ao c&&decide (l.length<9223372036854775808))=true):ao c=true∧l.length<9223372036854775808:=by
 simpa using h
theorem RW (c:RL)(a n:Int)(l:RL)(h:(ao c&&decide (l.length<9223372036854775808))=true):
 ∃m,aj E (aa xw) m 143 [.os c,.one (.fn 131 [.ptr 0 0])] [.var [.i a,.i n,.sl false 89 l]]=some ([.oi (Lp a n l c)],[.var [.i a,.i n,.sl false 89 l]]):=by
 obtain⟨h1,h2⟩:=OU h
 obtain⟨m,hm⟩:=Pn c a n l h2 (gV h1).1 c.length 0 (by omega)
 exact⟨m+1,by rw [QH];exact hm⟩
theorem Qw (c:RL)(a n:Int)(l:RL)(h:(ao c&&decide (l.length<9223372036854775808))=true):
 aj E (aa IG) 1 130 [.os c,.one (.fn 131 [.ptr 0 0])] [.var [.i a,.i n,.sl false 89 l]]=some ([.ob (inP a n l c)],[.var [.i a,.i n,.sl false 89 l]]):=by
 rw [Tu]
 refine ct h ?_
 have h:=rn a n l c 0 (by omega)
 refine congrArg (fun z=>some ([AV.one (AC.bool z)],([.var [.i a,.i n,.sl false 89 l]]:List Block))) ?_
 unfold Lp
 cases hc:inP a n l c
 · rw [hc]at h
   exact decide_eq_false (fun h0=>by cases h.1 h0)
 · rw [hc]at h
   exact decide_eq_true (h.2 rfl)
theorem PM (c d:RL)(hc:ao c=true)(hd:ao d=true):∀(e i:Nat),i+e=d.length→
 ∃m,goF E (aa x9) F111 0 m yz (xU c d d.length i)=some ([.one (.bool (kM c (d.drop i)))],[])
 | 0,i,hi=>by
  refine⟨1, ?_⟩
  rw [HA]
  have:d.drop i=[]:=List.drop_eq_nil_of_le (by omega)
  rw [this]
  exact cf (decide_eq_false (by omega)) rfl
 | e+1,i,hi=>by
  obtain⟨hd1,hd2⟩:=gV hd
  have hi':i<d.length:=by omega
  obtain⟨m,hm⟩:=PM c d hc hd e (i+1) (by omega)
  have hs:=l0 hd2 hi'
  refine⟨m+1, ?_⟩
  rw [HA,aE d i hi',Int.toNat_natCast,aF (n:=d.length) hi' (by omega),hm]
  refine ct (decide_eq_true (by omega)) (ct (ax hi') (ct (by rw [hc,decide_eq_true hs];rfl) ?_))
  unfold kM
  rw [List.all_cons]
  generalize inP (nr (rA d i) 0) (nr (rA d i) 1) (nl (rA d i) 2) c=b
  cases b<;>rfl
theorem pS {c d:RL}(h:(ao c&&ao d)=true):ao c=true∧ao d=true:=by
 simpa using h
theorem Sz (c d:RL)(h:(ao c&&ao d)=true):∃m,aj E (aa x9) m 111 [.os c,.os d] []=some ([.ob (kM c d)],[]):=by
 obtain⟨h1,h2⟩:=pS h
 obtain⟨m,hm⟩:=PM c d h1 h2 d.length 0 (by omega)
 exact⟨m+1,by rw [Tg];exact hm⟩
theorem E3 (a b c d e f g h i j k l m n:Int):vh a b c d e f g h i j k l m n=vh h i j k l m n a b c d e f g:=by
 rw [Bool.eq_iff_iff]
 simp only [vh,Bool.and_eq_true,beq_iff_eq]
 omega
theorem sr :∀(c d:RL),c.length=d.length→ge c d=ge d c
 | [],[],_=>rfl
 | [],_::_,h=>by simp at h
 | _::_,[],h=>by simp at h
 | r::c,q::d,h=>by
  simp only [ge,List.drop_one,List.tail_cons]
  rw [sr c d (by simpa using h)]
  show(i9 r q&&_)=(i9 q r&&_)
  rw [show i9 r q=i9 q r from E3 _ _ _ _ _ _ _ _ _ _ _ _ _ _]
theorem Hp (a n:Int)(c:RL)(b m:Int)(d:RL):eqP a n c b m d=eqP b m d a n c:=by
 unfold eqP
 by_cases h:c.length=d.length
 · rw [sr c d h,h]
   rw [Bool.eq_iff_iff]
   simp only [Bool.and_eq_true,beq_iff_eq,decide_eq_true_eq]
   constructor
   · rintro⟨⟨⟨h1,h2⟩,_⟩,h3⟩;exact⟨⟨⟨h1.symm,h2.symm⟩,trivial⟩,h3⟩
   · rintro⟨⟨⟨h1,h2⟩,_⟩,h3⟩;exact⟨⟨⟨h1.symm,h2.symm⟩,trivial⟩,h3⟩
 · rw [decide_eq_false h,decide_eq_false (Ne.symm h)]
   simp
theorem No (c d:RL)(hc:ao c=true)(hd:d.length≤1000)(i:Nat)(hi:i<d.length){r:List AV×List Block}(hout:∃m,goF E (aa nE) F72 0 m Bo (Bl c d ((i:Int)+1))=some r):∀(e k:Nat) (f:Bool),k+e=c.length→
 ∃m,goF E (aa nE) F72 0 m zc (zX c d i f k)=some (if(f || inP (nr (rA d i) 0) (nr (rA d i) 1) (nl (rA d i) 2) (c.drop k))=true then r else([.one (.bool false)],[]))
 | 0,k,f,hk=>by
  obtain⟨m,hm⟩:=hout
  refine⟨m+1, ?_⟩
  rw [G2]
  have:c.drop k=[]:=List.drop_eq_nil_of_le (by omega)
  rw [this]
  refine cf (decide_eq_false (by omega)) ?_
  cases f
  · rfl
  · refine cf rfl ?_
    rw [aA (n:=(i:Int)+1) (by omega) (by omega)]
    exact hm
 | e+1,k,f,hk=>by
  obtain⟨hc1,hc2⟩:=gV hc
  have hk':k<c.length:=by omega
  have hs:=l0 hc2 hk'
  cases f
  · obtain⟨m,hm⟩:=No c d hc hd i hi hout e (k+1) (isP (nr (rA d i) 0) (nr (rA d i) 1) (nl (rA d i) 2) (rA c k)) (by omega)
    refine⟨m+1, ?_⟩
    rw [G2,Int.toNat_natCast,Int.toNat_natCast,aF (n:=c.length) hk' (by omega),Hp]
    refine ct (decide_eq_true (by omega)) (cf rfl (ct (ax hk') (ct (ax hi) (ct (decide_eq_true hs) ?_))))
    refine Eq.trans hm ?_
    rw [aE c k hk']
    unfold inP
    rw [List.any_cons,Bool.false_or]
  · obtain⟨m,hm⟩:=No c d hc hd i hi hout e (k+1) true (by omega)
    refine⟨m+1, ?_⟩
    rw [G2,aF (n:=c.length) hk' (by omega),hm]
    refine ct (decide_eq_true (by omega)) ?_
    simp
theorem l72 (c d:RL)(hc:ao c=true)(hd:ao d=true):∀(e i:Nat),i+e=d.length→
 ∃m,goF E (aa nE) F72 0 m Bo (Bl c d i)=some ([.one (.bool (kM c (d.drop i)))],[])
 | 0,i,hi=>by
  refine⟨1, ?_⟩
  rw [MN]
  have:d.drop i=[]:=List.drop_eq_nil_of_le (by omega)
  rw [this]
  exact cf (decide_eq_false (by omega)) rfl
 | e+1,i,hi=>by
  have hi':i<d.length:=by omega
  obtain⟨m,hm⟩:=No c d hc (gV hd).1 i hi' (l72 c d hc hd e (i+1) (by omega)) c.length 0 false (by omega)
  refine⟨m+1, ?_⟩
  rw [MN]
  refine ct (decide_eq_true (by omega)) (Eq.trans hm ?_)
  rw [aE d i hi',List.drop_zero,Bool.false_or]
  unfold kM
  rw [List.all_cons]
  generalize inP (nr (rA d i) 0) (nr (rA d i) 1) (nl (rA d i) 2) c=b
  cases b<;>rfl
theorem k72 (c d:RL)(h:(ao c&&ao d)=true):∃m,aj E (aa nE) m 72 [.os c,.os d] []=some ([.ob (kM c d)],[]):=by
 obtain⟨h1,h2⟩:=pS h
 obtain⟨m,hm⟩:=l72 c d h1 h2 d.length 0 (by omega)
 exact⟨m+1,by rw [e72];exact hm⟩
theorem pO {f t:RL}(h1:bM f=0)(h2:bM t=0):aV f t=if kM t f=true then 0 else 2:=by
 unfold aV
 rw [if_neg (by simpa using h1),if_neg (by simpa using h2)]
theorem k63 (f t:RL)(h:(ao f&&ao t)=true):∃m,aj E (aa L72) m 63 [.agg [.s f,.s t]] []=some ([.oi (aV f t)],[]):=by
 obtain⟨h1,h2⟩:=pS h
 have e0:nl (rA [[Cell.slice 93 f],[Cell.slice 93 t]] 0) 0=f:=rfl
 have e1:nl (rA [[Cell.slice 93 f],[Cell.slice 93 t]] 1) 0=t:=rfl
 refine⟨4, ?_⟩
 rw [e63,H0]
 refine ct (by decide) (ct rfl (ct h1 ?_))
 show cond (bM f !=0) (some ([AV.one (.i (bM f))],([]:List Block))) (goF E (aa L72) F63 0 2 AN (zg [[Cell.slice 93 f],[Cell.slice 93 t]] 2 1 f t))=_
 by_cases hf:bM f=0
 · refine cf (by simpa using hf) ?_
   rw [H0]
   refine ct (by decide) (ct rfl (ct h2 ?_))
   show cond (bM t !=0) (some ([AV.one (.i (bM t))],([]:List Block))) (goF E (aa L72) F63 0 1 AN (zg [[Cell.slice 93 f],[Cell.slice 93 t]] 2 2 f t))=_
   by_cases ht:bM t=0
   · refine cf (by simpa using ht) ?_
     rw [H0,pO hf ht]
     refine cf (by decide) (ct (by rw [h1,h2];rfl) ?_)
     cases kM t f<;>rfl
   · refine ct (by simpa using ht) ?_
     unfold aV
     rw [if_neg (by simpa using hf),if_pos ht]
 · refine ct (by simpa using hf) ?_
   unfold aV
   rw [if_pos hf]
theorem k26 (f t:RL)(h:(ao f&&ao t)=true):aj E (aa L63) 1 26 [.agg [.s f,.s t]] []=some ([.oi (aV f t)],[]):=by
 obtain⟨h1,h2⟩:=pS h
 rw [e26]
 refine ct h1 ?_
 by_cases hf:bM f=0
 · refine cf (by simpa using hf) (ct h2 ?_)
   by_cases ht:bM t=0
   · refine cf (by simpa using ht) (ct (by rw [h1,h2];rfl) ?_)
     rw [pO hf ht]
     cases kM t f<;>rfl
   · refine ct (by simpa using ht) (ct h2 ?_)
     unfold aV
     rw [if_neg (by simpa using hf),if_pos ht]
 · refine ct (by simpa using hf) (ct h1 ?_)
   unfold aV
   rw [if_pos hf]
theorem k37 (f t f2 t2:RL)(h:(ao f&&ao t)=true):aj E (aa L26) 1 37 [.agg [.s f,.s t],.agg [.s f2,.s t2]] []=some ([.ob (da f f2&&da t t2)],[]):=by
 obtain⟨h1,h2⟩:=pS h
 rw [e37]
 refine ct h1 ?_
 cases da f f2
 · rfl
 · exact ct rfl (ct h2 rfl)
theorem yV (x:RL)(hx:aI x=true):∀(k:Nat) (o:Int) (acc:RL),0≤o→o≤x.length→0≤(fo x k o acc).2.1∧(fo x k o acc).2.1≤x.length
 | 0,o,acc,h0,h1=>⟨h0,h1⟩
 | k+1,o,acc,h0,h1=>by
  simp only [fo]
  split
  · exact⟨Int.le_refl _,by simp⟩
  · have hb:=kF (au hx o.toNat)
    rw [List.length_drop]at hb
    exact yV x hx k _ _ (by omega) (by omega)
theorem fP {x:RL}(hx:aI x=true):0≤(aX x).2.1∧(aX x).2.1≤x.length:=by
 unfold aX
 split
 · simp
 · rename_i he
   have hb:=bX (aR hx).1 (by simpa using he)
   split
   · simp
   · unfold uE
     split
     · simp
     · split
       · simp
       · exact yV x hx _ _ _ (by omega) (by omega)
theorem k81 (x:RL)(hx:aI x=true):aj E (aa L37) 1 81 [.or x] []=some ([.agg [.sl true 93 (bn x).1,.sl true 93 (bn x).2.1],.oi (bn x).2.2.1,.oi (bn x).2.2.2],[]):=by
 have hb:=fP hx
 have hl:=(aR hx).2
 have hx2:=au hx (aX x).2.1.toNat
 have hb2:=fP hx2
 rw [List.length_drop]at hb2
 rw [e81,show ag x 0=x from by rw [aN,List.drop_zero],aN,Int.zero_add,aA (n:=(aX x).2.1) (by omega) (by omega)]
 refine ct (aC (by omega) (by omega)) (ct hx ?_)
 unfold bn
 simp only
 by_cases h1:(aX x).2.2=0
 · refine cf (by simpa using h1) (ct (aC (by omega) (by omega)) (ct hx2 ?_))
   rw [if_neg (by simpa using h1)]
   by_cases h2:(aX (x.drop (aX x).2.1.toNat)).2.2=0
   · refine cf (by simpa using h2) (ct (by rw [hN hx,hN hx2];rfl) ?_)
     rw [if_neg (by simpa using h2)]
     by_cases h3:aV (aX x).1 (aX (x.drop (aX x).2.1.toNat)).1=0
     · refine cf (by simpa using h3) ?_
       rw [if_neg (by simpa using h3),aA (by omega) (by omega)]
     · refine ct (by simpa using h3) ?_
       rw [if_pos h3]
   · refine ct (by simpa using h2) ?_
     rw [if_pos h2]
 · refine ct (by simpa using h1) ?_
   rw [if_pos h1]
theorem k89 (x:RL)(hx:aI x=true):aj E (aa L81) 1 89 [.or x] []=some ([.agg [.s (bn x).1,.s (bn x).2.1],.oi (bn x).2.2.1,.oi (bn x).2.2.2],[]):=by
 have hb:=fP hx
 have hl:=(aR hx).2
 have hx2:=au hx (aX x).2.1.toNat
 have hb2:=fP hx2
 rw [List.length_drop]at hb2
 rw [e89,aN]
 refine ct hx ?_
 unfold bn
 simp only
 by_cases h1:(aX x).2.2=0
 · refine cf (by simpa using h1) (ct (aC (by omega) (by omega)) (ct hx2 ?_))
   rw [if_neg (by simpa using h1)]
   by_cases h2:(aX (x.drop (aX x).2.1.toNat)).2.2=0
   · refine cf (by simpa using h2) (ct (by rw [hN hx,hN hx2];rfl) ?_)
     rw [if_neg (by simpa using h2)]
     by_cases h3:aV (aX x).1 (aX (x.drop (aX x).2.1.toNat)).1=0
     · refine cf (by simpa using h3) ?_
       rw [if_neg (by simpa using h3),aA (by omega) (by omega)]
     · refine ct (by simpa using h3) ?_
       rw [if_pos h3]
   · refine ct (by simpa using h2) ?_
     rw [if_pos h2]
 · refine ct (by simpa using h1) ?_
   rw [if_pos h1]
theorem CN {x f t:RL}(h:en x f t=true):dq x f=true∧dq (x++gB f) t=true:=by
 unfold en at h
 simpa using h
theorem TE (x f t:RL)(h:en x f t=true):aj E (aa L89) 1 101 [.or x,.agg [.s f,.s t]] []=some ([.one (.sl true 5 (x++jj f t))],[]):=by
 rw [R5,jj,List.append_assoc]
 exact ct (CN h).1 (ct (CN h).2 rfl)
theorem Pz (f t:RL)(h:en [] f t=true):aj E (aa L89) 1 101 [.one .nils,.agg [.s f,.s t]] []=some ([.one (.sl true 5 (jj f t))],[]):=by
 obtain⟨h1,h2⟩:=CN h
 rw [Ll,h1,h2]
 simp only [cond_true,List.nil_append,jj]
theorem EJ {x:RL}(hx:aI x=true):(ao (bn x).1&&ao (bn x).2.1)=true:=by
 unfold bn
 simp only
 split
 · rfl
 · split
   · rfl
   · split
     · rfl
     · simp only
       rw [hN hx,hN (au hx _)]
       rfl
theorem wl :∀(c d:RL),ge (c.map ju) (d.map ju)=ge c d
 | [],d=>rfl
 | r::c,d=>by
  rw [List.map_cons,ge,ge,←List.map_drop,wl c (d.drop 1)]
  have:i9 (ju r) (rA (d.map ju) 0)=i9 r (rA d 0):=by
   cases d<;>rfl
  rw [this]
theorem M5 (a n:Int)(l:RL)(q:List Cell):isP a n (l.map ju) (ky q)=isP a n l q:=by
 show eqP a n (l.map ju) (nr q 0) (nr q 1) ((nl q 2).map ju)=eqP a n l (nr q 0) (nr q 1) (nl q 2)
 unfold eqP
 rw [List.length_map,List.length_map,wl]
theorem Lm (c d:RL):kM (c.map ky) (d.map ky)=kM c d:=by
 unfold kM
 rw [List.all_map]
 refine congrArg (fun f=>d.all f) (funext fun q=> ?_)
 show inP (nr q 0) (nr q 1) ((nl q 2).map ju) (c.map ky)=_
 unfold inP
 rw [List.any_map]
 exact congrArg (fun f=>c.any f) (funext fun r=>M5 _ _ _ r)
theorem Gp (f t:RL):aV (f.map ky) (t.map ky)=aV f t:=by
 unfold aV
 rw [yp,yp,Lm]
theorem AK {f t:RL}(h:aV f t=0):bM f=0∧bM t=0:=by
 unfold aV at h
 by_cases h1:bM f=0
 · by_cases h2:bM t=0
   · exact⟨h1,h2⟩
   · rw [if_neg (by simpa using h1),if_pos h2]at h
     exact absurd h h2
 · rw [if_pos h1]at h
   exact absurd h h1
theorem oz {c:RL}(h:bM c=0):(gB c).length≤70310:=by
 have h9:=j9 h
 have hl:=lS c (pQ h)
 have hu:=dJ (c.length:Int)
 unfold gB
 rw [List.length_append]
 omega
theorem tj (c:RL):okB (gB c)=true:=dG (iV 10 _ (by omega)) (se c)
theorem GR {f t:RL}(h:aV f t=0)(rest:RL):bn (jj f t++rest)=(f.map ky,t.map ky,((jj f t).length:Int),0):=by
 obtain⟨h1,h2⟩:=AK h
 unfold bn jj
 rw [List.append_assoc,sL h1]
 simp only
 rw [Int.toNat_natCast,List.drop_left,sL h2]
 simp only
 rw [if_neg (by simp),if_neg (by simp),Gp,h,if_neg (by simp),List.length_append]
 simp
theorem Ha {p:RL}(h:ek p=true)(n:Int):ek (bv p n)=true:=by
 obtain⟨h1,h2⟩:=DV h
 have hl:(bv p n).length≤p.length:=List.length_filter_le _ _
 have hp:(bv p n).all xV=true:=xR h2 fun r hr=>(List.mem_filter.1 hr).1
 unfold ek
 rw [fE (by omega),hp]
 rfl
theorem k45 (p:RL)(n:Int)(h:ek p=true):aj E (aa H7) 1 45 [.os p,.oi n] []=
 some ([.agg [.s (bv (bv p n) (n%1099511627776 / 64)),.s (bv p n)]],[]):=by
 have h0:=Int.emod_nonneg n (show(1099511627776:Int)≠0 by omega)
 have h1:=Int.emod_lt_of_pos n (show(0:Int)<1099511627776 by omega)
 have e:IntKind.wrap .i64 (Int.tdiv (aK n 1099511627776) 64)=n%1099511627776 / 64:=by
  unfold aK
  rw [if_neg (by omega),Int.tdiv_eq_ediv_of_nonneg h0,aA (by omega) (by omega)]
 rw [e45,h,Ha h,e]
 rfl
theorem mH {f t:RL}(h:aV f t=0):bM f=0∧bM t=0:=by
 unfold aV at h
 split at h
 · exact absurd h (by assumption)
 · rename_i h1
   split at h
   · exact absurd h (by assumption)
   · rename_i h2
     exact⟨by simpa using h1,by simpa using h2⟩
end Go.Proofs.YtejimgikldiajaaGreat
