/-
  Merged texts.
-/
import Derived.Test.YtejimgikldiajaaGreatZ5
namespace Go.Proofs.YtejimgikldiajaaGreat
open Go.Abs
theorem k66 (n:Int):aj E (aa L45) 1 66 [.oi n] []=some ([.ob (d9 n)],[]):=by
 rw [e66];unfold d9
 generalize decide (n≥101)=b
 cases b<;>rfl
theorem RI (s:List UInt8):aj E (aa L66) 1 151 [.one (.str s)] []=some ([.ob s.isEmpty],[]):=by kernel_rfl
theorem I2 {s:List UInt8}:s=[]↔s.length=0:=by
 cases s<;>simp
theorem MA {s:List UInt8}:s.isEmpty=true↔s.length=0:=by
 cases s<;>simp
theorem MI {s:List UInt8}:s.isEmpty=false↔s.length≠0:=by
 cases s<;>simp
theorem kK (k:Int)(o f:List UInt8)(n:Int)(s:List UInt8):
 (jV k o f n s=10∧(k<1∨5<k))∨
 (1≤k∧k≤5∧((jV k o f n s=2∧(o.length=0∨f.length=0))∨
  (o.length≠0∧f.length≠0∧((jV k o f n s=3∧(16<o.length∨16<f.length∨32<s.length))∨
    (o.length≤16∧f.length≤16∧s.length≤32∧((jV k o f n s=9∧((k=3∧(n< -1000000∨1000000<n))∨((k=4∨k=5)∧n≠0)))∨
      (¬(k=3∧(n< -1000000∨1000000<n))∧¬((k=4∨k=5)∧n≠0)∧((jV k o f n s=2∧(k=2∨k=3∨k=5)∧s.length≠0)∨(jV k o f n s=0∧¬((k=2∨k=3∨k=5)∧s.length≠0)))))))))):=by
 unfold jV
 simp only [I2,ne_eq]
 generalize o.length=a
 generalize f.length=b
 generalize s.length=c
 split
 · omega
 · split
   · omega
   · split
     · omega
     · split
       · omega
       · split
         · omega
         · split<;>omega
theorem S6 (k:Int)(o f:List UInt8)(n:Int)(s:List UInt8):aj E (aa GF) 1 141 [.agg [.i k,.str o,.str f,.i n,.str s]] []=some ([.oi (jV k o f n s)],[]):=by
 rw [Rr]
 have hz:=kK k o f n s
 generalize jV k o f n s=z at*
 repeat' (refine cs (fun _=> ?_) (fun _=> ?_))
 all_goals refine congrArg (fun z=>some ([AV.one (AC.int .i64 z)],([]:List Block))) ?_
 all_goals simp only [I2,MA,MI,Bool.not_eq_true',Bool.not_eq_false',bne_iff_ne,bne_eq_false_iff_eq,decide_eq_true_eq,beq_iff_eq,beq_eq_false_iff_ne,decide_eq_false_iff_not,ne_eq]at*
 all_goals omega
theorem R3 (k:Int)(o f:List UInt8)(n:Int)(s:List UInt8):aj E (aa JB) 1 114 [.agg [.i k,.str o,.str f,.i n,.str s]] []=some ([.oi (jV k o f n s)],[]):=by
 rw [Sb]
 have hz:=kK k o f n s
 generalize jV k o f n s=z at*
 repeat' (refine cs (fun _=> ?_) (fun _=> ?_))
 all_goals refine congrArg (fun z=>some ([AV.one (AC.int .i64 z)],([]:List Block))) ?_
 all_goals simp only [I2,MA,MI,Bool.not_eq_true',Bool.not_eq_false',bne_iff_ne,bne_eq_false_iff_eq,decide_eq_true_eq,beq_iff_eq,beq_eq_false_iff_ne,decide_eq_false_iff_not,ne_eq]at*
 all_goals omega
theorem QF (k:Int)(o f:List UInt8)(n:Int)(s:List UInt8):aj E (aa IR) 1 153 [.agg [.i k,.str o,.str f,.i n,.str s]] []=some ([.ob (k==1)],[]):=by
 rw [SE]
theorem qO :∀(l:RL) (i:Int),0≤i→(0≤qI i l↔fI l=false)
 | [],i,h=>by simp [qI,fI]
 | r::l,i,h=>by
  have ih:=qO l (i+1) (by omega)
  unfold qI
  unfold fI at ih⊢
  rw [List.all_cons]
  by_cases hr:nr r 0=1
  · simp [hr,h]
  · rw [if_neg hr,ih]
    simp [hr]
theorem PK (l:RL)(hl:l.length<9223372036854775808):∀(d i:Nat),i+d=l.length→
 ∃m,goF E (aa xF) F156 0 m yy (xP l l.length i)=some ([.one (.int .i64 (qI i (l.drop i)))],[])
 | 0,i,hi=>by
  refine⟨1, ?_⟩
  rw [H5]
  have:l.drop i=[]:=List.drop_eq_nil_of_le (by omega)
  rw [this,qI]
  exact cf (decide_eq_false (by omega)) rfl
 | d+1,i,hi=>by
  obtain⟨m,hm⟩:=PK l hl d (i+1) (by omega)
  refine⟨m+1, ?_⟩
  rw [H5,aE l i (by omega),qI,Int.toNat_natCast]
  refine ct (decide_eq_true (by omega)) (ct (ax (by omega)) ?_)
  by_cases hr:nr (rA l i) 0=1
  · rw [if_pos hr]
    exact ct (by simpa using hr) rfl
  · rw [if_neg hr,aF (n:=l.length) (by omega) hl]
    refine cf (by simpa using hr) ?_
    rw [hm]
    rfl
theorem RD (l:RL)(hl:l.length<9223372036854775808):∃m,aj E (aa xF) m 156 [.one (.sl false 136 l),.one (.fn 153 [])] []=some ([.oi (Kt l)],[]):=by
 obtain⟨m,hm⟩:=PK l hl l.length 0 (by omega)
 exact⟨m+1,by rw [S2];exact hm⟩
theorem TB (l:RL)(hl:l.length<9223372036854775808):aj E (aa GN) 1 152 [.one (.sl false 136 l),.one (.fn 153 [])] []=some ([.ob (!(fI l))],[]):=by
 rw [QS]
 refine ct (decide_eq_true hl) ?_
 have h:=qO l 0 (by omega)
 refine congrArg (fun z=>some ([AV.one (AC.bool z)],([]:List Block))) ?_
 unfold Kt
 cases hc:fI l
 · rw [hc]at h
   exact decide_eq_true (h.2 rfl)
 · rw [hc]at h
   exact decide_eq_false (fun h0=>by cases h.1 h0)
theorem S1 (c q t:Int)(l:RL)(hl:l.length<9223372036854775808):aj E (aa IB) 1 142 [.agg [.i c,.i q,.i t,.sl false 136 l]] []=some ([.ob (fI l)],[]):=by
 rw [Tl]
 refine ct (decide_eq_true hl) ?_
 simp
theorem Pv (c q t:Int)(l:RL)(hl:l.length<9223372036854775808):∀(d i:Nat),i+d=l.length→
 ∃m,goF E (aa yC) F115 0 m xL (yw i c q t l)=some ([.one (.bool (fI (l.drop i)))],[])
 | 0,i,hi=>by
  refine⟨1, ?_⟩
  rw [Gz]
  have:l.drop i=[]:=List.drop_eq_nil_of_le (by omega)
  rw [this]
  exact cf (decide_eq_false (by omega)) rfl
 | d+1,i,hi=>by
  obtain⟨m,hm⟩:=Pv c q t l hl d (i+1) (by omega)
  refine⟨m+1, ?_⟩
  rw [Gz,aE l i (by omega),Int.toNat_natCast,aF (n:=l.length) (by omega) hl,hm]
  refine ct (decide_eq_true (by omega)) (ct (ax (by omega)) ?_)
  unfold fI
  rw [List.all_cons]
  generalize (nr (rA l i) 0==1)=b
  cases b<;>rfl
theorem SC (c q t:Int)(l:RL)(hl:l.length<9223372036854775808):∃m,aj E (aa yC) m 115 [.agg [.i c,.i q,.i t,.sl false 136 l]] []=some ([.ob (fI l)],[]):=by
 obtain⟨m,hm⟩:=Pv c q t l hl l.length 0 (by omega)
 exact⟨m+1,by rw [QZ];exact hm⟩
def vI (t:Int)(l:RL):Int:=if(fI l=true∧t≠0)∨(fI l=false∧1<l.length)then 2 else 0
theorem Py (c q t:Int)(l:RL)(hl:l.length≤4):∀(d i:Nat),i+d=l.length→
 ∃m,goF E (aa yl) F128 0 m xn (xt l l.length i c q t l)=some ([.one (.int .i64 (if fX (l.drop i)≠0 then fX (l.drop i)else vI t l))],[])
 | 0,i,hi=>by
  refine⟨1, ?_⟩
  rw [Iw]
  have:l.drop i=[]:=List.drop_eq_nil_of_le (by omega)
  rw [this,fX,if_neg (by simp)]
  refine cf (decide_eq_false (by omega)) (ct (decide_eq_true (by omega)) ?_)
  unfold vI
  cases fI l
  all_goals repeat' (refine cs (fun _=> ?_) (fun _=> ?_))
  all_goals refine congrArg (fun z=>some ([AV.one (AC.int .i64 z)],([]:List Block))) ?_
  all_goals simp only [bne_iff_ne,bne_eq_false_iff_eq,decide_eq_true_eq,decide_eq_false_iff_not,Bool.not_true,Bool.not_false,Bool.true_eq_false,Bool.false_eq_true,false_and,true_and,or_false,false_or]at*
  all_goals ((repeat' split)<;>omega)
 | d+1,i,hi=>by
  obtain⟨m,hm⟩:=Py c q t l hl d (i+1) (by omega)
  refine⟨m+1, ?_⟩
  rw [Iw,aE l i (by omega),fX,Int.toNat_natCast,aF (n:=l.length) (by omega) (by omega),hm]
  refine ct (decide_eq_true (by omega)) (ct (ax (by omega)) ?_)
  show cond (fW (rA l i) !=0) (some ([AV.one (AC.int .i64 (fW (rA l i)))],([]:List Block))) _=_
  by_cases h0:fW (rA l i)=0
  · rw [if_neg (show¬fW (rA l i)≠0 by simpa using h0)]
    exact cf (by simpa using h0) rfl
  · simp only [if_pos h0]
    exact ct (by simpa using h0) (by simp [h0])
theorem Qr (c q t:Int)(l:RL):∃m,aj E (aa yl) m 128 [.agg [.i c,.i q,.i t,.sl false 136 l]] []=some ([.oi (eb c q t l)],[]):=by
 by_cases hl:l.length≤4
 · obtain⟨m,hm⟩:=Py c q t l hl l.length 0 (by omega)
   refine⟨m+1, ?_⟩
   rw [PF,show(0:Int)=((0:Nat):Int)from rfl,hm,List.drop_zero]
   unfold vI
   repeat' (refine cs (fun _=> ?_) (fun _=> ?_))
   all_goals refine congrArg (fun z=>some ([AV.one (AC.int .i64 z)],([]:List Block))) ?_
   all_goals simp only [beq_iff_eq,beq_eq_false_iff_ne,decide_eq_true_eq,decide_eq_false_iff_not,ne_eq]at*
   all_goals (unfold eb;(repeat' split)<;>first | rfl | omega)
 · refine⟨1, ?_⟩
   rw [PF]
   repeat' (refine cs (fun _=> ?_) (fun _=> ?_))
   all_goals simp only [beq_iff_eq,beq_eq_false_iff_ne,decide_eq_true_eq,decide_eq_false_iff_not,ne_eq]at*
   all_goals first | (exfalso;omega) | (refine congrArg (fun z=>some ([AV.one (AC.int .i64 z)],([]:List Block))) ?_;unfold eb;(repeat' split)<;>first | rfl | omega)
theorem l73 (c q t:Int)(l:RL)(hl:l.length≤4):∀(d i:Nat),i+d=l.length→
 ∃m,goF E (aa yc) F73 0 m DP (D4 i c q t l)=some ([.one (.int .i64 (if fX (l.drop i)≠0 then fX (l.drop i)else vI t l))],[])
 | 0,i,hi=>by
  refine⟨1, ?_⟩
  rw [M4]
  have:l.drop i=[]:=List.drop_eq_nil_of_le (by omega)
  rw [this,fX,if_neg (by simp)]
  refine cf (decide_eq_false (by omega)) (ct (decide_eq_true (by omega)) ?_)
  unfold vI
  rw [decide_eq_true (show l.length<9223372036854775808 by omega)]
  cases fI l
  all_goals repeat' (refine cs (fun _=> ?_) (fun _=> ?_))
  all_goals simp only [bne_iff_ne,bne_eq_false_iff_eq,decide_eq_true_eq,decide_eq_false_iff_not,Bool.not_true,Bool.not_false,Bool.true_eq_false,Bool.false_eq_true,false_and,true_and,or_false,false_or]at*
  all_goals refine congrArg (fun z=>some ([AV.one (AC.int .i64 z)],([]:List Block))) ?_
  all_goals ((repeat' split)<;>omega)
 | d+1,i,hi=>by
  obtain⟨m,hm⟩:=l73 c q t l hl d (i+1) (by omega)
  refine⟨m+1, ?_⟩
  rw [M4,aE l i (by omega),fX,Int.toNat_natCast,aF (n:=l.length) (by omega) (by omega),hm]
  refine ct (decide_eq_true (by omega)) (ct (ax (by omega)) ?_)
  show cond (fW (rA l i) !=0) (some ([AV.one (AC.int .i64 (fW (rA l i)))],([]:List Block))) _=_
  by_cases h0:fW (rA l i)=0
  · rw [if_neg (show¬fW (rA l i)≠0 by simpa using h0)]
    exact cf (by simpa using h0) rfl
  · simp only [if_pos h0]
    exact ct (by simpa using h0) (by simp [h0])
theorem k73 (c q t:Int)(l:RL):∃m,aj E (aa yc) m 73 [.agg [.i c,.i q,.i t,.sl false 136 l]] []=some ([.oi (eb c q t l)],[]):=by
 by_cases hl:l.length≤4
 · obtain⟨m,hm⟩:=l73 c q t l hl l.length 0 (by omega)
   refine⟨m+1, ?_⟩
   rw [e73,show(0:Int)=((0:Nat):Int)from rfl,hm,List.drop_zero]
   unfold vI
   simp only [d9]
   repeat' (refine cs (fun _=> ?_) (fun _=> ?_))
   all_goals refine congrArg (fun z=>some ([AV.one (AC.int .i64 z)],([]:List Block))) ?_
   all_goals simp only [Bool.not_eq_true',Bool.not_eq_false',Bool.and_eq_true,Bool.and_eq_false_iff,beq_iff_eq,beq_eq_false_iff_ne,decide_eq_true_eq,decide_eq_false_iff_not,ne_eq]at*
   all_goals (unfold eb;(repeat' split)<;>first | rfl | omega)
 · refine⟨1, ?_⟩
   rw [e73]
   simp only [d9]
   repeat' (refine cs (fun _=> ?_) (fun _=> ?_))
   all_goals simp only [Bool.not_eq_true',Bool.not_eq_false',Bool.and_eq_true,Bool.and_eq_false_iff,beq_iff_eq,beq_eq_false_iff_ne,decide_eq_true_eq,decide_eq_false_iff_not,ne_eq]at*
   all_goals first | (exfalso;omega) | (refine congrArg (fun z=>some ([AV.one (AC.int .i64 z)],([]:List Block))) ?_;unfold eb;(repeat' split)<;>first | rfl | omega)
theorem Q0 (a n t:Int)(c:RL)(b k u:Int)(d:RL):aj E (aa L73) 1 129 [.agg [.i a,.i n,.i t,.sl false 136 c],.agg [.i b,.i k,.i u,.sl false 136 d]] []=some ([.oi (ir a n b k)],[]):=by
 rw [Ru]
 refine ct (by simp) ?_
 refine congrArg (fun z=>some ([AV.one (AC.int .i64 z)],([]:List Block))) ?_
 simp only [vj,nr,dV,Cell.toInt,qm,ir]
 (repeat' split)<;>omega
theorem k74 (a n t:Int)(c:RL)(b k u:Int)(d:RL):aj E (aa Hw) 1 74 [.agg [.i a,.i n,.i t,.sl false 136 c],.agg [.i b,.i k,.i u,.sl false 136 d]] []=some ([.oi (ir a n b k)],[]):=by
 rw [e74]
 repeat' (refine cs (fun _=> ?_) (fun _=> ?_))
 all_goals refine congrArg (fun z=>some ([AV.one (AC.int .i64 z)],([]:List Block))) ?_
 all_goals simp only [beq_iff_eq,beq_eq_false_iff_ne,decide_eq_true_eq,decide_eq_false_iff_not,ne_eq]at*
 all_goals (unfold ir;(repeat' split)<;>omega)
theorem l92 (c d:RL)(a n t b k u:Int)(hc:c.length<9223372036854775808)(hd:c.length=d.length):∀(e i:Nat),i+e=c.length→
 ∃m,goF E (aa L74) F92 0 m Dx (C8 i a n t c b k u d)=some ([.one (.bool (lL (c.drop i) (d.drop i)))],[])
 | 0,i,hi=>by
  refine⟨1, ?_⟩
  rw [Mi]
  have:c.drop i=[]:=List.drop_eq_nil_of_le (by omega)
  rw [this,lL]
  exact cf (decide_eq_false (by omega)) rfl
 | e+1,i,hi=>by
  obtain⟨m,hm⟩:=l92 c d a n t b k u hc hd e (i+1) (by omega)
  refine⟨m+1, ?_⟩
  rw [Mi]
  refine ct (decide_eq_true (by omega)) (ct (ax (by omega)) (ct (ax (by omega)) ?_))
  rw [aE c i (by omega),lL,Int.toNat_natCast,aF (n:=c.length) (by omega) hc,hm,gT,List.drop_drop,Nat.add_zero]
  show cond (!(qp (rA c i) (rA d i))) _ _=_
  generalize qp (rA c i) (rA d i)=b1
  cases b1<;>rfl
theorem k92 (a n t:Int)(c:RL)(b k u:Int)(d:RL)(hc:c.length<9223372036854775808):∃m,aj E (aa L74) m 92 [.agg [.i a,.i n,.i t,.sl false 136 c],.agg [.i b,.i k,.i u,.sl false 136 d]] []=some ([.ob (eqU a n t c b k u d)],[]):=by
 unfold eqU C3
 by_cases hd:c.length=d.length
 · obtain⟨m,hm⟩:=l92 c d a n t b k u hc hd c.length 0 (by omega)
   refine⟨m+1, ?_⟩
   rw [e92,show(0:Int)=((0:Nat):Int)from rfl,hm,decide_eq_true hd,List.drop_zero,List.drop_zero]
   unfold bne
   rw [show((c.length:Int)==(d.length:Int))=true from beq_iff_eq.2 (by omega)]
   generalize (a==b)=b1
   generalize (n==k)=b2
   generalize (t==u)=b3
   cases b1<;>cases b2<;>cases b3<;>rfl
 · refine⟨1, ?_⟩
   rw [e92,decide_eq_false hd]
   unfold bne
   rw [show((c.length:Int)==(d.length:Int))=false from beq_eq_false_iff_ne.2 (by omega)]
   generalize (a==b)=b1
   generalize (n==k)=b2
   generalize (t==u)=b3
   cases b1<;>cases b2<;>cases b3<;>rfl
theorem Hk {x:RL}{s:List UInt8}(h:jn x s=true):x.length≤3000000∧s.length≤100000:=by
 unfold jn at h
 simpa using h
theorem tL {x:RL}{s:List UInt8}(h1:x.length≤3000000)(h2:s.length≤100000):jn x s=true:=by
 unfold jn
 simp [h1,h2]
theorem Qf (x:RL)(s:List UInt8)(h:jn x s=true):aj E (aa L92) 1 123 [.or x,.one (.str s)] []=some ([.one (.sl true 5 (x++cz s))],[]):=by
 obtain⟨h1,h2⟩:=Hk h
 have hu:=dJ (s.length:Int)
 rw [Qz,eN (n:=(s.length:Int)) (by omega) (by omega)]
 refine ct (gF (by omega) (by omega) (by omega)) (ct (bh (by simp;omega)) ?_)
 rw [List.append_assoc]
 rfl
theorem NI {x:RL}{v:Int}(h:(jG x&&okI v)=true):x.length≤4000000∧okI v=true:=by
 unfold jG at h
 simpa using h
theorem Rj (x:RL)(v:Int)(h:(jG x&&okI v)=true):aj E (aa HI) 1 124 [.or x,.oi v] []=some ([.one (.sl true 5 (x++bc (zig v)))],[]):=by
 obtain⟨h1,h2⟩:=NI h
 have hz:=mI h2
 rw [QX,N3 h2]
 exact ct (gF h1 hz.1 hz.2) rfl
theorem EC {r:List Cell}(h:fm r=true):(ns r 1).length≤100∧(ns r 2).length≤100∧(ns r 4).length≤100∧okI (nr r 3)=true:=by
 unfold fm at h
 simpa using h
theorem qt {r:List Cell}(h:fm r=true){y:RL}(hy:y.length≤1100000):
 jn (y++bc (IntKind.wrap .u64 (nr r 0))) (ns r 1)=true∧
 jn ((y++bc (IntKind.wrap .u64 (nr r 0)))++cz (ns r 1)) (ns r 2)=true∧
 (jG (((y++bc (IntKind.wrap .u64 (nr r 0)))++cz (ns r 1))++cz (ns r 2))&&okI (nr r 3))=true∧
 jn ((((y++bc (IntKind.wrap .u64 (nr r 0)))++cz (ns r 1))++cz (ns r 2))++bc (zig (nr r 3))) (ns r 4)=true∧(cC r).length≤400:=by
 obtain⟨h1,h2,h3,h4⟩:=EC h
 have a0:=dJ (IntKind.wrap .u64 (nr r 0))
 have a1:=ug (ns r 1)
 have a2:=ug (ns r 2)
 have a3:=dJ (zig (nr r 3))
 have a4:=ug (ns r 4)
 refine⟨tL ?_ (by omega),tL ?_ (by omega), ?_,tL ?_ (by omega), ?_⟩
 · simp only [List.length_append];omega
 · simp only [List.length_append];omega
 · unfold jG
   simp only [Bool.and_eq_true,decide_eq_true_eq,List.length_append]
   exact⟨by omega,h4⟩
 · simp only [List.length_append];omega
 · unfold cC
   simp only [List.length_append];omega
theorem uy (y:RL)(r:List Cell):((((y++bc (IntKind.wrap .u64 (nr r 0)))++cz (ns r 1))++cz (ns r 2))++bc (zig (nr r 3)))++cz (ns r 4)=y++cC r:=by
 unfold cC
 simp only [List.append_assoc]
theorem vr {x l:RL}(h:kR x l=true):x.length≤1000000∧l.length≤100∧l.all fm=true:=by
 unfold kR at h
 simp only [Bool.and_eq_true,decide_eq_true_eq]at h
 exact h
theorem Mk (x l:RL)(hx:x.length≤1000000)(hl:l.length≤100)(hs:l.all fm=true):∀(d i:Nat) (y:RL),i+d=l.length→y.length≤100+400*i→
 ∃m,goF E (aa js) F100 0 m xy (yi x y l l.length i)=some ([.one (.sl true 5 (x++(y++bu (l.drop i))))],[])
 | 0,i,y,hi,hy=>by
  refine⟨1, ?_⟩
  rw [Ip]
  have:l.drop i=[]:=List.drop_eq_nil_of_le (by omega)
  simp only [bp,Int.toNat_natCast,List.take_length,this,bu,List.append_nil]
  exact cf (decide_eq_false (by omega)) (ct (ax (by omega)) (ct (by simp) (ct (bh (by omega)) rfl)))
 | d+1,i,y,hi,hy=>by
  have hr:=cm (nr (rA l i) 0)
  obtain⟨g1,g2,g3,g4,g5⟩:=qt (r:=rA l i) (pP hs (by omega)) (y:=y) (by omega)
  obtain⟨m,hm⟩:=Mk x l hx hl hs d (i+1) (y++cC (rA l i)) (by omega) (by simp;omega)
  refine⟨m+1, ?_⟩
  rw [Ip,Int.toNat_natCast]
  refine ct (decide_eq_true (by omega)) (ct (ax (by omega)) (ct (gF (by omega) hr.1 hr.2) (ct g1 (ct g2 (ct g3 (ct g4 ?_))))))
  rw [aF (n:=l.length) (by omega) (by omega),uy,hm,aE l i (by omega),bu,List.append_assoc]
theorem MX (x l:RL)(hx:x.length≤1000000)(hl:l.length≤100)(hs:l.all fm=true)(c q t:Int)(h:RL)(hh:h.length=4):∀(d i:Nat) (y:RL),i+d=4→y.length≤10*i→
 ∃m,goF E (aa js) F100 0 m xz (yx x y h 4 i c q t l)=some ([.one (.sl true 5 (x++(y++(aP (h.drop i)++bu l))))],[])
 | 0,i,y,hi,hy=>by
  obtain⟨m,hm⟩:=Mk x l hx hl hs l.length 0 y (by omega) (by omega)
  refine⟨m+1, ?_⟩
  rw [GZ]
  have:h.drop i=[]:=List.drop_eq_nil_of_le (by omega)
  rw [this,aP,List.nil_append]
  exact cf (decide_eq_false (by omega)) hm
 | d+1,i,y,hi,hy=>by
  have hr:=cm (nr (rA h i) 0)
  have hu:=dJ (IntKind.wrap .u64 (nr (rA h i) 0))
  obtain⟨m,hm⟩:=MX x l hx hl hs c q t h hh d (i+1) (y++bc (IntKind.wrap .u64 (nr (rA h i) 0))) (by omega) (by simp;omega)
  refine⟨m+1, ?_⟩
  rw [GZ,Int.toNat_natCast]
  refine ct (decide_eq_true (by omega)) (ct (ax (by omega)) (ct (gF (by omega) hr.1 hr.2) ?_))
  rw [aF (n:=4) (by omega) (by omega),hm,aE h i (by omega),aP]
  simp only [List.append_assoc]
theorem To (x:RL)(c q t:Int)(l:RL)(h:kR x l=true):∃m,aj E (aa js) m 100 [.or x,.agg [.i c,.i q,.i t,.sl false 136 l]] []=some ([.one (.sl true 5 (x++gE c q t l))],[]):=by
 obtain⟨h1,h2,h3⟩:=vr h
 obtain⟨m,hm⟩:=MX x l h1 h2 h3 c q t (cR c q t l.length) rfl 4 0 [] rfl (by simp)
 exact⟨m+1,by rw [Rw];exact hm⟩
theorem IK (x l:RL)(hx:x.length≤1000000)(hl:l.length≤100)(hs:l.all fm=true):∀(d i:Nat) (y:RL),i+d=l.length→y.length≤100+400*i→
 ∃m,goF E (aa js) F100 0 m mA (mL x y l l.length i)=some ([.one (.sl true 5 (x++(y++bu (l.drop i))))],[])
 | 0,i,y,hi,hy=>by
  refine⟨1, ?_⟩
  rw [wS]
  have:l.drop i=[]:=List.drop_eq_nil_of_le (by omega)
  simp only [bp,Int.toNat_natCast,List.take_length,this,bu,List.append_nil]
  exact cf (decide_eq_false (by omega)) (ct (ax (by omega)) (ct (by simp) (ct (bh (by omega)) rfl)))
 | d+1,i,y,hi,hy=>by
  have hr:=cm (nr (rA l i) 0)
  obtain⟨g1,g2,g3,g4,g5⟩:=qt (r:=rA l i) (pP hs (by omega)) (y:=y) (by omega)
  obtain⟨m,hm⟩:=IK x l hx hl hs d (i+1) (y++cC (rA l i)) (by omega) (by simp;omega)
  refine⟨m+1, ?_⟩
  rw [wS,Int.toNat_natCast]
  refine ct (decide_eq_true (by omega)) (ct (ax (by omega)) (ct (gF (by omega) hr.1 hr.2) (ct g1 (ct g2 (ct g3 (ct g4 ?_))))))
  rw [aF (n:=l.length) (by omega) (by omega),uy,hm,aE l i (by omega),bu,List.append_assoc]
theorem Iz (x l:RL)(hx:x.length≤1000000)(hl:l.length≤100)(hs:l.all fm=true)(c q t:Int)(h:RL)(hh:h.length=4):∀(d i:Nat) (y:RL),i+d=4→y.length≤10*i→
 ∃m,goF E (aa js) F100 0 m mz (mV x y h 4 i c q t l)=some ([.one (.sl true 5 (x++(y++(aP (h.drop i)++bu l))))],[])
 | 0,i,y,hi,hy=>by
  obtain⟨m,hm⟩:=IK x l hx hl hs l.length 0 y (by omega) (by omega)
  refine⟨m+1, ?_⟩
  rw [vG]
  have:h.drop i=[]:=List.drop_eq_nil_of_le (by omega)
  rw [this,aP,List.nil_append]
  exact cf (decide_eq_false (by omega)) hm
 | d+1,i,y,hi,hy=>by
  have hr:=cm (nr (rA h i) 0)
  have hu:=dJ (IntKind.wrap .u64 (nr (rA h i) 0))
  obtain⟨m,hm⟩:=Iz x l hx hl hs c q t h hh d (i+1) (y++bc (IntKind.wrap .u64 (nr (rA h i) 0))) (by omega) (by simp;omega)
  refine⟨m+1, ?_⟩
  rw [vG,Int.toNat_natCast]
  refine ct (decide_eq_true (by omega)) (ct (ax (by omega)) (ct (gF (by omega) hr.1 hr.2) ?_))
  rw [aF (n:=4) (by omega) (by omega),hm,aE h i (by omega),aP]
  simp only [List.append_assoc]
theorem Pw (c q t:Int)(l:RL)(h:kR [] l=true):∃m,aj E (aa js) m 100 [.one .nils,.agg [.i c,.i q,.i t,.sl false 136 l]] []=some ([.one (.sl true 5 (gE c q t l))],[]):=by
 obtain⟨h1,h2,h3⟩:=vr h
 obtain⟨m,hm⟩:=Iz [] l h1 h2 h3 c q t (cR c q t l.length) rfl 4 0 [] rfl (by simp)
 exact⟨m+1,by rw [LY];exact hm⟩
theorem tS :∀(k:Nat) (i acc:Int) (l:RL),(cB k i acc l).2.2≠0→(cB k i acc l).1=0∧(cB k i acc l).2.1=0
 | 0,_,_,_,_=>by simp [cB]
 | k+1,_,_,[],_=>by simp [cB]
 | k+1,i,acc,r::rs,h=>by
  unfold cB at h⊢
  split
  · simp
  · rename_i h1
    rw [if_neg h1]at h
    split
    · rename_i h2
      rw [if_pos h2]at h
      split
      · simp
      · rename_i h3
        rw [if_neg h3]at h
        simp at h
    · rename_i h2
      rw [if_neg h2]at h
      exact tS k _ _ rs h
def rdI (r:Int×Int×Int):List AV×List Block:=([.one (.int .i64 r.1),.one (.int .i64 r.2.1),.one (.int .i64 r.2.2)],[])
def rdS (r:List UInt8×Int×Int):List AV×List Block:=([.one (.str r.1),.one (.int .i64 r.2.1),.one (.int .i64 r.2.2)],[])
theorem Rm (x:RL)(hx:aI x=true):aj E (aa Gy) 1 155 [.or x] []=some (rdI (fg x)):=by
 rw [RS]
 refine ct hx ?_
 unfold fg
 by_cases he:(aD x).2.2=0
 · rw [if_neg (by simpa using he)]
   refine cf (by simpa using he) ?_
   rw [GK (bX (aR hx).1 he).2.2 (Ey (aR hx).1 he)]
   rfl
 · rw [if_pos he]
   exact ct (by simpa using he) rfl
theorem Se (x:RL)(hx:aI x=true):aj E (aa HW) 1 150 [.or x] []=some (rdI (fg x)):=by
 rw [Qy]
 refine ct hx ?_
 unfold fg
 by_cases he:(aD x).2.2=0
 · rw [if_neg (by simpa using he)]
   refine cf (by simpa using he) ?_
   have h0:=(bX (aR hx).1 he).2.2
   have h1:=Ey (aR hx).1 he
   unfold wj
   rw [Int.tmod_eq_emod_of_nonneg h0,Int.tdiv_eq_ediv_of_nonneg h0,eN (by omega) (by omega),aA (n:=(aD x).1 / 2) (by omega) (by omega)]
   by_cases h2:(aD x).1%2=0
   · rw [if_pos h2]
     exact ct (by simpa using h2) rfl
   · rw [if_neg h2]
     refine cf (by simpa using h2) ?_
     rw [aA (n:=0 - (aD x).1 / 2) (by omega) (by omega),aA (by omega) (by omega),Int.zero_sub]
     rfl
 · rw [if_pos he]
   exact ct (by simpa using he) rfl
theorem Tr (x:RL)(hx:aI x=true):aj E (aa FU) 1 154 [.or x] []=some (rdS (cT x)):=by
 rw [SN]
 refine ct hx ?_
 unfold cT
 have hl:=(aR hx).2
 by_cases he:(aD x).2.2=0
 · rw [if_neg (by simpa using he)]
   refine cf (by simpa using he) ?_
   have hb:=bX (aR hx).1 he
   rw [aA (n:=(x.length:Int) - (aD x).2.1) (by omega) (by omega),eN (by omega) (by omega)]
   by_cases hv:(x.length:Int) - (aD x).2.1<(aD x).1
   · rw [if_pos hv]
     exact ct (decide_eq_true hv) rfl
   · rw [if_neg hv,aA (n:=(aD x).1) (by omega) (by omega),aA (n:=(aD x).2.1+(aD x).1) (by omega) (by omega)]
     refine cf (decide_eq_false hv) (ct (aC (by omega) (by omega)) (ct (aC (by omega) (by omega)) ?_))
     unfold dA
     rw [bp,aN,List.drop_take,show((aD x).2.1+(aD x).1).toNat - (aD x).2.1.toNat=(aD x).1.toNat by omega]
     rfl
 · rw [if_pos he]
   exact ct (by simpa using he) rfl
theorem Qg (x:RL)(hx:aI x=true):aj E (aa FY) 1 149 [.or x] []=some (rdS (cT x)):=by
 rw [RY]
 refine ct hx ?_
 unfold cT
 have hl:=(aR hx).2
 by_cases he:(aD x).2.2=0
 · rw [if_neg (by simpa using he)]
   refine cf (by simpa using he) ?_
   have hb:=bX (aR hx).1 he
   rw [aA (n:=(x.length:Int) - (aD x).2.1) (by omega) (by omega),eN (by omega) (by omega)]
   by_cases hv:(x.length:Int) - (aD x).2.1<(aD x).1
   · rw [if_pos hv]
     exact ct (decide_eq_true hv) rfl
   · rw [if_neg hv,aA (n:=(aD x).1) (by omega) (by omega),aA (n:=(aD x).2.1+(aD x).1) (by omega) (by omega)]
     refine cf (decide_eq_false hv) (ct (aC (by omega) (by omega)) (ct (aC (by omega) (by omega)) ?_))
     unfold dA
     rw [bp,aN,List.drop_take,show((aD x).2.1+(aD x).1).toNat - (aD x).2.1.toNat=(aD x).1.toNat by omega]
     rfl
 · rw [if_pos he]
   exact ct (by simpa using he) rfl
theorem dM {x:RL}(hx:aI x=true):0≤(cT x).2.1∧(cT x).2.1≤x.length:=by
 unfold cT
 split
 · simp
 · rename_i he
   have hb:=bX (aR hx).1 (by simpa using he)
   split
   · simp
   · simp only
     omega
theorem jd {x:RL}(hx:aI x=true):0≤(fg x).2.1∧(fg x).2.1≤x.length:=by
 unfold fg
 split
 · simp
 · rename_i he
   have hb:=bX (aR hx).1 (by simpa using he)
   simp only
   omega
theorem kj {o n:Int}(h0:0≤o)(h1:0≤n)(h2:o+n≤4611686018427387904):j5 o n=true:=by
 unfold j5
 simp [h0,h1,h2]
theorem QI (n z:Int)(b:RL)(o e:Int)(h:j5 o n=true):aj E (aa G8) 1 146 [.one (.ptr 0 0),.oi n,.oi z] [.var [.r b,.i o,.i e]]=
 some ([],[.var [.r b,.i (o+n),.i z]]):=by
 unfold j5 at h
 simp only [Bool.and_eq_true,decide_eq_true_eq]at h
 rw [Q8,aA (by omega) (by omega)]
theorem AT {α:Type}{z:α}{d:RL→α×Int×Int}(hd:∀y,aI y=true→0≤(d y).2.1∧(d y).2.1≤y.length){b:RL}{o e:Int}(h:aT b o=true):aT b (bx z d b o e).2.1=true:=by
 obtain⟨h1,h2,h3⟩:=cA h
 unfold bx
 split
 · exact h
 · have:=hd _ (au h1 o.toNat)
   rw [List.length_drop]at this
   exact dK h1 (by simp only;omega) (by simp only;omega)
theorem AP {b:RL}{o e:Int}(h:aT b o=true):aT b (aU b o e).2.1=true:=AT (fun _ hy=>dM hy) h
theorem KH {b:RL}{o e:Int}(h:aT b o=true):aT b (ip b o e).2.1=true:=AT (fun _ hy=>jd hy) h
theorem Qj (b:RL)(o e:Int)(h:aT b o=true):aj E (aa H8) 1 135 [.one (.ptr 0 0)] [.var [.r b,.i o,.i e]]=
 some ([.oi (af b o e).1],[.var [.r b,.i (af b o e).2.1,.i (af b o e).2.2]]):=by
 obtain⟨h1,h2,h3⟩:=cA h
 have h4:=au h1 o.toNat
 rw [Sl]
 unfold af
 by_cases he:e=0
 · subst he
   rw [if_neg (by simp)]
   refine cf (by simp) (ct (aC h2 (by omega)) ?_)
   rw [aN]
   refine ct h4 ?_
   have hl:=(aR h1).2
   by_cases hd:(aD (b.drop o.toNat)).2.2=0
   · refine ct (by simpa using hd) ?_
     have hb:=bX (aR h4).1 hd
     rw [List.length_drop]at hb
     by_cases hbig:2147483647<(aD (b.drop o.toNat)).1
     · refine ct (decide_eq_true hbig) (ct (kj h2 (by omega) (by omega)) ?_)
       have e:am (b.drop o.toNat)=(0,0,9):=by
        unfold am
        rw [if_neg (by simpa using hd),if_pos hbig]
       rw [e,Int.add_zero]
       rfl
     · refine cf (decide_eq_false hbig) (ct (kj h2 (by omega) (by omega)) ?_)
       have e:am (b.drop o.toNat)=aD (b.drop o.toNat):=by
        unfold am
        rw [if_neg (by simpa using hd),if_neg hbig]
       rw [e,if_neg (by simpa using hd),aA (by omega) (by omega),hd]
   · have hz:(aD (b.drop o.toNat)).1=0∧(aD (b.drop o.toNat)).2.1=0:=tS 10 0 0 _ hd
     refine cf (by simpa using hd) (ct (kj h2 (by omega) (by omega)) ?_)
     have e:am (b.drop o.toNat)=(0,0,(aD (b.drop o.toNat)).2.2):=by
      unfold am
      rw [if_pos hd]
     rw [e,if_pos (by simpa using hd),hz.1,hz.2,Int.add_zero]
     rfl
 · rw [if_pos he]
   exact ct (by simpa using he) rfl
theorem S9 (b:RL)(o e:Int)(h:aT b o=true):aj E (aa Hs) 1 147 [.one (.ptr 0 0)] [.var [.r b,.i o,.i e]]=
 some ([.one (.str (aU b o e).1)],[.var [.r b,.i (aU b o e).2.1,.i (aU b o e).2.2]]):=by
 obtain⟨h1,h2,h3⟩:=cA h
 have h4:=au h1 o.toNat
 rw [Td,aN]
 unfold aU bx
 by_cases he:e=0
 · subst he
   rw [if_neg (by simp)]
   have:=dM h4
   rw [List.length_drop]at this
   have hl:=(aR h1).2
   exact cf (by simp) (ct (aC h2 (by omega)) (ct h4 (ct (kj h2 (by omega) (by omega)) rfl)))
 · rw [if_pos he]
   exact ct (by simpa using he) rfl
theorem Sd (b:RL)(o e:Int)(h:aT b o=true):aj E (aa Jn) 1 148 [.one (.ptr 0 0)] [.var [.r b,.i o,.i e]]=
 some ([.oi (ip b o e).1],[.var [.r b,.i (ip b o e).2.1,.i (ip b o e).2.2]]):=by
 obtain⟨h1,h2,h3⟩:=cA h
 have h4:=au h1 o.toNat
 rw [Tb,aN]
 unfold ip bx
 by_cases he:e=0
 · subst he
   rw [if_neg (by simp)]
   have:=jd h4
   rw [List.length_drop]at this
   have hl:=(aR h1).2
   exact cf (by simp) (ct (aC h2 (by omega)) (ct h4 (ct (kj h2 (by omega) (by omega)) rfl)))
 · rw [if_pos he]
   exact ct (by simpa using he) rfl
theorem Th (b:RL)(o e:Int)(h:aT b o=true):aj E (aa Hm) 1 136 [.one (.ptr 0 0)] [.var [.r b,.i o,.i e]]=
 some ([.agg [.i (gD b o e).1.1,.str (gD b o e).1.2.1,.str (gD b o e).1.2.2.1,.i (gD b o e).1.2.2.2.1,.str (gD b o e).1.2.2.2.2]],[.var [.r b,.i (gD b o e).2.1,.i (gD b o e).2.2]]):=by
 rw [Tp]
 have a1:=fF (e:=e) h
 have a2:=AP (e:=(af b o e).2.2) a1
 have a3:=AP (e:=(aU b (af b o e).2.1 (af b o e).2.2).2.2) a2
 exact ct h (ct a1 (ct a2 (ct a3 (ct (KH a3) rfl))))
theorem kV (a n b m:Int):(ir a n b m= -1∧(a<b∨(a=b∧n<m)))∨(ir a n b m=0∧a=b∧n=m)∨(ir a n b m=1∧(b<a∨(a=b∧m<n))):=by
 unfold ir
 (repeat' split)<;>omega
theorem qE :∀c:RL,lL c c=true
 | []=>rfl
 | r::c=>by
  have:qp r r=true:=by simp [qp]
  rw [lL]
  show(qp r r&&lL c c)=true
  rw [this,qE c]
  rfl
theorem H6 (a n t:Int)(c:RL):eqU a n t c a n t c=true:=by
 simp [eqU,C3,qE]
theorem xu {x:RL}(hx:aI x=true):0≤(am x).2.1∧(am x).2.1≤x.length:=by
 by_cases h:(am x).2.2=0
 · have:=cr (aR hx).1 h
   omega
 · unfold am at h⊢
   split
   · simp
   · split
     · simp
     · rename_i h1 h2
       rw [if_neg h1,if_neg h2]at h
       exact absurd h h1
theorem pe {α:Type}{z:α}{d:RL→α×Int×Int}{b:RL}{o:Int}(h:(d (b.drop o.toNat)).2.2=0):bx z d b o 0=((d (b.drop o.toNat)).1,o+(d (b.drop o.toNat)).2.1,0):=by
 unfold bx
 rw [if_neg (by simp),h]
theorem r8 {α:Type}{z:α}{d:RL→α×Int×Int}{b:RL}{o e:Int}(h:e≠0):bx z d b o e=(z,o,e):=by
 unfold bx
 rw [if_pos h]
theorem mU {α:Type}{z:α}{d:RL→α×Int×Int}{b:RL}{o:Int}:(bx z d b o 0).2.2=(d (b.drop o.toNat)).2.2:=by
 unfold bx
 rw [if_neg (by simp)]
theorem E9 {b:RL}{o:Int}(h:aT b o=true):
 (cZ (b.drop o.toNat)).2.2=(gD b o 0).2.2∧((cZ (b.drop o.toNat)).2.2=0→gD b o 0=((cZ (b.drop o.toNat)).1,o+(cZ (b.drop o.toNat)).2.1,0)):=by
 obtain⟨hb,h0,h1⟩:=cA h
 have hy:=au hb o.toNat
 have hd:∀n:Int,0≤n→(b.drop o.toNat).drop n.toNat=b.drop (o+n).toNat:=by
  intro n hn
  rw [List.drop_drop]
  congr 1
  omega
 generalize b.drop o.toNat=y at hy hd
 have hr1:af b o 0=if(am y).2.2≠0 then(0,o,(am y).2.2)else((am y).1,o+(am y).2.1,0):=by
  have:=hd 0 (by omega)
  simp only [Int.toNat_zero,List.drop_zero,Int.add_zero]at this
  unfold af
  rw [if_neg (by simp),←this]
 have n1:=xu hy
 unfold cZ gD
 simp only
 generalize am y=q1 at*
 have n2:=dM (au hy q1.2.1.toNat)
 rw [List.length_drop]at n2
 have d1:=hd q1.2.1 n1.1
 by_cases e1:q1.2.2=0
 rotate_left
 · have r1:af b o 0=(0,o,q1.2.2):=by rw [hr1,if_pos e1]
   rw [if_pos e1,r1]
   unfold aU ip
   simp only [r8 e1]
   exact⟨by trivial,fun h=>absurd h e1⟩
 have r1:af b o 0=(q1.1,o+q1.2.1,0):=by rw [hr1,if_neg (by simpa using e1)]
 rw [if_neg (by simpa using e1),r1]
 simp only
 by_cases e2:(cT (y.drop q1.2.1.toNat)).2.2=0
 rotate_left
 · rw [if_pos e2]
   have r2:(aU b (o+q1.2.1) 0).2.2=(cT (y.drop q1.2.1.toNat)).2.2:=by
    unfold aU
    rw [mU,d1]
   have r2':(aU b (o+q1.2.1) 0).2.2≠0:=by rw [r2];exact e2
   generalize aU b (o+q1.2.1) 0=p2 at*
   unfold aU ip
   simp only [r8 r2']
   exact⟨r2.symm,fun h=>absurd h e2⟩
 rw [if_neg (by simpa using e2)]
 have r2:aU b (o+q1.2.1) 0=((cT (y.drop q1.2.1.toNat)).1,o+q1.2.1+(cT (y.drop q1.2.1.toNat)).2.1,0):=by
  unfold aU
  rw [pe (by rw [←d1];exact e2),d1]
 rw [r2]
 simp only
 generalize cT (y.drop q1.2.1.toNat)=q2 at*
 have n3:=dM (au hy (q1.2.1+q2.2.1).toNat)
 rw [List.length_drop]at n3
 have d2:=hd (q1.2.1+q2.2.1) (by omega)
 rw [←Int.add_assoc]at d2
 by_cases e3:(cT (y.drop (q1.2.1+q2.2.1).toNat)).2.2=0
 rotate_left
 · rw [if_pos e3]
   have r3:(aU b (o+q1.2.1+q2.2.1) 0).2.2=(cT (y.drop (q1.2.1+q2.2.1).toNat)).2.2:=by
    unfold aU
    rw [mU,d2]
   have r3':(aU b (o+q1.2.1+q2.2.1) 0).2.2≠0:=by rw [r3];exact e3
   generalize aU b (o+q1.2.1+q2.2.1) 0=p3 at*
   unfold aU ip
   simp only [r8 r3']
   exact⟨r3.symm,fun h=>absurd h e3⟩
 rw [if_neg (by simpa using e3)]
 have r3:aU b (o+q1.2.1+q2.2.1) 0=((cT (y.drop (q1.2.1+q2.2.1).toNat)).1,o+q1.2.1+q2.2.1+(cT (y.drop (q1.2.1+q2.2.1).toNat)).2.1,0):=by
  unfold aU
  rw [pe (by rw [←d2];exact e3),d2]
 rw [r3]
 simp only
 generalize cT (y.drop (q1.2.1+q2.2.1).toNat)=q3 at*
 have n4:=jd (au hy (q1.2.1+q2.2.1+q3.2.1).toNat)
 rw [List.length_drop]at n4
 have d3:=hd (q1.2.1+q2.2.1+q3.2.1) (by omega)
 rw [←Int.add_assoc,←Int.add_assoc]at d3
 by_cases e4:(fg (y.drop (q1.2.1+q2.2.1+q3.2.1).toNat)).2.2=0
 rotate_left
 · rw [if_pos e4]
   have r4:(ip b (o+q1.2.1+q2.2.1+q3.2.1) 0).2.2=(fg (y.drop (q1.2.1+q2.2.1+q3.2.1).toNat)).2.2:=by
    unfold ip
    rw [mU,d3]
   have r4':(ip b (o+q1.2.1+q2.2.1+q3.2.1) 0).2.2≠0:=by rw [r4];exact e4
   generalize ip b (o+q1.2.1+q2.2.1+q3.2.1) 0=p4 at*
   unfold aU
   simp only [r8 r4']
   exact⟨r4.symm,fun h=>absurd h e4⟩
 rw [if_neg (by simpa using e4)]
 have r4:ip b (o+q1.2.1+q2.2.1+q3.2.1) 0=((fg (y.drop (q1.2.1+q2.2.1+q3.2.1).toNat)).1,o+q1.2.1+q2.2.1+q3.2.1+(fg (y.drop (q1.2.1+q2.2.1+q3.2.1).toNat)).2.1,0):=by
  unfold ip
  rw [pe (by rw [←d3];exact e4),d3]
 rw [r4]
 simp only
 generalize fg (y.drop (q1.2.1+q2.2.1+q3.2.1).toNat)=q4 at*
 have d4:=hd (q1.2.1+q2.2.1+q3.2.1+q4.2.1) (by omega)
 rw [←Int.add_assoc,←Int.add_assoc,←Int.add_assoc]at d4
 by_cases e5:(cT (y.drop (q1.2.1+q2.2.1+q3.2.1+q4.2.1).toNat)).2.2=0
 rotate_left
 · rw [if_pos e5]
   have r5:(aU b (o+q1.2.1+q2.2.1+q3.2.1+q4.2.1) 0).2.2=(cT (y.drop (q1.2.1+q2.2.1+q3.2.1+q4.2.1).toNat)).2.2:=by
    unfold aU
    rw [mU,d4]
   exact⟨r5.symm,fun h=>absurd h e5⟩
 rw [if_neg (by simpa using e5)]
 have r5:aU b (o+q1.2.1+q2.2.1+q3.2.1+q4.2.1) 0=((cT (y.drop (q1.2.1+q2.2.1+q3.2.1+q4.2.1).toNat)).1,o+q1.2.1+q2.2.1+q3.2.1+q4.2.1+(cT (y.drop (q1.2.1+q2.2.1+q3.2.1+q4.2.1).toNat)).2.1,0):=by
  unfold aU
  rw [pe (by rw [←d4];exact e5),d4]
 rw [r5]
 refine⟨rfl,fun _=> ?_⟩
 simp only [Prod.mk.injEq,true_and,and_true]
 omega
theorem nU {x:RL}(hx:aI x=true):0≤(cZ x).2.1∧(cZ x).2.1≤x.length∧((cZ x).2.2=0→0<(cZ x).2.1):=by
 have n1:=xu hx
 have hp:(am x).2.2=0→0<(am x).2.1:=fun h=>(cr (aR hx).1 h).1
 unfold cZ
 simp only
 generalize am x=q1 at*
 have n2:=dM (au hx q1.2.1.toNat)
 rw [List.length_drop]at n2
 generalize cT (x.drop q1.2.1.toNat)=q2 at*
 have n3:=dM (au hx (q1.2.1+q2.2.1).toNat)
 rw [List.length_drop]at n3
 generalize cT (x.drop (q1.2.1+q2.2.1).toNat)=q3 at*
 have n4:=jd (au hx (q1.2.1+q2.2.1+q3.2.1).toNat)
 rw [List.length_drop]at n4
 generalize fg (x.drop (q1.2.1+q2.2.1+q3.2.1).toNat)=q4 at*
 have n5:=dM (au hx (q1.2.1+q2.2.1+q3.2.1+q4.2.1).toNat)
 rw [List.length_drop]at n5
 generalize cT (x.drop (q1.2.1+q2.2.1+q3.2.1+q4.2.1).toNat)=q5 at*
 split
 · rename_i h;simp only;refine⟨by omega,by omega,fun h2=>absurd h2 h⟩
 · rename_i h1
   have:=hp (by simpa using h1)
   split
   · rename_i h;simp only;exact⟨by omega,by omega,fun h2=>absurd h2 h⟩
   · split
     · rename_i h;simp only;exact⟨by omega,by omega,fun h2=>absurd h2 h⟩
     · split
       · rename_i h;simp only;exact⟨by omega,by omega,fun h2=>absurd h2 h⟩
       · split
         · rename_i h;simp only;exact⟨by omega,by omega,fun h2=>absurd h2 h⟩
         · simp only;exact⟨by omega,by omega,fun _=>by omega⟩
def rdE (r:(Int×List UInt8×List UInt8×Int×List UInt8)×Int×Int):List AV×List Block:=
 ([.agg [.int .i64 r.1.1,.str r.1.2.1,.str r.1.2.2.1,.int .i64 r.1.2.2.2.1,.str r.1.2.2.2.2],.one (.int .i64 r.2.1),.one (.int .i64 r.2.2)],[])
theorem Tt (x:RL)(hx:aI x=true):aj E (aa H1) 1 137 [.or x] []=some (rdE (cZ x)):=by
 have n1:=xu hx
 have hl:=(aR hx).2
 rw [S7]
 simp only [aN]
 unfold cZ
 simp only
 generalize am x=q1 at*
 have o2:=au hx q1.2.1.toNat
 have n2:=dM o2
 rw [List.length_drop]at n2
 generalize cT (x.drop q1.2.1.toNat)=q2 at*
 rw [aA (n:=q1.2.1+q2.2.1) (by omega) (by omega)]
 have o3:=au hx (q1.2.1+q2.2.1).toNat
 have n3:=dM o3
 rw [List.length_drop]at n3
 generalize cT (x.drop (q1.2.1+q2.2.1).toNat)=q3 at*
 rw [aA (n:=q1.2.1+q2.2.1+q3.2.1) (by omega) (by omega)]
 have o4:=au hx (q1.2.1+q2.2.1+q3.2.1).toNat
 have n4:=jd o4
 rw [List.length_drop]at n4
 generalize fg (x.drop (q1.2.1+q2.2.1+q3.2.1).toNat)=q4 at*
 rw [aA (n:=q1.2.1+q2.2.1+q3.2.1+q4.2.1) (by omega) (by omega)]
 have o5:=au hx (q1.2.1+q2.2.1+q3.2.1+q4.2.1).toNat
 have n5:=dM o5
 rw [List.length_drop]at n5
 generalize cT (x.drop (q1.2.1+q2.2.1+q3.2.1+q4.2.1).toNat)=q5 at*
 rw [aA (n:=q1.2.1+q2.2.1+q3.2.1+q4.2.1+q5.2.1) (by omega) (by omega)]
 refine ct hx ?_
 by_cases z1:q1.2.2=0
 rotate_left
 · rw [if_pos z1];exact ct (by simpa using z1) rfl
 rw [if_neg (by simpa using z1)]
 refine cf (by simpa using z1) (ct (aC (by omega) (by omega)) (ct o2 ?_))
 by_cases z2:q2.2.2=0
 rotate_left
 · rw [if_pos z2];exact ct (by simpa using z2) rfl
 rw [if_neg (by simpa using z2)]
 refine cf (by simpa using z2) (ct (aC (by omega) (by omega)) (ct o3 ?_))
 by_cases z3:q3.2.2=0
 rotate_left
 · rw [if_pos z3];exact ct (by simpa using z3) rfl
 rw [if_neg (by simpa using z3)]
 refine cf (by simpa using z3) (ct (aC (by omega) (by omega)) (ct o4 ?_))
 by_cases z4:q4.2.2=0
 rotate_left
 · rw [if_pos z4];exact ct (by simpa using z4) rfl
 rw [if_neg (by simpa using z4)]
 refine cf (by simpa using z4) (ct (aC (by omega) (by omega)) (ct o5 ?_))
 by_cases z5:q5.2.2=0
 rotate_left
 · rw [if_pos z5];exact ct (by simpa using z5) rfl
 rw [if_neg (by simpa using z5)]
 exact cf (by simpa using z5) rfl
theorem l5 (x:RL)(hx:aI x=true):∀(k:Nat) (a:Int) (acc:RL),0≤a→a≤x.length→(fv x k a acc).2.2=0→
 a≤(fv x k a acc).2.1∧(fv x k a acc).2.1≤x.length∧(fv x k a acc).1.length=acc.length+k
 | 0,a,acc,ha,hl,_=>⟨Int.le_refl _,hl,rfl⟩
 | k+1,a,acc,ha,hl,h=>by
  simp only [fv]at h⊢
  have hb:=nU (au hx a.toNat)
  rw [List.length_drop]at hb
  by_cases he:(cZ (x.drop a.toNat)).2.2=0
  · rw [if_neg (by simpa using he)]at h⊢
    have:=l5 x hx k _ (acc++ [jl (cZ (x.drop a.toNat)).1]) (by omega) (by omega) h
    simp only [List.length_append,List.length_cons,List.length_nil]at this
    exact⟨by omega,this.2.1,by omega⟩
  · rw [if_pos he]at h
    exact absurd h he
def dpU (r:Int×Int×Int×RL×Int×Int):List AV×List Block:=
 ([.agg [.int .i64 r.1,.int .i64 r.2.1,.int .i64 r.2.2.1,.sl true 136 r.2.2.2.1],.one (.int .i64 r.2.2.2.2.1),.one (.int .i64 r.2.2.2.2.2)],[])
theorem CH (m:Nat)(t7 t8:Int)(x:RL)(o e c q t:Int)(l:RL)(he:e≠0):
 goF E (aa qe) F118 0 (m+1) mf (mb t7 t8 0 0 0 [] x o e c q t l)=some (dpU (0,0,0,[],0,e)):=by
 rw [xS]
 have h1:(e==0)=false:=by simpa using he
 have h2:(e !=0)=true:=by simpa using he
 rw [h1,h2]
 cases (decide (t8<t7))<;>rfl
theorem NQ (m:Nat)(t7 t8:Int)(x:RL)(o c q t:Int)(l:RL)(h:¬t8<t7):
 goF E (aa qe) F118 0 (m+1) mf (mb t7 t8 0 0 0 [] x o 0 c q t l)=some (dpU (rL c q t (l,o,0))):=by
 rw [xS]
 refine cf (decide_eq_false h) (ct rfl ?_)
 unfold rL
 rw [if_neg (by simp)]
 by_cases hv:eb c q t l=0
 · rw [if_neg (by simpa using hv)]
   exact cf (by simpa using hv) rfl
 · rw [if_pos hv]
   exact ct (by simpa using hv) rfl
theorem Rp (x:RL)(hx:aI x=true)(k c q t:Int)(hk:k≤4):∀(d i:Nat) (o:Int) (acc:RL),i+d=k.toNat→0≤o→o≤x.length→acc.length=i→
 ∃m,goF E (aa qe) F118 0 m mf (mb k i 0 0 0 [] x o 0 c q t acc)=some (dpU (rL c q t (fv x d o acc))):=by
 intro d
 induction d with
 | zero=>
  intro i o acc hi h0 h1 ha
  exact⟨1,by rw [NQ 0 _ _ _ _ _ _ _ _ (by omega)];rfl⟩
 | succ d ih=>
  intro i o acc hi h0 h1 ha
  have hat:=dK hx h0 h1
  obtain⟨c1,c2⟩:=E9 hat
  have hb:=nU (au hx o.toNat)
  rw [List.length_drop]at hb
  by_cases he:(cZ (x.drop o.toNat)).2.2=0
  · have c3:=c2 he
    obtain⟨m,hm⟩:=ih (i+1) (o+(cZ (x.drop o.toNat)).2.1) (acc++ [jl (cZ (x.drop o.toNat)).1]) (by omega) (by omega) (by omega) (by simp;omega)
    refine⟨m+1, ?_⟩
    rw [xS]
    refine ct (decide_eq_true (by omega)) (ct rfl (ct hat (ct (bh (by simp;omega)) ?_)))
    rw [aF (n:=4) (by omega) (by omega),c3]
    simp only [fv,if_neg (show¬(cZ (x.drop o.toNat)).2.2≠0 by simpa using he)]
    exact hm
  · refine⟨2, ?_⟩
    rw [xS]
    refine ct (decide_eq_true (by omega)) (ct rfl (ct hat (ct (bh (by simp;omega)) ?_)))
    rw [CH 0 _ _ _ _ _ _ _ _ _ (by rw [←c1];exact he),←c1]
    simp only [fv,if_pos he,rL]
theorem SK (x:RL)(hx:aI x=true):∃m,aj E (aa qe) m 118 [.or x] []=some (dpU (bY x)):=by
 have hc:=nP hx (o:=0) (by omega) (by omega) 4
 have a1:=dK hx (o:=0) (by omega) (by omega)
 have a2:=fF (e:=0) a1
 have a3:=fF (e:=(af x 0 0).2.2) a2
 simp only [show(4:Int).toNat=4 from rfl,show(0:Int).toNat=0 from rfl,List.drop_zero,je]at hc
 unfold bY
 generalize hp1:af x 0 0=p1 at*
 generalize hp2:af x p1.2.1 p1.2.2=p2 at*
 have a4:=fF (e:=p2.2.2) a3
 generalize hp3:af x p2.2.1 p2.2.2=p3 at*
 generalize hp4:af x p3.2.1 p3.2.2=p4 at*
 obtain⟨c1,c2⟩:=hc
 by_cases he:(ai x 4).2.2=0
 · obtain⟨c3,c4⟩:=c2 he
   have hb:=bV hx he
   have q0:nr (rA (ai x 4).1 0) 0=p1.1:=by rw [c4];rfl
   have q1:nr (rA (ai x 4).1 1) 0=p2.1:=by rw [c4];rfl
   have q2:nr (rA (ai x 4).1 2) 0=p3.1:=by rw [c4];rfl
   have q3:nr (rA (ai x 4).1 3) 0=p4.1:=by rw [c4];rfl
   rw [if_neg (by simpa using he),q0,q1,q2,q3]
   have hz:p4.2.2=0:=by rw [←c1];exact he
   by_cases h6:4<p4.1
   · refine⟨2, ?_⟩
     rw [Ov,hp1,hp2,hp3,hp4,if_pos h6]
     refine ct a1 (ct a2 (ct a3 (ct a4 (ct (by simpa using hz) (ct (decide_eq_true h6) ?_)))))
     exact CH 0 _ _ _ _ _ _ _ _ _ (by decide)
   · obtain⟨m,hm⟩:=Rp x hx p4.1 p1.1 p2.1 p3.1 (by omega) p4.1.toNat 0 (ai x 4).2.1 [] (by omega) hb.1 hb.2.1 rfl
     refine⟨m+1, ?_⟩
     rw [Ov,hp1,hp2,hp3,hp4,if_neg h6]
     refine ct a1 (ct a2 (ct a3 (ct a4 (ct (by simpa using hz) (cf (decide_eq_false h6) ?_)))))
     rw [c3,hz,Int.zero_add]
     exact hm
 · refine⟨2, ?_⟩
   rw [Ov,hp1,hp2,hp3,hp4,if_pos he,c1]
   have hz:p4.2.2≠0:=by rw [←c1];exact he
   refine ct a1 (ct a2 (ct a3 (ct a4 (cf (by simpa using hz) ?_))))
   exact CH 0 _ _ _ _ _ _ _ _ _ hz
theorem S8 (x:RL)(hx:aI x=true)(h:RL)(k c q t:Int)(ht:h.length=4)(htk:nr (rA h 3) 0=k)(hk:k≤4):∀(d i:Nat) (o:Int) (acc:RL),i+d=k.toNat→0≤o→o≤x.length→acc.length=i→
 ∃m,goF E (aa xl) F120 0 m xJ (xH x h o i 0 0 0 [] c q t acc)=some (dpU (rL c q t (fv x d o acc))):=by
 intro d
 induction d with
 | zero=>
  intro i o acc hi h0 h1 ha
  refine⟨1, ?_⟩
  rw [B8,htk]
  refine ct (aC (by omega) (by omega)) (cf (decide_eq_false (by omega)) ?_)
  unfold rL fv
  rw [if_neg (by simp)]
  by_cases hv:eb c q t acc=0
  · rw [if_neg (by simpa using hv)]
    exact cf (by simpa using hv) rfl
  · rw [if_pos hv]
    exact ct (by simpa using hv) rfl
 | succ d ih=>
  intro i o acc hi h0 h1 ha
  have h4:=au hx o.toNat
  have hb:=nU h4
  rw [List.length_drop]at hb
  have hl:=(aR hx).2
  by_cases he:(cZ (x.drop o.toNat)).2.2=0
  · obtain⟨m,hm⟩:=ih (i+1) (o+(cZ (x.drop o.toNat)).2.1) (acc++ [jl (cZ (x.drop o.toNat)).1]) (by omega) (by omega) (by omega) (by simp;omega)
    refine⟨m+1, ?_⟩
    rw [B8,htk,aN]
    refine ct (aC (by omega) (by omega)) (ct (decide_eq_true (by omega)) (ct (aC h0 (by omega)) (ct h4 (cf (by simpa using he) (ct (bh (by simp;omega)) ?_)))))
    rw [aF (n:=4) (by omega) (by omega),aA (by omega) (by omega)]
    simp only [fv,if_neg (show¬(cZ (x.drop o.toNat)).2.2≠0 by simpa using he)]
    exact hm
  · refine⟨1, ?_⟩
    rw [B8,htk,aN]
    refine ct (aC (by omega) (by omega)) (ct (decide_eq_true (by omega)) (ct (aC h0 (by omega)) (ct h4 (ct (by simpa using he) ?_))))
    simp only [fv,if_pos he,rL]
    rfl
theorem SG (x:RL)(hx:aI x=true):∃m,aj E (aa xl) m 120 [.or x] []=some (dpU (bY x)):=by
 unfold bY
 by_cases he:(ai x 4).2.2=0
 · have hb:=bV hx he
   have h3:(ai x 4).1.length=4:=hb.2.2.1
   rw [if_neg (by simpa using he)]
   by_cases h6:4<nr (rA (ai x 4).1 3) 0
   · refine⟨1, ?_⟩
     rw [Nr,if_pos h6]
     exact ct (by simp [hx]) (cf (by simpa using he) (ct (aC (by omega) (by omega)) (ct (decide_eq_true h6) rfl)))
   · obtain⟨m,hm⟩:=S8 x hx (ai x 4).1 _ (nr (rA (ai x 4).1 0) 0) (nr (rA (ai x 4).1 1) 0) (nr (rA (ai x 4).1 2) 0) h3 rfl (by omega) _ 0 (ai x 4).2.1 [] (Nat.zero_add _) hb.1 hb.2.1 rfl
     refine⟨m+1, ?_⟩
     rw [Nr,if_neg h6]
     exact ct (by simp [hx]) (cf (by simpa using he) (ct (aC (by omega) (by omega)) (cf (decide_eq_false h6) (ct (aC (by omega) (by omega)) (ct (aC (by omega) (by omega)) (ct (aC (by omega) (by omega)) hm))))))
 · refine⟨1, ?_⟩
   rw [Nr,if_pos he]
   exact ct (by simp [hx]) (ct (by simpa using he) rfl)
def lp (r:List Cell):List Cell:=[.int .i64 (nr r 0),.str (ns r 1),.str (ns r 2),.int .i64 (nr r 3),.str (ns r 4)]
theorem GB (r:List Cell):fW (lp r)=fW r:=rfl
theorem zB :∀(l:RL),fX (l.map lp)=fX l
 | []=>rfl
 | r::l=>by rw [List.map_cons,fX,fX,GB,zB l]
theorem Ks (l:RL):fI (l.map lp)=fI l:=by
 unfold fI
 rw [List.all_map]
 rfl
theorem LC (c q t:Int)(l:RL):eb c q t (l.map lp)=eb c q t l:=by
 unfold eb
 rw [List.length_map,zB,Ks]
def sJ (r:List Cell):Prop:=fW r=0∧okI (nr r 3)=true
theorem lF {r:List Cell}(h:sJ r):1≤nr r 0∧nr r 0≤5∧(ns r 1).length≤16∧(ns r 2).length≤16∧(ns r 4).length≤32:=by
 have:=kK (nr r 0) (ns r 1) (ns r 2) (nr r 3) (ns r 4)
 have h1:jV (nr r 0) (ns r 1) (ns r 2) (nr r 3) (ns r 4)=0:=h.1
 omega
theorem zu {r:List Cell}(h:sJ r):fm r=true:=by
 have:=lF h
 unfold fm
 simp only [Bool.and_eq_true,decide_eq_true_eq]
 exact⟨by omega,by omega,by omega,h.2⟩
theorem wO :∀{l:RL},fX l=0→∀r∈l,fW r=0
 | [],_,r,hr=>by cases hr
 | q::l,h,r,hr=>by
  rw [fX]at h
  by_cases h0:fW q=0
  · rw [if_neg (by simpa using h0)]at h
    rcases List.mem_cons.1 hr with rfl | hr
    · exact h0
    · exact wO h r hr
  · rw [if_pos h0]at h
    exact absurd h h0
theorem fc {c q t:Int}{l:RL}(h:eb c q t l=0):101≤c∧c<107∧1≤q∧q≤8∧0≤t∧t≤1000∧1≤l.length∧l.length≤4∧fX l=0:=by
 unfold eb at h
 split at h
 · simp at h
 · split at h
   · simp at h
   · split at h
     · simp at h
     · split at h
       · rename_i h1;exact absurd h h1
       · omega
theorem jK (A B:RL)(n:Int)(h:n=A.length):(A++B).drop n.toNat=B:=by
 subst h
 rw [Int.toNat_natCast,List.drop_left]
theorem AW {r:List Cell}(h:sJ r)(rest:RL):cZ (cC r++rest)=((nr r 0,ns r 1,ns r 2,nr r 3,ns r 4),((cC r).length:Int),0):=by
 obtain⟨h0,h1,h2,h3,h4⟩:=lF h
 have hx:cC r++rest=bc (IntKind.wrap .u64 (nr r 0))++(cz (ns r 1)++(cz (ns r 2)++(bc (zig (nr r 3))++(cz (ns r 4)++rest)))):=by
  unfold cC
  simp only [List.append_assoc]
 have hlen:(cC r).length=(bc (IntKind.wrap .u64 (nr r 0))).length+(cz (ns r 1)).length+(cz (ns r 2)).length+(bc (zig (nr r 3))).length+(cz (ns r 4)).length:=by
  unfold cC
  simp only [List.length_append]
  omega
 rw [hx,hlen]
 have p1:=kx (v:=nr r 0) (by omega) (by omega) (cz (ns r 1)++(cz (ns r 2)++(bc (zig (nr r 3))++(cz (ns r 4)++rest))))
 have p2:=ku (s:=ns r 1) (by omega) (cz (ns r 2)++(bc (zig (nr r 3))++(cz (ns r 4)++rest)))
 have p3:=ku (s:=ns r 2) (by omega) (bc (zig (nr r 3))++(cz (ns r 4)++rest))
 have p4:=zF (v:=nr r 3) h.2 (cz (ns r 4)++rest)
 have p5:=ku (s:=ns r 4) (by omega) rest
 generalize bc (IntKind.wrap .u64 (nr r 0))=A at*
 generalize cz (ns r 1)=B at*
 generalize cz (ns r 2)=C at*
 generalize bc (zig (nr r 3))=D at*
 generalize cz (ns r 4)=F at*
 unfold cZ
 simp only
 rw [p1]
 simp only
 rw [jK A _ _ rfl,p2]
 simp only
 rw [show A++(B++(C++(D++(F++rest))))=(A++B)++(C++(D++(F++rest)))by simp only [List.append_assoc],jK (A++B) _ _ (by simp only [List.length_append];omega),p3]
 simp only
 rw [show(A++B)++(C++(D++(F++rest)))=(A++B++C)++(D++(F++rest))by simp only [List.append_assoc],jK (A++B++C) _ _ (by simp only [List.length_append];omega),p4]
 simp only
 rw [show(A++B++C)++(D++(F++rest))=(A++B++C++D)++(F++rest)by simp only [List.append_assoc],jK (A++B++C++D) _ _ (by simp only [List.length_append];omega),p5]
 simp only
 rw [if_neg (by simp),if_neg (by simp),if_neg (by simp),if_neg (by simp),if_neg (by simp)]
 simp
theorem xd (rest:RL):∀(l pre acc:RL),(∀r∈l,sJ r)→
 fv (pre++(bu l++rest)) l.length pre.length acc=(acc++l.map lp,((pre.length+(bu l).length:Nat):Int),0)
 | [],pre,acc,_=>by simp [fv,bu]
 | r::l,pre,acc,h=>by
  have ih:=xd rest l (pre++cC r) (acc++ [lp r]) (fun q hq=>h q (List.mem_cons_of_mem _ hq))
  have e:(pre++(bu (r::l)++rest)).drop ((pre.length:Nat):Int).toNat=cC r++(bu l++rest):=by
   rw [Int.toNat_natCast,List.drop_left,bu,List.append_assoc]
  rw [List.length_cons,fv,e,AW (h r List.mem_cons_self),if_neg (by simp)]
  simp only
  have e2:pre++(bu (r::l)++rest)=(pre++cC r)++(bu l++rest):=by
   rw [bu];simp only [List.append_assoc]
  rw [e2,←Int.natCast_add,←List.length_append]
  refine ih.trans ?_
  simp only [List.map_cons,List.append_assoc,List.length_append,bu,List.cons_append,List.nil_append]
  congr 3
  omega
theorem ry {c q t:Int}{l:RL}(h:eb c q t l=0):kB (cR c q t l.length):=by
 obtain⟨h1,h2,h3,h4,h5,h6,h7,h8,h9⟩:=fc h
 intro r hr
 simp only [cR,List.mem_cons,List.not_mem_nil,or_false]at hr
 rcases hr with rfl | rfl | rfl | rfl<;>simp only [nr,dV,Cell.toInt]<;>omega
theorem ta {c q t:Int}{l:RL}(h:eb c q t l=0)(hn:l.all (fun e=>okI (nr e 3))=true):∀r∈l,sJ r:=
 fun r hr=>⟨wO (fc h).2.2.2.2.2.2.2.2 r hr,List.all_eq_true.1 hn r hr⟩
theorem yO {c q t:Int}{l:RL}(h:eb c q t l=0)(hn:l.all (fun e=>okI (nr e 3))=true)(rest:RL):
 bY (gE c q t l++rest)=(c,q,t,l.map lp,((gE c q t l).length:Int),0):=by
 obtain⟨h1,h2,h3,h4,h5,h6,h7,h8,h9⟩:=fc h
 have hs:=ry h
 have hg:=ta h hn
 have e:gE c q t l++rest=[]++(aP (cR c q t l.length)++(bu l++rest)):=by
  rw [gE,List.append_assoc,List.nil_append]
 have e3:ai (gE c q t l++rest) 4=((cR c q t l.length).map eL,((aP (cR c q t l.length)).length:Int),0):=by
  have:=gU (bu l++rest) (cR c q t l.length) [] [] hs
  rw [←e]at this
  simpa [ai,cR]using this
 have e4:fv (gE c q t l++rest) l.length ((aP (cR c q t l.length)).length:Int) []=(l.map lp,((gE c q t l).length:Int),0):=by
  have:=xd rest l (aP (cR c q t l.length)) [] hg
  have e5:aP (cR c q t l.length)++(bu l++rest)=gE c q t l++rest:=by
   rw [gE,List.append_assoc]
  rw [e5]at this
  rw [this,gE,List.length_append,List.nil_append]
 unfold bY
 rw [e3,if_neg (by simp)]
 have k0:nr (rA ((cR c q t l.length).map eL) 0) 0=c:=rfl
 have k1:nr (rA ((cR c q t l.length).map eL) 1) 0=q:=rfl
 have k2:nr (rA ((cR c q t l.length).map eL) 2) 0=t:=rfl
 have k3:nr (rA ((cR c q t l.length).map eL) 3) 0=(l.length:Int):=rfl
 simp only [k0,k1,k2,k3,Int.toNat_natCast]
 rw [if_neg (by omega),e4]
 unfold rL
 simp only
 rw [if_neg (by simp),LC,h,if_neg (by simp)]
theorem ra :∀(l:RL),l.all fm=true→(bu l).length≤400*l.length
 | [],_=>by simp [bu]
 | r::l,h=>by
  rw [List.all_cons,Bool.and_eq_true]at h
  have:=(qt h.1 (y:=[]) (by simp)).2.2.2.2
  have:=ra l h.2
  simp only [bu,List.length_append,List.length_cons]
  omega
theorem Cv (r:List Cell):okB (cC r)=true∨¬okI (nr r 3)=true:=by
 by_cases h:okI (nr r 3)=true
 · left
   unfold cC
   exact dG (iV 10 _ (cm _).1) (dG (tF _) (dG (tF _) (dG (iV 10 _ (mI h).1) (tF _))))
 · exact Or.inr h
theorem qG :∀(l:RL),l.all (fun e=>okI (nr e 3))=true→okB (bu l)=true
 | [],_=>rfl
 | r::l,h=>by
  rw [List.all_cons,Bool.and_eq_true]at h
  exact dG ((Cv r).resolve_right (fun hn=>hn h.1)) (qG l h.2)
theorem GV (c q t:Int){l:RL}(h:l.all (fun e=>okI (nr e 3))=true):okB (gE c q t l)=true:=dG (fp _) (qG l h)
theorem Bi (c q t:Int){l:RL}(h:l.all fm=true):(gE c q t l).length≤40+400*l.length:=by
 have:=cG (cR c q t l.length)
 have h4:(cR c q t l.length).length=4:=rfl
 have:=ra l h
 unfold gE
 rw [List.length_append]
 omega
theorem CD {c q t:Int}{l:RL}(h:eb c q t l=0)(hn:l.all (fun e=>okI (nr e 3))=true):l.all fm=true:=
 List.all_eq_true.2 fun r hr=>zu (ta h hn r hr)
theorem GC (x:RL)(hx:aI x=true):(bY x).2.2.2.1.length≤4:=by
 unfold bY
 split
 · simp
 · rename_i h0
   split
   · simp
   · rename_i h6
     unfold rL
     split
     · simp
     · rename_i h1
       split
       · simp
       · have hb:=bV hx (c:=4) (by simpa using h0)
         have:=(l5 x hx _ _ [] hb.1 hb.2.1 (by simpa using h1)).2.2
         simp only [this,List.length_nil]
         omega
theorem QG (n:Int):aj E (aa Jo) 1 121 [.oi n] []=some ([.one (.str (dD n))],[]):=by
 rw [SA]
 have e:aK n 4=n%4:=by unfold aK;rw [if_neg (by omega)]
 rw [e]
 unfold dD
 have h0:=Int.emod_nonneg n (show(4:Int)≠0 by omega)
 have h1:=Int.emod_lt_of_pos n (show(0:Int)<4 by omega)
 generalize n%4=d at*
 have hd:d=0∨d=1∨d=2∨d=3:=by omega
 rcases hd with rfl | rfl | rfl | rfl<;>rfl
theorem k97 (n:Int)(w:Bool):aj E (aa Iy) 1 97 [.oi n,.ob w] []=some ([.agg [.i (eW n w).1,.str (eW n w).2.1,.str (eW n w).2.2.1,.i (eW n w).2.2.2.1,.str (eW n w).2.2.2.2]],[]):=by
 rw [e97]
 have h:=ay n 4 0 (by omega)
 have h1:=ay n 16 3 (by omega)
 rw [aA (n:=ad n 16 3 - 5) (by omega) (by omega)]
 unfold eW
 generalize ad n 4 0=d at*
 have hd:d=0∨d=1∨d=2∨d=3:=by omega
 cases w<;>rcases hd with rfl | rfl | rfl | rfl<;>rfl
theorem l50 (n c q:Int):∀(d i:Nat) (acc:RL),i+d=(ad n 3 9).toNat+1→acc.length=i→
 ∃m,goF E (aa L97) F50 0 m Ez (DW n i 0 0 0 [] c q 0 acc)=some ([.agg [.int .i64 c,.int .i64 q,.int .i64 0,.sl true 136 (nj n d i acc)]],[])
 | 0,i,acc,hi,ha=>by
  have h:=ay n 3 9 (by omega)
  refine⟨1, ?_⟩
  rw [M2]
  exact ct rfl (cf (decide_eq_false (by omega)) rfl)
 | d+1,i,acc,hi,ha=>by
  have h:=ay n 3 9 (by omega)
  obtain⟨m,hm⟩:=l50 n c q d (i+1) (acc++ [jl (eW (n%1099511627776 / (i+1)) false)]) (by omega) (by simp;omega)
  refine⟨m+1, ?_⟩
  have e:aK n 1099511627776=n%1099511627776:=by unfold aK;rw [if_neg (by omega)]
  have h0:=Int.emod_nonneg n (show(1099511627776:Int)≠0 by omega)
  have h1:=Int.emod_lt_of_pos n (show(0:Int)<1099511627776 by omega)
  have h2:n%1099511627776 / (i+1)≤n%1099511627776:=Int.ediv_le_self _ h0
  have h3:0≤n%1099511627776 / (i+1):=Int.ediv_nonneg h0 (by omega)
  rw [M2,e,aA (n:=(i:Int)+1) (by omega) (by omega),Int.tdiv_eq_ediv_of_nonneg h0,aA (n:=n%1099511627776 / (i+1)) (by omega) (by omega)]
  refine ct rfl (ct (decide_eq_true (by omega)) (ct rfl (cf (decide_eq_false (by omega)) (ct (bh (by simp;omega)) ?_))))
  exact hm
theorem k50 (c q n:Int):∃m,aj E (aa L97) m 50 [.oi c,.oi q,.oi n] []=some ([.agg [.i c,.i q,.i (Ah n),.sl true 136 (rp n)]],[]):=by
 have h:=ay n 3 9 (by omega)
 unfold Ah rp
 by_cases h0:ad n 3 8=0
 · refine⟨1, ?_⟩
   rw [e50,if_pos h0,if_pos h0]
   exact ct rfl (ct (by simpa using h0) (ct rfl rfl))
 · obtain⟨m,hm⟩:=l50 n c q ((ad n 3 9).toNat+1) 0 [] (by omega) rfl
   refine⟨m+1, ?_⟩
   rw [e50,if_neg h0,if_neg h0]
   exact ct rfl (cf (by simpa using h0) hm)
theorem O9 (l:RL)(hl:l.length<9223372036854775808)(c:Nat)(hc:c<3)(R:List AV×List Block):∀(d i:Nat) (q:Int) (acc:RL),i+d=min l.length 24→0≤q→q≤i→acc.length≤24*c+i→
 (∃m,goF E (aa L50) F15 0 m ru (qS l (dO l c d i q acc) ((c+1:Nat):Int))=some R)→
 ∃m,goF E (aa L50) F15 0 m xc (wV l acc c q i)=some R
 | 0,i,q,acc,hi,h0,h1,h2,hr=>by
  obtain⟨m,hm⟩:=hr
  refine⟨m+1, ?_⟩
  rw [Jv,aA (n:=(c:Int)+1) (by omega) (by omega)]
  by_cases h:i<l.length
  · exact ct (decide_eq_true (by omega)) (cf (decide_eq_false (by omega)) hm)
  · exact cf (decide_eq_false (by omega)) hm
 | d+1,i,q,acc,hi,h0,h1,h2,hr=>by
  have e:aK (nr (rA l i) 0) 1099511627776=nr (rA l i) 0%1099511627776:=by unfold aK;rw [if_neg (by omega)]
  have g0:=Int.emod_nonneg (nr (rA l i) 0) (show(1099511627776:Int)≠0 by omega)
  have g1:=Int.emod_lt_of_pos (nr (rA l i) 0) (show(0:Int)<1099511627776 by omega)
  unfold dO at hr
  by_cases hg:ad (nr (rA l i) 0) 3 0=c∧q<8
  · rw [if_pos hg]at hr
    obtain⟨m,hm⟩:=O9 l hl c hc R d (i+1) (q+1) (acc++ [ya (101+c) (q+1) (nr (rA l i) 0%1099511627776 / 3)]) (by omega) (by omega) (by omega) (by simp;omega) hr
    refine⟨m+1, ?_⟩
    rw [Jv,Int.toNat_natCast,e,Int.tdiv_eq_ediv_of_nonneg g0,aA (n:=nr (rA l i) 0%1099511627776 / 3) (by omega) (by omega),aA (n:=(101:Int)+c) (by omega) (by omega),aA (n:=q+1) (by omega) (by omega),aA (n:=(i:Int)+1) (by omega) (by omega)]
    exact ct (decide_eq_true (by omega)) (ct (decide_eq_true (by omega)) (ct (ax (by omega)) (ct rfl (ct (by simpa using hg.1) (ct (decide_eq_true hg.2) (ct (ax (by omega)) (ct rfl (ct (bh (by simp;omega)) hm))))))))
  · rw [if_neg hg]at hr
    obtain⟨m,hm⟩:=O9 l hl c hc R d (i+1) q acc (by omega) (by omega) (by omega) (by omega) hr
    refine⟨m+1, ?_⟩
    rw [Jv,Int.toNat_natCast,aA (n:=(i:Int)+1) (by omega) (by omega)]
    refine ct (decide_eq_true (by omega)) (ct (decide_eq_true (by omega)) (ct (ax (by omega)) (ct rfl ?_)))
    by_cases hd:ad (nr (rA l i) 0) 3 0=c
    · exact ct (by simpa using hd) (cf (decide_eq_false (fun h=>hg ⟨hd,h⟩)) hm)
    · exact cf (by simpa using hd) hm
theorem fa (l:RL)(c:Nat):∀(d i:Nat) (q:Int) (acc:RL),(dO l c d i q acc).length≤acc.length+d
 | 0,_,_,_=>by simp [dO]
 | d+1,i,q,acc=>by
  unfold dO
  split
  · have:=fa l c d (i+1) (q+1) (acc++ [ya (101+c) (q+1) (nr (rA l i) 0%1099511627776 / 3)])
    simp only [List.length_append,List.length_cons,List.length_nil]at this
    omega
  · have:=fa l c d (i+1) q acc
    omega
theorem k15 (l:RL)(hl:l.length<9223372036854775808):∃m,aj E (aa L50) m 15 [.one (.sl false 3 l)] []=some ([.one (.sl true 96 (jp l))],[]):=by
 have hm:=Nat.min_le_right l.length 24
 have b0:=fa l 0 (min l.length 24) 0 0 []
 have b1:=fa l 1 (min l.length 24) 0 0 (dO l 0 (min l.length 24) 0 0 [])
 have b2:=fa l 2 (min l.length 24) 0 0 (dO l 1 (min l.length 24) 0 0 (dO l 0 (min l.length 24) 0 0 []))
 simp only [List.length_nil]at b0
 have r3:∃m,goF E (aa L50) F15 0 m ru (qS l (jp l) ((3:Nat):Int))=some ([.one (.sl true 96 (jp l))],[]):=
  ⟨1,by rw [Ms];exact cf (by decide) rfl⟩
 have step:∀(c:Nat) (acc:RL),c<3→acc.length≤24*c→(∃m,goF E (aa L50) F15 0 m ru (qS l (dO l c (min l.length 24) 0 0 acc) ((c+1:Nat):Int))=some ([.one (.sl true 96 (jp l))],[]))→
  ∃m,goF E (aa L50) F15 0 m ru (qS l acc c)=some ([.one (.sl true 96 (jp l))],[]):=by
  intro c acc hc ha hr
  obtain⟨m,hm⟩:=O9 l hl c hc _ (min l.length 24) 0 0 acc (by omega) (by omega) (by omega) (by omega) hr
  refine⟨m+1, ?_⟩
  rw [Ms]
  exact ct (decide_eq_true (by omega)) hm
 obtain⟨m,hm⟩:=step 0 [] (by omega) (by simp) (step 1 _ (by omega) (by omega) (step 2 _ (by omega) (by omega) r3))
 exact⟨m+1,by rw [e15];exact hm⟩
theorem pU (n:Int):1≤(dD n).length∧(dD n).length≤2:=by
 unfold dD
 (repeat' split)<;>simp
theorem Fr {k:Int}{o f:List UInt8}{n:Int}{s:List UInt8}(hk:1≤k∧k≤5)(ho:1≤o.length∧o.length≤16)(hf:1≤f.length∧f.length≤16)(hs:s.length≤32)
 (h3:¬(k=3∧(n< -1000000∨1000000<n))) (h4:¬((k=4∨k=5)∧n≠0)) (h5:¬((k=2∨k=3∨k=5)∧s.length≠0)):jV k o f n s=0:=by
 have:=kK k o f n s
 omega
theorem D6 (n:Int)(w:Bool):fW (jl (eW n w))=0∧okI (nr (jl (eW n w)) 3)=true∧(nr (jl (eW n w)) 0=1↔w=true):=by
 have h1:=ay n 16 3 (by omega)
 have a:=pU (ad n 4 1)
 have b:=pU (ad n 4 2)
 have c:=pU (ad n 4 5)
 have hv:∀p,fW (jl p)=jV p.1 p.2.1 p.2.2.1 p.2.2.2.1 p.2.2.2.2:=fun _=>rfl
 have h3:∀p,nr (jl p) 3=p.2.2.2.1:=fun _=>rfl
 have h0:∀p,nr (jl p) 0=p.1:=fun _=>rfl
 rw [hv,h3,h0]
 unfold eW
 cases w
 all_goals simp only [Bool.false_eq_true,if_false,if_true]
 all_goals (repeat' split)
 all_goals (refine⟨?_, ?_,by simp⟩)
 all_goals try dsimp only
 all_goals first
  | (unfold okI;simp only [Bool.and_eq_true,decide_eq_true_eq];omega)
  | exact Fr (by omega) (by omega) (by omega) (by first | omega | simp) (by omega) (by omega) (by first | omega | simp)
def iG (r:List Cell):Prop:=eb (nr r 0) (nr r 1) (nr r 2) (nl r 3)=0∧(nl r 3).all (fun e=>okI (nr e 3))=true
theorem wo {l:RL}(h:∀r∈l,fW r=0):fX l=0:=by
 induction l with
 | nil=>rfl
 | cons r l ih=>
  rw [fX,if_neg (by simpa using h r List.mem_cons_self)]
  exact ih fun q hq=>h q (List.mem_cons_of_mem _ hq)
theorem vW (n:Int):∀(d i:Nat) (acc:RL),(∀r∈acc,fW r=0∧okI (nr r 3)=true∧nr r 0≠1)→
 (∀r∈nj n d i acc,fW r=0∧okI (nr r 3)=true∧nr r 0≠1)∧(nj n d i acc).length=acc.length+d
 | 0,_,_,h=>⟨h,rfl⟩
 | d+1,i,acc,h=>by
  have hg:=D6 (n%1099511627776 / (i+1)) false
  have:=vW n d (i+1) (acc++ [jl (eW (n%1099511627776 / (i+1)) false)]) (fun r hr=>by
   rcases List.mem_append.1 hr with hr | hr
   · exact h r hr
   · rw [List.mem_singleton.1 hr]
     exact⟨hg.1,hg.2.1,fun h1=>by simpa using hg.2.2.1 h1⟩)
  refine⟨this.1, ?_⟩
  have h2:=this.2
  simp only [List.length_append,List.length_cons,List.length_nil]at h2
  show(nj n d (i+1) (acc++ [jl (eW (n%1099511627776 / (i+1)) false)])).length=_
  omega
theorem LV (c q n:Int)(hc:101≤c)(hc2:c<107)(hq:1≤q)(hq2:q≤8):iG (ya c q n):=by
 have h16:=ay n 16 4 (by omega)
 have h9:=ay n 3 9 (by omega)
 have e0:nr (ya c q n) 0=c:=rfl
 have e1:nr (ya c q n) 1=q:=rfl
 have e2:nr (ya c q n) 2=Ah n:=rfl
 have e3:nl (ya c q n) 3=rp n:=rfl
 unfold iG
 rw [e0,e1,e2,e3]
 unfold Ah rp
 by_cases h:ad n 3 8=0
 · rw [if_pos h,if_pos h]
   have hg:=D6 n true
   have hw:=hg.2.2.2 rfl
   refine⟨?_,by simp [hg.2.1]⟩
   unfold eb
   rw [if_neg (by omega),if_neg (by simp),if_neg (by simp),wo (by simpa using hg.1),if_neg (by simp),if_neg]
   simp [fI,hw]
 · rw [if_neg h,if_neg h]
   have hg:=vW n ((ad n 3 9).toNat+1) 0 [] (fun r hr=>by cases hr)
   simp only [List.length_nil]at hg
   have hcm:fI (nj n ((ad n 3 9).toNat+1) 0 [])=true:=by
    unfold fI
    rw [List.all_eq_true]
    intro r hr
    simpa using(hg.1 r hr).2.2
   refine⟨?_,List.all_eq_true.2 fun r hr=>(hg.1 r hr).2.1⟩
   unfold eb
   rw [if_neg (by omega),if_neg (by omega),if_neg (by omega),wo (fun r hr=>(hg.1 r hr).1),if_neg (by simp),if_neg]
   simp [hcm]
theorem kC (l:RL)(c:Nat)(hc:c<3):∀(d i:Nat) (q:Int) (acc:RL),0≤q→(∀r∈acc,iG r)→∀r∈dO l c d i q acc,iG r
 | 0,_,_,_,_,h=>h
 | d+1,i,q,acc,hq,h=>by
  unfold dO
  split
  · rename_i hg
    refine kC l c hc d (i+1) (q+1) _ (by omega) fun r hr=> ?_
    rcases List.mem_append.1 hr with hr | hr
    · exact h r hr
    · rw [List.mem_singleton.1 hr]
      exact LV _ _ _ (by omega) (by omega) (by omega) (by omega)
  · exact kC l c hc d (i+1) q acc hq h
theorem Ak (l:RL):(∀r∈jp l,iG r)∧(jp l).length≤72:=by
 have hm:=Nat.min_le_right l.length 24
 have b0:=fa l 0 (min l.length 24) 0 0 []
 have b1:=fa l 1 (min l.length 24) 0 0 (dO l 0 (min l.length 24) 0 0 [])
 have b2:=fa l 2 (min l.length 24) 0 0 (dO l 1 (min l.length 24) 0 0 (dO l 0 (min l.length 24) 0 0 []))
 simp only [List.length_nil]at b0
 refine⟨kC l 2 (by omega) _ 0 0 _ (by omega) (kC l 1 (by omega) _ 0 0 _ (by omega) (kC l 0 (by omega) _ 0 0 [] (by omega) (fun r hr=>by cases hr))), ?_⟩
 unfold jp
 omega
theorem IT {r:List Cell}(h:sJ r){n:Nat}(hn:n<(cC r).length):(cZ ((cC r).take n)).2.2=1:=by
 obtain⟨h0,h1,h2,h3,h4⟩:=lF h
 have hx:cC r=bc (IntKind.wrap .u64 (nr r 0))++(cz (ns r 1)++(cz (ns r 2)++(bc (zig (nr r 3))++cz (ns r 4)))):=rfl
 rw [hx]at hn⊢
 have c1:=fun k=>p9 (v:=nr r 0) (n:=k)
 have p1:=fun rest=>kx (v:=nr r 0) (by omega) (by omega) rest
 have c2:=fun k=>tG (s:=ns r 1) (by omega) (n:=k)
 have p2:=fun rest=>ku (s:=ns r 1) (by omega) rest
 have c3:=fun k=>tG (s:=ns r 2) (by omega) (n:=k)
 have p3:=fun rest=>ku (s:=ns r 2) (by omega) rest
 have c4:=fun k=>H2 (v:=nr r 3) h.2 (n:=k)
 have p4:=fun rest=>zF (v:=nr r 3) h.2 rest
 have c5:=fun k=>tG (s:=ns r 4) (by omega) (n:=k)
 generalize bc (IntKind.wrap .u64 (nr r 0))=A at*
 generalize cz (ns r 1)=B at*
 generalize cz (ns r 2)=C at*
 generalize bc (zig (nr r 3))=D at*
 generalize cz (ns r 4)=F at*
 simp only [List.length_append]at hn
 unfold cZ
 simp only
 by_cases n1:n<A.length
 · rw [List.take_append_of_le_length (by omega),c1 n n1,if_pos (by simp)]
 rw [List.take_append,List.take_of_length_le (by omega),p1]
 simp only
 rw [if_neg (by simp),jK A _ _ rfl]
 obtain⟨m,rfl⟩:∃m,n=A.length+m:=⟨n - A.length,by omega⟩
 rw [Nat.add_sub_cancel_left]
 by_cases n2:m<B.length
 · rw [List.take_append_of_le_length (by omega),c2 m n2,if_pos (by simp)]
 rw [List.take_append,List.take_of_length_le (by omega),p2]
 simp only
 obtain⟨k,rfl⟩:∃k,m=B.length+k:=⟨m - B.length,by omega⟩
 rw [Nat.add_sub_cancel_left]
 rw [if_neg (by simp),show A++(B++(C++(D++F)).take k)=(A++B)++(C++(D++F)).take k by simp only [List.append_assoc],jK (A++B) _ _ (by simp only [List.length_append];omega)]
 by_cases n3:k<C.length
 · rw [List.take_append_of_le_length (by omega),c3 k n3,if_pos (by simp)]
 rw [List.take_append,List.take_of_length_le (by omega),p3]
 simp only
 obtain⟨i,rfl⟩:∃i,k=C.length+i:=⟨k - C.length,by omega⟩
 rw [Nat.add_sub_cancel_left]
 rw [if_neg (by simp),show(A++B)++(C++(D++F).take i)=(A++B++C)++(D++F).take i by simp only [List.append_assoc],jK (A++B++C) _ _ (by simp only [List.length_append];omega)]
 by_cases n4:i<D.length
 · rw [List.take_append_of_le_length (by omega),c4 i n4,if_pos (by simp)]
 rw [List.take_append,List.take_of_length_le (by omega),p4]
 simp only
 obtain⟨j,rfl⟩:∃j,i=D.length+j:=⟨i - D.length,by omega⟩
 rw [Nat.add_sub_cancel_left]
 rw [if_neg (by simp),show(A++B++C)++(D++F.take j)=(A++B++C++D)++F.take j by simp only [List.append_assoc],jK (A++B++C++D) _ _ (by simp only [List.length_append];omega)]
 rw [c5 j (by omega),if_pos (by simp)]
theorem wT :∀(l pre acc:RL) (k:Nat),(∀r∈l,sJ r)→k<(bu l).length→(fv (pre++(bu l).take k) l.length pre.length acc).2.2=1
 | [],pre,acc,k,_,hk=>by simp [bu]at hk
 | r::l,pre,acc,k,h,hk=>by
  have hr:=h r List.mem_cons_self
  rw [bu,List.length_append]at hk
  by_cases hc:k<(cC r).length
  · have e:(pre++(bu (r::l)).take k).drop ((pre.length:Nat):Int).toNat=(cC r).take k:=by
     rw [Int.toNat_natCast,List.drop_left,bu,List.take_append_of_le_length (by omega)]
    have:=IT hr hc
    rw [List.length_cons,fv,e,if_pos (by rw [this];simp)]
    exact this
  · have et:(bu (r::l)).take k=cC r++(bu l).take (k - (cC r).length):=by
     rw [bu,List.take_append,List.take_of_length_le (by omega)]
    have ih:=wT l (pre++cC r) (acc++ [lp r]) (k - (cC r).length) (fun q hq=>h q (List.mem_cons_of_mem _ hq)) (by omega)
    have e:(pre++(bu (r::l)).take k).drop ((pre.length:Nat):Int).toNat=cC r++(bu l).take (k - (cC r).length):=by
     rw [Int.toNat_natCast,List.drop_left,et]
    rw [List.length_cons,fv,e,AW hr,if_neg (by simp)]
    simp only
    rw [et,←List.append_assoc,←Int.natCast_add,←List.length_append]
    exact ih
theorem H9 {c q t:Int}{l:RL}(h:eb c q t l=0)(hn:l.all (fun e=>okI (nr e 3))=true){k:Nat}(hk:k<(gE c q t l).length):(bY ((gE c q t l).take k)).2.2.2.2.2=1:=by
 obtain⟨h1,h2,h3,h4,h5,h6,h7,h8,h9⟩:=fc h
 have hs:=ry h
 have hg:=ta h hn
 rw [gE,List.length_append]at hk
 unfold bY
 by_cases hk1:k<(aP (cR c q t l.length)).length
 · have e:(gE c q t l).take k=[]++(aP (cR c q t l.length)).take k:=by
    rw [gE,List.take_append_of_le_length (by omega),List.nil_append]
   have e3:ai ([]++(aP (cR c q t l.length)).take k) 4=([],0,1):=mQ (cR c q t l.length) [] [] k hs hk1
   rw [e,e3,if_pos (by simp)]
 · have et:(gE c q t l).take k=aP (cR c q t l.length)++(bu l).take (k - (aP (cR c q t l.length)).length):=by
    rw [gE,List.take_append,List.take_of_length_le (by omega)]
   have e3:ai ((gE c q t l).take k) 4=((cR c q t l.length).map eL,((aP (cR c q t l.length)).length:Int),0):=by
    have:=gU ((bu l).take (k - (aP (cR c q t l.length)).length)) (cR c q t l.length) [] [] hs
    rw [et]
    simpa [ai,cR]using this
   have e4:=wT l (aP (cR c q t l.length)) [] (k - (aP (cR c q t l.length)).length) hg (by omega)
   rw [←et]at e4
   rw [e3,if_neg (by simp)]
   have k0:nr (rA ((cR c q t l.length).map eL) 0) 0=c:=rfl
   have k1:nr (rA ((cR c q t l.length).map eL) 1) 0=q:=rfl
   have k2:nr (rA ((cR c q t l.length).map eL) 2) 0=t:=rfl
   have k3:nr (rA ((cR c q t l.length).map eL) 3) 0=(l.length:Int):=rfl
   simp only [k0,k1,k2,k3,Int.toNat_natCast]
   rw [if_neg (by omega)]
   unfold rL
   rw [if_pos (by rw [e4];simp)]
   exact e4
theorem rl :∀(x:RL),(∀r∈x,iG r)→okB (bC x)=true
 | [],_=>rfl
 | r::x,h=>dG (GV _ _ _ (h r List.mem_cons_self).2) (rl x (fun q hq=>h q (List.mem_cons_of_mem _ hq)))
end Go.Proofs.YtejimgikldiajaaGreat
namespace Go.Proofs.YtejimgikldiajaaGreat
open Go.Abs
theorem sQ {c:RL}(h:eG c=true):c.length≤1000∧fH c=true:=by
 unfold eG at h
 simp only [Bool.and_eq_true,decide_eq_true_eq]at h
 exact h
theorem kX {c:RL}(h1:c.length≤1000)(h2:fH c=true):eG c=true:=by
 unfold eG
 simp only [Bool.and_eq_true,decide_eq_true_eq]
 exact⟨h1,h2⟩
theorem EZ {c:RL}(h:fH c=true){i:Nat}(hi:i<c.length):(nl (rA c i) 3).length<9223372036854775808:=by
 have:=pP h hi
 unfold kw at this
 simpa using this
theorem tK (q q':List Cell)(l:RL):o7 true q l=o7 true q' l:=by
 cases l<;>simp [o7]
theorem jr (first:Bool)(q r:List Cell)(rs:RL):o7 first q (r::rs)=
 if dB r≠0 then dB r
 else if first=false∧ir (nr r 0) (nr r 1) (nr q 0) (nr q 1)≤0 then 7
 else if 1<nr r 1∧(first=true∨nr q 0≠nr r 0∨nr q 1≠nr r 1 - 1)then 8
 else o7 false r rs:=rfl
theorem Pk (c:RL)(hc:c.length≤1000):∀(d i:Nat),i+d=c.length→
 ∃m,goF E (aa L15) F110 0 m nV (nB c c c.length i)=some ([.one (.int .i64 (o7 (decide (i=0)) (rA c (i - 1)) (c.drop i)))],[])
 | 0,i,hi=>by
  refine⟨1, ?_⟩
  rw [IF]
  have:c.drop i=[]:=List.drop_eq_nil_of_le (by omega)
  rw [this,o7]
  exact cf (decide_eq_false (by omega)) rfl
 | d+1,i,hi=>by
  have hi':i<c.length:=by omega
  obtain⟨m,hm⟩:=Pk c hc d (i+1) (by omega)
  rw [decide_eq_false (by omega:¬i+1=0),Nat.add_sub_cancel]at hm
  refine⟨m+1, ?_⟩
  rw [IF,aE c i hi',jr,Int.toNat_natCast,aF (n:=c.length) hi' (by omega),hm]
  refine ct (decide_eq_true (by omega)) (ct (ax hi') ?_)
  generalize hr:rA c i=r
  show cond (dB r !=0) (some ([AV.one (AC.int .i64 (dB r))],([]:List Block))) _=_
  by_cases hv:dB r=0
  · rw [if_neg (by simpa using hv)]
    refine cf (by simpa using hv) ?_
    have hn:=fc hv
    by_cases h0:i=0
    · subst h0
      refine cf (decide_eq_false (by simp)) ?_
      rw [decide_eq_true rfl,if_neg (by simp)]
      by_cases h1:1<nr r 1
      · rw [if_pos ⟨h1,Or.inl rfl⟩]
        exact ct (decide_eq_true h1) (ct (by simp) rfl)
      · rw [if_neg (fun h=>h1 h.1)]
        exact cf (decide_eq_false h1) rfl
    · rw [aA (n:=(i:Int) - 1) (by omega) (by omega),show((i:Int) - 1).toNat=i - 1 by omega,aA (n:=nr r 1 - 1) (by omega) (by omega)]
      rw [decide_eq_false h0]
      generalize rA c (i - 1)=q
      refine ct (decide_eq_true (by omega)) (ct (aC (by omega) (by omega)) ?_)
      by_cases h2:ir (nr r 0) (nr r 1) (nr q 0) (nr q 1)≤0
      · rw [if_pos ⟨rfl,h2⟩]
        exact ct (decide_eq_true h2) rfl
      · rw [if_neg (fun h=>h2 h.2)]
        refine cf (decide_eq_false h2) ?_
        by_cases h1:1<nr r 1
        · refine ct (decide_eq_true h1) (cf (beq_eq_false_iff_ne.2 (by omega)) (ct (aC (by omega) (by omega)) ?_))
          by_cases h3:nr q 0=nr r 0
          · refine cf (bne_eq_false_iff_eq.2 h3) (ct (aC (by omega) (by omega)) ?_)
            by_cases h4:nr q 1=nr r 1 - 1
            · rw [if_neg (by simp [h3,h4])]
              exact cf (bne_eq_false_iff_eq.2 h4) rfl
            · rw [if_pos ⟨h1,Or.inr (Or.inr h4)⟩]
              exact ct (bne_iff_ne.2 h4) rfl
          · rw [if_pos ⟨h1,Or.inr (Or.inl h3)⟩]
            exact ct (bne_iff_ne.2 h3) rfl
        · rw [if_neg (fun h=>h1 h.1)]
          exact cf (decide_eq_false h1) rfl
  · rw [if_pos hv]
    exact ct (by simpa using hv) rfl
theorem RV (c:RL)(h:cN c=true):∃m,aj E (aa L15) m 110 [.one (.sl false 96 c)] []=some ([.oi (vSt c)],[]):=by
 have h1:=gJ h
 obtain⟨m,hm⟩:=Pk c h1 c.length 0 (by omega)
 refine⟨m+1, ?_⟩
 rw [QP]
 refine Eq.trans hm ?_
 rw [decide_eq_true rfl,List.drop_zero,tK _ []]
 rfl
theorem vD (a n b m:Int):(ir b m a n≥0)↔(ir a n b m≤0):=by
 have:=kV a n b m
 have:=kV b m a n
 omega
theorem l71 (c:RL)(hc:c.length≤1000):∀(d i:Nat),i+d=c.length→
 ∃m,goF E (aa rT) F71 0 m un (sE c i)=some ([.one (.int .i64 (o7 (decide (i=0)) (rA c (i - 1)) (c.drop i)))],[])
 | 0,i,hi=>by
  refine⟨1, ?_⟩
  rw [MV]
  have:c.drop i=[]:=List.drop_eq_nil_of_le (by omega)
  rw [this,o7]
  exact cf (decide_eq_false (by omega)) rfl
 | d+1,i,hi=>by
  have hi':i<c.length:=by omega
  obtain⟨m,hm⟩:=l71 c hc d (i+1) (by omega)
  rw [decide_eq_false (by omega:¬i+1=0),Nat.add_sub_cancel]at hm
  have hib:=ax hi'
  refine⟨m+1, ?_⟩
  rw [MV,aE c i hi',jr,Int.toNat_natCast,aF (n:=c.length) hi' (by omega),hm]
  refine ct (decide_eq_true (by omega)) (ct hib ?_)
  generalize hr:rA c i=r
  show cond (dB r !=0) (some ([AV.one (AC.int .i64 (dB r))],([]:List Block))) _=_
  by_cases hv:dB r=0
  · rw [if_neg (by simpa using hv)]
    refine cf (by simpa using hv) ?_
    have hn:=fc hv
    by_cases h0:i=0
    · subst h0
      refine cf (decide_eq_false (by simp)) (ct hib ?_)
      rw [decide_eq_true rfl,if_neg (by simp)]
      by_cases h1:1<nr r 1
      · rw [if_pos ⟨h1,Or.inl rfl⟩]
        exact ct (decide_eq_true h1) (ct (by simp) rfl)
      · rw [if_neg (fun h=>h1 h.1)]
        exact cf (decide_eq_false h1) rfl
    · rw [aA (n:=(i:Int) - 1) (by omega) (by omega),show((i:Int) - 1).toNat=i - 1 by omega,aA (n:=nr r 1 - 1) (by omega) (by omega)]
      rw [decide_eq_false h0]
      generalize rA c (i - 1)=q
      have hsw:=vD (nr r 0) (nr r 1) (nr q 0) (nr q 1)
      refine ct (decide_eq_true (by omega)) (ct (aC (by omega) (by omega)) (ct hib ?_))
      by_cases h2:ir (nr r 0) (nr r 1) (nr q 0) (nr q 1)≤0
      · rw [if_pos ⟨rfl,h2⟩]
        exact ct (decide_eq_true (hsw.2 h2)) rfl
      · rw [if_neg (fun h=>h2 h.2)]
        refine cf (decide_eq_false (fun h=>h2 (hsw.1 h))) (ct hib ?_)
        by_cases h1:1<nr r 1
        · refine ct (decide_eq_true h1) (cf (beq_eq_false_iff_ne.2 (by omega)) (ct (aC (by omega) (by omega)) (ct hib ?_)))
          by_cases h3:nr q 0=nr r 0
          · refine cf (bne_eq_false_iff_eq.2 h3) (ct (aC (by omega) (by omega)) (ct hib ?_))
            by_cases h4:nr q 1=nr r 1 - 1
            · rw [if_neg (by simp [h3,h4])]
              exact cf (bne_eq_false_iff_eq.2 h4) rfl
            · rw [if_pos ⟨h1,Or.inr (Or.inr h4)⟩]
              exact ct (bne_iff_ne.2 h4) rfl
          · rw [if_pos ⟨h1,Or.inr (Or.inl h3)⟩]
            exact ct (bne_iff_ne.2 h3) rfl
        · rw [if_neg (fun h=>h1 h.1)]
          exact cf (decide_eq_false h1) rfl
  · rw [if_pos hv]
    exact ct (by simpa using hv) rfl
theorem k71 (c:RL)(h:cN c=true):∃m,aj E (aa rT) m 71 [.one (.sl false 96 c)] []=some ([.oi (vSt c)],[]):=by
 have h1:=gJ h
 obtain⟨m,hm⟩:=l71 c h1 c.length 0 (by omega)
 refine⟨m+1, ?_⟩
 rw [e71]
 refine Eq.trans hm ?_
 rw [decide_eq_true rfl,List.drop_zero,tK _ []]
 rfl
theorem l39 (c d:RL)(hc:c.length≤1000)(hs:fH c=true)(hd:c.length=d.length):∀(e i:Nat),i+e=c.length→
 ∃m,goF E (aa L71) F39 0 m DG (Ds c d i)=some ([.one (.bool (qU (c.drop i) (d.drop i)))],[])
 | 0,i,hi=>by
  refine⟨1, ?_⟩
  rw [ML]
  have:c.drop i=[]:=List.drop_eq_nil_of_le (by omega)
  rw [this,qU]
  exact cf (decide_eq_false (by omega)) rfl
 | e+1,i,hi=>by
  have hi':i<c.length:=by omega
  obtain⟨m,hm⟩:=l39 c d hc hs hd e (i+1) (by omega)
  refine⟨m+1, ?_⟩
  rw [ML]
  rw [aE c i hi',qU,Int.toNat_natCast,aF (n:=c.length) hi' (by omega),hm,gT,List.drop_drop,Nat.add_zero]
  refine ct (decide_eq_true (by omega)) (ct (ax hi') (ct (ax (by omega)) (ct (decide_eq_true (EZ hs hi')) ?_)))
  show cond (!(Ju (rA c i) (rA d i))) _ _=_
  generalize Ju (rA c i) (rA d i)=b1
  cases b1<;>rfl
theorem k39 (c d:RL)(h:eG c=true):∃m,aj E (aa L71) m 39 [.one (.sl false 96 c),.one (.sl false 96 d)] []=some ([.ob (za c d)],[]):=by
 obtain⟨h1,h2⟩:=sQ h
 unfold za
 by_cases hd:c.length=d.length
 · obtain⟨m,hm⟩:=l39 c d h1 h2 hd c.length 0 (by omega)
   refine⟨m+1, ?_⟩
   rw [e39,show(0:Int)=((0:Nat):Int)from rfl,hm,decide_eq_true hd]
   exact cf (bne_eq_false_iff_eq.2 (by omega)) rfl
 · refine⟨1, ?_⟩
   rw [e39,decide_eq_false hd]
   exact ct (bne_iff_ne.2 (by omega)) rfl
theorem kI {x:RL}(hx:aI x=true):0≤(bY x).2.2.2.2.1∧(bY x).2.2.2.2.1≤x.length:=by
 unfold bY
 split
 · simp
 · rename_i h0
   have hb:=bV hx (c:=4) (by simpa using h0)
   split
   · simp
   · unfold rL
     split
     · simp
     · rename_i h1
       split
       · simp
       · have:=l5 x hx _ _ [] hb.1 hb.2.1 (by simpa using h1)
         simp only
         omega
def dcU (r:RL×Int×Int):List AV×List Block:=([.one (.sl true 96 r.1),.one (.int .i64 r.2.1),.one (.int .i64 r.2.2)],[])
theorem l87 (x:RL)(hx:aI x=true)(k:Int)(hk:k≤48)(hk0:0≤k):∀(d i:Nat) (o:Int) (acc:RL),i+d=k.toNat→0≤o→o≤x.length→acc.length=i→
 ∃m,goF E (aa L39) F87 0 m Dt (DF x k o acc i)=some (dcU (fA x d o acc)):=by
 intro d
 induction d with
 | zero=>
  intro i o acc hi h0 h1 ha
  refine⟨1, ?_⟩
  rw [Gu]
  exact cf (decide_eq_false (by omega)) rfl
 | succ d ih=>
  intro i o acc hi h0 h1 ha
  have h4:=au hx o.toNat
  have hb:=kI h4
  rw [List.length_drop]at hb
  have hl:=(aR hx).2
  by_cases he:(bY (x.drop o.toNat)).2.2.2.2.2=0
  · obtain⟨m,hm⟩:=ih (i+1) (o+(bY (x.drop o.toNat)).2.2.2.2.1) (acc++ [mkU (bY (x.drop o.toNat))]) (by omega) (by omega) (by omega) (by simp;omega)
    refine⟨m+1, ?_⟩
    rw [Gu,aN]
    refine ct (decide_eq_true (by omega)) (ct (aC h0 (by omega)) (ct h4 (cf (by simpa using he) (ct (bh (by simp;omega)) ?_))))
    rw [aA (by omega) (by omega),aF (n:=48) (by omega) (by omega)]
    simp only [fA,if_neg (show¬(bY (x.drop o.toNat)).2.2.2.2.2≠0 by simpa using he)]
    exact hm
  · refine⟨1, ?_⟩
    rw [Gu,aN]
    refine ct (decide_eq_true (by omega)) (ct (aC h0 (by omega)) (ct h4 (ct (by simpa using he) ?_)))
    simp only [fA,if_pos he]
    rfl
theorem Fw {x:RL}(hx:aI x=true)(h:(am x).2.2=0):0≤(am x).1∧0≤(am x).2.1∧(am x).2.1≤x.length:=by
 unfold am at h⊢
 split
 · rename_i he
   rw [if_pos he]at h
   exact absurd h he
 · rename_i he
   rw [if_neg he]at h
   have hb:=bX (aR hx).1 (by simpa using he)
   split
   · rename_i h2
     rw [if_pos h2]at h
     simp at h
   · exact⟨by omega,by omega,by omega⟩
theorem k87 (x:RL)(hx:aI x=true):∃m,aj E (aa L39) m 87 [.or x] []=some (dcU (ce x)):=by
 unfold ce
 by_cases he:(am x).2.2=0
 · rw [if_neg (by simpa using he)]
   have hb:=Fw hx he
   by_cases h9:48<(am x).1
   · refine⟨1, ?_⟩
     rw [e87,if_pos h9]
     exact ct hx (cf (by simpa using he) (ct (decide_eq_true h9) rfl))
   · obtain⟨m,hm⟩:=l87 x hx (am x).1 (by omega) (by omega) (am x).1.toNat 0 (am x).2.1 [] (by omega) (by omega) (by omega) rfl
     refine⟨m+1, ?_⟩
     rw [e87,if_neg h9]
     exact ct hx (cf (by simpa using he) (cf (decide_eq_false h9) hm))
 · refine⟨1, ?_⟩
   rw [e87,if_pos he]
   exact ct hx (ct (by simpa using he) rfl)
theorem uC :∀c:RL,qU c c=true
 | []=>rfl
 | r::c=>by
  rw [qU]
  show(Ju r r&&qU c c)=true
  rw [uC c]
  simp [Ju,H6]
theorem FH (c:RL):za c c=true:=by
 simp [za,uC]
def reU (r:List Cell):List Cell:=[.int .i64 (nr r 0),.int .i64 (nr r 1),.int .i64 (nr r 2),.slice 136 ((nl r 3).map lp)]
theorem zb :∀{l:RL} {first:Bool} {q:List Cell},o7 first q l=0→∀r∈l,dB r=0
 | [],_,_,_,r,hr=>by cases hr
 | p::l,first,q,h,r,hr=>by
  rw [jr]at h
  by_cases h0:dB p=0
  · rw [if_neg (by simpa using h0)]at h
    split at h
    · simp at h
    · split at h
      · simp at h
      · rcases List.mem_cons.1 hr with rfl | hr
        · exact h0
        · exact zb h r hr
  · rw [if_pos h0]at h
    exact absurd h h0
theorem vV (rest:RL):∀(l pre acc:RL),(∀r∈l,iG r)→
 fA (pre++(bC l++rest)) l.length pre.length acc=(acc++l.map reU,((pre.length+(bC l).length:Nat):Int),0)
 | [],pre,acc,_=>by simp [fA,bC]
 | r::l,pre,acc,h=>by
  have ih:=vV rest l (pre++gA r) (acc++ [reU r]) (fun q hq=>h q (List.mem_cons_of_mem _ hq))
  have e:(pre++(bC (r::l)++rest)).drop ((pre.length:Nat):Int).toNat=gA r++(bC l++rest):=by
   rw [Int.toNat_natCast,List.drop_left,bC,List.append_assoc]
  have hd:bY (gA r++(bC l++rest))=(nr r 0,nr r 1,nr r 2,(nl r 3).map lp,((gA r).length:Int),0):=yO (h r List.mem_cons_self).1 (h r List.mem_cons_self).2 _
  rw [List.length_cons,fA,e,hd,if_neg (by simp)]
  simp only
  have e2:pre++(bC (r::l)++rest)=(pre++gA r)++(bC l++rest):=by
   rw [bC];simp only [List.append_assoc]
  rw [e2,←Int.natCast_add,←List.length_append]
  refine Eq.trans ih ?_
  simp only [List.map_cons,List.append_assoc,List.length_append,bC,List.cons_append,List.nil_append]
  congr 3
  omega
theorem tD :∀(l:RL) (q:List Cell),101≤nr q 0→nr q 0≤106→1≤nr q 1→nr q 1≤8→o7 false q l=0→(l.length:Int)≤8*(106 - nr q 0)+(8 - nr q 1)
 | [],q,h0,h1,h2,h3,_=>by simp;omega
 | r::l,q,h0,h1,h2,h3,h=>by
  rw [jr]at h
  by_cases hv:dB r=0
  · rw [if_neg (by simpa using hv)]at h
    have hn:=fc hv
    split at h
    · simp at h
    · rename_i h4
      split at h
      · simp at h
      · rename_i h5
        have ih:=tD l r (by omega) (by omega) (by omega) (by omega) h
        have hcmp:=kV (nr r 0) (nr r 1) (nr q 0) (nr q 1)
        have hgt:¬ir (nr r 0) (nr r 1) (nr q 0) (nr q 1)≤0:=fun hh=>h4 ⟨rfl,hh⟩
        have h6:¬(1<nr r 1∧(nr q 0≠nr r 0∨nr q 1≠nr r 1 - 1)):=fun hh=>h5 ⟨hh.1,Or.inr hh.2⟩
        rw [List.length_cons]
        omega
  · rw [if_pos hv]at h
    exact absurd h hv
theorem G6 {c:RL}(h:vSt c=0):c.length≤48:=by
 cases c with
 | nil=>simp
 | cons r l=>
  unfold vSt at h
  have hm:=zb h r List.mem_cons_self
  have hn:=fc hm
  rw [jr,if_neg (by simpa using hm),if_neg (by simp)]at h
  split at h
  · simp at h
  · have:=tD l r (by omega) (by omega) (by omega) (by omega) h
    rw [List.length_cons]
    omega
theorem Kz {r:List Cell}(h:sN r=true):GU (nr r 0) (nr r 1) (nr r 2) (nl r 3)=r:=by
 unfold sN at h
 split at h
 · have:=Nat.eq_of_beq_eq_true h
   subst this
   rfl
 · cases h
theorem Pp {c:RL}(h:c.all sN=true){i:Nat}(hi:i<c.length):GU (nr (rA c i) 0) (nr (rA c i) 1) (nr (rA c i) 2) (nl (rA c i) 3)=rA c i:=
 Kz (pP h hi)
theorem HB {r:List Cell}(h:dB r=0):NR (nl r 3)=true:=by
 have:=fc h
 unfold NR
 exact decide_eq_true (by omega)
theorem l46 (c:RL)(hc:c.length≤1000):∀(d i:Nat) (v:RL),i+d=c.length→v.length≤i→lu v 1000000→
 ∃m,goF E (aa L87) F46 0 m Dz (Em c v i)=some ([.one (.sl false 103 (nh v (c.drop i)))],[])
 | 0,i,v,hi,hv,ho=>by
  refine⟨1, ?_⟩
  have:c.drop i=[]:=List.drop_eq_nil_of_le (by omega)
  rw [Mh,this]
  exact cf (decide_eq_false (by omega)) rfl
 | d+1,i,v,hi,hv,ho=>by
  have hi':i<c.length:=by omega
  have hw:=yQ ho (nr (rA c i) 0) (bH v (nr (rA c i) 0)+1)
  obtain⟨m,hm⟩:=l46 c hc d (i+1) (ix v (nr (rA c i) 0) (bH v (nr (rA c i) 0)+1)) (by omega) (by omega) hw.1
  refine⟨m+1, ?_⟩
  have e1:nh v (c.drop i)=nh (ix v (nr (rA c i) 0) (bH v (nr (rA c i) 0)+1)) (c.drop (i+1)):=by rw [aE c i hi'];rfl
  have hcnt:=CU ho (nr (rA c i) 0)
  rw [Mh,Int.toNat_natCast,e1,aF (n:=c.length) hi' (by omega),aA (n:=bH v (nr (rA c i) 0)+1) (by omega) (by omega)]
  have hev:Ce v=true:=by
   unfold Ce
   simp only [Bool.and_eq_true,decide_eq_true_eq]
   exact⟨by omega,NH ho⟩
  exact ct (decide_eq_true (by omega)) (ct (ax hi') (ct (ax hi') (ct (fE (by omega)) (ct hev hm))))
theorem k46 (c:RL)(h:cN c=true):∃m,aj E (aa L87) m 46 [.one (.sl false 96 c)] []=some ([.one (.sl false 103 (gf c))],[]):=by
 obtain⟨m,hm⟩:=l46 c (gJ h) c.length 0 [] (by omega) (by simp) (fun e he=>by cases he)
 exact⟨m+1,by rw [e46];exact hm⟩
theorem MB {c:RL}(h:c.all sN=true){i:Nat}(hi:i<c.length):[Cell.int .i64 (nr (rA c i) 0),Cell.int .i64 (nr (rA c i) 1),Cell.int .i64 (nr (rA c i) 2),Cell.slice 136 (nl (rA c i) 3)]=rA c i:=Pp h hi
theorem uR {c:RL}(h:fz c=true):c.length≤1000∧c.all sN=true:=by
 unfold fz at h
 simp only [Bool.and_eq_true]at h
 exact⟨gJ h.1,h.2⟩
theorem FW (v:RL)(r:List Cell)(c:RL):bey (r::c) v=if bH v (nr r 0)<nr r 1 then r::bey c v else bey c v:=by
 unfold bey
 rw [List.filter_cons]
 by_cases h:bH v (nr r 0)<nr r 1
 · rw [if_pos (decide_eq_true h),if_pos h]
 · rw [if_neg (by simpa using h),if_neg h]
theorem tI (v:RL)(k:Int):∀(c acc:RL),(acc.length:Int)≤k∨acc=[]→mq v k acc c=(acc++(bey c v).take (k.toNat - acc.length),decide (k.toNat - acc.length<(bey c v).length))
 | [],acc,_=>by simp [mq,bey]
 | r::c,acc,hk=>by
  rw [mq,FW]
  by_cases h:nr r 1≤bH v (nr r 0)
  · rw [if_pos h,if_neg (show¬bH v (nr r 0)<nr r 1 by omega)]
    exact tI v k c acc hk
  · rw [if_neg h,if_pos (show bH v (nr r 0)<nr r 1 by omega)]
    by_cases h2:(acc.length:Int)≥k
    · rw [if_pos h2]
      have:k.toNat - acc.length=0:=by omega
      rw [this,List.take_zero,List.append_nil,decide_eq_true (by simp)]
    · rw [if_neg h2]
      have ih:=tI v k c (acc++ [r]) (.inl (by simp;omega))
      rw [ih]
      have e:k.toNat - acc.length=(k.toNat - (acc++ [r]).length)+1:=by simp;omega
      rw [e,List.take_succ_cons,List.append_assoc,List.length_cons]
      simp
theorem CQ (c v:RL)(k:Int):iR c v k=PS c v k:=by
 unfold iR
 rw [tI v k c [] (.inr rfl)]
 unfold PS
 rw [List.nil_append,List.length_nil,Nat.sub_zero]
 by_cases h:k.toNat≤(bey c v).length
 · rw [Nat.min_eq_left h]
 · rw [Nat.min_eq_right (by omega),List.take_of_length_le (by omega),List.take_of_length_le (by omega)]
   congr 1
   rw [decide_eq_false (by omega),decide_eq_false (by omega)]
theorem l47 (c v:RL)(k:Int)(hc:c.length≤1000)(hv:cN v=true)(hu:c.all sN=true):∀(d i:Nat) (acc:RL),i+d=c.length→acc.length≤i→
 ∃m,goF E (aa L46) F47 0 m yI (zO c v k acc i)=some ([.one (.sl false 96 (mq v k acc (c.drop i)).1),.one (.bool (mq v k acc (c.drop i)).2)],[])
 | 0,i,acc,hi,ha=>by
  refine⟨1, ?_⟩
  have:c.drop i=[]:=List.drop_eq_nil_of_le (by omega)
  rw [Dd,this]
  exact cf (decide_eq_false (by omega)) rfl
 | d+1,i,acc,hi,ha=>by
  have hi':i<c.length:=by omega
  have hib:=ax hi'
  by_cases h:nr (rA c i) 1≤bH v (nr (rA c i) 0)
  · obtain⟨m,hm⟩:=l47 c v k hc hv hu d (i+1) acc (by omega) (by omega)
    refine⟨m+1, ?_⟩
    rw [Dd,Int.toNat_natCast,aF (n:=c.length) hi' (by omega),aE c i hi',mq,if_pos h]
    exact ct (decide_eq_true (by omega)) (ct hib (ct hib (ct hv (ct (decide_eq_true h) hm))))
  · by_cases h2:(acc.length:Int)≥k
    · refine⟨1, ?_⟩
      rw [Dd,Int.toNat_natCast,aE c i hi',mq,if_neg h,if_pos h2]
      exact ct (decide_eq_true (by omega)) (ct hib (ct hib (ct hv (cf (decide_eq_false h) (ct (decide_eq_true h2) rfl)))))
    · obtain⟨m,hm⟩:=l47 c v k hc hv hu d (i+1) (acc++ [rA c i]) (by omega) (by simp;omega)
      refine⟨m+1, ?_⟩
      rw [Dd,Int.toNat_natCast,aF (n:=c.length) hi' (by omega),aE c i hi',mq,if_neg h,if_neg h2,MB hu hi']
      exact ct (decide_eq_true (by omega)) (ct hib (ct hib (ct hv (cf (decide_eq_false h) (cf (decide_eq_false h2) (ct hib (ct (bh (by simp;omega)) hm)))))))
theorem k47 (c v:RL)(k:Int)(h:(fz c&&cN v)=true):∃m,aj E (aa L46) m 47 [.one (.sl false 96 c),.one (.sl false 103 v),.oi k] []=some ([.one (.sl false 96 (iR c v k).1),.ob (iR c v k).2],[]):=by
 simp only [Bool.and_eq_true]at h
 obtain⟨h1,h2⟩:=uR h.1
 obtain⟨m,hm⟩:=l47 c v k h1 h.2 h2 c.length 0 [] (by omega) (by simp)
 exact⟨m+1,by rw [e47];exact hm⟩
theorem l44 (c:RL)(k:Int)(hc:c.length≤1000)(hu:c.all sN=true):∀(d i:Nat) (acc:RL),i+d=c.length→acc.length≤i→
 ∃m,goF E (aa L47) F44 0 m Ao (ze c k acc i)=some ([.one (.sl false 96 (acc++bP (c.drop i) k))],[])
 | 0,i,acc,hi,ha=>by
  refine⟨1, ?_⟩
  have:c.drop i=[]:=List.drop_eq_nil_of_le (by omega)
  rw [HL,this]
  refine cf (decide_eq_false (by omega)) ?_
  simp [bP]
 | d+1,i,acc,hi,ha=>by
  have hi':i<c.length:=by omega
  have hib:=ax hi'
  have hg:(decide (2≤9)&&decide (IntKind.wrap .i64 (nr (rA c i) 0 - 101)≤9223372036854775807))=true:=by
   rw [IntKind.wrap_i64]
   simp only [Bool.and_eq_true,decide_eq_true_eq]
   omega
  by_cases h:nr (rA c i) 1≤ad k 9 (IntKind.wrap .i64 (nr (rA c i) 0 - 101))
  · obtain⟨m,hm⟩:=l44 c k hc hu d (i+1) (acc++ [rA c i]) (by omega) (by simp;omega)
    refine⟨m+1, ?_⟩
    have e1:bP (c.drop i) k=rA c i::bP (c.drop (i+1)) k:=by
     rw [aE c i hi']
     unfold bP
     rw [List.filter_cons,if_pos (decide_eq_true h)]
    rw [HL,Int.toNat_natCast,aF (n:=c.length) hi' (by omega),e1,MB hu hi']
    rw [List.append_assoc]at hm
    exact ct (decide_eq_true (by omega)) (ct hib (ct hib (ct hg (ct (decide_eq_true h) (ct hib (ct (bh (by simp;omega)) hm))))))
  · obtain⟨m,hm⟩:=l44 c k hc hu d (i+1) acc (by omega) (by omega)
    refine⟨m+1, ?_⟩
    have e1:bP (c.drop i) k=bP (c.drop (i+1)) k:=by
     rw [aE c i hi']
     unfold bP
     rw [List.filter_cons,if_neg (by simpa using h)]
    rw [HL,Int.toNat_natCast,aF (n:=c.length) hi' (by omega),e1]
    exact ct (decide_eq_true (by omega)) (ct hib (ct hib (ct hg (cf (decide_eq_false h) hm))))
theorem k44 (c:RL)(k:Int)(h:fz c=true):∃m,aj E (aa L47) m 44 [.one (.sl false 96 c),.oi k] []=some ([.one (.sl false 96 (bP c k))],[]):=by
 obtain⟨h1,h2⟩:=uR h
 obtain⟨m,hm⟩:=l44 c k h1 h2 c.length 0 [] (by omega) (by simp)
 exact⟨m+1,by rw [e44];exact hm⟩
theorem kLt_cmpU {r q:List Cell}:kLt q r=true↔¬ir (nr r 0) (nr r 1) (nr q 0) (nr q 1)≤0:=by
 rw [kLt_iff]
 have:=kV (nr r 0) (nr r 1) (nr q 0) (nr q 1)
 omega
theorem Hq {r:List Cell}(h:dB r=0):101≤nr r 0∧nr r 0<107∧1≤nr r 1∧nr r 1≤8∧NR (nl r 3)=true:=by
 have:=fc h
 exact⟨this.1,this.2.1,this.2.2.1,this.2.2.2.1,HB h⟩
theorem DA :∀(l pre:RL) (q:List Cell),Vld (pre++q::l)→(∀r∈l,dB r=0)→o7 false q l=0
 | [],_,_,_,_=>rfl
 | r::l,pre,q,hV,hp=>by
  have hs:=List.pairwise_append.1 hV.asc
  have hql:=asc_cons.1 hs.2.1
  have hqr:=hql.1 r List.mem_cons_self
  rw [jr,if_neg (by simpa using hp r List.mem_cons_self),if_neg (fun hh=>kLt_cmpU.1 hqr hh.2),if_neg,DA l (pre++ [q]) r (by rw [List.append_assoc];exact hV) fun x hx=>hp x (List.mem_cons_of_mem _ hx)]
  rintro⟨h1,h2⟩
  obtain⟨p,hpm,e0,e1⟩:=hV.gap r (by simp) h1
  have hqr':=kLt_iff.1 hqr
  have hpq:nr q 0=nr r 0∧nr q 1=nr r 1 - 1:=by
   rcases List.mem_append.1 hpm with hpm | hpm
   · have:=kLt_iff.1 (hs.2.2 p hpm q List.mem_cons_self)
     omega
   · rcases List.mem_cons.1 hpm with rfl | hpm
     · exact⟨e0,e1⟩
     · exfalso
       rcases List.mem_cons.1 hpm with rfl | hpm
       · omega
       · have:=kLt_iff.1 ((asc_cons.1 hql.2).1 p hpm)
         omega
  rcases h2 with h2 | h2 | h2
  · cases h2
  · exact h2 hpq.1
  · exact h2 hpq.2
theorem EI {c:RL}(h:Vld c)(hp:∀r∈c,dB r=0):vSt c=0:=by
 cases c with
 | nil=>rfl
 | cons r l=>
  have hV:=DA l [] r h fun x hx=>hp x (List.mem_cons_of_mem _ hx)
  have hl:=asc_cons.1 h.asc
  unfold vSt
  rw [jr,if_neg (by simpa using hp r List.mem_cons_self),if_neg (by simp),if_neg,hV]
  rintro⟨h1,_⟩
  obtain⟨p,hpm,e0,e1⟩:=h.gap r List.mem_cons_self h1
  rcases List.mem_cons.1 hpm with rfl | hpm
  · omega
  · have:=kLt_iff.1 (hl.1 p hpm)
    omega
structure FitU (c:RL):Prop where
 vld:Vld c
 upd:∀r∈c,dB r=0
 ur:c.all sN=true
 len:c.length≤100
theorem FitU.ln {c:RL}(h:FitU c):cN c=true:=fE (by have:=h.len;omega)
theorem FitU.cf {c:RL}(h:FitU c):fz c=true:=by
 unfold fz
 rw [h.ln,h.ur]
 rfl
theorem FitU.valid {c:RL}(h:FitU c):vSt c=0:=EI h.vld h.upd
theorem FitU.sub {c:RL}(h:FitU c)(f:Int→Int):FitU (sub c f):=
 ⟨h.vld.sub f,fun r hr=>h.upd r (mem_sub.1 hr).1,xR h.ur fun r hr=>(mem_sub.1 hr).1,Nat.le_trans (kG _ _) h.len⟩
structure PInvU (a:Nat) (i:Int) (acc:RL):Prop where
 asc:Asc acc
 gap:Gap acc
 low:∀r∈acc,nr r 0<101+a∨(nr r 0=101+a∧nr r 1≤i)
 last:0<i→∃q∈acc,nr q 0=101+a∧nr q 1=i
 pr:acc.all sN=true
theorem jh (l:RL)(a:Nat):∀(d i:Nat) (q:Int) (acc:RL),0≤q→PInvU a q acc→∃k,0≤k∧PInvU a k (dO l a d i q acc)
 | 0,_,q,_,h0,h=>⟨q,h0,h⟩
 | d+1,i,q,acc,h0,h=>by
  unfold dO
  split
  · generalize hr:ya (101+a) (q+1) (nr (rA l i) 0%1099511627776 / 3)=g
    have e0:nr g 0=101+a:=by rw [←hr];rfl
    have e1:nr g 1=q+1:=by rw [←hr];rfl
    have e2:sN g=true:=by rw [←hr];rfl
    refine jh l a d (i+1) (q+1) (acc++ [g]) (by omega) ⟨?_, ?_, ?_, ?_, ?_⟩
    · refine List.pairwise_append.2 ⟨h.asc,by simp,fun x hx y hy=> ?_⟩
      rw [List.mem_singleton]at hy
      subst hy
      have:=h.low x hx
      rw [kLt_iff]
      omega
    · intro r hr h1
      rcases List.mem_append.1 hr with hr | hr
      · obtain⟨p,hp,e⟩:=h.gap r hr h1
        exact⟨p,List.mem_append.2 (.inl hp),e⟩
      · rw [List.mem_singleton]at hr
        subst hr
        obtain⟨p,hp,f0,f1⟩:=h.last (by omega)
        exact⟨p,List.mem_append.2 (.inl hp),by omega,by omega⟩
    · intro r hr
      rcases List.mem_append.1 hr with hr | hr
      · have:=h.low r hr
        omega
      · rw [List.mem_singleton]at hr
        subst hr
        omega
    · intro _
      exact⟨_,List.mem_append.2 (.inr (List.mem_singleton.2 rfl)),e0,by omega⟩
    · rw [List.all_append,h.pr,List.all_cons,List.all_nil,e2]
      rfl
  · exact jh l a d (i+1) q acc h0 h
theorem PInvU.next {a:Nat}{i:Int}{acc:RL}(h:PInvU a i acc):PInvU (a+1) 0 acc:=
 ⟨h.asc,h.gap,fun r hr=>by have:=h.low r hr;omega,fun h0=>absurd h0 (by omega),h.pr⟩
theorem E0 (l:RL):FitU (jp l):=by
 have h0:PInvU 0 0 []:=⟨by simp [Asc],fun r hr=>(by cases hr),fun r hr=>(by cases hr),fun h0=>absurd h0 (by omega),rfl⟩
 obtain⟨k0,_,h1⟩:=jh l 0 (min l.length 24) 0 0 [] (by omega) h0
 obtain⟨k1,_,h2⟩:=jh l 1 (min l.length 24) 0 0 _ (by omega) h1.next
 obtain⟨k2,_,h3⟩:=jh l 2 (min l.length 24) 0 0 _ (by omega) h2.next
 have ho:=Ak l
 have hv:∀r∈jp l,dB r=0:=fun r hr=>(ho.1 r hr).1
 exact⟨⟨h3.asc,h3.gap,fun r hr=>by
  have:=Hq (hv r hr)
  omega⟩,hv,h3.pr,by have:=ho.2;omega⟩
end Go.Proofs.YtejimgikldiajaaGreat
namespace Go.Proofs.YtejimgikldiajaaGreat
open Go.Abs
set_option maxRecDepth 20000
theorem e58 (m:Nat)(n:Int):aj E (aa L18) (m+1) 58 [.oi n] []=
(cond (decide (n≥101))
(cond (decide (n<107))
(some ([.ob true],[]))
(cond (decide (n≥201))
(some ([.ob (decide (n<204))],[]))
(some ([.ob false],[]))))
(cond (decide (n≥201))
(some ([.ob (decide (n<204))],[]))
(some ([.ob false],[])))):=by kernel_rfl
theorem e19 (m:Nat)(n:Int):aj E (aa L58) (m+1) 19 [.oi n] []=
(cond (decide (n≥1))
(cond (decide (n≤12))
(some ([.ob true],[]))
(some ([.ob (cO n)],[])))
(some ([.ob (cO n)],[]))):=by kernel_rfl
theorem e23 (m:Nat)(n:Int):aj E (aa L19) (m+1) 23 [.oi n] []=
(cond (dt n)
(some ([.ob true],[]))
(cond (d9 n)
(some ([.ob true],[]))
(some ([.ob (ic n)],[])))):=by kernel_rfl
theorem e60 (m:Nat)(f1 t1:RL):aj E (aa L23) (m+1) 60 [.agg [.s f1,.s t1]] []=
(cond ((f1.length:Int)==0)
(some ([.ob ((t1.length:Int)==0)],[]))
(some ([.ob false],[]))):=by kernel_rfl
theorem e69 (m:Nat)(f1 t1:RL):aj E (aa L60) (m+1) 69 [.agg [.s f1,.s t1]] []=
(cond ((f1.length:Int)==0)
(some ([.ob ((t1.length:Int)==0)],[]))
(some ([.ob false],[]))):=by kernel_rfl
noncomputable def Dg :List AItem:=F59.at [.snd,.fst,.snd,.sub,.head]
def DE (t0:RL)(t1:Int)(t7:Int)(t8:Int):St:=⟨[(0,.one (.sl false 54 t0)),(1,.oi t1),(7,.oi t7),(8,.oi t8)],[]⟩
theorem e59 (m:Nat)(l:RL)(f:Int):aj E (aa L69) (m+1) 59 [.one (.sl false 54 l),.oi f] []=
(goF E (aa L69) F59 0 m Dg (DE l f (l.length:Int) 0)):=by kernel_rfl
theorem Mx (m:Nat)(t0:RL)(t1 t7 t8:Int):goF E (aa L69) F59 0 (m+1) Dg (DE t0 t1 t7 t8)=
(cond (decide (t8<t7))
(cond (inB t8 t0.length)
(cond (t1==(nr (rA t0 (Int.toNat t8)) 0))
(some ([.oi t8],[]))
(goF E (aa L69) F59 0 m Dg (DE t0 t1 t7 (IntKind.wrap .i64 (t8+1))))) none)
(some ([.oi (-1)],[]))):=by kernel_rfl
theorem e20 (m:Nat)(l:RL)(f:Int):aj E (aa L59) (m+1) 20 [.one (.sl false 54 l),.oi f] []=
(cond (decide (l.length<9223372036854775808))
(some ([.ob (decide ((Kf l f)≥0))],[])) none):=by kernel_rfl
theorem e21 (m:Nat)(k1 f1 t1 p1 n1 r1 o1:Int)(cf1 ct1 bf1 bt1:RL)(h1:Bool)(ef1 et1 g1 u1 v1:RL)(m1:Bool)(f:Int):aj E (aa L20) (m+1) 21 [.agg [.i k1,.i f1,.i t1,.i p1,.i n1,.i r1,.i o1,.s cf1,.s ct1,.s bf1,.s bt1,.bool h1,.s ef1,.s et1,.s g1,.sl false 96 u1,.sl false 103 v1,.bool m1],.oi f] []=
(cond (f==0)
(some ([.ob ((p1==0)&&((n1==0)&&true))],[]))
(cond (f==1)
(some ([.ob (r1==0)],[]))
(cond (f==2)
(some ([.ob (o1==0)],[]))
(cond (f==3)
(some ([.ob ((g1.length:Int)==0)],[]))
(cond (f==4)
(some ([.ob ((u1.length:Int)==0)],[]))
(cond (f==5)
(some ([.ob (noT cf1 ct1)],[]))
(cond (f==6)
(some ([.ob ((v1.length:Int)==0)],[]))
(cond (f==7)
(some ([.ob (!m1)],[]))
(cond (f==8)
(some ([.ob (!h1)],[]))
(cond (f==9)
(some ([.ob (noT bf1 bt1)],[]))
(some ([.ob (noT ef1 et1)],[])))))))))))):=by kernel_rfl
noncomputable def uI :List AItem:=F109.at [.snd,.snd,.fst,.snd,.sub,.head]
def sR (t0:RL)(t9:RL)(t10:Int)(t11:Int):St:=⟨[(0,.one (.sl false 96 t0)),(9,.one (.sl false 96 t9)),(10,.oi t10),(11,.oi t11)],[]⟩
theorem Pu (m:Nat)(c:RL):aj E (aa L21) (m+1) 109 [.one (.sl false 96 c)] []=
(cond (decide ((c.length:Int)>4))
(some ([.oi 3],[]))
(goF E (aa L21) F109 0 m uI (sR c c (c.length:Int) 0))):=by kernel_rfl
theorem Iv (m:Nat)(t0 t9:RL)(t10 t11:Int):goF E (aa L21) F109 0 (m+1) uI (sR t0 t9 t10 t11)=
(cond (decide (t11<t10))
(cond (inB t11 t9.length)
(cond ((eb (nr (rA t9 (Int.toNat t11)) 0) (nr (rA t9 (Int.toNat t11)) 1) (nr (rA t9 (Int.toNat t11)) 2) (nl (rA t9 (Int.toNat t11)) 3)) !=0)
(some ([.oi (eb (nr (rA t9 (Int.toNat t11)) 0) (nr (rA t9 (Int.toNat t11)) 1) (nr (rA t9 (Int.toNat t11)) 2) (nl (rA t9 (Int.toNat t11)) 3))],[]))
(cond (decide (t11>0))
(cond (inB (IntKind.wrap .i64 (t11 - 1)) t0.length)
(cond (decide ((ir (nr (rA t9 (Int.toNat t11)) 0) (nr (rA t9 (Int.toNat t11)) 1) (nr (rA t0 (Int.toNat (IntKind.wrap .i64 (t11 - 1)))) 0) (nr (rA t0 (Int.toNat (IntKind.wrap .i64 (t11 - 1)))) 1))≤0))
(some ([.oi 7],[]))
(goF E (aa L21) F109 0 m uI (sR t0 t9 t10 (IntKind.wrap .i64 (t11+1))))) none)
(goF E (aa L21) F109 0 m uI (sR t0 t9 t10 (IntKind.wrap .i64 (t11+1)))))) none)
(some ([.oi 0],[]))):=by kernel_rfl
noncomputable def Ay :List AItem:=F28.at [.snd,.snd,.fst,.snd,.sub,.head]
def yL (t0:RL)(t3:Int):St:=⟨[(0,.one (.sl false 96 t0)),(3,.oi t3)],[]⟩
theorem e28 (m:Nat)(c:RL):aj E (aa vb) (m+1) 28 [.one (.sl false 96 c)] []=
(cond (decide ((c.length:Int)>4))
(some ([.oi 3],[]))
(goF E (aa vb) F28 0 m Ay (yL c 0))):=by kernel_rfl
theorem MM (m:Nat)(t0:RL)(t3:Int):goF E (aa vb) F28 0 (m+1) Ay (yL t0 t3)=
(cond (decide (t3<(t0.length:Int)))
(cond (inB t3 t0.length)
(cond ((eb (nr (rA t0 (Int.toNat t3)) 0) (nr (rA t0 (Int.toNat t3)) 1) (nr (rA t0 (Int.toNat t3)) 2) (nl (rA t0 (Int.toNat t3)) 3)) !=0)
(some ([.oi (eb (nr (rA t0 (Int.toNat t3)) 0) (nr (rA t0 (Int.toNat t3)) 1) (nr (rA t0 (Int.toNat t3)) 2) (nl (rA t0 (Int.toNat t3)) 3))],[]))
(cond (decide (t3>0))
(cond (inB (IntKind.wrap .i64 (t3 - 1)) t0.length)
(cond (inB t3 t0.length)
(cond (decide ((ir (nr (rA t0 (Int.toNat (IntKind.wrap .i64 (t3 - 1)))) 0) (nr (rA t0 (Int.toNat (IntKind.wrap .i64 (t3 - 1)))) 1) (nr (rA t0 (Int.toNat t3)) 0) (nr (rA t0 (Int.toNat t3)) 1))≥0))
(some ([.oi 7],[]))
(goF E (aa vb) F28 0 m Ay (yL t0 (IntKind.wrap .i64 (t3+1))))) none) none)
(goF E (aa vb) F28 0 m Ay (yL t0 (IntKind.wrap .i64 (t3+1)))))) none)
(some ([.oi 0],[]))):=by kernel_rfl
theorem e62 (m:Nat)(k1 f1 t1 p1 n1 r1 o1:Int)(cf1 ct1 bf1 bt1:RL)(h1:Bool)(ef1 et1 g1 u1 v1:RL)(m1:Bool):aj E (aa L28) (m+1) 62 [.agg [.i k1,.i f1,.i t1,.i p1,.i n1,.i r1,.i o1,.s cf1,.s ct1,.s bf1,.s bt1,.bool h1,.s ef1,.s et1,.s g1,.sl false 96 u1,.sl false 103 v1,.bool m1]] []=
(cond (k1==5)
(cond (decide (u1.length<9223372036854775808))
(some ([.oi (vCh u1)],[])) none)
(cond (cN u1)
(cond ((vSt u1) !=0)
(some ([.oi (vSt u1)],[]))
(cond (k1==1)
(cond (o1==1)
(cond (decide ((u1.length:Int)>0))
(some ([.oi 2],[]))
(some ([.oi 0],[])))
(some ([.oi 0],[])))
(some ([.oi 0],[])))) none)):=by kernel_rfl
noncomputable def A0 :List AItem:=F64.at [.snd,.fst,.snd,.sub,.head]
def Ap (t0:RL)(t5:RL)(t6:Int)(t7:Int):St:=⟨[(0,.one (.sl false 103 t0)),(5,.one (.sl false 103 t5)),(6,.oi t6),(7,.oi t7)],[]⟩
theorem e64 (m:Nat)(v:RL):aj E (aa L62) (m+1) 64 [.one (.sl false 103 v)] []=
(goF E (aa L62) F64 0 m A0 (Ap v v (v.length:Int) 0)):=by kernel_rfl
theorem MU (m:Nat)(t0 t5:RL)(t6 t7:Int):goF E (aa L62) F64 0 (m+1) A0 (Ap t0 t5 t6 t7)=
(cond (decide (t7<t6))
(cond (inB t7 t5.length)
(cond (decide ((nr (rA t5 (Int.toNat t7)) 0)<1))
(some ([.oi 9],[]))
(cond (decide ((nr (rA t5 (Int.toNat t7)) 1)<1))
(some ([.oi 9],[]))
(cond (decide ((nr (rA t5 (Int.toNat t7)) 1)>1000000))
(some ([.oi 9],[]))
(cond (decide (t7>0))
(cond (inB (IntKind.wrap .i64 (t7 - 1)) t0.length)
(cond (decide ((nr (rA t5 (Int.toNat t7)) 0)≤(nr (rA t0 (Int.toNat (IntKind.wrap .i64 (t7 - 1)))) 0)))
(some ([.oi 7],[]))
(goF E (aa L62) F64 0 m A0 (Ap t0 t5 t6 (IntKind.wrap .i64 (t7+1))))) none)
(goF E (aa L62) F64 0 m A0 (Ap t0 t5 t6 (IntKind.wrap .i64 (t7+1)))))))) none)
(some ([.oi 0],[]))):=by kernel_rfl
theorem e22 (m:Nat)(k1 f1 t1 p1 n1 r1 o1:Int)(cf1 ct1 bf1 bt1:RL)(h1:Bool)(ef1 et1 g1 u1 v1:RL)(m1:Bool)(f:Int):aj E (aa L64) (m+1) 22 [.agg [.i k1,.i f1,.i t1,.i p1,.i n1,.i r1,.i o1,.s cf1,.s ct1,.s bf1,.s bt1,.bool h1,.s ef1,.s et1,.s g1,.sl false 96 u1,.sl false 103 v1,.bool m1],.oi f] []=
(cond (f==0)
(cond (!(cO p1))
(some ([.oi 9],[]))
(cond (decide (n1<1))
(some ([.oi 9],[]))
(cond (decide (n1>1000000))
(some ([.oi 9],[]))
(some ([.oi 0],[])))))
(cond (f==1)
(cond (decide (r1<1))
(some ([.oi 9],[]))
(cond (decide (r1>1000000))
(some ([.oi 9],[]))
(some ([.oi 0],[]))))
(cond (f==2)
(cond (decide (o1<1))
(some ([.oi 10],[]))
(cond (decide (o1>3))
(some ([.oi 10],[]))
(some ([.oi 0],[]))))
(cond (f==3)
(cond (ao g1)
(some ([.oi (bM g1)],[])) none)
(cond (f==4)
(cond (cN u1)
(some ([.oi (nO (Msg.mk k1 f1 t1 p1 n1 r1 o1 cf1 ct1 bf1 bt1 h1 ef1 et1 g1 u1 v1 m1))],[])) none)
(cond (f==5)
(cond (ao cf1&&ao ct1)
(some ([.oi (aV cf1 ct1)],[])) none)
(cond (f==6)
(cond (cN v1)
(some ([.oi (qx v1)],[])) none)
(cond (f==9)
(cond (!h1)
(cond (!(noT bf1 bt1))
(some ([.oi 2],[]))
(cond (ao bf1&&ao bt1)
(some ([.oi (aV bf1 bt1)],[])) none))
(cond (ao bf1&&ao bt1)
(some ([.oi (aV bf1 bt1)],[])) none))
(cond (f==10)
(cond (ao ef1&&ao et1)
(some ([.oi (aV ef1 et1)],[])) none)
(some ([.oi 0],[]))))))))))):=by kernel_rfl
noncomputable def Gb :List AItem:=F8.at [.snd,.snd,.snd,.snd,.fst,.snd,.sub,.head]
def Hz (t3:RL)(t27:Int)(b0:Int)(b0_1:Int)(b0_2:Int)(b0_3:Int)(b0_4:Int)(b0_5:Int)(b0_6:Int)(b0_7:RL)(b0_8:RL)(b0_9:RL)(b0_10:RL)(b0_11:Bool)(b0_12:RL)(b0_13:RL)(b0_14:RL)(b0_15:RL)(b0_16:RL)(b0_17:Bool):St:=⟨[(1,.one (.ptr 0 0)),(3,.one (.sl false 54 t3)),(27,.oi t27)],[.var [.i b0,.i b0_1,.i b0_2,.i b0_3,.i b0_4,.i b0_5,.i b0_6,.s b0_7,.s b0_8,.s b0_9,.s b0_10,.bool b0_11,.s b0_12,.s b0_13,.s b0_14,.sl false 96 b0_15,.sl false 103 b0_16,.bool b0_17]]⟩
noncomputable def KS :List AItem:=F8.at [.snd,.snd,.snd,.snd,.snd,.fst,.snd,.sub,.head]
def Mb (t41:RL)(t42:Int)(t43:Int)(b0:Int)(b0_1:Int)(b0_2:Int)(b0_3:Int)(b0_4:Int)(b0_5:Int)(b0_6:Int)(b0_7:RL)(b0_8:RL)(b0_9:RL)(b0_10:RL)(b0_11:Bool)(b0_12:RL)(b0_13:RL)(b0_14:RL)(b0_15:RL)(b0_16:RL)(b0_17:Bool):St:=⟨[(1,.one (.ptr 0 0)),(41,.one (.sl false 54 t41)),(42,.oi t42),(43,.oi t43)],[.var [.i b0,.i b0_1,.i b0_2,.i b0_3,.i b0_4,.i b0_5,.i b0_6,.s b0_7,.s b0_8,.s b0_9,.s b0_10,.bool b0_11,.s b0_12,.s b0_13,.s b0_14,.sl false 96 b0_15,.sl false 103 b0_16,.bool b0_17]]⟩
theorem e8 (m:Nat)(k1 f1 t1 p1 n1 r1 o1:Int)(cf1 ct1 bf1 bt1:RL)(h1:Bool)(ef1 et1 g1 u1 v1:RL)(m1:Bool):aj E (aa L22) (m+1) 8 [.agg [.i k1,.i f1,.i t1,.i p1,.i n1,.i r1,.i o1,.s cf1,.s ct1,.s bf1,.s bt1,.bool h1,.s ef1,.s et1,.s g1,.sl false 96 u1,.sl false 103 v1,.bool m1]] []=
(cond (!((ca k1).isSome))
(some ([.oi 10],[]))
(cond (!(cI f1))
(some ([.oi 9],[]))
(cond (!(cI t1))
(some ([.oi 9],[]))
(goF E (aa L22) F8 0 m Gb (Hz (be k1) 0 k1 f1 t1 p1 n1 r1 o1 cf1 ct1 bf1 bt1 h1 ef1 et1 g1 u1 v1 m1))))):=by kernel_rfl
theorem P7 (m:Nat)(t3:RL)(t27 b0 b0_1 b0_2 b0_3 b0_4 b0_5 b0_6:Int)(b0_7 b0_8 b0_9 b0_10:RL)(b0_11:Bool)(b0_12 b0_13 b0_14 b0_15 b0_16:RL)(b0_17:Bool):goF E (aa L22) F8 0 (m+1) Gb (Hz t3 t27 b0 b0_1 b0_2 b0_3 b0_4 b0_5 b0_6 b0_7 b0_8 b0_9 b0_10 b0_11 b0_12 b0_13 b0_14 b0_15 b0_16 b0_17)=
(cond (decide (t27<11))
(cond (decide (t3.length<9223372036854775808))
(cond (!(inF t3 t27))
(cond (!(cn (Msg.mk b0 b0_1 b0_2 b0_3 b0_4 b0_5 b0_6 b0_7 b0_8 b0_9 b0_10 b0_11 b0_12 b0_13 b0_14 b0_15 b0_16 b0_17) t27))
(some ([.oi 2],[]))
(goF E (aa L22) F8 0 m Gb (Hz t3 (IntKind.wrap .i64 (t27+1)) b0 b0_1 b0_2 b0_3 b0_4 b0_5 b0_6 b0_7 b0_8 b0_9 b0_10 b0_11 b0_12 b0_13 b0_14 b0_15 b0_16 b0_17)))
(goF E (aa L22) F8 0 m Gb (Hz t3 (IntKind.wrap .i64 (t27+1)) b0 b0_1 b0_2 b0_3 b0_4 b0_5 b0_6 b0_7 b0_8 b0_9 b0_10 b0_11 b0_12 b0_13 b0_14 b0_15 b0_16 b0_17))) none)
(goF E (aa L22) F8 0 m KS (Mb t3 (t3.length:Int) 0 b0 b0_1 b0_2 b0_3 b0_4 b0_5 b0_6 b0_7 b0_8 b0_9 b0_10 b0_11 b0_12 b0_13 b0_14 b0_15 b0_16 b0_17))):=by kernel_rfl
theorem PC (m:Nat)(t41:RL)(t42 t43 b0 b0_1 b0_2 b0_3 b0_4 b0_5 b0_6:Int)(b0_7 b0_8 b0_9 b0_10:RL)(b0_11:Bool)(b0_12 b0_13 b0_14 b0_15 b0_16:RL)(b0_17:Bool):goF E (aa L22) F8 0 (m+1) KS (Mb t41 t42 t43 b0 b0_1 b0_2 b0_3 b0_4 b0_5 b0_6 b0_7 b0_8 b0_9 b0_10 b0_11 b0_12 b0_13 b0_14 b0_15 b0_16 b0_17)=
(cond (decide (t43<t42))
(cond (inB t43 t41.length)
(cond (okM b0_7 b0_8 b0_9 b0_10 b0_12 b0_13 b0_14 b0_15 b0_16)
(cond ((aB (Msg.mk b0 b0_1 b0_2 b0_3 b0_4 b0_5 b0_6 b0_7 b0_8 b0_9 b0_10 b0_11 b0_12 b0_13 b0_14 b0_15 b0_16 b0_17) (nr (rA t41 (Int.toNat t43)) 0)) !=0)
(some ([.oi (aB (Msg.mk b0 b0_1 b0_2 b0_3 b0_4 b0_5 b0_6 b0_7 b0_8 b0_9 b0_10 b0_11 b0_12 b0_13 b0_14 b0_15 b0_16 b0_17) (nr (rA t41 (Int.toNat t43)) 0))],[]))
(goF E (aa L22) F8 0 m KS (Mb t41 t42 (IntKind.wrap .i64 (t43+1)) b0 b0_1 b0_2 b0_3 b0_4 b0_5 b0_6 b0_7 b0_8 b0_9 b0_10 b0_11 b0_12 b0_13 b0_14 b0_15 b0_16 b0_17))) none) none)
(some ([.oi 0],[]))):=by kernel_rfl
theorem e68 (m:Nat)(k:Int):aj E (aa L8) (m+1) 68 [.oi k] []=
(cond (k==1)
(some ([.agg [.bool true,.bool true,.bool true,.bool true,.bool true,.bool false,.bool false,.bool false,.bool false]],[]))
(cond (k==2)
(some ([.agg [.bool true,.bool true,.bool false,.bool true,.bool true,.bool true,.bool false,.bool false,.bool false]],[]))
(cond (k==4)
(some ([.agg [.bool false,.bool false,.bool false,.bool false,.bool false,.bool false,.bool true,.bool true,.bool false]],[]))
(cond (k==5)
(some ([.agg [.bool false,.bool false,.bool false,.bool false,.bool true,.bool true,.bool true,.bool false,.bool true]],[]))
(some ([.agg [.bool false,.bool false,.bool false,.bool false,.bool false,.bool false,.bool true,.bool false,.bool false]],[])))))):=by kernel_rfl
noncomputable def Do :List AItem:=F24.at [.snd,.snd,.fst,.sub,.fst,.snd]
def Dj (t7:Bool)(b0:Int)(b0_1:Int)(b0_2:Int)(b0_3:Int)(b0_4:Int)(b0_5:Int)(b0_6:Int)(b0_7:RL)(b0_8:RL)(b0_9:RL)(b0_10:RL)(b0_11:Bool)(b0_12:RL)(b0_13:RL)(b0_14:RL)(b0_15:RL)(b0_16:RL)(b0_17:Bool)(b1:Bool)(b1_1:Bool)(b1_2:Bool)(b1_3:Bool)(b1_4:Bool)(b1_5:Bool)(b1_6:Bool)(b1_7:Bool)(b1_8:Bool):St:=⟨[(1,.one (.ptr 0 0)),(3,.one (.ptr 1 0)),(7,.ob t7)],[.var [.i b0,.i b0_1,.i b0_2,.i b0_3,.i b0_4,.i b0_5,.i b0_6,.s b0_7,.s b0_8,.s b0_9,.s b0_10,.bool b0_11,.s b0_12,.s b0_13,.s b0_14,.sl false 96 b0_15,.sl false 103 b0_16,.bool b0_17],.var [.bool b1,.bool b1_1,.bool b1_2,.bool b1_3,.bool b1_4,.bool b1_5,.bool b1_6,.bool b1_7,.bool b1_8]]⟩
noncomputable def wy :List AItem:=F24.at [.snd,.snd,.fst,.sub,.snd]
def wZ (t7:Bool)(b0:Int)(b0_1:Int)(b0_2:Int)(b0_3:Int)(b0_4:Int)(b0_5:Int)(b0_6:Int)(b0_7:RL)(b0_8:RL)(b0_9:RL)(b0_10:RL)(b0_11:Bool)(b0_12:RL)(b0_13:RL)(b0_14:RL)(b0_15:RL)(b0_16:RL)(b0_17:Bool)(b1:Bool)(b1_1:Bool)(b1_2:Bool)(b1_3:Bool)(b1_4:Bool)(b1_5:Bool)(b1_6:Bool)(b1_7:Bool)(b1_8:Bool):St:=⟨[(1,.one (.ptr 0 0)),(3,.one (.ptr 1 0)),(7,.ob t7)],[.var [.i b0,.i b0_1,.i b0_2,.i b0_3,.i b0_4,.i b0_5,.i b0_6,.s b0_7,.s b0_8,.s b0_9,.s b0_10,.bool b0_11,.s b0_12,.s b0_13,.s b0_14,.sl false 96 b0_15,.sl false 103 b0_16,.bool b0_17],.var [.bool b1,.bool b1_1,.bool b1_2,.bool b1_3,.bool b1_4,.bool b1_5,.bool b1_6,.bool b1_7,.bool b1_8]]⟩
noncomputable def DD :List AItem:=F24.at [.snd,.snd,.fst,.sub,.fst,.snd,.snd,.snd]
def En (t7:Bool)(b0:Int)(b0_1:Int)(b0_2:Int)(b0_3:Int)(b0_4:Int)(b0_5:Int)(b0_6:Int)(b0_7:RL)(b0_8:RL)(b0_9:RL)(b0_10:RL)(b0_11:Bool)(b0_12:RL)(b0_13:RL)(b0_14:RL)(b0_15:RL)(b0_16:RL)(b0_17:Bool)(b1:Bool)(b1_1:Bool)(b1_2:Bool)(b1_3:Bool)(b1_4:Bool)(b1_5:Bool)(b1_6:Bool)(b1_7:Bool)(b1_8:Bool):St:=⟨[(1,.one (.ptr 0 0)),(3,.one (.ptr 1 0)),(7,.ob t7)],[.var [.i b0,.i b0_1,.i b0_2,.i b0_3,.i b0_4,.i b0_5,.i b0_6,.s b0_7,.s b0_8,.s b0_9,.s b0_10,.bool b0_11,.s b0_12,.s b0_13,.s b0_14,.sl false 96 b0_15,.sl false 103 b0_16,.bool b0_17],.var [.bool b1,.bool b1_1,.bool b1_2,.bool b1_3,.bool b1_4,.bool b1_5,.bool b1_6,.bool b1_7,.bool b1_8]]⟩
noncomputable def D8 :List AItem:=F24.at [.snd,.snd,.fst,.sub,.snd,.snd,.fst,.snd]
def D5 (t33:Bool)(b0:Int)(b0_1:Int)(b0_2:Int)(b0_3:Int)(b0_4:Int)(b0_5:Int)(b0_6:Int)(b0_7:RL)(b0_8:RL)(b0_9:RL)(b0_10:RL)(b0_11:Bool)(b0_12:RL)(b0_13:RL)(b0_14:RL)(b0_15:RL)(b0_16:RL)(b0_17:Bool)(b1:Bool)(b1_1:Bool)(b1_2:Bool)(b1_3:Bool)(b1_4:Bool)(b1_5:Bool)(b1_6:Bool)(b1_7:Bool)(b1_8:Bool):St:=⟨[(1,.one (.ptr 0 0)),(3,.one (.ptr 1 0)),(33,.ob t33)],[.var [.i b0,.i b0_1,.i b0_2,.i b0_3,.i b0_4,.i b0_5,.i b0_6,.s b0_7,.s b0_8,.s b0_9,.s b0_10,.bool b0_11,.s b0_12,.s b0_13,.s b0_14,.sl false 96 b0_15,.sl false 103 b0_16,.bool b0_17],.var [.bool b1,.bool b1_1,.bool b1_2,.bool b1_3,.bool b1_4,.bool b1_5,.bool b1_6,.bool b1_7,.bool b1_8]]⟩
noncomputable def sA :List AItem:=F24.at [.snd,.snd,.fst,.sub,.snd,.snd,.snd]
def ss (t33:Bool)(b0:Int)(b0_1:Int)(b0_2:Int)(b0_3:Int)(b0_4:Int)(b0_5:Int)(b0_6:Int)(b0_7:RL)(b0_8:RL)(b0_9:RL)(b0_10:RL)(b0_11:Bool)(b0_12:RL)(b0_13:RL)(b0_14:RL)(b0_15:RL)(b0_16:RL)(b0_17:Bool)(b1:Bool)(b1_1:Bool)(b1_2:Bool)(b1_3:Bool)(b1_4:Bool)(b1_5:Bool)(b1_6:Bool)(b1_7:Bool)(b1_8:Bool):St:=⟨[(1,.one (.ptr 0 0)),(3,.one (.ptr 1 0)),(33,.ob t33)],[.var [.i b0,.i b0_1,.i b0_2,.i b0_3,.i b0_4,.i b0_5,.i b0_6,.s b0_7,.s b0_8,.s b0_9,.s b0_10,.bool b0_11,.s b0_12,.s b0_13,.s b0_14,.sl false 96 b0_15,.sl false 103 b0_16,.bool b0_17],.var [.bool b1,.bool b1_1,.bool b1_2,.bool b1_3,.bool b1_4,.bool b1_5,.bool b1_6,.bool b1_7,.bool b1_8]]⟩
noncomputable def Dm :List AItem:=F24.at [.snd,.snd,.fst,.sub,.snd,.snd,.fst,.snd,.snd,.snd]
def DK (t33:Bool)(b0:Int)(b0_1:Int)(b0_2:Int)(b0_3:Int)(b0_4:Int)(b0_5:Int)(b0_6:Int)(b0_7:RL)(b0_8:RL)(b0_9:RL)(b0_10:RL)(b0_11:Bool)(b0_12:RL)(b0_13:RL)(b0_14:RL)(b0_15:RL)(b0_16:RL)(b0_17:Bool)(b1:Bool)(b1_1:Bool)(b1_2:Bool)(b1_3:Bool)(b1_4:Bool)(b1_5:Bool)(b1_6:Bool)(b1_7:Bool)(b1_8:Bool):St:=⟨[(1,.one (.ptr 0 0)),(3,.one (.ptr 1 0)),(33,.ob t33)],[.var [.i b0,.i b0_1,.i b0_2,.i b0_3,.i b0_4,.i b0_5,.i b0_6,.s b0_7,.s b0_8,.s b0_9,.s b0_10,.bool b0_11,.s b0_12,.s b0_13,.s b0_14,.sl false 96 b0_15,.sl false 103 b0_16,.bool b0_17],.var [.bool b1,.bool b1_1,.bool b1_2,.bool b1_3,.bool b1_4,.bool b1_5,.bool b1_6,.bool b1_7,.bool b1_8]]⟩
noncomputable def vQ :List AItem:=F24.at [.snd,.snd,.fst,.sub,.snd,.snd,.snd,.snd,.fst,.snd]
def wA (t68:Bool)(b0:Int)(b0_1:Int)(b0_2:Int)(b0_3:Int)(b0_4:Int)(b0_5:Int)(b0_6:Int)(b0_7:RL)(b0_8:RL)(b0_9:RL)(b0_10:RL)(b0_11:Bool)(b0_12:RL)(b0_13:RL)(b0_14:RL)(b0_15:RL)(b0_16:RL)(b0_17:Bool)(b1:Bool)(b1_1:Bool)(b1_2:Bool)(b1_3:Bool)(b1_4:Bool)(b1_5:Bool)(b1_6:Bool)(b1_7:Bool)(b1_8:Bool):St:=⟨[(1,.one (.ptr 0 0)),(3,.one (.ptr 1 0)),(68,.ob t68)],[.var [.i b0,.i b0_1,.i b0_2,.i b0_3,.i b0_4,.i b0_5,.i b0_6,.s b0_7,.s b0_8,.s b0_9,.s b0_10,.bool b0_11,.s b0_12,.s b0_13,.s b0_14,.sl false 96 b0_15,.sl false 103 b0_16,.bool b0_17],.var [.bool b1,.bool b1_1,.bool b1_2,.bool b1_3,.bool b1_4,.bool b1_5,.bool b1_6,.bool b1_7,.bool b1_8]]⟩
noncomputable def DJ :List AItem:=F24.at [.snd,.snd,.fst,.sub,.snd,.snd,.fst,.snd,.snd,.snd,.snd,.snd]
def De (t33:Bool)(b0:Int)(b0_1:Int)(b0_2:Int)(b0_3:Int)(b0_4:Int)(b0_5:Int)(b0_6:Int)(b0_7:RL)(b0_8:RL)(b0_9:RL)(b0_10:RL)(b0_11:Bool)(b0_12:RL)(b0_13:RL)(b0_14:RL)(b0_15:RL)(b0_16:RL)(b0_17:Bool)(b1:Bool)(b1_1:Bool)(b1_2:Bool)(b1_3:Bool)(b1_4:Bool)(b1_5:Bool)(b1_6:Bool)(b1_7:Bool)(b1_8:Bool):St:=⟨[(1,.one (.ptr 0 0)),(3,.one (.ptr 1 0)),(33,.ob t33)],[.var [.i b0,.i b0_1,.i b0_2,.i b0_3,.i b0_4,.i b0_5,.i b0_6,.s b0_7,.s b0_8,.s b0_9,.s b0_10,.bool b0_11,.s b0_12,.s b0_13,.s b0_14,.sl false 96 b0_15,.sl false 103 b0_16,.bool b0_17],.var [.bool b1,.bool b1_1,.bool b1_2,.bool b1_3,.bool b1_4,.bool b1_5,.bool b1_6,.bool b1_7,.bool b1_8]]⟩
noncomputable def zK :List AItem:=F24.at [.snd,.snd,.fst,.sub,.snd,.snd,.snd,.snd,.snd]
def Bg (t68:Bool):St:=⟨[(68,.ob t68)],[]⟩
noncomputable def MQ :List AItem:=F24.at [.snd,.snd,.snd]
def Mw :St:=⟨[],[]⟩
theorem e24 (m:Nat)(k1 f1 t1 p1 n1 r1 o1:Int)(cf1 ct1 bf1 bt1:RL)(h1:Bool)(ef1 et1 g1 u1 v1:RL)(m1:Bool):aj E (aa L68) (m+1) 24 [.agg [.i k1,.i f1,.i t1,.i p1,.i n1,.i r1,.i o1,.s cf1,.s ct1,.s bf1,.s bt1,.bool h1,.s ef1,.s et1,.s g1,.sl false 96 u1,.sl false 103 v1,.bool m1]] []=
(cond (!(uA k1))
(goF E (aa L68) F24 0 m Do (Dj (!((p1==0)&&((n1==0)&&true))) k1 f1 t1 p1 n1 r1 o1 cf1 ct1 bf1 bt1 h1 ef1 et1 g1 u1 v1 m1 (uA k1) (uA k1) (k1==1) (uA k1) (uS k1) (uB k1) (!(uA k1)) (k1==4) (k1==5)))
(goF E (aa L68) F24 0 m Do (Dj false k1 f1 t1 p1 n1 r1 o1 cf1 ct1 bf1 bt1 h1 ef1 et1 g1 u1 v1 m1 (uA k1) (uA k1) (k1==1) (uA k1) (uS k1) (uB k1) (!(uA k1)) (k1==4) (k1==5)))):=by kernel_rfl
theorem Pt (m:Nat)(t7:Bool)(b0 b0_1 b0_2 b0_3 b0_4 b0_5 b0_6:Int)(b0_7 b0_8 b0_9 b0_10:RL)(b0_11:Bool)(b0_12 b0_13 b0_14 b0_15 b0_16:RL)(b0_17 b1 b1_1 b1_2 b1_3 b1_4 b1_5 b1_6 b1_7 b1_8:Bool):goF E (aa L68) F24 0 (m+1) Do (Dj t7 b0 b0_1 b0_2 b0_3 b0_4 b0_5 b0_6 b0_7 b0_8 b0_9 b0_10 b0_11 b0_12 b0_13 b0_14 b0_15 b0_16 b0_17 b1 b1_1 b1_2 b1_3 b1_4 b1_5 b1_6 b1_7 b1_8)=
(cond t7
(goF E (aa L68) F24 0 m wy (wZ t7 b0 b0_1 b0_2 b0_3 b0_4 b0_5 b0_6 b0_7 b0_8 b0_9 b0_10 b0_11 b0_12 b0_13 b0_14 b0_15 b0_16 b0_17 b1 b1_1 b1_2 b1_3 b1_4 b1_5 b1_6 b1_7 b1_8))
(cond (!b1_1)
(goF E (aa L68) F24 0 m DD (En (b0_5 !=0) b0 b0_1 b0_2 b0_3 b0_4 b0_5 b0_6 b0_7 b0_8 b0_9 b0_10 b0_11 b0_12 b0_13 b0_14 b0_15 b0_16 b0_17 b1 b1_1 b1_2 b1_3 b1_4 b1_5 b1_6 b1_7 b1_8))
(goF E (aa L68) F24 0 m DD (En false b0 b0_1 b0_2 b0_3 b0_4 b0_5 b0_6 b0_7 b0_8 b0_9 b0_10 b0_11 b0_12 b0_13 b0_14 b0_15 b0_16 b0_17 b1 b1_1 b1_2 b1_3 b1_4 b1_5 b1_6 b1_7 b1_8)))):=by kernel_rfl
theorem PX (m:Nat)(t7:Bool)(b0 b0_1 b0_2 b0_3 b0_4 b0_5 b0_6:Int)(b0_7 b0_8 b0_9 b0_10:RL)(b0_11:Bool)(b0_12 b0_13 b0_14 b0_15 b0_16:RL)(b0_17 b1 b1_1 b1_2 b1_3 b1_4 b1_5 b1_6 b1_7 b1_8:Bool):goF E (aa L68) F24 0 (m+1) wy (wZ t7 b0 b0_1 b0_2 b0_3 b0_4 b0_5 b0_6 b0_7 b0_8 b0_9 b0_10 b0_11 b0_12 b0_13 b0_14 b0_15 b0_16 b0_17 b1 b1_1 b1_2 b1_3 b1_4 b1_5 b1_6 b1_7 b1_8)=
(cond t7
(some ([.ob false],[]))
(cond (!b1_3)
(goF E (aa L68) F24 0 m D8 (D5 (decide ((b0_14.length:Int)>0)) b0 b0_1 b0_2 b0_3 b0_4 b0_5 b0_6 b0_7 b0_8 b0_9 b0_10 b0_11 b0_12 b0_13 b0_14 b0_15 b0_16 b0_17 b1 b1_1 b1_2 b1_3 b1_4 b1_5 b1_6 b1_7 b1_8))
(goF E (aa L68) F24 0 m D8 (D5 false b0 b0_1 b0_2 b0_3 b0_4 b0_5 b0_6 b0_7 b0_8 b0_9 b0_10 b0_11 b0_12 b0_13 b0_14 b0_15 b0_16 b0_17 b1 b1_1 b1_2 b1_3 b1_4 b1_5 b1_6 b1_7 b1_8)))):=by kernel_rfl
theorem PL (m:Nat)(t7:Bool)(b0 b0_1 b0_2 b0_3 b0_4 b0_5 b0_6:Int)(b0_7 b0_8 b0_9 b0_10:RL)(b0_11:Bool)(b0_12 b0_13 b0_14 b0_15 b0_16:RL)(b0_17 b1 b1_1 b1_2 b1_3 b1_4 b1_5 b1_6 b1_7 b1_8:Bool):goF E (aa L68) F24 0 (m+1) DD (En t7 b0 b0_1 b0_2 b0_3 b0_4 b0_5 b0_6 b0_7 b0_8 b0_9 b0_10 b0_11 b0_12 b0_13 b0_14 b0_15 b0_16 b0_17 b1 b1_1 b1_2 b1_3 b1_4 b1_5 b1_6 b1_7 b1_8)=
(cond t7
(goF E (aa L68) F24 0 m wy (wZ t7 b0 b0_1 b0_2 b0_3 b0_4 b0_5 b0_6 b0_7 b0_8 b0_9 b0_10 b0_11 b0_12 b0_13 b0_14 b0_15 b0_16 b0_17 b1 b1_1 b1_2 b1_3 b1_4 b1_5 b1_6 b1_7 b1_8))
(cond (!b1_2)
(goF E (aa L68) F24 0 m wy (wZ (b0_6 !=0) b0 b0_1 b0_2 b0_3 b0_4 b0_5 b0_6 b0_7 b0_8 b0_9 b0_10 b0_11 b0_12 b0_13 b0_14 b0_15 b0_16 b0_17 b1 b1_1 b1_2 b1_3 b1_4 b1_5 b1_6 b1_7 b1_8))
(goF E (aa L68) F24 0 m wy (wZ false b0 b0_1 b0_2 b0_3 b0_4 b0_5 b0_6 b0_7 b0_8 b0_9 b0_10 b0_11 b0_12 b0_13 b0_14 b0_15 b0_16 b0_17 b1 b1_1 b1_2 b1_3 b1_4 b1_5 b1_6 b1_7 b1_8)))):=by kernel_rfl
theorem PZ (m:Nat)(t33:Bool)(b0 b0_1 b0_2 b0_3 b0_4 b0_5 b0_6:Int)(b0_7 b0_8 b0_9 b0_10:RL)(b0_11:Bool)(b0_12 b0_13 b0_14 b0_15 b0_16:RL)(b0_17 b1 b1_1 b1_2 b1_3 b1_4 b1_5 b1_6 b1_7 b1_8:Bool):goF E (aa L68) F24 0 (m+1) D8 (D5 t33 b0 b0_1 b0_2 b0_3 b0_4 b0_5 b0_6 b0_7 b0_8 b0_9 b0_10 b0_11 b0_12 b0_13 b0_14 b0_15 b0_16 b0_17 b1 b1_1 b1_2 b1_3 b1_4 b1_5 b1_6 b1_7 b1_8)=
(cond t33
(goF E (aa L68) F24 0 m sA (ss t33 b0 b0_1 b0_2 b0_3 b0_4 b0_5 b0_6 b0_7 b0_8 b0_9 b0_10 b0_11 b0_12 b0_13 b0_14 b0_15 b0_16 b0_17 b1 b1_1 b1_2 b1_3 b1_4 b1_5 b1_6 b1_7 b1_8))
(cond (!b1_4)
(goF E (aa L68) F24 0 m Dm (DK (decide ((b0_15.length:Int)>0)) b0 b0_1 b0_2 b0_3 b0_4 b0_5 b0_6 b0_7 b0_8 b0_9 b0_10 b0_11 b0_12 b0_13 b0_14 b0_15 b0_16 b0_17 b1 b1_1 b1_2 b1_3 b1_4 b1_5 b1_6 b1_7 b1_8))
(goF E (aa L68) F24 0 m Dm (DK false b0 b0_1 b0_2 b0_3 b0_4 b0_5 b0_6 b0_7 b0_8 b0_9 b0_10 b0_11 b0_12 b0_13 b0_14 b0_15 b0_16 b0_17 b1 b1_1 b1_2 b1_3 b1_4 b1_5 b1_6 b1_7 b1_8)))):=by kernel_rfl
theorem Pb (m:Nat)(t33:Bool)(b0 b0_1 b0_2 b0_3 b0_4 b0_5 b0_6:Int)(b0_7 b0_8 b0_9 b0_10:RL)(b0_11:Bool)(b0_12 b0_13 b0_14 b0_15 b0_16:RL)(b0_17 b1 b1_1 b1_2 b1_3 b1_4 b1_5 b1_6 b1_7 b1_8:Bool):goF E (aa L68) F24 0 (m+1) sA (ss t33 b0 b0_1 b0_2 b0_3 b0_4 b0_5 b0_6 b0_7 b0_8 b0_9 b0_10 b0_11 b0_12 b0_13 b0_14 b0_15 b0_16 b0_17 b1 b1_1 b1_2 b1_3 b1_4 b1_5 b1_6 b1_7 b1_8)=
(cond t33
(some ([.ob false],[]))
(cond (!b1_5)
(cond b0_11
(goF E (aa L68) F24 0 m vQ (wA true b0 b0_1 b0_2 b0_3 b0_4 b0_5 b0_6 b0_7 b0_8 b0_9 b0_10 b0_11 b0_12 b0_13 b0_14 b0_15 b0_16 b0_17 b1 b1_1 b1_2 b1_3 b1_4 b1_5 b1_6 b1_7 b1_8))
(cond (!(noT b0_9 b0_10))
(goF E (aa L68) F24 0 m vQ (wA true b0 b0_1 b0_2 b0_3 b0_4 b0_5 b0_6 b0_7 b0_8 b0_9 b0_10 b0_11 b0_12 b0_13 b0_14 b0_15 b0_16 b0_17 b1 b1_1 b1_2 b1_3 b1_4 b1_5 b1_6 b1_7 b1_8))
(goF E (aa L68) F24 0 m vQ (wA (!(noT b0_12 b0_13)) b0 b0_1 b0_2 b0_3 b0_4 b0_5 b0_6 b0_7 b0_8 b0_9 b0_10 b0_11 b0_12 b0_13 b0_14 b0_15 b0_16 b0_17 b1 b1_1 b1_2 b1_3 b1_4 b1_5 b1_6 b1_7 b1_8))))
(goF E (aa L68) F24 0 m vQ (wA false b0 b0_1 b0_2 b0_3 b0_4 b0_5 b0_6 b0_7 b0_8 b0_9 b0_10 b0_11 b0_12 b0_13 b0_14 b0_15 b0_16 b0_17 b1 b1_1 b1_2 b1_3 b1_4 b1_5 b1_6 b1_7 b1_8)))):=by kernel_rfl
theorem Pd (m:Nat)(t33:Bool)(b0 b0_1 b0_2 b0_3 b0_4 b0_5 b0_6:Int)(b0_7 b0_8 b0_9 b0_10:RL)(b0_11:Bool)(b0_12 b0_13 b0_14 b0_15 b0_16:RL)(b0_17 b1 b1_1 b1_2 b1_3 b1_4 b1_5 b1_6 b1_7 b1_8:Bool):goF E (aa L68) F24 0 (m+1) Dm (DK t33 b0 b0_1 b0_2 b0_3 b0_4 b0_5 b0_6 b0_7 b0_8 b0_9 b0_10 b0_11 b0_12 b0_13 b0_14 b0_15 b0_16 b0_17 b1 b1_1 b1_2 b1_3 b1_4 b1_5 b1_6 b1_7 b1_8)=
(cond t33
(goF E (aa L68) F24 0 m sA (ss t33 b0 b0_1 b0_2 b0_3 b0_4 b0_5 b0_6 b0_7 b0_8 b0_9 b0_10 b0_11 b0_12 b0_13 b0_14 b0_15 b0_16 b0_17 b1 b1_1 b1_2 b1_3 b1_4 b1_5 b1_6 b1_7 b1_8))
(cond (!b1_7)
(goF E (aa L68) F24 0 m DJ (De (decide ((b0_16.length:Int)>0)) b0 b0_1 b0_2 b0_3 b0_4 b0_5 b0_6 b0_7 b0_8 b0_9 b0_10 b0_11 b0_12 b0_13 b0_14 b0_15 b0_16 b0_17 b1 b1_1 b1_2 b1_3 b1_4 b1_5 b1_6 b1_7 b1_8))
(goF E (aa L68) F24 0 m DJ (De false b0 b0_1 b0_2 b0_3 b0_4 b0_5 b0_6 b0_7 b0_8 b0_9 b0_10 b0_11 b0_12 b0_13 b0_14 b0_15 b0_16 b0_17 b1 b1_1 b1_2 b1_3 b1_4 b1_5 b1_6 b1_7 b1_8)))):=by kernel_rfl
theorem P8 (m:Nat)(t68:Bool)(b0 b0_1 b0_2 b0_3 b0_4 b0_5 b0_6:Int)(b0_7 b0_8 b0_9 b0_10:RL)(b0_11:Bool)(b0_12 b0_13 b0_14 b0_15 b0_16:RL)(b0_17 b1 b1_1 b1_2 b1_3 b1_4 b1_5 b1_6 b1_7 b1_8:Bool):goF E (aa L68) F24 0 (m+1) vQ (wA t68 b0 b0_1 b0_2 b0_3 b0_4 b0_5 b0_6 b0_7 b0_8 b0_9 b0_10 b0_11 b0_12 b0_13 b0_14 b0_15 b0_16 b0_17 b1 b1_1 b1_2 b1_3 b1_4 b1_5 b1_6 b1_7 b1_8)=
(cond t68
(goF E (aa L68) F24 0 m zK (Bg t68))
(cond (!b1_6)
(goF E (aa L68) F24 0 m zK (Bg (!(noT b0_7 b0_8))))
(goF E (aa L68) F24 0 m zK (Bg false)))):=by kernel_rfl
theorem P3 (m:Nat)(t33:Bool)(b0 b0_1 b0_2 b0_3 b0_4 b0_5 b0_6:Int)(b0_7 b0_8 b0_9 b0_10:RL)(b0_11:Bool)(b0_12 b0_13 b0_14 b0_15 b0_16:RL)(b0_17 b1 b1_1 b1_2 b1_3 b1_4 b1_5 b1_6 b1_7 b1_8:Bool):goF E (aa L68) F24 0 (m+1) DJ (De t33 b0 b0_1 b0_2 b0_3 b0_4 b0_5 b0_6 b0_7 b0_8 b0_9 b0_10 b0_11 b0_12 b0_13 b0_14 b0_15 b0_16 b0_17 b1 b1_1 b1_2 b1_3 b1_4 b1_5 b1_6 b1_7 b1_8)=
(cond t33
(goF E (aa L68) F24 0 m sA (ss t33 b0 b0_1 b0_2 b0_3 b0_4 b0_5 b0_6 b0_7 b0_8 b0_9 b0_10 b0_11 b0_12 b0_13 b0_14 b0_15 b0_16 b0_17 b1 b1_1 b1_2 b1_3 b1_4 b1_5 b1_6 b1_7 b1_8))
(cond (!b1_8)
(goF E (aa L68) F24 0 m sA (ss b0_17 b0 b0_1 b0_2 b0_3 b0_4 b0_5 b0_6 b0_7 b0_8 b0_9 b0_10 b0_11 b0_12 b0_13 b0_14 b0_15 b0_16 b0_17 b1 b1_1 b1_2 b1_3 b1_4 b1_5 b1_6 b1_7 b1_8))
(goF E (aa L68) F24 0 m sA (ss false b0 b0_1 b0_2 b0_3 b0_4 b0_5 b0_6 b0_7 b0_8 b0_9 b0_10 b0_11 b0_12 b0_13 b0_14 b0_15 b0_16 b0_17 b1 b1_1 b1_2 b1_3 b1_4 b1_5 b1_6 b1_7 b1_8)))):=by kernel_rfl
theorem PH (m:Nat)(t68:Bool):goF E (aa L68) F24 0 (m+1) zK (Bg t68)=
(cond t68
(some ([.ob false],[]))
(goF E (aa L68) F24 0 m MQ (Mw))):=by kernel_rfl
theorem Qb (m:Nat):goF E (aa L68) F24 0 (m+1) MQ (Mw)=
(some ([.ob true],[])):=by kernel_rfl
theorem e29 (m:Nat)(k1 f1 t1 p1 n1 r1 o1:Int)(cf1 ct1 bf1 bt1:RL)(h1:Bool)(ef1 et1 g1 u1 v1:RL)(m1:Bool):aj E (aa L24) (m+1) 29 [.agg [.i k1,.i f1,.i t1,.i p1,.i n1,.i r1,.i o1,.s cf1,.s ct1,.s bf1,.s bt1,.bool h1,.s ef1,.s et1,.s g1,.sl false 96 u1,.sl false 103 v1,.bool m1]] []=
(cond (!h1)
(cond (!(noT bf1 bt1))
(some ([.oi 2],[]))
(cond (ao bf1&&ao bt1)
(cond ((aV bf1 bt1) !=0)
(cond (ao bf1&&ao bt1)
(some ([.oi (aV bf1 bt1)],[])) none)
(cond (ao ef1&&ao et1)
(some ([.oi (aV ef1 et1)],[])) none)) none))
(cond (ao bf1&&ao bt1)
(cond ((aV bf1 bt1) !=0)
(cond (ao bf1&&ao bt1)
(some ([.oi (aV bf1 bt1)],[])) none)
(cond (ao ef1&&ao et1)
(some ([.oi (aV ef1 et1)],[])) none)) none)):=by kernel_rfl
noncomputable def uc :List AItem:=F25.at [.snd,.fst,.sub,.snd]
def tV (t3:Bool)(b0:Int)(b0_1:Int)(b0_2:Int)(b0_3:Int)(b0_4:Int)(b0_5:Int)(b0_6:Int)(b0_7:RL)(b0_8:RL)(b0_9:RL)(b0_10:RL)(b0_11:Bool)(b0_12:RL)(b0_13:RL)(b0_14:RL)(b0_15:RL)(b0_16:RL)(b0_17:Bool):St:=⟨[(1,.one (.ptr 0 0)),(3,.ob t3)],[.var [.i b0,.i b0_1,.i b0_2,.i b0_3,.i b0_4,.i b0_5,.i b0_6,.s b0_7,.s b0_8,.s b0_9,.s b0_10,.bool b0_11,.s b0_12,.s b0_13,.s b0_14,.sl false 96 b0_15,.sl false 103 b0_16,.bool b0_17]]⟩
noncomputable def Dq :List AItem:=F25.at [.snd,.fst,.sub,.snd,.snd,.snd]
def Er (t28:Bool)(b0:Int)(b0_1:Int)(b0_2:Int)(b0_3:Int)(b0_4:Int)(b0_5:Int)(b0_6:Int)(b0_7:RL)(b0_8:RL)(b0_9:RL)(b0_10:RL)(b0_11:Bool)(b0_12:RL)(b0_13:RL)(b0_14:RL)(b0_15:RL)(b0_16:RL)(b0_17:Bool):St:=⟨[(1,.one (.ptr 0 0)),(28,.ob t28)],[.var [.i b0,.i b0_1,.i b0_2,.i b0_3,.i b0_4,.i b0_5,.i b0_6,.s b0_7,.s b0_8,.s b0_9,.s b0_10,.bool b0_11,.s b0_12,.s b0_13,.s b0_14,.sl false 96 b0_15,.sl false 103 b0_16,.bool b0_17]]⟩
noncomputable def An :List AItem:=F25.at [.snd,.fst,.sub,.snd,.snd,.snd,.snd,.snd]
def yK (t37:Bool)(b0:Int)(b0_1:Int)(b0_2:Int)(b0_3:Int)(b0_4:Int)(b0_5:Int)(b0_6:Int)(b0_7:RL)(b0_8:RL)(b0_9:RL)(b0_10:RL)(b0_11:Bool)(b0_12:RL)(b0_13:RL)(b0_14:RL)(b0_15:RL)(b0_16:RL)(b0_17:Bool):St:=⟨[(1,.one (.ptr 0 0)),(37,.ob t37)],[.var [.i b0,.i b0_1,.i b0_2,.i b0_3,.i b0_4,.i b0_5,.i b0_6,.s b0_7,.s b0_8,.s b0_9,.s b0_10,.bool b0_11,.s b0_12,.s b0_13,.s b0_14,.sl false 96 b0_15,.sl false 103 b0_16,.bool b0_17]]⟩
noncomputable def Eu :List AItem:=F25.at [.snd,.fst,.sub,.snd,.snd,.snd,.snd,.snd,.snd,.snd,.snd,.snd,.snd,.snd]
def Dh (t67:Bool)(b0:Int)(b0_1:Int)(b0_2:Int)(b0_3:Int)(b0_4:Int)(b0_5:Int)(b0_6:Int)(b0_7:RL)(b0_8:RL)(b0_9:RL)(b0_10:RL)(b0_11:Bool)(b0_12:RL)(b0_13:RL)(b0_14:RL)(b0_15:RL)(b0_16:RL)(b0_17:Bool):St:=⟨[(1,.one (.ptr 0 0)),(67,.ob t67)],[.var [.i b0,.i b0_1,.i b0_2,.i b0_3,.i b0_4,.i b0_5,.i b0_6,.s b0_7,.s b0_8,.s b0_9,.s b0_10,.bool b0_11,.s b0_12,.s b0_13,.s b0_14,.sl false 96 b0_15,.sl false 103 b0_16,.bool b0_17]]⟩
noncomputable def HR :List AItem:=F25.at [.snd,.snd]
def HK :St:=⟨[],[]⟩
theorem e25 (m:Nat)(k1 f1 t1 p1 n1 r1 o1:Int)(cf1 ct1 bf1 bt1:RL)(h1:Bool)(ef1 et1 g1 u1 v1:RL)(m1:Bool):aj E (aa L29) (m+1) 25 [.agg [.i k1,.i f1,.i t1,.i p1,.i n1,.i r1,.i o1,.s cf1,.s ct1,.s bf1,.s bt1,.bool h1,.s ef1,.s et1,.s g1,.sl false 96 u1,.sl false 103 v1,.bool m1]] []=
(cond (!(d9 p1))
(cond (!(ic p1))
(goF E (aa L29) F25 0 m uc (tV true k1 f1 t1 p1 n1 r1 o1 cf1 ct1 bf1 bt1 h1 ef1 et1 g1 u1 v1 m1))
(cond (decide (n1<1))
(goF E (aa L29) F25 0 m uc (tV true k1 f1 t1 p1 n1 r1 o1 cf1 ct1 bf1 bt1 h1 ef1 et1 g1 u1 v1 m1))
(goF E (aa L29) F25 0 m uc (tV (decide (n1>1000000)) k1 f1 t1 p1 n1 r1 o1 cf1 ct1 bf1 bt1 h1 ef1 et1 g1 u1 v1 m1))))
(cond (decide (n1<1))
(goF E (aa L29) F25 0 m uc (tV true k1 f1 t1 p1 n1 r1 o1 cf1 ct1 bf1 bt1 h1 ef1 et1 g1 u1 v1 m1))
(goF E (aa L29) F25 0 m uc (tV (decide (n1>1000000)) k1 f1 t1 p1 n1 r1 o1 cf1 ct1 bf1 bt1 h1 ef1 et1 g1 u1 v1 m1)))):=by kernel_rfl
theorem P4 (m:Nat)(t3:Bool)(b0 b0_1 b0_2 b0_3 b0_4 b0_5 b0_6:Int)(b0_7 b0_8 b0_9 b0_10:RL)(b0_11:Bool)(b0_12 b0_13 b0_14 b0_15 b0_16:RL)(b0_17:Bool):goF E (aa L29) F25 0 (m+1) uc (tV t3 b0 b0_1 b0_2 b0_3 b0_4 b0_5 b0_6 b0_7 b0_8 b0_9 b0_10 b0_11 b0_12 b0_13 b0_14 b0_15 b0_16 b0_17)=
(cond t3
(some ([.oi 9],[]))
(cond (decide (b0_5<1))
(goF E (aa L29) F25 0 m Dq (Er true b0 b0_1 b0_2 b0_3 b0_4 b0_5 b0_6 b0_7 b0_8 b0_9 b0_10 b0_11 b0_12 b0_13 b0_14 b0_15 b0_16 b0_17))
(goF E (aa L29) F25 0 m Dq (Er (decide (b0_5>1000000)) b0 b0_1 b0_2 b0_3 b0_4 b0_5 b0_6 b0_7 b0_8 b0_9 b0_10 b0_11 b0_12 b0_13 b0_14 b0_15 b0_16 b0_17)))):=by kernel_rfl
theorem P9 (m:Nat)(t28:Bool)(b0 b0_1 b0_2 b0_3 b0_4 b0_5 b0_6:Int)(b0_7 b0_8 b0_9 b0_10:RL)(b0_11:Bool)(b0_12 b0_13 b0_14 b0_15 b0_16:RL)(b0_17:Bool):goF E (aa L29) F25 0 (m+1) Dq (Er t28 b0 b0_1 b0_2 b0_3 b0_4 b0_5 b0_6 b0_7 b0_8 b0_9 b0_10 b0_11 b0_12 b0_13 b0_14 b0_15 b0_16 b0_17)=
(cond t28
(some ([.oi 9],[]))
(cond (b0==1)
(cond (decide (b0_6<1))
(goF E (aa L29) F25 0 m An (yK true b0 b0_1 b0_2 b0_3 b0_4 b0_5 b0_6 b0_7 b0_8 b0_9 b0_10 b0_11 b0_12 b0_13 b0_14 b0_15 b0_16 b0_17))
(goF E (aa L29) F25 0 m An (yK (decide (b0_6>3)) b0 b0_1 b0_2 b0_3 b0_4 b0_5 b0_6 b0_7 b0_8 b0_9 b0_10 b0_11 b0_12 b0_13 b0_14 b0_15 b0_16 b0_17)))
(goF E (aa L29) F25 0 m An (yK false b0 b0_1 b0_2 b0_3 b0_4 b0_5 b0_6 b0_7 b0_8 b0_9 b0_10 b0_11 b0_12 b0_13 b0_14 b0_15 b0_16 b0_17)))):=by kernel_rfl
theorem PD (m:Nat)(t37:Bool)(b0 b0_1 b0_2 b0_3 b0_4 b0_5 b0_6:Int)(b0_7 b0_8 b0_9 b0_10:RL)(b0_11:Bool)(b0_12 b0_13 b0_14 b0_15 b0_16:RL)(b0_17:Bool):goF E (aa L29) F25 0 (m+1) An (yK t37 b0 b0_1 b0_2 b0_3 b0_4 b0_5 b0_6 b0_7 b0_8 b0_9 b0_10 b0_11 b0_12 b0_13 b0_14 b0_15 b0_16 b0_17)=
(cond t37
(some ([.oi 10],[]))
(cond (ao b0_14)
(cond ((bM b0_14) !=0)
(cond (ao b0_14)
(some ([.oi (bM b0_14)],[])) none)
(cond (cN b0_15)
(cond ((vSt b0_15) !=0)
(cond (cN b0_15)
(some ([.oi (vSt b0_15)],[])) none)
(cond (b0_6==1)
(goF E (aa L29) F25 0 m Eu (Dh (decide ((b0_15.length:Int)>0)) b0 b0_1 b0_2 b0_3 b0_4 b0_5 b0_6 b0_7 b0_8 b0_9 b0_10 b0_11 b0_12 b0_13 b0_14 b0_15 b0_16 b0_17))
(goF E (aa L29) F25 0 m Eu (Dh false b0 b0_1 b0_2 b0_3 b0_4 b0_5 b0_6 b0_7 b0_8 b0_9 b0_10 b0_11 b0_12 b0_13 b0_14 b0_15 b0_16 b0_17)))) none)) none)):=by kernel_rfl
theorem Qa (m:Nat)(t67:Bool)(b0 b0_1 b0_2 b0_3 b0_4 b0_5 b0_6:Int)(b0_7 b0_8 b0_9 b0_10:RL)(b0_11:Bool)(b0_12 b0_13 b0_14 b0_15 b0_16:RL)(b0_17:Bool):goF E (aa L29) F25 0 (m+1) Eu (Dh t67 b0 b0_1 b0_2 b0_3 b0_4 b0_5 b0_6 b0_7 b0_8 b0_9 b0_10 b0_11 b0_12 b0_13 b0_14 b0_15 b0_16 b0_17)=
(cond t67
(some ([.oi 2],[]))
(cond (b0==2)
(cond (okM b0_7 b0_8 b0_9 b0_10 b0_12 b0_13 b0_14 b0_15 b0_16)
(some ([.oi (eD (Msg.mk b0 b0_1 b0_2 b0_3 b0_4 b0_5 b0_6 b0_7 b0_8 b0_9 b0_10 b0_11 b0_12 b0_13 b0_14 b0_15 b0_16 b0_17))],[])) none)
(goF E (aa L29) F25 0 m HR (HK)))):=by kernel_rfl
theorem PT (m:Nat):goF E (aa L29) F25 0 (m+1) HR (HK)=
(some ([.oi 0],[])):=by kernel_rfl
theorem e9 (m:Nat)(k1 f1 t1 p1 n1 r1 o1:Int)(cf1 ct1 bf1 bt1:RL)(h1:Bool)(ef1 et1 g1 u1 v1:RL)(m1:Bool):aj E (aa L25) (m+1) 9 [.agg [.i k1,.i f1,.i t1,.i p1,.i n1,.i r1,.i o1,.s cf1,.s ct1,.s bf1,.s bt1,.bool h1,.s ef1,.s et1,.s g1,.sl false 96 u1,.sl false 103 v1,.bool m1]] []=
(cond (decide (k1<1))
(some ([.oi 10],[]))
(cond (decide (k1>8))
(some ([.oi 10],[]))
(cond (!(cI f1))
(some ([.oi 9],[]))
(cond (!(cI t1))
(some ([.oi 9],[]))
(cond (!(cS (Msg.mk k1 f1 t1 p1 n1 r1 o1 cf1 ct1 bf1 bt1 h1 ef1 et1 g1 u1 v1 m1)))
(some ([.oi 2],[]))
(cond (k1==1)
(cond (okM cf1 ct1 bf1 bt1 ef1 et1 g1 u1 v1)
(some ([.oi (nc (Msg.mk k1 f1 t1 p1 n1 r1 o1 cf1 ct1 bf1 bt1 h1 ef1 et1 g1 u1 v1 m1))],[])) none)
(cond (k1==2)
(cond (okM cf1 ct1 bf1 bt1 ef1 et1 g1 u1 v1)
(some ([.oi (nc (Msg.mk k1 f1 t1 p1 n1 r1 o1 cf1 ct1 bf1 bt1 h1 ef1 et1 g1 u1 v1 m1))],[])) none)
(cond (ao cf1&&ao ct1)
(cond ((aV cf1 ct1) !=0)
(cond (ao cf1&&ao ct1)
(some ([.oi (aV cf1 ct1)],[])) none)
(cond (k1==4)
(cond (cN v1)
(some ([.oi (qx v1)],[])) none)
(cond (k1==5)
(cond (decide (u1.length<9223372036854775808))
(cond ((vCh u1) !=0)
(cond (decide (u1.length<9223372036854775808))
(some ([.oi (vCh u1)],[])) none)
(cond (k1==5)
(cond (okM cf1 ct1 bf1 bt1 ef1 et1 g1 u1 v1)
(some ([.oi (eD (Msg.mk k1 f1 t1 p1 n1 r1 o1 cf1 ct1 bf1 bt1 h1 ef1 et1 g1 u1 v1 m1))],[])) none)
(some ([.oi 0],[])))) none)
(cond (k1==5)
(cond (okM cf1 ct1 bf1 bt1 ef1 et1 g1 u1 v1)
(some ([.oi (eD (Msg.mk k1 f1 t1 p1 n1 r1 o1 cf1 ct1 bf1 bt1 h1 ef1 et1 g1 u1 v1 m1))],[])) none)
(some ([.oi 0],[])))))) none)))))))):=by kernel_rfl
theorem e84 (m:Nat)(x:RL):aj E (aa L9) (m+1) 84 [.or x] []=
(cond ((x.length:Int)==0)
(some ([.ob false,.oi 0,.oi 1],[]))
(cond (inB 0 x.length)
(cond (decide ((nr (rA x 0) 0)>1))
(some ([.ob false,.oi 0,.oi 2],[]))
(cond (inB 0 x.length)
(some ([.ob ((nr (rA x 0) 0)==1),.oi 1,.oi 0],[])) none)) none)):=by kernel_rfl
theorem e90 (m:Nat)(x:RL):aj E (aa L84) (m+1) 90 [.or x] []=
(cond ((x.length:Int)==0)
(some ([.ob false,.oi 0,.oi 1],[]))
(cond (inB 0 x.length)
(cond (decide ((nr (rA x 0) 0)>1))
(some ([.ob false,.oi 0,.oi 2],[]))
(cond (inB 0 x.length)
(some ([.ob ((nr (rA x 0) 0)==1),.oi 1,.oi 0],[])) none)) none)):=by kernel_rfl
theorem e75 (m:Nat)(b:RL)(o e:Int):aj E (aa L90) (m+1) 75 [.one (.ptr 0 0),.one (.fn 76 [])] [.var [.r b,.i o,.i e]]=
(cond (e !=0)
(some ([.one (.int .u64 0)],[.var [.r b,.i o,.i e]]))
(cond (inB o (b.length+1))
(cond (aI (ag b (Int.toNat o)))
(some ([.one (.int .u64 (aD (ag b (Int.toNat o))).1)],[.var [.r b,.i (IntKind.wrap .i64 (o+(aD (ag b (Int.toNat o))).2.1)),.i (aD (ag b (Int.toNat o))).2.2]])) none) none)):=by kernel_rfl
theorem e31 (m:Nat)(w:Bool)(k:Int)(b:RL)(o e:Int):aj E (aa L75) (m+1) 31 [.one (.ptr 0 0),.ob w,.oi k] [.var [.r b,.i o,.i e]]=
(cond w
(cond (e==0)
(some ([],[.var [.r b,.i o,.i k]]))
(some ([],[.var [.r b,.i o,.i e]])))
(some ([],[.var [.r b,.i o,.i e]]))):=by kernel_rfl
theorem e30 (m:Nat)(b:RL)(o e:Int):aj E (aa L31) (m+1) 30 [.one (.ptr 0 0)] [.var [.r b,.i o,.i e]]=
(cond (aT b o)
(cond ((bN (decide ((bx 0 aD b o e).1>2147483647)) 9 (bx 0 aD b o e).2.2) !=0)
(some ([.oi 0],[.var [.r b,.i (bx 0 aD b o e).2.1,.i (bN (decide ((bx 0 aD b o e).1>2147483647)) 9 (bx 0 aD b o e).2.2)]]))
(some ([.oi (IntKind.wrap .i64 (bx 0 aD b o e).1)],[.var [.r b,.i (bx 0 aD b o e).2.1,.i (bN (decide ((bx 0 aD b o e).1>2147483647)) 9 (bx 0 aD b o e).2.2)]]))) none):=by kernel_rfl
theorem e77 (m:Nat)(b:RL)(o e:Int):aj E (aa L30) (m+1) 77 [.one (.ptr 0 0),.one (.fn 78 [])] [.var [.r b,.i o,.i e]]=
(cond (e !=0)
(some ([.os ([]:RL)],[.var [.r b,.i o,.i e]]))
(cond (inB o (b.length+1))
(cond (aI (ag b (Int.toNat o)))
(some ([.os (aX (ag b (Int.toNat o))).1],[.var [.r b,.i (IntKind.wrap .i64 (o+(aX (ag b (Int.toNat o))).2.1)),.i (aX (ag b (Int.toNat o))).2.2]])) none) none)):=by kernel_rfl
theorem e80 (m:Nat)(b:RL)(o e:Int):aj E (aa L77) (m+1) 80 [.one (.ptr 0 0),.one (.fn 81 [])] [.var [.r b,.i o,.i e]]=
(cond (e !=0)
(some ([.agg [.s ([]:RL),.s ([]:RL)]],[.var [.r b,.i o,.i e]]))
(cond (inB o (b.length+1))
(cond (aI (ag b (Int.toNat o)))
(some ([.agg [.s (bn (ag b (Int.toNat o))).1,.s (bn (ag b (Int.toNat o))).2.1]],[.var [.r b,.i (IntKind.wrap .i64 (o+(bn (ag b (Int.toNat o))).2.2.1)),.i (bn (ag b (Int.toNat o))).2.2.2]])) none) none)):=by kernel_rfl
theorem S0 (m:Nat)(b:RL)(o e:Int):aj E (aa L80) (m+1) 117 [.one (.ptr 0 0),.one (.fn 118 [])] [.var [.r b,.i o,.i e]]=
(cond (e !=0)
(some ([.agg [.i 0,.i 0,.i 0,.sl false 136 ([]:RL)]],[.var [.r b,.i o,.i e]]))
(cond (inB o (b.length+1))
(cond (aI (ag b (Int.toNat o)))
(some ([.agg [.i (bY (ag b (Int.toNat o))).1,.i (bY (ag b (Int.toNat o))).2.1,.i (bY (ag b (Int.toNat o))).2.2.1,.sl false 136 (bY (ag b (Int.toNat o))).2.2.2.1]],[.var [.r b,.i (IntKind.wrap .i64 (o+(bY (ag b (Int.toNat o))).2.2.2.2.1)),.i (bY (ag b (Int.toNat o))).2.2.2.2.2]])) none) none)):=by kernel_rfl
theorem e83 (m:Nat)(b:RL)(o e:Int):aj E (aa HD) (m+1) 83 [.one (.ptr 0 0),.one (.fn 84 [])] [.var [.r b,.i o,.i e]]=
(cond (e !=0)
(some ([.ob false],[.var [.r b,.i o,.i e]]))
(cond (inB o (b.length+1))
(cond (aI (ag b (Int.toNat o)))
(some ([.ob (aQ (ag b (Int.toNat o))).1],[.var [.r b,.i (IntKind.wrap .i64 (o+(aQ (ag b (Int.toNat o))).2.1)),.i (aQ (ag b (Int.toNat o))).2.2]])) none) none)):=by kernel_rfl
noncomputable def Ef :List AItem:=F79.at [.snd,.snd,.snd,.snd,.fst,.snd,.sub,.head]
def C9 (t3:Int)(t4:RL)(t5:Int)(b0:RL)(b0_1:Int)(b0_2:Int):St:=⟨[(0,.one (.ptr 0 0)),(3,.oi t3),(4,.one (.sl true 96 t4)),(5,.oi t5)],[.var [.r b0,.i b0_1,.i b0_2]]⟩
theorem e79 (m:Nat)(b:RL)(o e:Int):aj E (aa L83) (m+1) 79 [.one (.ptr 0 0)] [.var [.r b,.i o,.i e]]=
(cond (aT b o)
(goF E (aa L83) F79 1 m Ef (C9 (ae b o e).1 ([]:RL) 0 b (ae b o e).2.1 (bN (decide ((ae b o e).1>48)) 3 (ae b o e).2.2))) none):=by kernel_rfl
theorem HY (m:Nat)(t3:Int)(t4:RL)(t5:Int)(b0:RL)(b0_1 b0_2:Int):goF E (aa L83) F79 1 (m+1) Ef (C9 t3 t4 t5 b0 b0_1 b0_2)=
(cond (decide (t5<t3))
(cond (b0_2==0)
(cond (aT b0 b0_1)
(cond (cb (t4.length+ [[Cell.int .i64 (dR b0 b0_1 b0_2).1.1,Cell.int .i64 (dR b0 b0_1 b0_2).1.2.1,Cell.int .i64 (dR b0 b0_1 b0_2).1.2.2.1,Cell.slice 136 (dR b0 b0_1 b0_2).1.2.2.2]].length))
(goF E (aa L83) F79 1 m Ef (C9 t3 (t4++ [[Cell.int .i64 (dR b0 b0_1 b0_2).1.1,Cell.int .i64 (dR b0 b0_1 b0_2).1.2.1,Cell.int .i64 (dR b0 b0_1 b0_2).1.2.2.1,Cell.slice 136 (dR b0 b0_1 b0_2).1.2.2.2]]) (IntKind.wrap .i64 (t5+1)) b0 (dR b0 b0_1 b0_2).2.1 (dR b0 b0_1 b0_2).2.2)) none) none)
(some ([.one (.sl false 96 t4)],[.var [.r b0,.i b0_1,.i b0_2]])))
(some ([.one (.sl false 96 t4)],[.var [.r b0,.i b0_1,.i b0_2]]))):=by kernel_rfl
noncomputable def Ev :List AItem:=F82.at [.snd,.snd,.snd,.snd,.fst,.snd,.sub,.head]
def DR (t3:Int)(t4:RL)(t5:Int)(b0:RL)(b0_1:Int)(b0_2:Int):St:=⟨[(0,.one (.ptr 0 0)),(3,.oi t3),(4,.one (.sl true 103 t4)),(5,.oi t5)],[.var [.r b0,.i b0_1,.i b0_2]]⟩
theorem e82 (m:Nat)(b:RL)(o e:Int):aj E (aa L79) (m+1) 82 [.one (.ptr 0 0)] [.var [.r b,.i o,.i e]]=
(cond (aT b o)
(goF E (aa L79) F82 1 m Ev (DR (ae b o e).1 ([]:RL) 0 b (ae b o e).2.1 (bN (decide ((ae b o e).1>100)) 3 (ae b o e).2.2))) none):=by kernel_rfl
theorem HO (m:Nat)(t3:Int)(t4:RL)(t5:Int)(b0:RL)(b0_1 b0_2:Int):goF E (aa L79) F82 1 (m+1) Ev (DR t3 t4 t5 b0 b0_1 b0_2)=
(cond (decide (t5<t3))
(cond (b0_2==0)
(cond (aT b0 b0_1)
(cond (aT b0 (ae b0 b0_1 b0_2).2.1)
(cond (cb (t4.length+ [[Cell.int .i64 (ae b0 b0_1 b0_2).1,Cell.int .i64 (ae b0 (ae b0 b0_1 b0_2).2.1 (ae b0 b0_1 b0_2).2.2).1]].length))
(goF E (aa L79) F82 1 m Ev (DR t3 (t4++ [[Cell.int .i64 (ae b0 b0_1 b0_2).1,Cell.int .i64 (ae b0 (ae b0 b0_1 b0_2).2.1 (ae b0 b0_1 b0_2).2.2).1]]) (IntKind.wrap .i64 (t5+1)) b0 (ae b0 (ae b0 b0_1 b0_2).2.1 (ae b0 b0_1 b0_2).2.2).2.1 (ae b0 (ae b0 b0_1 b0_2).2.1 (ae b0 b0_1 b0_2).2.2).2.2)) none) none) none)
(some ([.one (.sl false 103 t4)],[.var [.r b0,.i b0_1,.i b0_2]])))
(some ([.one (.sl false 103 t4)],[.var [.r b0,.i b0_1,.i b0_2]]))):=by kernel_rfl
theorem e32 (m:Nat)(f:Int)(b:RL)(o e k1 f1 t1 p1 n1 r1 o1:Int)(cf1 ct1 bf1 bt1:RL)(h1:Bool)(ef1 et1 g1 u1 v1:RL)(m1:Bool):aj E (aa L82) (m+1) 32 [.one (.ptr 0 0),.one (.ptr 1 0),.oi f] [.var [.r b,.i o,.i e],.var [.i k1,.i f1,.i t1,.i p1,.i n1,.i r1,.i o1,.s cf1,.s ct1,.s bf1,.s bt1,.bool h1,.s ef1,.s et1,.s g1,.sl false 96 u1,.sl false 103 v1,.bool m1]]=
(cond (f==0)
(cond (aT b o)
(cond (aT b (ae b o e).2.1)
(some ([],[.var [.r b,.i (ae b (ae b o e).2.1 (ae b o e).2.2).2.1,.i (ae b (ae b o e).2.1 (ae b o e).2.2).2.2],.var [.i k1,.i f1,.i t1,.i (ae b o e).1,.i (ae b (ae b o e).2.1 (ae b o e).2.2).1,.i r1,.i o1,.s cf1,.s ct1,.s bf1,.s bt1,.bool h1,.s ef1,.s et1,.s g1,.sl false 96 u1,.sl false 103 v1,.bool m1]])) none) none)
(cond (f==1)
(cond (aT b o)
(some ([],[.var [.r b,.i (ae b o e).2.1,.i (ae b o e).2.2],.var [.i k1,.i f1,.i t1,.i p1,.i n1,.i (ae b o e).1,.i o1,.s cf1,.s ct1,.s bf1,.s bt1,.bool h1,.s ef1,.s et1,.s g1,.sl false 96 u1,.sl false 103 v1,.bool m1]])) none)
(cond (f==2)
(cond (aT b o)
(some ([],[.var [.r b,.i (ae b o e).2.1,.i (ae b o e).2.2],.var [.i k1,.i f1,.i t1,.i p1,.i n1,.i r1,.i (ae b o e).1,.s cf1,.s ct1,.s bf1,.s bt1,.bool h1,.s ef1,.s et1,.s g1,.sl false 96 u1,.sl false 103 v1,.bool m1]])) none)
(cond (f==3)
(cond (aT b o)
(some ([],[.var [.r b,.i (qo b o e).2.1,.i (qo b o e).2.2],.var [.i k1,.i f1,.i t1,.i p1,.i n1,.i r1,.i o1,.s cf1,.s ct1,.s bf1,.s bt1,.bool h1,.s ef1,.s et1,.s (qo b o e).1,.sl false 96 u1,.sl false 103 v1,.bool m1]])) none)
(cond (f==4)
(cond (aT b o)
(some ([],[.var [.r b,.i (rst b o e).2.1,.i (rst b o e).2.2],.var [.i k1,.i f1,.i t1,.i p1,.i n1,.i r1,.i o1,.s cf1,.s ct1,.s bf1,.s bt1,.bool h1,.s ef1,.s et1,.s g1,.sl false 96 (rst b o e).1,.sl false 103 v1,.bool m1]])) none)
(cond (f==5)
(cond (aT b o)
(some ([],[.var [.r b,.i (dk b o e).2.1,.i (dk b o e).2.2],.var [.i k1,.i f1,.i t1,.i p1,.i n1,.i r1,.i o1,.s (dk b o e).1.1,.s (dk b o e).1.2,.s bf1,.s bt1,.bool h1,.s ef1,.s et1,.s g1,.sl false 96 u1,.sl false 103 v1,.bool m1]])) none)
(cond (f==6)
(cond (aT b o)
(some ([],[.var [.r b,.i (rvc b o e).2.1,.i (rvc b o e).2.2],.var [.i k1,.i f1,.i t1,.i p1,.i n1,.i r1,.i o1,.s cf1,.s ct1,.s bf1,.s bt1,.bool h1,.s ef1,.s et1,.s g1,.sl false 96 u1,.sl false 103 (rvc b o e).1,.bool m1]])) none)
(cond (f==7)
(cond (aT b o)
(some ([],[.var [.r b,.i (iI b o e).2.1,.i (iI b o e).2.2],.var [.i k1,.i f1,.i t1,.i p1,.i n1,.i r1,.i o1,.s cf1,.s ct1,.s bf1,.s bt1,.bool h1,.s ef1,.s et1,.s g1,.sl false 96 u1,.sl false 103 v1,.bool (iI b o e).1]])) none)
(cond (f==8)
(cond (aT b o)
(some ([],[.var [.r b,.i (iI b o e).2.1,.i (iI b o e).2.2],.var [.i k1,.i f1,.i t1,.i p1,.i n1,.i r1,.i o1,.s cf1,.s ct1,.s bf1,.s bt1,.bool (iI b o e).1,.s ef1,.s et1,.s g1,.sl false 96 u1,.sl false 103 v1,.bool m1]])) none)
(cond (f==9)
(cond h1
(cond (aT b o)
(some ([],[.var [.r b,.i (dk b o e).2.1,.i (dk b o e).2.2],.var [.i k1,.i f1,.i t1,.i p1,.i n1,.i r1,.i o1,.s cf1,.s ct1,.s (dk b o e).1.1,.s (dk b o e).1.2,.bool h1,.s ef1,.s et1,.s g1,.sl false 96 u1,.sl false 103 v1,.bool m1]])) none)
(some ([],[.var [.r b,.i o,.i e],.var [.i k1,.i f1,.i t1,.i p1,.i n1,.i r1,.i o1,.s cf1,.s ct1,.s bf1,.s bt1,.bool h1,.s ef1,.s et1,.s g1,.sl false 96 u1,.sl false 103 v1,.bool m1]])))
(cond (f==10)
(cond (aT b o)
(some ([],[.var [.r b,.i (dk b o e).2.1,.i (dk b o e).2.2],.var [.i k1,.i f1,.i t1,.i p1,.i n1,.i r1,.i o1,.s cf1,.s ct1,.s bf1,.s bt1,.bool h1,.s (dk b o e).1.1,.s (dk b o e).1.2,.s g1,.sl false 96 u1,.sl false 103 v1,.bool m1]])) none)
(some ([],[.var [.r b,.i o,.i e],.var [.i k1,.i f1,.i t1,.i p1,.i n1,.i r1,.i o1,.s cf1,.s ct1,.s bf1,.s bt1,.bool h1,.s ef1,.s et1,.s g1,.sl false 96 u1,.sl false 103 v1,.bool m1]]))))))))))))):=by kernel_rfl
noncomputable def DC :List AItem:=F10.at [.snd,.snd,.snd,.snd,.snd,.snd,.snd,.fst,.snd,.sub,.head]
def Ei (t33:RL)(t34:Int)(t35:Int)(b0:Int)(b0_1:Int)(b0_2:Int)(b0_3:Int)(b0_4:Int)(b0_5:Int)(b0_6:Int)(b0_7:RL)(b0_8:RL)(b0_9:RL)(b0_10:RL)(b0_11:Bool)(b0_12:RL)(b0_13:RL)(b0_14:RL)(b0_15:RL)(b0_16:RL)(b0_17:Bool)(b1:RL)(b1_1:Int)(b1_2:Int)(b2:Int)(b2_1:Int)(b2_2:Int)(b2_3:Int)(b2_4:Int)(b2_5:Int)(b2_6:Int)(b2_7:RL)(b2_8:RL)(b2_9:RL)(b2_10:RL)(b2_11:Bool)(b2_12:RL)(b2_13:RL)(b2_14:RL)(b2_15:RL)(b2_16:RL)(b2_17:Bool):St:=⟨[(2,.one (.ptr 0 0)),(5,.one (.ptr 1 0)),(6,.one (.ptr 2 0)),(33,.one (.sl false 54 t33)),(34,.oi t34),(35,.oi t35)],[.var [.i b0,.i b0_1,.i b0_2,.i b0_3,.i b0_4,.i b0_5,.i b0_6,.sl true 93 b0_7,.sl true 93 b0_8,.sl true 93 b0_9,.sl true 93 b0_10,.bool b0_11,.sl true 93 b0_12,.sl true 93 b0_13,.sl true 93 b0_14,.sl true 96 b0_15,.sl true 103 b0_16,.bool b0_17],.var [.r b1,.i b1_1,.i b1_2],.var [.i b2,.i b2_1,.i b2_2,.i b2_3,.i b2_4,.i b2_5,.i b2_6,.s b2_7,.s b2_8,.s b2_9,.s b2_10,.bool b2_11,.s b2_12,.s b2_13,.s b2_14,.sl false 96 b2_15,.sl false 103 b2_16,.bool b2_17]]⟩
theorem e10 (m:Nat)(x:RL):aj E (aa L32) (m+1) 10 [.or x] []=
(cond (aT x 0)
(cond (aT x (ae x 0 0).2.1)
(cond (aT x (ae x (ae x 0 0).2.1 (bN (!((ca (ae x 0 0).1).isSome)) 10 (ae x 0 0).2.2)).2.1)
(goF E (aa L32) F10 0 m DC (Ei (be (ae x 0 0).1) ((be (ae x 0 0).1).length:Int) 0 0 0 0 0 0 0 0 ([]:RL) ([]:RL) ([]:RL) ([]:RL) false ([]:RL) ([]:RL) ([]:RL) ([]:RL) ([]:RL) false x (ae x (ae x (ae x 0 0).2.1 (bN (!((ca (ae x 0 0).1).isSome)) 10 (ae x 0 0).2.2)).2.1 (ae x (ae x 0 0).2.1 (bN (!((ca (ae x 0 0).1).isSome)) 10 (ae x 0 0).2.2)).2.2).2.1 (ae x (ae x (ae x 0 0).2.1 (bN (!((ca (ae x 0 0).1).isSome)) 10 (ae x 0 0).2.2)).2.1 (ae x (ae x 0 0).2.1 (bN (!((ca (ae x 0 0).1).isSome)) 10 (ae x 0 0).2.2)).2.2).2.2 (ae x 0 0).1 (ae x (ae x 0 0).2.1 (bN (!((ca (ae x 0 0).1).isSome)) 10 (ae x 0 0).2.2)).1 (ae x (ae x (ae x 0 0).2.1 (bN (!((ca (ae x 0 0).1).isSome)) 10 (ae x 0 0).2.2)).2.1 (ae x (ae x 0 0).2.1 (bN (!((ca (ae x 0 0).1).isSome)) 10 (ae x 0 0).2.2)).2.2).1 0 0 0 0 ([]:RL) ([]:RL) ([]:RL) ([]:RL) false ([]:RL) ([]:RL) ([]:RL) ([]:RL) ([]:RL) false)) none) none) none):=by kernel_rfl
theorem M3 (m:Nat)(t33:RL)(t34 t35 b0 b0_1 b0_2 b0_3 b0_4 b0_5 b0_6:Int)(b0_7 b0_8 b0_9 b0_10:RL)(b0_11:Bool)(b0_12 b0_13 b0_14 b0_15 b0_16:RL)(b0_17:Bool)(b1:RL)(b1_1 b1_2 b2 b2_1 b2_2 b2_3 b2_4 b2_5 b2_6:Int)(b2_7 b2_8 b2_9 b2_10:RL)(b2_11:Bool)(b2_12 b2_13 b2_14 b2_15 b2_16:RL)(b2_17:Bool):goF E (aa L32) F10 0 (m+1) DC (Ei t33 t34 t35 b0 b0_1 b0_2 b0_3 b0_4 b0_5 b0_6 b0_7 b0_8 b0_9 b0_10 b0_11 b0_12 b0_13 b0_14 b0_15 b0_16 b0_17 b1 b1_1 b1_2 b2 b2_1 b2_2 b2_3 b2_4 b2_5 b2_6 b2_7 b2_8 b2_9 b2_10 b2_11 b2_12 b2_13 b2_14 b2_15 b2_16 b2_17)=
 let z2:=Msg.mk b2 b2_1 b2_2 b2_3 b2_4 b2_5 b2_6 b2_7 b2_8 b2_9 b2_10 b2_11 b2_12 b2_13 b2_14 b2_15 b2_16 b2_17
 let z1:=rdF b1 b1_1 b1_2 z2 (nr (rA t33 (Int.toNat t35)) 0)
(cond (decide (t35<t34))
(cond (inB t35 t33.length)
(cond (aT b1 b1_1)
(goF E (aa L32) F10 0 m DC (Ei t33 t34 (IntKind.wrap .i64 (t35+1)) b0 b0_1 b0_2 b0_3 b0_4 b0_5 b0_6 b0_7 b0_8 b0_9 b0_10 b0_11 b0_12 b0_13 b0_14 b0_15 b0_16 b0_17 b1 z1.2.1 z1.2.2 z1.1.k z1.1.f z1.1.t z1.1.p z1.1.n z1.1.r z1.1.o z1.1.cf z1.1.ct z1.1.bf z1.1.bt z1.1.h z1.1.ef z1.1.et z1.1.g z1.1.u z1.1.v z1.1.m)) none) none)
(cond (b1_2==0)
(cond (okM b2_7 b2_8 b2_9 b2_10 b2_12 b2_13 b2_14 b2_15 b2_16)
(cond ((gM z2) !=0)
(some ([.agg [.i 0,.i 0,.i 0,.i 0,.i 0,.i 0,.i 0,.s ([]:RL),.s ([]:RL),.s ([]:RL),.s ([]:RL),.bool false,.s ([]:RL),.s ([]:RL),.s ([]:RL),.sl false 96 ([]:RL),.sl false 103 ([]:RL),.bool false],.oi 0,.oi (gM z2)],[]))
(some ([.agg [.i b2,.i b2_1,.i b2_2,.i b2_3,.i b2_4,.i b2_5,.i b2_6,.s b2_7,.s b2_8,.s b2_9,.s b2_10,.bool b2_11,.s b2_12,.s b2_13,.s b2_14,.sl false 96 b2_15,.sl false 103 b2_16,.bool b2_17],.oi b1_1,.oi 0],[]))) none)
(cond (b1_2 !=0)
(some ([.agg [.i 0,.i 0,.i 0,.i 0,.i 0,.i 0,.i 0,.s ([]:RL),.s ([]:RL),.s ([]:RL),.s ([]:RL),.bool false,.s ([]:RL),.s ([]:RL),.s ([]:RL),.sl false 96 ([]:RL),.sl false 103 ([]:RL),.bool false],.oi 0,.oi b1_2],[]))
(some ([.agg [.i b2,.i b2_1,.i b2_2,.i b2_3,.i b2_4,.i b2_5,.i b2_6,.s b2_7,.s b2_8,.s b2_9,.s b2_10,.bool b2_11,.s b2_12,.s b2_13,.s b2_14,.sl false 96 b2_15,.sl false 103 b2_16,.bool b2_17],.oi b1_1,.oi 0],[]))))):=by kernel_rfl
theorem e88 (m:Nat)(k1 f1 t1 p1 n1 r1 o1:Int)(cf1 ct1 bf1 bt1:RL)(h1:Bool)(ef1 et1 g1 u1 v1:RL)(m1:Bool)(x:RL):aj E (aa L10) (m+1) 88 [.agg [.i k1,.i f1,.i t1,.i p1,.i n1,.i r1,.i o1,.s cf1,.s ct1,.s bf1,.s bt1,.bool h1,.s ef1,.s et1,.s g1,.sl false 96 u1,.sl false 103 v1,.bool m1],.or x] []=
(cond (aI x)
(cond ((aQ x).2.2 !=0)
(some ([.agg [.i k1,.i f1,.i t1,.i p1,.i n1,.i r1,.i o1,.s cf1,.s ct1,.s bf1,.s bt1,.bool h1,.s ef1,.s et1,.s g1,.sl false 96 u1,.sl false 103 v1,.bool m1],.oi 0,.oi (aQ x).2.2],[]))
(cond (aQ x).1
(cond (inB (aQ x).2.1 (x.length+1))
(cond (aI (ag x (Int.toNat (aQ x).2.1)))
(cond ((bn (ag x (Int.toNat (aQ x).2.1))).2.2.2 !=0)
(some ([.agg [.i k1,.i f1,.i t1,.i p1,.i n1,.i r1,.i o1,.s cf1,.s ct1,.s bf1,.s bt1,.bool (aQ x).1,.s ef1,.s et1,.s g1,.sl false 96 u1,.sl false 103 v1,.bool m1],.oi 0,.oi (bn (ag x (Int.toNat (aQ x).2.1))).2.2.2],[]))
(cond (inB (IntKind.wrap .i64 ((aQ x).2.1+(bn (ag x (Int.toNat (aQ x).2.1))).2.2.1)) (x.length+1))
(cond (aI (ag x (Int.toNat (IntKind.wrap .i64 ((aQ x).2.1+(bn (ag x (Int.toNat (aQ x).2.1))).2.2.1)))))
(cond ((bn (ag x (Int.toNat (IntKind.wrap .i64 ((aQ x).2.1+(bn (ag x (Int.toNat (aQ x).2.1))).2.2.1))))).2.2.2 !=0)
(some ([.agg [.i k1,.i f1,.i t1,.i p1,.i n1,.i r1,.i o1,.s cf1,.s ct1,.s (bn (ag x (Int.toNat (aQ x).2.1))).1,.s (bn (ag x (Int.toNat (aQ x).2.1))).2.1,.bool (aQ x).1,.s ef1,.s et1,.s g1,.sl false 96 u1,.sl false 103 v1,.bool m1],.oi 0,.oi (bn (ag x (Int.toNat (IntKind.wrap .i64 ((aQ x).2.1+(bn (ag x (Int.toNat (aQ x).2.1))).2.2.1))))).2.2.2],[]))
(some ([.agg [.i k1,.i f1,.i t1,.i p1,.i n1,.i r1,.i o1,.s cf1,.s ct1,.s (bn (ag x (Int.toNat (aQ x).2.1))).1,.s (bn (ag x (Int.toNat (aQ x).2.1))).2.1,.bool (aQ x).1,.s (bn (ag x (Int.toNat (IntKind.wrap .i64 ((aQ x).2.1+(bn (ag x (Int.toNat (aQ x).2.1))).2.2.1))))).1,.s (bn (ag x (Int.toNat (IntKind.wrap .i64 ((aQ x).2.1+(bn (ag x (Int.toNat (aQ x).2.1))).2.2.1))))).2.1,.s g1,.sl false 96 u1,.sl false 103 v1,.bool m1],.oi (IntKind.wrap .i64 ((IntKind.wrap .i64 ((aQ x).2.1+(bn (ag x (Int.toNat (aQ x).2.1))).2.2.1))+(bn (ag x (Int.toNat (IntKind.wrap .i64 ((aQ x).2.1+(bn (ag x (Int.toNat (aQ x).2.1))).2.2.1))))).2.2.1)),.oi 0],[]))) none) none)) none) none)
(cond (inB (aQ x).2.1 (x.length+1))
(cond (aI (ag x (Int.toNat (aQ x).2.1)))
(cond ((bn (ag x (Int.toNat (aQ x).2.1))).2.2.2 !=0)
(some ([.agg [.i k1,.i f1,.i t1,.i p1,.i n1,.i r1,.i o1,.s cf1,.s ct1,.s bf1,.s bt1,.bool (aQ x).1,.s ef1,.s et1,.s g1,.sl false 96 u1,.sl false 103 v1,.bool m1],.oi 0,.oi (bn (ag x (Int.toNat (aQ x).2.1))).2.2.2],[]))
(some ([.agg [.i k1,.i f1,.i t1,.i p1,.i n1,.i r1,.i o1,.s cf1,.s ct1,.s bf1,.s bt1,.bool (aQ x).1,.s (bn (ag x (Int.toNat (aQ x).2.1))).1,.s (bn (ag x (Int.toNat (aQ x).2.1))).2.1,.s g1,.sl false 96 u1,.sl false 103 v1,.bool m1],.oi (IntKind.wrap .i64 ((aQ x).2.1+(bn (ag x (Int.toNat (aQ x).2.1))).2.2.1)),.oi 0],[]))) none) none))) none):=by kernel_rfl
theorem e35 (m:Nat)(k1 f1 t1 p1 n1 r1 o1:Int)(h1 m1:Bool)(x:RL):aj E (aa L88) (m+1) 35 [.agg [.i k1,.i f1,.i t1,.i p1,.i n1,.i r1,.i o1,.nils,.nils,.nils,.nils,.bool h1,.nils,.nils,.nils,.nils,.nils,.bool m1],.or x] []=
 let z1:=aX (ag x (Int.toNat (ai x 4).2.1))
 let z3:=aX (ag x (Int.toNat (ai x 3).2.1))
 let z5:=IntKind.wrap .i64 ((ai x 4).2.1+z1.2.1)
 let z2:=Msg.mk k1 f1 t1 (nr (rA (ai x 4).1 0) 0) (nr (rA (ai x 4).1 1) 0) (nr (rA (ai x 4).1 2) 0) (nr (rA (ai x 4).1 3) 0) ([]:RL) ([]:RL) ([]:RL) ([]:RL) h1 ([]:RL) ([]:RL) z1.1 (ce (ag x (Int.toNat z5))).1 ([]:RL) m1
 let z6:=IntKind.wrap .i64 ((ai x 3).2.1+z3.2.1)
 let z4:=Msg.mk k1 f1 t1 (nr (rA (ai x 3).1 0) 0) (nr (rA (ai x 3).1 1) 0) (nr (rA (ai x 3).1 2) 0) o1 ([]:RL) ([]:RL) ([]:RL) ([]:RL) h1 ([]:RL) ([]:RL) z3.1 (ce (ag x (Int.toNat z6))).1 ([]:RL) m1
 let z9:=IntKind.wrap .i64 (z6+(ce (ag x (Int.toNat z6))).2.1)
 let z7:=rbW z4 (ag x (Int.toNat z9))
 let z10:=IntKind.wrap .i64 (z5+(ce (ag x (Int.toNat z5))).2.1)
 let z8:=rbW z2 (ag x (Int.toNat z10))
(cond (k1==1)
(cond (aI x&&decide (4≤1000))
(cond ((ai x 4).2.2 !=0)
(some ([.agg [.i k1,.i f1,.i t1,.i p1,.i n1,.i r1,.i o1,.s ([]:RL),.s ([]:RL),.s ([]:RL),.s ([]:RL),.bool h1,.s ([]:RL),.s ([]:RL),.s ([]:RL),.sl false 96 ([]:RL),.sl false 103 ([]:RL),.bool m1],.oi 0,.oi (ai x 4).2.2],[]))
(cond (inB 0 (ai x 4).1.length)
(cond (inB 1 (ai x 4).1.length)
(cond (inB 2 (ai x 4).1.length)
(cond (inB 3 (ai x 4).1.length)
(cond (inB (ai x 4).2.1 (x.length+1))
(cond (aI (ag x (Int.toNat (ai x 4).2.1)))
(cond (z1.2.2 !=0)
(some ([.agg [.i k1,.i f1,.i t1,.i (nr (rA (ai x 4).1 0) 0),.i (nr (rA (ai x 4).1 1) 0),.i (nr (rA (ai x 4).1 2) 0),.i (nr (rA (ai x 4).1 3) 0),.s ([]:RL),.s ([]:RL),.s ([]:RL),.s ([]:RL),.bool h1,.s ([]:RL),.s ([]:RL),.s ([]:RL),.sl false 96 ([]:RL),.sl false 103 ([]:RL),.bool m1],.oi 0,.oi z1.2.2],[]))
(cond (inB z5 (x.length+1))
(cond (aI (ag x (Int.toNat z5)))
(cond ((ce (ag x (Int.toNat z5))).2.2 !=0)
(some ([.agg [.i k1,.i f1,.i t1,.i (nr (rA (ai x 4).1 0) 0),.i (nr (rA (ai x 4).1 1) 0),.i (nr (rA (ai x 4).1 2) 0),.i (nr (rA (ai x 4).1 3) 0),.s ([]:RL),.s ([]:RL),.s ([]:RL),.s ([]:RL),.bool h1,.s ([]:RL),.s ([]:RL),.s ([]:RL),.sl false 96 ([]:RL),.sl false 103 ([]:RL),.bool m1],.oi 0,.oi (ce (ag x (Int.toNat z5))).2.2],[]))
(cond (k1==1)
(some ([.agg [.i k1,.i f1,.i t1,.i (nr (rA (ai x 4).1 0) 0),.i (nr (rA (ai x 4).1 1) 0),.i (nr (rA (ai x 4).1 2) 0),.i (nr (rA (ai x 4).1 3) 0),.s ([]:RL),.s ([]:RL),.s ([]:RL),.s ([]:RL),.bool h1,.s ([]:RL),.s ([]:RL),.s z1.1,.sl false 96 (ce (ag x (Int.toNat z5))).1,.sl false 103 ([]:RL),.bool m1],.oi z10,.oi 0],[]))
(cond (inB z10 (x.length+1))
(cond (aI (ag x (Int.toNat z10)))
(some ([.agg [.i z8.1.k,.i z8.1.f,.i z8.1.t,.i z8.1.p,.i z8.1.n,.i z8.1.r,.i z8.1.o,.s z8.1.cf,.s z8.1.ct,.s z8.1.bf,.s z8.1.bt,.bool z8.1.h,.s z8.1.ef,.s z8.1.et,.s z8.1.g,.sl false 96 z8.1.u,.sl false 103 z8.1.v,.bool z8.1.m],.oi (IntKind.wrap .i64 (z10+z8.2.1)),.oi z8.2.2],[])) none) none))) none) none)) none) none) none) none) none) none)) none)
(cond (aI x&&decide (3≤1000))
(cond ((ai x 3).2.2 !=0)
(some ([.agg [.i k1,.i f1,.i t1,.i p1,.i n1,.i r1,.i o1,.s ([]:RL),.s ([]:RL),.s ([]:RL),.s ([]:RL),.bool h1,.s ([]:RL),.s ([]:RL),.s ([]:RL),.sl false 96 ([]:RL),.sl false 103 ([]:RL),.bool m1],.oi 0,.oi (ai x 3).2.2],[]))
(cond (inB 0 (ai x 3).1.length)
(cond (inB 1 (ai x 3).1.length)
(cond (inB 2 (ai x 3).1.length)
(cond (inB (ai x 3).2.1 (x.length+1))
(cond (aI (ag x (Int.toNat (ai x 3).2.1)))
(cond (z3.2.2 !=0)
(some ([.agg [.i k1,.i f1,.i t1,.i (nr (rA (ai x 3).1 0) 0),.i (nr (rA (ai x 3).1 1) 0),.i (nr (rA (ai x 3).1 2) 0),.i o1,.s ([]:RL),.s ([]:RL),.s ([]:RL),.s ([]:RL),.bool h1,.s ([]:RL),.s ([]:RL),.s ([]:RL),.sl false 96 ([]:RL),.sl false 103 ([]:RL),.bool m1],.oi 0,.oi z3.2.2],[]))
(cond (inB z6 (x.length+1))
(cond (aI (ag x (Int.toNat z6)))
(cond ((ce (ag x (Int.toNat z6))).2.2 !=0)
(some ([.agg [.i k1,.i f1,.i t1,.i (nr (rA (ai x 3).1 0) 0),.i (nr (rA (ai x 3).1 1) 0),.i (nr (rA (ai x 3).1 2) 0),.i o1,.s ([]:RL),.s ([]:RL),.s ([]:RL),.s ([]:RL),.bool h1,.s ([]:RL),.s ([]:RL),.s ([]:RL),.sl false 96 ([]:RL),.sl false 103 ([]:RL),.bool m1],.oi 0,.oi (ce (ag x (Int.toNat z6))).2.2],[]))
(cond (k1==1)
(some ([.agg [.i k1,.i f1,.i t1,.i (nr (rA (ai x 3).1 0) 0),.i (nr (rA (ai x 3).1 1) 0),.i (nr (rA (ai x 3).1 2) 0),.i o1,.s ([]:RL),.s ([]:RL),.s ([]:RL),.s ([]:RL),.bool h1,.s ([]:RL),.s ([]:RL),.s z3.1,.sl false 96 (ce (ag x (Int.toNat z6))).1,.sl false 103 ([]:RL),.bool m1],.oi z9,.oi 0],[]))
(cond (inB z9 (x.length+1))
(cond (aI (ag x (Int.toNat z9)))
(some ([.agg [.i z7.1.k,.i z7.1.f,.i z7.1.t,.i z7.1.p,.i z7.1.n,.i z7.1.r,.i z7.1.o,.s z7.1.cf,.s z7.1.ct,.s z7.1.bf,.s z7.1.bt,.bool z7.1.h,.s z7.1.ef,.s z7.1.et,.s z7.1.g,.sl false 96 z7.1.u,.sl false 103 z7.1.v,.bool z7.1.m],.oi (IntKind.wrap .i64 (z9+z7.2.1)),.oi z7.2.2],[])) none) none))) none) none)) none) none) none) none) none)) none)):=by kernel_rfl
noncomputable def DL :List AItem:=F36.at [.snd,.snd,.snd,.snd,.fst,.snd,.sub,.snd,.fst,.snd,.snd,.snd,.snd,.snd,.snd,.fst,.snd,.sub,.head]
def Ep (t8:Int)(t10:Int)(t11:Int)(t13:RL)(t14:Int)(b0:Int)(b0_1:Int)(b0_2:Int)(b0_3:Int)(b0_4:Int)(b0_5:Int)(b0_6:Int)(b0_7:RL)(b0_8:RL)(b0_9:RL)(b0_10:RL)(b0_11:Bool)(b0_12:RL)(b0_13:RL)(b0_14:RL)(b0_15:RL)(b0_16:RL)(b0_17:Bool)(b1:Int)(b1_1:Int)(b1_2:Int)(b1_3:Int)(b1_4:Int)(b1_5:Int)(b1_6:Int)(b1_7:RL)(b1_8:RL)(b1_9:RL)(b1_10:RL)(b1_11:Bool)(b1_12:RL)(b1_13:RL)(b1_14:RL)(b1_15:RL)(b1_16:RL)(b1_17:Bool):St:=⟨[(2,.one (.ptr 0 0)),(4,.one (.ptr 1 0)),(8,.oi t8),(10,.oi t10),(11,.oi t11),(13,.one (.sl false 3 t13)),(14,.oi t14)],[.var [.i b0,.i b0_1,.i b0_2,.i b0_3,.i b0_4,.i b0_5,.i b0_6,.s b0_7,.s b0_8,.sl true 93 b0_9,.sl true 93 b0_10,.bool b0_11,.sl true 93 b0_12,.sl true 93 b0_13,.sl true 93 b0_14,.sl true 96 b0_15,.sl true 103 b0_16,.bool b0_17],.var [.i b1,.i b1_1,.i b1_2,.i b1_3,.i b1_4,.i b1_5,.i b1_6,.sl true 93 b1_7,.sl true 93 b1_8,.sl true 93 b1_9,.sl true 93 b1_10,.bool b1_11,.sl true 93 b1_12,.sl true 93 b1_13,.sl true 93 b1_14,.sl true 96 b1_15,.sl true 103 b1_16,.bool b1_17]]⟩
theorem e36 (m:Nat)(k1 f1 t1 p1 n1 r1 o1:Int)(h1 m1:Bool)(x:RL):aj E (aa L35) (m+1) 36 [.agg [.i k1,.i f1,.i t1,.i p1,.i n1,.i r1,.i o1,.nils,.nils,.nils,.nils,.bool h1,.nils,.nils,.nils,.nils,.nils,.bool m1],.or x] []=
 let z1:=ce (ag x (Int.toNat (bn x).2.2.1))
 let z3:=IntKind.wrap .i64 ((bn x).2.2.1+z1.2.1)
 let z2:=Msg.mk k1 f1 t1 p1 n1 r1 o1 (bn x).1 (bn x).2.1 ([]:RL) ([]:RL) h1 ([]:RL) ([]:RL) ([]:RL) z1.1 ([]:RL) (aQ (ag x (Int.toNat z3))).1
 let z4:=rbW z2 (ag x (Int.toNat (IntKind.wrap .i64 (z3+(aQ (ag x (Int.toNat z3))).2.1))))
 let z5:=am (ag x (Int.toNat (bn x).2.2.1))
 let z6:=ai (ag x (Int.toNat (IntKind.wrap .i64 ((bn x).2.2.1+z5.2.1)))) (IntKind.wrap .i64 (2*z5.1))
(cond (aI x)
(cond ((bn x).2.2.2 !=0)
(some ([.agg [.i k1,.i f1,.i t1,.i p1,.i n1,.i r1,.i o1,.s ([]:RL),.s ([]:RL),.s ([]:RL),.s ([]:RL),.bool h1,.s ([]:RL),.s ([]:RL),.s ([]:RL),.sl false 96 ([]:RL),.sl false 103 ([]:RL),.bool m1],.oi 0,.oi (bn x).2.2.2],[]))
(cond (k1==4)
(cond (inB (bn x).2.2.1 (x.length+1))
(cond (aI (ag x (Int.toNat (bn x).2.2.1)))
(cond (z5.2.2 !=0)
(some ([.agg [.i k1,.i f1,.i t1,.i p1,.i n1,.i r1,.i o1,.s (bn x).1,.s (bn x).2.1,.s ([]:RL),.s ([]:RL),.bool h1,.s ([]:RL),.s ([]:RL),.s ([]:RL),.sl false 96 ([]:RL),.sl false 103 ([]:RL),.bool m1],.oi 0,.oi z5.2.2],[]))
(cond (decide (z5.1>100))
(some ([.agg [.i k1,.i f1,.i t1,.i p1,.i n1,.i r1,.i o1,.s (bn x).1,.s (bn x).2.1,.s ([]:RL),.s ([]:RL),.bool h1,.s ([]:RL),.s ([]:RL),.s ([]:RL),.sl false 96 ([]:RL),.sl false 103 ([]:RL),.bool m1],.oi 0,.oi 3],[]))
(cond (inB (IntKind.wrap .i64 ((bn x).2.2.1+z5.2.1)) (x.length+1))
(cond (aI (ag x (Int.toNat (IntKind.wrap .i64 ((bn x).2.2.1+z5.2.1))))&&decide ((IntKind.wrap .i64 (2*z5.1))≤1000))
(cond (z6.2.2 !=0)
(some ([.agg [.i k1,.i f1,.i t1,.i p1,.i n1,.i r1,.i o1,.s (bn x).1,.s (bn x).2.1,.s ([]:RL),.s ([]:RL),.bool h1,.s ([]:RL),.s ([]:RL),.s ([]:RL),.sl false 96 ([]:RL),.sl false 103 ([]:RL),.bool m1],.oi 0,.oi z6.2.2],[]))
(goF E (aa L35) F36 0 m DL (Ep (IntKind.wrap .i64 ((bn x).2.2.1+z5.2.1)) z5.1 z6.2.1 z6.1 0 k1 f1 t1 p1 n1 r1 o1 (bn x).1 (bn x).2.1 ([]:RL) ([]:RL) h1 ([]:RL) ([]:RL) ([]:RL) ([]:RL) ([]:RL) m1 0 0 0 0 0 0 0 ([]:RL) ([]:RL) ([]:RL) ([]:RL) false ([]:RL) ([]:RL) ([]:RL) ([]:RL) ([]:RL) false))) none) none))) none) none)
(cond (k1==5)
(cond (inB (bn x).2.2.1 (x.length+1))
(cond (aI (ag x (Int.toNat (bn x).2.2.1)))
(cond (z1.2.2 !=0)
(some ([.agg [.i k1,.i f1,.i t1,.i p1,.i n1,.i r1,.i o1,.s (bn x).1,.s (bn x).2.1,.s ([]:RL),.s ([]:RL),.bool h1,.s ([]:RL),.s ([]:RL),.s ([]:RL),.sl false 96 ([]:RL),.sl false 103 ([]:RL),.bool m1],.oi 0,.oi z1.2.2],[]))
(cond (inB z3 (x.length+1))
(cond (aI (ag x (Int.toNat z3)))
(cond ((aQ (ag x (Int.toNat z3))).2.2 !=0)
(some ([.agg [.i k1,.i f1,.i t1,.i p1,.i n1,.i r1,.i o1,.s (bn x).1,.s (bn x).2.1,.s ([]:RL),.s ([]:RL),.bool h1,.s ([]:RL),.s ([]:RL),.s ([]:RL),.sl false 96 ([]:RL),.sl false 103 ([]:RL),.bool m1],.oi 0,.oi (aQ (ag x (Int.toNat z3))).2.2],[]))
(cond (inB (IntKind.wrap .i64 (z3+(aQ (ag x (Int.toNat z3))).2.1)) (x.length+1))
(cond (aI (ag x (Int.toNat (IntKind.wrap .i64 (z3+(aQ (ag x (Int.toNat z3))).2.1)))))
(some ([.agg [.i z4.1.k,.i z4.1.f,.i z4.1.t,.i z4.1.p,.i z4.1.n,.i z4.1.r,.i z4.1.o,.s z4.1.cf,.s z4.1.ct,.s z4.1.bf,.s z4.1.bt,.bool z4.1.h,.s z4.1.ef,.s z4.1.et,.s z4.1.g,.sl false 96 z4.1.u,.sl false 103 z4.1.v,.bool z4.1.m],.oi (IntKind.wrap .i64 ((IntKind.wrap .i64 (z3+(aQ (ag x (Int.toNat z3))).2.1))+z4.2.1)),.oi z4.2.2],[])) none) none)) none) none)) none) none)
(some ([.agg [.i k1,.i f1,.i t1,.i p1,.i n1,.i r1,.i o1,.s (bn x).1,.s (bn x).2.1,.s ([]:RL),.s ([]:RL),.bool h1,.s ([]:RL),.s ([]:RL),.s ([]:RL),.sl false 96 ([]:RL),.sl false 103 ([]:RL),.bool m1],.oi (bn x).2.2.1,.oi 0],[]))))) none):=by kernel_rfl
theorem MC (m:Nat)(t8 t10 t11:Int)(t13:RL)(t14 b0 b0_1 b0_2 b0_3 b0_4 b0_5 b0_6:Int)(b0_7 b0_8 b0_9 b0_10:RL)(b0_11:Bool)(b0_12 b0_13 b0_14 b0_15 b0_16:RL)(b0_17:Bool)(b1 b1_1 b1_2 b1_3 b1_4 b1_5 b1_6:Int)(b1_7 b1_8 b1_9 b1_10:RL)(b1_11:Bool)(b1_12 b1_13 b1_14 b1_15 b1_16:RL)(b1_17:Bool):goF E (aa L35) F36 0 (m+1) DL (Ep t8 t10 t11 t13 t14 b0 b0_1 b0_2 b0_3 b0_4 b0_5 b0_6 b0_7 b0_8 b0_9 b0_10 b0_11 b0_12 b0_13 b0_14 b0_15 b0_16 b0_17 b1 b1_1 b1_2 b1_3 b1_4 b1_5 b1_6 b1_7 b1_8 b1_9 b1_10 b1_11 b1_12 b1_13 b1_14 b1_15 b1_16 b1_17)=
(cond (decide (t14<t10))
(cond (inB (IntKind.wrap .i64 (2*t14)) t13.length)
(cond (inB (IntKind.wrap .i64 ((IntKind.wrap .i64 (2*t14))+1)) t13.length)
(cond (cb (b0_16.length+ [[Cell.int .i64 (nr (rA t13 (Int.toNat (IntKind.wrap .i64 (2*t14)))) 0),Cell.int .i64 (nr (rA t13 (Int.toNat (IntKind.wrap .i64 ((IntKind.wrap .i64 (2*t14))+1)))) 0)]].length))
(goF E (aa L35) F36 0 m DL (Ep t8 t10 t11 t13 (IntKind.wrap .i64 (t14+1)) b0 b0_1 b0_2 b0_3 b0_4 b0_5 b0_6 b0_7 b0_8 b0_9 b0_10 b0_11 b0_12 b0_13 b0_14 b0_15 (b0_16++ [[Cell.int .i64 (nr (rA t13 (Int.toNat (IntKind.wrap .i64 (2*t14)))) 0),Cell.int .i64 (nr (rA t13 (Int.toNat (IntKind.wrap .i64 ((IntKind.wrap .i64 (2*t14))+1)))) 0)]]) b0_17 b1 b1_1 b1_2 b1_3 b1_4 b1_5 b1_6 b1_7 b1_8 b1_9 b1_10 b1_11 b1_12 b1_13 b1_14 b1_15 b1_16 b1_17)) none) none) none)
(some ([.agg [.i b0,.i b0_1,.i b0_2,.i b0_3,.i b0_4,.i b0_5,.i b0_6,.s b0_7,.s b0_8,.s b0_9,.s b0_10,.bool b0_11,.s b0_12,.s b0_13,.s b0_14,.sl false 96 b0_15,.sl false 103 b0_16,.bool b0_17],.oi (IntKind.wrap .i64 (t8+t11)),.oi 0],[]))):=by kernel_rfl
theorem e11 (m:Nat)(x:RL):aj E (aa L36) (m+1) 11 [.or x] []=
 let z2:=ai (ag x (Int.toNat (am x).2.1)) 2
 let z1:=Msg.mk (am x).1 (nr (rA z2.1 0) 0) (nr (rA z2.1 1) 0) 0 0 0 0 [] [] [] [] false [] [] [] [] [] false
 let z6:=IntKind.wrap .i64 ((am x).2.1+z2.2.1)
 let z3:=ag x (Int.toNat z6)
 let z4:=gM (Msg.mk (rxW z1 z3).1.k (rxW z1 z3).1.f (rxW z1 z3).1.t (rxW z1 z3).1.p (rxW z1 z3).1.n (rxW z1 z3).1.r (rxW z1 z3).1.o (rxW z1 z3).1.cf (rxW z1 z3).1.ct (rxW z1 z3).1.bf (rxW z1 z3).1.bt (rxW z1 z3).1.h (rxW z1 z3).1.ef (rxW z1 z3).1.et (rxW z1 z3).1.g (rxW z1 z3).1.u (rxW z1 z3).1.v (rxW z1 z3).1.m)
 let z5:=gM (Msg.mk (rrW z1 z3).1.k (rrW z1 z3).1.f (rrW z1 z3).1.t (rrW z1 z3).1.p (rrW z1 z3).1.n (rrW z1 z3).1.r (rrW z1 z3).1.o (rrW z1 z3).1.cf (rrW z1 z3).1.ct (rrW z1 z3).1.bf (rrW z1 z3).1.bt (rrW z1 z3).1.h (rrW z1 z3).1.ef (rrW z1 z3).1.et (rrW z1 z3).1.g (rrW z1 z3).1.u (rrW z1 z3).1.v (rrW z1 z3).1.m)
(cond (aI x)
(cond ((am x).2.2 !=0)
(some ([.agg [.i 0,.i 0,.i 0,.i 0,.i 0,.i 0,.i 0,.s ([]:RL),.s ([]:RL),.s ([]:RL),.s ([]:RL),.bool false,.s ([]:RL),.s ([]:RL),.s ([]:RL),.sl false 96 ([]:RL),.sl false 103 ([]:RL),.bool false],.oi 0,.oi (am x).2.2],[]))
(cond (decide ((am x).1<1))
(some ([.agg [.i 0,.i 0,.i 0,.i 0,.i 0,.i 0,.i 0,.s ([]:RL),.s ([]:RL),.s ([]:RL),.s ([]:RL),.bool false,.s ([]:RL),.s ([]:RL),.s ([]:RL),.sl false 96 ([]:RL),.sl false 103 ([]:RL),.bool false],.oi 0,.oi 10],[]))
(cond (decide ((am x).1>8))
(some ([.agg [.i 0,.i 0,.i 0,.i 0,.i 0,.i 0,.i 0,.s ([]:RL),.s ([]:RL),.s ([]:RL),.s ([]:RL),.bool false,.s ([]:RL),.s ([]:RL),.s ([]:RL),.sl false 96 ([]:RL),.sl false 103 ([]:RL),.bool false],.oi 0,.oi 10],[]))
(cond (inB (am x).2.1 (x.length+1))
(cond (aI (ag x (Int.toNat (am x).2.1))&&decide (2≤1000))
(cond (z2.2.2 !=0)
(some ([.agg [.i 0,.i 0,.i 0,.i 0,.i 0,.i 0,.i 0,.s ([]:RL),.s ([]:RL),.s ([]:RL),.s ([]:RL),.bool false,.s ([]:RL),.s ([]:RL),.s ([]:RL),.sl false 96 ([]:RL),.sl false 103 ([]:RL),.bool false],.oi 0,.oi z2.2.2],[]))
(cond (inB 0 z2.1.length)
(cond (inB 1 z2.1.length)
(cond ((am x).1==1)
(cond (inB z6 (x.length+1))
(cond (aI z3)
(cond ((rxW z1 z3).2.2 !=0)
(some ([.agg [.i 0,.i 0,.i 0,.i 0,.i 0,.i 0,.i 0,.s ([]:RL),.s ([]:RL),.s ([]:RL),.s ([]:RL),.bool false,.s ([]:RL),.s ([]:RL),.s ([]:RL),.sl false 96 ([]:RL),.sl false 103 ([]:RL),.bool false],.oi 0,.oi (rxW z1 z3).2.2],[]))
(cond (okM (rxW z1 z3).1.cf (rxW z1 z3).1.ct (rxW z1 z3).1.bf (rxW z1 z3).1.bt (rxW z1 z3).1.ef (rxW z1 z3).1.et (rxW z1 z3).1.g (rxW z1 z3).1.u (rxW z1 z3).1.v)
(cond (z4 !=0)
(some ([.agg [.i 0,.i 0,.i 0,.i 0,.i 0,.i 0,.i 0,.s ([]:RL),.s ([]:RL),.s ([]:RL),.s ([]:RL),.bool false,.s ([]:RL),.s ([]:RL),.s ([]:RL),.sl false 96 ([]:RL),.sl false 103 ([]:RL),.bool false],.oi 0,.oi z4],[]))
(some ([.agg [.i (rxW z1 z3).1.k,.i (rxW z1 z3).1.f,.i (rxW z1 z3).1.t,.i (rxW z1 z3).1.p,.i (rxW z1 z3).1.n,.i (rxW z1 z3).1.r,.i (rxW z1 z3).1.o,.s (rxW z1 z3).1.cf,.s (rxW z1 z3).1.ct,.s (rxW z1 z3).1.bf,.s (rxW z1 z3).1.bt,.bool (rxW z1 z3).1.h,.s (rxW z1 z3).1.ef,.s (rxW z1 z3).1.et,.s (rxW z1 z3).1.g,.sl false 96 (rxW z1 z3).1.u,.sl false 103 (rxW z1 z3).1.v,.bool (rxW z1 z3).1.m],.oi (IntKind.wrap .i64 (z6+(rxW z1 z3).2.1)),.oi 0],[]))) none)) none) none)
(cond ((am x).1==2)
(cond (inB z6 (x.length+1))
(cond (aI z3)
(cond ((rxW z1 z3).2.2 !=0)
(some ([.agg [.i 0,.i 0,.i 0,.i 0,.i 0,.i 0,.i 0,.s ([]:RL),.s ([]:RL),.s ([]:RL),.s ([]:RL),.bool false,.s ([]:RL),.s ([]:RL),.s ([]:RL),.sl false 96 ([]:RL),.sl false 103 ([]:RL),.bool false],.oi 0,.oi (rxW z1 z3).2.2],[]))
(cond (okM (rxW z1 z3).1.cf (rxW z1 z3).1.ct (rxW z1 z3).1.bf (rxW z1 z3).1.bt (rxW z1 z3).1.ef (rxW z1 z3).1.et (rxW z1 z3).1.g (rxW z1 z3).1.u (rxW z1 z3).1.v)
(cond (z4 !=0)
(some ([.agg [.i 0,.i 0,.i 0,.i 0,.i 0,.i 0,.i 0,.s ([]:RL),.s ([]:RL),.s ([]:RL),.s ([]:RL),.bool false,.s ([]:RL),.s ([]:RL),.s ([]:RL),.sl false 96 ([]:RL),.sl false 103 ([]:RL),.bool false],.oi 0,.oi z4],[]))
(some ([.agg [.i (rxW z1 z3).1.k,.i (rxW z1 z3).1.f,.i (rxW z1 z3).1.t,.i (rxW z1 z3).1.p,.i (rxW z1 z3).1.n,.i (rxW z1 z3).1.r,.i (rxW z1 z3).1.o,.s (rxW z1 z3).1.cf,.s (rxW z1 z3).1.ct,.s (rxW z1 z3).1.bf,.s (rxW z1 z3).1.bt,.bool (rxW z1 z3).1.h,.s (rxW z1 z3).1.ef,.s (rxW z1 z3).1.et,.s (rxW z1 z3).1.g,.sl false 96 (rxW z1 z3).1.u,.sl false 103 (rxW z1 z3).1.v,.bool (rxW z1 z3).1.m],.oi (IntKind.wrap .i64 (z6+(rxW z1 z3).2.1)),.oi 0],[]))) none)) none) none)
(cond (inB z6 (x.length+1))
(cond (aI z3)
(cond ((rrW z1 z3).2.2 !=0)
(some ([.agg [.i 0,.i 0,.i 0,.i 0,.i 0,.i 0,.i 0,.s ([]:RL),.s ([]:RL),.s ([]:RL),.s ([]:RL),.bool false,.s ([]:RL),.s ([]:RL),.s ([]:RL),.sl false 96 ([]:RL),.sl false 103 ([]:RL),.bool false],.oi 0,.oi (rrW z1 z3).2.2],[]))
(cond (okM (rrW z1 z3).1.cf (rrW z1 z3).1.ct (rrW z1 z3).1.bf (rrW z1 z3).1.bt (rrW z1 z3).1.ef (rrW z1 z3).1.et (rrW z1 z3).1.g (rrW z1 z3).1.u (rrW z1 z3).1.v)
(cond (z5 !=0)
(some ([.agg [.i 0,.i 0,.i 0,.i 0,.i 0,.i 0,.i 0,.s ([]:RL),.s ([]:RL),.s ([]:RL),.s ([]:RL),.bool false,.s ([]:RL),.s ([]:RL),.s ([]:RL),.sl false 96 ([]:RL),.sl false 103 ([]:RL),.bool false],.oi 0,.oi z5],[]))
(some ([.agg [.i (rrW z1 z3).1.k,.i (rrW z1 z3).1.f,.i (rrW z1 z3).1.t,.i (rrW z1 z3).1.p,.i (rrW z1 z3).1.n,.i (rrW z1 z3).1.r,.i (rrW z1 z3).1.o,.s (rrW z1 z3).1.cf,.s (rrW z1 z3).1.ct,.s (rrW z1 z3).1.bf,.s (rrW z1 z3).1.bt,.bool (rrW z1 z3).1.h,.s (rrW z1 z3).1.ef,.s (rrW z1 z3).1.et,.s (rrW z1 z3).1.g,.sl false 96 (rrW z1 z3).1.u,.sl false 103 (rrW z1 z3).1.v,.bool (rrW z1 z3).1.m],.oi (IntKind.wrap .i64 (z6+(rrW z1 z3).2.1)),.oi 0],[]))) none)) none) none))) none) none)) none) none)))) none):=by kernel_rfl
theorem e12 (m:Nat)(k1 f1 t1 p1 n1 r1 o1:Int)(cf1 ct1 bf1 bt1:RL)(h1:Bool)(ef1 et1 g1 u1 v1:RL)(m1:Bool)(k2 f2 t2 p2 n2 r2 o2:Int)(cf2 ct2 bf2 bt2:RL)(h2:Bool)(ef2 et2 g2 u2 v2:RL)(m2:Bool):aj E (aa L11) (m+1) 12 [.agg [.i k1,.i f1,.i t1,.i p1,.i n1,.i r1,.i o1,.s cf1,.s ct1,.s bf1,.s bt1,.bool h1,.s ef1,.s et1,.s g1,.sl false 96 u1,.sl false 103 v1,.bool m1],.agg [.i k2,.i f2,.i t2,.i p2,.i n2,.i r2,.i o2,.s cf2,.s ct2,.s bf2,.s bt2,.bool h2,.s ef2,.s et2,.s g2,.sl false 96 u2,.sl false 103 v2,.bool m2]] []=
(cond (k1 !=k2)
(some ([.ob false],[]))
(cond (f1 !=f2)
(some ([.ob false],[]))
(cond (t1 !=t2)
(some ([.ob false],[]))
(cond (!((p1==p2)&&((n1==n2)&&true)))
(some ([.ob false],[]))
(cond (r1 !=r2)
(some ([.ob false],[]))
(cond (o1 !=o2)
(some ([.ob false],[]))
(cond (!(h1==h2))
(some ([.ob false],[]))
(cond (!(m1==m2))
(some ([.ob false],[]))
(cond (ao cf1&&ao ct1)
(cond (da cf1 cf2&&da ct1 ct2)
(cond (ao bf1&&ao bt1)
(cond (da bf1 bf2&&da bt1 bt2)
(cond (ao ef1&&ao et1)
(cond (da ef1 ef2&&da et1 et2)
(cond (ao g1)
(cond (da g1 g2)
(cond (eG u1)
(cond (za u1 u2)
(cond (cN v1)
(some ([.ob (rC v1 v2)],[])) none)
(some ([.ob false],[]))) none)
(some ([.ob false],[]))) none)
(some ([.ob false],[]))) none)
(some ([.ob false],[]))) none)
(some ([.ob false],[]))) none))))))))):=by kernel_rfl
theorem e6 (m:Nat)(k1 f1 t1 p1 n1 r1 o1:Int)(cf1 ct1 bf1 bt1:RL)(h1:Bool)(ef1 et1 g1 u1 v1:RL)(m1:Bool):aj E (aa L12) (m+1) 6 [.agg [.i k1,.i f1,.i t1,.i p1,.i n1,.i r1,.i o1,.s cf1,.s ct1,.s bf1,.s bt1,.bool h1,.s ef1,.s et1,.s g1,.sl false 96 u1,.sl false 103 v1,.bool m1]] []=
(cond (decide ((g1.length:Int)≤30))
(cond (decide ((u1.length:Int)≤60))
(cond (decide ((v1.length:Int)≤60))
(cond (decide ((cf1.length:Int)≤30))
(cond (decide ((ct1.length:Int)≤30))
(cond (decide ((bf1.length:Int)≤30))
(cond (decide ((bt1.length:Int)≤30))
(cond (decide ((ef1.length:Int)≤30))
(some ([.ob (decide ((et1.length:Int)≤30))],[]))
(some ([.ob false],[])))
(some ([.ob false],[])))
(some ([.ob false],[])))
(some ([.ob false],[])))
(some ([.ob false],[])))
(some ([.ob false],[])))
(some ([.ob false],[])))
(some ([.ob false],[]))):=by kernel_rfl
theorem QR (m:Nat)(x:RL)(v:Bool):aj E (aa L6) (m+1) 102 [.or x,.ob v] []=
(cond v
(cond (inB (x.length:Int) (x.length+1))
(cond (decide ((x.length:Int)=(x.length:Int)))
(cond (cb ((bA x (Int.toNat (x.length:Int))).length+ [[Cell.int .u8 1]].length))
(some ([.one (.sl true 5 ((bA x (Int.toNat (x.length:Int)))++ [[Cell.int .u8 1]]))],[])) none) none) none)
(cond (inB (x.length:Int) (x.length+1))
(cond (decide ((x.length:Int)=(x.length:Int)))
(cond (cb ((bA x (Int.toNat (x.length:Int))).length+ [[Cell.int .u8 0]].length))
(some ([.one (.sl true 5 ((bA x (Int.toNat (x.length:Int)))++ [[Cell.int .u8 0]]))],[])) none) none) none)):=by kernel_rfl
theorem LZ (m:Nat)(v:Bool):aj E (aa L6) (m+1) 102 [.one (.nils),.ob v] []=
(cond v
(cond (cb ((bA ([]:RL) 0).length+ [[Cell.int .u8 1]].length))
(some ([.one (.sl true 5 ((bA ([]:RL) 0)++ [[Cell.int .u8 1]]))],[])) none)
(cond (cb ((bA ([]:RL) 0).length+ [[Cell.int .u8 0]].length))
(some ([.one (.sl true 5 ((bA ([]:RL) 0)++ [[Cell.int .u8 0]]))],[])) none)):=by kernel_rfl
noncomputable def DO :List AItem:=F51.at [.snd,.snd,.fst,.snd,.sub,.head]
def D9 (t3:RL)(t6:RL)(t7:Int)(t8:Int):St:=⟨[(3,.one (.sl true 5 t3)),(6,.one (.sl false 3 t6)),(7,.oi t7),(8,.oi t8)],[]⟩
theorem e51 (m:Nat)(l:RL):aj E (aa xA) (m+1) 51 [.one (.sl false 3 l)] []=
(goF E (aa xA) F51 0 m DO (D9 ([]:RL) l (l.length:Int) 0)):=by kernel_rfl
theorem Mm (m:Nat)(t3 t6:RL)(t7 t8:Int):goF E (aa xA) F51 0 (m+1) DO (D9 t3 t6 t7 t8)=
(cond (decide (t8<t7))
(cond (inB t8 t6.length)
(cond (jo t3 (IntKind.wrap .u64 (nr (rA t6 (Int.toNat t8)) 0)))
(goF E (aa xA) F51 0 m DO (D9 (t3++bc (IntKind.wrap .u64 (nr (rA t6 (Int.toNat t8)) 0))) t6 t7 (IntKind.wrap .i64 (t8+1)))) none) none)
(some ([.one (.sl true 5 t3)],[]))):=by kernel_rfl
noncomputable def Br :List AItem:=F52.at [.snd,.fst,.snd,.sub,.snd,.snd,.snd,.snd,.snd,.snd,.snd,.snd,.snd,.fst,.snd,.fst,.snd,.sub,.head]
def yY (t5:RL)(t47:RL)(t48:Int)(t49:Int):St:=⟨[(5,.one (.sl true 5 t5)),(47,.one (.sl false 96 t47)),(48,.oi t48),(49,.oi t49)],[]⟩
noncomputable def AI :List AItem:=F52.at [.snd,.fst,.snd,.sub,.snd,.snd,.snd,.snd,.snd,.snd,.snd,.snd,.snd,.snd,.snd,.snd,.snd,.fst,.snd,.fst,.snd,.sub,.head]
def yJ (t8:RL)(t72:RL)(t73:Int)(t74:Int):St:=⟨[(8,.one (.sl true 5 t8)),(72,.one (.sl false 103 t72)),(73,.oi t73),(74,.oi t74)],[]⟩
theorem e52 (m:Nat)(k1 f1 t1 p1 n1 r1 o1:Int)(cf1 ct1 bf1 bt1:RL)(h1:Bool)(ef1 et1 g1 u1 v1:RL)(m1:Bool)(f:Int):aj E (aa L51) (m+1) 52 [.agg [.i k1,.i f1,.i t1,.i p1,.i n1,.i r1,.i o1,.s cf1,.s ct1,.s bf1,.s bt1,.bool h1,.s ef1,.s et1,.s g1,.sl false 96 u1,.sl false 103 v1,.bool m1],.oi f] []=
(cond (f==0)
(cond (decide ([[Cell.int .i64 p1],[Cell.int .i64 n1]].length≤1000))
(some ([.one (.sl true 5 (aP [[Cell.int .i64 p1],[Cell.int .i64 n1]]))],[])) none)
(cond (f==1)
(cond (decide ([[Cell.int .i64 r1]].length≤1000))
(some ([.one (.sl true 5 (aP [[Cell.int .i64 r1]]))],[])) none)
(cond (f==2)
(cond (decide ([[Cell.int .i64 o1]].length≤1000))
(some ([.one (.sl true 5 (aP [[Cell.int .i64 o1]]))],[])) none)
(cond (f==3)
(cond (dq [] g1)
(some ([.one (.sl true 5 (gB g1))],[])) none)
(cond (f==4)
(cond (decide ([[Cell.int .i64 (u1.length:Int)]].length≤1000))
(goF E (aa L51) F52 0 m Br (yY (aP [[Cell.int .i64 (u1.length:Int)]]) u1 (u1.length:Int) 0)) none)
(cond (f==5)
(cond (en [] cf1 ct1)
(some ([.one (.sl true 5 (jj cf1 ct1))],[])) none)
(cond (f==6)
(cond (decide ([[Cell.int .i64 (v1.length:Int)]].length≤1000))
(goF E (aa L51) F52 0 m AI (yJ (aP [[Cell.int .i64 (v1.length:Int)]]) v1 (v1.length:Int) 0)) none)
(cond (f==7)
(some ([.one (.sl true 5 (o9 m1))],[]))
(cond (f==8)
(some ([.one (.sl true 5 (o9 h1))],[]))
(cond (f==9)
(cond (!h1)
(some ([.one (.sl true 5 ([]:RL))],[]))
(cond (en [] bf1 bt1)
(some ([.one (.sl true 5 (jj bf1 bt1))],[])) none))
(cond (en [] ef1 et1)
(some ([.one (.sl true 5 (jj ef1 et1))],[])) none))))))))))):=by kernel_rfl
theorem ME (m:Nat)(t5 t47:RL)(t48 t49:Int):goF E (aa L51) F52 0 (m+1) Br (yY t5 t47 t48 t49)=
(cond (decide (t49<t48))
(cond (inB t49 t47.length)
(cond (kR [] (nl (rA t47 (Int.toNat t49)) 3))
(cond (cb (t5.length+(gE (nr (rA t47 (Int.toNat t49)) 0) (nr (rA t47 (Int.toNat t49)) 1) (nr (rA t47 (Int.toNat t49)) 2) (nl (rA t47 (Int.toNat t49)) 3)).length))
(goF E (aa L51) F52 0 m Br (yY (t5++(gE (nr (rA t47 (Int.toNat t49)) 0) (nr (rA t47 (Int.toNat t49)) 1) (nr (rA t47 (Int.toNat t49)) 2) (nl (rA t47 (Int.toNat t49)) 3))) t47 t48 (IntKind.wrap .i64 (t49+1)))) none) none) none)
(some ([.one (.sl true 5 t5)],[]))):=by kernel_rfl
theorem MK (m:Nat)(t8 t72:RL)(t73 t74:Int):goF E (aa L51) F52 0 (m+1) AI (yJ t8 t72 t73 t74)=
(cond (decide (t74<t73))
(cond (inB t74 t72.length)
(cond (decide ([[Cell.int .i64 (nr (rA t72 (Int.toNat t74)) 0)],[Cell.int .i64 (nr (rA t72 (Int.toNat t74)) 1)]].length≤1000))
(cond (cb (t8.length+(aP [[Cell.int .i64 (nr (rA t72 (Int.toNat t74)) 0)],[Cell.int .i64 (nr (rA t72 (Int.toNat t74)) 1)]]).length))
(goF E (aa L51) F52 0 m AI (yJ (t8++(aP [[Cell.int .i64 (nr (rA t72 (Int.toNat t74)) 0)],[Cell.int .i64 (nr (rA t72 (Int.toNat t74)) 1)]])) t72 t73 (IntKind.wrap .i64 (t74+1)))) none) none) none)
(some ([.one (.sl true 5 t8)],[]))):=by kernel_rfl
noncomputable def DN :List AItem:=F16.at [.snd,.snd,.snd,.fst,.snd,.sub,.head]
def DZ (t0:RL)(t5:RL)(t24:RL)(t25:Int)(t26:Int)(b0:Int)(b0_1:Int)(b0_2:Int)(b0_3:Int)(b0_4:Int)(b0_5:Int)(b0_6:Int)(b0_7:RL)(b0_8:RL)(b0_9:RL)(b0_10:RL)(b0_11:Bool)(b0_12:RL)(b0_13:RL)(b0_14:RL)(b0_15:RL)(b0_16:RL)(b0_17:Bool):St:=⟨[(0,.one (.sl true 5 t0)),(3,.one (.ptr 0 0)),(5,.one (.sl true 5 t5)),(24,.one (.sl false 54 t24)),(25,.oi t25),(26,.oi t26)],[.var [.i b0,.i b0_1,.i b0_2,.i b0_3,.i b0_4,.i b0_5,.i b0_6,.s b0_7,.s b0_8,.s b0_9,.s b0_10,.bool b0_11,.s b0_12,.s b0_13,.s b0_14,.sl false 96 b0_15,.sl false 103 b0_16,.bool b0_17]]⟩
theorem e16 (m:Nat)(k1 f1 t1 p1 n1 r1 o1:Int)(cf1 ct1 bf1 bt1:RL)(h1:Bool)(ef1 et1 g1 u1 v1:RL)(m1:Bool):aj E (aa L52) (m+1) 16 [.one (.nils),.agg [.i k1,.i f1,.i t1,.i p1,.i n1,.i r1,.i o1,.s cf1,.s ct1,.s bf1,.s bt1,.bool h1,.s ef1,.s et1,.s g1,.sl false 96 u1,.sl false 103 v1,.bool m1]] []=
(cond (decide ([[Cell.int .i64 k1],[Cell.int .i64 f1],[Cell.int .i64 t1]].length≤1000))
(goF E (aa L52) F16 0 m DN (DZ ([]:RL) (aP [[Cell.int .i64 k1],[Cell.int .i64 f1],[Cell.int .i64 t1]]) (be k1) ((be k1).length:Int) 0 k1 f1 t1 p1 n1 r1 o1 cf1 ct1 bf1 bt1 h1 ef1 et1 g1 u1 v1 m1)) none):=by kernel_rfl
theorem My (m:Nat)(t0 t5 t24:RL)(t25 t26 b0 b0_1 b0_2 b0_3 b0_4 b0_5 b0_6:Int)(b0_7 b0_8 b0_9 b0_10:RL)(b0_11:Bool)(b0_12 b0_13 b0_14 b0_15 b0_16:RL)(b0_17:Bool):goF E (aa L52) F16 0 (m+1) DN (DZ t0 t5 t24 t25 t26 b0 b0_1 b0_2 b0_3 b0_4 b0_5 b0_6 b0_7 b0_8 b0_9 b0_10 b0_11 b0_12 b0_13 b0_14 b0_15 b0_16 b0_17)=
(cond (decide (t26<t25))
(cond (inB t26 t24.length)
(cond (rH (Msg.mk b0 b0_1 b0_2 b0_3 b0_4 b0_5 b0_6 b0_7 b0_8 b0_9 b0_10 b0_11 b0_12 b0_13 b0_14 b0_15 b0_16 b0_17))
(cond (cb (t5.length+(iL (Msg.mk b0 b0_1 b0_2 b0_3 b0_4 b0_5 b0_6 b0_7 b0_8 b0_9 b0_10 b0_11 b0_12 b0_13 b0_14 b0_15 b0_16 b0_17) (nr (rA t24 (Int.toNat t26)) 0)).length))
(goF E (aa L52) F16 0 m DN (DZ t0 (t5++(iL (Msg.mk b0 b0_1 b0_2 b0_3 b0_4 b0_5 b0_6 b0_7 b0_8 b0_9 b0_10 b0_11 b0_12 b0_13 b0_14 b0_15 b0_16 b0_17) (nr (rA t24 (Int.toNat t26)) 0))) t24 t25 (IntKind.wrap .i64 (t26+1)) b0 b0_1 b0_2 b0_3 b0_4 b0_5 b0_6 b0_7 b0_8 b0_9 b0_10 b0_11 b0_12 b0_13 b0_14 b0_15 b0_16 b0_17)) none) none) none)
(cond (inB (t0.length:Int) (t0.length+1))
(cond (decide ((t0.length:Int)=(t0.length:Int)))
(cond (cb ((bA t0 (Int.toNat (t0.length:Int))).length+t5.length))
(some ([.one (.sl true 5 ((bA t0 (Int.toNat (t0.length:Int)))++t5))],[])) none) none) none)):=by kernel_rfl
theorem e13 (m:Nat)(p c:RL)(ki ni mi:Int):aj E (aa L16) (m+1) 13 [.os p,.one (.sl false 96 c),.oi ki,.oi ni,.oi mi] []=
 let z1:=IntKind.wrap .i64 (Int.tdiv (aK mi 1099511627776) 1024)
 let z2:=IntKind.wrap .i64 (1+(aK ki 8))
 let z3:=IntKind.wrap .i64 (Int.tdiv (aK mi 1099511627776) 16)
 let z4:=IntKind.wrap .i64 (101+(ad ni 3 4))
 let z5:=IntKind.wrap .i64 (1+(ad ni 6 1))
 let z6:=IntKind.wrap .i64 (1+(ad ni 6 0))
 let z7:=bv (bv p z1) (z1%1099511627776 / 64)
 let z8:=bv (bv p mi) (mi%1099511627776 / 64)
 let z9:=IntKind.wrap .i64 (1+(ad ni 2 10))
 let z10:=IntKind.wrap .i64 (1+(ad ni 2 9))
(cond (decide (8≤4611686018427387904))
(cond (decide (2≤6)&&decide (0≤9223372036854775807))
(cond (decide (2≤6)&&decide (1≤9223372036854775807))
(cond (z2==1)
(cond (z2==1)
(cond (decide (2≤3)&&decide (4≤9223372036854775807))
(cond (decide (2≤2)&&decide (9≤9223372036854775807))
(cond (decide (2≤2)&&decide (10≤9223372036854775807))
(cond (ek p)
(cond (fz c)
(cond (z2==1)
(cond (decide (2≤3)&&decide (9≤9223372036854775807))
(cond ((IntKind.wrap .i64 (1+(ad mi 3 9)))==1)
(some ([.agg [.i z2,.i z4,.i z5,.i z4,.i z10,.i z9,.i (IntKind.wrap .i64 (1+(ad mi 3 9))),.s ([]:RL),.s ([]:RL),.s ([]:RL),.s ([]:RL),.bool false,.s ([]:RL),.s ([]:RL),.s (bv p mi),.sl false 96 ([]:RL),.sl false 103 ([]:RL),.bool false]],[]))
(some ([.agg [.i z2,.i z4,.i z5,.i z4,.i z10,.i z9,.i (IntKind.wrap .i64 (1+(ad mi 3 9))),.s ([]:RL),.s ([]:RL),.s ([]:RL),.s ([]:RL),.bool false,.s ([]:RL),.s ([]:RL),.s (bv p mi),.sl false 96 (bP c ni),.sl false 103 ([]:RL),.bool false]],[]))) none)
(cond (decide (2≤3)&&decide (12≤9223372036854775807))
(cond (decide ((ad mi 3 12)>0))
(cond (decide (1099511627776≤4611686018427387904))
(cond (ek p)
(cond (decide (1099511627776≤4611686018427387904))
(cond (ek p)
(some ([.agg [.i z2,.i z6,.i z4,.i z4,.i z10,.i z9,.i 0,.s ([]:RL),.s ([]:RL),.s (bv (bv p z3) (z3%1099511627776 / 64)),.s (bv p z3),.bool (decide ((ad mi 3 12)>0)),.s z7,.s (bv p z1),.s (bv p mi),.sl false 96 (bP c ni),.sl false 103 ([]:RL),.bool false]],[])) none) none) none) none)
(cond (decide (1099511627776≤4611686018427387904))
(cond (ek p)
(some ([.agg [.i z2,.i z6,.i z4,.i z4,.i z10,.i z9,.i 0,.s ([]:RL),.s ([]:RL),.s ([]:RL),.s ([]:RL),.bool (decide ((ad mi 3 12)>0)),.s z7,.s (bv p z1),.s (bv p mi),.sl false 96 (bP c ni),.sl false 103 ([]:RL),.bool false]],[])) none) none)) none)) none) none) none) none) none)
(cond (z2==4)
(cond (ek p)
(cond (fz c)
(cond (cN (bP c ni))
(some ([.agg [.i z2,.i z6,.i z5,.i 0,.i 0,.i 0,.i 0,.s z8,.s (bv p mi),.s ([]:RL),.s ([]:RL),.bool false,.s ([]:RL),.s ([]:RL),.s ([]:RL),.sl false 96 ([]:RL),.sl false 103 (gf (bP c ni)),.bool false]],[])) none) none) none)
(cond (z2==5)
(cond (ek p)
(cond (fz c)
(cond (cN (bP c ni))
(cond (fz c&&cN (gf (bP c ni)))
(cond (decide (2≤3)&&decide (12≤9223372036854775807))
(cond (decide ((ad mi 3 12)>0))
(cond (decide (1099511627776≤4611686018427387904))
(cond (ek p)
(cond (decide (1099511627776≤4611686018427387904))
(cond (ek p)
(some ([.agg [.i z2,.i z6,.i z5,.i 0,.i 0,.i 0,.i 0,.s z8,.s (bv p mi),.s (bv (bv p z3) (z3%1099511627776 / 64)),.s (bv p z3),.bool (decide ((ad mi 3 12)>0)),.s z7,.s (bv p z1),.s ([]:RL),.sl false 96 (iR c (gf (bP c ni)) 4).1,.sl false 103 ([]:RL),.bool (iR c (gf (bP c ni)) 4).2]],[])) none) none) none) none)
(cond (decide (1099511627776≤4611686018427387904))
(cond (ek p)
(some ([.agg [.i z2,.i z6,.i z5,.i 0,.i 0,.i 0,.i 0,.s z8,.s (bv p mi),.s ([]:RL),.s ([]:RL),.bool (decide ((ad mi 3 12)>0)),.s z7,.s (bv p z1),.s ([]:RL),.sl false 96 (iR c (gf (bP c ni)) 4).1,.sl false 103 ([]:RL),.bool (iR c (gf (bP c ni)) 4).2]],[])) none) none)) none) none) none) none) none)
(cond (ek p)
(some ([.agg [.i z2,.i z6,.i z5,.i 0,.i 0,.i 0,.i 0,.s z8,.s (bv p mi),.s ([]:RL),.s ([]:RL),.bool false,.s ([]:RL),.s ([]:RL),.s ([]:RL),.sl false 96 ([]:RL),.sl false 103 ([]:RL),.bool false]],[])) none))))
(cond (z2==2)
(cond (decide (2≤3)&&decide (4≤9223372036854775807))
(cond (decide (2≤2)&&decide (9≤9223372036854775807))
(cond (decide (2≤2)&&decide (10≤9223372036854775807))
(cond (ek p)
(cond (fz c)
(cond (z2==1)
(cond (decide (2≤3)&&decide (9≤9223372036854775807))
(cond ((IntKind.wrap .i64 (1+(ad mi 3 9)))==1)
(some ([.agg [.i z2,.i z4,.i z5,.i z4,.i z10,.i z9,.i (IntKind.wrap .i64 (1+(ad mi 3 9))),.s ([]:RL),.s ([]:RL),.s ([]:RL),.s ([]:RL),.bool false,.s ([]:RL),.s ([]:RL),.s (bv p mi),.sl false 96 ([]:RL),.sl false 103 ([]:RL),.bool false]],[]))
(some ([.agg [.i z2,.i z4,.i z5,.i z4,.i z10,.i z9,.i (IntKind.wrap .i64 (1+(ad mi 3 9))),.s ([]:RL),.s ([]:RL),.s ([]:RL),.s ([]:RL),.bool false,.s ([]:RL),.s ([]:RL),.s (bv p mi),.sl false 96 (bP c ni),.sl false 103 ([]:RL),.bool false]],[]))) none)
(cond (decide (2≤3)&&decide (12≤9223372036854775807))
(cond (decide ((ad mi 3 12)>0))
(cond (decide (1099511627776≤4611686018427387904))
(cond (ek p)
(cond (decide (1099511627776≤4611686018427387904))
(cond (ek p)
(some ([.agg [.i z2,.i z6,.i z4,.i z4,.i z10,.i z9,.i 0,.s ([]:RL),.s ([]:RL),.s (bv (bv p z3) (z3%1099511627776 / 64)),.s (bv p z3),.bool (decide ((ad mi 3 12)>0)),.s z7,.s (bv p z1),.s (bv p mi),.sl false 96 (bP c ni),.sl false 103 ([]:RL),.bool false]],[])) none) none) none) none)
(cond (decide (1099511627776≤4611686018427387904))
(cond (ek p)
(some ([.agg [.i z2,.i z6,.i z4,.i z4,.i z10,.i z9,.i 0,.s ([]:RL),.s ([]:RL),.s ([]:RL),.s ([]:RL),.bool (decide ((ad mi 3 12)>0)),.s z7,.s (bv p z1),.s (bv p mi),.sl false 96 (bP c ni),.sl false 103 ([]:RL),.bool false]],[])) none) none)) none)) none) none) none) none) none)
(cond (z2==4)
(cond (ek p)
(cond (fz c)
(cond (cN (bP c ni))
(some ([.agg [.i z2,.i z6,.i z5,.i 0,.i 0,.i 0,.i 0,.s z8,.s (bv p mi),.s ([]:RL),.s ([]:RL),.bool false,.s ([]:RL),.s ([]:RL),.s ([]:RL),.sl false 96 ([]:RL),.sl false 103 (gf (bP c ni)),.bool false]],[])) none) none) none)
(cond (z2==5)
(cond (ek p)
(cond (fz c)
(cond (cN (bP c ni))
(cond (fz c&&cN (gf (bP c ni)))
(cond (decide (2≤3)&&decide (12≤9223372036854775807))
(cond (decide ((ad mi 3 12)>0))
(cond (decide (1099511627776≤4611686018427387904))
(cond (ek p)
(cond (decide (1099511627776≤4611686018427387904))
(cond (ek p)
(some ([.agg [.i z2,.i z6,.i z5,.i 0,.i 0,.i 0,.i 0,.s z8,.s (bv p mi),.s (bv (bv p z3) (z3%1099511627776 / 64)),.s (bv p z3),.bool (decide ((ad mi 3 12)>0)),.s z7,.s (bv p z1),.s ([]:RL),.sl false 96 (iR c (gf (bP c ni)) 4).1,.sl false 103 ([]:RL),.bool (iR c (gf (bP c ni)) 4).2]],[])) none) none) none) none)
(cond (decide (1099511627776≤4611686018427387904))
(cond (ek p)
(some ([.agg [.i z2,.i z6,.i z5,.i 0,.i 0,.i 0,.i 0,.s z8,.s (bv p mi),.s ([]:RL),.s ([]:RL),.bool (decide ((ad mi 3 12)>0)),.s z7,.s (bv p z1),.s ([]:RL),.sl false 96 (iR c (gf (bP c ni)) 4).1,.sl false 103 ([]:RL),.bool (iR c (gf (bP c ni)) 4).2]],[])) none) none)) none) none) none) none) none)
(cond (ek p)
(some ([.agg [.i z2,.i z6,.i z5,.i 0,.i 0,.i 0,.i 0,.s z8,.s (bv p mi),.s ([]:RL),.s ([]:RL),.bool false,.s ([]:RL),.s ([]:RL),.s ([]:RL),.sl false 96 ([]:RL),.sl false 103 ([]:RL),.bool false]],[])) none))))) none) none) none):=by kernel_rfl
theorem e3 (m:Nat)(k1 f1 t1 p1 n1 r1 o1:Int)(cf1 ct1 bf1 bt1:RL)(h1:Bool)(ef1 et1 g1 u1 v1:RL)(m1:Bool):aj E (aa L7) (m+1) 3 [.agg [.i k1,.i f1,.i t1,.i p1,.i n1,.i r1,.i o1,.s cf1,.s ct1,.s bf1,.s bt1,.bool h1,.s ef1,.s et1,.s g1,.sl false 96 u1,.sl false 103 v1,.bool m1]] []=
(cond (!(pG cf1 ct1 bf1 bt1 ef1 et1 g1 u1 v1))
(some ([.ob true],[]))
(cond (okM cf1 ct1 bf1 bt1 ef1 et1 g1 u1 v1)
(cond (okM cf1 ct1 bf1 bt1 ef1 et1 g1 u1 v1)
(cond ((gM (Msg.mk k1 f1 t1 p1 n1 r1 o1 cf1 ct1 bf1 bt1 h1 ef1 et1 g1 u1 v1 m1))==(gM (Msg.mk k1 f1 t1 p1 n1 r1 o1 cf1 ct1 bf1 bt1 h1 ef1 et1 g1 u1 v1 m1)))
(some ([.ob true],[]))
(some ([.ob false],[]))) none) none)):=by kernel_rfl
theorem e4 (m:Nat)(x:RL):aj E (aa L3) (m+1) 4 [.or x] []=
(cond (decide ((x.length:Int)>600))
(some ([.ob true],[]))
(cond (aI x)
(cond (aI x)
(cond (okM (aL x).1.cf (aL x).1.ct (aL x).1.bf (aL x).1.bt (aL x).1.ef (aL x).1.et (aL x).1.g (aL x).1.u (aL x).1.v)
(cond (eqM (aL x).1.k (aL x).1.f (aL x).1.t (aL x).1.p (aL x).1.n (aL x).1.r (aL x).1.o (aL x).1.cf (aL x).1.ct (aL x).1.bf (aL x).1.bt (aL x).1.h (aL x).1.ef (aL x).1.et (aL x).1.g (aL x).1.u (aL x).1.v (aL x).1.m (aL x).1.k (aL x).1.f (aL x).1.t (aL x).1.p (aL x).1.n (aL x).1.r (aL x).1.o (aL x).1.cf (aL x).1.ct (aL x).1.bf (aL x).1.bt (aL x).1.h (aL x).1.ef (aL x).1.et (aL x).1.g (aL x).1.u (aL x).1.v (aL x).1.m)
(cond ((aL x).2.1==(aL x).2.1)
(cond ((aL x).2.2==(aL x).2.2)
(some ([.ob true],[]))
(some ([.ob false],[])))
(some ([.ob false],[])))
(some ([.ob false],[]))) none) none) none)):=by kernel_rfl
theorem e5 (m:Nat)(l u:RL)(ki ni mi av wi:Int)(ct:Bool):aj E (aa L4) (m+1) 5 [.one (.sl false 3 l),.one (.sl false 3 u),.oi ki,.oi ni,.oi mi,.one (.int .u16 av),.one (.int .u8 wi),.ob ct] []=
 let z4:=fy (pj l) (jp u) ki ni mi
 let z6:=Msg.mk z4.k z4.f z4.t z4.p z4.n z4.r z4.o z4.cf z4.ct z4.bf z4.bt z4.h z4.ef z4.et z4.g z4.u z4.v z4.m
 let z1:=oE z6
 let z5:=Int.tmod (IntKind.wrap .i64 av) (z1.length:Int)
 let z2:=Abs.setN (([]:RL)++z1) (Int.toNat z5) (dT (rA (([]:RL)++z1) (Int.toNat z5)) 0 [Cell.int .u8 wi])
 let z3:=aL (dA (([]:RL)++z1) 0 (0+(Int.toNat z5)))
(cond (decide (l.length<4611686018427387904))
(cond (decide (u.length<9223372036854775808))
(cond (ek (pj l)&&fz (jp u))
(cond (okM z4.cf z4.ct z4.bf z4.bt z4.ef z4.et z4.g z4.u z4.v)
(cond ((gM z6) !=0)
(some ([.ob false],[]))
(cond (rH z6)
(cond ((z1.length:Int)==0)
(some ([.ob false],[]))
(cond (decide ((z1.length:Int)=0)) none
(cond (cb (([]:RL).length+z1.length))
(cond ct
(cond (Nat.blt 0 (([]:RL).length+z1.length))
(cond (inB z5 ((([]:RL).length+z1.length)+1))
(cond (Nat.ble (0+(Int.toNat z5)) (([]:RL)++z1).length)
(cond (aI (dA (([]:RL)++z1) 0 (0+(Int.toNat z5))))
(cond (aI (dA (([]:RL)++z1) 0 (0+(Int.toNat z5))))
(cond (okM z3.1.cf z3.1.ct z3.1.bf z3.1.bt z3.1.ef z3.1.et z3.1.g z3.1.u z3.1.v)
(cond (eqM z3.1.k z3.1.f z3.1.t z3.1.p z3.1.n z3.1.r z3.1.o z3.1.cf z3.1.ct z3.1.bf z3.1.bt z3.1.h z3.1.ef z3.1.et z3.1.g z3.1.u z3.1.v z3.1.m z3.1.k z3.1.f z3.1.t z3.1.p z3.1.n z3.1.r z3.1.o z3.1.cf z3.1.ct z3.1.bf z3.1.bt z3.1.h z3.1.ef z3.1.et z3.1.g z3.1.u z3.1.v z3.1.m)
(cond (z3.2.1==z3.2.1)
(cond (z3.2.2==z3.2.2)
(cond (!ct)
(some ([.ob true],[]))
(cond (z3.2.2==1)
(some ([.ob true],[]))
(some ([.ob false],[]))))
(some ([.ob false],[])))
(some ([.ob false],[])))
(some ([.ob false],[]))) none) none) none) none) none) none)
(cond (inB z5 (([]:RL).length+z1.length))
(cond (Nat.blt (Int.toNat z5) (([]:RL)++z1).length)
(cond (Nat.beq (([]:RL).length+z1.length) z2.length)
(cond (aI z2)
(cond (Nat.beq (([]:RL).length+z1.length) z2.length)
(cond (aI z2)
(cond (okM (aL z2).1.cf (aL z2).1.ct (aL z2).1.bf (aL z2).1.bt (aL z2).1.ef (aL z2).1.et (aL z2).1.g (aL z2).1.u (aL z2).1.v)
(cond (eqM (aL z2).1.k (aL z2).1.f (aL z2).1.t (aL z2).1.p (aL z2).1.n (aL z2).1.r (aL z2).1.o (aL z2).1.cf (aL z2).1.ct (aL z2).1.bf (aL z2).1.bt (aL z2).1.h (aL z2).1.ef (aL z2).1.et (aL z2).1.g (aL z2).1.u (aL z2).1.v (aL z2).1.m (aL z2).1.k (aL z2).1.f (aL z2).1.t (aL z2).1.p (aL z2).1.n (aL z2).1.r (aL z2).1.o (aL z2).1.cf (aL z2).1.ct (aL z2).1.bf (aL z2).1.bt (aL z2).1.h (aL z2).1.ef (aL z2).1.et (aL z2).1.g (aL z2).1.u (aL z2).1.v (aL z2).1.m)
(cond ((aL z2).2.1==(aL z2).2.1)
(cond ((aL z2).2.2==(aL z2).2.2)
(cond (!ct)
(some ([.ob true],[]))
(cond ((aL z2).2.2==1)
(some ([.ob true],[]))
(some ([.ob false],[]))))
(some ([.ob false],[])))
(some ([.ob false],[])))
(some ([.ob false],[]))) none) none) none) none) none) none) none)) none))) none)) none) none) none) none):=by kernel_rfl
end Go.Proofs.YtejimgikldiajaaGreat
namespace Go.Proofs.YtejimgikldiajaaGreat
open Go.Abs
def eP (w:Msg):AV:=.agg [.int .i64 w.k,.int .i64 w.f,.int .i64 w.t,.int .i64 w.p,.int .i64 w.n,.int .i64 w.r,.int .i64 w.o,.sl false 93 w.cf,.sl false 93 w.ct,.sl false 93 w.bf,.sl false 93 w.bt,.bool w.h,.sl false 93 w.ef,.sl false 93 w.et,.sl false 93 w.g,.sl false 96 w.u,.sl false 103 w.v,.bool w.m]
def okW (w:Msg):Bool:=okM w.cf w.ct w.bf w.bt w.ef w.et w.g w.u w.v
theorem pE {cf ct bf bt ef et g u v:RL}(h:okM cf ct bf bt ef et g u v=true):
 ao cf=true∧ao ct=true∧ao bf=true∧ao bt=true∧ao ef=true∧ao et=true∧ao g=true∧eG u=true∧cN v=true:=by
 unfold okM at h
 simp only [Bool.and_eq_true]at h
 obtain⟨⟨h1,h2⟩,⟨h3,h4⟩,⟨h5,h6⟩,h7,h8,h9⟩:=h
 exact⟨h1,h2,h3,h4,h5,h6,h7,h8,h9⟩
theorem Fs {a b:Bool}(h1:a=true)(h2:b=true):(a&&b)=true:=by rw [h1,h2];rfl
theorem Cq {u:RL}(h:eG u=true):cN u=true∧u.length<9223372036854775808:=by
 have:=(sQ h).1
 exact⟨fE (by omega),by omega⟩
theorem Cd (l:RL):((l.length:Int)==0)=decide (l.length=0):=by
 rw [Bool.eq_iff_iff,beq_iff_eq,decide_eq_true_eq];omega
theorem Jh (l:RL):decide ((l.length:Int)>0)=decide (0<l.length):=by
 apply decide_eq_decide.2;omega
theorem k58 (n:Int):aj E (aa L18) 1 58 [.oi n] []=some ([.ob (cO n)],[]):=by
 rw [e58]
 unfold cO d9 ic
 cases decide (n≥101)<;>cases decide (n<107)<;>cases decide (n≥201)<;>rfl
theorem k19 (n:Int):aj E (aa L58) 1 19 [.oi n] []=some ([.ob (cI n)],[]):=by
 rw [e19]
 unfold cI dt
 cases decide (n≥1)<;>cases decide (n≤12)<;>rfl
theorem k23 (n:Int):aj E (aa L19) 1 23 [.oi n] []=some ([.ob (cI n)],[]):=by
 rw [e23]
 unfold cI cO
 cases dt n<;>cases d9 n<;>rfl
theorem k60 (f t:RL):aj E (aa L23) 1 60 [.agg [.s f,.s t]] []=some ([.ob (noT f t)],[]):=by
 rw [e60,Cd,Cd]
 unfold noT
 cases decide (f.length=0)<;>rfl
theorem k69 (f t:RL):aj E (aa L60) 1 69 [.agg [.s f,.s t]] []=some ([.ob (noT f t)],[]):=by
 rw [e69,Cd,Cd]
 unfold noT
 cases decide (f.length=0)<;>rfl
theorem qY (f:Int):∀(c:RL) (i:Int),0≤i→(0≤rE f i c↔inF c f=true)
 | [],i,h=>by simp [rE,inF]
 | q::c,i,h=>by
  have ih:=qY f c (i+1) (by omega)
  unfold rE
  unfold inF at ih⊢
  rw [List.any_cons]
  by_cases hr:f=nr q 0
  · simp [hr,h]
  · rw [if_neg hr,ih]
    have:(nr q 0==f)=false:=by simpa using Ne.symm hr
    rw [this,Bool.false_or]
theorem l59 (l:RL)(f:Int)(hl:l.length<9223372036854775808):∀(d i:Nat),i+d=l.length→
 ∃m,goF E (aa L69) F59 0 m Dg (DE l f l.length i)=some ([.one (.int .i64 (rE f i (l.drop i)))],[])
 | 0,i,hi=>by
  refine⟨1, ?_⟩
  rw [Mx]
  have:l.drop i=[]:=List.drop_eq_nil_of_le (by omega)
  rw [this,rE]
  exact cf (decide_eq_false (by omega)) rfl
 | d+1,i,hi=>by
  obtain⟨m,hm⟩:=l59 l f hl d (i+1) (by omega)
  refine⟨m+1, ?_⟩
  rw [Mx,aE l i (by omega),rE,Int.toNat_natCast,aF (n:=l.length) (by omega) hl]
  refine ct (decide_eq_true (by omega)) (ct (ax (by omega)) ?_)
  by_cases hr:f=nr (rA l i) 0
  · rw [if_pos hr]
    exact ct (beq_iff_eq.2 hr) rfl
  · rw [if_neg hr]
    refine cf (by simpa using hr) ?_
    rw [hm]
    rfl
theorem k59 (l:RL)(f:Int)(h:l.length<9223372036854775808):
 ∃m,aj E (aa L69) m 59 [.one (.sl false 54 l),.oi f] []=some ([.oi (Kf l f)],[]):=by
 obtain⟨m,hm⟩:=l59 l f h l.length 0 (by omega)
 exact⟨m+1,by rw [e59];exact hm⟩
theorem k20 (l:RL)(f:Int)(h:l.length<9223372036854775808):
 aj E (aa L59) 1 20 [.one (.sl false 54 l),.oi f] []=some ([.ob (inF l f)],[]):=by
 rw [e20]
 refine ct (decide_eq_true h) ?_
 refine congrArg (fun z=>some ([AV.one (AC.bool z)],([]:List Block))) ?_
 have h:=qY f l 0 (by omega)
 unfold Kf
 cases hc:inF l f
 · rw [hc]at h
   exact decide_eq_false (fun h0=>by cases h.1 h0)
 · rw [hc]at h
   exact decide_eq_true (h.2 rfl)
theorem ci {α:Type}{p:Prop} [Decidable p]{b:Bool}{x y:α}(h:b=decide p):cond b x y=if p then x else y:=by
 subst h
 by_cases hp:p
 · rw [if_pos hp,decide_eq_true hp];rfl
 · rw [if_neg hp,decide_eq_false hp];rfl
theorem Oo (x y:Int):(x==y)=decide (x=y):=by rw [Bool.eq_iff_iff,beq_iff_eq,decide_eq_true_eq]
theorem LH {p:Prop} [Decidable p](x y:Bool):(if p then some ([AV.one (.bool x)],([]:List Block))else some ([AV.one (.bool y)],[]))=some ([AV.one (.bool (if p then x else y))],[]):=by split<;>rfl
theorem iY (b:Bool)(x y:Int):(cond b (some ([AV.one (.int .i64 x)],([]:List Block))) (some ([AV.one (.int .i64 y)],[])))=some ([AV.one (.int .i64 (if b=true then x else y))],[]):=by cases b<;>rfl
theorem k21 (w:Msg)(f:Int):aj E (aa L20) 1 21 [eP w,.oi f] []=some ([.ob (cn w f)],[]):=by
 unfold eP
 rw [e21]
 simp only [Cd,ci (Oo f _),LH,Bool.and_true]
 rfl
theorem wD (c:RL)(q:List Cell):qy true [] c=qy true q c:=by
 cases c<;>simp [qy]
theorem yU (b:Bool)(q r:List Cell)(rs:RL):qy b q (r::rs)=
 if dB r≠0 then dB r else if b=false∧ir (nr r 0) (nr r 1) (nr q 0) (nr q 1)≤0 then 7 else qy false r rs:=rfl
theorem Pm (c:RL)(hc:c.length≤4):∀(d i:Nat),i+d=c.length→
 ∃m,goF E (aa L21) F109 0 m uI (sR c c c.length i)=some ([.one (.int .i64 (qy (decide (i=0)) (rA c (i - 1)) (c.drop i)))],[])
 | 0,i,hi=>by
  refine⟨1, ?_⟩
  rw [Iv]
  have:c.drop i=[]:=List.drop_eq_nil_of_le (by omega)
  rw [this,qy]
  exact cf (decide_eq_false (by omega)) rfl
 | d+1,i,hi=>by
  have hi':i<c.length:=by omega
  obtain⟨m,hm⟩:=Pm c hc d (i+1) (by omega)
  rw [decide_eq_false (by omega:¬i+1=0),Nat.add_sub_cancel]at hm
  refine⟨m+1, ?_⟩
  rw [Iv,aE c i hi',yU,Int.toNat_natCast,aF (n:=c.length) hi' (by omega),hm]
  refine ct (decide_eq_true (by omega)) (ct (ax hi') ?_)
  generalize hr:rA c i=r
  show cond (dB r !=0) (some ([AV.one (AC.int .i64 (dB r))],([]:List Block))) _=_
  by_cases hv:dB r=0
  · rw [if_neg (by simpa using hv)]
    refine cf (by simpa using hv) ?_
    by_cases h0:i=0
    · subst h0
      rw [decide_eq_true rfl,if_neg (by simp)]
      exact cf (decide_eq_false (by simp)) rfl
    · rw [aA (n:=(i:Int) - 1) (by omega) (by omega),show((i:Int) - 1).toNat=i - 1 by omega]
      rw [decide_eq_false h0]
      generalize rA c (i - 1)=q
      refine ct (decide_eq_true (by omega)) (ct (aC (by omega) (by omega)) ?_)
      by_cases h2:ir (nr r 0) (nr r 1) (nr q 0) (nr q 1)≤0
      · rw [if_pos ⟨rfl,h2⟩]
        exact ct (decide_eq_true h2) rfl
      · rw [if_neg (fun h=>h2 h.2)]
        exact cf (decide_eq_false h2) rfl
  · rw [if_pos hv]
    exact ct (by simpa using hv) rfl
theorem Rn (c:RL):∃m,aj E (aa L21) m 109 [.one (.sl false 96 c)] []=some ([.oi (vCh c)],[]):=by
 by_cases hc:4<c.length
 · refine⟨1, ?_⟩
   rw [Pu]
   unfold vCh
   rw [if_pos hc]
   exact ct (decide_eq_true (by omega)) rfl
 · obtain⟨m,hm⟩:=Pm c (by omega) c.length 0 (by omega)
   refine⟨m+1, ?_⟩
   rw [Pu]
   refine cf (decide_eq_false (by omega)) (Eq.trans hm ?_)
   unfold vCh
   rw [if_neg hc,decide_eq_true rfl,List.drop_zero,wD _ (rA c (0 - 1))]
theorem l28 (c:RL)(hc:c.length≤4):∀(d i:Nat),i+d=c.length→
 ∃m,goF E (aa vb) F28 0 m Ay (yL c i)=some ([.one (.int .i64 (qy (decide (i=0)) (rA c (i - 1)) (c.drop i)))],[])
 | 0,i,hi=>by
  refine⟨1, ?_⟩
  rw [MM]
  have:c.drop i=[]:=List.drop_eq_nil_of_le (by omega)
  rw [this,qy]
  exact cf (decide_eq_false (by omega)) rfl
 | d+1,i,hi=>by
  have hi':i<c.length:=by omega
  obtain⟨m,hm⟩:=l28 c hc d (i+1) (by omega)
  rw [decide_eq_false (by omega:¬i+1=0),Nat.add_sub_cancel]at hm
  have hib:=ax hi'
  refine⟨m+1, ?_⟩
  rw [MM,aE c i hi',yU,Int.toNat_natCast,aF (n:=c.length) hi' (by omega),hm]
  refine ct (decide_eq_true (by omega)) (ct hib ?_)
  generalize hr:rA c i=r
  show cond (dB r !=0) (some ([AV.one (AC.int .i64 (dB r))],([]:List Block))) _=_
  by_cases hv:dB r=0
  · rw [if_neg (by simpa using hv)]
    refine cf (by simpa using hv) ?_
    by_cases h0:i=0
    · subst h0
      rw [decide_eq_true rfl,if_neg (by simp)]
      exact cf (decide_eq_false (by simp)) rfl
    · rw [aA (n:=(i:Int) - 1) (by omega) (by omega),show((i:Int) - 1).toNat=i - 1 by omega]
      rw [decide_eq_false h0]
      generalize rA c (i - 1)=q
      have hsw:=vD (nr r 0) (nr r 1) (nr q 0) (nr q 1)
      refine ct (decide_eq_true (by omega)) (ct (aC (by omega) (by omega)) (ct hib ?_))
      by_cases h2:ir (nr r 0) (nr r 1) (nr q 0) (nr q 1)≤0
      · rw [if_pos ⟨rfl,h2⟩]
        exact ct (decide_eq_true (hsw.2 h2)) rfl
      · rw [if_neg (fun h=>h2 h.2)]
        exact cf (decide_eq_false (fun h=>h2 (hsw.1 h))) rfl
  · rw [if_pos hv]
    exact ct (by simpa using hv) rfl
theorem k28 (c:RL):∃m,aj E (aa vb) m 28 [.one (.sl false 96 c)] []=some ([.oi (vCh c)],[]):=by
 by_cases hc:4<c.length
 · refine⟨1, ?_⟩
   rw [e28]
   unfold vCh
   rw [if_pos hc]
   exact ct (decide_eq_true (by omega)) rfl
 · obtain⟨m,hm⟩:=l28 c (by omega) c.length 0 (by omega)
   refine⟨m+1, ?_⟩
   rw [e28]
   refine cf (decide_eq_false (by omega)) (Eq.trans hm ?_)
   unfold vCh
   rw [if_neg hc,decide_eq_true rfl,List.drop_zero,wD _ (rA c (0 - 1))]
theorem k62 (w:Msg)(h:cN w.u=true):aj E (aa L28) 1 62 [eP w] []=some ([.oi (nO w)],[]):=by
 unfold eP
 rw [e62,Jh]
 unfold nO
 have hl:=gJ h
 by_cases h5:w.k=5
 · rw [if_pos h5]
   exact ct (beq_iff_eq.2 h5) (ct (decide_eq_true (by omega)) rfl)
 · rw [if_neg h5]
   refine cf (by simpa using h5) (ct h ?_)
   by_cases hv:vSt w.u=0
   · rw [if_neg (by simpa using hv)]
     refine cf (by simpa using hv) ?_
     by_cases h1:w.k=1
     · by_cases h2:w.o=1
       · refine ct (beq_iff_eq.2 h1) (ct (beq_iff_eq.2 h2) ?_)
         by_cases h3:0<w.u.length
         · rw [if_pos ⟨h1,h2,h3⟩];exact ct (decide_eq_true h3) rfl
         · rw [if_neg fun h=>h3 h.2.2];exact cf (decide_eq_false h3) rfl
       · rw [if_neg fun h=>h2 h.2.1]
         exact ct (beq_iff_eq.2 h1) (cf (by simpa using h2) rfl)
     · rw [if_neg fun h=>h1 h.1]
       exact cf (by simpa using h1) rfl
   · rw [if_pos hv]
     exact ct (by simpa using hv) rfl
theorem l64 (v:RL)(hv:v.length≤1000):∀(d i:Nat),i+d=v.length→
 ∃m,goF E (aa L62) F64 0 m A0 (Ap v v v.length i)=some ([.one (.int .i64 (ls (decide (i=0)) (rA v (i - 1)) (v.drop i)))],[])
 | 0,i,hi=>by
  refine⟨1, ?_⟩
  rw [MU]
  have:v.drop i=[]:=List.drop_eq_nil_of_le (by omega)
  rw [this,ls]
  exact cf (decide_eq_false (by omega)) rfl
 | d+1,i,hi=>by
  have hi':i<v.length:=by omega
  obtain⟨m,hm⟩:=l64 v hv d (i+1) (by omega)
  rw [decide_eq_false (by omega:¬i+1=0),Nat.add_sub_cancel]at hm
  refine⟨m+1, ?_⟩
  rw [MU,aE v i hi',ls,Int.toNat_natCast,aF (n:=v.length) hi' (by omega),hm]
  refine ct (decide_eq_true (by omega)) (ct (ax hi') ?_)
  generalize hr:rA v i=r
  by_cases h1:nr r 0<1
  · rw [if_pos (.inl h1)];exact ct (decide_eq_true h1) rfl
  · refine cf (decide_eq_false h1) ?_
    by_cases h2:nr r 1<1
    · rw [if_pos (.inr (.inl h2))];exact ct (decide_eq_true h2) rfl
    · refine cf (decide_eq_false h2) ?_
      by_cases h3:1000000<nr r 1
      · rw [if_pos (.inr (.inr h3))];exact ct (decide_eq_true h3) rfl
      · rw [if_neg (by omega)]
        refine cf (decide_eq_false h3) ?_
        by_cases h0:i=0
        · subst h0
          rw [decide_eq_true rfl,if_neg (by simp)]
          exact cf (decide_eq_false (by simp)) rfl
        · rw [aA (n:=(i:Int) - 1) (by omega) (by omega),show((i:Int) - 1).toNat=i - 1 by omega,decide_eq_false h0]
          refine ct (decide_eq_true (by omega)) (ct (aC (by omega) (by omega)) ?_)
          generalize rA v (i - 1)=q
          by_cases h4:nr r 0≤nr q 0
          · rw [if_pos ⟨rfl,h4⟩];exact ct (decide_eq_true h4) rfl
          · rw [if_neg fun h=>h4 h.2];exact cf (decide_eq_false h4) rfl
theorem k64 (v:RL)(h:cN v=true):∃m,aj E (aa L62) m 64 [.one (.sl false 103 v)] []=some ([.oi (qx v)],[]):=by
 obtain⟨m,hm⟩:=l64 v (gJ h) v.length 0 (by omega)
 refine⟨m+1, ?_⟩
 rw [e64]
 refine Eq.trans hm ?_
 rw [decide_eq_true rfl,List.drop_zero,ro _ []]
 rfl
theorem k22 (w:Msg)(f:Int)(hw:okW w=true):aj E (aa L64) 1 22 [eP w,.oi f] []=some ([.oi (aB w f)],[]):=by
 obtain⟨h1,h2,h3,h4,h5,h6,h7,h8,h9⟩:=pE hw
 unfold eP
 rw [e22]
 simp only [ci (Oo f _),ci (rfl:decide _=decide _),Fs h1 h2,Fs h3 h4,Fs h5 h6,h7,(Cq h8).1,h9,cond_true]
 unfold aB
 by_cases c0:f=0
 · rw [if_pos c0,if_pos c0]
   cases cO w.p
   · rfl
   · simp only [Bool.not_true,cond_false]
     by_cases d1:w.n<1
     · rw [if_pos d1,if_neg (by omega)]
     · rw [if_neg d1]
       by_cases d2:w.n>1000000
       · rw [if_pos d2,if_neg (by omega)]
       · rw [if_neg d2,if_pos ⟨trivial,by omega,by omega⟩]
 rw [if_neg c0,if_neg c0]
 by_cases c1:f=1
 · rw [if_pos c1,if_pos c1]
   by_cases d1:w.r<1
   · rw [if_pos d1,if_neg (by omega)]
   · rw [if_neg d1]
     by_cases d2:w.r>1000000
     · rw [if_pos d2,if_neg (by omega)]
     · rw [if_neg d2,if_pos ⟨by omega,by omega⟩]
 rw [if_neg c1,if_neg c1]
 by_cases c2:f=2
 · rw [if_pos c2,if_pos c2]
   by_cases d1:w.o<1
   · rw [if_pos d1,if_neg (by omega)]
   · rw [if_neg d1]
     by_cases d2:w.o>3
     · rw [if_pos d2,if_neg (by omega)]
     · rw [if_neg d2,if_pos ⟨by omega,by omega⟩]
 rw [if_neg c2,if_neg c2]
 by_cases c3:f=3
 · rw [if_pos c3,if_pos c3]
 rw [if_neg c3,if_neg c3]
 by_cases c4:f=4
 · rw [if_pos c4,if_pos c4]
 rw [if_neg c4,if_neg c4]
 by_cases c5:f=5
 · rw [if_pos c5,if_pos c5]
 rw [if_neg c5,if_neg c5]
 by_cases c6:f=6
 · rw [if_pos c6,if_pos c6]
 rw [if_neg c6,if_neg c6]
 by_cases c9:f=9
 · rw [if_pos c9,if_pos c9]
   cases w.h<;>cases noT w.bf w.bt<;>rfl
 rw [if_neg c9,if_neg c9]
 by_cases c10:f=10
 · rw [if_pos c10,if_pos c10]
 rw [if_neg c10,if_neg c10]
theorem m0 (k:Int):(be k).length≤7:=by
 unfold be ca
 repeat' split
 all_goals simp
theorem l8b (w:Msg)(hw:okW w=true)(l:RL)(hl:l.length≤7):∀(d i:Nat),i+d=l.length→
 ∃m,goF E (aa L22) F8 0 m KS (Mb l l.length i w.k w.f w.t w.p w.n w.r w.o w.cf w.ct w.bf w.bt w.h w.ef w.et w.g w.u w.v w.m)=some ([.one (.int .i64 (qA w (l.drop i)))],[])
 | 0,i,hi=>by
  refine⟨1, ?_⟩
  rw [PC]
  have:l.drop i=[]:=List.drop_eq_nil_of_le (by omega)
  rw [this,qA]
  exact cf (decide_eq_false (by omega)) rfl
 | d+1,i,hi=>by
  have hi':i<l.length:=by omega
  obtain⟨m,hm⟩:=l8b w hw l hl d (i+1) (by omega)
  refine⟨m+1, ?_⟩
  rw [PC,aE l i hi',qA,Int.toNat_natCast,aF (n:=l.length) hi' (by omega),hm]
  refine ct (decide_eq_true (by omega)) (ct (ax hi') (ct hw ?_))
  show cond (aB w (nr (rA l i) 0) !=0) (some ([AV.one (AC.int .i64 (aB w (nr (rA l i) 0)))],([]:List Block))) _=_
  by_cases hv:aB w (nr (rA l i) 0)=0
  · rw [if_neg (by simpa using hv)]
    exact cf (by simpa using hv) rfl
  · rw [if_pos hv]
    exact ct (by simpa using hv) rfl
theorem l8 (w:Msg)(hw:okW w=true)(l:RL)(hl:l.length≤7):∀(d i:Nat),i+d=11→
 ∃m,goF E (aa L22) F8 0 m Gb (Hz l i w.k w.f w.t w.p w.n w.r w.o w.cf w.ct w.bf w.bt w.h w.ef w.et w.g w.u w.v w.m)=some ([.one (.int .i64 (if lA w l d i=true then 2 else qA w l))],[])
 | 0,i,hi=>by
  obtain⟨m,hm⟩:=l8b w hw l hl l.length 0 (by omega)
  refine⟨m+1, ?_⟩
  rw [P7]
  exact cf (decide_eq_false (by omega)) hm
 | d+1,i,hi=>by
  obtain⟨m,hm⟩:=l8 w hw l hl d (i+1) (by omega)
  refine⟨m+1, ?_⟩
  rw [P7,aF (i:=i) (n:=11) (by omega) (by omega),hm]
  refine ct (decide_eq_true (by omega)) (ct (decide_eq_true (by omega)) ?_)
  show cond (!(inF l i)) (cond (!(cn w i)) _ _) _=_
  rw [lA]
  cases inF l i<;>cases cn w i<;>rfl
theorem k8 (w:Msg)(hw:okW w=true):∃m,aj E (aa L22) m 8 [eP w] []=some ([.one (.int .i64 (gM w))],[]):=by
 obtain⟨m,hm⟩:=l8 w hw (be w.k) (m0 _) 11 0 (by omega)
 refine⟨m+1, ?_⟩
 unfold eP
 rw [e8]
 unfold gM
 cases hu:ca w.k with
 | none=>rfl
 | some l=>
  rw [if_neg (by simp)]
  refine cf rfl ?_
  cases h1:cI w.f with
  | false=>rw [if_pos (.inl rfl)];rfl
  | true=>
   cases h2:cI w.t with
   | false=>rw [if_pos (.inr rfl)];rfl
   | true=>
    rw [if_neg (by simp)]
    exact cf rfl (cf rfl hm)
end Go.Proofs.YtejimgikldiajaaGreat
