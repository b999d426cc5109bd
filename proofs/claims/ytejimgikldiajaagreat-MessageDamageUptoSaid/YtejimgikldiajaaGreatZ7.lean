/-
  Merged texts.
-/
import Derived.Test.YtejimgikldiajaaGreatZ6
import Derived.Test.YtejimgikldiajaaGreatProg
import Derived.MapKept
import Derived.ChangeMaps5
import Derived.Carry
import Derived.LoopTactic
import Derived.OwnWalk
import Derived.WalkKit
import Derived.ProofKit
import Derived.Handy
import Derived.LoopN
import Derived.Laws.RangeString
namespace Go.Proofs.YtejimgikldiajaaGreat
open Go.Abs
theorem nn {x:Int}(h:x=0):¬x≠0:=fun g=>g h
theorem n0 :¬(0:Int)≠0:=fun g=>g rfl
theorem u8 (m:Nat)(t:Bool):goF E (aa L68) F24 0 (m+2) zK (Bg t)=some ([.ob (!t)],[]):=by
 rw [PH,Qb]
 cases t<;>rfl
theorem u6 (m:Nat)(t:Bool)(w:Msg)(a r o g s b c h q:Bool):goF E (aa L68) F24 0 (m+3) vQ (wA t w.k w.f w.t w.p w.n w.r w.o w.cf w.ct w.bf w.bt w.h w.ef w.et w.g w.u w.v w.m a r o g s b c h q)=some ([.ob (!(t || unT c w))],[]):=by
 rw [P8,u8,u8,u8]
 unfold unT
 cases t<;>cases c<;>cases noT w.cf w.ct<;>rfl
theorem u4 (m:Nat)(t:Bool)(w:Msg)(a r o g s b c h q:Bool):goF E (aa L68) F24 0 (m+4) sA (ss t w.k w.f w.t w.p w.n w.r w.o w.cf w.ct w.bf w.bt w.h w.ef w.et w.g w.u w.v w.m a r o g s b c h q)=some ([.ob (!(t || unB b c w))],[]):=by
 rw [Pb,u6,u6,u6]
 unfold unB
 generalize unT c w=y
 generalize noT w.bf w.bt=y1
 generalize noT w.ef w.et=y2
 generalize w.h=y3
 cases t<;>cases b<;>cases y1<;>cases y2<;>cases y3<;>cases y<;>rfl
theorem u7 (m:Nat)(t:Bool)(w:Msg)(a r o g s b c h q:Bool):goF E (aa L68) F24 0 (m+5) DJ (De t w.k w.f w.t w.p w.n w.r w.o w.cf w.ct w.bf w.bt w.h w.ef w.et w.g w.u w.v w.m a r o g s b c h q)=some ([.ob (!(t || ((!q&&w.m) || unB b c w)))],[]):=by
 rw [P3,u4,u4,u4]
 generalize unB b c w=y
 generalize w.m=y1
 cases t<;>cases q<;>cases y<;>cases y1<;>rfl
theorem u5 (m:Nat)(t:Bool)(w:Msg)(a r o g s b c h q:Bool):goF E (aa L68) F24 0 (m+6) Dm (DK t w.k w.f w.t w.p w.n w.r w.o w.cf w.ct w.bf w.bt w.h w.ef w.et w.g w.u w.v w.m a r o g s b c h q)=some ([.ob (!(t || ((!h&&decide (0<w.v.length)) || ((!q&&w.m) || unB b c w))))],[]):=by
 rw [Pd,u7,u7,u4 (m+1),Jh]
 generalize ((!q&&w.m) || unB b c w)=y
 generalize unB b c w=y0
 generalize decide (0<w.v.length)=y1
 cases t<;>cases h<;>cases y1<;>rfl
theorem u3 (m:Nat)(t:Bool)(w:Msg)(a r o g s b c h q:Bool):goF E (aa L68) F24 0 (m+7) D8 (D5 t w.k w.f w.t w.p w.n w.r w.o w.cf w.ct w.bf w.bt w.h w.ef w.et w.g w.u w.v w.m a r o g s b c h q)=some ([.ob (!(t || unC s b c h q w))],[]):=by
 rw [PZ,u5,u5,u4 (m+2),Jh]
 unfold unC
 generalize ((!h&&decide (0<w.v.length)) || ((!q&&w.m) || unB b c w))=y
 generalize unB b c w=y0
 generalize decide (0<w.u.length)=y1
 cases t<;>cases s<;>cases y1<;>rfl
theorem u1 (m:Nat)(t:Bool)(w:Msg)(a r o g s b c h q:Bool):goF E (aa L68) F24 0 (m+8) wy (wZ t w.k w.f w.t w.p w.n w.r w.o w.cf w.ct w.bf w.bt w.h w.ef w.et w.g w.u w.v w.m a r o g s b c h q)=some ([.ob (!(t || ((!g&&decide (0<w.g.length)) || unC s b c h q w)))],[]):=by
 rw [PX,u3,u3,Jh]
 generalize unC s b c h q w=y
 generalize decide (0<w.g.length)=y1
 cases t<;>cases g<;>cases y1<;>rfl
theorem u2 (m:Nat)(t:Bool)(w:Msg)(a r o g s b c h q:Bool):goF E (aa L68) F24 0 (m+9) DD (En t w.k w.f w.t w.p w.n w.r w.o w.cf w.ct w.bf w.bt w.h w.ef w.et w.g w.u w.v w.m a r o g s b c h q)=some ([.ob (!(t || ((!o&&(w.o !=0)) || ((!g&&decide (0<w.g.length)) || unC s b c h q w))))],[]):=by
 rw [PL,u1,u1,u1]
 generalize ((!g&&decide (0<w.g.length)) || unC s b c h q w)=y
 generalize (w.o !=0)=y1
 cases t<;>cases o<;>cases y1<;>rfl
theorem u0 (m:Nat)(t:Bool)(w:Msg)(a r o g s b c h q:Bool):goF E (aa L68) F24 0 (m+10) Do (Dj t w.k w.f w.t w.p w.n w.r w.o w.cf w.ct w.bf w.bt w.h w.ef w.et w.g w.u w.v w.m a r o g s b c h q)=some ([.ob (!(t || ((!r&&(w.r !=0)) || ((!o&&(w.o !=0)) || ((!g&&decide (0<w.g.length)) || unC s b c h q w)))))],[]):=by
 rw [Pt,u2,u2,u1 (m+1)]
 generalize ((!o&&(w.o !=0)) || ((!g&&decide (0<w.g.length)) || unC s b c h q w))=y
 generalize ((!g&&decide (0<w.g.length)) || unC s b c h q w)=y0
 generalize (w.r !=0)=y1
 cases t<;>cases r<;>cases y1<;>rfl
theorem k24 (w:Msg):aj E (aa L68) 11 24 [eP w] []=some ([.ob (cS w)],[]):=by
 unfold eP
 rw [e24,u0,u0]
 unfold cS jR
 rw [Bool.and_true]
 generalize ((!uA w.k&&(w.r !=0)) || ((!(w.k==1)&&(w.o !=0)) || ((!uA w.k&&decide (0<w.g.length)) || unC (uS w.k) (uB w.k) (!uA w.k) (w.k==4) (w.k==5) w)))=y
 generalize ((w.p==0)&&(w.n==0))=y1
 cases uA w.k<;>cases y1<;>rfl
theorem k68 (k:Int):aj E (aa L8) 1 68 [.oi k] []=some ([.agg [.bool (uA k),.bool (uA k),.bool (k==1),.bool (uA k),.bool (uS k),.bool (uB k),.bool (!(uA k)),.bool (k==4),.bool (k==5)]],[]):=by
 rw [e68]
 by_cases h1:k=1
 · subst h1;rfl
 by_cases h2:k=2
 · subst h2;rfl
 by_cases h4:k=4
 · subst h4;rfl
 by_cases h5:k=5
 · subst h5;rfl
 have q1:(k==1)=false:=by simpa using h1
 have q2:(k==2)=false:=by simpa using h2
 have q4:(k==4)=false:=by simpa using h4
 have q5:(k==5)=false:=by simpa using h5
 unfold uA uS uB
 rw [q1,q2,q4,q5]
 rfl
theorem k29 (w:Msg)(hw:okW w=true):aj E (aa L24) 1 29 [eP w] []=some ([.oi (eD w)],[]):=by
 obtain⟨h1,h2,h3,h4,h5,h6,h7,h8,h9⟩:=pE hw
 unfold eP
 rw [e29,Fs h3 h4,Fs h5 h6]
 unfold eD
 simp only [cond_true,iY,bne_iff_ne,beq_iff_eq,decide_eq_true_eq,ne_eq]
 refine congrArg (fun z=>some ([AV.one (AC.int .i64 z)],([]:List Block))) ?_
 (repeat' split)<;>first | rfl | omega | (simp_all;done) | (simp_all;omega)
theorem x4 (m:Nat):goF E (aa L29) F25 0 (m+1) HR HK=some ([.oi 0],[]):=by rw [PT]
theorem x3 (m:Nat)(t:Bool)(w:Msg)(hw:okW w=true):goF E (aa L29) F25 0 (m+2) Eu (Dh t w.k w.f w.t w.p w.n w.r w.o w.cf w.ct w.bf w.bt w.h w.ef w.et w.g w.u w.v w.m)=some ([.oi (if t=true then 2 else if w.k=2 then eD w else 0)],[]):=by
 have hM:okM w.cf w.ct w.bf w.bt w.ef w.et w.g w.u w.v=true:=hw
 rw [Qa,x4,hM]
 simp only [cond_true,iY,beq_iff_eq]
theorem x2 (m:Nat)(t:Bool)(w:Msg)(hw:okW w=true):goF E (aa L29) F25 0 (m+3) An (yK t w.k w.f w.t w.p w.n w.r w.o w.cf w.ct w.bf w.bt w.h w.ef w.et w.g w.u w.v w.m)=
 some ([.oi (if t=true then 10 else if bM w.g≠0 then bM w.g else if vSt w.u≠0 then vSt w.u else if w.o=1∧0<w.u.length then 2 else if w.k=2 then eD w else 0)],[]):=by
 obtain⟨_,_,_,_,_,_,h7,h8,_⟩:=pE hw
 rw [PD,x3 _ _ _ hw,x3 _ _ _ hw,h7,(Cq h8).1,Jh]
 simp only [cond_true,iY,bne_iff_ne,beq_iff_eq,decide_eq_true_eq,ne_eq]
 refine congrArg (fun z=>some ([AV.one (AC.int .i64 z)],([]:List Block))) ?_
 (repeat' split)<;>first | rfl | omega | (simp_all;done) | (simp_all;omega)
theorem x1 (m:Nat)(t:Bool)(w:Msg)(hw:okW w=true):goF E (aa L29) F25 0 (m+4) Dq (Er t w.k w.f w.t w.p w.n w.r w.o w.cf w.ct w.bf w.bt w.h w.ef w.et w.g w.u w.v w.m)=
 some ([.oi (if t=true then 9 else if w.k=1∧(w.o<1∨3<w.o)then 10 else if bM w.g≠0 then bM w.g else if vSt w.u≠0 then vSt w.u else if w.o=1∧0<w.u.length then 2 else if w.k=2 then eD w else 0)],[]):=by
 rw [P9,x2 _ _ _ hw,x2 _ _ _ hw,x2 _ _ _ hw]
 generalize bM w.g=a1
 generalize vSt w.u=a2
 generalize eD w=a3
 simp only [cond_true,iY,bne_iff_ne,beq_iff_eq,decide_eq_true_eq,ne_eq]
 refine congrArg (fun z=>some ([AV.one (AC.int .i64 z)],([]:List Block))) ?_
 (repeat' split)<;>first | rfl | omega | (simp_all;done) | (simp_all;omega)
theorem x0 (m:Nat)(t:Bool)(w:Msg)(hw:okW w=true):goF E (aa L29) F25 0 (m+5) uc (tV t w.k w.f w.t w.p w.n w.r w.o w.cf w.ct w.bf w.bt w.h w.ef w.et w.g w.u w.v w.m)=
 some ([.oi (if t=true then 9 else if w.r<1∨1000000<w.r then 9 else if w.k=1∧(w.o<1∨3<w.o)then 10 else if bM w.g≠0 then bM w.g else if vSt w.u≠0 then vSt w.u else if w.o=1∧0<w.u.length then 2 else if w.k=2 then eD w else 0)],[]):=by
 rw [P4,x1 _ _ _ hw,x1 _ _ _ hw]
 generalize (if w.k=1∧(w.o<1∨3<w.o)then 10 else if bM w.g≠0 then bM w.g else if vSt w.u≠0 then vSt w.u else if w.o=1∧0<w.u.length then 2 else if w.k=2 then eD w else 0)=a1
 simp only [cond_true,iY,bne_iff_ne,beq_iff_eq,decide_eq_true_eq,ne_eq]
 refine congrArg (fun z=>some ([AV.one (AC.int .i64 z)],([]:List Block))) ?_
 (repeat' split)<;>first | rfl | omega | (simp_all;done) | (simp_all;omega)
theorem k25 (w:Msg)(hw:okW w=true):aj E (aa L29) 6 25 [eP w] []=some ([.oi (nc w)],[]):=by
 unfold eP
 rw [e25,x0 _ _ _ hw,x0 _ _ _ hw]
 unfold nc cO
 generalize (if w.k=1∧(w.o<1∨3<w.o)then 10 else if bM w.g≠0 then bM w.g else if vSt w.u≠0 then vSt w.u else if w.o=1∧0<w.u.length then 2 else if w.k=2 then eD w else 0)=a1
 cases d9 w.p<;>cases ic w.p<;>
 simp only [Bool.not_true,Bool.not_false,cond_true,cond_false,iY,bne_iff_ne,beq_iff_eq,decide_eq_true_eq,ne_eq,Bool.or_false,Bool.or_true,Bool.or_self]<;>
 refine congrArg (fun z=>some ([AV.one (AC.int .i64 z)],([]:List Block))) ?_<;>
 (repeat' split)<;>first | rfl | omega | (simp_all;done) | (simp_all;omega)
def NS (w:Msg):Int:=
 if w.k<1∨8<w.k then 10
 else if cI w.f=false∨cI w.t=false then 9
 else if cS w=false then 2
 else if w.k=1∨w.k=2 then nc w
 else if aV w.cf w.ct≠0 then aV w.cf w.ct
 else if w.k=4 then qx w.v
 else if w.k=5∧vCh w.u≠0 then vCh w.u
 else if w.k=5 then eD w
 else 0
theorem AE {k:Int}(h:¬(k<1∨8<k)):k=1∨k=2∨k=3∨k=4∨k=5∨k=6∨k=7∨k=8:=by omega
theorem AQ {k:Int}(h:k<1∨8<k):ca k=none:=by
 unfold ca
 repeat' rw [if_neg (by omega)]
theorem Qh {p:Prop} [Decidable p]:decide (¬p)= !decide p:=by simp
theorem ti (l:RL):decide (0<l.length)= !decide (l.length=0):=by
 rw [←Qh];apply decide_eq_decide.2;omega
theorem Pq (w:Msg)(hk:w.k=1):lA w (be w.k) 11 0= !(cS w)∧(cS w=true→qA w (be w.k)=nc w):=by
 rw [hk]
 constructor
 · have:lA w (be 1) 11 0=(!(cn w 5) || (!(cn w 6) || (!(cn w 7) || (!(cn w 8) || (!(cn w 9) || (!(cn w 10) || false)))))):=rfl
   rw [this]
   unfold cS jR unC unB unT
   rw [hk]
   show(!(noT w.cf w.ct) || (!(decide (w.v.length=0)) || (!(!w.m) || (!(!w.h) || (!(noT w.bf w.bt) || (!(noT w.ef w.et) || false))))))= !(!((!true&& !((w.p==0)&&(w.n==0))) || ((!true&&(w.r !=0)) || ((!true&&(w.o !=0)) || ((!true&&decide (0<w.g.length)) || ((!true&&decide (0<w.u.length)) || ((!false&&decide (0<w.v.length)) || ((!false&&w.m) || ((!false&&(w.h || (!(noT w.bf w.bt) || !(noT w.ef w.et)))) || (!(!true)&& !(noT w.cf w.ct)))))))))))
   rw [ti w.v]
   generalize noT w.cf w.ct=y1
   generalize noT w.bf w.bt=y2
   generalize noT w.ef w.et=y3
   generalize decide (w.v.length=0)=y4
   generalize w.m=y5
   generalize w.h=y6
   generalize ((w.p==0)&&(w.n==0))=y7
   simp only [Bool.not_true,Bool.false_and,Bool.false_or,Bool.not_false,Bool.true_and,Bool.not_not,Bool.or_false]
   cases y1<;>cases y2<;>cases y3<;>cases y4<;>cases y5<;>cases y6<;>rfl
 · intro _
   show(if aB w 0≠0 then aB w 0 else if aB w 1≠0 then aB w 1 else if aB w 2≠0 then aB w 2 else if aB w 3≠0 then aB w 3 else if aB w 4≠0 then aB w 4 else 0)=_
   have f0:aB w 0=if cO w.p=true∧1≤w.n∧w.n≤1000000 then 0 else 9:=rfl
   have f1:aB w 1=if 1≤w.r∧w.r≤1000000 then 0 else 9:=rfl
   have f2:aB w 2=if 1≤w.o∧w.o≤3 then 0 else 10:=rfl
   have f3:aB w 3=bM w.g:=rfl
   have f4:aB w 4=if vSt w.u≠0 then vSt w.u else if w.o=1∧0<w.u.length then 2 else 0:=by
    show nO w=_
    unfold nO
    rw [if_neg (by omega)]
    simp only [hk,true_and]
   rw [f0,f1,f2,f3,f4]
   unfold nc
   by_cases a0:cO w.p=true∧1≤w.n∧w.n≤1000000
   · have b0:¬(cO w.p=false∨w.n<1∨1000000<w.n):=by rw [a0.1];simp;omega
     rw [if_pos a0,if_neg n0,if_neg b0]
     by_cases a1:1≤w.r∧w.r≤1000000
     · rw [if_pos a1,if_neg n0,if_neg (by omega:¬(w.r<1∨1000000<w.r))]
       by_cases a2:1≤w.o∧w.o≤3
       · rw [if_pos a2,if_neg n0,if_neg (by omega:¬(w.k=1∧(w.o<1∨3<w.o)))]
         by_cases a3:bM w.g=0
         · rw [if_neg (nn a3),if_neg (nn a3)]
           by_cases a4:vSt w.u=0
           · rw [if_neg (nn a4),if_neg (nn a4),if_neg (by omega:¬w.k=2)]
             by_cases a5:w.o=1∧0<w.u.length
             · rw [if_pos a5];rfl
             · rw [if_neg a5];rfl
           · have a4':vSt w.u≠0:=a4
             rw [if_pos a4',if_pos a4',if_pos a4']
         · have a3':bM w.g≠0:=a3
           rw [if_pos a3',if_pos a3']
       · rw [if_neg a2,if_pos (by decide:(10:Int)≠0),if_pos (by omega:w.k=1∧(w.o<1∨3<w.o))]
     · rw [if_neg a1,if_pos (by decide:(9:Int)≠0),if_pos (by omega:w.r<1∨1000000<w.r)]
   · have b0:cO w.p=false∨w.n<1∨1000000<w.n:=by
      cases hu:cO w.p
      · exact .inl rfl
      · rw [hu]at a0;simp at a0;omega
     rw [if_neg a0,if_pos (by decide:(9:Int)≠0),if_pos b0]
theorem Pj (w:Msg)(hk:w.k=2):lA w (be w.k) 11 0= !(cS w)∧(cS w=true→qA w (be w.k)=nc w):=by
 rw [hk]
 have hb:lA w (be 2) 11 0=(!(cn w 2) || (!(cn w 5) || (!(cn w 6) || (!(cn w 7) || false)))):=rfl
 constructor
 · rw [hb]
   unfold cS jR unC unB unT
   rw [hk]
   show(!(w.o==0) || (!(noT w.cf w.ct) || (!(decide (w.v.length=0)) || (!(!w.m) || false))))= !(!((!true&& !((w.p==0)&&(w.n==0))) || ((!true&&(w.r !=0)) || ((!false&&(w.o !=0)) || ((!true&&decide (0<w.g.length)) || ((!true&&decide (0<w.u.length)) || ((!false&&decide (0<w.v.length)) || ((!false&&w.m) || ((!true&&(w.h || (!(noT w.bf w.bt) || !(noT w.ef w.et)))) || (!(!true)&& !(noT w.cf w.ct)))))))))))
   rw [ti w.v]
   show(!(w.o==0) || _)= !(!((!true&& !((w.p==0)&&(w.n==0))) || ((!true&&(w.r !=0)) || ((!false&& !(w.o==0)) || _))))
   generalize noT w.cf w.ct=y1
   generalize noT w.bf w.bt=y2
   generalize noT w.ef w.et=y3
   generalize decide (w.v.length=0)=y4
   generalize w.m=y5
   generalize w.h=y6
   generalize ((w.p==0)&&(w.n==0))=y7
   generalize (w.o==0)=y8
   simp only [Bool.not_true,Bool.false_and,Bool.false_or,Bool.not_false,Bool.true_and,Bool.not_not,Bool.or_false]
   cases y1<;>cases y4<;>cases y5<;>cases y8<;>rfl
 · intro hu
   have ho:w.o=0:=by
    have:lA w (be 2) 11 0=false:=by
     have h1:lA w (be 2) 11 0= !(cS w):=by
      rw [hb]
      unfold cS jR unC unB unT
      rw [hk]
      show(!(w.o==0) || (!(noT w.cf w.ct) || (!(decide (w.v.length=0)) || (!(!w.m) || false))))= !(!((!true&& !((w.p==0)&&(w.n==0))) || ((!true&&(w.r !=0)) || ((!false&& !(w.o==0)) || ((!true&&decide (0<w.g.length)) || ((!true&&decide (0<w.u.length)) || ((!false&&decide (0<w.v.length)) || ((!false&&w.m) || ((!true&&(w.h || (!(noT w.bf w.bt) || !(noT w.ef w.et)))) || (!(!true)&& !(noT w.cf w.ct)))))))))))
      rw [ti w.v]
      generalize noT w.cf w.ct=y1
      generalize decide (w.v.length=0)=y4
      generalize w.m=y5
      generalize (w.o==0)=y8
      simp only [Bool.not_true,Bool.false_and,Bool.false_or,Bool.not_false,Bool.true_and,Bool.not_not,Bool.or_false]
      cases y1<;>cases y4<;>cases y5<;>cases y8<;>rfl
     rw [h1,hu];rfl
    rw [hb]at this
    have h2:cn w 2=(w.o==0):=rfl
    rw [h2]at this
    cases h:(w.o==0)
    · rw [h]at this;cases this
    · exact beq_iff_eq.1 h
   show(if aB w 0≠0 then aB w 0 else if aB w 1≠0 then aB w 1 else if aB w 3≠0 then aB w 3 else if aB w 4≠0 then aB w 4 else if aB w 8≠0 then aB w 8 else if aB w 9≠0 then aB w 9 else if aB w 10≠0 then aB w 10 else 0)=_
   have f0:aB w 0=if cO w.p=true∧1≤w.n∧w.n≤1000000 then 0 else 9:=rfl
   have f1:aB w 1=if 1≤w.r∧w.r≤1000000 then 0 else 9:=rfl
   have f3:aB w 3=bM w.g:=rfl
   have f8:aB w 8=0:=rfl
   have f9:aB w 9=if w.h=false∧noT w.bf w.bt=false then 2 else aV w.bf w.bt:=rfl
   have f10:aB w 10=aV w.ef w.et:=rfl
   have f4:aB w 4=vSt w.u:=by
    show nO w=_
    unfold nO
    rw [if_neg (by omega)]
    by_cases h:vSt w.u=0
    · rw [if_neg (by simpa using h),if_neg (by omega),h]
    · rw [if_pos h]
   rw [f0,f1,f3,f4,f8,f9,f10]
   unfold nc eD
   rw [if_neg n0]
   by_cases a0:cO w.p=true∧1≤w.n∧w.n≤1000000
   · have b0:¬(cO w.p=false∨w.n<1∨1000000<w.n):=by rw [a0.1];simp;omega
     rw [if_pos a0,if_neg n0,if_neg b0]
     by_cases a1:1≤w.r∧w.r≤1000000
     · rw [if_pos a1,if_neg n0,if_neg (by omega:¬(w.r<1∨1000000<w.r)),if_neg (by omega:¬(w.k=1∧(w.o<1∨3<w.o))),if_neg (by omega:¬(w.o=1∧0<w.u.length)),if_pos hk]
       by_cases a3:bM w.g=0
       · rw [if_neg (nn a3),if_neg (nn a3)]
         by_cases a4:vSt w.u=0
         · rw [if_neg (nn a4),if_neg (nn a4)]
           by_cases a5:w.h=false∧noT w.bf w.bt=false
           · rw [if_pos a5,if_pos (by decide:(2:Int)≠0),if_pos a5]
           · rw [if_neg a5,if_neg a5]
             by_cases a6:aV w.bf w.bt=0
             · rw [if_neg (nn a6),if_neg (nn a6)]
               by_cases a7:aV w.ef w.et=0
               · rw [if_neg (nn a7),a7]
               · have a7':aV w.ef w.et≠0:=a7
                 rw [if_pos a7']
             · have a6':aV w.bf w.bt≠0:=a6
               rw [if_pos a6',if_pos a6']
         · have a4':vSt w.u≠0:=a4
           rw [if_pos a4',if_pos a4']
       · have a3':bM w.g≠0:=a3
         rw [if_pos a3',if_pos a3']
     · rw [if_neg a1,if_pos (by decide:(9:Int)≠0),if_pos (by omega:w.r<1∨1000000<w.r)]
   · have b0:cO w.p=false∨w.n<1∨1000000<w.n:=by
      cases hu:cO w.p
      · exact .inl rfl
      · rw [hu]at a0;simp at a0;omega
     rw [if_neg a0,if_pos (by decide:(9:Int)≠0),if_pos b0]
theorem P1 (w:Msg)(hk:w.k=4):lA w (be w.k) 11 0= !(cS w)∧qA w (be w.k)=if aV w.cf w.ct≠0 then aV w.cf w.ct else qx w.v:=by
 rw [hk]
 constructor
 · have:lA w (be 4) 11 0=(!(cn w 0) || (!(cn w 1) || (!(cn w 2) || (!(cn w 3) || (!(cn w 4) || (!(cn w 7) || (!(cn w 8) || (!(cn w 9) || (!(cn w 10) || false))))))))):=rfl
   rw [this]
   unfold cS jR unC unB unT
   rw [hk]
   show(!((w.p==0)&&(w.n==0)) || (!(w.r==0) || (!(w.o==0) || (!(decide (w.g.length=0)) || (!(decide (w.u.length=0)) || (!(!w.m) || (!(!w.h) || (!(noT w.bf w.bt) || (!(noT w.ef w.et) || false)))))))))= !(!((!false&& !((w.p==0)&&(w.n==0))) || ((!false&& !(w.r==0)) || ((!false&& !(w.o==0)) || ((!false&&decide (0<w.g.length)) || ((!false&&decide (0<w.u.length)) || ((!true&&decide (0<w.v.length)) || ((!false&&w.m) || ((!false&&(w.h || (!(noT w.bf w.bt) || !(noT w.ef w.et)))) || (!(!false)&& !(noT w.cf w.ct)))))))))))
   rw [ti w.v,ti w.g,ti w.u]
   generalize noT w.cf w.ct=y1
   generalize noT w.bf w.bt=y2
   generalize noT w.ef w.et=y3
   generalize decide (w.v.length=0)=y4
   generalize w.m=y5
   generalize w.h=y6
   generalize ((w.p==0)&&(w.n==0))=y7
   generalize (w.o==0)=y8
   generalize (w.r==0)=y9
   generalize decide (w.u.length=0)=y10
   generalize decide (w.g.length=0)=y11
   simp only [Bool.not_true,Bool.false_and,Bool.false_or,Bool.not_false,Bool.true_and,Bool.not_not,Bool.or_false,Bool.or_assoc]
 · show(if aB w 5≠0 then aB w 5 else if aB w 6≠0 then aB w 6 else 0)=_
   have f5:aB w 5=aV w.cf w.ct:=rfl
   have f6:aB w 6=qx w.v:=rfl
   rw [f5,f6]
   by_cases a:aV w.cf w.ct=0
   · rw [if_neg (nn a),if_neg (nn a)]
     by_cases b:qx w.v=0
     · rw [if_neg (nn b),b]
     · have b':qx w.v≠0:=b
       rw [if_pos b']
   · have a':aV w.cf w.ct≠0:=a
     rw [if_pos a',if_pos a']
theorem Pr (w:Msg)(hk:w.k=5):lA w (be w.k) 11 0= !(cS w)∧qA w (be w.k)=if aV w.cf w.ct≠0 then aV w.cf w.ct else if vCh w.u≠0 then vCh w.u else eD w:=by
 rw [hk]
 constructor
 · have:lA w (be 5) 11 0=(!(cn w 0) || (!(cn w 1) || (!(cn w 2) || (!(cn w 3) || (!(cn w 6) || false))))):=rfl
   rw [this]
   unfold cS jR unC unB unT
   rw [hk]
   show(!((w.p==0)&&(w.n==0)) || (!(w.r==0) || (!(w.o==0) || (!(decide (w.g.length=0)) || (!(decide (w.v.length=0)) || false)))))= !(!((!false&& !((w.p==0)&&(w.n==0))) || ((!false&& !(w.r==0)) || ((!false&& !(w.o==0)) || ((!false&&decide (0<w.g.length)) || ((!true&&decide (0<w.u.length)) || ((!false&&decide (0<w.v.length)) || ((!true&&w.m) || ((!true&&(w.h || (!(noT w.bf w.bt) || !(noT w.ef w.et)))) || (!(!false)&& !(noT w.cf w.ct)))))))))))
   rw [ti w.v,ti w.g]
   simp only [Bool.not_true,Bool.false_and,Bool.false_or,Bool.not_false,Bool.true_and,Bool.not_not,Bool.or_false]
 · show(if aB w 5≠0 then aB w 5 else if aB w 4≠0 then aB w 4 else if aB w 7≠0 then aB w 7 else if aB w 8≠0 then aB w 8 else if aB w 9≠0 then aB w 9 else if aB w 10≠0 then aB w 10 else 0)=_
   have f5:aB w 5=aV w.cf w.ct:=rfl
   have f7:aB w 7=0:=rfl
   have f8:aB w 8=0:=rfl
   have f9:aB w 9=if w.h=false∧noT w.bf w.bt=false then 2 else aV w.bf w.bt:=rfl
   have f10:aB w 10=aV w.ef w.et:=rfl
   have f4:aB w 4=vCh w.u:=by
    show nO w=_
    unfold nO
    rw [if_pos hk]
   rw [f5,f4,f7,f8,f9,f10]
   unfold eD
   rw [if_neg n0,if_neg n0]
   by_cases a:aV w.cf w.ct=0
   · rw [if_neg (nn a),if_neg (nn a)]
     by_cases b:vCh w.u=0
     · rw [if_neg (nn b),if_neg (nn b)]
       by_cases a5:w.h=false∧noT w.bf w.bt=false
       · rw [if_pos a5,if_pos (by decide:(2:Int)≠0),if_pos a5]
       · rw [if_neg a5,if_neg a5]
         by_cases a6:aV w.bf w.bt=0
         · rw [if_neg (nn a6),if_neg (nn a6)]
           by_cases a7:aV w.ef w.et=0
           · rw [if_neg (nn a7),a7]
           · have a7':aV w.ef w.et≠0:=a7
             rw [if_pos a7']
         · have a6':aV w.bf w.bt≠0:=a6
           rw [if_pos a6',if_pos a6']
     · have b':vCh w.u≠0:=b
       rw [if_pos b',if_pos b']
   · have a':aV w.cf w.ct≠0:=a
     rw [if_pos a',if_pos a']
theorem M0 (w:Msg)(hk:w.k=3∨w.k=6∨w.k=7∨w.k=8):lA w (be w.k) 11 0= !(cS w)∧qA w (be w.k)=aV w.cf w.ct:=by
 have hu:be w.k=[[.int .i64 5]]:=by rcases hk with h | h | h | h<;>rw [h]<;>rfl
 have q:uA w.k=false∧uS w.k=false∧uB w.k=false∧(w.k==1)=false∧(w.k==4)=false∧(w.k==5)=false:=by rcases hk with h | h | h | h<;>rw [h]<;>exact⟨rfl,rfl,rfl,rfl,rfl,rfl⟩
 obtain⟨q1,q2,q3,q4,q5,q6⟩:=q
 rw [hu]
 constructor
 · have:lA w [[.int .i64 5]] 11 0=(!(cn w 0) || (!(cn w 1) || (!(cn w 2) || (!(cn w 3) || (!(cn w 4) || (!(cn w 6) || (!(cn w 7) || (!(cn w 8) || (!(cn w 9) || (!(cn w 10) || false)))))))))):=rfl
   rw [this]
   unfold cS jR unC unB unT
   rw [q1,q2,q3,q4,q5,q6]
   show(!((w.p==0)&&(w.n==0)) || (!(w.r==0) || (!(w.o==0) || (!(decide (w.g.length=0)) || (!(decide (w.u.length=0)) || (!(decide (w.v.length=0)) || (!(!w.m) || (!(!w.h) || (!(noT w.bf w.bt) || (!(noT w.ef w.et) || false))))))))))= !(!((!false&& !((w.p==0)&&(w.n==0))) || ((!false&& !(w.r==0)) || ((!false&& !(w.o==0)) || ((!false&&decide (0<w.g.length)) || ((!false&&decide (0<w.u.length)) || ((!false&&decide (0<w.v.length)) || ((!false&&w.m) || ((!false&&(w.h || (!(noT w.bf w.bt) || !(noT w.ef w.et)))) || (!(!false)&& !(noT w.cf w.ct)))))))))))
   rw [ti w.v,ti w.g,ti w.u]
   simp only [Bool.not_true,Bool.false_and,Bool.false_or,Bool.not_false,Bool.true_and,Bool.not_not,Bool.or_false,Bool.or_assoc]
 · show(if aB w 5≠0 then aB w 5 else 0)=_
   have f5:aB w 5=aV w.cf w.ct:=rfl
   rw [f5]
   by_cases a:aV w.cf w.ct=0
   · rw [if_neg (nn a),a]
   · have a':aV w.cf w.ct≠0:=a
     rw [if_pos a']
theorem Kj (w:Msg):NS w=gM w:=by
 unfold NS gM
 by_cases h0:w.k<1∨8<w.k
 · rw [if_pos h0,if_pos (by rw [AQ h0];rfl)]
 rw [if_neg h0]
 have hs:(ca w.k).isNone=false:=by
  rcases AE h0 with h | h | h | h | h | h | h | h<;>rw [h]<;>rfl
 rw [if_neg (by rw [hs];simp:¬(ca w.k).isNone=true)]
 by_cases hp:cI w.f=false∨cI w.t=false
 · rw [if_pos hp,if_pos hp]
 rw [if_neg hp,if_neg hp]
 have bool_if:∀{u b:Bool} (x y:Int),b= !u→(u=true→x=y)→(if u=false then 2 else x)=(if b=true then 2 else y):=by
  intro u b x y h1 h2
  subst h1
  cases u
  · rfl
  · rw [if_neg (by simp),if_neg (by simp)];exact h2 rfl
 rcases AE h0 with h | h | h | h | h | h | h | h
 · obtain⟨s1,s2⟩:=Pq w h
   refine bool_if _ _ s1 fun hu=> ?_
   rw [if_pos (.inl h),s2 hu]
 · obtain⟨s1,s2⟩:=Pj w h
   refine bool_if _ _ s1 fun hu=> ?_
   rw [if_pos (.inr h),s2 hu]
 · obtain⟨s1,s2⟩:=M0 w (.inl h)
   refine bool_if _ _ s1 fun hu=> ?_
   rw [if_neg (by omega:¬(w.k=1∨w.k=2)),s2,if_neg (by omega:¬w.k=4),if_neg (by omega:¬(w.k=5∧vCh w.u≠0)),if_neg (by omega:¬w.k=5)]
   by_cases a:aV w.cf w.ct=0
   · rw [if_neg (nn a),a]
   · have a':aV w.cf w.ct≠0:=a
     rw [if_pos a']
 · obtain⟨s1,s2⟩:=P1 w h
   refine bool_if _ _ s1 fun hu=> ?_
   rw [if_neg (by omega:¬(w.k=1∨w.k=2)),s2,if_pos h]
 · obtain⟨s1,s2⟩:=Pr w h
   refine bool_if _ _ s1 fun hu=> ?_
   rw [if_neg (by omega:¬(w.k=1∨w.k=2)),s2,if_neg (by omega:¬w.k=4),if_pos h]
   by_cases b:vCh w.u=0
   · rw [if_neg (fun h=>h.2 b:¬(w.k=5∧vCh w.u≠0)),if_neg (nn b)]
   · have b':vCh w.u≠0:=b
     rw [if_pos (⟨h,b⟩:w.k=5∧vCh w.u≠0),if_pos b']
 all_goals
  obtain⟨s1,s2⟩:=M0 w (by omega)
  refine bool_if _ _ s1 fun hu=> ?_
  rw [if_neg (by omega:¬(w.k=1∨w.k=2)),s2,if_neg (by omega:¬w.k=4),if_neg (by omega:¬(w.k=5∧vCh w.u≠0)),if_neg (by omega:¬w.k=5)]
  by_cases a:aV w.cf w.ct=0
  · rw [if_neg (nn a),a]
  · have a':aV w.cf w.ct≠0:=a
    rw [if_pos a']
theorem k9 (w:Msg)(hw:okW w=true):aj E (aa L25) 1 9 [eP w] []=some ([.one (.int .i64 (gM w))],[]):=by
 obtain⟨h1,h2,h3,h4,h5,h6,h7,h8,h9⟩:=pE hw
 unfold eP
 rw [e9,←Kj]
 have hM:okM w.cf w.ct w.bf w.bt w.ef w.et w.g w.u w.v=true:=hw
 rw [hM,Fs h1 h2,h9,decide_eq_true (Cq h8).2]
 unfold NS
 by_cases k0:w.k<1
 · rw [if_pos (.inl k0)];exact ct (decide_eq_true k0) rfl
 refine cf (decide_eq_false k0) ?_
 by_cases k8:8<w.k
 · rw [if_pos (.inr k8)];exact ct (decide_eq_true k8) rfl
 refine cf (decide_eq_false k8) ?_
 rw [if_neg (by omega)]
 cases p1:cI w.f with
 | false=>rfl
 | true=>
 cases p2:cI w.t with
 | false=>rfl
 | true=>
 rw [if_neg (by simp)]
 refine cf rfl (cf rfl ?_)
 show cond (!(cS w)) _ _=_
 cases hu:cS w with
 | false=>rfl
 | true=>
 rw [if_neg (by simp)]
 refine cf rfl ?_
 by_cases k1:w.k=1
 · rw [if_pos (.inl k1)];exact ct (beq_iff_eq.2 k1) (ct rfl rfl)
 refine cf (by simpa using k1) ?_
 by_cases k2:w.k=2
 · rw [if_pos (.inr k2)];exact ct (beq_iff_eq.2 k2) (ct rfl rfl)
 refine cf (by simpa using k2) (ct rfl ?_)
 rw [if_neg (by omega)]
 by_cases a:aV w.cf w.ct=0
 · rw [if_neg (by simpa using a)]
   refine cf (by simpa using a) ?_
   by_cases k4:w.k=4
   · rw [if_pos k4];exact ct (beq_iff_eq.2 k4) (ct rfl rfl)
   rw [if_neg k4]
   refine cf (by simpa using k4) ?_
   by_cases k5:w.k=5
   · refine ct (beq_iff_eq.2 k5) (ct rfl ?_)
     by_cases b:vCh w.u=0
     · rw [if_neg (fun h=>h.2 b),if_pos k5]
       exact cf (by simpa using b) (ct (beq_iff_eq.2 k5) (ct rfl rfl))
     · rw [if_pos ⟨k5,b⟩]
       exact ct (by simpa using b) (ct rfl rfl)
   · rw [if_neg (fun h=>k5 h.1),if_neg k5]
     exact cf (by simpa using k5) (cf (by simpa using k5) rfl)
 · rw [if_pos a]
   exact ct (by simpa using a) (ct rfl rfl)
end Go.Proofs.YtejimgikldiajaaGreat
namespace Go.Proofs.YtejimgikldiajaaGreat
open Go.Abs
def BO {α:Type}(d:RL→α×Int×Int):Prop:=∀x,aI x=true→0≤(d x).2.1∧(d x).2.1≤x.length
theorem eB {α:Type}{z:α}{d:RL→α×Int×Int}(hd:BO d){b:RL}{o e:Int}(h:aT b o=true):aT b (bx z d b o e).2.1=true:=by
 obtain⟨h1,h2,h3⟩:=cA h
 unfold bx
 split
 · exact h
 · have:=hd _ (au h1 o.toNat)
   rw [List.length_drop]at this
   exact dK h1 (by dsimp only;omega) (by dsimp only;omega)
theorem lO {α:Type}{z:α}{d:RL→α×Int×Int}(hd:BO d){b:RL}{o e:Int}(h:aT b o=true){β:Type}{X:Option β}(R:α×Int×Int→Option β)
 (hX:X=cond (e !=0) (R (z,o,e)) (cond (inB o (b.length+1)) (cond (aI (ag b (Int.toNat o))) (R ((d (ag b (Int.toNat o))).1,IntKind.wrap .i64 (o+(d (ag b (Int.toNat o))).2.1),(d (ag b (Int.toNat o))).2.2)) none) none)):X=R (bx z d b o e):=by
 obtain⟨h1,h2,h3⟩:=cA h
 have hl:=(aR h1).2
 rw [hX,aN]
 unfold bx
 by_cases he:e=0
 · rw [if_neg (nn he)]
   have hb:=hd _ (au h1 o.toNat)
   rw [List.length_drop]at hb
   refine cf (by simpa using he) (ct (aC h2 (by omega)) (ct (au h1 _) ?_))
   rw [aA (n:=o+(d (b.drop o.toNat)).2.1) (by omega) (by omega)]
 · have he':e≠0:=he
   rw [if_pos he']
   exact ct (by simpa using he) rfl
theorem wv :∀(k:Nat) (i acc:Int) (x:RL),(cB k i acc x).2.2≠0→(cB k i acc x).2.1=0
 | 0,_,_,_,_=>rfl
 | k+1,i,acc,[],_=>rfl
 | k+1,i,acc,r::rs,h=>by
  unfold cB at h⊢
  split
  · rfl
  · rename_i h1
    rw [if_neg h1]at h
    split
    · rename_i h2
      rw [if_pos h2]at h
      split
      · rfl
      · rename_i h3
        rw [if_neg h3]at h
        exact absurd rfl h
    · rename_i h2
      rw [if_neg h2]at h
      exact wv k _ _ rs h
theorem PR :BO aD:=fun x hx=>by
 by_cases h:(aD x).2.2=0
 · have:=bX (aR hx).1 h
   omega
 · have:=wv 10 0 0 x h
   show 0≤(cB 10 0 0 x).2.1∧(cB 10 0 0 x).2.1≤x.length
   omega
theorem In :BO aX:=fun x hx=>fP hx
theorem BL {x:RL}(hx:aI x=true):0≤(bn x).2.2.1∧(bn x).2.2.1≤x.length:=by
 have h1:=fP hx
 have h2:=fP (au hx (aX x).2.1.toNat)
 rw [List.length_drop]at h2
 unfold bn
 simp only
 split
 · simp
 · split
   · simp
   · split
     · simp
     · dsimp only;omega
theorem Ch :BO aM:=fun x hx=>BL hx
theorem N8 :BO MG:=fun x hx=>kI hx
theorem E8 :BO aQ:=fun x hx=>by
 unfold aQ
 split
 · simp
 · split
   · simp
   · dsimp only;omega
theorem k84 (x:RL):aj E (aa L9) 1 84 [.or x] []=some ([.ob (aQ x).1,.oi (aQ x).2.1,.oi (aQ x).2.2],[]):=by
 rw [e84,Cd]
 unfold aQ
 by_cases h:x.length=0
 · rw [if_pos h];exact ct (decide_eq_true h) rfl
 · rw [if_neg h]
   have hi:inB 0 x.length=true:=aC (by omega) (by omega)
   refine cf (decide_eq_false h) (ct hi ?_)
   by_cases h2:1<nr (rA x 0) 0
   · rw [if_pos h2];exact ct (decide_eq_true h2) rfl
   · rw [if_neg h2];exact cf (decide_eq_false h2) (ct hi rfl)
theorem k90 (x:RL):aj E (aa L84) 1 90 [.or x] []=some ([.ob (aQ x).1,.oi (aQ x).2.1,.oi (aQ x).2.2],[]):=by
 rw [e90,Cd]
 unfold aQ
 by_cases h:x.length=0
 · rw [if_pos h];exact ct (decide_eq_true h) rfl
 · rw [if_neg h]
   have hi:inB 0 x.length=true:=aC (by omega) (by omega)
   refine cf (decide_eq_false h) (ct hi ?_)
   by_cases h2:1<nr (rA x 0) 0
   · rw [if_pos h2];exact ct (decide_eq_true h2) rfl
   · rw [if_neg h2];exact cf (decide_eq_false h2) (ct hi rfl)
def rdV (b:RL)(o e:Int):Block:=.var [.sl false 5 b,.int .i64 o,.int .i64 e]
theorem k75 (b:RL)(o e:Int)(h:aT b o=true):aj E (aa L90) 1 75 [.one (.ptr 0 0),.one (.fn 76 [])] [rdV b o e]=
 some ([.one (.int .u64 (bx 0 aD b o e).1)],[rdV b (bx 0 aD b o e).2.1 (bx 0 aD b o e).2.2]):=
 lO (β:=List AV×List Block) PR h (fun p=>some ([AV.one (.int .u64 p.1)],[rdV b p.2.1 p.2.2])) (e75 0 b o e)
theorem k77 (b:RL)(o e:Int)(h:aT b o=true):aj E (aa L30) 1 77 [.one (.ptr 0 0),.one (.fn 78 [])] [rdV b o e]=
 some ([.os (qo b o e).1],[rdV b (qo b o e).2.1 (qo b o e).2.2]):=
 lO (β:=List AV×List Block) In h (fun p=>some ([AV.one (.s p.1)],[rdV b p.2.1 p.2.2])) (e77 0 b o e)
theorem k80 (b:RL)(o e:Int)(h:aT b o=true):aj E (aa L77) 1 80 [.one (.ptr 0 0),.one (.fn 81 [])] [rdV b o e]=
 some ([.agg [.s (dk b o e).1.1,.s (dk b o e).1.2]],[rdV b (dk b o e).2.1 (dk b o e).2.2]):=
 lO (β:=List AV×List Block) Ch h (fun p=>some ([AV.agg [.s p.1.1,.s p.1.2]],[rdV b p.2.1 p.2.2])) (e80 0 b o e)
theorem TC (b:RL)(o e:Int)(h:aT b o=true):aj E (aa L80) 1 117 [.one (.ptr 0 0),.one (.fn 118 [])] [rdV b o e]=
 some ([.agg [.i (dR b o e).1.1,.i (dR b o e).1.2.1,.i (dR b o e).1.2.2.1,.sl false 136 (dR b o e).1.2.2.2]],[rdV b (dR b o e).2.1 (dR b o e).2.2]):=
 lO (β:=List AV×List Block) N8 h (fun p=>some ([AV.agg [.i p.1.1,.i p.1.2.1,.i p.1.2.2.1,.sl false 136 p.1.2.2.2]],[rdV b p.2.1 p.2.2])) (S0 0 b o e)
theorem k83 (b:RL)(o e:Int)(h:aT b o=true):aj E (aa HD) 1 83 [.one (.ptr 0 0),.one (.fn 84 [])] [rdV b o e]=
 some ([.ob (iI b o e).1],[rdV b (iI b o e).2.1 (iI b o e).2.2]):=
 lO (β:=List AV×List Block) E8 h (fun p=>some ([AV.one (.bool p.1)],[rdV b p.2.1 p.2.2])) (e83 0 b o e)
theorem k31 (w:Bool)(k:Int)(b:RL)(o e:Int):aj E (aa L75) 1 31 [.one (.ptr 0 0),.ob w,.oi k] [rdV b o e]=some ([],[rdV b o (bN w k e)]):=by
 unfold rdV bN
 rw [e31]
 cases w
 · rw [if_neg (by simp)];rfl
 · by_cases he:e=0
   · rw [if_pos ⟨rfl,he⟩];exact ct rfl (ct (beq_iff_eq.2 he) rfl)
   · rw [if_neg fun h=>he h.2];exact ct rfl (cf (by simpa using he) rfl)
theorem cH {b:RL}{o e:Int}(h:aT b o=true):aT b (ae b o e).2.1=true:=by
 have:=eB (z:=(0:Int)) (e:=e) PR h
 unfold ae
 split
 · exact this
 · split<;>exact this
theorem xb {b:RL}{o e:Int}(h:aT b o=true)(he:(bx 0 aD b o e).2.2=0):0≤(bx 0 aD b o e).1:=by
 unfold bx at he⊢
 split
 · exact Int.le_refl _
 · rename_i h0
   rw [if_neg h0]at he
   exact(bX (aR (au (cA h).1 _)).1 he).2.2
theorem k30 (b:RL)(o e:Int)(h:aT b o=true):aj E (aa L31) 1 30 [.one (.ptr 0 0)] [rdV b o e]=
 some ([.oi (ae b o e).1],[rdV b (ae b o e).2.1 (ae b o e).2.2]):=by
 unfold rdV
 rw [e30]
 refine ct h ?_
 have hv:=xb (e:=e) h
 unfold ae
 generalize bx 0 aD b o e=p at hv⊢
 by_cases he:p.2.2=0
 · have hv:=hv he
   rw [if_neg (nn he)]
   by_cases hm:2147483647<p.1
   · rw [if_pos hm]
     have:bN (decide (p.1>2147483647)) 9 p.2.2=9:=by unfold bN;rw [if_pos ⟨decide_eq_true hm,he⟩]
     rw [this]
     rfl
   · rw [if_neg hm]
     have:bN (decide (p.1>2147483647)) 9 p.2.2=p.2.2:=by unfold bN;rw [if_neg fun h=>hm (of_decide_eq_true h.1)]
     rw [this]
     refine cf (by simpa using he) ?_
     rw [aA (by omega) (by omega)]
 · have he':p.2.2≠0:=he
   rw [if_pos he']
   have:bN (decide (p.1>2147483647)) 9 p.2.2=p.2.2:=by unfold bN;rw [if_neg fun h=>he h.2]
   rw [this]
   exact ct (by simpa using he) rfl
theorem pA {b:RL}{o e:Int}(h:aT b o=true):0≤(ae b o e).1∧(ae b o e).1≤2147483647:=by
 have hv:=xb (e:=e) h
 unfold ae
 split
 · simp
 · rename_i h1
   split
   · simp
   · have:=hv (Decidable.not_not.1 h1)
     omega
theorem JZ {k:Int}{e:Int}{n:Nat}{c:Int}(hc:c=n)(he:bN (decide (k>c)) 3 e=0):k≤n:=by
 unfold bN at he
 split at he
 · cases he
 · rename_i h
   by_cases hk:k>c
   · exact absurd ⟨decide_eq_true hk,he⟩ h
   · omega
theorem l79 (b:RL)(k:Nat):∀(d i:Nat) (o e:Int) (acc:RL),i+d=k→aT b o=true→acc.length≤i→(e=0→k≤48)→
 ∃m,goF E (aa L83) F79 1 m Ef (C9 k acc i b o e)=some ([.one (.sl false 96 (lU b d o e acc).1)],[rdV b (lU b d o e acc).2.1 (lU b d o e acc).2.2])
 | 0,i,o,e,acc,hi,hb,ha,hk=>by
  refine⟨1, ?_⟩
  rw [HY,lU]
  exact cf (decide_eq_false (by omega)) rfl
 | d+1,i,o,e,acc,hi,hb,ha,hk=>by
  by_cases he:e=0
  · have hk48:=hk he
    have hb2:=eB (z:=((0,0,0,[]):Int×Int×Int×RL)) (e:=e) N8 hb
    obtain⟨m,hm⟩:=l79 b k d (i+1) (dR b o e).2.1 (dR b o e).2.2 (acc++ [GU (dR b o e).1.1 (dR b o e).1.2.1 (dR b o e).1.2.2.1 (dR b o e).1.2.2.2]) (by omega) hb2 (by simp;omega) fun _=>hk48
    refine⟨m+1, ?_⟩
    rw [HY,lU,if_neg (nn he),aF (n:=k) (by omega) (by omega)]
    exact ct (decide_eq_true (by omega)) (ct (beq_iff_eq.2 he) (ct hb (ct (bh (by simp;omega)) hm)))
  · have he':e≠0:=he
    refine⟨1, ?_⟩
    rw [HY,lU,if_pos he']
    exact ct (decide_eq_true (by omega)) (cf (by simpa using he) rfl)
theorem k79 (b:RL)(o e:Int)(h:aT b o=true):∃m,aj E (aa L83) m 79 [.one (.ptr 0 0)] [rdV b o e]=
 some ([.one (.sl false 96 (rst b o e).1)],[rdV b (rst b o e).2.1 (rst b o e).2.2]):=by
 have hn:=pA (e:=e) h
 obtain⟨m,hm⟩:=l79 b (ae b o e).1.toNat (ae b o e).1.toNat 0 (ae b o e).2.1 (bN (decide (48<(ae b o e).1)) 3 (ae b o e).2.2) [] (by omega) (cH h) (by simp) (fun he=>by
  have:=JZ (k:=(ae b o e).1) (c:=48) (n:=48) rfl he
  omega)
 refine⟨m+1, ?_⟩
 unfold rdV
 rw [e79]
 refine ct h ?_
 have e1:(((ae b o e).1.toNat:Nat):Int)=(ae b o e).1:=Int.toNat_of_nonneg hn.1
 rw [e1]at hm
 exact hm
theorem l82 (b:RL)(k:Nat):∀(d i:Nat) (o e:Int) (acc:RL),i+d=k→aT b o=true→acc.length≤i→(e=0→k≤100)→
 ∃m,goF E (aa L79) F82 1 m Ev (DR k acc i b o e)=some ([.one (.sl false 103 (m4 b d o e acc).1)],[rdV b (m4 b d o e acc).2.1 (m4 b d o e acc).2.2])
 | 0,i,o,e,acc,hi,hb,ha,hk=>by
  refine⟨1, ?_⟩
  rw [HO,m4]
  exact cf (decide_eq_false (by omega)) rfl
 | d+1,i,o,e,acc,hi,hb,ha,hk=>by
  by_cases he:e=0
  · have hk1:=hk he
    have hb1:=cH (e:=e) hb
    have hb2:=cH (e:=(ae b o e).2.2) hb1
    obtain⟨m,hm⟩:=l82 b k d (i+1) (ae b (ae b o e).2.1 (ae b o e).2.2).2.1 (ae b (ae b o e).2.1 (ae b o e).2.2).2.2 (acc++ [ent (ae b o e).1 (ae b (ae b o e).2.1 (ae b o e).2.2).1]) (by omega) hb2 (by simp;omega) fun _=>hk1
    refine⟨m+1, ?_⟩
    rw [HO,m4,if_neg (nn he),aF (n:=k) (by omega) (by omega)]
    exact ct (decide_eq_true (by omega)) (ct (beq_iff_eq.2 he) (ct hb (ct hb1 (ct (bh (by simp;omega)) hm))))
  · have he':e≠0:=he
    refine⟨1, ?_⟩
    rw [HO,m4,if_pos he']
    exact ct (decide_eq_true (by omega)) (cf (by simpa using he) rfl)
theorem k82 (b:RL)(o e:Int)(h:aT b o=true):∃m,aj E (aa L79) m 82 [.one (.ptr 0 0)] [rdV b o e]=
 some ([.one (.sl false 103 (rvc b o e).1)],[rdV b (rvc b o e).2.1 (rvc b o e).2.2]):=by
 have hn:=pA (e:=e) h
 obtain⟨m,hm⟩:=l82 b (ae b o e).1.toNat (ae b o e).1.toNat 0 (ae b o e).2.1 (bN (decide (100<(ae b o e).1)) 3 (ae b o e).2.2) [] (by omega) (cH h) (by simp) (fun he=>by
  have:=JZ (k:=(ae b o e).1) (c:=100) (n:=100) rfl he
  omega)
 refine⟨m+1, ?_⟩
 unfold rdV
 rw [e82]
 refine ct h ?_
 have e1:(((ae b o e).1.toNat:Nat):Int)=(ae b o e).1:=Int.toNat_of_nonneg hn.1
 rw [e1]at hm
 exact hm
def OY (w:Msg):Block:=.var [.int .i64 w.k,.int .i64 w.f,.int .i64 w.t,.int .i64 w.p,.int .i64 w.n,.int .i64 w.r,.int .i64 w.o,.sl false 93 w.cf,.sl false 93 w.ct,.sl false 93 w.bf,.sl false 93 w.bt,.bool w.h,.sl false 93 w.ef,.sl false 93 w.et,.sl false 93 w.g,.sl false 96 w.u,.sl false 103 w.v,.bool w.m]
theorem k32 (b:RL)(o e f:Int)(w:Msg)(h:aT b o=true):aj E (aa L82) 1 32 [.one (.ptr 0 0),.one (.ptr 1 0),.oi f] [rdV b o e,OY w]=
 some ([],[rdV b (rdF b o e w f).2.1 (rdF b o e w f).2.2,OY (rdF b o e w f).1]):=by
 unfold rdV OY
 rw [e32,h,cH h]
 unfold rdF
 simp only [ci (Oo f _),cond_true]
 by_cases c0:f=0
 · simp only [if_pos c0]
 simp only [if_neg c0]
 by_cases c1:f=1
 · simp only [if_pos c1]
 simp only [if_neg c1]
 by_cases c2:f=2
 · simp only [if_pos c2]
 simp only [if_neg c2]
 by_cases c3:f=3
 · simp only [if_pos c3]
 simp only [if_neg c3]
 by_cases c4:f=4
 · simp only [if_pos c4]
 simp only [if_neg c4]
 by_cases c5:f=5
 · simp only [if_pos c5]
 simp only [if_neg c5]
 by_cases c6:f=6
 · simp only [if_pos c6]
 simp only [if_neg c6]
 by_cases c7:f=7
 · simp only [if_pos c7]
 simp only [if_neg c7]
 by_cases c8:f=8
 · simp only [if_pos c8]
 simp only [if_neg c8]
 by_cases c9:f=9
 · simp only [if_pos c9]
   by_cases hh:w.h=true
   · simp only [if_pos hh]
     exact ct hh rfl
   · simp only [if_neg hh]
     exact cf (by simpa using hh) rfl
 simp only [if_neg c9]
 by_cases c10:f=10
 · simp only [if_pos c10]
 simp only [if_neg c10]
theorem K2 {b:RL}{o e:Int}(h:aT b o=true):ao (qo b o e).1=true:=by
 unfold qo bx
 split
 · rfl
 · exact hN (au (cA h).1 _)
theorem j7 {b:RL}{o e:Int}(h:aT b o=true):ao (dk b o e).1.1=true∧ao (dk b o e).1.2=true:=by
 unfold dk bx
 split
 · exact⟨rfl,rfl⟩
 · exact pS (EJ (au (cA h).1 _))
theorem IX {b:RL}{o e:Int}(h:aT b o=true):(dR b o e).1.2.2.2.length≤4:=by
 unfold dR bx
 split
 · simp
 · exact GC _ (au (cA h).1 _)
theorem C6 (b:RL)(k:Nat):∀(d i:Nat) (o e:Int) (acc:RL),i+d=k→aT b o=true→acc.length≤i→i≤48→(e=0→k≤48)→fH acc=true→eG (lU b d o e acc).1=true∧aT b (lU b d o e acc).2.1=true
 | 0,i,o,e,acc,hi,hb,ha,h48,hk,hs=>⟨kX (show acc.length≤1000 by omega) hs,hb⟩
 | d+1,i,o,e,acc,hi,hb,ha,h48,hk,hs=>by
  rw [lU]
  by_cases he:e=0
  · rw [if_neg (nn he)]
    have hk48:=hk he
    have hl:=IX (e:=e) hb
    refine C6 b k d (i+1) _ _ _ (by omega) (eB N8 hb) (by simp;omega) (by omega) (fun _=>hk48) ?_
    unfold fH at hs⊢
    rw [List.all_append,hs]
    simp only [List.all_cons,List.all_nil,Bool.and_true,Bool.true_and]
    unfold kw
    have e1:nl (GU (dR b o e).1.1 (dR b o e).1.2.1 (dR b o e).1.2.2.1 (dR b o e).1.2.2.2) 3=(dR b o e).1.2.2.2:=rfl
    rw [e1]
    exact decide_eq_true (by omega)
  · have he':e≠0:=he
    rw [if_pos he']
    exact⟨kX (show acc.length≤1000 by omega) hs,hb⟩
theorem Gn {b:RL}{o e:Int}(h:aT b o=true):eG (rst b o e).1=true∧aT b (rst b o e).2.1=true:=by
 have hn:=pA (e:=e) h
 exact C6 b (ae b o e).1.toNat _ 0 _ _ [] (by omega) (cH h) (by simp) (by omega) (fun he=>by
  have:=JZ (k:=(ae b o e).1) (c:=48) (n:=48) rfl he
  omega) rfl
theorem D0 (b:RL)(k:Nat):∀(d i:Nat) (o e:Int) (acc:RL),i+d=k→aT b o=true→acc.length≤i→i≤100→(e=0→k≤100)→cN (m4 b d o e acc).1=true∧aT b (m4 b d o e acc).2.1=true
 | 0,i,o,e,acc,hi,hb,ha,h48,hk=>⟨fE (show acc.length≤1000 by omega),hb⟩
 | d+1,i,o,e,acc,hi,hb,ha,h48,hk=>by
  rw [m4]
  by_cases he:e=0
  · rw [if_neg (nn he)]
    have hk1:=hk he
    exact D0 b k d (i+1) _ _ _ (by omega) (cH (cH hb)) (by simp;omega) (by omega) fun _=>hk1
  · have he':e≠0:=he
    rw [if_pos he']
    exact⟨fE (show acc.length≤1000 by omega),hb⟩
theorem I3 {b:RL}{o e:Int}(h:aT b o=true):cN (rvc b o e).1=true∧aT b (rvc b o e).2.1=true:=by
 have hn:=pA (e:=e) h
 exact D0 b (ae b o e).1.toNat _ 0 _ _ [] (by omega) (cH h) (by simp) (by omega) (fun he=>by
  have:=JZ (k:=(ae b o e).1) (c:=100) (n:=100) rfl he
  omega)
theorem nk {w:Msg}(h1:ao w.cf=true)(h2:ao w.ct=true)(h3:ao w.bf=true)(h4:ao w.bt=true)(h5:ao w.ef=true)(h6:ao w.et=true)(h7:ao w.g=true)(h8:eG w.u=true)(h9:cN w.v=true):okW w=true:=by
 unfold okW okM
 rw [h1,h2,h3,h4,h5,h6,h7,h8,h9]
 rfl
theorem HS {b:RL}{o e f:Int}{w:Msg}(h:aT b o=true)(hw:okW w=true):aT b (rdF b o e w f).2.1=true∧okW (rdF b o e w f).1=true:=by
 obtain⟨h1,h2,h3,h4,h5,h6,h7,h8,h9⟩:=pE hw
 unfold rdF
 by_cases c0:f=0
 · rw [if_pos c0];exact⟨cH (cH h),hw⟩
 rw [if_neg c0]
 by_cases c1:f=1
 · rw [if_pos c1];exact⟨cH h,hw⟩
 rw [if_neg c1]
 by_cases c2:f=2
 · rw [if_pos c2];exact⟨cH h,hw⟩
 rw [if_neg c2]
 by_cases c3:f=3
 · rw [if_pos c3];exact⟨eB In h,nk h1 h2 h3 h4 h5 h6 (K2 h) h8 h9⟩
 rw [if_neg c3]
 by_cases c4:f=4
 · rw [if_pos c4];exact⟨(Gn h).2,nk h1 h2 h3 h4 h5 h6 h7 (Gn h).1 h9⟩
 rw [if_neg c4]
 by_cases c5:f=5
 · rw [if_pos c5];exact⟨eB Ch h,nk (j7 h).1 (j7 h).2 h3 h4 h5 h6 h7 h8 h9⟩
 rw [if_neg c5]
 by_cases c6:f=6
 · rw [if_pos c6];exact⟨(I3 h).2,nk h1 h2 h3 h4 h5 h6 h7 h8 (I3 h).1⟩
 rw [if_neg c6]
 by_cases c7:f=7
 · rw [if_pos c7];exact⟨eB E8 h,hw⟩
 rw [if_neg c7]
 by_cases c8:f=8
 · rw [if_pos c8];exact⟨eB E8 h,hw⟩
 rw [if_neg c8]
 by_cases c9:f=9
 · rw [if_pos c9]
   by_cases hh:w.h=true
   · rw [if_pos hh];exact⟨eB Ch h,nk h1 h2 (j7 h).1 (j7 h).2 h5 h6 h7 h8 h9⟩
   · rw [if_neg hh];exact⟨h,hw⟩
 rw [if_neg c9]
 by_cases c10:f=10
 · rw [if_pos c10];exact⟨eB Ch h,nk h1 h2 h3 h4 (j7 h).1 (j7 h).2 h7 h8 h9⟩
 rw [if_neg c10]
 exact⟨h,hw⟩
theorem l10 (b l:RL)(hl:l.length≤7):∀(d i:Nat) (o e:Int) (w:Msg),i+d=l.length→aT b o=true→okW w=true→
 ∃m,goF E (aa L32) F10 0 m DC (Ei l l.length i 0 0 0 0 0 0 0 [] [] [] [] false [] [] [] [] [] false b o e w.k w.f w.t w.p w.n w.r w.o w.cf w.ct w.bf w.bt w.h w.ef w.et w.g w.u w.v w.m)=
  some ([eP (rK (cV b (l.drop i) o e w)).1,.one (.int .i64 (rK (cV b (l.drop i) o e w)).2.1),.one (.int .i64 (rK (cV b (l.drop i) o e w)).2.2)],[])
 | 0,i,o,e,w,hi,hb,hw=>by
  refine⟨1, ?_⟩
  have:l.drop i=[]:=List.drop_eq_nil_of_le (by omega)
  have hM:okM w.cf w.ct w.bf w.bt w.ef w.et w.g w.u w.v=true:=hw
  rw [M3,this,cV,hM]
  refine cf (decide_eq_false (by omega)) ?_
  unfold rK
  by_cases he:e=0
  · rw [if_neg (nn he)]
    refine ct (beq_iff_eq.2 he) (ct rfl ?_)
    show cond (gM w !=0) _ _=_
    by_cases hv:gM w=0
    · rw [if_neg (nn hv)]
      refine cf (by simpa using hv) ?_
      subst he
      rfl
    · have hv':gM w≠0:=hv
      rw [if_pos hv']
      exact ct (by simpa using hv) rfl
  · have he':e≠0:=he
    rw [if_pos he']
    exact cf (by simpa using he) (ct (by simpa using he) rfl)
 | d+1,i,o,e,w,hi,hb,hw=>by
  have hi':i<l.length:=by omega
  obtain⟨g1,g2⟩:=HS (e:=e) (f:=nr (rA l i) 0) hb hw
  obtain⟨m,hm⟩:=l10 b l hl d (i+1) (rdF b o e w (nr (rA l i) 0)).2.1 (rdF b o e w (nr (rA l i) 0)).2.2 (rdF b o e w (nr (rA l i) 0)).1 (by omega) g1 g2
  refine⟨m+1, ?_⟩
  rw [M3,aE l i hi',cV,Int.toNat_natCast,aF (n:=l.length) hi' (by omega)]
  exact ct (decide_eq_true (by omega)) (ct (ax hi') (ct hb hm))
theorem KZ {α:Type}(x:Option α):(!x.isSome)=x.isNone:=by cases x<;>rfl
theorem k10 (x:RL)(hx:aI x=true):∃m,aj E (aa L32) m 10 [.or x] []=
 some ([eP (aL x).1,.oi (aL x).2.1,.oi (aL x).2.2],[]):=by
 have h0:aT x 0=true:=dK hx (Int.le_refl _) (by omega)
 have h1:=cH (e:=0) h0
 have h2:=cH (e:=bN (ca (ae x 0 0).1).isNone 10 (ae x 0 0).2.2) h1
 have h3:=cH (e:=(ae x (ae x 0 0).2.1 (bN (ca (ae x 0 0).1).isNone 10 (ae x 0 0).2.2)).2.2) h2
 obtain⟨m,hm⟩:=l10 x (be (ae x 0 0).1) (m0 _) (be (ae x 0 0).1).length 0 _ (ae x (ae x (ae x 0 0).2.1 (bN (ca (ae x 0 0).1).isNone 10 (ae x 0 0).2.2)).2.1 (ae x (ae x 0 0).2.1 (bN (ca (ae x 0 0).1).isNone 10 (ae x 0 0).2.2)).2.2).2.2
  {cW with k:=(ae x 0 0).1,f:=(ae x (ae x 0 0).2.1 (bN (ca (ae x 0 0).1).isNone 10 (ae x 0 0).2.2)).1,t:=(ae x (ae x (ae x 0 0).2.1 (bN (ca (ae x 0 0).1).isNone 10 (ae x 0 0).2.2)).2.1 (ae x (ae x 0 0).2.1 (bN (ca (ae x 0 0).1).isNone 10 (ae x 0 0).2.2)).2.2).1} (by omega) h3 rfl
 refine⟨m+1, ?_⟩
 rw [e10,KZ]
 exact ct h0 (ct h1 (ct h2 hm))
end Go.Proofs.YtejimgikldiajaaGreat
namespace Go.Proofs.YtejimgikldiajaaGreat
open Go.Abs
def CI {α:Type}(d:RL→α×Int×Int):Prop:=∀x,aI x=true→(d x).2.2=0→0≤(d x).2.1∧(d x).2.1≤x.length
theorem jM {α:Type}{d:RL→α×Int×Int}(hd:CI d){x:RL}(hx:aI x=true){a:Int}(h0:0≤a)(h1:a≤x.length)(he:(d (x.drop a.toNat)).2.2=0):
 0≤(d (x.drop a.toNat)).2.1∧a+(d (x.drop a.toNat)).2.1≤x.length∧IntKind.wrap .i64 (a+(d (x.drop a.toNat)).2.1)=a+(d (x.drop a.toNat)).2.1:=by
 have hl:=(aR hx).2
 have:=hd _ (au hx a.toNat) he
 rw [List.length_drop]at this
 exact⟨this.1,by omega,aA (by omega) (by omega)⟩
theorem zz :CI aM:=fun x hx _=>Ch x hx
theorem PO :CI aX:=fun x hx _=>In x hx
theorem NY :CI aQ:=fun x hx _=>E8 x hx
theorem Fd :CI am:=fun x hx h=>by
 have:=cr (aR hx).1 h
 omega
theorem AL (x:RL)(hx:aI x=true):∀(k:Nat) (o:Int) (acc:RL),0≤o→o≤x.length→(fA x k o acc).2.2=0→0≤(fA x k o acc).2.1∧(fA x k o acc).2.1≤x.length
 | 0,o,acc,h0,h1,_=>⟨h0,h1⟩
 | k+1,o,acc,h0,h1,h=>by
  simp only [fA]at h⊢
  have hb:=kI (au hx o.toNat)
  rw [List.length_drop]at hb
  by_cases he:(bY (x.drop o.toNat)).2.2.2.2.2=0
  · rw [if_neg (nn he)]at h⊢
    exact AL x hx k _ _ (by omega) (by omega) h
  · have he':(bY (x.drop o.toNat)).2.2.2.2.2≠0:=he
    rw [if_pos he']at h
    exact absurd h he
theorem JV :CI ce:=fun x hx h=>by
 unfold ce at h⊢
 by_cases h1:(am x).2.2=0
 · rw [if_neg (nn h1)]at h⊢
   by_cases h2:48<(am x).1
   · rw [if_pos h2]at h;cases h
   · rw [if_neg h2]at h⊢
     have hb:=cr (aR hx).1 h1
     exact AL x hx _ _ _ (by omega) (by omega) h
 · have h1':(am x).2.2≠0:=h1
   rw [if_pos h1']at h
   exact absurd h h1
def pZ (p:Msg×Int×Int):Option (List AV×List Block):=some ([eP p.1,.one (.int .i64 p.2.1),.one (.int .i64 p.2.2)],[])
theorem cne {α:Type}{v:Int}{x y r:α}(h1:v≠0→x=r)(h2:v=0→y=r):cond (v !=0) x y=r:=by
 by_cases h:v=0
 · rw [show(v !=0)=false by simpa using h];exact h2 h
 · rw [show(v !=0)=true by simpa using h];exact h1 h
theorem k88 (w:Msg)(x:RL)(hx:aI x=true):aj E (aa L10) 1 88 [eP w,.or x] []=pZ (rbW w x):=by
 have hb:=E8 x hx
 unfold eP
 rw [e88,hx]
 simp only [aN]
 refine ct rfl (cne (fun h=> ?_) fun h=> ?_)
 · unfold rbW
   rw [if_pos h]
   rfl
 have hd:=au hx (aQ x).2.1.toNat
 have hi:inB (aQ x).2.1 (x.length+1)=true:=aC (by omega) (by omega)
 refine cs (fun hh=> ?_) fun hh=> ?_
 · refine ct hi (ct hd (cne (fun h2=> ?_) fun h2=> ?_))
   · unfold rbW
     rw [if_neg (nn h),if_pos hh,if_pos (show(aM (x.drop (aQ x).2.1.toNat)).2.2≠0 from h2)]
     rfl
   · obtain⟨q1,q2,q3⟩:=jM zz hx hb.1 hb.2 h2
     have q3':IntKind.wrap .i64 ((aQ x).2.1+(bn (x.drop (aQ x).2.1.toNat)).2.2.1)=(aQ x).2.1+(aM (x.drop (aQ x).2.1.toNat)).2.1:=q3
     rw [q3']
     refine ct (aC (by omega) (by omega)) (ct (au hx _) (cne (fun h3=> ?_) fun h3=> ?_))
     · unfold rbW
       rw [if_neg (nn h),if_pos hh,if_neg (nn (show(aM (x.drop (aQ x).2.1.toNat)).2.2=0 from h2)),if_pos (show(aM (x.drop ((aQ x).2.1+(aM (x.drop (aQ x).2.1.toNat)).2.1).toNat)).2.2≠0 from h3)]
       rfl
     · obtain⟨r1,r2,r3⟩:=jM zz hx (a:=(aQ x).2.1+(aM (x.drop (aQ x).2.1.toNat)).2.1) (by omega) q2 h3
       have r3':IntKind.wrap .i64 ((aQ x).2.1+(aM (x.drop (aQ x).2.1.toNat)).2.1+(bn (x.drop ((aQ x).2.1+(aM (x.drop (aQ x).2.1.toNat)).2.1).toNat)).2.2.1)=(aQ x).2.1+(aM (x.drop (aQ x).2.1.toNat)).2.1+(aM (x.drop ((aQ x).2.1+(aM (x.drop (aQ x).2.1.toNat)).2.1).toNat)).2.1:=r3
       rw [r3']
       unfold rbW
       rw [if_neg (nn h),if_pos hh,if_neg (nn (show(aM (x.drop (aQ x).2.1.toNat)).2.2=0 from h2)),if_neg (nn (show(aM (x.drop ((aQ x).2.1+(aM (x.drop (aQ x).2.1.toNat)).2.1).toNat)).2.2=0 from h3))]
       rfl
 · have hh':¬(aQ x).1=true:=by rw [hh];simp
   refine ct hi (ct hd (cne (fun h2=> ?_) fun h2=> ?_))
   · unfold rbW
     rw [if_neg (nn h),if_neg hh',if_pos (show(aM (x.drop (aQ x).2.1.toNat)).2.2≠0 from h2)]
     rfl
   · obtain⟨q1,q2,q3⟩:=jM zz hx hb.1 hb.2 h2
     have q3':IntKind.wrap .i64 ((aQ x).2.1+(bn (x.drop (aQ x).2.1.toNat)).2.2.1)=(aQ x).2.1+(aM (x.drop (aQ x).2.1.toNat)).2.1:=q3
     rw [q3']
     unfold rbW
     rw [if_neg (nn h),if_neg hh',if_neg (nn (show(aM (x.drop (aQ x).2.1.toNat)).2.2=0 from h2))]
     rfl
theorem Ja (w:Msg){x:RL}(hx:aI x=true):0≤(rbW w x).2.1∧(rbW w x).2.1≤x.length:=by
 have hb:=E8 x hx
 unfold rbW
 by_cases h:(aQ x).2.2=0
 · rw [if_neg (nn h)]
   by_cases hh:(aQ x).1=true
   · rw [if_pos hh]
     by_cases h2:(aM (x.drop (aQ x).2.1.toNat)).2.2=0
     · rw [if_neg (nn h2)]
       obtain⟨q1,q2,_⟩:=jM zz hx hb.1 hb.2 h2
       by_cases h3:(aM (x.drop ((aQ x).2.1+(aM (x.drop (aQ x).2.1.toNat)).2.1).toNat)).2.2=0
       · rw [if_neg (nn h3)]
         obtain⟨r1,r2,_⟩:=jM zz hx (a:=(aQ x).2.1+(aM (x.drop (aQ x).2.1.toNat)).2.1) (by omega) q2 h3
         exact⟨by dsimp only;omega,r2⟩
       · rw [if_pos (show _≠_ from h3)];exact⟨Int.le_refl _,by dsimp only;omega⟩
     · rw [if_pos (show _≠_ from h2)];exact⟨Int.le_refl _,by dsimp only;omega⟩
   · rw [if_neg hh]
     by_cases h2:(aM (x.drop (aQ x).2.1.toNat)).2.2=0
     · rw [if_neg (nn h2)]
       obtain⟨q1,q2,_⟩:=jM zz hx hb.1 hb.2 h2
       exact⟨by dsimp only;omega,q2⟩
     · rw [if_pos (show _≠_ from h2)];exact⟨Int.le_refl _,by dsimp only;omega⟩
 · rw [if_pos (show _≠_ from h)];exact⟨Int.le_refl _,by dsimp only;omega⟩
def uY (k f t p n r o:Int)(h m:Bool):AV:=.agg [.int .i64 k,.int .i64 f,.int .i64 t,.int .i64 p,.int .i64 n,.int .i64 r,.int .i64 o,.nils,.nils,.nils,.nils,.bool h,.nils,.nils,.nils,.nils,.nils,.bool m]
def m6 (k f t p n r o:Int)(h m:Bool):Msg:=⟨k,f,t,p,n,r,o,[],[],[],[],h,[],[],[],[],[],m⟩
theorem AJ (w:Msg)(x:RL)(hx:aI x=true)(a:Int)(h0:0≤a)(h1:a≤x.length)(T:Bool)(hT:T=(w.k==1)):
 cond (inB a (x.length+1)) (cond (aI (x.drop a.toNat)) (cond ((aX (x.drop a.toNat)).2.2 !=0) (pZ (w,0,(aX (x.drop a.toNat)).2.2))
  (cond (inB (IntKind.wrap .i64 (a+(aX (x.drop a.toNat)).2.1)) (x.length+1)) (cond (aI (x.drop (IntKind.wrap .i64 (a+(aX (x.drop a.toNat)).2.1)).toNat))
    (cond ((ce (x.drop (IntKind.wrap .i64 (a+(aX (x.drop a.toNat)).2.1)).toNat)).2.2 !=0) (pZ (w,0,(ce (x.drop (IntKind.wrap .i64 (a+(aX (x.drop a.toNat)).2.1)).toNat)).2.2))
      (cond T (pZ ({w with g:=(aX (x.drop a.toNat)).1,u:=(ce (x.drop (IntKind.wrap .i64 (a+(aX (x.drop a.toNat)).2.1)).toNat)).1},
        IntKind.wrap .i64 (IntKind.wrap .i64 (a+(aX (x.drop a.toNat)).2.1)+(ce (x.drop (IntKind.wrap .i64 (a+(aX (x.drop a.toNat)).2.1)).toNat)).2.1),0))
        (cond (inB (IntKind.wrap .i64 (IntKind.wrap .i64 (a+(aX (x.drop a.toNat)).2.1)+(ce (x.drop (IntKind.wrap .i64 (a+(aX (x.drop a.toNat)).2.1)).toNat)).2.1)) (x.length+1))
          (cond (aI (x.drop (IntKind.wrap .i64 (IntKind.wrap .i64 (a+(aX (x.drop a.toNat)).2.1)+(ce (x.drop (IntKind.wrap .i64 (a+(aX (x.drop a.toNat)).2.1)).toNat)).2.1)).toNat))
            (some ([eP (rbW {w with g:=(aX (x.drop a.toNat)).1,u:=(ce (x.drop (IntKind.wrap .i64 (a+(aX (x.drop a.toNat)).2.1)).toNat)).1} (x.drop (IntKind.wrap .i64 (IntKind.wrap .i64 (a+(aX (x.drop a.toNat)).2.1)+(ce (x.drop (IntKind.wrap .i64 (a+(aX (x.drop a.toNat)).2.1)).toNat)).2.1)).toNat)).1,
              .one (.int .i64 (IntKind.wrap .i64 (IntKind.wrap .i64 (IntKind.wrap .i64 (a+(aX (x.drop a.toNat)).2.1)+(ce (x.drop (IntKind.wrap .i64 (a+(aX (x.drop a.toNat)).2.1)).toNat)).2.1)+(rbW {w with g:=(aX (x.drop a.toNat)).1,u:=(ce (x.drop (IntKind.wrap .i64 (a+(aX (x.drop a.toNat)).2.1)).toNat)).1} (x.drop (IntKind.wrap .i64 (IntKind.wrap .i64 (a+(aX (x.drop a.toNat)).2.1)+(ce (x.drop (IntKind.wrap .i64 (a+(aX (x.drop a.toNat)).2.1)).toNat)).2.1)).toNat)).2.1))),
              .one (.int .i64 (rbW {w with g:=(aX (x.drop a.toNat)).1,u:=(ce (x.drop (IntKind.wrap .i64 (a+(aX (x.drop a.toNat)).2.1)).toNat)).1} (x.drop (IntKind.wrap .i64 (IntKind.wrap .i64 (a+(aX (x.drop a.toNat)).2.1)+(ce (x.drop (IntKind.wrap .i64 (a+(aX (x.drop a.toNat)).2.1)).toNat)).2.1)).toNat)).2.2)],[])) none) none))) none) none)) none) none=pZ (rxB w x a):=by
 subst hT
 have hl:=(aR hx).2
 refine ct (aC h0 (by omega)) (ct (au hx _) (cne (fun h=> ?_) fun h=> ?_))
 · unfold rxB
   dsimp only
   rw [if_pos h]
 obtain⟨q1,q2,q3⟩:=jM PO hx h0 h1 h
 rw [q3]
 refine ct (aC (by omega) (by omega)) (ct (au hx _) (cne (fun h2=> ?_) fun h2=> ?_))
 · unfold rxB
   dsimp only
   rw [if_neg (nn h),if_pos h2]
 obtain⟨r1,r2,r3⟩:=jM JV hx (a:=a+(aX (x.drop a.toNat)).2.1) (by omega) q2 h2
 rw [r3]
 by_cases hk:w.k=1
 · refine ct (beq_iff_eq.2 hk) ?_
   unfold rxB
   dsimp only
   rw [if_neg (nn h),if_neg (nn h2),if_pos hk]
 · refine cf (by simpa using hk) (ct (aC (by omega) (by omega)) (ct (au hx _) ?_))
   have hb:=Ja {w with g:=(aX (x.drop a.toNat)).1,u:=(ce (x.drop (a+(aX (x.drop a.toNat)).2.1).toNat)).1} (au hx (a+(aX (x.drop a.toNat)).2.1+(ce (x.drop (a+(aX (x.drop a.toNat)).2.1).toNat)).2.1).toNat)
   rw [List.length_drop]at hb
   rw [aA (n:=a+(aX (x.drop a.toNat)).2.1+(ce (x.drop (a+(aX (x.drop a.toNat)).2.1).toNat)).2.1+_) (by omega) (by omega)]
   unfold rxB
   dsimp only
   rw [if_neg (nn h),if_neg (nn h2),if_neg hk]
   rfl
theorem k35 (k f t p n r o:Int)(h m:Bool)(x:RL)(hx:aI x=true):aj E (aa L88) 1 35 [uY k f t p n r o h m,.or x] []=pZ (rxW (m6 k f t p n r o h m) x):=by
 unfold uY
 rw [e35,hx]
 simp only [aN]
 unfold rxW
 by_cases hk:k=1
 · have e4:(if(m6 k f t p n r o h m).k=1 then 4 else 3:Int)=4:=if_pos hk
   rw [e4]
   refine ct (beq_iff_eq.2 hk) (ct rfl (cne (fun h1=> ?_) fun h1=> ?_))
   · dsimp only
     rw [if_pos h1]
     rfl
   · dsimp only
     rw [if_neg (nn h1)]
     obtain⟨b1,b2,b3,_⟩:=bV hx h1
     have b3':(ai x 4).1.length=4:=b3
     refine ct (aC (by omega) (by omega)) (ct (aC (by omega) (by omega)) (ct (aC (by omega) (by omega)) (ct (aC (by omega) (by omega)) ?_)))
     rw [if_pos (show(m6 k f t p n r o h m).k=1 from hk)]
     exact AJ {m6 k f t p n r o h m with p:=nr (rA (ai x 4).1 0) 0,n:=nr (rA (ai x 4).1 1) 0,r:=nr (rA (ai x 4).1 2) 0,o:=nr (rA (ai x 4).1 3) 0} x hx (ai x 4).2.1 b1 b2 (k==1) rfl
 · have e4:(if(m6 k f t p n r o h m).k=1 then 4 else 3:Int)=3:=if_neg hk
   rw [e4]
   refine cf (by simpa using hk) (ct rfl (cne (fun h1=> ?_) fun h1=> ?_))
   · dsimp only
     rw [if_pos h1]
     rfl
   · dsimp only
     rw [if_neg (nn h1)]
     obtain⟨b1,b2,b3,_⟩:=bV hx h1
     have b3':(ai x 3).1.length=3:=b3
     refine ct (aC (by omega) (by omega)) (ct (aC (by omega) (by omega)) (ct (aC (by omega) (by omega)) ?_))
     rw [if_neg (show¬(m6 k f t p n r o h m).k=1 from hk)]
     exact AJ {m6 k f t p n r o h m with p:=nr (rA (ai x 3).1 0) 0,n:=nr (rA (ai x 3).1 1) 0,r:=nr (rA (ai x 3).1 2) 0} x hx (ai x 3).2.1 b1 b2 (k==1) rfl
end Go.Proofs.YtejimgikldiajaaGreat
namespace Go.Proofs.YtejimgikldiajaaGreat
open Go.Abs
theorem l36 (a n:Int)(c:Nat)(hc:c≤100)(l:RL)(hl:l.length=2*c):∀(d i:Nat) (w:Msg),i+d=c→w.v.length≤i→
 ∃m,goF E (aa L35) F36 0 m DL (Ep a c n l i w.k w.f w.t w.p w.n w.r w.o w.cf w.ct w.bf w.bt w.h w.ef w.et w.g w.u w.v w.m 0 0 0 0 0 0 0 [] [] [] [] false [] [] [] [] [] false)=pZ ({w with v:=w.v++m9 l d i},IntKind.wrap .i64 (a+n),0)
 | 0,i,w,hi,hw=>by
  refine⟨1, ?_⟩
  rw [MC,m9,List.append_nil]
  exact cf (decide_eq_false (by omega)) rfl
 | d+1,i,w,hi,hw=>by
  obtain⟨m,hm⟩:=l36 a n c hc l hl d (i+1) {w with v:=w.v++ [ent (nr (rA l (2*i)) 0) (nr (rA l (2*i+1)) 0)]} (by omega) (by simp;omega)
  refine⟨m+1, ?_⟩
  have w1:IntKind.wrap .i64 (2*(i:Int))=((2*i:Nat):Int):=by rw [aA (by omega) (by omega)];omega
  have w2:IntKind.wrap .i64 (((2*i:Nat):Int)+1)=((2*i+1:Nat):Int):=by rw [aA (by omega) (by omega)];omega
  rw [MC,w1,w2,Int.toNat_natCast,Int.toNat_natCast,aF (n:=c) (by omega) (by omega),m9]
  refine ct (decide_eq_true (by omega)) (ct (ax (by omega)) (ct (ax (by omega)) (ct (bh (by simp;omega)) ?_)))
  refine Eq.trans hm ?_
  simp only [List.append_assoc,List.singleton_append]
theorem OE {x:RL}{c:Int}(h1:aI x=true)(h2:c≤1000):(aI x&&decide (c≤1000))=true:=by rw [h1,decide_eq_true h2];rfl
theorem k36 (k f t p n r o:Int)(h m:Bool)(x:RL)(hx:aI x=true):∃z,aj E (aa L35) z 36 [uY k f t p n r o h m,.or x] []=pZ (rrW (m6 k f t p n r o h m) x):=by
 have ha:=Ch x hx
 by_cases h1:(aM x).2.2=0
 rotate_left
 · refine⟨1, ?_⟩
   unfold uY
   rw [e36,hx]
   refine ct rfl (ct (bne_iff_ne.2 h1) ?_)
   unfold rrW
   dsimp only
   rw [if_pos (show _≠_ from h1)]
   rfl
 have h1':(bn x).2.2.2=0:=h1
 have start:rrW (m6 k f t p n r o h m) x=if k=4 then rhW {m6 k f t p n r o h m with cf:=(bn x).1,ct:=(bn x).2.1} x (aM x).2.1 else if k=5 then rcW {m6 k f t p n r o h m with cf:=(bn x).1,ct:=(bn x).2.1} x (aM x).2.1 else({m6 k f t p n r o h m with cf:=(bn x).1,ct:=(bn x).2.1},(aM x).2.1,0):=by
  unfold rrW
  dsimp only
  rw [if_neg (nn h1)]
  rfl
 rw [start]
 by_cases k4:k=4
 · rw [if_pos k4]
   by_cases h2:(am (x.drop (aM x).2.1.toNat)).2.2=0
   rotate_left
   · refine⟨1, ?_⟩
     unfold uY
     rw [e36,hx]
     simp only [aN]
     refine ct rfl (cf (by rw [h1'];rfl) (ct (beq_iff_eq.2 k4) (ct (aC ha.1 (by have:=ha.2;show(aM x).2.1<_;omega)) (ct (au hx _) (ct (bne_iff_ne.2 h2) ?_)))))
     unfold rhW
     dsimp only
     rw [if_pos (show _≠_ from h2)]
     rfl
   by_cases h3:100<(am (x.drop (aM x).2.1.toNat)).1
   · refine⟨1, ?_⟩
     unfold uY
     rw [e36,hx]
     simp only [aN]
     refine ct rfl (cf (by rw [h1'];rfl) (ct (beq_iff_eq.2 k4) (ct (aC ha.1 (by have:=ha.2;show(aM x).2.1<_;omega)) (ct (au hx _) (cf (bne_eq_false_iff_eq.2 h2) (ct (decide_eq_true h3) ?_))))))
     unfold rhW
     dsimp only
     rw [if_neg (nn h2),if_pos h3]
     rfl
   obtain⟨q1,q2,q3⟩:=jM Fd hx ha.1 ha.2 h2
   have hv:=cr (aR (au hx (aM x).2.1.toNat)).1 h2
   have w2:IntKind.wrap .i64 (2*(am (x.drop (aM x).2.1.toNat)).1)=2*(am (x.drop (aM x).2.1.toNat)).1:=aA (by omega) (by omega)
   have q3':IntKind.wrap .i64 ((bn x).2.2.1+(am (x.drop (bn x).2.2.1.toNat)).2.1)=(aM x).2.1+(am (x.drop (aM x).2.1.toNat)).2.1:=q3
   have w2':IntKind.wrap .i64 (2*(am (x.drop (bn x).2.2.1.toNat)).1)=2*(am (x.drop (aM x).2.1.toNat)).1:=w2
   by_cases h4:(ai (x.drop ((aM x).2.1+(am (x.drop (aM x).2.1.toNat)).2.1).toNat) (2*(am (x.drop (aM x).2.1.toNat)).1)).2.2=0
   rotate_left
   · refine⟨1, ?_⟩
     unfold uY
     rw [e36,hx]
     simp only [aN,q3',w2']
     refine ct rfl (cf (by rw [h1'];rfl) (ct (beq_iff_eq.2 k4) (ct (aC ha.1 (by have:=ha.2;show(aM x).2.1<_;omega)) (ct (au hx _) (cf (bne_eq_false_iff_eq.2 h2) (cf (decide_eq_false h3) (ct (aC (by omega) (by omega)) (ct (OE (au hx _) (by omega)) (ct (bne_iff_ne.2 h4) ?_)))))))))
     unfold rhW
     dsimp only
     rw [if_neg (nn h2),if_neg h3,if_pos (show _≠_ from h4)]
     rfl
   obtain⟨b1,b2,b3,_⟩:=bV (au hx _) h4
   rw [List.length_drop]at b2
   obtain⟨z,hz⟩:=l36 ((aM x).2.1+(am (x.drop (aM x).2.1.toNat)).2.1) (ai (x.drop ((aM x).2.1+(am (x.drop (aM x).2.1.toNat)).2.1).toNat) (2*(am (x.drop (aM x).2.1.toNat)).1)).2.1
    (am (x.drop (aM x).2.1.toNat)).1.toNat (by omega) _ (by rw [b3];omega) (am (x.drop (aM x).2.1.toNat)).1.toNat 0 {m6 k f t p n r o h m with cf:=(bn x).1,ct:=(bn x).2.1} (by omega) (by simp [m6])
   refine⟨z+1, ?_⟩
   unfold uY
   rw [e36,hx]
   simp only [aN,q3',w2']
   refine ct rfl (cf (by rw [h1'];rfl) (ct (beq_iff_eq.2 k4) (ct (aC ha.1 (by have:=ha.2;show(aM x).2.1<_;omega)) (ct (au hx _) (cf (bne_eq_false_iff_eq.2 h2) (cf (decide_eq_false h3) (ct (aC (by omega) (by omega)) (ct (OE (au hx _) (by omega)) (cf (bne_eq_false_iff_eq.2 h4) ?_)))))))))
   have e1:(((am (x.drop (aM x).2.1.toNat)).1.toNat:Nat):Int)=(am (x.drop (aM x).2.1.toNat)).1:=Int.toNat_of_nonneg (by omega)
   rw [e1]at hz
   refine Eq.trans hz ?_
   have hl:=(aR hx).2
   rw [aA (by omega) (by omega)]
   unfold rhW
   dsimp only
   rw [if_neg (nn h2),if_neg h3,if_neg (nn h4)]
 · rw [if_neg k4]
   by_cases k5:k=5
   · rw [if_pos k5]
     refine⟨1, ?_⟩
     unfold uY
     rw [e36,hx]
     simp only [aN]
     have hl:=(aR hx).2
     refine ct rfl (cf (by rw [h1'];rfl) (cf (by simpa using k4) (ct (beq_iff_eq.2 k5) (ct (aC ha.1 (by have:=ha.2;show(aM x).2.1<_;omega)) (ct (au hx _) (cne (fun h2=> ?_) fun h2=> ?_))))))
     · unfold rcW
       dsimp only
       rw [if_pos (show(ce (x.drop (aM x).2.1.toNat)).2.2≠0 from h2)]
       rfl
     obtain⟨q1,q2,q3⟩:=jM JV hx ha.1 ha.2 h2
     have q3':IntKind.wrap .i64 ((bn x).2.2.1+(ce (x.drop (bn x).2.2.1.toNat)).2.1)=(aM x).2.1+(ce (x.drop (aM x).2.1.toNat)).2.1:=q3
     rw [q3']
     refine ct (aC (by omega) (by omega)) (ct (au hx _) (cne (fun h3=> ?_) fun h3=> ?_))
     · unfold rcW
       dsimp only
       rw [if_neg (nn (show(ce (x.drop (aM x).2.1.toNat)).2.2=0 from h2)),if_pos h3]
       rfl
     obtain⟨r1,r2,r3⟩:=jM NY hx (a:=(aM x).2.1+(ce (x.drop (aM x).2.1.toNat)).2.1) (by omega) q2 h3
     rw [r3]
     refine ct (aC (by omega) (by omega)) (ct (au hx _) ?_)
     have hb:=Ja {m6 k f t p n r o h m with cf:=(bn x).1,ct:=(bn x).2.1,u:=(ce (x.drop (aM x).2.1.toNat)).1,m:=(aQ (x.drop ((aM x).2.1+(ce (x.drop (aM x).2.1.toNat)).2.1).toNat)).1} (au hx ((aM x).2.1+(ce (x.drop (aM x).2.1.toNat)).2.1+(aQ (x.drop ((aM x).2.1+(ce (x.drop (aM x).2.1.toNat)).2.1).toNat)).2.1).toNat)
     rw [List.length_drop]at hb
     have w3:=aA (n:=(aM x).2.1+(ce (x.drop (aM x).2.1.toNat)).2.1+(aQ (x.drop ((aM x).2.1+(ce (x.drop (aM x).2.1.toNat)).2.1).toNat)).2.1+(rbW {m6 k f t p n r o h m with cf:=(bn x).1,ct:=(bn x).2.1,u:=(ce (x.drop (aM x).2.1.toNat)).1,m:=(aQ (x.drop ((aM x).2.1+(ce (x.drop (aM x).2.1.toNat)).2.1).toNat)).1} (x.drop ((aM x).2.1+(ce (x.drop (aM x).2.1.toNat)).2.1+(aQ (x.drop ((aM x).2.1+(ce (x.drop (aM x).2.1.toNat)).2.1).toNat)).2.1).toNat)).2.1) (by omega) (by omega)
     unfold rcW
     dsimp only
     rw [if_neg (nn (show(ce (x.drop (aM x).2.1.toNat)).2.2=0 from h2)),if_neg (nn h3)]
     refine Eq.trans ?_ (congrArg (fun z=>some ([eP _,AV.one (.i z),.oi _],([]:List Block))) w3)
     rfl
   · rw [if_neg k5]
     refine⟨1, ?_⟩
     unfold uY
     rw [e36,hx]
     exact ct rfl (cf (by rw [h1'];rfl) (cf (by simpa using k4) (cf (by simpa using k5) rfl)))
end Go.Proofs.YtejimgikldiajaaGreat
namespace Go.Proofs.YtejimgikldiajaaGreat
open Go.Abs
def thn {α:Type}(p:α×Int×Int)(K:α→Int→Msg×Int×Int):Msg×Int×Int:=if p.2.2≠0 then(cW,0,p.2.2)else K p.1 p.2.1
theorem cF {α:Type}{p:α×Int×Int}{K:α→Int→Msg×Int×Int}(h:p.2.2≠0):thn p K=(cW,0,p.2.2):=if_pos h
theorem fl {α:Type}{p:α×Int×Int}{K:α→Int→Msg×Int×Int}(h:p.2.2=0):thn p K=K p.1 p.2.1:=if_neg (nn h)
theorem xD {α:Type}{v:α}{o e:Int}{K:α→Int→Msg×Int×Int}(h:e=0):thn (v,o,e) K=K v o:=if_neg (nn h)
theorem oO {α:Type}{v:α}{o e:Int}{K:α→Int→Msg×Int×Int}(h:e≠0):thn (v,o,e) K=(cW,0,e):=if_pos h
theorem yT {α:Type}{p q:α×Int×Int}(K:α→Int→Msg×Int×Int)(h1:p.2.2=q.2.2)(h2:q.2.2=0→p=q):thn p K=thn q K:=by
 by_cases h:q.2.2=0
 · rw [h2 h]
 · rw [cF (show p.2.2≠0 by rw [h1];exact h),cF h,h1]
def ea (Q:Msg→Int→Msg×Int×Int)(p:Msg×Int×Int):Msg×Int×Int:=thn p Q
variable {Q:Msg→Int→Msg×Int×Int}
theorem oH {p:Msg×Int×Int}(h:p.2.2≠0):ea Q p=(cW,0,p.2.2):=if_pos h
theorem kN {α:Type}{z:α}{d:RL→α×Int×Int}{b:RL}{o e:Int}(h:e≠0):bx z d b o e=(z,o,e):=if_pos h
theorem iM {b:RL}{o e:Int}(h:e≠0):(ae b o e).2.2=e:=by
 unfold ae
 rw [kN h,if_pos h]
theorem pf {w:Bool}{k e:Int}(h:e≠0):bN w k e=e:=if_neg fun g=>h g.2
theorem yg (b:RL):∀(d:Nat) (o e:Int) (acc:RL),e≠0→(lU b d o e acc).2.2=e
 | 0,_,_,_,_=>rfl
 | d+1,o,e,acc,h=>by rw [lU,if_pos h]
theorem sX (b:RL):∀(d:Nat) (o e:Int) (acc:RL),e≠0→(m4 b d o e acc).2.2=e
 | 0,_,_,_,_=>rfl
 | d+1,o,e,acc,h=>by rw [m4,if_pos h]
theorem Px {b:RL}{o e f:Int}{w:Msg}(h:e≠0):(rdF b o e w f).2.2=e:=by
 have hn:=iM (b:=b) (o:=o) h
 unfold rdF
 by_cases c0:f=0
 · rw [if_pos c0]
   show(ae b (ae b o e).2.1 (ae b o e).2.2).2.2=e
   rw [hn]
   exact iM h
 rw [if_neg c0]
 by_cases c1:f=1
 · rw [if_pos c1];exact hn
 rw [if_neg c1]
 by_cases c2:f=2
 · rw [if_pos c2];exact hn
 rw [if_neg c2]
 by_cases c3:f=3
 · rw [if_pos c3];show(bx _ _ _ _ _).2.2=e;rw [kN h]
 rw [if_neg c3]
 by_cases c4:f=4
 · rw [if_pos c4]
   show(lU b _ _ (bN _ 3 (ae b o e).2.2) []).2.2=e
   rw [hn,pf h]
   exact yg b _ _ _ _ h
 rw [if_neg c4]
 by_cases c5:f=5
 · rw [if_pos c5];show(bx _ _ _ _ _).2.2=e;rw [kN h]
 rw [if_neg c5]
 by_cases c6:f=6
 · rw [if_pos c6]
   show(m4 b _ _ (bN _ 3 (ae b o e).2.2) []).2.2=e
   rw [hn,pf h]
   exact sX b _ _ _ _ h
 rw [if_neg c6]
 by_cases c7:f=7
 · rw [if_pos c7];show(bx _ _ _ _ _).2.2=e;rw [kN h]
 rw [if_neg c7]
 by_cases c8:f=8
 · rw [if_pos c8];show(bx _ _ _ _ _).2.2=e;rw [kN h]
 rw [if_neg c8]
 by_cases c9:f=9
 · rw [if_pos c9]
   by_cases hh:w.h=true
   · rw [if_pos hh];show(bx _ _ _ _ _).2.2=e;rw [kN h]
   · rw [if_neg hh]
 rw [if_neg c9]
 by_cases c10:f=10
 · rw [if_pos c10];show(bx _ _ _ _ _).2.2=e;rw [kN h]
 rw [if_neg c10]
theorem Eo (b:RL):∀(l:RL) (o e:Int) (w:Msg),e≠0→(cV b l o e w).2.2=e
 | [],_,_,_,_=>rfl
 | r::l,o,e,w,h=>by
  rw [cV]
  have:=Px (b:=b) (o:=o) (f:=nr r 0) (w:=w) h
  rw [Eo b l _ _ _ (by rw [this];exact h),this]
theorem sq {b l:RL}{o e:Int}{w:Msg}(h:e≠0):ea Q (cV b l o e w)=(cW,0,e):=by
 have:=Eo b l o e w h
 rw [oH (by rw [this];exact h),this]
theorem bG {α:Type}{b l:RL}{o f:Int}{w:Msg}(p:α×Int×Int)(g:α→Msg)(h:rdF b o 0 w f=(g p.1,p.2)):
 ea Q (cV b ([.int .i64 f]::l) o 0 w)=thn p fun v o'=>ea Q (cV b l o' 0 (g v)):=by
 rw [cV]
 have hf:nr [Cell.int .i64 f] 0=f:=rfl
 rw [hf,h]
 by_cases he:p.2.2=0
 · rw [fl he]
   dsimp only
   rw [he]
 · rw [cF he]
   exact sq he
theorem ui {b l:RL}{o:Int}{w:Msg}:ea Q (cV b ([.int .i64 0]::l) o 0 w)=
 thn (ae b o 0) fun v o'=>thn (ae b o' 0) fun v' o''=>ea Q (cV b l o'' 0 {w with p:=v,n:=v'}):=by
 rw [cV]
 have hf:nr [Cell.int .i64 0] 0=0:=rfl
 have h0:rdF b o 0 w 0=({w with p:=(ae b o 0).1,n:=(ae b (ae b o 0).2.1 (ae b o 0).2.2).1},(ae b (ae b o 0).2.1 (ae b o 0).2.2).2):=rfl
 rw [hf,h0]
 by_cases he:(ae b o 0).2.2=0
 · rw [fl he,he]
   by_cases he2:(ae b (ae b o 0).2.1 0).2.2=0
   · rw [fl he2]
     dsimp only
     rw [he2]
   · rw [cF he2]
     exact sq he2
 · rw [cF he]
   have:=iM (b:=b) (o:=(ae b o 0).2.1) he
   rw [sq (show(ae b (ae b o 0).2.1 (ae b o 0).2.2).2.2≠0 by rw [this];exact he),this]
def aW (b:RL)(o:Int):Int×Int×Int:=bx 0 am b o 0
def BM (b:RL)(o:Int):RL×Int×Int:=bx [] ce b o 0
theorem eg {α:Type}{z:α}{d:RL→α×Int×Int}{b:RL}{o:Int}:bx z d b o 0=((d (b.drop o.toNat)).1,o+(d (b.drop o.toNat)).2.1,(d (b.drop o.toNat)).2.2):=if_neg (nn rfl)
theorem fi {b:RL}{o:Int}(K:Int→Int→Msg×Int×Int):thn (ae b o 0) K=thn (aW b o) K:=by
 unfold aW
 refine yT K ?_ ?_
 · unfold ae am
   rw [eg,eg]
   dsimp only
   by_cases h1:(aD (b.drop o.toNat)).2.2=0
   · rw [if_neg (nn h1),if_neg (nn h1)]
     by_cases h2:2147483647<(aD (b.drop o.toNat)).1
     · rw [if_pos h2,if_pos h2]
     · rw [if_neg h2,if_neg h2]
   · rw [if_pos (show _≠_ from h1),if_pos (show _≠_ from h1)]
 · intro h
   rw [eg]at h
   unfold ae
   rw [eg,eg]
   unfold am at h⊢
   dsimp only at h⊢
   by_cases h1:(aD (b.drop o.toNat)).2.2=0
   · rw [if_neg (nn h1)]at h
     rw [if_neg (nn h1),if_neg (nn h1)]
     by_cases h2:2147483647<(aD (b.drop o.toNat)).1
     · rw [if_pos h2]at h;cases h
     · rw [if_neg h2,if_neg h2]
   · rw [if_pos (show _≠_ from h1)]at h
     exact absurd h h1
theorem gk {b:RL}{o:Int}(h:aT b o=true)(he:(aW b o).2.2=0):aT b (aW b o).2.1=true∧o≤(aW b o).2.1∧0≤(aW b o).1∧(aW b o).1≤2147483647:=by
 obtain⟨h1,h2,h3⟩:=cA h
 unfold aW at he⊢
 rw [eg]at he⊢
 obtain⟨q1,q2,_⟩:=jM Fd h1 h2 h3 he
 have:=cr (aR (au h1 o.toNat)).1 he
 exact⟨dK h1 (by dsimp only;omega) q2,by dsimp only;omega,this.2.2⟩
theorem oA {b:RL}{o:Int}(h:aT b o=true)(K:RL→Int→Msg×Int×Int):thn (rst b o 0) K=thn (BM b o) K:=by
 obtain⟨h1,h2,h3⟩:=cA h
 -- the loops
 have loop:∀(d:Nat) (a:Int) (acc:RL),0≤a→o+a≤b.length→(lU b d (o+a) 0 acc).2.2=(fA (b.drop o.toNat) d a acc).2.2∧((fA (b.drop o.toNat) d a acc).2.2=0→lU b d (o+a) 0 acc=((fA (b.drop o.toNat) d a acc).1,o+(fA (b.drop o.toNat) d a acc).2.1,0)):=by
  intro d
  induction d with
  | zero=>intro a acc _ _;exact⟨rfl,fun _=>rfl⟩
  | succ d ih=>
   intro a acc ha hb
   have hdd:(b.drop o.toNat).drop a.toNat=b.drop (o+a).toNat:=by rw [List.drop_drop];congr 1;omega
   have hbd:=kI (au h1 (o+a).toNat)
   rw [List.length_drop]at hbd
   rw [lU,fA,if_neg (nn rfl),hdd]
   have hr:dR b (o+a) 0=(((bY (b.drop (o+a).toNat)).1,(bY (b.drop (o+a).toNat)).2.1,(bY (b.drop (o+a).toNat)).2.2.1,(bY (b.drop (o+a).toNat)).2.2.2.1),o+a+(bY (b.drop (o+a).toNat)).2.2.2.2.1,(bY (b.drop (o+a).toNat)).2.2.2.2.2):=eg
   rw [hr]
   by_cases he:(bY (b.drop (o+a).toNat)).2.2.2.2.2=0
   · rw [if_neg (nn he),he]
     have:=ih (a+(bY (b.drop (o+a).toNat)).2.2.2.2.1) (acc++ [mkU (bY (b.drop (o+a).toNat))]) (by omega) (by omega)
     rw [←Int.add_assoc]at this
     exact this
   · rw [if_pos (show _≠_ from he)]
     dsimp only
     rw [yg b _ _ _ _ he]
     exact⟨rfl,fun h=>absurd h he⟩
 have hn:=fi (b:=b) (o:=o) (fun v o'=>(cW,o',v))
 unfold thn aW at hn
 rw [eg]at hn
 unfold BM
 rw [eg]
 unfold rst
 by_cases he:(am (b.drop o.toNat)).2.2=0
 · rw [if_neg (nn he)]at hn
   have he':(ae b o 0).2.2=0:=by
    by_cases hc:(ae b o 0).2.2=0
    · exact hc
    · rw [if_pos (show _≠_ from hc)]at hn
      injection hn with _ hn
      injection hn with hn1 hn2
      have hb:=cr (aR (au h1 o.toNat)).1 he
      dsimp only at hn1
      omega
   rw [if_neg (nn he')]at hn
   injection hn with _ hn
   injection hn with hn1 hn2
   dsimp only at hn1 hn2
   have hb:=cr (aR (au h1 o.toNat)).1 he
   rw [List.length_drop]at hb
   rw [hn1,hn2,he']
   by_cases h48:48<(am (b.drop o.toNat)).1
   · have hf:bN (decide (48<(am (b.drop o.toNat)).1)) 3 0=3:=if_pos ⟨decide_eq_true h48,rfl⟩
     have hd:ce (b.drop o.toNat)=([],0,3):=by unfold ce;rw [if_neg (nn he),if_pos h48]
     rw [hf,hd]
     have:=yg b (am (b.drop o.toNat)).1.toNat (o+(am (b.drop o.toNat)).2.1) 3 [] (by decide)
     rw [cF (by rw [this];decide),cF (by show(3:Int)≠0;decide),this]
   · have hf:bN (decide (48<(am (b.drop o.toNat)).1)) 3 0=0:=if_neg fun g=>h48 (of_decide_eq_true g.1)
     have hd:ce (b.drop o.toNat)=fA (b.drop o.toNat) (am (b.drop o.toNat)).1.toNat (am (b.drop o.toNat)).2.1 []:=by unfold ce;rw [if_neg (nn he),if_neg h48]
     rw [hf,hd]
     obtain⟨l1,l2⟩:=loop (am (b.drop o.toNat)).1.toNat (am (b.drop o.toNat)).2.1 [] (by omega) (by omega)
     refine yT K l1 fun h=> ?_
     rw [l2 h]
     dsimp only at h
     rw [h]
 · have he':(ae b o 0).2.2=(am (b.drop o.toNat)).2.2:=by
    rw [if_pos (show _≠_ from he)]at hn
    by_cases hc:(ae b o 0).2.2=0
    · rw [if_neg (nn hc)]at hn
      unfold ae at hc
      rw [eg]at hc
      unfold am at he
      dsimp only at hc
      by_cases g1:(aD (b.drop o.toNat)).2.2=0
      · rw [if_neg (nn g1)]at hc he
        by_cases g2:2147483647<(aD (b.drop o.toNat)).1
        · rw [if_pos g2]at hc;cases hc
        · rw [if_neg g2]at he;exact absurd g1 he
      · rw [if_pos (show _≠_ from g1)]at hc
        exact absurd hc g1
    · rw [if_pos (show _≠_ from hc)]at hn
      injection hn with _ hn
      injection hn
   have hd:ce (b.drop o.toNat)=([],0,(am (b.drop o.toNat)).2.2):=by unfold ce;rw [if_pos (show _≠_ from he)]
   rw [hd,he',pf he]
   have:=yg b (ae b o 0).1.toNat (ae b o 0).2.1 (am (b.drop o.toNat)).2.2 [] he
   rw [cF (by rw [this];exact he),this]
   exact(cF (p:=(([]:RL),o+0,(am (b.drop o.toNat)).2.2)) he).symm
def cD (b:RL):Nat→Int→RL→(RL→Int→Msg×Int×Int)→Msg×Int×Int
 | 0,o,acc,K=>K acc o
 | k+1,o,acc,K=>thn (aW b o) fun v o'=>cD b k o' (acc++ [[.int .i64 v]]) K
theorem mw {b:RL}{o:Int}(hb:aI b=true)(ho:0≤o)(K:RL→Int→Msg×Int×Int):∀(k:Nat) (a:Int) (acc:RL),0≤a→o+a≤b.length→
 thn ((cj (b.drop o.toNat) k a acc).1,o+(cj (b.drop o.toNat) k a acc).2.1,(cj (b.drop o.toNat) k a acc).2.2) K=cD b k (o+a) acc K
 | 0,a,acc,_,_=>rfl
 | k+1,a,acc,ha,hl=>by
  have hdd:(b.drop o.toNat).drop a.toNat=b.drop (o+a).toNat:=by rw [List.drop_drop];congr 1;omega
  rw [cj,cD,hdd]
  unfold aW
  rw [eg]
  by_cases he:(am (b.drop (o+a).toNat)).2.2=0
  · obtain⟨q1,q2,_⟩:=jM Fd hb (by omega) hl he
    rw [if_neg (nn he),xD (v:=(am (b.drop (o+a).toNat)).1) (o:=o+a+(am (b.drop (o+a).toNat)).2.1) he]
    have:=mw hb ho K k (a+(am (b.drop (o+a).toNat)).2.1) (acc++ [[.int .i64 (am (b.drop (o+a).toNat)).1]]) (by omega) (by omega)
    rw [←Int.add_assoc]at this
    exact this
  · rw [if_pos (show _≠_ from he)]
    exact(oO (v:=([]:RL)) (o:=o+0) he).trans (oO (v:=(am (b.drop (o+a).toNat)).1) (o:=o+a+(am (b.drop (o+a).toNat)).2.1) he).symm
theorem vN {b:RL}{K K':RL→Int→Msg×Int×Int}:∀(k:Nat) (o:Int) (acc:RL),(∀l o',acc<+:l→K l o'=K' l o')→cD b k o acc K=cD b k o acc K'
 | 0,o,acc,h=>h _ _ (List.prefix_refl _)
 | k+1,o,acc,h=>by
  rw [cD,cD]
  by_cases he:(aW b o).2.2=0
  · rw [fl he,fl he]
    exact vN k _ _ fun l o' hp=>h l o' ((List.prefix_append _ _).trans hp)
  · rw [cF he,cF he]
theorem qB {b:RL}{o:Int}:(ae b o 0).2.2=(aW b o).2.2∧((aW b o).2.2=0→ae b o 0=aW b o):=by
 constructor
 · have:=fi (b:=b) (o:=o) (fun v o'=>(cW,0,0))
   unfold thn at this
   by_cases h1:(ae b o 0).2.2=0<;>by_cases h2:(aW b o).2.2=0
   · rw [h1,h2]
   · rw [if_neg (nn h1),if_pos (show _≠_ from h2)]at this
     injection this with _ this
     injection this with _ this
     exact absurd this.symm h2
   · rw [if_pos (show _≠_ from h1),if_neg (nn h2)]at this
     injection this with _ this
     injection this with _ this
     exact absurd this h1
   · rw [if_pos (show _≠_ from h1),if_pos (show _≠_ from h2)]at this
     injection this with _ this
     injection this with _ this
 · intro h
   unfold aW at h⊢
   rw [eg]at h
   unfold ae
   rw [eg,eg]
   unfold am at h⊢
   dsimp only at h⊢
   by_cases h1:(aD (b.drop o.toNat)).2.2=0
   · rw [if_neg (nn h1)]at h
     rw [if_neg (nn h1),if_neg (nn h1)]
     by_cases h2:2147483647<(aD (b.drop o.toNat)).1
     · rw [if_pos h2]at h;cases h
     · rw [if_neg h2,if_neg h2]
   · rw [if_pos (show _≠_ from h1)]at h
     exact absurd h h1
theorem wM {acc l:RL}{r:List Cell}{i:Nat}(hi:i<acc.length)(h:acc<+:l):rA l i=rA acc i:=by
 obtain⟨t,rfl⟩:=h
 rw [cg hi,cg (by simp;omega)]
 exact List.getElem_append_left hi
theorem wt {b:RL}(K:RL→Int→Msg×Int×Int):∀(d i:Nat) (o:Int) (acc2 accv:RL),acc2.length=2*i→
 thn (m4 b d o 0 accv) K=cD b (2*d) o acc2 fun l o'=>K (accv++m9 l d i) o'
 | 0,i,o,acc2,accv,_=>by
  show thn (accv,o,0) K=K (accv++ []) o
  rw [List.append_nil]
  exact fl rfl
 | d+1,i,o,acc2,accv,hl=>by
  rw [m4,if_neg (nn rfl),show 2*(d+1)=2*d+1+1 by omega,cD]
  obtain⟨m1,m2⟩:=qB (b:=b) (o:=o)
  by_cases he:(aW b o).2.2=0
  · rw [fl he,m2 he,he,cD]
    obtain⟨n1,n2⟩:=qB (b:=b) (o:=(aW b o).2.1)
    by_cases he2:(aW b (aW b o).2.1).2.2=0
    · rw [fl he2,n2 he2,he2]
      rw [wt K d (i+1) _ (acc2++ [[.int .i64 (aW b o).1]]++ [[.int .i64 (aW b (aW b o).2.1).1]]) _ (by simp;omega)]
      refine vN _ _ _ fun l o' hp=> ?_
      rw [m9]
      have e1:rA l (2*i)=[.int .i64 (aW b o).1]:=by
       rw [wM (r:=[]) (by simp;omega) hp,cg (by simp;omega)]
       rw [List.getElem_append_left (by simp;omega),List.getElem_append_right (by omega)]
       simp [hl]
      have e2:rA l (2*i+1)=[.int .i64 (aW b (aW b o).2.1).1]:=by
       rw [wM (r:=[]) (by simp;omega) hp,cg (by simp;omega)]
       rw [List.getElem_append_right (by simp;omega)]
       simp [hl]
      rw [e1,e2]
      show K (accv++ [ent _ _]++_) o'=K (accv++ent _ _::_) o'
      rw [List.append_assoc]
      rfl
    · rw [cF he2]
      have hee:(ae b (aW b o).2.1 0).2.2≠0:=by rw [n1];exact he2
      have:=sX b d (ae b (aW b o).2.1 0).2.1 _ (accv++ [ent (aW b o).1 (ae b (aW b o).2.1 0).1]) hee
      rw [cF (by rw [this];exact hee),this,n1]
  · rw [cF he]
    have he0:(ae b o 0).2.2≠0:=by rw [m1];exact he
    have h2:=iM (b:=b) (o:=(ae b o 0).2.1) he0
    have hee:(ae b (ae b o 0).2.1 (ae b o 0).2.2).2.2≠0:=by rw [h2];exact he0
    have:=sX b d (ae b (ae b o 0).2.1 (ae b o 0).2.2).2.1 _ (accv++ [ent (ae b o 0).1 (ae b (ae b o 0).2.1 (ae b o 0).2.2).1]) hee
    rw [cF (by rw [this];exact hee),this,h2,m1]
theorem vS {b:RL}{o:Int}(K:RL→Int→Msg×Int×Int):thn (rvc b o 0) K=
 thn (aW b o) fun c o1=>if 100<c then(cW,0,3)else cD b (2*c.toNat) o1 [] fun l o2=>K (m9 l c.toNat 0) o2:=by
 obtain⟨m1,m2⟩:=qB (b:=b) (o:=o)
 unfold rvc
 by_cases he:(aW b o).2.2=0
 · rw [fl he,m2 he,he]
   by_cases h1:100<(aW b o).1
   · have hf:bN (decide (100<(aW b o).1)) 3 0=3:=if_pos ⟨decide_eq_true h1,rfl⟩
     rw [if_pos h1,hf]
     have:=sX b (aW b o).1.toNat (aW b o).2.1 3 [] (by decide)
     rw [cF (by rw [this];decide),this]
   · have hf:bN (decide (100<(aW b o).1)) 3 0=0:=if_neg fun g=>h1 (of_decide_eq_true g.1)
     rw [if_neg h1,hf,wt K _ 0 _ [] [] rfl]
     rfl
 · rw [cF he]
   have he0:(ae b o 0).2.2≠0:=by rw [m1];exact he
   have hf:bN (decide (100<(ae b o 0).1)) 3 (ae b o 0).2.2=(ae b o 0).2.2:=pf he0
   rw [hf]
   have:=sX b (ae b o 0).1.toNat (ae b o 0).2.1 _ [] he0
   rw [cF (by rw [this];exact he0),this,m1]
end Go.Proofs.YtejimgikldiajaaGreat
namespace Go.Proofs.YtejimgikldiajaaGreat
open Go.Abs
variable {Q:Msg→Int→Msg×Int×Int}
theorem bR {α:Type}{p:α×Int×Int}{K K':α→Int→Msg×Int×Int}(h:p.2.2=0→K p.1 p.2.1=K' p.1 p.2.1):thn p K=thn p K':=by
 by_cases he:p.2.2=0
 · rw [fl he,fl he,h he]
 · rw [cF he,cF he]
theorem eA {α:Type}{z:α}{d:RL→α×Int×Int}{b:RL}{o:Int}(K:α→Int→Msg×Int×Int):
 thn (bx z d b o 0) K=if(d (b.drop o.toNat)).2.2≠0 then(cW,0,(d (b.drop o.toNat)).2.2)else K (d (b.drop o.toNat)).1 (o+(d (b.drop o.toNat)).2.1):=by
 rw [eg]
 rfl
theorem fD {e o:Int}{w:Msg}{X:Msg×Int×Int}:ea Q (dX o (if e≠0 then(w,0,e)else X))=if e≠0 then(cW,0,e)else ea Q (dX o X):=by
 by_cases h:e=0
 · rw [if_neg (nn h),if_neg (nn h)]
 · rw [if_pos h,if_pos h]
   exact oH (p:=(w,o+0,e)) h
theorem lP {b:RL}{o a:Int}(h0:0≤o)(h1:0≤a):(b.drop o.toNat).drop a.toNat=b.drop (o+a).toNat:=by
 rw [List.drop_drop]
 congr 1
 omega
def ew (b:RL)(o:Int):(RL×RL)×Int×Int:=bx ([],[]) aM b o 0
def fq (b:RL)(o:Int):Bool×Int×Int:=bx false aQ b o 0
def xW (b:RL)(o:Int):RL×Int×Int:=bx [] aX b o 0
theorem ia {α:Type}{z:α}{d:RL→α×Int×Int}(hd:CI d){b:RL}{o:Int}(h:aT b o=true)(he:(d (b.drop o.toNat)).2.2=0):
 aT b (o+(d (b.drop o.toNat)).2.1)=true∧0≤(d (b.drop o.toNat)).2.1:=by
 obtain⟨h1,h2,h3⟩:=cA h
 obtain⟨q1,q2,_⟩:=jM hd h1 h2 h3 he
 exact⟨dK h1 (by omega) q2,q1⟩
def pX (Q:Msg→Int→Msg×Int×Int)(b:RL)(o:Int)(w:Msg):Msg×Int×Int:=
 thn (fq b o) fun hh o1=>
  if hh=true then thn (ew b o1) fun c o2=>thn (ew b o2) fun d o3=>ea Q ({w with h:=hh,bf:=c.1,bt:=c.2,ef:=d.1,et:=d.2},o3,0)
  else thn (ew b o1) fun d o2=>ea Q ({w with h:=hh,ef:=d.1,et:=d.2},o2,0)
theorem uo (b:RL)(o:Int)(w:Msg):ea Q (cV b [[.int .i64 8],[.int .i64 9],[.int .i64 10]] o 0 w)=pX Q b o w:=by
 rw [bG (fq b o) (fun v=>{w with h:=v}) rfl]
 unfold pX
 refine bR fun _=> ?_
 by_cases hh:(fq b o).1=true
 · rw [if_pos hh]
   rw [bG (ew b (fq b o).2.1) (fun v=>{w with h:=(fq b o).1,bf:=v.1,bt:=v.2}) (by
    show(if(fq b o).1=true then _ else _)=_
    rw [if_pos hh];rfl)]
   refine bR fun _=> ?_
   rw [bG (ew b _) (fun v=>{w with h:=(fq b o).1,bf:=(ew b (fq b o).2.1).1.1,bt:=(ew b (fq b o).2.1).1.2,ef:=v.1,et:=v.2}) rfl]
   rfl
 · rw [if_neg hh]
   rw [cV]
   have:rdF b (fq b o).2.1 0 {w with h:=(fq b o).1} (nr [Cell.int .i64 9] 0)=({w with h:=(fq b o).1},(fq b o).2.1,0):=by
    show(if(fq b o).1=true then _ else _)=_
    rw [if_neg hh]
   rw [this]
   dsimp only
   rw [bG (ew b _) (fun v=>{w with h:=(fq b o).1,ef:=v.1,et:=v.2}) rfl]
   rfl
theorem vJ {b:RL}{o:Int}(h:aT b o=true)(w:Msg):ea Q (dX o (rbW w (b.drop o.toNat)))=pX Q b o w:=by
 obtain⟨h1,h2,h3⟩:=cA h
 unfold rbW pX fq ew
 rw [fD,eA]
 by_cases he:(aQ (b.drop o.toNat)).2.2=0
 rotate_left
 · rw [if_pos he,if_pos he]
 rw [if_neg (nn he),if_neg (nn he)]
 obtain⟨ho,hp⟩:=ia (z:=false) NY h he
 by_cases hh:(aQ (b.drop o.toNat)).1=true
 · rw [if_pos hh,if_pos hh,fD,eA,lP h2 hp]
   by_cases he2:(aM (b.drop (o+(aQ (b.drop o.toNat)).2.1).toNat)).2.2=0
   rotate_left
   · rw [if_pos he2,if_pos he2]
   rw [if_neg (nn he2),if_neg (nn he2)]
   obtain⟨ho2,hp2⟩:=ia (z:=([],[])) zz ho he2
   rw [fD,eA,lP h2 (by omega),←Int.add_assoc o]
   by_cases he3:(aM (b.drop (o+(aQ (b.drop o.toNat)).2.1+(aM (b.drop (o+(aQ (b.drop o.toNat)).2.1).toNat)).2.1).toNat)).2.2=0
   rotate_left
   · rw [if_pos he3,if_pos he3]
   rw [if_neg (nn he3),if_neg (nn he3)]
   exact congrArg (fun z=>ea Q (_,z,(0:Int))) (by dsimp only;omega)
 · rw [if_neg hh,if_neg hh,fD,eA,lP h2 hp]
   by_cases he2:(aM (b.drop (o+(aQ (b.drop o.toNat)).2.1).toNat)).2.2=0
   rotate_left
   · rw [if_pos he2,if_pos he2]
   rw [if_neg (nn he2),if_neg (nn he2)]
   exact congrArg (fun z=>ea Q (_,z,(0:Int))) (by dsimp only;omega)
def na (Q:Msg→Int→Msg×Int×Int)(b:RL)(o:Int)(w:Msg):Msg×Int×Int:=
 thn (xW b o) fun g o1=>thn (BM b o1) fun u o2=>if w.k=1 then ea Q ({w with g:=g,u:=u},o2,0)else pX Q b o2 {w with g:=g,u:=u}
theorem FB {b:RL}{o a:Int}(h:aT b o=true)(ha:aT b (o+a)=true)(h0:0≤a)(w:Msg):ea Q (dX o (rxB w (b.drop o.toNat) a))=na Q b (o+a) w:=by
 obtain⟨h1,h2,h3⟩:=cA h
 unfold rxB na xW BM
 dsimp only
 rw [fD,eA,lP h2 h0]
 by_cases he:(aX (b.drop (o+a).toNat)).2.2=0
 rotate_left
 · rw [if_pos he,if_pos he]
 rw [if_neg (nn he),if_neg (nn he)]
 obtain⟨ho,hp⟩:=ia (z:=([]:RL)) PO ha he
 rw [fD,eA,lP h2 (by omega),←Int.add_assoc o a]
 by_cases he2:(ce (b.drop (o+a+(aX (b.drop (o+a).toNat)).2.1).toNat)).2.2=0
 rotate_left
 · rw [if_pos he2,if_pos he2]
 rw [if_neg (nn he2),if_neg (nn he2)]
 obtain⟨ho2,hp2⟩:=ia (z:=([]:RL)) JV ho he2
 by_cases hk:w.k=1
 · rw [if_pos hk,if_pos hk]
   exact congrArg (fun z=>ea Q (_,z,(0:Int))) (by dsimp only;omega)
 · rw [if_neg hk,if_neg hk,lP h2 (by omega)]
   rw [←vJ ho2]
   generalize hA:aX (b.drop (o+a).toNat)=A at*
   generalize hB:ce (b.drop (o+a+A.2.1).toNat)=B at*
   rw [show o+(a+A.2.1+B.2.1)=o+a+A.2.1+B.2.1 by omega]
   unfold dX
   dsimp only
   congr 2
   rw [←Int.add_assoc]
   congr 1
   omega
theorem BE (b:RL)(o:Int)(w:Msg)(hk:w.k=1)(h:aT b o=true):ea Q (cV b [[.int .i64 0],[.int .i64 1],[.int .i64 2],[.int .i64 3],[.int .i64 4]] o 0 w)=
 cD b 4 o [] fun l o1=>na Q b o1 {w with p:=nr (rA l 0) 0,n:=nr (rA l 1) 0,r:=nr (rA l 2) 0,o:=nr (rA l 3) 0}:=by
 rw [ui,fi,cD]
 refine bR fun e1=> ?_
 obtain⟨k1,_⟩:=gk h e1
 rw [fi,cD]
 refine bR fun e2=> ?_
 obtain⟨k2,_⟩:=gk k1 e2
 rw [bG (ae b _ 0) (fun v=>{w with p:=(aW b o).1,n:=(aW b (aW b o).2.1).1,r:=v}) rfl,fi,cD]
 refine bR fun e3=> ?_
 obtain⟨k3,_⟩:=gk k2 e3
 rw [bG (ae b _ 0) (fun v=>{w with p:=(aW b o).1,n:=(aW b (aW b o).2.1).1,r:=(aW b (aW b (aW b o).2.1).2.1).1,o:=v}) rfl,fi,cD]
 refine bR fun e4=> ?_
 obtain⟨k4,_⟩:=gk k3 e4
 rw [bG (xW b _) (fun v=>{w with p:=(aW b o).1,n:=(aW b (aW b o).2.1).1,r:=(aW b (aW b (aW b o).2.1).2.1).1,o:=(aW b (aW b (aW b (aW b o).2.1).2.1).2.1).1,g:=v}) rfl]
 show _=na Q b _ {w with p:=(aW b o).1,n:=(aW b (aW b o).2.1).1,r:=(aW b (aW b (aW b o).2.1).2.1).1,o:=(aW b (aW b (aW b (aW b o).2.1).2.1).2.1).1}
 unfold na
 refine bR fun e5=> ?_
 have k5:aT b (xW b (aW b (aW b (aW b (aW b o).2.1).2.1).2.1).2.1).2.1=true:=eB In k4
 rw [bG (rst b _ 0) (fun v=>{w with p:=(aW b o).1,n:=(aW b (aW b o).2.1).1,r:=(aW b (aW b (aW b o).2.1).2.1).1,o:=(aW b (aW b (aW b (aW b o).2.1).2.1).2.1).1,g:=(xW b (aW b (aW b (aW b (aW b o).2.1).2.1).2.1).2.1).1,u:=v}) rfl]
 rw [oA k5]
 refine bR fun e6=> ?_
 rw [if_pos (show _=_ from hk)]
 rfl
theorem Cc (b:RL)(o:Int)(w:Msg)(hk:w.k=2)(h:aT b o=true):ea Q (cV b [[.int .i64 0],[.int .i64 1],[.int .i64 3],[.int .i64 4],[.int .i64 8],[.int .i64 9],[.int .i64 10]] o 0 w)=
 cD b 3 o [] fun l o1=>na Q b o1 {w with p:=nr (rA l 0) 0,n:=nr (rA l 1) 0,r:=nr (rA l 2) 0}:=by
 rw [ui,fi,cD]
 refine bR fun e1=> ?_
 obtain⟨k1,_⟩:=gk h e1
 rw [fi,cD]
 refine bR fun e2=> ?_
 obtain⟨k2,_⟩:=gk k1 e2
 rw [bG (ae b _ 0) (fun v=>{w with p:=(aW b o).1,n:=(aW b (aW b o).2.1).1,r:=v}) rfl,fi,cD]
 refine bR fun e3=> ?_
 obtain⟨k4,_⟩:=gk k2 e3
 rw [bG (xW b _) (fun v=>{w with p:=(aW b o).1,n:=(aW b (aW b o).2.1).1,r:=(aW b (aW b (aW b o).2.1).2.1).1,g:=v}) rfl]
 show _=na Q b _ {w with p:=(aW b o).1,n:=(aW b (aW b o).2.1).1,r:=(aW b (aW b (aW b o).2.1).2.1).1}
 unfold na
 refine bR fun e5=> ?_
 have k5:aT b (xW b (aW b (aW b (aW b o).2.1).2.1).2.1).2.1=true:=eB In k4
 rw [bG (rst b _ 0) (fun v=>{w with p:=(aW b o).1,n:=(aW b (aW b o).2.1).1,r:=(aW b (aW b (aW b o).2.1).2.1).1,g:=(xW b (aW b (aW b (aW b o).2.1).2.1).2.1).1,u:=v}) rfl]
 rw [oA k5]
 refine bR fun e6=> ?_
 rw [if_neg (show¬_=_ by rw [hk];decide),uo]
theorem AG {b:RL}{o:Int}(h:aT b o=true)(w:Msg):ea Q (dX o (rxW w (b.drop o.toNat)))=
 cD b (if w.k=1 then 4 else 3:Int).toNat o [] fun l o1=>na Q b o1 {w with p:=nr (rA l 0) 0,n:=nr (rA l 1) 0,r:=nr (rA l 2) 0,o:=if w.k=1 then nr (rA l 3) 0 else w.o}:=by
 obtain⟨h1,h2,h3⟩:=cA h
 have hc:=mw h1 h2 (fun l o1=>na Q b o1 {w with p:=nr (rA l 0) 0,n:=nr (rA l 1) 0,r:=nr (rA l 2) 0,o:=if w.k=1 then nr (rA l 3) 0 else w.o}) (if w.k=1 then 4 else 3:Int).toNat 0 [] (by omega) (by omega)
 rw [Int.add_zero]at hc
 rw [←hc]
 unfold rxW
 dsimp only
 rw [fD]
 unfold ai
 by_cases he:(cj (b.drop o.toNat) (if w.k=1 then 4 else 3:Int).toNat 0 []).2.2=0
 · have hr:=lj (b.drop o.toNat) (au h1 o.toNat) (if w.k=1 then 4 else 3:Int).toNat 0 [] (by omega) (by omega) he
   rw [List.length_drop]at hr
   rw [if_neg (nn he),xD he]
   exact FB h (dK h1 (by omega) (by omega)) hr.1 _
 · rw [if_pos he,oO he]
end Go.Proofs.YtejimgikldiajaaGreat
namespace Go.Proofs.YtejimgikldiajaaGreat
open Go.Abs
variable {Q:Msg→Int→Msg×Int×Int}
def sv (Q:Msg→Int→Msg×Int×Int)(b:RL)(o:Int)(w:Msg):Msg×Int×Int:=
 thn (ew b o) fun c o1=>
  if w.k=4 then thn (aW b o1) fun n o2=>if 100<n then(cW,0,3)else cD b (2*n.toNat) o2 [] fun l o3=>ea Q ({w with cf:=c.1,ct:=c.2,v:=m9 l n.toNat 0},o3,0)
  else if w.k=5 then thn (BM b o1) fun u o2=>thn (fq b o2) fun q o3=>pX Q b o3 {w with cf:=c.1,ct:=c.2,u:=u,m:=q}
  else ea Q ({w with cf:=c.1,ct:=c.2},o1,0)
theorem Fh (b:RL)(o:Int)(w:Msg)(h:aT b o=true)(hk:w.k=3∨w.k=4∨w.k=5∨w.k=6∨w.k=7∨w.k=8):ea Q (cV b (be w.k) o 0 w)=sv Q b o w:=by
 have one:(w.k=3∨w.k=6∨w.k=7∨w.k=8)→be w.k=[[.int .i64 5]]→ea Q (cV b (be w.k) o 0 w)=sv Q b o w:=by
  intro hk hu
  rw [hu,bG (ew b o) (fun v=>{w with cf:=v.1,ct:=v.2}) rfl]
  unfold sv
  refine bR fun _=> ?_
  rw [if_neg (by omega),if_neg (by omega)]
  rfl
 rcases hk with hk | hk | hk | hk | hk | hk
 · exact one (by omega) (by rw [hk];rfl)
 · have hu:be w.k=[[.int .i64 5],[.int .i64 6]]:=by rw [hk];rfl
   rw [hu,bG (ew b o) (fun v=>{w with cf:=v.1,ct:=v.2}) rfl]
   unfold sv
   refine bR fun he=> ?_
   rw [if_pos hk,bG (rvc b _ 0) (fun v=>{w with cf:=(ew b o).1.1,ct:=(ew b o).1.2,v:=v}) rfl,vS]
   rfl
 · have hu:be w.k=[[.int .i64 5],[.int .i64 4],[.int .i64 7],[.int .i64 8],[.int .i64 9],[.int .i64 10]]:=by rw [hk];rfl
   rw [hu,bG (ew b o) (fun v=>{w with cf:=v.1,ct:=v.2}) rfl]
   unfold sv
   refine bR fun he=> ?_
   have k1:aT b (ew b o).2.1=true:=eB Ch h
   rw [if_neg (by omega),if_pos hk,bG (rst b _ 0) (fun v=>{w with cf:=(ew b o).1.1,ct:=(ew b o).1.2,u:=v}) rfl,oA k1]
   refine bR fun he2=> ?_
   rw [bG (fq b _) (fun v=>{w with cf:=(ew b o).1.1,ct:=(ew b o).1.2,u:=(BM b (ew b o).2.1).1,m:=v}) rfl]
   refine bR fun he3=> ?_
   rw [uo]
 · exact one (by omega) (by rw [hk];rfl)
 · exact one (by omega) (by rw [hk];rfl)
 · exact one (by omega) (by rw [hk];rfl)
theorem Hb {b:RL}{o:Int}(h:aT b o=true)(w:Msg)(hv:w.v=[]):ea Q (dX o (rrW w (b.drop o.toNat)))=sv Q b o w:=by
 obtain⟨h1,h2,h3⟩:=cA h
 unfold rrW sv ew
 dsimp only
 rw [fD,eA]
 by_cases he:(aM (b.drop o.toNat)).2.2=0
 rotate_left
 · rw [if_pos he,if_pos he]
 rw [if_neg (nn he),if_neg (nn he)]
 obtain⟨ho,hp⟩:=ia (z:=(([],[]):RL×RL)) zz h he
 generalize hC:aM (b.drop o.toNat)=C at*
 by_cases k4:w.k=4
 · rw [if_pos k4,if_pos k4]
   unfold rhW aW
   dsimp only
   rw [fD,eA,lP h2 hp]
   by_cases he2:(am (b.drop (o+C.2.1).toNat)).2.2=0
   rotate_left
   · rw [if_pos he2,if_pos he2]
   rw [if_neg (nn he2),if_neg (nn he2)]
   obtain⟨ho2,hp2⟩:=ia (z:=(0:Int)) Fd ho he2
   have hb:=cr (aR (au h1 (o+C.2.1).toNat)).1 he2
   by_cases h100:100<(am (b.drop (o+C.2.1).toNat)).1
   · rw [if_pos h100,if_pos h100]
     exact oH (p:=({w with cf:=C.1.1,ct:=C.1.2},o+0,3)) (show(3:Int)≠0 by decide)
   rw [if_neg h100,if_neg h100,lP h2 (by omega),fD]
   generalize hD:am (b.drop (o+C.2.1).toNat)=D at*
   obtain⟨g1,g2,g3⟩:=cA ho2
   have hc:=mw h1 g2 (fun l o3=>ea Q ({w with cf:=C.1.1,ct:=C.1.2,v:=m9 l D.1.toNat 0},o3,0)) (2*D.1.toNat) 0 [] (by omega) (by omega)
   rw [Int.add_zero]at hc
   rw [←hc]
   unfold ai
   rw [show(2*D.1).toNat=2*D.1.toNat by omega,show o+(C.2.1+D.2.1)=o+C.2.1+D.2.1 by omega]
   by_cases he3:(cj (b.drop (o+C.2.1+D.2.1).toNat) (2*D.1.toNat) 0 []).2.2=0
   · rw [if_neg (nn he3),xD he3]
     unfold dX
     dsimp only
     rw [hv,List.nil_append]
     exact congrArg (fun z=>ea Q (_,z,(0:Int))) (by omega)
   · rw [if_pos he3,oO he3]
 rw [if_neg k4,if_neg k4]
 by_cases k5:w.k=5
 · rw [if_pos k5,if_pos k5]
   unfold rcW BM
   dsimp only
   rw [fD,eA,lP h2 hp]
   by_cases he2:(ce (b.drop (o+C.2.1).toNat)).2.2=0
   rotate_left
   · rw [if_pos he2,if_pos he2]
   rw [if_neg (nn he2),if_neg (nn he2)]
   obtain⟨ho2,hp2⟩:=ia (z:=([]:RL)) JV ho he2
   generalize hD:ce (b.drop (o+C.2.1).toNat)=D at*
   unfold fq
   rw [fD,eA,lP h2 (by omega),show o+(C.2.1+D.2.1)=o+C.2.1+D.2.1 by omega]
   by_cases he3:(aQ (b.drop (o+C.2.1+D.2.1).toNat)).2.2=0
   rotate_left
   · rw [if_pos he3,if_pos he3]
   rw [if_neg (nn he3),if_neg (nn he3)]
   obtain⟨ho3,hp3⟩:=ia (z:=false) NY ho2 he3
   generalize hE:aQ (b.drop (o+C.2.1+D.2.1).toNat)=E at*
   rw [lP h2 (by omega),show o+(C.2.1+D.2.1+E.2.1)=o+C.2.1+D.2.1+E.2.1 by omega,←vJ ho3]
   unfold dX
   dsimp only
   exact congrArg (fun z=>ea Q (_,z,_)) (by omega)
 · rw [if_neg k5,if_neg k5]
   rfl
theorem wH {b:RL}{o:Int}(h:aT b o=true)(w:Msg)(hk:1≤w.k∧w.k≤8)(hv:w.v=[]):ea Q (dX o (jI w (b.drop o.toNat)))=ea Q (cV b (be w.k) o 0 w):=by
 unfold jI
 by_cases k1:w.k=1
 · rw [if_pos (Or.inl k1),AG h]
   have hu:be w.k=[[.int .i64 0],[.int .i64 1],[.int .i64 2],[.int .i64 3],[.int .i64 4]]:=by rw [k1];rfl
   rw [hu,BE b o w k1 h]
   simp only [if_pos k1]
   rfl
 by_cases k2:w.k=2
 · rw [if_pos (Or.inr k2),AG h]
   have hu:be w.k=[[.int .i64 0],[.int .i64 1],[.int .i64 3],[.int .i64 4],[.int .i64 8],[.int .i64 9],[.int .i64 10]]:=by rw [k2];rfl
   rw [hu,Cc b o w k2 h]
   simp only [if_neg k1]
   rfl
 · rw [if_neg (by omega),Hb h w hv,Fh b o w h (by omega)]
def HP (Q:Msg→Int→Msg×Int×Int)(b:RL):Msg×Int×Int:=
 thn (aW b 0) fun k o1=>if k<1∨8<k then(cW,0,10)else thn (aW b o1) fun f o2=>thn (aW b o2) fun t o3=>ea Q (cV b (be k) o3 0 {cW with k:=k,f:=f,t:=t})
def EM (w:Msg)(o:Int):Msg×Int×Int:=if gM w≠0 then(cW,0,gM w)else(w,o,0)
theorem Eh (p:Msg×Int×Int):rK p=ea EM p:=by
 unfold rK ea thn EM
 by_cases h:p.2.2=0
 · rw [if_neg (nn h),if_neg (nn h)]
   by_cases hv:gM p.1=0
   · rw [if_neg (nn hv),if_neg (nn hv),←h]
   · rw [if_pos hv,if_pos hv]
 · rw [if_pos h,if_pos h]
theorem Aa {k:Int}(h:¬(k<1∨8<k)):(ca k).isNone=false:=by
 have:k=1∨k=2∨k=3∨k=4∨k=5∨k=6∨k=7∨k=8:=by omega
 rcases this with rfl | rfl | rfl | rfl | rfl | rfl | rfl | rfl<;>rfl
theorem Ag {b:RL}(hb:aI b=true):aL b=HP EM b:=by
 have h0:aT b 0=true:=dK hb (by omega) (by omega)
 unfold aL HP
 dsimp only
 rw [Eh]
 obtain⟨m1,m2⟩:=qB (b:=b) (o:=0)
 by_cases he:(aW b 0).2.2=0
 rotate_left
 · rw [cF he]
   have e1:(ae b 0 0).2.2≠0:=by rw [m1];exact he
   have e2:bN (ca (ae b 0 0).1).isNone 10 (ae b 0 0).2.2=(ae b 0 0).2.2:=pf e1
   rw [e2]
   have e3:=iM (b:=b) (o:=(ae b 0 0).2.1) e1
   have e4:=iM (b:=b) (o:=(ae b (ae b 0 0).2.1 (ae b 0 0).2.2).2.1) (show(ae b (ae b 0 0).2.1 (ae b 0 0).2.2).2.2≠0 by rw [e3];exact e1)
   rw [sq (show(ae b (ae b (ae b 0 0).2.1 (ae b 0 0).2.2).2.1 (ae b (ae b 0 0).2.1 (ae b 0 0).2.2).2.2).2.2≠0 by rw [e4,e3];exact e1),e4,e3,m1]
 rw [fl he,m2 he,he]
 obtain⟨k1,_⟩:=gk h0 he
 generalize aW b 0=A at*
 by_cases hk:A.1<1∨8<A.1
 · rw [if_pos hk,AQ hk]
   have e2:bN (none:Option (List Int)).isNone 10 0=10:=rfl
   rw [e2]
   have e3:=iM (b:=b) (o:=A.2.1) (e:=10) (by decide)
   have e4:=iM (b:=b) (o:=(ae b A.2.1 10).2.1) (show(ae b A.2.1 10).2.2≠0 by rw [e3];decide)
   rw [sq (show(ae b (ae b A.2.1 10).2.1 (ae b A.2.1 10).2.2).2.2≠0 by rw [e4,e3];decide),e4,e3]
 rw [if_neg hk,Aa hk]
 have e2:bN false 10 0=0:=rfl
 rw [e2]
 obtain⟨n1,n2⟩:=qB (b:=b) (o:=A.2.1)
 by_cases he2:(aW b A.2.1).2.2=0
 rotate_left
 · rw [cF he2]
   have e1:(ae b A.2.1 0).2.2≠0:=by rw [n1];exact he2
   have e3:=iM (b:=b) (o:=(ae b A.2.1 0).2.1) e1
   rw [sq (show(ae b (ae b A.2.1 0).2.1 (ae b A.2.1 0).2.2).2.2≠0 by rw [e3];exact e1),e3,n1]
 rw [fl he2,n2 he2,he2]
 obtain⟨k2,_⟩:=gk k1 he2
 generalize aW b A.2.1=B at*
 obtain⟨q1,q2⟩:=qB (b:=b) (o:=B.2.1)
 by_cases he3:(aW b B.2.1).2.2=0
 rotate_left
 · rw [cF he3]
   have e1:(ae b B.2.1 0).2.2≠0:=by rw [q1];exact he3
   rw [sq e1,q1]
 rw [fl he3,q2 he3,he3]
theorem Kq {b:RL}(hb:aI b=true):Es b=HP EM b:=by
 have h0:aT b 0=true:=dK hb (by omega) (by omega)
 unfold Es HP aW
 dsimp only
 rw [eA,show b.drop (0:Int).toNat=b from rfl,Int.zero_add]
 by_cases he:(am b).2.2=0
 rotate_left
 · rw [if_pos he,if_pos he]
 rw [if_neg (nn he),if_neg (nn he)]
 by_cases hk:(am b).1<1∨8<(am b).1
 · rw [if_pos hk,if_pos hk]
 rw [if_neg hk,if_neg hk]
 obtain⟨k1,hp⟩:=ia (z:=(0:Int)) (o:=0) Fd h0 he
 rw [show b.drop (0:Int).toNat=b from rfl,Int.zero_add]at k1
 rw [show b.drop (0:Int).toNat=b from rfl]at hp
 obtain⟨g1,g2,g3⟩:=cA k1
 generalize am b=A at*
 have hc:=mw g1 g2 (fun l o3=>ea EM (dX o3 (jI {cW with k:=A.1,f:=nr (rA l 0) 0,t:=nr (rA l 1) 0} (b.drop o3.toNat)))) 2 0 [] (by omega) (by omega)
 rw [Int.add_zero]at hc
 have hl:(if(ai (b.drop A.2.1.toNat) 2).2.2≠0 then(cW,0,(ai (b.drop A.2.1.toNat) 2).2.2)
  else rK (dX (A.2.1+(ai (b.drop A.2.1.toNat) 2).2.1) (jI {cW with k:=A.1,f:=nr (rA (ai (b.drop A.2.1.toNat) 2).1 0) 0,t:=nr (rA (ai (b.drop A.2.1.toNat) 2).1 1) 0} (b.drop (A.2.1+(ai (b.drop A.2.1.toNat) 2).2.1).toNat))))=
  cD b 2 A.2.1 [] (fun l o3=>ea EM (dX o3 (jI {cW with k:=A.1,f:=nr (rA l 0) 0,t:=nr (rA l 1) 0} (b.drop o3.toNat)))):=by
  rw [←hc,Eh]
  unfold ai
  rfl
 rw [hl,cD]
 unfold aW
 refine bR fun e2=> ?_
 obtain⟨k2,_⟩:=gk k1 e2
 show cD b 1 (aW b A.2.1).2.1 _ _=thn (aW b (aW b A.2.1).2.1) _
 rw [cD]
 refine bR fun e3=> ?_
 obtain⟨k3,_⟩:=gk k2 e3
 exact wH k3 {cW with k:=A.1,f:=(aW b A.2.1).1,t:=(aW b (aW b A.2.1).2.1).1} (by dsimp only;omega) rfl
theorem JA {b:RL}(hb:aI b=true):Es b=aL b:=(Kq hb).trans (Ag hb).symm
theorem sB {b:RL}:∀(l:RL) (o e:Int) (w:Msg),aT b o=true→okW w=true→aT b (cV b l o e w).2.1=true∧okW (cV b l o e w).1=true
 | [],o,e,w,h,hw=>⟨h,hw⟩
 | r::l,o,e,w,h,hw=>by
  have:=HS (f:=nr r 0) (e:=e) h hw
  rw [cV]
  exact sB l _ _ _ this.1 this.2
theorem Lq {b:RL}{o:Int}(h:aT b o=true)(w:Msg)(hk:1≤w.k∧w.k≤8)(hv:w.v=[])(hw:okW w=true)(he:(jI w (b.drop o.toNat)).2.2=0):
 aT b (o+(jI w (b.drop o.toNat)).2.1)=true∧okW (jI w (b.drop o.toNat)).1=true:=by
 have hs:=wH (Q:=fun w' o'=>(w',o',0)) h w hk hv
 have hr:=sB (be w.k) o 0 w h hw
 have h1:ea (fun w' o'=>(w',o',0)) (dX o (jI w (b.drop o.toNat)))=((jI w (b.drop o.toNat)).1,o+(jI w (b.drop o.toNat)).2.1,0):=fl (p:=dX o (jI w (b.drop o.toNat))) he
 rw [h1]at hs
 by_cases h2:(cV b (be w.k) o 0 w).2.2=0
 · have h3:ea (fun w' o'=>(w',o',0)) (cV b (be w.k) o 0 w)=((cV b (be w.k) o 0 w).1,(cV b (be w.k) o 0 w).2.1,0):=fl h2
   rw [h3]at hs
   injection hs with s1 s2
   injection s2 with s2 _
   rw [s1,s2]
   exact hr
 · rw [oH h2]at hs
   injection hs with _ s2
   injection s2 with _ s2
   exact absurd s2.symm h2
end Go.Proofs.YtejimgikldiajaaGreat
namespace Go.Proofs.YtejimgikldiajaaGreat
open Go.Abs
theorem C5 {x:RL}(hx:aI x=true):okW (aL x).1=true∧((aL x).2.2=0→aT x (aL x).2.1=true):=by
 have h0:aT x 0=true:=dK hx (by omega) (by omega)
 have h1:aT x (ae x 0 0).2.1=true:=cH h0
 unfold aL
 dsimp only
 have h2:=cH (e:=bN (ca (ae x 0 0).1).isNone 10 (ae x 0 0).2.2) h1
 have h3:=cH (e:=(ae x (ae x 0 0).2.1 (bN (ca (ae x 0 0).1).isNone 10 (ae x 0 0).2.2)).2.2) h2
 have h4:=fun w hw=>sB (be (ae x 0 0).1) _ (ae x (ae x (ae x 0 0).2.1 (bN (ca (ae x 0 0).1).isNone 10 (ae x 0 0).2.2)).2.1 (ae x (ae x 0 0).2.1 (bN (ca (ae x 0 0).1).isNone 10 (ae x 0 0).2.2)).2.2).2.2 w h3 hw
 generalize bN (ca (ae x 0 0).1).isNone 10 (ae x 0 0).2.2=E1 at*
 have h5:=h4 {cW with k:=(ae x 0 0).1,f:=(ae x (ae x 0 0).2.1 E1).1,t:=(ae x (ae x (ae x 0 0).2.1 E1).2.1 (ae x (ae x 0 0).2.1 E1).2.2).1} rfl
 unfold rK
 split
 · exact⟨rfl,fun h=>absurd h (by assumption)⟩
 · split
   · exact⟨rfl,fun h=>absurd h (by assumption)⟩
   · exact⟨h5.2,fun _=>h5.1⟩
theorem Fz {x:RL}{a:Int}{q:Msg×Int×Int}(hx:aI x=true)(ha:aT x a=true)(hq:q.2.2=0→aT x (a+q.2.1)=true∧okW q.1=true):
 cond (q.2.2 !=0) (pZ (cW,0,q.2.2)) (cond (okW q.1) (cond (gM q.1 !=0) (pZ (cW,0,gM q.1)) (pZ (q.1,IntKind.wrap .i64 (a+q.2.1),0))) none)=pZ (rK (dX a q)):=by
 have hl:=(aR hx).2
 unfold rK dX
 refine cne (fun h=> ?_) fun h=> ?_
 · rw [if_pos (show _≠_ from h)]
 · rw [if_neg (nn h)]
   obtain⟨h1,h2⟩:=hq h
   obtain⟨_,g2,g3⟩:=cA h1
   refine ct h2 (cne (fun hv=> ?_) fun hv=> ?_)
   · rw [if_pos (show _≠_ from hv)]
   · rw [if_neg (nn hv),aA (by omega) (by omega)]
     rw [h]
theorem k11 (x:RL)(hx:aI x=true):aj E (aa L36) 1 11 [.or x] []=pZ (aL x):=by
 rw [←JA hx,e11,hx]
 simp only [aN]
 have hl:=(aR hx).2
 have h0:aT x 0=true:=dK hx (by omega) (by omega)
 unfold Es
 dsimp only
 refine ct rfl (cne (fun h=> ?_) fun h=> ?_)
 · rw [if_pos (show _≠_ from h)];rfl
 rw [if_neg (nn h)]
 by_cases hk1:(am x).1<1
 · rw [if_pos (Or.inl hk1)];exact ct (decide_eq_true hk1) rfl
 refine cf (decide_eq_false hk1) ?_
 by_cases hk2:(am x).1>8
 · rw [if_pos (Or.inr hk2)];exact ct (decide_eq_true hk2) rfl
 refine cf (decide_eq_false hk2) ?_
 rw [if_neg (by omega)]
 obtain⟨k1,hp⟩:=ia (z:=(0:Int)) (o:=0) Fd h0 h
 rw [show x.drop (0:Int).toNat=x from rfl,Int.zero_add]at k1
 rw [show x.drop (0:Int).toNat=x from rfl]at hp
 obtain⟨_,g2,g3⟩:=cA k1
 refine ct (aC (by omega) (by omega)) (ct (OE (au hx _) (show(2:Int)≤1000 by decide)) (cne (fun h2=> ?_) fun h2=> ?_))
 · rw [if_pos (show _≠_ from h2)];rfl
 rw [if_neg (nn h2)]
 have hr:=bV (au hx (am x).2.1.toNat) h2
 rw [List.length_drop]at hr
 obtain⟨r1,r2,r3,r4⟩:=hr
 have k2:aT x ((am x).2.1+(ai (x.drop (am x).2.1.toNat) 2).2.1)=true:=dK hx (by omega) (by omega)
 have hw:IntKind.wrap .i64 ((am x).2.1+(ai (x.drop (am x).2.1.toNat) 2).2.1)=(am x).2.1+(ai (x.drop (am x).2.1.toNat) 2).2.1:=aA (by omega) (by omega)
 rw [hw]
 have hb:=Lq k2 {cW with k:=(am x).1,f:=nr (rA (ai (x.drop (am x).2.1.toNat) 2).1 0) 0,t:=nr (rA (ai (x.drop (am x).2.1.toNat) 2).1 1) 0} (by dsimp only;omega) rfl rfl
 have hs:=fun(q:Msg×Int×Int) hq=>Fz (q:=q) hx k2 hq
 refine ct (aC (by omega) (by omega)) (ct (aC (by omega) (by omega)) ?_)
 generalize ai (x.drop (am x).2.1.toNat) 2=L at*
 generalize hA:(am x).2.1+L.2.1=A at*
 have hin:inB A (x.length+1)=true:=aC (by omega) (by omega)
 have hok:aI (x.drop A.toNat)=true:=au hx _
 generalize hW:({cW with k:=(am x).1,f:=nr (rA L.1 0) 0,t:=nr (rA L.1 1) 0}:Msg)=W at*
 have wk:W.k=(am x).1:=by rw [←hW]
 unfold jI at hb⊢
 by_cases e1:(am x).1=1
 · rw [if_pos (Or.inl (by omega))]at hb⊢
   refine ct (beq_iff_eq.2 e1) (ct hin (ct hok ?_))
   rw [←hs _ hb,←hW]
   rfl
 refine cf (beq_false_of_ne e1) ?_
 by_cases e2:(am x).1=2
 · rw [if_pos (Or.inr (by omega))]at hb⊢
   refine ct (beq_iff_eq.2 e2) (ct hin (ct hok ?_))
   rw [←hs _ hb,←hW]
   rfl
 refine cf (beq_false_of_ne e2) ?_
 rw [if_neg (by omega)]at hb⊢
 refine ct hin (ct hok ?_)
 rw [←hs _ hb,←hW]
 rfl
def eqW (w z:Msg):Bool:=eqM w.k w.f w.t w.p w.n w.r w.o w.cf w.ct w.bf w.bt w.h w.ef w.et w.g w.u w.v w.m z.k z.f z.t z.p z.n z.r z.o z.cf z.ct z.bf z.bt z.h z.ef z.et z.g z.u z.v z.m
theorem k12 (w z:Msg)(hg:okW w=true):aj E (aa L11) 1 12 [eP w,eP z] []=some ([.ob (eqW w z)],[]):=by
 obtain⟨g1',g2',g3,g4,g5,g6,g7,g8,g9⟩:=pE hg
 unfold eP
 rw [e12,g1',g2',g3,g4,g5,g6,g7,g8,g9]
 unfold eqW eqM
 simp only [bne,Bool.and_true]
 generalize (w.k==z.k)=b1
 generalize (w.f==z.f)=b2
 generalize (w.t==z.t)=b3
 generalize (w.p==z.p)=b4
 generalize (w.n==z.n)=b5
 generalize (w.r==z.r)=b6
 generalize (w.o==z.o)=b7
 generalize (w.h==z.h)=b8
 generalize (w.m==z.m)=b9
 generalize (da w.cf z.cf&&da w.ct z.ct)=b10
 generalize (da w.bf z.bf&&da w.bt z.bt)=b11
 generalize (da w.ef z.ef&&da w.et z.et)=b12
 generalize da w.g z.g=b13
 generalize za w.u z.u=b14
 generalize rC w.v z.v=b15
 clear hg g1' g2' g3 g4 g5 g6 g7 g8 g9
 cases b1<;>cases b2<;>cases b3<;>cases b4<;>cases b5<;>(try rfl)<;>cases b6<;>cases b7<;>(try rfl)<;>cases b8<;>cases b9<;>(try rfl)<;>cases b10<;>cases b11<;>(try rfl)<;>cases b12<;>cases b13<;>(try rfl)<;>cases b14<;>rfl
theorem Bm (w:Msg):eqW w w=true:=by
 unfold eqW eqM
 simp [CP,FH,BC]
theorem k6 (w:Msg):aj E (aa L12) 1 6 [eP w] []=some ([.ob (pG w.cf w.ct w.bf w.bt w.ef w.et w.g w.u w.v)],[]):=by
 unfold eP
 rw [e6]
 have c30:∀l:RL,decide ((l.length:Int)≤30)=decide (l.length≤30):=fun l=>decide_eq_decide.2 (by omega)
 have c60:∀l:RL,decide ((l.length:Int)≤60)=decide (l.length≤60):=fun l=>decide_eq_decide.2 (by omega)
 simp only [c30,c60]
 unfold pG
 cases decide (w.g.length≤30)<;>cases decide (w.u.length≤60)<;>cases decide (w.v.length≤60)<;>(try rfl)<;>cases decide (w.cf.length≤30)<;>cases decide (w.ct.length≤30)<;>(try rfl)<;>cases decide (w.bf.length≤30)<;>cases decide (w.bt.length≤30)<;>(try rfl)<;>cases decide (w.ef.length≤30)<;>rfl
theorem HH {w:Msg}(hs:pG w.cf w.ct w.bf w.bt w.ef w.et w.g w.u w.v=true)(ha:xC w.cf w.ct w.bf w.bt w.ef w.et w.g w.u w.v=true):okW w=true:=by
 unfold pG at hs
 unfold xC at ha
 simp only [Bool.and_eq_true,decide_eq_true_eq]at hs ha
 obtain⟨s1,s2,s3,s4,s5,s6,s7,s8,s9⟩:=hs
 obtain⟨⟨a1,a2⟩,⟨a3,a4⟩,⟨a5,a6⟩,a7,a8⟩:=ha
 unfold okW okM
 rw [dW (by omega) a1,dW (by omega) a2,dW (by omega) a3,dW (by omega) a4,dW (by omega) a5,dW (by omega) a6,dW (by omega) a7,kX (by omega) a8,fE (by omega)]
 rfl
theorem RO (w:Msg)(ha:xC w.cf w.ct w.bf w.bt w.ef w.et w.g w.u w.v=true):aj E (aa L7) 1 3 [eP w] []=some ([.ob true],[]):=by
 unfold eP
 rw [e3]
 refine cs (fun _=>rfl) fun q1=> ?_
 have hok:okW w=true:=HH (by simpa using q1) ha
 exact ct hok (ct hok (ct (beq_iff_eq.2 rfl) rfl))
theorem Tv (x:RL)(hx:okB x=true):aj E (aa L3) 1 4 [.or x] []=some ([.ob true],[]):=by
 rw [e4]
 refine cs (fun _=>rfl) fun q1=> ?_
 have hl:x.length≤600:=by have:=of_decide_eq_false q1;omega
 have ho:aI x=true:=by
  unfold aI jG
  rw [hx,decide_eq_true (by omega)]
  rfl
 exact ct ho (ct ho (ct (C5 ho).1 (ct (Bm (aL x).1) (ct (beq_iff_eq.2 rfl) (ct (beq_iff_eq.2 rfl) rfl)))))
end Go.Proofs.YtejimgikldiajaaGreat
namespace Go.Proofs.YtejimgikldiajaaGreat
open Go.Abs
theorem SD (x:RL)(v:Bool)(h:cb (x.length+1)=true):aj E (aa L6) 1 102 [.or x,.ob v] []=some ([.one (.sl true 5 (x++o9 v))],[]):=by
 rw [QR]
 have hi:inB (x.length:Int) (x.length+1)=true:=aC (by omega) (by omega)
 have ht:bA x (Int.toNat (x.length:Int))=x:=by rw [bp,Int.toNat_natCast,List.take_length]
 rw [ht]
 cases v
 · exact cf rfl (ct hi (ct (decide_eq_true rfl) (ct h rfl)))
 · exact ct rfl (ct hi (ct (decide_eq_true rfl) (ct h rfl)))
theorem Ps (v:Bool):aj E (aa L6) 1 102 [.one .nils,.ob v] []=some ([.one (.sl true 5 (o9 v))],[]):=by
 rw [LZ]
 cases v<;>rfl
theorem G9 (v:Int):0≤IntKind.wrap .u64 v∧IntKind.wrap .u64 v<18446744073709551616:=cm v
theorem l51 (l:RL)(hl:l.length≤1000):∀(d i:Nat) (acc:RL),i+d=l.length→acc.length≤10*i→
 ∃m,goF E (aa xA) F51 0 m DO (D9 acc l l.length i)=some ([.one (.sl true 5 (acc++aP (l.drop i)))],[])
 | 0,i,acc,hi,_=>by
  refine⟨1, ?_⟩
  rw [Mm]
  have:l.drop i=[]:=List.drop_eq_nil_of_le (by omega)
  rw [this,aP,List.append_nil]
  exact cf (decide_eq_false (by omega)) rfl
 | d+1,i,acc,hi,ha=>by
  have hi':i<l.length:=by omega
  have hr:=G9 (nr (rA l i) 0)
  have hu:=dJ (IntKind.wrap .u64 (nr (rA l i) 0))
  obtain⟨m,hm⟩:=l51 l hl d (i+1) (acc++bc (IntKind.wrap .u64 (nr (rA l i) 0))) (by omega) (by simp;omega)
  refine⟨m+1, ?_⟩
  rw [Mm,Int.toNat_natCast,aE l i hi',aP,aF (n:=l.length) hi' (by omega),hm,←List.append_assoc]
  exact ct (decide_eq_true (by omega)) (ct (ax hi') (ct (gF (by omega) hr.1 hr.2) rfl))
theorem k51 (l:RL)(hl:l.length≤1000):∃m,aj E (aa xA) m 51 [.one (.sl false 3 l)] []=some ([.one (.sl true 5 (aP l))],[]):=by
 obtain⟨m,hm⟩:=l51 l hl l.length 0 [] (by omega) (by simp)
 refine⟨m+1, ?_⟩
 rw [e51]
 exact hm
theorem Nz {c:RL}(h:c.all sY=true){i:Nat}(hi:i<c.length):(nl (rA c i) 3).length≤4∧(nl (rA c i) 3).all fm=true:=by
 rw [cg hi]
 have:=List.all_eq_true.1 h _ (List.getElem_mem hi)
 unfold sY at this
 simpa using this
theorem l52 (u:RL)(hu:u.length≤100)(hf:u.all sY=true):∀(d i:Nat) (acc:RL),i+d=u.length→acc.length≤10+2000*i→
 ∃m,goF E (aa L51) F52 0 m Br (yY acc u u.length i)=some ([.one (.sl true 5 (acc++bC (u.drop i)))],[])
 | 0,i,acc,hi,_=>by
  refine⟨1, ?_⟩
  rw [ME]
  have:u.drop i=[]:=List.drop_eq_nil_of_le (by omega)
  rw [this,bC,List.append_nil]
  exact cf (decide_eq_false (by omega)) rfl
 | d+1,i,acc,hi,ha=>by
  have hi':i<u.length:=by omega
  obtain⟨h1,h2⟩:=Nz hf hi'
  have hl:=Bi (nr (rA u i) 0) (nr (rA u i) 1) (nr (rA u i) 2) h2
  have hg:kR [] (nl (rA u i) 3)=true:=by
   unfold kR
   rw [h2,decide_eq_true (show(nl (rA u i) 3).length≤100 by omega)]
   rfl
  obtain⟨m,hm⟩:=l52 u hu hf d (i+1) (acc++gE (nr (rA u i) 0) (nr (rA u i) 1) (nr (rA u i) 2) (nl (rA u i) 3)) (by omega) (by simp;omega)
  refine⟨m+1, ?_⟩
  rw [ME,Int.toNat_natCast,aE u i hi',bC,aF (n:=u.length) hi' (by omega),hm,←List.append_assoc]
  exact ct (decide_eq_true (by omega)) (ct (ax hi') (ct hg (ct (bh (by omega)) rfl)))
theorem P5 (u:RL)(hu:u.length≤1000):∀(d i:Nat) (acc:RL),i+d=u.length→acc.length≤10+20*i→
 ∃m,goF E (aa L51) F52 0 m AI (yJ acc u u.length i)=some ([.one (.sl true 5 (acc++gy (u.drop i)))],[])
 | 0,i,acc,hi,_=>by
  refine⟨1, ?_⟩
  rw [MK]
  have:u.drop i=[]:=List.drop_eq_nil_of_le (by omega)
  rw [this,gy,List.append_nil]
  exact cf (decide_eq_false (by omega)) rfl
 | d+1,i,acc,hi,ha=>by
  have hi':i<u.length:=by omega
  have hl:=cG [[.int .i64 (nr (rA u i) 0)],[.int .i64 (nr (rA u i) 1)]]
  simp only [List.length_cons,List.length_nil]at hl
  obtain⟨m,hm⟩:=P5 u hu d (i+1) (acc++aP [[.int .i64 (nr (rA u i) 0)],[.int .i64 (nr (rA u i) 1)]]) (by omega) (by simp only [List.length_append];omega)
  refine⟨m+1, ?_⟩
  rw [MK,Int.toNat_natCast,aE u i hi',gy,aF (n:=u.length) hi' (by omega),hm,←List.append_assoc]
  exact ct (decide_eq_true (by omega)) (ct (ax hi') (ct rfl (ct (bh (by omega)) rfl)))
theorem Eb {w:Msg}(h:rH w=true):okW w=true∧dq [] w.g=true∧en [] w.cf w.ct=true∧en [] w.bf w.bt=true∧en [] w.ef w.et=true∧w.u.length≤100∧w.u.all sY=true∧w.v.length≤1000:=by
 unfold rH at h
 simp only [Bool.and_eq_true,decide_eq_true_eq]at h
 exact⟨h.1,h.2.1.1,h.2.1.2.1,h.2.1.2.2.1,h.2.1.2.2.2,h.2.2.1,h.2.2.2.1,h.2.2.2.2⟩
theorem k52 (w:Msg)(f:Int)(hg:rH w=true):∃m,aj E (aa L51) m 52 [eP w,.oi f] []=some ([.one (.sl true 5 (iL w f))],[]):=by
 obtain⟨_,h1,h2,h3,h4,h5,h6,h7⟩:=Eb hg
 have a1:=cG [[.i (w.u.length:Int)]]
 have a2:=cG [[.i (w.v.length:Int)]]
 simp only [List.length_cons,List.length_nil]at a1 a2
 obtain⟨m1,hm1⟩:=l52 w.u h5 h6 w.u.length 0 (aP [[.i (w.u.length:Int)]]) (by omega) (by omega)
 obtain⟨m2,hm2⟩:=P5 w.v h7 w.v.length 0 (aP [[.i (w.v.length:Int)]]) (by omega) (by omega)
 have key:∀m,(f=4→goF E (aa L51) F52 0 m Br (yY (aP [[.i (w.u.length:Int)]]) w.u w.u.length 0)=some ([.one (.sl true 5 (aP [[.i (w.u.length:Int)]]++bC w.u))],[]))→
  (f=6→goF E (aa L51) F52 0 m AI (yJ (aP [[.i (w.v.length:Int)]]) w.v w.v.length 0)=some ([.one (.sl true 5 (aP [[.i (w.v.length:Int)]]++gy w.v))],[]))→
  aj E (aa L51) (m+1) 52 [eP w,.oi f] []=some ([.one (.sl true 5 (iL w f))],[]):=by
  intro m g4 g6
  unfold eP iL
  rw [e52]
  by_cases c0:f=0
  · rw [if_pos c0];exact ct (beq_iff_eq.2 c0) (ct rfl rfl)
  refine cf (beq_false_of_ne c0) ?_
  rw [if_neg c0]
  by_cases c1:f=1
  · rw [if_pos c1];exact ct (beq_iff_eq.2 c1) (ct rfl rfl)
  refine cf (beq_false_of_ne c1) ?_
  rw [if_neg c1]
  by_cases c2:f=2
  · rw [if_pos c2];exact ct (beq_iff_eq.2 c2) (ct rfl rfl)
  refine cf (beq_false_of_ne c2) ?_
  rw [if_neg c2]
  by_cases c3:f=3
  · rw [if_pos c3];exact ct (beq_iff_eq.2 c3) (ct h1 rfl)
  refine cf (beq_false_of_ne c3) ?_
  rw [if_neg c3]
  by_cases c4:f=4
  · rw [if_pos c4];exact ct (beq_iff_eq.2 c4) (ct rfl (g4 c4))
  refine cf (beq_false_of_ne c4) ?_
  rw [if_neg c4]
  by_cases c5:f=5
  · rw [if_pos c5];exact ct (beq_iff_eq.2 c5) (ct h2 rfl)
  refine cf (beq_false_of_ne c5) ?_
  rw [if_neg c5]
  by_cases c6:f=6
  · rw [if_pos c6];exact ct (beq_iff_eq.2 c6) (ct rfl (g6 c6))
  refine cf (beq_false_of_ne c6) ?_
  rw [if_neg c6]
  by_cases c7:f=7
  · rw [if_pos c7];exact ct (beq_iff_eq.2 c7) rfl
  refine cf (beq_false_of_ne c7) ?_
  rw [if_neg c7]
  by_cases c8:f=8
  · rw [if_pos c8];exact ct (beq_iff_eq.2 c8) rfl
  refine cf (beq_false_of_ne c8) ?_
  rw [if_neg c8]
  by_cases c9:f=9
  · rw [if_pos c9]
    refine ct (beq_iff_eq.2 c9) ?_
    by_cases hh:w.h=true
    · rw [if_pos hh];exact cf (by rw [hh];rfl) (ct h3 rfl)
    · rw [if_neg hh];exact ct (by cases e:w.h<;>simp_all) rfl
  refine cf (beq_false_of_ne c9) ?_
  rw [if_neg c9]
  exact ct h4 rfl
 by_cases c4:f=4
 · exact⟨m1+1,key m1 (fun _=>hm1) fun h=>by omega⟩
 · exact⟨m2+1,key m2 (fun h=>absurd h c4) fun _=>hm2⟩
end Go.Proofs.YtejimgikldiajaaGreat
namespace Go.Proofs.YtejimgikldiajaaGreat
open Go.Abs
theorem yB {c:RL}(h:dq [] c=true):(gB c).length≤703010:=by
 obtain⟨_,h2,h3⟩:=pV h
 have:=lS c h3
 have:=dJ (c.length:Int)
 unfold gB
 rw [List.length_append]
 omega
theorem Ck {x c:RL}(h:dq x c=true):dq [] c=true:=by
 unfold dq at h⊢
 simp only [Bool.and_eq_true]at h⊢
 exact⟨rfl,h.2⟩
theorem xK {f t:RL}(h:en [] f t=true):(jj f t).length≤1406020:=by
 unfold en at h
 simp only [Bool.and_eq_true]at h
 have:=yB h.1
 have:=yB (Ck h.2)
 unfold jj
 rw [List.length_append]
 omega
theorem n9 :∀(u:RL),u.all sY=true→(bC u).length≤2000*u.length
 | [],_=>by simp [bC]
 | r::u,h=>by
  rw [List.all_cons,Bool.and_eq_true]at h
  have h1:=h.1
  unfold sY at h1
  simp only [Bool.and_eq_true,decide_eq_true_eq]at h1
  have:=Bi (nr r 0) (nr r 1) (nr r 2) h1.2
  have:=n9 u h.2
  rw [bC]
  unfold gA
  rw [List.length_append,List.length_cons]
  omega
theorem uv :∀(v:RL),(gy v).length≤20*v.length
 | []=>by simp [gy]
 | r::v=>by
  have:=cG [[.int .i64 (nr r 0)],[.int .i64 (nr r 1)]]
  have:=uv v
  simp only [List.length_cons,List.length_nil]at*
  rw [gy,List.length_append]
  omega
theorem LX {w:Msg}(hg:rH w=true)(f:Int):(iL w f).length≤2000000:=by
 obtain⟨_,h1,h2,h3,h4,h5,h6,h7⟩:=Eb hg
 have a1:=cG [[.int .i64 (w.u.length:Int)]]
 have a2:=cG [[.int .i64 (w.v.length:Int)]]
 have b0:=cG [[.int .i64 w.p],[.int .i64 w.n]]
 have b1:=cG [[.int .i64 w.r]]
 have b2:=cG [[.int .i64 w.o]]
 have q1:=yB h1
 have q2:=xK h2
 have q3:=xK h3
 have q4:=xK h4
 have q5:=n9 w.u h6
 have q6:=uv w.v
 simp only [List.length_cons,List.length_nil]at a1 a2 b0 b1 b2
 unfold iL
 by_cases c0:f=0
 · rw [if_pos c0];omega
 rw [if_neg c0]
 by_cases c1:f=1
 · rw [if_pos c1];omega
 rw [if_neg c1]
 by_cases c2:f=2
 · rw [if_pos c2];omega
 rw [if_neg c2]
 by_cases c3:f=3
 · rw [if_pos c3];omega
 rw [if_neg c3]
 by_cases c4:f=4
 · rw [if_pos c4];(rw [List.length_append];omega)
 rw [if_neg c4]
 by_cases c5:f=5
 · rw [if_pos c5];omega
 rw [if_neg c5]
 by_cases c6:f=6
 · rw [if_pos c6];(rw [List.length_append];omega)
 rw [if_neg c6]
 by_cases c7:f=7
 · rw [if_pos c7];(unfold o9;rw [List.length_singleton];omega)
 rw [if_neg c7]
 by_cases c8:f=8
 · rw [if_pos c8];(unfold o9;rw [List.length_singleton];omega)
 rw [if_neg c8]
 by_cases c9:f=9
 · rw [if_pos c9]
   by_cases hh:w.h=true
   · rw [if_pos hh];omega
   · rw [if_neg hh,List.length_nil];omega
 rw [if_neg c9]
 omega
theorem l16 (w:Msg)(hg:rH w=true)(l:RL)(hl:l.length≤7):∀(d i:Nat) (acc:RL),i+d=l.length→acc.length≤30+2000000*i→
 ∃m,goF E (aa L52) F16 0 m DN (DZ [] acc l l.length i w.k w.f w.t w.p w.n w.r w.o w.cf w.ct w.bf w.bt w.h w.ef w.et w.g w.u w.v w.m)=some ([.one (.sl true 5 (acc++iz w (l.drop i)))],[])
 | 0,i,acc,hi,ha=>by
  refine⟨1, ?_⟩
  rw [My]
  have:l.drop i=[]:=List.drop_eq_nil_of_le (by omega)
  rw [this,iz,List.append_nil]
  refine cf (decide_eq_false (by omega)) (ct rfl (ct (decide_eq_true rfl) (ct (bh ?_) rfl)))
  show 0+acc.length≤_
  omega
 | d+1,i,acc,hi,ha=>by
  have hi':i<l.length:=by omega
  have he:=LX hg (nr (rA l i) 0)
  obtain⟨m,hm⟩:=l16 w hg l hl d (i+1) (acc++iL w (nr (rA l i) 0)) (by omega) (by rw [List.length_append];omega)
  refine⟨m+1, ?_⟩
  rw [My,Int.toNat_natCast,aE l i hi',iz,aF (n:=l.length) hi' (by omega)]
  refine ct (decide_eq_true (by omega)) (ct (ax hi') (ct hg (ct (bh (show acc.length+(iL w (nr (rA l i) 0)).length≤4294967296 by omega)) ?_)))
  rw [←List.append_assoc]
  exact hm
theorem k16 (w:Msg)(hg:rH w=true):∃m,aj E (aa L52) m 16 [.one .nils,eP w] []=some ([.one (.sl true 5 (oE w))],[]):=by
 have h0:=cG [[.i w.k],[.i w.f],[.i w.t]]
 simp only [List.length_cons,List.length_nil]at h0
 obtain⟨m,hm⟩:=l16 w hg (be w.k) (m0 _) (be w.k).length 0 (aP [[.i w.k],[.i w.f],[.i w.t]]) (by omega) (by omega)
 refine⟨m+1, ?_⟩
 unfold eP
 rw [e16]
 exact ct rfl hm
theorem NB {c:RL}(h:fz c=true):c.length≤1000:=by
 have:=uR h
 exact this.1
theorem KW {c:RL}(h:fz c=true)(n:Int):cN (bP c n)=true:=by
 have h1:(bP c n).length≤c.length:=List.length_filter_le _ _
 exact fE (by have:=NB h;omega)
theorem k13 (p c:RL)(ki ni mi:Int)(h:(ek p&&fz c)=true):aj E (aa L16) 1 13 [.os p,.one (.sl false 96 c),.oi ki,.oi ni,.oi mi] []=some ([eP (fy p c ki ni mi)],[]):=by
 simp only [Bool.and_eq_true]at h
 obtain⟨hp,hc⟩:=h
 rw [e13]
 dsimp only
 have i8:=iO ki 8 (by omega)
 have iq:=iO mi 1099511627776 (by omega)
 have d1:=ay ni 6 0 (by omega)
 have d2:=ay ni 6 1 (by omega)
 have d3:=ay ni 3 4 (by omega)
 have d4:=ay ni 2 9 (by omega)
 have d5:=ay ni 2 10 (by omega)
 have d6:=ay mi 3 9 (by omega)
 have t1:Int.tdiv (aK mi 1099511627776) 1024=aK mi 1099511627776 / 1024:=Int.tdiv_eq_ediv_of_nonneg iq.1
 have t2:Int.tdiv (aK mi 1099511627776) 16=aK mi 1099511627776 / 16:=Int.tdiv_eq_ediv_of_nonneg iq.1
 rw [t1,t2]
 have w1:IntKind.wrap .i64 (aK mi 1099511627776 / 1024)=aK mi 1099511627776 / 1024:=aA (by omega) (by omega)
 have w3:IntKind.wrap .i64 (aK mi 1099511627776 / 16)=aK mi 1099511627776 / 16:=aA (by omega) (by omega)
 have w2:IntKind.wrap .i64 (1+aK ki 8)=1+aK ki 8:=aA (by omega) (by omega)
 have w4:IntKind.wrap .i64 (101+ad ni 3 4)=101+ad ni 3 4:=aA (by omega) (by omega)
 have w5:IntKind.wrap .i64 (1+ad ni 6 1)=1+ad ni 6 1:=aA (by omega) (by omega)
 have w6:IntKind.wrap .i64 (1+ad ni 6 0)=1+ad ni 6 0:=aA (by omega) (by omega)
 have w9:IntKind.wrap .i64 (1+ad ni 2 10)=1+ad ni 2 10:=aA (by omega) (by omega)
 have w10:IntKind.wrap .i64 (1+ad ni 2 9)=1+ad ni 2 9:=aA (by omega) (by omega)
 have w11:IntKind.wrap .i64 (1+ad mi 3 9)=1+ad mi 3 9:=aA (by omega) (by omega)
 rw [w1,w2,w3,w4,w5,w6,w9,w10,w11]
 have hq:decide ((1099511627776:Int)≤4611686018427387904)=true:=by decide
 have lnS:=KW hc ni
 have lnV:cN (gf (bP c ni))=true:=fE (by have:=(zq (bP c ni)).2;have:=gJ lnS;omega)
 unfold fy
 dsimp only
 refine ct (by decide) (ct (by decide) (ct (by decide) ?_))
 by_cases k1:1+aK ki 8=1
 · rw [if_pos k1]
   refine ct (beq_iff_eq.2 k1) (ct (beq_iff_eq.2 k1) (ct (by decide) (ct (by decide) (ct (by decide) (ct hp (ct hc (ct (beq_iff_eq.2 k1) (ct (by decide) ?_))))))))
   by_cases ho:1+ad mi 3 9=1
   · rw [if_pos ho];exact ct (beq_iff_eq.2 ho) rfl
   · rw [if_neg ho];exact cf (beq_false_of_ne ho) rfl
 rw [if_neg k1]
 refine cf (beq_false_of_ne k1) ?_
 by_cases k2:1+aK ki 8=2
 · rw [if_pos k2]
   refine ct (beq_iff_eq.2 k2) (ct (by decide) (ct (by decide) (ct (by decide) (ct hp (ct hc (cf (beq_false_of_ne k1) (ct (by decide) ?_)))))))
   unfold gK gC
   by_cases hb:0<ad mi 3 12
   · rw [if_pos hb,if_pos hb]
     exact ct (decide_eq_true hb) (ct hq (ct hp (ct hq (ct hp rfl))))
   · rw [if_neg hb,if_neg hb]
     refine cf (decide_eq_false hb) (ct hq (ct hp ?_))
     rw [decide_eq_false hb]
     rfl
 rw [if_neg k2]
 refine cf (beq_false_of_ne k2) ?_
 by_cases k4:1+aK ki 8=4
 · rw [if_pos k4]
   exact ct (beq_iff_eq.2 k4) (ct hp (ct hc (ct lnS rfl)))
 rw [if_neg k4]
 refine cf (beq_false_of_ne k4) ?_
 by_cases k5:1+aK ki 8=5
 · rw [if_pos k5]
   refine ct (beq_iff_eq.2 k5) (ct hp (ct hc (ct lnS (ct (by rw [hc,lnV];rfl) (ct (by decide) ?_)))))
   unfold gK gC
   by_cases hb:0<ad mi 3 12
   · rw [if_pos hb,if_pos hb]
     exact ct (decide_eq_true hb) (ct hq (ct hp (ct hq (ct hp rfl))))
   · rw [if_neg hb,if_neg hb]
     refine cf (decide_eq_false hb) (ct hq (ct hp ?_))
     rw [decide_eq_false hb]
     rfl
 rw [if_neg k5]
 exact cf (beq_false_of_ne k5) (ct hp rfl)
end Go.Proofs.YtejimgikldiajaaGreat
namespace Go.Proofs.YtejimgikldiajaaGreat
open Go.Abs
theorem JQ {p:List Cell}{c:RL}(h:p∈c):inP (nr p 0) (nr p 1) (nl p 2) c=true:=by
 unfold inP
 exact List.any_eq_true.2 ⟨p,h,zS _ _ _⟩
theorem Hl {c d:RL}(h:∀p∈d,p∈c):kM c d=true:=List.all_eq_true.2 fun p hp=>JQ (h p hp)
theorem lC {p:RL}(h:Fit p)(n:Int):Fit (bv p n):=h.sub _
theorem iu {p:RL}(h:Fit p)(n:Int):aV (gC p n).1 (gC p n).2=0:=by
 have h2:=lC h n
 have h1:=lC h2 (n%1099511627776 / 64)
 unfold gC
 rw [pO h1.valid h2.valid,if_pos (show kM (bv p n) (bv (bv p n) (n%1099511627776 / 64))=true from Hl fun q hq=>(List.mem_filter.1 hq).1)]
theorem Bw {s:RL}(h:FitU s)(n:Int):FitU (bP s n):=h.sub fun a=>ad n 9 (IntKind.wrap .i64 (a - 101))
theorem we {w:Msg}:∀(l:RL),(∀r∈l,aB w (nr r 0)=0)→qA w l=0
 | [],_=>rfl
 | r::l,h=>by
  rw [qA,if_neg (nn (h r List.mem_cons_self))]
  exact we l fun q hq=>h q (List.mem_cons_of_mem _ hq)
theorem Gv :∀(l:RL) (first:Bool) (q:List Cell),(∀r∈l,dB r=0)→Asc l→(first=false→∀r∈l,kLt q r=true)→qy first q l=0
 | [],_,_,_,_,_=>rfl
 | r::l,first,q,h1,h2,h3=>by
  rw [qy,if_neg (nn (h1 r List.mem_cons_self)),if_neg]
  · refine Gv l false r (fun x hx=>h1 x (List.mem_cons_of_mem _ hx)) (List.pairwise_cons.1 h2).2 fun _ x hx=>(List.pairwise_cons.1 h2).1 x hx
  · rintro⟨hf,hc⟩
    exact kLt_cmpU.1 (h3 hf r List.mem_cons_self) hc
theorem zZ {s:RL}(h:FitU s)(v:RL):vCh (iR s v 4).1=0:=by
 have hs:((iR s v 4).1).Sublist s:=by
  rw [CQ]
  exact(List.take_sublist _ _).trans List.filter_sublist
 have hl:(iR s v 4).1.length≤4:=by
  rw [CQ]
  show((bey s v).take _).length≤4
  rw [List.length_take]
  have:(4:Int).toNat=4:=rfl
  rw [this]
  omega
 unfold vCh
 rw [if_neg (by omega)]
 exact Gv _ _ _ (fun r hr=>h.upd r (hs.subset hr)) (h.vld.asc.sublist hs) fun hf=>by cases hf
theorem qP {n:Int}(h0:1≤n)(h1:n≤12):cI n=true:=by
 unfold cI dt
 rw [decide_eq_true (show n≥1 from h0),decide_eq_true h1]
 rfl
theorem vn {n:Int}(h0:101≤n)(h1:n<107):cO n=true:=by
 unfold cO d9
 rw [decide_eq_true (show n≥101 from h0),decide_eq_true h1]
 rfl
theorem FQ {n:Int}(h0:101≤n)(h1:n<107):cI n=true:=by
 unfold cI
 rw [vn h0 h1,Bool.or_true]
theorem oq {w:Msg}(h1:(ca w.k).isNone=false)(h2:cI w.f=true)(h3:cI w.t=true)(h4:lA w (be w.k) 11 0=false)(h5:∀r∈be w.k,aB w (nr r 0)=0):gM w=0:=by
 unfold gM
 rw [if_neg (by rw [h1];decide),if_neg (by rw [h2,h3];decide),if_neg (by rw [h4];decide)]
 exact we _ h5
theorem rB {p:RL}(h:Fit p)(m:Int)(w:Msg):aB (gK p m w) 9=0∧aB (gK p m w) 10=0:=by
 have e1:aB (gK p m w) 9=if(gK p m w).h=false∧noT (gK p m w).bf (gK p m w).bt=false then 2 else aV (gK p m w).bf (gK p m w).bt:=rfl
 have e2:aB (gK p m w) 10=aV (gK p m w).ef (gK p m w).et:=rfl
 rw [e1,e2]
 refine⟨?_,iu h _⟩
 unfold gK
 dsimp only
 by_cases hb:0<ad m 3 12
 · rw [if_pos hb,if_pos hb,if_neg (by rw [decide_eq_true hb];rintro⟨h,_⟩;cases h)]
   exact iu h _
 · rw [if_neg hb,if_neg hb,if_neg (by rintro⟨_,h⟩;cases h)]
   rfl
theorem Bd :∀(l:RL) (first:Bool) (q:List Cell),DI l→kZ l→(first=false→∀e∈l,nr q 0<nr e 0)→ls first q l=0
 | [],_,_,_,_,_=>rfl
 | e::l,first,q,h1,h2,h3=>by
  obtain⟨_,g1,g2,g3⟩:=h1 e List.mem_cons_self
  rw [ls,if_neg (by omega),if_neg (fun hc=>by have:=h3 hc.1 e List.mem_cons_self;omega)]
  exact Bd l false e (fun x hx=>h1 x (List.mem_cons_of_mem _ hx)) (List.pairwise_cons.1 h2).2 fun _ x hx=>(List.pairwise_cons.1 h2).1 x hx
theorem Fa {s:RL}(h:FitU s):qx (gf s)=0:=by
 rw [Ec h.vld (by have:=h.len;omega)]
 have hv:=D1 h.vld
 exact Bd _ _ _ hv.ents hv.asc fun hf=>by cases hf
theorem Na :be 1=[[.int .i64 0],[.int .i64 1],[.int .i64 2],[.int .i64 3],[.int .i64 4]]:=rfl
theorem OA :be 2=[[.int .i64 0],[.int .i64 1],[.int .i64 3],[.int .i64 4],[.int .i64 8],[.int .i64 9],[.int .i64 10]]:=rfl
theorem Ng :be 4=[[.int .i64 5],[.int .i64 6]]:=rfl
theorem OF :be 5=[[.int .i64 5],[.int .i64 4],[.int .i64 7],[.int .i64 8],[.int .i64 9],[.int .i64 10]]:=rfl
theorem GM {k:Int}(h:k=3∨k=6∨k=7∨k=8):be k=[[.int .i64 5]]:=by rcases h with rfl | rfl | rfl | rfl<;>rfl
theorem CA {p s:RL}(hp:Fit p)(hs:FitU s)(ki ni mi:Int):gM (fy p s ki ni mi)=0:=by
 have i8:=iO ki 8 (by omega)
 have d1:=ay ni 6 0 (by omega)
 have d2:=ay ni 6 1 (by omega)
 have d3:=ay ni 3 4 (by omega)
 have d4:=ay ni 2 9 (by omega)
 have d5:=ay ni 2 10 (by omega)
 have d6:=ay mi 3 9 (by omega)
 have hS:=Bw hs ni
 have sF:cI (1+ad ni 6 0)=true:=qP (by omega) (by omega)
 have sT:cI (1+ad ni 6 1)=true:=qP (by omega) (by omega)
 have sU:cI (101+ad ni 3 4)=true:=FQ (by omega) (by omega)
 have uU:cO (101+ad ni 3 4)=true:=vn (by omega) (by omega)
 have hst:∀w,aB w 4=nO w:=fun _=>rfl
 unfold fy
 dsimp only
 by_cases k1:1+aK ki 8=1
 · rw [if_pos k1,k1]
   refine oq rfl sU sT rfl fun r hr=> ?_
   replace hr:r∈be 1:=hr
   rw [Na]at hr
   simp only [List.mem_cons,List.not_mem_nil,or_false]at hr
   rcases hr with rfl | rfl | rfl | rfl | rfl
   · show(if cO (101+ad ni 3 4)=true∧1≤1+ad ni 2 9∧1+ad ni 2 9≤1000000 then 0 else 9)=(0:Int)
     exact if_pos ⟨uU,by omega,by omega⟩
   · show(if 1≤1+ad ni 2 10∧1+ad ni 2 10≤1000000 then 0 else 9)=(0:Int)
     exact if_pos ⟨by omega,by omega⟩
   · show(if 1≤1+ad mi 3 9∧1+ad mi 3 9≤3 then 0 else 10)=(0:Int)
     exact if_pos ⟨by omega,by omega⟩
   · exact(lC hp mi).valid
   · refine(hst _).trans ?_
     unfold nO
     dsimp only
     rw [if_neg (show¬(1:Int)=5 by decide)]
     by_cases ho:1+ad mi 3 9=1
     · rw [if_pos ho,if_neg (nn (show vSt []=0 from rfl)),if_neg (fun h=>by cases h.2.2)]
     · rw [if_neg ho,if_neg (nn hS.valid),if_neg (fun h=>ho h.2.1)]
 rw [if_neg k1]
 by_cases k2:1+aK ki 8=2
 · rw [if_pos k2,k2]
   have hb:=rB hp mi {cW with k:=2,f:=1+ad ni 6 0,t:=101+ad ni 3 4,p:=101+ad ni 3 4,n:=1+ad ni 2 9,r:=1+ad ni 2 10,g:=bv p mi,u:=bP s ni}
   refine oq rfl sF sU rfl fun r hr=> ?_
   replace hr:r∈be 2:=hr
   rw [OA]at hr
   simp only [List.mem_cons,List.not_mem_nil,or_false]at hr
   rcases hr with rfl | rfl | rfl | rfl | rfl | rfl | rfl
   · show(if cO (101+ad ni 3 4)=true∧1≤1+ad ni 2 9∧1+ad ni 2 9≤1000000 then 0 else 9)=(0:Int)
     exact if_pos ⟨uU,by omega,by omega⟩
   · show(if 1≤1+ad ni 2 10∧1+ad ni 2 10≤1000000 then 0 else 9)=(0:Int)
     exact if_pos ⟨by omega,by omega⟩
   · exact(lC hp mi).valid
   · refine(hst _).trans ?_
     unfold nO gK
     dsimp only
     rw [if_neg (show¬(2:Int)=5 by decide),if_neg (nn hS.valid),if_neg (fun h=>by cases h.1)]
   · rfl
   · exact hb.1
   · exact hb.2
 rw [if_neg k2]
 by_cases k4:1+aK ki 8=4
 · rw [if_pos k4,k4]
   refine oq rfl sF sT rfl fun r hr=> ?_
   replace hr:r∈be 4:=hr
   rw [Ng]at hr
   simp only [List.mem_cons,List.not_mem_nil,or_false]at hr
   rcases hr with rfl | rfl
   · exact iu hp mi
   · exact Fa hS
 rw [if_neg k4]
 by_cases k5:1+aK ki 8=5
 · rw [if_pos k5,k5]
   have hb:=rB hp mi {cW with k:=5,f:=1+ad ni 6 0,t:=1+ad ni 6 1,cf:=(gC p mi).1,ct:=(gC p mi).2,u:=(iR s (gf (bP s ni)) 4).1,m:=(iR s (gf (bP s ni)) 4).2}
   refine oq rfl sF sT rfl fun r hr=> ?_
   replace hr:r∈be 5:=hr
   rw [OF]at hr
   simp only [List.mem_cons,List.not_mem_nil,or_false]at hr
   rcases hr with rfl | rfl | rfl | rfl | rfl | rfl
   · exact iu hp mi
   · refine(hst _).trans ?_
     unfold nO gK
     dsimp only
     rw [if_pos rfl]
     exact zZ hs _
   · rfl
   · rfl
   · exact hb.1
   · exact hb.2
 rw [if_neg k5]
 have hk:1+aK ki 8=3∨1+aK ki 8=6∨1+aK ki 8=7∨1+aK ki 8=8:=by omega
 refine oq (Aa (by show¬(1+aK ki 8<1∨8<1+aK ki 8);omega)) sF sT (by
  show lA _ (be (1+aK ki 8)) 11 0=false
  rw [GM hk]
  rfl) fun r hr=> ?_
 replace hr:r∈be (1+aK ki 8):=hr
 rw [GM hk]at hr
 simp only [List.mem_cons,List.not_mem_nil,or_false]at hr
 subst hr
 exact iu hp mi
end Go.Proofs.YtejimgikldiajaaGreat
namespace Go.Proofs.YtejimgikldiajaaGreat
open Go.Abs
structure Cut {α:Type} (d:RL→α×Int×Int) (v:α) (e:RL):Prop where
 all:∀rest,d (e++rest)=(v,(e.length:Int),0)
 part:∀k,k<e.length→(d (e.take k)).2.2=1
theorem wn {v:Int}(h0:0≤v)(h1:v≤2147483647):Cut am v (bc (IntKind.wrap .u64 v)):=
 ⟨kx h0 h1,fun k hk=>by rw [p9 hk]⟩
theorem yX (b:Bool):Cut aQ b (o9 b):=by
 refine⟨fun rest=> ?_,fun k hk=> ?_⟩
 · cases b<;>rfl
 · have:k=0:=by
    have:(o9 b).length=1:=rfl
    omega
   subst this
   rfl
theorem Fy {v:Int}(h0:0≤v)(h1:v<18446744073709551616){n:Nat}(hn:n<(bc v).length):(aD ((bc v).take n)).2.2=1:=by
 rw [oR h0 h1 hn]
theorem wU :∀(l pre acc:RL) (k:Nat),(∀r∈l,dN r=0)→k<(bQ l).length→(fo (pre++(bQ l).take k) l.length pre.length acc).2.2=1
 | [],pre,acc,k,_,hk=>by simp [bQ]at hk
 | r::l,pre,acc,k,h,hk=>by
  have hr:=h r List.mem_cons_self
  rw [bQ,List.length_append]at hk
  by_cases hc:k<(jA r).length
  · have e:(pre++(bQ (r::l)).take k).drop ((pre.length:Nat):Int).toNat=(jA r).take k:=by
     rw [Int.toNat_natCast,List.drop_left,bQ,List.take_append_of_le_length (by omega)]
    have:=IE hr hc
    rw [List.length_cons,fo,e]
    have h2:(cJ ((jA r).take k)).2.2.2.2=1:=this
    rw [if_pos (by rw [h2];simp)]
    exact h2
  · have et:(bQ (r::l)).take k=jA r++(bQ l).take (k - (jA r).length):=by
     rw [bQ,List.take_append,List.take_of_length_le (by omega)]
    have ih:=wU l (pre++jA r) (acc++ [ky r]) (k - (jA r).length) (fun q hq=>h q (List.mem_cons_of_mem _ hq)) (by omega)
    have e:(pre++(bQ (r::l)).take k).drop ((pre.length:Nat):Int).toNat=jA r++(bQ l).take (k - (jA r).length):=by
     rw [Int.toNat_natCast,List.drop_left,et]
    have hd:cJ (jA r++(bQ l).take (k - (jA r).length))=(nr r 0,nr r 1,(nl r 2).map ju,((jA r).length:Int),0):=As hr _
    rw [List.length_cons,fo,e,hd,if_neg (by simp)]
    simp only
    rw [et,←List.append_assoc,←Int.natCast_add,←List.length_append]
    exact ih
theorem ua {c:RL}(h:bM c=0):Cut aX (c.map ky) (gB c):=by
 refine⟨sL h,fun k hk=> ?_⟩
 have h9:=j9 h
 unfold gB at hk⊢
 rw [List.length_append]at hk
 unfold aX
 by_cases hc:k<(bc c.length).length
 · rw [List.take_append_of_le_length (by omega),Fy (v:=(c.length:Int)) (by omega) (by omega) hc,if_pos (by decide)]
 · rw [List.take_append,List.take_of_length_le (by omega),iZ (v:=(c.length:Int)) (by omega) (by omega),if_neg (by simp)]
   simp only
   rw [if_neg (by omega),Int.toNat_natCast]
   have:=wU c (bc c.length) [] (k - (bc c.length).length) (fun r hr=>j8 h r hr) (by omega)
   unfold uE
   rw [if_pos (by rw [this];decide)]
   exact this
theorem ue {f t:RL}(h:aV f t=0):Cut aM (f.map ky,t.map ky) (jj f t):=by
 obtain⟨hf,ht⟩:=mH h
 refine⟨fun rest=> ?_,fun k hk=> ?_⟩
 · unfold aM
   rw [GR h]
 · have cf:=ua hf
   have ct:=ua ht
   unfold jj at hk⊢
   rw [List.length_append]at hk
   unfold aM bn
   dsimp only
   by_cases hc:k<(gB f).length
   · rw [List.take_append_of_le_length (by omega),cf.part k hc,if_pos (by decide)]
   · rw [List.take_append,List.take_of_length_le (by omega),cf.all,if_neg (by simp)]
     dsimp only
     rw [Int.toNat_natCast,List.drop_left,ct.part _ (by omega),if_pos (by decide)]
theorem vA :∀(l pre acc:RL) (k:Nat),(∀r∈l,iG r)→k<(bC l).length→(fA (pre++(bC l).take k) l.length pre.length acc).2.2=1
 | [],pre,acc,k,_,hk=>by simp [bC]at hk
 | r::l,pre,acc,k,h,hk=>by
  have hr:=h r List.mem_cons_self
  rw [bC,List.length_append]at hk
  by_cases hc:k<(gA r).length
  · have e:(pre++(bC (r::l)).take k).drop ((pre.length:Nat):Int).toNat=(gA r).take k:=by
     rw [Int.toNat_natCast,List.drop_left,bC,List.take_append_of_le_length (by omega)]
    have h2:(bY ((gA r).take k)).2.2.2.2.2=1:=H9 hr.1 hr.2 hc
    rw [List.length_cons,fA,e,if_pos (by rw [h2];simp)]
    exact h2
  · have et:(bC (r::l)).take k=gA r++(bC l).take (k - (gA r).length):=by
     rw [bC,List.take_append,List.take_of_length_le (by omega)]
    have ih:=vA l (pre++gA r) (acc++ [reU r]) (k - (gA r).length) (fun q hq=>h q (List.mem_cons_of_mem _ hq)) (by omega)
    have e:(pre++(bC (r::l)).take k).drop ((pre.length:Nat):Int).toNat=gA r++(bC l).take (k - (gA r).length):=by
     rw [Int.toNat_natCast,List.drop_left,et]
    have hd:bY (gA r++(bC l).take (k - (gA r).length))=(nr r 0,nr r 1,nr r 2,(nl r 3).map lp,((gA r).length:Int),0):=yO hr.1 hr.2 _
    rw [List.length_cons,fA,e,hd,if_neg (by simp)]
    simp only
    rw [et,←List.append_assoc,←Int.natCast_add,←List.length_append]
    exact ih
theorem ml (n:Int):aP [[.int .i64 n]]=bc (IntKind.wrap .u64 n):=by
 rw [aP,aP,List.append_nil]
 rfl
theorem IL {u:RL}(h48:u.length≤48)(h:∀r∈u,iG r):Cut ce (u.map reU) (aP [[.int .i64 (u.length:Int)]]++bC u):=by
 rw [ml]
 have hc:=wn (v:=(u.length:Int)) (by omega) (by omega)
 refine⟨fun rest=> ?_,fun k hk=> ?_⟩
 · unfold ce
   rw [List.append_assoc,hc.all,if_neg (by simp)]
   dsimp only
   rw [if_neg (by omega),Int.toNat_natCast,vV rest u _ [] h,List.nil_append,List.length_append]
 · rw [List.length_append]at hk
   unfold ce
   by_cases hk2:k<(bc (IntKind.wrap .u64 (u.length:Int))).length
   · rw [List.take_append_of_le_length (by omega),hc.part k hk2,if_pos (by decide)]
   · rw [List.take_append,List.take_of_length_le (by omega),hc.all,if_neg (by simp)]
     dsimp only
     rw [if_neg (by omega),Int.toNat_natCast]
     exact vA u _ [] _ h (by omega)
theorem Lz {α:Type}{z v:α}{d:RL→α×Int×Int}{e pre rest:RL}{c:Nat}(hd:Cut d v e)(hc:pre.length≤c)(K:α→Int→Msg×Int×Int)
 (h:(pre++e).length≤c→(K v ((pre++e).length:Int)).2.2=1):(thn (bx z d ((pre++(e++rest)).take c) (pre.length:Int) 0) K).2.2=1:=by
 have hdrop:((pre++(e++rest)).take c).drop ((pre.length:Nat):Int).toNat=(e++rest).take (c - pre.length):=by
  rw [Int.toNat_natCast,List.drop_take,List.drop_left]
 rw [eA,hdrop]
 by_cases hk:c - pre.length<e.length
 · rw [List.take_append_of_le_length (by omega),hd.part _ hk,if_pos (by decide)]
 · rw [List.take_append,List.take_of_length_le (by omega),hd.all,if_neg (by simp)]
   dsimp only
   rw [←Int.natCast_add,←List.length_append]
   exact h (by rw [List.length_append];omega)
end Go.Proofs.YtejimgikldiajaaGreat
namespace Go.Proofs.YtejimgikldiajaaGreat
open Go.Abs
variable {Q:Msg→Int→Msg×Int×Int}
structure GoodW (w:Msg):Prop where
 p:0≤w.p∧w.p≤2147483647
 n:0≤w.n∧w.n≤2147483647
 r:0≤w.r∧w.r≤2147483647
 o:0≤w.o∧w.o≤2147483647
 g:bM w.g=0
 c:aV w.cf w.ct=0
 b:aV w.bf w.bt=0
 e:aV w.ef w.et=0
 u:w.u.length≤48∧∀r∈w.u,iG r
 v:w.v.length≤100∧∀r∈w.v,(0≤nr r 0∧nr r 0≤2147483647)∧(0≤nr r 1∧nr r 1≤2147483647)
theorem il {α:Type}{z v:α}{d:RL→α×Int×Int}{b e pre rest:RL}{c:Nat}(hd:Cut d v e)(hb:b=(pre++(e++rest)).take c)(hc:pre.length≤c)(K:α→Int→Msg×Int×Int)
 (h:(pre++e).length≤c→(K v ((pre++e).length:Int)).2.2=1):(thn (bx z d b (pre.length:Int) 0) K).2.2=1:=by
 subst hb
 exact Lz hd hc K h
theorem fu {v:Int}{b pre rest:RL}{c:Nat}(hv:0≤v∧v≤2147483647)(hb:b=(pre++(bc (IntKind.wrap .u64 v)++rest)).take c)(hc:pre.length≤c)(K:Int→Int→Msg×Int×Int)
 (h:(pre++bc (IntKind.wrap .u64 v)).length≤c→(K v ((pre++bc (IntKind.wrap .u64 v)).length:Int)).2.2=1):(thn (aW b (pre.length:Int)) K).2.2=1:=
 il (wn hv.1 hv.2) hb hc K h
theorem tT (a n:Int):aP [[.int .i64 a],[.int .i64 n]]=bc (IntKind.wrap .u64 a)++bc (IntKind.wrap .u64 n):=by
 rw [aP,ml]
 rfl
theorem vM {b rest:RL}{c:Nat}(K:RL→Int→Msg×Int×Int):∀(v pre acc:RL),(∀r∈v,(0≤nr r 0∧nr r 0≤2147483647)∧(0≤nr r 1∧nr r 1≤2147483647))→
 b=(pre++(gy v++rest)).take c→pre.length≤c→(∀l,(pre++gy v).length≤c→(K l ((pre++gy v).length:Int)).2.2=1)→(cD b (2*v.length) (pre.length:Int) acc K).2.2=1
 | [],pre,acc,_,_,hc,h=>by
  have:=h acc
  rw [gy,List.append_nil]at this
  exact this hc
 | r::v,pre,acc,hv,hb,hc,h=>by
  obtain⟨g1,g2⟩:=hv r List.mem_cons_self
  rw [gy,tT]at hb h
  rw [List.length_cons,show 2*(v.length+1)=2*v.length+1+1 by omega,cD]
  refine fu (rest:=bc (IntKind.wrap .u64 (nr r 1))++(gy v++rest)) g1 (by rw [hb];simp only [List.append_assoc]) hc _ fun h1=> ?_
  rw [cD]
  refine fu (rest:=gy v++rest) g2 (by rw [hb];simp only [List.append_assoc]) h1 _ fun h2=> ?_
  refine vM (rest:=rest) K v _ _ (fun q hq=>hv q (List.mem_cons_of_mem _ hq)) (by rw [hb];simp only [List.append_assoc]) h2 fun l h3=> ?_
  have:=h l
  simp only [List.append_assoc]at this h3⊢
  exact this h3
theorem IC {b pre e:RL}{c:Nat}(hb:b=(pre++e).take c)(hok:aI b=true)(hc:pre.length≤c):aT b (pre.length:Int)=true:=by
 refine dK hok (by omega) ?_
 rw [hb,List.length_take,List.length_append]
 omega
theorem Fu {w:Msg}(G:GoodW w){b pre rest:RL}{c:Nat}(f:Int)(hf:0≤f∧f≤10)(hb:b=(pre++(iL w f++rest)).take c)(hok:aI b=true)(hc:pre.length≤c)(l:RL)(w':Msg)(hh:f=9→w'.h=w.h)
 (h:∀w'':Msg,(f=8→w''.h=w.h)→(f≠8→w''.h=w'.h)→(pre++iL w f).length≤c→(ea Q (cV b l ((pre++iL w f).length:Int) 0 w'')).2.2=1):
 (ea Q (cV b ([.int .i64 f]::l) (pre.length:Int) 0 w')).2.2=1:=by
 have hk:=IC hb hok hc
 have hcases:f=0∨f=1∨f=2∨f=3∨f=4∨f=5∨f=6∨f=7∨f=8∨f=9∨f=10:=by omega
 rcases hcases with rfl | rfl | rfl | rfl | rfl | rfl | rfl | rfl | rfl | rfl | rfl
 · have he:iL w 0=bc (IntKind.wrap .u64 w.p)++bc (IntKind.wrap .u64 w.n):=tT _ _
   rw [he]at hb h
   rw [ui,fi]
   refine fu (rest:=bc (IntKind.wrap .u64 w.n)++rest) G.p (by rw [hb];simp only [List.append_assoc]) hc _ fun h1=> ?_
   rw [fi]
   refine fu (rest:=rest) G.n (by rw [hb];simp only [List.append_assoc]) h1 _ fun h2=> ?_
   rw [List.append_assoc]at h2⊢
   exact h _ (fun e=>by cases e) (fun _=>rfl) h2
 · have he:iL w 1=bc (IntKind.wrap .u64 w.r):=ml _
   rw [he]at hb h
   rw [bG (ae b _ 0) (fun v=>{w' with r:=v}) rfl,fi]
   exact fu G.r hb hc _ fun h1=>h _ (fun e=>by cases e) (fun _=>rfl) h1
 · have he:iL w 2=bc (IntKind.wrap .u64 w.o):=ml _
   rw [he]at hb h
   rw [bG (ae b _ 0) (fun v=>{w' with o:=v}) rfl,fi]
   exact fu G.o hb hc _ fun h1=>h _ (fun e=>by cases e) (fun _=>rfl) h1
 · rw [bG (xW b _) (fun v=>{w' with g:=v}) rfl]
   exact il (ua G.g) hb hc _ fun h1=>h _ (fun e=>by cases e) (fun _=>rfl) h1
 · rw [bG (rst b _ 0) (fun v=>{w' with u:=v}) rfl,oA hk]
   exact il (IL G.u.1 G.u.2) hb hc _ fun h1=>h _ (fun e=>by cases e) (fun _=>rfl) h1
 · rw [bG (ew b _) (fun v=>{w' with cf:=v.1,ct:=v.2}) rfl]
   exact il (ue G.c) hb hc _ fun h1=>h _ (fun e=>by cases e) (fun _=>rfl) h1
 · have he:iL w 6=bc (IntKind.wrap .u64 (w.v.length:Int))++gy w.v:=by
    show aP _++_=_
    rw [ml]
   rw [he]at hb h
   rw [bG (rvc b _ 0) (fun v=>{w' with v:=v}) rfl,vS]
   have:=G.v.1
   refine fu (v:=(w.v.length:Int)) (rest:=gy w.v++rest) ⟨by omega,by omega⟩ (by rw [hb];simp only [List.append_assoc]) hc _ fun h1=> ?_
   rw [if_neg (by omega),Int.toNat_natCast]
   refine vM (rest:=rest) _ w.v _ _ G.v.2 (by rw [hb];simp only [List.append_assoc]) h1 fun l' h2=> ?_
   rw [List.append_assoc]at h2⊢
   exact h _ (fun e=>by cases e) (fun _=>rfl) h2
 · rw [bG (fq b _) (fun v=>{w' with m:=v}) rfl]
   exact il (yX w.m) hb hc _ fun h1=>h _ (fun e=>by cases e) (fun _=>rfl) h1
 · rw [bG (fq b _) (fun v=>{w' with h:=v}) rfl]
   exact il (yX w.h) hb hc _ fun h1=>h _ (fun _=>rfl) (fun e=>absurd rfl e) h1
 · have hh:=hh rfl
   by_cases hw:w.h=true
   · have he:iL w 9=jj w.bf w.bt:=if_pos hw
     rw [he]at hb h
     rw [bG (ew b _) (fun v=>{w' with bf:=v.1,bt:=v.2}) (by
      show(if w'.h=true then _ else _)=_
      rw [if_pos (by rw [hh];exact hw)];rfl)]
     exact il (ue G.b) hb hc _ fun h1=>h _ (fun e=>by cases e) (fun _=>rfl) h1
   · have he:iL w 9=[]:=if_neg hw
     rw [he]at hb h
     rw [cV]
     have hr:rdF b (pre.length:Int) 0 w' (nr [Cell.int .i64 9] 0)=(w',(pre.length:Int),0):=by
      show(if w'.h=true then _ else _)=_
      rw [if_neg (by rw [hh];exact hw)]
     rw [hr]
     have:=h w' (fun e=>by cases e) (fun _=>rfl)
     rw [List.append_nil]at this
     exact this hc
 · rw [bG (ew b _) (fun v=>{w' with ef:=v.1,et:=v.2}) rfl]
   exact il (ue G.e) hb hc _ fun h1=>h _ (fun e=>by cases e) (fun _=>rfl) h1
end Go.Proofs.YtejimgikldiajaaGreat
namespace Go.Proofs.YtejimgikldiajaaGreat
open Go.Abs
variable {Q:Msg→Int→Msg×Int×Int}
def isN :List Cell→Bool
 | [.int .i64 _]=>true
 | _=>false
theorem NO {r:List Cell}(h:isN r=true):r=[.int .i64 (nr r 0)]:=by
 unfold isN at h
 split at h
 · rfl
 · cases h
def okF :RL→Bool→Bool
 | [],_=>true
 | r::l,known=>isN r&&(decide (0≤nr r 0)&&(decide (nr r 0≤10)&&((!(nr r 0==9) || known)&&okF l (known || (nr r 0==8)))))
theorem sD {w:Msg}(G:GoodW w){b:RL}{c:Nat}(hok:aI b=true):∀(l pre:RL) (known:Bool) (w':Msg),okF l known=true→b=(pre++iz w l).take c→pre.length≤c→c<(pre++iz w l).length→(known=true→w'.h=w.h)→
 (ea Q (cV b l (pre.length:Int) 0 w')).2.2=1
 | [],pre,known,w',_,_,hc,hl,_=>by
  rw [iz,List.append_nil]at hl
  omega
 | r::l,pre,known,w',ho,hb,hc,hl,hkn=>by
  rw [okF]at ho
  simp only [Bool.and_eq_true,decide_eq_true_eq,Bool.or_eq_true,Bool.not_eq_true',beq_eq_false_iff_ne]at ho
  obtain⟨h1,h2,h3,h4,h5⟩:=ho
  replace h1:=NO h1
  rw [iz]at hb hl
  generalize nr r 0=f at*
  subst h1
  refine Fu G f ⟨h2,h3⟩ hb hok hc l w' (fun e=> ?_) fun w'' g8 gn hle=> ?_
  · rcases h4 with h4 | h4
    · exact absurd e h4
    · exact hkn h4
  · refine sD G hok l (pre++iL w f) (known || (f==8)) w'' h5 (by rw [hb,List.append_assoc]) hle (by rw [List.append_assoc];exact hl) fun hk=> ?_
    by_cases e8:f=8
    · exact g8 e8
    · rw [gn e8]
      refine hkn ?_
      rw [beq_false_of_ne e8,Bool.or_false]at hk
      exact hk
theorem EX {k:Int}(h:¬(k<1∨8<k)):okF (be k) false=true:=by
 have:k=1∨k=2∨k=3∨k=4∨k=5∨k=6∨k=7∨k=8:=by omega
 rcases this with rfl | rfl | rfl | rfl | rfl | rfl | rfl | rfl<;>rfl
theorem Kr {w:Msg}(G:GoodW w)(hk:¬(w.k<1∨8<w.k))(hf:0≤w.f∧w.f≤2147483647)(ht:0≤w.t∧w.t≤2147483647){c:Nat}(hok:aI ((oE w).take c)=true)(hc:c<(oE w).length):(aL ((oE w).take c)).2.2=1:=by
 have hE:oE w=[]++(bc (IntKind.wrap .u64 w.k)++(bc (IntKind.wrap .u64 w.f)++(bc (IntKind.wrap .u64 w.t)++iz w (be w.k)))):=by
  unfold oE
  rw [aP,tT]
  simp only [List.append_assoc,List.nil_append]
  rfl
 rw [Ag hok]
 generalize hb:(oE w).take c=b at*
 rw [hE]at hb hc
 unfold HP
 show(thn (aW b (([]:RL).length:Int)) _).2.2=1
 refine fu (rest:=bc (IntKind.wrap .u64 w.f)++(bc (IntKind.wrap .u64 w.t)++iz w (be w.k))) (v:=w.k) ⟨by omega,by omega⟩ hb.symm (by simp) _ fun h1=> ?_
 rw [if_neg hk]
 refine fu (rest:=bc (IntKind.wrap .u64 w.t)++iz w (be w.k)) hf (by rw [←hb];simp only [List.append_assoc]) h1 _ fun h2=> ?_
 refine fu (rest:=iz w (be w.k)) ht (by rw [←hb];simp only [List.append_assoc]) h2 _ fun h3=> ?_
 refine sD G hok (be w.k) _ false _ (EX hk) (by rw [←hb];simp only [List.append_assoc]) h3 ?_ fun e=>by cases e
 simp only [List.append_assoc]
 exact hc
end Go.Proofs.YtejimgikldiajaaGreat
namespace Go.Proofs.YtejimgikldiajaaGreat
open Go.Abs
theorem xX {c:RL}(h:FitU c):c.length≤48:=G6 h.valid
theorem ND {s:RL}(h:FitU s):(gf s).length≤100∧∀r∈gf s,(0≤nr r 0∧nr r 0≤2147483647)∧(0≤nr r 1∧nr r 1≤2147483647):=by
 have hl:=xX h
 refine⟨by have:=(zq s).2;omega,fun r hr=> ?_⟩
 rw [Ec h.vld (by omega)]at hr
 have hv:=D1 h.vld
 have hi:VInv s (Jy s):=ph s [] [] (by simpa using h.vld) uK
 obtain⟨_,g1,g2,g3⟩:=hv.ents r hr
 obtain⟨q,hq,e⟩:=hi.most r hr
 have:=fc (h.upd q hq)
 exact⟨⟨by omega,by omega⟩,by omega,by omega⟩
theorem E5 {p s:RL}(hp:Fit p)(hs:FitU s)(hu:∀r∈s,iG r)(ki ni mi:Int):GoodW (fy p s ki ni mi):=by
 have d3:=ay ni 3 4 (by omega)
 have d4:=ay ni 2 9 (by omega)
 have d5:=ay ni 2 10 (by omega)
 have d6:=ay mi 3 9 (by omega)
 have hS:=Bw hs ni
 have z0:(0:Int)≤0∧(0:Int)≤2147483647:=by decide
 have zp:(0:Int)≤101+ad ni 3 4∧101+ad ni 3 4≤2147483647:=by omega
 have zn:(0:Int)≤1+ad ni 2 9∧1+ad ni 2 9≤2147483647:=by omega
 have zr:(0:Int)≤1+ad ni 2 10∧1+ad ni 2 10≤2147483647:=by omega
 have zo:(0:Int)≤1+ad mi 3 9∧1+ad mi 3 9≤2147483647:=by omega
 have g0:bM []=0:=rfl
 have c0:aV [] []=0:=rfl
 have u0:([]:RL).length≤48∧∀r∈([]:RL),iG r:=⟨by decide,fun r hr=>by cases hr⟩
 have v0:([]:RL).length≤100∧∀r∈([]:RL),(0≤nr r 0∧nr r 0≤2147483647)∧(0≤nr r 1∧nr r 1≤2147483647):=⟨by decide,fun r hr=>by cases hr⟩
 have u1:(bP s ni).length≤48∧∀r∈bP s ni,iG r:=⟨xX hS,fun r hr=>hu r (List.mem_filter.1 hr).1⟩
 have g1:bM (bv p mi)=0:=(lC hp mi).valid
 have c1:=iu hp mi
 have hb:aV (if 0<ad mi 3 12 then(gC p (aK mi 1099511627776 / 16)).1 else []) (if 0<ad mi 3 12 then(gC p (aK mi 1099511627776 / 16)).2 else [])=0:=by
  by_cases h:0<ad mi 3 12
  · rw [if_pos h,if_pos h];exact iu hp _
  · rw [if_neg h,if_neg h];rfl
 have he:=iu hp (aK mi 1099511627776 / 1024)
 have u2:(iR s (gf (bP s ni)) 4).1.length≤48∧∀r∈(iR s (gf (bP s ni)) 4).1,iG r:=by
  have hsub:((iR s (gf (bP s ni)) 4).1).Sublist s:=by
   rw [CQ]
   exact(List.take_sublist _ _).trans List.filter_sublist
  exact⟨Nat.le_trans hsub.length_le (xX hs),fun r hr=>hu r (hsub.subset hr)⟩
 unfold fy
 dsimp only
 by_cases k1:1+aK ki 8=1
 · rw [if_pos k1]
   refine⟨zp,zn,zr,zo,g1,c0,c0,c0, ?_,v0⟩
   dsimp only
   by_cases ho:1+ad mi 3 9=1
   · rw [if_pos ho];exact u0
   · rw [if_neg ho];exact u1
 rw [if_neg k1]
 by_cases k2:1+aK ki 8=2
 · rw [if_pos k2];exact⟨zp,zn,zr,z0,g1,c0,hb,he,u1,v0⟩
 rw [if_neg k2]
 by_cases k4:1+aK ki 8=4
 · rw [if_pos k4];exact⟨z0,z0,z0,z0,g0,c1,c0,c0,u0,ND hS⟩
 rw [if_neg k4]
 by_cases k5:1+aK ki 8=5
 · rw [if_pos k5];exact⟨z0,z0,z0,z0,g0,c1,hb,he,u2,v0⟩
 rw [if_neg k5]
 exact⟨z0,z0,z0,z0,g0,c1,c0,c0,u0,v0⟩
theorem Fi (p s:RL)(ki ni mi:Int):(fy p s ki ni mi).k=1+aK ki 8∧(0≤(fy p s ki ni mi).f∧(fy p s ki ni mi).f≤2147483647)∧(0≤(fy p s ki ni mi).t∧(fy p s ki ni mi).t≤2147483647):=by
 have d1:=ay ni 6 0 (by omega)
 have d2:=ay ni 6 1 (by omega)
 have d3:=ay ni 3 4 (by omega)
 have zf:(0:Int)≤1+ad ni 6 0∧1+ad ni 6 0≤2147483647:=by omega
 have zt:(0:Int)≤1+ad ni 6 1∧1+ad ni 6 1≤2147483647:=by omega
 have zp:(0:Int)≤101+ad ni 3 4∧101+ad ni 3 4≤2147483647:=by omega
 unfold fy
 dsimp only
 by_cases k1:1+aK ki 8=1
 · rw [if_pos k1];exact⟨rfl,zp,zt⟩
 rw [if_neg k1]
 by_cases k2:1+aK ki 8=2
 · rw [if_pos k2];exact⟨rfl,zf,zp⟩
 rw [if_neg k2]
 by_cases k4:1+aK ki 8=4
 · rw [if_pos k4];exact⟨rfl,zf,zt⟩
 rw [if_neg k4]
 by_cases k5:1+aK ki 8=5
 · rw [if_pos k5];exact⟨rfl,zf,zt⟩
 rw [if_neg k5]
 exact⟨rfl,zf,zt⟩
end Go.Proofs.YtejimgikldiajaaGreat
namespace Go.Proofs.YtejimgikldiajaaGreat
open Go.Abs
theorem C4 {r:List Cell}(h:iG r):sY r=true:=by
 have h1:=fc h.1
 have h2:=CD h.1 h.2
 unfold sY
 rw [h2,decide_eq_true (by omega)]
 rfl
theorem jy {c:RL}(h:bM c=0):ao c=true:=by
 have h9:=j9 h
 refine dW (by omega) (List.all_eq_true.2 fun r hr=> ?_)
 have:=List.all_eq_true.1 (pQ h) r hr
 unfold lI at this
 unfold kd
 simp only [decide_eq_true_eq]at this⊢
 omega
theorem ID {u:RL}(hl:u.length≤48)(h:∀r∈u,iG r):eG u=true:=by
 refine kX (by omega) (List.all_eq_true.2 fun r hr=> ?_)
 have:=(fc (h r hr).1)
 unfold kw
 simp only [decide_eq_true_eq]
 omega
theorem GoodW.ok {w:Msg}(G:GoodW w):okW w=true:=by
 obtain⟨c1,c2⟩:=mH G.c
 obtain⟨b1,b2⟩:=mH G.b
 obtain⟨e1,e2⟩:=mH G.e
 exact nk (jy c1) (jy c2) (jy b1) (jy b2) (jy e1) (jy e2) (jy G.g) (ID G.u.1 G.u.2) (fE (by have:=G.v.1;omega))
theorem OH {c:RL}(h:bM c=0){x:RL}(hx:x.length≤100000):dq x c=true:=by
 have h9:=j9 h
 unfold dq
 rw [pQ h,decide_eq_true hx,decide_eq_true (show c.length≤100 by omega)]
 rfl
theorem Oe {f t:RL}(h:aV f t=0):en [] f t=true:=by
 obtain⟨h1,h2⟩:=mH h
 unfold en
 have:=oz h1
 rw [OH h1 (by simp),OH h2 (by rw [List.nil_append];omega)]
 rfl
theorem GoodW.em {w:Msg}(G:GoodW w):rH w=true:=by
 have h0:okM w.cf w.ct w.bf w.bt w.ef w.et w.g w.u w.v=true:=G.ok
 have hu:w.u.all sY=true:=List.all_eq_true.2 fun r hr=>C4 (G.u.2 r hr)
 unfold rH
 rw [h0,OH G.g (by simp),Oe G.c,Oe G.b,Oe G.e,hu,decide_eq_true (show w.u.length≤100 by have:=G.u.1;omega),decide_eq_true (show w.v.length≤1000 by have:=G.v.1;omega)]
 rfl
theorem od {f t:RL}(h:aV f t=0):(jj f t).length≤140620:=by
 obtain⟨h1,h2⟩:=mH h
 have:=oz h1
 have:=oz h2
 unfold jj
 rw [List.length_append]
 omega
theorem wK :∀(v:RL),okB (gy v)=true
 | []=>rfl
 | r::v=>dG (fp _) (wK v)
theorem Ko {w:Msg}(G:GoodW w)(f:Int):(iL w f).length≤150000∧okB (iL w f)=true:=by
 have hu:w.u.all sY=true:=List.all_eq_true.2 fun r hr=>C4 (G.u.2 r hr)
 have a1:=cG [[.int .i64 (w.u.length:Int)]]
 have a2:=cG [[.int .i64 (w.v.length:Int)]]
 have b0:=cG [[.int .i64 w.p],[.int .i64 w.n]]
 have b1:=cG [[.int .i64 w.r]]
 have b2:=cG [[.int .i64 w.o]]
 have q1:=oz G.g
 have q2:=od G.c
 have q3:=od G.b
 have q4:=od G.e
 have q5:=n9 w.u hu
 have q6:=uv w.v
 have l1:=G.u.1
 have l2:=G.v.1
 have tB:∀f t,okB (jj f t)=true:=fun f t=>dG (tj f) (tj t)
 have bB:∀b,okB (o9 b)=true:=fun b=>by cases b<;>rfl
 have bL:∀b,(o9 b).length=1:=fun b=>rfl
 simp only [List.length_cons,List.length_nil]at a1 a2 b0 b1 b2
 unfold iL
 by_cases c0:f=0
 · rw [if_pos c0];exact⟨by omega,fp _⟩
 rw [if_neg c0]
 by_cases c1:f=1
 · rw [if_pos c1];exact⟨by omega,fp _⟩
 rw [if_neg c1]
 by_cases c2:f=2
 · rw [if_pos c2];exact⟨by omega,fp _⟩
 rw [if_neg c2]
 by_cases c3:f=3
 · rw [if_pos c3];exact⟨by omega,tj _⟩
 rw [if_neg c3]
 by_cases c4:f=4
 · rw [if_pos c4];exact⟨by rw [List.length_append];omega,dG (fp _) (rl _ G.u.2)⟩
 rw [if_neg c4]
 by_cases c5:f=5
 · rw [if_pos c5];exact⟨by omega,tB _ _⟩
 rw [if_neg c5]
 by_cases c6:f=6
 · rw [if_pos c6];exact⟨by rw [List.length_append];omega,dG (fp _) (wK _)⟩
 rw [if_neg c6]
 by_cases c7:f=7
 · rw [if_pos c7];exact⟨by rw [bL];omega,bB _⟩
 rw [if_neg c7]
 by_cases c8:f=8
 · rw [if_pos c8];exact⟨by rw [bL];omega,bB _⟩
 rw [if_neg c8]
 by_cases c9:f=9
 · rw [if_pos c9]
   by_cases hh:w.h=true
   · rw [if_pos hh];exact⟨by omega,tB _ _⟩
   · rw [if_neg hh];exact⟨by rw [List.length_nil];omega,rfl⟩
 rw [if_neg c9]
 exact⟨by omega,tB _ _⟩
theorem Bb {w:Msg}(G:GoodW w):∀(l:RL),(iz w l).length≤150000*l.length∧okB (iz w l)=true
 | []=>⟨by simp [iz],rfl⟩
 | r::l=>by
  have h1:=Ko G (nr r 0)
  have h2:=Bb G l
  rw [iz,List.length_append,List.length_cons]
  exact⟨by omega,dG h1.2 h2.2⟩
theorem Lx {w:Msg}(G:GoodW w):(oE w).length≤1050030∧okB (oE w)=true∧0<(oE w).length:=by
 have h0:=cG [[.int .i64 w.k],[.int .i64 w.f],[.int .i64 w.t]]
 have h1:=Bb G (be w.k)
 have h2:=m0 w.k
 have h3:0<(aP [[.int .i64 w.k],[.int .i64 w.f],[.int .i64 w.t]]).length:=by
  rw [aP,List.length_append]
  have:=Hj (IntKind.wrap .u64 (nr [Cell.int .i64 w.k] 0))
  omega
 simp only [List.length_cons,List.length_nil]at h0
 unfold oE
 rw [List.length_append]
 exact⟨by omega,dG (fp _) h1.2,by omega⟩
end Go.Proofs.YtejimgikldiajaaGreat
namespace Go.Proofs.YtejimgikldiajaaGreat
open Go.Abs
theorem Lu {x:RL}(h:okB x=true){i:Nat}(hi:i<x.length){v:Int}(h0:0≤v)(h1:v<256):okB (x.set i (dT (rA x i) 0 [Cell.int .u8 v]))=true:=by
 refine List.all_eq_true.2 fun r hr=> ?_
 rcases List.mem_or_eq_of_mem_set hr with hr | rfl
 · exact List.all_eq_true.1 h r hr
 · have hm:=List.all_eq_true.1 h _ (List.getElem_mem hi)
   rw [←cg hi]at hm
   generalize rA x i=q at hm
   unfold nK at hm
   split at hm
   · show(decide (0≤v)&&decide (v<256))=true
     rw [decide_eq_true h0,decide_eq_true h1]
     rfl
   · cases hm
theorem Rk (l u:RL)(ki ni mi av wi:Int)(cut:Bool)(h:(decide (l.length<4611686018427387904)&&(decide (u.length<4611686018427387904)&&(decide (0≤av)&&(decide (av<65536)&&(decide (0≤wi)&&decide (wi<256))))))=true):
 aj E (aa L4) 1 5 [.one (.sl false 3 l),.one (.sl false 3 u),.one (.int .i64 ki),.one (.int .i64 ni),.one (.int .i64 mi),.one (.int .u16 av),.one (.int .u8 wi),.one (.bool cut)] []=some ([.one (.bool true)],[]):=by
 simp only [Bool.and_eq_true,decide_eq_true_eq]at h
 obtain⟨h1,h2,h3,h4,h5,h6⟩:=h
 have hp:=JF l
 have hs:=E0 u
 have hu:=(Ak u).1
 have i8:=iO ki 8 (by omega)
 have G:=E5 hp hs hu ki ni mi
 have hv:=CA hp hs ki ni mi
 obtain⟨e1,e2,e3⟩:=Fi (pj l) (jp u) ki ni mi
 rw [e5]
 dsimp only
 generalize fy (pj l) (jp u) ki ni mi=w at*
 have hw:Msg.mk w.k w.f w.t w.p w.n w.r w.o w.cf w.ct w.bf w.bt w.h w.ef w.et w.g w.u w.v w.m=w:=rfl
 rw [hw]
 obtain⟨m1,m2,m3⟩:=Lx G
 have hcut:=fun(c:Nat) ho hc=>Kr G (by omega) e2 e3 (c:=c) ho hc
 simp only [List.nil_append,List.length_nil,Nat.zero_add]
 generalize oE w=B at*
 have hwr:IntKind.wrap .i64 av=av:=aA (by omega) (by omega)
 rw [hwr]
 have hz0:0≤Int.tmod av (B.length:Int):=Int.tmod_nonneg _ h3
 have hz1:Int.tmod av (B.length:Int)<B.length:=Int.tmod_lt_of_pos _ (by omega)
 generalize Int.tmod av (B.length:Int)=z at*
 refine ct (decide_eq_true h1) (ct (decide_eq_true (by omega)) (ct (by rw [hp.cf,hs.cf];rfl) (ct G.ok (cf (bne_eq_false_iff_eq.2 hv) (ct G.em (cf (beq_false_of_ne (by omega)) (cf (decide_eq_false (by omega)) (ct (bh (by omega)) ?_))))))))
 have fin:∀(x:RL),aI x=true→(cut=true→(aL x).2.2=1)→
  cond (okM (aL x).1.cf (aL x).1.ct (aL x).1.bf (aL x).1.bt (aL x).1.ef (aL x).1.et (aL x).1.g (aL x).1.u (aL x).1.v)
   (cond (eqW (aL x).1 (aL x).1) (cond ((aL x).2.1==(aL x).2.1) (cond ((aL x).2.2==(aL x).2.2) (cond (!cut) (some ([AV.one (AC.bool true)],([]:List Block))) (cond ((aL x).2.2==1) (some ([AV.one (AC.bool true)],[])) (some ([AV.one (AC.bool false)],[])))) (some ([AV.one (AC.bool false)],[]))) (some ([AV.one (AC.bool false)],[]))) (some ([AV.one (AC.bool false)],[]))) none=some ([AV.one (AC.bool true)],[]):=by
  intro x hx hc
  refine ct (C5 hx).1 (ct (Bm _) (ct (beq_iff_eq.2 rfl) (ct (beq_iff_eq.2 rfl) ?_)))
  cases cut with
  | false=>exact ct rfl rfl
  | true=>exact cf rfl (ct (beq_iff_eq.2 (hc rfl)) rfl)
 have okR:∀x:RL,okB x=true→x.length≤1050030→aI x=true:=fun x hb hl=>by
  unfold aI jG
  rw [hb,decide_eq_true (by omega)]
  rfl
 by_cases hc:cut=true
 · have hsub:dA B 0 z.toNat=B.take z.toNat:=by simp only [dA,bp,aN,List.drop_zero]
   rw [hsub]
   have ho:aI (B.take z.toNat)=true:=okR _ (Id m2 _) (by rw [List.length_take];omega)
   refine ct hc (ct (by simpa using m3) (ct (aC (by omega) (by omega)) (ct (by simp;omega) (ct ho (ct ho ?_)))))
   exact fin _ ho fun _=>hcut z.toNat ho (by omega)
 · rw [de]
   have hl:(B.set z.toNat (dT (rA B z.toNat) 0 [Cell.int .u8 wi])).length=B.length:=List.length_set ..
   have ho:aI (B.set z.toNat (dT (rA B z.toNat) 0 [Cell.int .u8 wi]))=true:=okR _ (Lu m2 (by omega) h5 h6) (by rw [hl];omega)
   refine cf (by cases cut<;>simp_all) (ct (aC (by omega) (by omega)) (ct (by simp;omega) (ct (by rw [hl];simp) (ct ho (ct (by rw [hl];simp) (ct ho ?_))))))
   exact fin _ ho fun h=>absurd h hc
end Go.Proofs.YtejimgikldiajaaGreat
namespace Go.Proofs.YtejimgikldiajaaGreat
open Go.Abs
set_option maxRecDepth 20000
theorem aw :run E 200 7 [] []=(true,([.one (.bool true)],[])):=by kernel_rfl
end Go.Proofs.YtejimgikldiajaaGreat
namespace Go.Proofs.YtejimgikldiajaaGreat
open Go.Abs
theorem Q3 :VS E M6 L 138:=by
 intro _ _ _ h
 unfold M6 at h
 split at h
 · obtain⟨g,rfl⟩:=ah h
   exact⟨1,.inl (Ri _ _ _ _)⟩
 · cases h
theorem QE :VS E Oz Iq 139:=by
 intro _ _ _ h
 unfold Oz at h
 split at h
 · obtain⟨g,rfl⟩:=ah h
   exact⟨1,.inl (Ts _ _ _)⟩
 · cases h
theorem v65 :VS E s65 FS 65:=by
 intro _ _ _ h
 unfold s65 at h
 split at h
 · obtain⟨g,rfl⟩:=ah h
   exact⟨1,.inl (k65 _)⟩
 · cases h
theorem v67 :VS E s67 L65 67:=by
 intro _ _ _ h
 unfold s67 at h
 split at h
 · obtain⟨g,rfl⟩:=ah h
   exact⟨1,.inl (k67 _)⟩
 · cases h
theorem Rx :VS E N9 L67 145:=by
 intro _ _ _ h
 unfold N9 at h
 split at h
 · obtain⟨g,rfl⟩:=ah h
   exact⟨1,.inl (Rc _ _ _)⟩
 · cases h
theorem QY :VS E Ni Io 125:=by
 intro _ _ _ h
 unfold Ni at h
 split at h
 · obtain⟨g,rfl⟩:=ah h
   exact⟨1,.inl (Sk _ _ _ _ _ _ _)⟩
 · cases h
theorem Te :VS E NL df 133:=by
 intro _ _ _ h
 unfold NL at h
 split at h
 · obtain⟨g,rfl⟩:=ah h
   exact⟨6,.inl (Qd _ _ _ _ _ _ _)⟩
 · cases h
theorem SY :VS E NE nY 107:=by
 intro _ _ _ h
 unfold NE at h
 split at h
 · obtain⟨g,rfl⟩:=ah h
   obtain⟨n,hn⟩:=Sh _ _ _ (of_decide_eq_true g)
   exact⟨n,.inl hn⟩
 · cases h
theorem RB :VS E NJ eQ 112:=by
 intro _ _ _ h
 unfold NJ at h
 split at h
 · obtain⟨g,rfl⟩:=ah h
   obtain⟨n,hn⟩:=Q9 _ _ _ (of_decide_eq_true g)
   exact⟨n,.inl hn⟩
 · cases h
theorem QU :VS E Nh JK 140:=by
 intro _ _ _ h
 unfold Nh at h
 split at h
 · obtain⟨g,rfl⟩:=ah h
   exact⟨1,.inl (Rd _)⟩
 · cases h
theorem RP :VS E Nf Je 127:=by
 intro _ _ _ h
 unfold Nf at h
 split at h
 · obtain⟨g,rfl⟩:=ah h
   exact⟨1,.inl (Qn _ _)⟩
 · cases h
theorem SZ :VS E O3 xe 126:=by
 intro _ _ _ h
 unfold O3 at h
 split at h
 · obtain⟨g,rfl⟩:=ah h
   obtain⟨n,hn⟩:=SR _ (of_decide_eq_true g)
   exact⟨n,.inl hn⟩
 · cases h
theorem S3 :VS E NW JC 108:=by
 intro _ _ _ h
 unfold NW at h
 split at h
 · obtain⟨g,rfl⟩:=ah h
   exact⟨1,.inl (SQ _ _ _ _ _ _)⟩
 · cases h
theorem Rl :VS E Nm IZ 113:=by
 intro _ _ _ h
 unfold Nm at h
 split at h
 · obtain⟨g,rfl⟩:=ah h
   exact⟨1,.inl (Q7 _ _ _ _ _ _)⟩
 · cases h
theorem v91 :VS E s91 xp 91:=by
 intro _ _ _ h
 unfold s91 at h
 split at h
 · obtain⟨g,rfl⟩:=ah h
   obtain⟨n,hn⟩:=k91 _ _ _ _ _ _ (of_decide_eq_true g)
   exact⟨n,.inl hn⟩
 · cases h
theorem v98 :VS E s98 L91 98:=by
 intro _ _ _ h
 unfold s98 at h
 split at h
 · obtain⟨g,rfl⟩:=ah h
   obtain⟨n,hn⟩:=k98 _ _ g
   exact⟨n,.inl hn⟩
 · obtain⟨g,rfl⟩:=ah h
   obtain⟨n,hn⟩:=QK _ g
   exact⟨n,.inl hn⟩
 · cases h
theorem v76 :VS E s76 L98 76:=by
 intro _ _ _ h
 unfold s76 at h
 split at h
 · obtain⟨g,rfl⟩:=ah h
   obtain⟨n,hn⟩:=k76 _ g
   exact⟨n,.inl hn⟩
 · cases h
theorem v85 :VS E s85 L76 85:=by
 intro _ _ _ h
 unfold s85 at h
 split at h
 · obtain⟨g,rfl⟩:=ah h
   obtain⟨n,hn⟩:=k85 _ g
   exact⟨n,.inl hn⟩
 · cases h
theorem R2 :VS E NN L85 134:=by
 intro _ _ _ h
 unfold NN at h
 split at h
 · obtain⟨g,rfl⟩:=ah h
   exact⟨1,.inl (RM _ _ _ g)⟩
 · cases h
theorem SU :VS E Ow jx 122:=by
 intro _ _ _ h
 unfold Ow at h
 split at h
 · obtain⟨g,rfl⟩:=ah h
   obtain⟨n,hn⟩:=SF _ _ _ _ g
   exact⟨n,.inl hn⟩
 · obtain⟨g,rfl⟩:=ah h
   obtain⟨n,hn⟩:=PA _ _ _ g
   exact⟨n,.inl hn⟩
 · cases h
theorem QD :VS E Nc qc 116:=by
 intro _ _ _ h
 unfold Nc at h
 split at h
 · obtain⟨g,rfl⟩:=ah h
   obtain⟨n,hn⟩:=Qu _ g
   exact⟨n,.inl hn⟩
 · cases h
theorem v33 :VS E s33 Gh 33:=by
 intro _ _ _ h
 unfold s33 at h
 split at h
 · obtain⟨g,rfl⟩:=ah h
   exact⟨1,.inl (k33 _ g)⟩
 · cases h
theorem v34 :VS E s34 L33 34:=by
 intro _ _ _ h
 unfold s34 at h
 split at h
 · obtain⟨g,rfl⟩:=ah h
   obtain⟨n,hn⟩:=k34 _ _ g
   exact⟨n,.inl hn⟩
 · cases h
theorem Rz :VS E Od L34 119:=by
 intro _ _ _ h
 unfold Od at h
 split at h
 · obtain⟨g,rfl⟩:=ah h
   obtain⟨n,hn⟩:=Q4 _ g
   exact⟨n,.inl hn⟩
 · cases h
theorem v41 :VS E s41 IO 41:=by
 intro _ _ _ h
 unfold s41 at h
 split at h
 · obtain⟨g,rfl⟩:=ah h
   exact⟨1,.inl (k41 _ _ (of_decide_eq_true g))⟩
 · cases h
theorem v42 :VS E s42 L41 42:=by
 intro _ _ _ h
 unfold s42 at h
 split at h
 · obtain⟨g,rfl⟩:=ah h
   simp only [Bool.and_eq_true,decide_eq_true_eq]at g
   obtain⟨n,hn⟩:=k42 _ _ _ g.1 g.2
   exact⟨n,.inl hn⟩
 · cases h
theorem v48 :VS E s48 L42 48:=by
 intro _ _ _ h
 unfold s48 at h
 split at h
 · obtain⟨g,rfl⟩:=ah h
   exact⟨1,.inl (k48 _ _ (of_decide_eq_true g))⟩
 · cases h
theorem v96 :VS E s96 L48 96:=by
 intro _ _ _ h
 unfold s96 at h
 split at h
 · obtain⟨g,rfl⟩:=ah h
   exact⟨1,.inl (k96 _)⟩
 · cases h
theorem v49 :VS E s49 L96 49:=by
 intro _ _ _ h
 unfold s49 at h
 split at h
 · obtain⟨g,rfl⟩:=ah h
   exact⟨1,.inl (k49 _)⟩
 · cases h
theorem v14 :VS E s14 L49 14:=by
 intro _ _ _ h
 unfold s14 at h
 split at h
 · obtain⟨g,rfl⟩:=ah h
   obtain⟨n,hn⟩:=k14 _ (of_decide_eq_true g)
   exact⟨n,.inl hn⟩
 · cases h
theorem v61 :VS E s61 L14 61:=by
 intro _ _ _ h
 unfold s61 at h
 split at h
 · obtain⟨g,rfl⟩:=ah h
   obtain⟨n,hn⟩:=k61 _ g
   exact⟨n,.inl hn⟩
 · cases h
theorem v70 :VS E s70 L61 70:=by
 intro _ _ _ h
 unfold s70 at h
 split at h
 · obtain⟨g,rfl⟩:=ah h
   obtain⟨n,hn⟩:=k70 _ g
   exact⟨n,.inl hn⟩
 · cases h
theorem v38 :VS E s38 L70 38:=by
 intro _ _ _ h
 unfold s38 at h
 split at h
 · obtain⟨g,rfl⟩:=ah h
   obtain⟨n,hn⟩:=k38 _ _ g
   exact⟨n,.inl hn⟩
 · cases h
theorem v99 :VS E s99 L38 99:=by
 intro _ _ _ h
 unfold s99 at h
 split at h
 · obtain⟨g,rfl⟩:=ah h
   obtain⟨n,hn⟩:=k99 _ _ g
   exact⟨n,.inl hn⟩
 · obtain⟨g,rfl⟩:=ah h
   obtain⟨n,hn⟩:=Qv _ g
   exact⟨n,.inl hn⟩
 · cases h
theorem v78 :VS E s78 L99 78:=by
 intro _ _ _ h
 unfold s78 at h
 split at h
 · obtain⟨g,rfl⟩:=ah h
   obtain⟨n,hn⟩:=k78 _ g
   exact⟨n,.inl hn⟩
 · cases h
theorem v86 :VS E s86 L78 86:=by
 intro _ _ _ h
 unfold s86 at h
 split at h
 · obtain⟨g,rfl⟩:=ah h
   obtain⟨n,hn⟩:=k86 _ g
   exact⟨n,.inl hn⟩
 · cases h
theorem v95 :VS E s95 L86 95:=by
 intro _ _ _ h
 unfold s95 at h
 split at h
 · obtain⟨g,rfl⟩:=ah h
   obtain⟨n,hn⟩:=k95 _ _ g
   exact⟨n,.inl hn⟩
 · cases h
theorem v94 :VS E s94 L95 94:=by
 intro _ _ _ h
 unfold s94 at h
 split at h
 · obtain⟨g,rfl⟩:=ah h
   obtain⟨n,hn⟩:=k94 _ _ _ g
   exact⟨n,.inl hn⟩
 · cases h
theorem v40 :VS E s40 L94 40:=by
 intro _ _ _ h
 unfold s40 at h
 split at h
 · obtain⟨g,rfl⟩:=ah h
   obtain⟨n,hn⟩:=k40 _ _ g
   exact⟨n,.inl hn⟩
 · cases h
theorem v27 :VS E s27 L40 27:=by
 intro _ _ _ h
 unfold s27 at h
 split at h
 · obtain⟨g,rfl⟩:=ah h
   obtain⟨n,hn⟩:=k27 _ g
   exact⟨n,.inl hn⟩
 · cases h
theorem v93 :VS E s93 L27 93:=by
 intro _ _ _ h
 unfold s93 at h
 split at h
 · obtain⟨g,rfl⟩:=ah h
   obtain⟨n,hn⟩:=k93 _ _ g
   exact⟨n,.inl hn⟩
 · cases h
theorem v43 :VS E s43 L93 43:=by
 intro _ _ _ h
 unfold s43 at h
 split at h
 · obtain⟨g,rfl⟩:=ah h
   obtain⟨n,hn⟩:=k43 _ _ g
   exact⟨n,.inl hn⟩
 · cases h
theorem Q5 :VS E Nt L43 144:=by
 intro _ _ _ h
 unfold Nt at h
 split at h
 · obtain⟨g,rfl⟩:=ah h
   exact⟨1,.inl (Tx _ _ _ _ _ _ _ _ _ _ _ _ _ _)⟩
 · cases h
theorem SV :VS E Nw yG 132:=by
 intro _ _ _ h
 unfold Nw at h
 split at h
 · obtain⟨g,rfl⟩:=ah h
   obtain⟨n,hn⟩:=RZ _ _ _ _ _ _ (of_decide_eq_true g)
   exact⟨n,.inl hn⟩
 · cases h
theorem Tq :VS E OX Ji 131:=by
 intro _ _ _ h
 unfold OX at h
 split at h
 · obtain⟨g,rfl⟩:=ah h
   exact⟨1,.inl (RC _ _ _ _ _ _ (of_decide_eq_true g))⟩
 · cases h
theorem Tm :VS E OM xw 143:=by
 intro _ _ _ h
 unfold OM at h
 split at h
 · obtain⟨g,rfl⟩:=ah h
   obtain⟨n,hn⟩:=RW _ _ _ _ g
   exact⟨n,.inl hn⟩
 · cases h
theorem SL :VS E OG IG 130:=by
 intro _ _ _ h
 unfold OG at h
 split at h
 · obtain⟨g,rfl⟩:=ah h
   exact⟨1,.inl (Qw _ _ _ _ g)⟩
 · cases h
theorem Qk :VS E Og x9 111:=by
 intro _ _ _ h
 unfold Og at h
 split at h
 · obtain⟨g,rfl⟩:=ah h
   obtain⟨n,hn⟩:=Sz _ _ g
   exact⟨n,.inl hn⟩
 · cases h
theorem v72 :VS E s72 nE 72:=by
 intro _ _ _ h
 unfold s72 at h
 split at h
 · obtain⟨g,rfl⟩:=ah h
   obtain⟨n,hn⟩:=k72 _ _ g
   exact⟨n,.inl hn⟩
 · cases h
theorem v63 :VS E s63 L72 63:=by
 intro _ _ _ h
 unfold s63 at h
 split at h
 · obtain⟨g,rfl⟩:=ah h
   obtain⟨n,hn⟩:=k63 _ _ g
   exact⟨n,.inl hn⟩
 · cases h
theorem v26 :VS E s26 L63 26:=by
 intro _ _ _ h
 unfold s26 at h
 split at h
 · obtain⟨g,rfl⟩:=ah h
   exact⟨1,.inl (k26 _ _ g)⟩
 · cases h
theorem v37 :VS E s37 L26 37:=by
 intro _ _ _ h
 unfold s37 at h
 split at h
 · obtain⟨g,rfl⟩:=ah h
   exact⟨1,.inl (k37 _ _ _ _ g)⟩
 · cases h
theorem v81 :VS E s81 L37 81:=by
 intro _ _ _ h
 unfold s81 at h
 split at h
 · obtain⟨g,rfl⟩:=ah h
   exact⟨1,.inl (k81 _ g)⟩
 · cases h
theorem v89 :VS E s89 L81 89:=by
 intro _ _ _ h
 unfold s89 at h
 split at h
 · obtain⟨g,rfl⟩:=ah h
   exact⟨1,.inl (k89 _ g)⟩
 · cases h
theorem Sp :VS E NV L89 101:=by
 intro _ _ _ h
 unfold NV at h
 split at h
 · obtain⟨g,rfl⟩:=ah h
   exact⟨1,.inl (TE _ _ _ g)⟩
 · obtain⟨g,rfl⟩:=ah h
   exact⟨1,.inl (Pz _ _ g)⟩
 · cases h
theorem v45 :VS E s45 H7 45:=by
 intro _ _ _ h
 unfold s45 at h
 split at h
 · obtain⟨g,rfl⟩:=ah h
   exact⟨1,.inl (k45 _ _ g)⟩
 · cases h
theorem v66 :VS E s66 L45 66:=by
 intro _ _ _ h
 unfold s66 at h
 split at h
 · obtain⟨g,rfl⟩:=ah h
   exact⟨1,.inl (k66 _)⟩
 · cases h
theorem Tn :VS E NK L66 151:=by
 intro _ _ _ h
 unfold NK at h
 split at h
 · obtain⟨g,rfl⟩:=ah h
   exact⟨1,.inl (RI _)⟩
 · cases h
theorem Ro :VS E N4 GF 141:=by
 intro _ _ _ h
 unfold N4 at h
 split at h
 · obtain⟨g,rfl⟩:=ah h
   exact⟨1,.inl (S6 _ _ _ _ _)⟩
 · cases h
theorem Qp :VS E Ns JB 114:=by
 intro _ _ _ h
 unfold Ns at h
 split at h
 · obtain⟨g,rfl⟩:=ah h
   exact⟨1,.inl (R3 _ _ _ _ _)⟩
 · cases h
theorem Sn :VS E Nv IR 153:=by
 intro _ _ _ h
 unfold Nv at h
 split at h
 · obtain⟨g,rfl⟩:=ah h
   exact⟨1,.inl (QF _ _ _ _ _)⟩
 · cases h
theorem R7 :VS E Np xF 156:=by
 intro _ _ _ h
 unfold Np at h
 split at h
 · obtain⟨g,rfl⟩:=ah h
   obtain⟨n,hn⟩:=RD _ (of_decide_eq_true g)
   exact⟨n,.inl hn⟩
 · cases h
theorem Sj :VS E Nn GN 152:=by
 intro _ _ _ h
 unfold Nn at h
 split at h
 · obtain⟨g,rfl⟩:=ah h
   exact⟨1,.inl (TB _ (of_decide_eq_true g))⟩
 · cases h
theorem Sc :VS E Nq IB 142:=by
 intro _ _ _ h
 unfold Nq at h
 split at h
 · obtain⟨g,rfl⟩:=ah h
   exact⟨1,.inl (S1 _ _ _ _ (of_decide_eq_true g))⟩
 · cases h
theorem Qi :VS E Oj yC 115:=by
 intro _ _ _ h
 unfold Oj at h
 split at h
 · obtain⟨g,rfl⟩:=ah h
   obtain⟨n,hn⟩:=SC _ _ _ _ (of_decide_eq_true g)
   exact⟨n,.inl hn⟩
 · cases h
theorem RQ :VS E M7 yl 128:=by
 intro _ _ _ h
 unfold M7 at h
 split at h
 · obtain⟨g,rfl⟩:=ah h
   obtain⟨n,hn⟩:=Qr _ _ _ _
   exact⟨n,.inl hn⟩
 · cases h
theorem v73 :VS E s73 yc 73:=by
 intro _ _ _ h
 unfold s73 at h
 split at h
 · obtain⟨g,rfl⟩:=ah h
   obtain⟨n,hn⟩:=k73 _ _ _ _
   exact⟨n,.inl hn⟩
 · cases h
theorem QC :VS E Oy L73 129:=by
 intro _ _ _ h
 unfold Oy at h
 split at h
 · obtain⟨g,rfl⟩:=ah h
   exact⟨1,.inl (Q0 _ _ _ _ _ _ _ _)⟩
 · cases h
theorem v74 :VS E s74 Hw 74:=by
 intro _ _ _ h
 unfold s74 at h
 split at h
 · obtain⟨g,rfl⟩:=ah h
   exact⟨1,.inl (k74 _ _ _ _ _ _ _ _)⟩
 · cases h
theorem v92 :VS E s92 L74 92:=by
 intro _ _ _ h
 unfold s92 at h
 split at h
 · obtain⟨g,rfl⟩:=ah h
   obtain⟨n,hn⟩:=k92 _ _ _ _ _ _ _ _ (of_decide_eq_true g)
   exact⟨n,.inl hn⟩
 · cases h
end Go.Proofs.YtejimgikldiajaaGreat
namespace Go.Proofs.YtejimgikldiajaaGreat
open Go.Abs
theorem k18 (k:Int):aj E (aa L44) 1 18 [.oi k] []=some ([.one (.sl false 54 (be k)),.ob (ca k).isSome],[]):=rfl
theorem SO :VS E NT L92 123:=by
 intro _ _ _ h
 unfold NT at h
 split at h
 · obtain⟨g,rfl⟩:=ah h
   exact⟨1,.inl (Qf _ _ g)⟩
 · cases h
theorem QL :VS E OZ HI 124:=by
 intro _ _ _ h
 unfold OZ at h
 split at h
 · obtain⟨g,rfl⟩:=ah h
   exact⟨1,.inl (Rj _ _ g)⟩
 · cases h
theorem Qe :VS E On js 100:=by
 intro _ _ _ h
 unfold On at h
 split at h
 · obtain⟨g,rfl⟩:=ah h
   obtain⟨n,hn⟩:=To _ _ _ _ _ g
   exact⟨n,.inl hn⟩
 · obtain⟨g,rfl⟩:=ah h
   obtain⟨n,hn⟩:=Pw _ _ _ _ g
   exact⟨n,.inl hn⟩
 · cases h
theorem QQ :VS E Nx Gy 155:=by
 intro _ _ _ h
 unfold Nx at h
 split at h
 · obtain⟨g,rfl⟩:=ah h
   exact⟨1,.inl (Rm _ g)⟩
 · cases h
theorem SX :VS E Nd HW 150:=by
 intro _ _ _ h
 unfold Nd at h
 split at h
 · obtain⟨g,rfl⟩:=ah h
   exact⟨1,.inl (Se _ g)⟩
 · cases h
theorem Qx :VS E OL FU 154:=by
 intro _ _ _ h
 unfold OL at h
 split at h
 · obtain⟨g,rfl⟩:=ah h
   exact⟨1,.inl (Tr _ g)⟩
 · cases h
theorem Ra :VS E OR FY 149:=by
 intro _ _ _ h
 unfold OR at h
 split at h
 · obtain⟨g,rfl⟩:=ah h
   exact⟨1,.inl (Qg _ g)⟩
 · cases h
theorem RJ :VS E Nb G8 146:=by
 intro _ _ _ h
 unfold Nb at h
 split at h
 · obtain⟨g,rfl⟩:=ah h
   exact⟨1,.inl (QI _ _ _ _ _ g)⟩
 · cases h
theorem QO :VS E NG H8 135:=by
 intro _ _ _ h
 unfold NG at h
 split at h
 · obtain⟨g,rfl⟩:=ah h
   exact⟨1,.inl (Qj _ _ _ g)⟩
 · cases h
theorem RU :VS E N1 Hs 147:=by
 intro _ _ _ h
 unfold N1 at h
 split at h
 · obtain⟨g,rfl⟩:=ah h
   exact⟨1,.inl (S9 _ _ _ g)⟩
 · cases h
theorem Rt :VS E NZ Jn 148:=by
 intro _ _ _ h
 unfold NZ at h
 split at h
 · obtain⟨g,rfl⟩:=ah h
   exact⟨1,.inl (Sd _ _ _ g)⟩
 · cases h
theorem QN :VS E M8 Hm 136:=by
 intro _ _ _ h
 unfold M8 at h
 split at h
 · obtain⟨g,rfl⟩:=ah h
   exact⟨1,.inl (Th _ _ _ g)⟩
 · cases h
theorem Sy :VS E Om qe 118:=by
 intro _ _ _ h
 unfold Om at h
 split at h
 · obtain⟨g,rfl⟩:=ah h
   obtain⟨n,hn⟩:=SK _ g
   exact⟨n,.inl hn⟩
 · cases h
theorem QW :VS E Oh H1 137:=by
 intro _ _ _ h
 unfold Oh at h
 split at h
 · obtain⟨g,rfl⟩:=ah h
   exact⟨1,.inl (Tt _ g)⟩
 · cases h
theorem Tf :VS E Nk xl 120:=by
 intro _ _ _ h
 unfold Nk at h
 split at h
 · obtain⟨g,rfl⟩:=ah h
   obtain⟨n,hn⟩:=SG _ g
   exact⟨n,.inl hn⟩
 · cases h
theorem RK :VS E O4 Jo 121:=by
 intro _ _ _ h
 unfold O4 at h
 split at h
 · obtain⟨g,rfl⟩:=ah h
   exact⟨1,.inl (QG _)⟩
 · cases h
theorem v97 :VS E s97 Iy 97:=by
 intro _ _ _ h
 unfold s97 at h
 split at h
 · obtain⟨g,rfl⟩:=ah h
   exact⟨1,.inl (k97 _ _)⟩
 · cases h
theorem v50 :VS E s50 L97 50:=by
 intro _ _ _ h
 unfold s50 at h
 split at h
 · obtain⟨g,rfl⟩:=ah h
   obtain⟨n,hn⟩:=k50 _ _ _
   exact⟨n,.inl hn⟩
 · cases h
theorem v15 :VS E s15 L50 15:=by
 intro _ _ _ h
 unfold s15 at h
 split at h
 · obtain⟨g,rfl⟩:=ah h
   obtain⟨n,hn⟩:=k15 _ (of_decide_eq_true g)
   exact⟨n,.inl hn⟩
 · cases h
theorem Qs :VS E O0 L15 110:=by
 intro _ _ _ h
 unfold O0 at h
 split at h
 · obtain⟨g,rfl⟩:=ah h
   obtain⟨n,hn⟩:=RV _ g
   exact⟨n,.inl hn⟩
 · cases h
theorem v71 :VS E s71 rT 71:=by
 intro _ _ _ h
 unfold s71 at h
 split at h
 · obtain⟨g,rfl⟩:=ah h
   obtain⟨n,hn⟩:=k71 _ g
   exact⟨n,.inl hn⟩
 · cases h
theorem v39 :VS E s39 L71 39:=by
 intro _ _ _ h
 unfold s39 at h
 split at h
 · obtain⟨g,rfl⟩:=ah h
   obtain⟨n,hn⟩:=k39 _ _ g
   exact⟨n,.inl hn⟩
 · cases h
theorem v87 :VS E s87 L39 87:=by
 intro _ _ _ h
 unfold s87 at h
 split at h
 · obtain⟨g,rfl⟩:=ah h
   obtain⟨n,hn⟩:=k87 _ g
   exact⟨n,.inl hn⟩
 · cases h
theorem v46 :VS E s46 L87 46:=by
 intro _ _ _ h
 unfold s46 at h
 split at h
 · obtain⟨g,rfl⟩:=ah h
   obtain⟨n,hn⟩:=k46 _ g
   exact⟨n,.inl hn⟩
 · cases h
theorem v47 :VS E s47 L46 47:=by
 intro _ _ _ h
 unfold s47 at h
 split at h
 · obtain⟨g,rfl⟩:=ah h
   obtain⟨n,hn⟩:=k47 _ _ _ g
   exact⟨n,.inl hn⟩
 · cases h
theorem v44 :VS E s44 L47 44:=by
 intro _ _ _ h
 unfold s44 at h
 split at h
 · obtain⟨g,rfl⟩:=ah h
   obtain⟨n,hn⟩:=k44 _ _ g
   exact⟨n,.inl hn⟩
 · cases h
theorem v18 :VS E s18 L44 18:=by
 intro _ _ _ h
 unfold s18 at h
 split at h
 · obtain⟨g,rfl⟩:=ah h
   exact⟨1,.inl (k18 _)⟩
 · cases h
theorem v58 :VS E s58 L18 58:=by
 intro _ _ _ h
 unfold s58 at h
 split at h
 · obtain⟨g,rfl⟩:=ah h
   exact⟨1,.inl (k58 _)⟩
 · cases h
theorem v19 :VS E s19 L58 19:=by
 intro _ _ _ h
 unfold s19 at h
 split at h
 · obtain⟨g,rfl⟩:=ah h
   exact⟨1,.inl (k19 _)⟩
 · cases h
theorem v23 :VS E s23 L19 23:=by
 intro _ _ _ h
 unfold s23 at h
 split at h
 · obtain⟨g,rfl⟩:=ah h
   exact⟨1,.inl (k23 _)⟩
 · cases h
theorem v60 :VS E s60 L23 60:=by
 intro _ _ _ h
 unfold s60 at h
 split at h
 · obtain⟨g,rfl⟩:=ah h
   exact⟨1,.inl (k60 _ _)⟩
 · cases h
theorem v69 :VS E s69 L60 69:=by
 intro _ _ _ h
 unfold s69 at h
 split at h
 · obtain⟨g,rfl⟩:=ah h
   exact⟨1,.inl (k69 _ _)⟩
 · cases h
theorem v59 :VS E s59 L69 59:=by
 intro _ _ _ h
 unfold s59 at h
 split at h
 · obtain⟨g,rfl⟩:=ah h
   obtain⟨n,hn⟩:=k59 _ _ (of_decide_eq_true g)
   exact⟨n,.inl hn⟩
 · cases h
theorem v20 :VS E s20 L59 20:=by
 intro _ _ _ h
 unfold s20 at h
 split at h
 · obtain⟨g,rfl⟩:=ah h
   exact⟨1,.inl (k20 _ _ (of_decide_eq_true g))⟩
 · cases h
theorem v21 :VS E s21 L20 21:=by
 intro _ _ _ h
 unfold s21 at h
 split at h
 · obtain⟨g,rfl⟩:=ah h
   exact⟨1,.inl (k21 ⟨_,_,_,_,_,_,_,_,_,_,_,_,_,_,_,_,_,_⟩ _)⟩
 · cases h
theorem Q1 :VS E M9 L21 109:=by
 intro _ _ _ h
 unfold M9 at h
 split at h
 · obtain⟨g,rfl⟩:=ah h
   obtain⟨n,hn⟩:=Rn _
   exact⟨n,.inl hn⟩
 · cases h
theorem v28 :VS E s28 vb 28:=by
 intro _ _ _ h
 unfold s28 at h
 split at h
 · obtain⟨g,rfl⟩:=ah h
   obtain⟨n,hn⟩:=k28 _
   exact⟨n,.inl hn⟩
 · cases h
theorem v62 :VS E s62 L28 62:=by
 intro _ _ _ h
 unfold s62 at h
 split at h
 · obtain⟨g,rfl⟩:=ah h
   exact⟨1,.inl (k62 ⟨_,_,_,_,_,_,_,_,_,_,_,_,_,_,_,_,_,_⟩ g)⟩
 · cases h
theorem v64 :VS E s64 L62 64:=by
 intro _ _ _ h
 unfold s64 at h
 split at h
 · obtain⟨g,rfl⟩:=ah h
   obtain⟨n,hn⟩:=k64 _ g
   exact⟨n,.inl hn⟩
 · cases h
theorem v22 :VS E s22 L64 22:=by
 intro _ _ _ h
 unfold s22 at h
 split at h
 · obtain⟨g,rfl⟩:=ah h
   exact⟨1,.inl (k22 ⟨_,_,_,_,_,_,_,_,_,_,_,_,_,_,_,_,_,_⟩ _ g)⟩
 · cases h
theorem v8 :VS E s8 L22 8:=by
 intro _ _ _ h
 unfold s8 at h
 split at h
 · obtain⟨g,rfl⟩:=ah h
   obtain⟨n,hn⟩:=k8 ⟨_,_,_,_,_,_,_,_,_,_,_,_,_,_,_,_,_,_⟩ g
   exact⟨n,.inl hn⟩
 · cases h
theorem v68 :VS E s68 L8 68:=by
 intro _ _ _ h
 unfold s68 at h
 split at h
 · obtain⟨g,rfl⟩:=ah h
   exact⟨1,.inl (k68 _)⟩
 · cases h
theorem v24 :VS E s24 L68 24:=by
 intro _ _ _ h
 unfold s24 at h
 split at h
 · obtain⟨g,rfl⟩:=ah h
   exact⟨11,.inl (k24 ⟨_,_,_,_,_,_,_,_,_,_,_,_,_,_,_,_,_,_⟩)⟩
 · cases h
theorem v29 :VS E s29 L24 29:=by
 intro _ _ _ h
 unfold s29 at h
 split at h
 · obtain⟨g,rfl⟩:=ah h
   exact⟨1,.inl (k29 ⟨_,_,_,_,_,_,_,_,_,_,_,_,_,_,_,_,_,_⟩ g)⟩
 · cases h
theorem v25 :VS E s25 L29 25:=by
 intro _ _ _ h
 unfold s25 at h
 split at h
 · obtain⟨g,rfl⟩:=ah h
   exact⟨6,.inl (k25 ⟨_,_,_,_,_,_,_,_,_,_,_,_,_,_,_,_,_,_⟩ g)⟩
 · cases h
theorem v9 :VS E s9 L25 9:=by
 intro _ _ _ h
 unfold s9 at h
 split at h
 · obtain⟨g,rfl⟩:=ah h
   exact⟨1,.inl (k9 ⟨_,_,_,_,_,_,_,_,_,_,_,_,_,_,_,_,_,_⟩ g)⟩
 · cases h
theorem v84 :VS E s84 L9 84:=by
 intro _ _ _ h
 unfold s84 at h
 split at h
 · obtain⟨g,rfl⟩:=ah h
   exact⟨1,.inl (k84 _)⟩
 · cases h
theorem v90 :VS E s90 L84 90:=by
 intro _ _ _ h
 unfold s90 at h
 split at h
 · obtain⟨g,rfl⟩:=ah h
   exact⟨1,.inl (k90 _)⟩
 · cases h
theorem v75 :VS E s75 L90 75:=by
 intro _ _ _ h
 unfold s75 at h
 split at h
 · obtain⟨g,rfl⟩:=ah h
   exact⟨1,.inl (k75 _ _ _ g)⟩
 · cases h
theorem v31 :VS E s31 L75 31:=by
 intro _ _ _ h
 unfold s31 at h
 split at h
 · obtain⟨g,rfl⟩:=ah h
   exact⟨1,.inl (k31 _ _ _ _ _)⟩
 · cases h
theorem v30 :VS E s30 L31 30:=by
 intro _ _ _ h
 unfold s30 at h
 split at h
 · obtain⟨g,rfl⟩:=ah h
   exact⟨1,.inl (k30 _ _ _ g)⟩
 · cases h
theorem v77 :VS E s77 L30 77:=by
 intro _ _ _ h
 unfold s77 at h
 split at h
 · obtain⟨g,rfl⟩:=ah h
   exact⟨1,.inl (k77 _ _ _ g)⟩
 · cases h
theorem v80 :VS E s80 L77 80:=by
 intro _ _ _ h
 unfold s80 at h
 split at h
 · obtain⟨g,rfl⟩:=ah h
   exact⟨1,.inl (k80 _ _ _ g)⟩
 · cases h
theorem RN :VS E OK L80 117:=by
 intro _ _ _ h
 unfold OK at h
 split at h
 · obtain⟨g,rfl⟩:=ah h
   exact⟨1,.inl (TC _ _ _ g)⟩
 · cases h
theorem v83 :VS E s83 HD 83:=by
 intro _ _ _ h
 unfold s83 at h
 split at h
 · obtain⟨g,rfl⟩:=ah h
   exact⟨1,.inl (k83 _ _ _ g)⟩
 · cases h
theorem v79 :VS E s79 L83 79:=by
 intro _ _ _ h
 unfold s79 at h
 split at h
 · obtain⟨g,rfl⟩:=ah h
   obtain⟨n,hn⟩:=k79 _ _ _ g
   exact⟨n,.inl hn⟩
 · cases h
theorem v82 :VS E s82 L79 82:=by
 intro _ _ _ h
 unfold s82 at h
 split at h
 · obtain⟨g,rfl⟩:=ah h
   obtain⟨n,hn⟩:=k82 _ _ _ g
   exact⟨n,.inl hn⟩
 · cases h
theorem v32 :VS E s32 L82 32:=by
 intro _ _ _ h
 unfold s32 at h
 split at h
 · obtain⟨g,rfl⟩:=ah h
   exact⟨1,.inl (k32 _ _ _ _ ⟨_,_,_,_,_,_,_,_,_,_,_,_,_,_,_,_,_,_⟩ g)⟩
 · cases h
theorem v10 :VS E s10 L32 10:=by
 intro _ _ _ h
 unfold s10 at h
 split at h
 · obtain⟨g,rfl⟩:=ah h
   obtain⟨n,hn⟩:=k10 _ g
   exact⟨n,.inl hn⟩
 · cases h
theorem v88 :VS E s88 L10 88:=by
 intro _ _ _ h
 unfold s88 at h
 split at h
 · obtain⟨g,rfl⟩:=ah h
   exact⟨1,.inl (k88 ⟨_,_,_,_,_,_,_,_,_,_,_,_,_,_,_,_,_,_⟩ _ g)⟩
 · cases h
theorem v35 :VS E s35 L88 35:=by
 intro _ _ _ h
 unfold s35 at h
 split at h
 · obtain⟨g,rfl⟩:=ah h
   exact⟨1,.inl (k35 _ _ _ _ _ _ _ _ _ _ g)⟩
 · cases h
theorem v36 :VS E s36 L35 36:=by
 intro _ _ _ h
 unfold s36 at h
 split at h
 · obtain⟨g,rfl⟩:=ah h
   obtain⟨n,hn⟩:=k36 _ _ _ _ _ _ _ _ _ _ g
   exact⟨n,.inl hn⟩
 · cases h
theorem v11 :VS E s11 L36 11:=by
 intro _ _ _ h
 unfold s11 at h
 split at h
 · obtain⟨g,rfl⟩:=ah h
   exact⟨1,.inl (k11 _ g)⟩
 · cases h
theorem v12 :VS E s12 L11 12:=by
 intro _ _ _ h
 unfold s12 at h
 split at h
 · obtain⟨g,rfl⟩:=ah h
   exact⟨1,.inl (k12 ⟨_,_,_,_,_,_,_,_,_,_,_,_,_,_,_,_,_,_⟩ ⟨_,_,_,_,_,_,_,_,_,_,_,_,_,_,_,_,_,_⟩ g)⟩
 · cases h
theorem v6 :VS E s6 L12 6:=by
 intro _ _ _ h
 unfold s6 at h
 split at h
 · obtain⟨g,rfl⟩:=ah h
   exact⟨1,.inl (k6 ⟨_,_,_,_,_,_,_,_,_,_,_,_,_,_,_,_,_,_⟩)⟩
 · cases h
theorem RX :VS E Nl L6 102:=by
 intro _ _ _ h
 unfold Nl at h
 split at h
 · obtain⟨g,rfl⟩:=ah h
   exact⟨1,.inl (SD _ _ g)⟩
 · obtain⟨g,rfl⟩:=ah h
   exact⟨1,.inl (Ps _)⟩
 · cases h
theorem v51 :VS E s51 xA 51:=by
 intro _ _ _ h
 unfold s51 at h
 split at h
 · obtain⟨g,rfl⟩:=ah h
   obtain⟨n,hn⟩:=k51 _ (of_decide_eq_true g)
   exact⟨n,.inl hn⟩
 · cases h
theorem v52 :VS E s52 L51 52:=by
 intro _ _ _ h
 unfold s52 at h
 split at h
 · obtain⟨g,rfl⟩:=ah h
   obtain⟨n,hn⟩:=k52 ⟨_,_,_,_,_,_,_,_,_,_,_,_,_,_,_,_,_,_⟩ _ g
   exact⟨n,.inl hn⟩
 · cases h
theorem v16 :VS E s16 L52 16:=by
 intro _ _ _ h
 unfold s16 at h
 split at h
 · obtain⟨g,rfl⟩:=ah h
   obtain⟨n,hn⟩:=k16 ⟨_,_,_,_,_,_,_,_,_,_,_,_,_,_,_,_,_,_⟩ g
   exact⟨n,.inl hn⟩
 · cases h
theorem v13 :VS E s13 L16 13:=by
 intro _ _ _ h
 unfold s13 at h
 split at h
 · obtain⟨g,rfl⟩:=ah h
   exact⟨1,.inl (k13 _ _ _ _ _ g)⟩
 · cases h
theorem v7 :VS E s7 L13 7:=by
 intro _ _ _ h
 unfold s7 at h
 split at h
 · obtain⟨g,rfl⟩:=ah h
   exact⟨200,.inr aw⟩
 · cases h
theorem v3 :VS E s3 L7 3:=by
 intro _ _ _ h
 unfold s3 at h
 split at h
 · obtain⟨g,rfl⟩:=ah h
   exact⟨1,.inl (RO ⟨_,_,_,_,_,_,_,_,_,_,_,_,_,_,_,_,_,_⟩ g)⟩
 · cases h
theorem v4 :VS E s4 L3 4:=by
 intro _ _ _ h
 unfold s4 at h
 split at h
 · obtain⟨g,rfl⟩:=ah h
   exact⟨1,.inl (Tv _ g)⟩
 · cases h
theorem v5 :VS E s5 L4 5:=by
 intro _ _ _ h
 unfold s5 at h
 split at h
 · obtain⟨g,rfl⟩:=ah h
   exact⟨1,.inl (Rk _ _ _ _ _ _ _ _ g)⟩
 · cases h
end Go.Proofs.YtejimgikldiajaaGreat
namespace Go.Proofs.YtejimgikldiajaaGreat
open Go.Abs
theorem valid :az E L:=trivial
theorem Gi :az E Iq:=⟨Q3,valid⟩
theorem H3 :az E FS:=⟨QE,Gi⟩
theorem LF :az E L65:=⟨v65,H3⟩
theorem L0 :az E L67:=⟨v67,LF⟩
theorem GI :az E Io:=⟨Rx,L0⟩
theorem Ij :az E df:=⟨QY,GI⟩
theorem IY :az E nY:=⟨Te,Ij⟩
theorem It :az E eQ:=⟨SY,IY⟩
theorem Ho :az E JK:=⟨RB,It⟩
theorem Ir :az E Je:=⟨QU,Ho⟩
theorem Gw :az E xe:=⟨RP,Ir⟩
theorem GH :az E JC:=⟨SZ,Gw⟩
theorem Hg :az E IZ:=⟨S3,GH⟩
theorem Gs :az E xp:=⟨Rl,Hg⟩
theorem JX :az E L91:=⟨v91,Gs⟩
theorem JN :az E L98:=⟨v98,JX⟩
theorem Lc :az E L76:=⟨v76,JN⟩
theorem JP :az E L85:=⟨v85,Lc⟩
theorem H4 :az E jx:=⟨R2,JP⟩
theorem Ga :az E qc:=⟨SU,H4⟩
theorem Jt :az E Gh:=⟨QD,Ga⟩
theorem Kc :az E L33:=⟨v33,Jt⟩
theorem J0 :az E L34:=⟨v34,Kc⟩
theorem Gg :az E IO:=⟨Rz,J0⟩
theorem KK :az E L41:=⟨v41,Gg⟩
theorem Lg :az E L42:=⟨v42,KK⟩
theorem JY :az E L48:=⟨v48,Lg⟩
theorem LM :az E L96:=⟨v96,JY⟩
theorem Kn :az E L49:=⟨v49,LM⟩
theorem KB :az E L14:=⟨v14,Kn⟩
theorem Ku :az E L61:=⟨v61,KB⟩
theorem LB :az E L70:=⟨v70,Ku⟩
theorem J7 :az E L38:=⟨v38,LB⟩
theorem Le :az E L99:=⟨v99,J7⟩
theorem KE :az E L78:=⟨v78,Le⟩
theorem JS :az E L86:=⟨v86,KE⟩
theorem LD :az E L95:=⟨v95,JS⟩
theorem J2 :az E L94:=⟨v94,LD⟩
theorem KD :az E L40:=⟨v40,J2⟩
theorem LK :az E L27:=⟨v27,KD⟩
theorem KU :az E L93:=⟨v93,LK⟩
theorem KO :az E L43:=⟨v43,KU⟩
theorem Jf :az E yG:=⟨Q5,KO⟩
theorem I6 :az E Ji:=⟨SV,Jf⟩
theorem IU :az E xw:=⟨Tq,I6⟩
theorem Jw :az E IG:=⟨Tm,IU⟩
theorem Jb :az E x9:=⟨SL,Jw⟩
theorem JL :az E nE:=⟨Qk,Jb⟩
theorem LT :az E L72:=⟨v72,JL⟩
theorem K3 :az E L63:=⟨v63,LT⟩
theorem Kl :az E L26:=⟨v26,K3⟩
theorem KX :az E L37:=⟨v37,Kl⟩
theorem LN :az E L81:=⟨v81,KX⟩
theorem LJ :az E L89:=⟨v89,LN⟩
theorem Gj :az E H7:=⟨Sp,LJ⟩
theorem KQ :az E L45:=⟨v45,Gj⟩
theorem Kx :az E L66:=⟨v66,KQ⟩
theorem HV :az E GF:=⟨Tn,Kx⟩
theorem GA :az E JB:=⟨Ro,HV⟩
theorem Im :az E IR:=⟨Qp,GA⟩
theorem Ge :az E xF:=⟨Sn,Im⟩
theorem Ii :az E GN:=⟨R7,Ge⟩
theorem IJ :az E IB:=⟨Sj,Ii⟩
theorem He :az E yC:=⟨Sc,IJ⟩
theorem Gt :az E yl:=⟨Qi,He⟩
theorem GQ :az E yc:=⟨RQ,Gt⟩
theorem J8 :az E L73:=⟨v73,GQ⟩
theorem HT :az E Hw:=⟨QC,J8⟩
theorem Md :az E L74:=⟨v74,HT⟩
theorem LO :az E L92:=⟨v92,Md⟩
theorem GL :az E HI:=⟨SO,LO⟩
theorem I4 :az E js:=⟨QL,GL⟩
theorem Gc :az E Gy:=⟨Qe,I4⟩
theorem FT :az E HW:=⟨QQ,Gc⟩
theorem Hx :az E FU:=⟨SX,FT⟩
theorem HJ :az E FY:=⟨Qx,Hx⟩
theorem HC :az E G8:=⟨Ra,HJ⟩
theorem Hy :az E H8:=⟨RJ,HC⟩
theorem IM :az E Hs:=⟨QO,Hy⟩
theorem Ie :az E Jn:=⟨RU,IM⟩
theorem FV :az E Hm:=⟨Rt,Ie⟩
theorem JG :az E qe:=⟨QN,FV⟩
theorem Hh :az E H1:=⟨Sy,JG⟩
theorem F2 :az E xl:=⟨QW,Hh⟩
theorem Jg :az E Jo:=⟨Tf,F2⟩
theorem Hf :az E Iy:=⟨RK,Jg⟩
theorem KM :az E L97:=⟨v97,Hf⟩
theorem LA :az E L50:=⟨v50,KM⟩
theorem K0 :az E L15:=⟨v15,LA⟩
theorem Hn :az E rT:=⟨Qs,K0⟩
theorem J9 :az E L71:=⟨v71,Hn⟩
theorem Kg :az E L39:=⟨v39,J9⟩
theorem Lt :az E L87:=⟨v87,Kg⟩
theorem LL :az E L46:=⟨v46,Lt⟩
theorem KF :az E L47:=⟨v47,LL⟩
theorem JW :az E L44:=⟨v44,KF⟩
theorem JR :az E L18:=⟨v18,JW⟩
theorem Ke :az E L58:=⟨v58,JR⟩
theorem KV :az E L19:=⟨v19,Ke⟩
theorem Ln :az E L23:=⟨v23,KV⟩
theorem Ly :az E L60:=⟨v60,Ln⟩
theorem K5 :az E L69:=⟨v69,Ly⟩
theorem Kv :az E L59:=⟨v59,K5⟩
theorem Lv :az E L20:=⟨v20,Kv⟩
theorem K6 :az E L21:=⟨v21,Lv⟩
theorem Hu :az E vb:=⟨Q1,K6⟩
theorem JO :az E L28:=⟨v28,Hu⟩
theorem Kw :az E L62:=⟨v62,JO⟩
theorem KA :az E L64:=⟨v64,Kw⟩
theorem Kb :az E L22:=⟨v22,KA⟩
theorem N7 :az E L8:=⟨v8,Kb⟩
theorem L2 :az E L68:=⟨v68,N7⟩
theorem LG :az E L24:=⟨v24,L2⟩
theorem JT :az E L29:=⟨v29,LG⟩
theorem Ls :az E L25:=⟨v25,JT⟩
theorem OS :az E L9:=⟨v9,Ls⟩
theorem Me :az E L84:=⟨v84,OS⟩
theorem Ki :az E L90:=⟨v90,Me⟩
theorem Mc :az E L75:=⟨v75,Ki⟩
theorem KG :az E L31:=⟨v31,Mc⟩
theorem KT :az E L30:=⟨v30,KG⟩
theorem J1 :az E L77:=⟨v77,KT⟩
theorem L1 :az E L80:=⟨v80,J1⟩
theorem If :az E HD:=⟨RN,L1⟩
theorem Ka :az E L83:=⟨v83,If⟩
theorem KR :az E L79:=⟨v79,Ka⟩
theorem Mf :az E L82:=⟨v82,KR⟩
theorem Lo :az E L32:=⟨v32,Mf⟩
theorem KL :az E L10:=⟨v10,Lo⟩
theorem Lk :az E L88:=⟨v88,KL⟩
theorem K9 :az E L35:=⟨v35,Lk⟩
theorem Km :az E L36:=⟨v36,K9⟩
theorem K7 :az E L11:=⟨v11,Km⟩
theorem LQ :az E L12:=⟨v12,K7⟩
theorem Ny :az E L6:=⟨v6,LQ⟩
theorem JH :az E xA:=⟨RX,Ny⟩
theorem Ld :az E L51:=⟨v51,JH⟩
theorem Ky :az E L52:=⟨v52,Ld⟩
theorem K1 :az E L16:=⟨v16,Ky⟩
theorem Li :az E L13:=⟨v13,K1⟩
theorem O7 :az E L7:=⟨v7,Li⟩
theorem NP :az E L3:=⟨v3,O7⟩
theorem Pa :az E L4:=⟨v4,NP⟩
theorem O6 :az E L5:=⟨v5,Pa⟩
end Go.Proofs.YtejimgikldiajaaGreat
namespace Go.Proofs.YtejimgikldiajaaGreat
open Go.Abs Go.RowKit Go.Lib
theorem kn {P:Program}(w:World){ops:Array Oper}{rest:List Oper}{o:Oper}{a:Act}{Q:Exit→Act→World→Prop}(hgd:o.guard=none){v':Value}{w':World}
 (hr:(execOp a.eval o).run P w=.ok (.value v') w') (h:wpList P ops Q rest (a.put o.dst v') w'):wpList P ops Q (o::rest) a w:=
 wpList_plain hgd fun _ hK=>by
  unfold Oper.wp
  simp only [hr]
  exact hK _ _ h
theorem bW {P:Program}(w:World){ops:Array Oper}{rest:List Oper}{o:Oper}{a:Act}{Q:Exit→Act→World→Prop}(hgd:o.guard=none)(hds:o.dst=none)(m k x:Operand)(t:TypeId)(ho:o.op=.insert t m k x)
 (vm vk vx:Value) (hm:a.eval m=vm) (hk:a.eval k=vk) (hx:a.eval x=vx) {w':World} (hr:(Instr.mapUpdate t vm vk vx).run P w=.ok () w') (h:wpList P ops Q rest a w'):wpList P ops Q (o::rest) a w:=
 wpList_plain hgd fun _ hK=>by
  unfold Oper.wp
  simp [execOp,ho,hm,hk,hx,hr,Result.andThen]
  refine hK _ _ ?_
  rw [hds]
  exact h
theorem oa {P:Program}(w:World){ops:Array Oper}{rest:List Oper}{o:Oper}{a:Act}{Q:Exit→Act→World→Prop}(hgd:o.guard=none)(m k:Operand)(t:TypeId)(b:Bool)(ho:o.op=.lookup t m k b)
 (vm vk:Value) (hm:a.eval m=vm) (hk:a.eval k=vk) {v':Value} {w':World} (hr:(Instr.lookup t vm vk b).run P w=.ok v' w') (h:wpList P ops Q rest (a.put o.dst v') w'):wpList P ops Q (o::rest) a w:=
 kn w hgd (by simp [execOp,ho,hm,hk,hr,Result.andThen]) h
theorem NU :Tryz.prog.underlying 104=some (.map 3 50):=by kernel_rfl
theorem KP :Tryz.prog.underlying 3=some (.int .i64):=by kernel_rfl
theorem zSl (w:World):(zeroValue 50).run Tryz.prog w=.ok (.slice none 0 0) w:=by kernel_rfl
abbrev iv (n:Int):Value:=.int .i64 n
structure UInv (w W:World) (i:Nat) (es:List MapEntry) (cs:List (Array Value)):Prop where
 size:W.heap.size=w.heap.size+1+i
 map:W.heap[w.heap.size]? =some (.map es.toArray i)
 kept:w.keptBut W (Abs.inT fun _ _=>False)
 len:cs.length=i
 cells:∀(j:Nat) (c:Array Value),cs[j]? =some c→∀(q:Nat) (v:Value),c[q]? =some v→Abs.cell W (w.heap.size+1+j) q=some v
theorem xQ {w w':World}{b:Nat}(h:w.keptBut w' (fun p=>p=.map b))(hb:w.heap.size≤b):w.keptBut w' (Abs.inT fun _ _=>False):=by
 obtain⟨h1,h2,h3⟩:=h
 refine⟨h1,h2,fun i hi=> ?_⟩
 have:=h3 i hi
 split at this
 · rename_i c t f c' t' f' e1 e2
   obtain⟨g1,g2,g3,g4⟩:=this
   exact⟨g1,g2,g3,fun j hj=>g4 j fun hm=>by cases hm⟩
 · rename_i es cl es' cl' e1 e2
   exact .inr (this.resolve_left fun e=>by
    injection e with e
    omega)
 · exact this
theorem tx (w:World)(o:Obj):(w.alloc o).heap.size=w.heap.size+1:=by
 have e:(w.alloc o).heap=w.heap.push o:=rfl
 rw [e,Array.size_push]
theorem NM (w:World):UInv w (w.alloc (.map #[] 0)) 0 [] []:=
 ⟨tx w _,(MapKept.heap_alloc w _).1,World.keptBut_alloc _ _ _,rfl,fun j c h=>by simp at h⟩
theorem mg {w W:World}{i:Nat}{es:List MapEntry}{cs:List (Array Value)}(h:UInv w W i es cs)(c:Array Value)(n:Int)(l:Nat)(hf:Instr.findNow (.int .i64) (iv n) es 0=some none):
 ∃W',(Instr.mapUpdate 104 (.map (some w.heap.size)) (iv n) (.slice (some ⟨W.heap.size,0,none⟩) l l)).run Tryz.prog (W.alloc (.cells c 54))=.ok () W'∧
  UInv w W' (i+1) (es++ [⟨iv n,.slice (some ⟨w.heap.size+1+i,0,none⟩) l l,i⟩]) (cs++ [c]):=by
 have hlt:w.heap.size<W.heap.size:=by have:=h.size;omega
 have hm:(W.alloc (.cells c 54)).heap[w.heap.size]? =some (.map es.toArray i):=by rw [(MapKept.heap_alloc W _).2 _ hlt];exact h.map
 refine⟨{(W.alloc (.cells c 54))with heap:=(W.alloc (.cells c 54)).heap.setIfInBounds w.heap.size (.map (es.toArray.push ⟨iv n,.slice (some ⟨W.heap.size,0,none⟩) l l,i⟩) (i+1))}, ?_, ?_⟩
 · have hk:(Instr.checkKey false 10000 3 (iv n)).run Tryz.prog (W.alloc (.cells c 54))=.ok () (W.alloc (.cells c 54)):=MapKept.run_checkKey KP (by trivial) false 9999
   have hfk:(Instr.findKey 3 (iv n) es).run Tryz.prog (W.alloc (.cells c 54))=.ok none (W.alloc (.cells c 54)):=MapKept.run_findKey KP hf
   have hs:=MapKept.run_setObj_map (P:=Tryz.prog) (.map (es.toArray.push ⟨iv n,.slice (some ⟨W.heap.size,0,none⟩) l l,i⟩) (i+1)) hm
   simp [Instr.mapUpdate,run_underlying NU,MapKept.run_getObj_map hm,hk,hfk,Result.andThen]
   simpa using hs
 · have hset:=MapKept.heap_set (o':=.map (es.toArray.push ⟨iv n,.slice (some ⟨W.heap.size,0,none⟩) l l,i⟩) (i+1)) hm
   have hcell:∀B q,B≠w.heap.size→Abs.cell {(W.alloc (.cells c 54))with heap:=(W.alloc (.cells c 54)).heap.setIfInBounds w.heap.size (.map (es.toArray.push ⟨iv n,.slice (some ⟨W.heap.size,0,none⟩) l l,i⟩) (i+1))} B q=Abs.cell (W.alloc (.cells c 54)) B q:=fun B q hB=>by
    simp only [Abs.cell,World.cell?]
    rw [hset.2 B hB]
   refine⟨?_, ?_, ?_, ?_, ?_⟩
   · have:=h.size
     show((W.alloc (.cells c 54)).heap.setIfInBounds w.heap.size _).size=_
     rw [Array.size_setIfInBounds,tx]
     omega
   · rw [hset.1]
     simp [h.size]
   · refine xQ (b:=w.heap.size) ?_ (Nat.le_refl _)
     have k1:w.keptBut W (fun p=>p=.map w.heap.size):=World.keptBut_mono (fun p hp=>by cases p<;>exact hp.elim) h.kept
     exact World.keptBut_trans (World.keptBut_trans k1 (World.keptBut_alloc W (.cells c 54) _)) (ChangeMaps.keptBut_setBlock hm rfl)
   · simp [h.len]
   · intro j c' hj q v hv
     rw [hcell _ _ (by omega)]
     by_cases hjl:j<cs.length
     · rw [List.getElem?_append_left hjl]at hj
       have:=h.cells j c' hj q v hv
       have e:=World.cell?_alloc_past (w:=W) (.cells c 54) (w.heap.size+1+j) q (Abs.cell_lt this)
       rw [Abs.cell,e]
       exact this
     · have hjj:j=cs.length:=by
        have:=(List.getElem?_eq_some_iff.1 hj).1
        simp at this
        omega
       subst hjj
       rw [List.getElem?_append_right (Nat.le_refl _),Nat.sub_self]at hj
       simp at hj
       subst hj
       have hq:=(Array.getElem?_eq_some_iff.1 hv)
       obtain⟨hq1,hq2⟩:=hq
       have:=Abs.cell_new W c 54 q hq1
       rw [h.len,←h.size,this,hq2]
theorem RT {w W:World}{n:Nat}{es:List MapEntry}{cs:List (Array Value)}(h:UInv w W n es cs)(k:Int)(r:Option (Nat×Value))(hf:Instr.findNow (.int .i64) (iv k) es 0=some r):
 (Instr.lookup 104 (.map (some w.heap.size)) (iv k) true).run Tryz.prog W=.ok (.tuple (match(generalizing:=false) r with | some (_,v)=> #[v,.bool true] | none=> #[.slice none 0 0,.bool false])) W:=by
 have hk:∀b,(Instr.checkKey b 10000 3 (iv k)).run Tryz.prog W=.ok () W:=fun b=>MapKept.run_checkKey KP (by trivial) b 9999
 have hfk:(Instr.findKey 3 (iv k) es).run Tryz.prog W=.ok r W:=MapKept.run_findKey KP hf
 cases r with
 | none=>simp [Instr.lookup,run_underlying NU,MapKept.run_getObj_map h.map,hk,hfk,zSl,Result.andThen]
 | some p=>simp [Instr.lookup,run_underlying NU,MapKept.run_getObj_map h.map,hk,hfk,Result.andThen]
theorem m5 {P:Program}(w:World){ops:Array Oper}{rest:List Oper}{o:Oper}{a:Act}{Q:Exit→Act→World→Prop}(hgd:o.guard=none)(t:TypeId)(ho:o.op=.makeMap t none)
 {v':Value} {w':World} (hr:(Instr.makeMap t none).run P w=.ok v' w') (h:wpList P ops Q rest (a.put o.dst v') w'):wpList P ops Q (o::rest) a w:=
 kn w hgd (by simp [execOp,ho,hr,Result.andThen]) h
def Dv (b:Nat):List MapEntry:=[⟨iv 1,.slice (some ⟨b+1+0,0,none⟩) 5 5,0⟩,⟨iv 2,.slice (some ⟨b+1+1,0,none⟩) 7 7,1⟩,⟨iv 3,.slice (some ⟨b+1+2,0,none⟩) 1 1,2⟩,⟨iv 4,.slice (some ⟨b+1+3,0,none⟩) 2 2,3⟩,⟨iv 5,.slice (some ⟨b+1+4,0,none⟩) 6 6,4⟩,⟨iv 6,.slice (some ⟨b+1+5,0,none⟩) 1 1,5⟩,⟨iv 7,.slice (some ⟨b+1+6,0,none⟩) 1 1,6⟩,⟨iv 8,.slice (some ⟨b+1+7,0,none⟩) 1 1,7⟩]
def MR :List (Array Value):=[#[iv 0,iv 1,iv 2,iv 3,iv 4], #[iv 0,iv 1,iv 3,iv 4,iv 8,iv 9,iv 10], #[iv 5], #[iv 5,iv 6], #[iv 5,iv 4,iv 7,iv 8,iv 9,iv 10], #[iv 5], #[iv 5], #[iv 5]]
theorem ij {W:World}{B:Nat}{l:List Int}{c:Array Value}(hc:c=(l.map iv).toArray)(h:∀(q:Nat) (v:Value),c[q]? =some v→Abs.cell W B q=some v):∀(j:Nat) (hj:j<l.length),Abs.cell W B j=some (iv l[j]):=by
 subst hc
 intro j hj
 exact h j _ (by simp)
theorem EA {w W:World}(h:UInv w W 8 (Dv w.heap.size) MR)(k:Int):∃r,Instr.findNow (.int .i64) (iv k) (Dv w.heap.size) 0=some r∧(match ca k with
 | some l=>∃B q,r=some (q,.slice (some ⟨B,0,none⟩) l.length l.length)∧w.heap.size≤B∧∀(j:Nat) (hj:j<l.length),Abs.cell W B j=some (iv l[j])
 | none=>r=none):=by
 by_cases k1:k=1
 · subst k1
   exact⟨some (0,.slice (some ⟨w.heap.size+1+0,0,none⟩) 5 5),rfl,_,_,rfl,by omega,ij (c:= #[iv 0,iv 1,iv 2,iv 3,iv 4]) rfl (h.cells 0 _ rfl)⟩
 by_cases k2:k=2
 · subst k2
   exact⟨some (1,.slice (some ⟨w.heap.size+1+1,0,none⟩) 7 7),rfl,_,_,rfl,by omega,ij (c:= #[iv 0,iv 1,iv 3,iv 4,iv 8,iv 9,iv 10]) rfl (h.cells 1 _ rfl)⟩
 by_cases k3:k=3
 · subst k3
   exact⟨some (2,.slice (some ⟨w.heap.size+1+2,0,none⟩) 1 1),rfl,_,_,rfl,by omega,ij (c:= #[iv 5]) rfl (h.cells 2 _ rfl)⟩
 by_cases k4:k=4
 · subst k4
   exact⟨some (3,.slice (some ⟨w.heap.size+1+3,0,none⟩) 2 2),rfl,_,_,rfl,by omega,ij (c:= #[iv 5,iv 6]) rfl (h.cells 3 _ rfl)⟩
 by_cases k5:k=5
 · subst k5
   exact⟨some (4,.slice (some ⟨w.heap.size+1+4,0,none⟩) 6 6),rfl,_,_,rfl,by omega,ij (c:= #[iv 5,iv 4,iv 7,iv 8,iv 9,iv 10]) rfl (h.cells 4 _ rfl)⟩
 by_cases k6:k=6
 · subst k6
   exact⟨some (5,.slice (some ⟨w.heap.size+1+5,0,none⟩) 1 1),rfl,_,_,rfl,by omega,ij (c:= #[iv 5]) rfl (h.cells 5 _ rfl)⟩
 by_cases k7:k=7
 · subst k7
   exact⟨some (6,.slice (some ⟨w.heap.size+1+6,0,none⟩) 1 1),rfl,_,_,rfl,by omega,ij (c:= #[iv 5]) rfl (h.cells 6 _ rfl)⟩
 by_cases k8:k=8
 · subst k8
   exact⟨some (7,.slice (some ⟨w.heap.size+1+7,0,none⟩) 1 1),rfl,_,_,rfl,by omega,ij (c:= #[iv 5]) rfl (h.cells 7 _ rfl)⟩
 refine⟨none, ?_, ?_⟩
 · have n1:(k==1)=false:=beq_eq_false_iff_ne.2 k1
   have n2:(k==2)=false:=beq_eq_false_iff_ne.2 k2
   have n3:(k==3)=false:=beq_eq_false_iff_ne.2 k3
   have n4:(k==4)=false:=beq_eq_false_iff_ne.2 k4
   have n5:(k==5)=false:=beq_eq_false_iff_ne.2 k5
   have n6:(k==6)=false:=beq_eq_false_iff_ne.2 k6
   have n7:(k==7)=false:=beq_eq_false_iff_ne.2 k7
   have n8:(k==8)=false:=beq_eq_false_iff_ne.2 k8
   simp [Dv,Instr.findNow,Instr.sameNow,n1,n2,n3,n4,n5,n6,n7,n8]
 · unfold ca
   rw [if_neg k1,if_neg k2,if_neg k3,if_neg k4,if_neg k5,if_neg k6,if_neg k7,if_neg k8]
set_option maxHeartbeats 4000000 in
set_option maxRecDepth 100000 in
theorem FI (k:Int)(w:World):Calls Tryz.prog 18 #[.int .i64 k] w fun e w'=>w.keptBut w' (Abs.inT fun _ _=>False)∧
 match ca k with
 | some l=>∃B,e=.returned (.tuple #[.slice (some ⟨B,0,none⟩) l.length l.length,.bool true])∧w.heap.size≤B∧∀(j:Nat) (hj:j<l.length),Abs.cell w' B j=some (iv l[j])
 | none=>e=.returned (.tuple #[.slice none 0 0,.bool false]):=by
 have Mu:Tryz.prog.follows .mixedOrders=true:=by kernel_rfl
 have hmk:=run_makeMap (P:=Tryz.prog) 104 w
 have h0:=NM w
 generalize w.alloc (.map #[] 0)=W0 at hmk h0
 obtain⟨W1,i0,h1⟩:=mg h0 #[iv 0,iv 1,iv 2,iv 3,iv 4] 1 5 (by simp [Instr.findNow,Instr.sameNow])
 obtain⟨W2,i1,h2⟩:=mg h1 #[iv 0,iv 1,iv 3,iv 4,iv 8,iv 9,iv 10] 2 7 (by simp [Instr.findNow,Instr.sameNow])
 obtain⟨W3,i2,h3⟩:=mg h2 #[iv 5] 3 1 (by simp [Instr.findNow,Instr.sameNow])
 obtain⟨W4,i3,h4⟩:=mg h3 #[iv 5,iv 6] 4 2 (by simp [Instr.findNow,Instr.sameNow])
 obtain⟨W5,i4,h5⟩:=mg h4 #[iv 5,iv 4,iv 7,iv 8,iv 9,iv 10] 5 6 (by simp [Instr.findNow,Instr.sameNow])
 obtain⟨W6,i5,h6⟩:=mg h5 #[iv 5] 6 1 (by simp [Instr.findNow,Instr.sameNow])
 obtain⟨W7,i6,h7⟩:=mg h6 #[iv 5] 7 1 (by simp [Instr.findNow,Instr.sameNow])
 obtain⟨W8,i7,h8⟩:=mg h7 #[iv 5] 8 1 (by simp [Instr.findNow,Instr.sameNow])
 have h8':UInv w W8 8 (Dv w.heap.size) MR:=h8
 obtain⟨r,hr1,hr2⟩:=EA h8' k
 have hlk:=RT h8' k r hr1
 have hkept:=h8'.kept
 generalize hX:(match(generalizing:=false) r with | some (_,v)=> #[v,Value.bool true] | none=> #[Value.slice none 0 0,.bool false])=X at hlk
 obtain⟨v0,v1,rfl⟩:∃v0 v1,X= #[v0,v1]:=by
  cases r with
  | none=>exact⟨_,_,hX.symm⟩
  | some p=>exact⟨_,_,hX.symm⟩
 have hw:Calls Tryz.prog 18 #[.int .i64 k] w fun e w'=>e=.returned (.tuple #[v0,v1])∧w'=W8:=by
  go_enter Tryz.func18,Tryz.ntmps18
  go_wp2_with (first
   | ((with_reducible change wpList _ _ _ ({dst:=_,op:=Op.makeMap 104 none,type:=_,pos:=_,after:=_,guard:=_}::_) _ _);refine m5 _ rfl 104 rfl hmk ?_)
   | ((with_reducible change wpList _ _ _ ({dst:=_,op:=Op.insert 104 _ _ _,type:=_,pos:=_,after:=_,guard:=_}::_) _ _);refine bW _ rfl rfl _ _ _ _ rfl _ _ _ rfl rfl rfl i0 ?_)
   | ((with_reducible change wpList _ _ _ ({dst:=_,op:=Op.insert 104 _ _ _,type:=_,pos:=_,after:=_,guard:=_}::_) _ _);refine bW _ rfl rfl _ _ _ _ rfl _ _ _ rfl rfl rfl i1 ?_)
   | ((with_reducible change wpList _ _ _ ({dst:=_,op:=Op.insert 104 _ _ _,type:=_,pos:=_,after:=_,guard:=_}::_) _ _);refine bW _ rfl rfl _ _ _ _ rfl _ _ _ rfl rfl rfl i2 ?_)
   | ((with_reducible change wpList _ _ _ ({dst:=_,op:=Op.insert 104 _ _ _,type:=_,pos:=_,after:=_,guard:=_}::_) _ _);refine bW _ rfl rfl _ _ _ _ rfl _ _ _ rfl rfl rfl i3 ?_)
   | ((with_reducible change wpList _ _ _ ({dst:=_,op:=Op.insert 104 _ _ _,type:=_,pos:=_,after:=_,guard:=_}::_) _ _);refine bW _ rfl rfl _ _ _ _ rfl _ _ _ rfl rfl rfl i4 ?_)
   | ((with_reducible change wpList _ _ _ ({dst:=_,op:=Op.insert 104 _ _ _,type:=_,pos:=_,after:=_,guard:=_}::_) _ _);refine bW _ rfl rfl _ _ _ _ rfl _ _ _ rfl rfl rfl i5 ?_)
   | ((with_reducible change wpList _ _ _ ({dst:=_,op:=Op.insert 104 _ _ _,type:=_,pos:=_,after:=_,guard:=_}::_) _ _);refine bW _ rfl rfl _ _ _ _ rfl _ _ _ rfl rfl rfl i6 ?_)
   | ((with_reducible change wpList _ _ _ ({dst:=_,op:=Op.insert 104 _ _ _,type:=_,pos:=_,after:=_,guard:=_}::_) _ _);refine bW _ rfl rfl _ _ _ _ rfl _ _ _ rfl rfl rfl i7 ?_)
   | ((with_reducible change wpList _ _ _ ({dst:=_,op:=Op.lookup 104 _ _ _,type:=_,pos:=_,after:=_,guard:=_}::_) _ _);refine oa _ rfl _ _ _ _ rfl _ _ rfl rfl hlk ?_))
  all_goals (go_ret2;exact⟨rfl,rfl⟩)
 refine hw.mono ?_
 rintro e w' ⟨rfl,rfl⟩
 refine⟨hkept, ?_⟩
 cases hu:ca k with
 | none=>
  rw [hu]at hr2
  subst hr2
  rw [←hX]
 | some l=>
  rw [hu]at hr2
  obtain⟨B,q,rfl,h1,h2⟩:=hr2
  exact⟨B,by rw [←hX],h1,h2⟩
theorem qz :∀(l:List Int),(l.map fun n=> [Cell.int .i64 n]).flatten=l.map fun n=>Cell.int .i64 n
 | []=>rfl
 | n::l=>by rw [List.map_cons,List.flatten_cons,qz l];rfl
theorem P2 {E:Env}{te:Ty}(he:E.tys 54=some te)(hk:te.kinds=[.int .i64]):sd Tryz.prog E 18 (pw 54):=by
 intro args blk vs bs h
 unfold pw at h
 split at h
 rotate_left
 · cases h
 rename_i k
 cases h
 refine⟨⟨Tryz.f18,Tryz.func18,of_decide_eq_true (by kernel_rfl),by kernel_rfl⟩,fun R ρ own vals w hl ho hrel=> ?_⟩
 obtain⟨v,rfl⟩:∃v,vals=[v]:=by
  match vals,hl with
  | [a],_=>exact⟨a,rfl⟩
 have hv:v=.int .i64 k:=(hrel.fr 0).get_int
 subst hv
 refine(FI k w).mono ?_
 rintro e w' ⟨hkp,hpost⟩
 have hgr:Grow own own w w':=⟨World.keptBut_mono (lJ fun _ _ h=>h.elim) hkp,fun x B t' hx=> .inr ⟨x,t',hx,Nat.le_refl _⟩⟩
 have hK:Keeps w (Go.Abs.Fn own R) w' (Go.Abs.Fn own R):=uh hgr
 have key:∀(r0:Value),CR E w' (Go.Abs.Fn own R) (.slice 54 (be k)) r0→e=.returned (.tuple #[r0,.bool (ca k).isSome])→
  mn E R ρ own w [.one (.sl false 54 (be k)),.one (.bool (ca k).isSome)] [] e w':=by
  rintro r0 hcr rfl
  refine⟨[r0,.bool (ca k).isSome],ρ,own,rfl,rfl,fun _ _ h=>h,⟨rfl,rfl,fun t=> ?_,hrel.rho,fun b=> ?_,hrel.inj,fun x B t hx=>⟨Nat.lt_of_lt_of_le (hrel.out x B t hx).1 hkp.size,(hrel.out x B t hx).2⟩,fun B off hR=>Nat.lt_of_lt_of_le (hrel.low B off hR) hkp.size⟩,hgr⟩
  · by_cases h0:t=0
    · subst h0
      exact .one _ _ _ (by rw [ho];exact .sl _ _ _ hcr) fun p _=>ho _ _
    · by_cases h1:t=1
      · subst h1
        exact .one _ _ _ (by rw [ho];exact .bool _) fun p _=>ho _ _
      · have e1:Abs.get (zipFr [AV.one (.sl false 54 (be k)),.one (.bool (ca k).isSome)] 0) t=.undef:=by
         simp only [zipFr,Abs.get,dH (Ne.symm h0),dH (Ne.symm h1),cond_false]
        dsimp only
        rw [e1]
        exact .undef _ _ fun p=>ho _ _
  · exact hrel.blk b
 obtain⟨u,hu⟩:∃u,ca k=u:=⟨_,rfl⟩
 cases u with
 | none=>
  rw [hu]at hpost
  have hr:be k=[]:=by unfold be;rw [hu];rfl
  refine key (.slice none 0 0) ?_ ?_
  · rw [hr];exact .empty _ _ _
  · rw [hu];exact hpost
 | some l=>
  rw [hu]at hpost
  obtain⟨B,rfl,hB,hc⟩:=hpost
  have hr:be k=l.map fun n=> [Cell.int .i64 n]:=by unfold be;rw [hu];rfl
  refine key (.slice (some ⟨B,0,none⟩) l.length l.length) ?_ (by rw [hu];rfl)
  rw [hr]
  by_cases h0:l=[]
  · subst h0
    exact .empty _ _ _
  · have hfl:(l.map fun n=> [Cell.int .i64 n]).flatten.length=l.length:=by rw [qz];simp
    have:=CR.slice (E:=E) (w:=w') (F:=Go.Abs.Fn own R) 54 (l.map fun n=> [Cell.int .i64 n]) te B 0 l.length (fun j=>iv (l.getD j 0)) he (fun r hr=>by
     obtain⟨n,_,rfl⟩:=List.mem_map.1 hr
     rw [hk];rfl) (by simp) (fun i hi=>by
      rw [hfl]at hi
      rw [Nat.zero_add]
      refine⟨by rw [hc i hi];simp [List.getD,List.getElem?_eq_getElem hi], ?_⟩
      rintro(hR | ⟨x,t,hx,_⟩)
      · have:=hrel.low _ _ hR;omega
      · have:=(hrel.out _ _ _ hx).1;omega) (fun i hi=>by
        have hi':=hi
        rw [hfl]at hi'
        have e2:(l.map fun n=> [Cell.int .i64 n]).flatten[i]=Cell.int .i64 l[i]:=by simp only [qz,List.getElem_map]
        rw [e2]
        simp only [List.getD,List.getElem?_eq_getElem hi',Option.getD_some]
        exact .int _ _)
    rwa [List.length_map]at this
theorem Su :∃te,E.tys 54=some te∧te.kinds=[.int .i64]:=by
 have h:(E.tys 54).any (fun te=>decide (te.kinds=[.int .i64]))=true:=by kernel_rfl
 cases e:E.tys 54 with
 | none=>rw [e]at h;cases h
 | some te=>
  rw [e]at h
  simp only [Option.any_some,decide_eq_true_eq]at h
  exact⟨te,rfl,h⟩
theorem c18 :sd Tryz.prog E 18 (pw 54):=by
 obtain⟨te,he,hk⟩:=Su
 exact P2 he hk
end Go.Proofs.YtejimgikldiajaaGreat
namespace Go.Proofs.YtejimgikldiajaaGreat
open Go.Abs
theorem FC {P:Program}(w:World)(s:ByteArray)(pos:Nat)(ty:TypeId)(h:pos<s.size):
 (Instr.next (.pointer (some ⟨w.heap.size,0,none⟩)) true ty).run P (w.iter s pos)=
  .ok (.tuple #[.bool true,.int .i64 pos,.int .i32 (Utf8.decode s pos).1]) (w.iter s (pos+(Utf8.decode s pos).2)):=by
 simp only [Instr.next,getObj,setObj,Sem.run_bind,Sem.run,World.iter_heap,Result.andThen,h,if_true,World.iter_set]
 simp [goInt,Sem.run,World.iter_heap,World.iter_set]
theorem N6 :Tryz.prog.underlying 9=some .string:=by kernel_rfl
set_option maxRecDepth 100000 in
theorem Lb (s:ByteArray)(w:World):Calls Tryz.prog 151 #[.string s] w fun e w'=>e=.returned (.bool (decide (s.size=0)))∧∃pos,w'=w.iter s pos:=by
 have hr:=run_range_string (P:=Tryz.prog) w 9 s N6
 by_cases h:0<s.size
 · have hn:=FC (P:=Tryz.prog) w s 0 0 h
   go_enter Tryz.func151,Tryz.ntmps151
   go_wp2
   refine wp_loop_rounds 1 ?_
   rw [rounds_succ]
   go_wp2
   all_goals go_ret
   all_goals exact⟨congrArg (fun b=>Ending.returned (.bool b)) (decide_eq_false (by omega)).symm,_,rfl⟩
 · have hn:=run_next_end (P:=Tryz.prog) w s 0 0 h
   go_enter Tryz.func151,Tryz.ntmps151
   go_wp2
   refine wp_loop_rounds 1 ?_
   rw [rounds_succ]
   go_wp2
   all_goals go_ret
   all_goals exact⟨congrArg (fun b=>Ending.returned (.bool b)) (decide_eq_true (by omega)).symm,_,rfl⟩
theorem RG :sd Tryz.prog E 151 xM:=by
 intro args blk vs bs h
 unfold xM at h
 split at h
 · rename_i s
   cases h
   refine⟨⟨Tryz.f151,Tryz.func151,of_decide_eq_true (by kernel_rfl),by kernel_rfl⟩,fun R ρ own vals w hl ho hrel=> ?_⟩
   obtain⟨v,rfl⟩:∃v,vals=[v]:=by
    cases vals with
    | nil=>cases hl
    | cons v r=>
     cases r with
     | nil=>exact⟨v,rfl⟩
     | cons _ _=>simp at hl
   have hv:v=.string ⟨s.toArray⟩:=by
    have:=(hrel.fr 0).dis
    simp only [Abs.zipFr,Abs.get,co,cond_true,AV.dis,AC.dis]at this
    cases this with
    | one _ _ _ hh _=>
     have e:([v].toArray.getD 0 undef)=v:=by simp
     generalize [v].toArray.getD 0 undef=v' at hh e
     cases hh
     exact e.symm
   subst hv
   refine Calls.mono (Lb ⟨s.toArray⟩ w) fun e w' he=> ?_
   obtain⟨rfl,pos,rfl⟩:=he
   have hp:=hrel.put (dst:=some 0) (dis:=none) (v:=.one (.bool s.isEmpty)) (val:=.bool (decide ((⟨s.toArray⟩:ByteArray).size=0))) (oV:=fun _=>none) (w':=w.iter ⟨s.toArray⟩ pos) (T:=fun _ _=>False) (rd:=[])
    (fun d hd=>by cases hd;simp) (World.keptBut_alloc _ _ _) (fun B off h=>h.elim) (fun p B t' h=>by cases h) (fun p p' B t t' h=>by cases h)
    (fun _=>by
      have e:s.isEmpty=decide ((⟨s.toArray⟩:ByteArray).size=0):=by
       cases s<;>simp [ByteArray.size]
      rw [e]
      exact .one _ _ _ (.bool _) (fun _ _=>rfl))
   exact⟨[.bool (decide ((⟨s.toArray⟩:ByteArray).size=0))],ρ,_,rfl,rfl,fun _ _ h=>h,hp.1,hp.2⟩
 · cases h
end Go.Proofs.YtejimgikldiajaaGreat
