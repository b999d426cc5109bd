/-
  Merged texts.
-/
import Derived.Test.YtejimgikldiajaaGreatZ2
import Derived.Scope
import Derived.RowKit
import Derived.OpenShut
import Derived.ChangeOld
import Derived.ChangeArms
import Derived.Laws.StructEq
namespace Go.Abs
variable {E:Env} {call:cQ} {tk:List Nat} {sigs:List (Nat×Sig)} {all:List Oper}
theorem tmpsOf_mem {t:Nat}:∀{l:List Operand},t∈nW l↔Operand.tmp t∈l
 | []=>by simp [nW]
 | x::r=>by cases x<;>simp [nW,tmpsOf_mem (l:=r)]
section loc
variable {fr fr':List (Nat×AV)}
theorem uq {x:Operand}(h:∀t,x=.tmp t→get fr t=get fr' t):ev fr x=ev fr' x:=by
 cases x with
 | tmp t=>exact h t rfl
 | _=>rfl
theorem yE :∀{l:List Operand},(∀t,Operand.tmp t∈l→get fr t=get fr' t)→evL fr l=evL fr' l
 | [],_=>rfl
 | x::r,h=>by simp only [evL];rw [uq fun t e=>h t (by simp [e]),yE fun t e=>h t (by simp [e])]
theorem yh :∀{x:Option Operand},(∀t,x=some (.tmp t)→get fr t=get fr' t)→evO fr x=evO fr' x
 | none,_=>rfl
 | some x,h=>by simp only [evO];rw [uq fun t e=>h t (by simp [e])]
theorem io :∀{l:List (Nat×Operand)},(∀t,Operand.tmp t∈opOps.partOps l→get fr t=get fr' t)→gw fr l=gw fr' l
 | [],_=>rfl
 | (i,x)::r,h=>by simp only [gw];rw [uq fun t e=>h t (by simp [opOps.partOps,e]),io fun t e=>h t (by simp [opOps.partOps,e])]
theorem pb {x:Nat}:∀{l:List (Nat×Operand)},(∀t,Operand.tmp t∈opOps.partOps l→get fr t=get fr' t)→iy fr x l=iy fr' x l
 | [],_=>rfl
 | (i,y)::r,h=>by
  have h1:=uq (fr:=fr) (fr':=fr') (x:=y) fun t e=>h t (by simp [opOps.partOps,e])
  have h2:=pb (x:=x) (l:=r) fun t e=>h t (by simp [opOps.partOps,e])
  have h3:=io (fr:=fr) (fr':=fr') (l:=r) fun t e=>h t (by simp [opOps.partOps,e])
  simp only [iy,h1,h2,h3]
theorem qW {tk:List Nat}:∀{l:List (Nat×Operand)},(∀t,Operand.tmp t∈opOps.partOps l→get fr t=get fr' t)→ie tk fr l=ie tk fr' l
 | [],_=>rfl
 | (i,y)::r,h=>by
  have h2:=qW (tk:=tk) (l:=r) fun t e=>h t (by simp [opOps.partOps,e])
  cases y with
  | tmp t=>
   simp only [ie,fw]
   rw [h t (by simp [opOps.partOps]),h2]
  | _=>simpa [ie,fw]using h2
end loc
theorem qf (blk:List Block):∀(n:Nat) (todo seen:List Nat),∀x∈seen,x∈dQ blk n todo seen
 | 0,_,_,x,h=>by simpa [dQ]using h
 | n+1,[],_,x,h=>by simpa [dQ]using h
 | n+1,b::todo,seen,x,h=>by
  simp only [dQ]
  cases dF seen b with
  | true=>exact qf blk n _ _ x h
  | false=>exact qf blk n _ _ x (by rw [ba];exact List.mem_append_left _ h)
theorem qC {blk blk':List Block}:∀(n:Nat) (todo seen:List Nat),(∀b∈dQ blk n todo seen,nth blk b=nth blk' b)→dQ blk' n todo seen=dQ blk n todo seen
 | 0,_,_,_=>by simp [dQ]
 | n+1,[],_,_=>by simp [dQ]
 | n+1,b::todo,seen,h=>by
  simp only [dQ]at h⊢
  cases hm:dF seen b with
  | true=>rw [hm]at h;exact qC n _ _ h
  | false=>
   rw [hm]at h
   simp only [cond_false]at h⊢
   have hb:=h b (qf blk n _ _ b (by rw [ba];exact List.mem_append_right _ (by simp)))
   rw [←hb]
   exact qC n _ _ h
theorem oL {μ:Nat→Option Nat}{blk blk':List Block}:∀{sel:List Nat},(∀b∈sel,nth blk b=nth blk' b)→ey μ blk' sel=ey μ blk sel
 | [],_=>rfl
 | b::r,h=>by simp only [ey];rw [h b (by simp),oL fun b hb=>h b (by simp [hb])]
theorem ET {sel:List Nat}{n n' m:Nat}(h:m≤sel.length):vf sel n m=vf sel n' m:=by
 funext i
 unfold vf
 split
 · rfl
 · rename_i e
   rw [aY,List.getElem?_eq_none_iff]at e
   have:Nat.blt i m=false:=by
    cases hb:Nat.blt i m with
    | false=>rfl
    | true=>have:i<m:=Nat.lt_of_lt_of_le (Nat.lt_of_succ_le (Nat.le_of_ble_eq_true hb)) (Nat.le_refl _);omega
   simp only [this,cond_false]
theorem vR {sg:Sig}{f:FuncId}{args:List AV}{st st':St}{u:Upd}(hu:eT call sg f args st some=some u)(hb:∀b∈u.rd,nth st.blk b=nth st'.blk b)
 (hn:u.nu≠ []→st.blk.length=st'.blk.length):eT call sg f args st' some=some u:=by
 unfold eT at hu⊢
 dsimp only at hu⊢
 generalize hsl:dQ st.blk 1000 (gG args) []=sel at hu
 have hrd:u.rd=sel:=by
  split at hu<;>try (cases hu;done)
  rename_i args' bs _ _
  revert hu
  cases hc:call f args' bs with
  | mk known r=>
  intro hu
  simp only [kv]at hu
  unfold qH l3 at hu
  obtain⟨sg,hsg⟩:∃s,s=sS sg r:=⟨_,rfl⟩
  rw [←hsg]at hu
  cases known<;>simp only [cond_true,cond_false]at hu<;>try (cases hu;done)
  cases hok:sg.ok r<;>simp only [hok,cond_true,cond_false]at hu<;>try (cases hu;done)
  split at hu<;>try (cases hu;done)
  rename_i vs bs' _ _
  cases hle:Nat.ble (bI sel) (bI bs')<;>simp only [hle,cond_true,cond_false]at hu<;>try (cases hu;done)
  cases hu;rfl
 have hsl':dQ st'.blk 1000 (gG args) []=sel:=by
  rw [←hsl]
  exact qC _ _ _ fun b hm=>hb b (by rw [hrd,←hsl];exact hm)
 rw [hsl',oL (blk:=st.blk) fun b hm=>hb b (by rw [hrd];exact hm)]
 split at hu<;>try (cases hu;done)
 rename_i args' bs h1 h2
 try rw [h1,h2]
 try dsimp only
 revert hu
 cases hc:call f args' bs with
 | mk known r=>
 intro hu
 simp only [kv]at hu⊢
 unfold qH l3 at hu⊢
 obtain⟨sg,hsg⟩:∃s,s=sS sg r:=⟨_,rfl⟩
 rw [←hsg]at hu⊢
 try dsimp only at hu⊢
 cases known<;>simp only [cond_true,cond_false]at hu⊢<;>try (cases hu;done)
 cases hok:sg.ok r<;>simp only [hok,cond_true,cond_false]at hu⊢<;>try (cases hu;done)
 split at hu<;>try (cases hu;done)
 rename_i vs bs' h3 h4
 cases hle:Nat.ble (bI sel) (bI bs')<;>simp only [hle,cond_true,cond_false]at hu<;>try (cases hu;done)
 have h6:sg.blks.length=r.2.length:=by
  have h6:=hok
  simp only [Sig.ok,Bool.and_eq_true]at h6
  exact(mZ h6.2).1
 have hback:vf sel (bI st'.blk) (bI sg.blks)=vf sel (bI st.blk) (bI sg.blks):=by
  by_cases hnu:u.nu=[]
  · refine ET ?_
    cases hu
    simp only [aN,List.drop_eq_nil_iff,bq]at hnu
    have:=(ld h4).1
    have h5:=(l9 (ps:=sg.blks) (l:=r.2) (k:=0)).1
    rw [bq]
    omega
  · simp only [bq,hn hnu]
 rw [hback]
 try rw [h3,h4]
 simp only [hle,cond_true]
 exact hu
theorem sm {bs bs':List Block}:∀{l:List (Nat×Block)},(∀k∈l.map (·.1),kz bs k=kz bs' k)→gI bs l=gI bs' l
 | [],_=>rfl
 | (k,c)::r,h=>by
  simp only [gI]
  rw [h k (by simp),sm (l:=r) fun k' hk=>h k' (by simp only [List.map_cons,List.mem_cons];exact .inr hk)]
theorem sK {bs:List Block}:∀{k:Nat},nth bs k=none→kz bs k=.dead:=by
 induction bs with
 | nil=>intro k h;rfl
 | cons b bs ih=>
  intro k h
  cases k with
  | zero=>simp [nth]at h
  | succ k=>simp only [nth]at h;exact ih h
theorem I1 {bs bs':List Block}{k:Nat}(h:nth bs k=nth bs' k):kz bs k=kz bs' k:=by
 cases hc:nth bs k with
 | none=>rw [sK hc,sK (by rw [←h];exact hc)]
 | some c=>rw [wx hc,wx (by rw [←h];exact hc)]
theorem zC :∀{sel:List Nat} {bs:List Block},∀k∈(u9 sel bs).map (·.1),k∈sel
 | [],bs,k,h=>by cases bs<;>simp [u9]at h
 | _::_,[],k,h=>by simp [u9]at h
 | b::sel,c::bs,k,h=>by
  simp only [u9,List.map_cons,List.mem_cons]at h
  rcases h with rfl | h
  · simp
  · exact List.mem_cons_of_mem _ (zC k h)
theorem GD {sg:Sig}{f:FuncId}{args:List AV}{u:Upd}{st:St}(hu:eT call sg f args st some=some u):∀k∈u.wr.map (·.1),k∈u.rd:=by
 unfold eT at hu
 dsimp only at hu
 split at hu<;>try (cases hu;done)
 rename_i args' bs _ _
 cases hc:call f args' bs with
 | mk known r=>
  rw [hc]at hu
  simp only [kv]at hu
  unfold qH l3 at hu
  cases known<;>simp only [cond_true,cond_false]at hu<;>try (cases hu;done)
  cases hok:(sS sg r).ok r<;>simp only [hok,cond_true,cond_false]at hu<;>try (cases hu;done)
  split at hu<;>try (cases hu;done)
  replace hu:=(ab hu).2
  cases hu
  exact fun k hk=>zC k hk
theorem C0 {sg:Sig}{f:FuncId}{args:List AV}{st st':St}{u:Upd}(hu:fL call sg f args st some=some u)(hb:∀b∈u.rd,nth st.blk b=nth st'.blk b):fL call sg f args st' some=some u:=by
 obtain⟨u1,h1,h2,h3,h4⟩:=jD _ _ _ _ _ hu
 have hb':∀b∈u1.rd,nth st.blk b=nth st'.blk b:=fun b hm=>hb b (by rw [h4];exact hm)
 have h5:=vR h1 hb' (fun hc=>absurd h2 hc)
 have h6:gI st'.blk u1.wr=true:=by
  rw [←h3]
  exact(sm fun k hk=>I1 (hb' k (GD h1 k hk))).symm
 unfold fL
 have hn:=iW (f:=fun u=>cond (el u.nu&&gI st'.blk u.wr) (some (⟨u.val,none,[],[],u.rd⟩:Upd)) none) call sg f args st' some
 simp only [Option.bind_some]at hn
 rw [←hn,h5]
 simp only [Option.bind_some,h2,el,h6,Bool.and_self,cond_true,h4]
theorem wE {t:TypeId}{x:AV}{st st':St}{u:Upd}(hu:o0 E t st x some=some u)(hn:u.nu≠ []→st.blk.length=st'.blk.length):o0 E t st' x some=some u:=by
 unfold o0 at hu⊢
 split at hu<;>try (cases hu;done)
 split at hu<;>try (cases hu;done)
 rotate_left
 · exact hu
 split at hu<;>try (cases hu;done)
 cases hu
 have:=hn (by simp)
 simp only [bq,this]
theorem BS {t:TypeId}{len:Nat}{st st':St}{u:Upd}(hu:kL E t len st some=some u)(hn:u.nu≠ []→st.blk.length=st'.blk.length):kL E t len st' some=some u:=by
 unfold kL at hu⊢
 split at hu<;>try (cases hu;done)
 split at hu<;>try (cases hu;done)
 split at hu<;>try (cases hu;done)
 obtain⟨hl,hu⟩:=ab hu
 cases hu
 have:=hn (by simp)
 simp only [hl,cond_true,bq,this]
theorem CV {t:TypeId}{x y:AV}{st st':St}{u:Upd}(hu:jW E t st x y some=some u)(hn:u.nu≠ []→st.blk.length=st'.blk.length):jW E t st' x y some=some u:=by
 have key:u.nu≠ []:=by
  unfold jW at hu
  split at hu<;>try (cases hu;done)
  split at hu<;>try (cases hu;done)
  split at hu<;>try (cases hu;done)
  replace hu:=(ab hu).2
  replace hu:=(ab hu).2
  replace hu:=(ab hu).2
  obtain⟨z,hu,_⟩:=cw hu
  obtain⟨row,hu,_⟩:=eC hu
  cases hu
  simp
 unfold jW at hu⊢
 simp only [bq,←hn key]at hu⊢
 exact hu
theorem CS {t:TypeId}{st st':St}{u:Upd}(hu:jX E t st some=some u)(hn:u.nu≠ []→st.blk.length=st'.blk.length):jX E t st' some=some u:=by
 have key:u.nu≠ []:=by
  unfold jX at hu
  split at hu<;>try (cases hu;done)
  split at hu<;>try (cases hu;done)
  split at hu<;>try (cases hu;done)
  split at hu<;>try (cases hu;done)
  replace hu:=(ab hu).2
  split at hu<;>try (cases hu;done)
  split at hu<;>try (cases hu;done)
  cases hu
  simp
 unfold jX at hu⊢
 simp only [bq,←hn key]at hu⊢
 exact hu
theorem reads_mem {u:Upd}{rd:List Nat}{b:Nat}:b∈(u.reads rd).rd↔b∈rd∨b∈u.rd:=by simp only [Upd.reads,ba,List.mem_append]
theorem IW {y:AV}{st st':St}{K K':AV→List Nat→Option Upd}{u:Upd}(hu:pY E st y K=some u)(hrd:∀y' rd,K y' rd=some u→∀b∈rd,b∈u.rd)(hb:∀b∈u.rd,nth st.blk b=nth st'.blk b)
 (hK:∀y' rd,K y' rd=some u→K' y' rd=some u):pY E st' y K'=some u:=by
 unfold pY at hu⊢
 split at hu
 · rename_i e b n
   split at hu<;>try (cases hu;done)
   rename_i e' rows hbl
   obtain⟨h1,h2⟩:=ab hu
   obtain⟨h3,h4⟩:=ab h2
   have:=hb b (hrd _ _ h4 b (by simp))
   rw [←this,hbl]
   dsimp only
   rw [h1,h3]
   exact hK _ _ h4
 · rename_i e b lo n c
   split at hu<;>try (cases hu;done)
   rename_i e' rows hbl
   obtain⟨h1,h2⟩:=ab hu
   obtain⟨h3,h4⟩:=ab h2
   have:=hb b (hrd _ _ h4 b (by simp))
   rw [←this,hbl]
   dsimp only
   rw [h1,h3]
   exact hK _ _ h4
 · exact hK _ _ hu
theorem EQ {t t2 e:TypeId}{b lo n c:Nat}{y:AV}{st st':St}{u:Upd}(hu:mj E t t2 e b lo n c st y some=some u)(hb:∀b∈u.rd,nth st.blk b=nth st'.blk b):mj E t t2 e b lo n c st' y some=some u:=by
 have key:b∈u.rd:=by
  unfold mj at hu
  split at hu<;>try (cases hu;done)
  replace hu:=(ab hu).2
  split at hu<;>try (cases hu;done)
  replace hu:=(ab hu).2
  split at hu<;>try (cases hu;done)
  replace hu:=(ab hu).2
  replace hu:=(ab hu).2
  replace hu:=(ab hu).2
  replace hu:=(ab hu).2
  cases hu
  simp
 unfold mj at hu⊢
 rw [←hb b key]
 exact hu
theorem sk {e0 e:TypeId}{b lo n:Nat}{y:AV}{st st':St}{u:Upd}(hu:jm e0 e b lo n st y some=some u)(hb:∀b∈u.rd,nth st.blk b=nth st'.blk b):jm e0 e b lo n st' y some=some u:=by
 have key:b∈u.rd:=by
  unfold jm at hu
  split at hu<;>try (cases hu;done)
  replace hu:=(ab hu).2
  replace hu:=(ab hu).2
  replace hu:=(ab hu).2
  cases hu
  simp
 unfold jm at hu⊢
 rw [←hb b key]
 exact hu
theorem Fg {t:TypeId}{x y:AV}{st st':St}{u:Upd}(hu:me E t x st y some=some u)(hb:∀b∈u.rd,nth st.blk b=nth st'.blk b):me E t x st' y some=some u:=by
 unfold me at hu⊢
 split at hu<;>try (cases hu;done)
 rename_i ty ht
 try rw [ht]
 try dsimp only
 split at hu<;>try (cases hu;done)
 rename_i e0 hd
 try rw [hd]
 try dsimp only
 split at hu<;>try (cases hu;done)
 · obtain⟨h1,h2⟩:=ab hu
   try dsimp only
   rw [h1]
   exact sk h2 hb
 · exact sk hu hb
theorem qM {x:AV}{st st':St}{u:Upd}(hu:iT st x some=some u)(hb:∀b∈u.rd,nth st.blk b=nth st'.blk b):iT st' x some=some u:=by
 unfold iT at hu⊢
 split at hu<;>try (cases hu;done)
 · exact hu
 · rename_i e b n
   try dsimp only
   have hbb:nth st.blk b=nth st'.blk b:=by
    refine hb b ?_
    split at hu<;>try (cases hu;done)
    all_goals
     obtain⟨_,hu⟩:=ab hu
     obtain⟨_,hu⟩:=ab hu
     cases hu;simp
   rw [←hbb]
   exact hu
 · rename_i e b lo n c
   try dsimp only
   have hbb:nth st.blk b=nth st'.blk b:=by
    refine hb b ?_
    split at hu<;>try (cases hu;done)
    all_goals
     obtain⟨_,hu⟩:=ab hu
     obtain⟨_,hu⟩:=ab hu
     cases hu;simp
   rw [←hbb]
   exact hu
theorem E7 {t t2 e:TypeId}{b n:Nat}{y:AV}{st st':St}{u:Upd}(hu:md E t t2 e b n st y some=some u)(hb:∀b∈u.rd,nth st.blk b=nth st'.blk b)(hn:u.nu≠ []→st.blk.length=st'.blk.length):md E t t2 e b n st' y some=some u:=by
 have key:b∈u.rd∧u.nu≠ []:=by
  unfold md at hu
  split at hu<;>try (cases hu;done)
  replace hu:=(ab hu).2
  split at hu<;>try (cases hu;done)
  split at hu<;>try (cases hu;done)
  replace hu:=(ab hu).2
  split at hu<;>try (cases hu;done)
  replace hu:=(ab hu).2
  replace hu:=(ab hu).2
  replace hu:=(ab hu).2
  cases hu
  simp
 have hl:=hn key.2
 unfold md at hu⊢
 simp only [bq,←hl,←hb b key.1]at hu⊢
 exact hu
theorem B0 {t t2 e:TypeId}{b n:Nat}{k:Int}{st st':St}{u:Upd}(hu:jg E t t2 e b n st k some=some u)(hb:∀b∈u.rd,nth st.blk b=nth st'.blk b)(hn:u.nu≠ []→st.blk.length=st'.blk.length):jg E t t2 e b n st' k some=some u:=by
 have key:b∈u.rd∧u.nu≠ []:=by
  unfold jg at hu
  split at hu<;>try (cases hu;done)
  split at hu<;>try (cases hu;done)
  split at hu<;>try (cases hu;done)
  replace hu:=(ab hu).2
  split at hu<;>try (cases hu;done)
  replace hu:=(ab hu).2
  replace hu:=(ab hu).2
  replace hu:=(ab hu).2
  replace hu:=(ab hu).2
  obtain⟨_,h3,_⟩:=cw hu
  obtain⟨_,h6,_⟩:=eC h3
  cases h6
  simp
 have hl:=hn key.2
 unfold jg at hu⊢
 simp only [bq,←hl,←hb b key.1]at hu⊢
 exact hu
theorem zU {t t2:TypeId}{dis:Option Nat}{x y:AV}{st st':St}{u:Upd}(hu:ig E t t2 dis x st y some=some u)(hb:∀b∈u.rd,nth st.blk b=nth st'.blk b)(hn:u.nu≠ []→st.blk.length=st'.blk.length):ig E t t2 dis x st' y some=some u:=by
 unfold ig at hu⊢
 split at hu
 · split at hu
   · exact B0 hu hb hn
   · exact E7 hu hb hn
 · exact EQ hu hb
 · exact hu
theorem qj {X X':AV→(Upd→Option Upd)→Option Upd}{y:AV}{st st':St}{u:Upd}(hX:∀y' K,(X y' K)=(X y' some).bind K)(hX':∀y' K,(X' y' K)=(X' y' some).bind K)
 (hu:pY E st y (fun y' rd=>X y' fun u=>some (u.reads rd))=some u) (hb:∀b∈u.rd,nth st.blk b=nth st'.blk b)
 (hK:∀y' u0,X y' some=some u0→(∀b∈u0.rd,nth st.blk b=nth st'.blk b)→(u0.nu=u.nu)→X' y' some=some u0):pY E st' y (fun y' rd=>X' y' fun u=>some (u.reads rd))=some u:=by
 have split1:∀y' rd,(X y' fun u=>some (u.reads rd))=some u→∃u0,X y' some=some u0∧u=u0.reads rd:=by
  intro y' rd h
  rw [hX]at h
  obtain⟨u0,h1,h2⟩:=bind_some h
  exact⟨u0,h1,(Option.some.inj h2).symm⟩
 refine IW hu (fun y' rd h b hm=> ?_) hb (fun y' rd h=> ?_)
 · obtain⟨u0,_,rfl⟩:=split1 _ _ h
   exact reads_mem.2 (.inl hm)
 · obtain⟨u0,h1,rfl⟩:=split1 _ _ h
   rw [hX',hK y' u0 h1 (fun b hm=>hb b (reads_mem.2 (.inr hm))) rfl]
   rfl
theorem po {sg:Option Sig}{o:Oper}{st st':St}{u:Upd}(hu:actK E call tk sg o st some=some u)(ht:∀t∈nW (opOps o.op),get st.fr t=get st'.fr t)
 (hb:∀b∈u.rd,nth st.blk b=nth st'.blk b) (hn:u.nu≠ []→st.blk.length=st'.blk.length):actK E call tk sg o st' some=some u:=by
 have hx:∀x∈opOps o.op,ev st.fr x=ev st'.fr x:=fun x hm=>uq fun t e=>ht t (tmpsOf_mem.2 (e▸hm))
 unfold actK at hu⊢
 cases hop:o.op<;>rw [hop]at hx hu ht<;>try (cases hu;done)
 all_goals try dsimp only at hu⊢
 case move x=>
  rw [←hx x (by simp [opOps])]
  split at hu
  · exact wE hu hn
  · exact qM hu hb
  · exact hu
 case assign x=>
  rw [←hx x (by simp [opOps])]
  split at hu
  · exact wE hu hn
  · exact qM hu hb
  · exact hu
 case pick c a b=>rw [←hx c (by simp [opOps]),←hx a (by simp [opOps]),←hx b (by simp [opOps])];exact hu
 case alloc t=>
  split at hu
  · exact CS hu hn
  split at hu<;>try (cases hu;done)
  have:st.blk.length=st'.blk.length:=by
   refine hn ?_
   obtain⟨z,hz⟩:∃z,some (⟨.one (.ptr (bI st.blk) 0),none,[],[.var z],[]⟩:Upd)=some u:=by
    rename_i ty _
    have:=eU (fun z=>some (⟨.one (.ptr (bI st.blk) 0),none,[],[.var z],[]⟩:Upd)) ty.kinds some
    simp only [Option.bind_some]at this
    rw [←this]at hu
    cases hz:eE ty.kinds some with
    | none=>rw [hz]at hu;cases hu
    | some z=>rw [hz]at hu;exact⟨z,hu⟩
   cases hz
   simp
  rw [bq,←this,←bq]
  exact hu
 case box t x=>
  rw [←hx x (by simp [opOps])]
  split at hu<;>try (cases hu;done)
  rename_i ty _
  have:st.blk.length=st'.blk.length:=by
   refine hn ?_
   generalize (cond (takes tk o.dst) (ev st.fr x) (ev st.fr x).dis)=v at hu
   have:=hH (fun l=>some (⟨.one (.ptr (bI st.blk) 0),cond (takes tk o.dst) (fw x) none,[],[.var l],[]⟩:Upd)) ty v some
   simp only [Option.bind_some]at this
   rw [←this]at hu
   cases hz:eF ty v some with
   | none=>rw [hz]at hu;cases hu
   | some z=>rw [hz]at hu;cases hu;simp
  rw [bq,←this,←bq]
  exact hu
 case build t ps=>
  have hp:∀t,Operand.tmp t∈opOps.partOps ps.toList→get st.fr t=get st'.fr t:=fun t hm=>ht t (tmpsOf_mem.2 (by simpa [opOps]using hm))
  rw [←qW (fr:=st.fr) hp]
  split at hu
  · rw [←io (fr:=st.fr) hp];exact hu
  split at hu
  · rename_i x hx
    try rw [hx]
    rw [←pb (fr:=st.fr) hp];exact hu
  · rename_i hx
    try rw [hx]
    rw [←io (fr:=st.fr) hp];exact hu
 case buildSlice t n ps=>
  split at hu
  · rename_i hfl
    try rw [hfl]
    try dsimp only
    split at hu
    · rename_i hps
      try rw [hps]
      exact BS hu hn
    · cases hu
  · rename_i hfl
    try rw [hfl]
    try dsimp only
    rw [←io (fr:=st.fr) fun t hm=>ht t (tmpsOf_mem.2 (by simpa [opOps]using hm))];exact hu
 case load t p=>
  rw [←hx p (by simp [opOps])]
  unfold lx at hu⊢
  split at hu<;>try (cases hu;done)
  rename_i ty hty
  try rw [hty]
  try dsimp only
  split at hu<;>try (cases hu;done)
  · rename_i b off hv
    try rw [hv]
    try dsimp only
    have hbb:nth st.blk b=nth st'.blk b:=by
     refine hb b ?_
     split at hu<;>try (cases hu;done)
     obtain⟨_,hu⟩:=gN hu
     unfold dg at hu
     have key:∀(cs ds:List AC) (v:AV),((match takes tk o.dst with
      | false=>some (⟨v.dis,none,[],[],[b]⟩:Upd)
      | true=>eR cs off (qh ds) fun cells'=>some ⟨v,none,[(b,.var cells')],[],[b]⟩)=some u)→b∈u.rd:=by
      intro cs ds v hu
      split at hu
      · cases hu;simp
      · obtain⟨_,hu⟩:=cc hu
        cases hu;simp
     split at hu<;>first | exact key _ _ _ hu | cases hu
    rw [←hbb]
    exact hu
  · exact hu
  · exact hu
  · rename_i b e i off hv
    try rw [hv]
    try dsimp only
    have hbb:nth st.blk b=nth st'.blk b:=by
     refine hb b ?_
     split at hu<;>try (cases hu;done)
     split at hu<;>try (cases hu;done)
     replace hu:=(ab hu).2
     replace hu:=(ab hu).2
     obtain⟨l,hu,_⟩:=jq hu
     unfold dg at hu
     split at hu<;>cases hu<;>simp
    rw [←hbb]
    exact hu
 case store t p x=>
  rw [←hx p (by simp [opOps]),←hx x (by simp [opOps])]
  have key:∀v dis,fB E t st (ev st.fr p) v dis some=some u→fB E t st' (ev st.fr p) v dis some=some u:=by
   intro v dis hu
   unfold fB at hu⊢
   split at hu<;>try (cases hu;done)
   rename_i ty hty
   try rw [hty]
   try dsimp only
   split at hu<;>try (cases hu;done)
   rotate_left
   · rename_i b e i off hv
     try rw [hv]
     try dsimp only
     have hbb:nth st.blk b=nth st'.blk b:=by
      refine hb b ?_
      split at hu<;>try (cases hu;done)
      split at hu<;>try (cases hu;done)
      replace hu:=(ab hu).2
      replace hu:=(ab hu).2
      obtain⟨l,_,hu⟩:=dj hu
      obtain⟨row,hu,_⟩:=eC hu
      cases hu;simp
     rw [←hbb]
     exact hu
   rename_i b off hv
   try rw [hv]
   try dsimp only
   have hbb:nth st.blk b=nth st'.blk b:=by
    refine hb b ?_
    split at hu<;>try (cases hu;done)
    rename_i cells _
    have:=hH (fun l=>eR cells off l fun cells'=>some (⟨.undef,dis,[(b,.var cells')],[],[b]⟩:Upd)) ty v some
    simp only [Option.bind_some]at this
    rw [←this]at hu
    cases hz:eF ty v some with
    | none=>rw [hz]at hu;cases hu
    | some z=>
     rw [hz]at hu
     obtain⟨_,hu⟩:=cc hu
     cases hu;simp
   rw [←hbb]
   exact hu
  split at hu
  · unfold lb at hu⊢
    split at hu<;>try (cases hu;done)
    rename_i ty hty
    try rw [hty]
    try dsimp only
    split at hu<;>try (cases hu;done)
    rename_i b off l hp' hv'
    try rw [hp',hv']
    try dsimp only
    have hbb:nth st.blk b=nth st'.blk b:=by
     refine hb b ?_
     split at hu<;>try (cases hu;done)
     obtain⟨_,hu⟩:=ab hu
     obtain⟨_,hu⟩:=cc hu
     cases hu;simp
    rw [←hbb]
    exact hu
  split at hu<;>exact key _ _ hu
 case nilCheck x=>rw [←hx x (by simp [opOps])];exact hu
 case binOp op t x y t2=>rw [←hx x (by simp [opOps]),←hx y (by simp [opOps])];exact hu
 case unOp op t x=>rw [←hx x (by simp [opOps])];exact hu
 case convert s d x=>
  rw [←hx x (by simp [opOps])]
  exact qj (X:=fun y' K=>qQ E s d y' K) (X':=fun y' K=>qQ E s d y' K) (fun y' K=>by rw [mT];rfl) (fun y' K=>by rw [mT];rfl) hu hb fun y' u0 h _ _=>h
 case makeFunc fn first caps=>
  cases fn<;>(try dsimp only at hu⊢)<;>try (cases hu;done)
  rw [←yE (fr:=st.fr) fun t hm=>ht t (tmpsOf_mem.2 (by simpa [opOps]using hm))];exact hu
 case makeSlice t l c=>
  rw [←hx l (by simp [opOps]),←hx c (by simp [opOps])]
  split at hu
  · exact CV hu hn
  · exact hu
 case slice t x lo hi mx=>
  rw [←hx x (by simp [opOps]),←yh (fr:=st.fr) (x:=lo) fun t e=>ht t (tmpsOf_mem.2 (by simp [opOps,e,rR,ba])),←yh (fr:=st.fr) (x:=hi) fun t e=>ht t (tmpsOf_mem.2 (by simp [opOps,e,rR,ba])),
   ←yh (fr:=st.fr) (x:=mx) fun t e=>ht t (tmpsOf_mem.2 (by simp [opOps,e,rR,ba]))]
  exact hu
 case fieldAddr s x g=>rw [←hx x (by simp [opOps])];exact hu
 case field s x g=>rw [←hx x (by simp [opOps])];exact hu
 case indexAddr t x i=>rw [←hx x (by simp [opOps]),←hx i (by simp [opOps])];exact hu
 case index t x i=>rw [←hx x (by simp [opOps]),←hx i (by simp [opOps])];exact hu
 case extract x i=>rw [←hx x (by simp [opOps])];exact hu
 case call c=>
  have hargs:evL st.fr c.args.toList=evL st'.fr c.args.toList:=yE fun t hm=>ht t (tmpsOf_mem.2 (by
   simp only [opOps]
   split
   · exact List.mem_cons_of_mem _ hm
   · exact hm))
  cases hcal:c.callee<;>rw [hcal]at hu<;>try (cases hu;done)
  case value g=>
   try dsimp only at hu⊢
   rw [←hx g (by simp [opOps,hcal]),←hargs]
   split at hu<;>try (cases hu;done)
   rename_i hv
   try rw [hv]
   try dsimp only
   split at hu<;>try (cases hu;done)
   rename_i hfn
   try rw [hfn]
   split at hu
   · rename_i hfl
     try rw [hfl]
     try dsimp only
     exact C0 hu hb
   rename_i hfl
   try rw [hfl]
   try dsimp only
   exact vR hu hb hn
  case builtin bi=>
   have hmem:∀x∈c.args.toList,ev st.fr x=ev st'.fr x:=fun x hm=>hx x (by simp only [opOps,hcal];exact hm)
   try dsimp only at hu⊢
   cases bi<;>(try dsimp only at hu⊢)<;>try (cases hu;done)
   case len=>
    split at hu<;>try (cases hu;done)
    rename_i h1 h2
    try rw [h1,h2]
    try dsimp only
    rw [←hmem _ (by rw [h2];simp)];exact hu
   case append=>
    split at hu<;>try (cases hu;done)
    rename_i t t2 x y h1 h2
    try rw [h1,h2]
    try dsimp only
    rw [←hmem x (by rw [h2];simp),←hmem y (by rw [h2];simp)]
    exact qj (X:=fun y' K=>ig E t t2 (fw x) (ev st.fr x) st y' K) (X':=fun y' K=>ig E t t2 (fw x) (ev st.fr x) st' y' K) (fun y' K=>by rw [jH];rfl) (fun y' K=>by rw [jH];rfl) hu hb
     fun y' u0 h h1 h2=>zU h h1 (h2▸hn)
   case copy=>
    split at hu<;>try (cases hu;done)
    rename_i t t2 x y h1 h2
    try rw [h1,h2]
    try dsimp only
    rw [←hmem x (by rw [h2];simp),←hmem y (by rw [h2];simp)]
    exact qj (X:=fun y' K=>me E t (ev st.fr x) st y' K) (X':=fun y' K=>me E t (ev st.fr x) st' y' K) (fun y' K=>by rw [mO];rfl) (fun y' K=>by rw [mO];rfl) hu hb
     fun y' u0 h h1 _=>Fg h h1
   case min=>rw [←hargs];exact hu
   case max=>rw [←hargs];exact hu
end Go.Abs
namespace Go.Abs
structure St.same (s t:St):Prop where
 fr:∀x,get s.fr x=get t.fr x
 blk:s.blk=t.blk
theorem St.same.refl (s:St):s.same s:=⟨fun _=>rfl,rfl⟩
theorem St.same.trans {s t u:St}(h:s.same t)(k:t.same u):s.same u:=⟨fun x=>(h.fr x).trans (k.fr x),h.blk.trans k.blk⟩
theorem St.same.symm {s t:St}(h:s.same t):t.same s:=⟨fun x=>(h.fr x).symm,h.blk.symm⟩
theorem St.same.apply {s t:St}(h:s.same t)(d:Option Nat)(u:Upd):(s.apply d u).same (t.apply d u):=
 ⟨fun x=>by simp only [St.apply,cE,ik,h.fr],by simp only [St.apply,h.blk]⟩
section step
variable (E:Env) (call:cQ) (tk:List Nat) (sigs:List (Nat×Sig)) (all:List Oper)
noncomputable def dC (i:Nat)(o:Oper)(st:St):Option Upd:=
 match dy all o st with
 | some true=>actK E call tk (iw sigs i) o st some
 | some false=>some ex
 | none=>none
noncomputable def fN :List Nat→St→Option (List FP×St)
 | [],st=>some ([],st)
 | i::r,st=>match nth all i with
  | none=>none
  | some o=>match dC E call tk sigs all i o st with
   | none=>none
   | some u=>match fN r (st.apply o.dst u)with
    | none=>none
    | some (fps,st')=>some (cU all o st u::fps,st')
end step
variable {E:Env} {call:cQ} {tk:List Nat} {sigs:List (Nat×Sig)} {all:List Oper}
theorem C2 {β:Type}{want b:Bool}{x y:Option β}{r:β}(h:uw want b x y=some r):(b=want∧x=some r)∨((b==want)=false∧want= !b∧y=some r):=by
 cases want<;>cases b<;>simp_all [uw]
theorem lV {β:Type}{o:Oper}{st:St}{yes no:St→Option β}{r:β}(h:gz all o st yes no=some r):
 ∃st1,st1.same st∧((dy all o st=some true∧yes st1=some r)∨(dy all o st=some false∧no st1=some r)):=by
 unfold gz at h
 unfold dy
 cases hg:o.guard with
 | none=>rw [hg]at h;exact⟨st,.refl st,.inl ⟨rfl,h⟩⟩
 | some jw=>
  obtain⟨j,want⟩:=jw
  rw [hg]at h
  dsimp only at h⊢
  cases hd:lv all j with
  | none=>rw [hd]at h;exact⟨st,.refl st,.inr ⟨rfl,h⟩⟩
  | some g=>
   rw [hd]at h
   dsimp only at h⊢
   have hknow:∀b,get st.fr g=.one (.bool b)→(st.know g b).same st:=fun b hb=>
    ⟨fun x=>by
     by_cases e:x=g
     · subst e;simp only [St.know,kO,hb]
     · simp only [St.know,nm _ _ e],rfl⟩
   split at h
   · rename_i b hb
     rcases C2 h with⟨e,h⟩ | ⟨e,e2,h⟩
     · refine⟨_, ?_,.inl ⟨by first | (simp only [hb];simp [e];done) | (simp [hb,e];done) | simp [e],h⟩⟩
       subst e;exact hknow _ hb
     · refine⟨_, ?_,.inr ⟨by simp only [hb,e],h⟩⟩
       subst e2;simpa using hknow _ hb
   · rename_i hb
     exact⟨st,.refl st,.inr ⟨by simp only [hb],h⟩⟩
   · cases h
theorem pN {i:Nat}{o:Oper}{st st':St}{u:Upd}(hu:dC E call tk sigs all i o st=some u)(ht:∀t∈wm all o,get st.fr t=get st'.fr t)
 (hb:∀b∈u.rd,nth st.blk b=nth st'.blk b) (hn:u.nu≠ []→st.blk.length=st'.blk.length):dC E call tk sigs all i o st'=some u:=by
 have hw:dy all o st'=dy all o st:=by
  unfold dy
  cases hg:o.guard with
  | none=>rfl
  | some jw=>
   obtain⟨j,want⟩:=jw
   dsimp only
   cases hd:lv all j with
   | none=>rfl
   | some g=>
    dsimp only
    rw [ht g (by simp [wm,hg,hd,rR,ba])]
 unfold dC at hu⊢
 rw [hw]
 split at hu
 · exact po hu (fun t hm=>ht t (by simp [wm,ba,hm])) hb hn
 · exact hu
 · cases hu
theorem rj {o:Oper}{s t:St}(h:s.same t)(u:Upd):cU all o s u=cU all o t u:=by simp only [cU,h.blk]
theorem CX {i:Nat}{o:Oper}{st st':St}{u:Upd}(h:st.same st')(hu:dC E call tk sigs all i o st=some u):dC E call tk sigs all i o st'=some u:=
 pN hu (fun t _=>h.fr t) (fun b _=>by rw [h.blk]) (fun _=>by rw [h.blk])
theorem wL :∀{l:List Nat} {st st0:St} {fps:List FP} {st':St},fN E call tk sigs all l st=some (fps,st')→st.same st0→∃st0',fN E call tk sigs all l st0=some (fps,st0')∧st'.same st0'
 | [],st,st0,fps,st',h,hs=>by simp [fN]at h;obtain⟨rfl,rfl⟩:=h;exact⟨st0,rfl,hs⟩
 | i::r,st,st0,fps,st',h,hs=>by
  simp only [fN]at h⊢
  cases ho:nth all i with
  | none=>rw [ho]at h;cases h
  | some o=>
   simp only [ho]at h⊢
   cases hu:dC E call tk sigs all i o st with
   | none=>rw [hu]at h;cases h
   | some u=>
    simp only [hu]at h
    simp only [CX hs hu]
    cases hr:fN E call tk sigs all r (st.apply o.dst u)with
    | none=>rw [hr]at h;cases h
    | some x=>
     obtain⟨fps',st2⟩:=x
     simp only [hr]at h
     cases h
     obtain⟨st0',h1,h2⟩:=wL hr (hs.apply o.dst u)
     exact⟨st0',by rw [h1,rj hs],h2⟩
theorem memN_false {l:List Nat}{t:Nat}:dF l t=false↔t∉l:=by
 rw [←pB];cases dF l t<;>simp
theorem KC {l r:List Nat}:uW l r=true↔∀x∈l,x∉r:=by
 induction l with
 | nil=>simp [uW]
 | cons x l ih=>
  simp only [uW,List.mem_cons,forall_eq_or_imp]
  cases hm:dF r x with
  | true=>simp [(pB r x).1 hm]
  | false=>simp [memN_false.1 hm,ih]
def nX :List (Nat×Block)→Nat→Option Block
 | [],_=>none
 | (j,c)::r,k=>match nX r k with
  | some c'=>some c'
  | none=>if j=k then some c else none
theorem hO {l:List (Nat×Block)}{k:Nat}(h:k∉vc l):nX l k=none:=by
 induction l with
 | nil=>rfl
 | cons x r ih=>
  obtain⟨j,c⟩:=x
  simp only [vc,List.mem_cons,not_or]at h
  simp only [nX,ih h.2,if_neg (Ne.symm h.1)]
theorem zG {l:List (Nat×Block)}{k:Nat}{c:Block}(h:nX l k=some c):k∈vc l:=by
 rcases Classical.em (k∈vc l)with hm | hm
 · exact hm
 · rw [hO hm]at h;cases h
theorem s0 :∀(l:List (Nat×Block)) (bs:List Block) (k:Nat),nth (bz bs l) k=if k<bs.length then some ((nX l k).getD ((nth bs k).getD .dead))else none
 | [],bs,k=>by
  simp only [bz,nX,Option.getD_none]
  split
  · rename_i h;rw [aY,List.getElem?_eq_getElem h];rfl
  · rename_i h;rw [aY,List.getElem?_eq_none (by omega)]
 | (j,c)::r,bs,k=>by
  simp only [bz,s0 r,de,List.length_set,nX]
  by_cases hk:k<bs.length
  · simp only [hk,if_true]
    cases nX r k with
    | some c'=>rfl
    | none=>
     simp only [Option.getD_none,aY,List.getElem?_set]
     by_cases e:j=k
     · subst e;simp [hk]
     · simp [e]
  · simp only [hk,if_false]
theorem J5 {α:Type}{l r:List α}(h:∀k,nth l k=nth r k):l=r:=by
 apply List.ext_getElem?
 intro k
 rw [←aY,←aY,h]
theorem qd (st:St)(d:Option Nat)(u:Upd)(k:Nat):nth (st.apply d u).blk k=
 if k<st.blk.length then some ((nX u.wr k).getD ((nth st.blk k).getD .dead))else nth u.nu (k - st.blk.length):=by
 simp only [St.apply,ba]
 by_cases hk:k<st.blk.length
 · rw [bj _ _ _ (by rw [ep];exact hk),s0]
   simp only [hk,if_true]
 · rw [aY,List.getElem?_append_right (by rw [ep];omega),ep]
   simp only [hk,if_false,aY]
theorem nd (st:St)(d:Option Nat)(u:Upd):(st.apply d u).blk.length=st.blk.length+u.nu.length:=by
 simp only [St.apply,ba,List.length_append,ep]
structure Apart (all:List Oper) (o1 o2:Oper) (st1 st2:St) (u1 u2:Upd):Prop where
 tt:∀t,(o1.dst=some t∨u1.dis=some t)→¬(o2.dst=some t∨u2.dis=some t)
 t12:∀t,(o1.dst=some t∨u1.dis=some t)→t∉wm all o2
 t21:∀t,(o2.dst=some t∨u2.dis=some t)→t∉wm all o1
 bb:∀k,(k∈vc u1.wr∨(st1.blk.length≤k∧k<st1.blk.length+u1.nu.length))→¬(k∈vc u2.wr∨(st2.blk.length≤k∧k<st2.blk.length+u2.nu.length))
 b12:∀k,(k∈vc u1.wr∨(st1.blk.length≤k∧k<st1.blk.length+u1.nu.length))→k∉u2.rd
 b21:∀k,(k∈vc u2.wr∨(st2.blk.length≤k∧k<st2.blk.length+u2.nu.length))→k∉u1.rd
 al:u1.nu=[]∨u2.nu=[]
theorem Hd {α:Type}{x:Option α}{a:α}:a∈rR x↔x=some a:=by cases x<;>simp [rR,eq_comm]
theorem isNilL_eq {α:Type}{l:List α}:el l=true↔l=[]:=by cases l<;>simp [el]
theorem Apart.of {o1 o2:Oper}{st1 st2:St}{u1 u2:Upd}(h:(cU all o1 st1 u1).apart (cU all o2 st2 u2)=true):Apart all o1 o2 st1 st2 u1 u2:=by
 simp only [FP.apart,cU,Bool.and_eq_true,KC,ba,List.mem_append,Hd,range0_mem,bq]at h
 obtain⟨⟨⟨⟨⟨⟨h1,h2⟩,h3⟩,h4⟩,h5⟩,h6⟩,h7⟩:=h
 refine⟨h1,h2,h3,h4,h5,h6, ?_⟩
 cases e1:el u1.nu with
 | true=>exact .inl (isNilL_eq.1 e1)
 | false=>
  cases e2:el u2.nu with
  | true=>exact .inr (isNilL_eq.1 e2)
  | false=>simp [e1,e2]at h7
theorem iX (st:St)(d:Option Nat)(u:Upd)(t:Nat):get (st.apply d u).fr t=if d=some t then u.val else if u.dis=some t then(get st.fr t).dis else get st.fr t:=by
 simp only [St.apply,cE,ik]
theorem swap {i j:Nat}{o1 o2:Oper}{st:St}{u1 u2:Upd}(h1:dC E call tk sigs all i o1 st=some u1)(h2:dC E call tk sigs all j o2 (st.apply o1.dst u1)=some u2)
 (hap:(cU all o1 st u1).apart (cU all o2 (st.apply o1.dst u1) u2)=true):
 dC E call tk sigs all j o2 st=some u2∧dC E call tk sigs all i o1 (st.apply o2.dst u2)=some u1∧cU all o2 st u2=cU all o2 (st.apply o1.dst u1) u2∧
  cU all o1 (st.apply o2.dst u2) u1=cU all o1 st u1∧((st.apply o1.dst u1).apply o2.dst u2).same ((st.apply o2.dst u2).apply o1.dst u1):=by
 have A:=Apart.of hap
 have hl1:=nd st o1.dst u1
 have hl2:=nd st o2.dst u2
 have hlen1:u2.nu≠ []→(st.apply o1.dst u1).blk.length=st.blk.length:=fun hn=>by
  have:=A.al.resolve_right hn;rw [hl1,this];simp
 have hlen2:u1.nu≠ []→(st.apply o2.dst u2).blk.length=st.blk.length:=fun hn=>by
  have:=A.al.resolve_left hn;rw [hl2,this];simp
 have g2:dC E call tk sigs all j o2 st=some u2:=by
  refine pN h2 (fun t ht=> ?_) (fun b hb=> ?_) hlen1
  · rw [iX]
    have n1:o1.dst≠some t:=fun e=>A.t12 t (.inl e) ht
    have n2:u1.dis≠some t:=fun e=>A.t12 t (.inr e) ht
    simp only [n1,n2,if_false]
  · rw [qd]
    by_cases hk:b<st.blk.length
    · simp only [hk,if_true]
      rw [hO fun hm=>A.b12 b (.inl hm) hb,aY,List.getElem?_eq_getElem hk]
      rfl
    · simp only [hk,if_false]
      rw [aY,aY,List.getElem?_eq_none (l:=st.blk) (by omega)]
      refine List.getElem?_eq_none_iff.2 ?_
      rcases Nat.lt_or_ge (b - st.blk.length) u1.nu.length with hh | hh
      · exact absurd hb (A.b12 b (.inr ⟨by omega,by omega⟩))
      · exact hh
 have g1:dC E call tk sigs all i o1 (st.apply o2.dst u2)=some u1:=by
  refine pN h1 (fun t ht=> ?_) (fun b hb=> ?_) (fun hn=>(hlen2 hn).symm)
  · rw [iX]
    have n1:o2.dst≠some t:=fun e=>A.t21 t (.inl e) ht
    have n2:u2.dis≠some t:=fun e=>A.t21 t (.inr e) ht
    simp only [n1,n2,if_false]
  · rw [qd]
    by_cases hk:b<st.blk.length
    · simp only [hk,if_true]
      rw [hO fun hm=>A.b21 b (.inl hm) hb,aY,List.getElem?_eq_getElem hk]
      rfl
    · simp only [hk,if_false]
      rw [aY,aY,List.getElem?_eq_none (l:=st.blk) (by omega)]
      refine(List.getElem?_eq_none_iff.2 ?_).symm
      rcases Nat.lt_or_ge (b - st.blk.length) u2.nu.length with hh | hh
      · have hne:u2.nu≠ []:=by intro e;rw [e]at hh;simp at hh
        have:=hlen1 hne
        exact absurd hb (A.b21 b (.inr ⟨by omega,by omega⟩))
      · exact hh
 refine⟨g2,g1, ?_, ?_,fun t=> ?_,J5 fun k=> ?_⟩
 · simp only [cU,bq]
   by_cases hn:u2.nu=[]
   · simp [hn,bE]
   · rw [hlen1 hn]
 · simp only [cU,bq]
   by_cases hn:u1.nu=[]
   · simp [hn,bE]
   · rw [hlen2 hn]
 · simp only [iX]
   by_cases a1:o1.dst=some t
   · have n1:o2.dst≠some t:=fun e=>A.tt t (.inl a1) (.inl e)
     have n2:u2.dis≠some t:=fun e=>A.tt t (.inl a1) (.inr e)
     simp only [a1,if_true,n1,n2,if_false]
   · by_cases a2:u1.dis=some t
     · have n1:o2.dst≠some t:=fun e=>A.tt t (.inr a2) (.inl e)
       have n2:u2.dis≠some t:=fun e=>A.tt t (.inr a2) (.inr e)
       simp only [a1,a2,if_true,n1,n2,if_false]
     · simp only [a1,a2,if_false]
 · simp only [qd,hl1,hl2]
   rcases A.al with hn | hn
   · simp only [hn,List.length_nil,Nat.add_zero]
     by_cases hk:k<st.blk.length
     · have hk2:k<st.blk.length+u2.nu.length:=by omega
       simp only [hk,hk2,if_true,Option.getD_some]
       congr 1
       cases w1:nX u1.wr k with
       | none=>simp
       | some c=>
        have:nX u2.wr k=none:=hO fun hm=>A.bb k (.inl (zG w1)) (.inl hm)
        simp [this]
     · simp only [hk,if_false]
       by_cases hk2:k<st.blk.length+u2.nu.length
       · simp only [hk2,if_true]
         have hne:u2.nu≠ []:=by intro e;rw [e]at hk2;simp at hk2;omega
         have:=hlen1 hne
         have:nX u1.wr k=none:=hO fun hm=>A.bb k (.inl hm) (.inr ⟨by omega,by omega⟩)
         rw [this,aY,List.getElem?_eq_getElem (by omega)]
         rfl
       · simp only [hk2,if_false]
         rw [eS (by omega)]
         rfl
   · simp only [hn,List.length_nil,Nat.add_zero]
     by_cases hk:k<st.blk.length
     · have hk2:k<st.blk.length+u1.nu.length:=by omega
       simp only [hk,hk2,if_true,Option.getD_some]
       congr 1
       cases w1:nX u1.wr k with
       | none=>simp
       | some c=>
        have:nX u2.wr k=none:=hO fun hm=>A.bb k (.inl (zG w1)) (.inl hm)
        simp [this]
     · simp only [hk,if_false]
       by_cases hk2:k<st.blk.length+u1.nu.length
       · simp only [hk2,if_true]
         have:nX u2.wr k=none:=hO fun hm=>A.bb k (.inr ⟨by omega,by omega⟩) (.inl hm)
         rw [this,aY,List.getElem?_eq_getElem (by omega)]
         rfl
       · simp only [hk2,if_false]
         rw [eS (l:=u1.nu) (by omega)]
         rfl
theorem MH :∀{pre:List Nat} {j:Nat} {post:List Nat} {st st2:St} {fpre:List FP} {fj:FP} {fpost:List FP},pre.length=fpre.length→
 fN E call tk sigs all (pre++j::post) st=some (fpre++fj::fpost,st2)→(∀f∈fpre,f.apart fj=true)→
 ∃st2',fN E call tk sigs all (j::(pre++post)) st=some (fj::(fpre++fpost),st2')∧st2.same st2'
 | [],j,post,st,st2,fpre,fj,fpost,hl,h,ha=>by
  have:fpre=[]:=List.length_eq_zero_iff.1 hl.symm
  subst this
  exact⟨st2,h,.refl st2⟩
 | i::pre,j,post,st,st2,[],fj,fpost,hl,h,ha=>by cases hl
 | i::pre,j,post,st,st2,f::fpre,fj,fpost,hl,h,ha=>by
  simp only [List.cons_append,fN]at h
  cases ho:nth all i with
  | none=>rw [ho]at h;cases h
  | some o=>
   simp only [ho]at h
   cases hu:dC E call tk sigs all i o st with
   | none=>rw [hu]at h;cases h
   | some u=>
    simp only [hu]at h
    cases hr:fN E call tk sigs all (pre++j::post) (st.apply o.dst u)with
    | none=>rw [hr]at h;cases h
    | some x=>
     obtain⟨fps',st3⟩:=x
     simp only [hr,Option.some.injEq,Prod.mk.injEq,List.cons.injEq]at h
     obtain⟨⟨e1,rfl⟩,rfl⟩:=h
     obtain⟨st4,g1,g2⟩:=MH (by simpa using hl) hr fun f' hf=>ha f' (by simp [hf])
     simp only [fN]at g1
     cases hoj:nth all j with
     | none=>rw [hoj]at g1;cases g1
     | some oj=>
      simp only [hoj]at g1
      cases huj:dC E call tk sigs all j oj (st.apply o.dst u)with
      | none=>rw [huj]at g1;cases g1
      | some uj=>
       simp only [huj]at g1
       cases hrj:fN E call tk sigs all (pre++post) ((st.apply o.dst u).apply oj.dst uj)with
       | none=>rw [hrj]at g1;cases g1
       | some y=>
        obtain⟨fps2,st5⟩:=y
        simp only [hrj,Option.some.injEq,Prod.mk.injEq,List.cons.injEq]at g1
        obtain⟨⟨e2,rfl⟩,rfl⟩:=g1
        obtain⟨k1,k2,k3,k4,k5⟩:=swap hu huj (by rw [e1,e2];exact ha f (by simp))
        obtain⟨st6,m1,m2⟩:=wL hrj k5
        refine⟨st6, ?_,g2.trans m2⟩
        simp only [fN,hoj,k1,List.cons_append,ho,k2,m1,k3,k4,e1,e2]
end Go.Abs
namespace Go.Abs
variable {E:Env} {P:Program} {R:aG} {ρ:List Nat} {own:OI→aH} {N:Nat} {st:St} {a:Act} {w:World}
variable {call:cQ} {tk:List Nat} {sigs:List (Nat×Sig)} {ops:Array Oper} {Q:Exit→Act→World→Prop}
theorem Rel.same {st':St}(h:Rel E R ρ own N st a w)(hs:st.same st'):Rel E R ρ own N st' a w:=
 ⟨h.size,h.defers,fun t=>by rw [←hs.fr t];exact h.fr t,by rw [←hs.blk];exact h.rho,fun k=>by rw [←hs.blk];exact h.blk k,h.inj,h.out,h.low⟩
theorem After.same {st1 st':St}{a':Act}{w':World}(h:After E R ρ own N w st1 a' w')(hs:st1.same st'):After E R ρ own N w st' a' w':=by
 obtain⟨ρ',own',h1,h2,h3⟩:=h
 exact⟨ρ',own',h1,h2.same hs,h3⟩
theorem After.refl (h:Rel E R ρ own N st a w):After E R ρ own N w st a w:=
 ⟨ρ,own,fun _ _ h=>h,h,.refl _ _ _ fun x B t hx=>⟨x,t,hx,Nat.le_refl _⟩⟩
theorem IA (j:Nat):lv ops.toList j=(ops[j]?).bind (·.dst):=by
 have key:∀(l:List Oper) (j:Nat),lv l j=(l[j]?).bind (·.dst):=by
  intro l
  induction l with
  | nil=>intro j;simp [lv]
  | cons o r ih=>intro j;cases j<;>simp [lv,ih]
 rw [key,Array.getElem?_toList]
theorem my (h:Rel E R ρ own N st a w){o:Oper}{b:Bool}(hw:dy ops.toList o st=some b):Region.wanted o (yielded ops a.tmps)=b:=by
 unfold dy at hw
 unfold Region.wanted
 cases hg:o.guard with
 | none=>rw [hg]at hw;exact Option.some.inj hw
 | some jw=>
  obtain⟨j,want⟩:=jw
  rw [hg]at hw
  dsimp only at hw⊢
  rw [IA]at hw
  unfold yielded
  cases hd:(ops[j]?).bind (·.dst)with
  | none=>
   rw [hd]at hw
   have hw:false=b:=Option.some.inj hw
   subst hw
   rfl
  | some g=>
   rw [hd]at hw
   dsimp only at hw
   have hr:=h.fr g
   simp only [Option.bind_some]
   split at hw
   · rename_i c hc
     rw [hc]at hr
     have hv:a.tmps[g]? =some (.bool c):=by
      cases e:a.tmps[g]? with
      | none=>
       have:a.tmps.getD g undef=undef:=by simp [Array.getD_eq_getD_getElem?,e]
       rw [this]at hr
       have hr:=hr.dis
       simp only [AV.dis,AC.dis]at hr
       cases hr with | one _ _ _ hh _=>cases hh
      | some v=>
       have:a.tmps.getD g undef=v:=by simp [Array.getD_eq_getD_getElem?,e]
       rw [this]at hr
       have hr:=hr.dis
       simp only [AV.dis,AC.dis]at hr
       cases hr with | one _ _ _ hh _=>cases hh;rfl
     rw [hv]
     have hw:(c==want)=b:=Option.some.inj hw
     rw [←hw]
     cases c<;>cases want<;>rfl
   · rename_i l hc
     rw [hc]at hr
     have hw:false=b:=Option.some.inj hw
     subst hw
     cases e:a.tmps[g]? with
     | none=>rfl
     | some v=>
      have:a.tmps.getD g undef=v:=by simp [Array.getD_eq_getD_getElem?,e]
      rw [this]at hr
      have hr:=hr.dis
      simp only [AV.dis]at hr
      cases hr with | tup _ g' _ _ _=>rfl
   · cases hw
theorem Ai (G:Good P E)(hcall:fT P E call)(h:Rel E R ρ own N st a w){i:Nat}{o:Oper}{u:Upd}(hi:ops[i]? =some o)(hu:dC E call tk sigs ops.toList i o st=some u)(hd:∀d,o.dst=some d→d<N)
 {K:Act→World→Prop} (hK:∀a' w',After E R ρ own N w (st.apply o.dst u) a' w'→K a' w'):wpOp P ops Q i K a w:=by
 unfold wpOp
 simp only [hi]
 unfold dC at hu
 split at hu
 · rename_i hw
   rw [if_pos (my h hw)]
   refine .inl ?_
   unfold Oper.wp
   cases hc:tE o.op with
   | false=>
    rcases Fp G h hc hu hd with⟨v,w',h1,h2⟩ | ⟨w',h1,h2⟩
    · rw [h1];exact hK _ _ h2
    · rw [h1];exact hK _ _ h2
   | true=>
    obtain⟨f,vals,h1,h2⟩:=CM hcall h hc hu hd
    rw [h1]
    refine h2.mono ?_
    rintro e w' ⟨v,rfl,h3⟩
    exact hK _ _ h3
 · rename_i hw
   rw [if_neg (by rw [my h hw];simp)]
   cases hu
   refine hK _ _ (h.pure0 hd ?_)
   have:=AVR.tup (E:=E) (w:=w) (F:=Fn own R) (ρ:=ρ) [] (fun _=>undef) (fun _=>none) (fun i hi=>by simp at hi) ⟨rfl,fun _ _ _=>rfl⟩
   exact this
 · cases hu
theorem pT {all:List Oper}{i:Nat}{r:List Nat}{fps:List FP}{st':St}(h:fN E call tk sigs all (i::r) st=some (fps,st')):
 ∃o u fps',nth all i=some o∧dC E call tk sigs all i o st=some u∧fps=cU all o st u::fps'∧fN E call tk sigs all r (st.apply o.dst u)=some (fps',st'):=by
 simp only [fN]at h
 cases ho:nth all i with
 | none=>rw [ho]at h;cases h
 | some o=>
  simp only [ho]at h
  cases hu:dC E call tk sigs all i o st with
  | none=>rw [hu]at h;cases h
  | some u=>
   simp only [hu]at h
   cases hr:fN E call tk sigs all r (st.apply o.dst u)with
   | none=>rw [hr]at h;cases h
   | some x=>
    obtain⟨fps',st2⟩:=x
    simp only [hr]at h
    cases h
    exact⟨o,u,fps',rfl,hu,rfl,hr⟩
theorem jE (i:Nat):nth ops.toList i=ops[i]? :=by rw [aY,Array.getElem?_toList]
theorem uO (G:Good P E)(hcall:fT P E call)(hd:∀o∈ops.toList,∀d,o.dst=some d→d<N)(rest:List Nat):∀(l:List Nat) (st:St) (ρ:List Nat) (own:OI→aH) (a:Act) (w:World) (fps:List FP) (st':St),Rel E R ρ own N st a w→
 fN E call tk sigs ops.toList l st=some (fps,st')→(∀a' w',After E R ρ own N w st' a' w'→wpOps P ops Q rest a' w')→wpOps P ops Q (l++rest) a w
 | [],st,ρ,own,a,w,fps,st',h,hr,hQ=>by
  simp only [fN,Option.some.injEq,Prod.mk.injEq]at hr
  obtain⟨_,rfl⟩:=hr
  exact hQ _ _ (.refl h)
 | i::r,st,ρ,own,a,w,fps,st',h,hr,hQ=>by
  obtain⟨o,u,fps',h1,h2,h3,h4⟩:=pT hr
  rw [List.cons_append,wpOps_cons]
  have ho:ops[i]? =some o:=by rw [←jE];exact h1
  refine Ai G hcall h ho h2 (hd o (eO h1)) fun a1 w1 hA=> ?_
  obtain⟨ρ1,own1,k1,k2,k3⟩:=hA
  refine uO G hcall hd rest r _ ρ1 own1 a1 w1 fps' st' k2 h4 fun a2 w2 hA2=>hQ _ _ ?_
  obtain⟨ρ3,own3,m1,m2,m3⟩:=hA2
  exact⟨ρ3,own3,fun b B hb=>m1 _ _ (k1 _ _ hb),m2,k3.trans m3⟩
theorem D3 (G:Good P E)(hcall:fT P E call)(hd:∀o∈ops.toList,∀d,o.dst=some d→d<N)(l:List Nat)(st:St)(ρ:List Nat)(own:OI→aH)(a:Act)(w:World)(fps:List FP)(st':St)(h:Rel E R ρ own N st a w)
 (hr:fN E call tk sigs ops.toList l st=some (fps,st')) (hQ:∀a' w',After E R ρ own N w st' a' w'→Q .normal a' w'):wpOps P ops Q l a w:=by
 have:=uO G hcall hd [] l st ρ own a w fps st' h hr hQ
 rwa [List.append_nil]at this
theorem After.trans {st2:St}{a2:Act}{w1 w2:World}{ρ1:List Nat}{own1:OI→aH}(k1:∀b B,nth ρ b=some B→nth ρ1 b=some B)(k3:Grow own own1 w w1)(h:After E R ρ1 own1 N w1 st2 a2 w2):After E R ρ own N w st2 a2 w2:=by
 obtain⟨ρ3,own3,m1,m2,m3⟩:=h
 exact⟨ρ3,own3,fun b B hb=>m1 _ _ (k1 _ _ hb),m2,k3.trans m3⟩
theorem lc {β:Type}(ops:List Oper)(p:Nat)(th:Bool)(st:St)(K:St→Option β):m8 E ops p th st K=(m8 E ops p th st some).bind K:=by
 unfold m8
 repeat' split
 all_goals first | rfl | simp only [aO,aJ,lY,Option.bind_some]
theorem La (G:Good P E)(hd:∀o∈ops.toList,∀d,o.dst=some d→d<N)(h:Rel E R ρ own N st a w){β:Type}{K:St→Option β}{r:β}(hcall:fT P E call){p:Nat}{th:Bool}{rest:List Nat}(hr:m8 E ops.toList p th st K=some r):
 ∃st1,K st1=some r∧((∀a' w',After E R ρ own N w st1 a' w'→wpOps P ops Q rest a' w')→wpOps P ops Q (p::(p+1)::rest) a w):=by
 unfold m8 at hr
 split at hr<;>try (cases hr;done)
 rename_i o1 o2 h1 h2
 have ho1:ops[p]? =some o1:=by rw [←jE];exact h1
 have ho2:ops[p+1]? =some o2:=by rw [←jE];exact h2
 split at hr<;>try (cases hr;done)
 rotate_left
 · rename_i hw1
   split at hr<;>try (cases hr;done)
   rename_i hw2
   refine⟨_,hr,fun hQ=> ?_⟩
   rw [wpOps_cons]
   refine Ai (call:=call) (tk:=[]) (sigs:=[]) G hcall h ho1 (u:=ex) (by unfold dC;rw [hw1]) (hd o1 (eO h1)) fun a1 w1 hA=> ?_
   obtain⟨ρ1,own1,k1,k2,k3⟩:=hA
   rw [wpOps_cons]
   refine Ai (call:=call) (tk:=[]) (sigs:=[]) G hcall k2 ho2 (u:=ex) (by unfold dC;rw [hw2]) (hd o2 (eO h2)) fun a2 w2 hA2=> ?_
   exact hQ _ _ (After.trans k1 k3 hA2)
 rename_i hw1
 split at hr<;>try (cases hr;done)
 rename_i t len parts src dst x e1 e2
 split at hr<;>try (cases hr;done)
 rename_i d1 d2 hd1 hd2 hw2
 have hc:=(ab hr).1
 replace hr:=(ab hr).2
 simp only [Bool.and_eq_true]at hc
 have q1:=Nat.eq_of_beq_eq_true hc.1
 have q2:=Nat.eq_of_beq_eq_true hc.2.1
 have q3:=Nat.eq_of_beq_eq_true hc.2.2
 subst q2;subst q3
 obtain rfl:d1=x:=q1.symm
 split at hr<;>try (cases hr;done)
 rename_i ty ht
 split at hr<;>try (cases hr;done)
 rename_i e hde
 split at hr<;>try (cases hr;done)
 rename_i te he
 split at hr<;>try (cases hr;done)
 rename_i hu8
 have hl:=(ab hr).1
 replace hr:=(ab hr).2
 simp only [Bool.and_eq_true]at hl
 have hlim:len*te.size≤16777216:=Nat.le_of_ble_eq_true hl.1
 have hpos:=mM hl.2
 have hT:=G.ty e te he
 obtain⟨hk8,hsz1⟩:=le G he hu8
 have hut:=bl (G.ty _ _ ht) hde
 have hue:=kp (G.ty _ _ he) hu8
 obtain⟨z,hz,_⟩:=hT.run_zero (w:=w)
 obtain⟨rows,cs',g1,g2,g3,g4,g5,_,g7⟩:=vv hT.len (qi h parts.toList) (cs:=(Array.range (len*te.size)).map (z.cells[· %z.cells.size]!)) (by simp) hr
 have g1':K (match th with | true=>(st.apply (some d1) (Upd.pure .undef)).apply (some d2) ⟨.one (.msl e (bI st.blk) len),none,[],[.arr e rows],[]⟩ | false=>(st.apply (some d1) (Upd.pure .undef)).apply (some d2) (Upd.pure (.one (.sl true e rows))))=some r:=by
  cases th<;>exact g1
 have hlen:rows.length=len:=by omega
 have hfl:=bJ (bS hT.len g5)
 have hsz:cs'.size=len:=by rw [g3];simp [hsz1]
 refine⟨_,g1',fun hQ=> ?_⟩
 have hN1:=hd o1 (eO h1) _ hd1
 have hN2:=hd o2 (eO h2) _ hd2
 -- the literal
 have hbs:(Instr.buildSlice t len (parts.map fun x=>(x.1,a.eval x.2))).run P w=.ok (.slice (some ⟨w.heap.size,0,none⟩) len len) (w.alloc (.cells cs' e)):=by
  have hpl:(parts.map fun x=>(x.1,a.eval x.2))=(parts.toList.map fun x=>(x.1,a.eval x.2)).toArray:=by rw [←Array.toList_map,Array.toArray_toList]
  rw [hpl]
  simp only [Instr.buildSlice,Sem.run_bind,run_underlying hut,Result.andThen_ok,hT.run_size]
  rw [if_neg (by omega)]
  have hz0:¬len*te.size=0:=by rw [hsz1];omega
  simp only [hz0,if_false,Sem.run_bind,hz,Result.andThen_ok,Sem.run_pure,g2,du]
 let w1:=w.alloc (.cells cs' e)
 let v:Value:=.slice (some ⟨w.heap.size,0,none⟩) len len
 let w2:=w1.freeze ⟨w.heap.size,cs'.size,none⟩ 1
 have hsh:w1.shape? w.heap.size=some (e,cs'.size):=by
  simp [w1,World.shape?,World.alloc, -World.alloc_eq]
 have hcv:(convert t t v).run P w1=.ok v w2:=by
  simp [convert,run_underlying hut,run_underlying hue,v,markStringish,hsh,Result.andThen,w2]
 have hput:(a.put o1.dst v).eval (.tmp d1)=v:=by
  show(a.put o1.dst v).tmps.getD d1 undef=v
  rw [hd1,bU a (some d1) _ d1 (by rw [h.size];intro d hd';cases hd';exact hN1)]
  simp
 rw [wpOps_cons]
 unfold wpOp
 simp only [ho1]
 rw [if_pos (my h hw1)]
 refine .inl ?_
 unfold Oper.wp
 have hx1:(execOp a.eval o1).run P w=.ok (.value v) w1:=by
  unfold execOp
  rw [e1]
  exact DH hbs
 rw [hx1]
 show wpOps P ops Q ((p+1)::rest) (a.put o1.dst v) w1
 obtain⟨ρ1,own1,k1,k2,k3⟩:=h.pure0 (dst:=o1.dst) (v:=.undef) (val:=v) (by intro d hd';rw [hd1]at hd';cases hd';exact hN1) (.undef _ _ fun _=>rfl)
 rw [wpOps_cons]
 unfold wpOp
 simp only [ho2]
 rw [if_pos (my k2 hw2)]
 refine .inl ?_
 unfold Oper.wp
 have hx2:(execOp (a.put o1.dst v).eval o2).run P w1=.ok (.value v) w2:=by
  unfold execOp
  rw [e2]
  exact DH (by rw [hput];exact hcv)
 rw [hx2]
 show wpOps P ops Q rest ((a.put o1.dst v).put o2.dst v) w2
 refine hQ _ _ ?_
 rw [hd1,hd2]
 rw [hd1]at k2
 refine After.trans k1 k3 ?_
 have hold:∀i,i<w.heap.size→w2.heap[i]? =w.heap[i]? :=fun i hi=>by
  have h1:w.heap.size≠i:=by omega
  simp [w2,w1,World.freeze,World.alloc, -World.alloc_eq,Array.getElem?_modify,Array.getElem?_push,h1,Ne.symm h1]
 have hnew:w2.heap[w.heap.size]? =some (.cells cs' e (cs'.size,cs'.size+1)):=by
  simp [w2,w1,World.freeze,World.alloc, -World.alloc_eq]
  rw [Array.getElem_modify_self]
  simp
 have hsize:w2.heap.size=w.heap.size+1:=by
  simp [w2,w1,World.freeze,World.alloc, -World.alloc_eq]
 have hkept:w.keptBut w2 (inT fun _ _=>False):=by
  have hka:=World.keptBut_alloc w (.cells cs' e) (inT fun _ _=>False)
  refine⟨hka.1,hka.2.1,fun i hi=> ?_⟩
  have:=hka.2.2 i hi
  rw [hold i hi]
  rwa [heap_alloc_old w _ i hi]at this
 have hcell:∀i,cell w2 w.heap.size i=cs'[i]? :=fun i=>by simp [cell,World.cell?,hnew]
 have hcold:∀i,i<cs'.size→dl w2 w.heap.size i=false:=fun i hi=>by
  simp only [dl,World.frozen?,hnew]
  simp;omega
 have hblk:bI (st.apply (some d1) (Upd.pure .undef)).blk=bI st.blk:=by simp [St.apply,Upd.pure,bz,ba,bq]
 have hr1:ρ1.length=(st.apply (some d1) (Upd.pure .undef)).blk.length:=k2.rho
 have hl16:len≤16777216:=by rw [hsz1,Nat.mul_one]at hlim;exact hlim
 have hkd:∀(i:Nat) (hi:i<rows.flatten.length) {w':World} {F F':aG} {v':Value},CR E w F rows.flatten[i] v'→CR E w' F' rows.flatten[i] v':=fun i hi w' F F' v' m2=>by
  obtain⟨r',hr',hc'⟩:=List.mem_flatten.1 (List.getElem_mem hi)
  have hkd:(rows.flatten[i]).kind=.int .u8:=by
   have h1:=List.mem_map_of_mem (f:=Cell.kind) hc'
   rw [g5 r' hr',hk8]at h1
   simpa using h1
  generalize rows.flatten[i]=c at m2 hkd
  cases m2<;>first | exact .int _ _ | cases hkd
 cases th with
 | false=>
  have hmk:=k2.pure (dst:=some d2) (val:=v) (rd:=[]) (by intro d hd';cases hd';exact hN2) hkept (v:=.one (.sl true e rows)) fun F' hK hF=> .of (by
   show AR E w2 F' ρ1 (.sl true e rows) (.slice (some ⟨w.heap.size,0,none⟩) len len) none
   rw [←hlen]
   refine .full _ _ _ _ (.slice e rows te _ 0 _ (fun i=>cs'.getD i undef) he g5 (Nat.le_refl _) (fun i hi=>⟨?_,fun hc=> ?_⟩) fun i hi=> ?_)
   · have hi2:i<cs'.size:=by rw [hsz,←hlen];rw [hfl,hsz1,Nat.mul_one]at hi;exact hi
     rw [Nat.zero_add,hcell]
     simp [hi2]
   · exact oe k2 (Nat.le_refl _) (hF _ _ hc)
   · obtain⟨v',m1,m2⟩:=g7 i hi
     simp only [Nat.zero_mul,Nat.zero_add]at m1
     have:cs'.getD i undef=v':=by simp [m1]
     rw [this]
     exact hkd i hi m2)
  exact hmk
 | true=>
  have hmk:=k2.makeArr (dst:=some d2) (v:=.one (.msl e (bI (st.apply (some d1) (Upd.pure .undef)).blk) len)) (val:=v) (B':=w.heap.size) (e:=e) (rows':=rows) (rd:=[]) (by intro d hd';cases hd';exact hN2) hkept (Nat.le_refl _) (by omega)
   (fun hK=> .of (by
     rw [bq]
     exact .msl e _ _ te w.heap.size len (by have h9:=bD ρ1 w.heap.size;rw [hr1]at h9;exact h9) he hpos (Nat.le_refl _) (by omega) fun j hj=>by
      rw [hsz1,Nat.mul_one]at hj
      refine⟨⟨cs'[j]'(by omega), ?_⟩,hcold j (by omega)⟩
      rw [hcell];simp [show j<cs'.size by omega]))
   (fun hK=> .inr ⟨w.heap.size,te,by have h9:=bD ρ1 w.heap.size;rw [hr1]at h9;exact h9,by simp only [aZ,if_true],fun j=>by simp only [aZ,if_true],he,g5,⟨⟨cs'[0]'(by omega),by rw [hcell];simp [show 0<cs'.size by omega]⟩,hcold 0 (by omega)⟩,fun i hi=>by
     obtain⟨v',m1,m2⟩:=g7 i hi
     simp only [Nat.zero_mul,Nat.zero_add]at m1
     refine⟨v',by rw [hcell];exact m1,hcold i (by rw [hsz];rw [hfl,hsz1]at hi;omega), ?_⟩
     exact hkd i hi m2⟩)
  rw [hblk]at hmk
  exact hmk
def iB (ops:List Oper)(j:Nat):List Nat:=(nth (xm ops []) j).getD []
theorem p8 :∀(l:List Oper) (acc:List (List Nat)) (k:Nat) (x:List Nat),nth acc k=some x→nth (xm l acc) k=some x
 | [],_,_,_,h=>h
 | o::r,acc,k,x,h=>p8 r _ k x (by rw [ba,bj _ _ _ (dE h)];exact h)
theorem Kh (l:List Oper):∀(acc:List (List Nat)) (m:Nat) (o:Oper),nth l m=some o→
 ∃acc':List (List Nat),(∀k x,nth acc' k=some x→nth (xm l acc) k=some x)∧nth (xm l acc) (acc.length+m)=some (tN acc' (dz o.after.toList)):=by
 induction l with
 | nil=>intro acc m o h;cases h
 | cons p r ih=>
  intro acc m o h
  cases m with
  | zero=>
   have h:p=o:=Option.some.inj h
   subst h
   refine⟨acc,fun k x hk=>p8 _ _ _ _ hk, ?_⟩
   rw [xm,Nat.add_zero]
   exact p8 _ _ _ _ (by rw [ba];exact bD _ _)
  | succ m=>
   obtain⟨acc',h1,h2⟩:=ih (app acc [tN acc (dz p.after.toList)]) m o h
   refine⟨acc',h1, ?_⟩
   rw [xm,←h2,ba,List.length_append,List.length_singleton]
   congr 1
   omega
theorem oh :∀{l r:List Nat} {x:Nat},x∈uN l r→x∈l∨x∈r
 | [],_,_,h=> .inr h
 | y::l,r,x,h=>by
  unfold uN at h
  cases hm:dF r y with
  | true=>
   rw [hm,cond_true]at h
   rcases oh h with h | h
   · exact .inl (List.mem_cons_of_mem _ h)
   · exact .inr h
  | false=>
   rw [hm,cond_false]at h
   rcases oh h with h | h
   · exact .inl (List.mem_cons_of_mem _ h)
   · rcases List.mem_cons.1 h with rfl | h
     · exact .inl List.mem_cons_self
     · exact .inr h
theorem wa {acc:List (List Nat)}:∀{l:List Nat} {x:Nat},x∈tN acc l→x∈l∨∃d∈l,∃y,nth acc d=some y∧x∈y
 | [],x,h=>by simp [tN]at h
 | d::r,x,h=>by
  simp only [tN]at h
  rcases oh h with h | h
  · rcases List.mem_cons.1 h with rfl | h
    · exact .inl (by simp)
    · split at h
      · rename_i y e;exact .inr ⟨d,by simp,y,e,h⟩
      · simp at h
  · rcases wa h with h | ⟨d',h1,h2⟩
    · exact .inl (by simp [h])
    · exact .inr ⟨d',by simp [h1],h2⟩
theorem B6 {l:List Oper}{j x:Nat}{o:Oper}(ho:nth l j=some o)(hx:x∈iB l j):x∈dz o.after.toList∨∃d∈dz o.after.toList,x∈iB l d:=by
 obtain⟨acc',h1,h2⟩:=Kh l [] j o ho
 simp only [List.length_nil,Nat.zero_add]at h2
 unfold iB at hx
 rw [h2]at hx
 rcases wa hx with h | ⟨d,hd,y,hy,hm⟩
 · exact .inl h
 · refine .inr ⟨d,hd, ?_⟩
   unfold iB
   rw [h1 d y hy]
   exact hm
theorem Ar (e:Edge):tc e=Region.binds .any e:=by
 unfold tc Region.binds
 cases e.ground<;>rfl
theorem jS {x:Nat}(l:List Edge):x∈dz l↔∃e∈l,Region.binds .any e=true∧e.on=x:=by
 induction l with
 | nil=>simp [dz]
 | cons e r ih=>
  rw [dz,Ar]
  cases hb:Region.binds .any e with
  | true=>
   rw [cond_true,List.mem_cons,ih]
   constructor
   · rintro(h | ⟨e',h1,h2⟩)
     · exact⟨e,by simp,hb,h.symm⟩
     · exact⟨e',by simp [h1],h2⟩
   · rintro⟨e',h1,h2,h3⟩
     rcases List.mem_cons.1 h1 with rfl | h1
     · exact .inl h3.symm
     · exact .inr ⟨e',h1,h2,h3⟩
  | false=>
   rw [cond_false,ih]
   constructor
   · rintro⟨e',h1,h2⟩
     exact⟨e',by simp [h1],h2⟩
   · rintro⟨e',h1,h2,h3⟩
     rcases List.mem_cons.1 h1 with rfl | h1
     · rw [hb]at h2;cases h2
     · exact⟨e',h1,h2,h3⟩
theorem wq :∀{l:List Nat} {i:Nat},backward.allLt l i=true→∀x∈l,x<i
 | [],_,_,x,h=>by simp at h
 | y::r,i,h,x,hx=>by
  simp only [backward.allLt,Bool.and_eq_true]at h
  rcases List.mem_cons.1 hx with rfl | hx
  · exact Nat.lt_of_succ_le (Nat.le_of_ble_eq_true h.1)
  · exact wq h.2 x hx
theorem q8 (l:List Oper):∀{k j:Nat} {o:Oper},backward l k=true→nth l j=some o→∀x∈dz o.after.toList,x<k+j:=by
 induction l with
 | nil=>intro k j o _ h;cases h
 | cons p r ih=>
  intro k j o h ho x hx
  rw [backward,Bool.and_eq_true]at h
  cases j with
  | zero=>
   have ho:p=o:=Option.some.inj ho
   subst ho
   exact wq h.1 x hx
  | succ j=>
   have:=ih h.2 ho x hx
   omega
theorem I9 :∀{ps:List FP} {b:List Nat} {q:FP} {i k:Nat} {p:FP},openOk.go b q ps i=true→nth ps k=some p→i+k∈b∨p.apart q=true
 | p'::ps,b,q,i,0,p,h,hp=>by
  simp only [openOk.go,Bool.and_eq_true,Bool.or_eq_true,pB]at h
  simp only [nth,Option.some.injEq]at hp
  subst hp
  exact h.1
 | p'::ps,b,q,i,k+1,p,h,hp=>by
  simp only [openOk.go,Bool.and_eq_true]at h
  have:=I9 h.2 hp
  rwa [show i+1+k=i+(k+1)by omega]at this
theorem FR {bef:List (List Nat)}:∀{qs:List FP} {j m:Nat} {seen:List FP} {k:Nat} {p q:FP},openOk bef qs j seen=true→nth qs m=some q→k<seen.length+m→nth (seen++qs) k=some p→
 k∈(nth bef (j+m)).getD []∨p.apart q=true
 | q'::qs,j,0,seen,k,p,q,h,hq,hk,hp=>by
  simp only [openOk,Bool.and_eq_true]at h
  simp only [nth,Option.some.injEq]at hq
  subst hq
  rw [bj _ _ _ (by omega)]at hp
  have:=I9 h.1 hp
  rw [Nat.zero_add]at this
  rw [Nat.add_zero]
  cases e:nth bef j with
  | none=>rw [e]at this;simpa using this
  | some l=>rw [e]at this;simpa using this
 | q'::qs,j,m+1,seen,k,p,q,h,hq,hk,hp=>by
  simp only [openOk,Bool.and_eq_true,ba]at h
  have:=FR (m:=m) (seen:=seen++ [q']) (k:=k) (p:=p) h.2 hq (by simp;omega) (by simpa using hp)
  rwa [show j+1+m=j+(m+1)by omega]at this
theorem OO (G:Good P E)(hcall:fT P E call)(hd:∀o∈ops.toList,∀d,o.dst=some d→d<N)(hback:backward ops.toList 0=true){φ:Nat→FP}(hap:∀i j,i<j→j<ops.size→i∈iB ops.toList j∨(φ i).apart (φ j)=true){stf:St}:
 ∀(n:Nat) (rem:List Nat) (listed:Array Bool) (st:St) (ρ:List Nat) (own:OI→aH) (a:Act) (w:World) (st':St),rem.length=n→rem.Pairwise (· < ·)→(∀i,i∈rem↔i<ops.size∧listed.getD i false=false)→listed.size=ops.size→
  (∀j,j<ops.size→listed.getD j false=true→∀x∈iB ops.toList j,listed.getD x false=true)→
  Rel E R ρ own N st a w→fN E call tk sigs ops.toList rem st=some (rem.map φ,st')→st'.same stf→(∀a' w',After E R ρ own N w stf a' w'→Q .normal a' w')→wpAny P .any ops Q n listed a w:=by
 have hgd:∀(listed:Array Bool) (i:Nat),listed.size=ops.size→i<ops.size→listed.getD i true=listed.getD i false:=fun listed i hs hi=>by
  simp [hs,hi]
 have hempty:∀(rem:List Nat) (listed:Array Bool),rem.Pairwise (· < ·)→(∀i,i∈rem↔i<ops.size∧listed.getD i false=false)→listed.size=ops.size→Region.ready .any ops listed=[]→rem=[]:=by
  intro rem listed hs hm hsz hr
  cases rem with
  | nil=>rfl
  | cons i r=>
   exfalso
   obtain⟨hi1,hi2⟩:=(hm i).1 (by simp)
   have:i∈Region.ready .any ops listed:=by
    rw [mem_ready]
    refine⟨by rw [hgd _ _ hsz hi1];exact hi2,ops[i],by simp [hi1],fun e he hb=> ?_⟩
    have hlt:=q8 _ hback (o:=ops[i]) (j:=i) (by rw [jE];simp [hi1]) e.on ((jS _).2 ⟨e,by simpa using he,hb,rfl⟩)
    rw [Nat.zero_add]at hlt
    cases hl:listed.getD e.on false with
    | true=>rfl
    | false=>
     have:=(hm e.on).2 ⟨by omega,hl⟩
     rcases List.mem_cons.1 this with h | h
     · omega
     · have:=(List.pairwise_cons.1 hs).1 _ h
       omega
   rw [hr]at this
   cases this
 have hfin:∀(rem:List Nat) (st st':St) (ρ:List Nat) (own:OI→aH) (a:Act) (w:World),rem=[]→Rel E R ρ own N st a w→fN E call tk sigs ops.toList rem st=some (rem.map φ,st')→st'.same stf→(∀a' w',After E R ρ own N w stf a' w'→Q .normal a' w')→Q .normal a w:=by
  intro rem st st' ρ own a w hrem h hr hs hQ
  subst hrem
  simp only [fN,Option.some.injEq,Prod.mk.injEq]at hr
  obtain⟨_,rfl⟩:=hr
  exact hQ _ _ ((After.refl h).same hs)
 intro n
 induction n with
 | zero=>
  intro rem listed st ρ own a w st' hn hs hm hsz hdc h hr hsame hQ
  have hrem:rem=[]:=List.length_eq_zero_iff.1 hn
  refine⟨?_,hfin rem st st' ρ own a w hrem h hr hsame hQ⟩
  cases hrd:Region.ready .any ops listed with
  | nil=>rfl
  | cons i r=>
   have:i∈Region.ready .any ops listed:=by rw [hrd];simp
   obtain⟨h1,o,h2,_⟩:=mem_ready.1 this
   have hi:i<ops.size:=(Array.getElem?_eq_some_iff.1 h2).1
   have:=(hm i).2 ⟨hi,by rw [←hgd _ _ hsz hi];exact h1⟩
   rw [hrem]at this
   cases this
 | succ n ih=>
  intro rem listed st ρ own a w st' hn hs hm hsz hdc h hr hsame hQ
  refine⟨fun hrd=>hfin rem st st' ρ own a w (hempty rem listed hs hm hsz hrd) h hr hsame hQ,fun i hi=> ?_⟩
  obtain⟨h1,o,h2,hall⟩:=mem_ready.1 hi
  have hlt:i<ops.size:=(Array.getElem?_eq_some_iff.1 h2).1
  have hil:listed.getD i false=false:=by rw [←hgd _ _ hsz hlt];exact h1
  have hir:i∈rem:=(hm i).2 ⟨hlt,hil⟩
  have hnth:nth ops.toList i=some o:=by rw [jE];exact h2
  have hedge:∀x∈dz o.after.toList,listed.getD x false=true:=fun x hx=>by
   obtain⟨e,he,hb,rfl⟩:=(jS _).1 hx
   exact hall e (by simpa using he) hb
  have hbef:∀x∈iB ops.toList i,listed.getD x false=true:=fun x hx=>by
   rcases B6 hnth hx with hx | ⟨d,hd1,hd2⟩
   · exact hedge x hx
   · have hld:=hedge d hd1
     refine hdc d ?_ hld x hd2
     have:=q8 _ hback hnth d hd1
     omega
  obtain⟨pre,post,rfl⟩:=List.append_of_mem hir
  obtain⟨p1,p2,p3⟩:=List.pairwise_append.1 hs
  obtain⟨p4,p5⟩:=List.pairwise_cons.1 p2
  simp only [List.map_append,List.map_cons]at hr
  obtain⟨st2,g1,g2⟩:=MH (by simp) hr (fun f hf=>by
   obtain⟨p,hp,rfl⟩:=List.mem_map.1 hf
   have hpi:p<i:=p3 p hp i (by simp)
   rcases hap p i hpi hlt with hb | hb
   · have h3:=hbef p hb
     have h4:=((hm p).1 (by simp [hp])).2
     rw [h3]at h4;cases h4
   · exact hb)
  obtain⟨o',u,fps',k1,k2,k3,k4⟩:=pT g1
  rw [hnth]at k1
  cases k1
  have hfps:fps'=(pre++post).map φ:=by
   rw [List.cons.injEq]at k3
   rw [←k3.2,List.map_append]
  rw [hfps]at k4
  refine Ai G hcall h h2 k2 (hd o (eO hnth)) fun a1 w1 hA=> ?_
  obtain⟨ρ1,own1,q1,q2,q3⟩:=hA
  have hset:∀x,(listed.setIfInBounds i true).getD x false=if x=i then true else listed.getD x false:=fun x=>by
   by_cases e:x=i
   · subst e;simp [hsz,hlt]
   · rw [getD_set_ne false (Ne.symm e),if_neg e]
  refine ih (pre++post) (listed.setIfInBounds i true) _ ρ1 own1 a1 w1 st2 (by simp at hn⊢;omega) ?_ ?_ (by simpa using hsz) ?_ q2 k4 (g2.symm.trans hsame) ?_
  · exact List.pairwise_append.2 ⟨p1,p5,fun x hx y hy=>p3 x hx y (by simp [hy])⟩
  · intro x
    rw [hset]
    by_cases e:x=i
    · subst e
      simp only [if_true,Bool.true_eq_false,and_false,iff_false]
      intro hx
      rcases List.mem_append.1 hx with hx | hx
      · have:=p3 x hx x (by simp);omega
      · have:=p4 x hx;omega
    · rw [if_neg e,←hm x]
      simp [e]
  · intro j hj hlj x hx
    rw [hset]at hlj⊢
    split
    · rfl
    · split at hlj
      · rename_i e;subst e;exact hbef x hx
      · exact hdc j hj hlj x hx
  · intro a2 w2 hA2
    obtain⟨ρ3,own3,m1,m2,m3⟩:=hA2
    exact hQ _ _ ⟨ρ3,own3,fun b B hb=>m1 _ _ (q1 _ _ hb),m2,q3.trans m3⟩
theorem mN {β:Type}{all:List Oper}{K:St→Option β}{r:β}:∀{l:List Oper} {i:Nat} {st st0:St},(∀k o,nth l k=some o→nth all (i+k)=some o)→j3 E call tk sigs all l i st K=some r→st.same st0→
 ∃fps st' st1,fN E call tk sigs all (bE i l.length) st0=some (fps,st')∧st1.same st'∧K st1=some r
 | [],i,st,st0,_,h,hs=>⟨[],st0,st,rfl,hs,h⟩
 | o::l,i,st,st0,hl,h,hs=>by
  have ho:nth all i=some o:=hl 0 o rfl
  have hl':∀k o,nth l k=some o→nth all (i+1+k)=some o:=fun k o' hk=>by
   have:=hl (k+1) o' hk
   rwa [show i+(k+1)=i+1+k by omega]at this
  simp only [j3]at h
  obtain⟨st1,hs1,hc⟩:=lV h
  have hs2:=hs1.trans hs
  have key:∀u st2,dC E call tk sigs all i o st0=some u→st2.same (st0.apply o.dst u)→j3 E call tk sigs all l (i+1) st2 K=some r→
   ∃fps st' st1,fN E call tk sigs all (bE i (o::l).length) st0=some (fps,st')∧st1.same st'∧K st1=some r:=by
   intro u st2 hu hst hreg
   obtain⟨fps,st',st3,k1,k2,k3⟩:=mN hl' hreg hst
   exact⟨cU all o st0 u::fps,st',st3,by simp only [List.length_cons,bE,fN,ho,hu,k1],k2,k3⟩
  have hw:dy all o st0=dy all o st:=by
   unfold dy
   cases o.guard with
   | none=>rfl
   | some jw=>
    dsimp only
    cases lv all jw.1 with
    | none=>rfl
    | some g=>dsimp only;rw [hs.fr g]
  rcases hc with⟨hw1,hc⟩ | ⟨hw1,hc⟩
  · obtain⟨u,hu,hK⟩:=gW hc
    refine key u _ ?_ (hs2.apply o.dst u) hK
    unfold dC
    rw [hw,hw1]
    exact po hu (fun t _=>hs2.fr t) (fun b _=>by rw [hs2.blk]) fun _=>by rw [hs2.blk]
  · refine key ex _ ?_ (hs2.apply o.dst ex) hc
    unfold dC
    rw [hw,hw1]
theorem sw {β:Type}{all:List Oper}{bef:List (List Nat)}{K:St→Option β}{r:β}:∀{l:List Oper} {i:Nat} {fps0:List FP} {st st0:St},(∀k o,nth l k=some o→nth all (i+k)=some o)→gb E call tk sigs all bef l i fps0 st K=some r→st.same st0→
 ∃fps st' st1,fN E call tk sigs all (bE i l.length) st0=some (fps,st')∧st1.same st'∧openOk bef (fps0++fps) 0 []=true∧K st1=some r
 | [],i,fps0,st,st0,_,h,hs=>by
  simp only [gb]at h
  cases ho:openOk bef fps0 0 []with
  | false=>rw [ho]at h;cases h
  | true=>rw [ho]at h;exact⟨[],st0,st,rfl,hs,by simpa using ho,h⟩
 | o::l,i,fps0,st,st0,hl,h,hs=>by
  have ho:nth all i=some o:=hl 0 o rfl
  have hl':∀k o,nth l k=some o→nth all (i+1+k)=some o:=fun k o' hk=>by
   have:=hl (k+1) o' hk
   rwa [show i+(k+1)=i+1+k by omega]at this
  simp only [gb]at h
  obtain⟨st1,hs1,hc⟩:=lV h
  have hs2:=hs1.trans hs
  have key:∀u st2,dC E call tk sigs all i o st0=some u→st2.same (st0.apply o.dst u)→gb E call tk sigs all bef l (i+1) (app fps0 [cU all o st1 u]) st2 K=some r→
   ∃fps st' st1,fN E call tk sigs all (bE i (o::l).length) st0=some (fps,st')∧st1.same st'∧openOk bef (fps0++fps) 0 []=true∧K st1=some r:=by
   intro u st2 hu hst hreg
   obtain⟨fps,st',st3,k1,k2,k3,k4⟩:=sw hl' hreg hst
   refine⟨cU all o st0 u::fps,st',st3,by simp only [List.length_cons,bE,fN,ho,hu,k1],k2, ?_,k4⟩
   rw [ba,rj hs2,List.append_assoc]at k3
   exact k3
  have hw:dy all o st0=dy all o st:=by
   unfold dy
   cases o.guard with
   | none=>rfl
   | some jw=>
    dsimp only
    cases lv all jw.1 with
    | none=>rfl
    | some g=>dsimp only;rw [hs.fr g]
  rcases hc with⟨hw1,hc⟩ | ⟨hw1,hc⟩
  · obtain⟨u,hu,hK⟩:=gW hc
    refine key u _ ?_ (hs2.apply o.dst u) hK
    unfold dC
    rw [hw,hw1]
    exact po hu (fun t _=>hs2.fr t) (fun b _=>by rw [hs2.blk]) fun _=>by rw [hs2.blk]
  · refine key ex _ ?_ (hs2.apply o.dst ex) hc
    unfold dC
    rw [hw,hw1]
theorem Rel.drawn (h:Rel E R ρ own N st a w):Rel E R ρ own N st a {w with drawn:=w.drawn+1}∧Grow own own w {w with drawn:=w.drawn+1}:=by
 have hk:w.keptBut {w with drawn:=w.drawn+1} (inT fun _ _=>False):=by
  have:=World.keptBut_refl w (inT fun _ _=>False)
  exact this
 refine h.gen (T:=fun _ _=>False) (chg:=fun _=>False) (bch:=fun _=>False) hk (fun _ _ h=>h.elim) (fun y B t' hy=> .inl ⟨y,t',hy,Nat.le_refl _⟩) h.inj h.size h.defers (fun t _=>⟨rfl,rfl,fun _=>rfl⟩) (fun _ _ h=>h.elim) h.rho (fun _ _ h=>h)
  (fun k _=>⟨rfl,rfl,fun _=>rfl⟩) fun _ _ h=>h.elim
theorem yZ {all:List Oper}:∀{l:List Nat} {st:St} {fps:List FP} {st':St},fN E call tk sigs all l st=some (fps,st')→fps.length=l.length
 | [],st,fps,st',h=>by simp only [fN,Option.some.injEq,Prod.mk.injEq]at h;rw [←h.1];rfl
 | i::r,st,fps,st',h=>by
  obtain⟨o,u,fps',h1,h2,h3,h4⟩:=pT h
  rw [h3,List.length_cons,List.length_cons,yZ h4]
theorem so {β:Type}{x y:Option β}{r:β}(h:sh x y=some r):x=some r∧y=some r:=by
 unfold sh at h
 split at h
 · rename_i e
   exact⟨h,e▸h⟩
 · cases h
theorem nt {β:Type}{r:β}:∀{l:List (Option β)},qV l=some r→∀x∈l,x=some r
 | [],h,_,_=>by cases h
 | [x],h,y,hy=>by
  simp only [List.mem_singleton]at hy
  rw [hy];exact h
 | x::y::l,h,z,hz=>by
  obtain⟨h1,h2⟩:=so (show sh x (qV (y::l))=some r from h)
  rcases List.mem_cons.1 hz with rfl | hz
  · exact h1
  · exact nt h2 z hz
theorem r9 {β:Type}(f:Nat→Option β)(l:List Nat):exK.mapE f l=l.map f:=by induction l<;>simp_all [exK.mapE]
theorem subN_eq {l d:List Nat}:readyL.subN l d=true↔∀x∈l,x∈d:=by
 induction l with
 | nil=>simp [readyL.subN]
 | cons x l ih=>simp [readyL.subN,ih,pB]
theorem nN (all:List Oper)(done:List Nat):∀(l:List Oper) (i x:Nat),x∈readyL all done l i↔∃o,i≤x∧nth l (x - i)=some o∧x∉done∧∀y∈dz o.after.toList,y∈done
 | [],i,x=>by simp [readyL,nth]
 | o::r,i,x=>by
  have ih:=nN all done r (i+1) x
  have hkey:x∈readyL all done (o::r) i↔((x=i∧i∉done∧∀y∈dz o.after.toList,y∈done)∨x∈readyL all done r (i+1)):=by
   simp only [readyL]
   cases hc:(!dF done i&&readyL.subN (dz o.after.toList) done)with
   | true=>
    simp only [Bool.and_eq_true,Bool.not_eq_true']at hc
    have h1:i∉done:=memN_false.1 hc.1
    have h2:=subN_eq.1 hc.2
    simp only [cond_true,List.mem_cons]
    constructor
    · rintro(rfl | h)
      · exact .inl ⟨rfl,h1,h2⟩
      · exact .inr h
    · rintro(⟨rfl,_⟩ | h)
      · exact .inl rfl
      · exact .inr h
   | false=>
    simp only [cond_false]
    constructor
    · exact .inr
    · rintro(⟨rfl,h1,h2⟩ | h)
      · exfalso
        have:(!dF done x&&readyL.subN (dz o.after.toList) done)=true:=by
         simp only [Bool.and_eq_true,Bool.not_eq_true']
         exact⟨memN_false.2 h1,subN_eq.2 h2⟩
        rw [this]at hc;cases hc
      · exact h
  rw [hkey,ih]
  constructor
  · rintro(⟨rfl,h1,h2⟩ | ⟨o',h0,h1,h2,h3⟩)
    · exact⟨o,Nat.le_refl _,by simp [nth],h1,h2⟩
    · refine⟨o',by omega, ?_,h2,h3⟩
      rw [show x - i=(x - (i+1))+1 by omega]
      exact h1
  · rintro⟨o',h0,h1,h2,h3⟩
    by_cases e:x=i
    · subst e
      simp only [Nat.sub_self,nth,Option.some.injEq]at h1
      subst h1
      exact .inl ⟨rfl,h2,h3⟩
    · refine .inr ⟨o',by omega, ?_,h2,h3⟩
      rw [show x - i=(x - (i+1))+1 by omega]at h1
      exact h1
theorem PN (G:Good P E)(hcall:fT P E call)(hd:∀o∈ops.toList,∀d,o.dst=some d→d<N){β:Type}{K:St→Option β}{r:β}:
 ∀(n:Nat) (done:List Nat) (listed:Array Bool) (st:St) (ρ:List Nat) (own:OI→aH) (a:Act) (w:World),listed.size=ops.size→(∀i,i<ops.size→(i∈done↔listed.getD i false=true))→(∀i∈done,i<ops.size)→
  Rel E R ρ own N st a w→exK E call tk sigs ops.toList n done st K=some r→(∀st1 a' w',K st1=some r→After E R ρ own N w st1 a' w'→Q .normal a' w')→wpAny P .any ops Q n listed a w:=by
 have hready:∀(done:List Nat) (listed:Array Bool),listed.size=ops.size→(∀i,i<ops.size→(i∈done↔listed.getD i false=true))→(∀i∈done,i<ops.size)→∀i,i∈Region.ready .any ops listed↔i∈readyL ops.toList done ops.toList 0:=by
  intro done listed hsz hdl hlt i
  rw [mem_ready,nN]
  constructor
  · rintro⟨h1,o,h2,h3⟩
    have hi:i<ops.size:=(Array.getElem?_eq_some_iff.1 h2).1
    refine⟨o,by omega,by rw [Nat.sub_zero,jE];exact h2,fun hc=> ?_,fun y hy=> ?_⟩
    · have h4:=(hdl i hi).1 hc
      have h5:listed.getD i true=listed.getD i false:=by simp [hsz,hi]
      rw [h5,h4]at h1;cases h1
    · obtain⟨e,he,hb,rfl⟩:=(jS _).1 hy
      have h4:=h3 e (by simpa using he) hb
      by_cases hy2:e.on<ops.size
      · exact(hdl _ hy2).2 h4
      · exfalso
        have:listed.getD e.on false=false:=by
         rw [Array.getD_eq_getD_getElem?,Array.getElem?_eq_none (by omega)];rfl
        rw [this]at h4;cases h4
  · rintro⟨o,_,h2,h3,h4⟩
    rw [Nat.sub_zero,jE]at h2
    have hi:i<ops.size:=(Array.getElem?_eq_some_iff.1 h2).1
    refine⟨?_,o,h2,fun e he hb=> ?_⟩
    · have h5:listed.getD i true=listed.getD i false:=by simp [hsz,hi]
      rw [h5]
      cases hc:listed.getD i false with
      | false=>rfl
      | true=>exact absurd ((hdl i hi).2 hc) h3
    · have h5:=h4 e.on ((jS _).2 ⟨e,by simpa using he,hb,rfl⟩)
      exact(hdl _ (hlt _ h5)).1 h5
 intro n
 induction n with
 | zero=>
  intro done listed st ρ own a w hsz hdl hlt h hr hQ
  simp only [exK]at hr
  obtain⟨hc,hr⟩:=ab hr
  have hnil:=isNilL_eq.1 hc
  refine⟨?_,hQ st a w hr (.refl h)⟩
  cases hrd:Region.ready .any ops listed with
  | nil=>rfl
  | cons i l=>
   have:i∈readyL ops.toList done ops.toList 0:=(hready done listed hsz hdl hlt i).1 (by rw [hrd];simp)
   rw [hnil]at this;cases this
 | succ n ih=>
  intro done listed st ρ own a w hsz hdl hlt h hr hQ
  simp only [exK]at hr
  refine⟨fun hrd=> ?_,fun i hi=> ?_⟩
  · have hnil:readyL ops.toList done ops.toList 0=[]:=by
     cases hc:readyL ops.toList done ops.toList 0 with
     | nil=>rfl
     | cons i l=>
      have:i∈Region.ready .any ops listed:=(hready done listed hsz hdl hlt i).2 (by rw [hc];simp)
      rw [hrd]at this;cases this
    rw [hnil]at hr
    exact hQ st a w hr (.refl h)
  · have hi2:=(hready done listed hsz hdl hlt i).1 hi
    obtain⟨o,_,h2,h3,h4⟩:=(nN _ _ _ _ _).1 hi2
    rw [Nat.sub_zero]at h2
    have h2':ops[i]? =some o:=by rw [←jE];exact h2
    have hil:i<ops.size:=(Array.getElem?_eq_some_iff.1 h2').1
    have hone:gz ops.toList o st (fun st=>actK E call tk (iw sigs i) o st fun u=>exK E call tk sigs ops.toList n (i::done) (st.apply o.dst u) K) (fun st=>exK E call tk sigs ops.toList n (i::done) (st.apply o.dst ex) K)=some r:=by
     cases hc:readyL ops.toList done ops.toList 0 with
     | nil=>rw [hc]at hi2;cases hi2
     | cons j l=>
      rw [hc]at hr hi2
      dsimp only at hr
      rw [r9]at hr
      have:=nt hr _ (List.mem_map_of_mem hi2)
      simp only [h2]at this
      exact this
    have hset:∀x,(listed.setIfInBounds i true).getD x false=if x=i then true else listed.getD x false:=fun x=>by
     by_cases e:x=i
     · subst e;simp [hsz,hil]
     · rw [getD_set_ne false (Ne.symm e),if_neg e]
    have hdl':∀j,j<ops.size→(j∈i::done↔(listed.setIfInBounds i true).getD j false=true):=fun j hj=>by
     rw [hset,List.mem_cons,hdl j hj]
     split<;>simp_all
    have hlt':∀j∈i::done,j<ops.size:=fun j hj=>by
     rcases List.mem_cons.1 hj with rfl | hj
     · exact hil
     · exact hlt j hj
    obtain⟨st1,hs1,hc⟩:=lV hone
    have key:∀u st2,dC E call tk sigs ops.toList i o st=some u→st2.same (st.apply o.dst u)→exK E call tk sigs ops.toList n (i::done) st2 K=some r→wpOp P ops Q i (wpAny P .any ops Q n (listed.setIfInBounds i true)) a w:=by
     intro u st2 hu hst hex
     refine Ai G hcall h h2' hu (hd o (eO h2)) fun a1 w1 hA=> ?_
     obtain⟨ρ1,own1,q1,q2,q3⟩:=hA.same hst.symm
     exact ih (i::done) (listed.setIfInBounds i true) st2 ρ1 own1 a1 w1 (by simpa using hsz) hdl' hlt' q2 hex fun st3 a3 w3 hK hA3=>hQ st3 a3 w3 hK (After.trans q1 q3 hA3)
    rcases hc with⟨hw1,hc⟩ | ⟨hw1,hc⟩
    · obtain⟨u,hu,hK⟩:=gW hc
      refine key u _ ?_ (hs1.apply o.dst u) hK
      unfold dC
      rw [hw1]
      exact po hu (fun t _=>hs1.fr t) (fun b _=>by rw [hs1.blk]) fun _=>by rw [hs1.blk]
    · refine key ex _ ?_ (hs1.apply o.dst ex) hc
      unfold dC
      rw [hw1]
theorem CZ (G:Good P E)(hm:P.follows .mixedOrders=true)(hcall:fT P E call)(hd:∀o∈ops.toList,∀d,o.dst=some d→d<N){β:Type}{K:St→Option β}{r:β}{an:Ann}{draw:Bool}{id:Nat}(h:Rel E R ρ own N st a w)
 (hex:draw=true→dF an.takes 9000000=false) (hr:gx E call an ops.toList draw st K=some r):∃st1,K st1=some r∧∀Q:Exit→Act→World→Prop,(∀a' w',After E R ρ own N w st1 a' w'→Q .normal a' w')→(Code.region id ops draw).wp P Q a w:=by
 unfold gx at hr
 cases draw with
 | false=>
  dsimp only at hr
  split at hr
  rotate_left
  · rename_i p th _
    have hple:=(ab hr).1
    replace hr:=(ab hr).2
    have hple:=Nat.le_of_ble_eq_true hple
    rw [bq]at hple
    obtain⟨fps,st',st1,h1,h2,h3⟩:=mN (all:=ops.toList) (st0:=st) (fun k o hk=>by
     rw [Nat.zero_add]
     rw [bp,aY]at hk
     rw [aY]
     rw [List.getElem?_take]at hk
     split at hk
     · exact hk
     · cases hk) hr (.refl st)
    have hlp:(bA ops.toList p).length=p:=by rw [bp,List.length_take];omega
    rw [hlp]at h1
    rw [lc]at h3
    obtain⟨st2,h4,h5⟩:=bind_some h3
    obtain⟨fps2,st3,st4,h6,h7,h8⟩:=mN (all:=ops.toList) (st0:=st2) (fun k o hk=>by
     rw [aN,aY,List.getElem?_drop]at hk
     rw [aY]
     exact hk) h5 (.refl st2)
    have hld:(ag ops.toList (p+2)).length=ops.toList.length - (p+2):=by rw [aN,List.length_drop]
    rw [hld]at h6
    refine⟨st4,h8,fun Q hQ=>wp_region ?_⟩
    have hrange:List.range ops.size=bE 0 p++(p::(p+1)::bE (p+2) (ops.toList.length - (p+2))):=by
     have hs:ops.size=ops.toList.length:=by simp
     apply List.ext_getElem
     · simp only [List.length_range,List.length_append,dn,List.length_cons];omega
     · intro i g1 g2
       simp only [List.getElem_range]
       have e1:(bE 0 p++(p::(p+1)::bE (p+2) (ops.toList.length - (p+2))))[i]? =some i:=by
        have gi:i<ops.size:=by simpa using g1
        by_cases c1:i<p
        · rw [List.getElem?_append_left (by rw [dn];exact c1),←aY,fS c1,Nat.zero_add]
        · rw [List.getElem?_append_right (by rw [dn];omega),dn]
          by_cases c2:i=p
          · subst c2;simp
          · by_cases c3:i=p+1
            · subst c3;simp
            · have e3:i - p=(i - (p+2))+1+1:=by omega
              rw [e3,List.getElem?_cons_succ,List.getElem?_cons_succ,←aY,fS (by omega)]
              congr 1;omega
       rw [List.getElem?_eq_getElem g2]at e1
       exact(Option.some.inj e1).symm
    rw [hrange]
    refine uO G hcall hd _ _ st ρ own a w fps st' h h1 fun a1 w1 hA1=> ?_
    obtain⟨ρ1,own1,k1,k2,k3⟩:=hA1.same h2.symm
    obtain⟨st2',e,hp⟩:=La (Q:=Q) (rest:=bE (p+2) (ops.toList.length - (p+2))) G hd k2 (K:=some) hcall h4
    cases e
    refine hp fun a2 w2 hA2=> ?_
    obtain⟨ρ2,own2,m1,m2,m3⟩:=hA2
    exact D3 G hcall hd _ st2 ρ2 own2 a2 w2 fps2 st3 m2 h6 fun a3 w3 hA3=>hQ _ _ (After.trans k1 k3 (After.trans m1 m3 (hA3.same h7.symm)))
  obtain⟨fps,st',st1,h1,h2,h3⟩:=mN (st0:=st) (fun k o hk=>by rw [Nat.zero_add];exact hk) hr (.refl st)
  refine⟨st1,h3,fun Q hQ=>wp_region ?_⟩
  have hrange:List.range ops.size=bE 0 ops.toList.length:=by
   apply List.ext_getElem
   · simp [dn]
   · intro i g1 g2
     have:=fS (n:=ops.toList.length) (i:=0) (k:=i) (by simpa using g1)
     rw [aY,List.getElem?_eq_getElem g2]at this
     simp at this
     simp [this]
  rw [hrange]
  exact D3 G hcall hd _ st ρ own a w fps st' h h1 fun a' w' hA=>hQ _ _ (hA.same h2.symm)
 | true=>
  dsimp only at hr
  rw [hex rfl]at hr
  dsimp only at hr
  cases hb:backward ops.toList 0 with
  | false=>rw [hb]at hr;cases hr
  | true=>
   rw [hb]at hr
   simp only [cond_true]at hr
   obtain⟨fps,st',st1,h1,h2,h3,h4⟩:=sw (st0:=st) (fun k o hk=>by rw [Nat.zero_add];exact hk) hr (.refl st)
   refine⟨st1,h4,fun Q hQ=>wp_region_any hm ?_⟩
   obtain⟨hrel,hgrow⟩:=h.drawn
   simp only [List.nil_append]at h3
   have hlen:fps.length=ops.size:=by rw [yZ h1,dn];simp
   have hmap:fps=(bE 0 ops.toList.length).map fun i=>fps.getD i ⟨[],[],[],[],false⟩:=by
    apply List.ext_getElem
    · simp [dn,hlen]
    · intro i g1 g2
      have hi:i<ops.toList.length:=by rw [hlen]at g1;simpa using g1
      have:=fS (n:=ops.toList.length) (i:=0) (k:=i) hi
      rw [aY,List.getElem?_eq_getElem (by simpa using g2)]at this
      simp at this
      simp [this,g1]
   refine OO G hcall hd hb (φ:=fun i=>fps.getD i ⟨[],[],[],[],false⟩) (stf:=st1) (fun i j hij hj=> ?_) ops.size (bE 0 ops.toList.length) _ st ρ own a _ st' (by simp [dn]) ?_ ?_ (by simp) ?_ hrel (by rw [←hmap];exact h1) h2.symm ?_
   · have hi':i<fps.length:=by omega
     have hj':j<fps.length:=by omega
     have:=FR (bef:=xm ops.toList []) (qs:=fps) (j:=0) (m:=j) (seen:=[]) (k:=i) (p:=fps[i]) (q:=fps[j]) h3 (by rw [aY];simp [hj']) (by simpa using hij) (by rw [aY];simp [hi'])
     rw [Nat.zero_add]at this
     simpa [iB,List.getD,hi',hj']using this
   · have key:∀n i,(bE i n).Pairwise (· < ·):=by
      intro n
      induction n with
      | zero=>intro i;simp [bE]
      | succ n ih=>
       intro i
       simp only [bE,List.pairwise_cons,ih,and_true]
       intro x hx
       have:=range0_mem.1 hx
       omega
     exact key _ _
   · intro i
     rw [range0_mem]
     simp
     intro hi
     simp [hi]
   · intro j hj hl
     simp [hj]at hl
   · intro a' w' hA
     obtain⟨ρ3,own3,m1,m2,m3⟩:=hA
     exact hQ _ _ ⟨ρ3,own3,m1,m2,hgrow.trans m3⟩
theorem Fo (G:Good P E)(hm:P.follows .mixedOrders=true)(hcall:fT P E call)(hd:∀o∈ops.toList,∀d,o.dst=some d→d<N){β:Type}{K:St→Option β}{r:β}{an:Ann}{draw:Bool}{id:Nat}(h:Rel E R ρ own N st a w)
 (hr:gx E call an ops.toList draw st K=some r) (Q:Exit→Act→World→Prop) (hQ:∀st1 a' w',K st1=some r→After E R ρ own N w st1 a' w'→Q .normal a' w'):(Code.region id ops draw).wp P Q a w:=by
 by_cases hex:draw=true→dF an.takes 9000000=false
 · obtain⟨st1,h1,h2⟩:=CZ (id:=id) G hm hcall hd h hex hr
   exact h2 Q fun a' w' hA=>hQ st1 a' w' h1 hA
 · obtain⟨rfl,hx⟩:draw=true∧dF an.takes 9000000=true:=by
    cases draw with
    | false=>exact absurd (fun h=>by cases h) hex
    | true=>
     refine⟨rfl, ?_⟩
     cases hc:dF an.takes 9000000 with
     | true=>rfl
     | false=>exact absurd (fun _=>hc) hex
   unfold gx at hr
   dsimp only at hr
   rw [hx]at hr
   dsimp only at hr
   rw [bq]at hr
   refine wp_region_any hm ?_
   obtain⟨hrel,hgrow⟩:=h.drawn
   have hs:ops.toList.length=ops.size:=by simp
   rw [hs]at hr
   refine PN G hcall hd ops.size [] _ st ρ own a _ (by simp) (fun i hi=>by simp [hi]) (by simp) hrel hr fun st1 a' w' hK hA=> ?_
   obtain⟨ρ3,own3,m1,m2,m3⟩:=hA
   exact hQ st1 a' w' hK ⟨ρ3,own3,m1,m2,hgrow.trans m3⟩
end Go.Abs
namespace Go.Abs
variable {E:Env} {P:Program} {R:aG} {ρ:List Nat} {own:OI→aH} {N:Nat} {st:St} {a:Act} {w:World}
def FJ :List (Nat×Bool)→Nat→Option Bool
 | [],_=>none
 | (u,b)::r,t=>cond (Nat.beq u t) (some b) (FJ r t)
theorem ym {fr:List (Nat×AV)}{μ:Nat→Option Nat}(t:Nat):∀(m:List (Nat×Bool)) (fr':List (Nat×AV)),mo fr μ m=some fr'→
 (∃o v,FJ m t=some o∧(cond o (get fr t) (get fr t).dis).remap μ=some v∧get fr' t=v)∨(FJ m t=none∧get fr' t=.undef):=by
 intro m
 induction m with
 | nil=>intro fr' h;simp only [mo,Option.some.injEq]at h;subst h;exact .inr ⟨rfl,rfl⟩
 | cons x r ih=>
  obtain⟨u,b⟩:=x
  intro fr' h
  simp only [mo]at h
  split at h
  · rename_i v l h1 h2
    cases h
    by_cases e:u=t
    · subst e
      exact .inl ⟨b,v,by simp only [FJ,co,cond_true],h1,by simp only [get,co,cond_true]⟩
    · simp only [FJ,dH e,cond_false,get]
      exact ih l h2
  · cases h
theorem By (h:Rel E R ρ own N st a w){β:Type}{nw:Nat}{m:List (Nat×Bool)}{K:St→Option β}{r:β}(hm:uu nw m st K=some r):
 ∃st1 ρ' own',K st1=some r∧Rel E R ρ' own' N st1 a w∧Grow own own' w w∧∀b B,b<nw→nth ρ b=some B→nth ρ' b=some B:=by
 unfold uu at hm
 dsimp only at hm
 have hsel:(app (bE 0 nw) (gY (dQ st.blk 1000 (app (lT st.fr m) (gH (bA st.blk nw))) []) nw (bI st.blk - nw))).Nodup:=
  vT li fun x hx=>(nM hx).1
 have hfirst:∀b,b<nw→nth (app (bE 0 nw) (gY (dQ st.blk 1000 (app (lT st.fr m) (gH (bA st.blk nw))) []) nw (bI st.blk - nw))) b=some b:=fun b hb=>by
  rw [ba,bj _ _ _ (by rw [dn];exact hb),fS hb,Nat.zero_add]
 generalize app (bE 0 nw) (gY (dQ st.blk 1000 (app (lT st.fr m) (gH (bA st.blk nw))) []) nw (bI st.blk - nw))=sel at hm hsel hfirst
 split at hm
 · rename_i fr' bs h1 h2
   let own':OI→aH:=fun
    | .tmp t p=>match FJ m t with | some true=>own (.tmp t p) | _=>none
    | .self i=>match nth sel i with | some k=>own (.self k) | none=>none
    | .cell i j=>match nth sel i with | some k=>own (.cell k j) | none=>none
   have hsub:∀t p B s,own' (.tmp t p)=some (B,s)→own (.tmp t p)=some (B,s):=fun t p B s e=>by
    simp only [own']at e
    split at e
    · exact e
    · cases e
   have hall:∀x B s,own' x=some (B,s)→∃y,own y=some (B,s):=fun x B s e=>by
    cases x with
    | tmp t p=>exact⟨_,hsub _ _ _ _ e⟩
    | self i=>simp only [own']at e;split at e;exact⟨_,e⟩;cases e
    | cell i j=>simp only [own']at e;split at e;exact⟨_,e⟩;cases e
   refine⟨_,nf ρ sel,own',hm,h.pick hsel h2 h.size h.defers ?_ ?_ (fun _=>rfl) (fun _ _=>rfl) (fun t p=> .tmp t p) (fun t p B s e=>⟨hsub _ _ _ _ e,fun k=>⟨by simp,fun j _=>by simp⟩⟩) (fun t p t' p' B s _ _ e=>e) h.low ?_,.refl _ _ _ fun x B t' hx=> ?_,fun b B hb hB=> ?_⟩
   · rintro B off (hR | ⟨x,t,hx,ht⟩)
     · exact .inl hR
     · obtain⟨y,hy⟩:=hall _ _ _ hx
       exact .inr ⟨y,t,hy,ht⟩
   · intro t
     rcases ym t m fr' h1 with⟨o,v,e1,e2,e3⟩ | ⟨e1,e2⟩
     · rw [e3]
       cases o with
       | true=>
        have:(fun p=>own' (.tmp t p))=fun p=>own (.tmp t p):=funext fun p=>by simp only [own',e1]
        rw [this]
        exact(h.fr t).remap (fun b b' B=>fU b b' B) e2
       | false=>
        have:(fun p=>own' (.tmp t p))=fun p=>none:=funext fun p=>by simp only [own',e1]
        rw [this]
        exact(h.fr t).dis.remap (fun b b' B=>fU b b' B) e2
     · rw [e2]
       exact .undef _ _ fun p=>by simp only [own',e1]
   · intro x B t hx
     obtain⟨y,hy⟩:=hall _ _ _ hx
     exact(h.out _ _ _ hy).2
   · obtain⟨y,hy⟩:=hall _ _ _ hx
     exact⟨y,t',hy,Nat.le_refl _⟩
   · exact ke (hfirst b hb) hB
 · cases hm
def jt :List ResultVar→Nat→Bool
 | [],_=>true
 | .tmp t::r,n=>Nat.blt t n&&jt r n
 | .cell t _::r,n=>Nat.blt t n&&jt r n
def EU (tmps:Array Value):ResultVar→Sem Value
 | .tmp t=>pure (tmps.getD t undef)
 | .cell a t=>do loadVar t (←asAddr (tmps.getD a undef))
theorem Cg {v:Value}{t:TypeId}{val:Value}(h:(Instr.loadAt t v).run P w=.ok val w):(do loadVar t (←asAddr v):Sem Value).run P w=.ok val w:=by
 unfold Instr.loadAt Instr.sureAddr at h
 unfold asAddr
 cases v with
 | pointer a=>cases a with
  | none=>simp [stuck]at h
  | some a=>simpa using h
 | _=>simp [stuck]at h
theorem Rel.extend (h:Rel E R ρ own N st a w)(n:Nat):Rel E R ρ own (N+n) st {a with tmps:=a.tmps++Array.replicate n undef} w:=by
 refine⟨by simp [h.size],h.defers,fun t=> ?_,h.rho,h.blk,h.inj,h.out,h.low⟩
 have:(a.tmps++Array.replicate n undef).getD t undef=a.tmps.getD t undef:=by
  by_cases ht:t<a.tmps.size
  · simp [Array.getD_eq_getD_getElem?,Array.getElem?_append_left ht]
  · simp only [Array.getD_eq_getD_getElem?,Array.getElem?_append_right (Nat.le_of_not_lt ht),Array.getElem?_eq_none (Nat.le_of_not_lt ht)]
    cases e:(Array.replicate n undef)[t - a.tmps.size]? with
    | none=>rfl
    | some v=>
     have:=Array.getElem?_eq_some_iff.1 e
     obtain⟨h1,h2⟩:=this
     simp at h2
     simp [←h2]
 dsimp only
 rw [this]
 exact h.fr t
structure Tail (M:Nat) (st1:St) (vs:List AV) (a:Act) (rs:List Value):Prop where
 len:vs.length=rs.length
 fr:∀(i:Nat) (h:i<vs.length),get st1.fr (M+i)=vs[i]
 tmp:∀(i:Nat) (h:i<rs.length),a.tmps.getD (M+i) undef=rs[i]
theorem wh (G:Good P E){β:Type}{tmps:Array Value}{M:Nat}:∀(l:List ResultVar) (st st1:St) (ρ:List Nat) (own:OI→aH) (a:Act) (vs0:List AV) (rs0:List Value) (K:List AV→St→Option β) (r:β),
 Rel E R ρ own N st1 a w→jt l M=true→M+vs0.length+l.length≤N→(∀t,t<M→get st.fr t=get st1.fr t∧a.tmps.getD t undef=tmps.getD t undef)→st.blk=st1.blk→Tail M st1 vs0 a rs0→uT E st l K=some r→
 ∃vs st2 ρ2 own2 a2 rs,(∃stK,K vs stK=some r∧stK.blk=st2.blk)∧After E R ρ own N w st2 a2 w∧Rel E R ρ2 own2 N st2 a2 w∧Grow own own2 w w∧(∀b B,nth ρ b=some B→nth ρ2 b=some B)∧Tail M st2 (vs0++vs) a2 (rs0++rs)∧rs.length=vs.length∧
  (l.mapM (EU tmps)).run P w=.ok rs w
 | [],st,st1,ρ,own,a,vs0,rs0,K,r,h,hlt,hM,hfr,hblk,htail,hr=>by
  simp only [uT]at hr
  have hA:=After.refl h
  exact⟨[],st1,ρ,own,a,[],⟨st,hr,hblk⟩,hA,h,.refl _ _ _ fun x B t hx=>⟨x,t,hx,Nat.le_refl _⟩,fun _ _ h=>h,by simpa using htail,rfl,by simp⟩
 | x::l,st,st1,ρ,own,a,vs0,rs0,K,r,h,hlt,hM,hfr,hblk,htail,hr=>by
  have hd:∀d,some (M+vs0.length)=some d→d<N:=fun d e=>by cases e;simp at hM;omega
  -- a step to slot M+ |vs0|,then the rest
  have key:∀(v:AV) (val:Value) (u:Upd) (stK:St),u.val=v→(∃x,(x=none∨∃t,t<M∧x=some t)∧u.dis=x)→u.nu=[]→
   After E R ρ own N w (st1.apply (some (M+vs0.length)) u) (a.put (some (M+vs0.length)) val) w→(∀t,t<M→get stK.fr t=get (st1.apply (some (M+vs0.length)) u).fr t)→stK.blk=(st1.apply (some (M+vs0.length)) u).blk→
   jt l M=true→uT E stK l (fun vs st'=>K (v::vs) st')=some r→(EU tmps x).run P w=.ok val w→
   ∃vs st2 ρ2 own2 a2 rs,(∃stK,K vs stK=some r∧stK.blk=st2.blk)∧After E R ρ own N w st2 a2 w∧Rel E R ρ2 own2 N st2 a2 w∧Grow own own2 w w∧(∀b B,nth ρ b=some B→nth ρ2 b=some B)∧Tail M st2 (vs0++vs) a2 (rs0++rs)∧rs.length=vs.length∧
    ((x::l).mapM (EU tmps)).run P w=.ok rs w:=by
   intro v val u stK hv hdis hnu hA hfrK hblkK hltl hrest hrun
   obtain⟨ρ1,own1,k1,k2,k3⟩:=hA
   have hdis':∀i,i<vs0.length→u.dis≠some (M+i):=fun i hi e=>by
    obtain⟨x,hx,e2⟩:=hdis
    rw [e2]at e
    rcases hx with rfl | ⟨t,ht,rfl⟩
    · cases e
    · cases e;omega
   have htl:Tail M (st1.apply (some (M+vs0.length)) u) (vs0++ [v]) (a.put (some (M+vs0.length)) val) (rs0++ [val]):=by
    refine⟨by simp [htail.len],fun i hi=> ?_,fun i hi=> ?_⟩
    · rw [iX]
      by_cases e:i=vs0.length
      · subst e;simp [hv]
      · have hi2:i<vs0.length:=by simp at hi;omega
        rw [if_neg (fun e=>by injection e with e;omega),if_neg (hdis' i hi2),List.getElem_append_left hi2]
        exact htail.fr i hi2
    · rw [bU a _ val _ (by rw [h.size];exact hd)]
      by_cases e:i=vs0.length
      · subst e
        simp [htail.len]
      · have hl:=htail.len
        have hi2:i<rs0.length:=by simp at hi;omega
        rw [if_neg (fun e=>by injection e with e;omega),List.getElem_append_left hi2]
        exact htail.tmp i hi2
   obtain⟨vs,st2,ρ2,own2,a2,rs,g1,g2,g3,g4,g5,g6,g7,g8⟩:=wh G (tmps:=tmps) (M:=M) l stK _ ρ1 own1 _ (vs0++ [v]) (rs0++ [val]) (fun vs st'=>K (v::vs) st') r k2 hltl (by simp at hM⊢;omega) (fun t ht=>⟨hfrK t ht,by
    rw [bU a _ val _ (by rw [h.size];exact hd),if_neg (fun e=>by injection e with e;omega)]
    exact(hfr t ht).2⟩) hblkK htl hrest
   refine⟨v::vs,st2,ρ2,own2,a2,val::rs,g1,⟨ρ2,own2,fun b B hb=>g5 _ _ (k1 _ _ hb),g3,k3.trans g4⟩,g3,k3.trans g4,fun b B hb=>g5 _ _ (k1 _ _ hb),by simpa using g6,by simp [g7], ?_⟩
   simp [List.mapM_cons,hrun,g8]
  cases x with
  | tmp t=>
   simp only [jt,Bool.and_eq_true]at hlt
   have ht:t<M:=Nat.lt_of_succ_le (Nat.le_of_ble_eq_true hlt.1)
   simp only [uT]at hr
   refine key (get st.fr t) (tmps.getD t undef) ⟨get st.fr t,some t,[],[],[]⟩ ⟨jC st.fr (some t),st.blk⟩ rfl ⟨some t,.inr ⟨t,ht,rfl⟩,rfl⟩ rfl ?_ (fun s hs=> ?_) ?_ hlt.2 hr rfl
   · refine h.take hd ?_
     have:=h.fr t
     rw [←(hfr t ht).1,(hfr t ht).2]at this
     exact this
   · rw [iX,if_neg (fun e=>by injection e with e;omega),ik,(hfr s hs).1]
   · simp only [St.apply,bz,ba,List.append_nil,hblk]
  | cell t ty=>
   simp only [jt,Bool.and_eq_true]at hlt
   have ht:t<M:=Nat.lt_of_succ_le (Nat.le_of_ble_eq_true hlt.1)
   simp only [uT]at hr
   have hnat:=w7 E (fun u=>uT E (st.apply none u) l fun vs st'=>K (u.val::vs) st') true ty st (get st.fr t) some
   simp only [Option.bind_some]at hnat
   rw [←hnat]at hr
   cases hu:lx E true ty st (get st.fr t) some with
   | none=>rw [hu]at hr;cases hr
   | some u=>
    rw [hu]at hr
    have hr:uT E (st.apply none u) l (fun vs st'=>K (u.val::vs) st')=some r:=hr
    have hu1:lx E true ty st1 (get st.fr t) some=some u:=by
     unfold lx at hu⊢
     rw [←hblk]
     exact hu
    have hp:=h.fr t
    rw [←(hfr t ht).1,(hfr t ht).2]at hp
    obtain⟨val,hl1,hl2⟩:=tH G h hp hu1 hd
    have hud:u.dis=none∧u.nu=[]:=by
     unfold lx at hu
     split at hu<;>try (cases hu;done)
     split at hu<;>try (cases hu;done)
     · split at hu<;>try (cases hu;done)
       obtain⟨_,hu⟩:=gN hu
       unfold dg at hu
       dsimp only at hu
       split at hu<;>try (cases hu;done)
       · obtain⟨_,hu⟩:=cc hu;cases hu;exact⟨rfl,rfl⟩
       · obtain⟨_,hu⟩:=cc hu;cases hu;exact⟨rfl,rfl⟩
     · rename_i ty' _ _ e row o _
       split at hu<;>try (cases hu;done)
       have:=mR (fun l=>dg ty' l fun v=>some (Upd.pure v)) row ty'.kinds o some
       simp only [Option.bind_some]at this
       rw [←this]at hu
       rename_i te _
       cases hb:ff (bA (ag te.kinds o) ty'.size) ty'.kinds with
       | false=>rw [hb]at hu;cases hu
       | true=>
        rw [hb]at hu
        simp only [cond_true]at hu
        cases hpj:pg row ty'.kinds o some with
        | none=>rw [hpj]at hu;cases hu
        | some l'=>
         rw [hpj]at hu
         simp only [Option.bind_some]at hu
         unfold dg at hu
         split at hu<;>cases hu<;>exact⟨rfl,rfl⟩
     · split at hu<;>try (cases hu;done)
       unfold dg at hu
       split at hu<;>cases hu<;>exact⟨rfl,rfl⟩
     · split at hu<;>try (cases hu;done)
       split at hu<;>try (cases hu;done)
       replace hu:=(ab hu).2
       replace hu:=(ab hu).2
       obtain⟨l,hu,_⟩:=jq hu
       unfold dg at hu
       split at hu<;>cases hu<;>exact⟨rfl,rfl⟩
    refine key u.val val u (st.apply none u) rfl ⟨none,.inl rfl,hud.1⟩ hud.2 hl2 (fun s hs=> ?_) (by simp only [St.apply,hblk]) hlt.2 hr (Cg hl1)
    have hne:M+vs0.length≠s:=by omega
    simp only [iX,hud.1,(hfr s hs).1,Option.some.injEq,hne,reduceCtorEq,if_false]
def rJ (ownr:List Nat):List AV→Nat→List AV
 | [],_=> []
 | v::vs,i=>(cond (dF ownr i) v v.dis)::rJ ownr vs (i+1)
theorem ul {β:Type}(ownr:List Nat):∀(l:List AV) (i:Nat) (K:List AV→Option β),sa ownr l i K=K (rJ ownr l i)
 | [],_,_=>rfl
 | v::vs,i,K=>by simp only [sa,rJ];exact ul ownr vs (i+1) _
theorem zD (ownr:List Nat):∀(l:List AV) (i:Nat),(rJ ownr l i).length=l.length
 | [],_=>rfl
 | v::vs,i=>by simp [rJ,zD ownr vs (i+1)]
theorem Ac (ownr:List Nat):∀(l:List AV) (i k:Nat) (h:k<l.length) (h':k<(rJ ownr l i).length),(rJ ownr l i)[k]=cond (dF ownr (i+k)) l[k] l[k].dis
 | v::vs,i,0,_,_=>rfl
 | v::vs,i,k+1,h,h'=>by
  have:=Ac ownr vs (i+1) k (by simpa using h) (by simpa [rJ]using h')
  simp only [rJ,List.getElem_cons_succ,this]
  rw [show i+1+k=i+(k+1)by omega]
theorem zV (l:List Block):disBs l=l.map Block.dis:=by induction l<;>simp_all [disBs]
theorem Rel.disBs (h:Rel E R ρ own N st a w):∃own',(∀x,own' x=own x∨own' x=none)∧Rel E R ρ own' N ⟨st.fr,Abs.disBs st.blk⟩ a w:=by
 refine⟨fun | .cell _ _=>none | x=>own x,fun x=>by cases x<;>simp,h.sub (fun x=>by cases x<;>simp) (fun t=>h.fr t) (by simp [zV]) fun k=> ?_⟩
 have hk:=h.blk k
 dsimp only
 rw [zV,aY,List.getElem?_map,←aY]
 cases e:nth st.blk k with
 | none=>rw [e]at hk;exact⟨hk.1,fun _=>rfl⟩
 | some b=>
  rw [e]at hk
  cases b with
  | dead=>exact⟨hk.1,fun _=>rfl⟩
  | fro e rows=>exact⟨hk.1,fun _=>rfl,hk.2.2⟩
  | var cells=>
   obtain⟨B,h1,h2,h3,h4⟩:=hk
   refine⟨B,h1,h2,fun _ _=>rfl,fun j hj=> ?_⟩
   have hj':j<cells.length:=by simpa [mY]using hj
   obtain⟨v,k1,k2,k3⟩:=h4 j hj'
   refine⟨v,k1,k2, ?_⟩
   simp only [mY,List.getElem_map]
   exact k3.dis
  | arr e rows=>
   rcases hk with⟨h1,h2,h3⟩ | ⟨B,te,h1,h2,h3,h4,h5,h7,h6⟩
   · exact .inl ⟨h1,h2,fun _=>rfl⟩
   · exact .inr ⟨B,te,h1,h2,fun _=>rfl,h4,h5,h7,h6⟩
theorem BN (fn:Func)(tmps:Array Value){rs:List Value}(h:(fn.results.toList.mapM (EU tmps)).run P w=.ok rs w):(results fn tmps).run P w=.ok (Hi rs) w:=by
 have h1:∀f:ResultVar→Sem Value,(∀x,f x=EU tmps x)→(fn.results.mapM f).run P w=.ok rs.toArray w:=by
  intro f hf
  have:f=EU tmps:=funext hf
  subst this
  rw [Array.mapM_eq_mapM_toList]
  simp [h]
 unfold results
 rw [Sem.run_bind,h1 _ (fun x=>by cases x<;>rfl),Result.andThen_ok]
 match rs with
 | []=>rfl
 | [v]=>rfl
 | v::v2::r=>
  simp [Hi]
theorem FK (G:Good P E){ρ0:List Nat}{own0:OI→aH}{w0:World}{fn:AFunc}{fn':Func}{nw:Nat}(h:Rel E R ρ own N st a w)(hext:∀b B,nth ρ0 b=some B→nth ρ b=some B)(hnw:ρ0.length=nw)(hg:Grow own0 own w0 w)
 (hlt:jt fn.results N=true) (hres:fn'.results.toList=fn.results) {vs:List AV} {bs:List Block} (hr:ret E fn nw st=some (vs,bs)):
 ∃v,(results fn' a.tmps).run P w=.ok v w∧mn E R ρ0 own0 w0 vs bs (.returned v) w:=by
 unfold ret at hr
 obtain⟨vs0,st2,ρ2,own2,a2,rs,⟨stK,hK,hblk⟩,hA,hrel,hgrow,hext2,htail,hlen,hrun⟩:=wh G (tmps:=a.tmps) (M:=N) fn.results st st ρ own {a with tmps:=a.tmps++Array.replicate fn.results.length undef} [] [] _ _ (h.extend fn.results.length) hlt (by simp) (fun t ht=>⟨rfl,by
  have:t<a.tmps.size:=by rw [h.size];exact ht
  simp [Array.getD_eq_getD_getElem?,Array.getElem?_append_left this]⟩) rfl ⟨rfl,fun i h=>by simp at h,fun i h=>by simp at h⟩ hr
 simp only [List.nil_append]at htail
 refine⟨Hi rs,BN fn' _ (by rw [hres];exact hrun), ?_⟩
 rw [ul]at hK
 dsimp only at hK
 have hsel:(app (bE 0 nw) (lr (dQ stK.blk 1000 (app (gG (rJ fn.ownr vs0 0)) (gH (bA stK.blk nw))) []) nw)).Nodup:=
  vT (qL (jO _ _ _ _ (by simp))) fun x hx=>(mC hx).2
 have hfirst:∀b,b<nw→nth (app (bE 0 nw) (lr (dQ stK.blk 1000 (app (gG (rJ fn.ownr vs0 0)) (gH (bA stK.blk nw))) []) nw)) b=some b:=fun b hb=>by
  rw [ba,bj _ _ _ (by rw [dn];exact hb),fS hb,Nat.zero_add]
 generalize app (bE 0 nw) (lr (dQ stK.blk 1000 (app (gG (rJ fn.ownr vs0 0)) (gH (bA stK.blk nw))) []) nw)=sel at hK hsel hfirst
 split at hK
 · rename_i vs' bs' h1 h2
   simp only [Option.some.injEq,Prod.mk.injEq]at hK
   obtain⟨rfl,hbs⟩:=hK
   rw [hblk]at h2
   obtain⟨x1,x2⟩:=iU h1
   have hol:=zD fn.ownr vs0 0
   let own3:OI→aH:=fun
    | .tmp t p=>if t<vs0.length∧dF fn.ownr t=true then own2 (.tmp (N+t) p)else none
    | .self i=>match nth sel i with | some k=>own2 (.self k) | none=>none
    | .cell i j=>match nth sel i with | some k=>own2 (.cell k j) | none=>none
   have hsub:∀t p B s,own3 (.tmp t p)=some (B,s)→own2 (.tmp (N+t) p)=some (B,s):=fun t p B s e=>by
    simp only [own3]at e
    split at e
    · exact e
    · cases e
   have hall:∀x B s,own3 x=some (B,s)→∃y,own2 y=some (B,s):=fun x B s e=>by
    cases x with
    | tmp t p=>exact⟨_,hsub _ _ _ _ e⟩
    | self i=>simp only [own3]at e;split at e;exact⟨_,e⟩;cases e
    | cell i j=>simp only [own3]at e;split at e;exact⟨_,e⟩;cases e
   have hrel3:Rel E R (nf ρ2 sel) own3 rs.length ⟨zipFr vs' 0,bs'⟩ ⟨rs.toArray,[]⟩ w:=by
    refine hrel.pick hsel h2 (by simp) rfl ?_ ?_ (fun _=>rfl) (fun _ _=>rfl) (fun t p=> .tmp (N+t) p) (fun t p B s e=>⟨hsub _ _ _ _ e,fun k=>⟨by simp,fun j _=>by simp⟩⟩) (fun t p t' p' B s _ _ e=>by
     injection e with e1 e2
     have:t=t':=by omega
     rw [this,e2]) hrel.low ?_
    · rintro B off (hR | ⟨x,t,hx,ht⟩)
      · exact .inl hR
      · obtain⟨y,hy⟩:=hall _ _ _ hx
        exact .inr ⟨y,t,hy,ht⟩
    · intro t
      refine rW (o:=fun t p=>own3 (.tmp t p)) (by omega) (fun i g1 g2=> ?_) (fun i hi p=> ?_) t
      · have hi0:i<vs0.length:=by omega
        have hv:=hrel.fr (N+i)
        rw [htail.fr i hi0,htail.tmp i g2]at hv
        have hx:=x2 i (by omega) g1
        rw [Ac _ _ _ _ hi0 (by omega),Nat.zero_add]at hx
        cases hm:dF fn.ownr i with
        | true=>
         rw [hm]at hx
         have:(fun p=>own3 (.tmp i p))=fun p=>own2 (.tmp (N+i) p):=funext fun p=>by simp only [own3,hi0,hm,and_self,if_true]
         rw [this]
         exact hv.remap (fun b b' B=>fU b b' B) hx
        | false=>
         rw [hm]at hx
         have:(fun p=>own3 (.tmp i p))=fun p=>none:=funext fun p=>by simp [own3,hm]
         rw [this]
         exact hv.dis.remap (fun b b' B=>fU b b' B) hx
      · simp only [own3]
        rw [if_neg]
        omega
    · intro x B t hx
      obtain⟨y,hy⟩:=hall _ _ _ hx
      exact(hrel.out _ _ _ hy).2
   have hext3:∀b B,nth ρ0 b=some B→nth (nf ρ2 sel) b=some B:=fun b B hb=>by
    have:=dE hb
    exact ke (hfirst b (by omega)) (hext2 _ _ (hext _ _ hb))
   have hg3:Grow own0 own3 w0 w:=(hg.trans hgrow).trans (.refl _ _ _ fun x B t' hx=>by
    obtain⟨y,hy⟩:=hall _ _ _ hx
    exact⟨y,t',hy,Nat.le_refl _⟩)
   cases hob:fn.ownb with
   | true=>
    rw [hob]at hbs
    subst hbs
    exact⟨rs,_,own3,rfl,by omega,hext3,hrel3,hg3⟩
   | false=>
    rw [hob]at hbs
    subst hbs
    obtain⟨own4,k1,k2⟩:=hrel3.disBs
    exact⟨rs,_,own4,rfl,by omega,hext3,k2,hg3.trans (.of_sub k1)⟩
 · cases hK
end Go.Abs
namespace Go.Abs
variable {E:Env} {P:Program} {R:aG} {ρ:List Nat} {own:OI→aH} {N:Nat} {st:St} {a:Act} {w:World}
def gq :AItem→List Item
 | .code c _=> [.code c]
 | .inBlock id=> [.inBlock id]
 | .inLoop c _=> [.inLoop c]
 | .inScope c _=> [.inScope c]
 | .cut _=> []
def fk :List AItem→List Item
 | []=> []
 | x::k=>gq x++fk k
theorem kQ (m:Option (List (Nat×Bool)))(k:List AItem):fk (push m k)=fk k:=by cases m<;>rfl
def uQ (n:Nat):List Oper→Bool
 | []=>true
 | o::r=>(match o.dst with | none=>true | some d=>Nat.blt d n)&&uQ n r
def dr (n:Nat):Code→Bool
 | .region _ ops _=>uQ n ops.toList
 | .seq x y=>dr n x&&dr n y
 | .cond _ x y=>dr n x&&dr n y
 | .block _ x=>dr n x
 | .loop x=>dr n x
 | .scope x=>dr n x
 | _=>true
def tQ (n:Nat):AItem→Prop
 | .code c _=>dr n c=true
 | .inLoop c _=>dr n c=true
 | .inScope c _=>dr n c=true
 | _=>True
def hU (n:Nat)(k:List AItem):Prop:=∀x∈k,tQ n x
theorem wg {n:Nat}:∀{l:List Oper},uQ n l=true→∀o∈l,∀d,o.dst=some d→d<n
 | [],_,o,h=>by simp at h
 | p::r,h,o,hm=>by
  simp only [uQ,Bool.and_eq_true]at h
  intro d hd
  rcases List.mem_cons.1 hm with rfl | hm
  · rw [hd]at h;exact Nat.lt_of_succ_le (Nat.le_of_ble_eq_true h.1)
  · exact wg h.2 o hm d hd
theorem okStack_cons {n:Nat}{x:AItem}{k:List AItem}:hU n (x::k)↔tQ n x∧hU n k:=by
 unfold hU;simp
theorem iS {n:Nat}{m:Option (List (Nat×Bool))}{k:List AItem}:hU n (push m k)↔hU n k:=by
 cases m with
 | none=>rfl
 | some m=>simp only [push,okStack_cons,tQ,true_and]
theorem nF :∀(c:Code) (l:Nat),ib c l=findLabel c l
 | .seq x y,l=>by simp only [ib,findLabel,nF x l,nF y l];rfl
 | .label m,l=>by
  simp only [ib,findLabel]
  by_cases e:m=l
  · subst e;simp [co]
  · simp [dH e,e]
 | .skip,_=>rfl
 | .region _ _ _,_=>rfl
 | .cond _ _ _,_=>rfl
 | .block _ _,_=>rfl
 | .loop _,_=>rfl
 | .rangeFunc _ _ _ _,_=>rfl
 | .exit _,_=>rfl
 | .scope _,_=>rfl
 | .goto _,_=>rfl
 | .ret,_=>rfl
 | .refuse _,_=>rfl
theorem nT {n:Nat}:∀{c:Code} {l:Nat} {r:Code},ib c l=some r→dr n c=true→dr n r=true
 | .seq x y,l,r,h,hc=>by
  simp only [dr,Bool.and_eq_true]at hc
  simp only [ib]at h
  split at h
  · rename_i r' e
    cases h
    simp only [dr,Bool.and_eq_true]
    exact⟨nT e hc.1,hc.2⟩
  · exact nT h hc.2
 | .label m,l,r,h,hc=>by
  simp only [ib]at h
  cases hb:Nat.beq m l with
  | false=>rw [hb]at h;cases h
  | true=>rw [hb]at h;cases h;rfl
 | .skip,_,_,h,_=>by cases h
 | .region _ _ _,_,_,h,_=>by cases h
 | .cond _ _ _,_,_,h,_=>by cases h
 | .block _ _,_,_,h,_=>by cases h
 | .loop _,_,_,h,_=>by cases h
 | .rangeFunc _ _ _ _,_,_,h,_=>by cases h
 | .exit _,_,_,h,_=>by cases h
 | .scope _,_,_,h,_=>by cases h
 | .goto _,_,_,h,_=>by cases h
 | .ret,_,_,h,_=>by cases h
 | .refuse _,_,_,h,_=>by cases h
theorem gd {n id:Nat}:∀{k k':List AItem},Bk id k=some k'→exitTo id (fk k)=some (fk k')∧(hU n k→hU n k')
 | [],k',h=>by cases h
 | x::k,k',h=>by
  cases x with
  | inBlock i=>
   simp only [Bk]at h
   by_cases e:i=id
   · subst e
     simp only [co,cond_true,Option.some.injEq]at h
     subst h
     exact⟨by simp [fk,gq,exitTo],fun hk=>(okStack_cons.1 hk).2⟩
   · simp only [dH e,cond_false]at h
     obtain⟨h1,h2⟩:=gd (n:=n) h
     exact⟨by simpa [fk,gq,exitTo,e]using h1,fun hk=>h2 (okStack_cons.1 hk).2⟩
  | code c an=>obtain⟨h1,h2⟩:=gd (n:=n) (k:=k) h;exact⟨by simpa [fk,gq,exitTo]using h1,fun hk=>h2 (okStack_cons.1 hk).2⟩
  | inLoop c an=>obtain⟨h1,h2⟩:=gd (n:=n) (k:=k) h;exact⟨by simpa [fk,gq,exitTo]using h1,fun hk=>h2 (okStack_cons.1 hk).2⟩
  | inScope c an=>obtain⟨h1,h2⟩:=gd (n:=n) (k:=k) h;exact⟨by simpa [fk,gq,exitTo]using h1,fun hk=>h2 (okStack_cons.1 hk).2⟩
  | cut m=>obtain⟨h1,h2⟩:=gd (n:=n) (k:=k) h;exact⟨by simpa [fk,gq]using h1,fun hk=>h2 (okStack_cons.1 hk).2⟩
theorem gc {n l:Nat}:∀{k k':List AItem},AH l k=some k'→gotoIn l (fk k)=some (fk k')∧(hU n k→hU n k')
 | [],k',h=>by cases h
 | x::k,k',h=>by
  cases x with
  | inScope c an=>
   simp only [AH]at h
   simp only [fk,gq,List.singleton_append,gotoIn,←nF]
   split at h
   · rename_i r e
     cases h
     rw [e]
     refine⟨by simp [kQ,fk,gq],fun hk=> ?_⟩
     obtain⟨h1,h2⟩:=okStack_cons.1 hk
     rw [iS,okStack_cons,okStack_cons]
     exact⟨nT e h1,h1,h2⟩
   · rename_i e
     rw [e]
     obtain⟨h1,h2⟩:=gc (n:=n) h
     exact⟨h1,fun hk=>h2 (okStack_cons.1 hk).2⟩
  | code c an=>obtain⟨h1,h2⟩:=gc (n:=n) (k:=k) h;exact⟨by simpa [fk,gq,gotoIn]using h1,fun hk=>h2 (okStack_cons.1 hk).2⟩
  | inLoop c an=>obtain⟨h1,h2⟩:=gc (n:=n) (k:=k) h;exact⟨by simpa [fk,gq,gotoIn]using h1,fun hk=>h2 (okStack_cons.1 hk).2⟩
  | inBlock i=>obtain⟨h1,h2⟩:=gc (n:=n) (k:=k) h;exact⟨by simpa [fk,gq,gotoIn]using h1,fun hk=>h2 (okStack_cons.1 hk).2⟩
  | cut m=>obtain⟨h1,h2⟩:=gc (n:=n) (k:=k) h;exact⟨by simpa [fk,gq]using h1,fun hk=>h2 (okStack_cons.1 hk).2⟩
def Fin (P:Program)(E:Env)(R:aG)(ρ0:List Nat)(own0:OI→aH)(w0:World)(b:Frame)(cs:List Frame)(vs:List AV)(bs:List Block)(a:Act)(k:List Item)(w:World):Prop:=
 ∃v w' fr,Steps P (lone (b.at a k) cs w) (lone fr cs w')∧fr.fn=b.fn∧fr.leaving P w' (.returned v)∧mn E R ρ0 own0 w0 vs bs (.returned v) w'
section walk
variable {ρ0:List Nat} {own0:OI→aH} {w0:World} {b:Frame} {cs:List Frame} {vs:List AV} {bs:List Block}
theorem Fin.steps {a':Act}{k k':List Item}{w':World}(hs:Steps P (lone (b.at a k) cs w) (lone (b.at a' k') cs w'))(h:Fin P E R ρ0 own0 w0 b cs vs bs a' k' w'):Fin P E R ρ0 own0 w0 b cs vs bs a k w:=by
 obtain⟨v,w2,fr,h1,h2⟩:=h
 exact⟨v,w2,fr,hs.trans h1,h2⟩
def JOk (P:Program)(E:Env)(R:aG)(ρ0:List Nat)(own0:OI→aH)(w0:World)(b:Frame)(cs:List Frame)(N:Nat)(J:pd):Prop:=
 ∀(k:List AItem) (st:St) (vs:List AV) (bs:List Block),J k st=some (vs,bs)→hU N k→∀(ρ:List Nat) (own:OI→aH) (a:Act) (w:World),Rel E R ρ own N st a w→(∀b B,nth ρ0 b=some B→nth ρ b=some B)→Grow own0 own w0 w→
  Fin P E R ρ0 own0 w0 b cs vs bs a (fk k) w
theorem GO (G:Good P E)(hm:P.follows .mixedOrders=true){call:cQ}(hcall:fT P E call){fn:AFunc}{fn':Func}{nw:Nat}(hfn:P.funcs[b.fn]? =some fn')(hkind:b.kind=.normal)(hres:fn'.results.toList=fn.results)
 (hlt:jt fn.results N=true) (hnw:ρ0.length=nw) {J:pd} (hJ:JOk P E R ρ0 own0 w0 b cs N J):∀d,JOk P E R ρ0 own0 w0 b cs N (go E call fn nw J d):=by
 have hend:∀{a:Act} {k:List Item} {w:World} {st:St} {ρ:List Nat} {own:OI→aH} {vs:List AV} {bs:List Block},ret E fn nw st=some (vs,bs)→Rel E R ρ own N st a w→(∀b B,nth ρ0 b=some B→nth ρ b=some B)→Grow own0 own w0 w→
  step P (lone (b.at a k) cs w)=.next (lone {b.at a k with mode:=.returning} cs w)→Fin P E R ρ0 own0 w0 b cs vs bs a k w:=by
  intro a k w st ρ own vs bs hr h he hg hs
  obtain⟨v,h1,h2⟩:=FK G h he hnw hg hlt hres hr
  exact⟨v,w,_,.one hs,rfl,⟨rfl,h.defers,hkind,fn',hfn,h1⟩,h2⟩
 intro d
 induction d with
 | zero=>intro k st vs bs h;cases h
 | succ d ih=>
  intro k st vs bs h hk ρ own a w hrel hext hg
  cases k with
  | nil=>exact hend h hrel hext hg step_end
  | cons it k=>
   obtain⟨hit,hkk⟩:=okStack_cons.1 hk
   simp only [go]at h
   cases it with
   | cut m=>
    obtain⟨st1,ρ',own',h1,h2,h3,h4⟩:=By hrel h
    exact hJ k st1 vs bs h1 hkk ρ' own' a w h2 (fun b B hb=>h4 b B (by have:=dE hb;omega) (hext _ _ hb)) (hg.trans h3)
   | inBlock id=>exact(ih k st vs bs h hkk ρ own a w hrel hext hg).steps (.one step_inBlock)
   | inScope c an=>exact(ih k st vs bs h hkk ρ own a w hrel hext hg).steps (.one step_inScope)
   | inLoop c an=>
    refine Fin.steps (.one step_inLoop) ?_
    have:=ih _ st vs bs h (by rw [iS,okStack_cons,okStack_cons];exact⟨hit,hit,hkk⟩) ρ own a w hrel hext hg
    rw [kQ]at this
    exact this
   | code c an=>
    cases c with
    | skip=>exact(ih k st vs bs h hkk ρ own a w hrel hext hg).steps (.one step_skip)
    | label l=>exact(ih k st vs bs h hkk ρ own a w hrel hext hg).steps (.one step_label)
    | region id ops draw=>
     obtain⟨e,a',w',hq,harr⟩:=Fo (id:=id) G hm hcall (wg hit) hrel h (fun e a' w'=>match e with | .normal=>∃st1,go E call fn nw J d k st1=some (vs,bs)∧After E R ρ own N w st1 a' w' | _=>False) (fun st1 _ _ h1 h=>⟨st1,h1,h⟩) b (fk k) cs
     cases e<;>try exact hq.elim
     obtain⟨st1,h1,ρ',own',q1,q2,q3⟩:=hq
     exact Fin.steps harr (ih k st1 vs bs h1 hkk ρ' own' a' w' q2 (fun b B hb=>q1 _ _ (hext _ _ hb)) (hg.trans q3))
    | seq x y=>
     simp only [tQ,dr,Bool.and_eq_true]at hit
     refine Fin.steps (.one step_seq) ?_
     have:=ih _ st vs bs h (by rw [okStack_cons,iS,okStack_cons];exact⟨hit.1,hit.2,hkk⟩) ρ own a w hrel hext hg
     simp only [fk,kQ,gq,List.singleton_append]at this
     exact this
    | cond c x y=>
     simp only [tQ,dr,Bool.and_eq_true]at hit
     dsimp only at h
     have hc:=a9 hrel c
     split at h
     · rename_i t ht
       rw [ht]at hc
       have hc:=hc.dis
       simp only [AV.dis,AC.dis]at hc
       have hv:a.eval c=.bool t:=by
        generalize a.eval c=v at hc
        cases hc with | one _ _ _ hh _=>cases hh;rfl
       refine Fin.steps (.one (step_cond hv)) ?_
       cases t with
       | true=>exact ih (.code x an.fst::k) st vs bs h (okStack_cons.2 ⟨hit.1,hkk⟩) ρ own a w hrel hext hg
       | false=>exact ih (.code y an.snd::k) st vs bs h (okStack_cons.2 ⟨hit.2,hkk⟩) ρ own a w hrel hext hg
     · cases h
    | block id x=>
     refine Fin.steps (.one step_block) ?_
     exact ih _ st vs bs h (by rw [okStack_cons,okStack_cons];exact⟨hit,trivial,hkk⟩) ρ own a w hrel hext hg
    | loop x=>
     refine Fin.steps (.one step_loop) ?_
     have:=ih _ st vs bs h (by rw [iS,okStack_cons,okStack_cons];exact⟨hit,hit,hkk⟩) ρ own a w hrel hext hg
     rw [kQ]at this
     exact this
    | exit id=>
     dsimp only at h
     split at h
     · rename_i k' e
       obtain⟨e1,e2⟩:=gd (n:=N) e
       exact Fin.steps (.one (step_exit e1)) (ih k' st vs bs h (e2 hkk) ρ own a w hrel hext hg)
     · cases h
    | scope x=>
     refine Fin.steps (.one step_scope) ?_
     exact ih _ st vs bs h (by rw [okStack_cons,okStack_cons];exact⟨hit,hit,hkk⟩) ρ own a w hrel hext hg
    | goto l=>
     dsimp only at h
     split at h
     · rename_i k' e
       obtain⟨e1,e2⟩:=gc (n:=N) e
       exact Fin.steps (.one (step_goto e1)) (ih k' st vs bs h (e2 hkk) ρ own a w hrel hext hg)
     · cases h
    | ret=>exact hend h hrel hext hg step_ret
    | rangeFunc _ _ _ _=>cases h
    | refuse _=>cases h
theorem vz (G:Good P E)(hm:P.follows .mixedOrders=true){call:cQ}(hcall:fT P E call){fn:AFunc}{fn':Func}{nw:Nat}(hfn:P.funcs[b.fn]? =some fn')(hkind:b.kind=.normal)(hres:fn'.results.toList=fn.results)
 (hlt:jt fn.results N=true) (hnw:ρ0.length=nw):∀n,JOk P E R ρ0 own0 w0 b cs N (goF E call fn nw n)
 | 0=>fun _ _ _ _ h=>by cases h
 | n+1=>by
  have ih:=GO G hm hcall hfn hkind hres hlt hnw (vz G hm hcall hfn hkind hres hlt hnw n)
  intro k st vs bs h
  rw [pl]at h
  revert h
  generalize depth=d
  intro h
  exact ih d k st vs bs h
end walk
theorem ec {n m:Nat}(h:n≤m):∀{c:Code},dr n c=true→dr m c=true
 | .region id ops draw,hc=>by
  simp only [dr]at hc⊢
  have key:∀l:List Oper,uQ n l=true→uQ m l=true:=by
   intro l
   induction l with
   | nil=>intro;rfl
   | cons o r ih=>
    intro hl
    simp only [uQ,Bool.and_eq_true]at hl⊢
    refine⟨?_,ih hl.2⟩
    cases hd:o.dst with
    | none=>rfl
    | some d=>
     have h1:=hl.1
     rw [hd]at h1
     exact Nat.ble_eq_true_of_le (Nat.le_trans (Nat.le_of_ble_eq_true h1) h)
  exact key _ hc
 | .seq x y,hc=>by
  simp only [dr,Bool.and_eq_true]at hc⊢
  exact⟨ec h hc.1,ec h hc.2⟩
 | .cond _ x y,hc=>by
  simp only [dr,Bool.and_eq_true]at hc⊢
  exact⟨ec h hc.1,ec h hc.2⟩
 | .block _ x,hc=>ec (c:=x) h hc
 | .loop x,hc=>ec (c:=x) h hc
 | .scope x,hc=>ec (c:=x) h hc
 | .skip,_=>rfl
 | .rangeFunc _ _ _ _,_=>rfl
 | .exit _,_=>rfl
 | .label _,_=>rfl
 | .goto _,_=>rfl
 | .ret,_=>rfl
 | .refuse _,_=>rfl
theorem nC {n m:Nat}(h:n≤m):∀{l:List ResultVar},jt l n=true→jt l m=true
 | [],_=>rfl
 | .tmp t::r,hl=>by
  simp only [jt,Bool.and_eq_true]at hl⊢
  exact⟨Nat.ble_eq_true_of_le (Nat.le_trans (Nat.le_of_ble_eq_true hl.1) h),nC h hl.2⟩
 | .cell t _::r,hl=>by
  simp only [jt,Bool.and_eq_true]at hl⊢
  exact⟨Nat.ble_eq_true_of_le (Nat.le_trans (Nat.le_of_ble_eq_true hl.1) h),nC h hl.2⟩
structure CodeOk (P:Program) (f:FuncId) (fn:AFunc):Prop where
 form : ∃ fn', P.funcs[f]? = some fn' ∧ fn'.name ≠ "runtime.NumGoroutine" ∧ fn'.body = some fn.code ∧ fn'.results.toList = fn.results ∧ dr fn'.ntmps fn.code = true ∧ jt fn.results fn'.ntmps = true
def sd (P:Program)(E:Env)(f:FuncId)(g:List AV→List Block→Option (List AV×List Block)):Prop:=
 ∀args blk vs bs,g args blk=some (vs,bs)→oM P f∧∀(R:aG) (ρ:List Nat) (own:OI→aH) (vals:List Value) (w:World),vals.length=args.length→(∀t p,own (.tmp t p)=none)→Rel E R ρ own vals.length ⟨zipFr args 0,blk⟩ ⟨vals.toArray,[]⟩ w→
  Calls P f vals.toArray w (mn E R ρ own w vs bs)
structure FuncsOk (P:Program) (E:Env):Prop where
 code:∀f sg fn,E.funcs f=some (sg,.code fn)→CodeOk P f fn
 prim:∀f sg g,E.funcs f=some (sg,.prim g)→sd P E f g
theorem ub (ownp:List Nat):∀(ts:List TypeId) (vs:List AV) (i t:Nat),(∃v ty,(nth vs (t - i)=some v∧i≤t)∧get (qD E ownp ts vs i) t=cond (dF ownp (1000000+t)) v.dis (cond (dF ownp t) (E.fit ty v) (E.fit ty v.dis)))∨get (qD E ownp ts vs i) t=.undef
 | [],_,_,_=> .inr rfl
 | _::_,[],_,_=> .inr rfl
 | ty::ts,v::vs,i,t=>by
  simp only [qD,get]
  by_cases e:i=t
  · subst e
    simp only [co,cond_true]
    exact .inl ⟨v,ty,⟨by simp [nth],Nat.le_refl _⟩,rfl⟩
  · simp only [dH e,cond_false]
    rcases ub ownp ts vs (i+1) t with⟨v',ty',⟨h1,h2⟩,h3⟩ | h
    · refine .inl ⟨v',ty',⟨?_,by omega⟩,h3⟩
      have:t - i=(t - (i+1))+1:=by omega
      rw [this];exact h1
    · exact .inr h
theorem CY (G:Good P E)(hm:P.follows .mixedOrders=true)(hF:FuncsOk P E){call:cQ}(hcall:fT P E call)(n:Nat):fT P E (fun f args blk=>zm (aj E call n f args blk)):=by
 intro f args blk vs bs h
 replace h:=Ba h
 unfold aj at h
 cases hf:E.funcs f with
 | none=>rw [hf]at h;cases h
 | some x=>
  obtain⟨sg,fd⟩:=x
  rw [hf]at h
  cases fd with
  | prim g=>exact hF.prim f sg g hf args blk vs bs h
  | code fn=>
   dsimp only at h
   cases hlen:Nat.beq (bI args) (bI fn.params)with
   | false=>rw [hlen]at h;cases h
   | true=>
    rw [hlen]at h
    simp only [cond_true]at h
    obtain⟨fn',h1,h2,h3,h4,h5,h6⟩:=(hF.code f sg fn hf).form
    refine⟨⟨fn',h1,h2,by simp [h3]⟩,fun R ρ own vals w hv hown hrel=> ?_⟩
    intro cs
    let b:Frame:={(default:Frame)with fn:=f,kind:=.normal}
    have henter:Frame.enter P f vals.toArray .normal=b.at {tmps:=vals.toArray++Array.replicate (fn'.ntmps - vals.toArray.size) undef,defers:=[]} [.code fn.code]:=by
     simp [Frame.enter,Frame.at,h1,h3,b]
    have hext:=hrel.extend (fn'.ntmps - vals.toArray.size)
    have hle:fn'.ntmps≤vals.length+(fn'.ntmps - vals.toArray.size):=by simp;omega
    have hrel1:Rel E R ρ own (vals.length+(fn'.ntmps - vals.toArray.size)) ⟨qD E fn.ownp fn.params args 0,blk⟩ {tmps:=vals.toArray++Array.replicate (fn'.ntmps - vals.toArray.size) undef,defers:=[]} w:=by
     refine⟨hext.size,hext.defers,fun t=> ?_,hext.rho,hext.blk,hext.inj,hext.out,hext.low⟩
     have hon:(fun p=>own (.tmp t p))=fun _=>none:=funext fun p=>hown t p
     rcases ub (E:=E) fn.ownp fn.params args 0 t with⟨v,ty,⟨e1,_⟩,e2⟩ | e
     · rw [e2]
       have ht:=hext.fr t
       have hz:get (zipFr args 0) t=v:=by rw [ov];simp at e1;rw [e1];rfl
       dsimp only at ht
       rw [hz]at ht
       cases dF fn.ownp (1000000+t)with
       | true=>rw [hon];exact ht.dis
       | false=>
       cases dF fn.ownp t with
       | true=>exact fC ht
       | false=>rw [hon];exact fC ht.dis
     · rw [e];exact .undef _ _ fun p=>hown t p
    have hnb:ρ.length=bI blk:=by rw [bq];exact hrel.rho
    have:=vz (b:=b) (cs:=cs) (ρ0:=ρ) (own0:=own) (w0:=w) (R:=R) G hm hcall (fn:=fn) (fn':=fn') h1 rfl h4 (nC hle h6) hnb n _ _ vs bs h (by
     intro x hx
     simp only [List.mem_singleton]at hx
     subst hx
     exact ec hle h5) ρ own _ w hrel1 (fun _ _ h=>h) (.refl _ _ _ fun x B t hx=>⟨x,t,hx,Nat.le_refl _⟩)
    obtain⟨v,w',fr,k1,k2,k3,k4⟩:=this
    refine⟨.returned v,w',fr,k4, ?_,k2,k3⟩
    rw [henter]
    exact k1
theorem xa (G:Good P E)(hm:P.follows .mixedOrders=true)(hF:FuncsOk P E):∀n,fT P E (run E n)
 | 0=>fun _ _ _ _ _ h=>by cases h
 | n+1=>fun f args blk vs bs h=>CY G hm hF (xa G hm hF n) n f args blk vs bs h
end Go.Abs
namespace Go.Abs
variable {E:Env} {P:Program} {W:World} {H:Type} {enc:TypeId×Value→H}
inductive Cell.Wf (E:Env):Cell→Prop
 | int (k:IntKind) (n:Int) (h:(Lit.int k n).wf=true):Cell.Wf E (.int k n)
 | bool (b:Bool):Cell.Wf E (.bool b)
 | str (s:List UInt8) (h:s.length≤maxLen):Cell.Wf E (.str s)
 | slice (e:TypeId) (rows:Rows) (te:Ty) (he:E.tys e=some te) (hk:∀r∈rows,r.map Cell.kind=te.kinds) (hl:rows.length≤maxLen) (h:∀r∈rows,∀c∈r,Cell.Wf E c):Cell.Wf E (.slice e rows)
def ei :List CK→List CK→Bool
 | [],[]=>true
 | j::r,k::s=>CK.same j k&&ei r s
 | _,_=>false
theorem dw :∀{x y:List CK},ei x y=true→x=y
 | [],[],_=>rfl
 | [],_::_,h=>by simp [ei]at h
 | _::_,[],h=>by simp [ei]at h
 | j::r,k::s,h=>by
  simp only [ei,Bool.and_eq_true]at h
  rw [mS h.1,dw h.2]
def zP (E:Env):List (Nat×TypeId)→Nat→List CK→Bool
 | [],_,ks=>ei ks []
 | (off,t)::r,o,ks=>Nat.beq off o&&(match E.tys t with
  | some ty=>ei ty.kinds (bA ks ty.size)&&zP E r (o+ty.size) (ag ks ty.size)
  | none=>false)
mutual
/-- a type of plain data -/
def gl (E:Env):Nat→TypeId→Bool
 | 0,_=>false
 | n+1,t=>match E.tys t with
  | some ty=>match ty.desc with
   | .int _=>true
   | .bool=>true
   | .str=>true
   | .slice e=>gl E n e
   | .struct fs=>zP E fs 0 ty.kinds&&oJ E n fs
   | _=>false
  | none=>false
def oJ (E:Env):Nat→List (Nat×TypeId)→Bool
 | _,[]=>true
 | 0,_=>false
 | n+1,(_,t)::r=>gl E n t&&oJ E n r
end
def sI (W W':World):Prop:=∀B off v,cell W B off=some v→cell W' B off=some v
theorem cells?_stays {W':World}(hs:sI W W'){a:Addr}{n:Nat}{cs:List Value}(h:W.cells? 0 a n=some cs):W'.cells? 0 a n=some cs:=by
 unfold World.cells? at h⊢
 rw [if_pos (Nat.zero_le _)]at h⊢
 refine mapM_mono (fun i v hv=> ?_) h
 have hsp:=World.cell?_spot hv
 generalize a.add i=b at hv hsp
 obtain⟨B,off,sp⟩:=b
 simp only at hsp
 subst hsp
 exact hs B off v hv
theorem cells?_lt {a:Addr}{n:Nat}{cs:List Value}(h:W.cells? 0 a n=some cs)(hn:0<n):a.block<W.heap.size:=World.cells?_block h hn
mutual
/-- how much a cell holds -/
def oG :Cell→Nat
 | .str s=>s.length+1
 | .slice _ rows=>gX rows+1
 | _=>1
def gL :List Cell→Nat
 | []=>0
 | c::r=>oG c+gL r
def gX :RL→Nat
 | []=>0
 | r::rs=>gL r+gX rs
end
theorem wc :∀(x y:Row),gL (x++y)=gL x+gL y
 | [],y=>by simp [gL]
 | c::r,y=>by simp [gL,wc r y];omega
structure Bulk (B:DataW H→Nat) (BA:List (DataW H)→Nat):Prop where
 int:∀k n,1≤B (.lit (.int k n))
 bool:∀b,1≤B (.lit (.bool b))
 str:∀b,b.length+1≤B (.lit (.string b))
 nil:1≤B .nil
 slice:∀x y,BA x+1≤B (.slice x y)
 agg:∀x,BA x≤B (.agg x)
 cons:∀d r,B d+BA r≤BA (d::r)
def GT (E:Env)(enc:TypeId×Value→H)(P:Program)(W:World)(fuel:Nat)(t:TypeId)(cs:List Value)(ks:List CK)(x:DataW H×List MemPlace):Prop:=
 ∃row:Row,row.map Cell.kind=ks∧row.length=cs.length∧(∀(i:Nat) (h1:i<row.length) (h2:i<cs.length),CR E W (fun _ _=>False) row[i] cs[i])∧(∀c∈row,Cell.Wf E c)∧(∀(B:DataW H→Nat) (BA:List (DataW H)→Nat),Bulk B BA→gL row≤B x.1)∧
  ∀(W':World) (sp:Nat→Bool),sI W W'→(∀b,b<W.heap.size→sp b=true)→DataW.trod enc P W' 0 sp true fuel t cs=some x
theorem kT {row:Row}{ks:List CK}(h:row.map Cell.kind=ks):row.length=ks.length:=by rw [←h];simp
theorem qK (G:Good P E){fuel:Nat}{cs:List Value}:∀(fs:List Field) (o:Nat) (ks:List CK) (n:Nat) (xs:List (DataW H×List MemPlace)),
 (∀n t ty cs x,E.tys t=some ty→gl E n t=true→DataW.trod enc P W 0 (fun _=>true) true fuel t cs=some x→GT E enc P W fuel t cs ty.kinds x)→
 zP E (fs.map fun f=>(f.offset,f.type)) o ks=true→oJ E n (fs.map fun f=>(f.offset,f.type))=true→o+ks.length=cs.length→
 (fs.mapM fun f=>DataW.trod enc P W 0 (fun _=>true) true fuel f.type ((cs.drop f.offset).take (P.cellsOf f.type)))=some xs→
 ∃row:Row,row.map Cell.kind=ks∧(∀(i:Nat) (h1:i<row.length) (h2:o+i<cs.length),CR E W (fun _ _=>False) row[i] cs[o+i])∧(∀c∈row,Cell.Wf E c)∧(∀(B:DataW H→Nat) (BA:List (DataW H)→Nat),Bulk B BA→gL row≤BA (xs.map (·.1)))∧
  ∀(W':World) (sp:Nat→Bool),sI W W'→(∀b,b<W.heap.size→sp b=true)→(fs.mapM fun f=>DataW.trod enc P W' 0 sp true fuel f.type ((cs.drop f.offset).take (P.cellsOf f.type)))=some xs
 | [],o,ks,n,xs,hrec,ht,hp,hl,hx=>by
  simp only [List.map_nil,zP]at ht
  have:=dw ht
  subst this
  refine⟨[],rfl,fun i h1=>by simp at h1,fun c hc=>by simp at hc,fun _ _ _=>by simp [gL],fun _ _ _ _=>by simpa using hx⟩
 | f::fs,o,ks,0,xs,hrec,ht,hp,hl,hx=>by simp [oJ]at hp
 | f::fs,o,ks,n+1,xs,hrec,ht,hp,hl,hx=>by
  simp only [List.map_cons,zP,Bool.and_eq_true]at ht
  simp only [List.map_cons,oJ,Bool.and_eq_true]at hp
  obtain⟨ho,ht⟩:=ht
  have ho:=Nat.eq_of_beq_eq_true ho
  cases hty:E.tys f.type with
  | none=>rw [hty]at ht;cases ht
  | some ty=>
   rw [hty]at ht
   simp only [Bool.and_eq_true]at ht
   obtain⟨hk,ht⟩:=ht
   have hk:=dw hk
   rw [aN]at ht
   rw [bp]at hk
   have hT:=G.ty _ _ hty
   have hsz:P.cellsOf f.type=ty.size:=by
    obtain⟨i,z,h1,h2,_⟩:=hT.info
    simp [Program.cellsOf,h1,h2]
   have hks:ty.size≤ks.length:=by
    have:=congrArg List.length hk
    rw [hT.len,List.length_take]at this
    omega
   rw [List.mapM_cons]at hx
   cases h1:DataW.trod enc P W 0 (fun _=>true) true fuel f.type ((cs.drop f.offset).take (P.cellsOf f.type))with
   | none=>rw [h1]at hx;cases hx
   | some y=>
    rw [h1]at hx
    cases h2:fs.mapM fun f=>DataW.trod enc P W 0 (fun _=>true) true fuel f.type ((cs.drop f.offset).take (P.cellsOf f.type))with
    | none=>rw [h2]at hx;cases hx
    | some ys=>
     rw [h2]at hx
     have hx:xs=y::ys:=(Option.some.inj hx).symm
     obtain⟨row,r1,r2,r3,r4,rb,r5⟩:=hrec n f.type ty _ y hty hp.1 h1
     obtain⟨row',q1,q2,q3,qb,q4⟩:=qK G fs (o+ty.size) (ks.drop ty.size) n ys hrec ht hp.2 (by simp;omega) h2
     have hrl:row.length=ty.size:=by rw [kT r1,hT.len]
     refine⟨row++row', ?_,fun i g1 g2=> ?_,fun c hc=> ?_,fun B BA hB=> ?_,fun W' sp hs hsp=> ?_⟩
     · rw [List.map_append,r1,q1,hk,List.take_append_drop]
     · by_cases hi:i<row.length
       · rw [List.getElem_append_left hi]
         have:=r3 i hi (by rw [←r2];exact hi)
         simp only [List.getElem_take,List.getElem_drop,ho]at this
         exact this
       · rw [List.getElem_append_right (by omega)]
         have:=q2 (i - row.length) (by simp at g1;omega) (by omega)
         have e:o+ty.size+(i - row.length)=o+i:=by omega
         simp only [e]at this
         exact this
     · rcases List.mem_append.1 hc with hc | hc
       · exact r4 c hc
       · exact q3 c hc
     · have h1:=rb B BA hB
       have h2:=qb B BA hB
       have h3:=hB.cons y.1 (ys.map (·.1))
       rw [wc,hx]
       simp only [List.map_cons]
       omega
     · rw [List.mapM_cons,r5 W' sp hs hsp,q4 W' sp hs hsp,hx]
       rfl
theorem sc {fuel:Nat}{e:TypeId}{te:Ty}{a:Addr}(hpos:0<te.size)(hlen:te.kinds.length=te.size)(hsz:P.cellsOf e=te.size)
 (hrec:∀cs x,DataW.trod enc P W 0 (fun _=>true) true fuel e cs=some x→GT E enc P W fuel e cs te.kinds x):∀(n k:Nat) (xs:List (DataW H×List MemPlace)),
 ((List.range' k n).mapM fun i=>(W.cells? 0 (a.add (i*P.cellsOf e)) (P.cellsOf e)).bind (DataW.trod enc P W 0 (fun _=>true) true fuel e))=some xs→
 ∃rows:Rows,rows.length=n∧(∀r∈rows,r.map Cell.kind=te.kinds)∧(∀r∈rows,∀c∈r,Cell.Wf E c)∧
  (∀(i j:Nat) (hi:i<rows.length) (hj:j<rows[i].length),∃v,W.cell? (a.add ((k+i)*te.size+j))=some v∧CR E W (fun _ _=>False) rows[i][j] v)∧(∀(B:DataW H→Nat) (BA:List (DataW H)→Nat),Bulk B BA→gX rows≤BA (xs.map (·.1)))∧
  ∀(W':World) (sp:Nat→Bool),sI W W'→(∀b,b<W.heap.size→sp b=true)→((List.range' k n).mapM fun i=>(W'.cells? 0 (a.add (i*P.cellsOf e)) (P.cellsOf e)).bind (DataW.trod enc P W' 0 sp true fuel e))=some xs
 | 0,k,xs,h=>⟨[],rfl,fun r hr=>by simp at hr,fun r hr=>by simp at hr,fun i j hi=>by simp at hi,fun _ _ _=>by simp [gX],fun _ _ _ _=>by simpa using h⟩
 | n+1,k,xs,h=>by
  rw [List.range'_succ,List.mapM_cons]at h
  cases h1:W.cells? 0 (a.add (k*P.cellsOf e)) (P.cellsOf e)with
  | none=>rw [h1]at h;cases h
  | some cs=>
   rw [h1,Option.bind_some]at h
   cases h2:DataW.trod enc P W 0 (fun _=>true) true fuel e cs with
   | none=>rw [h2]at h;cases h
   | some y=>
    rw [h2]at h
    cases h3:(List.range' (k+1) n).mapM fun i=>(W.cells? 0 (a.add (i*P.cellsOf e)) (P.cellsOf e)).bind (DataW.trod enc P W 0 (fun _=>true) true fuel e)with
    | none=>rw [h3]at h;cases h
    | some ys=>
     rw [h3]at h
     have hx:xs=y::ys:=(Option.some.inj h).symm
     obtain⟨row,r1,r2,r3,r4,rb,r5⟩:=hrec cs y h2
     obtain⟨rows,q1,q2,q3,q4,qb,q5⟩:=sc hpos hlen hsz hrec n (k+1) ys h3
     obtain⟨_,c2,c3⟩:=World.cells?_some h1
     refine⟨row::rows,by simp [q1],fun r hr=> ?_,fun r hr=> ?_,fun i j hi hj=> ?_,fun B BA hB=> ?_,fun W' sp hs hsp=> ?_⟩
     · rcases List.mem_cons.1 hr with rfl | hr
       · exact r1
       · exact q2 r hr
     · rcases List.mem_cons.1 hr with rfl | hr
       · exact r4
       · exact q3 r hr
     · cases i with
       | zero=>
        simp only [List.getElem_cons_zero]at hj⊢
        have hjc:j<cs.length:=by omega
        refine⟨cs[j], ?_,r3 j hj hjc⟩
        have:=c3 j (by rw [←c2];exact hjc)
        rw [List.getElem?_eq_getElem hjc]at this
        rw [←this,hsz]
        simp only [Addr.add_add,Nat.add_zero]
       | succ i=>
        simp only [List.getElem_cons_succ]at hj⊢
        have:=q4 i j (by simpa using hi) hj
        rwa [show k+1+i=k+(i+1)by omega]at this
     · have h1:=rb B BA hB
       have h2:=qb B BA hB
       have h3:=hB.cons y.1 (ys.map (·.1))
       rw [hx]
       simp only [List.map_cons,gX]
       omega
     · rw [List.range'_succ,List.mapM_cons,cells?_stays hs h1,Option.bind_some,r5 W' sp hs hsp,q5 W' sp hs hsp,hx]
       rfl
theorem Fq {e t:TypeId}{fuel:Nat}{cs:List Value}{x:DataW H×List MemPlace}{sp:Nat→Bool}(hu:P.underlying t=some (.slice e))(h:DataW.trod enc P W 0 sp true (fuel+1) t cs=some x):
 (cs=[.slice none 0 0]∧x=(.nil,[]))∨∃(a:Addr) (len cap:Nat) (elems rest:List (DataW H×List MemPlace)),cs=[.slice (some a) len cap]∧len≤cap∧cap≤maxLen∧
  x=(.slice (elems.map (·.1)) (rest.map (·.1)),MemPlace.row a ((elems.length+rest.length)*P.cellsOf e)++(elems++rest).flatMap (·.2))∧
  (List.range len).mapM (fun i=>(W.cells? 0 (a.add (i*P.cellsOf e)) (P.cellsOf e)).bind (DataW.trod enc P W 0 sp true fuel e))=some elems∧
  (if sp a.block then(List.range (cap - len)).mapM fun j=>(W.cells? 0 (a.add ((len+j)*P.cellsOf e)) (P.cellsOf e)).bind (DataW.trod enc P W 0 sp true fuel e)else some [])=some rest:=by
 rw [DataW.trod_step]at h
 unfold DataW.trodStep at h
 rw [hu]at h
 split at h<;>simp_all
 simp only [Option.bind_eq_some_iff,Option.map_eq_some_iff]at h
 obtain⟨⟨hl,hc⟩,elems,he,rest,hr,hd⟩:=h
 exact⟨_,_,_,⟨rfl,rfl,rfl⟩,hl,hc,elems,rest,hd.symm,he,hr⟩
theorem Gk {e t:TypeId}{fuel:Nat}{sp:Nat→Bool}{a:Addr}{len cap:Nat}{elems rest:List (DataW H×List MemPlace)}(hu:P.underlying t=some (.slice e))(hl:len≤cap)(hc:cap≤maxLen)
 (he:(List.range len).mapM (fun i=>(W.cells? 0 (a.add (i*P.cellsOf e)) (P.cellsOf e)).bind (DataW.trod enc P W 0 sp true fuel e))=some elems)
 (hr:(if sp a.block then(List.range (cap - len)).mapM fun j=>(W.cells? 0 (a.add ((len+j)*P.cellsOf e)) (P.cellsOf e)).bind (DataW.trod enc P W 0 sp true fuel e)else some [])=some rest):
 DataW.trod enc P W 0 sp true (fuel+1) t [.slice (some a) len cap]=some (.slice (elems.map (·.1)) (rest.map (·.1)),MemPlace.row a ((elems.length+rest.length)*P.cellsOf e)++(elems++rest).flatMap (·.2)):=by
 rw [DataW.trod_step]
 unfold DataW.trodStep
 rw [hu]
 simp only
 rw [if_pos ⟨Nat.zero_le _,hl,hc⟩,he,Option.bind_some,hr]
 rfl
theorem BI {t:TypeId}{fs:Array Field}{fuel:Nat}{cs:List Value}{x:DataW H×List MemPlace}{sp:Nat→Bool}(hu:P.underlying t=some (.struct fs))(h:DataW.trod enc P W 0 sp true (fuel+1) t cs=some x):
 cs.length=P.cellsOf t∧∃xs,(fs.toList.mapM fun f=>DataW.trod enc P W 0 sp true fuel f.type ((cs.drop f.offset).take (P.cellsOf f.type)))=some xs∧x=(.agg (xs.map (·.1)),xs.flatMap (·.2)):=by
 rw [DataW.trod_step]at h
 unfold DataW.trodStep at h
 rw [hu]at h
 split at h<;>simp_all
 obtain⟨hl,xs,h1,h2⟩:=h
 exact⟨xs,h1,h2.symm⟩
theorem FM {t:TypeId}{fs:Array Field}{fuel:Nat}{cs:List Value}{xs:List (DataW H×List MemPlace)}{sp:Nat→Bool}(hu:P.underlying t=some (.struct fs))(hl:cs.length=P.cellsOf t)
 (h:(fs.toList.mapM fun f=>DataW.trod enc P W 0 sp true fuel f.type ((cs.drop f.offset).take (P.cellsOf f.type)))=some xs):DataW.trod enc P W 0 sp true (fuel+1) t cs=some (.agg (xs.map (·.1)),xs.flatMap (·.2)):=by
 rw [DataW.trod_step]
 unfold DataW.trodStep
 rw [hu]
 split<;>simp_all
theorem CG (G:Good P E):∀(fuel n:Nat) (t:TypeId) (ty:Ty) (cs:List Value) (x:DataW H×List MemPlace),E.tys t=some ty→gl E n t=true→
 DataW.trod enc P W 0 (fun _=>true) true fuel t cs=some x→GT E enc P W fuel t cs ty.kinds x:=by
 intro fuel
 induction fuel with
 | zero=>intro n t ty cs x _ _ h;simp [DataW.trod]at h
 | succ fuel ih=>
  intro n t ty cs x ht hp h
  cases n with
  | zero=>simp [gl]at hp
  | succ n=>
   have hT:=G.ty t ty ht
   obtain⟨d,hu,hD⟩:=hT.desc
   rw [gl,ht]at hp
   dsimp only at hp
   have hsz:∀t ty,E.tys t=some ty→P.cellsOf t=ty.size:=fun t ty ht=>by
    obtain⟨i,z,h1,h2,_⟩:=(G.ty t ty ht).info
    simp [Program.cellsOf,h1,h2]
   unfold eY at hD
   cases hd:ty.desc with
   | int k=>
    rw [hd]at hD
    cases d<;>simp only at hD
    obtain⟨rfl,hks⟩:=hD
    obtain⟨m,rfl,rfl,hw⟩:=DataW.trod_int hu h
    refine⟨[.int k m],by rw [hks];rfl,rfl,fun i h1 h2=> ?_,fun c hc=> ?_,fun B BA hB=>by simpa [gL,oG]using hB.int k m,fun W' sp _ _=> ?_⟩
    · cases i with
      | zero=>exact .int _ _
      | succ i=>simp at h1
    · simp only [List.mem_singleton]at hc;subst hc;exact .int _ _ hw
    · exact ChangeShapes.trod_int_mk _ hu hw
   | bool=>
    rw [hd]at hD
    cases d<;>simp only at hD
    obtain⟨b,rfl,rfl⟩:=DataW.trod_bool hu h
    refine⟨[.bool b],by rw [hD];rfl,rfl,fun i h1 h2=> ?_,fun c hc=> ?_,fun B BA hB=>by simpa [gL,oG]using hB.bool b,fun W' sp _ _=>by simp [DataW.trod,hu]⟩
    · cases i with
      | zero=>exact .bool _
      | succ i=>simp at h1
    · simp only [List.mem_singleton]at hc;subst hc;exact .bool _
   | str=>
    rw [hd]at hD
    cases d<;>simp only at hD
    obtain⟨b,rfl,rfl,hb⟩:=DataW.trod_string hu h
    refine⟨[.str b.data.toList],by rw [hD];rfl,rfl,fun i h1 h2=> ?_,fun c hc=> ?_,fun B BA hB=>by simpa [gL,oG]using hB.str b.data.toList,fun W' sp _ _=>by simp [DataW.trod,hu,hb]⟩
    · cases i with
      | zero=>
       have:b=⟨b.data.toList.toArray⟩:=by simp
       conv=>arg 5;rw [List.getElem_cons_zero,this]
       exact .str _
      | succ i=>simp at h1
    · simp only [List.mem_singleton]at hc;subst hc;exact .str _ (by simpa using hb)
   | slice e=>
    rw [hd]at hD hp
    cases d<;>simp only at hD
    obtain⟨rfl,hks⟩:=hD
    dsimp only at hp
    have hone:∀{c:Cell} {v:Value},CR E W (fun _ _=>False) c v→∀(i:Nat) (h1:i< [c].length) (h2:i< [v].length),CR E W (fun _ _=>False) [c][i] [v][i]:=fun hc i h1 h2=>by
     cases i with
     | zero=>exact hc
     | succ i=>simp at h1
    obtain⟨te,hte⟩:∃te,E.tys e=some te:=by
     cases n with
     | zero=>simp [gl]at hp
     | succ n=>
      rw [gl]at hp
      cases hte:E.tys e with
      | none=>rw [hte]at hp;cases hp
      | some te=>exact⟨te,rfl⟩
    rcases Fq hu h with⟨rfl,rfl⟩ | ⟨a,len,cap,elems,rest,rfl,hl,hc,rfl,he,hr⟩
    · refine⟨[.slice e []],by rw [hks];rfl,rfl,hone (.empty _ _ _),fun c hc=> ?_,fun B BA hB=>by simpa [gL,oG,gX]using hB.nil,fun W' sp _ _=>by simp [DataW.trod,hu]⟩
      simp only [List.mem_singleton]at hc;subst hc
      exact .slice e [] te hte (fun r hr=>by simp at hr) (by simp) (fun r hr=>by simp at hr)
    · simp only [if_true]at hr
      have hTe:=G.ty e te hte
      have hpos:=hTe.pos
      have hszE:=hsz e te hte
      have hrec:=fun cs x=>ih n e te cs x hte hp
      rw [List.range_eq_range']at he hr
      obtain⟨rows,q1,q2,q3,q4,qb,q5⟩:=sc (a:=a) hpos hTe.len hszE hrec len 0 elems he
      have hev:us te.size rows:=fun r hr=>by rw [kT (q2 r hr),hTe.len]
      refine⟨[.slice e rows],by rw [hks];rfl,rfl,hone ?_,fun c hc=> ?_,fun B BA hB=> ?_,fun W' sp hs hsp=> ?_⟩
      · cases rows with
        | nil=>simp only [List.length_nil]at q1;subst q1;exact .empty _ _ _
        | cons r0 rs=>
         have hr0:0<r0.length:=by rw [hev r0 (by simp)];omega
         have hspot:a.spot=none:=by
          obtain⟨v,hv,_⟩:=q4 0 0 (by simp) (by simpa using hr0)
          have:=World.cell?_spot hv
          simpa [Addr.add]using this
         obtain⟨B,off,sp⟩:=a
         simp only at hspot
         subst hspot
         have key:∀i,i<(r0::rs).flatten.length→∃v,cell W B (off+i)=some v∧∀h:i<(r0::rs).flatten.length,CR E W (fun _ _=>False) (r0::rs).flatten[i] v:=fun i hi=>by
          have hfl:=bJ hev
          have h1:i / te.size<(r0::rs).length:=by
           rw [hfl]at hi
           exact Nat.div_lt_of_lt_mul (by rw [Nat.mul_comm];exact hi)
          have h2:i%te.size<te.size:=Nat.mod_lt _ hpos
          obtain⟨g1,g2,g3⟩:=gv hev h1 h2
          obtain⟨v,hv,hcr⟩:=q4 (i / te.size) (i%te.size) h1 g2
          have hi':i / te.size*te.size+i%te.size=i:=by rw [Nat.mul_comm];exact Nat.div_add_mod i te.size
          refine⟨v, ?_,fun h=> ?_⟩
          · rw [Nat.zero_add,hi']at hv
            have ha:(⟨B,off,none⟩:Addr).add i=⟨B,off+i,none⟩:=by
             unfold Addr.add
             split
             · rename_i e0;subst e0;rfl
             · rfl
            rw [ha]at hv
            exact hv
          · have:(r0::rs).flatten[i]=(r0::rs).flatten[i / te.size*te.size+i%te.size]'(by rw [hi'];exact h):=by congr 1;exact hi'.symm
            rw [this,g3]
            exact hcr
         rw [←q1]
         exact .slice e (r0::rs) te B off cap (fun i=>(cell W B (off+i)).getD undef) hte q2 (by omega) (fun i hi=>by
          obtain⟨v,hv,_⟩:=key i hi
          rw [hv];exact⟨rfl,id⟩) (fun i hi=>by
          obtain⟨v,hv,h2⟩:=key i hi
          rw [hv];exact h2 hi)
      · simp only [List.mem_singleton]at hc;subst hc
        exact .slice e rows te hte q2 (by omega) q3
      · have h1:=qb B BA hB
        have h2:=hB.slice (elems.map (·.1)) (rest.map (·.1))
        simp only [gL,oG]
        omega
      · refine Gk hu hl hc (by rw [List.range_eq_range'];exact q5 W' sp hs hsp) ?_
        have hrest:∀(m k:Nat) (ys:List (DataW H×List MemPlace)),((List.range' k m).mapM fun j=>(W.cells? 0 (a.add ((len+j)*P.cellsOf e)) (P.cellsOf e)).bind (DataW.trod enc P W 0 (fun _=>true) true fuel e))=some ys→
         ((List.range' k m).mapM fun j=>(W'.cells? 0 (a.add ((len+j)*P.cellsOf e)) (P.cellsOf e)).bind (DataW.trod enc P W' 0 sp true fuel e))=some ys:=by
         intro m k ys hy
         refine mapM_mono (fun j y hj=> ?_) hy
         cases hcs:W.cells? 0 (a.add ((len+j)*P.cellsOf e)) (P.cellsOf e)with
         | none=>rw [hcs]at hj;cases hj
         | some cs=>
          rw [hcs,Option.bind_some]at hj
          obtain⟨_,_,_,_,_,_,k5⟩:=hrec cs y hj
          rw [cells?_stays hs hcs,Option.bind_some,k5 W' sp hs hsp]
        cases hcl:cap - len with
        | zero=>
         rw [hcl]at hr
         simp at hr
         subst hr
         split<;>simp
        | succ m=>
         have hlt:a.block<W.heap.size:=by
          rw [hcl,List.range'_succ,List.mapM_cons]at hr
          cases hcs:W.cells? 0 (a.add ((len+0)*P.cellsOf e)) (P.cellsOf e)with
          | none=>rw [hcs]at hr;cases hr
          | some cs=>
           have:=cells?_lt hcs (by omega)
           unfold Addr.add at this
           split at this<;>exact this
         rw [hsp _ hlt]
         simp only [if_true]
         rw [List.range_eq_range',←hcl]
         exact hrest _ _ _ hr
   | struct fs=>
    rw [hd]at hD hp
    cases d<;>simp only at hD
    rename_i fields
    dsimp only at hp
    rw [Bool.and_eq_true]at hp
    obtain⟨hl,xs,hx,rfl⟩:=BI hu h
    have hcs:cs.length=ty.size:=hl.trans (hsz t ty ht)
    obtain⟨row,q1,q2,q3,qb,q4⟩:=qK G (enc:=enc) (W:=W) (fuel:=fuel) (cs:=cs) fields.toList 0 ty.kinds n xs (fun n t ty cs x=>ih n t ty cs x) (by rw [hD];exact hp.1) (by rw [hD];exact hp.2) (by rw [hT.len,hcs];omega) hx
    refine⟨row,q1,by rw [kT q1,hT.len,hcs],fun i h1 h2=> ?_,q3,fun B BA hB=>Nat.le_trans (qb B BA hB) (hB.agg _),fun W' sp hs hsp=> ?_⟩
    · have:=q2 i h1 (by omega)
      simpa using this
    · exact FM hu hl (q4 W' sp hs hsp)
   | array _ _=>rw [hd]at hp;cases hp
   | ptr _=>rw [hd]at hp;cases hp
   | fn=>rw [hd]at hp;cases hp
   | other=>rw [hd]at hp;cases hp
end Go.Abs
namespace Go.Abs
variable {E:Env} {P:Program} {W:World} {H:Type} {enc:TypeId×Value→H}
def Cell.ac :Cell→AC
 | .int k n=> .int k n
 | .bool b=> .bool b
 | .str s=> .str s
 | .slice e rows=> .sl false e rows
def acs :Row→List AC
 | []=> []
 | c::r=>c.ac::acs r
theorem BG (r:Row):acs r=r.map Cell.ac:=by induction r<;>simp_all [acs]
theorem CR.ar {w:World}{F:aG}{ρ:List Nat}{c:Cell}{v:Value}(h:CR E w F c v):AR E w F ρ c.ac v none:=by
 cases h with
 | int k n=>exact .int k n
 | bool b=>exact .bool b
 | str s=>exact .str s
 | empty e a cap=>exact .sl _ _ _ (.empty e a cap)
 | slice e rows te B off cap g he hk hc hm hr=>exact .sl _ _ _ (.slice e rows te B off cap g he hk hc hm hr)
def ux (ty:Ty)(row:Row):AV:=
 match ty.desc.isAgg,row with
 | true,row=> .agg (acs row)
 | false,[c]=> .one c.ac
 | _,_=> .undef
def jf (E:Env):List TypeId→List Row→List AV
 | t::ts,r::rs=>(match E.tys t with | some ty=>ux ty r | none=> .undef)::jf E ts rs
 | _,_=> []
def j4 (E:Env):List TypeId→List Row→Prop
 | [],[]=>True
 | t::ts,r::rs=>(∃ty,E.tys t=some ty∧r.map Cell.kind=ty.kinds∧∀c∈r,Cell.Wf E c)∧j4 E ts rs
 | _,_=>False
def oI (E:Env):List TypeId→Bool
 | []=>true
 | t::ts=>gl E 60 t&&oI E ts
theorem tC :∀{ts:List TypeId} {rows:List Row},j4 E ts rows→(jf E ts rows).length=ts.length
 | [],[],_=>rfl
 | [],_::_,h=>h.elim
 | _::_,[],h=>h.elim
 | t::ts,r::rs,h=>by simp [jf,tC h.2]
theorem Cj (G:Good P E){t:TypeId}{v:Value}{d:DataW H}{p:List MemPlace}(hp:gl E 60 t=true)(hok:Value.okWide P W .any 0 t v∨∃b,Value.okWide P W .any b t v)(h:DataW.Trod enc P W 0 (fun _=>true) true t v d p):
 ∃ty row,E.tys t=some ty∧row.map Cell.kind=ty.kinds∧(∀c∈row,Cell.Wf E c)∧AVR E W (fun _ _=>False) [] (ux ty row) v (fun _=>none)∧(∀(B:DataW H→Nat) (BA:List (DataW H)→Nat),Bulk B BA→gL row≤B d)∧
  ∀(W':World) (sp:Nat→Bool),sI W W'→(∀b,b<W.heap.size→sp b=true)→DataW.Trod enc P W' 0 sp true t v d p:=by
 obtain⟨fuel,h⟩:=h
 obtain⟨ty,hty⟩:∃ty,E.tys t=some ty:=by
  rw [gl]at hp
  cases hte:E.tys t with
  | none=>rw [hte]at hp;cases hp
  | some ty=>exact⟨ty,rfl⟩
 obtain⟨row,q1,q2,q3,q4,qb,q5⟩:=CG G fuel 60 t ty _ _ hty hp h
 have hT:=G.ty t ty hty
 obtain⟨dd,hu,hD⟩:=hT.desc
 refine⟨ty,row,hty,q1,q4, ?_,qb,fun W' sp hs hsp=>⟨fuel,q5 W' sp hs hsp⟩⟩
 have hagg:∀cs,v=.agg cs→(∀p,(fun _=>none:aS) p=none)→AVR E W (fun _ _=>False) [] (.agg (acs row)) v (fun _=>none):=by
  intro cs hv _
  subst hv
  have hlen:row.length=cs.size:=by simpa [Value.cells]using q2
  have:cs=((List.range (acs row).length).map fun i=>cs.toList.getD i undef).toArray:=by
   apply Array.ext'
   apply List.ext_getElem
   · simp [BG,hlen]
   · intro i h3 h4
     have h5:i<cs.size:=by simpa using h3
     simp [List.getD,h5]
  rw [this]
  refine .agg _ _ _ (fun i hi=> ?_) fun _ _=>rfl
  have hi':i<row.length:=by simpa [BG]using hi
  have h5:i<cs.size:=by omega
  have:=(q3 i hi' (by simpa [Value.cells]using h5)).ar (ρ:=[])
  simp only [BG,List.getElem_map]
  simpa [Value.cells,List.getD,h5]using this
 have hokE:∃b,Value.okWide P W .any b t v:=by
  rcases hok with h | h
  · exact⟨_,h⟩
  · exact h
 obtain⟨b0,hok⟩:=hokE
 unfold Value.okWide at hok
 rw [hu]at hok
 unfold eY at hD
 have hone:∀c,row=[c]→v.cells.toList=[v]→ty.desc.isAgg=false→AVR E W (fun _ _=>False) [] (ux ty row) v (fun _=>none):=by
  intro c hc hv hd
  subst hc
  unfold ux
  rw [hd]
  refine .one _ _ _ ?_ fun _ _=>rfl
  have:=(q3 0 (by simp) (by rw [hv];simp)).ar (ρ:=[])
  simpa [hv]using this
 have hscal:∀k,ty.kinds=[k]→∃c,row=[c]:=fun k hk=>by
  rw [hk]at q1
  cases row with
  | nil=>cases q1
  | cons c r=>
   cases r with
   | nil=>exact⟨c,rfl⟩
   | cons c2 r=>simp at q1
 have hcell:∀k,ty.kinds=[k]→Cell.okWide P W .any b0 t v→ty.desc.isAgg=false→AVR E W (fun _ _=>False) [] (ux ty row) v (fun _=>none):=by
  intro k hk hc hd
  obtain⟨c,hrow⟩:=hscal k hk
  refine hone c hrow ?_ hd
  cases v with
  | agg cs=>
   exfalso
   unfold Cell.okWide at hc
   rw [hu]at hc
   cases hdd:ty.desc<;>rw [hdd]at hD hd<;>cases dd<;>simp only at hD<;>(unfold Cell.ok at hc;rw [hu]at hc;simp at hc)
   all_goals cases hd
  | _=>rfl
 cases hd:ty.desc with
 | int k=>
  rw [hd]at hD
  cases dd<;>simp only at hD
  exact hcell _ hD.2 hok (by rw [hd];rfl)
 | bool=>
  rw [hd]at hD
  cases dd<;>simp only at hD
  exact hcell _ hD hok (by rw [hd];rfl)
 | str=>
  rw [hd]at hD
  cases dd<;>simp only at hD
  exact hcell _ hD hok (by rw [hd];rfl)
 | slice e=>
  rw [hd]at hD
  cases dd<;>simp only at hD
  exact hcell _ hD.2 hok (by rw [hd];rfl)
 | struct fs=>
  rw [hd]at hD
  cases dd<;>simp only at hD
  obtain⟨cs,hv,_⟩:=hok
  have:=hagg cs hv fun _=>rfl
  unfold ux
  rw [hd]
  exact this
 | array n e=>
  rw [hd]at hD
  cases dd<;>simp only at hD
  obtain⟨cs,hv,_⟩:=hok
  have:=hagg cs hv fun _=>rfl
  unfold ux
  rw [hd]
  exact this
 | ptr _=>rw [gl,hty]at hp;simp [hd]at hp
 | fn=>rw [gl,hty]at hp;simp [hd]at hp
 | other=>rw [gl,hty]at hp;simp [hd]at hp
theorem vu (G:Good P E):∀(ts:List TypeId) (vs:List Value) (ds:List (DataW H)) (p:List MemPlace),oI E ts=true→(∀(j:Nat) t v,ts[j]? =some t→vs[j]? =some v→∃b,Value.okWide P W .any b t v)→
 DataW.TrodAll enc P W 0 (fun _=>true) true ts vs ds p→
 ∃rows:List Row,j4 E ts rows∧vs.length=ts.length∧ds.length=ts.length∧(∀(i:Nat) (h1:i<(jf E ts rows).length) (h2:i<vs.length),AVR E W (fun _ _=>False) [] (jf E ts rows)[i] vs[i] (fun _=>none))∧
  (∀(B:DataW H→Nat) (BA:List (DataW H)→Nat),Bulk B BA→gX rows≤BA ds)∧
  ∀(W':World) (sp:Nat→Bool),sI W W'→(∀b,b<W.heap.size→sp b=true)→DataW.TrodAll enc P W' 0 sp true ts vs ds p
 | [],[],[],p,_,_,h=>⟨[],trivial,rfl,rfl,fun i h1=>by simp [jf]at h1,fun _ _ _=>by simp [gX],fun _ _ _ _=>h⟩
 | t::ts,v::vs,d::ds,p,hp,hok,h=>by
  obtain⟨p1,p2,h1,h2,rfl⟩:=h
  simp only [oI,Bool.and_eq_true]at hp
  obtain⟨ty,row,k1,k2,k3,k4,kb,k5⟩:=Cj G hp.1 (.inr (hok 0 t v rfl rfl)) h1
  obtain⟨rows,q1,q2,q3,q4,qb,q5⟩:=vu G ts vs ds p2 hp.2 (fun j t v ht hv=>hok (j+1) t v ht hv) h2
  refine⟨row::rows,⟨⟨ty,k1,k2,k3⟩,q1⟩,by simp [q2],by simp [q3],fun i g1 g2=> ?_,fun B BA hB=> ?_,fun W' sp hs hsp=>⟨p1,p2,k5 W' sp hs hsp,q5 W' sp hs hsp,rfl⟩⟩
  · cases i with
    | zero=>simp only [jf,k1,List.getElem_cons_zero];exact k4
    | succ i=>
     simp only [jf,List.getElem_cons_succ]
     exact q4 i (by simpa [jf]using g1) (by simpa using g2)
  · have g1:=kb B BA hB
    have g2:=qb B BA hB
    have g3:=hB.cons d ds
    simp only [gX]
    omega
 | [],_::_,_,_,_,_,h=>h.elim
 | [],[],_::_,_,_,_,h=>h.elim
 | _::_,[],_,_,_,_,h=>h.elim
 | _::_,_::_,[],_,_,_,h=>h.elim
theorem Ht (G:Good P E)(hm:P.follows .mixedOrders=true)(hF:FuncsOk P E){f:FuncId}{fn:Func}{s:ChangeSpec}{ts:List TypeId}{tb:TypeId}(hpar:fn.params.toList=ts)(hres:fn.resultTypes.toList=[tb])(htb:P.underlying tb=some .bool)
 (hvars:s.vars=[]) (hs:∀ds:List (DataW H),ds.length=ts.length→s.fn H ds={results:=[.lit (.bool true)],args:=ds}) (hplain:oI E ts=true)
 {args:Array Value} {ds gs:List (DataW H)} {before:List MemPlace} {base:Nat} (hval:∀(j:Nat) t v,fn.params[j]? =some t→args[j]? =some v→Value.okWide P W .any base t v)
 (hW:DataW.Whole enc P fn.params.toList s.vars false W args.toList ds gs before)
 (hrun:∀rows:List Row,j4 E ts rows→(∀(B:DataW H→Nat) (BA:List (DataW H)→Nat),Bulk B BA→gX rows≤BA (ds++gs))→∃n,run E n f (jf E ts rows) []=(true,([.one (.bool true)],[]))):
 Calls P f args W fun e W'=>∃v,e=.returned v∧s.post enc P fn false true false false W args v W':=by
 have hW0:=hW
 obtain⟨p,q,hA,hV,hbef,hz,hn⟩:=hW
 rw [hvars]at hV
 obtain⟨rfl,rfl⟩:=ChangeShapes.trodVars_none hV
 rw [hpar]at hA
 obtain⟨rows,k1,k2,k3,k4,kb,k5⟩:=vu G ts args.toList ds p hplain (fun j t v ht hv=>⟨base,hval j t v (by rw [←hpar]at ht;simpa using ht) (by simpa using hv)⟩) hA
 simp only [List.append_nil]at hrun
 obtain⟨n,hr⟩:=hrun rows k1 kb
 obtain⟨_,hcall⟩:=xa G hm hF n f _ [] _ _ hr
 have hlen:=tC k1
 have hrel:Rel E (fun _ _=>False) [] (fun _=>none) args.toList.length ⟨zipFr (jf E ts rows) 0,[]⟩ ⟨args.toList.toArray,[]⟩ W:=by
  have hFn:Fn (fun _=>none) (fun _ _=>False)=fun _ _=>False:=by
   funext B off
   simp [Fn]
  refine⟨by simp,rfl,fun t=> ?_,rfl,fun k=> ?_,fun x y B t t' h=>(by cases h),fun x B t h=>(by cases h),fun B off h=>h.elim⟩
  · rw [hFn]
    exact rW (o:=fun _ _=>none) (by omega) (fun i h1 h2=>k4 i h1 h2) (fun _ _ _=>rfl) t
  · simp [nth,BlkR]
 have hc:=hcall (fun _ _=>False) [] (fun _=>none) args.toList W (by omega) (fun _ _=>rfl) hrel
 refine Calls.mono (P:=P) (f:=f) (args:=args) (by simpa using hc) fun e W' he=> ?_
 cases e<;>try exact he.elim
 rename_i v
 obtain⟨rs,ρ',own',rfl,hrl,_,hrel',hgrow⟩:=he
 refine⟨_,rfl, ?_⟩
 have hk:W.keptBut W' (fun _=>False):=World.keptBut_mono (fun p hp=>by
  cases p with
  | cell b o=>obtain⟨x,t,hx,_⟩:=hp;cases hx
  | map b=>exact hp) hgrow.kept
 have hstay:sI W W':=fun B off v hv=>by
  have:=hk.cell (b:=B) (off:=off) (cell_lt hv) id
  rw [cell,this];exact hv
 obtain⟨r0,rfl⟩:∃r0,rs=[r0]:=by
  cases rs with
  | nil=>cases hrl
  | cons r0 r=>
   cases r with
   | nil=>exact⟨r0,rfl⟩
   | cons r1 r=>simp at hrl
 have hb:r0=.bool true:=by
  have:=(hrel'.fr 0).dis
  simp only [zipFr,get,co,cond_true,AV.dis,AC.dis]at this
  cases this with
  | one _ _ _ hh _=>
   have e:([r0].toArray.getD 0 undef)=r0:=by simp
   generalize [r0].toArray.getD 0 undef=v at hh e
   cases hh
   exact e.symm
 subst hb
 have hrt:fn.resultTypes.size=1:=by
  have:=congrArg List.length hres
  simpa using this
 refine⟨ds,[],before,[],p,[],hW0, ?_, ?_, ?_,World.keptBut_mono (fun p hp=>hp.elim) hk,fun h=>by cases h⟩
 · rw [List.append_nil,hs ds k3,hres,hrt]
   exact trodAll_cons_mk (RowKit.shut_bool htb true) ChangeShapes.trodAll_mk0
 · rw [List.append_nil,hs ds k3,hpar]
   exact k5 W' _ hstay fun b hb=>by simpa using hb
 · rw [List.append_nil,hs ds k3,hvars]
   rfl
end Go.Abs
namespace Go.Abs
variable {E:Env} {P:Program}
def lM {α:Type}:List (Nat×α)→Nat→Option α
 | [],_=>none
 | (u,x)::r,t=>cond (Nat.beq u t) (some x) (lM r t)
theorem mF {α:Type}:∀{l:List (Nat×α)} {t:Nat} {x:α},lM l t=some x→(t,x)∈l
 | [],_,_,h=>by cases h
 | (u,y)::r,t,x,h=>by
  simp only [lM]at h
  by_cases e:u=t
  · subst e
    simp only [co,cond_true,Option.some.injEq]at h
    subst h
    exact List.mem_cons_self
  · simp only [dH e,cond_false]at h
    exact List.mem_cons_of_mem _ (mF h)
def B5 :CK→Value→Bool
 | .int k,.int k' n=>IntKind.same k k'&&(n==0)
 | .bool,.bool b=> !b
 | .str,.string s=>s.data.toList.isEmpty
 | .slice _,.slice none l c=>Nat.beq l 0&&Nat.beq c 0
 | .ptr,.pointer none=>true
 | .fn,.nilFunc=>true
 | _,_=>false
theorem ER {k:CK}{v:Value}(h:B5 k v=true):some v=ly k:=by
 unfold B5 at h
 split at h
 · simp only [Bool.and_eq_true,beq_iff_eq]at h
   rw [lf h.1,h.2];rfl
 · cases‹Bool›<;>first | rfl | cases h
 · rename_i s
   have:s=.empty:=by
    cases s with
    | mk d=>
     have:d.toList=[]:=by simpa using h
     have:d= #[]:=by simpa using this
     rw [this];rfl
   rw [this];rfl
 · simp only [Bool.and_eq_true]at h
   rw [Nat.eq_of_beq_eq_true h.1,Nat.eq_of_beq_eq_true h.2];rfl
 · rfl
 · rfl
 · cases h
def kA :List CK→List Value→Bool
 | [],[]=>true
 | k::ks,v::vs=>B5 k v&&kA ks vs
 | _,_=>false
theorem qN :∀{ks:List CK} {vs:List Value},kA ks vs=true→vs.map some=ks.map ly
 | [],[],_=>rfl
 | [],_::_,h=>by simp [kA]at h
 | _::_,[],h=>by simp [kA]at h
 | k::ks,v::vs,h=>by
  simp only [kA,Bool.and_eq_true]at h
  simp only [List.map_cons,ER h.1,qN h.2]
def mu :List (Nat×Nat)→List (Nat×Nat)→Bool
 | [],[]=>true
 | (a,b)::r,(c,d)::s=>Nat.beq a c&&Nat.beq b d&&mu r s
 | _,_=>false
theorem tW :∀{x y:List (Nat×Nat)},mu x y=true→x=y
 | [],[],_=>rfl
 | [],_::_,h=>by simp [mu]at h
 | _::_,[],h=>by simp [mu]at h
 | (a,b)::r,(c,d)::s,h=>by
  simp only [mu,Bool.and_eq_true]at h
  rw [Nat.eq_of_beq_eq_true h.1.1,Nat.eq_of_beq_eq_true h.1.2,tW h.2]
def Jc (ty:Ty)(d:TypeDesc):Bool:=
 match ty.desc,d with
 | .int k,.int k'=>IntKind.same k k'&&ei ty.kinds [.int k]
 | .bool,.bool=>ei ty.kinds [.bool]
 | .str,.string=>ei ty.kinds [.str]
 | .slice e,.slice e'=>Nat.beq e e'&&ei ty.kinds [.slice e]
 | .array n e,.array n' e'=>Nat.beq n n'&&Nat.beq e e'
 | .struct fs,.struct fields=>mu (fields.toList.map fun f=>(f.offset,f.type)) fs
 | .ptr e,.pointer e'=>Nat.beq e e'&&ei ty.kinds [.ptr]
 | .fn,.func _ _ _=>ei ty.kinds [.fn]
 | _,_=>false
theorem Gf {ty:Ty}{d:TypeDesc}(h:Jc ty d=true):eY ty d:=by
 unfold Jc at h
 unfold eY
 split at h<;>try (cases h;done)
 all_goals rename_i hd
 all_goals rw [hd]
 all_goals try (simp only [Bool.and_eq_true]at h)
 · exact⟨lf h.1,dw h.2⟩
 · exact dw h
 · exact dw h
 · exact⟨Nat.eq_of_beq_eq_true h.1,dw h.2⟩
 · exact⟨Nat.eq_of_beq_eq_true h.1,Nat.eq_of_beq_eq_true h.2⟩
 · exact tW h
 · exact⟨Nat.eq_of_beq_eq_true h.1,dw h.2⟩
 · exact dw h
def Hc {α:Type}:List α→Nat→Bool
 | [],0=>true
 | _::r,n+1=>Hc r n
 | _,_=>false
theorem zH {α:Type}:∀{l:List α} {n:Nat},Hc l n=true→l.length=n
 | [],0,_=>rfl
 | [],_+1,h=>by cases h
 | _::_,0,h=>by cases h
 | _::r,n+1,h=>by
  rw [List.length_cons,zH (l:=r) h]
def tyB (P:Program)(t:TypeId)(ty:Ty):Bool:=
 Hc ty.kinds ty.size&&Nat.ble 1 ty.size&&
 (match P.info? t with
   | some i=>Nat.beq i.size ty.size&&Nat.beq i.bytes ty.bytes&&(match i.zero with | some z=>kA ty.kinds z.cells.toList | none=>false)
   | none=>false)&&
 (match P.underlying t with
   | some d=>Jc ty d&&(match d with | .struct fs=>fs.toList.all fun f=>(P.info? f.type).isSome | _=>true)
   | none=>false)
theorem NA {t:TypeId}{ty:Ty}(h:tyB P t ty=true):TyOk P t ty:=by
 simp only [tyB,Bool.and_eq_true]at h
 obtain⟨⟨⟨h1,h2⟩,h3⟩,h4⟩:=h
 cases hi:P.info? t with
 | none=>rw [hi]at h3;cases h3
 | some i=>
  rw [hi]at h3
  simp only [Bool.and_eq_true]at h3
  obtain⟨⟨h5,h6⟩,h7⟩:=h3
  cases hz:i.zero with
  | none=>rw [hz]at h7;cases h7
  | some z=>
   rw [hz]at h7
   cases hu:P.underlying t with
   | none=>rw [hu]at h4;cases h4
   | some d=>
    rw [hu]at h4
    simp only [Bool.and_eq_true]at h4
    refine⟨zH h1,Nat.le_of_ble_eq_true h2,⟨i,z,hi,Nat.eq_of_beq_eq_true h5,Nat.eq_of_beq_eq_true h6,hz,qN h7⟩,⟨d,hu,Gf h4.1⟩,fun fs hfs f hf=> ?_⟩
    rw [hu]at hfs
    have hfs:=Option.some.inj hfs
    subst hfs
    have:=(List.all_eq_true.1 h4.2) f hf
    exact Option.isSome_iff_exists.1 this
def OT :CK→Bool
 | .int _=>true
 | .bool=>true
 | .str=>true
 | _=>false
def eqFields (P:Program)(E:Env)(inner:TypeId→Ty→Bool):List Field→Nat→List CK→Bool
 | [],_,[]=>true
 | f :: fs, o, ks => (f.name != "_") && Nat.beq f.offset o && (match E.tys f.type with
  | some ty=>cond ty.desc.isAgg (inner f.type ty&&ei ty.kinds (bA ks ty.size)&&eqFields P E inner fs (o+ty.size) (ag ks ty.size))
   (match ks with
     | k::ks=>OT k&&ei ty.kinds [k]&&eqFields P E inner fs (o+1) ks
     | []=>false)
  | none=>false)
 | _,_,_=>false
def eqS (P:Program)(E:Env):Nat→TypeId→Ty→Bool
 | 0,_,_=>false
 | n+1,t,ty=>(match P.underlying t with | some (.struct fs)=>eqFields P E (eqS P E n) fs.toList 0 ty.kinds | _=>false)&& !P.stoodInHeld t
def eqB (P:Program)(E:Env)(t:TypeId)(ty:Ty):Bool:=eqS P E 5 t ty&& !P.eqGuardType P.depth t
theorem pI {p b:Bool}{q:Option Bool}(h:zi p q=some b):∃r,q=some r∧b=(p&&r):=by
 cases q with
 | none=>cases h
 | some r=>exact⟨r,rfl,(Option.some.inj h).symm⟩
theorem sH {k:CK}{ks:List CK}{xs ys:List AC}{b:Bool}(h:eqL (k::ks) xs ys=some b):
 ∃x y xr yr p r,xs=x::xr∧ys=y::yr∧eqL ks xr yr=some r∧b=(p&&r)∧((∃j m n,k=.int j∧x=.int j m∧y=.int j n∧p=(m==n))∨(∃c d,k=.bool∧x=.bool c∧y=.bool d∧p=(c==d))∨(∃c d,k=.str∧x=.str c∧y=.str d∧p=(c==d))):=by
 cases xs with
 | nil=>cases k<;>simp [eqL]at h
 | cons x xr=>
  cases ys with
  | nil=>cases k<;>cases x<;>simp [eqL]at h
  | cons y yr=>
   cases k with
   | int j=>
    cases x<;>try (simp [eqL]at h;done)
    cases y<;>try (simp [eqL]at h;done)
    rename_i k' m l n
    simp only [eqL]at h
    cases hc:IntKind.same j k'&&IntKind.same j l with
    | false=>rw [hc]at h;cases h
    | true=>
     rw [hc]at h
     simp only [Bool.and_eq_true]at hc
     have e1:=lf hc.1
     have e2:=lf hc.2
     subst e1;subst e2
     obtain⟨r,e,e2⟩:=pI h
     exact⟨_,_,_,_,_,r,rfl,rfl,e,e2,.inl ⟨j,m,n,rfl,rfl,rfl,rfl⟩⟩
   | bool=>
    cases x<;>try (simp [eqL]at h;done)
    cases y<;>try (simp [eqL]at h;done)
    simp only [eqL]at h
    obtain⟨r,e,e2⟩:=pI h
    exact⟨_,_,_,_,_,r,rfl,rfl,e,e2,.inr (.inl ⟨_,_,rfl,rfl,rfl,rfl⟩)⟩
   | str=>
    cases x<;>try (simp [eqL]at h;done)
    cases y<;>try (simp [eqL]at h;done)
    simp only [eqL]at h
    obtain⟨r,e,e2⟩:=pI h
    exact⟨_,_,_,_,_,r,rfl,rfl,e,e2,.inr (.inr ⟨_,_,rfl,rfl,rfl,rfl⟩)⟩
   | slice _=>cases x<;>simp [eqL]at h
   | ptr=>cases x<;>simp [eqL]at h
   | fn=>cases x<;>simp [eqL]at h
   | other=>cases x<;>simp [eqL]at h
theorem OC (hT:∀t ty,E.tys t=some ty→TyOk P t ty){t:TypeId}{ty:Ty}{k:CK}(hty:E.tys t=some ty)(hk:ty.kinds=[k])(ha:ty.desc.isAgg=false){x y:AC}{p:Bool}
 (h:(∃j m n,k=.int j∧x=.int j m∧y=.int j n∧p=(m==n))∨(∃c d,k=.bool∧x=.bool c∧y=.bool d∧p=(c==d))∨(∃c d,k=.str∧x=.str c∧y=.str d∧p=(c==d))) (d:Nat) (w:World):
 (Op.equalIn (d+1) t (dL x) (dL y)).run P w=.ok p w:=by
 obtain⟨dd,hu,hD⟩:=(hT t ty hty).desc
 have hu':(underlying t).run P w=.ok dd w:=run_underlying hu w
 unfold eY at hD
 unfold Op.equalIn
 rw [Sem.run_bind,hu',Result.andThen_ok]
 rcases h with⟨j,m,n,rfl,rfl,rfl,rfl⟩ | ⟨c,e,rfl,rfl,rfl,rfl⟩ | ⟨c,e,rfl,rfl,rfl,rfl⟩
 · cases hd:ty.desc<;>rw [hd]at hD ha<;>cases dd<;>simp only [hk]at hD<;>first | (cases ha;done) | skip
   all_goals first | (obtain⟨_,h2⟩:=hD;simp at h2;done) | (simp at hD;done) | skip
   simp [dL]
 · cases hd:ty.desc<;>rw [hd]at hD ha<;>cases dd<;>simp only [hk]at hD<;>first | (cases ha;done) | skip
   all_goals first | (obtain⟨_,h2⟩:=hD;simp at h2;done) | (simp at hD;done) | skip
   simp [dL]
 · cases hd:ty.desc<;>rw [hd]at hD ha<;>cases dd<;>simp only [hk]at hD<;>first | (cases ha;done) | skip
   all_goals first | (obtain⟨_,h2⟩:=hD;simp at h2;done) | (simp at hD;done) | skip
   simp only [dL,Sem.run_pure,beq_toListBytes,pk]
theorem Ej :∀{ks:List CK} {xs ys:List AC} {b:Bool},eqL ks xs ys=some b→xs.length=ks.length∧ys.length=ks.length
 | [],xs,ys,b,h=>by cases xs<;>cases ys<;>simp [eqL]at h⊢
 | k::ks,xs,ys,b,h=>by
  obtain⟨x,y,xr,yr,p,r,rfl,rfl,er,_,_⟩:=sH h
  have:=Ej er
  simp [this.1,this.2]
theorem OQ {k:CK}{ks:List CK}{x y:AC}{xr yr:List AC}{p r:Bool}(er:eqL ks xr yr=some r)
 (h:(∃j m n,k=.int j∧x=.int j m∧y=.int j n∧p=(m==n))∨(∃c d,k=.bool∧x=.bool c∧y=.bool d∧p=(c==d))∨(∃c d,k=.str∧x=.str c∧y=.str d∧p=(c==d))):eqL (k::ks) (x::xr) (y::yr)=some (p&&r):=by
 rcases h with⟨j,m,n,rfl,rfl,rfl,rfl⟩ | ⟨c,e,rfl,rfl,rfl,rfl⟩ | ⟨c,e,rfl,rfl,rfl,rfl⟩
 · have:IntKind.same j j=true:=by cases j<;>rfl
   simp [eqL,this,zi,er]
 · simp [eqL,zi,er]
 · simp [eqL,zi,er]
theorem Eg :∀{ks1 ks2:List CK} {xs ys:List AC} {b:Bool},eqL (ks1++ks2) xs ys=some b→
 ∃p r,eqL ks1 (xs.take ks1.length) (ys.take ks1.length)=some p∧eqL ks2 (xs.drop ks1.length) (ys.drop ks1.length)=some r∧b=(p&&r)
 | [],ks2,xs,ys,b,h=>⟨true,b,by simp [eqL],by simpa using h,by simp⟩
 | k::ks1,ks2,xs,ys,b,h=>by
  obtain⟨x,y,xr,yr,p,r,rfl,rfl,er,rfl,hp⟩:=sH h
  obtain⟨p1,r1,e1,e2,rfl⟩:=Eg er
  refine⟨p&&p1,r1, ?_,by simpa using e2,by simp [Bool.and_assoc]⟩
  simp only [List.length_cons,List.take_succ_cons]
  exact OQ e1 hp
theorem EY (hT:∀t ty,E.tys t=some ty→TyOk P t ty){inner:TypeId→Ty→Bool}(d:Nat)
 (hI:∀t ty,E.tys t=some ty→inner t ty=true→∀xs ys b,eqL ty.kinds xs ys=some b→∀w,(Op.equalIn (d+1) t (.agg (xs.map dL).toArray) (.agg (ys.map dL).toArray)).run P w=.ok b w)
 (w:World):∀(fs:List Field) (o:Nat) (ks:List CK) (xs ys:List AC) (b:Bool) (X Y:Array Value),eqFields P E inner fs o ks=true→eqL ks xs ys=some b→
 (∀i,X[o+i]? =(xs.map dL)[i]?)→(∀i,Y[o+i]? =(ys.map dL)[i]?)→(Op.eqFields (d+1) X Y fs).run P w=.ok b w:=by
 intro fs
 induction fs with
 | nil=>
  intro o ks xs ys b X Y hf he hX hY
  cases ks with
  | nil=>
   cases xs<;>cases ys<;>simp [eqL]at he
   subst he
   simp [Op.eqFields]
  | cons k ks=>simp [eqFields]at hf
 | cons f fs ih=>
  intro o ks xs ys b X Y hf he hX hY
  simp only [eqFields,Bool.and_eq_true]at hf
  obtain⟨⟨h1,h2⟩,h3⟩:=hf
  have h1 : f.name ≠ "_" := by simpa using h1
  have h2:=Nat.eq_of_beq_eq_true h2
  cases hty:E.tys f.type with
  | none=>rw [hty]at h3;cases h3
  | some ty=>
   rw [hty]at h3
   simp only at h3
   have hT1:=hT _ _ hty
   cases ha:ty.desc.isAgg with
   | false=>
    rw [ha,cond_false]at h3
    cases ks with
    | nil=>cases h3
    | cons k ks=>
    simp only [Bool.and_eq_true]at h3
    obtain⟨⟨_,h3⟩,h4⟩:=h3
    have hk:=dw h3
    obtain⟨x,y,xr,yr,p,r,rfl,rfl,er,rfl,hp⟩:=sH he
    have hX0:X[o]? =some (dL x):=by simpa using hX 0
    have hY0:Y[o]? =some (dL y):=by simpa using hY 0
    have hagg:(isAgg f.type).run P w=.ok false w:=by rw [(hT _ _ hty).run_isAgg,ha]
    have hpart:∀(Z:Array Value) (v:Value),Z[o]? =some v→(part f.type Z f.offset).run P w=.ok v w:=fun Z v hz=>by
     unfold part
     rw [Sem.run_bind,hagg,Result.andThen_ok,h2]
     simp [hz]
    simp only [Op.eqFields]
    rw [if_pos h1,Sem.run_bind,hpart X _ hX0,Result.andThen_ok,Sem.run_bind,hpart Y _ hY0,Result.andThen_ok,Sem.run_bind,OC hT hty hk ha hp,Result.andThen_ok]
    cases p with
    | false=>simp
    | true=>
     simp only [Bool.not_true,Bool.false_eq_true,if_false,Bool.true_and]
     exact ih (o+1) ks xr yr r X Y h4 er (fun i=>by
      have:=hX (i+1)
      rw [show o+1+i=o+(i+1)by omega,this];simp) (fun i=>by
      have:=hY (i+1)
      rw [show o+1+i=o+(i+1)by omega,this];simp)
   | true=>
    rw [ha,cond_true]at h3
    simp only [Bool.and_eq_true]at h3
    obtain⟨⟨h3,h5⟩,h4⟩:=h3
    have hk:=dw h5
    rw [bp]at hk
    rw [aN]at h4
    have hsz:ty.size=ty.kinds.length:=hT1.len.symm
    have hks:ks=ty.kinds++ks.drop ty.size:=by rw [hk];exact(List.take_append_drop _ _).symm
    rw [hks]at he
    obtain⟨p,r,e1,e2,rfl⟩:=Eg he
    rw [←hsz]at e1 e2
    have hl:=Ej he
    have hlen:ty.size≤xs.length∧ty.size≤ys.length:=by
     rw [hl.1,hl.2,List.length_append,hsz];omega
    have hagg:(isAgg f.type).run P w=.ok true w:=by rw [hT1.run_isAgg,ha]
    have hpart:∀(Z:Array Value) (zs:List AC),ty.size≤zs.length→(∀i,Z[o+i]? =(zs.map dL)[i]?)→(part f.type Z f.offset).run P w=.ok (.agg ((zs.take ty.size).map dL).toArray) w:=fun Z zs hz hZ=>by
     unfold part
     rw [Sem.run_bind,hagg,Result.andThen_ok,h2]
     simp only [if_true,Sem.run_bind,hT1.run_size,Result.andThen_ok,Sem.run_pure]
     congr 2
     apply Array.ext'
     rw [Array.toList_extract]
     apply List.ext_getElem?
     intro i
     have:=hZ i
     simp only [List.extract_eq_take_drop,List.getElem?_take,List.getElem?_drop,List.map_take,List.getElem?_map,Array.getElem?_toList]at this⊢
     by_cases hi:i<ty.size
     · rw [if_pos (by omega),if_pos hi,this]
     · rw [if_neg (by omega),if_neg hi]
    simp only [Op.eqFields]
    rw [if_pos h1,Sem.run_bind,hpart X xs hlen.1 hX,Result.andThen_ok,Sem.run_bind,hpart Y ys hlen.2 hY,Result.andThen_ok,Sem.run_bind,hI _ _ hty h3 _ _ _ e1,Result.andThen_ok]
    cases p with
    | false=>simp
    | true=>
     simp only [Bool.not_true,Bool.false_eq_true,if_false,Bool.true_and]
     exact ih (o+ty.size) _ _ _ r X Y h4 e2 (fun i=>by
      have:=hX (ty.size+i)
      rw [show o+ty.size+i=o+(ty.size+i)by omega,this];simp) (fun i=>by
      have:=hY (ty.size+i)
      rw [show o+ty.size+i=o+(ty.size+i)by omega,this];simp)
theorem Hv (hT:∀t ty,E.tys t=some ty→TyOk P t ty):∀(n d:Nat),n≤d→∀t ty,E.tys t=some ty→eqS P E n t ty=true→∀xs ys b,eqL ty.kinds xs ys=some b→
 ∀w,(Op.equalIn (d+1) t (.agg (xs.map dL).toArray) (.agg (ys.map dL).toArray)).run P w=.ok b w
 | 0,_,_,_,_,_,h,_,_,_,_,_=>by cases h
 | n+1,0,hd,_,_,_,_,_,_,_,_,_=>by omega
 | n+1,d+1,hd,t,ty,hty,h,xs,ys,b,he,w=>by
  simp only [eqS,Bool.and_eq_true]at h
  obtain⟨h1,h2⟩:=h
  cases hu:P.underlying t with
  | none=>rw [hu]at h1;cases h1
  | some dd=>
   rw [hu]at h1
   cases dd<;>simp only at h1<;>try (cases h1;done)
   rename_i fs
   have hfo:P.fieldsOf t=fs:=by simp [Program.fieldsOf,hu]
   have hst:P.stoodInHeld t=false:=by simpa using h2
   rw [run_equalIn_struct w (d+1) t _ _ (by rw [hfo];exact hu) hst,hfo]
   exact EY hT d (Hv hT n d (by omega)) w fs.toList 0 ty.kinds xs ys b _ _ h1 he (fun i=>by simp) (fun i=>by simp)
theorem O5 (hT:∀t ty,E.tys t=some ty→TyOk P t ty){t:TypeId}{ty:Ty}(hty:E.tys t=some ty)(h:eqB P E t ty=true){xs ys:List AC}{b:Bool}(he:eqL ty.kinds xs ys=some b):
 P.eqGuardType P.depth t=false∧∀w,(Op.equal t (.agg (xs.map dL).toArray) (.agg (ys.map dL).toArray)).run P w=.ok b w:=by
 simp only [eqB,Bool.and_eq_true]at h
 refine⟨by simpa using h.2,fun w=> ?_⟩
 unfold Op.equal Op.maxDepth
 exact Hv hT 5 9999 (by omega) t ty hty h.1 xs ys b he w
def Ph (P:Program)(E:Env)(l:List (Nat×Ty)):Bool:=l.all fun x=>tyB P x.1 x.2&&(!x.2.eq || eqB P E x.1 x.2)
theorem Lw {l:List (Nat×Ty)}(hE:E.tys=lM l)(h:Ph P E l=true):Good P E:=by
 have hall:=List.all_eq_true.1 h
 have hT:∀t ty,E.tys t=some ty→TyOk P t ty:=fun t ty ht=>by
  rw [hE]at ht
  have:=hall _ (mF ht)
  simp only [Bool.and_eq_true]at this
  exact NA this.1
 refine⟨hT,fun t ty xs ys b ht hq he=> ?_⟩
 have ht':=ht
 rw [hE]at ht'
 have:=hall _ (mF ht')
 simp only [Bool.and_eq_true,hq,Bool.not_true,Bool.false_or]at this
 exact O5 hT (by rw [hE];exact ht') this.2 he
end Go.Abs
namespace Go.Abs
variable {E:Env} {call call':cQ}
def lt (call call':cQ):Prop:=∀f args blk r,call f args blk=(true,r)→call' f args blk=(true,r)
theorem tA (h:lt call call'){sg:Sig}{f:FuncId}{args:List AV}{st:St}{u:Upd}(hu:eT call sg f args st some=some u):eT call' sg f args st some=some u:=by
 unfold eT at hu⊢
 dsimp only at hu⊢
 split at hu<;>try (cases hu;done)
 rename_i args' bs h1 h2
 cases hc:call f args' bs with
 | mk known r=>
  rw [hc]at hu
  cases known with
  | false=>cases hu
  | true=>
   rw [h _ _ _ _ hc]
   exact hu
theorem AA (h:lt call call'){sg:Sig}{f:FuncId}{args:List AV}{st:St}{u:Upd}(hu:fL call sg f args st some=some u):fL call' sg f args st some=some u:=by
 obtain⟨u1,h1,h2,h3,rfl⟩:=jD _ _ _ _ _ hu
 unfold fL
 have hn:=iW (f:=fun u=>cond (el u.nu&&gI st.blk u.wr) (some (⟨u.val,none,[],[],u.rd⟩:Upd)) none) call' sg f args st some
 simp only [Option.bind_some]at hn
 rw [←hn,tA h h1]
 simp only [Option.bind_some,h2,el,h3,Bool.and_self,cond_true]
theorem mK (h:lt call call'){tk:List Nat}{sg:Option Sig}{o:Oper}{st:St}{u:Upd}(hu:actK E call tk sg o st some=some u):actK E call' tk sg o st some=some u:=by
 unfold actK at hu⊢
 cases hop:o.op<;>rw [hop]at hu<;>try exact hu
 case makeFunc fn first caps=>cases fn<;>exact hu
 case call c=>
  dsimp only at hu⊢
  cases hcal:c.callee<;>rw [hcal]at hu<;>try exact hu
  case builtin b=>cases b<;>exact hu
  case value g=>
   dsimp only at hu⊢
   split at hu<;>try (cases hu;done)
   split at hu<;>try (cases hu;done)
   split at hu
   · exact AA h hu
   · exact tA h hu
theorem kY {β:Type}(h:lt call call'){tk:List Nat}{sg:Option Sig}{o:Oper}{st:St}{K K':Upd→Option β}{r:β}(hK:∀u,K u=some r→K' u=some r)(hu:actK E call tk sg o st K=some r):actK E call' tk sg o st K'=some r:=by
 obtain⟨u,h1,h2⟩:=gW hu
 have:=lE E K' call' tk sg o st some
 simp only [Option.bind_some]at this
 rw [←this,mK h h1]
 exact hK u h2
theorem BY {β:Type}{want b:Bool}{x y x' y':Option β}{r:β}(h1:x=some r→x'=some r)(h2:y=some r→y'=some r)(h:uw want b x y=some r):uw want b x' y'=some r:=by
 cases want<;>cases b<;>first | exact h1 h | exact h2 h
theorem jP {β:Type}{all:List Oper}{o:Oper}{st:St}{yes no yes' no':St→Option β}{r:β}(h1:∀s,yes s=some r→yes' s=some r)(h2:∀s,no s=some r→no' s=some r)(h:gz all o st yes no=some r):
 gz all o st yes' no'=some r:=by
 unfold gz at h⊢
 split at h
 · exact h1 _ h
 · split at h
   · split at h
     · exact BY (h1 _) (h2 _) h
     · exact h2 _ h
     · cases h
   · exact h2 _ h
theorem gR {β:Type}(h:lt call call'){tk:List Nat}{sigs:List (Nat×Sig)}{all:List Oper}{K K':St→Option β}{r:β}(hK:∀s,K s=some r→K' s=some r):∀(l:List Oper) (i:Nat) (st:St),j3 E call tk sigs all l i st K=some r→j3 E call' tk sigs all l i st K'=some r
 | [],_,st,hr=>hK st hr
 | o::l,i,st,hr=>by
  simp only [j3]at hr⊢
  exact jP (fun s hs=>kY h (fun u hu=>gR h hK l (i+1) _ hu) hs) (fun s hs=>gR h hK l (i+1) _ hs) hr
theorem kJ {β:Type}(h:lt call call'){tk:List Nat}{sigs:List (Nat×Sig)}{all:List Oper}{bef:List (List Nat)}{K K':St→Option β}{r:β}(hK:∀s,K s=some r→K' s=some r):∀(l:List Oper) (i:Nat) (fps:List FP) (st:St),
 gb E call tk sigs all bef l i fps st K=some r→gb E call' tk sigs all bef l i fps st K'=some r
 | [],_,fps,st,hr=>by
  simp only [gb]at hr⊢
  cases ho:openOk bef fps 0 []with
  | false=>rw [ho]at hr;cases hr
  | true=>rw [ho]at hr;exact hK st hr
 | o::l,i,fps,st,hr=>by
  simp only [gb]at hr⊢
  exact jP (fun s hs=>kY h (fun u hu=>kJ h hK l (i+1) _ _ hu) hs) (fun s hs=>kJ h hK l (i+1) _ _ hs) hr
theorem sn {β:Type}{ops:List Oper}{p:Nat}{th:Bool}{st:St}{K K':St→Option β}{r:β}(hK:∀s,K s=some r→K' s=some r)(h:m8 E ops p th st K=some r):m8 E ops p th st K'=some r:=by
 rw [lc]at h⊢
 obtain⟨y,h1,h2⟩:=bind_some h
 rw [h1]
 exact hK _ h2
theorem nJ {β:Type}{r:β}:∀{l l':List (Option β)},l.length=l'.length→(∀(i:Nat) (h1:i<l.length) (h2:i<l'.length),l[i]=some r→l'[i]=some r)→qV l=some r→qV l'=some r
 | [],_,_,_,hr=>by cases hr
 | [x],[y],_,hk,hr=>hk 0 (by simp) (by simp) hr
 | [x],[],hl,_,_=>by simp at hl
 | [x],_::_::_,hl,_,_=>by simp at hl
 | x::y::l,[],hl,_,_=>by simp at hl
 | x::y::l,[_],hl,_,_=>by simp at hl
 | x::y::l,x'::y'::l',hl,hk,hr=>by
  obtain⟨h1,h2⟩:=so (show sh x (qV (y::l))=some r from hr)
  have h3:=hk 0 (by simp) (by simp) h1
  have h4:=nJ (l:=y::l) (l':=y'::l') (by simpa using hl) (fun i g1 g2=>hk (i+1) (by simpa using g1) (by simpa using g2)) h2
  show sh x' (qV (y'::l'))=some r
  unfold sh
  simp only [List.getElem_cons_zero]at h3
  rw [h3,h4,if_pos rfl]
theorem lR {β:Type}(h:lt call call'){tk:List Nat}{sigs:List (Nat×Sig)}{all:List Oper}{K K':St→Option β}{r:β}(hK:∀s,K s=some r→K' s=some r):∀(n:Nat) (done:List Nat) (st:St),exK E call tk sigs all n done st K=some r→exK E call' tk sigs all n done st K'=some r
 | 0,done,st,hr=>by
  simp only [exK]at hr⊢
  obtain⟨h1,h2⟩:=ab hr
  rw [h1,cond_true]
  exact hK _ h2
 | n+1,done,st,hr=>by
  have ih:=lR h (tk:=tk) (sigs:=sigs) (all:=all) hK n
  simp only [exK]at hr⊢
  split at hr
  · exact hK _ hr
  · rw [r9]at hr⊢
    refine nJ (by simp) (fun j g1 g2 hj=> ?_) hr
    simp only [List.getElem_map]at hj⊢
    split at hj
    · rename_i o ho
      simp only [ho]
      exact jP (fun s hs=>kY h (fun u hu=>ih _ _ hu) hs) (fun s hs=>ih _ _ hs) hj
    · cases hj
theorem xZ {β:Type}(h:lt call call'){an:Ann}{ops:List Oper}{draw:Bool}{st:St}{K K':St→Option β}{r:β}(hK:∀s,K s=some r→K' s=some r)(hr:gx E call an ops draw st K=some r):gx E call' an ops draw st K'=some r:=by
 unfold gx at hr⊢
 cases draw with
 | false=>
  dsimp only at hr⊢
  cases hp:xI an.takes with
  | none=>
   rw [hp]at hr
   dsimp only at hr⊢
   exact gR h hK _ _ _ hr
  | some p=>
   obtain⟨p,th⟩:=p
   rw [hp]at hr
   dsimp only at hr⊢
   obtain⟨hc,hr⟩:=ab hr
   rw [hc,cond_true]
   exact gR h (fun s hs=>sn (fun s hs=>gR h hK _ _ _ hs) hs) _ _ _ hr
 | true=>
  dsimp only at hr⊢
  cases hx:dF an.takes 9000000 with
  | true=>
   rw [hx]at hr
   exact lR h hK _ _ _ hr
  | false=>
  rw [hx]at hr
  dsimp only at hr⊢
  cases hb:backward ops 0 with
  | false=>rw [hb]at hr;cases hr
  | true=>rw [hb]at hr;exact kJ h hK _ _ _ _ hr
theorem BF {β:Type}{nw:Nat}{m:List (Nat×Bool)}{st:St}{K K':St→Option β}{r:β}(hK:∀s,K s=some r→K' s=some r)(hr:uu nw m st K=some r):uu nw m st K'=some r:=by
 unfold uu at hr⊢
 dsimp only at hr⊢
 split at hr
 · exact hK _ hr
 · cases hr
theorem D7 (h:lt call call'){fn:AFunc}{nw:Nat}{J J':pd}(hJ:∀s st r,J s st=some r→J' s st=some r):∀(d:Nat) (k:List AItem) (st:St) (r:List AV×List Block),go E call fn nw J d k st=some r→go E call' fn nw J' d k st=some r:=by
 intro d
 induction d with
 | zero=>intro k st r h;cases h
 | succ d ih=>
  intro k st r hr
  cases k with
  | nil=>exact hr
  | cons it k=>
   simp only [go]at hr⊢
   cases it with
   | cut m=>exact BF (fun s hs=>hJ _ _ _ hs) hr
   | inBlock id=>exact ih _ _ _ hr
   | inScope c an=>exact ih _ _ _ hr
   | inLoop c an=>exact ih _ _ _ hr
   | code c an=>
    cases c with
    | region id ops draw=>exact xZ h (fun s hs=>ih _ _ _ hs) hr
    | cond c x y=>
     dsimp only at hr⊢
     split at hr
     · rename_i b _
       cases b<;>exact ih _ _ _ hr
     · cases hr
    | exit id=>
     dsimp only at hr⊢
     split at hr
     · exact ih _ _ _ hr
     · cases hr
    | goto l=>
     dsimp only at hr⊢
     split at hr
     · exact ih _ _ _ hr
     · cases hr
    | ret=>exact hr
    | rangeFunc _ _ _ _=>cases hr
    | refuse _=>cases hr
    | skip=>exact ih _ _ _ hr
    | label _=>exact ih _ _ _ hr
    | seq _ _=>exact ih _ _ _ hr
    | block _ _=>exact ih _ _ _ hr
    | loop _=>exact ih _ _ _ hr
    | scope _=>exact ih _ _ _ hr
theorem tX (h:lt call call'){fn:AFunc}{nw:Nat}:∀(n m:Nat),n≤m→∀(k:List AItem) (st:St) (r:List AV×List Block),goF E call fn nw n k st=some r→goF E call' fn nw m k st=some r
 | 0,_,_,_,_,_,hr=>by cases hr
 | n+1,0,hnm,_,_,_,_=>by omega
 | n+1,m+1,hnm,k,st,r,hr=>by
  have ih:=tX h (fn:=fn) (nw:=nw) n m (by omega)
  rw [pl]at hr⊢
  revert hr
  generalize depth=d
  intro hr
  exact D7 h (fun s st r hs=>ih s st r hs) d k st r hr
theorem vE (h:lt call call'){n m:Nat}(hnm:n≤m){f:FuncId}{args:List AV}{blk:List Block}{r:List AV×List Block}(hr:aj E call n f args blk=some r):aj E call' m f args blk=some r:=by
 unfold aj at hr⊢
 split at hr
 · rename_i fn _
   cases hb:Nat.beq (bI args) (bI fn.params)with
   | false=>rw [hb]at hr;cases hr
   | true=>rw [hb]at hr;exact tX h n m hnm _ _ _ hr
 · exact hr
 · cases hr
section family
variable {C:Nat→cQ}
def rv (C:Nat→cQ):Prop:=∀n m,n≤m→lt (C n) (C m)
def l6 (C:Nat→cQ)(call:cQ):Prop:=∀f args blk r,call f args blk=(true,r)→∃n,C n f args blk=(true,r)
theorem wd (h:l6 C call){sg:Sig}{f:FuncId}{args:List AV}{st:St}{u:Upd}(hu:eT call sg f args st some=some u):∃n,eT (C n) sg f args st some=some u:=by
 unfold eT at hu⊢
 dsimp only at hu⊢
 split at hu<;>try (cases hu;done)
 rename_i args' bs h1 h2
 cases hc:call f args' bs with
 | mk known r=>
  rw [hc]at hu
  cases known with
  | false=>cases hu
  | true=>
   obtain⟨n,hn⟩:=h _ _ _ _ hc
   refine⟨n, ?_⟩
   rw [hn]
   exact hu
theorem Cu (h:l6 C call){sg:Sig}{f:FuncId}{args:List AV}{st:St}{u:Upd}(hu:fL call sg f args st some=some u):∃n,fL (C n) sg f args st some=some u:=by
 obtain⟨u1,h1,h2,h3,rfl⟩:=jD _ _ _ _ _ hu
 obtain⟨n,h4⟩:=wd h h1
 refine⟨n, ?_⟩
 unfold fL
 have hn:=iW (f:=fun u=>cond (el u.nu&&gI st.blk u.wr) (some (⟨u.val,none,[],[],u.rd⟩:Upd)) none) (C n) sg f args st some
 simp only [Option.bind_some]at hn
 rw [←hn,h4]
 simp only [Option.bind_some,h2,el,h3,Bool.and_self,cond_true]
theorem um (h:l6 C call){tk:List Nat}{sg:Option Sig}{o:Oper}{st:St}{u:Upd}(hu:actK E call tk sg o st some=some u):∃n,actK E (C n) tk sg o st some=some u:=by
 unfold actK at hu⊢
 cases hop:o.op<;>rw [hop]at hu<;>try exact⟨0,hu⟩
 case makeFunc fn first caps=>cases fn<;>exact⟨0,hu⟩
 case call c=>
  dsimp only at hu⊢
  cases hcal:c.callee<;>rw [hcal]at hu<;>try exact⟨0,hu⟩
  case builtin b=>cases b<;>exact⟨0,hu⟩
  case value g=>
   dsimp only at hu⊢
   split at hu<;>try (cases hu;done)
   split at hu<;>try (cases hu;done)
   split at hu
   · exact Cu h hu
   · exact wd h hu
theorem EF {β:Type}{want b:Bool}{x y:Option β}{x' y':Nat→Option β}{r:β}(h1:x=some r→∃n,x' n=some r)(h2:y=some r→∃n,y' n=some r)(h:uw want b x y=some r):∃n,uw want b (x' n) (y' n)=some r:=by
 cases want<;>cases b<;>first | exact h1 h | exact h2 h
theorem nG {β:Type}{all:List Oper}{o:Oper}{st:St}{yes no:St→Option β}{yes' no':Nat→St→Option β}{r:β}(h1:∀s,yes s=some r→∃n,yes' n s=some r)(h2:∀s,no s=some r→∃n,no' n s=some r)(h:gz all o st yes no=some r):
 ∃n,gz all o st (yes' n) (no' n)=some r:=by
 unfold gz at h⊢
 split at h
 · exact h1 _ h
 · split at h
   · split at h
     · exact EF (h1 _) (h2 _) h
     · exact h2 _ h
     · cases h
   · exact h2 _ h
def Lf {σ β:Type}(K:σ→Option β)(K':Nat→σ→Option β)(r:β):Prop:=
 (∀n m s,n≤m→K' n s=some r→K' m s=some r)∧∀s,K s=some r→∃n,K' n s=some r
theorem mm {β:Type}(hg:rv C)(h:l6 C call){tk:List Nat}{sigs:List (Nat×Sig)}{all:List Oper}{K:St→Option β}{K':Nat→St→Option β}{r:β}(hK:Lf K K' r):∀(l:List Oper) (i:Nat) (st:St),j3 E call tk sigs all l i st K=some r→∃n,j3 E (C n) tk sigs all l i st (K' n)=some r
 | [],_,st,hr=>hK.2 st hr
 | o::l,i,st,hr=>by
  simp only [j3]at hr⊢
  have hyes:∀s:St,actK E call tk (iw sigs i) o s (fun u=>j3 E call tk sigs all l (i+1) (s.apply o.dst u) K)=some r→
   ∃n,actK E (C n) tk (iw sigs i) o s (fun u=>j3 E (C n) tk sigs all l (i+1) (s.apply o.dst u) (K' n))=some r:=by
   intro s hs
   obtain⟨u,h1,h2⟩:=gW hs
   obtain⟨n1,hn1⟩:=um h h1
   obtain⟨n2,hn2⟩:=mm hg h hK l (i+1) _ h2
   refine⟨max n1 n2, ?_⟩
   have:=lE E (fun u=>j3 E (C (max n1 n2)) tk sigs all l (i+1) (s.apply o.dst u) (K' (max n1 n2))) (C (max n1 n2)) tk (iw sigs i) o s some
   simp only [Option.bind_some]at this
   rw [←this,mK (hg _ _ (Nat.le_max_left n1 n2)) hn1]
   exact gR (hg _ _ (Nat.le_max_right n1 n2)) (fun s hs=>hK.1 _ _ s (Nat.le_max_right n1 n2) hs) _ _ _ hn2
  have hno:∀s:St,j3 E call tk sigs all l (i+1) (s.apply o.dst ex) K=some r→∃n,j3 E (C n) tk sigs all l (i+1) (s.apply o.dst ex) (K' n)=some r:=
   fun s hs=>mm hg h hK l (i+1) _ hs
  exact nG hyes hno hr
theorem pJ {β:Type}(hg:rv C)(h:l6 C call){tk:List Nat}{sigs:List (Nat×Sig)}{all:List Oper}{bef:List (List Nat)}{K:St→Option β}{K':Nat→St→Option β}{r:β}(hK:Lf K K' r):∀(l:List Oper) (i:Nat) (fps:List FP) (st:St),
 gb E call tk sigs all bef l i fps st K=some r→∃n,gb E (C n) tk sigs all bef l i fps st (K' n)=some r
 | [],_,fps,st,hr=>by
  simp only [gb]at hr⊢
  cases ho:openOk bef fps 0 []with
  | false=>rw [ho]at hr;cases hr
  | true=>rw [ho]at hr;exact hK.2 st hr
 | o::l,i,fps,st,hr=>by
  simp only [gb]at hr⊢
  have hyes:∀s:St,actK E call tk (iw sigs i) o s (fun u=>gb E call tk sigs all bef l (i+1) (app fps [cU all o s u]) (s.apply o.dst u) K)=some r→
   ∃n,actK E (C n) tk (iw sigs i) o s (fun u=>gb E (C n) tk sigs all bef l (i+1) (app fps [cU all o s u]) (s.apply o.dst u) (K' n))=some r:=by
   intro s hs
   obtain⟨u,h1,h2⟩:=gW hs
   obtain⟨n1,hn1⟩:=um h h1
   obtain⟨n2,hn2⟩:=pJ hg h hK l (i+1) _ _ h2
   refine⟨max n1 n2, ?_⟩
   have:=lE E (fun u=>gb E (C (max n1 n2)) tk sigs all bef l (i+1) (app fps [cU all o s u]) (s.apply o.dst u) (K' (max n1 n2))) (C (max n1 n2)) tk (iw sigs i) o s some
   simp only [Option.bind_some]at this
   rw [←this,mK (hg _ _ (Nat.le_max_left n1 n2)) hn1]
   exact kJ (hg _ _ (Nat.le_max_right n1 n2)) (fun s hs=>hK.1 _ _ s (Nat.le_max_right n1 n2) hs) _ _ _ _ hn2
  have hno:∀s:St,gb E call tk sigs all bef l (i+1) (app fps [cU all o s ex]) (s.apply o.dst ex) K=some r→∃n,gb E (C n) tk sigs all bef l (i+1) (app fps [cU all o s ex]) (s.apply o.dst ex) (K' n)=some r:=
   fun s hs=>pJ hg h hK l (i+1) _ _ hs
  exact nG hyes hno hr
theorem DS {β:Type}(hg:rv C)(h:l6 C call){tk:List Nat}{sigs:List (Nat×Sig)}{all:List Oper}{K:St→Option β}{K':Nat→St→Option β}{r:β}(hK:Lf K K' r):∀(n:Nat) (done:List Nat) (st:St),exK E call tk sigs all n done st K=some r→∃m,exK E (C m) tk sigs all n done st (K' m)=some r
 | 0,done,st,hr=>by
  simp only [exK]at hr⊢
  obtain⟨h1,h2⟩:=ab hr
  rw [h1]
  exact hK.2 _ h2
 | n+1,done,st,hr=>by
  have ih:=DS hg h (tk:=tk) (sigs:=sigs) (all:=all) hK n
  simp only [exK]at hr⊢
  split at hr
  · exact hK.2 _ hr
  · rename_i i l _
    rw [r9]at hr
    have hone:∀j∈i::l,∃m,∀m',m≤m'→(match nth all j with | some o=>gz all o st (fun st=>actK E (C m') tk (iw sigs j) o st fun u=>exK E (C m') tk sigs all n (j::done) (st.apply o.dst u) (K' m')) (fun st=>exK E (C m') tk sigs all n (j::done) (st.apply o.dst ex) (K' m')) | none=>none)=some r:=by
     intro j hj
     have hj2:=nt hr _ (List.mem_map_of_mem hj)
     cases ho:nth all j with
     | none=>simp only [ho]at hj2;cases hj2
     | some o=>
      simp only [ho]at hj2
      have hyes:∀s:St,actK E call tk (iw sigs j) o s (fun u=>exK E call tk sigs all n (j::done) (s.apply o.dst u) K)=some r→
       ∃n1,actK E (C n1) tk (iw sigs j) o s (fun u=>exK E (C n1) tk sigs all n (j::done) (s.apply o.dst u) (K' n1))=some r:=by
       intro s hs
       obtain⟨u,h1,h2⟩:=gW hs
       obtain⟨n1,hn1⟩:=um h h1
       obtain⟨n2,hn2⟩:=ih _ _ h2
       refine⟨max n1 n2, ?_⟩
       have:=lE E (fun u=>exK E (C (max n1 n2)) tk sigs all n (j::done) (s.apply o.dst u) (K' (max n1 n2))) (C (max n1 n2)) tk (iw sigs j) o s some
       simp only [Option.bind_some]at this
       rw [←this,mK (hg _ _ (Nat.le_max_left n1 n2)) hn1]
       exact lR (hg _ _ (Nat.le_max_right n1 n2)) (fun s hs=>hK.1 _ _ s (Nat.le_max_right n1 n2) hs) _ _ _ hn2
      obtain⟨m,hm⟩:=nG hyes (fun s hs=>ih _ _ hs) hj2
      refine⟨m,fun m' hm'=> ?_⟩
      exact jP (fun s hs=>kY (hg _ _ hm') (fun u hu=>lR (hg _ _ hm') (fun s hs=>hK.1 _ _ s hm' hs) _ _ _ hu) hs) (fun s hs=>lR (hg _ _ hm') (fun s hs=>hK.1 _ _ s hm' hs) _ _ _ hs) hm
    have hall:∀(l':List Nat),(∀j∈l',j∈i::l)→∃m,∀m',m≤m'→∀j∈l',(match nth all j with | some o=>gz all o st (fun st=>actK E (C m') tk (iw sigs j) o st fun u=>exK E (C m') tk sigs all n (j::done) (st.apply o.dst u) (K' m')) (fun st=>exK E (C m') tk sigs all n (j::done) (st.apply o.dst ex) (K' m')) | none=>none)=some r:=by
     intro l'
     induction l' with
     | nil=>intro _;exact⟨0,fun _ _ j hj=>by cases hj⟩
     | cons j l' ihl=>
      intro hsub
      obtain⟨m1,h1⟩:=hone j (hsub j (by simp))
      obtain⟨m2,h2⟩:=ihl fun k hk=>hsub k (by simp [hk])
      refine⟨max m1 m2,fun m' hm' k hk=> ?_⟩
      rcases List.mem_cons.1 hk with rfl | hk
      · exact h1 m' (by omega)
      · exact h2 m' (by omega) k hk
    obtain⟨m,hm⟩:=hall (i::l) fun j hj=>hj
    refine⟨m, ?_⟩
    rw [r9]
    refine nJ (by simp) (fun j g1 g2 _=> ?_) hr
    simp only [List.getElem_map]
    exact hm m (Nat.le_refl _) _ (List.getElem_mem _)
theorem yW {β:Type}(hg:rv C)(h:l6 C call){an:Ann}{ops:List Oper}{draw:Bool}{st:St}{K:St→Option β}{K':Nat→St→Option β}{r:β}(hK:Lf K K' r)(hr:gx E call an ops draw st K=some r):∃n,gx E (C n) an ops draw st (K' n)=some r:=by
 unfold gx at hr⊢
 cases draw with
 | false=>
  dsimp only at hr⊢
  cases hp:xI an.takes with
  | none=>
   rw [hp]at hr
   dsimp only at hr⊢
   exact mm hg h hK _ _ _ hr
  | some p=>
   obtain⟨p,th⟩:=p
   rw [hp]at hr
   dsimp only at hr⊢
   obtain⟨hc,hr⟩:=ab hr
   rw [hc]
   simp only [cond_true]
   refine mm hg h (K':=fun n st1=>m8 E ops p th st1 fun st2=>j3 E (C n) an.takes an.sigs ops (ag ops (p+2)) (p+2) st2 (K' n)) ⟨fun n m s hnm hs=>sn (fun s hs=>gR (hg _ _ hnm) (fun s hs=>hK.1 _ _ s hnm hs) _ _ _ hs) hs,fun s hs=> ?_⟩ _ _ _ hr
   rw [lc]at hs
   obtain⟨y,h1,h2⟩:=bind_some hs
   obtain⟨n,hn⟩:=mm hg h hK _ _ _ h2
   refine⟨n, ?_⟩
   show(m8 E ops p th s fun st2=>j3 E (C n) an.takes an.sigs ops (ag ops (p+2)) (p+2) st2 (K' n))=some r
   rw [lc,h1]
   exact hn
 | true=>
  dsimp only at hr⊢
  cases hx:dF an.takes 9000000 with
  | true=>
   rw [hx]at hr
   exact DS hg h hK _ _ _ hr
  | false=>
  rw [hx]at hr
  dsimp only at hr⊢
  cases hb:backward ops 0 with
  | false=>rw [hb]at hr;cases hr
  | true=>rw [hb]at hr;exact pJ hg h hK _ _ _ _ hr
def SW (J:pd)(J':Nat→pd):Prop:=
 (∀n m s st r,n≤m→J' n s st=some r→J' m s st=some r)∧∀s st r,J s st=some r→∃n,J' n s st=some r
theorem OD (hg:rv C)(h:l6 C call){fn:AFunc}{nw:Nat}{J:pd}{J':Nat→pd}(hJ:SW J J'):∀(d:Nat) (k:List AItem) (st:St) (r:List AV×List Block),go E call fn nw J d k st=some r→∃n,go E (C n) fn nw (J' n) d k st=some r:=by
 intro d
 induction d with
 | zero=>intro k st r h;cases h
 | succ d ih=>
  intro k st r hr
  cases k with
  | nil=>exact⟨0,hr⟩
  | cons it k=>
   simp only [go]at hr⊢
   cases it with
   | cut m=>
    dsimp only at hr⊢
    unfold uu at hr⊢
    dsimp only at hr⊢
    split at hr
    · exact hJ.2 _ _ _ hr
    · cases hr
   | inBlock id=>exact ih _ _ _ hr
   | inScope c an=>exact ih _ _ _ hr
   | inLoop c an=>exact ih _ _ _ hr
   | code c an=>
    cases c with
    | region id ops draw=>
     exact yW hg h ⟨fun n m s hnm hs=>D7 (hg _ _ hnm) (fun s st r hs=>hJ.1 _ _ _ _ _ hnm hs) _ _ _ _ hs,fun s hs=>ih _ _ _ hs⟩ hr
    | cond c x y=>
     dsimp only at hr⊢
     split at hr
     · rename_i b _
       cases b<;>exact ih _ _ _ hr
     · cases hr
    | exit id=>
     dsimp only at hr⊢
     split at hr
     · exact ih _ _ _ hr
     · cases hr
    | goto l=>
     dsimp only at hr⊢
     split at hr
     · exact ih _ _ _ hr
     · cases hr
    | ret=>exact⟨0,hr⟩
    | rangeFunc _ _ _ _=>cases hr
    | refuse _=>cases hr
    | skip=>exact ih _ _ _ hr
    | label _=>exact ih _ _ _ hr
    | seq _ _=>exact ih _ _ _ hr
    | block _ _=>exact ih _ _ _ hr
    | loop _=>exact ih _ _ _ hr
    | scope _=>exact ih _ _ _ hr
theorem Dr (hg:rv C)(h:l6 C call){fn:AFunc}{nw:Nat}:∀(n:Nat) (k:List AItem) (st:St) (r:List AV×List Block),goF E call fn nw n k st=some r→∃m,goF E (C m) fn nw n k st=some r
 | 0,_,_,_,hr=>by cases hr
 | n+1,k,st,r,hr=>by
  have ih:=Dr hg h (fn:=fn) (nw:=nw) n
  have mono:∀a b,a≤b→∀s st r,goF E (C a) fn nw n s st=some r→goF E (C b) fn nw n s st=some r:=fun a b hab s st r hs=>tX (hg _ _ hab) n n (Nat.le_refl n) s st r hs
  rw [pl]at hr
  have:∃m,go E (C m) fn nw (goF E (C m) fn nw n) depth k st=some r:=by
   revert hr
   generalize depth=d
   intro hr
   exact OD hg h ⟨fun a b s st r hab hs=>mono a b hab s st r hs,fun s st r hs=>ih s st r hs⟩ d k st r hr
  obtain⟨m,hm⟩:=this
  exact⟨m,by rw [pl];exact hm⟩
theorem Iu (hg:rv C)(h:l6 C call){n:Nat}{f:FuncId}{args:List AV}{blk:List Block}{r:List AV×List Block}(hr:aj E call n f args blk=some r):∃m,aj E (C m) n f args blk=some r:=by
 unfold aj at hr⊢
 split at hr
 · rename_i fn _
   cases hb:Nat.beq (bI args) (bI fn.params)with
   | false=>rw [hb]at hr;cases hr
   | true=>rw [hb]at hr;exact Dr hg h n _ _ _ hr
 · exact⟨0,hr⟩
 · cases hr
end family
def nr (r:List Cell)(j:Nat):Int:=(dV r j).toInt
def ns (r:List Cell)(j:Nat):List UInt8:=(dV r j).toStr
def nl (r:List Cell)(j:Nat):RL:=(dV r j).toRows
abbrev Spec :=List AV→List Block→Ans
def aa (L:List (Nat×Spec)):cQ:=fun f args blk=>match lM L f with
 | some s=>s args blk
 | none=>(false,([],[]))
def VS (E:Env)(s:Spec)(L:List (Nat×Spec))(f:Nat):Prop:=∀args blk r,s args blk=(true,r)→∃n,aj E (aa L) n f args blk=some r∨run E n f args blk=(true,r)
abbrev LS :=List (Nat×Spec)
def az (E:Env):List (Nat×Spec)→Prop
 | []=>True
 | (f,s)::L=>(∀args blk r,s args blk=(true,r)→∃n,aj E (aa L) n f args blk=some r∨run E n f args blk=(true,r))∧az E L
theorem CB (E:Env):rv (run E)
 | 0,_,_=>fun _ _ _ _ h=>by cases h
 | n+1,0,h=>by omega
 | n+1,m+1,h=>fun f args blk r hr=>congrArg zm (vE (CB E n m (by omega)) (show n≤m by omega) (Ba hr))
theorem vq :∀(L:List (Nat×Spec)),az E L→l6 (run E) (aa L)
 | [],_=>fun f args blk r h=>by simp [aa,lM]at h
 | (g,s)::L,hv=>fun f args blk r h=>by
  have ih:=vq L hv.2
  by_cases e:g=f
  · subst e
    simp only [aa,lM,co,cond_true]at h
    obtain⟨n,hn | hn⟩:=hv.1 _ _ _ h
    · obtain⟨m,hm⟩:=Iu (CB E) ih hn
      exact⟨max n m+1,congrArg zm (vE (CB E m _ (Nat.le_max_right n m)) (Nat.le_max_left n m) hm)⟩
    · exact⟨n,hn⟩
  · simp only [aa,lM,dH e,cond_false]at h
    exact ih f args blk r h
end Go.Abs
namespace Go.Abs
theorem cs {α:Type}{b:Bool}{x y r:α}(h1:b=true→x=r)(h2:b=false→y=r):cond b x y=r:=by
 cases b
 · exact h2 rfl
 · exact h1 rfl
theorem ct {α:Type}{b:Bool}{x y r:α}(h:b=true)(h1:x=r):cond b x y=r:=by
 subst h;exact h1
theorem cf {α:Type}{b:Bool}{x y r:α}(h:b=false)(h1:y=r):cond b x y=r:=by
 subst h;exact h1
theorem tJ (n:Int):IntKind.i64.wrap n=if 9223372036854775808≤n%18446744073709551616 then n%18446744073709551616 - 18446744073709551616 else n%18446744073709551616:=by
 have e:IntKind.i64.wrap n=if(IntKind.i64.signed&&decide (n%2^IntKind.i64.bits≥2^(IntKind.i64.bits - 1)))=true then n%2^IntKind.i64.bits - 2^IntKind.i64.bits else n%2^IntKind.i64.bits:=rfl
 have h1:(2:Int)^IntKind.i64.bits=18446744073709551616:=by decide
 have h2:(2:Int)^(IntKind.i64.bits - 1)=9223372036854775808:=by decide
 rw [e,h1,h2]
 simp [IntKind.signed]
theorem ji (n:Int):IntKind.u64.wrap n=n%18446744073709551616:=by
 have h1:(2:Int)^IntKind.u64.bits=18446744073709551616:=by decide
 have e:IntKind.u64.wrap n=if(IntKind.u64.signed&&decide (n%2^IntKind.u64.bits≥2^(IntKind.u64.bits - 1)))=true then n%2^IntKind.u64.bits - 2^IntKind.u64.bits else n%2^IntKind.u64.bits:=rfl
 rw [e,h1]
 simp [IntKind.signed]
theorem qq (n:Int):IntKind.u8.wrap n=n%256:=by
 have h1:(2:Int)^IntKind.u8.bits=256:=by decide
 have e:IntKind.u8.wrap n=if(IntKind.u8.signed&&decide (n%2^IntKind.u8.bits≥2^(IntKind.u8.bits - 1)))=true then n%2^IntKind.u8.bits - 2^IntKind.u8.bits else n%2^IntKind.u8.bits:=rfl
 rw [e,h1]
 simp [IntKind.signed]
theorem aA {n:Int}(h0: -9223372036854775808≤n)(h:n≤9223372036854775807):IntKind.i64.wrap n=n:=by
 rw [tJ]
 split<;>omega
theorem eN {n:Int}(h0:0≤n)(h:n≤18446744073709551615):IntKind.u64.wrap n=n:=by
 rw [ji]
 omega
theorem MD {n:Int}(h0:0≤n)(h:n≤255):IntKind.u8.wrap n=n:=by
 rw [qq]
 omega
theorem cm (n:Int):0≤IntKind.u64.wrap n∧IntKind.u64.wrap n<18446744073709551616:=by
 rw [ji]
 omega
theorem aC {i:Int}{n:Nat}(h0:0≤i)(h:i<n):inB i n=true:=by simp [inB,h0,h]
theorem ax {i n:Nat}(h:i<n):inB (i:Int) n=true:=by simp [inB,h]
theorem gT (l:Rows)(i j:Nat):rA (l.drop i) j=rA l (i+j):=by
 induction i generalizing l with
 | zero=>simp
 | succ i ih=>
  cases l with
  | nil=>simp [rA]
  | cons r l=>rw [List.drop_succ_cons,ih,show i+1+j=(i+j)+1 by omega,rA]
theorem CC (l:Rows)(i j:Nat)(h:j<i):rA (l.take i) j=rA l j:=by
 induction i generalizing l j with
 | zero=>omega
 | succ i ih=>
  cases l with
  | nil=>simp
  | cons r l=>
   cases j with
   | zero=>rfl
   | succ j=>rw [List.take_succ_cons,rA,rA];exact ih l j (by omega)
theorem aE (l:Rows)(i:Nat)(h:i<l.length):l.drop i=rA l i::l.drop (i+1):=by
 rw [cg h,List.drop_eq_getElem_cons h]
theorem qk (l:Rows)(i:Nat)(h:i<l.length):l.take (i+1)=l.take i++ [rA l i]:=by
 rw [cg h,List.take_succ_eq_append_getElem h]
theorem ah {g:Bool}{x r:List AV×List Block}(h:(g,x)=(true,r)):g=true∧x=r:=by
 cases h;exact⟨rfl,rfl⟩
end Go.Abs
namespace Go.Proofs.YtejimgikldiajaaGreat
open Go.Abs
def nK :List Cell→Bool
 | [.int .u8 n]=>decide (0≤n)&&decide (n<256)
 | _=>false
def okB (x:RL):Bool:=x.all nK
def fx :Nat→Int→RL
 | 0,_=> []
 | k+1,v=>if v<128 then [[.int .u8 v]]else [.int .u8 (v%128+128)]::fx k (v / 128)
def bc (v:Int):RL:=fx 10 v
def jo (x:RL)(v:Int):Bool:=decide (x.length≤4000000)&&(decide (0≤v)&&decide (v<18446744073709551616))
def cB :Nat→Int→Int→RL→Int×Int×Int
 | 0,_,_,_=>(0,0,9)
 | _+1,_,_,[]=>(0,0,1)
 | k+1,i,acc,r::rs=>
  if k=0∧1<nr r 0 then(0,0,9)
  else if nr r 0<128 then(if nr r 0=0∧0<i then(0,0,2)else(acc+nr r 0*128^i.toNat,i+1,0))
  else cB k (i+1) (acc+(nr r 0 - 128)*128^i.toNat) rs
def aD (x:RL):Int×Int×Int:=cB 10 0 0 x
def jG (x:RL):Bool:=decide (x.length≤4000000)
def aT (x:RL)(at':Int):Bool:=okB x&&(jG x&&(decide (0≤at')&&decide (at'≤x.length)))
def aI (x:RL):Bool:=okB x&&jG x
def am (x:RL):Int×Int×Int:=
 if(aD x).2.2≠0 then(0,0,(aD x).2.2)else if 2147483647<(aD x).1 then(0,0,9)else aD x
def af (b:RL)(at' e:Int):Int×Int×Int:=
 if e≠0 then(0,at',e)
 else if(am (b.drop at'.toNat)).2.2≠0 then(0,at',(am (b.drop at'.toNat)).2.2)
 else((am (b.drop at'.toNat)).1,at'+(am (b.drop at'.toNat)).2.1,0)
def cj (x:RL):Nat→Int→RL→RL×Int×Int
 | 0,at',acc=>(acc,at',0)
 | k+1,at',acc=>
  if(am (x.drop at'.toNat)).2.2≠0 then([],0,(am (x.drop at'.toNat)).2.2)
  else cj x k (at'+(am (x.drop at'.toNat)).2.1) (acc++ [[.int .i64 (am (x.drop at'.toNat)).1]])
def ai (x:RL)(c:Int):RL×Int×Int:=cj x c.toNat 0 []
def aP :RL→RL
 | []=> []
 | r::rs=>bc (IntKind.wrap .u64 (nr r 0))++aP rs
def qm (x y:Int):Int:=if x<y then -1 else if y<x then 1 else 0
def vj :RL→Int
 | []=>0
 | r::rs=>if nr r 0≠0 then nr r 0 else vj rs
def aK (n k:Int):Int:=if k<1 then 0 else n%k
def ad (n b j:Int):Int:=(n%1099511627776) / b^j.toNat%b
def gAt (l:RL)(j:Int):Int:=if l.length=0 then 0 else nr (rA l (j%l.length).toNat) 0
end Go.Proofs.YtejimgikldiajaaGreat
namespace Go.Proofs.YtejimgikldiajaaGreat
open Go.Abs
theorem or8 {a:Int}(h0:0≤a)(h:a<256):orI .u8 a 128=a%128+128:=by
 have:∀n:Fin 256,orI .u8 ((n.val:Nat):Int) 128=((n.val:Nat):Int)%128+128:=by decide+kernel
 have e:=this ⟨a.toNat,by omega⟩
 simp only [Int.toNat_of_nonneg h0]at e
 exact e
theorem xO {a:Int}(h0:0≤a)(h:a<256):eH .u8 a 128=a%128:=by
 have:∀n:Fin 256,eH .u8 ((n.val:Nat):Int) 128=((n.val:Nat):Int)%128:=by decide+kernel
 have e:=this ⟨a.toNat,by omega⟩
 simp only [Int.toNat_of_nonneg h0]at e
 exact e
theorem P0 (v:Int):nD .u64 v 7=v / 128:=by
 unfold nD
 have e:(min (7:Int).toNat IntKind.u64.bits)=7:=by decide
 rw [e,Int.fdiv_eq_ediv_of_nonneg]
 · rfl
 · decide
theorem HZ (i:Nat):(128:Int)^i=((2^(7*i):Nat):Int):=by
 rw [Nat.pow_mul]
 simp
theorem Tz {a:Nat}{c k:Nat}(ha:a<2^k)(h:a+c*2^k<18446744073709551616):orI .u64 (a:Int) ((c*2^k:Nat):Int)=((a+c*2^k:Nat):Int):=by
 unfold orI
 have hb:IntKind.u64.bits=64:=rfl
 rw [hb,BitVec.ofInt_natCast,BitVec.ofInt_natCast,BitVec.toNat_or,BitVec.toNat_ofNat,BitVec.toNat_ofNat]
 have h2:(2:Nat)^64=18446744073709551616:=by decide
 rw [h2,Nat.mod_eq_of_lt (by omega),Nat.mod_eq_of_lt (by omega)]
 have:a ||| c*2^k=a+c*2^k:=by
  have:=Nat.two_pow_add_eq_or_of_lt ha c
  rw [Nat.or_comm,Nat.mul_comm c,←this]
  omega
 rw [this,eN (by omega) (by omega)]
theorem Po {c k:Nat}(hk:k≤64)(h:c*2^k<18446744073709551616):iA .u64 (c:Int) (k:Int)=((c*2^k:Nat):Int):=by
 unfold iA
 have hb:IntKind.u64.bits=64:=rfl
 rw [hb,Int.toNat_natCast,Nat.min_eq_left hk]
 have:(c:Int)*2^k=((c*2^k:Nat):Int):=by simp
 rw [this,eN (by omega) (by omega)]
theorem nA {acc c:Int}{i:Nat}(h0:0≤acc)(h1:acc<128^i)(hc0:0≤c)(hc1:c<128)(hi:i≤9)(h9:i=9→c≤1):
 orI .u64 acc (iA .u64 c ((7*i:Nat):Int))=acc+c*128^i∧0≤acc+c*128^i∧acc+c*128^i<128^(i+1)∧acc+c*128^i<18446744073709551616:=by
 obtain⟨a,rfl⟩:=Int.eq_ofNat_of_zero_le h0
 obtain⟨d,rfl⟩:=Int.eq_ofNat_of_zero_le hc0
 rw [HZ]at h1⊢
 have ha:a<2^(7*i):=by exact_mod_cast h1
 have hlim:a+d*2^(7*i)<18446744073709551616:=by
  have hd:d<128:=by omega
  have hcase:i=0∨i=1∨i=2∨i=3∨i=4∨i=5∨i=6∨i=7∨i=8∨i=9:=by omega
  rcases hcase with rfl | rfl | rfl | rfl | rfl | rfl | rfl | rfl | rfl | rfl
  · have e:(2:Nat)^(7*0)=1:=by decide
    rw [e]at ha⊢
    omega
  · have e:(2:Nat)^(7*1)=128:=by decide
    rw [e]at ha⊢
    omega
  · have e:(2:Nat)^(7*2)=16384:=by decide
    rw [e]at ha⊢
    omega
  · have e:(2:Nat)^(7*3)=2097152:=by decide
    rw [e]at ha⊢
    omega
  · have e:(2:Nat)^(7*4)=268435456:=by decide
    rw [e]at ha⊢
    omega
  · have e:(2:Nat)^(7*5)=34359738368:=by decide
    rw [e]at ha⊢
    omega
  · have e:(2:Nat)^(7*6)=4398046511104:=by decide
    rw [e]at ha⊢
    omega
  · have e:(2:Nat)^(7*7)=562949953421312:=by decide
    rw [e]at ha⊢
    omega
  · have e:(2:Nat)^(7*8)=72057594037927936:=by decide
    rw [e]at ha⊢
    omega
  · have e:(2:Nat)^(7*9)=9223372036854775808:=by decide
    rw [e]at ha⊢
    have:=h9 rfl
    omega
 have e:((a:Nat):Int)+((d:Nat):Int)*((2^(7*i):Nat):Int)=((a+d*2^(7*i):Nat):Int):=by simp
 rw [e,Po (by omega) (by omega),Tz ha hlim,HZ]
 refine⟨rfl,by omega, ?_,by omega⟩
 have:(2:Nat)^(7*(i+1))=128*2^(7*i):=by rw [Nat.mul_add,Nat.pow_add,Nat.mul_comm]
 rw [this]
 have hd:d<128:=by omega
 have:d*2^(7*i)≤127*2^(7*i):=Nat.mul_le_mul_right _ (by omega)
 have:a+d*2^(7*i)<128*2^(7*i):=by omega
 exact_mod_cast this
theorem kl {r:List Cell}(h:nK r=true):0≤nr r 0∧nr r 0<256∧r=[.int .u8 (nr r 0)]:=by
 unfold nK at h
 split at h
 · simp only [Bool.and_eq_true,decide_eq_true_eq]at h
   exact⟨h.1,h.2,rfl⟩
 · cases h
theorem tn {x:RL}(h:okB x=true){i:Nat}(hi:i<x.length):0≤nr (rA x i) 0∧nr (rA x i) 0<256:=by
 unfold okB at h
 have:=List.all_eq_true.1 h _ (List.getElem_mem hi)
 rw [cg hi]
 exact⟨(kl this).1,(kl this).2.1⟩
theorem zI {x:RL}(h:okB x=true)(n:Nat):okB (x.drop n)=true:=by
 unfold okB at h⊢
 rw [List.all_eq_true]at h⊢
 exact fun r hr=>h r (List.mem_of_mem_drop hr)
theorem dG {x y:RL}(hx:okB x=true)(hy:okB y=true):okB (x++y)=true:=by
 unfold okB at hx hy⊢
 rw [List.all_append,hx,hy];rfl
theorem Id {x:RL}(h:okB x=true)(n:Nat):okB (x.take n)=true:=by
 unfold okB at h⊢
 rw [List.all_eq_true]at h⊢
 exact fun r hr=>h r (List.mem_of_mem_take hr)
theorem vB :∀(k:Nat) (v:Int),(fx k v).length≤k
 | 0,_=>by simp [fx]
 | k+1,v=>by
  unfold fx
  split
  · simp
  · simp [vB k]
theorem dJ (v:Int):(bc v).length≤10:=vB 10 v
theorem iV :∀(k:Nat) (v:Int),0≤v→okB (fx k v)=true
 | 0,_,_=>rfl
 | k+1,v,h=>by
  unfold fx
  split
  · simp [okB,nK];omega
  · have:=iV k (v / 128) (by omega)
    unfold okB at this⊢
    rw [List.all_cons,this,Bool.and_true]
    simp [nK];omega
theorem zE (rest:RL):∀(k:Nat) (i acc v:Int),k≤10→i+k=10→0≤i→0≤v→v*128^i.toNat<18446744073709551616→(v=0→i=0)→
 cB k i acc (fx k v++rest)=(acc+v*128^i.toNat,i+(fx k v).length,0):=by
 intro k
 induction k with
 | zero=>
  intro i acc v _ hi h0 hv hlt hz
  have:i=10:=by omega
  subst this
  have:v=0:=by
   have e:(128:Int)^(10:Int).toNat=1180591620717411303424:=by decide
   rw [e]at hlt
   omega
  have:=hz this
  omega
 | succ k ih=>
  intro i acc v hk hi h0 hv hlt hz
  unfold fx
  by_cases hs:v<128
  · rw [if_pos hs]
    simp only [List.cons_append,List.nil_append,cB]
    have e:nr [Cell.int .u8 v] 0=v:=rfl
    rw [e,if_neg,if_pos hs,if_neg]
    · simp
    · rintro⟨h1,h2⟩
      have:=hz h1
      omega
    · rintro⟨h1,h2⟩
      have h9:i=9:=by omega
      subst h9
      have e:(128:Int)^(9:Int).toNat=9223372036854775808:=by decide
      rw [e]at hlt
      omega
  · rw [if_neg hs]
    simp only [List.cons_append,cB]
    have e:nr [Cell.int .u8 (v%128+128)] 0=v%128+128:=rfl
    have e1:(i+1).toNat=i.toNat+1:=by omega
    have e2:(128:Int)^(i.toNat+1)=128^i.toNat*128:=Int.pow_succ _ _
    have hp:(0:Int)<128^i.toNat:=Int.pow_pos (by decide)
    have hdiv:v / 128*128≤v:=by omega
    have e3:v / 128*128^(i+1).toNat=(v / 128*128)*128^i.toNat:=by
     rw [e1,e2,Int.mul_comm (128^i.toNat) 128,Int.mul_assoc]
    have hle:(v / 128*128)*128^i.toNat≤v*128^i.toNat:=Int.mul_le_mul_of_nonneg_right hdiv (by omega)
    rw [e,if_neg,if_neg (by omega),ih (i+1) _ (v / 128) (by omega) (by omega) (by omega) (by omega) (by rw [e3];omega) (by omega)]
    · rw [e3]
      have e4:acc+(v%128+128 - 128)*128^i.toNat+v / 128*128*128^i.toNat=acc+v*128^i.toNat:=by
       rw [Int.add_assoc,←Int.add_mul]
       congr 2
       omega
      rw [e4]
      simp only [List.length_cons,Prod.mk.injEq,true_and,and_true]
      omega
    · rintro⟨h1,h2⟩
      have h9:i=9:=by omega
      subst h9
      have e:(128:Int)^(9:Int).toNat=9223372036854775808:=by decide
      rw [e]at hlt
      omega
theorem iZ {v:Int}(h0:0≤v)(h:v<18446744073709551616)(rest:RL):aD (bc v++rest)=(v,((bc v).length:Int),0):=by
 have:=zE rest 10 0 0 v (by omega) (by omega) (by omega) h0 (by simpa using h) (fun _=>rfl)
 unfold aD bc
 rw [this]
 simp
theorem FN :∀(k:Nat) (i acc v:Int) (n:Nat),i+k=10→0≤v→v*128^i.toNat<18446744073709551616→n<(fx k v).length→cB k i acc ((fx k v).take n)=(0,0,1):=by
 intro k
 induction k with
 | zero=>intro i acc v n _ _ _ hn;simp [fx]at hn
 | succ k ih=>
  intro i acc v n hi hv hlt hn
  unfold fx at hn⊢
  by_cases hs:v<128
  · rw [if_pos hs]at hn⊢
    have:n=0:=by simpa using hn
    subst this
    rfl
  · rw [if_neg hs]at hn⊢
    cases n with
    | zero=>rfl
    | succ n=>
     rw [List.take_succ_cons]
     simp only [cB]
     have e:nr [Cell.int .u8 (v%128+128)] 0=v%128+128:=rfl
     by_cases h0:0≤i
     · have e1:(i+1).toNat=i.toNat+1:=by omega
       have e2:(128:Int)^(i.toNat+1)=128^i.toNat*128:=Int.pow_succ _ _
       have hp:(0:Int)<128^i.toNat:=Int.pow_pos (by decide)
       have hdiv:v / 128*128≤v:=by omega
       have e3:v / 128*128^(i+1).toNat=(v / 128*128)*128^i.toNat:=by
        rw [e1,e2,Int.mul_comm (128^i.toNat) 128,Int.mul_assoc]
       have hle:(v / 128*128)*128^i.toNat≤v*128^i.toNat:=Int.mul_le_mul_of_nonneg_right hdiv (by omega)
       rw [e,if_neg,if_neg (by omega)]
       · exact ih (i+1) _ (v / 128) n (by omega) (by omega) (by rw [e3];omega) (by simpa using hn)
       · rintro⟨h1,h2⟩
         have h9:i=9:=by omega
         subst h9
         have e:(128:Int)^(9:Int).toNat=9223372036854775808:=by decide
         rw [e]at hlt
         omega
     · have e1:i.toNat=0:=by omega
       have e2:(i+1).toNat=0:=by omega
       rw [e1]at hlt
       rw [e,if_neg (by omega),if_neg (by omega)]
       exact ih (i+1) _ (v / 128) n (by omega) (by omega) (by rw [e2];simp at hlt⊢;omega) (by simpa using hn)
theorem oR {v:Int}(h0:0≤v)(h:v<18446744073709551616){n:Nat}(hn:n<(bc v).length):aD ((bc v).take n)=(0,0,1):=
 FN 10 0 0 v n (by omega) h0 (by simpa using h) hn
end Go.Proofs.YtejimgikldiajaaGreat
namespace Go.Proofs.YtejimgikldiajaaGreat
open Go.Abs
def cz (s:List UInt8):RL:=bc s.length++bK s
def jn (x:RL)(s:List UInt8):Bool:=decide (x.length≤3000000)&&decide (s.length≤100000)
def okI (v:Int):Bool:=decide (-9223372036854775808≤v)&&decide (v≤9223372036854775807)
def zig (v:Int):Int:=if 0≤v then 2*v else -2*v - 1
def wj (u:Int):Int:=if u%2=0 then u / 2 else -(u / 2) - 1
def fg (x:RL):Int×Int×Int:=if(aD x).2.2≠0 then(0,0,(aD x).2.2)else(wj (aD x).1,(aD x).2.1,0)
def cT (x:RL):List UInt8×Int×Int:=
 if(aD x).2.2≠0 then([],0,(aD x).2.2)
 else if(x.length:Int) - (aD x).2.1<(aD x).1 then([],0,1)
 else(ii ((x.drop (aD x).2.1.toNat).take (aD x).1.toNat),(aD x).2.1+(aD x).1,0)
theorem HF {a:Int}(h0:0≤a)(h1:a<18446744073709551616):m7 .u64 a 18446744073709551615=18446744073709551615 - a:=by
 unfold m7
 have hb:IntKind.u64.bits=64:=rfl
 obtain⟨n,rfl⟩:=Int.eq_ofNat_of_zero_le h0
 have e:BitVec.ofInt 64 18446744073709551615=BitVec.allOnes 64:=by decide
 have hn:n<2^64:=by omega
 rw [hb,e,BitVec.xor_allOnes,BitVec.ofInt_natCast,BitVec.toNat_not,BitVec.toNat_ofNat,Nat.mod_eq_of_lt hn,eN (by omega) (by omega)]
 omega
theorem xor_zero {a:Int}(h0:0≤a)(h1:a<18446744073709551616):m7 .u64 a 0=a:=by
 unfold m7
 have hb:IntKind.u64.bits=64:=rfl
 obtain⟨n,rfl⟩:=Int.eq_ofNat_of_zero_le h0
 have e:BitVec.ofInt 64 0=0#64:=by decide
 have hn:n<2^64:=by omega
 rw [hb,e,BitVec.xor_zero,BitVec.ofInt_natCast,BitVec.toNat_ofNat,Nat.mod_eq_of_lt hn,eN (by omega) (by omega)]
theorem FG {a:Int}(h0:0≤a)(h1:a<9223372036854775808):m7 .i64 a (-1)= -1 - a:=by
 unfold m7
 have hb:IntKind.i64.bits=64:=rfl
 obtain⟨n,rfl⟩:=Int.eq_ofNat_of_zero_le h0
 have e:BitVec.ofInt 64 (-1)=BitVec.allOnes 64:=by decide
 have hn:n<2^64:=by omega
 rw [hb,e,BitVec.xor_allOnes,BitVec.ofInt_natCast,BitVec.toNat_not,BitVec.toNat_ofNat,Nat.mod_eq_of_lt hn,tJ]
 have e2:((2^64 - 1 - n:Nat):Int)=18446744073709551615 - n:=by omega
 rw [e2]
 split<;>omega
theorem Ff {a:Int}(h0:0≤a)(h1:a<9223372036854775808):m7 .i64 a 0=a:=by
 unfold m7
 have hb:IntKind.i64.bits=64:=rfl
 obtain⟨n,rfl⟩:=Int.eq_ofNat_of_zero_le h0
 have e:BitVec.ofInt 64 0=0#64:=by decide
 have hn:n<2^64:=by omega
 rw [hb,e,BitVec.xor_zero,BitVec.ofInt_natCast,BitVec.toNat_ofNat,Nat.mod_eq_of_lt hn,aA (by omega) (by omega)]
theorem LR {u:Int}(h0:0≤u)(h1:u<18446744073709551616):GX .u64 u 1=u%2:=by
 unfold GX
 have hb:IntKind.u64.bits=64:=rfl
 obtain⟨n,rfl⟩:=Int.eq_ofNat_of_zero_le h0
 have hn:n<2^64:=by omega
 have e:BitVec.ofInt 64 1=1#64:=by decide
 have e1:(1#64).toNat=1:=by decide
 rw [hb,e,BitVec.ofInt_natCast,BitVec.toNat_and,BitVec.toNat_ofNat,Nat.mod_eq_of_lt hn,e1,Nat.and_one_is_mod,eN (by omega) (by omega)]
 omega
theorem Si (u:Int):nD .u64 u 1=u / 2:=by
 unfold nD
 have e:(min (1:Int).toNat IntKind.u64.bits)=1:=by decide
 rw [e,Int.fdiv_eq_ediv_of_nonneg]
 · rfl
 · decide
theorem Pf {v:Int}(h0: -9223372036854775808≤v)(h1:v≤9223372036854775807):nD .i64 v 63=if 0≤v then 0 else -1:=by
 unfold nD
 have e:(min (63:Int).toNat IntKind.i64.bits)=63:=by decide
 have e2:(2:Int)^63=9223372036854775808:=by decide
 rw [e,e2,Int.fdiv_eq_ediv_of_nonneg _ (by omega)]
 split<;>omega
theorem Sv (v:Int):iA .u64 v 1=IntKind.u64.wrap (v*2):=by
 unfold iA
 have e:(min (1:Int).toNat IntKind.u64.bits)=1:=by decide
 rw [e]
 rfl
theorem Ih {v:Int}(h:okI v=true): -9223372036854775808≤v∧v≤9223372036854775807:=by
 unfold okI at h
 simpa using h
theorem mI {v:Int}(h:okI v=true):0≤zig v∧zig v<18446744073709551616:=by
 have:=Ih h
 unfold zig
 split<;>omega
theorem N3 {v:Int}(h:okI v=true):m7 .u64 (iA .u64 (IntKind.u64.wrap v) 1) (IntKind.u64.wrap (nD .i64 v 63))=zig v:=by
 obtain⟨h0,h1⟩:=Ih h
 rw [Pf h0 h1,Sv]
 unfold zig
 split
 · rw [eN (n:=v) (by omega) (by omega),eN (n:=0) (by omega) (by omega),eN (by omega) (by omega),xor_zero (by omega) (by omega)]
   omega
 · have e1:IntKind.u64.wrap v=v+18446744073709551616:=by rw [ji];omega
   have e2:IntKind.u64.wrap ((v+18446744073709551616)*2)=2*v+18446744073709551616:=by rw [ji];omega
   have e3:IntKind.u64.wrap (-1)=18446744073709551615:=by rw [ji];decide
   rw [e1,e2,e3,HF (by omega) (by omega)]
   omega
theorem GK {u:Int}(h0:0≤u)(h1:u<18446744073709551616):
 m7 .i64 (IntKind.i64.wrap (nD .u64 u 1)) (IntKind.i64.wrap (0 - IntKind.i64.wrap (GX .u64 u 1)))=wj u:=by
 rw [Si,LR h0 h1,aA (n:=u / 2) (by omega) (by omega),aA (n:=u%2) (by omega) (by omega),aA (by omega) (by omega)]
 unfold wj
 split
 · rw [show(0 - u%2)=0 by omega,Ff (by omega) (by omega)]
 · rw [show(0 - u%2)= -1 by omega,FG (by omega) (by omega)]
   omega
theorem EH (v:Int):wj (zig v)=v:=by
 unfold wj zig
 (repeat' split)<;>omega
theorem yN :∀(k i:Nat) (acc:Int) (l:RL),i+k=10→0≤acc→acc<128^i→(∀r∈l,0≤nr r 0∧nr r 0<256)→(cB k i acc l).2.2=0→(cB k i acc l).1<18446744073709551616
 | 0,_,_,_,_,_,_,_,h=>by simp [cB]at h
 | k+1,_,_,[],_,_,_,_,h=>by simp [cB]at h
 | k+1,i,acc,r::rs,hi,h0,h1,hb,h=>by
  have hr:=hb r List.mem_cons_self
  unfold cB at h⊢
  split
  · rw [if_pos (by assumption)]at h;simp at h
  · rename_i hn
    rw [if_neg hn]at h
    split
    · rename_i hc
      rw [if_pos hc]at h
      split
      · rw [if_pos (by assumption)]at h;simp at h
      · rw [Int.toNat_natCast]
        exact(nA h0 h1 hr.1 hc (by omega) (fun h9=>by omega)).2.2.2
    · rename_i hc
      rw [if_neg hc]at h
      rw [Int.toNat_natCast]at h⊢
      have hi9:i≠9∨nr r 0≤1:=by omega
      have hs:=nA (c:=nr r 0 - 128) (i:=i) h0 h1 (by omega) (by omega) (by omega) (fun h9=>by omega)
      exact yN k (i+1) _ rs (by omega) hs.2.1 hs.2.2.1 (fun q hq=>hb q (List.mem_cons_of_mem _ hq)) h
theorem Ey {x:RL}(hx:okB x=true)(h:(aD x).2.2=0):(aD x).1<18446744073709551616:=
 yN 10 0 0 x (by omega) (by omega) (by simp) (fun r hr=>⟨(kl (List.all_eq_true.1 hx r hr)).1,(kl (List.all_eq_true.1 hx r hr)).2.1⟩) h
theorem lq :∀s:List UInt8,ii (bK s)=s
 | []=>rfl
 | b::s=>by
  rw [bK,ii,lq s]
  congr 1
  simp [rZ,mv,dV,Cell.toInt]
theorem ee :∀s:List UInt8,(bK s).length=s.length
 | []=>rfl
 | b::s=>by rw [bK,List.length_cons,ee s,List.length_cons]
theorem rg :∀s:List UInt8,okB (bK s)=true
 | []=>rfl
 | b::s=>by
  have:=rg s
  unfold okB at this⊢
  rw [bK,List.all_cons,this,Bool.and_true]
  have:=UInt8.toNat_lt b
  simp [nK,mv]
  omega
theorem ug (s:List UInt8):(cz s).length≤10+s.length:=by
 have:=dJ (s.length:Int)
 unfold cz
 rw [List.length_append,ee]
 omega
theorem tF (s:List UInt8):okB (cz s)=true:=dG (iV 10 _ (by omega)) (rg s)
theorem ku {s:List UInt8}(hs:s.length<18446744073709551616)(rest:RL):cT (cz s++rest)=(s,((cz s).length:Int),0):=by
 have e:cz s++rest=bc s.length++(bK s++rest):=by unfold cz;rw [List.append_assoc]
 have h:=iZ (v:=(s.length:Int)) (by omega) (by omega) (bK s++rest)
 unfold cT
 rw [e,h,if_neg (by simp),if_neg]
 · simp only [Int.toNat_natCast,List.drop_left]
   rw [List.take_append_of_le_length (by rw [ee];omega),List.take_of_length_le (by rw [ee];omega),lq]
   simp only [cz,List.length_append,ee,Prod.mk.injEq,true_and,and_true]
   omega
 · simp only [List.length_append,ee]
   omega
theorem tG {s:List UInt8}(hs:s.length<18446744073709551616){n:Nat}(hn:n<(cz s).length):cT ((cz s).take n)=([],0,1):=by
 unfold cz at hn⊢
 rw [List.length_append,ee]at hn
 unfold cT
 by_cases hc:n<(bc (s.length:Int)).length
 · rw [List.take_append_of_le_length (by omega),oR (by omega) (by omega) hc,if_pos (by simp)]
 · rw [List.take_append,List.take_of_length_le (by omega)]
   have h:=iZ (v:=(s.length:Int)) (by omega) (by omega) ((bK s).take (n - (bc (s.length:Int)).length))
   rw [h,if_neg (by simp),if_pos]
   simp only [List.length_append,List.length_take,ee]
   omega
theorem zF {v:Int}(h:okI v=true)(rest:RL):fg (bc (zig v)++rest)=(v,((bc (zig v)).length:Int),0):=by
 have hz:=mI h
 unfold fg
 rw [iZ hz.1 hz.2 rest,if_neg (by simp),EH]
theorem H2 {v:Int}(h:okI v=true){n:Nat}(hn:n<(bc (zig v)).length):fg ((bc (zig v)).take n)=(0,0,1):=by
 have hz:=mI h
 unfold fg
 rw [oR hz.1 hz.2 hn,if_pos (by simp)]
end Go.Proofs.YtejimgikldiajaaGreat
namespace Go.Abs
variable {E:Env} {P:Program}
def Pi (P:Program)(E:Env)(f:Nat):FnDef→Prop
 | .code fn=>CodeOk P f fn
 | .prim g=>sd P E f g
def Ig (P:Program)(E:Env):List (Nat×(Sig×FnDef))→Prop
 | []=>True
 | x::r=>Pi P E x.1 x.2.2∧Ig P E r
theorem vl :∀{l:List (Nat×(Sig×FnDef))},Ig P E l→∀x∈l,Pi P E x.1 x.2.2
 | [],_,_,h=>by cases h
 | y::r,h,x,hx=>by
  rcases List.mem_cons.1 hx with rfl | hx
  · exact h.1
  · exact vl h.2 x hx
theorem Cb {l:List (Nat×(Sig×FnDef))}(hE:E.funcs=lM l)(h:Ig P E l):FuncsOk P E:=by
 refine⟨fun f sg fn hf=> ?_,fun f sg g hf=> ?_⟩<;>rw [hE]at hf<;>exact vl h _ (mF hf)
theorem gu {r:Row}{k:CK}{ks:List CK}(h:r.map Cell.kind=k::ks):∃c r',r=c::r'∧c.kind=k∧r'.map Cell.kind=ks:=by
 cases r with
 | nil=>cases h
 | cons c r'=>
  rw [List.map_cons,List.cons.injEq]at h
  exact⟨c,r',rfl,h.1,h.2⟩
theorem jU {r:Row}(h:r.map Cell.kind=[]):r=[]:=List.map_eq_nil_iff.1 h
theorem lW {c:Cell}{k:IntKind}(h:c.kind=.int k):∃n,c=.int k n:=by
 cases c<;>cases h
 exact⟨_,rfl⟩
theorem EL {c:Cell}(h:c.kind=.bool):∃b,c=.bool b:=by
 cases c<;>cases h
 exact⟨_,rfl⟩
theorem si {c:Cell}{e:TypeId}(h:c.kind=.slice e):∃r,c=.slice e r:=by
 cases c<;>cases h
 exact⟨_,rfl⟩
theorem BX {rows:List Row}(h:j4 E [] rows):rows=[]:=by
 cases rows with
 | nil=>rfl
 | cons _ _=>exact h.elim
theorem ed {t:TypeId}{ts:List TypeId}{rows:List Row}{ks:List CK}(h:j4 E (t::ts) rows)(hk:(E.tys t).map Ty.kinds=some ks):∃r rs,rows=r::rs∧r.map Cell.kind=ks∧(∀c∈r,Cell.Wf E c)∧j4 E ts rs:=by
 cases rows with
 | nil=>exact h.elim
 | cons r rs=>
  obtain⟨⟨ty,h1,h2,h3⟩,h4⟩:=h
  rw [h1]at hk
  exact⟨r,rs,rfl,h2.trans (Option.some.inj hk),h3,h4⟩
theorem Ic {k:IntKind}{n:Int}(h:Cell.Wf E (.int k n)):k.min≤n∧n≤k.max:=by
 cases h with
 | int _ _ h=>simpa [Lit.wf]using h
theorem Oc {n:Int}(h:Cell.Wf E (.int .u16 n)):0≤n∧n≤65535:=by
 have:=Ic h
 simpa [IntKind.min,IntKind.max,IntKind.signed,IntKind.bits]using this
theorem PG {n:Int}(h:Cell.Wf E (.int .u8 n)):0≤n∧n≤255:=by
 have:=Ic h
 simpa [IntKind.min,IntKind.max,IntKind.signed,IntKind.bits]using this
theorem Bc {e:TypeId}{rows:Rows}{ks:List CK}(h:Cell.Wf E (.slice e rows))(hk:(E.tys e).map Ty.kinds=some ks):(∀r∈rows,r.map Cell.kind=ks)∧rows.length≤maxLen∧∀r∈rows,∀c∈r,Cell.Wf E c:=by
 cases h with
 | slice _ _ te he h1 h2 h3=>
  rw [he]at hk
  exact⟨fun r hr=>(h1 r hr).trans (Option.some.inj hk),h2,h3⟩
theorem sO {k:CK}{ks:List CK}:∀{rows:Rows},(∀r∈rows,r.map Cell.kind=k::ks)→rows.length≤gX rows
 | [],_=>by simp
 | r::rows,h=>by
  have ih:=sO (rows:=rows) fun q hq=>h q (List.mem_cons_of_mem _ hq)
  obtain⟨c,r',rfl,_,_⟩:=gu (h r List.mem_cons_self)
  have:1≤oG c:=by cases c<;>simp [oG]
  simp only [List.length_cons,gX,gL]
  omega
theorem gO {t:TypeId}{ts:List TypeId}{r:Row}{rs:List Row}(h:j4 E (t::ts) (r::rs)):(∀c∈r,Cell.Wf E c)∧j4 E ts rs:=by
 obtain⟨⟨ty,h1,h2,h3⟩,h4⟩:=h
 exact⟨h3,h4⟩
end Go.Abs
namespace Go.Abs
variable {E:Env} {P:Program} {R:aG} {ρ:List Nat} {own:OI→aH} {N:Nat} {st:St} {a:Act} {w:World} {F:aG}
end Go.Abs
namespace Go.Proofs.YtejimgikldiajaaGreat
open Go.Abs
abbrev Rs :=RL
def kLt (r q:List Cell):Bool:=decide (nr r 0<nr q 0) || (decide (nr r 0=nr q 0)&&decide (nr r 1<nr q 1))
def kEq (r q:List Cell):Bool:=decide (nr r 0=nr q 0)&&decide (nr r 1=nr q 1)
theorem kLt_iff {r q:List Cell}:kLt r q=true↔nr r 0<nr q 0∨(nr r 0=nr q 0∧nr r 1<nr q 1):=by simp [kLt]
theorem JU {r q:List Cell}:kEq r q=true↔nr r 0=nr q 0∧nr r 1=nr q 1:=by simp [kEq]
def Asc (l:Rs):Prop:=l.Pairwise fun r q=>kLt r q=true
instance (l:Rs):Decidable (Asc l):=inferInstanceAs (Decidable (l.Pairwise _))
def Oi (c:Rs)(p:List Cell):Bool:=c.any fun q=>kEq q p
theorem hasK_iff {c:Rs}{p:List Cell}:Oi c p=true↔∃q∈c,nr q 0=nr p 0∧nr q 1=nr p 1:=by
 simp [Oi,List.any_eq_true,JU]
theorem asc_cons {r:List Cell}{l:Rs}:Asc (r::l)↔(∀q∈l,kLt r q=true)∧Asc l:=List.pairwise_cons
theorem Ci {l:Rs}(h:Asc l)(p:List Cell→Bool):Asc (l.filter p):=List.Pairwise.sublist List.filter_sublist h
def ent (a k:Int):List Cell:=[.int .i64 a,.int .i64 k]
def xh :List Cell→Bool
 | [.int .i64 _,.int .i64 _]=>true
 | _=>false
def cN (c:Rs):Bool:=decide (c.length≤1000)
def kZ (v:Rs):Prop:=v.Pairwise fun r q=>nr r 0<nr q 0
instance (l:Rs):Decidable (kZ l):=inferInstanceAs (Decidable (l.Pairwise _))
def Ce (v:Rs):Bool:=decide (v.length≤100000)&&v.all xh
def rP (v:Rs)(a:Int):Bool:=v.any fun e=>decide (nr e 0=a)
def bH :Rs→Int→Int
 | [],_=>0
 | e::v,a=>if nr e 0=a then nr e 1 else bH v a
def jL (v:Rs)(a:Int):Rs:=
 if 0<v.length∧nr (rA v (v.length - 1)) 0=a then v.take (v.length - 1)++ [ent a (nr (rA v (v.length - 1)) 1+1)]else v++ [ent a 1]
def G4 (v:Rs)(c:Rs):Rs:=c.foldl (fun v r=>jL v (nr r 0)) v
def Jy (c:Rs):Rs:=G4 [] c
def dP (a k:Int):Bool→Rs→Rs
 | put,[]=>if put=true then []else [ent a k]
 | put,e::v=>
  if put=false∧a≤nr e 0 then(if nr e 0=a then ent a k::dP a k true v else ent a k::e::dP a k true v)
  else if nr e 0=a then dP a k put v else e::dP a k put v
def ix (v:Rs)(a k:Int):Rs:=if a<1∨k<0∨1000000<k then v else dP a k (decide (k=0)) v
def nh (v:Rs)(c:Rs):Rs:=c.foldl (fun v r=>ix v (nr r 0) (bH v (nr r 0)+1)) v
def gf (c:Rs):Rs:=nh [] c
def B3 :Rs→Rs→Bool
 | [],_=>true
 | e::v,w=>(decide (nr e 0=nr (rA w 0) 0)&&decide (nr e 1=nr (rA w 0) 1))&&B3 v (w.drop 1)
def rC (v w:Rs):Bool:=decide (v.length=w.length)&&B3 v w
def ls (first:Bool)(q:List Cell):Rs→Int
 | []=>0
 | e::v=>
  if nr e 0<1∨nr e 1<1∨1000000<nr e 1 then 9
  else if first=false∧nr e 0≤nr q 0 then 7
  else ls false e v
def qx (v:Rs):Int:=ls true [] v
def lm (c v:Rs):Rs:=c.filter fun r=>decide (nr r 1≤bH v (nr r 0))
theorem hasV_iff {c:Rs}{a:Int}:rP c a=true↔∃q∈c,nr q 0=a:=by
 simp [rP,List.any_eq_true]
theorem DX :∀{c:Rs} {a:Int} {j:Nat},j<c.length→nr (rA c j) 0=a→(∀i,i<j→nr (rA c i) 0≠a)→bH c a=nr (rA c j) 1
 | [],_,_,h,_,_=>by simp at h
 | e::c,a,0,_,h,_=>by
  have h:nr e 0=a:=h
  rw [bH,if_pos h]
  rfl
 | e::c,a,j+1,hj,h,hn=>by
  have h0:nr e 0≠a:=hn 0 (by omega)
  rw [bH,if_neg h0]
  exact DX (c:=c) (j:=j) (by simpa using hj) h fun i hi=>hn (i+1) (by omega)
theorem pc :∀{c:Rs} {a:Int},rP c a=false→bH c a=0
 | [],_,_=>rfl
 | e::c,a,h=>by
  have h:(decide (nr e 0=a) || rP c a)=false:=h
  rw [Bool.or_eq_false_iff]at h
  rw [bH,if_neg (of_decide_eq_false h.1)]
  exact pc h.2
def om (v:Rs)(a:Int):Prop:=∀e∈v,nr e 0≤a
theorem oT {v:Rs}(h:0<v.length):rA v (v.length - 1)∈v:=by
 rw [cg (by omega)]
 exact List.getElem_mem _
theorem hL {v:Rs}(h:0<v.length):v=v.take (v.length - 1)++ [rA v (v.length - 1)]:=by
 have:=qk v (v.length - 1) (by omega)
 rw [show v.length - 1+1=v.length by omega,List.take_length]at this
 exact this
theorem wz {v:Rs}{a:Int}(h:kZ v)(hm:om v a):kZ (jL v a)∧om (jL v a) a:=by
 unfold jL
 split
 · rename_i hh
   have e:=hL hh.1
   have h2:kZ (v.take (v.length - 1)++ [rA v (v.length - 1)]):=by rw [←e];exact h
   obtain⟨g1,_,g3⟩:=List.pairwise_append.1 h2
   refine⟨List.pairwise_append.2 ⟨g1,by simp,fun x hx y hy=> ?_⟩,fun x hx=> ?_⟩
   · rw [List.mem_singleton]at hy
     subst hy
     have:=g3 x hx _ (List.mem_singleton.2 rfl)
     show nr x 0<a
     omega
   · rcases List.mem_append.1 hx with hx | hx
     · exact hm x (List.mem_of_mem_take hx)
     · rw [List.mem_singleton]at hx
       subst hx
       exact Int.le_refl a
 · rename_i hh
   refine⟨List.pairwise_append.2 ⟨h,by simp,fun x hx y hy=> ?_⟩,fun x hx=> ?_⟩
   · rw [List.mem_singleton]at hy
     subst hy
     show nr x 0<a
     have h1:=hm x hx
     by_cases h0:nr x 0=a
     · exfalso
       have hv:0<v.length:=List.length_pos_of_mem hx
       refine hh ⟨hv, ?_⟩
       have h2:=hm _ (oT hv)
       have e:=hL hv
       rw [e]at hx
       rcases List.mem_append.1 hx with hx | hx
       · have h3:kZ (v.take (v.length - 1)++ [rA v (v.length - 1)]):=by rw [←e];exact h
         have:=(List.pairwise_append.1 h3).2.2 x hx _ (List.mem_singleton.2 rfl)
         omega
       · rw [List.mem_singleton]at hx
         rw [←hx]
         exact h0
     · omega
   · rcases List.mem_append.1 hx with hx | hx
     · exact hm x hx
     · rw [List.mem_singleton]at hx
       subst hx
       exact Int.le_refl a
end Go.Proofs.YtejimgikldiajaaGreat
