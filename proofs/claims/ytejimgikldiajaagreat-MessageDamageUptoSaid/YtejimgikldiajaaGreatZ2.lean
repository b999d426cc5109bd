/-
  Merged texts.
-/
import Derived.Test.YtejimgikldiajaaGreatZ1
import Derived.Laws.BytesArg
import Derived.Lib.ConvBytes
import Derived.Laws.Rows
import Derived.Laws.AppendOwn
namespace Go.Abs
variable {E:Env} {P:Program} {R:aG} {ρ:List Nat} {own:OI→aH} {N:Nat} {st:St} {a:Act} {w:World} {F:aG}
theorem vv {β:Type}{te:Ty}(hkl:te.kinds.length=te.size){len:Nat}:∀{parts:List (Nat×AV)} {cp:List (Nat×Value)} {i:Nat} {cs:Array Value} {K:Rows→Option β} {r:β},PartsR E w F ρ parts cp→cs.size=len*te.size→
 eI te len i parts K=some r→∃(rows:Rows) (cs':Array Value),K rows=some r∧Instr.fill (fun i=>some (i*te.size,te.size)) cs cp=some cs'∧cs'.size=cs.size∧i+rows.length=len∧(∀row∈rows,row.map Cell.kind=te.kinds)∧
  (∀k,k<i*te.size→cs'[k]? =cs[k]?)∧∀(k:Nat) (h:k<rows.flatten.length),∃v,cs'[i*te.size+k]? =some v∧CR E w F rows.flatten[k] v:=by
 intro parts cp i cs K r hp
 induction hp generalizing i cs K with
 | nil=>
  intro hs h
  simp only [eI]at h
  obtain⟨h1,h2⟩:=ab h
  exact⟨[],cs,h2,rfl,rfl,by simpa using Nat.eq_of_beq_eq_true h1,by simp,fun _ _=>rfl,fun k h=>by simp at h⟩
 | cons j v val rest rest' hv hrest ih=>
  intro hs h
  simp only [eI]at h
  obtain⟨hij,h1⟩:=ab h
  have:=Nat.eq_of_beq_eq_true hij
  subst this
  obtain⟨l,hcl,h2⟩:=dj h1
  obtain⟨row,h3,hk,hrl,hll,hr⟩:=eC h2
  obtain⟨c1,c2,c3⟩:=uJ hkl hv hcl
  -- the rest tells that there is room
  have hroom:∀{parts:List (Nat×AV)} {i:Nat} {K:Rows→Option β},eI te len i parts K=some r→i≤len:=by
   intro parts
   induction parts with
   | nil=>intro i K h;simp only [eI]at h;have:=Nat.eq_of_beq_eq_true (ab h).1;omega
   | cons q parts ihp=>
    intro i K h
    obtain⟨q1,q2⟩:=q
    simp only [eI]at h
    obtain⟨_,h⟩:=ab h
    obtain⟨_,_,h⟩:=dj h
    obtain⟨_,h,_⟩:=eC h
    have:=ihp h
    omega
  have hlen:=hroom h3
  have hle:i*te.size+te.size≤cs.size:=by
   rw [hs]
   have:=Nat.mul_le_mul_right te.size hlen
   rwa [Nat.succ_mul]at this
  obtain⟨cs1,f1,f2,f3⟩:=oK (place:=fun i=>some (i*te.size,te.size)) (i:=i) (rest:=rest') rfl c2 hle
  obtain⟨rows,cs',g1,g2,g3,g4,g5,g6,g7⟩:=ih (i:=i+1) (cs:=cs1) (by omega) h3
  have hsucc:(i+1)*te.size=i*te.size+te.size:=Nat.succ_mul i te.size
  refine⟨row::rows,cs',g1,by rw [f1];exact g2,by omega,by simp;omega,fun x hx=> ?_,fun k hk=> ?_,fun k hk=> ?_⟩
  · rcases List.mem_cons.1 hx with rfl | hx
    · exact hk
    · exact g5 x hx
  · rw [g6 k (by omega),f3 k,if_neg (by omega)]
  · have hrow:row.length=te.size:=by omega
    by_cases hlt:k<te.size
    · refine⟨val.cells[k], ?_, ?_⟩
      · rw [g6 _ (by omega),f3,if_pos (by omega),show i*te.size+k - i*te.size=k by omega]
        simp [c2,hlt]
      · have e:(row::rows).flatten[k]=row[k]:=by
         simp only [List.flatten_cons]
         exact List.getElem_append_left _
        rw [e]
        have:=xo hll hrl hr (g:=fun i=>val.cells.getD i undef) (fun i h1=>by
         have h2:i<val.cells.size:=by omega
         have:=c3 i h1 h2
         simpa [h2]using this) k (by omega)
        have h2:k<val.cells.size:=by omega
        simpa [h2]using this
    · simp only [List.flatten_cons,List.length_append]at hk
      obtain⟨v',q1,q2⟩:=g7 (k - te.size) (by omega)
      refine⟨v', ?_, ?_⟩
      · rw [hsucc,show i*te.size+te.size+(k - te.size)=i*te.size+k by omega]at q1;exact q1
      · have e:(row::rows).flatten[k]=rows.flatten[k - te.size]'(by omega):=by
         simp only [List.flatten_cons]
         rw [List.getElem_append_right (by omega)]
         simp only [hrow]
        rw [e]
        exact q2
theorem FO {β:Type}{len:Nat}:∀{parts:List (Nat×AV)} {cp:List (Nat×Value)} {i:Nat} {cs:Array Value} {K:List AC→Option β} {r:β},PartsR E w F ρ parts cp→cs.size=len→
 eK len i parts K=some r→∃(l:List AC) (cs':Array Value),K l=some r∧Instr.fill (fun i=>some (i*1,1)) cs cp=some cs'∧cs'.size=cs.size∧i+l.length=len∧
  (∀k,k<i→cs'[k]? =cs[k]?)∧∀(k:Nat) (h:k<l.length),∃v,cs'[i+k]? =some v∧AR E w F ρ l[k] v none:=by
 intro parts cp i cs K r hp
 induction hp generalizing i cs K with
 | nil=>
  intro hs h
  simp only [eK]at h
  obtain⟨h1,h2⟩:=ab h
  exact⟨[],cs,h2,rfl,rfl,by simpa using Nat.eq_of_beq_eq_true h1,fun _ _=>rfl,fun k h=>by simp at h⟩
 | cons j v val rest rest' hv hrest ih=>
  intro hs h
  have hroom:∀{parts:List (Nat×AV)} {i:Nat} {K:List AC→Option β},eK len i parts K=some r→i≤len:=by
   intro parts
   induction parts with
   | nil=>intro i K h;simp only [eK]at h;have:=Nat.eq_of_beq_eq_true (ab h).1;omega
   | cons q parts ihp=>
    intro i K h
    obtain⟨q1,q2⟩:=q
    simp only [eK]at h
    obtain⟨_,h⟩:=ab h
    split at h
    · have:=ihp h;omega
    · have:=ihp h;omega
    · cases h
  simp only [eK]at h
  obtain⟨hij,h1⟩:=ab h
  have:=Nat.eq_of_beq_eq_true hij
  subst this
  have main:∀(c:AC),v=.one c→eK len (i+1) rest (fun rs=>K (c::rs))=some r→AR E w F ρ c val none→∃(l:List AC) (cs':Array Value),K l=some r∧Instr.fill (fun i=>some (i*1,1)) cs ((i,val)::rest')=some cs'∧cs'.size=cs.size∧i+l.length=len∧
   (∀k,k<i→cs'[k]? =cs[k]?)∧∀(k:Nat) (h:k<l.length),∃v,cs'[i+k]? =some v∧AR E w F ρ l[k] v none:=by
   intro c hc h2 hrel
   have hlen:=hroom h2
   have hcell:=hrel.oneCell.1
   obtain⟨cs1,f1,f2,f3⟩:=oK (place:=fun i=>some (i*1,1)) (i:=i) (v:=val) (rest:=rest') (cs:=cs) rfl (by rw [hcell];rfl) (by omega)
   obtain⟨l,cs',g1,g2,g3,g4,g6,g7⟩:=ih (i:=i+1) (cs:=cs1) (by omega) h2
   refine⟨c::l,cs',g1,by rw [f1];exact g2,by omega,by simp;omega,fun k hk=> ?_,fun k hk=> ?_⟩
   · rw [g6 k (by omega),f3 k,if_neg (by omega)]
   · cases k with
     | zero=>
      refine⟨val, ?_,hrel⟩
      rw [g6 _ (by omega),f3,if_pos (by omega),hcell]
      simp
     | succ k=>
      obtain⟨v',q1,q2⟩:=g7 k (by simpa using hk)
      exact⟨v',by rw [show i+(k+1)=i+1+k by omega];exact q1,q2⟩
  split at h1
  · exact main _ rfl h1 (by have:=hv.get_one;exact this)
  · exact main _ rfl h1 (by have:=hv.get_one;exact this)
  · cases h1
theorem oe (h:Rel E R ρ own N st a w){B off:Nat}(hB:w.heap.size≤B):¬Fn own R B off:=by
 rintro(hR | ⟨x,t,hx,_⟩)
 · have:=h.low _ _ hR;omega
 · have:=(h.out _ _ _ hx).1;omega
theorem pW (G:Good P E)(h:Rel E R ρ own N st a w){t:TypeId}{len:Nat}{parts:List (Nat×AV)}{cp:List (Nat×Value)}(hp:PartsR E w (Fn own R) ρ parts cp){u:Upd}(hu:fV E t len parts some=some u){dst:Option Nat}(hd:∀d,dst=some d→d<N):
 ∃val w',(Instr.buildSlice t len cp.toArray).run P w=.ok val w'∧After E R ρ own N w (st.apply dst u) (a.put dst val) w':=by
 unfold fV at hu
 cases ht:E.tys t with
 | none=>simp [ht]at hu
 | some ty=>
  simp only [ht]at hu
  cases hd':ty.desc<;>simp only [hd']at hu<;>try (cases hu;done)
  rename_i e
  cases he:E.tys e with
  | none=>simp [he]at hu
  | some te=>
   simp only [he]at hu
   obtain⟨hlim,h1⟩:=ab hu
   have hlim:len*te.size≤16777216:=Nat.le_of_ble_eq_true hlim
   have hT:=G.ty e te he
   obtain⟨z,hz,_⟩:=hT.run_zero (w:=w)
   have hrun:∀(cs':Array Value),(∀zs:Array Value,Instr.fill (fun i=>some (i*te.size,te.size)) ((Array.range (len*te.size)).map (zs[· %zs.size]!)) cp=some cs'∨(len*te.size≠0∧zs≠z.cells)∨(len*te.size=0∧zs≠ #[]))→
    (Instr.buildSlice t len cp.toArray).run P w=.ok (.slice (some ⟨w.heap.size,0,none⟩) len len) (w.alloc (.cells cs' e)):=by
    intro cs' hfill
    simp only [Instr.buildSlice,Sem.run_bind,run_underlying (bl (G.ty _ _ ht) hd'),Result.andThen_ok,hT.run_size]
    rw [if_neg (by omega)]
    by_cases hz0:len*te.size=0
    · have:=(hfill #[]).resolve_right (by simp [hz0])
      simp only [hz0,if_true]
      rw [hz0]at this
      simp only [this,Sem.run_bind,du,Result.andThen_ok,Sem.run_pure]
    · have:=(hfill z.cells).resolve_right (by simp [hz0])
      simp only [hz0,if_false,Sem.run_bind,hz,Result.andThen_ok,Sem.run_pure,this,du]
   have hk:∀cs':Array Value,w.keptBut (w.alloc (.cells cs' e)) (inT fun _ _=>False):=fun cs'=>World.keptBut_alloc _ _ _
   -- what zeros lie below the parts
   let zs:Array Value:=if len*te.size=0 then #[]else z.cells
   have hzs:∀zs':Array Value,zs'=zs∨(len*te.size≠0∧zs'≠z.cells)∨(len*te.size=0∧zs'≠ #[]):=by
    intro zs'
    by_cases hz0:len*te.size=0
    · by_cases e1:zs'= #[]
      · exact .inl (by simp [zs,hz0,e1])
      · exact .inr (.inr ⟨hz0,e1⟩)
    · by_cases e1:zs'=z.cells
      · exact .inl (by simp [zs,hz0,e1])
      · exact .inr (.inl ⟨hz0,e1⟩)
   have rowsCase:eI te len 0 parts (fun rows=>cd (.one (.sl true e rows)) some)=some u→∃val w',(Instr.buildSlice t len cp.toArray).run P w=.ok val w'∧After E R ρ own N w (st.apply dst u) (a.put dst val) w':=by
    intro h2
    obtain⟨rows,cs',g1,g2,g3,g4,g5,_,g7⟩:=vv hT.len hp (cs:=(Array.range (len*te.size)).map (zs[· %zs.size]!)) (by simp) h2
    refine⟨_,_,hrun cs' fun zs'=>(hzs zs').imp (fun e=>by rw [e];exact g2) id, ?_⟩
    rw [ofK g1]
    have hlen:rows.length=len:=by omega
    have hfl:=bJ (bS hT.len g5)
    have hsz:cs'.size=len*te.size:=by rw [g3];simp
    refine h.pure hd (hk cs') fun F' hK hF=> .of ?_
    rw [←hlen]
    refine .full _ _ _ _ (.slice e rows te _ 0 _ (fun i=>cs'.getD i undef) he g5 (Nat.le_refl _) (fun i hi=>⟨?_,fun hc=> ?_⟩) fun i hi=> ?_)
    · have hi2:i<cs'.size:=by rw [hsz,←hlen,←hfl];exact hi
      rw [Nat.zero_add,cell_new _ _ _ _ hi2]
      simp [hi2]
    · exact oe h (Nat.le_refl _) (hF _ _ hc)
    · obtain⟨v,q1,q2⟩:=g7 i hi
      simp only [Nat.zero_mul,Nat.zero_add]at q1
      have:cs'.getD i undef=v:=by simp [q1]
      rw [this]
      exact q2.keep hK
   split at h1
   · rename_i e' hde
     have hs1:te.size=1:=by
      obtain⟨d,_,h2⟩:=hT.desc
      unfold eY at h2
      rw [hde]at h2
      cases d<;>simp_all
      rw [←hT.len,h2.2];rfl
     obtain⟨l,cs',g1,g2,g3,g4,_,g7⟩:=FO hp (cs:=(Array.range (len*te.size)).map (zs[· %zs.size]!)) (by simp [hs1]) h1
     refine⟨_,_,hrun cs' fun zs'=>(hzs zs').imp (fun e=>by rw [e,hs1];rw [hs1]at g2;exact g2) id, ?_⟩
     rw [ofK g1]
     have hlen:l.length=len:=by omega
     have hsz:cs'.size=len:=by rw [g3];simp [hs1]
     refine h.pure hd (hk cs') fun F' hK hF=> .of ?_
     rw [←hlen]
     refine .refs l _ 0 _ (fun i=>cs'.getD i undef) (Nat.le_refl _) (fun i hi=>⟨?_,fun hc=> ?_⟩) fun i hi=> ?_
     · have hi2:i<cs'.size:=by omega
       rw [Nat.zero_add,cell_new _ _ _ _ hi2]
       simp [hi2]
     · exact oe h (Nat.le_refl _) (hF _ _ hc)
     · obtain⟨v,q1,q2⟩:=g7 i hi
       simp only [Nat.zero_add]at q1
       have:cs'.getD i undef=v:=by simp [q1]
       rw [this]
       exact q2.keep hK (fun _ _ h=>h) fun B t e=>by cases e
   · exact rowsCase h1
end Go.Abs
namespace Go.Abs
variable {E:Env} {P:Program} {R:aG} {ρ:List Nat} {own:OI→aH} {N:Nat} {st:St} {a:Act} {w:World} {F:aG}
theorem jz {n:Int}(h0:0≤n)(h:n≤9223372036854775807):IntKind.i64.wrap n=n:=by
 have e:IntKind.i64.wrap n=if(IntKind.i64.signed&&decide (n%2^IntKind.i64.bits≥2^(IntKind.i64.bits - 1)))=true then n%2^IntKind.i64.bits - 2^IntKind.i64.bits else n%2^IntKind.i64.bits:=rfl
 have h1:(2:Int)^IntKind.i64.bits=18446744073709551616:=by decide
 have h2:(2:Int)^(IntKind.i64.bits - 1)=9223372036854775808:=by decide
 rw [e,h1,h2]
 have:n%18446744073709551616=n:=by omega
 rw [this,if_neg]
 simp [IntKind.signed]
 omega
theorem kU {n:Nat}(h:cb n=true):n≤4294967296:=Nat.le_of_ble_eq_true h
def own1 (q:aH):aS
 | []=>q
 | _=>none
theorem ga {q:aH}{p:List Nat}{B t:Nat}(h:own1 q p=some (B,t)):p=[]∧q=some (B,t):=by
 cases p with
 | nil=>exact⟨rfl,h⟩
 | cons=>cases h
theorem AVR.own1 {c:AC}{v:Value}{q:aH}(h:AR E w F ρ c v q):AVR E w F ρ (.one c) v (own1 q):=.one _ _ _ h fun p hp=>by
 cases p with
 | nil=>exact absurd rfl hp
 | cons=>rfl
theorem Rel.newSlice (h:Rel E R ρ own N st a w){dst dis:Option Nat}{c:AC}{val:Value}{q:aH}{w':World}{B:Nat}{rd:List Nat}(hd:∀d,dst=some d→d<N)(hk:w.keptBut w' (inT fun _ _=>False))(hB1:w.heap.size≤B)(hB2:B<w'.heap.size)
 (hq:∀B' t,q=some (B',t)→B'=B)
 (hV:∀F',Keeps w (Fn own R) w' F'→(∀off,F' B off→∃t,q=some (B,t)∧t≤off)→AR E w' F' ρ c val q):
 After E R ρ own N w (st.apply dst ⟨.one c,dis,[],[],rd⟩) (a.put dst val) w':=by
 refine⟨ρ,_,fun _ _ h=>h,h.put (dis:=dis) (oV:=own1 q) (T:=fun _ _=>False) hd hk (fun _ _ h=>h.elim) (fun p B' t' e=> ?_) (fun p p' B' t t' e e'=> ?_) fun hK=>AVR.own1 (hV _ hK fun off hF=> ?_)⟩
 · obtain⟨_,e⟩:=ga e
   have:=hq _ _ e
   exact .inr ⟨by omega,by omega⟩
 · rw [(ga e).1,(ga e').1]
 · rcases hF with hR | ⟨x,t,hx,hl⟩
   · have:=h.low _ _ hR;omega
   · cases x with
     | tmp s p=>
      simp only [bg]at hx
      split at hx
      · obtain⟨_,e⟩:=ga hx;exact⟨t,e,hl⟩
      · have:=(h.out _ _ _ (cP hx)).1;omega
     | self k=>have:=(h.out (.self k) B t hx).1;omega
     | cell k j=>have:=(h.out (.cell k j) B t hx).1;omega
theorem rM (G:Good P E)(h:Rel E R ρ own N st a w){t:TypeId}{x y:AV}{vx vy:Value}{px py:aS}(hx:AVR E w (Fn own R) ρ x vx px)(hy:AVR E w (Fn own R) ρ y vy py){u:Upd}(hu:gZ E t x y some=some u){dst:Option Nat}(hd:∀d,dst=some d→d<N):
 ∃val w',(Instr.makeSlice t vx vy).run P w=.ok val w'∧After E R ρ own N w (st.apply dst u) (a.put dst val) w':=by
 unfold gZ at hu
 cases ht:E.tys t with
 | none=>simp [ht]at hu
 | some ty=>
  simp only [ht]at hu
  cases hd':ty.desc<;>simp only [hd']at hu<;>try (cases hu;done)
  rename_i e
  split at hu<;>try (cases hu;done)
  rename_i te n m he hn hm
  obtain⟨hbt,h1⟩:=ab hu
  obtain⟨hb,h2⟩:=ab h1
  have hbt:=Nat.le_of_ble_eq_true hbt
  have hT:=G.ty e te he
  unfold qr at hb
  simp only [Bool.and_eq_true,decide_eq_true_eq]at hb
  obtain⟨⟨hb0,hnm⟩,hb2⟩:=hb
  have hb2:=kU hb2
  obtain⟨zl,h3,h4,h5⟩:=cw h2
  obtain⟨row,h6,hk,hrl,hll,hr⟩:=eC h3
  obtain⟨z,hz,hz2⟩:=hT.run_zero (w:=w)
  obtain⟨hzs,_⟩:=d8 hz2
  have hs:z.cells.size=te.size:=by rw [hzs,hT.len]
  have hpos:=hT.pos
  unfold asI at hn hm
  split at hn<;>try (cases hn;done)
  rename_i k1 n1
  cases hn
  split at hm<;>try (cases hm;done)
  rename_i k2 m1
  cases hm
  rw [hx.get_int,hy.get_int]
  have hm9:m≤4294967296:=by omega
  have hwn:=jz (n:=n) hb0 (by omega)
  have hwm:=jz (n:=m) (by omega) (by omega)
  obtain⟨i,hi1,hi2⟩:=hT.run_bytes
  have htoo:∀q:Int,0≤q→q≤4294967296→(decide (q<0) || decide ((te.bytes:Int)*q>2^48))=false:=by
   intro q q1 q2
   have h7:(te.bytes:Int)*q≤4096*4294967296:=Int.mul_le_mul (by omega) q2 q1 (by omega)
   simp only [Bool.or_eq_false_iff,decide_eq_false_iff_not]
   constructor<;>omega
  have hrun:∃zs:Array Value,(m.toNat*te.size≠0→zs=z.cells)∧(Instr.makeSlice t (.int k1 n) (.int k2 m)).run P w=.ok (.slice (some ⟨w.heap.size,0,none⟩) n.toNat m.toNat) (w.alloc (.cells ((Array.range (m.toNat*te.size)).map (zs[· %zs.size]!)) e)):=by
   have h8:=htoo m (by omega) hm9
   by_cases hz0:m.toNat*te.size=0
   · refine⟨#[],fun hc=>absurd hz0 hc, ?_⟩
     simp only [Instr.makeSlice,Sem.run_bind,run_underlying (bl (G.ty _ _ ht) hd'),Result.andThen_ok,asInt,asIntOf,Sem.run_pure,typeInfo,run_program,hi1,hi2,hwn,hwm,h8]
     rw [if_neg (by simp;omega)]
     simp only [Sem.run_bind,run_askRoom,Result.andThen_ok,hT.run_size,hz0,if_true,Sem.run_pure,du]
   · refine⟨z.cells,fun _=>rfl, ?_⟩
     simp only [Instr.makeSlice,Sem.run_bind,run_underlying (bl (G.ty _ _ ht) hd'),Result.andThen_ok,asInt,asIntOf,Sem.run_pure,typeInfo,run_program,hi1,hi2,hwn,hwm,h8]
     rw [if_neg (by simp;omega)]
     simp only [Sem.run_bind,run_askRoom,Result.andThen_ok,hT.run_size,hz0,if_false,hz,Sem.run_pure,du]
  obtain⟨zs,hzs',hrun⟩:=hrun
  refine⟨_,_,hrun, ?_⟩
  rw [ofK h6]
  have hlrow:row.length=te.size:=by rw [hrl,h4,hT.len]
  have hkeep:=World.keptBut_alloc w (.cells ((Array.range (m.toNat*te.size)).map (zs[· %zs.size]!)) e) (inT fun _ _=>False)
  have hcells:∀k,k<m.toNat*te.size→cell (w.alloc (.cells ((Array.range (m.toNat*te.size)).map (zs[· %zs.size]!)) e)) w.heap.size k=some (z.cells.getD (k%te.size) undef):=by
   intro k hk'
   rw [cell_new _ _ _ _ (by simpa using hk')]
   have hz':zs=z.cells:=hzs' (by omega)
   have hlt:k%te.size<z.cells.size:=by rw [hs];exact Nat.mod_lt _ (by omega)
   simp [hz',hs,hs▸hlt]
  have hev:∀r∈List.replicate n.toNat row,r.map Cell.kind=te.kinds:=fun r hr'=>by
   rw [(List.mem_replicate.1 hr').2];exact hk
  have hfl:=bJ (bS hT.len hev)
  simp only [List.length_replicate]at hfl
  have hnm':n.toNat*te.size≤m.toNat*te.size:=Nat.mul_le_mul_right _ (by omega)
  have hCR:∀F',Keeps w (Fn own R) (w.alloc (.cells ((Array.range (m.toNat*te.size)).map (zs[· %zs.size]!)) e)) F'→(∀off,off<n.toNat*te.size→¬F' w.heap.size off)→
   CR E (w.alloc (.cells ((Array.range (m.toNat*te.size)).map (zs[· %zs.size]!)) e)) F' (.slice e (List.replicate n.toNat row)) (.slice (some ⟨w.heap.size,0,none⟩) n.toNat m.toNat):=by
   intro F' hK hF
   have hlen:n.toNat=(List.replicate n.toNat row).length:=by simp
   conv=>arg 5;rw [hlen]
   refine .slice e _ te _ 0 _ (fun i=>z.cells.getD (i%te.size) undef) he hev (by simp;omega) (fun i hi=>⟨?_, ?_⟩) fun i hi=> ?_
   · rw [Nat.zero_add];exact hcells i (by omega)
   · rw [Nat.zero_add];exact hF i (by omega)
   · have hdm:i=i / te.size*te.size+i%te.size:=by rw [Nat.mul_comm];exact(Nat.div_add_mod i te.size).symm
     have hmod:i%te.size<te.size:=Nat.mod_lt _ (by omega)
     have hdiv:i / te.size<n.toNat:=by
      rw [Nat.div_lt_iff_lt_mul (by omega)];omega
     obtain⟨q1,q2,q3⟩:=gv (bS hT.len hev) (i:=i / te.size) (j:=i%te.size) (by simpa using hdiv) hmod
     have e2:(List.replicate n.toNat row).flatten[i]=row[i%te.size]'(by omega):=by
      have:(List.replicate n.toNat row).flatten[i]=(List.replicate n.toNat row).flatten[i / te.size*te.size+i%te.size]:=by
       congr 1
      rw [this,q3]
      simp only [List.getElem_replicate]
     rw [e2]
     have hlt:i%te.size<z.cells.size:=by omega
     have:=xo hll hrl hr (E:=E) (w:=w) (F:=Fn own R) (ρ:=ρ) (g:=fun i=>z.cells.getD i undef) (fun j h1=>by
      have h2:j<z.cells.size:=by omega
      have:=hG (E:=E) (w:=w) (F:=Fn own R) (ρ:=ρ) hz2 h4 h5 j h1 h2
      simpa [h2]using this) (i%te.size) (by omega)
     exact this.keep hK
  by_cases hfull:n=m
  · subst hfull
    refine h.newSlice (q:=none) (B:=w.heap.size) hd hkeep (Nat.le_refl _) (by simp) (fun _ _ e=>by cases e) fun F' hK hF=> .full _ _ _ _ (hCR F' hK fun off _ hc=> ?_)
    obtain⟨t,e,_⟩:=hF off hc;cases e
  · refine h.newSlice (q:=some (w.heap.size,0+n.toNat*te.size)) (B:=w.heap.size) hd hkeep (Nat.le_refl _) (by simp) (fun _ _ e=>by cases e;rfl) fun F' hK hF=> .own e _ te _ 0 _ _ (hCR F' hK fun off ho hc=> ?_) he (by omega) fun j hj1 hj2=>⟨⟨_,hcells j (by omega)⟩,im ..⟩
    obtain⟨t,e,hl⟩:=hF off hc
    cases e
    omega
theorem Ca (r:Rows):ii r=r.map rZ:=by induction r<;>simp_all [ii]
theorem fO (s:List UInt8):bK s=s.map mv:=by induction s<;>simp_all [bK]
theorem le (G:Good P E){e:TypeId}{te:Ty}(he:E.tys e=some te)(hd:te.desc=.int .u8):te.kinds=[.int .u8]∧te.size=1:=by
 have hT:=G.ty e te he
 obtain⟨d,_,h2⟩:=hT.desc
 unfold eY at h2
 rw [hd]at h2
 cases d<;>simp_all
 rw [←hT.len,h2.2];rfl
theorem ED {rows:Rows}(h:∀r∈rows,r.map Cell.kind=[CK.int .u8]):∀(i:Nat) (hi:i<rows.length),∃n,rows[i]=[.int .u8 n]:=by
 intro i hi
 have:=h _ (List.getElem_mem hi)
 generalize rows[i]=r at this
 cases r with
 | nil=>simp at this
 | cons c r=>cases r with
  | cons d r=>simp at this
  | nil=>
   cases c<;>simp [Cell.kind]at this
   subst this
   exact⟨_,rfl⟩
theorem pq :∀{rows:Rows},(∀(i:Nat) (hi:i<rows.length),∃n,rows[i]=[.int .u8 n])→rows.flatten.length=rows.length∧∀(i:Nat) (h1:i<rows.flatten.length) (h2:i<rows.length),[rows.flatten[i]]=rows[i]
 | [],_=>⟨rfl,fun i h=>by simp at h⟩
 | r::rs,h=>by
  obtain⟨n,hr⟩:=h 0 (by simp)
  simp only [List.getElem_cons_zero]at hr
  subst hr
  obtain⟨h1,h2⟩:=pq (rows:=rs) fun i hi=>h (i+1) (by simpa using hi)
  refine⟨by simp [h1],fun i g1 g2=> ?_⟩
  cases i with
  | zero=>rfl
  | succ i=>exact h2 i (by simpa [h1]using g2) (by simpa using g2)
theorem qT {w':World}{e:TypeId}{te:Ty}{s:List UInt8}(he:E.tys e=some te)(hk:te.kinds=[.int .u8]){B cap:Nat}(hc:s.length≤cap)
 (hm:∀(i:Nat) (hi:i<s.length),cell w' B i=some (.int .u8 s[i].toNat)∧¬F B i):CR E w' F (.slice e (bK s)) (.slice (some ⟨B,0,none⟩) s.length cap):=by
 have hlen:(bK s).length=s.length:=by simp [fO]
 have hrow:∀(i:Nat) (hi:i<(bK s).length),(bK s)[i]=[.int .u8 (s[i]'(by omega)).toNat]:=fun i hi=>by simp [fO,mv]
 obtain⟨f1,f2⟩:=pq (rows:=bK s) fun i hi=>⟨_,hrow i hi⟩
 rw [←hlen]
 refine .slice e _ te B 0 cap (fun i=> .int .u8 (s.getD i 0).toNat) he (fun r hr=> ?_) (by omega) (fun i hi=> ?_) fun i hi=> ?_
 · simp only [fO,List.mem_map]at hr
   obtain⟨b,_,rfl⟩:=hr
   rw [hk];rfl
 · have hi2:i<s.length:=by omega
   have:=hm i hi2
   rw [Nat.zero_add]
   simpa [List.getD,List.getElem?_eq_getElem hi2]using this
 · have hi2:i<(bK s).length:=by omega
   have hi3:i<s.length:=by omega
   have h3:=f2 i hi hi2
   rw [hrow i hi2]at h3
   have h4:(bK s).flatten[i]=.int .u8 s[i].toNat:=by injection h3
   rw [h4]
   have h5:s.getD i 0=s[i]:=by simp [List.getD,List.getElem?_eq_getElem hi3]
   rw [h5]
   exact .int _ _
theorem rN (w:World)(e:TypeId)(s:ByteArray)(T:aG):w.keptBut (Lib.bytesWorld w e s) (inT T):=by
 have h1:w.keptBut (w.alloc (.cells #[] e)) (inT T):=World.keptBut_alloc _ _ _
 refine⟨by simp [Lib.bytesWorld,World.freeze,World.alloc,World.drew, -World.alloc_eq, -World.drew_eq],by simp [Lib.bytesWorld,World.freeze,World.alloc,World.drew, -World.alloc_eq, -World.drew_eq],fun i hi=> ?_⟩
 rw [Lib.bytesWorld_at_old w e s i hi]
 have:=h1.2.2 i hi
 have e2:(w.alloc (.cells #[] e)).heap[i]? =w.heap[i]? :=heap_alloc_old w _ i hi
 rwa [e2]at this
theorem BD (G:Good P E)(h:Rel E R ρ own N st a w){src dst:TypeId}{x:AV}{vx:Value}{px:aS}{F0:aG}(hx:AVR E w F0 ρ x vx px){u:Upd}(hu:qQ E src dst x some=some u){d:Option Nat}(hd:∀k,d=some k→k<N):
 ∃val w',(convert src dst vx).run P w=.ok val w'∧After E R ρ own N w (st.apply d u) (a.put d val) w':=by
 unfold qQ at hu
 split at hu<;>try (cases hu;done)
 rename_i ts td hs ht
 obtain⟨ds,hds,_⟩:=(G.ty _ _ hs).desc
 have hTd:=G.ty _ _ ht
 split at hu<;>try (cases hu;done)
 · -- a number
   rename_i k n
   cases hdd:td.desc<;>simp only [hdd]at hu<;>try (cases hu;done)
   rename_i k'
   rw [hx.get_int]
   refine⟨.int k' (k'.wrap n),w, ?_,by rw [fM hu];exact h.pure0 hd AVR.int⟩
   simp [convert,run_underlying hds,run_underlying (kp hTd hdd),Conv.intToInt]
 · rename_i s
   rw [hx.get_str]
   cases hdd:td.desc<;>simp only [hdd]at hu<;>try (cases hu;done)
   · refine⟨.string ⟨s.toArray⟩,w, ?_,by rw [ofK hu];exact h.pure0 hd (.of (.str _))⟩
     simp [convert,run_underlying hds,run_underlying (gp hTd hdd)]
   · rename_i e
     cases he:E.tys e with
     | none=>simp [he]at hu
     | some te=>
      simp only [he]at hu
      cases hde:te.desc<;>simp only [hde]at hu<;>try (cases hu;done)
      rename_i k
      cases k<;>simp only at hu<;>try (cases hu;done)
      obtain⟨_,hu⟩:=ab hu
      obtain⟨hk,hsz⟩:=le G he hde
      have hrun:=Lib.run_convert_string_bytes (P:=P) w src dst e ⟨s.toArray⟩ hds (bl hTd hdd) (kp (G.ty _ _ he) hde)
      refine⟨_,_,hrun, ?_⟩
      rw [ofK hu]
      have hcap:s.length≤grownCap w s.length 0 e:=grownCap_ge w s.length 0 e
      have hsize:(⟨s.toArray⟩:ByteArray).size=s.length:=rfl
      rw [hsize]
      have hkept:=rN w e ⟨s.toArray⟩ (fun _ _=>False)
      have hB2:w.heap.size<(Lib.bytesWorld w e ⟨s.toArray⟩).heap.size:=by rw [Lib.bytesWorld_size];omega
      have hcell:∀(i:Nat) (hi:i<s.length),cell (Lib.bytesWorld w e ⟨s.toArray⟩) w.heap.size i=some (.int .u8 s[i].toNat):=by
       intro i hi
       have:=Lib.bytesWorld_cell w e ⟨s.toArray⟩ i hi
       rw [cell,this]
       simp [List.getD,List.getElem?_eq_getElem hi]
      have hnew:=Lib.bytesWorld_at_new w e ⟨s.toArray⟩
      have hbc:(Lib.bytesCells w e ⟨s.toArray⟩).size=grownCap w s.length 0 e:=by
       simp only [Lib.bytesCells,Array.size_append,Array.size_map,Array.size_replicate,hsize]
       have:(⟨s.toArray⟩:ByteArray).data.size=s.length:=rfl
       rw [this];omega
      by_cases hfull:s.length=grownCap w s.length 0 e
      · rw [←hfull]
        refine h.newSlice (q:=none) (B:=w.heap.size) hd hkept (Nat.le_refl _) hB2 (fun _ _ e=>by cases e) fun F' hK hF=> .full _ _ _ _ (qT he hk (Nat.le_refl _) fun i hi=>⟨hcell i hi,fun hc=> ?_⟩)
        obtain⟨t,e,_⟩:=hF _ hc;cases e
      · refine h.newSlice (q:=some (w.heap.size,0+s.length*te.size)) (B:=w.heap.size) hd hkept (Nat.le_refl _) hB2 (fun _ _ e=>by cases e;rfl) fun F' hK hF=> .own e _ te _ 0 _ _ (qT he hk hcap fun i hi=>⟨hcell i hi,fun hc=> ?_⟩) he (by omega) fun j hj1 hj2=> ?_
        · obtain⟨t,e,hl⟩:=hF _ hc
          cases e
          rw [hsz]at hl
          omega
        · rw [hsz]at hj2
          have hj:j<(Lib.bytesCells w e ⟨s.toArray⟩).size:=by omega
          refine⟨⟨(Lib.bytesCells w e ⟨s.toArray⟩)[j], ?_⟩, ?_⟩
          · simp [cell,World.cell?,hnew,hj]
          · simp only [dl,World.frozen?,hnew]
            simp;omega
 · rename_i o e r
   split at hu<;>try (cases hu;done)
   rename_i e' te hdd hds' he
   cases hde:te.desc<;>simp only [hde]at hu<;>try (cases hu;done)
   rename_i k
   cases k<;>simp only at hu<;>try (cases hu;done)
   obtain⟨hb,hu1⟩:=ab hu
   clear hu
   have:=Nat.eq_of_beq_eq_true hb
   subst this
   obtain⟨hk,hsz⟩:=le G he hde
   have hus:=bl (G.ty _ _ hs) hds'
   have hue:=kp (G.ty _ _ he) hde
   have hud:=gp hTd hdd
   have hcr:=hx.get_one.inv_sl
   refine⟨.string ⟨(ii r).toArray⟩,w, ?_,by rw [ofK hu1];exact h.pure0 hd (.of (.str _))⟩
   cases hcr with
   | empty _ b cap=>
    cases b with
    | none=>
     rw [run_convert_bytes_nil w src e hus hue 0 cap dst hud]
     rfl
    | some b=>
     have hl:(loadCells b 0).run P w=.ok (([]:List Int).map (Value.int .u8)).toArray w:=rfl
     rw [run_convert_bytes_string w src dst e _ 0 cap hus hue hud,run_bytesToString w _ 0 cap [] hl]
     rfl
   | slice _ _ te' B off cap g he' hk' hc hm hr=>
    rw [he]at he'
    cases he'
    rw [hk]at hk'
    have hbr:=ED hk'
    obtain⟨f1,f2⟩:=pq hbr
    have hrun:=run_convert_bytes_arg (P:=P) w src e hus hue B off r.length cap (r.map fun x=>(dV x 0).toInt) (by simp) (fun i hi=>by
     have hi1:i<r.flatten.length:=by omega
     obtain⟨q1,_⟩:=hm i hi1
     have q2:=hr i hi1
     obtain⟨n,hn⟩:=hbr i hi
     have q3:=f2 i hi1 hi
     rw [hn]at q3
     have q4:r.flatten[i]=.int .u8 n:=by injection q3
     rw [q4]at q2
     have q5:g i=.int .u8 n:=by
      generalize g i=y at q2
      cases q2;rfl
     rw [q5]at q1
     rw [←cell,q1]
     simp [List.getD,List.getElem?_eq_getElem hi,hn,dV,Cell.toInt]) dst hud
    rw [hrun]
    congr 2
    simp [strOfNums,Ca,rZ,Function.comp_def]
 · split at hu<;>try (cases hu;done)
   rename_i e hdd hds'
   cases he:E.tys e with
   | none=>simp [he]at hu
   | some te=>
    simp only [he]at hu
    cases hde:te.desc<;>simp only [hde]at hu<;>try (cases hu;done)
    rename_i k
    cases k<;>simp only at hu<;>try (cases hu;done)
    have hv:=hx.get_one
    generalize px []=q at hv
    cases hv
    refine⟨.string ByteArray.empty,w,run_convert_bytes_nil w src e (bl (G.ty _ _ hs) hds') (kp (G.ty _ _ he) hde) 0 0 dst (gp hTd hdd),by rw [ofK hu];exact h.pure0 hd (.of (.str []))⟩
end Go.Abs
namespace Go.Abs
variable {E:Env} {P:Program} {R:aG} {ρ:List Nat} {own:OI→aH} {N:Nat} {st:St} {a:Act} {w:World} {F:aG}
theorem vH {n:Nat}:∀(r c:Nat),c≤n+(n+768) / 4→Builtin.growBy n r c≤n+(n+768) / 4
 | 0,c,h=>h
 | r+1,c,h=>by
  unfold Builtin.growBy
  split
  · exact h
  · exact vH r _ (by omega)
theorem tz {need cap:Nat}(h:cap<need):Builtin.nextslicecap need cap≤2*need+768:=by
 unfold Builtin.nextslicecap
 split
 · omega
 · split
   · omega
   · have:=vH (n:=need) 4 cap (by omega)
     omega
structure Src (P:Program) (E:Env) (w:World) (F:aG) (s:Nat) (ks:List CK) (x:Value) (ys:Rows) (new:List Value):Prop where
 len:∀w',(Builtin.lenOf x).run P w'=.ok ys.length w'
 run:∀w',(∀B off,cell w' B off=cell w B off)→(Builtin.firstCells s ys.length x).run P w'=.ok new.toArray w'
 kinds:∀r∈ys,r.map Cell.kind=ks
 size:new.length=ys.flatten.length
 rel:∀(k:Nat) (h1:k<ys.flatten.length) (h2:k<new.length),CR E w F ys.flatten[k] new[k]
theorem pM (G:Good P E){e:TypeId}{te:Ty}(he:E.tys e=some te){ys:Rows}{x:Value}(h:CR E w F (.slice e ys) x):∃new,Src P E w F te.size te.kinds x ys new:=by
 cases h with
 | empty _ b cap=>
  refine⟨[],fun w'=>rfl,fun w' _=> ?_,by simp,rfl,fun k h=>by simp at h⟩
  cases b<;>simp [Builtin.firstCells,loadCells,loadCellsFrom]
 | slice _ _ te' B off cap g he' hk hc hm hr=>
  rw [he]at he'
  cases he'
  have hfl:=bJ (bS (G.ty _ _ he).len hk)
  refine⟨(List.range (ys.length*te.size)).map g,fun w'=>rfl,fun w' hw=> ?_,hk,by simp [hfl],fun k h1 h2=> ?_⟩
  · simp only [Builtin.firstCells]
    exact run_loadCells w' ⟨B,off,none⟩ _ g fun j hj=>by
     rw [cM,←cell,hw]
     exact(hm j (by omega)).1
  · simp only [List.getElem_map,List.getElem_range]
    exact hr k h1
theorem Mg (G:Good P E){e:TypeId}{te:Ty}(he:E.tys e=some te)(hd:te.desc=.int .u8)(s:List UInt8):∃new,Src P E w F te.size te.kinds (.string ⟨s.toArray⟩) (bK s) new:=by
 obtain⟨hk,hs⟩:=le G he hd
 have hlen:(bK s).length=s.length:=by simp [fO]
 have hrow:∀(i:Nat) (hi:i<(bK s).length),(bK s)[i]=[.int .u8 (s[i]'(by omega)).toNat]:=fun i hi=>by simp [fO,mv]
 obtain⟨f1,f2⟩:=pq (rows:=bK s) fun i hi=>⟨_,hrow i hi⟩
 refine⟨s.map fun b=> .int .u8 b.toNat,fun w'=> ?_,fun w' _=> ?_,fun r hr=> ?_,by simp [f1,hlen],fun k h1 h2=> ?_⟩
 · rw [hlen];rfl
 · simp only [Builtin.firstCells,hlen,Sem.run_pure]
   congr 1
   apply Array.ext'
   simp [ByteArray.data_extract,List.extract_eq_take_drop]
 · simp only [fO,List.mem_map]at hr
   obtain⟨b,_,rfl⟩:=hr
   rw [hk];rfl
 · have hi2:k<(bK s).length:=by omega
   have h3:=f2 k h1 hi2
   rw [hrow k hi2]at h3
   have h4:(bK s).flatten[k]=.int .u8 (s[k]'(by omega)).toNat:=by injection h3
   rw [h4]
   simp only [List.getElem_map]
   exact .int _ _
theorem J3 {s:Nat}{ks:List CK}:Src P E w F s ks (.slice none 0 0) [] []:=
 ⟨fun _=>rfl,fun w' _=>by simp [Builtin.firstCells],by simp,rfl,fun k h=>by simp at h⟩
theorem iP {t t2 ty0 e:TypeId}{i:TypeInfo}(hu:P.underlying t=some (.slice e))(hi:P.info? e=some i){d2:TypeDesc}(hu2:P.underlying t2=some d2)(hd2:(∃e2,d2=.slice e2)∨d2=.string)
 {b:Option Addr} {len cap n:Nat} {x:Value} {new:List Value} {w':World} (hroom:len+n≤cap) (hn:(Builtin.lenOf x).run P w=.ok n w) (hnew:(Builtin.firstCells i.size n x).run P w=.ok new.toArray w)
 (hst:match b with | some a=>(storeCells (a.add (len*i.size)) new).run P w=.ok () w' | none=>w'=w):
 (Builtin.append_ #[t,t2] ty0 #[.slice b len cap,x]).run P w=.ok (.slice b (len+n) cap) w':=by
 rcases hd2 with⟨e2,rfl⟩ | rfl
 · cases b with
   | none=>subst hst;simp [Builtin.append_,run_underlying hu,run_underlying hu2,sizeOf,typeInfo,hi,hn,hroom,hnew]
   | some a=>simp only at hst;simp [Builtin.append_,run_underlying hu,run_underlying hu2,sizeOf,typeInfo,hi,hn,hroom,hnew,hst]
 · cases b with
   | none=>subst hst;simp [Builtin.append_,run_underlying hu,run_underlying hu2,sizeOf,typeInfo,hi,hn,hroom,hnew]
   | some a=>simp only at hst;simp [Builtin.append_,run_underlying hu,run_underlying hu2,sizeOf,typeInfo,hi,hn,hroom,hnew,hst]
theorem o6 {t t2 ty0 e:TypeId}{i:TypeInfo}{z:Value}(hu:P.underlying t=some (.slice e))(hi:P.info? e=some i)(hz:i.zero=some z){d2:TypeDesc}(hu2:P.underlying t2=some d2)(hd2:(∃e2,d2=.slice e2)∨d2=.string)
 {b:Option Addr} {len cap n:Nat} {x:Value} {old new:List Value} (hroom:¬len+n≤cap) (hsmall:len+n≤4294967296) (hby:i.bytes≤4096) (hn:(Builtin.lenOf x).run P w=.ok n w)
 (hold:(Builtin.firstCells i.size len (.slice b len cap)).run P w.drew=.ok old.toArray w.drew) (hnew:(Builtin.firstCells i.size n x).run P w.drew=.ok new.toArray w.drew):
 (Builtin.append_ #[t,t2] ty0 #[.slice b len cap,x]).run P w=.ok (.slice (some ⟨w.heap.size,0,none⟩) (len+n) (grownCap w (len+n) cap e))
  (w.drew.alloc (.cells (old.toArray++(new.toArray++Builtin.zeroCells z.cells (grownCap w (len+n) cap e - (len+n)))) e)):=by
 have h1:¬Builtin.nextslicecap (len+n) cap*i.bytes>2^48:=by
  have h2:=tz (need:=len+n) (cap:=cap) (by omega)
  have h3:Builtin.nextslicecap (len+n) cap*i.bytes≤8589935360*4096:=Nat.mul_le_mul (by omega) hby
  omega
 have h4:¬(9223372036854775807:Int)<(len:Int)+n:=by omega
 have hq:(Question.appendCap (len+n) cap e).forced=false:=rfl
 rcases hd2 with⟨e2,rfl⟩ | rfl
 · simp [Builtin.append_,run_underlying hu,run_underlying hu2,sizeOf,typeInfo,hi,hz,hn,hroom,h1,h4,hq,hold,hnew,zeroValue,newRow,grownCap]
 · simp [Builtin.append_,run_underlying hu,run_underlying hu2,sizeOf,typeInfo,hi,hz,hn,hroom,h1,h4,hq,hold,hnew,zeroValue,newRow,grownCap]
theorem rX {l:List Value}{i:Nat}(h:i<l.length):l.getD i undef=l[i]:=by simp [List.getD,List.getElem?_eq_getElem h]
theorem CR.oneCell {c:Cell}{v:Value}(h:CR E w F c v):v.oneCell'=true:=by cases h<;>rfl
theorem qZ {e:TypeId}{te:Ty}(he:E.tys e=some te){rows ys:Rows}{B off cap:Nat}{g:Nat→Value}{new:List Value}
 (hk:∀r∈rows,r.map Cell.kind=te.kinds) (hk2:∀r∈ys,r.map Cell.kind=te.kinds) (hc:rows.length+ys.length≤cap) (hnl:new.length=ys.flatten.length)
 (h1:∀(i:Nat) (hi:i<rows.flatten.length),cell w B (off+i)=some (g i)∧¬F B (off+i)∧CR E w F rows.flatten[i] (g i))
 (h2:∀(i:Nat) (hi:i<ys.flatten.length) (hi2:i<new.length),cell w B (off+rows.flatten.length+i)=some new[i]∧¬F B (off+rows.flatten.length+i)∧CR E w F ys.flatten[i] new[i]):
 CR E w F (.slice e (rows++ys)) (.slice (some ⟨B,off,none⟩) (rows.length+ys.length) cap):=by
 have hlen:rows.length+ys.length=(rows++ys).length:=by simp
 have hfl:(rows++ys).flatten=rows.flatten++ys.flatten:=by simp
 rw [hlen]
 refine .slice e _ te B off cap (fun i=>if i<rows.flatten.length then g i else new.getD (i - rows.flatten.length) undef) he (fun r hr=> ?_) (by omega) (fun i hi=> ?_) fun i hi=> ?_
 · rcases List.mem_append.1 hr with h | h
   · exact hk r h
   · exact hk2 r h
 · rw [hfl,List.length_append]at hi
   by_cases hlt:i<rows.flatten.length
   · rw [if_pos hlt];exact⟨(h1 i hlt).1,(h1 i hlt).2.1⟩
   · rw [if_neg hlt]
     have h3:=h2 (i - rows.flatten.length) (by omega) (by omega)
     rw [show off+rows.flatten.length+(i - rows.flatten.length)=off+i by omega]at h3
     have h4:new.getD (i - rows.flatten.length) undef=new[i - rows.flatten.length]'(by omega):=rX (by omega)
     rw [h4]
     exact⟨h3.1,h3.2.1⟩
 · have hi':=hi
   rw [hfl,List.length_append]at hi'
   by_cases hlt:i<rows.flatten.length
   · rw [if_pos hlt]
     have e1:(rows++ys).flatten[i]=rows.flatten[i]:=by simp only [hfl];exact List.getElem_append_left _
     rw [e1]
     exact(h1 i hlt).2.2
   · rw [if_neg hlt]
     have h3:=h2 (i - rows.flatten.length) (by omega) (by omega)
     have h4:new.getD (i - rows.flatten.length) undef=new[i - rows.flatten.length]'(by omega):=rX (by omega)
     have e1:(rows++ys).flatten[i]=ys.flatten[i - rows.flatten.length]'(by omega):=by simp only [hfl];exact List.getElem_append_right (by omega)
     rw [h4,e1]
     exact h3.2.2
theorem Bz {e:TypeId}{rows:Rows}{b:Option Addr}{len cap:Nat}(h:CR E w F (.slice e rows) (.slice b len cap)){te:Ty}(he:E.tys e=some te):
 rows=[]∨∃(B off:Nat) (g:Nat→Value),b=some ⟨B,off,none⟩∧(∀r∈rows,r.map Cell.kind=te.kinds)∧∀(i:Nat) (hi:i<rows.flatten.length),cell w B (off+i)=some (g i)∧¬F B (off+i)∧CR E w F rows.flatten[i] (g i):=by
 cases h with
 | empty=>exact .inl rfl
 | slice _ _ te' B off cap g he' hk hc hm hr=>
  rw [he]at he'
  cases he'
  exact .inr ⟨B,off,g,rfl,hk,fun i hi=>⟨(hm i hi).1,(hm i hi).2,hr i hi⟩⟩
theorem EN (G:Good P E)(h:Rel E R ρ own N st a w){t t2 ty0 e:TypeId}{te:Ty}(hu:P.underlying t=some (.slice e))(he:E.tys e=some te)(hby:te.bytes≤4096){d2:TypeDesc}(hu2:P.underlying t2=some d2)(hd2:(∃e2,d2=.slice e2)∨d2=.string)
 {rows ys:Rows} {vx x:Value} {q:aH} (hx:AR E w (Fn own R) ρ (.sl true e rows) vx q) {new:List Value} (hs:Src P E w (Fn own R) te.size te.kinds x ys new) (hlim:rows.length+ys.length≤4294967296)
 {dst dis:Option Nat} (hq:∀B s,q=some (B,s)→∃y,dis=some y∧own (.tmp y [])=some (B,s)) (hd:∀d,dst=some d→d<N) {rd:List Nat}:
 ∃val w',(Builtin.append_ #[t,t2] ty0 #[vx,x]).run P w=.ok val w'∧After E R ρ own N w (st.apply dst ⟨.one (.sl true e (rows++ys)),dis,[],[],rd⟩) (a.put dst val) w':=by
 have hT:=G.ty e te he
 have hpos:=hT.pos
 obtain⟨i,z,hi1,hi2,hi3,hi4,hi5⟩:=hT.info
 obtain⟨hzs,_⟩:=d8 hi5
 obtain⟨b,cap,rfl⟩:=hx.inv_slV
 obtain⟨_,hcap⟩:=hx.inv_sl.inv_cap
 have hsn:=hs.len w
 have hfly:=bJ (bS hT.len hs.kinds)
 have hrv:=Bz hx.inv_sl he
 have hflr:rows.flatten.length=rows.length*te.size:=by
  rcases hrv with rfl | ⟨_,_,_,_,hk,_⟩
  · simp
  · exact bJ (bS hT.len hk)
 have hmul:(rows.length+ys.length)*te.size=rows.length*te.size+ys.length*te.size:=Nat.add_mul ..
 by_cases hroom:rows.length+ys.length≤cap
 · -- in place
   have hxx:=hx
   generalize hv:Value.slice b rows.length cap=v at hxx
   cases hxx with
   | full _ _ b' n hc=>
    cases hv
    have hy0:ys.length=0:=by omega
    have:ys=[]:=List.eq_nil_of_length_eq_zero hy0
    subst this
    have hn0:new=[]:=List.eq_nil_of_length_eq_zero (by rw [hs.size];rfl)
    subst hn0
    refine⟨_,w,iP (i:=i) (new:=[]) (w':=w) hu hi1 hu2 hd2 (by simp) hsn (by rw [hi2];exact hs.run w fun _ _=>rfl) (by cases b<;>rfl), ?_⟩
    have hAR:AR E w (Fn own R) ρ (.sl true e (rows++ [])) (.slice b (rows.length+([]:Rows).length) rows.length) none:=by simpa using hx
    refine⟨ρ,_,fun _ _ h=>h,h.put (dis:=dis) (oV:=fun _=>none) (T:=fun _ _=>False) hd (World.keptBut_refl _ _) (fun _ _ h=>h.elim) (fun p B t' e=>by cases e) (fun p p' B t t' e=>by cases e) fun hK=> .of (hAR.keep hK (fun _ _ h=>h) fun B t e=>by cases e)⟩
   | own _ _ te' B off len' cap' hc he' hl hsp=>
    cases hv
    rw [he]at he'
    cases he'
    obtain⟨y,hy,hown⟩:=hq _ _ rfl
    have hone:∀v∈new,v.oneCell'=true:=by
     intro v hv
     obtain⟨k,hk,rfl⟩:=List.getElem_of_mem hv
     exact(hs.rel k (by rw [←hs.size];exact hk) hk).oneCell
    have hnl:new.length=ys.length*te.size:=by rw [hs.size,hfly]
    have hle:rows.length*te.size+new.length≤cap*te.size:=by
     rw [hnl,←hmul];exact Nat.mul_le_mul_right _ hroom
    have hst:=d7 (P:=P) new w B (off+rows.length*te.size) 0 hone (fun j hj=>hsp _ (by omega) (by omega))
    have hk:w.keptBut (cX w B (off+rows.length*te.size) new) (inT fun B' o'=>B'=B∧off+rows.length*te.size≤o'):=fZ _ _ _ _ _ fun i _=>⟨rfl,by omega⟩
    refine⟨_,_,iP (i:=i) (new:=new) hu hi1 hu2 hd2 hroom hsn (by rw [hi2];exact hs.run w fun _ _=>rfl) (by simp only [hi2,cM];exact hst), ?_⟩
    let q':aH:=if rows.length+ys.length<cap then some (B,off+(rows.length+ys.length)*te.size)else none
    have hq':∀B' t,q'=some (B',t)→B'=B∧t=off+(rows.length+ys.length)*te.size:=by
     intro B' t e
     simp only [q']at e
     split at e<;>cases e
     exact⟨rfl,rfl⟩
    refine⟨ρ,_,fun _ _ h=>h,h.put (dis:=dis) (oV:=own1 q') (T:=fun B' o'=>B'=B∧off+rows.length*te.size≤o') hd hk ?_ ?_ ?_ fun hK=>AVR.own1 ?_⟩
    · rintro B' o' ⟨rfl,ho⟩
      exact⟨y,[],_,hy,hown,ho⟩
    · intro p B' t' e
      obtain⟨_,e⟩:=ga e
      obtain⟨rfl,rfl⟩:=hq' _ _ e
      exact .inl ⟨y,[],_,hy,hown,by rw [hmul];omega⟩
    · intro p p' B' t t' e e'
      rw [(ga e).1,(ga e').1]
    · -- the value
      have hF:∀j,j<(rows.length+ys.length)*te.size→rows.length*te.size≤j→¬Fn (bg (cL own dis) dst (own1 q')) R B (off+j):=by
       rintro j hj1 hj2 (hR | ⟨x',t',hx',hl'⟩)
       · exact(h.out _ _ _ hown).2 _ hR
       · have:∀{s p},cL own dis (.tmp s p)=some (B,t')→False:=by
          intro s p e
          have e2:=h.inj _ _ _ _ _ (cP e) hown
          injection e2 with e3 e4
          subst e3
          simp [cL,hy]at e
         cases x' with
         | tmp s p=>
          simp only [bg]at hx'
          split at hx'
          · obtain⟨_,e⟩:=ga hx'
            obtain⟨_,rfl⟩:=hq' _ _ e
            omega
          · exact this hx'
         | self k=>have:=h.inj _ _ _ _ _ (show own (.self k)=_ from hx') hown;cases this
         | cell k j=>have:=h.inj _ _ _ _ _ (show own (.cell k j)=_ from hx') hown;cases this
      have hCR:CR E (cX w B (off+rows.length*te.size) new) (Fn (bg (cL own dis) dst (own1 q')) R) (.slice e (rows++ys)) (.slice (some ⟨B,off,none⟩) (rows.length+ys.length) cap):=by
       have hkr:∀r∈rows,r.map Cell.kind=te.kinds:=by
        rcases hrv with rfl | ⟨_,_,_,_,hk,_⟩
        · simp
        · exact hk
       obtain⟨g,hg⟩:∃g:Nat→Value,∀(i:Nat) (hi:i<rows.flatten.length),cell w B (off+i)=some (g i)∧¬Fn own R B (off+i)∧CR E w (Fn own R) rows.flatten[i] (g i):=by
        rcases hrv with rfl | ⟨B',off',g,hb,_,hg⟩
        · exact⟨fun _=>undef,fun i hi=>by simp at hi⟩
        · cases hb;exact⟨g,hg⟩
       refine qZ he hkr hs.kinds hroom hs.size (g:=g) (fun i hi=> ?_) fun i hi hi2=> ?_
       · obtain⟨g1,g2,g3⟩:=hg i hi
         have:=hK.old _ _ _ g1 g2
         exact⟨this.1,this.2,g3.keep hK⟩
       · rw [hflr]
         obtain⟨u,hu'⟩:=(hsp (off+rows.length*te.size+i) (by omega) (by omega)).1
         refine⟨fY new w B _ i hi2 ⟨u,hu'⟩, ?_,(hs.rel i hi hi2).keep hK⟩
         rw [Nat.add_assoc]
         exact hF _ (by omega) (by omega)
      by_cases hlt:rows.length+ys.length<cap
      · have:q'=some (B,off+(rows.length+ys.length)*te.size):=if_pos hlt
        rw [this]
        refine .own e _ te B off _ cap (by rw [this]at hCR;exact hCR) he hlt fun j hj1 hj2=> ?_
        obtain⟨⟨u,hu'⟩,hcold⟩:=hsp j (by rw [hmul]at hj1;omega) hj2
        refine⟨⟨u, ?_⟩,by rw [cK];exact hcold⟩
        rw [eo _ _ _ _ _ _ (by rw [hmul]at hj1;omega)]
        exact hu'
      · have hn:q'=none:=if_neg hlt
        have hcc:rows.length+ys.length=cap:=by omega
        rw [hn]
        rw [hn,hcc]at hCR
        rw [hcc]
        exact .full _ _ _ _ hCR
 · -- a new block
   have hdrew:∀B off,cell w.drew B off=cell w B off:=fun _ _=>rfl
   obtain⟨old,hold,hol,hoc⟩:∃old:List Value,(Builtin.firstCells te.size rows.length (.slice b rows.length cap)).run P w.drew=.ok old.toArray w.drew∧old.length=rows.flatten.length∧∀(k:Nat) (h1:k<rows.flatten.length) (h2:k<old.length),CR E w (Fn own R) rows.flatten[k] old[k]:=by
    obtain⟨old,ho⟩:=pM (P:=P) G he hx.inv_sl
    exact⟨old,ho.run _ hdrew,ho.size,ho.rel⟩
   have hrun:=o6 (z:=z) (ty0:=ty0) hu hi1 hi4 hu2 hd2 hroom hlim (by omega) hsn (by rw [hi2];exact hold) (by rw [hi2];exact hs.run _ hdrew)
   refine⟨_,_,hrun, ?_⟩
   have hge:=grownCap_ge w (rows.length+ys.length) cap e
   have hzsz:z.cells.size=te.size:=by rw [hzs,hT.len]
   have hsize:(old.toArray++(new.toArray++Builtin.zeroCells z.cells (grownCap w (rows.length+ys.length) cap e - (rows.length+ys.length)))).size=grownCap w (rows.length+ys.length) cap e*te.size:=by
    simp only [Array.size_append,List.size_toArray,size_zeroCells,hol,hs.size,hflr,hfly,hzsz]
    have:grownCap w (rows.length+ys.length) cap e*te.size=(rows.length+ys.length)*te.size+(grownCap w (rows.length+ys.length) cap e - (rows.length+ys.length))*te.size:=by
     rw [←Nat.add_mul];congr 1;omega
    omega
   generalize hC:old.toArray++(new.toArray++Builtin.zeroCells z.cells (grownCap w (rows.length+ys.length) cap e - (rows.length+ys.length)))=C at hsize
   have hkeep:w.keptBut (w.drew.alloc (.cells C e)) (inT fun _ _=>False):=World.keptBut_alloc w.drew (.cells C e) _
   have hcell:∀j,j<C.size→cell (w.drew.alloc (.cells C e)) w.heap.size j=C[j]? :=fun j hj=>World.cell?_alloc_new w.drew C e j
   have hold':∀(j:Nat) (hj:j<rows.flatten.length),C[j]? =some (old[j]'(by omega)):=by
    intro j hj
    rw [←hC,Array.getElem?_append_left (by rw [List.size_toArray];omega)]
    simp [show j<old.length by omega]
   have hnew':∀(j:Nat) (hj:j<ys.flatten.length),C[rows.flatten.length+j]? =some (new[j]'(by rw [hs.size];exact hj)):=by
    intro j hj
    have h5:j<new.length:=by rw [hs.size];exact hj
    rw [←hC,Array.getElem?_append_right (by rw [List.size_toArray];omega),Array.getElem?_append_left (by rw [List.size_toArray,List.size_toArray];omega),List.size_toArray,hol,Nat.add_sub_cancel_left]
    simp [h5]
   have hCs:(rows.length+ys.length)*te.size≤C.size:=by rw [hsize];exact Nat.mul_le_mul_right _ hge
   have hCR:∀F',Keeps w (Fn own R) (w.drew.alloc (.cells C e)) F'→(∀o,o<(rows.length+ys.length)*te.size→¬F' w.heap.size o)→
    CR E (w.drew.alloc (.cells C e)) F' (.slice e (rows++ys)) (.slice (some ⟨w.heap.size,0,none⟩) (rows.length+ys.length) (grownCap w (rows.length+ys.length) cap e)):=by
    intro F' hK hF
    have hkr:∀r∈rows,r.map Cell.kind=te.kinds:=by
     rcases hrv with rfl | ⟨_,_,_,_,hk,_⟩
     · simp
     · exact hk
    refine qZ he hkr hs.kinds hge hs.size (g:=fun i=>old.getD i undef) (fun i hi=> ?_) fun i hi hi2=> ?_
    · have h6:old.getD i undef=old[i]'(by omega):=rX (by omega)
      rw [Nat.zero_add,h6]
      exact⟨by rw [hcell _ (by omega)];exact hold' i hi,hF _ (by omega),(hoc i hi _).keep hK⟩
    · rw [Nat.zero_add]
      exact⟨by rw [hcell _ (by omega)];exact hnew' i hi,hF _ (by omega),(hs.rel i hi hi2).keep hK⟩
   by_cases hfull:rows.length+ys.length=grownCap w (rows.length+ys.length) cap e
   · refine h.newSlice (q:=none) (B:=w.heap.size) hd hkeep (Nat.le_refl _) (by simp) (fun _ _ e=>by cases e) fun F' hK hF=> ?_
     have:=hCR F' hK fun o _ hc=>by obtain⟨t,e,_⟩:=hF o hc;cases e
     rw [←hfull]at this⊢
     exact .full _ _ _ _ this
   · refine h.newSlice (q:=some (w.heap.size,0+(rows.length+ys.length)*te.size)) (B:=w.heap.size) hd hkeep (Nat.le_refl _) (by simp) (fun _ _ e=>by cases e;rfl) fun F' hK hF=> .own e _ te _ 0 _ _ (hCR F' hK fun o ho hc=> ?_) he (by omega) fun j hj1 hj2=>⟨⟨C[j]'(by omega),by rw [hcell _ (by omega)];simp [show j<C.size by omega]⟩,World.frozen?_alloc_new ..⟩
     obtain⟨t,e,hl⟩:=hF o hc
     cases e
     omega
theorem E6 (G:Good P E){e:TypeId}{te:Ty}{k:IntKind}(he:E.tys e=some te)(hd:te.desc=.int k):te.kinds=[.int k]:=by
 have hT:=G.ty e te he
 obtain⟨d,_,h2⟩:=hT.desc
 unfold eY at h2
 rw [hd]at h2
 cases d<;>simp_all
def mG :aG:=fun _ _=>False
theorem CR.loose {c:Cell}{v:Value}(h:CR E w F c v):CR E w mG c v:=
 h.keep ⟨fun _ _ _ _ _=>rfl,fun _ _ _ h1 _=>⟨h1,fun h=>h⟩,fun _ _ h=>h⟩
def SrcV (E:Env)(w:World)(F:aG)(ρ:List Nat)(y:AV)(vy:Value):Prop:=
 (∃p,AVR E w F ρ y vy p)∨∃e te k rows,y=.one (.sl false e rows)∧E.tys e=some te∧te.desc=.int k∧CR E w mG (.slice e rows) vy
theorem SrcV.src (G:Good P E){o:Bool}{e:TypeId}{ys:Rows}{vy:Value}{te:Ty}(h:SrcV E w F ρ (.one (.sl o e ys)) vy)(he:E.tys e=some te):∃new,Src P E w F te.size te.kinds vy ys new:=by
 rcases h with⟨p,h⟩ | ⟨e',te',k,rows,h1,h2,h3,h4⟩
 · exact pM G he h.get_one.inv_sl
 · cases h1
   rw [he]at h2
   cases h2
   obtain⟨new,hs⟩:=pM (P:=P) G he h4
   refine⟨new,hs.len,hs.run,hs.kinds,hs.size,fun i h1 h2=> ?_⟩
   have hr:=hs.rel i h1 h2
   obtain⟨r,hr1,hc⟩:=List.mem_flatten.1 (List.getElem_mem h1)
   have hk:=hs.kinds r hr1
   rw [E6 G he h3]at hk
   have hm:Cell.kind (ys.flatten[i])∈r.map Cell.kind:=List.mem_map_of_mem hc
   rw [hk,List.mem_singleton]at hm
   generalize ys.flatten[i]=c at hr hm
   generalize new[i]=v at hr
   cases c<;>simp [Cell.kind]at hm
   cases hr
   exact .int _ _
theorem SrcV.any {y:AV}{vy:Value}(h:SrcV E w F ρ y vy):∃F0 p,AVR E w F0 ρ y vy p:=by
 rcases h with⟨p,h⟩ | ⟨e,te,k,rows,rfl,h2,h3,h4⟩
 · exact⟨F,p,h⟩
 · exact⟨mG,_,.of (.sl _ _ _ h4)⟩
theorem SrcV.of {y:AV}{vy:Value}{p:aS}(h:AVR E w F ρ y vy p):SrcV E w F ρ y vy:=.inl ⟨p,h⟩
theorem mB (h:Rel E R ρ own N st a w){b B:Nat}{e:TypeId}{rows:Rows}{te:Ty}(hb:nth st.blk b=some (.arr e rows))(he:E.tys e=some te)(hB:nth ρ b=some B)(h0:0<rows.length):
 own (.self b)=some (B,0)∧(∀j,own (.cell b j)=none)∧(∀r∈rows,r.map Cell.kind=te.kinds)∧((∃v,cell w B 0=some v)∧dl w B 0=false)∧
  ∃g:Nat→Value,∀(i:Nat) (hi:i<rows.flatten.length),cell w B i=some (g i)∧dl w B i=false∧CR E w (Fn own R) rows.flatten[i] (g i):=by
 have hbr:=h.blk b
 rw [hb]at hbr
 rcases hbr with⟨h1,_⟩ | ⟨B',te',h1,h2,h3,h4,h5,h6,h7⟩
 · subst h1;simp at h0
 · rw [hB]at h1
   cases h1
   rw [he]at h4
   cases h4
   refine⟨h2,h3,h5,h6,fun j=>if hj:j<rows.flatten.length then Classical.choose (h7 j hj)else undef,fun i hi=> ?_⟩
   simp only [hi,dif_pos]
   exact Classical.choose_spec (h7 i hi)
theorem kG {rows:Rows}{lo n:Nat}(h:lo+n≤rows.length):(dA rows lo (lo+n)).length=n:=by
 simp only [dA,bp,aN,List.length_drop,List.length_take]
 omega
theorem Av {rows:Rows}{s lo n:Nat}(hr:us s rows)(i:Nat)(hi:i<n*s):(dA rows lo (lo+n)).flatten[i]? =rows.flatten[lo*s+i]? :=by
 have hr2:us s (rows.take (lo+n)):=fun r hr'=>hr r (List.mem_of_mem_take hr')
 simp only [dA,bp,aN]
 rw [kf lo hr2,kc (lo+n) hr,List.getElem?_drop,List.getElem?_take_of_lt]
 rw [Nat.add_mul]
 omega
theorem Bt (G:Good P E)(h:Rel E R ρ own N st a w){e:TypeId}{b lo n:Nat}{c:Option Nat}{rows:Rows}{te:Ty}{vx:Value}{q:aH}(hb:nth st.blk b=some (.arr e rows))(he:E.tys e=some te)
 (hx:AR E w (Fn own R) ρ (.win e b lo n c) vx q) (hle:lo+n≤rows.length):CR E w mG (.slice e (dA rows lo (lo+n))) vx:=by
 cases hx with
 | win _ _ _ _ _ te' B off cap hB he' hn hc ho hs=>
  rw [he]at he'
  cases he'
  by_cases h0:n=0
  · subst h0
    have:dA rows lo (lo+0)=[]:=List.eq_nil_of_length_eq_zero (kG hle)
    rw [this]
    exact .empty _ _ _
  · have hoff:=ho (by omega)
    subst hoff
    obtain⟨_,_,hk,_,g,hg⟩:=mB h hb he hB (by omega)
    have hev:=bS (G.ty _ _ he).len hk
    have hl:=kG hle
    have hk2:∀r∈dA rows lo (lo+n),r.map Cell.kind=te.kinds:=fun r hr=>by
     simp only [dA,bp,aN]at hr
     exact hk r (List.mem_of_mem_take (List.mem_of_mem_drop hr))
    have hfl:=bJ (bS (G.ty _ _ he).len hk2)
    have hflr:=bJ hev
    rw [hl]at hfl
    have hsub:∀i,i<n*te.size→lo*te.size+i<rows.flatten.length:=fun i hi=>by
     have:=Nat.mul_le_mul_right te.size hle
     rw [Nat.add_mul]at this
     omega
    have key:∀(i:Nat) (hi:i<(dA rows lo (lo+n)).flatten.length),(dA rows lo (lo+n)).flatten[i]=rows.flatten[lo*te.size+i]'(hsub i (by omega)):=fun i hi=>by
     have:=Av (n:=n) hev (lo:=lo) i (by omega)
     rw [List.getElem?_eq_getElem hi,List.getElem?_eq_getElem (hsub i (by omega))]at this
     exact Option.some.inj this
    have hv:=CR.slice (E:=E) (w:=w) (F:=mG) e (dA rows lo (lo+n)) te B (lo*te.size) cap (fun i=>g (lo*te.size+i)) he hk2 (by omega) (fun i hi=>⟨(hg _ (hsub i (by omega))).1,fun h=>h⟩) fun i hi=>by
     rw [key i hi]
     exact(hg _ (hsub i (by omega))).2.2.loose
    rwa [hl]at hv
theorem Gd (h:Rel E R ρ own N st a w){e:TypeId}{b:Nat}{rows:Rows}{vx:Value}{q:aH}(hb:nth st.blk b=some (.arr e rows))
 (hx:AR E w (Fn own R) ρ (.msl e b rows.length) vx q):CR E w mG (.slice e rows) vx:=by
 generalize hn:rows.length=n at hx
 cases hx with
 | mnil=>
  have:=List.eq_nil_of_length_eq_zero hn
  subst this
  exact .empty _ _ _
 | msl _ _ _ te B cap hB he h0 hnc hcm hsp=>
  obtain⟨_,_,hk,_,g,hg⟩:=mB h hb he hB (by omega)
  rw [←hn]
  refine .slice e rows te B 0 cap g he hk (by omega) (fun i hi=> ?_) fun i hi=>(hg i hi).2.2.loose
  rw [Nat.zero_add]
  exact⟨(hg i hi).1,fun h=>h⟩
theorem ww {e:TypeId}(h:pn E e=true):∃te k,E.tys e=some te∧te.desc=.int k:=by
 unfold pn at h
 cases h1:E.tys e with
 | none=>rw [h1]at h;cases h
 | some te=>
  rw [h1]at h
  dsimp only at h
  cases hd:te.desc<;>rw [hd]at h<;>first | exact⟨_,_,rfl,hd⟩ | cases h
theorem nQ (G:Good P E)(h:Rel E R ρ own N st a w){y:AV}{vy:Value}{p:aS}(hy:AVR E w (Fn own R) ρ y vy p){β:Type}{K:AV→List Nat→Option β}{r:β}(hu:pY E st y K=some r):
 ∃y' rd,K y' rd=some r∧SrcV E w (Fn own R) ρ y' vy:=by
 unfold pY at hu
 split at hu
 · rename_i e b n
   split at hu<;>try (cases hu;done)
   rename_i e' rows hb
   obtain⟨hc,hu1⟩:=ab hu
   obtain⟨hn,hu2⟩:=ab hu1
   rw [Bool.and_eq_true]at hc
   have:=Nat.eq_of_beq_eq_true hc.1
   subst this
   have:=Nat.eq_of_beq_eq_true hn
   subst this
   obtain⟨te,k,he,hd⟩:=ww hc.2
   exact⟨_,_,hu2,.inr ⟨e,te,k,rows,rfl,he,hd,Gd h hb hy.get_one⟩⟩
 · rename_i e b lo n c
   split at hu<;>try (cases hu;done)
   rename_i e' rows hb
   obtain⟨hc,hu1⟩:=ab hu
   obtain⟨hn,hu2⟩:=ab hu1
   rw [Bool.and_eq_true]at hc
   have:=Nat.eq_of_beq_eq_true hc.1
   subst this
   obtain⟨te,k,he,hd⟩:=ww hc.2
   exact⟨_,_,hu2,.inr ⟨e,te,k,_,rfl,he,hd,Bt G h hb he hy.get_one (Nat.le_of_ble_eq_true hn)⟩⟩
 · exact⟨_,_,hu,.of hy⟩
theorem pD {e:TypeId}{b lo0 n cap:Nat}{c:Option Nat}{isS:Bool}{lo hi mx:Option AV}{vlo vhi vmx:Option Value}(hlo:j0 E w F ρ lo vlo)(hhi:j0 E w F ρ hi vhi)(hmx:j0 E w F ρ mx vmx)(hcap:n≤cap){v:AV}
 (h:gr e b lo0 n c lo hi mx some=some v):∃l k m c',v=.one (.win e b (lo0+l) (k - l) c')∧(Instr.sliceBounds isS n cap vlo vhi vmx).run P w=.ok (l,k,m) w∧l≤k∧k≤n∧k≤m∧m≤cap∧(c'=none∨(c'=c∧l=0∧m=cap)):=by
 obtain⟨b1,b2,b3,b4,b5,b6⟩:=lk (P:=P) (isS:=isS) (len:=n) (cap:=cap) hlo hhi hmx hcap
 unfold gr at h
 split at h
 · cases h
   exact⟨0,n,cap,c,rfl,b2 rfl rfl rfl,Nat.zero_le _,Nat.le_refl _,hcap,Nat.le_refl _,.inr ⟨rfl,rfl,rfl⟩⟩
 · rename_i x
   split at h<;>try (cases h;done)
   rename_i l hl
   obtain⟨hb,h⟩:=ab h
   cases h
   exact⟨l.toNat,n,cap,none,rfl,b3 x rfl rfl rfl l hl hb,dh hb,Nat.le_refl _,hcap,Nat.le_refl _,.inl rfl⟩
 · rename_i x
   split at h<;>try (cases h;done)
   rename_i k hk
   obtain⟨hb,h⟩:=ab h
   cases h
   exact⟨0,k.toNat,cap,c,rfl,b1 x rfl rfl rfl k hk hb,Nat.zero_le _,dh hb,Nat.le_trans (dh hb) hcap,Nat.le_refl _,.inr ⟨rfl,rfl,rfl⟩⟩
 · rename_i x y
   split at h<;>try (cases h;done)
   rename_i l k hl hk
   obtain⟨hb,h⟩:=ab h
   obtain⟨hb2,h⟩:=ab h
   cases h
   exact⟨l.toNat,k.toNat,cap,none,rfl,b4 x y rfl rfl rfl l k hl hk hb hb2,dh hb2,dh hb,Nat.le_trans (dh hb) hcap,Nat.le_refl _,.inl rfl⟩
 · rename_i x y
   split at h<;>try (cases h;done)
   rename_i k m hk hm
   obtain⟨hb,h⟩:=ab h
   obtain⟨he,h⟩:=ab h
   cases h
   have he:k=m:=of_decide_eq_true he
   have hkn:k.toNat≤n:=by rw [he];exact dh hb
   exact⟨0,k.toNat,k.toNat,none,rfl,b5 x y rfl rfl rfl k m hk hm hb he,Nat.zero_le _,hkn,Nat.le_refl _,Nat.le_trans hkn hcap,.inl rfl⟩
 · rename_i x y z
   split at h<;>try (cases h;done)
   rename_i l k m hl hk hm
   obtain⟨hb,h⟩:=ab h
   obtain⟨he,h⟩:=ab h
   obtain⟨hb2,h⟩:=ab h
   cases h
   have he:k=m:=of_decide_eq_true he
   have hkn:k.toNat≤n:=by rw [he];exact dh hb
   exact⟨l.toNat,k.toNat,k.toNat,none,rfl,b6 x y z rfl rfl rfl l k m hl hk hm hb he hb2,dh hb2,hkn,Nat.le_refl _,Nat.le_trans hkn hcap,.inl rfl⟩
 · cases h
theorem Db {e:TypeId}{b lo0 n cap B off l k m:Nat}{c c':Option Nat}{te:Ty}(hB:nth ρ b=some B)(he:E.tys e=some te)(hc:∀k,c=some k→cap=k)(ho:0<cap→off=lo0*te.size)
 (hs:∀j,lo0*te.size≤j→j<(lo0+cap)*te.size→(∃v,cell w B j=some v)∧dl w B j=false) (h1:l≤k) (h2:k≤n) (h3:k≤m) (h4:m≤cap) (h5:c'=none∨(c'=c∧l=0∧m=cap)):
 AR E w F ρ (.win e b (lo0+l) (k - l) c') (.slice (if m=l then some ⟨B,off,none⟩else(some ⟨B,off,none⟩:Option Addr).map (·.add (l*te.size))) (k - l) (m - l)) none:=by
 have hc':∀q,c'=some q→m - l=q:=by
  intro q hq
  rcases h5 with rfl | ⟨rfl,rfl,rfl⟩
  · cases hq
  · rw [hc q hq];rfl
 have hs':∀j,(lo0+l)*te.size≤j→j<(lo0+l+(m - l))*te.size→(∃v,cell w B j=some v)∧dl w B j=false:=by
  intro j j1 j2
  have e1:=Nat.mul_le_mul_right te.size (show lo0≤lo0+l by omega)
  have e2:=Nat.mul_le_mul_right te.size (show lo0+l+(m - l)≤lo0+cap by omega)
  exact hs j (by omega) (by omega)
 by_cases hm:m=l
 · rw [if_pos hm]
   exact .win _ _ _ _ _ te B off (m - l) hB he (by omega) hc' (fun h=>by omega) hs'
 · rw [if_neg hm]
   simp only [Option.map_some,cM]
   exact .win _ _ _ _ _ te B _ (m - l) hB he (by omega) hc' (fun _=>by rw [ho (by omega),Nat.add_mul]) hs'
def aZ (own:OI→aH)(dst:Option Nat)(b l:Nat)(s:aH):OI→aH
 | .tmp t p=>if dst=some t then none else own (.tmp t p)
 | .self k=>if k=l then s else if k=b then none else own (.self k)
 | .cell k j=>if k=l then none else if k=b then none else own (.cell k j)
theorem eZ {dst:Option Nat}{b l:Nat}{s:aH}{y:OI}{B t:Nat}(h:aZ own dst b l s y=some (B,t)):
 (y=.self l∧s=some (B,t))∨(own y=some (B,t)∧y≠ .self b∧y≠ .self l):=by
 cases y with
 | tmp u p=>
  simp only [aZ]at h
  split at h
  · cases h
  · exact .inr ⟨h,by simp,by simp⟩
 | self k=>
  simp only [aZ]at h
  split at h
  · rename_i e;subst e;exact .inl ⟨rfl,h⟩
  · rename_i e
    split at h
    · cases h
    · rename_i e2;exact .inr ⟨h,fun c=>e2 (by injection c),fun c=>e (by injection c)⟩
 | cell k j=>
  simp only [aZ]at h
  split at h
  · cases h
  · split at h
    · cases h
    · exact .inr ⟨h,by simp,by simp⟩
theorem Rel.swap (h:Rel E R ρ own N st a w){dst:Option Nat}{v:AV}{val:Value}{w':World}{b B':Nat}{e:TypeId}{rows rows':Rows}{s:aH}{T:aG}{rd:List Nat}(hb:nth st.blk b=some (.arr e rows))
 (hd:∀d,dst=some d→d<N) (hk:w.keptBut w' (inT T)) (hT:∀B off,T B off→own (.self b)=some (B,0))
 (hs:∀B t,s=some (B,t)→t=0∧(own (.self b)=some (B,0)∨(w.heap.size≤B∧B<w'.heap.size)))
 (hV:Keeps w (Fn own R) w' (Fn (aZ own dst b st.blk.length s) R)→AVR E w' (Fn (aZ own dst b st.blk.length s) R) (ρ++ [B']) v val (fun _=>none))
 (hnew:Keeps w (Fn own R) w' (Fn (aZ own dst b st.blk.length s) R)→BlkR E w' (Fn (aZ own dst b st.blk.length s) R) (ρ++ [B']) (aZ own dst b st.blk.length s) st.blk.length (some (.arr e rows'))):
 After E R ρ own N w (st.apply dst ⟨v,none,[(b,.dead)],[.arr e rows'],rd⟩) (a.put dst val) w':=by
 have hbl:b<st.blk.length:=dE hb
 have hρl:ρ.length=st.blk.length:=h.rho
 have hlt:∀y B t',own y=some (B,t')→B<w.heap.size:=fun y B t' e=>(h.out _ _ _ e).1
 have hnl:=h.blk st.blk.length
 rw [eS (Nat.le_refl _)]at hnl
 refine⟨ρ++ [B'],_,fun b B' hb=>by rw [bj _ _ _ (dE hb)];exact hb,h.gen (own':=aZ own dst b st.blk.length s) T (fun t=>dst=some t) (fun k=>k=b∨k=st.blk.length) hk ?_ ?_ ?_ (by rw [eV];exact h.size) (by rw [dm];exact h.defers) ?_ ?_ ?_ ?_ ?_ ?_⟩
 · intro B off hm
   exact⟨.self b,0,hT B off hm,Nat.zero_le _,.inl rfl⟩
 · intro y B t' hy
   rcases eZ hy with⟨rfl,e⟩ | ⟨e,_⟩
   · obtain⟨rfl,h1 | h1⟩:=hs _ _ e
     · exact .inl ⟨_,0,h1,Nat.le_refl _⟩
     · exact .inr h1
   · exact .inl ⟨y,t',e,Nat.le_refl _⟩
 · intro x y B t t' hx hy
   rcases eZ hx with⟨rfl,e⟩ | ⟨e,n1,n2⟩<;>rcases eZ hy with⟨rfl,e'⟩ | ⟨e',n1',n2'⟩
   · rfl
   · exfalso
     obtain⟨_,h1 | h1⟩:=hs _ _ e
     · exact n1' (h.inj _ _ _ _ _ e' h1)
     · have:=hlt _ _ _ e';omega
   · exfalso
     obtain⟨_,h1 | h1⟩:=hs _ _ e'
     · exact n1 (h.inj _ _ _ _ _ e h1)
     · have:=hlt _ _ _ e;omega
   · exact h.inj _ _ _ _ _ e e'
 · intro t hc
   have h1:dst≠some t:=hc
   refine⟨by simp only [St.apply,jC,cE,h1,if_false], ?_,fun p=>by simp only [aZ,h1,if_false]⟩
   rw [bU a dst val t (by rw [h.size];exact hd)]
   simp only [h1,if_false]
 · intro hK t hc
   have e1:get (st.apply dst ⟨v,none,[(b,.dead)],[.arr e rows'],rd⟩).fr t=v:=by simp only [St.apply,jC,cE,hc,if_true]
   rw [e1,bU a dst val t (by rw [h.size];exact hd)]
   simp only [hc,if_true]
   have e2:(fun p=>aZ own dst b st.blk.length s (.tmp t p))=fun _=>none:=funext fun p=>by simp only [aZ,hc,if_true]
   rw [hc]at e2 hV hK
   rw [e2]
   exact hV hK
 · simp only [St.apply,bz,ba,List.length_append,List.length_singleton,de,List.length_set,hρl]
 · intro b B hb
   rw [bj _ _ _ (dE hb)];exact hb
 · intro k hkb
   have k1:k≠b:=fun e=>hkb (.inl e)
   have k2:k≠st.blk.length:=fun e=>hkb (.inr e)
   refine⟨?_,by simp only [aZ,k1,k2,if_false],fun j=>by simp only [aZ,k1,k2,if_false]⟩
   simp only [St.apply,bz,ba]
   by_cases hk':k<st.blk.length
   · rw [bj _ _ _ (by rw [de,List.length_set];exact hk'),gj _ _ _ _ (by rw [hb];rfl),if_neg k1]
   · rw [eS (l:=st.blk) (by omega),eS]
     simp only [List.length_append,List.length_singleton,de,List.length_set]
     omega
 · intro hK k hkb
   rcases hkb with rfl | rfl
   · simp only [St.apply,bz,ba]
     rw [bj _ _ _ (by rw [de,List.length_set];exact hbl),gj _ _ _ _ (by rw [hb];rfl),if_pos rfl]
     have k2:k≠st.blk.length:=by omega
     exact⟨by simp only [aZ,k2,if_true,if_false],fun j=>by simp only [aZ,k2,if_true,if_false]⟩
   · have e1:nth (st.apply dst ⟨v,none,[(b,.dead)],[.arr e rows'],rd⟩).blk st.blk.length=some (.arr e rows'):=by
      simp only [St.apply,bz,ba]
      have:=bD (setN st.blk b .dead) (.arr e rows')
      rwa [de,List.length_set,←de]at this
     rw [e1]
     exact hnew hK
theorem wX {rows ys:Rows}{B:Nat}{g:Nat→Value}{new:List Value}(hnl:new.length=ys.flatten.length)
 (h1:∀(i:Nat) (hi:i<rows.flatten.length),cell w B i=some (g i)∧dl w B i=false∧CR E w F rows.flatten[i] (g i))
 (h2:∀(i:Nat) (hi:i<ys.flatten.length) (hi2:i<new.length),cell w B (rows.flatten.length+i)=some new[i]∧dl w B (rows.flatten.length+i)=false∧CR E w F ys.flatten[i] new[i]):
 ∀(i:Nat) (hi:i<(rows++ys).flatten.length),∃v,cell w B i=some v∧dl w B i=false∧CR E w F (rows++ys).flatten[i] v:=by
 intro i hi
 have hfl:(rows++ys).flatten=rows.flatten++ys.flatten:=by simp
 have hi':=hi
 rw [hfl,List.length_append]at hi'
 by_cases hlt:i<rows.flatten.length
 · have e1:(rows++ys).flatten[i]=rows.flatten[i]:=by simp only [hfl];exact List.getElem_append_left _
   rw [e1]
   exact⟨_,h1 i hlt⟩
 · have h3:=h2 (i - rows.flatten.length) (by omega) (by omega)
   rw [show rows.flatten.length+(i - rows.flatten.length)=i by omega]at h3
   have e1:(rows++ys).flatten[i]=ys.flatten[i - rows.flatten.length]'(by omega):=by simp only [hfl];exact List.getElem_append_right (by omega)
   rw [e1]
   exact⟨_,h3⟩
structure ASrc (P:Program) (E:Env) (w:World) (F:aG) (t t2 ty0 e:TypeId) (te:Ty) (x:Value) (ys:Rows) (new:List Value):Prop where
 room:∀{b:Option Addr} {len cap:Nat} {w':World},len+ys.length≤cap→(match b with | some a=>(storeCells (a.add (len*te.size)) new).run P w=.ok () w' | none=>w'=w)→
  (Builtin.append_ #[t,t2] ty0 #[.slice b len cap,x]).run P w=.ok (.slice b (len+ys.length) cap) w'
 grow:∀{b:Option Addr} {len cap:Nat} {old:List Value} {i:TypeInfo} {z:Value},P.info? e=some i→i.zero=some z→i.size=te.size→¬len+ys.length≤cap→len+ys.length≤4294967296→i.bytes≤4096→
  (Builtin.firstCells te.size len (.slice b len cap)).run P w.drew=.ok old.toArray w.drew→
  (Builtin.append_ #[t,t2] ty0 #[.slice b len cap,x]).run P w=.ok (.slice (some ⟨w.heap.size,0,none⟩) (len+ys.length) (grownCap w (len+ys.length) cap e))
   (w.drew.alloc (.cells (old.toArray++(new.toArray++Builtin.zeroCells z.cells (grownCap w (len+ys.length) cap e - (len+ys.length)))) e))
 kinds:∀r∈ys,r.map Cell.kind=te.kinds
 size:new.length=ys.flatten.length
 rel:∀(k:Nat) (h1:k<ys.flatten.length) (h2:k<new.length),CR E w F ys.flatten[k] new[k]
theorem Src.asrc (G:Good P E){t t2 ty0 e:TypeId}{te:Ty}(hut:P.underlying t=some (.slice e))(he:E.tys e=some te){d2:TypeDesc}(hu2:P.underlying t2=some d2)(hd2:(∃e2,d2=.slice e2)∨d2=.string){x:Value}{ys:Rows}{new:List Value}
 (hs:Src P E w F te.size te.kinds x ys new):ASrc P E w F t t2 ty0 e te x ys new:=by
 obtain⟨i0,z0,hi1,hi2,hi3,hi4,hi5⟩:=(G.ty e te he).info
 refine⟨fun hroom hst=> ?_,fun h1 h2 h3 hroom hlim hby hold=> ?_,hs.kinds,hs.size,hs.rel⟩
 · exact iP (i:=i0) (new:=new) hut hi1 hu2 hd2 hroom (hs.len w) (by rw [hi2];exact hs.run w fun _ _=>rfl) (by rw [hi2];exact hst)
 · exact o6 (ty0:=ty0) hut h1 h2 hu2 hd2 hroom hlim hby (hs.len w) (by rw [h3];exact hold) (by rw [h3];exact hs.run _ fun _ _=>rfl)
theorem BJ (G:Good P E){t t2 ty0 e:TypeId}{te:Ty}(hut:P.underlying t=some (.slice e))(he:E.tys e=some te){j:IntKind}(hu2:P.underlying t2=some (.int j))(hby:te.bytes≤4096){k0:IntKind}{k:Int}(hk0:0≤k)(hk:k≤4294967296)
 {row:Row} {z:Value} {i0:TypeInfo} (hi1:P.info? e=some i0) (hi2:i0.size=te.size) (hi3:i0.bytes=te.bytes) (hi4:i0.zero=some z) (hzl:z.cells.size=te.size) (hrow:row.map Cell.kind=te.kinds) (hrl:row.length=te.size)
 (hrel:∀(i:Nat) (h:i<row.length),CR E w F row[i] (z.cells.getD i undef)):
 ∃new,ASrc P E w F t t2 ty0 e te (.int k0 k) (List.replicate k.toNat row) new:=by
 have hT:=G.ty e te he
 have hpos:=hT.pos
 have hwk:IntKind.i64.wrap k=k:=jz hk0 (by omega)
 have hb:k*(te.bytes:Int)≤2^48:=by
  have h7:k*(te.bytes:Int)≤4294967296*4096:=Int.mul_le_mul hk (by omega) (by omega) (by omega)
  omega
 have hev:∀r∈List.replicate k.toNat row,r.map Cell.kind=te.kinds:=fun r hr'=>by
  rw [(List.mem_replicate.1 hr').2];exact hrow
 have hfl:=bJ (bS hT.len hev)
 simp only [List.length_replicate]at hfl
 have hn0:¬k<0:=by omega
 have hb':¬(281474976710656:Int)<k*(i0.bytes:Int):=by rw [hi3];omega
 have hzc:∀m,m*te.size=0→Builtin.zeroCells z.cells m= #[]:=fun m h0=>by
  have:m=0:=by
   rcases Nat.mul_eq_zero.1 h0 with h | h
   · exact h
   · omega
  rw [this];simp [Builtin.zeroCells]
 refine⟨(Builtin.zeroCells z.cells k.toNat).toList,fun{b len cap w'} hroom hst=> ?_,fun{b len cap old i z'} h1 h2 h3 hroom hlim hby' hold=> ?_,hev, ?_,fun m g1 g2=> ?_⟩
 · simp only [List.length_replicate]at hroom⊢
   by_cases h0:k.toNat*te.size=0
   · rw [hzc _ h0]at hst
     cases b with
     | none=>subst hst;simp [Builtin.append_,run_underlying hut,run_underlying hu2,sizeOf,typeInfo,hi1,hi2,asInt,asIntOf,hwk,hn0,hb',h0,hroom]
     | some a=>simp only [List.toList_toArray]at hst;simp [Builtin.append_,run_underlying hut,run_underlying hu2,sizeOf,typeInfo,hi1,hi2,asInt,asIntOf,hwk,hn0,hb',h0,hroom,hst]
   · cases b with
     | none=>subst hst;simp [Builtin.append_,run_underlying hut,run_underlying hu2,sizeOf,typeInfo,hi1,hi2,hi4,zeroValue,asInt,asIntOf,hwk,hn0,hb',h0,hroom]
     | some a=>simp only at hst;simp [Builtin.append_,run_underlying hut,run_underlying hu2,sizeOf,typeInfo,hi1,hi2,hi4,zeroValue,asInt,asIntOf,hwk,hn0,hb',h0,hroom,hst]
 · simp only [List.length_replicate]at hroom hlim⊢
   rw [hi1]at h1
   cases h1
   rw [hi4]at h2
   cases h2
   have h1:¬Builtin.nextslicecap (len+k.toNat) cap*i0.bytes>2^48:=by
    have h2:=tz (need:=len+k.toNat) (cap:=cap) (by omega)
    have h3:Builtin.nextslicecap (len+k.toNat) cap*i0.bytes≤8589935360*4096:=Nat.mul_le_mul (by omega) hby'
    omega
   have h4:¬(9223372036854775807:Int)<(len:Int)+k.toNat:=by omega
   have h5:¬(9223372036854775807:Int)<(len:Int)+max k 0:=by omega
   have hq:(Question.appendCap (len+k.toNat) cap e).forced=false:=rfl
   by_cases h0:k.toNat*te.size=0
   · rw [hzc _ h0]
     simp [Builtin.append_,run_underlying hut,run_underlying hu2,sizeOf,typeInfo,hi1,hi2,hi4,zeroValue,newRow,grownCap,asInt,asIntOf,hwk,hn0,hb',h0,hroom,h1,h4,h5,hq,hold]
   · simp [Builtin.append_,run_underlying hut,run_underlying hu2,sizeOf,typeInfo,hi1,hi2,hi4,zeroValue,newRow,grownCap,asInt,asIntOf,hwk,hn0,hb',h0,hroom,h1,h4,h5,hq,hold]
 · rw [hfl];simp [Builtin.zeroCells,hzl]
 · have hdm:m=m / te.size*te.size+m%te.size:=by rw [Nat.mul_comm];exact(Nat.div_add_mod m te.size).symm
   have hmod:m%te.size<te.size:=Nat.mod_lt _ (by omega)
   have hdiv:m / te.size<k.toNat:=by
    rw [Nat.div_lt_iff_lt_mul (by omega)];omega
   obtain⟨q1,q2,q3⟩:=gv (bS hT.len hev) (i:=m / te.size) (j:=m%te.size) (by simpa using hdiv) hmod
   have e2:(List.replicate k.toNat row).flatten[m]=row[m%te.size]'(by omega):=by
    have:(List.replicate k.toNat row).flatten[m]=(List.replicate k.toNat row).flatten[m / te.size*te.size+m%te.size]:=by
     congr 1
    rw [this,q3]
    simp only [List.getElem_replicate]
   rw [e2]
   have hlt:m%te.size<z.cells.size:=by omega
   have e3:(Builtin.zeroCells z.cells k.toNat).toList[m]=z.cells.getD (m%te.size) undef:=by
    simp [Builtin.zeroCells,hzl,getElem!_def,Array.getElem?_eq_getElem hlt]
   rw [e3]
   exact hrel _ (by omega)
theorem wQ (G:Good P E)(h:Rel E R ρ own N st a w){t t2 ty0 e:TypeId}{te:Ty}{b n:Nat}{vx vy:Value}{px:aS}(hx:AVR E w (Fn own R) ρ (.one (.msl e b n)) vx px)(hut:P.underlying t=some (.slice e))(he:E.tys e=some te)(hby:te.bytes≤4096)
 {rows ys:Rows} (hb:nth st.blk b=some (.arr e rows)) (hn:n=rows.length) (hlim:rows.length+ys.length≤4294967296)
 {new:List Value} (hs:ASrc P E w (Fn own R) t t2 ty0 e te vy ys new) {dst:Option Nat} (hd:∀d,dst=some d→d<N):
 ∃val w',(Builtin.append_ #[t,t2] ty0 #[vx,vy]).run P w=.ok val w'∧After E R ρ own N w (st.apply dst ⟨.one (.msl e (bI st.blk) (rows.length+ys.length)),none,[(b,.dead)],[.arr e (rows++ys)],[b]⟩) (a.put dst val) w':=by
 have hT:=G.ty e te he
 have hpos:=hT.pos
 obtain⟨i,z,hi1,hi2,hi3,hi4,hi5⟩:=hT.info
 obtain⟨hzs,_⟩:=d8 hi5
 have hfly:=bJ (bS hT.len hs.kinds)
 have hdrew:∀B off,cell w.drew B off=cell w B off:=fun _ _=>rfl
 have hbr:=h.blk b
 rw [hb]at hbr
 -- what lies there
 have hcase:(rows=[]∧∃v,vx=.slice v 0 0)∨∃(B cap:Nat) (g:Nat→Value),nth ρ b=some B∧own (.self b)=some (B,0)∧vx=.slice (some ⟨B,0,none⟩) rows.length cap∧0<rows.length∧rows.length≤cap∧cap≤9223372036854775807∧(∀r∈rows,r.map Cell.kind=te.kinds)∧dl w B 0=false∧
  (∀j,j<cap*te.size→(∃v,cell w B j=some v)∧dl w B j=false)∧∀(j:Nat) (hj:j<rows.flatten.length),cell w B j=some (g j)∧dl w B j=false∧CR E w (Fn own R) rows.flatten[j] (g j):=by
  have hq:=hx.get_one
  generalize px []=q at hq
  cases hq with
  | mnil=>exact .inl ⟨List.eq_nil_of_length_eq_zero hn.symm,_,rfl⟩
  | msl _ _ _ te' B cap hB he' h0 hnc hcm hsp=>
   rw [he]at he'
   cases he'
   rcases hbr with⟨h1,_⟩ | ⟨B',te',h1,h2,_,h4,h5,h7,h6⟩
   · subst h1;simp at hn;omega
   · rw [hB]at h1
     cases h1
     rw [he]at h4
     cases h4
     refine .inr ⟨B,cap,fun j=>if hj:j<rows.flatten.length then Classical.choose (h6 j hj)else undef,hB,h2,by rw [hn],by omega,by omega,hcm,h5,h7.2,hsp,fun j hj=> ?_⟩
     simp only [hj,dif_pos]
     exact Classical.choose_spec (h6 j hj)
 have hkr:∀r∈rows,r.map Cell.kind=te.kinds:=by
  rcases hcase with⟨rfl,_⟩ | ⟨_,_,_,_,_,_,_,_,_,hk,_,_⟩
  · simp
  · exact hk
 have hflr:=bJ (bS hT.len hkr)
 have hka:∀r∈rows++ys,r.map Cell.kind=te.kinds:=fun r hr=>by
  rcases List.mem_append.1 hr with h | h
  · exact hkr r h
  · exact hs.kinds r h
 have hmul:(rows.length+ys.length)*te.size=rows.length*te.size+ys.length*te.size:=Nat.add_mul ..
 -- a new block
 have grow:∀(bo:Option Addr) (cap:Nat),vx=.slice bo rows.length cap→¬rows.length+ys.length≤cap→(∃old:List Value,(Builtin.firstCells te.size rows.length (.slice bo rows.length cap)).run P w.drew=.ok old.toArray w.drew∧old.length=rows.flatten.length∧∀(k:Nat) (h1:k<rows.flatten.length) (h2:k<old.length),CR E w (Fn own R) rows.flatten[k] old[k])→
  ∃val w',(Builtin.append_ #[t,t2] ty0 #[vx,vy]).run P w=.ok val w'∧After E R ρ own N w (st.apply dst ⟨.one (.msl e (bI st.blk) (rows.length+ys.length)),none,[(b,.dead)],[.arr e (rows++ys)],[b]⟩) (a.put dst val) w':=by
  rintro bo cap rfl hroom ⟨old,hold,hol,hoc⟩
  have hrun:=hs.grow hi1 hi4 hi2 hroom hlim (by omega) hold
  refine⟨_,_,hrun, ?_⟩
  have hge:=grownCap_ge w (rows.length+ys.length) cap e
  have hzsz:z.cells.size=te.size:=by rw [hzs,hT.len]
  have hsize:(old.toArray++(new.toArray++Builtin.zeroCells z.cells (grownCap w (rows.length+ys.length) cap e - (rows.length+ys.length)))).size=grownCap w (rows.length+ys.length) cap e*te.size:=by
   simp only [Array.size_append,List.size_toArray,size_zeroCells,hol,hs.size,hflr,hfly,hzsz]
   have:grownCap w (rows.length+ys.length) cap e*te.size=(rows.length+ys.length)*te.size+(grownCap w (rows.length+ys.length) cap e - (rows.length+ys.length))*te.size:=by
    rw [←Nat.add_mul];congr 1;omega
   omega
  generalize hC:old.toArray++(new.toArray++Builtin.zeroCells z.cells (grownCap w (rows.length+ys.length) cap e - (rows.length+ys.length)))=C at hsize
  have hkeep:w.keptBut (w.drew.alloc (.cells C e)) (inT fun _ _=>False):=World.keptBut_alloc w.drew (.cells C e) _
  have hcell:∀j,j<C.size→cell (w.drew.alloc (.cells C e)) w.heap.size j=C[j]? :=fun j hj=>World.cell?_alloc_new w.drew C e j
  have hcold:∀j,dl (w.drew.alloc (.cells C e)) w.heap.size j=false:=fun j=>World.frozen?_alloc_new ..
  have hCs:(rows.length+ys.length)*te.size≤C.size:=by rw [hsize];exact Nat.mul_le_mul_right _ hge
  refine h.swap (B':=w.heap.size) (s:=some (w.heap.size,0)) hb hd hkeep (fun _ _ h=>h.elim) (fun B t e=>by cases e;exact⟨rfl,.inr ⟨Nat.le_refl _,by simp⟩⟩) (fun hK=> .of ?_) (fun hK=> ?_)
  · rw [bq]
    exact .msl e _ _ te w.heap.size _ (by rw [←h.rho];exact bD ρ _) he (by omega) hge (by have:=grownCap_le_maxLen w (rows.length+ys.length) cap e (by unfold maxLen;omega);unfold maxLen at this;omega) fun j hj=>⟨⟨C[j]'(by omega),by rw [hcell _ (by omega)];simp [show j<C.size by omega]⟩,hcold j⟩
  · refine .inr ⟨w.heap.size,te,by rw [←h.rho];exact bD ρ _,by simp only [aZ,if_true],fun j=>by simp only [aZ,if_true],he,hka,⟨⟨C[0]'(by have:=Nat.mul_le_mul_left (rows.length+ys.length) hpos;omega),by rw [hcell _ (by have:=Nat.mul_le_mul_left (rows.length+ys.length) hpos;omega)];simp⟩,hcold 0⟩, ?_⟩
    refine wX hs.size (g:=fun i=>old.getD i undef) (fun i hi=> ?_) fun i hi hi2=> ?_
    · have h6:old.getD i undef=old[i]'(by omega):=rX (by omega)
      rw [h6]
      refine⟨?_,hcold i,(hoc i hi _).keep hK⟩
      rw [hcell _ (by omega),←hC,Array.getElem?_append_left (by rw [List.size_toArray];omega)]
      simp [show i<old.length by omega]
    · refine⟨?_,hcold _,(hs.rel i hi hi2).keep hK⟩
      rw [hcell _ (by omega),←hC,Array.getElem?_append_right (by rw [List.size_toArray];omega),Array.getElem?_append_left (by rw [List.size_toArray,List.size_toArray];omega),List.size_toArray,hol,Nat.add_sub_cancel_left]
      simp [hi2]
 rcases hcase with⟨rfl,v0,rfl⟩ | ⟨B,cap,g,hB,hself,rfl,h0,hnc,hcm,_,hcb,hsp,hg⟩
 · by_cases hy0:ys.length=0
   · have:=List.eq_nil_of_length_eq_zero hy0
     subst this
     have hn0:new=[]:=List.eq_nil_of_length_eq_zero (by rw [hs.size];rfl)
     subst hn0
     refine⟨_,w,hs.room (by simp) (by cases v0<;>rfl), ?_⟩
     refine h.swap (B':=0) (s:=none) hb hd (World.keptBut_refl _ (inT fun _ _=>False)) (fun _ _ h=>h.elim) (fun B t e=>by cases e) (fun hK=> .of (.mnil _ _ _)) (fun hK=> .inl ⟨rfl, ?_,fun j=> ?_⟩)
     · simp only [aZ,if_true]
     · simp only [aZ,if_true]
   · exact grow v0 0 rfl (fun hc=>hy0 (by simpa using hc)) ⟨[],by cases v0<;>simp [Builtin.firstCells,loadCells,loadCellsFrom],rfl,fun k h=>by simp at h⟩
 · by_cases hroom:rows.length+ys.length≤cap
   · have hone:∀v∈new,v.oneCell'=true:=by
      intro v hv
      obtain⟨k,hk,rfl⟩:=List.getElem_of_mem hv
      exact(hs.rel k (by rw [←hs.size];exact hk) hk).oneCell
     have hnl:new.length=ys.length*te.size:=by rw [hs.size,hfly]
     have hle:rows.length*te.size+new.length≤cap*te.size:=by
      rw [hnl,←hmul];exact Nat.mul_le_mul_right _ hroom
     have hst:=d7 (P:=P) new w B (rows.length*te.size) 0 hone (fun j hj=>hsp _ (by omega))
     have hk:w.keptBut (cX w B (rows.length*te.size) new) (inT fun B' o'=>B'=B):=fZ _ _ _ _ _ fun i _=>rfl
     refine⟨_,_,hs.room hroom (by simp only [cM,Nat.zero_add];exact hst), ?_⟩
     refine h.swap (B':=B) (s:=some (B,0)) hb hd hk (fun B' _ e=>by rw [e];exact hself) (fun B' t e=>by cases e;exact⟨rfl,.inl hself⟩) (fun hK=> .of ?_) (fun hK=> ?_)
     · rw [bq]
       exact .msl e _ _ te B cap (by rw [←h.rho];exact bD ρ _) he (by omega) hroom hcm fun j hj=>hK.still _ _ (hsp j hj)
     · refine .inr ⟨B,te,by rw [←h.rho];exact bD ρ _,by simp only [aZ,if_true],fun j=>by simp only [aZ,if_true],he,hka,⟨(hK.still B 0 (hsp 0 (Nat.mul_pos (by omega) (by omega)))).1,by rw [cK];exact hcb⟩, ?_⟩
       refine wX hs.size (g:=g) (fun i hi=> ?_) fun i hi hi2=> ?_
       · obtain⟨g1,g2,g3⟩:=hg i hi
         refine⟨?_,by rw [cK];exact g2,g3.keep hK⟩
         rw [eo _ _ _ _ _ _ (by omega)]
         exact g1
       · rw [hflr]
         obtain⟨⟨v,hv⟩,hc⟩:=hsp (rows.length*te.size+i) (by omega)
         exact⟨fY new w B _ i hi2 ⟨v,hv⟩,by rw [cK];exact hc,(hs.rel i hi hi2).keep hK⟩
   · refine grow _ _ rfl hroom ⟨(List.range (rows.length*te.size)).map g, ?_,by simp [hflr],fun k h1 h2=> ?_⟩
     · simp only [Builtin.firstCells]
       exact run_loadCells w.drew ⟨B,0,none⟩ _ g fun j hj=>by
        rw [cM,Nat.zero_add]
        exact(hg j (by omega)).1
     · simp only [List.getElem_map,List.getElem_range]
       exact(hg k h1).2.2
theorem yP (G:Good P E)(h:Rel E R ρ own N st a w){t t2 ty0 e:TypeId}{b n:Nat}{vx vy:Value}{px py:aS}{k0:IntKind}{k:Int}(hx:AVR E w (Fn own R) ρ (.one (.msl e b n)) vx px)(hy:AVR E w (Fn own R) ρ (.one (.int k0 k)) vy py)
 {u:Upd} (hu:jg E t t2 e b n st k some=some u) {dst:Option Nat} (hd:∀d,dst=some d→d<N):
 ∃val w',(Builtin.append_ #[t,t2] ty0 #[vx,vy]).run P w=.ok val w'∧After E R ρ own N w (st.apply dst u) (a.put dst val) w':=by
 unfold jg at hu
 split at hu<;>try (cases hu;done)
 rename_i ty ty2 ht ht2
 split at hu<;>try (cases hu;done)
 rename_i e0 j hde hd2
 cases he:E.tys e with
 | none=>simp [he]at hu
 | some te=>
  simp only [he]at hu
  have hb0:=(ab hu).1
  replace hu:=(ab hu).2
  simp only [Bool.and_eq_true]at hb0
  have:=Nat.eq_of_beq_eq_true hb0.1
  subst this
  have hby:=Nat.le_of_ble_eq_true hb0.2
  split at hu<;>try (cases hu;done)
  rename_i e' rows hb
  have hb1:=(ab hu).1
  replace hu:=(ab hu).2
  have hn:=(ab hu).1
  replace hu:=(ab hu).2
  have hok:=(ab hu).1
  replace hu:=(ab hu).2
  have hlim:=(ab hu).1
  replace hu:=(ab hu).2
  have hn:=Nat.eq_of_beq_eq_true hn
  have:=Nat.eq_of_beq_eq_true hb1
  subst this
  unfold qr at hok
  simp only [Bool.and_eq_true,decide_eq_true_eq]at hok
  have hk2:=kU hok.2
  have hlim:=kU hlim
  obtain⟨zl,h3,h4,h5⟩:=cw hu
  obtain⟨row,h6,hk,hrl,hll,hr⟩:=eC h3
  cases h6
  have hT:=G.ty _ te he
  obtain⟨i0,z,hi1,hi2,hi3,hi4,hi5⟩:=hT.info
  obtain⟨hzs,_⟩:=d8 hi5
  rw [hy.get_int]
  obtain⟨new,hs⟩:=BJ (F:=Fn own R) (w:=w) (ty0:=ty0) (k0:=k0) G (bl (G.ty _ _ ht) hde) he (kp (G.ty _ _ ht2) hd2) hby hok.1.1 (by omega) (row:=row) hi1 hi2 hi3 hi4 (by rw [hzs,hT.len]) hk (by rw [hrl,h4,hT.len]) (fun i hi=>by
   refine xo hll hrl hr (E:=E) (w:=w) (F:=Fn own R) (ρ:=ρ) (g:=fun i=>z.cells.getD i undef) (fun j h1=> ?_) i hi
   have h2:j<z.cells.size:=by omega
   have:=hG (E:=E) (w:=w) (F:=Fn own R) (ρ:=ρ) hi5 h4 h5 j h1 h2
   simpa [h2]using this)
  have:=wQ G h hx (bl (G.ty _ _ ht) hde) he hby hb hn (by simpa using hlim) hs hd
  simpa using this
theorem BT (G:Good P E)(h:Rel E R ρ own N st a w){t t2 ty0 e:TypeId}{b n:Nat}{vx vy:Value}{px:aS}{y:AV}(hx:AVR E w (Fn own R) ρ (.one (.msl e b n)) vx px)(hy:SrcV E w (Fn own R) ρ y vy)
 {u:Upd} (hu:md E t t2 e b n st y some=some u) {dst:Option Nat} (hd:∀d,dst=some d→d<N):
 ∃val w',(Builtin.append_ #[t,t2] ty0 #[vx,vy]).run P w=.ok val w'∧After E R ρ own N w (st.apply dst u) (a.put dst val) w':=by
 unfold md at hu
 split at hu<;>try (cases hu;done)
 rename_i ty ty2 ht ht2
 have hsrc:=(ab hu).1
 replace hu:=(ab hu).2
 cases hde:ty.desc<;>simp only [hde]at hu<;>try (cases hu;done)
 rename_i e0
 cases he:E.tys e with
 | none=>simp [he]at hu
 | some te=>
  simp only [he]at hu
  have hb0:=(ab hu).1
  replace hu:=(ab hu).2
  rw [Bool.and_eq_true]at hb0
  have:=Nat.eq_of_beq_eq_true hb0.1
  subst this
  have hby:=Nat.le_of_ble_eq_true hb0.2
  split at hu<;>try (cases hu;done)
  rename_i e' rows o e'' ys hb
  have hb1:=(ab hu).1
  replace hu:=(ab hu).2
  rw [Bool.and_eq_true]at hb1
  have:=Nat.eq_of_beq_eq_true hb1.1
  subst this
  have:=Nat.eq_of_beq_eq_true hb1.2
  subst this
  obtain⟨hn,hu⟩:=ab hu
  have hn:=Nat.eq_of_beq_eq_true hn
  obtain⟨hlim,hu⟩:=ab hu
  cases hu
  have hlim:rows.length+ys.length≤4294967296:=Nat.le_of_ble_eq_true hlim
  have hut:=bl (G.ty _ _ ht) hde
  obtain⟨d2,hu2,hd2⟩:∃d2,P.underlying t2=some d2∧((∃e2,d2=.slice e2)∨d2=.string):=by
   cases hd2:ty2.desc<;>simp only [hd2,TD.source]at hsrc<;>try (cases hsrc;done)
   · exact⟨_,gp (G.ty _ _ ht2) hd2,.inr rfl⟩
   · exact⟨_,bl (G.ty _ _ ht2) hd2,.inl ⟨_,rfl⟩⟩
  obtain⟨new,hs⟩:=hy.src (P:=P) G he
  exact wQ G h hx hut he hby hb hn hlim (hs.asrc G hut he hu2 hd2) hd
theorem tP (h:Rel E R ρ own N st a w){t:TypeId}{x:AV}{vx:Value}{px:aS}(hx:AVR E w (Fn own R) ρ x vx px){u:Upd}(hu:o0 E t st x some=some u){dst:Option Nat}(hd:∀d,dst=some d→d<N):
 After E R ρ own N w (st.apply dst u) (a.put dst vx) w:=by
 unfold o0 at hu
 split at hu<;>try (cases hu;done)
 split at hu<;>try (cases hu;done)
 rotate_left
 · cases hu
   have hq:=hx.get_one
   refine h.pure0 hd (.of ?_)
   generalize px []=q at hq
   cases hq with
   | msl _ _ _ te B cap hB he h0 hn hm hs=>exact .msl _ _ _ te B cap hB he h0 hn hm hs
   | mnil _ _ v=>exact .mnil _ _ v
 rename_i e _
 split at hu<;>try (cases hu;done)
 cases hu
 have hvx:vx=.slice none 0 0:=by
  have:=hx.get_one
  generalize px []=q at this
  cases this;rfl
 subst hvx
 have hρl:ρ.length=st.blk.length:=h.rho
 have hnl:=h.blk st.blk.length
 rw [eS (Nat.le_refl _)]at hnl
 refine⟨ρ++ [0],_,fun b B' hb=>by rw [bj _ _ _ (dE hb)];exact hb,h.gen (own':=bg own dst (fun _=>none)) (fun _ _=>False) (fun t=>dst=some t) (fun k=>k=st.blk.length) (World.keptBut_refl _ _) (fun _ _ h=>h.elim) (fun y B t' hy=> .inl ⟨y,t',cY hy,Nat.le_refl _⟩)
  (fun x y B t t' hx hy=>h.inj _ _ _ _ _ (cY hx) (cY hy)) (by rw [eV];exact h.size) (by rw [dm];exact h.defers) ?_ ?_ ?_ ?_ ?_ ?_⟩
 · intro t hc
   have h1:dst≠some t:=hc
   refine⟨by simp only [St.apply,jC,cE,h1,if_false], ?_,fun p=>by simp only [bg,h1,if_false]⟩
   rw [bU a dst _ t (by rw [h.size];exact hd)]
   simp only [h1,if_false]
 · intro hK t hc
   have e1:get (st.apply dst ⟨.one (.msl e (bI st.blk) 0),none,[],[.arr e []],[]⟩).fr t=.one (.msl e (bI st.blk) 0):=by simp only [St.apply,jC,cE,hc,if_true]
   rw [e1,bU a dst _ t (by rw [h.size];exact hd)]
   simp only [hc,if_true]
   refine .one _ _ _ ?_ fun p _=>by simp only [bg,if_true]
   have e2:bg own (some t) (fun _=>none) (.tmp t [])=none:=by simp only [bg,if_true]
   rw [e2]
   exact .mnil _ _ _
 · simp only [St.apply,bz,ba,List.length_append,List.length_singleton,hρl]
 · intro b B hb
   rw [bj _ _ _ (dE hb)];exact hb
 · intro k hkb
   refine⟨?_,rfl,fun j=>rfl⟩
   simp only [St.apply,bz,ba]
   by_cases hk':k<st.blk.length
   · rw [bj _ _ _ hk']
   · rw [eS (l:=st.blk) (by omega),eS]
     simp;omega
 · intro hK k hkb
   subst hkb
   simp only [St.apply,bz,ba]
   rw [bD]
   exact .inl ⟨rfl,hnl.1,hnl.2⟩
theorem Ad (G:Good P E)(h:Rel E R ρ own N st a w){t:TypeId}{len:Nat}{u:Upd}(hu:kL E t len st some=some u){dst:Option Nat}(hd:∀d,dst=some d→d<N):
 ∃val w',(Instr.buildSlice t len #[]).run P w=.ok val w'∧After E R ρ own N w (st.apply dst u) (a.put dst val) w':=by
 unfold kL at hu
 split at hu<;>try (cases hu;done)
 rename_i ty ht
 split at hu<;>try (cases hu;done)
 rename_i e hd'
 split at hu<;>try (cases hu;done)
 rename_i te he
 obtain⟨hlen,hu⟩:=ab hu
 have hlen:=Nat.eq_of_beq_eq_true hlen
 subst hlen
 cases hu
 have hT:=G.ty e te he
 refine⟨.slice (some ⟨w.heap.size,0,none⟩) 0 0,w.alloc (.cells #[] e), ?_, ?_⟩
 · simp only [Instr.buildSlice,Sem.run_bind,run_underlying (bl (G.ty _ _ ht) hd'),Result.andThen_ok,hT.run_size]
   rw [if_neg (by omega)]
   simp only [Nat.zero_mul,if_true]
   have hf:Instr.fill (fun i=>some (i*te.size,te.size)) (Array.map (fun x=>(#[]:Array Value)[x%(#[]:Array Value).size]!) (Array.range 0)) []=some #[]:=by simp [Instr.fill]
   simp only [hf,Sem.run_bind,du,Result.andThen_ok,Sem.run_pure]
 have hρl:ρ.length=st.blk.length:=h.rho
 have hnl:=h.blk st.blk.length
 rw [eS (Nat.le_refl _)]at hnl
 refine⟨ρ++ [0],_,fun b B' hb=>by rw [bj _ _ _ (dE hb)];exact hb,h.gen (own':=bg own dst (fun _=>none)) (fun _ _=>False) (fun t=>dst=some t) (fun k=>k=st.blk.length) (World.keptBut_alloc w (.cells #[] e) _) (fun _ _ h=>h.elim) (fun y B t' hy=> .inl ⟨y,t',cY hy,Nat.le_refl _⟩)
  (fun x y B t t' hx hy=>h.inj _ _ _ _ _ (cY hx) (cY hy)) (by rw [eV];exact h.size) (by rw [dm];exact h.defers) ?_ ?_ ?_ ?_ ?_ ?_⟩
 · intro t hc
   have h1:dst≠some t:=hc
   refine⟨by simp only [St.apply,jC,cE,h1,if_false], ?_,fun p=>by simp only [bg,h1,if_false]⟩
   rw [bU a dst _ t (by rw [h.size];exact hd)]
   simp only [h1,if_false]
 · intro hK t hc
   have e1:get (st.apply dst ⟨.one (.msl e (bI st.blk) 0),none,[],[.arr e []],[]⟩).fr t=.one (.msl e (bI st.blk) 0):=by simp only [St.apply,jC,cE,hc,if_true]
   rw [e1,bU a dst _ t (by rw [h.size];exact hd)]
   simp only [hc,if_true]
   refine .one _ _ _ ?_ fun p _=>by simp only [bg,if_true]
   have e2:bg own (some t) (fun _=>none) (.tmp t [])=none:=by simp only [bg,if_true]
   rw [e2]
   exact .mnil _ _ _
 · simp only [St.apply,bz,ba,List.length_append,List.length_singleton,hρl]
 · intro b B hb
   rw [bj _ _ _ (dE hb)];exact hb
 · intro k hkb
   refine⟨?_,rfl,fun j=>rfl⟩
   simp only [St.apply,bz,ba]
   by_cases hk':k<st.blk.length
   · rw [bj _ _ _ hk']
   · rw [eS (l:=st.blk) (by omega),eS]
     simp;omega
 · intro hK k hkb
   subst hkb
   simp only [St.apply,bz,ba]
   rw [bD]
   exact .inl ⟨rfl,hnl.1,hnl.2⟩
theorem rr (h:Rel E R ρ own N st a w){vx:Value}{e:TypeId}{b:Nat}{rows ys:Rows}(hb:nth st.blk b=some (.arr e rows)){dst:Option Nat}(hd:∀d,dst=some d→d<N)
 (hfr:∀{F':aG},Keeps w (Fn own R) w F'→(∀B,own (.self b)=some (B,0)→∀o,¬F' B o)→FroR E w F' ρ b e rows)
 (hv:∀{w':World} {F':aG},Keeps w (Fn own R) w' F'→w'=w→(∀B,own (.self b)=some (B,0)→∀o,¬F' B o)→CR E w' F' (.slice e ys) vx):
 After E R ρ own N w (st.apply dst ⟨.one (.sl false e ys),none,[(b,.fro e rows)],[],[b]⟩) (a.put dst vx) w:=by
 have hbr:=h.blk b
 rw [hb]at hbr
 have hbl:b<st.blk.length:=dE hb
 have hsub:∀{y:OI} {B t:Nat},aZ own dst b st.blk.length none y=some (B,t)→own y=some (B,t)∧y≠ .self b:=fun{y B t} hy=>by
  rcases eZ hy with⟨_,e⟩ | ⟨e,n1,_⟩
  · cases e
  · exact⟨e,n1⟩
 have hnl:=h.blk st.blk.length
 rw [eS (Nat.le_refl _)]at hnl
 refine⟨ρ,_,fun _ _ h=>h,h.gen (own':=aZ own dst b st.blk.length none) (fun _ _=>False) (fun t=>dst=some t) (fun k=>k=b) (World.keptBut_refl _ _) (fun _ _ h=>h.elim) (fun y B t' hy=> .inl ⟨y,t',(hsub hy).1,Nat.le_refl _⟩)
  (fun x y B t t' hx hy=>h.inj _ _ _ _ _ (hsub hx).1 (hsub hy).1) (by rw [eV];exact h.size) (by rw [dm];exact h.defers) ?_ ?_ ?_ (fun _ _ h=>h) ?_ ?_⟩
 · intro t hc
   have h1:dst≠some t:=hc
   refine⟨by simp only [St.apply,jC,cE,h1,if_false], ?_,fun p=>by simp only [aZ,h1,if_false]⟩
   rw [bU a dst vx t (by rw [h.size];exact hd)]
   simp only [h1,if_false]
 · intro hK t hc
   subst hc
   have e1:get (st.apply (some t) ⟨.one (.sl false e ys),none,[(b,.fro e rows)],[],[b]⟩).fr t=.one (.sl false e ys):=by simp only [St.apply,jC,cE,if_true]
   rw [e1,bU a _ vx t (by rw [h.size];exact hd)]
   simp only [if_true]
   have e2:(fun p=>aZ own (some t) b st.blk.length none (.tmp t p))=fun _=>none:=funext fun p=>by simp only [aZ,if_true]
   rw [e2]
   refine .of (.sl _ _ _ (hv hK rfl fun B h2 o=> ?_))
   rintro(hR | ⟨y,t',hy,ht'⟩)
   · exact(h.out _ _ _ h2).2 _ hR
   · obtain⟨e3,e4⟩:=hsub hy
     exact e4 (h.inj _ _ _ _ _ e3 h2)
 · simp only [St.apply,bz,ba,List.append_nil,de,List.length_set];exact h.rho
 · intro k hkb
   refine⟨?_, ?_,fun j=> ?_⟩
   · simp only [St.apply,bz,ba,List.append_nil]
     rw [gj _ _ _ _ (by rw [hb];rfl),if_neg hkb]
   · simp only [aZ,hkb,if_false]
     split
     · rename_i e;subst e;exact hnl.1.symm
     · rfl
   · simp only [aZ,hkb,if_false]
     split
     · rename_i e;subst e;exact(hnl.2 j).symm
     · rfl
 · intro hK k hkb
   subst hkb
   simp only [St.apply,bz,ba,List.append_nil]
   rw [gj _ _ _ _ (by rw [hb];rfl),if_pos rfl]
   have k2:k≠st.blk.length:=by omega
   refine⟨by simp only [aZ,k2,if_true,if_false],fun j=>by simp only [aZ,k2,if_true,if_false],hfr hK fun B h2 o=> ?_⟩
   rintro(hR | ⟨y,t',hy,ht'⟩)
   · exact(h.out _ _ _ h2).2 _ hR
   · obtain⟨e3,e4⟩:=hsub hy
     exact e4 (h.inj _ _ _ _ _ e3 h2)
theorem II (h:Rel E R ρ own N st a w){e:TypeId}{b:Nat}{rows:Rows}(hb:nth st.blk b=some (.arr e rows)){F':aG}(hK:Keeps w (Fn own R) w F')(hF:∀B,own (.self b)=some (B,0)→∀o,¬F' B o):FroR E w F' ρ b e rows:=by
 have hbr:=h.blk b
 rw [hb]at hbr
 rcases hbr with⟨h1,_⟩ | ⟨B,te,h1,h2,_,h4,h5,_,h6⟩
 · exact .inl h1
 · refine .inr ⟨B,te,fun j=>if hj:j<rows.flatten.length then Classical.choose (h6 j hj)else undef,h1,h4,h5,fun i hi=> ?_⟩
   simp only [hi,dif_pos]
   have:=Classical.choose_spec (h6 i hi)
   exact⟨⟨this.1,hF B h2 i⟩,this.2.2.keep hK⟩
theorem oZ (G:Good P E)(h:Rel E R ρ own N st a w){x:AV}{vx:Value}{px:aS}(hx:AVR E w (Fn own R) ρ x vx px){u:Upd}(hu:iT st x some=some u){dst:Option Nat}(hd:∀d,dst=some d→d<N):
 After E R ρ own N w (st.apply dst u) (a.put dst vx) w:=by
 unfold iT at hu
 split at hu<;>try (cases hu;done)
 · cases hu
   exact h.pure0 hd (.of (AR.dis hx.get_one))
 · rename_i e b n
   split at hu<;>try (cases hu;done)
   rotate_left
   · rename_i e' rows hb
     obtain⟨hb1,hu1⟩:=ab hu
     have:=Nat.eq_of_beq_eq_true hb1
     subst this
     obtain⟨hn,hu2⟩:=ab hu1
     have hn:=Nat.eq_of_beq_eq_true hn
     cases hu2
     refine h.pure0 hd (.of (.sl _ _ _ ?_))
     have hq:=hx.get_one
     generalize px []=q at hq
     have hbr:=h.blk b
     rw [hb]at hbr
     cases hq with
     | mnil=>
      have:=List.eq_nil_of_length_eq_zero hn.symm
      subst this
      exact .empty _ _ _
     | msl _ _ _ te' B cap hB he' h0 hnc hcm hsp=>
      rcases hbr.2.2 with h1 | ⟨B',te,g,h1,h2,h3,h4⟩
      · subst h1;simp at hn;omega
      · rw [hB]at h1
        cases h1
        rw [he']at h2
        cases h2
        rw [hn]
        refine .slice e rows te' B 0 cap g he' h3 (by omega) (fun i hi=> ?_) fun i hi=>(h4 i hi).2
        rw [Nat.zero_add]
        exact(h4 i hi).1
   rename_i e' rows hb
   obtain⟨hb1,hu1⟩:=ab hu
   clear hu
   have:=Nat.eq_of_beq_eq_true hb1
   subst this
   obtain⟨hn,hu2⟩:=ab hu1
   clear hu1
   have hn:=Nat.eq_of_beq_eq_true hn
   cases hu2
   refine rr h hb hd (II h hb) fun hK hw hF=> ?_
   subst hw
   have hq:=hx.get_one
   generalize px []=q at hq
   cases hq with
   | mnil=>
    have:=List.eq_nil_of_length_eq_zero hn.symm
    subst this
    exact .empty _ _ _
   | msl _ _ _ te' B cap hB he' h0 hnc hcm hsp=>
    obtain⟨h2,_,hk,_,g,hg⟩:=mB h hb he' hB (by omega)
    rw [hn]
    refine .slice e rows te' B 0 cap g he' hk (by omega) (fun i hi=> ?_) fun i hi=>(hg i hi).2.2.keep hK
    rw [Nat.zero_add]
    exact⟨(hg i hi).1,hF B h2 _⟩
 · rename_i e b lo n c
   split at hu<;>try (cases hu;done)
   rename_i e' rows hb
   obtain⟨hb1,hu1⟩:=ab hu
   clear hu
   have:=Nat.eq_of_beq_eq_true hb1
   subst this
   obtain⟨hn,hu2⟩:=ab hu1
   clear hu1
   have hn:=Nat.le_of_ble_eq_true hn
   cases hu2
   refine rr h hb hd (II h hb) fun hK hw hF=> ?_
   subst hw
   have hq:=hx.get_one
   generalize px []=q at hq
   have hq':=hq
   cases hq with
   | win _ _ _ _ _ te B off cap hB he hnc hc ho hs=>
    have hcr:=Bt G h hb he hq' hn
    by_cases h0:n=0
    · subst h0
      have:dA rows lo (lo+0)=[]:=List.eq_nil_of_length_eq_zero (kG hn)
      rw [this]
      exact .empty _ _ _
    · obtain⟨h2,_,hk,_,g,hg⟩:=mB h hb he hB (by omega)
      have hl:=kG hn
      have hev:=bS (G.ty _ _ he).len hk
      have hk2:∀r∈dA rows lo (lo+n),r.map Cell.kind=te.kinds:=fun r hr=>by
       simp only [dA,bp,aN]at hr
       exact hk r (List.mem_of_mem_take (List.mem_of_mem_drop hr))
      have hfl:=bJ (bS (G.ty _ _ he).len hk2)
      have hflr:=bJ hev
      rw [hl]at hfl
      have hsub:∀i,i<n*te.size→lo*te.size+i<rows.flatten.length:=fun i hi=>by
       have:=Nat.mul_le_mul_right te.size hn
       rw [Nat.add_mul]at this
       omega
      have key:∀(i:Nat) (hi:i<(dA rows lo (lo+n)).flatten.length),(dA rows lo (lo+n)).flatten[i]=rows.flatten[lo*te.size+i]'(hsub i (by omega)):=fun i hi=>by
       have:=Av (n:=n) hev (lo:=lo) i (by omega)
       rw [List.getElem?_eq_getElem hi,List.getElem?_eq_getElem (hsub i (by omega))]at this
       exact Option.some.inj this
      have hoff:=ho (by omega)
      subst hoff
      have hv:=fun hr=>CR.slice (E:=E) (F:=_) e (dA rows lo (lo+n)) te B (lo*te.size) cap (fun i=>g (lo*te.size+i)) he hk2 (by omega) (fun i hi=>⟨(hg _ (hsub i (by omega))).1,hF B h2 _⟩) hr
      rw [hl]at hv
      refine hv fun i hi=> ?_
      rw [key i hi]
      exact(hg _ (hsub i (by omega))).2.2.keep hK
theorem JI {rows ys:Rows}{s o:Nat}(hr:us s rows)(hy:us s ys)(ho:o+ys.length≤rows.length)(k:Nat):
 (ou rows o ys).flatten[k]? =if o*s≤k∧k<(o+ys.length)*s then ys.flatten[k - o*s]? else rows.flatten[k]? :=by
 have hfr:=bJ hr
 have hfy:=bJ hy
 have e1:=Nat.mul_le_mul_right s ho
 have e2:=Nat.mul_le_mul_right s (show o≤rows.length by omega)
 have e3:(o+ys.length)*s=o*s+ys.length*s:=Nat.add_mul ..
 simp only [ou,ba,bp,aN,bq,List.flatten_append]
 rw [kc o hr,kf (o+ys.length) hr]
 have hl:(rows.flatten.take (o*s)).length=o*s:=by rw [List.length_take];omega
 by_cases h1:k<o*s
 · rw [List.getElem?_append_left (by omega),if_neg (by omega),List.getElem?_take_of_lt h1]
 · rw [List.getElem?_append_right (by omega),hl]
   by_cases h2:k<(o+ys.length)*s
   · rw [if_pos ⟨by omega,h2⟩,List.getElem?_append_left (by omega)]
   · rw [if_neg (by omega),List.getElem?_append_right (by omega),List.getElem?_drop,hfy]
     congr 1
     omega
theorem Cs {rows ys:Rows}{o:Nat}{ks:List CK}(h1:∀r∈rows,r.map Cell.kind=ks)(h2:∀r∈ys,r.map Cell.kind=ks):∀r∈ou rows o ys,r.map Cell.kind=ks:=by
 intro r hr
 simp only [ou,ba,bp,aN,List.mem_append]at hr
 rcases hr with h | h | h
 · exact h1 r (List.mem_of_mem_take h)
 · exact h2 r h
 · exact h1 r (List.mem_of_mem_drop h)
theorem Rel.arrSetV (h:Rel E R ρ own N st a w){dst:Option Nat}{v:AV}{val:Value}{w':World}{b B:Nat}{e:TypeId}{rows rows':Rows}{rd:List Nat}(hb:nth st.blk b=some (.arr e rows))(hself:own (.self b)=some (B,0))
 (hd:∀d,dst=some d→d<N) (hk:w.keptBut w' (inT fun B' _=>B'=B))
 (hV:Keeps w (Fn own R) w' (Fn (bg own dst (fun _=>none)) R)→AVR E w' (Fn (bg own dst (fun _=>none)) R) ρ v val (fun _=>none))
 (hnew:Keeps w (Fn own R) w' (Fn (bg own dst (fun _=>none)) R)→BlkR E w' (Fn (bg own dst (fun _=>none)) R) ρ (bg own dst (fun _=>none)) b (some (.arr e rows'))):
 After E R ρ own N w (st.apply dst ⟨v,none,[(b,.arr e rows')],[],rd⟩) (a.put dst val) w':=by
 refine⟨ρ,_,fun _ _ h=>h,h.gen (own':=bg own dst (fun _=>none)) (fun B' _=>B'=B) (fun t=>dst=some t) (fun k=>k=b) hk ?_ ?_ ?_ (by rw [eV];exact h.size) (by rw [dm];exact h.defers) ?_ ?_ ?_ (fun _ _ h=>h) ?_ ?_⟩
 · rintro B' off rfl
   exact⟨.self b,0,hself,Nat.zero_le _,rfl⟩
 · intro y B' t' hy
   exact .inl ⟨y,t',cY hy,Nat.le_refl _⟩
 · intro x y B' t t' hx hy
   exact h.inj _ _ _ _ _ (cY hx) (cY hy)
 · intro t hc
   have h1:dst≠some t:=hc
   refine⟨by simp only [St.apply,jC,cE,h1,if_false], ?_,fun p=>by simp only [bg,h1,if_false]⟩
   rw [bU a dst val t (by rw [h.size];exact hd)]
   simp only [h1,if_false]
 · intro hK t hc
   have e1:get (st.apply dst ⟨v,none,[(b,.arr e rows')],[],rd⟩).fr t=v:=by simp only [St.apply,jC,cE,hc,if_true]
   rw [e1,bU a dst val t (by rw [h.size];exact hd)]
   simp only [hc,if_true]
   have e2:(fun p=>bg own dst (fun _=>none) (.tmp t p))=fun _=>none:=funext fun p=>by simp only [bg,hc,if_true]
   rw [hc]at e2 hV hK
   rw [e2]
   exact hV hK
 · simp only [St.apply,bz,ba,List.append_nil,de,List.length_set];exact h.rho
 · intro k hkb
   refine⟨?_,rfl,fun j=>rfl⟩
   simp only [St.apply,bz,ba,List.append_nil]
   rw [gj _ _ _ _ (by rw [hb];rfl)]
   simp [hkb]
 · intro hK k hkb
   subst hkb
   simp only [St.apply,bz,ba,List.append_nil]
   rw [gj _ _ _ _ (by rw [hb];rfl)]
   simp only [if_true]
   exact hnew hK
theorem vt (G:Good P E)(h:Rel E R ρ own N st a w){b B o off:Nat}{e:TypeId}{rows ys:Rows}{te:Ty}(hb:nth st.blk b=some (.arr e rows))(he:E.tys e=some te)(hB:nth ρ b=some B)(h0:0<rows.length)
 (ho:o+ys.length≤rows.length) (hoff:0<ys.length→off=o*te.size) {new:List Value} (hskinds:∀r∈ys,r.map Cell.kind=te.kinds) (hssize:new.length=ys.flatten.length)
 (hsrel:∀(k:Nat) (h1:k<ys.flatten.length) (h2:k<new.length),CR E w (Fn own R) ys.flatten[k] new[k])
 {dst:Option Nat} (hd:∀d,dst=some d→d<N) {v:AV} {val:Value} {rd:List Nat} (hV:∀{w':World} {F':aG},Keeps w (Fn own R) w' F'→AVR E w' F' ρ v val (fun _=>none)):
 (storeCells ⟨B,off,none⟩ new).run P w=.ok () (cX w B off new)∧After E R ρ own N w (st.apply dst ⟨v,none,[(b,.arr e (ou rows o ys))],[],rd⟩) (a.put dst val) (cX w B off new):=by
 obtain⟨hself,hcell,hk,⟨hc0,hcold⟩,g,hg⟩:=mB h hb he hB h0
 have hT:=G.ty e te he
 have hev:=bS hT.len hk
 have hevy:=bS hT.len hskinds
 have hflr:=bJ hev
 have hfly:=bJ hevy
 have hpos:=hT.pos
 have hmul:(o+ys.length)*te.size=o*te.size+ys.length*te.size:=Nat.add_mul ..
 have hle:(o+ys.length)*te.size≤rows.length*te.size:=Nat.mul_le_mul_right _ ho
 have hnl:new.length=ys.length*te.size:=by rw [hssize,hfly]
 have hin:∀j,j<new.length→off+j<rows.flatten.length:=by
  intro j hj
  have h1:0<ys.length:=by
   rcases Nat.eq_zero_or_pos ys.length with h1 | h1
   · rw [h1,Nat.zero_mul]at hnl;omega
   · exact h1
  rw [hoff h1]
  omega
 have hone:∀v∈new,v.oneCell'=true:=by
  intro v hv
  obtain⟨k,hk,rfl⟩:=List.getElem_of_mem hv
  exact(hsrel k (by rw [←hssize];exact hk) hk).oneCell
 have hkept:w.keptBut (cX w B off new) (inT fun B' _=>B'=B):=fZ _ _ _ _ _ fun i _=>rfl
 refine⟨?_,h.arrSetV hb hself hd hkept (fun hK=>hV hK) fun hK=> .inr ⟨B,te,hB, ?_,fun j=> ?_,he,Cs hk hskinds,⟨?_,by rw [cK];exact hcold⟩,fun i hi=> ?_⟩⟩
 · exact d7 (P:=P) new w B off 0 hone fun j hj=>⟨⟨_,(hg _ (hin j hj)).1⟩,(hg _ (hin j hj)).2.1⟩
 · simp only [bg];exact hself
 · simp only [bg];exact hcell j
 · exact(hK.still B 0 ⟨hc0,hcold⟩).1
 · have hget:=JI hev hevy ho i
   rw [List.getElem?_eq_getElem hi]at hget
   by_cases hc:o*te.size≤i∧i<(o+ys.length)*te.size
   · rw [if_pos hc]at hget
     have hi2:i - o*te.size<ys.flatten.length:=by omega
     rw [List.getElem?_eq_getElem hi2]at hget
     rw [Option.some.inj hget]
     have hy0:0<ys.length:=by
      rcases Nat.eq_zero_or_pos ys.length with h1 | h1
      · rw [h1]at hc;simp only [Nat.add_zero]at hc;omega
      · exact h1
     have hi3:i - o*te.size<new.length:=by rw [hssize];exact hi2
     refine⟨new[i - o*te.size], ?_,by rw [cK];exact(hg i (by have h9:=hin _ hi3;rw [hoff hy0]at h9;omega)).2.1,(hsrel _ hi2 hi3).keep hK⟩
     have h1:=fY new w B off (i - o*te.size) hi3 ⟨_,(hg _ (hin _ hi3)).1⟩
     rw [hoff hy0,show o*te.size+(i - o*te.size)=i by omega]at h1
     rw [hoff hy0]
     exact h1
   · rw [if_neg hc]at hget
     have hi2:i<rows.flatten.length:=by
      rcases Nat.lt_or_ge i rows.flatten.length with h1 | h1
      · exact h1
      · rw [List.getElem?_eq_none h1]at hget;cases hget
     rw [List.getElem?_eq_getElem hi2]at hget
     rw [Option.some.inj hget]
     obtain⟨g1,g2,g3⟩:=hg i hi2
     refine⟨g i, ?_,by rw [cK];exact g2,g3.keep hK⟩
     rcases Nat.eq_zero_or_pos ys.length with h1 | h1
     · have:new=[]:=List.eq_nil_of_length_eq_zero (by rw [hnl,h1,Nat.zero_mul])
       rw [this]
       exact g1
     · rw [eo _ _ _ _ _ _ (by rw [hoff h1,hnl];omega)]
       exact g1
theorem Fe (G:Good P E)(h:Rel E R ρ own N st a w){b B o off:Nat}{e:TypeId}{rows ys:Rows}{te:Ty}(hb:nth st.blk b=some (.arr e rows))(he:E.tys e=some te)(hB:nth ρ b=some B)(h0:0<rows.length)
 (ho:o+ys.length≤rows.length) (hoff:0<ys.length→off=o*te.size) {vy:Value} {new:List Value} (hs:Src P E w (Fn own R) te.size te.kinds vy ys new)
 {dst:Option Nat} (hd:∀d,dst=some d→d<N) {v:AV} {val:Value} {rd:List Nat} (hV:∀{w':World} {F':aG},Keeps w (Fn own R) w' F'→AVR E w' F' ρ v val (fun _=>none)):
 (storeCells ⟨B,off,none⟩ new).run P w=.ok () (cX w B off new)∧After E R ρ own N w (st.apply dst ⟨v,none,[(b,.arr e (ou rows o ys))],[],rd⟩) (a.put dst val) (cX w B off new):=
 vt G h hb he hB h0 ho hoff hs.kinds hs.size hs.rel hd hV
theorem BR (G:Good P E)(h:Rel E R ρ own N st a w){t t2 ty0 e:TypeId}{b lo n c:Nat}{vx vy:Value}{px:aS}{y:AV}(hx:AVR E w (Fn own R) ρ (.one (.win e b lo n (some c))) vx px)(hy:SrcV E w (Fn own R) ρ y vy)
 {u:Upd} (hu:mj E t t2 e b lo n c st y some=some u) {dst:Option Nat} (hd:∀d,dst=some d→d<N):
 ∃val w',(Builtin.append_ #[t,t2] ty0 #[vx,vy]).run P w=.ok val w'∧After E R ρ own N w (st.apply dst u) (a.put dst val) w':=by
 unfold mj at hu
 split at hu<;>try (cases hu;done)
 rename_i ty ty2 ht ht2
 have hsrc:=(ab hu).1
 replace hu:=(ab hu).2
 cases hde:ty.desc<;>simp only [hde]at hu<;>try (cases hu;done)
 rename_i e0
 have:=Nat.eq_of_beq_eq_true (ab hu).1
 subst this
 replace hu:=(ab hu).2
 split at hu<;>try (cases hu;done)
 rename_i e' rows o e'' ys hb
 have hb1:=(ab hu).1
 replace hu:=(ab hu).2
 rw [Bool.and_eq_true]at hb1
 have:=Nat.eq_of_beq_eq_true hb1.1
 subst this
 have:=Nat.eq_of_beq_eq_true hb1.2
 subst this
 obtain⟨hr0,hu⟩:=ab hu
 have hr0:0<rows.length:=Nat.le_of_ble_eq_true hr0
 obtain⟨hc1,hu⟩:=ab hu
 obtain⟨hc2,hu⟩:=ab hu
 cases hu
 have hc1:=Nat.le_of_ble_eq_true hc1
 have hc2:=Nat.le_of_ble_eq_true hc2
 have hut:=bl (G.ty _ _ ht) hde
 obtain⟨d2,hu2,hd2⟩:∃d2,P.underlying t2=some d2∧((∃e2,d2=.slice e2)∨d2=.string):=by
  cases hd2:ty2.desc<;>simp only [hd2,TD.source]at hsrc<;>try (cases hsrc;done)
  · exact⟨_,gp (G.ty _ _ ht2) hd2,.inr rfl⟩
  · exact⟨_,bl (G.ty _ _ ht2) hd2,.inl ⟨_,rfl⟩⟩
 have hx1:=hx.get_one
 generalize px []=q at hx1
 cases hx1 with
 | win _ _ _ _ _ te B off cap hB he hn hcap hoff hsp=>
  have hcc:=hcap c rfl
  obtain⟨new,hs⟩:=hy.src (P:=P) G he
  have hT:=G.ty e te he
  obtain⟨i,z,hi1,hi2,hi3,hi4,hi5⟩:=hT.info
  have hfly:=bJ (bS hT.len hs.kinds)
  have hmul:(n+ys.length)*te.size=n*te.size+ys.length*te.size:=Nat.add_mul ..
  have hpos:0<ys.length→off+n*te.size=(lo+n)*te.size:=fun h1=>by rw [hoff (by omega),Nat.add_mul]
  obtain⟨g1,g2⟩:=Fe G h (o:=lo+n) (off:=off+n*te.size) hb he hB hr0 (by omega) hpos hs (dst:=dst) hd (rd:=[b]) (v:=.one (.win e b lo (n+ys.length) (some c))) (val:=.slice (some ⟨B,off,none⟩) (n+ys.length) cap)
   (fun hK=> .of (.win _ _ _ _ _ te B off cap hB he (by omega) hcap hoff fun j h1 h2=>hK.still _ _ (hsp j h1 h2)))
  refine⟨_,_,iP (i:=i) (new:=new) hut hi1 hu2 hd2 (by omega) (hs.len w) (by rw [hi2];exact hs.run w fun _ _=>rfl) ?_,g2⟩
  simp only [hi2,cM]
  exact g1
theorem mM {n:Nat}(h:Nat.blt 0 n=true):0<n:=Nat.le_of_ble_eq_true h
theorem Lh (a b:Nat):KI a b=min a b:=by
 unfold KI
 cases h:Nat.ble a b with
 | true=>rw [cond_true,Nat.min_eq_left (Nat.le_of_ble_eq_true h)]
 | false=>
  rw [cond_false,Nat.min_eq_right]
  by_cases hh:a≤b
  · rw [Nat.ble_eq_true_of_le hh]at h;cases h
  · omega
theorem Src.take {s:Nat}{ks:List CK}{vy:Value}{ys:Rows}{new:List Value}(hl:ks.length=s)(hs:Src P E w F s ks vy ys new)(m:Nat)(hm:m≤ys.length)
 (hrun:∀w',(∀B off,cell w' B off=cell w B off)→(Builtin.firstCells s m vy).run P w'=.ok (new.take (m*s)).toArray w'):
 (∀r∈ys.take m,r.map Cell.kind=ks)∧(new.take (m*s)).length=(ys.take m).flatten.length∧
  ∀(k:Nat) (h1:k<(ys.take m).flatten.length) (h2:k<(new.take (m*s)).length),CR E w F (ys.take m).flatten[k] (new.take (m*s))[k]:=by
 have hev:us s ys:=fun r hr=>by
  have:=congrArg List.length (hs.kinds r hr)
  rw [List.length_map,hl]at this
  exact this
 have hfl:=bJ hev
 have hft:=kc m hev
 have hle:m*s≤ys.length*s:=Nat.mul_le_mul_right _ hm
 refine⟨fun r hr=>hs.kinds r (List.mem_of_mem_take hr),by rw [hft,List.length_take,List.length_take,hs.size],fun k h1 h2=> ?_⟩
 have e1:(ys.take m).flatten[k]=ys.flatten[k]'(by rw [hft,List.length_take]at h1;omega):=by
  have:(ys.take m).flatten[k]? =ys.flatten[k]? :=by
   rw [hft,List.getElem?_take_of_lt (by rw [hft,List.length_take]at h1;omega)]
  rw [List.getElem?_eq_getElem h1,List.getElem?_eq_getElem (by rw [hft,List.length_take]at h1;omega)]at this
  exact Option.some.inj this
 rw [e1,List.getElem_take]
 exact hs.rel k _ _
theorem Jj (G:Good P E){o:Bool}{e:TypeId}{ys:Rows}{vy:Value}{te:Ty}(h:SrcV E w F ρ (.one (.sl o e ys)) vy)(he:E.tys e=some te)(m:Nat)(hm:m≤ys.length):
 ∃new:List Value,(∀r∈ys.take m,r.map Cell.kind=te.kinds)∧new.length=(ys.take m).flatten.length∧(Builtin.firstCells te.size m vy).run P w=.ok new.toArray w∧(Builtin.lenOf vy).run P w=.ok ys.length w∧
  ∀(k:Nat) (h1:k<(ys.take m).flatten.length) (h2:k<new.length),CR E w F (ys.take m).flatten[k] new[k]:=by
 obtain⟨new,hs⟩:=h.src (P:=P) G he
 have hT:=G.ty e te he
 have hrun:∀w',(∀B off,cell w' B off=cell w B off)→(Builtin.firstCells te.size m vy).run P w'=.ok (new.take (m*te.size)).toArray w':=by
  obtain⟨F0,p,hv⟩:=h.any
  have hc:=hv.get_one.inv_sl
  intro w' hw
  have hfl:=bJ (bS hT.len hs.kinds)
  have hle:m*te.size≤ys.length*te.size:=Nat.mul_le_mul_right _ hm
  have hfull:=hs.run w' hw
  cases hc with
  | empty _ b cap=>
   have:m=0:=by simpa using hm
   subst this
   cases b<;>simp [Builtin.firstCells,loadCells,loadCellsFrom]
  | slice _ _ te' B off cap g he' hk hc hm' hr=>
   rw [he]at he'
   cases he'
   have hg:∀j,j<m*te.size→cell w' B (off+j)=some (g j):=fun j hj=>(hw B (off+j)).trans (hm' j (by omega)).1
   have h1:(Builtin.firstCells te.size ys.length (.slice (some ⟨B,off,none⟩) ys.length cap)).run P w'=.ok ((List.range (ys.length*te.size)).map g).toArray w':=by
    simp only [Builtin.firstCells]
    exact run_loadCells w' ⟨B,off,none⟩ _ g fun j hj=>by rw [cM];exact(hw B (off+j)).trans (hm' j (by omega)).1
   have h2:new=(List.range (ys.length*te.size)).map g:=by
    rw [h1]at hfull
    injection hfull with e1 e2
    exact(congrArg Array.toList e1).symm
   rw [h2]
   simp only [Builtin.firstCells]
   have h3:=run_loadCells (P:=P) w' ⟨B,off,none⟩ (m*te.size) g fun j hj=>by rw [cM];exact hg j hj
   rw [h3]
   congr 2
   apply List.ext_getElem?
   intro k
   simp only [List.getElem?_map,List.getElem?_take,List.getElem?_range']
   by_cases hk:k<m*te.size
   · rw [if_pos hk,List.getElem?_range (by omega),List.getElem?_range (by omega)]
   · rw [if_neg hk,List.getElem?_eq_none (by simp;omega)]
     rfl
 obtain⟨a1,a2,a3⟩:=hs.take hT.len m hm hrun
 exact⟨_,a1,a2,hrun w fun _ _=>rfl,hs.len w,a3⟩
theorem rt (G:Good P E)(h:Rel E R ρ own N st a w){t t2 ty0 e0 e:TypeId}{b lo n:Nat}{vx vy:Value}{q:aH}{c:Option Nat}{y:AV}(hut:P.underlying t=some (.slice e0))(hx:AR E w (Fn own R) ρ (.win e b lo n c) vx q)(hy:SrcV E w (Fn own R) ρ y vy)
 {u:Upd} (hu:jm e0 e b lo n st y some=some u) {dst:Option Nat} (hd:∀d,dst=some d→d<N):
 ∃val w',(Builtin.copy_ #[t,t2] ty0 #[vx,vy]).run P w=.ok val w'∧After E R ρ own N w (st.apply dst u) (a.put dst val) w':=by
 unfold jm at hu
 split at hu<;>try (cases hu;done)
 rename_i e' rows o e'' ys hb
 have hb1:=(ab hu).1
 replace hu:=(ab hu).2
 simp only [Bool.and_eq_true]at hb1
 have:=Nat.eq_of_beq_eq_true hb1.1
 subst this
 have:=Nat.eq_of_beq_eq_true hb1.2.1
 subst this
 have:=Nat.eq_of_beq_eq_true hb1.2.2
 subst this
 obtain⟨hc1,hu⟩:=ab hu
 obtain⟨hc2,hu⟩:=ab hu
 cases hu
 have hr0:=mM hc1
 have hln:=Nat.le_of_ble_eq_true hc2
 cases hx with
 | win _ _ _ _ _ te B off cap hB he hn hcap hoff hsp=>
  have hT:=G.ty e te he
  have hsz:=hT.run_size (w:=w)
  rw [Lh]
  obtain⟨new,a1,a2,a3,a4,a5⟩:=Jj (P:=P) G hy he (min n ys.length) (Nat.min_le_right _ _)
  rw [bp]
  have htl:(ys.take (min n ys.length)).length=min n ys.length:=by rw [List.length_take];omega
  -- the rows that are copied,as a source of their own
  have hself:=mB h hb he hB hr0
  have hstep:(storeCells ⟨B,off,none⟩ new).run P w=.ok () (cX w B off new)∧After E R ρ own N w (st.apply dst ⟨.one (.int .i64 ((min n ys.length:Nat):Int)),none,[(b,.arr e (ou rows lo (ys.take (min n ys.length))))],[],[b]⟩) (a.put dst (.int .i64 ((min n ys.length:Nat):Int))) (cX w B off new):=
   vt G h (o:=lo) (off:=off) hb he hB hr0 (by omega) (fun h1=>hoff (by omega)) a1 a2 a5 hd (fun _=>AVR.int)
  refine⟨_,_, ?_,hstep.2⟩
  have hmin:Nat.min ys.length n=min n ys.length:=Nat.min_comm _ _
  simp [Builtin.copy_,run_underlying hut,a4,hsz,hmin,a3,hstep.1,goInt]
theorem Cl (G:Good P E)(h:Rel E R ρ own N st a w){t t2 ty0:TypeId}{x y:AV}{vx vy:Value}{px:aS}(hx:AVR E w (Fn own R) ρ x vx px)(hy:SrcV E w (Fn own R) ρ y vy)
 {u:Upd} (hu:me E t x st y some=some u) {dst:Option Nat} (hd:∀d,dst=some d→d<N):
 ∃val w',(Builtin.copy_ #[t,t2] ty0 #[vx,vy]).run P w=.ok val w'∧After E R ρ own N w (st.apply dst u) (a.put dst val) w':=by
 unfold me at hu
 split at hu<;>try (cases hu;done)
 rename_i ty ht
 cases hde:ty.desc<;>simp only [hde]at hu<;>try (cases hu;done)
 rename_i e0
 have hut:=bl (G.ty _ _ ht) hde
 split at hu<;>try (cases hu;done)
 · rename_i e b n
   obtain⟨hn,hu⟩:=ab hu
   have hn:=mM hn
   have hx1:=hx.get_one
   generalize px []=q at hx1
   cases hx1 with
   | mnil=>omega
   | msl _ _ _ te B cap hB he h0 hnc hcm hsp=>
    exact rt G h hut (.win e b 0 n none te B 0 cap hB he hnc (fun k h=>by cases h) (fun _=>(Nat.zero_mul _).symm) fun j _ h2=>hsp j (by simpa using h2)) hy hu hd
 · exact rt G h hut hx.get_one hy hu hd
theorem ll (G:Good P E){t:TypeId}{x:AV}{vx:Value}{px:aS}(hx:AVR E w F ρ x vx px){lo hi mx:Option AV}{vlo vhi vmx:Option Value}(hlo:j0 E w F ρ lo vlo)(hhi:j0 E w F ρ hi vhi)(hmx:j0 E w F ρ mx vmx)
 {ty:Ty} (ht:E.tys t=some ty) {v:AV} {e:TypeId} {b lo0 n:Nat} {c:Option Nat} (hv:gr e b lo0 n c lo hi mx some=some v)
 (hcase:(ty.desc=.slice e∧((x=.one (.msl e b n)∧lo0=0∧c=none∧0<n)∨x=.one (.win e b lo0 n c)))∨(ty.desc=.array n e∧x=.one (.parr e b n)∧lo0=0∧c=some n)):
 ∃val,(Instr.sliceAt t vx vlo vhi vmx).run P w=.ok val w∧AVR E w F ρ v val (fun _=>none):=by
 have main:∀{te:Ty} {B off cap:Nat},ty.desc=.slice e→vx=.slice (some ⟨B,off,none⟩) n cap→nth ρ b=some B→E.tys e=some te→n≤cap→(∀k,c=some k→cap=k)→(0<cap→off=lo0*te.size)→
  (∀j,lo0*te.size≤j→j<(lo0+cap)*te.size→(∃v,cell w B j=some v)∧dl w B j=false)→∃val,(Instr.sliceAt t vx vlo vhi vmx).run P w=.ok val w∧AVR E w F ρ v val (fun _=>none):=by
  intro te B off cap hde hvx hB he hn hc ho hs
  obtain⟨l,k,m,c',rfl,hb,h1,h2,h3,h4,h5⟩:=pD (P:=P) (isS:=true) hlo hhi hmx hn hv
  have hut:=bl (G.ty _ _ ht) hde
  subst hvx
  refine⟨_, ?_,.of (Db hB he hc ho hs h1 h2 h3 h4 h5)⟩
  simp only [Instr.sliceAt,Sem.run_bind,run_underlying hut,Result.andThen_ok]
  exact eh hut ((G.ty _ _ he).run_size (w:=w)) hb
 rcases hcase with⟨hde,⟨rfl,rfl,rfl,h0⟩ | rfl⟩ | ⟨hde,rfl,rfl,rfl⟩
 · have hx1:=hx.get_one
   generalize px []=q at hx1
   cases hx1 with
   | mnil=>omega
   | msl _ _ _ te B cap hB he h0 hnc hcm hsp=>exact main hde rfl hB he hnc (fun k h=>by cases h) (fun _=>(Nat.zero_mul _).symm) fun j _ h2=>hsp j (by simpa using h2)
 · have hx1:=hx.get_one
   generalize px []=q at hx1
   cases hx1 with
   | win _ _ _ _ _ te B off cap hB he hn hc ho hs=>exact main hde rfl hB he hn hc ho hs
 · have hx1:=hx.get_one
   generalize px []=q at hx1
   cases hx1 with
   | parr _ _ _ te B hB he hs=>
    obtain⟨l,k,m,c',rfl,hb,h1,h2,h3,h4,h5⟩:=pD (P:=P) (isS:=false) hlo hhi hmx (Nat.le_refl n) hv
    have hut:=kH (G.ty _ _ ht) hde
    have hsz:=(G.ty _ _ he).run_size (w:=w)
    have:=Db (E:=E) (w:=w) (F:=F) (off:=0) (c:=some n) (c':=c') hB he (fun k h=>by cases h;rfl) (fun _=>(Nat.zero_mul _).symm) (fun j _ h2=>hs j (by simpa using h2)) h1 h2 h3 h4 h5
    refine⟨_, ?_,.of this⟩
    simp only [Instr.sliceAt,Sem.run_bind,run_underlying hut,Result.andThen_ok,Instr.sureAddr,hb,hsz,Sem.run_pure]
    by_cases hm:m=l<;>simp [hm]
theorem Rel.makeArr (h:Rel E R ρ own N st a w){dst:Option Nat}{v:AV}{val:Value}{w':World}{B':Nat}{e:TypeId}{rows':Rows}{rd:List Nat}
 (hd:∀d,dst=some d→d<N) (hk:w.keptBut w' (inT fun _ _=>False)) (hB1:w.heap.size≤B') (hB2:B'<w'.heap.size)
 (hV:Keeps w (Fn own R) w' (Fn (aZ own dst st.blk.length st.blk.length (some (B',0))) R)→AVR E w' (Fn (aZ own dst st.blk.length st.blk.length (some (B',0))) R) (ρ++ [B']) v val (fun _=>none))
 (hnew:Keeps w (Fn own R) w' (Fn (aZ own dst st.blk.length st.blk.length (some (B',0))) R)→BlkR E w' (Fn (aZ own dst st.blk.length st.blk.length (some (B',0))) R) (ρ++ [B']) (aZ own dst st.blk.length st.blk.length (some (B',0))) st.blk.length (some (.arr e rows'))):
 After E R ρ own N w (st.apply dst ⟨v,none,[],[.arr e rows'],rd⟩) (a.put dst val) w':=by
 have hρl:ρ.length=st.blk.length:=h.rho
 have hlt:∀y B t',own y=some (B,t')→B<w.heap.size:=fun y B t' e=>(h.out _ _ _ e).1
 refine⟨ρ++ [B'],_,fun b B' hb=>by rw [bj _ _ _ (dE hb)];exact hb,h.gen (own':=aZ own dst st.blk.length st.blk.length (some (B',0))) (fun _ _=>False) (fun t=>dst=some t) (fun k=>k=st.blk.length) hk (fun _ _ h=>h.elim) ?_ ?_ (by rw [eV];exact h.size) (by rw [dm];exact h.defers) ?_ ?_ ?_ ?_ ?_ ?_⟩
 · intro y B t' hy
   rcases eZ hy with⟨rfl,e⟩ | ⟨e,_⟩
   · cases e;exact .inr ⟨hB1,hB2⟩
   · exact .inl ⟨y,t',e,Nat.le_refl _⟩
 · intro x y B t t' hx hy
   rcases eZ hx with⟨rfl,e⟩ | ⟨e,n1,n2⟩<;>rcases eZ hy with⟨rfl,e'⟩ | ⟨e',n1',n2'⟩
   · rfl
   · cases e;have:=hlt _ _ _ e';omega
   · cases e';have:=hlt _ _ _ e;omega
   · exact h.inj _ _ _ _ _ e e'
 · intro t hc
   have h1:dst≠some t:=hc
   refine⟨by simp only [St.apply,jC,cE,h1,if_false], ?_,fun p=>by simp only [aZ,h1,if_false]⟩
   rw [bU a dst val t (by rw [h.size];exact hd)]
   simp only [h1,if_false]
 · intro hK t hc
   have e1:get (st.apply dst ⟨v,none,[],[.arr e rows'],rd⟩).fr t=v:=by simp only [St.apply,jC,cE,hc,if_true]
   rw [e1,bU a dst val t (by rw [h.size];exact hd)]
   simp only [hc,if_true]
   have e2:(fun p=>aZ own dst st.blk.length st.blk.length (some (B',0)) (.tmp t p))=fun _=>none:=funext fun p=>by simp only [aZ,hc,if_true]
   rw [hc]at e2 hV hK
   rw [e2]
   exact hV hK
 · simp only [St.apply,bz,ba,List.length_append,List.length_singleton,hρl]
 · intro b B hb
   rw [bj _ _ _ (dE hb)];exact hb
 · intro k hkb
   refine⟨?_,by simp only [aZ,hkb,if_false],fun j=>by simp only [aZ,hkb,if_false]⟩
   simp only [St.apply,bz,ba]
   by_cases hk':k<st.blk.length
   · rw [bj _ _ _ hk']
   · rw [eS (l:=st.blk) (by omega),eS]
     simp;omega
 · intro hK k hkb
   subst hkb
   simp only [St.apply,bz,ba]
   rw [bD]
   exact hnew hK
theorem Bj (G:Good P E)(h:Rel E R ρ own N st a w){t:TypeId}{x y:AV}{vx vy:Value}{px py:aS}(hx:AVR E w (Fn own R) ρ x vx px)(hy:AVR E w (Fn own R) ρ y vy py){u:Upd}(hu:jW E t st x y some=some u){dst:Option Nat}(hd:∀d,dst=some d→d<N):
 ∃val w',(Instr.makeSlice t vx vy).run P w=.ok val w'∧After E R ρ own N w (st.apply dst u) (a.put dst val) w':=by
 unfold jW at hu
 cases ht:E.tys t with
 | none=>simp [ht]at hu
 | some ty=>
  simp only [ht]at hu
  cases hd':ty.desc<;>simp only [hd']at hu<;>try (cases hu;done)
  rename_i e
  split at hu<;>try (cases hu;done)
  rename_i te n m he hn hm
  obtain⟨hbt,h1⟩:=ab hu
  obtain⟨hb,h20⟩:=ab h1
  obtain⟨hnp,h2⟩:=ab h20
  have hnp:=mM hnp
  have hbt:=Nat.le_of_ble_eq_true hbt
  have hT:=G.ty e te he
  unfold qr at hb
  simp only [Bool.and_eq_true,decide_eq_true_eq]at hb
  obtain⟨⟨hb0,hnm⟩,hb2⟩:=hb
  have hb2:=kU hb2
  obtain⟨zl,h3,h4,h5⟩:=cw h2
  obtain⟨row,h6,hk,hrl,hll,hr⟩:=eC h3
  obtain⟨z,hz,hz2⟩:=hT.run_zero (w:=w)
  obtain⟨hzs,_⟩:=d8 hz2
  have hs:z.cells.size=te.size:=by rw [hzs,hT.len]
  have hpos:=hT.pos
  unfold asI at hn hm
  split at hn<;>try (cases hn;done)
  rename_i k1 n1
  cases hn
  split at hm<;>try (cases hm;done)
  rename_i k2 m1
  cases hm
  rw [hx.get_int,hy.get_int]
  have hm9:m≤4294967296:=by omega
  have hwn:=jz (n:=n) hb0 (by omega)
  have hwm:=jz (n:=m) (by omega) (by omega)
  obtain⟨i,hi1,hi2⟩:=hT.run_bytes
  have htoo:∀q:Int,0≤q→q≤4294967296→(decide (q<0) || decide ((te.bytes:Int)*q>2^48))=false:=by
   intro q q1 q2
   have h7:(te.bytes:Int)*q≤4096*4294967296:=Int.mul_le_mul (by omega) q2 q1 (by omega)
   simp only [Bool.or_eq_false_iff,decide_eq_false_iff_not]
   constructor<;>omega
  have hrun:∃zs:Array Value,(m.toNat*te.size≠0→zs=z.cells)∧(Instr.makeSlice t (.int k1 n) (.int k2 m)).run P w=.ok (.slice (some ⟨w.heap.size,0,none⟩) n.toNat m.toNat) (w.alloc (.cells ((Array.range (m.toNat*te.size)).map (zs[· %zs.size]!)) e)):=by
   have h8:=htoo m (by omega) hm9
   by_cases hz0:m.toNat*te.size=0
   · refine⟨#[],fun hc=>absurd hz0 hc, ?_⟩
     simp only [Instr.makeSlice,Sem.run_bind,run_underlying (bl (G.ty _ _ ht) hd'),Result.andThen_ok,asInt,asIntOf,Sem.run_pure,typeInfo,run_program,hi1,hi2,hwn,hwm,h8]
     rw [if_neg (by simp;omega)]
     simp only [Sem.run_bind,run_askRoom,Result.andThen_ok,hT.run_size,hz0,if_true,Sem.run_pure,du]
   · refine⟨z.cells,fun _=>rfl, ?_⟩
     simp only [Instr.makeSlice,Sem.run_bind,run_underlying (bl (G.ty _ _ ht) hd'),Result.andThen_ok,asInt,asIntOf,Sem.run_pure,typeInfo,run_program,hi1,hi2,hwn,hwm,h8]
     rw [if_neg (by simp;omega)]
     simp only [Sem.run_bind,run_askRoom,Result.andThen_ok,hT.run_size,hz0,if_false,hz,Sem.run_pure,du]
  obtain⟨zs,hzs',hrun⟩:=hrun
  refine⟨_,_,hrun, ?_⟩
  cases h6
  have hlrow:row.length=te.size:=by rw [hrl,h4,hT.len]
  have hkeep:=World.keptBut_alloc w (.cells ((Array.range (m.toNat*te.size)).map (zs[· %zs.size]!)) e) (inT fun _ _=>False)
  have hcells:∀k,k<m.toNat*te.size→cell (w.alloc (.cells ((Array.range (m.toNat*te.size)).map (zs[· %zs.size]!)) e)) w.heap.size k=some (z.cells.getD (k%te.size) undef):=by
   intro k hk'
   rw [cell_new _ _ _ _ (by simpa using hk')]
   have hz':zs=z.cells:=hzs' (by omega)
   have hlt:k%te.size<z.cells.size:=by rw [hs];exact Nat.mod_lt _ (by omega)
   simp [hz',hs,hs▸hlt]
  have hev:∀r∈List.replicate n.toNat row,r.map Cell.kind=te.kinds:=fun r hr'=>by
   rw [(List.mem_replicate.1 hr').2];exact hk
  have hfl:=bJ (bS hT.len hev)
  simp only [List.length_replicate]at hfl
  have hnm':n.toNat*te.size≤m.toNat*te.size:=Nat.mul_le_mul_right _ (by omega)
  have hcap:m≤4294967296:=hm9
  have hmn:n.toNat≤m.toNat:=by omega
  refine h.makeArr (B':=w.heap.size) hd hkeep (Nat.le_refl _) (by simp) (fun hK=> .of ?_) (fun hK=> .inr ⟨w.heap.size,te,by rw [←h.rho];exact bD ρ _,by simp only [aZ,if_true],fun j=>by simp only [aZ,if_true],he,hev,⟨⟨_,hcells 0 (Nat.mul_pos (by omega) (by omega))⟩,im ..⟩,fun i hi=>⟨_,hcells i (by omega),im .., ?_⟩⟩)
  · rw [bq]
    exact .msl e _ _ te w.heap.size m.toNat (by rw [←h.rho];exact bD ρ _) he hnp hmn (by omega) fun j hj=>⟨⟨_,hcells j hj⟩,im ..⟩
  · have hdm:i=i / te.size*te.size+i%te.size:=by rw [Nat.mul_comm];exact(Nat.div_add_mod i te.size).symm
    have hmod:i%te.size<te.size:=Nat.mod_lt _ (by omega)
    have hdiv:i / te.size<n.toNat:=by
     rw [Nat.div_lt_iff_lt_mul (by omega)];omega
    obtain⟨q1,q2,q3⟩:=gv (bS hT.len hev) (i:=i / te.size) (j:=i%te.size) (by simpa using hdiv) hmod
    have e2:(List.replicate n.toNat row).flatten[i]=row[i%te.size]'(by omega):=by
     have:(List.replicate n.toNat row).flatten[i]=(List.replicate n.toNat row).flatten[i / te.size*te.size+i%te.size]:=by
      congr 1
     rw [this,q3]
     simp only [List.getElem_replicate]
    rw [e2]
    have hlt:i%te.size<z.cells.size:=by omega
    have:=xo hll hrl hr (E:=E) (w:=w) (F:=Fn own R) (ρ:=ρ) (g:=fun i=>z.cells.getD i undef) (fun j h1=>by
     have h2:j<z.cells.size:=by omega
     have:=hG (E:=E) (w:=w) (F:=Fn own R) (ρ:=ρ) hz2 h4 h5 j h1 h2
     simpa [h2]using this) (i%te.size) (by omega)
    exact this.keep hK
theorem qX {k:CK}:∀{l:List CK},ot k l=true→∀(i:Nat) (hi:i<l.length),l[i]=k
 | [],_,i,hi=>by simp at hi
 | x::r,h,i,hi=>by
  unfold ot at h
  obtain⟨h1,h2⟩:=(show CK.same k x=true∧ot k r=true by
   cases e:CK.same k x<;>rw [e]at h
   · cases h
   · exact⟨rfl,h⟩)
  cases i with
  | zero=>exact(mS h1).symm
  | succ i=>exact qX h2 i (by simpa using hi)
theorem zv (G:Good P E)(h:Rel E R ρ own N st a w){t:TypeId}{u:Upd}(hu:jX E t st some=some u){dst:Option Nat}(hd:∀d,dst=some d→d<N):
 ∃val w',(Instr.alloc t true (.tuple #[])).run P w=.ok val w'∧After E R ρ own N w (st.apply dst u) (a.put dst val) w':=by
 unfold jX at hu
 cases ht:E.tys t with
 | none=>simp [ht]at hu
 | some ty=>
  simp only [ht]at hu
  cases hd':ty.desc<;>simp only [hd']at hu<;>try (cases hu;done)
  rename_i n e
  cases he:E.tys e with
  | none=>simp [he]at hu
  | some te=>
   simp only [he]at hu
   split at hu<;>try (cases hu;done)
   rename_i k hk
   obtain⟨hc,hu⟩:=ab hu
   simp only [Bool.and_eq_true]at hc
   obtain⟨hc1,hc2,hc3⟩:=hc
   have hc1:=Nat.eq_of_beq_eq_true hc1
   have hc2:=mM hc2
   split at hu<;>try (cases hu;done)
   rename_i c hz0
   split at hu<;>try (cases hu;done)
   rename_i x hx
   cases hu
   have hT:=G.ty t ty ht
   have hTe:=G.ty e te he
   have hs1:te.size=1:=by rw [←hTe.len,hk];rfl
   obtain⟨z,hz,hz2⟩:=hT.run_zero (w:=w)
   obtain⟨hzs,hzv⟩:=d8 hz2
   have hzn:z.cells.size=n:=by rw [hzs,hT.len,hc1]
   have hkl:ty.kinds.length=n:=by rw [hT.len,hc1]
   refine⟨.pointer (some ⟨w.heap.size,0,none⟩),w.alloc (.cells z.cells t), ?_, ?_⟩
   · simp only [Instr.alloc,Sem.run_bind,hz,Result.andThen_ok,newVar,du,Sem.run_pure]
   · have hkx:Cell.kind x=k:=by
      cases k<;>(first | (cases hz0;done) | skip)<;>simp only [lZ,Option.some.injEq]at hz0<;>subst hz0<;>(first | (cases hx;done) | skip)<;>(cases hx;rfl)
     have hcell:∀j (hj:j<n),cell (w.alloc (.cells z.cells t)) w.heap.size j=some (z.cells[j]'(by omega)):=fun j hj=>cell_new _ _ _ _ (by omega)
     have hfl:(List.replicate n [x]).flatten.length=n:=by simp
     refine h.makeArr (B':=w.heap.size) hd (World.keptBut_alloc _ _ _) (Nat.le_refl _) (by simp) (fun hK=> .of ?_) (fun hK=> .inr ⟨w.heap.size,te,by rw [←h.rho];exact bD ρ _,by simp only [aZ,if_true],fun j=>by simp only [aZ,if_true],he,fun r hr=> ?_,⟨⟨_,hcell 0 hc2⟩,im ..⟩,fun i hi=>⟨_,hcell i (by omega),im .., ?_⟩⟩)
     · rw [bq]
       exact .parr e _ _ te w.heap.size (by rw [←h.rho];exact bD ρ _) he fun j hj=>⟨⟨_,hcell j (by rw [hs1]at hj;omega)⟩,im ..⟩
     · rw [(List.mem_replicate.1 hr).2,hk]
       simp [hkx]
     · have e1:(List.replicate n [x]).flatten[i]=x:=by simp
       rw [e1]
       have h3:i<ty.kinds.length:=by omega
       have h4:=hzv i (by omega) h3
       rw [qX hc3 i h3]at h4
       exact(nL (w8 (E:=E) (w:=w) (F:=Fn own R) (ρ:=ρ) hz0 h4) hx).keep hK
end Go.Abs
namespace Go.Abs
section nat
variable {β γ:Type} (E:Env) (f:β→Option γ)
theorem aJ :(none:Option β).bind f=none:=rfl
theorem eU :∀(ks:List CK) (K:List AC→Option β),(eE ks K).bind f=eE ks fun u=>(K u).bind f
 | [],K=>rfl
 | k::ks,K=>by
  simp only [eE]
  cases lZ k with
  | none=>rfl
  | some a=>exact eU ks _
theorem mR (row:Row):∀(ks:List CK) (j:Nat) (K:List AC→Option β),(pg row ks j K).bind f=pg row ks j fun u=>(K u).bind f
 | [],_,K=>rfl
 | k::ks,j,K=>by
  simp only [pg]
  cases ko row j k with
  | none=>rfl
  | some a=>exact mR row ks _ _
theorem kq :∀(ks:List CK) (l:List AC) (K:Row→Option β),(qw ks l K).bind f=qw ks l fun u=>(K u).bind f
 | [],[],K=>rfl
 | [],_::_,K=>rfl
 | _::_,[],K=>rfl
 | k::ks,a::r,K=>by
  simp only [qw]
  cases (va k a).toCell with
  | none=>rfl
  | some c=>
   dsimp only
   cases CK.same c.kind k with
   | false=>rfl
   | true=>exact kq ks r _
theorem mE :∀(l:List AC) (o n:Nat) (K:List AC→Option β),(lw l o n K).bind f=lw l o n fun u=>(K u).bind f
 | l,o,0,K=>by cases l<;>cases o<;>rfl
 | [],o,n+1,K=>by cases o<;>rfl
 | a::r,0,n+1,K=>mE r 0 n _
 | a::r,o+1,n+1,K=>mE r o (n+1) _
theorem gP :∀(l:List AC) (o:Nat) (xs:List AC) (K:List AC→Option β),(eR l o xs K).bind f=eR l o xs fun u=>(K u).bind f
 | l,o,[],K=>by cases l<;>cases o<;>rfl
 | [],o,_::_,K=>by cases o<;>rfl
 | a::r,0,x::xs,K=>gP r 0 xs _
 | a::r,o+1,x::xs,K=>gP r o (x::xs) _
theorem aO (b:Bool)(x y:Option β):(cond b x y).bind f=cond b (x.bind f) (y.bind f):=by cases b<;>rfl
theorem d0 (v:AV)(K:Upd→Option β):(cd v K).bind f=cd v fun u=>(K u).bind f:=rfl
theorem tY (k:IntKind)(n:Int)(K:Upd→Option β):(iF k n K).bind f=iF k n fun u=>(K u).bind f:=rfl
theorem EG (b:Bool)(K:Upd→Option β):(eJ b K).bind f=eJ b fun u=>(K u).bind f:=rfl
theorem Jx (op:BinOp)(t:TypeId)(x y:AV)(K:Upd→Option β):(kr E op t x y K).bind f=kr E op t x y fun u=>(K u).bind f:=by
 unfold kr
 split
 · split<;>simp only [aO,aJ,tY]
   congr 1
   split<;>first | rfl | simp only [aO,aJ,tY]
 · split<;>simp only [aO,aJ,d0,EG]
 · split
   · split
     · simp only [aO,aJ]
       congr 1
       split<;>rfl
     · rfl
   · rfl
 · split
   · simp only [aO,aJ]
     congr 1
     split<;>rfl
   · rfl
 · split
   · simp only [aO,aJ]
     congr 1
     split<;>rfl
   · rfl
 · rfl
theorem Lr (op:UnOp)(x:AV)(K:Upd→Option β):(unK op x K).bind f=unK op x fun u=>(K u).bind f:=by
 unfold unK;split<;>rfl
theorem mT (s d:TypeId)(x:AV)(K:Upd→Option β):(qQ E s d x K).bind f=qQ E s d x fun u=>(K u).bind f:=by
 unfold qQ
 repeat' split
 all_goals first | rfl | simp only [aO,aJ,d0]
theorem hH (ty:Ty)(v:AV)(K:List AC→Option β):(eF ty v K).bind f=eF ty v fun u=>(K u).bind f:=by
 unfold eF
 repeat' split
 all_goals first | rfl | simp only [aO,aJ]
theorem jv (ty:Ty)(l:List AC)(K:AV→Option β):(dg ty l K).bind f=dg ty l fun u=>(K u).bind f:=by
 unfold dg
 split<;>rfl
theorem w7 (tk:Bool)(t:TypeId)(st:St)(p:AV)(K:Upd→Option β):(lx E tk t st p K).bind f=lx E tk t st p fun u=>(K u).bind f:=by
 unfold lx
 split
 · rfl
 · split
   · split
     · simp only [mE,jv]
       congr 1;funext l;congr 1;funext v
       split
       · rfl
       · exact gP _ _ _ _ _
     · rfl
   · split
     · simp only [aO,aJ,mR,jv]
     · rfl
   · split
     · simp only [jv]
     · rfl
   · split
     · split
       · simp only [aO,aJ,mR,jv]
       · rfl
     · rfl
   · rfl
theorem xq (t:TypeId)(st:St)(p v:AV)(dis:Option Nat)(K:Upd→Option β):(fB E t st p v dis K).bind f=fB E t st p v dis fun u=>(K u).bind f:=by
 unfold fB
 repeat' split
 all_goals first | rfl | simp only [aO,aJ,hH,gP,kq]
theorem yR (t:TypeId)(st:St)(p v:AV)(K:Upd→Option β):(lb E t st p v K).bind f=lb E t st p v fun u=>(K u).bind f:=by
 unfold lb
 repeat' split
 all_goals first | rfl | simp only [aO,aJ,gP]
theorem ut (t:TypeId)(x i:AV)(K:Upd→Option β):(gS E t x i K).bind f=gS E t x i fun u=>(K u).bind f:=by
 unfold gS
 repeat' split
 all_goals first | rfl | simp only [aO,aJ,d0]
theorem sz (s:TypeId)(x:AV)(g:Nat)(K:Upd→Option β):(hP E s x g K).bind f=hP E s x g fun u=>(K u).bind f:=by
 unfold hP
 repeat' split
 all_goals rfl
theorem Cx (s:TypeId)(x:AV)(g:Nat)(K:Upd→Option β):(pL E s x g K).bind f=pL E s x g fun u=>(K u).bind f:=by
 unfold pL
 repeat' split
 all_goals first | rfl | simp only [mE,jv,d0]
theorem BW (t:TypeId)(x i:AV)(K:Upd→Option β):(qg E t x i K).bind f=qg E t x i fun u=>(K u).bind f:=by
 unfold qg
 repeat' split
 all_goals first | rfl | simp only [aO,aJ,tY]
theorem zN (own:Bool)(e:TypeId)(rows:Rows)(lo hi mx:Option AV)(K:AV→Option β):(dS own e rows lo hi mx K).bind f=dS own e rows lo hi mx fun u=>(K u).bind f:=by
 unfold dS
 repeat' split
 all_goals first | rfl | simp only [aO,aJ]
theorem zw (s:List UInt8)(lo hi:Option AV)(K:AV→Option β):(gg s lo hi K).bind f=gg s lo hi fun u=>(K u).bind f:=by
 unfold gg
 repeat' split
 all_goals first | rfl | simp only [aO,aJ]
theorem rq (e:TypeId)(b lo0 n:Nat)(c:Option Nat)(lo hi mx:Option AV)(K:AV→Option β):(gr e b lo0 n c lo hi mx K).bind f=gr e b lo0 n c lo hi mx fun u=>(K u).bind f:=by
 unfold gr
 repeat' split
 all_goals first | rfl | simp only [aO,aJ]
theorem Cm (t:TypeId)(dis:Option Nat)(x:AV)(lo hi mx:Option AV)(K:Upd→Option β):(nR E t dis x lo hi mx K).bind f=nR E t dis x lo hi mx fun u=>(K u).bind f:=by
 unfold nR
 repeat' split
 all_goals first | rfl | simp only [aO,aJ,zN,zw,rq,d0]
theorem zd (t t2:TypeId)(dis:Option Nat)(x y:AV)(K:Upd→Option β):(mD E t t2 dis x y K).bind f=mD E t t2 dis x y fun u=>(K u).bind f:=by
 unfold mD
 split
 · rfl
 · rfl
 · simp only [aO,aJ]
   congr 1
   repeat' split
   all_goals try (first | rfl | simp only [aO,aJ])
   all_goals try (congr 1;repeat' split)
   all_goals first | rfl | simp only [aO,aJ]
theorem EB (t t2 e:TypeId)(b n:Nat)(st:St)(y:AV)(K:Upd→Option β):(md E t t2 e b n st y K).bind f=md E t t2 e b n st y fun u=>(K u).bind f:=by
 unfold md
 split
 · simp only [aO,aJ]
   congr 1
   split
   · split
     · simp only [aO,aJ]
       congr 1
       split
       · simp only [aO,aJ]
       · rfl
     · rfl
   · rfl
 · rfl
theorem vP (t:TypeId)(st:St)(x:AV)(K:Upd→Option β):(o0 E t st x K).bind f=o0 E t st x fun u=>(K u).bind f:=by
 unfold o0
 repeat' split
 all_goals rfl
theorem CO (t:TypeId)(len:Nat)(st:St)(K:Upd→Option β):(kL E t len st K).bind f=kL E t len st fun u=>(K u).bind f:=by
 unfold kL
 repeat' split
 all_goals first | rfl | simp only [aO,aJ]
theorem qF (st:St)(x:AV)(K:Upd→Option β):(iT st x K).bind f=iT st x fun u=>(K u).bind f:=by
 unfold iT
 repeat' split
 all_goals first | rfl | simp only [aO,aJ]
theorem uD (st:St)(y:AV)(K:AV→List Nat→Option β):(pY E st y K).bind f=pY E st y fun v rd=>(K v rd).bind f:=by
 unfold pY
 repeat' split
 all_goals first | rfl | simp only [aO,aJ]
theorem Fx (t t2 e:TypeId)(b lo n c:Nat)(st:St)(y:AV)(K:Upd→Option β):(mj E t t2 e b lo n c st y K).bind f=mj E t t2 e b lo n c st y fun u=>(K u).bind f:=by
 unfold mj
 split
 · simp only [aO,aJ]
   congr 1
   split
   · simp only [aO,aJ]
     congr 1
     split
     · simp only [aO,aJ]
     · rfl
   · rfl
 · rfl
theorem Cz (t t2 e:TypeId)(b n:Nat)(st:St)(k:Int)(K:Upd→Option β):(jg E t t2 e b n st k K).bind f=jg E t t2 e b n st k fun u=>(K u).bind f:=by
 unfold jg
 repeat' split
 all_goals first | rfl | simp only [aO,aJ,eU,kq]
theorem jH (t t2:TypeId)(dis:Option Nat)(x:AV)(st:St)(y:AV)(K:Upd→Option β):(ig E t t2 dis x st y K).bind f=ig E t t2 dis x st y fun u=>(K u).bind f:=by
 unfold ig
 split
 · split
   · exact Cz _ _ _ _ _ _ _ _ _ _
   · exact EB _ _ _ _ _ _ _ _ _ _
 · exact Fx _ _ _ _ _ _ _ _ _ _ _ _
 · exact zd _ _ _ _ _ _ _ _
theorem Cw (e0 e:TypeId)(b lo n:Nat)(st:St)(y:AV)(K:Upd→Option β):(jm e0 e b lo n st y K).bind f=jm e0 e b lo n st y fun u=>(K u).bind f:=by
 unfold jm
 split
 · simp only [aO,aJ]
 · rfl
theorem mO (t:TypeId)(x:AV)(st:St)(y:AV)(K:Upd→Option β):(me E t x st y K).bind f=me E t x st y fun u=>(K u).bind f:=by
 unfold me
 repeat' split
 all_goals first | rfl | simp only [aO,aJ,Cw]
theorem Cr (t:TypeId)(st:St)(x y:AV)(K:Upd→Option β):(jW E t st x y K).bind f=jW E t st x y fun u=>(K u).bind f:=by
 unfold jW
 repeat' split
 all_goals first | rfl | simp only [aO,aJ,eU,kq]
theorem BV (t:TypeId)(st:St)(K:Upd→Option β):(jX E t st K).bind f=jX E t st fun u=>(K u).bind f:=by
 unfold jX
 split
 · rfl
 · split
   · split
     · split
       · simp only [aO,aJ]
         congr 1
         repeat' split
         all_goals rfl
       · rfl
     · rfl
   · rfl
theorem I5 (t:TypeId)(x:AV)(K:Upd→Option β):(ES E t x K).bind f=ES E t x fun u=>(K u).bind f:=by
 unfold ES
 repeat' split
 all_goals rfl
theorem qa (place:Nat→Option (Nat×Ty)):∀(l:List (Nat×AV)) (z:List AC) (K:List AC→Option β),(buildK.fillK place l z K).bind f=buildK.fillK place l z fun u=>(K u).bind f
 | [],z,K=>rfl
 | (i,v)::r,z,K=>by
  simp only [buildK.fillK]
  split
  · simp only [hH,gP]
    congr 1;funext l;congr 1;funext z'
    exact qa place r z' K
  · rfl
theorem Co (t:TypeId)(parts:List (Nat×AV))(K:Upd→Option β):(buildK E t parts K).bind f=buildK E t parts fun u=>(K u).bind f:=by
 unfold buildK
 repeat' split
 all_goals first | rfl | simp only [eU,qa,d0]
theorem lY (te:Ty)(len:Nat):∀(l:List (Nat×AV)) (i:Nat) (K:Rows→Option β),(eI te len i l K).bind f=eI te len i l fun u=>(K u).bind f
 | [],i,K=>by simp only [eI,aO,aJ]
 | (j,v)::r,i,K=>by
  simp only [eI,aO,aJ,hH,kq]
  congr 1;congr 1;funext l;congr 1;funext row
  exact lY te len r (i+1) _
theorem ma (len:Nat):∀(l:List (Nat×AV)) (i:Nat) (K:List AC→Option β),(eK len i l K).bind f=eK len i l fun u=>(K u).bind f
 | [],i,K=>by simp only [eK,aO,aJ]
 | (j,v)::r,i,K=>by
  simp only [eK,aO,aJ]
  congr 1
  split
  · exact ma len r (i+1) _
  · exact ma len r (i+1) _
  · rfl
theorem rO (t:TypeId)(len:Nat)(parts:List (Nat×AV))(K:Upd→Option β):(fV E t len parts K).bind f=fV E t len parts fun u=>(K u).bind f:=by
 unfold fV
 split
 · rfl
 · split
   · split
     · simp only [aO,aJ]
       congr 1
       split
       · simp only [ma,d0]
       · simp only [lY,d0]
     · rfl
   · rfl
theorem uP (t:TypeId)(len cap:AV)(K:Upd→Option β):(gZ E t len cap K).bind f=gZ E t len cap fun u=>(K u).bind f:=by
 unfold gZ
 repeat' split
 all_goals first | rfl | simp only [aO,aJ,eU,kq,d0]
theorem lB (m:Bool):∀(l:List AV) (v:AV) (K:Upd→Option β),(dI m v l K).bind f=dI m v l fun u=>(K u).bind f
 | [],v,K=>by cases v<;>rfl
 | x::r,v,K=>by
  cases v with
  | one c=>
   cases c<;>try (simp [dI];done)
   cases x with
   | one d=>
    cases d<;>try (simp [dI];done)
    simp only [dI]
    exact lB m r _ _
   | _=>simp [dI]
  | _=>simp [dI]
theorem Al (t:TypeId)(parts:List (Nat×AV))(K:Upd→Option β):(jN E t parts K).bind f=jN E t parts fun u=>(K u).bind f:=by
 unfold jN
 repeat' split
 all_goals first | rfl | simp only [eU,qa,d0]
theorem iW (call:cQ)(sg:Sig)(g:FuncId)(args:List AV)(st:St)(K:Upd→Option β):(eT call sg g args st K).bind f=eT call sg g args st fun u=>(K u).bind f:=by
 unfold eT
 dsimp only
 simp only [kv,qH,l3]
 split
 · split
   · simp only [aO,aJ]
   · simp only [aO,aJ]
 · rfl
theorem CL (call:cQ)(sg:Sig)(g:FuncId)(args:List AV)(st:St)(K:Upd→Option β):(fL call sg g args st K).bind f=fL call sg g args st fun u=>(K u).bind f:=by
 unfold fL
 simp only [iW,aO,aJ]
theorem jD (call:cQ)(sg:Sig)(g:FuncId)(args:List AV)(st:St){u:Upd}(h:fL call sg g args st some=some u):
 ∃u1,eT call sg g args st some=some u1∧u1.nu=[]∧gI st.blk u1.wr=true∧u=⟨u1.val,none,[],[],u1.rd⟩:=by
 unfold fL at h
 have hn:=iW (f:=fun u=>cond (el u.nu&&gI st.blk u.wr) (some (⟨u.val,none,[],[],u.rd⟩:Upd)) none) call sg g args st some
 simp only [Option.bind_some]at hn
 rw [←hn]at h
 cases hc:eT call sg g args st some with
 | none=>rw [hc]at h;cases h
 | some u1=>
  rw [hc]at h
  simp only [Option.bind_some]at h
  cases hb:el u1.nu&&gI st.blk u1.wr with
  | false=>rw [hb]at h;cases h
  | true=>
   rw [hb]at h
   simp only [Bool.and_eq_true]at hb
   cases h
   refine⟨u1,rfl, ?_,hb.2,rfl⟩
   cases hnu:u1.nu with
   | nil=>rfl
   | cons a l=>rw [hnu]at hb;simp [el]at hb
theorem lE (call:cQ)(tk:List Nat)(sg:Option Sig)(o:Oper)(st:St)(K:Upd→Option β):(actK E call tk sg o st K).bind f=actK E call tk sg o st fun u=>(K u).bind f:=by
 unfold actK
 cases o.op<;>dsimp only
 case move x=>
  split
  · exact vP _ _ _ _ _ _
  · exact qF _ _ _ _
  · split<;>rfl
 case assign x=>
  split
  · exact vP _ _ _ _ _ _
  · exact qF _ _ _ _
  · split<;>rfl
 case pick c a b=>
  split
  · simp only [aO,d0]
  · rfl
 case alloc t=>
  split
  · exact BV _ _ _ _ _
  · split
    · simp only [eU]
    · rfl
 case box t x=>
  split
  · simp only [hH]
  · rfl
 case build t ps=>
  split
  · exact Al _ _ _ _ _
  · split<;>exact Co _ _ _ _ _
 case buildSlice t n ps=>
  split
  · split
    · exact CO _ _ _ _ _ _
    · rfl
  · exact rO _ _ _ _ _ _
 case load t p=>exact w7 _ _ _ _ _ _ _
 case store t p x=>
  split
  · exact yR _ _ _ _ _ _ _
  · split<;>exact xq _ _ _ _ _ _ _ _
 case nilCheck x=>split<;>rfl
 case binOp op t x y t2=>exact Jx _ _ _ _ _ _ _
 case unOp op t x=>exact Lr _ _ _ _
 case convert s d x=>simp only [uD,mT]
 case makeFunc fn first caps=>
  cases fn<;>dsimp only<;>try rfl
  split
  · split<;>rfl
  · rfl
 case makeSlice t l c=>
  split
  · exact Cr _ _ _ _ _ _ _
  · exact uP _ _ _ _ _ _
 case slice t x lo hi mx=>split<;>exact Cm _ _ _ _ _ _ _ _ _
 case fieldAddr s x g=>exact sz _ _ _ _ _ _
 case field s x g=>exact Cx _ _ _ _ _ _
 case indexAddr t x i=>exact ut _ _ _ _ _ _
 case index t x i=>exact BW _ _ _ _ _ _
 case extract x i=>
  split
  · split
    · split<;>rfl
    · rfl
  · rfl
 case call c=>
  cases c.callee<;>try dsimp only
  case value g=>
   split
   · split
     · split
       · exact CL _ _ _ _ _ _ _
       · exact iW _ _ _ _ _ _ _
     · rfl
   · rfl
  case builtin b=>
   cases b<;>try dsimp only
   case len=>split<;>first | exact I5 _ _ _ _ _ | rfl
   case append=>
    split
    · simp only [uD,jH]
    · rfl
   case copy=>
    split
    · simp only [uD,mO]
    · rfl
   case min=>split<;>first | exact lB _ _ _ _ _ | rfl
   case max=>split<;>first | exact lB _ _ _ _ _ | rfl
   all_goals rfl
  all_goals rfl
 all_goals rfl
theorem gW {E:Env}{call:cQ}{tk:List Nat}{sg:Option Sig}{o:Oper}{st:St}{K:Upd→Option β}{r:β}(h:actK E call tk sg o st K=some r):∃u,actK E call tk sg o st some=some u∧K u=some r:=by
 have:=lE E K call tk sg o st some
 simp only [Option.bind_some]at this
 rw [←this]at h
 cases e:actK E call tk sg o st some with
 | none=>rw [e]at h;cases h
 | some u=>rw [e]at h;exact⟨u,rfl,h⟩
end nat
end Go.Abs
namespace Go.Abs
variable {E:Env} {P:Program} {R:aG} {ρ:List Nat} {own:OI→aH} {N:Nat} {st:St} {a:Act} {w:World} {F:aG}
theorem oo (h:Rel E R ρ own N st a w):∀(l:List Operand),(evL st.fr l).length=l.length∧∀(i:Nat) (h1:i<(evL st.fr l).length) (h2:i<l.length),AVR E w (Fn own R) ρ (evL st.fr l)[i] (a.eval l[i]) (fun _=>none)
 | []=>⟨rfl,fun i h=>by simp [evL]at h⟩
 | x::r=>by
  obtain⟨h1,h2⟩:=oo h r
  refine⟨by simp [evL,h1],fun i g1 g2=> ?_⟩
  cases i with
  | zero=>exact(a9 h x).dis
  | succ i=>exact h2 i (by simpa [evL]using g1) (by simpa using g2)
theorem eM (h:Rel E R ρ own N st a w)(x:Option Operand):j0 E w (Fn own R) ρ (evO st.fr x) (x.map a.eval):=by
 cases x with
 | none=>trivial
 | some x=>exact⟨_,a9 h x⟩
theorem Ran.of {st':St}{dst:Option Nat}{s:Sem Value}(h:∃val w',s.run P w=.ok val w'∧After E R ρ own N w st' (a.put dst val) w'):
 Ran E R ρ own N w st' dst a ((do pure (Next.value (←s)):Sem Next).run P w):=by
 obtain⟨val,w',h1,h2⟩:=h
 exact .inl ⟨val,w',DH h1,h2⟩
theorem Ran.ofPure (h:Rel E R ρ own N st a w){dst:Option Nat}(hd:∀d,dst=some d→d<N){s:Sem Value}{u:Upd}(hs:∃v val,u=Upd.pure v∧s.run P w=.ok val w∧AVR E w (Fn own R) ρ v val (fun _=>none)):
 Ran E R ρ own N w (st.apply dst u) dst a ((do pure (Next.value (←s)):Sem Next).run P w):=by
 obtain⟨v,val,rfl,h1,h2⟩:=hs
 exact .of ⟨val,w,h1,h.pure0 hd h2⟩
theorem rY {own:OI→aH}{x:Operand}{q:List Nat}{B s:Nat}(h:ve own x q=some (B,s)):∃y,fw x=some y∧own (.tmp y q)=some (B,s):=by
 cases x with
 | tmp t=>exact⟨t,rfl,h⟩
 | _=>cases h
theorem kE (isMax:Bool):∀{l:List AV} {vs:List Value} {v:AV} {val:Value} {u:Upd},l.length=vs.length→(∀(i:Nat) (h1:i<l.length) (h2:i<vs.length),AVR E w F ρ l[i] vs[i] (fun _=>none))→AVR E w F ρ v val (fun _=>none)→
 dI isMax v l some=some u→∃v' val',u=Upd.pure v'∧(vs.foldlM (if isMax then Builtin.max2 else Builtin.min2) val).run P w=.ok val' w∧AVR E w F ρ v' val' (fun _=>none)
 | [],vs,v,val,u,hl,_,hv,h=>by
  cases vs with
  | nil=>
   unfold dI at h
   exact⟨v,val,ofK h,rfl,hv⟩
  | cons=>simp at hl
 | x::l,vs,v,val,u,hl,hr,hv,h=>by
  cases vs with
  | nil=>simp at hl
  | cons y vs=>
   have hx:=hr 0 (by simp) (by simp)
   simp only [List.getElem_cons_zero]at hx
   have key:∃k n k' n',v=.one (.int k n)∧x=.one (.int k' n'):=by
    cases v with
    | one c=>cases c with
     | int k n=>cases x with
      | one d=>cases d with
       | int k' n'=>exact⟨k,n,k',n',rfl,rfl⟩
       | _=>simp [dI]at h
      | _=>simp [dI]at h
     | _=>simp [dI]at h
    | _=>simp [dI]at h
   obtain⟨k,n,k',n',rfl,rfl⟩:=key
   simp only [dI]at h
   rw [hx.get_int,hv.get_int]
   obtain⟨v',val',g1,g2,g3⟩:=kE isMax (l:=l) (vs:=vs) (by simpa using hl) (fun i h1 h2=>hr (i+1) (by simpa using h1) (by simpa using h2)) AVR.int h
   refine⟨v',val',g1, ?_,g3⟩
   simp only [List.foldlM_cons,Sem.run_bind]
   cases isMax
   · simp only [Bool.false_eq_true,if_false,cond_false]at g2⊢
     simp only [Builtin.min2,Sem.run_pure,Result.andThen_ok]
     exact g2
   · simp only [if_true,cond_true]at g2⊢
     simp only [Builtin.max2,Sem.run_pure,Result.andThen_ok]
     exact g2
theorem xY {β:Type}(o:Bool)(e:TypeId)(rows:Rows)(lo hi mx:Option AV)(K:AV→Option β):dS o e rows lo hi mx K=(dS o e rows lo hi mx some).bind K:=by
 unfold dS
 cases lo<;>cases hi<;>cases mx<;>simp only [Bool.cond_eq_ite]<;>(repeat' split)<;>rfl
theorem xT {β:Type}(s:List UInt8)(lo hi:Option AV)(K:AV→Option β):gg s lo hi K=(gg s lo hi some).bind K:=by
 unfold gg
 cases lo<;>cases hi<;>simp only [Bool.cond_eq_ite]<;>(repeat' split)<;>rfl
theorem kS {β:Type}(e:TypeId)(b lo0 n:Nat)(c:Option Nat)(lo hi mx:Option AV)(K:AV→Option β):gr e b lo0 n c lo hi mx K=(gr e b lo0 n c lo hi mx some).bind K:=by
 rw [rq]
 rfl
theorem bind_some {α β:Type}{x:Option α}{f:α→Option β}{r:β}(h:x.bind f=some r):∃y,x=some y∧f y=some r:=by
 cases x with
 | none=>cases h
 | some y=>exact⟨y,rfl,h⟩
def tE :Op→Bool
 | .call c=>match c.callee with
  | .value _=>true
  | _=>false
 | _=>false
theorem uV {t e:TypeId}(hu:P.underlying t=some (.slice e)){x:Value}{lo hi mx:Option Value}:(Instr.sliceAt t x lo hi mx).run P w=(Instr.slice t x lo hi mx).run P w:=by
 simp only [Instr.sliceAt,Sem.run_bind,run_underlying hu,Result.andThen_ok]
theorem yM {t:TypeId}(hu:P.underlying t=some .string){x:Value}{lo hi mx:Option Value}:(Instr.sliceAt t x lo hi mx).run P w=(Instr.slice t x lo hi mx).run P w:=by
 simp only [Instr.sliceAt,Sem.run_bind,run_underlying hu,Result.andThen_ok]
theorem BQ {t:TypeId}{ps:List (Nat×AV)}{f:Upd→Upd}{u:Upd}(h:buildK E t ps (fun u=>some (f u))=some u):∃u0,buildK E t ps some=some u0∧u=f u0:=by
 have hfill:∀(place:Nat→Option (Nat×Ty)) (l:List (Nat×AV)) (z:List AC) (K:List AC→Option Upd) (g:Upd→Upd),buildK.fillK place l z (fun z=>(K z).map g)=(buildK.fillK place l z K).map g:=by
  intro place l
  induction l with
  | nil=>intro z K g;rfl
  | cons x r ih=>
   obtain⟨i,v⟩:=x
   intro z K g
   simp only [buildK.fillK]
   cases place i with
   | none=>rfl
   | some q=>
    obtain⟨off,tf⟩:=q
    dsimp only
    have hs:∀(xs l:List AC) (o:Nat) (K:List AC→Option Upd),eR l o xs (fun z=>(K z).map g)=(eR l o xs K).map g:=by
     intro xs
     induction xs with
     | nil=>intro l o K;cases l<;>cases o<;>rfl
     | cons x xs ihx=>
      intro l
      induction l with
      | nil=>intro o K;cases o<;>rfl
      | cons c l ihl=>
       intro o K
       cases o with
       | zero=>exact ihx l 0 _
       | succ o=>exact ihl o _
    unfold eF
    split
    · split
      · simp only [ih];exact hs _ _ _ _
      · rfl
    · cases Nat.beq (bI _) tf.size with
      | false=>rfl
      | true=>simp only [cond_true,ih];exact hs _ _ _ _
    · rfl
 have hz:∀(ks:List CK) (K:List AC→Option Upd) (g:Upd→Upd),eE ks (fun z=>(K z).map g)=(eE ks K).map g:=by
  intro ks
  induction ks with
  | nil=>intro K g;rfl
  | cons k ks ih=>
   intro K g
   simp only [eE]
   cases lZ k with
   | none=>rfl
   | some a=>exact ih _ _
 have key:buildK E t ps (fun u=>some (f u))=(buildK E t ps some).map f:=by
  unfold buildK
  have e:∀l:List AC,cd (.agg l) (fun u=>some (f u))=(cd (.agg l) some).map f:=fun l=>rfl
  split
  · split
    · simp only [e]
      rw [←hz]
      congr 1
      funext z
      exact hfill _ _ _ _ _
    · split
      · simp only [e]
        rw [←hz]
        congr 1
        funext z
        exact hfill _ _ _ _ _
      · rfl
    · rfl
  · rfl
 rw [key]at h
 cases hb:buildK E t ps some with
 | none=>rw [hb]at h;cases h
 | some u0=>rw [hb]at h;exact⟨u0,rfl,(Option.some.inj h).symm⟩
theorem BZ {t:TypeId}{ps:List (Nat×AV)}{u:Upd}(h:buildK E t ps some=some u):u=⟨u.val,none,[],[],[]⟩:=by
 have hfill:∀(place:Nat→Option (Nat×Ty)) (l:List (Nat×AV)) (z:List AC) (u:Upd),buildK.fillK place l z (fun l=>cd (.agg l) some)=some u→u=⟨u.val,none,[],[],[]⟩:=by
  intro place l
  induction l with
  | nil=>intro z u h;cases h;rfl
  | cons x r ih=>
   obtain⟨i,v⟩:=x
   intro z u h
   simp only [buildK.fillK]at h
   cases hp:place i with
   | none=>rw [hp]at h;cases h
   | some q=>
    obtain⟨off,tf⟩:=q
    rw [hp]at h
    obtain⟨l,_,h1⟩:=dj h
    obtain⟨_,h3⟩:=cc h1
    exact ih _ _ h3
 unfold buildK at h
 split at h<;>try (cases h;done)
 split at h<;>try (cases h;done)
 · obtain⟨zl,h1,_⟩:=cw h
   exact hfill _ _ _ _ h1
 · split at h<;>try (cases h;done)
   obtain⟨zl,h1,_⟩:=cw h
   exact hfill _ _ _ _ h1
theorem Bx {t:TypeId}{ps:List (Nat×AV)}{u:Upd}(h:jN E t ps some=some u):u=⟨u.val,none,[],[],[]⟩:=by
 have hfill:∀(place:Nat→Option (Nat×Ty)) (l:List (Nat×AV)) (z:List AC) (u:Upd),buildK.fillK place l z (fun l=>cd (.agg l) some)=some u→u=⟨u.val,none,[],[],[]⟩:=by
  intro place l
  induction l with
  | nil=>intro z u h;cases h;rfl
  | cons x r ih=>
   obtain⟨i,v⟩:=x
   intro z u h
   simp only [buildK.fillK]at h
   cases hp:place i with
   | none=>rw [hp]at h;cases h
   | some q=>
    obtain⟨off,tf⟩:=q
    rw [hp]at h
    obtain⟨l,_,h1⟩:=dj h
    obtain⟨_,h3⟩:=cc h1
    exact ih _ _ h3
 unfold jN at h
 split at h<;>try (cases h;done)
 split at h<;>try (cases h;done)
 obtain⟨zl,h1,_⟩:=cw h
 exact hfill _ _ _ _ h1
theorem Fp (G:Good P E)(h:Rel E R ρ own N st a w){call:cQ}{tk:List Nat}{sg:Option Sig}{o:Oper}(hc:tE o.op=false){u:Upd}(hu:actK E call tk sg o st some=some u)(hd:∀d,o.dst=some d→d<N):
 Ran E R ρ own N w (st.apply o.dst u) o.dst a ((execOp a.eval o).run P w):=by
 unfold actK at hu
 unfold execOp
 cases hop:o.op<;>simp only [hop]at hu<;>try (cases hu;done)
 case move x=>
  cases hf1:rS tk o.dst 1000000 with
  | true=>
   simp only [hf1]at hu
   exact .value (v:=a.eval x) (w':=w) rfl (tP h (a9 h x) hu hd)
  | false=>
  cases hf2:rS tk o.dst 2000000 with
  | true=>
   simp only [hf1,hf2]at hu
   exact .value (v:=a.eval x) (w':=w) rfl (oZ G h (a9 h x) hu hd)
  | false=>
  simp only [hf1,hf2]at hu
  cases ht:takes tk o.dst with
  | true=>
   simp only [ht]at hu
   cases hu
   refine .value (v:=a.eval x) (w':=w) rfl ?_
   cases x with
   | tmp t=>exact h.take hd (fC (h.fr t))
   | const v=>exact h.pure0 hd (fC (a9 h (.const v)))
   | global g=>exact h.pure0 hd (fC (a9 h (.global g)))
   | func f=>exact h.pure0 hd (fC (a9 h (.func f)))
  | false=>
   simp only [ht]at hu
   cases hu
   exact .value (v:=a.eval x) (w':=w) rfl (h.pure0 hd (fC (a9 h x).dis))
 case assign x=>
  cases hf1:rS tk o.dst 1000000 with
  | true=>
   simp only [hf1]at hu
   exact .value (v:=a.eval x) (w':=w) rfl (tP h (a9 h x) hu hd)
  | false=>
  cases hf2:rS tk o.dst 2000000 with
  | true=>
   simp only [hf1,hf2]at hu
   exact .value (v:=a.eval x) (w':=w) rfl (oZ G h (a9 h x) hu hd)
  | false=>
  simp only [hf1,hf2]at hu
  cases ht:takes tk o.dst with
  | true=>
   simp only [ht]at hu
   cases hu
   refine .value (v:=a.eval x) (w':=w) rfl ?_
   cases x with
   | tmp t=>exact h.take hd (fC (h.fr t))
   | const v=>exact h.pure0 hd (fC (a9 h (.const v)))
   | global g=>exact h.pure0 hd (fC (a9 h (.global g)))
   | func f=>exact h.pure0 hd (fC (a9 h (.func f)))
  | false=>
   simp only [ht]at hu
   cases hu
   exact .value (v:=a.eval x) (w':=w) rfl (h.pure0 hd (fC (a9 h x).dis))
 case pick c x y=>
  have hcr:=a9 h c
  split at hu<;>try (cases hu;done)
  rename_i t e
  rw [e]at hcr
  have hcv:=hcr.get_bool
  rcases FF hu with⟨rfl,hu⟩ | ⟨rfl,hu⟩
  · rw [ofK hu]
    exact .value (v:=a.eval x) (w':=w) (by simp [hcv,asBool]) (h.pure0 hd (a9 h x).dis)
  · rw [ofK hu]
    exact .value (v:=a.eval y) (w':=w) (by simp [hcv,asBool]) (h.pure0 hd (a9 h y).dis)
 case alloc t=>
  split at hu
  · exact .of (zv G h hu hd)
  · cases ht:E.tys t with
    | none=>simp [ht]at hu
    | some ty=>simp only [ht]at hu;exact .of (yH G h ht hu hd)
 case box t x=>
  cases ht:E.tys t with
  | none=>simp [ht]at hu
  | some ty=>
   simp only [ht]at hu
   cases htk:takes tk o.dst with
   | true=>
    simp only [htk,cond_true]at hu
    exact .of (wC G h ht (a9 h x) (fun q B s e=>rY e) hu hd)
   | false=>
    simp only [htk,cond_false]at hu
    exact .of (wC G h ht (a9 h x).dis (fun q B s e=>by cases e) hu hd)
 case build t parts=>
  have hbind:∀(ps:List (Nat×AV)) (x:Nat),buildK E t ps (fun u=>some (⟨u.val,some x,[],[],[]⟩:Upd))=some u→∃u0,buildK E t ps some=some u0∧u=⟨u0.val,some x,[],[],[]⟩:=fun ps x h=>BQ h
  obtain⟨val,h1,h2⟩:∃val,(Instr.build t (parts.toList.map fun(i,x)=>(i,a.eval x)).toArray).run P w=.ok val w∧After E R ρ own N w (st.apply o.dst u) (a.put o.dst val) w:=by
   split at hu
   · obtain⟨val,h1,h2⟩:=x7 G h (dis:=none) (kP h (uZ own none) false parts.toList) hu hd
     refine⟨val,h1, ?_⟩
     have:u=⟨u.val,none,[],[],[]⟩:=Bx hu
     rw [this];exact h2
   cases hft:ie tk st.fr parts.toList with
   | some x=>
    rw [hft]at hu
    obtain⟨u0,hu0,rfl⟩:=hbind _ _ hu
    obtain⟨c,hc⟩:=la hft
    exact rh G h (dis:=some x) (ja h hc parts.toList) hu0 hd
   | none=>
    rw [hft]at hu
    obtain⟨val,h1,h2⟩:=rh G h (dis:=none) (kP h (uZ own none) false parts.toList) hu hd
    refine⟨val,h1, ?_⟩
    have:u=⟨u.val,none,[],[],[]⟩:=BZ hu
    rw [this];exact h2
  rw [←List.map_toArray]at h1
  exact .of ⟨val,w,by simpa using h1,h2⟩
 case buildSlice t len parts=>
  split at hu
  · split at hu
    · rename_i hps
      obtain⟨val,w',h1,h2⟩:=Ad G h hu hd
      have hp0:parts= #[]:=by cases parts;simp at hps;subst hps;rfl
      subst hp0
      exact .of ⟨val,w',by simpa using h1,h2⟩
    · cases hu
  · obtain⟨val,w',h1,h2⟩:=pW G h (qi h parts.toList) hu hd
    rw [←List.map_toArray]at h1
    exact .of ⟨val,w',by simpa using h1,h2⟩
 case load t p=>
  obtain⟨val,h1,h2⟩:=tH G h (a9 h p) hu hd
  exact .of ⟨val,w,h1,h2⟩
 case store t p x=>
  have key:∃w',(Instr.storeAt t (a.eval p) (a.eval x)).run P w=.ok () w'∧After E R ρ own N w (st.apply o.dst u) (a.put o.dst undef) w':=by
   split at hu
   · exact xj G h (a9 h p) (a9 h x).dis hu hd
   split at hu
   · exact rF G h (a9 h p) (a9 h x) (fun q B s e=>rY e) hu hd
   · exact rF G h (a9 h p) (a9 h x).dis (fun q B s e=>by cases e) hu hd
  obtain⟨w',h1,h2⟩:=key
  exact .inr ⟨w',by simp [h1],h2⟩
 case nilCheck x=>
  have hx:=a9 h x
  split at hu<;>try (cases hu;done)
  · rename_i b k e
    rw [e]at hx
    obtain⟨B,hB,hv⟩:=hx.get_one.inv_ptr
    rw [ofK hu]
    exact .value (v:=.pointer (some ⟨B,k,none⟩)) (w':=w) (by simp [hv]) (h.pure0 hd (.of (.ptr _ _ _ hB)))
  · rename_i e' r k e
    rw [e]at hx
    have hx1:=hx.get_one
    generalize hv:a.eval x=v at hx1
    generalize ve own x []=q at hx1
    cases hx1 with
    | eptr _ _ _ te B off g he hk hm hr=>
     rw [ofK hu]
     exact .value (v:=.pointer (some ⟨B,off+k,none⟩)) (w':=w) (by simp [hv]) (h.pure0 hd (.of (.eptr _ _ _ te B off g he hk hm hr)))
  · rename_i c e
    rw [e]at hx
    have hx1:=hx.get_one
    generalize hv:a.eval x=v at hx1
    generalize ve own x []=q at hx1
    cases hx1 with
    | aptr _ B off val hm hr=>
     rw [ofK hu]
     exact .value (v:=.pointer (some ⟨B,off,none⟩)) (w':=w) (by simp [hv]) (h.pure0 hd (.of (.aptr _ B off val hm hr)))
 case binOp op t x y t2=>exact .ofPure h hd (Fj G op t x y (a9 h x) (a9 h y) hu)
 case unOp op t x=>exact .ofPure h hd (Js (a9 h x) hu)
 case convert src dst x=>
  obtain⟨y',rd,hu1,hs⟩:=nQ G h (a9 h x) hu
  have hn:=mT E (fun u=>some (u.reads rd)) src dst y' some
  simp only [Option.bind_some]at hn
  rw [←hn]at hu1
  obtain⟨u0,hu2,hu3⟩:=bind_some hu1
  cases hu3
  obtain⟨F0,p,hv⟩:=hs.any
  exact .of (BD G h hv hu2 hd)
 case makeFunc fn first caps=>
  cases fn<;>simp only at hu<;>try (cases hu;done)
  rename_i f
  cases hf:first.toList with
  | cons y ys=>simp [hf]at hu
  | nil=>
   simp only [hf]at hu
   have hf0:first= #[]:=by simpa using hf
   cases hcp:actK.capsOf (evL st.fr caps.toList)with
   | none=>simp [hcp]at hu
   | some l=>
    simp only [hcp]at hu
    have hcaps:∀{vs:List AV} {l:List AC},actK.capsOf vs=some l→vs=l.map AV.one:=by
     intro vs
     induction vs with
     | nil=>intro l hl;simp [actK.capsOf]at hl;subst hl;rfl
     | cons v vs ih=>
      intro l hl
      cases v<;>simp only [actK.capsOf]at hl<;>try (cases hl;done)
      cases h3:actK.capsOf vs with
      | none=>simp [h3]at hl
      | some l'=>simp only [h3]at hl;cases hl;simp [ih h3]
    have hev:=hcaps hcp
    obtain⟨g1,g2⟩:=oo h caps.toList
    rw [hev]at g1 g2
    simp only [List.length_map]at g1
    rw [ofK hu]
    refine .value (v:=.func (.func f) #[] (caps.map a.eval)) (w':=w) (by simp [Instr.makeFunc,hf0]) (h.pure0 hd (.of ?_))
    have:caps.map a.eval=((List.range l.length).map fun i=>a.eval (caps.toList.getD i (.const undef))).toArray:=by
     apply Array.ext'
     simp only [Array.toList_map]
     apply List.ext_getElem
     · simp [g1]
     · intro i h1 h2
       have h5:i<caps.size:=by simpa using h1
       simp [h5]
    rw [this]
    refine .fn f l _ fun i hi=> ?_
    have h5:i<caps.toList.length:=by omega
    have g3:=g2 i (by simpa using hi) h5
    simp only [List.getElem_map]at g3
    have:=g3.get_one
    simpa [List.getD,List.getElem?_eq_getElem h5]using this
 case makeSlice t l c=>
  split at hu
  · exact .of (Bj G h (a9 h l) (a9 h c) hu hd)
  · exact .of (rM G h (a9 h l) (a9 h c) hu hd)
 case slice t x lo hi mx=>
  have main:∀{vx:AV} {pv:aS} {dis:Option Nat},AVR E w (Fn own R) ρ vx (a.eval x) pv→(∀p B s,pv p=some (B,s)→∃y,dis=some y∧own (.tmp y p)=some (B,s))→nR E t dis vx (evO st.fr lo) (evO st.fr hi) (evO st.fr mx) some=some u→
   ∃val w',(Instr.sliceAt t (a.eval x) (lo.map a.eval) (hi.map a.eval) (mx.map a.eval)).run P w=.ok val w'∧After E R ρ own N w (st.apply o.dst u) (a.put o.dst val) w':=by
   intro vx pv dis hvx hpv hs
   unfold nR at hs
   cases ht:E.tys t with
   | none=>simp [ht]at hs
   | some ty=>
    simp only [ht]at hs
    have hT:=G.ty t ty ht
    split at hs<;>try (cases hs;done)
    · rename_i ow e rows
      cases hde:ty.desc<;>simp only [hde]at hs<;>try (cases hs;done)
      rename_i e'
      cases he0:E.tys e with
      | none=>simp [he0]at hs
      | some te=>
      simp only [he0]at hs
      obtain⟨hb,hs1⟩:=ab hs
      clear hs
      have:=Nat.eq_of_beq_eq_true hb
      subst this
      have hut:=bl hT hde
      rw [xY]at hs1
      obtain⟨v,hs2,hs3⟩:=bind_some hs1
      cases hs3
      obtain⟨val,oV,g1,g2,g3⟩:=x6 G hut he0 hvx (eM h lo) (eM h hi) (eM h mx) hs2
      refine⟨val,w,by rw [uV hut];exact g1, ?_⟩
      have hoV:∀p B s,oV p=some (B,s)→∃y,dis=some y∧own (.tmp y p)=some (B,s):=fun p B s e=>by
       rcases g3 p with g | g
       · rw [g]at e;cases e
       · rw [g]at e;exact hpv p B s e
      exact⟨ρ,_,fun _ _ h=>h,h.put (dis:=dis) (oV:=oV) (T:=fun _ _=>False) hd (World.keptBut_refl _ _) (fun _ _ h=>h.elim) (fun p B t' e=> .inl (by obtain⟨y,h1,h2⟩:=hoV p B t' e;exact⟨y,p,t',h1,h2,Nat.le_refl _⟩))
       (fun p p' B t t' e e'=>by
         obtain⟨y,_,h2⟩:=hoV _ _ _ e
         obtain⟨y',_,h2'⟩:=hoV _ _ _ e'
         have:=h.inj _ _ _ _ _ h2 h2'
         injection this) fun hK=>g2.keep hK (fun _ _ h=>h) fun p B t e j _ hh=>hh⟩
    · rename_i s
      split at hs<;>try (cases hs;done)
      rename_i hde hmx
      rw [xT]at hs
      obtain⟨v,hs2,hs3⟩:=bind_some hs
      have hut:=gp hT hde
      have hmx0:mx=none:=by cases mx<;>simp [evO]at hmx<;>rfl
      subst hmx0
      obtain⟨val,g1,g2⟩:=yj hut (eM h lo) (eM h hi) hs2
      rw [ofK hs3]
      refine⟨val,w, ?_,h.pure0 hd g2⟩
      rw [yM hut,hvx.get_str]
      exact g1
    · rename_i e b n
      cases hde:ty.desc<;>simp only [hde]at hs<;>try (cases hs;done)
      obtain⟨hb,hs1⟩:=ab hs
      clear hs
      have:=Nat.eq_of_beq_eq_true hb
      subst this
      obtain⟨hn,hs2⟩:=ab hs1
      clear hs1
      rw [kS]at hs2
      obtain⟨v,hs3,hs4⟩:=bind_some hs2
      obtain⟨val,g1,g2⟩:=ll (P:=P) G hvx (eM h lo) (eM h hi) (eM h mx) ht hs3 (.inl ⟨hde,.inl ⟨rfl,rfl,rfl,mM hn⟩⟩)
      rw [ofK hs4]
      exact⟨val,w,g1,h.pure0 hd g2⟩
    · rename_i e b lo0 n c
      cases hde:ty.desc<;>simp only [hde]at hs<;>try (cases hs;done)
      obtain⟨hb,hs2⟩:=ab hs
      clear hs
      have:=Nat.eq_of_beq_eq_true hb
      subst this
      rw [kS]at hs2
      obtain⟨v,hs3,hs4⟩:=bind_some hs2
      obtain⟨val,g1,g2⟩:=ll (P:=P) G hvx (eM h lo) (eM h hi) (eM h mx) ht hs3 (.inl ⟨hde,.inr rfl⟩)
      rw [ofK hs4]
      exact⟨val,w,g1,h.pure0 hd g2⟩
    · rename_i e b n
      cases hde:ty.desc<;>simp only [hde]at hs<;>try (cases hs;done)
      obtain⟨hb,hs2⟩:=ab hs
      clear hs
      rw [Bool.and_eq_true]at hb
      have:=Nat.eq_of_beq_eq_true hb.1
      subst this
      have:=Nat.eq_of_beq_eq_true hb.2
      subst this
      rw [kS]at hs2
      obtain⟨v,hs3,hs4⟩:=bind_some hs2
      obtain⟨val,g1,g2⟩:=ll (P:=P) G hvx (eM h lo) (eM h hi) (eM h mx) ht hs3 (.inr ⟨hde,rfl,rfl,rfl⟩)
      rw [ofK hs4]
      exact⟨val,w,g1,h.pure0 hd g2⟩
  split at hu
  · exact .of (main (a9 h x) (fun p B s e=>rY e) hu)
  · exact .of (main (a9 h x).dis (fun p B s e=>by cases e) hu)
 case fieldAddr s x f=>exact .ofPure h hd (rG G (a9 h x) hu)
 case field s x f=>exact .ofPure h hd (zh G (a9 h x) hu)
 case indexAddr t x i=>exact .ofPure h hd (rQ G (a9 h x) (a9 h i) hu)
 case index t x i=>exact .ofPure h hd (At G (a9 h x) (a9 h i) hu)
 case extract x i=>
  have hx:=a9 h x
  split at hu<;>try (cases hu;done)
  rename_i l e
  rw [e]at hx
  generalize hv:a.eval x=val at hx
  generalize hq:ve own x=q at hx
  cases hx with
  | tup _ g _ hr ho=>
   cases hn:nth l i with
   | none=>simp [hn]at hu
   | some v=>
    simp only [hn]at hu
    have hlt:=dE hn
    have hvi:v=l[i]:=by rw [aY,List.getElem?_eq_getElem hlt]at hn;exact(Option.some.inj hn).symm
    subst hvi
    have hri:=hr i hlt
    have hrun:(do pure (Next.value (←Instr.extract (a.eval x) i)):Sem Next).run P w=.ok (.value (g i)) w:=by
     rw [hv]
     simp [Instr.extract,hlt]
    cases htk:takes tk o.dst with
    | true=>
     simp only [htk]at hu
     cases hu
     refine .value hrun ?_
     cases x with
     | tmp t=>
      simp only [fw]
      refine h.takePart (fun p=>i::p) (fun p q e=>by injection e) hd (fun p=> .inr ?_) hri
      rw [←hq];rfl
     | const v=>exact h.pure0 hd (hri.none_of fun p=>by rw [←hq];rfl)
     | global g=>exact h.pure0 hd (hri.none_of fun p=>by rw [←hq];rfl)
     | func f=>exact h.pure0 hd (hri.none_of fun p=>by rw [←hq];rfl)
    | false=>
     simp only [htk]at hu
     rw [ofK hu]
     exact .value hrun (h.pure0 hd hri.dis)
 case call c=>
  unfold tE at hc
  rw [hop]at hc
  cases hcal:c.callee with
  | value g=>simp [hcal]at hc
  | invoke r m=>simp [hcal]at hu
  | builtin bi=>
   have hrun:∀{s:Sem Value} {val:Value} {w':World},(∀cs,builtin bi c.argTypes o.type cs (c.args.map a.eval)=(do pure (Next.value (←s))))→s.run P w=.ok val w'→
    (do let d ←resolve a.eval c o.type;invoke d.target d.args:Sem Next).run P w=.ok (.value val) w':=by
    intro s val w' h1 h2
    simp only [resolve,hcal,invoke,Sem.run_bind,Sem.run_pure,Result.andThen_ok]
    rw [h1]
    exact DH h2
   simp only [hcal]at hu
   cases bi<;>simp only at hu<;>try (cases hu;done)
   case append=>
    split at hu<;>try (cases hu;done)
    rename_i t t2 x y h1 h2
    have hat:c.argTypes= #[t,t2]:=by rw [←Array.toArray_toList (xs:=c.argTypes),h1]
    have har:c.args= #[x,y]:=by rw [←Array.toArray_toList (xs:=c.args),h2]
    obtain⟨y',rd,hu1,hsy⟩:=nQ G h (a9 h y).dis hu
    clear hu
    have hn:=jH E (fun u=>some (u.reads rd)) t t2 (fw x) (ev st.fr x) st y' some
    simp only [Option.bind_some]at hn
    rw [←hn]at hu1
    obtain⟨u0,hu2,hu3⟩:=bind_some hu1
    cases hu3
    clear hu1 hn
    have hmsl:(∃e b n,ev st.fr x=.one (.msl e b n)∧((∃j k,y'=.one (.int j k)∧jg E t t2 e b n st k some=some u0)∨md E t t2 e b n st y' some=some u0))∨(∃e b lo n c,ev st.fr x=.one (.win e b lo n (some c))∧mj E t t2 e b lo n c st y' some=some u0)∨
     mD E t t2 (fw x) (ev st.fr x) y' some=some u0:=by
     unfold ig at hu2
     split at hu2
     · rename_i e b n hev
       split at hu2
       · rename_i j k;exact .inl ⟨e,b,n,hev,.inl ⟨j,k,rfl,hu2⟩⟩
       · exact .inl ⟨e,b,n,hev,.inr hu2⟩
     · rename_i e b lo n c hev;exact .inr (.inl ⟨e,b,lo,n,c,hev,hu2⟩)
     · exact .inr (.inr hu2)
    clear hu2
    rcases hmsl with⟨e,b,n,hev,⟨j,k,rfl,hu⟩ | hu⟩ | ⟨e,b,lo,n,c',hev,hu⟩ | hu
    · have hx:=a9 h x
      rw [hev]at hx
      obtain⟨F0,p0,hy0⟩:=hsy.any
      have hyi:=hy0.get_int
      obtain⟨val,w',g1,g2⟩:=yP (ty0:=o.type) (vy:=.int j k) (py:=fun _=>none) G h hx (.of (.int j k)) hu hd
      rw [←hyi]at g1
      exact .value (hrun (s:=Builtin.append_ #[t,t2] o.type #[a.eval x,a.eval y]) (fun cs=>by rw [hat,har];simp [builtin]) g1) g2
    · have hx:=a9 h x
      rw [hev]at hx
      obtain⟨val,w',g1,g2⟩:=BT (ty0:=o.type) G h hx hsy hu hd
      exact .value (hrun (s:=Builtin.append_ #[t,t2] o.type #[a.eval x,a.eval y]) (fun cs=>by rw [hat,har];simp [builtin]) g1) g2
    · have hx:=a9 h x
      rw [hev]at hx
      obtain⟨val,w',g1,g2⟩:=BR (ty0:=o.type) G h hx hsy hu hd
      exact .value (hrun (s:=Builtin.append_ #[t,t2] o.type #[a.eval x,a.eval y]) (fun cs=>by rw [hat,har];simp [builtin]) g1) g2
    unfold mD at hu
    cases ht:E.tys t with
    | none=>simp [ht]at hu
    | some ty=>cases ht2:E.tys t2 with
     | none=>simp [ht,ht2]at hu
     | some ty2=>
      simp only [ht,ht2]at hu
      obtain⟨hsrc,hu⟩:=ab hu
      cases hde:ty.desc<;>simp only [hde]at hu<;>try (cases hu;done)
      rename_i e
      cases he:E.tys e with
      | none=>simp [he]at hu
      | some te=>
       simp only [he]at hu
       obtain⟨hby,hu⟩:=ab hu
       have hby:=Nat.le_of_ble_eq_true hby
       have hut:=bl (G.ty _ _ ht) hde
       obtain⟨d2,hd2,hd2'⟩:∃d2,P.underlying t2=some d2∧((∃e2,d2=.slice e2)∨d2=.string):=by
        cases hd2:ty2.desc<;>rw [hd2]at hsrc<;>simp [TD.source]at hsrc
        · exact⟨_,gp (G.ty _ _ ht2) hd2,.inr rfl⟩
        · exact⟨_,bl (G.ty _ _ ht2) hd2,.inl ⟨_,rfl⟩⟩
       have hx:AVR E w (Fn own R) ρ (yA e (ev st.fr x)) (a.eval x) (ve own x):=by
        have:=a9 h x
        unfold yA
        split
        · rename_i e1
          rw [e1]at this
          cases this with
          | one _ _ _ h3 h4=>
           refine .one _ _ _ ?_ h4
           generalize ve own x []=q at h3
           generalize a.eval x=vx at h3
           cases h3
           exact .full _ _ _ _ (.empty _ _ _)
        · exact this
       have hown:∀B s,ve own x []=some (B,s)→∃z,fw x=some z∧own (.tmp z [])=some (B,s):=fun B s e=>rY e
       have fin:∀{rows ys:Rows} {new:List Value},AR E w (Fn own R) ρ (.sl true e rows) (a.eval x) (ve own x [])→Src P E w (Fn own R) te.size te.kinds (a.eval y) ys new→rows.length+ys.length≤4294967296→u0=⟨.one (.sl true e (rows++ys)),fw x,[],[],[]⟩→
        Ran E R ρ own N w (st.apply o.dst (u0.reads rd)) o.dst a ((do let d ←resolve a.eval c o.type;invoke d.target d.args:Sem Next).run P w):=by
        intro rows ys new h3 h4 h5 h6
        obtain⟨val,w',g1,g2⟩:=EN (ty0:=o.type) (rd:=[]) G h hut he hby hd2 hd2' h3 h4 h5 hown hd
        rw [h6]
        exact .value (hrun (s:=Builtin.append_ #[t,t2] o.type #[a.eval x,a.eval y]) (fun cs=>by rw [hat,har];simp [builtin]) g1) g2
       generalize hxv:yA e (ev st.fr x)=xv at hx hu
       generalize hyv:y'=yv at hsy hu
       split at hu<;>try (cases hu;done)
       · rename_i e' rows o2 e'' ys
         obtain⟨hb,hu1⟩:=ab hu
         obtain⟨hf,hu2⟩:=ab hu1
         clear hu hu1
         simp only [Bool.and_eq_true]at hb
         have e1:=Nat.eq_of_beq_eq_true hb.1
         have e2:=Nat.eq_of_beq_eq_true hb.2
         clear hb
         subst e1 e2
         obtain⟨new,hs⟩:=hsy.src (P:=P) G he
         exact fin hx.get_one hs (kU hf) (Option.some.inj hu2).symm
       · rename_i e' rows
         obtain⟨hb,hu1⟩:=ab hu
         obtain⟨hf,hu2⟩:=ab hu1
         clear hu hu1
         have e1:=Nat.eq_of_beq_eq_true hb
         clear hb
         subst e1
         obtain⟨F0,p0,hy⟩:=hsy.any
         have hy1:=hy.get_one
         generalize hyy:a.eval y=vy at hy1
         generalize p0 []=q0 at hy1
         cases hy1
         exact fin (ys:=[]) (new:=[]) hx.get_one (by rw [hyy];exact J3) (by have:=kU hf;simpa using this) (by rw [List.append_nil];exact(Option.some.inj hu2).symm)
       · rename_i e' rows s
         cases hdt:te.desc<;>simp only [hdt]at hu<;>try (cases hu;done)
         rename_i k
         cases k<;>simp only at hu<;>try (cases hu;done)
         obtain⟨hb,hu1⟩:=ab hu
         obtain⟨hf,hu2⟩:=ab hu1
         clear hu hu1
         have e1:=Nat.eq_of_beq_eq_true hb
         clear hb
         subst e1
         obtain⟨new,hs⟩:=Mg (P:=P) (w:=w) (F:=Fn own R) G he hdt s
         have hlen:(bK s).length=s.length:=by simp [fO]
         obtain⟨F0,p0,hy⟩:=hsy.any
         exact fin hx.get_one (by rw [hy.get_str];exact hs) (by rw [hlen];exact kU hf) (Option.some.inj hu2).symm
   case copy=>
    split at hu<;>try (cases hu;done)
    rename_i t t2 x y h1 h2
    have hat:c.argTypes= #[t,t2]:=by rw [←Array.toArray_toList (xs:=c.argTypes),h1]
    have har:c.args= #[x,y]:=by rw [←Array.toArray_toList (xs:=c.args),h2]
    obtain⟨y',rd,hu1,hsy⟩:=nQ G h (a9 h y).dis hu
    have hn:=mO E (fun u=>some (u.reads rd)) t (ev st.fr x) st y' some
    simp only [Option.bind_some]at hn
    rw [←hn]at hu1
    obtain⟨u0,hu2,hu3⟩:=bind_some hu1
    cases hu3
    obtain⟨val,w',g1,g2⟩:=Cl (t2:=t2) (ty0:=o.type) G h (a9 h x) hsy hu2 hd
    exact .value (hrun (s:=Builtin.copy_ #[t,t2] o.type #[a.eval x,a.eval y]) (fun cs=>by rw [hat,har];simp [builtin]) g1) g2
   case len=>
    split at hu<;>try (cases hu;done)
    rename_i t x h1 h2
    have hat:c.argTypes= #[t]:=by rw [←Array.toArray_toList (xs:=c.argTypes),h1]
    have har:c.args= #[x]:=by rw [←Array.toArray_toList (xs:=c.args),h2]
    obtain⟨v,val,rfl,g1,g2⟩:=FA (ty0:=o.type) G (a9 h x) hu
    exact .value (hrun (s:=Builtin.len_ #[t] o.type #[a.eval x]) (fun cs=>by rw [hat,har];simp [builtin]) g1) (h.pure0 hd g2)
   case max=>
    obtain⟨g1,g2⟩:=oo h c.args.toList
    cases hev:evL st.fr c.args.toList with
    | nil=>simp [hev]at hu
    | cons v r=>
     simp only [hev]at hu
     rw [hev]at g1 g2
     cases hcl:c.args.toList with
     | nil=>rw [hcl]at g1;simp at g1
     | cons x xs=>
      rw [hcl]at g1
      simp only [hcl]at g2
      obtain⟨v',val',k1,k2,k3⟩:=kE (P:=P) true (l:=r) (vs:=xs.map a.eval) (by simpa using g1) (fun i h1 h2=>by
       have:=g2 (i+1) (by simpa using h1) (by simpa using h2)
       simpa using this) (g2 0 (by simp) (by simp)) hu
      have har:c.args=(x::xs).toArray:=by rw [←hcl]
      rw [k1]
      exact .value (hrun (s:=Builtin.max_ c.argTypes o.type (c.args.map a.eval)) (fun cs=>rfl) (by rw [har];simpa [Builtin.max_]using k2)) (h.pure0 hd k3)
   case min=>
    obtain⟨g1,g2⟩:=oo h c.args.toList
    cases hev:evL st.fr c.args.toList with
    | nil=>simp [hev]at hu
    | cons v r=>
     simp only [hev]at hu
     rw [hev]at g1 g2
     cases hcl:c.args.toList with
     | nil=>rw [hcl]at g1;simp at g1
     | cons x xs=>
      rw [hcl]at g1
      simp only [hcl]at g2
      obtain⟨v',val',k1,k2,k3⟩:=kE (P:=P) false (l:=r) (vs:=xs.map a.eval) (by simpa using g1) (fun i h1 h2=>by
       have:=g2 (i+1) (by simpa using h1) (by simpa using h2)
       simpa using this) (g2 0 (by simp) (by simp)) hu
      have har:c.args=(x::xs).toArray:=by rw [←hcl]
      rw [k1]
      exact .value (hrun (s:=Builtin.min_ c.argTypes o.type (c.args.map a.eval)) (fun cs=>rfl) (by rw [har];simpa [Builtin.min_]using k2)) (h.pure0 hd k3)
end Go.Abs
namespace Go.Abs
variable {E:Env} {P:Program} {R:aG} {ρ:List Nat} {own:OI→aH} {N:Nat} {st:St} {a:Act} {w:World} {F:aG}
theorem gQ :∀{l:List Nat} {b i j:Nat},dY l b i=some j→i≤j∧nth l (j - i)=some b
 | [],_,_,_,h=>by cases h
 | x::r,b,i,j,h=>by
  simp only [dY]at h
  by_cases e:x=b
  · subst e
    simp only [co,cond_true,Option.some.injEq]at h
    subst h
    simp [nth]
  · simp only [dH e,cond_false]at h
    obtain⟨h1,h2⟩:=gQ h
    refine⟨by omega, ?_⟩
    have:j - i=(j - (i+1))+1:=by omega
    rw [this];exact h2
theorem lh :∀{l:List Nat} {b:Nat} (i:Nat),b∈l→∃j,dY l b i=some j
 | x::r,b,i,h=>by
  simp only [dY]
  by_cases e:x=b
  · subst e;exact⟨i,by simp only [co,cond_true]⟩
  · simp only [dH e,cond_false]
    exact lh (i+1) ((List.mem_cons.1 h).resolve_left (Ne.symm e))
theorem eO {α:Type}{l:List α}{i:Nat}{b:α}(h:nth l i=some b):b∈l:=by
 rw [aY]at h;exact List.mem_of_getElem? h
theorem yf {l:List Nat}(hl:l.Nodup){i j b:Nat}(h1:nth l i=some b)(h2:nth l j=some b):i=j:=by
 rw [aY]at h1 h2
 obtain⟨a1,a2⟩:=List.getElem?_eq_some_iff.1 h1
 obtain⟨b1,b2⟩:=List.getElem?_eq_some_iff.1 h2
 rcases Nat.lt_trichotomy i j with h | h | h
 · exact absurd (a2.trans b2.symm) (List.pairwise_iff_getElem.1 hl i j a1 b1 h)
 · exact h
 · exact absurd (b2.trans a2.symm) (List.pairwise_iff_getElem.1 hl j i b1 a1 h)
theorem Fm {l:List Nat}(hl:l.Nodup){i b:Nat}(h:nth l i=some b):dY l b 0=some i:=by
 obtain⟨j,hj⟩:=lh 0 (eO h)
 obtain⟨_,h2⟩:=gQ hj
 rw [hj]
 congr 1
 exact yf hl h2 h
theorem jO (blk:List Block):∀(n:Nat) (todo seen:List Nat),seen.Nodup→(dQ blk n todo seen).Nodup
 | 0,_,_,h=>by simpa [dQ]using h
 | n+1,[],_,h=>by simpa [dQ]using h
 | n+1,b::todo,seen,h=>by
  simp only [dQ]
  cases hm:dF seen b with
  | true=>exact jO blk n _ _ h
  | false=>
   refine jO blk n _ _ ?_
   rw [ba]
   refine List.nodup_append.2 ⟨h,by simp,fun x hx y hy e=> ?_⟩
   simp only [List.mem_singleton]at hy
   subst hy;subst e
   rw [←pB,hm]at hx
   cases hx
theorem range0_mem :∀{n i x:Nat},x∈bE i n↔i≤x∧x<i+n
 | 0,i,x=>by simp [bE]
 | n+1,i,x=>by
  simp only [bE,List.mem_cons,range0_mem (n:=n)]
  omega
theorem dn :∀{n i:Nat},(bE i n).length=n
 | 0,_=>rfl
 | n+1,i=>by simp [bE,dn (n:=n)]
theorem oS :∀{n i:Nat},(bE i n).Nodup
 | 0,_=>by simp [bE]
 | n+1,i=>by
  simp only [bE,List.nodup_cons,oS (n:=n),and_true]
  rw [range0_mem];omega
theorem fS :∀{n i k:Nat},k<n→nth (bE i n) k=some (i+k)
 | n+1,i,0,_=>by simp [bE,nth]
 | n+1,i,k+1,h=>by
  simp only [bE,nth]
  rw [fS (by omega)]
  congr 1;omega
theorem nM :∀{n i x:Nat} {l:List Nat},x∈gY l i n→i≤x∧x<i+n
 | 0,i,x,l,h=>by simp [gY]at h
 | n+1,i,x,l,h=>by
  simp only [gY]at h
  have:x=i∨x∈gY l (i+1) n:=by
   cases hm:dF l i<;>simp [hm]at h
   · exact .inr h
   · exact h
  rcases this with rfl | h
  · omega
  · have:=nM h;omega
theorem li :∀{n i:Nat} {l:List Nat},(gY l i n).Nodup
 | 0,i,l=>by simp [gY]
 | n+1,i,l=>by
  simp only [gY]
  cases dF l i with
  | false=>exact li
  | true=>
   simp only [cond_true,List.nodup_cons,li,and_true]
   intro h
   have:=nM h
   omega
theorem mC :∀{l:List Nat} {n x:Nat},x∈lr l n→x∈l∧n≤x
 | [],n,x,h=>by simp [lr]at h
 | y::r,n,x,h=>by
  simp only [lr]at h
  cases hb:Nat.ble n y with
  | false=>
   simp only [hb,cond_false]at h
   obtain⟨h1,h2⟩:=mC h
   exact⟨List.mem_cons_of_mem _ h1,h2⟩
  | true=>
   simp only [hb,cond_true,List.mem_cons]at h
   rcases h with rfl | h
   · exact⟨List.mem_cons_self,Nat.le_of_ble_eq_true hb⟩
   · obtain⟨h1,h2⟩:=mC h
     exact⟨List.mem_cons_of_mem _ h1,h2⟩
theorem qL :∀{l:List Nat} {n:Nat},l.Nodup→(lr l n).Nodup
 | [],n,_=>by simp [lr]
 | y::r,n,h=>by
  simp only [lr]
  have hr:=qL (n:=n) (List.nodup_cons.1 h).2
  cases Nat.ble n y with
  | false=>exact hr
  | true=>
   simp only [cond_true,List.nodup_cons,hr,and_true]
   intro hm
   exact(List.nodup_cons.1 h).1 (mC hm).1
theorem vT {l:List Nat}{n:Nat}(hl:l.Nodup)(hn:∀x∈l,n≤x):(app (bE 0 n) l).Nodup:=by
 rw [ba]
 refine List.nodup_append.2 ⟨oS,hl,fun x hx y hy e=> ?_⟩
 have:=range0_mem.1 hx
 have:=hn y hy
 omega
theorem iE {μ:Nat→Option Nat}:∀{l l':List AC},mr μ l=some l'→l'.length=l.length∧∀(i:Nat) (h:i<l.length) (h':i<l'.length),l[i].remap μ=some l'[i]
 | [],l',h=>by simp [mr]at h;subst h;simp
 | c::r,l',h=>by
  simp only [mr]at h
  split at h
  · rename_i c' r' h1 h2
    simp at h;subst h
    obtain⟨g1,g2⟩:=iE h2
    refine⟨by simp [g1],fun i hi hi'=> ?_⟩
    cases i with
    | zero=>exact h1
    | succ i=>exact g2 i (by simpa using hi) (by simpa using hi')
  · cases h
theorem AR.remap {ρ':List Nat}{μ:Nat→Option Nat}(hμ:∀b b' B,μ b=some b'→nth ρ b=some B→nth ρ' b'=some B){c:AC}{v:Value}{o:aH}(h:AR E w F ρ c v o):
 ∀{c':AC},c.remap μ=some c'→AR E w F ρ' c' v o:=by
 induction h with
 | int k n=>intro c' h;simp [AC.remap]at h;subst h;exact .int k n
 | bool b=>intro c' h;simp [AC.remap]at h;subst h;exact .bool b
 | str s=>intro c' h;simp [AC.remap]at h;subst h;exact .str s
 | sl e rows v hh=>intro c' h;simp [AC.remap]at h;subst h;exact .sl e rows v hh
 | full e rows a n hh=>intro c' h;simp [AC.remap]at h;subst h;exact .full e rows a n hh
 | own e rows te B off len cap hh he hl hs=>intro c' h;simp [AC.remap]at h;subst h;exact .own e rows te B off len cap hh he hl hs
 | nils=>intro c' h;simp [AC.remap]at h;subst h;exact .nils
 | ptr b o B hB=>
  intro c' h
  simp only [AC.remap]at h
  split at h
  · rename_i b' e;simp at h;subst h;exact .ptr _ _ _ (hμ _ _ _ e hB)
  · cases h
 | eptr e row o te B off g he hk' hm hr=>intro c' h;simp [AC.remap]at h;subst h;exact .eptr e row o te B off g he hk' hm hr
 | nilp=>intro c' h;simp [AC.remap]at h;subst h;exact .nilp
 | fn f caps g hr ih=>
  intro c' h
  simp only [AC.remap]at h
  split at h
  · rename_i l e
    simp at h;subst h
    obtain⟨h1,h2⟩:=iE e
    rw [←h1]
    exact .fn f l g fun i hi=>ih i (by omega) (h2 i (by omega) hi)
  · cases h
 | nilf=>intro c' h;simp [AC.remap]at h;subst h;exact .nilf
 | refs l B off cap g hc hm hr ih=>
  intro c' h
  simp only [AC.remap]at h
  split at h
  · rename_i l' e
    simp at h;subst h
    obtain⟨h1,h2⟩:=iE e
    rw [←h1]
    exact .refs l' B off cap g (by omega) (fun i hi=>hm i (by omega)) fun i hi=>ih i (by omega) (h2 i (by omega) hi)
  · cases h
 | aptr c B off v hm hh ih=>
  intro c' h
  simp only [AC.remap]at h
  split at h
  · rename_i c2 e;simp at h;subst h;exact .aptr _ B off v hm (ih e)
  · cases h
 | msl e b n te B cap hB he h0 hn hm hs=>
  intro c' h
  simp only [AC.remap]at h
  split at h
  · rename_i b' e';simp at h;subst h;exact .msl _ _ _ te B cap (hμ _ _ _ e' hB) he h0 hn hm hs
  · cases h
 | mnil e b v=>
  intro c' h
  simp only [AC.remap]at h
  split at h
  · rename_i b' e';simp at h;subst h;exact .mnil _ _ _
  · cases h
 | mptr b e i o te B hB he=>
  intro c' h
  simp only [AC.remap]at h
  split at h
  · rename_i b' e';simp at h;subst h;exact .mptr _ _ _ _ te B (hμ _ _ _ e' hB) he
  · cases h
 | win e b lo n c te B off cap hB he hn hc hoff hs=>
  intro c' h
  simp only [AC.remap]at h
  split at h
  · rename_i b' e';simp at h;subst h;exact .win _ _ _ _ _ te B off cap (hμ _ _ _ e' hB) he hn hc hoff hs
  · cases h
 | parr e b n te B hB he hs=>
  intro c' h
  simp only [AC.remap]at h
  split at h
  · rename_i b' e';simp at h;subst h;exact .parr _ _ _ te B (hμ _ _ _ e' hB) he hs
  · cases h
theorem oP {μ:Nat→Option Nat}:∀{l l':List AV},AV.remap.go μ l=some l'→l'.length=l.length∧∀(i:Nat) (h:i<l.length) (h':i<l'.length),l[i].remap μ=some l'[i]
 | [],l',h=>by simp [AV.remap.go]at h;subst h;simp
 | c::r,l',h=>by
  simp only [AV.remap.go]at h
  split at h
  · rename_i c' r' h1 h2
    simp at h;subst h
    obtain⟨g1,g2⟩:=oP h2
    refine⟨by simp [g1],fun i hi hi'=> ?_⟩
    cases i with
    | zero=>exact h1
    | succ i=>exact g2 i (by simpa using hi) (by simpa using hi')
  · cases h
theorem iU {μ:Nat→Option Nat}:∀{l l':List AV},jJ μ l=some l'→l'.length=l.length∧∀(i:Nat) (h:i<l.length) (h':i<l'.length),l[i].remap μ=some l'[i]
 | [],l',h=>by simp [jJ]at h;subst h;simp
 | c::r,l',h=>by
  simp only [jJ]at h
  split at h
  · rename_i c' r' h1 h2
    simp at h;subst h
    obtain⟨g1,g2⟩:=iU h2
    refine⟨by simp [g1],fun i hi hi'=> ?_⟩
    cases i with
    | zero=>exact h1
    | succ i=>exact g2 i (by simpa using hi) (by simpa using hi')
  · cases h
theorem AVR.remap {ρ':List Nat}{μ:Nat→Option Nat}(hμ:∀b b' B,μ b=some b'→nth ρ b=some B→nth ρ' b'=some B){x:AV}{v:Value}{o:aS}(h:AVR E w F ρ x v o):
 ∀{x':AV},x.remap μ=some x'→AVR E w F ρ' x' v o:=by
 induction h with
 | undef v o ho=>intro x' h;simp [AV.remap]at h;subst h;exact .undef v o ho
 | one c v o hc ho=>
  intro x' h
  simp only [AV.remap]at h
  split at h
  · rename_i c' e;simp at h;subst h;exact .one _ _ _ (hc.remap hμ e) ho
  · cases h
 | agg l g o hh ho=>
  intro x' h
  simp only [AV.remap]at h
  split at h
  · rename_i l' e
    simp at h;subst h
    obtain⟨h1,h2⟩:=iE e
    rw [←h1]at ho⊢
    exact .agg l' g o (fun i hi=>(hh i (by omega)).remap hμ (h2 i (by omega) hi)) ho
  · cases h
 | tup l g o hh ho ih=>
  intro x' h
  simp only [AV.remap]at h
  split at h
  · rename_i l' e
    simp at h;subst h
    obtain⟨h1,h2⟩:=oP e
    rw [←h1]at ho⊢
    exact .tup l' g o (fun i hi=>ih i (by omega) (h2 i (by omega) hi)) ho
  · cases h
theorem AVR.less {F':aG}(hF:∀B off,F' B off→F B off){x:AV}{v:Value}{o:aS}(h:AVR E w F ρ x v o):AVR E w F' ρ x v o:=
 h.keep ⟨fun _ _ _ _ _=>rfl,fun _ _ _ hc hn=>⟨hc,fun hf=>hn (hF _ _ hf)⟩,fun _ _ h=>h⟩ (fun _ _ h=>h) fun _ _ _ _ _ _ hh=>hh
theorem AR.less {F':aG}(hF:∀B off,F' B off→F B off){x:AC}{v:Value}{o:aH}(h:AR E w F ρ x v o):AR E w F' ρ x v o:=
 h.keep ⟨fun _ _ _ _ _=>rfl,fun _ _ _ hc hn=>⟨hc,fun hf=>hn (hF _ _ hf)⟩,fun _ _ h=>h⟩ (fun _ _ h=>h) fun _ _ _ _ _ hh=>hh
theorem j6 {μ:Nat→Option Nat}{blk:List Block}:∀{sel:List Nat} {bs:List Block},ey μ blk sel=some bs→bs.length=sel.length∧
 ∀(i k:Nat),nth sel i=some k→∃c c',nth blk k=some c∧c.remap μ=some c'∧nth bs i=some c'
 | [],bs,h=>by simp [ey]at h;subst h;simp [nth]
 | b::r,bs,h=>by
  simp only [ey]at h
  split at h
  · rename_i c l h1 h2
    split at h
    · rename_i c' h3
      simp at h;subst h
      obtain⟨g1,g2⟩:=j6 h2
      refine⟨by simp [g1],fun i k hi=> ?_⟩
      cases i with
      | zero=>simp only [nth,Option.some.injEq]at hi;subst hi;exact⟨c,c',h1,h3,rfl⟩
      | succ i=>exact g2 i k hi
    · cases h
  · cases h
theorem BlkR.remap {ρ':List Nat}{own':OI→aH}{μ:Nat→Option Nat}{F':aG}{k k':Nat}(hμ:∀b b' B,μ b=some b'→nth ρ b=some B→nth ρ' b'=some B)(hk:∀B,nth ρ k=some B→nth ρ' k'=some B)
 (hF:∀B off,F' B off→F B off) (hs:own' (.self k')=own (.self k)) (hc:∀j,own' (.cell k' j)=own (.cell k j)) {b b':Block} (hb:b.remap μ=some b') (h:BlkR E w F ρ own k (some b)):
 BlkR E w F' ρ' own' k' (some b'):=by
 cases b with
 | dead=>
  simp [Block.remap]at hb;subst hb
  exact⟨hs.trans h.1,fun j=>(hc j).trans (h.2 j)⟩
 | fro e rows=>
  simp only [Block.remap,Option.some.injEq]at hb
  subst hb
  exact⟨hs.trans h.1,fun j=>(hc j).trans (h.2.1 j),h.2.2.keep ⟨fun _ _ _ _ _=>rfl,fun _ _ _ hc hn=>⟨hc,fun hf=>hn (hF _ _ hf)⟩,fun _ _ h=>h⟩ hk⟩
 | var cells=>
  simp only [Block.remap]at hb
  split at hb
  · rename_i l e
    simp at hb;subst hb
    obtain⟨B,h1,h2,h3,h4⟩:=h
    obtain⟨g1,g2⟩:=iE e
    refine⟨B,hk _ h1,hs.trans h2,fun j hj=>(hc j).trans (h3 j (by omega)),fun j hj=> ?_⟩
    obtain⟨v,k1,k2,k3⟩:=h4 j (by omega)
    refine⟨v,k1,k2, ?_⟩
    rw [hc]
    exact(k3.remap hμ (g2 j (by omega) hj)).less hF
  · cases hb
 | arr e rows=>
  simp only [Block.remap,Option.some.injEq]at hb
  subst hb
  rcases h with⟨h1,h2,h3⟩ | ⟨B,te,h1,h2,h3,h4,h5,h7,h6⟩
  · exact .inl ⟨h1,hs.trans h2,fun j=>(hc j).trans (h3 j)⟩
  · refine .inr ⟨B,te,hk _ h1,hs.trans h2,fun j=>(hc j).trans (h3 j),h4,h5,h7,fun i hi=> ?_⟩
    obtain⟨v,g1,g2,g3⟩:=h6 i hi
    exact⟨v,g1,g2,g3.keep ⟨fun _ _ _ _ _=>rfl,fun _ _ _ hc hn=>⟨hc,fun hf=>hn (hF _ _ hf)⟩,fun _ _ h=>h⟩⟩
def nf (ρ:List Nat)(sel:List Nat):List Nat:=sel.map fun k=>(nth ρ k).getD 0
theorem ke {sel:List Nat}{i k B:Nat}(h:nth sel i=some k)(hB:nth ρ k=some B):nth (nf ρ sel) i=some B:=by
 rw [aY]at h
 rw [nf,aY,List.getElem?_map,h]
 simp [hB]
theorem fU {sel:List Nat}(b b' B:Nat)(h:dY sel b 0=some b')(hB:nth ρ b=some B):nth (nf ρ sel) b'=some B:=
 ke (gQ h).2 hB
theorem Rel.pick (h:Rel E R ρ own N st a w){sel:List Nat}(hsel:sel.Nodup){R':aG}{own':OI→aH}{fr':List (Nat×AV)}{bs:List Block}{a':Act}{N':Nat}
 (hbs:ey (fun b=>dY sel b 0) st.blk sel=some bs) (hsz:a'.tmps.size=N') (hdf:a'.defers=[])
 (hF:∀B off,Fn own' R' B off→Fn own R B off)
 (hfr:∀t,AVR E w (Fn own R) (nf ρ sel) (get fr' t) (a'.tmps.getD t undef) (fun p=>own' (.tmp t p)))
 (hself:∀i,own' (.self i)=(match nth sel i with | some k=>own (.self k) | none=>none))
 (hcell:∀i j,own' (.cell i j)=(match nth sel i with | some k=>own (.cell k j) | none=>none))
 (src:Nat→List Nat→OI) (hsrc:∀t p B s,own' (.tmp t p)=some (B,s)→own (src t p)=some (B,s)∧∀k,src t p≠ .self k∧∀j,k∈sel→src t p≠ .cell k j)
 (hsi:∀t p t' p' B s,own' (.tmp t p)=some (B,s)→own' (.tmp t' p')=some (B,s)→src t p=src t' p'→OI.tmp t p=OI.tmp t' p')
 (hR:∀B off,R' B off→B<w.heap.size) (hout:∀x B t,own' x=some (B,t)→∀off,¬R' B off):Rel E R' (nf ρ sel) own' N' ⟨fr',bs⟩ a' w:=by
 obtain⟨g1,g2⟩:=j6 hbs
 have hin:∀x B t,own' x=some (B,t)→∃y,own y=some (B,t)∧(match x with
  | .tmp s p=>y=src s p
  | .self i=>∃k,nth sel i=some k∧y=.self k
  | .cell i j=>∃k,nth sel i=some k∧y=.cell k j):=by
  intro x B t hx
  cases x with
  | tmp s p=>exact⟨_,(hsrc _ _ _ _ hx).1,rfl⟩
  | self i=>
   rw [hself]at hx
   split at hx
   · rename_i k e;exact⟨_,hx,k,e,rfl⟩
   · cases hx
  | cell i j=>
   rw [hcell]at hx
   split at hx
   · rename_i k e;exact⟨_,hx,k,e,rfl⟩
   · cases hx
 refine⟨hsz,hdf,fun t=>(hfr t).less hF,by rw [nf,List.length_map,g1],fun i=> ?_, ?_, ?_,hR⟩
 · cases hi:nth sel i with
   | none=>
    have:nth bs i=none:=by
     rw [aY]at hi⊢
     rw [List.getElem?_eq_none_iff]at hi⊢
     omega
    dsimp only
    rw [this]
    exact⟨by rw [hself,hi],fun j=>by rw [hcell,hi]⟩
   | some k=>
    obtain⟨c,c',e1,e2,e3⟩:=g2 i k hi
    dsimp only
    rw [e3]
    have hb:=h.blk k
    rw [e1]at hb
    exact hb.remap (fun b b' B=>fU b b' B) (fun B hB=>ke hi hB) hF (by rw [hself,hi]) (fun j=>by rw [hcell,hi]) e2
 · intro x y B t t' hx hy
   obtain⟨x',hx1,hx2⟩:=hin x B t hx
   obtain⟨y',hy1,hy2⟩:=hin y B t' hy
   have hxy:=h.inj _ _ _ _ _ hx1 hy1
   subst hxy
   rw [hx1]at hy1
   cases hy1
   cases x with
   | tmp s p=>
    cases y with
    | tmp s' p'=>exact hsi _ _ _ _ _ _ hx hy (hx2.symm.trans hy2)
    | self i=>obtain⟨k,e,rfl⟩:=hy2;exact absurd hx2.symm ((hsrc _ _ _ _ hx).2 k).1
    | cell i j=>obtain⟨k,e,rfl⟩:=hy2;exact absurd hx2.symm (((hsrc _ _ _ _ hx).2 k).2 j (eO e))
   | self i=>
    obtain⟨k,e,rfl⟩:=hx2
    cases y with
    | tmp s' p'=>exact absurd hy2.symm ((hsrc _ _ _ _ hy).2 k).1
    | self i'=>obtain⟨k',e',h3⟩:=hy2;injection h3 with h3;subst h3;rw [yf hsel e e']
    | cell i' j=>obtain⟨k',e',h3⟩:=hy2;cases h3
   | cell i j=>
    obtain⟨k,e,rfl⟩:=hx2
    cases y with
    | tmp s' p'=>exact absurd hy2.symm (((hsrc _ _ _ _ hy).2 k).2 j (eO e))
    | self i'=>obtain⟨k',e',h3⟩:=hy2;cases h3
    | cell i' j'=>obtain⟨k',e',h3⟩:=hy2;injection h3 with h3 h4;subst h3;subst h4;rw [yf hsel e e']
 · intro x B t hx
   obtain⟨x',hx1,_⟩:=hin x B t hx
   exact⟨(h.out _ _ _ hx1).1,hout x B t hx⟩
def zipFr :List AV→Nat→List (Nat×AV)
 | [],_=> []
 | v::r,i=>(i,v)::zipFr r (i+1)
theorem vX :∀(l:List AV) (i t:Nat),get (zipFr l i) t=if t<i then .undef else(nth l (t - i)).getD .undef
 | [],i,t=>by simp [zipFr,get,nth]
 | v::r,i,t=>by
  simp only [zipFr,get]
  by_cases e:i=t
  · subst e;simp [co,nth]
  · simp only [dH e,cond_false,vX r (i+1) t]
    by_cases h:t<i
    · simp [h,show t<i+1 by omega]
    · have:t - i=(t - (i+1))+1:=by omega
      simp only [h,show¬t<i+1 by omega,if_false,this,nth]
theorem ov (l:List AV)(t:Nat):get (zipFr l 0) t=(nth l t).getD .undef:=by simp [vX]
theorem rW {vals:List Value}{l:List AV}{o:Nat→aS}(hl:l.length=vals.length)(h:∀(i:Nat) (h1:i<l.length) (h2:i<vals.length),AVR E w F ρ l[i] vals[i] (o i))(ho:∀i,l.length≤i→∀p,o i p=none)(t:Nat):
 AVR E w F ρ (get (zipFr l 0) t) (vals.toArray.getD t undef) (o t):=by
 rw [ov,aY]
 by_cases ht:t<l.length
 · have h2:t<vals.length:=by omega
   have:=h t ht h2
   simpa [List.getElem?_eq_getElem ht,h2]using this
 · rw [List.getElem?_eq_none (by omega)]
   exact .undef _ _ (ho t (by omega))
theorem Da {vals:List Value}{l:List AV}{o:Nat→aS}(hl:l.length=vals.length)(h:∀t,AVR E w F ρ (get (zipFr l 0) t) (vals.toArray.getD t undef) (o t))(i:Nat)(h1:i<l.length)(h2:i<vals.length):
 AVR E w F ρ l[i] vals[i] (o i):=by
 have:=h i
 rw [ov,aY,List.getElem?_eq_getElem h1]at this
 simpa [h2]using this
def Bn (own:OI→aH)(sel:List Nat):OI→aH
 | .tmp _ _=>none
 | .self i=>match nth sel i with | some k=>own (.self k) | none=>none
 | .cell i j=>match nth sel i with | some k=>own (.cell k j) | none=>none
def xi (sel:List Nat):OI→Prop
 | .tmp _ _=>False
 | .self k=>k∈sel
 | .cell k _=>k∈sel
def Rin (own:OI→aH)(R:aG)(sel:List Nat):aG:=fun B off=>R B off∨∃x t,own x=some (B,t)∧t≤off∧¬xi sel x
theorem jc {sel:List Nat}{x:OI}{B t:Nat}(h:Bn own sel x=some (B,t)):∃y,own y=some (B,t)∧xi sel y:=by
 cases x with
 | tmp s p=>cases h
 | self i=>
  simp only [Bn]at h
  split at h
  · rename_i k e;exact⟨_,h,eO e⟩
  · cases h
 | cell i j=>
  simp only [Bn]at h
  split at h
  · rename_i k e;exact⟨_,h,eO e⟩
  · cases h
theorem Rel.enter (h:Rel E R ρ own N st a w){sel:List Nat}(hsel:sel.Nodup){args args':List AV}{vals:List Value}{bs:List Block}(hl:args.length=vals.length)
 (hv:∀(i:Nat) (h1:i<args.length) (h2:i<vals.length),AVR E w (Fn own R) ρ args[i] vals[i] (fun _=>none))
 (h1:jJ (fun b=>dY sel b 0) args=some args') (h2:ey (fun b=>dY sel b 0) st.blk sel=some bs):
 args'.length=vals.length∧Rel E (Rin own R sel) (nf ρ sel) (Bn own sel) vals.length ⟨zipFr args' 0,bs⟩ ⟨vals.toArray,[]⟩ w:=by
 obtain⟨k1,k2⟩:=iU h1
 refine⟨k1.trans hl,h.pick hsel h2 (by simp) rfl ?_ ?_ (fun _=>rfl) (fun _ _=>rfl) (fun _ _=> .self 0) (fun _ _ _ _ h=>by cases h) (fun _ _ _ _ _ _ h=>by cases h) ?_ ?_⟩
 · rintro B off ((hR | ⟨x,t,hx,ht,_⟩) | ⟨x,t,hx,ht⟩)
   · exact .inl hR
   · exact .inr ⟨x,t,hx,ht⟩
   · obtain⟨y,hy,_⟩:=jc hx
     exact .inr ⟨y,t,hy,ht⟩
 · intro t
   refine rW (o:=fun _ _=>none) (k1.trans hl) (fun i g1 g2=> ?_) (fun _ _ _=>rfl) t
   exact(hv i (by omega) g2).remap (fun b b' B=>fU b b' B) (k2 i (by omega) g1)
 · rintro B off (hR | ⟨x,t,hx,_,_⟩)
   · exact h.low _ _ hR
   · exact(h.out _ _ _ hx).1
 · rintro x B t hx off (hR | ⟨y,s,hy,_,hp⟩)
   · obtain⟨z,hz,_⟩:=jc hx
     exact(h.out _ _ _ hz).2 off hR
   · obtain⟨z,hz,hq⟩:=jc hx
     have:=h.inj _ _ _ _ _ hy hz
     subst this
     exact hp hq
end Go.Abs
namespace Go.Abs
variable {E:Env} {P:Program} {R:aG} {ρ:List Nat} {own:OI→aH} {N:Nat} {st:St} {a:Act} {w:World} {F:aG}
theorem BlkR.less {F':aG}(hF:∀B off,F' B off→F B off){k:Nat}{b:Option Block}(h:BlkR E w F ρ own k b):BlkR E w F' ρ own k b:=by
 cases b with
 | none=>exact h
 | some b=>cases b with
  | dead=>exact h
  | fro e rows=>exact⟨h.1,h.2.1,h.2.2.keep ⟨fun _ _ _ _ _=>rfl,fun _ _ _ hc hn=>⟨hc,fun hf=>hn (hF _ _ hf)⟩,fun _ _ h=>h⟩ fun _ h=>h⟩
  | var cells=>
   obtain⟨B,h1,h2,h3,h4⟩:=h
   refine⟨B,h1,h2,h3,fun j hj=> ?_⟩
   obtain⟨v,k1,k2,k3⟩:=h4 j hj
   exact⟨v,k1,k2,k3.less hF⟩
  | arr e rows=>
   rcases h with h | ⟨B,te,h1,h2,h3,h4,h5,h7,h6⟩
   · exact .inl h
   · refine .inr ⟨B,te,h1,h2,h3,h4,h5,h7,fun i hi=> ?_⟩
     obtain⟨v,g1,g2,g3⟩:=h6 i hi
     exact⟨v,g1,g2,g3.keep ⟨fun _ _ _ _ _=>rfl,fun _ _ _ hc hn=>⟨hc,fun hf=>hn (hF _ _ hf)⟩,fun _ _ h=>h⟩⟩
theorem Rel.sub (h:Rel E R ρ own N st a w){own':OI→aH}{st':St}(hs:∀x,own' x=own x∨own' x=none)(hfr:∀t,AVR E w (Fn own R) ρ (get st'.fr t) (a.tmps.getD t undef) (fun p=>own' (.tmp t p)))
 (hl:st'.blk.length=st.blk.length) (hblk:∀k,BlkR E w (Fn own R) ρ own' k (nth st'.blk k)):Rel E R ρ own' N st' a w:=by
 have hsome:∀x B t,own' x=some (B,t)→own x=some (B,t):=fun x B t e=>by
  rcases hs x with h | h
  · rw [←h];exact e
  · rw [h]at e;cases e
 have hF:∀B off,Fn own' R B off→Fn own R B off:=by
  rintro B off (hR | ⟨x,t,hx,ht⟩)
  · exact .inl hR
  · exact .inr ⟨x,t,hsome _ _ _ hx,ht⟩
 exact⟨h.size,h.defers,fun t=>(hfr t).less hF,h.rho.trans hl.symm,fun k=>(hblk k).less hF,fun x y B t t' hx hy=>h.inj _ _ _ _ _ (hsome _ _ _ hx) (hsome _ _ _ hy),fun x B t hx=>h.out _ _ _ (hsome _ _ _ hx),h.low⟩
theorem Grow.of_sub {own':OI→aH}(hs:∀x,own' x=own x∨own' x=none):Grow own own' w w:=
 .refl _ _ _ fun x B t hx=>⟨x,t,(by
  rcases hs x with h | h
  · rw [←h];exact hx
  · rw [h]at hx;cases hx),Nat.le_refl _⟩
theorem Pat.proj_rel {p:Pat}{c:AC}{v:Value}{o:aH}(h:AR E w F ρ c v o)(hp:p.ok c=true):∃o',(o'=o∨o'=none)∧AR E w F ρ (p.proj c) v o':=by
 cases p with
 | int k=>
  cases h<;>simp [Pat.ok]at hp
  rw [lf hp]
  exact⟨_,.inl rfl,.int _ _⟩
 | bool=>cases h<;>simp [Pat.ok]at hp;exact⟨_,.inl rfl,.bool _⟩
 | str=>cases h<;>simp [Pat.ok]at hp;exact⟨_,.inl rfl,.str _⟩
 | sl own e=>
  cases h with
  | sl e' rows v h=>
   simp [Pat.ok]at hp
   obtain⟨h1,h2⟩:=hp
   subst h1;subst h2
   exact⟨none,.inl rfl,.sl _ _ _ h⟩
  | full e' rows a n h=>
   simp [Pat.ok]at hp
   subst hp
   cases own with
   | true=>exact⟨none,.inl rfl,.full _ _ _ _ h⟩
   | false=>exact⟨none,.inl rfl,.sl _ _ _ h⟩
  | own e' rows te B off len cap h he hl hs=>
   simp [Pat.ok]at hp
   subst hp
   cases own with
   | true=>exact⟨_,.inl rfl,.own _ _ te _ _ _ _ h he hl hs⟩
   | false=>exact⟨none,.inr rfl,.sl _ _ _ h⟩
  | nils=>
   cases own with
   | true=>exact⟨none,.inl rfl,.full _ _ _ _ (.empty _ _ _)⟩
   | false=>exact⟨none,.inl rfl,.sl _ _ _ (.empty _ _ _)⟩
  | _=>simp [Pat.ok]at hp
 | ptr b o=>
  cases h<;>simp [Pat.ok]at hp
  obtain⟨rfl,rfl⟩:=hp
  rename_i B h
  exact⟨_,.inl rfl,.ptr _ _ _ h⟩
 | nilp=>cases h<;>simp [Pat.ok]at hp;exact⟨_,.inl rfl,.nilp⟩
 | nilf=>cases h<;>simp [Pat.ok]at hp;exact⟨_,.inl rfl,.nilf⟩
 | msl e b=>
  cases h with
  | msl e' b' n te B cap hB he h0 hn hm hs=>
   simp only [Pat.ok,Bool.and_eq_true]at hp
   rw [Nat.eq_of_beq_eq_true hp.1,Nat.eq_of_beq_eq_true hp.2]
   exact⟨none,.inl rfl,.msl e' b' n te B cap hB he h0 hn hm hs⟩
  | mnil e' b' v'=>
   simp only [Pat.ok,Bool.and_eq_true]at hp
   rw [Nat.eq_of_beq_eq_true hp.1,Nat.eq_of_beq_eq_true hp.2]
   exact⟨none,.inl rfl,.mnil e' b' v'⟩
  | _=>simp [Pat.ok]at hp
 | win e b=>
  cases h with
  | win e' b' lo n c te B off cap hB he hn hc hoff hs=>
   simp only [Pat.ok,Bool.and_eq_true]at hp
   rw [Nat.eq_of_beq_eq_true hp.1,Nat.eq_of_beq_eq_true hp.2]
   exact⟨none,.inl rfl,.win e' b' lo n c te B off cap hB he hn hc hoff hs⟩
  | _=>simp [Pat.ok]at hp
 | arrp e=>cases h<;>simp [Pat.ok]at hp
 | deadp=>cases h<;>simp [Pat.ok]at hp
theorem Ab :∀{l:List AC} {i:Nat} (h:i<l.length),J4 l i=l[i]
 | _::_,0,_=>rfl
 | _::r,i+1,h=>Ab (l:=r) (i:=i) (by simpa using h)
theorem Am :∀{l:List AV} {i:Nat} (h:i<l.length),Ma l i=l[i]
 | _::_,0,_=>rfl
 | _::r,i+1,h=>Am (l:=r) (i:=i) (by simpa using h)
theorem wN :∀{l:List Block} {i:Nat} (h:i<l.length),kz l i=l[i]
 | _::_,0,_=>rfl
 | _::r,i+1,h=>wN (l:=r) (i:=i) (by simpa using h)
theorem AD :∀{ps:List Pat} {l:List AC},okL ps l=true→ps.length=l.length∧∀(i:Nat) (h1:i<ps.length) (h2:i<l.length),ps[i].ok l[i]=true
 | [],[],_=>by simp
 | [],_::_,h=>by simp [okL]at h
 | _::_,[],h=>by simp [okL]at h
 | p::ps,c::r,h=>by
  simp only [okL,Bool.and_eq_true]at h
  obtain⟨g1,g2⟩:=AD h.2
  refine⟨by simp [g1],fun i h1 h2=> ?_⟩
  cases i with
  | zero=>exact h.1
  | succ i=>exact g2 i (by simpa using h1) (by simpa using h2)
theorem sZ :∀{ps:List Pat} {l:List AC} {k:Nat},(iD ps l k).length=ps.length∧∀(i:Nat) (h1:i<ps.length) (h2:i<(iD ps l k).length),(iD ps l k)[i]=ps[i].proj (J4 l (k+i))
 | [],l,k=>by simp [iD]
 | p::ps,l,k=>by
  obtain⟨g1,g2⟩:=sZ (ps:=ps) (l:=l) (k:=k+1)
  refine⟨by simp [iD,g1],fun i h1 h2=> ?_⟩
  cases i with
  | zero=>rfl
  | succ i=>
   have:=g2 i (by simpa using h1) (by simpa [iD]using h2)
   simp only [iD,List.getElem_cons_succ,this]
   congr 2;omega
theorem vw :∀{ps:List PV} {l:List AV},FL ps l=true→ps.length=l.length∧∀(i:Nat) (h1:i<ps.length) (h2:i<l.length),ps[i].ok l[i]=true
 | [],[],_=>by simp
 | [],_::_,h=>by simp [FL]at h
 | _::_,[],h=>by simp [FL]at h
 | p::ps,c::r,h=>by
  simp only [FL,Bool.and_eq_true]at h
  obtain⟨g1,g2⟩:=vw h.2
  refine⟨by simp [g1],fun i h1 h2=> ?_⟩
  cases i with
  | zero=>exact h.1
  | succ i=>exact g2 i (by simpa using h1) (by simpa using h2)
theorem rm :∀{ps:List PV} {l:List AV} {k:Nat},(gm ps l k).length=ps.length∧∀(i:Nat) (h1:i<ps.length) (h2:i<(gm ps l k).length),(gm ps l k)[i]=ps[i].proj (Ma l (k+i))
 | [],l,k=>by simp [gm]
 | p::ps,l,k=>by
  obtain⟨g1,g2⟩:=rm (ps:=ps) (l:=l) (k:=k+1)
  refine⟨by simp [gm,g1],fun i h1 h2=> ?_⟩
  cases i with
  | zero=>rfl
  | succ i=>
   have:=g2 i (by simpa using h1) (by simpa [gm]using h2)
   simp only [gm,List.getElem_cons_succ,this]
   congr 2;omega
theorem mZ :∀{ps:List (List Pat)} {l:List Block},EP ps l=true→ps.length=l.length∧∀(i:Nat) (h1:i<ps.length) (h2:i<l.length),Fv ps[i] l[i]=true
 | [],[],_=>by simp
 | [],_::_,h=>by simp [EP]at h
 | _::_,[],h=>by simp [EP]at h
 | p::ps,c::r,h=>by
  simp only [EP,Bool.and_eq_true]at h
  obtain⟨g1,g2⟩:=mZ h.2
  refine⟨by simp [g1],fun i h1 h2=> ?_⟩
  cases i with
  | zero=>exact h.1
  | succ i=>exact g2 i (by simpa using h1) (by simpa using h2)
theorem l9 :∀{ps:List (List Pat)} {l:List Block} {k:Nat},(fG ps l k).length=ps.length∧∀(i:Nat) (h1:i<ps.length) (h2:i<(fG ps l k).length),(fG ps l k)[i]=nI ps[i] (kz l (k+i))
 | [],l,k=>by simp [fG]
 | p::ps,l,k=>by
  obtain⟨g1,g2⟩:=l9 (ps:=ps) (l:=l) (k:=k+1)
  refine⟨by simp [fG,g1],fun i h1 h2=> ?_⟩
  cases i with
  | zero=>rfl
  | succ i=>
   have:=g2 i (by simpa using h1) (by simpa [fG]using h2)
   simp only [fG,List.getElem_cons_succ,this]
   congr 2;omega
theorem CJ {p:List Pat}{cells:List AC}(h:okL p cells=true):nI p (.var cells)=.var (iD p cells 0):=by
 unfold nI
 split
 · cases cells with
   | nil=>simp [okL]at h
   | cons c r=>simp [okL,Pat.ok]at h
 · cases cells with
   | nil=>simp [okL]at h
   | cons c r=>simp [okL,Pat.ok]at h
 · rfl
theorem CW {p:List Pat}{e:TypeId}{rows:Rows}(h:Fv p (.arr e rows)=true):nI p (.arr e rows)=.arr e rows:=by
 dsimp only [Fv]at h
 split at h
 · rw [Nat.eq_of_beq_eq_true h];rfl
 · cases h
theorem AF {p:List Pat}(h:Fv p .dead=true):nI p .dead=.dead:=by
 dsimp only [Fv]at h
 split at h
 · rfl
 · cases h
theorem vo {ps:List Pat}{l:List AC}{g:Nat→Value}{o:Nat→aH}(hok:okL ps l=true)(h:∀(i:Nat) (hi:i<l.length),AR E w F ρ l[i] (g i) (o i)):
 ∃o':Nat→aH,(∀i,o' i=o i∨o' i=none)∧(iD ps l 0).length=l.length∧(∀i,l.length≤i→o' i=none)∧∀(i:Nat) (hi:i<(iD ps l 0).length),AR E w F ρ (iD ps l 0)[i] (g i) (o' i):=by
 obtain⟨h1,h2⟩:=AD hok
 obtain⟨h3,h4⟩:=sZ (ps:=ps) (l:=l) (k:=0)
 have:∀i,∃o',(o'=o i∨o'=none)∧(l.length≤i→o'=none)∧∀(hi:i<(iD ps l 0).length),AR E w F ρ (iD ps l 0)[i] (g i) o':=by
  intro i
  by_cases hi:i<l.length
  · obtain⟨o',k1,k2⟩:=Pat.proj_rel (h i hi) (h2 i (by omega) hi)
    refine⟨o',k1,fun h=>by omega,fun hi'=> ?_⟩
    rw [h4 i (by omega) hi',Nat.zero_add,Ab hi]
    exact k2
  · exact⟨none,.inr rfl,fun _=>rfl,fun hi'=>by omega⟩
 obtain⟨o',ho⟩:=Classical.skolem.1 this
 exact⟨o',fun i=>(ho i).1,by omega,fun i=>(ho i).2.1,fun i=>(ho i).2.2⟩
theorem PV.proj_rel {p:PV}{x:AV}{v:Value}{o:aS}(h:AVR E w F ρ x v o)(hp:p.ok x=true):∃o':aS,(∀q,o' q=o q∨o' q=none)∧AVR E w F ρ (p.proj x) v o':=by
 cases p with
 | one p=>
  cases h with
  | one c v o h ho=>
   obtain⟨o',k1,k2⟩:=Pat.proj_rel h hp
   refine⟨fun q=>match q with | []=>o' | _=>none,fun q=> ?_,.one _ _ _ k2 fun q hq=> ?_⟩
   · cases q with
     | nil=>exact k1
     | cons=>exact .inr rfl
   · cases q with
     | nil=>exact absurd rfl hq
     | cons=>rfl
  | _=>simp [PV.ok]at hp
 | agg ps=>
  cases h with
  | agg l g o h ho=>
   obtain⟨o',k1,k2,k3,k4⟩:=vo (o:=fun i=>o [i]) hp h
   have h5:AVR E w F ρ (PV.proj (.agg ps) (.agg l)) (.agg ((List.range l.length).map g).toArray) (fun q=>match q with | [i]=>o' i | _=>none):=by
    rw [←k2]
    refine .agg _ g _ (fun i hi=>k4 i hi) fun q hq=> ?_
    match q,hq with
    | [],_=>rfl
    | [i],hq=>
     refine k3 i ?_
     rcases Nat.lt_or_ge i (iD ps l 0).length with h | h
     · exact absurd rfl (hq i h)
     · omega
    | _::_::_,_=>rfl
   refine⟨_,fun q=> ?_,h5⟩
   match q with
   | []=>exact .inr rfl
   | [i]=>exact k1 i
   | _::_::_=>exact .inr rfl
  | _=>simp [PV.ok]at hp
theorem Rel.proj {vs:List AV}{bs:List Block}{rs:List Value}(h:Rel E R ρ own N ⟨zipFr vs 0,bs⟩ ⟨rs.toArray,[]⟩ w)(hl:rs.length=vs.length){sg:Sig}(hok:sg.ok (vs,bs)=true):
 ∃own',(∀x,own' x=own x∨own' x=none)∧(gm sg.res vs 0).length=rs.length∧(fG sg.blks bs 0).length=bs.length∧Rel E R ρ own' N ⟨zipFr (gm sg.res vs 0) 0,fG sg.blks bs 0⟩ ⟨rs.toArray,[]⟩ w:=by
 simp only [Sig.ok,Bool.and_eq_true]at hok
 obtain⟨hv,hb⟩:=hok
 obtain⟨v1,v2⟩:=vw hv
 obtain⟨v3,v4⟩:=rm (ps:=sg.res) (l:=vs) (k:=0)
 obtain⟨b1,b2⟩:=mZ hb
 obtain⟨b3,b4⟩:=l9 (ps:=sg.blks) (l:=bs) (k:=0)
 have hvs:∀i,∃o:aS,(∀q,o q=own (.tmp i q)∨o q=none)∧(vs.length≤i→∀q,o q=none)∧∀(h1:i<(gm sg.res vs 0).length) (h2:i<rs.length),AVR E w (Fn own R) ρ (gm sg.res vs 0)[i] rs[i] o:=by
  intro i
  by_cases hi:i<vs.length
  · have hx:=Da (o:=fun i p=>own (.tmp i p)) hl.symm h.fr i hi (by omega)
    obtain⟨o,k1,k2⟩:=PV.proj_rel hx (v2 i (by omega) hi)
    refine⟨o,k1,fun h=>by omega,fun g1 g2=> ?_⟩
    rw [v4 i (by omega) g1,Nat.zero_add,Am hi]
    exact k2
  · exact⟨fun _=>none,fun _=> .inr rfl,fun _ _=>rfl,fun g1=>by omega⟩
 obtain⟨oV,hoV⟩:=Classical.skolem.1 hvs
 have hbs:∀k,∃o:Nat→aH,(∀j,o j=own (.cell k j)∨o j=none)∧∀own',own' (.self k)=own (.self k)→(∀j,own' (.cell k j)=o j)→BlkR E w (Fn own R) ρ own' k (nth (fG sg.blks bs 0) k):=by
  intro k
  have hk:=h.blk k
  dsimp only at hk
  by_cases hi:k<bs.length
  · have e2:=b2 k (by omega) hi
    have hp:k<(fG sg.blks bs 0).length:=by omega
    have hnp:nth (fG sg.blks bs 0) k=some (nI sg.blks[k] bs[k]):=by
     rw [aY,List.getElem?_eq_getElem hp,b4 k (by omega) hp,Nat.zero_add,wN hi]
    rw [aY,List.getElem?_eq_getElem hi]at hk
    generalize bs[k]=bk at e2 hk hnp
    cases bk with
    | fro e rows=>cases e2
    | dead=>
     rw [AF e2]at hnp
     refine⟨fun _=>none,fun _=> .inr rfl,fun own' hs hc=> ?_⟩
     rw [hnp]
     exact⟨hs.trans hk.1,hc⟩
    | arr e rows=>
     rw [CW e2]at hnp
     refine⟨fun _=>none,fun _=> .inr rfl,fun own' hs hc=> ?_⟩
     rw [hnp]
     rcases hk with⟨h1,h2,h3⟩ | ⟨B,te,h1,h2,h3,h4,h5,h7,h6⟩
     · exact .inl ⟨h1,hs.trans h2,hc⟩
     · exact .inr ⟨B,te,h1,hs.trans h2,hc,h4,h5,h7,h6⟩
    | var cells=>
    rw [CJ e2]at hnp
    obtain⟨B,h1,h2,h3,h4⟩:=hk
    have h4':∀j,∃v,∀(hj:j<cells.length),cell w B j=some v∧dl w B j=false∧AR E w (Fn own R) ρ cells[j] v (own (.cell k j)):=by
     intro j
     by_cases hj:j<cells.length
     · obtain⟨v,hv⟩:=h4 j hj;exact⟨v,fun _=>hv⟩
     · exact⟨undef,fun hj'=>absurd hj' hj⟩
    obtain⟨g,hg⟩:=Classical.skolem.1 h4'
    obtain⟨o',k1,k2,k3,k4⟩:=vo (o:=fun j=>own (.cell k j)) e2 (fun j hj=>(hg j hj).2.2)
    refine⟨o',k1,fun own' hs hc=> ?_⟩
    rw [hnp]
    refine⟨B,h1,hs.trans h2,fun j hj=>(hc j).trans (k3 j (by omega)),fun j hj=> ?_⟩
    refine⟨g j,(hg j (by omega)).1,(hg j (by omega)).2.1, ?_⟩
    rw [hc]
    exact k4 j hj
  · rw [aY,List.getElem?_eq_none (by omega)]at hk
    refine⟨fun _=>none,fun _=> .inr rfl,fun own' hs hc=> ?_⟩
    rw [aY,List.getElem?_eq_none (by omega)]
    exact⟨hs.trans hk.1,hc⟩
 obtain⟨oB,hoB⟩:=Classical.skolem.1 hbs
 refine⟨fun | .tmp t p=>oV t p | .self k=>own (.self k) | .cell k j=>oB k j,fun x=> ?_,by omega,by omega,h.sub (fun x=> ?_) (fun t=> ?_) (by dsimp only;omega) (fun k=> ?_)⟩
 · cases x with
   | tmp t p=>exact(hoV t).1 p
   | self k=>exact .inl rfl
   | cell k j=>exact(hoB k).1 j
 · cases x with
   | tmp t p=>exact(hoV t).1 p
   | self k=>exact .inl rfl
   | cell k j=>exact(hoB k).1 j
 · exact rW (o:=oV) (by omega) (fun i h1 h2=>(hoV i).2.2 h1 h2) (fun i hi=>(hoV i).2.1 (by omega)) t
 · exact(hoB k).2 _ rfl fun _=>rfl
end Go.Abs
namespace Go.Abs
variable {E:Env} {P:Program} {R:aG} {ρ:List Nat} {own:OI→aH} {N:Nat} {st:St} {a:Act} {w:World} {F:aG}
def Hi :List Value→Value
 | [v]=>v
 | l=> .tuple l.toArray
def mn (E:Env)(R:aG)(ρ:List Nat)(own:OI→aH)(w:World)(vs:List AV)(bs:List Block):Ending→World→Prop
 | .returned v,w'=>∃rs ρ' own',v=Hi rs∧rs.length=vs.length∧(∀b B,nth ρ b=some B→nth ρ' b=some B)∧Rel E R ρ' own' rs.length ⟨zipFr vs 0,bs⟩ ⟨rs.toArray,[]⟩ w'∧Grow own own' w w'
 | _,_=>False
def oM (P : Program) (f : FuncId) : Prop := ∃ fn, P.funcs[f]? = some fn ∧ fn.name ≠ "runtime.NumGoroutine" ∧ fn.body.isNone = false
def fT (P:Program)(E:Env)(call:cQ):Prop:=
 ∀f args blk vs bs,call f args blk=(true,(vs,bs))→oM P f∧∀(R:aG) (ρ:List Nat) (own:OI→aH) (vals:List Value) (w:World),vals.length=args.length→(∀t p,own (.tmp t p)=none)→Rel E R ρ own vals.length ⟨zipFr args 0,blk⟩ ⟨vals.toArray,[]⟩ w→
  Calls P f vals.toArray w (mn E R ρ own w vs bs)
theorem xE {f:FuncId}(h:oM P f)(args:Array Value)(w:World):(callFunc f args).run P w=.ok (.enter f args) w:=by
 obtain⟨fn,h1,h2,h3⟩:=h
 have h2' : (fn.name == "runtime.NumGoroutine") = false := by simpa using h2
 have hp:(program:Sem Program).run P w=.ok P w:=rfl
 unfold callFunc
 rw [Sem.run_bind,hp,Result.andThen_ok]
 simp only [h1,h2',h3,Bool.false_eq_true,if_false]
 rfl
def kD (own:OI→aH)(n:Nat):aS:=fun p=>if n=1 then own (.tmp 0 p)else match p with | []=>none | i::q=>own (.tmp i q)
theorem LI {vals:List Value}{l:List AV}(hl:l.length=vals.length)(h:∀(i:Nat) (h1:i<l.length) (h2:i<vals.length),AVR E w F ρ l[i] vals[i] (fun p=>own (.tmp i p)))
 (ho:∀i,l.length≤i→∀p,own (.tmp i p)=none):AVR E w F ρ (tM l) (Hi vals) (kD own l.length):=by
 have hmany:∀{l:List AV} {vals:List Value},l.length=vals.length→l.length≠1→(∀(i:Nat) (h1:i<l.length) (h2:i<vals.length),AVR E w F ρ l[i] vals[i] (fun p=>own (.tmp i p)))→
  (∀i,l.length≤i→∀p,own (.tmp i p)=none)→AVR E w F ρ (.tup l) (.tuple vals.toArray) (kD own l.length):=by
  intro l vals hl hn h ho
  have hv:vals.toArray=((List.range l.length).map fun i=>vals.getD i undef).toArray:=by
   congr 1
   apply List.ext_getElem
   · simp [hl]
   · intro i h3 h4
     simp [h3]
  rw [hv]
  refine .tup l _ _ (fun i hi=> ?_) ⟨by simp [kD,hn],fun i p hi=>by simp [kD,hn,ho i hi p]⟩
  have h2:i<vals.length:=by omega
  have:=h i hi h2
  simpa [kD,hn,h2]using this
 match l,vals,hl with
 | [],[],hl=>exact hmany rfl (by simp) h ho
 | [v],[x],hl=>
  have:=h 0 (by simp) (by simp)
  exact this
 | v::v2::r,x::x2::r',hl=>exact hmany hl (by simp) h ho
theorem ld {μ:Nat→Option Nat}:∀{l l':List Block},oD μ l=some l'→l'.length=l.length∧∀(i:Nat) (h:i<l.length) (h':i<l'.length),l[i].remap μ=some l'[i]
 | [],l',h=>by simp [oD]at h;subst h;simp
 | c::r,l',h=>by
  simp only [oD]at h
  split at h
  · rename_i c' r' h1 h2
    simp at h;subst h
    obtain⟨g1,g2⟩:=ld h2
    refine⟨by simp [g1],fun i hi hi'=> ?_⟩
    cases i with
    | zero=>exact h1
    | succ i=>exact g2 i (by simpa using hi) (by simpa using hi')
  · cases h
theorem rz :∀(l:List Nat) (b i:Nat),dY l b (i+1)=(dY l b i).map (· +1)
 | [],_,_=>rfl
 | x::r,b,i=>by
  simp only [dY]
  by_cases e:x=b
  · subst e;simp [co]
  · simp only [dH e,cond_false];exact rz r b (i+1)
theorem ol {l:List Nat}{b i:Nat}(h:b∉l):dY l b i=none:=by
 cases e:dY l b i with
 | none=>rfl
 | some j=>exact absurd (eO (gQ e).2) h
theorem ep :∀(l:List (Nat×Block)) (bs:List Block),(bz bs l).length=bs.length
 | [],bs=>rfl
 | (k,c)::r,bs=>by rw [bz,ep,de,List.length_set]
theorem tR :∀{sel:List Nat} {bs blk:List Block},sel.Nodup→(∀k∈sel,k<blk.length)→sel.length≤bs.length→∀k,
 nth (bz blk (u9 sel bs)) k=(match dY sel k 0 with | some i=>nth bs i | none=>nth blk k)
 | [],bs,blk,_,_,_,k=>by simp [u9,bz,dY]
 | b::r,[],blk,_,_,h,k=>by simp at h
 | b::r,c::cs,blk,hn,hlt,h,k=>by
  obtain⟨hn1,hn2⟩:=List.nodup_cons.1 hn
  have hb:=hlt b (by simp)
  simp only [u9,bz]
  rw [tR hn2 (fun k hk=>by rw [de,List.length_set];exact hlt k (by simp [hk])) (by simpa using h)]
  rw [gj _ _ _ _ (by rw [aY,List.getElem?_eq_getElem hb];rfl)]
  simp only [dY]
  by_cases e:b=k
  · subst e
    rw [ol hn1]
    simp [co,nth]
  · simp only [dH e,cond_false,rz]
    cases hp:dY r k 0 with
    | none=>simp [Ne.symm e]
    | some i=>simp [nth]
def jZ (sel:List Nat)(n k:Nat):Option Nat:=
 match dY sel k 0 with
 | some i=>some i
 | none=>if n≤k then some (sel.length+(k - n))else none
theorem AY {sel:List Nat}{n k k' i:Nat}(h1:jZ sel n k=some i)(h2:jZ sel n k'=some i):k=k':=by
 have key:∀{k:Nat},jZ sel n k=some i→(i<sel.length∧nth sel i=some k)∨(n≤k∧i=sel.length+(k - n)):=by
  intro k h
  unfold jZ at h
  split at h
  · rename_i j e
    cases h
    have:=(gQ e).2
    exact .inl ⟨dE this,this⟩
  · split at h
    · rename_i hk;cases h;exact .inr ⟨hk,rfl⟩
    · cases h
 rcases key h1 with⟨a1,a2⟩ | ⟨a1,a2⟩<;>rcases key h2 with⟨b1,b2⟩ | ⟨b1,b2⟩
 · rw [a2]at b2;exact Option.some.inj b2
 · omega
 · omega
 · omega
theorem Fc {sel:List Nat}{n m i k:Nat}(hsel:sel.Nodup)(hlt:∀k∈sel,k<n)(h:vf sel n m i=some k):jZ sel n k=some i:=by
 unfold vf at h
 unfold jZ
 split at h
 · rename_i b e
   cases h
   rw [Fm hsel e]
 · rename_i e
   cases hb:Nat.blt i m with
   | false=>simp [hb]at h
   | true=>
    simp only [hb,cond_true,Option.some.injEq,bq]at h
    subst h
    rw [ol fun hm=>by have:=hlt _ hm;omega]
    simp only [Nat.le_add_right,if_true]
    congr 1
    have:sel.length≤i:=by
     rw [aY]at e
     exact List.getElem?_eq_none_iff.1 e
    omega
def gh (own own2:OI→aH)(dst:Option Nat)(oV:aS)(sel:List Nat)(n:Nat):OI→aH
 | .tmp t p=>if dst=some t then oV p else own (.tmp t p)
 | .self k=>match jZ sel n k with | some i=>own2 (.self i) | none=>own (.self k)
 | .cell k j=>match jZ sel n k with | some i=>own2 (.cell i j) | none=>own (.cell k j)
theorem Az {call:cQ}(hcall:fT P E call)(h:Rel E R ρ own N st a w){sg:Sig}{f:FuncId}{args:List AV}{vals:List Value}{dst:Option Nat}{u:Upd}(hl:args.length=vals.length)
 (hv:∀(i:Nat) (h1:i<args.length) (h2:i<vals.length),AVR E w (Fn own R) ρ args[i] vals[i] (fun _=>none)) (hu:eT call sg f args st some=some u) (hd:∀d,dst=some d→d<N):
 oM P f∧Calls P f vals.toArray w fun e w'=>∃v,e=.returned v∧After E R ρ own N w (st.apply dst u) (a.put dst v) w':=by
 unfold eT at hu
 dsimp only at hu
 generalize hsl:dQ st.blk 1000 (gG args) []=sel at hu
 have hsel:sel.Nodup:=by rw [←hsl];exact jO _ _ _ _ (by simp)
 split at hu<;>try (cases hu;done)
 rename_i args' bs h1 h2
 cases hc:call f args' bs with
 | mk known r=>
  obtain⟨vs0,bs0⟩:=r
  simp only [hc,kv]at hu
  unfold qH l3 at hu
  obtain⟨sg,hsg⟩:∃s,s=sS sg (vs0,bs0):=⟨_,rfl⟩
  rw [←hsg]at hu
  dsimp only at hu
  cases known with
  | false=>cases hu
  | true=>
  simp only [cond_true]at hu
  cases hok:sg.ok (vs0,bs0)with
  | false=>simp [hok]at hu
  | true=>
   have hlb:bI sg.blks=bI bs0:=by
    have h6:=hok
    simp only [Sig.ok,Bool.and_eq_true]at h6
    rw [bq,bq]
    exact(mZ h6.2).1
   simp only [hok,cond_true,hlb]at hu
   split at hu<;>try (cases hu;done)
   rename_i vs2 bs2 h3 h4
   cases hle:Nat.ble (bI sel) (bI bs2)with
   | false=>simp [hle]at hu
   | true=>
    simp only [hle,cond_true,Option.some.injEq]at hu
    have hle:=Nat.le_of_ble_eq_true hle
    rw [bq,bq]at hle
    subst hu
    obtain⟨k1,k2⟩:=h.enter hsel hl hv h1 h2
    obtain⟨hca,hcc⟩:=hcall f args' bs vs0 bs0 hc
    refine⟨hca,(hcc _ _ _ _ _ k1.symm (fun _ _=>rfl) k2).mono ?_⟩
    intro e w' hr
    cases e<;>try exact hr.elim
    rename_i v
    obtain⟨rs,ρ',own',rfl,hrl,hext,hrel0,hgrow⟩:=hr
    obtain⟨own2,hsub,p1,p2,hrel⟩:=hrel0.proj hrl hok
    refine⟨_,rfl, ?_⟩
    have hnb:ρ.length=st.blk.length:=h.rho
    obtain⟨q1,q2⟩:=j6 h2
    have hlt:∀k∈sel,k<st.blk.length:=fun k hk=>by
     obtain⟨i,hi,e⟩:=List.getElem_of_mem hk
     obtain⟨c,_,e1,_⟩:=q2 i k (by rw [aY,List.getElem?_eq_getElem hi,e])
     exact dE e1
    have hrho:ρ'.length=bs0.length:=hrel0.rho
    obtain⟨x1,x2⟩:=iU h3
    obtain⟨y1,y2⟩:=ld h4
    rw [bq,bq]at x2 y2
    have hbs2:bs2.length=bs0.length:=by omega
    -- the numbers
    have hφ:∀{k i},jZ sel st.blk.length k=some i→∀B,nth ρ' i=some B→nth (ρ++ρ'.drop sel.length) k=some B:=by
     intro k i hk B hB
     unfold jZ at hk
     split at hk
     · rename_i j e
       cases hk
       have e2:=(gQ e).2
       have hk:=hlt k (eO e2)
       have hk':k<ρ.length:=by omega
       have e3:nth ρ k=some ρ[k]:=by rw [aY,List.getElem?_eq_getElem hk']
       have e4:=hext _ _ (ke e2 e3)
       rw [Nat.sub_zero]at e4
       rw [bj _ _ _ hk',e3]
       exact e4.symm.trans hB
     · split at hk
       · rename_i hnk
         cases hk
         rw [aY]at hB⊢
         rw [List.getElem?_append_right (by omega),List.getElem?_drop,hnb]
         exact hB
       · cases hk
    have hμ:∀b b' B,vf sel st.blk.length bs0.length b=some b'→nth ρ' b=some B→nth (ρ++ρ'.drop sel.length) b'=some B:=
     fun b b' B hb=>hφ (Fc hsel hlt hb) B
    have hnp:∀{k},jZ sel st.blk.length k=none→k∉sel:=fun{k} hk hm=>by
     unfold jZ at hk
     obtain⟨j,hj⟩:=lh 0 hm
     simp [hj]at hk
    have hin:∀{k},k∈sel→jZ sel st.blk.length k≠none:=fun hm e=>hnp e hm
    -- the owners
    have hV:=LI (own:=own2) (F:=Fn own2 (Rin own R sel)) (E:=E) (w:=w') (ρ:=ρ++ρ'.drop sel.length) (l:=vs2) (vals:=rs) (by omega) (fun i g1 g2=>by
     have hz:=Da (o:=fun i p=>own2 (.tmp i p)) p1 hrel.fr i (by omega) g2
     exact hz.remap hμ (x2 i (by omega) g1)) (fun i hi p=>by
      have:=hrel.fr i
      have hn:get (zipFr (gm sg.res vs0 0) 0) i=.undef:=by rw [ov,aY,List.getElem?_eq_none (by omega)];rfl
      rw [hn]at this
      cases this with
      | undef _ _ ho=>exact ho p)
    have hlen2:vs2.length=rs.length:=by omega
    have hcase:∀x B t,gh own own2 dst (kD own2 vs2.length) sel st.blk.length x=some (B,t)→
     (∃y,own2 y=some (B,t)∧((∃d p i q,dst=some d∧x=.tmp d p∧y=.tmp i q∧((vs2.length=1∧i=0∧p=q)∨(vs2.length≠1∧p=i::q)))∨
      (∃k i,jZ sel st.blk.length k=some i∧x=.self k∧y=.self i)∨(∃k i j,jZ sel st.blk.length k=some i∧x=.cell k j∧y=.cell i j)))∨
     (own x=some (B,t)∧¬xi sel x∧¬PP (fun t=>dst=some t) (fun k=>jZ sel st.blk.length k≠none) x):=by
     intro x B t hx
     cases x with
     | tmp s p=>
      simp only [gh]at hx
      split at hx
      · rename_i e
        unfold kD at hx
        split at hx
        · rename_i e1
          exact .inl ⟨_,hx,.inl ⟨s,p,0,p,e,rfl,rfl,.inl ⟨e1,rfl,rfl⟩⟩⟩
        · rename_i e1
          split at hx
          · cases hx
          · rename_i i q;exact .inl ⟨_,hx,.inl ⟨s,_,i,q,e,rfl,rfl,.inr ⟨e1,rfl⟩⟩⟩
      · rename_i e
        exact .inr ⟨hx,id,e⟩
     | self k=>
      simp only [gh]at hx
      split at hx
      · rename_i i e;exact .inl ⟨_,hx,.inr (.inl ⟨k,i,e,rfl,rfl⟩)⟩
      · rename_i e;exact .inr ⟨hx,hnp e,fun hc=>hc e⟩
     | cell k j=>
      simp only [gh]at hx
      split at hx
      · rename_i i e;exact .inl ⟨_,hx,.inr (.inr ⟨k,i,j,e,rfl,rfl⟩)⟩
      · rename_i e;exact .inr ⟨hx,hnp e,fun hc=>hc e⟩
    have hFF:∀B off,Fn (gh own own2 dst (kD own2 vs2.length) sel st.blk.length) R B off→Fn own2 (Rin own R sel) B off:=by
     rintro B off (hR | ⟨x,t,hx,ht⟩)
     · exact .inl (.inl hR)
     · rcases hcase x B t hx with⟨y,hy,_⟩ | ⟨hx,hp,_⟩
       · exact .inr ⟨y,t,hy,ht⟩
       · exact .inl (.inr ⟨x,t,hx,ht,hp⟩)
    have hsome2:∀x B t,own2 x=some (B,t)→own' x=some (B,t):=fun x B t e=>by
     rcases hsub x with h | h
     · rw [←h];exact e
     · rw [h]at e;cases e
    have hblk:∀k,nth (st.apply dst ⟨tM vs2,none,u9 sel bs2,ag bs2 (bI sel),sel⟩).blk k=(match jZ sel st.blk.length k with | some i=>nth bs2 i | none=>nth st.blk k):=by
     intro k
     simp only [St.apply,ba,aN,bq]
     unfold jZ
     by_cases hk:k<st.blk.length
     · rw [bj _ _ _ (by rw [ep];exact hk),tR hsel hlt hle]
       cases dY sel k 0 with
       | some i=>rfl
       | none=>simp [show¬st.blk.length≤k by omega]
     · rw [ol fun hm=>hk (hlt k hm)]
       simp only [show st.blk.length≤k by omega,if_true]
       rw [aY,List.getElem?_append_right (by rw [ep];omega),ep,List.getElem?_drop,aY]
    refine⟨ρ++ρ'.drop sel.length,_,fun b B hb=>by rw [bj _ _ _ (dE hb)];exact hb,
     h.gen (own':=gh own own2 dst (kD own2 vs2.length) sel st.blk.length) (fun B off=>∃x t,Bn own sel x=some (B,t)∧t≤off) (fun t=>dst=some t) (fun k=>jZ sel st.blk.length k≠none)
      hgrow.kept ?_ ?_ ?_ (by rw [eV];exact h.size) (by rw [dm];exact h.defers) ?_ ?_ ?_ ?_ ?_ ?_⟩
    · rintro B off ⟨x,t,hx,ht⟩
      obtain⟨y,hy,hp⟩:=jc hx
      refine⟨y,t,hy,ht, ?_⟩
      cases y with
      | tmp=>exact hp.elim
      | self k=>exact hin hp
      | cell k j=>exact hin hp
    · intro y B t' hy
      rcases hcase y B t' hy with⟨z,hz,_⟩ | ⟨hy,_⟩
      · have hz':=hsome2 _ _ _ hz
        rcases hgrow.news z B t' hz' with hn | ⟨x,t,hx,ht⟩
        · exact .inr ⟨hn,(hrel.out _ _ _ hz).1⟩
        · obtain⟨x',hx',_⟩:=jc hx
          exact .inl ⟨x',t,hx',ht⟩
      · exact .inl ⟨y,t',hy,Nat.le_refl _⟩
    · intro x y B t t' hx hy
      rcases hcase x B t hx with⟨x',hx',sx⟩ | ⟨hx,hpx,_⟩<;>rcases hcase y B t' hy with⟨y',hy',sy⟩ | ⟨hy,hpy,_⟩
      · have:=hrel.inj _ _ _ _ _ hx' hy'
        subst this
        rcases sx with⟨d,p,i,q,e1,rfl,e2,e3⟩ | ⟨k,i,e1,rfl,e2⟩ | ⟨k,i,j,e1,rfl,e2⟩<;>rcases sy with⟨d',p',i',q',f1,rfl,f2,f3⟩ | ⟨k',i',f1,rfl,f2⟩ | ⟨k',i',j',f1,rfl,f2⟩<;>rw [e2]at f2<;>cases f2
        · rw [e1]at f1
          cases f1
          rcases e3 with⟨g1,g2,g3⟩ | ⟨g1,g2⟩<;>rcases f3 with⟨r1,r2,r3⟩ | ⟨r1,r2⟩
          · rw [g3,r3]
          · exact absurd g1 r1
          · exact absurd r1 g1
          · rw [g2,r2]
        · rw [AY e1 f1]
        · rw [AY e1 f1]
      · exact absurd (.inr ⟨y,t',hy,Nat.le_refl _,hpy⟩) ((hrel.out _ _ _ hx').2 t')
      · exact absurd (.inr ⟨x,t,hx,Nat.le_refl _,hpx⟩) ((hrel.out _ _ _ hy').2 t)
      · exact h.inj _ _ _ _ _ hx hy
    · intro t ht
      refine⟨by simp only [St.apply,cE,jC,ht,if_false], ?_,fun p=>by simp only [gh,ht,if_false]⟩
      rw [bU a dst _ t (by rw [h.size];exact hd)]
      simp only [ht,if_false]
    · intro _ t ht
      simp only [St.apply,cE]
      rw [bU a dst _ t (by rw [h.size];exact hd)]
      have hV':=hV.less hFF
      subst ht
      simpa only [if_true,gh]using hV'
    · simp only [St.apply,ba,aN,bq,List.length_append,ep,List.length_drop,hnb,hrho,hbs2]
    · intro b B hb;rw [bj _ _ _ (dE hb)];exact hb
    · intro k hk
      have hk:jZ sel st.blk.length k=none:=Classical.not_not.1 hk
      refine⟨by rw [hblk,hk],by simp only [gh,hk],fun j=>by simp only [gh,hk]⟩
    · intro _ k hk
      rw [hblk]
      cases hi:jZ sel st.blk.length k with
      | none=>exact absurd hi hk
      | some i=>
       dsimp only
       have hb:=hrel.blk i
       dsimp only at hb
       by_cases hib:i<bs0.length
       · have hi1:i<(fG sg.blks bs0 0).length:=by omega
         have hi2:i<bs2.length:=by omega
         rw [aY,List.getElem?_eq_getElem hi1]at hb
         rw [aY,List.getElem?_eq_getElem hi2]
         exact hb.remap hμ (hφ hi) hFF (by simp only [gh,hi]) (fun j=>by simp only [gh,hi]) (y2 i hi1 hi2)
       · rw [aY,List.getElem?_eq_none (by omega)]at hb⊢
         exact⟨by simp only [gh,hi];exact hb.1,fun j=>by simp only [gh,hi];exact hb.2 j⟩
def St.same' (s t:St):Prop:=(∀x,get s.fr x=get t.fr x)∧s.blk=t.blk
theorem After.same' {st1 st':St}{a':Act}{w':World}(h:After E R ρ own N w st1 a' w')(hs:st1.same' st'):After E R ρ own N w st' a' w':=by
 obtain⟨ρ',own',h1,h2,h3⟩:=h
 refine⟨ρ',own',h1,⟨h2.size,h2.defers,fun t=>by rw [←hs.1 t];exact h2.fr t,by rw [←hs.2];exact h2.rho,fun k=>by rw [←hs.2];exact h2.blk k,h2.inj,h2.out,h2.low⟩,h3⟩
theorem Fl {call:cQ}{sg:Sig}{f:FuncId}{args:List AV}{u:Upd}(hu:eT call sg f args st some=some u):u.dis=none∧True:=by
 unfold eT at hu
 dsimp only at hu
 split at hu<;>try (cases hu;done)
 rename_i args' bs _ _
 cases hc:call f args' bs with
 | mk known r=>
  rw [hc]at hu
  simp only [kv]at hu
  unfold qH l3 at hu
  cases known<;>simp only [cond_true,cond_false]at hu<;>try (cases hu;done)
  cases hok:(sS sg r).ok r<;>simp only [hok,cond_true,cond_false]at hu<;>try (cases hu;done)
  split at hu<;>try (cases hu;done)
  replace hu:=(ab hu).2
  cases hu
  exact⟨rfl,trivial⟩
theorem wx {bs:List Block}:∀{k:Nat} {c:Block},nth bs k=some c→kz bs k=c:=by
 induction bs with
 | nil=>intro k c h;simp [nth]at h
 | cons b bs ih=>
  intro k c h
  cases k with
  | zero=>simp only [nth,Option.some.injEq]at h;exact h
  | succ k=>simp only [nth]at h;exact ih h
theorem Cn (bs:List Block):∀(k:Nat),setN bs k (kz bs k)=bs:=by
 induction bs with
 | nil=>intro k;cases k<;>rfl
 | cons b bs ih=>
  intro k
  cases k with
  | zero=>rfl
  | succ k=>simp only [setN,kz,ih]
theorem ne {bs:List Block}:∀{l:List (Nat×Block)},gI bs l=true→bz bs l=bs
 | [],_=>rfl
 | (k,c)::r,h=>by
  simp only [gI,Jp,Bool.and_eq_true,decide_eq_true_eq]at h
  simp only [bz]
  rw [←h.1,Cn]
  exact ne h.2
theorem CM {call:cQ}(hcall:fT P E call)(h:Rel E R ρ own N st a w){tk:List Nat}{sg:Option Sig}{o:Oper}(hc:tE o.op=true){u:Upd}(hu:actK E call tk sg o st some=some u)(hd:∀d,o.dst=some d→d<N):
 ∃f vals,(execOp a.eval o).run P w=.ok (.enter f vals) w∧Calls P f vals w fun e w'=>∃v,e=.returned v∧After E R ρ own N w (st.apply o.dst u) (a.put o.dst v) w':=by
 cases hop:o.op<;>rw [hop]at hc<;>try (cases hc;done)
 rename_i c
 cases hcal:c.callee<;>simp [tE,hcal]at hc
 rename_i g
 simp only [actK,hop,hcal]at hu
 have hg:=a9 h g
 split at hu<;>try (cases hu;done)
 rename_i f caps hev
 rw [hev]at hg
 cases hfn:E.funcs f with
 | none=>simp [hfn]at hu
 | some fn=>
  simp only [hfn]at hu
  obtain⟨g',hval,hcap⟩:∃g':Nat→Value,a.eval g=.func (.func f) #[] ((List.range caps.length).map g').toArray∧∀(i:Nat) (hi:i<caps.length),AR E w (Fn own R) ρ caps[i] (g' i) none:=by
   have hg:=hg.dis
   simp only [AV.dis,AC.dis]at hg
   generalize a.eval g=vg at hg
   cases hg with
   | one _ _ _ hh _=>cases hh with | fn _ _ g' hr=>exact⟨g',rfl,hr⟩
  obtain⟨e1,e2⟩:=oo h c.args.toList
  have hcv:∀(l:List AC),actK.capsV l=l.map AV.one:=by
   intro l;induction l<;>simp_all [actK.capsV]
  have hpure:∃u1,eT call (sg.getD fn.1) f (app (evL st.fr c.args.toList) (actK.capsV caps)) st some=some u1∧(st.apply o.dst u1).same' (st.apply o.dst u):=by
   split at hu
   · obtain⟨u1,h1,h2,h3,h4⟩:=jD _ _ _ _ _ hu
     obtain⟨d1,h5⟩:=Fl h1
     refine⟨u1,h1,fun x=> ?_, ?_⟩
     · rw [h4];simp only [St.apply,d1]
     · rw [h4];simp only [St.apply,h2,ne h3,bz]
   · exact⟨u,hu,fun _=>rfl,rfl⟩
  clear hu
  obtain⟨u1,hu,hsame⟩:=hpure
  have hcs:=Az (P:=P) hcall h (vals:=c.args.toList.map a.eval++(List.range caps.length).map g') (dst:=o.dst) (by simp [ba,hcv,e1]) (fun i h1 h2=>by
   simp only [ba,hcv]at h1⊢
   by_cases hi:i<(evL st.fr c.args.toList).length
   · rw [List.getElem_append_left hi,List.getElem_append_left (by simpa [e1]using hi)]
     rw [List.getElem_map]
     exact e2 i hi (by omega)
   · rw [List.getElem_append_right (by omega),List.getElem_append_right (by simp;simp at e1;omega)]
     simp only [List.getElem_map,List.getElem_range,List.length_map,e1]
     exact .one _ _ _ (hcap _ (by simp at h1;omega)) fun _ _=>rfl) hu hd
  obtain⟨k1,k2⟩:=hcs
  replace k2:Calls P f (c.args.toList.map a.eval++(List.range caps.length).map g').toArray w fun e w'=>∃v,e=.returned v∧After E R ρ own N w (st.apply o.dst u) (a.put o.dst v) w':=k2.mono (fun e w' he=>by
   obtain⟨v,e1,hA⟩:=he
   exact⟨v,e1,hA.same' hsame⟩)
  refine⟨f,(c.args.toList.map a.eval++(List.range caps.length).map g').toArray, ?_,k2⟩
  have hargs:(c.args.toList.map a.eval++(List.range caps.length).map g').toArray=c.args.map a.eval++((List.range caps.length).map g').toArray:=by
   apply Array.ext';simp
  simp only [execOp,hop,resolve,hcal,hval,Deferred.ofValue,Sem.run_bind,Sem.run_pure,Result.andThen_ok,invoke]
  rw [hargs]
  simp only [Array.empty_append]
  exact xE k1 _ w
end Go.Abs
