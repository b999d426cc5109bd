/-
  Control: what the interpreter makes of a function is what a call of it does.
-/
import Derived.Test.YtpafnokcmhlbgaaA23
import Derived.Scope
namespace Go.Abs

variable {E : Env} {P : Program} {R : Places} {ρ : List Nat} {own : OI → Owner} {N : Nat} {st : St} {a : Act} {w : World}

def eraseI : AItem → List Item
  | .code c _ => [.code c]
  | .inBlock id => [.inBlock id]
  | .inLoop c _ => [.inLoop c]
  | .inScope c _ => [.inScope c]
  | .cut _ => []

def erase : List AItem → List Item
  | [] => []
  | x :: k => eraseI x ++ erase k

theorem erase_push (m : Option (List (Nat × Bool))) (k : List AItem) : erase (push m k) = erase k := by cases m <;> rfl

def okOps (n : Nat) : List Oper → Bool
  | [] => true
  | o :: r => (match o.dst with | none => true | some d => Nat.blt d n) && okOps n r

def okCode (n : Nat) : Code → Bool
  | .region _ ops _ => okOps n ops.toList
  | .seq x y => okCode n x && okCode n y
  | .cond _ x y => okCode n x && okCode n y
  | .block _ x => okCode n x
  | .loop x => okCode n x
  | .scope x => okCode n x
  | _ => true

def okItem (n : Nat) : AItem → Prop
  | .code c _ => okCode n c = true
  | .inLoop c _ => okCode n c = true
  | .inScope c _ => okCode n c = true
  | _ => True

def okStack (n : Nat) (k : List AItem) : Prop := ∀ x ∈ k, okItem n x

theorem okOps_mem {n : Nat} : ∀ {l : List Oper}, okOps n l = true → ∀ o ∈ l, ∀ d, o.dst = some d → d < n
  | [], _, o, h => by simp at h
  | p :: r, h, o, hm => by
    simp only [okOps, Bool.and_eq_true] at h
    intro d hd
    rcases List.mem_cons.1 hm with rfl | hm
    · rw [hd] at h; exact Nat.lt_of_succ_le (Nat.le_of_ble_eq_true h.1)
    · exact okOps_mem h.2 o hm d hd

theorem okStack_cons {n : Nat} {x : AItem} {k : List AItem} : okStack n (x :: k) ↔ okItem n x ∧ okStack n k := by
  unfold okStack; simp

theorem okStack_push {n : Nat} {m : Option (List (Nat × Bool))} {k : List AItem} : okStack n (push m k) ↔ okStack n k := by
  cases m with
  | none => rfl
  | some m => simp only [push, okStack_cons, okItem, true_and]

theorem labelOf_eq : ∀ (c : Code) (l : Nat), labelOf c l = findLabel c l
  | .seq x y, l => by simp only [labelOf, findLabel, labelOf_eq x l, labelOf_eq y l]; rfl
  | .label m, l => by
    simp only [labelOf, findLabel]
    by_cases e : m = l
    · subst e; simp [nbeq_self]
    · simp [nbeq_ne e, e]
  | .skip, _ => rfl
  | .region _ _ _, _ => rfl
  | .cond _ _ _, _ => rfl
  | .block _ _, _ => rfl
  | .loop _, _ => rfl
  | .rangeFunc _ _ _ _, _ => rfl
  | .exit _, _ => rfl
  | .scope _, _ => rfl
  | .goto _, _ => rfl
  | .ret, _ => rfl
  | .refuse _, _ => rfl

theorem labelOf_ok {n : Nat} : ∀ {c : Code} {l : Nat} {r : Code}, labelOf c l = some r → okCode n c = true → okCode n r = true
  | .seq x y, l, r, h, hc => by
    simp only [okCode, Bool.and_eq_true] at hc
    simp only [labelOf] at h
    split at h
    · rename_i r' e
      cases h
      simp only [okCode, Bool.and_eq_true]
      exact ⟨labelOf_ok e hc.1, hc.2⟩
    · exact labelOf_ok h hc.2
  | .label m, l, r, h, hc => by
    simp only [labelOf] at h
    cases hb : Nat.beq m l with
    | false => rw [hb] at h; cases h
    | true => rw [hb] at h; cases h; rfl
  | .skip, _, _, h, _ => by cases h
  | .region _ _ _, _, _, h, _ => by cases h
  | .cond _ _ _, _, _, h, _ => by cases h
  | .block _ _, _, _, h, _ => by cases h
  | .loop _, _, _, h, _ => by cases h
  | .rangeFunc _ _ _ _, _, _, h, _ => by cases h
  | .exit _, _, _, h, _ => by cases h
  | .scope _, _, _, h, _ => by cases h
  | .goto _, _, _, h, _ => by cases h
  | .ret, _, _, h, _ => by cases h
  | .refuse _, _, _, h, _ => by cases h

theorem exitA_sound {n id : Nat} : ∀ {k k' : List AItem}, exitA id k = some k' → exitTo id (erase k) = some (erase k') ∧ (okStack n k → okStack n k')
  | [], k', h => by cases h
  | x :: k, k', h => by
    cases x with
    | inBlock i =>
      simp only [exitA] at h
      by_cases e : i = id
      · subst e
        simp only [nbeq_self, cond_true, Option.some.injEq] at h
        subst h
        exact ⟨by simp [erase, eraseI, exitTo], fun hk => (okStack_cons.1 hk).2⟩
      · simp only [nbeq_ne e, cond_false] at h
        obtain ⟨h1, h2⟩ := exitA_sound (n := n) h
        exact ⟨by simpa [erase, eraseI, exitTo, e] using h1, fun hk => h2 (okStack_cons.1 hk).2⟩
    | code c an => obtain ⟨h1, h2⟩ := exitA_sound (n := n) (k := k) h; exact ⟨by simpa [erase, eraseI, exitTo] using h1, fun hk => h2 (okStack_cons.1 hk).2⟩
    | inLoop c an => obtain ⟨h1, h2⟩ := exitA_sound (n := n) (k := k) h; exact ⟨by simpa [erase, eraseI, exitTo] using h1, fun hk => h2 (okStack_cons.1 hk).2⟩
    | inScope c an => obtain ⟨h1, h2⟩ := exitA_sound (n := n) (k := k) h; exact ⟨by simpa [erase, eraseI, exitTo] using h1, fun hk => h2 (okStack_cons.1 hk).2⟩
    | cut m => obtain ⟨h1, h2⟩ := exitA_sound (n := n) (k := k) h; exact ⟨by simpa [erase, eraseI] using h1, fun hk => h2 (okStack_cons.1 hk).2⟩

theorem gotoA_sound {n l : Nat} : ∀ {k k' : List AItem}, gotoA l k = some k' → gotoIn l (erase k) = some (erase k') ∧ (okStack n k → okStack n k')
  | [], k', h => by cases h
  | x :: k, k', h => by
    cases x with
    | inScope c an =>
      simp only [gotoA] at h
      simp only [erase, eraseI, List.singleton_append, gotoIn, ← labelOf_eq]
      split at h
      · rename_i r e
        cases h
        rw [e]
        refine ⟨by simp [erase_push, erase, eraseI], fun hk => ?_⟩
        obtain ⟨h1, h2⟩ := okStack_cons.1 hk
        rw [okStack_push, okStack_cons, okStack_cons]
        exact ⟨labelOf_ok e h1, h1, h2⟩
      · rename_i e
        rw [e]
        obtain ⟨h1, h2⟩ := gotoA_sound (n := n) h
        exact ⟨h1, fun hk => h2 (okStack_cons.1 hk).2⟩
    | code c an => obtain ⟨h1, h2⟩ := gotoA_sound (n := n) (k := k) h; exact ⟨by simpa [erase, eraseI, gotoIn] using h1, fun hk => h2 (okStack_cons.1 hk).2⟩
    | inLoop c an => obtain ⟨h1, h2⟩ := gotoA_sound (n := n) (k := k) h; exact ⟨by simpa [erase, eraseI, gotoIn] using h1, fun hk => h2 (okStack_cons.1 hk).2⟩
    | inBlock i => obtain ⟨h1, h2⟩ := gotoA_sound (n := n) (k := k) h; exact ⟨by simpa [erase, eraseI, gotoIn] using h1, fun hk => h2 (okStack_cons.1 hk).2⟩
    | cut m => obtain ⟨h1, h2⟩ := gotoA_sound (n := n) (k := k) h; exact ⟨by simpa [erase, eraseI] using h1, fun hk => h2 (okStack_cons.1 hk).2⟩

/-- from here the function comes to its end, and hands back what is said -/
def Fin (P : Program) (E : Env) (R : Places) (ρ0 : List Nat) (own0 : OI → Owner) (w0 : World) (b : Frame) (cs : List Frame) (vs : List AV) (bs : List Block) (a : Act) (k : List Item) (w : World) : Prop :=
  ∃ v w' fr, Steps P (lone (b.at a k) cs w) (lone fr cs w') ∧ fr.fn = b.fn ∧ fr.leaving P w' (.returned v) ∧ Returned E R ρ0 own0 w0 vs bs (.returned v) w'

section walk
variable {ρ0 : List Nat} {own0 : OI → Owner} {w0 : World} {b : Frame} {cs : List Frame} {vs : List AV} {bs : List Block}

theorem Fin.steps {a' : Act} {k k' : List Item} {w' : World} (hs : Steps P (lone (b.at a k) cs w) (lone (b.at a' k') cs w')) (h : Fin P E R ρ0 own0 w0 b cs vs bs a' k' w') : Fin P E R ρ0 own0 w0 b cs vs bs a k w := by
  obtain ⟨v, w2, fr, h1, h2⟩ := h
  exact ⟨v, w2, fr, hs.trans h1, h2⟩

def JOk (P : Program) (E : Env) (R : Places) (ρ0 : List Nat) (own0 : OI → Owner) (w0 : World) (b : Frame) (cs : List Frame) (N : Nat) (J : JumpF) : Prop :=
  ∀ (k : List AItem) (st : St) (vs : List AV) (bs : List Block), J k st = some (vs, bs) → okStack N k → ∀ (ρ : List Nat) (own : OI → Owner) (a : Act) (w : World), Rel E R ρ own N st a w → (∀ b B, nth ρ0 b = some B → nth ρ b = some B) → Grow own0 own w0 w →
    Fin P E R ρ0 own0 w0 b cs vs bs a (erase k) w

theorem go_sound (G : Good P E) (hm : P.follows .mixedOrders = true) {call : CallF} (hcall : CallOk P E call) {fn : AFunc} {fn' : Func} {nw : Nat} (hfn : P.funcs[b.fn]? = some fn') (hkind : b.kind = .normal) (hres : fn'.results.toList = fn.results)
    (hlt : resLt fn.results N = true) (hnw : ρ0.length = nw) {J : JumpF} (hJ : JOk P E R ρ0 own0 w0 b cs N J) : ∀ d, JOk P E R ρ0 own0 w0 b cs N (go E call fn nw J d) := by
  have hend : ∀ {a : Act} {k : List Item} {w : World} {st : St} {ρ : List Nat} {own : OI → Owner} {vs : List AV} {bs : List Block}, ret E fn nw st = some (vs, bs) → Rel E R ρ own N st a w → (∀ b B, nth ρ0 b = some B → nth ρ b = some B) → Grow own0 own w0 w →
      step P (lone (b.at a k) cs w) = .next (lone { b.at a k with mode := .returning } cs w) → Fin P E R ρ0 own0 w0 b cs vs bs a k w := by
    intro a k w st ρ own vs bs hr h he hg hs
    obtain ⟨v, h1, h2⟩ := ret_sound G h he hnw hg hlt hres hr
    exact ⟨v, w, _, .one hs, rfl, ⟨rfl, h.defers, hkind, fn', hfn, h1⟩, h2⟩
  intro d
  induction d with
  | zero => intro k st vs bs h; cases h
  | succ d ih =>
    intro k st vs bs h hk ρ own a w hrel hext hg
    cases k with
    | nil => exact hend h hrel hext hg step_end
    | cons it k =>
      obtain ⟨hit, hkk⟩ := okStack_cons.1 hk
      simp only [go] at h
      cases it with
      | cut m =>
        obtain ⟨st1, ρ', own', h1, h2, h3, h4⟩ := mask_sound hrel h
        exact hJ k st1 vs bs h1 hkk ρ' own' a w h2 (fun b B hb => h4 b B (by have := nth_lt hb; omega) (hext _ _ hb)) (hg.trans h3)
      | inBlock id => exact (ih k st vs bs h hkk ρ own a w hrel hext hg).steps (.one step_inBlock)
      | inScope c an => exact (ih k st vs bs h hkk ρ own a w hrel hext hg).steps (.one step_inScope)
      | inLoop c an =>
        refine Fin.steps (.one step_inLoop) ?_
        have := ih _ st vs bs h (by rw [okStack_push, okStack_cons, okStack_cons]; exact ⟨hit, hit, hkk⟩) ρ own a w hrel hext hg
        rw [erase_push] at this
        exact this
      | code c an =>
        cases c with
        | skip => exact (ih k st vs bs h hkk ρ own a w hrel hext hg).steps (.one step_skip)
        | label l => exact (ih k st vs bs h hkk ρ own a w hrel hext hg).steps (.one step_label)
        | region id ops draw =>
          obtain ⟨e, a', w', hq, harr⟩ := region_wp (id := id) G hm hcall (okOps_mem hit) hrel h (fun e a' w' => match e with | .normal => ∃ st1, go E call fn nw J d k st1 = some (vs, bs) ∧ After E R ρ own N w st1 a' w' | _ => False) (fun st1 _ _ h1 h => ⟨st1, h1, h⟩) b (erase k) cs
          cases e <;> try exact hq.elim
          obtain ⟨st1, h1, ρ', own', q1, q2, q3⟩ := hq
          exact Fin.steps harr (ih k st1 vs bs h1 hkk ρ' own' a' w' q2 (fun b B hb => q1 _ _ (hext _ _ hb)) (hg.trans q3))
        | seq x y =>
          simp only [okItem, okCode, Bool.and_eq_true] at hit
          refine Fin.steps (.one step_seq) ?_
          have := ih _ st vs bs h (by rw [okStack_cons, okStack_push, okStack_cons]; exact ⟨hit.1, hit.2, hkk⟩) ρ own a w hrel hext hg
          simp only [erase, erase_push, eraseI, List.singleton_append] at this
          exact this
        | cond c x y =>
          simp only [okItem, okCode, Bool.and_eq_true] at hit
          dsimp only at h
          have hc := ev_rel hrel c
          split at h
          · rename_i t ht
            rw [ht] at hc
            have hc := hc.dis
            simp only [AV.dis, AC.dis] at hc
            have hv : a.eval c = .bool t := by
              generalize a.eval c = v at hc
              cases hc with | one _ _ _ hh _ => cases hh; rfl
            refine Fin.steps (.one (step_cond hv)) ?_
            cases t with
            | true => exact ih (.code x an.fst :: k) st vs bs h (okStack_cons.2 ⟨hit.1, hkk⟩) ρ own a w hrel hext hg
            | false => exact ih (.code y an.snd :: k) st vs bs h (okStack_cons.2 ⟨hit.2, hkk⟩) ρ own a w hrel hext hg
          · cases h
        | block id x =>
          refine Fin.steps (.one step_block) ?_
          exact ih _ st vs bs h (by rw [okStack_cons, okStack_cons]; exact ⟨hit, trivial, hkk⟩) ρ own a w hrel hext hg
        | loop x =>
          refine Fin.steps (.one step_loop) ?_
          have := ih _ st vs bs h (by rw [okStack_push, okStack_cons, okStack_cons]; exact ⟨hit, hit, hkk⟩) ρ own a w hrel hext hg
          rw [erase_push] at this
          exact this
        | exit id =>
          dsimp only at h
          split at h
          · rename_i k' e
            obtain ⟨e1, e2⟩ := exitA_sound (n := N) e
            exact Fin.steps (.one (step_exit e1)) (ih k' st vs bs h (e2 hkk) ρ own a w hrel hext hg)
          · cases h
        | scope x =>
          refine Fin.steps (.one step_scope) ?_
          exact ih _ st vs bs h (by rw [okStack_cons, okStack_cons]; exact ⟨hit, hit, hkk⟩) ρ own a w hrel hext hg
        | goto l =>
          dsimp only at h
          split at h
          · rename_i k' e
            obtain ⟨e1, e2⟩ := gotoA_sound (n := N) e
            exact Fin.steps (.one (step_goto e1)) (ih k' st vs bs h (e2 hkk) ρ own a w hrel hext hg)
          · cases h
        | ret => exact hend h hrel hext hg step_ret
        | rangeFunc _ _ _ _ => cases h
        | refuse _ => cases h

theorem goF_sound (G : Good P E) (hm : P.follows .mixedOrders = true) {call : CallF} (hcall : CallOk P E call) {fn : AFunc} {fn' : Func} {nw : Nat} (hfn : P.funcs[b.fn]? = some fn') (hkind : b.kind = .normal) (hres : fn'.results.toList = fn.results)
    (hlt : resLt fn.results N = true) (hnw : ρ0.length = nw) : ∀ n, JOk P E R ρ0 own0 w0 b cs N (goF E call fn nw n)
  | 0 => fun _ _ _ _ h => by cases h
  | n + 1 => by
    have ih := go_sound G hm hcall hfn hkind hres hlt hnw (goF_sound G hm hcall hfn hkind hres hlt hnw n)
    intro k st vs bs h
    rw [goF_succ] at h
    revert h
    generalize depth = d
    intro h
    exact ih d k st vs bs h

end walk

/- FUNCTIONS -/

theorem okCode_mono {n m : Nat} (h : n ≤ m) : ∀ {c : Code}, okCode n c = true → okCode m c = true
  | .region id ops draw, hc => by
    simp only [okCode] at hc ⊢
    have key : ∀ l : List Oper, okOps n l = true → okOps m l = true := by
      intro l
      induction l with
      | nil => intro; rfl
      | cons o r ih =>
        intro hl
        simp only [okOps, Bool.and_eq_true] at hl ⊢
        refine ⟨?_, ih hl.2⟩
        cases hd : o.dst with
        | none => rfl
        | some d =>
          have h1 := hl.1
          rw [hd] at h1
          exact Nat.ble_eq_true_of_le (Nat.le_trans (Nat.le_of_ble_eq_true h1) h)
    exact key _ hc
  | .seq x y, hc => by
    simp only [okCode, Bool.and_eq_true] at hc ⊢
    exact ⟨okCode_mono h hc.1, okCode_mono h hc.2⟩
  | .cond _ x y, hc => by
    simp only [okCode, Bool.and_eq_true] at hc ⊢
    exact ⟨okCode_mono h hc.1, okCode_mono h hc.2⟩
  | .block _ x, hc => okCode_mono (c := x) h hc
  | .loop x, hc => okCode_mono (c := x) h hc
  | .scope x, hc => okCode_mono (c := x) h hc
  | .skip, _ => rfl
  | .rangeFunc _ _ _ _, _ => rfl
  | .exit _, _ => rfl
  | .label _, _ => rfl
  | .goto _, _ => rfl
  | .ret, _ => rfl
  | .refuse _, _ => rfl

theorem resLt_mono {n m : Nat} (h : n ≤ m) : ∀ {l : List ResultVar}, resLt l n = true → resLt l m = true
  | [], _ => rfl
  | .tmp t :: r, hl => by
    simp only [resLt, Bool.and_eq_true] at hl ⊢
    exact ⟨Nat.ble_eq_true_of_le (Nat.le_trans (Nat.le_of_ble_eq_true hl.1) h), resLt_mono h hl.2⟩
  | .cell t _ :: r, hl => by
    simp only [resLt, Bool.and_eq_true] at hl ⊢
    exact ⟨Nat.ble_eq_true_of_le (Nat.le_trans (Nat.le_of_ble_eq_true hl.1) h), resLt_mono h hl.2⟩

/-- the function's form is the program's -/
structure CodeOk (P : Program) (f : FuncId) (fn : AFunc) : Prop where
  form : ∃ fn', P.funcs[f]? = some fn' ∧ fn'.name ≠ "runtime.NumGoroutine" ∧ fn'.body = some fn.code ∧ fn'.results.toList = fn.results ∧ okCode fn'.ntmps fn.code = true ∧ resLt fn.results fn'.ntmps = true

def PrimOk (P : Program) (E : Env) (f : FuncId) (g : List AV → List Block → Option (List AV × List Block)) : Prop :=
  ∀ args blk vs bs, g args blk = some (vs, bs) → Callable P f ∧ ∀ (R : Places) (ρ : List Nat) (own : OI → Owner) (vals : List Value) (w : World), vals.length = args.length → (∀ t p, own (.tmp t p) = none) → Rel E R ρ own vals.length ⟨zipFr args 0, blk⟩ ⟨vals.toArray, []⟩ w →
    Calls P f vals.toArray w (Returned E R ρ own w vs bs)

structure FuncsOk (P : Program) (E : Env) : Prop where
  code : ∀ f sg fn, E.funcs f = some (sg, .code fn) → CodeOk P f fn
  prim : ∀ f sg g, E.funcs f = some (sg, .prim g) → PrimOk P E f g

theorem get_initFr (ownp : List Nat) : ∀ (ts : List TypeId) (vs : List AV) (i t : Nat), (∃ v ty, (nth vs (t - i) = some v ∧ i ≤ t) ∧ get (initFr E ownp ts vs i) t = cond (memN ownp (1000000 + t)) v.dis (cond (memN ownp t) (E.fit ty v) (E.fit ty v.dis))) ∨ get (initFr E ownp ts vs i) t = .undef
  | [], _, _, _ => .inr rfl
  | _ :: _, [], _, _ => .inr rfl
  | ty :: ts, v :: vs, i, t => by
    simp only [initFr, get]
    by_cases e : i = t
    · subst e
      simp only [nbeq_self, cond_true]
      exact .inl ⟨v, ty, ⟨by simp [nth], Nat.le_refl _⟩, rfl⟩
    · simp only [nbeq_ne e, cond_false]
      rcases get_initFr ownp ts vs (i + 1) t with ⟨v', ty', ⟨h1, h2⟩, h3⟩ | h
      · refine .inl ⟨v', ty', ⟨?_, by omega⟩, h3⟩
        have : t - i = (t - (i + 1)) + 1 := by omega
        rw [this]; exact h1
      · exact .inr h

theorem runF_sound (G : Good P E) (hm : P.follows .mixedOrders = true) (hF : FuncsOk P E) {call : CallF} (hcall : CallOk P E call) (n : Nat) : CallOk P E (fun f args blk => ansOf (runF E call n f args blk)) := by
  intro f args blk vs bs h
  replace h := ansOf_eq h
  unfold runF at h
  cases hf : E.funcs f with
  | none => rw [hf] at h; cases h
  | some x =>
    obtain ⟨sg, fd⟩ := x
    rw [hf] at h
    cases fd with
    | prim g => exact hF.prim f sg g hf args blk vs bs h
    | code fn =>
      dsimp only at h
      cases hlen : Nat.beq (lenN args) (lenN fn.params) with
      | false => rw [hlen] at h; cases h
      | true =>
        rw [hlen] at h
        simp only [cond_true] at h
        obtain ⟨fn', h1, h2, h3, h4, h5, h6⟩ := (hF.code f sg fn hf).form
        refine ⟨⟨fn', h1, h2, by simp [h3]⟩, fun R ρ own vals w hv hown hrel => ?_⟩
        intro cs
        let b : Frame := { (default : Frame) with fn := f, kind := .normal }
        have henter : Frame.enter P f vals.toArray .normal = b.at { tmps := vals.toArray ++ Array.replicate (fn'.ntmps - vals.toArray.size) undef, defers := [] } [.code fn.code] := by
          simp [Frame.enter, Frame.at, h1, h3, b]
        have hext := hrel.extend (fn'.ntmps - vals.toArray.size)
        have hle : fn'.ntmps ≤ vals.length + (fn'.ntmps - vals.toArray.size) := by simp; omega
        have hrel1 : Rel E R ρ own (vals.length + (fn'.ntmps - vals.toArray.size)) ⟨initFr E fn.ownp fn.params args 0, blk⟩ { tmps := vals.toArray ++ Array.replicate (fn'.ntmps - vals.toArray.size) undef, defers := [] } w := by
          refine ⟨hext.size, hext.defers, fun t => ?_, hext.rho, hext.blk, hext.inj, hext.out, hext.low⟩
          have hon : (fun p => own (.tmp t p)) = fun _ => none := funext fun p => hown t p
          rcases get_initFr (E := E) fn.ownp fn.params args 0 t with ⟨v, ty, ⟨e1, _⟩, e2⟩ | e
          · rw [e2]
            have ht := hext.fr t
            have hz : get (zipFr args 0) t = v := by rw [get_zip0]; simp at e1; rw [e1]; rfl
            dsimp only at ht
            rw [hz] at ht
            cases memN fn.ownp (1000000 + t) with
            | true => rw [hon]; exact ht.dis
            | false =>
            cases memN fn.ownp t with
            | true => exact fit_rel ht
            | false => rw [hon]; exact fit_rel ht.dis
          · rw [e]; exact .undef _ _ fun p => hown t p
        have hnb : ρ.length = lenN blk := by rw [lenN_eq]; exact hrel.rho
        have := goF_sound (b := b) (cs := cs) (ρ0 := ρ) (own0 := own) (w0 := w) (R := R) G hm hcall (fn := fn) (fn' := fn') h1 rfl h4 (resLt_mono hle h6) hnb n _ _ vs bs h (by
          intro x hx
          simp only [List.mem_singleton] at hx
          subst hx
          exact okCode_mono hle h5) ρ own _ w hrel1 (fun _ _ h => h) (.refl _ _ _ fun x B t hx => ⟨x, t, hx, Nat.le_refl _⟩)
        obtain ⟨v, w', fr, k1, k2, k3, k4⟩ := this
        refine ⟨.returned v, w', fr, k4, ?_, k2, k3⟩
        rw [henter]
        exact k1

theorem run_sound (G : Good P E) (hm : P.follows .mixedOrders = true) (hF : FuncsOk P E) : ∀ n, CallOk P E (run E n)
  | 0 => fun _ _ _ _ _ h => by cases h
  | n + 1 => fun f args blk vs bs h => runF_sound G hm hF (run_sound G hm hF n) n f args blk vs bs h

end Go.Abs
