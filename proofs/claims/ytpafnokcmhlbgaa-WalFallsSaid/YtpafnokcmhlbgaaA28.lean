/-
  More calls known, more runs known; and contracts of functions, one on top of the other.
-/
import Derived.Test.YtpafnokcmhlbgaaA27
namespace Go.Abs

variable {E : Env} {call call' : CallF}

/-- what the one knows, the other knows too -/
def Knows (call call' : CallF) : Prop := ∀ f args blk r, call f args blk = (true, r) → call' f args blk = (true, r)

theorem callK_mono (h : Knows call call') {sg : Sig} {f : FuncId} {args : List AV} {st : St} {u : Upd} (hu : callK call sg f args st some = some u) : callK call' sg f args st some = some u := by
  unfold callK at hu ⊢
  dsimp only at hu ⊢
  split at hu <;> try (cases hu; done)
  rename_i args' bs h1 h2
  cases hc : call f args' bs with
  | mk known r =>
    rw [hc] at hu
    cases known with
    | false => cases hu
    | true =>
      rw [h _ _ _ _ hc]
      exact hu

theorem pureCK_mono (h : Knows call call') {sg : Sig} {f : FuncId} {args : List AV} {st : St} {u : Upd} (hu : pureCK call sg f args st some = some u) : pureCK call' sg f args st some = some u := by
  obtain ⟨u1, h1, h2, h3, rfl⟩ := pureCK_some _ _ _ _ _ hu
  unfold pureCK
  have hn := callK_nat (f := fun u => cond (isNilL u.nu && sameWr st.blk u.wr) (some (⟨u.val, none, [], [], u.rd⟩ : Upd)) none) call' sg f args st some
  simp only [Option.bind_some] at hn
  rw [← hn, callK_mono h h1]
  simp only [Option.bind_some, h2, isNilL, h3, Bool.and_self, cond_true]

theorem actK_mono (h : Knows call call') {tk : List Nat} {sg : Option Sig} {o : Oper} {st : St} {u : Upd} (hu : actK E call tk sg o st some = some u) : actK E call' tk sg o st some = some u := by
  unfold actK at hu ⊢
  cases hop : o.op <;> rw [hop] at hu <;> try exact hu
  case makeFunc fn first caps => cases fn <;> exact hu
  case call c =>
    dsimp only at hu ⊢
    cases hcal : c.callee <;> rw [hcal] at hu <;> try exact hu
    case builtin b => cases b <;> exact hu
    case value g =>
      dsimp only at hu ⊢
      split at hu <;> try (cases hu; done)
      split at hu <;> try (cases hu; done)
      split at hu
      · exact pureCK_mono h hu
      · exact callK_mono h hu

theorem actK_monoK {β : Type} (h : Knows call call') {tk : List Nat} {sg : Option Sig} {o : Oper} {st : St} {K K' : Upd → Option β} {r : β} (hK : ∀ u, K u = some r → K' u = some r) (hu : actK E call tk sg o st K = some r) : actK E call' tk sg o st K' = some r := by
  obtain ⟨u, h1, h2⟩ := actK_some hu
  have := actK_nat E K' call' tk sg o st some
  simp only [Option.bind_some] at this
  rw [← this, actK_mono h h1]
  exact hK u h2

theorem condW_mono {β : Type} {want b : Bool} {x y x' y' : Option β} {r : β} (h1 : x = some r → x' = some r) (h2 : y = some r → y' = some r) (h : condW want b x y = some r) : condW want b x' y' = some r := by
  cases want <;> cases b <;> first | exact h1 h | exact h2 h

theorem guardK_mono {β : Type} {all : List Oper} {o : Oper} {st : St} {yes no yes' no' : St → Option β} {r : β} (h1 : ∀ s, yes s = some r → yes' s = some r) (h2 : ∀ s, no s = some r → no' s = some r) (h : guardK all o st yes no = some r) :
    guardK all o st yes' no' = some r := by
  unfold guardK at h ⊢
  split at h
  · exact h1 _ h
  · split at h
    · split at h
      · exact condW_mono (h1 _) (h2 _) h
      · exact h2 _ h
      · cases h
    · exact h2 _ h

theorem regK_mono {β : Type} (h : Knows call call') {tk : List Nat} {sigs : List (Nat × Sig)} {all : List Oper} {K K' : St → Option β} {r : β} (hK : ∀ s, K s = some r → K' s = some r) : ∀ (l : List Oper) (i : Nat) (st : St), regK E call tk sigs all l i st K = some r → regK E call' tk sigs all l i st K' = some r
  | [], _, st, hr => hK st hr
  | o :: l, i, st, hr => by
    simp only [regK] at hr ⊢
    exact guardK_mono (fun s hs => actK_monoK h (fun u hu => regK_mono h hK l (i + 1) _ hu) hs) (fun s hs => regK_mono h hK l (i + 1) _ hs) hr

theorem regDK_mono {β : Type} (h : Knows call call') {tk : List Nat} {sigs : List (Nat × Sig)} {all : List Oper} {bef : List (List Nat)} {K K' : St → Option β} {r : β} (hK : ∀ s, K s = some r → K' s = some r) : ∀ (l : List Oper) (i : Nat) (fps : List FP) (st : St),
    regDK E call tk sigs all bef l i fps st K = some r → regDK E call' tk sigs all bef l i fps st K' = some r
  | [], _, fps, st, hr => by
    simp only [regDK] at hr ⊢
    cases ho : openOk bef fps 0 [] with
    | false => rw [ho] at hr; cases hr
    | true => rw [ho] at hr; exact hK st hr
  | o :: l, i, fps, st, hr => by
    simp only [regDK] at hr ⊢
    exact guardK_mono (fun s hs => actK_monoK h (fun u hu => regDK_mono h hK l (i + 1) _ _ hu) hs) (fun s hs => regDK_mono h hK l (i + 1) _ _ hs) hr

theorem pairK_mono {β : Type} {ops : List Oper} {p : Nat} {th : Bool} {st : St} {K K' : St → Option β} {r : β} (hK : ∀ s, K s = some r → K' s = some r) (h : pairK E ops p th st K = some r) : pairK E ops p th st K' = some r := by
  rw [pairK_bind] at h ⊢
  obtain ⟨y, h1, h2⟩ := bind_some h
  rw [h1]
  exact hK _ h2

theorem foldO_mono {β : Type} {r : β} : ∀ {l l' : List (Option β)}, l.length = l'.length → (∀ (i : Nat) (h1 : i < l.length) (h2 : i < l'.length), l[i] = some r → l'[i] = some r) → foldO l = some r → foldO l' = some r
  | [], _, _, _, hr => by cases hr
  | [x], [y], _, hk, hr => hk 0 (by simp) (by simp) hr
  | [x], [], hl, _, _ => by simp at hl
  | [x], _ :: _ :: _, hl, _, _ => by simp at hl
  | x :: y :: l, [], hl, _, _ => by simp at hl
  | x :: y :: l, [_], hl, _, _ => by simp at hl
  | x :: y :: l, x' :: y' :: l', hl, hk, hr => by
    obtain ⟨h1, h2⟩ := sameO_some (show sameO x (foldO (y :: l)) = some r from hr)
    have h3 := hk 0 (by simp) (by simp) h1
    have h4 := foldO_mono (l := y :: l) (l' := y' :: l') (by simpa using hl) (fun i g1 g2 => hk (i + 1) (by simpa using g1) (by simpa using g2)) h2
    show sameO x' (foldO (y' :: l')) = some r
    unfold sameO
    simp only [List.getElem_cons_zero] at h3
    rw [h3, h4, if_pos rfl]

theorem exK_mono {β : Type} (h : Knows call call') {tk : List Nat} {sigs : List (Nat × Sig)} {all : List Oper} {K K' : St → Option β} {r : β} (hK : ∀ s, K s = some r → K' s = some r) : ∀ (n : Nat) (done : List Nat) (st : St), exK E call tk sigs all n done st K = some r → exK E call' tk sigs all n done st K' = some r
  | 0, done, st, hr => by
    simp only [exK] at hr ⊢
    obtain ⟨h1, h2⟩ := cond_none_some hr
    rw [h1, cond_true]
    exact hK _ h2
  | n + 1, done, st, hr => by
    have ih := exK_mono h (tk := tk) (sigs := sigs) (all := all) hK n
    simp only [exK] at hr ⊢
    split at hr
    · exact hK _ hr
    · rw [mapE_eq] at hr ⊢
      refine foldO_mono (by simp) (fun j g1 g2 hj => ?_) hr
      simp only [List.getElem_map] at hj ⊢
      split at hj
      · rename_i o ho
        simp only [ho]
        exact guardK_mono (fun s hs => actK_monoK h (fun u hu => ih _ _ hu) hs) (fun s hs => ih _ _ hs) hj
      · cases hj

theorem regionK_mono {β : Type} (h : Knows call call') {an : Ann} {ops : List Oper} {draw : Bool} {st : St} {K K' : St → Option β} {r : β} (hK : ∀ s, K s = some r → K' s = some r) (hr : regionK E call an ops draw st K = some r) : regionK E call' an ops draw st K' = some r := by
  unfold regionK at hr ⊢
  cases draw with
  | false =>
    dsimp only at hr ⊢
    cases hp : pairAt an.takes with
    | none =>
      rw [hp] at hr
      dsimp only at hr ⊢
      exact regK_mono h hK _ _ _ hr
    | some p =>
      obtain ⟨p, th⟩ := p
      rw [hp] at hr
      dsimp only at hr ⊢
      obtain ⟨hc, hr⟩ := cond_none_some hr
      rw [hc, cond_true]
      exact regK_mono h (fun s hs => pairK_mono (fun s hs => regK_mono h hK _ _ _ hs) hs) _ _ _ hr
  | true =>
    dsimp only at hr ⊢
    cases hx : memN an.takes 9000000 with
    | true =>
      rw [hx] at hr
      exact exK_mono h hK _ _ _ hr
    | false =>
    rw [hx] at hr
    dsimp only at hr ⊢
    cases hb : backward ops 0 with
    | false => rw [hb] at hr; cases hr
    | true => rw [hb] at hr; exact regDK_mono h hK _ _ _ _ hr

theorem maskK_mono {β : Type} {nw : Nat} {m : List (Nat × Bool)} {st : St} {K K' : St → Option β} {r : β} (hK : ∀ s, K s = some r → K' s = some r) (hr : maskK nw m st K = some r) : maskK nw m st K' = some r := by
  unfold maskK at hr ⊢
  dsimp only at hr ⊢
  split at hr
  · exact hK _ hr
  · cases hr

theorem go_mono (h : Knows call call') {fn : AFunc} {nw : Nat} {J J' : JumpF} (hJ : ∀ s st r, J s st = some r → J' s st = some r) : ∀ (d : Nat) (k : List AItem) (st : St) (r : List AV × List Block), go E call fn nw J d k st = some r → go E call' fn nw J' d k st = some r := by
  intro d
  induction d with
  | zero => intro k st r h; cases h
  | succ d ih =>
    intro k st r hr
    cases k with
    | nil => exact hr
    | cons it k =>
      simp only [go] at hr ⊢
      cases it with
      | cut m => exact maskK_mono (fun s hs => hJ _ _ _ hs) hr
      | inBlock id => exact ih _ _ _ hr
      | inScope c an => exact ih _ _ _ hr
      | inLoop c an => exact ih _ _ _ hr
      | code c an =>
        cases c with
        | region id ops draw => exact regionK_mono h (fun s hs => ih _ _ _ hs) hr
        | cond c x y =>
          dsimp only at hr ⊢
          split at hr
          · rename_i b _
            cases b <;> exact ih _ _ _ hr
          · cases hr
        | exit id =>
          dsimp only at hr ⊢
          split at hr
          · exact ih _ _ _ hr
          · cases hr
        | goto l =>
          dsimp only at hr ⊢
          split at hr
          · exact ih _ _ _ hr
          · cases hr
        | ret => exact hr
        | rangeFunc _ _ _ _ => cases hr
        | refuse _ => cases hr
        | skip => exact ih _ _ _ hr
        | label _ => exact ih _ _ _ hr
        | seq _ _ => exact ih _ _ _ hr
        | block _ _ => exact ih _ _ _ hr
        | loop _ => exact ih _ _ _ hr
        | scope _ => exact ih _ _ _ hr

theorem goF_mono (h : Knows call call') {fn : AFunc} {nw : Nat} : ∀ (n m : Nat), n ≤ m → ∀ (k : List AItem) (st : St) (r : List AV × List Block), goF E call fn nw n k st = some r → goF E call' fn nw m k st = some r
  | 0, _, _, _, _, _, hr => by cases hr
  | n + 1, 0, hnm, _, _, _, _ => by omega
  | n + 1, m + 1, hnm, k, st, r, hr => by
    have ih := goF_mono h (fn := fn) (nw := nw) n m (by omega)
    rw [goF_succ] at hr ⊢
    revert hr
    generalize depth = d
    intro hr
    exact go_mono h (fun s st r hs => ih s st r hs) d k st r hr

theorem runF_mono (h : Knows call call') {n m : Nat} (hnm : n ≤ m) {f : FuncId} {args : List AV} {blk : List Block} {r : List AV × List Block} (hr : runF E call n f args blk = some r) : runF E call' m f args blk = some r := by
  unfold runF at hr ⊢
  split at hr
  · rename_i fn _
    cases hb : Nat.beq (lenN args) (lenN fn.params) with
    | false => rw [hb] at hr; cases hr
    | true => rw [hb] at hr; exact goF_mono h n m hnm _ _ _ hr
  · exact hr
  · cases hr

/- MANY RUNS AS ONE: what is known to some member of a growing family of callees -/

section family
variable {C : Nat → CallF}

def Grows (C : Nat → CallF) : Prop := ∀ n m, n ≤ m → Knows (C n) (C m)

def Some1 (C : Nat → CallF) (call : CallF) : Prop := ∀ f args blk r, call f args blk = (true, r) → ∃ n, C n f args blk = (true, r)

theorem callK_fam (h : Some1 C call) {sg : Sig} {f : FuncId} {args : List AV} {st : St} {u : Upd} (hu : callK call sg f args st some = some u) : ∃ n, callK (C n) sg f args st some = some u := by
  unfold callK at hu ⊢
  dsimp only at hu ⊢
  split at hu <;> try (cases hu; done)
  rename_i args' bs h1 h2
  cases hc : call f args' bs with
  | mk known r =>
    rw [hc] at hu
    cases known with
    | false => cases hu
    | true =>
      obtain ⟨n, hn⟩ := h _ _ _ _ hc
      refine ⟨n, ?_⟩
      rw [hn]
      exact hu

theorem pureCK_fam (h : Some1 C call) {sg : Sig} {f : FuncId} {args : List AV} {st : St} {u : Upd} (hu : pureCK call sg f args st some = some u) : ∃ n, pureCK (C n) sg f args st some = some u := by
  obtain ⟨u1, h1, h2, h3, rfl⟩ := pureCK_some _ _ _ _ _ hu
  obtain ⟨n, h4⟩ := callK_fam h h1
  refine ⟨n, ?_⟩
  unfold pureCK
  have hn := callK_nat (f := fun u => cond (isNilL u.nu && sameWr st.blk u.wr) (some (⟨u.val, none, [], [], u.rd⟩ : Upd)) none) (C n) sg f args st some
  simp only [Option.bind_some] at hn
  rw [← hn, h4]
  simp only [Option.bind_some, h2, isNilL, h3, Bool.and_self, cond_true]

theorem actK_fam (h : Some1 C call) {tk : List Nat} {sg : Option Sig} {o : Oper} {st : St} {u : Upd} (hu : actK E call tk sg o st some = some u) : ∃ n, actK E (C n) tk sg o st some = some u := by
  unfold actK at hu ⊢
  cases hop : o.op <;> rw [hop] at hu <;> try exact ⟨0, hu⟩
  case makeFunc fn first caps => cases fn <;> exact ⟨0, hu⟩
  case call c =>
    dsimp only at hu ⊢
    cases hcal : c.callee <;> rw [hcal] at hu <;> try exact ⟨0, hu⟩
    case builtin b => cases b <;> exact ⟨0, hu⟩
    case value g =>
      dsimp only at hu ⊢
      split at hu <;> try (cases hu; done)
      split at hu <;> try (cases hu; done)
      split at hu
      · exact pureCK_fam h hu
      · exact callK_fam h hu

theorem condW_fam {β : Type} {want b : Bool} {x y : Option β} {x' y' : Nat → Option β} {r : β} (h1 : x = some r → ∃ n, x' n = some r) (h2 : y = some r → ∃ n, y' n = some r) (h : condW want b x y = some r) : ∃ n, condW want b (x' n) (y' n) = some r := by
  cases want <;> cases b <;> first | exact h1 h | exact h2 h

theorem guardK_fam {β : Type} {all : List Oper} {o : Oper} {st : St} {yes no : St → Option β} {yes' no' : Nat → St → Option β} {r : β} (h1 : ∀ s, yes s = some r → ∃ n, yes' n s = some r) (h2 : ∀ s, no s = some r → ∃ n, no' n s = some r) (h : guardK all o st yes no = some r) :
    ∃ n, guardK all o st (yes' n) (no' n) = some r := by
  unfold guardK at h ⊢
  split at h
  · exact h1 _ h
  · split at h
    · split at h
      · exact condW_fam (h1 _) (h2 _) h
      · exact h2 _ h
      · cases h
    · exact h2 _ h

/-- one continuation after the other -/
def KFam {σ β : Type} (K : σ → Option β) (K' : Nat → σ → Option β) (r : β) : Prop :=
  (∀ n m s, n ≤ m → K' n s = some r → K' m s = some r) ∧ ∀ s, K s = some r → ∃ n, K' n s = some r

theorem regK_fam {β : Type} (hg : Grows C) (h : Some1 C call) {tk : List Nat} {sigs : List (Nat × Sig)} {all : List Oper} {K : St → Option β} {K' : Nat → St → Option β} {r : β} (hK : KFam K K' r) : ∀ (l : List Oper) (i : Nat) (st : St), regK E call tk sigs all l i st K = some r → ∃ n, regK E (C n) tk sigs all l i st (K' n) = some r
  | [], _, st, hr => hK.2 st hr
  | o :: l, i, st, hr => by
    simp only [regK] at hr ⊢
    have hyes : ∀ s : St, actK E call tk (sigAt sigs i) o s (fun u => regK E call tk sigs all l (i + 1) (s.apply o.dst u) K) = some r →
        ∃ n, actK E (C n) tk (sigAt sigs i) o s (fun u => regK E (C n) tk sigs all l (i + 1) (s.apply o.dst u) (K' n)) = some r := by
      intro s hs
      obtain ⟨u, h1, h2⟩ := actK_some hs
      obtain ⟨n1, hn1⟩ := actK_fam h h1
      obtain ⟨n2, hn2⟩ := regK_fam hg h hK l (i + 1) _ h2
      refine ⟨max n1 n2, ?_⟩
      have := actK_nat E (fun u => regK E (C (max n1 n2)) tk sigs all l (i + 1) (s.apply o.dst u) (K' (max n1 n2))) (C (max n1 n2)) tk (sigAt sigs i) o s some
      simp only [Option.bind_some] at this
      rw [← this, actK_mono (hg _ _ (Nat.le_max_left n1 n2)) hn1]
      exact regK_mono (hg _ _ (Nat.le_max_right n1 n2)) (fun s hs => hK.1 _ _ s (Nat.le_max_right n1 n2) hs) _ _ _ hn2
    have hno : ∀ s : St, regK E call tk sigs all l (i + 1) (s.apply o.dst skipU) K = some r → ∃ n, regK E (C n) tk sigs all l (i + 1) (s.apply o.dst skipU) (K' n) = some r :=
      fun s hs => regK_fam hg h hK l (i + 1) _ hs
    exact guardK_fam hyes hno hr

theorem regDK_fam {β : Type} (hg : Grows C) (h : Some1 C call) {tk : List Nat} {sigs : List (Nat × Sig)} {all : List Oper} {bef : List (List Nat)} {K : St → Option β} {K' : Nat → St → Option β} {r : β} (hK : KFam K K' r) : ∀ (l : List Oper) (i : Nat) (fps : List FP) (st : St),
    regDK E call tk sigs all bef l i fps st K = some r → ∃ n, regDK E (C n) tk sigs all bef l i fps st (K' n) = some r
  | [], _, fps, st, hr => by
    simp only [regDK] at hr ⊢
    cases ho : openOk bef fps 0 [] with
    | false => rw [ho] at hr; cases hr
    | true => rw [ho] at hr; exact hK.2 st hr
  | o :: l, i, fps, st, hr => by
    simp only [regDK] at hr ⊢
    have hyes : ∀ s : St, actK E call tk (sigAt sigs i) o s (fun u => regDK E call tk sigs all bef l (i + 1) (app fps [footOf all o s u]) (s.apply o.dst u) K) = some r →
        ∃ n, actK E (C n) tk (sigAt sigs i) o s (fun u => regDK E (C n) tk sigs all bef l (i + 1) (app fps [footOf all o s u]) (s.apply o.dst u) (K' n)) = some r := by
      intro s hs
      obtain ⟨u, h1, h2⟩ := actK_some hs
      obtain ⟨n1, hn1⟩ := actK_fam h h1
      obtain ⟨n2, hn2⟩ := regDK_fam hg h hK l (i + 1) _ _ h2
      refine ⟨max n1 n2, ?_⟩
      have := actK_nat E (fun u => regDK E (C (max n1 n2)) tk sigs all bef l (i + 1) (app fps [footOf all o s u]) (s.apply o.dst u) (K' (max n1 n2))) (C (max n1 n2)) tk (sigAt sigs i) o s some
      simp only [Option.bind_some] at this
      rw [← this, actK_mono (hg _ _ (Nat.le_max_left n1 n2)) hn1]
      exact regDK_mono (hg _ _ (Nat.le_max_right n1 n2)) (fun s hs => hK.1 _ _ s (Nat.le_max_right n1 n2) hs) _ _ _ _ hn2
    have hno : ∀ s : St, regDK E call tk sigs all bef l (i + 1) (app fps [footOf all o s skipU]) (s.apply o.dst skipU) K = some r → ∃ n, regDK E (C n) tk sigs all bef l (i + 1) (app fps [footOf all o s skipU]) (s.apply o.dst skipU) (K' n) = some r :=
      fun s hs => regDK_fam hg h hK l (i + 1) _ _ hs
    exact guardK_fam hyes hno hr

theorem exK_fam {β : Type} (hg : Grows C) (h : Some1 C call) {tk : List Nat} {sigs : List (Nat × Sig)} {all : List Oper} {K : St → Option β} {K' : Nat → St → Option β} {r : β} (hK : KFam K K' r) : ∀ (n : Nat) (done : List Nat) (st : St), exK E call tk sigs all n done st K = some r → ∃ m, exK E (C m) tk sigs all n done st (K' m) = some r
  | 0, done, st, hr => by
    simp only [exK] at hr ⊢
    obtain ⟨h1, h2⟩ := cond_none_some hr
    rw [h1]
    exact hK.2 _ h2
  | n + 1, done, st, hr => by
    have ih := exK_fam hg h (tk := tk) (sigs := sigs) (all := all) hK n
    simp only [exK] at hr ⊢
    split at hr
    · exact hK.2 _ hr
    · rename_i i l _
      rw [mapE_eq] at hr
      have hone : ∀ j ∈ i :: l, ∃ m, ∀ m', m ≤ m' → (match nth all j with | some o => guardK all o st (fun st => actK E (C m') tk (sigAt sigs j) o st fun u => exK E (C m') tk sigs all n (j :: done) (st.apply o.dst u) (K' m')) (fun st => exK E (C m') tk sigs all n (j :: done) (st.apply o.dst skipU) (K' m')) | none => none) = some r := by
        intro j hj
        have hj2 := foldO_some hr _ (List.mem_map_of_mem hj)
        cases ho : nth all j with
        | none => simp only [ho] at hj2; cases hj2
        | some o =>
          simp only [ho] at hj2
          have hyes : ∀ s : St, actK E call tk (sigAt sigs j) o s (fun u => exK E call tk sigs all n (j :: done) (s.apply o.dst u) K) = some r →
              ∃ n1, actK E (C n1) tk (sigAt sigs j) o s (fun u => exK E (C n1) tk sigs all n (j :: done) (s.apply o.dst u) (K' n1)) = some r := by
            intro s hs
            obtain ⟨u, h1, h2⟩ := actK_some hs
            obtain ⟨n1, hn1⟩ := actK_fam h h1
            obtain ⟨n2, hn2⟩ := ih _ _ h2
            refine ⟨max n1 n2, ?_⟩
            have := actK_nat E (fun u => exK E (C (max n1 n2)) tk sigs all n (j :: done) (s.apply o.dst u) (K' (max n1 n2))) (C (max n1 n2)) tk (sigAt sigs j) o s some
            simp only [Option.bind_some] at this
            rw [← this, actK_mono (hg _ _ (Nat.le_max_left n1 n2)) hn1]
            exact exK_mono (hg _ _ (Nat.le_max_right n1 n2)) (fun s hs => hK.1 _ _ s (Nat.le_max_right n1 n2) hs) _ _ _ hn2
          obtain ⟨m, hm⟩ := guardK_fam hyes (fun s hs => ih _ _ hs) hj2
          refine ⟨m, fun m' hm' => ?_⟩
          exact guardK_mono (fun s hs => actK_monoK (hg _ _ hm') (fun u hu => exK_mono (hg _ _ hm') (fun s hs => hK.1 _ _ s hm' hs) _ _ _ hu) hs) (fun s hs => exK_mono (hg _ _ hm') (fun s hs => hK.1 _ _ s hm' hs) _ _ _ hs) hm
      have hall : ∀ (l' : List Nat), (∀ j ∈ l', j ∈ i :: l) → ∃ m, ∀ m', m ≤ m' → ∀ j ∈ l', (match nth all j with | some o => guardK all o st (fun st => actK E (C m') tk (sigAt sigs j) o st fun u => exK E (C m') tk sigs all n (j :: done) (st.apply o.dst u) (K' m')) (fun st => exK E (C m') tk sigs all n (j :: done) (st.apply o.dst skipU) (K' m')) | none => none) = some r := by
        intro l'
        induction l' with
        | nil => intro _; exact ⟨0, fun _ _ j hj => by cases hj⟩
        | cons j l' ihl =>
          intro hsub
          obtain ⟨m1, h1⟩ := hone j (hsub j (by simp))
          obtain ⟨m2, h2⟩ := ihl fun k hk => hsub k (by simp [hk])
          refine ⟨max m1 m2, fun m' hm' k hk => ?_⟩
          rcases List.mem_cons.1 hk with rfl | hk
          · exact h1 m' (by omega)
          · exact h2 m' (by omega) k hk
      obtain ⟨m, hm⟩ := hall (i :: l) fun j hj => hj
      refine ⟨m, ?_⟩
      rw [mapE_eq]
      refine foldO_mono (by simp) (fun j g1 g2 _ => ?_) hr
      simp only [List.getElem_map]
      exact hm m (Nat.le_refl _) _ (List.getElem_mem _)

theorem regionK_fam {β : Type} (hg : Grows C) (h : Some1 C call) {an : Ann} {ops : List Oper} {draw : Bool} {st : St} {K : St → Option β} {K' : Nat → St → Option β} {r : β} (hK : KFam K K' r) (hr : regionK E call an ops draw st K = some r) : ∃ n, regionK E (C n) an ops draw st (K' n) = some r := by
  unfold regionK at hr ⊢
  cases draw with
  | false =>
    dsimp only at hr ⊢
    cases hp : pairAt an.takes with
    | none =>
      rw [hp] at hr
      dsimp only at hr ⊢
      exact regK_fam hg h hK _ _ _ hr
    | some p =>
      obtain ⟨p, th⟩ := p
      rw [hp] at hr
      dsimp only at hr ⊢
      obtain ⟨hc, hr⟩ := cond_none_some hr
      rw [hc]
      simp only [cond_true]
      refine regK_fam hg h (K' := fun n st1 => pairK E ops p th st1 fun st2 => regK E (C n) an.takes an.sigs ops (dropN ops (p + 2)) (p + 2) st2 (K' n)) ⟨fun n m s hnm hs => pairK_mono (fun s hs => regK_mono (hg _ _ hnm) (fun s hs => hK.1 _ _ s hnm hs) _ _ _ hs) hs, fun s hs => ?_⟩ _ _ _ hr
      rw [pairK_bind] at hs
      obtain ⟨y, h1, h2⟩ := bind_some hs
      obtain ⟨n, hn⟩ := regK_fam hg h hK _ _ _ h2
      refine ⟨n, ?_⟩
      show (pairK E ops p th s fun st2 => regK E (C n) an.takes an.sigs ops (dropN ops (p + 2)) (p + 2) st2 (K' n)) = some r
      rw [pairK_bind, h1]
      exact hn
  | true =>
    dsimp only at hr ⊢
    cases hx : memN an.takes 9000000 with
    | true =>
      rw [hx] at hr
      exact exK_fam hg h hK _ _ _ hr
    | false =>
    rw [hx] at hr
    dsimp only at hr ⊢
    cases hb : backward ops 0 with
    | false => rw [hb] at hr; cases hr
    | true => rw [hb] at hr; exact regDK_fam hg h hK _ _ _ _ hr

def JFam (J : JumpF) (J' : Nat → JumpF) : Prop :=
  (∀ n m s st r, n ≤ m → J' n s st = some r → J' m s st = some r) ∧ ∀ s st r, J s st = some r → ∃ n, J' n s st = some r

theorem go_fam (hg : Grows C) (h : Some1 C call) {fn : AFunc} {nw : Nat} {J : JumpF} {J' : Nat → JumpF} (hJ : JFam J J') : ∀ (d : Nat) (k : List AItem) (st : St) (r : List AV × List Block), go E call fn nw J d k st = some r → ∃ n, go E (C n) fn nw (J' n) d k st = some r := by
  intro d
  induction d with
  | zero => intro k st r h; cases h
  | succ d ih =>
    intro k st r hr
    cases k with
    | nil => exact ⟨0, hr⟩
    | cons it k =>
      simp only [go] at hr ⊢
      cases it with
      | cut m =>
        dsimp only at hr ⊢
        unfold maskK at hr ⊢
        dsimp only at hr ⊢
        split at hr
        · exact hJ.2 _ _ _ hr
        · cases hr
      | inBlock id => exact ih _ _ _ hr
      | inScope c an => exact ih _ _ _ hr
      | inLoop c an => exact ih _ _ _ hr
      | code c an =>
        cases c with
        | region id ops draw =>
          exact regionK_fam hg h ⟨fun n m s hnm hs => go_mono (hg _ _ hnm) (fun s st r hs => hJ.1 _ _ _ _ _ hnm hs) _ _ _ _ hs, fun s hs => ih _ _ _ hs⟩ hr
        | cond c x y =>
          dsimp only at hr ⊢
          split at hr
          · rename_i b _
            cases b <;> exact ih _ _ _ hr
          · cases hr
        | exit id =>
          dsimp only at hr ⊢
          split at hr
          · exact ih _ _ _ hr
          · cases hr
        | goto l =>
          dsimp only at hr ⊢
          split at hr
          · exact ih _ _ _ hr
          · cases hr
        | ret => exact ⟨0, hr⟩
        | rangeFunc _ _ _ _ => cases hr
        | refuse _ => cases hr
        | skip => exact ih _ _ _ hr
        | label _ => exact ih _ _ _ hr
        | seq _ _ => exact ih _ _ _ hr
        | block _ _ => exact ih _ _ _ hr
        | loop _ => exact ih _ _ _ hr
        | scope _ => exact ih _ _ _ hr

theorem goF_fam (hg : Grows C) (h : Some1 C call) {fn : AFunc} {nw : Nat} : ∀ (n : Nat) (k : List AItem) (st : St) (r : List AV × List Block), goF E call fn nw n k st = some r → ∃ m, goF E (C m) fn nw n k st = some r
  | 0, _, _, _, hr => by cases hr
  | n + 1, k, st, r, hr => by
    have ih := goF_fam hg h (fn := fn) (nw := nw) n
    have mono : ∀ a b, a ≤ b → ∀ s st r, goF E (C a) fn nw n s st = some r → goF E (C b) fn nw n s st = some r := fun a b hab s st r hs => goF_mono (hg _ _ hab) n n (Nat.le_refl n) s st r hs
    rw [goF_succ] at hr
    have : ∃ m, go E (C m) fn nw (goF E (C m) fn nw n) depth k st = some r := by
      revert hr
      generalize depth = d
      intro hr
      exact go_fam hg h ⟨fun a b s st r hab hs => mono a b hab s st r hs, fun s st r hs => ih s st r hs⟩ d k st r hr
    obtain ⟨m, hm⟩ := this
    exact ⟨m, by rw [goF_succ]; exact hm⟩

theorem runF_fam (hg : Grows C) (h : Some1 C call) {n : Nat} {f : FuncId} {args : List AV} {blk : List Block} {r : List AV × List Block} (hr : runF E call n f args blk = some r) : ∃ m, runF E (C m) n f args blk = some r := by
  unfold runF at hr ⊢
  split at hr
  · rename_i fn _
    cases hb : Nat.beq (lenN args) (lenN fn.params) with
    | false => rw [hb] at hr; cases hr
    | true => rw [hb] at hr; exact goF_fam hg h n _ _ _ hr
  · exact ⟨0, hr⟩
  · cases hr

end family

/- WHAT A ROW HOLDS -/

def nr (r : List Cell) (j : Nat) : Int := (cellAt r j).toInt
def nb (r : List Cell) (j : Nat) : Bool := (cellAt r j).toBool
def ns (r : List Cell) (j : Nat) : List UInt8 := (cellAt r j).toStr
def nl (r : List Cell) (j : Nat) : List (List Cell) := (cellAt r j).toRows

/- CONTRACTS -/

/-- what a function is claimed to do, where the claim speaks -/
abbrev Spec := List AV → List Block → Ans

def callOf (L : List (Nat × Spec)) : CallF := fun f args blk => match lookT L f with
  | some s => s args blk
  | none => (false, ([], []))

/-- each by means of those behind it, or by a run of its own -/
def Valid (E : Env) : List (Nat × Spec) → Prop
  | [] => True
  | (f, s) :: L => (∀ args blk r, s args blk = (true, r) → ∃ n, runF E (callOf L) n f args blk = some r ∨ run E n f args blk = (true, r)) ∧ Valid E L

theorem run_le (E : Env) : Grows (run E)
  | 0, _, _ => fun _ _ _ _ h => by cases h
  | n + 1, 0, h => by omega
  | n + 1, m + 1, h => fun f args blk r hr => congrArg ansOf (runF_mono (run_le E n m (by omega)) (show n ≤ m by omega) (ansOf_eq hr))

theorem valid_run : ∀ (L : List (Nat × Spec)), Valid E L → Some1 (run E) (callOf L)
  | [], _ => fun f args blk r h => by simp [callOf, lookT] at h
  | (g, s) :: L, hv => fun f args blk r h => by
    have ih := valid_run L hv.2
    by_cases e : g = f
    · subst e
      simp only [callOf, lookT, nbeq_self, cond_true] at h
      obtain ⟨n, hn | hn⟩ := hv.1 _ _ _ h
      · obtain ⟨m, hm⟩ := runF_fam (run_le E) ih hn
        exact ⟨max n m + 1, congrArg ansOf (runF_mono (run_le E m _ (Nat.le_max_right n m)) (Nat.le_max_left n m) hm)⟩
      · exact ⟨n, hn⟩
    · simp only [callOf, lookT, nbeq_ne e, cond_false] at h
      exact ih f args blk r h

end Go.Abs
