/-
  One operation that calls no function: what the interpreter makes of it is what its run does.
-/
import Derived.Test.YtpafnokcmhlbgaaA15
namespace Go.Abs

variable {E : Env} {P : Program} {R : Places} {ρ : List Nat} {own : OI → Owner} {N : Nat} {st : St} {a : Act} {w : World} {F : Places}

theorem evL_rel (h : Rel E R ρ own N st a w) : ∀ (l : List Operand), (evL st.fr l).length = l.length ∧ ∀ (i : Nat) (h1 : i < (evL st.fr l).length) (h2 : i < l.length), AVR E w (Fn own R) ρ (evL st.fr l)[i] (a.eval l[i]) (fun _ => none)
  | [] => ⟨rfl, fun i h => by simp [evL] at h⟩
  | x :: r => by
    obtain ⟨h1, h2⟩ := evL_rel h r
    refine ⟨by simp [evL, h1], fun i g1 g2 => ?_⟩
    cases i with
    | zero => exact (ev_rel h x).dis
    | succ i => exact h2 i (by simpa [evL] using g1) (by simpa using g2)

theorem evO_rel (h : Rel E R ρ own N st a w) (x : Option Operand) : OptR E w (Fn own R) ρ (evO st.fr x) (x.map a.eval) := by
  cases x with
  | none => trivial
  | some x => exact ⟨_, ev_rel h x⟩

theorem Ran.of {st' : St} {dst : Option Nat} {s : Sem Value} (h : ∃ val w', s.run P w = .ok val w' ∧ After E R ρ own N w st' (a.put dst val) w') :
    Ran E R ρ own N w st' dst a ((do pure (Next.value (← s)) : Sem Next).run P w) := by
  obtain ⟨val, w', h1, h2⟩ := h
  exact .inl ⟨val, w', run_v h1, h2⟩

theorem Ran.ofPure (h : Rel E R ρ own N st a w) {dst : Option Nat} (hd : ∀ d, dst = some d → d < N) {s : Sem Value} {u : Upd} (hs : ∃ v val, u = Upd.pure v ∧ s.run P w = .ok val w ∧ AVR E w (Fn own R) ρ v val (fun _ => none)) :
    Ran E R ρ own N w (st.apply dst u) dst a ((do pure (Next.value (← s)) : Sem Next).run P w) := by
  obtain ⟨v, val, rfl, h1, h2⟩ := hs
  exact .of ⟨val, w, h1, h.pure0 hd h2⟩

theorem own_tmp {own : OI → Owner} {x : Operand} {q : List Nat} {B s : Nat} (h : ownE own x q = some (B, s)) : ∃ y, tmpOf x = some y ∧ own (.tmp y q) = some (B, s) := by
  cases x with
  | tmp t => exact ⟨t, rfl, h⟩
  | _ => cases h

theorem minMax_sound (isMax : Bool) : ∀ {l : List AV} {vs : List Value} {v : AV} {val : Value} {u : Upd}, l.length = vs.length → (∀ (i : Nat) (h1 : i < l.length) (h2 : i < vs.length), AVR E w F ρ l[i] vs[i] (fun _ => none)) → AVR E w F ρ v val (fun _ => none) →
    minMaxK isMax v l some = some u → ∃ v' val', u = Upd.pure v' ∧ (vs.foldlM (if isMax then Builtin.max2 else Builtin.min2) val).run P w = .ok val' w ∧ AVR E w F ρ v' val' (fun _ => none)
  | [], vs, v, val, u, hl, _, hv, h => by
    cases vs with
    | nil =>
      unfold minMaxK at h
      exact ⟨v, val, ofK h, rfl, hv⟩
    | cons => simp at hl
  | x :: l, vs, v, val, u, hl, hr, hv, h => by
    cases vs with
    | nil => simp at hl
    | cons y vs =>
      have hx := hr 0 (by simp) (by simp)
      simp only [List.getElem_cons_zero] at hx
      have key : ∃ k n k' n', v = .one (.int k n) ∧ x = .one (.int k' n') := by
        cases v with
        | one c => cases c with
          | int k n => cases x with
            | one d => cases d with
              | int k' n' => exact ⟨k, n, k', n', rfl, rfl⟩
              | _ => simp [minMaxK] at h
            | _ => simp [minMaxK] at h
          | _ => simp [minMaxK] at h
        | _ => simp [minMaxK] at h
      obtain ⟨k, n, k', n', rfl, rfl⟩ := key
      simp only [minMaxK] at h
      rw [hx.get_int, hv.get_int]
      obtain ⟨v', val', g1, g2, g3⟩ := minMax_sound isMax (l := l) (vs := vs) (by simpa using hl) (fun i h1 h2 => hr (i + 1) (by simpa using h1) (by simpa using h2)) AVR.int h
      refine ⟨v', val', g1, ?_, g3⟩
      simp only [List.foldlM_cons, Sem.run_bind]
      cases isMax
      · simp only [Bool.false_eq_true, if_false, cond_false] at g2 ⊢
        simp only [Builtin.min2, Sem.run_pure, Result.andThen_ok]
        exact g2
      · simp only [if_true, cond_true] at g2 ⊢
        simp only [Builtin.max2, Sem.run_pure, Result.andThen_ok]
        exact g2

theorem sliceRK_bind {β : Type} (o : Bool) (e : TypeId) (rows : Rows) (lo hi mx : Option AV) (K : AV → Option β) : sliceRK o e rows lo hi mx K = (sliceRK o e rows lo hi mx some).bind K := by
  unfold sliceRK
  cases lo <;> cases hi <;> cases mx <;> simp only [Bool.cond_eq_ite] <;> (repeat' split) <;> rfl

theorem sliceSK_bind {β : Type} (s : List UInt8) (lo hi : Option AV) (K : AV → Option β) : sliceSK s lo hi K = (sliceSK s lo hi some).bind K := by
  unfold sliceSK
  cases lo <;> cases hi <;> simp only [Bool.cond_eq_ite] <;> (repeat' split) <;> rfl

theorem sliceWK_bind {β : Type} (e : TypeId) (b lo0 n : Nat) (c : Option Nat) (lo hi mx : Option AV) (K : AV → Option β) : sliceWK e b lo0 n c lo hi mx K = (sliceWK e b lo0 n c lo hi mx some).bind K := by
  rw [sliceWK_nat]
  rfl

theorem bind_some {α β : Type} {x : Option α} {f : α → Option β} {r : β} (h : x.bind f = some r) : ∃ y, x = some y ∧ f y = some r := by
  cases x with
  | none => cases h
  | some y => exact ⟨y, rfl, h⟩

def isCall : Op → Bool
  | .call c => match c.callee with
    | .value _ => true
    | _ => false
  | _ => false


theorem sliceAt_slice {t e : TypeId} (hu : P.underlying t = some (.slice e)) {x : Value} {lo hi mx : Option Value} : (Instr.sliceAt t x lo hi mx).run P w = (Instr.slice t x lo hi mx).run P w := by
  simp only [Instr.sliceAt, Sem.run_bind, run_underlying hu, Result.andThen_ok]
theorem sliceAt_str {t : TypeId} (hu : P.underlying t = some .string) {x : Value} {lo hi mx : Option Value} : (Instr.sliceAt t x lo hi mx).run P w = (Instr.slice t x lo hi mx).run P w := by
  simp only [Instr.sliceAt, Sem.run_bind, run_underlying hu, Result.andThen_ok]

theorem build_bind {t : TypeId} {ps : List (Nat × AV)} {f : Upd → Upd} {u : Upd} (h : buildK E t ps (fun u => some (f u)) = some u) : ∃ u0, buildK E t ps some = some u0 ∧ u = f u0 := by
  have hfill : ∀ (place : Nat → Option (Nat × Ty)) (l : List (Nat × AV)) (z : List AC) (K : List AC → Option Upd) (g : Upd → Upd), buildK.fillK place l z (fun z => (K z).map g) = (buildK.fillK place l z K).map g := by
    intro place l
    induction l with
    | nil => intro z K g; rfl
    | cons x r ih =>
      obtain ⟨i, v⟩ := x
      intro z K g
      simp only [buildK.fillK]
      cases place i with
      | none => rfl
      | some q =>
        obtain ⟨off, tf⟩ := q
        dsimp only
        have hs : ∀ (xs l : List AC) (o : Nat) (K : List AC → Option Upd), storeK l o xs (fun z => (K z).map g) = (storeK l o xs K).map g := by
          intro xs
          induction xs with
          | nil => intro l o K; cases l <;> cases o <;> rfl
          | cons x xs ihx =>
            intro l
            induction l with
            | nil => intro o K; cases o <;> rfl
            | cons c l ihl =>
              intro o K
              cases o with
              | zero => exact ihx l 0 _
              | succ o => exact ihl o _
        unfold cellsK
        split
        · split
          · simp only [ih]; exact hs _ _ _ _
          · rfl
        · cases Nat.beq (lenN _) tf.size with
          | false => rfl
          | true => simp only [cond_true, ih]; exact hs _ _ _ _
        · rfl
  have hz : ∀ (ks : List CK) (K : List AC → Option Upd) (g : Upd → Upd), zerosK ks (fun z => (K z).map g) = (zerosK ks K).map g := by
    intro ks
    induction ks with
    | nil => intro K g; rfl
    | cons k ks ih =>
      intro K g
      simp only [zerosK]
      cases zeroK k with
      | none => rfl
      | some a => exact ih _ _
  have key : buildK E t ps (fun u => some (f u)) = (buildK E t ps some).map f := by
    unfold buildK
    have e : ∀ l : List AC, pureK (.agg l) (fun u => some (f u)) = (pureK (.agg l) some).map f := fun l => rfl
    split
    · split
      · simp only [e]
        rw [← hz]
        congr 1
        funext z
        exact hfill _ _ _ _ _
      · split
        · simp only [e]
          rw [← hz]
          congr 1
          funext z
          exact hfill _ _ _ _ _
        · rfl
      · rfl
    · rfl
  rw [key] at h
  cases hb : buildK E t ps some with
  | none => rw [hb] at h; cases h
  | some u0 => rw [hb] at h; exact ⟨u0, rfl, (Option.some.inj h).symm⟩

theorem build_pure {t : TypeId} {ps : List (Nat × AV)} {u : Upd} (h : buildK E t ps some = some u) : u = ⟨u.val, none, [], [], []⟩ := by
  have hfill : ∀ (place : Nat → Option (Nat × Ty)) (l : List (Nat × AV)) (z : List AC) (u : Upd), buildK.fillK place l z (fun l => pureK (.agg l) some) = some u → u = ⟨u.val, none, [], [], []⟩ := by
    intro place l
    induction l with
    | nil => intro z u h; cases h; rfl
    | cons x r ih =>
      obtain ⟨i, v⟩ := x
      intro z u h
      simp only [buildK.fillK] at h
      cases hp : place i with
      | none => rw [hp] at h; cases h
      | some q =>
        obtain ⟨off, tf⟩ := q
        rw [hp] at h
        obtain ⟨l, _, h1⟩ := cellsK_some h
        obtain ⟨_, h3⟩ := storeK_some h1
        exact ih _ _ h3
  unfold buildK at h
  split at h <;> try (cases h; done)
  split at h <;> try (cases h; done)
  · obtain ⟨zl, h1, _⟩ := zerosK_some h
    exact hfill _ _ _ _ h1
  · split at h <;> try (cases h; done)
    obtain ⟨zl, h1, _⟩ := zerosK_some h
    exact hfill _ _ _ _ h1

theorem buildN_pure {t : TypeId} {ps : List (Nat × AV)} {u : Upd} (h : buildNK E t ps some = some u) : u = ⟨u.val, none, [], [], []⟩ := by
  have hfill : ∀ (place : Nat → Option (Nat × Ty)) (l : List (Nat × AV)) (z : List AC) (u : Upd), buildK.fillK place l z (fun l => pureK (.agg l) some) = some u → u = ⟨u.val, none, [], [], []⟩ := by
    intro place l
    induction l with
    | nil => intro z u h; cases h; rfl
    | cons x r ih =>
      obtain ⟨i, v⟩ := x
      intro z u h
      simp only [buildK.fillK] at h
      cases hp : place i with
      | none => rw [hp] at h; cases h
      | some q =>
        obtain ⟨off, tf⟩ := q
        rw [hp] at h
        obtain ⟨l, _, h1⟩ := cellsK_some h
        obtain ⟨_, h3⟩ := storeK_some h1
        exact ih _ _ h3
  unfold buildNK at h
  split at h <;> try (cases h; done)
  split at h <;> try (cases h; done)
  obtain ⟨zl, h1, _⟩ := zerosK_some h
  exact hfill _ _ _ _ h1

theorem act_sound (G : Good P E) (h : Rel E R ρ own N st a w) {call : CallF} {tk : List Nat} {sg : Option Sig} {o : Oper} (hc : isCall o.op = false) {u : Upd} (hu : actK E call tk sg o st some = some u) (hd : ∀ d, o.dst = some d → d < N) :
    Ran E R ρ own N w (st.apply o.dst u) o.dst a ((execOp a.eval o).run P w) := by
  unfold actK at hu
  unfold execOp
  cases hop : o.op <;> simp only [hop] at hu <;> try (cases hu; done)
  case move x =>
    cases hf1 : flag tk o.dst 1000000 with
    | true =>
      simp only [hf1] at hu
      exact .value (v := a.eval x) (w' := w) rfl (thaw_sound h (ev_rel h x) hu hd)
    | false =>
    cases hf2 : flag tk o.dst 2000000 with
    | true =>
      simp only [hf1, hf2] at hu
      exact .value (v := a.eval x) (w' := w) rfl (freeze_sound G h (ev_rel h x) hu hd)
    | false =>
    simp only [hf1, hf2] at hu
    cases ht : takes tk o.dst with
    | true =>
      simp only [ht] at hu
      cases hu
      refine .value (v := a.eval x) (w' := w) rfl ?_
      cases x with
      | tmp t => exact h.take hd (fit_rel (h.fr t))
      | const v => exact h.pure0 hd (fit_rel (ev_rel h (.const v)))
      | global g => exact h.pure0 hd (fit_rel (ev_rel h (.global g)))
      | func f => exact h.pure0 hd (fit_rel (ev_rel h (.func f)))
    | false =>
      simp only [ht] at hu
      cases hu
      exact .value (v := a.eval x) (w' := w) rfl (h.pure0 hd (fit_rel (ev_rel h x).dis))
  case assign x =>
    cases hf1 : flag tk o.dst 1000000 with
    | true =>
      simp only [hf1] at hu
      exact .value (v := a.eval x) (w' := w) rfl (thaw_sound h (ev_rel h x) hu hd)
    | false =>
    cases hf2 : flag tk o.dst 2000000 with
    | true =>
      simp only [hf1, hf2] at hu
      exact .value (v := a.eval x) (w' := w) rfl (freeze_sound G h (ev_rel h x) hu hd)
    | false =>
    simp only [hf1, hf2] at hu
    cases ht : takes tk o.dst with
    | true =>
      simp only [ht] at hu
      cases hu
      refine .value (v := a.eval x) (w' := w) rfl ?_
      cases x with
      | tmp t => exact h.take hd (fit_rel (h.fr t))
      | const v => exact h.pure0 hd (fit_rel (ev_rel h (.const v)))
      | global g => exact h.pure0 hd (fit_rel (ev_rel h (.global g)))
      | func f => exact h.pure0 hd (fit_rel (ev_rel h (.func f)))
    | false =>
      simp only [ht] at hu
      cases hu
      exact .value (v := a.eval x) (w' := w) rfl (h.pure0 hd (fit_rel (ev_rel h x).dis))
  case pick c x y =>
    have hcr := ev_rel h c
    split at hu <;> try (cases hu; done)
    rename_i t e
    rw [e] at hcr
    have hcv := hcr.get_bool
    rcases cond_some hu with ⟨rfl, hu⟩ | ⟨rfl, hu⟩
    · rw [ofK hu]
      exact .value (v := a.eval x) (w' := w) (by simp [hcv, asBool]) (h.pure0 hd (ev_rel h x).dis)
    · rw [ofK hu]
      exact .value (v := a.eval y) (w' := w) (by simp [hcv, asBool]) (h.pure0 hd (ev_rel h y).dis)
  case alloc t =>
    split at hu
    · exact .of (thawA_sound G h hu hd)
    · cases ht : E.tys t with
      | none => simp [ht] at hu
      | some ty => simp only [ht] at hu; exact .of (alloc_sound G h ht hu hd)
  case box t x =>
    cases ht : E.tys t with
    | none => simp [ht] at hu
    | some ty =>
      simp only [ht] at hu
      cases htk : takes tk o.dst with
      | true =>
        simp only [htk, cond_true] at hu
        exact .of (box_sound G h ht (ev_rel h x) (fun q B s e => own_tmp e) hu hd)
      | false =>
        simp only [htk, cond_false] at hu
        exact .of (box_sound G h ht (ev_rel h x).dis (fun q B s e => by cases e) hu hd)
  case build t parts =>
    have hbind : ∀ (ps : List (Nat × AV)) (x : Nat), buildK E t ps (fun u => some (⟨u.val, some x, [], [], []⟩ : Upd)) = some u → ∃ u0, buildK E t ps some = some u0 ∧ u = ⟨u0.val, some x, [], [], []⟩ := fun ps x h => build_bind h
    obtain ⟨val, h1, h2⟩ : ∃ val, (Instr.build t (parts.toList.map fun (i, x) => (i, a.eval x)).toArray).run P w = .ok val w ∧ After E R ρ own N w (st.apply o.dst u) (a.put o.dst val) w := by
      split at hu
      · obtain ⟨val, h1, h2⟩ := buildN_sound G h (dis := none) (partsO_rel h (ownD own none) false parts.toList) hu hd
        refine ⟨val, h1, ?_⟩
        have : u = ⟨u.val, none, [], [], []⟩ := buildN_pure hu
        rw [this]; exact h2
      cases hft : firstTk tk st.fr parts.toList with
      | some x =>
        rw [hft] at hu
        obtain ⟨u0, hu0, rfl⟩ := hbind _ _ hu
        obtain ⟨c, hc⟩ := firstTk_some hft
        exact build_sound G h (dis := some x) (partsT_rel h hc parts.toList) hu0 hd
      | none =>
        rw [hft] at hu
        obtain ⟨val, h1, h2⟩ := build_sound G h (dis := none) (partsO_rel h (ownD own none) false parts.toList) hu hd
        refine ⟨val, h1, ?_⟩
        have : u = ⟨u.val, none, [], [], []⟩ := build_pure hu
        rw [this]; exact h2
    rw [← List.map_toArray] at h1
    exact .of ⟨val, w, by simpa using h1, h2⟩
  case buildSlice t len parts =>
    split at hu
    · split at hu
      · rename_i hps
        obtain ⟨val, w', h1, h2⟩ := thawB_sound G h hu hd
        have hp0 : parts = #[] := by cases parts; simp at hps; subst hps; rfl
        subst hp0
        exact .of ⟨val, w', by simpa using h1, h2⟩
      · cases hu
    · obtain ⟨val, w', h1, h2⟩ := buildSlice_sound G h (parts_rel h parts.toList) hu hd
      rw [← List.map_toArray] at h1
      exact .of ⟨val, w', by simpa using h1, h2⟩
  case load t p =>
    obtain ⟨val, h1, h2⟩ := load_sound G h (ev_rel h p) hu hd
    exact .of ⟨val, w, h1, h2⟩
  case store t p x =>
    have key : ∃ w', (Instr.storeAt t (a.eval p) (a.eval x)).run P w = .ok () w' ∧ After E R ρ own N w (st.apply o.dst u) (a.put o.dst undef) w' := by
      split at hu
      · exact storeN_sound G h (ev_rel h p) (ev_rel h x).dis hu hd
      split at hu
      · exact store_sound G h (ev_rel h p) (ev_rel h x) (fun q B s e => own_tmp e) hu hd
      · exact store_sound G h (ev_rel h p) (ev_rel h x).dis (fun q B s e => by cases e) hu hd
    obtain ⟨w', h1, h2⟩ := key
    exact .inr ⟨w', by simp [h1], h2⟩
  case nilCheck x =>
    have hx := ev_rel h x
    split at hu <;> try (cases hu; done)
    · rename_i b k e
      rw [e] at hx
      obtain ⟨B, hB, hv⟩ := hx.get_one.inv_ptr
      rw [ofK hu]
      exact .value (v := .pointer (some ⟨B, k, none⟩)) (w' := w) (by simp [hv]) (h.pure0 hd (.of (.ptr _ _ _ hB)))
    · rename_i e' r k e
      rw [e] at hx
      have hx1 := hx.get_one
      generalize hv : a.eval x = v at hx1
      generalize ownE own x [] = q at hx1
      cases hx1 with
      | eptr _ _ _ te B off g he hk hm hr =>
        rw [ofK hu]
        exact .value (v := .pointer (some ⟨B, off + k, none⟩)) (w' := w) (by simp [hv]) (h.pure0 hd (.of (.eptr _ _ _ te B off g he hk hm hr)))
    · rename_i c e
      rw [e] at hx
      have hx1 := hx.get_one
      generalize hv : a.eval x = v at hx1
      generalize ownE own x [] = q at hx1
      cases hx1 with
      | aptr _ B off val hm hr =>
        rw [ofK hu]
        exact .value (v := .pointer (some ⟨B, off, none⟩)) (w' := w) (by simp [hv]) (h.pure0 hd (.of (.aptr _ B off val hm hr)))
  case binOp op t x y t2 => exact .ofPure h hd (bin_sound G op t x y (ev_rel h x) (ev_rel h y) hu)
  case unOp op t x => exact .ofPure h hd (un_sound (ev_rel h x) hu)
  case convert src dst x =>
    obtain ⟨y', rd, hu1, hs⟩ := srcK_sound G h (ev_rel h x) hu
    have hn := convK_nat E (fun u => some (u.reads rd)) src dst y' some
    simp only [Option.bind_some] at hn
    rw [← hn] at hu1
    obtain ⟨u0, hu2, hu3⟩ := bind_some hu1
    cases hu3
    obtain ⟨F0, p, hv⟩ := hs.any
    exact .of (conv_sound G h hv hu2 hd)
  case makeFunc fn first caps =>
    cases fn <;> simp only at hu <;> try (cases hu; done)
    rename_i f
    cases hf : first.toList with
    | cons y ys => simp [hf] at hu
    | nil =>
      simp only [hf] at hu
      have hf0 : first = #[] := by simpa using hf
      cases hcp : actK.capsOf (evL st.fr caps.toList) with
      | none => simp [hcp] at hu
      | some l =>
        simp only [hcp] at hu
        have hcaps : ∀ {vs : List AV} {l : List AC}, actK.capsOf vs = some l → vs = l.map AV.one := by
          intro vs
          induction vs with
          | nil => intro l hl; simp [actK.capsOf] at hl; subst hl; rfl
          | cons v vs ih =>
            intro l hl
            cases v <;> simp only [actK.capsOf] at hl <;> try (cases hl; done)
            cases h3 : actK.capsOf vs with
            | none => simp [h3] at hl
            | some l' => simp only [h3] at hl; cases hl; simp [ih h3]
        have hev := hcaps hcp
        obtain ⟨g1, g2⟩ := evL_rel h caps.toList
        rw [hev] at g1 g2
        simp only [List.length_map] at g1
        rw [ofK hu]
        refine .value (v := .func (.func f) #[] (caps.map a.eval)) (w' := w) (by simp [Instr.makeFunc, hf0]) (h.pure0 hd (.of ?_))
        have : caps.map a.eval = ((List.range l.length).map fun i => a.eval (caps.toList.getD i (.const undef))).toArray := by
          apply Array.ext'
          simp only [Array.toList_map]
          apply List.ext_getElem
          · simp [g1]
          · intro i h1 h2
            have h5 : i < caps.size := by simpa using h1
            simp [h5]
        rw [this]
        refine .fn f l _ fun i hi => ?_
        have h5 : i < caps.toList.length := by omega
        have g3 := g2 i (by simpa using hi) h5
        simp only [List.getElem_map] at g3
        have := g3.get_one
        simpa [List.getD, List.getElem?_eq_getElem h5] using this
  case makeSlice t l c =>
    split at hu
    · exact .of (thawM_sound G h (ev_rel h l) (ev_rel h c) hu hd)
    · exact .of (makeSlice_sound G h (ev_rel h l) (ev_rel h c) hu hd)
  case slice t x lo hi mx =>
    have main : ∀ {vx : AV} {pv : Owners} {dis : Option Nat}, AVR E w (Fn own R) ρ vx (a.eval x) pv → (∀ p B s, pv p = some (B, s) → ∃ y, dis = some y ∧ own (.tmp y p) = some (B, s)) → sliceK E t dis vx (evO st.fr lo) (evO st.fr hi) (evO st.fr mx) some = some u →
        ∃ val w', (Instr.sliceAt t (a.eval x) (lo.map a.eval) (hi.map a.eval) (mx.map a.eval)).run P w = .ok val w' ∧ After E R ρ own N w (st.apply o.dst u) (a.put o.dst val) w' := by
      intro vx pv dis hvx hpv hs
      unfold sliceK at hs
      cases ht : E.tys t with
      | none => simp [ht] at hs
      | some ty =>
        simp only [ht] at hs
        have hT := G.ty t ty ht
        split at hs <;> try (cases hs; done)
        · rename_i ow e rows
          cases hde : ty.desc <;> simp only [hde] at hs <;> try (cases hs; done)
          rename_i e'
          cases he0 : E.tys e with
          | none => simp [he0] at hs
          | some te =>
          simp only [he0] at hs
          obtain ⟨hb, hs1⟩ := cond_none_some hs
          clear hs
          have := Nat.eq_of_beq_eq_true hb
          subst this
          have hut := desc_slice hT hde
          rw [sliceRK_bind] at hs1
          obtain ⟨v, hs2, hs3⟩ := bind_some hs1
          cases hs3
          obtain ⟨val, oV, g1, g2, g3⟩ := sliceR_sound G hut he0 hvx (evO_rel h lo) (evO_rel h hi) (evO_rel h mx) hs2
          refine ⟨val, w, by rw [sliceAt_slice hut]; exact g1, ?_⟩
          have hoV : ∀ p B s, oV p = some (B, s) → ∃ y, dis = some y ∧ own (.tmp y p) = some (B, s) := fun p B s e => by
            rcases g3 p with g | g
            · rw [g] at e; cases e
            · rw [g] at e; exact hpv p B s e
          exact ⟨ρ, _, fun _ _ h => h, h.put (dis := dis) (oV := oV) (T := fun _ _ => False) hd (World.keptBut_refl _ _) (fun _ _ h => h.elim) (fun p B t' e => .inl (by obtain ⟨y, h1, h2⟩ := hoV p B t' e; exact ⟨y, p, t', h1, h2, Nat.le_refl _⟩))
            (fun p p' B t t' e e' => by
              obtain ⟨y, _, h2⟩ := hoV _ _ _ e
              obtain ⟨y', _, h2'⟩ := hoV _ _ _ e'
              have := h.inj _ _ _ _ _ h2 h2'
              injection this) fun hK => g2.keep hK (fun _ _ h => h) fun p B t e j _ hh => hh⟩
        · rename_i s
          split at hs <;> try (cases hs; done)
          rename_i hde hmx
          rw [sliceSK_bind] at hs
          obtain ⟨v, hs2, hs3⟩ := bind_some hs
          have hut := desc_str hT hde
          have hmx0 : mx = none := by cases mx <;> simp [evO] at hmx <;> rfl
          subst hmx0
          obtain ⟨val, g1, g2⟩ := sliceS_sound hut (evO_rel h lo) (evO_rel h hi) hs2
          rw [ofK hs3]
          refine ⟨val, w, ?_, h.pure0 hd g2⟩
          rw [sliceAt_str hut, hvx.get_str]
          exact g1
        · rename_i e b n
          cases hde : ty.desc <;> simp only [hde] at hs <;> try (cases hs; done)
          obtain ⟨hb, hs1⟩ := cond_none_some hs
          clear hs
          have := Nat.eq_of_beq_eq_true hb
          subst this
          obtain ⟨hn, hs2⟩ := cond_none_some hs1
          clear hs1
          rw [sliceWK_bind] at hs2
          obtain ⟨v, hs3, hs4⟩ := bind_some hs2
          obtain ⟨val, g1, g2⟩ := sliceM_sound (P := P) G hvx (evO_rel h lo) (evO_rel h hi) (evO_rel h mx) ht hs3 (.inl ⟨hde, .inl ⟨rfl, rfl, rfl, blt_pos hn⟩⟩)
          rw [ofK hs4]
          exact ⟨val, w, g1, h.pure0 hd g2⟩
        · rename_i e b lo0 n c
          cases hde : ty.desc <;> simp only [hde] at hs <;> try (cases hs; done)
          obtain ⟨hb, hs2⟩ := cond_none_some hs
          clear hs
          have := Nat.eq_of_beq_eq_true hb
          subst this
          rw [sliceWK_bind] at hs2
          obtain ⟨v, hs3, hs4⟩ := bind_some hs2
          obtain ⟨val, g1, g2⟩ := sliceM_sound (P := P) G hvx (evO_rel h lo) (evO_rel h hi) (evO_rel h mx) ht hs3 (.inl ⟨hde, .inr rfl⟩)
          rw [ofK hs4]
          exact ⟨val, w, g1, h.pure0 hd g2⟩
        · rename_i e b n
          cases hde : ty.desc <;> simp only [hde] at hs <;> try (cases hs; done)
          obtain ⟨hb, hs2⟩ := cond_none_some hs
          clear hs
          rw [Bool.and_eq_true] at hb
          have := Nat.eq_of_beq_eq_true hb.1
          subst this
          have := Nat.eq_of_beq_eq_true hb.2
          subst this
          rw [sliceWK_bind] at hs2
          obtain ⟨v, hs3, hs4⟩ := bind_some hs2
          obtain ⟨val, g1, g2⟩ := sliceM_sound (P := P) G hvx (evO_rel h lo) (evO_rel h hi) (evO_rel h mx) ht hs3 (.inr ⟨hde, rfl, rfl, rfl⟩)
          rw [ofK hs4]
          exact ⟨val, w, g1, h.pure0 hd g2⟩
    split at hu
    · exact .of (main (ev_rel h x) (fun p B s e => own_tmp e) hu)
    · exact .of (main (ev_rel h x).dis (fun p B s e => by cases e) hu)
  case fieldAddr s x f => exact .ofPure h hd (fieldAddr_sound G (ev_rel h x) hu)
  case field s x f => exact .ofPure h hd (field_sound G (ev_rel h x) hu)
  case indexAddr t x i => exact .ofPure h hd (indexAddr_sound G (ev_rel h x) (ev_rel h i) hu)
  case index t x i => exact .ofPure h hd (index_sound G (ev_rel h x) (ev_rel h i) hu)
  case extract x i =>
    have hx := ev_rel h x
    split at hu <;> try (cases hu; done)
    rename_i l e
    rw [e] at hx
    generalize hv : a.eval x = val at hx
    generalize hq : ownE own x = q at hx
    cases hx with
    | tup _ g _ hr ho =>
      cases hn : nth l i with
      | none => simp [hn] at hu
      | some v =>
        simp only [hn] at hu
        have hlt := nth_lt hn
        have hvi : v = l[i] := by rw [nth_eq, List.getElem?_eq_getElem hlt] at hn; exact (Option.some.inj hn).symm
        subst hvi
        have hri := hr i hlt
        have hrun : (do pure (Next.value (← Instr.extract (a.eval x) i)) : Sem Next).run P w = .ok (.value (g i)) w := by
          rw [hv]
          simp [Instr.extract, hlt]
        cases htk : takes tk o.dst with
        | true =>
          simp only [htk] at hu
          cases hu
          refine .value hrun ?_
          cases x with
          | tmp t =>
            simp only [tmpOf]
            refine h.takePart (fun p => i :: p) (fun p q e => by injection e) hd (fun p => .inr ?_) hri
            rw [← hq]; rfl
          | const v => exact h.pure0 hd (hri.none_of fun p => by rw [← hq]; rfl)
          | global g => exact h.pure0 hd (hri.none_of fun p => by rw [← hq]; rfl)
          | func f => exact h.pure0 hd (hri.none_of fun p => by rw [← hq]; rfl)
        | false =>
          simp only [htk] at hu
          rw [ofK hu]
          exact .value hrun (h.pure0 hd hri.dis)
  case call c =>
    unfold isCall at hc
    rw [hop] at hc
    cases hcal : c.callee with
    | value g => simp [hcal] at hc
    | invoke r m => simp [hcal] at hu
    | builtin bi =>
      have hrun : ∀ {s : Sem Value} {val : Value} {w' : World}, (∀ cs, builtin bi c.argTypes o.type cs (c.args.map a.eval) = (do pure (Next.value (← s)))) → s.run P w = .ok val w' →
          (do let d ← resolve a.eval c o.type; invoke d.target d.args : Sem Next).run P w = .ok (.value val) w' := by
        intro s val w' h1 h2
        simp only [resolve, hcal, invoke, Sem.run_bind, Sem.run_pure, Result.andThen_ok]
        rw [h1]
        exact run_v h2
      simp only [hcal] at hu
      cases bi <;> simp only at hu <;> try (cases hu; done)
      case append =>
        split at hu <;> try (cases hu; done)
        rename_i t t2 x y h1 h2
        have hat : c.argTypes = #[t, t2] := by rw [← Array.toArray_toList (xs := c.argTypes), h1]
        have har : c.args = #[x, y] := by rw [← Array.toArray_toList (xs := c.args), h2]
        obtain ⟨y', rd, hu1, hsy⟩ := srcK_sound G h (ev_rel h y).dis hu
        clear hu
        have hn := appAnyK_nat E (fun u => some (u.reads rd)) t t2 (tmpOf x) (ev st.fr x) st y' some
        simp only [Option.bind_some] at hn
        rw [← hn] at hu1
        obtain ⟨u0, hu2, hu3⟩ := bind_some hu1
        cases hu3
        clear hu1 hn
        have hmsl : (∃ e b n, ev st.fr x = .one (.msl e b n) ∧ ((∃ j k, y' = .one (.int j k) ∧ mzappK E t t2 e b n st k some = some u0) ∨ mappK E t t2 e b n st y' some = some u0)) ∨ (∃ e b lo n c, ev st.fr x = .one (.win e b lo n (some c)) ∧ wappK E t t2 e b lo n c st y' some = some u0) ∨
            appendK E t t2 (tmpOf x) (ev st.fr x) y' some = some u0 := by
          unfold appAnyK at hu2
          split at hu2
          · rename_i e b n hev
            split at hu2
            · rename_i j k; exact .inl ⟨e, b, n, hev, .inl ⟨j, k, rfl, hu2⟩⟩
            · exact .inl ⟨e, b, n, hev, .inr hu2⟩
          · rename_i e b lo n c hev; exact .inr (.inl ⟨e, b, lo, n, c, hev, hu2⟩)
          · exact .inr (.inr hu2)
        clear hu2
        rcases hmsl with ⟨e, b, n, hev, ⟨j, k, rfl, hu⟩ | hu⟩ | ⟨e, b, lo, n, c', hev, hu⟩ | hu
        · have hx := ev_rel h x
          rw [hev] at hx
          obtain ⟨F0, p0, hy0⟩ := hsy.any
          have hyi := hy0.get_int
          obtain ⟨val, w', g1, g2⟩ := mzapp_sound (ty0 := o.type) (vy := .int j k) (py := fun _ => none) G h hx (.of (.int j k)) hu hd
          rw [← hyi] at g1
          exact .value (hrun (s := Builtin.append_ #[t, t2] o.type #[a.eval x, a.eval y]) (fun cs => by rw [hat, har]; simp [builtin]) g1) g2
        · have hx := ev_rel h x
          rw [hev] at hx
          obtain ⟨val, w', g1, g2⟩ := mapp_sound (ty0 := o.type) G h hx hsy hu hd
          exact .value (hrun (s := Builtin.append_ #[t, t2] o.type #[a.eval x, a.eval y]) (fun cs => by rw [hat, har]; simp [builtin]) g1) g2
        · have hx := ev_rel h x
          rw [hev] at hx
          obtain ⟨val, w', g1, g2⟩ := wapp_sound (ty0 := o.type) G h hx hsy hu hd
          exact .value (hrun (s := Builtin.append_ #[t, t2] o.type #[a.eval x, a.eval y]) (fun cs => by rw [hat, har]; simp [builtin]) g1) g2
        unfold appendK at hu
        cases ht : E.tys t with
        | none => simp [ht] at hu
        | some ty => cases ht2 : E.tys t2 with
          | none => simp [ht, ht2] at hu
          | some ty2 =>
            simp only [ht, ht2] at hu
            obtain ⟨hsrc, hu⟩ := cond_none_some hu
            cases hde : ty.desc <;> simp only [hde] at hu <;> try (cases hu; done)
            rename_i e
            cases he : E.tys e with
            | none => simp [he] at hu
            | some te =>
              simp only [he] at hu
              obtain ⟨hby, hu⟩ := cond_none_some hu
              have hby := Nat.le_of_ble_eq_true hby
              have hut := desc_slice (G.ty _ _ ht) hde
              obtain ⟨d2, hd2, hd2'⟩ : ∃ d2, P.underlying t2 = some d2 ∧ ((∃ e2, d2 = .slice e2) ∨ d2 = .string) := by
                cases hd2 : ty2.desc <;> rw [hd2] at hsrc <;> simp [TD.source] at hsrc
                · exact ⟨_, desc_str (G.ty _ _ ht2) hd2, .inr rfl⟩
                · exact ⟨_, desc_slice (G.ty _ _ ht2) hd2, .inl ⟨_, rfl⟩⟩
              have hx : AVR E w (Fn own R) ρ (ownNil e (ev st.fr x)) (a.eval x) (ownE own x) := by
                have := ev_rel h x
                unfold ownNil
                split
                · rename_i e1
                  rw [e1] at this
                  cases this with
                  | one _ _ _ h3 h4 =>
                    refine .one _ _ _ ?_ h4
                    generalize ownE own x [] = q at h3
                    generalize a.eval x = vx at h3
                    cases h3
                    exact .full _ _ _ _ (.empty _ _ _)
                · exact this
              have hown : ∀ B s, ownE own x [] = some (B, s) → ∃ z, tmpOf x = some z ∧ own (.tmp z []) = some (B, s) := fun B s e => own_tmp e
              have fin : ∀ {rows ys : Rows} {new : List Value}, AR E w (Fn own R) ρ (.sl true e rows) (a.eval x) (ownE own x []) → Src P E w (Fn own R) te.size te.kinds (a.eval y) ys new → rows.length + ys.length ≤ 4294967296 → u0 = ⟨.one (.sl true e (rows ++ ys)), tmpOf x, [], [], []⟩ →
                  Ran E R ρ own N w (st.apply o.dst (u0.reads rd)) o.dst a ((do let d ← resolve a.eval c o.type; invoke d.target d.args : Sem Next).run P w) := by
                intro rows ys new h3 h4 h5 h6
                obtain ⟨val, w', g1, g2⟩ := app_sound (ty0 := o.type) (rd := []) G h hut he hby hd2 hd2' h3 h4 h5 hown hd
                rw [h6]
                exact .value (hrun (s := Builtin.append_ #[t, t2] o.type #[a.eval x, a.eval y]) (fun cs => by rw [hat, har]; simp [builtin]) g1) g2
              generalize hxv : ownNil e (ev st.fr x) = xv at hx hu
              generalize hyv : y' = yv at hsy hu
              split at hu <;> try (cases hu; done)
              · rename_i e' rows o2 e'' ys
                obtain ⟨hb, hu1⟩ := cond_none_some hu
                obtain ⟨hf, hu2⟩ := cond_none_some hu1
                clear hu hu1
                simp only [Bool.and_eq_true] at hb
                have e1 := Nat.eq_of_beq_eq_true hb.1
                have e2 := Nat.eq_of_beq_eq_true hb.2
                clear hb
                subst e1 e2
                obtain ⟨new, hs⟩ := hsy.src (P := P) G he
                exact fin hx.get_one hs (fits_le hf) (Option.some.inj hu2).symm
              · rename_i e' rows
                obtain ⟨hb, hu1⟩ := cond_none_some hu
                obtain ⟨hf, hu2⟩ := cond_none_some hu1
                clear hu hu1
                have e1 := Nat.eq_of_beq_eq_true hb
                clear hb
                subst e1
                obtain ⟨F0, p0, hy⟩ := hsy.any
                have hy1 := hy.get_one
                generalize hyy : a.eval y = vy at hy1
                generalize p0 [] = q0 at hy1
                cases hy1
                exact fin (ys := []) (new := []) hx.get_one (by rw [hyy]; exact src_nil) (by have := fits_le hf; simpa using this) (by rw [List.append_nil]; exact (Option.some.inj hu2).symm)
              · rename_i e' rows s
                cases hdt : te.desc <;> simp only [hdt] at hu <;> try (cases hu; done)
                rename_i k
                cases k <;> simp only at hu <;> try (cases hu; done)
                obtain ⟨hb, hu1⟩ := cond_none_some hu
                obtain ⟨hf, hu2⟩ := cond_none_some hu1
                clear hu hu1
                have e1 := Nat.eq_of_beq_eq_true hb
                clear hb
                subst e1
                obtain ⟨new, hs⟩ := src_str (P := P) (w := w) (F := Fn own R) G he hdt s
                have hlen : (ofBytes s).length = s.length := by simp [ofBytes_eq]
                obtain ⟨F0, p0, hy⟩ := hsy.any
                exact fin hx.get_one (by rw [hy.get_str]; exact hs) (by rw [hlen]; exact fits_le hf) (Option.some.inj hu2).symm
      case copy =>
        split at hu <;> try (cases hu; done)
        rename_i t t2 x y h1 h2
        have hat : c.argTypes = #[t, t2] := by rw [← Array.toArray_toList (xs := c.argTypes), h1]
        have har : c.args = #[x, y] := by rw [← Array.toArray_toList (xs := c.args), h2]
        obtain ⟨y', rd, hu1, hsy⟩ := srcK_sound G h (ev_rel h y).dis hu
        have hn := copyK_nat E (fun u => some (u.reads rd)) t (ev st.fr x) st y' some
        simp only [Option.bind_some] at hn
        rw [← hn] at hu1
        obtain ⟨u0, hu2, hu3⟩ := bind_some hu1
        cases hu3
        obtain ⟨val, w', g1, g2⟩ := copy_sound (t2 := t2) (ty0 := o.type) G h (ev_rel h x) hsy hu2 hd
        exact .value (hrun (s := Builtin.copy_ #[t, t2] o.type #[a.eval x, a.eval y]) (fun cs => by rw [hat, har]; simp [builtin]) g1) g2
      case len =>
        split at hu <;> try (cases hu; done)
        rename_i t x h1 h2
        have hat : c.argTypes = #[t] := by rw [← Array.toArray_toList (xs := c.argTypes), h1]
        have har : c.args = #[x] := by rw [← Array.toArray_toList (xs := c.args), h2]
        obtain ⟨v, val, rfl, g1, g2⟩ := len_sound (ty0 := o.type) G (ev_rel h x) hu
        exact .value (hrun (s := Builtin.len_ #[t] o.type #[a.eval x]) (fun cs => by rw [hat, har]; simp [builtin]) g1) (h.pure0 hd g2)
      case max =>
        obtain ⟨g1, g2⟩ := evL_rel h c.args.toList
        cases hev : evL st.fr c.args.toList with
        | nil => simp [hev] at hu
        | cons v r =>
          simp only [hev] at hu
          rw [hev] at g1 g2
          cases hcl : c.args.toList with
          | nil => rw [hcl] at g1; simp at g1
          | cons x xs =>
            rw [hcl] at g1
            simp only [hcl] at g2
            obtain ⟨v', val', k1, k2, k3⟩ := minMax_sound (P := P) true (l := r) (vs := xs.map a.eval) (by simpa using g1) (fun i h1 h2 => by
              have := g2 (i + 1) (by simpa using h1) (by simpa using h2)
              simpa using this) (g2 0 (by simp) (by simp)) hu
            have har : c.args = (x :: xs).toArray := by rw [← hcl]
            rw [k1]
            exact .value (hrun (s := Builtin.max_ c.argTypes o.type (c.args.map a.eval)) (fun cs => rfl) (by rw [har]; simpa [Builtin.max_] using k2)) (h.pure0 hd k3)
      case min =>
        obtain ⟨g1, g2⟩ := evL_rel h c.args.toList
        cases hev : evL st.fr c.args.toList with
        | nil => simp [hev] at hu
        | cons v r =>
          simp only [hev] at hu
          rw [hev] at g1 g2
          cases hcl : c.args.toList with
          | nil => rw [hcl] at g1; simp at g1
          | cons x xs =>
            rw [hcl] at g1
            simp only [hcl] at g2
            obtain ⟨v', val', k1, k2, k3⟩ := minMax_sound (P := P) false (l := r) (vs := xs.map a.eval) (by simpa using g1) (fun i h1 h2 => by
              have := g2 (i + 1) (by simpa using h1) (by simpa using h2)
              simpa using this) (g2 0 (by simp) (by simp)) hu
            have har : c.args = (x :: xs).toArray := by rw [← hcl]
            rw [k1]
            exact .value (hrun (s := Builtin.min_ c.argTypes o.type (c.args.map a.eval)) (fun cs => rfl) (by rw [har]; simpa [Builtin.min_] using k2)) (h.pure0 hd k3)

end Go.Abs
