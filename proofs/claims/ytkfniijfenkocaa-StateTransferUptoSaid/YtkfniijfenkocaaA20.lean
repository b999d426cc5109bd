/-
  What an operation looks at: where two states agree on that, it does the same. Two operations that lie apart may change places.
-/
import Derived.Test.YtkfniijfenkocaaA19
namespace Go.Abs

variable {E : Env} {call : CallF} {tk : List Nat} {sigs : List (Nat × Sig)} {all : List Oper}

theorem tmpsOf_mem {t : Nat} : ∀ {l : List Operand}, t ∈ tmpsOf l ↔ Operand.tmp t ∈ l
  | [] => by simp [tmpsOf]
  | x :: r => by cases x <;> simp [tmpsOf, tmpsOf_mem (l := r)]

section loc
variable {fr fr' : List (Nat × AV)}

theorem ev_loc {x : Operand} (h : ∀ t, x = .tmp t → get fr t = get fr' t) : ev fr x = ev fr' x := by
  cases x with
  | tmp t => exact h t rfl
  | _ => rfl

theorem evL_loc : ∀ {l : List Operand}, (∀ t, Operand.tmp t ∈ l → get fr t = get fr' t) → evL fr l = evL fr' l
  | [], _ => rfl
  | x :: r, h => by simp only [evL]; rw [ev_loc fun t e => h t (by simp [e]), evL_loc fun t e => h t (by simp [e])]

theorem evO_loc : ∀ {x : Option Operand}, (∀ t, x = some (.tmp t) → get fr t = get fr' t) → evO fr x = evO fr' x
  | none, _ => rfl
  | some x, h => by simp only [evO]; rw [ev_loc fun t e => h t (by simp [e])]

theorem evParts_loc : ∀ {l : List (Nat × Operand)}, (∀ t, Operand.tmp t ∈ opOps.partOps l → get fr t = get fr' t) → evParts fr l = evParts fr' l
  | [], _ => rfl
  | (i, x) :: r, h => by simp only [evParts]; rw [ev_loc fun t e => h t (by simp [opOps.partOps, e]), evParts_loc fun t e => h t (by simp [opOps.partOps, e])]

theorem evPartsT_loc {x : Nat} : ∀ {l : List (Nat × Operand)}, (∀ t, Operand.tmp t ∈ opOps.partOps l → get fr t = get fr' t) → evPartsT fr x l = evPartsT fr' x l
  | [], _ => rfl
  | (i, y) :: r, h => by
    have h1 := ev_loc (fr := fr) (fr' := fr') (x := y) fun t e => h t (by simp [opOps.partOps, e])
    have h2 := evPartsT_loc (x := x) (l := r) fun t e => h t (by simp [opOps.partOps, e])
    have h3 := evParts_loc (fr := fr) (fr' := fr') (l := r) fun t e => h t (by simp [opOps.partOps, e])
    simp only [evPartsT, h1, h2, h3]

theorem firstTk_loc {tk : List Nat} : ∀ {l : List (Nat × Operand)}, (∀ t, Operand.tmp t ∈ opOps.partOps l → get fr t = get fr' t) → firstTk tk fr l = firstTk tk fr' l
  | [], _ => rfl
  | (i, y) :: r, h => by
    have h2 := firstTk_loc (tk := tk) (l := r) fun t e => h t (by simp [opOps.partOps, e])
    cases y with
    | tmp t =>
      simp only [firstTk, tmpOf]
      rw [h t (by simp [opOps.partOps]), h2]
    | _ => simpa [firstTk, tmpOf] using h2
end loc

theorem reach_sub (blk : List Block) : ∀ (n : Nat) (todo seen : List Nat), ∀ x ∈ seen, x ∈ reach blk n todo seen
  | 0, _, _, x, h => by simpa [reach] using h
  | n + 1, [], _, x, h => by simpa [reach] using h
  | n + 1, b :: todo, seen, x, h => by
    simp only [reach]
    cases memN seen b with
    | true => exact reach_sub blk n _ _ x h
    | false => exact reach_sub blk n _ _ x (by rw [app_eq]; exact List.mem_append_left _ h)

theorem reach_loc {blk blk' : List Block} : ∀ (n : Nat) (todo seen : List Nat), (∀ b ∈ reach blk n todo seen, nth blk b = nth blk' b) → reach blk' n todo seen = reach blk n todo seen
  | 0, _, _, _ => by simp [reach]
  | n + 1, [], _, _ => by simp [reach]
  | n + 1, b :: todo, seen, h => by
    simp only [reach] at h ⊢
    cases hm : memN seen b with
    | true => rw [hm] at h; exact reach_loc n _ _ h
    | false =>
      rw [hm] at h
      simp only [cond_false] at h ⊢
      have hb := h b (reach_sub blk n _ _ b (by rw [app_eq]; exact List.mem_append_right _ (by simp)))
      rw [← hb]
      exact reach_loc n _ _ h

theorem pickBlks_loc {μ : Nat → Option Nat} {blk blk' : List Block} : ∀ {sel : List Nat}, (∀ b ∈ sel, nth blk b = nth blk' b) → pickBlks μ blk' sel = pickBlks μ blk sel
  | [], _ => rfl
  | b :: r, h => by simp only [pickBlks]; rw [h b (by simp), pickBlks_loc fun b hb => h b (by simp [hb])]

theorem back_same {sel : List Nat} {n n' m : Nat} (h : m ≤ sel.length) : back sel n m = back sel n' m := by
  funext i
  unfold back
  split
  · rfl
  · rename_i e
    rw [nth_eq, List.getElem?_eq_none_iff] at e
    have : Nat.blt i m = false := by
      cases hb : Nat.blt i m with
      | false => rfl
      | true => have : i < m := Nat.lt_of_lt_of_le (Nat.lt_of_succ_le (Nat.le_of_ble_eq_true hb)) (Nat.le_refl _); omega
    simp only [this, cond_false]

theorem callK_loc {sg : Sig} {f : FuncId} {args : List AV} {st st' : St} {u : Upd} (hu : callK call sg f args st some = some u) (hb : ∀ b ∈ u.rd, nth st.blk b = nth st'.blk b)
    (hn : u.nu ≠ [] → st.blk.length = st'.blk.length) : callK call sg f args st' some = some u := by
  unfold callK at hu ⊢
  dsimp only at hu ⊢
  generalize hsl : reach st.blk 1000 (refsOfVs args) [] = sel at hu
  have hrd : u.rd = sel := by
    split at hu <;> try (cases hu; done)
    rename_i args' bs _ _
    revert hu
    cases hc : call f args' bs with
    | mk known r =>
    intro hu
    unfold callT at hu
    obtain ⟨sg, hsg⟩ : ∃ s, s = sg.fit (lenN r.2) := ⟨_, rfl⟩
    rw [← hsg] at hu
    cases known <;> simp only [cond_true, cond_false] at hu <;> try (cases hu; done)
    cases hok : sg.ok r <;> simp only [hok, cond_true, cond_false] at hu <;> try (cases hu; done)
    split at hu <;> try (cases hu; done)
    rename_i vs bs' _ _
    cases hle : Nat.ble (lenN sel) (lenN bs') <;> simp only [hle, cond_true, cond_false] at hu <;> try (cases hu; done)
    cases hu; rfl
  have hsl' : reach st'.blk 1000 (refsOfVs args) [] = sel := by
    rw [← hsl]
    exact reach_loc _ _ _ fun b hm => hb b (by rw [hrd, ← hsl]; exact hm)
  rw [hsl', pickBlks_loc (blk := st.blk) fun b hm => hb b (by rw [hrd]; exact hm)]
  split at hu <;> try (cases hu; done)
  rename_i args' bs h1 h2
  try rw [h1, h2]
  try dsimp only
  revert hu
  cases hc : call f args' bs with
  | mk known r =>
  intro hu
  unfold callT at hu ⊢
  obtain ⟨sg, hsg⟩ : ∃ s, s = sg.fit (lenN r.2) := ⟨_, rfl⟩
  rw [← hsg] at hu ⊢
  dsimp only at hu ⊢
  cases known <;> simp only [cond_true, cond_false] at hu ⊢ <;> try (cases hu; done)
  cases hok : sg.ok r <;> simp only [hok, cond_true, cond_false] at hu ⊢ <;> try (cases hu; done)
  split at hu <;> try (cases hu; done)
  rename_i vs bs' h3 h4
  cases hle : Nat.ble (lenN sel) (lenN bs') <;> simp only [hle, cond_true, cond_false] at hu <;> try (cases hu; done)
  have hback : back sel (lenN st'.blk) (lenN r.2) = back sel (lenN st.blk) (lenN r.2) := by
    by_cases hnu : u.nu = []
    · refine back_same ?_
      cases hu
      simp only [dropN_eq, List.drop_eq_nil_iff, lenN_eq] at hnu
      have := (remapBs_some h4).1
      have h5 := (projBs_some (ps := sg.blks) (l := r.2) (k := 0)).1
      have h6 : sg.blks.length = r.2.length := by
        simp only [Sig.ok, Bool.and_eq_true] at hok
        exact (okBs_some hok.2).1
      rw [lenN_eq]
      omega
    · simp only [lenN_eq, hn hnu]
  rw [hback]
  try rw [h3, h4]
  simp only [hle, cond_true]
  exact hu

theorem thawK_loc {t : TypeId} {x : AV} {st st' : St} {u : Upd} (hu : thawK E t st x some = some u) (hn : u.nu ≠ [] → st.blk.length = st'.blk.length) : thawK E t st' x some = some u := by
  unfold thawK at hu ⊢
  split at hu <;> try (cases hu; done)
  split at hu <;> try (cases hu; done)
  split at hu <;> try (cases hu; done)
  cases hu
  have := hn (by simp)
  simp only [lenN_eq, this]

theorem freezeK_loc {x : AV} {st st' : St} {u : Upd} (hu : freezeK st x some = some u) (hb : ∀ b ∈ u.rd, nth st.blk b = nth st'.blk b) : freezeK st' x some = some u := by
  unfold freezeK at hu ⊢
  split at hu <;> try (cases hu; done)
  rename_i e b n
  try dsimp only
  have hbb : nth st.blk b = nth st'.blk b := by
    refine hb b ?_
    split at hu <;> try (cases hu; done)
    obtain ⟨_, hu⟩ := cond_none_some hu
    obtain ⟨_, hu⟩ := cond_none_some hu
    cases hu; simp
  rw [← hbb]
  exact hu

theorem mappK_loc {t t2 e : TypeId} {b n : Nat} {y : AV} {st st' : St} {u : Upd} (hu : mappK E t t2 e b n st y some = some u) (hb : ∀ b ∈ u.rd, nth st.blk b = nth st'.blk b) (hn : u.nu ≠ [] → st.blk.length = st'.blk.length) : mappK E t t2 e b n st' y some = some u := by
  have key : b ∈ u.rd ∧ u.nu ≠ [] := by
    unfold mappK at hu
    split at hu <;> try (cases hu; done)
    replace hu := (cond_none_some hu).2
    split at hu <;> try (cases hu; done)
    split at hu <;> try (cases hu; done)
    replace hu := (cond_none_some hu).2
    split at hu <;> try (cases hu; done)
    replace hu := (cond_none_some hu).2
    replace hu := (cond_none_some hu).2
    replace hu := (cond_none_some hu).2
    cases hu
    simp
  have hl := hn key.2
  unfold mappK at hu ⊢
  simp only [lenN_eq, ← hl, ← hb b key.1] at hu ⊢
  exact hu

theorem actK_loc {sg : Option Sig} {o : Oper} {st st' : St} {u : Upd} (hu : actK E call tk sg o st some = some u) (ht : ∀ t ∈ tmpsOf (opOps o.op), get st.fr t = get st'.fr t)
    (hb : ∀ b ∈ u.rd, nth st.blk b = nth st'.blk b) (hn : u.nu ≠ [] → st.blk.length = st'.blk.length) : actK E call tk sg o st' some = some u := by
  have hx : ∀ x ∈ opOps o.op, ev st.fr x = ev st'.fr x := fun x hm => ev_loc fun t e => ht t (tmpsOf_mem.2 (e ▸ hm))
  unfold actK at hu ⊢
  cases hop : o.op <;> rw [hop] at hx hu ht <;> try (cases hu; done)
  all_goals try dsimp only at hu ⊢
  case move x =>
    rw [← hx x (by simp [opOps])]
    split at hu
    · exact thawK_loc hu hn
    · exact freezeK_loc hu hb
    · exact hu
  case assign x =>
    rw [← hx x (by simp [opOps])]
    split at hu
    · exact thawK_loc hu hn
    · exact freezeK_loc hu hb
    · exact hu
  case pick c a b => rw [← hx c (by simp [opOps]), ← hx a (by simp [opOps]), ← hx b (by simp [opOps])]; exact hu
  case alloc t =>
    split at hu <;> try (cases hu; done)
    have : st.blk.length = st'.blk.length := by
      refine hn ?_
      obtain ⟨z, hz⟩ : ∃ z, some (⟨.one (.ptr (lenN st.blk) 0), none, [], [.var z], []⟩ : Upd) = some u := by
        rename_i ty _
        have := zerosK_nat (fun z => some (⟨.one (.ptr (lenN st.blk) 0), none, [], [.var z], []⟩ : Upd)) ty.kinds some
        simp only [Option.bind_some] at this
        rw [← this] at hu
        cases hz : zerosK ty.kinds some with
        | none => rw [hz] at hu; cases hu
        | some z => rw [hz] at hu; exact ⟨z, hu⟩
      cases hz
      simp
    rw [lenN_eq, ← this, ← lenN_eq]
    exact hu
  case box t x =>
    rw [← hx x (by simp [opOps])]
    split at hu <;> try (cases hu; done)
    rename_i ty _
    have : st.blk.length = st'.blk.length := by
      refine hn ?_
      generalize (cond (takes tk o.dst) (ev st.fr x) (ev st.fr x).dis) = v at hu
      have := cellsK_nat (fun l => some (⟨.one (.ptr (lenN st.blk) 0), cond (takes tk o.dst) (tmpOf x) none, [], [.var l], []⟩ : Upd)) ty v some
      simp only [Option.bind_some] at this
      rw [← this] at hu
      cases hz : cellsK ty v some with
      | none => rw [hz] at hu; cases hu
      | some z => rw [hz] at hu; cases hu; simp
    rw [lenN_eq, ← this, ← lenN_eq]
    exact hu
  case build t ps =>
    have hp : ∀ t, Operand.tmp t ∈ opOps.partOps ps.toList → get st.fr t = get st'.fr t := fun t hm => ht t (tmpsOf_mem.2 (by simpa [opOps] using hm))
    rw [← firstTk_loc (fr := st.fr) hp]
    split at hu
    · rename_i x hx
      try rw [hx]
      rw [← evPartsT_loc (fr := st.fr) hp]; exact hu
    · rename_i hx
      try rw [hx]
      rw [← evParts_loc (fr := st.fr) hp]; exact hu
  case buildSlice t n ps =>
    rw [← evParts_loc (fr := st.fr) fun t hm => ht t (tmpsOf_mem.2 (by simpa [opOps] using hm))]; exact hu
  case load t p =>
    rw [← hx p (by simp [opOps])]
    unfold loadK at hu ⊢
    split at hu <;> try (cases hu; done)
    rename_i ty hty
    try rw [hty]
    try dsimp only
    split at hu <;> try (cases hu; done)
    · rename_i b off hv
      try rw [hv]
      try dsimp only
      have hbb : nth st.blk b = nth st'.blk b := by
        refine hb b ?_
        split at hu <;> try (cases hu; done)
        obtain ⟨_, hu⟩ := takeK_some hu
        unfold valueK at hu
        have key : ∀ (cs ds : List AC) (v : AV), ((match takes tk o.dst with
          | false => some (⟨v.dis, none, [], [], [b]⟩ : Upd)
          | true => storeK cs off (disL ds) fun cells' => some ⟨v, none, [(b, .var cells')], [], [b]⟩) = some u) → b ∈ u.rd := by
          intro cs ds v hu
          split at hu
          · cases hu; simp
          · obtain ⟨_, hu⟩ := storeK_some hu
            cases hu; simp
        split at hu <;> first | exact key _ _ _ hu | cases hu
      rw [← hbb]
      exact hu
    · exact hu
    · exact hu
    · rename_i b e i off hv
      try rw [hv]
      try dsimp only
      have hbb : nth st.blk b = nth st'.blk b := by
        refine hb b ?_
        split at hu <;> try (cases hu; done)
        split at hu <;> try (cases hu; done)
        replace hu := (cond_none_some hu).2
        replace hu := (cond_none_some hu).2
        obtain ⟨l, hu, _⟩ := projK_some hu
        unfold valueK at hu
        split at hu <;> cases hu <;> simp
      rw [← hbb]
      exact hu
  case store t p x =>
    rw [← hx p (by simp [opOps]), ← hx x (by simp [opOps])]
    have key : ∀ v dis, storeOpK E t st (ev st.fr p) v dis some = some u → storeOpK E t st' (ev st.fr p) v dis some = some u := by
      intro v dis hu
      unfold storeOpK at hu ⊢
      split at hu <;> try (cases hu; done)
      rename_i ty hty
      try rw [hty]
      try dsimp only
      split at hu <;> try (cases hu; done)
      rotate_left
      · rename_i b e i off hv
        try rw [hv]
        try dsimp only
        have hbb : nth st.blk b = nth st'.blk b := by
          refine hb b ?_
          split at hu <;> try (cases hu; done)
          split at hu <;> try (cases hu; done)
          replace hu := (cond_none_some hu).2
          replace hu := (cond_none_some hu).2
          obtain ⟨l, _, hu⟩ := cellsK_some hu
          obtain ⟨row, hu, _⟩ := rowK_some hu
          cases hu; simp
        rw [← hbb]
        exact hu
      rename_i b off hv
      try rw [hv]
      try dsimp only
      have hbb : nth st.blk b = nth st'.blk b := by
        refine hb b ?_
        split at hu <;> try (cases hu; done)
        rename_i cells _
        have := cellsK_nat (fun l => storeK cells off l fun cells' => some (⟨.undef, dis, [(b, .var cells')], [], [b]⟩ : Upd)) ty v some
        simp only [Option.bind_some] at this
        rw [← this] at hu
        cases hz : cellsK ty v some with
        | none => rw [hz] at hu; cases hu
        | some z =>
          rw [hz] at hu
          obtain ⟨_, hu⟩ := storeK_some hu
          cases hu; simp
      rw [← hbb]
      exact hu
    split at hu <;> exact key _ _ hu
  case nilCheck x => rw [← hx x (by simp [opOps])]; exact hu
  case binOp op t x y t2 => rw [← hx x (by simp [opOps]), ← hx y (by simp [opOps])]; exact hu
  case unOp op t x => rw [← hx x (by simp [opOps])]; exact hu
  case convert s d x => rw [← hx x (by simp [opOps])]; exact hu
  case makeFunc fn first caps =>
    cases fn <;> (try dsimp only at hu ⊢) <;> try (cases hu; done)
    rw [← evL_loc (fr := st.fr) fun t hm => ht t (tmpsOf_mem.2 (by simpa [opOps] using hm))]; exact hu
  case makeSlice t l c => rw [← hx l (by simp [opOps]), ← hx c (by simp [opOps])]; exact hu
  case slice t x lo hi mx =>
    rw [← hx x (by simp [opOps]), ← evO_loc (fr := st.fr) (x := lo) fun t e => ht t (tmpsOf_mem.2 (by simp [opOps, e, optL, app_eq])), ← evO_loc (fr := st.fr) (x := hi) fun t e => ht t (tmpsOf_mem.2 (by simp [opOps, e, optL, app_eq])),
      ← evO_loc (fr := st.fr) (x := mx) fun t e => ht t (tmpsOf_mem.2 (by simp [opOps, e, optL, app_eq]))]
    exact hu
  case fieldAddr s x g => rw [← hx x (by simp [opOps])]; exact hu
  case field s x g => rw [← hx x (by simp [opOps])]; exact hu
  case indexAddr t x i => rw [← hx x (by simp [opOps]), ← hx i (by simp [opOps])]; exact hu
  case index t x i => rw [← hx x (by simp [opOps]), ← hx i (by simp [opOps])]; exact hu
  case extract x i => rw [← hx x (by simp [opOps])]; exact hu
  case call c =>
    have hargs : evL st.fr c.args.toList = evL st'.fr c.args.toList := evL_loc fun t hm => ht t (tmpsOf_mem.2 (by
      simp only [opOps]
      split
      · exact List.mem_cons_of_mem _ hm
      · exact hm))
    cases hcal : c.callee <;> rw [hcal] at hu <;> try (cases hu; done)
    case value g =>
      try dsimp only at hu ⊢
      rw [← hx g (by simp [opOps, hcal]), ← hargs]
      split at hu <;> try (cases hu; done)
      rename_i hv
      try rw [hv]
      try dsimp only
      split at hu <;> try (cases hu; done)
      rename_i hfn
      try rw [hfn]
      exact callK_loc hu hb hn
    case builtin bi =>
      have hmem : ∀ x ∈ c.args.toList, ev st.fr x = ev st'.fr x := fun x hm => hx x (by simp only [opOps, hcal]; exact hm)
      try dsimp only at hu ⊢
      cases bi <;> (try dsimp only at hu ⊢) <;> try (cases hu; done)
      case len =>
        split at hu <;> try (cases hu; done)
        rename_i h1 h2
        try rw [h1, h2]
        try dsimp only
        rw [← hmem _ (by rw [h2]; simp)]; exact hu
      case append =>
        split at hu <;> try (cases hu; done)
        rename_i h1 h2
        try rw [h1, h2]
        try dsimp only
        rw [← hmem _ (by rw [h2]; simp), ← hmem _ (by rw [h2]; simp)]
        split at hu
        · exact mappK_loc hu hb hn
        · exact hu
      case min => rw [← hargs]; exact hu
      case max => rw [← hargs]; exact hu

end Go.Abs
