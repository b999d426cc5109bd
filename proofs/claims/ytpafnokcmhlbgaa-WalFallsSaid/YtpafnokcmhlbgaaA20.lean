/-
  What an operation looks at: where two states agree on that, it does the same. Two operations that lie apart may change places.
-/
import Derived.Test.YtpafnokcmhlbgaaA19
namespace Go.Abs

variable {E : Env} {call : CallF} {tk : List Nat} {sigs : List (Nat × Sig)} {all : List Oper}

theorem tmpsOf_mem {t : Nat} : ∀ {l : List Operand}, t ∈ tmpsOf l ↔ Operand.tmp t ∈ l
  | [] => by simp [tmpsOf]
  | x :: r => by cases x <;> simp [tmpsOf, tmpsOf_mem (l := r)]

section loc
variable {fr fr' : List (Nat × AV)}

theorem ev_loc {x : Operand} (h : ∀ t, x = .tmp t → get fr t = get fr' t) : ev fr x = ev fr' x := by
  cases x with
  | tmp t => exact h t rfl
  | _ => rfl

theorem evL_loc : ∀ {l : List Operand}, (∀ t, Operand.tmp t ∈ l → get fr t = get fr' t) → evL fr l = evL fr' l
  | [], _ => rfl
  | x :: r, h => by simp only [evL]; rw [ev_loc fun t e => h t (by simp [e]), evL_loc fun t e => h t (by simp [e])]

theorem evO_loc : ∀ {x : Option Operand}, (∀ t, x = some (.tmp t) → get fr t = get fr' t) → evO fr x = evO fr' x
  | none, _ => rfl
  | some x, h => by simp only [evO]; rw [ev_loc fun t e => h t (by simp [e])]

theorem evParts_loc : ∀ {l : List (Nat × Operand)}, (∀ t, Operand.tmp t ∈ opOps.partOps l → get fr t = get fr' t) → evParts fr l = evParts fr' l
  | [], _ => rfl
  | (i, x) :: r, h => by simp only [evParts]; rw [ev_loc fun t e => h t (by simp [opOps.partOps, e]), evParts_loc fun t e => h t (by simp [opOps.partOps, e])]

theorem evPartsT_loc {x : Nat} : ∀ {l : List (Nat × Operand)}, (∀ t, Operand.tmp t ∈ opOps.partOps l → get fr t = get fr' t) → evPartsT fr x l = evPartsT fr' x l
  | [], _ => rfl
  | (i, y) :: r, h => by
    have h1 := ev_loc (fr := fr) (fr' := fr') (x := y) fun t e => h t (by simp [opOps.partOps, e])
    have h2 := evPartsT_loc (x := x) (l := r) fun t e => h t (by simp [opOps.partOps, e])
    have h3 := evParts_loc (fr := fr) (fr' := fr') (l := r) fun t e => h t (by simp [opOps.partOps, e])
    simp only [evPartsT, h1, h2, h3]

theorem firstTk_loc {tk : List Nat} : ∀ {l : List (Nat × Operand)}, (∀ t, Operand.tmp t ∈ opOps.partOps l → get fr t = get fr' t) → firstTk tk fr l = firstTk tk fr' l
  | [], _ => rfl
  | (i, y) :: r, h => by
    have h2 := firstTk_loc (tk := tk) (l := r) fun t e => h t (by simp [opOps.partOps, e])
    cases y with
    | tmp t =>
      simp only [firstTk, tmpOf]
      rw [h t (by simp [opOps.partOps]), h2]
    | _ => simpa [firstTk, tmpOf] using h2
end loc

theorem reach_sub (blk : List Block) : ∀ (n : Nat) (todo seen : List Nat), ∀ x ∈ seen, x ∈ reach blk n todo seen
  | 0, _, _, x, h => by simpa [reach] using h
  | n + 1, [], _, x, h => by simpa [reach] using h
  | n + 1, b :: todo, seen, x, h => by
    simp only [reach]
    cases memN seen b with
    | true => exact reach_sub blk n _ _ x h
    | false => exact reach_sub blk n _ _ x (by rw [app_eq]; exact List.mem_append_left _ h)

theorem reach_loc {blk blk' : List Block} : ∀ (n : Nat) (todo seen : List Nat), (∀ b ∈ reach blk n todo seen, nth blk b = nth blk' b) → reach blk' n todo seen = reach blk n todo seen
  | 0, _, _, _ => by simp [reach]
  | n + 1, [], _, _ => by simp [reach]
  | n + 1, b :: todo, seen, h => by
    simp only [reach] at h ⊢
    cases hm : memN seen b with
    | true => rw [hm] at h; exact reach_loc n _ _ h
    | false =>
      rw [hm] at h
      simp only [cond_false] at h ⊢
      have hb := h b (reach_sub blk n _ _ b (by rw [app_eq]; exact List.mem_append_right _ (by simp)))
      rw [← hb]
      exact reach_loc n _ _ h

theorem pickBlks_loc {μ : Nat → Option Nat} {blk blk' : List Block} : ∀ {sel : List Nat}, (∀ b ∈ sel, nth blk b = nth blk' b) → pickBlks μ blk' sel = pickBlks μ blk sel
  | [], _ => rfl
  | b :: r, h => by simp only [pickBlks]; rw [h b (by simp), pickBlks_loc fun b hb => h b (by simp [hb])]

theorem back_same {sel : List Nat} {n n' m : Nat} (h : m ≤ sel.length) : back sel n m = back sel n' m := by
  funext i
  unfold back
  split
  · rfl
  · rename_i e
    rw [nth_eq, List.getElem?_eq_none_iff] at e
    have : Nat.blt i m = false := by
      cases hb : Nat.blt i m with
      | false => rfl
      | true => have : i < m := Nat.lt_of_lt_of_le (Nat.lt_of_succ_le (Nat.le_of_ble_eq_true hb)) (Nat.le_refl _); omega
    simp only [this, cond_false]

theorem callK_loc {sg : Sig} {f : FuncId} {args : List AV} {st st' : St} {u : Upd} (hu : callK call sg f args st some = some u) (hb : ∀ b ∈ u.rd, nth st.blk b = nth st'.blk b)
    (hn : u.nu ≠ [] → st.blk.length = st'.blk.length) : callK call sg f args st' some = some u := by
  unfold callK at hu ⊢
  dsimp only at hu ⊢
  generalize hsl : reach st.blk 1000 (refsOfVs args) [] = sel at hu
  have hrd : u.rd = sel := by
    split at hu <;> try (cases hu; done)
    rename_i args' bs _ _
    revert hu
    cases hc : call f args' bs with
    | mk known r =>
    intro hu
    simp only [callA_eq] at hu
    unfold callT callU at hu
    obtain ⟨sg, hsg⟩ : ∃ s, s = pickA sg r := ⟨_, rfl⟩
    rw [← hsg] at hu
    cases known <;> simp only [cond_true, cond_false] at hu <;> try (cases hu; done)
    cases hok : sg.ok r <;> simp only [hok, cond_true, cond_false] at hu <;> try (cases hu; done)
    split at hu <;> try (cases hu; done)
    rename_i vs bs' _ _
    cases hle : Nat.ble (lenN sel) (lenN bs') <;> simp only [hle, cond_true, cond_false] at hu <;> try (cases hu; done)
    cases hu; rfl
  have hsl' : reach st'.blk 1000 (refsOfVs args) [] = sel := by
    rw [← hsl]
    exact reach_loc _ _ _ fun b hm => hb b (by rw [hrd, ← hsl]; exact hm)
  rw [hsl', pickBlks_loc (blk := st.blk) fun b hm => hb b (by rw [hrd]; exact hm)]
  split at hu <;> try (cases hu; done)
  rename_i args' bs h1 h2
  try rw [h1, h2]
  try dsimp only
  revert hu
  cases hc : call f args' bs with
  | mk known r =>
  intro hu
  simp only [callA_eq] at hu ⊢
  unfold callT callU at hu ⊢
  obtain ⟨sg, hsg⟩ : ∃ s, s = pickA sg r := ⟨_, rfl⟩
  rw [← hsg] at hu ⊢
  try dsimp only at hu ⊢
  cases known <;> simp only [cond_true, cond_false] at hu ⊢ <;> try (cases hu; done)
  cases hok : sg.ok r <;> simp only [hok, cond_true, cond_false] at hu ⊢ <;> try (cases hu; done)
  split at hu <;> try (cases hu; done)
  rename_i vs bs' h3 h4
  cases hle : Nat.ble (lenN sel) (lenN bs') <;> simp only [hle, cond_true, cond_false] at hu <;> try (cases hu; done)
  have h6 : sg.blks.length = r.2.length := by
    have h6 := hok
    simp only [Sig.ok, Bool.and_eq_true] at h6
    exact (okBs_some h6.2).1
  have hback : back sel (lenN st'.blk) (lenN sg.blks) = back sel (lenN st.blk) (lenN sg.blks) := by
    by_cases hnu : u.nu = []
    · refine back_same ?_
      cases hu
      simp only [dropN_eq, List.drop_eq_nil_iff, lenN_eq] at hnu
      have := (remapBs_some h4).1
      have h5 := (projBs_some (ps := sg.blks) (l := r.2) (k := 0)).1
      rw [lenN_eq]
      omega
    · simp only [lenN_eq, hn hnu]
  rw [hback]
  try rw [h3, h4]
  simp only [hle, cond_true]
  exact hu

theorem sameWr_loc {bs bs' : List Block} : ∀ {l : List (Nat × Block)}, (∀ k ∈ l.map (·.1), blkAt bs k = blkAt bs' k) → sameWr bs l = sameWr bs' l
  | [], _ => rfl
  | (k, c) :: r, h => by
    simp only [sameWr]
    rw [h k (by simp), sameWr_loc (l := r) fun k' hk => h k' (by simp only [List.map_cons, List.mem_cons]; exact .inr hk)]

theorem blkAt_none {bs : List Block} : ∀ {k : Nat}, nth bs k = none → blkAt bs k = .dead := by
  induction bs with
  | nil => intro k h; rfl
  | cons b bs ih =>
    intro k h
    cases k with
    | zero => simp [nth] at h
    | succ k => simp only [nth] at h; exact ih h

theorem blkAt_eq {bs bs' : List Block} {k : Nat} (h : nth bs k = nth bs' k) : blkAt bs k = blkAt bs' k := by
  cases hc : nth bs k with
  | none => rw [blkAt_none hc, blkAt_none (by rw [← h]; exact hc)]
  | some c => rw [blkAt_nth hc, blkAt_nth (by rw [← h]; exact hc)]

theorem zipW_fst : ∀ {sel : List Nat} {bs : List Block}, ∀ k ∈ (zipW sel bs).map (·.1), k ∈ sel
  | [], bs, k, h => by cases bs <;> simp [zipW] at h
  | _ :: _, [], k, h => by simp [zipW] at h
  | b :: sel, c :: bs, k, h => by
    simp only [zipW, List.map_cons, List.mem_cons] at h
    rcases h with rfl | h
    · simp
    · exact List.mem_cons_of_mem _ (zipW_fst k h)

theorem callK_wr {sg : Sig} {f : FuncId} {args : List AV} {u : Upd} {st : St} (hu : callK call sg f args st some = some u) : ∀ k ∈ u.wr.map (·.1), k ∈ u.rd := by
  unfold callK at hu
  dsimp only at hu
  split at hu <;> try (cases hu; done)
  rename_i args' bs _ _
  cases hc : call f args' bs with
  | mk known r =>
    rw [hc] at hu
    simp only [callA_eq] at hu
    unfold callT callU at hu
    cases known <;> simp only [cond_true, cond_false] at hu <;> try (cases hu; done)
    cases hok : (pickA sg r).ok r <;> simp only [hok, cond_true, cond_false] at hu <;> try (cases hu; done)
    split at hu <;> try (cases hu; done)
    replace hu := (cond_none_some hu).2
    cases hu
    exact fun k hk => zipW_fst k hk

theorem pureCK_loc {sg : Sig} {f : FuncId} {args : List AV} {st st' : St} {u : Upd} (hu : pureCK call sg f args st some = some u) (hb : ∀ b ∈ u.rd, nth st.blk b = nth st'.blk b) : pureCK call sg f args st' some = some u := by
  obtain ⟨u1, h1, h2, h3, h4⟩ := pureCK_some _ _ _ _ _ hu
  have hb' : ∀ b ∈ u1.rd, nth st.blk b = nth st'.blk b := fun b hm => hb b (by rw [h4]; exact hm)
  have h5 := callK_loc h1 hb' (fun hc => absurd h2 hc)
  have h6 : sameWr st'.blk u1.wr = true := by
    rw [← h3]
    exact (sameWr_loc fun k hk => blkAt_eq (hb' k (callK_wr h1 k hk))).symm
  unfold pureCK
  have hn := callK_nat (f := fun u => cond (isNilL u.nu && sameWr st'.blk u.wr) (some (⟨u.val, none, [], [], u.rd⟩ : Upd)) none) call sg f args st' some
  simp only [Option.bind_some] at hn
  rw [← hn, h5]
  simp only [Option.bind_some, h2, isNilL, h6, Bool.and_self, cond_true, h4]

theorem thawK_loc {t : TypeId} {x : AV} {st st' : St} {u : Upd} (hu : thawK E t st x some = some u) (hn : u.nu ≠ [] → st.blk.length = st'.blk.length) : thawK E t st' x some = some u := by
  unfold thawK at hu ⊢
  split at hu <;> try (cases hu; done)
  split at hu <;> try (cases hu; done)
  rotate_left
  · exact hu
  split at hu <;> try (cases hu; done)
  cases hu
  have := hn (by simp)
  simp only [lenN_eq, this]

theorem thawBK_loc {t : TypeId} {len : Nat} {st st' : St} {u : Upd} (hu : thawBK E t len st some = some u) (hn : u.nu ≠ [] → st.blk.length = st'.blk.length) : thawBK E t len st' some = some u := by
  unfold thawBK at hu ⊢
  split at hu <;> try (cases hu; done)
  split at hu <;> try (cases hu; done)
  split at hu <;> try (cases hu; done)
  obtain ⟨hl, hu⟩ := cond_none_some hu
  cases hu
  have := hn (by simp)
  simp only [hl, cond_true, lenN_eq, this]

theorem thawMK_loc {t : TypeId} {x y : AV} {st st' : St} {u : Upd} (hu : thawMK E t st x y some = some u) (hn : u.nu ≠ [] → st.blk.length = st'.blk.length) : thawMK E t st' x y some = some u := by
  have key : u.nu ≠ [] := by
    unfold thawMK at hu
    split at hu <;> try (cases hu; done)
    split at hu <;> try (cases hu; done)
    split at hu <;> try (cases hu; done)
    replace hu := (cond_none_some hu).2
    replace hu := (cond_none_some hu).2
    replace hu := (cond_none_some hu).2
    obtain ⟨z, hu, _⟩ := zerosK_some hu
    obtain ⟨row, hu, _⟩ := rowK_some hu
    cases hu
    simp
  unfold thawMK at hu ⊢
  simp only [lenN_eq, ← hn key] at hu ⊢
  exact hu

theorem thawAK_loc {t : TypeId} {st st' : St} {u : Upd} (hu : thawAK E t st some = some u) (hn : u.nu ≠ [] → st.blk.length = st'.blk.length) : thawAK E t st' some = some u := by
  have key : u.nu ≠ [] := by
    unfold thawAK at hu
    split at hu <;> try (cases hu; done)
    split at hu <;> try (cases hu; done)
    split at hu <;> try (cases hu; done)
    split at hu <;> try (cases hu; done)
    replace hu := (cond_none_some hu).2
    split at hu <;> try (cases hu; done)
    split at hu <;> try (cases hu; done)
    cases hu
    simp
  unfold thawAK at hu ⊢
  simp only [lenN_eq, ← hn key] at hu ⊢
  exact hu

theorem reads_mem {u : Upd} {rd : List Nat} {b : Nat} : b ∈ (u.reads rd).rd ↔ b ∈ rd ∨ b ∈ u.rd := by simp only [Upd.reads, app_eq, List.mem_append]

theorem srcK_loc {y : AV} {st st' : St} {K K' : AV → List Nat → Option Upd} {u : Upd} (hu : srcK E st y K = some u) (hrd : ∀ y' rd, K y' rd = some u → ∀ b ∈ rd, b ∈ u.rd) (hb : ∀ b ∈ u.rd, nth st.blk b = nth st'.blk b)
    (hK : ∀ y' rd, K y' rd = some u → K' y' rd = some u) : srcK E st' y K' = some u := by
  unfold srcK at hu ⊢
  split at hu
  · rename_i e b n
    split at hu <;> try (cases hu; done)
    rename_i e' rows hbl
    obtain ⟨h1, h2⟩ := cond_none_some hu
    obtain ⟨h3, h4⟩ := cond_none_some h2
    have := hb b (hrd _ _ h4 b (by simp))
    rw [← this, hbl]
    dsimp only
    rw [h1, h3]
    exact hK _ _ h4
  · rename_i e b lo n c
    split at hu <;> try (cases hu; done)
    rename_i e' rows hbl
    obtain ⟨h1, h2⟩ := cond_none_some hu
    obtain ⟨h3, h4⟩ := cond_none_some h2
    have := hb b (hrd _ _ h4 b (by simp))
    rw [← this, hbl]
    dsimp only
    rw [h1, h3]
    exact hK _ _ h4
  · exact hK _ _ hu

theorem wappK_loc {t t2 e : TypeId} {b lo n c : Nat} {y : AV} {st st' : St} {u : Upd} (hu : wappK E t t2 e b lo n c st y some = some u) (hb : ∀ b ∈ u.rd, nth st.blk b = nth st'.blk b) : wappK E t t2 e b lo n c st' y some = some u := by
  have key : b ∈ u.rd := by
    unfold wappK at hu
    split at hu <;> try (cases hu; done)
    replace hu := (cond_none_some hu).2
    split at hu <;> try (cases hu; done)
    replace hu := (cond_none_some hu).2
    split at hu <;> try (cases hu; done)
    replace hu := (cond_none_some hu).2
    replace hu := (cond_none_some hu).2
    replace hu := (cond_none_some hu).2
    replace hu := (cond_none_some hu).2
    cases hu
    simp
  unfold wappK at hu ⊢
  rw [← hb b key]
  exact hu

theorem copyBK_loc {e0 e : TypeId} {b lo n : Nat} {y : AV} {st st' : St} {u : Upd} (hu : copyBK e0 e b lo n st y some = some u) (hb : ∀ b ∈ u.rd, nth st.blk b = nth st'.blk b) : copyBK e0 e b lo n st' y some = some u := by
  have key : b ∈ u.rd := by
    unfold copyBK at hu
    split at hu <;> try (cases hu; done)
    replace hu := (cond_none_some hu).2
    replace hu := (cond_none_some hu).2
    replace hu := (cond_none_some hu).2
    cases hu
    simp
  unfold copyBK at hu ⊢
  rw [← hb b key]
  exact hu

theorem copyK_loc {t : TypeId} {x y : AV} {st st' : St} {u : Upd} (hu : copyK E t x st y some = some u) (hb : ∀ b ∈ u.rd, nth st.blk b = nth st'.blk b) : copyK E t x st' y some = some u := by
  unfold copyK at hu ⊢
  split at hu <;> try (cases hu; done)
  rename_i ty ht
  try rw [ht]
  try dsimp only
  split at hu <;> try (cases hu; done)
  rename_i e0 hd
  try rw [hd]
  try dsimp only
  split at hu <;> try (cases hu; done)
  · obtain ⟨h1, h2⟩ := cond_none_some hu
    try dsimp only
    rw [h1]
    exact copyBK_loc h2 hb
  · exact copyBK_loc hu hb

theorem freezeK_loc {x : AV} {st st' : St} {u : Upd} (hu : freezeK st x some = some u) (hb : ∀ b ∈ u.rd, nth st.blk b = nth st'.blk b) : freezeK st' x some = some u := by
  unfold freezeK at hu ⊢
  split at hu <;> try (cases hu; done)
  · exact hu
  · rename_i e b n
    try dsimp only
    have hbb : nth st.blk b = nth st'.blk b := by
      refine hb b ?_
      split at hu <;> try (cases hu; done)
      all_goals
        obtain ⟨_, hu⟩ := cond_none_some hu
        obtain ⟨_, hu⟩ := cond_none_some hu
        cases hu; simp
    rw [← hbb]
    exact hu
  · rename_i e b lo n c
    try dsimp only
    have hbb : nth st.blk b = nth st'.blk b := by
      refine hb b ?_
      split at hu <;> try (cases hu; done)
      all_goals
        obtain ⟨_, hu⟩ := cond_none_some hu
        obtain ⟨_, hu⟩ := cond_none_some hu
        cases hu; simp
    rw [← hbb]
    exact hu

theorem mappK_loc {t t2 e : TypeId} {b n : Nat} {y : AV} {st st' : St} {u : Upd} (hu : mappK E t t2 e b n st y some = some u) (hb : ∀ b ∈ u.rd, nth st.blk b = nth st'.blk b) (hn : u.nu ≠ [] → st.blk.length = st'.blk.length) : mappK E t t2 e b n st' y some = some u := by
  have key : b ∈ u.rd ∧ u.nu ≠ [] := by
    unfold mappK at hu
    split at hu <;> try (cases hu; done)
    replace hu := (cond_none_some hu).2
    split at hu <;> try (cases hu; done)
    split at hu <;> try (cases hu; done)
    replace hu := (cond_none_some hu).2
    split at hu <;> try (cases hu; done)
    replace hu := (cond_none_some hu).2
    replace hu := (cond_none_some hu).2
    replace hu := (cond_none_some hu).2
    cases hu
    simp
  have hl := hn key.2
  unfold mappK at hu ⊢
  simp only [lenN_eq, ← hl, ← hb b key.1] at hu ⊢
  exact hu

theorem mzappK_loc {t t2 e : TypeId} {b n : Nat} {k : Int} {st st' : St} {u : Upd} (hu : mzappK E t t2 e b n st k some = some u) (hb : ∀ b ∈ u.rd, nth st.blk b = nth st'.blk b) (hn : u.nu ≠ [] → st.blk.length = st'.blk.length) : mzappK E t t2 e b n st' k some = some u := by
  have key : b ∈ u.rd ∧ u.nu ≠ [] := by
    unfold mzappK at hu
    split at hu <;> try (cases hu; done)
    split at hu <;> try (cases hu; done)
    split at hu <;> try (cases hu; done)
    replace hu := (cond_none_some hu).2
    split at hu <;> try (cases hu; done)
    replace hu := (cond_none_some hu).2
    replace hu := (cond_none_some hu).2
    replace hu := (cond_none_some hu).2
    replace hu := (cond_none_some hu).2
    obtain ⟨_, h3, _⟩ := zerosK_some hu
    obtain ⟨_, h6, _⟩ := rowK_some h3
    cases h6
    simp
  have hl := hn key.2
  unfold mzappK at hu ⊢
  simp only [lenN_eq, ← hl, ← hb b key.1] at hu ⊢
  exact hu

theorem appAnyK_loc {t t2 : TypeId} {dis : Option Nat} {x y : AV} {st st' : St} {u : Upd} (hu : appAnyK E t t2 dis x st y some = some u) (hb : ∀ b ∈ u.rd, nth st.blk b = nth st'.blk b) (hn : u.nu ≠ [] → st.blk.length = st'.blk.length) : appAnyK E t t2 dis x st' y some = some u := by
  unfold appAnyK at hu ⊢
  split at hu
  · split at hu
    · exact mzappK_loc hu hb hn
    · exact mappK_loc hu hb hn
  · exact wappK_loc hu hb
  · exact hu

/-- what is looked at on the way to an operation is looked at by it -/
theorem reads_loc {X X' : AV → (Upd → Option Upd) → Option Upd} {y : AV} {st st' : St} {u : Upd} (hX : ∀ y' K, (X y' K) = (X y' some).bind K) (hX' : ∀ y' K, (X' y' K) = (X' y' some).bind K)
    (hu : srcK E st y (fun y' rd => X y' fun u => some (u.reads rd)) = some u) (hb : ∀ b ∈ u.rd, nth st.blk b = nth st'.blk b)
    (hK : ∀ y' u0, X y' some = some u0 → (∀ b ∈ u0.rd, nth st.blk b = nth st'.blk b) → (u0.nu = u.nu) → X' y' some = some u0) : srcK E st' y (fun y' rd => X' y' fun u => some (u.reads rd)) = some u := by
  have split1 : ∀ y' rd, (X y' fun u => some (u.reads rd)) = some u → ∃ u0, X y' some = some u0 ∧ u = u0.reads rd := by
    intro y' rd h
    rw [hX] at h
    obtain ⟨u0, h1, h2⟩ := bind_some h
    exact ⟨u0, h1, (Option.some.inj h2).symm⟩
  refine srcK_loc hu (fun y' rd h b hm => ?_) hb (fun y' rd h => ?_)
  · obtain ⟨u0, _, rfl⟩ := split1 _ _ h
    exact reads_mem.2 (.inl hm)
  · obtain ⟨u0, h1, rfl⟩ := split1 _ _ h
    rw [hX', hK y' u0 h1 (fun b hm => hb b (reads_mem.2 (.inr hm))) rfl]
    rfl

theorem actK_loc {sg : Option Sig} {o : Oper} {st st' : St} {u : Upd} (hu : actK E call tk sg o st some = some u) (ht : ∀ t ∈ tmpsOf (opOps o.op), get st.fr t = get st'.fr t)
    (hb : ∀ b ∈ u.rd, nth st.blk b = nth st'.blk b) (hn : u.nu ≠ [] → st.blk.length = st'.blk.length) : actK E call tk sg o st' some = some u := by
  have hx : ∀ x ∈ opOps o.op, ev st.fr x = ev st'.fr x := fun x hm => ev_loc fun t e => ht t (tmpsOf_mem.2 (e ▸ hm))
  unfold actK at hu ⊢
  cases hop : o.op <;> rw [hop] at hx hu ht <;> try (cases hu; done)
  all_goals try dsimp only at hu ⊢
  case move x =>
    rw [← hx x (by simp [opOps])]
    split at hu
    · exact thawK_loc hu hn
    · exact freezeK_loc hu hb
    · exact hu
  case assign x =>
    rw [← hx x (by simp [opOps])]
    split at hu
    · exact thawK_loc hu hn
    · exact freezeK_loc hu hb
    · exact hu
  case pick c a b => rw [← hx c (by simp [opOps]), ← hx a (by simp [opOps]), ← hx b (by simp [opOps])]; exact hu
  case alloc t =>
    split at hu
    · exact thawAK_loc hu hn
    split at hu <;> try (cases hu; done)
    have : st.blk.length = st'.blk.length := by
      refine hn ?_
      obtain ⟨z, hz⟩ : ∃ z, some (⟨.one (.ptr (lenN st.blk) 0), none, [], [.var z], []⟩ : Upd) = some u := by
        rename_i ty _
        have := zerosK_nat (fun z => some (⟨.one (.ptr (lenN st.blk) 0), none, [], [.var z], []⟩ : Upd)) ty.kinds some
        simp only [Option.bind_some] at this
        rw [← this] at hu
        cases hz : zerosK ty.kinds some with
        | none => rw [hz] at hu; cases hu
        | some z => rw [hz] at hu; exact ⟨z, hu⟩
      cases hz
      simp
    rw [lenN_eq, ← this, ← lenN_eq]
    exact hu
  case box t x =>
    rw [← hx x (by simp [opOps])]
    split at hu <;> try (cases hu; done)
    rename_i ty _
    have : st.blk.length = st'.blk.length := by
      refine hn ?_
      generalize (cond (takes tk o.dst) (ev st.fr x) (ev st.fr x).dis) = v at hu
      have := cellsK_nat (fun l => some (⟨.one (.ptr (lenN st.blk) 0), cond (takes tk o.dst) (tmpOf x) none, [], [.var l], []⟩ : Upd)) ty v some
      simp only [Option.bind_some] at this
      rw [← this] at hu
      cases hz : cellsK ty v some with
      | none => rw [hz] at hu; cases hu
      | some z => rw [hz] at hu; cases hu; simp
    rw [lenN_eq, ← this, ← lenN_eq]
    exact hu
  case build t ps =>
    have hp : ∀ t, Operand.tmp t ∈ opOps.partOps ps.toList → get st.fr t = get st'.fr t := fun t hm => ht t (tmpsOf_mem.2 (by simpa [opOps] using hm))
    rw [← firstTk_loc (fr := st.fr) hp]
    split at hu
    · rw [← evParts_loc (fr := st.fr) hp]; exact hu
    split at hu
    · rename_i x hx
      try rw [hx]
      rw [← evPartsT_loc (fr := st.fr) hp]; exact hu
    · rename_i hx
      try rw [hx]
      rw [← evParts_loc (fr := st.fr) hp]; exact hu
  case buildSlice t n ps =>
    split at hu
    · rename_i hfl
      try rw [hfl]
      try dsimp only
      split at hu
      · rename_i hps
        try rw [hps]
        exact thawBK_loc hu hn
      · cases hu
    · rename_i hfl
      try rw [hfl]
      try dsimp only
      rw [← evParts_loc (fr := st.fr) fun t hm => ht t (tmpsOf_mem.2 (by simpa [opOps] using hm))]; exact hu
  case load t p =>
    rw [← hx p (by simp [opOps])]
    unfold loadK at hu ⊢
    split at hu <;> try (cases hu; done)
    rename_i ty hty
    try rw [hty]
    try dsimp only
    split at hu <;> try (cases hu; done)
    · rename_i b off hv
      try rw [hv]
      try dsimp only
      have hbb : nth st.blk b = nth st'.blk b := by
        refine hb b ?_
        split at hu <;> try (cases hu; done)
        obtain ⟨_, hu⟩ := takeK_some hu
        unfold valueK at hu
        have key : ∀ (cs ds : List AC) (v : AV), ((match takes tk o.dst with
          | false => some (⟨v.dis, none, [], [], [b]⟩ : Upd)
          | true => storeK cs off (disL ds) fun cells' => some ⟨v, none, [(b, .var cells')], [], [b]⟩) = some u) → b ∈ u.rd := by
          intro cs ds v hu
          split at hu
          · cases hu; simp
          · obtain ⟨_, hu⟩ := storeK_some hu
            cases hu; simp
        split at hu <;> first | exact key _ _ _ hu | cases hu
      rw [← hbb]
      exact hu
    · exact hu
    · exact hu
    · rename_i b e i off hv
      try rw [hv]
      try dsimp only
      have hbb : nth st.blk b = nth st'.blk b := by
        refine hb b ?_
        split at hu <;> try (cases hu; done)
        split at hu <;> try (cases hu; done)
        replace hu := (cond_none_some hu).2
        replace hu := (cond_none_some hu).2
        obtain ⟨l, hu, _⟩ := projK_some hu
        unfold valueK at hu
        split at hu <;> cases hu <;> simp
      rw [← hbb]
      exact hu
  case store t p x =>
    rw [← hx p (by simp [opOps]), ← hx x (by simp [opOps])]
    have key : ∀ v dis, storeOpK E t st (ev st.fr p) v dis some = some u → storeOpK E t st' (ev st.fr p) v dis some = some u := by
      intro v dis hu
      unfold storeOpK at hu ⊢
      split at hu <;> try (cases hu; done)
      rename_i ty hty
      try rw [hty]
      try dsimp only
      split at hu <;> try (cases hu; done)
      rotate_left
      · rename_i b e i off hv
        try rw [hv]
        try dsimp only
        have hbb : nth st.blk b = nth st'.blk b := by
          refine hb b ?_
          split at hu <;> try (cases hu; done)
          split at hu <;> try (cases hu; done)
          replace hu := (cond_none_some hu).2
          replace hu := (cond_none_some hu).2
          obtain ⟨l, _, hu⟩ := cellsK_some hu
          obtain ⟨row, hu, _⟩ := rowK_some hu
          cases hu; simp
        rw [← hbb]
        exact hu
      rename_i b off hv
      try rw [hv]
      try dsimp only
      have hbb : nth st.blk b = nth st'.blk b := by
        refine hb b ?_
        split at hu <;> try (cases hu; done)
        rename_i cells _
        have := cellsK_nat (fun l => storeK cells off l fun cells' => some (⟨.undef, dis, [(b, .var cells')], [], [b]⟩ : Upd)) ty v some
        simp only [Option.bind_some] at this
        rw [← this] at hu
        cases hz : cellsK ty v some with
        | none => rw [hz] at hu; cases hu
        | some z =>
          rw [hz] at hu
          obtain ⟨_, hu⟩ := storeK_some hu
          cases hu; simp
      rw [← hbb]
      exact hu
    split at hu
    · unfold storeNK at hu ⊢
      split at hu <;> try (cases hu; done)
      rename_i ty hty
      try rw [hty]
      try dsimp only
      split at hu <;> try (cases hu; done)
      rename_i b off l hp' hv'
      try rw [hp', hv']
      try dsimp only
      have hbb : nth st.blk b = nth st'.blk b := by
        refine hb b ?_
        split at hu <;> try (cases hu; done)
        obtain ⟨_, hu⟩ := cond_none_some hu
        obtain ⟨_, hu⟩ := storeK_some hu
        cases hu; simp
      rw [← hbb]
      exact hu
    split at hu <;> exact key _ _ hu
  case nilCheck x => rw [← hx x (by simp [opOps])]; exact hu
  case binOp op t x y t2 => rw [← hx x (by simp [opOps]), ← hx y (by simp [opOps])]; exact hu
  case unOp op t x => rw [← hx x (by simp [opOps])]; exact hu
  case convert s d x =>
    rw [← hx x (by simp [opOps])]
    exact reads_loc (X := fun y' K => convK E s d y' K) (X' := fun y' K => convK E s d y' K) (fun y' K => by rw [convK_nat]; rfl) (fun y' K => by rw [convK_nat]; rfl) hu hb fun y' u0 h _ _ => h
  case makeFunc fn first caps =>
    cases fn <;> (try dsimp only at hu ⊢) <;> try (cases hu; done)
    rw [← evL_loc (fr := st.fr) fun t hm => ht t (tmpsOf_mem.2 (by simpa [opOps] using hm))]; exact hu
  case makeSlice t l c =>
    rw [← hx l (by simp [opOps]), ← hx c (by simp [opOps])]
    split at hu
    · exact thawMK_loc hu hn
    · exact hu
  case slice t x lo hi mx =>
    rw [← hx x (by simp [opOps]), ← evO_loc (fr := st.fr) (x := lo) fun t e => ht t (tmpsOf_mem.2 (by simp [opOps, e, optL, app_eq])), ← evO_loc (fr := st.fr) (x := hi) fun t e => ht t (tmpsOf_mem.2 (by simp [opOps, e, optL, app_eq])),
      ← evO_loc (fr := st.fr) (x := mx) fun t e => ht t (tmpsOf_mem.2 (by simp [opOps, e, optL, app_eq]))]
    exact hu
  case fieldAddr s x g => rw [← hx x (by simp [opOps])]; exact hu
  case field s x g => rw [← hx x (by simp [opOps])]; exact hu
  case indexAddr t x i => rw [← hx x (by simp [opOps]), ← hx i (by simp [opOps])]; exact hu
  case index t x i => rw [← hx x (by simp [opOps]), ← hx i (by simp [opOps])]; exact hu
  case extract x i => rw [← hx x (by simp [opOps])]; exact hu
  case call c =>
    have hargs : evL st.fr c.args.toList = evL st'.fr c.args.toList := evL_loc fun t hm => ht t (tmpsOf_mem.2 (by
      simp only [opOps]
      split
      · exact List.mem_cons_of_mem _ hm
      · exact hm))
    cases hcal : c.callee <;> rw [hcal] at hu <;> try (cases hu; done)
    case value g =>
      try dsimp only at hu ⊢
      rw [← hx g (by simp [opOps, hcal]), ← hargs]
      split at hu <;> try (cases hu; done)
      rename_i hv
      try rw [hv]
      try dsimp only
      split at hu <;> try (cases hu; done)
      rename_i hfn
      try rw [hfn]
      split at hu
      · rename_i hfl
        try rw [hfl]
        try dsimp only
        exact pureCK_loc hu hb
      rename_i hfl
      try rw [hfl]
      try dsimp only
      exact callK_loc hu hb hn
    case builtin bi =>
      have hmem : ∀ x ∈ c.args.toList, ev st.fr x = ev st'.fr x := fun x hm => hx x (by simp only [opOps, hcal]; exact hm)
      try dsimp only at hu ⊢
      cases bi <;> (try dsimp only at hu ⊢) <;> try (cases hu; done)
      case len =>
        split at hu <;> try (cases hu; done)
        rename_i h1 h2
        try rw [h1, h2]
        try dsimp only
        rw [← hmem _ (by rw [h2]; simp)]; exact hu
      case append =>
        split at hu <;> try (cases hu; done)
        rename_i t t2 x y h1 h2
        try rw [h1, h2]
        try dsimp only
        rw [← hmem x (by rw [h2]; simp), ← hmem y (by rw [h2]; simp)]
        exact reads_loc (X := fun y' K => appAnyK E t t2 (tmpOf x) (ev st.fr x) st y' K) (X' := fun y' K => appAnyK E t t2 (tmpOf x) (ev st.fr x) st' y' K) (fun y' K => by rw [appAnyK_nat]; rfl) (fun y' K => by rw [appAnyK_nat]; rfl) hu hb
          fun y' u0 h h1 h2 => appAnyK_loc h h1 (h2 ▸ hn)
      case copy =>
        split at hu <;> try (cases hu; done)
        rename_i t t2 x y h1 h2
        try rw [h1, h2]
        try dsimp only
        rw [← hmem x (by rw [h2]; simp), ← hmem y (by rw [h2]; simp)]
        exact reads_loc (X := fun y' K => copyK E t (ev st.fr x) st y' K) (X' := fun y' K => copyK E t (ev st.fr x) st' y' K) (fun y' K => by rw [copyK_nat]; rfl) (fun y' K => by rw [copyK_nat]; rfl) hu hb
          fun y' u0 h h1 _ => copyK_loc h h1
      case min => rw [← hargs]; exact hu
      case max => rw [← hargs]; exact hu

end Go.Abs
