/-
  The tables: that what is taken of the program's types holds is asked by a check that computes.
-/
import Derived.Test.YtpafnokcmhlbgaaA26
import Derived.Laws.StructEq
namespace Go.Abs

variable {E : Env} {P : Program}

def lookT {α : Type} : List (Nat × α) → Nat → Option α
  | [], _ => none
  | (u, x) :: r, t => cond (Nat.beq u t) (some x) (lookT r t)

theorem lookT_mem {α : Type} : ∀ {l : List (Nat × α)} {t : Nat} {x : α}, lookT l t = some x → (t, x) ∈ l
  | [], _, _, h => by cases h
  | (u, y) :: r, t, x, h => by
    simp only [lookT] at h
    by_cases e : u = t
    · subst e
      simp only [nbeq_self, cond_true, Option.some.injEq] at h
      subst h
      exact List.mem_cons_self
    · simp only [nbeq_ne e, cond_false] at h
      exact List.mem_cons_of_mem _ (lookT_mem h)

def zeroIs : CK → Value → Bool
  | .int k, .int k' n => IntKind.same k k' && (n == 0)
  | .bool, .bool b => !b
  | .str, .string s => s.data.toList.isEmpty
  | .slice _, .slice none l c => Nat.beq l 0 && Nat.beq c 0
  | .ptr, .pointer none => true
  | .fn, .nilFunc => true
  | _, _ => false

theorem zeroIs_of {k : CK} {v : Value} (h : zeroIs k v = true) : some v = zeroV k := by
  unfold zeroIs at h
  split at h
  · simp only [Bool.and_eq_true, beq_iff_eq] at h
    rw [same_of h.1, h.2]; rfl
  · cases ‹Bool› <;> first | rfl | cases h
  · rename_i s
    have : s = .empty := by
      cases s with
      | mk d =>
        have : d.toList = [] := by simpa using h
        have : d = #[] := by simpa using this
        rw [this]; rfl
    rw [this]; rfl
  · simp only [Bool.and_eq_true] at h
    rw [Nat.eq_of_beq_eq_true h.1, Nat.eq_of_beq_eq_true h.2]; rfl
  · rfl
  · rfl
  · cases h

def zerosAre : List CK → List Value → Bool
  | [], [] => true
  | k :: ks, v :: vs => zeroIs k v && zerosAre ks vs
  | _, _ => false

theorem zerosAre_of : ∀ {ks : List CK} {vs : List Value}, zerosAre ks vs = true → vs.map some = ks.map zeroV
  | [], [], _ => rfl
  | [], _ :: _, h => by simp [zerosAre] at h
  | _ :: _, [], h => by simp [zerosAre] at h
  | k :: ks, v :: vs, h => by
    simp only [zerosAre, Bool.and_eq_true] at h
    simp only [List.map_cons, zeroIs_of h.1, zerosAre_of h.2]

def pairsEq : List (Nat × Nat) → List (Nat × Nat) → Bool
  | [], [] => true
  | (a, b) :: r, (c, d) :: s => Nat.beq a c && Nat.beq b d && pairsEq r s
  | _, _ => false

theorem pairsEq_of : ∀ {x y : List (Nat × Nat)}, pairsEq x y = true → x = y
  | [], [], _ => rfl
  | [], _ :: _, h => by simp [pairsEq] at h
  | _ :: _, [], h => by simp [pairsEq] at h
  | (a, b) :: r, (c, d) :: s, h => by
    simp only [pairsEq, Bool.and_eq_true] at h
    rw [Nat.eq_of_beq_eq_true h.1.1, Nat.eq_of_beq_eq_true h.1.2, pairsEq_of h.2]

def descB (ty : Ty) (d : TypeDesc) : Bool :=
  match ty.desc, d with
  | .int k, .int k' => IntKind.same k k' && kindsEq ty.kinds [.int k]
  | .bool, .bool => kindsEq ty.kinds [.bool]
  | .str, .string => kindsEq ty.kinds [.str]
  | .slice e, .slice e' => Nat.beq e e' && kindsEq ty.kinds [.slice e]
  | .array n e, .array n' e' => Nat.beq n n' && Nat.beq e e'
  | .struct fs, .struct fields => pairsEq (fields.toList.map fun f => (f.offset, f.type)) fs
  | .ptr e, .pointer e' => Nat.beq e e' && kindsEq ty.kinds [.ptr]
  | .fn, .func _ _ _ => kindsEq ty.kinds [.fn]
  | _, _ => false

theorem descB_of {ty : Ty} {d : TypeDesc} (h : descB ty d = true) : DescOk ty d := by
  unfold descB at h
  unfold DescOk
  split at h <;> try (cases h; done)
  all_goals rename_i hd
  all_goals rw [hd]
  all_goals try (simp only [Bool.and_eq_true] at h)
  · exact ⟨same_of h.1, kindsEq_of h.2⟩
  · exact kindsEq_of h
  · exact kindsEq_of h
  · exact ⟨Nat.eq_of_beq_eq_true h.1, kindsEq_of h.2⟩
  · exact ⟨Nat.eq_of_beq_eq_true h.1, Nat.eq_of_beq_eq_true h.2⟩
  · exact pairsEq_of h
  · exact ⟨Nat.eq_of_beq_eq_true h.1, kindsEq_of h.2⟩
  · exact kindsEq_of h

/-- so written that a long list is counted step by step -/
def lenIs {α : Type} : List α → Nat → Bool
  | [], 0 => true
  | _ :: r, n + 1 => lenIs r n
  | _, _ => false

theorem lenIs_of {α : Type} : ∀ {l : List α} {n : Nat}, lenIs l n = true → l.length = n
  | [], 0, _ => rfl
  | [], _ + 1, h => by cases h
  | _ :: _, 0, h => by cases h
  | _ :: r, n + 1, h => by
    rw [List.length_cons, lenIs_of (l := r) h]

def tyB (P : Program) (t : TypeId) (ty : Ty) : Bool :=
  lenIs ty.kinds ty.size && Nat.ble 1 ty.size &&
  (match P.info? t with
    | some i => Nat.beq i.size ty.size && Nat.beq i.bytes ty.bytes && (match i.zero with | some z => zerosAre ty.kinds z.cells.toList | none => false)
    | none => false) &&
  (match P.underlying t with
    | some d => descB ty d && (match d with | .struct fs => fs.toList.all fun f => (P.info? f.type).isSome | _ => true)
    | none => false)

theorem tyB_of {t : TypeId} {ty : Ty} (h : tyB P t ty = true) : TyOk P t ty := by
  simp only [tyB, Bool.and_eq_true] at h
  obtain ⟨⟨⟨h1, h2⟩, h3⟩, h4⟩ := h
  cases hi : P.info? t with
  | none => rw [hi] at h3; cases h3
  | some i =>
    rw [hi] at h3
    simp only [Bool.and_eq_true] at h3
    obtain ⟨⟨h5, h6⟩, h7⟩ := h3
    cases hz : i.zero with
    | none => rw [hz] at h7; cases h7
    | some z =>
      rw [hz] at h7
      cases hu : P.underlying t with
      | none => rw [hu] at h4; cases h4
      | some d =>
        rw [hu] at h4
        simp only [Bool.and_eq_true] at h4
        refine ⟨lenIs_of h1, Nat.le_of_ble_eq_true h2, ⟨i, z, hi, Nat.eq_of_beq_eq_true h5, Nat.eq_of_beq_eq_true h6, hz, zerosAre_of h7⟩, ⟨d, hu, descB_of h4.1⟩, fun fs hfs f hf => ?_⟩
        rw [hu] at hfs
        have hfs := Option.some.inj hfs
        subst hfs
        have := (List.all_eq_true.1 h4.2) f hf
        exact Option.isSome_iff_exists.1 this

/- COMPARED AS A WHOLE: a struct of plain fields -/

def plainK : CK → Bool
  | .int _ => true
  | .bool => true
  | .str => true
  | _ => false

/-- field by field: a field of one cell, or a struct again -/
def eqFields (P : Program) (E : Env) (inner : TypeId → Ty → Bool) : List Field → Nat → List CK → Bool
  | [], _, [] => true
  | f :: fs, o, ks => (f.name != "_") && Nat.beq f.offset o && (match E.tys f.type with
    | some ty => cond ty.desc.isAgg (inner f.type ty && kindsEq ty.kinds (takeN ks ty.size) && eqFields P E inner fs (o + ty.size) (dropN ks ty.size))
      (match ks with
        | k :: ks => plainK k && kindsEq ty.kinds [k] && eqFields P E inner fs (o + 1) ks
        | [] => false)
    | none => false)
  | _, _, _ => false

def eqS (P : Program) (E : Env) : Nat → TypeId → Ty → Bool
  | 0, _, _ => false
  | n + 1, t, ty => (match P.underlying t with | some (.struct fs) => eqFields P E (eqS P E n) fs.toList 0 ty.kinds | _ => false) && !P.stoodInHeld t

def eqB (P : Program) (E : Env) (t : TypeId) (ty : Ty) : Bool := eqS P E 5 t ty && !P.eqGuardType P.depth t

theorem both_some {p b : Bool} {q : Option Bool} (h : both p q = some b) : ∃ r, q = some r ∧ b = (p && r) := by
  cases q with
  | none => cases h
  | some r => exact ⟨r, rfl, (Option.some.inj h).symm⟩

theorem eqL_cons {k : CK} {ks : List CK} {xs ys : List AC} {b : Bool} (h : eqL (k :: ks) xs ys = some b) :
    ∃ x y xr yr p r, xs = x :: xr ∧ ys = y :: yr ∧ eqL ks xr yr = some r ∧ b = (p && r) ∧ ((∃ j m n, k = .int j ∧ x = .int j m ∧ y = .int j n ∧ p = (m == n)) ∨ (∃ c d, k = .bool ∧ x = .bool c ∧ y = .bool d ∧ p = (c == d)) ∨ (∃ c d, k = .str ∧ x = .str c ∧ y = .str d ∧ p = (c == d))) := by
  cases xs with
  | nil => cases k <;> simp [eqL] at h
  | cons x xr =>
    cases ys with
    | nil => cases k <;> cases x <;> simp [eqL] at h
    | cons y yr =>
      cases k with
      | int j =>
        cases x <;> try (simp [eqL] at h; done)
        cases y <;> try (simp [eqL] at h; done)
        rename_i k' m l n
        simp only [eqL] at h
        cases hc : IntKind.same j k' && IntKind.same j l with
        | false => rw [hc] at h; cases h
        | true =>
          rw [hc] at h
          simp only [Bool.and_eq_true] at hc
          have e1 := same_of hc.1
          have e2 := same_of hc.2
          subst e1; subst e2
          obtain ⟨r, e, e2⟩ := both_some h
          exact ⟨_, _, _, _, _, r, rfl, rfl, e, e2, .inl ⟨j, m, n, rfl, rfl, rfl, rfl⟩⟩
      | bool =>
        cases x <;> try (simp [eqL] at h; done)
        cases y <;> try (simp [eqL] at h; done)
        simp only [eqL] at h
        obtain ⟨r, e, e2⟩ := both_some h
        exact ⟨_, _, _, _, _, r, rfl, rfl, e, e2, .inr (.inl ⟨_, _, rfl, rfl, rfl, rfl⟩)⟩
      | str =>
        cases x <;> try (simp [eqL] at h; done)
        cases y <;> try (simp [eqL] at h; done)
        simp only [eqL] at h
        obtain ⟨r, e, e2⟩ := both_some h
        exact ⟨_, _, _, _, _, r, rfl, rfl, e, e2, .inr (.inr ⟨_, _, rfl, rfl, rfl, rfl⟩)⟩
      | slice _ => cases x <;> simp [eqL] at h
      | ptr => cases x <;> simp [eqL] at h
      | fn => cases x <;> simp [eqL] at h
      | other => cases x <;> simp [eqL] at h

/-- one field -/
theorem eq_one (hT : ∀ t ty, E.tys t = some ty → TyOk P t ty) {t : TypeId} {ty : Ty} {k : CK} (hty : E.tys t = some ty) (hk : ty.kinds = [k]) (ha : ty.desc.isAgg = false) {x y : AC} {p : Bool}
    (h : (∃ j m n, k = .int j ∧ x = .int j m ∧ y = .int j n ∧ p = (m == n)) ∨ (∃ c d, k = .bool ∧ x = .bool c ∧ y = .bool d ∧ p = (c == d)) ∨ (∃ c d, k = .str ∧ x = .str c ∧ y = .str d ∧ p = (c == d))) (d : Nat) (w : World) :
    (Op.equalIn (d + 1) t (plainV x) (plainV y)).run P w = .ok p w := by
  obtain ⟨dd, hu, hD⟩ := (hT t ty hty).desc
  have hu' : (underlying t).run P w = .ok dd w := run_underlying hu w
  unfold DescOk at hD
  unfold Op.equalIn
  rw [Sem.run_bind, hu', Result.andThen_ok]
  rcases h with ⟨j, m, n, rfl, rfl, rfl, rfl⟩ | ⟨c, e, rfl, rfl, rfl, rfl⟩ | ⟨c, e, rfl, rfl, rfl, rfl⟩
  · cases hd : ty.desc <;> rw [hd] at hD ha <;> cases dd <;> simp only [hk] at hD <;> first | (cases ha; done) | skip
    all_goals first | (obtain ⟨_, h2⟩ := hD; simp at h2; done) | (simp at hD; done) | skip
    simp [plainV]
  · cases hd : ty.desc <;> rw [hd] at hD ha <;> cases dd <;> simp only [hk] at hD <;> first | (cases ha; done) | skip
    all_goals first | (obtain ⟨_, h2⟩ := hD; simp at h2; done) | (simp at hD; done) | skip
    simp [plainV]
  · cases hd : ty.desc <;> rw [hd] at hD ha <;> cases dd <;> simp only [hk] at hD <;> first | (cases ha; done) | skip
    all_goals first | (obtain ⟨_, h2⟩ := hD; simp at h2; done) | (simp at hD; done) | skip
    simp only [plainV, Sem.run_pure, beq_toListBytes, toList_bytes]

theorem eqL_len : ∀ {ks : List CK} {xs ys : List AC} {b : Bool}, eqL ks xs ys = some b → xs.length = ks.length ∧ ys.length = ks.length
  | [], xs, ys, b, h => by cases xs <;> cases ys <;> simp [eqL] at h ⊢
  | k :: ks, xs, ys, b, h => by
    obtain ⟨x, y, xr, yr, p, r, rfl, rfl, er, _, _⟩ := eqL_cons h
    have := eqL_len er
    simp [this.1, this.2]

theorem eqL_mk {k : CK} {ks : List CK} {x y : AC} {xr yr : List AC} {p r : Bool} (er : eqL ks xr yr = some r)
    (h : (∃ j m n, k = .int j ∧ x = .int j m ∧ y = .int j n ∧ p = (m == n)) ∨ (∃ c d, k = .bool ∧ x = .bool c ∧ y = .bool d ∧ p = (c == d)) ∨ (∃ c d, k = .str ∧ x = .str c ∧ y = .str d ∧ p = (c == d))) : eqL (k :: ks) (x :: xr) (y :: yr) = some (p && r) := by
  rcases h with ⟨j, m, n, rfl, rfl, rfl, rfl⟩ | ⟨c, e, rfl, rfl, rfl, rfl⟩ | ⟨c, e, rfl, rfl, rfl, rfl⟩
  · have : IntKind.same j j = true := by cases j <;> rfl
    simp [eqL, this, both, er]
  · simp [eqL, both, er]
  · simp [eqL, both, er]

theorem eqL_app : ∀ {ks1 ks2 : List CK} {xs ys : List AC} {b : Bool}, eqL (ks1 ++ ks2) xs ys = some b →
    ∃ p r, eqL ks1 (xs.take ks1.length) (ys.take ks1.length) = some p ∧ eqL ks2 (xs.drop ks1.length) (ys.drop ks1.length) = some r ∧ b = (p && r)
  | [], ks2, xs, ys, b, h => ⟨true, b, by simp [eqL], by simpa using h, by simp⟩
  | k :: ks1, ks2, xs, ys, b, h => by
    obtain ⟨x, y, xr, yr, p, r, rfl, rfl, er, rfl, hp⟩ := eqL_cons h
    obtain ⟨p1, r1, e1, e2, rfl⟩ := eqL_app er
    refine ⟨p && p1, r1, ?_, by simpa using e2, by simp [Bool.and_assoc]⟩
    simp only [List.length_cons, List.take_succ_cons]
    exact eqL_mk e1 hp

theorem fields_eq (hT : ∀ t ty, E.tys t = some ty → TyOk P t ty) {inner : TypeId → Ty → Bool} (d : Nat)
    (hI : ∀ t ty, E.tys t = some ty → inner t ty = true → ∀ xs ys b, eqL ty.kinds xs ys = some b → ∀ w, (Op.equalIn (d + 1) t (.agg (xs.map plainV).toArray) (.agg (ys.map plainV).toArray)).run P w = .ok b w)
    (w : World) : ∀ (fs : List Field) (o : Nat) (ks : List CK) (xs ys : List AC) (b : Bool) (X Y : Array Value), eqFields P E inner fs o ks = true → eqL ks xs ys = some b →
    (∀ i, X[o + i]? = (xs.map plainV)[i]?) → (∀ i, Y[o + i]? = (ys.map plainV)[i]?) → (Op.eqFields (d + 1) X Y fs).run P w = .ok b w := by
  intro fs
  induction fs with
  | nil =>
    intro o ks xs ys b X Y hf he hX hY
    cases ks with
    | nil =>
      cases xs <;> cases ys <;> simp [eqL] at he
      subst he
      simp [Op.eqFields]
    | cons k ks => simp [eqFields] at hf
  | cons f fs ih =>
    intro o ks xs ys b X Y hf he hX hY
    simp only [eqFields, Bool.and_eq_true] at hf
    obtain ⟨⟨h1, h2⟩, h3⟩ := hf
    have h1 : f.name ≠ "_" := by simpa using h1
    have h2 := Nat.eq_of_beq_eq_true h2
    cases hty : E.tys f.type with
    | none => rw [hty] at h3; cases h3
    | some ty =>
      rw [hty] at h3
      simp only at h3
      have hT1 := hT _ _ hty
      cases ha : ty.desc.isAgg with
      | false =>
        rw [ha, cond_false] at h3
        cases ks with
        | nil => cases h3
        | cons k ks =>
        simp only [Bool.and_eq_true] at h3
        obtain ⟨⟨_, h3⟩, h4⟩ := h3
        have hk := kindsEq_of h3
        obtain ⟨x, y, xr, yr, p, r, rfl, rfl, er, rfl, hp⟩ := eqL_cons he
        have hX0 : X[o]? = some (plainV x) := by simpa using hX 0
        have hY0 : Y[o]? = some (plainV y) := by simpa using hY 0
        have hagg : (isAgg f.type).run P w = .ok false w := by rw [(hT _ _ hty).run_isAgg, ha]
        have hpart : ∀ (Z : Array Value) (v : Value), Z[o]? = some v → (part f.type Z f.offset).run P w = .ok v w := fun Z v hz => by
          unfold part
          rw [Sem.run_bind, hagg, Result.andThen_ok, h2]
          simp [hz]
        simp only [Op.eqFields]
        rw [if_pos h1, Sem.run_bind, hpart X _ hX0, Result.andThen_ok, Sem.run_bind, hpart Y _ hY0, Result.andThen_ok, Sem.run_bind, eq_one hT hty hk ha hp, Result.andThen_ok]
        cases p with
        | false => simp
        | true =>
          simp only [Bool.not_true, Bool.false_eq_true, if_false, Bool.true_and]
          exact ih (o + 1) ks xr yr r X Y h4 er (fun i => by
            have := hX (i + 1)
            rw [show o + 1 + i = o + (i + 1) by omega, this]; simp) (fun i => by
            have := hY (i + 1)
            rw [show o + 1 + i = o + (i + 1) by omega, this]; simp)
      | true =>
        rw [ha, cond_true] at h3
        simp only [Bool.and_eq_true] at h3
        obtain ⟨⟨h3, h5⟩, h4⟩ := h3
        have hk := kindsEq_of h5
        rw [takeN_eq] at hk
        rw [dropN_eq] at h4
        have hsz : ty.size = ty.kinds.length := hT1.len.symm
        have hks : ks = ty.kinds ++ ks.drop ty.size := by rw [hk]; exact (List.take_append_drop _ _).symm
        rw [hks] at he
        obtain ⟨p, r, e1, e2, rfl⟩ := eqL_app he
        rw [← hsz] at e1 e2
        have hl := eqL_len he
        have hlen : ty.size ≤ xs.length ∧ ty.size ≤ ys.length := by
          rw [hl.1, hl.2, List.length_append, hsz]; omega
        have hagg : (isAgg f.type).run P w = .ok true w := by rw [hT1.run_isAgg, ha]
        have hpart : ∀ (Z : Array Value) (zs : List AC), ty.size ≤ zs.length → (∀ i, Z[o + i]? = (zs.map plainV)[i]?) → (part f.type Z f.offset).run P w = .ok (.agg ((zs.take ty.size).map plainV).toArray) w := fun Z zs hz hZ => by
          unfold part
          rw [Sem.run_bind, hagg, Result.andThen_ok, h2]
          simp only [if_true, Sem.run_bind, hT1.run_size, Result.andThen_ok, Sem.run_pure]
          congr 2
          apply Array.ext'
          rw [Array.toList_extract]
          apply List.ext_getElem?
          intro i
          have := hZ i
          simp only [List.extract_eq_take_drop, List.getElem?_take, List.getElem?_drop, List.map_take, List.getElem?_map, Array.getElem?_toList] at this ⊢
          by_cases hi : i < ty.size
          · rw [if_pos (by omega), if_pos hi, this]
          · rw [if_neg (by omega), if_neg hi]
        simp only [Op.eqFields]
        rw [if_pos h1, Sem.run_bind, hpart X xs hlen.1 hX, Result.andThen_ok, Sem.run_bind, hpart Y ys hlen.2 hY, Result.andThen_ok, Sem.run_bind, hI _ _ hty h3 _ _ _ e1, Result.andThen_ok]
        cases p with
        | false => simp
        | true =>
          simp only [Bool.not_true, Bool.false_eq_true, if_false, Bool.true_and]
          exact ih (o + ty.size) _ _ _ r X Y h4 e2 (fun i => by
            have := hX (ty.size + i)
            rw [show o + ty.size + i = o + (ty.size + i) by omega, this]; simp) (fun i => by
            have := hY (ty.size + i)
            rw [show o + ty.size + i = o + (ty.size + i) by omega, this]; simp)

theorem eqS_of (hT : ∀ t ty, E.tys t = some ty → TyOk P t ty) : ∀ (n d : Nat), n ≤ d → ∀ t ty, E.tys t = some ty → eqS P E n t ty = true → ∀ xs ys b, eqL ty.kinds xs ys = some b →
    ∀ w, (Op.equalIn (d + 1) t (.agg (xs.map plainV).toArray) (.agg (ys.map plainV).toArray)).run P w = .ok b w
  | 0, _, _, _, _, _, h, _, _, _, _, _ => by cases h
  | n + 1, 0, hd, _, _, _, _, _, _, _, _, _ => by omega
  | n + 1, d + 1, hd, t, ty, hty, h, xs, ys, b, he, w => by
    simp only [eqS, Bool.and_eq_true] at h
    obtain ⟨h1, h2⟩ := h
    cases hu : P.underlying t with
    | none => rw [hu] at h1; cases h1
    | some dd =>
      rw [hu] at h1
      cases dd <;> simp only at h1 <;> try (cases h1; done)
      rename_i fs
      have hfo : P.fieldsOf t = fs := by simp [Program.fieldsOf, hu]
      have hst : P.stoodInHeld t = false := by simpa using h2
      rw [run_equalIn_struct w (d + 1) t _ _ (by rw [hfo]; exact hu) hst, hfo]
      exact fields_eq hT d (eqS_of hT n d (by omega)) w fs.toList 0 ty.kinds xs ys b _ _ h1 he (fun i => by simp) (fun i => by simp)

theorem eqB_of (hT : ∀ t ty, E.tys t = some ty → TyOk P t ty) {t : TypeId} {ty : Ty} (hty : E.tys t = some ty) (h : eqB P E t ty = true) {xs ys : List AC} {b : Bool} (he : eqL ty.kinds xs ys = some b) :
    P.eqGuardType P.depth t = false ∧ ∀ w, (Op.equal t (.agg (xs.map plainV).toArray) (.agg (ys.map plainV).toArray)).run P w = .ok b w := by
  simp only [eqB, Bool.and_eq_true] at h
  refine ⟨by simpa using h.2, fun w => ?_⟩
  unfold Op.equal Op.maxDepth
  exact eqS_of hT 5 9999 (by omega) t ty hty h.1 xs ys b he w

/-- The whole table at once. -/
def tabB (P : Program) (E : Env) (l : List (Nat × Ty)) : Bool := l.all fun x => tyB P x.1 x.2 && (!x.2.eq || eqB P E x.1 x.2)

theorem good_of {l : List (Nat × Ty)} (hE : E.tys = lookT l) (h : tabB P E l = true) : Good P E := by
  have hall := List.all_eq_true.1 h
  have hT : ∀ t ty, E.tys t = some ty → TyOk P t ty := fun t ty ht => by
    rw [hE] at ht
    have := hall _ (lookT_mem ht)
    simp only [Bool.and_eq_true] at this
    exact tyB_of this.1
  refine ⟨hT, fun t ty xs ys b ht hq he => ?_⟩
  have ht' := ht
  rw [hE] at ht'
  have := hall _ (lookT_mem ht')
  simp only [Bool.and_eq_true, hq, Bool.not_true, Bool.false_or] at this
  exact eqB_of hT (by rw [hE]; exact ht') this.2 he

end Go.Abs
