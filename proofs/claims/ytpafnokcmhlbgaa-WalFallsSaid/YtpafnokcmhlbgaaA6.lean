/-
  Rows laid one behind the other; addresses, parts and lengths.
-/
import Derived.Test.YtpafnokcmhlbgaaA5
namespace Go.Abs

variable {E : Env} {P : Program} {R : Places} {ρ : List Nat} {own : OI → Owner} {N : Nat} {st : St} {a : Act} {w : World} {F : Places}

/- ROWS OF ONE LENGTH -/

def Even (s : Nat) (rows : Rows) : Prop := ∀ r ∈ rows, r.length = s

theorem even_of {te : Ty} {rows : Rows} (hl : te.kinds.length = te.size) (h : ∀ r ∈ rows, r.map Cell.kind = te.kinds) : Even te.size rows := by
  intro r hr
  have := congrArg List.length (h r hr)
  simpa [hl] using this

theorem flat_len {s : Nat} : ∀ {rows : Rows}, Even s rows → rows.flatten.length = rows.length * s
  | [], _ => by simp
  | r :: rs, h => by
    have h1 := h r (by simp)
    have h2 := flat_len (rows := rs) fun x hx => h x (by simp [hx])
    simp only [List.flatten_cons, List.length_append, List.length_cons, h1, h2, Nat.succ_mul]
    omega

theorem flat_drop {s : Nat} : ∀ {rows : Rows} (n : Nat), Even s rows → (rows.drop n).flatten = rows.flatten.drop (n * s)
  | rows, 0, _ => by simp
  | [], n + 1, _ => by simp
  | r :: rs, n + 1, h => by
    have h1 := h r (by simp)
    have h2 := flat_drop (rows := rs) n fun x hx => h x (by simp [hx])
    simp only [List.drop_succ_cons, h2, List.flatten_cons, Nat.succ_mul]
    rw [List.drop_append, h1]
    simp [← h1]

theorem flat_take {s : Nat} : ∀ {rows : Rows} (n : Nat), Even s rows → (rows.take n).flatten = rows.flatten.take (n * s)
  | rows, 0, _ => by simp
  | [], n + 1, _ => by simp
  | r :: rs, n + 1, h => by
    have h1 := h r (by simp)
    have h2 := flat_take (rows := rs) n fun x hx => h x (by simp [hx])
    simp only [List.take_succ_cons, h2, List.flatten_cons, Nat.succ_mul]
    rw [List.take_append, h1]
    have : n * s + s - s = n * s := by omega
    rw [this, List.take_of_length_le (l := r) (by omega)]

theorem flat_get {s : Nat} {rows : Rows} (h : Even s rows) {i j : Nat} (hi : i < rows.length) (hj : j < s) : ∃ (h1 : i * s + j < rows.flatten.length) (h2 : j < rows[i].length), rows.flatten[i * s + j] = rows[i][j] := by
  have hl := flat_len h
  have h0 := h _ (List.getElem_mem hi)
  have hle : i * s + s ≤ rows.length * s := by
    have := Nat.mul_le_mul_right s (Nat.succ_le_of_lt hi)
    rwa [Nat.succ_mul] at this
  refine ⟨by rw [hl]; omega, by rw [h0]; exact hj, ?_⟩
  have e : (rows.drop i).flatten = rows.flatten.drop (i * s) := flat_drop i h
  have e2 : rows.drop i = rows[i] :: rows.drop (i + 1) := List.drop_eq_getElem_cons hi
  rw [e2, List.flatten_cons] at e
  have h1 : i * s + j < rows.flatten.length := by rw [hl]; omega
  have h3 : j < (rows.flatten.drop (i * s)).length := by rw [List.length_drop, hl]; omega
  have h4 : (rows.flatten.drop (i * s))[j] = rows.flatten[i * s + j] := List.getElem_drop ..
  rw [← h4]
  have h5 : (rows[i] ++ (rows.drop (i + 1)).flatten)[j]'(by rw [e]; exact h3) = rows[i][j]'(by omega) := List.getElem_append_left _
  rw [← h5]
  congr 1
  exact e.symm

theorem rowAt_eq : ∀ {rows : Rows} {i : Nat} (h : i < rows.length), rowAt rows i = rows[i]
  | [], i, h => by simp at h
  | r :: rs, 0, _ => rfl
  | r :: rs, i + 1, h => rowAt_eq (rows := rs) (by simpa using h)

theorem cellAt_eq : ∀ {row : Row} {j : Nat} (h : j < row.length), cellAt row j = row[j]
  | [], j, h => by simp at h
  | c :: r, 0, _ => rfl
  | c :: r, j + 1, h => cellAt_eq (row := r) (by simpa using h)

theorem add_none (B off n : Nat) : (⟨B, off, none⟩ : Addr).add n = ⟨B, off + n, none⟩ := Addr.add_lit B off n

/- SMALL OPERATIONS -/

theorem run_xor (k : IntKind) (n : Int) (w : World) : (Op.unary .xor (.int k n)).run P w = .ok (.int k (xorI k (cond k.signed (-1) k.max) n)) w := by
  cases k <;> rfl

theorem un_sound {op : UnOp} {x : AV} {vx : Value} {px : Owners} (hx : AVR E w F ρ x vx px) {u : Upd} (h : unK op x some = some u) :
    ∃ v val, u = Upd.pure v ∧ (Op.unary op vx).run P w = .ok val w ∧ AVR E w F ρ v val (fun _ => none) := by
  cases x with
  | one c =>
    cases c <;> cases op <;> simp only [unK] at h
    all_goals first
      | (cases h; done)
      | (rw [hx.get_int]; exact ⟨_, _, ofIntK h, run_xor _ _ _, AVR.int⟩)
      | (rw [hx.get_int]; exact ⟨_, _, ofIntK h, (by simp [Op.unary, Op.intArith]; done), AVR.int⟩)
      | (rw [hx.get_bool]; exact ⟨_, _, ofBoolK h, (by simp [Op.unary]), AVR.bool⟩)
  | undef => cases op <;> simp [unK] at h
  | agg l => cases op <;> simp [unK] at h
  | tup l => cases op <;> simp [unK] at h

theorem nth_map {α β : Type} (f : α → β) : ∀ (l : List α) (n : Nat), nth (l.map f) n = (nth l n).map f
  | [], n => by simp [nth]
  | x :: r, 0 => rfl
  | x :: r, n + 1 => nth_map f r n

theorem fieldAt_sound (G : Good P E) {s : TypeId} {f off : Nat} {tf : Ty} (h : fieldAt E s f = some (off, tf)) :
    ∃ fields fld, P.underlying s = some (.struct fields) ∧ fields[f]? = some fld ∧ fld.offset = off ∧ E.tys fld.type = some tf := by
  unfold fieldAt at h
  cases h1 : E.tys s with
  | none => simp [h1] at h
  | some ty =>
    simp only [h1] at h
    cases hd : ty.desc <;> simp only [hd] at h <;> try cases h
    rename_i fs
    obtain ⟨fields, h2, h3⟩ := desc_struct (G.ty _ _ h1) hd
    cases h4 : nth fs f with
    | none => simp [h4] at h
    | some p =>
      obtain ⟨o, ft⟩ := p
      simp only [h4] at h
      cases h5 : E.tys ft with
      | none => simp [h5] at h
      | some tf' =>
        simp only [h5] at h
        cases h
        rw [← h3, nth_map, nth_eq] at h4
        cases h6 : fields.toList[f]? with
        | none => simp [h6] at h4
        | some fld =>
          simp only [h6, Option.map_some] at h4
          cases h4
          exact ⟨fields, fld, h2, by simpa using h6, rfl, h5⟩

theorem fieldAddr_sound (G : Good P E) {s : TypeId} {f : Nat} {x : AV} {vx : Value} {px : Owners} (hx : AVR E w F ρ x vx px) {u : Upd} (h : fieldAddrK E s x f some = some u) :
    ∃ v val, u = Upd.pure v ∧ (Instr.fieldAt s vx f).run P w = .ok val w ∧ AVR E w F ρ v val (fun _ => none) := by
  unfold fieldAddrK at h
  cases h1 : fieldAt E s f with
  | none => simp [h1] at h
  | some q =>
    obtain ⟨off, tf⟩ := q
    simp only [h1] at h
    obtain ⟨fields, fld, g1, g2, g3, g4⟩ := fieldAt_sound G h1
    have hsz := (G.ty _ _ g4).run_size (w := w)
    have hpos := (G.ty _ _ g4).pos
    have key : ∀ (B o : Nat), (Instr.fieldAt s (.pointer (some ⟨B, o, none⟩)) f).run P w = .ok (.pointer (some ⟨B, o + off, none⟩)) w := by
      intro B o
      simp only [Instr.fieldAt, Sem.run_bind, run_underlying g1, Result.andThen_ok, g2, Instr.sureAddr, Sem.run_pure, fieldPlace, hsz]
      rw [if_neg (by omega)]
      simp only [Sem.run_pure, Result.andThen_ok, g3, add_none]
    cases x with
    | one c =>
      cases c with
      | ptr b o =>
        obtain ⟨B, hB, rfl⟩ := hx.get_one.inv_ptr
        exact ⟨_, _, ofK h, key B o, .of (.ptr _ _ _ hB)⟩
      | eptr e row o =>
        have := hx.get_one
        generalize px [] = q at this
        cases this with
        | eptr _ _ _ te B off' g he hk hm hr =>
          have e := Nat.add_assoc off' o off
          refine ⟨_, _, ofK h, key B (off' + o), ?_⟩
          rw [e]
          exact .of (.eptr _ _ _ te B off' g he hk hm hr)
      | mptr b e i o =>
        have := hx.get_one
        generalize px [] = q at this
        cases this with
        | mptr _ _ _ _ te B hB he =>
          have e := Nat.add_assoc (i * te.size) o off
          refine ⟨_, _, ofK h, key B (i * te.size + o), ?_⟩
          rw [e]
          exact .of (.mptr _ _ _ _ te B hB he)
      | _ => simp at h
    | _ => simp at h

/-- the owners of a value that a load hands on -/
def ownsV (agg : Bool) (o : Nat → Owner) : Owners
  | [] => if agg then none else o 0
  | [i] => if agg then o i else none
  | _ => none

/-- the slot's value for a type, as memory gives it -/
theorem value_rel (G : Good P E) {t : TypeId} {ty : Ty} (ht : E.tys t = some ty) {l : List AC} {g : Nat → Value} {o : Nat → Owner} {v : AV} (hl : l.length = ty.size) (h : ∀ (i : Nat) (hi : i < l.length), AR E w F ρ l[i] (g i) (o i))
    (ho : ∀ i, l.length ≤ i → o i = none) {r : Option AV} (hv : valueK ty l some = r) (hr : r = some v) :
    AVR E w F ρ v (if ty.desc.isAgg then .agg ((List.range ty.size).map g).toArray else g 0) (ownsV ty.desc.isAgg o) := by
  have hT := G.ty t ty ht
  subst hr
  unfold valueK at hv
  cases hd : ty.desc.isAgg with
  | true =>
    rw [hd] at hv
    simp only [Option.some.injEq] at hv
    subst hv
    simp only [if_true]
    have := AVR.agg (E := E) (w := w) (F := F) (ρ := ρ) l g (ownsV true o) (fun i hi => h i hi) (fun p hp => ?_)
    · rwa [hl] at this
    · cases p with
      | nil => rfl
      | cons i p => cases p with
        | nil =>
          rcases Nat.lt_or_ge i l.length with hi | hi
          · exact absurd rfl (hp i hi)
          · exact ho i hi
        | cons j p => rfl
  | false =>
    rw [hd] at hv
    cases l with
    | nil => simp at hv
    | cons c r => cases r with
      | nil =>
        simp only [Option.some.injEq] at hv
        subst hv
        simp only [Bool.false_eq_true, if_false]
        exact .one _ _ _ (h 0 (by simp)) fun p hp => by
          cases p with
          | nil => exact absurd rfl hp
          | cons i p => cases p <;> rfl
      | cons d r => simp at hv

theorem index_sound (G : Good P E) {t : TypeId} {x i : AV} {vx vi : Value} {px pi : Owners} (hx : AVR E w F ρ x vx px) (hi : AVR E w F ρ i vi pi) {u : Upd} (h : indexK E t x i some = some u) :
    ∃ v val, u = Upd.pure v ∧ (Instr.index t vx vi).run P w = .ok val w ∧ AVR E w F ρ v val (fun _ => none) := by
  unfold indexK at h
  split at h <;> try (cases h; done)
  rename_i s k n
  cases h1 : E.tys t with
  | none => simp [h1] at h
  | some ty =>
    simp only [h1] at h
    cases hd : ty.desc <;> simp only [hd] at h <;> try cases h
    obtain ⟨hb, h⟩ := cond_none_some h
    have hb' : 0 ≤ n ∧ n < s.length := by simpa [inB] using hb
    rw [hx.get_str, hi.get_int]
    refine ⟨_, _, ofIntK h, ?_, AVR.int⟩
    have hlt : n.toNat < s.length := by omega
    have : (⟨s.toArray⟩ : ByteArray)[n.toNat]? = some s[n.toNat] := by
      rw [getElem?_pos _ _ (by simpa [ByteArray.size] using hlt)]; rfl
    simp only [Instr.index, asIntOf, Sem.run_bind, Sem.run_pure, Result.andThen_ok, run_underlying (desc_str (G.ty _ _ h1) hd), hb'.1, if_true, this]
    simp [List.getD, List.getElem?_eq_getElem hlt]

theorem len_sound (G : Good P E) {t ty0 : TypeId} {x : AV} {vx : Value} {px : Owners} (hx : AVR E w F ρ x vx px) {u : Upd} (h : lenK E t x some = some u) :
    ∃ v val, u = Upd.pure v ∧ (Builtin.len_ #[t] ty0 #[vx]).run P w = .ok val w ∧ AVR E w F ρ v val (fun _ => none) := by
  unfold lenK at h
  cases h1 : E.tys t with
  | none => simp [h1] at h
  | some ty =>
    simp only [h1] at h
    have hsl : ∀ e, ty.desc = .slice e → ∀ a n c, (Builtin.len_ #[t] ty0 #[.slice a n c]).run P w = .ok (.int .i64 n) w := by
      intro e hd a n c
      simp [Builtin.len_, run_underlying (desc_slice (G.ty _ _ h1) hd), goInt]
    split at h <;> try (cases h; done)
    · rename_i hd
      have := hx.get_one
      generalize px [] = q at this
      refine ⟨_, _, ofIntK h, ?_, AVR.int⟩
      cases this with
      | sl e rows v hc => cases hc <;> exact hsl _ hd _ _ _
      | full e rows a n hc => cases hc <;> exact hsl _ hd _ _ _
      | own e rows te B off len cap hc => cases hc <;> exact hsl _ hd _ _ _
    · rename_i hd
      have := hx.get_one
      generalize px [] = q at this
      refine ⟨_, _, ofIntK h, ?_, AVR.int⟩
      cases this
      exact hsl _ hd _ _ _
    · rename_i hd
      have := hx.get_one
      generalize px [] = q at this
      refine ⟨_, _, ofIntK h, ?_, AVR.int⟩
      rw [lenN_eq]
      cases this
      exact hsl _ hd _ _ _
    · rename_i s hd
      rw [hx.get_str]
      refine ⟨_, _, ofIntK h, ?_, AVR.int⟩
      have hk : ∀ b : ByteArray, (Builtin.len_ #[t] ty0 #[.string b]).run P w = .ok (.int .i64 b.size) w := by
        intro b
        simp [Builtin.len_, run_underlying (desc_str (G.ty _ _ h1) hd), goInt]
      rw [hk]
      rfl
    · rename_i n hd
      have := hx.get_one
      generalize px [] = q at this
      refine ⟨_, _, ofIntK h, ?_, AVR.int⟩
      cases this with
      | msl => exact hsl _ hd _ _ _
      | mnil => exact hsl _ hd _ _ _
    · rename_i n _ hd
      have := hx.get_one
      generalize px [] = q at this
      refine ⟨_, _, ofIntK h, ?_, AVR.int⟩
      cases this with
      | win => exact hsl _ hd _ _ _

end Go.Abs
