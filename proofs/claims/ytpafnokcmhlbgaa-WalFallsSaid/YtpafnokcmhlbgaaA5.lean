/-
  Operations that only compute: each gives what the interpreter says.
-/
import Derived.Test.YtpafnokcmhlbgaaA4
import Derived.Laws.Unary
import Derived.Laws.Strings
import Derived.Laws.Cover3
namespace Go.Abs

variable {E : Env} {P : Program} {R : Places} {ρ : List Nat} {own : OI → Owner} {N : Nat} {st : St} {a : Act} {w : World} {F : Places}

/-- An operation's run, and the state behind it. -/
def Ran (E : Env) (R : Places) (ρ : List Nat) (own : OI → Owner) (N : Nat) (w : World) (st' : St) (dst : Option Nat) (a : Act) (r : Result Next) : Prop :=
  (∃ v w', r = .ok (.value v) w' ∧ After E R ρ own N w st' (a.put dst v) w') ∨ (∃ w', r = .ok .skip w' ∧ After E R ρ own N w st' (a.put dst undef) w')

theorem Ran.value {st' : St} {dst : Option Nat} {r : Result Next} {v : Value} {w' : World} (h1 : r = .ok (.value v) w') (h2 : After E R ρ own N w st' (a.put dst v) w') : Ran E R ρ own N w st' dst a r :=
  .inl ⟨v, w', h1, h2⟩

theorem run_v {s : Sem Value} {v : Value} {w w' : World} (h : s.run P w = .ok v w') : (do pure (Next.value (← s)) : Sem Next).run P w = .ok (.value v) w' := by
  simp [h]

/-- the value owns nothing and is told of the world as it is -/
theorem Ran.pure0 (h : Rel E R ρ own N st a w) {dst : Option Nat} {r : Result Next} {v : AV} {val : Value} (hd : ∀ d, dst = some d → d < N) (h1 : r = .ok (.value val) w)
    (hV : AVR E w (Fn own R) ρ v val (fun _ => none)) : Ran E R ρ own N w (st.apply dst (Upd.pure v)) dst a r :=
  .value h1 (h.pure0 hd hV)

theorem AVR.int {k : IntKind} {n : Int} : AVR E w F ρ (.one (.int k n)) (.int k n) (fun _ => none) := .one _ _ _ (.int k n) fun _ _ => rfl
theorem AVR.bool {b : Bool} : AVR E w F ρ (.one (.bool b)) (.bool b) (fun _ => none) := .one _ _ _ (.bool b) fun _ _ => rfl
theorem AVR.of {c : AC} {v : Value} (h : AR E w F ρ c v none) : AVR E w F ρ (.one c) v (fun _ => none) := .one _ _ _ h fun _ _ => rfl

theorem AR.inv_int {v : Value} {o : Owner} {k : IntKind} {n : Int} (h : AR E w F ρ (.int k n) v o) : v = .int k n := by cases h; rfl
theorem AR.inv_bool {v : Value} {o : Owner} {b : Bool} (h : AR E w F ρ (.bool b) v o) : v = .bool b := by cases h; rfl
theorem AR.inv_str {v : Value} {o : Owner} {s : List UInt8} (h : AR E w F ρ (.str s) v o) : v = .string ⟨s.toArray⟩ := by cases h; rfl
theorem AR.inv_nilp {v : Value} {o : Owner} (h : AR E w F ρ .nilp v o) : v = .pointer none := by cases h; rfl
theorem AR.inv_ptr {v : Value} {o : Owner} {b k : Nat} (h : AR E w F ρ (.ptr b k) v o) : ∃ B, nth ρ b = some B ∧ v = .pointer (some ⟨B, k, none⟩) := by
  cases h with | ptr _ _ B h => exact ⟨B, h, rfl⟩
theorem AVR.get_one {v : Value} {o : Owners} {c : AC} (h : AVR E w F ρ (.one c) v o) : AR E w F ρ c v (o []) := by
  cases h with | one _ _ _ h _ => exact h
theorem AVR.get_int {v : Value} {o : Owners} {k : IntKind} {n : Int} (h : AVR E w F ρ (.one (.int k n)) v o) : v = .int k n := h.get_one.inv_int
theorem AVR.get_bool {v : Value} {o : Owners} {b : Bool} (h : AVR E w F ρ (.one (.bool b)) v o) : v = .bool b := h.get_one.inv_bool
theorem AVR.get_str {v : Value} {o : Owners} {s : List UInt8} (h : AVR E w F ρ (.one (.str s)) v o) : v = .string ⟨s.toArray⟩ := h.get_one.inv_str

theorem cond_some {β : Type} {b : Bool} {x y : Option β} {r : β} (h : cond b x y = some r) : (b = true ∧ x = some r) ∨ (b = false ∧ y = some r) := by
  cases b
  · exact .inr ⟨rfl, h⟩
  · exact .inl ⟨rfl, h⟩
theorem cond_none_some {β : Type} {b : Bool} {x : Option β} {r : β} (h : cond b x none = some r) : b = true ∧ x = some r := by
  cases b
  · cases h
  · exact ⟨rfl, h⟩
theorem none_cond_some {β : Type} {b : Bool} {x : Option β} {r : β} (h : cond b none x = some r) : b = false ∧ x = some r := by
  cases b
  · exact ⟨rfl, h⟩
  · cases h

theorem same_of {j k : IntKind} (h : IntKind.same j k = true) : j = k := by cases j <;> cases k <;> first | rfl | (exact absurd h (by decide))

theorem ofK {v : AV} {u : Upd} (h : pureK v some = some u) : u = Upd.pure v := by injection h with h; exact h.symm
theorem ofIntK {k : IntKind} {n : Int} {u : Upd} (h : intK k n some = some u) : u = Upd.pure (.one (.int k n)) := by injection h with h; exact h.symm
theorem ofBoolK {b : Bool} {u : Upd} (h : boolK b some = some u) : u = Upd.pure (.one (.bool b)) := by injection h with h; exact h.symm

theorem toList_bytes (s : List UInt8) : (⟨s.toArray⟩ : ByteArray).toList = s := by
  rw [ByteArray.toList_eq]

def plainV : AC → Value
  | .int k n => .int k n
  | .bool b => .bool b
  | .str s => .string ⟨s.toArray⟩
  | _ => undef

/-- what is taken of the program: the tables are right -/
structure Good (P : Program) (E : Env) : Prop where
  ty : ∀ t ty, E.tys t = some ty → TyOk P t ty
  eqs : ∀ t ty xs ys b, E.tys t = some ty → ty.eq = true → eqL ty.kinds xs ys = some b → P.eqGuardType P.depth t = false ∧ ∀ w, (Op.equal t (.agg (xs.map plainV).toArray) (.agg (ys.map plainV).toArray)).run P w = .ok b w

theorem desc_bool {t : TypeId} {ty : Ty} (h : TyOk P t ty) (hd : ty.desc = .bool) : P.underlying t = some .bool := by
  obtain ⟨d, h1, h2⟩ := h.desc; unfold DescOk at h2; rw [hd] at h2; cases d <;> simp_all
theorem desc_ptr {t : TypeId} {ty : Ty} {e : TypeId} (h : TyOk P t ty) (hd : ty.desc = .ptr e) : P.underlying t = some (.pointer e) := by
  obtain ⟨d, h1, h2⟩ := h.desc; unfold DescOk at h2; rw [hd] at h2; cases d <;> simp_all
theorem desc_int {t : TypeId} {ty : Ty} {k : IntKind} (h : TyOk P t ty) (hd : ty.desc = .int k) : P.underlying t = some (.int k) := by
  obtain ⟨d, h1, h2⟩ := h.desc; unfold DescOk at h2; rw [hd] at h2; cases d <;> simp_all
theorem desc_str {t : TypeId} {ty : Ty} (h : TyOk P t ty) (hd : ty.desc = .str) : P.underlying t = some .string := by
  obtain ⟨d, h1, h2⟩ := h.desc; unfold DescOk at h2; rw [hd] at h2; cases d <;> simp_all
theorem desc_slice {t : TypeId} {ty : Ty} {e : TypeId} (h : TyOk P t ty) (hd : ty.desc = .slice e) : P.underlying t = some (.slice e) := by
  obtain ⟨d, h1, h2⟩ := h.desc; unfold DescOk at h2; rw [hd] at h2; cases d <;> simp_all
theorem desc_array {t : TypeId} {ty : Ty} {n : Nat} {e : TypeId} (h : TyOk P t ty) (hd : ty.desc = .array n e) : P.underlying t = some (.array n e) := by
  obtain ⟨d, h1, h2⟩ := h.desc; unfold DescOk at h2; rw [hd] at h2; cases d <;> simp_all
theorem desc_struct {t : TypeId} {ty : Ty} {fs : List (Nat × TypeId)} (h : TyOk P t ty) (hd : ty.desc = .struct fs) : ∃ fields, P.underlying t = some (.struct fields) ∧ fields.toList.map (fun f => (f.offset, f.type)) = fs := by
  obtain ⟨d, h1, h2⟩ := h.desc; unfold DescOk at h2; rw [hd] at h2; cases d <;> simp_all

theorem bytesLess_eq : ∀ (x y : List UInt8), Op.bytesLess x y = bytesLess x y
  | _, [] => by simp [Op.bytesLess, bytesLess]
  | [], _ :: _ => by simp [Op.bytesLess, bytesLess]
  | c :: x, d :: y => by simp only [Op.bytesLess, bytesLess, bytesLess_eq x y]

def AC.plain : AC → Bool
  | .int _ _ | .bool _ | .str _ => true
  | _ => false

theorem AR.inv_plain {c : AC} {v : Value} {o : Owner} (h : AR E w F ρ c v o) (hp : c.plain = true) : v = plainV c := by
  cases h <;> first | rfl | (simp [AC.plain] at hp)

theorem eqL_plain : ∀ {ks : List CK} {xs ys : List AC} {b : Bool}, eqL ks xs ys = some b → (∀ c ∈ xs, c.plain = true) ∧ (∀ c ∈ ys, c.plain = true) := by
  have hb : ∀ {p : Bool} {q : Option Bool} {b : Bool}, both p q = some b → ∃ r, q = some r := by
    intro p q b h
    cases q with
    | none => cases h
    | some r => exact ⟨r, rfl⟩
  intro ks xs ys
  induction ks, xs, ys using eqL.induct with
  | case1 => intro b _; simp
  | case2 j ks k a x l b y hc ih =>
    intro q h
    simp only [eqL, hc, cond_true] at h
    obtain ⟨r, e⟩ := hb h
    obtain ⟨h1, h2⟩ := ih e; exact ⟨by simpa [AC.plain] using h1, by simpa [AC.plain] using h2⟩
  | case3 j ks k a x l b y hc =>
    intro q h
    simp only [eqL, hc, cond_false] at h
    cases h
  | case4 ks a x b y ih =>
    intro q h
    simp only [eqL] at h
    obtain ⟨r, e⟩ := hb h
    obtain ⟨h1, h2⟩ := ih e; exact ⟨by simpa [AC.plain] using h1, by simpa [AC.plain] using h2⟩
  | case5 ks a x b y ih =>
    intro q h
    simp only [eqL] at h
    obtain ⟨r, e⟩ := hb h
    obtain ⟨h1, h2⟩ := ih e; exact ⟨by simpa [AC.plain] using h1, by simpa [AC.plain] using h2⟩
  | case6 => intro b h; simp_all [eqL]

theorem agg_plain {l : List AC} {v : Value} {o : Owners} (h : AVR E w F ρ (.agg l) v o) (hp : ∀ c ∈ l, c.plain = true) : v = .agg (l.map plainV).toArray := by
  cases h with
  | agg l g o h ho =>
    congr 2
    apply List.ext_getElem
    · simp
    · intro i h1 h2
      simp only [List.getElem_map, List.getElem_range]
      have hi : i < l.length := by simpa using h2
      exact (h i hi).inv_plain (hp _ (List.getElem_mem hi))

theorem eqGuard_plain (op : BinOp) (t : TypeId) (x y : Operand) {c : AC} {v u : Value} {o : Owner} (h : AR E w F ρ c v o) : eqGuard op t x y v u = Pure.pure () := by
  cases h with
  | sl e rows v h => cases h <;> exact eqGuard_at_slice ..
  | int k n => exact eqGuard_at_int ..
  | bool b => exact eqGuard_at_bool ..
  | str s => exact eqGuard_at_string ..
  | full => exact eqGuard_at_slice ..
  | own => exact eqGuard_at_slice ..
  | nils => exact eqGuard_at_slice ..
  | ptr => exact eqGuard_at_pointer ..
  | eptr => exact eqGuard_at_pointer ..
  | nilp => exact eqGuard_at_pointer ..
  | fn => exact eqGuard_at_func ..
  | nilf => exact eqGuard_at_nilFunc op t x y u
  | refs => exact eqGuard_at_slice ..
  | aptr => exact eqGuard_at_pointer ..
  | msl => exact eqGuard_at_slice ..
  | mnil => exact eqGuard_at_slice ..
  | mptr => exact eqGuard_at_pointer ..
  | win => exact eqGuard_at_slice ..
  | parr => exact eqGuard_at_pointer ..

theorem run_equal_bool {t : TypeId} (h : P.underlying t = some .bool) (p q : Bool) (w : World) : (Op.equal t (.bool p) (.bool q)).run P w = .ok (p == q) w := by
  have : ∀ d, (Op.equalIn (d + 1) t (.bool p) (.bool q)).run P w = .ok (p == q) w := by
    intro d
    simp only [Op.equalIn, Sem.run_bind, run_underlying h, Result.andThen_ok, Sem.run_pure]
  exact this 9999

theorem run_equal_ptr {t e : TypeId} (h : P.underlying t = some (.pointer e)) (p q : Option Addr) (hpq : p = none ∨ q = none) (w : World) : (Op.equal t (.pointer p) (.pointer q)).run P w = .ok (p.isNone && q.isNone) w := by
  have : ∀ d, (Op.equalIn (d + 1) t (.pointer p) (.pointer q)).run P w = .ok (p.isNone && q.isNone) w := by
    intro d
    cases p with
    | none => simp only [Op.equalIn, Sem.run_bind, run_underlying h, Result.andThen_ok, Sem.run_pure]; rfl
    | some x => cases q with
      | none => simp only [Op.equalIn, Sem.run_bind, run_underlying h, Result.andThen_ok, Sem.run_pure]; rfl
      | some y => simp at hpq
  exact this 9999

theorem eqC_run (G : Good P E) {t : TypeId} {ty : Ty} (ht : E.tys t = some ty) {c d : AC} {vx vy : Value} {ox oy : Owner} (hx : AR E w F ρ c vx ox) (hy : AR E w F ρ d vy oy) {p : Bool} (h1 : okEq ty.desc c = true) (he : eqC c d = some p) :
    (Op.equal t vx vy).run P w = .ok p w ∧ ∀ op, (op = .eql ∨ op = .neq) → (binOp op t vx vy).run P w = ((Op.equal t vx vy).run P w).andThen fun b w' => .ok (.bool (match op with | .neq => !b | _ => b)) w' := by
  have hT := G.ty t ty ht
  cases hd : ty.desc with
  | bool =>
    rw [hd] at h1
    cases c <;> simp [okEq] at h1
    cases d <;> simp [eqC] at he
    rw [hx.inv_bool, hy.inv_bool]
    refine ⟨by rw [run_equal_bool (desc_bool hT hd)]; simp [← he], fun op hop => ?_⟩
    rcases hop with rfl | rfl <;> simp [binOp]
  | ptr e =>
    rw [hd] at h1
    have hu := desc_ptr hT hd
    have hb : ∀ p q, ∀ op, (op = .eql ∨ op = .neq) → (binOp op t (.pointer p) (.pointer q)).run P w = ((Op.equal t (.pointer p) (.pointer q)).run P w).andThen fun b w' => .ok (.bool (match op with | .neq => !b | _ => b)) w' := by
      intro p q op hop
      rcases hop with rfl | rfl <;> simp [binOp]
    cases c <;> simp [okEq] at h1
    · cases d <;> simp [eqC] at he
      rw [hy.inv_nilp]
      obtain ⟨B, _, e⟩ := hx.inv_ptr
      rw [e]
      exact ⟨by rw [run_equal_ptr hu _ _ (.inr rfl)]; subst he; rfl, hb _ _⟩
    · cases d <;> simp [eqC] at he
      · rw [hx.inv_nilp]
        obtain ⟨B, _, e⟩ := hy.inv_ptr
        rw [e]
        exact ⟨by rw [run_equal_ptr hu _ _ (.inl rfl)]; subst he; rfl, hb _ _⟩
      · rw [hx.inv_nilp, hy.inv_nilp]
        exact ⟨by rw [run_equal_ptr hu _ _ (.inl rfl)]; subst he; rfl, hb _ _⟩
  | _ => rw [hd] at h1; cases c <;> simp [okEq] at h1

def genK (E : Env) (t : TypeId) (op : BinOp) (c d : AC) : Option Upd :=
  match E.tys t with
  | some ty => cond (okEq ty.desc c) (match op, eqC c d with
    | .eql, some p => boolK p some
    | .neq, some p => boolK (!p) some
    | _, _ => none) none
  | none => none

theorem gen_sound (G : Good P E) {t : TypeId} {op : BinOp} {c d : AC} {vx vy : Value} {ox oy : Owner} (hx : AR E w F ρ c vx ox) (hy : AR E w F ρ d vy oy) {u : Upd} (h : genK E t op c d = some u) :
    ∃ v val, u = Upd.pure v ∧ (binOp op t vx vy).run P w = .ok val w ∧ AVR E w F ρ v val (fun _ => none) := by
  unfold genK at h
  cases ht : E.tys t with
  | none => simp [ht] at h
  | some ty =>
    rw [ht] at h
    dsimp only at h
    obtain ⟨h1, h⟩ := cond_none_some h
    cases he : eqC c d with
    | none => rw [he] at h; cases op <;> simp at h
    | some p =>
      rw [he] at h
      obtain ⟨r1, r2⟩ := eqC_run G ht hx hy h1 he
      have hop : op = .eql ∨ op = .neq := by cases op <;> simp at h <;> simp
      rw [r2 op hop, r1]
      simp only [Result.andThen_ok]
      rcases hop with rfl | rfl
      · exact ⟨_, _, ofBoolK h, rfl, AVR.bool⟩
      · exact ⟨_, _, ofBoolK h, rfl, AVR.bool⟩

theorem int_sound {op : BinOp} {t : TypeId} {j k : IntKind} {m n : Int} {u : Upd} (h : binK E op t (.one (.int j m)) (.one (.int k n)) some = some u) :
    ∃ v val, u = Upd.pure v ∧ (binOp op t (.int j m) (.int k n)).run P w = .ok val w ∧ AVR E w F ρ v val (fun _ => none) := by
  by_cases h1 : op = .shl
  · subst h1
    obtain ⟨hb, h⟩ := none_cond_some h
    have hn : ¬ n < 0 := by simpa using hb
    refine ⟨_, _, ofIntK h, ?_, AVR.int⟩
    simp [binOp, Op.shift, hn, shlI]
  by_cases h2 : op = .shr
  · subst h2
    obtain ⟨hb, h⟩ := none_cond_some h
    have hn : ¬ n < 0 := by simpa using hb
    refine ⟨_, _, ofIntK h, ?_, AVR.int⟩
    simp [binOp, Op.shift, hn, shrI]
  have hk : j = k := by
    cases op <;> first | exact absurd rfl h1 | exact absurd rfl h2 | exact same_of (cond_none_some h).1
  subst hk
  cases op <;> first | exact absurd rfl h1 | exact absurd rfl h2 | skip
  all_goals obtain ⟨_, h⟩ := cond_none_some h
  all_goals dsimp only at h
  all_goals first
    | exact ⟨_, _, ofIntK h, (by first | (simp [binOp, Op.intArith]; done) | (simp only [binOp, Op.intBits, ne_eq, not_true_eq_false, if_false]; rfl)), AVR.int⟩
    | exact ⟨_, _, ofBoolK h, (by simp [binOp, Op.intCmp]), AVR.bool⟩
    | (obtain ⟨hb, h⟩ := none_cond_some h
       have hn : ¬ n = 0 := by simpa using hb
       exact ⟨_, _, ofIntK h, (by simp [binOp, Op.intDiv, hn]), AVR.int⟩)
    | cases h

theorem str_sound {op : BinOp} {t : TypeId} {x y : List UInt8} {u : Upd} (h : binK E op t (.one (.str x)) (.one (.str y)) some = some u) :
    ∃ v val, u = Upd.pure v ∧ (binOp op t (.string ⟨x.toArray⟩) (.string ⟨y.toArray⟩)).run P w = .ok val w ∧ AVR E w F ρ v val (fun _ => none) := by
  by_cases ha : op = .add
  rotate_left
  · cases op <;> simp only [binK] at h
    all_goals first
      | exact absurd rfl ha
      | exact ⟨_, _, ofBoolK h, (by simp only [binOp, Op.stringOp, toList_bytes, bytesLess_eq, Sem.run_pure]), AVR.bool⟩
      | (cases h; done)
  subst ha
  obtain ⟨hb, h⟩ := cond_none_some h
  have hl : x.length + y.length ≤ LIM := by simpa [fits] using hb
  refine ⟨_, .string ⟨(app x y).toArray⟩, ofK h, ?_, .one _ _ _ (.str _) fun _ _ => rfl⟩
  have : ¬ (((⟨x.toArray⟩ : ByteArray).size + (⟨y.toArray⟩ : ByteArray).size : Nat) : Int) > IntKind.i64.max := by
    simp only [ByteArray.size, List.size_toArray, IntKind.max_i64]
    unfold LIM at hl
    omega
  simp only [binOp, Op.stringOp, this, if_false, Sem.run_pure, app_eq]
  congr 2

theorem slnil_sound (G : Good P E) {op : BinOp} {t : TypeId} {b : Bool} {e : TypeId} {rows : Rows} {vx vy : Value} {ox oy : Owner} (hx : AR E w F ρ (.sl b e rows) vx ox) (hy : AR E w F ρ .nils vy oy) {u : Upd}
    (h : binK E op t (.one (.sl b e rows)) (.one .nils) some = some u) : ∃ v val, u = Upd.pure v ∧ (binOp op t vx vy).run P w = .ok val w ∧ AVR E w F ρ v val (fun _ => none) := by
  simp only [binK] at h
  cases ht : E.tys t with
  | none => simp [ht] at h
  | some ty =>
    rw [ht] at h
    dsimp only at h
    cases hd : ty.desc with
    | slice e' =>
      rw [hd] at h
      dsimp only at h
      have hu := desc_slice (G.ty t ty ht) hd
      cases rows with
      | nil => simp [isNilL] at h
      | cons r rs =>
        simp only [isNilL, cond_false] at h
        have hv : ∃ a n c, vx = .slice (some a) n c := by
          cases hx with
          | sl _ _ _ h => cases h; exact ⟨_, _, _, rfl⟩
          | full _ _ _ _ h => cases h; exact ⟨_, _, _, rfl⟩
          | own => exact ⟨_, _, _, rfl⟩
        obtain ⟨a, n, c, rfl⟩ := hv
        cases hy
        have hq := run_equal_slice_nil (P := P) w t e' (some a) n c hu
        by_cases h1 : op = .eql
        · subst h1
          refine ⟨_, _, ofBoolK h, ?_, AVR.bool⟩
          show (do pure (.bool (← Op.equal t (.slice (some a) n c) (.slice none 0 0))) : Sem Value).run P w = _
          rw [Sem.run_bind, hq]
          rfl
        · by_cases h2 : op = .neq
          · subst h2
            refine ⟨_, _, ofBoolK h, ?_, AVR.bool⟩
            show (do pure (.bool (!(← Op.equal t (.slice (some a) n c) (.slice none 0 0)))) : Sem Value).run P w = _
            rw [Sem.run_bind, hq]
            rfl
          · cases op <;> first | exact absurd rfl h1 | exact absurd rfl h2 | cases h
    | _ => rw [hd] at h; simp at h

theorem bin_sound (G : Good P E) (op : BinOp) (t : TypeId) (ox oy : Operand) {x y : AV} {vx vy : Value} {px py : Owners} (hx : AVR E w F ρ x vx px) (hy : AVR E w F ρ y vy py) {u : Upd} (h : binK E op t x y some = some u) :
    ∃ v val, u = Upd.pure v ∧ (do eqGuard op t ox oy vx vy; binOp op t vx vy : Sem Value).run P w = .ok val w ∧ AVR E w F ρ v val (fun _ => none) := by
  cases x with
  | undef => cases y <;> simp [binK] at h
  | tup l => cases y <;> simp [binK] at h
  | agg l => cases y with
    | undef => simp [binK] at h
    | one c => simp [binK] at h
    | tup l => simp [binK] at h
    | agg l' =>
      simp only [binK] at h
      cases ht : E.tys t with
      | none => simp [ht] at h
      | some ty =>
        rw [ht] at h
        dsimp only at h
        cases hq : ty.eq with
        | false => rw [hq] at h; cases h
        | true =>
        rw [hq] at h
        simp only [cond_true] at h
        cases he : eqL ty.kinds l l' with
        | none => rw [he] at h; cases op <;> simp at h
        | some p =>
          obtain ⟨p1, p2⟩ := eqL_plain he
          obtain ⟨g1, g2⟩ := G.eqs t ty l l' p ht hq he
          have e1 := agg_plain hx p1
          have e2 := agg_plain hy p2
          subst e1 e2
          rw [he] at h
          cases op <;> simp at h
          · refine ⟨_, .bool p, ofBoolK h, ?_, AVR.bool⟩
            simp [eqGuard, g1, binOp, g2]
          · refine ⟨_, .bool (!p), ofBoolK h, ?_, AVR.bool⟩
            simp [eqGuard, g1, binOp, g2]
  | one c => cases y with
    | undef => cases c <;> simp [binK] at h
    | agg l => cases c <;> simp [binK] at h
    | tup l => cases c <;> simp [binK] at h
    | one d =>
      have hcx := hx.get_one
      have hcy := hy.get_one
      have hg := eqGuard_plain op t ox oy (u := vy) hcx
      rw [hg]
      simp only [Sem.run_bind, Sem.run_pure, Result.andThen_ok]
      have hgen : ((∀ k n, c ≠ .int k n) ∨ (∀ k n, d ≠ .int k n)) → ((∀ s, c ≠ .str s) ∨ (∀ s, d ≠ .str s)) → ((∀ b e r, c ≠ .sl b e r) ∨ d ≠ .nils) → binK E op t (.one c) (.one d) some = genK E t op c d := by
        intro n1 n2 n3
        cases c <;> cases d <;> first | rfl | (exfalso; rcases n1 with n | n <;> exact n _ _ rfl) | (exfalso; rcases n2 with n | n <;> exact n _ rfl) | (exfalso; rcases n3 with n | n; exact n _ _ _ rfl; exact n rfl)
      by_cases hi : (∃ k n, c = .int k n) ∧ (∃ k n, d = .int k n)
      · obtain ⟨⟨k, n, rfl⟩, ⟨k', n', rfl⟩⟩ := hi
        rw [hcx.inv_int, hcy.inv_int]
        exact int_sound h
      · by_cases hs : (∃ s, c = .str s) ∧ (∃ s, d = .str s)
        · obtain ⟨⟨s, rfl⟩, ⟨s', rfl⟩⟩ := hs
          rw [hcx.inv_str, hcy.inv_str]
          exact str_sound h
        · by_cases hsl : (∃ b e r, c = .sl b e r) ∧ d = .nils
          · obtain ⟨⟨b, e, r, rfl⟩, rfl⟩ := hsl
            exact slnil_sound G hcx hcy h
          rw [hgen (by
            by_cases e : ∃ k n, c = .int k n
            · exact .inr fun k n e2 => hi ⟨e, k, n, e2⟩
            · exact .inl fun k n e2 => e ⟨k, n, e2⟩) (by
            by_cases e : ∃ s, c = .str s
            · exact .inr fun s e2 => hs ⟨e, s, e2⟩
            · exact .inl fun s e2 => e ⟨s, e2⟩) (by
            by_cases e : ∃ b e r, c = .sl b e r
            · exact .inr fun e2 => hsl ⟨e, e2⟩
            · exact .inl fun b e1 r e2 => e ⟨b, e1, r, e2⟩)] at h
          exact gen_sound G hcx hcy h

end Go.Abs
