/-
  What the abstract interpreter's states say of a world of the model: the relation between them, and how it is carried from a world to a later one.
-/
import Derived.Test.YtpafnokcmhlbgaaA1
import Derived.ChangeFn
import Derived.Laws.Cells
import Derived.RowKit3
namespace Go.Abs

abbrev Places := Nat → Nat → Prop

def inT (T : Places) : MemPlace → Prop
  | .cell b o => T b o
  | _ => False

abbrev cell (w : World) (B off : Nat) : Option Value := w.cell? ⟨B, off, none⟩
abbrev cold (w : World) (B off : Nat) : Bool := w.frozen? ⟨B, off, none⟩

theorem cell_lt {w : World} {B off : Nat} {v : Value} (h : cell w B off = some v) : B < w.heap.size := World.block_lt_of_cell? w ⟨B, off, none⟩ h

/-- What is by value: a cell's value is the abstract one's; a slice's elements lie where no one writes (F: where somebody may). -/
inductive CR (E : Env) (w : World) (F : Places) : Cell → Value → Prop
  | int (k : IntKind) (n : Int) : CR E w F (.int k n) (.int k n)
  | bool (b : Bool) : CR E w F (.bool b) (.bool b)
  | str (s : List UInt8) : CR E w F (.str s) (.string ⟨s.toArray⟩)
  | empty (e : TypeId) (a : Option Addr) (cap : Nat) : CR E w F (.slice e []) (.slice a 0 cap)
  | slice (e : TypeId) (rows : Rows) (te : Ty) (B off cap : Nat) (g : Nat → Value) (he : E.tys e = some te) (hk : ∀ r ∈ rows, r.map Cell.kind = te.kinds) (hc : rows.length ≤ cap)
      (hm : ∀ i, i < rows.flatten.length → cell w B (off + i) = some (g i) ∧ ¬ F B (off + i))
      (hr : ∀ (i : Nat) (h : i < rows.flatten.length), CR E w F rows.flatten[i] (g i)) : CR E w F (.slice e rows) (.slice (some ⟨B, off, none⟩) rows.length cap)

/-- What was there and not to be written is there still, and not to be written. -/
structure Keeps (w : World) (F : Places) (w' : World) (F' : Places) : Prop where
  chill : ∀ B i v j, cell w B i = some v → cold w' B j = cold w B j
  old : ∀ B off v, cell w B off = some v → ¬ F B off → cell w' B off = some v ∧ ¬ F' B off
  still : ∀ B j, ((∃ v, cell w B j = some v) ∧ cold w B j = false) → ((∃ v, cell w' B j = some v) ∧ cold w' B j = false)

theorem CR.keep {E : Env} {w w' : World} {F F' : Places} {c : Cell} {v : Value} (h : CR E w F c v) (hk : Keeps w F w' F') : CR E w' F' c v := by
  induction h with
  | int k n => exact .int k n
  | bool b => exact .bool b
  | str s => exact .str s
  | empty e a cap => exact .empty e a cap
  | slice e rows te B off cap g he hk' hc hm hr ih => exact .slice e rows te B off cap g he hk' hc (fun i hi => hk.old _ _ _ (hm i hi).1 (hm i hi).2) (fun i hi => ih i hi)

/-- An abstract cell, a value, and the place from which on the value owns its block. -/
inductive AR (E : Env) (w : World) (F : Places) (ρ : List Nat) : AC → Value → Option (Nat × Nat) → Prop
  | int (k : IntKind) (n : Int) : AR E w F ρ (.int k n) (.int k n) none
  | bool (b : Bool) : AR E w F ρ (.bool b) (.bool b) none
  | str (s : List UInt8) : AR E w F ρ (.str s) (.string ⟨s.toArray⟩) none
  | sl (e : TypeId) (rows : Rows) (v : Value) (h : CR E w F (.slice e rows) v) : AR E w F ρ (.sl false e rows) v none
  | full (e : TypeId) (rows : Rows) (a : Option Addr) (n : Nat) (h : CR E w F (.slice e rows) (.slice a n n)) : AR E w F ρ (.sl true e rows) (.slice a n n) none
  | own (e : TypeId) (rows : Rows) (te : Ty) (B off len cap : Nat) (h : CR E w F (.slice e rows) (.slice (some ⟨B, off, none⟩) len cap)) (he : E.tys e = some te) (hl : len < cap)
      (hs : ∀ j, off + len * te.size ≤ j → j < off + cap * te.size → (∃ v, cell w B j = some v) ∧ cold w B j = false) :
      AR E w F ρ (.sl true e rows) (.slice (some ⟨B, off, none⟩) len cap) (some (B, off + len * te.size))
  | nils : AR E w F ρ .nils (.slice none 0 0) none
  | ptr (b o B : Nat) (h : nth ρ b = some B) : AR E w F ρ (.ptr b o) (.pointer (some ⟨B, o, none⟩)) none
  | eptr (e : TypeId) (row : Row) (o : Nat) (te : Ty) (B off : Nat) (g : Nat → Value) (he : E.tys e = some te) (hk : row.map Cell.kind = te.kinds)
      (hm : ∀ i, i < row.length → cell w B (off + i) = some (g i) ∧ ¬ F B (off + i)) (hr : ∀ (i : Nat) (h : i < row.length), CR E w F row[i] (g i)) :
      AR E w F ρ (.eptr e row o) (.pointer (some ⟨B, off + o, none⟩)) none
  | nilp : AR E w F ρ .nilp (.pointer none) none
  | fn (f : FuncId) (caps : List AC) (g : Nat → Value) (hr : ∀ (i : Nat) (h : i < caps.length), AR E w F ρ caps[i] (g i) none) :
      AR E w F ρ (.fn f caps) (.func (.func f) #[] ((List.range caps.length).map g).toArray) none
  | nilf : AR E w F ρ .nilf .nilFunc none
  | refs (l : List AC) (B off cap : Nat) (g : Nat → Value) (hc : l.length ≤ cap) (hm : ∀ i, i < l.length → cell w B (off + i) = some (g i) ∧ ¬ F B (off + i))
      (hr : ∀ (i : Nat) (h : i < l.length), AR E w F ρ l[i] (g i) none) : AR E w F ρ (.refs l) (.slice (some ⟨B, off, none⟩) l.length cap) none
  | aptr (a : AC) (B off : Nat) (v : Value) (hm : cell w B off = some v ∧ ¬ F B off) (h : AR E w F ρ a v none) : AR E w F ρ (.aptr a) (.pointer (some ⟨B, off, none⟩)) none
  | msl (e : TypeId) (b n : Nat) (te : Ty) (B cap : Nat) (hB : nth ρ b = some B) (he : E.tys e = some te) (h0 : 0 < n) (hn : n ≤ cap) (hm : cap ≤ 9223372036854775807)
      (hs : ∀ j, j < cap * te.size → (∃ v, cell w B j = some v) ∧ cold w B j = false) : AR E w F ρ (.msl e b n) (.slice (some ⟨B, 0, none⟩) n cap) none
  | mnil (e : TypeId) (b : Nat) (v : Option Addr) : AR E w F ρ (.msl e b 0) (.slice v 0 0) none
  | mptr (b : Nat) (e : TypeId) (i o : Nat) (te : Ty) (B : Nat) (hB : nth ρ b = some B) (he : E.tys e = some te) : AR E w F ρ (.mptr b e i o) (.pointer (some ⟨B, i * te.size + o, none⟩)) none
  | win (e : TypeId) (b lo n : Nat) (c : Option Nat) (te : Ty) (B off cap : Nat) (hB : nth ρ b = some B) (he : E.tys e = some te) (hn : n ≤ cap) (hc : ∀ k, c = some k → cap = k) (ho : 0 < cap → off = lo * te.size)
      (hs : ∀ j, lo * te.size ≤ j → j < (lo + cap) * te.size → (∃ v, cell w B j = some v) ∧ cold w B j = false) : AR E w F ρ (.win e b lo n c) (.slice (some ⟨B, off, none⟩) n cap) none
  | parr (e : TypeId) (b n : Nat) (te : Ty) (B : Nat) (hB : nth ρ b = some B) (he : E.tys e = some te)
      (hs : ∀ j, j < n * te.size → (∃ v, cell w B j = some v) ∧ cold w B j = false) : AR E w F ρ (.parr e b n) (.pointer (some ⟨B, 0, none⟩)) none

abbrev Owner := Option (Nat × Nat)

theorem AR.keep {E : Env} {w w' : World} {F F' : Places} {ρ ρ' : List Nat} {a : AC} {v : Value} {o : Owner} (h : AR E w F ρ a v o) (hk : Keeps w F w' F') (hρ : ∀ b B, nth ρ b = some B → nth ρ' b = some B)
    (ho : ∀ B t, o = some (B, t) → ∀ j, t ≤ j → (∃ v, cell w B j = some v) ∧ cold w B j = false → (∃ v, cell w' B j = some v) ∧ cold w' B j = false) : AR E w' F' ρ' a v o := by
  induction h with
  | int k n => exact .int k n
  | bool b => exact .bool b
  | str s => exact .str s
  | sl e rows v h => exact .sl e rows v (h.keep hk)
  | full e rows a n h => exact .full e rows a n (h.keep hk)
  | own e rows te B off len cap h he hl hs => exact .own e rows te B off len cap (h.keep hk) he hl fun j h1 h2 => ho _ _ rfl j h1 (hs j h1 h2)
  | nils => exact .nils
  | ptr b o B h => exact .ptr b o B (hρ _ _ h)
  | eptr e row o te B off g he hk' hm hr => exact .eptr e row o te B off g he hk' (fun i hi => hk.old _ _ _ (hm i hi).1 (hm i hi).2) (fun i hi => (hr i hi).keep hk)
  | nilp => exact .nilp
  | fn f caps g hr ih => exact .fn f caps g fun i hi => ih i hi (by simp)
  | nilf => exact .nilf
  | refs l B off cap g hc hm hr ih => exact .refs l B off cap g hc (fun i hi => hk.old _ _ _ (hm i hi).1 (hm i hi).2) fun i hi => ih i hi (by simp)
  | aptr a B off v hm h ih => exact .aptr a B off v (hk.old _ _ _ hm.1 hm.2) (ih (by simp))
  | msl e b n te B cap hB he h0 hn hm hs => exact .msl e b n te B cap (hρ _ _ hB) he h0 hn hm fun j hj => hk.still _ _ (hs j hj)
  | mnil e b v => exact .mnil e b v
  | mptr b e i o te B hB he => exact .mptr b e i o te B (hρ _ _ hB) he
  | win e b lo n c te B off cap hB he hn hc hoff hs => exact .win e b lo n c te B off cap (hρ _ _ hB) he hn hc hoff fun j h1 h2 => hk.still _ _ (hs j h1 h2)
  | parr e b n te B hB he hs => exact .parr e b n te B (hρ _ _ hB) he fun j h1 => hk.still _ _ (hs j h1)

theorem AR.dis {E : Env} {w : World} {F : Places} {ρ : List Nat} {a : AC} {v : Value} {o : Owner} (h : AR E w F ρ a v o) : AR E w F ρ a.dis v none := by
  cases h with
  | full e rows a n h => exact .sl e rows _ h
  | own e rows te B off len cap h => exact .sl e rows _ h
  | sl e rows v h => exact .sl e rows v h
  | int k n => exact .int k n
  | bool b => exact .bool b
  | str s => exact .str s
  | nils => exact .nils
  | ptr b o B h => exact .ptr b o B h
  | eptr e row o te B off g he hk' hm hr => exact .eptr e row o te B off g he hk' hm hr
  | nilp => exact .nilp
  | fn f caps g hr => exact .fn f caps g hr
  | nilf => exact .nilf
  | refs l B off cap g hc hm hr => exact .refs l B off cap g hc hm hr
  | aptr a B off v hm h => exact .aptr a B off v hm h
  | msl e b n te B cap hB he h0 hn hm hs => exact .msl e b n te B cap hB he h0 hn hm hs
  | mnil e b v => exact .mnil e b v
  | mptr b e i o te B hB he => exact .mptr b e i o te B hB he
  | win e b lo n c te B off cap hB he hn hc hoff hs => exact .win e b lo n c te B off cap hB he hn hc hoff hs
  | parr e b n te B hB he hs => exact .parr e b n te B hB he hs

abbrev Owners := List Nat → Owner

inductive AVR (E : Env) (w : World) (F : Places) (ρ : List Nat) : AV → Value → Owners → Prop
  | undef (v : Value) (o : Owners) (ho : ∀ p, o p = none) : AVR E w F ρ .undef v o
  | one (a : AC) (v : Value) (o : Owners) (h : AR E w F ρ a v (o [])) (ho : ∀ p, p ≠ [] → o p = none) : AVR E w F ρ (.one a) v o
  | agg (l : List AC) (g : Nat → Value) (o : Owners) (h : ∀ (i : Nat) (hi : i < l.length), AR E w F ρ l[i] (g i) (o [i])) (ho : ∀ p, (∀ i, i < l.length → p ≠ [i]) → o p = none) :
      AVR E w F ρ (.agg l) (.agg ((List.range l.length).map g).toArray) o
  | tup (l : List AV) (g : Nat → Value) (o : Owners) (h : ∀ (i : Nat) (hi : i < l.length), AVR E w F ρ l[i] (g i) (fun p => o (i :: p))) (ho : o [] = none ∧ ∀ i p, l.length ≤ i → o (i :: p) = none) :
      AVR E w F ρ (.tup l) (.tuple ((List.range l.length).map g).toArray) o

theorem AVR.keep {E : Env} {w w' : World} {F F' : Places} {ρ ρ' : List Nat} {a : AV} {v : Value} {o : Owners} (h : AVR E w F ρ a v o) (hk : Keeps w F w' F') (hρ : ∀ b B, nth ρ b = some B → nth ρ' b = some B)
    (ho : ∀ p B t, o p = some (B, t) → ∀ j, t ≤ j → (∃ v, cell w B j = some v) ∧ cold w B j = false → (∃ v, cell w' B j = some v) ∧ cold w' B j = false) : AVR E w' F' ρ' a v o := by
  induction h with
  | undef v o h0 => exact .undef v o h0
  | one a v o h h2 => exact .one a v o (h.keep hk hρ fun B t e => ho _ B t e) h2
  | agg l g o h h2 => exact .agg l g o (fun i hi => (h i hi).keep hk hρ fun B t e => ho _ B t e) h2
  | tup l g o h h2 ih => exact .tup l g o (fun i hi => ih i hi fun p B t e => ho _ B t e) h2

theorem disL_eq (l : List AC) : disL l = l.map AC.dis := by induction l <;> simp_all [disL]
theorem disgo_eq (l : List AV) : AV.dis.go l = l.map AV.dis := by induction l <;> simp_all [AV.dis.go]

theorem AVR.dis {E : Env} {w : World} {F : Places} {ρ : List Nat} {a : AV} {v : Value} {o : Owners} (h : AVR E w F ρ a v o) : AVR E w F ρ a.dis v (fun _ => none) := by
  induction h with
  | undef v o ho => exact .undef v _ fun _ => rfl
  | one a v o h h2 => exact .one a.dis v _ h.dis fun _ _ => rfl
  | agg l g o h h2 =>
    simp only [AV.dis]
    have hl : (disL l).length = l.length := by simp [disL_eq]
    have := AVR.agg (E := E) (w := w) (F := F) (ρ := ρ) (disL l) g (fun _ => none) (fun i hi => by
      simp only [disL_eq, List.getElem_map]; exact (h i (by omega)).dis) (fun _ _ => rfl)
    rwa [hl] at this
  | tup l g o h h2 ih =>
    simp only [AV.dis]
    have hl : (AV.dis.go l).length = l.length := by simp [disgo_eq]
    have := AVR.tup (E := E) (w := w) (F := F) (ρ := ρ) (AV.dis.go l) g (fun _ => none) (fun i hi => by
      simp only [disgo_eq, List.getElem_map]; exact ih i (by omega)) ⟨rfl, fun _ _ _ => rfl⟩
    rwa [hl] at this

/- THE FRAME's WORDS -/

theorem nth_eq {α : Type} (l : List α) (n : Nat) : nth l n = l[n]? := by
  induction l generalizing n with
  | nil => simp [nth]
  | cons x r ih => cases n <;> simp [nth, ih]

theorem setN_eq {α : Type} (l : List α) (n : Nat) (y : α) : setN l n y = l.set n y := by
  induction l generalizing n with
  | nil => simp [setN]
  | cons x r ih => cases n <;> simp [setN, ih]

theorem lenN_eq {α : Type} (l : List α) : lenN l = l.length := by induction l <;> simp_all [lenN]
theorem app_eq {α : Type} (l r : List α) : app l r = l ++ r := by induction l <;> simp_all [app]
theorem takeN_eq {α : Type} (l : List α) (n : Nat) : takeN l n = l.take n := by
  induction l generalizing n with
  | nil => cases n <;> simp [takeN]
  | cons x r ih => cases n <;> simp [takeN, ih]
theorem dropN_eq {α : Type} (l : List α) (n : Nat) : dropN l n = l.drop n := by
  induction l generalizing n with
  | nil => cases n <;> simp [dropN]
  | cons x r ih => cases n <;> simp [dropN, ih]

theorem nbeq_ne {a b : Nat} (h : a ≠ b) : Nat.beq a b = false := by
  cases e : Nat.beq a b with
  | false => rfl
  | true => exact absurd (Nat.eq_of_beq_eq_true e) h
theorem nbeq_self (a : Nat) : Nat.beq a a = true := Nat.beq_refl a

theorem get_del_same (fr : List (Nat × AV)) (t : Nat) : get (del fr t) t = .undef := by
  induction fr with
  | nil => rfl
  | cons x r ih =>
    obtain ⟨u, v⟩ := x
    by_cases h : u = t
    · subst h; simp only [del, nbeq_self, cond_true, ih]
    · simp only [del, nbeq_ne h, cond_false, get, ih]

theorem get_del_ne (fr : List (Nat × AV)) {t s : Nat} (h : s ≠ t) : get (del fr t) s = get fr s := by
  induction fr with
  | nil => rfl
  | cons x r ih =>
    obtain ⟨u, v⟩ := x
    by_cases h1 : u = t
    · subst h1; simp only [del, nbeq_self, cond_true, get, ih, nbeq_ne (Ne.symm h), cond_false]
    · simp only [del, nbeq_ne h1, cond_false, get, ih]

theorem get_set_same (fr : List (Nat × AV)) (t : Nat) (v : AV) : get (set fr t v) t = v := by simp only [set, get, nbeq_self, cond_true]
theorem get_set_ne (fr : List (Nat × AV)) {t s : Nat} (v : AV) (h : s ≠ t) : get (set fr t v) s = get fr s := by simp only [set, get, nbeq_ne (Ne.symm h), cond_false, get_del_ne _ h]

theorem get_put (fr : List (Nat × AV)) (d : Option Nat) (v : AV) (t : Nat) : get (put fr d v) t = if d = some t then v else get fr t := by
  cases d with
  | none => simp [put]
  | some d =>
    by_cases h : d = t
    · subst h; simp [put, get_set_same]
    · simp [put, h, get_set_ne _ _ (Ne.symm h)]

theorem get_disT (fr : List (Nat × AV)) (d : Option Nat) (t : Nat) : get (disT fr d) t = if d = some t then (get fr t).dis else get fr t := by
  cases d with
  | none => simp [disT]
  | some d =>
    by_cases h : d = t
    · subst h; simp [disT, get_set_same]
    · simp [disT, h, get_set_ne _ _ (Ne.symm h)]

theorem memN_eq (l : List Nat) (t : Nat) : memN l t = true ↔ t ∈ l := by
  induction l with
  | nil => simp [memN]
  | cons x r ih =>
    by_cases h : x = t
    · simp [memN, h]
    · simp [memN, h, ih, Ne.symm h]

/- THE RELATION -/

inductive OI where
  | tmp (t : Nat) (p : List Nat)
  | self (k : Nat)
  | cell (k j : Nat)

def Fn (own : OI → Owner) (R : Places) : Places := fun B off => R B off ∨ ∃ x t, own x = some (B, t) ∧ t ≤ off

/-- the elements of an array that is written no more -/
def FroR (E : Env) (w : World) (F : Places) (ρ : List Nat) (k : Nat) (e : TypeId) (rows : Rows) : Prop :=
  rows = [] ∨ ∃ (B : Nat) (te : Ty) (g : Nat → Value), nth ρ k = some B ∧ E.tys e = some te ∧ (∀ r ∈ rows, r.map Cell.kind = te.kinds) ∧ ∀ (i : Nat) (h : i < rows.flatten.length), (cell w B i = some (g i) ∧ ¬ F B i) ∧ CR E w F rows.flatten[i] (g i)

theorem FroR.keep {E : Env} {w w' : World} {F F' : Places} {ρ ρ' : List Nat} {k k' : Nat} {e : TypeId} {rows : Rows} (h : FroR E w F ρ k e rows) (hK : Keeps w F w' F') (hρ : ∀ B, nth ρ k = some B → nth ρ' k' = some B) : FroR E w' F' ρ' k' e rows := by
  rcases h with h | ⟨B, te, g, h1, h2, h3, h4⟩
  · exact .inl h
  · exact .inr ⟨B, te, g, hρ _ h1, h2, h3, fun i hi => ⟨hK.old _ _ _ (h4 i hi).1.1 (h4 i hi).1.2, (h4 i hi).2.keep hK⟩⟩

def BlkR (E : Env) (w : World) (F : Places) (ρ : List Nat) (own : OI → Owner) (k : Nat) : Option Block → Prop
  | some (.var cells) => ∃ B, nth ρ k = some B ∧ own (.self k) = some (B, 0) ∧ (∀ j, cells.length ≤ j → own (.cell k j) = none) ∧
      ∀ (j : Nat) (h : j < cells.length), ∃ v, cell w B j = some v ∧ cold w B j = false ∧ AR E w F ρ cells[j] v (own (.cell k j))
  | some (.arr e rows) => (rows = [] ∧ own (.self k) = none ∧ ∀ j, own (.cell k j) = none) ∨
      ∃ B te, nth ρ k = some B ∧ own (.self k) = some (B, 0) ∧ (∀ j, own (.cell k j) = none) ∧ E.tys e = some te ∧ (∀ r ∈ rows, r.map Cell.kind = te.kinds) ∧ ((∃ v, cell w B 0 = some v) ∧ cold w B 0 = false) ∧
        ∀ (i : Nat) (h : i < rows.flatten.length), ∃ v, cell w B i = some v ∧ cold w B i = false ∧ CR E w F rows.flatten[i] v
  | some (.fro e rows) => own (.self k) = none ∧ (∀ j, own (.cell k j) = none) ∧ FroR E w F ρ k e rows
  | _ => own (.self k) = none ∧ ∀ j, own (.cell k j) = none

structure Rel (E : Env) (R : Places) (ρ : List Nat) (own : OI → Owner) (N : Nat) (st : St) (a : Act) (w : World) : Prop where
  size : a.tmps.size = N
  defers : a.defers = []
  fr : ∀ t, AVR E w (Fn own R) ρ (get st.fr t) (a.tmps.getD t undef) (fun p => own (.tmp t p))
  rho : ρ.length = st.blk.length
  blk : ∀ k, BlkR E w (Fn own R) ρ own k (nth st.blk k)
  inj : ∀ x y B t t', own x = some (B, t) → own y = some (B, t') → x = y
  out : ∀ x B t, own x = some (B, t) → B < w.heap.size ∧ ∀ off, ¬ R B off
  low : ∀ B off, R B off → B < w.heap.size

/-- what a step leaves as it was -/
structure Grow (own own' : OI → Owner) (w w' : World) : Prop where
  kept : w.keptBut w' (inT fun B off => ∃ x t, own x = some (B, t) ∧ t ≤ off)
  news : ∀ x B t', own' x = some (B, t') → w.heap.size ≤ B ∨ ∃ y t, own y = some (B, t) ∧ t ≤ t'

theorem Grow.size {own own' : OI → Owner} {w w' : World} (h : Grow own own' w w') : w.heap.size ≤ w'.heap.size := h.kept.size

theorem inT_mono {T T' : Places} (h : ∀ B off, T B off → T' B off) : ∀ p, inT T p → inT T' p := by
  intro p hp
  cases p with
  | cell b o => exact h _ _ hp
  | map b => exact hp.elim

theorem Grow.refl (own own' : OI → Owner) (w : World) (h : ∀ x B t', own' x = some (B, t') → ∃ y t, own y = some (B, t) ∧ t ≤ t') : Grow own own' w w :=
  ⟨World.keptBut_refl _ _, fun x B t' hx => .inr (h x B t' hx)⟩

theorem kept_low {w w' : World} {T T' : Places} (h : w.keptBut w' (inT T)) (hT : ∀ B off, B < w.heap.size → T B off → T' B off) : w.keptBut w' (inT T') := by
  obtain ⟨h1, h2, h3⟩ := h
  refine ⟨h1, h2, fun i hi => ?_⟩
  have := h3 i hi
  split at this
  · rename_i c t f c' t' f' e1 e2
    obtain ⟨g1, g2, g3, g4⟩ := this
    exact ⟨g1, g2, g3, fun j hj => g4 j fun hm => hj (hT i j hi hm)⟩
  · rename_i es cl es' cl' e1 e2
    exact .inr (this.resolve_left id)
  · exact this

theorem Grow.trans {o1 o2 o3 : OI → Owner} {w1 w2 w3 : World} (h : Grow o1 o2 w1 w2) (k : Grow o2 o3 w2 w3) : Grow o1 o3 w1 w3 := by
  refine ⟨?_, fun x B t' hx => ?_⟩
  · have h1 : w1.keptBut w2 (inT fun B off => (∃ x t, o1 x = some (B, t) ∧ t ≤ off) ∨ w1.heap.size ≤ B) := World.keptBut_mono (inT_mono fun B off hm => .inl hm) h.kept
    have h2 : w2.keptBut w3 (inT fun B off => (∃ x t, o1 x = some (B, t) ∧ t ≤ off) ∨ w1.heap.size ≤ B) := World.keptBut_mono (inT_mono fun B off hm => by
      obtain ⟨x, t, hx, ht⟩ := hm
      rcases h.news x B t hx with hn | ⟨y, t1, hy, hl⟩
      · exact .inr hn
      · exact .inl ⟨y, t1, hy, by omega⟩) k.kept
    exact kept_low (World.keptBut_trans h1 h2) fun B off hB hm => hm.resolve_right (by omega)
  · rcases k.news x B t' hx with hn | ⟨y, t, hy, hl⟩
    · exact .inl (Nat.le_trans h.size hn)
    · rcases h.news y B t hy with hn | ⟨z, t2, hz, hl2⟩
      · exact .inl hn
      · exact .inr ⟨z, t2, hz, by omega⟩

/-- a cell that was there is there still, and no colder than it was -/
theorem kept_there {w w' : World} {T : Places} (h : w.keptBut w' (inT T)) {B j : Nat} (hc : (∃ v, cell w B j = some v) ∧ cold w B j = false) : (∃ v, cell w' B j = some v) ∧ cold w' B j = false := by
  obtain ⟨⟨v, hv⟩, hf⟩ := hc
  have hl := cell_lt hv
  have := h.2.2 B hl
  simp only [cell, cold, World.cell?, World.frozen?] at *
  cases e1 : w.heap[B]? with
  | none => simp [e1] at hv
  | some x =>
    rw [e1] at hv hf this
    cases x <;> simp at hv
    rename_i c t f
    cases e2 : w'.heap[B]? with
    | none => rw [e2] at this; simp at this
    | some y =>
      rw [e2] at this
      cases y <;> simp at this
      rename_i c' t' f'
      obtain ⟨rfl, rfl, hs, _⟩ := this
      have hj : j < c.size := by
        rcases Nat.lt_or_ge j c.size with h | h
        · exact h
        · simp [Array.getElem?_eq_none h] at hv
      refine ⟨?_, by simpa using hf⟩
      simp only [Option.isSome_none, Bool.false_eq_true, if_false]
      exact ⟨c'[j]'(by omega), by simp [show j < c'.size by omega]⟩

/-- a block that has a cell is as cold as it was -/
theorem kept_cold {w w' : World} {T : Places} (h : w.keptBut w' (inT T)) {B i : Nat} {v : Value} (hv : cell w B i = some v) (j : Nat) : cold w' B j = cold w B j := by
  have hl := cell_lt hv
  have := h.2.2 B hl
  simp only [cell, cold, World.cell?, World.frozen?] at *
  cases e1 : w.heap[B]? with
  | none => simp [e1] at hv
  | some x =>
    rw [e1] at hv this
    cases x <;> simp at hv
    rename_i c t f
    cases e2 : w'.heap[B]? with
    | none => rw [e2] at this; simp at this
    | some y =>
      rw [e2] at this
      cases y <;> simp at this
      obtain ⟨rfl, rfl, hs, _⟩ := this
      rfl

theorem keeps_of {own own' : OI → Owner} {R : Places} {w w' : World} (h : Grow own own' w w') : Keeps w (Fn own R) w' (Fn own' R) := by
  refine ⟨fun B i v j hv => kept_cold h.kept hv j, fun B off v hc hF => ?_, fun B j hh => kept_there h.kept hh⟩
  have hl := cell_lt hc
  refine ⟨?_, ?_⟩
  · have := h.kept.cell (b := B) (off := off) hl (fun hm => hF (.inr hm))
    rw [cell, this]; exact hc
  · rintro (hR | ⟨x, t, hx, ht⟩)
    · exact hF (.inl hR)
    · rcases h.news x B t hx with hn | ⟨y, t1, hy, hle⟩
      · omega
      · exact hF (.inr ⟨y, t1, hy, by omega⟩)

end Go.Abs
