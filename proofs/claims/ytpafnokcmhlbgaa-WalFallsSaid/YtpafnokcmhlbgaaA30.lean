/-
  Tools for a law's own text: the table of functions, the shape of arguments.
-/
import Derived.Test.YtpafnokcmhlbgaaA29
namespace Go.Abs

variable {E : Env} {P : Program}

def FnOk (P : Program) (E : Env) (f : Nat) : FnDef → Prop
  | .code fn => CodeOk P f fn
  | .prim g => PrimOk P E f g

def AllFn (P : Program) (E : Env) : List (Nat × (Sig × FnDef)) → Prop
  | [] => True
  | x :: r => FnOk P E x.1 x.2.2 ∧ AllFn P E r

theorem allFn_mem : ∀ {l : List (Nat × (Sig × FnDef))}, AllFn P E l → ∀ x ∈ l, FnOk P E x.1 x.2.2
  | [], _, _, h => by cases h
  | y :: r, h, x, hx => by
    rcases List.mem_cons.1 hx with rfl | hx
    · exact h.1
    · exact allFn_mem h.2 x hx

theorem funcsOk_of {l : List (Nat × (Sig × FnDef))} (hE : E.funcs = lookT l) (h : AllFn P E l) : FuncsOk P E := by
  refine ⟨fun f sg fn hf => ?_, fun f sg g hf => ?_⟩ <;> rw [hE] at hf <;> exact allFn_mem h _ (lookT_mem hf)

theorem row_cons {r : Row} {k : CK} {ks : List CK} (h : r.map Cell.kind = k :: ks) : ∃ c r', r = c :: r' ∧ c.kind = k ∧ r'.map Cell.kind = ks := by
  cases r with
  | nil => cases h
  | cons c r' =>
    rw [List.map_cons, List.cons.injEq] at h
    exact ⟨c, r', rfl, h.1, h.2⟩

theorem row_nil {r : Row} (h : r.map Cell.kind = []) : r = [] := List.map_eq_nil_iff.1 h

theorem kind_int {c : Cell} {k : IntKind} (h : c.kind = .int k) : ∃ n, c = .int k n := by
  cases c <;> cases h
  exact ⟨_, rfl⟩
theorem kind_bool {c : Cell} (h : c.kind = .bool) : ∃ b, c = .bool b := by
  cases c <;> cases h
  exact ⟨_, rfl⟩
theorem kind_str {c : Cell} (h : c.kind = .str) : ∃ s, c = .str s := by
  cases c <;> cases h
  exact ⟨_, rfl⟩
theorem kind_slice {c : Cell} {e : TypeId} (h : c.kind = .slice e) : ∃ r, c = .slice e r := by
  cases c <;> cases h
  exact ⟨_, rfl⟩

theorem argsOk_nil {rows : List Row} (h : ArgsOk E [] rows) : rows = [] := by
  cases rows with
  | nil => rfl
  | cons _ _ => exact h.elim

theorem argsOk_cons {t : TypeId} {ts : List TypeId} {rows : List Row} {ks : List CK} (h : ArgsOk E (t :: ts) rows) (hk : (E.tys t).map Ty.kinds = some ks) : ∃ r rs, rows = r :: rs ∧ r.map Cell.kind = ks ∧ (∀ c ∈ r, Cell.Wf E c) ∧ ArgsOk E ts rs := by
  cases rows with
  | nil => exact h.elim
  | cons r rs =>
    obtain ⟨⟨ty, h1, h2, h3⟩, h4⟩ := h
    rw [h1] at hk
    exact ⟨r, rs, rfl, h2.trans (Option.some.inj hk), h3, h4⟩

theorem wf_int {k : IntKind} {n : Int} (h : Cell.Wf E (.int k n)) : k.min ≤ n ∧ n ≤ k.max := by
  cases h with
  | int _ _ h => simpa [Lit.wf] using h

theorem wf_i64 {n : Int} (h : Cell.Wf E (.int .i64 n)) : -9223372036854775808 ≤ n ∧ n ≤ 9223372036854775807 := by
  have := wf_int h
  simpa [IntKind.min, IntKind.max, IntKind.signed, IntKind.bits] using this

theorem wf_u64 {n : Int} (h : Cell.Wf E (.int .u64 n)) : 0 ≤ n ∧ n ≤ 18446744073709551615 := by
  have := wf_int h
  simpa [IntKind.min, IntKind.max, IntKind.signed, IntKind.bits] using this

theorem wf_u16 {n : Int} (h : Cell.Wf E (.int .u16 n)) : 0 ≤ n ∧ n ≤ 65535 := by
  have := wf_int h
  simpa [IntKind.min, IntKind.max, IntKind.signed, IntKind.bits] using this

theorem wf_u8 {n : Int} (h : Cell.Wf E (.int .u8 n)) : 0 ≤ n ∧ n ≤ 255 := by
  have := wf_int h
  simpa [IntKind.min, IntKind.max, IntKind.signed, IntKind.bits] using this

theorem wf_slice {e : TypeId} {rows : Rows} {ks : List CK} (h : Cell.Wf E (.slice e rows)) (hk : (E.tys e).map Ty.kinds = some ks) : (∀ r ∈ rows, r.map Cell.kind = ks) ∧ rows.length ≤ maxLen ∧ ∀ r ∈ rows, ∀ c ∈ r, Cell.Wf E c := by
  cases h with
  | slice _ _ te he h1 h2 h3 =>
    rw [he] at hk
    exact ⟨fun r hr => (h1 r hr).trans (Option.some.inj hk), h2, h3⟩

theorem wf_str {s : List UInt8} (h : Cell.Wf E (.str s)) : s.length ≤ maxLen := by
  cases h with
  | str _ h => exact h

/-- a list is no longer than its bulk -/
theorem len_bulk {k : CK} {ks : List CK} : ∀ {rows : Rows}, (∀ r ∈ rows, r.map Cell.kind = k :: ks) → rows.length ≤ bulkRs rows
  | [], _ => by simp
  | r :: rows, h => by
    have ih := len_bulk (rows := rows) fun q hq => h q (List.mem_cons_of_mem _ hq)
    obtain ⟨c, r', rfl, _, _⟩ := row_cons (h r List.mem_cons_self)
    have : 1 ≤ bulkC c := by cases c <;> simp [bulkC]
    simp only [List.length_cons, bulkRs, bulkR]
    omega

theorem argsOk_wf {t : TypeId} {ts : List TypeId} {r : Row} {rs : List Row} (h : ArgsOk E (t :: ts) (r :: rs)) : (∀ c ∈ r, Cell.Wf E c) ∧ ArgsOk E ts rs := by
  obtain ⟨⟨ty, h1, h2, h3⟩, h4⟩ := h
  exact ⟨h3, h4⟩

end Go.Abs
