/-
  Tools for the contracts that are proved by a walk: what they hand back, what lies behind a slice whose elements may be written.
-/
import Derived.Test.YtkfniijfenkocaaA30
namespace Go.Abs

variable {E : Env} {P : Program} {R : Places} {ρ : List Nat} {own : OI → Owner} {N : Nat} {st : St} {a : Act} {w : World} {F : Places}

theorem Returned.of_after {st' : St} {a' : Act} {w' : World} (h : After E R ρ own N w st' a' w') {v : AV} {val : Value} (hv : get st'.fr 0 = v) (ha : a'.tmps.getD 0 undef = val) : Returned E R ρ own w [v] st'.blk (.returned val) w' := by
  obtain ⟨ρ', own', hext, hrel, hg⟩ := h
  have hsub : ∀ x, (fun | .tmp t p => if t = 0 then own' (.tmp 0 p) else none | x => own' x : OI → Owner) x = own' x ∨ (fun | .tmp t p => if t = 0 then own' (.tmp 0 p) else none | x => own' x : OI → Owner) x = none := by
    intro x
    cases x with
    | tmp t p =>
      by_cases e : t = 0
      · subst e; exact .inl (by simp)
      · exact .inr (by simp [e])
    | self k => exact .inl rfl
    | cell k j => exact .inl rfl
  have hs := hrel.sub (own' := fun | .tmp t p => if t = 0 then own' (.tmp 0 p) else none | x => own' x) (st' := ⟨zipFr [v] 0, st'.blk⟩) hsub (fun t => by
    by_cases e : t = 0
    · subst e
      have h0 := hrel.fr 0
      rw [hv] at h0
      simpa [zipFr, get, nbeq_self] using h0
    · have : get (zipFr [v] 0) t = .undef := by
        simp only [zipFr, get, nbeq_ne (Ne.symm e), cond_false]
      dsimp only
      rw [this]
      exact .undef _ _ fun p => by simp [e]) rfl (fun k => by
        have hk := hrel.blk k
        cases hb : nth st'.blk k with
        | none => rw [hb] at hk; exact hk
        | some bl =>
          rw [hb] at hk
          cases bl with
          | dead => exact hk
          | var cells => exact hk
          | arr e rows => exact hk)
  refine ⟨[val], ρ', _, rfl, rfl, hext, ⟨rfl, rfl, fun t => ?_, hs.rho, hs.blk, hs.inj, hs.out, hs.low⟩, hg.trans (.of_sub hsub)⟩
  have h0 := hs.fr t
  by_cases e : t = 0
  · subst e
    rw [ha] at h0
    simpa using h0
  · have : get (zipFr [v] 0) t = .undef := by
      simp only [zipFr, get, nbeq_ne (Ne.symm e), cond_false]
    dsimp only
    rw [this]
    exact .undef _ _ fun p => by simp [e]

theorem msl_case (h : Rel E R ρ own N st a w) {b : Nat} {e : TypeId} {rows : Rows} {te : Ty} (hb : nth st.blk b = some (.arr e rows)) (he : E.tys e = some te) {vx : Value} {q : Owner} (hx : AR E w F ρ (.msl e b rows.length) vx q) :
    (rows = [] ∧ vx = .slice none 0 0) ∨ ∃ (B cap : Nat) (g : Nat → Value), nth ρ b = some B ∧ own (.self b) = some (B, 0) ∧ vx = .slice (some ⟨B, 0, none⟩) rows.length cap ∧ 0 < rows.length ∧ rows.length ≤ cap ∧ cap ≤ 9223372036854775807 ∧ (∀ r ∈ rows, r.map Cell.kind = te.kinds) ∧
      (∀ j, cold w B j = false) ∧ (∀ j, j < cap * te.size → (∃ v, cell w B j = some v) ∧ cold w B j = false) ∧ ∀ (j : Nat) (hj : j < rows.flatten.length), cell w B j = some (g j) ∧ cold w B j = false ∧ CR E w (Fn own R) rows.flatten[j] (g j) := by
  have hbr := h.blk b
  rw [hb] at hbr
  generalize hn : rows.length = n at hx
  cases hx with
  | mnil => exact .inl ⟨List.eq_nil_of_length_eq_zero hn, rfl⟩
  | msl _ _ _ te' B cap hB he' h0 hnc hcm hsp =>
    rw [he] at he'
    cases he'
    rcases hbr with ⟨h1, _⟩ | ⟨B', te', h1, h2, _, h4, h5, h7, h6⟩
    · subst h1; simp at hn; omega
    · rw [hB] at h1
      cases h1
      rw [he] at h4
      cases h4
      refine .inr ⟨B, cap, fun j => if hj : j < rows.flatten.length then Classical.choose (h6 j hj) else undef, hB, h2, rfl, h0, hnc, hcm, h5, h7.2, hsp, fun j hj => ?_⟩
      simp only [hj, dif_pos]
      exact Classical.choose_spec (h6 j hj)

theorem two_parts' {rows ys : Rows} {B : Nat} (h1 : ∀ (i : Nat) (hi : i < rows.flatten.length), ∃ v, cell w B i = some v ∧ cold w B i = false ∧ CR E w F rows.flatten[i] v)
    (h2 : ∀ (i : Nat) (hi : i < ys.flatten.length), ∃ v, cell w B (rows.flatten.length + i) = some v ∧ cold w B (rows.flatten.length + i) = false ∧ CR E w F ys.flatten[i] v) :
    ∀ (i : Nat) (hi : i < (rows ++ ys).flatten.length), ∃ v, cell w B i = some v ∧ cold w B i = false ∧ CR E w F (rows ++ ys).flatten[i] v := by
  intro i hi
  have hfl : (rows ++ ys).flatten = rows.flatten ++ ys.flatten := by simp
  have hi' := hi
  rw [hfl, List.length_append] at hi'
  by_cases hlt : i < rows.flatten.length
  · have e1 : (rows ++ ys).flatten[i] = rows.flatten[i] := by simp only [hfl]; exact List.getElem_append_left _
    rw [e1]
    exact h1 i hlt
  · have h3 := h2 (i - rows.flatten.length) (by omega)
    rw [show rows.flatten.length + (i - rows.flatten.length) = i by omega] at h3
    have e1 : (rows ++ ys).flatten[i] = ys.flatten[i - rows.flatten.length]'(by omega) := by simp only [hfl]; exact List.getElem_append_right (by omega)
    rw [e1]
    exact h3

/-- elements put in at a place -/
def insL (rows ys : List (List Cell)) (i : Nat) : List (List Cell) := rows.take i ++ ys ++ rows.drop i

def okIns (n : Nat) (i : Int) (rows ys : List (List Cell)) : Bool :=
  Nat.beq n rows.length && (decide (0 ≤ i) && (decide (i ≤ rows.length) && (decide (0 < ys.length) && fits (rows.length + ys.length))))

/-- the library's Insert -/
def primIns (EL : TypeId) : List AV → List Block → Option (List AV × List Block) := fun args blk => match args, blk with
  | [.one (.msl e 0 n), .one (.int .i64 i), .one (.sl false e2 ys)], [.arr e3 rows] =>
    cond (Nat.beq e EL && (Nat.beq e2 EL && Nat.beq e3 EL)) (cond (okIns n i rows ys) (some ([.one (.msl EL 1 (rows.length + ys.length))], [.dead, .arr EL (insL rows ys i.toNat)])) none) none
  | [.one (.msl e 0 n), .one (.int .i64 i), .one (.msl e2 1 m)], [.arr e3 rows, .arr e4 ys] =>
    cond (Nat.beq e EL && (Nat.beq e2 EL && (Nat.beq e3 EL && Nat.beq e4 EL))) (cond (Nat.beq m ys.length) (cond (okIns n i rows ys) (some ([.one (.msl EL 2 (rows.length + ys.length))], [.dead, .arr EL ys, .arr EL (insL rows ys i.toNat)])) none) none) none
  | _, _ => none

end Go.Abs
