/-
  The step to the statement: where the interpreter's run of a law yields true for all arguments of its types, the law's call returns true and leaves its arguments as they read.
-/
import Derived.Test.YtpafnokcmhlbgaaA25
namespace Go.Abs

variable {E : Env} {P : Program} {W : World} {H : Type} {enc : TypeId × Value → H}

def Cell.ac : Cell → AC
  | .int k n => .int k n
  | .bool b => .bool b
  | .str s => .str s
  | .slice e rows => .sl false e rows

def acs : Row → List AC
  | [] => []
  | c :: r => c.ac :: acs r

theorem acs_eq (r : Row) : acs r = r.map Cell.ac := by induction r <;> simp_all [acs]

theorem CR.ar {w : World} {F : Places} {ρ : List Nat} {c : Cell} {v : Value} (h : CR E w F c v) : AR E w F ρ c.ac v none := by
  cases h with
  | int k n => exact .int k n
  | bool b => exact .bool b
  | str s => exact .str s
  | empty e a cap => exact .sl _ _ _ (.empty e a cap)
  | slice e rows te B off cap g he hk hc hm hr => exact .sl _ _ _ (.slice e rows te B off cap g he hk hc hm hr)

def rowAV (ty : Ty) (row : Row) : AV :=
  match ty.desc.isAgg, row with
  | true, row => .agg (acs row)
  | false, [c] => .one c.ac
  | _, _ => .undef

def argAVs (E : Env) : List TypeId → List Row → List AV
  | t :: ts, r :: rs => (match E.tys t with | some ty => rowAV ty r | none => .undef) :: argAVs E ts rs
  | _, _ => []

/-- rows of the types that are wanted -/
def ArgsOk (E : Env) : List TypeId → List Row → Prop
  | [], [] => True
  | t :: ts, r :: rs => (∃ ty, E.tys t = some ty ∧ r.map Cell.kind = ty.kinds ∧ ∀ c ∈ r, Cell.Wf E c) ∧ ArgsOk E ts rs
  | _, _ => False

def plainAll (E : Env) : List TypeId → Bool
  | [] => true
  | t :: ts => plainT E 60 t && plainAll E ts

theorem argAVs_len : ∀ {ts : List TypeId} {rows : List Row}, ArgsOk E ts rows → (argAVs E ts rows).length = ts.length
  | [], [], _ => rfl
  | [], _ :: _, h => h.elim
  | _ :: _, [], h => h.elim
  | t :: ts, r :: rs, h => by simp [argAVs, argAVs_len h.2]

theorem open_value (G : Good P E) {t : TypeId} {v : Value} {d : DataW H} {p : List MemPlace} (hp : plainT E 60 t = true) (hok : Value.okWide P W .any 0 t v ∨ ∃ b, Value.okWide P W .any b t v) (h : DataW.Trod enc P W 0 (fun _ => true) true t v d p) :
    ∃ ty row, E.tys t = some ty ∧ row.map Cell.kind = ty.kinds ∧ (∀ c ∈ row, Cell.Wf E c) ∧ AVR E W (fun _ _ => False) [] (rowAV ty row) v (fun _ => none) ∧ (∀ (B : DataW H → Nat) (BA : List (DataW H) → Nat), Bulk B BA → bulkR row ≤ B d) ∧
      ∀ (W' : World) (sp : Nat → Bool), Stays W W' → (∀ b, b < W.heap.size → sp b = true) → DataW.Trod enc P W' 0 sp true t v d p := by
  obtain ⟨fuel, h⟩ := h
  obtain ⟨ty, hty⟩ : ∃ ty, E.tys t = some ty := by
    rw [plainT] at hp
    cases hte : E.tys t with
    | none => rw [hte] at hp; cases hp
    | some ty => exact ⟨ty, rfl⟩
  obtain ⟨row, q1, q2, q3, q4, qb, q5⟩ := open_cells G fuel 60 t ty _ _ hty hp h
  have hT := G.ty t ty hty
  obtain ⟨dd, hu, hD⟩ := hT.desc
  refine ⟨ty, row, hty, q1, q4, ?_, qb, fun W' sp hs hsp => ⟨fuel, q5 W' sp hs hsp⟩⟩
  have hagg : ∀ cs, v = .agg cs → (∀ p, (fun _ => none : Owners) p = none) → AVR E W (fun _ _ => False) [] (.agg (acs row)) v (fun _ => none) := by
    intro cs hv _
    subst hv
    have hlen : row.length = cs.size := by simpa [Value.cells] using q2
    have : cs = ((List.range (acs row).length).map fun i => cs.toList.getD i undef).toArray := by
      apply Array.ext'
      apply List.ext_getElem
      · simp [acs_eq, hlen]
      · intro i h3 h4
        have h5 : i < cs.size := by simpa using h3
        simp [List.getD, h5]
    rw [this]
    refine .agg _ _ _ (fun i hi => ?_) fun _ _ => rfl
    have hi' : i < row.length := by simpa [acs_eq] using hi
    have h5 : i < cs.size := by omega
    have := (q3 i hi' (by simpa [Value.cells] using h5)).ar (ρ := [])
    simp only [acs_eq, List.getElem_map]
    simpa [Value.cells, List.getD, h5] using this
  have hokE : ∃ b, Value.okWide P W .any b t v := by
    rcases hok with h | h
    · exact ⟨_, h⟩
    · exact h
  obtain ⟨b0, hok⟩ := hokE
  unfold Value.okWide at hok
  rw [hu] at hok
  unfold DescOk at hD
  have hone : ∀ c, row = [c] → v.cells.toList = [v] → ty.desc.isAgg = false → AVR E W (fun _ _ => False) [] (rowAV ty row) v (fun _ => none) := by
    intro c hc hv hd
    subst hc
    unfold rowAV
    rw [hd]
    refine .one _ _ _ ?_ fun _ _ => rfl
    have := (q3 0 (by simp) (by rw [hv]; simp)).ar (ρ := [])
    simpa [hv] using this
  have hscal : ∀ k, ty.kinds = [k] → ∃ c, row = [c] := fun k hk => by
    rw [hk] at q1
    cases row with
    | nil => cases q1
    | cons c r =>
      cases r with
      | nil => exact ⟨c, rfl⟩
      | cons c2 r => simp at q1
  have hcell : ∀ k, ty.kinds = [k] → Cell.okWide P W .any b0 t v → ty.desc.isAgg = false → AVR E W (fun _ _ => False) [] (rowAV ty row) v (fun _ => none) := by
    intro k hk hc hd
    obtain ⟨c, hrow⟩ := hscal k hk
    refine hone c hrow ?_ hd
    cases v with
    | agg cs =>
      exfalso
      unfold Cell.okWide at hc
      rw [hu] at hc
      cases hdd : ty.desc <;> rw [hdd] at hD hd <;> cases dd <;> simp only at hD <;> (unfold Cell.ok at hc; rw [hu] at hc; simp at hc)
      all_goals cases hd
    | _ => rfl
  cases hd : ty.desc with
  | int k =>
    rw [hd] at hD
    cases dd <;> simp only at hD
    exact hcell _ hD.2 hok (by rw [hd]; rfl)
  | bool =>
    rw [hd] at hD
    cases dd <;> simp only at hD
    exact hcell _ hD hok (by rw [hd]; rfl)
  | str =>
    rw [hd] at hD
    cases dd <;> simp only at hD
    exact hcell _ hD hok (by rw [hd]; rfl)
  | slice e =>
    rw [hd] at hD
    cases dd <;> simp only at hD
    exact hcell _ hD.2 hok (by rw [hd]; rfl)
  | struct fs =>
    rw [hd] at hD
    cases dd <;> simp only at hD
    obtain ⟨cs, hv, _⟩ := hok
    have := hagg cs hv fun _ => rfl
    unfold rowAV
    rw [hd]
    exact this
  | array n e =>
    rw [hd] at hD
    cases dd <;> simp only at hD
    obtain ⟨cs, hv, _⟩ := hok
    have := hagg cs hv fun _ => rfl
    unfold rowAV
    rw [hd]
    exact this
  | ptr _ => rw [plainT, hty] at hp; simp [hd] at hp
  | fn => rw [plainT, hty] at hp; simp [hd] at hp
  | other => rw [plainT, hty] at hp; simp [hd] at hp

theorem open_args (G : Good P E) : ∀ (ts : List TypeId) (vs : List Value) (ds : List (DataW H)) (p : List MemPlace), plainAll E ts = true → (∀ (j : Nat) t v, ts[j]? = some t → vs[j]? = some v → ∃ b, Value.okWide P W .any b t v) →
    DataW.TrodAll enc P W 0 (fun _ => true) true ts vs ds p →
    ∃ rows : List Row, ArgsOk E ts rows ∧ vs.length = ts.length ∧ ds.length = ts.length ∧ (∀ (i : Nat) (h1 : i < (argAVs E ts rows).length) (h2 : i < vs.length), AVR E W (fun _ _ => False) [] (argAVs E ts rows)[i] vs[i] (fun _ => none)) ∧
      (∀ (B : DataW H → Nat) (BA : List (DataW H) → Nat), Bulk B BA → bulkRs rows ≤ BA ds) ∧
      ∀ (W' : World) (sp : Nat → Bool), Stays W W' → (∀ b, b < W.heap.size → sp b = true) → DataW.TrodAll enc P W' 0 sp true ts vs ds p
  | [], [], [], p, _, _, h => ⟨[], trivial, rfl, rfl, fun i h1 => by simp [argAVs] at h1, fun _ _ _ => by simp [bulkRs], fun _ _ _ _ => h⟩
  | t :: ts, v :: vs, d :: ds, p, hp, hok, h => by
    obtain ⟨p1, p2, h1, h2, rfl⟩ := h
    simp only [plainAll, Bool.and_eq_true] at hp
    obtain ⟨ty, row, k1, k2, k3, k4, kb, k5⟩ := open_value G hp.1 (.inr (hok 0 t v rfl rfl)) h1
    obtain ⟨rows, q1, q2, q3, q4, qb, q5⟩ := open_args G ts vs ds p2 hp.2 (fun j t v ht hv => hok (j + 1) t v ht hv) h2
    refine ⟨row :: rows, ⟨⟨ty, k1, k2, k3⟩, q1⟩, by simp [q2], by simp [q3], fun i g1 g2 => ?_, fun B BA hB => ?_, fun W' sp hs hsp => ⟨p1, p2, k5 W' sp hs hsp, q5 W' sp hs hsp, rfl⟩⟩
    · cases i with
      | zero => simp only [argAVs, k1, List.getElem_cons_zero]; exact k4
      | succ i =>
        simp only [argAVs, List.getElem_cons_succ]
        exact q4 i (by simpa [argAVs] using g1) (by simpa using g2)
    · have g1 := kb B BA hB
      have g2 := qb B BA hB
      have g3 := hB.cons d ds
      simp only [bulkRs]
      omega
  | [], _ :: _, _, _, _, _, h => h.elim
  | [], [], _ :: _, _, _, _, h => h.elim
  | _ :: _, [], _, _, _, _, h => h.elim
  | _ :: _, _ :: _, [], _, _, _, h => h.elim

/-- The contract of a law, from the run. -/
theorem contract (G : Good P E) (hm : P.follows .mixedOrders = true) (hF : FuncsOk P E) {f : FuncId} {fn : Func} {s : ChangeSpec} {ts : List TypeId} {tb : TypeId} (hpar : fn.params.toList = ts) (hres : fn.resultTypes.toList = [tb]) (htb : P.underlying tb = some .bool)
    (hvars : s.vars = []) (hs : ∀ ds : List (DataW H), ds.length = ts.length → s.fn H ds = { results := [.lit (.bool true)], args := ds }) (hplain : plainAll E ts = true)
    {args : Array Value} {ds gs : List (DataW H)} {before : List MemPlace} {base : Nat} (hval : ∀ (j : Nat) t v, fn.params[j]? = some t → args[j]? = some v → Value.okWide P W .any base t v)
    (hW : DataW.Whole enc P fn.params.toList s.vars false W args.toList ds gs before)
    (hrun : ∀ rows : List Row, ArgsOk E ts rows → (∀ (B : DataW H → Nat) (BA : List (DataW H) → Nat), Bulk B BA → bulkRs rows ≤ BA (ds ++ gs)) → ∃ n, run E n f (argAVs E ts rows) [] = (true, ([.one (.bool true)], []))) :
    Calls P f args W fun e W' => ∃ v, e = .returned v ∧ s.post enc P fn false true false false W args v W' := by
  have hW0 := hW
  obtain ⟨p, q, hA, hV, hbef, hz, hn⟩ := hW
  rw [hvars] at hV
  obtain ⟨rfl, rfl⟩ := ChangeShapes.trodVars_none hV
  rw [hpar] at hA
  obtain ⟨rows, k1, k2, k3, k4, kb, k5⟩ := open_args G ts args.toList ds p hplain (fun j t v ht hv => ⟨base, hval j t v (by rw [← hpar] at ht; simpa using ht) (by simpa using hv)⟩) hA
  simp only [List.append_nil] at hrun
  obtain ⟨n, hr⟩ := hrun rows k1 kb
  obtain ⟨_, hcall⟩ := run_sound G hm hF n f _ [] _ _ hr
  have hlen := argAVs_len k1
  have hrel : Rel E (fun _ _ => False) [] (fun _ => none) args.toList.length ⟨zipFr (argAVs E ts rows) 0, []⟩ ⟨args.toList.toArray, []⟩ W := by
    have hFn : Fn (fun _ => none) (fun _ _ => False) = fun _ _ => False := by
      funext B off
      simp [Fn]
    refine ⟨by simp, rfl, fun t => ?_, rfl, fun k => ?_, fun x y B t t' h => (by cases h), fun x B t h => (by cases h), fun B off h => h.elim⟩
    · rw [hFn]
      exact zip_rel (o := fun _ _ => none) (by omega) (fun i h1 h2 => k4 i h1 h2) (fun _ _ _ => rfl) t
    · simp [nth, BlkR]
  have hc := hcall (fun _ _ => False) [] (fun _ => none) args.toList W (by omega) (fun _ _ => rfl) hrel
  refine Calls.mono (P := P) (f := f) (args := args) (by simpa using hc) fun e W' he => ?_
  cases e <;> try exact he.elim
  rename_i v
  obtain ⟨rs, ρ', own', rfl, hrl, _, hrel', hgrow⟩ := he
  refine ⟨_, rfl, ?_⟩
  have hk : W.keptBut W' (fun _ => False) := World.keptBut_mono (fun p hp => by
    cases p with
    | cell b o => obtain ⟨x, t, hx, _⟩ := hp; cases hx
    | map b => exact hp) hgrow.kept
  have hstay : Stays W W' := fun B off v hv => by
    have := hk.cell (b := B) (off := off) (cell_lt hv) id
    rw [cell, this]; exact hv
  obtain ⟨r0, rfl⟩ : ∃ r0, rs = [r0] := by
    cases rs with
    | nil => cases hrl
    | cons r0 r =>
      cases r with
      | nil => exact ⟨r0, rfl⟩
      | cons r1 r => simp at hrl
  have hb : r0 = .bool true := by
    have := (hrel'.fr 0).dis
    simp only [zipFr, get, nbeq_self, cond_true, AV.dis, AC.dis] at this
    cases this with
    | one _ _ _ hh _ =>
      have e : ([r0].toArray.getD 0 undef) = r0 := by simp
      generalize [r0].toArray.getD 0 undef = v at hh e
      cases hh
      exact e.symm
  subst hb
  have hrt : fn.resultTypes.size = 1 := by
    have := congrArg List.length hres
    simpa using this
  refine ⟨ds, [], before, [], p, [], hW0, ?_, ?_, ?_, World.keptBut_mono (fun p hp => hp.elim) hk, fun h => by cases h⟩
  · rw [List.append_nil, hs ds k3, hres, hrt]
    exact trodAll_cons_mk (RowKit.shut_bool htb true) ChangeShapes.trodAll_mk0
  · rw [List.append_nil, hs ds k3, hpar]
    exact k5 W' _ hstay fun b hb => by simpa using hb
  · rw [List.append_nil, hs ds k3, hvars]
    rfl

end Go.Abs
