/-
  A call is sound, if what the interpreter takes a call for is.
-/
import Derived.Test.YtpafnokcmhlbgaaA18
namespace Go.Abs

variable {E : Env} {P : Program} {R : Places} {ρ : List Nat} {own : OI → Owner} {N : Nat} {st : St} {a : Act} {w : World} {F : Places}

def tupV : List Value → Value
  | [v] => v
  | l => .tuple l.toArray

def Returned (E : Env) (R : Places) (ρ : List Nat) (own : OI → Owner) (w : World) (vs : List AV) (bs : List Block) : Ending → World → Prop
  | .returned v, w' => ∃ rs ρ' own', v = tupV rs ∧ rs.length = vs.length ∧ (∀ b B, nth ρ b = some B → nth ρ' b = some B) ∧ Rel E R ρ' own' rs.length ⟨zipFr vs 0, bs⟩ ⟨rs.toArray, []⟩ w' ∧ Grow own own' w w'
  | _, _ => False

def Callable (P : Program) (f : FuncId) : Prop := ∃ fn, P.funcs[f]? = some fn ∧ fn.name ≠ "runtime.NumGoroutine" ∧ fn.body.isNone = false

/-- what the interpreter takes a call for is what the call does -/
def CallOk (P : Program) (E : Env) (call : CallF) : Prop :=
  ∀ f args blk vs bs, call f args blk = (true, (vs, bs)) → Callable P f ∧ ∀ (R : Places) (ρ : List Nat) (own : OI → Owner) (vals : List Value) (w : World), vals.length = args.length → (∀ t p, own (.tmp t p) = none) → Rel E R ρ own vals.length ⟨zipFr args 0, blk⟩ ⟨vals.toArray, []⟩ w →
    Calls P f vals.toArray w (Returned E R ρ own w vs bs)

theorem run_callFunc {f : FuncId} (h : Callable P f) (args : Array Value) (w : World) : (callFunc f args).run P w = .ok (.enter f args) w := by
  obtain ⟨fn, h1, h2, h3⟩ := h
  have h2' : (fn.name == "runtime.NumGoroutine") = false := by simpa using h2
  have hp : (program : Sem Program).run P w = .ok P w := rfl
  unfold callFunc
  rw [Sem.run_bind, hp, Result.andThen_ok]
  simp only [h1, h2', h3, Bool.false_eq_true, if_false]
  rfl

def ownTup (own : OI → Owner) (n : Nat) : Owners := fun p => if n = 1 then own (.tmp 0 p) else match p with | [] => none | i :: q => own (.tmp i q)

theorem tup_rel {vals : List Value} {l : List AV} (hl : l.length = vals.length) (h : ∀ (i : Nat) (h1 : i < l.length) (h2 : i < vals.length), AVR E w F ρ l[i] vals[i] (fun p => own (.tmp i p)))
    (ho : ∀ i, l.length ≤ i → ∀ p, own (.tmp i p) = none) : AVR E w F ρ (oneOrTup l) (tupV vals) (ownTup own l.length) := by
  have hmany : ∀ {l : List AV} {vals : List Value}, l.length = vals.length → l.length ≠ 1 → (∀ (i : Nat) (h1 : i < l.length) (h2 : i < vals.length), AVR E w F ρ l[i] vals[i] (fun p => own (.tmp i p))) →
      (∀ i, l.length ≤ i → ∀ p, own (.tmp i p) = none) → AVR E w F ρ (.tup l) (.tuple vals.toArray) (ownTup own l.length) := by
    intro l vals hl hn h ho
    have hv : vals.toArray = ((List.range l.length).map fun i => vals.getD i undef).toArray := by
      congr 1
      apply List.ext_getElem
      · simp [hl]
      · intro i h3 h4
        simp [h3]
    rw [hv]
    refine .tup l _ _ (fun i hi => ?_) ⟨by simp [ownTup, hn], fun i p hi => by simp [ownTup, hn, ho i hi p]⟩
    have h2 : i < vals.length := by omega
    have := h i hi h2
    simpa [ownTup, hn, h2] using this
  match l, vals, hl with
  | [], [], hl => exact hmany rfl (by simp) h ho
  | [v], [x], hl =>
    have := h 0 (by simp) (by simp)
    exact this
  | v :: v2 :: r, x :: x2 :: r', hl => exact hmany hl (by simp) h ho

theorem remapBs_some {μ : Nat → Option Nat} : ∀ {l l' : List Block}, remapBs μ l = some l' → l'.length = l.length ∧ ∀ (i : Nat) (h : i < l.length) (h' : i < l'.length), l[i].remap μ = some l'[i]
  | [], l', h => by simp [remapBs] at h; subst h; simp
  | c :: r, l', h => by
    simp only [remapBs] at h
    split at h
    · rename_i c' r' h1 h2
      simp at h; subst h
      obtain ⟨g1, g2⟩ := remapBs_some h2
      refine ⟨by simp [g1], fun i hi hi' => ?_⟩
      cases i with
      | zero => exact h1
      | succ i => exact g2 i (by simpa using hi) (by simpa using hi')
    · cases h

theorem posIn_shift : ∀ (l : List Nat) (b i : Nat), posIn l b (i + 1) = (posIn l b i).map (· + 1)
  | [], _, _ => rfl
  | x :: r, b, i => by
    simp only [posIn]
    by_cases e : x = b
    · subst e; simp [nbeq_self]
    · simp only [nbeq_ne e, cond_false]; exact posIn_shift r b (i + 1)

theorem posIn_none {l : List Nat} {b i : Nat} (h : b ∉ l) : posIn l b i = none := by
  cases e : posIn l b i with
  | none => rfl
  | some j => exact absurd (nth_mem (posIn_some e).2) h

theorem writes_len : ∀ (l : List (Nat × Block)) (bs : List Block), (writes bs l).length = bs.length
  | [], bs => rfl
  | (k, c) :: r, bs => by rw [writes, writes_len, setN_eq, List.length_set]

theorem writes_nth : ∀ {sel : List Nat} {bs blk : List Block}, sel.Nodup → (∀ k ∈ sel, k < blk.length) → sel.length ≤ bs.length → ∀ k,
    nth (writes blk (zipW sel bs)) k = (match posIn sel k 0 with | some i => nth bs i | none => nth blk k)
  | [], bs, blk, _, _, _, k => by simp [zipW, writes, posIn]
  | b :: r, [], blk, _, _, h, k => by simp at h
  | b :: r, c :: cs, blk, hn, hlt, h, k => by
    obtain ⟨hn1, hn2⟩ := List.nodup_cons.1 hn
    have hb := hlt b (by simp)
    simp only [zipW, writes]
    rw [writes_nth hn2 (fun k hk => by rw [setN_eq, List.length_set]; exact hlt k (by simp [hk])) (by simpa using h)]
    rw [nth_set _ _ _ _ (by rw [nth_eq, List.getElem?_eq_getElem hb]; rfl)]
    simp only [posIn]
    by_cases e : b = k
    · subst e
      rw [posIn_none hn1]
      simp [nbeq_self, nth]
    · simp only [nbeq_ne e, cond_false, posIn_shift]
      cases hp : posIn r k 0 with
      | none => simp [Ne.symm e]
      | some i => simp [nth]

/-- where a number of the caller's lies with the callee -/
def toIn (sel : List Nat) (n k : Nat) : Option Nat :=
  match posIn sel k 0 with
  | some i => some i
  | none => if n ≤ k then some (sel.length + (k - n)) else none

theorem toIn_inj {sel : List Nat} {n k k' i : Nat} (h1 : toIn sel n k = some i) (h2 : toIn sel n k' = some i) : k = k' := by
  have key : ∀ {k : Nat}, toIn sel n k = some i → (i < sel.length ∧ nth sel i = some k) ∨ (n ≤ k ∧ i = sel.length + (k - n)) := by
    intro k h
    unfold toIn at h
    split at h
    · rename_i j e
      cases h
      have := (posIn_some e).2
      exact .inl ⟨nth_lt this, this⟩
    · split at h
      · rename_i hk; cases h; exact .inr ⟨hk, rfl⟩
      · cases h
  rcases key h1 with ⟨a1, a2⟩ | ⟨a1, a2⟩ <;> rcases key h2 with ⟨b1, b2⟩ | ⟨b1, b2⟩
  · rw [a2] at b2; exact Option.some.inj b2
  · omega
  · omega
  · omega

theorem back_toIn {sel : List Nat} {n m i k : Nat} (hsel : sel.Nodup) (hlt : ∀ k ∈ sel, k < n) (h : back sel n m i = some k) : toIn sel n k = some i := by
  unfold back at h
  unfold toIn
  split at h
  · rename_i b e
    cases h
    rw [posIn_nth hsel e]
  · rename_i e
    cases hb : Nat.blt i m with
    | false => simp [hb] at h
    | true =>
      simp only [hb, cond_true, Option.some.injEq, lenN_eq] at h
      subst h
      rw [posIn_none fun hm => by have := hlt _ hm; omega]
      simp only [Nat.le_add_right, if_true]
      congr 1
      have : sel.length ≤ i := by
        rw [nth_eq] at e
        exact List.getElem?_eq_none_iff.1 e
      omega

def ownOut (own own2 : OI → Owner) (dst : Option Nat) (oV : Owners) (sel : List Nat) (n : Nat) : OI → Owner
  | .tmp t p => if dst = some t then oV p else own (.tmp t p)
  | .self k => match toIn sel n k with | some i => own2 (.self i) | none => own (.self k)
  | .cell k j => match toIn sel n k with | some i => own2 (.cell i j) | none => own (.cell k j)

theorem callK_sound {call : CallF} (hcall : CallOk P E call) (h : Rel E R ρ own N st a w) {sg : Sig} {f : FuncId} {args : List AV} {vals : List Value} {dst : Option Nat} {u : Upd} (hl : args.length = vals.length)
    (hv : ∀ (i : Nat) (h1 : i < args.length) (h2 : i < vals.length), AVR E w (Fn own R) ρ args[i] vals[i] (fun _ => none)) (hu : callK call sg f args st some = some u) (hd : ∀ d, dst = some d → d < N) :
    Callable P f ∧ Calls P f vals.toArray w fun e w' => ∃ v, e = .returned v ∧ After E R ρ own N w (st.apply dst u) (a.put dst v) w' := by
  unfold callK at hu
  dsimp only at hu
  generalize hsl : reach st.blk 1000 (refsOfVs args) [] = sel at hu
  have hsel : sel.Nodup := by rw [← hsl]; exact reach_nodup _ _ _ _ (by simp)
  split at hu <;> try (cases hu; done)
  rename_i args' bs h1 h2
  cases hc : call f args' bs with
  | mk known r =>
    obtain ⟨vs0, bs0⟩ := r
    simp only [hc, callA_eq] at hu
    unfold callT callU at hu
    obtain ⟨sg, hsg⟩ : ∃ s, s = pickA sg (vs0, bs0) := ⟨_, rfl⟩
    rw [← hsg] at hu
    dsimp only at hu
    cases known with
    | false => cases hu
    | true =>
    simp only [cond_true] at hu
    cases hok : sg.ok (vs0, bs0) with
    | false => simp [hok] at hu
    | true =>
      have hlb : lenN sg.blks = lenN bs0 := by
        have h6 := hok
        simp only [Sig.ok, Bool.and_eq_true] at h6
        rw [lenN_eq, lenN_eq]
        exact (okBs_some h6.2).1
      simp only [hok, cond_true, hlb] at hu
      split at hu <;> try (cases hu; done)
      rename_i vs2 bs2 h3 h4
      cases hle : Nat.ble (lenN sel) (lenN bs2) with
      | false => simp [hle] at hu
      | true =>
        simp only [hle, cond_true, Option.some.injEq] at hu
        have hle := Nat.le_of_ble_eq_true hle
        rw [lenN_eq, lenN_eq] at hle
        subst hu
        obtain ⟨k1, k2⟩ := h.enter hsel hl hv h1 h2
        obtain ⟨hca, hcc⟩ := hcall f args' bs vs0 bs0 hc
        refine ⟨hca, (hcc _ _ _ _ _ k1.symm (fun _ _ => rfl) k2).mono ?_⟩
        intro e w' hr
        cases e <;> try exact hr.elim
        rename_i v
        obtain ⟨rs, ρ', own', rfl, hrl, hext, hrel0, hgrow⟩ := hr
        obtain ⟨own2, hsub, p1, p2, hrel⟩ := hrel0.proj hrl hok
        refine ⟨_, rfl, ?_⟩
        have hnb : ρ.length = st.blk.length := h.rho
        obtain ⟨q1, q2⟩ := pickBlks_some h2
        have hlt : ∀ k ∈ sel, k < st.blk.length := fun k hk => by
          obtain ⟨i, hi, e⟩ := List.getElem_of_mem hk
          obtain ⟨c, _, e1, _⟩ := q2 i k (by rw [nth_eq, List.getElem?_eq_getElem hi, e])
          exact nth_lt e1
        have hrho : ρ'.length = bs0.length := hrel0.rho
        obtain ⟨x1, x2⟩ := remapVs_some h3
        obtain ⟨y1, y2⟩ := remapBs_some h4
        rw [lenN_eq, lenN_eq] at x2 y2
        have hbs2 : bs2.length = bs0.length := by omega
        -- the numbers
        have hφ : ∀ {k i}, toIn sel st.blk.length k = some i → ∀ B, nth ρ' i = some B → nth (ρ ++ ρ'.drop sel.length) k = some B := by
          intro k i hk B hB
          unfold toIn at hk
          split at hk
          · rename_i j e
            cases hk
            have e2 := (posIn_some e).2
            have hk := hlt k (nth_mem e2)
            have hk' : k < ρ.length := by omega
            have e3 : nth ρ k = some ρ[k] := by rw [nth_eq, List.getElem?_eq_getElem hk']
            have e4 := hext _ _ (pickρ_nth e2 e3)
            rw [Nat.sub_zero] at e4
            rw [nth_app_lt _ _ _ hk', e3]
            exact e4.symm.trans hB
          · split at hk
            · rename_i hnk
              cases hk
              rw [nth_eq] at hB ⊢
              rw [List.getElem?_append_right (by omega), List.getElem?_drop, hnb]
              exact hB
            · cases hk
        have hμ : ∀ b b' B, back sel st.blk.length bs0.length b = some b' → nth ρ' b = some B → nth (ρ ++ ρ'.drop sel.length) b' = some B :=
          fun b b' B hb => hφ (back_toIn hsel hlt hb) B
        have hnp : ∀ {k}, toIn sel st.blk.length k = none → k ∉ sel := fun {k} hk hm => by
          unfold toIn at hk
          obtain ⟨j, hj⟩ := posIn_of_mem 0 hm
          simp [hj] at hk
        have hin : ∀ {k}, k ∈ sel → toIn sel st.blk.length k ≠ none := fun hm e => hnp e hm
        -- the owners
        have hV := tup_rel (own := own2) (F := Fn own2 (Rin own R sel)) (E := E) (w := w') (ρ := ρ ++ ρ'.drop sel.length) (l := vs2) (vals := rs) (by omega) (fun i g1 g2 => by
            have hz := zip_get (o := fun i p => own2 (.tmp i p)) p1 hrel.fr i (by omega) g2
            exact hz.remap hμ (x2 i (by omega) g1)) (fun i hi p => by
              have := hrel.fr i
              have hn : get (zipFr (projVs sg.res vs0 0) 0) i = .undef := by rw [get_zip0, nth_eq, List.getElem?_eq_none (by omega)]; rfl
              rw [hn] at this
              cases this with
              | undef _ _ ho => exact ho p)
        have hlen2 : vs2.length = rs.length := by omega
        have hcase : ∀ x B t, ownOut own own2 dst (ownTup own2 vs2.length) sel st.blk.length x = some (B, t) →
            (∃ y, own2 y = some (B, t) ∧ ((∃ d p i q, dst = some d ∧ x = .tmp d p ∧ y = .tmp i q ∧ ((vs2.length = 1 ∧ i = 0 ∧ p = q) ∨ (vs2.length ≠ 1 ∧ p = i :: q))) ∨
              (∃ k i, toIn sel st.blk.length k = some i ∧ x = .self k ∧ y = .self i) ∨ (∃ k i j, toIn sel st.blk.length k = some i ∧ x = .cell k j ∧ y = .cell i j))) ∨
            (own x = some (B, t) ∧ ¬ passed sel x ∧ ¬ chgO (fun t => dst = some t) (fun k => toIn sel st.blk.length k ≠ none) x) := by
          intro x B t hx
          cases x with
          | tmp s p =>
            simp only [ownOut] at hx
            split at hx
            · rename_i e
              unfold ownTup at hx
              split at hx
              · rename_i e1
                exact .inl ⟨_, hx, .inl ⟨s, p, 0, p, e, rfl, rfl, .inl ⟨e1, rfl, rfl⟩⟩⟩
              · rename_i e1
                split at hx
                · cases hx
                · rename_i i q; exact .inl ⟨_, hx, .inl ⟨s, _, i, q, e, rfl, rfl, .inr ⟨e1, rfl⟩⟩⟩
            · rename_i e
              exact .inr ⟨hx, id, e⟩
          | self k =>
            simp only [ownOut] at hx
            split at hx
            · rename_i i e; exact .inl ⟨_, hx, .inr (.inl ⟨k, i, e, rfl, rfl⟩)⟩
            · rename_i e; exact .inr ⟨hx, hnp e, fun hc => hc e⟩
          | cell k j =>
            simp only [ownOut] at hx
            split at hx
            · rename_i i e; exact .inl ⟨_, hx, .inr (.inr ⟨k, i, j, e, rfl, rfl⟩)⟩
            · rename_i e; exact .inr ⟨hx, hnp e, fun hc => hc e⟩
        have hFF : ∀ B off, Fn (ownOut own own2 dst (ownTup own2 vs2.length) sel st.blk.length) R B off → Fn own2 (Rin own R sel) B off := by
          rintro B off (hR | ⟨x, t, hx, ht⟩)
          · exact .inl (.inl hR)
          · rcases hcase x B t hx with ⟨y, hy, _⟩ | ⟨hx, hp, _⟩
            · exact .inr ⟨y, t, hy, ht⟩
            · exact .inl (.inr ⟨x, t, hx, ht, hp⟩)
        have hsome2 : ∀ x B t, own2 x = some (B, t) → own' x = some (B, t) := fun x B t e => by
          rcases hsub x with h | h
          · rw [← h]; exact e
          · rw [h] at e; cases e
        have hblk : ∀ k, nth (st.apply dst ⟨oneOrTup vs2, none, zipW sel bs2, dropN bs2 (lenN sel), sel⟩).blk k = (match toIn sel st.blk.length k with | some i => nth bs2 i | none => nth st.blk k) := by
          intro k
          simp only [St.apply, app_eq, dropN_eq, lenN_eq]
          unfold toIn
          by_cases hk : k < st.blk.length
          · rw [nth_app_lt _ _ _ (by rw [writes_len]; exact hk), writes_nth hsel hlt hle]
            cases posIn sel k 0 with
            | some i => rfl
            | none => simp [show ¬ st.blk.length ≤ k by omega]
          · rw [posIn_none fun hm => hk (hlt k hm)]
            simp only [show st.blk.length ≤ k by omega, if_true]
            rw [nth_eq, List.getElem?_append_right (by rw [writes_len]; omega), writes_len, List.getElem?_drop, nth_eq]
        refine ⟨ρ ++ ρ'.drop sel.length, _, fun b B hb => by rw [nth_app_lt _ _ _ (nth_lt hb)]; exact hb,
          h.gen (own' := ownOut own own2 dst (ownTup own2 vs2.length) sel st.blk.length) (fun B off => ∃ x t, ownIn own sel x = some (B, t) ∧ t ≤ off) (fun t => dst = some t) (fun k => toIn sel st.blk.length k ≠ none)
            hgrow.kept ?_ ?_ ?_ (by rw [size_put]; exact h.size) (by rw [defers_put]; exact h.defers) ?_ ?_ ?_ ?_ ?_ ?_⟩
        · rintro B off ⟨x, t, hx, ht⟩
          obtain ⟨y, hy, hp⟩ := ownIn_some hx
          refine ⟨y, t, hy, ht, ?_⟩
          cases y with
          | tmp => exact hp.elim
          | self k => exact hin hp
          | cell k j => exact hin hp
        · intro y B t' hy
          rcases hcase y B t' hy with ⟨z, hz, _⟩ | ⟨hy, _⟩
          · have hz' := hsome2 _ _ _ hz
            rcases hgrow.news z B t' hz' with hn | ⟨x, t, hx, ht⟩
            · exact .inr ⟨hn, (hrel.out _ _ _ hz).1⟩
            · obtain ⟨x', hx', _⟩ := ownIn_some hx
              exact .inl ⟨x', t, hx', ht⟩
          · exact .inl ⟨y, t', hy, Nat.le_refl _⟩
        · intro x y B t t' hx hy
          rcases hcase x B t hx with ⟨x', hx', sx⟩ | ⟨hx, hpx, _⟩ <;> rcases hcase y B t' hy with ⟨y', hy', sy⟩ | ⟨hy, hpy, _⟩
          · have := hrel.inj _ _ _ _ _ hx' hy'
            subst this
            rcases sx with ⟨d, p, i, q, e1, rfl, e2, e3⟩ | ⟨k, i, e1, rfl, e2⟩ | ⟨k, i, j, e1, rfl, e2⟩ <;> rcases sy with ⟨d', p', i', q', f1, rfl, f2, f3⟩ | ⟨k', i', f1, rfl, f2⟩ | ⟨k', i', j', f1, rfl, f2⟩ <;> rw [e2] at f2 <;> cases f2
            · rw [e1] at f1
              cases f1
              rcases e3 with ⟨g1, g2, g3⟩ | ⟨g1, g2⟩ <;> rcases f3 with ⟨r1, r2, r3⟩ | ⟨r1, r2⟩
              · rw [g3, r3]
              · exact absurd g1 r1
              · exact absurd r1 g1
              · rw [g2, r2]
            · rw [toIn_inj e1 f1]
            · rw [toIn_inj e1 f1]
          · exact absurd (.inr ⟨y, t', hy, Nat.le_refl _, hpy⟩) ((hrel.out _ _ _ hx').2 t')
          · exact absurd (.inr ⟨x, t, hx, Nat.le_refl _, hpx⟩) ((hrel.out _ _ _ hy').2 t)
          · exact h.inj _ _ _ _ _ hx hy
        · intro t ht
          refine ⟨by simp only [St.apply, get_put, disT, ht, if_false], ?_, fun p => by simp only [ownOut, ht, if_false]⟩
          rw [getD_put a dst _ t (by rw [h.size]; exact hd)]
          simp only [ht, if_false]
        · intro _ t ht
          simp only [St.apply, get_put]
          rw [getD_put a dst _ t (by rw [h.size]; exact hd)]
          have hV' := hV.less hFF
          subst ht
          simpa only [if_true, ownOut] using hV'
        · simp only [St.apply, app_eq, dropN_eq, lenN_eq, List.length_append, writes_len, List.length_drop, hnb, hrho, hbs2]
        · intro b B hb; rw [nth_app_lt _ _ _ (nth_lt hb)]; exact hb
        · intro k hk
          have hk : toIn sel st.blk.length k = none := Classical.not_not.1 hk
          refine ⟨by rw [hblk, hk], by simp only [ownOut, hk], fun j => by simp only [ownOut, hk]⟩
        · intro _ k hk
          rw [hblk]
          cases hi : toIn sel st.blk.length k with
          | none => exact absurd hi hk
          | some i =>
            dsimp only
            have hb := hrel.blk i
            dsimp only at hb
            by_cases hib : i < bs0.length
            · have hi1 : i < (projBs sg.blks bs0 0).length := by omega
              have hi2 : i < bs2.length := by omega
              rw [nth_eq, List.getElem?_eq_getElem hi1] at hb
              rw [nth_eq, List.getElem?_eq_getElem hi2]
              exact hb.remap hμ (hφ hi) hFF (by simp only [ownOut, hi]) (fun j => by simp only [ownOut, hi]) (y2 i hi1 hi2)
            · rw [nth_eq, List.getElem?_eq_none (by omega)] at hb ⊢
              exact ⟨by simp only [ownOut, hi]; exact hb.1, fun j => by simp only [ownOut, hi]; exact hb.2 j⟩

def St.same' (s t : St) : Prop := (∀ x, get s.fr x = get t.fr x) ∧ s.blk = t.blk

theorem After.same' {st1 st' : St} {a' : Act} {w' : World} (h : After E R ρ own N w st1 a' w') (hs : st1.same' st') : After E R ρ own N w st' a' w' := by
  obtain ⟨ρ', own', h1, h2, h3⟩ := h
  refine ⟨ρ', own', h1, ⟨h2.size, h2.defers, fun t => by rw [← hs.1 t]; exact h2.fr t, by rw [← hs.2]; exact h2.rho, fun k => by rw [← hs.2]; exact h2.blk k, h2.inj, h2.out, h2.low⟩, h3⟩

theorem callK_dis {call : CallF} {sg : Sig} {f : FuncId} {args : List AV} {u : Upd} (hu : callK call sg f args st some = some u) : u.dis = none ∧ True := by
  unfold callK at hu
  dsimp only at hu
  split at hu <;> try (cases hu; done)
  rename_i args' bs _ _
  cases hc : call f args' bs with
  | mk known r =>
    rw [hc] at hu
    simp only [callA_eq] at hu
    unfold callT callU at hu
    cases known <;> simp only [cond_true, cond_false] at hu <;> try (cases hu; done)
    cases hok : (pickA sg r).ok r <;> simp only [hok, cond_true, cond_false] at hu <;> try (cases hu; done)
    split at hu <;> try (cases hu; done)
    replace hu := (cond_none_some hu).2
    cases hu
    exact ⟨rfl, trivial⟩

theorem blkAt_nth {bs : List Block} : ∀ {k : Nat} {c : Block}, nth bs k = some c → blkAt bs k = c := by
  induction bs with
  | nil => intro k c h; simp [nth] at h
  | cons b bs ih =>
    intro k c h
    cases k with
    | zero => simp only [nth, Option.some.injEq] at h; exact h
    | succ k => simp only [nth] at h; exact ih h

theorem setN_blkAt (bs : List Block) : ∀ (k : Nat), setN bs k (blkAt bs k) = bs := by
  induction bs with
  | nil => intro k; cases k <;> rfl
  | cons b bs ih =>
    intro k
    cases k with
    | zero => rfl
    | succ k => simp only [setN, blkAt, ih]

theorem writes_sameWr {bs : List Block} : ∀ {l : List (Nat × Block)}, sameWr bs l = true → writes bs l = bs
  | [], _ => rfl
  | (k, c) :: r, h => by
    simp only [sameWr, sameB1, Bool.and_eq_true, decide_eq_true_eq] at h
    simp only [writes]
    rw [← h.1, setN_blkAt]
    exact writes_sameWr h.2

theorem call_sound {call : CallF} (hcall : CallOk P E call) (h : Rel E R ρ own N st a w) {tk : List Nat} {sg : Option Sig} {o : Oper} (hc : isCall o.op = true) {u : Upd} (hu : actK E call tk sg o st some = some u) (hd : ∀ d, o.dst = some d → d < N) :
    ∃ f vals, (execOp a.eval o).run P w = .ok (.enter f vals) w ∧ Calls P f vals w fun e w' => ∃ v, e = .returned v ∧ After E R ρ own N w (st.apply o.dst u) (a.put o.dst v) w' := by
  cases hop : o.op <;> rw [hop] at hc <;> try (cases hc; done)
  rename_i c
  cases hcal : c.callee <;> simp [isCall, hcal] at hc
  rename_i g
  simp only [actK, hop, hcal] at hu
  have hg := ev_rel h g
  split at hu <;> try (cases hu; done)
  rename_i f caps hev
  rw [hev] at hg
  cases hfn : E.funcs f with
  | none => simp [hfn] at hu
  | some fn =>
    simp only [hfn] at hu
    obtain ⟨g', hval, hcap⟩ : ∃ g' : Nat → Value, a.eval g = .func (.func f) #[] ((List.range caps.length).map g').toArray ∧ ∀ (i : Nat) (hi : i < caps.length), AR E w (Fn own R) ρ caps[i] (g' i) none := by
      have hg := hg.dis
      simp only [AV.dis, AC.dis] at hg
      generalize a.eval g = vg at hg
      cases hg with
      | one _ _ _ hh _ => cases hh with | fn _ _ g' hr => exact ⟨g', rfl, hr⟩
    obtain ⟨e1, e2⟩ := evL_rel h c.args.toList
    have hcv : ∀ (l : List AC), actK.capsV l = l.map AV.one := by
      intro l; induction l <;> simp_all [actK.capsV]
    have hpure : ∃ u1, callK call (sg.getD fn.1) f (app (evL st.fr c.args.toList) (actK.capsV caps)) st some = some u1 ∧ (st.apply o.dst u1).same' (st.apply o.dst u) := by
      split at hu
      · obtain ⟨u1, h1, h2, h3, h4⟩ := pureCK_some _ _ _ _ _ hu
        obtain ⟨d1, h5⟩ := callK_dis h1
        refine ⟨u1, h1, fun x => ?_, ?_⟩
        · rw [h4]; simp only [St.apply, d1]
        · rw [h4]; simp only [St.apply, h2, writes_sameWr h3, writes]
      · exact ⟨u, hu, fun _ => rfl, rfl⟩
    clear hu
    obtain ⟨u1, hu, hsame⟩ := hpure
    have hcs := callK_sound (P := P) hcall h (vals := c.args.toList.map a.eval ++ (List.range caps.length).map g') (dst := o.dst) (by simp [app_eq, hcv, e1]) (fun i h1 h2 => by
      simp only [app_eq, hcv] at h1 ⊢
      by_cases hi : i < (evL st.fr c.args.toList).length
      · rw [List.getElem_append_left hi, List.getElem_append_left (by simpa [e1] using hi)]
        rw [List.getElem_map]
        exact e2 i hi (by omega)
      · rw [List.getElem_append_right (by omega), List.getElem_append_right (by simp; simp at e1; omega)]
        simp only [List.getElem_map, List.getElem_range, List.length_map, e1]
        exact .one _ _ _ (hcap _ (by simp at h1; omega)) fun _ _ => rfl) hu hd
    obtain ⟨k1, k2⟩ := hcs
    replace k2 : Calls P f (c.args.toList.map a.eval ++ (List.range caps.length).map g').toArray w fun e w' => ∃ v, e = .returned v ∧ After E R ρ own N w (st.apply o.dst u) (a.put o.dst v) w' := k2.mono (fun e w' he => by
      obtain ⟨v, e1, hA⟩ := he
      exact ⟨v, e1, hA.same' hsame⟩)
    refine ⟨f, (c.args.toList.map a.eval ++ (List.range caps.length).map g').toArray, ?_, k2⟩
    have hargs : (c.args.toList.map a.eval ++ (List.range caps.length).map g').toArray = c.args.map a.eval ++ ((List.range caps.length).map g').toArray := by
      apply Array.ext'; simp
    simp only [execOp, hop, resolve, hcal, hval, Deferred.ofValue, Sem.run_bind, Sem.run_pure, Result.andThen_ok, invoke]
    rw [hargs]
    simp only [Array.empty_append]
    exact run_callFunc k1 _ w

end Go.Abs
