/-
  Masks, and what a function hands back.
-/
import Derived.Test.YtpafnokcmhlbgaaA22
namespace Go.Abs

variable {E : Env} {P : Program} {R : Places} {ρ : List Nat} {own : OI → Owner} {N : Nat} {st : St} {a : Act} {w : World}

def getM : List (Nat × Bool) → Nat → Option Bool
  | [], _ => none
  | (u, b) :: r, t => cond (Nat.beq u t) (some b) (getM r t)

theorem keepFrom_get {fr : List (Nat × AV)} {μ : Nat → Option Nat} (t : Nat) : ∀ (m : List (Nat × Bool)) (fr' : List (Nat × AV)), keepFrom fr μ m = some fr' →
    (∃ o v, getM m t = some o ∧ (cond o (get fr t) (get fr t).dis).remap μ = some v ∧ get fr' t = v) ∨ (getM m t = none ∧ get fr' t = .undef) := by
  intro m
  induction m with
  | nil => intro fr' h; simp only [keepFrom, Option.some.injEq] at h; subst h; exact .inr ⟨rfl, rfl⟩
  | cons x r ih =>
    obtain ⟨u, b⟩ := x
    intro fr' h
    simp only [keepFrom] at h
    split at h
    · rename_i v l h1 h2
      cases h
      by_cases e : u = t
      · subst e
        exact .inl ⟨b, v, by simp only [getM, nbeq_self, cond_true], h1, by simp only [get, nbeq_self, cond_true]⟩
      · simp only [getM, nbeq_ne e, cond_false, get]
        exact ih l h2
    · cases h

theorem mask_sound (h : Rel E R ρ own N st a w) {β : Type} {nw : Nat} {m : List (Nat × Bool)} {K : St → Option β} {r : β} (hm : maskK nw m st K = some r) :
    ∃ st1 ρ' own', K st1 = some r ∧ Rel E R ρ' own' N st1 a w ∧ Grow own own' w w ∧ ∀ b B, b < nw → nth ρ b = some B → nth ρ' b = some B := by
  unfold maskK at hm
  dsimp only at hm
  have hsel : (app (range0 0 nw) (ascend (reach st.blk 1000 (app (refsOfFr st.fr m) (refsOfBs (takeN st.blk nw))) []) nw (lenN st.blk - nw))).Nodup :=
    sel_nodup ascend_nodup fun x hx => (ascend_mem hx).1
  have hfirst : ∀ b, b < nw → nth (app (range0 0 nw) (ascend (reach st.blk 1000 (app (refsOfFr st.fr m) (refsOfBs (takeN st.blk nw))) []) nw (lenN st.blk - nw))) b = some b := fun b hb => by
    rw [app_eq, nth_app_lt _ _ _ (by rw [range0_len]; exact hb), range0_nth hb, Nat.zero_add]
  generalize app (range0 0 nw) (ascend (reach st.blk 1000 (app (refsOfFr st.fr m) (refsOfBs (takeN st.blk nw))) []) nw (lenN st.blk - nw)) = sel at hm hsel hfirst
  split at hm
  · rename_i fr' bs h1 h2
    let own' : OI → Owner := fun
      | .tmp t p => match getM m t with | some true => own (.tmp t p) | _ => none
      | .self i => match nth sel i with | some k => own (.self k) | none => none
      | .cell i j => match nth sel i with | some k => own (.cell k j) | none => none
    have hsub : ∀ t p B s, own' (.tmp t p) = some (B, s) → own (.tmp t p) = some (B, s) := fun t p B s e => by
      simp only [own'] at e
      split at e
      · exact e
      · cases e
    have hall : ∀ x B s, own' x = some (B, s) → ∃ y, own y = some (B, s) := fun x B s e => by
      cases x with
      | tmp t p => exact ⟨_, hsub _ _ _ _ e⟩
      | self i => simp only [own'] at e; split at e; exact ⟨_, e⟩; cases e
      | cell i j => simp only [own'] at e; split at e; exact ⟨_, e⟩; cases e
    refine ⟨_, pickρ ρ sel, own', hm, h.pick hsel h2 h.size h.defers ?_ ?_ (fun _ => rfl) (fun _ _ => rfl) (fun t p => .tmp t p) (fun t p B s e => ⟨hsub _ _ _ _ e, fun k => ⟨by simp, fun j _ => by simp⟩⟩) (fun t p t' p' B s _ _ e => e) h.low ?_, .refl _ _ _ fun x B t' hx => ?_, fun b B hb hB => ?_⟩
    · rintro B off (hR | ⟨x, t, hx, ht⟩)
      · exact .inl hR
      · obtain ⟨y, hy⟩ := hall _ _ _ hx
        exact .inr ⟨y, t, hy, ht⟩
    · intro t
      rcases keepFrom_get t m fr' h1 with ⟨o, v, e1, e2, e3⟩ | ⟨e1, e2⟩
      · rw [e3]
        cases o with
        | true =>
          have : (fun p => own' (.tmp t p)) = fun p => own (.tmp t p) := funext fun p => by simp only [own', e1]
          rw [this]
          exact (h.fr t).remap (fun b b' B => pickρ_posIn b b' B) e2
        | false =>
          have : (fun p => own' (.tmp t p)) = fun p => none := funext fun p => by simp only [own', e1]
          rw [this]
          exact (h.fr t).dis.remap (fun b b' B => pickρ_posIn b b' B) e2
      · rw [e2]
        exact .undef _ _ fun p => by simp only [own', e1]
    · intro x B t hx
      obtain ⟨y, hy⟩ := hall _ _ _ hx
      exact (h.out _ _ _ hy).2
    · obtain ⟨y, hy⟩ := hall _ _ _ hx
      exact ⟨y, t', hy, Nat.le_refl _⟩
    · exact pickρ_nth (hfirst b hb) hB
  · cases hm

/- WHAT IS HANDED BACK -/

def resLt : List ResultVar → Nat → Bool
  | [], _ => true
  | .tmp t :: r, n => Nat.blt t n && resLt r n
  | .cell t _ :: r, n => Nat.blt t n && resLt r n

/-- one result of the model's -/
def resV (tmps : Array Value) : ResultVar → Sem Value
  | .tmp t => pure (tmps.getD t undef)
  | .cell a t => do loadVar t (← asAddr (tmps.getD a undef))

theorem run_asAddr {v : Value} {t : TypeId} {val : Value} (h : (Instr.loadAt t v).run P w = .ok val w) : (do loadVar t (← asAddr v) : Sem Value).run P w = .ok val w := by
  unfold Instr.loadAt Instr.sureAddr at h
  unfold asAddr
  cases v with
  | pointer a => cases a with
    | none => simp [stuck] at h
    | some a => simpa using h
  | _ => simp [stuck] at h

theorem Rel.extend (h : Rel E R ρ own N st a w) (n : Nat) : Rel E R ρ own (N + n) st { a with tmps := a.tmps ++ Array.replicate n undef } w := by
  refine ⟨by simp [h.size], h.defers, fun t => ?_, h.rho, h.blk, h.inj, h.out, h.low⟩
  have : (a.tmps ++ Array.replicate n undef).getD t undef = a.tmps.getD t undef := by
    by_cases ht : t < a.tmps.size
    · simp [Array.getD_eq_getD_getElem?, Array.getElem?_append_left ht]
    · simp only [Array.getD_eq_getD_getElem?, Array.getElem?_append_right (Nat.le_of_not_lt ht), Array.getElem?_eq_none (Nat.le_of_not_lt ht)]
      cases e : (Array.replicate n undef)[t - a.tmps.size]? with
      | none => rfl
      | some v =>
        have := Array.getElem?_eq_some_iff.1 e
        obtain ⟨h1, h2⟩ := this
        simp at h2
        simp [← h2]
  dsimp only
  rw [this]
  exact h.fr t

/-- what lies in the slots from M on -/
structure Tail (M : Nat) (st1 : St) (vs : List AV) (a : Act) (rs : List Value) : Prop where
  len : vs.length = rs.length
  fr : ∀ (i : Nat) (h : i < vs.length), get st1.fr (M + i) = vs[i]
  tmp : ∀ (i : Nat) (h : i < rs.length), a.tmps.getD (M + i) undef = rs[i]

theorem res_sound (G : Good P E) {β : Type} {tmps : Array Value} {M : Nat} : ∀ (l : List ResultVar) (st st1 : St) (ρ : List Nat) (own : OI → Owner) (a : Act) (vs0 : List AV) (rs0 : List Value) (K : List AV → St → Option β) (r : β),
    Rel E R ρ own N st1 a w → resLt l M = true → M + vs0.length + l.length ≤ N → (∀ t, t < M → get st.fr t = get st1.fr t ∧ a.tmps.getD t undef = tmps.getD t undef) → st.blk = st1.blk → Tail M st1 vs0 a rs0 → resK E st l K = some r →
    ∃ vs st2 ρ2 own2 a2 rs, (∃ stK, K vs stK = some r ∧ stK.blk = st2.blk) ∧ After E R ρ own N w st2 a2 w ∧ Rel E R ρ2 own2 N st2 a2 w ∧ Grow own own2 w w ∧ (∀ b B, nth ρ b = some B → nth ρ2 b = some B) ∧ Tail M st2 (vs0 ++ vs) a2 (rs0 ++ rs) ∧ rs.length = vs.length ∧
      (l.mapM (resV tmps)).run P w = .ok rs w
  | [], st, st1, ρ, own, a, vs0, rs0, K, r, h, hlt, hM, hfr, hblk, htail, hr => by
    simp only [resK] at hr
    have hA := After.refl h
    exact ⟨[], st1, ρ, own, a, [], ⟨st, hr, hblk⟩, hA, h, .refl _ _ _ fun x B t hx => ⟨x, t, hx, Nat.le_refl _⟩, fun _ _ h => h, by simpa using htail, rfl, by simp⟩
  | x :: l, st, st1, ρ, own, a, vs0, rs0, K, r, h, hlt, hM, hfr, hblk, htail, hr => by
    have hd : ∀ d, some (M + vs0.length) = some d → d < N := fun d e => by cases e; simp at hM; omega
    -- a step to slot M + |vs0|, then the rest
    have key : ∀ (v : AV) (val : Value) (u : Upd) (stK : St), u.val = v → (∃ x, (x = none ∨ ∃ t, t < M ∧ x = some t) ∧ u.dis = x) → u.nu = [] →
        After E R ρ own N w (st1.apply (some (M + vs0.length)) u) (a.put (some (M + vs0.length)) val) w → (∀ t, t < M → get stK.fr t = get (st1.apply (some (M + vs0.length)) u).fr t) → stK.blk = (st1.apply (some (M + vs0.length)) u).blk →
        resLt l M = true → resK E stK l (fun vs st' => K (v :: vs) st') = some r → (resV tmps x).run P w = .ok val w →
        ∃ vs st2 ρ2 own2 a2 rs, (∃ stK, K vs stK = some r ∧ stK.blk = st2.blk) ∧ After E R ρ own N w st2 a2 w ∧ Rel E R ρ2 own2 N st2 a2 w ∧ Grow own own2 w w ∧ (∀ b B, nth ρ b = some B → nth ρ2 b = some B) ∧ Tail M st2 (vs0 ++ vs) a2 (rs0 ++ rs) ∧ rs.length = vs.length ∧
          ((x :: l).mapM (resV tmps)).run P w = .ok rs w := by
      intro v val u stK hv hdis hnu hA hfrK hblkK hltl hrest hrun
      obtain ⟨ρ1, own1, k1, k2, k3⟩ := hA
      have hdis' : ∀ i, i < vs0.length → u.dis ≠ some (M + i) := fun i hi e => by
        obtain ⟨x, hx, e2⟩ := hdis
        rw [e2] at e
        rcases hx with rfl | ⟨t, ht, rfl⟩
        · cases e
        · cases e; omega
      have htl : Tail M (st1.apply (some (M + vs0.length)) u) (vs0 ++ [v]) (a.put (some (M + vs0.length)) val) (rs0 ++ [val]) := by
        refine ⟨by simp [htail.len], fun i hi => ?_, fun i hi => ?_⟩
        · rw [get_apply]
          by_cases e : i = vs0.length
          · subst e; simp [hv]
          · have hi2 : i < vs0.length := by simp at hi; omega
            rw [if_neg (fun e => by injection e with e; omega), if_neg (hdis' i hi2), List.getElem_append_left hi2]
            exact htail.fr i hi2
        · rw [getD_put a _ val _ (by rw [h.size]; exact hd)]
          by_cases e : i = vs0.length
          · subst e
            simp [htail.len]
          · have hl := htail.len
            have hi2 : i < rs0.length := by simp at hi; omega
            rw [if_neg (fun e => by injection e with e; omega), List.getElem_append_left hi2]
            exact htail.tmp i hi2
      obtain ⟨vs, st2, ρ2, own2, a2, rs, g1, g2, g3, g4, g5, g6, g7, g8⟩ := res_sound G (tmps := tmps) (M := M) l stK _ ρ1 own1 _ (vs0 ++ [v]) (rs0 ++ [val]) (fun vs st' => K (v :: vs) st') r k2 hltl (by simp at hM ⊢; omega) (fun t ht => ⟨hfrK t ht, by
        rw [getD_put a _ val _ (by rw [h.size]; exact hd), if_neg (fun e => by injection e with e; omega)]
        exact (hfr t ht).2⟩) hblkK htl hrest
      refine ⟨v :: vs, st2, ρ2, own2, a2, val :: rs, g1, ⟨ρ2, own2, fun b B hb => g5 _ _ (k1 _ _ hb), g3, k3.trans g4⟩, g3, k3.trans g4, fun b B hb => g5 _ _ (k1 _ _ hb), by simpa using g6, by simp [g7], ?_⟩
      simp [List.mapM_cons, hrun, g8]
    cases x with
    | tmp t =>
      simp only [resLt, Bool.and_eq_true] at hlt
      have ht : t < M := Nat.lt_of_succ_le (Nat.le_of_ble_eq_true hlt.1)
      simp only [resK] at hr
      refine key (get st.fr t) (tmps.getD t undef) ⟨get st.fr t, some t, [], [], []⟩ ⟨disT st.fr (some t), st.blk⟩ rfl ⟨some t, .inr ⟨t, ht, rfl⟩, rfl⟩ rfl ?_ (fun s hs => ?_) ?_ hlt.2 hr rfl
      · refine h.take hd ?_
        have := h.fr t
        rw [← (hfr t ht).1, (hfr t ht).2] at this
        exact this
      · rw [get_apply, if_neg (fun e => by injection e with e; omega), get_disT, (hfr s hs).1]
      · simp only [St.apply, writes, app_eq, List.append_nil, hblk]
    | cell t ty =>
      simp only [resLt, Bool.and_eq_true] at hlt
      have ht : t < M := Nat.lt_of_succ_le (Nat.le_of_ble_eq_true hlt.1)
      simp only [resK] at hr
      have hnat := loadK_nat E (fun u => resK E (st.apply none u) l fun vs st' => K (u.val :: vs) st') true ty st (get st.fr t) some
      simp only [Option.bind_some] at hnat
      rw [← hnat] at hr
      cases hu : loadK E true ty st (get st.fr t) some with
      | none => rw [hu] at hr; cases hr
      | some u =>
        rw [hu] at hr
        have hr : resK E (st.apply none u) l (fun vs st' => K (u.val :: vs) st') = some r := hr
        have hu1 : loadK E true ty st1 (get st.fr t) some = some u := by
          unfold loadK at hu ⊢
          rw [← hblk]
          exact hu
        have hp := h.fr t
        rw [← (hfr t ht).1, (hfr t ht).2] at hp
        obtain ⟨val, hl1, hl2⟩ := load_sound G h hp hu1 hd
        have hud : u.dis = none ∧ u.nu = [] := by
          unfold loadK at hu
          split at hu <;> try (cases hu; done)
          split at hu <;> try (cases hu; done)
          · split at hu <;> try (cases hu; done)
            obtain ⟨_, hu⟩ := takeK_some hu
            unfold valueK at hu
            dsimp only at hu
            split at hu <;> try (cases hu; done)
            · obtain ⟨_, hu⟩ := storeK_some hu; cases hu; exact ⟨rfl, rfl⟩
            · obtain ⟨_, hu⟩ := storeK_some hu; cases hu; exact ⟨rfl, rfl⟩
          · rename_i ty' _ _ e row o _
            split at hu <;> try (cases hu; done)
            have := projK_nat (fun l => valueK ty' l fun v => some (Upd.pure v)) row ty'.kinds o some
            simp only [Option.bind_some] at this
            rw [← this] at hu
            rename_i te _
            cases hb : sameKinds (takeN (dropN te.kinds o) ty'.size) ty'.kinds with
            | false => rw [hb] at hu; cases hu
            | true =>
              rw [hb] at hu
              simp only [cond_true] at hu
              cases hpj : projK row ty'.kinds o some with
              | none => rw [hpj] at hu; cases hu
              | some l' =>
                rw [hpj] at hu
                simp only [Option.bind_some] at hu
                unfold valueK at hu
                split at hu <;> cases hu <;> exact ⟨rfl, rfl⟩
          · split at hu <;> try (cases hu; done)
            unfold valueK at hu
            split at hu <;> cases hu <;> exact ⟨rfl, rfl⟩
          · split at hu <;> try (cases hu; done)
            split at hu <;> try (cases hu; done)
            replace hu := (cond_none_some hu).2
            replace hu := (cond_none_some hu).2
            obtain ⟨l, hu, _⟩ := projK_some hu
            unfold valueK at hu
            split at hu <;> cases hu <;> exact ⟨rfl, rfl⟩
        refine key u.val val u (st.apply none u) rfl ⟨none, .inl rfl, hud.1⟩ hud.2 hl2 (fun s hs => ?_) (by simp only [St.apply, hblk]) hlt.2 hr (run_asAddr hl1)
        have hne : M + vs0.length ≠ s := by omega
        simp only [get_apply, hud.1, (hfr s hs).1, Option.some.injEq, hne, reduceCtorEq, if_false]

def ownL (ownr : List Nat) : List AV → Nat → List AV
  | [], _ => []
  | v :: vs, i => (cond (memN ownr i) v v.dis) :: ownL ownr vs (i + 1)

theorem ownResK_eq {β : Type} (ownr : List Nat) : ∀ (l : List AV) (i : Nat) (K : List AV → Option β), ownResK ownr l i K = K (ownL ownr l i)
  | [], _, _ => rfl
  | v :: vs, i, K => by simp only [ownResK, ownL]; exact ownResK_eq ownr vs (i + 1) _

theorem ownL_len (ownr : List Nat) : ∀ (l : List AV) (i : Nat), (ownL ownr l i).length = l.length
  | [], _ => rfl
  | v :: vs, i => by simp [ownL, ownL_len ownr vs (i + 1)]

theorem ownL_get (ownr : List Nat) : ∀ (l : List AV) (i k : Nat) (h : k < l.length) (h' : k < (ownL ownr l i).length), (ownL ownr l i)[k] = cond (memN ownr (i + k)) l[k] l[k].dis
  | v :: vs, i, 0, _, _ => rfl
  | v :: vs, i, k + 1, h, h' => by
    have := ownL_get ownr vs (i + 1) k (by simpa using h) (by simpa [ownL] using h')
    simp only [ownL, List.getElem_cons_succ, this]
    rw [show i + 1 + k = i + (k + 1) by omega]

theorem disBs_eq (l : List Block) : disBs l = l.map Block.dis := by induction l <;> simp_all [disBs]

theorem Rel.disBs (h : Rel E R ρ own N st a w) : ∃ own', (∀ x, own' x = own x ∨ own' x = none) ∧ Rel E R ρ own' N ⟨st.fr, Abs.disBs st.blk⟩ a w := by
  refine ⟨fun | .cell _ _ => none | x => own x, fun x => by cases x <;> simp, h.sub (fun x => by cases x <;> simp) (fun t => h.fr t) (by simp [disBs_eq]) fun k => ?_⟩
  have hk := h.blk k
  dsimp only
  rw [disBs_eq, nth_eq, List.getElem?_map, ← nth_eq]
  cases e : nth st.blk k with
  | none => rw [e] at hk; exact ⟨hk.1, fun _ => rfl⟩
  | some b =>
    rw [e] at hk
    cases b with
    | dead => exact ⟨hk.1, fun _ => rfl⟩
    | fro e rows => exact ⟨hk.1, fun _ => rfl, hk.2.2⟩
    | var cells =>
      obtain ⟨B, h1, h2, h3, h4⟩ := hk
      refine ⟨B, h1, h2, fun _ _ => rfl, fun j hj => ?_⟩
      have hj' : j < cells.length := by simpa [disL_eq] using hj
      obtain ⟨v, k1, k2, k3⟩ := h4 j hj'
      refine ⟨v, k1, k2, ?_⟩
      simp only [disL_eq, List.getElem_map]
      exact k3.dis
    | arr e rows =>
      rcases hk with ⟨h1, h2, h3⟩ | ⟨B, te, h1, h2, h3, h4, h5, h7, h6⟩
      · exact .inl ⟨h1, h2, fun _ => rfl⟩
      · exact .inr ⟨B, te, h1, h2, fun _ => rfl, h4, h5, h7, h6⟩

theorem results_eq (fn : Func) (tmps : Array Value) {rs : List Value} (h : (fn.results.toList.mapM (resV tmps)).run P w = .ok rs w) : (results fn tmps).run P w = .ok (tupV rs) w := by
  have h1 : ∀ f : ResultVar → Sem Value, (∀ x, f x = resV tmps x) → (fn.results.mapM f).run P w = .ok rs.toArray w := by
    intro f hf
    have : f = resV tmps := funext hf
    subst this
    rw [Array.mapM_eq_mapM_toList]
    simp [h]
  unfold results
  rw [Sem.run_bind, h1 _ (fun x => by cases x <;> rfl), Result.andThen_ok]
  match rs with
  | [] => rfl
  | [v] => rfl
  | v :: v2 :: r =>
    simp [tupV]

theorem ret_sound (G : Good P E) {ρ0 : List Nat} {own0 : OI → Owner} {w0 : World} {fn : AFunc} {fn' : Func} {nw : Nat} (h : Rel E R ρ own N st a w) (hext : ∀ b B, nth ρ0 b = some B → nth ρ b = some B) (hnw : ρ0.length = nw) (hg : Grow own0 own w0 w)
    (hlt : resLt fn.results N = true) (hres : fn'.results.toList = fn.results) {vs : List AV} {bs : List Block} (hr : ret E fn nw st = some (vs, bs)) :
    ∃ v, (results fn' a.tmps).run P w = .ok v w ∧ Returned E R ρ0 own0 w0 vs bs (.returned v) w := by
  unfold ret at hr
  obtain ⟨vs0, st2, ρ2, own2, a2, rs, ⟨stK, hK, hblk⟩, hA, hrel, hgrow, hext2, htail, hlen, hrun⟩ := res_sound G (tmps := a.tmps) (M := N) fn.results st st ρ own { a with tmps := a.tmps ++ Array.replicate fn.results.length undef } [] [] _ _ (h.extend fn.results.length) hlt (by simp) (fun t ht => ⟨rfl, by
    have : t < a.tmps.size := by rw [h.size]; exact ht
    simp [Array.getD_eq_getD_getElem?, Array.getElem?_append_left this]⟩) rfl ⟨rfl, fun i h => by simp at h, fun i h => by simp at h⟩ hr
  simp only [List.nil_append] at htail
  refine ⟨tupV rs, results_eq fn' _ (by rw [hres]; exact hrun), ?_⟩
  rw [ownResK_eq] at hK
  dsimp only at hK
  have hsel : (app (range0 0 nw) (above (reach stK.blk 1000 (app (refsOfVs (ownL fn.ownr vs0 0)) (refsOfBs (takeN stK.blk nw))) []) nw)).Nodup :=
    sel_nodup (above_nodup (reach_nodup _ _ _ _ (by simp))) fun x hx => (above_mem hx).2
  have hfirst : ∀ b, b < nw → nth (app (range0 0 nw) (above (reach stK.blk 1000 (app (refsOfVs (ownL fn.ownr vs0 0)) (refsOfBs (takeN stK.blk nw))) []) nw)) b = some b := fun b hb => by
    rw [app_eq, nth_app_lt _ _ _ (by rw [range0_len]; exact hb), range0_nth hb, Nat.zero_add]
  generalize app (range0 0 nw) (above (reach stK.blk 1000 (app (refsOfVs (ownL fn.ownr vs0 0)) (refsOfBs (takeN stK.blk nw))) []) nw) = sel at hK hsel hfirst
  split at hK
  · rename_i vs' bs' h1 h2
    simp only [Option.some.injEq, Prod.mk.injEq] at hK
    obtain ⟨rfl, hbs⟩ := hK
    rw [hblk] at h2
    obtain ⟨x1, x2⟩ := remapVs_some h1
    have hol := ownL_len fn.ownr vs0 0
    let own3 : OI → Owner := fun
      | .tmp t p => if t < vs0.length ∧ memN fn.ownr t = true then own2 (.tmp (N + t) p) else none
      | .self i => match nth sel i with | some k => own2 (.self k) | none => none
      | .cell i j => match nth sel i with | some k => own2 (.cell k j) | none => none
    have hsub : ∀ t p B s, own3 (.tmp t p) = some (B, s) → own2 (.tmp (N + t) p) = some (B, s) := fun t p B s e => by
      simp only [own3] at e
      split at e
      · exact e
      · cases e
    have hall : ∀ x B s, own3 x = some (B, s) → ∃ y, own2 y = some (B, s) := fun x B s e => by
      cases x with
      | tmp t p => exact ⟨_, hsub _ _ _ _ e⟩
      | self i => simp only [own3] at e; split at e; exact ⟨_, e⟩; cases e
      | cell i j => simp only [own3] at e; split at e; exact ⟨_, e⟩; cases e
    have hrel3 : Rel E R (pickρ ρ2 sel) own3 rs.length ⟨zipFr vs' 0, bs'⟩ ⟨rs.toArray, []⟩ w := by
      refine hrel.pick hsel h2 (by simp) rfl ?_ ?_ (fun _ => rfl) (fun _ _ => rfl) (fun t p => .tmp (N + t) p) (fun t p B s e => ⟨hsub _ _ _ _ e, fun k => ⟨by simp, fun j _ => by simp⟩⟩) (fun t p t' p' B s _ _ e => by
        injection e with e1 e2
        have : t = t' := by omega
        rw [this, e2]) hrel.low ?_
      · rintro B off (hR | ⟨x, t, hx, ht⟩)
        · exact .inl hR
        · obtain ⟨y, hy⟩ := hall _ _ _ hx
          exact .inr ⟨y, t, hy, ht⟩
      · intro t
        refine zip_rel (o := fun t p => own3 (.tmp t p)) (by omega) (fun i g1 g2 => ?_) (fun i hi p => ?_) t
        · have hi0 : i < vs0.length := by omega
          have hv := hrel.fr (N + i)
          rw [htail.fr i hi0, htail.tmp i g2] at hv
          have hx := x2 i (by omega) g1
          rw [ownL_get _ _ _ _ hi0 (by omega), Nat.zero_add] at hx
          cases hm : memN fn.ownr i with
          | true =>
            rw [hm] at hx
            have : (fun p => own3 (.tmp i p)) = fun p => own2 (.tmp (N + i) p) := funext fun p => by simp only [own3, hi0, hm, and_self, if_true]
            rw [this]
            exact hv.remap (fun b b' B => pickρ_posIn b b' B) hx
          | false =>
            rw [hm] at hx
            have : (fun p => own3 (.tmp i p)) = fun p => none := funext fun p => by simp [own3, hm]
            rw [this]
            exact hv.dis.remap (fun b b' B => pickρ_posIn b b' B) hx
        · simp only [own3]
          rw [if_neg]
          omega
      · intro x B t hx
        obtain ⟨y, hy⟩ := hall _ _ _ hx
        exact (hrel.out _ _ _ hy).2
    have hext3 : ∀ b B, nth ρ0 b = some B → nth (pickρ ρ2 sel) b = some B := fun b B hb => by
      have := nth_lt hb
      exact pickρ_nth (hfirst b (by omega)) (hext2 _ _ (hext _ _ hb))
    have hg3 : Grow own0 own3 w0 w := (hg.trans hgrow).trans (.refl _ _ _ fun x B t' hx => by
      obtain ⟨y, hy⟩ := hall _ _ _ hx
      exact ⟨y, t', hy, Nat.le_refl _⟩)
    cases hob : fn.ownb with
    | true =>
      rw [hob] at hbs
      subst hbs
      exact ⟨rs, _, own3, rfl, by omega, hext3, hrel3, hg3⟩
    | false =>
      rw [hob] at hbs
      subst hbs
      obtain ⟨own4, k1, k2⟩ := hrel3.disBs
      exact ⟨rs, _, own4, rfl, by omega, hext3, k2, hg3.trans (.of_sub k1)⟩
  · cases hK

end Go.Abs
