/-
  Regions: in their own order, and in any order.
-/
import Derived.Test.YtpafnokcmhlbgaaA21
namespace Go.Abs

variable {E : Env} {P : Program} {R : Places} {ρ : List Nat} {own : OI → Owner} {N : Nat} {st : St} {a : Act} {w : World}
variable {call : CallF} {tk : List Nat} {sigs : List (Nat × Sig)} {ops : Array Oper} {Q : Exit → Act → World → Prop}

theorem Rel.same {st' : St} (h : Rel E R ρ own N st a w) (hs : st.same st') : Rel E R ρ own N st' a w :=
  ⟨h.size, h.defers, fun t => by rw [← hs.fr t]; exact h.fr t, by rw [← hs.blk]; exact h.rho, fun k => by rw [← hs.blk]; exact h.blk k, h.inj, h.out, h.low⟩

theorem After.same {st1 st' : St} {a' : Act} {w' : World} (h : After E R ρ own N w st1 a' w') (hs : st1.same st') : After E R ρ own N w st' a' w' := by
  obtain ⟨ρ', own', h1, h2, h3⟩ := h
  exact ⟨ρ', own', h1, h2.same hs, h3⟩

theorem After.refl (h : Rel E R ρ own N st a w) : After E R ρ own N w st a w :=
  ⟨ρ, own, fun _ _ h => h, h, .refl _ _ _ fun x B t hx => ⟨x, t, hx, Nat.le_refl _⟩⟩

theorem dstOf_eq (j : Nat) : dstOf ops.toList j = (ops[j]?).bind (·.dst) := by
  have key : ∀ (l : List Oper) (j : Nat), dstOf l j = (l[j]?).bind (·.dst) := by
    intro l
    induction l with
    | nil => intro j; simp [dstOf]
    | cons o r ih => intro j; cases j <;> simp [dstOf, ih]
  rw [key, Array.getElem?_toList]

theorem wanted_of (h : Rel E R ρ own N st a w) {o : Oper} {b : Bool} (hw : wantedA ops.toList o st = some b) : Region.wanted o (yielded ops a.tmps) = b := by
  unfold wantedA at hw
  unfold Region.wanted
  cases hg : o.guard with
  | none => rw [hg] at hw; exact Option.some.inj hw
  | some jw =>
    obtain ⟨j, want⟩ := jw
    rw [hg] at hw
    dsimp only at hw ⊢
    rw [dstOf_eq] at hw
    unfold yielded
    cases hd : (ops[j]?).bind (·.dst) with
    | none =>
      rw [hd] at hw
      have hw : false = b := Option.some.inj hw
      subst hw
      rfl
    | some g =>
      rw [hd] at hw
      dsimp only at hw
      have hr := h.fr g
      simp only [Option.bind_some]
      split at hw
      · rename_i c hc
        rw [hc] at hr
        have hv : a.tmps[g]? = some (.bool c) := by
          cases e : a.tmps[g]? with
          | none =>
            have : a.tmps.getD g undef = undef := by simp [Array.getD_eq_getD_getElem?, e]
            rw [this] at hr
            have hr := hr.dis
            simp only [AV.dis, AC.dis] at hr
            cases hr with | one _ _ _ hh _ => cases hh
          | some v =>
            have : a.tmps.getD g undef = v := by simp [Array.getD_eq_getD_getElem?, e]
            rw [this] at hr
            have hr := hr.dis
            simp only [AV.dis, AC.dis] at hr
            cases hr with | one _ _ _ hh _ => cases hh; rfl
        rw [hv]
        have hw : (c == want) = b := Option.some.inj hw
        rw [← hw]
        cases c <;> cases want <;> rfl
      · rename_i l hc
        rw [hc] at hr
        have hw : false = b := Option.some.inj hw
        subst hw
        cases e : a.tmps[g]? with
        | none => rfl
        | some v =>
          have : a.tmps.getD g undef = v := by simp [Array.getD_eq_getD_getElem?, e]
          rw [this] at hr
          have hr := hr.dis
          simp only [AV.dis] at hr
          cases hr with | tup _ g' _ _ _ => rfl
      · cases hw

theorem op_wp (G : Good P E) (hcall : CallOk P E call) (h : Rel E R ρ own N st a w) {i : Nat} {o : Oper} {u : Upd} (hi : ops[i]? = some o) (hu : opUpd E call tk sigs ops.toList i o st = some u) (hd : ∀ d, o.dst = some d → d < N)
    {K : Act → World → Prop} (hK : ∀ a' w', After E R ρ own N w (st.apply o.dst u) a' w' → K a' w') : wpOp P ops Q i K a w := by
  unfold wpOp
  simp only [hi]
  unfold opUpd at hu
  split at hu
  · rename_i hw
    rw [if_pos (wanted_of h hw)]
    refine .inl ?_
    unfold Oper.wp
    cases hc : isCall o.op with
    | false =>
      rcases act_sound G h hc hu hd with ⟨v, w', h1, h2⟩ | ⟨w', h1, h2⟩
      · rw [h1]; exact hK _ _ h2
      · rw [h1]; exact hK _ _ h2
    | true =>
      obtain ⟨f, vals, h1, h2⟩ := call_sound hcall h hc hu hd
      rw [h1]
      refine h2.mono ?_
      rintro e w' ⟨v, rfl, h3⟩
      exact hK _ _ h3
  · rename_i hw
    rw [if_neg (by rw [wanted_of h hw]; simp)]
    cases hu
    refine hK _ _ (h.pure0 hd ?_)
    have := AVR.tup (E := E) (w := w) (F := Fn own R) (ρ := ρ) [] (fun _ => undef) (fun _ => none) (fun i hi => by simp at hi) ⟨rfl, fun _ _ _ => rfl⟩
    exact this
  · cases hu

/- IN THE ORDER OF THE TEXT -/

theorem runL_cons {all : List Oper} {i : Nat} {r : List Nat} {fps : List FP} {st' : St} (h : runL E call tk sigs all (i :: r) st = some (fps, st')) :
    ∃ o u fps', nth all i = some o ∧ opUpd E call tk sigs all i o st = some u ∧ fps = footOf all o st u :: fps' ∧ runL E call tk sigs all r (st.apply o.dst u) = some (fps', st') := by
  simp only [runL] at h
  cases ho : nth all i with
  | none => rw [ho] at h; cases h
  | some o =>
    simp only [ho] at h
    cases hu : opUpd E call tk sigs all i o st with
    | none => rw [hu] at h; cases h
    | some u =>
      simp only [hu] at h
      cases hr : runL E call tk sigs all r (st.apply o.dst u) with
      | none => rw [hr] at h; cases h
      | some x =>
        obtain ⟨fps', st2⟩ := x
        simp only [hr] at h
        cases h
        exact ⟨o, u, fps', rfl, hu, rfl, hr⟩

theorem nth_arr (i : Nat) : nth ops.toList i = ops[i]? := by rw [nth_eq, Array.getElem?_toList]

theorem text_wpK (G : Good P E) (hcall : CallOk P E call) (hd : ∀ o ∈ ops.toList, ∀ d, o.dst = some d → d < N) (rest : List Nat) : ∀ (l : List Nat) (st : St) (ρ : List Nat) (own : OI → Owner) (a : Act) (w : World) (fps : List FP) (st' : St), Rel E R ρ own N st a w →
    runL E call tk sigs ops.toList l st = some (fps, st') → (∀ a' w', After E R ρ own N w st' a' w' → wpOps P ops Q rest a' w') → wpOps P ops Q (l ++ rest) a w
  | [], st, ρ, own, a, w, fps, st', h, hr, hQ => by
    simp only [runL, Option.some.injEq, Prod.mk.injEq] at hr
    obtain ⟨_, rfl⟩ := hr
    exact hQ _ _ (.refl h)
  | i :: r, st, ρ, own, a, w, fps, st', h, hr, hQ => by
    obtain ⟨o, u, fps', h1, h2, h3, h4⟩ := runL_cons hr
    rw [List.cons_append, wpOps_cons]
    have ho : ops[i]? = some o := by rw [← nth_arr]; exact h1
    refine op_wp G hcall h ho h2 (hd o (nth_mem h1)) fun a1 w1 hA => ?_
    obtain ⟨ρ1, own1, k1, k2, k3⟩ := hA
    refine text_wpK G hcall hd rest r _ ρ1 own1 a1 w1 fps' st' k2 h4 fun a2 w2 hA2 => hQ _ _ ?_
    obtain ⟨ρ3, own3, m1, m2, m3⟩ := hA2
    exact ⟨ρ3, own3, fun b B hb => m1 _ _ (k1 _ _ hb), m2, k3.trans m3⟩

theorem text_wp (G : Good P E) (hcall : CallOk P E call) (hd : ∀ o ∈ ops.toList, ∀ d, o.dst = some d → d < N) (l : List Nat) (st : St) (ρ : List Nat) (own : OI → Owner) (a : Act) (w : World) (fps : List FP) (st' : St) (h : Rel E R ρ own N st a w)
    (hr : runL E call tk sigs ops.toList l st = some (fps, st')) (hQ : ∀ a' w', After E R ρ own N w st' a' w' → Q .normal a' w') : wpOps P ops Q l a w := by
  have := text_wpK G hcall hd [] l st ρ own a w fps st' h hr hQ
  rwa [List.append_nil] at this

theorem After.trans {st2 : St} {a2 : Act} {w1 w2 : World} {ρ1 : List Nat} {own1 : OI → Owner} (k1 : ∀ b B, nth ρ b = some B → nth ρ1 b = some B) (k3 : Grow own own1 w w1) (h : After E R ρ1 own1 N w1 st2 a2 w2) : After E R ρ own N w st2 a2 w2 := by
  obtain ⟨ρ3, own3, m1, m2, m3⟩ := h
  exact ⟨ρ3, own3, fun b B hb => m1 _ _ (k1 _ _ hb), m2, k3.trans m3⟩

theorem pairK_bind {β : Type} (ops : List Oper) (p : Nat) (th : Bool) (st : St) (K : St → Option β) : pairK E ops p th st K = (pairK E ops p th st some).bind K := by
  unfold pairK
  repeat' split
  all_goals first | rfl | simp only [cond_bind, bind_none', rowsOfK_nat, Option.bind_some]

/-- a literal and its conversion, as one step -/
theorem pair_wp (G : Good P E) (hd : ∀ o ∈ ops.toList, ∀ d, o.dst = some d → d < N) (h : Rel E R ρ own N st a w) {β : Type} {K : St → Option β} {r : β} (hcall : CallOk P E call) {p : Nat} {th : Bool} {rest : List Nat} (hr : pairK E ops.toList p th st K = some r) :
    ∃ st1, K st1 = some r ∧ ((∀ a' w', After E R ρ own N w st1 a' w' → wpOps P ops Q rest a' w') → wpOps P ops Q (p :: (p + 1) :: rest) a w) := by
  unfold pairK at hr
  split at hr <;> try (cases hr; done)
  rename_i o1 o2 h1 h2
  have ho1 : ops[p]? = some o1 := by rw [← nth_arr]; exact h1
  have ho2 : ops[p + 1]? = some o2 := by rw [← nth_arr]; exact h2
  split at hr <;> try (cases hr; done)
  rotate_left
  · rename_i hw1
    split at hr <;> try (cases hr; done)
    rename_i hw2
    refine ⟨_, hr, fun hQ => ?_⟩
    rw [wpOps_cons]
    refine op_wp (call := call) (tk := []) (sigs := []) G hcall h ho1 (u := skipU) (by unfold opUpd; rw [hw1]) (hd o1 (nth_mem h1)) fun a1 w1 hA => ?_
    obtain ⟨ρ1, own1, k1, k2, k3⟩ := hA
    rw [wpOps_cons]
    refine op_wp (call := call) (tk := []) (sigs := []) G hcall k2 ho2 (u := skipU) (by unfold opUpd; rw [hw2]) (hd o2 (nth_mem h2)) fun a2 w2 hA2 => ?_
    exact hQ _ _ (After.trans k1 k3 hA2)
  rename_i hw1
  split at hr <;> try (cases hr; done)
  rename_i t len parts src dst x e1 e2
  split at hr <;> try (cases hr; done)
  rename_i d1 d2 hd1 hd2 hw2
  have hc := (cond_none_some hr).1
  replace hr := (cond_none_some hr).2
  simp only [Bool.and_eq_true] at hc
  have q1 := Nat.eq_of_beq_eq_true hc.1
  have q2 := Nat.eq_of_beq_eq_true hc.2.1
  have q3 := Nat.eq_of_beq_eq_true hc.2.2
  subst q2; subst q3
  obtain rfl : d1 = x := q1.symm
  split at hr <;> try (cases hr; done)
  rename_i ty ht
  split at hr <;> try (cases hr; done)
  rename_i e hde
  split at hr <;> try (cases hr; done)
  rename_i te he
  split at hr <;> try (cases hr; done)
  rename_i hu8
  have hl := (cond_none_some hr).1
  replace hr := (cond_none_some hr).2
  simp only [Bool.and_eq_true] at hl
  have hlim : len * te.size ≤ 16777216 := Nat.le_of_ble_eq_true hl.1
  have hpos := blt_pos hl.2
  have hT := G.ty e te he
  obtain ⟨hk8, hsz1⟩ := byte_kinds G he hu8
  have hut := desc_slice (G.ty _ _ ht) hde
  have hue := desc_int (G.ty _ _ he) hu8
  obtain ⟨z, hz, _⟩ := hT.run_zero (w := w)
  obtain ⟨rows, cs', g1, g2, g3, g4, g5, _, g7⟩ := rows_fill hT.len (parts_rel h parts.toList) (cs := (Array.range (len * te.size)).map (z.cells[· % z.cells.size]!)) (by simp) hr
  have g1' : K (match th with | true => (st.apply (some d1) (Upd.pure .undef)).apply (some d2) ⟨.one (.msl e (lenN st.blk) len), none, [], [.arr e rows], []⟩ | false => (st.apply (some d1) (Upd.pure .undef)).apply (some d2) (Upd.pure (.one (.sl true e rows)))) = some r := by
    cases th <;> exact g1
  have hlen : rows.length = len := by omega
  have hfl := flat_len (even_of hT.len g5)
  have hsz : cs'.size = len := by rw [g3]; simp [hsz1]
  refine ⟨_, g1', fun hQ => ?_⟩
  have hN1 := hd o1 (nth_mem h1) _ hd1
  have hN2 := hd o2 (nth_mem h2) _ hd2
  -- the literal
  have hbs : (Instr.buildSlice t len (parts.map fun x => (x.1, a.eval x.2))).run P w = .ok (.slice (some ⟨w.heap.size, 0, none⟩) len len) (w.alloc (.cells cs' e)) := by
    have hpl : (parts.map fun x => (x.1, a.eval x.2)) = (parts.toList.map fun x => (x.1, a.eval x.2)).toArray := by rw [← Array.toList_map, Array.toArray_toList]
    rw [hpl]
    simp only [Instr.buildSlice, Sem.run_bind, run_underlying hut, Result.andThen_ok, hT.run_size]
    rw [if_neg (by omega)]
    have hz0 : ¬ len * te.size = 0 := by rw [hsz1]; omega
    simp only [hz0, if_false, Sem.run_bind, hz, Result.andThen_ok, Sem.run_pure, g2, run_newRow]
  let w1 := w.alloc (.cells cs' e)
  let v : Value := .slice (some ⟨w.heap.size, 0, none⟩) len len
  let w2 := w1.freeze ⟨w.heap.size, cs'.size, none⟩ 1
  have hsh : w1.shape? w.heap.size = some (e, cs'.size) := by
    simp [w1, World.shape?, World.alloc, -World.alloc_eq]
  have hcv : (convert t t v).run P w1 = .ok v w2 := by
    simp [convert, run_underlying hut, run_underlying hue, v, markStringish, hsh, Result.andThen, w2]
  have hput : (a.put o1.dst v).eval (.tmp d1) = v := by
    show (a.put o1.dst v).tmps.getD d1 undef = v
    rw [hd1, getD_put a (some d1) _ d1 (by rw [h.size]; intro d hd'; cases hd'; exact hN1)]
    simp
  rw [wpOps_cons]
  unfold wpOp
  simp only [ho1]
  rw [if_pos (wanted_of h hw1)]
  refine .inl ?_
  unfold Oper.wp
  have hx1 : (execOp a.eval o1).run P w = .ok (.value v) w1 := by
    unfold execOp
    rw [e1]
    exact run_v hbs
  rw [hx1]
  show wpOps P ops Q ((p + 1) :: rest) (a.put o1.dst v) w1
  obtain ⟨ρ1, own1, k1, k2, k3⟩ := h.pure0 (dst := o1.dst) (v := .undef) (val := v) (by intro d hd'; rw [hd1] at hd'; cases hd'; exact hN1) (.undef _ _ fun _ => rfl)
  rw [wpOps_cons]
  unfold wpOp
  simp only [ho2]
  rw [if_pos (wanted_of k2 hw2)]
  refine .inl ?_
  unfold Oper.wp
  have hx2 : (execOp (a.put o1.dst v).eval o2).run P w1 = .ok (.value v) w2 := by
    unfold execOp
    rw [e2]
    exact run_v (by rw [hput]; exact hcv)
  rw [hx2]
  show wpOps P ops Q rest ((a.put o1.dst v).put o2.dst v) w2
  refine hQ _ _ ?_
  rw [hd1, hd2]
  rw [hd1] at k2
  refine After.trans k1 k3 ?_
  have hold : ∀ i, i < w.heap.size → w2.heap[i]? = w.heap[i]? := fun i hi => by
    have h1 : w.heap.size ≠ i := by omega
    simp [w2, w1, World.freeze, World.alloc, -World.alloc_eq, Array.getElem?_modify, Array.getElem?_push, h1, Ne.symm h1]
  have hnew : w2.heap[w.heap.size]? = some (.cells cs' e (cs'.size, cs'.size + 1)) := by
    simp [w2, w1, World.freeze, World.alloc, -World.alloc_eq]
    rw [Array.getElem_modify_self]
    simp
  have hsize : w2.heap.size = w.heap.size + 1 := by
    simp [w2, w1, World.freeze, World.alloc, -World.alloc_eq]
  have hkept : w.keptBut w2 (inT fun _ _ => False) := by
    have hka := World.keptBut_alloc w (.cells cs' e) (inT fun _ _ => False)
    refine ⟨hka.1, hka.2.1, fun i hi => ?_⟩
    have := hka.2.2 i hi
    rw [hold i hi]
    rwa [heap_alloc_old w _ i hi] at this
  have hcell : ∀ i, cell w2 w.heap.size i = cs'[i]? := fun i => by simp [cell, World.cell?, hnew]
  have hcold : ∀ i, i < cs'.size → cold w2 w.heap.size i = false := fun i hi => by
    simp only [cold, World.frozen?, hnew]
    simp; omega
  have hblk : lenN (st.apply (some d1) (Upd.pure .undef)).blk = lenN st.blk := by simp [St.apply, Upd.pure, writes, app_eq, lenN_eq]
  have hr1 : ρ1.length = (st.apply (some d1) (Upd.pure .undef)).blk.length := k2.rho
  have hl16 : len ≤ 16777216 := by rw [hsz1, Nat.mul_one] at hlim; exact hlim
  have hkd : ∀ (i : Nat) (hi : i < rows.flatten.length) {w' : World} {F F' : Places} {v' : Value}, CR E w F rows.flatten[i] v' → CR E w' F' rows.flatten[i] v' := fun i hi w' F F' v' m2 => by
    obtain ⟨r', hr', hc'⟩ := List.mem_flatten.1 (List.getElem_mem hi)
    have hkd : (rows.flatten[i]).kind = .int .u8 := by
      have h1 := List.mem_map_of_mem (f := Cell.kind) hc'
      rw [g5 r' hr', hk8] at h1
      simpa using h1
    generalize rows.flatten[i] = c at m2 hkd
    cases m2 <;> first | exact .int _ _ | cases hkd
  cases th with
  | false =>
    have hmk := k2.pure (dst := some d2) (val := v) (rd := []) (by intro d hd'; cases hd'; exact hN2) hkept (v := .one (.sl true e rows)) fun F' hK hF => .of (by
      show AR E w2 F' ρ1 (.sl true e rows) (.slice (some ⟨w.heap.size, 0, none⟩) len len) none
      rw [← hlen]
      refine .full _ _ _ _ (.slice e rows te _ 0 _ (fun i => cs'.getD i undef) he g5 (Nat.le_refl _) (fun i hi => ⟨?_, fun hc => ?_⟩) fun i hi => ?_)
      · have hi2 : i < cs'.size := by rw [hsz, ← hlen]; rw [hfl, hsz1, Nat.mul_one] at hi; exact hi
        rw [Nat.zero_add, hcell]
        simp [hi2]
      · exact fresh_free k2 (Nat.le_refl _) (hF _ _ hc)
      · obtain ⟨v', m1, m2⟩ := g7 i hi
        simp only [Nat.zero_mul, Nat.zero_add] at m1
        have : cs'.getD i undef = v' := by simp [m1]
        rw [this]
        exact hkd i hi m2)
    exact hmk
  | true =>
    have hmk := k2.makeArr (dst := some d2) (v := .one (.msl e (lenN (st.apply (some d1) (Upd.pure .undef)).blk) len)) (val := v) (B' := w.heap.size) (e := e) (rows' := rows) (rd := []) (by intro d hd'; cases hd'; exact hN2) hkept (Nat.le_refl _) (by omega)
      (fun hK => .of (by
        rw [lenN_eq]
        exact .msl e _ _ te w.heap.size len (by have h9 := nth_app_len ρ1 w.heap.size; rw [hr1] at h9; exact h9) he hpos (Nat.le_refl _) (by omega) fun j hj => by
          rw [hsz1, Nat.mul_one] at hj
          refine ⟨⟨cs'[j]'(by omega), ?_⟩, hcold j (by omega)⟩
          rw [hcell]; simp [show j < cs'.size by omega]))
      (fun hK => .inr ⟨w.heap.size, te, by have h9 := nth_app_len ρ1 w.heap.size; rw [hr1] at h9; exact h9, by simp only [ownSwap, if_true], fun j => by simp only [ownSwap, if_true], he, g5, ⟨⟨cs'[0]'(by omega), by rw [hcell]; simp [show 0 < cs'.size by omega]⟩, hcold 0 (by omega)⟩, fun i hi => by
        obtain ⟨v', m1, m2⟩ := g7 i hi
        simp only [Nat.zero_mul, Nat.zero_add] at m1
        refine ⟨v', by rw [hcell]; exact m1, hcold i (by rw [hsz]; rw [hfl, hsz1] at hi; omega), ?_⟩
        exact hkd i hi m2⟩)
    rw [hblk] at hmk
    exact hmk

/- IN ANY ORDER -/

def beforeOf (ops : List Oper) (j : Nat) : List Nat := (nth (befs ops []) j).getD []

theorem befs_keep : ∀ (l : List Oper) (acc : List (List Nat)) (k : Nat) (x : List Nat), nth acc k = some x → nth (befs l acc) k = some x
  | [], _, _, _, h => h
  | o :: r, acc, k, x, h => befs_keep r _ k x (by rw [app_eq, nth_app_lt _ _ _ (nth_lt h)]; exact h)

theorem befs_at (l : List Oper) : ∀ (acc : List (List Nat)) (m : Nat) (o : Oper), nth l m = some o →
    ∃ acc' : List (List Nat), (∀ k x, nth acc' k = some x → nth (befs l acc) k = some x) ∧ nth (befs l acc) (acc.length + m) = some (flatN acc' (edgesOf o.after.toList)) := by
  induction l with
  | nil => intro acc m o h; cases h
  | cons p r ih =>
    intro acc m o h
    cases m with
    | zero =>
      have h : p = o := Option.some.inj h
      subst h
      refine ⟨acc, fun k x hk => befs_keep _ _ _ _ hk, ?_⟩
      rw [befs, Nat.add_zero]
      exact befs_keep _ _ _ _ (by rw [app_eq]; exact nth_app_len _ _)
    | succ m =>
      obtain ⟨acc', h1, h2⟩ := ih (app acc [flatN acc (edgesOf p.after.toList)]) m o h
      refine ⟨acc', h1, ?_⟩
      rw [befs, ← h2, app_eq, List.length_append, List.length_singleton]
      congr 1
      omega

theorem addAll_mem : ∀ {l r : List Nat} {x : Nat}, x ∈ addAll l r → x ∈ l ∨ x ∈ r
  | [], _, _, h => .inr h
  | y :: l, r, x, h => by
    unfold addAll at h
    cases hm : memN r y with
    | true =>
      rw [hm, cond_true] at h
      rcases addAll_mem h with h | h
      · exact .inl (List.mem_cons_of_mem _ h)
      · exact .inr h
    | false =>
      rw [hm, cond_false] at h
      rcases addAll_mem h with h | h
      · exact .inl (List.mem_cons_of_mem _ h)
      · rcases List.mem_cons.1 h with rfl | h
        · exact .inl List.mem_cons_self
        · exact .inr h

theorem flatN_mem {acc : List (List Nat)} : ∀ {l : List Nat} {x : Nat}, x ∈ flatN acc l → x ∈ l ∨ ∃ d ∈ l, ∃ y, nth acc d = some y ∧ x ∈ y
  | [], x, h => by simp [flatN] at h
  | d :: r, x, h => by
    simp only [flatN] at h
    rcases addAll_mem h with h | h
    · rcases List.mem_cons.1 h with rfl | h
      · exact .inl (by simp)
      · split at h
        · rename_i y e; exact .inr ⟨d, by simp, y, e, h⟩
        · simp at h
    · rcases flatN_mem h with h | ⟨d', h1, h2⟩
      · exact .inl (by simp [h])
      · exact .inr ⟨d', by simp [h1], h2⟩

theorem before_mem {l : List Oper} {j x : Nat} {o : Oper} (ho : nth l j = some o) (hx : x ∈ beforeOf l j) : x ∈ edgesOf o.after.toList ∨ ∃ d ∈ edgesOf o.after.toList, x ∈ beforeOf l d := by
  obtain ⟨acc', h1, h2⟩ := befs_at l [] j o ho
  simp only [List.length_nil, Nat.zero_add] at h2
  unfold beforeOf at hx
  rw [h2] at hx
  rcases flatN_mem hx with h | ⟨d, hd, y, hy, hm⟩
  · exact .inl h
  · refine .inr ⟨d, hd, ?_⟩
    unfold beforeOf
    rw [h1 d y hy]
    exact hm

theorem bindsAny_eq (e : Edge) : bindsAny e = Region.binds .any e := by
  unfold bindsAny Region.binds
  cases e.ground <;> rfl

theorem edgesOf_mem {x : Nat} (l : List Edge) : x ∈ edgesOf l ↔ ∃ e ∈ l, Region.binds .any e = true ∧ e.on = x := by
  induction l with
  | nil => simp [edgesOf]
  | cons e r ih =>
    rw [edgesOf, bindsAny_eq]
    cases hb : Region.binds .any e with
    | true =>
      rw [cond_true, List.mem_cons, ih]
      constructor
      · rintro (h | ⟨e', h1, h2⟩)
        · exact ⟨e, by simp, hb, h.symm⟩
        · exact ⟨e', by simp [h1], h2⟩
      · rintro ⟨e', h1, h2, h3⟩
        rcases List.mem_cons.1 h1 with rfl | h1
        · exact .inl h3.symm
        · exact .inr ⟨e', h1, h2, h3⟩
    | false =>
      rw [cond_false, ih]
      constructor
      · rintro ⟨e', h1, h2⟩
        exact ⟨e', by simp [h1], h2⟩
      · rintro ⟨e', h1, h2, h3⟩
        rcases List.mem_cons.1 h1 with rfl | h1
        · rw [hb] at h2; cases h2
        · exact ⟨e', h1, h2, h3⟩

theorem allLt_mem : ∀ {l : List Nat} {i : Nat}, backward.allLt l i = true → ∀ x ∈ l, x < i
  | [], _, _, x, h => by simp at h
  | y :: r, i, h, x, hx => by
    simp only [backward.allLt, Bool.and_eq_true] at h
    rcases List.mem_cons.1 hx with rfl | hx
    · exact Nat.lt_of_succ_le (Nat.le_of_ble_eq_true h.1)
    · exact allLt_mem h.2 x hx

theorem backward_at (l : List Oper) : ∀ {k j : Nat} {o : Oper}, backward l k = true → nth l j = some o → ∀ x ∈ edgesOf o.after.toList, x < k + j := by
  induction l with
  | nil => intro k j o _ h; cases h
  | cons p r ih =>
    intro k j o h ho x hx
    rw [backward, Bool.and_eq_true] at h
    cases j with
    | zero =>
      have ho : p = o := Option.some.inj ho
      subst ho
      exact allLt_mem h.1 x hx
    | succ j =>
      have := ih h.2 ho x hx
      omega

theorem openGo : ∀ {ps : List FP} {b : List Nat} {q : FP} {i k : Nat} {p : FP}, openOk.go b q ps i = true → nth ps k = some p → i + k ∈ b ∨ p.apart q = true
  | p' :: ps, b, q, i, 0, p, h, hp => by
    simp only [openOk.go, Bool.and_eq_true, Bool.or_eq_true, memN_eq] at h
    simp only [nth, Option.some.injEq] at hp
    subst hp
    exact h.1
  | p' :: ps, b, q, i, k + 1, p, h, hp => by
    simp only [openOk.go, Bool.and_eq_true] at h
    have := openGo h.2 hp
    rwa [show i + 1 + k = i + (k + 1) by omega] at this

theorem openAt {bef : List (List Nat)} : ∀ {qs : List FP} {j m : Nat} {seen : List FP} {k : Nat} {p q : FP}, openOk bef qs j seen = true → nth qs m = some q → k < seen.length + m → nth (seen ++ qs) k = some p →
    k ∈ (nth bef (j + m)).getD [] ∨ p.apart q = true
  | q' :: qs, j, 0, seen, k, p, q, h, hq, hk, hp => by
    simp only [openOk, Bool.and_eq_true] at h
    simp only [nth, Option.some.injEq] at hq
    subst hq
    rw [nth_app_lt _ _ _ (by omega)] at hp
    have := openGo h.1 hp
    rw [Nat.zero_add] at this
    rw [Nat.add_zero]
    cases e : nth bef j with
    | none => rw [e] at this; simpa using this
    | some l => rw [e] at this; simpa using this
  | q' :: qs, j, m + 1, seen, k, p, q, h, hq, hk, hp => by
    simp only [openOk, Bool.and_eq_true, app_eq] at h
    have := openAt (m := m) (seen := seen ++ [q']) (k := k) (p := p) h.2 hq (by simp; omega) (by simpa using hp)
    rwa [show j + 1 + m = j + (m + 1) by omega] at this

theorem any_wp (G : Good P E) (hcall : CallOk P E call) (hd : ∀ o ∈ ops.toList, ∀ d, o.dst = some d → d < N) (hback : backward ops.toList 0 = true) {φ : Nat → FP} (hap : ∀ i j, i < j → j < ops.size → i ∈ beforeOf ops.toList j ∨ (φ i).apart (φ j) = true) {stf : St} :
    ∀ (n : Nat) (rem : List Nat) (listed : Array Bool) (st : St) (ρ : List Nat) (own : OI → Owner) (a : Act) (w : World) (st' : St), rem.length = n → rem.Pairwise (· < ·) → (∀ i, i ∈ rem ↔ i < ops.size ∧ listed.getD i false = false) → listed.size = ops.size →
      (∀ j, j < ops.size → listed.getD j false = true → ∀ x ∈ beforeOf ops.toList j, listed.getD x false = true) →
      Rel E R ρ own N st a w → runL E call tk sigs ops.toList rem st = some (rem.map φ, st') → st'.same stf → (∀ a' w', After E R ρ own N w stf a' w' → Q .normal a' w') → wpAny P .any ops Q n listed a w := by
  have hgd : ∀ (listed : Array Bool) (i : Nat), listed.size = ops.size → i < ops.size → listed.getD i true = listed.getD i false := fun listed i hs hi => by
    simp [hs, hi]
  have hempty : ∀ (rem : List Nat) (listed : Array Bool), rem.Pairwise (· < ·) → (∀ i, i ∈ rem ↔ i < ops.size ∧ listed.getD i false = false) → listed.size = ops.size → Region.ready .any ops listed = [] → rem = [] := by
    intro rem listed hs hm hsz hr
    cases rem with
    | nil => rfl
    | cons i r =>
      exfalso
      obtain ⟨hi1, hi2⟩ := (hm i).1 (by simp)
      have : i ∈ Region.ready .any ops listed := by
        rw [mem_ready]
        refine ⟨by rw [hgd _ _ hsz hi1]; exact hi2, ops[i], by simp [hi1], fun e he hb => ?_⟩
        have hlt := backward_at _ hback (o := ops[i]) (j := i) (by rw [nth_arr]; simp [hi1]) e.on ((edgesOf_mem _).2 ⟨e, by simpa using he, hb, rfl⟩)
        rw [Nat.zero_add] at hlt
        cases hl : listed.getD e.on false with
        | true => rfl
        | false =>
          have := (hm e.on).2 ⟨by omega, hl⟩
          rcases List.mem_cons.1 this with h | h
          · omega
          · have := (List.pairwise_cons.1 hs).1 _ h
            omega
      rw [hr] at this
      cases this
  have hfin : ∀ (rem : List Nat) (st st' : St) (ρ : List Nat) (own : OI → Owner) (a : Act) (w : World), rem = [] → Rel E R ρ own N st a w → runL E call tk sigs ops.toList rem st = some (rem.map φ, st') → st'.same stf → (∀ a' w', After E R ρ own N w stf a' w' → Q .normal a' w') → Q .normal a w := by
    intro rem st st' ρ own a w hrem h hr hs hQ
    subst hrem
    simp only [runL, Option.some.injEq, Prod.mk.injEq] at hr
    obtain ⟨_, rfl⟩ := hr
    exact hQ _ _ ((After.refl h).same hs)
  intro n
  induction n with
  | zero =>
    intro rem listed st ρ own a w st' hn hs hm hsz hdc h hr hsame hQ
    have hrem : rem = [] := List.length_eq_zero_iff.1 hn
    refine ⟨?_, hfin rem st st' ρ own a w hrem h hr hsame hQ⟩
    cases hrd : Region.ready .any ops listed with
    | nil => rfl
    | cons i r =>
      have : i ∈ Region.ready .any ops listed := by rw [hrd]; simp
      obtain ⟨h1, o, h2, _⟩ := mem_ready.1 this
      have hi : i < ops.size := (Array.getElem?_eq_some_iff.1 h2).1
      have := (hm i).2 ⟨hi, by rw [← hgd _ _ hsz hi]; exact h1⟩
      rw [hrem] at this
      cases this
  | succ n ih =>
    intro rem listed st ρ own a w st' hn hs hm hsz hdc h hr hsame hQ
    refine ⟨fun hrd => hfin rem st st' ρ own a w (hempty rem listed hs hm hsz hrd) h hr hsame hQ, fun i hi => ?_⟩
    obtain ⟨h1, o, h2, hall⟩ := mem_ready.1 hi
    have hlt : i < ops.size := (Array.getElem?_eq_some_iff.1 h2).1
    have hil : listed.getD i false = false := by rw [← hgd _ _ hsz hlt]; exact h1
    have hir : i ∈ rem := (hm i).2 ⟨hlt, hil⟩
    have hnth : nth ops.toList i = some o := by rw [nth_arr]; exact h2
    have hedge : ∀ x ∈ edgesOf o.after.toList, listed.getD x false = true := fun x hx => by
      obtain ⟨e, he, hb, rfl⟩ := (edgesOf_mem _).1 hx
      exact hall e (by simpa using he) hb
    have hbef : ∀ x ∈ beforeOf ops.toList i, listed.getD x false = true := fun x hx => by
      rcases before_mem hnth hx with hx | ⟨d, hd1, hd2⟩
      · exact hedge x hx
      · have hld := hedge d hd1
        refine hdc d ?_ hld x hd2
        have := backward_at _ hback hnth d hd1
        omega
    obtain ⟨pre, post, rfl⟩ := List.append_of_mem hir
    obtain ⟨p1, p2, p3⟩ := List.pairwise_append.1 hs
    obtain ⟨p4, p5⟩ := List.pairwise_cons.1 p2
    simp only [List.map_append, List.map_cons] at hr
    obtain ⟨st2, g1, g2⟩ := front (by simp) hr (fun f hf => by
      obtain ⟨p, hp, rfl⟩ := List.mem_map.1 hf
      have hpi : p < i := p3 p hp i (by simp)
      rcases hap p i hpi hlt with hb | hb
      · have h3 := hbef p hb
        have h4 := ((hm p).1 (by simp [hp])).2
        rw [h3] at h4; cases h4
      · exact hb)
    obtain ⟨o', u, fps', k1, k2, k3, k4⟩ := runL_cons g1
    rw [hnth] at k1
    cases k1
    have hfps : fps' = (pre ++ post).map φ := by
      rw [List.cons.injEq] at k3
      rw [← k3.2, List.map_append]
    rw [hfps] at k4
    refine op_wp G hcall h h2 k2 (hd o (nth_mem hnth)) fun a1 w1 hA => ?_
    obtain ⟨ρ1, own1, q1, q2, q3⟩ := hA
    have hset : ∀ x, (listed.setIfInBounds i true).getD x false = if x = i then true else listed.getD x false := fun x => by
      by_cases e : x = i
      · subst e; simp [hsz, hlt]
      · rw [getD_set_ne false (Ne.symm e), if_neg e]
    refine ih (pre ++ post) (listed.setIfInBounds i true) _ ρ1 own1 a1 w1 st2 (by simp at hn ⊢; omega) ?_ ?_ (by simpa using hsz) ?_ q2 k4 (g2.symm.trans hsame) ?_
    · exact List.pairwise_append.2 ⟨p1, p5, fun x hx y hy => p3 x hx y (by simp [hy])⟩
    · intro x
      rw [hset]
      by_cases e : x = i
      · subst e
        simp only [if_true, Bool.true_eq_false, and_false, iff_false]
        intro hx
        rcases List.mem_append.1 hx with hx | hx
        · have := p3 x hx x (by simp); omega
        · have := p4 x hx; omega
      · rw [if_neg e, ← hm x]
        simp [e]
    · intro j hj hlj x hx
      rw [hset] at hlj ⊢
      split
      · rfl
      · split at hlj
        · rename_i e; subst e; exact hbef x hx
        · exact hdc j hj hlj x hx
    · intro a2 w2 hA2
      obtain ⟨ρ3, own3, m1, m2, m3⟩ := hA2
      exact hQ _ _ ⟨ρ3, own3, fun b B hb => m1 _ _ (q1 _ _ hb), m2, q3.trans m3⟩

/- FROM THE INTERPRETER's RUN OF A REGION -/

theorem regK_some {β : Type} {all : List Oper} {K : St → Option β} {r : β} : ∀ {l : List Oper} {i : Nat} {st st0 : St}, (∀ k o, nth l k = some o → nth all (i + k) = some o) → regK E call tk sigs all l i st K = some r → st.same st0 →
    ∃ fps st' st1, runL E call tk sigs all (range0 i l.length) st0 = some (fps, st') ∧ st1.same st' ∧ K st1 = some r
  | [], i, st, st0, _, h, hs => ⟨[], st0, st, rfl, hs, h⟩
  | o :: l, i, st, st0, hl, h, hs => by
    have ho : nth all i = some o := hl 0 o rfl
    have hl' : ∀ k o, nth l k = some o → nth all (i + 1 + k) = some o := fun k o' hk => by
      have := hl (k + 1) o' hk
      rwa [show i + (k + 1) = i + 1 + k by omega] at this
    simp only [regK] at h
    obtain ⟨st1, hs1, hc⟩ := guardK_some h
    have hs2 := hs1.trans hs
    have key : ∀ u st2, opUpd E call tk sigs all i o st0 = some u → st2.same (st0.apply o.dst u) → regK E call tk sigs all l (i + 1) st2 K = some r →
        ∃ fps st' st1, runL E call tk sigs all (range0 i (o :: l).length) st0 = some (fps, st') ∧ st1.same st' ∧ K st1 = some r := by
      intro u st2 hu hst hreg
      obtain ⟨fps, st', st3, k1, k2, k3⟩ := regK_some hl' hreg hst
      exact ⟨footOf all o st0 u :: fps, st', st3, by simp only [List.length_cons, range0, runL, ho, hu, k1], k2, k3⟩
    have hw : wantedA all o st0 = wantedA all o st := by
      unfold wantedA
      cases o.guard with
      | none => rfl
      | some jw =>
        dsimp only
        cases dstOf all jw.1 with
        | none => rfl
        | some g => dsimp only; rw [hs.fr g]
    rcases hc with ⟨hw1, hc⟩ | ⟨hw1, hc⟩
    · obtain ⟨u, hu, hK⟩ := actK_some hc
      refine key u _ ?_ (hs2.apply o.dst u) hK
      unfold opUpd
      rw [hw, hw1]
      exact actK_loc hu (fun t _ => hs2.fr t) (fun b _ => by rw [hs2.blk]) fun _ => by rw [hs2.blk]
    · refine key skipU _ ?_ (hs2.apply o.dst skipU) hc
      unfold opUpd
      rw [hw, hw1]

theorem regDK_some {β : Type} {all : List Oper} {bef : List (List Nat)} {K : St → Option β} {r : β} : ∀ {l : List Oper} {i : Nat} {fps0 : List FP} {st st0 : St}, (∀ k o, nth l k = some o → nth all (i + k) = some o) → regDK E call tk sigs all bef l i fps0 st K = some r → st.same st0 →
    ∃ fps st' st1, runL E call tk sigs all (range0 i l.length) st0 = some (fps, st') ∧ st1.same st' ∧ openOk bef (fps0 ++ fps) 0 [] = true ∧ K st1 = some r
  | [], i, fps0, st, st0, _, h, hs => by
    simp only [regDK] at h
    cases ho : openOk bef fps0 0 [] with
    | false => rw [ho] at h; cases h
    | true => rw [ho] at h; exact ⟨[], st0, st, rfl, hs, by simpa using ho, h⟩
  | o :: l, i, fps0, st, st0, hl, h, hs => by
    have ho : nth all i = some o := hl 0 o rfl
    have hl' : ∀ k o, nth l k = some o → nth all (i + 1 + k) = some o := fun k o' hk => by
      have := hl (k + 1) o' hk
      rwa [show i + (k + 1) = i + 1 + k by omega] at this
    simp only [regDK] at h
    obtain ⟨st1, hs1, hc⟩ := guardK_some h
    have hs2 := hs1.trans hs
    have key : ∀ u st2, opUpd E call tk sigs all i o st0 = some u → st2.same (st0.apply o.dst u) → regDK E call tk sigs all bef l (i + 1) (app fps0 [footOf all o st1 u]) st2 K = some r →
        ∃ fps st' st1, runL E call tk sigs all (range0 i (o :: l).length) st0 = some (fps, st') ∧ st1.same st' ∧ openOk bef (fps0 ++ fps) 0 [] = true ∧ K st1 = some r := by
      intro u st2 hu hst hreg
      obtain ⟨fps, st', st3, k1, k2, k3, k4⟩ := regDK_some hl' hreg hst
      refine ⟨footOf all o st0 u :: fps, st', st3, by simp only [List.length_cons, range0, runL, ho, hu, k1], k2, ?_, k4⟩
      rw [app_eq, footOf_same hs2, List.append_assoc] at k3
      exact k3
    have hw : wantedA all o st0 = wantedA all o st := by
      unfold wantedA
      cases o.guard with
      | none => rfl
      | some jw =>
        dsimp only
        cases dstOf all jw.1 with
        | none => rfl
        | some g => dsimp only; rw [hs.fr g]
    rcases hc with ⟨hw1, hc⟩ | ⟨hw1, hc⟩
    · obtain ⟨u, hu, hK⟩ := actK_some hc
      refine key u _ ?_ (hs2.apply o.dst u) hK
      unfold opUpd
      rw [hw, hw1]
      exact actK_loc hu (fun t _ => hs2.fr t) (fun b _ => by rw [hs2.blk]) fun _ => by rw [hs2.blk]
    · refine key skipU _ ?_ (hs2.apply o.dst skipU) hc
      unfold opUpd
      rw [hw, hw1]

theorem Rel.drawn (h : Rel E R ρ own N st a w) : Rel E R ρ own N st a { w with drawn := w.drawn + 1 } ∧ Grow own own w { w with drawn := w.drawn + 1 } := by
  have hk : w.keptBut { w with drawn := w.drawn + 1 } (inT fun _ _ => False) := by
    have := World.keptBut_refl w (inT fun _ _ => False)
    exact this
  refine h.gen (T := fun _ _ => False) (chg := fun _ => False) (bch := fun _ => False) hk (fun _ _ h => h.elim) (fun y B t' hy => .inl ⟨y, t', hy, Nat.le_refl _⟩) h.inj h.size h.defers (fun t _ => ⟨rfl, rfl, fun _ => rfl⟩) (fun _ _ h => h.elim) h.rho (fun _ _ h => h)
    (fun k _ => ⟨rfl, rfl, fun _ => rfl⟩) fun _ _ h => h.elim

theorem runL_len {all : List Oper} : ∀ {l : List Nat} {st : St} {fps : List FP} {st' : St}, runL E call tk sigs all l st = some (fps, st') → fps.length = l.length
  | [], st, fps, st', h => by simp only [runL, Option.some.injEq, Prod.mk.injEq] at h; rw [← h.1]; rfl
  | i :: r, st, fps, st', h => by
    obtain ⟨o, u, fps', h1, h2, h3, h4⟩ := runL_cons h
    rw [h3, List.length_cons, List.length_cons, runL_len h4]

/- EVERY ORDER, ONE BY ONE -/

theorem sameO_some {β : Type} {x y : Option β} {r : β} (h : sameO x y = some r) : x = some r ∧ y = some r := by
  unfold sameO at h
  split at h
  · rename_i e
    exact ⟨h, e ▸ h⟩
  · cases h

theorem foldO_some {β : Type} {r : β} : ∀ {l : List (Option β)}, foldO l = some r → ∀ x ∈ l, x = some r
  | [], h, _, _ => by cases h
  | [x], h, y, hy => by
    simp only [List.mem_singleton] at hy
    rw [hy]; exact h
  | x :: y :: l, h, z, hz => by
    obtain ⟨h1, h2⟩ := sameO_some (show sameO x (foldO (y :: l)) = some r from h)
    rcases List.mem_cons.1 hz with rfl | hz
    · exact h1
    · exact foldO_some h2 z hz

theorem mapE_eq {β : Type} (f : Nat → Option β) (l : List Nat) : exK.mapE f l = l.map f := by induction l <;> simp_all [exK.mapE]

theorem subN_eq {l d : List Nat} : readyL.subN l d = true ↔ ∀ x ∈ l, x ∈ d := by
  induction l with
  | nil => simp [readyL.subN]
  | cons x l ih => simp [readyL.subN, ih, memN_eq]

theorem readyL_mem (all : List Oper) (done : List Nat) : ∀ (l : List Oper) (i x : Nat), x ∈ readyL all done l i ↔ ∃ o, i ≤ x ∧ nth l (x - i) = some o ∧ x ∉ done ∧ ∀ y ∈ edgesOf o.after.toList, y ∈ done
  | [], i, x => by simp [readyL, nth]
  | o :: r, i, x => by
    have ih := readyL_mem all done r (i + 1) x
    have hkey : x ∈ readyL all done (o :: r) i ↔ ((x = i ∧ i ∉ done ∧ ∀ y ∈ edgesOf o.after.toList, y ∈ done) ∨ x ∈ readyL all done r (i + 1)) := by
      simp only [readyL]
      cases hc : (!memN done i && readyL.subN (edgesOf o.after.toList) done) with
      | true =>
        simp only [Bool.and_eq_true, Bool.not_eq_true'] at hc
        have h1 : i ∉ done := memN_false.1 hc.1
        have h2 := subN_eq.1 hc.2
        simp only [cond_true, List.mem_cons]
        constructor
        · rintro (rfl | h)
          · exact .inl ⟨rfl, h1, h2⟩
          · exact .inr h
        · rintro (⟨rfl, _⟩ | h)
          · exact .inl rfl
          · exact .inr h
      | false =>
        simp only [cond_false]
        constructor
        · exact .inr
        · rintro (⟨rfl, h1, h2⟩ | h)
          · exfalso
            have : (!memN done x && readyL.subN (edgesOf o.after.toList) done) = true := by
              simp only [Bool.and_eq_true, Bool.not_eq_true']
              exact ⟨memN_false.2 h1, subN_eq.2 h2⟩
            rw [this] at hc; cases hc
          · exact h
    rw [hkey, ih]
    constructor
    · rintro (⟨rfl, h1, h2⟩ | ⟨o', h0, h1, h2, h3⟩)
      · exact ⟨o, Nat.le_refl _, by simp [nth], h1, h2⟩
      · refine ⟨o', by omega, ?_, h2, h3⟩
        rw [show x - i = (x - (i + 1)) + 1 by omega]
        exact h1
    · rintro ⟨o', h0, h1, h2, h3⟩
      by_cases e : x = i
      · subst e
        simp only [Nat.sub_self, nth, Option.some.injEq] at h1
        subst h1
        exact .inl ⟨rfl, h2, h3⟩
      · refine .inr ⟨o', by omega, ?_, h2, h3⟩
        rw [show x - i = (x - (i + 1)) + 1 by omega] at h1
        exact h1

theorem ex_wp (G : Good P E) (hcall : CallOk P E call) (hd : ∀ o ∈ ops.toList, ∀ d, o.dst = some d → d < N) {β : Type} {K : St → Option β} {r : β} :
    ∀ (n : Nat) (done : List Nat) (listed : Array Bool) (st : St) (ρ : List Nat) (own : OI → Owner) (a : Act) (w : World), listed.size = ops.size → (∀ i, i < ops.size → (i ∈ done ↔ listed.getD i false = true)) → (∀ i ∈ done, i < ops.size) →
      Rel E R ρ own N st a w → exK E call tk sigs ops.toList n done st K = some r → (∀ st1 a' w', K st1 = some r → After E R ρ own N w st1 a' w' → Q .normal a' w') → wpAny P .any ops Q n listed a w := by
  have hready : ∀ (done : List Nat) (listed : Array Bool), listed.size = ops.size → (∀ i, i < ops.size → (i ∈ done ↔ listed.getD i false = true)) → (∀ i ∈ done, i < ops.size) → ∀ i, i ∈ Region.ready .any ops listed ↔ i ∈ readyL ops.toList done ops.toList 0 := by
    intro done listed hsz hdl hlt i
    rw [mem_ready, readyL_mem]
    constructor
    · rintro ⟨h1, o, h2, h3⟩
      have hi : i < ops.size := (Array.getElem?_eq_some_iff.1 h2).1
      refine ⟨o, by omega, by rw [Nat.sub_zero, nth_arr]; exact h2, fun hc => ?_, fun y hy => ?_⟩
      · have h4 := (hdl i hi).1 hc
        have h5 : listed.getD i true = listed.getD i false := by simp [hsz, hi]
        rw [h5, h4] at h1; cases h1
      · obtain ⟨e, he, hb, rfl⟩ := (edgesOf_mem _).1 hy
        have h4 := h3 e (by simpa using he) hb
        by_cases hy2 : e.on < ops.size
        · exact (hdl _ hy2).2 h4
        · exfalso
          have : listed.getD e.on false = false := by
            rw [Array.getD_eq_getD_getElem?, Array.getElem?_eq_none (by omega)]; rfl
          rw [this] at h4; cases h4
    · rintro ⟨o, _, h2, h3, h4⟩
      rw [Nat.sub_zero, nth_arr] at h2
      have hi : i < ops.size := (Array.getElem?_eq_some_iff.1 h2).1
      refine ⟨?_, o, h2, fun e he hb => ?_⟩
      · have h5 : listed.getD i true = listed.getD i false := by simp [hsz, hi]
        rw [h5]
        cases hc : listed.getD i false with
        | false => rfl
        | true => exact absurd ((hdl i hi).2 hc) h3
      · have h5 := h4 e.on ((edgesOf_mem _).2 ⟨e, by simpa using he, hb, rfl⟩)
        exact (hdl _ (hlt _ h5)).1 h5
  intro n
  induction n with
  | zero =>
    intro done listed st ρ own a w hsz hdl hlt h hr hQ
    simp only [exK] at hr
    obtain ⟨hc, hr⟩ := cond_none_some hr
    have hnil := isNilL_eq.1 hc
    refine ⟨?_, hQ st a w hr (.refl h)⟩
    cases hrd : Region.ready .any ops listed with
    | nil => rfl
    | cons i l =>
      have : i ∈ readyL ops.toList done ops.toList 0 := (hready done listed hsz hdl hlt i).1 (by rw [hrd]; simp)
      rw [hnil] at this; cases this
  | succ n ih =>
    intro done listed st ρ own a w hsz hdl hlt h hr hQ
    simp only [exK] at hr
    refine ⟨fun hrd => ?_, fun i hi => ?_⟩
    · have hnil : readyL ops.toList done ops.toList 0 = [] := by
        cases hc : readyL ops.toList done ops.toList 0 with
        | nil => rfl
        | cons i l =>
          have : i ∈ Region.ready .any ops listed := (hready done listed hsz hdl hlt i).2 (by rw [hc]; simp)
          rw [hrd] at this; cases this
      rw [hnil] at hr
      exact hQ st a w hr (.refl h)
    · have hi2 := (hready done listed hsz hdl hlt i).1 hi
      obtain ⟨o, _, h2, h3, h4⟩ := (readyL_mem _ _ _ _ _).1 hi2
      rw [Nat.sub_zero] at h2
      have h2' : ops[i]? = some o := by rw [← nth_arr]; exact h2
      have hil : i < ops.size := (Array.getElem?_eq_some_iff.1 h2').1
      have hone : guardK ops.toList o st (fun st => actK E call tk (sigAt sigs i) o st fun u => exK E call tk sigs ops.toList n (i :: done) (st.apply o.dst u) K) (fun st => exK E call tk sigs ops.toList n (i :: done) (st.apply o.dst skipU) K) = some r := by
        cases hc : readyL ops.toList done ops.toList 0 with
        | nil => rw [hc] at hi2; cases hi2
        | cons j l =>
          rw [hc] at hr hi2
          dsimp only at hr
          rw [mapE_eq] at hr
          have := foldO_some hr _ (List.mem_map_of_mem hi2)
          simp only [h2] at this
          exact this
      have hset : ∀ x, (listed.setIfInBounds i true).getD x false = if x = i then true else listed.getD x false := fun x => by
        by_cases e : x = i
        · subst e; simp [hsz, hil]
        · rw [getD_set_ne false (Ne.symm e), if_neg e]
      have hdl' : ∀ j, j < ops.size → (j ∈ i :: done ↔ (listed.setIfInBounds i true).getD j false = true) := fun j hj => by
        rw [hset, List.mem_cons, hdl j hj]
        split <;> simp_all
      have hlt' : ∀ j ∈ i :: done, j < ops.size := fun j hj => by
        rcases List.mem_cons.1 hj with rfl | hj
        · exact hil
        · exact hlt j hj
      obtain ⟨st1, hs1, hc⟩ := guardK_some hone
      have key : ∀ u st2, opUpd E call tk sigs ops.toList i o st = some u → st2.same (st.apply o.dst u) → exK E call tk sigs ops.toList n (i :: done) st2 K = some r → wpOp P ops Q i (wpAny P .any ops Q n (listed.setIfInBounds i true)) a w := by
        intro u st2 hu hst hex
        refine op_wp G hcall h h2' hu (hd o (nth_mem h2)) fun a1 w1 hA => ?_
        obtain ⟨ρ1, own1, q1, q2, q3⟩ := hA.same hst.symm
        exact ih (i :: done) (listed.setIfInBounds i true) st2 ρ1 own1 a1 w1 (by simpa using hsz) hdl' hlt' q2 hex fun st3 a3 w3 hK hA3 => hQ st3 a3 w3 hK (After.trans q1 q3 hA3)
      rcases hc with ⟨hw1, hc⟩ | ⟨hw1, hc⟩
      · obtain ⟨u, hu, hK⟩ := actK_some hc
        refine key u _ ?_ (hs1.apply o.dst u) hK
        unfold opUpd
        rw [hw1]
        exact actK_loc hu (fun t _ => hs1.fr t) (fun b _ => by rw [hs1.blk]) fun _ => by rw [hs1.blk]
      · refine key skipU _ ?_ (hs1.apply o.dst skipU) hc
        unfold opUpd
        rw [hw1]

theorem region_wp0 (G : Good P E) (hm : P.follows .mixedOrders = true) (hcall : CallOk P E call) (hd : ∀ o ∈ ops.toList, ∀ d, o.dst = some d → d < N) {β : Type} {K : St → Option β} {r : β} {an : Ann} {draw : Bool} {id : Nat} (h : Rel E R ρ own N st a w)
    (hex : draw = true → memN an.takes 9000000 = false) (hr : regionK E call an ops.toList draw st K = some r) : ∃ st1, K st1 = some r ∧ ∀ Q : Exit → Act → World → Prop, (∀ a' w', After E R ρ own N w st1 a' w' → Q .normal a' w') → (Code.region id ops draw).wp P Q a w := by
  unfold regionK at hr
  cases draw with
  | false =>
    dsimp only at hr
    split at hr
    rotate_left
    · rename_i p th _
      have hple := (cond_none_some hr).1
      replace hr := (cond_none_some hr).2
      have hple := Nat.le_of_ble_eq_true hple
      rw [lenN_eq] at hple
      obtain ⟨fps, st', st1, h1, h2, h3⟩ := regK_some (all := ops.toList) (st0 := st) (fun k o hk => by
        rw [Nat.zero_add]
        rw [takeN_eq, nth_eq] at hk
        rw [nth_eq]
        rw [List.getElem?_take] at hk
        split at hk
        · exact hk
        · cases hk) hr (.refl st)
      have hlp : (takeN ops.toList p).length = p := by rw [takeN_eq, List.length_take]; omega
      rw [hlp] at h1
      rw [pairK_bind] at h3
      obtain ⟨st2, h4, h5⟩ := bind_some h3
      obtain ⟨fps2, st3, st4, h6, h7, h8⟩ := regK_some (all := ops.toList) (st0 := st2) (fun k o hk => by
        rw [dropN_eq, nth_eq, List.getElem?_drop] at hk
        rw [nth_eq]
        exact hk) h5 (.refl st2)
      have hld : (dropN ops.toList (p + 2)).length = ops.toList.length - (p + 2) := by rw [dropN_eq, List.length_drop]
      rw [hld] at h6
      refine ⟨st4, h8, fun Q hQ => wp_region ?_⟩
      have hrange : List.range ops.size = range0 0 p ++ (p :: (p + 1) :: range0 (p + 2) (ops.toList.length - (p + 2))) := by
        have hs : ops.size = ops.toList.length := by simp
        apply List.ext_getElem
        · simp only [List.length_range, List.length_append, range0_len, List.length_cons]; omega
        · intro i g1 g2
          simp only [List.getElem_range]
          have e1 : (range0 0 p ++ (p :: (p + 1) :: range0 (p + 2) (ops.toList.length - (p + 2))))[i]? = some i := by
            have gi : i < ops.size := by simpa using g1
            by_cases c1 : i < p
            · rw [List.getElem?_append_left (by rw [range0_len]; exact c1), ← nth_eq, range0_nth c1, Nat.zero_add]
            · rw [List.getElem?_append_right (by rw [range0_len]; omega), range0_len]
              by_cases c2 : i = p
              · subst c2; simp
              · by_cases c3 : i = p + 1
                · subst c3; simp
                · have e3 : i - p = (i - (p + 2)) + 1 + 1 := by omega
                  rw [e3, List.getElem?_cons_succ, List.getElem?_cons_succ, ← nth_eq, range0_nth (by omega)]
                  congr 1; omega
          rw [List.getElem?_eq_getElem g2] at e1
          exact (Option.some.inj e1).symm
      rw [hrange]
      refine text_wpK G hcall hd _ _ st ρ own a w fps st' h h1 fun a1 w1 hA1 => ?_
      obtain ⟨ρ1, own1, k1, k2, k3⟩ := hA1.same h2.symm
      obtain ⟨st2', e, hp⟩ := pair_wp (Q := Q) (rest := range0 (p + 2) (ops.toList.length - (p + 2))) G hd k2 (K := some) hcall h4
      cases e
      refine hp fun a2 w2 hA2 => ?_
      obtain ⟨ρ2, own2, m1, m2, m3⟩ := hA2
      exact text_wp G hcall hd _ st2 ρ2 own2 a2 w2 fps2 st3 m2 h6 fun a3 w3 hA3 => hQ _ _ (After.trans k1 k3 (After.trans m1 m3 (hA3.same h7.symm)))
    obtain ⟨fps, st', st1, h1, h2, h3⟩ := regK_some (st0 := st) (fun k o hk => by rw [Nat.zero_add]; exact hk) hr (.refl st)
    refine ⟨st1, h3, fun Q hQ => wp_region ?_⟩
    have hrange : List.range ops.size = range0 0 ops.toList.length := by
      apply List.ext_getElem
      · simp [range0_len]
      · intro i g1 g2
        have := range0_nth (n := ops.toList.length) (i := 0) (k := i) (by simpa using g1)
        rw [nth_eq, List.getElem?_eq_getElem g2] at this
        simp at this
        simp [this]
    rw [hrange]
    exact text_wp G hcall hd _ st ρ own a w fps st' h h1 fun a' w' hA => hQ _ _ (hA.same h2.symm)
  | true =>
    dsimp only at hr
    rw [hex rfl] at hr
    dsimp only at hr
    cases hb : backward ops.toList 0 with
    | false => rw [hb] at hr; cases hr
    | true =>
      rw [hb] at hr
      simp only [cond_true] at hr
      obtain ⟨fps, st', st1, h1, h2, h3, h4⟩ := regDK_some (st0 := st) (fun k o hk => by rw [Nat.zero_add]; exact hk) hr (.refl st)
      refine ⟨st1, h4, fun Q hQ => wp_region_any hm ?_⟩
      obtain ⟨hrel, hgrow⟩ := h.drawn
      simp only [List.nil_append] at h3
      have hlen : fps.length = ops.size := by rw [runL_len h1, range0_len]; simp
      have hmap : fps = (range0 0 ops.toList.length).map fun i => fps.getD i ⟨[], [], [], [], false⟩ := by
        apply List.ext_getElem
        · simp [range0_len, hlen]
        · intro i g1 g2
          have hi : i < ops.toList.length := by rw [hlen] at g1; simpa using g1
          have := range0_nth (n := ops.toList.length) (i := 0) (k := i) hi
          rw [nth_eq, List.getElem?_eq_getElem (by simpa using g2)] at this
          simp at this
          simp [this, g1]
      refine any_wp G hcall hd hb (φ := fun i => fps.getD i ⟨[], [], [], [], false⟩) (stf := st1) (fun i j hij hj => ?_) ops.size (range0 0 ops.toList.length) _ st ρ own a _ st' (by simp [range0_len]) ?_ ?_ (by simp) ?_ hrel (by rw [← hmap]; exact h1) h2.symm ?_
      · have hi' : i < fps.length := by omega
        have hj' : j < fps.length := by omega
        have := openAt (bef := befs ops.toList []) (qs := fps) (j := 0) (m := j) (seen := []) (k := i) (p := fps[i]) (q := fps[j]) h3 (by rw [nth_eq]; simp [hj']) (by simpa using hij) (by rw [nth_eq]; simp [hi'])
        rw [Nat.zero_add] at this
        simpa [beforeOf, List.getD, hi', hj'] using this
      · have key : ∀ n i, (range0 i n).Pairwise (· < ·) := by
          intro n
          induction n with
          | zero => intro i; simp [range0]
          | succ n ih =>
            intro i
            simp only [range0, List.pairwise_cons, ih, and_true]
            intro x hx
            have := range0_mem.1 hx
            omega
        exact key _ _
      · intro i
        rw [range0_mem]
        simp
        intro hi
        simp [hi]
      · intro j hj hl
        simp [hj] at hl
      · intro a' w' hA
        obtain ⟨ρ3, own3, m1, m2, m3⟩ := hA
        exact hQ _ _ ⟨ρ3, own3, m1, m2, hgrow.trans m3⟩

theorem region_wp (G : Good P E) (hm : P.follows .mixedOrders = true) (hcall : CallOk P E call) (hd : ∀ o ∈ ops.toList, ∀ d, o.dst = some d → d < N) {β : Type} {K : St → Option β} {r : β} {an : Ann} {draw : Bool} {id : Nat} (h : Rel E R ρ own N st a w)
    (hr : regionK E call an ops.toList draw st K = some r) (Q : Exit → Act → World → Prop) (hQ : ∀ st1 a' w', K st1 = some r → After E R ρ own N w st1 a' w' → Q .normal a' w') : (Code.region id ops draw).wp P Q a w := by
  by_cases hex : draw = true → memN an.takes 9000000 = false
  · obtain ⟨st1, h1, h2⟩ := region_wp0 (id := id) G hm hcall hd h hex hr
    exact h2 Q fun a' w' hA => hQ st1 a' w' h1 hA
  · obtain ⟨rfl, hx⟩ : draw = true ∧ memN an.takes 9000000 = true := by
      cases draw with
      | false => exact absurd (fun h => by cases h) hex
      | true =>
        refine ⟨rfl, ?_⟩
        cases hc : memN an.takes 9000000 with
        | true => rfl
        | false => exact absurd (fun _ => hc) hex
    unfold regionK at hr
    dsimp only at hr
    rw [hx] at hr
    dsimp only at hr
    rw [lenN_eq] at hr
    refine wp_region_any hm ?_
    obtain ⟨hrel, hgrow⟩ := h.drawn
    have hs : ops.toList.length = ops.size := by simp
    rw [hs] at hr
    refine ex_wp G hcall hd ops.size [] _ st ρ own a _ (by simp) (fun i hi => by simp [hi]) (by simp) hrel hr fun st1 a' w' hK hA => ?_
    obtain ⟨ρ3, own3, m1, m2, m3⟩ := hA
    exact hQ st1 a' w' hK ⟨ρ3, own3, m1, m2, hgrow.trans m3⟩

end Go.Abs
