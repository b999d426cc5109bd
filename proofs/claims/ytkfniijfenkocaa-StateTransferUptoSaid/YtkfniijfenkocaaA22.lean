/-
  Regions: in their own order, and in any order.
-/
import Derived.Test.YtkfniijfenkocaaA21
namespace Go.Abs

variable {E : Env} {P : Program} {R : Places} {ρ : List Nat} {own : OI → Owner} {N : Nat} {st : St} {a : Act} {w : World}
variable {call : CallF} {tk : List Nat} {sigs : List (Nat × Sig)} {ops : Array Oper} {Q : Exit → Act → World → Prop}

theorem Rel.same {st' : St} (h : Rel E R ρ own N st a w) (hs : st.same st') : Rel E R ρ own N st' a w :=
  ⟨h.size, h.defers, fun t => by rw [← hs.fr t]; exact h.fr t, by rw [← hs.blk]; exact h.rho, fun k => by rw [← hs.blk]; exact h.blk k, h.inj, h.out, h.low⟩

theorem After.same {st1 st' : St} {a' : Act} {w' : World} (h : After E R ρ own N w st1 a' w') (hs : st1.same st') : After E R ρ own N w st' a' w' := by
  obtain ⟨ρ', own', h1, h2, h3⟩ := h
  exact ⟨ρ', own', h1, h2.same hs, h3⟩

theorem After.refl (h : Rel E R ρ own N st a w) : After E R ρ own N w st a w :=
  ⟨ρ, own, fun _ _ h => h, h, .refl _ _ _ fun x B t hx => ⟨x, t, hx, Nat.le_refl _⟩⟩

theorem dstOf_eq (j : Nat) : dstOf ops.toList j = (ops[j]?).bind (·.dst) := by
  have key : ∀ (l : List Oper) (j : Nat), dstOf l j = (l[j]?).bind (·.dst) := by
    intro l
    induction l with
    | nil => intro j; simp [dstOf]
    | cons o r ih => intro j; cases j <;> simp [dstOf, ih]
  rw [key, Array.getElem?_toList]

theorem wanted_of (h : Rel E R ρ own N st a w) {o : Oper} {b : Bool} (hw : wantedA ops.toList o st = some b) : Region.wanted o (yielded ops a.tmps) = b := by
  unfold wantedA at hw
  unfold Region.wanted
  cases hg : o.guard with
  | none => rw [hg] at hw; exact Option.some.inj hw
  | some jw =>
    obtain ⟨j, want⟩ := jw
    rw [hg] at hw
    dsimp only at hw ⊢
    rw [dstOf_eq] at hw
    unfold yielded
    cases hd : (ops[j]?).bind (·.dst) with
    | none =>
      rw [hd] at hw
      have hw : false = b := Option.some.inj hw
      subst hw
      rfl
    | some g =>
      rw [hd] at hw
      dsimp only at hw
      have hr := h.fr g
      simp only [Option.bind_some]
      split at hw
      · rename_i c hc
        rw [hc] at hr
        have hv : a.tmps[g]? = some (.bool c) := by
          cases e : a.tmps[g]? with
          | none =>
            have : a.tmps.getD g undef = undef := by simp [Array.getD_eq_getD_getElem?, e]
            rw [this] at hr
            have hr := hr.dis
            simp only [AV.dis, AC.dis] at hr
            cases hr with | one _ _ _ hh _ => cases hh
          | some v =>
            have : a.tmps.getD g undef = v := by simp [Array.getD_eq_getD_getElem?, e]
            rw [this] at hr
            have hr := hr.dis
            simp only [AV.dis, AC.dis] at hr
            cases hr with | one _ _ _ hh _ => cases hh; rfl
        rw [hv]
        have hw : (c == want) = b := Option.some.inj hw
        rw [← hw]
        cases c <;> cases want <;> rfl
      · rename_i l hc
        rw [hc] at hr
        have hw : false = b := Option.some.inj hw
        subst hw
        cases e : a.tmps[g]? with
        | none => rfl
        | some v =>
          have : a.tmps.getD g undef = v := by simp [Array.getD_eq_getD_getElem?, e]
          rw [this] at hr
          have hr := hr.dis
          simp only [AV.dis] at hr
          cases hr with | tup _ g' _ _ _ => rfl
      · cases hw

theorem op_wp (G : Good P E) (hcall : CallOk P E call) (h : Rel E R ρ own N st a w) {i : Nat} {o : Oper} {u : Upd} (hi : ops[i]? = some o) (hu : opUpd E call tk sigs ops.toList i o st = some u) (hd : ∀ d, o.dst = some d → d < N)
    {K : Act → World → Prop} (hK : ∀ a' w', After E R ρ own N w (st.apply o.dst u) a' w' → K a' w') : wpOp P ops Q i K a w := by
  unfold wpOp
  simp only [hi]
  unfold opUpd at hu
  split at hu
  · rename_i hw
    rw [if_pos (wanted_of h hw)]
    refine .inl ?_
    unfold Oper.wp
    cases hc : isCall o.op with
    | false =>
      rcases act_sound G h hc hu hd with ⟨v, w', h1, h2⟩ | ⟨w', h1, h2⟩
      · rw [h1]; exact hK _ _ h2
      · rw [h1]; exact hK _ _ h2
    | true =>
      obtain ⟨f, vals, h1, h2⟩ := call_sound hcall h hc hu hd
      rw [h1]
      refine h2.mono ?_
      rintro e w' ⟨v, rfl, h3⟩
      exact hK _ _ h3
  · rename_i hw
    rw [if_neg (by rw [wanted_of h hw]; simp)]
    cases hu
    refine hK _ _ (h.pure0 hd ?_)
    have := AVR.tup (E := E) (w := w) (F := Fn own R) (ρ := ρ) [] (fun _ => undef) (fun _ => none) (fun i hi => by simp at hi) ⟨rfl, fun _ _ _ => rfl⟩
    exact this
  · cases hu

/- IN THE ORDER OF THE TEXT -/

theorem runL_cons {all : List Oper} {i : Nat} {r : List Nat} {fps : List FP} {st' : St} (h : runL E call tk sigs all (i :: r) st = some (fps, st')) :
    ∃ o u fps', nth all i = some o ∧ opUpd E call tk sigs all i o st = some u ∧ fps = footOf all o st u :: fps' ∧ runL E call tk sigs all r (st.apply o.dst u) = some (fps', st') := by
  simp only [runL] at h
  cases ho : nth all i with
  | none => rw [ho] at h; cases h
  | some o =>
    simp only [ho] at h
    cases hu : opUpd E call tk sigs all i o st with
    | none => rw [hu] at h; cases h
    | some u =>
      simp only [hu] at h
      cases hr : runL E call tk sigs all r (st.apply o.dst u) with
      | none => rw [hr] at h; cases h
      | some x =>
        obtain ⟨fps', st2⟩ := x
        simp only [hr] at h
        cases h
        exact ⟨o, u, fps', rfl, hu, rfl, hr⟩

theorem nth_arr (i : Nat) : nth ops.toList i = ops[i]? := by rw [nth_eq, Array.getElem?_toList]

theorem text_wp (G : Good P E) (hcall : CallOk P E call) (hd : ∀ o ∈ ops.toList, ∀ d, o.dst = some d → d < N) : ∀ (l : List Nat) (st : St) (ρ : List Nat) (own : OI → Owner) (a : Act) (w : World) (fps : List FP) (st' : St), Rel E R ρ own N st a w →
    runL E call tk sigs ops.toList l st = some (fps, st') → (∀ a' w', After E R ρ own N w st' a' w' → Q .normal a' w') → wpOps P ops Q l a w
  | [], st, ρ, own, a, w, fps, st', h, hr, hQ => by
    simp only [runL, Option.some.injEq, Prod.mk.injEq] at hr
    obtain ⟨_, rfl⟩ := hr
    exact hQ _ _ (.refl h)
  | i :: r, st, ρ, own, a, w, fps, st', h, hr, hQ => by
    obtain ⟨o, u, fps', h1, h2, h3, h4⟩ := runL_cons hr
    rw [wpOps_cons]
    have ho : ops[i]? = some o := by rw [← nth_arr]; exact h1
    refine op_wp G hcall h ho h2 (hd o (nth_mem h1)) fun a1 w1 hA => ?_
    obtain ⟨ρ1, own1, k1, k2, k3⟩ := hA
    refine text_wp G hcall hd r _ ρ1 own1 a1 w1 fps' st' k2 h4 fun a2 w2 hA2 => hQ _ _ ?_
    obtain ⟨ρ3, own3, m1, m2, m3⟩ := hA2
    exact ⟨ρ3, own3, fun b B hb => m1 _ _ (k1 _ _ hb), m2, k3.trans m3⟩

/- IN ANY ORDER -/

def beforeOf (ops : List Oper) (j : Nat) : List Nat := (nth (befs ops []) j).getD []

theorem befs_keep : ∀ (l : List Oper) (acc : List (List Nat)) (k : Nat) (x : List Nat), nth acc k = some x → nth (befs l acc) k = some x
  | [], _, _, _, h => h
  | o :: r, acc, k, x, h => befs_keep r _ k x (by rw [app_eq, nth_app_lt _ _ _ (nth_lt h)]; exact h)

theorem befs_at (l : List Oper) : ∀ (acc : List (List Nat)) (m : Nat) (o : Oper), nth l m = some o →
    ∃ acc' : List (List Nat), (∀ k x, nth acc' k = some x → nth (befs l acc) k = some x) ∧ nth (befs l acc) (acc.length + m) = some (flatN acc' (edgesOf o.after.toList)) := by
  induction l with
  | nil => intro acc m o h; cases h
  | cons p r ih =>
    intro acc m o h
    cases m with
    | zero =>
      have h : p = o := Option.some.inj h
      subst h
      refine ⟨acc, fun k x hk => befs_keep _ _ _ _ hk, ?_⟩
      rw [befs, Nat.add_zero]
      exact befs_keep _ _ _ _ (by rw [app_eq]; exact nth_app_len _ _)
    | succ m =>
      obtain ⟨acc', h1, h2⟩ := ih (app acc [flatN acc (edgesOf p.after.toList)]) m o h
      refine ⟨acc', h1, ?_⟩
      rw [befs, ← h2, app_eq, List.length_append, List.length_singleton]
      congr 1
      omega

theorem addAll_mem : ∀ {l r : List Nat} {x : Nat}, x ∈ addAll l r → x ∈ l ∨ x ∈ r
  | [], _, _, h => .inr h
  | y :: l, r, x, h => by
    unfold addAll at h
    cases hm : memN r y with
    | true =>
      rw [hm, cond_true] at h
      rcases addAll_mem h with h | h
      · exact .inl (List.mem_cons_of_mem _ h)
      · exact .inr h
    | false =>
      rw [hm, cond_false] at h
      rcases addAll_mem h with h | h
      · exact .inl (List.mem_cons_of_mem _ h)
      · rcases List.mem_cons.1 h with rfl | h
        · exact .inl List.mem_cons_self
        · exact .inr h

theorem flatN_mem {acc : List (List Nat)} : ∀ {l : List Nat} {x : Nat}, x ∈ flatN acc l → x ∈ l ∨ ∃ d ∈ l, ∃ y, nth acc d = some y ∧ x ∈ y
  | [], x, h => by simp [flatN] at h
  | d :: r, x, h => by
    simp only [flatN] at h
    rcases addAll_mem h with h | h
    · rcases List.mem_cons.1 h with rfl | h
      · exact .inl (by simp)
      · split at h
        · rename_i y e; exact .inr ⟨d, by simp, y, e, h⟩
        · simp at h
    · rcases flatN_mem h with h | ⟨d', h1, h2⟩
      · exact .inl (by simp [h])
      · exact .inr ⟨d', by simp [h1], h2⟩

theorem before_mem {l : List Oper} {j x : Nat} {o : Oper} (ho : nth l j = some o) (hx : x ∈ beforeOf l j) : x ∈ edgesOf o.after.toList ∨ ∃ d ∈ edgesOf o.after.toList, x ∈ beforeOf l d := by
  obtain ⟨acc', h1, h2⟩ := befs_at l [] j o ho
  simp only [List.length_nil, Nat.zero_add] at h2
  unfold beforeOf at hx
  rw [h2] at hx
  rcases flatN_mem hx with h | ⟨d, hd, y, hy, hm⟩
  · exact .inl h
  · refine .inr ⟨d, hd, ?_⟩
    unfold beforeOf
    rw [h1 d y hy]
    exact hm

theorem bindsAny_eq (e : Edge) : bindsAny e = Region.binds .any e := by
  unfold bindsAny Region.binds
  cases e.ground <;> rfl

theorem edgesOf_mem {x : Nat} (l : List Edge) : x ∈ edgesOf l ↔ ∃ e ∈ l, Region.binds .any e = true ∧ e.on = x := by
  induction l with
  | nil => simp [edgesOf]
  | cons e r ih =>
    rw [edgesOf, bindsAny_eq]
    cases hb : Region.binds .any e with
    | true =>
      rw [cond_true, List.mem_cons, ih]
      constructor
      · rintro (h | ⟨e', h1, h2⟩)
        · exact ⟨e, by simp, hb, h.symm⟩
        · exact ⟨e', by simp [h1], h2⟩
      · rintro ⟨e', h1, h2, h3⟩
        rcases List.mem_cons.1 h1 with rfl | h1
        · exact .inl h3.symm
        · exact .inr ⟨e', h1, h2, h3⟩
    | false =>
      rw [cond_false, ih]
      constructor
      · rintro ⟨e', h1, h2⟩
        exact ⟨e', by simp [h1], h2⟩
      · rintro ⟨e', h1, h2, h3⟩
        rcases List.mem_cons.1 h1 with rfl | h1
        · rw [hb] at h2; cases h2
        · exact ⟨e', h1, h2, h3⟩

theorem allLt_mem : ∀ {l : List Nat} {i : Nat}, backward.allLt l i = true → ∀ x ∈ l, x < i
  | [], _, _, x, h => by simp at h
  | y :: r, i, h, x, hx => by
    simp only [backward.allLt, Bool.and_eq_true] at h
    rcases List.mem_cons.1 hx with rfl | hx
    · exact Nat.lt_of_succ_le (Nat.le_of_ble_eq_true h.1)
    · exact allLt_mem h.2 x hx

theorem backward_at (l : List Oper) : ∀ {k j : Nat} {o : Oper}, backward l k = true → nth l j = some o → ∀ x ∈ edgesOf o.after.toList, x < k + j := by
  induction l with
  | nil => intro k j o _ h; cases h
  | cons p r ih =>
    intro k j o h ho x hx
    rw [backward, Bool.and_eq_true] at h
    cases j with
    | zero =>
      have ho : p = o := Option.some.inj ho
      subst ho
      exact allLt_mem h.1 x hx
    | succ j =>
      have := ih h.2 ho x hx
      omega

theorem openGo : ∀ {ps : List FP} {b : List Nat} {q : FP} {i k : Nat} {p : FP}, openOk.go b q ps i = true → nth ps k = some p → i + k ∈ b ∨ p.apart q = true
  | p' :: ps, b, q, i, 0, p, h, hp => by
    simp only [openOk.go, Bool.and_eq_true, Bool.or_eq_true, memN_eq] at h
    simp only [nth, Option.some.injEq] at hp
    subst hp
    exact h.1
  | p' :: ps, b, q, i, k + 1, p, h, hp => by
    simp only [openOk.go, Bool.and_eq_true] at h
    have := openGo h.2 hp
    rwa [show i + 1 + k = i + (k + 1) by omega] at this

theorem openAt {bef : List (List Nat)} : ∀ {qs : List FP} {j m : Nat} {seen : List FP} {k : Nat} {p q : FP}, openOk bef qs j seen = true → nth qs m = some q → k < seen.length + m → nth (seen ++ qs) k = some p →
    k ∈ (nth bef (j + m)).getD [] ∨ p.apart q = true
  | q' :: qs, j, 0, seen, k, p, q, h, hq, hk, hp => by
    simp only [openOk, Bool.and_eq_true] at h
    simp only [nth, Option.some.injEq] at hq
    subst hq
    rw [nth_app_lt _ _ _ (by omega)] at hp
    have := openGo h.1 hp
    rw [Nat.zero_add] at this
    rw [Nat.add_zero]
    cases e : nth bef j with
    | none => rw [e] at this; simpa using this
    | some l => rw [e] at this; simpa using this
  | q' :: qs, j, m + 1, seen, k, p, q, h, hq, hk, hp => by
    simp only [openOk, Bool.and_eq_true, app_eq] at h
    have := openAt (m := m) (seen := seen ++ [q']) (k := k) (p := p) h.2 hq (by simp; omega) (by simpa using hp)
    rwa [show j + 1 + m = j + (m + 1) by omega] at this

theorem any_wp (G : Good P E) (hcall : CallOk P E call) (hd : ∀ o ∈ ops.toList, ∀ d, o.dst = some d → d < N) (hback : backward ops.toList 0 = true) {φ : Nat → FP} (hap : ∀ i j, i < j → j < ops.size → i ∈ beforeOf ops.toList j ∨ (φ i).apart (φ j) = true) {stf : St} :
    ∀ (n : Nat) (rem : List Nat) (listed : Array Bool) (st : St) (ρ : List Nat) (own : OI → Owner) (a : Act) (w : World) (st' : St), rem.length = n → rem.Pairwise (· < ·) → (∀ i, i ∈ rem ↔ i < ops.size ∧ listed.getD i false = false) → listed.size = ops.size →
      (∀ j, j < ops.size → listed.getD j false = true → ∀ x ∈ beforeOf ops.toList j, listed.getD x false = true) →
      Rel E R ρ own N st a w → runL E call tk sigs ops.toList rem st = some (rem.map φ, st') → st'.same stf → (∀ a' w', After E R ρ own N w stf a' w' → Q .normal a' w') → wpAny P .any ops Q n listed a w := by
  have hgd : ∀ (listed : Array Bool) (i : Nat), listed.size = ops.size → i < ops.size → listed.getD i true = listed.getD i false := fun listed i hs hi => by
    simp [hs, hi]
  have hempty : ∀ (rem : List Nat) (listed : Array Bool), rem.Pairwise (· < ·) → (∀ i, i ∈ rem ↔ i < ops.size ∧ listed.getD i false = false) → listed.size = ops.size → Region.ready .any ops listed = [] → rem = [] := by
    intro rem listed hs hm hsz hr
    cases rem with
    | nil => rfl
    | cons i r =>
      exfalso
      obtain ⟨hi1, hi2⟩ := (hm i).1 (by simp)
      have : i ∈ Region.ready .any ops listed := by
        rw [mem_ready]
        refine ⟨by rw [hgd _ _ hsz hi1]; exact hi2, ops[i], by simp [hi1], fun e he hb => ?_⟩
        have hlt := backward_at _ hback (o := ops[i]) (j := i) (by rw [nth_arr]; simp [hi1]) e.on ((edgesOf_mem _).2 ⟨e, by simpa using he, hb, rfl⟩)
        rw [Nat.zero_add] at hlt
        cases hl : listed.getD e.on false with
        | true => rfl
        | false =>
          have := (hm e.on).2 ⟨by omega, hl⟩
          rcases List.mem_cons.1 this with h | h
          · omega
          · have := (List.pairwise_cons.1 hs).1 _ h
            omega
      rw [hr] at this
      cases this
  have hfin : ∀ (rem : List Nat) (st st' : St) (ρ : List Nat) (own : OI → Owner) (a : Act) (w : World), rem = [] → Rel E R ρ own N st a w → runL E call tk sigs ops.toList rem st = some (rem.map φ, st') → st'.same stf → (∀ a' w', After E R ρ own N w stf a' w' → Q .normal a' w') → Q .normal a w := by
    intro rem st st' ρ own a w hrem h hr hs hQ
    subst hrem
    simp only [runL, Option.some.injEq, Prod.mk.injEq] at hr
    obtain ⟨_, rfl⟩ := hr
    exact hQ _ _ ((After.refl h).same hs)
  intro n
  induction n with
  | zero =>
    intro rem listed st ρ own a w st' hn hs hm hsz hdc h hr hsame hQ
    have hrem : rem = [] := List.length_eq_zero_iff.1 hn
    refine ⟨?_, hfin rem st st' ρ own a w hrem h hr hsame hQ⟩
    cases hrd : Region.ready .any ops listed with
    | nil => rfl
    | cons i r =>
      have : i ∈ Region.ready .any ops listed := by rw [hrd]; simp
      obtain ⟨h1, o, h2, _⟩ := mem_ready.1 this
      have hi : i < ops.size := (Array.getElem?_eq_some_iff.1 h2).1
      have := (hm i).2 ⟨hi, by rw [← hgd _ _ hsz hi]; exact h1⟩
      rw [hrem] at this
      cases this
  | succ n ih =>
    intro rem listed st ρ own a w st' hn hs hm hsz hdc h hr hsame hQ
    refine ⟨fun hrd => hfin rem st st' ρ own a w (hempty rem listed hs hm hsz hrd) h hr hsame hQ, fun i hi => ?_⟩
    obtain ⟨h1, o, h2, hall⟩ := mem_ready.1 hi
    have hlt : i < ops.size := (Array.getElem?_eq_some_iff.1 h2).1
    have hil : listed.getD i false = false := by rw [← hgd _ _ hsz hlt]; exact h1
    have hir : i ∈ rem := (hm i).2 ⟨hlt, hil⟩
    have hnth : nth ops.toList i = some o := by rw [nth_arr]; exact h2
    have hedge : ∀ x ∈ edgesOf o.after.toList, listed.getD x false = true := fun x hx => by
      obtain ⟨e, he, hb, rfl⟩ := (edgesOf_mem _).1 hx
      exact hall e (by simpa using he) hb
    have hbef : ∀ x ∈ beforeOf ops.toList i, listed.getD x false = true := fun x hx => by
      rcases before_mem hnth hx with hx | ⟨d, hd1, hd2⟩
      · exact hedge x hx
      · have hld := hedge d hd1
        refine hdc d ?_ hld x hd2
        have := backward_at _ hback hnth d hd1
        omega
    obtain ⟨pre, post, rfl⟩ := List.append_of_mem hir
    obtain ⟨p1, p2, p3⟩ := List.pairwise_append.1 hs
    obtain ⟨p4, p5⟩ := List.pairwise_cons.1 p2
    simp only [List.map_append, List.map_cons] at hr
    obtain ⟨st2, g1, g2⟩ := front (by simp) hr (fun f hf => by
      obtain ⟨p, hp, rfl⟩ := List.mem_map.1 hf
      have hpi : p < i := p3 p hp i (by simp)
      rcases hap p i hpi hlt with hb | hb
      · have h3 := hbef p hb
        have h4 := ((hm p).1 (by simp [hp])).2
        rw [h3] at h4; cases h4
      · exact hb)
    obtain ⟨o', u, fps', k1, k2, k3, k4⟩ := runL_cons g1
    rw [hnth] at k1
    cases k1
    have hfps : fps' = (pre ++ post).map φ := by
      rw [List.cons.injEq] at k3
      rw [← k3.2, List.map_append]
    rw [hfps] at k4
    refine op_wp G hcall h h2 k2 (hd o (nth_mem hnth)) fun a1 w1 hA => ?_
    obtain ⟨ρ1, own1, q1, q2, q3⟩ := hA
    have hset : ∀ x, (listed.setIfInBounds i true).getD x false = if x = i then true else listed.getD x false := fun x => by
      by_cases e : x = i
      · subst e; simp [hsz, hlt]
      · rw [getD_set_ne false (Ne.symm e), if_neg e]
    refine ih (pre ++ post) (listed.setIfInBounds i true) _ ρ1 own1 a1 w1 st2 (by simp at hn ⊢; omega) ?_ ?_ (by simpa using hsz) ?_ q2 k4 (g2.symm.trans hsame) ?_
    · exact List.pairwise_append.2 ⟨p1, p5, fun x hx y hy => p3 x hx y (by simp [hy])⟩
    · intro x
      rw [hset]
      by_cases e : x = i
      · subst e
        simp only [if_true, Bool.true_eq_false, and_false, iff_false]
        intro hx
        rcases List.mem_append.1 hx with hx | hx
        · have := p3 x hx x (by simp); omega
        · have := p4 x hx; omega
      · rw [if_neg e, ← hm x]
        simp [e]
    · intro j hj hlj x hx
      rw [hset] at hlj ⊢
      split
      · rfl
      · split at hlj
        · rename_i e; subst e; exact hbef x hx
        · exact hdc j hj hlj x hx
    · intro a2 w2 hA2
      obtain ⟨ρ3, own3, m1, m2, m3⟩ := hA2
      exact hQ _ _ ⟨ρ3, own3, fun b B hb => m1 _ _ (q1 _ _ hb), m2, q3.trans m3⟩

/- FROM THE INTERPRETER's RUN OF A REGION -/

theorem regK_some {β : Type} {all : List Oper} {K : St → Option β} {r : β} : ∀ {l : List Oper} {i : Nat} {st st0 : St}, (∀ k o, nth l k = some o → nth all (i + k) = some o) → regK E call tk sigs all l i st K = some r → st.same st0 →
    ∃ fps st' st1, runL E call tk sigs all (range0 i l.length) st0 = some (fps, st') ∧ st1.same st' ∧ K st1 = some r
  | [], i, st, st0, _, h, hs => ⟨[], st0, st, rfl, hs, h⟩
  | o :: l, i, st, st0, hl, h, hs => by
    have ho : nth all i = some o := hl 0 o rfl
    have hl' : ∀ k o, nth l k = some o → nth all (i + 1 + k) = some o := fun k o' hk => by
      have := hl (k + 1) o' hk
      rwa [show i + (k + 1) = i + 1 + k by omega] at this
    simp only [regK] at h
    obtain ⟨st1, hs1, hc⟩ := guardK_some h
    have hs2 := hs1.trans hs
    have key : ∀ u st2, opUpd E call tk sigs all i o st0 = some u → st2.same (st0.apply o.dst u) → regK E call tk sigs all l (i + 1) st2 K = some r →
        ∃ fps st' st1, runL E call tk sigs all (range0 i (o :: l).length) st0 = some (fps, st') ∧ st1.same st' ∧ K st1 = some r := by
      intro u st2 hu hst hreg
      obtain ⟨fps, st', st3, k1, k2, k3⟩ := regK_some hl' hreg hst
      exact ⟨footOf all o st0 u :: fps, st', st3, by simp only [List.length_cons, range0, runL, ho, hu, k1], k2, k3⟩
    have hw : wantedA all o st0 = wantedA all o st := by
      unfold wantedA
      cases o.guard with
      | none => rfl
      | some jw =>
        dsimp only
        cases dstOf all jw.1 with
        | none => rfl
        | some g => dsimp only; rw [hs.fr g]
    rcases hc with ⟨hw1, hc⟩ | ⟨hw1, hc⟩
    · obtain ⟨u, hu, hK⟩ := actK_some hc
      refine key u _ ?_ (hs2.apply o.dst u) hK
      unfold opUpd
      rw [hw, hw1]
      exact actK_loc hu (fun t _ => hs2.fr t) (fun b _ => by rw [hs2.blk]) fun _ => by rw [hs2.blk]
    · refine key skipU _ ?_ (hs2.apply o.dst skipU) hc
      unfold opUpd
      rw [hw, hw1]

theorem regDK_some {β : Type} {all : List Oper} {bef : List (List Nat)} {K : St → Option β} {r : β} : ∀ {l : List Oper} {i : Nat} {fps0 : List FP} {st st0 : St}, (∀ k o, nth l k = some o → nth all (i + k) = some o) → regDK E call tk sigs all bef l i fps0 st K = some r → st.same st0 →
    ∃ fps st' st1, runL E call tk sigs all (range0 i l.length) st0 = some (fps, st') ∧ st1.same st' ∧ openOk bef (fps0 ++ fps) 0 [] = true ∧ K st1 = some r
  | [], i, fps0, st, st0, _, h, hs => by
    simp only [regDK] at h
    cases ho : openOk bef fps0 0 [] with
    | false => rw [ho] at h; cases h
    | true => rw [ho] at h; exact ⟨[], st0, st, rfl, hs, by simpa using ho, h⟩
  | o :: l, i, fps0, st, st0, hl, h, hs => by
    have ho : nth all i = some o := hl 0 o rfl
    have hl' : ∀ k o, nth l k = some o → nth all (i + 1 + k) = some o := fun k o' hk => by
      have := hl (k + 1) o' hk
      rwa [show i + (k + 1) = i + 1 + k by omega] at this
    simp only [regDK] at h
    obtain ⟨st1, hs1, hc⟩ := guardK_some h
    have hs2 := hs1.trans hs
    have key : ∀ u st2, opUpd E call tk sigs all i o st0 = some u → st2.same (st0.apply o.dst u) → regDK E call tk sigs all bef l (i + 1) (app fps0 [footOf all o st1 u]) st2 K = some r →
        ∃ fps st' st1, runL E call tk sigs all (range0 i (o :: l).length) st0 = some (fps, st') ∧ st1.same st' ∧ openOk bef (fps0 ++ fps) 0 [] = true ∧ K st1 = some r := by
      intro u st2 hu hst hreg
      obtain ⟨fps, st', st3, k1, k2, k3, k4⟩ := regDK_some hl' hreg hst
      refine ⟨footOf all o st0 u :: fps, st', st3, by simp only [List.length_cons, range0, runL, ho, hu, k1], k2, ?_, k4⟩
      rw [app_eq, footOf_same hs2, List.append_assoc] at k3
      exact k3
    have hw : wantedA all o st0 = wantedA all o st := by
      unfold wantedA
      cases o.guard with
      | none => rfl
      | some jw =>
        dsimp only
        cases dstOf all jw.1 with
        | none => rfl
        | some g => dsimp only; rw [hs.fr g]
    rcases hc with ⟨hw1, hc⟩ | ⟨hw1, hc⟩
    · obtain ⟨u, hu, hK⟩ := actK_some hc
      refine key u _ ?_ (hs2.apply o.dst u) hK
      unfold opUpd
      rw [hw, hw1]
      exact actK_loc hu (fun t _ => hs2.fr t) (fun b _ => by rw [hs2.blk]) fun _ => by rw [hs2.blk]
    · refine key skipU _ ?_ (hs2.apply o.dst skipU) hc
      unfold opUpd
      rw [hw, hw1]

theorem Rel.drawn (h : Rel E R ρ own N st a w) : Rel E R ρ own N st a { w with drawn := w.drawn + 1 } ∧ Grow own own w { w with drawn := w.drawn + 1 } := by
  have hk : w.keptBut { w with drawn := w.drawn + 1 } (inT fun _ _ => False) := by
    have := World.keptBut_refl w (inT fun _ _ => False)
    exact this
  refine h.gen (T := fun _ _ => False) (chg := fun _ => False) (bch := fun _ => False) hk (fun _ _ h => h.elim) (fun y B t' hy => .inl ⟨y, t', hy, Nat.le_refl _⟩) h.inj h.size h.defers (fun t _ => ⟨rfl, rfl, fun _ => rfl⟩) (fun _ _ h => h.elim) h.rho (fun _ _ h => h)
    (fun k _ => ⟨rfl, rfl, fun _ => rfl⟩) fun _ _ h => h.elim

theorem runL_len {all : List Oper} : ∀ {l : List Nat} {st : St} {fps : List FP} {st' : St}, runL E call tk sigs all l st = some (fps, st') → fps.length = l.length
  | [], st, fps, st', h => by simp only [runL, Option.some.injEq, Prod.mk.injEq] at h; rw [← h.1]; rfl
  | i :: r, st, fps, st', h => by
    obtain ⟨o, u, fps', h1, h2, h3, h4⟩ := runL_cons h
    rw [h3, List.length_cons, List.length_cons, runL_len h4]

theorem region_wp (G : Good P E) (hm : P.follows .mixedOrders = true) (hcall : CallOk P E call) (hd : ∀ o ∈ ops.toList, ∀ d, o.dst = some d → d < N) {β : Type} {K : St → Option β} {r : β} {an : Ann} {draw : Bool} {id : Nat} (h : Rel E R ρ own N st a w)
    (hr : regionK E call an ops.toList draw st K = some r) : ∃ st1, K st1 = some r ∧ ∀ Q : Exit → Act → World → Prop, (∀ a' w', After E R ρ own N w st1 a' w' → Q .normal a' w') → (Code.region id ops draw).wp P Q a w := by
  unfold regionK at hr
  cases draw with
  | false =>
    dsimp only at hr
    obtain ⟨fps, st', st1, h1, h2, h3⟩ := regK_some (st0 := st) (fun k o hk => by rw [Nat.zero_add]; exact hk) hr (.refl st)
    refine ⟨st1, h3, fun Q hQ => wp_region ?_⟩
    have hrange : List.range ops.size = range0 0 ops.toList.length := by
      apply List.ext_getElem
      · simp [range0_len]
      · intro i g1 g2
        have := range0_nth (n := ops.toList.length) (i := 0) (k := i) (by simpa using g1)
        rw [nth_eq, List.getElem?_eq_getElem g2] at this
        simp at this
        simp [this]
    rw [hrange]
    exact text_wp G hcall hd _ st ρ own a w fps st' h h1 fun a' w' hA => hQ _ _ (hA.same h2.symm)
  | true =>
    dsimp only at hr
    cases hb : backward ops.toList 0 with
    | false => rw [hb] at hr; cases hr
    | true =>
      rw [hb] at hr
      simp only [cond_true] at hr
      obtain ⟨fps, st', st1, h1, h2, h3, h4⟩ := regDK_some (st0 := st) (fun k o hk => by rw [Nat.zero_add]; exact hk) hr (.refl st)
      refine ⟨st1, h4, fun Q hQ => wp_region_any hm ?_⟩
      obtain ⟨hrel, hgrow⟩ := h.drawn
      simp only [List.nil_append] at h3
      have hlen : fps.length = ops.size := by rw [runL_len h1, range0_len]; simp
      have hmap : fps = (range0 0 ops.toList.length).map fun i => fps.getD i ⟨[], [], [], [], false⟩ := by
        apply List.ext_getElem
        · simp [range0_len, hlen]
        · intro i g1 g2
          have hi : i < ops.toList.length := by rw [hlen] at g1; simpa using g1
          have := range0_nth (n := ops.toList.length) (i := 0) (k := i) hi
          rw [nth_eq, List.getElem?_eq_getElem (by simpa using g2)] at this
          simp at this
          simp [this, g1]
      refine any_wp G hcall hd hb (φ := fun i => fps.getD i ⟨[], [], [], [], false⟩) (stf := st1) (fun i j hij hj => ?_) ops.size (range0 0 ops.toList.length) _ st ρ own a _ st' (by simp [range0_len]) ?_ ?_ (by simp) ?_ hrel (by rw [← hmap]; exact h1) h2.symm ?_
      · have hi' : i < fps.length := by omega
        have hj' : j < fps.length := by omega
        have := openAt (bef := befs ops.toList []) (qs := fps) (j := 0) (m := j) (seen := []) (k := i) (p := fps[i]) (q := fps[j]) h3 (by rw [nth_eq]; simp [hj']) (by simpa using hij) (by rw [nth_eq]; simp [hi'])
        rw [Nat.zero_add] at this
        simpa [beforeOf, List.getD, hi', hj'] using this
      · have key : ∀ n i, (range0 i n).Pairwise (· < ·) := by
          intro n
          induction n with
          | zero => intro i; simp [range0]
          | succ n ih =>
            intro i
            simp only [range0, List.pairwise_cons, ih, and_true]
            intro x hx
            have := range0_mem.1 hx
            omega
        exact key _ _
      · intro i
        rw [range0_mem]
        simp
        intro hi
        simp [hi]
      · intro j hj hl
        simp [hj] at hl
      · intro a' w' hA
        obtain ⟨ρ3, own3, m1, m2, m3⟩ := hA
        exact hQ _ _ ⟨ρ3, own3, m1, m2, hgrow.trans m3⟩

end Go.Abs
