/-
  A region's operations in any order that its edges allow: the same state comes of each.
-/
import Derived.Test.YtpafnokcmhlbgaaA20
namespace Go.Abs

/-- the same to all that look at it -/
structure St.same (s t : St) : Prop where
  fr : ∀ x, get s.fr x = get t.fr x
  blk : s.blk = t.blk

theorem St.same.refl (s : St) : s.same s := ⟨fun _ => rfl, rfl⟩
theorem St.same.trans {s t u : St} (h : s.same t) (k : t.same u) : s.same u := ⟨fun x => (h.fr x).trans (k.fr x), h.blk.trans k.blk⟩
theorem St.same.symm {s t : St} (h : s.same t) : t.same s := ⟨fun x => (h.fr x).symm, h.blk.symm⟩

theorem St.same.apply {s t : St} (h : s.same t) (d : Option Nat) (u : Upd) : (s.apply d u).same (t.apply d u) :=
  ⟨fun x => by simp only [St.apply, get_put, get_disT, h.fr], by simp only [St.apply, h.blk]⟩

section step
variable (E : Env) (call : CallF) (tk : List Nat) (sigs : List (Nat × Sig)) (all : List Oper)

noncomputable def opUpd (i : Nat) (o : Oper) (st : St) : Option Upd :=
  match wantedA all o st with
  | some true => actK E call tk (sigAt sigs i) o st some
  | some false => some skipU
  | none => none

/-- the operations named, in the order in which they are named -/
noncomputable def runL : List Nat → St → Option (List FP × St)
  | [], st => some ([], st)
  | i :: r, st => match nth all i with
    | none => none
    | some o => match opUpd E call tk sigs all i o st with
      | none => none
      | some u => match runL r (st.apply o.dst u) with
        | none => none
        | some (fps, st') => some (footOf all o st u :: fps, st')
end step

variable {E : Env} {call : CallF} {tk : List Nat} {sigs : List (Nat × Sig)} {all : List Oper}

theorem condW_some {β : Type} {want b : Bool} {x y : Option β} {r : β} (h : condW want b x y = some r) : (b = want ∧ x = some r) ∨ ((b == want) = false ∧ want = !b ∧ y = some r) := by
  cases want <;> cases b <;> simp_all [condW]

theorem guardK_some {β : Type} {o : Oper} {st : St} {yes no : St → Option β} {r : β} (h : guardK all o st yes no = some r) :
    ∃ st1, st1.same st ∧ ((wantedA all o st = some true ∧ yes st1 = some r) ∨ (wantedA all o st = some false ∧ no st1 = some r)) := by
  unfold guardK at h
  unfold wantedA
  cases hg : o.guard with
  | none => rw [hg] at h; exact ⟨st, .refl st, .inl ⟨rfl, h⟩⟩
  | some jw =>
    obtain ⟨j, want⟩ := jw
    rw [hg] at h
    dsimp only at h ⊢
    cases hd : dstOf all j with
    | none => rw [hd] at h; exact ⟨st, .refl st, .inr ⟨rfl, h⟩⟩
    | some g =>
      rw [hd] at h
      dsimp only at h ⊢
      have hknow : ∀ b, get st.fr g = .one (.bool b) → (st.know g b).same st := fun b hb =>
        ⟨fun x => by
          by_cases e : x = g
          · subst e; simp only [St.know, get_set_same, hb]
          · simp only [St.know, get_set_ne _ _ e], rfl⟩
      split at h
      · rename_i b hb
        rcases condW_some h with ⟨e, h⟩ | ⟨e, e2, h⟩
        · refine ⟨_, ?_, .inl ⟨by first | (simp only [hb]; simp [e]; done) | (simp [hb, e]; done) | simp [e], h⟩⟩
          subst e; exact hknow _ hb
        · refine ⟨_, ?_, .inr ⟨by simp only [hb, e], h⟩⟩
          subst e2; simpa using hknow _ hb
      · rename_i hb
        exact ⟨st, .refl st, .inr ⟨by simp only [hb], h⟩⟩
      · cases h

theorem opUpd_loc {i : Nat} {o : Oper} {st st' : St} {u : Upd} (hu : opUpd E call tk sigs all i o st = some u) (ht : ∀ t ∈ looks all o, get st.fr t = get st'.fr t)
    (hb : ∀ b ∈ u.rd, nth st.blk b = nth st'.blk b) (hn : u.nu ≠ [] → st.blk.length = st'.blk.length) : opUpd E call tk sigs all i o st' = some u := by
  have hw : wantedA all o st' = wantedA all o st := by
    unfold wantedA
    cases hg : o.guard with
    | none => rfl
    | some jw =>
      obtain ⟨j, want⟩ := jw
      dsimp only
      cases hd : dstOf all j with
      | none => rfl
      | some g =>
        dsimp only
        rw [ht g (by simp [looks, hg, hd, optL, app_eq])]
  unfold opUpd at hu ⊢
  rw [hw]
  split at hu
  · exact actK_loc hu (fun t hm => ht t (by simp [looks, app_eq, hm])) hb hn
  · exact hu
  · cases hu

theorem footOf_same {o : Oper} {s t : St} (h : s.same t) (u : Upd) : footOf all o s u = footOf all o t u := by simp only [footOf, h.blk]

theorem opUpd_same {i : Nat} {o : Oper} {st st' : St} {u : Upd} (h : st.same st') (hu : opUpd E call tk sigs all i o st = some u) : opUpd E call tk sigs all i o st' = some u :=
  opUpd_loc hu (fun t _ => h.fr t) (fun b _ => by rw [h.blk]) (fun _ => by rw [h.blk])

theorem runL_same : ∀ {l : List Nat} {st st0 : St} {fps : List FP} {st' : St}, runL E call tk sigs all l st = some (fps, st') → st.same st0 → ∃ st0', runL E call tk sigs all l st0 = some (fps, st0') ∧ st'.same st0'
  | [], st, st0, fps, st', h, hs => by simp [runL] at h; obtain ⟨rfl, rfl⟩ := h; exact ⟨st0, rfl, hs⟩
  | i :: r, st, st0, fps, st', h, hs => by
    simp only [runL] at h ⊢
    cases ho : nth all i with
    | none => rw [ho] at h; cases h
    | some o =>
      simp only [ho] at h ⊢
      cases hu : opUpd E call tk sigs all i o st with
      | none => rw [hu] at h; cases h
      | some u =>
        simp only [hu] at h
        simp only [opUpd_same hs hu]
        cases hr : runL E call tk sigs all r (st.apply o.dst u) with
        | none => rw [hr] at h; cases h
        | some x =>
          obtain ⟨fps', st2⟩ := x
          simp only [hr] at h
          cases h
          obtain ⟨st0', h1, h2⟩ := runL_same hr (hs.apply o.dst u)
          exact ⟨st0', by rw [h1, footOf_same hs], h2⟩

/- TWO OPERATIONS THAT LIE APART -/

theorem memN_false {l : List Nat} {t : Nat} : memN l t = false ↔ t ∉ l := by
  rw [← memN_eq]; cases memN l t <;> simp

theorem disj_eq {l r : List Nat} : disj l r = true ↔ ∀ x ∈ l, x ∉ r := by
  induction l with
  | nil => simp [disj]
  | cons x l ih =>
    simp only [disj, List.mem_cons, forall_eq_or_imp]
    cases hm : memN r x with
    | true => simp [(memN_eq r x).1 hm]
    | false => simp [memN_false.1 hm, ih]

/-- the last write to a block -/
def wrAt : List (Nat × Block) → Nat → Option Block
  | [], _ => none
  | (j, c) :: r, k => match wrAt r k with
    | some c' => some c'
    | none => if j = k then some c else none

theorem fsts_eq (l : List (Nat × Block)) : fsts l = l.map (·.1) := by
  induction l with
  | nil => rfl
  | cons x r ih => obtain ⟨k, c⟩ := x; simp [fsts, ih]

theorem wrAt_none {l : List (Nat × Block)} {k : Nat} (h : k ∉ fsts l) : wrAt l k = none := by
  induction l with
  | nil => rfl
  | cons x r ih =>
    obtain ⟨j, c⟩ := x
    simp only [fsts, List.mem_cons, not_or] at h
    simp only [wrAt, ih h.2, if_neg (Ne.symm h.1)]

theorem wrAt_mem {l : List (Nat × Block)} {k : Nat} {c : Block} (h : wrAt l k = some c) : k ∈ fsts l := by
  rcases Classical.em (k ∈ fsts l) with hm | hm
  · exact hm
  · rw [wrAt_none hm] at h; cases h

theorem writes_get : ∀ (l : List (Nat × Block)) (bs : List Block) (k : Nat), nth (writes bs l) k = if k < bs.length then some ((wrAt l k).getD ((nth bs k).getD .dead)) else none
  | [], bs, k => by
    simp only [writes, wrAt, Option.getD_none]
    split
    · rename_i h; rw [nth_eq, List.getElem?_eq_getElem h]; rfl
    · rename_i h; rw [nth_eq, List.getElem?_eq_none (by omega)]
  | (j, c) :: r, bs, k => by
    simp only [writes, writes_get r, setN_eq, List.length_set, wrAt]
    by_cases hk : k < bs.length
    · simp only [hk, if_true]
      cases wrAt r k with
      | some c' => rfl
      | none =>
        simp only [Option.getD_none, nth_eq, List.getElem?_set]
        by_cases e : j = k
        · subst e; simp [hk]
        · simp [e]
    · simp only [hk, if_false]

theorem nth_ext {α : Type} {l r : List α} (h : ∀ k, nth l k = nth r k) : l = r := by
  apply List.ext_getElem?
  intro k
  rw [← nth_eq, ← nth_eq, h]

theorem apply_blk (st : St) (d : Option Nat) (u : Upd) (k : Nat) : nth (st.apply d u).blk k =
    if k < st.blk.length then some ((wrAt u.wr k).getD ((nth st.blk k).getD .dead)) else nth u.nu (k - st.blk.length) := by
  simp only [St.apply, app_eq]
  by_cases hk : k < st.blk.length
  · rw [nth_app_lt _ _ _ (by rw [writes_len]; exact hk), writes_get]
    simp only [hk, if_true]
  · rw [nth_eq, List.getElem?_append_right (by rw [writes_len]; omega), writes_len]
    simp only [hk, if_false, nth_eq]

theorem apply_blk_len (st : St) (d : Option Nat) (u : Upd) : (st.apply d u).blk.length = st.blk.length + u.nu.length := by
  simp only [St.apply, app_eq, List.length_append, writes_len]

structure Apart (all : List Oper) (o1 o2 : Oper) (st1 st2 : St) (u1 u2 : Upd) : Prop where
  tt : ∀ t, (o1.dst = some t ∨ u1.dis = some t) → ¬ (o2.dst = some t ∨ u2.dis = some t)
  t12 : ∀ t, (o1.dst = some t ∨ u1.dis = some t) → t ∉ looks all o2
  t21 : ∀ t, (o2.dst = some t ∨ u2.dis = some t) → t ∉ looks all o1
  bb : ∀ k, (k ∈ fsts u1.wr ∨ (st1.blk.length ≤ k ∧ k < st1.blk.length + u1.nu.length)) → ¬ (k ∈ fsts u2.wr ∨ (st2.blk.length ≤ k ∧ k < st2.blk.length + u2.nu.length))
  b12 : ∀ k, (k ∈ fsts u1.wr ∨ (st1.blk.length ≤ k ∧ k < st1.blk.length + u1.nu.length)) → k ∉ u2.rd
  b21 : ∀ k, (k ∈ fsts u2.wr ∨ (st2.blk.length ≤ k ∧ k < st2.blk.length + u2.nu.length)) → k ∉ u1.rd
  al : u1.nu = [] ∨ u2.nu = []

theorem optL_mem {α : Type} {x : Option α} {a : α} : a ∈ optL x ↔ x = some a := by cases x <;> simp [optL, eq_comm]

theorem isNilL_eq {α : Type} {l : List α} : isNilL l = true ↔ l = [] := by cases l <;> simp [isNilL]

theorem Apart.of {o1 o2 : Oper} {st1 st2 : St} {u1 u2 : Upd} (h : (footOf all o1 st1 u1).apart (footOf all o2 st2 u2) = true) : Apart all o1 o2 st1 st2 u1 u2 := by
  simp only [FP.apart, footOf, Bool.and_eq_true, disj_eq, app_eq, List.mem_append, optL_mem, range0_mem, lenN_eq] at h
  obtain ⟨⟨⟨⟨⟨⟨h1, h2⟩, h3⟩, h4⟩, h5⟩, h6⟩, h7⟩ := h
  refine ⟨h1, h2, h3, h4, h5, h6, ?_⟩
  cases e1 : isNilL u1.nu with
  | true => exact .inl (isNilL_eq.1 e1)
  | false =>
    cases e2 : isNilL u2.nu with
    | true => exact .inr (isNilL_eq.1 e2)
    | false => simp [e1, e2] at h7

theorem get_apply (st : St) (d : Option Nat) (u : Upd) (t : Nat) : get (st.apply d u).fr t = if d = some t then u.val else if u.dis = some t then (get st.fr t).dis else get st.fr t := by
  simp only [St.apply, get_put, get_disT]

/-- the second may go first -/
theorem swap {i j : Nat} {o1 o2 : Oper} {st : St} {u1 u2 : Upd} (h1 : opUpd E call tk sigs all i o1 st = some u1) (h2 : opUpd E call tk sigs all j o2 (st.apply o1.dst u1) = some u2)
    (hap : (footOf all o1 st u1).apart (footOf all o2 (st.apply o1.dst u1) u2) = true) :
    opUpd E call tk sigs all j o2 st = some u2 ∧ opUpd E call tk sigs all i o1 (st.apply o2.dst u2) = some u1 ∧ footOf all o2 st u2 = footOf all o2 (st.apply o1.dst u1) u2 ∧
      footOf all o1 (st.apply o2.dst u2) u1 = footOf all o1 st u1 ∧ ((st.apply o1.dst u1).apply o2.dst u2).same ((st.apply o2.dst u2).apply o1.dst u1) := by
  have A := Apart.of hap
  have hl1 := apply_blk_len st o1.dst u1
  have hl2 := apply_blk_len st o2.dst u2
  have hlen1 : u2.nu ≠ [] → (st.apply o1.dst u1).blk.length = st.blk.length := fun hn => by
    have := A.al.resolve_right hn; rw [hl1, this]; simp
  have hlen2 : u1.nu ≠ [] → (st.apply o2.dst u2).blk.length = st.blk.length := fun hn => by
    have := A.al.resolve_left hn; rw [hl2, this]; simp
  have g2 : opUpd E call tk sigs all j o2 st = some u2 := by
    refine opUpd_loc h2 (fun t ht => ?_) (fun b hb => ?_) hlen1
    · rw [get_apply]
      have n1 : o1.dst ≠ some t := fun e => A.t12 t (.inl e) ht
      have n2 : u1.dis ≠ some t := fun e => A.t12 t (.inr e) ht
      simp only [n1, n2, if_false]
    · rw [apply_blk]
      by_cases hk : b < st.blk.length
      · simp only [hk, if_true]
        rw [wrAt_none fun hm => A.b12 b (.inl hm) hb, nth_eq, List.getElem?_eq_getElem hk]
        rfl
      · simp only [hk, if_false]
        rw [nth_eq, nth_eq, List.getElem?_eq_none (l := st.blk) (by omega)]
        refine List.getElem?_eq_none_iff.2 ?_
        rcases Nat.lt_or_ge (b - st.blk.length) u1.nu.length with hh | hh
        · exact absurd hb (A.b12 b (.inr ⟨by omega, by omega⟩))
        · exact hh
  have g1 : opUpd E call tk sigs all i o1 (st.apply o2.dst u2) = some u1 := by
    refine opUpd_loc h1 (fun t ht => ?_) (fun b hb => ?_) (fun hn => (hlen2 hn).symm)
    · rw [get_apply]
      have n1 : o2.dst ≠ some t := fun e => A.t21 t (.inl e) ht
      have n2 : u2.dis ≠ some t := fun e => A.t21 t (.inr e) ht
      simp only [n1, n2, if_false]
    · rw [apply_blk]
      by_cases hk : b < st.blk.length
      · simp only [hk, if_true]
        rw [wrAt_none fun hm => A.b21 b (.inl hm) hb, nth_eq, List.getElem?_eq_getElem hk]
        rfl
      · simp only [hk, if_false]
        rw [nth_eq, nth_eq, List.getElem?_eq_none (l := st.blk) (by omega)]
        refine (List.getElem?_eq_none_iff.2 ?_).symm
        rcases Nat.lt_or_ge (b - st.blk.length) u2.nu.length with hh | hh
        · have hne : u2.nu ≠ [] := by intro e; rw [e] at hh; simp at hh
          have := hlen1 hne
          exact absurd hb (A.b21 b (.inr ⟨by omega, by omega⟩))
        · exact hh
  refine ⟨g2, g1, ?_, ?_, fun t => ?_, nth_ext fun k => ?_⟩
  · simp only [footOf, lenN_eq]
    by_cases hn : u2.nu = []
    · simp [hn, range0]
    · rw [hlen1 hn]
  · simp only [footOf, lenN_eq]
    by_cases hn : u1.nu = []
    · simp [hn, range0]
    · rw [hlen2 hn]
  · simp only [get_apply]
    by_cases a1 : o1.dst = some t
    · have n1 : o2.dst ≠ some t := fun e => A.tt t (.inl a1) (.inl e)
      have n2 : u2.dis ≠ some t := fun e => A.tt t (.inl a1) (.inr e)
      simp only [a1, if_true, n1, n2, if_false]
    · by_cases a2 : u1.dis = some t
      · have n1 : o2.dst ≠ some t := fun e => A.tt t (.inr a2) (.inl e)
        have n2 : u2.dis ≠ some t := fun e => A.tt t (.inr a2) (.inr e)
        simp only [a1, a2, if_true, n1, n2, if_false]
      · simp only [a1, a2, if_false]
  · simp only [apply_blk, hl1, hl2]
    rcases A.al with hn | hn
    · simp only [hn, List.length_nil, Nat.add_zero]
      by_cases hk : k < st.blk.length
      · have hk2 : k < st.blk.length + u2.nu.length := by omega
        simp only [hk, hk2, if_true, Option.getD_some]
        congr 1
        cases w1 : wrAt u1.wr k with
        | none => simp
        | some c =>
          have : wrAt u2.wr k = none := wrAt_none fun hm => A.bb k (.inl (wrAt_mem w1)) (.inl hm)
          simp [this]
      · simp only [hk, if_false]
        by_cases hk2 : k < st.blk.length + u2.nu.length
        · simp only [hk2, if_true]
          have hne : u2.nu ≠ [] := by intro e; rw [e] at hk2; simp at hk2; omega
          have := hlen1 hne
          have : wrAt u1.wr k = none := wrAt_none fun hm => A.bb k (.inl hm) (.inr ⟨by omega, by omega⟩)
          rw [this, nth_eq, List.getElem?_eq_getElem (by omega)]
          rfl
        · simp only [hk2, if_false]
          rw [nth_ge (by omega)]
          rfl
    · simp only [hn, List.length_nil, Nat.add_zero]
      by_cases hk : k < st.blk.length
      · have hk2 : k < st.blk.length + u1.nu.length := by omega
        simp only [hk, hk2, if_true, Option.getD_some]
        congr 1
        cases w1 : wrAt u1.wr k with
        | none => simp
        | some c =>
          have : wrAt u2.wr k = none := wrAt_none fun hm => A.bb k (.inl (wrAt_mem w1)) (.inl hm)
          simp [this]
      · simp only [hk, if_false]
        by_cases hk2 : k < st.blk.length + u1.nu.length
        · simp only [hk2, if_true]
          have : wrAt u2.wr k = none := wrAt_none fun hm => A.bb k (.inr ⟨by omega, by omega⟩) (.inl hm)
          rw [this, nth_eq, List.getElem?_eq_getElem (by omega)]
          rfl
        · simp only [hk2, if_false]
          rw [nth_ge (l := u1.nu) (by omega)]
          rfl

/-- one that lies apart from all before it may go first -/
theorem front : ∀ {pre : List Nat} {j : Nat} {post : List Nat} {st st2 : St} {fpre : List FP} {fj : FP} {fpost : List FP}, pre.length = fpre.length →
    runL E call tk sigs all (pre ++ j :: post) st = some (fpre ++ fj :: fpost, st2) → (∀ f ∈ fpre, f.apart fj = true) →
    ∃ st2', runL E call tk sigs all (j :: (pre ++ post)) st = some (fj :: (fpre ++ fpost), st2') ∧ st2.same st2'
  | [], j, post, st, st2, fpre, fj, fpost, hl, h, ha => by
    have : fpre = [] := List.length_eq_zero_iff.1 hl.symm
    subst this
    exact ⟨st2, h, .refl st2⟩
  | i :: pre, j, post, st, st2, [], fj, fpost, hl, h, ha => by cases hl
  | i :: pre, j, post, st, st2, f :: fpre, fj, fpost, hl, h, ha => by
    simp only [List.cons_append, runL] at h
    cases ho : nth all i with
    | none => rw [ho] at h; cases h
    | some o =>
      simp only [ho] at h
      cases hu : opUpd E call tk sigs all i o st with
      | none => rw [hu] at h; cases h
      | some u =>
        simp only [hu] at h
        cases hr : runL E call tk sigs all (pre ++ j :: post) (st.apply o.dst u) with
        | none => rw [hr] at h; cases h
        | some x =>
          obtain ⟨fps', st3⟩ := x
          simp only [hr, Option.some.injEq, Prod.mk.injEq, List.cons.injEq] at h
          obtain ⟨⟨e1, rfl⟩, rfl⟩ := h
          obtain ⟨st4, g1, g2⟩ := front (by simpa using hl) hr fun f' hf => ha f' (by simp [hf])
          simp only [runL] at g1
          cases hoj : nth all j with
          | none => rw [hoj] at g1; cases g1
          | some oj =>
            simp only [hoj] at g1
            cases huj : opUpd E call tk sigs all j oj (st.apply o.dst u) with
            | none => rw [huj] at g1; cases g1
            | some uj =>
              simp only [huj] at g1
              cases hrj : runL E call tk sigs all (pre ++ post) ((st.apply o.dst u).apply oj.dst uj) with
              | none => rw [hrj] at g1; cases g1
              | some y =>
                obtain ⟨fps2, st5⟩ := y
                simp only [hrj, Option.some.injEq, Prod.mk.injEq, List.cons.injEq] at g1
                obtain ⟨⟨e2, rfl⟩, rfl⟩ := g1
                obtain ⟨k1, k2, k3, k4, k5⟩ := swap hu huj (by rw [e1, e2]; exact ha f (by simp))
                obtain ⟨st6, m1, m2⟩ := runL_same hrj k5
                refine ⟨st6, ?_, g2.trans m2⟩
                simp only [runL, hoj, k1, List.cons_append, ho, k2, m1, k3, k4, e1, e2]

end Go.Abs
