/-
  Blocks under new numbers: what is handed to a callee, what a mask keeps, what a return hands back.
-/
import Derived.Test.YtpafnokcmhlbgaaA16
namespace Go.Abs

variable {E : Env} {P : Program} {R : Places} {ρ : List Nat} {own : OI → Owner} {N : Nat} {st : St} {a : Act} {w : World} {F : Places}

/- LISTS OF NUMBERS -/

theorem posIn_some : ∀ {l : List Nat} {b i j : Nat}, posIn l b i = some j → i ≤ j ∧ nth l (j - i) = some b
  | [], _, _, _, h => by cases h
  | x :: r, b, i, j, h => by
    simp only [posIn] at h
    by_cases e : x = b
    · subst e
      simp only [nbeq_self, cond_true, Option.some.injEq] at h
      subst h
      simp [nth]
    · simp only [nbeq_ne e, cond_false] at h
      obtain ⟨h1, h2⟩ := posIn_some h
      refine ⟨by omega, ?_⟩
      have : j - i = (j - (i + 1)) + 1 := by omega
      rw [this]; exact h2

theorem posIn_of_mem : ∀ {l : List Nat} {b : Nat} (i : Nat), b ∈ l → ∃ j, posIn l b i = some j
  | x :: r, b, i, h => by
    simp only [posIn]
    by_cases e : x = b
    · subst e; exact ⟨i, by simp only [nbeq_self, cond_true]⟩
    · simp only [nbeq_ne e, cond_false]
      exact posIn_of_mem (i + 1) ((List.mem_cons.1 h).resolve_left (Ne.symm e))

theorem nth_mem {α : Type} {l : List α} {i : Nat} {b : α} (h : nth l i = some b) : b ∈ l := by
  rw [nth_eq] at h; exact List.mem_of_getElem? h

theorem nth_inj {l : List Nat} (hl : l.Nodup) {i j b : Nat} (h1 : nth l i = some b) (h2 : nth l j = some b) : i = j := by
  rw [nth_eq] at h1 h2
  obtain ⟨a1, a2⟩ := List.getElem?_eq_some_iff.1 h1
  obtain ⟨b1, b2⟩ := List.getElem?_eq_some_iff.1 h2
  rcases Nat.lt_trichotomy i j with h | h | h
  · exact absurd (a2.trans b2.symm) (List.pairwise_iff_getElem.1 hl i j a1 b1 h)
  · exact h
  · exact absurd (b2.trans a2.symm) (List.pairwise_iff_getElem.1 hl j i b1 a1 h)

theorem posIn_nth {l : List Nat} (hl : l.Nodup) {i b : Nat} (h : nth l i = some b) : posIn l b 0 = some i := by
  obtain ⟨j, hj⟩ := posIn_of_mem 0 (nth_mem h)
  obtain ⟨_, h2⟩ := posIn_some hj
  rw [hj]
  congr 1
  exact nth_inj hl h2 h

theorem reach_nodup (blk : List Block) : ∀ (n : Nat) (todo seen : List Nat), seen.Nodup → (reach blk n todo seen).Nodup
  | 0, _, _, h => by simpa [reach] using h
  | n + 1, [], _, h => by simpa [reach] using h
  | n + 1, b :: todo, seen, h => by
    simp only [reach]
    cases hm : memN seen b with
    | true => exact reach_nodup blk n _ _ h
    | false =>
      refine reach_nodup blk n _ _ ?_
      rw [app_eq]
      refine List.nodup_append.2 ⟨h, by simp, fun x hx y hy e => ?_⟩
      simp only [List.mem_singleton] at hy
      subst hy; subst e
      rw [← memN_eq, hm] at hx
      cases hx

theorem range0_mem : ∀ {n i x : Nat}, x ∈ range0 i n ↔ i ≤ x ∧ x < i + n
  | 0, i, x => by simp [range0]
  | n + 1, i, x => by
    simp only [range0, List.mem_cons, range0_mem (n := n)]
    omega

theorem range0_len : ∀ {n i : Nat}, (range0 i n).length = n
  | 0, _ => rfl
  | n + 1, i => by simp [range0, range0_len (n := n)]

theorem range0_nodup : ∀ {n i : Nat}, (range0 i n).Nodup
  | 0, _ => by simp [range0]
  | n + 1, i => by
    simp only [range0, List.nodup_cons, range0_nodup (n := n), and_true]
    rw [range0_mem]; omega

theorem range0_nth : ∀ {n i k : Nat}, k < n → nth (range0 i n) k = some (i + k)
  | n + 1, i, 0, _ => by simp [range0, nth]
  | n + 1, i, k + 1, h => by
    simp only [range0, nth]
    rw [range0_nth (by omega)]
    congr 1; omega

theorem ascend_mem : ∀ {n i x : Nat} {l : List Nat}, x ∈ ascend l i n → i ≤ x ∧ x < i + n
  | 0, i, x, l, h => by simp [ascend] at h
  | n + 1, i, x, l, h => by
    simp only [ascend] at h
    have : x = i ∨ x ∈ ascend l (i + 1) n := by
      cases hm : memN l i <;> simp [hm] at h
      · exact .inr h
      · exact h
    rcases this with rfl | h
    · omega
    · have := ascend_mem h; omega

theorem ascend_nodup : ∀ {n i : Nat} {l : List Nat}, (ascend l i n).Nodup
  | 0, i, l => by simp [ascend]
  | n + 1, i, l => by
    simp only [ascend]
    cases memN l i with
    | false => exact ascend_nodup
    | true =>
      simp only [cond_true, List.nodup_cons, ascend_nodup, and_true]
      intro h
      have := ascend_mem h
      omega

theorem above_mem : ∀ {l : List Nat} {n x : Nat}, x ∈ above l n → x ∈ l ∧ n ≤ x
  | [], n, x, h => by simp [above] at h
  | y :: r, n, x, h => by
    simp only [above] at h
    cases hb : Nat.ble n y with
    | false =>
      simp only [hb, cond_false] at h
      obtain ⟨h1, h2⟩ := above_mem h
      exact ⟨List.mem_cons_of_mem _ h1, h2⟩
    | true =>
      simp only [hb, cond_true, List.mem_cons] at h
      rcases h with rfl | h
      · exact ⟨List.mem_cons_self, Nat.le_of_ble_eq_true hb⟩
      · obtain ⟨h1, h2⟩ := above_mem h
        exact ⟨List.mem_cons_of_mem _ h1, h2⟩

theorem above_nodup : ∀ {l : List Nat} {n : Nat}, l.Nodup → (above l n).Nodup
  | [], n, _ => by simp [above]
  | y :: r, n, h => by
    simp only [above]
    have hr := above_nodup (n := n) (List.nodup_cons.1 h).2
    cases Nat.ble n y with
    | false => exact hr
    | true =>
      simp only [cond_true, List.nodup_cons, hr, and_true]
      intro hm
      exact (List.nodup_cons.1 h).1 (above_mem hm).1

theorem sel_nodup {l : List Nat} {n : Nat} (hl : l.Nodup) (hn : ∀ x ∈ l, n ≤ x) : (app (range0 0 n) l).Nodup := by
  rw [app_eq]
  refine List.nodup_append.2 ⟨range0_nodup, hl, fun x hx y hy e => ?_⟩
  have := range0_mem.1 hx
  have := hn y hy
  omega

/- VALUES UNDER NEW NUMBERS -/

theorem remapL_some {μ : Nat → Option Nat} : ∀ {l l' : List AC}, remapL μ l = some l' → l'.length = l.length ∧ ∀ (i : Nat) (h : i < l.length) (h' : i < l'.length), l[i].remap μ = some l'[i]
  | [], l', h => by simp [remapL] at h; subst h; simp
  | c :: r, l', h => by
    simp only [remapL] at h
    split at h
    · rename_i c' r' h1 h2
      simp at h; subst h
      obtain ⟨g1, g2⟩ := remapL_some h2
      refine ⟨by simp [g1], fun i hi hi' => ?_⟩
      cases i with
      | zero => exact h1
      | succ i => exact g2 i (by simpa using hi) (by simpa using hi')
    · cases h

theorem AR.remap {ρ' : List Nat} {μ : Nat → Option Nat} (hμ : ∀ b b' B, μ b = some b' → nth ρ b = some B → nth ρ' b' = some B) {c : AC} {v : Value} {o : Owner} (h : AR E w F ρ c v o) :
    ∀ {c' : AC}, c.remap μ = some c' → AR E w F ρ' c' v o := by
  induction h with
  | int k n => intro c' h; simp [AC.remap] at h; subst h; exact .int k n
  | bool b => intro c' h; simp [AC.remap] at h; subst h; exact .bool b
  | str s => intro c' h; simp [AC.remap] at h; subst h; exact .str s
  | sl e rows v hh => intro c' h; simp [AC.remap] at h; subst h; exact .sl e rows v hh
  | full e rows a n hh => intro c' h; simp [AC.remap] at h; subst h; exact .full e rows a n hh
  | own e rows te B off len cap hh he hl hs => intro c' h; simp [AC.remap] at h; subst h; exact .own e rows te B off len cap hh he hl hs
  | nils => intro c' h; simp [AC.remap] at h; subst h; exact .nils
  | ptr b o B hB =>
    intro c' h
    simp only [AC.remap] at h
    split at h
    · rename_i b' e; simp at h; subst h; exact .ptr _ _ _ (hμ _ _ _ e hB)
    · cases h
  | eptr e row o te B off g he hk' hm hr => intro c' h; simp [AC.remap] at h; subst h; exact .eptr e row o te B off g he hk' hm hr
  | nilp => intro c' h; simp [AC.remap] at h; subst h; exact .nilp
  | fn f caps g hr ih =>
    intro c' h
    simp only [AC.remap] at h
    split at h
    · rename_i l e
      simp at h; subst h
      obtain ⟨h1, h2⟩ := remapL_some e
      rw [← h1]
      exact .fn f l g fun i hi => ih i (by omega) (h2 i (by omega) hi)
    · cases h
  | nilf => intro c' h; simp [AC.remap] at h; subst h; exact .nilf
  | refs l B off cap g hc hm hr ih =>
    intro c' h
    simp only [AC.remap] at h
    split at h
    · rename_i l' e
      simp at h; subst h
      obtain ⟨h1, h2⟩ := remapL_some e
      rw [← h1]
      exact .refs l' B off cap g (by omega) (fun i hi => hm i (by omega)) fun i hi => ih i (by omega) (h2 i (by omega) hi)
    · cases h
  | aptr c B off v hm hh ih =>
    intro c' h
    simp only [AC.remap] at h
    split at h
    · rename_i c2 e; simp at h; subst h; exact .aptr _ B off v hm (ih e)
    · cases h
  | msl e b n te B cap hB he h0 hn hm hs =>
    intro c' h
    simp only [AC.remap] at h
    split at h
    · rename_i b' e'; simp at h; subst h; exact .msl _ _ _ te B cap (hμ _ _ _ e' hB) he h0 hn hm hs
    · cases h
  | mnil e b v =>
    intro c' h
    simp only [AC.remap] at h
    split at h
    · rename_i b' e'; simp at h; subst h; exact .mnil _ _ _
    · cases h
  | mptr b e i o te B hB he =>
    intro c' h
    simp only [AC.remap] at h
    split at h
    · rename_i b' e'; simp at h; subst h; exact .mptr _ _ _ _ te B (hμ _ _ _ e' hB) he
    · cases h
  | win e b lo n c te B off cap hB he hn hc hoff hs =>
    intro c' h
    simp only [AC.remap] at h
    split at h
    · rename_i b' e'; simp at h; subst h; exact .win _ _ _ _ _ te B off cap (hμ _ _ _ e' hB) he hn hc hoff hs
    · cases h
  | parr e b n te B hB he hs =>
    intro c' h
    simp only [AC.remap] at h
    split at h
    · rename_i b' e'; simp at h; subst h; exact .parr _ _ _ te B (hμ _ _ _ e' hB) he hs
    · cases h

theorem remapgo_some {μ : Nat → Option Nat} : ∀ {l l' : List AV}, AV.remap.go μ l = some l' → l'.length = l.length ∧ ∀ (i : Nat) (h : i < l.length) (h' : i < l'.length), l[i].remap μ = some l'[i]
  | [], l', h => by simp [AV.remap.go] at h; subst h; simp
  | c :: r, l', h => by
    simp only [AV.remap.go] at h
    split at h
    · rename_i c' r' h1 h2
      simp at h; subst h
      obtain ⟨g1, g2⟩ := remapgo_some h2
      refine ⟨by simp [g1], fun i hi hi' => ?_⟩
      cases i with
      | zero => exact h1
      | succ i => exact g2 i (by simpa using hi) (by simpa using hi')
    · cases h

theorem remapVs_some {μ : Nat → Option Nat} : ∀ {l l' : List AV}, remapVs μ l = some l' → l'.length = l.length ∧ ∀ (i : Nat) (h : i < l.length) (h' : i < l'.length), l[i].remap μ = some l'[i]
  | [], l', h => by simp [remapVs] at h; subst h; simp
  | c :: r, l', h => by
    simp only [remapVs] at h
    split at h
    · rename_i c' r' h1 h2
      simp at h; subst h
      obtain ⟨g1, g2⟩ := remapVs_some h2
      refine ⟨by simp [g1], fun i hi hi' => ?_⟩
      cases i with
      | zero => exact h1
      | succ i => exact g2 i (by simpa using hi) (by simpa using hi')
    · cases h

theorem AVR.remap {ρ' : List Nat} {μ : Nat → Option Nat} (hμ : ∀ b b' B, μ b = some b' → nth ρ b = some B → nth ρ' b' = some B) {x : AV} {v : Value} {o : Owners} (h : AVR E w F ρ x v o) :
    ∀ {x' : AV}, x.remap μ = some x' → AVR E w F ρ' x' v o := by
  induction h with
  | undef v o ho => intro x' h; simp [AV.remap] at h; subst h; exact .undef v o ho
  | one c v o hc ho =>
    intro x' h
    simp only [AV.remap] at h
    split at h
    · rename_i c' e; simp at h; subst h; exact .one _ _ _ (hc.remap hμ e) ho
    · cases h
  | agg l g o hh ho =>
    intro x' h
    simp only [AV.remap] at h
    split at h
    · rename_i l' e
      simp at h; subst h
      obtain ⟨h1, h2⟩ := remapL_some e
      rw [← h1] at ho ⊢
      exact .agg l' g o (fun i hi => (hh i (by omega)).remap hμ (h2 i (by omega) hi)) ho
    · cases h
  | tup l g o hh ho ih =>
    intro x' h
    simp only [AV.remap] at h
    split at h
    · rename_i l' e
      simp at h; subst h
      obtain ⟨h1, h2⟩ := remapgo_some e
      rw [← h1] at ho ⊢
      exact .tup l' g o (fun i hi => ih i (by omega) (h2 i (by omega) hi)) ho
    · cases h

/-- less is foreign: what was not to be written still isn't -/
theorem AVR.less {F' : Places} (hF : ∀ B off, F' B off → F B off) {x : AV} {v : Value} {o : Owners} (h : AVR E w F ρ x v o) : AVR E w F' ρ x v o :=
  h.keep ⟨fun _ _ _ _ _ => rfl, fun _ _ _ hc hn => ⟨hc, fun hf => hn (hF _ _ hf)⟩, fun _ _ h => h⟩ (fun _ _ h => h) fun _ _ _ _ _ _ hh => hh
theorem AR.less {F' : Places} (hF : ∀ B off, F' B off → F B off) {x : AC} {v : Value} {o : Owner} (h : AR E w F ρ x v o) : AR E w F' ρ x v o :=
  h.keep ⟨fun _ _ _ _ _ => rfl, fun _ _ _ hc hn => ⟨hc, fun hf => hn (hF _ _ hf)⟩, fun _ _ h => h⟩ (fun _ _ h => h) fun _ _ _ _ _ hh => hh

theorem pickBlks_some {μ : Nat → Option Nat} {blk : List Block} : ∀ {sel : List Nat} {bs : List Block}, pickBlks μ blk sel = some bs → bs.length = sel.length ∧
    ∀ (i k : Nat), nth sel i = some k → ∃ c c', nth blk k = some c ∧ c.remap μ = some c' ∧ nth bs i = some c'
  | [], bs, h => by simp [pickBlks] at h; subst h; simp [nth]
  | b :: r, bs, h => by
    simp only [pickBlks] at h
    split at h
    · rename_i c l h1 h2
      split at h
      · rename_i c' h3
        simp at h; subst h
        obtain ⟨g1, g2⟩ := pickBlks_some h2
        refine ⟨by simp [g1], fun i k hi => ?_⟩
        cases i with
        | zero => simp only [nth, Option.some.injEq] at hi; subst hi; exact ⟨c, c', h1, h3, rfl⟩
        | succ i => exact g2 i k hi
      · cases h
    · cases h

theorem BlkR.remap {ρ' : List Nat} {own' : OI → Owner} {μ : Nat → Option Nat} {F' : Places} {k k' : Nat} (hμ : ∀ b b' B, μ b = some b' → nth ρ b = some B → nth ρ' b' = some B) (hk : ∀ B, nth ρ k = some B → nth ρ' k' = some B)
    (hF : ∀ B off, F' B off → F B off) (hs : own' (.self k') = own (.self k)) (hc : ∀ j, own' (.cell k' j) = own (.cell k j)) {b b' : Block} (hb : b.remap μ = some b') (h : BlkR E w F ρ own k (some b)) :
    BlkR E w F' ρ' own' k' (some b') := by
  cases b with
  | dead =>
    simp [Block.remap] at hb; subst hb
    exact ⟨hs.trans h.1, fun j => (hc j).trans (h.2 j)⟩
  | fro e rows =>
    simp only [Block.remap, Option.some.injEq] at hb
    subst hb
    exact ⟨hs.trans h.1, fun j => (hc j).trans (h.2.1 j), h.2.2.keep ⟨fun _ _ _ _ _ => rfl, fun _ _ _ hc hn => ⟨hc, fun hf => hn (hF _ _ hf)⟩, fun _ _ h => h⟩ hk⟩
  | var cells =>
    simp only [Block.remap] at hb
    split at hb
    · rename_i l e
      simp at hb; subst hb
      obtain ⟨B, h1, h2, h3, h4⟩ := h
      obtain ⟨g1, g2⟩ := remapL_some e
      refine ⟨B, hk _ h1, hs.trans h2, fun j hj => (hc j).trans (h3 j (by omega)), fun j hj => ?_⟩
      obtain ⟨v, k1, k2, k3⟩ := h4 j (by omega)
      refine ⟨v, k1, k2, ?_⟩
      rw [hc]
      exact (k3.remap hμ (g2 j (by omega) hj)).less hF
    · cases hb
  | arr e rows =>
    simp only [Block.remap, Option.some.injEq] at hb
    subst hb
    rcases h with ⟨h1, h2, h3⟩ | ⟨B, te, h1, h2, h3, h4, h5, h7, h6⟩
    · exact .inl ⟨h1, hs.trans h2, fun j => (hc j).trans (h3 j)⟩
    · refine .inr ⟨B, te, hk _ h1, hs.trans h2, fun j => (hc j).trans (h3 j), h4, h5, h7, fun i hi => ?_⟩
      obtain ⟨v, g1, g2, g3⟩ := h6 i hi
      exact ⟨v, g1, g2, g3.keep ⟨fun _ _ _ _ _ => rfl, fun _ _ _ hc hn => ⟨hc, fun hf => hn (hF _ _ hf)⟩, fun _ _ h => h⟩⟩

/-- the numbers' blocks, under the new numbers -/
def pickρ (ρ : List Nat) (sel : List Nat) : List Nat := sel.map fun k => (nth ρ k).getD 0

theorem pickρ_nth {sel : List Nat} {i k B : Nat} (h : nth sel i = some k) (hB : nth ρ k = some B) : nth (pickρ ρ sel) i = some B := by
  rw [nth_eq] at h
  rw [pickρ, nth_eq, List.getElem?_map, h]
  simp [hB]

theorem pickρ_posIn {sel : List Nat} (b b' B : Nat) (h : posIn sel b 0 = some b') (hB : nth ρ b = some B) : nth (pickρ ρ sel) b' = some B :=
  pickρ_nth (posIn_some h).2 hB

/-- A choice of blocks under new numbers, another frame. -/
theorem Rel.pick (h : Rel E R ρ own N st a w) {sel : List Nat} (hsel : sel.Nodup) {R' : Places} {own' : OI → Owner} {fr' : List (Nat × AV)} {bs : List Block} {a' : Act} {N' : Nat}
    (hbs : pickBlks (fun b => posIn sel b 0) st.blk sel = some bs) (hsz : a'.tmps.size = N') (hdf : a'.defers = [])
    (hF : ∀ B off, Fn own' R' B off → Fn own R B off)
    (hfr : ∀ t, AVR E w (Fn own R) (pickρ ρ sel) (get fr' t) (a'.tmps.getD t undef) (fun p => own' (.tmp t p)))
    (hself : ∀ i, own' (.self i) = (match nth sel i with | some k => own (.self k) | none => none))
    (hcell : ∀ i j, own' (.cell i j) = (match nth sel i with | some k => own (.cell k j) | none => none))
    (src : Nat → List Nat → OI) (hsrc : ∀ t p B s, own' (.tmp t p) = some (B, s) → own (src t p) = some (B, s) ∧ ∀ k, src t p ≠ .self k ∧ ∀ j, k ∈ sel → src t p ≠ .cell k j)
    (hsi : ∀ t p t' p' B s, own' (.tmp t p) = some (B, s) → own' (.tmp t' p') = some (B, s) → src t p = src t' p' → OI.tmp t p = OI.tmp t' p')
    (hR : ∀ B off, R' B off → B < w.heap.size) (hout : ∀ x B t, own' x = some (B, t) → ∀ off, ¬ R' B off) : Rel E R' (pickρ ρ sel) own' N' ⟨fr', bs⟩ a' w := by
  obtain ⟨g1, g2⟩ := pickBlks_some hbs
  have hin : ∀ x B t, own' x = some (B, t) → ∃ y, own y = some (B, t) ∧ (match x with
      | .tmp s p => y = src s p
      | .self i => ∃ k, nth sel i = some k ∧ y = .self k
      | .cell i j => ∃ k, nth sel i = some k ∧ y = .cell k j) := by
    intro x B t hx
    cases x with
    | tmp s p => exact ⟨_, (hsrc _ _ _ _ hx).1, rfl⟩
    | self i =>
      rw [hself] at hx
      split at hx
      · rename_i k e; exact ⟨_, hx, k, e, rfl⟩
      · cases hx
    | cell i j =>
      rw [hcell] at hx
      split at hx
      · rename_i k e; exact ⟨_, hx, k, e, rfl⟩
      · cases hx
  refine ⟨hsz, hdf, fun t => (hfr t).less hF, by rw [pickρ, List.length_map, g1], fun i => ?_, ?_, ?_, hR⟩
  · cases hi : nth sel i with
    | none =>
      have : nth bs i = none := by
        rw [nth_eq] at hi ⊢
        rw [List.getElem?_eq_none_iff] at hi ⊢
        omega
      dsimp only
      rw [this]
      exact ⟨by rw [hself, hi], fun j => by rw [hcell, hi]⟩
    | some k =>
      obtain ⟨c, c', e1, e2, e3⟩ := g2 i k hi
      dsimp only
      rw [e3]
      have hb := h.blk k
      rw [e1] at hb
      exact hb.remap (fun b b' B => pickρ_posIn b b' B) (fun B hB => pickρ_nth hi hB) hF (by rw [hself, hi]) (fun j => by rw [hcell, hi]) e2
  · intro x y B t t' hx hy
    obtain ⟨x', hx1, hx2⟩ := hin x B t hx
    obtain ⟨y', hy1, hy2⟩ := hin y B t' hy
    have hxy := h.inj _ _ _ _ _ hx1 hy1
    subst hxy
    rw [hx1] at hy1
    cases hy1
    cases x with
    | tmp s p =>
      cases y with
      | tmp s' p' => exact hsi _ _ _ _ _ _ hx hy (hx2.symm.trans hy2)
      | self i => obtain ⟨k, e, rfl⟩ := hy2; exact absurd hx2.symm ((hsrc _ _ _ _ hx).2 k).1
      | cell i j => obtain ⟨k, e, rfl⟩ := hy2; exact absurd hx2.symm (((hsrc _ _ _ _ hx).2 k).2 j (nth_mem e))
    | self i =>
      obtain ⟨k, e, rfl⟩ := hx2
      cases y with
      | tmp s' p' => exact absurd hy2.symm ((hsrc _ _ _ _ hy).2 k).1
      | self i' => obtain ⟨k', e', h3⟩ := hy2; injection h3 with h3; subst h3; rw [nth_inj hsel e e']
      | cell i' j => obtain ⟨k', e', h3⟩ := hy2; cases h3
    | cell i j =>
      obtain ⟨k, e, rfl⟩ := hx2
      cases y with
      | tmp s' p' => exact absurd hy2.symm (((hsrc _ _ _ _ hy).2 k).2 j (nth_mem e))
      | self i' => obtain ⟨k', e', h3⟩ := hy2; cases h3
      | cell i' j' => obtain ⟨k', e', h3⟩ := hy2; injection h3 with h3 h4; subst h3; subst h4; rw [nth_inj hsel e e']
  · intro x B t hx
    obtain ⟨x', hx1, _⟩ := hin x B t hx
    exact ⟨(h.out _ _ _ hx1).1, hout x B t hx⟩

/- A FRAME OUT OF A LIST -/

def zipFr : List AV → Nat → List (Nat × AV)
  | [], _ => []
  | v :: r, i => (i, v) :: zipFr r (i + 1)

theorem get_zipFr : ∀ (l : List AV) (i t : Nat), get (zipFr l i) t = if t < i then .undef else (nth l (t - i)).getD .undef
  | [], i, t => by simp [zipFr, get, nth]
  | v :: r, i, t => by
    simp only [zipFr, get]
    by_cases e : i = t
    · subst e; simp [nbeq_self, nth]
    · simp only [nbeq_ne e, cond_false, get_zipFr r (i + 1) t]
      by_cases h : t < i
      · simp [h, show t < i + 1 by omega]
      · have : t - i = (t - (i + 1)) + 1 := by omega
        simp only [h, show ¬ t < i + 1 by omega, if_false, this, nth]

theorem get_zip0 (l : List AV) (t : Nat) : get (zipFr l 0) t = (nth l t).getD .undef := by simp [get_zipFr]

theorem zip_rel {vals : List Value} {l : List AV} {o : Nat → Owners} (hl : l.length = vals.length) (h : ∀ (i : Nat) (h1 : i < l.length) (h2 : i < vals.length), AVR E w F ρ l[i] vals[i] (o i)) (ho : ∀ i, l.length ≤ i → ∀ p, o i p = none) (t : Nat) :
    AVR E w F ρ (get (zipFr l 0) t) (vals.toArray.getD t undef) (o t) := by
  rw [get_zip0, nth_eq]
  by_cases ht : t < l.length
  · have h2 : t < vals.length := by omega
    have := h t ht h2
    simpa [List.getElem?_eq_getElem ht, h2] using this
  · rw [List.getElem?_eq_none (by omega)]
    exact .undef _ _ (ho t (by omega))

theorem zip_get {vals : List Value} {l : List AV} {o : Nat → Owners} (hl : l.length = vals.length) (h : ∀ t, AVR E w F ρ (get (zipFr l 0) t) (vals.toArray.getD t undef) (o t)) (i : Nat) (h1 : i < l.length) (h2 : i < vals.length) :
    AVR E w F ρ l[i] vals[i] (o i) := by
  have := h i
  rw [get_zip0, nth_eq, List.getElem?_eq_getElem h1] at this
  simpa [h2] using this

/- TO THE CALLEE -/

def ownIn (own : OI → Owner) (sel : List Nat) : OI → Owner
  | .tmp _ _ => none
  | .self i => match nth sel i with | some k => own (.self k) | none => none
  | .cell i j => match nth sel i with | some k => own (.cell k j) | none => none

def passed (sel : List Nat) : OI → Prop
  | .tmp _ _ => False
  | .self k => k ∈ sel
  | .cell k _ => k ∈ sel

def Rin (own : OI → Owner) (R : Places) (sel : List Nat) : Places := fun B off => R B off ∨ ∃ x t, own x = some (B, t) ∧ t ≤ off ∧ ¬ passed sel x

theorem ownIn_some {sel : List Nat} {x : OI} {B t : Nat} (h : ownIn own sel x = some (B, t)) : ∃ y, own y = some (B, t) ∧ passed sel y := by
  cases x with
  | tmp s p => cases h
  | self i =>
    simp only [ownIn] at h
    split at h
    · rename_i k e; exact ⟨_, h, nth_mem e⟩
    · cases h
  | cell i j =>
    simp only [ownIn] at h
    split at h
    · rename_i k e; exact ⟨_, h, nth_mem e⟩
    · cases h

theorem Rel.enter (h : Rel E R ρ own N st a w) {sel : List Nat} (hsel : sel.Nodup) {args args' : List AV} {vals : List Value} {bs : List Block} (hl : args.length = vals.length)
    (hv : ∀ (i : Nat) (h1 : i < args.length) (h2 : i < vals.length), AVR E w (Fn own R) ρ args[i] vals[i] (fun _ => none))
    (h1 : remapVs (fun b => posIn sel b 0) args = some args') (h2 : pickBlks (fun b => posIn sel b 0) st.blk sel = some bs) :
    args'.length = vals.length ∧ Rel E (Rin own R sel) (pickρ ρ sel) (ownIn own sel) vals.length ⟨zipFr args' 0, bs⟩ ⟨vals.toArray, []⟩ w := by
  obtain ⟨k1, k2⟩ := remapVs_some h1
  refine ⟨k1.trans hl, h.pick hsel h2 (by simp) rfl ?_ ?_ (fun _ => rfl) (fun _ _ => rfl) (fun _ _ => .self 0) (fun _ _ _ _ h => by cases h) (fun _ _ _ _ _ _ h => by cases h) ?_ ?_⟩
  · rintro B off ((hR | ⟨x, t, hx, ht, _⟩) | ⟨x, t, hx, ht⟩)
    · exact .inl hR
    · exact .inr ⟨x, t, hx, ht⟩
    · obtain ⟨y, hy, _⟩ := ownIn_some hx
      exact .inr ⟨y, t, hy, ht⟩
  · intro t
    refine zip_rel (o := fun _ _ => none) (k1.trans hl) (fun i g1 g2 => ?_) (fun _ _ _ => rfl) t
    exact (hv i (by omega) g2).remap (fun b b' B => pickρ_posIn b b' B) (k2 i (by omega) g1)
  · rintro B off (hR | ⟨x, t, hx, _, _⟩)
    · exact h.low _ _ hR
    · exact (h.out _ _ _ hx).1
  · rintro x B t hx off (hR | ⟨y, s, hy, _, hp⟩)
    · obtain ⟨z, hz, _⟩ := ownIn_some hx
      exact (h.out _ _ _ hz).2 off hR
    · obtain ⟨z, hz, hq⟩ := ownIn_some hx
      have := h.inj _ _ _ _ _ hy hz
      subst this
      exact hp hq

end Go.Abs
