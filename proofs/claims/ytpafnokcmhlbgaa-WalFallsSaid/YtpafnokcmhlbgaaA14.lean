/-
  The built-in append, and the smallest and the greatest of numbers.
-/
import Derived.Test.YtpafnokcmhlbgaaA13
namespace Go.Abs

variable {E : Env} {P : Program} {R : Places} {ρ : List Nat} {own : OI → Owner} {N : Nat} {st : St} {a : Act} {w : World} {F : Places}

theorem growBy_le {n : Nat} : ∀ (r c : Nat), c ≤ n + (n + 768) / 4 → Builtin.growBy n r c ≤ n + (n + 768) / 4
  | 0, c, h => h
  | r + 1, c, h => by
    unfold Builtin.growBy
    split
    · exact h
    · exact growBy_le r _ (by omega)

theorem nextcap_le {need cap : Nat} (h : cap < need) : Builtin.nextslicecap need cap ≤ 2 * need + 768 := by
  unfold Builtin.nextslicecap
  split
  · omega
  · split
    · omega
    · have := growBy_le (n := need) 4 cap (by omega)
      omega

/-- what an append takes: so many elements, their cells in order -/
structure Src (P : Program) (E : Env) (w : World) (F : Places) (s : Nat) (ks : List CK) (x : Value) (ys : Rows) (new : List Value) : Prop where
  len : ∀ w', (Builtin.lenOf x).run P w' = .ok ys.length w'
  run : ∀ w', (∀ B off, cell w' B off = cell w B off) → (Builtin.firstCells s ys.length x).run P w' = .ok new.toArray w'
  kinds : ∀ r ∈ ys, r.map Cell.kind = ks
  size : new.length = ys.flatten.length
  rel : ∀ (k : Nat) (h1 : k < ys.flatten.length) (h2 : k < new.length), CR E w F ys.flatten[k] new[k]

theorem src_slice (G : Good P E) {e : TypeId} {te : Ty} (he : E.tys e = some te) {ys : Rows} {x : Value} (h : CR E w F (.slice e ys) x) : ∃ new, Src P E w F te.size te.kinds x ys new := by
  cases h with
  | empty _ b cap =>
    refine ⟨[], fun w' => rfl, fun w' _ => ?_, by simp, rfl, fun k h => by simp at h⟩
    cases b <;> simp [Builtin.firstCells, loadCells, loadCellsFrom]
  | slice _ _ te' B off cap g he' hk hc hm hr =>
    rw [he] at he'
    cases he'
    have hfl := flat_len (even_of (G.ty _ _ he).len hk)
    refine ⟨(List.range (ys.length * te.size)).map g, fun w' => rfl, fun w' hw => ?_, hk, by simp [hfl], fun k h1 h2 => ?_⟩
    · simp only [Builtin.firstCells]
      exact run_loadCells w' ⟨B, off, none⟩ _ g fun j hj => by
        rw [add_none, ← cell, hw]
        exact (hm j (by omega)).1
    · simp only [List.getElem_map, List.getElem_range]
      exact hr k h1

theorem src_str (G : Good P E) {e : TypeId} {te : Ty} (he : E.tys e = some te) (hd : te.desc = .int .u8) (s : List UInt8) : ∃ new, Src P E w F te.size te.kinds (.string ⟨s.toArray⟩) (ofBytes s) new := by
  obtain ⟨hk, hs⟩ := byte_kinds G he hd
  have hlen : (ofBytes s).length = s.length := by simp [ofBytes_eq]
  have hrow : ∀ (i : Nat) (hi : i < (ofBytes s).length), (ofBytes s)[i] = [.int .u8 (s[i]'(by omega)).toNat] := fun i hi => by simp [ofBytes_eq, byteRow]
  obtain ⟨f1, f2⟩ := flat_one (rows := ofBytes s) fun i hi => ⟨_, hrow i hi⟩
  refine ⟨s.map fun b => .int .u8 b.toNat, fun w' => ?_, fun w' _ => ?_, fun r hr => ?_, by simp [f1, hlen], fun k h1 h2 => ?_⟩
  · rw [hlen]; rfl
  · simp only [Builtin.firstCells, hlen, Sem.run_pure]
    congr 1
    apply Array.ext'
    simp [ByteArray.data_extract, List.extract_eq_take_drop]
  · simp only [ofBytes_eq, List.mem_map] at hr
    obtain ⟨b, _, rfl⟩ := hr
    rw [hk]; rfl
  · have hi2 : k < (ofBytes s).length := by omega
    have h3 := f2 k h1 hi2
    rw [hrow k hi2] at h3
    have h4 : (ofBytes s).flatten[k] = .int .u8 (s[k]'(by omega)).toNat := by injection h3
    rw [h4]
    simp only [List.getElem_map]
    exact .int _ _

theorem src_nil {s : Nat} {ks : List CK} : Src P E w F s ks (.slice none 0 0) [] [] :=
  ⟨fun _ => rfl, fun w' _ => by simp [Builtin.firstCells], by simp, rfl, fun k h => by simp at h⟩

theorem run_app_room {t t2 ty0 e : TypeId} {i : TypeInfo} (hu : P.underlying t = some (.slice e)) (hi : P.info? e = some i) {d2 : TypeDesc} (hu2 : P.underlying t2 = some d2) (hd2 : (∃ e2, d2 = .slice e2) ∨ d2 = .string)
    {b : Option Addr} {len cap n : Nat} {x : Value} {new : List Value} {w' : World} (hroom : len + n ≤ cap) (hn : (Builtin.lenOf x).run P w = .ok n w) (hnew : (Builtin.firstCells i.size n x).run P w = .ok new.toArray w)
    (hst : match b with | some a => (storeCells (a.add (len * i.size)) new).run P w = .ok () w' | none => w' = w) :
    (Builtin.append_ #[t, t2] ty0 #[.slice b len cap, x]).run P w = .ok (.slice b (len + n) cap) w' := by
  rcases hd2 with ⟨e2, rfl⟩ | rfl
  · cases b with
    | none => subst hst; simp [Builtin.append_, run_underlying hu, run_underlying hu2, sizeOf, typeInfo, hi, hn, hroom, hnew]
    | some a => simp only at hst; simp [Builtin.append_, run_underlying hu, run_underlying hu2, sizeOf, typeInfo, hi, hn, hroom, hnew, hst]
  · cases b with
    | none => subst hst; simp [Builtin.append_, run_underlying hu, run_underlying hu2, sizeOf, typeInfo, hi, hn, hroom, hnew]
    | some a => simp only at hst; simp [Builtin.append_, run_underlying hu, run_underlying hu2, sizeOf, typeInfo, hi, hn, hroom, hnew, hst]

theorem run_app_grow {t t2 ty0 e : TypeId} {i : TypeInfo} {z : Value} (hu : P.underlying t = some (.slice e)) (hi : P.info? e = some i) (hz : i.zero = some z) {d2 : TypeDesc} (hu2 : P.underlying t2 = some d2) (hd2 : (∃ e2, d2 = .slice e2) ∨ d2 = .string)
    {b : Option Addr} {len cap n : Nat} {x : Value} {old new : List Value} (hroom : ¬ len + n ≤ cap) (hsmall : len + n ≤ 4294967296) (hby : i.bytes ≤ 4096) (hn : (Builtin.lenOf x).run P w = .ok n w)
    (hold : (Builtin.firstCells i.size len (.slice b len cap)).run P w.drew = .ok old.toArray w.drew) (hnew : (Builtin.firstCells i.size n x).run P w.drew = .ok new.toArray w.drew) :
    (Builtin.append_ #[t, t2] ty0 #[.slice b len cap, x]).run P w = .ok (.slice (some ⟨w.heap.size, 0, none⟩) (len + n) (grownCap w (len + n) cap e))
      (w.drew.alloc (.cells (old.toArray ++ (new.toArray ++ Builtin.zeroCells z.cells (grownCap w (len + n) cap e - (len + n)))) e)) := by
  have h1 : ¬ Builtin.nextslicecap (len + n) cap * i.bytes > 2 ^ 48 := by
    have h2 := nextcap_le (need := len + n) (cap := cap) (by omega)
    have h3 : Builtin.nextslicecap (len + n) cap * i.bytes ≤ 8589935360 * 4096 := Nat.mul_le_mul (by omega) hby
    omega
  have h4 : ¬ (9223372036854775807 : Int) < (len : Int) + n := by omega
  have hq : (Question.appendCap (len + n) cap e).forced = false := rfl
  rcases hd2 with ⟨e2, rfl⟩ | rfl
  · simp [Builtin.append_, run_underlying hu, run_underlying hu2, sizeOf, typeInfo, hi, hz, hn, hroom, h1, h4, hq, hold, hnew, zeroValue, newRow, grownCap]
  · simp [Builtin.append_, run_underlying hu, run_underlying hu2, sizeOf, typeInfo, hi, hz, hn, hroom, h1, h4, hq, hold, hnew, zeroValue, newRow, grownCap]


theorem getD_of {l : List Value} {i : Nat} (h : i < l.length) : l.getD i undef = l[i] := by simp [List.getD, List.getElem?_eq_getElem h]

theorem CR.oneCell {c : Cell} {v : Value} (h : CR E w F c v) : v.oneCell' = true := by cases h <;> rfl

theorem append_rows {e : TypeId} {te : Ty} (he : E.tys e = some te) {rows ys : Rows} {B off cap : Nat} {g : Nat → Value} {new : List Value}
    (hk : ∀ r ∈ rows, r.map Cell.kind = te.kinds) (hk2 : ∀ r ∈ ys, r.map Cell.kind = te.kinds) (hc : rows.length + ys.length ≤ cap) (hnl : new.length = ys.flatten.length)
    (h1 : ∀ (i : Nat) (hi : i < rows.flatten.length), cell w B (off + i) = some (g i) ∧ ¬ F B (off + i) ∧ CR E w F rows.flatten[i] (g i))
    (h2 : ∀ (i : Nat) (hi : i < ys.flatten.length) (hi2 : i < new.length), cell w B (off + rows.flatten.length + i) = some new[i] ∧ ¬ F B (off + rows.flatten.length + i) ∧ CR E w F ys.flatten[i] new[i]) :
    CR E w F (.slice e (rows ++ ys)) (.slice (some ⟨B, off, none⟩) (rows.length + ys.length) cap) := by
  have hlen : rows.length + ys.length = (rows ++ ys).length := by simp
  have hfl : (rows ++ ys).flatten = rows.flatten ++ ys.flatten := by simp
  rw [hlen]
  refine .slice e _ te B off cap (fun i => if i < rows.flatten.length then g i else new.getD (i - rows.flatten.length) undef) he (fun r hr => ?_) (by omega) (fun i hi => ?_) fun i hi => ?_
  · rcases List.mem_append.1 hr with h | h
    · exact hk r h
    · exact hk2 r h
  · rw [hfl, List.length_append] at hi
    by_cases hlt : i < rows.flatten.length
    · rw [if_pos hlt]; exact ⟨(h1 i hlt).1, (h1 i hlt).2.1⟩
    · rw [if_neg hlt]
      have h3 := h2 (i - rows.flatten.length) (by omega) (by omega)
      rw [show off + rows.flatten.length + (i - rows.flatten.length) = off + i by omega] at h3
      have h4 : new.getD (i - rows.flatten.length) undef = new[i - rows.flatten.length]'(by omega) := getD_of (by omega)
      rw [h4]
      exact ⟨h3.1, h3.2.1⟩
  · have hi' := hi
    rw [hfl, List.length_append] at hi'
    by_cases hlt : i < rows.flatten.length
    · rw [if_pos hlt]
      have e1 : (rows ++ ys).flatten[i] = rows.flatten[i] := by simp only [hfl]; exact List.getElem_append_left _
      rw [e1]
      exact (h1 i hlt).2.2
    · rw [if_neg hlt]
      have h3 := h2 (i - rows.flatten.length) (by omega) (by omega)
      have h4 : new.getD (i - rows.flatten.length) undef = new[i - rows.flatten.length]'(by omega) := getD_of (by omega)
      have e1 : (rows ++ ys).flatten[i] = ys.flatten[i - rows.flatten.length]'(by omega) := by simp only [hfl]; exact List.getElem_append_right (by omega)
      rw [h4, e1]
      exact h3.2.2

theorem slice_vals {e : TypeId} {rows : Rows} {b : Option Addr} {len cap : Nat} (h : CR E w F (.slice e rows) (.slice b len cap)) {te : Ty} (he : E.tys e = some te) :
    rows = [] ∨ ∃ (B off : Nat) (g : Nat → Value), b = some ⟨B, off, none⟩ ∧ (∀ r ∈ rows, r.map Cell.kind = te.kinds) ∧ ∀ (i : Nat) (hi : i < rows.flatten.length), cell w B (off + i) = some (g i) ∧ ¬ F B (off + i) ∧ CR E w F rows.flatten[i] (g i) := by
  cases h with
  | empty => exact .inl rfl
  | slice _ _ te' B off cap g he' hk hc hm hr =>
    rw [he] at he'
    cases he'
    exact .inr ⟨B, off, g, rfl, hk, fun i hi => ⟨(hm i hi).1, (hm i hi).2, hr i hi⟩⟩

/-- the step of an append, the source given -/
theorem app_sound (G : Good P E) (h : Rel E R ρ own N st a w) {t t2 ty0 e : TypeId} {te : Ty} (hu : P.underlying t = some (.slice e)) (he : E.tys e = some te) (hby : te.bytes ≤ 4096) {d2 : TypeDesc} (hu2 : P.underlying t2 = some d2) (hd2 : (∃ e2, d2 = .slice e2) ∨ d2 = .string)
    {rows ys : Rows} {vx x : Value} {q : Owner} (hx : AR E w (Fn own R) ρ (.sl true e rows) vx q) {new : List Value} (hs : Src P E w (Fn own R) te.size te.kinds x ys new) (hlim : rows.length + ys.length ≤ 4294967296)
    {dst dis : Option Nat} (hq : ∀ B s, q = some (B, s) → ∃ y, dis = some y ∧ own (.tmp y []) = some (B, s)) (hd : ∀ d, dst = some d → d < N) {rd : List Nat} :
    ∃ val w', (Builtin.append_ #[t, t2] ty0 #[vx, x]).run P w = .ok val w' ∧ After E R ρ own N w (st.apply dst ⟨.one (.sl true e (rows ++ ys)), dis, [], [], rd⟩) (a.put dst val) w' := by
  have hT := G.ty e te he
  have hpos := hT.pos
  obtain ⟨i, z, hi1, hi2, hi3, hi4, hi5⟩ := hT.info
  obtain ⟨hzs, _⟩ := zero_cell hi5
  obtain ⟨b, cap, rfl⟩ := hx.inv_slV
  obtain ⟨_, hcap⟩ := hx.inv_sl.inv_cap
  have hsn := hs.len w
  have hfly := flat_len (even_of hT.len hs.kinds)
  have hrv := slice_vals hx.inv_sl he
  have hflr : rows.flatten.length = rows.length * te.size := by
    rcases hrv with rfl | ⟨_, _, _, _, hk, _⟩
    · simp
    · exact flat_len (even_of hT.len hk)
  have hmul : (rows.length + ys.length) * te.size = rows.length * te.size + ys.length * te.size := Nat.add_mul ..
  by_cases hroom : rows.length + ys.length ≤ cap
  · -- in place
    have hxx := hx
    generalize hv : Value.slice b rows.length cap = v at hxx
    cases hxx with
    | full _ _ b' n hc =>
      cases hv
      have hy0 : ys.length = 0 := by omega
      have : ys = [] := List.eq_nil_of_length_eq_zero hy0
      subst this
      have hn0 : new = [] := List.eq_nil_of_length_eq_zero (by rw [hs.size]; rfl)
      subst hn0
      refine ⟨_, w, run_app_room (i := i) (new := []) (w' := w) hu hi1 hu2 hd2 (by simp) hsn (by rw [hi2]; exact hs.run w fun _ _ => rfl) (by cases b <;> rfl), ?_⟩
      have hAR : AR E w (Fn own R) ρ (.sl true e (rows ++ [])) (.slice b (rows.length + ([] : Rows).length) rows.length) none := by simpa using hx
      refine ⟨ρ, _, fun _ _ h => h, h.put (dis := dis) (oV := fun _ => none) (T := fun _ _ => False) hd (World.keptBut_refl _ _) (fun _ _ h => h.elim) (fun p B t' e => by cases e) (fun p p' B t t' e => by cases e) fun hK => .of (hAR.keep hK (fun _ _ h => h) fun B t e => by cases e)⟩
    | own _ _ te' B off len' cap' hc he' hl hsp =>
      cases hv
      rw [he] at he'
      cases he'
      obtain ⟨y, hy, hown⟩ := hq _ _ rfl
      have hone : ∀ v ∈ new, v.oneCell' = true := by
        intro v hv
        obtain ⟨k, hk, rfl⟩ := List.getElem_of_mem hv
        exact (hs.rel k (by rw [← hs.size]; exact hk) hk).oneCell
      have hnl : new.length = ys.length * te.size := by rw [hs.size, hfly]
      have hle : rows.length * te.size + new.length ≤ cap * te.size := by
        rw [hnl, ← hmul]; exact Nat.mul_le_mul_right _ hroom
      have hst := run_storeCells (P := P) new w B (off + rows.length * te.size) 0 hone (fun j hj => hsp _ (by omega) (by omega))
      have hk : w.keptBut (setRow w B (off + rows.length * te.size) new) (inT fun B' o' => B' = B ∧ off + rows.length * te.size ≤ o') := setRow_kept _ _ _ _ _ fun i _ => ⟨rfl, by omega⟩
      refine ⟨_, _, run_app_room (i := i) (new := new) hu hi1 hu2 hd2 hroom hsn (by rw [hi2]; exact hs.run w fun _ _ => rfl) (by simp only [hi2, add_none]; exact hst), ?_⟩
      let q' : Owner := if rows.length + ys.length < cap then some (B, off + (rows.length + ys.length) * te.size) else none
      have hq' : ∀ B' t, q' = some (B', t) → B' = B ∧ t = off + (rows.length + ys.length) * te.size := by
        intro B' t e
        simp only [q'] at e
        split at e <;> cases e
        exact ⟨rfl, rfl⟩
      refine ⟨ρ, _, fun _ _ h => h, h.put (dis := dis) (oV := own1 q') (T := fun B' o' => B' = B ∧ off + rows.length * te.size ≤ o') hd hk ?_ ?_ ?_ fun hK => AVR.own1 ?_⟩
      · rintro B' o' ⟨rfl, ho⟩
        exact ⟨y, [], _, hy, hown, ho⟩
      · intro p B' t' e
        obtain ⟨_, e⟩ := own1_some e
        obtain ⟨rfl, rfl⟩ := hq' _ _ e
        exact .inl ⟨y, [], _, hy, hown, by rw [hmul]; omega⟩
      · intro p p' B' t t' e e'
        rw [(own1_some e).1, (own1_some e').1]
      · -- the value
        have hF : ∀ j, j < (rows.length + ys.length) * te.size → rows.length * te.size ≤ j → ¬ Fn (ownSet (ownDis own dis) dst (own1 q')) R B (off + j) := by
          rintro j hj1 hj2 (hR | ⟨x', t', hx', hl'⟩)
          · exact (h.out _ _ _ hown).2 _ hR
          · have : ∀ {s p}, ownDis own dis (.tmp s p) = some (B, t') → False := by
              intro s p e
              have e2 := h.inj _ _ _ _ _ (ownDis_sub e) hown
              injection e2 with e3 e4
              subst e3
              simp [ownDis, hy] at e
            cases x' with
            | tmp s p =>
              simp only [ownSet] at hx'
              split at hx'
              · obtain ⟨_, e⟩ := own1_some hx'
                obtain ⟨_, rfl⟩ := hq' _ _ e
                omega
              · exact this hx'
            | self k => have := h.inj _ _ _ _ _ (show own (.self k) = _ from hx') hown; cases this
            | cell k j => have := h.inj _ _ _ _ _ (show own (.cell k j) = _ from hx') hown; cases this
        have hCR : CR E (setRow w B (off + rows.length * te.size) new) (Fn (ownSet (ownDis own dis) dst (own1 q')) R) (.slice e (rows ++ ys)) (.slice (some ⟨B, off, none⟩) (rows.length + ys.length) cap) := by
          have hkr : ∀ r ∈ rows, r.map Cell.kind = te.kinds := by
            rcases hrv with rfl | ⟨_, _, _, _, hk, _⟩
            · simp
            · exact hk
          obtain ⟨g, hg⟩ : ∃ g : Nat → Value, ∀ (i : Nat) (hi : i < rows.flatten.length), cell w B (off + i) = some (g i) ∧ ¬ Fn own R B (off + i) ∧ CR E w (Fn own R) rows.flatten[i] (g i) := by
            rcases hrv with rfl | ⟨B', off', g, hb, _, hg⟩
            · exact ⟨fun _ => undef, fun i hi => by simp at hi⟩
            · cases hb; exact ⟨g, hg⟩
          refine append_rows he hkr hs.kinds hroom hs.size (g := g) (fun i hi => ?_) fun i hi hi2 => ?_
          · obtain ⟨g1, g2, g3⟩ := hg i hi
            have := hK.old _ _ _ g1 g2
            exact ⟨this.1, this.2, g3.keep hK⟩
          · rw [hflr]
            obtain ⟨u, hu'⟩ := (hsp (off + rows.length * te.size + i) (by omega) (by omega)).1
            refine ⟨setRow_same new w B _ i hi2 ⟨u, hu'⟩, ?_, (hs.rel i hi hi2).keep hK⟩
            rw [Nat.add_assoc]
            exact hF _ (by omega) (by omega)
        by_cases hlt : rows.length + ys.length < cap
        · have : q' = some (B, off + (rows.length + ys.length) * te.size) := if_pos hlt
          rw [this]
          refine .own e _ te B off _ cap (by rw [this] at hCR; exact hCR) he hlt fun j hj1 hj2 => ?_
          obtain ⟨⟨u, hu'⟩, hcold⟩ := hsp j (by rw [hmul] at hj1; omega) hj2
          refine ⟨⟨u, ?_⟩, by rw [setRow_cold]; exact hcold⟩
          rw [setRow_other _ _ _ _ _ _ (by rw [hmul] at hj1; omega)]
          exact hu'
        · have hn : q' = none := if_neg hlt
          have hcc : rows.length + ys.length = cap := by omega
          rw [hn]
          rw [hn, hcc] at hCR
          rw [hcc]
          exact .full _ _ _ _ hCR
  · -- a new block
    have hdrew : ∀ B off, cell w.drew B off = cell w B off := fun _ _ => rfl
    obtain ⟨old, hold, hol, hoc⟩ : ∃ old : List Value, (Builtin.firstCells te.size rows.length (.slice b rows.length cap)).run P w.drew = .ok old.toArray w.drew ∧ old.length = rows.flatten.length ∧ ∀ (k : Nat) (h1 : k < rows.flatten.length) (h2 : k < old.length), CR E w (Fn own R) rows.flatten[k] old[k] := by
      obtain ⟨old, ho⟩ := src_slice (P := P) G he hx.inv_sl
      exact ⟨old, ho.run _ hdrew, ho.size, ho.rel⟩
    have hrun := run_app_grow (z := z) (ty0 := ty0) hu hi1 hi4 hu2 hd2 hroom hlim (by omega) hsn (by rw [hi2]; exact hold) (by rw [hi2]; exact hs.run _ hdrew)
    refine ⟨_, _, hrun, ?_⟩
    have hge := grownCap_ge w (rows.length + ys.length) cap e
    have hzsz : z.cells.size = te.size := by rw [hzs, hT.len]
    have hsize : (old.toArray ++ (new.toArray ++ Builtin.zeroCells z.cells (grownCap w (rows.length + ys.length) cap e - (rows.length + ys.length)))).size = grownCap w (rows.length + ys.length) cap e * te.size := by
      simp only [Array.size_append, List.size_toArray, size_zeroCells, hol, hs.size, hflr, hfly, hzsz]
      have : grownCap w (rows.length + ys.length) cap e * te.size = (rows.length + ys.length) * te.size + (grownCap w (rows.length + ys.length) cap e - (rows.length + ys.length)) * te.size := by
        rw [← Nat.add_mul]; congr 1; omega
      omega
    generalize hC : old.toArray ++ (new.toArray ++ Builtin.zeroCells z.cells (grownCap w (rows.length + ys.length) cap e - (rows.length + ys.length))) = C at hsize
    have hkeep : w.keptBut (w.drew.alloc (.cells C e)) (inT fun _ _ => False) := World.keptBut_alloc w.drew (.cells C e) _
    have hcell : ∀ j, j < C.size → cell (w.drew.alloc (.cells C e)) w.heap.size j = C[j]? := fun j hj => World.cell?_alloc_new w.drew C e j
    have hold' : ∀ (j : Nat) (hj : j < rows.flatten.length), C[j]? = some (old[j]'(by omega)) := by
      intro j hj
      rw [← hC, Array.getElem?_append_left (by rw [List.size_toArray]; omega)]
      simp [show j < old.length by omega]
    have hnew' : ∀ (j : Nat) (hj : j < ys.flatten.length), C[rows.flatten.length + j]? = some (new[j]'(by rw [hs.size]; exact hj)) := by
      intro j hj
      have h5 : j < new.length := by rw [hs.size]; exact hj
      rw [← hC, Array.getElem?_append_right (by rw [List.size_toArray]; omega), Array.getElem?_append_left (by rw [List.size_toArray, List.size_toArray]; omega), List.size_toArray, hol, Nat.add_sub_cancel_left]
      simp [h5]
    have hCs : (rows.length + ys.length) * te.size ≤ C.size := by rw [hsize]; exact Nat.mul_le_mul_right _ hge
    have hCR : ∀ F', Keeps w (Fn own R) (w.drew.alloc (.cells C e)) F' → (∀ o, o < (rows.length + ys.length) * te.size → ¬ F' w.heap.size o) →
        CR E (w.drew.alloc (.cells C e)) F' (.slice e (rows ++ ys)) (.slice (some ⟨w.heap.size, 0, none⟩) (rows.length + ys.length) (grownCap w (rows.length + ys.length) cap e)) := by
      intro F' hK hF
      have hkr : ∀ r ∈ rows, r.map Cell.kind = te.kinds := by
        rcases hrv with rfl | ⟨_, _, _, _, hk, _⟩
        · simp
        · exact hk
      refine append_rows he hkr hs.kinds hge hs.size (g := fun i => old.getD i undef) (fun i hi => ?_) fun i hi hi2 => ?_
      · have h6 : old.getD i undef = old[i]'(by omega) := getD_of (by omega)
        rw [Nat.zero_add, h6]
        exact ⟨by rw [hcell _ (by omega)]; exact hold' i hi, hF _ (by omega), (hoc i hi _).keep hK⟩
      · rw [Nat.zero_add]
        exact ⟨by rw [hcell _ (by omega)]; exact hnew' i hi, hF _ (by omega), (hs.rel i hi hi2).keep hK⟩
    by_cases hfull : rows.length + ys.length = grownCap w (rows.length + ys.length) cap e
    · refine h.newSlice (q := none) (B := w.heap.size) hd hkeep (Nat.le_refl _) (by simp) (fun _ _ e => by cases e) fun F' hK hF => ?_
      have := hCR F' hK fun o _ hc => by obtain ⟨t, e, _⟩ := hF o hc; cases e
      rw [← hfull] at this ⊢
      exact .full _ _ _ _ this
    · refine h.newSlice (q := some (w.heap.size, 0 + (rows.length + ys.length) * te.size)) (B := w.heap.size) hd hkeep (Nat.le_refl _) (by simp) (fun _ _ e => by cases e; rfl) fun F' hK hF => .own e _ te _ 0 _ _ (hCR F' hK fun o ho hc => ?_) he (by omega) fun j hj1 hj2 => ⟨⟨C[j]'(by omega), by rw [hcell _ (by omega)]; simp [show j < C.size by omega]⟩, World.frozen?_alloc_new ..⟩
      obtain ⟨t, e, hl⟩ := hF o hc
      cases e
      omega

/- SOURCES: rows by value, or what lies in a block now -/

theorem int_kinds (G : Good P E) {e : TypeId} {te : Ty} {k : IntKind} (he : E.tys e = some te) (hd : te.desc = .int k) : te.kinds = [.int k] := by
  have hT := G.ty e te he
  obtain ⟨d, _, h2⟩ := hT.desc
  unfold DescOk at h2
  rw [hd] at h2
  cases d <;> simp_all

def NoPlace : Places := fun _ _ => False

theorem CR.loose {c : Cell} {v : Value} (h : CR E w F c v) : CR E w NoPlace c v :=
  h.keep ⟨fun _ _ _ _ _ => rfl, fun _ _ _ h1 _ => ⟨h1, fun h => h⟩, fun _ _ h => h⟩

/-- a source: by value, or plain numbers out of a block -/
def SrcV (E : Env) (w : World) (F : Places) (ρ : List Nat) (y : AV) (vy : Value) : Prop :=
  (∃ p, AVR E w F ρ y vy p) ∨ ∃ e te k rows, y = .one (.sl false e rows) ∧ E.tys e = some te ∧ te.desc = .int k ∧ CR E w NoPlace (.slice e rows) vy

theorem SrcV.src (G : Good P E) {o : Bool} {e : TypeId} {ys : Rows} {vy : Value} {te : Ty} (h : SrcV E w F ρ (.one (.sl o e ys)) vy) (he : E.tys e = some te) : ∃ new, Src P E w F te.size te.kinds vy ys new := by
  rcases h with ⟨p, h⟩ | ⟨e', te', k, rows, h1, h2, h3, h4⟩
  · exact src_slice G he h.get_one.inv_sl
  · cases h1
    rw [he] at h2
    cases h2
    obtain ⟨new, hs⟩ := src_slice (P := P) G he h4
    refine ⟨new, hs.len, hs.run, hs.kinds, hs.size, fun i h1 h2 => ?_⟩
    have hr := hs.rel i h1 h2
    obtain ⟨r, hr1, hc⟩ := List.mem_flatten.1 (List.getElem_mem h1)
    have hk := hs.kinds r hr1
    rw [int_kinds G he h3] at hk
    have hm : Cell.kind (ys.flatten[i]) ∈ r.map Cell.kind := List.mem_map_of_mem hc
    rw [hk, List.mem_singleton] at hm
    generalize ys.flatten[i] = c at hr hm
    generalize new[i] = v at hr
    cases c <;> simp [Cell.kind] at hm
    cases hr
    exact .int _ _

theorem SrcV.any {y : AV} {vy : Value} (h : SrcV E w F ρ y vy) : ∃ F0 p, AVR E w F0 ρ y vy p := by
  rcases h with ⟨p, h⟩ | ⟨e, te, k, rows, rfl, h2, h3, h4⟩
  · exact ⟨F, p, h⟩
  · exact ⟨NoPlace, _, .of (.sl _ _ _ h4)⟩

theorem SrcV.of {y : AV} {vy : Value} {p : Owners} (h : AVR E w F ρ y vy p) : SrcV E w F ρ y vy := .inl ⟨p, h⟩

/-- what lies in a block -/
theorem arr_get (h : Rel E R ρ own N st a w) {b B : Nat} {e : TypeId} {rows : Rows} {te : Ty} (hb : nth st.blk b = some (.arr e rows)) (he : E.tys e = some te) (hB : nth ρ b = some B) (h0 : 0 < rows.length) :
    own (.self b) = some (B, 0) ∧ (∀ j, own (.cell b j) = none) ∧ (∀ r ∈ rows, r.map Cell.kind = te.kinds) ∧ ((∃ v, cell w B 0 = some v) ∧ cold w B 0 = false) ∧
      ∃ g : Nat → Value, ∀ (i : Nat) (hi : i < rows.flatten.length), cell w B i = some (g i) ∧ cold w B i = false ∧ CR E w (Fn own R) rows.flatten[i] (g i) := by
  have hbr := h.blk b
  rw [hb] at hbr
  rcases hbr with ⟨h1, _⟩ | ⟨B', te', h1, h2, h3, h4, h5, h6, h7⟩
  · subst h1; simp at h0
  · rw [hB] at h1
    cases h1
    rw [he] at h4
    cases h4
    refine ⟨h2, h3, h5, h6, fun j => if hj : j < rows.flatten.length then Classical.choose (h7 j hj) else undef, fun i hi => ?_⟩
    simp only [hi, dif_pos]
    exact Classical.choose_spec (h7 i hi)

theorem sub_len {rows : Rows} {lo n : Nat} (h : lo + n ≤ rows.length) : (subL rows lo (lo + n)).length = n := by
  simp only [subL, takeN_eq, dropN_eq, List.length_drop, List.length_take]
  omega

theorem sub_flat {rows : Rows} {s lo n : Nat} (hr : Even s rows) (i : Nat) (hi : i < n * s) : (subL rows lo (lo + n)).flatten[i]? = rows.flatten[lo * s + i]? := by
  have hr2 : Even s (rows.take (lo + n)) := fun r hr' => hr r (List.mem_of_mem_take hr')
  simp only [subL, takeN_eq, dropN_eq]
  rw [flat_drop lo hr2, flat_take (lo + n) hr, List.getElem?_drop, List.getElem?_take_of_lt]
  rw [Nat.add_mul]
  omega

theorem win_rows (G : Good P E) (h : Rel E R ρ own N st a w) {e : TypeId} {b lo n : Nat} {c : Option Nat} {rows : Rows} {te : Ty} {vx : Value} {q : Owner} (hb : nth st.blk b = some (.arr e rows)) (he : E.tys e = some te)
    (hx : AR E w (Fn own R) ρ (.win e b lo n c) vx q) (hle : lo + n ≤ rows.length) : CR E w NoPlace (.slice e (subL rows lo (lo + n))) vx := by
  cases hx with
  | win _ _ _ _ _ te' B off cap hB he' hn hc ho hs =>
    rw [he] at he'
    cases he'
    by_cases h0 : n = 0
    · subst h0
      have : subL rows lo (lo + 0) = [] := List.eq_nil_of_length_eq_zero (sub_len hle)
      rw [this]
      exact .empty _ _ _
    · have hoff := ho (by omega)
      subst hoff
      obtain ⟨_, _, hk, _, g, hg⟩ := arr_get h hb he hB (by omega)
      have hev := even_of (G.ty _ _ he).len hk
      have hl := sub_len hle
      have hk2 : ∀ r ∈ subL rows lo (lo + n), r.map Cell.kind = te.kinds := fun r hr => by
        simp only [subL, takeN_eq, dropN_eq] at hr
        exact hk r (List.mem_of_mem_take (List.mem_of_mem_drop hr))
      have hfl := flat_len (even_of (G.ty _ _ he).len hk2)
      have hflr := flat_len hev
      rw [hl] at hfl
      have hsub : ∀ i, i < n * te.size → lo * te.size + i < rows.flatten.length := fun i hi => by
        have := Nat.mul_le_mul_right te.size hle
        rw [Nat.add_mul] at this
        omega
      have key : ∀ (i : Nat) (hi : i < (subL rows lo (lo + n)).flatten.length), (subL rows lo (lo + n)).flatten[i] = rows.flatten[lo * te.size + i]'(hsub i (by omega)) := fun i hi => by
        have := sub_flat (n := n) hev (lo := lo) i (by omega)
        rw [List.getElem?_eq_getElem hi, List.getElem?_eq_getElem (hsub i (by omega))] at this
        exact Option.some.inj this
      have hv := CR.slice (E := E) (w := w) (F := NoPlace) e (subL rows lo (lo + n)) te B (lo * te.size) cap (fun i => g (lo * te.size + i)) he hk2 (by omega) (fun i hi => ⟨(hg _ (hsub i (by omega))).1, fun h => h⟩) fun i hi => by
        rw [key i hi]
        exact (hg _ (hsub i (by omega))).2.2.loose
      rwa [hl] at hv

theorem msl_rows (h : Rel E R ρ own N st a w) {e : TypeId} {b : Nat} {rows : Rows} {vx : Value} {q : Owner} (hb : nth st.blk b = some (.arr e rows))
    (hx : AR E w (Fn own R) ρ (.msl e b rows.length) vx q) : CR E w NoPlace (.slice e rows) vx := by
  generalize hn : rows.length = n at hx
  cases hx with
  | mnil =>
    have := List.eq_nil_of_length_eq_zero hn
    subst this
    exact .empty _ _ _
  | msl _ _ _ te B cap hB he h0 hnc hcm hsp =>
    obtain ⟨_, _, hk, _, g, hg⟩ := arr_get h hb he hB (by omega)
    rw [← hn]
    refine .slice e rows te B 0 cap g he hk (by omega) (fun i hi => ?_) fun i hi => (hg i hi).2.2.loose
    rw [Nat.zero_add]
    exact ⟨(hg i hi).1, fun h => h⟩

theorem scalar_of {e : TypeId} (h : scalarTy E e = true) : ∃ te k, E.tys e = some te ∧ te.desc = .int k := by
  unfold scalarTy at h
  cases h1 : E.tys e with
  | none => rw [h1] at h; cases h
  | some te =>
    rw [h1] at h
    dsimp only at h
    cases hd : te.desc <;> rw [hd] at h <;> first | exact ⟨_, _, rfl, hd⟩ | cases h

theorem srcK_sound (G : Good P E) (h : Rel E R ρ own N st a w) {y : AV} {vy : Value} {p : Owners} (hy : AVR E w (Fn own R) ρ y vy p) {β : Type} {K : AV → List Nat → Option β} {r : β} (hu : srcK E st y K = some r) :
    ∃ y' rd, K y' rd = some r ∧ SrcV E w (Fn own R) ρ y' vy := by
  unfold srcK at hu
  split at hu
  · rename_i e b n
    split at hu <;> try (cases hu; done)
    rename_i e' rows hb
    obtain ⟨hc, hu1⟩ := cond_none_some hu
    obtain ⟨hn, hu2⟩ := cond_none_some hu1
    rw [Bool.and_eq_true] at hc
    have := Nat.eq_of_beq_eq_true hc.1
    subst this
    have := Nat.eq_of_beq_eq_true hn
    subst this
    obtain ⟨te, k, he, hd⟩ := scalar_of hc.2
    exact ⟨_, _, hu2, .inr ⟨e, te, k, rows, rfl, he, hd, msl_rows h hb hy.get_one⟩⟩
  · rename_i e b lo n c
    split at hu <;> try (cases hu; done)
    rename_i e' rows hb
    obtain ⟨hc, hu1⟩ := cond_none_some hu
    obtain ⟨hn, hu2⟩ := cond_none_some hu1
    rw [Bool.and_eq_true] at hc
    have := Nat.eq_of_beq_eq_true hc.1
    subst this
    obtain ⟨te, k, he, hd⟩ := scalar_of hc.2
    exact ⟨_, _, hu2, .inr ⟨e, te, k, _, rfl, he, hd, win_rows G h hb he hy.get_one (Nat.le_of_ble_eq_true hn)⟩⟩
  · exact ⟨_, _, hu, .of hy⟩

/- PARTS OF WHAT MAY BE WRITTEN -/

theorem sliceWK_some {e : TypeId} {b lo0 n cap : Nat} {c : Option Nat} {isS : Bool} {lo hi mx : Option AV} {vlo vhi vmx : Option Value} (hlo : OptR E w F ρ lo vlo) (hhi : OptR E w F ρ hi vhi) (hmx : OptR E w F ρ mx vmx) (hcap : n ≤ cap) {v : AV}
    (h : sliceWK e b lo0 n c lo hi mx some = some v) : ∃ l k m c', v = .one (.win e b (lo0 + l) (k - l) c') ∧ (Instr.sliceBounds isS n cap vlo vhi vmx).run P w = .ok (l, k, m) w ∧ l ≤ k ∧ k ≤ n ∧ k ≤ m ∧ m ≤ cap ∧ (c' = none ∨ (c' = c ∧ l = 0 ∧ m = cap)) := by
  obtain ⟨b1, b2, b3, b4, b5, b6⟩ := bounds_sound (P := P) (isS := isS) (len := n) (cap := cap) hlo hhi hmx hcap
  unfold sliceWK at h
  split at h
  · cases h
    exact ⟨0, n, cap, c, rfl, b2 rfl rfl rfl, Nat.zero_le _, Nat.le_refl _, hcap, Nat.le_refl _, .inr ⟨rfl, rfl, rfl⟩⟩
  · rename_i x
    split at h <;> try (cases h; done)
    rename_i l hl
    obtain ⟨hb, h⟩ := cond_none_some h
    cases h
    exact ⟨l.toNat, n, cap, none, rfl, b3 x rfl rfl rfl l hl hb, inB_nat hb, Nat.le_refl _, hcap, Nat.le_refl _, .inl rfl⟩
  · rename_i x
    split at h <;> try (cases h; done)
    rename_i k hk
    obtain ⟨hb, h⟩ := cond_none_some h
    cases h
    exact ⟨0, k.toNat, cap, c, rfl, b1 x rfl rfl rfl k hk hb, Nat.zero_le _, inB_nat hb, Nat.le_trans (inB_nat hb) hcap, Nat.le_refl _, .inr ⟨rfl, rfl, rfl⟩⟩
  · rename_i x y
    split at h <;> try (cases h; done)
    rename_i l k hl hk
    obtain ⟨hb, h⟩ := cond_none_some h
    obtain ⟨hb2, h⟩ := cond_none_some h
    cases h
    exact ⟨l.toNat, k.toNat, cap, none, rfl, b4 x y rfl rfl rfl l k hl hk hb hb2, inB_nat hb2, inB_nat hb, Nat.le_trans (inB_nat hb) hcap, Nat.le_refl _, .inl rfl⟩
  · rename_i x y
    split at h <;> try (cases h; done)
    rename_i k m hk hm
    obtain ⟨hb, h⟩ := cond_none_some h
    obtain ⟨he, h⟩ := cond_none_some h
    cases h
    have he : k = m := of_decide_eq_true he
    have hkn : k.toNat ≤ n := by rw [he]; exact inB_nat hb
    exact ⟨0, k.toNat, k.toNat, none, rfl, b5 x y rfl rfl rfl k m hk hm hb he, Nat.zero_le _, hkn, Nat.le_refl _, Nat.le_trans hkn hcap, .inl rfl⟩
  · rename_i x y z
    split at h <;> try (cases h; done)
    rename_i l k m hl hk hm
    obtain ⟨hb, h⟩ := cond_none_some h
    obtain ⟨he, h⟩ := cond_none_some h
    obtain ⟨hb2, h⟩ := cond_none_some h
    cases h
    have he : k = m := of_decide_eq_true he
    have hkn : k.toNat ≤ n := by rw [he]; exact inB_nat hb
    exact ⟨l.toNat, k.toNat, k.toNat, none, rfl, b6 x y z rfl rfl rfl l k m hl hk hm hb he hb2, inB_nat hb2, hkn, Nat.le_refl _, Nat.le_trans hkn hcap, .inl rfl⟩
  · cases h

/-- a part of a window is one -/
theorem win_sub {e : TypeId} {b lo0 n cap B off l k m : Nat} {c c' : Option Nat} {te : Ty} (hB : nth ρ b = some B) (he : E.tys e = some te) (hc : ∀ k, c = some k → cap = k) (ho : 0 < cap → off = lo0 * te.size)
    (hs : ∀ j, lo0 * te.size ≤ j → j < (lo0 + cap) * te.size → (∃ v, cell w B j = some v) ∧ cold w B j = false) (h1 : l ≤ k) (h2 : k ≤ n) (h3 : k ≤ m) (h4 : m ≤ cap) (h5 : c' = none ∨ (c' = c ∧ l = 0 ∧ m = cap)) :
    AR E w F ρ (.win e b (lo0 + l) (k - l) c') (.slice (if m = l then some ⟨B, off, none⟩ else (some ⟨B, off, none⟩ : Option Addr).map (·.add (l * te.size))) (k - l) (m - l)) none := by
  have hc' : ∀ q, c' = some q → m - l = q := by
    intro q hq
    rcases h5 with rfl | ⟨rfl, rfl, rfl⟩
    · cases hq
    · rw [hc q hq]; rfl
  have hs' : ∀ j, (lo0 + l) * te.size ≤ j → j < (lo0 + l + (m - l)) * te.size → (∃ v, cell w B j = some v) ∧ cold w B j = false := by
    intro j j1 j2
    have e1 := Nat.mul_le_mul_right te.size (show lo0 ≤ lo0 + l by omega)
    have e2 := Nat.mul_le_mul_right te.size (show lo0 + l + (m - l) ≤ lo0 + cap by omega)
    exact hs j (by omega) (by omega)
  by_cases hm : m = l
  · rw [if_pos hm]
    exact .win _ _ _ _ _ te B off (m - l) hB he (by omega) hc' (fun h => by omega) hs'
  · rw [if_neg hm]
    simp only [Option.map_some, add_none]
    exact .win _ _ _ _ _ te B _ (m - l) hB he (by omega) hc' (fun _ => by rw [ho (by omega), Nat.add_mul]) hs'

/- SLICES WHOSE ELEMENTS MAY BE WRITTEN -/

/-- the owners behind a step that gives a slot a value that owns nothing, ends block b and makes block l -/
def ownSwap (own : OI → Owner) (dst : Option Nat) (b l : Nat) (s : Owner) : OI → Owner
  | .tmp t p => if dst = some t then none else own (.tmp t p)
  | .self k => if k = l then s else if k = b then none else own (.self k)
  | .cell k j => if k = l then none else if k = b then none else own (.cell k j)

theorem ownSwap_sub {dst : Option Nat} {b l : Nat} {s : Owner} {y : OI} {B t : Nat} (h : ownSwap own dst b l s y = some (B, t)) :
    (y = .self l ∧ s = some (B, t)) ∨ (own y = some (B, t) ∧ y ≠ .self b ∧ y ≠ .self l) := by
  cases y with
  | tmp u p =>
    simp only [ownSwap] at h
    split at h
    · cases h
    · exact .inr ⟨h, by simp, by simp⟩
  | self k =>
    simp only [ownSwap] at h
    split at h
    · rename_i e; subst e; exact .inl ⟨rfl, h⟩
    · rename_i e
      split at h
      · cases h
      · rename_i e2; exact .inr ⟨h, fun c => e2 (by injection c), fun c => e (by injection c)⟩
  | cell k j =>
    simp only [ownSwap] at h
    split at h
    · cases h
    · split at h
      · cases h
      · exact .inr ⟨h, by simp, by simp⟩

/-- a block of elements gives way to a new one -/
theorem Rel.swap (h : Rel E R ρ own N st a w) {dst : Option Nat} {v : AV} {val : Value} {w' : World} {b B' : Nat} {e : TypeId} {rows rows' : Rows} {s : Owner} {T : Places} {rd : List Nat} (hb : nth st.blk b = some (.arr e rows))
    (hd : ∀ d, dst = some d → d < N) (hk : w.keptBut w' (inT T)) (hT : ∀ B off, T B off → own (.self b) = some (B, 0))
    (hs : ∀ B t, s = some (B, t) → t = 0 ∧ (own (.self b) = some (B, 0) ∨ (w.heap.size ≤ B ∧ B < w'.heap.size)))
    (hV : Keeps w (Fn own R) w' (Fn (ownSwap own dst b st.blk.length s) R) → AVR E w' (Fn (ownSwap own dst b st.blk.length s) R) (ρ ++ [B']) v val (fun _ => none))
    (hnew : Keeps w (Fn own R) w' (Fn (ownSwap own dst b st.blk.length s) R) → BlkR E w' (Fn (ownSwap own dst b st.blk.length s) R) (ρ ++ [B']) (ownSwap own dst b st.blk.length s) st.blk.length (some (.arr e rows'))) :
    After E R ρ own N w (st.apply dst ⟨v, none, [(b, .dead)], [.arr e rows'], rd⟩) (a.put dst val) w' := by
  have hbl : b < st.blk.length := nth_lt hb
  have hρl : ρ.length = st.blk.length := h.rho
  have hlt : ∀ y B t', own y = some (B, t') → B < w.heap.size := fun y B t' e => (h.out _ _ _ e).1
  have hnl := h.blk st.blk.length
  rw [nth_ge (Nat.le_refl _)] at hnl
  refine ⟨ρ ++ [B'], _, fun b B' hb => by rw [nth_app_lt _ _ _ (nth_lt hb)]; exact hb, h.gen (own' := ownSwap own dst b st.blk.length s) T (fun t => dst = some t) (fun k => k = b ∨ k = st.blk.length) hk ?_ ?_ ?_ (by rw [size_put]; exact h.size) (by rw [defers_put]; exact h.defers) ?_ ?_ ?_ ?_ ?_ ?_⟩
  · intro B off hm
    exact ⟨.self b, 0, hT B off hm, Nat.zero_le _, .inl rfl⟩
  · intro y B t' hy
    rcases ownSwap_sub hy with ⟨rfl, e⟩ | ⟨e, _⟩
    · obtain ⟨rfl, h1 | h1⟩ := hs _ _ e
      · exact .inl ⟨_, 0, h1, Nat.le_refl _⟩
      · exact .inr h1
    · exact .inl ⟨y, t', e, Nat.le_refl _⟩
  · intro x y B t t' hx hy
    rcases ownSwap_sub hx with ⟨rfl, e⟩ | ⟨e, n1, n2⟩ <;> rcases ownSwap_sub hy with ⟨rfl, e'⟩ | ⟨e', n1', n2'⟩
    · rfl
    · exfalso
      obtain ⟨_, h1 | h1⟩ := hs _ _ e
      · exact n1' (h.inj _ _ _ _ _ e' h1)
      · have := hlt _ _ _ e'; omega
    · exfalso
      obtain ⟨_, h1 | h1⟩ := hs _ _ e'
      · exact n1 (h.inj _ _ _ _ _ e h1)
      · have := hlt _ _ _ e; omega
    · exact h.inj _ _ _ _ _ e e'
  · intro t hc
    have h1 : dst ≠ some t := hc
    refine ⟨by simp only [St.apply, disT, get_put, h1, if_false], ?_, fun p => by simp only [ownSwap, h1, if_false]⟩
    rw [getD_put a dst val t (by rw [h.size]; exact hd)]
    simp only [h1, if_false]
  · intro hK t hc
    have e1 : get (st.apply dst ⟨v, none, [(b, .dead)], [.arr e rows'], rd⟩).fr t = v := by simp only [St.apply, disT, get_put, hc, if_true]
    rw [e1, getD_put a dst val t (by rw [h.size]; exact hd)]
    simp only [hc, if_true]
    have e2 : (fun p => ownSwap own dst b st.blk.length s (.tmp t p)) = fun _ => none := funext fun p => by simp only [ownSwap, hc, if_true]
    rw [hc] at e2 hV hK
    rw [e2]
    exact hV hK
  · simp only [St.apply, writes, app_eq, List.length_append, List.length_singleton, setN_eq, List.length_set, hρl]
  · intro b B hb
    rw [nth_app_lt _ _ _ (nth_lt hb)]; exact hb
  · intro k hkb
    have k1 : k ≠ b := fun e => hkb (.inl e)
    have k2 : k ≠ st.blk.length := fun e => hkb (.inr e)
    refine ⟨?_, by simp only [ownSwap, k1, k2, if_false], fun j => by simp only [ownSwap, k1, k2, if_false]⟩
    simp only [St.apply, writes, app_eq]
    by_cases hk' : k < st.blk.length
    · rw [nth_app_lt _ _ _ (by rw [setN_eq, List.length_set]; exact hk'), nth_set _ _ _ _ (by rw [hb]; rfl), if_neg k1]
    · rw [nth_ge (l := st.blk) (by omega), nth_ge]
      simp only [List.length_append, List.length_singleton, setN_eq, List.length_set]
      omega
  · intro hK k hkb
    rcases hkb with rfl | rfl
    · simp only [St.apply, writes, app_eq]
      rw [nth_app_lt _ _ _ (by rw [setN_eq, List.length_set]; exact hbl), nth_set _ _ _ _ (by rw [hb]; rfl), if_pos rfl]
      have k2 : k ≠ st.blk.length := by omega
      exact ⟨by simp only [ownSwap, k2, if_true, if_false], fun j => by simp only [ownSwap, k2, if_true, if_false]⟩
    · have e1 : nth (st.apply dst ⟨v, none, [(b, .dead)], [.arr e rows'], rd⟩).blk st.blk.length = some (.arr e rows') := by
        simp only [St.apply, writes, app_eq]
        have := nth_app_len (setN st.blk b .dead) (.arr e rows')
        rwa [setN_eq, List.length_set, ← setN_eq] at this
      rw [e1]
      exact hnew hK

/-- two lists of cells, one behind the other -/
theorem two_parts {rows ys : Rows} {B : Nat} {g : Nat → Value} {new : List Value} (hnl : new.length = ys.flatten.length)
    (h1 : ∀ (i : Nat) (hi : i < rows.flatten.length), cell w B i = some (g i) ∧ cold w B i = false ∧ CR E w F rows.flatten[i] (g i))
    (h2 : ∀ (i : Nat) (hi : i < ys.flatten.length) (hi2 : i < new.length), cell w B (rows.flatten.length + i) = some new[i] ∧ cold w B (rows.flatten.length + i) = false ∧ CR E w F ys.flatten[i] new[i]) :
    ∀ (i : Nat) (hi : i < (rows ++ ys).flatten.length), ∃ v, cell w B i = some v ∧ cold w B i = false ∧ CR E w F (rows ++ ys).flatten[i] v := by
  intro i hi
  have hfl : (rows ++ ys).flatten = rows.flatten ++ ys.flatten := by simp
  have hi' := hi
  rw [hfl, List.length_append] at hi'
  by_cases hlt : i < rows.flatten.length
  · have e1 : (rows ++ ys).flatten[i] = rows.flatten[i] := by simp only [hfl]; exact List.getElem_append_left _
    rw [e1]
    exact ⟨_, h1 i hlt⟩
  · have h3 := h2 (i - rows.flatten.length) (by omega) (by omega)
    rw [show rows.flatten.length + (i - rows.flatten.length) = i by omega] at h3
    have e1 : (rows ++ ys).flatten[i] = ys.flatten[i - rows.flatten.length]'(by omega) := by simp only [hfl]; exact List.getElem_append_right (by omega)
    rw [e1]
    exact ⟨_, h3⟩

/-- what an append takes, and how its run goes -/
structure ASrc (P : Program) (E : Env) (w : World) (F : Places) (t t2 ty0 e : TypeId) (te : Ty) (x : Value) (ys : Rows) (new : List Value) : Prop where
  room : ∀ {b : Option Addr} {len cap : Nat} {w' : World}, len + ys.length ≤ cap → (match b with | some a => (storeCells (a.add (len * te.size)) new).run P w = .ok () w' | none => w' = w) →
    (Builtin.append_ #[t, t2] ty0 #[.slice b len cap, x]).run P w = .ok (.slice b (len + ys.length) cap) w'
  grow : ∀ {b : Option Addr} {len cap : Nat} {old : List Value} {i : TypeInfo} {z : Value}, P.info? e = some i → i.zero = some z → i.size = te.size → ¬ len + ys.length ≤ cap → len + ys.length ≤ 4294967296 → i.bytes ≤ 4096 →
    (Builtin.firstCells te.size len (.slice b len cap)).run P w.drew = .ok old.toArray w.drew →
    (Builtin.append_ #[t, t2] ty0 #[.slice b len cap, x]).run P w = .ok (.slice (some ⟨w.heap.size, 0, none⟩) (len + ys.length) (grownCap w (len + ys.length) cap e))
      (w.drew.alloc (.cells (old.toArray ++ (new.toArray ++ Builtin.zeroCells z.cells (grownCap w (len + ys.length) cap e - (len + ys.length)))) e))
  kinds : ∀ r ∈ ys, r.map Cell.kind = te.kinds
  size : new.length = ys.flatten.length
  rel : ∀ (k : Nat) (h1 : k < ys.flatten.length) (h2 : k < new.length), CR E w F ys.flatten[k] new[k]

theorem Src.asrc (G : Good P E) {t t2 ty0 e : TypeId} {te : Ty} (hut : P.underlying t = some (.slice e)) (he : E.tys e = some te) {d2 : TypeDesc} (hu2 : P.underlying t2 = some d2) (hd2 : (∃ e2, d2 = .slice e2) ∨ d2 = .string) {x : Value} {ys : Rows} {new : List Value}
    (hs : Src P E w F te.size te.kinds x ys new) : ASrc P E w F t t2 ty0 e te x ys new := by
  obtain ⟨i0, z0, hi1, hi2, hi3, hi4, hi5⟩ := (G.ty e te he).info
  refine ⟨fun hroom hst => ?_, fun h1 h2 h3 hroom hlim hby hold => ?_, hs.kinds, hs.size, hs.rel⟩
  · exact run_app_room (i := i0) (new := new) hut hi1 hu2 hd2 hroom (hs.len w) (by rw [hi2]; exact hs.run w fun _ _ => rfl) (by rw [hi2]; exact hst)
  · exact run_app_grow (ty0 := ty0) hut h1 h2 hu2 hd2 hroom hlim hby (hs.len w) (by rw [h3]; exact hold) (by rw [h3]; exact hs.run _ fun _ _ => rfl)

/-- zeros -/
theorem asrc_zeros (G : Good P E) {t t2 ty0 e : TypeId} {te : Ty} (hut : P.underlying t = some (.slice e)) (he : E.tys e = some te) {j : IntKind} (hu2 : P.underlying t2 = some (.int j)) (hby : te.bytes ≤ 4096) {k0 : IntKind} {k : Int} (hk0 : 0 ≤ k) (hk : k ≤ 4294967296)
    {row : Row} {z : Value} {i0 : TypeInfo} (hi1 : P.info? e = some i0) (hi2 : i0.size = te.size) (hi3 : i0.bytes = te.bytes) (hi4 : i0.zero = some z) (hzl : z.cells.size = te.size) (hrow : row.map Cell.kind = te.kinds) (hrl : row.length = te.size)
    (hrel : ∀ (i : Nat) (h : i < row.length), CR E w F row[i] (z.cells.getD i undef)) :
    ∃ new, ASrc P E w F t t2 ty0 e te (.int k0 k) (List.replicate k.toNat row) new := by
  have hT := G.ty e te he
  have hpos := hT.pos
  have hwk : IntKind.i64.wrap k = k := wrap_small hk0 (by omega)
  have hb : k * (te.bytes : Int) ≤ 2 ^ 48 := by
    have h7 : k * (te.bytes : Int) ≤ 4294967296 * 4096 := Int.mul_le_mul hk (by omega) (by omega) (by omega)
    omega
  have hev : ∀ r ∈ List.replicate k.toNat row, r.map Cell.kind = te.kinds := fun r hr' => by
    rw [(List.mem_replicate.1 hr').2]; exact hrow
  have hfl := flat_len (even_of hT.len hev)
  simp only [List.length_replicate] at hfl
  have hn0 : ¬ k < 0 := by omega
  have hb' : ¬ (281474976710656 : Int) < k * (i0.bytes : Int) := by rw [hi3]; omega
  have hzc : ∀ m, m * te.size = 0 → Builtin.zeroCells z.cells m = #[] := fun m h0 => by
    have : m = 0 := by
      rcases Nat.mul_eq_zero.1 h0 with h | h
      · exact h
      · omega
    rw [this]; simp [Builtin.zeroCells]
  refine ⟨(Builtin.zeroCells z.cells k.toNat).toList, fun {b len cap w'} hroom hst => ?_, fun {b len cap old i z'} h1 h2 h3 hroom hlim hby' hold => ?_, hev, ?_, fun m g1 g2 => ?_⟩
  · simp only [List.length_replicate] at hroom ⊢
    by_cases h0 : k.toNat * te.size = 0
    · rw [hzc _ h0] at hst
      cases b with
      | none => subst hst; simp [Builtin.append_, run_underlying hut, run_underlying hu2, sizeOf, typeInfo, hi1, hi2, asInt, asIntOf, hwk, hn0, hb', h0, hroom]
      | some a => simp only [List.toList_toArray] at hst; simp [Builtin.append_, run_underlying hut, run_underlying hu2, sizeOf, typeInfo, hi1, hi2, asInt, asIntOf, hwk, hn0, hb', h0, hroom, hst]
    · cases b with
      | none => subst hst; simp [Builtin.append_, run_underlying hut, run_underlying hu2, sizeOf, typeInfo, hi1, hi2, hi4, zeroValue, asInt, asIntOf, hwk, hn0, hb', h0, hroom]
      | some a => simp only at hst; simp [Builtin.append_, run_underlying hut, run_underlying hu2, sizeOf, typeInfo, hi1, hi2, hi4, zeroValue, asInt, asIntOf, hwk, hn0, hb', h0, hroom, hst]
  · simp only [List.length_replicate] at hroom hlim ⊢
    rw [hi1] at h1
    cases h1
    rw [hi4] at h2
    cases h2
    have h1 : ¬ Builtin.nextslicecap (len + k.toNat) cap * i0.bytes > 2 ^ 48 := by
      have h2 := nextcap_le (need := len + k.toNat) (cap := cap) (by omega)
      have h3 : Builtin.nextslicecap (len + k.toNat) cap * i0.bytes ≤ 8589935360 * 4096 := Nat.mul_le_mul (by omega) hby'
      omega
    have h4 : ¬ (9223372036854775807 : Int) < (len : Int) + k.toNat := by omega
    have h5 : ¬ (9223372036854775807 : Int) < (len : Int) + max k 0 := by omega
    have hq : (Question.appendCap (len + k.toNat) cap e).forced = false := rfl
    by_cases h0 : k.toNat * te.size = 0
    · rw [hzc _ h0]
      simp [Builtin.append_, run_underlying hut, run_underlying hu2, sizeOf, typeInfo, hi1, hi2, hi4, zeroValue, newRow, grownCap, asInt, asIntOf, hwk, hn0, hb', h0, hroom, h1, h4, h5, hq, hold]
    · simp [Builtin.append_, run_underlying hut, run_underlying hu2, sizeOf, typeInfo, hi1, hi2, hi4, zeroValue, newRow, grownCap, asInt, asIntOf, hwk, hn0, hb', h0, hroom, h1, h4, h5, hq, hold]
  · rw [hfl]; simp [Builtin.zeroCells, hzl]
  · have hdm : m = m / te.size * te.size + m % te.size := by rw [Nat.mul_comm]; exact (Nat.div_add_mod m te.size).symm
    have hmod : m % te.size < te.size := Nat.mod_lt _ (by omega)
    have hdiv : m / te.size < k.toNat := by
      rw [Nat.div_lt_iff_lt_mul (by omega)]; omega
    obtain ⟨q1, q2, q3⟩ := flat_get (even_of hT.len hev) (i := m / te.size) (j := m % te.size) (by simpa using hdiv) hmod
    have e2 : (List.replicate k.toNat row).flatten[m] = row[m % te.size]'(by omega) := by
      have : (List.replicate k.toNat row).flatten[m] = (List.replicate k.toNat row).flatten[m / te.size * te.size + m % te.size] := by
        congr 1
      rw [this, q3]
      simp only [List.getElem_replicate]
    rw [e2]
    have hlt : m % te.size < z.cells.size := by omega
    have e3 : (Builtin.zeroCells z.cells k.toNat).toList[m] = z.cells.getD (m % te.size) undef := by
      simp [Builtin.zeroCells, hzl, getElem!_def, Array.getElem?_eq_getElem hlt]
    rw [e3]
    exact hrel _ (by omega)

theorem mapp_core (G : Good P E) (h : Rel E R ρ own N st a w) {t t2 ty0 e : TypeId} {te : Ty} {b n : Nat} {vx vy : Value} {px : Owners} (hx : AVR E w (Fn own R) ρ (.one (.msl e b n)) vx px) (hut : P.underlying t = some (.slice e)) (he : E.tys e = some te) (hby : te.bytes ≤ 4096)
    {rows ys : Rows} (hb : nth st.blk b = some (.arr e rows)) (hn : n = rows.length) (hlim : rows.length + ys.length ≤ 4294967296)
    {new : List Value} (hs : ASrc P E w (Fn own R) t t2 ty0 e te vy ys new) {dst : Option Nat} (hd : ∀ d, dst = some d → d < N) :
    ∃ val w', (Builtin.append_ #[t, t2] ty0 #[vx, vy]).run P w = .ok val w' ∧ After E R ρ own N w (st.apply dst ⟨.one (.msl e (lenN st.blk) (rows.length + ys.length)), none, [(b, .dead)], [.arr e (rows ++ ys)], [b]⟩) (a.put dst val) w' := by
  have hT := G.ty e te he
  have hpos := hT.pos
  obtain ⟨i, z, hi1, hi2, hi3, hi4, hi5⟩ := hT.info
  obtain ⟨hzs, _⟩ := zero_cell hi5
  have hfly := flat_len (even_of hT.len hs.kinds)
  have hdrew : ∀ B off, cell w.drew B off = cell w B off := fun _ _ => rfl
  have hbr := h.blk b
  rw [hb] at hbr
  -- what lies there
  have hcase : (rows = [] ∧ ∃ v, vx = .slice v 0 0) ∨ ∃ (B cap : Nat) (g : Nat → Value), nth ρ b = some B ∧ own (.self b) = some (B, 0) ∧ vx = .slice (some ⟨B, 0, none⟩) rows.length cap ∧ 0 < rows.length ∧ rows.length ≤ cap ∧ cap ≤ 9223372036854775807 ∧ (∀ r ∈ rows, r.map Cell.kind = te.kinds) ∧ cold w B 0 = false ∧
      (∀ j, j < cap * te.size → (∃ v, cell w B j = some v) ∧ cold w B j = false) ∧ ∀ (j : Nat) (hj : j < rows.flatten.length), cell w B j = some (g j) ∧ cold w B j = false ∧ CR E w (Fn own R) rows.flatten[j] (g j) := by
    have hq := hx.get_one
    generalize px [] = q at hq
    cases hq with
    | mnil => exact .inl ⟨List.eq_nil_of_length_eq_zero hn.symm, _, rfl⟩
    | msl _ _ _ te' B cap hB he' h0 hnc hcm hsp =>
      rw [he] at he'
      cases he'
      rcases hbr with ⟨h1, _⟩ | ⟨B', te', h1, h2, _, h4, h5, h7, h6⟩
      · subst h1; simp at hn; omega
      · rw [hB] at h1
        cases h1
        rw [he] at h4
        cases h4
        refine .inr ⟨B, cap, fun j => if hj : j < rows.flatten.length then Classical.choose (h6 j hj) else undef, hB, h2, by rw [hn], by omega, by omega, hcm, h5, h7.2, hsp, fun j hj => ?_⟩
        simp only [hj, dif_pos]
        exact Classical.choose_spec (h6 j hj)
  have hkr : ∀ r ∈ rows, r.map Cell.kind = te.kinds := by
    rcases hcase with ⟨rfl, _⟩ | ⟨_, _, _, _, _, _, _, _, _, hk, _, _⟩
    · simp
    · exact hk
  have hflr := flat_len (even_of hT.len hkr)
  have hka : ∀ r ∈ rows ++ ys, r.map Cell.kind = te.kinds := fun r hr => by
    rcases List.mem_append.1 hr with h | h
    · exact hkr r h
    · exact hs.kinds r h
  have hmul : (rows.length + ys.length) * te.size = rows.length * te.size + ys.length * te.size := Nat.add_mul ..
  -- a new block
  have grow : ∀ (bo : Option Addr) (cap : Nat), vx = .slice bo rows.length cap → ¬ rows.length + ys.length ≤ cap → (∃ old : List Value, (Builtin.firstCells te.size rows.length (.slice bo rows.length cap)).run P w.drew = .ok old.toArray w.drew ∧ old.length = rows.flatten.length ∧ ∀ (k : Nat) (h1 : k < rows.flatten.length) (h2 : k < old.length), CR E w (Fn own R) rows.flatten[k] old[k]) →
      ∃ val w', (Builtin.append_ #[t, t2] ty0 #[vx, vy]).run P w = .ok val w' ∧ After E R ρ own N w (st.apply dst ⟨.one (.msl e (lenN st.blk) (rows.length + ys.length)), none, [(b, .dead)], [.arr e (rows ++ ys)], [b]⟩) (a.put dst val) w' := by
    rintro bo cap rfl hroom ⟨old, hold, hol, hoc⟩
    have hrun := hs.grow hi1 hi4 hi2 hroom hlim (by omega) hold
    refine ⟨_, _, hrun, ?_⟩
    have hge := grownCap_ge w (rows.length + ys.length) cap e
    have hzsz : z.cells.size = te.size := by rw [hzs, hT.len]
    have hsize : (old.toArray ++ (new.toArray ++ Builtin.zeroCells z.cells (grownCap w (rows.length + ys.length) cap e - (rows.length + ys.length)))).size = grownCap w (rows.length + ys.length) cap e * te.size := by
      simp only [Array.size_append, List.size_toArray, size_zeroCells, hol, hs.size, hflr, hfly, hzsz]
      have : grownCap w (rows.length + ys.length) cap e * te.size = (rows.length + ys.length) * te.size + (grownCap w (rows.length + ys.length) cap e - (rows.length + ys.length)) * te.size := by
        rw [← Nat.add_mul]; congr 1; omega
      omega
    generalize hC : old.toArray ++ (new.toArray ++ Builtin.zeroCells z.cells (grownCap w (rows.length + ys.length) cap e - (rows.length + ys.length))) = C at hsize
    have hkeep : w.keptBut (w.drew.alloc (.cells C e)) (inT fun _ _ => False) := World.keptBut_alloc w.drew (.cells C e) _
    have hcell : ∀ j, j < C.size → cell (w.drew.alloc (.cells C e)) w.heap.size j = C[j]? := fun j hj => World.cell?_alloc_new w.drew C e j
    have hcold : ∀ j, cold (w.drew.alloc (.cells C e)) w.heap.size j = false := fun j => World.frozen?_alloc_new ..
    have hCs : (rows.length + ys.length) * te.size ≤ C.size := by rw [hsize]; exact Nat.mul_le_mul_right _ hge
    refine h.swap (B' := w.heap.size) (s := some (w.heap.size, 0)) hb hd hkeep (fun _ _ h => h.elim) (fun B t e => by cases e; exact ⟨rfl, .inr ⟨Nat.le_refl _, by simp⟩⟩) (fun hK => .of ?_) (fun hK => ?_)
    · rw [lenN_eq]
      exact .msl e _ _ te w.heap.size _ (by rw [← h.rho]; exact nth_app_len ρ _) he (by omega) hge (by have := grownCap_le_maxLen w (rows.length + ys.length) cap e (by unfold maxLen; omega); unfold maxLen at this; omega) fun j hj => ⟨⟨C[j]'(by omega), by rw [hcell _ (by omega)]; simp [show j < C.size by omega]⟩, hcold j⟩
    · refine .inr ⟨w.heap.size, te, by rw [← h.rho]; exact nth_app_len ρ _, by simp only [ownSwap, if_true], fun j => by simp only [ownSwap, if_true], he, hka, ⟨⟨C[0]'(by have := Nat.mul_le_mul_left (rows.length + ys.length) hpos; omega), by rw [hcell _ (by have := Nat.mul_le_mul_left (rows.length + ys.length) hpos; omega)]; simp⟩, hcold 0⟩, ?_⟩
      refine two_parts hs.size (g := fun i => old.getD i undef) (fun i hi => ?_) fun i hi hi2 => ?_
      · have h6 : old.getD i undef = old[i]'(by omega) := getD_of (by omega)
        rw [h6]
        refine ⟨?_, hcold i, (hoc i hi _).keep hK⟩
        rw [hcell _ (by omega), ← hC, Array.getElem?_append_left (by rw [List.size_toArray]; omega)]
        simp [show i < old.length by omega]
      · refine ⟨?_, hcold _, (hs.rel i hi hi2).keep hK⟩
        rw [hcell _ (by omega), ← hC, Array.getElem?_append_right (by rw [List.size_toArray]; omega), Array.getElem?_append_left (by rw [List.size_toArray, List.size_toArray]; omega), List.size_toArray, hol, Nat.add_sub_cancel_left]
        simp [hi2]
  rcases hcase with ⟨rfl, v0, rfl⟩ | ⟨B, cap, g, hB, hself, rfl, h0, hnc, hcm, _, hcb, hsp, hg⟩
  · by_cases hy0 : ys.length = 0
    · have := List.eq_nil_of_length_eq_zero hy0
      subst this
      have hn0 : new = [] := List.eq_nil_of_length_eq_zero (by rw [hs.size]; rfl)
      subst hn0
      refine ⟨_, w, hs.room (by simp) (by cases v0 <;> rfl), ?_⟩
      refine h.swap (B' := 0) (s := none) hb hd (World.keptBut_refl _ (inT fun _ _ => False)) (fun _ _ h => h.elim) (fun B t e => by cases e) (fun hK => .of (.mnil _ _ _)) (fun hK => .inl ⟨rfl, ?_, fun j => ?_⟩)
      · simp only [ownSwap, if_true]
      · simp only [ownSwap, if_true]
    · exact grow v0 0 rfl (fun hc => hy0 (by simpa using hc)) ⟨[], by cases v0 <;> simp [Builtin.firstCells, loadCells, loadCellsFrom], rfl, fun k h => by simp at h⟩
  · by_cases hroom : rows.length + ys.length ≤ cap
    · have hone : ∀ v ∈ new, v.oneCell' = true := by
        intro v hv
        obtain ⟨k, hk, rfl⟩ := List.getElem_of_mem hv
        exact (hs.rel k (by rw [← hs.size]; exact hk) hk).oneCell
      have hnl : new.length = ys.length * te.size := by rw [hs.size, hfly]
      have hle : rows.length * te.size + new.length ≤ cap * te.size := by
        rw [hnl, ← hmul]; exact Nat.mul_le_mul_right _ hroom
      have hst := run_storeCells (P := P) new w B (rows.length * te.size) 0 hone (fun j hj => hsp _ (by omega))
      have hk : w.keptBut (setRow w B (rows.length * te.size) new) (inT fun B' o' => B' = B) := setRow_kept _ _ _ _ _ fun i _ => rfl
      refine ⟨_, _, hs.room hroom (by simp only [add_none, Nat.zero_add]; exact hst), ?_⟩
      refine h.swap (B' := B) (s := some (B, 0)) hb hd hk (fun B' _ e => by rw [e]; exact hself) (fun B' t e => by cases e; exact ⟨rfl, .inl hself⟩) (fun hK => .of ?_) (fun hK => ?_)
      · rw [lenN_eq]
        exact .msl e _ _ te B cap (by rw [← h.rho]; exact nth_app_len ρ _) he (by omega) hroom hcm fun j hj => hK.still _ _ (hsp j hj)
      · refine .inr ⟨B, te, by rw [← h.rho]; exact nth_app_len ρ _, by simp only [ownSwap, if_true], fun j => by simp only [ownSwap, if_true], he, hka, ⟨(hK.still B 0 (hsp 0 (Nat.mul_pos (by omega) (by omega)))).1, by rw [setRow_cold]; exact hcb⟩, ?_⟩
        refine two_parts hs.size (g := g) (fun i hi => ?_) fun i hi hi2 => ?_
        · obtain ⟨g1, g2, g3⟩ := hg i hi
          refine ⟨?_, by rw [setRow_cold]; exact g2, g3.keep hK⟩
          rw [setRow_other _ _ _ _ _ _ (by omega)]
          exact g1
        · rw [hflr]
          obtain ⟨⟨v, hv⟩, hc⟩ := hsp (rows.length * te.size + i) (by omega)
          exact ⟨setRow_same new w B _ i hi2 ⟨v, hv⟩, by rw [setRow_cold]; exact hc, (hs.rel i hi hi2).keep hK⟩
    · refine grow _ _ rfl hroom ⟨(List.range (rows.length * te.size)).map g, ?_, by simp [hflr], fun k h1 h2 => ?_⟩
      · simp only [Builtin.firstCells]
        exact run_loadCells w.drew ⟨B, 0, none⟩ _ g fun j hj => by
          rw [add_none, Nat.zero_add]
          exact (hg j (by omega)).1
      · simp only [List.getElem_map, List.getElem_range]
        exact (hg k h1).2.2

theorem mzapp_sound (G : Good P E) (h : Rel E R ρ own N st a w) {t t2 ty0 e : TypeId} {b n : Nat} {vx vy : Value} {px py : Owners} {k0 : IntKind} {k : Int} (hx : AVR E w (Fn own R) ρ (.one (.msl e b n)) vx px) (hy : AVR E w (Fn own R) ρ (.one (.int k0 k)) vy py)
    {u : Upd} (hu : mzappK E t t2 e b n st k some = some u) {dst : Option Nat} (hd : ∀ d, dst = some d → d < N) :
    ∃ val w', (Builtin.append_ #[t, t2] ty0 #[vx, vy]).run P w = .ok val w' ∧ After E R ρ own N w (st.apply dst u) (a.put dst val) w' := by
  unfold mzappK at hu
  split at hu <;> try (cases hu; done)
  rename_i ty ty2 ht ht2
  split at hu <;> try (cases hu; done)
  rename_i e0 j hde hd2
  cases he : E.tys e with
  | none => simp [he] at hu
  | some te =>
    simp only [he] at hu
    have hb0 := (cond_none_some hu).1
    replace hu := (cond_none_some hu).2
    simp only [Bool.and_eq_true] at hb0
    have := Nat.eq_of_beq_eq_true hb0.1
    subst this
    have hby := Nat.le_of_ble_eq_true hb0.2
    split at hu <;> try (cases hu; done)
    rename_i e' rows hb
    have hb1 := (cond_none_some hu).1
    replace hu := (cond_none_some hu).2
    have hn := (cond_none_some hu).1
    replace hu := (cond_none_some hu).2
    have hok := (cond_none_some hu).1
    replace hu := (cond_none_some hu).2
    have hlim := (cond_none_some hu).1
    replace hu := (cond_none_some hu).2
    have hn := Nat.eq_of_beq_eq_true hn
    have := Nat.eq_of_beq_eq_true hb1
    subst this
    unfold okMake at hok
    simp only [Bool.and_eq_true, decide_eq_true_eq] at hok
    have hk2 := fits_le hok.2
    have hlim := fits_le hlim
    obtain ⟨zl, h3, h4, h5⟩ := zerosK_some hu
    obtain ⟨row, h6, hk, hrl, hll, hr⟩ := rowK_some h3
    cases h6
    have hT := G.ty _ te he
    obtain ⟨i0, z, hi1, hi2, hi3, hi4, hi5⟩ := hT.info
    obtain ⟨hzs, _⟩ := zero_cell hi5
    rw [hy.get_int]
    obtain ⟨new, hs⟩ := asrc_zeros (F := Fn own R) (w := w) (ty0 := ty0) (k0 := k0) G (desc_slice (G.ty _ _ ht) hde) he (desc_int (G.ty _ _ ht2) hd2) hby hok.1.1 (by omega) (row := row) hi1 hi2 hi3 hi4 (by rw [hzs, hT.len]) hk (by rw [hrl, h4, hT.len]) (fun i hi => by
      refine row_of hll hrl hr (E := E) (w := w) (F := Fn own R) (ρ := ρ) (g := fun i => z.cells.getD i undef) (fun j h1 => ?_) i hi
      have h2 : j < z.cells.size := by omega
      have := zeros_rel (E := E) (w := w) (F := Fn own R) (ρ := ρ) hi5 h4 h5 j h1 h2
      simpa [h2] using this)
    have := mapp_core G h hx (desc_slice (G.ty _ _ ht) hde) he hby hb hn (by simpa using hlim) hs hd
    simpa using this

theorem mapp_sound (G : Good P E) (h : Rel E R ρ own N st a w) {t t2 ty0 e : TypeId} {b n : Nat} {vx vy : Value} {px : Owners} {y : AV} (hx : AVR E w (Fn own R) ρ (.one (.msl e b n)) vx px) (hy : SrcV E w (Fn own R) ρ y vy)
    {u : Upd} (hu : mappK E t t2 e b n st y some = some u) {dst : Option Nat} (hd : ∀ d, dst = some d → d < N) :
    ∃ val w', (Builtin.append_ #[t, t2] ty0 #[vx, vy]).run P w = .ok val w' ∧ After E R ρ own N w (st.apply dst u) (a.put dst val) w' := by
  unfold mappK at hu
  split at hu <;> try (cases hu; done)
  rename_i ty ty2 ht ht2
  have hsrc := (cond_none_some hu).1
  replace hu := (cond_none_some hu).2
  cases hde : ty.desc <;> simp only [hde] at hu <;> try (cases hu; done)
  rename_i e0
  cases he : E.tys e with
  | none => simp [he] at hu
  | some te =>
    simp only [he] at hu
    have hb0 := (cond_none_some hu).1
    replace hu := (cond_none_some hu).2
    rw [Bool.and_eq_true] at hb0
    have := Nat.eq_of_beq_eq_true hb0.1
    subst this
    have hby := Nat.le_of_ble_eq_true hb0.2
    split at hu <;> try (cases hu; done)
    rename_i e' rows o e'' ys hb
    have hb1 := (cond_none_some hu).1
    replace hu := (cond_none_some hu).2
    rw [Bool.and_eq_true] at hb1
    have := Nat.eq_of_beq_eq_true hb1.1
    subst this
    have := Nat.eq_of_beq_eq_true hb1.2
    subst this
    obtain ⟨hn, hu⟩ := cond_none_some hu
    have hn := Nat.eq_of_beq_eq_true hn
    obtain ⟨hlim, hu⟩ := cond_none_some hu
    cases hu
    have hlim : rows.length + ys.length ≤ 4294967296 := Nat.le_of_ble_eq_true hlim
    have hut := desc_slice (G.ty _ _ ht) hde
    obtain ⟨d2, hu2, hd2⟩ : ∃ d2, P.underlying t2 = some d2 ∧ ((∃ e2, d2 = .slice e2) ∨ d2 = .string) := by
      cases hd2 : ty2.desc <;> simp only [hd2, TD.source] at hsrc <;> try (cases hsrc; done)
      · exact ⟨_, desc_str (G.ty _ _ ht2) hd2, .inr rfl⟩
      · exact ⟨_, desc_slice (G.ty _ _ ht2) hd2, .inl ⟨_, rfl⟩⟩
    obtain ⟨new, hs⟩ := hy.src (P := P) G he
    exact mapp_core G h hx hut he hby hb hn hlim (hs.asrc G hut he hu2 hd2) hd

/-- a new block of no elements -/
theorem thaw_sound (h : Rel E R ρ own N st a w) {t : TypeId} {x : AV} {vx : Value} {px : Owners} (hx : AVR E w (Fn own R) ρ x vx px) {u : Upd} (hu : thawK E t st x some = some u) {dst : Option Nat} (hd : ∀ d, dst = some d → d < N) :
    After E R ρ own N w (st.apply dst u) (a.put dst vx) w := by
  unfold thawK at hu
  split at hu <;> try (cases hu; done)
  split at hu <;> try (cases hu; done)
  rotate_left
  · cases hu
    have hq := hx.get_one
    refine h.pure0 hd (.of ?_)
    generalize px [] = q at hq
    cases hq with
    | msl _ _ _ te B cap hB he h0 hn hm hs => exact .msl _ _ _ te B cap hB he h0 hn hm hs
    | mnil _ _ v => exact .mnil _ _ v
  rename_i e _
  split at hu <;> try (cases hu; done)
  cases hu
  have hvx : vx = .slice none 0 0 := by
    have := hx.get_one
    generalize px [] = q at this
    cases this; rfl
  subst hvx
  have hρl : ρ.length = st.blk.length := h.rho
  have hnl := h.blk st.blk.length
  rw [nth_ge (Nat.le_refl _)] at hnl
  refine ⟨ρ ++ [0], _, fun b B' hb => by rw [nth_app_lt _ _ _ (nth_lt hb)]; exact hb, h.gen (own' := ownSet own dst (fun _ => none)) (fun _ _ => False) (fun t => dst = some t) (fun k => k = st.blk.length) (World.keptBut_refl _ _) (fun _ _ h => h.elim) (fun y B t' hy => .inl ⟨y, t', ownSet_sub hy, Nat.le_refl _⟩)
    (fun x y B t t' hx hy => h.inj _ _ _ _ _ (ownSet_sub hx) (ownSet_sub hy)) (by rw [size_put]; exact h.size) (by rw [defers_put]; exact h.defers) ?_ ?_ ?_ ?_ ?_ ?_⟩
  · intro t hc
    have h1 : dst ≠ some t := hc
    refine ⟨by simp only [St.apply, disT, get_put, h1, if_false], ?_, fun p => by simp only [ownSet, h1, if_false]⟩
    rw [getD_put a dst _ t (by rw [h.size]; exact hd)]
    simp only [h1, if_false]
  · intro hK t hc
    have e1 : get (st.apply dst ⟨.one (.msl e (lenN st.blk) 0), none, [], [.arr e []], []⟩).fr t = .one (.msl e (lenN st.blk) 0) := by simp only [St.apply, disT, get_put, hc, if_true]
    rw [e1, getD_put a dst _ t (by rw [h.size]; exact hd)]
    simp only [hc, if_true]
    refine .one _ _ _ ?_ fun p _ => by simp only [ownSet, if_true]
    have e2 : ownSet own (some t) (fun _ => none) (.tmp t []) = none := by simp only [ownSet, if_true]
    rw [e2]
    exact .mnil _ _ _
  · simp only [St.apply, writes, app_eq, List.length_append, List.length_singleton, hρl]
  · intro b B hb
    rw [nth_app_lt _ _ _ (nth_lt hb)]; exact hb
  · intro k hkb
    refine ⟨?_, rfl, fun j => rfl⟩
    simp only [St.apply, writes, app_eq]
    by_cases hk' : k < st.blk.length
    · rw [nth_app_lt _ _ _ hk']
    · rw [nth_ge (l := st.blk) (by omega), nth_ge]
      simp; omega
  · intro hK k hkb
    subst hkb
    simp only [St.apply, writes, app_eq]
    rw [nth_app_len]
    exact .inl ⟨rfl, hnl.1, hnl.2⟩

theorem thawB_sound (G : Good P E) (h : Rel E R ρ own N st a w) {t : TypeId} {len : Nat} {u : Upd} (hu : thawBK E t len st some = some u) {dst : Option Nat} (hd : ∀ d, dst = some d → d < N) :
    ∃ val w', (Instr.buildSlice t len #[]).run P w = .ok val w' ∧ After E R ρ own N w (st.apply dst u) (a.put dst val) w' := by
  unfold thawBK at hu
  split at hu <;> try (cases hu; done)
  rename_i ty ht
  split at hu <;> try (cases hu; done)
  rename_i e hd'
  split at hu <;> try (cases hu; done)
  rename_i te he
  obtain ⟨hlen, hu⟩ := cond_none_some hu
  have hlen := Nat.eq_of_beq_eq_true hlen
  subst hlen
  cases hu
  have hT := G.ty e te he
  refine ⟨.slice (some ⟨w.heap.size, 0, none⟩) 0 0, w.alloc (.cells #[] e), ?_, ?_⟩
  · simp only [Instr.buildSlice, Sem.run_bind, run_underlying (desc_slice (G.ty _ _ ht) hd'), Result.andThen_ok, hT.run_size]
    rw [if_neg (by omega)]
    simp only [Nat.zero_mul, if_true]
    have hf : Instr.fill (fun i => some (i * te.size, te.size)) (Array.map (fun x => (#[] : Array Value)[x % (#[] : Array Value).size]!) (Array.range 0)) [] = some #[] := by simp [Instr.fill]
    simp only [hf, Sem.run_bind, run_newRow, Result.andThen_ok, Sem.run_pure]
  have hρl : ρ.length = st.blk.length := h.rho
  have hnl := h.blk st.blk.length
  rw [nth_ge (Nat.le_refl _)] at hnl
  refine ⟨ρ ++ [0], _, fun b B' hb => by rw [nth_app_lt _ _ _ (nth_lt hb)]; exact hb, h.gen (own' := ownSet own dst (fun _ => none)) (fun _ _ => False) (fun t => dst = some t) (fun k => k = st.blk.length) (World.keptBut_alloc w (.cells #[] e) _) (fun _ _ h => h.elim) (fun y B t' hy => .inl ⟨y, t', ownSet_sub hy, Nat.le_refl _⟩)
    (fun x y B t t' hx hy => h.inj _ _ _ _ _ (ownSet_sub hx) (ownSet_sub hy)) (by rw [size_put]; exact h.size) (by rw [defers_put]; exact h.defers) ?_ ?_ ?_ ?_ ?_ ?_⟩
  · intro t hc
    have h1 : dst ≠ some t := hc
    refine ⟨by simp only [St.apply, disT, get_put, h1, if_false], ?_, fun p => by simp only [ownSet, h1, if_false]⟩
    rw [getD_put a dst _ t (by rw [h.size]; exact hd)]
    simp only [h1, if_false]
  · intro hK t hc
    have e1 : get (st.apply dst ⟨.one (.msl e (lenN st.blk) 0), none, [], [.arr e []], []⟩).fr t = .one (.msl e (lenN st.blk) 0) := by simp only [St.apply, disT, get_put, hc, if_true]
    rw [e1, getD_put a dst _ t (by rw [h.size]; exact hd)]
    simp only [hc, if_true]
    refine .one _ _ _ ?_ fun p _ => by simp only [ownSet, if_true]
    have e2 : ownSet own (some t) (fun _ => none) (.tmp t []) = none := by simp only [ownSet, if_true]
    rw [e2]
    exact .mnil _ _ _
  · simp only [St.apply, writes, app_eq, List.length_append, List.length_singleton, hρl]
  · intro b B hb
    rw [nth_app_lt _ _ _ (nth_lt hb)]; exact hb
  · intro k hkb
    refine ⟨?_, rfl, fun j => rfl⟩
    simp only [St.apply, writes, app_eq]
    by_cases hk' : k < st.blk.length
    · rw [nth_app_lt _ _ _ hk']
    · rw [nth_ge (l := st.blk) (by omega), nth_ge]
      simp; omega
  · intro hK k hkb
    subst hkb
    simp only [St.apply, writes, app_eq]
    rw [nth_app_len]
    exact .inl ⟨rfl, hnl.1, hnl.2⟩

/-- the elements are written no more -/
theorem freeze_core (h : Rel E R ρ own N st a w) {vx : Value} {e : TypeId} {b : Nat} {rows ys : Rows} (hb : nth st.blk b = some (.arr e rows)) {dst : Option Nat} (hd : ∀ d, dst = some d → d < N)
    (hfr : ∀ {F' : Places}, Keeps w (Fn own R) w F' → (∀ B, own (.self b) = some (B, 0) → ∀ o, ¬ F' B o) → FroR E w F' ρ b e rows)
    (hv : ∀ {w' : World} {F' : Places}, Keeps w (Fn own R) w' F' → w' = w → (∀ B, own (.self b) = some (B, 0) → ∀ o, ¬ F' B o) → CR E w' F' (.slice e ys) vx) :
    After E R ρ own N w (st.apply dst ⟨.one (.sl false e ys), none, [(b, .fro e rows)], [], [b]⟩) (a.put dst vx) w := by
  have hbr := h.blk b
  rw [hb] at hbr
  have hbl : b < st.blk.length := nth_lt hb
  have hsub : ∀ {y : OI} {B t : Nat}, ownSwap own dst b st.blk.length none y = some (B, t) → own y = some (B, t) ∧ y ≠ .self b := fun {y B t} hy => by
    rcases ownSwap_sub hy with ⟨_, e⟩ | ⟨e, n1, _⟩
    · cases e
    · exact ⟨e, n1⟩
  have hnl := h.blk st.blk.length
  rw [nth_ge (Nat.le_refl _)] at hnl
  refine ⟨ρ, _, fun _ _ h => h, h.gen (own' := ownSwap own dst b st.blk.length none) (fun _ _ => False) (fun t => dst = some t) (fun k => k = b) (World.keptBut_refl _ _) (fun _ _ h => h.elim) (fun y B t' hy => .inl ⟨y, t', (hsub hy).1, Nat.le_refl _⟩)
    (fun x y B t t' hx hy => h.inj _ _ _ _ _ (hsub hx).1 (hsub hy).1) (by rw [size_put]; exact h.size) (by rw [defers_put]; exact h.defers) ?_ ?_ ?_ (fun _ _ h => h) ?_ ?_⟩
  · intro t hc
    have h1 : dst ≠ some t := hc
    refine ⟨by simp only [St.apply, disT, get_put, h1, if_false], ?_, fun p => by simp only [ownSwap, h1, if_false]⟩
    rw [getD_put a dst vx t (by rw [h.size]; exact hd)]
    simp only [h1, if_false]
  · intro hK t hc
    subst hc
    have e1 : get (st.apply (some t) ⟨.one (.sl false e ys), none, [(b, .fro e rows)], [], [b]⟩).fr t = .one (.sl false e ys) := by simp only [St.apply, disT, get_put, if_true]
    rw [e1, getD_put a _ vx t (by rw [h.size]; exact hd)]
    simp only [if_true]
    have e2 : (fun p => ownSwap own (some t) b st.blk.length none (.tmp t p)) = fun _ => none := funext fun p => by simp only [ownSwap, if_true]
    rw [e2]
    refine .of (.sl _ _ _ (hv hK rfl fun B h2 o => ?_))
    rintro (hR | ⟨y, t', hy, ht'⟩)
    · exact (h.out _ _ _ h2).2 _ hR
    · obtain ⟨e3, e4⟩ := hsub hy
      exact e4 (h.inj _ _ _ _ _ e3 h2)
  · simp only [St.apply, writes, app_eq, List.append_nil, setN_eq, List.length_set]; exact h.rho
  · intro k hkb
    refine ⟨?_, ?_, fun j => ?_⟩
    · simp only [St.apply, writes, app_eq, List.append_nil]
      rw [nth_set _ _ _ _ (by rw [hb]; rfl), if_neg hkb]
    · simp only [ownSwap, hkb, if_false]
      split
      · rename_i e; subst e; exact hnl.1.symm
      · rfl
    · simp only [ownSwap, hkb, if_false]
      split
      · rename_i e; subst e; exact (hnl.2 j).symm
      · rfl
  · intro hK k hkb
    subst hkb
    simp only [St.apply, writes, app_eq, List.append_nil]
    rw [nth_set _ _ _ _ (by rw [hb]; rfl), if_pos rfl]
    have k2 : k ≠ st.blk.length := by omega
    refine ⟨by simp only [ownSwap, k2, if_true, if_false], fun j => by simp only [ownSwap, k2, if_true, if_false], hfr hK fun B h2 o => ?_⟩
    rintro (hR | ⟨y, t', hy, ht'⟩)
    · exact (h.out _ _ _ h2).2 _ hR
    · obtain ⟨e3, e4⟩ := hsub hy
      exact e4 (h.inj _ _ _ _ _ e3 h2)


theorem fro_of (h : Rel E R ρ own N st a w) {e : TypeId} {b : Nat} {rows : Rows} (hb : nth st.blk b = some (.arr e rows)) {F' : Places} (hK : Keeps w (Fn own R) w F') (hF : ∀ B, own (.self b) = some (B, 0) → ∀ o, ¬ F' B o) : FroR E w F' ρ b e rows := by
  have hbr := h.blk b
  rw [hb] at hbr
  rcases hbr with ⟨h1, _⟩ | ⟨B, te, h1, h2, _, h4, h5, _, h6⟩
  · exact .inl h1
  · refine .inr ⟨B, te, fun j => if hj : j < rows.flatten.length then Classical.choose (h6 j hj) else undef, h1, h4, h5, fun i hi => ?_⟩
    simp only [hi, dif_pos]
    have := Classical.choose_spec (h6 i hi)
    exact ⟨⟨this.1, hF B h2 i⟩, this.2.2.keep hK⟩

theorem freeze_sound (G : Good P E) (h : Rel E R ρ own N st a w) {x : AV} {vx : Value} {px : Owners} (hx : AVR E w (Fn own R) ρ x vx px) {u : Upd} (hu : freezeK st x some = some u) {dst : Option Nat} (hd : ∀ d, dst = some d → d < N) :
    After E R ρ own N w (st.apply dst u) (a.put dst vx) w := by
  unfold freezeK at hu
  split at hu <;> try (cases hu; done)
  · cases hu
    exact h.pure0 hd (.of (AR.dis hx.get_one))
  · rename_i e b n
    split at hu <;> try (cases hu; done)
    rotate_left
    · rename_i e' rows hb
      obtain ⟨hb1, hu1⟩ := cond_none_some hu
      have := Nat.eq_of_beq_eq_true hb1
      subst this
      obtain ⟨hn, hu2⟩ := cond_none_some hu1
      have hn := Nat.eq_of_beq_eq_true hn
      cases hu2
      refine h.pure0 hd (.of (.sl _ _ _ ?_))
      have hq := hx.get_one
      generalize px [] = q at hq
      have hbr := h.blk b
      rw [hb] at hbr
      cases hq with
      | mnil =>
        have := List.eq_nil_of_length_eq_zero hn.symm
        subst this
        exact .empty _ _ _
      | msl _ _ _ te' B cap hB he' h0 hnc hcm hsp =>
        rcases hbr.2.2 with h1 | ⟨B', te, g, h1, h2, h3, h4⟩
        · subst h1; simp at hn; omega
        · rw [hB] at h1
          cases h1
          rw [he'] at h2
          cases h2
          rw [hn]
          refine .slice e rows te' B 0 cap g he' h3 (by omega) (fun i hi => ?_) fun i hi => (h4 i hi).2
          rw [Nat.zero_add]
          exact (h4 i hi).1
    rename_i e' rows hb
    obtain ⟨hb1, hu1⟩ := cond_none_some hu
    clear hu
    have := Nat.eq_of_beq_eq_true hb1
    subst this
    obtain ⟨hn, hu2⟩ := cond_none_some hu1
    clear hu1
    have hn := Nat.eq_of_beq_eq_true hn
    cases hu2
    refine freeze_core h hb hd (fro_of h hb) fun hK hw hF => ?_
    subst hw
    have hq := hx.get_one
    generalize px [] = q at hq
    cases hq with
    | mnil =>
      have := List.eq_nil_of_length_eq_zero hn.symm
      subst this
      exact .empty _ _ _
    | msl _ _ _ te' B cap hB he' h0 hnc hcm hsp =>
      obtain ⟨h2, _, hk, _, g, hg⟩ := arr_get h hb he' hB (by omega)
      rw [hn]
      refine .slice e rows te' B 0 cap g he' hk (by omega) (fun i hi => ?_) fun i hi => (hg i hi).2.2.keep hK
      rw [Nat.zero_add]
      exact ⟨(hg i hi).1, hF B h2 _⟩
  · rename_i e b lo n c
    split at hu <;> try (cases hu; done)
    rename_i e' rows hb
    obtain ⟨hb1, hu1⟩ := cond_none_some hu
    clear hu
    have := Nat.eq_of_beq_eq_true hb1
    subst this
    obtain ⟨hn, hu2⟩ := cond_none_some hu1
    clear hu1
    have hn := Nat.le_of_ble_eq_true hn
    cases hu2
    refine freeze_core h hb hd (fro_of h hb) fun hK hw hF => ?_
    subst hw
    have hq := hx.get_one
    generalize px [] = q at hq
    have hq' := hq
    cases hq with
    | win _ _ _ _ _ te B off cap hB he hnc hc ho hs =>
      have hcr := win_rows G h hb he hq' hn
      by_cases h0 : n = 0
      · subst h0
        have : subL rows lo (lo + 0) = [] := List.eq_nil_of_length_eq_zero (sub_len hn)
        rw [this]
        exact .empty _ _ _
      · obtain ⟨h2, _, hk, _, g, hg⟩ := arr_get h hb he hB (by omega)
        have hl := sub_len hn
        have hev := even_of (G.ty _ _ he).len hk
        have hk2 : ∀ r ∈ subL rows lo (lo + n), r.map Cell.kind = te.kinds := fun r hr => by
          simp only [subL, takeN_eq, dropN_eq] at hr
          exact hk r (List.mem_of_mem_take (List.mem_of_mem_drop hr))
        have hfl := flat_len (even_of (G.ty _ _ he).len hk2)
        have hflr := flat_len hev
        rw [hl] at hfl
        have hsub : ∀ i, i < n * te.size → lo * te.size + i < rows.flatten.length := fun i hi => by
          have := Nat.mul_le_mul_right te.size hn
          rw [Nat.add_mul] at this
          omega
        have key : ∀ (i : Nat) (hi : i < (subL rows lo (lo + n)).flatten.length), (subL rows lo (lo + n)).flatten[i] = rows.flatten[lo * te.size + i]'(hsub i (by omega)) := fun i hi => by
          have := sub_flat (n := n) hev (lo := lo) i (by omega)
          rw [List.getElem?_eq_getElem hi, List.getElem?_eq_getElem (hsub i (by omega))] at this
          exact Option.some.inj this
        have hoff := ho (by omega)
        subst hoff
        have hv := fun hr => CR.slice (E := E) (F := _) e (subL rows lo (lo + n)) te B (lo * te.size) cap (fun i => g (lo * te.size + i)) he hk2 (by omega) (fun i hi => ⟨(hg _ (hsub i (by omega))).1, hF B h2 _⟩) hr
        rw [hl] at hv
        refine hv fun i hi => ?_
        rw [key i hi]
        exact (hg _ (hsub i (by omega))).2.2.keep hK

/- ROWS OVER OTHERS -/

theorem over_len {rows ys : Rows} {o : Nat} (ho : o + ys.length ≤ rows.length) : (overL rows o ys).length = rows.length := by
  simp only [overL, app_eq, takeN_eq, dropN_eq, lenN_eq, List.length_append, List.length_take, List.length_drop]
  omega

theorem over_get {rows ys : Rows} {s o : Nat} (hr : Even s rows) (hy : Even s ys) (ho : o + ys.length ≤ rows.length) (k : Nat) :
    (overL rows o ys).flatten[k]? = if o * s ≤ k ∧ k < (o + ys.length) * s then ys.flatten[k - o * s]? else rows.flatten[k]? := by
  have hfr := flat_len hr
  have hfy := flat_len hy
  have e1 := Nat.mul_le_mul_right s ho
  have e2 := Nat.mul_le_mul_right s (show o ≤ rows.length by omega)
  have e3 : (o + ys.length) * s = o * s + ys.length * s := Nat.add_mul ..
  simp only [overL, app_eq, takeN_eq, dropN_eq, lenN_eq, List.flatten_append]
  rw [flat_take o hr, flat_drop (o + ys.length) hr]
  have hl : (rows.flatten.take (o * s)).length = o * s := by rw [List.length_take]; omega
  by_cases h1 : k < o * s
  · rw [List.getElem?_append_left (by omega), if_neg (by omega), List.getElem?_take_of_lt h1]
  · rw [List.getElem?_append_right (by omega), hl]
    by_cases h2 : k < (o + ys.length) * s
    · rw [if_pos ⟨by omega, h2⟩, List.getElem?_append_left (by omega)]
    · rw [if_neg (by omega), List.getElem?_append_right (by omega), List.getElem?_drop, hfy]
      congr 1
      omega

theorem over_kinds {rows ys : Rows} {o : Nat} {ks : List CK} (h1 : ∀ r ∈ rows, r.map Cell.kind = ks) (h2 : ∀ r ∈ ys, r.map Cell.kind = ks) : ∀ r ∈ overL rows o ys, r.map Cell.kind = ks := by
  intro r hr
  simp only [overL, app_eq, takeN_eq, dropN_eq, List.mem_append] at hr
  rcases hr with h | h | h
  · exact h1 r (List.mem_of_mem_take h)
  · exact h2 r h
  · exact h1 r (List.mem_of_mem_drop h)

/-- other elements for a block's, where only that block was written, and a value that owns nothing -/
theorem Rel.arrSetV (h : Rel E R ρ own N st a w) {dst : Option Nat} {v : AV} {val : Value} {w' : World} {b B : Nat} {e : TypeId} {rows rows' : Rows} {rd : List Nat} (hb : nth st.blk b = some (.arr e rows)) (hself : own (.self b) = some (B, 0))
    (hd : ∀ d, dst = some d → d < N) (hk : w.keptBut w' (inT fun B' _ => B' = B))
    (hV : Keeps w (Fn own R) w' (Fn (ownSet own dst (fun _ => none)) R) → AVR E w' (Fn (ownSet own dst (fun _ => none)) R) ρ v val (fun _ => none))
    (hnew : Keeps w (Fn own R) w' (Fn (ownSet own dst (fun _ => none)) R) → BlkR E w' (Fn (ownSet own dst (fun _ => none)) R) ρ (ownSet own dst (fun _ => none)) b (some (.arr e rows'))) :
    After E R ρ own N w (st.apply dst ⟨v, none, [(b, .arr e rows')], [], rd⟩) (a.put dst val) w' := by
  refine ⟨ρ, _, fun _ _ h => h, h.gen (own' := ownSet own dst (fun _ => none)) (fun B' _ => B' = B) (fun t => dst = some t) (fun k => k = b) hk ?_ ?_ ?_ (by rw [size_put]; exact h.size) (by rw [defers_put]; exact h.defers) ?_ ?_ ?_ (fun _ _ h => h) ?_ ?_⟩
  · rintro B' off rfl
    exact ⟨.self b, 0, hself, Nat.zero_le _, rfl⟩
  · intro y B' t' hy
    exact .inl ⟨y, t', ownSet_sub hy, Nat.le_refl _⟩
  · intro x y B' t t' hx hy
    exact h.inj _ _ _ _ _ (ownSet_sub hx) (ownSet_sub hy)
  · intro t hc
    have h1 : dst ≠ some t := hc
    refine ⟨by simp only [St.apply, disT, get_put, h1, if_false], ?_, fun p => by simp only [ownSet, h1, if_false]⟩
    rw [getD_put a dst val t (by rw [h.size]; exact hd)]
    simp only [h1, if_false]
  · intro hK t hc
    have e1 : get (st.apply dst ⟨v, none, [(b, .arr e rows')], [], rd⟩).fr t = v := by simp only [St.apply, disT, get_put, hc, if_true]
    rw [e1, getD_put a dst val t (by rw [h.size]; exact hd)]
    simp only [hc, if_true]
    have e2 : (fun p => ownSet own dst (fun _ => none) (.tmp t p)) = fun _ => none := funext fun p => by simp only [ownSet, hc, if_true]
    rw [hc] at e2 hV hK
    rw [e2]
    exact hV hK
  · simp only [St.apply, writes, app_eq, List.append_nil, setN_eq, List.length_set]; exact h.rho
  · intro k hkb
    refine ⟨?_, rfl, fun j => rfl⟩
    simp only [St.apply, writes, app_eq, List.append_nil]
    rw [nth_set _ _ _ _ (by rw [hb]; rfl)]
    simp [hkb]
  · intro hK k hkb
    subst hkb
    simp only [St.apply, writes, app_eq, List.append_nil]
    rw [nth_set _ _ _ _ (by rw [hb]; rfl)]
    simp only [if_true]
    exact hnew hK

/-- rows written over a part of a block's -/
theorem over_core (G : Good P E) (h : Rel E R ρ own N st a w) {b B o off : Nat} {e : TypeId} {rows ys : Rows} {te : Ty} (hb : nth st.blk b = some (.arr e rows)) (he : E.tys e = some te) (hB : nth ρ b = some B) (h0 : 0 < rows.length)
    (ho : o + ys.length ≤ rows.length) (hoff : 0 < ys.length → off = o * te.size) {new : List Value} (hskinds : ∀ r ∈ ys, r.map Cell.kind = te.kinds) (hssize : new.length = ys.flatten.length)
    (hsrel : ∀ (k : Nat) (h1 : k < ys.flatten.length) (h2 : k < new.length), CR E w (Fn own R) ys.flatten[k] new[k])
    {dst : Option Nat} (hd : ∀ d, dst = some d → d < N) {v : AV} {val : Value} {rd : List Nat} (hV : ∀ {w' : World} {F' : Places}, Keeps w (Fn own R) w' F' → AVR E w' F' ρ v val (fun _ => none)) :
    (storeCells ⟨B, off, none⟩ new).run P w = .ok () (setRow w B off new) ∧ After E R ρ own N w (st.apply dst ⟨v, none, [(b, .arr e (overL rows o ys))], [], rd⟩) (a.put dst val) (setRow w B off new) := by
  obtain ⟨hself, hcell, hk, ⟨hc0, hcold⟩, g, hg⟩ := arr_get h hb he hB h0
  have hT := G.ty e te he
  have hev := even_of hT.len hk
  have hevy := even_of hT.len hskinds
  have hflr := flat_len hev
  have hfly := flat_len hevy
  have hpos := hT.pos
  have hmul : (o + ys.length) * te.size = o * te.size + ys.length * te.size := Nat.add_mul ..
  have hle : (o + ys.length) * te.size ≤ rows.length * te.size := Nat.mul_le_mul_right _ ho
  have hnl : new.length = ys.length * te.size := by rw [hssize, hfly]
  have hin : ∀ j, j < new.length → off + j < rows.flatten.length := by
    intro j hj
    have h1 : 0 < ys.length := by
      rcases Nat.eq_zero_or_pos ys.length with h1 | h1
      · rw [h1, Nat.zero_mul] at hnl; omega
      · exact h1
    rw [hoff h1]
    omega
  have hone : ∀ v ∈ new, v.oneCell' = true := by
    intro v hv
    obtain ⟨k, hk, rfl⟩ := List.getElem_of_mem hv
    exact (hsrel k (by rw [← hssize]; exact hk) hk).oneCell
  have hkept : w.keptBut (setRow w B off new) (inT fun B' _ => B' = B) := setRow_kept _ _ _ _ _ fun i _ => rfl
  refine ⟨?_, h.arrSetV hb hself hd hkept (fun hK => hV hK) fun hK => .inr ⟨B, te, hB, ?_, fun j => ?_, he, over_kinds hk hskinds, ⟨?_, by rw [setRow_cold]; exact hcold⟩, fun i hi => ?_⟩⟩
  · exact run_storeCells (P := P) new w B off 0 hone fun j hj => ⟨⟨_, (hg _ (hin j hj)).1⟩, (hg _ (hin j hj)).2.1⟩
  · simp only [ownSet]; exact hself
  · simp only [ownSet]; exact hcell j
  · exact (hK.still B 0 ⟨hc0, hcold⟩).1
  · have hget := over_get hev hevy ho i
    rw [List.getElem?_eq_getElem hi] at hget
    by_cases hc : o * te.size ≤ i ∧ i < (o + ys.length) * te.size
    · rw [if_pos hc] at hget
      have hi2 : i - o * te.size < ys.flatten.length := by omega
      rw [List.getElem?_eq_getElem hi2] at hget
      rw [Option.some.inj hget]
      have hy0 : 0 < ys.length := by
        rcases Nat.eq_zero_or_pos ys.length with h1 | h1
        · rw [h1] at hc; simp only [Nat.add_zero] at hc; omega
        · exact h1
      have hi3 : i - o * te.size < new.length := by rw [hssize]; exact hi2
      refine ⟨new[i - o * te.size], ?_, by rw [setRow_cold]; exact (hg i (by have h9 := hin _ hi3; rw [hoff hy0] at h9; omega)).2.1, (hsrel _ hi2 hi3).keep hK⟩
      have h1 := setRow_same new w B off (i - o * te.size) hi3 ⟨_, (hg _ (hin _ hi3)).1⟩
      rw [hoff hy0, show o * te.size + (i - o * te.size) = i by omega] at h1
      rw [hoff hy0]
      exact h1
    · rw [if_neg hc] at hget
      have hi2 : i < rows.flatten.length := by
        rcases Nat.lt_or_ge i rows.flatten.length with h1 | h1
        · exact h1
        · rw [List.getElem?_eq_none h1] at hget; cases hget
      rw [List.getElem?_eq_getElem hi2] at hget
      rw [Option.some.inj hget]
      obtain ⟨g1, g2, g3⟩ := hg i hi2
      refine ⟨g i, ?_, by rw [setRow_cold]; exact g2, g3.keep hK⟩
      rcases Nat.eq_zero_or_pos ys.length with h1 | h1
      · have : new = [] := List.eq_nil_of_length_eq_zero (by rw [hnl, h1, Nat.zero_mul])
        rw [this]
        exact g1
      · rw [setRow_other _ _ _ _ _ _ (by rw [hoff h1, hnl]; omega)]
        exact g1

theorem over_step (G : Good P E) (h : Rel E R ρ own N st a w) {b B o off : Nat} {e : TypeId} {rows ys : Rows} {te : Ty} (hb : nth st.blk b = some (.arr e rows)) (he : E.tys e = some te) (hB : nth ρ b = some B) (h0 : 0 < rows.length)
    (ho : o + ys.length ≤ rows.length) (hoff : 0 < ys.length → off = o * te.size) {vy : Value} {new : List Value} (hs : Src P E w (Fn own R) te.size te.kinds vy ys new)
    {dst : Option Nat} (hd : ∀ d, dst = some d → d < N) {v : AV} {val : Value} {rd : List Nat} (hV : ∀ {w' : World} {F' : Places}, Keeps w (Fn own R) w' F' → AVR E w' F' ρ v val (fun _ => none)) :
    (storeCells ⟨B, off, none⟩ new).run P w = .ok () (setRow w B off new) ∧ After E R ρ own N w (st.apply dst ⟨v, none, [(b, .arr e (overL rows o ys))], [], rd⟩) (a.put dst val) (setRow w B off new) :=
  over_core G h hb he hB h0 ho hoff hs.kinds hs.size hs.rel hd hV

theorem wapp_sound (G : Good P E) (h : Rel E R ρ own N st a w) {t t2 ty0 e : TypeId} {b lo n c : Nat} {vx vy : Value} {px : Owners} {y : AV} (hx : AVR E w (Fn own R) ρ (.one (.win e b lo n (some c))) vx px) (hy : SrcV E w (Fn own R) ρ y vy)
    {u : Upd} (hu : wappK E t t2 e b lo n c st y some = some u) {dst : Option Nat} (hd : ∀ d, dst = some d → d < N) :
    ∃ val w', (Builtin.append_ #[t, t2] ty0 #[vx, vy]).run P w = .ok val w' ∧ After E R ρ own N w (st.apply dst u) (a.put dst val) w' := by
  unfold wappK at hu
  split at hu <;> try (cases hu; done)
  rename_i ty ty2 ht ht2
  have hsrc := (cond_none_some hu).1
  replace hu := (cond_none_some hu).2
  cases hde : ty.desc <;> simp only [hde] at hu <;> try (cases hu; done)
  rename_i e0
  have := Nat.eq_of_beq_eq_true (cond_none_some hu).1
  subst this
  replace hu := (cond_none_some hu).2
  split at hu <;> try (cases hu; done)
  rename_i e' rows o e'' ys hb
  have hb1 := (cond_none_some hu).1
  replace hu := (cond_none_some hu).2
  rw [Bool.and_eq_true] at hb1
  have := Nat.eq_of_beq_eq_true hb1.1
  subst this
  have := Nat.eq_of_beq_eq_true hb1.2
  subst this
  obtain ⟨hr0, hu⟩ := cond_none_some hu
  have hr0 : 0 < rows.length := Nat.le_of_ble_eq_true hr0
  obtain ⟨hc1, hu⟩ := cond_none_some hu
  obtain ⟨hc2, hu⟩ := cond_none_some hu
  cases hu
  have hc1 := Nat.le_of_ble_eq_true hc1
  have hc2 := Nat.le_of_ble_eq_true hc2
  have hut := desc_slice (G.ty _ _ ht) hde
  obtain ⟨d2, hu2, hd2⟩ : ∃ d2, P.underlying t2 = some d2 ∧ ((∃ e2, d2 = .slice e2) ∨ d2 = .string) := by
    cases hd2 : ty2.desc <;> simp only [hd2, TD.source] at hsrc <;> try (cases hsrc; done)
    · exact ⟨_, desc_str (G.ty _ _ ht2) hd2, .inr rfl⟩
    · exact ⟨_, desc_slice (G.ty _ _ ht2) hd2, .inl ⟨_, rfl⟩⟩
  have hx1 := hx.get_one
  generalize px [] = q at hx1
  cases hx1 with
  | win _ _ _ _ _ te B off cap hB he hn hcap hoff hsp =>
    have hcc := hcap c rfl
    obtain ⟨new, hs⟩ := hy.src (P := P) G he
    have hT := G.ty e te he
    obtain ⟨i, z, hi1, hi2, hi3, hi4, hi5⟩ := hT.info
    have hfly := flat_len (even_of hT.len hs.kinds)
    have hmul : (n + ys.length) * te.size = n * te.size + ys.length * te.size := Nat.add_mul ..
    have hpos : 0 < ys.length → off + n * te.size = (lo + n) * te.size := fun h1 => by rw [hoff (by omega), Nat.add_mul]
    obtain ⟨g1, g2⟩ := over_step G h (o := lo + n) (off := off + n * te.size) hb he hB hr0 (by omega) hpos hs (dst := dst) hd (rd := [b]) (v := .one (.win e b lo (n + ys.length) (some c))) (val := .slice (some ⟨B, off, none⟩) (n + ys.length) cap)
      (fun hK => .of (.win _ _ _ _ _ te B off cap hB he (by omega) hcap hoff fun j h1 h2 => hK.still _ _ (hsp j h1 h2)))
    refine ⟨_, _, run_app_room (i := i) (new := new) hut hi1 hu2 hd2 (by omega) (hs.len w) (by rw [hi2]; exact hs.run w fun _ _ => rfl) ?_, g2⟩
    simp only [hi2, add_none]
    exact g1

theorem blt_pos {n : Nat} (h : Nat.blt 0 n = true) : 0 < n := Nat.le_of_ble_eq_true h

theorem minN_eq (a b : Nat) : minN a b = min a b := by
  unfold minN
  cases h : Nat.ble a b with
  | true => rw [cond_true, Nat.min_eq_left (Nat.le_of_ble_eq_true h)]
  | false =>
    rw [cond_false, Nat.min_eq_right]
    by_cases hh : a ≤ b
    · rw [Nat.ble_eq_true_of_le hh] at h; cases h
    · omega

theorem Src.take {s : Nat} {ks : List CK} {vy : Value} {ys : Rows} {new : List Value} (hl : ks.length = s) (hs : Src P E w F s ks vy ys new) (m : Nat) (hm : m ≤ ys.length)
    (hrun : ∀ w', (∀ B off, cell w' B off = cell w B off) → (Builtin.firstCells s m vy).run P w' = .ok (new.take (m * s)).toArray w') :
    (∀ r ∈ ys.take m, r.map Cell.kind = ks) ∧ (new.take (m * s)).length = (ys.take m).flatten.length ∧
      ∀ (k : Nat) (h1 : k < (ys.take m).flatten.length) (h2 : k < (new.take (m * s)).length), CR E w F (ys.take m).flatten[k] (new.take (m * s))[k] := by
  have hev : Even s ys := fun r hr => by
    have := congrArg List.length (hs.kinds r hr)
    rw [List.length_map, hl] at this
    exact this
  have hfl := flat_len hev
  have hft := flat_take m hev
  have hle : m * s ≤ ys.length * s := Nat.mul_le_mul_right _ hm
  refine ⟨fun r hr => hs.kinds r (List.mem_of_mem_take hr), by rw [hft, List.length_take, List.length_take, hs.size], fun k h1 h2 => ?_⟩
  have e1 : (ys.take m).flatten[k] = ys.flatten[k]'(by rw [hft, List.length_take] at h1; omega) := by
    have : (ys.take m).flatten[k]? = ys.flatten[k]? := by
      rw [hft, List.getElem?_take_of_lt (by rw [hft, List.length_take] at h1; omega)]
    rw [List.getElem?_eq_getElem h1, List.getElem?_eq_getElem (by rw [hft, List.length_take] at h1; omega)] at this
    exact Option.some.inj this
  rw [e1, List.getElem_take]
  exact hs.rel k _ _

/-- the first cells of what a source holds -/
theorem first_of (G : Good P E) {o : Bool} {e : TypeId} {ys : Rows} {vy : Value} {te : Ty} (h : SrcV E w F ρ (.one (.sl o e ys)) vy) (he : E.tys e = some te) (m : Nat) (hm : m ≤ ys.length) :
    ∃ new : List Value, (∀ r ∈ ys.take m, r.map Cell.kind = te.kinds) ∧ new.length = (ys.take m).flatten.length ∧ (Builtin.firstCells te.size m vy).run P w = .ok new.toArray w ∧ (Builtin.lenOf vy).run P w = .ok ys.length w ∧
      ∀ (k : Nat) (h1 : k < (ys.take m).flatten.length) (h2 : k < new.length), CR E w F (ys.take m).flatten[k] new[k] := by
  obtain ⟨new, hs⟩ := h.src (P := P) G he
  have hT := G.ty e te he
  have hrun : ∀ w', (∀ B off, cell w' B off = cell w B off) → (Builtin.firstCells te.size m vy).run P w' = .ok (new.take (m * te.size)).toArray w' := by
    obtain ⟨F0, p, hv⟩ := h.any
    have hc := hv.get_one.inv_sl
    intro w' hw
    have hfl := flat_len (even_of hT.len hs.kinds)
    have hle : m * te.size ≤ ys.length * te.size := Nat.mul_le_mul_right _ hm
    have hfull := hs.run w' hw
    cases hc with
    | empty _ b cap =>
      have : m = 0 := by simpa using hm
      subst this
      cases b <;> simp [Builtin.firstCells, loadCells, loadCellsFrom]
    | slice _ _ te' B off cap g he' hk hc hm' hr =>
      rw [he] at he'
      cases he'
      have hg : ∀ j, j < m * te.size → cell w' B (off + j) = some (g j) := fun j hj => (hw B (off + j)).trans (hm' j (by omega)).1
      have h1 : (Builtin.firstCells te.size ys.length (.slice (some ⟨B, off, none⟩) ys.length cap)).run P w' = .ok ((List.range (ys.length * te.size)).map g).toArray w' := by
        simp only [Builtin.firstCells]
        exact run_loadCells w' ⟨B, off, none⟩ _ g fun j hj => by rw [add_none]; exact (hw B (off + j)).trans (hm' j (by omega)).1
      have h2 : new = (List.range (ys.length * te.size)).map g := by
        rw [h1] at hfull
        injection hfull with e1 e2
        exact (congrArg Array.toList e1).symm
      rw [h2]
      simp only [Builtin.firstCells]
      have h3 := run_loadCells (P := P) w' ⟨B, off, none⟩ (m * te.size) g fun j hj => by rw [add_none]; exact hg j hj
      rw [h3]
      congr 2
      apply List.ext_getElem?
      intro k
      simp only [List.getElem?_map, List.getElem?_take, List.getElem?_range']
      by_cases hk : k < m * te.size
      · rw [if_pos hk, List.getElem?_range (by omega), List.getElem?_range (by omega)]
      · rw [if_neg hk, List.getElem?_eq_none (by simp; omega)]
        rfl
  obtain ⟨a1, a2, a3⟩ := hs.take hT.len m hm hrun
  exact ⟨_, a1, a2, hrun w fun _ _ => rfl, hs.len w, a3⟩

theorem copyB_sound (G : Good P E) (h : Rel E R ρ own N st a w) {t t2 ty0 e0 e : TypeId} {b lo n : Nat} {vx vy : Value} {q : Owner} {c : Option Nat} {y : AV} (hut : P.underlying t = some (.slice e0)) (hx : AR E w (Fn own R) ρ (.win e b lo n c) vx q) (hy : SrcV E w (Fn own R) ρ y vy)
    {u : Upd} (hu : copyBK e0 e b lo n st y some = some u) {dst : Option Nat} (hd : ∀ d, dst = some d → d < N) :
    ∃ val w', (Builtin.copy_ #[t, t2] ty0 #[vx, vy]).run P w = .ok val w' ∧ After E R ρ own N w (st.apply dst u) (a.put dst val) w' := by
  unfold copyBK at hu
  split at hu <;> try (cases hu; done)
  rename_i e' rows o e'' ys hb
  have hb1 := (cond_none_some hu).1
  replace hu := (cond_none_some hu).2
  simp only [Bool.and_eq_true] at hb1
  have := Nat.eq_of_beq_eq_true hb1.1
  subst this
  have := Nat.eq_of_beq_eq_true hb1.2.1
  subst this
  have := Nat.eq_of_beq_eq_true hb1.2.2
  subst this
  obtain ⟨hc1, hu⟩ := cond_none_some hu
  obtain ⟨hc2, hu⟩ := cond_none_some hu
  cases hu
  have hr0 := blt_pos hc1
  have hln := Nat.le_of_ble_eq_true hc2
  cases hx with
  | win _ _ _ _ _ te B off cap hB he hn hcap hoff hsp =>
    have hT := G.ty e te he
    have hsz := hT.run_size (w := w)
    rw [minN_eq]
    obtain ⟨new, a1, a2, a3, a4, a5⟩ := first_of (P := P) G hy he (min n ys.length) (Nat.min_le_right _ _)
    rw [takeN_eq]
    have htl : (ys.take (min n ys.length)).length = min n ys.length := by rw [List.length_take]; omega
    -- the rows that are copied, as a source of their own
    have hself := arr_get h hb he hB hr0
    have hstep : (storeCells ⟨B, off, none⟩ new).run P w = .ok () (setRow w B off new) ∧ After E R ρ own N w (st.apply dst ⟨.one (.int .i64 ((min n ys.length : Nat) : Int)), none, [(b, .arr e (overL rows lo (ys.take (min n ys.length))))], [], [b]⟩) (a.put dst (.int .i64 ((min n ys.length : Nat) : Int))) (setRow w B off new) :=
      over_core G h (o := lo) (off := off) hb he hB hr0 (by omega) (fun h1 => hoff (by omega)) a1 a2 a5 hd (fun _ => AVR.int)
    refine ⟨_, _, ?_, hstep.2⟩
    have hmin : Nat.min ys.length n = min n ys.length := Nat.min_comm _ _
    simp [Builtin.copy_, run_underlying hut, a4, hsz, hmin, a3, hstep.1, goInt]

theorem copy_sound (G : Good P E) (h : Rel E R ρ own N st a w) {t t2 ty0 : TypeId} {x y : AV} {vx vy : Value} {px : Owners} (hx : AVR E w (Fn own R) ρ x vx px) (hy : SrcV E w (Fn own R) ρ y vy)
    {u : Upd} (hu : copyK E t x st y some = some u) {dst : Option Nat} (hd : ∀ d, dst = some d → d < N) :
    ∃ val w', (Builtin.copy_ #[t, t2] ty0 #[vx, vy]).run P w = .ok val w' ∧ After E R ρ own N w (st.apply dst u) (a.put dst val) w' := by
  unfold copyK at hu
  split at hu <;> try (cases hu; done)
  rename_i ty ht
  cases hde : ty.desc <;> simp only [hde] at hu <;> try (cases hu; done)
  rename_i e0
  have hut := desc_slice (G.ty _ _ ht) hde
  split at hu <;> try (cases hu; done)
  · rename_i e b n
    obtain ⟨hn, hu⟩ := cond_none_some hu
    have hn := blt_pos hn
    have hx1 := hx.get_one
    generalize px [] = q at hx1
    cases hx1 with
    | mnil => omega
    | msl _ _ _ te B cap hB he h0 hnc hcm hsp =>
      exact copyB_sound G h hut (.win e b 0 n none te B 0 cap hB he hnc (fun k h => by cases h) (fun _ => (Nat.zero_mul _).symm) fun j _ h2 => hsp j (by simpa using h2)) hy hu hd
  · exact copyB_sound G h hut hx.get_one hy hu hd

/-- a part of what may be written -/
theorem sliceM_sound (G : Good P E) {t : TypeId} {x : AV} {vx : Value} {px : Owners} (hx : AVR E w F ρ x vx px) {lo hi mx : Option AV} {vlo vhi vmx : Option Value} (hlo : OptR E w F ρ lo vlo) (hhi : OptR E w F ρ hi vhi) (hmx : OptR E w F ρ mx vmx)
    {ty : Ty} (ht : E.tys t = some ty) {v : AV} {e : TypeId} {b lo0 n : Nat} {c : Option Nat} (hv : sliceWK e b lo0 n c lo hi mx some = some v)
    (hcase : (ty.desc = .slice e ∧ ((x = .one (.msl e b n) ∧ lo0 = 0 ∧ c = none ∧ 0 < n) ∨ x = .one (.win e b lo0 n c))) ∨ (ty.desc = .array n e ∧ x = .one (.parr e b n) ∧ lo0 = 0 ∧ c = some n)) :
    ∃ val, (Instr.sliceAt t vx vlo vhi vmx).run P w = .ok val w ∧ AVR E w F ρ v val (fun _ => none) := by
  have main : ∀ {te : Ty} {B off cap : Nat}, ty.desc = .slice e → vx = .slice (some ⟨B, off, none⟩) n cap → nth ρ b = some B → E.tys e = some te → n ≤ cap → (∀ k, c = some k → cap = k) → (0 < cap → off = lo0 * te.size) →
      (∀ j, lo0 * te.size ≤ j → j < (lo0 + cap) * te.size → (∃ v, cell w B j = some v) ∧ cold w B j = false) → ∃ val, (Instr.sliceAt t vx vlo vhi vmx).run P w = .ok val w ∧ AVR E w F ρ v val (fun _ => none) := by
    intro te B off cap hde hvx hB he hn hc ho hs
    obtain ⟨l, k, m, c', rfl, hb, h1, h2, h3, h4, h5⟩ := sliceWK_some (P := P) (isS := true) hlo hhi hmx hn hv
    have hut := desc_slice (G.ty _ _ ht) hde
    subst hvx
    refine ⟨_, ?_, .of (win_sub hB he hc ho hs h1 h2 h3 h4 h5)⟩
    simp only [Instr.sliceAt, Sem.run_bind, run_underlying hut, Result.andThen_ok]
    exact run_slice_of hut ((G.ty _ _ he).run_size (w := w)) hb
  rcases hcase with ⟨hde, ⟨rfl, rfl, rfl, h0⟩ | rfl⟩ | ⟨hde, rfl, rfl, rfl⟩
  · have hx1 := hx.get_one
    generalize px [] = q at hx1
    cases hx1 with
    | mnil => omega
    | msl _ _ _ te B cap hB he h0 hnc hcm hsp => exact main hde rfl hB he hnc (fun k h => by cases h) (fun _ => (Nat.zero_mul _).symm) fun j _ h2 => hsp j (by simpa using h2)
  · have hx1 := hx.get_one
    generalize px [] = q at hx1
    cases hx1 with
    | win _ _ _ _ _ te B off cap hB he hn hc ho hs => exact main hde rfl hB he hn hc ho hs
  · have hx1 := hx.get_one
    generalize px [] = q at hx1
    cases hx1 with
    | parr _ _ _ te B hB he hs =>
      obtain ⟨l, k, m, c', rfl, hb, h1, h2, h3, h4, h5⟩ := sliceWK_some (P := P) (isS := false) hlo hhi hmx (Nat.le_refl n) hv
      have hut := desc_array (G.ty _ _ ht) hde
      have hsz := (G.ty _ _ he).run_size (w := w)
      have := win_sub (E := E) (w := w) (F := F) (off := 0) (c := some n) (c' := c') hB he (fun k h => by cases h; rfl) (fun _ => (Nat.zero_mul _).symm) (fun j _ h2 => hs j (by simpa using h2)) h1 h2 h3 h4 h5
      refine ⟨_, ?_, .of this⟩
      simp only [Instr.sliceAt, Sem.run_bind, run_underlying hut, Result.andThen_ok, Instr.sureAddr, hb, hsz, Sem.run_pure]
      by_cases hm : m = l <;> simp [hm]

/-- a new block of elements, and a value that owns nothing -/
theorem Rel.makeArr (h : Rel E R ρ own N st a w) {dst : Option Nat} {v : AV} {val : Value} {w' : World} {B' : Nat} {e : TypeId} {rows' : Rows} {rd : List Nat}
    (hd : ∀ d, dst = some d → d < N) (hk : w.keptBut w' (inT fun _ _ => False)) (hB1 : w.heap.size ≤ B') (hB2 : B' < w'.heap.size)
    (hV : Keeps w (Fn own R) w' (Fn (ownSwap own dst st.blk.length st.blk.length (some (B', 0))) R) → AVR E w' (Fn (ownSwap own dst st.blk.length st.blk.length (some (B', 0))) R) (ρ ++ [B']) v val (fun _ => none))
    (hnew : Keeps w (Fn own R) w' (Fn (ownSwap own dst st.blk.length st.blk.length (some (B', 0))) R) → BlkR E w' (Fn (ownSwap own dst st.blk.length st.blk.length (some (B', 0))) R) (ρ ++ [B']) (ownSwap own dst st.blk.length st.blk.length (some (B', 0))) st.blk.length (some (.arr e rows'))) :
    After E R ρ own N w (st.apply dst ⟨v, none, [], [.arr e rows'], rd⟩) (a.put dst val) w' := by
  have hρl : ρ.length = st.blk.length := h.rho
  have hlt : ∀ y B t', own y = some (B, t') → B < w.heap.size := fun y B t' e => (h.out _ _ _ e).1
  refine ⟨ρ ++ [B'], _, fun b B' hb => by rw [nth_app_lt _ _ _ (nth_lt hb)]; exact hb, h.gen (own' := ownSwap own dst st.blk.length st.blk.length (some (B', 0))) (fun _ _ => False) (fun t => dst = some t) (fun k => k = st.blk.length) hk (fun _ _ h => h.elim) ?_ ?_ (by rw [size_put]; exact h.size) (by rw [defers_put]; exact h.defers) ?_ ?_ ?_ ?_ ?_ ?_⟩
  · intro y B t' hy
    rcases ownSwap_sub hy with ⟨rfl, e⟩ | ⟨e, _⟩
    · cases e; exact .inr ⟨hB1, hB2⟩
    · exact .inl ⟨y, t', e, Nat.le_refl _⟩
  · intro x y B t t' hx hy
    rcases ownSwap_sub hx with ⟨rfl, e⟩ | ⟨e, n1, n2⟩ <;> rcases ownSwap_sub hy with ⟨rfl, e'⟩ | ⟨e', n1', n2'⟩
    · rfl
    · cases e; have := hlt _ _ _ e'; omega
    · cases e'; have := hlt _ _ _ e; omega
    · exact h.inj _ _ _ _ _ e e'
  · intro t hc
    have h1 : dst ≠ some t := hc
    refine ⟨by simp only [St.apply, disT, get_put, h1, if_false], ?_, fun p => by simp only [ownSwap, h1, if_false]⟩
    rw [getD_put a dst val t (by rw [h.size]; exact hd)]
    simp only [h1, if_false]
  · intro hK t hc
    have e1 : get (st.apply dst ⟨v, none, [], [.arr e rows'], rd⟩).fr t = v := by simp only [St.apply, disT, get_put, hc, if_true]
    rw [e1, getD_put a dst val t (by rw [h.size]; exact hd)]
    simp only [hc, if_true]
    have e2 : (fun p => ownSwap own dst st.blk.length st.blk.length (some (B', 0)) (.tmp t p)) = fun _ => none := funext fun p => by simp only [ownSwap, hc, if_true]
    rw [hc] at e2 hV hK
    rw [e2]
    exact hV hK
  · simp only [St.apply, writes, app_eq, List.length_append, List.length_singleton, hρl]
  · intro b B hb
    rw [nth_app_lt _ _ _ (nth_lt hb)]; exact hb
  · intro k hkb
    refine ⟨?_, by simp only [ownSwap, hkb, if_false], fun j => by simp only [ownSwap, hkb, if_false]⟩
    simp only [St.apply, writes, app_eq]
    by_cases hk' : k < st.blk.length
    · rw [nth_app_lt _ _ _ hk']
    · rw [nth_ge (l := st.blk) (by omega), nth_ge]
      simp; omega
  · intro hK k hkb
    subst hkb
    simp only [St.apply, writes, app_eq]
    rw [nth_app_len]
    exact hnew hK

theorem thawM_sound (G : Good P E) (h : Rel E R ρ own N st a w) {t : TypeId} {x y : AV} {vx vy : Value} {px py : Owners} (hx : AVR E w (Fn own R) ρ x vx px) (hy : AVR E w (Fn own R) ρ y vy py) {u : Upd} (hu : thawMK E t st x y some = some u) {dst : Option Nat} (hd : ∀ d, dst = some d → d < N) :
    ∃ val w', (Instr.makeSlice t vx vy).run P w = .ok val w' ∧ After E R ρ own N w (st.apply dst u) (a.put dst val) w' := by
  unfold thawMK at hu
  cases ht : E.tys t with
  | none => simp [ht] at hu
  | some ty =>
    simp only [ht] at hu
    cases hd' : ty.desc <;> simp only [hd'] at hu <;> try (cases hu; done)
    rename_i e
    split at hu <;> try (cases hu; done)
    rename_i te n m he hn hm
    obtain ⟨hbt, h1⟩ := cond_none_some hu
    obtain ⟨hb, h20⟩ := cond_none_some h1
    obtain ⟨hnp, h2⟩ := cond_none_some h20
    have hnp := blt_pos hnp
    have hbt := Nat.le_of_ble_eq_true hbt
    have hT := G.ty e te he
    unfold okMake at hb
    simp only [Bool.and_eq_true, decide_eq_true_eq] at hb
    obtain ⟨⟨hb0, hnm⟩, hb2⟩ := hb
    have hb2 := fits_le hb2
    obtain ⟨zl, h3, h4, h5⟩ := zerosK_some h2
    obtain ⟨row, h6, hk, hrl, hll, hr⟩ := rowK_some h3
    obtain ⟨z, hz, hz2⟩ := hT.run_zero (w := w)
    obtain ⟨hzs, _⟩ := zero_cell hz2
    have hs : z.cells.size = te.size := by rw [hzs, hT.len]
    have hpos := hT.pos
    unfold asI at hn hm
    split at hn <;> try (cases hn; done)
    rename_i k1 n1
    cases hn
    split at hm <;> try (cases hm; done)
    rename_i k2 m1
    cases hm
    rw [hx.get_int, hy.get_int]
    have hm9 : m ≤ 4294967296 := by omega
    have hwn := wrap_small (n := n) hb0 (by omega)
    have hwm := wrap_small (n := m) (by omega) (by omega)
    obtain ⟨i, hi1, hi2⟩ := hT.run_bytes
    have htoo : ∀ q : Int, 0 ≤ q → q ≤ 4294967296 → (decide (q < 0) || decide ((te.bytes : Int) * q > 2 ^ 48)) = false := by
      intro q q1 q2
      have h7 : (te.bytes : Int) * q ≤ 4096 * 4294967296 := Int.mul_le_mul (by omega) q2 q1 (by omega)
      simp only [Bool.or_eq_false_iff, decide_eq_false_iff_not]
      constructor <;> omega
    have hrun : ∃ zs : Array Value, (m.toNat * te.size ≠ 0 → zs = z.cells) ∧ (Instr.makeSlice t (.int k1 n) (.int k2 m)).run P w = .ok (.slice (some ⟨w.heap.size, 0, none⟩) n.toNat m.toNat) (w.alloc (.cells ((Array.range (m.toNat * te.size)).map (zs[· % zs.size]!)) e)) := by
      have h8 := htoo m (by omega) hm9
      by_cases hz0 : m.toNat * te.size = 0
      · refine ⟨#[], fun hc => absurd hz0 hc, ?_⟩
        simp only [Instr.makeSlice, Sem.run_bind, run_underlying (desc_slice (G.ty _ _ ht) hd'), Result.andThen_ok, asInt, asIntOf, Sem.run_pure, typeInfo, run_program, hi1, hi2, hwn, hwm, h8]
        rw [if_neg (by simp; omega)]
        simp only [Sem.run_bind, run_askRoom, Result.andThen_ok, hT.run_size, hz0, if_true, Sem.run_pure, run_newRow]
      · refine ⟨z.cells, fun _ => rfl, ?_⟩
        simp only [Instr.makeSlice, Sem.run_bind, run_underlying (desc_slice (G.ty _ _ ht) hd'), Result.andThen_ok, asInt, asIntOf, Sem.run_pure, typeInfo, run_program, hi1, hi2, hwn, hwm, h8]
        rw [if_neg (by simp; omega)]
        simp only [Sem.run_bind, run_askRoom, Result.andThen_ok, hT.run_size, hz0, if_false, hz, Sem.run_pure, run_newRow]
    obtain ⟨zs, hzs', hrun⟩ := hrun
    refine ⟨_, _, hrun, ?_⟩
    cases h6
    have hlrow : row.length = te.size := by rw [hrl, h4, hT.len]
    have hkeep := World.keptBut_alloc w (.cells ((Array.range (m.toNat * te.size)).map (zs[· % zs.size]!)) e) (inT fun _ _ => False)
    have hcells : ∀ k, k < m.toNat * te.size → cell (w.alloc (.cells ((Array.range (m.toNat * te.size)).map (zs[· % zs.size]!)) e)) w.heap.size k = some (z.cells.getD (k % te.size) undef) := by
      intro k hk'
      rw [cell_new _ _ _ _ (by simpa using hk')]
      have hz' : zs = z.cells := hzs' (by omega)
      have hlt : k % te.size < z.cells.size := by rw [hs]; exact Nat.mod_lt _ (by omega)
      simp [hz', hs, hs ▸ hlt]
    have hev : ∀ r ∈ List.replicate n.toNat row, r.map Cell.kind = te.kinds := fun r hr' => by
      rw [(List.mem_replicate.1 hr').2]; exact hk
    have hfl := flat_len (even_of hT.len hev)
    simp only [List.length_replicate] at hfl
    have hnm' : n.toNat * te.size ≤ m.toNat * te.size := Nat.mul_le_mul_right _ (by omega)
    have hcap : m ≤ 4294967296 := hm9
    have hmn : n.toNat ≤ m.toNat := by omega
    refine h.makeArr (B' := w.heap.size) hd hkeep (Nat.le_refl _) (by simp) (fun hK => .of ?_) (fun hK => .inr ⟨w.heap.size, te, by rw [← h.rho]; exact nth_app_len ρ _, by simp only [ownSwap, if_true], fun j => by simp only [ownSwap, if_true], he, hev, ⟨⟨_, hcells 0 (Nat.mul_pos (by omega) (by omega))⟩, cold_new ..⟩, fun i hi => ⟨_, hcells i (by omega), cold_new .., ?_⟩⟩)
    · rw [lenN_eq]
      exact .msl e _ _ te w.heap.size m.toNat (by rw [← h.rho]; exact nth_app_len ρ _) he hnp hmn (by omega) fun j hj => ⟨⟨_, hcells j hj⟩, cold_new ..⟩
    · have hdm : i = i / te.size * te.size + i % te.size := by rw [Nat.mul_comm]; exact (Nat.div_add_mod i te.size).symm
      have hmod : i % te.size < te.size := Nat.mod_lt _ (by omega)
      have hdiv : i / te.size < n.toNat := by
        rw [Nat.div_lt_iff_lt_mul (by omega)]; omega
      obtain ⟨q1, q2, q3⟩ := flat_get (even_of hT.len hev) (i := i / te.size) (j := i % te.size) (by simpa using hdiv) hmod
      have e2 : (List.replicate n.toNat row).flatten[i] = row[i % te.size]'(by omega) := by
        have : (List.replicate n.toNat row).flatten[i] = (List.replicate n.toNat row).flatten[i / te.size * te.size + i % te.size] := by
          congr 1
        rw [this, q3]
        simp only [List.getElem_replicate]
      rw [e2]
      have hlt : i % te.size < z.cells.size := by omega
      have := row_of hll hrl hr (E := E) (w := w) (F := Fn own R) (ρ := ρ) (g := fun i => z.cells.getD i undef) (fun j h1 => by
        have h2 : j < z.cells.size := by omega
        have := zeros_rel (E := E) (w := w) (F := Fn own R) (ρ := ρ) hz2 h4 h5 j h1 h2
        simpa [h2] using this) (i % te.size) (by omega)
      exact this.keep hK

theorem allSame_get {k : CK} : ∀ {l : List CK}, allSame k l = true → ∀ (i : Nat) (hi : i < l.length), l[i] = k
  | [], _, i, hi => by simp at hi
  | x :: r, h, i, hi => by
    unfold allSame at h
    obtain ⟨h1, h2⟩ := (show CK.same k x = true ∧ allSame k r = true by
      cases e : CK.same k x <;> rw [e] at h
      · cases h
      · exact ⟨rfl, h⟩)
    cases i with
    | zero => exact (CKsame_of h1).symm
    | succ i => exact allSame_get h2 i (by simpa using hi)

theorem thawA_sound (G : Good P E) (h : Rel E R ρ own N st a w) {t : TypeId} {u : Upd} (hu : thawAK E t st some = some u) {dst : Option Nat} (hd : ∀ d, dst = some d → d < N) :
    ∃ val w', (Instr.alloc t true (.tuple #[])).run P w = .ok val w' ∧ After E R ρ own N w (st.apply dst u) (a.put dst val) w' := by
  unfold thawAK at hu
  cases ht : E.tys t with
  | none => simp [ht] at hu
  | some ty =>
    simp only [ht] at hu
    cases hd' : ty.desc <;> simp only [hd'] at hu <;> try (cases hu; done)
    rename_i n e
    cases he : E.tys e with
    | none => simp [he] at hu
    | some te =>
      simp only [he] at hu
      split at hu <;> try (cases hu; done)
      rename_i k hk
      obtain ⟨hc, hu⟩ := cond_none_some hu
      simp only [Bool.and_eq_true] at hc
      obtain ⟨hc1, hc2, hc3⟩ := hc
      have hc1 := Nat.eq_of_beq_eq_true hc1
      have hc2 := blt_pos hc2
      split at hu <;> try (cases hu; done)
      rename_i c hz0
      split at hu <;> try (cases hu; done)
      rename_i x hx
      cases hu
      have hT := G.ty t ty ht
      have hTe := G.ty e te he
      have hs1 : te.size = 1 := by rw [← hTe.len, hk]; rfl
      obtain ⟨z, hz, hz2⟩ := hT.run_zero (w := w)
      obtain ⟨hzs, hzv⟩ := zero_cell hz2
      have hzn : z.cells.size = n := by rw [hzs, hT.len, hc1]
      have hkl : ty.kinds.length = n := by rw [hT.len, hc1]
      refine ⟨.pointer (some ⟨w.heap.size, 0, none⟩), w.alloc (.cells z.cells t), ?_, ?_⟩
      · simp only [Instr.alloc, Sem.run_bind, hz, Result.andThen_ok, newVar, run_newRow, Sem.run_pure]
      · have hkx : Cell.kind x = k := by
          cases k <;> (first | (cases hz0; done) | skip) <;> simp only [zeroK, Option.some.injEq] at hz0 <;> subst hz0 <;> (first | (cases hx; done) | skip) <;> (cases hx; rfl)
        have hcell : ∀ j (hj : j < n), cell (w.alloc (.cells z.cells t)) w.heap.size j = some (z.cells[j]'(by omega)) := fun j hj => cell_new _ _ _ _ (by omega)
        have hfl : (List.replicate n [x]).flatten.length = n := by simp
        refine h.makeArr (B' := w.heap.size) hd (World.keptBut_alloc _ _ _) (Nat.le_refl _) (by simp) (fun hK => .of ?_) (fun hK => .inr ⟨w.heap.size, te, by rw [← h.rho]; exact nth_app_len ρ _, by simp only [ownSwap, if_true], fun j => by simp only [ownSwap, if_true], he, fun r hr => ?_, ⟨⟨_, hcell 0 hc2⟩, cold_new ..⟩, fun i hi => ⟨_, hcell i (by omega), cold_new .., ?_⟩⟩)
        · rw [lenN_eq]
          exact .parr e _ _ te w.heap.size (by rw [← h.rho]; exact nth_app_len ρ _) he fun j hj => ⟨⟨_, hcell j (by rw [hs1] at hj; omega)⟩, cold_new ..⟩
        · rw [(List.mem_replicate.1 hr).2, hk]
          simp [hkx]
        · have e1 : (List.replicate n [x]).flatten[i] = x := by simp
          rw [e1]
          have h3 : i < ty.kinds.length := by omega
          have h4 := hzv i (by omega) h3
          rw [allSame_get hc3 i h3] at h4
          exact (toCell_rel (zeroK_rel (E := E) (w := w) (F := Fn own R) (ρ := ρ) hz0 h4) hx).keep hK

end Go.Abs
