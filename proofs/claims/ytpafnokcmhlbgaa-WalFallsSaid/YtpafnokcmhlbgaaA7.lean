/-
  Elements, parts of slices, and what memory is read and written.
-/
import Derived.Test.YtpafnokcmhlbgaaA6
namespace Go.Abs

variable {E : Env} {P : Program} {R : Places} {ρ : List Nat} {own : OI → Owner} {N : Nat} {st : St} {a : Act} {w : World} {F : Places}

theorem AR.inv_sl {o : Bool} {e : TypeId} {rows : Rows} {v : Value} {q : Owner} (h : AR E w F ρ (.sl o e rows) v q) : CR E w F (.slice e rows) v := by
  cases h with
  | sl e rows v h => exact h
  | full e rows a n h => exact h
  | own e rows te B off len cap h => exact h

theorem CR.inv_slice {e : TypeId} {rows : Rows} {v : Value} (h : CR E w F (.slice e rows) v) : ∃ a cap, v = .slice a rows.length cap := by
  cases h with
  | empty => exact ⟨_, _, rfl⟩
  | slice => exact ⟨_, _, rfl⟩

theorem row_rel (G : Good P E) {e : TypeId} {rows : Rows} {te : Ty} {B off : Nat} {g : Nat → Value} (he : E.tys e = some te) (hk : ∀ r ∈ rows, r.map Cell.kind = te.kinds)
    (hm : ∀ i, i < rows.flatten.length → cell w B (off + i) = some (g i) ∧ ¬ F B (off + i)) (hr : ∀ (i : Nat) (h : i < rows.flatten.length), CR E w F rows.flatten[i] (g i)) {i : Nat} (hi : i < rows.length) :
    (∀ j, j < rows[i].length → cell w B (off + i * te.size + j) = some (g (i * te.size + j)) ∧ ¬ F B (off + i * te.size + j)) ∧ ∀ (j : Nat) (h : j < rows[i].length), CR E w F rows[i][j] (g (i * te.size + j)) := by
  have hE := even_of (G.ty _ _ he).len hk
  have hs : rows[i].length = te.size := hE _ (List.getElem_mem hi)
  refine ⟨fun j hj => ?_, fun j hj => ?_⟩
  · obtain ⟨h1, _, _⟩ := flat_get hE hi (by omega : j < te.size)
    have := hm _ h1
    rwa [show off + (i * te.size + j) = off + i * te.size + j by omega] at this
  · obtain ⟨h1, h2, h3⟩ := flat_get hE hi (by omega : j < te.size)
    have := hr _ h1
    rwa [h3] at this

theorem indexAddr_sound (G : Good P E) {t : TypeId} {x i : AV} {vx vi : Value} {px pi : Owners} (hx : AVR E w F ρ x vx px) (hi : AVR E w F ρ i vi pi) {u : Upd} (h : indexAddrK E t x i some = some u) :
    ∃ v val, u = Upd.pure v ∧ (Instr.indexAt t vx vi).run P w = .ok val w ∧ AVR E w F ρ v val (fun _ => none) := by
  unfold indexAddrK at h
  cases h1 : E.tys t with
  | none => simp [h1] at h
  | some ty =>
    simp only [h1] at h
    split at h <;> try (cases h; done)
    · rename_i o e rows k n
      cases hd : ty.desc <;> simp only [hd] at h <;> try cases h
      rename_i e'
      obtain ⟨hb, hA⟩ := cond_none_some h
      clear h
      have := Nat.eq_of_beq_eq_true hb
      subst this
      obtain ⟨hb2, h⟩ := cond_none_some hA
      have hb' : 0 ≤ n ∧ n < rows.length := by simpa [inB] using hb2
      have hlt : n.toNat < rows.length := by omega
      rw [hi.get_int]
      have hc := hx.get_one.inv_sl
      have hu := desc_slice (G.ty _ _ h1) hd
      cases hc with
      | empty => simp at hlt
      | slice _ _ te B off cap g he hk hc hm hr =>
        have hsz := (G.ty _ _ he).run_size (w := w)
        refine ⟨_, .pointer (some ⟨B, off + n.toNat * te.size, none⟩), ofK h, ?_, .of ?_⟩
        · simp only [Instr.indexAt, asIntOf, Sem.run_bind, Sem.run_pure, Result.andThen_ok, run_underlying hu, hb', and_self, if_true, hsz, add_none]
          try (by_cases hl : rows.length ≤ 1 <;> simp [hl])
        · obtain ⟨h2, h3⟩ := row_rel G he hk hm hr hlt
          rw [rowAt_eq hlt]
          have := AR.eptr (E := E) (w := w) (F := F) (ρ := ρ) e rows[n.toNat] 0 te B (off + n.toNat * te.size) (fun j => g (n.toNat * te.size + j)) he (hk _ (List.getElem_mem hlt)) h2 h3
          simpa using this
    · rename_i l k n
      cases hd : ty.desc <;> simp only [hd] at h <;> try cases h
      rename_i e
      cases h2 : E.tys e with
      | none => simp [h2] at h
      | some te =>
        simp only [h2] at h
        obtain ⟨hb, h⟩ := cond_none_some h
        have hs1 : te.size = 1 := Nat.eq_of_beq_eq_true hb
        obtain ⟨hb2, h⟩ := cond_none_some h
        have hb' : 0 ≤ n ∧ n < l.length := by simpa [inB, lenN_eq] using hb2
        have hlt : n.toNat < l.length := by omega
        rw [nth_eq, List.getElem?_eq_getElem hlt] at h
        simp only at h
        rw [hi.get_int]
        have hu := desc_slice (G.ty _ _ h1) hd
        have hsz := (G.ty _ _ h2).run_size (w := w)
        have := hx.get_one
        generalize px [] = q at this
        cases this with
        | refs _ B off cap g hc hm hr =>
          refine ⟨_, .pointer (some ⟨B, off + n.toNat, none⟩), ofK h, ?_, .of (.aptr _ B _ (g n.toNat) (hm _ hlt) (hr _ hlt))⟩
          simp only [Instr.indexAt, asIntOf, Sem.run_bind, Sem.run_pure, Result.andThen_ok, run_underlying hu, hb', and_self, if_true, hsz, hs1, Nat.mul_one, add_none]
          try (by_cases hl : l.length ≤ 1 <;> simp [hl])
    · rename_i b o k n
      cases hd : ty.desc <;> simp only [hd] at h <;> try cases h
      rename_i len e
      cases h2 : E.tys e with
      | none => simp [h2] at h
      | some te =>
        simp only [h2] at h
        obtain ⟨hb2, h⟩ := cond_none_some h
        have hb' : 0 ≤ n ∧ n < len := by simpa [inB] using hb2
        rw [hi.get_int]
        obtain ⟨B, hB, rfl⟩ := hx.get_one.inv_ptr
        have hu := desc_array (G.ty _ _ h1) hd
        have hsz := (G.ty _ _ h2).run_size (w := w)
        refine ⟨_, .pointer (some ⟨B, o + n.toNat * te.size, none⟩), ofK h, ?_, .of (.ptr _ _ _ hB)⟩
        simp only [Instr.indexAt, asIntOf, Sem.run_bind, Sem.run_pure, Result.andThen_ok, run_underlying hu, Instr.sureAddr, hb', and_self, if_true, hsz, add_none]
        try (by_cases hl : len ≤ 1 <;> simp [hl])
    · rename_i e b m k n
      cases hd : ty.desc <;> simp only [hd] at h <;> try cases h
      rename_i e'
      obtain ⟨hb, hA⟩ := cond_none_some h
      clear h
      have := Nat.eq_of_beq_eq_true hb
      subst this
      obtain ⟨hb2, h⟩ := cond_none_some hA
      have hb' : 0 ≤ n ∧ n < m := by simpa [inB] using hb2
      rw [hi.get_int]
      have hu := desc_slice (G.ty _ _ h1) hd
      have := hx.get_one
      generalize px [] = q at this
      cases this with
      | mnil => omega
      | msl _ _ _ te B cap hB he h0 hn hm hs =>
        have hsz := (G.ty _ _ he).run_size (w := w)
        refine ⟨_, .pointer (some ⟨B, n.toNat * te.size, none⟩), ofK h, ?_, .of ?_⟩
        · simp only [Instr.indexAt, asIntOf, Sem.run_bind, Sem.run_pure, Result.andThen_ok, run_underlying hu, hb', and_self, if_true, hsz, add_none, Nat.zero_add]
          try (by_cases hl : m ≤ 1 <;> simp [hl])
        · exact .mptr b e n.toNat 0 te B hB he
    · rename_i e b lo m c k n
      cases hd : ty.desc <;> simp only [hd] at h <;> try cases h
      rename_i e'
      obtain ⟨hb, hA⟩ := cond_none_some h
      clear h
      have := Nat.eq_of_beq_eq_true hb
      subst this
      obtain ⟨hb2, h⟩ := cond_none_some hA
      have hb' : 0 ≤ n ∧ n < m := by simpa [inB] using hb2
      rw [hi.get_int]
      have hu := desc_slice (G.ty _ _ h1) hd
      have := hx.get_one
      generalize px [] = q at this
      cases this with
      | win _ _ _ _ _ te B off cap hB he hn hc ho hs =>
        have hsz := (G.ty _ _ he).run_size (w := w)
        have hoff := ho (by omega)
        refine ⟨_, .pointer (some ⟨B, off + n.toNat * te.size, none⟩), ofK h, ?_, .of ?_⟩
        · simp only [Instr.indexAt, asIntOf, Sem.run_bind, Sem.run_pure, Result.andThen_ok, run_underlying hu, hb', and_self, if_true, hsz, add_none]
          try (by_cases hl : m ≤ 1 <;> simp [hl])
        · have := AR.mptr (E := E) (w := w) (F := F) (ρ := ρ) b e (lo + n.toNat) 0 te B hB he
          rw [hoff, ← Nat.add_mul]
          exact this

theorem agg_get {l : List AC} {v : Value} {o : Owners} (h : AVR E w F ρ (.agg l) v o) : ∃ g : Nat → Value, v = .agg ((List.range l.length).map g).toArray ∧ ∀ (i : Nat) (hi : i < l.length), AR E w F ρ l[i] (g i) (o [i]) := by
  cases h with | agg l g o h ho => exact ⟨g, rfl, h⟩

theorem extract_range (g : Nat → Value) (n o s : Nat) (h : o + s ≤ n) : (((List.range n).map g).toArray).extract o (o + s) = ((List.range s).map fun i => g (o + i)).toArray := by
  apply Array.ext'
  simp only [List.extract_toArray, List.extract_eq_take_drop]
  apply List.ext_getElem
  · simp; omega
  · intro i h1 h2
    simp

theorem field_sound (G : Good P E) {s : TypeId} {f : Nat} {x : AV} {vx : Value} {px : Owners} (hx : AVR E w F ρ x vx px) {u : Upd} (h : fieldK E s x f some = some u) :
    ∃ v val, u = Upd.pure v ∧ (Instr.field s vx f).run P w = .ok val w ∧ AVR E w F ρ v val (fun _ => none) := by
  unfold fieldK at h
  cases h1 : fieldAt E s f with
  | none => simp [h1] at h
  | some q =>
    obtain ⟨off, tf⟩ := q
    simp only [h1] at h
    obtain ⟨fields, fld, g1, g2, g3, g4⟩ := fieldAt_sound G h1
    have hT := G.ty _ _ g4
    have hpos := hT.pos
    cases x with
    | agg l =>
      simp only at h
      obtain ⟨h2, h3⟩ := takeK_some h
      have hle : off + tf.size ≤ l.length := by omega
      obtain ⟨g, rfl, hg⟩ := agg_get hx
      have hlen : ((l.drop off).take tf.size).length = tf.size := by simp; omega
      cases hv : valueK tf ((l.drop off).take tf.size) some with
      | none =>
        exfalso
        unfold valueK at hv h3
        cases hd : tf.desc.isAgg with
        | true => simp [hd] at hv
        | false =>
          simp only [hd] at hv h3
          split at h3
          · simp_all
          · simp_all
          · cases h3
      | some v =>
        have h4 : pureK v.dis some = some u := by
          unfold valueK at hv h3
          cases hd : tf.desc.isAgg with
          | true => simp only [hd] at hv h3; cases hv; exact h3
          | false =>
            simp only [hd] at hv h3
            split at h3
            · simp_all
            · rename_i c e1 e2; rw [e2] at hv; simp at hv; subst hv; exact h3
            · cases h3
        have hrel := value_rel G g4 (g := fun i => g (off + i)) (o := fun i => if i < tf.size then px [off + i] else none) hlen (fun i hi => by
          have hi' : i < tf.size := by omega
          simp only [hi', if_true, List.getElem_take, List.getElem_drop]
          exact hg (off + i) (by omega)) (fun i hi => by rw [if_neg (by omega)]) hv rfl
        refine ⟨_, _, ofK h4, ?_, hrel.dis⟩
        simp only [Instr.field, Sem.run_bind, run_underlying g1, Result.andThen_ok, g2, asAgg, Sem.run_pure, part, hT.run_isAgg, g3]
        cases hd : tf.desc.isAgg with
        | true =>
          simp only [if_true, Sem.run_bind, hT.run_size, Result.andThen_ok, Sem.run_pure]
          rw [extract_range _ _ _ _ hle]
        | false =>
          have hl0 : off < l.length := by omega
          simp [hl0]
    | _ => simp at h

/- PARTS OF SLICES -/

theorem sub_rel (G : Good P E) {e : TypeId} {rows : Rows} {a : Option Addr} {len cap l h m : Nat} (hc : CR E w F (.slice e rows) (.slice a len cap)) {te : Ty} (he : E.tys e = some te) (h1 : l ≤ h) (h2 : h ≤ rows.length) (h3 : h ≤ m) :
    CR E w F (.slice e (subL rows l h)) (.slice (if m = l then a else a.map (·.add (l * te.size))) (h - l) (m - l)) := by
  have hlen : (subL rows l h).length = h - l := by simp [subL, dropN_eq, takeN_eq]; omega
  by_cases hz : h = l
  · have : subL rows l h = [] := List.eq_nil_of_length_eq_zero (by omega)
    rw [this, hz, Nat.sub_self]
    exact .empty _ _ _
  · cases hc with
    | empty => simp at h2; omega
    | slice _ _ te' B off cap g he' hk hc hm hr =>
      rw [he] at he'
      cases he'
      have hE := even_of (G.ty _ _ he).len hk
      rw [if_neg (by omega)]
      simp only [Option.map_some, add_none]
      rw [← hlen]
      have hsub : ∀ r ∈ subL rows l h, r ∈ rows := fun r hr => by
        simp only [subL, dropN_eq, takeN_eq] at hr
        exact List.mem_of_mem_take (List.mem_of_mem_drop hr)
      have hflat : (subL rows l h).flatten = (rows.flatten.take (h * te.size)).drop (l * te.size) := by
        simp only [subL, dropN_eq, takeN_eq]
        rw [flat_drop l (fun r hr => hE r (List.mem_of_mem_take hr)), flat_take h hE]
      have hfl : ∀ i, i < (subL rows l h).flatten.length → l * te.size + i < rows.flatten.length := fun i hi => by
        rw [hflat] at hi
        simp only [List.length_drop, List.length_take] at hi
        omega
      refine .slice _ _ te B (off + l * te.size) _ (fun i => g (l * te.size + i)) he (fun r hr => hk r (hsub r hr)) (by rw [hlen]; omega) (fun i hi => ?_) (fun i hi => ?_)
      · have := hm _ (hfl i hi)
        rwa [← Nat.add_assoc] at this
      · have := hr _ (hfl i hi)
        have e2 : (subL rows l h).flatten[i] = rows.flatten[l * te.size + i]'(hfl i hi) := by
          simp only [hflat, List.getElem_drop, List.getElem_take]
        rw [e2]
        exact this

theorem run_bound {v : AV} {val : Value} {o : Owners} (hv : AVR E w F ρ v val o) {n : Int} (hn : asI v = some n) {y : Nat} (hb : inB n (y + 1) = true) (code : BoundsCode) : (Instr.sliceBound val y code).run P w = .ok n.toNat w := by
  unfold asI at hn
  split at hn <;> try (cases hn; done)
  rename_i k m
  cases hn
  rw [hv.get_int]
  have h1 : 0 ≤ n ∧ n < (y : Int) + 1 := by simpa [inB] using hb
  have h2 : 0 ≤ n ∧ n ≤ y := by omega
  simp [Instr.sliceBound, asIntOf, h2]

end Go.Abs
