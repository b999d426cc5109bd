/-
  The laws over drawn pools of updates: the lattice, and the transfer.
-/
import Derived.Test.YtkfniijfenkocaaStD
namespace Go.Proofs.Ytkfniijfenkocaa
open Go.Abs

theorem vec_max {P : List (List Cell)} (F : Fit P) (f g : Int → Int) : vecK (sub P fun a => max (f a) (g a)) = joinV (vecK (sub P f)) (vecK (sub P g)) := by
  have V := F.vld
  have IA := vecK_is (F.sub f).vld
  have IB := vecK_is (F.sub g).vld
  have IU := vecK_is (F.sub fun a => max (f a) (g a)).vld
  have hasA : ∀ (f : Int → Int) (r : List Cell), hasK (sub P f) r = true ↔ (∃ q ∈ P, nr q 0 = nr r 0 ∧ nr q 1 = nr r 1) ∧ nr r 1 ≤ f (nr r 0) := fun f r => by
    rw [hasK_iff]
    constructor
    · rintro ⟨q, hq, e0, e1⟩
      obtain ⟨h1, h2⟩ := mem_sub.1 hq
      exact ⟨⟨q, h1, e0, e1⟩, by rw [← e0, ← e1]; exact h2⟩
    · rintro ⟨⟨q, hq, e0, e1⟩, h2⟩
      exact ⟨q, mem_sub.2 ⟨hq, by rw [e0, e1]; exact h2⟩, e0, e1⟩
  have cle := fun (f g : Int → Int) => vec_has (vecK_is (V.sub f)) (vecK_is (V.sub g))
  have cU : ∀ a, cntV (vecK (sub P fun a => max (f a) (g a))) a = max (cntV (vecK (sub P f)) a) (cntV (vecK (sub P g)) a) := fun a => by
    have h1 := (cle f (fun a => max (f a) (g a))).1 (fun r hr => by rw [hasA] at hr ⊢; exact ⟨hr.1, by show _ ≤ max _ _; omega⟩) a
    have h2 := (cle g (fun a => max (f a) (g a))).1 (fun r hr => by rw [hasA] at hr ⊢; exact ⟨hr.1, by show _ ≤ max _ _; omega⟩) a
    by_cases h0 : cntV (vecK (sub P fun a => max (f a) (g a))) a = 0
    · have := cntV_pos IA.ents a
      have := cntV_pos IB.ents a
      omega
    · have hp := cntV_pos IU.ents a
      have h3 := (IU.has (ent a (cntV (vecK (sub P fun a => max (f a) (g a))) a))).2 (show 1 ≤ cntV (vecK (sub P fun a => max (f a) (g a))) a ∧ cntV (vecK (sub P fun a => max (f a) (g a))) a ≤ cntV (vecK (sub P fun a => max (f a) (g a))) a by omega)
      rw [hasA] at h3
      obtain ⟨h4, h5⟩ := h3
      have h5 : cntV (vecK (sub P fun a => max (f a) (g a))) a ≤ max (f a) (g a) := h5
      by_cases h6 : cntV (vecK (sub P fun a => max (f a) (g a))) a ≤ f a
      · have := ((IA.has _).1 ((hasA f _).2 ⟨h4, h6⟩)).2
        have : cntV (vecK (sub P fun a => max (f a) (g a))) a ≤ cntV (vecK (sub P f)) a := this
        omega
      · have := ((IB.has _).1 ((hasA g _).2 ⟨h4, show cntV (vecK (sub P fun a => max (f a) (g a))) a ≤ g a by omega⟩)).2
        have : cntV (vecK (sub P fun a => max (f a) (g a))) a ≤ cntV (vecK (sub P g)) a := this
        omega
  obtain ⟨j1, j2, j3⟩ := joinF_is IA.asc IA.ents IB.asc IB.ents
  exact vec_ext IU.asc j1 IU.ents j2 fun a => by rw [cU]; exact (j3 a).symm

theorem cont_le {P : List (List Cell)} (F : Fit P) (f g : Int → Int) : contK (sub P f) (sub P g) = leV (vecK (sub P g)) (vecK (sub P f)) := by
  have V := F.vld
  have IA := vecK_is (F.sub f).vld
  have IB := vecK_is (F.sub g).vld
  have cle := fun (f g : Int → Int) => vec_has (vecK_is (V.sub f)) (vecK_is (V.sub g))
  rw [Bool.eq_iff_iff, leV_iff IB.asc IB.ents IA.ents, ← cle g f]
  unfold contK
  rw [List.all_eq_true]
  constructor
  · intro h r hr
    obtain ⟨q, hq, e0, e1⟩ := hasK_iff.1 hr
    obtain ⟨p, hp, f0, f1⟩ := hasK_iff.1 (h q hq)
    exact hasK_iff.2 ⟨p, hp, by omega, by omega⟩
  · intro h r hr
    exact h r (hasK_self hr)

theorem law5 (l : List (List Cell)) (x y z : Int) (hl : l.length < 4611686018427387904) : runF E (callOf L10) 1 5 [.one (.sl false 3 l), .one (.int .i64 x), .one (.int .i64 y), .one (.int .i64 z)] [] = some ([.one (.bool true)], []) := by
  have F := pool_fit l
  have A : ∀ n, gSome (gUpds l) n = sub (gUpds l) (fun a => gDigit n 9 (IntKind.wrap .i64 (a - 101))) := fun n => rfl
  rw [e5]
  simp only [A]
  generalize gUpds l = P at *
  generalize (fun a => gDigit x 9 (IntKind.wrap .i64 (a - 101))) = f
  generalize (fun a => gDigit y 9 (IntKind.wrap .i64 (a - 101))) = g
  generalize (fun a => gDigit z 9 (IntKind.wrap .i64 (a - 101))) = h
  have V := F.vld
  have hUn : ∀ f g, okUn (sub P f) (sub P g) = true := fun f g => (F.sub f).un (F.sub g)
  have hSrt : ∀ f, okSrt (sub P f) = true := fun f => (F.sub f).srt
  have hRows : ∀ f, okRows (sub P f) = true := fun f => (F.sub f).rows
  have hLn : ∀ f, okLn (sub P f) = true := fun f => (F.sub f).ln
  have hV : ∀ f, vSt (sub P f) = 0 := fun f => (F.sub f).valid
  have hLv : ∀ f, okLn (vecK (sub P f)) = true := fun f => okLn_mk (by have := vecK_cnt (sub P f); have := (F.sub f).len; omega)
  have hE : ∀ f g, (∀ a, f a = g a) → eqSt (sub P f) (sub P g) = true := fun f g hfg => by
    have : f = g := funext hfg
    subst this
    exact eqSt_refl _
  have U := uni_sub V
  have C := cont_sub V
  have hJ : okJn (vecK (sub P f)) (vecK (sub P g)) = true := by
    unfold okJn
    have h1 := vecK_cnt (sub P f)
    have h2 := vecK_cnt (sub P g)
    have := (F.sub f).len
    have := (F.sub g).len
    rw [cnt_en h1.1, decide_eq_true (by omega)]
    rfl
  have hJV : eqVec (vecK (sub P fun a => max (f a) (g a))) (joinV (vecK (sub P f)) (vecK (sub P g))) = true := by rw [← vec_max F]; exact eqVec_refl _
  have hC : ((contK (sub P f) (sub P g)) == (leV (vecK (sub P g)) (vecK (sub P f)))) = true := by rw [← cont_le F]; exact beq_iff_eq.2 rfl
  simp only [U, hUn, hSrt, hRows, hLn, hV, hLv, hJ, hJV, hC, F.cf, Bool.and_self, cond_true]
  have c1 := hE (fun a => max (f a) (g a)) (fun a => max (g a) (f a)) fun a => Int.max_comm _ _
  have c2 := hE (fun a => max (max (f a) (g a)) (h a)) (fun a => max (f a) (max (g a) (h a))) fun a => by omega
  have c3 := hE (fun a => max (f a) (f a)) f fun a => by omega
  have c6 : ((contK (sub P f) (sub P g)) == (eqSt (sub P fun a => max (f a) (g a)) (sub P f))) = true := by
    rw [beq_iff_eq, Bool.eq_iff_iff, C]
    constructor
    · intro hfg
      have : (sub P fun a => max (f a) (g a)) = sub P f := sub_congr fun r hr => by
        have := hfg r hr
        show nr r 1 ≤ max _ _ ↔ _
        omega
      rw [this]
      exact eqSt_refl _
    · intro he r hr hg
      exact sub_len_eq (f := f) (g := fun a => max (f a) (g a)) (fun r _ hr => by show _ ≤ max _ _; omega) (eqSt_len he) r hr (by show _ ≤ max _ _; omega)
  have c9 : contK (sub P h) (sub P f) = true → contK (sub P h) (sub P g) = true → contK (sub P h) (sub P fun a => max (f a) (g a)) = true := fun h1 h2 => by
    rw [C] at h1 h2 ⊢
    intro r hr hm
    have := h1 r hr
    have := h2 r hr
    have hm : nr r 1 ≤ max (f (nr r 0)) (g (nr r 0)) := hm
    omega
  refine ct (decide_eq_true hl) ?_
  simp only [c1, c2, c3, c6, Bool.not_true, cond_false, cond_true, bne_self_eq_false]
  cases k1 : contK (sub P h) (sub P f) with
  | false => rfl
  | true =>
    cases k2 : contK (sub P h) (sub P g) with
    | false => rfl
    | true =>
      rw [c9 k1 k2]
      rfl

/- THE TRANSFER -/

def more (f : Int → Int) (a n : Int) : Int → Int := fun b => if b = a then n else f b

theorem add_sub {P : List (List Cell)} (F : Fit P) {f : Int → Int} {p : List Cell} (hp : p ∈ P) (h : hasK (sub P f) p = false) (hn : nr p 1 = cntV (vecK (sub P f)) (nr p 0) + 1) :
    uniK (sub P f) [p] = sub P (more f (nr p 0) (nr p 1)) := by
  have V := F.vld
  have IA := vecK_is (V.sub f)
  have hone : Asc [p] := by simp [Asc]
  refine asc_ext (asc_uniK (V.sub f).asc _) (V.sub _).asc fun x => ?_
  rw [mem_uniK_asc (V.sub f).asc hone, mem_sub, mem_sub, List.mem_singleton]
  unfold more
  constructor
  · rintro (⟨h1, h2⟩ | ⟨rfl, _⟩)
    · refine ⟨h1, ?_⟩
      split
      · rename_i e
        have := ((IA.has x).1 (hasK_self (mem_sub.2 ⟨h1, h2⟩))).2
        rw [e] at this
        omega
      · exact h2
    · exact ⟨hp, by rw [if_pos rfl]; exact Int.le_refl _⟩
  · rintro ⟨h1, h2⟩
    split at h2
    · rename_i e
      by_cases e1 : nr x 1 = nr p 1
      · have := asc_inj V.asc h1 hp e e1
        subst this
        exact .inr ⟨rfl, h⟩
      · have hx := (V.nums x h1).2.1
        have := (IA.has x).2 ⟨hx, by rw [e]; omega⟩
        obtain ⟨q, hq, f0, f1⟩ := hasK_iff.1 this
        have := asc_inj V.asc (mem_sub.1 hq).1 h1 f0 f1
        subst this
        exact .inl (mem_sub.1 hq)
    · exact .inl ⟨h1, h2⟩

theorem cnt_sub {P : List (List Cell)} (F : Fit P) (g : Int → Int) {r : List Cell} (hr : r ∈ P) : nr r 1 ≤ cntV (vecK (sub P g)) (nr r 0) ↔ nr r 1 ≤ g (nr r 0) := by
  have I := vecK_is (F.sub g).vld
  have hn := (F.vld.nums r hr).2.1
  have h1 := I.has r
  have h2 := hasK_filter F.vld.asc (fun r => decide (nr r 1 ≤ g (nr r 0))) hr
  have h3 : hasK (sub P g) r = decide (nr r 1 ≤ g (nr r 0)) := h2
  rw [h3, decide_eq_true_eq] at h1
  constructor
  · intro h; exact h1.2 ⟨hn, h⟩
  · intro h; exact (h1.1 h).2

/-- what a lacks of b, in order -/
def lack (P : List (List Cell)) (f g : Int → Int) : List (List Cell) := bey (sub P f) (vecK (sub P g))

theorem mem_lack {P : List (List Cell)} {f g : Int → Int} {r : List Cell} : r ∈ lack P f g ↔ r ∈ P ∧ nr r 1 ≤ f (nr r 0) ∧ cntV (vecK (sub P g)) (nr r 0) < nr r 1 := by
  unfold lack bey
  rw [List.mem_filter, mem_sub, decide_eq_true_eq, and_assoc]

theorem asc_lack {P : List (List Cell)} (F : Fit P) (f g : Int → Int) : Asc (lack P f g) := asc_filter (F.sub f).vld.asc _

theorem lack_head {P : List (List Cell)} (F : Fit P) {f g : Int → Int} {p : List Cell} {t : List (List Cell)} (h : lack P f g = p :: t) :
    p ∈ P ∧ nr p 1 ≤ f (nr p 0) ∧ g (nr p 0) < nr p 1 ∧ nr p 1 = cntV (vecK (sub P g)) (nr p 0) + 1 := by
  have hp : p ∈ lack P f g := by rw [h]; exact List.mem_cons_self
  obtain ⟨h1, h2, h3⟩ := mem_lack.1 hp
  have hc := cnt_sub F g h1
  refine ⟨h1, h2, by omega, ?_⟩
  have I := vecK_is (F.sub g).vld
  have h0 := cntV_pos I.ents (nr p 0)
  by_cases hne : nr p 1 = cntV (vecK (sub P g)) (nr p 0) + 1
  · exact hne
  · exfalso
    obtain ⟨q, hq, e0, e1⟩ := (F.sub f).vld.gap p (mem_sub.2 ⟨h1, h2⟩) (by omega)
    have hql : q ∈ lack P f g := mem_lack.2 ⟨(mem_sub.1 hq).1, (mem_sub.1 hq).2, by rw [e0, e1]; omega⟩
    have ha := asc_lack F f g
    rw [h, asc_cons] at ha
    rw [h] at hql
    rcases List.mem_cons.1 hql with rfl | hql
    · omega
    · have := kLt_iff.1 (ha.1 q hql)
      omega

theorem lack_step {P : List (List Cell)} (F : Fit P) {f g : Int → Int} {p : List Cell} {t : List (List Cell)} (h : lack P f g = p :: t) :
    hasK (sub P g) p = false ∧ insK (sub P g) p = sub P (more g (nr p 0) (nr p 1)) ∧ lack P f (more g (nr p 0) (nr p 1)) = t ∧ (fun a => max (f a) (more g (nr p 0) (nr p 1) a)) = fun a => max (f a) (g a) := by
  obtain ⟨h1, h2, h3, h4⟩ := lack_head F h
  have hno : hasK (sub P g) p = false := by
    have : hasK (sub P g) p = decide (nr p 1 ≤ g (nr p 0)) := hasK_filter F.vld.asc (fun r => decide (nr r 1 ≤ g (nr r 0))) h1
    rw [this]
    exact decide_eq_false (by omega)
  have hadd := add_sub F h1 hno h4
  have hins : insK (sub P g) p = sub P (more g (nr p 0) (nr p 1)) := hadd
  refine ⟨hno, hins, ?_, ?_⟩
  · have hcnt : ∀ a, cntV (vecK (sub P (more g (nr p 0) (nr p 1)))) a = if a = nr p 0 then nr p 1 else cntV (vecK (sub P g)) a := fun a => by
      rw [cntV_S (F.sub _).vld.asc, ← hins, cntV_S (F.sub g).vld.asc]
      rw [cntV_S (F.sub g).vld.asc] at h4
      have hins2 : ∀ (c : List (List Cell)), hasK c p = false → cntS (insK c p) a = cntS c a + if nr p 0 = a then 1 else 0 := by
        intro c
        induction c with
        | nil =>
          intro _
          rw [insK, cntS_cons]
          omega
        | cons q c ih =>
          intro hh
          rw [hasK_cons, Bool.or_eq_false_iff] at hh
          unfold insK
          have h5 : ¬ kEq p q = true := fun e => by
            have := hh.1
            rw [kEq_false] at this
            rw [kEq_iff] at e
            exact this ⟨e.1.symm, e.2.symm⟩
          rw [if_neg h5]
          split
          · rw [cntS_cons p]
            omega
          · rw [cntS_cons, ih hh.2, cntS_cons]
            omega
      rw [hins2 _ hno]
      by_cases ha : a = nr p 0
      · subst ha
        rw [if_pos rfl, if_pos rfl]
        omega
      · rw [if_neg ha, if_neg (fun e => ha e.symm)]
        omega
    have hf : lack P f (more g (nr p 0) (nr p 1)) = (lack P f g).filter fun r => !kEq r p := by
      unfold lack bey
      rw [List.filter_filter]
      refine List.filter_congr fun r hr => ?_
      rw [hcnt]
      rw [Bool.eq_iff_iff]
      simp only [Bool.and_eq_true, Bool.not_eq_true', kEq_false, decide_eq_true_eq]
      by_cases ha : nr r 0 = nr p 0
      · rw [if_pos ha, ha]
        omega
      · rw [if_neg ha]
        exact ⟨fun h => ⟨fun e => ha e.1, h⟩, fun h => h.2⟩
    have ha := asc_lack F f g
    rw [h, asc_cons] at ha
    rw [hf, h, List.filter_cons, if_neg (by rw [kEq_refl]; simp)]
    refine List.filter_eq_self.2 fun r hr => ?_
    have := kLt_iff.1 (ha.1 r hr)
    simp only [Bool.not_eq_true', kEq_false]
    omega
  · funext a
    unfold more
    by_cases ha : a = nr p 0
    · subst ha
      rw [if_pos rfl]
      omega
    · rw [if_neg ha]

theorem merge_lack {P : List (List Cell)} (F : Fit P) (f : Int → Int) : ∀ (k : Nat) (g : Int → Int) (p : Int), ∃ g2, mrgSF (sub P g) ((lack P f g).take k) p 0 = (sub P g2, p + (((lack P f g).take k).length : Int), 0) ∧
    lack P f g2 = (lack P f g).drop k ∧ (fun a => max (f a) (g2 a)) = fun a => max (f a) (g a)
  | 0, g, p => ⟨g, by simp [mrgSF], by simp, rfl⟩
  | k + 1, g, p => by
    cases h : lack P f g with
    | nil => exact ⟨g, by simp [mrgSF], by rw [h]; simp, rfl⟩
    | cons r t =>
      obtain ⟨h1, h2, h3, h4⟩ := lack_head F h
      obtain ⟨s1, s2, s3, s4⟩ := lack_step F h
      obtain ⟨g2, i1, i2, i3⟩ := merge_lack F f k (more g (nr r 0) (nr r 1)) (p + 1)
      refine ⟨g2, ?_, ?_, i3.trans s4⟩
      · rw [List.take_succ_cons, mrgSF, if_neg, if_neg (by rw [s1]; simp), s2]
        · rw [s3] at i1
          rw [i1, List.length_cons]
          congr 2
          omega
        · rintro (h5 | h5)
          · exact h5 (F.upd r h1)
          · rw [cntV_S (F.sub g).vld.asc] at h4
            omega
      · rw [i2, s3, List.drop_succ_cons]

theorem lack_none {P : List (List Cell)} (F : Fit P) {f g : Int → Int} (h : lack P f g = []) : sub P (fun a => max (f a) (g a)) = sub P g := sub_congr fun r hr => by
  have hc := cnt_sub F g hr
  show nr r 1 ≤ max (f (nr r 0)) (g (nr r 0)) ↔ _
  constructor
  · intro hm
    by_cases h1 : nr r 1 ≤ g (nr r 0)
    · exact h1
    · exfalso
      have : r ∈ lack P f g := mem_lack.2 ⟨hr, by omega, by omega⟩
      rw [h] at this
      cases this
  · intro h1
    omega

theorem l8 {P : List (List Cell)} (F : Fit P) (f g0 : Int → Int) (s : Int) (hs : 1 ≤ s ∧ s ≤ 6) : ∀ (d i : Nat) (g : Int → Int), (lack P f g).length ≤ d → (lack P f g).length + i ≤ (sub P f).length → (fun a => max (f a) (g a)) = (fun a => max (f a) (g0 a)) →
    ∃ m, goF E (callOf L5) F8 0 m P8_0 (M8_0 (sub P f) (sub P g0) s (sub P g) i) = some ([.one (.bool true)], [])
  | d, i, g, hd, hi, hg => by
    have fa := F.sub f
    have fg := F.sub g
    have hlen := fa.len
    have hvec : okVec (vecK (sub P g)) = true := okVec_mk (by have := vecK_cnt (sub P g); have := fg.len; omega) (vecK_is fg.vld).asc
    obtain ⟨g2, m1, m2, m3⟩ := merge_lack F f (min s.toNat (lack P f g).length) g 0
    have eb : (beyS (sub P f) (vecK (sub P g)) s).1 = (lack P f g).take (min s.toNat (lack P f g).length) := rfl
    have em : (beyS (sub P f) (vecK (sub P g)) s).2 = decide (min s.toNat (lack P f g).length < (lack P f g).length) := rfl
    have hmem : ∀ r ∈ lack P f g, r ∈ sub P f := fun r hr => (List.mem_filter.1 hr).1
    have hmg : okMg (sub P g) ((lack P f g).take (min s.toNat (lack P f g).length)) = true := by
      have hl1 : ((lack P f g).take (min s.toNat (lack P f g).length)).length ≤ 100 := by rw [List.length_take]; omega
      unfold okMg okCf
      rw [fg.cl, okLn_mk (by omega), all_sub fa.ur (fun r hr => hmem r (List.mem_of_mem_take hr)), decide_eq_true (by have := fg.len; omega), decide_eq_true (by omega)]
      rfl
    have hm : mrgS (sub P g) ((lack P f g).take (min s.toNat (lack P f g).length)) = (sub P g2, (((lack P f g).take (min s.toNat (lack P f g).length)).length : Int), 0) := by
      unfold mrgS
      rw [m1, Int.zero_add]
    by_cases hmore : min s.toNat (lack P f g).length < (lack P f g).length
    · have hs2 : min s.toNat (lack P f g).length = s.toNat := by omega
      have hl2 : (lack P f g2).length = (lack P f g).length - s.toNat := by rw [m2, List.length_drop, hs2]
      obtain ⟨d', rfl⟩ : ∃ d', d = d' + 1 := ⟨d - 1, by omega⟩
      obtain ⟨m, hrec⟩ := l8 F f g0 s hs d' (i + 1) g2 (by omega) (by omega) (m3.trans hg)
      refine ⟨m + 1, ?_⟩
      rw [e8_0, eb, em, hm, decide_eq_true hmore]
      refine ct (decide_eq_true (by omega)) (ct fg.ln (ct (by rw [fa.cl, hvec]; rfl) (ct hmg (cf (by simp) (cf (by simp) (ct rfl (cf ?_ (cf rfl ?_))))))))
      · rw [List.length_take, hs2]
        exact bne_eq_false_iff_eq.2 (by omega)
      · rw [nat_wrap (n := 200) (by omega) (by omega)]
        exact hrec
    · have hl2 : lack P f g2 = [] := by
        rw [m2]
        exact List.drop_eq_nil_of_le (by omega)
      have hfin := lack_none F hl2
      have hu : mrgK (sub P f) (sub P g0) = sub P g2 := by
        rw [mrgK_uni fa.vld.asc (F.sub g0).vld.asc, uni_sub F.vld, ← hg, ← m3, hfin]
      refine ⟨1, ?_⟩
      rw [e8_0, eb, em, hm, decide_eq_false hmore, hu]
      refine ct (decide_eq_true (by omega)) (ct fg.ln (ct (by rw [fa.cl, hvec]; rfl) (ct hmg (cf (by simp) (cf (by simp) (cf rfl (ct rfl (ct (by rw [fa.cf, (F.sub g0).cf]; rfl) (ct (F.sub g2).rows (ct (eqSt_refl _) rfl))))))))))

theorem law8 (l : List (List Cell)) (x y k : Int) (hl : l.length < 4611686018427387904) : ∃ m, runF E (callOf L5) m 8 [.one (.sl false 3 l), .one (.int .i64 x), .one (.int .i64 y), .one (.int .i64 k)] [] = some ([.one (.bool true)], []) := by
  have F := pool_fit l
  have A : ∀ n, gSome (gUpds l) n = sub (gUpds l) (fun a => gDigit n 9 (IntKind.wrap .i64 (a - 101))) := fun n => rfl
  have hk : 0 ≤ gIndex k 6 ∧ gIndex k 6 < 6 := gIndex_bound k 6 (by omega)
  have hb : (lack (gUpds l) (fun a => gDigit x 9 (IntKind.wrap .i64 (a - 101))) (fun a => gDigit y 9 (IntKind.wrap .i64 (a - 101)))).length ≤ (sub (gUpds l) (fun a => gDigit x 9 (IntKind.wrap .i64 (a - 101)))).length := List.length_filter_le _ _
  obtain ⟨m, hm⟩ := l8 F (fun a => gDigit x 9 (IntKind.wrap .i64 (a - 101))) (fun a => gDigit y 9 (IntKind.wrap .i64 (a - 101))) (1 + gIndex k 6) (by omega) _ 0 (fun a => gDigit y 9 (IntKind.wrap .i64 (a - 101))) (Nat.le_refl _) (by omega) rfl
  refine ⟨m + 1, ?_⟩
  rw [e8, wrap64 (n := 1 + gIndex k 6) (by omega) (by omega)]
  simp only [A]
  exact ct (decide_eq_true hl) (ct F.cf (ct F.cf (ct (by decide) hm)))

end Go.Proofs.Ytkfniijfenkocaa
