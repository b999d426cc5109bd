/-
  Parts of slices and strings; memory read, written and made.
-/
import Derived.Test.YtpafnokcmhlbgaaA7
namespace Go.Abs

variable {E : Env} {P : Program} {R : Places} {ρ : List Nat} {own : OI → Owner} {N : Nat} {st : St} {a : Act} {w : World} {F : Places}

theorem run_slice_of {t e : TypeId} {s : Nat} (hu : P.underlying t = some (.slice e)) (hs : (sizeOf e).run P w = .ok s w) {b : Option Addr} {len cap : Nat} {lo hi mx : Option Value} {l h m : Nat}
    (hb : (Instr.sliceBounds true len cap lo hi mx).run P w = .ok (l, h, m) w) :
    (Instr.slice t (.slice b len cap) lo hi mx).run P w = .ok (.slice (if m = l then b else b.map (·.add (l * s))) (h - l) (m - l)) w := by
  simp only [Instr.slice, Sem.run_bind, run_underlying hu, Result.andThen_ok, hb, hs, Sem.run_pure]

theorem run_sliceStr_of {t : TypeId} (hu : P.underlying t = some .string) {s : ByteArray} {lo hi : Option Value} {l h m : Nat}
    (hb : (Instr.sliceBounds false s.size s.size lo hi none).run P w = .ok (l, h, m) w) :
    (Instr.slice t (.string s) lo hi none).run P w = .ok (.string (s.extract l h)) w := by
  simp only [Instr.slice, Sem.run_bind, run_underlying hu, Result.andThen_ok, Option.isSome_none, Bool.false_eq_true, if_false, hb, Sem.run_pure]

/-- optional bounds: what the interpreter has and what the run has -/
def OptR (E : Env) (w : World) (F : Places) (ρ : List Nat) : Option AV → Option Value → Prop
  | none, none => True
  | some x, some v => ∃ o, AVR E w F ρ x v o
  | _, _ => False

theorem subL_zero {α : Type} (l : List α) (h : Nat) : subL l 0 h = takeN l h := by cases l <;> simp [subL, dropN]
theorem subL_all {α : Type} (l : List α) (n : Nat) : subL l n l.length = dropN l n := by simp [subL, takeN_eq]

theorem run_bound0 {n y : Nat} (h : n ≤ y) (code : BoundsCode) (k : IntKind) : (Instr.sliceBound (.int k n) y code).run P w = .ok n w := by
  have : (n : Int) ≤ y := by omega
  simp [Instr.sliceBound, asIntOf, this]

theorem inB_nat {n : Int} {y : Nat} (h : inB n (y + 1) = true) : n.toNat ≤ y := by
  have : 0 ≤ n ∧ n < (y : Int) + 1 := by simpa [inB] using h
  omega

theorem bounds_sound {isS : Bool} {len cap : Nat} {lo hi mx : Option AV} {vlo vhi vmx : Option Value} (hlo : OptR E w F ρ lo vlo) (hhi : OptR E w F ρ hi vhi) (hmx : OptR E w F ρ mx vmx) (hlc : len ≤ cap) :
    (∀ l, lo = none → hi = some l → mx = none → ∀ h, asI l = some h → inB h (len + 1) = true → (Instr.sliceBounds isS len cap vlo vhi vmx).run P w = .ok (0, h.toNat, cap) w) ∧
    (lo = none → hi = none → mx = none → (Instr.sliceBounds isS len cap vlo vhi vmx).run P w = .ok (0, len, cap) w) ∧
    (∀ x, lo = some x → hi = none → mx = none → ∀ l, asI x = some l → inB l (len + 1) = true → (Instr.sliceBounds isS len cap vlo vhi vmx).run P w = .ok (l.toNat, len, cap) w) ∧
    (∀ x y, lo = some x → hi = some y → mx = none → ∀ l h, asI x = some l → asI y = some h → inB h (len + 1) = true → inB l (h.toNat + 1) = true → (Instr.sliceBounds isS len cap vlo vhi vmx).run P w = .ok (l.toNat, h.toNat, cap) w) ∧
    (∀ y z, lo = none → hi = some y → mx = some z → ∀ h m, asI y = some h → asI z = some m → inB m (len + 1) = true → h = m → (Instr.sliceBounds isS len cap vlo vhi vmx).run P w = .ok (0, h.toNat, h.toNat) w) ∧
    (∀ x y z, lo = some x → hi = some y → mx = some z → ∀ l h m, asI x = some l → asI y = some h → asI z = some m → inB m (len + 1) = true → h = m → inB l (h.toNat + 1) = true → (Instr.sliceBounds isS len cap vlo vhi vmx).run P w = .ok (l.toNat, h.toNat, h.toNat) w) := by
  have up : ∀ {n : Int} {y z : Nat}, inB n (y + 1) = true → y ≤ z → inB n (z + 1) = true := by
    intro n y z h hz
    have : 0 ≤ n ∧ n < (y : Int) + 1 := by simpa [inB] using h
    simp only [inB, decide_eq_true_eq]
    omega
  refine ⟨?_, ?_, ?_, ?_, ?_, ?_⟩
  · rintro l rfl rfl rfl h h1 h2
    cases vlo <;> cases vhi <;> cases vmx <;> simp only [OptR] at hlo hhi hmx
    obtain ⟨o, hv⟩ := hhi
    simp only [Instr.sliceBounds, Sem.run_bind, Sem.run_pure, Result.andThen_ok, run_bound hv h1 (up h2 hlc)]
  · rintro rfl rfl rfl
    cases vlo <;> cases vhi <;> cases vmx <;> simp only [OptR] at hlo hhi hmx
    simp only [Instr.sliceBounds, Sem.run_bind, Sem.run_pure, Result.andThen_ok]
  · rintro x rfl rfl rfl l h1 h2
    cases vlo <;> cases vhi <;> cases vmx <;> simp only [OptR] at hlo hhi hmx
    obtain ⟨o, hv⟩ := hlo
    simp only [Instr.sliceBounds, Sem.run_bind, Sem.run_pure, Result.andThen_ok, run_bound hv h1 h2]
  · rintro x y rfl rfl rfl l h h1 h2 h3 h4
    cases vlo <;> cases vhi <;> cases vmx <;> simp only [OptR] at hlo hhi hmx
    obtain ⟨o, hv⟩ := hlo
    obtain ⟨o', hv'⟩ := hhi
    simp only [Instr.sliceBounds, Sem.run_bind, Sem.run_pure, Result.andThen_ok, run_bound hv' h2 (up h3 hlc), run_bound hv h1 h4]
  · rintro y z rfl rfl rfl h m h1 h2 h3 rfl
    cases vlo <;> cases vhi <;> cases vmx <;> simp only [OptR] at hlo hhi hmx
    obtain ⟨o', hv'⟩ := hhi
    obtain ⟨o'', hv''⟩ := hmx
    have hh : inB h (h.toNat + 1) = true := by
      have : 0 ≤ h ∧ h < (len : Int) + 1 := by simpa [inB] using h3
      simp only [inB, decide_eq_true_eq]; omega
    simp only [Instr.sliceBounds, Sem.run_bind, Sem.run_pure, Result.andThen_ok, run_bound hv'' h2 (up h3 hlc), run_bound hv' h1 hh]
  · rintro x y z rfl rfl rfl l h m h1 h2 h3 h4 rfl h5
    cases vlo <;> cases vhi <;> cases vmx <;> simp only [OptR] at hlo hhi hmx
    obtain ⟨o, hv⟩ := hlo
    obtain ⟨o', hv'⟩ := hhi
    obtain ⟨o'', hv''⟩ := hmx
    have hh : inB h (h.toNat + 1) = true := by
      have : 0 ≤ h ∧ h < (len : Int) + 1 := by simpa [inB] using h4
      simp only [inB, decide_eq_true_eq]; omega
    simp only [Instr.sliceBounds, Sem.run_bind, Sem.run_pure, Result.andThen_ok, run_bound hv'' h3 (up h4 hlc), run_bound hv' h2 hh, run_bound hv h1 h5]

theorem AR.inv_slV {o : Bool} {e : TypeId} {rows : Rows} {v : Value} {q : Owner} (h : AR E w F ρ (.sl o e rows) v q) : ∃ b cap, v = .slice b rows.length cap := h.inv_sl.inv_slice

/-- what is behind an index keeps what the whole owned -/
theorem drop_rel (G : Good P E) {o : Bool} {e : TypeId} {rows : Rows} {b : Option Addr} {cap l : Nat} {q : Owner} (h : AR E w F ρ (.sl o e rows) (.slice b rows.length cap) q) (hcap : rows.length ≤ cap) {te : Ty} (he : E.tys e = some te) (hl : l ≤ rows.length) :
    AR E w F ρ (.sl o e (dropN rows l)) (.slice (if cap = l then b else b.map (·.add (l * te.size))) (rows.length - l) (cap - l)) q := by
  have hsub := sub_rel G (m := cap) h.inv_sl he hl (Nat.le_refl _) hcap
  rw [subL_all] at hsub
  generalize hv : Value.slice b rows.length cap = v at h
  cases h with
  | sl e rows v h => exact .sl _ _ _ hsub
  | full e rows b' n h =>
    cases hv
    exact .full _ _ _ _ hsub
  | own e rows te' B off len cap' h he' hlt hs =>
    cases hv
    rw [he] at he'
    cases he'
    rw [if_neg (by omega)] at hsub ⊢
    simp only [Option.map_some, add_none] at hsub ⊢
    have harith : ∀ n, l ≤ n → off + l * te.size + (n - l) * te.size = off + n * te.size := fun n hn => by
      have : l * te.size + (n - l) * te.size = n * te.size := by rw [← Nat.add_mul]; congr 1; omega
      omega
    have h1 := harith rows.length hl
    have h2 := harith cap (by omega)
    have := AR.own (E := E) (w := w) (F := F) (ρ := ρ) e (dropN rows l) te B (off + l * te.size) (rows.length - l) (cap - l) hsub he (by omega) (fun j hj1 hj2 => hs j (by omega) (by omega))
    rwa [h1] at this

theorem CR.inv_cap {e : TypeId} {rows : Rows} {b : Option Addr} {n cap : Nat} (h : CR E w F (.slice e rows) (.slice b n cap)) : n = rows.length ∧ (rows.length ≤ cap) := by
  cases h with
  | empty => exact ⟨rfl, Nat.zero_le _⟩
  | slice _ _ te B off cap g he hk hc => exact ⟨rfl, hc⟩

theorem sliceR_sound (G : Good P E) {t e : TypeId} (hu : P.underlying t = some (.slice e)) {te : Ty} (he : E.tys e = some te) {o : Bool} {rows : Rows} {vx : Value} {px : Owners} (hx : AVR E w F ρ (.one (.sl o e rows)) vx px)
    {lo hi mx : Option AV} {vlo vhi vmx : Option Value} (hlo : OptR E w F ρ lo vlo) (hhi : OptR E w F ρ hi vhi) (hmx : OptR E w F ρ mx vmx) {v : AV} (h : sliceRK o e rows lo hi mx some = some v) :
    ∃ val oV, (Instr.slice t vx vlo vhi vmx).run P w = .ok val w ∧ AVR E w F ρ v val oV ∧ ∀ p, oV p = none ∨ oV p = px p := by
  have hx1 := hx.get_one
  obtain ⟨b, cap, rfl⟩ := hx1.inv_slV
  obtain ⟨_, hcap⟩ := hx1.inv_sl.inv_cap
  have hsz := (G.ty _ _ he).run_size (w := w)
  obtain ⟨b1, b2, b3, b4, b5, b6⟩ := bounds_sound (P := P) (isS := true) (len := rows.length) (cap := cap) hlo hhi hmx hcap
  have fin : ∀ {o' : Bool} {rows' : Rows} {val : Value} {q : Owner}, v = .one (.sl o' e rows') → (Instr.slice t (.slice b rows.length cap) vlo vhi vmx).run P w = .ok val w → AR E w F ρ (.sl o' e rows') val q → (q = none ∨ q = px []) →
      ∃ val oV, (Instr.slice t (.slice b rows.length cap) vlo vhi vmx).run P w = .ok val w ∧ AVR E w F ρ v val oV ∧ ∀ p, oV p = none ∨ oV p = px p := by
    intro o' rows' val q hv hr ha hq
    subst hv
    refine ⟨val, fun p => match p with | [] => q | _ => none, hr, .one _ _ _ ha fun p hp => ?_, fun p => ?_⟩
    · cases p with
      | nil => exact absurd rfl hp
      | cons => rfl
    · cases p with
      | nil => exact hq
      | cons => exact .inl rfl
  cases lo with
  | none => cases hi with
    | none => cases mx with
      | none =>
        simp only [sliceRK, Option.some.injEq] at h
        have hr := run_slice_of hu hsz (b := b) (b2 rfl rfl rfl)
        have := drop_rel G (l := 0) hx1 hcap he (Nat.zero_le _)
        have e0 : dropN rows 0 = rows := by rw [dropN_eq]; rfl
        rw [e0] at this
        exact fin h.symm hr this (.inr rfl)
      | some z => simp [sliceRK] at h
    | some y => cases mx with
      | none =>
        simp only [sliceRK] at h
        cases hy : asI y with
        | none => simp [hy] at h
        | some n =>
          simp only [hy] at h
          obtain ⟨hb, h⟩ := cond_none_some h
          have hr := run_slice_of hu hsz (b := b) (b1 y rfl rfl rfl n hy hb)
          have hn := inB_nat hb
          have := sub_rel G (m := cap) (l := 0) hx1.inv_sl he (Nat.zero_le _) hn (by omega)
          rw [subL_zero] at this
          exact fin (Option.some.inj h).symm hr (.sl _ _ _ this) (.inl rfl)
      | some z =>
        simp only [sliceRK] at h
        cases hy : asI y with
        | none => simp [hy] at h
        | some n => cases hz : asI z with
          | none => simp [hy, hz] at h
          | some k =>
            simp only [hy, hz] at h
            obtain ⟨hb, h2⟩ := cond_none_some h
            obtain ⟨hnk, h3⟩ := cond_none_some h2
            have hnk : n = k := by simpa using hnk
            have hn : n.toNat ≤ rows.length := by rw [hnk]; exact inB_nat hb
            have hr := run_slice_of hu hsz (b := b) (b5 y z rfl rfl rfl n k hy hz hb hnk)
            have := sub_rel G (m := n.toNat) (l := 0) hx1.inv_sl he (Nat.zero_le _) hn (Nat.le_refl _)
            rw [subL_zero] at this
            exact fin (Option.some.inj h3).symm hr (.full _ _ _ _ this) (.inl rfl)
  | some x => cases hi with
    | none => cases mx with
      | none =>
        simp only [sliceRK] at h
        cases hy : asI x with
        | none => simp [hy] at h
        | some n =>
          simp only [hy] at h
          obtain ⟨hb, h⟩ := cond_none_some h
          have hr := run_slice_of hu hsz (b := b) (b3 x rfl rfl rfl n hy hb)
          exact fin (Option.some.inj h).symm hr (drop_rel G hx1 hcap he (inB_nat hb)) (.inr rfl)
      | some z => simp [sliceRK] at h
    | some y => cases mx with
      | none =>
        simp only [sliceRK] at h
        cases hx' : asI x with
        | none => simp [hx'] at h
        | some l => cases hy : asI y with
          | none => simp [hx', hy] at h
          | some n =>
            simp only [hx', hy] at h
            obtain ⟨hb, h2⟩ := cond_none_some h
            obtain ⟨hl, h3⟩ := cond_none_some h2
            have hr := run_slice_of hu hsz (b := b) (b4 x y rfl rfl rfl l n hx' hy hb hl)
            have := sub_rel G (m := cap) hx1.inv_sl he (inB_nat hl) (inB_nat hb) (by have := inB_nat hb; omega)
            exact fin (Option.some.inj h3).symm hr (.sl _ _ _ this) (.inl rfl)
      | some z =>
        simp only [sliceRK] at h
        cases hx' : asI x with
        | none => simp [hx'] at h
        | some l => cases hy : asI y with
          | none => simp [hx', hy] at h
          | some n => cases hz : asI z with
            | none => simp [hx', hy, hz] at h
            | some k =>
              simp only [hx', hy, hz] at h
              obtain ⟨hb, h2⟩ := cond_none_some h
              obtain ⟨hnk, h3⟩ := cond_none_some h2
              obtain ⟨hl, h4⟩ := cond_none_some h3
              have hnk : n = k := by simpa using hnk
              have hn : n.toNat ≤ rows.length := by rw [hnk]; exact inB_nat hb
              have hr := run_slice_of hu hsz (b := b) (b6 x y z rfl rfl rfl l n k hx' hy hz hb hnk hl)
              have := sub_rel G (m := n.toNat) hx1.inv_sl he (inB_nat hl) hn (Nat.le_refl _)
              exact fin (Option.some.inj h4).symm hr (.full _ _ _ _ this) (.inl rfl)

theorem sliceS_sound {t : TypeId} (hu : P.underlying t = some .string) {s : List UInt8} {lo hi : Option AV} {vlo vhi : Option Value} (hlo : OptR E w F ρ lo vlo) (hhi : OptR E w F ρ hi vhi) {v : AV} (h : sliceSK s lo hi some = some v) :
    ∃ val, (Instr.slice t (.string ⟨s.toArray⟩) vlo vhi none).run P w = .ok val w ∧ AVR E w F ρ v val (fun _ => none) := by
  have hsize : (⟨s.toArray⟩ : ByteArray).size = s.length := rfl
  obtain ⟨b1, b2, b3, b4, _, _⟩ := bounds_sound (P := P) (isS := false) (len := s.length) (cap := s.length) (mx := none) (vmx := none) hlo hhi trivial (Nat.le_refl _)
  have hext : ∀ l h, h ≤ s.length → (⟨s.toArray⟩ : ByteArray).extract l h = ⟨((s.take h).drop l).toArray⟩ := by
    intro l h hh
    apply ByteArray.ext
    simp [ByteArray.data_extract, List.extract_eq_take_drop, List.drop_take]
  have fin : ∀ l h r, h ≤ s.length → (Instr.sliceBounds false s.length s.length vlo vhi none).run P w = .ok (l, h, s.length) w → some (AV.one (.str r)) = some v → r = (s.take h).drop l →
      ∃ val, (Instr.slice t (.string ⟨s.toArray⟩) vlo vhi none).run P w = .ok val w ∧ AVR E w F ρ v val (fun _ => none) := by
    intro l k r hh hb hv hr
    cases hv
    refine ⟨_, run_sliceStr_of hu (l := l) (h := k) (m := s.length) (by rw [hsize]; exact hb), ?_⟩
    rw [hext _ _ hh, hr]
    exact .of (.str _)
  cases lo with
  | none => cases hi with
    | none => exact fin _ _ _ (Nat.le_refl _) (b2 rfl rfl rfl) h (by simp)
    | some y =>
      simp only [sliceSK] at h
      cases hy : asI y with
      | none => simp [hy] at h
      | some n =>
        simp only [hy] at h
        obtain ⟨hb, h⟩ := cond_none_some h
        exact fin _ _ _ (inB_nat hb) (b1 y rfl rfl rfl n hy hb) h (by simp [takeN_eq])
  | some x => cases hi with
    | none =>
      simp only [sliceSK] at h
      cases hy : asI x with
      | none => simp [hy] at h
      | some n =>
        simp only [hy] at h
        obtain ⟨hb, h⟩ := cond_none_some h
        exact fin _ _ _ (Nat.le_refl _) (b3 x rfl rfl rfl n hy hb) h (by simp [dropN_eq])
    | some y =>
      simp only [sliceSK] at h
      cases hx' : asI x with
      | none => simp [hx'] at h
      | some l => cases hy : asI y with
        | none => simp [hx', hy] at h
        | some n =>
          simp only [hx', hy] at h
          obtain ⟨hb, h2⟩ := cond_none_some h
          obtain ⟨hl, h3⟩ := cond_none_some h2
          exact fin _ _ _ (inB_nat hb) (b4 x y rfl rfl rfl l n hx' hy hb hl) h3 (by simp [subL, dropN_eq, takeN_eq])

end Go.Abs
