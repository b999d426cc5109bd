/-
  The library's Insert as the interpreter takes it.
-/
import Derived.Test.YtkfniijfenkocaaInsW
import Derived.Test.YtkfniijfenkocaaA31
import Derived.Test.YtkfniijfenkocaaTab
namespace Go.Proofs.Ytkfniijfenkocaa
open Go.Abs

theorem tyEL : ∃ te, E.tys 43 = some te ∧ te.size = 4 ∧ te.bytes ≤ 4096 := by
  have h : (E.tys 43).any (fun te => te.size == 4 && decide (te.bytes ≤ 4096)) = true := by kernel_rfl
  cases e : E.tys 43 with
  | none => rw [e] at h; cases h
  | some te =>
    rw [e] at h
    simp only [Option.any_some, Bool.and_eq_true, beq_iff_eq, decide_eq_true_eq] at h
    exact ⟨te, rfl, h.1, h.2⟩

theorem ins_core (G : Go.Abs.Good Try.prog E) {R : Places} {ρ : List Nat} {own : OI → Owner} {N : Nat} {st : St} {a : Act} {w : World} (h : Rel E R ρ own N st a w) {rows ys : List (List Cell)} {b i : Nat} (hb : nth st.blk b = some (.arr 43 rows))
    {vx : Value} {px : Owners} (hx : AVR E w (Go.Abs.Fn own R) ρ (.one (.msl 43 b rows.length)) vx px) (hi : i ≤ rows.length) (hy0 : 0 < ys.length) (hlim : rows.length + ys.length ≤ 4294967296)
    {vb voff vc : Nat} {gy : Nat → Value} {te : Ty} (he : E.tys 43 = some te) (hky : ∀ r ∈ ys, r.map Cell.kind = te.kinds)
    (hgy : ∀ (j : Nat) (hj : j < ys.flatten.length), Abs.cell w vb (voff + j) = some (gy j) ∧ CR E w (Go.Abs.Fn own R) ys.flatten[j] (gy j)) (hvb : ∀ B t, own (.self b) = some (B, t) → vb ≠ B) {dst : Option Nat} (hd : ∀ d, dst = some d → d < N) :
    Calls Try.prog 75 #[vx, .int .i64 i, .slice (some ⟨vb, voff, none⟩) ys.length vc] w fun e w' => ∃ val, e = .returned val ∧
      After E R ρ own N w (st.apply dst ⟨.one (.msl 43 (lenN st.blk) (rows.length + ys.length)), none, [(b, .dead)], [.arr 43 (insL rows ys i)], [b]⟩) (a.put dst val) w' := by
  obtain ⟨te', he', hsz, hby⟩ := tyEL
  rw [he] at he'
  cases he'
  have hT := G.ty 43 te he
  have hfly := flat_len (even_of hT.len hky)
  rw [hsz] at hfly
  let vs : List Value := (List.range (ys.length * 4)).map gy
  have hvl : vs.length = ys.length * 4 := by simp [vs]
  have hvs : ∀ (j : Nat) (hj : j < vs.length), Abs.cell w vb (voff + j) = some vs[j] := fun j hj => by
    simp only [vs, List.getElem_map, List.getElem_range]
    exact (hgy j (by omega)).1
  have hvr : ∀ (j : Nat) (hj : j < ys.flatten.length) (hj2 : j < vs.length), CR E w (Go.Abs.Fn own R) ys.flatten[j] vs[j] := fun j hj hj2 => by
    simp only [vs, List.getElem_map, List.getElem_range]
    exact (hgy j hj).2
  have h1v : ∀ v ∈ vs, v.oneCell' = true := fun v hv => by
    obtain ⟨j, hj, rfl⟩ := List.getElem_of_mem hv
    exact (hvr j (by omega) hj).oneCell
  have hs : Go.Abs.Src Try.prog E w (Go.Abs.Fn own R) te.size te.kinds (.slice (some ⟨vb, voff, none⟩) ys.length vc) ys vs := by
    refine ⟨fun w' => rfl, fun w' hw => ?_, hky, by omega, fun k h1 h2 => hvr k h1 h2⟩
    rw [hsz]
    simp only [Builtin.firstCells]
    exact run_loadCells w' ⟨vb, voff, none⟩ _ gy fun j hj => by
      rw [add_none]
      show Abs.cell w' vb (voff + j) = _
      rw [hw]
      exact (hgy j (by omega)).1
  have hend : ∀ val w', (Builtin.append_ #[23, 22] 23 #[vx, .slice (some ⟨vb, voff, none⟩) ys.length vc]).run Try.prog w = .ok val w' → i = rows.length →
      After E R ρ own N w (st.apply dst ⟨.one (.msl 43 (lenN st.blk) (rows.length + ys.length)), none, [(b, .dead)], [.arr 43 (insL rows ys i)], [b]⟩) (a.put dst val) w' := by
    intro val w' hr hin
    obtain ⟨val', w2, g1, g2⟩ := mapp_core (ty0 := 23) G h hx uS he hby uL (.inl ⟨_, rfl⟩) hb rfl hlim hs hd
    rw [g1] at hr
    cases hr
    have : insL rows ys i = rows ++ ys := by
      subst hin
      simp [insL]
    rw [this]
    exact g2
  rcases msl_case h hb he hx.get_one with ⟨rfl, rfl⟩ | ⟨B, cap, g, hB, hself, rfl, h0, hnc, hc63, hkr, hcold, hsp, hg⟩
  · have hi0 : i = 0 := by simpa using hi
    subst hi0
    obtain ⟨val, w2, g1, _⟩ := mapp_core (ty0 := 23) G h hx uS he hby uL (.inl ⟨_, rfl⟩) hb rfl hlim hs hd
    refine (ins_nil vb voff ys.length vc w hy0 g1).mono ?_
    rintro e w' ⟨rfl, rfl⟩
    exact ⟨val, rfl, hend _ _ g1 rfl⟩
  · have hflr := flat_len (even_of hT.len hkr)
    rw [hsz] at hflr hsp
    let cs : List Value := (List.range (rows.length * 4)).map g
    have hcl : cs.length = rows.length * 4 := by simp [cs]
    have hcs : ∀ (j : Nat) (hj : j < cs.length), Abs.cell w B j = some cs[j] := fun j hj => by
      simp only [cs, List.getElem_map, List.getElem_range]
      exact (hg j (by omega)).1
    have hcr : ∀ (j : Nat) (hj : j < rows.flatten.length) (hj2 : j < cs.length), CR E w (Go.Abs.Fn own R) rows.flatten[j] cs[j] := fun j hj hj2 => by
      simp only [cs, List.getElem_map, List.getElem_range]
      exact (hg j hj).2.2
    have h1c : ∀ v ∈ cs, v.oneCell' = true := fun v hv => by
      obtain ⟨j, hj, rfl⟩ := List.getElem_of_mem hv
      exact (hcr j (by omega) hj).oneCell
    have hvB := hvb _ _ hself
    by_cases hin : i = rows.length
    · subst hin
      obtain ⟨val, w2, g1, _⟩ := mapp_core (ty0 := 23) G h hx uS he hby uL (.inl ⟨_, rfl⟩) hb rfl hlim hs hd
      refine (ins_end B rows.length cap vb voff ys.length vc w hy0 hnc g1).mono ?_
      rintro e w' ⟨rfl, rfl⟩
      exact ⟨val, rfl, hend _ _ g1 rfl⟩
    · have hlt : i < rows.length := by omega
      have hka : ∀ r ∈ insL rows ys i, r.map Cell.kind = te.kinds := fun r hr => by
        unfold insL at hr
        rcases List.mem_append.1 hr with hr | hr
        · rcases List.mem_append.1 hr with hr | hr
          · exact hkr r (List.mem_of_mem_take hr)
          · exact hky r hr
        · exact hkr r (List.mem_of_mem_drop hr)
      have hev := even_of hT.len hkr
      rw [hsz] at hev
      have ft := flat_take i hev
      have fd := flat_drop i hev
      have ftl : (rows.take i).flatten.length = i * 4 := by rw [ft, List.length_take]; omega
      have fdl : (rows.drop i).flatten.length = (rows.length - i) * 4 := by rw [fd, List.length_drop]; omega
      have hil : (insL rows ys i).length = rows.length + ys.length := by simp [insL]; omega
      -- what lies in the three parts
      have parts : ∀ (w' : World) (B' : Nat) (F' : Places), Keeps w (Go.Abs.Fn own R) w' F' → (∀ j, Abs.cold w' B' j = false) →
          (∀ (j : Nat) (hj : j < i * 4), Abs.cell w' B' j = some (cs[j]'(by omega))) → (∀ (j : Nat) (hj : j < vs.length), Abs.cell w' B' (i * 4 + j) = some vs[j]) →
          (∀ (j : Nat) (hj : j < (rows.length - i) * 4), Abs.cell w' B' ((i + ys.length) * 4 + j) = some (cs[i * 4 + j]'(by omega))) →
          ∀ (k : Nat) (hk : k < (insL rows ys i).flatten.length), ∃ v, Abs.cell w' B' k = some v ∧ Abs.cold w' B' k = false ∧ CR E w' F' (insL rows ys i).flatten[k] v := by
        intro w' B' F' hK hc p1 p2 p3
        unfold insL
        refine two_parts' (two_parts' (fun k hk => ?_) fun k hk => ?_) fun k hk => ?_
        · have hk2 : k < i * 4 := by omega
          refine ⟨_, p1 k hk2, hc k, ?_⟩
          have : (rows.take i).flatten[k] = rows.flatten[k]'(by omega) := by simp only [ft, List.getElem_take]
          rw [this]
          exact (hcr k (by omega) (by omega)).keep hK
        · rw [ftl]
          exact ⟨_, p2 k (by omega), hc _, (hvr k hk (by omega)).keep hK⟩
        · have e1 : (rows.take i ++ ys).flatten.length = (i + ys.length) * 4 := by rw [List.flatten_append, List.length_append, ftl, hfly]; omega
          rw [e1]
          have hk2 : k < (rows.length - i) * 4 := by omega
          refine ⟨_, p3 k hk2, hc _, ?_⟩
          have : (rows.drop i).flatten[k] = rows.flatten[i * 4 + k]'(by omega) := by simp only [fd, List.getElem_drop]
          rw [this]
          exact (hcr _ (by omega) (by omega)).keep hK
      by_cases hroom : rows.length + ys.length ≤ cap
      · -- in place
        refine (ins_shift B rows.length cap i vb voff ys.length vc cs vs w hlt hy0 hroom hc63 hvB hcl hvl hcs hsp hvs h1c h1v hcold).mono ?_
        rintro e w' ⟨rfl, rfl⟩
        refine ⟨_, rfl, ?_⟩
        have hk1 : w.keptBut (Abs.setRow w.drew B ((i + ys.length) * 4) (cs.drop (i * 4))) (Abs.inT fun B' _ => B' = B) := Abs.setRow_kept (cs.drop (i * 4)) w.drew B _ _ fun _ _ => rfl
        have hk : w.keptBut (Abs.setRow (Abs.setRow w.drew B ((i + ys.length) * 4) (cs.drop (i * 4))) B (i * 4) vs) (Abs.inT fun B' _ => B' = B) := World.keptBut_trans hk1 (Abs.setRow_kept _ _ _ _ _ fun _ _ => rfl)
        have hdl : (cs.drop (i * 4)).length = (rows.length - i) * 4 := by rw [List.length_drop, hcl]; omega
        have hthere : ∀ j, j < cap * 4 → ∃ v, Abs.cell w.drew B j = some v := fun j hj => (hsp j hj).1
        have hcold' : ∀ j, Abs.cold (Abs.setRow (Abs.setRow w.drew B ((i + ys.length) * 4) (cs.drop (i * 4))) B (i * 4) vs) B j = false := fun j => by rw [Abs.setRow_cold, Abs.setRow_cold]; exact hcold j
        refine h.swap (B' := B) (s := some (B, 0)) hb hd hk (fun B' _ e => by rw [e]; exact hself) (fun B' t e => by cases e; exact ⟨rfl, .inl hself⟩) (fun hK => .of ?_) (fun hK => ?_)
        · rw [lenN_eq]
          refine .msl 43 _ _ te B cap (by rw [← h.rho]; exact nth_app_len ρ _) he (by omega) hroom hc63 fun j hj => hK.still _ _ ?_
          rw [hsz] at hj
          exact hsp j hj
        · refine .inr ⟨B, te, by rw [← h.rho]; exact nth_app_len ρ _, by simp only [ownSwap, if_true], fun j => by simp only [ownSwap, if_true], he, hka, ⟨(hK.still B 0 (hsp 0 (by omega))).1, hcold'⟩, ?_⟩
          refine parts _ B _ hK hcold' (fun j hj => ?_) (fun j hj => ?_) fun j hj => ?_
          · rw [Abs.setRow_other _ _ _ _ _ _ (by omega), Abs.setRow_other _ _ _ _ _ _ (by omega)]
            exact hcs j (by omega)
          · obtain ⟨v, hv⟩ := hthere (i * 4 + j) (by omega)
            refine Abs.setRow_same vs _ B _ j hj ?_
            have := Abs.kept_there hk1 (B := B) (j := i * 4 + j) (hsp _ (by omega))
            exact this.1
          · rw [Abs.setRow_other _ _ _ _ _ _ (by omega), Abs.setRow_same (cs.drop (i * 4)) _ B _ j (by omega) (hthere _ (by omega)), List.getElem_drop]
      · -- a new row
        obtain ⟨G0, ROW, hG, hG63, hRs, hRc, hcalls⟩ := ins_grow B rows.length cap i vb voff ys.length vc cs vs w hlt hy0 hnc (by omega) hlim hcl hvl hcs hvs h1c h1v
        refine hcalls.mono ?_
        rintro e w' ⟨rfl, rfl⟩
        refine ⟨_, rfl, ?_⟩
        have hdl : (cs.drop (i * 4)).length = (rows.length - i) * 4 := by rw [List.length_drop, hcl]; omega
        have hk0 : w.keptBut (w.alloc (.cells ROW 43)) (Abs.inT fun B' _ => B' = w.heap.size) := World.keptBut_alloc _ _ _
        have hk1 : (w.alloc (.cells ROW 43)).drew.keptBut (Abs.setRow (w.alloc (.cells ROW 43)).drew w.heap.size (i * 4) vs) (Abs.inT fun B' _ => B' = w.heap.size) := Abs.setRow_kept _ _ _ _ _ fun _ _ => rfl
        have hk2 : (Abs.setRow (w.alloc (.cells ROW 43)).drew w.heap.size (i * 4) vs).drew.keptBut (Abs.setRow (Abs.setRow (w.alloc (.cells ROW 43)).drew w.heap.size (i * 4) vs).drew w.heap.size ((i + ys.length) * 4) (cs.drop (i * 4))) (Abs.inT fun B' _ => B' = w.heap.size) := Abs.setRow_kept _ _ _ _ _ fun _ _ => rfl
        have hka' : w.keptBut (Abs.setRow (Abs.setRow (w.alloc (.cells ROW 43)).drew w.heap.size (i * 4) vs).drew w.heap.size ((i + ys.length) * 4) (cs.drop (i * 4))) (Abs.inT fun B' _ => B' = w.heap.size) :=
          World.keptBut_trans (World.keptBut_trans hk0 hk1) hk2
        have hk : w.keptBut (Abs.setRow (Abs.setRow (w.alloc (.cells ROW 43)).drew w.heap.size (i * 4) vs).drew w.heap.size ((i + ys.length) * 4) (cs.drop (i * 4))) (Abs.inT fun _ _ => False) := kept_low hka' fun B' off hB' e => by omega
        have hnew : ∀ j, j < G0 * 4 → (∃ v, Abs.cell (w.alloc (.cells ROW 43)).drew w.heap.size j = some v) ∧ Abs.cold (w.alloc (.cells ROW 43)).drew w.heap.size j = false := fun j hj =>
          ⟨⟨ROW[j]'(by omega), Abs.cell_new w ROW 43 j (by omega)⟩, Abs.cold_new w ROW 43 j⟩
        have hmid : ∀ j, j < G0 * 4 → (∃ v, Abs.cell (Abs.setRow (w.alloc (.cells ROW 43)).drew w.heap.size (i * 4) vs).drew w.heap.size j = some v) ∧ Abs.cold (Abs.setRow (w.alloc (.cells ROW 43)).drew w.heap.size (i * 4) vs).drew w.heap.size j = false := fun j hj => Abs.kept_there hk1 (hnew j hj)
        have hfin : ∀ j, j < G0 * 4 → (∃ v, Abs.cell (Abs.setRow (Abs.setRow (w.alloc (.cells ROW 43)).drew w.heap.size (i * 4) vs).drew w.heap.size ((i + ys.length) * 4) (cs.drop (i * 4))) w.heap.size j = some v) ∧ Abs.cold (Abs.setRow (Abs.setRow (w.alloc (.cells ROW 43)).drew w.heap.size (i * 4) vs).drew w.heap.size ((i + ys.length) * 4) (cs.drop (i * 4))) w.heap.size j = false := fun j hj => Abs.kept_there hk2 (hmid j hj)
        have hcold' : ∀ j, Abs.cold (Abs.setRow (Abs.setRow (w.alloc (.cells ROW 43)).drew w.heap.size (i * 4) vs).drew w.heap.size ((i + ys.length) * 4) (cs.drop (i * 4))) w.heap.size j = false := fun j => by
          rw [Abs.setRow_cold]
          show Abs.cold (Abs.setRow (w.alloc (.cells ROW 43)).drew w.heap.size (i * 4) vs) w.heap.size j = false
          rw [Abs.setRow_cold]
          exact Abs.cold_new w ROW 43 j
        have hbig : w.heap.size < (Abs.setRow (Abs.setRow (w.alloc (.cells ROW 43)).drew w.heap.size (i * 4) vs).drew w.heap.size ((i + ys.length) * 4) (cs.drop (i * 4))).heap.size := cell_lt (hfin 0 (by omega)).1.choose_spec
        refine h.swap (B' := w.heap.size) (s := some (w.heap.size, 0)) hb hd hk (fun _ _ h => h.elim) (fun B' t e => by cases e; exact ⟨rfl, .inr ⟨Nat.le_refl _, hbig⟩⟩) (fun hK => .of ?_) (fun hK => ?_)
        · rw [lenN_eq]
          refine .msl 43 _ _ te w.heap.size G0 (by rw [← h.rho]; exact nth_app_len ρ _) he (by omega) hG hG63 fun j hj => ?_
          rw [hsz] at hj
          exact hfin j hj
        · refine .inr ⟨w.heap.size, te, by rw [← h.rho]; exact nth_app_len ρ _, by simp only [ownSwap, if_true], fun j => by simp only [ownSwap, if_true], he, hka, ⟨(hfin 0 (by omega)).1, hcold'⟩, ?_⟩
          refine parts _ _ _ hK hcold' (fun j hj => ?_) (fun j hj => ?_) fun j hj => ?_
          · rw [Abs.setRow_other _ _ _ _ _ _ (by omega)]
            show Abs.cell (Abs.setRow (w.alloc (.cells ROW 43)).drew w.heap.size (i * 4) vs) w.heap.size j = _
            rw [Abs.setRow_other _ _ _ _ _ _ (by omega)]
            have e1 : Abs.cell (w.alloc (.cells ROW 43)).drew w.heap.size j = some (ROW[j]'(by omega)) := Abs.cell_new w ROW 43 j (by omega)
            rw [e1]
            have := hRc j hj
            rw [Array.getElem?_eq_getElem (by omega), List.getElem?_eq_getElem (by omega)] at this
            exact this
          · rw [Abs.setRow_other _ _ _ _ _ _ (by omega)]
            show Abs.cell (Abs.setRow (w.alloc (.cells ROW 43)).drew w.heap.size (i * 4) vs) w.heap.size (i * 4 + j) = _
            exact Abs.setRow_same vs _ _ _ j hj (hnew _ (by omega)).1
          · rw [Abs.setRow_same (cs.drop (i * 4)) _ _ _ j (by omega) (hmid _ (by omega)).1, List.getElem_drop]

theorem self_zero {R : Places} {ρ : List Nat} {own : OI → Owner} {N : Nat} {st : St} {a : Act} {w : World} (h : Rel E R ρ own N st a w) {k : Nat} {e : TypeId} {rows : List (List Cell)} (hb : nth st.blk k = some (.arr e rows)) {B t : Nat} (ho : own (.self k) = some (B, t)) : t = 0 := by
  have hbr := h.blk k
  rw [hb] at hbr
  rcases hbr with ⟨_, h1, _⟩ | ⟨B', te, _, h1, _⟩
  · rw [h1] at ho; cases ho
  · rw [h1] at ho; cases ho; rfl

theorem okIns_of {n : Nat} {i : Int} {rows ys : List (List Cell)} (h : okIns n i rows ys = true) : n = rows.length ∧ 0 ≤ i ∧ i ≤ rows.length ∧ 0 < ys.length ∧ rows.length + ys.length ≤ 4294967296 := by
  unfold okIns at h
  simp only [Bool.and_eq_true, decide_eq_true_eq] at h
  refine ⟨Nat.eq_of_beq_eq_true h.1, h.2.1, h.2.2.1, h.2.2.2.1, ?_⟩
  have := h.2.2.2.2
  unfold fits LIM at this
  exact Nat.le_of_ble_eq_true this

theorem cIns : PrimOk Try.prog E 75 (primIns 43) := by
  have G : Go.Abs.Good Try.prog E := good
  have hcb : Callable Try.prog 75 := ⟨Try.f75, Try.func75, of_decide_eq_true (by kernel_rfl), by kernel_rfl⟩
  obtain ⟨te, he, hsz, hby⟩ := tyEL
  intro args blk vs bs h
  refine ⟨hcb, fun R ρ own vals w hl ho hrel => ?_⟩
  unfold primIns at h
  split at h
  · rename_i e n i e2 ys e3 rows
    rcases cond_some h with ⟨h1, g⟩ | ⟨_, g⟩
    · rcases cond_some g with ⟨h2, g2⟩ | ⟨_, g2⟩
      · simp only [Bool.and_eq_true] at h1
        have q1 := Nat.eq_of_beq_eq_true h1.1
        have q2 := Nat.eq_of_beq_eq_true h1.2.1
        have q3 := Nat.eq_of_beq_eq_true h1.2.2
        subst q1 q2 q3
        obtain ⟨hn, hi0, hi1, hy0, hlim⟩ := okIns_of h2
        subst hn
        simp only [Option.some.injEq, Prod.mk.injEq] at g2
        obtain ⟨rfl, rfl⟩ := g2
        obtain ⟨vx, vi, vy, rfl⟩ : ∃ vx vi vy, vals = [vx, vi, vy] := by
          match vals, hl with
          | [a, b, c], _ => exact ⟨a, b, c, rfl⟩
        have f0 := hrel.fr 0
        have f1 := hrel.fr 1
        have f2 := hrel.fr 2
        have hvi : vi = .int .i64 i := f1.get_int
        subst hvi
        obtain ⟨k, rfl⟩ : ∃ k : Nat, i = k := ⟨i.toNat, by omega⟩
        have hsl : ∃ vb voff vc, ∃ gy : Nat → Value, vy = .slice (some ⟨vb, voff, none⟩) ys.length vc ∧ (∀ r ∈ ys, r.map Cell.kind = te.kinds) ∧ (∀ (j : Nat) (hj : j < ys.flatten.length), (Abs.cell w vb (voff + j) = some (gy j) ∧ ¬ Go.Abs.Fn own R vb (voff + j)) ∧ CR E w (Go.Abs.Fn own R) ys.flatten[j] (gy j)) := by
          have := f2.get_one
          change AR E w (Go.Abs.Fn own R) ρ (.sl false 43 ys) vy (own (.tmp 2 [])) at this
          generalize own (.tmp 2 []) = q at this
          cases this with
          | sl _ _ _ hc =>
            cases hc with
            | empty => simp at hy0
            | slice _ _ te' B off cap g he' hk hc hm hr =>
              rw [he] at he'
              cases he'
              exact ⟨B, off, cap, g, rfl, hk, fun j hj => ⟨hm j hj, hr j hj⟩⟩
        obtain ⟨vb, voff, vc, gy, rfl, hky, hgy⟩ := hsl
        have hfly : 0 < ys.flatten.length := by
          have := flat_len (even_of (G.ty _ _ he).len hky)
          rw [this, hsz]
          omega
        refine (ins_core G hrel (b := 0) (i := k) rfl f0 (by omega) hy0 hlim he hky (fun j hj => ⟨(hgy j hj).1.1, (hgy j hj).2⟩) (fun B t hB hvB => ?_) (dst := some 0) (fun d hd => by cases hd; simp)).mono ?_
        · have ht := self_zero hrel rfl hB
          subst ht
          subst hvB
          exact (hgy 0 hfly).1.2 (.inr ⟨_, _, hB, Nat.zero_le _⟩)
        · rintro e w' ⟨val, rfl, hA⟩
          rw [Int.toNat_natCast]
          exact Returned.of_after hA rfl rfl
      · cases g2
    · cases g
  · rename_i e n i e2 m e3 rows e4 ys
    rcases cond_some h with ⟨h1, g⟩ | ⟨_, g⟩
    · rcases cond_some g with ⟨hm, g2⟩ | ⟨_, g2⟩
      · rcases cond_some g2 with ⟨h2, g3⟩ | ⟨_, g3⟩
        · simp only [Bool.and_eq_true] at h1
          have q1 := Nat.eq_of_beq_eq_true h1.1
          have q2 := Nat.eq_of_beq_eq_true h1.2.1
          have q3 := Nat.eq_of_beq_eq_true h1.2.2.1
          have q4 := Nat.eq_of_beq_eq_true h1.2.2.2
          have qm := Nat.eq_of_beq_eq_true hm
          subst q1 q2 q3 q4 qm
          obtain ⟨hn, hi0, hi1, hy0, hlim⟩ := okIns_of h2
          subst hn
          simp only [Option.some.injEq, Prod.mk.injEq] at g3
          obtain ⟨rfl, rfl⟩ := g3
          obtain ⟨vx, vi, vy, rfl⟩ : ∃ vx vi vy, vals = [vx, vi, vy] := by
            match vals, hl with
            | [a, b, c], _ => exact ⟨a, b, c, rfl⟩
          have f0 := hrel.fr 0
          have f1 := hrel.fr 1
          have f2 := hrel.fr 2
          have hvi : vi = .int .i64 i := f1.get_int
          subst hvi
          obtain ⟨k, rfl⟩ : ∃ k : Nat, i = k := ⟨i.toNat, by omega⟩
          have hms := msl_case hrel (b := 1) rfl he f2.get_one
          rcases hms with ⟨rfl, _⟩ | ⟨vb, vc, gy, hvB, hself, hvy, _, _, _, hky, hcold, _, hgy⟩
          · simp at hy0
          · change vy = _ at hvy
            subst hvy
            refine (ins_core G hrel (b := 0) (i := k) rfl f0 (by omega) hy0 hlim he hky (voff := 0) (gy := gy) (fun j hj => ⟨by rw [Nat.zero_add]; exact (hgy j hj).1, (hgy j hj).2.2⟩) (fun B t hB hvB => ?_) (dst := some 0) (fun d hd => by cases hd; simp)).mono ?_
            · subst hvB
              have := hrel.inj _ _ _ _ _ hself hB
              cases this
            · rintro e w' ⟨val, rfl, hA⟩
              rw [Int.toNat_natCast]
              exact Returned.of_after hA rfl rfl
        · cases g3
      · cases g2
    · cases g
  · cases h

end Go.Proofs.Ytkfniijfenkocaa
