/-
  The program's clone of a list of updates, walked by hand: a new row of elements, each with a new row of effects.
-/
import Derived.Test.YtkfniijfenkocaaA31
import Derived.Test.YtkfniijfenkocaaProg
import Derived.Shelf.Spec.SlicesInsertGrow
import Derived.LoopTactic
import Derived.OwnWalk
import Derived.Test.YtkfniijfenkocaaTab
namespace Go.Proofs.Ytkfniijfenkocaa
open Go.Abs Go.Shelf Go.RowKit Go.Lib
open Go.Abs

theorem run_copyC {P : Program} (w : World) (dT sT ty elem : TypeId) (s B o dLen dCap ab ao sLen sCap n : Nat) (cs : List Value) (hu : P.underlying dT = some (.slice elem)) (hz : ∀ w, (sizeOf elem).run P w = .ok s w)
    (hn : n = Nat.min sLen dLen) (hl : cs.length = n * s) (hsrc : ∀ (j : Nat) (hj : j < cs.length), Abs.cell w ab (ao + j) = some cs[j])
    (hc : ∀ j, j < cs.length → (∃ u, Abs.cell w B (o + j) = some u) ∧ Abs.cold w B (o + j) = false) (h1 : ∀ v ∈ cs, v.oneCell' = true) :
    (Builtin.copy_ #[dT, sT] ty #[.slice (some ⟨B, o, none⟩) dLen dCap, .slice (some ⟨ab, ao, none⟩) sLen sCap]).run P w = .ok (goInt n) (Abs.setRow w B o cs) := by
  have hld : (loadCells ⟨ab, ao, none⟩ (n * s)).run P w = .ok cs.toArray w := by
    have := run_loadCells (P := P) w ⟨ab, ao, none⟩ (n * s) (fun j => cs.getD j undef) (fun j hj => by
      have hj' : j < cs.length := by omega
      rw [add_none, getD_of hj']
      exact hsrc j hj')
    rw [this]
    congr 1
    apply Array.ext'
    simp only []
    apply List.ext_getElem
    · simp [hl]
    · intro j h1 h2
      have : j < cs.length := by omega
      simp [this]
  have hst := run_storeCells (P := P) cs w B o 0 h1 (by simpa using hc)
  rw [Nat.add_zero] at hst
  simp [Builtin.copy_, run_underlying hu, Builtin.lenOf, Builtin.firstCells, hz, ← hn, hld, hst]

/-- nothing to copy -/
theorem run_copyC0 {P : Program} (w : World) (dT sT ty elem : TypeId) (s B : Nat) (sa : Option Addr) (sCap : Nat) (hu : P.underlying dT = some (.slice elem)) (hz : ∀ w, (sizeOf elem).run P w = .ok s w) :
    (Builtin.copy_ #[dT, sT] ty #[.slice (some ⟨B, 0, none⟩) 0 0, .slice sa 0 sCap]).run P w = .ok (goInt (0 : Nat)) w := by
  cases sa with
  | none => simp [Builtin.copy_, run_underlying hu, Builtin.lenOf, Builtin.firstCells, hz, storeCells]
  | some a => simp [Builtin.copy_, run_underlying hu, Builtin.lenOf, Builtin.firstCells, hz, storeCells, loadCells, loadCellsFrom]

theorem wpList_value_run {P : Program} (w : World) {ops : Array Oper} {rest : List Oper} {o : Oper} {a : Act} {Q : Exit → Act → World → Prop} (hgd : o.guard = none) {v' : Value} {w' : World}
    (hr : (execOp a.eval o).run P w = .ok (.value v') w') (h : wpList P ops Q rest (a.put o.dst v') w') : wpList P ops Q (o :: rest) a w :=
  wpList_plain hgd fun _ hK => by
    unfold Oper.wp
    simp only [hr]
    exact hK _ _ h

theorem wpList_load_runC {P : Program} (w : World) {ops : Array Oper} {rest : List Oper} {o : Oper} {a : Act} {Q : Exit → Act → World → Prop} (hgd : o.guard = none) (x : Operand) (t : TypeId) (ho : o.op = .load t x) (p : Value) (hx : a.eval x = p)
    {v' : Value} {w' : World} (hr : (Instr.loadAt t p).run P w = .ok v' w') (h : wpList P ops Q rest (a.put o.dst v') w') : wpList P ops Q (o :: rest) a w :=
  wpList_value_run w hgd (by simp [execOp, ho, hx, hr, Result.andThen]) h

theorem wpList_alloc_runC {P : Program} (w : World) {ops : Array Oper} {rest : List Oper} {o : Oper} {a : Act} {Q : Exit → Act → World → Prop} (hgd : o.guard = none) (t : TypeId) (ho : o.op = .alloc t)
    {v' : Value} {w' : World} (hr : (Instr.alloc t true (.tuple #[])).run P w = .ok v' w') (h : wpList P ops Q rest (a.put o.dst v') w') : wpList P ops Q (o :: rest) a w :=
  wpList_value_run w hgd (by simp [execOp, ho, hr, Result.andThen]) h

theorem wpList_make_runC {P : Program} (w : World) {ops : Array Oper} {rest : List Oper} {o : Oper} {a : Act} {Q : Exit → Act → World → Prop} (hgd : o.guard = none) (l c : Operand) (t : TypeId)
    (ho : o.op = .makeSlice t l c) (v u : Value) (hd : a.eval l = v) (hs : a.eval c = u) {v' : Value} {w' : World}
    (hr : (Instr.makeSlice t v u).run P w = .ok v' w') (h : wpList P ops Q rest (a.put o.dst v') w') : wpList P ops Q (o :: rest) a w :=
  wpList_value_run w hgd (by simp [execOp, ho, hd, hs, hr, Result.andThen]) h

theorem wpList_store_runC {P : Program} (w : World) {ops : Array Oper} {rest : List Oper} {o : Oper} {a : Act} {Q : Exit → Act → World → Prop} (hgd : o.guard = none) (hds : o.dst = none) (x y : Operand) (t : TypeId) (ho : o.op = .store t x y) (p v : Value) (hx : a.eval x = p) (hy : a.eval y = v)
    {w' : World} (hr : (Instr.storeAt t p v).run P w = .ok () w') (h : wpList P ops Q rest a w') : wpList P ops Q (o :: rest) a w :=
  wpList_plain hgd fun _ hK => by
    unfold Oper.wp
    simp [execOp, ho, hx, hy, hr, Result.andThen]
    refine hK _ _ ?_
    rw [hds]
    exact h

theorem run_storeC {E : Env} (G : Go.Abs.Good Try.prog E) {t : TypeId} {ty : Ty} (ht : E.tys t = some ty) {w : World} {B o : Nat} {val : Value} (hlen : val.cells.size = ty.size) (hone : ∀ x ∈ val.cells.toList, x.oneCell' = true)
    (hc : ∀ j, j < ty.size → (∃ u, Abs.cell w B (o + j) = some u) ∧ Abs.cold w B (o + j) = false) : (Instr.storeAt t (.pointer (some ⟨B, o, none⟩)) val).run Try.prog w = .ok () (Abs.setRow w B o val.cells.toList) := by
  have hT := G.ty t ty ht
  have hrun := run_storeCells (P := Try.prog) val.cells.toList w B o 0 hone (fun j hj => by
    rw [Nat.add_zero]
    exact hc j (by simpa [hlen] using hj))
  simp only [Instr.storeAt, Instr.sureAddr, Sem.run_bind, Sem.run_pure, Result.andThen_ok, storeVar, hT.run_size]
  rw [if_neg (by rw [hlen]; simp)]
  exact hrun

theorem run_allocC {E : Env} (G : Go.Abs.Good Try.prog E) {t : TypeId} {ty : Ty} (ht : E.tys t = some ty) (w : World) :
    ∃ z : Value, z.cells.size = ty.size ∧ (Instr.alloc t true (.tuple #[])).run Try.prog w = .ok (.pointer (some ⟨w.heap.size, 0, none⟩)) (w.alloc (.cells z.cells t)) := by
  have hT := G.ty t ty ht
  obtain ⟨z, hz, hz2⟩ := hT.run_zero (w := w)
  obtain ⟨hs, _⟩ := zero_cell hz2
  refine ⟨z, by rw [hs, hT.len], ?_⟩
  simp only [Instr.alloc, Sem.run_bind, hz, Result.andThen_ok, newVar, run_newRow, Sem.run_pure]

/-- what lies elsewhere stays -/
theorem keepsOld {w w' : World} {F : Places} (h : w.keptBut w' (Abs.inT fun _ _ => False)) {B : Nat} (hB : w.heap.size ≤ B) : Keeps w F w' (fun b o => F b o ∨ b = B) :=
  ⟨fun b i v j hv => kept_cold h hv j, fun b off v hc hF => by
    have hl := Abs.cell_lt hc
    refine ⟨?_, ?_⟩
    · have := h.cell (b := b) (off := off) hl (fun hm => hm)
      rw [Abs.cell, this]; exact hc
    · rintro (hR | e)
      · exact hF hR
      · omega, fun b j hh => kept_there h hh⟩

theorem keepsBut {w w' : World} {F : Places} {B : Nat} (h : w.keptBut w' (Abs.inT fun b _ => b = B)) : Keeps w (fun b o => F b o ∨ b = B) w' (fun b o => F b o ∨ b = B) :=
  ⟨fun b i v j hv => kept_cold h hv j, fun b off v hc hF => by
    have hl := Abs.cell_lt hc
    refine ⟨?_, hF⟩
    have := h.cell (b := b) (off := off) hl (fun hm => hF (.inr hm))
    rw [Abs.cell, this]; exact hc, fun b j hh => kept_there h hh⟩


theorem u22 : Try.prog.underlying 22 = some (.slice 43) := by kernel_rfl
theorem u41 : Try.prog.underlying 41 = some (.slice 61) := by kernel_rfl
theorem z43 (w : World) : (sizeOf 43).run Try.prog w = .ok 4 w := by kernel_rfl
theorem z61 (w : World) : (sizeOf 61).run Try.prog w = .ok 5 w := by kernel_rfl
theorem i43 : ∃ i z, Try.prog.info? 43 = some i ∧ i.zero = some z ∧ i.size = 4 ∧ i.bytes ≤ 4096 ∧ z.cells.size = 4 := by
  have h : (Try.prog.info? 43).any (fun i => i.size == 4 && (decide (i.bytes ≤ 4096) && (match i.zero with | some z => z.cells.size == 4 | none => false))) = true := by kernel_rfl
  cases e : Try.prog.info? 43 with
  | none => rw [e] at h; cases h
  | some i =>
    rw [e] at h
    simp only [Option.any_some, Bool.and_eq_true, beq_iff_eq, decide_eq_true_eq] at h
    obtain ⟨h1, h2, h3⟩ := h
    cases hz : i.zero with
    | none => rw [hz] at h3; cases h3
    | some z =>
      rw [hz] at h3
      exact ⟨i, z, rfl, hz, h1, h2, by simpa using h3⟩
theorem i61 : ∃ i z, Try.prog.info? 61 = some i ∧ i.zero = some z ∧ i.size = 5 ∧ i.bytes ≤ 4096 ∧ z.cells.size = 5 := by
  have h : (Try.prog.info? 61).any (fun i => i.size == 5 && (decide (i.bytes ≤ 4096) && (match i.zero with | some z => z.cells.size == 5 | none => false))) = true := by kernel_rfl
  cases e : Try.prog.info? 61 with
  | none => rw [e] at h; cases h
  | some i =>
    rw [e] at h
    simp only [Option.any_some, Bool.and_eq_true, beq_iff_eq, decide_eq_true_eq] at h
    obtain ⟨h1, h2, h3⟩ := h
    cases hz : i.zero with
    | none => rw [hz] at h3; cases h3
    | some z =>
      rw [hz] at h3
      exact ⟨i, z, rfl, hz, h1, h2, by simpa using h3⟩

set_option maxHeartbeats 4000000 in
set_option maxRecDepth 100000 in
/-- the empty list -/
theorem clone_nil (a : Option Addr) (cap : Nat) (w : World) : Calls Try.prog 52 #[.slice a 0 cap] w fun e w' => e = .returned (.slice none 0 0) ∧ w' = w := by
  have mixed : Try.prog.follows .mixedOrders = true := by kernel_rfl
  go_enter Try.func52, Try.ntmps52
  go_wp2
  all_goals (go_ret; exact ⟨rfl, rfl⟩)

set_option maxHeartbeats 4000000 in
set_option maxRecDepth 100000 in
theorem clone_walk {E : Env} (G : Go.Abs.Good Try.prog E) {te te2 : Ty} (he : E.tys 43 = some te) (hs : te.size = 4) (hag : te.desc.isAgg = true) (he2 : E.tys 61 = some te2) (hs2 : te2.size = 5) {te3 : Ty} (he3 : E.tys 41 = some te3) (hs3 : te3.size = 1) (hag3 : te3.desc.isAgg = false)
    (lb lo n cap : Nat) (w : World) (F : Places) (rows : Abs.Rows) (gx : Nat → Value) (hn : 0 < n) (hlim : n ≤ 4294967296) (hlen : rows.flatten.length = n * 4) (hF : ∀ b o, F b o → b < w.heap.size)
    (hx : ∀ (j : Nat) (hj : j < rows.flatten.length), Abs.cell w lb (lo + j) = some (gx j) ∧ CR E w F rows.flatten[j] (gx j))
    (hsl : ∀ k, k < n → ∃ rs, rows.flatten[k * 4 + 3]? = some (.slice 61 rs) ∧ rs.length ≤ 4294967296) :
    Calls Try.prog 52 #[.slice (some ⟨lb, lo, none⟩) n cap] w fun e w' => e = .returned (.slice (some ⟨w.heap.size, 0, none⟩) n n) ∧ w.keptBut w' (Abs.inT fun _ _ => False) ∧ (∀ j, Abs.cold w' w.heap.size j = false) ∧
      ∀ (j : Nat) (hj : j < rows.flatten.length), ∃ v, Abs.cell w' w.heap.size j = some v ∧ CR E w' (fun b o => F b o ∨ b = w.heap.size) rows.flatten[j] v := by
  have mixed : Try.prog.follows .mixedOrders = true := by kernel_rfl
  have hz1 : ¬ ((n : Int) = 0) := by omega
  have h1c : ∀ j, j < rows.flatten.length → (gx j).oneCell' = true := fun j hj => (hx j hj).2.oneCell
  obtain ⟨i0, z0, hi0, hz0, hzs, hzb, hzc⟩ := i43
  obtain ⟨B, hB⟩ : ∃ B, B = w.heap.size := ⟨_, rfl⟩
  have hmk : (Instr.makeSlice 22 (.int .i64 n) (.int .i64 n)).run Try.prog w = .ok (.slice (some ⟨B, 0, none⟩) n n) (w.alloc (.cells (madeCells z0.cells (n * 4)) 43)) := by
    have hb : (i0.bytes : Int) * (n : Int) ≤ 281474976710656 := by
      have h3 : i0.bytes * n ≤ 4096 * 4294967296 := Nat.mul_le_mul hzb hlim
      have : ((i0.bytes * n : Nat) : Int) ≤ 281474976710656 := by omega
      rwa [Int.natCast_mul] at this
    have := run_make (P := Try.prog) w 22 43 i0 z0 u22 hi0 hz0 .i64 .i64 n n (by omega) (by omega) hb (by omega)
    rw [hB]
    simpa [hzs] using this
  obtain ⟨W1, hW1⟩ : ∃ W1, W1 = w.alloc (.cells (madeCells z0.cells (n * 4)) 43) := ⟨_, rfl⟩
  rw [← hW1] at hmk
  have hms : (madeCells z0.cells (n * 4)).size = n * 4 := size_madeCells _ _
  have hk1 : w.keptBut W1 (Abs.inT fun _ _ => False) := by rw [hW1]; exact World.keptBut_alloc _ _ _
  have hnew1 : ∀ j, j < n * 4 → ∃ u, Abs.cell W1 B j = some u := fun j hj => by
    rw [hW1, hB]
    exact ⟨_, Abs.cell_new w _ 43 j (by omega)⟩
  have hcold1 : ∀ j, Abs.cold W1 B j = false := fun j => by rw [hW1, hB]; exact Abs.cold_new w _ 43 j
  let cs : List Value := (List.range (n * 4)).map gx
  have hcl : cs.length = n * 4 := by simp [cs]
  have hlbw : lb < w.heap.size := Abs.cell_lt (hx 0 (by omega)).1
  have hcp : ∀ ty, (Builtin.copy_ #[22, 22] ty #[.slice (some ⟨B, 0, none⟩) n n, .slice (some ⟨lb, lo, none⟩) n cap]).run Try.prog W1 = .ok (goInt n) (Abs.setRow W1 B 0 cs) := fun ty =>
    run_copyC W1 22 22 ty 43 4 B 0 n n lb lo n cap n cs u22 z43 (by simp [Nat.min_def]) hcl (fun j hj => by
      simp only [cs, List.getElem_map, List.getElem_range]
      have := (hx j (by omega)).1
      rw [← this]
      exact hk1.cell (b := lb) (off := lo + j) hlbw (fun hm => hm)) (fun j hj => by rw [Nat.zero_add]; exact ⟨hnew1 j (by omega), hcold1 j⟩) (fun v hv => by
        obtain ⟨j, hj, rfl⟩ := List.getElem_of_mem hv
        simp only [cs, List.getElem_map, List.getElem_range]
        exact h1c j (by omega))
  obtain ⟨W2, hW2⟩ : ∃ W2, W2 = Abs.setRow W1 B 0 cs := ⟨_, rfl⟩
  rw [← hW2] at hcp
  have hk2 : w.keptBut W2 (Abs.inT fun _ _ => False) := by
    rw [hW2]
    have h1 : w.keptBut W1 (Abs.inT fun b _ => b = B) := World.keptBut_mono (inT_mono fun _ _ h => h.elim) hk1
    exact kept_low (World.keptBut_trans h1 (Abs.setRow_kept cs W1 B 0 (fun b _ => b = B) fun _ _ => rfl)) fun b off hb e => by omega
  have hcold2 : ∀ j, Abs.cold W2 B j = false := fun j => by rw [hW2, Abs.setRow_cold]; exact hcold1 j
  have hcells2 : ∀ (j : Nat) (hj : j < rows.flatten.length), ∃ v, Abs.cell W2 B j = some v ∧ CR E W2 (fun b o => F b o ∨ b = B) rows.flatten[j] v := fun j hj => by
    refine ⟨gx j, ?_, (hx j hj).2.keep (keepsOld hk2 (by omega))⟩
    have := Abs.setRow_same cs W1 B 0 j (by omega) (by rw [Nat.zero_add]; exact hnew1 j (by omega))
    rw [Nat.zero_add] at this
    rw [hW2, this]
    simp [cs]
  rw [← hB]
  have hge : w.heap.size ≤ B := Nat.le_of_eq hB.symm
  clear hW1 hW2 hB hk1 hnew1 hcold1
  go_enter Try.func52, Try.ntmps52
  go_wp2_with (first | (at_make; refine wpList_make_runC _ rfl _ _ 22 rfl _ _ rfl rfl hmk ?_) | (at_builtin; refine wpList_copy_runI _ rfl _ _ 22 22 rfl _ _ rfl rfl (hcp _) ?_))
  go_loopw [17] (fun i wr => ∃ k : Nat, k ≤ n ∧ i = .int .i64 k ∧ w.keptBut wr (Abs.inT fun _ _ => False) ∧ (∀ j, Abs.cold wr B j = false) ∧
      ∀ (j : Nat) (hj : j < rows.flatten.length), ∃ v, Abs.cell wr B j = some v ∧ CR E wr (fun b o => F b o ∨ b = B) rows.flatten[j] v) (fun i _ => n - (RowKit.intOf i).toNat)
  case atStart => exact ⟨0, by omega, rfl, hk2, hcold2, hcells2⟩
  case round =>
    obtain ⟨k, hk, rfl, hkw, hcold, hcells⟩ := hrel
    by_cases hkn : k < n
    · have hj : ∀ q, q < 4 → k * 4 + q < rows.flatten.length := fun q hq => by omega
      have hsrc : ∀ q, q < 4 → Abs.cell wr lb (lo + k * 4 + q) = some (gx (k * 4 + q)) := fun q hq => by
        have := (hx (k * 4 + q) (hj q hq)).1
        rw [show lo + k * 4 + q = lo + (k * 4 + q) by omega, ← this]
        exact hkw.cell (b := lb) (off := lo + (k * 4 + q)) hlbw (fun hm => hm)
      obtain ⟨rs, hrs, hrl⟩ := hsl k hkn
      have hrg : rows.flatten[k * 4 + 3]'(hj 3 (by omega)) = .slice 61 rs := by
        have := List.getElem?_eq_some_iff.1 hrs
        exact this.2
      have hcr : CR E w F (.slice 61 rs) (gx (k * 4 + 3)) := by rw [← hrg]; exact (hx _ (hj 3 (by omega))).2
      obtain ⟨sa, sc, gy, hgx, hgy⟩ : ∃ (sa : Option Addr) (sc : Nat) (gy : Nat → Value), gx (k * 4 + 3) = .slice sa rs.length sc ∧ (rs = [] ∨ ∃ eb eo, sa = some ⟨eb, eo, none⟩ ∧ rs.length ≤ sc ∧ (∀ r ∈ rs, r.map Cell.kind = te2.kinds) ∧
          (∀ i, i < rs.flatten.length → Abs.cell w eb (eo + i) = some (gy i)) ∧ ∀ (i : Nat) (h : i < rs.flatten.length), CR E w F rs.flatten[i] (gy i)) := by
        generalize hv : gx (k * 4 + 3) = v at hcr
        cases hcr with
        | empty => exact ⟨_, _, fun _ => undef, rfl, .inl rfl⟩
        | slice _ _ te' eb eo cap' g he' hk' hc hm hr =>
          rw [he2] at he'
          cases he'
          exact ⟨_, _, g, rfl, .inr ⟨eb, eo, rfl, hc, hk', fun i hi => (hm i hi).1, hr⟩⟩
      -- the loop's own variable
      have hl1 : (Instr.loadAt 43 (.pointer (some ⟨lb, lo + k * 4, none⟩))).run Try.prog wr = .ok (.agg #[gx (k * 4), gx (k * 4 + 1), gx (k * 4 + 2), gx (k * 4 + 3)]) wr := by
        have := run_loadVar (P := Try.prog) G he (w := wr) (B := lb) (o := lo + k * 4) (g := fun i => gx (k * 4 + i)) (fun i hi => hsrc i (by omega))
        rw [this, hag, hs]
        rfl
      obtain ⟨z, hz, hal⟩ := run_allocC G he wr
      obtain ⟨b5, hb5⟩ : ∃ b5, b5 = wr.heap.size := ⟨_, rfl⟩
      obtain ⟨wa, hwa⟩ : ∃ wa, wa = wr.alloc (.cells z.cells 43) := ⟨_, rfl⟩
      have hn5 : ∀ j, j < 4 → (∃ u, Abs.cell wa b5 j = some u) ∧ Abs.cold wa b5 j = false := fun j hj => by
        rw [hwa, hb5]
        exact ⟨⟨_, Abs.cell_new wr _ 43 j (by omega)⟩, Abs.cold_new wr _ 43 j⟩
      let x4 : List Value := [gx (k * 4), gx (k * 4 + 1), gx (k * 4 + 2), gx (k * 4 + 3)]
      have hst1 : (Instr.storeAt 43 (.pointer (some ⟨b5, 0, none⟩)) (.agg #[gx (k * 4), gx (k * 4 + 1), gx (k * 4 + 2), gx (k * 4 + 3)])).run Try.prog wa = .ok () (Abs.setRow wa b5 0 x4) := by
        refine run_storeC G he (by rw [hs]; rfl) (fun v hv => ?_) (fun j hj => by rw [Nat.zero_add]; exact hn5 j (by omega))
        simp only [Value.cells, List.mem_cons, List.not_mem_nil, or_false] at hv
        rcases hv with rfl | rfl | rfl | rfl <;> exact h1c _ (by omega)
      obtain ⟨wb, hwb⟩ : ∃ wb, wb = Abs.setRow wa b5 0 x4 := ⟨_, rfl⟩
      rw [← hb5, ← hwa] at hal
      rw [← hwb] at hst1
      have kab : wr.keptBut wa (Abs.inT fun _ _ => False) := by rw [hwa]; exact World.keptBut_alloc _ _ _
      have kbb : wa.keptBut wb (Abs.inT fun b _ => b = b5) := by rw [hwb]; exact Abs.setRow_kept _ _ _ _ _ fun _ _ => rfl
      have kb : wr.keptBut wb (Abs.inT fun _ _ => False) := kept_low (World.keptBut_trans (World.keptBut_mono (inT_mono fun _ _ h => h.elim) kab) kbb) fun b off hb e => by omega
      have h53 : Abs.cell wb b5 3 = some (gx (k * 4 + 3)) := by
        have := Abs.setRow_same x4 wa b5 0 3 (by simp [x4]) (by rw [Nat.zero_add]; exact (hn5 3 (by omega)).1)
        rw [Nat.zero_add] at this
        rw [hwb, this]
        rfl
      have hcB : Abs.cell wr B (k * 4 + 3) ≠ none := by
        obtain ⟨v, hv, _⟩ := hcells _ (hj 3 (by omega))
        rw [hv]; simp
      have hBr : B < wr.heap.size := by
        obtain ⟨v, hv, _⟩ := hcells _ (hj 3 (by omega))
        exact Abs.cell_lt hv
      have hsb : wr.heap.size ≤ wb.heap.size := kb.size
      have hl2 : (Instr.loadAt 41 (.pointer (some ⟨b5, 3, none⟩))).run Try.prog wb = .ok (.slice sa rs.length sc) wb := by
        have := run_loadVar (P := Try.prog) G he3 (w := wb) (B := b5) (o := 3) (g := fun _ => gx (k * 4 + 3)) (fun i hi => by rw [hs3] at hi; rw [show 3 + i = 3 by omega]; exact h53)
        rw [this, hag3, ← hgx]
        rfl
      obtain ⟨i1, z1, hi1, hz1', hzs1, hzb1, hzc1⟩ := i61
      obtain ⟨b6, hb6⟩ : ∃ b6, b6 = wb.heap.size := ⟨_, rfl⟩
      have hmk1 : (Instr.makeSlice 41 (.int .i64 (rs.length : Nat)) (.int .i64 (rs.length : Nat))).run Try.prog wb = .ok (.slice (some ⟨b6, 0, none⟩) rs.length rs.length) (wb.alloc (.cells (madeCells z1.cells (rs.length * 5)) 61)) := by
        have hb : (i1.bytes : Int) * ((rs.length : Nat) : Int) ≤ 281474976710656 := by
          have h3 : i1.bytes * rs.length ≤ 4096 * 4294967296 := Nat.mul_le_mul hzb1 hrl
          have : ((i1.bytes * rs.length : Nat) : Int) ≤ 281474976710656 := by omega
          rwa [Int.natCast_mul] at this
        have := run_make (P := Try.prog) wb 41 61 i1 z1 u41 hi1 hz1' .i64 .i64 rs.length rs.length (by omega) (by omega) hb (by omega)
        rw [hb6]
        simpa [hzs1] using this
      obtain ⟨wc, hwc⟩ : ∃ wc, wc = wb.alloc (.cells (madeCells z1.cells (rs.length * 5)) 61) := ⟨_, rfl⟩
      rw [← hwc] at hmk1
      have hms1 : (madeCells z1.cells (rs.length * 5)).size = rs.length * 5 := size_madeCells _ _
      have kbc : wb.keptBut wc (Abs.inT fun _ _ => False) := by rw [hwc]; exact World.keptBut_alloc _ _ _
      have kc : wr.keptBut wc (Abs.inT fun _ _ => False) := World.keptBut_trans kb kbc
      have hn6 : ∀ j, j < rs.length * 5 → (∃ u, Abs.cell wc b6 j = some u) ∧ Abs.cold wc b6 j = false := fun j hj => by
        rw [hwc, hb6]
        exact ⟨⟨_, Abs.cell_new wb _ 61 j (by omega)⟩, Abs.cold_new wb _ 61 j⟩
      have hcBc : (∃ u, Abs.cell wc B (k * 4 + 3) = some u) ∧ Abs.cold wc B (k * 4 + 3) = false := kept_there kc ⟨by
        obtain ⟨v, hv, _⟩ := hcells _ (hj 3 (by omega))
        exact ⟨v, hv⟩, hcold _⟩
      have hst2 : (Instr.storeAt 41 (.pointer (some ⟨B, k * 4 + 3, none⟩)) (.slice (some ⟨b6, 0, none⟩) rs.length rs.length)).run Try.prog wc = .ok () (Abs.setRow wc B (k * 4 + 3) [.slice (some ⟨b6, 0, none⟩) rs.length rs.length]) := by
        refine run_storeC G he3 (by rw [hs3]; rfl) (fun v hv => ?_) (fun j hj => ?_)
        · simp only [Value.cells, List.mem_cons, List.not_mem_nil, or_false] at hv
          subst hv
          rfl
        · rw [hs3] at hj
          rw [show k * 4 + 3 + j = k * 4 + 3 by omega]
          exact hcBc
      obtain ⟨wd, hwd⟩ : ∃ wd, wd = Abs.setRow wc B (k * 4 + 3) [.slice (some ⟨b6, 0, none⟩) rs.length rs.length] := ⟨_, rfl⟩
      rw [← hwd] at hst2
      have kcd : wc.keptBut wd (Abs.inT fun b _ => b = B) := by rw [hwd]; exact Abs.setRow_kept _ _ _ _ _ fun _ _ => rfl
      have hn5' : b5 ≠ B := by omega
      have hn6' : b6 ≠ B := by omega
      have hb56 : b5 < b6 := by
        have := Abs.cell_lt h53
        omega
      have hB3 : wd.drew.cell? ⟨B, k * 4 + 3, none⟩ = some (.slice (some ⟨b6, 0, none⟩) rs.length rs.length) := by
        have := Abs.setRow_same [.slice (some ⟨b6, 0, none⟩) rs.length rs.length] wc B (k * 4 + 3) 0 (by simp) hcBc.1
        change Abs.cell wd B (k * 4 + 3) = _
        rw [hwd]
        exact this
      have h53d : wd.drew.cell? ⟨b5, 3, none⟩ = some (.slice sa rs.length sc) := by
        change Abs.cell wd b5 3 = _
        rw [hwd, Abs.setRow_other _ _ _ _ _ _ (.inl hn5'), ← hgx, ← h53]
        exact kbc.cell (b := b5) (off := 3) (by omega) (fun hm => hm)
      have hn6d : ∀ j, j < rs.length * 5 → (∃ u, Abs.cell wd b6 j = some u) ∧ Abs.cold wd b6 j = false := fun j hj => kept_there kcd (hn6 j hj)
      have kwc : w.keptBut wc (Abs.inT fun _ _ => False) := World.keptBut_trans hkw kc
      have kwd : w.keptBut wd (Abs.inT fun _ _ => False) := kept_low (World.keptBut_trans (World.keptBut_mono (inT_mono fun _ _ h => h.elim) kwc) kcd) fun b off hb e => by omega
      let c2 : List Value := if rs = [] then [] else (List.range (rs.length * 5)).map gy
      have hfl2 : rs ≠ [] → rs.flatten.length = rs.length * 5 := fun hne => by
        rcases hgy with h0 | ⟨_, _, _, _, hk', _⟩
        · exact absurd h0 hne
        · have := flat_len (even_of (G.ty _ _ he2).len hk')
          rw [this, hs2]
      have hcp2 : ∀ ty, (Builtin.copy_ #[41, 41] ty #[.slice (some ⟨b6, 0, none⟩) rs.length rs.length, .slice sa rs.length sc]).run Try.prog wd.drew = .ok (goInt (rs.length : Nat)) (Abs.setRow wd.drew b6 0 c2) := fun ty => by
        by_cases h0 : rs = []
        · subst h0
          simp only [c2, if_true]
          exact run_copyC0 wd.drew 41 41 ty 61 5 b6 sa sc u41 z61
        · obtain ⟨eb, eo, rfl, hc, hk', hm, hr⟩ := hgy.resolve_left h0
          have := hfl2 h0
          refine run_copyC wd.drew 41 41 ty 61 5 b6 0 rs.length rs.length eb eo rs.length sc rs.length c2 u41 z61 (by simp [Nat.min_def]) (by simp [c2, h0]) (fun j hj => ?_) (fun j hj => ?_) (fun v hv => ?_)
          · simp only [c2, h0, if_false, List.length_map, List.length_range] at hj
            simp only [c2, h0, if_false, List.getElem_map, List.getElem_range]
            have q := hm j (by omega)
            rw [← q]
            exact kwd.cell (b := eb) (off := eo + j) (Abs.cell_lt q) (fun hm => hm)
          · simp only [c2, h0, if_false, List.length_map, List.length_range] at hj
            rw [Nat.zero_add]
            exact hn6d j hj
          · simp only [c2, h0, if_false] at hv
            obtain ⟨j, hj, rfl⟩ := List.mem_map.1 hv
            have : j < rs.flatten.length := by
              have := List.mem_range.1 hj
              omega
            exact (hr j this).oneCell
      obtain ⟨we, hwe⟩ : ∃ we, we = Abs.setRow wd.drew b6 0 c2 := ⟨_, rfl⟩
      rw [← hwe] at hcp2
      have kde : wd.keptBut we (Abs.inT fun b _ => b = b6) := by rw [hwe]; exact Abs.setRow_kept c2 wd.drew b6 0 (fun b _ => b = b6) fun _ _ => rfl
      have kre : wr.keptBut we (Abs.inT fun b _ => b = B) := kept_low (T := fun b _ => b = B ∨ b = b6) (World.keptBut_trans (World.keptBut_trans (World.keptBut_mono (inT_mono fun _ _ h => h.elim) kc) (World.keptBut_mono (inT_mono fun _ _ h => .inl h) kcd)) (World.keptBut_mono (inT_mono fun _ _ h => .inr h) kde)) fun b off hb e => by omega
      have hkwe : w.keptBut we (Abs.inT fun _ _ => False) := kept_low (World.keptBut_trans (World.keptBut_mono (inT_mono fun _ _ h => h.elim) hkw) kre) fun b off hb e => by omega
      have hcolde : ∀ j, Abs.cold we B j = false := fun j => by
        rw [hwe, Abs.setRow_cold]
        change Abs.cold wd B j = false
        rw [hwd, Abs.setRow_cold]
        obtain ⟨v, hv, _⟩ := hcells _ (hj 3 (by omega))
        rw [kept_cold kc hv j]
        exact hcold j
      have hcellse : ∀ (j : Nat) (hj : j < rows.flatten.length), ∃ v, Abs.cell we B j = some v ∧ CR E we (fun b o => F b o ∨ b = B) rows.flatten[j] v := fun j hj' => by
        have hcell : Abs.cell we B j = Abs.cell wd B j := by
          rw [hwe, Abs.setRow_other _ _ _ _ _ _ (.inl hn6'.symm)]
          rfl
        by_cases hjk : j = k * 4 + 3
        · subst hjk
          refine ⟨.slice (some ⟨b6, 0, none⟩) rs.length rs.length, by rw [hcell]; exact hB3, ?_⟩
          rw [hrg]
          by_cases h0 : rs = []
          · subst h0
            exact .empty _ _ _
          · obtain ⟨eb, eo, rfl, hc, hk', hm, hr⟩ := hgy.resolve_left h0
            have hf2 := hfl2 h0
            refine .slice 61 rs te2 b6 0 rs.length gy he2 hk' (Nat.le_refl _) (fun i hi => ⟨?_, ?_⟩) fun i hi => (hr i hi).keep (keepsOld hkwe hge)
            · have := Abs.setRow_same c2 wd.drew b6 0 i (by simp only [c2, h0, if_false, List.length_map, List.length_range]; omega) (by rw [Nat.zero_add]; exact (hn6d i (by omega)).1)
              rw [hwe, this]
              simp only [c2, h0, if_false, List.getElem_map, List.getElem_range]
            · rintro (hF' | e)
              · have := hF _ _ hF'
                have := hkw.size
                omega
              · exact hn6' e
        · obtain ⟨v, hv, hc⟩ := hcells j hj'
          refine ⟨v, ?_, hc.keep (keepsBut kre)⟩
          rw [hcell, hwd, Abs.setRow_other _ _ _ _ _ _ (.inr (by simp; omega)), ← hv]
          exact kc.cell (b := B) (off := j) hBr (fun hm => hm)
      clear hwa hwb hwc hwd hwe hb5 hb6
      rw [hgx] at hl1 hst1
      clear_value x4 c2
      clear hsrc hcr hgy hx hsl hcp hmk h1c hcells2 hcold2 hcells
      go_wp2_with (first
        | ((with_reducible change wpList _ _ _ ({ dst := _, op := Op.load 43 (Operand.tmp 20), type := _, pos := _, after := _, guard := _ } :: _) _ _); refine wpList_load_runC _ rfl _ 43 rfl _ rfl hl1 ?_)
        | ((with_reducible change wpList _ _ _ ({ dst := _, op := Op.alloc 43, type := _, pos := _, after := _, guard := _ } :: _) _ _); refine wpList_alloc_runC _ rfl 43 rfl hal ?_)
        | ((with_reducible change wpList _ _ _ ({ dst := _, op := Op.store 43 _ _, type := _, pos := _, after := _, guard := _ } :: _) _ _); refine wpList_store_runC _ rfl rfl _ _ 43 rfl _ _ rfl rfl hst1 ?_)
        | ((with_reducible change wpList _ _ _ ({ dst := _, op := Op.load 41 (Operand.tmp 24), type := _, pos := _, after := _, guard := _ } :: _) _ _); refine wpList_load_runC _ rfl _ 41 rfl _ rfl hl2 ?_)
        | (at_make; refine wpList_make_runC _ rfl _ _ 41 rfl _ _ rfl rfl hmk1 ?_)
        | ((with_reducible change wpList _ _ _ ({ dst := _, op := Op.store 41 _ _, type := _, pos := _, after := _, guard := _ } :: _) _ _); refine wpList_store_runC _ rfl rfl _ _ 41 rfl _ _ rfl rfl hst2 ?_))
      go_region_law_o (refine step_copy_runI rfl _ _ 41 41 rfl (.slice (some ⟨b6, 0, none⟩) rs.length rs.length) (.slice sa rs.length sc) (by simp [Act.eval, Act.put]) (by simp [Act.eval, Act.put]) (hcp2 _) ?_)
      go_wp2
      all_goals exact ⟨⟨k + 1, by omega, by rw [Int.natCast_add]; rfl, hkwe, hcolde, hcellse⟩, by simp only [RowKit.intOf]; omega⟩
    · have hkn' : k = n := by omega
      subst hkn'
      clear hx hsl hcp hmk h1c hcells2 hcold2
      go_wp2
      go_ret
      exact ⟨rfl, hkw, hcold, hcells⟩

theorem ty43 : ∃ te, E.tys 43 = some te ∧ te.size = 4 ∧ te.kinds = [.int .i64, .int .i64, .int .i64, .slice 61] ∧ te.desc.isAgg = true := by
  have h : (E.tys 43).any (fun te => te.size == 4 && (decide (te.kinds = [.int .i64, .int .i64, .int .i64, .slice 61]) && te.desc.isAgg)) = true := by kernel_rfl
  cases e : E.tys 43 with
  | none => rw [e] at h; cases h
  | some te =>
    rw [e] at h
    simp only [Option.any_some, Bool.and_eq_true, beq_iff_eq, decide_eq_true_eq] at h
    exact ⟨te, rfl, h.1, h.2.1, h.2.2⟩
theorem ty61 : ∃ te, E.tys 61 = some te ∧ te.size = 5 := by
  have h : (E.tys 61).any (fun te => te.size == 5) = true := by kernel_rfl
  cases e : E.tys 61 with
  | none => rw [e] at h; cases h
  | some te =>
    rw [e] at h
    simp only [Option.any_some, beq_iff_eq] at h
    exact ⟨te, rfl, h⟩
theorem ty41 : ∃ te, E.tys 41 = some te ∧ te.size = 1 ∧ te.desc.isAgg = false := by
  have h : (E.tys 41).any (fun te => te.size == 1 && !te.desc.isAgg) = true := by kernel_rfl
  cases e : E.tys 41 with
  | none => rw [e] at h; cases h
  | some te =>
    rw [e] at h
    simp only [Option.any_some, Bool.and_eq_true, beq_iff_eq, Bool.not_eq_true'] at h
    exact ⟨te, rfl, h.1, h.2⟩

theorem row_sl {r : List Cell} (h : r.map Cell.kind = [.int .i64, .int .i64, .int .i64, .slice 61]) : r[3]? = some (.slice 61 (nl r 3)) := by
  have hl := congrArg List.length h
  simp only [List.length_map, List.length_cons, List.length_nil] at hl
  obtain ⟨a, b, c, d, rfl⟩ : ∃ a b c d, r = [a, b, c, d] := by
    match r, hl with
    | [a, b, c, d], _ => exact ⟨a, b, c, d, rfl⟩
  · simp only [List.map_cons, List.map_nil, List.cons.injEq, and_true] at h
    obtain ⟨_, _, _, h4⟩ := h
    cases d with
    | slice e rs => cases h4; rfl
    | int k n => cases h4
    | bool x => cases h4
    | str s => cases h4

theorem fn_lt {E : Env} {R : Places} {ρ : List Nat} {own : OI → Owner} {N : Nat} {st : St} {a : Act} {w : World} (h : Rel E R ρ own N st a w) : ∀ b o, Go.Abs.Fn own R b o → b < w.heap.size := by
  rintro b o (hR | ⟨x, t, hx, _⟩)
  · exact h.low _ _ hR
  · exact (h.out _ _ _ hx).1

theorem cCln : PrimOk Try.prog E 52 (primCln 43) := by
  have G : Go.Abs.Good Try.prog E := good
  have hcb : Callable Try.prog 52 := ⟨Try.f52, Try.func52, of_decide_eq_true (by kernel_rfl), by kernel_rfl⟩
  obtain ⟨te, he, hsz, hks, hag⟩ := ty43
  obtain ⟨te2, he2, hsz2⟩ := ty61
  obtain ⟨te3, he3, hsz3, hag3⟩ := ty41
  intro args blk vs bs h
  refine ⟨hcb, fun R ρ own vals w hl ho hrel => ?_⟩
  unfold primCln at h
  split at h
  rotate_left
  · cases h
  rename_i ow e rows
  rcases cond_some h with ⟨h1, g⟩ | ⟨_, g⟩
  rotate_left
  · cases g
  rcases cond_some g with ⟨h2, g2⟩ | ⟨_, g2⟩
  rotate_left
  · cases g2
  have q1 := Nat.eq_of_beq_eq_true h1
  subst q1
  simp only [Option.some.injEq, Prod.mk.injEq] at g2
  obtain ⟨rfl, rfl⟩ := g2
  unfold okCln okLn at h2
  simp only [Bool.and_eq_true, decide_eq_true_eq, List.all_eq_true] at h2
  obtain ⟨hln, hfew⟩ := h2
  obtain ⟨vx, rfl⟩ : ∃ vx, vals = [vx] := by
    match vals, hl with
    | [a], _ => exact ⟨a, rfl⟩
  have f0 : CR E w (Go.Abs.Fn own R) (.slice 43 rows) vx := by
    have := (hrel.fr 0).dis
    change AVR E w (Go.Abs.Fn own R) ρ (.one (.sl false 43 rows)) vx _ at this
    have := this.get_one
    cases this with
    | sl _ _ _ h => exact h
  -- an empty block first
  have hth := thaw_sound (st := ⟨zipFr [.one (.sl ow 43 rows)] 0, []⟩) (dst := none) (t := 22) (x := .one .nils) (vx := .slice none 0 0) (px := fun _ => none) (u := ⟨.one (.msl 43 0 0), none, [], [.arr 43 []], []⟩) hrel (.one _ _ _ .nils fun _ _ => rfl) (by kernel_rfl) (fun d hd => by cases hd)
  obtain ⟨ρ1, own1, hext1, hrel1, hg1⟩ := hth
  have hb1 : nth (St.apply ⟨zipFr [.one (.sl ow 43 rows)] 0, []⟩ none ⟨.one (.msl 43 0 0), none, [], [.arr 43 []], []⟩).blk 0 = some (.arr 43 []) := rfl
  have hK1 : Keeps w (Go.Abs.Fn own R) w (Go.Abs.Fn own1 R) := keeps_of hg1
  have hρ1 : ρ1.length = 1 := hrel1.rho
  have hret : ∀ {v : AV} {val : Value} {w' : World} {rows' : List (List Cell)}, After E R ρ1 own1 [vx].length w ((St.apply ⟨zipFr [.one (.sl ow 43 rows)] 0, []⟩ none ⟨.one (.msl 43 0 0), none, [], [.arr 43 []], []⟩).apply (some 0) ⟨v, none, [(0, .dead)], [.arr 43 rows'], []⟩) (Act.put ⟨[vx].toArray, []⟩ (some 0) val) w' →
      Returned E R ρ own w [v] [.dead, .arr 43 rows'] (.returned val) w' := by
    rintro v val w' rows' ⟨ρ2, own2, hext2, hrel2, hg2⟩
    exact Returned.of_after ⟨ρ2, own2, fun b B hb => hext2 _ _ (hext1 _ _ hb), hrel2, hg1.trans hg2⟩ rfl rfl
  cases hr0 : rows with
  | nil =>
    subst hr0
    obtain ⟨a0, cap0, rfl⟩ : ∃ a0 cap0, vx = .slice a0 0 cap0 := by
      cases f0 with
      | empty => exact ⟨_, _, rfl⟩
      | slice => exact ⟨_, _, rfl⟩
    refine (clone_nil a0 cap0 w).mono ?_
    rintro e' w' ⟨rfl, rfl⟩
    refine hret (hrel1.swap (B' := 0) (s := none) hb1 (fun d hd => by cases hd; simp) (World.keptBut_refl _ (Abs.inT fun _ _ => False)) (fun _ _ h => h.elim) (fun _ _ h => by cases h) (fun _ => .of (.mnil _ _)) (fun _ => .inl ⟨rfl, by simp [ownSwap, St.apply], fun j => by simp [ownSwap, St.apply]⟩))
  | cons r0 rs0 =>
    rw [← hr0]
    have hpos : 0 < rows.length := by rw [hr0]; simp
    cases f0 with
    | empty => simp at hpos
    | slice _ _ te' lb lo cap g he' hk hc hm hr =>
      rw [he] at he'
      cases he'
      have hfl := flat_len (even_of (G.ty _ _ he).len hk)
      rw [hsz] at hfl
      have hev := even_of (G.ty _ _ he).len hk
      rw [hsz] at hev
      have hcw := clone_walk G he hsz hag he2 hsz2 he3 hsz3 hag3 lb lo rows.length cap w (Go.Abs.Fn own1 R) rows g hpos (by omega) hfl (fn_lt hrel1) (fun j hj => ⟨(hm j hj).1, (hr j hj).keep hK1⟩) (fun k hk' => ?_)
      · refine hcw.mono ?_
        rintro e' w' ⟨rfl, hkp, hcold, hcells⟩
        have hbig : w.heap.size < w'.heap.size := by
          obtain ⟨v, hv, _⟩ := hcells 0 (by omega)
          exact Abs.cell_lt hv
        have hsub : ∀ b o, Go.Abs.Fn (ownSwap own1 (some 0) 0 1 (some (w.heap.size, 0))) R b o → Go.Abs.Fn own1 R b o ∨ b = w.heap.size := by
          rintro b o (hR | ⟨x, t, hx, ht⟩)
          · exact .inl (.inl hR)
          · rcases ownSwap_sub hx with ⟨_, e⟩ | ⟨e, _, _⟩
            · cases e; exact .inr rfl
            · exact .inl (.inr ⟨x, t, e, ht⟩)
        have hK2 : Keeps w' (fun b o => Go.Abs.Fn own1 R b o ∨ b = w.heap.size) w' (Go.Abs.Fn (ownSwap own1 (some 0) 0 1 (some (w.heap.size, 0))) R) :=
          ⟨fun _ _ _ _ _ => rfl, fun b o v hv hF => ⟨hv, fun h => hF (hsub _ _ h)⟩, fun _ _ h => h⟩
        have hnB : nth (ρ1 ++ [w.heap.size]) 1 = some w.heap.size := by rw [← hρ1]; exact nth_app_len ρ1 _
        refine hret (hrel1.swap (B' := w.heap.size) (s := some (w.heap.size, 0)) hb1 (fun d hd => by cases hd; simp) hkp (fun _ _ h => h.elim) (fun B' t e => by cases e; exact ⟨rfl, .inr ⟨Nat.le_refl _, hbig⟩⟩) (fun _ => .of ?_) (fun _ => ?_))
        · refine .msl 43 1 _ te w.heap.size rows.length hnB he hpos (Nat.le_refl _) (by omega) fun j hj => ?_
          rw [hsz] at hj
          obtain ⟨v, hv, _⟩ := hcells j (by omega)
          exact ⟨⟨v, hv⟩, hcold j⟩
        · refine .inr ⟨w.heap.size, te, hnB, rfl, fun j => rfl, he, hk, ⟨?_, hcold⟩, fun j hj => ?_⟩
          · obtain ⟨v, hv, _⟩ := hcells 0 (by omega)
            exact ⟨v, hv⟩
          · obtain ⟨v, hv, hcr⟩ := hcells j hj
            exact ⟨v, hv, hcold j, hcr.keep hK2⟩
      · have hrow := row_sl (by rw [← hks]; exact hk _ (List.getElem_mem hk'))
        obtain ⟨h3, h4, h5⟩ := flat_get hev hk' (j := 3) (by omega)
        refine ⟨nl rows[k] 3, ?_, ?_⟩
        · rw [List.getElem?_eq_getElem h3, h5]
          rw [List.getElem?_eq_getElem h4] at hrow
          exact hrow
        · have := hfew _ (List.getElem_mem hk')
          unfold okEf at this
          have := of_decide_eq_true this
          omega


end Go.Proofs.Ytkfniijfenkocaa
