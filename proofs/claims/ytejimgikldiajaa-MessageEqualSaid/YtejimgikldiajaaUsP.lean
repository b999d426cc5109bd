/-
  The table of the fields that a kind of messages uses: a map that the call itself makes, walked by hand.
-/
import Derived.Test.YtejimgikldiajaaA31
import Derived.Test.YtejimgikldiajaaProg
import Derived.Test.YtejimgikldiajaaTab
import Derived.MapKept
import Derived.ChangeMaps5
import Derived.Carry
import Derived.LoopTactic
import Derived.OwnWalk
namespace Go.Proofs.Ytejimgikldiajaa
open Go.Abs Go.RowKit Go.Lib

theorem wpList_value_run {P : Program} (w : World) {ops : Array Oper} {rest : List Oper} {o : Oper} {a : Act} {Q : Exit → Act → World → Prop} (hgd : o.guard = none) {v' : Value} {w' : World}
    (hr : (execOp a.eval o).run P w = .ok (.value v') w') (h : wpList P ops Q rest (a.put o.dst v') w') : wpList P ops Q (o :: rest) a w :=
  wpList_plain hgd fun _ hK => by
    unfold Oper.wp
    simp only [hr]
    exact hK _ _ h

theorem wpList_insert_runC {P : Program} (w : World) {ops : Array Oper} {rest : List Oper} {o : Oper} {a : Act} {Q : Exit → Act → World → Prop} (hgd : o.guard = none) (hds : o.dst = none) (m k x : Operand) (t : TypeId) (ho : o.op = .insert t m k x)
    (vm vk vx : Value) (hm : a.eval m = vm) (hk : a.eval k = vk) (hx : a.eval x = vx) {w' : World} (hr : (Instr.mapUpdate t vm vk vx).run P w = .ok () w') (h : wpList P ops Q rest a w') : wpList P ops Q (o :: rest) a w :=
  wpList_plain hgd fun _ hK => by
    unfold Oper.wp
    simp [execOp, ho, hm, hk, hx, hr, Result.andThen]
    refine hK _ _ ?_
    rw [hds]
    exact h

theorem wpList_lookup_runC {P : Program} (w : World) {ops : Array Oper} {rest : List Oper} {o : Oper} {a : Act} {Q : Exit → Act → World → Prop} (hgd : o.guard = none) (m k : Operand) (t : TypeId) (b : Bool) (ho : o.op = .lookup t m k b)
    (vm vk : Value) (hm : a.eval m = vm) (hk : a.eval k = vk) {v' : Value} {w' : World} (hr : (Instr.lookup t vm vk b).run P w = .ok v' w') (h : wpList P ops Q rest (a.put o.dst v') w') : wpList P ops Q (o :: rest) a w :=
  wpList_value_run w hgd (by simp [execOp, ho, hm, hk, hr, Result.andThen]) h

theorem u87 : Try.prog.underlying 87 = some (.map 3 58) := by kernel_rfl
theorem uInt : Try.prog.underlying 3 = some (.int .i64) := by kernel_rfl
theorem zSl (w : World) : (zeroValue 58).run Try.prog w = .ok (.slice none 0 0) w := by kernel_rfl

abbrev iv (n : Int) : Value := .int .i64 n

/-- what stands in the memory when so many rows have been put in -/
structure UInv (w W : World) (i : Nat) (es : List MapEntry) (cs : List (Array Value)) : Prop where
  size : W.heap.size = w.heap.size + 1 + i
  map : W.heap[w.heap.size]? = some (.map es.toArray i)
  kept : w.keptBut W (Abs.inT fun _ _ => False)
  len : cs.length = i
  cells : ∀ (j : Nat) (c : Array Value), cs[j]? = some c → ∀ (q : Nat) (v : Value), c[q]? = some v → Abs.cell W (w.heap.size + 1 + j) q = some v

theorem kept_map_low {w w' : World} {b : Nat} (h : w.keptBut w' (fun p => p = .map b)) (hb : w.heap.size ≤ b) : w.keptBut w' (Abs.inT fun _ _ => False) := by
  obtain ⟨h1, h2, h3⟩ := h
  refine ⟨h1, h2, fun i hi => ?_⟩
  have := h3 i hi
  split at this
  · rename_i c t f c' t' f' e1 e2
    obtain ⟨g1, g2, g3, g4⟩ := this
    exact ⟨g1, g2, g3, fun j hj => g4 j fun hm => by cases hm⟩
  · rename_i es cl es' cl' e1 e2
    exact .inr (this.resolve_left fun e => by
      injection e with e
      omega)
  · exact this

theorem size_alloc (w : World) (o : Obj) : (w.alloc o).heap.size = w.heap.size + 1 := by
  have e : (w.alloc o).heap = w.heap.push o := rfl
  rw [e, Array.size_push]

theorem u_init (w : World) : UInv w (w.alloc (.map #[] 0)) 0 [] [] :=
  ⟨size_alloc w _, (MapKept.heap_alloc w _).1, World.keptBut_alloc _ _ _, rfl, fun j c h => by simp at h⟩

theorem u_step {w W : World} {i : Nat} {es : List MapEntry} {cs : List (Array Value)} (h : UInv w W i es cs) (c : Array Value) (n : Int) (l : Nat) (hf : Instr.findNow (.int .i64) (iv n) es 0 = some none) :
    ∃ W', (Instr.mapUpdate 87 (.map (some w.heap.size)) (iv n) (.slice (some ⟨W.heap.size, 0, none⟩) l l)).run Try.prog (W.alloc (.cells c 62)) = .ok () W' ∧
      UInv w W' (i + 1) (es ++ [⟨iv n, .slice (some ⟨w.heap.size + 1 + i, 0, none⟩) l l, i⟩]) (cs ++ [c]) := by
  have hlt : w.heap.size < W.heap.size := by have := h.size; omega
  have hm : (W.alloc (.cells c 62)).heap[w.heap.size]? = some (.map es.toArray i) := by rw [(MapKept.heap_alloc W _).2 _ hlt]; exact h.map
  refine ⟨{ (W.alloc (.cells c 62)) with heap := (W.alloc (.cells c 62)).heap.setIfInBounds w.heap.size (.map (es.toArray.push ⟨iv n, .slice (some ⟨W.heap.size, 0, none⟩) l l, i⟩) (i + 1)) }, ?_, ?_⟩
  · have hk : (Instr.checkKey false 10000 3 (iv n)).run Try.prog (W.alloc (.cells c 62)) = .ok () (W.alloc (.cells c 62)) := MapKept.run_checkKey uInt (by trivial) false 9999
    have hfk : (Instr.findKey 3 (iv n) es).run Try.prog (W.alloc (.cells c 62)) = .ok none (W.alloc (.cells c 62)) := MapKept.run_findKey uInt hf
    have hs := MapKept.run_setObj_map (P := Try.prog) (.map (es.toArray.push ⟨iv n, .slice (some ⟨W.heap.size, 0, none⟩) l l, i⟩) (i + 1)) hm
    simp [Instr.mapUpdate, run_underlying u87, MapKept.run_getObj_map hm, hk, hfk, Result.andThen]
    simpa using hs
  · have hset := MapKept.heap_set (o' := .map (es.toArray.push ⟨iv n, .slice (some ⟨W.heap.size, 0, none⟩) l l, i⟩) (i + 1)) hm
    have hcell : ∀ B q, B ≠ w.heap.size → Abs.cell { (W.alloc (.cells c 62)) with heap := (W.alloc (.cells c 62)).heap.setIfInBounds w.heap.size (.map (es.toArray.push ⟨iv n, .slice (some ⟨W.heap.size, 0, none⟩) l l, i⟩) (i + 1)) } B q = Abs.cell (W.alloc (.cells c 62)) B q := fun B q hB => by
      simp only [Abs.cell, World.cell?]
      rw [hset.2 B hB]
    refine ⟨?_, ?_, ?_, ?_, ?_⟩
    · have := h.size
      show ((W.alloc (.cells c 62)).heap.setIfInBounds w.heap.size _).size = _
      rw [Array.size_setIfInBounds, size_alloc]
      omega
    · rw [hset.1]
      simp [h.size]
    · refine kept_map_low (b := w.heap.size) ?_ (Nat.le_refl _)
      have k1 : w.keptBut W (fun p => p = .map w.heap.size) := World.keptBut_mono (fun p hp => by cases p <;> exact hp.elim) h.kept
      exact World.keptBut_trans (World.keptBut_trans k1 (World.keptBut_alloc W (.cells c 62) _)) (ChangeMaps.keptBut_setBlock hm rfl)
    · simp [h.len]
    · intro j c' hj q v hv
      rw [hcell _ _ (by omega)]
      by_cases hjl : j < cs.length
      · rw [List.getElem?_append_left hjl] at hj
        have := h.cells j c' hj q v hv
        have e := World.cell?_alloc_past (w := W) (.cells c 62) (w.heap.size + 1 + j) q (Abs.cell_lt this)
        rw [Abs.cell, e]
        exact this
      · have hjj : j = cs.length := by
          have := (List.getElem?_eq_some_iff.1 hj).1
          simp at this
          omega
        subst hjj
        rw [List.getElem?_append_right (Nat.le_refl _), Nat.sub_self] at hj
        simp at hj
        subst hj
        have hq := (Array.getElem?_eq_some_iff.1 hv)
        obtain ⟨hq1, hq2⟩ := hq
        have := Abs.cell_new W c 62 q hq1
        rw [h.len, ← h.size, this, hq2]

theorem bs (w : World) :
    (Instr.buildSlice 58 5 #[(0, iv 0), (1, iv 1), (2, iv 2), (3, iv 3), (4, iv 4)]).run Try.prog w = .ok (.slice (some ⟨w.heap.size, 0, none⟩) 5 5) (w.alloc (.cells #[iv 0, iv 1, iv 2, iv 3, iv 4] 62)) ∧
    (Instr.buildSlice 58 7 #[(0, iv 0), (1, iv 1), (2, iv 3), (3, iv 4), (4, iv 8), (5, iv 9), (6, iv 10)]).run Try.prog w = .ok (.slice (some ⟨w.heap.size, 0, none⟩) 7 7) (w.alloc (.cells #[iv 0, iv 1, iv 3, iv 4, iv 8, iv 9, iv 10] 62)) ∧
    (Instr.buildSlice 58 1 #[(0, iv 5)]).run Try.prog w = .ok (.slice (some ⟨w.heap.size, 0, none⟩) 1 1) (w.alloc (.cells #[iv 5] 62)) ∧
    (Instr.buildSlice 58 2 #[(0, iv 5), (1, iv 6)]).run Try.prog w = .ok (.slice (some ⟨w.heap.size, 0, none⟩) 2 2) (w.alloc (.cells #[iv 5, iv 6] 62)) ∧
    (Instr.buildSlice 58 6 #[(0, iv 5), (1, iv 4), (2, iv 7), (3, iv 8), (4, iv 9), (5, iv 10)]).run Try.prog w = .ok (.slice (some ⟨w.heap.size, 0, none⟩) 6 6) (w.alloc (.cells #[iv 5, iv 4, iv 7, iv 8, iv 9, iv 10] 62)) := by
  refine ⟨?_, ?_, ?_, ?_, ?_⟩ <;> kernel_rfl

theorem wpList_build_runC {P : Program} (w : World) {ops : Array Oper} {rest : List Oper} {o : Oper} {a : Act} {Q : Exit → Act → World → Prop} (hgd : o.guard = none) (t : TypeId) (n : Nat) (ps : Array (Nat × Operand)) (ho : o.op = .buildSlice t n ps)
    (qs : Array (Nat × Value)) (hq : (ps.map fun (i, x) => (i, a.eval x)) = qs) {v' : Value} {w' : World} (hr : (Instr.buildSlice t n qs).run P w = .ok v' w') (h : wpList P ops Q rest (a.put o.dst v') w') : wpList P ops Q (o :: rest) a w :=
  wpList_value_run w hgd (by simp [execOp, ho, hq, hr, Result.andThen]) h

theorem look {w W : World} {n : Nat} {es : List MapEntry} {cs : List (Array Value)} (h : UInv w W n es cs) (k : Int) (r : Option (Nat × Value)) (hf : Instr.findNow (.int .i64) (iv k) es 0 = some r) :
    (Instr.lookup 87 (.map (some w.heap.size)) (iv k) true).run Try.prog W = .ok (.tuple (match (generalizing := false) r with | some (_, v) => #[v, .bool true] | none => #[.slice none 0 0, .bool false])) W := by
  have hk : ∀ b, (Instr.checkKey b 10000 3 (iv k)).run Try.prog W = .ok () W := fun b => MapKept.run_checkKey uInt (by trivial) b 9999
  have hfk : (Instr.findKey 3 (iv k) es).run Try.prog W = .ok r W := MapKept.run_findKey uInt hf
  cases r with
  | none => simp [Instr.lookup, run_underlying u87, MapKept.run_getObj_map h.map, hk, hfk, zSl, Result.andThen]
  | some p => simp [Instr.lookup, run_underlying u87, MapKept.run_getObj_map h.map, hk, hfk, Result.andThen]

theorem wpList_makeMap_runC {P : Program} (w : World) {ops : Array Oper} {rest : List Oper} {o : Oper} {a : Act} {Q : Exit → Act → World → Prop} (hgd : o.guard = none) (t : TypeId) (ho : o.op = .makeMap t none)
    {v' : Value} {w' : World} (hr : (Instr.makeMap t none).run P w = .ok v' w') (h : wpList P ops Q rest (a.put o.dst v') w') : wpList P ops Q (o :: rest) a w :=
  wpList_value_run w hgd (by simp [execOp, ho, hr, Result.andThen]) h

def usedE (b : Nat) : List MapEntry := [⟨iv 1, .slice (some ⟨b + 1 + 0, 0, none⟩) 5 5, 0⟩, ⟨iv 2, .slice (some ⟨b + 1 + 1, 0, none⟩) 7 7, 1⟩, ⟨iv 3, .slice (some ⟨b + 1 + 2, 0, none⟩) 1 1, 2⟩, ⟨iv 4, .slice (some ⟨b + 1 + 3, 0, none⟩) 2 2, 3⟩, ⟨iv 5, .slice (some ⟨b + 1 + 4, 0, none⟩) 6 6, 4⟩, ⟨iv 6, .slice (some ⟨b + 1 + 5, 0, none⟩) 1 1, 5⟩, ⟨iv 7, .slice (some ⟨b + 1 + 6, 0, none⟩) 1 1, 6⟩, ⟨iv 8, .slice (some ⟨b + 1 + 7, 0, none⟩) 1 1, 7⟩]
def usedC : List (Array Value) := [#[iv 0, iv 1, iv 2, iv 3, iv 4], #[iv 0, iv 1, iv 3, iv 4, iv 8, iv 9, iv 10], #[iv 5], #[iv 5, iv 6], #[iv 5, iv 4, iv 7, iv 8, iv 9, iv 10], #[iv 5], #[iv 5], #[iv 5]]

theorem cells_of {W : World} {B : Nat} {l : List Int} {c : Array Value} (hc : c = (l.map iv).toArray) (h : ∀ (q : Nat) (v : Value), c[q]? = some v → Abs.cell W B q = some v) : ∀ (j : Nat) (hj : j < l.length), Abs.cell W B j = some (iv l[j]) := by
  subst hc
  intro j hj
  exact h j _ (by simp)

theorem used_find {w W : World} (h : UInv w W 8 (usedE w.heap.size) usedC) (k : Int) : ∃ r, Instr.findNow (.int .i64) (iv k) (usedE w.heap.size) 0 = some r ∧ (match usedL k with
      | some l => ∃ B q, r = some (q, .slice (some ⟨B, 0, none⟩) l.length l.length) ∧ w.heap.size ≤ B ∧ ∀ (j : Nat) (hj : j < l.length), Abs.cell W B j = some (iv l[j])
      | none => r = none) := by
  by_cases k1 : k = 1
  · subst k1
    exact ⟨some (0, .slice (some ⟨w.heap.size + 1 + 0, 0, none⟩) 5 5), rfl, _, _, rfl, by omega, cells_of (c := #[iv 0, iv 1, iv 2, iv 3, iv 4]) rfl (h.cells 0 _ rfl)⟩
  by_cases k2 : k = 2
  · subst k2
    exact ⟨some (1, .slice (some ⟨w.heap.size + 1 + 1, 0, none⟩) 7 7), rfl, _, _, rfl, by omega, cells_of (c := #[iv 0, iv 1, iv 3, iv 4, iv 8, iv 9, iv 10]) rfl (h.cells 1 _ rfl)⟩
  by_cases k3 : k = 3
  · subst k3
    exact ⟨some (2, .slice (some ⟨w.heap.size + 1 + 2, 0, none⟩) 1 1), rfl, _, _, rfl, by omega, cells_of (c := #[iv 5]) rfl (h.cells 2 _ rfl)⟩
  by_cases k4 : k = 4
  · subst k4
    exact ⟨some (3, .slice (some ⟨w.heap.size + 1 + 3, 0, none⟩) 2 2), rfl, _, _, rfl, by omega, cells_of (c := #[iv 5, iv 6]) rfl (h.cells 3 _ rfl)⟩
  by_cases k5 : k = 5
  · subst k5
    exact ⟨some (4, .slice (some ⟨w.heap.size + 1 + 4, 0, none⟩) 6 6), rfl, _, _, rfl, by omega, cells_of (c := #[iv 5, iv 4, iv 7, iv 8, iv 9, iv 10]) rfl (h.cells 4 _ rfl)⟩
  by_cases k6 : k = 6
  · subst k6
    exact ⟨some (5, .slice (some ⟨w.heap.size + 1 + 5, 0, none⟩) 1 1), rfl, _, _, rfl, by omega, cells_of (c := #[iv 5]) rfl (h.cells 5 _ rfl)⟩
  by_cases k7 : k = 7
  · subst k7
    exact ⟨some (6, .slice (some ⟨w.heap.size + 1 + 6, 0, none⟩) 1 1), rfl, _, _, rfl, by omega, cells_of (c := #[iv 5]) rfl (h.cells 6 _ rfl)⟩
  by_cases k8 : k = 8
  · subst k8
    exact ⟨some (7, .slice (some ⟨w.heap.size + 1 + 7, 0, none⟩) 1 1), rfl, _, _, rfl, by omega, cells_of (c := #[iv 5]) rfl (h.cells 7 _ rfl)⟩
  refine ⟨none, ?_, ?_⟩
  · have n1 : (k == 1) = false := beq_eq_false_iff_ne.2 k1
    have n2 : (k == 2) = false := beq_eq_false_iff_ne.2 k2
    have n3 : (k == 3) = false := beq_eq_false_iff_ne.2 k3
    have n4 : (k == 4) = false := beq_eq_false_iff_ne.2 k4
    have n5 : (k == 5) = false := beq_eq_false_iff_ne.2 k5
    have n6 : (k == 6) = false := beq_eq_false_iff_ne.2 k6
    have n7 : (k == 7) = false := beq_eq_false_iff_ne.2 k7
    have n8 : (k == 8) = false := beq_eq_false_iff_ne.2 k8
    simp [usedE, Instr.findNow, Instr.sameNow, n1, n2, n3, n4, n5, n6, n7, n8]
  · unfold usedL
    rw [if_neg k1, if_neg k2, if_neg k3, if_neg k4, if_neg k5, if_neg k6, if_neg k7, if_neg k8]

set_option maxHeartbeats 4000000 in
set_option maxRecDepth 100000 in
theorem used_walk (k : Int) (w : World) : Calls Try.prog 21 #[.int .i64 k] w fun e w' => w.keptBut w' (Abs.inT fun _ _ => False) ∧
    match usedL k with
    | some l => ∃ B, e = .returned (.tuple #[.slice (some ⟨B, 0, none⟩) l.length l.length, .bool true]) ∧ w.heap.size ≤ B ∧ ∀ (j : Nat) (hj : j < l.length), Abs.cell w' B j = some (iv l[j])
    | none => e = .returned (.tuple #[.slice none 0 0, .bool false]) := by
  have mixed : Try.prog.follows .mixedOrders = true := by kernel_rfl
  have hmk := run_makeMap (P := Try.prog) 87 w
  have h0 := u_init w
  generalize w.alloc (.map #[] 0) = W0 at hmk h0
  obtain ⟨W1, i0, h1⟩ := u_step h0 #[iv 0, iv 1, iv 2, iv 3, iv 4] 1 5 (by simp [Instr.findNow, Instr.sameNow])
  obtain ⟨W2, i1, h2⟩ := u_step h1 #[iv 0, iv 1, iv 3, iv 4, iv 8, iv 9, iv 10] 2 7 (by simp [Instr.findNow, Instr.sameNow])
  obtain ⟨W3, i2, h3⟩ := u_step h2 #[iv 5] 3 1 (by simp [Instr.findNow, Instr.sameNow])
  obtain ⟨W4, i3, h4⟩ := u_step h3 #[iv 5, iv 6] 4 2 (by simp [Instr.findNow, Instr.sameNow])
  obtain ⟨W5, i4, h5⟩ := u_step h4 #[iv 5, iv 4, iv 7, iv 8, iv 9, iv 10] 5 6 (by simp [Instr.findNow, Instr.sameNow])
  obtain ⟨W6, i5, h6⟩ := u_step h5 #[iv 5] 6 1 (by simp [Instr.findNow, Instr.sameNow])
  obtain ⟨W7, i6, h7⟩ := u_step h6 #[iv 5] 7 1 (by simp [Instr.findNow, Instr.sameNow])
  obtain ⟨W8, i7, h8⟩ := u_step h7 #[iv 5] 8 1 (by simp [Instr.findNow, Instr.sameNow])
  have h8' : UInv w W8 8 (usedE w.heap.size) usedC := h8
  obtain ⟨r, hr1, hr2⟩ := used_find h8' k
  have hlk := look h8' k r hr1
  have hkept := h8'.kept
  generalize hX : (match (generalizing := false) r with | some (_, v) => #[v, Value.bool true] | none => #[Value.slice none 0 0, .bool false]) = X at hlk
  obtain ⟨v0, v1, rfl⟩ : ∃ v0 v1, X = #[v0, v1] := by
    cases r with
    | none => exact ⟨_, _, hX.symm⟩
    | some p => exact ⟨_, _, hX.symm⟩
  have hw : Calls Try.prog 21 #[.int .i64 k] w fun e w' => e = .returned (.tuple #[v0, v1]) ∧ w' = W8 := by
    go_enter Try.func21, Try.ntmps21
    go_wp2_with (first
      | ((with_reducible change wpList _ _ _ ({ dst := _, op := Op.makeMap 87 none, type := _, pos := _, after := _, guard := _ } :: _) _ _); refine wpList_makeMap_runC _ rfl 87 rfl hmk ?_)
      | ((with_reducible change wpList _ _ _ ({ dst := _, op := Op.insert 87 _ _ _, type := _, pos := _, after := _, guard := _ } :: _) _ _); refine wpList_insert_runC _ rfl rfl _ _ _ _ rfl _ _ _ rfl rfl rfl i0 ?_)
      | ((with_reducible change wpList _ _ _ ({ dst := _, op := Op.insert 87 _ _ _, type := _, pos := _, after := _, guard := _ } :: _) _ _); refine wpList_insert_runC _ rfl rfl _ _ _ _ rfl _ _ _ rfl rfl rfl i1 ?_)
      | ((with_reducible change wpList _ _ _ ({ dst := _, op := Op.insert 87 _ _ _, type := _, pos := _, after := _, guard := _ } :: _) _ _); refine wpList_insert_runC _ rfl rfl _ _ _ _ rfl _ _ _ rfl rfl rfl i2 ?_)
      | ((with_reducible change wpList _ _ _ ({ dst := _, op := Op.insert 87 _ _ _, type := _, pos := _, after := _, guard := _ } :: _) _ _); refine wpList_insert_runC _ rfl rfl _ _ _ _ rfl _ _ _ rfl rfl rfl i3 ?_)
      | ((with_reducible change wpList _ _ _ ({ dst := _, op := Op.insert 87 _ _ _, type := _, pos := _, after := _, guard := _ } :: _) _ _); refine wpList_insert_runC _ rfl rfl _ _ _ _ rfl _ _ _ rfl rfl rfl i4 ?_)
      | ((with_reducible change wpList _ _ _ ({ dst := _, op := Op.insert 87 _ _ _, type := _, pos := _, after := _, guard := _ } :: _) _ _); refine wpList_insert_runC _ rfl rfl _ _ _ _ rfl _ _ _ rfl rfl rfl i5 ?_)
      | ((with_reducible change wpList _ _ _ ({ dst := _, op := Op.insert 87 _ _ _, type := _, pos := _, after := _, guard := _ } :: _) _ _); refine wpList_insert_runC _ rfl rfl _ _ _ _ rfl _ _ _ rfl rfl rfl i6 ?_)
      | ((with_reducible change wpList _ _ _ ({ dst := _, op := Op.insert 87 _ _ _, type := _, pos := _, after := _, guard := _ } :: _) _ _); refine wpList_insert_runC _ rfl rfl _ _ _ _ rfl _ _ _ rfl rfl rfl i7 ?_)
      | ((with_reducible change wpList _ _ _ ({ dst := _, op := Op.lookup 87 _ _ _, type := _, pos := _, after := _, guard := _ } :: _) _ _); refine wpList_lookup_runC _ rfl _ _ _ _ rfl _ _ rfl rfl hlk ?_))
    all_goals (go_ret2; exact ⟨rfl, rfl⟩)
  refine hw.mono ?_
  rintro e w' ⟨rfl, rfl⟩
  refine ⟨hkept, ?_⟩
  cases hu : usedL k with
  | none =>
    rw [hu] at hr2
    subst hr2
    rw [← hX]
  | some l =>
    rw [hu] at hr2
    obtain ⟨B, q, rfl, h1, h2⟩ := hr2
    exact ⟨B, by rw [← hX], h1, h2⟩

theorem used_flat : ∀ (l : List Int), (l.map fun n => [Cell.int .i64 n]).flatten = l.map fun n => Cell.int .i64 n
  | [] => rfl
  | n :: l => by rw [List.map_cons, List.flatten_cons, used_flat l]; rfl

theorem cUsed {E : Env} {te : Ty} (he : E.tys 62 = some te) (hk : te.kinds = [.int .i64]) : PrimOk Try.prog E 21 (primUsed 62) := by
  intro args blk vs bs h
  unfold primUsed at h
  split at h
  rotate_left
  · cases h
  rename_i k
  cases h
  refine ⟨⟨Try.f21, Try.func21, of_decide_eq_true (by kernel_rfl), by kernel_rfl⟩, fun R ρ own vals w hl ho hrel => ?_⟩
  obtain ⟨v, rfl⟩ : ∃ v, vals = [v] := by
    match vals, hl with
    | [a], _ => exact ⟨a, rfl⟩
  have hv : v = .int .i64 k := (hrel.fr 0).get_int
  subst hv
  refine (used_walk k w).mono ?_
  rintro e w' ⟨hkp, hpost⟩
  have hgr : Grow own own w w' := ⟨World.keptBut_mono (inT_mono fun _ _ h => h.elim) hkp, fun x B t' hx => .inr ⟨x, t', hx, Nat.le_refl _⟩⟩
  have hK : Keeps w (Go.Abs.Fn own R) w' (Go.Abs.Fn own R) := keeps_of hgr
  have key : ∀ (r0 : Value), CR E w' (Go.Abs.Fn own R) (.slice 62 (usedR k)) r0 → e = .returned (.tuple #[r0, .bool (usedL k).isSome]) →
      Returned E R ρ own w [.one (.sl false 62 (usedR k)), .one (.bool (usedL k).isSome)] [] e w' := by
    rintro r0 hcr rfl
    refine ⟨[r0, .bool (usedL k).isSome], ρ, own, rfl, rfl, fun _ _ h => h, ⟨rfl, rfl, fun t => ?_, hrel.rho, fun b => ?_, hrel.inj, fun x B t hx => ⟨Nat.lt_of_lt_of_le (hrel.out x B t hx).1 hkp.size, (hrel.out x B t hx).2⟩, fun B off hR => Nat.lt_of_lt_of_le (hrel.low B off hR) hkp.size⟩, hgr⟩
    · by_cases h0 : t = 0
      · subst h0
        exact .one _ _ _ (by rw [ho]; exact .sl _ _ _ hcr) fun p _ => ho _ _
      · by_cases h1 : t = 1
        · subst h1
          exact .one _ _ _ (by rw [ho]; exact .bool _) fun p _ => ho _ _
        · have e1 : Abs.get (zipFr [AV.one (.sl false 62 (usedR k)), .one (.bool (usedL k).isSome)] 0) t = .undef := by
            simp only [zipFr, Abs.get, nbeq_ne (Ne.symm h0), nbeq_ne (Ne.symm h1), cond_false]
          dsimp only
          rw [e1]
          exact .undef _ _ fun p => ho _ _
    · exact hrel.blk b
  obtain ⟨u, hu⟩ : ∃ u, usedL k = u := ⟨_, rfl⟩
  cases u with
  | none =>
    rw [hu] at hpost
    have hr : usedR k = [] := by unfold usedR; rw [hu]; rfl
    refine key (.slice none 0 0) ?_ ?_
    · rw [hr]; exact .empty _ _ _
    · rw [hu]; exact hpost
  | some l =>
    rw [hu] at hpost
    obtain ⟨B, rfl, hB, hc⟩ := hpost
    have hr : usedR k = l.map fun n => [Cell.int .i64 n] := by unfold usedR; rw [hu]; rfl
    refine key (.slice (some ⟨B, 0, none⟩) l.length l.length) ?_ (by rw [hu]; rfl)
    rw [hr]
    by_cases h0 : l = []
    · subst h0
      exact .empty _ _ _
    · have hfl : (l.map fun n => [Cell.int .i64 n]).flatten.length = l.length := by rw [used_flat]; simp
      have := CR.slice (E := E) (w := w') (F := Go.Abs.Fn own R) 62 (l.map fun n => [Cell.int .i64 n]) te B 0 l.length (fun j => iv (l.getD j 0)) he (fun r hr => by
        obtain ⟨n, _, rfl⟩ := List.mem_map.1 hr
        rw [hk]; rfl) (by simp) (fun i hi => by
          rw [hfl] at hi
          rw [Nat.zero_add]
          refine ⟨by rw [hc i hi]; simp [List.getD, List.getElem?_eq_getElem hi], ?_⟩
          rintro (hR | ⟨x, t, hx, _⟩)
          · have := hrel.low _ _ hR; omega
          · have := (hrel.out _ _ _ hx).1; omega) (fun i hi => by
            have hi' := hi
            rw [hfl] at hi'
            have e2 : (l.map fun n => [Cell.int .i64 n]).flatten[i] = Cell.int .i64 l[i] := by simp only [used_flat, List.getElem_map]
            rw [e2]
            simp only [List.getD, List.getElem?_eq_getElem hi', Option.getD_some]
            exact .int _ _)
      rwa [List.length_map] at this

theorem tyFE : ∃ te, E.tys 62 = some te ∧ te.kinds = [.int .i64] := by
  have h : (E.tys 62).any (fun te => decide (te.kinds = [.int .i64])) = true := by kernel_rfl
  cases e : E.tys 62 with
  | none => rw [e] at h; cases h
  | some te =>
    rw [e] at h
    simp only [Option.any_some, decide_eq_true_eq] at h
    exact ⟨te, rfl, h⟩

theorem c21 : PrimOk Try.prog E 21 (primUsed 62) := by
  obtain ⟨te, he, hk⟩ := tyFE
  exact cUsed he hk

end Go.Proofs.Ytejimgikldiajaa
