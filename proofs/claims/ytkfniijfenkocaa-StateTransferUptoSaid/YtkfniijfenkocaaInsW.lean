/-
  The library's Insert, walked by hand: an element or more among those of a slice whose memory no one else looks at.
-/
import Derived.Test.YtkfniijfenkocaaA14
import Derived.Test.YtkfniijfenkocaaProg
import Derived.Shelf.Spec.SlicesInsertGrow
namespace Go.Proofs.Ytkfniijfenkocaa
open Go.Abs Go.Shelf Go.RowKit Go.Lib

theorem run_copyS {P : Program} (w : World) (dT sT ty elem : TypeId) (s B o dLen dCap ab ao sLen sCap n : Nat) (cs : List Value) (hu : P.underlying dT = some (.slice elem)) (hz : ∀ w, (sizeOf elem).run P w = .ok s w)
    (hn : n = Nat.min sLen dLen) (hl : cs.length = n * s) (hsrc : ∀ (j : Nat) (hj : j < cs.length), Abs.cell w ab (ao + j) = some cs[j])
    (hc : ∀ j, j < cs.length → (∃ u, Abs.cell w B (o + j) = some u) ∧ Abs.cold w B (o + j) = false) (h1 : ∀ v ∈ cs, v.oneCell' = true) :
    (Builtin.copy_ #[dT, sT] ty #[.slice (some ⟨B, o, none⟩) dLen dCap, .slice (some ⟨ab, ao, none⟩) sLen sCap]).run P w = .ok (goInt n) (Abs.setRow w B o cs) := by
  have hld : (loadCells ⟨ab, ao, none⟩ (n * s)).run P w = .ok cs.toArray w := by
    have := run_loadCells (P := P) w ⟨ab, ao, none⟩ (n * s) (fun j => cs.getD j undef) (fun j hj => by
      have hj' : j < cs.length := by omega
      rw [add_none, getD_of hj']
      exact hsrc j hj')
    rw [this]
    congr 1
    apply Array.ext'
    simp only []
    apply List.ext_getElem
    · simp [hl]
    · intro j h1 h2
      have : j < cs.length := by omega
      simp [this]
  have hst := run_storeCells (P := P) cs w B o 0 h1 (by simpa using hc)
  rw [Nat.add_zero] at hst
  simp [Builtin.copy_, run_underlying hu, Builtin.lenOf, Builtin.firstCells, hz, ← hn, hld, hst]


theorem shape_of {w : World} {B j : Nat} {v : Value} (h : Abs.cell w B j = some v) : ∃ t k, w.shape? B = some (t, k) ∧ k ≠ 0 := by
  simp only [Abs.cell, World.cell?] at h
  unfold World.shape?
  cases e : w.heap[B]? with
  | none => simp [e] at h
  | some o =>
    cases o <;> simp [e] at h
    rename_i c t f
    refine ⟨_, _, rfl, fun h0 => ?_⟩
    have : c[j]? = none := Array.getElem?_eq_none (by omega)
    rw [this] at h
    cases h

theorem run_overlaps_cold {P : Program} (w : World) (tS tR e : TypeId) (ht : P.underlying tS = some (.slice e)) (size : Nat) (hz : ∀ w, (Go.sizeOf e).run P w = .ok size w)
    (a b : Addr) (la ca lb cb : Nat) (hne : a.block ≠ b.block) (tA tB : TypeId) (kA kB : Nat)
    (hsa : w.shape? a.block = some (tA, kA)) (hkA : kA ≠ 0) (hsb : w.shape? b.block = some (tB, kB)) (hkB : kB ≠ 0)
    (hfb : w.frozen? b = false) (hfe : w.frozen? { block := b.block, off := kB } = false) :
    (Extern.SlicesOverlaps.overlaps #[tS, tS] #[tR] #[.slice (some a) la ca, .slice (some b) lb cb]).run P w = .ok (.bool false) w := by
  have hnb : (a.block != b.block) = true := by simpa using hne
  have hnb' : (a.block == b.block) = false := by simpa using hne
  change Sem.run P (α := Value) (do
    let some t := (#[tS, tS] : Array TypeId)[0]? | stuck "slices.overlaps: no parameter types"
    let .slice elem ← underlying t | stuck "slices.overlaps: slice type expected"
    let size ← sizeOf elem
    match (some a : Option Addr), (some b : Option Addr) with
    | some a, some b =>
      if la = 0 ∨ lb = 0 ∨ size = 0 then pure (Value.bool false)
      else if a.block != b.block && (← frozen a) && (← frozen b) then unsupported .addressObserved
      else do
        if a.block != b.block then do
          noView a; noView b
          if ← mayBeOne a b then return Value.bool ((← choose (.extern "sameAddr.stringBytes" 2)) == 1)
        pure (Value.bool (a.block == b.block && a.off < b.off + lb * size && b.off < a.off + la * size))
    | _, _ => pure (Value.bool false)) w = _
  by_cases h0 : la = 0 ∨ lb = 0 ∨ size = 0
  · simp [run_underlying ht, hz, h0]
  · cases kA with
    | zero => exact absurd rfl hkA
    | succ kA =>
      cases kB with
      | zero => exact absurd rfl hkB
      | succ kB =>
        cases h1 : w.frozen? a <;> cases h2 : w.frozen? { block := a.block, off := kA + 1 } <;>
          simp [run_underlying ht, hz, h0, hnb, hnb', frozen, noView, viewAt, mayBeOne, stringish, shape, Sem.run, hsa, hsb, hfb, hfe, h1, h2]

theorem uS : Try.prog.underlying 23 = some (.slice 43) := by kernel_rfl
theorem uL : Try.prog.underlying 22 = some (.slice 43) := by kernel_rfl
theorem zE (w : World) : (sizeOf 43).run Try.prog w = .ok 4 w := by kernel_rfl

theorem run_ov (B vb voff m vc ob lb cb : Nat) (w : World) (hvb : vb ≠ B) {u v : Value} {j k : Nat} (hv : Abs.cell w vb j = some v) (hu : Abs.cell w B k = some u) (hcold : ∀ j, Abs.cold w B j = false) :
    (callFunc 91 #[.slice (some ⟨vb, voff, none⟩) m vc, .slice (some ⟨B, ob, none⟩) lb cb]).run Try.prog w = .ok (.value (.bool false)) w := by
  obtain ⟨tA, kA, hsa, hkA⟩ := shape_of hv
  obtain ⟨tB, kB, hsb, hkB⟩ := shape_of hu
  rw [run_callFunc_extern (P := Try.prog) (f := 91) Try.func91 (by kernel_rfl) (by kernel_rfl) (by kernel_rfl) (e := Extern.SlicesOverlaps.overlaps #[22, 22] #[4]) (by kernel_rfl),
    run_overlaps_cold w 22 4 43 uL 4 zE ⟨vb, voff, none⟩ ⟨B, ob, none⟩ m vc lb cb hvb tA tB kA kB hsa hkA hsb hkB (hcold _) (hcold _)]
  rfl

theorem setRow_drew (w : World) (B o : Nat) (vs : List Value) : Abs.setRow w.drew B o vs = (Abs.setRow w B o vs).drew := by
  induction vs generalizing w o with
  | nil => rfl
  | cons v vs ih =>
    simp only [Abs.setRow]
    exact ih (w.setCell _ v) _

set_option maxHeartbeats 4000000 in
set_option maxRecDepth 100000 in
/-- there is room, and the place is not the end: in place -/
theorem ins_shift (B n c i vb voff m vc : Nat) (cs vs : List Value) (w : World) (hi : i < n) (hm : 0 < m) (hroom : n + m ≤ c) (hc63 : c ≤ 9223372036854775807) (hvb : vb ≠ B)
    (hcl : cs.length = n * 4) (hvl : vs.length = m * 4)
    (hcs : ∀ (j : Nat) (hj : j < cs.length), Abs.cell w B j = some cs[j]) (hsp : ∀ j, j < c * 4 → (∃ u, Abs.cell w B j = some u) ∧ Abs.cold w B j = false)
    (hvs : ∀ (j : Nat) (hj : j < vs.length), Abs.cell w vb (voff + j) = some vs[j]) (h1c : ∀ v ∈ cs, v.oneCell' = true) (h1v : ∀ v ∈ vs, v.oneCell' = true)
    (hcold : ∀ j, Abs.cold w B j = false) :
    Calls Try.prog 75 #[.slice (some ⟨B, 0, none⟩) n c, .int .i64 i, .slice (some ⟨vb, voff, none⟩) m vc] w fun e w' =>
      e = .returned (.slice (some ⟨B, 0, none⟩) (n + m) c) ∧ w' = Abs.setRow (Abs.setRow w.drew B ((i + m) * 4) (cs.drop (i * 4))) B (i * 4) vs := by
  have hz1 : ¬ ((m : Int) = 0) := by omega
  have hz2 : ¬ ((i : Int) = (n : Int)) := by omega
  have hov : ∀ lb cb, (callFunc 91 #[.slice (some ⟨vb, voff, none⟩) m vc, .slice (some ⟨B, (i + m) * 4, none⟩) lb cb]).run Try.prog w = .ok (.value (.bool false)) w := fun lb cb =>
    run_ov B vb voff m vc _ lb cb w hvb (hvs 0 (by omega)) (hcs 0 (by omega)) hcold
  have hdl : (cs.drop (i * 4)).length = (n - i) * 4 := by rw [List.length_drop, hcl]; omega
  have hw1 : IntKind.i64.wrap ((i : Int) + (m : Int)) = (i : Int) + (m : Int) := by rw [IntKind.wrap_i64]; omega
  have hb1 : (0 : Int) ≤ (i : Int) + (m : Int) := by omega
  have hin : i ≤ n := by omega
  have htn : ((i : Int) + (m : Int)).toNat = i + m := by omega
  have hb2 : ¬ (c = i + m) := by omega
  have hb3 : (i : Int) ≤ (n : Int) + (m : Int) := by omega
  have hb4 : ¬ (c = i) := by omega
  have hcp1 : ∀ ty dc sc, (Builtin.copy_ #[23, 23] ty #[.slice (some ⟨B, (i + m) * 4, none⟩) (n + m - (i + m)) dc, .slice (some ⟨B, i * 4, none⟩) (n + m - i) sc]).run Try.prog w.drew = .ok (goInt ((n - i : Nat) : Int)) (Abs.setRow w.drew B ((i + m) * 4) (cs.drop (i * 4))) := fun ty dc sc =>
    run_copyS w.drew _ _ ty 43 4 B ((i + m) * 4) (n + m - (i + m)) dc B (i * 4) (n + m - i) sc (n - i) _ uS zE (by simp only [Nat.min_def]; split <;> omega) hdl (fun j hj => by
      rw [List.getElem_drop]
      exact hcs _ _) (fun j hj => hsp _ (by omega)) (fun v hv => h1c v (List.mem_of_mem_drop hv))
  obtain ⟨W1, hW1⟩ : ∃ W1, W1 = Abs.setRow w.drew B ((i + m) * 4) (cs.drop (i * 4)) := ⟨_, rfl⟩
  have hkp : w.drew.keptBut W1 (Abs.inT fun B' _ => B' = B) := by rw [hW1]; exact Abs.setRow_kept _ _ _ _ _ fun _ _ => rfl
  have hcp2 : ∀ (W : World), (∀ B o, Abs.cell W B o = Abs.cell W1 B o) → (∀ B o, Abs.cold W B o = Abs.cold W1 B o) → ∀ ty dc, (Builtin.copy_ #[23, 22] ty #[.slice (some ⟨B, i * 4, none⟩) (n + m - i) dc, .slice (some ⟨vb, voff, none⟩) m vc]).run Try.prog W = .ok (goInt m) (Abs.setRow W B (i * 4) vs) := fun W hWc hWf ty dc =>
    run_copyS W _ _ ty 43 4 B (i * 4) (n + m - i) dc vb voff m vc m _ uS zE (by simp only [Nat.min_def]; split <;> omega) hvl (fun j hj => by
      rw [hWc, hW1, Abs.setRow_other _ _ _ _ _ _ (.inl hvb)]
      exact hvs j hj) (fun j hj => by
        have := Abs.kept_there (w := w.drew) hkp (hsp (i * 4 + j) (by omega))
        rw [hWc, hWf]
        exact this) h1v
  rw [← hW1] at hcp1
  have mixed : Try.prog.follows .mixedOrders = true := by kernel_rfl
  go_enter Try.func75, Try.ntmps75
  go_wp2_with (simp only [hov])
  go_region_law_o (refine step_copy_runI rfl _ _ 23 23 rfl _ _ (by simp [Act.eval, Act.put]) (by simp [Act.eval, Act.put]) (hcp1 _ _ _) ?_)
  go_wp2_with (at_builtin; refine wpList_copy_runI _ rfl _ _ 23 22 rfl _ _ rfl rfl (hcp2 _ (fun _ _ => rfl) (fun _ _ => rfl) _ _) ?_)
  go_ret
  first | exact ⟨rfl, rfl⟩ | exact ⟨rfl, by rw [hW1]⟩


theorem iE : ∃ i z, Try.prog.info? 43 = some i ∧ i.zero = some z ∧ i.size = 4 ∧ i.bytes ≤ 4096 ∧ z.cells.size = 4 := by
  have h : (Try.prog.info? 43).any (fun i => i.size == 4 && (decide (i.bytes ≤ 4096) && (match i.zero with | some z => z.cells.size == 4 | none => false))) = true := by kernel_rfl
  cases e : Try.prog.info? 43 with
  | none => rw [e] at h; cases h
  | some i =>
    rw [e] at h
    simp only [Option.any_some, Bool.and_eq_true, beq_iff_eq, decide_eq_true_eq] at h
    obtain ⟨h1, h2, h3⟩ := h
    cases hz : i.zero with
    | none => rw [hz] at h3; cases h3
    | some z =>
      rw [hz] at h3
      exact ⟨i, z, rfl, hz, h1, h2, by simpa using h3⟩

theorem u3 : Try.prog.underlying 3 = some (.int .i64) := by kernel_rfl

set_option maxHeartbeats 4000000 in
set_option maxRecDepth 100000 in
/-- at the end: an append -/
theorem ins_end (B n c vb voff m vc : Nat) (w : World) (hm : 0 < m) (hnc : n ≤ c) {val : Value} {w' : World}
    (hrun : (Builtin.append_ #[23, 22] 23 #[.slice (some ⟨B, 0, none⟩) n c, .slice (some ⟨vb, voff, none⟩) m vc]).run Try.prog w = .ok val w') :
    Calls Try.prog 75 #[.slice (some ⟨B, 0, none⟩) n c, .int .i64 n, .slice (some ⟨vb, voff, none⟩) m vc] w fun e w2 => e = .returned val ∧ w2 = w' := by
  have hz1 : ¬ ((m : Int) = 0) := by omega
  have mixed : Try.prog.follows .mixedOrders = true := by kernel_rfl
  go_enter Try.func75, Try.ntmps75
  go_wp2_with (at_builtin; refine Lib.wpList_append_run _ rfl _ _ _ _ rfl _ _ rfl rfl _ _ hrun ?_)
  all_goals (go_ret; exact ⟨rfl, rfl⟩)

set_option maxHeartbeats 4000000 in
set_option maxRecDepth 100000 in
theorem ins_nil (vb voff m vc : Nat) (w : World) (hm : 0 < m) {val : Value} {w' : World}
    (hrun : (Builtin.append_ #[23, 22] 23 #[.slice none 0 0, .slice (some ⟨vb, voff, none⟩) m vc]).run Try.prog w = .ok val w') :
    Calls Try.prog 75 #[.slice none 0 0, .int .i64 0, .slice (some ⟨vb, voff, none⟩) m vc] w fun e w2 => e = .returned val ∧ w2 = w' := by
  have hz1 : ¬ ((m : Int) = 0) := by omega
  have mixed : Try.prog.follows .mixedOrders = true := by kernel_rfl
  go_enter Try.func75, Try.ntmps75
  go_wp2_with (at_builtin; refine Lib.wpList_append_run _ rfl _ _ _ _ rfl _ _ rfl rfl _ _ hrun ?_)
  all_goals (go_ret; exact ⟨rfl, rfl⟩)

set_option maxHeartbeats 4000000 in
set_option maxRecDepth 100000 in
/-- the place is not the end, and there is no room: a new row -/
theorem ins_grow (B n c i vb voff m vc : Nat) (cs vs : List Value) (w : World) (hi : i < n) (hm : 0 < m) (hnc : n ≤ c) (hroom : c < n + m) (hlim : n + m ≤ 4294967296)
    (hcl : cs.length = n * 4) (hvl : vs.length = m * 4)
    (hcs : ∀ (j : Nat) (hj : j < cs.length), Abs.cell w B j = some cs[j])
    (hvs : ∀ (j : Nat) (hj : j < vs.length), Abs.cell w vb (voff + j) = some vs[j]) (h1c : ∀ v ∈ cs, v.oneCell' = true) (h1v : ∀ v ∈ vs, v.oneCell' = true) :
    ∃ (G : Nat) (ROW : Array Value), n + m ≤ G ∧ G ≤ 9223372036854775807 ∧ ROW.size = G * 4 ∧ (∀ (j : Nat) (hj : j < i * 4), ROW[j]? = cs[j]?) ∧
    Calls Try.prog 75 #[.slice (some ⟨B, 0, none⟩) n c, .int .i64 i, .slice (some ⟨vb, voff, none⟩) m vc] w fun e w' =>
      e = .returned (.slice (some ⟨w.heap.size, 0, none⟩) (n + m) G) ∧
      w' = Abs.setRow ((Abs.setRow (w.alloc (.cells ROW 43)).drew w.heap.size (i * 4) vs).drew) w.heap.size ((i + m) * 4) (cs.drop (i * 4)) := by
  obtain ⟨i0, z, hi0, hz0, hzs, hzb, hzc⟩ := iE
  have mixed : Try.prog.follows .mixedOrders = true := by kernel_rfl
  have hz1 : ¬ ((m : Int) = 0) := by omega
  have hz2 : ¬ ((i : Int) = (n : Int)) := by omega
  have hz3 : (c : Int) < (n : Int) + (m : Int) := by omega
  have hbw : B < w.heap.size := Abs.cell_lt (hcs 0 (by omega))
  have hvw : vb < w.heap.size := Abs.cell_lt (hvs 0 (by omega))
  have hkk : (n : Int) + (m : Int) - (i : Int) = ((n + m - i : Nat) : Int) := by omega
  have hik : i + (n + m - i) = n + m := by omega
  have hold : (Builtin.firstCells i0.size i (.slice (some ⟨B, 0, none⟩) i c)).run Try.prog w.drew = .ok (cs.take (i * 4)).toArray w.drew := by
    rw [hzs]
    simp only [Builtin.firstCells]
    have := run_loadCells (P := Try.prog) w.drew ⟨B, 0, none⟩ (i * 4) (fun j => cs.getD j undef) (fun j hj => by
      have hj' : j < cs.length := by omega
      rw [add_none, getD_of hj', Nat.zero_add]
      exact hcs j hj')
    rw [this]
    congr 1
    apply Array.ext'
    simp only []
    apply List.ext_getElem
    · simp; omega
    · intro j h1 h2
      have : j < cs.length := by simp at h1; omega
      simp [this]
  have hfit : Builtin.nextslicecap (n + m) c * i0.bytes ≤ 281474976710656 := by
    have h2 := Abs.nextcap_le (need := n + m) (cap := c) (by omega)
    have h3 : Builtin.nextslicecap (n + m) c * i0.bytes ≤ 8589935360 * 4096 := Nat.mul_le_mul (by omega) hzb
    omega
  have hkb : (n + m - i) * i0.bytes ≤ 281474976710656 := by
    have h3 : (n + m - i) * i0.bytes ≤ 4294967296 * 4096 := Nat.mul_le_mul (by omega) hzb
    omega
  have hrz : ∀ ty, (Builtin.append_ #[23, 3] ty #[.slice (some ⟨B, 0, none⟩) i c, .int .i64 ((n : Int) + (m : Int) - (i : Int))]).run Try.prog w =
      .ok (.slice (some ⟨w.heap.size, 0, none⟩) (n + m) (grownCap w (n + m) c 43)) (w.drew.alloc (.cells ((cs.take (i * 4)).toArray ++ Builtin.zeroCells z.cells (n + m - i) ++ Builtin.zeroCells z.cells (grownCap w (n + m) c 43 - (n + m))) 43)) := fun ty => by
    have h := Lib.run_append_grow_zeros w 23 3 ty 43 i0 z .i64 .i64 uS u3 hi0 hz0 (some ⟨B, 0, none⟩) i c (cs.take (i * 4)) hold (n + m - i) (by omega) (by omega) (by omega) (by omega) hkb (by rw [hik]; exact hfit)
    rw [hik] at h
    rw [hkk]
    exact h
  obtain ⟨G, hG⟩ : ∃ G, G = grownCap w (n + m) c 43 := ⟨_, rfl⟩
  obtain ⟨ROW, hROW⟩ : ∃ ROW : Array Value, ROW = (cs.take (i * 4)).toArray ++ Builtin.zeroCells z.cells (n + m - i) ++ Builtin.zeroCells z.cells (G - (n + m)) := ⟨_, rfl⟩
  rw [← hG, ← hROW] at hrz
  have hGn : n + m ≤ G := by rw [hG]; exact grownCap_ge w _ _ _
  have hG63 : G ≤ 9223372036854775807 := by
    have := grownCap_le_maxLen w (n + m) c 43 (by unfold maxLen; omega)
    rw [← hG] at this
    unfold maxLen at this
    omega
  have hRl : ROW.size = G * 4 := by
    rw [hROW]
    simp only [Array.size_append, List.size_toArray, size_zeroCells, hzc, List.length_take, hcl]
    omega
  refine ⟨G, ROW, hGn, hG63, hRl, fun j hj => ?_, ?_⟩
  · rw [hROW, Array.append_assoc, Array.getElem?_append_left (by simp; omega)]
    simp [List.getElem?_take, hj]
  obtain ⟨W1, hW1⟩ : ∃ W1, W1 = w.drew.alloc (.cells ROW 43) := ⟨_, rfl⟩
  rw [← hW1] at hrz
  have hN : ∀ j, j < G * 4 → (∃ u, Abs.cell W1 w.heap.size j = some u) ∧ Abs.cold W1 w.heap.size j = false := fun j hj => by
    rw [hW1]
    exact ⟨⟨ROW[j]'(by omega), Abs.cell_new w.drew ROW 43 j (by omega)⟩, Abs.cold_new w.drew ROW 43 j⟩
  have hOld : ∀ b o v, b < w.heap.size → Abs.cell w b o = some v → Abs.cell W1 b o = some v := fun b o v hb h => by
    have : Abs.cell W1 b o = Abs.cell w b o := by rw [hW1]; exact World.cell?_alloc_past (w := w.drew) _ b o hb
    rw [this]; exact h
  have hcpA : ∀ (W : World), (∀ B o, Abs.cell W B o = Abs.cell W1 B o) → (∀ B o, Abs.cold W B o = Abs.cold W1 B o) → ∀ ty dc, (Builtin.copy_ #[23, 22] ty #[.slice (some ⟨w.heap.size, i * 4, none⟩) (n + m - i) dc, .slice (some ⟨vb, voff, none⟩) m vc]).run Try.prog W = .ok (goInt m) (Abs.setRow W w.heap.size (i * 4) vs) := fun W hWc hWf ty dc =>
    run_copyS W _ _ ty 43 4 w.heap.size (i * 4) (n + m - i) dc vb voff m vc m _ uS zE (by simp only [Nat.min_def]; split <;> omega) hvl (fun j hj => by
      rw [hWc]
      exact hOld _ _ _ hvw (hvs j hj)) (fun j hj => by
        rw [hWc, hWf]
        exact hN _ (by omega)) h1v
  have hGi : ¬ (G = i) := by omega
  have hGim : ¬ (G = i + m) := by omega
  have hci : ¬ (c = i) := by omega
  have hbN : B ≠ w.heap.size := by omega
  have hdl : (cs.drop (i * 4)).length = (n - i) * 4 := by rw [List.length_drop, hcl]; omega
  have hcpB : ∀ (W : World), (∀ B o, Abs.cell W B o = Abs.cell (Abs.setRow W1 w.heap.size (i * 4) vs) B o) → (∀ B o, Abs.cold W B o = Abs.cold (Abs.setRow W1 w.heap.size (i * 4) vs) B o) → ∀ ty dc sc, (Builtin.copy_ #[23, 23] ty #[.slice (some ⟨w.heap.size, (i + m) * 4, none⟩) (n + m - (i + m)) dc, .slice (some ⟨B, i * 4, none⟩) (n - i) sc]).run Try.prog W = .ok (goInt ((n - i : Nat) : Int)) (Abs.setRow W w.heap.size ((i + m) * 4) (cs.drop (i * 4))) := fun W hWc hWf ty dc sc =>
    run_copyS W _ _ ty 43 4 w.heap.size ((i + m) * 4) (n + m - (i + m)) dc B (i * 4) (n - i) sc (n - i) _ uS zE (by simp only [Nat.min_def]; split <;> omega) hdl (fun j hj => by
      rw [hWc, Abs.setRow_other _ _ _ _ _ _ (.inl hbN), List.getElem_drop]
      exact hOld _ _ _ hbw (hcs _ _)) (fun j hj => by
        rw [hWc, hWf]
        exact Abs.kept_there (Abs.setRow_kept vs W1 w.heap.size (i * 4) (fun B' _ => B' = w.heap.size) fun _ _ => rfl) (hN _ (by omega))) (fun v hv => h1c v (List.mem_of_mem_drop hv))
  subst hW1
  have hE1 : ∀ B o, Abs.cell (w.alloc (.cells ROW 43)).drew B o = Abs.cell (w.drew.alloc (.cells ROW 43)) B o := fun _ _ => rfl
  have hE2 : ∀ B o, Abs.cold (w.alloc (.cells ROW 43)).drew B o = Abs.cold (w.drew.alloc (.cells ROW 43)) B o := fun _ _ => rfl
  have hE3 : (w.alloc (.cells ROW 43)).drew = w.drew.alloc (.cells ROW 43) := rfl
  have hF1 : ∀ B o, Abs.cell (Abs.setRow (w.alloc (.cells ROW 43)).drew w.heap.size (i * 4) vs).drew B o = Abs.cell (Abs.setRow (w.drew.alloc (.cells ROW 43)) w.heap.size (i * 4) vs) B o := fun _ _ => by rw [hE3]; rfl
  have hF2 : ∀ B o, Abs.cold (Abs.setRow (w.alloc (.cells ROW 43)).drew w.heap.size (i * 4) vs).drew B o = Abs.cold (Abs.setRow (w.drew.alloc (.cells ROW 43)) w.heap.size (i * 4) vs) B o := fun _ _ => by rw [hE3]; rfl
  have hw1 : IntKind.i64.wrap ((i : Int) + (m : Int)) = (i : Int) + (m : Int) := by rw [IntKind.wrap_i64]; omega
  have hb1 : (0 : Int) ≤ (i : Int) + (m : Int) := by omega
  have hin : i ≤ n := by omega
  have htn : ((i : Int) + (m : Int)).toNat = i + m := by omega
  have hb3 : (i : Int) ≤ (n : Int) := by omega
  clear hkk hik hold hROW hG hRl hE3
  go_enter Try.func75, Try.ntmps75
  go_wp2_with (first
    | (at_builtin; refine Lib.wpList_append_run _ rfl _ _ _ _ rfl _ _ rfl rfl _ _ (hrz _) ?_)
    | (at_builtin; refine wpList_copy_runI _ rfl _ _ 23 22 rfl _ _ rfl rfl (hcpA _ hE1 hE2 _ _) ?_))
  go_region_law_o (refine step_copy_runI rfl _ _ 23 23 rfl (.slice (some ⟨w.heap.size, (i + m) * 4, none⟩) (n + m - (i + m)) (G - (i + m))) (.slice (some ⟨B, i * 4, none⟩) (n - i) (c - i)) (by simp [Act.eval, Act.put]) (by simp [Act.eval, Act.put]) (hcpB _ hF1 hF2 3 (G - (i + m)) (c - i)) ?_)
  go_wp2
  go_ret
  exact ⟨rfl, rfl⟩

end Go.Proofs.Ytkfniijfenkocaa
