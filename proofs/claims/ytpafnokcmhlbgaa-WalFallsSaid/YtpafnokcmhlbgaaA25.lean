/-
  From a law's arguments, as the statement reads them, to the interpreter's values, and back from a run that yields true to the statement.
-/
import Derived.Test.YtpafnokcmhlbgaaA24
import Derived.RowKit
import Derived.OpenShut
import Derived.ChangeOld
import Derived.ChangeArms
namespace Go.Abs

variable {E : Env} {P : Program} {W : World} {H : Type} {enc : TypeId × Value → H}

/-- a cell that a program may be handed -/
inductive Cell.Wf (E : Env) : Cell → Prop
  | int (k : IntKind) (n : Int) (h : (Lit.int k n).wf = true) : Cell.Wf E (.int k n)
  | bool (b : Bool) : Cell.Wf E (.bool b)
  | str (s : List UInt8) (h : s.length ≤ maxLen) : Cell.Wf E (.str s)
  | slice (e : TypeId) (rows : Rows) (te : Ty) (he : E.tys e = some te) (hk : ∀ r ∈ rows, r.map Cell.kind = te.kinds) (hl : rows.length ≤ maxLen) (h : ∀ r ∈ rows, ∀ c ∈ r, Cell.Wf E c) : Cell.Wf E (.slice e rows)

def kindsEq : List CK → List CK → Bool
  | [], [] => true
  | j :: r, k :: s => CK.same j k && kindsEq r s
  | _, _ => false

theorem kindsEq_of : ∀ {x y : List CK}, kindsEq x y = true → x = y
  | [], [], _ => rfl
  | [], _ :: _, h => by simp [kindsEq] at h
  | _ :: _, [], h => by simp [kindsEq] at h
  | j :: r, k :: s, h => by
    simp only [kindsEq, Bool.and_eq_true] at h
    rw [CKsame_of h.1, kindsEq_of h.2]

/-- the fields lie one behind the other, and make up the whole -/
def tiles (E : Env) : List (Nat × TypeId) → Nat → List CK → Bool
  | [], _, ks => kindsEq ks []
  | (off, t) :: r, o, ks => Nat.beq off o && (match E.tys t with
    | some ty => kindsEq ty.kinds (takeN ks ty.size) && tiles E r (o + ty.size) (dropN ks ty.size)
    | none => false)

mutual
/-- a type of plain data -/
def plainT (E : Env) : Nat → TypeId → Bool
  | 0, _ => false
  | n + 1, t => match E.tys t with
    | some ty => match ty.desc with
      | .int _ => true
      | .bool => true
      | .str => true
      | .slice e => plainT E n e
      | .struct fs => tiles E fs 0 ty.kinds && plainFs E n fs
      | _ => false
    | none => false
def plainFs (E : Env) : Nat → List (Nat × TypeId) → Bool
  | _, [] => true
  | 0, _ => false
  | n + 1, (_, t) :: r => plainT E n t && plainFs E n r
end

/-- what was there is there still -/
def Stays (W W' : World) : Prop := ∀ B off v, cell W B off = some v → cell W' B off = some v

theorem cells?_stays {W' : World} (hs : Stays W W') {a : Addr} {n : Nat} {cs : List Value} (h : W.cells? 0 a n = some cs) : W'.cells? 0 a n = some cs := by
  unfold World.cells? at h ⊢
  rw [if_pos (Nat.zero_le _)] at h ⊢
  refine mapM_mono (fun i v hv => ?_) h
  have hsp := World.cell?_spot hv
  generalize a.add i = b at hv hsp
  obtain ⟨B, off, sp⟩ := b
  simp only at hsp
  subst hsp
  exact hs B off v hv

theorem cells?_lt {a : Addr} {n : Nat} {cs : List Value} (h : W.cells? 0 a n = some cs) (hn : 0 < n) : a.block < W.heap.size := World.cells?_block h hn

mutual
/-- how much a cell holds -/
def bulkC : Cell → Nat
  | .str s => s.length + 1
  | .slice _ rows => bulkRs rows + 1
  | _ => 1
def bulkR : List Cell → Nat
  | [] => 0
  | c :: r => bulkC c + bulkR r
def bulkRs : List (List Cell) → Nat
  | [] => 0
  | r :: rs => bulkR r + bulkRs rs
end

theorem bulkR_app : ∀ (x y : Row), bulkR (x ++ y) = bulkR x + bulkR y
  | [], y => by simp [bulkR]
  | c :: r, y => by simp [bulkR, bulkR_app r y]; omega

/-- a count over readings that counts at least what the cells hold -/
structure Bulk (B : DataW H → Nat) (BA : List (DataW H) → Nat) : Prop where
  int : ∀ k n, 1 ≤ B (.lit (.int k n))
  bool : ∀ b, 1 ≤ B (.lit (.bool b))
  str : ∀ b, b.length + 1 ≤ B (.lit (.string b))
  nil : 1 ≤ B .nil
  slice : ∀ x y, BA x + 1 ≤ B (.slice x y)
  agg : ∀ x, BA x ≤ B (.agg x)
  cons : ∀ d r, B d + BA r ≤ BA (d :: r)

/-- what is said of a row that reads -/
def Opens (E : Env) (enc : TypeId × Value → H) (P : Program) (W : World) (fuel : Nat) (t : TypeId) (cs : List Value) (ks : List CK) (x : DataW H × List MemPlace) : Prop :=
  ∃ row : Row, row.map Cell.kind = ks ∧ row.length = cs.length ∧ (∀ (i : Nat) (h1 : i < row.length) (h2 : i < cs.length), CR E W (fun _ _ => False) row[i] cs[i]) ∧ (∀ c ∈ row, Cell.Wf E c) ∧ (∀ (B : DataW H → Nat) (BA : List (DataW H) → Nat), Bulk B BA → bulkR row ≤ B x.1) ∧
    ∀ (W' : World) (sp : Nat → Bool), Stays W W' → (∀ b, b < W.heap.size → sp b = true) → DataW.trod enc P W' 0 sp true fuel t cs = some x

theorem map_kind_len {row : Row} {ks : List CK} (h : row.map Cell.kind = ks) : row.length = ks.length := by rw [← h]; simp

theorem open_fields (G : Good P E) {fuel : Nat} {cs : List Value} : ∀ (fs : List Field) (o : Nat) (ks : List CK) (n : Nat) (xs : List (DataW H × List MemPlace)),
    (∀ n t ty cs x, E.tys t = some ty → plainT E n t = true → DataW.trod enc P W 0 (fun _ => true) true fuel t cs = some x → Opens E enc P W fuel t cs ty.kinds x) →
    tiles E (fs.map fun f => (f.offset, f.type)) o ks = true → plainFs E n (fs.map fun f => (f.offset, f.type)) = true → o + ks.length = cs.length →
    (fs.mapM fun f => DataW.trod enc P W 0 (fun _ => true) true fuel f.type ((cs.drop f.offset).take (P.cellsOf f.type))) = some xs →
    ∃ row : Row, row.map Cell.kind = ks ∧ (∀ (i : Nat) (h1 : i < row.length) (h2 : o + i < cs.length), CR E W (fun _ _ => False) row[i] cs[o + i]) ∧ (∀ c ∈ row, Cell.Wf E c) ∧ (∀ (B : DataW H → Nat) (BA : List (DataW H) → Nat), Bulk B BA → bulkR row ≤ BA (xs.map (·.1))) ∧
      ∀ (W' : World) (sp : Nat → Bool), Stays W W' → (∀ b, b < W.heap.size → sp b = true) → (fs.mapM fun f => DataW.trod enc P W' 0 sp true fuel f.type ((cs.drop f.offset).take (P.cellsOf f.type))) = some xs
  | [], o, ks, n, xs, hrec, ht, hp, hl, hx => by
    simp only [List.map_nil, tiles] at ht
    have := kindsEq_of ht
    subst this
    refine ⟨[], rfl, fun i h1 => by simp at h1, fun c hc => by simp at hc, fun _ _ _ => by simp [bulkR], fun _ _ _ _ => by simpa using hx⟩
  | f :: fs, o, ks, 0, xs, hrec, ht, hp, hl, hx => by simp [plainFs] at hp
  | f :: fs, o, ks, n + 1, xs, hrec, ht, hp, hl, hx => by
    simp only [List.map_cons, tiles, Bool.and_eq_true] at ht
    simp only [List.map_cons, plainFs, Bool.and_eq_true] at hp
    obtain ⟨ho, ht⟩ := ht
    have ho := Nat.eq_of_beq_eq_true ho
    cases hty : E.tys f.type with
    | none => rw [hty] at ht; cases ht
    | some ty =>
      rw [hty] at ht
      simp only [Bool.and_eq_true] at ht
      obtain ⟨hk, ht⟩ := ht
      have hk := kindsEq_of hk
      rw [dropN_eq] at ht
      rw [takeN_eq] at hk
      have hT := G.ty _ _ hty
      have hsz : P.cellsOf f.type = ty.size := by
        obtain ⟨i, z, h1, h2, _⟩ := hT.info
        simp [Program.cellsOf, h1, h2]
      have hks : ty.size ≤ ks.length := by
        have := congrArg List.length hk
        rw [hT.len, List.length_take] at this
        omega
      rw [List.mapM_cons] at hx
      cases h1 : DataW.trod enc P W 0 (fun _ => true) true fuel f.type ((cs.drop f.offset).take (P.cellsOf f.type)) with
      | none => rw [h1] at hx; cases hx
      | some y =>
        rw [h1] at hx
        cases h2 : fs.mapM fun f => DataW.trod enc P W 0 (fun _ => true) true fuel f.type ((cs.drop f.offset).take (P.cellsOf f.type)) with
        | none => rw [h2] at hx; cases hx
        | some ys =>
          rw [h2] at hx
          have hx : xs = y :: ys := (Option.some.inj hx).symm
          obtain ⟨row, r1, r2, r3, r4, rb, r5⟩ := hrec n f.type ty _ y hty hp.1 h1
          obtain ⟨row', q1, q2, q3, qb, q4⟩ := open_fields G fs (o + ty.size) (ks.drop ty.size) n ys hrec ht hp.2 (by simp; omega) h2
          have hrl : row.length = ty.size := by rw [map_kind_len r1, hT.len]
          refine ⟨row ++ row', ?_, fun i g1 g2 => ?_, fun c hc => ?_, fun B BA hB => ?_, fun W' sp hs hsp => ?_⟩
          · rw [List.map_append, r1, q1, hk, List.take_append_drop]
          · by_cases hi : i < row.length
            · rw [List.getElem_append_left hi]
              have := r3 i hi (by rw [← r2]; exact hi)
              simp only [List.getElem_take, List.getElem_drop, ho] at this
              exact this
            · rw [List.getElem_append_right (by omega)]
              have := q2 (i - row.length) (by simp at g1; omega) (by omega)
              have e : o + ty.size + (i - row.length) = o + i := by omega
              simp only [e] at this
              exact this
          · rcases List.mem_append.1 hc with hc | hc
            · exact r4 c hc
            · exact q3 c hc
          · have h1 := rb B BA hB
            have h2 := qb B BA hB
            have h3 := hB.cons y.1 (ys.map (·.1))
            rw [bulkR_app, hx]
            simp only [List.map_cons]
            omega
          · rw [List.mapM_cons, r5 W' sp hs hsp, q4 W' sp hs hsp, hx]
            rfl

theorem open_elems {fuel : Nat} {e : TypeId} {te : Ty} {a : Addr} (hpos : 0 < te.size) (hlen : te.kinds.length = te.size) (hsz : P.cellsOf e = te.size)
    (hrec : ∀ cs x, DataW.trod enc P W 0 (fun _ => true) true fuel e cs = some x → Opens E enc P W fuel e cs te.kinds x) : ∀ (n k : Nat) (xs : List (DataW H × List MemPlace)),
    ((List.range' k n).mapM fun i => (W.cells? 0 (a.add (i * P.cellsOf e)) (P.cellsOf e)).bind (DataW.trod enc P W 0 (fun _ => true) true fuel e)) = some xs →
    ∃ rows : Rows, rows.length = n ∧ (∀ r ∈ rows, r.map Cell.kind = te.kinds) ∧ (∀ r ∈ rows, ∀ c ∈ r, Cell.Wf E c) ∧
      (∀ (i j : Nat) (hi : i < rows.length) (hj : j < rows[i].length), ∃ v, W.cell? (a.add ((k + i) * te.size + j)) = some v ∧ CR E W (fun _ _ => False) rows[i][j] v) ∧ (∀ (B : DataW H → Nat) (BA : List (DataW H) → Nat), Bulk B BA → bulkRs rows ≤ BA (xs.map (·.1))) ∧
      ∀ (W' : World) (sp : Nat → Bool), Stays W W' → (∀ b, b < W.heap.size → sp b = true) → ((List.range' k n).mapM fun i => (W'.cells? 0 (a.add (i * P.cellsOf e)) (P.cellsOf e)).bind (DataW.trod enc P W' 0 sp true fuel e)) = some xs
  | 0, k, xs, h => ⟨[], rfl, fun r hr => by simp at hr, fun r hr => by simp at hr, fun i j hi => by simp at hi, fun _ _ _ => by simp [bulkRs], fun _ _ _ _ => by simpa using h⟩
  | n + 1, k, xs, h => by
    rw [List.range'_succ, List.mapM_cons] at h
    cases h1 : W.cells? 0 (a.add (k * P.cellsOf e)) (P.cellsOf e) with
    | none => rw [h1] at h; cases h
    | some cs =>
      rw [h1, Option.bind_some] at h
      cases h2 : DataW.trod enc P W 0 (fun _ => true) true fuel e cs with
      | none => rw [h2] at h; cases h
      | some y =>
        rw [h2] at h
        cases h3 : (List.range' (k + 1) n).mapM fun i => (W.cells? 0 (a.add (i * P.cellsOf e)) (P.cellsOf e)).bind (DataW.trod enc P W 0 (fun _ => true) true fuel e) with
        | none => rw [h3] at h; cases h
        | some ys =>
          rw [h3] at h
          have hx : xs = y :: ys := (Option.some.inj h).symm
          obtain ⟨row, r1, r2, r3, r4, rb, r5⟩ := hrec cs y h2
          obtain ⟨rows, q1, q2, q3, q4, qb, q5⟩ := open_elems hpos hlen hsz hrec n (k + 1) ys h3
          obtain ⟨_, c2, c3⟩ := World.cells?_some h1
          refine ⟨row :: rows, by simp [q1], fun r hr => ?_, fun r hr => ?_, fun i j hi hj => ?_, fun B BA hB => ?_, fun W' sp hs hsp => ?_⟩
          · rcases List.mem_cons.1 hr with rfl | hr
            · exact r1
            · exact q2 r hr
          · rcases List.mem_cons.1 hr with rfl | hr
            · exact r4
            · exact q3 r hr
          · cases i with
            | zero =>
              simp only [List.getElem_cons_zero] at hj ⊢
              have hjc : j < cs.length := by omega
              refine ⟨cs[j], ?_, r3 j hj hjc⟩
              have := c3 j (by rw [← c2]; exact hjc)
              rw [List.getElem?_eq_getElem hjc] at this
              rw [← this, hsz]
              simp only [Addr.add_add, Nat.add_zero]
            | succ i =>
              simp only [List.getElem_cons_succ] at hj ⊢
              have := q4 i j (by simpa using hi) hj
              rwa [show k + 1 + i = k + (i + 1) by omega] at this
          · have h1 := rb B BA hB
            have h2 := qb B BA hB
            have h3 := hB.cons y.1 (ys.map (·.1))
            rw [hx]
            simp only [List.map_cons, bulkRs]
            omega
          · rw [List.range'_succ, List.mapM_cons, cells?_stays hs h1, Option.bind_some, r5 W' sp hs hsp, q5 W' sp hs hsp, hx]
            rfl

theorem slice_inv {e t : TypeId} {fuel : Nat} {cs : List Value} {x : DataW H × List MemPlace} {sp : Nat → Bool} (hu : P.underlying t = some (.slice e)) (h : DataW.trod enc P W 0 sp true (fuel + 1) t cs = some x) :
    (cs = [.slice none 0 0] ∧ x = (.nil, [])) ∨ ∃ (a : Addr) (len cap : Nat) (elems rest : List (DataW H × List MemPlace)), cs = [.slice (some a) len cap] ∧ len ≤ cap ∧ cap ≤ maxLen ∧
      x = (.slice (elems.map (·.1)) (rest.map (·.1)), MemPlace.row a ((elems.length + rest.length) * P.cellsOf e) ++ (elems ++ rest).flatMap (·.2)) ∧
      (List.range len).mapM (fun i => (W.cells? 0 (a.add (i * P.cellsOf e)) (P.cellsOf e)).bind (DataW.trod enc P W 0 sp true fuel e)) = some elems ∧
      (if sp a.block then (List.range (cap - len)).mapM fun j => (W.cells? 0 (a.add ((len + j) * P.cellsOf e)) (P.cellsOf e)).bind (DataW.trod enc P W 0 sp true fuel e) else some []) = some rest := by
  rw [DataW.trod_step] at h
  unfold DataW.trodStep at h
  rw [hu] at h
  split at h <;> simp_all
  simp only [Option.bind_eq_some_iff, Option.map_eq_some_iff] at h
  obtain ⟨⟨hl, hc⟩, elems, he, rest, hr, hd⟩ := h
  exact ⟨_, _, _, ⟨rfl, rfl, rfl⟩, hl, hc, elems, rest, hd.symm, he, hr⟩

theorem slice_mk {e t : TypeId} {fuel : Nat} {sp : Nat → Bool} {a : Addr} {len cap : Nat} {elems rest : List (DataW H × List MemPlace)} (hu : P.underlying t = some (.slice e)) (hl : len ≤ cap) (hc : cap ≤ maxLen)
    (he : (List.range len).mapM (fun i => (W.cells? 0 (a.add (i * P.cellsOf e)) (P.cellsOf e)).bind (DataW.trod enc P W 0 sp true fuel e)) = some elems)
    (hr : (if sp a.block then (List.range (cap - len)).mapM fun j => (W.cells? 0 (a.add ((len + j) * P.cellsOf e)) (P.cellsOf e)).bind (DataW.trod enc P W 0 sp true fuel e) else some []) = some rest) :
    DataW.trod enc P W 0 sp true (fuel + 1) t [.slice (some a) len cap] = some (.slice (elems.map (·.1)) (rest.map (·.1)), MemPlace.row a ((elems.length + rest.length) * P.cellsOf e) ++ (elems ++ rest).flatMap (·.2)) := by
  rw [DataW.trod_step]
  unfold DataW.trodStep
  rw [hu]
  simp only
  rw [if_pos ⟨Nat.zero_le _, hl, hc⟩, he, Option.bind_some, hr]
  rfl

theorem struct_inv {t : TypeId} {fs : Array Field} {fuel : Nat} {cs : List Value} {x : DataW H × List MemPlace} {sp : Nat → Bool} (hu : P.underlying t = some (.struct fs)) (h : DataW.trod enc P W 0 sp true (fuel + 1) t cs = some x) :
    cs.length = P.cellsOf t ∧ ∃ xs, (fs.toList.mapM fun f => DataW.trod enc P W 0 sp true fuel f.type ((cs.drop f.offset).take (P.cellsOf f.type))) = some xs ∧ x = (.agg (xs.map (·.1)), xs.flatMap (·.2)) := by
  rw [DataW.trod_step] at h
  unfold DataW.trodStep at h
  rw [hu] at h
  split at h <;> simp_all
  obtain ⟨hl, xs, h1, h2⟩ := h
  exact ⟨xs, h1, h2.symm⟩

theorem struct_mk {t : TypeId} {fs : Array Field} {fuel : Nat} {cs : List Value} {xs : List (DataW H × List MemPlace)} {sp : Nat → Bool} (hu : P.underlying t = some (.struct fs)) (hl : cs.length = P.cellsOf t)
    (h : (fs.toList.mapM fun f => DataW.trod enc P W 0 sp true fuel f.type ((cs.drop f.offset).take (P.cellsOf f.type))) = some xs) : DataW.trod enc P W 0 sp true (fuel + 1) t cs = some (.agg (xs.map (·.1)), xs.flatMap (·.2)) := by
  rw [DataW.trod_step]
  unfold DataW.trodStep
  rw [hu]
  split <;> simp_all

theorem open_cells (G : Good P E) : ∀ (fuel n : Nat) (t : TypeId) (ty : Ty) (cs : List Value) (x : DataW H × List MemPlace), E.tys t = some ty → plainT E n t = true →
    DataW.trod enc P W 0 (fun _ => true) true fuel t cs = some x → Opens E enc P W fuel t cs ty.kinds x := by
  intro fuel
  induction fuel with
  | zero => intro n t ty cs x _ _ h; simp [DataW.trod] at h
  | succ fuel ih =>
    intro n t ty cs x ht hp h
    cases n with
    | zero => simp [plainT] at hp
    | succ n =>
      have hT := G.ty t ty ht
      obtain ⟨d, hu, hD⟩ := hT.desc
      rw [plainT, ht] at hp
      dsimp only at hp
      have hsz : ∀ t ty, E.tys t = some ty → P.cellsOf t = ty.size := fun t ty ht => by
        obtain ⟨i, z, h1, h2, _⟩ := (G.ty t ty ht).info
        simp [Program.cellsOf, h1, h2]
      unfold DescOk at hD
      cases hd : ty.desc with
      | int k =>
        rw [hd] at hD
        cases d <;> simp only at hD
        obtain ⟨rfl, hks⟩ := hD
        obtain ⟨m, rfl, rfl, hw⟩ := DataW.trod_int hu h
        refine ⟨[.int k m], by rw [hks]; rfl, rfl, fun i h1 h2 => ?_, fun c hc => ?_, fun B BA hB => by simpa [bulkR, bulkC] using hB.int k m, fun W' sp _ _ => ?_⟩
        · cases i with
          | zero => exact .int _ _
          | succ i => simp at h1
        · simp only [List.mem_singleton] at hc; subst hc; exact .int _ _ hw
        · exact ChangeShapes.trod_int_mk _ hu hw
      | bool =>
        rw [hd] at hD
        cases d <;> simp only at hD
        obtain ⟨b, rfl, rfl⟩ := DataW.trod_bool hu h
        refine ⟨[.bool b], by rw [hD]; rfl, rfl, fun i h1 h2 => ?_, fun c hc => ?_, fun B BA hB => by simpa [bulkR, bulkC] using hB.bool b, fun W' sp _ _ => by simp [DataW.trod, hu]⟩
        · cases i with
          | zero => exact .bool _
          | succ i => simp at h1
        · simp only [List.mem_singleton] at hc; subst hc; exact .bool _
      | str =>
        rw [hd] at hD
        cases d <;> simp only at hD
        obtain ⟨b, rfl, rfl, hb⟩ := DataW.trod_string hu h
        refine ⟨[.str b.data.toList], by rw [hD]; rfl, rfl, fun i h1 h2 => ?_, fun c hc => ?_, fun B BA hB => by simpa [bulkR, bulkC] using hB.str b.data.toList, fun W' sp _ _ => by simp [DataW.trod, hu, hb]⟩
        · cases i with
          | zero =>
            have : b = ⟨b.data.toList.toArray⟩ := by simp
            conv => arg 5; rw [List.getElem_cons_zero, this]
            exact .str _
          | succ i => simp at h1
        · simp only [List.mem_singleton] at hc; subst hc; exact .str _ (by simpa using hb)
      | slice e =>
        rw [hd] at hD hp
        cases d <;> simp only at hD
        obtain ⟨rfl, hks⟩ := hD
        dsimp only at hp
        have hone : ∀ {c : Cell} {v : Value}, CR E W (fun _ _ => False) c v → ∀ (i : Nat) (h1 : i < [c].length) (h2 : i < [v].length), CR E W (fun _ _ => False) [c][i] [v][i] := fun hc i h1 h2 => by
          cases i with
          | zero => exact hc
          | succ i => simp at h1
        obtain ⟨te, hte⟩ : ∃ te, E.tys e = some te := by
          cases n with
          | zero => simp [plainT] at hp
          | succ n =>
            rw [plainT] at hp
            cases hte : E.tys e with
            | none => rw [hte] at hp; cases hp
            | some te => exact ⟨te, rfl⟩
        rcases slice_inv hu h with ⟨rfl, rfl⟩ | ⟨a, len, cap, elems, rest, rfl, hl, hc, rfl, he, hr⟩
        · refine ⟨[.slice e []], by rw [hks]; rfl, rfl, hone (.empty _ _ _), fun c hc => ?_, fun B BA hB => by simpa [bulkR, bulkC, bulkRs] using hB.nil, fun W' sp _ _ => by simp [DataW.trod, hu]⟩
          simp only [List.mem_singleton] at hc; subst hc
          exact .slice e [] te hte (fun r hr => by simp at hr) (by simp) (fun r hr => by simp at hr)
        · simp only [if_true] at hr
          have hTe := G.ty e te hte
          have hpos := hTe.pos
          have hszE := hsz e te hte
          have hrec := fun cs x => ih n e te cs x hte hp
          rw [List.range_eq_range'] at he hr
          obtain ⟨rows, q1, q2, q3, q4, qb, q5⟩ := open_elems (a := a) hpos hTe.len hszE hrec len 0 elems he
          have hev : Even te.size rows := fun r hr => by rw [map_kind_len (q2 r hr), hTe.len]
          refine ⟨[.slice e rows], by rw [hks]; rfl, rfl, hone ?_, fun c hc => ?_, fun B BA hB => ?_, fun W' sp hs hsp => ?_⟩
          · cases rows with
            | nil => simp only [List.length_nil] at q1; subst q1; exact .empty _ _ _
            | cons r0 rs =>
              have hr0 : 0 < r0.length := by rw [hev r0 (by simp)]; omega
              have hspot : a.spot = none := by
                obtain ⟨v, hv, _⟩ := q4 0 0 (by simp) (by simpa using hr0)
                have := World.cell?_spot hv
                simpa [Addr.add] using this
              obtain ⟨B, off, sp⟩ := a
              simp only at hspot
              subst hspot
              have key : ∀ i, i < (r0 :: rs).flatten.length → ∃ v, cell W B (off + i) = some v ∧ ∀ h : i < (r0 :: rs).flatten.length, CR E W (fun _ _ => False) (r0 :: rs).flatten[i] v := fun i hi => by
                have hfl := flat_len hev
                have h1 : i / te.size < (r0 :: rs).length := by
                  rw [hfl] at hi
                  exact Nat.div_lt_of_lt_mul (by rw [Nat.mul_comm]; exact hi)
                have h2 : i % te.size < te.size := Nat.mod_lt _ hpos
                obtain ⟨g1, g2, g3⟩ := flat_get hev h1 h2
                obtain ⟨v, hv, hcr⟩ := q4 (i / te.size) (i % te.size) h1 g2
                have hi' : i / te.size * te.size + i % te.size = i := by rw [Nat.mul_comm]; exact Nat.div_add_mod i te.size
                refine ⟨v, ?_, fun h => ?_⟩
                · rw [Nat.zero_add, hi'] at hv
                  have ha : (⟨B, off, none⟩ : Addr).add i = ⟨B, off + i, none⟩ := by
                    unfold Addr.add
                    split
                    · rename_i e0; subst e0; rfl
                    · rfl
                  rw [ha] at hv
                  exact hv
                · have : (r0 :: rs).flatten[i] = (r0 :: rs).flatten[i / te.size * te.size + i % te.size]'(by rw [hi']; exact h) := by congr 1; exact hi'.symm
                  rw [this, g3]
                  exact hcr
              rw [← q1]
              exact .slice e (r0 :: rs) te B off cap (fun i => (cell W B (off + i)).getD undef) hte q2 (by omega) (fun i hi => by
                obtain ⟨v, hv, _⟩ := key i hi
                rw [hv]; exact ⟨rfl, id⟩) (fun i hi => by
                obtain ⟨v, hv, h2⟩ := key i hi
                rw [hv]; exact h2 hi)
          · simp only [List.mem_singleton] at hc; subst hc
            exact .slice e rows te hte q2 (by omega) q3
          · have h1 := qb B BA hB
            have h2 := hB.slice (elems.map (·.1)) (rest.map (·.1))
            simp only [bulkR, bulkC]
            omega
          · refine slice_mk hu hl hc (by rw [List.range_eq_range']; exact q5 W' sp hs hsp) ?_
            have hrest : ∀ (m k : Nat) (ys : List (DataW H × List MemPlace)), ((List.range' k m).mapM fun j => (W.cells? 0 (a.add ((len + j) * P.cellsOf e)) (P.cellsOf e)).bind (DataW.trod enc P W 0 (fun _ => true) true fuel e)) = some ys →
                ((List.range' k m).mapM fun j => (W'.cells? 0 (a.add ((len + j) * P.cellsOf e)) (P.cellsOf e)).bind (DataW.trod enc P W' 0 sp true fuel e)) = some ys := by
              intro m k ys hy
              refine mapM_mono (fun j y hj => ?_) hy
              cases hcs : W.cells? 0 (a.add ((len + j) * P.cellsOf e)) (P.cellsOf e) with
              | none => rw [hcs] at hj; cases hj
              | some cs =>
                rw [hcs, Option.bind_some] at hj
                obtain ⟨_, _, _, _, _, _, k5⟩ := hrec cs y hj
                rw [cells?_stays hs hcs, Option.bind_some, k5 W' sp hs hsp]
            cases hcl : cap - len with
            | zero =>
              rw [hcl] at hr
              simp at hr
              subst hr
              split <;> simp
            | succ m =>
              have hlt : a.block < W.heap.size := by
                rw [hcl, List.range'_succ, List.mapM_cons] at hr
                cases hcs : W.cells? 0 (a.add ((len + 0) * P.cellsOf e)) (P.cellsOf e) with
                | none => rw [hcs] at hr; cases hr
                | some cs =>
                  have := cells?_lt hcs (by omega)
                  unfold Addr.add at this
                  split at this <;> exact this
              rw [hsp _ hlt]
              simp only [if_true]
              rw [List.range_eq_range', ← hcl]
              exact hrest _ _ _ hr
      | struct fs =>
        rw [hd] at hD hp
        cases d <;> simp only at hD
        rename_i fields
        dsimp only at hp
        rw [Bool.and_eq_true] at hp
        obtain ⟨hl, xs, hx, rfl⟩ := struct_inv hu h
        have hcs : cs.length = ty.size := hl.trans (hsz t ty ht)
        obtain ⟨row, q1, q2, q3, qb, q4⟩ := open_fields G (enc := enc) (W := W) (fuel := fuel) (cs := cs) fields.toList 0 ty.kinds n xs (fun n t ty cs x => ih n t ty cs x) (by rw [hD]; exact hp.1) (by rw [hD]; exact hp.2) (by rw [hT.len, hcs]; omega) hx
        refine ⟨row, q1, by rw [map_kind_len q1, hT.len, hcs], fun i h1 h2 => ?_, q3, fun B BA hB => Nat.le_trans (qb B BA hB) (hB.agg _), fun W' sp hs hsp => ?_⟩
        · have := q2 i h1 (by omega)
          simpa using this
        · exact struct_mk hu hl (q4 W' sp hs hsp)
      | array _ _ => rw [hd] at hp; cases hp
      | ptr _ => rw [hd] at hp; cases hp
      | fn => rw [hd] at hp; cases hp
      | other => rw [hd] at hp; cases hp

end Go.Abs
