/-
  What is to follow an operation may be bound behind it.
-/
import Derived.Test.YtpafnokcmhlbgaaA14
namespace Go.Abs

section nat
variable {β γ : Type} (E : Env) (f : β → Option γ)

theorem bind_none' : (none : Option β).bind f = none := rfl

theorem zerosK_nat : ∀ (ks : List CK) (K : List AC → Option β), (zerosK ks K).bind f = zerosK ks fun u => (K u).bind f
  | [], K => rfl
  | k :: ks, K => by
    simp only [zerosK]
    cases zeroK k with
    | none => rfl
    | some a => exact zerosK_nat ks _

theorem projK_nat (row : Row) : ∀ (ks : List CK) (j : Nat) (K : List AC → Option β), (projK row ks j K).bind f = projK row ks j fun u => (K u).bind f
  | [], _, K => rfl
  | k :: ks, j, K => by
    simp only [projK]
    cases projCell row j k with
    | none => rfl
    | some a => exact projK_nat row ks _ _

theorem rowK_nat : ∀ (ks : List CK) (l : List AC) (K : Row → Option β), (rowK ks l K).bind f = rowK ks l fun u => (K u).bind f
  | [], [], K => rfl
  | [], _ :: _, K => rfl
  | _ :: _, [], K => rfl
  | k :: ks, a :: r, K => by
    simp only [rowK]
    cases (fitK k a).toCell with
    | none => rfl
    | some c =>
      dsimp only
      cases CK.same c.kind k with
      | false => rfl
      | true => exact rowK_nat ks r _

theorem takeK_nat : ∀ (l : List AC) (o n : Nat) (K : List AC → Option β), (takeK l o n K).bind f = takeK l o n fun u => (K u).bind f
  | l, o, 0, K => by cases l <;> cases o <;> rfl
  | [], o, n + 1, K => by cases o <;> rfl
  | a :: r, 0, n + 1, K => takeK_nat r 0 n _
  | a :: r, o + 1, n + 1, K => takeK_nat r o (n + 1) _

theorem storeK_nat : ∀ (l : List AC) (o : Nat) (xs : List AC) (K : List AC → Option β), (storeK l o xs K).bind f = storeK l o xs fun u => (K u).bind f
  | l, o, [], K => by cases l <;> cases o <;> rfl
  | [], o, _ :: _, K => by cases o <;> rfl
  | a :: r, 0, x :: xs, K => storeK_nat r 0 xs _
  | a :: r, o + 1, x :: xs, K => storeK_nat r o (x :: xs) _

theorem cond_bind (b : Bool) (x y : Option β) : (cond b x y).bind f = cond b (x.bind f) (y.bind f) := by cases b <;> rfl
theorem pureK_nat (v : AV) (K : Upd → Option β) : (pureK v K).bind f = pureK v fun u => (K u).bind f := rfl
theorem intK_nat (k : IntKind) (n : Int) (K : Upd → Option β) : (intK k n K).bind f = intK k n fun u => (K u).bind f := rfl
theorem boolK_nat (b : Bool) (K : Upd → Option β) : (boolK b K).bind f = boolK b fun u => (K u).bind f := rfl

theorem binK_nat (op : BinOp) (t : TypeId) (x y : AV) (K : Upd → Option β) : (binK E op t x y K).bind f = binK E op t x y fun u => (K u).bind f := by
  unfold binK
  split
  · split <;> simp only [cond_bind, bind_none', intK_nat]
    congr 1
    split <;> first | rfl | simp only [cond_bind, bind_none', intK_nat]
  · split <;> simp only [cond_bind, bind_none', pureK_nat, boolK_nat]
  · split
    · split
      · simp only [cond_bind, bind_none']
        congr 1
        split <;> rfl
      · rfl
    · rfl
  · split
    · simp only [cond_bind, bind_none']
      congr 1
      split <;> rfl
    · rfl
  · split
    · simp only [cond_bind, bind_none']
      congr 1
      split <;> rfl
    · rfl
  · rfl

theorem unK_nat (op : UnOp) (x : AV) (K : Upd → Option β) : (unK op x K).bind f = unK op x fun u => (K u).bind f := by
  unfold unK; split <;> rfl

theorem convK_nat (s d : TypeId) (x : AV) (K : Upd → Option β) : (convK E s d x K).bind f = convK E s d x fun u => (K u).bind f := by
  unfold convK
  repeat' split
  all_goals first | rfl | simp only [cond_bind, bind_none', pureK_nat]

theorem cellsK_nat (ty : Ty) (v : AV) (K : List AC → Option β) : (cellsK ty v K).bind f = cellsK ty v fun u => (K u).bind f := by
  unfold cellsK
  repeat' split
  all_goals first | rfl | simp only [cond_bind, bind_none']

theorem valueK_nat (ty : Ty) (l : List AC) (K : AV → Option β) : (valueK ty l K).bind f = valueK ty l fun u => (K u).bind f := by
  unfold valueK
  split <;> rfl

theorem loadK_nat (tk : Bool) (t : TypeId) (st : St) (p : AV) (K : Upd → Option β) : (loadK E tk t st p K).bind f = loadK E tk t st p fun u => (K u).bind f := by
  unfold loadK
  split
  · rfl
  · split
    · split
      · simp only [takeK_nat, valueK_nat]
        congr 1; funext l; congr 1; funext v
        split
        · rfl
        · exact storeK_nat _ _ _ _ _
      · rfl
    · split
      · simp only [cond_bind, bind_none', projK_nat, valueK_nat]
      · rfl
    · split
      · simp only [valueK_nat]
      · rfl
    · split
      · split
        · simp only [cond_bind, bind_none', projK_nat, valueK_nat]
        · rfl
      · rfl
    · rfl

theorem storeOpK_nat (t : TypeId) (st : St) (p v : AV) (dis : Option Nat) (K : Upd → Option β) : (storeOpK E t st p v dis K).bind f = storeOpK E t st p v dis fun u => (K u).bind f := by
  unfold storeOpK
  repeat' split
  all_goals first | rfl | simp only [cond_bind, bind_none', cellsK_nat, storeK_nat, rowK_nat]

theorem storeNK_nat (t : TypeId) (st : St) (p v : AV) (K : Upd → Option β) : (storeNK E t st p v K).bind f = storeNK E t st p v fun u => (K u).bind f := by
  unfold storeNK
  repeat' split
  all_goals first | rfl | simp only [cond_bind, bind_none', storeK_nat]

theorem indexAddrK_nat (t : TypeId) (x i : AV) (K : Upd → Option β) : (indexAddrK E t x i K).bind f = indexAddrK E t x i fun u => (K u).bind f := by
  unfold indexAddrK
  repeat' split
  all_goals first | rfl | simp only [cond_bind, bind_none', pureK_nat]

theorem fieldAddrK_nat (s : TypeId) (x : AV) (g : Nat) (K : Upd → Option β) : (fieldAddrK E s x g K).bind f = fieldAddrK E s x g fun u => (K u).bind f := by
  unfold fieldAddrK
  repeat' split
  all_goals rfl

theorem fieldK_nat (s : TypeId) (x : AV) (g : Nat) (K : Upd → Option β) : (fieldK E s x g K).bind f = fieldK E s x g fun u => (K u).bind f := by
  unfold fieldK
  repeat' split
  all_goals first | rfl | simp only [takeK_nat, valueK_nat, pureK_nat]

theorem indexK_nat (t : TypeId) (x i : AV) (K : Upd → Option β) : (indexK E t x i K).bind f = indexK E t x i fun u => (K u).bind f := by
  unfold indexK
  repeat' split
  all_goals first | rfl | simp only [cond_bind, bind_none', intK_nat]

theorem sliceRK_nat (own : Bool) (e : TypeId) (rows : Rows) (lo hi mx : Option AV) (K : AV → Option β) : (sliceRK own e rows lo hi mx K).bind f = sliceRK own e rows lo hi mx fun u => (K u).bind f := by
  unfold sliceRK
  repeat' split
  all_goals first | rfl | simp only [cond_bind, bind_none']

theorem sliceSK_nat (s : List UInt8) (lo hi : Option AV) (K : AV → Option β) : (sliceSK s lo hi K).bind f = sliceSK s lo hi fun u => (K u).bind f := by
  unfold sliceSK
  repeat' split
  all_goals first | rfl | simp only [cond_bind, bind_none']

theorem sliceWK_nat (e : TypeId) (b lo0 n : Nat) (c : Option Nat) (lo hi mx : Option AV) (K : AV → Option β) : (sliceWK e b lo0 n c lo hi mx K).bind f = sliceWK e b lo0 n c lo hi mx fun u => (K u).bind f := by
  unfold sliceWK
  repeat' split
  all_goals first | rfl | simp only [cond_bind, bind_none']

theorem sliceK_nat (t : TypeId) (dis : Option Nat) (x : AV) (lo hi mx : Option AV) (K : Upd → Option β) : (sliceK E t dis x lo hi mx K).bind f = sliceK E t dis x lo hi mx fun u => (K u).bind f := by
  unfold sliceK
  repeat' split
  all_goals first | rfl | simp only [cond_bind, bind_none', sliceRK_nat, sliceSK_nat, sliceWK_nat, pureK_nat]

theorem appendK_nat (t t2 : TypeId) (dis : Option Nat) (x y : AV) (K : Upd → Option β) : (appendK E t t2 dis x y K).bind f = appendK E t t2 dis x y fun u => (K u).bind f := by
  unfold appendK
  split
  · rfl
  · rfl
  · simp only [cond_bind, bind_none']
    congr 1
    repeat' split
    all_goals try (first | rfl | simp only [cond_bind, bind_none'])
    all_goals try (congr 1; repeat' split)
    all_goals first | rfl | simp only [cond_bind, bind_none']

theorem mappK_nat (t t2 e : TypeId) (b n : Nat) (st : St) (y : AV) (K : Upd → Option β) : (mappK E t t2 e b n st y K).bind f = mappK E t t2 e b n st y fun u => (K u).bind f := by
  unfold mappK
  split
  · simp only [cond_bind, bind_none']
    congr 1
    split
    · split
      · simp only [cond_bind, bind_none']
        congr 1
        split
        · simp only [cond_bind, bind_none']
        · rfl
      · rfl
    · rfl
  · rfl

theorem thawK_nat (t : TypeId) (st : St) (x : AV) (K : Upd → Option β) : (thawK E t st x K).bind f = thawK E t st x fun u => (K u).bind f := by
  unfold thawK
  repeat' split
  all_goals rfl

theorem thawBK_nat (t : TypeId) (len : Nat) (st : St) (K : Upd → Option β) : (thawBK E t len st K).bind f = thawBK E t len st fun u => (K u).bind f := by
  unfold thawBK
  repeat' split
  all_goals first | rfl | simp only [cond_bind, bind_none']

theorem freezeK_nat (st : St) (x : AV) (K : Upd → Option β) : (freezeK st x K).bind f = freezeK st x fun u => (K u).bind f := by
  unfold freezeK
  repeat' split
  all_goals first | rfl | simp only [cond_bind, bind_none']

theorem srcK_nat (st : St) (y : AV) (K : AV → List Nat → Option β) : (srcK E st y K).bind f = srcK E st y fun v rd => (K v rd).bind f := by
  unfold srcK
  repeat' split
  all_goals first | rfl | simp only [cond_bind, bind_none']

theorem wappK_nat (t t2 e : TypeId) (b lo n c : Nat) (st : St) (y : AV) (K : Upd → Option β) : (wappK E t t2 e b lo n c st y K).bind f = wappK E t t2 e b lo n c st y fun u => (K u).bind f := by
  unfold wappK
  split
  · simp only [cond_bind, bind_none']
    congr 1
    split
    · simp only [cond_bind, bind_none']
      congr 1
      split
      · simp only [cond_bind, bind_none']
      · rfl
    · rfl
  · rfl

theorem mzappK_nat (t t2 e : TypeId) (b n : Nat) (st : St) (k : Int) (K : Upd → Option β) : (mzappK E t t2 e b n st k K).bind f = mzappK E t t2 e b n st k fun u => (K u).bind f := by
  unfold mzappK
  repeat' split
  all_goals first | rfl | simp only [cond_bind, bind_none', zerosK_nat, rowK_nat]

theorem appAnyK_nat (t t2 : TypeId) (dis : Option Nat) (x : AV) (st : St) (y : AV) (K : Upd → Option β) : (appAnyK E t t2 dis x st y K).bind f = appAnyK E t t2 dis x st y fun u => (K u).bind f := by
  unfold appAnyK
  split
  · split
    · exact mzappK_nat _ _ _ _ _ _ _ _ _ _
    · exact mappK_nat _ _ _ _ _ _ _ _ _ _
  · exact wappK_nat _ _ _ _ _ _ _ _ _ _ _ _
  · exact appendK_nat _ _ _ _ _ _ _ _

theorem copyBK_nat (e0 e : TypeId) (b lo n : Nat) (st : St) (y : AV) (K : Upd → Option β) : (copyBK e0 e b lo n st y K).bind f = copyBK e0 e b lo n st y fun u => (K u).bind f := by
  unfold copyBK
  split
  · simp only [cond_bind, bind_none']
  · rfl

theorem copyK_nat (t : TypeId) (x : AV) (st : St) (y : AV) (K : Upd → Option β) : (copyK E t x st y K).bind f = copyK E t x st y fun u => (K u).bind f := by
  unfold copyK
  repeat' split
  all_goals first | rfl | simp only [cond_bind, bind_none', copyBK_nat]

theorem thawMK_nat (t : TypeId) (st : St) (x y : AV) (K : Upd → Option β) : (thawMK E t st x y K).bind f = thawMK E t st x y fun u => (K u).bind f := by
  unfold thawMK
  repeat' split
  all_goals first | rfl | simp only [cond_bind, bind_none', zerosK_nat, rowK_nat]

theorem thawAK_nat (t : TypeId) (st : St) (K : Upd → Option β) : (thawAK E t st K).bind f = thawAK E t st fun u => (K u).bind f := by
  unfold thawAK
  split
  · rfl
  · split
    · split
      · split
        · simp only [cond_bind, bind_none']
          congr 1
          repeat' split
          all_goals rfl
        · rfl
      · rfl
    · rfl

theorem lenK_nat (t : TypeId) (x : AV) (K : Upd → Option β) : (lenK E t x K).bind f = lenK E t x fun u => (K u).bind f := by
  unfold lenK
  repeat' split
  all_goals rfl

theorem fillK_nat (place : Nat → Option (Nat × Ty)) : ∀ (l : List (Nat × AV)) (z : List AC) (K : List AC → Option β), (buildK.fillK place l z K).bind f = buildK.fillK place l z fun u => (K u).bind f
  | [], z, K => rfl
  | (i, v) :: r, z, K => by
    simp only [buildK.fillK]
    split
    · simp only [cellsK_nat, storeK_nat]
      congr 1; funext l; congr 1; funext z'
      exact fillK_nat place r z' K
    · rfl

theorem buildK_nat (t : TypeId) (parts : List (Nat × AV)) (K : Upd → Option β) : (buildK E t parts K).bind f = buildK E t parts fun u => (K u).bind f := by
  unfold buildK
  repeat' split
  all_goals first | rfl | simp only [zerosK_nat, fillK_nat, pureK_nat]

theorem rowsOfK_nat (te : Ty) (len : Nat) : ∀ (l : List (Nat × AV)) (i : Nat) (K : Rows → Option β), (rowsOfK te len i l K).bind f = rowsOfK te len i l fun u => (K u).bind f
  | [], i, K => by simp only [rowsOfK, cond_bind, bind_none']
  | (j, v) :: r, i, K => by
    simp only [rowsOfK, cond_bind, bind_none', cellsK_nat, rowK_nat]
    congr 1; congr 1; funext l; congr 1; funext row
    exact rowsOfK_nat te len r (i + 1) _

theorem refsOfK_nat (len : Nat) : ∀ (l : List (Nat × AV)) (i : Nat) (K : List AC → Option β), (refsOfK len i l K).bind f = refsOfK len i l fun u => (K u).bind f
  | [], i, K => by simp only [refsOfK, cond_bind, bind_none']
  | (j, v) :: r, i, K => by
    simp only [refsOfK, cond_bind, bind_none']
    congr 1
    split
    · exact refsOfK_nat len r (i + 1) _
    · exact refsOfK_nat len r (i + 1) _
    · rfl

theorem buildSliceK_nat (t : TypeId) (len : Nat) (parts : List (Nat × AV)) (K : Upd → Option β) : (buildSliceK E t len parts K).bind f = buildSliceK E t len parts fun u => (K u).bind f := by
  unfold buildSliceK
  split
  · rfl
  · split
    · split
      · simp only [cond_bind, bind_none']
        congr 1
        split
        · simp only [refsOfK_nat, pureK_nat]
        · simp only [rowsOfK_nat, pureK_nat]
      · rfl
    · rfl

theorem makeSliceK_nat (t : TypeId) (len cap : AV) (K : Upd → Option β) : (makeSliceK E t len cap K).bind f = makeSliceK E t len cap fun u => (K u).bind f := by
  unfold makeSliceK
  repeat' split
  all_goals first | rfl | simp only [cond_bind, bind_none', zerosK_nat, rowK_nat, pureK_nat]

theorem minMaxK_nat (m : Bool) : ∀ (l : List AV) (v : AV) (K : Upd → Option β), (minMaxK m v l K).bind f = minMaxK m v l fun u => (K u).bind f
  | [], v, K => by cases v <;> rfl
  | x :: r, v, K => by
    cases v with
    | one c =>
      cases c <;> try (simp [minMaxK]; done)
      cases x with
      | one d =>
        cases d <;> try (simp [minMaxK]; done)
        simp only [minMaxK]
        exact minMaxK_nat m r _ _
      | _ => simp [minMaxK]
    | _ => simp [minMaxK]

theorem buildNK_nat (t : TypeId) (parts : List (Nat × AV)) (K : Upd → Option β) : (buildNK E t parts K).bind f = buildNK E t parts fun u => (K u).bind f := by
  unfold buildNK
  repeat' split
  all_goals first | rfl | simp only [zerosK_nat, fillK_nat, pureK_nat]

theorem callK_nat (call : CallF) (sg : Sig) (g : FuncId) (args : List AV) (st : St) (K : Upd → Option β) : (callK call sg g args st K).bind f = callK call sg g args st fun u => (K u).bind f := by
  unfold callK
  dsimp only
  simp only [callA_eq, callT, callU]
  split
  · split
    · simp only [cond_bind, bind_none']
    · simp only [cond_bind, bind_none']
  · rfl

theorem pureCK_nat (call : CallF) (sg : Sig) (g : FuncId) (args : List AV) (st : St) (K : Upd → Option β) : (pureCK call sg g args st K).bind f = pureCK call sg g args st fun u => (K u).bind f := by
  unfold pureCK
  simp only [callK_nat, cond_bind, bind_none']

theorem pureCK_some (call : CallF) (sg : Sig) (g : FuncId) (args : List AV) (st : St) {u : Upd} (h : pureCK call sg g args st some = some u) :
    ∃ u1, callK call sg g args st some = some u1 ∧ u1.nu = [] ∧ sameWr st.blk u1.wr = true ∧ u = ⟨u1.val, none, [], [], u1.rd⟩ := by
  unfold pureCK at h
  have hn := callK_nat (f := fun u => cond (isNilL u.nu && sameWr st.blk u.wr) (some (⟨u.val, none, [], [], u.rd⟩ : Upd)) none) call sg g args st some
  simp only [Option.bind_some] at hn
  rw [← hn] at h
  cases hc : callK call sg g args st some with
  | none => rw [hc] at h; cases h
  | some u1 =>
    rw [hc] at h
    simp only [Option.bind_some] at h
    cases hb : isNilL u1.nu && sameWr st.blk u1.wr with
    | false => rw [hb] at h; cases h
    | true =>
      rw [hb] at h
      simp only [Bool.and_eq_true] at hb
      cases h
      refine ⟨u1, rfl, ?_, hb.2, rfl⟩
      cases hnu : u1.nu with
      | nil => rfl
      | cons a l => rw [hnu] at hb; simp [isNilL] at hb

theorem actK_nat (call : CallF) (tk : List Nat) (sg : Option Sig) (o : Oper) (st : St) (K : Upd → Option β) : (actK E call tk sg o st K).bind f = actK E call tk sg o st fun u => (K u).bind f := by
  unfold actK
  cases o.op <;> dsimp only
  case move x =>
    split
    · exact thawK_nat _ _ _ _ _ _
    · exact freezeK_nat _ _ _ _
    · split <;> rfl
  case assign x =>
    split
    · exact thawK_nat _ _ _ _ _ _
    · exact freezeK_nat _ _ _ _
    · split <;> rfl
  case pick c a b =>
    split
    · simp only [cond_bind, pureK_nat]
    · rfl
  case alloc t =>
    split
    · exact thawAK_nat _ _ _ _ _
    · split
      · simp only [zerosK_nat]
      · rfl
  case box t x =>
    split
    · simp only [cellsK_nat]
    · rfl
  case build t ps =>
    split
    · exact buildNK_nat _ _ _ _ _
    · split <;> exact buildK_nat _ _ _ _ _
  case buildSlice t n ps =>
    split
    · split
      · exact thawBK_nat _ _ _ _ _ _
      · rfl
    · exact buildSliceK_nat _ _ _ _ _ _
  case load t p => exact loadK_nat _ _ _ _ _ _ _
  case store t p x =>
    split
    · exact storeNK_nat _ _ _ _ _ _ _
    · split <;> exact storeOpK_nat _ _ _ _ _ _ _ _
  case nilCheck x => split <;> rfl
  case binOp op t x y t2 => exact binK_nat _ _ _ _ _ _ _
  case unOp op t x => exact unK_nat _ _ _ _
  case convert s d x => simp only [srcK_nat, convK_nat]
  case makeFunc fn first caps =>
    cases fn <;> dsimp only <;> try rfl
    split
    · split <;> rfl
    · rfl
  case makeSlice t l c =>
    split
    · exact thawMK_nat _ _ _ _ _ _ _
    · exact makeSliceK_nat _ _ _ _ _ _
  case slice t x lo hi mx => split <;> exact sliceK_nat _ _ _ _ _ _ _ _ _
  case fieldAddr s x g => exact fieldAddrK_nat _ _ _ _ _ _
  case field s x g => exact fieldK_nat _ _ _ _ _ _
  case indexAddr t x i => exact indexAddrK_nat _ _ _ _ _ _
  case index t x i => exact indexK_nat _ _ _ _ _ _
  case extract x i =>
    split
    · split
      · split <;> rfl
      · rfl
    · rfl
  case call c =>
    cases c.callee <;> try dsimp only
    case value g =>
      split
      · split
        · split
          · exact pureCK_nat _ _ _ _ _ _ _
          · exact callK_nat _ _ _ _ _ _ _
        · rfl
      · rfl
    case builtin b =>
      cases b <;> try dsimp only
      case len => split <;> first | exact lenK_nat _ _ _ _ _ | rfl
      case append =>
        split
        · simp only [srcK_nat, appAnyK_nat]
        · rfl
      case copy =>
        split
        · simp only [srcK_nat, copyK_nat]
        · rfl
      case min => split <;> first | exact minMaxK_nat _ _ _ _ _ | rfl
      case max => split <;> first | exact minMaxK_nat _ _ _ _ _ | rfl
      all_goals rfl
    all_goals rfl
  all_goals rfl

theorem actK_some {E : Env} {call : CallF} {tk : List Nat} {sg : Option Sig} {o : Oper} {st : St} {K : Upd → Option β} {r : β} (h : actK E call tk sg o st K = some r) : ∃ u, actK E call tk sg o st some = some u ∧ K u = some r := by
  have := actK_nat E K call tk sg o st some
  simp only [Option.bind_some] at this
  rw [← this] at h
  cases e : actK E call tk sg o st some with
  | none => rw [e] at h; cases h
  | some u => rw [e] at h; exact ⟨u, rfl, h⟩

end nat
end Go.Abs
