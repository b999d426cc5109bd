/-
  What the functions of this seat answer, in plain Lean.
-/
import Derived.Test.YtdgijohgncchiaaBytes
import Derived.Test.YtdgijohgncchiaaKeyed
namespace Go.Proofs.Ytdgijohgncchiaa
open Go.Abs

def within (n lo hi : Int) (u : Bool) : Bool := cond u (decide (n ≥ lo) && decide (n ≤ hi)) (n == 0)

def isServer (n : Int) : Bool := decide (n ≥ 1) && decide (n ≤ 12)

def isAdmin (n : Int) : Bool := decide (n ≥ 201) && decide (n < 204)

def vRule (k c f : Int) : Int :=
  if k < 1 ∨ 4 < k then 10
  else if (k = 3 ∧ ¬ (1 ≤ c ∧ c ≤ 12)) ∨ (k ≠ 3 ∧ c ≠ 0) ∨ (k = 4 ∧ ¬ (0 ≤ f ∧ f ≤ 12)) ∨ (k ≠ 4 ∧ f ≠ 0) then 9
  else 0

def vChange (k s w v rk rc rf : Int) : Int :=
  if k < 1 ∨ 4 < k then 10
  else if (k = 4 ∧ s ≠ 0) ∨ (k ≠ 4 ∧ ¬ (1 ≤ s ∧ s ≤ 12)) ∨ ((k = 1 ∨ k = 3) ∧ ¬ (1 ≤ w ∧ w ≤ 9)) ∨ ((k = 2 ∨ k = 4) ∧ w ≠ 0) ∨ ((k = 3 ∨ k = 4) ∧ ¬ (1 ≤ v ∧ v ≤ 1000)) ∨ ((k = 1 ∨ k = 2) ∧ v ≠ 0) then 9
  else if k = 4 then vRule rk rc rf
  else if rk = 0 ∧ rc = 0 ∧ rf = 0 then 0 else 2

def vChR (r : List Cell) : Int := vChange (nr r 0) (nr r 1) (nr r 2) (nr r 3) (nr r 4) (nr r 5) (nr r 6)

/-- a change of the same kind and server -/
def sameCh (r q : List Cell) : Bool := (nr q 0 == nr r 0) && (nr q 1 == nr r 1)

def dup (pre : List (List Cell)) (r : List Cell) : Bool := pre.any (sameCh r)

def vChs (pre : List (List Cell)) : List (List Cell) → Int
  | [] => 0
  | r :: rest => if vChR r ≠ 0 then vChR r else if dup pre r = true then 5 else vChs (pre ++ [r]) rest

def vProp (a n : Int) (c : List (List Cell)) : Int :=
  if a < 201 ∨ 204 ≤ a ∨ n < 1 ∨ 3 < n then 9 else if c.length = 0 then 2 else if 6 < c.length then 3 else vChs [] c

def cmpP (a n b m : Int) : Int := if a < b ∨ (a = b ∧ n < m) then -1 else if a = b ∧ n = m then 0 else 1

def eqCh (k1 s1 w1 v1 rk1 rc1 rf1 k2 s2 w2 v2 rk2 rc2 rf2 : Int) : Bool :=
  (k1 == k2) && (s1 == s2) && (w1 == w2) && (v1 == v2) && (rk1 == rk2) && (rc1 == rc2) && (rf1 == rf2)

def eqChR (r q : List Cell) : Bool := eqCh (nr r 0) (nr r 1) (nr r 2) (nr r 3) (nr r 4) (nr r 5) (nr r 6) (nr q 0) (nr q 1) (nr q 2) (nr q 3) (nr q 4) (nr q 5) (nr q 6)

def eqChs : List (List Cell) → List (List Cell) → Bool
  | [], _ => true
  | r :: c, d => eqChR r (Abs.rowAt d 0) && eqChs c (d.drop 1)

def eqP (a n : Int) (c : List (List Cell)) (b m : Int) (d : List (List Cell)) : Bool :=
  (a == b) && (n == m) && decide (c.length = d.length) && eqChs c d

def chNums (r : List Cell) : List (List Cell) :=
  [[.int .i64 (nr r 0)], [.int .i64 (nr r 1)], [.int .i64 (nr r 2)], [.int .i64 (nr r 3)], [.int .i64 (nr r 4)], [.int .i64 (nr r 5)], [.int .i64 (nr r 6)]]

def chsNums : List (List Cell) → List (List Cell)
  | [] => []
  | r :: rs => chNums r ++ chsNums rs

def headNums (a n k : Int) : List (List Cell) := [[.int .i64 a], [.int .i64 n], [.int .i64 k]]

def encP (a n : Int) (c : List (List Cell)) : List (List Cell) := encL (headNums a n c.length ++ chsNums c)

def okApp (x c : List (List Cell)) : Bool := decide (x.length ≤ 1000000) && decide (c.length ≤ 1000)

def mkCh (l : List (List Cell)) : List Cell :=
  [.int .i64 (nr (Abs.rowAt l 0) 0), .int .i64 (nr (Abs.rowAt l 1) 0), .int .i64 (nr (Abs.rowAt l 2) 0), .int .i64 (nr (Abs.rowAt l 3) 0), .int .i64 (nr (Abs.rowAt l 4) 0), .int .i64 (nr (Abs.rowAt l 5) 0), .int .i64 (nr (Abs.rowAt l 6) 0)]

def decCs (x : List (List Cell)) : Nat → Int → List (List Cell) → List (List Cell) × Int × Int
  | 0, at', acc => (acc, at', 0)
  | k + 1, at', acc =>
    if (rread (x.drop at'.toNat) 7).2.2 ≠ 0 then ([], 0, (rread (x.drop at'.toNat) 7).2.2)
    else decCs x k (at' + (rread (x.drop at'.toNat) 7).2.1) (acc ++ [mkCh (rread (x.drop at'.toNat) 7).1])

def decPb (x : List (List Cell)) (a n k at' : Int) : Int × Int × List (List Cell) × Int × Int :=
  if 6 < k then (0, 0, [], 0, 3)
  else if (decCs x k.toNat at' []).2.2 ≠ 0 then (0, 0, [], 0, (decCs x k.toNat at' []).2.2)
  else if vProp a n (decCs x k.toNat at' []).1 ≠ 0 then (0, 0, [], 0, vProp a n (decCs x k.toNat at' []).1)
  else (a, n, (decCs x k.toNat at' []).1, (decCs x k.toNat at' []).2.1, 0)

def decP (x : List (List Cell)) : Int × Int × List (List Cell) × Int × Int :=
  if (rread x 3).2.2 ≠ 0 then (0, 0, [], 0, (rread x 3).2.2)
  else decPb x (nr (Abs.rowAt (rread x 3).1 0) 0) (nr (Abs.rowAt (rread x 3).1 1) 0) (nr (Abs.rowAt (rread x 3).1 2) 0) (rread x 3).2.1

def gRule (n : Int) : Int × Int × Int :=
  if gDigit n 8 0 = 1 ∨ gDigit n 8 0 = 2 then (2, 0, 0)
  else if gDigit n 8 0 = 3 then (3, 1 + gDigit n 4 2, 0)
  else if gDigit n 8 0 = 4 then (4, 0, gDigit n 2 3)
  else (1, 0, 0)

def gCh (n : Int) : Nat → Int := fun j =>
  nr (if gDigit n 8 0 ≤ 2 then [.int .i64 1, .int .i64 (1 + gDigit n 8 1), .int .i64 (1 + gDigit n 4 3), .int .i64 0, .int .i64 0, .int .i64 0, .int .i64 0]
    else if gDigit n 8 0 ≤ 4 then [.int .i64 2, .int .i64 (1 + gDigit n 8 1), .int .i64 0, .int .i64 0, .int .i64 0, .int .i64 0, .int .i64 0]
    else if gDigit n 8 0 = 5 then [.int .i64 3, .int .i64 (1 + gDigit n 8 1), .int .i64 (1 + gDigit n 4 3), .int .i64 (1 + gDigit n 2 9), .int .i64 0, .int .i64 0, .int .i64 0]
    else if gDigit n 8 0 = 6 then [.int .i64 4, .int .i64 0, .int .i64 0, .int .i64 (1 + gDigit n 2 9), .int .i64 (gRule (n % 1099511627776 / 64)).1, .int .i64 (gRule (n % 1099511627776 / 64)).2.1, .int .i64 (gRule (n % 1099511627776 / 64)).2.2]
    else [.int .i64 1, .int .i64 (1 + gDigit n 12 1), .int .i64 1, .int .i64 0, .int .i64 0, .int .i64 0, .int .i64 0]) j

def gChR (n : Int) : List Cell := [.int .i64 (gCh n 0), .int .i64 (gCh n 1), .int .i64 (gCh n 2), .int .i64 (gCh n 3), .int .i64 (gCh n 4), .int .i64 (gCh n 5), .int .i64 (gCh n 6)]

def gProp (l : List (List Cell)) (a i : Nat) (p : Int) : List Cell :=
  [.int .i64 (201 + a), .int .i64 (i + 1), .slice 50 (if gDigit (gAt l p) 2 12 = 1 ∧ (gCh (gAt l (p + 1)) 0 ≠ gCh (gAt l p) 0 ∨ gCh (gAt l (p + 1)) 1 ≠ gCh (gAt l p) 1) then [gChR (gAt l p), gChR (gAt l (p + 1))] else [gChR (gAt l p)])]

def gIn (l : List (List Cell)) (a : Nat) : Nat → Nat → Int → List (List Cell) → List (List Cell) × Int
  | 0, _, p, acc => (acc, p)
  | k + 1, i, p, acc => gIn l a k (i + 1) (p + 2) (acc ++ [gProp l a i p])

def gOut (l : List (List Cell)) : Nat → Nat → Int → List (List Cell) → List (List Cell)
  | 0, _, _, acc => acc
  | k + 1, a, p, acc => gOut l k (a + 1) (gIn l a (gDigit (gAt l a) 4 0).toNat 0 p acc).2 (gIn l a (gDigit (gAt l a) 4 0).toNat 0 p acc).1

def gPool (l : List (List Cell)) : List (List Cell) := gOut l 3 0 3 []
def okProp (r : List Cell) : Prop := vProp (nr r 0) (nr r 1) (nl r 2) = 0

/-- a number that fits (so written that the kernel doesn't count it out) -/
def okU (v : Int) : Bool := v % 18446744073709551616 == v

/- CONFIGURATIONS: rows of a number of the administrator, a number, changes -/

def vPropR (r : List Cell) : Int := vProp (nr r 0) (nr r 1) (nl r 2)
def eqPR (r q : List Cell) : Bool := eqP (nr r 0) (nr r 1) (nl r 2) (nr q 0) (nr q 1) (nl q 2)

def shortRow (r : List Cell) : Bool := decide ((nl r 2).length < 9223372036854775808)
def shortRows (c : List (List Cell)) : Bool := c.all shortRow
def okRows (c : List (List Cell)) : Bool := decide (c.length ≤ 1000) && c.all shortRow

def vCfgF (first : Bool) (q : List Cell) : List (List Cell) → Int
  | [] => 0
  | r :: rs =>
    if vPropR r ≠ 0 then vPropR r
    else if first = false ∧ cmpP (nr r 0) (nr r 1) (nr q 0) (nr q 1) ≤ 0 then 7
    else if 1 < nr r 1 ∧ (first = true ∨ nr q 0 ≠ nr r 0 ∨ nr q 1 ≠ nr r 1 - 1) then 8
    else vCfgF false r rs

def vCfg (c : List (List Cell)) : Int := vCfgF true [] c

def eqCfgF : List (List Cell) → List (List Cell) → Bool
  | [], _ => true
  | r :: c, d => eqPR r (Abs.rowAt d 0) && eqCfgF c (d.drop 1)

def eqCfg (c d : List (List Cell)) : Bool := decide (c.length = d.length) && eqCfgF c d

def encR (r : List Cell) : List (List Cell) := encP (nr r 0) (nr r 1) (nl r 2)

def encAll : List (List Cell) → List (List Cell)
  | [] => []
  | r :: rs => encR r ++ encAll rs

def encC (c : List (List Cell)) : List (List Cell) := uenc c.length ++ encAll c

def fewCh (r : List Cell) : Bool := decide ((nl r 2).length ≤ 100)
def okCApp (x c : List (List Cell)) : Bool := decide (x.length ≤ 100000) && (decide (c.length ≤ 100) && c.all fewCh)

def mkPr (d : Int × Int × List (List Cell) × Int × Int) : List Cell := [.int .i64 d.1, .int .i64 d.2.1, .slice 50 d.2.2.1]

def decPs (x : List (List Cell)) : Nat → Int → List (List Cell) → List (List Cell) × Int × Int
  | 0, o, acc => (acc, o, 0)
  | k + 1, o, acc =>
    if (decP (x.drop o.toNat)).2.2.2.2 ≠ 0 then ([], 0, (decP (x.drop o.toNat)).2.2.2.2)
    else decPs x k (o + (decP (x.drop o.toNat)).2.2.2.1) (acc ++ [mkPr (decP (x.drop o.toNat))])

def finC (r : List (List Cell) × Int × Int) : List (List Cell) × Int × Int :=
  if r.2.2 ≠ 0 then ([], 0, r.2.2) else if vCfg r.1 ≠ 0 then ([], 0, vCfg r.1) else r

def decC (x : List (List Cell)) : List (List Cell) × Int × Int :=
  if (udec x).2.2 ≠ 0 then ([], 0, (udec x).2.2)
  else if 9 < (udec x).1 then ([], 0, 3)
  else finC (decPs x (udec x).1.toNat (udec x).2.1 [])

/- SETS OF PROPOSALS -/

def prow (a n : Int) (c : List (List Cell)) : List Cell := [.int .i64 a, .int .i64 n, .slice 50 c]
def isPR : List Cell → Bool
  | [.int .i64 _, .int .i64 _, .slice e _] => Nat.beq e 50
  | _ => false
def okCh (c : List (List Cell)) : Bool := decide (0 < c.length) && decide (c.length ≤ 1000)
def okCf (c : List (List Cell)) : Bool := okLn c && c.all isPR
def okCl (c : List (List Cell)) : Bool := okCf c && c.all fun r => okCh (nl r 2)
def okArg (c : List (List Cell)) : Bool := c.all isPR && shortRows c

def agrC (c d : List (List Cell)) : Bool := c.all fun r => d.all fun q => !kEq r q || eqPR r q
def okCs (l : List (List Cell)) : Bool := decide (l.length ≤ 1000) && l.all fun x => okRows (nl x 0)
def validF (pre : List (List Cell)) : List (List Cell) → Bool
  | [] => true
  | x :: l => decide (vCfg (nl x 0) = 0) && (pre.all (fun y => agrC (nl x 0) (nl y 0)) && validF (pre ++ [x]) l)
def validCs (l : List (List Cell)) : Bool := validF [] l

def okAdd (c p : List (List Cell)) : Bool := okCl c && (okSrt c && decide (p.length < 9223372036854775808))
def addC (c : List (List Cell)) (a n : Int) (p : List (List Cell)) : List (List Cell) × Int :=
  if vProp a n p ≠ 0 then ([], vProp a n p) else if hasK c (prow a n p) = true then ([], 5) else if n ≠ cntV (vecK c) a + 1 then ([], 8) else (uniK c [prow a n p], 0)
def addR (c : List (List Cell)) (a n : Int) (p : List (List Cell)) : List (List Cell) × Int :=
  if vProp a n p ≠ 0 then ([], vProp a n p) else if hasK c (prow a n p) = true then ([], 5) else if n ≠ cntV (vecR c) a + 1 then ([], 8) else (mrgK c [prow a n p], 0)

def partV1 (n : Int) (a : Nat) : List (List Cell) := if 0 < gDigit n 4 a then [ent (201 + a) (gDigit n 4 a)] else []
def partV (n : Int) : List (List Cell) := partV1 n 0 ++ (partV1 n 1 ++ partV1 n 2)
def gPart (c : List (List Cell)) (n : Int) : List (List Cell) := restr c (partV n)


/- CERTIFICATES: two configurations -/

def isP (a n : Int) (l : List (List Cell)) (q : List Cell) : Bool := eqP a n l (nr q 0) (nr q 1) (nl q 2)

def idxPF (a n : Int) (l : List (List Cell)) (i : Int) : List (List Cell) → Int
  | [] => -1
  | q :: c => if isP a n l q = true then i else idxPF a n l (i + 1) c

def idxP (a n : Int) (l c : List (List Cell)) : Int := idxPF a n l 0 c
def inP (a n : Int) (l c : List (List Cell)) : Bool := c.any (isP a n l)
def incl (c d : List (List Cell)) : Bool := d.all fun p => inP (nr p 0) (nr p 1) (nl p 2) c

def vCert (f t : List (List Cell)) : Int :=
  if vCfg f ≠ 0 then vCfg f else if vCfg t ≠ 0 then vCfg t else if incl t f = true then 0 else 2

def encT (f t : List (List Cell)) : List (List Cell) := encC f ++ encC t
def okTApp (x f t : List (List Cell)) : Bool := okCApp x f && okCApp (x ++ encC f) t

def decT (x : List (List Cell)) : List (List Cell) × List (List Cell) × Int × Int :=
  let p := decC x
  let q := decC (x.drop p.2.1.toNat)
  if p.2.2 ≠ 0 then ([], [], 0, p.2.2)
  else if q.2.2 ≠ 0 then ([], [], 0, q.2.2)
  else if vCert p.1 q.1 ≠ 0 then ([], [], 0, vCert p.1 q.1)
  else (p.1, q.1, p.2.1 + q.2.1, 0)


/- THE ORDER OF CERTIFICATES -/

def newB (t x : List (List Cell)) : Bool := contK t x && !(contK t x && contK x t)
def newR (t x : List (List Cell)) : Bool := contK t x && !contK x t
def betw (f t x : List (List Cell)) : Bool := contK t x && contK x f
def okSs (l : List (List Cell)) : Bool := decide (l.length ≤ 1000) && l.all fun x => okSrt (nl x 0)
def newA (t l : List (List Cell)) : Bool := l.all fun x => newB t (nl x 0)
def betA (f t l : List (List Cell)) : Bool := l.all fun x => betw f t (nl x 0)
def latest (t1 t2 a b : List (List Cell)) : List (List Cell) := if newB t2 t1 = true then b else a
def latestR (t1 t2 a b : List (List Cell)) : List (List Cell) := if newR t2 t1 = true then b else a
def startT (f1 t1 t2 : List (List Cell)) : List (List Cell) := if betw f1 t1 t2 = true then t2 else f1
def eqT (f1 t1 f2 t2 : List (List Cell)) : Bool := (contK f1 f2 && contK f2 f1) && (contK t1 t2 && contK t2 t1)

def okTs (l : List (List Cell)) : Bool := decide (l.length ≤ 100) && l.all fun x => shortRows (nl x 0) && shortRows (nl x 1)
def okT1 (x : List Cell) : Bool := !(decide (30 < (nl x 0).length) || (decide (30 < (nl x 1).length) || decide (vCert (nl x 0) (nl x 1) ≠ 0)))
def flatT (l : List (List Cell)) : List (List Cell) := l.flatMap fun x => [[Cell.slice 53 (nl x 0)], [Cell.slice 53 (nl x 1)]]
def validTs (l : List (List Cell)) : Bool := l.all okT1 && validCs (flatT l)

end Go.Proofs.Ytdgijohgncchiaa
