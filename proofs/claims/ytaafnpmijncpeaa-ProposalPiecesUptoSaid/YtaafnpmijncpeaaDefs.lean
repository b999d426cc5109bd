/-
  What the functions of this seat answer, in plain Lean.
-/
import Derived.Test.YtaafnpmijncpeaaA28
namespace Go.Proofs.Ytaafnpmijncpeaa
open Go.Abs

def within (n lo hi : Int) (u : Bool) : Bool := cond u (decide (n ≥ lo) && decide (n ≤ hi)) (n == 0)
def isServer (n : Int) : Bool := decide (n ≥ 1) && decide (n ≤ 12)
def isAdmin (n : Int) : Bool := decide (n ≥ 201) && decide (n < 204)

def vRule (k c f : Int) : Int :=
  if k < 1 ∨ 4 < k then 10
  else if (k = 3 ∧ ¬ (1 ≤ c ∧ c ≤ 12)) ∨ (k ≠ 3 ∧ c ≠ 0) ∨ (k = 4 ∧ ¬ (0 ≤ f ∧ f ≤ 12)) ∨ (k ≠ 4 ∧ f ≠ 0) then 9
  else 0

def vChange (k s w v rk rc rf : Int) : Int :=
  if k < 1 ∨ 4 < k then 10
  else if (k = 4 ∧ s ≠ 0) ∨ (k ≠ 4 ∧ ¬ (1 ≤ s ∧ s ≤ 12)) ∨ ((k = 1 ∨ k = 3) ∧ ¬ (1 ≤ w ∧ w ≤ 9)) ∨ ((k = 2 ∨ k = 4) ∧ w ≠ 0) ∨ ((k = 3 ∨ k = 4) ∧ ¬ (1 ≤ v ∧ v ≤ 1000)) ∨ ((k = 1 ∨ k = 2) ∧ v ≠ 0) then 9
  else if k = 4 then vRule rk rc rf
  else if rk = 0 ∧ rc = 0 ∧ rf = 0 then 0 else 2

def vChR (r : List Cell) : Int := vChange (nr r 0) (nr r 1) (nr r 2) (nr r 3) (nr r 4) (nr r 5) (nr r 6)

/-- a change of the same kind and server -/
def sameCh (r q : List Cell) : Bool := (nr q 0 == nr r 0) && (nr q 1 == nr r 1)

def dup (pre : List (List Cell)) (r : List Cell) : Bool := pre.any (sameCh r)

def vChs (pre : List (List Cell)) : List (List Cell) → Int
  | [] => 0
  | r :: rest => if vChR r ≠ 0 then vChR r else if dup pre r = true then 5 else vChs (pre ++ [r]) rest

def vProp (a n : Int) (c : List (List Cell)) : Int :=
  if a < 201 ∨ 204 ≤ a ∨ n < 1 ∨ 3 < n then 9 else if c.length = 0 then 2 else if 6 < c.length then 3 else vChs [] c

def cmpI (x y : Int) : Int := if x < y then -1 else if y < x then 1 else 0

def orI1 : List (List Cell) → Int
  | [] => 0
  | r :: rs => if nr r 0 ≠ 0 then nr r 0 else orI1 rs

def cmpP (a n b m : Int) : Int := if a < b ∨ (a = b ∧ n < m) then -1 else if a = b ∧ n = m then 0 else 1

def eqCh (k1 s1 w1 v1 rk1 rc1 rf1 k2 s2 w2 v2 rk2 rc2 rf2 : Int) : Bool :=
  (k1 == k2) && (s1 == s2) && (w1 == w2) && (v1 == v2) && (rk1 == rk2) && (rc1 == rc2) && (rf1 == rf2)

def eqChR (r q : List Cell) : Bool := eqCh (nr r 0) (nr r 1) (nr r 2) (nr r 3) (nr r 4) (nr r 5) (nr r 6) (nr q 0) (nr q 1) (nr q 2) (nr q 3) (nr q 4) (nr q 5) (nr q 6)

def eqChs : List (List Cell) → List (List Cell) → Bool
  | [], _ => true
  | r :: c, d => eqChR r (Abs.rowAt d 0) && eqChs c (d.drop 1)

def eqP (a n : Int) (c : List (List Cell)) (b m : Int) (d : List (List Cell)) : Bool :=
  (a == b) && (n == m) && decide (c.length = d.length) && eqChs c d

/- BYTES -/

def isByte : List Cell → Bool
  | [.int .u8 n] => decide (0 ≤ n) && decide (n < 256)
  | _ => false

def okB (x : List (List Cell)) : Bool := x.all isByte

def uencF : Nat → Int → List (List Cell)
  | 0, _ => []
  | k + 1, v => if v < 128 then [[.int .u8 v]] else [.int .u8 (v % 128 + 128)] :: uencF k (v / 128)

def uenc (v : Int) : List (List Cell) := uencF 10 v

def okEnc (x : List (List Cell)) (v : Int) : Bool := decide (x.length ≤ 4000000) && (decide (0 ≤ v) && decide (v < 18446744073709551616))

/-- at byte number i, of k more that may be read -/
def udecF : Nat → Int → Int → List (List Cell) → Int × Int × Int
  | 0, _, _, _ => (0, 0, 9)
  | _ + 1, _, _, [] => (0, 0, 1)
  | k + 1, i, acc, r :: rs =>
    if k = 0 ∧ 1 < nr r 0 then (0, 0, 9)
    else if nr r 0 < 128 then (if nr r 0 = 0 ∧ 0 < i then (0, 0, 2) else (acc + nr r 0 * 128 ^ i.toNat, i + 1, 0))
    else udecF k (i + 1) (acc + (nr r 0 - 128) * 128 ^ i.toNat) rs

def udec (x : List (List Cell)) : Int × Int × Int := udecF 10 0 0 x

def okLen (x : List (List Cell)) : Bool := decide (x.length ≤ 4000000)

def okAt (x : List (List Cell)) (at' : Int) : Bool := okB x && (okLen x && (decide (0 ≤ at') && decide (at' ≤ x.length)))

def okRd (x : List (List Cell)) : Bool := okB x && okLen x

def rnum2 (x : List (List Cell)) : Int × Int × Int :=
  if (udec x).2.2 ≠ 0 then (0, 0, (udec x).2.2) else if 2147483647 < (udec x).1 then (0, 0, 9) else udec x

/-- the reader's next number, where it stands then, and its error -/
def rnum (b : List (List Cell)) (at' e : Int) : Int × Int × Int :=
  if e ≠ 0 then (0, at', e)
  else if (rnum2 (b.drop at'.toNat)).2.2 ≠ 0 then (0, at', (rnum2 (b.drop at'.toNat)).2.2)
  else ((rnum2 (b.drop at'.toNat)).1, at' + (rnum2 (b.drop at'.toNat)).2.1, 0)

def rreadF (x : List (List Cell)) : Nat → Int → List (List Cell) → List (List Cell) × Int × Int
  | 0, at', acc => (acc, at', 0)
  | k + 1, at', acc =>
    if (rnum2 (x.drop at'.toNat)).2.2 ≠ 0 then ([], 0, (rnum2 (x.drop at'.toNat)).2.2)
    else rreadF x k (at' + (rnum2 (x.drop at'.toNat)).2.1) (acc ++ [[.int .i64 (rnum2 (x.drop at'.toNat)).1]])

def rread (x : List (List Cell)) (c : Int) : List (List Cell) × Int × Int := rreadF x c.toNat 0 []

def encL : List (List Cell) → List (List Cell)
  | [] => []
  | r :: rs => uenc (IntKind.wrap .u64 (nr r 0)) ++ encL rs

def okNums (x l : List (List Cell)) : Bool := decide (x.length ≤ 2000000) && decide (l.length ≤ 10000)

def chNums (r : List Cell) : List (List Cell) :=
  [[.int .i64 (nr r 0)], [.int .i64 (nr r 1)], [.int .i64 (nr r 2)], [.int .i64 (nr r 3)], [.int .i64 (nr r 4)], [.int .i64 (nr r 5)], [.int .i64 (nr r 6)]]

def chsNums : List (List Cell) → List (List Cell)
  | [] => []
  | r :: rs => chNums r ++ chsNums rs

def headNums (a n k : Int) : List (List Cell) := [[.int .i64 a], [.int .i64 n], [.int .i64 k]]

def encP (a n : Int) (c : List (List Cell)) : List (List Cell) := encL (headNums a n c.length ++ chsNums c)

def okApp (x c : List (List Cell)) : Bool := decide (x.length ≤ 1000000) && decide (c.length ≤ 1000)

def mkCh (l : List (List Cell)) : List Cell :=
  [.int .i64 (nr (Abs.rowAt l 0) 0), .int .i64 (nr (Abs.rowAt l 1) 0), .int .i64 (nr (Abs.rowAt l 2) 0), .int .i64 (nr (Abs.rowAt l 3) 0), .int .i64 (nr (Abs.rowAt l 4) 0), .int .i64 (nr (Abs.rowAt l 5) 0), .int .i64 (nr (Abs.rowAt l 6) 0)]

def decCs (x : List (List Cell)) : Nat → Int → List (List Cell) → List (List Cell) × Int × Int
  | 0, at', acc => (acc, at', 0)
  | k + 1, at', acc =>
    if (rread (x.drop at'.toNat) 7).2.2 ≠ 0 then ([], 0, (rread (x.drop at'.toNat) 7).2.2)
    else decCs x k (at' + (rread (x.drop at'.toNat) 7).2.1) (acc ++ [mkCh (rread (x.drop at'.toNat) 7).1])

def decPb (x : List (List Cell)) (a n k at' : Int) : Int × Int × List (List Cell) × Int × Int :=
  if 6 < k then (0, 0, [], 0, 3)
  else if (decCs x k.toNat at' []).2.2 ≠ 0 then (0, 0, [], 0, (decCs x k.toNat at' []).2.2)
  else if vProp a n (decCs x k.toNat at' []).1 ≠ 0 then (0, 0, [], 0, vProp a n (decCs x k.toNat at' []).1)
  else (a, n, (decCs x k.toNat at' []).1, (decCs x k.toNat at' []).2.1, 0)

def decP (x : List (List Cell)) : Int × Int × List (List Cell) × Int × Int :=
  if (rread x 3).2.2 ≠ 0 then (0, 0, [], 0, (rread x 3).2.2)
  else decPb x (nr (Abs.rowAt (rread x 3).1 0) 0) (nr (Abs.rowAt (rread x 3).1 1) 0) (nr (Abs.rowAt (rread x 3).1 2) 0) (rread x 3).2.1

/- THE LAWS' OWN VALUES -/

def gIndex (n k : Int) : Int := if k < 1 then 0 else n % k
def gDigit (n b j : Int) : Int := (n % 1099511627776) / b ^ j.toNat % b
def gAt (l : List (List Cell)) (j : Int) : Int := if l.length = 0 then 0 else nr (Abs.rowAt l (j % l.length).toNat) 0

def gRule (n : Int) : Int × Int × Int :=
  if gDigit n 8 0 = 1 ∨ gDigit n 8 0 = 2 then (2, 0, 0)
  else if gDigit n 8 0 = 3 then (3, 1 + gDigit n 4 2, 0)
  else if gDigit n 8 0 = 4 then (4, 0, gDigit n 2 3)
  else (1, 0, 0)

def gCh (n : Int) : Nat → Int := fun j =>
  nr (if gDigit n 8 0 ≤ 2 then [.int .i64 1, .int .i64 (1 + gDigit n 8 1), .int .i64 (1 + gDigit n 4 3), .int .i64 0, .int .i64 0, .int .i64 0, .int .i64 0]
    else if gDigit n 8 0 ≤ 4 then [.int .i64 2, .int .i64 (1 + gDigit n 8 1), .int .i64 0, .int .i64 0, .int .i64 0, .int .i64 0, .int .i64 0]
    else if gDigit n 8 0 = 5 then [.int .i64 3, .int .i64 (1 + gDigit n 8 1), .int .i64 (1 + gDigit n 4 3), .int .i64 (1 + gDigit n 2 9), .int .i64 0, .int .i64 0, .int .i64 0]
    else if gDigit n 8 0 = 6 then [.int .i64 4, .int .i64 0, .int .i64 0, .int .i64 (1 + gDigit n 2 9), .int .i64 (gRule (n % 1099511627776 / 64)).1, .int .i64 (gRule (n % 1099511627776 / 64)).2.1, .int .i64 (gRule (n % 1099511627776 / 64)).2.2]
    else [.int .i64 1, .int .i64 (1 + gDigit n 12 1), .int .i64 1, .int .i64 0, .int .i64 0, .int .i64 0, .int .i64 0]) j

def gChR (n : Int) : List Cell := [.int .i64 (gCh n 0), .int .i64 (gCh n 1), .int .i64 (gCh n 2), .int .i64 (gCh n 3), .int .i64 (gCh n 4), .int .i64 (gCh n 5), .int .i64 (gCh n 6)]

def gProp (l : List (List Cell)) (a i : Nat) (p : Int) : List Cell :=
  [.int .i64 (201 + a), .int .i64 (i + 1), .slice 25 (if gDigit (gAt l p) 2 12 = 1 ∧ (gCh (gAt l (p + 1)) 0 ≠ gCh (gAt l p) 0 ∨ gCh (gAt l (p + 1)) 1 ≠ gCh (gAt l p) 1) then [gChR (gAt l p), gChR (gAt l (p + 1))] else [gChR (gAt l p)])]

def gIn (l : List (List Cell)) (a : Nat) : Nat → Nat → Int → List (List Cell) → List (List Cell) × Int
  | 0, _, p, acc => (acc, p)
  | k + 1, i, p, acc => gIn l a k (i + 1) (p + 2) (acc ++ [gProp l a i p])

def gOut (l : List (List Cell)) : Nat → Nat → Int → List (List Cell) → List (List Cell)
  | 0, _, _, acc => acc
  | k + 1, a, p, acc => gOut l k (a + 1) (gIn l a (gDigit (gAt l a) 4 0).toNat 0 p acc).2 (gIn l a (gDigit (gAt l a) 4 0).toNat 0 p acc).1

def gPool (l : List (List Cell)) : List (List Cell) := gOut l 3 0 3 []

end Go.Proofs.Ytaafnpmijncpeaa
