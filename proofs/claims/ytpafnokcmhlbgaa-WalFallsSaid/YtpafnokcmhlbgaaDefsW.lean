/-
  What the functions that many seats share answer, in plain Lean: numbers as bytes, lists of numbers.
-/
import Derived.Test.YtpafnokcmhlbgaaA29
namespace Go.Proofs.Ytpafnokcmhlbgaa
open Go.Abs

def isByte : List Cell → Bool
  | [.int .u8 n] => decide (0 ≤ n) && decide (n < 256)
  | _ => false

def okB (x : List (List Cell)) : Bool := x.all isByte

def uencF : Nat → Int → List (List Cell)
  | 0, _ => []
  | k + 1, v => if v < 128 then [[.int .u8 v]] else [.int .u8 (v % 128 + 128)] :: uencF k (v / 128)

def uenc (v : Int) : List (List Cell) := uencF 10 v

def okEnc (x : List (List Cell)) (v : Int) : Bool := decide (x.length ≤ 4000000) && (decide (0 ≤ v) && decide (v < 18446744073709551616))

/-- at byte number i, of k more that may be read -/
def udecF : Nat → Int → Int → List (List Cell) → Int × Int × Int
  | 0, _, _, _ => (0, 0, 9)
  | _ + 1, _, _, [] => (0, 0, 1)
  | k + 1, i, acc, r :: rs =>
    if k = 0 ∧ 1 < nr r 0 then (0, 0, 9)
    else if nr r 0 < 128 then (if nr r 0 = 0 ∧ 0 < i then (0, 0, 2) else (acc + nr r 0 * 128 ^ i.toNat, i + 1, 0))
    else udecF k (i + 1) (acc + (nr r 0 - 128) * 128 ^ i.toNat) rs

def udec (x : List (List Cell)) : Int × Int × Int := udecF 10 0 0 x

def okLen (x : List (List Cell)) : Bool := decide (x.length ≤ 4000000)

def okAt (x : List (List Cell)) (at' : Int) : Bool := okB x && (okLen x && (decide (0 ≤ at') && decide (at' ≤ x.length)))

def okRd (x : List (List Cell)) : Bool := okB x && okLen x

def rnum2 (x : List (List Cell)) : Int × Int × Int :=
  if (udec x).2.2 ≠ 0 then (0, 0, (udec x).2.2) else if 2147483647 < (udec x).1 then (0, 0, 9) else udec x

/-- the reader's next number, where it stands then, and its error -/
def rnum (b : List (List Cell)) (at' e : Int) : Int × Int × Int :=
  if e ≠ 0 then (0, at', e)
  else if (rnum2 (b.drop at'.toNat)).2.2 ≠ 0 then (0, at', (rnum2 (b.drop at'.toNat)).2.2)
  else ((rnum2 (b.drop at'.toNat)).1, at' + (rnum2 (b.drop at'.toNat)).2.1, 0)

def rreadF (x : List (List Cell)) : Nat → Int → List (List Cell) → List (List Cell) × Int × Int
  | 0, at', acc => (acc, at', 0)
  | k + 1, at', acc =>
    if (rnum2 (x.drop at'.toNat)).2.2 ≠ 0 then ([], 0, (rnum2 (x.drop at'.toNat)).2.2)
    else rreadF x k (at' + (rnum2 (x.drop at'.toNat)).2.1) (acc ++ [[.int .i64 (rnum2 (x.drop at'.toNat)).1]])

def rread (x : List (List Cell)) (c : Int) : List (List Cell) × Int × Int := rreadF x c.toNat 0 []

def encL : List (List Cell) → List (List Cell)
  | [] => []
  | r :: rs => uenc (IntKind.wrap .u64 (nr r 0)) ++ encL rs

def okNums (x l : List (List Cell)) : Bool := decide (x.length ≤ 2000000) && decide (l.length ≤ 10000)

def cmpI (x y : Int) : Int := if x < y then -1 else if y < x then 1 else 0

def orI1 : List (List Cell) → Int
  | [] => 0
  | r :: rs => if nr r 0 ≠ 0 then nr r 0 else orI1 rs

def gIndex (n k : Int) : Int := if k < 1 then 0 else n % k

def gDigit (n b j : Int) : Int := (n % 1099511627776) / b ^ j.toNat % b

def gAt (l : List (List Cell)) (j : Int) : Int := if l.length = 0 then 0 else nr (Abs.rowAt l (j % l.length).toNat) 0

end Go.Proofs.Ytpafnokcmhlbgaa
