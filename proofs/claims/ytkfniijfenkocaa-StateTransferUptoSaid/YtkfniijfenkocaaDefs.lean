/-
  What the functions of this seat answer, in plain Lean.
-/
import Derived.Test.YtkfniijfenkocaaBytes2
import Derived.Test.YtkfniijfenkocaaKeyed
namespace Go.Proofs.Ytkfniijfenkocaa
open Go.Abs

def isClient (n : Int) : Bool := decide (n ≥ 101) && decide (n < 107)

def vEff (k : Int) (o f : List UInt8) (n : Int) (s : List UInt8) : Int :=
  if k < 1 ∨ 5 < k then 10
  else if o = [] ∨ f = [] then 2
  else if 16 < o.length ∨ 16 < f.length ∨ 32 < s.length then 3
  else if k = 3 ∧ (n < -1000000 ∨ 1000000 < n) then 9
  else if (k = 4 ∨ k = 5) ∧ n ≠ 0 then 9
  else if (k = 2 ∨ k = 3 ∨ k = 5) ∧ s ≠ [] then 2
  else 0

def vEffR (r : List Cell) : Int := vEff (nr r 0) (ns r 1) (ns r 2) (nr r 3) (ns r 4)

/-- the place of the first write, or -1 -/
def idxWF (i : Int) : List (List Cell) → Int
  | [] => -1
  | r :: rs => if nr r 0 = 1 then i else idxWF (i + 1) rs

def idxW (l : List (List Cell)) : Int := idxWF 0 l

def comm (l : List (List Cell)) : Bool := l.all fun r => !(nr r 0 == 1)

def vEffs : List (List Cell) → Int
  | [] => 0
  | r :: rs => if vEffR r ≠ 0 then vEffR r else vEffs rs

def vUpd (c q t : Int) (l : List (List Cell)) : Int :=
  if c < 101 ∨ 107 ≤ c ∨ q < 1 ∨ 8 < q ∨ t < 0 ∨ 1000 < t then 9
  else if l.length = 0 then 2
  else if 4 < l.length then 3
  else if vEffs l ≠ 0 then vEffs l
  else if (comm l = true ∧ t ≠ 0) ∨ (comm l = false ∧ 1 < l.length) then 2
  else 0

def cmpU (a n b m : Int) : Int := if a < b ∨ (a = b ∧ n < m) then -1 else if a = b ∧ n = m then 0 else 1

def befU (t a n u b m : Int) : Bool := decide (t < u) || (decide (t = u) && decide (cmpU a n b m < 0))

def eqEffR (r q : List Cell) : Bool := (nr r 0 == nr q 0) && ((ns r 1 == ns q 1) && ((ns r 2 == ns q 2) && ((nr r 3 == nr q 3) && ((ns r 4 == ns q 4) && true))))

def eqEffF : List (List Cell) → List (List Cell) → Bool
  | [], _ => true
  | r :: c, d => eqEffR r (Abs.rowAt d 0) && eqEffF c (d.drop 1)

def eqEffs (c d : List (List Cell)) : Bool := decide (c.length = d.length) && eqEffF c d

def eqU (a n t : Int) (c : List (List Cell)) (b m u : Int) (d : List (List Cell)) : Bool :=
  (a == b) && ((n == m) && ((t == u) && eqEffs c d))

/- BYTES -/

def effEnc (r : List Cell) : List (List Cell) :=
  uenc (IntKind.wrap .u64 (nr r 0)) ++ (senc (ns r 1) ++ (senc (ns r 2) ++ (uenc (zig (nr r 3)) ++ senc (ns r 4))))

def effsEnc : List (List Cell) → List (List Cell)
  | [] => []
  | r :: rs => effEnc r ++ effsEnc rs

def headU (c q t k : Int) : List (List Cell) := [[.int .i64 c], [.int .i64 q], [.int .i64 t], [.int .i64 k]]

def encU (c q t : Int) (l : List (List Cell)) : List (List Cell) := encL (headU c q t l.length) ++ effsEnc l

def shortR (r : List Cell) : Bool := decide ((ns r 1).length ≤ 100) && (decide ((ns r 2).length ≤ 100) && (decide ((ns r 4).length ≤ 100) && okI (nr r 3)))

def okApp (x l : List (List Cell)) : Bool := decide (x.length ≤ 1000000) && (decide (l.length ≤ 100) && l.all shortR)

def okTake (o n : Int) : Bool := decide (0 ≤ o) && (decide (0 ≤ n) && decide (o + n ≤ 4611686018427387904))

/-- what a reader takes next, by means of a decoder -/
def rstep {α : Type} (z : α) (d : List (List Cell) → α × Int × Int) (b : List (List Cell)) (o e : Int) : α × Int × Int :=
  if e ≠ 0 then (z, o, e) else ((d (b.drop o.toNat)).1, o + (d (b.drop o.toNat)).2.1, (d (b.drop o.toNat)).2.2)

def rtext (b : List (List Cell)) (o e : Int) : List UInt8 × Int × Int := rstep [] sdec b o e
def rint (b : List (List Cell)) (o e : Int) : Int × Int × Int := rstep 0 idec b o e

def reff (b : List (List Cell)) (o e : Int) : (Int × List UInt8 × List UInt8 × Int × List UInt8) × Int × Int :=
  let p1 := rnum b o e
  let p2 := rtext b p1.2.1 p1.2.2
  let p3 := rtext b p2.2.1 p2.2.2
  let p4 := rint b p3.2.1 p3.2.2
  let p5 := rtext b p4.2.1 p4.2.2
  ((p1.1, p2.1, p3.1, p4.1, p5.1), p5.2)

def deff (x : List (List Cell)) : (Int × List UInt8 × List UInt8 × Int × List UInt8) × Int × Int :=
  let p1 := rnum2 x
  let p2 := sdec (x.drop p1.2.1.toNat)
  let p3 := sdec (x.drop (p1.2.1 + p2.2.1).toNat)
  let p4 := idec (x.drop (p1.2.1 + p2.2.1 + p3.2.1).toNat)
  let p5 := sdec (x.drop (p1.2.1 + p2.2.1 + p3.2.1 + p4.2.1).toNat)
  if p1.2.2 ≠ 0 then ((0, [], [], 0, []), 0, p1.2.2)
  else if p2.2.2 ≠ 0 then ((0, [], [], 0, []), 0, p2.2.2)
  else if p3.2.2 ≠ 0 then ((0, [], [], 0, []), 0, p3.2.2)
  else if p4.2.2 ≠ 0 then ((0, [], [], 0, []), 0, p4.2.2)
  else if p5.2.2 ≠ 0 then ((0, [], [], 0, []), 0, p5.2.2)
  else ((p1.1, p2.1, p3.1, p4.1, p5.1), p1.2.1 + p2.2.1 + p3.2.1 + p4.2.1 + p5.2.1, 0)

def mkEff (p : Int × List UInt8 × List UInt8 × Int × List UInt8) : List Cell := [.int .i64 p.1, .str p.2.1, .str p.2.2.1, .int .i64 p.2.2.2.1, .str p.2.2.2.2]

def decEs (x : List (List Cell)) : Nat → Int → List (List Cell) → List (List Cell) × Int × Int
  | 0, o, acc => (acc, o, 0)
  | k + 1, o, acc =>
    if (deff (x.drop o.toNat)).2.2 ≠ 0 then ([], 0, (deff (x.drop o.toNat)).2.2)
    else decEs x k (o + (deff (x.drop o.toNat)).2.1) (acc ++ [mkEff (deff (x.drop o.toNat)).1])

def finU (c q t : Int) (r : List (List Cell) × Int × Int) : Int × Int × Int × List (List Cell) × Int × Int :=
  if r.2.2 ≠ 0 then (0, 0, 0, [], 0, r.2.2) else if vUpd c q t r.1 ≠ 0 then (0, 0, 0, [], 0, vUpd c q t r.1) else (c, q, t, r.1, r.2.1, 0)

def decU (x : List (List Cell)) : Int × Int × Int × List (List Cell) × Int × Int :=
  if (rread x 4).2.2 ≠ 0 then (0, 0, 0, [], 0, (rread x 4).2.2)
  else if 4 < nr (Abs.rowAt (rread x 4).1 3) 0 then (0, 0, 0, [], 0, 3)
  else finU (nr (Abs.rowAt (rread x 4).1 0) 0) (nr (Abs.rowAt (rread x 4).1 1) 0) (nr (Abs.rowAt (rread x 4).1 2) 0) (decEs x (nr (Abs.rowAt (rread x 4).1 3) 0).toNat (rread x 4).2.1 [])

/- THE LAWS' OWN VALUES -/

def gName (n : Int) : List UInt8 := if n % 4 = 0 then [97] else if n % 4 = 1 then [98] else if n % 4 = 2 then [99] else [120, 49]

def gEff (n : Int) (w : Bool) : Int × List UInt8 × List UInt8 × Int × List UInt8 :=
  if w = true then (1, gName (gDigit n 4 1), gName (gDigit n 4 2), gDigit n 16 3 - 5, gName (gDigit n 4 5))
  else if gDigit n 4 0 = 0 then (2, gName (gDigit n 4 1), gName (gDigit n 4 2), gDigit n 16 3 - 5, [])
  else if gDigit n 4 0 = 1 then (3, gName (gDigit n 4 1), gName (gDigit n 4 2), gDigit n 16 3 - 5, [])
  else if gDigit n 4 0 = 2 then (4, gName (gDigit n 4 1), gName (gDigit n 4 2), 0, gName (gDigit n 4 5))
  else (5, gName (gDigit n 4 1), gName (gDigit n 4 2), 0, [])

def gTag (n : Int) : Int := if gDigit n 3 8 = 0 then gDigit n 16 4 else 0

def gEffsF (n : Int) : Nat → Nat → List (List Cell) → List (List Cell)
  | 0, _, acc => acc
  | k + 1, i, acc => gEffsF n k (i + 1) (acc ++ [mkEff (gEff (n % 1099511627776 / (i + 1)) false)])

def gEffs (n : Int) : List (List Cell) := if gDigit n 3 8 = 0 then [mkEff (gEff n true)] else gEffsF n ((gDigit n 3 9).toNat + 1) 0 []

def gUpd (c q n : Int) : List Cell := [.int .i64 c, .int .i64 q, .int .i64 (gTag n), .slice 61 (gEffs n)]

def gUpdsF (l : List (List Cell)) (c : Nat) : Nat → Nat → Int → List (List Cell) → List (List Cell)
  | 0, _, _, acc => acc
  | k + 1, i, q, acc =>
    if gDigit (nr (Abs.rowAt l i) 0) 3 0 = c ∧ q < 8 then gUpdsF l c k (i + 1) (q + 1) (acc ++ [gUpd (101 + c) (q + 1) (nr (Abs.rowAt l i) 0 % 1099511627776 / 3)])
    else gUpdsF l c k (i + 1) q acc

def gUpds (l : List (List Cell)) : List (List Cell) :=
  gUpdsF l 2 (min l.length 24) 0 0 (gUpdsF l 1 (min l.length 24) 0 0 (gUpdsF l 0 (min l.length 24) 0 0 []))

/-- the string's text is empty -/
def prim87 : List AV → List Block → Option (List AV × List Block) := fun args blk => match args, blk with
  | [.one (.str s)], [] => some ([.one (.bool s.isEmpty)], [])
  | _, _ => none


/-- a number that fits (so written that the kernel doesn't count it out) -/
def okU (v : Int) : Bool := v % 18446744073709551616 == v

/- STATES: rows of a client, a number, a tag, effects -/

def urow (a n t : Int) (e : List (List Cell)) : List Cell := [.int .i64 a, .int .i64 n, .int .i64 t, .slice 61 e]
def isUR : List Cell → Bool
  | [.int .i64 _, .int .i64 _, .int .i64 _, .slice e _] => Nat.beq e 61
  | _ => false
def vUpdR (r : List Cell) : Int := vUpd (nr r 0) (nr r 1) (nr r 2) (nl r 3)
def eqUR (r q : List Cell) : Bool := eqU (nr r 0) (nr r 1) (nr r 2) (nl r 3) (nr q 0) (nr q 1) (nr q 2) (nl q 3)

def shortRow (r : List Cell) : Bool := decide ((nl r 3).length < 4611686018427387904)
def shortRows (c : List (List Cell)) : Bool := c.all shortRow
def okRows (c : List (List Cell)) : Bool := decide (c.length ≤ 1000) && c.all shortRow

def vStF (first : Bool) (q : List Cell) : List (List Cell) → Int
  | [] => 0
  | r :: rs =>
    if vUpdR r ≠ 0 then vUpdR r
    else if first = false ∧ cmpU (nr r 0) (nr r 1) (nr q 0) (nr q 1) ≤ 0 then 7
    else if 1 < nr r 1 ∧ (first = true ∨ nr q 0 ≠ nr r 0 ∨ nr q 1 ≠ nr r 1 - 1) then 8
    else vStF false r rs

def vSt (c : List (List Cell)) : Int := vStF true [] c

def eqStF : List (List Cell) → List (List Cell) → Bool
  | [], _ => true
  | r :: c, d => eqUR r (Abs.rowAt d 0) && eqStF c (d.drop 1)

def eqSt (c d : List (List Cell)) : Bool := decide (c.length = d.length) && eqStF c d

def encR (r : List Cell) : List (List Cell) := encU (nr r 0) (nr r 1) (nr r 2) (nl r 3)

def encAll : List (List Cell) → List (List Cell)
  | [] => []
  | r :: rs => encR r ++ encAll rs

def encS (c : List (List Cell)) : List (List Cell) := uenc c.length ++ encAll c

def fewE (r : List Cell) : Bool := decide ((nl r 3).length ≤ 4) && (nl r 3).all shortR
def okSApp (x c : List (List Cell)) : Bool := decide (x.length ≤ 100000) && (decide (c.length ≤ 100) && c.all fewE)

def mkU (d : Int × Int × Int × List (List Cell) × Int × Int) : List Cell := [.int .i64 d.1, .int .i64 d.2.1, .int .i64 d.2.2.1, .slice 61 d.2.2.2.1]

def decUs (x : List (List Cell)) : Nat → Int → List (List Cell) → List (List Cell) × Int × Int
  | 0, o, acc => (acc, o, 0)
  | k + 1, o, acc =>
    if (decU (x.drop o.toNat)).2.2.2.2.2 ≠ 0 then ([], 0, (decU (x.drop o.toNat)).2.2.2.2.2)
    else decUs x k (o + (decU (x.drop o.toNat)).2.2.2.2.1) (acc ++ [mkU (decU (x.drop o.toNat))])

def finS (r : List (List Cell) × Int × Int) : List (List Cell) × Int × Int :=
  if r.2.2 ≠ 0 then ([], 0, r.2.2) else if vSt r.1 ≠ 0 then ([], 0, vSt r.1) else r

def decS (x : List (List Cell)) : List (List Cell) × Int × Int :=
  if (udec x).2.2 ≠ 0 then ([], 0, (udec x).2.2)
  else if 48 < (udec x).1 then ([], 0, 3)
  else finS (decUs x (udec x).1.toNat (udec x).2.1 [])

def decL (x : List (List Cell)) : List (List Cell) × Int × Int :=
  if (rnum2 x).2.2 ≠ 0 then ([], 0, (rnum2 x).2.2)
  else if 48 < (rnum2 x).1 then ([], 0, 3)
  else decUs x (rnum2 x).1.toNat (rnum2 x).2.1 []

/- SETS OF UPDATES -/

def okEf (e : List (List Cell)) : Bool := decide (e.length ≤ 1000)
def okCf (c : List (List Cell)) : Bool := okLn c && c.all isUR
def okCl (c : List (List Cell)) : Bool := okSrt c && (c.all isUR && c.all fun r => okEf (nl r 3))
def okUn (c d : List (List Cell)) : Bool := (okCl c && okCl d) && decide (c.length + d.length ≤ 1000)
def okMg (c d : List (List Cell)) : Bool := (okCl c && okCf d) && (decide (c.length ≤ 500) && decide (d.length ≤ 500))
def okM (n : Nat) (c : List (List Cell)) : Bool := Nat.beq n c.length && (okSrt c && c.all isUR)
def okMl (n : Nat) (c : List (List Cell)) : Bool := Nat.beq n c.length && okLn c
def okArg (c : List (List Cell)) : Bool := decide (c.length < 9223372036854775808) && (c.all isUR && c.all fun r => (nl r 3).all fun e => okI (nr e 3))
def okArgE (e : List (List Cell)) : Bool := decide (e.length < 9223372036854775808)
def okArgV (v : List (List Cell)) : Bool := decide (v.length < 9223372036854775808) && v.all isEn

def okCln (c : List (List Cell)) : Bool := okLn c && c.all fun r => okEf (nl r 3)
/-- the program's clone -/
def primCln (UP : TypeId) : List AV → List Block → Option (List AV × List Block) := fun args blk => match args, blk with
  | [.one (.sl _ e rows)], [] => cond (Nat.beq e UP) (cond (okCln rows) (some ([.one (.msl UP 1 rows.length)], [.dead, .arr UP rows])) none) none
  | _, _ => none

def insA (c : List (List Cell)) (r : List Cell) : List (List Cell) := insL c [r] (lowK c r)
def cntS (c : List (List Cell)) (a : Int) : Int := ((c.filter fun r => decide (nr r 0 = a)).length : Int)
def idxNF (d : List (List Cell)) (i : Int) : List (List Cell) → Int
  | [] => -1
  | r :: rs => if hasK d r = true then idxNF d (i + 1) rs else i
def idxN (d c : List (List Cell)) : Int := idxNF d 0 c

def agrS (c d : List (List Cell)) : Bool := c.all fun r => d.all fun q => !kEq r q || eqUR r q
def okSl (l : List (List Cell)) : Bool := decide (l.length ≤ 1000) && l.all fun x => okLn (nl x 0)
def validF (pre : List (List Cell)) : List (List Cell) → Bool
  | [] => true
  | x :: l => decide (vSt (nl x 0) = 0) && (pre.all (fun y => agrS (nl x 0) (nl y 0)) && validF (pre ++ [x]) l)
def validSs (l : List (List Cell)) : Bool := validF [] l

def addS (c : List (List Cell)) (a n t : Int) (e : List (List Cell)) : List (List Cell) × Int :=
  if vUpd a n t e ≠ 0 then ([], vUpd a n t e) else if hasK c (urow a n t e) = true then ([], 5) else if n ≠ cntS c a + 1 then ([], 8) else (insK c (urow a n t e), 0)
def addR (c : List (List Cell)) (a n t : Int) (e : List (List Cell)) : List (List Cell) × Int :=
  if vUpd a n t e ≠ 0 then ([], vUpd a n t e) else if hasK c (urow a n t e) = true then ([], 5) else if n ≠ cntV (vecR c) a + 1 then ([], 8) else (mrgK c [urow a n t e], 0)

def mrgSF : List (List Cell) → List (List Cell) → Int → Int → List (List Cell) × Int × Int
  | c, [], p, q => (c, p, q)
  | c, r :: d, p, q =>
    if vUpdR r ≠ 0 ∨ nr r 1 > cntS c (nr r 0) + 1 then mrgSF c d p (q + 1)
    else if hasK c r = true then mrgSF c d p q
    else mrgSF (insK c r) d (p + 1) q
def mrgS (c d : List (List Cell)) : List (List Cell) × Int × Int := mrgSF c d 0 0

/-- what the vector does not cover -/
def bey (c v : List (List Cell)) : List (List Cell) := c.filter fun r => decide (cntV v (nr r 0) < nr r 1)
def beyS (c v : List (List Cell)) (k : Int) : List (List Cell) × Bool := ((bey c v).take (min k.toNat (bey c v).length), decide (min k.toNat (bey c v).length < (bey c v).length))
def beyRF (v : List (List Cell)) (k : Int) : List (List Cell) → List (List Cell) → List (List Cell) × Bool
  | acc, [] => (acc, false)
  | acc, r :: c => if nr r 1 ≤ cntV v (nr r 0) then beyRF v k acc c else if (acc.length : Int) ≥ k then (acc, true) else beyRF v k (acc ++ [r]) c
def beyR (c v : List (List Cell)) (k : Int) : List (List Cell) × Bool := beyRF v k [] c

/-- some of a state's updates -/
def gSome (c : List (List Cell)) (k : Int) : List (List Cell) := c.filter fun r => decide (nr r 1 ≤ gDigit k 9 (IntKind.wrap .i64 (nr r 0 - 101)))

end Go.Proofs.Ytkfniijfenkocaa
