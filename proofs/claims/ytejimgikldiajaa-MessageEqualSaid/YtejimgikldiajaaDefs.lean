/-
  What the functions of this seat answer, in plain Lean.
-/
import Derived.Test.YtejimgikldiajaaBytes2
import Derived.Test.YtejimgikldiajaaKeyed
namespace Go.Proofs.Ytejimgikldiajaa
open Go.Abs

def eqCh (k1 s1 w1 v1 rk1 rc1 rf1 k2 s2 w2 v2 rk2 rc2 rf2 : Int) : Bool :=
  (k1 == k2) && (s1 == s2) && (w1 == w2) && (v1 == v2) && (rk1 == rk2) && (rc1 == rc2) && (rf1 == rf2)

def eqChR (r q : List Cell) : Bool := eqCh (nr r 0) (nr r 1) (nr r 2) (nr r 3) (nr r 4) (nr r 5) (nr r 6) (nr q 0) (nr q 1) (nr q 2) (nr q 3) (nr q 4) (nr q 5) (nr q 6)

def eqChs : List (List Cell) → List (List Cell) → Bool
  | [], _ => true
  | r :: c, d => eqChR r (Abs.rowAt d 0) && eqChs c (d.drop 1)

def eqP (a n : Int) (c : List (List Cell)) (b m : Int) (d : List (List Cell)) : Bool :=
  (a == b) && (n == m) && decide (c.length = d.length) && eqChs c d

def eqPR (r q : List Cell) : Bool := eqP (nr r 0) (nr r 1) (nl r 2) (nr q 0) (nr q 1) (nl q 2)

def shortRow (r : List Cell) : Bool := decide ((nl r 2).length < 9223372036854775808)

def shortRows (c : List (List Cell)) : Bool := c.all shortRow

def okRows (c : List (List Cell)) : Bool := decide (c.length ≤ 1000) && c.all shortRow

def eqCfgF : List (List Cell) → List (List Cell) → Bool
  | [], _ => true
  | r :: c, d => eqPR r (Abs.rowAt d 0) && eqCfgF c (d.drop 1)

def eqCfg (c d : List (List Cell)) : Bool := decide (c.length = d.length) && eqCfgF c d

def eqEffR (r q : List Cell) : Bool := (nr r 0 == nr q 0) && ((ns r 1 == ns q 1) && ((ns r 2 == ns q 2) && ((nr r 3 == nr q 3) && ((ns r 4 == ns q 4) && true))))

def eqEffF : List (List Cell) → List (List Cell) → Bool
  | [], _ => true
  | r :: c, d => eqEffR r (Abs.rowAt d 0) && eqEffF c (d.drop 1)

def eqEffs (c d : List (List Cell)) : Bool := decide (c.length = d.length) && eqEffF c d

def eqU (a n t : Int) (c : List (List Cell)) (b m u : Int) (d : List (List Cell)) : Bool :=
  (a == b) && ((n == m) && ((t == u) && eqEffs c d))

def eqUR (r q : List Cell) : Bool := eqU (nr r 0) (nr r 1) (nr r 2) (nl r 3) (nr q 0) (nr q 1) (nr q 2) (nl q 3)

def shortRowU (r : List Cell) : Bool := decide ((nl r 3).length < 9223372036854775808)

def shortRowsU (c : List (List Cell)) : Bool := c.all shortRowU

def okRowsU (c : List (List Cell)) : Bool := decide (c.length ≤ 1000) && c.all shortRowU

def eqStF : List (List Cell) → List (List Cell) → Bool
  | [], _ => true
  | r :: c, d => eqUR r (Abs.rowAt d 0) && eqStF c (d.drop 1)

def eqSt (c d : List (List Cell)) : Bool := decide (c.length = d.length) && eqStF c d

/-- the string's text is empty -/
def prim92 : List AV → List Block → Option (List AV × List Block) := fun args blk => match args, blk with
  | [.one (.str s)], [] => some ([.one (.bool s.isEmpty)], [])
  | _, _ => none

/-- the fields that a kind of messages uses -/
def usedL (k : Int) : Option (List Int) :=
  if k = 1 then some [0, 1, 2, 3, 4]
  else if k = 2 then some [0, 1, 3, 4, 8, 9, 10]
  else if k = 3 then some [5]
  else if k = 4 then some [5, 6]
  else if k = 5 then some [5, 4, 7, 8, 9, 10]
  else if k = 6 then some [5]
  else if k = 7 then some [5]
  else if k = 8 then some [5]
  else none

def usedR (k : Int) : List (List Cell) := ((usedL k).getD []).map fun n => [.int .i64 n]

def primUsed (FE : TypeId) : List AV → List Block → Option (List AV × List Block) := fun args blk => match args, blk with
  | [.one (.int .i64 k)], [] => some ([.one (.sl false FE (usedR k)), .one (.bool (usedL k).isSome)], [])
  | _, _ => none

def okM (cf ct bf bt ef et g u v : List (List Cell)) : Bool :=
  (okRows cf && okRows ct) && ((okRows bf && okRows bt) && ((okRows ef && okRows et) && (okRows g && (okRowsU u && okLn v))))

def shortM (cf ct bf bt ef et g u v : List (List Cell)) : Bool :=
  decide (g.length ≤ 30) && (decide (u.length ≤ 60) && (decide (v.length ≤ 60) && (decide (cf.length ≤ 30) && (decide (ct.length ≤ 30) && (decide (bf.length ≤ 30) && (decide (bt.length ≤ 30) && (decide (ef.length ≤ 30) && decide (et.length ≤ 30))))))))

def okArgM (cf ct bf bt ef et g u v : List (List Cell)) : Bool :=
  (shortRows cf && shortRows ct) && ((shortRows bf && shortRows bt) && ((shortRows ef && shortRows et) && (shortRows g && shortRowsU u)))

def eqM (k f t p n r o : Int) (cf ct bf bt : List (List Cell)) (h : Bool) (ef et g u v : List (List Cell)) (m : Bool)
    (k2 f2 t2 p2 n2 r2 o2 : Int) (cf2 ct2 bf2 bt2 : List (List Cell)) (h2 : Bool) (ef2 et2 g2 u2 v2 : List (List Cell)) (m2 : Bool) : Bool :=
  (k == k2) && ((f == f2) && ((t == t2) && ((p == p2) && ((n == n2) && ((r == r2) && ((o == o2) && ((h == h2) && ((m == m2) &&
  ((eqCfg cf cf2 && eqCfg ct ct2) && ((eqCfg bf bf2 && eqCfg bt bt2) && ((eqCfg ef ef2 && eqCfg et et2) && (eqCfg g g2 && (eqSt u u2 && eqVec v v2)))))))))))))

end Go.Proofs.Ytejimgikldiajaa
