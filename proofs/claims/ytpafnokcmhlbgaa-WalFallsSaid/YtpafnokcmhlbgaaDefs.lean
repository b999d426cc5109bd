/-
  A disk and a log, in plain Lean: what the functions of this seat answer.
-/
import Derived.Test.YtpafnokcmhlbgaaBytes
namespace Go.Proofs.Ytpafnokcmhlbgaa
open Go.Abs

/- NUMBERS, CHECKSUMS -/

/-- a number in so many bytes, the most significant first -/
def bigF : Nat → Int → List (List Cell)
  | 0, _ => []
  | k + 1, n => bigF k (n / 256) ++ [[.int .u8 (n % 256)]]

def numF (acc : Int) : List (List Cell) → Int
  | [] => acc
  | r :: rs => numF (acc * 256 + nr r 0) rs

def crcBit (c : Int) : Int := cond ((andI .u32 c 1) != 0) (xorI .u32 (shrI .u32 c 1) 2197175160) (shrI .u32 c 1)
def crcBits : Nat → Int → Int
  | 0, c => c
  | k + 1, c => crcBits k (crcBit c)
def crcF (c : Int) : List (List Cell) → Int
  | [] => c
  | r :: rs => crcF (crcBits 8 (xorI .u32 c (IntKind.wrap .u32 (nr r 0)))) rs
def crcS (x : List (List Cell)) : Int := xorI .u32 4294967295 (crcF 4294967295 x)

/- RECORDS, HEADERS -/

def wSum (g off : Int) (x : List (List Cell)) : Int := crcS (bigF 8 g ++ (bigF 4 off ++ (bigF 4 x.length ++ x)))
def wEnc (g off : Int) (x : List (List Cell)) : List (List Cell) :=
  [.int .u8 229] :: (bigF 4 x.length ++ (x ++ (bigF 4 (wSum g off x) ++ [[.int .u8 255]])))
def wMag : List (List Cell) := ofBytes [69, 83, 76, 49]
def wHdr (g : Int) : List (List Cell) := wMag ++ (bigF 8 g ++ (bigF 4 (crcS (wMag ++ bigF 8 g)) ++ List.replicate 16 [.int .u8 0]))
def wNum (b : List (List Cell)) (i j : Nat) : Int := numF 0 (subL b i j)
def wGen (b : List (List Cell)) : Int := if toBytes (wHdr (wNum b 4 12)) = toBytes b then wNum b 4 12 else 0

/-- the record that the bytes begin with, and whether it is valid -/
def recB (g off : Int) (b : List (List Cell)) : List (List Cell) × Bool :=
  if b.length ≤ 10 ∨ nr (Abs.rowAt b 0) 0 ≠ 229 then ([], false)
  else if wNum b 1 5 < 1 ∨ 30000 < wNum b 1 5 ∨ (b.length : Int) - 10 < wNum b 1 5 then ([], false)
  else (subL b 5 (5 + (wNum b 1 5).toNat), decide (wNum b (5 + (wNum b 1 5).toNat) (9 + (wNum b 1 5).toNat) = wSum g off (subL b 5 (5 + (wNum b 1 5).toNat))) && decide (nr (Abs.rowAt b (9 + (wNum b 1 5).toNat)) 0 = 255))

def wRow (x : List (List Cell)) : List Cell := [.slice 5 x]

/-- the records that bytes begin with, and the offset behind the last -/
def scanF : Nat → Int → Int → List (List Cell) → List (List Cell) × Int
  | 0, _, off, _ => ([], off)
  | k + 1, g, off, b =>
    if (recB g off b).2 = true then
      (wRow (recB g off b).1 :: (scanF k g (off + (recB g off b).1.length + 10) (b.drop ((recB g off b).1.length + 10))).1, (scanF k g (off + (recB g off b).1.length + 10) (b.drop ((recB g off b).1.length + 10))).2)
    else ([], off)
def wScan (g : Int) (area : List (List Cell)) : List (List Cell) × Int := scanF area.length g 0 area

def zeroB (b : List (List Cell)) : Bool := b.all fun r => nr r 0 == 0

/- THE DISK -/

structure Dk where
  dur : List (List Cell)
  cur : List (List Cell)
  q : List (List Cell)
  arm : Bool
  left : Int
  down : Bool

/-- a disk and an error -/
structure Dr where
  d : Dk
  e : Int

def putR (b : List (List Cell)) (r : List Cell) : List (List Cell) := overL b (nr r 0).toNat (nl r 1)
/-- the bytes with what a queue writes -/
def putQ (b : List (List Cell)) : List (List Cell) → List (List Cell)
  | [] => b
  | r :: q => putQ (putR b r) q

def secN (n : Int) : Nat := (if (if 2048 < n then 2048 else n) < 1 then 1 else (if 2048 < n then 2048 else n)).toNat * 32
def newDk (n : Int) : Dk := ⟨List.replicate (secN n) [.int .u8 0], List.replicate (secN n) [.int .u8 0], [], false, 0, false⟩

def Dk.chk (d : Dk) (off n : Int) : Int :=
  if d.down = true then 15 else if off < 0 ∨ n < 0 ∨ (d.cur.length : Int) < off ∨ (d.cur.length : Int) - off < n then 9 else 0

def pcN (off : Int) (n : Nat) : Nat := minN n (32 - off % 32).toNat

def pcR (off : Int) (x : List (List Cell)) : List Cell := [.int .i64 off, .slice 5 x]

/-- piece by piece -/
def wrF : Nat → Dk → Int → List (List Cell) → Dr
  | 0, d, _, _ => ⟨d, 0⟩
  | k + 1, d, off, x =>
    if x.length = 0 then ⟨d, 0⟩
    else if d.arm = true ∧ d.left = 0 then ⟨⟨d.dur, d.cur, d.q, d.arm, d.left, true⟩, 15⟩
    else wrF k ⟨d.dur, overL d.cur off.toNat (x.take (pcN off x.length)), d.q ++ [pcR off (x.take (pcN off x.length))], d.arm, (if d.arm = true then d.left - 1 else d.left), d.down⟩ (off + pcN off x.length) (x.drop (pcN off x.length))

def Dk.write (d : Dk) (off : Int) (x : List (List Cell)) : Dr := if d.chk off x.length ≠ 0 then ⟨d, d.chk off x.length⟩ else wrF (x.length + 1) d off x
def Dk.sync (d : Dk) : Dr := if d.down = true then ⟨d, 15⟩ else ⟨⟨putQ d.dur d.q, d.cur, [], d.arm, d.left, d.down⟩, 0⟩
def Dk.store (d : Dk) (off : Int) (x : List (List Cell)) : Dr := if (d.write off x).e = 0 then (d.write off x).d.sync else d.write off x
def Dk.fail (d : Dk) (n : Int) : Dk := if d.down = true then d else ⟨d.dur, d.cur, d.q, true, (if n < 0 then 0 else n), d.down⟩
def keepN (k : Int) (n : Nat) : Nat := (if (if (n : Int) < k then (n : Int) else k) < 0 then 0 else (if (n : Int) < k then (n : Int) else k)).toNat
/-- what of a piece survives -/
def tornR (r : List Cell) (t : Int) : List Cell := pcR (nr r 0) ((nl r 1).take (keepN t (nl r 1).length))
def crashB (d : Dk) (k t : Int) : List (List Cell) :=
  if keepN k d.q.length < d.q.length then putR (putQ d.dur (d.q.take (keepN k d.q.length))) (tornR (Abs.rowAt d.q (keepN k d.q.length)) t) else putQ d.dur (d.q.take (keepN k d.q.length))
def Dk.crash (d : Dk) (k t : Int) : Dk := ⟨crashB d k t, crashB d k t, [], false, 0, false⟩

/- THE LOG -/

structure Lg where
  act : Int
  gen : Int
  recs : List (List Cell)
  fin : Int
  failed : Bool

structure Lr where
  d : Dk
  l : Lg
  e : Int

def Dk.half (d : Dk) : Int := (d.dur.length / 32 / 2 * 32 : Nat)
def Dk.gen (d : Dk) (s : Int) : Int := wGen (subL d.cur (s * d.half).toNat (s * d.half + 32).toNat)
def Dk.area (d : Dk) (s : Int) : List (List Cell) := subL d.cur (s * d.half + 32).toNat ((s + 1) * d.half).toNat

def zeros (n : Int) : List (List Cell) := List.replicate n.toNat [.int .u8 0]

def openT (d : Dk) (a g : Int) (b : List (List Cell)) : Lr :=
  if zeroB (b.drop (wScan g b).2.toNat) = true then ⟨d, ⟨a, g, (wScan g b).1, (wScan g b).2, false⟩, 0⟩
  else ⟨(d.store (a * d.half + 32 + (wScan g b).2) (zeros (b.length - (wScan g b).2))).d, ⟨a, g, (wScan g b).1, (wScan g b).2, false⟩, (d.store (a * d.half + 32 + (wScan g b).2) (zeros (b.length - (wScan g b).2))).e⟩

def Lg.none : Lg := ⟨0, 0, [], 0, false⟩

def openM (d : Dk) : Lr :=
  if d.dur.length < 128 then ⟨d, Lg.none, 9⟩
  else if d.down = true then ⟨d, Lg.none, 15⟩
  else if d.gen 0 = 0 ∧ d.gen 1 = 0 then
    if zeroB (d.area 0) = true ∧ zeroB (d.area 1) = true then
      if (d.store 0 (wHdr 1)).e = 0 then openT (d.store 0 (wHdr 1)).d 0 1 (d.area 0) else ⟨(d.store 0 (wHdr 1)).d, Lg.none, (d.store 0 (wHdr 1)).e⟩
    else ⟨d, Lg.none, 2⟩
  else if d.gen 0 < d.gen 1 then openT d 1 (d.gen 1) (d.area 1)
  else openT d 0 (d.gen 0) (d.area 0)

def useE (fa : Bool) : Int := if fa = true then 15 else 0
def recE (x : List (List Cell)) : Int := if x.length = 0 then 2 else if 30000 < x.length then 3 else 0

def Lg.free (l : Lg) (d : Dk) : Int := d.half - 32 - l.fin

def appM (d : Dk) (l : Lg) (x : List (List Cell)) : Lr :=
  if l.failed = true then ⟨d, l, 15⟩
  else if recE x ≠ 0 then ⟨d, l, recE x⟩
  else if l.free d < x.length + 10 then ⟨d, l, 16⟩
  else if (d.store (l.act * d.half + 32 + l.fin) (wEnc l.gen l.fin x)).e = 0 then
    ⟨(d.store (l.act * d.half + 32 + l.fin) (wEnc l.gen l.fin x)).d, ⟨l.act, l.gen, l.recs ++ [wRow x], l.fin + x.length + 10, false⟩, 0⟩
  else ⟨(d.store (l.act * d.half + 32 + l.fin) (wEnc l.gen l.fin x)).d, ⟨l.act, l.gen, l.recs, l.fin, true⟩, (d.store (l.act * d.half + 32 + l.fin) (wEnc l.gen l.fin x)).e⟩

def recsE : List (List Cell) → Int
  | [] => 0
  | r :: rs => if recE (nl r 0) ≠ 0 then recE (nl r 0) else recsE rs
def recsN : List (List Cell) → Int
  | [] => 0
  | r :: rs => (nl r 0).length + 10 + recsN rs
def encW (g : Int) : Int → List (List Cell) → List (List Cell)
  | _, [] => []
  | off, r :: rs => wEnc g off (nl r 0) ++ encW g (off + (nl r 0).length + 10) rs
def cloneR : List (List Cell) → List (List Cell)
  | [] => []
  | r :: rs => wRow (nl r 0) :: cloneR rs

def repB (d : Dk) (l : Lg) (rs : List (List Cell)) : List (List Cell) := encW (l.gen + 1) 0 rs ++ zeros (d.half - 32 - recsN rs)
def repD (d : Dk) (l : Lg) (rs : List (List Cell)) : Dr := d.store ((1 - l.act) * d.half + 32) (repB d l rs)
def repH (d : Dk) (l : Lg) (rs : List (List Cell)) : Dr := (repD d l rs).d.store ((1 - l.act) * d.half) (wHdr (l.gen + 1))

def repM (d : Dk) (l : Lg) (rs : List (List Cell)) : Lr :=
  if l.failed = true then ⟨d, l, 15⟩
  else if recsE rs ≠ 0 then ⟨d, l, recsE rs⟩
  else if d.half - 32 < recsN rs ∨ l.gen = 18446744073709551615 then ⟨d, l, 16⟩
  else if (repD d l rs).e ≠ 0 then ⟨(repD d l rs).d, ⟨l.act, l.gen, l.recs, l.fin, true⟩, (repD d l rs).e⟩
  else if (repH d l rs).e ≠ 0 then ⟨(repH d l rs).d, ⟨l.act, l.gen, l.recs, l.fin, true⟩, (repH d l rs).e⟩
  else ⟨(repH d l rs).d, ⟨1 - l.act, l.gen + 1, cloneR rs, recsN rs, false⟩, 0⟩

/- WHERE THE CONTRACTS SPEAK -/

open Classical in
/-- a condition that the kernel leaves as it is -/
noncomputable def pd (p : Prop) : Bool := decide p
theorem pd_t {p : Prop} (h : p) : pd p = true := by simp [pd, h]
theorem pd_of {p : Prop} (h : pd p = true) : p := by simpa [pd] using h


noncomputable def sb1 (x : Block) : Bool := sameB1 x x
theorem sb1_t (x : Block) : sb1 x = true := by simp [sb1, sameB1]
theorem sameO_self {β : Type} (x : Option β) : sameO x x = x := by simp [sameO]


noncomputable def okV (v : Int) : Bool := pd (0 ≤ v) && pd (v < 18446744073709551616)
noncomputable def okSz (k : Int) : Bool := k == 4 || k == 8
noncomputable def okBl (x : List (List Cell)) : Bool := okB x && pd (x.length ≤ 1000000)
noncomputable def okMx (n : Nat) (x : List (List Cell)) : Bool := Nat.beq n x.length && pd (x.length ≤ 1000000)
noncomputable def okWa (lo n c : Nat) (x : List (List Cell)) (k : Nat) : Bool := pd (0 < x.length) && (pd (n + k ≤ c) && pd (lo + n + k ≤ x.length))
noncomputable def okWb (lo n : Nat) (x : List (List Cell)) : Bool := pd (lo + n ≤ x.length) && (okB (subL x lo (lo + n)) && pd (n ≤ 1000000))
noncomputable def okRx (o : Int) (y : List (List Cell)) : Bool := okB y && (pd (0 ≤ o) && (pd (o ≤ 4611686018427387904) && pd (y.length ≤ 30000)))
noncomputable def okSeg (s : Int) : Bool := pd (0 ≤ s) && pd (s ≤ 1)
noncomputable def okRl (r : List (List Cell)) : Bool := pd (r.length ≤ 65536) && r.all fun q => okB (nl q 0)
noncomputable def okRs (r : List (List Cell)) : Bool := pd (r.length ≤ 65536) && r.all fun q => okB (nl q 0) && pd ((nl q 0).length ≤ 30000)

/-- a piece that lies on a disk of so many bytes -/
noncomputable def okPc (n : Nat) (r : List Cell) : Bool := pd (0 ≤ nr r 0) && (pd (nr r 0 + (nl r 1).length ≤ n) && okB (nl r 1))

structure DkOk (d : Dk) : Prop where
  cd : d.cur.length = d.dur.length
  pos : 32 ≤ d.dur.length
  le : d.dur.length ≤ 65536
  sec : d.dur.length % 32 = 0
  q : ∀ r ∈ d.q, okPc d.dur.length r = true
  ql : d.q.length ≤ 4000000
  left : 0 ≤ d.left ∧ d.left ≤ 9223372036854775807
  bd : okB d.dur = true
  bc : okB d.cur = true

structure LgOk (d : Dk) (l : Lg) : Prop where
  act : 0 ≤ l.act ∧ l.act ≤ 1
  gen : 0 ≤ l.gen ∧ l.gen < 18446744073709551616
  half : 64 ≤ d.half
  fin : 0 ≤ l.fin ∧ l.fin ≤ d.half - 32
  recs : (l.recs.length : Int) ≤ l.fin

open Classical in
noncomputable def okDk (n m : Nat) (d : Dk) : Bool := Nat.beq n d.dur.length && (Nat.beq m d.cur.length && decide (DkOk d))
open Classical in
noncomputable def okLg (d : Dk) (l : Lg) : Bool := decide (LgOk d l)
noncomputable def okWx (d : Dk) (x : List (List Cell)) : Bool := okB x && pd (d.q.length + x.length ≤ 4000000)
noncomputable def okAp (d : Dk) (x : List (List Cell)) : Bool := okB x && pd (d.q.length ≤ 1000000)
noncomputable def okRp (d : Dk) (r : List (List Cell)) : Bool := okRl r && pd (d.q.length ≤ 1000000)

def secs (u : List (List Cell)) : Int := (u.length / 32 : Nat)
def Dk.rd (d : Dk) (o k : Int) : List (List Cell) := if d.chk o k = 0 then subL d.cur o.toNat (o + k).toNat else []
def Dk.all (d : Dk) : List UInt8 := if d.down = true then [] else toBytes d.cur

/- THE LAWS' OWN HELPERS -/

def sameF : List (List Cell) → List (List Cell) → Bool
  | [], _ => true
  | r :: a, b => toBytes (nl r 0) == toBytes (nl (Abs.rowAt b 0) 0) && sameF a (b.drop 1)
def sameR (a b : List (List Cell)) : Bool := decide (a.length = b.length) && sameF a b

/-- short records, none of them empty -/
def mkF : Nat → Int → Int → List (List Cell) → List (List Cell)
  | 0, _, _, _ => []
  | _ + 1, _, _, [] => []
  | n + 1, i, k, r :: rs => if i < k then wRow ((nl r 0).take 40 ++ [[.int .u8 (IntKind.wrap .u8 i)]]) :: mkF n (i + 1) k rs else []
def mkRs (r : List (List Cell)) (k : Int) : List (List Cell) := mkF r.length 0 k r

noncomputable def okArg (r : List (List Cell)) : Bool := pd (r.length ≤ 9223372036854775807) && r.all fun q => okB (nl q 0)
noncomputable def okY (y : Int) : Bool := pd (0 ≤ y) && pd (y < 256)

end Go.Proofs.Ytpafnokcmhlbgaa
