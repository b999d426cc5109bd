/-
  What each function does at each place where a run of it may be cut: printed by a program of our own.
-/
import Derived.Test.YtohikghidhdhjaaTab
namespace Go.Proofs.Ytohikghidhdhjaa
open Go.Abs
set_option maxRecDepth 20000

/- slices.Clone[[]elasticstore/api.Change,elasticstore/api.Change] -/
theorem e79 (m : Nat) (c : List (List Cell)) : runF E (callOf L11) (m + 1) 79 [.one (.sl false 63 c)] [] =
  (cond (isNilL c)
   none
   (cond (fits (([] : List (List Cell)).length + c.length))
    (some ([.one (.sl true 63 (([] : List (List Cell)) ++ c))], []))
    none)) := by kernel_rfl

/- elasticstore/config.clone -/
theorem e57 (m : Nat) (ap : Int) (np : Int) (cp : List (List Cell)) : runF E (callOf L79) (m + 1) 57 [.agg [.int .i64 ap, .int .i64 np, .sl false 63 cp]] [] =
  (cond (okCh cp)
   (some ([.agg [.int .i64 ap, .int .i64 np, .sl false 63 cp]], []))
   none) := by kernel_rfl

/- elasticstore/config.Union$1 -/
theorem e55 (m : Nat) (ap : Int) (np : Int) (cp : List (List Cell)) : runF E (callOf L57) (m + 1) 55 [.agg [.int .i64 ap, .int .i64 np, .sl false 63 cp]] [] =
  (some ([.one (.bool true)], [])) := by kernel_rfl

/- slices.BinarySearchFunc[elasticstore/api.Config,elasticstore/api.Proposal,elasticstore/api.Proposal] -/
noncomputable def P76_0 : List AItem := F76.at [.snd, .snd, .snd, .fst, .sub, .head]
def M76_0 (t0 : List (List Cell)) (t8 : Int) (t9 : Int) (t10 : Int) (b0 : Int) (b0_1 : Int) (b0_2 : List (List Cell)) : St := ⟨[(0, .one (.sl false 45 t0)), (2, .one (.fn 45 [])), (4, .one (.ptr 0 0)), (8, .one (.int .i64 t8)), (9, .one (.int .i64 t9)), (10, .one (.int .i64 t10))], [.var [.int .i64 b0, .int .i64 b0_1, .sl false 63 b0_2]]⟩
theorem e76 (m : Nat) (c : List (List Cell)) (ap : Int) (np : Int) (cp : List (List Cell)) : runF E (callOf L55) (m + 1) 76 [.one (.sl false 45 c), .agg [.int .i64 ap, .int .i64 np, .sl false 63 cp], .one (.fn 45 [])] [] =
  (goF E (callOf L55) F76 0 m P76_0 (M76_0 c (c.length : Int) 0 (c.length : Int) ap np cp)) := by kernel_rfl
theorem e76_0 (m : Nat) (t0 : List (List Cell)) (t8 : Int) (t9 : Int) (t10 : Int) (b0 : Int) (b0_1 : Int) (b0_2 : List (List Cell)) : goF E (callOf L55) F76 0 (m + 1) P76_0 (M76_0 t0 t8 t9 t10 b0 b0_1 b0_2) =
  (cond (decide (t9 < t10))
   (cond (inB (IntKind.wrap .i64 (shrI .u64 (IntKind.wrap .u64 (IntKind.wrap .i64 (t9 + t10))) 1)) t0.length)
    (cond (decide ((cmpP (nr (Abs.rowAt t0 (Int.toNat (IntKind.wrap .i64 (shrI .u64 (IntKind.wrap .u64 (IntKind.wrap .i64 (t9 + t10))) 1)))) 0) (nr (Abs.rowAt t0 (Int.toNat (IntKind.wrap .i64 (shrI .u64 (IntKind.wrap .u64 (IntKind.wrap .i64 (t9 + t10))) 1)))) 1) b0 b0_1) < 0))
     (goF E (callOf L55) F76 0 m P76_0 (M76_0 t0 t8 (IntKind.wrap .i64 ((IntKind.wrap .i64 (shrI .u64 (IntKind.wrap .u64 (IntKind.wrap .i64 (t9 + t10))) 1)) + 1)) t10 b0 b0_1 b0_2))
     (goF E (callOf L55) F76 0 m P76_0 (M76_0 t0 t8 t9 (IntKind.wrap .i64 (shrI .u64 (IntKind.wrap .u64 (IntKind.wrap .i64 (t9 + t10))) 1)) b0 b0_1 b0_2)))
    none)
   (cond (decide (t9 < t8))
    (cond (inB t9 t0.length)
     (some ([.one (.int .i64 t9), .one (.bool ((cmpP (nr (Abs.rowAt t0 (Int.toNat t9)) 0) (nr (Abs.rowAt t0 (Int.toNat t9)) 1) b0 b0_1) == 0))], []))
     none)
    (some ([.one (.int .i64 t9), .one (.bool false)], [])))) := by kernel_rfl

/- elasticstore/config.has -/
theorem e51 (m : Nat) (c : List (List Cell)) (ap : Int) (np : Int) (cp : List (List Cell)) : runF E (callOf L76) (m + 1) 51 [.one (.sl false 45 c), .agg [.int .i64 ap, .int .i64 np, .sl false 63 cp]] [] =
  (cond (okSrt c)
   (some ([.one (.bool (hasK c (prow ap np cp)))], []))
   none) := by kernel_rfl

/- elasticstore/config.Contains -/
noncomputable def P19_0 : List AItem := F19.at [.snd, .fst, .snd, .sub, .head]
def M19_0 (t0 : List (List Cell)) (t7 : List (List Cell)) (t8 : Int) (t9 : Int) : St := ⟨[(0, .one (.sl false 45 t0)), (7, .one (.sl false 45 t7)), (8, .one (.int .i64 t8)), (9, .one (.int .i64 t9))], []⟩
theorem e19 (m : Nat) (c : List (List Cell)) (d : List (List Cell)) : runF E (callOf L51) (m + 1) 19 [.one (.sl false 45 c), .one (.sl false 45 d)] [] =
  (goF E (callOf L51) F19 0 m P19_0 (M19_0 c d (d.length : Int) 0)) := by kernel_rfl
theorem e19_0 (m : Nat) (t0 : List (List Cell)) (t7 : List (List Cell)) (t8 : Int) (t9 : Int) : goF E (callOf L51) F19 0 (m + 1) P19_0 (M19_0 t0 t7 t8 t9) =
  (cond (decide (t9 < t8))
   (cond (inB t9 t7.length)
    (cond (okSrt t0)
     (cond (!(hasK t0 (prow (nr (Abs.rowAt t7 (Int.toNat t9)) 0) (nr (Abs.rowAt t7 (Int.toNat t9)) 1) (nl (Abs.rowAt t7 (Int.toNat t9)) 2))))
      (some ([.one (.bool false)], []))
      (goF E (callOf L51) F19 0 m P19_0 (M19_0 t0 t7 t8 (IntKind.wrap .i64 (t9 + 1)))))
     none)
    none)
   (some ([.one (.bool true)], []))) := by kernel_rfl

/- elasticstore/config.Equal -/
theorem e21 (m : Nat) (c : List (List Cell)) (d : List (List Cell)) : runF E (callOf L19) (m + 1) 21 [.one (.sl false 45 c), .one (.sl false 45 d)] [] =
  (cond (okSrt c && okLn d)
   (cond (contK c d)
    (cond (okSrt d && okLn c)
     (some ([.one (.bool (contK d c))], []))
     none)
    (some ([.one (.bool false)], [])))
   none) := by kernel_rfl

/- elasticstore/vector.search$1 -/
theorem e92 (m : Nat) (u : Int) (k : Int) (a : Int) : runF E (callOf L21) (m + 1) 92 [.agg [.int .i64 u, .int .i64 k], .one (.int .i64 a)] [] =
  (some ([.one (.int .i64 (cmpI u a))], [])) := by kernel_rfl

/- slices.BinarySearchFunc[elasticstore/api.Vector,elasticstore/api.Entry,int] -/
noncomputable def P91_0 : List AItem := F91.at [.snd, .snd, .snd, .fst, .sub, .head]
def M91_0 (t0 : List (List Cell)) (t1 : Int) (t8 : Int) (t9 : Int) (t10 : Int) : St := ⟨[(0, .one (.sl false 67 t0)), (1, .one (.int .i64 t1)), (2, .one (.fn 92 [])), (8, .one (.int .i64 t8)), (9, .one (.int .i64 t9)), (10, .one (.int .i64 t10))], []⟩
theorem e91 (m : Nat) (v : List (List Cell)) (a : Int) : runF E (callOf L92) (m + 1) 91 [.one (.sl false 67 v), .one (.int .i64 a), .one (.fn 92 [])] [] =
  (goF E (callOf L92) F91 0 m P91_0 (M91_0 v a (v.length : Int) 0 (v.length : Int))) := by kernel_rfl
theorem e91_0 (m : Nat) (t0 : List (List Cell)) (t1 : Int) (t8 : Int) (t9 : Int) (t10 : Int) : goF E (callOf L92) F91 0 (m + 1) P91_0 (M91_0 t0 t1 t8 t9 t10) =
  (cond (decide (t9 < t10))
   (cond (inB (IntKind.wrap .i64 (shrI .u64 (IntKind.wrap .u64 (IntKind.wrap .i64 (t9 + t10))) 1)) t0.length)
    (cond (decide ((cmpI (nr (Abs.rowAt t0 (Int.toNat (IntKind.wrap .i64 (shrI .u64 (IntKind.wrap .u64 (IntKind.wrap .i64 (t9 + t10))) 1)))) 0) t1) < 0))
     (goF E (callOf L92) F91 0 m P91_0 (M91_0 t0 t1 t8 (IntKind.wrap .i64 ((IntKind.wrap .i64 (shrI .u64 (IntKind.wrap .u64 (IntKind.wrap .i64 (t9 + t10))) 1)) + 1)) t10))
     (goF E (callOf L92) F91 0 m P91_0 (M91_0 t0 t1 t8 t9 (IntKind.wrap .i64 (shrI .u64 (IntKind.wrap .u64 (IntKind.wrap .i64 (t9 + t10))) 1)))))
    none)
   (cond (decide (t9 < t8))
    (cond (inB t9 t0.length)
     (some ([.one (.int .i64 t9), .one (.bool ((cmpI (nr (Abs.rowAt t0 (Int.toNat t9)) 0) t1) == 0))], []))
     none)
    (some ([.one (.int .i64 t9), .one (.bool false)], [])))) := by kernel_rfl

/- elasticstore/vector.search -/
theorem e81 (m : Nat) (v : List (List Cell)) (a : Int) : runF E (callOf L91) (m + 1) 81 [.one (.sl false 67 v), .one (.int .i64 a)] [] =
  (cond (okVec v)
   (some ([.one (.int .i64 (lowV v a : Int)), .one (.bool (hasV v a))], []))
   none) := by kernel_rfl

/- elasticstore/vector.Get -/
theorem e62 (m : Nat) (v : List (List Cell)) (a : Int) : runF E (callOf L81) (m + 1) 62 [.one (.sl false 67 v), .one (.int .i64 a)] [] =
  (cond (okVec v)
   (cond (hasV v a)
    (cond (inB (lowV v a : Int) v.length)
     (some ([.one (.int .i64 (nr (Abs.rowAt v (Int.toNat (lowV v a : Int))) 1))], []))
     none)
    (some ([.one (.int .i64 0)], [])))
   none) := by kernel_rfl

/- elasticstore/config.Vector -/
noncomputable def P17_0 : List AItem := F17.at [.snd, .snd, .fst, .snd, .sub, .head]
def M17_0 (t3 : Nat) (t7 : List (List Cell)) (t8 : Int) (t9 : Int) (b0 : List (List Cell)) : St := ⟨[(3, .one (.msl 67 0 t3)), (7, .one (.sl false 45 t7)), (8, .one (.int .i64 t8)), (9, .one (.int .i64 t9))], [.arr 67 b0]⟩
theorem e17 (m : Nat) (c : List (List Cell)) : runF E (callOf L62) (m + 1) 17 [.one (.sl false 45 c)] [] =
  (goF E (callOf L62) F17 0 m P17_0 (M17_0 0 c (c.length : Int) 0 ([] : List (List Cell)))) := by kernel_rfl
theorem e17_0 (m : Nat) (t3 : Nat) (t7 : List (List Cell)) (t8 : Int) (t9 : Int) (b0 : List (List Cell)) : goF E (callOf L62) F17 0 (m + 1) P17_0 (M17_0 t3 t7 t8 t9 b0) =
  (cond (decide (t9 < t8))
   (cond (inB t9 t7.length)
    (cond (decide ((t3 : Int) > 0))
     (cond (inB (IntKind.wrap .i64 ((t3 : Int) - 1)) t3)
      (cond (Nat.blt (Int.toNat (IntKind.wrap .i64 ((t3 : Int) - 1))) b0.length)
       (cond ((nr (Abs.rowAt b0 (Int.toNat (IntKind.wrap .i64 ((t3 : Int) - 1)))) 0) == (nr (Abs.rowAt t7 (Int.toNat t9)) 0))
        (cond (inB (IntKind.wrap .i64 ((t3 : Int) - 1)) t3)
         (cond (Nat.blt (Int.toNat (IntKind.wrap .i64 ((t3 : Int) - 1))) b0.length)
          (cond (inB (IntKind.wrap .i64 ((t3 : Int) - 1)) t3)
           (cond (Nat.blt (Int.toNat (IntKind.wrap .i64 ((t3 : Int) - 1))) b0.length)
            (goF E (callOf L62) F17 0 m P17_0 (M17_0 t3 t7 t8 (IntKind.wrap .i64 (t9 + 1)) (Abs.setN b0 (Int.toNat (IntKind.wrap .i64 ((t3 : Int) - 1))) (setCells (Abs.rowAt b0 (Int.toNat (IntKind.wrap .i64 ((t3 : Int) - 1)))) 1 [Cell.int .i64 (IntKind.wrap .i64 ((nr (Abs.rowAt b0 (Int.toNat (IntKind.wrap .i64 ((t3 : Int) - 1)))) 1) + 1))]))))
            none)
           none)
          none)
         none)
        (cond (Nat.beq t3 b0.length)
         (cond (fits (b0.length + [[Cell.int .i64 (nr (Abs.rowAt t7 (Int.toNat t9)) 0), Cell.int .i64 1]].length))
          (goF E (callOf L62) F17 0 m P17_0 (M17_0 (b0.length + [[Cell.int .i64 (nr (Abs.rowAt t7 (Int.toNat t9)) 0), Cell.int .i64 1]].length) t7 t8 (IntKind.wrap .i64 (t9 + 1)) (b0 ++ [[Cell.int .i64 (nr (Abs.rowAt t7 (Int.toNat t9)) 0), Cell.int .i64 1]])))
          none)
         none))
       none)
      none)
     (cond (Nat.beq t3 b0.length)
      (cond (fits (b0.length + [[Cell.int .i64 (nr (Abs.rowAt t7 (Int.toNat t9)) 0), Cell.int .i64 1]].length))
       (goF E (callOf L62) F17 0 m P17_0 (M17_0 (b0.length + [[Cell.int .i64 (nr (Abs.rowAt t7 (Int.toNat t9)) 0), Cell.int .i64 1]].length) t7 t8 (IntKind.wrap .i64 (t9 + 1)) (b0 ++ [[Cell.int .i64 (nr (Abs.rowAt t7 (Int.toNat t9)) 0), Cell.int .i64 1]])))
       none)
      none))
    none)
   (cond (Nat.beq t3 b0.length)
    (some ([.one (.sl false 67 b0)], []))
    none)) := by kernel_rfl

/- elasticstore/config.Meet$1 -/
theorem e58 (m : Nat) (ap : Int) (np : Int) (cp : List (List Cell)) (d : List (List Cell)) : runF E (callOf L17) (m + 1) 58 [.agg [.int .i64 ap, .int .i64 np, .sl false 63 cp], .one (.ptr 0 0)] [.var [.sl false 45 d]] =
  (cond (okSrt d)
   (some ([.one (.bool (hasK d (prow ap np cp)))], [.var [.sl false 45 d]]))
   none) := by kernel_rfl

/- elasticstore/config.Restrict$1 -/
theorem e61 (m : Nat) (ap : Int) (np : Int) (cp : List (List Cell)) (v : List (List Cell)) : runF E (callOf L58) (m + 1) 61 [.agg [.int .i64 ap, .int .i64 np, .sl false 63 cp], .one (.ptr 0 0)] [.var [.sl false 67 v]] =
  (cond (okVec v)
   (some ([.one (.bool (decide (np ≤ (cntV v ap))))], [.var [.sl false 67 v]]))
   none) := by kernel_rfl

/- elasticstore/config.filter -/
noncomputable def P54_0 : List AItem := F54.at [.snd, .snd, .fst, .snd, .sub, .head]
def M54_0 (t5 : Nat) (t8 : List (List Cell)) (t9 : Int) (t10 : Int) (b0 : List (List Cell)) : St := ⟨[(1, .one (.fn 55 [])), (5, .one (.msl 45 0 t5)), (8, .one (.sl false 45 t8)), (9, .one (.int .i64 t9)), (10, .one (.int .i64 t10))], [.arr 45 b0]⟩
theorem e54 (m : Nat) (c : List (List Cell)) : runF E (callOf L61) (m + 1) 54 [.one (.sl false 45 c), .one (.fn 55 [])] [] =
  (goF E (callOf L61) F54 0 m P54_0 (M54_0 0 c (c.length : Int) 0 ([] : List (List Cell)))) := by kernel_rfl
theorem e54_0 (m : Nat) (t5 : Nat) (t8 : List (List Cell)) (t9 : Int) (t10 : Int) (b0 : List (List Cell)) : goF E (callOf L61) F54 0 (m + 1) P54_0 (M54_0 t5 t8 t9 t10 b0) =
  (cond (decide (t10 < t9))
   (cond (inB t10 t8.length)
    (cond true
     (cond (okCh (nl (Abs.rowAt t8 (Int.toNat t10)) 2))
      (cond (Nat.beq t5 b0.length)
       (cond (fits (b0.length + [[Cell.int .i64 (nr (Abs.rowAt t8 (Int.toNat t10)) 0), Cell.int .i64 (nr (Abs.rowAt t8 (Int.toNat t10)) 1), Cell.slice 63 (nl (Abs.rowAt t8 (Int.toNat t10)) 2)]].length))
        (goF E (callOf L61) F54 0 m P54_0 (M54_0 (b0.length + [[Cell.int .i64 (nr (Abs.rowAt t8 (Int.toNat t10)) 0), Cell.int .i64 (nr (Abs.rowAt t8 (Int.toNat t10)) 1), Cell.slice 63 (nl (Abs.rowAt t8 (Int.toNat t10)) 2)]].length) t8 t9 (IntKind.wrap .i64 (t10 + 1)) (b0 ++ [[Cell.int .i64 (nr (Abs.rowAt t8 (Int.toNat t10)) 0), Cell.int .i64 (nr (Abs.rowAt t8 (Int.toNat t10)) 1), Cell.slice 63 (nl (Abs.rowAt t8 (Int.toNat t10)) 2)]])))
        none)
       none)
      none)
     (goF E (callOf L61) F54 0 m P54_0 (M54_0 t5 t8 t9 (IntKind.wrap .i64 (t10 + 1)) b0)))
    none)
   (some ([.one (.msl 45 0 t5)], [.arr 45 b0]))) := by kernel_rfl
noncomputable def P54_0_c1 : List AItem := F54.at [.snd, .snd, .fst, .snd, .sub, .head]
def M54_0_c1 (t5 : Nat) (t8 : List (List Cell)) (t9 : Int) (t10 : Int) (b0 : List (List Cell)) (b1 : List (List Cell)) : St := ⟨[(1, .one (.fn 58 [.ptr 0 0])), (5, .one (.msl 45 1 t5)), (8, .one (.sl false 45 t8)), (9, .one (.int .i64 t9)), (10, .one (.int .i64 t10))], [.var [.sl false 45 b0], .arr 45 b1]⟩
theorem e54_c1 (m : Nat) (c : List (List Cell)) (d : List (List Cell)) : runF E (callOf L61) (m + 1) 54 [.one (.sl false 45 c), .one (.fn 58 [.ptr 0 0])] [.var [.sl false 45 d]] =
  (goF E (callOf L61) F54 1 m P54_0_c1 (M54_0_c1 0 c (c.length : Int) 0 d ([] : List (List Cell)))) := by kernel_rfl
theorem e54_0_c1 (m : Nat) (t5 : Nat) (t8 : List (List Cell)) (t9 : Int) (t10 : Int) (b0 : List (List Cell)) (b1 : List (List Cell)) : goF E (callOf L61) F54 1 (m + 1) P54_0_c1 (M54_0_c1 t5 t8 t9 t10 b0 b1) =
  (cond (decide (t10 < t9))
   (cond (inB t10 t8.length)
    (cond (okSrt b0)
     (cond (hasK b0 (prow (nr (Abs.rowAt t8 (Int.toNat t10)) 0) (nr (Abs.rowAt t8 (Int.toNat t10)) 1) (nl (Abs.rowAt t8 (Int.toNat t10)) 2)))
      (cond (okCh (nl (Abs.rowAt t8 (Int.toNat t10)) 2))
       (cond (Nat.beq t5 b1.length)
        (cond (fits (b1.length + [[Cell.int .i64 (nr (Abs.rowAt t8 (Int.toNat t10)) 0), Cell.int .i64 (nr (Abs.rowAt t8 (Int.toNat t10)) 1), Cell.slice 63 (nl (Abs.rowAt t8 (Int.toNat t10)) 2)]].length))
         (goF E (callOf L61) F54 1 m P54_0_c1 (M54_0_c1 (b1.length + [[Cell.int .i64 (nr (Abs.rowAt t8 (Int.toNat t10)) 0), Cell.int .i64 (nr (Abs.rowAt t8 (Int.toNat t10)) 1), Cell.slice 63 (nl (Abs.rowAt t8 (Int.toNat t10)) 2)]].length) t8 t9 (IntKind.wrap .i64 (t10 + 1)) b0 (b1 ++ [[Cell.int .i64 (nr (Abs.rowAt t8 (Int.toNat t10)) 0), Cell.int .i64 (nr (Abs.rowAt t8 (Int.toNat t10)) 1), Cell.slice 63 (nl (Abs.rowAt t8 (Int.toNat t10)) 2)]])))
         none)
        none)
       none)
      (goF E (callOf L61) F54 1 m P54_0_c1 (M54_0_c1 t5 t8 t9 (IntKind.wrap .i64 (t10 + 1)) b0 b1)))
     none)
    none)
   (some ([.one (.msl 45 1 t5)], [.var [.sl false 45 b0], .arr 45 b1]))) := by kernel_rfl
noncomputable def P54_0_c2 : List AItem := F54.at [.snd, .snd, .fst, .snd, .sub, .head]
def M54_0_c2 (t5 : Nat) (t8 : List (List Cell)) (t9 : Int) (t10 : Int) (b0 : List (List Cell)) (b1 : List (List Cell)) : St := ⟨[(1, .one (.fn 61 [.ptr 0 0])), (5, .one (.msl 45 1 t5)), (8, .one (.sl false 45 t8)), (9, .one (.int .i64 t9)), (10, .one (.int .i64 t10))], [.var [.sl false 67 b0], .arr 45 b1]⟩
theorem e54_c2 (m : Nat) (c : List (List Cell)) (v : List (List Cell)) : runF E (callOf L61) (m + 1) 54 [.one (.sl false 45 c), .one (.fn 61 [.ptr 0 0])] [.var [.sl false 67 v]] =
  (goF E (callOf L61) F54 1 m P54_0_c2 (M54_0_c2 0 c (c.length : Int) 0 v ([] : List (List Cell)))) := by kernel_rfl
theorem e54_0_c2 (m : Nat) (t5 : Nat) (t8 : List (List Cell)) (t9 : Int) (t10 : Int) (b0 : List (List Cell)) (b1 : List (List Cell)) : goF E (callOf L61) F54 1 (m + 1) P54_0_c2 (M54_0_c2 t5 t8 t9 t10 b0 b1) =
  (cond (decide (t10 < t9))
   (cond (inB t10 t8.length)
    (cond (okVec b0)
     (cond (decide ((nr (Abs.rowAt t8 (Int.toNat t10)) 1) ≤ cntV b0 (nr (Abs.rowAt t8 (Int.toNat t10)) 0)))
      (cond (okCh (nl (Abs.rowAt t8 (Int.toNat t10)) 2))
       (cond (Nat.beq t5 b1.length)
        (cond (fits (b1.length + [[Cell.int .i64 (nr (Abs.rowAt t8 (Int.toNat t10)) 0), Cell.int .i64 (nr (Abs.rowAt t8 (Int.toNat t10)) 1), Cell.slice 63 (nl (Abs.rowAt t8 (Int.toNat t10)) 2)]].length))
         (goF E (callOf L61) F54 1 m P54_0_c2 (M54_0_c2 (b1.length + [[Cell.int .i64 (nr (Abs.rowAt t8 (Int.toNat t10)) 0), Cell.int .i64 (nr (Abs.rowAt t8 (Int.toNat t10)) 1), Cell.slice 63 (nl (Abs.rowAt t8 (Int.toNat t10)) 2)]].length) t8 t9 (IntKind.wrap .i64 (t10 + 1)) b0 (b1 ++ [[Cell.int .i64 (nr (Abs.rowAt t8 (Int.toNat t10)) 0), Cell.int .i64 (nr (Abs.rowAt t8 (Int.toNat t10)) 1), Cell.slice 63 (nl (Abs.rowAt t8 (Int.toNat t10)) 2)]])))
         none)
        none)
       none)
      (goF E (callOf L61) F54 1 m P54_0_c2 (M54_0_c2 t5 t8 t9 (IntKind.wrap .i64 (t10 + 1)) b0 b1)))
     none)
    none)
   (some ([.one (.msl 45 1 t5)], [.var [.sl false 67 b0], .arr 45 b1]))) := by kernel_rfl

/- elasticstore/config.Union -/
noncomputable def P24_0 : List AItem := F24.at [.snd, .sub, .snd, .snd, .fst, .snd, .sub, .head]
def M24_0 (t5 : Nat) (t13 : List (List Cell)) (t14 : Int) (t15 : Int) (b0 : List (List Cell)) : St := ⟨[(5, .one (.msl 45 0 t5)), (13, .one (.sl false 45 t13)), (14, .one (.int .i64 t14)), (15, .one (.int .i64 t15))], [.arr 45 b0]⟩
noncomputable def P24_1 : List AItem := F24.at [.snd, .sub, .snd, .snd, .fst, .snd, .sub, .body, .snd, .snd, .fst, .sub, .snd, .fst, .snd, .sub, .head]
def M24_1 (t5 : Nat) (t13 : List (List Cell)) (t14 : Int) (t15 : Int) (t19 : Nat) (t20 : Int) (t21 : Int) (b0 : List (List Cell)) (b1 : Int) (b1_1 : Int) (b1_2 : List (List Cell)) : St := ⟨[(5, .one (.msl 45 0 t5)), (7, .one (.ptr 1 0)), (13, .one (.sl false 45 t13)), (14, .one (.int .i64 t14)), (15, .one (.int .i64 t15)), (19, .one (.msl 45 0 t19)), (20, .one (.int .i64 t20)), (21, .one (.int .i64 t21))], [.arr 45 b0, .var [.int .i64 b1, .int .i64 b1_1, .sl false 63 b1_2]]⟩
theorem e24 (m : Nat) (c : List (List Cell)) (d : List (List Cell)) : runF E (callOf L56) (m + 1) 24 [.one (.sl false 45 c), .one (.sl false 45 d)] [] =
  (cond (okCl c)
   (goF E (callOf L56) F24 0 m P24_0 (M24_0 (c.length) d (d.length : Int) 0 c))
   none) := by kernel_rfl
theorem e24_0 (m : Nat) (t5 : Nat) (t13 : List (List Cell)) (t14 : Int) (t15 : Int) (b0 : List (List Cell)) : goF E (callOf L56) F24 0 (m + 1) P24_0 (M24_0 t5 t13 t14 t15 b0) =
  (cond (decide (t15 < t14))
   (cond (inB t15 t13.length)
    (goF E (callOf L56) F24 0 m P24_1 (M24_1 t5 t13 t14 t15 t5 (t5 : Int) 0 b0 (nr (Abs.rowAt t13 (Int.toNat t15)) 0) (nr (Abs.rowAt t13 (Int.toNat t15)) 1) (nl (Abs.rowAt t13 (Int.toNat t15)) 2)))
    none)
   (cond (Nat.beq t5 b0.length)
    (some ([.one (.sl false 45 b0)], []))
    none)) := by kernel_rfl
theorem e24_1 (m : Nat) (t5 : Nat) (t13 : List (List Cell)) (t14 : Int) (t15 : Int) (t19 : Nat) (t20 : Int) (t21 : Int) (b0 : List (List Cell)) (b1 : Int) (b1_1 : Int) (b1_2 : List (List Cell)) : goF E (callOf L56) F24 0 (m + 1) P24_1 (M24_1 t5 t13 t14 t15 t19 t20 t21 b0 b1 b1_1 b1_2) =
  (cond (decide (t21 < t20))
   (cond (inB t21 t19)
    (cond (Nat.blt (Int.toNat t21) b0.length)
     (cond ((cmpP b1 b1_1 (nr (Abs.rowAt b0 (Int.toNat t21)) 0) (nr (Abs.rowAt b0 (Int.toNat t21)) 1)) == 0)
      (goF E (callOf L56) F24 0 m P24_0 (M24_0 t5 t13 t14 (IntKind.wrap .i64 (t15 + 1)) b0))
      (cond (decide ((cmpP b1 b1_1 (nr (Abs.rowAt b0 (Int.toNat t21)) 0) (nr (Abs.rowAt b0 (Int.toNat t21)) 1)) < 0))
       (cond (okCh b1_2)
        (cond (okIns t5 t21 b0 [[Cell.int .i64 b1, Cell.int .i64 b1_1, Cell.slice 63 b1_2]])
         (goF E (callOf L56) F24 0 m P24_0 (M24_0 (b0.length + [[Cell.int .i64 b1, Cell.int .i64 b1_1, Cell.slice 63 b1_2]].length) t13 t14 (IntKind.wrap .i64 (t15 + 1)) (insL b0 [[Cell.int .i64 b1, Cell.int .i64 b1_1, Cell.slice 63 b1_2]] (Int.toNat t21))))
         none)
        none)
       (goF E (callOf L56) F24 0 m P24_1 (M24_1 t5 t13 t14 t15 t19 t20 (IntKind.wrap .i64 (t21 + 1)) b0 b1 b1_1 b1_2))))
     none)
    none)
   (cond (okCh b1_2)
    (cond (Nat.beq t5 b0.length)
     (cond (fits (b0.length + [[Cell.int .i64 b1, Cell.int .i64 b1_1, Cell.slice 63 b1_2]].length))
      (goF E (callOf L56) F24 0 m P24_0 (M24_0 (b0.length + [[Cell.int .i64 b1, Cell.int .i64 b1_1, Cell.slice 63 b1_2]].length) t13 t14 (IntKind.wrap .i64 (t15 + 1)) (b0 ++ [[Cell.int .i64 b1, Cell.int .i64 b1_1, Cell.slice 63 b1_2]])))
      none)
     none)
    none)) := by kernel_rfl

/- elasticstore/config.Meet -/
theorem e26 (m : Nat) (c : List (List Cell)) (d : List (List Cell)) : runF E (callOf L24) (m + 1) 26 [.one (.sl false 45 c), .one (.sl false 45 d)] [] =
  (cond (okCl c && okSrt d)
   (cond (Nat.beq (meetK c d).length (meetK c d).length)
    (some ([.one (.sl false 45 (meetK c d))], []))
    none)
   none) := by kernel_rfl

/- elasticstore/config.Restrict -/
theorem e33 (m : Nat) (c : List (List Cell)) (v : List (List Cell)) : runF E (callOf L26) (m + 1) 33 [.one (.sl false 45 c), .one (.sl false 67 v)] [] =
  (cond (okCl c && okVec v)
   (cond (Nat.beq (restr c v).length (restr c v).length)
    (some ([.one (.sl false 45 (restr c v))], []))
    none)
   none) := by kernel_rfl

/- elasticstore/config.Add -/
theorem e34 (m : Nat) (c : List (List Cell)) (ap : Int) (np : Int) (cp : List (List Cell)) : runF E (callOf L33) (m + 1) 34 [.one (.sl false 45 c), .agg [.int .i64 ap, .int .i64 np, .sl false 63 cp]] [] =
  (cond (decide (cp.length < 9223372036854775808))
   (cond ((vProp ap np cp) != 0)
    (some ([.one (.sl false 45 ([] : List (List Cell))), .one (.int .i64 (vProp ap np cp))], []))
    (cond (okSrt c)
     (cond (hasK c (prow ap np cp))
      (some ([.one (.sl false 45 ([] : List (List Cell))), .one (.int .i64 5)], []))
      (cond (okLn c)
       (cond (okVec (vecK c))
        (cond (np != (IntKind.wrap .i64 ((cntV (vecK c) ap) + 1)))
         (some ([.one (.sl false 45 ([] : List (List Cell))), .one (.int .i64 8)], []))
         (cond (okCl c && okCl [[Cell.int .i64 ap, Cell.int .i64 np, Cell.slice 63 cp]])
          (some ([.one (.sl false 45 (uniK c [[Cell.int .i64 ap, Cell.int .i64 np, Cell.slice 63 cp]])), .one (.int .i64 0)], []))
          none))
        none)
       none))
     none))
   none) := by kernel_rfl

/- elasticstore/elasticstoreref06.has -/
noncomputable def P52_0 : List AItem := F52.at [.snd, .fst, .snd, .sub, .head]
def M52_0 (t0 : List (List Cell)) (t5 : Int) (b0 : Int) (b0_1 : Int) (b0_2 : List (List Cell)) : St := ⟨[(0, .one (.sl false 45 t0)), (3, .one (.ptr 0 0)), (5, .one (.int .i64 t5))], [.var [.int .i64 b0, .int .i64 b0_1, .sl false 63 b0_2]]⟩
theorem e52 (m : Nat) (c : List (List Cell)) (ap : Int) (np : Int) (cp : List (List Cell)) : runF E (callOf L34) (m + 1) 52 [.one (.sl false 45 c), .agg [.int .i64 ap, .int .i64 np, .sl false 63 cp]] [] =
  (goF E (callOf L34) F52 0 m P52_0 (M52_0 c 0 ap np cp)) := by kernel_rfl
theorem e52_0 (m : Nat) (t0 : List (List Cell)) (t5 : Int) (b0 : Int) (b0_1 : Int) (b0_2 : List (List Cell)) : goF E (callOf L34) F52 0 (m + 1) P52_0 (M52_0 t0 t5 b0 b0_1 b0_2) =
  (cond (decide (t5 < (t0.length : Int)))
   (cond (inB t5 t0.length)
    (cond ((cmpP (nr (Abs.rowAt t0 (Int.toNat t5)) 0) (nr (Abs.rowAt t0 (Int.toNat t5)) 1) b0 b0_1) == 0)
     (some ([.one (.bool true)], []))
     (goF E (callOf L34) F52 0 m P52_0 (M52_0 t0 (IntKind.wrap .i64 (t5 + 1)) b0 b0_1 b0_2)))
    none)
   (some ([.one (.bool false)], []))) := by kernel_rfl

/- elasticstore/elasticstoreref06.Contains -/
noncomputable def P20_0 : List AItem := F20.at [.snd, .fst, .snd, .sub, .head]
def M20_0 (t0 : List (List Cell)) (t1 : List (List Cell)) (t5 : Int) : St := ⟨[(0, .one (.sl false 45 t0)), (1, .one (.sl false 45 t1)), (5, .one (.int .i64 t5))], []⟩
theorem e20 (m : Nat) (c : List (List Cell)) (d : List (List Cell)) : runF E (callOf L52) (m + 1) 20 [.one (.sl false 45 c), .one (.sl false 45 d)] [] =
  (goF E (callOf L52) F20 0 m P20_0 (M20_0 c d 0)) := by kernel_rfl
theorem e20_0 (m : Nat) (t0 : List (List Cell)) (t1 : List (List Cell)) (t5 : Int) : goF E (callOf L52) F20 0 (m + 1) P20_0 (M20_0 t0 t1 t5) =
  (cond (decide (t5 < (t1.length : Int)))
   (cond (inB t5 t1.length)
    (cond (okLn t0)
     (cond (!(hasK t0 (prow (nr (Abs.rowAt t1 (Int.toNat t5)) 0) (nr (Abs.rowAt t1 (Int.toNat t5)) 1) (nl (Abs.rowAt t1 (Int.toNat t5)) 2))))
      (some ([.one (.bool false)], []))
      (goF E (callOf L52) F20 0 m P20_0 (M20_0 t0 t1 (IntKind.wrap .i64 (t5 + 1)))))
     none)
    none)
   (some ([.one (.bool true)], []))) := by kernel_rfl

/- elasticstore/elasticstoreref06.Same -/
theorem e22 (m : Nat) (c : List (List Cell)) (d : List (List Cell)) : runF E (callOf L20) (m + 1) 22 [.one (.sl false 45 c), .one (.sl false 45 d)] [] =
  (cond (okLn c && okLn d)
   (cond (contK c d)
    (cond (okLn d && okLn c)
     (some ([.one (.bool (contK d c))], []))
     none)
    (some ([.one (.bool false)], [])))
   none) := by kernel_rfl

/- elasticstore/elasticstoreref06.Union -/
noncomputable def P25_0 : List AItem := F25.at [.snd, .snd, .snd, .fst, .sub, .head]
def M25_0 (t0 : List (List Cell)) (t1 : List (List Cell)) (t5 : List (List Cell)) (t6 : Int) (t7 : Int) : St := ⟨[(0, .one (.sl false 45 t0)), (1, .one (.sl false 45 t1)), (5, .one (.sl true 45 t5)), (6, .one (.int .i64 t6)), (7, .one (.int .i64 t7))], []⟩
theorem e25 (m : Nat) (c : List (List Cell)) (d : List (List Cell)) : runF E (callOf L22) (m + 1) 25 [.one (.sl false 45 c), .one (.sl false 45 d)] [] =
  (goF E (callOf L22) F25 0 m P25_0 (M25_0 c d ([] : List (List Cell)) 0 0)) := by kernel_rfl
theorem e25_0 (m : Nat) (t0 : List (List Cell)) (t1 : List (List Cell)) (t5 : List (List Cell)) (t6 : Int) (t7 : Int) : goF E (callOf L22) F25 0 (m + 1) P25_0 (M25_0 t0 t1 t5 t6 t7) =
  (cond (decide (t6 < (t0.length : Int)))
   (cond (t7 == (t1.length : Int))
    (cond (inB t6 t0.length)
     (cond (fits (t5.length + [[Cell.int .i64 (nr (Abs.rowAt t0 (Int.toNat t6)) 0), Cell.int .i64 (nr (Abs.rowAt t0 (Int.toNat t6)) 1), Cell.slice 63 (nl (Abs.rowAt t0 (Int.toNat t6)) 2)]].length))
      (goF E (callOf L22) F25 0 m P25_0 (M25_0 t0 t1 (t5 ++ [[Cell.int .i64 (nr (Abs.rowAt t0 (Int.toNat t6)) 0), Cell.int .i64 (nr (Abs.rowAt t0 (Int.toNat t6)) 1), Cell.slice 63 (nl (Abs.rowAt t0 (Int.toNat t6)) 2)]]) (IntKind.wrap .i64 (t6 + 1)) t7))
      none)
     none)
    (cond (decide (t6 < (t0.length : Int)))
     (cond (inB t6 t0.length)
      (cond (inB t7 t1.length)
       (cond (decide ((cmpP (nr (Abs.rowAt t0 (Int.toNat t6)) 0) (nr (Abs.rowAt t0 (Int.toNat t6)) 1) (nr (Abs.rowAt t1 (Int.toNat t7)) 0) (nr (Abs.rowAt t1 (Int.toNat t7)) 1)) < 0))
        (cond (inB t6 t0.length)
         (cond (fits (t5.length + [[Cell.int .i64 (nr (Abs.rowAt t0 (Int.toNat t6)) 0), Cell.int .i64 (nr (Abs.rowAt t0 (Int.toNat t6)) 1), Cell.slice 63 (nl (Abs.rowAt t0 (Int.toNat t6)) 2)]].length))
          (goF E (callOf L22) F25 0 m P25_0 (M25_0 t0 t1 (t5 ++ [[Cell.int .i64 (nr (Abs.rowAt t0 (Int.toNat t6)) 0), Cell.int .i64 (nr (Abs.rowAt t0 (Int.toNat t6)) 1), Cell.slice 63 (nl (Abs.rowAt t0 (Int.toNat t6)) 2)]]) (IntKind.wrap .i64 (t6 + 1)) t7))
          none)
         none)
        (cond (t6 == (t0.length : Int))
         (cond (inB t7 t1.length)
          (cond (fits (t5.length + [[Cell.int .i64 (nr (Abs.rowAt t1 (Int.toNat t7)) 0), Cell.int .i64 (nr (Abs.rowAt t1 (Int.toNat t7)) 1), Cell.slice 63 (nl (Abs.rowAt t1 (Int.toNat t7)) 2)]].length))
           (goF E (callOf L22) F25 0 m P25_0 (M25_0 t0 t1 (t5 ++ [[Cell.int .i64 (nr (Abs.rowAt t1 (Int.toNat t7)) 0), Cell.int .i64 (nr (Abs.rowAt t1 (Int.toNat t7)) 1), Cell.slice 63 (nl (Abs.rowAt t1 (Int.toNat t7)) 2)]]) t6 (IntKind.wrap .i64 (t7 + 1))))
           none)
          none)
         (cond (inB t6 t0.length)
          (cond (inB t7 t1.length)
           (cond (decide ((cmpP (nr (Abs.rowAt t0 (Int.toNat t6)) 0) (nr (Abs.rowAt t0 (Int.toNat t6)) 1) (nr (Abs.rowAt t1 (Int.toNat t7)) 0) (nr (Abs.rowAt t1 (Int.toNat t7)) 1)) > 0))
            (cond (inB t7 t1.length)
             (cond (fits (t5.length + [[Cell.int .i64 (nr (Abs.rowAt t1 (Int.toNat t7)) 0), Cell.int .i64 (nr (Abs.rowAt t1 (Int.toNat t7)) 1), Cell.slice 63 (nl (Abs.rowAt t1 (Int.toNat t7)) 2)]].length))
              (goF E (callOf L22) F25 0 m P25_0 (M25_0 t0 t1 (t5 ++ [[Cell.int .i64 (nr (Abs.rowAt t1 (Int.toNat t7)) 0), Cell.int .i64 (nr (Abs.rowAt t1 (Int.toNat t7)) 1), Cell.slice 63 (nl (Abs.rowAt t1 (Int.toNat t7)) 2)]]) t6 (IntKind.wrap .i64 (t7 + 1))))
              none)
             none)
            (cond (inB t6 t0.length)
             (cond (fits (t5.length + [[Cell.int .i64 (nr (Abs.rowAt t0 (Int.toNat t6)) 0), Cell.int .i64 (nr (Abs.rowAt t0 (Int.toNat t6)) 1), Cell.slice 63 (nl (Abs.rowAt t0 (Int.toNat t6)) 2)]].length))
              (goF E (callOf L22) F25 0 m P25_0 (M25_0 t0 t1 (t5 ++ [[Cell.int .i64 (nr (Abs.rowAt t0 (Int.toNat t6)) 0), Cell.int .i64 (nr (Abs.rowAt t0 (Int.toNat t6)) 1), Cell.slice 63 (nl (Abs.rowAt t0 (Int.toNat t6)) 2)]]) (IntKind.wrap .i64 (t6 + 1)) (IntKind.wrap .i64 (t7 + 1))))
              none)
             none))
           none)
          none)))
       none)
      none)
     (cond (t6 == (t0.length : Int))
      (cond (inB t7 t1.length)
       (cond (fits (t5.length + [[Cell.int .i64 (nr (Abs.rowAt t1 (Int.toNat t7)) 0), Cell.int .i64 (nr (Abs.rowAt t1 (Int.toNat t7)) 1), Cell.slice 63 (nl (Abs.rowAt t1 (Int.toNat t7)) 2)]].length))
        (goF E (callOf L22) F25 0 m P25_0 (M25_0 t0 t1 (t5 ++ [[Cell.int .i64 (nr (Abs.rowAt t1 (Int.toNat t7)) 0), Cell.int .i64 (nr (Abs.rowAt t1 (Int.toNat t7)) 1), Cell.slice 63 (nl (Abs.rowAt t1 (Int.toNat t7)) 2)]]) t6 (IntKind.wrap .i64 (t7 + 1))))
        none)
       none)
      (cond (inB t6 t0.length)
       (cond (inB t7 t1.length)
        (cond (decide ((cmpP (nr (Abs.rowAt t0 (Int.toNat t6)) 0) (nr (Abs.rowAt t0 (Int.toNat t6)) 1) (nr (Abs.rowAt t1 (Int.toNat t7)) 0) (nr (Abs.rowAt t1 (Int.toNat t7)) 1)) > 0))
         (cond (inB t7 t1.length)
          (cond (fits (t5.length + [[Cell.int .i64 (nr (Abs.rowAt t1 (Int.toNat t7)) 0), Cell.int .i64 (nr (Abs.rowAt t1 (Int.toNat t7)) 1), Cell.slice 63 (nl (Abs.rowAt t1 (Int.toNat t7)) 2)]].length))
           (goF E (callOf L22) F25 0 m P25_0 (M25_0 t0 t1 (t5 ++ [[Cell.int .i64 (nr (Abs.rowAt t1 (Int.toNat t7)) 0), Cell.int .i64 (nr (Abs.rowAt t1 (Int.toNat t7)) 1), Cell.slice 63 (nl (Abs.rowAt t1 (Int.toNat t7)) 2)]]) t6 (IntKind.wrap .i64 (t7 + 1))))
           none)
          none)
         (cond (inB t6 t0.length)
          (cond (fits (t5.length + [[Cell.int .i64 (nr (Abs.rowAt t0 (Int.toNat t6)) 0), Cell.int .i64 (nr (Abs.rowAt t0 (Int.toNat t6)) 1), Cell.slice 63 (nl (Abs.rowAt t0 (Int.toNat t6)) 2)]].length))
           (goF E (callOf L22) F25 0 m P25_0 (M25_0 t0 t1 (t5 ++ [[Cell.int .i64 (nr (Abs.rowAt t0 (Int.toNat t6)) 0), Cell.int .i64 (nr (Abs.rowAt t0 (Int.toNat t6)) 1), Cell.slice 63 (nl (Abs.rowAt t0 (Int.toNat t6)) 2)]]) (IntKind.wrap .i64 (t6 + 1)) (IntKind.wrap .i64 (t7 + 1))))
           none)
          none))
        none)
       none))))
   (cond (decide (t7 < (t1.length : Int)))
    (cond (t7 == (t1.length : Int))
     (cond (inB t6 t0.length)
      (cond (fits (t5.length + [[Cell.int .i64 (nr (Abs.rowAt t0 (Int.toNat t6)) 0), Cell.int .i64 (nr (Abs.rowAt t0 (Int.toNat t6)) 1), Cell.slice 63 (nl (Abs.rowAt t0 (Int.toNat t6)) 2)]].length))
       (goF E (callOf L22) F25 0 m P25_0 (M25_0 t0 t1 (t5 ++ [[Cell.int .i64 (nr (Abs.rowAt t0 (Int.toNat t6)) 0), Cell.int .i64 (nr (Abs.rowAt t0 (Int.toNat t6)) 1), Cell.slice 63 (nl (Abs.rowAt t0 (Int.toNat t6)) 2)]]) (IntKind.wrap .i64 (t6 + 1)) t7))
       none)
      none)
     (cond (decide (t6 < (t0.length : Int)))
      (cond (inB t6 t0.length)
       (cond (inB t7 t1.length)
        (cond (decide ((cmpP (nr (Abs.rowAt t0 (Int.toNat t6)) 0) (nr (Abs.rowAt t0 (Int.toNat t6)) 1) (nr (Abs.rowAt t1 (Int.toNat t7)) 0) (nr (Abs.rowAt t1 (Int.toNat t7)) 1)) < 0))
         (cond (inB t6 t0.length)
          (cond (fits (t5.length + [[Cell.int .i64 (nr (Abs.rowAt t0 (Int.toNat t6)) 0), Cell.int .i64 (nr (Abs.rowAt t0 (Int.toNat t6)) 1), Cell.slice 63 (nl (Abs.rowAt t0 (Int.toNat t6)) 2)]].length))
           (goF E (callOf L22) F25 0 m P25_0 (M25_0 t0 t1 (t5 ++ [[Cell.int .i64 (nr (Abs.rowAt t0 (Int.toNat t6)) 0), Cell.int .i64 (nr (Abs.rowAt t0 (Int.toNat t6)) 1), Cell.slice 63 (nl (Abs.rowAt t0 (Int.toNat t6)) 2)]]) (IntKind.wrap .i64 (t6 + 1)) t7))
           none)
          none)
         (cond (t6 == (t0.length : Int))
          (cond (inB t7 t1.length)
           (cond (fits (t5.length + [[Cell.int .i64 (nr (Abs.rowAt t1 (Int.toNat t7)) 0), Cell.int .i64 (nr (Abs.rowAt t1 (Int.toNat t7)) 1), Cell.slice 63 (nl (Abs.rowAt t1 (Int.toNat t7)) 2)]].length))
            (goF E (callOf L22) F25 0 m P25_0 (M25_0 t0 t1 (t5 ++ [[Cell.int .i64 (nr (Abs.rowAt t1 (Int.toNat t7)) 0), Cell.int .i64 (nr (Abs.rowAt t1 (Int.toNat t7)) 1), Cell.slice 63 (nl (Abs.rowAt t1 (Int.toNat t7)) 2)]]) t6 (IntKind.wrap .i64 (t7 + 1))))
            none)
           none)
          (cond (inB t6 t0.length)
           (cond (inB t7 t1.length)
            (cond (decide ((cmpP (nr (Abs.rowAt t0 (Int.toNat t6)) 0) (nr (Abs.rowAt t0 (Int.toNat t6)) 1) (nr (Abs.rowAt t1 (Int.toNat t7)) 0) (nr (Abs.rowAt t1 (Int.toNat t7)) 1)) > 0))
             (cond (inB t7 t1.length)
              (cond (fits (t5.length + [[Cell.int .i64 (nr (Abs.rowAt t1 (Int.toNat t7)) 0), Cell.int .i64 (nr (Abs.rowAt t1 (Int.toNat t7)) 1), Cell.slice 63 (nl (Abs.rowAt t1 (Int.toNat t7)) 2)]].length))
               (goF E (callOf L22) F25 0 m P25_0 (M25_0 t0 t1 (t5 ++ [[Cell.int .i64 (nr (Abs.rowAt t1 (Int.toNat t7)) 0), Cell.int .i64 (nr (Abs.rowAt t1 (Int.toNat t7)) 1), Cell.slice 63 (nl (Abs.rowAt t1 (Int.toNat t7)) 2)]]) t6 (IntKind.wrap .i64 (t7 + 1))))
               none)
              none)
             (cond (inB t6 t0.length)
              (cond (fits (t5.length + [[Cell.int .i64 (nr (Abs.rowAt t0 (Int.toNat t6)) 0), Cell.int .i64 (nr (Abs.rowAt t0 (Int.toNat t6)) 1), Cell.slice 63 (nl (Abs.rowAt t0 (Int.toNat t6)) 2)]].length))
               (goF E (callOf L22) F25 0 m P25_0 (M25_0 t0 t1 (t5 ++ [[Cell.int .i64 (nr (Abs.rowAt t0 (Int.toNat t6)) 0), Cell.int .i64 (nr (Abs.rowAt t0 (Int.toNat t6)) 1), Cell.slice 63 (nl (Abs.rowAt t0 (Int.toNat t6)) 2)]]) (IntKind.wrap .i64 (t6 + 1)) (IntKind.wrap .i64 (t7 + 1))))
               none)
              none))
            none)
           none)))
        none)
       none)
      (cond (t6 == (t0.length : Int))
       (cond (inB t7 t1.length)
        (cond (fits (t5.length + [[Cell.int .i64 (nr (Abs.rowAt t1 (Int.toNat t7)) 0), Cell.int .i64 (nr (Abs.rowAt t1 (Int.toNat t7)) 1), Cell.slice 63 (nl (Abs.rowAt t1 (Int.toNat t7)) 2)]].length))
         (goF E (callOf L22) F25 0 m P25_0 (M25_0 t0 t1 (t5 ++ [[Cell.int .i64 (nr (Abs.rowAt t1 (Int.toNat t7)) 0), Cell.int .i64 (nr (Abs.rowAt t1 (Int.toNat t7)) 1), Cell.slice 63 (nl (Abs.rowAt t1 (Int.toNat t7)) 2)]]) t6 (IntKind.wrap .i64 (t7 + 1))))
         none)
        none)
       (cond (inB t6 t0.length)
        (cond (inB t7 t1.length)
         (cond (decide ((cmpP (nr (Abs.rowAt t0 (Int.toNat t6)) 0) (nr (Abs.rowAt t0 (Int.toNat t6)) 1) (nr (Abs.rowAt t1 (Int.toNat t7)) 0) (nr (Abs.rowAt t1 (Int.toNat t7)) 1)) > 0))
          (cond (inB t7 t1.length)
           (cond (fits (t5.length + [[Cell.int .i64 (nr (Abs.rowAt t1 (Int.toNat t7)) 0), Cell.int .i64 (nr (Abs.rowAt t1 (Int.toNat t7)) 1), Cell.slice 63 (nl (Abs.rowAt t1 (Int.toNat t7)) 2)]].length))
            (goF E (callOf L22) F25 0 m P25_0 (M25_0 t0 t1 (t5 ++ [[Cell.int .i64 (nr (Abs.rowAt t1 (Int.toNat t7)) 0), Cell.int .i64 (nr (Abs.rowAt t1 (Int.toNat t7)) 1), Cell.slice 63 (nl (Abs.rowAt t1 (Int.toNat t7)) 2)]]) t6 (IntKind.wrap .i64 (t7 + 1))))
            none)
           none)
          (cond (inB t6 t0.length)
           (cond (fits (t5.length + [[Cell.int .i64 (nr (Abs.rowAt t0 (Int.toNat t6)) 0), Cell.int .i64 (nr (Abs.rowAt t0 (Int.toNat t6)) 1), Cell.slice 63 (nl (Abs.rowAt t0 (Int.toNat t6)) 2)]].length))
            (goF E (callOf L22) F25 0 m P25_0 (M25_0 t0 t1 (t5 ++ [[Cell.int .i64 (nr (Abs.rowAt t0 (Int.toNat t6)) 0), Cell.int .i64 (nr (Abs.rowAt t0 (Int.toNat t6)) 1), Cell.slice 63 (nl (Abs.rowAt t0 (Int.toNat t6)) 2)]]) (IntKind.wrap .i64 (t6 + 1)) (IntKind.wrap .i64 (t7 + 1))))
            none)
           none))
         none)
        none))))
    (some ([.one (.sl false 45 t5)], [])))) := by kernel_rfl

/- elasticstore/elasticstoreref06.Meet -/
noncomputable def P27_0 : List AItem := F27.at [.snd, .snd, .fst, .snd, .sub, .head]
def M27_0 (t0 : List (List Cell)) (t1 : List (List Cell)) (t5 : List (List Cell)) (t6 : Int) : St := ⟨[(0, .one (.sl false 45 t0)), (1, .one (.sl false 45 t1)), (5, .one (.sl true 45 t5)), (6, .one (.int .i64 t6))], []⟩
theorem e27 (m : Nat) (c : List (List Cell)) (d : List (List Cell)) : runF E (callOf L25) (m + 1) 27 [.one (.sl false 45 c), .one (.sl false 45 d)] [] =
  (goF E (callOf L25) F27 0 m P27_0 (M27_0 c d ([] : List (List Cell)) 0)) := by kernel_rfl
theorem e27_0 (m : Nat) (t0 : List (List Cell)) (t1 : List (List Cell)) (t5 : List (List Cell)) (t6 : Int) : goF E (callOf L25) F27 0 (m + 1) P27_0 (M27_0 t0 t1 t5 t6) =
  (cond (decide (t6 < (t0.length : Int)))
   (cond (inB t6 t0.length)
    (cond (okLn t1)
     (cond (hasK t1 (prow (nr (Abs.rowAt t0 (Int.toNat t6)) 0) (nr (Abs.rowAt t0 (Int.toNat t6)) 1) (nl (Abs.rowAt t0 (Int.toNat t6)) 2)))
      (cond (inB t6 t0.length)
       (cond (fits (t5.length + [[Cell.int .i64 (nr (Abs.rowAt t0 (Int.toNat t6)) 0), Cell.int .i64 (nr (Abs.rowAt t0 (Int.toNat t6)) 1), Cell.slice 63 (nl (Abs.rowAt t0 (Int.toNat t6)) 2)]].length))
        (goF E (callOf L25) F27 0 m P27_0 (M27_0 t0 t1 (t5 ++ [[Cell.int .i64 (nr (Abs.rowAt t0 (Int.toNat t6)) 0), Cell.int .i64 (nr (Abs.rowAt t0 (Int.toNat t6)) 1), Cell.slice 63 (nl (Abs.rowAt t0 (Int.toNat t6)) 2)]]) (IntKind.wrap .i64 (t6 + 1))))
        none)
       none)
      (goF E (callOf L25) F27 0 m P27_0 (M27_0 t0 t1 t5 (IntKind.wrap .i64 (t6 + 1)))))
     none)
    none)
   (some ([.one (.sl false 45 t5)], []))) := by kernel_rfl

/- elasticstore/elasticstoreref06.Agree -/
noncomputable def P48_0 : List AItem := F48.at [.snd, .fst, .snd, .sub, .head]
def M48_0 (t0 : List (List Cell)) (t1 : List (List Cell)) (t5 : Int) : St := ⟨[(0, .one (.sl false 45 t0)), (1, .one (.sl false 45 t1)), (5, .one (.int .i64 t5))], []⟩
noncomputable def P48_1 : List AItem := F48.at [.snd, .fst, .snd, .sub, .body, .snd, .fst, .sub, .snd, .sub, .head]
def M48_1 (t0 : List (List Cell)) (t1 : List (List Cell)) (t5 : Int) (t6 : Int) : St := ⟨[(0, .one (.sl false 45 t0)), (1, .one (.sl false 45 t1)), (5, .one (.int .i64 t5)), (6, .one (.int .i64 t6))], []⟩
theorem e48 (m : Nat) (c : List (List Cell)) (d : List (List Cell)) : runF E (callOf L27) (m + 1) 48 [.one (.sl false 45 c), .one (.sl false 45 d)] [] =
  (goF E (callOf L27) F48 0 m P48_0 (M48_0 c d 0)) := by kernel_rfl
theorem e48_0 (m : Nat) (t0 : List (List Cell)) (t1 : List (List Cell)) (t5 : Int) : goF E (callOf L27) F48 0 (m + 1) P48_0 (M48_0 t0 t1 t5) =
  (cond (decide (t5 < (t0.length : Int)))
   (goF E (callOf L27) F48 0 m P48_1 (M48_1 t0 t1 t5 0))
   (some ([.one (.bool true)], []))) := by kernel_rfl
theorem e48_1 (m : Nat) (t0 : List (List Cell)) (t1 : List (List Cell)) (t5 : Int) (t6 : Int) : goF E (callOf L27) F48 0 (m + 1) P48_1 (M48_1 t0 t1 t5 t6) =
  (cond (decide (t6 < (t1.length : Int)))
   (cond (inB t5 t0.length)
    (cond (inB t6 t1.length)
     (cond ((cmpP (nr (Abs.rowAt t0 (Int.toNat t5)) 0) (nr (Abs.rowAt t0 (Int.toNat t5)) 1) (nr (Abs.rowAt t1 (Int.toNat t6)) 0) (nr (Abs.rowAt t1 (Int.toNat t6)) 1)) == 0)
      (cond (inB t5 t0.length)
       (cond (inB t6 t1.length)
        (cond (decide ((nl (Abs.rowAt t0 (Int.toNat t5)) 2).length < 9223372036854775808))
         (cond (!(eqP (nr (Abs.rowAt t0 (Int.toNat t5)) 0) (nr (Abs.rowAt t0 (Int.toNat t5)) 1) (nl (Abs.rowAt t0 (Int.toNat t5)) 2) (nr (Abs.rowAt t1 (Int.toNat t6)) 0) (nr (Abs.rowAt t1 (Int.toNat t6)) 1) (nl (Abs.rowAt t1 (Int.toNat t6)) 2)))
          (some ([.one (.bool false)], []))
          (goF E (callOf L27) F48 0 m P48_1 (M48_1 t0 t1 t5 (IntKind.wrap .i64 (t6 + 1)))))
         none)
        none)
       none)
      (goF E (callOf L27) F48 0 m P48_1 (M48_1 t0 t1 t5 (IntKind.wrap .i64 (t6 + 1)))))
     none)
    none)
   (goF E (callOf L27) F48 0 m P48_0 (M48_0 t0 t1 (IntKind.wrap .i64 (t5 + 1))))) := by kernel_rfl

/- elasticstore/elasticstorelaw00.Valid -/
noncomputable def P15_0 : List AItem := F15.at [.snd, .fst, .snd, .sub, .head]
def M15_0 (t0 : List (List Cell)) (t3 : Int) : St := ⟨[(0, .one (.sl false 23 t0)), (3, .one (.int .i64 t3))], []⟩
noncomputable def P15_1 : List AItem := F15.at [.snd, .fst, .snd, .sub, .body, .snd, .fst, .sub, .snd, .snd, .sub, .head]
def M15_1 (t0 : List (List Cell)) (t3 : Int) (t4 : Int) : St := ⟨[(0, .one (.sl false 23 t0)), (3, .one (.int .i64 t3)), (4, .one (.int .i64 t4))], []⟩
theorem e15 (m : Nat) (l : List (List Cell)) : runF E (callOf L48) (m + 1) 15 [.one (.sl false 23 l)] [] =
  (goF E (callOf L48) F15 0 m P15_0 (M15_0 l 0)) := by kernel_rfl
theorem e15_0 (m : Nat) (t0 : List (List Cell)) (t3 : Int) : goF E (callOf L48) F15 0 (m + 1) P15_0 (M15_0 t0 t3) =
  (cond (decide (t3 < (t0.length : Int)))
   (cond (inB t3 t0.length)
    (cond (okRows (nl (Abs.rowAt t0 (Int.toNat t3)) 0))
     (cond ((vCfg (nl (Abs.rowAt t0 (Int.toNat t3)) 0)) != 0)
      (some ([.one (.bool false)], []))
      (goF E (callOf L48) F15 0 m P15_1 (M15_1 t0 t3 0)))
     none)
    none)
   (some ([.one (.bool true)], []))) := by kernel_rfl
theorem e15_1 (m : Nat) (t0 : List (List Cell)) (t3 : Int) (t4 : Int) : goF E (callOf L48) F15 0 (m + 1) P15_1 (M15_1 t0 t3 t4) =
  (cond (decide (t4 < t3))
   (cond (inB t3 t0.length)
    (cond (inB t4 t0.length)
     (cond (okRows (nl (Abs.rowAt t0 (Int.toNat t3)) 0) && okLn (nl (Abs.rowAt t0 (Int.toNat t4)) 0))
      (cond (!(agrC (nl (Abs.rowAt t0 (Int.toNat t3)) 0) (nl (Abs.rowAt t0 (Int.toNat t4)) 0)))
       (some ([.one (.bool false)], []))
       (goF E (callOf L48) F15 0 m P15_1 (M15_1 t0 t3 (IntKind.wrap .i64 (t4 + 1)))))
      none)
     none)
    none)
   (goF E (callOf L48) F15 0 m P15_0 (M15_0 t0 (IntKind.wrap .i64 (t3 + 1))))) := by kernel_rfl

/- elasticstore/elasticstoreref03.Count -/
noncomputable def P50_0 : List AItem := F50.at [.snd, .fst, .snd, .sub, .head]
def M50_0 (t0 : List (List Cell)) (t1 : Int) (t5 : Int) : St := ⟨[(0, .one (.sl false 67 t0)), (1, .one (.int .i64 t1)), (5, .one (.int .i64 t5))], []⟩
theorem e50 (m : Nat) (v : List (List Cell)) (a : Int) : runF E (callOf L15) (m + 1) 50 [.one (.sl false 67 v), .one (.int .i64 a)] [] =
  (goF E (callOf L15) F50 0 m P50_0 (M50_0 v a 0)) := by kernel_rfl
theorem e50_0 (m : Nat) (t0 : List (List Cell)) (t1 : Int) (t5 : Int) : goF E (callOf L15) F50 0 (m + 1) P50_0 (M50_0 t0 t1 t5) =
  (cond (decide (t5 < (t0.length : Int)))
   (cond (inB t5 t0.length)
    (cond ((nr (Abs.rowAt t0 (Int.toNat t5)) 0) == t1)
     (cond (inB t5 t0.length)
      (some ([.one (.int .i64 (nr (Abs.rowAt t0 (Int.toNat t5)) 1))], []))
      none)
     (goF E (callOf L15) F50 0 m P50_0 (M50_0 t0 t1 (IntKind.wrap .i64 (t5 + 1)))))
    none)
   (some ([.one (.int .i64 0)], []))) := by kernel_rfl

/- elasticstore/elasticstoreref03.With -/
noncomputable def P49_0 : List AItem := F49.at [.snd, .snd, .snd, .snd, .fst, .snd, .sub, .head]
def M49_0 (t0 : List (List Cell)) (t1 : Int) (t2 : Int) (t7 : List (List Cell)) (t8 : Bool) (t9 : Int) : St := ⟨[(0, .one (.sl false 67 t0)), (1, .one (.int .i64 t1)), (2, .one (.int .i64 t2)), (7, .one (.sl true 67 t7)), (8, .one (.bool t8)), (9, .one (.int .i64 t9))], []⟩
theorem e49 (m : Nat) (v : List (List Cell)) (a : Int) (k : Int) : runF E (callOf L50) (m + 1) 49 [.one (.sl false 67 v), .one (.int .i64 a), .one (.int .i64 k)] [] =
  (cond (decide (a < 1))
   (some ([.one (.sl false 67 v)], []))
   (cond (decide (k < 0))
    (some ([.one (.sl false 67 v)], []))
    (cond (decide (k > 1000000))
     (some ([.one (.sl false 67 v)], []))
     (goF E (callOf L50) F49 0 m P49_0 (M49_0 v a k ([] : List (List Cell)) (k == 0) 0))))) := by kernel_rfl
theorem e49_0 (m : Nat) (t0 : List (List Cell)) (t1 : Int) (t2 : Int) (t7 : List (List Cell)) (t8 : Bool) (t9 : Int) : goF E (callOf L50) F49 0 (m + 1) P49_0 (M49_0 t0 t1 t2 t7 t8 t9) =
  (cond (decide (t9 < (t0.length : Int)))
   (cond (!t8)
    (cond (inB t9 t0.length)
     (cond (decide ((nr (Abs.rowAt t0 (Int.toNat t9)) 0) ≥ t1))
      (cond (fits (t7.length + [[Cell.int .i64 t1, Cell.int .i64 t2]].length))
       (cond (inB t9 t0.length)
        (cond ((nr (Abs.rowAt t0 (Int.toNat t9)) 0) != t1)
         (cond (inB t9 t0.length)
          (cond (fits ((t7 ++ [[Cell.int .i64 t1, Cell.int .i64 t2]]).length + [[Cell.int .i64 (nr (Abs.rowAt t0 (Int.toNat t9)) 0), Cell.int .i64 (nr (Abs.rowAt t0 (Int.toNat t9)) 1)]].length))
           (goF E (callOf L50) F49 0 m P49_0 (M49_0 t0 t1 t2 ((t7 ++ [[Cell.int .i64 t1, Cell.int .i64 t2]]) ++ [[Cell.int .i64 (nr (Abs.rowAt t0 (Int.toNat t9)) 0), Cell.int .i64 (nr (Abs.rowAt t0 (Int.toNat t9)) 1)]]) true (IntKind.wrap .i64 (t9 + 1))))
           none)
          none)
         (goF E (callOf L50) F49 0 m P49_0 (M49_0 t0 t1 t2 (t7 ++ [[Cell.int .i64 t1, Cell.int .i64 t2]]) true (IntKind.wrap .i64 (t9 + 1)))))
        none)
       none)
      (cond (inB t9 t0.length)
       (cond ((nr (Abs.rowAt t0 (Int.toNat t9)) 0) != t1)
        (cond (inB t9 t0.length)
         (cond (fits (t7.length + [[Cell.int .i64 (nr (Abs.rowAt t0 (Int.toNat t9)) 0), Cell.int .i64 (nr (Abs.rowAt t0 (Int.toNat t9)) 1)]].length))
          (goF E (callOf L50) F49 0 m P49_0 (M49_0 t0 t1 t2 (t7 ++ [[Cell.int .i64 (nr (Abs.rowAt t0 (Int.toNat t9)) 0), Cell.int .i64 (nr (Abs.rowAt t0 (Int.toNat t9)) 1)]]) t8 (IntKind.wrap .i64 (t9 + 1))))
          none)
         none)
        (goF E (callOf L50) F49 0 m P49_0 (M49_0 t0 t1 t2 t7 t8 (IntKind.wrap .i64 (t9 + 1)))))
       none))
     none)
    (cond (inB t9 t0.length)
     (cond ((nr (Abs.rowAt t0 (Int.toNat t9)) 0) != t1)
      (cond (inB t9 t0.length)
       (cond (fits (t7.length + [[Cell.int .i64 (nr (Abs.rowAt t0 (Int.toNat t9)) 0), Cell.int .i64 (nr (Abs.rowAt t0 (Int.toNat t9)) 1)]].length))
        (goF E (callOf L50) F49 0 m P49_0 (M49_0 t0 t1 t2 (t7 ++ [[Cell.int .i64 (nr (Abs.rowAt t0 (Int.toNat t9)) 0), Cell.int .i64 (nr (Abs.rowAt t0 (Int.toNat t9)) 1)]]) t8 (IntKind.wrap .i64 (t9 + 1))))
        none)
       none)
      (goF E (callOf L50) F49 0 m P49_0 (M49_0 t0 t1 t2 t7 t8 (IntKind.wrap .i64 (t9 + 1)))))
     none))
   (cond (!t8)
    (cond (fits (t7.length + [[Cell.int .i64 t1, Cell.int .i64 t2]].length))
     (some ([.one (.sl false 67 (t7 ++ [[Cell.int .i64 t1, Cell.int .i64 t2]]))], []))
     none)
    (some ([.one (.sl false 67 t7)], [])))) := by kernel_rfl

/- elasticstore/elasticstoreref06.VectorOf -/
noncomputable def P18_0 : List AItem := F18.at [.snd, .snd, .fst, .snd, .sub, .head]
def M18_0 (t0 : List (List Cell)) (t3 : List (List Cell)) (t4 : Int) : St := ⟨[(0, .one (.sl false 45 t0)), (3, .one (.sl false 67 t3)), (4, .one (.int .i64 t4))], []⟩
theorem e18 (m : Nat) (c : List (List Cell)) : runF E (callOf L49) (m + 1) 18 [.one (.sl false 45 c)] [] =
  (goF E (callOf L49) F18 0 m P18_0 (M18_0 c ([] : List (List Cell)) 0)) := by kernel_rfl
theorem e18_0 (m : Nat) (t0 : List (List Cell)) (t3 : List (List Cell)) (t4 : Int) : goF E (callOf L49) F18 0 (m + 1) P18_0 (M18_0 t0 t3 t4) =
  (cond (decide (t4 < (t0.length : Int)))
   (cond (inB t4 t0.length)
    (cond (inB t4 t0.length)
     (cond (okLn t3)
      (cond (okEv t3)
       (goF E (callOf L49) F18 0 m P18_0 (M18_0 t0 (withV t3 (nr (Abs.rowAt t0 (Int.toNat t4)) 0) (IntKind.wrap .i64 ((cntV t3 (nr (Abs.rowAt t0 (Int.toNat t4)) 0)) + 1))) (IntKind.wrap .i64 (t4 + 1))))
       none)
      none)
     none)
    none)
   (some ([.one (.sl false 67 t3)], []))) := by kernel_rfl

/- elasticstore/elasticstoreref03.EqualVector -/
noncomputable def P16_0 : List AItem := F16.at [.snd, .snd, .fst, .snd, .sub, .head]
def M16_0 (t0 : List (List Cell)) (t1 : List (List Cell)) (t5 : Int) : St := ⟨[(0, .one (.sl false 67 t0)), (1, .one (.sl false 67 t1)), (5, .one (.int .i64 t5))], []⟩
theorem e16 (m : Nat) (v : List (List Cell)) (w : List (List Cell)) : runF E (callOf L18) (m + 1) 16 [.one (.sl false 67 v), .one (.sl false 67 w)] [] =
  (cond ((v.length : Int) != (w.length : Int))
   (some ([.one (.bool false)], []))
   (goF E (callOf L18) F16 0 m P16_0 (M16_0 v w 0))) := by kernel_rfl
theorem e16_0 (m : Nat) (t0 : List (List Cell)) (t1 : List (List Cell)) (t5 : Int) : goF E (callOf L18) F16 0 (m + 1) P16_0 (M16_0 t0 t1 t5) =
  (cond (decide (t5 < (t0.length : Int)))
   (cond (inB t5 t0.length)
    (cond (inB t5 t1.length)
     (cond (!(((nr (Abs.rowAt t0 (Int.toNat t5)) 0) == (nr (Abs.rowAt t1 (Int.toNat t5)) 0)) && (((nr (Abs.rowAt t0 (Int.toNat t5)) 1) == (nr (Abs.rowAt t1 (Int.toNat t5)) 1)) && true)))
      (some ([.one (.bool false)], []))
      (goF E (callOf L18) F16 0 m P16_0 (M16_0 t0 t1 (IntKind.wrap .i64 (t5 + 1)))))
     none)
    none)
   (some ([.one (.bool true)], []))) := by kernel_rfl

/- elasticstore/elasticstoreref03.Join -/
noncomputable def P30_0 : List AItem := F30.at [.snd, .snd, .fst, .snd, .sub, .head]
def M30_0 (t1 : List (List Cell)) (t5 : List (List Cell)) (t6 : Int) : St := ⟨[(1, .one (.sl false 67 t1)), (5, .one (.sl false 67 t5)), (6, .one (.int .i64 t6))], []⟩
theorem e30 (m : Nat) (v : List (List Cell)) (w : List (List Cell)) : runF E (callOf L16) (m + 1) 30 [.one (.sl false 67 v), .one (.sl false 67 w)] [] =
  (cond (fits (([] : List (List Cell)).length + v.length))
   (goF E (callOf L16) F30 0 m P30_0 (M30_0 w (([] : List (List Cell)) ++ v) 0))
   none) := by kernel_rfl
theorem e30_0 (m : Nat) (t1 : List (List Cell)) (t5 : List (List Cell)) (t6 : Int) : goF E (callOf L16) F30 0 (m + 1) P30_0 (M30_0 t1 t5 t6) =
  (cond (decide (t6 < (t1.length : Int)))
   (cond (inB t6 t1.length)
    (cond (inB t6 t1.length)
     (cond (okLn t5)
      (cond (decide ((nr (Abs.rowAt t1 (Int.toNat t6)) 1) > (cntV t5 (nr (Abs.rowAt t1 (Int.toNat t6)) 0))))
       (cond (inB t6 t1.length)
        (cond (inB t6 t1.length)
         (cond (okEv t5)
          (goF E (callOf L16) F30 0 m P30_0 (M30_0 t1 (withV t5 (nr (Abs.rowAt t1 (Int.toNat t6)) 0) (nr (Abs.rowAt t1 (Int.toNat t6)) 1)) (IntKind.wrap .i64 (t6 + 1))))
          none)
         none)
        none)
       (goF E (callOf L16) F30 0 m P30_0 (M30_0 t1 t5 (IntKind.wrap .i64 (t6 + 1)))))
      none)
     none)
    none)
   (some ([.one (.sl false 67 t5)], []))) := by kernel_rfl

/- elasticstore/elasticstoreref03.Meet -/
noncomputable def P31_0 : List AItem := F31.at [.snd, .snd, .fst, .snd, .sub, .head]
def M31_0 (t0 : List (List Cell)) (t1 : List (List Cell)) (t5 : List (List Cell)) (t6 : Int) : St := ⟨[(0, .one (.sl false 67 t0)), (1, .one (.sl false 67 t1)), (5, .one (.sl true 67 t5)), (6, .one (.int .i64 t6))], []⟩
theorem e31 (m : Nat) (v : List (List Cell)) (w : List (List Cell)) : runF E (callOf L30) (m + 1) 31 [.one (.sl false 67 v), .one (.sl false 67 w)] [] =
  (goF E (callOf L30) F31 0 m P31_0 (M31_0 v w ([] : List (List Cell)) 0)) := by kernel_rfl
theorem e31_0 (m : Nat) (t0 : List (List Cell)) (t1 : List (List Cell)) (t5 : List (List Cell)) (t6 : Int) : goF E (callOf L30) F31 0 (m + 1) P31_0 (M31_0 t0 t1 t5 t6) =
  (cond (decide (t6 < (t0.length : Int)))
   (cond (inB t6 t0.length)
    (cond (inB t6 t0.length)
     (cond (okLn t1)
      (cond (decide ((if (cntV t1 (nr (Abs.rowAt t0 (Int.toNat t6)) 0)) < (nr (Abs.rowAt t0 (Int.toNat t6)) 1) then (cntV t1 (nr (Abs.rowAt t0 (Int.toNat t6)) 0)) else (nr (Abs.rowAt t0 (Int.toNat t6)) 1)) > 0))
       (cond (inB t6 t0.length)
        (cond (fits (t5.length + [[Cell.int .i64 (nr (Abs.rowAt t0 (Int.toNat t6)) 0), Cell.int .i64 (if (cntV t1 (nr (Abs.rowAt t0 (Int.toNat t6)) 0)) < (nr (Abs.rowAt t0 (Int.toNat t6)) 1) then (cntV t1 (nr (Abs.rowAt t0 (Int.toNat t6)) 0)) else (nr (Abs.rowAt t0 (Int.toNat t6)) 1))]].length))
         (goF E (callOf L30) F31 0 m P31_0 (M31_0 t0 t1 (t5 ++ [[Cell.int .i64 (nr (Abs.rowAt t0 (Int.toNat t6)) 0), Cell.int .i64 (if (cntV t1 (nr (Abs.rowAt t0 (Int.toNat t6)) 0)) < (nr (Abs.rowAt t0 (Int.toNat t6)) 1) then (cntV t1 (nr (Abs.rowAt t0 (Int.toNat t6)) 0)) else (nr (Abs.rowAt t0 (Int.toNat t6)) 1))]]) (IntKind.wrap .i64 (t6 + 1))))
         none)
        none)
       (goF E (callOf L30) F31 0 m P31_0 (M31_0 t0 t1 t5 (IntKind.wrap .i64 (t6 + 1)))))
      none)
     none)
    none)
   (some ([.one (.sl false 67 t5)], []))) := by kernel_rfl

/- elasticstore/elasticstoreref03.LessEqual -/
noncomputable def P32_0 : List AItem := F32.at [.snd, .fst, .snd, .sub, .head]
def M32_0 (t0 : List (List Cell)) (t1 : List (List Cell)) (t5 : Int) : St := ⟨[(0, .one (.sl false 67 t0)), (1, .one (.sl false 67 t1)), (5, .one (.int .i64 t5))], []⟩
theorem e32 (m : Nat) (v : List (List Cell)) (w : List (List Cell)) : runF E (callOf L31) (m + 1) 32 [.one (.sl false 67 v), .one (.sl false 67 w)] [] =
  (goF E (callOf L31) F32 0 m P32_0 (M32_0 v w 0)) := by kernel_rfl
theorem e32_0 (m : Nat) (t0 : List (List Cell)) (t1 : List (List Cell)) (t5 : Int) : goF E (callOf L31) F32 0 (m + 1) P32_0 (M32_0 t0 t1 t5) =
  (cond (decide (t5 < (t0.length : Int)))
   (cond (inB t5 t0.length)
    (cond (inB t5 t0.length)
     (cond (okLn t1)
      (cond (decide ((nr (Abs.rowAt t0 (Int.toNat t5)) 1) > (cntV t1 (nr (Abs.rowAt t0 (Int.toNat t5)) 0))))
       (some ([.one (.bool false)], []))
       (goF E (callOf L31) F32 0 m P32_0 (M32_0 t0 t1 (IntKind.wrap .i64 (t5 + 1)))))
      none)
     none)
    none)
   (some ([.one (.bool true)], []))) := by kernel_rfl

/- elasticstore/elasticstoreref03.ValidateVector -/
noncomputable def P38_0 : List AItem := F38.at [.snd, .fst, .snd, .sub, .head]
def M38_0 (t0 : List (List Cell)) (t3 : Int) : St := ⟨[(0, .one (.sl false 67 t0)), (3, .one (.int .i64 t3))], []⟩
theorem e38 (m : Nat) (v : List (List Cell)) : runF E (callOf L32) (m + 1) 38 [.one (.sl false 67 v)] [] =
  (goF E (callOf L32) F38 0 m P38_0 (M38_0 v 0)) := by kernel_rfl
theorem e38_0 (m : Nat) (t0 : List (List Cell)) (t3 : Int) : goF E (callOf L32) F38 0 (m + 1) P38_0 (M38_0 t0 t3) =
  (cond (decide (t3 < (t0.length : Int)))
   (cond (inB t3 t0.length)
    (cond (decide ((nr (Abs.rowAt t0 (Int.toNat t3)) 0) < 1))
     (some ([.one (.int .i64 9)], []))
     (cond (inB t3 t0.length)
      (cond (decide ((nr (Abs.rowAt t0 (Int.toNat t3)) 1) < 1))
       (some ([.one (.int .i64 9)], []))
       (cond (inB t3 t0.length)
        (cond (decide ((nr (Abs.rowAt t0 (Int.toNat t3)) 1) > 1000000))
         (some ([.one (.int .i64 9)], []))
         (cond (decide (t3 > 0))
          (cond (inB (IntKind.wrap .i64 (t3 - 1)) t0.length)
           (cond (inB t3 t0.length)
            (cond (decide ((nr (Abs.rowAt t0 (Int.toNat (IntKind.wrap .i64 (t3 - 1)))) 0) ≥ (nr (Abs.rowAt t0 (Int.toNat t3)) 0)))
             (some ([.one (.int .i64 7)], []))
             (goF E (callOf L32) F38 0 m P38_0 (M38_0 t0 (IntKind.wrap .i64 (t3 + 1)))))
            none)
           none)
          (goF E (callOf L32) F38 0 m P38_0 (M38_0 t0 (IntKind.wrap .i64 (t3 + 1))))))
        none))
      none))
    none)
   (some ([.one (.int .i64 0)], []))) := by kernel_rfl

/- elasticstore/elasticstoreref06.Restrict -/
noncomputable def P39_0 : List AItem := F39.at [.snd, .snd, .fst, .snd, .sub, .head]
def M39_0 (t0 : List (List Cell)) (t1 : List (List Cell)) (t5 : List (List Cell)) (t6 : Int) : St := ⟨[(0, .one (.sl false 45 t0)), (1, .one (.sl false 67 t1)), (5, .one (.sl true 45 t5)), (6, .one (.int .i64 t6))], []⟩
theorem e39 (m : Nat) (c : List (List Cell)) (v : List (List Cell)) : runF E (callOf L38) (m + 1) 39 [.one (.sl false 45 c), .one (.sl false 67 v)] [] =
  (goF E (callOf L38) F39 0 m P39_0 (M39_0 c v ([] : List (List Cell)) 0)) := by kernel_rfl
theorem e39_0 (m : Nat) (t0 : List (List Cell)) (t1 : List (List Cell)) (t5 : List (List Cell)) (t6 : Int) : goF E (callOf L38) F39 0 (m + 1) P39_0 (M39_0 t0 t1 t5 t6) =
  (cond (decide (t6 < (t0.length : Int)))
   (cond (inB t6 t0.length)
    (cond (inB t6 t0.length)
     (cond (okLn t1)
      (cond (decide ((nr (Abs.rowAt t0 (Int.toNat t6)) 1) ≤ (cntV t1 (nr (Abs.rowAt t0 (Int.toNat t6)) 0))))
       (cond (inB t6 t0.length)
        (cond (fits (t5.length + [[Cell.int .i64 (nr (Abs.rowAt t0 (Int.toNat t6)) 0), Cell.int .i64 (nr (Abs.rowAt t0 (Int.toNat t6)) 1), Cell.slice 63 (nl (Abs.rowAt t0 (Int.toNat t6)) 2)]].length))
         (goF E (callOf L38) F39 0 m P39_0 (M39_0 t0 t1 (t5 ++ [[Cell.int .i64 (nr (Abs.rowAt t0 (Int.toNat t6)) 0), Cell.int .i64 (nr (Abs.rowAt t0 (Int.toNat t6)) 1), Cell.slice 63 (nl (Abs.rowAt t0 (Int.toNat t6)) 2)]]) (IntKind.wrap .i64 (t6 + 1))))
         none)
        none)
       (goF E (callOf L38) F39 0 m P39_0 (M39_0 t0 t1 t5 (IntKind.wrap .i64 (t6 + 1)))))
      none)
     none)
    none)
   (some ([.one (.sl false 45 t5)], []))) := by kernel_rfl

/- elasticstore/elasticstoreref06.AddProposal -/
theorem e35 (m : Nat) (c : List (List Cell)) (ap : Int) (np : Int) (cp : List (List Cell)) : runF E (callOf L39) (m + 1) 35 [.one (.sl false 45 c), .agg [.int .i64 ap, .int .i64 np, .sl false 63 cp]] [] =
  (cond (decide (cp.length < 9223372036854775808))
   (cond ((vProp ap np cp) != 0)
    (cond (decide (cp.length < 9223372036854775808))
     (some ([.one (.sl false 45 ([] : List (List Cell))), .one (.int .i64 (vProp ap np cp))], []))
     none)
    (cond (okLn c)
     (cond (hasK c (prow ap np cp))
      (some ([.one (.sl false 45 ([] : List (List Cell))), .one (.int .i64 5)], []))
      (cond (okLn c)
       (cond (okLn (vecR c))
        (cond (np != (IntKind.wrap .i64 ((cntV (vecR c) ap) + 1)))
         (some ([.one (.sl false 45 ([] : List (List Cell))), .one (.int .i64 8)], []))
         (cond (okCf c && okCf [[Cell.int .i64 ap, Cell.int .i64 np, Cell.slice 63 cp]])
          (some ([.one (.sl false 45 (mrgK c [[Cell.int .i64 ap, Cell.int .i64 np, Cell.slice 63 cp]])), .one (.int .i64 0)], []))
          none))
        none)
       none))
     none))
   none) := by kernel_rfl

/- elasticstore/elasticstorelaw00.Part -/
noncomputable def P29_0 : List AItem := F29.at [.snd, .snd, .fst, .snd, .sub, .head]
def M29_0 (t0 : List (List Cell)) (t1 : Int) (t5 : List (List Cell)) (t6 : Int) : St := ⟨[(0, .one (.sl false 45 t0)), (1, .one (.int .i64 t1)), (5, .one (.sl true 67 t5)), (6, .one (.int .i64 t6))], []⟩
theorem e29 (m : Nat) (c : List (List Cell)) (n : Int) : runF E (callOf L35) (m + 1) 29 [.one (.sl false 45 c), .one (.int .i64 n)] [] =
  (goF E (callOf L35) F29 0 m P29_0 (M29_0 c n ([] : List (List Cell)) 0)) := by kernel_rfl
theorem e29_0 (m : Nat) (t0 : List (List Cell)) (t1 : Int) (t5 : List (List Cell)) (t6 : Int) : goF E (callOf L35) F29 0 (m + 1) P29_0 (M29_0 t0 t1 t5 t6) =
  (cond (decide (t6 < 3))
   (cond (decide (2 ≤ 4) && decide (t6 ≤ 9223372036854775807))
    (cond (decide ((gDigit t1 4 t6) > 0))
     (cond (decide (2 ≤ 4) && decide (t6 ≤ 9223372036854775807))
      (cond (fits (t5.length + [[Cell.int .i64 (IntKind.wrap .i64 (201 + t6)), Cell.int .i64 (gDigit t1 4 t6)]].length))
       (goF E (callOf L35) F29 0 m P29_0 (M29_0 t0 t1 (t5 ++ [[Cell.int .i64 (IntKind.wrap .i64 (201 + t6)), Cell.int .i64 (gDigit t1 4 t6)]]) (IntKind.wrap .i64 (t6 + 1))))
       none)
      none)
     (goF E (callOf L35) F29 0 m P29_0 (M29_0 t0 t1 t5 (IntKind.wrap .i64 (t6 + 1)))))
    none)
   (cond (okCf t0 && okLn t5)
    (some ([.one (.sl false 45 (restr t0 t5))], []))
    none)) := by kernel_rfl

/- elasticstore/elasticstorelaw06.ConfigPair -/
theorem e4 (m : Nat) (c : List (List Cell)) (d : List (List Cell)) : runF E (callOf L29) (m + 1) 4 [.one (.sl false 45 c), .one (.sl false 45 d)] [] =
  (cond (decide ((c.length : Int) > 30))
   (some ([.one (.bool true)], []))
   (cond (decide ((d.length : Int) > 30))
    (some ([.one (.bool true)], []))
    (cond (okCs [[Cell.slice 45 c], [Cell.slice 45 d]])
     (cond (!(validCs [[Cell.slice 45 c], [Cell.slice 45 d]]))
      (some ([.one (.bool true)], []))
      (cond (okLn c)
       (cond (okLn c)
        (cond (okLn (vecK c))
         (cond (eqVec (vecK c) (vecR c))
          (cond (okSrt c && okLn d)
           (cond (okLn c && okLn d)
            (cond ((contK c d) == (contK c d))
             (cond (okSrt c && okSrt d)
              (cond (okLn c && okLn d)
               (cond ((contK c d && contK d c) == (contK c d && contK d c))
                (cond (okCl c && okCl d)
                 (cond (okCf c && okCf d)
                  (cond (okRows (uniK c d))
                   (cond (eqCfg (uniK c d) (mrgK c d))
                    (cond (okCl c && okSrt d)
                     (cond (okCf c && okLn d)
                      (cond (okRows (meetK c d))
                       (cond (eqCfg (meetK c d) (meetK c d))
                        (some ([.one (.bool true)], []))
                        (some ([.one (.bool false)], [])))
                       none)
                      none)
                     none)
                    (some ([.one (.bool false)], [])))
                   none)
                  none)
                 none)
                (some ([.one (.bool false)], [])))
               none)
              none)
             (some ([.one (.bool false)], [])))
            none)
           none)
          (some ([.one (.bool false)], [])))
         none)
        none)
       none))
     none))) := by kernel_rfl

/- elasticstore/elasticstorelaw06.ConfigLattice -/
theorem e5 (m : Nat) (l : List (List Cell)) (x : Int) (y : Int) (z : Int) : runF E (callOf L4) (m + 1) 5 [.one (.sl false 3 l), .one (.int .i64 x), .one (.int .i64 y), .one (.int .i64 z)] [] =
  (cond (decide (l.length < 4611686018427387904))
   (cond (okCf (gPool l))
    (cond (okCf (gPool l))
     (cond (okCf (gPool l))
      (cond (okCl (gPart (gPool l) x) && okCl (gPart (gPool l) y))
       (cond (okRows (uniK (gPart (gPool l) x) (gPart (gPool l) y)))
        (cond ((vCfg (uniK (gPart (gPool l) x) (gPart (gPool l) y))) != 0)
         (some ([.one (.bool false)], []))
         (cond (okCl (gPart (gPool l) y) && okCl (gPart (gPool l) x))
          (cond (okRows (uniK (gPart (gPool l) x) (gPart (gPool l) y)))
           (cond (!(eqCfg (uniK (gPart (gPool l) x) (gPart (gPool l) y)) (uniK (gPart (gPool l) y) (gPart (gPool l) x))))
            (some ([.one (.bool false)], []))
            (cond (okCl (uniK (gPart (gPool l) x) (gPart (gPool l) y)) && okCl (gPart (gPool l) z))
             (cond (okCl (gPart (gPool l) y) && okCl (gPart (gPool l) z))
              (cond (okCl (gPart (gPool l) x) && okCl (uniK (gPart (gPool l) y) (gPart (gPool l) z)))
               (cond (okRows (uniK (uniK (gPart (gPool l) x) (gPart (gPool l) y)) (gPart (gPool l) z)))
                (cond (!(eqCfg (uniK (uniK (gPart (gPool l) x) (gPart (gPool l) y)) (gPart (gPool l) z)) (uniK (gPart (gPool l) x) (uniK (gPart (gPool l) y) (gPart (gPool l) z)))))
                 (some ([.one (.bool false)], []))
                 (cond (okCl (gPart (gPool l) x) && okCl (gPart (gPool l) x))
                  (cond (okRows (uniK (gPart (gPool l) x) (gPart (gPool l) x)))
                   (cond (!(eqCfg (uniK (gPart (gPool l) x) (gPart (gPool l) x)) (gPart (gPool l) x)))
                    (some ([.one (.bool false)], []))
                    (cond (okSrt (uniK (gPart (gPool l) x) (gPart (gPool l) y)) && okLn (gPart (gPool l) x))
                     (cond (!(contK (uniK (gPart (gPool l) x) (gPart (gPool l) y)) (gPart (gPool l) x)))
                      (some ([.one (.bool false)], []))
                      (cond (okSrt (uniK (gPart (gPool l) x) (gPart (gPool l) y)) && okLn (gPart (gPool l) y))
                       (cond (!(contK (uniK (gPart (gPool l) x) (gPart (gPool l) y)) (gPart (gPool l) y)))
                        (some ([.one (.bool false)], []))
                        (cond (okSrt (gPart (gPool l) z) && okLn (gPart (gPool l) x))
                         (cond (contK (gPart (gPool l) z) (gPart (gPool l) x))
                          (cond (okSrt (gPart (gPool l) z) && okLn (gPart (gPool l) y))
                           (cond (contK (gPart (gPool l) z) (gPart (gPool l) y))
                            (cond (okSrt (gPart (gPool l) z) && okLn (uniK (gPart (gPool l) x) (gPart (gPool l) y)))
                             (cond (!(contK (gPart (gPool l) z) (uniK (gPart (gPool l) x) (gPart (gPool l) y))))
                              (some ([.one (.bool false)], []))
                              (cond (okSrt (gPart (gPool l) x) && okLn (gPart (gPool l) y))
                               (cond (okRows (uniK (gPart (gPool l) x) (gPart (gPool l) y)))
                                (cond (!((contK (gPart (gPool l) x) (gPart (gPool l) y)) == (eqCfg (uniK (gPart (gPool l) x) (gPart (gPool l) y)) (gPart (gPool l) x))))
                                 (some ([.one (.bool false)], []))
                                 (cond (okCl (gPart (gPool l) x) && okSrt (uniK (gPart (gPool l) x) (gPart (gPool l) y)))
                                  (cond (okRows (meetK (gPart (gPool l) x) (uniK (gPart (gPool l) x) (gPart (gPool l) y))))
                                   (cond (eqCfg (meetK (gPart (gPool l) x) (uniK (gPart (gPool l) x) (gPart (gPool l) y))) (gPart (gPool l) x))
                                    (cond (okCl (gPart (gPool l) z) && okSrt (uniK (gPart (gPool l) x) (gPart (gPool l) y)))
                                     (cond (okCl (gPart (gPool l) z) && okSrt (gPart (gPool l) x))
                                      (cond (okCl (gPart (gPool l) z) && okSrt (gPart (gPool l) y))
                                       (cond (okCl (meetK (gPart (gPool l) z) (gPart (gPool l) x)) && okCl (meetK (gPart (gPool l) z) (gPart (gPool l) y)))
                                        (cond (okRows (meetK (gPart (gPool l) z) (uniK (gPart (gPool l) x) (gPart (gPool l) y))))
                                         (cond (eqCfg (meetK (gPart (gPool l) z) (uniK (gPart (gPool l) x) (gPart (gPool l) y))) (uniK (meetK (gPart (gPool l) z) (gPart (gPool l) x)) (meetK (gPart (gPool l) z) (gPart (gPool l) y))))
                                          (some ([.one (.bool true)], []))
                                          (some ([.one (.bool false)], [])))
                                         none)
                                        none)
                                       none)
                                      none)
                                     none)
                                    (some ([.one (.bool false)], [])))
                                   none)
                                  none))
                                none)
                               none))
                             none)
                            (cond (okSrt (gPart (gPool l) x) && okLn (gPart (gPool l) y))
                             (cond (okRows (uniK (gPart (gPool l) x) (gPart (gPool l) y)))
                              (cond (!((contK (gPart (gPool l) x) (gPart (gPool l) y)) == (eqCfg (uniK (gPart (gPool l) x) (gPart (gPool l) y)) (gPart (gPool l) x))))
                               (some ([.one (.bool false)], []))
                               (cond (okCl (gPart (gPool l) x) && okSrt (uniK (gPart (gPool l) x) (gPart (gPool l) y)))
                                (cond (okRows (meetK (gPart (gPool l) x) (uniK (gPart (gPool l) x) (gPart (gPool l) y))))
                                 (cond (eqCfg (meetK (gPart (gPool l) x) (uniK (gPart (gPool l) x) (gPart (gPool l) y))) (gPart (gPool l) x))
                                  (cond (okCl (gPart (gPool l) z) && okSrt (uniK (gPart (gPool l) x) (gPart (gPool l) y)))
                                   (cond (okCl (gPart (gPool l) z) && okSrt (gPart (gPool l) x))
                                    (cond (okCl (gPart (gPool l) z) && okSrt (gPart (gPool l) y))
                                     (cond (okCl (meetK (gPart (gPool l) z) (gPart (gPool l) x)) && okCl (meetK (gPart (gPool l) z) (gPart (gPool l) y)))
                                      (cond (okRows (meetK (gPart (gPool l) z) (uniK (gPart (gPool l) x) (gPart (gPool l) y))))
                                       (cond (eqCfg (meetK (gPart (gPool l) z) (uniK (gPart (gPool l) x) (gPart (gPool l) y))) (uniK (meetK (gPart (gPool l) z) (gPart (gPool l) x)) (meetK (gPart (gPool l) z) (gPart (gPool l) y))))
                                        (some ([.one (.bool true)], []))
                                        (some ([.one (.bool false)], [])))
                                       none)
                                      none)
                                     none)
                                    none)
                                   none)
                                  (some ([.one (.bool false)], [])))
                                 none)
                                none))
                              none)
                             none))
                           none)
                          (cond (okSrt (gPart (gPool l) x) && okLn (gPart (gPool l) y))
                           (cond (okRows (uniK (gPart (gPool l) x) (gPart (gPool l) y)))
                            (cond (!((contK (gPart (gPool l) x) (gPart (gPool l) y)) == (eqCfg (uniK (gPart (gPool l) x) (gPart (gPool l) y)) (gPart (gPool l) x))))
                             (some ([.one (.bool false)], []))
                             (cond (okCl (gPart (gPool l) x) && okSrt (uniK (gPart (gPool l) x) (gPart (gPool l) y)))
                              (cond (okRows (meetK (gPart (gPool l) x) (uniK (gPart (gPool l) x) (gPart (gPool l) y))))
                               (cond (eqCfg (meetK (gPart (gPool l) x) (uniK (gPart (gPool l) x) (gPart (gPool l) y))) (gPart (gPool l) x))
                                (cond (okCl (gPart (gPool l) z) && okSrt (uniK (gPart (gPool l) x) (gPart (gPool l) y)))
                                 (cond (okCl (gPart (gPool l) z) && okSrt (gPart (gPool l) x))
                                  (cond (okCl (gPart (gPool l) z) && okSrt (gPart (gPool l) y))
                                   (cond (okCl (meetK (gPart (gPool l) z) (gPart (gPool l) x)) && okCl (meetK (gPart (gPool l) z) (gPart (gPool l) y)))
                                    (cond (okRows (meetK (gPart (gPool l) z) (uniK (gPart (gPool l) x) (gPart (gPool l) y))))
                                     (cond (eqCfg (meetK (gPart (gPool l) z) (uniK (gPart (gPool l) x) (gPart (gPool l) y))) (uniK (meetK (gPart (gPool l) z) (gPart (gPool l) x)) (meetK (gPart (gPool l) z) (gPart (gPool l) y))))
                                      (some ([.one (.bool true)], []))
                                      (some ([.one (.bool false)], [])))
                                     none)
                                    none)
                                   none)
                                  none)
                                 none)
                                (some ([.one (.bool false)], [])))
                               none)
                              none))
                            none)
                           none))
                         none))
                       none))
                     none))
                   none)
                  none))
                none)
               none)
              none)
             none))
           none)
          none))
        none)
       none)
      none)
     none)
    none)
   none) := by kernel_rfl

/- elasticstore/elasticstorelaw06.ConfigVectors -/
theorem e6 (m : Nat) (l : List (List Cell)) (x : Int) (y : Int) : runF E (callOf L5) (m + 1) 6 [.one (.sl false 3 l), .one (.int .i64 x), .one (.int .i64 y)] [] =
  (cond (decide (l.length < 4611686018427387904))
   (cond (okCf (gPool l))
    (cond (okCf (gPool l))
     (cond (okLn (gPart (gPool l) x))
      (cond (okLn (gPart (gPool l) y))
       (cond (okCl (gPart (gPool l) x) && okCl (gPart (gPool l) y))
        (cond (okLn (uniK (gPart (gPool l) x) (gPart (gPool l) y)))
         (cond (okJn (vecK (gPart (gPool l) x)) (vecK (gPart (gPool l) y)))
          (cond (okLn (vecK (uniK (gPart (gPool l) x) (gPart (gPool l) y))))
           (cond (eqVec (vecK (uniK (gPart (gPool l) x) (gPart (gPool l) y))) (joinV (vecK (gPart (gPool l) x)) (vecK (gPart (gPool l) y))))
            (cond (okCl (gPart (gPool l) x) && okSrt (gPart (gPool l) y))
             (cond (okLn (meetK (gPart (gPool l) x) (gPart (gPool l) y)))
              (cond (okLn (vecK (gPart (gPool l) x)) && okLn (vecK (gPart (gPool l) y)))
               (cond (okLn (vecK (meetK (gPart (gPool l) x) (gPart (gPool l) y))))
                (cond (eqVec (vecK (meetK (gPart (gPool l) x) (gPart (gPool l) y))) (meetV (vecK (gPart (gPool l) x)) (vecK (gPart (gPool l) y))))
                 (cond (okSrt (gPart (gPool l) x) && okLn (gPart (gPool l) y))
                  (cond (okLn (vecK (gPart (gPool l) y)) && okLn (vecK (gPart (gPool l) x)))
                   (cond ((contK (gPart (gPool l) x) (gPart (gPool l) y)) == (leV (vecK (gPart (gPool l) y)) (vecK (gPart (gPool l) x))))
                    (cond (okCl (gPool l) && okVec (vecK (gPart (gPool l) x)))
                     (cond (okRows (restr (gPool l) (vecK (gPart (gPool l) x))))
                      (cond (eqCfg (restr (gPool l) (vecK (gPart (gPool l) x))) (gPart (gPool l) x))
                       (some ([.one (.bool true)], []))
                       (some ([.one (.bool false)], [])))
                      none)
                     none)
                    (some ([.one (.bool false)], [])))
                   none)
                  none)
                 (some ([.one (.bool false)], [])))
                none)
               none)
              none)
             none)
            (some ([.one (.bool false)], [])))
           none)
          none)
         none)
        none)
       none)
      none)
     none)
    none)
   none) := by kernel_rfl

/- elasticstore/elasticstorelaw06.ConfigAdd -/
theorem e7 (m : Nat) (c : List (List Cell)) (ap : Int) (np : Int) (cp : List (List Cell)) : runF E (callOf L6) (m + 1) 7 [.one (.sl false 45 c), .agg [.int .i64 ap, .int .i64 np, .sl false 63 cp]] [] =
  (cond (decide ((c.length : Int) > 30))
   (some ([.one (.bool true)], []))
   (cond (decide ((cp.length : Int) > 60))
    (some ([.one (.bool true)], []))
    (cond (okRows c)
     (cond ((vCfg c) != 0)
      (some ([.one (.bool true)], []))
      (cond (fits (([] : List (List Cell)).length + c.length))
       (cond (okAdd c cp)
        (cond (okAdd c cp)
         (cond ((addC c ap np cp).2 == (addR c ap np cp).2)
          (cond (okRows (addC c ap np cp).1)
           (cond (eqCfg (addC c ap np cp).1 (addR c ap np cp).1)
            (cond (okRows c)
             (cond (eqCfg c (([] : List (List Cell)) ++ c))
              (some ([.one (.bool true)], []))
              (some ([.one (.bool false)], [])))
             none)
            (some ([.one (.bool false)], [])))
           none)
          (some ([.one (.bool false)], [])))
         none)
        none)
       none))
     none))) := by kernel_rfl

/- elasticstore/elasticstorelaw06.ConfigGrows -/
noncomputable def P8_0 : List AItem := F8.at [.snd, .snd, .snd, .fst, .snd, .sub, .head]
def M8_0 (t1 : List (List Cell)) (t5 : List (List Cell)) (t6 : List (List Cell)) (t7 : Int) : St := ⟨[(1, .one (.sl false 3 t1)), (5, .one (.sl false 45 t5)), (6, .one (.sl false 45 t6)), (7, .one (.int .i64 t7))], []⟩
noncomputable def P8_1 : List AItem := F8.at [.snd, .snd, .snd, .fst, .snd, .sub, .body, .snd, .fst, .sub, .snd, .snd, .snd, .snd, .sub, .head]
def M8_1 (t1 : List (List Cell)) (t5 : List (List Cell)) (t6 : List (List Cell)) (t7 : Int) (t8 : Int) (t9 : Bool) (t10 : Int) : St := ⟨[(1, .one (.sl false 3 t1)), (5, .one (.sl false 45 t5)), (6, .one (.sl false 45 t6)), (7, .one (.int .i64 t7)), (8, .one (.int .i64 t8)), (9, .one (.bool t9)), (10, .one (.int .i64 t10))], []⟩
theorem e8 (m : Nat) (l : List (List Cell)) (o : List (List Cell)) : runF E (callOf L7) (m + 1) 8 [.one (.sl false 3 l), .one (.sl false 3 o)] [] =
  (cond (decide (l.length < 4611686018427387904))
   (goF E (callOf L7) F8 0 m P8_0 (M8_0 o (gPool l) ([] : List (List Cell)) 0))
   none) := by kernel_rfl
theorem e8_0 (m : Nat) (t1 : List (List Cell)) (t5 : List (List Cell)) (t6 : List (List Cell)) (t7 : Int) : goF E (callOf L7) F8 0 (m + 1) P8_0 (M8_0 t1 t5 t6 t7) =
  (cond (decide ((t6.length : Int) < (t5.length : Int)))
   (cond (decide (t7 > 200))
    (some ([.one (.bool false)], []))
    (cond (decide (t1.length < 4611686018427387904))
     (cond (decide ((t5.length : Int) ≤ 4611686018427387904))
      (goF E (callOf L7) F8 0 m P8_1 (M8_1 t1 t5 t6 t7 (gIndex (gAt t1 t7) (t5.length : Int)) false 0))
      none)
     none))
   (cond (okRows t6)
    (cond (eqCfg t6 t5)
     (some ([.one (.bool true)], []))
     (some ([.one (.bool false)], [])))
    none)) := by kernel_rfl
theorem e8_1 (m : Nat) (t1 : List (List Cell)) (t5 : List (List Cell)) (t6 : List (List Cell)) (t7 : Int) (t8 : Int) (t9 : Bool) (t10 : Int) : goF E (callOf L7) F8 0 (m + 1) P8_1 (M8_1 t1 t5 t6 t7 t8 t9 t10) =
  (cond (decide (t10 < (t5.length : Int)))
   (cond (!t9)
    (cond (decide ((t5.length : Int) ≤ 4611686018427387904))
     (cond (inB (gIndex (IntKind.wrap .i64 (t8 + t10)) (t5.length : Int)) t5.length)
      (cond (okAdd t6 (nl (Abs.rowAt t5 (Int.toNat (gIndex (IntKind.wrap .i64 (t8 + t10)) (t5.length : Int)))) 2))
       (cond ((addC t6 (nr (Abs.rowAt t5 (Int.toNat (gIndex (IntKind.wrap .i64 (t8 + t10)) (t5.length : Int)))) 0) (nr (Abs.rowAt t5 (Int.toNat (gIndex (IntKind.wrap .i64 (t8 + t10)) (t5.length : Int)))) 1) (nl (Abs.rowAt t5 (Int.toNat (gIndex (IntKind.wrap .i64 (t8 + t10)) (t5.length : Int)))) 2)).2 == 0)
        (cond (((addC t6 (nr (Abs.rowAt t5 (Int.toNat (gIndex (IntKind.wrap .i64 (t8 + t10)) (t5.length : Int)))) 0) (nr (Abs.rowAt t5 (Int.toNat (gIndex (IntKind.wrap .i64 (t8 + t10)) (t5.length : Int)))) 1) (nl (Abs.rowAt t5 (Int.toNat (gIndex (IntKind.wrap .i64 (t8 + t10)) (t5.length : Int)))) 2)).1.length : Int) != (IntKind.wrap .i64 ((t6.length : Int) + 1)))
         (some ([.one (.bool false)], []))
         (cond (okRows (addC t6 (nr (Abs.rowAt t5 (Int.toNat (gIndex (IntKind.wrap .i64 (t8 + t10)) (t5.length : Int)))) 0) (nr (Abs.rowAt t5 (Int.toNat (gIndex (IntKind.wrap .i64 (t8 + t10)) (t5.length : Int)))) 1) (nl (Abs.rowAt t5 (Int.toNat (gIndex (IntKind.wrap .i64 (t8 + t10)) (t5.length : Int)))) 2)).1)
          (cond ((vCfg (addC t6 (nr (Abs.rowAt t5 (Int.toNat (gIndex (IntKind.wrap .i64 (t8 + t10)) (t5.length : Int)))) 0) (nr (Abs.rowAt t5 (Int.toNat (gIndex (IntKind.wrap .i64 (t8 + t10)) (t5.length : Int)))) 1) (nl (Abs.rowAt t5 (Int.toNat (gIndex (IntKind.wrap .i64 (t8 + t10)) (t5.length : Int)))) 2)).1) != 0)
           (some ([.one (.bool false)], []))
           (goF E (callOf L7) F8 0 m P8_1 (M8_1 t1 t5 (addC t6 (nr (Abs.rowAt t5 (Int.toNat (gIndex (IntKind.wrap .i64 (t8 + t10)) (t5.length : Int)))) 0) (nr (Abs.rowAt t5 (Int.toNat (gIndex (IntKind.wrap .i64 (t8 + t10)) (t5.length : Int)))) 1) (nl (Abs.rowAt t5 (Int.toNat (gIndex (IntKind.wrap .i64 (t8 + t10)) (t5.length : Int)))) 2)).1 t7 t8 true (IntKind.wrap .i64 (t10 + 1)))))
          none))
        (cond ((addC t6 (nr (Abs.rowAt t5 (Int.toNat (gIndex (IntKind.wrap .i64 (t8 + t10)) (t5.length : Int)))) 0) (nr (Abs.rowAt t5 (Int.toNat (gIndex (IntKind.wrap .i64 (t8 + t10)) (t5.length : Int)))) 1) (nl (Abs.rowAt t5 (Int.toNat (gIndex (IntKind.wrap .i64 (t8 + t10)) (t5.length : Int)))) 2)).2 != 5)
         (cond ((addC t6 (nr (Abs.rowAt t5 (Int.toNat (gIndex (IntKind.wrap .i64 (t8 + t10)) (t5.length : Int)))) 0) (nr (Abs.rowAt t5 (Int.toNat (gIndex (IntKind.wrap .i64 (t8 + t10)) (t5.length : Int)))) 1) (nl (Abs.rowAt t5 (Int.toNat (gIndex (IntKind.wrap .i64 (t8 + t10)) (t5.length : Int)))) 2)).2 != 8)
          (some ([.one (.bool false)], []))
          (goF E (callOf L7) F8 0 m P8_1 (M8_1 t1 t5 t6 t7 t8 t9 (IntKind.wrap .i64 (t10 + 1)))))
         (goF E (callOf L7) F8 0 m P8_1 (M8_1 t1 t5 t6 t7 t8 t9 (IntKind.wrap .i64 (t10 + 1))))))
       none)
      none)
     none)
    (goF E (callOf L7) F8 0 m P8_0 (M8_0 t1 t5 t6 (IntKind.wrap .i64 (t7 + 1)))))
   (goF E (callOf L7) F8 0 m P8_0 (M8_0 t1 t5 t6 (IntKind.wrap .i64 (t7 + 1))))) := by kernel_rfl

/- elasticstore/elasticstorelaw06.ConfigRestrict -/
theorem e9 (m : Nat) (c : List (List Cell)) (v : List (List Cell)) : runF E (callOf L8) (m + 1) 9 [.one (.sl false 45 c), .one (.sl false 67 v)] [] =
  (cond (decide ((c.length : Int) > 30))
   (some ([.one (.bool true)], []))
   (cond (decide ((v.length : Int) > 30))
    (some ([.one (.bool true)], []))
    (cond (okRows c)
     (cond ((vCfg c) != 0)
      (some ([.one (.bool true)], []))
      (cond (okLn v)
       (cond ((vVec v) != 0)
        (some ([.one (.bool true)], []))
        (cond (okCl c && okVec v)
         (cond (okCf c && okLn v)
          (cond (okRows (restr c v))
           (cond (eqCfg (restr c v) (restr c v))
            (cond (okRows (restr c v))
             (cond ((vCfg (restr c v)) == 0)
              (cond (okSrt c && okLn (restr c v))
               (cond (contK c (restr c v))
                (some ([.one (.bool true)], []))
                (some ([.one (.bool false)], [])))
               none)
              (some ([.one (.bool false)], [])))
             none)
            (some ([.one (.bool false)], [])))
           none)
          none)
         none))
       none))
     none))) := by kernel_rfl

end Go.Proofs.Ytohikghidhdhjaa
