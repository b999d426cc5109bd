/-
  What each function does at each place where a run of it may be cut: printed by a program of our own.
-/
import Derived.Test.YtdgijohgncchiaaTab
namespace Go.Proofs.Ytdgijohgncchiaa
open Go.Abs
set_option maxRecDepth 20000

/- elasticstore/config.Contains -/
noncomputable def P38_0 : List AItem := F38.at [.snd, .fst, .snd, .sub, .head]
def M38_0 (t0 : List (List Cell)) (t7 : List (List Cell)) (t8 : Int) (t9 : Int) : St := ⟨[(0, .one (.sl false 53 t0)), (7, .one (.sl false 53 t7)), (8, .one (.int .i64 t8)), (9, .one (.int .i64 t9))], []⟩
theorem e38 (m : Nat) (c : List (List Cell)) (d : List (List Cell)) : runF E (callOf L61) (m + 1) 38 [.one (.sl false 53 c), .one (.sl false 53 d)] [] =
  (goF E (callOf L61) F38 0 m P38_0 (M38_0 c d (d.length : Int) 0)) := by kernel_rfl
theorem e38_0 (m : Nat) (t0 : List (List Cell)) (t7 : List (List Cell)) (t8 : Int) (t9 : Int) : goF E (callOf L61) F38 0 (m + 1) P38_0 (M38_0 t0 t7 t8 t9) =
  (cond (decide (t9 < t8))
   (cond (inB t9 t7.length)
    (cond (okSrt t0)
     (cond (!(hasK t0 (prow (nr (Abs.rowAt t7 (Int.toNat t9)) 0) (nr (Abs.rowAt t7 (Int.toNat t9)) 1) (nl (Abs.rowAt t7 (Int.toNat t9)) 2))))
      (some ([.one (.bool false)], []))
      (goF E (callOf L61) F38 0 m P38_0 (M38_0 t0 t7 t8 (IntKind.wrap .i64 (t9 + 1)))))
     none)
    none)
   (some ([.one (.bool true)], []))) := by kernel_rfl

/- elasticstore/config.Equal -/
theorem e35 (m : Nat) (c : List (List Cell)) (d : List (List Cell)) : runF E (callOf L38) (m + 1) 35 [.one (.sl false 53 c), .one (.sl false 53 d)] [] =
  (cond (okSrt c && okLn d)
   (cond (contK c d)
    (cond (okSrt d && okLn c)
     (some ([.one (.bool (contK d c))], []))
     none)
    (some ([.one (.bool false)], [])))
   none) := by kernel_rfl

/- elasticstore/config.filter -/
noncomputable def P62_0 : List AItem := F62.at [.snd, .snd, .fst, .snd, .sub, .head]
def M62_0 (t5 : Nat) (t8 : List (List Cell)) (t9 : Int) (t10 : Int) (b0 : List (List Cell)) : St := ⟨[(1, .one (.fn 63 [])), (5, .one (.msl 53 0 t5)), (8, .one (.sl false 53 t8)), (9, .one (.int .i64 t9)), (10, .one (.int .i64 t10))], [.arr 53 b0]⟩
theorem e62 (m : Nat) (c : List (List Cell)) : runF E (callOf L35) (m + 1) 62 [.one (.sl false 53 c), .one (.fn 63 [])] [] =
  (goF E (callOf L35) F62 0 m P62_0 (M62_0 0 c (c.length : Int) 0 ([] : List (List Cell)))) := by kernel_rfl
theorem e62_0 (m : Nat) (t5 : Nat) (t8 : List (List Cell)) (t9 : Int) (t10 : Int) (b0 : List (List Cell)) : goF E (callOf L35) F62 0 (m + 1) P62_0 (M62_0 t5 t8 t9 t10 b0) =
  (cond (decide (t10 < t9))
   (cond (inB t10 t8.length)
    (cond true
     (cond (okCh (nl (Abs.rowAt t8 (Int.toNat t10)) 2))
      (cond (Nat.beq t5 b0.length)
       (cond (fits (b0.length + [[Cell.int .i64 (nr (Abs.rowAt t8 (Int.toNat t10)) 0), Cell.int .i64 (nr (Abs.rowAt t8 (Int.toNat t10)) 1), Cell.slice 50 (nl (Abs.rowAt t8 (Int.toNat t10)) 2)]].length))
        (goF E (callOf L35) F62 0 m P62_0 (M62_0 (b0.length + [[Cell.int .i64 (nr (Abs.rowAt t8 (Int.toNat t10)) 0), Cell.int .i64 (nr (Abs.rowAt t8 (Int.toNat t10)) 1), Cell.slice 50 (nl (Abs.rowAt t8 (Int.toNat t10)) 2)]].length) t8 t9 (IntKind.wrap .i64 (t10 + 1)) (b0 ++ [[Cell.int .i64 (nr (Abs.rowAt t8 (Int.toNat t10)) 0), Cell.int .i64 (nr (Abs.rowAt t8 (Int.toNat t10)) 1), Cell.slice 50 (nl (Abs.rowAt t8 (Int.toNat t10)) 2)]])))
        none)
       none)
      none)
     (goF E (callOf L35) F62 0 m P62_0 (M62_0 t5 t8 t9 (IntKind.wrap .i64 (t10 + 1)) b0)))
    none)
   (some ([.one (.msl 53 0 t5)], [.arr 53 b0]))) := by kernel_rfl

/- elasticstore/config.Union -/
noncomputable def P42_0 : List AItem := F42.at [.snd, .sub, .snd, .snd, .fst, .snd, .sub, .head]
def M42_0 (t5 : Nat) (t13 : List (List Cell)) (t14 : Int) (t15 : Int) (b0 : List (List Cell)) : St := ⟨[(5, .one (.msl 53 0 t5)), (13, .one (.sl false 53 t13)), (14, .one (.int .i64 t14)), (15, .one (.int .i64 t15))], [.arr 53 b0]⟩
noncomputable def P42_1 : List AItem := F42.at [.snd, .sub, .snd, .snd, .fst, .snd, .sub, .body, .snd, .snd, .fst, .sub, .snd, .fst, .snd, .sub, .head]
def M42_1 (t5 : Nat) (t13 : List (List Cell)) (t14 : Int) (t15 : Int) (t19 : Nat) (t20 : Int) (t21 : Int) (b0 : List (List Cell)) (b1 : Int) (b1_1 : Int) (b1_2 : List (List Cell)) : St := ⟨[(5, .one (.msl 53 0 t5)), (7, .one (.ptr 1 0)), (13, .one (.sl false 53 t13)), (14, .one (.int .i64 t14)), (15, .one (.int .i64 t15)), (19, .one (.msl 53 0 t19)), (20, .one (.int .i64 t20)), (21, .one (.int .i64 t21))], [.arr 53 b0, .var [.int .i64 b1, .int .i64 b1_1, .sl false 50 b1_2]]⟩
theorem e42 (m : Nat) (c : List (List Cell)) (d : List (List Cell)) : runF E (callOf L64) (m + 1) 42 [.one (.sl false 53 c), .one (.sl false 53 d)] [] =
  (cond (okCl c)
   (goF E (callOf L64) F42 0 m P42_0 (M42_0 (c.length) d (d.length : Int) 0 c))
   none) := by kernel_rfl
theorem e42_0 (m : Nat) (t5 : Nat) (t13 : List (List Cell)) (t14 : Int) (t15 : Int) (b0 : List (List Cell)) : goF E (callOf L64) F42 0 (m + 1) P42_0 (M42_0 t5 t13 t14 t15 b0) =
  (cond (decide (t15 < t14))
   (cond (inB t15 t13.length)
    (goF E (callOf L64) F42 0 m P42_1 (M42_1 t5 t13 t14 t15 t5 (t5 : Int) 0 b0 (nr (Abs.rowAt t13 (Int.toNat t15)) 0) (nr (Abs.rowAt t13 (Int.toNat t15)) 1) (nl (Abs.rowAt t13 (Int.toNat t15)) 2)))
    none)
   (cond (Nat.beq t5 b0.length)
    (some ([.one (.sl false 53 b0)], []))
    none)) := by kernel_rfl
theorem e42_1 (m : Nat) (t5 : Nat) (t13 : List (List Cell)) (t14 : Int) (t15 : Int) (t19 : Nat) (t20 : Int) (t21 : Int) (b0 : List (List Cell)) (b1 : Int) (b1_1 : Int) (b1_2 : List (List Cell)) : goF E (callOf L64) F42 0 (m + 1) P42_1 (M42_1 t5 t13 t14 t15 t19 t20 t21 b0 b1 b1_1 b1_2) =
  (cond (decide (t21 < t20))
   (cond (inB t21 t19)
    (cond (Nat.blt (Int.toNat t21) b0.length)
     (cond ((cmpP b1 b1_1 (nr (Abs.rowAt b0 (Int.toNat t21)) 0) (nr (Abs.rowAt b0 (Int.toNat t21)) 1)) == 0)
      (goF E (callOf L64) F42 0 m P42_0 (M42_0 t5 t13 t14 (IntKind.wrap .i64 (t15 + 1)) b0))
      (cond (decide ((cmpP b1 b1_1 (nr (Abs.rowAt b0 (Int.toNat t21)) 0) (nr (Abs.rowAt b0 (Int.toNat t21)) 1)) < 0))
       (cond (okCh b1_2)
        (cond (okIns t5 t21 b0 [[Cell.int .i64 b1, Cell.int .i64 b1_1, Cell.slice 50 b1_2]])
         (goF E (callOf L64) F42 0 m P42_0 (M42_0 (b0.length + [[Cell.int .i64 b1, Cell.int .i64 b1_1, Cell.slice 50 b1_2]].length) t13 t14 (IntKind.wrap .i64 (t15 + 1)) (insL b0 [[Cell.int .i64 b1, Cell.int .i64 b1_1, Cell.slice 50 b1_2]] (Int.toNat t21))))
         none)
        none)
       (goF E (callOf L64) F42 0 m P42_1 (M42_1 t5 t13 t14 t15 t19 t20 (IntKind.wrap .i64 (t21 + 1)) b0 b1 b1_1 b1_2))))
     none)
    none)
   (cond (okCh b1_2)
    (cond (Nat.beq t5 b0.length)
     (cond (fits (b0.length + [[Cell.int .i64 b1, Cell.int .i64 b1_1, Cell.slice 50 b1_2]].length))
      (goF E (callOf L64) F42 0 m P42_0 (M42_0 (b0.length + [[Cell.int .i64 b1, Cell.int .i64 b1_1, Cell.slice 50 b1_2]].length) t13 t14 (IntKind.wrap .i64 (t15 + 1)) (b0 ++ [[Cell.int .i64 b1, Cell.int .i64 b1_1, Cell.slice 50 b1_2]])))
      none)
     none)
    none)) := by kernel_rfl
noncomputable def P42_0_c1 : List AItem := F42.at [.snd, .sub, .snd, .snd, .fst, .snd, .sub, .head]
def M42_0_c1 (t5 : Nat) (t13 : List (List Cell)) (t14 : Int) (t15 : Int) (b0 : List (List Cell)) : St := ⟨[(5, .one (.msl 53 0 t5)), (13, .one (.sl false 53 t13)), (14, .one (.int .i64 t14)), (15, .one (.int .i64 t15))], [.arr 53 b0]⟩
noncomputable def P42_1_c1 : List AItem := F42.at [.snd, .sub, .snd, .snd, .fst, .snd, .sub, .body, .snd, .snd, .fst, .sub, .snd, .fst, .snd, .sub, .head]
def M42_1_c1 (t5 : Nat) (t13 : List (List Cell)) (t14 : Int) (t15 : Int) (t19 : Nat) (t20 : Int) (t21 : Int) (b0 : List (List Cell)) (b1 : Int) (b1_1 : Int) (b1_2 : List (List Cell)) : St := ⟨[(5, .one (.msl 53 0 t5)), (7, .one (.ptr 1 0)), (13, .one (.sl false 53 t13)), (14, .one (.int .i64 t14)), (15, .one (.int .i64 t15)), (19, .one (.msl 53 0 t19)), (20, .one (.int .i64 t20)), (21, .one (.int .i64 t21))], [.arr 53 b0, .var [.int .i64 b1, .int .i64 b1_1, .sl false 50 b1_2]]⟩
theorem e42_c1 (m : Nat) (c : List (List Cell)) : runF E (callOf L64) (m + 1) 42 [.one (.sl false 53 c), .one (.nils)] [] =
  (cond (okCl c)
   (goF E (callOf L64) F42 0 m P42_0_c1 (M42_0_c1 (c.length) ([] : List (List Cell)) 0 0 c))
   none) := by kernel_rfl
theorem e42_0_c1 (m : Nat) (t5 : Nat) (t13 : List (List Cell)) (t14 : Int) (t15 : Int) (b0 : List (List Cell)) : goF E (callOf L64) F42 0 (m + 1) P42_0_c1 (M42_0_c1 t5 t13 t14 t15 b0) =
  (cond (decide (t15 < t14))
   (cond (inB t15 t13.length)
    (goF E (callOf L64) F42 0 m P42_1_c1 (M42_1_c1 t5 t13 t14 t15 t5 (t5 : Int) 0 b0 (nr (Abs.rowAt t13 (Int.toNat t15)) 0) (nr (Abs.rowAt t13 (Int.toNat t15)) 1) (nl (Abs.rowAt t13 (Int.toNat t15)) 2)))
    none)
   (cond (Nat.beq t5 b0.length)
    (some ([.one (.sl false 53 b0)], []))
    none)) := by kernel_rfl
theorem e42_1_c1 (m : Nat) (t5 : Nat) (t13 : List (List Cell)) (t14 : Int) (t15 : Int) (t19 : Nat) (t20 : Int) (t21 : Int) (b0 : List (List Cell)) (b1 : Int) (b1_1 : Int) (b1_2 : List (List Cell)) : goF E (callOf L64) F42 0 (m + 1) P42_1_c1 (M42_1_c1 t5 t13 t14 t15 t19 t20 t21 b0 b1 b1_1 b1_2) =
  (cond (decide (t21 < t20))
   (cond (inB t21 t19)
    (cond (Nat.blt (Int.toNat t21) b0.length)
     (cond ((cmpP b1 b1_1 (nr (Abs.rowAt b0 (Int.toNat t21)) 0) (nr (Abs.rowAt b0 (Int.toNat t21)) 1)) == 0)
      (goF E (callOf L64) F42 0 m P42_0_c1 (M42_0_c1 t5 t13 t14 (IntKind.wrap .i64 (t15 + 1)) b0))
      (cond (decide ((cmpP b1 b1_1 (nr (Abs.rowAt b0 (Int.toNat t21)) 0) (nr (Abs.rowAt b0 (Int.toNat t21)) 1)) < 0))
       (cond (okCh b1_2)
        (cond (okIns t5 t21 b0 [[Cell.int .i64 b1, Cell.int .i64 b1_1, Cell.slice 50 b1_2]])
         (goF E (callOf L64) F42 0 m P42_0_c1 (M42_0_c1 (b0.length + [[Cell.int .i64 b1, Cell.int .i64 b1_1, Cell.slice 50 b1_2]].length) t13 t14 (IntKind.wrap .i64 (t15 + 1)) (insL b0 [[Cell.int .i64 b1, Cell.int .i64 b1_1, Cell.slice 50 b1_2]] (Int.toNat t21))))
         none)
        none)
       (goF E (callOf L64) F42 0 m P42_1_c1 (M42_1_c1 t5 t13 t14 t15 t19 t20 (IntKind.wrap .i64 (t21 + 1)) b0 b1 b1_1 b1_2))))
     none)
    none)
   (cond (okCh b1_2)
    (cond (Nat.beq t5 b0.length)
     (cond (fits (b0.length + [[Cell.int .i64 b1, Cell.int .i64 b1_1, Cell.slice 50 b1_2]].length))
      (goF E (callOf L64) F42 0 m P42_0_c1 (M42_0_c1 (b0.length + [[Cell.int .i64 b1, Cell.int .i64 b1_1, Cell.slice 50 b1_2]].length) t13 t14 (IntKind.wrap .i64 (t15 + 1)) (b0 ++ [[Cell.int .i64 b1, Cell.int .i64 b1_1, Cell.slice 50 b1_2]])))
      none)
     none)
    none)) := by kernel_rfl

/- elasticstore/elasticstoreref06.has -/
noncomputable def P48_0 : List AItem := F48.at [.snd, .fst, .snd, .sub, .head]
def M48_0 (t0 : List (List Cell)) (t5 : Int) (b0 : Int) (b0_1 : Int) (b0_2 : List (List Cell)) : St := ⟨[(0, .one (.sl false 53 t0)), (3, .one (.ptr 0 0)), (5, .one (.int .i64 t5))], [.var [.int .i64 b0, .int .i64 b0_1, .sl false 50 b0_2]]⟩
theorem e48 (m : Nat) (c : List (List Cell)) (ap : Int) (np : Int) (cp : List (List Cell)) : runF E (callOf L42) (m + 1) 48 [.one (.sl false 53 c), .agg [.int .i64 ap, .int .i64 np, .sl false 50 cp]] [] =
  (goF E (callOf L42) F48 0 m P48_0 (M48_0 c 0 ap np cp)) := by kernel_rfl
theorem e48_0 (m : Nat) (t0 : List (List Cell)) (t5 : Int) (b0 : Int) (b0_1 : Int) (b0_2 : List (List Cell)) : goF E (callOf L42) F48 0 (m + 1) P48_0 (M48_0 t0 t5 b0 b0_1 b0_2) =
  (cond (decide (t5 < (t0.length : Int)))
   (cond (inB t5 t0.length)
    (cond ((cmpP (nr (Abs.rowAt t0 (Int.toNat t5)) 0) (nr (Abs.rowAt t0 (Int.toNat t5)) 1) b0 b0_1) == 0)
     (some ([.one (.bool true)], []))
     (goF E (callOf L42) F48 0 m P48_0 (M48_0 t0 (IntKind.wrap .i64 (t5 + 1)) b0 b0_1 b0_2)))
    none)
   (some ([.one (.bool false)], []))) := by kernel_rfl

/- elasticstore/elasticstoreref06.Contains -/
noncomputable def P25_0 : List AItem := F25.at [.snd, .fst, .snd, .sub, .head]
def M25_0 (t0 : List (List Cell)) (t1 : List (List Cell)) (t5 : Int) : St := ⟨[(0, .one (.sl false 53 t0)), (1, .one (.sl false 53 t1)), (5, .one (.int .i64 t5))], []⟩
theorem e25 (m : Nat) (c : List (List Cell)) (d : List (List Cell)) : runF E (callOf L48) (m + 1) 25 [.one (.sl false 53 c), .one (.sl false 53 d)] [] =
  (goF E (callOf L48) F25 0 m P25_0 (M25_0 c d 0)) := by kernel_rfl
theorem e25_0 (m : Nat) (t0 : List (List Cell)) (t1 : List (List Cell)) (t5 : Int) : goF E (callOf L48) F25 0 (m + 1) P25_0 (M25_0 t0 t1 t5) =
  (cond (decide (t5 < (t1.length : Int)))
   (cond (inB t5 t1.length)
    (cond (okLn t0)
     (cond (!(hasK t0 (prow (nr (Abs.rowAt t1 (Int.toNat t5)) 0) (nr (Abs.rowAt t1 (Int.toNat t5)) 1) (nl (Abs.rowAt t1 (Int.toNat t5)) 2))))
      (some ([.one (.bool false)], []))
      (goF E (callOf L48) F25 0 m P25_0 (M25_0 t0 t1 (IntKind.wrap .i64 (t5 + 1)))))
     none)
    none)
   (some ([.one (.bool true)], []))) := by kernel_rfl

/- elasticstore/elasticstoreref06.Agree -/
noncomputable def P60_0 : List AItem := F60.at [.snd, .fst, .snd, .sub, .head]
def M60_0 (t0 : List (List Cell)) (t1 : List (List Cell)) (t5 : Int) : St := ⟨[(0, .one (.sl false 53 t0)), (1, .one (.sl false 53 t1)), (5, .one (.int .i64 t5))], []⟩
noncomputable def P60_1 : List AItem := F60.at [.snd, .fst, .snd, .sub, .body, .snd, .fst, .sub, .snd, .sub, .head]
def M60_1 (t0 : List (List Cell)) (t1 : List (List Cell)) (t5 : Int) (t6 : Int) : St := ⟨[(0, .one (.sl false 53 t0)), (1, .one (.sl false 53 t1)), (5, .one (.int .i64 t5)), (6, .one (.int .i64 t6))], []⟩
theorem e60 (m : Nat) (c : List (List Cell)) (d : List (List Cell)) : runF E (callOf L25) (m + 1) 60 [.one (.sl false 53 c), .one (.sl false 53 d)] [] =
  (goF E (callOf L25) F60 0 m P60_0 (M60_0 c d 0)) := by kernel_rfl
theorem e60_0 (m : Nat) (t0 : List (List Cell)) (t1 : List (List Cell)) (t5 : Int) : goF E (callOf L25) F60 0 (m + 1) P60_0 (M60_0 t0 t1 t5) =
  (cond (decide (t5 < (t0.length : Int)))
   (goF E (callOf L25) F60 0 m P60_1 (M60_1 t0 t1 t5 0))
   (some ([.one (.bool true)], []))) := by kernel_rfl
theorem e60_1 (m : Nat) (t0 : List (List Cell)) (t1 : List (List Cell)) (t5 : Int) (t6 : Int) : goF E (callOf L25) F60 0 (m + 1) P60_1 (M60_1 t0 t1 t5 t6) =
  (cond (decide (t6 < (t1.length : Int)))
   (cond (inB t5 t0.length)
    (cond (inB t6 t1.length)
     (cond ((cmpP (nr (Abs.rowAt t0 (Int.toNat t5)) 0) (nr (Abs.rowAt t0 (Int.toNat t5)) 1) (nr (Abs.rowAt t1 (Int.toNat t6)) 0) (nr (Abs.rowAt t1 (Int.toNat t6)) 1)) == 0)
      (cond (inB t5 t0.length)
       (cond (inB t6 t1.length)
        (cond (decide ((nl (Abs.rowAt t0 (Int.toNat t5)) 2).length < 9223372036854775808))
         (cond (!(eqP (nr (Abs.rowAt t0 (Int.toNat t5)) 0) (nr (Abs.rowAt t0 (Int.toNat t5)) 1) (nl (Abs.rowAt t0 (Int.toNat t5)) 2) (nr (Abs.rowAt t1 (Int.toNat t6)) 0) (nr (Abs.rowAt t1 (Int.toNat t6)) 1) (nl (Abs.rowAt t1 (Int.toNat t6)) 2)))
          (some ([.one (.bool false)], []))
          (goF E (callOf L25) F60 0 m P60_1 (M60_1 t0 t1 t5 (IntKind.wrap .i64 (t6 + 1)))))
         none)
        none)
       none)
      (goF E (callOf L25) F60 0 m P60_1 (M60_1 t0 t1 t5 (IntKind.wrap .i64 (t6 + 1)))))
     none)
    none)
   (goF E (callOf L25) F60 0 m P60_0 (M60_0 t0 t1 (IntKind.wrap .i64 (t5 + 1))))) := by kernel_rfl

/- elasticstore/elasticstorelaw00.Valid -/
noncomputable def P34_0 : List AItem := F34.at [.snd, .fst, .snd, .sub, .head]
def M34_0 (t0 : List (List Cell)) (t3 : Int) : St := ⟨[(0, .one (.sl false 23 t0)), (3, .one (.int .i64 t3))], []⟩
noncomputable def P34_1 : List AItem := F34.at [.snd, .fst, .snd, .sub, .body, .snd, .fst, .sub, .snd, .snd, .sub, .head]
def M34_1 (t0 : List (List Cell)) (t3 : Int) (t4 : Int) : St := ⟨[(0, .one (.sl false 23 t0)), (3, .one (.int .i64 t3)), (4, .one (.int .i64 t4))], []⟩
theorem e34 (m : Nat) (l : List (List Cell)) : runF E (callOf L60) (m + 1) 34 [.one (.sl false 23 l)] [] =
  (goF E (callOf L60) F34 0 m P34_0 (M34_0 l 0)) := by kernel_rfl
theorem e34_0 (m : Nat) (t0 : List (List Cell)) (t3 : Int) : goF E (callOf L60) F34 0 (m + 1) P34_0 (M34_0 t0 t3) =
  (cond (decide (t3 < (t0.length : Int)))
   (cond (inB t3 t0.length)
    (cond (okRows (nl (Abs.rowAt t0 (Int.toNat t3)) 0))
     (cond ((vCfg (nl (Abs.rowAt t0 (Int.toNat t3)) 0)) != 0)
      (some ([.one (.bool false)], []))
      (goF E (callOf L60) F34 0 m P34_1 (M34_1 t0 t3 0)))
     none)
    none)
   (some ([.one (.bool true)], []))) := by kernel_rfl
theorem e34_1 (m : Nat) (t0 : List (List Cell)) (t3 : Int) (t4 : Int) : goF E (callOf L60) F34 0 (m + 1) P34_1 (M34_1 t0 t3 t4) =
  (cond (decide (t4 < t3))
   (cond (inB t3 t0.length)
    (cond (inB t4 t0.length)
     (cond (okRows (nl (Abs.rowAt t0 (Int.toNat t3)) 0) && okLn (nl (Abs.rowAt t0 (Int.toNat t4)) 0))
      (cond (!(agrC (nl (Abs.rowAt t0 (Int.toNat t3)) 0) (nl (Abs.rowAt t0 (Int.toNat t4)) 0)))
       (some ([.one (.bool false)], []))
       (goF E (callOf L60) F34 0 m P34_1 (M34_1 t0 t3 (IntKind.wrap .i64 (t4 + 1)))))
      none)
     none)
    none)
   (goF E (callOf L60) F34 0 m P34_0 (M34_0 t0 (IntKind.wrap .i64 (t3 + 1))))) := by kernel_rfl

/- elasticstore/elasticstoreref03.Count -/
noncomputable def P67_0 : List AItem := F67.at [.snd, .fst, .snd, .sub, .head]
def M67_0 (t0 : List (List Cell)) (t1 : Int) (t5 : Int) : St := ⟨[(0, .one (.sl false 69 t0)), (1, .one (.int .i64 t1)), (5, .one (.int .i64 t5))], []⟩
theorem e67 (m : Nat) (v : List (List Cell)) (a : Int) : runF E (callOf L34) (m + 1) 67 [.one (.sl false 69 v), .one (.int .i64 a)] [] =
  (goF E (callOf L34) F67 0 m P67_0 (M67_0 v a 0)) := by kernel_rfl
theorem e67_0 (m : Nat) (t0 : List (List Cell)) (t1 : Int) (t5 : Int) : goF E (callOf L34) F67 0 (m + 1) P67_0 (M67_0 t0 t1 t5) =
  (cond (decide (t5 < (t0.length : Int)))
   (cond (inB t5 t0.length)
    (cond ((nr (Abs.rowAt t0 (Int.toNat t5)) 0) == t1)
     (cond (inB t5 t0.length)
      (some ([.one (.int .i64 (nr (Abs.rowAt t0 (Int.toNat t5)) 1))], []))
      none)
     (goF E (callOf L34) F67 0 m P67_0 (M67_0 t0 t1 (IntKind.wrap .i64 (t5 + 1)))))
    none)
   (some ([.one (.int .i64 0)], []))) := by kernel_rfl

/- elasticstore/elasticstoreref06.Restrict -/
noncomputable def P47_0 : List AItem := F47.at [.snd, .snd, .fst, .snd, .sub, .head]
def M47_0 (t0 : List (List Cell)) (t1 : List (List Cell)) (t5 : List (List Cell)) (t6 : Int) : St := ⟨[(0, .one (.sl false 53 t0)), (1, .one (.sl false 69 t1)), (5, .one (.sl true 53 t5)), (6, .one (.int .i64 t6))], []⟩
theorem e47 (m : Nat) (c : List (List Cell)) (v : List (List Cell)) : runF E (callOf L67) (m + 1) 47 [.one (.sl false 53 c), .one (.sl false 69 v)] [] =
  (goF E (callOf L67) F47 0 m P47_0 (M47_0 c v ([] : List (List Cell)) 0)) := by kernel_rfl
theorem e47_0 (m : Nat) (t0 : List (List Cell)) (t1 : List (List Cell)) (t5 : List (List Cell)) (t6 : Int) : goF E (callOf L67) F47 0 (m + 1) P47_0 (M47_0 t0 t1 t5 t6) =
  (cond (decide (t6 < (t0.length : Int)))
   (cond (inB t6 t0.length)
    (cond (inB t6 t0.length)
     (cond (okLn t1)
      (cond (decide ((nr (Abs.rowAt t0 (Int.toNat t6)) 1) ≤ (cntV t1 (nr (Abs.rowAt t0 (Int.toNat t6)) 0))))
       (cond (inB t6 t0.length)
        (cond (fits (t5.length + [[Cell.int .i64 (nr (Abs.rowAt t0 (Int.toNat t6)) 0), Cell.int .i64 (nr (Abs.rowAt t0 (Int.toNat t6)) 1), Cell.slice 50 (nl (Abs.rowAt t0 (Int.toNat t6)) 2)]].length))
         (goF E (callOf L67) F47 0 m P47_0 (M47_0 t0 t1 (t5 ++ [[Cell.int .i64 (nr (Abs.rowAt t0 (Int.toNat t6)) 0), Cell.int .i64 (nr (Abs.rowAt t0 (Int.toNat t6)) 1), Cell.slice 50 (nl (Abs.rowAt t0 (Int.toNat t6)) 2)]]) (IntKind.wrap .i64 (t6 + 1))))
         none)
        none)
       (goF E (callOf L67) F47 0 m P47_0 (M47_0 t0 t1 t5 (IntKind.wrap .i64 (t6 + 1)))))
      none)
     none)
    none)
   (some ([.one (.sl false 53 t5)], []))) := by kernel_rfl

/- elasticstore/elasticstorelaw00.Part -/
noncomputable def P24_0 : List AItem := F24.at [.snd, .snd, .fst, .snd, .sub, .head]
def M24_0 (t0 : List (List Cell)) (t1 : Int) (t5 : List (List Cell)) (t6 : Int) : St := ⟨[(0, .one (.sl false 53 t0)), (1, .one (.int .i64 t1)), (5, .one (.sl true 69 t5)), (6, .one (.int .i64 t6))], []⟩
theorem e24 (m : Nat) (c : List (List Cell)) (n : Int) : runF E (callOf L47) (m + 1) 24 [.one (.sl false 53 c), .one (.int .i64 n)] [] =
  (goF E (callOf L47) F24 0 m P24_0 (M24_0 c n ([] : List (List Cell)) 0)) := by kernel_rfl
theorem e24_0 (m : Nat) (t0 : List (List Cell)) (t1 : Int) (t5 : List (List Cell)) (t6 : Int) : goF E (callOf L47) F24 0 (m + 1) P24_0 (M24_0 t0 t1 t5 t6) =
  (cond (decide (t6 < 3))
   (cond (decide (2 ≤ 4) && decide (t6 ≤ 9223372036854775807))
    (cond (decide ((gDigit t1 4 t6) > 0))
     (cond (decide (2 ≤ 4) && decide (t6 ≤ 9223372036854775807))
      (cond (fits (t5.length + [[Cell.int .i64 (IntKind.wrap .i64 (201 + t6)), Cell.int .i64 (gDigit t1 4 t6)]].length))
       (goF E (callOf L47) F24 0 m P24_0 (M24_0 t0 t1 (t5 ++ [[Cell.int .i64 (IntKind.wrap .i64 (201 + t6)), Cell.int .i64 (gDigit t1 4 t6)]]) (IntKind.wrap .i64 (t6 + 1))))
       none)
      none)
     (goF E (callOf L47) F24 0 m P24_0 (M24_0 t0 t1 t5 (IntKind.wrap .i64 (t6 + 1)))))
    none)
   (cond (okCf t0 && okLn t5)
    (some ([.one (.sl false 53 (restr t0 t5))], []))
    none)) := by kernel_rfl

/- elasticstore/proposal.equal -/
theorem e80 (m : Nat) (k1 : Int) (s1 : Int) (w1 : Int) (v1 : Int) (rk1 : Int) (rc1 : Int) (rf1 : Int) (k2 : Int) (s2 : Int) (w2 : Int) (v2 : Int) (rk2 : Int) (rc2 : Int) (rf2 : Int) : runF E (callOf L24) (m + 1) 80 [.agg [.int .i64 k1, .int .i64 s1, .int .i64 w1, .int .i64 v1, .int .i64 rk1, .int .i64 rc1, .int .i64 rf1], .agg [.int .i64 k2, .int .i64 s2, .int .i64 w2, .int .i64 v2, .int .i64 rk2, .int .i64 rc2, .int .i64 rf2]] [] =
  (cond (k1 == k2)
   (cond (s1 == s2)
    (cond (w1 == w2)
     (cond (v1 == v2)
      (some ([.one (.bool ((rk1 == rk2) && ((rc1 == rc2) && ((rf1 == rf2) && true))))], []))
      (some ([.one (.bool false)], [])))
     (some ([.one (.bool false)], [])))
    (some ([.one (.bool false)], [])))
   (some ([.one (.bool false)], []))) := by kernel_rfl

/- elasticstore/proposal.Equal -/
noncomputable def P57_0 : List AItem := F57.at [.snd, .snd, .fst, .snd, .sub, .head]
def M57_0 (t29 : List (List Cell)) (t30 : Int) (t31 : Int) (b0 : Int) (b0_1 : Int) (b0_2 : List (List Cell)) : St := ⟨[(3, .one (.ptr 0 0)), (29, .one (.sl false 50 t29)), (30, .one (.int .i64 t30)), (31, .one (.int .i64 t31))], [.var [.int .i64 b0, .int .i64 b0_1, .sl false 50 b0_2]]⟩
theorem e57 (m : Nat) (ap : Int) (np : Int) (cp : List (List Cell)) (aq : Int) (nq : Int) (cq : List (List Cell)) : runF E (callOf L80) (m + 1) 57 [.agg [.int .i64 ap, .int .i64 np, .sl false 50 cp], .agg [.int .i64 aq, .int .i64 nq, .sl false 50 cq]] [] =
  (cond (ap != aq)
   (some ([.one (.bool false)], []))
   (cond (np != nq)
    (some ([.one (.bool false)], []))
    (cond ((cp.length : Int) != (cq.length : Int))
     (some ([.one (.bool false)], []))
     (goF E (callOf L80) F57 0 m P57_0 (M57_0 cp (cp.length : Int) 0 aq nq cq))))) := by kernel_rfl
theorem e57_0 (m : Nat) (t29 : List (List Cell)) (t30 : Int) (t31 : Int) (b0 : Int) (b0_1 : Int) (b0_2 : List (List Cell)) : goF E (callOf L80) F57 0 (m + 1) P57_0 (M57_0 t29 t30 t31 b0 b0_1 b0_2) =
  (cond (decide (t31 < t30))
   (cond (inB t31 t29.length)
    (cond (inB t31 b0_2.length)
     (cond (!(eqCh (nr (Abs.rowAt t29 (Int.toNat t31)) 0) (nr (Abs.rowAt t29 (Int.toNat t31)) 1) (nr (Abs.rowAt t29 (Int.toNat t31)) 2) (nr (Abs.rowAt t29 (Int.toNat t31)) 3) (nr (Abs.rowAt t29 (Int.toNat t31)) 4) (nr (Abs.rowAt t29 (Int.toNat t31)) 5) (nr (Abs.rowAt t29 (Int.toNat t31)) 6) (nr (Abs.rowAt b0_2 (Int.toNat t31)) 0) (nr (Abs.rowAt b0_2 (Int.toNat t31)) 1) (nr (Abs.rowAt b0_2 (Int.toNat t31)) 2) (nr (Abs.rowAt b0_2 (Int.toNat t31)) 3) (nr (Abs.rowAt b0_2 (Int.toNat t31)) 4) (nr (Abs.rowAt b0_2 (Int.toNat t31)) 5) (nr (Abs.rowAt b0_2 (Int.toNat t31)) 6)))
      (some ([.one (.bool false)], []))
      (goF E (callOf L80) F57 0 m P57_0 (M57_0 t29 t30 (IntKind.wrap .i64 (t31 + 1)) b0 b0_1 b0_2)))
     none)
    none)
   (some ([.one (.bool true)], []))) := by kernel_rfl

/- elasticstore/cert.includes$1 -/
theorem e56 (m : Nat) (aq : Int) (nq : Int) (cq : List (List Cell)) (a : Int) (n : Int) (l : List (List Cell)) : runF E (callOf L57) (m + 1) 56 [.agg [.int .i64 aq, .int .i64 nq, .sl false 50 cq], .one (.ptr 0 0)] [.var [.int .i64 a, .int .i64 n, .sl false 50 l]] =
  (cond (decide (l.length < 9223372036854775808))
   (some ([.one (.bool (eqP a n l aq nq cq))], [.var [.int .i64 a, .int .i64 n, .sl false 50 l]]))
   none) := by kernel_rfl

/- slices.IndexFunc[elasticstore/api.Config,elasticstore/api.Proposal] -/
noncomputable def P79_0 : List AItem := F79.at [.snd, .fst, .snd, .sub, .head]
def M79_0 (t0 : List (List Cell)) (t7 : Int) (t8 : Int) (b0 : Int) (b0_1 : Int) (b0_2 : List (List Cell)) : St := ⟨[(0, .one (.sl false 53 t0)), (1, .one (.fn 56 [.ptr 0 0])), (7, .one (.int .i64 t7)), (8, .one (.int .i64 t8))], [.var [.int .i64 b0, .int .i64 b0_1, .sl false 50 b0_2]]⟩
theorem e79 (m : Nat) (c : List (List Cell)) (a : Int) (n : Int) (l : List (List Cell)) : runF E (callOf L56) (m + 1) 79 [.one (.sl false 53 c), .one (.fn 56 [.ptr 0 0])] [.var [.int .i64 a, .int .i64 n, .sl false 50 l]] =
  (goF E (callOf L56) F79 1 m P79_0 (M79_0 c (c.length : Int) 0 a n l)) := by kernel_rfl
theorem e79_0 (m : Nat) (t0 : List (List Cell)) (t7 : Int) (t8 : Int) (b0 : Int) (b0_1 : Int) (b0_2 : List (List Cell)) : goF E (callOf L56) F79 1 (m + 1) P79_0 (M79_0 t0 t7 t8 b0 b0_1 b0_2) =
  (cond (decide (t8 < t7))
   (cond (inB t8 t0.length)
    (cond (decide (b0_2.length < 9223372036854775808))
     (cond (eqP b0 b0_1 b0_2 (nr (Abs.rowAt t0 (Int.toNat t8)) 0) (nr (Abs.rowAt t0 (Int.toNat t8)) 1) (nl (Abs.rowAt t0 (Int.toNat t8)) 2))
      (some ([.one (.int .i64 t8)], [.var [.int .i64 b0, .int .i64 b0_1, .sl false 50 b0_2]]))
      (goF E (callOf L56) F79 1 m P79_0 (M79_0 t0 t7 (IntKind.wrap .i64 (t8 + 1)) b0 b0_1 b0_2)))
     none)
    none)
   (some ([.one (.int .i64 (-1))], [.var [.int .i64 b0, .int .i64 b0_1, .sl false 50 b0_2]]))) := by kernel_rfl

/- slices.ContainsFunc[elasticstore/api.Config,elasticstore/api.Proposal] -/
theorem e55 (m : Nat) (c : List (List Cell)) (a : Int) (n : Int) (l : List (List Cell)) : runF E (callOf L79) (m + 1) 55 [.one (.sl false 53 c), .one (.fn 56 [.ptr 0 0])] [.var [.int .i64 a, .int .i64 n, .sl false 50 l]] =
  (cond (okRows c && decide (l.length < 9223372036854775808))
   (some ([.one (.bool (decide ((idxP a n l c) ≥ 0)))], [.var [.int .i64 a, .int .i64 n, .sl false 50 l]]))
   none) := by kernel_rfl

/- elasticstore/cert.includes -/
noncomputable def P31_0 : List AItem := F31.at [.snd, .fst, .snd, .sub, .head]
def M31_0 (t0 : List (List Cell)) (t7 : List (List Cell)) (t8 : Int) (t9 : Int) : St := ⟨[(0, .one (.sl false 53 t0)), (7, .one (.sl false 53 t7)), (8, .one (.int .i64 t8)), (9, .one (.int .i64 t9))], []⟩
theorem e31 (m : Nat) (c : List (List Cell)) (d : List (List Cell)) : runF E (callOf L55) (m + 1) 31 [.one (.sl false 53 c), .one (.sl false 53 d)] [] =
  (goF E (callOf L55) F31 0 m P31_0 (M31_0 c d (d.length : Int) 0)) := by kernel_rfl
theorem e31_0 (m : Nat) (t0 : List (List Cell)) (t7 : List (List Cell)) (t8 : Int) (t9 : Int) : goF E (callOf L55) F31 0 (m + 1) P31_0 (M31_0 t0 t7 t8 t9) =
  (cond (decide (t9 < t8))
   (cond (inB t9 t7.length)
    (cond (okRows t0 && decide ((nl (Abs.rowAt t7 (Int.toNat t9)) 2).length < 9223372036854775808))
     (cond (!(inP (nr (Abs.rowAt t7 (Int.toNat t9)) 0) (nr (Abs.rowAt t7 (Int.toNat t9)) 1) (nl (Abs.rowAt t7 (Int.toNat t9)) 2) t0))
      (some ([.one (.bool false)], []))
      (goF E (callOf L55) F31 0 m P31_0 (M31_0 t0 t7 t8 (IntKind.wrap .i64 (t9 + 1)))))
     none)
    none)
   (some ([.one (.bool true)], []))) := by kernel_rfl

/- elasticstore/elasticstoreref06.Includes -/
noncomputable def P33_0 : List AItem := F33.at [.snd, .fst, .snd, .sub, .head]
def M33_0 (t0 : List (List Cell)) (t1 : List (List Cell)) (t5 : Int) : St := ⟨[(0, .one (.sl false 53 t0)), (1, .one (.sl false 53 t1)), (5, .one (.int .i64 t5))], []⟩
noncomputable def P33_1 : List AItem := F33.at [.snd, .fst, .snd, .sub, .body, .snd, .fst, .sub, .snd, .fst, .snd, .sub, .head]
def M33_1 (t0 : List (List Cell)) (t1 : List (List Cell)) (t5 : Int) (t6 : Bool) (t7 : Int) : St := ⟨[(0, .one (.sl false 53 t0)), (1, .one (.sl false 53 t1)), (5, .one (.int .i64 t5)), (6, .one (.bool t6)), (7, .one (.int .i64 t7))], []⟩
theorem e33 (m : Nat) (c : List (List Cell)) (d : List (List Cell)) : runF E (callOf L31) (m + 1) 33 [.one (.sl false 53 c), .one (.sl false 53 d)] [] =
  (goF E (callOf L31) F33 0 m P33_0 (M33_0 c d 0)) := by kernel_rfl
theorem e33_0 (m : Nat) (t0 : List (List Cell)) (t1 : List (List Cell)) (t5 : Int) : goF E (callOf L31) F33 0 (m + 1) P33_0 (M33_0 t0 t1 t5) =
  (cond (decide (t5 < (t1.length : Int)))
   (goF E (callOf L31) F33 0 m P33_1 (M33_1 t0 t1 t5 false 0))
   (some ([.one (.bool true)], []))) := by kernel_rfl
theorem e33_1 (m : Nat) (t0 : List (List Cell)) (t1 : List (List Cell)) (t5 : Int) (t6 : Bool) (t7 : Int) : goF E (callOf L31) F33 0 (m + 1) P33_1 (M33_1 t0 t1 t5 t6 t7) =
  (cond (decide (t7 < (t0.length : Int)))
   (cond t6
    (goF E (callOf L31) F33 0 m P33_1 (M33_1 t0 t1 t5 true (IntKind.wrap .i64 (t7 + 1))))
    (cond (inB t7 t0.length)
     (cond (inB t5 t1.length)
      (cond (decide ((nl (Abs.rowAt t0 (Int.toNat t7)) 2).length < 9223372036854775808))
       (goF E (callOf L31) F33 0 m P33_1 (M33_1 t0 t1 t5 (eqP (nr (Abs.rowAt t0 (Int.toNat t7)) 0) (nr (Abs.rowAt t0 (Int.toNat t7)) 1) (nl (Abs.rowAt t0 (Int.toNat t7)) 2) (nr (Abs.rowAt t1 (Int.toNat t5)) 0) (nr (Abs.rowAt t1 (Int.toNat t5)) 1) (nl (Abs.rowAt t1 (Int.toNat t5)) 2)) (IntKind.wrap .i64 (t7 + 1))))
       none)
      none)
     none))
   (cond (!t6)
    (some ([.one (.bool false)], []))
    (goF E (callOf L31) F33 0 m P33_0 (M33_0 t0 t1 (IntKind.wrap .i64 (t5 + 1)))))) := by kernel_rfl

/- elasticstore/cert.Validate -/
noncomputable def P10_0 : List AItem := F10.at [.snd, .fst, .snd, .sub, .head]
def M10_0 (t10 : List (List Cell)) (t11 : Int) (t12 : Int) (b0 : List (List Cell)) (b0_1 : List (List Cell)) : St := ⟨[(1, .one (.ptr 0 0)), (10, .one (.sl false 23 t10)), (11, .one (.int .i64 t11)), (12, .one (.int .i64 t12))], [.var [.sl false 53 b0, .sl false 53 b0_1]]⟩
theorem e10 (m : Nat) (f1 : List (List Cell)) (t1 : List (List Cell)) : runF E (callOf L33) (m + 1) 10 [.agg [.sl false 53 f1, .sl false 53 t1]] [] =
  (goF E (callOf L33) F10 0 m P10_0 (M10_0 [[Cell.slice 53 f1], [Cell.slice 53 t1]] 2 0 f1 t1)) := by kernel_rfl
theorem e10_0 (m : Nat) (t10 : List (List Cell)) (t11 : Int) (t12 : Int) (b0 : List (List Cell)) (b0_1 : List (List Cell)) : goF E (callOf L33) F10 0 (m + 1) P10_0 (M10_0 t10 t11 t12 b0 b0_1) =
  (cond (decide (t12 < t11))
   (cond (inB t12 t10.length)
    (cond (okRows (nl (Abs.rowAt t10 (Int.toNat t12)) 0))
     (cond ((vCfg (nl (Abs.rowAt t10 (Int.toNat t12)) 0)) != 0)
      (some ([.one (.int .i64 (vCfg (nl (Abs.rowAt t10 (Int.toNat t12)) 0)))], []))
      (goF E (callOf L33) F10 0 m P10_0 (M10_0 t10 t11 (IntKind.wrap .i64 (t12 + 1)) b0 b0_1)))
     none)
    none)
   (cond (okRows b0_1 && okRows b0)
    (cond (!(incl b0_1 b0))
     (some ([.one (.int .i64 2)], []))
     (some ([.one (.int .i64 0)], [])))
    none)) := by kernel_rfl

/- elasticstore/elasticstoreref14.ValidateCert -/
theorem e11 (m : Nat) (f1 : List (List Cell)) (t1 : List (List Cell)) : runF E (callOf L10) (m + 1) 11 [.agg [.sl false 53 f1, .sl false 53 t1]] [] =
  (cond (okRows f1)
   (cond ((vCfg f1) != 0)
    (cond (okRows f1)
     (some ([.one (.int .i64 (vCfg f1))], []))
     none)
    (cond (okRows t1)
     (cond ((vCfg t1) != 0)
      (cond (okRows t1)
       (some ([.one (.int .i64 (vCfg t1))], []))
       none)
      (cond (okRows t1 && okRows f1)
       (cond (!(incl t1 f1))
        (some ([.one (.int .i64 2)], []))
        (some ([.one (.int .i64 0)], [])))
       none))
     none))
   none) := by kernel_rfl

/- elasticstore/elasticstoreref14.EqualCert -/
theorem e14 (m : Nat) (f1 : List (List Cell)) (t1 : List (List Cell)) (f2 : List (List Cell)) (t2 : List (List Cell)) : runF E (callOf L11) (m + 1) 14 [.agg [.sl false 53 f1, .sl false 53 t1], .agg [.sl false 53 f2, .sl false 53 t2]] [] =
  (cond (okRows f1)
   (cond (eqCfg f1 f2)
    (cond (okRows t1)
     (some ([.one (.bool (eqCfg t1 t2))], []))
     none)
    (some ([.one (.bool false)], [])))
   none) := by kernel_rfl

/- elasticstore/cert.Decode -/
theorem e26 (m : Nat) (x : List (List Cell)) : runF E (callOf L14) (m + 1) 26 [.one (.sl false 5 x)] [] =
  (cond (inB 0 (x.length + 1))
   (cond (okRd (dropN x 0))
    (cond ((decC (dropN x 0)).2.2 != 0)
     (some ([.agg [.sl true 53 ([] : List (List Cell)), .sl true 53 ([] : List (List Cell))], .one (.int .i64 0), .one (.int .i64 (decC (dropN x 0)).2.2)], []))
     (cond (inB (IntKind.wrap .i64 (0 + (decC (dropN x 0)).2.1)) (x.length + 1))
      (cond (okRd (dropN x (Int.toNat (IntKind.wrap .i64 (0 + (decC (dropN x 0)).2.1)))))
       (cond ((decC (dropN x (Int.toNat (IntKind.wrap .i64 (0 + (decC (dropN x 0)).2.1))))).2.2 != 0)
        (some ([.agg [.sl true 53 ([] : List (List Cell)), .sl true 53 ([] : List (List Cell))], .one (.int .i64 0), .one (.int .i64 (decC (dropN x (Int.toNat (IntKind.wrap .i64 (0 + (decC (dropN x 0)).2.1))))).2.2)], []))
        (cond (okRows (decC (dropN x 0)).1 && okRows (decC (dropN x (Int.toNat (IntKind.wrap .i64 (0 + (decC (dropN x 0)).2.1))))).1)
         (cond ((vCert (decC (dropN x 0)).1 (decC (dropN x (Int.toNat (IntKind.wrap .i64 (0 + (decC (dropN x 0)).2.1))))).1) != 0)
          (some ([.agg [.sl true 53 ([] : List (List Cell)), .sl true 53 ([] : List (List Cell))], .one (.int .i64 0), .one (.int .i64 (vCert (decC (dropN x 0)).1 (decC (dropN x (Int.toNat (IntKind.wrap .i64 (0 + (decC (dropN x 0)).2.1))))).1))], []))
          (some ([.agg [.sl true 53 (decC (dropN x 0)).1, .sl true 53 (decC (dropN x (Int.toNat (IntKind.wrap .i64 (0 + (decC (dropN x 0)).2.1))))).1], .one (.int .i64 (IntKind.wrap .i64 ((IntKind.wrap .i64 (0 + (decC (dropN x 0)).2.1)) + (decC (dropN x (Int.toNat (IntKind.wrap .i64 (0 + (decC (dropN x 0)).2.1))))).2.1))), .one (.int .i64 0)], [])))
         none))
       none)
      none))
    none)
   none) := by kernel_rfl

/- elasticstore/elasticstoreref14.DecodeCert -/
theorem e27 (m : Nat) (x : List (List Cell)) : runF E (callOf L26) (m + 1) 27 [.one (.sl false 5 x)] [] =
  (cond (okRd x)
   (cond ((decC x).2.2 != 0)
    (some ([.agg [.sl false 53 ([] : List (List Cell)), .sl false 53 ([] : List (List Cell))], .one (.int .i64 0), .one (.int .i64 (decC x).2.2)], []))
    (cond (inB (decC x).2.1 (x.length + 1))
     (cond (okRd (dropN x (Int.toNat (decC x).2.1)))
      (cond ((decC (dropN x (Int.toNat (decC x).2.1))).2.2 != 0)
       (some ([.agg [.sl false 53 ([] : List (List Cell)), .sl false 53 ([] : List (List Cell))], .one (.int .i64 0), .one (.int .i64 (decC (dropN x (Int.toNat (decC x).2.1))).2.2)], []))
       (cond (okRows (decC x).1 && okRows (decC (dropN x (Int.toNat (decC x).2.1))).1)
        (cond ((vCert (decC x).1 (decC (dropN x (Int.toNat (decC x).2.1))).1) != 0)
         (some ([.agg [.sl false 53 ([] : List (List Cell)), .sl false 53 ([] : List (List Cell))], .one (.int .i64 0), .one (.int .i64 (vCert (decC x).1 (decC (dropN x (Int.toNat (decC x).2.1))).1))], []))
         (some ([.agg [.sl false 53 (decC x).1, .sl false 53 (decC (dropN x (Int.toNat (decC x).2.1))).1], .one (.int .i64 (IntKind.wrap .i64 ((decC x).2.1 + (decC (dropN x (Int.toNat (decC x).2.1))).2.1))), .one (.int .i64 0)], [])))
        none))
      none)
     none))
   none) := by kernel_rfl

/- elasticstore/cert.Append -/
theorem e28 (m : Nat) (x : List (List Cell)) (f1 : List (List Cell)) (t1 : List (List Cell)) : runF E (callOf L27) (m + 1) 28 [.one (.sl false 5 x), .agg [.sl false 53 f1, .sl false 53 t1]] [] =
  (cond (okCApp x f1)
   (cond (okCApp (x ++ encC f1) t1)
    (some ([.one (.sl true 5 ((x ++ encC f1) ++ encC t1))], []))
    none)
   none) := by kernel_rfl
theorem e28_c1 (m : Nat) (f1 : List (List Cell)) (t1 : List (List Cell)) : runF E (callOf L27) (m + 1) 28 [.one (.nils), .agg [.sl false 53 f1, .sl false 53 t1]] [] =
  (cond (okCApp ([] : List (List Cell)) f1)
   (cond (okCApp (([] : List (List Cell)) ++ encC f1) t1)
    (some ([.one (.sl true 5 ((([] : List (List Cell)) ++ encC f1) ++ encC t1))], []))
    none)
   none) := by kernel_rfl

/- elasticstore/elasticstoreref14.AppendCert -/
theorem e29 (m : Nat) (x : List (List Cell)) (f1 : List (List Cell)) (t1 : List (List Cell)) : runF E (callOf L28) (m + 1) 29 [.one (.sl false 5 x), .agg [.sl false 53 f1, .sl false 53 t1]] [] =
  (cond (okCApp x f1)
   (cond (okCApp (x ++ encC f1) t1)
    (some ([.one (.sl false 5 ((x ++ encC f1) ++ encC t1))], []))
    none)
   none) := by kernel_rfl
theorem e29_c1 (m : Nat) (f1 : List (List Cell)) (t1 : List (List Cell)) : runF E (callOf L28) (m + 1) 29 [.one (.nils), .agg [.sl false 53 f1, .sl false 53 t1]] [] =
  (cond (okCApp ([] : List (List Cell)) f1)
   (cond (okCApp (([] : List (List Cell)) ++ encC f1) t1)
    (some ([.one (.sl false 5 ((([] : List (List Cell)) ++ encC f1) ++ encC t1))], []))
    none)
   none) := by kernel_rfl

/- elasticstore/elasticstorelaw13.CertValidate -/
theorem e3 (m : Nat) (f1 : List (List Cell)) (t1 : List (List Cell)) : runF E (callOf L9) (m + 1) 3 [.agg [.sl false 53 f1, .sl false 53 t1]] [] =
  (cond (decide ((f1.length : Int) > 30))
   (some ([.one (.bool true)], []))
   (cond (decide ((t1.length : Int) > 30))
    (some ([.one (.bool true)], []))
    (cond (okRows f1 && okRows t1)
     (cond (okRows f1 && okRows t1)
      (cond ((vCert f1 t1) == (vCert f1 t1))
       (some ([.one (.bool true)], []))
       (some ([.one (.bool false)], [])))
      none)
     none))) := by kernel_rfl

/- elasticstore/elasticstorelaw13.CertEncoding -/
theorem e8 (m : Nat) (f1 : List (List Cell)) (t1 : List (List Cell)) (x : List (List Cell)) : runF E (callOf L3) (m + 1) 8 [.agg [.sl false 53 f1, .sl false 53 t1], .one (.sl false 5 x)] [] =
  (cond (decide ((x.length : Int) > 400))
   (some ([.one (.bool true)], []))
   (cond (decide ((f1.length : Int) > 30))
    (some ([.one (.bool true)], []))
    (cond (decide ((t1.length : Int) > 30))
     (some ([.one (.bool true)], []))
     (cond (okRd x)
      (cond (okRd x)
       (cond (okRows (decT x).1 && okRows (decT x).2.1)
        (cond (!(eqCfg (decT x).1 (decT x).1 && eqCfg (decT x).2.1 (decT x).2.1))
         (some ([.one (.bool false)], []))
         (cond ((decT x).2.2.1 != (decT x).2.2.1)
          (some ([.one (.bool false)], []))
          (cond ((decT x).2.2.2 != (decT x).2.2.2)
           (some ([.one (.bool false)], []))
           (cond (okRows f1 && okRows t1)
            (cond ((vCert f1 t1) != 0)
             (some ([.one (.bool true)], []))
             (cond (okTApp [] f1 t1)
              (cond (fits (([] : List (List Cell)).length + (encT f1 t1).length))
               (cond (fits ((([] : List (List Cell)) ++ (encT f1 t1)).length + x.length))
                (cond (okRd ((([] : List (List Cell)) ++ (encT f1 t1)) ++ x))
                 (cond (okTApp [] f1 t1)
                  (cond ((toBytes (encT f1 t1)) == (toBytes (encT f1 t1)))
                   (cond ((decT ((([] : List (List Cell)) ++ (encT f1 t1)) ++ x)).2.2.2 == 0)
                    (cond ((decT ((([] : List (List Cell)) ++ (encT f1 t1)) ++ x)).2.2.1 == ((encT f1 t1).length : Int))
                     (cond (okRows f1 && okRows t1)
                      (cond (eqCfg f1 (decT ((([] : List (List Cell)) ++ (encT f1 t1)) ++ x)).1 && eqCfg t1 (decT ((([] : List (List Cell)) ++ (encT f1 t1)) ++ x)).2.1)
                       (some ([.one (.bool true)], []))
                       (some ([.one (.bool false)], [])))
                      none)
                     (some ([.one (.bool false)], [])))
                    (some ([.one (.bool false)], [])))
                   (some ([.one (.bool false)], [])))
                  none)
                 none)
                none)
               none)
              none))
            none))))
        none)
       none)
      none)))) := by kernel_rfl

/- elasticstore/cert.Newer$1 -/
theorem e37 (m : Nat) (x : List (List Cell)) (f : List (List Cell)) (t : List (List Cell)) : runF E (callOf L8) (m + 1) 37 [.one (.sl false 53 x), .one (.ptr 0 0)] [.var [.sl false 53 f, .sl false 53 t]] =
  (cond (okSrt t && okLn x)
   (cond (contK t x)
    (cond (okSrt t && okSrt x)
     (some ([.one (.bool (!(contK t x && contK x t)))], [.var [.sl false 53 f, .sl false 53 t]]))
     none)
    (some ([.one (.bool false)], [.var [.sl false 53 f, .sl false 53 t]])))
   none) := by kernel_rfl

/- elasticstore/cert.Start$1 -/
theorem e41 (m : Nat) (x : List (List Cell)) (f : List (List Cell)) (t : List (List Cell)) : runF E (callOf L37) (m + 1) 41 [.one (.sl false 53 x), .one (.ptr 0 0)] [.var [.sl false 53 f, .sl false 53 t]] =
  (cond (okSrt t && okLn x)
   (cond (contK t x)
    (cond (okSrt x && okLn f)
     (some ([.one (.bool (contK x f))], [.var [.sl false 53 f, .sl false 53 t]]))
     none)
    (some ([.one (.bool false)], [.var [.sl false 53 f, .sl false 53 t]])))
   none) := by kernel_rfl

/- elasticstore/cert.all -/
noncomputable def P36_0 : List AItem := F36.at [.snd, .fst, .snd, .sub, .head]
def M36_0 (t7 : List (List Cell)) (t8 : Int) (t9 : Int) (b0 : List (List Cell)) (b0_1 : List (List Cell)) : St := ⟨[(0, .one (.fn 37 [.ptr 0 0])), (7, .one (.sl false 23 t7)), (8, .one (.int .i64 t8)), (9, .one (.int .i64 t9))], [.var [.sl false 53 b0, .sl false 53 b0_1]]⟩
theorem e36 (m : Nat) (l : List (List Cell)) (f : List (List Cell)) (t : List (List Cell)) : runF E (callOf L41) (m + 1) 36 [.one (.fn 37 [.ptr 0 0]), .one (.sl false 23 l)] [.var [.sl false 53 f, .sl false 53 t]] =
  (goF E (callOf L41) F36 1 m P36_0 (M36_0 l (l.length : Int) 0 f t)) := by kernel_rfl
theorem e36_0 (m : Nat) (t7 : List (List Cell)) (t8 : Int) (t9 : Int) (b0 : List (List Cell)) (b0_1 : List (List Cell)) : goF E (callOf L41) F36 1 (m + 1) P36_0 (M36_0 t7 t8 t9 b0 b0_1) =
  (cond (decide (t9 < t8))
   (cond (inB t9 t7.length)
    (cond (okSrt b0_1 && okSrt (nl (Abs.rowAt t7 (Int.toNat t9)) 0))
     (cond (!(newB b0_1 (nl (Abs.rowAt t7 (Int.toNat t9)) 0)))
      (some ([.one (.bool false)], [.var [.sl false 53 b0, .sl false 53 b0_1]]))
      (goF E (callOf L41) F36 1 m P36_0 (M36_0 t7 t8 (IntKind.wrap .i64 (t9 + 1)) b0 b0_1)))
     none)
    none)
   (some ([.one (.bool true)], [.var [.sl false 53 b0, .sl false 53 b0_1]]))) := by kernel_rfl
noncomputable def P36_0_c1 : List AItem := F36.at [.snd, .fst, .snd, .sub, .head]
def M36_0_c1 (t7 : List (List Cell)) (t8 : Int) (t9 : Int) (b0 : List (List Cell)) (b0_1 : List (List Cell)) : St := ⟨[(0, .one (.fn 41 [.ptr 0 0])), (7, .one (.sl false 23 t7)), (8, .one (.int .i64 t8)), (9, .one (.int .i64 t9))], [.var [.sl false 53 b0, .sl false 53 b0_1]]⟩
theorem e36_c1 (m : Nat) (l : List (List Cell)) (f : List (List Cell)) (t : List (List Cell)) : runF E (callOf L41) (m + 1) 36 [.one (.fn 41 [.ptr 0 0]), .one (.sl false 23 l)] [.var [.sl false 53 f, .sl false 53 t]] =
  (goF E (callOf L41) F36 1 m P36_0_c1 (M36_0_c1 l (l.length : Int) 0 f t)) := by kernel_rfl
theorem e36_0_c1 (m : Nat) (t7 : List (List Cell)) (t8 : Int) (t9 : Int) (b0 : List (List Cell)) (b0_1 : List (List Cell)) : goF E (callOf L41) F36 1 (m + 1) P36_0_c1 (M36_0_c1 t7 t8 t9 b0 b0_1) =
  (cond (decide (t9 < t8))
   (cond (inB t9 t7.length)
    (cond (okSrt b0_1 && (okSrt (nl (Abs.rowAt t7 (Int.toNat t9)) 0) && okLn b0))
     (cond (!(betw b0 b0_1 (nl (Abs.rowAt t7 (Int.toNat t9)) 0)))
      (some ([.one (.bool false)], [.var [.sl false 53 b0, .sl false 53 b0_1]]))
      (goF E (callOf L41) F36 1 m P36_0_c1 (M36_0_c1 t7 t8 (IntKind.wrap .i64 (t9 + 1)) b0 b0_1)))
     none)
    none)
   (some ([.one (.bool true)], [.var [.sl false 53 b0, .sl false 53 b0_1]]))) := by kernel_rfl

/- elasticstore/cert.Newer -/
theorem e15 (m : Nat) (f1 : List (List Cell)) (t1 : List (List Cell)) (f2 : List (List Cell)) (t2 : List (List Cell)) : runF E (callOf L36) (m + 1) 15 [.agg [.sl false 53 f1, .sl false 53 t1], .agg [.sl false 53 f2, .sl false 53 t2]] [] =
  (cond (okSrt t1 && okSs [[Cell.slice 53 t2]])
   (some ([.one (.bool (newA t1 [[Cell.slice 53 t2]]))], []))
   none) := by kernel_rfl

/- elasticstore/elasticstoreref14.Newer -/
theorem e16 (m : Nat) (f1 : List (List Cell)) (t1 : List (List Cell)) (f2 : List (List Cell)) (t2 : List (List Cell)) : runF E (callOf L15) (m + 1) 16 [.agg [.sl false 53 f1, .sl false 53 t1], .agg [.sl false 53 f2, .sl false 53 t2]] [] =
  (cond (okLn t1 && okLn t2)
   (cond (contK t1 t2)
    (cond (okLn t2 && okLn t1)
     (some ([.one (.bool (!(contK t2 t1)))], []))
     none)
    (some ([.one (.bool false)], [])))
   none) := by kernel_rfl

/- elasticstore/cert.clone -/
theorem e39 (m : Nat) (f1 : List (List Cell)) (t1 : List (List Cell)) : runF E (callOf L16) (m + 1) 39 [.agg [.sl false 53 f1, .sl false 53 t1]] [] =
  (cond (okCl f1)
   (cond (okCl t1)
    (some ([.agg [.sl false 53 f1, .sl false 53 t1]], []))
    none)
   none) := by kernel_rfl

/- elasticstore/cert.Latest -/
theorem e17 (m : Nat) (f1 : List (List Cell)) (t1 : List (List Cell)) (f2 : List (List Cell)) (t2 : List (List Cell)) : runF E (callOf L39) (m + 1) 17 [.agg [.sl false 53 f1, .sl false 53 t1], .agg [.sl false 53 f2, .sl false 53 t2]] [] =
  (cond (okSrt t2 && okSrt t1)
   (cond (newB t2 t1)
    (cond (okCl f2 && okCl t2)
     (some ([.agg [.sl false 53 f2, .sl false 53 t2]], []))
     none)
    (cond (okCl f1 && okCl t1)
     (some ([.agg [.sl false 53 f1, .sl false 53 t1]], []))
     none))
   none) := by kernel_rfl

/- elasticstore/elasticstoreref14.Latest -/
theorem e18 (m : Nat) (f1 : List (List Cell)) (t1 : List (List Cell)) (f2 : List (List Cell)) (t2 : List (List Cell)) : runF E (callOf L17) (m + 1) 18 [.agg [.sl false 53 f1, .sl false 53 t1], .agg [.sl false 53 f2, .sl false 53 t2]] [] =
  (cond (okLn t2 && okLn t1)
   (cond (newR t2 t1)
    (some ([.agg [.sl false 53 f2, .sl false 53 t2]], []))
    (some ([.agg [.sl false 53 f1, .sl false 53 t1]], [])))
   none) := by kernel_rfl

/- elasticstore/cert.Start -/
theorem e20 (m : Nat) (f1 : List (List Cell)) (t1 : List (List Cell)) (f2 : List (List Cell)) (t2 : List (List Cell)) : runF E (callOf L18) (m + 1) 20 [.agg [.sl false 53 f1, .sl false 53 t1], .agg [.sl false 53 f2, .sl false 53 t2]] [] =
  (cond (okSrt t1 && (okSs [[Cell.slice 53 t2]] && okLn f1))
   (cond (betA f1 t1 [[Cell.slice 53 t2]])
    (cond (okCl t2)
     (some ([.one (.sl false 53 t2)], []))
     none)
    (cond (okCl f1)
     (some ([.one (.sl false 53 f1)], []))
     none))
   none) := by kernel_rfl

/- elasticstore/elasticstoreref14.Start -/
theorem e21 (m : Nat) (f1 : List (List Cell)) (t1 : List (List Cell)) (f2 : List (List Cell)) (t2 : List (List Cell)) : runF E (callOf L20) (m + 1) 21 [.agg [.sl false 53 f1, .sl false 53 t1], .agg [.sl false 53 f2, .sl false 53 t2]] [] =
  (cond (okLn t1 && okLn t2)
   (cond (contK t1 t2)
    (cond (okLn t2 && okLn f1)
     (cond (contK t2 f1)
      (some ([.one (.sl false 53 t2)], []))
      (some ([.one (.sl false 53 f1)], [])))
     none)
    (some ([.one (.sl false 53 f1)], [])))
   none) := by kernel_rfl

/- elasticstore/cert.Equal -/
theorem e13 (m : Nat) (f1 : List (List Cell)) (t1 : List (List Cell)) (f2 : List (List Cell)) (t2 : List (List Cell)) : runF E (callOf L21) (m + 1) 13 [.agg [.sl false 53 f1, .sl false 53 t1], .agg [.sl false 53 f2, .sl false 53 t2]] [] =
  (cond (okSrt f1 && okSrt f2)
   (cond (contK f1 f2 && contK f2 f1)
    (cond (okSrt t1 && okSrt t2)
     (some ([.one (.bool (contK t1 t2 && contK t2 t1))], []))
     none)
    (some ([.one (.bool false)], [])))
   none) := by kernel_rfl

/- elasticstore/elasticstorelaw00.Cert -/
theorem e23 (m : Nat) (p : List (List Cell)) (n : Int) : runF E (callOf L13) (m + 1) 23 [.one (.sl false 53 p), .one (.int .i64 n)] [] =
  (cond (okCf p)
   (cond (decide (1099511627776 ≤ 4611686018427387904))
    (cond (okCf (gPart p n))
     (some ([.agg [.sl false 53 (gPart (gPart p n) (IntKind.wrap .i64 (Int.tdiv (gIndex n 1099511627776) 64))), .sl false 53 (gPart p n)]], []))
     none)
    none)
   none) := by kernel_rfl

/- elasticstore/elasticstorelaw13.valid -/
noncomputable def P12_0 : List AItem := F12.at [.snd, .snd, .fst, .snd, .sub, .head]
def M12_0 (t0 : List (List Cell)) (t3 : List (List Cell)) (t4 : Int) : St := ⟨[(0, .one (.sl false 25 t0)), (3, .one (.sl true 23 t3)), (4, .one (.int .i64 t4))], []⟩
theorem e12 (m : Nat) (l : List (List Cell)) : runF E (callOf L23) (m + 1) 12 [.one (.sl false 25 l)] [] =
  (goF E (callOf L23) F12 0 m P12_0 (M12_0 l ([] : List (List Cell)) 0)) := by kernel_rfl
theorem e12_0 (m : Nat) (t0 : List (List Cell)) (t3 : List (List Cell)) (t4 : Int) : goF E (callOf L23) F12 0 (m + 1) P12_0 (M12_0 t0 t3 t4) =
  (cond (decide (t4 < (t0.length : Int)))
   (cond (inB t4 t0.length)
    (cond (decide (((nl (Abs.rowAt t0 (Int.toNat t4)) 0).length : Int) > 30))
     (some ([.one (.bool false)], []))
     (cond (inB t4 t0.length)
      (cond (decide (((nl (Abs.rowAt t0 (Int.toNat t4)) 1).length : Int) > 30))
       (some ([.one (.bool false)], []))
       (cond (inB t4 t0.length)
        (cond (okRows (nl (Abs.rowAt t0 (Int.toNat t4)) 0) && okRows (nl (Abs.rowAt t0 (Int.toNat t4)) 1))
         (cond ((vCert (nl (Abs.rowAt t0 (Int.toNat t4)) 0) (nl (Abs.rowAt t0 (Int.toNat t4)) 1)) != 0)
          (some ([.one (.bool false)], []))
          (cond (inB t4 t0.length)
           (cond (inB t4 t0.length)
            (cond (fits (t3.length + [[Cell.slice 53 (nl (Abs.rowAt t0 (Int.toNat t4)) 0)], [Cell.slice 53 (nl (Abs.rowAt t0 (Int.toNat t4)) 1)]].length))
             (goF E (callOf L23) F12 0 m P12_0 (M12_0 t0 (t3 ++ [[Cell.slice 53 (nl (Abs.rowAt t0 (Int.toNat t4)) 0)], [Cell.slice 53 (nl (Abs.rowAt t0 (Int.toNat t4)) 1)]]) (IntKind.wrap .i64 (t4 + 1))))
             none)
            none)
           none))
         none)
        none))
      none))
    none)
   (cond (okCs t3)
    (some ([.one (.bool (validCs t3))], []))
    none)) := by kernel_rfl

/- elasticstore/elasticstorelaw13.CertPair -/
noncomputable def P4_0 : List AItem := F4.at [.snd, .snd]
def M4_0 (b0 : List (List Cell)) (b0_1 : List (List Cell)) (b1 : List (List Cell)) (b1_1 : List (List Cell)) : St := ⟨[(2, .one (.ptr 0 0)), (3, .one (.ptr 1 0))], [.var [.sl false 53 b0, .sl false 53 b0_1], .var [.sl false 53 b1, .sl false 53 b1_1]]⟩
noncomputable def P4_1 : List AItem := F4.at [.snd, .snd, .snd]
def M4_1 (t4 : Bool) : St := ⟨[(4, .one (.bool t4))], []⟩
theorem e4 (m : Nat) (f1 : List (List Cell)) (t1 : List (List Cell)) (f2 : List (List Cell)) (t2 : List (List Cell)) : runF E (callOf L12) (m + 1) 4 [.agg [.sl false 53 f1, .sl false 53 t1], .agg [.sl false 53 f2, .sl false 53 t2]] [] =
  (cond (okTs [[Cell.slice 53 f1, Cell.slice 53 t1], [Cell.slice 53 f2, Cell.slice 53 t2]])
   (cond (!(validTs [[Cell.slice 53 f1, Cell.slice 53 t1], [Cell.slice 53 f2, Cell.slice 53 t2]]))
    (some ([.one (.bool true)], []))
    (goF E (callOf L12) F4 0 m P4_0 (M4_0 f1 t1 f2 t2)))
   none) := by kernel_rfl
theorem e4_0 (m : Nat) (b0 : List (List Cell)) (b0_1 : List (List Cell)) (b1 : List (List Cell)) (b1_1 : List (List Cell)) : goF E (callOf L12) F4 0 (m + 1) P4_0 (M4_0 b0 b0_1 b1 b1_1) =
  (cond ((okSrt b0 && okSrt b1) && (okSrt b0_1 && okSrt b1_1))
   (cond (okRows b0 && okRows b0_1)
    (cond ((eqT b0 b0_1 b1 b1_1) == (eqCfg b0 b1 && eqCfg b0_1 b1_1))
     (cond (okSrt b0_1 && okSrt b1_1)
      (cond (okLn b0_1 && okLn b1_1)
       (cond ((newB b0_1 b1_1) == (newR b0_1 b1_1))
        (cond (okSrt b0_1 && (okSrt b1_1 && (okCl b0 && (okCl b0_1 && (okCl b1 && okCl b1_1)))))
         (cond (okLn b0_1 && okLn b1_1)
          (cond (okRows (latest b0_1 b1_1 b0 b1) && okRows (latest b0_1 b1_1 b0_1 b1_1))
           (cond (eqCfg (latest b0_1 b1_1 b0 b1) (latestR b0_1 b1_1 b0 b1) && eqCfg (latest b0_1 b1_1 b0_1 b1_1) (latestR b0_1 b1_1 b0_1 b1_1))
            (cond (okSrt b0_1 && (okSrt b1_1 && (okLn b0 && (okCl b0 && okCl b1_1))))
             (cond (okLn b0_1 && (okLn b1_1 && okLn b0))
              (cond (okRows (startT b0 b0_1 b1_1))
               (cond (eqCfg (startT b0 b0_1 b1_1) (startT b0 b0_1 b1_1))
                (goF E (callOf L12) F4 0 m P4_1 (M4_1 true))
                (goF E (callOf L12) F4 0 m P4_1 (M4_1 false)))
               none)
              none)
             none)
            (goF E (callOf L12) F4 0 m P4_1 (M4_1 false)))
           none)
          none)
         none)
        (goF E (callOf L12) F4 0 m P4_1 (M4_1 false)))
       none)
      none)
     (goF E (callOf L12) F4 0 m P4_1 (M4_1 false)))
    none)
   none) := by kernel_rfl
theorem e4_1 (m : Nat) (t4 : Bool) : goF E (callOf L12) F4 0 (m + 1) P4_1 (M4_1 t4) =
  (some ([.one (.bool t4)], [])) := by kernel_rfl

/- elasticstore/elasticstorelaw13.CertOrder -/
theorem e5 (m : Nat) (l : List (List Cell)) (x : Int) (y : Int) (z : Int) : runF E (callOf L4) (m + 1) 5 [.one (.sl false 3 l), .one (.int .i64 x), .one (.int .i64 y), .one (.int .i64 z)] [] =
  (cond (decide (l.length < 4611686018427387904))
   (cond (okCf (gPool l))
    (cond (okCf (gPool l))
     (cond (okCf (gPool l))
      (cond (okSrt (gPart (gPool l) x) && okSrt (gPart (gPool l) x))
       (cond (newB (gPart (gPool l) x) (gPart (gPool l) x))
        (some ([.one (.bool false)], []))
        (cond (okSrt (gPart (gPool l) x) && okSrt (gPart (gPool l) y))
         (cond (newB (gPart (gPool l) x) (gPart (gPool l) y))
          (cond (okSrt (gPart (gPool l) y) && okSrt (gPart (gPool l) x))
           (cond (newB (gPart (gPool l) y) (gPart (gPool l) x))
            (some ([.one (.bool false)], []))
            (cond (okSrt (gPart (gPool l) x) && okSrt (gPart (gPool l) y))
             (cond (newB (gPart (gPool l) x) (gPart (gPool l) y))
              (cond (okSrt (gPart (gPool l) y) && okSrt (gPart (gPool l) z))
               (cond (newB (gPart (gPool l) y) (gPart (gPool l) z))
                (cond (okSrt (gPart (gPool l) x) && okSrt (gPart (gPool l) z))
                 (cond (!(newB (gPart (gPool l) x) (gPart (gPool l) z)))
                  (some ([.one (.bool false)], []))
                  (cond (okSrt (gPart (gPool l) x) && (okSrt (gPart (gPool l) y) && (okCl (gPart (gPart (gPool l) x) (x % 1099511627776 / 64)) && (okCl (gPart (gPool l) x) && (okCl (gPart (gPart (gPool l) y) (y % 1099511627776 / 64)) && okCl (gPart (gPool l) y))))))
                   (cond (okSrt (gPart (gPool l) x) && okSrt (latest (gPart (gPool l) x) (gPart (gPool l) y) (gPart (gPool l) x) (gPart (gPool l) y)))
                    (cond (!(newB (gPart (gPool l) x) (latest (gPart (gPool l) x) (gPart (gPool l) y) (gPart (gPool l) x) (gPart (gPool l) y))))
                     (cond (okSrt (gPart (gPool l) x) && (okSrt (gPart (gPool l) x) && (okCl (gPart (gPart (gPool l) x) (x % 1099511627776 / 64)) && (okCl (gPart (gPool l) x) && (okCl (gPart (gPart (gPool l) x) (x % 1099511627776 / 64)) && okCl (gPart (gPool l) x))))))
                      (cond ((okSrt (latest (gPart (gPool l) x) (gPart (gPool l) x) (gPart (gPart (gPool l) x) (x % 1099511627776 / 64)) (gPart (gPart (gPool l) x) (x % 1099511627776 / 64))) && okSrt (gPart (gPart (gPool l) x) (x % 1099511627776 / 64))) && (okSrt (latest (gPart (gPool l) x) (gPart (gPool l) x) (gPart (gPool l) x) (gPart (gPool l) x)) && okSrt (gPart (gPool l) x)))
                       (cond (eqT (latest (gPart (gPool l) x) (gPart (gPool l) x) (gPart (gPart (gPool l) x) (x % 1099511627776 / 64)) (gPart (gPart (gPool l) x) (x % 1099511627776 / 64))) (latest (gPart (gPool l) x) (gPart (gPool l) x) (gPart (gPool l) x) (gPart (gPool l) x)) (gPart (gPart (gPool l) x) (x % 1099511627776 / 64)) (gPart (gPool l) x))
                        (cond (okSrt (gPart (gPool l) y) && okSrt (gPart (gPool l) x))
                         (cond (okSrt (gPart (gPool l) x) && (okSrt (gPart (gPool l) y) && (okCl (gPart (gPart (gPool l) x) (x % 1099511627776 / 64)) && (okCl (gPart (gPool l) x) && (okCl (gPart (gPart (gPool l) y) (y % 1099511627776 / 64)) && okCl (gPart (gPool l) y))))))
                          (cond (okSrt (latest (gPart (gPool l) x) (gPart (gPool l) y) (gPart (gPool l) x) (gPart (gPool l) y)) && okSrt (gPart (gPool l) x))
                           (cond ((newB (gPart (gPool l) y) (gPart (gPool l) x)) == (newB (latest (gPart (gPool l) x) (gPart (gPool l) y) (gPart (gPool l) x) (gPart (gPool l) y)) (gPart (gPool l) x)))
                            (some ([.one (.bool true)], []))
                            (some ([.one (.bool false)], [])))
                           none)
                          none)
                         none)
                        (some ([.one (.bool false)], [])))
                       none)
                      none)
                     (some ([.one (.bool false)], [])))
                    none)
                   none))
                 none)
                (cond (okSrt (gPart (gPool l) x) && (okSrt (gPart (gPool l) y) && (okCl (gPart (gPart (gPool l) x) (x % 1099511627776 / 64)) && (okCl (gPart (gPool l) x) && (okCl (gPart (gPart (gPool l) y) (y % 1099511627776 / 64)) && okCl (gPart (gPool l) y))))))
                 (cond (okSrt (gPart (gPool l) x) && okSrt (latest (gPart (gPool l) x) (gPart (gPool l) y) (gPart (gPool l) x) (gPart (gPool l) y)))
                  (cond (!(newB (gPart (gPool l) x) (latest (gPart (gPool l) x) (gPart (gPool l) y) (gPart (gPool l) x) (gPart (gPool l) y))))
                   (cond (okSrt (gPart (gPool l) x) && (okSrt (gPart (gPool l) x) && (okCl (gPart (gPart (gPool l) x) (x % 1099511627776 / 64)) && (okCl (gPart (gPool l) x) && (okCl (gPart (gPart (gPool l) x) (x % 1099511627776 / 64)) && okCl (gPart (gPool l) x))))))
                    (cond ((okSrt (latest (gPart (gPool l) x) (gPart (gPool l) x) (gPart (gPart (gPool l) x) (x % 1099511627776 / 64)) (gPart (gPart (gPool l) x) (x % 1099511627776 / 64))) && okSrt (gPart (gPart (gPool l) x) (x % 1099511627776 / 64))) && (okSrt (latest (gPart (gPool l) x) (gPart (gPool l) x) (gPart (gPool l) x) (gPart (gPool l) x)) && okSrt (gPart (gPool l) x)))
                     (cond (eqT (latest (gPart (gPool l) x) (gPart (gPool l) x) (gPart (gPart (gPool l) x) (x % 1099511627776 / 64)) (gPart (gPart (gPool l) x) (x % 1099511627776 / 64))) (latest (gPart (gPool l) x) (gPart (gPool l) x) (gPart (gPool l) x) (gPart (gPool l) x)) (gPart (gPart (gPool l) x) (x % 1099511627776 / 64)) (gPart (gPool l) x))
                      (cond (okSrt (gPart (gPool l) y) && okSrt (gPart (gPool l) x))
                       (cond (okSrt (gPart (gPool l) x) && (okSrt (gPart (gPool l) y) && (okCl (gPart (gPart (gPool l) x) (x % 1099511627776 / 64)) && (okCl (gPart (gPool l) x) && (okCl (gPart (gPart (gPool l) y) (y % 1099511627776 / 64)) && okCl (gPart (gPool l) y))))))
                        (cond (okSrt (latest (gPart (gPool l) x) (gPart (gPool l) y) (gPart (gPool l) x) (gPart (gPool l) y)) && okSrt (gPart (gPool l) x))
                         (cond ((newB (gPart (gPool l) y) (gPart (gPool l) x)) == (newB (latest (gPart (gPool l) x) (gPart (gPool l) y) (gPart (gPool l) x) (gPart (gPool l) y)) (gPart (gPool l) x)))
                          (some ([.one (.bool true)], []))
                          (some ([.one (.bool false)], [])))
                         none)
                        none)
                       none)
                      (some ([.one (.bool false)], [])))
                     none)
                    none)
                   (some ([.one (.bool false)], [])))
                  none)
                 none))
               none)
              (cond (okSrt (gPart (gPool l) x) && (okSrt (gPart (gPool l) y) && (okCl (gPart (gPart (gPool l) x) (x % 1099511627776 / 64)) && (okCl (gPart (gPool l) x) && (okCl (gPart (gPart (gPool l) y) (y % 1099511627776 / 64)) && okCl (gPart (gPool l) y))))))
               (cond (okSrt (gPart (gPool l) x) && okSrt (latest (gPart (gPool l) x) (gPart (gPool l) y) (gPart (gPool l) x) (gPart (gPool l) y)))
                (cond (!(newB (gPart (gPool l) x) (latest (gPart (gPool l) x) (gPart (gPool l) y) (gPart (gPool l) x) (gPart (gPool l) y))))
                 (cond (okSrt (gPart (gPool l) x) && (okSrt (gPart (gPool l) x) && (okCl (gPart (gPart (gPool l) x) (x % 1099511627776 / 64)) && (okCl (gPart (gPool l) x) && (okCl (gPart (gPart (gPool l) x) (x % 1099511627776 / 64)) && okCl (gPart (gPool l) x))))))
                  (cond ((okSrt (latest (gPart (gPool l) x) (gPart (gPool l) x) (gPart (gPart (gPool l) x) (x % 1099511627776 / 64)) (gPart (gPart (gPool l) x) (x % 1099511627776 / 64))) && okSrt (gPart (gPart (gPool l) x) (x % 1099511627776 / 64))) && (okSrt (latest (gPart (gPool l) x) (gPart (gPool l) x) (gPart (gPool l) x) (gPart (gPool l) x)) && okSrt (gPart (gPool l) x)))
                   (cond (eqT (latest (gPart (gPool l) x) (gPart (gPool l) x) (gPart (gPart (gPool l) x) (x % 1099511627776 / 64)) (gPart (gPart (gPool l) x) (x % 1099511627776 / 64))) (latest (gPart (gPool l) x) (gPart (gPool l) x) (gPart (gPool l) x) (gPart (gPool l) x)) (gPart (gPart (gPool l) x) (x % 1099511627776 / 64)) (gPart (gPool l) x))
                    (cond (okSrt (gPart (gPool l) y) && okSrt (gPart (gPool l) x))
                     (cond (okSrt (gPart (gPool l) x) && (okSrt (gPart (gPool l) y) && (okCl (gPart (gPart (gPool l) x) (x % 1099511627776 / 64)) && (okCl (gPart (gPool l) x) && (okCl (gPart (gPart (gPool l) y) (y % 1099511627776 / 64)) && okCl (gPart (gPool l) y))))))
                      (cond (okSrt (latest (gPart (gPool l) x) (gPart (gPool l) y) (gPart (gPool l) x) (gPart (gPool l) y)) && okSrt (gPart (gPool l) x))
                       (cond ((newB (gPart (gPool l) y) (gPart (gPool l) x)) == (newB (latest (gPart (gPool l) x) (gPart (gPool l) y) (gPart (gPool l) x) (gPart (gPool l) y)) (gPart (gPool l) x)))
                        (some ([.one (.bool true)], []))
                        (some ([.one (.bool false)], [])))
                       none)
                      none)
                     none)
                    (some ([.one (.bool false)], [])))
                   none)
                  none)
                 (some ([.one (.bool false)], [])))
                none)
               none))
             none))
           none)
          (cond (okSrt (gPart (gPool l) x) && okSrt (gPart (gPool l) y))
           (cond (newB (gPart (gPool l) x) (gPart (gPool l) y))
            (cond (okSrt (gPart (gPool l) y) && okSrt (gPart (gPool l) z))
             (cond (newB (gPart (gPool l) y) (gPart (gPool l) z))
              (cond (okSrt (gPart (gPool l) x) && okSrt (gPart (gPool l) z))
               (cond (!(newB (gPart (gPool l) x) (gPart (gPool l) z)))
                (some ([.one (.bool false)], []))
                (cond (okSrt (gPart (gPool l) x) && (okSrt (gPart (gPool l) y) && (okCl (gPart (gPart (gPool l) x) (x % 1099511627776 / 64)) && (okCl (gPart (gPool l) x) && (okCl (gPart (gPart (gPool l) y) (y % 1099511627776 / 64)) && okCl (gPart (gPool l) y))))))
                 (cond (okSrt (gPart (gPool l) x) && okSrt (latest (gPart (gPool l) x) (gPart (gPool l) y) (gPart (gPool l) x) (gPart (gPool l) y)))
                  (cond (!(newB (gPart (gPool l) x) (latest (gPart (gPool l) x) (gPart (gPool l) y) (gPart (gPool l) x) (gPart (gPool l) y))))
                   (cond (okSrt (gPart (gPool l) x) && (okSrt (gPart (gPool l) x) && (okCl (gPart (gPart (gPool l) x) (x % 1099511627776 / 64)) && (okCl (gPart (gPool l) x) && (okCl (gPart (gPart (gPool l) x) (x % 1099511627776 / 64)) && okCl (gPart (gPool l) x))))))
                    (cond ((okSrt (latest (gPart (gPool l) x) (gPart (gPool l) x) (gPart (gPart (gPool l) x) (x % 1099511627776 / 64)) (gPart (gPart (gPool l) x) (x % 1099511627776 / 64))) && okSrt (gPart (gPart (gPool l) x) (x % 1099511627776 / 64))) && (okSrt (latest (gPart (gPool l) x) (gPart (gPool l) x) (gPart (gPool l) x) (gPart (gPool l) x)) && okSrt (gPart (gPool l) x)))
                     (cond (eqT (latest (gPart (gPool l) x) (gPart (gPool l) x) (gPart (gPart (gPool l) x) (x % 1099511627776 / 64)) (gPart (gPart (gPool l) x) (x % 1099511627776 / 64))) (latest (gPart (gPool l) x) (gPart (gPool l) x) (gPart (gPool l) x) (gPart (gPool l) x)) (gPart (gPart (gPool l) x) (x % 1099511627776 / 64)) (gPart (gPool l) x))
                      (cond (okSrt (gPart (gPool l) y) && okSrt (gPart (gPool l) x))
                       (cond (okSrt (gPart (gPool l) x) && (okSrt (gPart (gPool l) y) && (okCl (gPart (gPart (gPool l) x) (x % 1099511627776 / 64)) && (okCl (gPart (gPool l) x) && (okCl (gPart (gPart (gPool l) y) (y % 1099511627776 / 64)) && okCl (gPart (gPool l) y))))))
                        (cond (okSrt (latest (gPart (gPool l) x) (gPart (gPool l) y) (gPart (gPool l) x) (gPart (gPool l) y)) && okSrt (gPart (gPool l) x))
                         (cond ((newB (gPart (gPool l) y) (gPart (gPool l) x)) == (newB (latest (gPart (gPool l) x) (gPart (gPool l) y) (gPart (gPool l) x) (gPart (gPool l) y)) (gPart (gPool l) x)))
                          (some ([.one (.bool true)], []))
                          (some ([.one (.bool false)], [])))
                         none)
                        none)
                       none)
                      (some ([.one (.bool false)], [])))
                     none)
                    none)
                   (some ([.one (.bool false)], [])))
                  none)
                 none))
               none)
              (cond (okSrt (gPart (gPool l) x) && (okSrt (gPart (gPool l) y) && (okCl (gPart (gPart (gPool l) x) (x % 1099511627776 / 64)) && (okCl (gPart (gPool l) x) && (okCl (gPart (gPart (gPool l) y) (y % 1099511627776 / 64)) && okCl (gPart (gPool l) y))))))
               (cond (okSrt (gPart (gPool l) x) && okSrt (latest (gPart (gPool l) x) (gPart (gPool l) y) (gPart (gPool l) x) (gPart (gPool l) y)))
                (cond (!(newB (gPart (gPool l) x) (latest (gPart (gPool l) x) (gPart (gPool l) y) (gPart (gPool l) x) (gPart (gPool l) y))))
                 (cond (okSrt (gPart (gPool l) x) && (okSrt (gPart (gPool l) x) && (okCl (gPart (gPart (gPool l) x) (x % 1099511627776 / 64)) && (okCl (gPart (gPool l) x) && (okCl (gPart (gPart (gPool l) x) (x % 1099511627776 / 64)) && okCl (gPart (gPool l) x))))))
                  (cond ((okSrt (latest (gPart (gPool l) x) (gPart (gPool l) x) (gPart (gPart (gPool l) x) (x % 1099511627776 / 64)) (gPart (gPart (gPool l) x) (x % 1099511627776 / 64))) && okSrt (gPart (gPart (gPool l) x) (x % 1099511627776 / 64))) && (okSrt (latest (gPart (gPool l) x) (gPart (gPool l) x) (gPart (gPool l) x) (gPart (gPool l) x)) && okSrt (gPart (gPool l) x)))
                   (cond (eqT (latest (gPart (gPool l) x) (gPart (gPool l) x) (gPart (gPart (gPool l) x) (x % 1099511627776 / 64)) (gPart (gPart (gPool l) x) (x % 1099511627776 / 64))) (latest (gPart (gPool l) x) (gPart (gPool l) x) (gPart (gPool l) x) (gPart (gPool l) x)) (gPart (gPart (gPool l) x) (x % 1099511627776 / 64)) (gPart (gPool l) x))
                    (cond (okSrt (gPart (gPool l) y) && okSrt (gPart (gPool l) x))
                     (cond (okSrt (gPart (gPool l) x) && (okSrt (gPart (gPool l) y) && (okCl (gPart (gPart (gPool l) x) (x % 1099511627776 / 64)) && (okCl (gPart (gPool l) x) && (okCl (gPart (gPart (gPool l) y) (y % 1099511627776 / 64)) && okCl (gPart (gPool l) y))))))
                      (cond (okSrt (latest (gPart (gPool l) x) (gPart (gPool l) y) (gPart (gPool l) x) (gPart (gPool l) y)) && okSrt (gPart (gPool l) x))
                       (cond ((newB (gPart (gPool l) y) (gPart (gPool l) x)) == (newB (latest (gPart (gPool l) x) (gPart (gPool l) y) (gPart (gPool l) x) (gPart (gPool l) y)) (gPart (gPool l) x)))
                        (some ([.one (.bool true)], []))
                        (some ([.one (.bool false)], [])))
                       none)
                      none)
                     none)
                    (some ([.one (.bool false)], [])))
                   none)
                  none)
                 (some ([.one (.bool false)], [])))
                none)
               none))
             none)
            (cond (okSrt (gPart (gPool l) x) && (okSrt (gPart (gPool l) y) && (okCl (gPart (gPart (gPool l) x) (x % 1099511627776 / 64)) && (okCl (gPart (gPool l) x) && (okCl (gPart (gPart (gPool l) y) (y % 1099511627776 / 64)) && okCl (gPart (gPool l) y))))))
             (cond (okSrt (gPart (gPool l) x) && okSrt (latest (gPart (gPool l) x) (gPart (gPool l) y) (gPart (gPool l) x) (gPart (gPool l) y)))
              (cond (!(newB (gPart (gPool l) x) (latest (gPart (gPool l) x) (gPart (gPool l) y) (gPart (gPool l) x) (gPart (gPool l) y))))
               (cond (okSrt (gPart (gPool l) x) && (okSrt (gPart (gPool l) x) && (okCl (gPart (gPart (gPool l) x) (x % 1099511627776 / 64)) && (okCl (gPart (gPool l) x) && (okCl (gPart (gPart (gPool l) x) (x % 1099511627776 / 64)) && okCl (gPart (gPool l) x))))))
                (cond ((okSrt (latest (gPart (gPool l) x) (gPart (gPool l) x) (gPart (gPart (gPool l) x) (x % 1099511627776 / 64)) (gPart (gPart (gPool l) x) (x % 1099511627776 / 64))) && okSrt (gPart (gPart (gPool l) x) (x % 1099511627776 / 64))) && (okSrt (latest (gPart (gPool l) x) (gPart (gPool l) x) (gPart (gPool l) x) (gPart (gPool l) x)) && okSrt (gPart (gPool l) x)))
                 (cond (eqT (latest (gPart (gPool l) x) (gPart (gPool l) x) (gPart (gPart (gPool l) x) (x % 1099511627776 / 64)) (gPart (gPart (gPool l) x) (x % 1099511627776 / 64))) (latest (gPart (gPool l) x) (gPart (gPool l) x) (gPart (gPool l) x) (gPart (gPool l) x)) (gPart (gPart (gPool l) x) (x % 1099511627776 / 64)) (gPart (gPool l) x))
                  (cond (okSrt (gPart (gPool l) y) && okSrt (gPart (gPool l) x))
                   (cond (okSrt (gPart (gPool l) x) && (okSrt (gPart (gPool l) y) && (okCl (gPart (gPart (gPool l) x) (x % 1099511627776 / 64)) && (okCl (gPart (gPool l) x) && (okCl (gPart (gPart (gPool l) y) (y % 1099511627776 / 64)) && okCl (gPart (gPool l) y))))))
                    (cond (okSrt (latest (gPart (gPool l) x) (gPart (gPool l) y) (gPart (gPool l) x) (gPart (gPool l) y)) && okSrt (gPart (gPool l) x))
                     (cond ((newB (gPart (gPool l) y) (gPart (gPool l) x)) == (newB (latest (gPart (gPool l) x) (gPart (gPool l) y) (gPart (gPool l) x) (gPart (gPool l) y)) (gPart (gPool l) x)))
                      (some ([.one (.bool true)], []))
                      (some ([.one (.bool false)], [])))
                     none)
                    none)
                   none)
                  (some ([.one (.bool false)], [])))
                 none)
                none)
               (some ([.one (.bool false)], [])))
              none)
             none))
           none))
         none))
       none)
      none)
     none)
    none)
   none) := by kernel_rfl

/- elasticstore/elasticstorelaw13.CertChain -/
theorem e6 (m : Nat) (l : List (List Cell)) (x : Int) (y : Int) (z : Int) : runF E (callOf L5) (m + 1) 6 [.one (.sl false 3 l), .one (.int .i64 x), .one (.int .i64 y), .one (.int .i64 z)] [] =
  (cond (decide (l.length < 4611686018427387904))
   (cond (okCf (gPool l))
    (cond (okCf (gPart (gPool l) x))
     (cond (okCf (gPart (gPart (gPool l) x) y))
      (cond (okSrt (gPart (gPart (gPart (gPool l) x) y) z) && (okSrt (gPart (gPart (gPool l) x) y) && (okCl ([] : List (List Cell)) && (okCl (gPart (gPart (gPart (gPool l) x) y) z) && (okCl ([] : List (List Cell)) && okCl (gPart (gPart (gPool l) x) y))))))
       (cond (okRows (latest (gPart (gPart (gPart (gPool l) x) y) z) (gPart (gPart (gPool l) x) y) (gPart (gPart (gPart (gPool l) x) y) z) (gPart (gPart (gPool l) x) y)))
        (cond (!(eqCfg (latest (gPart (gPart (gPart (gPool l) x) y) z) (gPart (gPart (gPool l) x) y) (gPart (gPart (gPart (gPool l) x) y) z) (gPart (gPart (gPool l) x) y)) (gPart (gPart (gPool l) x) y)))
         (some ([.one (.bool false)], []))
         (cond (okSrt (gPart (gPart (gPool l) x) y) && (okSrt (gPart (gPart (gPart (gPool l) x) y) z) && (okCl ([] : List (List Cell)) && (okCl (gPart (gPart (gPool l) x) y) && (okCl ([] : List (List Cell)) && okCl (gPart (gPart (gPart (gPool l) x) y) z))))))
          (cond (okRows (latest (gPart (gPart (gPool l) x) y) (gPart (gPart (gPart (gPool l) x) y) z) (gPart (gPart (gPool l) x) y) (gPart (gPart (gPart (gPool l) x) y) z)))
           (cond (!(eqCfg (latest (gPart (gPart (gPool l) x) y) (gPart (gPart (gPart (gPool l) x) y) z) (gPart (gPart (gPool l) x) y) (gPart (gPart (gPart (gPool l) x) y) z)) (gPart (gPart (gPool l) x) y)))
            (some ([.one (.bool false)], []))
            (cond (okSrt (gPart (gPart (gPart (gPool l) x) y) z) && (okSrt (gPart (gPart (gPool l) x) y) && (okCl ([] : List (List Cell)) && (okCl (gPart (gPart (gPart (gPool l) x) y) z) && (okCl ([] : List (List Cell)) && okCl (gPart (gPart (gPool l) x) y))))))
             (cond (okSrt (latest (gPart (gPart (gPart (gPool l) x) y) z) (gPart (gPart (gPool l) x) y) (gPart (gPart (gPart (gPool l) x) y) z) (gPart (gPart (gPool l) x) y)) && (okSrt (gPart (gPool l) x) && (okCl (latest (gPart (gPart (gPart (gPool l) x) y) z) (gPart (gPart (gPool l) x) y) ([] : List (List Cell)) ([] : List (List Cell))) && (okCl (latest (gPart (gPart (gPart (gPool l) x) y) z) (gPart (gPart (gPool l) x) y) (gPart (gPart (gPart (gPool l) x) y) z) (gPart (gPart (gPool l) x) y)) && (okCl (gPart (gPart (gPool l) x) (x % 1099511627776 / 64)) && okCl (gPart (gPool l) x))))))
              (cond (okSrt (gPart (gPart (gPool l) x) y) && (okSrt (gPart (gPool l) x) && (okCl ([] : List (List Cell)) && (okCl (gPart (gPart (gPool l) x) y) && (okCl (gPart (gPart (gPool l) x) (x % 1099511627776 / 64)) && okCl (gPart (gPool l) x))))))
               (cond (okSrt (gPart (gPart (gPart (gPool l) x) y) z) && (okSrt (latest (gPart (gPart (gPool l) x) y) (gPart (gPool l) x) (gPart (gPart (gPool l) x) y) (gPart (gPool l) x)) && (okCl ([] : List (List Cell)) && (okCl (gPart (gPart (gPart (gPool l) x) y) z) && (okCl (latest (gPart (gPart (gPool l) x) y) (gPart (gPool l) x) ([] : List (List Cell)) (gPart (gPart (gPool l) x) (x % 1099511627776 / 64))) && okCl (latest (gPart (gPart (gPool l) x) y) (gPart (gPool l) x) (gPart (gPart (gPool l) x) y) (gPart (gPool l) x)))))))
                (cond (okRows (latest (latest (gPart (gPart (gPart (gPool l) x) y) z) (gPart (gPart (gPool l) x) y) (gPart (gPart (gPart (gPool l) x) y) z) (gPart (gPart (gPool l) x) y)) (gPart (gPool l) x) (latest (gPart (gPart (gPart (gPool l) x) y) z) (gPart (gPart (gPool l) x) y) (gPart (gPart (gPart (gPool l) x) y) z) (gPart (gPart (gPool l) x) y)) (gPart (gPool l) x)))
                 (cond (eqCfg (latest (latest (gPart (gPart (gPart (gPool l) x) y) z) (gPart (gPart (gPool l) x) y) (gPart (gPart (gPart (gPool l) x) y) z) (gPart (gPart (gPool l) x) y)) (gPart (gPool l) x) (latest (gPart (gPart (gPart (gPool l) x) y) z) (gPart (gPart (gPool l) x) y) (gPart (gPart (gPart (gPool l) x) y) z) (gPart (gPart (gPool l) x) y)) (gPart (gPool l) x)) (latest (gPart (gPart (gPart (gPool l) x) y) z) (latest (gPart (gPart (gPool l) x) y) (gPart (gPool l) x) (gPart (gPart (gPool l) x) y) (gPart (gPool l) x)) (gPart (gPart (gPart (gPool l) x) y) z) (latest (gPart (gPart (gPool l) x) y) (gPart (gPool l) x) (gPart (gPart (gPool l) x) y) (gPart (gPool l) x))))
                  (cond (okSrt (gPart (gPool l) x) && (okSrt (gPart (gPart (gPart (gPool l) x) y) z) && (okCl (gPart (gPart (gPool l) x) (x % 1099511627776 / 64)) && (okCl (gPart (gPool l) x) && (okCl ([] : List (List Cell)) && okCl (gPart (gPart (gPart (gPool l) x) y) z))))))
                   (cond (okSrt (latest (gPart (gPool l) x) (gPart (gPart (gPart (gPool l) x) y) z) (gPart (gPool l) x) (gPart (gPart (gPart (gPool l) x) y) z)) && (okSrt (gPart (gPart (gPool l) x) y) && (okCl (latest (gPart (gPool l) x) (gPart (gPart (gPart (gPool l) x) y) z) (gPart (gPart (gPool l) x) (x % 1099511627776 / 64)) ([] : List (List Cell))) && (okCl (latest (gPart (gPool l) x) (gPart (gPart (gPart (gPool l) x) y) z) (gPart (gPool l) x) (gPart (gPart (gPart (gPool l) x) y) z)) && (okCl ([] : List (List Cell)) && okCl (gPart (gPart (gPool l) x) y))))))
                    (cond (okRows (latest (latest (gPart (gPool l) x) (gPart (gPart (gPart (gPool l) x) y) z) (gPart (gPool l) x) (gPart (gPart (gPart (gPool l) x) y) z)) (gPart (gPart (gPool l) x) y) (latest (gPart (gPool l) x) (gPart (gPart (gPart (gPool l) x) y) z) (gPart (gPool l) x) (gPart (gPart (gPart (gPool l) x) y) z)) (gPart (gPart (gPool l) x) y)))
                     (cond (eqCfg (latest (latest (gPart (gPool l) x) (gPart (gPart (gPart (gPool l) x) y) z) (gPart (gPool l) x) (gPart (gPart (gPart (gPool l) x) y) z)) (gPart (gPart (gPool l) x) y) (latest (gPart (gPool l) x) (gPart (gPart (gPart (gPool l) x) y) z) (gPart (gPool l) x) (gPart (gPart (gPart (gPool l) x) y) z)) (gPart (gPart (gPool l) x) y)) (gPart (gPool l) x))
                      (some ([.one (.bool true)], []))
                      (some ([.one (.bool false)], [])))
                     none)
                    none)
                   none)
                  (some ([.one (.bool false)], [])))
                 none)
                none)
               none)
              none)
             none))
           none)
          none))
        none)
       none)
      none)
     none)
    none)
   none) := by kernel_rfl

/- elasticstore/elasticstorelaw13.CertStart -/
theorem e7 (m : Nat) (l : List (List Cell)) (x : Int) (y : Int) : runF E (callOf L6) (m + 1) 7 [.one (.sl false 3 l), .one (.int .i64 x), .one (.int .i64 y)] [] =
  (cond (decide (l.length < 4611686018427387904))
   (cond (okCf (gPool l))
    (cond (okCf (gPool l))
     (cond (okSrt (gPart (gPool l) x) && (okSrt (gPart (gPool l) y) && (okLn (gPart (gPart (gPool l) x) (x % 1099511627776 / 64)) && (okCl (gPart (gPart (gPool l) x) (x % 1099511627776 / 64)) && okCl (gPart (gPool l) y)))))
      (cond (okLn (gPart (gPool l) x) && okLn (startT (gPart (gPart (gPool l) x) (x % 1099511627776 / 64)) (gPart (gPool l) x) (gPart (gPool l) y)))
       (cond (!(contK (gPart (gPool l) x) (startT (gPart (gPart (gPool l) x) (x % 1099511627776 / 64)) (gPart (gPool l) x) (gPart (gPool l) y))))
        (some ([.one (.bool false)], []))
        (cond (okLn (startT (gPart (gPart (gPool l) x) (x % 1099511627776 / 64)) (gPart (gPool l) x) (gPart (gPool l) y)) && okLn (gPart (gPart (gPool l) x) (x % 1099511627776 / 64)))
         (cond (!(contK (startT (gPart (gPart (gPool l) x) (x % 1099511627776 / 64)) (gPart (gPool l) x) (gPart (gPool l) y)) (gPart (gPart (gPool l) x) (x % 1099511627776 / 64))))
          (some ([.one (.bool false)], []))
          (cond (okRows (startT (gPart (gPart (gPool l) x) (x % 1099511627776 / 64)) (gPart (gPool l) x) (gPart (gPool l) y)))
           (cond (!(eqCfg (startT (gPart (gPart (gPool l) x) (x % 1099511627776 / 64)) (gPart (gPool l) x) (gPart (gPool l) y)) (gPart (gPart (gPool l) x) (x % 1099511627776 / 64))))
            (cond (okRows (startT (gPart (gPart (gPool l) x) (x % 1099511627776 / 64)) (gPart (gPool l) x) (gPart (gPool l) y)))
             (cond (!(eqCfg (startT (gPart (gPart (gPool l) x) (x % 1099511627776 / 64)) (gPart (gPool l) x) (gPart (gPool l) y)) (gPart (gPool l) y)))
              (some ([.one (.bool false)], []))
              (cond (okLn (gPart (gPool l) x) && okLn (gPart (gPool l) y))
               (cond (!(contK (gPart (gPool l) x) (gPart (gPool l) y)))
                (some ([.one (.bool true)], []))
                (cond (okLn (gPart (gPool l) y) && okLn (gPart (gPart (gPool l) x) (x % 1099511627776 / 64)))
                 (cond (!(contK (gPart (gPool l) y) (gPart (gPart (gPool l) x) (x % 1099511627776 / 64))))
                  (some ([.one (.bool true)], []))
                  (cond (okRows (startT (gPart (gPart (gPool l) x) (x % 1099511627776 / 64)) (gPart (gPool l) x) (gPart (gPool l) y)))
                   (cond (eqCfg (startT (gPart (gPart (gPool l) x) (x % 1099511627776 / 64)) (gPart (gPool l) x) (gPart (gPool l) y)) (gPart (gPool l) y))
                    (some ([.one (.bool true)], []))
                    (some ([.one (.bool false)], [])))
                   none))
                 none))
               none))
             none)
            (cond (okLn (gPart (gPool l) x) && okLn (gPart (gPool l) y))
             (cond (!(contK (gPart (gPool l) x) (gPart (gPool l) y)))
              (some ([.one (.bool true)], []))
              (cond (okLn (gPart (gPool l) y) && okLn (gPart (gPart (gPool l) x) (x % 1099511627776 / 64)))
               (cond (!(contK (gPart (gPool l) y) (gPart (gPart (gPool l) x) (x % 1099511627776 / 64))))
                (some ([.one (.bool true)], []))
                (cond (okRows (startT (gPart (gPart (gPool l) x) (x % 1099511627776 / 64)) (gPart (gPool l) x) (gPart (gPool l) y)))
                 (cond (eqCfg (startT (gPart (gPart (gPool l) x) (x % 1099511627776 / 64)) (gPart (gPool l) x) (gPart (gPool l) y)) (gPart (gPool l) y))
                  (some ([.one (.bool true)], []))
                  (some ([.one (.bool false)], [])))
                 none))
               none))
             none))
           none))
         none))
       none)
      none)
     none)
    none)
   none) := by kernel_rfl

end Go.Proofs.Ytdgijohgncchiaa
