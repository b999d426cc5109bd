/-
  What each function does at each place where a run of it may be cut: printed by a program of our own.
-/
import Derived.Test.YtkfniijfenkocaaTab
namespace Go.Proofs.Ytkfniijfenkocaa
open Go.Abs
set_option maxRecDepth 20000

/- elasticstore/state.Validate -/
noncomputable def P13_0 : List AItem := F13.at [.snd, .fst, .snd, .sub, .head]
def M13_0 (t0 : List (List Cell)) (t6 : List (List Cell)) (t7 : Int) (t8 : Int) : St := ⟨[(0, .one (.sl false 43 t0)), (6, .one (.sl false 43 t6)), (7, .one (.int .i64 t7)), (8, .one (.int .i64 t8))], []⟩
theorem e13 (m : Nat) (c : List (List Cell)) : runF E (callOf L75) (m + 1) 13 [.one (.sl false 43 c)] [] =
  (goF E (callOf L75) F13 0 m P13_0 (M13_0 c c (c.length : Int) 0)) := by kernel_rfl
theorem e13_0 (m : Nat) (t0 : List (List Cell)) (t6 : List (List Cell)) (t7 : Int) (t8 : Int) : goF E (callOf L75) F13 0 (m + 1) P13_0 (M13_0 t0 t6 t7 t8) =
  (cond (decide (t8 < t7))
   (cond (inB t8 t6.length)
    (cond ((vUpd (nr (Abs.rowAt t6 (Int.toNat t8)) 0) (nr (Abs.rowAt t6 (Int.toNat t8)) 1) (nr (Abs.rowAt t6 (Int.toNat t8)) 2) (nl (Abs.rowAt t6 (Int.toNat t8)) 3)) != 0)
     (some ([.one (.int .i64 (vUpd (nr (Abs.rowAt t6 (Int.toNat t8)) 0) (nr (Abs.rowAt t6 (Int.toNat t8)) 1) (nr (Abs.rowAt t6 (Int.toNat t8)) 2) (nl (Abs.rowAt t6 (Int.toNat t8)) 3)))], []))
     (cond (decide (t8 > 0))
      (cond (inB (IntKind.wrap .i64 (t8 - 1)) t0.length)
       (cond (decide ((cmpU (nr (Abs.rowAt t6 (Int.toNat t8)) 0) (nr (Abs.rowAt t6 (Int.toNat t8)) 1) (nr (Abs.rowAt t0 (Int.toNat (IntKind.wrap .i64 (t8 - 1)))) 0) (nr (Abs.rowAt t0 (Int.toNat (IntKind.wrap .i64 (t8 - 1)))) 1)) ≤ 0))
        (some ([.one (.int .i64 7)], []))
        (cond (decide ((nr (Abs.rowAt t6 (Int.toNat t8)) 1) > 1))
         (cond (t8 == 0)
          (some ([.one (.int .i64 8)], []))
          (cond (inB (IntKind.wrap .i64 (t8 - 1)) t0.length)
           (cond ((nr (Abs.rowAt t0 (Int.toNat (IntKind.wrap .i64 (t8 - 1)))) 0) != (nr (Abs.rowAt t6 (Int.toNat t8)) 0))
            (some ([.one (.int .i64 8)], []))
            (cond (inB (IntKind.wrap .i64 (t8 - 1)) t0.length)
             (cond ((nr (Abs.rowAt t0 (Int.toNat (IntKind.wrap .i64 (t8 - 1)))) 1) != (IntKind.wrap .i64 ((nr (Abs.rowAt t6 (Int.toNat t8)) 1) - 1)))
              (some ([.one (.int .i64 8)], []))
              (goF E (callOf L75) F13 0 m P13_0 (M13_0 t0 t6 t7 (IntKind.wrap .i64 (t8 + 1)))))
             none))
           none))
         (goF E (callOf L75) F13 0 m P13_0 (M13_0 t0 t6 t7 (IntKind.wrap .i64 (t8 + 1))))))
       none)
      (cond (decide ((nr (Abs.rowAt t6 (Int.toNat t8)) 1) > 1))
       (cond (t8 == 0)
        (some ([.one (.int .i64 8)], []))
        (cond (inB (IntKind.wrap .i64 (t8 - 1)) t0.length)
         (cond ((nr (Abs.rowAt t0 (Int.toNat (IntKind.wrap .i64 (t8 - 1)))) 0) != (nr (Abs.rowAt t6 (Int.toNat t8)) 0))
          (some ([.one (.int .i64 8)], []))
          (cond (inB (IntKind.wrap .i64 (t8 - 1)) t0.length)
           (cond ((nr (Abs.rowAt t0 (Int.toNat (IntKind.wrap .i64 (t8 - 1)))) 1) != (IntKind.wrap .i64 ((nr (Abs.rowAt t6 (Int.toNat t8)) 1) - 1)))
            (some ([.one (.int .i64 8)], []))
            (goF E (callOf L75) F13 0 m P13_0 (M13_0 t0 t6 t7 (IntKind.wrap .i64 (t8 + 1)))))
           none))
         none))
       (goF E (callOf L75) F13 0 m P13_0 (M13_0 t0 t6 t7 (IntKind.wrap .i64 (t8 + 1)))))))
    none)
   (some ([.one (.int .i64 0)], []))) := by kernel_rfl

/- elasticstore/elasticstoreref14.ValidateState -/
noncomputable def P14_0 : List AItem := F14.at [.snd, .fst, .snd, .sub, .head]
def M14_0 (t0 : List (List Cell)) (t3 : Int) : St := ⟨[(0, .one (.sl false 43 t0)), (3, .one (.int .i64 t3))], []⟩
theorem e14 (m : Nat) (c : List (List Cell)) : runF E (callOf L13) (m + 1) 14 [.one (.sl false 43 c)] [] =
  (goF E (callOf L13) F14 0 m P14_0 (M14_0 c 0)) := by kernel_rfl
theorem e14_0 (m : Nat) (t0 : List (List Cell)) (t3 : Int) : goF E (callOf L13) F14 0 (m + 1) P14_0 (M14_0 t0 t3) =
  (cond (decide (t3 < (t0.length : Int)))
   (cond (inB t3 t0.length)
    (cond ((vUpd (nr (Abs.rowAt t0 (Int.toNat t3)) 0) (nr (Abs.rowAt t0 (Int.toNat t3)) 1) (nr (Abs.rowAt t0 (Int.toNat t3)) 2) (nl (Abs.rowAt t0 (Int.toNat t3)) 3)) != 0)
     (some ([.one (.int .i64 (vUpd (nr (Abs.rowAt t0 (Int.toNat t3)) 0) (nr (Abs.rowAt t0 (Int.toNat t3)) 1) (nr (Abs.rowAt t0 (Int.toNat t3)) 2) (nl (Abs.rowAt t0 (Int.toNat t3)) 3)))], []))
     (cond (decide (t3 > 0))
      (cond (inB (IntKind.wrap .i64 (t3 - 1)) t0.length)
       (cond (inB t3 t0.length)
        (cond (decide ((cmpU (nr (Abs.rowAt t0 (Int.toNat (IntKind.wrap .i64 (t3 - 1)))) 0) (nr (Abs.rowAt t0 (Int.toNat (IntKind.wrap .i64 (t3 - 1)))) 1) (nr (Abs.rowAt t0 (Int.toNat t3)) 0) (nr (Abs.rowAt t0 (Int.toNat t3)) 1)) ≥ 0))
         (some ([.one (.int .i64 7)], []))
         (cond (inB t3 t0.length)
          (cond (decide ((nr (Abs.rowAt t0 (Int.toNat t3)) 1) > 1))
           (cond (t3 == 0)
            (some ([.one (.int .i64 8)], []))
            (cond (inB (IntKind.wrap .i64 (t3 - 1)) t0.length)
             (cond (inB t3 t0.length)
              (cond ((nr (Abs.rowAt t0 (Int.toNat (IntKind.wrap .i64 (t3 - 1)))) 0) != (nr (Abs.rowAt t0 (Int.toNat t3)) 0))
               (some ([.one (.int .i64 8)], []))
               (cond (inB (IntKind.wrap .i64 (t3 - 1)) t0.length)
                (cond (inB t3 t0.length)
                 (cond ((nr (Abs.rowAt t0 (Int.toNat (IntKind.wrap .i64 (t3 - 1)))) 1) != (IntKind.wrap .i64 ((nr (Abs.rowAt t0 (Int.toNat t3)) 1) - 1)))
                  (some ([.one (.int .i64 8)], []))
                  (goF E (callOf L13) F14 0 m P14_0 (M14_0 t0 (IntKind.wrap .i64 (t3 + 1)))))
                 none)
                none))
              none)
             none))
           (goF E (callOf L13) F14 0 m P14_0 (M14_0 t0 (IntKind.wrap .i64 (t3 + 1)))))
          none))
        none)
       none)
      (cond (inB t3 t0.length)
       (cond (decide ((nr (Abs.rowAt t0 (Int.toNat t3)) 1) > 1))
        (cond (t3 == 0)
         (some ([.one (.int .i64 8)], []))
         (cond (inB (IntKind.wrap .i64 (t3 - 1)) t0.length)
          (cond (inB t3 t0.length)
           (cond ((nr (Abs.rowAt t0 (Int.toNat (IntKind.wrap .i64 (t3 - 1)))) 0) != (nr (Abs.rowAt t0 (Int.toNat t3)) 0))
            (some ([.one (.int .i64 8)], []))
            (cond (inB (IntKind.wrap .i64 (t3 - 1)) t0.length)
             (cond (inB t3 t0.length)
              (cond ((nr (Abs.rowAt t0 (Int.toNat (IntKind.wrap .i64 (t3 - 1)))) 1) != (IntKind.wrap .i64 ((nr (Abs.rowAt t0 (Int.toNat t3)) 1) - 1)))
               (some ([.one (.int .i64 8)], []))
               (goF E (callOf L13) F14 0 m P14_0 (M14_0 t0 (IntKind.wrap .i64 (t3 + 1)))))
              none)
             none))
           none)
          none))
        (goF E (callOf L13) F14 0 m P14_0 (M14_0 t0 (IntKind.wrap .i64 (t3 + 1)))))
       none)))
    none)
   (some ([.one (.int .i64 0)], []))) := by kernel_rfl

/- elasticstore/elasticstoreref14.EqualState -/
noncomputable def P22_0 : List AItem := F22.at [.snd, .snd, .fst, .snd, .sub, .head]
def M22_0 (t0 : List (List Cell)) (t1 : List (List Cell)) (t5 : Int) : St := ⟨[(0, .one (.sl false 43 t0)), (1, .one (.sl false 43 t1)), (5, .one (.int .i64 t5))], []⟩
theorem e22 (m : Nat) (c : List (List Cell)) (d : List (List Cell)) : runF E (callOf L14) (m + 1) 22 [.one (.sl false 43 c), .one (.sl false 43 d)] [] =
  (cond ((c.length : Int) != (d.length : Int))
   (some ([.one (.bool false)], []))
   (goF E (callOf L14) F22 0 m P22_0 (M22_0 c d 0))) := by kernel_rfl
theorem e22_0 (m : Nat) (t0 : List (List Cell)) (t1 : List (List Cell)) (t5 : Int) : goF E (callOf L14) F22 0 (m + 1) P22_0 (M22_0 t0 t1 t5) =
  (cond (decide (t5 < (t0.length : Int)))
   (cond (inB t5 t0.length)
    (cond (inB t5 t1.length)
     (cond (decide ((nl (Abs.rowAt t0 (Int.toNat t5)) 3).length < 4611686018427387904))
      (cond (!(eqU (nr (Abs.rowAt t0 (Int.toNat t5)) 0) (nr (Abs.rowAt t0 (Int.toNat t5)) 1) (nr (Abs.rowAt t0 (Int.toNat t5)) 2) (nl (Abs.rowAt t0 (Int.toNat t5)) 3) (nr (Abs.rowAt t1 (Int.toNat t5)) 0) (nr (Abs.rowAt t1 (Int.toNat t5)) 1) (nr (Abs.rowAt t1 (Int.toNat t5)) 2) (nl (Abs.rowAt t1 (Int.toNat t5)) 3)))
       (some ([.one (.bool false)], []))
       (goF E (callOf L14) F22 0 m P22_0 (M22_0 t0 t1 (IntKind.wrap .i64 (t5 + 1)))))
      none)
     none)
    none)
   (some ([.one (.bool true)], []))) := by kernel_rfl

/- elasticstore/state.Append -/
noncomputable def P36_0 : List AItem := F36.at [.snd, .snd, .fst, .snd, .sub, .head]
def M36_0 (t0 : List (List Cell)) (t5 : List (List Cell)) (t12 : List (List Cell)) (t13 : Int) (t14 : Int) : St := ⟨[(0, .one (.sl false 5 t0)), (5, .one (.sl true 5 t5)), (12, .one (.sl false 43 t12)), (13, .one (.int .i64 t13)), (14, .one (.int .i64 t14))], []⟩
theorem e36 (m : Nat) (x : List (List Cell)) (c : List (List Cell)) : runF E (callOf L22) (m + 1) 36 [.one (.sl false 5 x), .one (.sl false 43 c)] [] =
  (cond (okU (IntKind.wrap .u64 (c.length : Int)))
   (goF E (callOf L22) F36 0 m P36_0 (M36_0 x (uenc (IntKind.wrap .u64 (c.length : Int))) c (c.length : Int) 0))
   none) := by kernel_rfl
theorem e36_0 (m : Nat) (t0 : List (List Cell)) (t5 : List (List Cell)) (t12 : List (List Cell)) (t13 : Int) (t14 : Int) : goF E (callOf L22) F36 0 (m + 1) P36_0 (M36_0 t0 t5 t12 t13 t14) =
  (cond (decide (t14 < t13))
   (cond (inB t14 t12.length)
    (cond (okApp [] (nl (Abs.rowAt t12 (Int.toNat t14)) 3))
     (cond (fits (t5.length + (encU (nr (Abs.rowAt t12 (Int.toNat t14)) 0) (nr (Abs.rowAt t12 (Int.toNat t14)) 1) (nr (Abs.rowAt t12 (Int.toNat t14)) 2) (nl (Abs.rowAt t12 (Int.toNat t14)) 3)).length))
      (goF E (callOf L22) F36 0 m P36_0 (M36_0 t0 (t5 ++ (encU (nr (Abs.rowAt t12 (Int.toNat t14)) 0) (nr (Abs.rowAt t12 (Int.toNat t14)) 1) (nr (Abs.rowAt t12 (Int.toNat t14)) 2) (nl (Abs.rowAt t12 (Int.toNat t14)) 3))) t12 t13 (IntKind.wrap .i64 (t14 + 1))))
      none)
     none)
    none)
   (cond (inB (t0.length : Int) (t0.length + 1))
    (cond (decide ((t0.length : Int) = (t0.length : Int)))
     (cond (fits ((takeN t0 (Int.toNat (t0.length : Int))).length + t5.length))
      (some ([.one (.sl true 5 ((takeN t0 (Int.toNat (t0.length : Int))) ++ t5))], []))
      none)
     none)
    none)) := by kernel_rfl
noncomputable def P36_0_c1 : List AItem := F36.at [.snd, .snd, .fst, .snd, .sub, .head]
def M36_0_c1 (t0 : List (List Cell)) (t5 : List (List Cell)) (t12 : List (List Cell)) (t13 : Int) (t14 : Int) : St := ⟨[(0, .one (.sl true 5 t0)), (5, .one (.sl true 5 t5)), (12, .one (.sl false 43 t12)), (13, .one (.int .i64 t13)), (14, .one (.int .i64 t14))], []⟩
theorem e36_c1 (m : Nat) (c : List (List Cell)) : runF E (callOf L22) (m + 1) 36 [.one (.nils), .one (.sl false 43 c)] [] =
  (cond (okU (IntKind.wrap .u64 (c.length : Int)))
   (goF E (callOf L22) F36 0 m P36_0_c1 (M36_0_c1 ([] : List (List Cell)) (uenc (IntKind.wrap .u64 (c.length : Int))) c (c.length : Int) 0))
   none) := by kernel_rfl
theorem e36_0_c1 (m : Nat) (t0 : List (List Cell)) (t5 : List (List Cell)) (t12 : List (List Cell)) (t13 : Int) (t14 : Int) : goF E (callOf L22) F36 0 (m + 1) P36_0_c1 (M36_0_c1 t0 t5 t12 t13 t14) =
  (cond (decide (t14 < t13))
   (cond (inB t14 t12.length)
    (cond (okApp [] (nl (Abs.rowAt t12 (Int.toNat t14)) 3))
     (cond (fits (t5.length + (encU (nr (Abs.rowAt t12 (Int.toNat t14)) 0) (nr (Abs.rowAt t12 (Int.toNat t14)) 1) (nr (Abs.rowAt t12 (Int.toNat t14)) 2) (nl (Abs.rowAt t12 (Int.toNat t14)) 3)).length))
      (goF E (callOf L22) F36 0 m P36_0_c1 (M36_0_c1 t0 (t5 ++ (encU (nr (Abs.rowAt t12 (Int.toNat t14)) 0) (nr (Abs.rowAt t12 (Int.toNat t14)) 1) (nr (Abs.rowAt t12 (Int.toNat t14)) 2) (nl (Abs.rowAt t12 (Int.toNat t14)) 3))) t12 t13 (IntKind.wrap .i64 (t14 + 1))))
      none)
     none)
    none)
   (cond (inB (t0.length : Int) (t0.length + 1))
    (cond (decide ((t0.length : Int) = (t0.length : Int)))
     (cond (fits ((takeN t0 (Int.toNat (t0.length : Int))).length + t5.length))
      (some ([.one (.sl true 5 ((takeN t0 (Int.toNat (t0.length : Int))) ++ t5))], []))
      none)
     none)
    none)) := by kernel_rfl

/- elasticstore/elasticstoreref14.AppendState -/
noncomputable def P38_0 : List AItem := F38.at [.snd, .snd, .fst, .snd, .sub, .head]
def M38_0 (t0 : List (List Cell)) (t1 : List (List Cell)) (t5 : Int) : St := ⟨[(0, .one (.sl false 5 t0)), (1, .one (.sl false 43 t1)), (5, .one (.int .i64 t5))], []⟩
theorem e38 (m : Nat) (x : List (List Cell)) (c : List (List Cell)) : runF E (callOf L36) (m + 1) 38 [.one (.sl false 5 x), .one (.sl false 43 c)] [] =
  (cond (okNums x [[Cell.int .i64 (c.length : Int)]])
   (goF E (callOf L36) F38 0 m P38_0 (M38_0 (x ++ encL [[Cell.int .i64 (c.length : Int)]]) c 0))
   none) := by kernel_rfl
theorem e38_0 (m : Nat) (t0 : List (List Cell)) (t1 : List (List Cell)) (t5 : Int) : goF E (callOf L36) F38 0 (m + 1) P38_0 (M38_0 t0 t1 t5) =
  (cond (decide (t5 < (t1.length : Int)))
   (cond (inB t5 t1.length)
    (cond (okApp t0 (nl (Abs.rowAt t1 (Int.toNat t5)) 3))
     (goF E (callOf L36) F38 0 m P38_0 (M38_0 (t0 ++ encU (nr (Abs.rowAt t1 (Int.toNat t5)) 0) (nr (Abs.rowAt t1 (Int.toNat t5)) 1) (nr (Abs.rowAt t1 (Int.toNat t5)) 2) (nl (Abs.rowAt t1 (Int.toNat t5)) 3)) t1 (IntKind.wrap .i64 (t5 + 1))))
     none)
    none)
   (some ([.one (.sl false 5 t0)], []))) := by kernel_rfl
noncomputable def P38_0_c1 : List AItem := F38.at [.snd, .snd, .fst, .snd, .sub, .head]
def M38_0_c1 (t0 : List (List Cell)) (t1 : List (List Cell)) (t5 : Int) : St := ⟨[(0, .one (.sl false 5 t0)), (1, .one (.sl false 43 t1)), (5, .one (.int .i64 t5))], []⟩
theorem e38_c1 (m : Nat) (c : List (List Cell)) : runF E (callOf L36) (m + 1) 38 [.one (.nils), .one (.sl false 43 c)] [] =
  (cond (okNums ([] : List (List Cell)) [[Cell.int .i64 (c.length : Int)]])
   (goF E (callOf L36) F38 0 m P38_0_c1 (M38_0_c1 (([] : List (List Cell)) ++ encL [[Cell.int .i64 (c.length : Int)]]) c 0))
   none) := by kernel_rfl
theorem e38_0_c1 (m : Nat) (t0 : List (List Cell)) (t1 : List (List Cell)) (t5 : Int) : goF E (callOf L36) F38 0 (m + 1) P38_0_c1 (M38_0_c1 t0 t1 t5) =
  (cond (decide (t5 < (t1.length : Int)))
   (cond (inB t5 t1.length)
    (cond (okApp t0 (nl (Abs.rowAt t1 (Int.toNat t5)) 3))
     (goF E (callOf L36) F38 0 m P38_0_c1 (M38_0_c1 (t0 ++ encU (nr (Abs.rowAt t1 (Int.toNat t5)) 0) (nr (Abs.rowAt t1 (Int.toNat t5)) 1) (nr (Abs.rowAt t1 (Int.toNat t5)) 2) (nl (Abs.rowAt t1 (Int.toNat t5)) 3)) t1 (IntKind.wrap .i64 (t5 + 1))))
     none)
    none)
   (some ([.one (.sl false 5 t0)], []))) := by kernel_rfl

/- elasticstore/state.Decode -/
noncomputable def P37_0 : List AItem := F37.at [.snd, .snd, .snd, .snd, .snd, .fst, .snd, .sub, .head]
def M37_0 (t0 : List (List Cell)) (t6 : Int) (t8 : List (List Cell)) (t24 : Int) (t25 : Int) : St := ⟨[(0, .one (.sl false 5 t0)), (6, .one (.int .i64 t6)), (8, .one (.sl true 43 t8)), (24, .one (.int .u64 t24)), (25, .one (.int .u64 t25))], []⟩
theorem e37 (m : Nat) (x : List (List Cell)) : runF E (callOf L38) (m + 1) 37 [.one (.sl false 5 x)] [] =
  (cond (okRd x)
   (cond ((udec x).2.2 != 0)
    (some ([.one (.sl true 43 ([] : List (List Cell))), .one (.int .i64 0), .one (.int .i64 (udec x).2.2)], []))
    (cond (decide ((udec x).1 > 48))
     (some ([.one (.sl true 43 ([] : List (List Cell))), .one (.int .i64 0), .one (.int .i64 3)], []))
     (goF E (callOf L38) F37 0 m P37_0 (M37_0 x (udec x).2.1 ([] : List (List Cell)) (udec x).1 0))))
   none) := by kernel_rfl
theorem e37_0 (m : Nat) (t0 : List (List Cell)) (t6 : Int) (t8 : List (List Cell)) (t24 : Int) (t25 : Int) : goF E (callOf L38) F37 0 (m + 1) P37_0 (M37_0 t0 t6 t8 t24 t25) =
  (cond (decide (t25 < t24))
   (cond (inB t6 (t0.length + 1))
    (cond (okRd (dropN t0 (Int.toNat t6)))
     (cond ((decU (dropN t0 (Int.toNat t6))).2.2.2.2.2 != 0)
      (some ([.one (.sl true 43 ([] : List (List Cell))), .one (.int .i64 0), .one (.int .i64 (decU (dropN t0 (Int.toNat t6))).2.2.2.2.2)], []))
      (cond (fits (t8.length + [[Cell.int .i64 (decU (dropN t0 (Int.toNat t6))).1, Cell.int .i64 (decU (dropN t0 (Int.toNat t6))).2.1, Cell.int .i64 (decU (dropN t0 (Int.toNat t6))).2.2.1, Cell.slice 61 (decU (dropN t0 (Int.toNat t6))).2.2.2.1]].length))
       (goF E (callOf L38) F37 0 m P37_0 (M37_0 t0 (IntKind.wrap .i64 (t6 + (decU (dropN t0 (Int.toNat t6))).2.2.2.2.1)) (t8 ++ [[Cell.int .i64 (decU (dropN t0 (Int.toNat t6))).1, Cell.int .i64 (decU (dropN t0 (Int.toNat t6))).2.1, Cell.int .i64 (decU (dropN t0 (Int.toNat t6))).2.2.1, Cell.slice 61 (decU (dropN t0 (Int.toNat t6))).2.2.2.1]]) t24 (IntKind.wrap .u64 (t25 + 1))))
       none))
     none)
    none)
   (cond (okLn t8)
    (cond ((vSt t8) != 0)
     (some ([.one (.sl true 43 ([] : List (List Cell))), .one (.int .i64 0), .one (.int .i64 (vSt t8))], []))
     (some ([.one (.sl true 43 t8), .one (.int .i64 t6), .one (.int .i64 0)], [])))
    none)) := by kernel_rfl

/- elasticstore/elasticstoreref14.updates -/
noncomputable def P65_0 : List AItem := F65.at [.snd, .snd, .snd, .snd, .snd, .fst, .snd, .sub, .head]
def M65_0 (t0 : List (List Cell)) (t5 : Int) (t6 : Int) (t8 : List (List Cell)) (t9 : Int) : St := ⟨[(0, .one (.sl false 5 t0)), (5, .one (.int .i64 t5)), (6, .one (.int .i64 t6)), (8, .one (.sl true 43 t8)), (9, .one (.int .i64 t9))], []⟩
theorem e65 (m : Nat) (x : List (List Cell)) : runF E (callOf L37) (m + 1) 65 [.one (.sl false 5 x)] [] =
  (cond (okRd x)
   (cond ((rnum2 x).2.2 != 0)
    (some ([.one (.sl true 43 ([] : List (List Cell))), .one (.int .i64 0), .one (.int .i64 (rnum2 x).2.2)], []))
    (cond (decide ((rnum2 x).1 > 48))
     (some ([.one (.sl true 43 ([] : List (List Cell))), .one (.int .i64 0), .one (.int .i64 3)], []))
     (goF E (callOf L37) F65 0 m P65_0 (M65_0 x (rnum2 x).1 (rnum2 x).2.1 ([] : List (List Cell)) 0))))
   none) := by kernel_rfl
theorem e65_0 (m : Nat) (t0 : List (List Cell)) (t5 : Int) (t6 : Int) (t8 : List (List Cell)) (t9 : Int) : goF E (callOf L37) F65 0 (m + 1) P65_0 (M65_0 t0 t5 t6 t8 t9) =
  (cond (decide (t9 < t5))
   (cond (inB t6 (t0.length + 1))
    (cond (okRd (dropN t0 (Int.toNat t6)))
     (cond ((decU (dropN t0 (Int.toNat t6))).2.2.2.2.2 != 0)
      (some ([.one (.sl true 43 ([] : List (List Cell))), .one (.int .i64 0), .one (.int .i64 (decU (dropN t0 (Int.toNat t6))).2.2.2.2.2)], []))
      (cond (fits (t8.length + [[Cell.int .i64 (decU (dropN t0 (Int.toNat t6))).1, Cell.int .i64 (decU (dropN t0 (Int.toNat t6))).2.1, Cell.int .i64 (decU (dropN t0 (Int.toNat t6))).2.2.1, Cell.slice 61 (decU (dropN t0 (Int.toNat t6))).2.2.2.1]].length))
       (goF E (callOf L37) F65 0 m P65_0 (M65_0 t0 t5 (IntKind.wrap .i64 (t6 + (decU (dropN t0 (Int.toNat t6))).2.2.2.2.1)) (t8 ++ [[Cell.int .i64 (decU (dropN t0 (Int.toNat t6))).1, Cell.int .i64 (decU (dropN t0 (Int.toNat t6))).2.1, Cell.int .i64 (decU (dropN t0 (Int.toNat t6))).2.2.1, Cell.slice 61 (decU (dropN t0 (Int.toNat t6))).2.2.2.1]]) (IntKind.wrap .i64 (t9 + 1))))
       none))
     none)
    none)
   (some ([.one (.sl true 43 t8), .one (.int .i64 t6), .one (.int .i64 0)], []))) := by kernel_rfl

/- elasticstore/elasticstoreref14.DecodeState -/
theorem e39 (m : Nat) (x : List (List Cell)) : runF E (callOf L65) (m + 1) 39 [.one (.sl false 5 x)] [] =
  (cond (okRd x)
   (cond ((udec x).2.2 == 0)
    (cond (decide ((udec x).1 > 48))
     (some ([.one (.sl true 43 ([] : List (List Cell))), .one (.int .i64 0), .one (.int .i64 3)], []))
     (cond (okRd x)
      (cond ((decL x).2.2 != 0)
       (some ([.one (.sl true 43 ([] : List (List Cell))), .one (.int .i64 0), .one (.int .i64 (decL x).2.2)], []))
       (cond (okLn (decL x).1)
        (cond ((vSt (decL x).1) != 0)
         (some ([.one (.sl true 43 ([] : List (List Cell))), .one (.int .i64 0), .one (.int .i64 (vSt (decL x).1))], []))
         (some ([.one (.sl true 43 (decL x).1), .one (.int .i64 (decL x).2.1), .one (.int .i64 0)], [])))
        none))
      none))
    (cond (okRd x)
     (cond ((decL x).2.2 != 0)
      (some ([.one (.sl true 43 ([] : List (List Cell))), .one (.int .i64 0), .one (.int .i64 (decL x).2.2)], []))
      (cond (okLn (decL x).1)
       (cond ((vSt (decL x).1) != 0)
        (some ([.one (.sl true 43 ([] : List (List Cell))), .one (.int .i64 0), .one (.int .i64 (vSt (decL x).1))], []))
        (some ([.one (.sl true 43 (decL x).1), .one (.int .i64 (decL x).2.1), .one (.int .i64 0)], [])))
       none))
     none))
   none) := by kernel_rfl

/- slices.BinarySearchFunc[elasticstore/api.State,elasticstore/api.Update,elasticstore/api.Update] -/
noncomputable def P74_0 : List AItem := F74.at [.snd, .snd, .snd, .fst, .sub, .head]
def M74_0 (t0 : List (List Cell)) (t8 : Int) (t9 : Int) (t10 : Int) (b0 : Int) (b0_1 : Int) (b0_2 : Int) (b0_3 : List (List Cell)) : St := ⟨[(0, .one (.sl false 43 t0)), (2, .one (.fn 41 [])), (4, .one (.ptr 0 0)), (8, .one (.int .i64 t8)), (9, .one (.int .i64 t9)), (10, .one (.int .i64 t10))], [.var [.int .i64 b0, .int .i64 b0_1, .int .i64 b0_2, .sl false 61 b0_3]]⟩
theorem e74 (m : Nat) (c : List (List Cell)) (ap : Int) (np : Int) (tp : Int) (ep : List (List Cell)) : runF E (callOf L39) (m + 1) 74 [.one (.sl false 43 c), .agg [.int .i64 ap, .int .i64 np, .int .i64 tp, .sl false 61 ep], .one (.fn 41 [])] [] =
  (goF E (callOf L39) F74 0 m P74_0 (M74_0 c (c.length : Int) 0 (c.length : Int) ap np tp ep)) := by kernel_rfl
theorem e74_0 (m : Nat) (t0 : List (List Cell)) (t8 : Int) (t9 : Int) (t10 : Int) (b0 : Int) (b0_1 : Int) (b0_2 : Int) (b0_3 : List (List Cell)) : goF E (callOf L39) F74 0 (m + 1) P74_0 (M74_0 t0 t8 t9 t10 b0 b0_1 b0_2 b0_3) =
  (cond (decide (t9 < t10))
   (cond (inB (IntKind.wrap .i64 (shrI .u64 (IntKind.wrap .u64 (IntKind.wrap .i64 (t9 + t10))) 1)) t0.length)
    (cond (decide ((cmpU (nr (Abs.rowAt t0 (Int.toNat (IntKind.wrap .i64 (shrI .u64 (IntKind.wrap .u64 (IntKind.wrap .i64 (t9 + t10))) 1)))) 0) (nr (Abs.rowAt t0 (Int.toNat (IntKind.wrap .i64 (shrI .u64 (IntKind.wrap .u64 (IntKind.wrap .i64 (t9 + t10))) 1)))) 1) b0 b0_1) < 0))
     (goF E (callOf L39) F74 0 m P74_0 (M74_0 t0 t8 (IntKind.wrap .i64 ((IntKind.wrap .i64 (shrI .u64 (IntKind.wrap .u64 (IntKind.wrap .i64 (t9 + t10))) 1)) + 1)) t10 b0 b0_1 b0_2 b0_3))
     (goF E (callOf L39) F74 0 m P74_0 (M74_0 t0 t8 t9 (IntKind.wrap .i64 (shrI .u64 (IntKind.wrap .u64 (IntKind.wrap .i64 (t9 + t10))) 1)) b0 b0_1 b0_2 b0_3)))
    none)
   (cond (decide (t9 < t8))
    (cond (inB t9 t0.length)
     (some ([.one (.int .i64 t9), .one (.bool ((cmpU (nr (Abs.rowAt t0 (Int.toNat t9)) 0) (nr (Abs.rowAt t0 (Int.toNat t9)) 1) b0 b0_1) == 0))], []))
     none)
    (some ([.one (.int .i64 t9), .one (.bool false)], [])))) := by kernel_rfl
noncomputable def P74_0_c1 : List AItem := F74.at [.snd, .snd, .snd, .fst, .sub, .head]
def M74_0_c1 (t0 : Nat) (t8 : Int) (t9 : Int) (t10 : Int) (b0 : List (List Cell)) (b1 : Int) (b1_1 : Int) (b1_2 : Int) (b1_3 : List (List Cell)) : St := ⟨[(0, .one (.msl 43 0 t0)), (2, .one (.fn 41 [])), (4, .one (.ptr 1 0)), (8, .one (.int .i64 t8)), (9, .one (.int .i64 t9)), (10, .one (.int .i64 t10))], [.arr 43 b0, .var [.int .i64 b1, .int .i64 b1_1, .int .i64 b1_2, .sl false 61 b1_3]]⟩
theorem e74_c1 (m : Nat) (n : Nat) (ap : Int) (np : Int) (tp : Int) (ep : List (List Cell)) (c : List (List Cell)) : runF E (callOf L39) (m + 1) 74 [.one (.msl 43 0 n), .agg [.int .i64 ap, .int .i64 np, .int .i64 tp, .sl false 61 ep], .one (.fn 41 [])] [.arr 43 c] =
  (goF E (callOf L39) F74 1 m P74_0_c1 (M74_0_c1 n (n : Int) 0 (n : Int) c ap np tp ep)) := by kernel_rfl
theorem e74_0_c1 (m : Nat) (t0 : Nat) (t8 : Int) (t9 : Int) (t10 : Int) (b0 : List (List Cell)) (b1 : Int) (b1_1 : Int) (b1_2 : Int) (b1_3 : List (List Cell)) : goF E (callOf L39) F74 1 (m + 1) P74_0_c1 (M74_0_c1 t0 t8 t9 t10 b0 b1 b1_1 b1_2 b1_3) =
  (cond (decide (t9 < t10))
   (cond (inB (IntKind.wrap .i64 (shrI .u64 (IntKind.wrap .u64 (IntKind.wrap .i64 (t9 + t10))) 1)) t0)
    (cond (Nat.blt (Int.toNat (IntKind.wrap .i64 (shrI .u64 (IntKind.wrap .u64 (IntKind.wrap .i64 (t9 + t10))) 1))) b0.length)
     (cond (decide ((cmpU (nr (Abs.rowAt b0 (Int.toNat (IntKind.wrap .i64 (shrI .u64 (IntKind.wrap .u64 (IntKind.wrap .i64 (t9 + t10))) 1)))) 0) (nr (Abs.rowAt b0 (Int.toNat (IntKind.wrap .i64 (shrI .u64 (IntKind.wrap .u64 (IntKind.wrap .i64 (t9 + t10))) 1)))) 1) b1 b1_1) < 0))
      (goF E (callOf L39) F74 1 m P74_0_c1 (M74_0_c1 t0 t8 (IntKind.wrap .i64 ((IntKind.wrap .i64 (shrI .u64 (IntKind.wrap .u64 (IntKind.wrap .i64 (t9 + t10))) 1)) + 1)) t10 b0 b1 b1_1 b1_2 b1_3))
      (goF E (callOf L39) F74 1 m P74_0_c1 (M74_0_c1 t0 t8 t9 (IntKind.wrap .i64 (shrI .u64 (IntKind.wrap .u64 (IntKind.wrap .i64 (t9 + t10))) 1)) b0 b1 b1_1 b1_2 b1_3)))
     none)
    none)
   (cond (decide (t9 < t8))
    (cond (inB t9 t0)
     (cond (Nat.blt (Int.toNat t9) b0.length)
      (some ([.one (.int .i64 t9), .one (.bool ((cmpU (nr (Abs.rowAt b0 (Int.toNat t9)) 0) (nr (Abs.rowAt b0 (Int.toNat t9)) 1) b1 b1_1) == 0))], [.arr 43 b0]))
      none)
     none)
    (some ([.one (.int .i64 t9), .one (.bool false)], [.arr 43 b0])))) := by kernel_rfl

/- elasticstore/state.search -/
theorem e49 (m : Nat) (c : List (List Cell)) (ap : Int) (np : Int) (tp : Int) (ep : List (List Cell)) : runF E (callOf L74) (m + 1) 49 [.one (.sl false 43 c), .agg [.int .i64 ap, .int .i64 np, .int .i64 tp, .sl false 61 ep]] [] =
  (cond (okSrt c)
   (some ([.one (.int .i64 (lowK c (urow ap np tp ep) : Int)), .one (.bool (hasK c (urow ap np tp ep)))], []))
   none) := by kernel_rfl
theorem e49_c1 (m : Nat) (n : Nat) (ap : Int) (np : Int) (tp : Int) (ep : List (List Cell)) (c : List (List Cell)) : runF E (callOf L74) (m + 1) 49 [.one (.msl 43 0 n), .agg [.int .i64 ap, .int .i64 np, .int .i64 tp, .sl false 61 ep]] [.arr 43 c] =
  (cond (okM n c)
   (some ([.one (.int .i64 (lowK c (urow ap np tp ep) : Int)), .one (.bool (hasK c (urow ap np tp ep)))], [.arr 43 c]))
   none) := by kernel_rfl

/- elasticstore/state.count -/
noncomputable def P56_0 : List AItem := F56.at [.snd, .snd, .fst, .snd, .sub, .head]
def M56_0 (t1 : Int) (t5 : Int) (t8 : List (List Cell)) (t9 : Int) (t10 : Int) : St := ⟨[(1, .one (.int .i64 t1)), (5, .one (.int .i64 t5)), (8, .one (.sl false 43 t8)), (9, .one (.int .i64 t9)), (10, .one (.int .i64 t10))], []⟩
theorem e56 (m : Nat) (c : List (List Cell)) (a : Int) : runF E (callOf L49) (m + 1) 56 [.one (.sl false 43 c), .one (.int .i64 a)] [] =
  (goF E (callOf L49) F56 0 m P56_0 (M56_0 a 0 c (c.length : Int) 0)) := by kernel_rfl
theorem e56_0 (m : Nat) (t1 : Int) (t5 : Int) (t8 : List (List Cell)) (t9 : Int) (t10 : Int) : goF E (callOf L49) F56 0 (m + 1) P56_0 (M56_0 t1 t5 t8 t9 t10) =
  (cond (decide (t10 < t9))
   (cond (inB t10 t8.length)
    (cond ((nr (Abs.rowAt t8 (Int.toNat t10)) 0) == t1)
     (goF E (callOf L49) F56 0 m P56_0 (M56_0 t1 (IntKind.wrap .i64 (t5 + 1)) t8 t9 (IntKind.wrap .i64 (t10 + 1))))
     (goF E (callOf L49) F56 0 m P56_0 (M56_0 t1 t5 t8 t9 (IntKind.wrap .i64 (t10 + 1)))))
    none)
   (some ([.one (.int .i64 t5)], []))) := by kernel_rfl
noncomputable def P56_0_c1 : List AItem := F56.at [.snd, .snd, .fst, .snd, .sub, .head]
def M56_0_c1 (t1 : Int) (t5 : Int) (t8 : Nat) (t9 : Int) (t10 : Int) (b0 : List (List Cell)) : St := ⟨[(1, .one (.int .i64 t1)), (5, .one (.int .i64 t5)), (8, .one (.msl 43 0 t8)), (9, .one (.int .i64 t9)), (10, .one (.int .i64 t10))], [.arr 43 b0]⟩
theorem e56_c1 (m : Nat) (n : Nat) (a : Int) (c : List (List Cell)) : runF E (callOf L49) (m + 1) 56 [.one (.msl 43 0 n), .one (.int .i64 a)] [.arr 43 c] =
  (goF E (callOf L49) F56 1 m P56_0_c1 (M56_0_c1 a 0 n (n : Int) 0 c)) := by kernel_rfl
theorem e56_0_c1 (m : Nat) (t1 : Int) (t5 : Int) (t8 : Nat) (t9 : Int) (t10 : Int) (b0 : List (List Cell)) : goF E (callOf L49) F56 1 (m + 1) P56_0_c1 (M56_0_c1 t1 t5 t8 t9 t10 b0) =
  (cond (decide (t10 < t9))
   (cond (inB t10 t8)
    (cond (Nat.blt (Int.toNat t10) b0.length)
     (cond ((nr (Abs.rowAt b0 (Int.toNat t10)) 0) == t1)
      (goF E (callOf L49) F56 1 m P56_0_c1 (M56_0_c1 t1 (IntKind.wrap .i64 (t5 + 1)) t8 t9 (IntKind.wrap .i64 (t10 + 1)) b0))
      (goF E (callOf L49) F56 1 m P56_0_c1 (M56_0_c1 t1 t5 t8 t9 (IntKind.wrap .i64 (t10 + 1)) b0)))
     none)
    none)
   (some ([.one (.int .i64 t5)], [.arr 43 b0]))) := by kernel_rfl

/- elasticstore/state.Contains$1 -/
theorem e48 (m : Nat) (ap : Int) (np : Int) (tp : Int) (ep : List (List Cell)) (d : List (List Cell)) : runF E (callOf L56) (m + 1) 48 [.agg [.int .i64 ap, .int .i64 np, .int .i64 tp, .sl false 61 ep], .one (.ptr 0 0)] [.var [.sl false 43 d]] =
  (cond (okSrt d)
   (some ([.one (.bool (!(hasK d (urow ap np tp ep))))], [.var [.sl false 43 d]]))
   none) := by kernel_rfl

/- slices.IndexFunc[elasticstore/api.State,elasticstore/api.Update] -/
noncomputable def P73_0 : List AItem := F73.at [.snd, .fst, .snd, .sub, .head]
def M73_0 (t0 : List (List Cell)) (t7 : Int) (t8 : Int) (b0 : List (List Cell)) : St := ⟨[(0, .one (.sl false 43 t0)), (1, .one (.fn 48 [.ptr 0 0])), (7, .one (.int .i64 t7)), (8, .one (.int .i64 t8))], [.var [.sl false 43 b0]]⟩
theorem e73 (m : Nat) (c : List (List Cell)) (d : List (List Cell)) : runF E (callOf L48) (m + 1) 73 [.one (.sl false 43 c), .one (.fn 48 [.ptr 0 0])] [.var [.sl false 43 d]] =
  (goF E (callOf L48) F73 1 m P73_0 (M73_0 c (c.length : Int) 0 d)) := by kernel_rfl
theorem e73_0 (m : Nat) (t0 : List (List Cell)) (t7 : Int) (t8 : Int) (b0 : List (List Cell)) : goF E (callOf L48) F73 1 (m + 1) P73_0 (M73_0 t0 t7 t8 b0) =
  (cond (decide (t8 < t7))
   (cond (inB t8 t0.length)
    (cond (okSrt b0)
     (cond (!(hasK b0 (urow (nr (Abs.rowAt t0 (Int.toNat t8)) 0) (nr (Abs.rowAt t0 (Int.toNat t8)) 1) (nr (Abs.rowAt t0 (Int.toNat t8)) 2) (nl (Abs.rowAt t0 (Int.toNat t8)) 3))))
      (some ([.one (.int .i64 t8)], [.var [.sl false 43 b0]]))
      (goF E (callOf L48) F73 1 m P73_0 (M73_0 t0 t7 (IntKind.wrap .i64 (t8 + 1)) b0)))
     none)
    none)
   (some ([.one (.int .i64 (-1))], [.var [.sl false 43 b0]]))) := by kernel_rfl

/- slices.ContainsFunc[elasticstore/api.State,elasticstore/api.Update] -/
theorem e47 (m : Nat) (c : List (List Cell)) (d : List (List Cell)) : runF E (callOf L73) (m + 1) 47 [.one (.sl false 43 c), .one (.fn 48 [.ptr 0 0])] [.var [.sl false 43 d]] =
  (cond (okLn c && okSrt d)
   (some ([.one (.bool (decide ((idxN d c) ≥ 0)))], [.var [.sl false 43 d]]))
   none) := by kernel_rfl

/- elasticstore/state.Contains -/
theorem e19 (m : Nat) (c : List (List Cell)) (d : List (List Cell)) : runF E (callOf L47) (m + 1) 19 [.one (.sl false 43 c), .one (.sl false 43 d)] [] =
  (cond (okLn d && okSrt c)
   (some ([.one (.bool (!(!(contK c d))))], []))
   none) := by kernel_rfl

/- elasticstore/state.Equal -/
theorem e21 (m : Nat) (c : List (List Cell)) (d : List (List Cell)) : runF E (callOf L19) (m + 1) 21 [.one (.sl false 43 c), .one (.sl false 43 d)] [] =
  (cond (okSrt c && okLn d)
   (cond (contK c d)
    (cond (okSrt d && okLn c)
     (some ([.one (.bool (contK d c))], []))
     none)
    (some ([.one (.bool false)], [])))
   none) := by kernel_rfl

/- elasticstore/state.Vector -/
noncomputable def P17_0 : List AItem := F17.at [.snd, .snd, .fst, .snd, .sub, .head]
def M17_0 (t3 : Nat) (t7 : List (List Cell)) (t8 : Int) (t9 : Int) (b0 : List (List Cell)) : St := ⟨[(3, .one (.msl 65 0 t3)), (7, .one (.sl false 43 t7)), (8, .one (.int .i64 t8)), (9, .one (.int .i64 t9))], [.arr 65 b0]⟩
theorem e17 (m : Nat) (c : List (List Cell)) : runF E (callOf L21) (m + 1) 17 [.one (.sl false 43 c)] [] =
  (goF E (callOf L21) F17 0 m P17_0 (M17_0 0 c (c.length : Int) 0 ([] : List (List Cell)))) := by kernel_rfl
theorem e17_0 (m : Nat) (t3 : Nat) (t7 : List (List Cell)) (t8 : Int) (t9 : Int) (b0 : List (List Cell)) : goF E (callOf L21) F17 0 (m + 1) P17_0 (M17_0 t3 t7 t8 t9 b0) =
  (cond (decide (t9 < t8))
   (cond (inB t9 t7.length)
    (cond (decide ((t3 : Int) > 0))
     (cond (inB (IntKind.wrap .i64 ((t3 : Int) - 1)) t3)
      (cond (Nat.blt (Int.toNat (IntKind.wrap .i64 ((t3 : Int) - 1))) b0.length)
       (cond ((nr (Abs.rowAt b0 (Int.toNat (IntKind.wrap .i64 ((t3 : Int) - 1)))) 0) == (nr (Abs.rowAt t7 (Int.toNat t9)) 0))
        (cond (inB (IntKind.wrap .i64 ((t3 : Int) - 1)) t3)
         (cond (Nat.blt (Int.toNat (IntKind.wrap .i64 ((t3 : Int) - 1))) b0.length)
          (cond (inB (IntKind.wrap .i64 ((t3 : Int) - 1)) t3)
           (cond (Nat.blt (Int.toNat (IntKind.wrap .i64 ((t3 : Int) - 1))) b0.length)
            (goF E (callOf L21) F17 0 m P17_0 (M17_0 t3 t7 t8 (IntKind.wrap .i64 (t9 + 1)) (Abs.setN b0 (Int.toNat (IntKind.wrap .i64 ((t3 : Int) - 1))) (setCells (Abs.rowAt b0 (Int.toNat (IntKind.wrap .i64 ((t3 : Int) - 1)))) 1 [Cell.int .i64 (IntKind.wrap .i64 ((nr (Abs.rowAt b0 (Int.toNat (IntKind.wrap .i64 ((t3 : Int) - 1)))) 1) + 1))]))))
            none)
           none)
          none)
         none)
        (cond (Nat.beq t3 b0.length)
         (cond (fits (b0.length + [[Cell.int .i64 (nr (Abs.rowAt t7 (Int.toNat t9)) 0), Cell.int .i64 1]].length))
          (goF E (callOf L21) F17 0 m P17_0 (M17_0 (b0.length + [[Cell.int .i64 (nr (Abs.rowAt t7 (Int.toNat t9)) 0), Cell.int .i64 1]].length) t7 t8 (IntKind.wrap .i64 (t9 + 1)) (b0 ++ [[Cell.int .i64 (nr (Abs.rowAt t7 (Int.toNat t9)) 0), Cell.int .i64 1]])))
          none)
         none))
       none)
      none)
     (cond (Nat.beq t3 b0.length)
      (cond (fits (b0.length + [[Cell.int .i64 (nr (Abs.rowAt t7 (Int.toNat t9)) 0), Cell.int .i64 1]].length))
       (goF E (callOf L21) F17 0 m P17_0 (M17_0 (b0.length + [[Cell.int .i64 (nr (Abs.rowAt t7 (Int.toNat t9)) 0), Cell.int .i64 1]].length) t7 t8 (IntKind.wrap .i64 (t9 + 1)) (b0 ++ [[Cell.int .i64 (nr (Abs.rowAt t7 (Int.toNat t9)) 0), Cell.int .i64 1]])))
       none)
      none))
    none)
   (cond (Nat.beq t3 b0.length)
    (some ([.one (.sl false 65 b0)], []))
    none)) := by kernel_rfl

/- elasticstore/state.insert -/
theorem e53 (m : Nat) (n : Nat) (ap : Int) (np : Int) (tp : Int) (ep : List (List Cell)) (c : List (List Cell)) : runF E (callOf L17) (m + 1) 53 [.one (.msl 43 0 n), .agg [.int .i64 ap, .int .i64 np, .int .i64 tp, .sl false 61 ep]] [.arr 43 c] =
  (cond (okM n c)
   (cond (okCln [[Cell.int .i64 ap, Cell.int .i64 np, Cell.int .i64 tp, Cell.slice 61 ep]])
    (cond (Nat.beq [[Cell.int .i64 ap, Cell.int .i64 np, Cell.int .i64 tp, Cell.slice 61 ep]].length [[Cell.int .i64 ap, Cell.int .i64 np, Cell.int .i64 tp, Cell.slice 61 ep]].length && okIns n (lowK c (urow ap np tp ep) : Int) c [[Cell.int .i64 ap, Cell.int .i64 np, Cell.int .i64 tp, Cell.slice 61 ep]])
     (some ([.one (.msl 43 1 (c.length + [[Cell.int .i64 ap, Cell.int .i64 np, Cell.int .i64 tp, Cell.slice 61 ep]].length))], [.dead, .arr 43 (insL c [[Cell.int .i64 ap, Cell.int .i64 np, Cell.int .i64 tp, Cell.slice 61 ep]] (Int.toNat (lowK c (urow ap np tp ep) : Int)))]))
     none)
    none)
   none) := by kernel_rfl

/- elasticstore/state.Union -/
noncomputable def P23_0 : List AItem := F23.at [.snd, .snd, .fst, .snd, .sub, .head]
def M23_0 (t5 : Nat) (t12 : List (List Cell)) (t13 : Int) (t14 : Int) (b0 : List (List Cell)) : St := ⟨[(5, .one (.msl 43 0 t5)), (12, .one (.sl false 43 t12)), (13, .one (.int .i64 t13)), (14, .one (.int .i64 t14))], [.arr 43 b0]⟩
theorem e23 (m : Nat) (c : List (List Cell)) (d : List (List Cell)) : runF E (callOf L53) (m + 1) 23 [.one (.sl false 43 c), .one (.sl false 43 d)] [] =
  (cond (okCln c)
   (goF E (callOf L53) F23 0 m P23_0 (M23_0 (c.length) d (d.length : Int) 0 c))
   none) := by kernel_rfl
theorem e23_0 (m : Nat) (t5 : Nat) (t12 : List (List Cell)) (t13 : Int) (t14 : Int) (b0 : List (List Cell)) : goF E (callOf L53) F23 0 (m + 1) P23_0 (M23_0 t5 t12 t13 t14 b0) =
  (cond (decide (t14 < t13))
   (cond (inB t14 t12.length)
    (cond (okM t5 b0)
     (cond (!(hasK b0 (urow (nr (Abs.rowAt t12 (Int.toNat t14)) 0) (nr (Abs.rowAt t12 (Int.toNat t14)) 1) (nr (Abs.rowAt t12 (Int.toNat t14)) 2) (nl (Abs.rowAt t12 (Int.toNat t14)) 3))))
      (cond (okM t5 b0 && okEf (nl (Abs.rowAt t12 (Int.toNat t14)) 3))
       (goF E (callOf L53) F23 0 m P23_0 (M23_0 (b0.length + 1) t12 t13 (IntKind.wrap .i64 (t14 + 1)) (insA b0 (urow (nr (Abs.rowAt t12 (Int.toNat t14)) 0) (nr (Abs.rowAt t12 (Int.toNat t14)) 1) (nr (Abs.rowAt t12 (Int.toNat t14)) 2) (nl (Abs.rowAt t12 (Int.toNat t14)) 3)))))
       none)
      (goF E (callOf L53) F23 0 m P23_0 (M23_0 t5 t12 t13 (IntKind.wrap .i64 (t14 + 1)) b0)))
     none)
    none)
   (cond (Nat.beq t5 b0.length)
    (some ([.one (.sl false 43 b0)], []))
    none)) := by kernel_rfl

/- elasticstore/state.Add -/
theorem e29 (m : Nat) (c : List (List Cell)) (ap : Int) (np : Int) (tp : Int) (ep : List (List Cell)) : runF E (callOf L23) (m + 1) 29 [.one (.sl false 43 c), .agg [.int .i64 ap, .int .i64 np, .int .i64 tp, .sl false 61 ep]] [] =
  (cond ((vUpd ap np tp ep) != 0)
   (some ([.one (.sl false 43 ([] : List (List Cell))), .one (.int .i64 (vUpd ap np tp ep))], []))
   (cond (okSrt c)
    (cond (hasK c (urow ap np tp ep))
     (some ([.one (.sl false 43 ([] : List (List Cell))), .one (.int .i64 5)], []))
     (cond (okLn c)
      (cond (np != (IntKind.wrap .i64 ((cntS c ap) + 1)))
       (some ([.one (.sl false 43 ([] : List (List Cell))), .one (.int .i64 8)], []))
       (cond (okCln c)
        (cond (okM (c.length) c && okEf ep)
         (cond (Nat.beq (c.length + 1) (insA c (urow ap np tp ep)).length)
          (some ([.one (.sl false 43 (insA c (urow ap np tp ep))), .one (.int .i64 0)], []))
          none)
         none)
        none))
      none))
    none)) := by kernel_rfl

/- elasticstore/state.Merge -/
noncomputable def P35_0 : List AItem := F35.at [.snd, .sub, .snd, .snd, .snd, .fst, .snd, .sub, .head]
def M35_0 (t7 : Nat) (t8 : Int) (t9 : Int) (t16 : List (List Cell)) (t17 : Int) (t18 : Int) (b0 : List (List Cell)) : St := ⟨[(7, .one (.msl 43 0 t7)), (8, .one (.int .i64 t8)), (9, .one (.int .i64 t9)), (16, .one (.sl false 43 t16)), (17, .one (.int .i64 t17)), (18, .one (.int .i64 t18))], [.arr 43 b0]⟩
noncomputable def P35_1 : List AItem := F35.at [.snd, .sub, .snd, .snd, .snd, .fst, .snd, .sub, .body, .snd, .snd, .fst, .sub, .snd, .snd, .fst, .snd, .sub, .head]
def M35_1 (t7 : Nat) (t8 : Int) (t9 : Int) (t16 : List (List Cell)) (t17 : Int) (t18 : Int) (t37 : Nat) (t38 : Int) (t39 : Int) (b0 : List (List Cell)) (b1 : Int) (b1_1 : Int) (b1_2 : Int) (b1_3 : List (List Cell)) : St := ⟨[(7, .one (.msl 43 0 t7)), (8, .one (.int .i64 t8)), (9, .one (.int .i64 t9)), (11, .one (.ptr 1 0)), (16, .one (.sl false 43 t16)), (17, .one (.int .i64 t17)), (18, .one (.int .i64 t18)), (37, .one (.msl 43 0 t37)), (38, .one (.int .i64 t38)), (39, .one (.int .i64 t39))], [.arr 43 b0, .var [.int .i64 b1, .int .i64 b1_1, .int .i64 b1_2, .sl false 61 b1_3]]⟩
theorem e35 (m : Nat) (c : List (List Cell)) (d : List (List Cell)) : runF E (callOf L29) (m + 1) 35 [.one (.sl false 43 c), .one (.sl false 43 d)] [] =
  (cond (okCln c)
   (goF E (callOf L29) F35 0 m P35_0 (M35_0 (c.length) 0 0 d (d.length : Int) 0 c))
   none) := by kernel_rfl
theorem e35_0 (m : Nat) (t7 : Nat) (t8 : Int) (t9 : Int) (t16 : List (List Cell)) (t17 : Int) (t18 : Int) (b0 : List (List Cell)) : goF E (callOf L29) F35 0 (m + 1) P35_0 (M35_0 t7 t8 t9 t16 t17 t18 b0) =
  (cond (decide (t18 < t17))
   (cond (inB t18 t16.length)
    (cond ((vUpd (nr (Abs.rowAt t16 (Int.toNat t18)) 0) (nr (Abs.rowAt t16 (Int.toNat t18)) 1) (nr (Abs.rowAt t16 (Int.toNat t18)) 2) (nl (Abs.rowAt t16 (Int.toNat t18)) 3)) != 0)
     (goF E (callOf L29) F35 0 m P35_0 (M35_0 t7 t8 (IntKind.wrap .i64 (t9 + 1)) t16 t17 (IntKind.wrap .i64 (t18 + 1)) b0))
     (cond (okMl t7 b0)
      (cond (decide ((nr (Abs.rowAt t16 (Int.toNat t18)) 1) > (IntKind.wrap .i64 ((cntS b0 (nr (Abs.rowAt t16 (Int.toNat t18)) 0)) + 1))))
       (goF E (callOf L29) F35 0 m P35_0 (M35_0 t7 t8 (IntKind.wrap .i64 (t9 + 1)) t16 t17 (IntKind.wrap .i64 (t18 + 1)) b0))
       (goF E (callOf L29) F35 0 m P35_1 (M35_1 t7 t8 t9 t16 t17 t18 t7 (t7 : Int) 0 b0 (nr (Abs.rowAt t16 (Int.toNat t18)) 0) (nr (Abs.rowAt t16 (Int.toNat t18)) 1) (nr (Abs.rowAt t16 (Int.toNat t18)) 2) (nl (Abs.rowAt t16 (Int.toNat t18)) 3))))
      none))
    none)
   (cond (Nat.beq t7 b0.length)
    (some ([.one (.sl false 43 b0), .one (.int .i64 t8), .one (.int .i64 t9)], []))
    none)) := by kernel_rfl
theorem e35_1 (m : Nat) (t7 : Nat) (t8 : Int) (t9 : Int) (t16 : List (List Cell)) (t17 : Int) (t18 : Int) (t37 : Nat) (t38 : Int) (t39 : Int) (b0 : List (List Cell)) (b1 : Int) (b1_1 : Int) (b1_2 : Int) (b1_3 : List (List Cell)) : goF E (callOf L29) F35 0 (m + 1) P35_1 (M35_1 t7 t8 t9 t16 t17 t18 t37 t38 t39 b0 b1 b1_1 b1_2 b1_3) =
  (cond (decide (t39 < t38))
   (cond (inB t39 t37)
    (cond (Nat.blt (Int.toNat t39) b0.length)
     (cond ((cmpU (nr (Abs.rowAt b0 (Int.toNat t39)) 0) (nr (Abs.rowAt b0 (Int.toNat t39)) 1) b1 b1_1) == 0)
      (goF E (callOf L29) F35 0 m P35_0 (M35_0 t7 t8 t9 t16 t17 (IntKind.wrap .i64 (t18 + 1)) b0))
      (goF E (callOf L29) F35 0 m P35_1 (M35_1 t7 t8 t9 t16 t17 t18 t37 t38 (IntKind.wrap .i64 (t39 + 1)) b0 b1 b1_1 b1_2 b1_3)))
     none)
    none)
   (cond (okM t7 b0 && okEf b1_3)
    (goF E (callOf L29) F35 0 m P35_0 (M35_0 (b0.length + 1) (IntKind.wrap .i64 (t8 + 1)) t9 t16 t17 (IntKind.wrap .i64 (t18 + 1)) (insA b0 (urow b1 b1_1 b1_2 b1_3))))
    none)) := by kernel_rfl

/- elasticstore/state.Beyond -/
noncomputable def P32_0 : List AItem := F32.at [.snd, .snd, .fst, .snd, .sub, .head]
def M32_0 (t1 : List (List Cell)) (t2 : Int) (t8 : List (List Cell)) (t12 : List (List Cell)) (t13 : Int) (t14 : Int) : St := ⟨[(1, .one (.sl false 65 t1)), (2, .one (.int .i64 t2)), (8, .one (.sl true 43 t8)), (12, .one (.sl false 43 t12)), (13, .one (.int .i64 t13)), (14, .one (.int .i64 t14))], []⟩
theorem e32 (m : Nat) (c : List (List Cell)) (v : List (List Cell)) (k : Int) : runF E (callOf L35) (m + 1) 32 [.one (.sl false 43 c), .one (.sl false 65 v), .one (.int .i64 k)] [] =
  (goF E (callOf L35) F32 0 m P32_0 (M32_0 v k ([] : List (List Cell)) c (c.length : Int) 0)) := by kernel_rfl
theorem e32_0 (m : Nat) (t1 : List (List Cell)) (t2 : Int) (t8 : List (List Cell)) (t12 : List (List Cell)) (t13 : Int) (t14 : Int) : goF E (callOf L35) F32 0 (m + 1) P32_0 (M32_0 t1 t2 t8 t12 t13 t14) =
  (cond (decide (t14 < t13))
   (cond (inB t14 t12.length)
    (cond (okVec t1)
     (cond (decide ((nr (Abs.rowAt t12 (Int.toNat t14)) 1) > (cntV t1 (nr (Abs.rowAt t12 (Int.toNat t14)) 0))))
      (cond (fits (t8.length + [[Cell.int .i64 (nr (Abs.rowAt t12 (Int.toNat t14)) 0), Cell.int .i64 (nr (Abs.rowAt t12 (Int.toNat t14)) 1), Cell.int .i64 (nr (Abs.rowAt t12 (Int.toNat t14)) 2), Cell.slice 61 (nl (Abs.rowAt t12 (Int.toNat t14)) 3)]].length))
       (goF E (callOf L35) F32 0 m P32_0 (M32_0 t1 t2 (t8 ++ [[Cell.int .i64 (nr (Abs.rowAt t12 (Int.toNat t14)) 0), Cell.int .i64 (nr (Abs.rowAt t12 (Int.toNat t14)) 1), Cell.int .i64 (nr (Abs.rowAt t12 (Int.toNat t14)) 2), Cell.slice 61 (nl (Abs.rowAt t12 (Int.toNat t14)) 3)]]) t12 t13 (IntKind.wrap .i64 (t14 + 1))))
       none)
      (goF E (callOf L35) F32 0 m P32_0 (M32_0 t1 t2 t8 t12 t13 (IntKind.wrap .i64 (t14 + 1)))))
     none)
    none)
   (cond (inB (if (t8.length : Int) < (if 0 > t2 then 0 else t2) then (t8.length : Int) else (if 0 > t2 then 0 else t2)) (t8.length + 1))
    (cond (okCln (takeN t8 (Int.toNat (if (t8.length : Int) < (if 0 > t2 then 0 else t2) then (t8.length : Int) else (if 0 > t2 then 0 else t2)))))
     (cond (Nat.beq (takeN t8 (Int.toNat (if (t8.length : Int) < (if 0 > t2 then 0 else t2) then (t8.length : Int) else (if 0 > t2 then 0 else t2)))).length (takeN t8 (Int.toNat (if (t8.length : Int) < (if 0 > t2 then 0 else t2) then (t8.length : Int) else (if 0 > t2 then 0 else t2)))).length)
      (some ([.one (.sl false 43 (takeN t8 (Int.toNat (if (t8.length : Int) < (if 0 > t2 then 0 else t2) then (t8.length : Int) else (if 0 > t2 then 0 else t2))))), .one (.bool (decide ((if (t8.length : Int) < (if 0 > t2 then 0 else t2) then (t8.length : Int) else (if 0 > t2 then 0 else t2)) < (t8.length : Int))))], []))
      none)
     none)
    none)) := by kernel_rfl

/- elasticstore/elasticstoreref14.VectorOf -/
noncomputable def P18_0 : List AItem := F18.at [.snd, .snd, .fst, .snd, .sub, .head]
def M18_0 (t0 : List (List Cell)) (t3 : List (List Cell)) (t4 : Int) : St := ⟨[(0, .one (.sl false 43 t0)), (3, .one (.sl false 65 t3)), (4, .one (.int .i64 t4))], []⟩
theorem e18 (m : Nat) (c : List (List Cell)) : runF E (callOf L32) (m + 1) 18 [.one (.sl false 43 c)] [] =
  (goF E (callOf L32) F18 0 m P18_0 (M18_0 c ([] : List (List Cell)) 0)) := by kernel_rfl
theorem e18_0 (m : Nat) (t0 : List (List Cell)) (t3 : List (List Cell)) (t4 : Int) : goF E (callOf L32) F18 0 (m + 1) P18_0 (M18_0 t0 t3 t4) =
  (cond (decide (t4 < (t0.length : Int)))
   (cond (inB t4 t0.length)
    (cond (inB t4 t0.length)
     (cond (okLn t3)
      (cond (okEv t3)
       (goF E (callOf L32) F18 0 m P18_0 (M18_0 t0 (withV t3 (nr (Abs.rowAt t0 (Int.toNat t4)) 0) (IntKind.wrap .i64 ((cntV t3 (nr (Abs.rowAt t0 (Int.toNat t4)) 0)) + 1))) (IntKind.wrap .i64 (t4 + 1))))
       none)
      none)
     none)
    none)
   (some ([.one (.sl false 65 t3)], []))) := by kernel_rfl

/- elasticstore/elasticstoreref14.has -/
noncomputable def P50_0 : List AItem := F50.at [.snd, .fst, .snd, .sub, .head]
def M50_0 (t0 : List (List Cell)) (t5 : Int) (b0 : Int) (b0_1 : Int) (b0_2 : Int) (b0_3 : List (List Cell)) : St := ⟨[(0, .one (.sl false 43 t0)), (3, .one (.ptr 0 0)), (5, .one (.int .i64 t5))], [.var [.int .i64 b0, .int .i64 b0_1, .int .i64 b0_2, .sl false 61 b0_3]]⟩
theorem e50 (m : Nat) (c : List (List Cell)) (ap : Int) (np : Int) (tp : Int) (ep : List (List Cell)) : runF E (callOf L18) (m + 1) 50 [.one (.sl false 43 c), .agg [.int .i64 ap, .int .i64 np, .int .i64 tp, .sl false 61 ep]] [] =
  (goF E (callOf L18) F50 0 m P50_0 (M50_0 c 0 ap np tp ep)) := by kernel_rfl
theorem e50_0 (m : Nat) (t0 : List (List Cell)) (t5 : Int) (b0 : Int) (b0_1 : Int) (b0_2 : Int) (b0_3 : List (List Cell)) : goF E (callOf L18) F50 0 (m + 1) P50_0 (M50_0 t0 t5 b0 b0_1 b0_2 b0_3) =
  (cond (decide (t5 < (t0.length : Int)))
   (cond (inB t5 t0.length)
    (cond ((cmpU (nr (Abs.rowAt t0 (Int.toNat t5)) 0) (nr (Abs.rowAt t0 (Int.toNat t5)) 1) b0 b0_1) == 0)
     (some ([.one (.bool true)], []))
     (goF E (callOf L18) F50 0 m P50_0 (M50_0 t0 (IntKind.wrap .i64 (t5 + 1)) b0 b0_1 b0_2 b0_3)))
    none)
   (some ([.one (.bool false)], []))) := by kernel_rfl

/- elasticstore/elasticstoreref14.Contains -/
noncomputable def P20_0 : List AItem := F20.at [.snd, .fst, .snd, .sub, .head]
def M20_0 (t0 : List (List Cell)) (t1 : List (List Cell)) (t5 : Int) : St := ⟨[(0, .one (.sl false 43 t0)), (1, .one (.sl false 43 t1)), (5, .one (.int .i64 t5))], []⟩
theorem e20 (m : Nat) (c : List (List Cell)) (d : List (List Cell)) : runF E (callOf L50) (m + 1) 20 [.one (.sl false 43 c), .one (.sl false 43 d)] [] =
  (goF E (callOf L50) F20 0 m P20_0 (M20_0 c d 0)) := by kernel_rfl
theorem e20_0 (m : Nat) (t0 : List (List Cell)) (t1 : List (List Cell)) (t5 : Int) : goF E (callOf L50) F20 0 (m + 1) P20_0 (M20_0 t0 t1 t5) =
  (cond (decide (t5 < (t1.length : Int)))
   (cond (inB t5 t1.length)
    (cond (okLn t0)
     (cond (!(hasK t0 (urow (nr (Abs.rowAt t1 (Int.toNat t5)) 0) (nr (Abs.rowAt t1 (Int.toNat t5)) 1) (nr (Abs.rowAt t1 (Int.toNat t5)) 2) (nl (Abs.rowAt t1 (Int.toNat t5)) 3))))
      (some ([.one (.bool false)], []))
      (goF E (callOf L50) F20 0 m P20_0 (M20_0 t0 t1 (IntKind.wrap .i64 (t5 + 1)))))
     none)
    none)
   (some ([.one (.bool true)], []))) := by kernel_rfl

/- elasticstore/elasticstoreref14.Union -/
noncomputable def P24_0 : List AItem := F24.at [.snd, .snd, .snd, .fst, .sub, .head]
def M24_0 (t0 : List (List Cell)) (t1 : List (List Cell)) (t5 : List (List Cell)) (t6 : Int) (t7 : Int) : St := ⟨[(0, .one (.sl false 43 t0)), (1, .one (.sl false 43 t1)), (5, .one (.sl true 43 t5)), (6, .one (.int .i64 t6)), (7, .one (.int .i64 t7))], []⟩
theorem e24 (m : Nat) (c : List (List Cell)) (d : List (List Cell)) : runF E (callOf L20) (m + 1) 24 [.one (.sl false 43 c), .one (.sl false 43 d)] [] =
  (goF E (callOf L20) F24 0 m P24_0 (M24_0 c d ([] : List (List Cell)) 0 0)) := by kernel_rfl
theorem e24_0 (m : Nat) (t0 : List (List Cell)) (t1 : List (List Cell)) (t5 : List (List Cell)) (t6 : Int) (t7 : Int) : goF E (callOf L20) F24 0 (m + 1) P24_0 (M24_0 t0 t1 t5 t6 t7) =
  (cond (decide (t6 < (t0.length : Int)))
   (cond (t7 == (t1.length : Int))
    (cond (inB t6 t0.length)
     (cond (fits (t5.length + [[Cell.int .i64 (nr (Abs.rowAt t0 (Int.toNat t6)) 0), Cell.int .i64 (nr (Abs.rowAt t0 (Int.toNat t6)) 1), Cell.int .i64 (nr (Abs.rowAt t0 (Int.toNat t6)) 2), Cell.slice 61 (nl (Abs.rowAt t0 (Int.toNat t6)) 3)]].length))
      (goF E (callOf L20) F24 0 m P24_0 (M24_0 t0 t1 (t5 ++ [[Cell.int .i64 (nr (Abs.rowAt t0 (Int.toNat t6)) 0), Cell.int .i64 (nr (Abs.rowAt t0 (Int.toNat t6)) 1), Cell.int .i64 (nr (Abs.rowAt t0 (Int.toNat t6)) 2), Cell.slice 61 (nl (Abs.rowAt t0 (Int.toNat t6)) 3)]]) (IntKind.wrap .i64 (t6 + 1)) t7))
      none)
     none)
    (cond (decide (t6 < (t0.length : Int)))
     (cond (inB t6 t0.length)
      (cond (inB t7 t1.length)
       (cond (decide ((cmpU (nr (Abs.rowAt t0 (Int.toNat t6)) 0) (nr (Abs.rowAt t0 (Int.toNat t6)) 1) (nr (Abs.rowAt t1 (Int.toNat t7)) 0) (nr (Abs.rowAt t1 (Int.toNat t7)) 1)) < 0))
        (cond (inB t6 t0.length)
         (cond (fits (t5.length + [[Cell.int .i64 (nr (Abs.rowAt t0 (Int.toNat t6)) 0), Cell.int .i64 (nr (Abs.rowAt t0 (Int.toNat t6)) 1), Cell.int .i64 (nr (Abs.rowAt t0 (Int.toNat t6)) 2), Cell.slice 61 (nl (Abs.rowAt t0 (Int.toNat t6)) 3)]].length))
          (goF E (callOf L20) F24 0 m P24_0 (M24_0 t0 t1 (t5 ++ [[Cell.int .i64 (nr (Abs.rowAt t0 (Int.toNat t6)) 0), Cell.int .i64 (nr (Abs.rowAt t0 (Int.toNat t6)) 1), Cell.int .i64 (nr (Abs.rowAt t0 (Int.toNat t6)) 2), Cell.slice 61 (nl (Abs.rowAt t0 (Int.toNat t6)) 3)]]) (IntKind.wrap .i64 (t6 + 1)) t7))
          none)
         none)
        (cond (t6 == (t0.length : Int))
         (cond (inB t7 t1.length)
          (cond (fits (t5.length + [[Cell.int .i64 (nr (Abs.rowAt t1 (Int.toNat t7)) 0), Cell.int .i64 (nr (Abs.rowAt t1 (Int.toNat t7)) 1), Cell.int .i64 (nr (Abs.rowAt t1 (Int.toNat t7)) 2), Cell.slice 61 (nl (Abs.rowAt t1 (Int.toNat t7)) 3)]].length))
           (goF E (callOf L20) F24 0 m P24_0 (M24_0 t0 t1 (t5 ++ [[Cell.int .i64 (nr (Abs.rowAt t1 (Int.toNat t7)) 0), Cell.int .i64 (nr (Abs.rowAt t1 (Int.toNat t7)) 1), Cell.int .i64 (nr (Abs.rowAt t1 (Int.toNat t7)) 2), Cell.slice 61 (nl (Abs.rowAt t1 (Int.toNat t7)) 3)]]) t6 (IntKind.wrap .i64 (t7 + 1))))
           none)
          none)
         (cond (inB t6 t0.length)
          (cond (inB t7 t1.length)
           (cond (decide ((cmpU (nr (Abs.rowAt t0 (Int.toNat t6)) 0) (nr (Abs.rowAt t0 (Int.toNat t6)) 1) (nr (Abs.rowAt t1 (Int.toNat t7)) 0) (nr (Abs.rowAt t1 (Int.toNat t7)) 1)) > 0))
            (cond (inB t7 t1.length)
             (cond (fits (t5.length + [[Cell.int .i64 (nr (Abs.rowAt t1 (Int.toNat t7)) 0), Cell.int .i64 (nr (Abs.rowAt t1 (Int.toNat t7)) 1), Cell.int .i64 (nr (Abs.rowAt t1 (Int.toNat t7)) 2), Cell.slice 61 (nl (Abs.rowAt t1 (Int.toNat t7)) 3)]].length))
              (goF E (callOf L20) F24 0 m P24_0 (M24_0 t0 t1 (t5 ++ [[Cell.int .i64 (nr (Abs.rowAt t1 (Int.toNat t7)) 0), Cell.int .i64 (nr (Abs.rowAt t1 (Int.toNat t7)) 1), Cell.int .i64 (nr (Abs.rowAt t1 (Int.toNat t7)) 2), Cell.slice 61 (nl (Abs.rowAt t1 (Int.toNat t7)) 3)]]) t6 (IntKind.wrap .i64 (t7 + 1))))
              none)
             none)
            (cond (inB t6 t0.length)
             (cond (fits (t5.length + [[Cell.int .i64 (nr (Abs.rowAt t0 (Int.toNat t6)) 0), Cell.int .i64 (nr (Abs.rowAt t0 (Int.toNat t6)) 1), Cell.int .i64 (nr (Abs.rowAt t0 (Int.toNat t6)) 2), Cell.slice 61 (nl (Abs.rowAt t0 (Int.toNat t6)) 3)]].length))
              (goF E (callOf L20) F24 0 m P24_0 (M24_0 t0 t1 (t5 ++ [[Cell.int .i64 (nr (Abs.rowAt t0 (Int.toNat t6)) 0), Cell.int .i64 (nr (Abs.rowAt t0 (Int.toNat t6)) 1), Cell.int .i64 (nr (Abs.rowAt t0 (Int.toNat t6)) 2), Cell.slice 61 (nl (Abs.rowAt t0 (Int.toNat t6)) 3)]]) (IntKind.wrap .i64 (t6 + 1)) (IntKind.wrap .i64 (t7 + 1))))
              none)
             none))
           none)
          none)))
       none)
      none)
     (cond (t6 == (t0.length : Int))
      (cond (inB t7 t1.length)
       (cond (fits (t5.length + [[Cell.int .i64 (nr (Abs.rowAt t1 (Int.toNat t7)) 0), Cell.int .i64 (nr (Abs.rowAt t1 (Int.toNat t7)) 1), Cell.int .i64 (nr (Abs.rowAt t1 (Int.toNat t7)) 2), Cell.slice 61 (nl (Abs.rowAt t1 (Int.toNat t7)) 3)]].length))
        (goF E (callOf L20) F24 0 m P24_0 (M24_0 t0 t1 (t5 ++ [[Cell.int .i64 (nr (Abs.rowAt t1 (Int.toNat t7)) 0), Cell.int .i64 (nr (Abs.rowAt t1 (Int.toNat t7)) 1), Cell.int .i64 (nr (Abs.rowAt t1 (Int.toNat t7)) 2), Cell.slice 61 (nl (Abs.rowAt t1 (Int.toNat t7)) 3)]]) t6 (IntKind.wrap .i64 (t7 + 1))))
        none)
       none)
      (cond (inB t6 t0.length)
       (cond (inB t7 t1.length)
        (cond (decide ((cmpU (nr (Abs.rowAt t0 (Int.toNat t6)) 0) (nr (Abs.rowAt t0 (Int.toNat t6)) 1) (nr (Abs.rowAt t1 (Int.toNat t7)) 0) (nr (Abs.rowAt t1 (Int.toNat t7)) 1)) > 0))
         (cond (inB t7 t1.length)
          (cond (fits (t5.length + [[Cell.int .i64 (nr (Abs.rowAt t1 (Int.toNat t7)) 0), Cell.int .i64 (nr (Abs.rowAt t1 (Int.toNat t7)) 1), Cell.int .i64 (nr (Abs.rowAt t1 (Int.toNat t7)) 2), Cell.slice 61 (nl (Abs.rowAt t1 (Int.toNat t7)) 3)]].length))
           (goF E (callOf L20) F24 0 m P24_0 (M24_0 t0 t1 (t5 ++ [[Cell.int .i64 (nr (Abs.rowAt t1 (Int.toNat t7)) 0), Cell.int .i64 (nr (Abs.rowAt t1 (Int.toNat t7)) 1), Cell.int .i64 (nr (Abs.rowAt t1 (Int.toNat t7)) 2), Cell.slice 61 (nl (Abs.rowAt t1 (Int.toNat t7)) 3)]]) t6 (IntKind.wrap .i64 (t7 + 1))))
           none)
          none)
         (cond (inB t6 t0.length)
          (cond (fits (t5.length + [[Cell.int .i64 (nr (Abs.rowAt t0 (Int.toNat t6)) 0), Cell.int .i64 (nr (Abs.rowAt t0 (Int.toNat t6)) 1), Cell.int .i64 (nr (Abs.rowAt t0 (Int.toNat t6)) 2), Cell.slice 61 (nl (Abs.rowAt t0 (Int.toNat t6)) 3)]].length))
           (goF E (callOf L20) F24 0 m P24_0 (M24_0 t0 t1 (t5 ++ [[Cell.int .i64 (nr (Abs.rowAt t0 (Int.toNat t6)) 0), Cell.int .i64 (nr (Abs.rowAt t0 (Int.toNat t6)) 1), Cell.int .i64 (nr (Abs.rowAt t0 (Int.toNat t6)) 2), Cell.slice 61 (nl (Abs.rowAt t0 (Int.toNat t6)) 3)]]) (IntKind.wrap .i64 (t6 + 1)) (IntKind.wrap .i64 (t7 + 1))))
           none)
          none))
        none)
       none))))
   (cond (decide (t7 < (t1.length : Int)))
    (cond (t7 == (t1.length : Int))
     (cond (inB t6 t0.length)
      (cond (fits (t5.length + [[Cell.int .i64 (nr (Abs.rowAt t0 (Int.toNat t6)) 0), Cell.int .i64 (nr (Abs.rowAt t0 (Int.toNat t6)) 1), Cell.int .i64 (nr (Abs.rowAt t0 (Int.toNat t6)) 2), Cell.slice 61 (nl (Abs.rowAt t0 (Int.toNat t6)) 3)]].length))
       (goF E (callOf L20) F24 0 m P24_0 (M24_0 t0 t1 (t5 ++ [[Cell.int .i64 (nr (Abs.rowAt t0 (Int.toNat t6)) 0), Cell.int .i64 (nr (Abs.rowAt t0 (Int.toNat t6)) 1), Cell.int .i64 (nr (Abs.rowAt t0 (Int.toNat t6)) 2), Cell.slice 61 (nl (Abs.rowAt t0 (Int.toNat t6)) 3)]]) (IntKind.wrap .i64 (t6 + 1)) t7))
       none)
      none)
     (cond (decide (t6 < (t0.length : Int)))
      (cond (inB t6 t0.length)
       (cond (inB t7 t1.length)
        (cond (decide ((cmpU (nr (Abs.rowAt t0 (Int.toNat t6)) 0) (nr (Abs.rowAt t0 (Int.toNat t6)) 1) (nr (Abs.rowAt t1 (Int.toNat t7)) 0) (nr (Abs.rowAt t1 (Int.toNat t7)) 1)) < 0))
         (cond (inB t6 t0.length)
          (cond (fits (t5.length + [[Cell.int .i64 (nr (Abs.rowAt t0 (Int.toNat t6)) 0), Cell.int .i64 (nr (Abs.rowAt t0 (Int.toNat t6)) 1), Cell.int .i64 (nr (Abs.rowAt t0 (Int.toNat t6)) 2), Cell.slice 61 (nl (Abs.rowAt t0 (Int.toNat t6)) 3)]].length))
           (goF E (callOf L20) F24 0 m P24_0 (M24_0 t0 t1 (t5 ++ [[Cell.int .i64 (nr (Abs.rowAt t0 (Int.toNat t6)) 0), Cell.int .i64 (nr (Abs.rowAt t0 (Int.toNat t6)) 1), Cell.int .i64 (nr (Abs.rowAt t0 (Int.toNat t6)) 2), Cell.slice 61 (nl (Abs.rowAt t0 (Int.toNat t6)) 3)]]) (IntKind.wrap .i64 (t6 + 1)) t7))
           none)
          none)
         (cond (t6 == (t0.length : Int))
          (cond (inB t7 t1.length)
           (cond (fits (t5.length + [[Cell.int .i64 (nr (Abs.rowAt t1 (Int.toNat t7)) 0), Cell.int .i64 (nr (Abs.rowAt t1 (Int.toNat t7)) 1), Cell.int .i64 (nr (Abs.rowAt t1 (Int.toNat t7)) 2), Cell.slice 61 (nl (Abs.rowAt t1 (Int.toNat t7)) 3)]].length))
            (goF E (callOf L20) F24 0 m P24_0 (M24_0 t0 t1 (t5 ++ [[Cell.int .i64 (nr (Abs.rowAt t1 (Int.toNat t7)) 0), Cell.int .i64 (nr (Abs.rowAt t1 (Int.toNat t7)) 1), Cell.int .i64 (nr (Abs.rowAt t1 (Int.toNat t7)) 2), Cell.slice 61 (nl (Abs.rowAt t1 (Int.toNat t7)) 3)]]) t6 (IntKind.wrap .i64 (t7 + 1))))
            none)
           none)
          (cond (inB t6 t0.length)
           (cond (inB t7 t1.length)
            (cond (decide ((cmpU (nr (Abs.rowAt t0 (Int.toNat t6)) 0) (nr (Abs.rowAt t0 (Int.toNat t6)) 1) (nr (Abs.rowAt t1 (Int.toNat t7)) 0) (nr (Abs.rowAt t1 (Int.toNat t7)) 1)) > 0))
             (cond (inB t7 t1.length)
              (cond (fits (t5.length + [[Cell.int .i64 (nr (Abs.rowAt t1 (Int.toNat t7)) 0), Cell.int .i64 (nr (Abs.rowAt t1 (Int.toNat t7)) 1), Cell.int .i64 (nr (Abs.rowAt t1 (Int.toNat t7)) 2), Cell.slice 61 (nl (Abs.rowAt t1 (Int.toNat t7)) 3)]].length))
               (goF E (callOf L20) F24 0 m P24_0 (M24_0 t0 t1 (t5 ++ [[Cell.int .i64 (nr (Abs.rowAt t1 (Int.toNat t7)) 0), Cell.int .i64 (nr (Abs.rowAt t1 (Int.toNat t7)) 1), Cell.int .i64 (nr (Abs.rowAt t1 (Int.toNat t7)) 2), Cell.slice 61 (nl (Abs.rowAt t1 (Int.toNat t7)) 3)]]) t6 (IntKind.wrap .i64 (t7 + 1))))
               none)
              none)
             (cond (inB t6 t0.length)
              (cond (fits (t5.length + [[Cell.int .i64 (nr (Abs.rowAt t0 (Int.toNat t6)) 0), Cell.int .i64 (nr (Abs.rowAt t0 (Int.toNat t6)) 1), Cell.int .i64 (nr (Abs.rowAt t0 (Int.toNat t6)) 2), Cell.slice 61 (nl (Abs.rowAt t0 (Int.toNat t6)) 3)]].length))
               (goF E (callOf L20) F24 0 m P24_0 (M24_0 t0 t1 (t5 ++ [[Cell.int .i64 (nr (Abs.rowAt t0 (Int.toNat t6)) 0), Cell.int .i64 (nr (Abs.rowAt t0 (Int.toNat t6)) 1), Cell.int .i64 (nr (Abs.rowAt t0 (Int.toNat t6)) 2), Cell.slice 61 (nl (Abs.rowAt t0 (Int.toNat t6)) 3)]]) (IntKind.wrap .i64 (t6 + 1)) (IntKind.wrap .i64 (t7 + 1))))
               none)
              none))
            none)
           none)))
        none)
       none)
      (cond (t6 == (t0.length : Int))
       (cond (inB t7 t1.length)
        (cond (fits (t5.length + [[Cell.int .i64 (nr (Abs.rowAt t1 (Int.toNat t7)) 0), Cell.int .i64 (nr (Abs.rowAt t1 (Int.toNat t7)) 1), Cell.int .i64 (nr (Abs.rowAt t1 (Int.toNat t7)) 2), Cell.slice 61 (nl (Abs.rowAt t1 (Int.toNat t7)) 3)]].length))
         (goF E (callOf L20) F24 0 m P24_0 (M24_0 t0 t1 (t5 ++ [[Cell.int .i64 (nr (Abs.rowAt t1 (Int.toNat t7)) 0), Cell.int .i64 (nr (Abs.rowAt t1 (Int.toNat t7)) 1), Cell.int .i64 (nr (Abs.rowAt t1 (Int.toNat t7)) 2), Cell.slice 61 (nl (Abs.rowAt t1 (Int.toNat t7)) 3)]]) t6 (IntKind.wrap .i64 (t7 + 1))))
         none)
        none)
       (cond (inB t6 t0.length)
        (cond (inB t7 t1.length)
         (cond (decide ((cmpU (nr (Abs.rowAt t0 (Int.toNat t6)) 0) (nr (Abs.rowAt t0 (Int.toNat t6)) 1) (nr (Abs.rowAt t1 (Int.toNat t7)) 0) (nr (Abs.rowAt t1 (Int.toNat t7)) 1)) > 0))
          (cond (inB t7 t1.length)
           (cond (fits (t5.length + [[Cell.int .i64 (nr (Abs.rowAt t1 (Int.toNat t7)) 0), Cell.int .i64 (nr (Abs.rowAt t1 (Int.toNat t7)) 1), Cell.int .i64 (nr (Abs.rowAt t1 (Int.toNat t7)) 2), Cell.slice 61 (nl (Abs.rowAt t1 (Int.toNat t7)) 3)]].length))
            (goF E (callOf L20) F24 0 m P24_0 (M24_0 t0 t1 (t5 ++ [[Cell.int .i64 (nr (Abs.rowAt t1 (Int.toNat t7)) 0), Cell.int .i64 (nr (Abs.rowAt t1 (Int.toNat t7)) 1), Cell.int .i64 (nr (Abs.rowAt t1 (Int.toNat t7)) 2), Cell.slice 61 (nl (Abs.rowAt t1 (Int.toNat t7)) 3)]]) t6 (IntKind.wrap .i64 (t7 + 1))))
            none)
           none)
          (cond (inB t6 t0.length)
           (cond (fits (t5.length + [[Cell.int .i64 (nr (Abs.rowAt t0 (Int.toNat t6)) 0), Cell.int .i64 (nr (Abs.rowAt t0 (Int.toNat t6)) 1), Cell.int .i64 (nr (Abs.rowAt t0 (Int.toNat t6)) 2), Cell.slice 61 (nl (Abs.rowAt t0 (Int.toNat t6)) 3)]].length))
            (goF E (callOf L20) F24 0 m P24_0 (M24_0 t0 t1 (t5 ++ [[Cell.int .i64 (nr (Abs.rowAt t0 (Int.toNat t6)) 0), Cell.int .i64 (nr (Abs.rowAt t0 (Int.toNat t6)) 1), Cell.int .i64 (nr (Abs.rowAt t0 (Int.toNat t6)) 2), Cell.slice 61 (nl (Abs.rowAt t0 (Int.toNat t6)) 3)]]) (IntKind.wrap .i64 (t6 + 1)) (IntKind.wrap .i64 (t7 + 1))))
            none)
           none))
         none)
        none))))
    (some ([.one (.sl false 43 t5)], [])))) := by kernel_rfl

/- elasticstore/elasticstoreref14.Agree -/
noncomputable def P44_0 : List AItem := F44.at [.snd, .fst, .snd, .sub, .head]
def M44_0 (t0 : List (List Cell)) (t1 : List (List Cell)) (t5 : Int) : St := ⟨[(0, .one (.sl false 43 t0)), (1, .one (.sl false 43 t1)), (5, .one (.int .i64 t5))], []⟩
noncomputable def P44_1 : List AItem := F44.at [.snd, .fst, .snd, .sub, .body, .snd, .fst, .sub, .snd, .sub, .head]
def M44_1 (t0 : List (List Cell)) (t1 : List (List Cell)) (t5 : Int) (t6 : Int) : St := ⟨[(0, .one (.sl false 43 t0)), (1, .one (.sl false 43 t1)), (5, .one (.int .i64 t5)), (6, .one (.int .i64 t6))], []⟩
theorem e44 (m : Nat) (c : List (List Cell)) (d : List (List Cell)) : runF E (callOf L24) (m + 1) 44 [.one (.sl false 43 c), .one (.sl false 43 d)] [] =
  (goF E (callOf L24) F44 0 m P44_0 (M44_0 c d 0)) := by kernel_rfl
theorem e44_0 (m : Nat) (t0 : List (List Cell)) (t1 : List (List Cell)) (t5 : Int) : goF E (callOf L24) F44 0 (m + 1) P44_0 (M44_0 t0 t1 t5) =
  (cond (decide (t5 < (t0.length : Int)))
   (goF E (callOf L24) F44 0 m P44_1 (M44_1 t0 t1 t5 0))
   (some ([.one (.bool true)], []))) := by kernel_rfl
theorem e44_1 (m : Nat) (t0 : List (List Cell)) (t1 : List (List Cell)) (t5 : Int) (t6 : Int) : goF E (callOf L24) F44 0 (m + 1) P44_1 (M44_1 t0 t1 t5 t6) =
  (cond (decide (t6 < (t1.length : Int)))
   (cond (inB t5 t0.length)
    (cond (inB t6 t1.length)
     (cond ((cmpU (nr (Abs.rowAt t0 (Int.toNat t5)) 0) (nr (Abs.rowAt t0 (Int.toNat t5)) 1) (nr (Abs.rowAt t1 (Int.toNat t6)) 0) (nr (Abs.rowAt t1 (Int.toNat t6)) 1)) == 0)
      (cond (inB t5 t0.length)
       (cond (inB t6 t1.length)
        (cond (decide ((nl (Abs.rowAt t0 (Int.toNat t5)) 3).length < 4611686018427387904))
         (cond (!(eqU (nr (Abs.rowAt t0 (Int.toNat t5)) 0) (nr (Abs.rowAt t0 (Int.toNat t5)) 1) (nr (Abs.rowAt t0 (Int.toNat t5)) 2) (nl (Abs.rowAt t0 (Int.toNat t5)) 3) (nr (Abs.rowAt t1 (Int.toNat t6)) 0) (nr (Abs.rowAt t1 (Int.toNat t6)) 1) (nr (Abs.rowAt t1 (Int.toNat t6)) 2) (nl (Abs.rowAt t1 (Int.toNat t6)) 3)))
          (some ([.one (.bool false)], []))
          (goF E (callOf L24) F44 0 m P44_1 (M44_1 t0 t1 t5 (IntKind.wrap .i64 (t6 + 1)))))
         none)
        none)
       none)
      (goF E (callOf L24) F44 0 m P44_1 (M44_1 t0 t1 t5 (IntKind.wrap .i64 (t6 + 1)))))
     none)
    none)
   (goF E (callOf L24) F44 0 m P44_0 (M44_0 t0 t1 (IntKind.wrap .i64 (t5 + 1))))) := by kernel_rfl

/- elasticstore/elasticstorelaw00.ValidStates -/
noncomputable def P15_0 : List AItem := F15.at [.snd, .fst, .snd, .sub, .head]
def M15_0 (t0 : List (List Cell)) (t3 : Int) : St := ⟨[(0, .one (.sl false 23 t0)), (3, .one (.int .i64 t3))], []⟩
noncomputable def P15_1 : List AItem := F15.at [.snd, .fst, .snd, .sub, .body, .snd, .fst, .sub, .snd, .snd, .sub, .head]
def M15_1 (t0 : List (List Cell)) (t3 : Int) (t4 : Int) : St := ⟨[(0, .one (.sl false 23 t0)), (3, .one (.int .i64 t3)), (4, .one (.int .i64 t4))], []⟩
theorem e15 (m : Nat) (l : List (List Cell)) : runF E (callOf L44) (m + 1) 15 [.one (.sl false 23 l)] [] =
  (goF E (callOf L44) F15 0 m P15_0 (M15_0 l 0)) := by kernel_rfl
theorem e15_0 (m : Nat) (t0 : List (List Cell)) (t3 : Int) : goF E (callOf L44) F15 0 (m + 1) P15_0 (M15_0 t0 t3) =
  (cond (decide (t3 < (t0.length : Int)))
   (cond (inB t3 t0.length)
    (cond (okLn (nl (Abs.rowAt t0 (Int.toNat t3)) 0))
     (cond ((vSt (nl (Abs.rowAt t0 (Int.toNat t3)) 0)) != 0)
      (some ([.one (.bool false)], []))
      (goF E (callOf L44) F15 0 m P15_1 (M15_1 t0 t3 0)))
     none)
    none)
   (some ([.one (.bool true)], []))) := by kernel_rfl
theorem e15_1 (m : Nat) (t0 : List (List Cell)) (t3 : Int) (t4 : Int) : goF E (callOf L44) F15 0 (m + 1) P15_1 (M15_1 t0 t3 t4) =
  (cond (decide (t4 < t3))
   (cond (inB t3 t0.length)
    (cond (inB t4 t0.length)
     (cond (okRows (nl (Abs.rowAt t0 (Int.toNat t3)) 0) && okLn (nl (Abs.rowAt t0 (Int.toNat t4)) 0))
      (cond (!(agrS (nl (Abs.rowAt t0 (Int.toNat t3)) 0) (nl (Abs.rowAt t0 (Int.toNat t4)) 0)))
       (some ([.one (.bool false)], []))
       (goF E (callOf L44) F15 0 m P15_1 (M15_1 t0 t3 (IntKind.wrap .i64 (t4 + 1)))))
      none)
     none)
    none)
   (goF E (callOf L44) F15 0 m P15_0 (M15_0 t0 (IntKind.wrap .i64 (t3 + 1))))) := by kernel_rfl

/- elasticstore/elasticstoreref14.AddUpdate -/
theorem e30 (m : Nat) (c : List (List Cell)) (ap : Int) (np : Int) (tp : Int) (ep : List (List Cell)) : runF E (callOf L15) (m + 1) 30 [.one (.sl false 43 c), .agg [.int .i64 ap, .int .i64 np, .int .i64 tp, .sl false 61 ep]] [] =
  (cond ((vUpd ap np tp ep) != 0)
   (some ([.one (.sl false 43 ([] : List (List Cell))), .one (.int .i64 (vUpd ap np tp ep))], []))
   (cond (okLn c)
    (cond (hasK c (urow ap np tp ep))
     (some ([.one (.sl false 43 ([] : List (List Cell))), .one (.int .i64 5)], []))
     (cond (okLn c)
      (cond (okLn (vecR c))
       (cond (np != (IntKind.wrap .i64 ((cntV (vecR c) ap) + 1)))
        (some ([.one (.sl false 43 ([] : List (List Cell))), .one (.int .i64 8)], []))
        (cond (okCf c && okCf [[Cell.int .i64 ap, Cell.int .i64 np, Cell.int .i64 tp, Cell.slice 61 ep]])
         (some ([.one (.sl false 43 (mrgK c [[Cell.int .i64 ap, Cell.int .i64 np, Cell.int .i64 tp, Cell.slice 61 ep]])), .one (.int .i64 0)], []))
         none))
       none)
      none))
    none)) := by kernel_rfl

/- elasticstore/elasticstoreref14.Beyond -/
noncomputable def P33_0 : List AItem := F33.at [.snd, .snd, .fst, .snd, .sub, .head]
def M33_0 (t0 : List (List Cell)) (t1 : List (List Cell)) (t2 : Int) (t8 : List (List Cell)) (t9 : Int) : St := ⟨[(0, .one (.sl false 43 t0)), (1, .one (.sl false 65 t1)), (2, .one (.int .i64 t2)), (8, .one (.sl true 43 t8)), (9, .one (.int .i64 t9))], []⟩
theorem e33 (m : Nat) (c : List (List Cell)) (v : List (List Cell)) (k : Int) : runF E (callOf L30) (m + 1) 33 [.one (.sl false 43 c), .one (.sl false 65 v), .one (.int .i64 k)] [] =
  (goF E (callOf L30) F33 0 m P33_0 (M33_0 c v k ([] : List (List Cell)) 0)) := by kernel_rfl
theorem e33_0 (m : Nat) (t0 : List (List Cell)) (t1 : List (List Cell)) (t2 : Int) (t8 : List (List Cell)) (t9 : Int) : goF E (callOf L30) F33 0 (m + 1) P33_0 (M33_0 t0 t1 t2 t8 t9) =
  (cond (decide (t9 < (t0.length : Int)))
   (cond (inB t9 t0.length)
    (cond (inB t9 t0.length)
     (cond (okLn t1)
      (cond (decide ((nr (Abs.rowAt t0 (Int.toNat t9)) 1) ≤ (cntV t1 (nr (Abs.rowAt t0 (Int.toNat t9)) 0))))
       (goF E (callOf L30) F33 0 m P33_0 (M33_0 t0 t1 t2 t8 (IntKind.wrap .i64 (t9 + 1))))
       (cond (decide ((t8.length : Int) ≥ t2))
        (some ([.one (.sl false 43 t8), .one (.bool true)], []))
        (cond (inB t9 t0.length)
         (cond (fits (t8.length + [[Cell.int .i64 (nr (Abs.rowAt t0 (Int.toNat t9)) 0), Cell.int .i64 (nr (Abs.rowAt t0 (Int.toNat t9)) 1), Cell.int .i64 (nr (Abs.rowAt t0 (Int.toNat t9)) 2), Cell.slice 61 (nl (Abs.rowAt t0 (Int.toNat t9)) 3)]].length))
          (goF E (callOf L30) F33 0 m P33_0 (M33_0 t0 t1 t2 (t8 ++ [[Cell.int .i64 (nr (Abs.rowAt t0 (Int.toNat t9)) 0), Cell.int .i64 (nr (Abs.rowAt t0 (Int.toNat t9)) 1), Cell.int .i64 (nr (Abs.rowAt t0 (Int.toNat t9)) 2), Cell.slice 61 (nl (Abs.rowAt t0 (Int.toNat t9)) 3)]]) (IntKind.wrap .i64 (t9 + 1))))
          none)
         none)))
      none)
     none)
    none)
   (some ([.one (.sl false 43 t8), .one (.bool false)], []))) := by kernel_rfl

/- elasticstore/elasticstorelaw00.Some -/
noncomputable def P26_0 : List AItem := F26.at [.snd, .snd, .fst, .snd, .sub, .head]
def M26_0 (t0 : List (List Cell)) (t1 : Int) (t5 : List (List Cell)) (t6 : Int) : St := ⟨[(0, .one (.sl false 43 t0)), (1, .one (.int .i64 t1)), (5, .one (.sl true 43 t5)), (6, .one (.int .i64 t6))], []⟩
theorem e26 (m : Nat) (c : List (List Cell)) (k : Int) : runF E (callOf L33) (m + 1) 26 [.one (.sl false 43 c), .one (.int .i64 k)] [] =
  (goF E (callOf L33) F26 0 m P26_0 (M26_0 c k ([] : List (List Cell)) 0)) := by kernel_rfl
theorem e26_0 (m : Nat) (t0 : List (List Cell)) (t1 : Int) (t5 : List (List Cell)) (t6 : Int) : goF E (callOf L33) F26 0 (m + 1) P26_0 (M26_0 t0 t1 t5 t6) =
  (cond (decide (t6 < (t0.length : Int)))
   (cond (inB t6 t0.length)
    (cond (inB t6 t0.length)
     (cond (decide (2 ≤ 9) && decide ((IntKind.wrap .i64 ((nr (Abs.rowAt t0 (Int.toNat t6)) 0) - 101)) ≤ 9223372036854775807))
      (cond (decide ((nr (Abs.rowAt t0 (Int.toNat t6)) 1) ≤ (gDigit t1 9 (IntKind.wrap .i64 ((nr (Abs.rowAt t0 (Int.toNat t6)) 0) - 101)))))
       (cond (inB t6 t0.length)
        (cond (fits (t5.length + [[Cell.int .i64 (nr (Abs.rowAt t0 (Int.toNat t6)) 0), Cell.int .i64 (nr (Abs.rowAt t0 (Int.toNat t6)) 1), Cell.int .i64 (nr (Abs.rowAt t0 (Int.toNat t6)) 2), Cell.slice 61 (nl (Abs.rowAt t0 (Int.toNat t6)) 3)]].length))
         (goF E (callOf L33) F26 0 m P26_0 (M26_0 t0 t1 (t5 ++ [[Cell.int .i64 (nr (Abs.rowAt t0 (Int.toNat t6)) 0), Cell.int .i64 (nr (Abs.rowAt t0 (Int.toNat t6)) 1), Cell.int .i64 (nr (Abs.rowAt t0 (Int.toNat t6)) 2), Cell.slice 61 (nl (Abs.rowAt t0 (Int.toNat t6)) 3)]]) (IntKind.wrap .i64 (t6 + 1))))
         none)
        none)
       (goF E (callOf L33) F26 0 m P26_0 (M26_0 t0 t1 t5 (IntKind.wrap .i64 (t6 + 1)))))
      none)
     none)
    none)
   (some ([.one (.sl false 43 t5)], []))) := by kernel_rfl

/- elasticstore/elasticstorelaw12.short -/
theorem e11 (m : Nat) (c : List (List Cell)) : runF E (callOf L26) (m + 1) 11 [.one (.sl false 43 c)] [] =
  (some ([.one (.bool (decide ((c.length : Int) ≤ 60)))], [])) := by kernel_rfl

/- elasticstore/elasticstorelaw12.StateValidate -/
theorem e3 (m : Nat) (c : List (List Cell)) : runF E (callOf L12) (m + 1) 3 [.one (.sl false 43 c)] [] =
  (cond (decide (c.length < 9223372036854775808))
   (cond (!(decide (c.length ≤ 60)))
    (some ([.one (.bool true)], []))
    (cond (okLn c)
     (cond (okLn c)
      (cond ((vSt c) == (vSt c))
       (some ([.one (.bool true)], []))
       (some ([.one (.bool false)], [])))
      none)
     none))
   none) := by kernel_rfl

/- elasticstore/elasticstorelaw12.StatePair -/
theorem e4 (m : Nat) (c : List (List Cell)) (d : List (List Cell)) : runF E (callOf L3) (m + 1) 4 [.one (.sl false 43 c), .one (.sl false 43 d)] [] =
  (cond (decide (c.length < 9223372036854775808))
   (cond (!(decide (c.length ≤ 60)))
    (some ([.one (.bool true)], []))
    (cond (decide (d.length < 9223372036854775808))
     (cond (!(decide (d.length ≤ 60)))
      (some ([.one (.bool true)], []))
      (cond (okSl [[Cell.slice 43 c], [Cell.slice 43 d]])
       (cond (!(validSs [[Cell.slice 43 c], [Cell.slice 43 d]]))
        (some ([.one (.bool true)], []))
        (cond (okLn c)
         (cond (okLn c)
          (cond (okLn (vecK c))
           (cond (eqVec (vecK c) (vecR c))
            (cond (okSrt c && okLn d)
             (cond (okLn c && okLn d)
              (cond ((contK c d) == (contK c d))
               (cond (okSrt c && okSrt d)
                (cond (okLn c && okLn d)
                 (cond (contK c d)
                  (cond (okLn d && okLn c)
                   (cond ((contK c d && contK d c) == (contK d c))
                    (cond (okUn c d)
                     (cond (okCf c && okCf d)
                      (cond (okRows (uniK c d))
                       (cond (eqSt (uniK c d) (mrgK c d))
                        (some ([.one (.bool true)], []))
                        (some ([.one (.bool false)], [])))
                       none)
                      none)
                     none)
                    (some ([.one (.bool false)], [])))
                   none)
                  (cond ((contK c d && contK d c) == false)
                   (cond (okUn c d)
                    (cond (okCf c && okCf d)
                     (cond (okRows (uniK c d))
                      (cond (eqSt (uniK c d) (mrgK c d))
                       (some ([.one (.bool true)], []))
                       (some ([.one (.bool false)], [])))
                      none)
                     none)
                    none)
                   (some ([.one (.bool false)], []))))
                 none)
                none)
               (some ([.one (.bool false)], [])))
              none)
             none)
            (some ([.one (.bool false)], [])))
           none)
          none)
         none))
       none))
     none))
   none) := by kernel_rfl

/- elasticstore/elasticstorelaw12.StateAdd -/
theorem e6 (m : Nat) (c : List (List Cell)) (ap : Int) (np : Int) (tp : Int) (ep : List (List Cell)) : runF E (callOf L4) (m + 1) 6 [.one (.sl false 43 c), .agg [.int .i64 ap, .int .i64 np, .int .i64 tp, .sl false 61 ep]] [] =
  (cond (decide (c.length < 9223372036854775808))
   (cond (!(decide (c.length ≤ 60)))
    (some ([.one (.bool true)], []))
    (cond (decide ((ep.length : Int) > 60))
     (some ([.one (.bool true)], []))
     (cond (okLn c)
      (cond ((vSt c) != 0)
       (some ([.one (.bool true)], []))
       (cond (fits (([] : List (List Cell)).length + c.length))
        (cond (okCl c && okEf ep)
         (cond (okCf c)
          (cond ((addS c ap np tp ep).2 == (addR c ap np tp ep).2)
           (cond (okRows (addS c ap np tp ep).1)
            (cond (eqSt (addS c ap np tp ep).1 (addR c ap np tp ep).1)
             (cond (okRows c)
              (cond (eqSt c (([] : List (List Cell)) ++ c))
               (some ([.one (.bool true)], []))
               (some ([.one (.bool false)], [])))
              none)
             (some ([.one (.bool false)], [])))
            none)
           (some ([.one (.bool false)], [])))
          none)
         none)
        none))
      none)))
   none) := by kernel_rfl

/- elasticstore/elasticstorelaw12.StateBeyond -/
theorem e7 (m : Nat) (c : List (List Cell)) (v : List (List Cell)) (k : Int) : runF E (callOf L6) (m + 1) 7 [.one (.sl false 43 c), .one (.sl false 65 v), .one (.int .i64 k)] [] =
  (cond (decide (c.length < 9223372036854775808))
   (cond (!(decide (c.length ≤ 60)))
    (some ([.one (.bool true)], []))
    (cond (decide ((v.length : Int) > 40))
     (some ([.one (.bool true)], []))
     (cond (okLn c)
      (cond ((vSt c) != 0)
       (some ([.one (.bool true)], []))
       (cond (okLn v)
        (cond ((vVec v) != 0)
         (some ([.one (.bool true)], []))
         (cond (okCl c && okVec v)
          (cond (okCf c && okLn v)
           (cond (okRows (beyS c v k).1)
            (cond (eqSt (beyS c v k).1 (beyR c v k).1)
             (cond ((beyS c v k).2 == (beyR c v k).2)
              (some ([.one (.bool true)], []))
              (some ([.one (.bool false)], [])))
             (some ([.one (.bool false)], [])))
            none)
           none)
          none))
        none))
      none)))
   none) := by kernel_rfl

/- elasticstore/elasticstorelaw12.StateRoundTrip -/
theorem e9 (m : Nat) (c : List (List Cell)) (x : List (List Cell)) : runF E (callOf L7) (m + 1) 9 [.one (.sl false 43 c), .one (.sl false 5 x)] [] =
  (cond (decide (c.length < 9223372036854775808))
   (cond (!(decide (c.length ≤ 60)))
    (some ([.one (.bool true)], []))
    (cond (decide ((x.length : Int) > 300))
     (some ([.one (.bool true)], []))
     (cond (okLn c)
      (cond ((vSt c) != 0)
       (some ([.one (.bool true)], []))
       (cond (okSApp [] c)
        (cond (fits (([] : List (List Cell)).length + (encS c).length))
         (cond (fits ((([] : List (List Cell)) ++ (encS c)).length + x.length))
          (cond (okRd ((([] : List (List Cell)) ++ (encS c)) ++ x))
           (cond (okSApp [] c)
            (cond ((toBytes (encS c)) == (toBytes (encS c)))
             (cond ((decS ((([] : List (List Cell)) ++ (encS c)) ++ x)).2.2 == 0)
              (cond ((decS ((([] : List (List Cell)) ++ (encS c)) ++ x)).2.1 == ((encS c).length : Int))
               (cond (okRows c)
                (cond (eqSt c (decS ((([] : List (List Cell)) ++ (encS c)) ++ x)).1)
                 (some ([.one (.bool true)], []))
                 (some ([.one (.bool false)], [])))
                none)
               (some ([.one (.bool false)], [])))
              (some ([.one (.bool false)], [])))
             (some ([.one (.bool false)], [])))
            none)
           none)
          none)
         none)
        none))
      none)))
   none) := by kernel_rfl

/- elasticstore/elasticstorelaw12.StateDecode -/
theorem e10 (m : Nat) (x : List (List Cell)) : runF E (callOf L9) (m + 1) 10 [.one (.sl false 5 x)] [] =
  (cond (decide ((x.length : Int) > 500))
   (some ([.one (.bool true)], []))
   (cond (okRd x)
    (cond (okRd x)
     (cond (okRows (decS x).1)
      (cond (eqSt (decS x).1 (decS x).1)
       (cond ((decS x).2.1 == (decS x).2.1)
        (cond ((decS x).2.2 == (decS x).2.2)
         (some ([.one (.bool true)], []))
         (some ([.one (.bool false)], [])))
        (some ([.one (.bool false)], [])))
       (some ([.one (.bool false)], [])))
      none)
     none)
    none)) := by kernel_rfl

/- elasticstore/elasticstorelaw12.StateLattice -/
theorem e5 (m : Nat) (l : List (List Cell)) (x : Int) (y : Int) (z : Int) : runF E (callOf L10) (m + 1) 5 [.one (.sl false 3 l), .one (.int .i64 x), .one (.int .i64 y), .one (.int .i64 z)] [] =
  (cond (decide (l.length < 4611686018427387904))
   (cond (okCf (gUpds l))
    (cond (okCf (gUpds l))
     (cond (okCf (gUpds l))
      (cond (okUn (gSome (gUpds l) x) (gSome (gUpds l) y))
       (cond (okLn (uniK (gSome (gUpds l) x) (gSome (gUpds l) y)))
        (cond ((vSt (uniK (gSome (gUpds l) x) (gSome (gUpds l) y))) != 0)
         (some ([.one (.bool false)], []))
         (cond (okUn (gSome (gUpds l) y) (gSome (gUpds l) x))
          (cond (okRows (uniK (gSome (gUpds l) x) (gSome (gUpds l) y)))
           (cond (!(eqSt (uniK (gSome (gUpds l) x) (gSome (gUpds l) y)) (uniK (gSome (gUpds l) y) (gSome (gUpds l) x))))
            (some ([.one (.bool false)], []))
            (cond (okUn (uniK (gSome (gUpds l) x) (gSome (gUpds l) y)) (gSome (gUpds l) z))
             (cond (okUn (gSome (gUpds l) y) (gSome (gUpds l) z))
              (cond (okUn (gSome (gUpds l) x) (uniK (gSome (gUpds l) y) (gSome (gUpds l) z)))
               (cond (okRows (uniK (uniK (gSome (gUpds l) x) (gSome (gUpds l) y)) (gSome (gUpds l) z)))
                (cond (!(eqSt (uniK (uniK (gSome (gUpds l) x) (gSome (gUpds l) y)) (gSome (gUpds l) z)) (uniK (gSome (gUpds l) x) (uniK (gSome (gUpds l) y) (gSome (gUpds l) z)))))
                 (some ([.one (.bool false)], []))
                 (cond (okUn (gSome (gUpds l) x) (gSome (gUpds l) x))
                  (cond (okRows (uniK (gSome (gUpds l) x) (gSome (gUpds l) x)))
                   (cond (!(eqSt (uniK (gSome (gUpds l) x) (gSome (gUpds l) x)) (gSome (gUpds l) x)))
                    (some ([.one (.bool false)], []))
                    (cond (okSrt (gSome (gUpds l) x) && okLn (gSome (gUpds l) y))
                     (cond (okRows (uniK (gSome (gUpds l) x) (gSome (gUpds l) y)))
                      (cond (!((contK (gSome (gUpds l) x) (gSome (gUpds l) y)) == (eqSt (uniK (gSome (gUpds l) x) (gSome (gUpds l) y)) (gSome (gUpds l) x))))
                       (some ([.one (.bool false)], []))
                       (cond (okSrt (gSome (gUpds l) z) && okLn (gSome (gUpds l) x))
                        (cond (contK (gSome (gUpds l) z) (gSome (gUpds l) x))
                         (cond (okSrt (gSome (gUpds l) z) && okLn (gSome (gUpds l) y))
                          (cond (contK (gSome (gUpds l) z) (gSome (gUpds l) y))
                           (cond (okSrt (gSome (gUpds l) z) && okLn (uniK (gSome (gUpds l) x) (gSome (gUpds l) y)))
                            (cond (!(contK (gSome (gUpds l) z) (uniK (gSome (gUpds l) x) (gSome (gUpds l) y))))
                             (some ([.one (.bool false)], []))
                             (cond (okLn (uniK (gSome (gUpds l) x) (gSome (gUpds l) y)))
                              (cond (okLn (gSome (gUpds l) x))
                               (cond (okLn (gSome (gUpds l) y))
                                (cond (okJn (vecK (gSome (gUpds l) x)) (vecK (gSome (gUpds l) y)))
                                 (cond (okLn (vecK (uniK (gSome (gUpds l) x) (gSome (gUpds l) y))))
                                  (cond (eqVec (vecK (uniK (gSome (gUpds l) x) (gSome (gUpds l) y))) (joinV (vecK (gSome (gUpds l) x)) (vecK (gSome (gUpds l) y))))
                                   (cond (okSrt (gSome (gUpds l) x) && okLn (gSome (gUpds l) y))
                                    (cond (okLn (gSome (gUpds l) y))
                                     (cond (okLn (gSome (gUpds l) x))
                                      (cond (okLn (vecK (gSome (gUpds l) y)) && okLn (vecK (gSome (gUpds l) x)))
                                       (cond ((contK (gSome (gUpds l) x) (gSome (gUpds l) y)) == (leV (vecK (gSome (gUpds l) y)) (vecK (gSome (gUpds l) x))))
                                        (some ([.one (.bool true)], []))
                                        (some ([.one (.bool false)], [])))
                                       none)
                                      none)
                                     none)
                                    none)
                                   (some ([.one (.bool false)], [])))
                                  none)
                                 none)
                                none)
                               none)
                              none))
                            none)
                           (cond (okLn (uniK (gSome (gUpds l) x) (gSome (gUpds l) y)))
                            (cond (okLn (gSome (gUpds l) x))
                             (cond (okLn (gSome (gUpds l) y))
                              (cond (okJn (vecK (gSome (gUpds l) x)) (vecK (gSome (gUpds l) y)))
                               (cond (okLn (vecK (uniK (gSome (gUpds l) x) (gSome (gUpds l) y))))
                                (cond (eqVec (vecK (uniK (gSome (gUpds l) x) (gSome (gUpds l) y))) (joinV (vecK (gSome (gUpds l) x)) (vecK (gSome (gUpds l) y))))
                                 (cond (okSrt (gSome (gUpds l) x) && okLn (gSome (gUpds l) y))
                                  (cond (okLn (gSome (gUpds l) y))
                                   (cond (okLn (gSome (gUpds l) x))
                                    (cond (okLn (vecK (gSome (gUpds l) y)) && okLn (vecK (gSome (gUpds l) x)))
                                     (cond ((contK (gSome (gUpds l) x) (gSome (gUpds l) y)) == (leV (vecK (gSome (gUpds l) y)) (vecK (gSome (gUpds l) x))))
                                      (some ([.one (.bool true)], []))
                                      (some ([.one (.bool false)], [])))
                                     none)
                                    none)
                                   none)
                                  none)
                                 (some ([.one (.bool false)], [])))
                                none)
                               none)
                              none)
                             none)
                            none))
                          none)
                         (cond (okLn (uniK (gSome (gUpds l) x) (gSome (gUpds l) y)))
                          (cond (okLn (gSome (gUpds l) x))
                           (cond (okLn (gSome (gUpds l) y))
                            (cond (okJn (vecK (gSome (gUpds l) x)) (vecK (gSome (gUpds l) y)))
                             (cond (okLn (vecK (uniK (gSome (gUpds l) x) (gSome (gUpds l) y))))
                              (cond (eqVec (vecK (uniK (gSome (gUpds l) x) (gSome (gUpds l) y))) (joinV (vecK (gSome (gUpds l) x)) (vecK (gSome (gUpds l) y))))
                               (cond (okSrt (gSome (gUpds l) x) && okLn (gSome (gUpds l) y))
                                (cond (okLn (gSome (gUpds l) y))
                                 (cond (okLn (gSome (gUpds l) x))
                                  (cond (okLn (vecK (gSome (gUpds l) y)) && okLn (vecK (gSome (gUpds l) x)))
                                   (cond ((contK (gSome (gUpds l) x) (gSome (gUpds l) y)) == (leV (vecK (gSome (gUpds l) y)) (vecK (gSome (gUpds l) x))))
                                    (some ([.one (.bool true)], []))
                                    (some ([.one (.bool false)], [])))
                                   none)
                                  none)
                                 none)
                                none)
                               (some ([.one (.bool false)], [])))
                              none)
                             none)
                            none)
                           none)
                          none))
                        none))
                      none)
                     none))
                   none)
                  none))
                none)
               none)
              none)
             none))
           none)
          none))
        none)
       none)
      none)
     none)
    none)
   none) := by kernel_rfl

/- elasticstore/elasticstorelaw12.StateTransfer -/
noncomputable def P8_0 : List AItem := F8.at [.snd, .snd, .snd, .snd, .snd, .fst, .snd, .sub, .head]
def M8_0 (t10 : List (List Cell)) (t11 : List (List Cell)) (t12 : Int) (t13 : List (List Cell)) (t14 : Int) : St := ⟨[(10, .one (.sl false 43 t10)), (11, .one (.sl false 43 t11)), (12, .one (.int .i64 t12)), (13, .one (.sl false 43 t13)), (14, .one (.int .i64 t14))], []⟩
theorem e8 (m : Nat) (l : List (List Cell)) (x : Int) (y : Int) (k : Int) : runF E (callOf L5) (m + 1) 8 [.one (.sl false 3 l), .one (.int .i64 x), .one (.int .i64 y), .one (.int .i64 k)] [] =
  (cond (decide (l.length < 4611686018427387904))
   (cond (okCf (gUpds l))
    (cond (okCf (gUpds l))
     (cond (decide (6 ≤ 4611686018427387904))
      (goF E (callOf L5) F8 0 m P8_0 (M8_0 (gSome (gUpds l) x) (gSome (gUpds l) y) (IntKind.wrap .i64 (1 + (gIndex k 6))) (gSome (gUpds l) y) 0))
      none)
     none)
    none)
   none) := by kernel_rfl
theorem e8_0 (m : Nat) (t10 : List (List Cell)) (t11 : List (List Cell)) (t12 : Int) (t13 : List (List Cell)) (t14 : Int) : goF E (callOf L5) F8 0 (m + 1) P8_0 (M8_0 t10 t11 t12 t13 t14) =
  (cond (decide (t14 ≤ (t10.length : Int)))
   (cond (okLn t13)
    (cond (okCl t10 && okVec (vecK t13))
     (cond (okMg t13 (beyS t10 (vecK t13) t12).1)
      (cond ((mrgS t13 (beyS t10 (vecK t13) t12).1).2.2 != 0)
       (some ([.one (.bool false)], []))
       (cond ((mrgS t13 (beyS t10 (vecK t13) t12).1).2.1 != ((beyS t10 (vecK t13) t12).1.length : Int))
        (some ([.one (.bool false)], []))
        (cond (beyS t10 (vecK t13) t12).2
         (cond (((beyS t10 (vecK t13) t12).1.length : Int) != t12)
          (some ([.one (.bool false)], []))
          (cond (!(beyS t10 (vecK t13) t12).2)
           (cond (okCf t10 && okCf t11)
            (cond (okRows (mrgS t13 (beyS t10 (vecK t13) t12).1).1)
             (cond (eqSt (mrgS t13 (beyS t10 (vecK t13) t12).1).1 (mrgK t10 t11))
              (some ([.one (.bool true)], []))
              (some ([.one (.bool false)], [])))
             none)
            none)
           (goF E (callOf L5) F8 0 m P8_0 (M8_0 t10 t11 t12 (mrgS t13 (beyS t10 (vecK t13) t12).1).1 (IntKind.wrap .i64 (t14 + 1))))))
         (cond (!(beyS t10 (vecK t13) t12).2)
          (cond (okCf t10 && okCf t11)
           (cond (okRows (mrgS t13 (beyS t10 (vecK t13) t12).1).1)
            (cond (eqSt (mrgS t13 (beyS t10 (vecK t13) t12).1).1 (mrgK t10 t11))
             (some ([.one (.bool true)], []))
             (some ([.one (.bool false)], [])))
            none)
           none)
          (goF E (callOf L5) F8 0 m P8_0 (M8_0 t10 t11 t12 (mrgS t13 (beyS t10 (vecK t13) t12).1).1 (IntKind.wrap .i64 (t14 + 1))))))))
      none)
     none)
    none)
   (some ([.one (.bool false)], []))) := by kernel_rfl

end Go.Proofs.Ytkfniijfenkocaa
