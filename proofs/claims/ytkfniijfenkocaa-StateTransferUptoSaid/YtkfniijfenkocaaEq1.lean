/-
  What each function does at each place where a run of it may be cut: printed by a program of our own.
-/
import Derived.Test.YtkfniijfenkocaaTab
namespace Go.Proofs.Ytkfniijfenkocaa
open Go.Abs
set_option maxRecDepth 20000

/- elasticstore/elasticstoreref06.Client -/
theorem e70 (m : Nat) (n : Int) : runF E (callOf L) (m + 1) 70 [.one (.int .i64 n)] [] =
  (cond (decide (n ≥ 101))
   (some ([.one (.bool (decide (n < 107)))], []))
   (some ([.one (.bool false)], []))) := by kernel_rfl

/- elasticstore/update.ValidateEffect -/
theorem e66 (m : Nat) (k1 : Int) (o1 : List UInt8) (f1 : List UInt8) (n1 : Int) (s1 : List UInt8) : runF E (callOf L87) (m + 1) 66 [.agg [.int .i64 k1, .str o1, .str f1, .int .i64 n1, .str s1]] [] =
  (cond (decide (k1 < 1))
   (some ([.one (.int .i64 10)], []))
   (cond (decide (k1 > 5))
    (some ([.one (.int .i64 10)], []))
    (cond (o1.isEmpty)
     (some ([.one (.int .i64 2)], []))
     (cond (f1.isEmpty)
      (some ([.one (.int .i64 2)], []))
      (cond (decide ((o1.length : Int) > 16))
       (some ([.one (.int .i64 3)], []))
       (cond (decide ((f1.length : Int) > 16))
        (some ([.one (.int .i64 3)], []))
        (cond (decide ((s1.length : Int) > 32))
         (some ([.one (.int .i64 3)], []))
         (cond (k1 == 3)
          (cond (decide (n1 < (-1000000)))
           (some ([.one (.int .i64 9)], []))
           (cond (decide (n1 > 1000000))
            (some ([.one (.int .i64 9)], []))
            (cond (!(s1 == ([] : List UInt8)))
             (cond (k1 != 1)
              (cond (k1 != 4)
               (some ([.one (.int .i64 2)], []))
               (some ([.one (.int .i64 0)], [])))
              (some ([.one (.int .i64 0)], [])))
             (some ([.one (.int .i64 0)], [])))))
          (cond (k1 == 4)
           (cond (k1 == 4)
            (cond (n1 != 0)
             (some ([.one (.int .i64 9)], []))
             (cond (!(s1 == ([] : List UInt8)))
              (cond (k1 != 1)
               (cond (k1 != 4)
                (some ([.one (.int .i64 2)], []))
                (some ([.one (.int .i64 0)], [])))
               (some ([.one (.int .i64 0)], [])))
              (some ([.one (.int .i64 0)], []))))
            (cond (!(s1 == ([] : List UInt8)))
             (cond (k1 != 1)
              (cond (k1 != 4)
               (some ([.one (.int .i64 2)], []))
               (some ([.one (.int .i64 0)], [])))
              (some ([.one (.int .i64 0)], [])))
             (some ([.one (.int .i64 0)], []))))
           (cond (k1 == 5)
            (cond (n1 != 0)
             (some ([.one (.int .i64 9)], []))
             (cond (!(s1 == ([] : List UInt8)))
              (cond (k1 != 1)
               (cond (k1 != 4)
                (some ([.one (.int .i64 2)], []))
                (some ([.one (.int .i64 0)], [])))
               (some ([.one (.int .i64 0)], [])))
              (some ([.one (.int .i64 0)], []))))
            (cond (!(s1 == ([] : List UInt8)))
             (cond (k1 != 1)
              (cond (k1 != 4)
               (some ([.one (.int .i64 2)], []))
               (some ([.one (.int .i64 0)], [])))
              (some ([.one (.int .i64 0)], [])))
             (some ([.one (.int .i64 0)], []))))))))))))) := by kernel_rfl

/- elasticstore/elasticstoreref14.ValidateEffect -/
theorem e71 (m : Nat) (k1 : Int) (o1 : List UInt8) (f1 : List UInt8) (n1 : Int) (s1 : List UInt8) : runF E (callOf L66) (m + 1) 71 [.agg [.int .i64 k1, .str o1, .str f1, .int .i64 n1, .str s1]] [] =
  (cond (decide (k1 < 1))
   (some ([.one (.int .i64 10)], []))
   (cond (decide (k1 > 5))
    (some ([.one (.int .i64 10)], []))
    (cond (o1 == ([] : List UInt8))
     (some ([.one (.int .i64 2)], []))
     (cond (f1 == ([] : List UInt8))
      (some ([.one (.int .i64 2)], []))
      (cond (decide ((o1.length : Int) > 16))
       (some ([.one (.int .i64 3)], []))
       (cond (decide ((f1.length : Int) > 16))
        (some ([.one (.int .i64 3)], []))
        (cond (decide ((s1.length : Int) > 32))
         (some ([.one (.int .i64 3)], []))
         (cond (k1 == 3)
          (cond (decide (n1 < (-1000000)))
           (some ([.one (.int .i64 9)], []))
           (cond (decide (n1 > 1000000))
            (some ([.one (.int .i64 9)], []))
            (cond (k1 == 4)
             (cond (n1 != 0)
              (some ([.one (.int .i64 9)], []))
              (cond (k1 == 2)
               (cond (!(s1 == ([] : List UInt8)))
                (some ([.one (.int .i64 2)], []))
                (some ([.one (.int .i64 0)], [])))
               (cond (k1 == 3)
                (cond (!(s1 == ([] : List UInt8)))
                 (some ([.one (.int .i64 2)], []))
                 (some ([.one (.int .i64 0)], [])))
                (cond (k1 == 5)
                 (cond (!(s1 == ([] : List UInt8)))
                  (some ([.one (.int .i64 2)], []))
                  (some ([.one (.int .i64 0)], [])))
                 (some ([.one (.int .i64 0)], []))))))
             (cond (k1 == 5)
              (cond (n1 != 0)
               (some ([.one (.int .i64 9)], []))
               (cond (k1 == 2)
                (cond (!(s1 == ([] : List UInt8)))
                 (some ([.one (.int .i64 2)], []))
                 (some ([.one (.int .i64 0)], [])))
                (cond (k1 == 3)
                 (cond (!(s1 == ([] : List UInt8)))
                  (some ([.one (.int .i64 2)], []))
                  (some ([.one (.int .i64 0)], [])))
                 (cond (k1 == 5)
                  (cond (!(s1 == ([] : List UInt8)))
                   (some ([.one (.int .i64 2)], []))
                   (some ([.one (.int .i64 0)], [])))
                  (some ([.one (.int .i64 0)], []))))))
              (cond (k1 == 2)
               (cond (!(s1 == ([] : List UInt8)))
                (some ([.one (.int .i64 2)], []))
                (some ([.one (.int .i64 0)], [])))
               (cond (k1 == 3)
                (cond (!(s1 == ([] : List UInt8)))
                 (some ([.one (.int .i64 2)], []))
                 (some ([.one (.int .i64 0)], [])))
                (cond (k1 == 5)
                 (cond (!(s1 == ([] : List UInt8)))
                  (some ([.one (.int .i64 2)], []))
                  (some ([.one (.int .i64 0)], [])))
                 (some ([.one (.int .i64 0)], [])))))))))
          (cond (k1 == 4)
           (cond (n1 != 0)
            (some ([.one (.int .i64 9)], []))
            (cond (k1 == 2)
             (cond (!(s1 == ([] : List UInt8)))
              (some ([.one (.int .i64 2)], []))
              (some ([.one (.int .i64 0)], [])))
             (cond (k1 == 3)
              (cond (!(s1 == ([] : List UInt8)))
               (some ([.one (.int .i64 2)], []))
               (some ([.one (.int .i64 0)], [])))
              (cond (k1 == 5)
               (cond (!(s1 == ([] : List UInt8)))
                (some ([.one (.int .i64 2)], []))
                (some ([.one (.int .i64 0)], [])))
               (some ([.one (.int .i64 0)], []))))))
           (cond (k1 == 5)
            (cond (n1 != 0)
             (some ([.one (.int .i64 9)], []))
             (cond (k1 == 2)
              (cond (!(s1 == ([] : List UInt8)))
               (some ([.one (.int .i64 2)], []))
               (some ([.one (.int .i64 0)], [])))
              (cond (k1 == 3)
               (cond (!(s1 == ([] : List UInt8)))
                (some ([.one (.int .i64 2)], []))
                (some ([.one (.int .i64 0)], [])))
               (cond (k1 == 5)
                (cond (!(s1 == ([] : List UInt8)))
                 (some ([.one (.int .i64 2)], []))
                 (some ([.one (.int .i64 0)], [])))
                (some ([.one (.int .i64 0)], []))))))
            (cond (k1 == 2)
             (cond (!(s1 == ([] : List UInt8)))
              (some ([.one (.int .i64 2)], []))
              (some ([.one (.int .i64 0)], [])))
             (cond (k1 == 3)
              (cond (!(s1 == ([] : List UInt8)))
               (some ([.one (.int .i64 2)], []))
               (some ([.one (.int .i64 0)], [])))
              (cond (k1 == 5)
               (cond (!(s1 == ([] : List UInt8)))
                (some ([.one (.int .i64 2)], []))
                (some ([.one (.int .i64 0)], [])))
               (some ([.one (.int .i64 0)], []))))))))))))))) := by kernel_rfl

/- elasticstore/update.Commutes$1 -/
theorem e89 (m : Nat) (k1 : Int) (o1 : List UInt8) (f1 : List UInt8) (n1 : Int) (s1 : List UInt8) : runF E (callOf L71) (m + 1) 89 [.agg [.int .i64 k1, .str o1, .str f1, .int .i64 n1, .str s1]] [] =
  (some ([.one (.bool (k1 == 1))], [])) := by kernel_rfl

/- slices.IndexFunc[[]elasticstore/api.Effect,elasticstore/api.Effect] -/
noncomputable def P102_0 : List AItem := F102.at [.snd, .fst, .snd, .sub, .head]
def M102_0 (t0 : List (List Cell)) (t7 : Int) (t8 : Int) : St := ⟨[(0, .one (.sl false 61 t0)), (1, .one (.fn 89 [])), (7, .one (.int .i64 t7)), (8, .one (.int .i64 t8))], []⟩
theorem e102 (m : Nat) (l : List (List Cell)) : runF E (callOf L89) (m + 1) 102 [.one (.sl false 61 l), .one (.fn 89 [])] [] =
  (goF E (callOf L89) F102 0 m P102_0 (M102_0 l (l.length : Int) 0)) := by kernel_rfl
theorem e102_0 (m : Nat) (t0 : List (List Cell)) (t7 : Int) (t8 : Int) : goF E (callOf L89) F102 0 (m + 1) P102_0 (M102_0 t0 t7 t8) =
  (cond (decide (t8 < t7))
   (cond (inB t8 t0.length)
    (cond ((nr (Abs.rowAt t0 (Int.toNat t8)) 0) == 1)
     (some ([.one (.int .i64 t8)], []))
     (goF E (callOf L89) F102 0 m P102_0 (M102_0 t0 t7 (IntKind.wrap .i64 (t8 + 1)))))
    none)
   (some ([.one (.int .i64 (-1))], []))) := by kernel_rfl

/- slices.ContainsFunc[[]elasticstore/api.Effect,elasticstore/api.Effect] -/
theorem e88 (m : Nat) (l : List (List Cell)) : runF E (callOf L102) (m + 1) 88 [.one (.sl false 61 l), .one (.fn 89 [])] [] =
  (cond (decide (l.length < 4611686018427387904))
   (some ([.one (.bool (decide ((idxW l) ≥ 0)))], []))
   none) := by kernel_rfl

/- elasticstore/update.Commutes -/
theorem e67 (m : Nat) (cu : Int) (qu : Int) (tu : Int) (eu : List (List Cell)) : runF E (callOf L88) (m + 1) 67 [.agg [.int .i64 cu, .int .i64 qu, .int .i64 tu, .sl false 61 eu]] [] =
  (cond (decide (eu.length < 4611686018427387904))
   (some ([.one (.bool (!(!(comm eu))))], []))
   none) := by kernel_rfl

/- elasticstore/elasticstoreref14.Commutes -/
noncomputable def P72_0 : List AItem := F72.at [.snd, .fst, .snd, .sub, .head]
def M72_0 (t3 : Int) (b0 : Int) (b0_1 : Int) (b0_2 : Int) (b0_3 : List (List Cell)) : St := ⟨[(1, .one (.ptr 0 0)), (3, .one (.int .i64 t3))], [.var [.int .i64 b0, .int .i64 b0_1, .int .i64 b0_2, .sl false 61 b0_3]]⟩
theorem e72 (m : Nat) (cu : Int) (qu : Int) (tu : Int) (eu : List (List Cell)) : runF E (callOf L67) (m + 1) 72 [.agg [.int .i64 cu, .int .i64 qu, .int .i64 tu, .sl false 61 eu]] [] =
  (goF E (callOf L67) F72 0 m P72_0 (M72_0 0 cu qu tu eu)) := by kernel_rfl
theorem e72_0 (m : Nat) (t3 : Int) (b0 : Int) (b0_1 : Int) (b0_2 : Int) (b0_3 : List (List Cell)) : goF E (callOf L67) F72 0 (m + 1) P72_0 (M72_0 t3 b0 b0_1 b0_2 b0_3) =
  (cond (decide (t3 < (b0_3.length : Int)))
   (cond (inB t3 b0_3.length)
    (cond ((nr (Abs.rowAt b0_3 (Int.toNat t3)) 0) == 1)
     (some ([.one (.bool false)], []))
     (goF E (callOf L67) F72 0 m P72_0 (M72_0 (IntKind.wrap .i64 (t3 + 1)) b0 b0_1 b0_2 b0_3)))
    none)
   (some ([.one (.bool true)], []))) := by kernel_rfl

/- elasticstore/update.Validate -/
noncomputable def P40_0 : List AItem := F40.at [.snd, .snd, .fst, .snd, .sub, .head]
def M40_0 (t46 : List (List Cell)) (t47 : Int) (t48 : Int) (b0 : Int) (b0_1 : Int) (b0_2 : Int) (b0_3 : List (List Cell)) : St := ⟨[(1, .one (.ptr 0 0)), (46, .one (.sl false 61 t46)), (47, .one (.int .i64 t47)), (48, .one (.int .i64 t48))], [.var [.int .i64 b0, .int .i64 b0_1, .int .i64 b0_2, .sl false 61 b0_3]]⟩
theorem e40 (m : Nat) (cu : Int) (qu : Int) (tu : Int) (eu : List (List Cell)) : runF E (callOf L72) (m + 1) 40 [.agg [.int .i64 cu, .int .i64 qu, .int .i64 tu, .sl false 61 eu]] [] =
  (cond (decide (cu < 101))
   (some ([.one (.int .i64 9)], []))
   (cond (decide (cu ≥ 107))
    (some ([.one (.int .i64 9)], []))
    (cond (decide (qu < 1))
     (some ([.one (.int .i64 9)], []))
     (cond (decide (qu > 8))
      (some ([.one (.int .i64 9)], []))
      (cond (decide (tu < 0))
       (some ([.one (.int .i64 9)], []))
       (cond (decide (tu > 1000))
        (some ([.one (.int .i64 9)], []))
        (cond ((eu.length : Int) == 0)
         (some ([.one (.int .i64 2)], []))
         (cond (decide ((eu.length : Int) > 4))
          (some ([.one (.int .i64 3)], []))
          (goF E (callOf L72) F40 0 m P40_0 (M40_0 eu (eu.length : Int) 0 cu qu tu eu)))))))))) := by kernel_rfl
theorem e40_0 (m : Nat) (t46 : List (List Cell)) (t47 : Int) (t48 : Int) (b0 : Int) (b0_1 : Int) (b0_2 : Int) (b0_3 : List (List Cell)) : goF E (callOf L72) F40 0 (m + 1) P40_0 (M40_0 t46 t47 t48 b0 b0_1 b0_2 b0_3) =
  (cond (decide (t48 < t47))
   (cond (inB t48 t46.length)
    (cond ((vEff (nr (Abs.rowAt t46 (Int.toNat t48)) 0) (ns (Abs.rowAt t46 (Int.toNat t48)) 1) (ns (Abs.rowAt t46 (Int.toNat t48)) 2) (nr (Abs.rowAt t46 (Int.toNat t48)) 3) (ns (Abs.rowAt t46 (Int.toNat t48)) 4)) != 0)
     (some ([.one (.int .i64 (vEff (nr (Abs.rowAt t46 (Int.toNat t48)) 0) (ns (Abs.rowAt t46 (Int.toNat t48)) 1) (ns (Abs.rowAt t46 (Int.toNat t48)) 2) (nr (Abs.rowAt t46 (Int.toNat t48)) 3) (ns (Abs.rowAt t46 (Int.toNat t48)) 4)))], []))
     (goF E (callOf L72) F40 0 m P40_0 (M40_0 t46 t47 (IntKind.wrap .i64 (t48 + 1)) b0 b0_1 b0_2 b0_3)))
    none)
   (cond (decide (b0_3.length < 4611686018427387904))
    (cond (comm b0_3)
     (cond (b0_2 != 0)
      (some ([.one (.int .i64 2)], []))
      (cond (!(comm b0_3))
       (cond (decide ((b0_3.length : Int) > 1))
        (some ([.one (.int .i64 2)], []))
        (some ([.one (.int .i64 0)], [])))
       (some ([.one (.int .i64 0)], []))))
     (cond (!(comm b0_3))
      (cond (decide ((b0_3.length : Int) > 1))
       (some ([.one (.int .i64 2)], []))
       (some ([.one (.int .i64 0)], [])))
      (some ([.one (.int .i64 0)], []))))
    none)) := by kernel_rfl

/- elasticstore/elasticstoreref14.ValidateUpdate -/
noncomputable def P42_0 : List AItem := F42.at [.snd, .snd, .fst, .snd, .sub, .head]
def M42_0 (t3 : Int) (b0 : Int) (b0_1 : Int) (b0_2 : Int) (b0_3 : List (List Cell)) : St := ⟨[(1, .one (.ptr 0 0)), (3, .one (.int .i64 t3))], [.var [.int .i64 b0, .int .i64 b0_1, .int .i64 b0_2, .sl false 61 b0_3]]⟩
theorem e42 (m : Nat) (cu : Int) (qu : Int) (tu : Int) (eu : List (List Cell)) : runF E (callOf L40) (m + 1) 42 [.agg [.int .i64 cu, .int .i64 qu, .int .i64 tu, .sl false 61 eu]] [] =
  (cond (!(isClient cu))
   (some ([.one (.int .i64 9)], []))
   (cond (decide (qu < 1))
    (some ([.one (.int .i64 9)], []))
    (cond (decide (qu > 8))
     (some ([.one (.int .i64 9)], []))
     (cond (decide (tu < 0))
      (some ([.one (.int .i64 9)], []))
      (cond (decide (tu > 1000))
       (some ([.one (.int .i64 9)], []))
       (cond ((eu.length : Int) == 0)
        (some ([.one (.int .i64 2)], []))
        (cond (decide ((eu.length : Int) > 4))
         (some ([.one (.int .i64 3)], []))
         (goF E (callOf L40) F42 0 m P42_0 (M42_0 0 cu qu tu eu))))))))) := by kernel_rfl
theorem e42_0 (m : Nat) (t3 : Int) (b0 : Int) (b0_1 : Int) (b0_2 : Int) (b0_3 : List (List Cell)) : goF E (callOf L40) F42 0 (m + 1) P42_0 (M42_0 t3 b0 b0_1 b0_2 b0_3) =
  (cond (decide (t3 < (b0_3.length : Int)))
   (cond (inB t3 b0_3.length)
    (cond ((vEff (nr (Abs.rowAt b0_3 (Int.toNat t3)) 0) (ns (Abs.rowAt b0_3 (Int.toNat t3)) 1) (ns (Abs.rowAt b0_3 (Int.toNat t3)) 2) (nr (Abs.rowAt b0_3 (Int.toNat t3)) 3) (ns (Abs.rowAt b0_3 (Int.toNat t3)) 4)) != 0)
     (some ([.one (.int .i64 (vEff (nr (Abs.rowAt b0_3 (Int.toNat t3)) 0) (ns (Abs.rowAt b0_3 (Int.toNat t3)) 1) (ns (Abs.rowAt b0_3 (Int.toNat t3)) 2) (nr (Abs.rowAt b0_3 (Int.toNat t3)) 3) (ns (Abs.rowAt b0_3 (Int.toNat t3)) 4)))], []))
     (goF E (callOf L40) F42 0 m P42_0 (M42_0 (IntKind.wrap .i64 (t3 + 1)) b0 b0_1 b0_2 b0_3)))
    none)
   (cond (decide (b0_3.length < 4611686018427387904))
    (cond (!(comm b0_3))
     (cond (decide ((b0_3.length : Int) > 1))
      (some ([.one (.int .i64 2)], []))
      (cond (decide (b0_3.length < 4611686018427387904))
       (cond (comm b0_3)
        (cond (b0_2 != 0)
         (some ([.one (.int .i64 2)], []))
         (some ([.one (.int .i64 0)], [])))
        (some ([.one (.int .i64 0)], [])))
       none))
     (cond (decide (b0_3.length < 4611686018427387904))
      (cond (comm b0_3)
       (cond (b0_2 != 0)
        (some ([.one (.int .i64 2)], []))
        (some ([.one (.int .i64 0)], [])))
       (some ([.one (.int .i64 0)], [])))
      none))
    none)) := by kernel_rfl

/- cmp.isNaN[int] -/
theorem e90 (m : Nat) (n : Int) : runF E (callOf L42) (m + 1) 90 [.one (.int .i64 n)] [] =
  (some ([.one (.bool (n != n))], [])) := by kernel_rfl

/- cmp.Compare[int] -/
theorem e69 (m : Nat) (x : Int) (y : Int) : runF E (callOf L90) (m + 1) 69 [.one (.int .i64 x), .one (.int .i64 y)] [] =
  (cond false
   (cond false
    (some ([.one (.int .i64 0)], []))
    (some ([.one (.int .i64 (-1))], [])))
   (cond false
    (some ([.one (.int .i64 1)], []))
    (cond (decide (x < y))
     (some ([.one (.int .i64 (-1))], []))
     (cond (decide (x > y))
      (some ([.one (.int .i64 1)], []))
      (some ([.one (.int .i64 0)], [])))))) := by kernel_rfl

/- cmp.Or[int] -/
noncomputable def P68_0 : List AItem := F68.at [.snd, .snd, .fst, .snd, .sub, .head]
def M68_0 (t3 : Int) (t6 : List (List Cell)) (t7 : Int) (t8 : Int) : St := ⟨[(3, .one (.int .i64 t3)), (6, .one (.sl false 3 t6)), (7, .one (.int .i64 t7)), (8, .one (.int .i64 t8))], []⟩
theorem e68 (m : Nat) (l : List (List Cell)) : runF E (callOf L69) (m + 1) 68 [.one (.sl false 3 l)] [] =
  (goF E (callOf L69) F68 0 m P68_0 (M68_0 0 l (l.length : Int) 0)) := by kernel_rfl
theorem e68_0 (m : Nat) (t3 : Int) (t6 : List (List Cell)) (t7 : Int) (t8 : Int) : goF E (callOf L69) F68 0 (m + 1) P68_0 (M68_0 t3 t6 t7 t8) =
  (cond (decide (t8 < t7))
   (cond (inB t8 t6.length)
    (cond ((nr (Abs.rowAt t6 (Int.toNat t8)) 0) != t3)
     (some ([.one (.int .i64 (nr (Abs.rowAt t6 (Int.toNat t8)) 0))], []))
     (goF E (callOf L69) F68 0 m P68_0 (M68_0 t3 t6 t7 (IntKind.wrap .i64 (t8 + 1)))))
    none)
   (some ([.one (.int .i64 t3)], []))) := by kernel_rfl

/- elasticstore/update.Compare -/
theorem e41 (m : Nat) (cu : Int) (qu : Int) (tu : Int) (eu : List (List Cell)) (cv : Int) (qv : Int) (tv : Int) (ev : List (List Cell)) : runF E (callOf L68) (m + 1) 41 [.agg [.int .i64 cu, .int .i64 qu, .int .i64 tu, .sl false 61 eu], .agg [.int .i64 cv, .int .i64 qv, .int .i64 tv, .sl false 61 ev]] [] =
  (cond (decide ([[Cell.int .i64 (cmpI cu cv)], [Cell.int .i64 (cmpI qu qv)]].length < 4611686018427387904))
   (some ([.one (.int .i64 (orI1 [[Cell.int .i64 (cmpI cu cv)], [Cell.int .i64 (cmpI qu qv)]]))], []))
   none) := by kernel_rfl

/- elasticstore/elasticstoreref14.CompareUpdate -/
theorem e43 (m : Nat) (cu : Int) (qu : Int) (tu : Int) (eu : List (List Cell)) (cv : Int) (qv : Int) (tv : Int) (ev : List (List Cell)) : runF E (callOf L41) (m + 1) 43 [.agg [.int .i64 cu, .int .i64 qu, .int .i64 tu, .sl false 61 eu], .agg [.int .i64 cv, .int .i64 qv, .int .i64 tv, .sl false 61 ev]] [] =
  (cond (decide (cu < cv))
   (some ([.one (.int .i64 (-1))], []))
   (cond (cu == cv)
    (cond (decide (qu < qv))
     (some ([.one (.int .i64 (-1))], []))
     (cond (cu == cv)
      (cond (qu == qv)
       (some ([.one (.int .i64 0)], []))
       (some ([.one (.int .i64 1)], [])))
      (some ([.one (.int .i64 1)], []))))
    (cond (cu == cv)
     (cond (qu == qv)
      (some ([.one (.int .i64 0)], []))
      (some ([.one (.int .i64 1)], [])))
     (some ([.one (.int .i64 1)], []))))) := by kernel_rfl

/- elasticstore/elasticstoreref14.EqualUpdate -/
noncomputable def P51_0 : List AItem := F51.at [.snd, .snd, .fst, .snd, .sub, .head]
def M51_0 (t5 : Int) (b0 : Int) (b0_1 : Int) (b0_2 : Int) (b0_3 : List (List Cell)) (b1 : Int) (b1_1 : Int) (b1_2 : Int) (b1_3 : List (List Cell)) : St := ⟨[(2, .one (.ptr 0 0)), (3, .one (.ptr 1 0)), (5, .one (.int .i64 t5))], [.var [.int .i64 b0, .int .i64 b0_1, .int .i64 b0_2, .sl false 61 b0_3], .var [.int .i64 b1, .int .i64 b1_1, .int .i64 b1_2, .sl false 61 b1_3]]⟩
theorem e51 (m : Nat) (cu : Int) (qu : Int) (tu : Int) (eu : List (List Cell)) (cv : Int) (qv : Int) (tv : Int) (ev : List (List Cell)) : runF E (callOf L43) (m + 1) 51 [.agg [.int .i64 cu, .int .i64 qu, .int .i64 tu, .sl false 61 eu], .agg [.int .i64 cv, .int .i64 qv, .int .i64 tv, .sl false 61 ev]] [] =
  (cond (cu != cv)
   (some ([.one (.bool false)], []))
   (cond (qu != qv)
    (some ([.one (.bool false)], []))
    (cond (tu != tv)
     (some ([.one (.bool false)], []))
     (cond ((eu.length : Int) != (ev.length : Int))
      (some ([.one (.bool false)], []))
      (goF E (callOf L43) F51 0 m P51_0 (M51_0 0 cu qu tu eu cv qv tv ev)))))) := by kernel_rfl
theorem e51_0 (m : Nat) (t5 : Int) (b0 : Int) (b0_1 : Int) (b0_2 : Int) (b0_3 : List (List Cell)) (b1 : Int) (b1_1 : Int) (b1_2 : Int) (b1_3 : List (List Cell)) : goF E (callOf L43) F51 0 (m + 1) P51_0 (M51_0 t5 b0 b0_1 b0_2 b0_3 b1 b1_1 b1_2 b1_3) =
  (cond (decide (t5 < (b0_3.length : Int)))
   (cond (inB t5 b0_3.length)
    (cond (inB t5 b1_3.length)
     (cond (!(((nr (Abs.rowAt b0_3 (Int.toNat t5)) 0) == (nr (Abs.rowAt b1_3 (Int.toNat t5)) 0)) && (((ns (Abs.rowAt b0_3 (Int.toNat t5)) 1) == (ns (Abs.rowAt b1_3 (Int.toNat t5)) 1)) && (((ns (Abs.rowAt b0_3 (Int.toNat t5)) 2) == (ns (Abs.rowAt b1_3 (Int.toNat t5)) 2)) && (((nr (Abs.rowAt b0_3 (Int.toNat t5)) 3) == (nr (Abs.rowAt b1_3 (Int.toNat t5)) 3)) && (((ns (Abs.rowAt b0_3 (Int.toNat t5)) 4) == (ns (Abs.rowAt b1_3 (Int.toNat t5)) 4)) && true))))))
      (some ([.one (.bool false)], []))
      (goF E (callOf L43) F51 0 m P51_0 (M51_0 (IntKind.wrap .i64 (t5 + 1)) b0 b0_1 b0_2 b0_3 b1 b1_1 b1_2 b1_3)))
     none)
    none)
   (some ([.one (.bool true)], []))) := by kernel_rfl

/- elasticstore/wire.AppendUint -/
noncomputable def P58_0 : List AItem := F58.at [.snd, .snd, .fst, .sub, .head]
def M58_0 (t0 : List (List Cell)) (t1 : Int) (t5 : List (List Cell)) : St := ⟨[(0, .one (.sl false 5 t0)), (1, .one (.int .u64 t1)), (5, .one (.sl true 5 t5))], []⟩
theorem e58 (m : Nat) (x : List (List Cell)) (v : Int) : runF E (callOf L51) (m + 1) 58 [.one (.sl false 5 x), .one (.int .u64 v)] [] =
  (goF E (callOf L51) F58 0 m P58_0 (M58_0 x v ([] : List (List Cell)))) := by kernel_rfl
theorem e58_0 (m : Nat) (t0 : List (List Cell)) (t1 : Int) (t5 : List (List Cell)) : goF E (callOf L51) F58 0 (m + 1) P58_0 (M58_0 t0 t1 t5) =
  (cond (decide (t1 ≥ 128))
   (cond (fits (t5.length + [[Cell.int .u8 (orI .u8 (IntKind.wrap .u8 t1) 128)]].length))
    (goF E (callOf L51) F58 0 m P58_0 (M58_0 t0 (shrI .u64 t1 7) (t5 ++ [[Cell.int .u8 (orI .u8 (IntKind.wrap .u8 t1) 128)]])))
    none)
   (cond (fits (t5.length + [[Cell.int .u8 (IntKind.wrap .u8 t1)]].length))
    (cond (inB (t0.length : Int) (t0.length + 1))
     (cond (decide ((t0.length : Int) = (t0.length : Int)))
      (cond (fits ((takeN t0 (Int.toNat (t0.length : Int))).length + (t5 ++ [[Cell.int .u8 (IntKind.wrap .u8 t1)]]).length))
       (some ([.one (.sl true 5 ((takeN t0 (Int.toNat (t0.length : Int))) ++ (t5 ++ [[Cell.int .u8 (IntKind.wrap .u8 t1)]])))], []))
       none)
      none)
     none)
    none)) := by kernel_rfl
noncomputable def P58_0_c1 : List AItem := F58.at [.snd, .snd, .fst, .sub, .head]
def M58_0_c1 (t0 : List (List Cell)) (t1 : Int) (t5 : List (List Cell)) : St := ⟨[(0, .one (.sl true 5 t0)), (1, .one (.int .u64 t1)), (5, .one (.sl true 5 t5))], []⟩
theorem e58_c1 (m : Nat) (v : Int) : runF E (callOf L51) (m + 1) 58 [.one (.nils), .one (.int .u64 v)] [] =
  (goF E (callOf L51) F58 0 m P58_0_c1 (M58_0_c1 ([] : List (List Cell)) v ([] : List (List Cell)))) := by kernel_rfl
theorem e58_0_c1 (m : Nat) (t0 : List (List Cell)) (t1 : Int) (t5 : List (List Cell)) : goF E (callOf L51) F58 0 (m + 1) P58_0_c1 (M58_0_c1 t0 t1 t5) =
  (cond (decide (t1 ≥ 128))
   (cond (fits (t5.length + [[Cell.int .u8 (orI .u8 (IntKind.wrap .u8 t1) 128)]].length))
    (goF E (callOf L51) F58 0 m P58_0_c1 (M58_0_c1 t0 (shrI .u64 t1 7) (t5 ++ [[Cell.int .u8 (orI .u8 (IntKind.wrap .u8 t1) 128)]])))
    none)
   (cond (fits (t5.length + [[Cell.int .u8 (IntKind.wrap .u8 t1)]].length))
    (cond (inB (t0.length : Int) (t0.length + 1))
     (cond (decide ((t0.length : Int) = (t0.length : Int)))
      (cond (fits ((takeN t0 (Int.toNat (t0.length : Int))).length + (t5 ++ [[Cell.int .u8 (IntKind.wrap .u8 t1)]]).length))
       (some ([.one (.sl true 5 ((takeN t0 (Int.toNat (t0.length : Int))) ++ (t5 ++ [[Cell.int .u8 (IntKind.wrap .u8 t1)]])))], []))
       none)
      none)
     none)
    none)) := by kernel_rfl

/- elasticstore/elasticstoreref03.AppendUint -/
noncomputable def P82_0 : List AItem := F82.at [.snd, .snd, .fst, .sub, .head]
def M82_0 (t1 : Int) (t5 : List (List Cell)) : St := ⟨[(1, .one (.int .u64 t1)), (5, .one (.sl true 5 t5))], []⟩
theorem e82 (m : Nat) (x : List (List Cell)) (v : Int) : runF E (callOf L58) (m + 1) 82 [.one (.sl false 5 x), .one (.int .u64 v)] [] =
  (cond (fits (([] : List (List Cell)).length + x.length))
   (goF E (callOf L58) F82 0 m P82_0 (M82_0 v (([] : List (List Cell)) ++ x)))
   none) := by kernel_rfl
theorem e82_0 (m : Nat) (t1 : Int) (t5 : List (List Cell)) : goF E (callOf L58) F82 0 (m + 1) P82_0 (M82_0 t1 t5) =
  (cond (decide (t1 ≥ 128))
   (cond (fits (t5.length + [[Cell.int .u8 (IntKind.wrap .u8 ((IntKind.wrap .u8 (Int.tmod t1 128)) + 128))]].length))
    (goF E (callOf L58) F82 0 m P82_0 (M82_0 (IntKind.wrap .u64 (Int.tdiv t1 128)) (t5 ++ [[Cell.int .u8 (IntKind.wrap .u8 ((IntKind.wrap .u8 (Int.tmod t1 128)) + 128))]])))
    none)
   (cond (fits (t5.length + [[Cell.int .u8 (IntKind.wrap .u8 t1)]].length))
    (some ([.one (.sl true 5 (t5 ++ [[Cell.int .u8 (IntKind.wrap .u8 t1)]]))], []))
    none)) := by kernel_rfl

/- elasticstore/wire.AppendString -/
theorem e78 (m : Nat) (x : List (List Cell)) (s : List UInt8) : runF E (callOf L82) (m + 1) 78 [.one (.sl false 5 x), .one (.str s)] [] =
  (cond (okEnc x (IntKind.wrap .u64 (s.length : Int)))
   (cond (fits ((x ++ uenc (IntKind.wrap .u64 (s.length : Int))).length + s.length))
    (some ([.one (.sl true 5 ((x ++ uenc (IntKind.wrap .u64 (s.length : Int))) ++ ofBytes s))], []))
    none)
   none) := by kernel_rfl

/- elasticstore/elasticstoreref03.AppendString -/
theorem e83 (m : Nat) (x : List (List Cell)) (s : List UInt8) : runF E (callOf L78) (m + 1) 83 [.one (.sl false 5 x), .one (.str s)] [] =
  (cond (okEnc x (IntKind.wrap .u64 (s.length : Int)))
   (cond (fits ((x ++ uenc (IntKind.wrap .u64 (s.length : Int))).length + s.length))
    (some ([.one (.sl true 5 ((x ++ uenc (IntKind.wrap .u64 (s.length : Int))) ++ ofBytes s))], []))
    none)
   none) := by kernel_rfl

/- elasticstore/elasticstoreref03.Zigzag -/
theorem e99 (m : Nat) (v : Int) : runF E (callOf L83) (m + 1) 99 [.one (.int .i64 v)] [] =
  (cond (decide (v ≥ 0))
   (some ([.one (.int .u64 (IntKind.wrap .u64 ((IntKind.wrap .u64 v) * 2)))], []))
   (some ([.one (.int .u64 (IntKind.wrap .u64 ((IntKind.wrap .u64 ((IntKind.wrap .u64 (IntKind.wrap .i64 (0 - (IntKind.wrap .i64 (v + 1))))) * 2)) + 1)))], []))) := by kernel_rfl

/- elasticstore/wire.AppendInt -/
theorem e79 (m : Nat) (x : List (List Cell)) (v : Int) : runF E (callOf L99) (m + 1) 79 [.one (.sl false 5 x), .one (.int .i64 v)] [] =
  (cond (okEnc x (xorI .u64 (shlI .u64 (IntKind.wrap .u64 v) 1) (IntKind.wrap .u64 (shrI .i64 v 63))))
   (some ([.one (.sl true 5 (x ++ uenc (xorI .u64 (shlI .u64 (IntKind.wrap .u64 v) 1) (IntKind.wrap .u64 (shrI .i64 v 63)))))], []))
   none) := by kernel_rfl

/- elasticstore/elasticstoreref03.AppendInt -/
theorem e84 (m : Nat) (x : List (List Cell)) (v : Int) : runF E (callOf L79) (m + 1) 84 [.one (.sl false 5 x), .one (.int .i64 v)] [] =
  (cond (okI v)
   (cond (okEnc x (zig v))
    (some ([.one (.sl true 5 (x ++ uenc (zig v)))], []))
    none)
   none) := by kernel_rfl

/- elasticstore/update.Append -/
noncomputable def P59_0 : List AItem := F59.at [.snd, .snd, .fst, .snd, .sub, .head]
def M59_0 (t0 : List (List Cell)) (t5 : List (List Cell)) (t19 : List (List Cell)) (t20 : Int) (t21 : Int) (b0 : Int) (b0_1 : Int) (b0_2 : Int) (b0_3 : List (List Cell)) : St := ⟨[(0, .one (.sl false 5 t0)), (3, .one (.ptr 0 0)), (5, .one (.sl false 5 t5)), (19, .one (.sl false 3 t19)), (20, .one (.int .i64 t20)), (21, .one (.int .i64 t21))], [.var [.int .i64 b0, .int .i64 b0_1, .int .i64 b0_2, .sl false 61 b0_3]]⟩
noncomputable def P59_1 : List AItem := F59.at [.snd, .snd, .snd, .fst, .snd, .sub, .head]
def M59_1 (t0 : List (List Cell)) (t5 : List (List Cell)) (t31 : List (List Cell)) (t32 : Int) (t33 : Int) : St := ⟨[(0, .one (.sl false 5 t0)), (5, .one (.sl false 5 t5)), (31, .one (.sl false 61 t31)), (32, .one (.int .i64 t32)), (33, .one (.int .i64 t33))], []⟩
theorem e59 (m : Nat) (x : List (List Cell)) (cu : Int) (qu : Int) (tu : Int) (eu : List (List Cell)) : runF E (callOf L84) (m + 1) 59 [.one (.sl false 5 x), .agg [.int .i64 cu, .int .i64 qu, .int .i64 tu, .sl false 61 eu]] [] =
  (goF E (callOf L84) F59 0 m P59_0 (M59_0 x ([] : List (List Cell)) [[Cell.int .i64 cu], [Cell.int .i64 qu], [Cell.int .i64 tu], [Cell.int .i64 (eu.length : Int)]] 4 0 cu qu tu eu)) := by kernel_rfl
theorem e59_0 (m : Nat) (t0 : List (List Cell)) (t5 : List (List Cell)) (t19 : List (List Cell)) (t20 : Int) (t21 : Int) (b0 : Int) (b0_1 : Int) (b0_2 : Int) (b0_3 : List (List Cell)) : goF E (callOf L84) F59 0 (m + 1) P59_0 (M59_0 t0 t5 t19 t20 t21 b0 b0_1 b0_2 b0_3) =
  (cond (decide (t21 < t20))
   (cond (inB t21 t19.length)
    (cond (okEnc t5 (IntKind.wrap .u64 (nr (Abs.rowAt t19 (Int.toNat t21)) 0)))
     (goF E (callOf L84) F59 0 m P59_0 (M59_0 t0 (t5 ++ uenc (IntKind.wrap .u64 (nr (Abs.rowAt t19 (Int.toNat t21)) 0))) t19 t20 (IntKind.wrap .i64 (t21 + 1)) b0 b0_1 b0_2 b0_3))
     none)
    none)
   (goF E (callOf L84) F59 0 m P59_1 (M59_1 t0 t5 b0_3 (b0_3.length : Int) 0))) := by kernel_rfl
theorem e59_1 (m : Nat) (t0 : List (List Cell)) (t5 : List (List Cell)) (t31 : List (List Cell)) (t32 : Int) (t33 : Int) : goF E (callOf L84) F59 0 (m + 1) P59_1 (M59_1 t0 t5 t31 t32 t33) =
  (cond (decide (t33 < t32))
   (cond (inB t33 t31.length)
    (cond (okEnc t5 (IntKind.wrap .u64 (nr (Abs.rowAt t31 (Int.toNat t33)) 0)))
     (cond (okStr (t5 ++ uenc (IntKind.wrap .u64 (nr (Abs.rowAt t31 (Int.toNat t33)) 0))) (ns (Abs.rowAt t31 (Int.toNat t33)) 1))
      (cond (okStr ((t5 ++ uenc (IntKind.wrap .u64 (nr (Abs.rowAt t31 (Int.toNat t33)) 0))) ++ senc (ns (Abs.rowAt t31 (Int.toNat t33)) 1)) (ns (Abs.rowAt t31 (Int.toNat t33)) 2))
       (cond (okLen (((t5 ++ uenc (IntKind.wrap .u64 (nr (Abs.rowAt t31 (Int.toNat t33)) 0))) ++ senc (ns (Abs.rowAt t31 (Int.toNat t33)) 1)) ++ senc (ns (Abs.rowAt t31 (Int.toNat t33)) 2)) && okI (nr (Abs.rowAt t31 (Int.toNat t33)) 3))
        (cond (okStr ((((t5 ++ uenc (IntKind.wrap .u64 (nr (Abs.rowAt t31 (Int.toNat t33)) 0))) ++ senc (ns (Abs.rowAt t31 (Int.toNat t33)) 1)) ++ senc (ns (Abs.rowAt t31 (Int.toNat t33)) 2)) ++ uenc (zig (nr (Abs.rowAt t31 (Int.toNat t33)) 3))) (ns (Abs.rowAt t31 (Int.toNat t33)) 4))
         (goF E (callOf L84) F59 0 m P59_1 (M59_1 t0 (((((t5 ++ uenc (IntKind.wrap .u64 (nr (Abs.rowAt t31 (Int.toNat t33)) 0))) ++ senc (ns (Abs.rowAt t31 (Int.toNat t33)) 1)) ++ senc (ns (Abs.rowAt t31 (Int.toNat t33)) 2)) ++ uenc (zig (nr (Abs.rowAt t31 (Int.toNat t33)) 3))) ++ senc (ns (Abs.rowAt t31 (Int.toNat t33)) 4)) t31 t32 (IntKind.wrap .i64 (t33 + 1))))
         none)
        none)
       none)
      none)
     none)
    none)
   (cond (inB (t0.length : Int) (t0.length + 1))
    (cond (decide ((t0.length : Int) = (t0.length : Int)))
     (cond (fits ((takeN t0 (Int.toNat (t0.length : Int))).length + t5.length))
      (some ([.one (.sl true 5 ((takeN t0 (Int.toNat (t0.length : Int))) ++ t5))], []))
      none)
     none)
    none)) := by kernel_rfl
noncomputable def P59_0_c1 : List AItem := F59.at [.snd, .snd, .fst, .snd, .sub, .head]
def M59_0_c1 (t0 : List (List Cell)) (t5 : List (List Cell)) (t19 : List (List Cell)) (t20 : Int) (t21 : Int) (b0 : Int) (b0_1 : Int) (b0_2 : Int) (b0_3 : List (List Cell)) : St := ⟨[(0, .one (.sl true 5 t0)), (3, .one (.ptr 0 0)), (5, .one (.sl false 5 t5)), (19, .one (.sl false 3 t19)), (20, .one (.int .i64 t20)), (21, .one (.int .i64 t21))], [.var [.int .i64 b0, .int .i64 b0_1, .int .i64 b0_2, .sl false 61 b0_3]]⟩
noncomputable def P59_1_c1 : List AItem := F59.at [.snd, .snd, .snd, .fst, .snd, .sub, .head]
def M59_1_c1 (t0 : List (List Cell)) (t5 : List (List Cell)) (t31 : List (List Cell)) (t32 : Int) (t33 : Int) : St := ⟨[(0, .one (.sl true 5 t0)), (5, .one (.sl false 5 t5)), (31, .one (.sl false 61 t31)), (32, .one (.int .i64 t32)), (33, .one (.int .i64 t33))], []⟩
theorem e59_c1 (m : Nat) (cu : Int) (qu : Int) (tu : Int) (eu : List (List Cell)) : runF E (callOf L84) (m + 1) 59 [.one (.nils), .agg [.int .i64 cu, .int .i64 qu, .int .i64 tu, .sl false 61 eu]] [] =
  (goF E (callOf L84) F59 0 m P59_0_c1 (M59_0_c1 ([] : List (List Cell)) ([] : List (List Cell)) [[Cell.int .i64 cu], [Cell.int .i64 qu], [Cell.int .i64 tu], [Cell.int .i64 (eu.length : Int)]] 4 0 cu qu tu eu)) := by kernel_rfl
theorem e59_0_c1 (m : Nat) (t0 : List (List Cell)) (t5 : List (List Cell)) (t19 : List (List Cell)) (t20 : Int) (t21 : Int) (b0 : Int) (b0_1 : Int) (b0_2 : Int) (b0_3 : List (List Cell)) : goF E (callOf L84) F59 0 (m + 1) P59_0_c1 (M59_0_c1 t0 t5 t19 t20 t21 b0 b0_1 b0_2 b0_3) =
  (cond (decide (t21 < t20))
   (cond (inB t21 t19.length)
    (cond (okEnc t5 (IntKind.wrap .u64 (nr (Abs.rowAt t19 (Int.toNat t21)) 0)))
     (goF E (callOf L84) F59 0 m P59_0_c1 (M59_0_c1 t0 (t5 ++ uenc (IntKind.wrap .u64 (nr (Abs.rowAt t19 (Int.toNat t21)) 0))) t19 t20 (IntKind.wrap .i64 (t21 + 1)) b0 b0_1 b0_2 b0_3))
     none)
    none)
   (goF E (callOf L84) F59 0 m P59_1_c1 (M59_1_c1 t0 t5 b0_3 (b0_3.length : Int) 0))) := by kernel_rfl
theorem e59_1_c1 (m : Nat) (t0 : List (List Cell)) (t5 : List (List Cell)) (t31 : List (List Cell)) (t32 : Int) (t33 : Int) : goF E (callOf L84) F59 0 (m + 1) P59_1_c1 (M59_1_c1 t0 t5 t31 t32 t33) =
  (cond (decide (t33 < t32))
   (cond (inB t33 t31.length)
    (cond (okEnc t5 (IntKind.wrap .u64 (nr (Abs.rowAt t31 (Int.toNat t33)) 0)))
     (cond (okStr (t5 ++ uenc (IntKind.wrap .u64 (nr (Abs.rowAt t31 (Int.toNat t33)) 0))) (ns (Abs.rowAt t31 (Int.toNat t33)) 1))
      (cond (okStr ((t5 ++ uenc (IntKind.wrap .u64 (nr (Abs.rowAt t31 (Int.toNat t33)) 0))) ++ senc (ns (Abs.rowAt t31 (Int.toNat t33)) 1)) (ns (Abs.rowAt t31 (Int.toNat t33)) 2))
       (cond (okLen (((t5 ++ uenc (IntKind.wrap .u64 (nr (Abs.rowAt t31 (Int.toNat t33)) 0))) ++ senc (ns (Abs.rowAt t31 (Int.toNat t33)) 1)) ++ senc (ns (Abs.rowAt t31 (Int.toNat t33)) 2)) && okI (nr (Abs.rowAt t31 (Int.toNat t33)) 3))
        (cond (okStr ((((t5 ++ uenc (IntKind.wrap .u64 (nr (Abs.rowAt t31 (Int.toNat t33)) 0))) ++ senc (ns (Abs.rowAt t31 (Int.toNat t33)) 1)) ++ senc (ns (Abs.rowAt t31 (Int.toNat t33)) 2)) ++ uenc (zig (nr (Abs.rowAt t31 (Int.toNat t33)) 3))) (ns (Abs.rowAt t31 (Int.toNat t33)) 4))
         (goF E (callOf L84) F59 0 m P59_1_c1 (M59_1_c1 t0 (((((t5 ++ uenc (IntKind.wrap .u64 (nr (Abs.rowAt t31 (Int.toNat t33)) 0))) ++ senc (ns (Abs.rowAt t31 (Int.toNat t33)) 1)) ++ senc (ns (Abs.rowAt t31 (Int.toNat t33)) 2)) ++ uenc (zig (nr (Abs.rowAt t31 (Int.toNat t33)) 3))) ++ senc (ns (Abs.rowAt t31 (Int.toNat t33)) 4)) t31 t32 (IntKind.wrap .i64 (t33 + 1))))
         none)
        none)
       none)
      none)
     none)
    none)
   (cond (inB (t0.length : Int) (t0.length + 1))
    (cond (decide ((t0.length : Int) = (t0.length : Int)))
     (cond (fits ((takeN t0 (Int.toNat (t0.length : Int))).length + t5.length))
      (some ([.one (.sl true 5 ((takeN t0 (Int.toNat (t0.length : Int))) ++ t5))], []))
      none)
     none)
    none)) := by kernel_rfl

/- elasticstore/elasticstoreref06.Numbers -/
noncomputable def P62_0 : List AItem := F62.at [.snd, .fst, .snd, .sub, .head]
def M62_0 (t0 : List (List Cell)) (t1 : List (List Cell)) (t5 : Int) : St := ⟨[(0, .one (.sl false 5 t0)), (1, .one (.sl false 3 t1)), (5, .one (.int .i64 t5))], []⟩
theorem e62 (m : Nat) (x : List (List Cell)) (l : List (List Cell)) : runF E (callOf L59) (m + 1) 62 [.one (.sl false 5 x), .one (.sl false 3 l)] [] =
  (goF E (callOf L59) F62 0 m P62_0 (M62_0 x l 0)) := by kernel_rfl
theorem e62_0 (m : Nat) (t0 : List (List Cell)) (t1 : List (List Cell)) (t5 : Int) : goF E (callOf L59) F62 0 (m + 1) P62_0 (M62_0 t0 t1 t5) =
  (cond (decide (t5 < (t1.length : Int)))
   (cond (inB t5 t1.length)
    (cond (okEnc t0 (IntKind.wrap .u64 (nr (Abs.rowAt t1 (Int.toNat t5)) 0)))
     (goF E (callOf L59) F62 0 m P62_0 (M62_0 (t0 ++ uenc (IntKind.wrap .u64 (nr (Abs.rowAt t1 (Int.toNat t5)) 0))) t1 (IntKind.wrap .i64 (t5 + 1))))
     none)
    none)
   (some ([.one (.sl false 5 t0)], []))) := by kernel_rfl

/- elasticstore/elasticstoreref14.AppendUpdate -/
noncomputable def P63_0 : List AItem := F63.at [.snd, .snd, .fst, .snd, .sub, .head]
def M63_0 (t0 : List (List Cell)) (t5 : Int) (b0 : Int) (b0_1 : Int) (b0_2 : Int) (b0_3 : List (List Cell)) : St := ⟨[(0, .one (.sl false 5 t0)), (3, .one (.ptr 0 0)), (5, .one (.int .i64 t5))], [.var [.int .i64 b0, .int .i64 b0_1, .int .i64 b0_2, .sl false 61 b0_3]]⟩
theorem e63 (m : Nat) (x : List (List Cell)) (cu : Int) (qu : Int) (tu : Int) (eu : List (List Cell)) : runF E (callOf L62) (m + 1) 63 [.one (.sl false 5 x), .agg [.int .i64 cu, .int .i64 qu, .int .i64 tu, .sl false 61 eu]] [] =
  (cond (okNums x [[Cell.int .i64 cu], [Cell.int .i64 qu], [Cell.int .i64 tu], [Cell.int .i64 (eu.length : Int)]])
   (goF E (callOf L62) F63 0 m P63_0 (M63_0 (x ++ encL [[Cell.int .i64 cu], [Cell.int .i64 qu], [Cell.int .i64 tu], [Cell.int .i64 (eu.length : Int)]]) 0 cu qu tu eu))
   none) := by kernel_rfl
theorem e63_0 (m : Nat) (t0 : List (List Cell)) (t5 : Int) (b0 : Int) (b0_1 : Int) (b0_2 : Int) (b0_3 : List (List Cell)) : goF E (callOf L62) F63 0 (m + 1) P63_0 (M63_0 t0 t5 b0 b0_1 b0_2 b0_3) =
  (cond (decide (t5 < (b0_3.length : Int)))
   (cond (inB t5 b0_3.length)
    (cond (okNums t0 [[Cell.int .i64 (nr (Abs.rowAt b0_3 (Int.toNat t5)) 0)]])
     (cond (okStr (t0 ++ encL [[Cell.int .i64 (nr (Abs.rowAt b0_3 (Int.toNat t5)) 0)]]) (ns (Abs.rowAt b0_3 (Int.toNat t5)) 1))
      (cond (okStr ((t0 ++ encL [[Cell.int .i64 (nr (Abs.rowAt b0_3 (Int.toNat t5)) 0)]]) ++ senc (ns (Abs.rowAt b0_3 (Int.toNat t5)) 1)) (ns (Abs.rowAt b0_3 (Int.toNat t5)) 2))
       (cond (okLen (((t0 ++ encL [[Cell.int .i64 (nr (Abs.rowAt b0_3 (Int.toNat t5)) 0)]]) ++ senc (ns (Abs.rowAt b0_3 (Int.toNat t5)) 1)) ++ senc (ns (Abs.rowAt b0_3 (Int.toNat t5)) 2)) && okI (nr (Abs.rowAt b0_3 (Int.toNat t5)) 3))
        (cond (okStr ((((t0 ++ encL [[Cell.int .i64 (nr (Abs.rowAt b0_3 (Int.toNat t5)) 0)]]) ++ senc (ns (Abs.rowAt b0_3 (Int.toNat t5)) 1)) ++ senc (ns (Abs.rowAt b0_3 (Int.toNat t5)) 2)) ++ uenc (zig (nr (Abs.rowAt b0_3 (Int.toNat t5)) 3))) (ns (Abs.rowAt b0_3 (Int.toNat t5)) 4))
         (goF E (callOf L62) F63 0 m P63_0 (M63_0 (((((t0 ++ encL [[Cell.int .i64 (nr (Abs.rowAt b0_3 (Int.toNat t5)) 0)]]) ++ senc (ns (Abs.rowAt b0_3 (Int.toNat t5)) 1)) ++ senc (ns (Abs.rowAt b0_3 (Int.toNat t5)) 2)) ++ uenc (zig (nr (Abs.rowAt b0_3 (Int.toNat t5)) 3))) ++ senc (ns (Abs.rowAt b0_3 (Int.toNat t5)) 4)) (IntKind.wrap .i64 (t5 + 1)) b0 b0_1 b0_2 b0_3))
         none)
        none)
       none)
      none)
     none)
    none)
   (some ([.one (.sl false 5 t0)], []))) := by kernel_rfl
noncomputable def P63_0_c1 : List AItem := F63.at [.snd, .snd, .fst, .snd, .sub, .head]
def M63_0_c1 (t0 : List (List Cell)) (t5 : Int) (b0 : Int) (b0_1 : Int) (b0_2 : Int) (b0_3 : List (List Cell)) : St := ⟨[(0, .one (.sl false 5 t0)), (3, .one (.ptr 0 0)), (5, .one (.int .i64 t5))], [.var [.int .i64 b0, .int .i64 b0_1, .int .i64 b0_2, .sl false 61 b0_3]]⟩
theorem e63_c1 (m : Nat) (cu : Int) (qu : Int) (tu : Int) (eu : List (List Cell)) : runF E (callOf L62) (m + 1) 63 [.one (.nils), .agg [.int .i64 cu, .int .i64 qu, .int .i64 tu, .sl false 61 eu]] [] =
  (cond (okNums ([] : List (List Cell)) [[Cell.int .i64 cu], [Cell.int .i64 qu], [Cell.int .i64 tu], [Cell.int .i64 (eu.length : Int)]])
   (goF E (callOf L62) F63 0 m P63_0_c1 (M63_0_c1 (([] : List (List Cell)) ++ encL [[Cell.int .i64 cu], [Cell.int .i64 qu], [Cell.int .i64 tu], [Cell.int .i64 (eu.length : Int)]]) 0 cu qu tu eu))
   none) := by kernel_rfl
theorem e63_0_c1 (m : Nat) (t0 : List (List Cell)) (t5 : Int) (b0 : Int) (b0_1 : Int) (b0_2 : Int) (b0_3 : List (List Cell)) : goF E (callOf L62) F63 0 (m + 1) P63_0_c1 (M63_0_c1 t0 t5 b0 b0_1 b0_2 b0_3) =
  (cond (decide (t5 < (b0_3.length : Int)))
   (cond (inB t5 b0_3.length)
    (cond (okNums t0 [[Cell.int .i64 (nr (Abs.rowAt b0_3 (Int.toNat t5)) 0)]])
     (cond (okStr (t0 ++ encL [[Cell.int .i64 (nr (Abs.rowAt b0_3 (Int.toNat t5)) 0)]]) (ns (Abs.rowAt b0_3 (Int.toNat t5)) 1))
      (cond (okStr ((t0 ++ encL [[Cell.int .i64 (nr (Abs.rowAt b0_3 (Int.toNat t5)) 0)]]) ++ senc (ns (Abs.rowAt b0_3 (Int.toNat t5)) 1)) (ns (Abs.rowAt b0_3 (Int.toNat t5)) 2))
       (cond (okLen (((t0 ++ encL [[Cell.int .i64 (nr (Abs.rowAt b0_3 (Int.toNat t5)) 0)]]) ++ senc (ns (Abs.rowAt b0_3 (Int.toNat t5)) 1)) ++ senc (ns (Abs.rowAt b0_3 (Int.toNat t5)) 2)) && okI (nr (Abs.rowAt b0_3 (Int.toNat t5)) 3))
        (cond (okStr ((((t0 ++ encL [[Cell.int .i64 (nr (Abs.rowAt b0_3 (Int.toNat t5)) 0)]]) ++ senc (ns (Abs.rowAt b0_3 (Int.toNat t5)) 1)) ++ senc (ns (Abs.rowAt b0_3 (Int.toNat t5)) 2)) ++ uenc (zig (nr (Abs.rowAt b0_3 (Int.toNat t5)) 3))) (ns (Abs.rowAt b0_3 (Int.toNat t5)) 4))
         (goF E (callOf L62) F63 0 m P63_0_c1 (M63_0_c1 (((((t0 ++ encL [[Cell.int .i64 (nr (Abs.rowAt b0_3 (Int.toNat t5)) 0)]]) ++ senc (ns (Abs.rowAt b0_3 (Int.toNat t5)) 1)) ++ senc (ns (Abs.rowAt b0_3 (Int.toNat t5)) 2)) ++ uenc (zig (nr (Abs.rowAt b0_3 (Int.toNat t5)) 3))) ++ senc (ns (Abs.rowAt b0_3 (Int.toNat t5)) 4)) (IntKind.wrap .i64 (t5 + 1)) b0 b0_1 b0_2 b0_3))
         none)
        none)
       none)
      none)
     none)
    none)
   (some ([.one (.sl false 5 t0)], []))) := by kernel_rfl

/- elasticstore/wire.Uint -/
noncomputable def P60_0 : List AItem := F60.at [.snd, (.jump 0)]
def M60_0 (t0 : List (List Cell)) (t5 : Int) (t6 : Int) : St := ⟨[(0, .one (.sl false 5 t0)), (5, .one (.int .u64 t5)), (6, .one (.int .i64 t6))], []⟩
theorem e60 (m : Nat) (x : List (List Cell)) : runF E (callOf L63) (m + 1) 60 [.one (.sl false 5 x)] [] =
  (cond ((0 : Int) == (x.length : Int))
   (some ([.one (.int .u64 0), .one (.int .i64 0), .one (.int .i64 1)], []))
   (cond (inB 0 x.length)
    (cond (decide ((nr (Abs.rowAt x 0) 0) ≥ 128))
     (goF E (callOf L63) F60 0 m P60_0 (M60_0 x (orI .u64 0 (shlI .u64 (IntKind.wrap .u64 (andNotI .u8 (nr (Abs.rowAt x 0) 0) 128)) 0)) 1))
     (cond ((nr (Abs.rowAt x 0) 0) == 0)
      (some ([.one (.int .u64 (orI .u64 0 (shlI .u64 (IntKind.wrap .u64 (andNotI .u8 (nr (Abs.rowAt x 0) 0) 128)) 0))), .one (.int .i64 1), .one (.int .i64 0)], []))
      (some ([.one (.int .u64 (orI .u64 0 (shlI .u64 (IntKind.wrap .u64 (andNotI .u8 (nr (Abs.rowAt x 0) 0) 128)) 0))), .one (.int .i64 1), .one (.int .i64 0)], []))))
    none)) := by kernel_rfl
theorem e60_0 (m : Nat) (t0 : List (List Cell)) (t5 : Int) (t6 : Int) : goF E (callOf L63) F60 0 (m + 1) P60_0 (M60_0 t0 t5 t6) =
  (cond (t6 == (t0.length : Int))
   (some ([.one (.int .u64 0), .one (.int .i64 0), .one (.int .i64 1)], []))
   (cond (inB t6 t0.length)
    (cond (t6 == 9)
     (cond (decide ((nr (Abs.rowAt t0 (Int.toNat t6)) 0) > 1))
      (some ([.one (.int .u64 0), .one (.int .i64 0), .one (.int .i64 9)], []))
      (cond (decide ((IntKind.wrap .i64 (7 * t6)) < 0))
       none
       (cond (decide ((nr (Abs.rowAt t0 (Int.toNat t6)) 0) ≥ 128))
        (goF E (callOf L63) F60 0 m P60_0 (M60_0 t0 (orI .u64 t5 (shlI .u64 (IntKind.wrap .u64 (andNotI .u8 (nr (Abs.rowAt t0 (Int.toNat t6)) 0) 128)) (IntKind.wrap .i64 (7 * t6)))) (IntKind.wrap .i64 (t6 + 1))))
        (cond ((nr (Abs.rowAt t0 (Int.toNat t6)) 0) == 0)
         (cond (decide ((IntKind.wrap .i64 (t6 + 1)) > 1))
          (some ([.one (.int .u64 0), .one (.int .i64 0), .one (.int .i64 2)], []))
          (some ([.one (.int .u64 (orI .u64 t5 (shlI .u64 (IntKind.wrap .u64 (andNotI .u8 (nr (Abs.rowAt t0 (Int.toNat t6)) 0) 128)) (IntKind.wrap .i64 (7 * t6))))), .one (.int .i64 (IntKind.wrap .i64 (t6 + 1))), .one (.int .i64 0)], [])))
         (some ([.one (.int .u64 (orI .u64 t5 (shlI .u64 (IntKind.wrap .u64 (andNotI .u8 (nr (Abs.rowAt t0 (Int.toNat t6)) 0) 128)) (IntKind.wrap .i64 (7 * t6))))), .one (.int .i64 (IntKind.wrap .i64 (t6 + 1))), .one (.int .i64 0)], []))))))
     (cond (decide ((IntKind.wrap .i64 (7 * t6)) < 0))
      none
      (cond (decide ((nr (Abs.rowAt t0 (Int.toNat t6)) 0) ≥ 128))
       (goF E (callOf L63) F60 0 m P60_0 (M60_0 t0 (orI .u64 t5 (shlI .u64 (IntKind.wrap .u64 (andNotI .u8 (nr (Abs.rowAt t0 (Int.toNat t6)) 0) 128)) (IntKind.wrap .i64 (7 * t6)))) (IntKind.wrap .i64 (t6 + 1))))
       (cond ((nr (Abs.rowAt t0 (Int.toNat t6)) 0) == 0)
        (cond (decide ((IntKind.wrap .i64 (t6 + 1)) > 1))
         (some ([.one (.int .u64 0), .one (.int .i64 0), .one (.int .i64 2)], []))
         (some ([.one (.int .u64 (orI .u64 t5 (shlI .u64 (IntKind.wrap .u64 (andNotI .u8 (nr (Abs.rowAt t0 (Int.toNat t6)) 0) 128)) (IntKind.wrap .i64 (7 * t6))))), .one (.int .i64 (IntKind.wrap .i64 (t6 + 1))), .one (.int .i64 0)], [])))
        (some ([.one (.int .u64 (orI .u64 t5 (shlI .u64 (IntKind.wrap .u64 (andNotI .u8 (nr (Abs.rowAt t0 (Int.toNat t6)) 0) 128)) (IntKind.wrap .i64 (7 * t6))))), .one (.int .i64 (IntKind.wrap .i64 (t6 + 1))), .one (.int .i64 0)], []))))))
    none)) := by kernel_rfl

/- elasticstore/elasticstoreref03.Uint -/
noncomputable def P64_0 : List AItem := F64.at [.snd, .snd, .fst, .snd, .sub, .head]
def M64_0 (t0 : List (List Cell)) (t5 : Int) (t6 : Int) : St := ⟨[(0, .one (.sl false 5 t0)), (5, .one (.int .u64 t5)), (6, .one (.int .i64 t6))], []⟩
theorem e64 (m : Nat) (x : List (List Cell)) : runF E (callOf L60) (m + 1) 64 [.one (.sl false 5 x)] [] =
  (goF E (callOf L60) F64 0 m P64_0 (M64_0 x 0 0)) := by kernel_rfl
theorem e64_0 (m : Nat) (t0 : List (List Cell)) (t5 : Int) (t6 : Int) : goF E (callOf L60) F64 0 (m + 1) P64_0 (M64_0 t0 t5 t6) =
  (cond (decide (t6 < 10))
   (cond (t6 == (t0.length : Int))
    (some ([.one (.int .u64 0), .one (.int .i64 0), .one (.int .i64 1)], []))
    (cond (t6 == 9)
     (cond (inB t6 t0.length)
      (cond (decide ((nr (Abs.rowAt t0 (Int.toNat t6)) 0) > 1))
       (some ([.one (.int .u64 0), .one (.int .i64 0), .one (.int .i64 9)], []))
       (cond (inB t6 t0.length)
        (cond (decide ((IntKind.wrap .u64 (IntKind.wrap .i64 (7 * t6))) < 0))
         none
         (cond (inB t6 t0.length)
          (cond (decide ((nr (Abs.rowAt t0 (Int.toNat t6)) 0) < 128))
           (cond (inB t6 t0.length)
            (cond ((nr (Abs.rowAt t0 (Int.toNat t6)) 0) == 0)
             (cond (decide (t6 > 0))
              (some ([.one (.int .u64 0), .one (.int .i64 0), .one (.int .i64 2)], []))
              (some ([.one (.int .u64 (orI .u64 t5 (shlI .u64 (IntKind.wrap .u64 (Int.tmod (nr (Abs.rowAt t0 (Int.toNat t6)) 0) 128)) (IntKind.wrap .u64 (IntKind.wrap .i64 (7 * t6)))))), .one (.int .i64 (IntKind.wrap .i64 (t6 + 1))), .one (.int .i64 0)], [])))
             (some ([.one (.int .u64 (orI .u64 t5 (shlI .u64 (IntKind.wrap .u64 (Int.tmod (nr (Abs.rowAt t0 (Int.toNat t6)) 0) 128)) (IntKind.wrap .u64 (IntKind.wrap .i64 (7 * t6)))))), .one (.int .i64 (IntKind.wrap .i64 (t6 + 1))), .one (.int .i64 0)], [])))
            none)
           (goF E (callOf L60) F64 0 m P64_0 (M64_0 t0 (orI .u64 t5 (shlI .u64 (IntKind.wrap .u64 (Int.tmod (nr (Abs.rowAt t0 (Int.toNat t6)) 0) 128)) (IntKind.wrap .u64 (IntKind.wrap .i64 (7 * t6))))) (IntKind.wrap .i64 (t6 + 1)))))
          none))
        none))
      none)
     (cond (inB t6 t0.length)
      (cond (decide ((IntKind.wrap .u64 (IntKind.wrap .i64 (7 * t6))) < 0))
       none
       (cond (inB t6 t0.length)
        (cond (decide ((nr (Abs.rowAt t0 (Int.toNat t6)) 0) < 128))
         (cond (inB t6 t0.length)
          (cond ((nr (Abs.rowAt t0 (Int.toNat t6)) 0) == 0)
           (cond (decide (t6 > 0))
            (some ([.one (.int .u64 0), .one (.int .i64 0), .one (.int .i64 2)], []))
            (some ([.one (.int .u64 (orI .u64 t5 (shlI .u64 (IntKind.wrap .u64 (Int.tmod (nr (Abs.rowAt t0 (Int.toNat t6)) 0) 128)) (IntKind.wrap .u64 (IntKind.wrap .i64 (7 * t6)))))), .one (.int .i64 (IntKind.wrap .i64 (t6 + 1))), .one (.int .i64 0)], [])))
           (some ([.one (.int .u64 (orI .u64 t5 (shlI .u64 (IntKind.wrap .u64 (Int.tmod (nr (Abs.rowAt t0 (Int.toNat t6)) 0) 128)) (IntKind.wrap .u64 (IntKind.wrap .i64 (7 * t6)))))), .one (.int .i64 (IntKind.wrap .i64 (t6 + 1))), .one (.int .i64 0)], [])))
          none)
         (goF E (callOf L60) F64 0 m P64_0 (M64_0 t0 (orI .u64 t5 (shlI .u64 (IntKind.wrap .u64 (Int.tmod (nr (Abs.rowAt t0 (Int.toNat t6)) 0) 128)) (IntKind.wrap .u64 (IntKind.wrap .i64 (7 * t6))))) (IntKind.wrap .i64 (t6 + 1)))))
        none))
      none)))
   (some ([.one (.int .u64 0), .one (.int .i64 0), .one (.int .i64 9)], []))) := by kernel_rfl

/- elasticstore/wire.Int -/
theorem e105 (m : Nat) (x : List (List Cell)) : runF E (callOf L64) (m + 1) 105 [.one (.sl false 5 x)] [] =
  (cond (okRd x)
   (cond ((udec x).2.2 != 0)
    (some ([.one (.int .i64 0), .one (.int .i64 0), .one (.int .i64 (udec x).2.2)], []))
    (some ([.one (.int .i64 (xorI .i64 (IntKind.wrap .i64 (shrI .u64 (udec x).1 1)) (IntKind.wrap .i64 (0 - (IntKind.wrap .i64 (andI .u64 (udec x).1 1)))))), .one (.int .i64 (udec x).2.1), .one (.int .i64 0)], [])))
   none) := by kernel_rfl

/- elasticstore/elasticstoreref03.Int -/
theorem e107 (m : Nat) (x : List (List Cell)) : runF E (callOf L105) (m + 1) 107 [.one (.sl false 5 x)] [] =
  (cond (okRd x)
   (cond ((udec x).2.2 != 0)
    (some ([.one (.int .i64 0), .one (.int .i64 0), .one (.int .i64 (udec x).2.2)], []))
    (cond ((Int.tmod (udec x).1 2) == 0)
     (some ([.one (.int .i64 (IntKind.wrap .i64 (IntKind.wrap .u64 (Int.tdiv (udec x).1 2)))), .one (.int .i64 (udec x).2.1), .one (.int .i64 0)], []))
     (some ([.one (.int .i64 (IntKind.wrap .i64 ((IntKind.wrap .i64 (0 - (IntKind.wrap .i64 (IntKind.wrap .u64 (Int.tdiv (udec x).1 2))))) - 1))), .one (.int .i64 (udec x).2.1), .one (.int .i64 0)], []))))
   none) := by kernel_rfl

/- elasticstore/wire.String -/
theorem e104 (m : Nat) (x : List (List Cell)) : runF E (callOf L107) (m + 1) 104 [.one (.sl false 5 x)] [] =
  (cond (okRd x)
   (cond ((udec x).2.2 != 0)
    (some ([.one (.str ([] : List UInt8)), .one (.int .i64 0), .one (.int .i64 (udec x).2.2)], []))
    (cond (decide ((udec x).1 > (IntKind.wrap .u64 (IntKind.wrap .i64 ((x.length : Int) - (udec x).2.1)))))
     (some ([.one (.str ([] : List UInt8)), .one (.int .i64 0), .one (.int .i64 1)], []))
     (cond (inB (IntKind.wrap .i64 ((udec x).2.1 + (IntKind.wrap .i64 (udec x).1))) (x.length + 1))
      (cond (inB (udec x).2.1 ((Int.toNat (IntKind.wrap .i64 ((udec x).2.1 + (IntKind.wrap .i64 (udec x).1)))) + 1))
       (some ([.one (.str (toBytes (subL x (Int.toNat (udec x).2.1) (Int.toNat (IntKind.wrap .i64 ((udec x).2.1 + (IntKind.wrap .i64 (udec x).1))))))), .one (.int .i64 (IntKind.wrap .i64 ((udec x).2.1 + (IntKind.wrap .i64 (udec x).1)))), .one (.int .i64 0)], []))
       none)
      none)))
   none) := by kernel_rfl

/- elasticstore/elasticstoreref03.String -/
theorem e106 (m : Nat) (x : List (List Cell)) : runF E (callOf L104) (m + 1) 106 [.one (.sl false 5 x)] [] =
  (cond (okRd x)
   (cond ((udec x).2.2 != 0)
    (some ([.one (.str ([] : List UInt8)), .one (.int .i64 0), .one (.int .i64 (udec x).2.2)], []))
    (cond (decide ((udec x).1 > (IntKind.wrap .u64 (IntKind.wrap .i64 ((x.length : Int) - (udec x).2.1)))))
     (some ([.one (.str ([] : List UInt8)), .one (.int .i64 0), .one (.int .i64 1)], []))
     (cond (inB (IntKind.wrap .i64 ((udec x).2.1 + (IntKind.wrap .i64 (udec x).1))) (x.length + 1))
      (cond (inB (udec x).2.1 ((Int.toNat (IntKind.wrap .i64 ((udec x).2.1 + (IntKind.wrap .i64 (udec x).1)))) + 1))
       (some ([.one (.str (toBytes (subL x (Int.toNat (udec x).2.1) (Int.toNat (IntKind.wrap .i64 ((udec x).2.1 + (IntKind.wrap .i64 (udec x).1))))))), .one (.int .i64 (IntKind.wrap .i64 ((udec x).2.1 + (IntKind.wrap .i64 (udec x).1)))), .one (.int .i64 0)], []))
       none)
      none)))
   none) := by kernel_rfl

/- elasticstore/elasticstoreref06.Number -/
theorem e85 (m : Nat) (x : List (List Cell)) : runF E (callOf L106) (m + 1) 85 [.one (.sl false 5 x)] [] =
  (cond (okRd x)
   (cond ((udec x).2.2 != 0)
    (some ([.one (.int .i64 0), .one (.int .i64 0), .one (.int .i64 (udec x).2.2)], []))
    (cond (decide ((udec x).1 > 2147483647))
     (some ([.one (.int .i64 0), .one (.int .i64 0), .one (.int .i64 9)], []))
     (some ([.one (.int .i64 (IntKind.wrap .i64 (udec x).1)), .one (.int .i64 (udec x).2.1), .one (.int .i64 0)], []))))
   none) := by kernel_rfl

/- (*elasticstore/update.reader).take -/
theorem e96 (m : Nat) (n : Int) (z : Int) (b : List (List Cell)) (o : Int) (e : Int) : runF E (callOf L85) (m + 1) 96 [.one (.ptr 0 0), .one (.int .i64 n), .one (.int .i64 z)] [.var [.sl false 5 b, .int .i64 o, .int .i64 e]] =
  (some ([], [.var [.sl false 5 b, .int .i64 (IntKind.wrap .i64 (o + n)), .int .i64 z]])) := by kernel_rfl

/- (*elasticstore/update.reader).number -/
theorem e80 (m : Nat) (b : List (List Cell)) (o : Int) (e : Int) : runF E (callOf L96) (m + 1) 80 [.one (.ptr 0 0)] [.var [.sl false 5 b, .int .i64 o, .int .i64 e]] =
  (cond (e != 0)
   (some ([.one (.int .i64 0)], [.var [.sl false 5 b, .int .i64 o, .int .i64 e]]))
   (cond (inB o (b.length + 1))
    (cond (okRd (dropN b (Int.toNat o)))
     (cond ((udec (dropN b (Int.toNat o))).2.2 == 0)
      (cond (decide ((udec (dropN b (Int.toNat o))).1 > 2147483647))
       (cond (okTake o 0)
        (some ([.one (.int .i64 0)], [.var [.sl false 5 b, .int .i64 (o + 0), .int .i64 9]]))
        none)
       (cond (okTake o (udec (dropN b (Int.toNat o))).2.1)
        (some ([.one (.int .i64 (IntKind.wrap .i64 (udec (dropN b (Int.toNat o))).1))], [.var [.sl false 5 b, .int .i64 (o + (udec (dropN b (Int.toNat o))).2.1), .int .i64 (udec (dropN b (Int.toNat o))).2.2]]))
        none))
      (cond (okTake o (udec (dropN b (Int.toNat o))).2.1)
       (some ([.one (.int .i64 (IntKind.wrap .i64 (udec (dropN b (Int.toNat o))).1))], [.var [.sl false 5 b, .int .i64 (o + (udec (dropN b (Int.toNat o))).2.1), .int .i64 (udec (dropN b (Int.toNat o))).2.2]]))
       none))
     none)
    none)) := by kernel_rfl

/- (*elasticstore/update.reader).text -/
theorem e97 (m : Nat) (b : List (List Cell)) (o : Int) (e : Int) : runF E (callOf L80) (m + 1) 97 [.one (.ptr 0 0)] [.var [.sl false 5 b, .int .i64 o, .int .i64 e]] =
  (cond (e != 0)
   (some ([.one (.str ([] : List UInt8))], [.var [.sl false 5 b, .int .i64 o, .int .i64 e]]))
   (cond (inB o (b.length + 1))
    (cond (okRd (dropN b (Int.toNat o)))
     (cond (okTake o (sdec (dropN b (Int.toNat o))).2.1)
      (some ([.one (.str (sdec (dropN b (Int.toNat o))).1)], [.var [.sl false 5 b, .int .i64 (o + (sdec (dropN b (Int.toNat o))).2.1), .int .i64 (sdec (dropN b (Int.toNat o))).2.2]]))
      none)
     none)
    none)) := by kernel_rfl

/- (*elasticstore/update.reader).integer -/
theorem e98 (m : Nat) (b : List (List Cell)) (o : Int) (e : Int) : runF E (callOf L97) (m + 1) 98 [.one (.ptr 0 0)] [.var [.sl false 5 b, .int .i64 o, .int .i64 e]] =
  (cond (e != 0)
   (some ([.one (.int .i64 0)], [.var [.sl false 5 b, .int .i64 o, .int .i64 e]]))
   (cond (inB o (b.length + 1))
    (cond (okRd (dropN b (Int.toNat o)))
     (cond (okTake o (idec (dropN b (Int.toNat o))).2.1)
      (some ([.one (.int .i64 (idec (dropN b (Int.toNat o))).1)], [.var [.sl false 5 b, .int .i64 (o + (idec (dropN b (Int.toNat o))).2.1), .int .i64 (idec (dropN b (Int.toNat o))).2.2]]))
      none)
     none)
    none)) := by kernel_rfl

/- (*elasticstore/update.reader).effect -/
theorem e81 (m : Nat) (b : List (List Cell)) (o : Int) (e : Int) : runF E (callOf L98) (m + 1) 81 [.one (.ptr 0 0)] [.var [.sl false 5 b, .int .i64 o, .int .i64 e]] =
  (cond (okAt b o)
   (cond (okAt b (rnum b o e).2.1)
    (cond (okAt b (rtext b (rnum b o e).2.1 (rnum b o e).2.2).2.1)
     (cond (okAt b (rtext b (rtext b (rnum b o e).2.1 (rnum b o e).2.2).2.1 (rtext b (rnum b o e).2.1 (rnum b o e).2.2).2.2).2.1)
      (cond (okAt b (rint b (rtext b (rtext b (rnum b o e).2.1 (rnum b o e).2.2).2.1 (rtext b (rnum b o e).2.1 (rnum b o e).2.2).2.2).2.1 (rtext b (rtext b (rnum b o e).2.1 (rnum b o e).2.2).2.1 (rtext b (rnum b o e).2.1 (rnum b o e).2.2).2.2).2.2).2.1)
       (some ([.agg [.int .i64 (rnum b o e).1, .str (rtext b (rnum b o e).2.1 (rnum b o e).2.2).1, .str (rtext b (rtext b (rnum b o e).2.1 (rnum b o e).2.2).2.1 (rtext b (rnum b o e).2.1 (rnum b o e).2.2).2.2).1, .int .i64 (rint b (rtext b (rtext b (rnum b o e).2.1 (rnum b o e).2.2).2.1 (rtext b (rnum b o e).2.1 (rnum b o e).2.2).2.2).2.1 (rtext b (rtext b (rnum b o e).2.1 (rnum b o e).2.2).2.1 (rtext b (rnum b o e).2.1 (rnum b o e).2.2).2.2).2.2).1, .str (rtext b (rint b (rtext b (rtext b (rnum b o e).2.1 (rnum b o e).2.2).2.1 (rtext b (rnum b o e).2.1 (rnum b o e).2.2).2.2).2.1 (rtext b (rtext b (rnum b o e).2.1 (rnum b o e).2.2).2.1 (rtext b (rnum b o e).2.1 (rnum b o e).2.2).2.2).2.2).2.1 (rint b (rtext b (rtext b (rnum b o e).2.1 (rnum b o e).2.2).2.1 (rtext b (rnum b o e).2.1 (rnum b o e).2.2).2.2).2.1 (rtext b (rtext b (rnum b o e).2.1 (rnum b o e).2.2).2.1 (rtext b (rnum b o e).2.1 (rnum b o e).2.2).2.2).2.2).2.2).1]], [.var [.sl false 5 b, .int .i64 (rtext b (rint b (rtext b (rtext b (rnum b o e).2.1 (rnum b o e).2.2).2.1 (rtext b (rnum b o e).2.1 (rnum b o e).2.2).2.2).2.1 (rtext b (rtext b (rnum b o e).2.1 (rnum b o e).2.2).2.1 (rtext b (rnum b o e).2.1 (rnum b o e).2.2).2.2).2.2).2.1 (rint b (rtext b (rtext b (rnum b o e).2.1 (rnum b o e).2.2).2.1 (rtext b (rnum b o e).2.1 (rnum b o e).2.2).2.2).2.1 (rtext b (rtext b (rnum b o e).2.1 (rnum b o e).2.2).2.1 (rtext b (rnum b o e).2.1 (rnum b o e).2.2).2.2).2.2).2.2).2.1, .int .i64 (rtext b (rint b (rtext b (rtext b (rnum b o e).2.1 (rnum b o e).2.2).2.1 (rtext b (rnum b o e).2.1 (rnum b o e).2.2).2.2).2.1 (rtext b (rtext b (rnum b o e).2.1 (rnum b o e).2.2).2.1 (rtext b (rnum b o e).2.1 (rnum b o e).2.2).2.2).2.2).2.1 (rint b (rtext b (rtext b (rnum b o e).2.1 (rnum b o e).2.2).2.1 (rtext b (rnum b o e).2.1 (rnum b o e).2.2).2.2).2.1 (rtext b (rtext b (rnum b o e).2.1 (rnum b o e).2.2).2.1 (rtext b (rnum b o e).2.1 (rnum b o e).2.2).2.2).2.2).2.2).2.2]]))
       none)
      none)
     none)
    none)
   none) := by kernel_rfl

/- elasticstore/update.Decode -/
noncomputable def P61_0 : List AItem := F61.at [.snd, .snd, .snd, .snd, .snd, .snd, .snd, .fst, .snd, .sub, .head]
def M61_0 (t7 : Int) (t8 : Int) (b0 : Int) (b0_1 : Int) (b0_2 : Int) (b0_3 : List (List Cell)) (b1 : List (List Cell)) (b1_1 : Int) (b1_2 : Int) (b2 : Int) (b2_1 : Int) (b2_2 : Int) (b2_3 : List (List Cell)) : St := ⟨[(2, .one (.ptr 0 0)), (5, .one (.ptr 1 0)), (6, .one (.ptr 2 0)), (7, .one (.int .i64 t7)), (8, .one (.int .i64 t8))], [.var [.int .i64 b0, .int .i64 b0_1, .int .i64 b0_2, .sl true 61 b0_3], .var [.sl false 5 b1, .int .i64 b1_1, .int .i64 b1_2], .var [.int .i64 b2, .int .i64 b2_1, .int .i64 b2_2, .sl true 61 b2_3]]⟩
theorem e61 (m : Nat) (x : List (List Cell)) : runF E (callOf L81) (m + 1) 61 [.one (.sl false 5 x)] [] =
  (cond (okAt x 0)
   (cond (okAt x (rnum x 0 0).2.1)
    (cond (okAt x (rnum x (rnum x 0 0).2.1 (rnum x 0 0).2.2).2.1)
     (cond (okAt x (rnum x (rnum x (rnum x 0 0).2.1 (rnum x 0 0).2.2).2.1 (rnum x (rnum x 0 0).2.1 (rnum x 0 0).2.2).2.2).2.1)
      (cond ((rnum x (rnum x (rnum x (rnum x 0 0).2.1 (rnum x 0 0).2.2).2.1 (rnum x (rnum x 0 0).2.1 (rnum x 0 0).2.2).2.2).2.1 (rnum x (rnum x (rnum x 0 0).2.1 (rnum x 0 0).2.2).2.1 (rnum x (rnum x 0 0).2.1 (rnum x 0 0).2.2).2.2).2.2).2.2 == 0)
       (cond (decide ((rnum x (rnum x (rnum x (rnum x 0 0).2.1 (rnum x 0 0).2.2).2.1 (rnum x (rnum x 0 0).2.1 (rnum x 0 0).2.2).2.2).2.1 (rnum x (rnum x (rnum x 0 0).2.1 (rnum x 0 0).2.2).2.1 (rnum x (rnum x 0 0).2.1 (rnum x 0 0).2.2).2.2).2.2).1 > 4))
        (goF E (callOf L81) F61 0 m P61_0 (M61_0 (rnum x (rnum x (rnum x (rnum x 0 0).2.1 (rnum x 0 0).2.2).2.1 (rnum x (rnum x 0 0).2.1 (rnum x 0 0).2.2).2.2).2.1 (rnum x (rnum x (rnum x 0 0).2.1 (rnum x 0 0).2.2).2.1 (rnum x (rnum x 0 0).2.1 (rnum x 0 0).2.2).2.2).2.2).1 0 0 0 0 ([] : List (List Cell)) x (rnum x (rnum x (rnum x (rnum x 0 0).2.1 (rnum x 0 0).2.2).2.1 (rnum x (rnum x 0 0).2.1 (rnum x 0 0).2.2).2.2).2.1 (rnum x (rnum x (rnum x 0 0).2.1 (rnum x 0 0).2.2).2.1 (rnum x (rnum x 0 0).2.1 (rnum x 0 0).2.2).2.2).2.2).2.1 3 (rnum x 0 0).1 (rnum x (rnum x 0 0).2.1 (rnum x 0 0).2.2).1 (rnum x (rnum x (rnum x 0 0).2.1 (rnum x 0 0).2.2).2.1 (rnum x (rnum x 0 0).2.1 (rnum x 0 0).2.2).2.2).1 ([] : List (List Cell))))
        (goF E (callOf L81) F61 0 m P61_0 (M61_0 (rnum x (rnum x (rnum x (rnum x 0 0).2.1 (rnum x 0 0).2.2).2.1 (rnum x (rnum x 0 0).2.1 (rnum x 0 0).2.2).2.2).2.1 (rnum x (rnum x (rnum x 0 0).2.1 (rnum x 0 0).2.2).2.1 (rnum x (rnum x 0 0).2.1 (rnum x 0 0).2.2).2.2).2.2).1 0 0 0 0 ([] : List (List Cell)) x (rnum x (rnum x (rnum x (rnum x 0 0).2.1 (rnum x 0 0).2.2).2.1 (rnum x (rnum x 0 0).2.1 (rnum x 0 0).2.2).2.2).2.1 (rnum x (rnum x (rnum x 0 0).2.1 (rnum x 0 0).2.2).2.1 (rnum x (rnum x 0 0).2.1 (rnum x 0 0).2.2).2.2).2.2).2.1 (rnum x (rnum x (rnum x (rnum x 0 0).2.1 (rnum x 0 0).2.2).2.1 (rnum x (rnum x 0 0).2.1 (rnum x 0 0).2.2).2.2).2.1 (rnum x (rnum x (rnum x 0 0).2.1 (rnum x 0 0).2.2).2.1 (rnum x (rnum x 0 0).2.1 (rnum x 0 0).2.2).2.2).2.2).2.2 (rnum x 0 0).1 (rnum x (rnum x 0 0).2.1 (rnum x 0 0).2.2).1 (rnum x (rnum x (rnum x 0 0).2.1 (rnum x 0 0).2.2).2.1 (rnum x (rnum x 0 0).2.1 (rnum x 0 0).2.2).2.2).1 ([] : List (List Cell)))))
       (goF E (callOf L81) F61 0 m P61_0 (M61_0 (rnum x (rnum x (rnum x (rnum x 0 0).2.1 (rnum x 0 0).2.2).2.1 (rnum x (rnum x 0 0).2.1 (rnum x 0 0).2.2).2.2).2.1 (rnum x (rnum x (rnum x 0 0).2.1 (rnum x 0 0).2.2).2.1 (rnum x (rnum x 0 0).2.1 (rnum x 0 0).2.2).2.2).2.2).1 0 0 0 0 ([] : List (List Cell)) x (rnum x (rnum x (rnum x (rnum x 0 0).2.1 (rnum x 0 0).2.2).2.1 (rnum x (rnum x 0 0).2.1 (rnum x 0 0).2.2).2.2).2.1 (rnum x (rnum x (rnum x 0 0).2.1 (rnum x 0 0).2.2).2.1 (rnum x (rnum x 0 0).2.1 (rnum x 0 0).2.2).2.2).2.2).2.1 (rnum x (rnum x (rnum x (rnum x 0 0).2.1 (rnum x 0 0).2.2).2.1 (rnum x (rnum x 0 0).2.1 (rnum x 0 0).2.2).2.2).2.1 (rnum x (rnum x (rnum x 0 0).2.1 (rnum x 0 0).2.2).2.1 (rnum x (rnum x 0 0).2.1 (rnum x 0 0).2.2).2.2).2.2).2.2 (rnum x 0 0).1 (rnum x (rnum x 0 0).2.1 (rnum x 0 0).2.2).1 (rnum x (rnum x (rnum x 0 0).2.1 (rnum x 0 0).2.2).2.1 (rnum x (rnum x 0 0).2.1 (rnum x 0 0).2.2).2.2).1 ([] : List (List Cell)))))
      none)
     none)
    none)
   none) := by kernel_rfl
theorem e61_0 (m : Nat) (t7 : Int) (t8 : Int) (b0 : Int) (b0_1 : Int) (b0_2 : Int) (b0_3 : List (List Cell)) (b1 : List (List Cell)) (b1_1 : Int) (b1_2 : Int) (b2 : Int) (b2_1 : Int) (b2_2 : Int) (b2_3 : List (List Cell)) : goF E (callOf L81) F61 0 (m + 1) P61_0 (M61_0 t7 t8 b0 b0_1 b0_2 b0_3 b1 b1_1 b1_2 b2 b2_1 b2_2 b2_3) =
  (cond (decide (t8 < t7))
   (cond (b1_2 == 0)
    (cond (okAt b1 b1_1)
     (cond (fits (b2_3.length + [[Cell.int .i64 (reff b1 b1_1 b1_2).1.1, Cell.str (reff b1 b1_1 b1_2).1.2.1, Cell.str (reff b1 b1_1 b1_2).1.2.2.1, Cell.int .i64 (reff b1 b1_1 b1_2).1.2.2.2.1, Cell.str (reff b1 b1_1 b1_2).1.2.2.2.2]].length))
      (goF E (callOf L81) F61 0 m P61_0 (M61_0 t7 (IntKind.wrap .i64 (t8 + 1)) b0 b0_1 b0_2 b0_3 b1 (reff b1 b1_1 b1_2).2.1 (reff b1 b1_1 b1_2).2.2 b2 b2_1 b2_2 (b2_3 ++ [[Cell.int .i64 (reff b1 b1_1 b1_2).1.1, Cell.str (reff b1 b1_1 b1_2).1.2.1, Cell.str (reff b1 b1_1 b1_2).1.2.2.1, Cell.int .i64 (reff b1 b1_1 b1_2).1.2.2.2.1, Cell.str (reff b1 b1_1 b1_2).1.2.2.2.2]])))
      none)
     none)
    (cond (b1_2 == 0)
     (cond ((vUpd b2 b2_1 b2_2 b2_3) != 0)
      (some ([.agg [.int .i64 0, .int .i64 0, .int .i64 0, .sl true 61 ([] : List (List Cell))], .one (.int .i64 0), .one (.int .i64 (vUpd b2 b2_1 b2_2 b2_3))], []))
      (some ([.agg [.int .i64 b2, .int .i64 b2_1, .int .i64 b2_2, .sl true 61 b2_3], .one (.int .i64 b1_1), .one (.int .i64 0)], [])))
     (cond (b1_2 != 0)
      (some ([.agg [.int .i64 0, .int .i64 0, .int .i64 0, .sl true 61 ([] : List (List Cell))], .one (.int .i64 0), .one (.int .i64 b1_2)], []))
      (some ([.agg [.int .i64 b2, .int .i64 b2_1, .int .i64 b2_2, .sl true 61 b2_3], .one (.int .i64 b1_1), .one (.int .i64 0)], [])))))
   (cond (b1_2 == 0)
    (cond ((vUpd b2 b2_1 b2_2 b2_3) != 0)
     (some ([.agg [.int .i64 0, .int .i64 0, .int .i64 0, .sl true 61 ([] : List (List Cell))], .one (.int .i64 0), .one (.int .i64 (vUpd b2 b2_1 b2_2 b2_3))], []))
     (some ([.agg [.int .i64 b2, .int .i64 b2_1, .int .i64 b2_2, .sl true 61 b2_3], .one (.int .i64 b1_1), .one (.int .i64 0)], [])))
    (cond (b1_2 != 0)
     (some ([.agg [.int .i64 0, .int .i64 0, .int .i64 0, .sl true 61 ([] : List (List Cell))], .one (.int .i64 0), .one (.int .i64 b1_2)], []))
     (some ([.agg [.int .i64 b2, .int .i64 b2_1, .int .i64 b2_2, .sl true 61 b2_3], .one (.int .i64 b1_1), .one (.int .i64 0)], []))))) := by kernel_rfl

/- elasticstore/elasticstoreref06.Read -/
noncomputable def P100_0 : List AItem := F100.at [.snd, .snd, .snd, .fst, .snd, .sub, .head]
def M100_0 (t0 : List (List Cell)) (t1 : Int) (t7 : List (List Cell)) (t8 : Int) (t9 : Int) : St := ⟨[(0, .one (.sl false 5 t0)), (1, .one (.int .i64 t1)), (7, .one (.sl true 3 t7)), (8, .one (.int .i64 t8)), (9, .one (.int .i64 t9))], []⟩
theorem e100 (m : Nat) (x : List (List Cell)) (c : Int) : runF E (callOf L61) (m + 1) 100 [.one (.sl false 5 x), .one (.int .i64 c)] [] =
  (goF E (callOf L61) F100 0 m P100_0 (M100_0 x c ([] : List (List Cell)) 0 0)) := by kernel_rfl
theorem e100_0 (m : Nat) (t0 : List (List Cell)) (t1 : Int) (t7 : List (List Cell)) (t8 : Int) (t9 : Int) : goF E (callOf L61) F100 0 (m + 1) P100_0 (M100_0 t0 t1 t7 t8 t9) =
  (cond (decide (t9 < t1))
   (cond (inB t8 (t0.length + 1))
    (cond (okRd (dropN t0 (Int.toNat t8)))
     (cond ((rnum2 (dropN t0 (Int.toNat t8))).2.2 != 0)
      (some ([.one (.sl true 3 ([] : List (List Cell))), .one (.int .i64 0), .one (.int .i64 (rnum2 (dropN t0 (Int.toNat t8))).2.2)], []))
      (cond (fits (t7.length + [[Cell.int .i64 (rnum2 (dropN t0 (Int.toNat t8))).1]].length))
       (goF E (callOf L61) F100 0 m P100_0 (M100_0 t0 t1 (t7 ++ [[Cell.int .i64 (rnum2 (dropN t0 (Int.toNat t8))).1]]) (IntKind.wrap .i64 (t8 + (rnum2 (dropN t0 (Int.toNat t8))).2.1)) (IntKind.wrap .i64 (t9 + 1))))
       none))
     none)
    none)
   (some ([.one (.sl true 3 t7), .one (.int .i64 t8), .one (.int .i64 0)], []))) := by kernel_rfl

/- elasticstore/elasticstoreref14.effect -/
theorem e101 (m : Nat) (x : List (List Cell)) : runF E (callOf L100) (m + 1) 101 [.one (.sl false 5 x)] [] =
  (cond (okRd x)
   (cond ((rnum2 x).2.2 != 0)
    (some ([.agg [.int .i64 0, .str ([] : List UInt8), .str ([] : List UInt8), .int .i64 0, .str ([] : List UInt8)], .one (.int .i64 0), .one (.int .i64 (rnum2 x).2.2)], []))
    (cond (inB (rnum2 x).2.1 (x.length + 1))
     (cond (okRd (dropN x (Int.toNat (rnum2 x).2.1)))
      (cond ((sdec (dropN x (Int.toNat (rnum2 x).2.1))).2.2 != 0)
       (some ([.agg [.int .i64 0, .str ([] : List UInt8), .str ([] : List UInt8), .int .i64 0, .str ([] : List UInt8)], .one (.int .i64 0), .one (.int .i64 (sdec (dropN x (Int.toNat (rnum2 x).2.1))).2.2)], []))
       (cond (inB (IntKind.wrap .i64 ((rnum2 x).2.1 + (sdec (dropN x (Int.toNat (rnum2 x).2.1))).2.1)) (x.length + 1))
        (cond (okRd (dropN x (Int.toNat (IntKind.wrap .i64 ((rnum2 x).2.1 + (sdec (dropN x (Int.toNat (rnum2 x).2.1))).2.1)))))
         (cond ((sdec (dropN x (Int.toNat (IntKind.wrap .i64 ((rnum2 x).2.1 + (sdec (dropN x (Int.toNat (rnum2 x).2.1))).2.1))))).2.2 != 0)
          (some ([.agg [.int .i64 0, .str ([] : List UInt8), .str ([] : List UInt8), .int .i64 0, .str ([] : List UInt8)], .one (.int .i64 0), .one (.int .i64 (sdec (dropN x (Int.toNat (IntKind.wrap .i64 ((rnum2 x).2.1 + (sdec (dropN x (Int.toNat (rnum2 x).2.1))).2.1))))).2.2)], []))
          (cond (inB (IntKind.wrap .i64 ((IntKind.wrap .i64 ((rnum2 x).2.1 + (sdec (dropN x (Int.toNat (rnum2 x).2.1))).2.1)) + (sdec (dropN x (Int.toNat (IntKind.wrap .i64 ((rnum2 x).2.1 + (sdec (dropN x (Int.toNat (rnum2 x).2.1))).2.1))))).2.1)) (x.length + 1))
           (cond (okRd (dropN x (Int.toNat (IntKind.wrap .i64 ((IntKind.wrap .i64 ((rnum2 x).2.1 + (sdec (dropN x (Int.toNat (rnum2 x).2.1))).2.1)) + (sdec (dropN x (Int.toNat (IntKind.wrap .i64 ((rnum2 x).2.1 + (sdec (dropN x (Int.toNat (rnum2 x).2.1))).2.1))))).2.1)))))
            (cond ((idec (dropN x (Int.toNat (IntKind.wrap .i64 ((IntKind.wrap .i64 ((rnum2 x).2.1 + (sdec (dropN x (Int.toNat (rnum2 x).2.1))).2.1)) + (sdec (dropN x (Int.toNat (IntKind.wrap .i64 ((rnum2 x).2.1 + (sdec (dropN x (Int.toNat (rnum2 x).2.1))).2.1))))).2.1))))).2.2 != 0)
             (some ([.agg [.int .i64 0, .str ([] : List UInt8), .str ([] : List UInt8), .int .i64 0, .str ([] : List UInt8)], .one (.int .i64 0), .one (.int .i64 (idec (dropN x (Int.toNat (IntKind.wrap .i64 ((IntKind.wrap .i64 ((rnum2 x).2.1 + (sdec (dropN x (Int.toNat (rnum2 x).2.1))).2.1)) + (sdec (dropN x (Int.toNat (IntKind.wrap .i64 ((rnum2 x).2.1 + (sdec (dropN x (Int.toNat (rnum2 x).2.1))).2.1))))).2.1))))).2.2)], []))
             (cond (inB (IntKind.wrap .i64 ((IntKind.wrap .i64 ((IntKind.wrap .i64 ((rnum2 x).2.1 + (sdec (dropN x (Int.toNat (rnum2 x).2.1))).2.1)) + (sdec (dropN x (Int.toNat (IntKind.wrap .i64 ((rnum2 x).2.1 + (sdec (dropN x (Int.toNat (rnum2 x).2.1))).2.1))))).2.1)) + (idec (dropN x (Int.toNat (IntKind.wrap .i64 ((IntKind.wrap .i64 ((rnum2 x).2.1 + (sdec (dropN x (Int.toNat (rnum2 x).2.1))).2.1)) + (sdec (dropN x (Int.toNat (IntKind.wrap .i64 ((rnum2 x).2.1 + (sdec (dropN x (Int.toNat (rnum2 x).2.1))).2.1))))).2.1))))).2.1)) (x.length + 1))
              (cond (okRd (dropN x (Int.toNat (IntKind.wrap .i64 ((IntKind.wrap .i64 ((IntKind.wrap .i64 ((rnum2 x).2.1 + (sdec (dropN x (Int.toNat (rnum2 x).2.1))).2.1)) + (sdec (dropN x (Int.toNat (IntKind.wrap .i64 ((rnum2 x).2.1 + (sdec (dropN x (Int.toNat (rnum2 x).2.1))).2.1))))).2.1)) + (idec (dropN x (Int.toNat (IntKind.wrap .i64 ((IntKind.wrap .i64 ((rnum2 x).2.1 + (sdec (dropN x (Int.toNat (rnum2 x).2.1))).2.1)) + (sdec (dropN x (Int.toNat (IntKind.wrap .i64 ((rnum2 x).2.1 + (sdec (dropN x (Int.toNat (rnum2 x).2.1))).2.1))))).2.1))))).2.1)))))
               (cond ((sdec (dropN x (Int.toNat (IntKind.wrap .i64 ((IntKind.wrap .i64 ((IntKind.wrap .i64 ((rnum2 x).2.1 + (sdec (dropN x (Int.toNat (rnum2 x).2.1))).2.1)) + (sdec (dropN x (Int.toNat (IntKind.wrap .i64 ((rnum2 x).2.1 + (sdec (dropN x (Int.toNat (rnum2 x).2.1))).2.1))))).2.1)) + (idec (dropN x (Int.toNat (IntKind.wrap .i64 ((IntKind.wrap .i64 ((rnum2 x).2.1 + (sdec (dropN x (Int.toNat (rnum2 x).2.1))).2.1)) + (sdec (dropN x (Int.toNat (IntKind.wrap .i64 ((rnum2 x).2.1 + (sdec (dropN x (Int.toNat (rnum2 x).2.1))).2.1))))).2.1))))).2.1))))).2.2 != 0)
                (some ([.agg [.int .i64 0, .str ([] : List UInt8), .str ([] : List UInt8), .int .i64 0, .str ([] : List UInt8)], .one (.int .i64 0), .one (.int .i64 (sdec (dropN x (Int.toNat (IntKind.wrap .i64 ((IntKind.wrap .i64 ((IntKind.wrap .i64 ((rnum2 x).2.1 + (sdec (dropN x (Int.toNat (rnum2 x).2.1))).2.1)) + (sdec (dropN x (Int.toNat (IntKind.wrap .i64 ((rnum2 x).2.1 + (sdec (dropN x (Int.toNat (rnum2 x).2.1))).2.1))))).2.1)) + (idec (dropN x (Int.toNat (IntKind.wrap .i64 ((IntKind.wrap .i64 ((rnum2 x).2.1 + (sdec (dropN x (Int.toNat (rnum2 x).2.1))).2.1)) + (sdec (dropN x (Int.toNat (IntKind.wrap .i64 ((rnum2 x).2.1 + (sdec (dropN x (Int.toNat (rnum2 x).2.1))).2.1))))).2.1))))).2.1))))).2.2)], []))
                (some ([.agg [.int .i64 (rnum2 x).1, .str (sdec (dropN x (Int.toNat (rnum2 x).2.1))).1, .str (sdec (dropN x (Int.toNat (IntKind.wrap .i64 ((rnum2 x).2.1 + (sdec (dropN x (Int.toNat (rnum2 x).2.1))).2.1))))).1, .int .i64 (idec (dropN x (Int.toNat (IntKind.wrap .i64 ((IntKind.wrap .i64 ((rnum2 x).2.1 + (sdec (dropN x (Int.toNat (rnum2 x).2.1))).2.1)) + (sdec (dropN x (Int.toNat (IntKind.wrap .i64 ((rnum2 x).2.1 + (sdec (dropN x (Int.toNat (rnum2 x).2.1))).2.1))))).2.1))))).1, .str (sdec (dropN x (Int.toNat (IntKind.wrap .i64 ((IntKind.wrap .i64 ((IntKind.wrap .i64 ((rnum2 x).2.1 + (sdec (dropN x (Int.toNat (rnum2 x).2.1))).2.1)) + (sdec (dropN x (Int.toNat (IntKind.wrap .i64 ((rnum2 x).2.1 + (sdec (dropN x (Int.toNat (rnum2 x).2.1))).2.1))))).2.1)) + (idec (dropN x (Int.toNat (IntKind.wrap .i64 ((IntKind.wrap .i64 ((rnum2 x).2.1 + (sdec (dropN x (Int.toNat (rnum2 x).2.1))).2.1)) + (sdec (dropN x (Int.toNat (IntKind.wrap .i64 ((rnum2 x).2.1 + (sdec (dropN x (Int.toNat (rnum2 x).2.1))).2.1))))).2.1))))).2.1))))).1], .one (.int .i64 (IntKind.wrap .i64 ((IntKind.wrap .i64 ((IntKind.wrap .i64 ((IntKind.wrap .i64 ((rnum2 x).2.1 + (sdec (dropN x (Int.toNat (rnum2 x).2.1))).2.1)) + (sdec (dropN x (Int.toNat (IntKind.wrap .i64 ((rnum2 x).2.1 + (sdec (dropN x (Int.toNat (rnum2 x).2.1))).2.1))))).2.1)) + (idec (dropN x (Int.toNat (IntKind.wrap .i64 ((IntKind.wrap .i64 ((rnum2 x).2.1 + (sdec (dropN x (Int.toNat (rnum2 x).2.1))).2.1)) + (sdec (dropN x (Int.toNat (IntKind.wrap .i64 ((rnum2 x).2.1 + (sdec (dropN x (Int.toNat (rnum2 x).2.1))).2.1))))).2.1))))).2.1)) + (sdec (dropN x (Int.toNat (IntKind.wrap .i64 ((IntKind.wrap .i64 ((IntKind.wrap .i64 ((rnum2 x).2.1 + (sdec (dropN x (Int.toNat (rnum2 x).2.1))).2.1)) + (sdec (dropN x (Int.toNat (IntKind.wrap .i64 ((rnum2 x).2.1 + (sdec (dropN x (Int.toNat (rnum2 x).2.1))).2.1))))).2.1)) + (idec (dropN x (Int.toNat (IntKind.wrap .i64 ((IntKind.wrap .i64 ((rnum2 x).2.1 + (sdec (dropN x (Int.toNat (rnum2 x).2.1))).2.1)) + (sdec (dropN x (Int.toNat (IntKind.wrap .i64 ((rnum2 x).2.1 + (sdec (dropN x (Int.toNat (rnum2 x).2.1))).2.1))))).2.1))))).2.1))))).2.1))), .one (.int .i64 0)], [])))
               none)
              none))
            none)
           none))
         none)
        none))
      none)
     none))
   none) := by kernel_rfl

/- elasticstore/elasticstoreref14.DecodeUpdate -/
noncomputable def P86_0 : List AItem := F86.at [.snd, .snd, .snd, .snd, .snd, .fst, .snd, .sub, .head]
def M86_0 (t0 : List (List Cell)) (t5 : List (List Cell)) (t6 : Int) (t9 : Int) (b0 : Int) (b0_1 : Int) (b0_2 : Int) (b0_3 : List (List Cell)) (b1 : Int) (b1_1 : Int) (b1_2 : Int) (b1_3 : List (List Cell)) : St := ⟨[(0, .one (.sl false 5 t0)), (2, .one (.ptr 0 0)), (5, .one (.sl false 3 t5)), (6, .one (.int .i64 t6)), (8, .one (.ptr 1 0)), (9, .one (.int .i64 t9))], [.var [.int .i64 b0, .int .i64 b0_1, .int .i64 b0_2, .sl true 61 b0_3], .var [.int .i64 b1, .int .i64 b1_1, .int .i64 b1_2, .sl true 61 b1_3]]⟩
theorem e86 (m : Nat) (x : List (List Cell)) : runF E (callOf L101) (m + 1) 86 [.one (.sl false 5 x)] [] =
  (cond (okRd x && decide (4 ≤ 1000))
   (cond ((rread x 4).2.2 != 0)
    (some ([.agg [.int .i64 0, .int .i64 0, .int .i64 0, .sl true 61 ([] : List (List Cell))], .one (.int .i64 0), .one (.int .i64 (rread x 4).2.2)], []))
    (cond (inB 3 (rread x 4).1.length)
     (cond (decide ((nr (Abs.rowAt (rread x 4).1 3) 0) > 4))
      (some ([.agg [.int .i64 0, .int .i64 0, .int .i64 0, .sl true 61 ([] : List (List Cell))], .one (.int .i64 0), .one (.int .i64 3)], []))
      (cond (inB 0 (rread x 4).1.length)
       (cond (inB 1 (rread x 4).1.length)
        (cond (inB 2 (rread x 4).1.length)
         (goF E (callOf L101) F86 0 m P86_0 (M86_0 x (rread x 4).1 (rread x 4).2.1 0 0 0 0 ([] : List (List Cell)) (nr (Abs.rowAt (rread x 4).1 0) 0) (nr (Abs.rowAt (rread x 4).1 1) 0) (nr (Abs.rowAt (rread x 4).1 2) 0) ([] : List (List Cell))))
         none)
        none)
       none))
     none))
   none) := by kernel_rfl
theorem e86_0 (m : Nat) (t0 : List (List Cell)) (t5 : List (List Cell)) (t6 : Int) (t9 : Int) (b0 : Int) (b0_1 : Int) (b0_2 : Int) (b0_3 : List (List Cell)) (b1 : Int) (b1_1 : Int) (b1_2 : Int) (b1_3 : List (List Cell)) : goF E (callOf L101) F86 0 (m + 1) P86_0 (M86_0 t0 t5 t6 t9 b0 b0_1 b0_2 b0_3 b1 b1_1 b1_2 b1_3) =
  (cond (inB 3 t5.length)
   (cond (decide (t9 < (nr (Abs.rowAt t5 3) 0)))
    (cond (inB t6 (t0.length + 1))
     (cond (okRd (dropN t0 (Int.toNat t6)))
      (cond ((deff (dropN t0 (Int.toNat t6))).2.2 != 0)
       (some ([.agg [.int .i64 0, .int .i64 0, .int .i64 0, .sl true 61 ([] : List (List Cell))], .one (.int .i64 0), .one (.int .i64 (deff (dropN t0 (Int.toNat t6))).2.2)], []))
       (cond (fits (b1_3.length + [[Cell.int .i64 (deff (dropN t0 (Int.toNat t6))).1.1, Cell.str (deff (dropN t0 (Int.toNat t6))).1.2.1, Cell.str (deff (dropN t0 (Int.toNat t6))).1.2.2.1, Cell.int .i64 (deff (dropN t0 (Int.toNat t6))).1.2.2.2.1, Cell.str (deff (dropN t0 (Int.toNat t6))).1.2.2.2.2]].length))
        (goF E (callOf L101) F86 0 m P86_0 (M86_0 t0 t5 (IntKind.wrap .i64 (t6 + (deff (dropN t0 (Int.toNat t6))).2.1)) (IntKind.wrap .i64 (t9 + 1)) b0 b0_1 b0_2 b0_3 b1 b1_1 b1_2 (b1_3 ++ [[Cell.int .i64 (deff (dropN t0 (Int.toNat t6))).1.1, Cell.str (deff (dropN t0 (Int.toNat t6))).1.2.1, Cell.str (deff (dropN t0 (Int.toNat t6))).1.2.2.1, Cell.int .i64 (deff (dropN t0 (Int.toNat t6))).1.2.2.2.1, Cell.str (deff (dropN t0 (Int.toNat t6))).1.2.2.2.2]])))
        none))
      none)
     none)
    (cond ((vUpd b1 b1_1 b1_2 b1_3) != 0)
     (some ([.agg [.int .i64 0, .int .i64 0, .int .i64 0, .sl true 61 ([] : List (List Cell))], .one (.int .i64 0), .one (.int .i64 (vUpd b1 b1_1 b1_2 b1_3))], []))
     (some ([.agg [.int .i64 b1, .int .i64 b1_1, .int .i64 b1_2, .sl true 61 b1_3], .one (.int .i64 t6), .one (.int .i64 0)], []))))
   none) := by kernel_rfl

/- elasticstore/elasticstorelaw00.Index -/
theorem e34 (m : Nat) (n : Int) (k : Int) : runF E (callOf L86) (m + 1) 34 [.one (.int .i64 n), .one (.int .i64 k)] [] =
  (cond (decide (k < 1))
   (some ([.one (.int .i64 0)], []))
   (cond (decide (k = 0))
    none
    (cond (decide (k = 0))
     none
     (some ([.one (.int .i64 (Int.tmod (IntKind.wrap .i64 ((Int.tmod n k) + k)) k))], []))))) := by kernel_rfl

/- elasticstore/elasticstorelaw00.Digit -/
noncomputable def P54_0 : List AItem := F54.at [.snd, .snd, .fst, .snd, .sub, .head]
def M54_0 (t1 : Int) (t2 : Int) (t7 : Int) (t8 : Int) : St := ⟨[(1, .one (.int .i64 t1)), (2, .one (.int .i64 t2)), (7, .one (.int .i64 t7)), (8, .one (.int .i64 t8))], []⟩
theorem e54 (m : Nat) (n : Int) (b : Int) (j : Int) : runF E (callOf L34) (m + 1) 54 [.one (.int .i64 n), .one (.int .i64 b), .one (.int .i64 j)] [] =
  (cond (decide (1099511627776 ≤ 4611686018427387904))
   (goF E (callOf L34) F54 0 m P54_0 (M54_0 b j (gIndex n 1099511627776) 0))
   none) := by kernel_rfl
theorem e54_0 (m : Nat) (t1 : Int) (t2 : Int) (t7 : Int) (t8 : Int) : goF E (callOf L34) F54 0 (m + 1) P54_0 (M54_0 t1 t2 t7 t8) =
  (cond (decide (t8 < t2))
   (cond (decide (t1 = 0))
    none
    (goF E (callOf L34) F54 0 m P54_0 (M54_0 t1 t2 (IntKind.wrap .i64 (Int.tdiv t7 t1)) (IntKind.wrap .i64 (t8 + 1)))))
   (cond (decide (t1 = 0))
    none
    (some ([.one (.int .i64 (Int.tmod t7 t1))], [])))) := by kernel_rfl

/- elasticstore/elasticstorelaw00.name -/
theorem e93 (m : Nat) (n : Int) : runF E (callOf L54) (m + 1) 93 [.one (.int .i64 n)] [] =
  (cond (decide (4 ≤ 4611686018427387904))
   (cond (inB (gIndex n 4) [[Cell.str ([97] : List UInt8)], [Cell.str ([98] : List UInt8)], [Cell.str ([99] : List UInt8)], [Cell.str ([120, 49] : List UInt8)]].length)
    (some ([.one (.str (ns (Abs.rowAt [[Cell.str ([97] : List UInt8)], [Cell.str ([98] : List UInt8)], [Cell.str ([99] : List UInt8)], [Cell.str ([120, 49] : List UInt8)]] (Int.toNat (gIndex n 4))) 0))], []))
    none)
   none) := by kernel_rfl

/- elasticstore/elasticstorelaw00.Effect -/
theorem e76 (m : Nat) (n : Int) (w : Bool) : runF E (callOf L93) (m + 1) 76 [.one (.int .i64 n), .one (.bool w)] [] =
  (cond (decide (2 ≤ 4) && decide (1 ≤ 9223372036854775807))
   (cond (decide (2 ≤ 4) && decide (2 ≤ 9223372036854775807))
    (cond (decide (2 ≤ 16) && decide (3 ≤ 9223372036854775807))
     (cond w
      (cond (decide (2 ≤ 4) && decide (5 ≤ 9223372036854775807))
       (some ([.agg [.int .i64 1, .str (gName (gDigit n 4 1)), .str (gName (gDigit n 4 2)), .int .i64 (IntKind.wrap .i64 ((gDigit n 16 3) - 5)), .str (gName (gDigit n 4 5))]], []))
       none)
      (cond (decide (2 ≤ 4) && decide (0 ≤ 9223372036854775807))
       (cond ((gDigit n 4 0) == 0)
        (some ([.agg [.int .i64 2, .str (gName (gDigit n 4 1)), .str (gName (gDigit n 4 2)), .int .i64 (IntKind.wrap .i64 ((gDigit n 16 3) - 5)), .str ([] : List UInt8)]], []))
        (cond (decide (2 ≤ 4) && decide (0 ≤ 9223372036854775807))
         (cond ((gDigit n 4 0) == 1)
          (some ([.agg [.int .i64 3, .str (gName (gDigit n 4 1)), .str (gName (gDigit n 4 2)), .int .i64 (IntKind.wrap .i64 ((gDigit n 16 3) - 5)), .str ([] : List UInt8)]], []))
          (cond (decide (2 ≤ 4) && decide (0 ≤ 9223372036854775807))
           (cond ((gDigit n 4 0) == 2)
            (cond (decide (2 ≤ 4) && decide (5 ≤ 9223372036854775807))
             (some ([.agg [.int .i64 4, .str (gName (gDigit n 4 1)), .str (gName (gDigit n 4 2)), .int .i64 0, .str (gName (gDigit n 4 5))]], []))
             none)
            (some ([.agg [.int .i64 5, .str (gName (gDigit n 4 1)), .str (gName (gDigit n 4 2)), .int .i64 0, .str ([] : List UInt8)]], [])))
           none))
         none))
       none))
     none)
    none)
   none) := by kernel_rfl

/- elasticstore/elasticstorelaw00.Update -/
noncomputable def P55_0 : List AItem := F55.at [.snd, .snd, .snd, .fst, .snd, .sub, .head]
def M55_0 (t2 : Int) (t8 : Int) (b0 : Int) (b0_1 : Int) (b0_2 : Int) (b0_3 : List (List Cell)) (b1 : Int) (b1_1 : Int) (b1_2 : Int) (b1_3 : List (List Cell)) : St := ⟨[(2, .one (.int .i64 t2)), (6, .one (.ptr 0 0)), (7, .one (.ptr 1 0)), (8, .one (.int .i64 t8))], [.var [.int .i64 b0, .int .i64 b0_1, .int .i64 b0_2, .sl true 61 b0_3], .var [.int .i64 b1, .int .i64 b1_1, .int .i64 b1_2, .sl true 61 b1_3]]⟩
theorem e55 (m : Nat) (c : Int) (q : Int) (n : Int) : runF E (callOf L76) (m + 1) 55 [.one (.int .i64 c), .one (.int .i64 q), .one (.int .i64 n)] [] =
  (cond (decide (2 ≤ 3) && decide (8 ≤ 9223372036854775807))
   (cond ((gDigit n 3 8) == 0)
    (cond (decide (2 ≤ 16) && decide (4 ≤ 9223372036854775807))
     (some ([.agg [.int .i64 c, .int .i64 q, .int .i64 (gDigit n 16 4), .sl true 61 [[Cell.int .i64 (gEff n true).1, Cell.str (gEff n true).2.1, Cell.str (gEff n true).2.2.1, Cell.int .i64 (gEff n true).2.2.2.1, Cell.str (gEff n true).2.2.2.2]]]], []))
     none)
    (goF E (callOf L76) F55 0 m P55_0 (M55_0 n 0 0 0 0 ([] : List (List Cell)) c q 0 ([] : List (List Cell)))))
   none) := by kernel_rfl
theorem e55_0 (m : Nat) (t2 : Int) (t8 : Int) (b0 : Int) (b0_1 : Int) (b0_2 : Int) (b0_3 : List (List Cell)) (b1 : Int) (b1_1 : Int) (b1_2 : Int) (b1_3 : List (List Cell)) : goF E (callOf L76) F55 0 (m + 1) P55_0 (M55_0 t2 t8 b0 b0_1 b0_2 b0_3 b1 b1_1 b1_2 b1_3) =
  (cond (decide (2 ≤ 3) && decide (9 ≤ 9223372036854775807))
   (cond (decide (t8 ≤ (gDigit t2 3 9)))
    (cond (decide (1099511627776 ≤ 4611686018427387904))
     (cond (decide ((IntKind.wrap .i64 (t8 + 1)) = 0))
      none
      (cond (fits (b1_3.length + [[Cell.int .i64 (gEff (IntKind.wrap .i64 (Int.tdiv (gIndex t2 1099511627776) (IntKind.wrap .i64 (t8 + 1)))) false).1, Cell.str (gEff (IntKind.wrap .i64 (Int.tdiv (gIndex t2 1099511627776) (IntKind.wrap .i64 (t8 + 1)))) false).2.1, Cell.str (gEff (IntKind.wrap .i64 (Int.tdiv (gIndex t2 1099511627776) (IntKind.wrap .i64 (t8 + 1)))) false).2.2.1, Cell.int .i64 (gEff (IntKind.wrap .i64 (Int.tdiv (gIndex t2 1099511627776) (IntKind.wrap .i64 (t8 + 1)))) false).2.2.2.1, Cell.str (gEff (IntKind.wrap .i64 (Int.tdiv (gIndex t2 1099511627776) (IntKind.wrap .i64 (t8 + 1)))) false).2.2.2.2]].length))
       (goF E (callOf L76) F55 0 m P55_0 (M55_0 t2 (IntKind.wrap .i64 (t8 + 1)) b0 b0_1 b0_2 b0_3 b1 b1_1 b1_2 (b1_3 ++ [[Cell.int .i64 (gEff (IntKind.wrap .i64 (Int.tdiv (gIndex t2 1099511627776) (IntKind.wrap .i64 (t8 + 1)))) false).1, Cell.str (gEff (IntKind.wrap .i64 (Int.tdiv (gIndex t2 1099511627776) (IntKind.wrap .i64 (t8 + 1)))) false).2.1, Cell.str (gEff (IntKind.wrap .i64 (Int.tdiv (gIndex t2 1099511627776) (IntKind.wrap .i64 (t8 + 1)))) false).2.2.1, Cell.int .i64 (gEff (IntKind.wrap .i64 (Int.tdiv (gIndex t2 1099511627776) (IntKind.wrap .i64 (t8 + 1)))) false).2.2.2.1, Cell.str (gEff (IntKind.wrap .i64 (Int.tdiv (gIndex t2 1099511627776) (IntKind.wrap .i64 (t8 + 1)))) false).2.2.2.2]])))
       none))
     none)
    (some ([.agg [.int .i64 b1, .int .i64 b1_1, .int .i64 b1_2, .sl true 61 b1_3]], [])))
   none) := by kernel_rfl

/- elasticstore/elasticstorelaw00.Updates -/
noncomputable def P25_0 : List AItem := F25.at [.snd, .snd, .fst, .snd, .sub, .head]
def M25_0 (t0 : List (List Cell)) (t3 : List (List Cell)) (t4 : Int) : St := ⟨[(0, .one (.sl false 3 t0)), (3, .one (.sl true 43 t3)), (4, .one (.int .i64 t4))], []⟩
noncomputable def P25_1 : List AItem := F25.at [.snd, .snd, .fst, .snd, .sub, .body, .snd, .fst, .sub, .snd, .snd, .sub, .head]
def M25_1 (t0 : List (List Cell)) (t3 : List (List Cell)) (t4 : Int) (t5 : Int) (t6 : Int) : St := ⟨[(0, .one (.sl false 3 t0)), (3, .one (.sl true 43 t3)), (4, .one (.int .i64 t4)), (5, .one (.int .i64 t5)), (6, .one (.int .i64 t6))], []⟩
theorem e25 (m : Nat) (l : List (List Cell)) : runF E (callOf L55) (m + 1) 25 [.one (.sl false 3 l)] [] =
  (goF E (callOf L55) F25 0 m P25_0 (M25_0 l ([] : List (List Cell)) 0)) := by kernel_rfl
theorem e25_0 (m : Nat) (t0 : List (List Cell)) (t3 : List (List Cell)) (t4 : Int) : goF E (callOf L55) F25 0 (m + 1) P25_0 (M25_0 t0 t3 t4) =
  (cond (decide (t4 < 3))
   (goF E (callOf L55) F25 0 m P25_1 (M25_1 t0 t3 t4 0 0))
   (some ([.one (.sl true 43 t3)], []))) := by kernel_rfl
theorem e25_1 (m : Nat) (t0 : List (List Cell)) (t3 : List (List Cell)) (t4 : Int) (t5 : Int) (t6 : Int) : goF E (callOf L55) F25 0 (m + 1) P25_1 (M25_1 t0 t3 t4 t5 t6) =
  (cond (decide (t6 < (t0.length : Int)))
   (cond (decide (t6 < 24))
    (cond (inB t6 t0.length)
     (cond (decide (2 ≤ 3) && decide (0 ≤ 9223372036854775807))
      (cond ((gDigit (nr (Abs.rowAt t0 (Int.toNat t6)) 0) 3 0) == t4)
       (cond (decide (t5 < 8))
        (cond (inB t6 t0.length)
         (cond (decide (1099511627776 ≤ 4611686018427387904))
          (cond (fits (t3.length + [[Cell.int .i64 (IntKind.wrap .i64 (101 + t4)), Cell.int .i64 (IntKind.wrap .i64 (t5 + 1)), Cell.int .i64 (gTag (IntKind.wrap .i64 (Int.tdiv (gIndex (nr (Abs.rowAt t0 (Int.toNat t6)) 0) 1099511627776) 3))), Cell.slice 61 (gEffs (IntKind.wrap .i64 (Int.tdiv (gIndex (nr (Abs.rowAt t0 (Int.toNat t6)) 0) 1099511627776) 3)))]].length))
           (goF E (callOf L55) F25 0 m P25_1 (M25_1 t0 (t3 ++ [[Cell.int .i64 (IntKind.wrap .i64 (101 + t4)), Cell.int .i64 (IntKind.wrap .i64 (t5 + 1)), Cell.int .i64 (gTag (IntKind.wrap .i64 (Int.tdiv (gIndex (nr (Abs.rowAt t0 (Int.toNat t6)) 0) 1099511627776) 3))), Cell.slice 61 (gEffs (IntKind.wrap .i64 (Int.tdiv (gIndex (nr (Abs.rowAt t0 (Int.toNat t6)) 0) 1099511627776) 3)))]]) t4 (IntKind.wrap .i64 (t5 + 1)) (IntKind.wrap .i64 (t6 + 1))))
           none)
          none)
         none)
        (goF E (callOf L55) F25 0 m P25_1 (M25_1 t0 t3 t4 t5 (IntKind.wrap .i64 (t6 + 1)))))
       (goF E (callOf L55) F25 0 m P25_1 (M25_1 t0 t3 t4 t5 (IntKind.wrap .i64 (t6 + 1)))))
      none)
     none)
    (goF E (callOf L55) F25 0 m P25_0 (M25_0 t0 t3 (IntKind.wrap .i64 (t4 + 1)))))
   (goF E (callOf L55) F25 0 m P25_0 (M25_0 t0 t3 (IntKind.wrap .i64 (t4 + 1))))) := by kernel_rfl

/- elasticstore/vector.search$1 -/
theorem e95 (m : Nat) (u : Int) (k : Int) (a : Int) : runF E (callOf L25) (m + 1) 95 [.agg [.int .i64 u, .int .i64 k], .one (.int .i64 a)] [] =
  (some ([.one (.int .i64 (cmpI u a))], [])) := by kernel_rfl

/- slices.BinarySearchFunc[elasticstore/api.Vector,elasticstore/api.Entry,int] -/
noncomputable def P94_0 : List AItem := F94.at [.snd, .snd, .snd, .fst, .sub, .head]
def M94_0 (t0 : List (List Cell)) (t1 : Int) (t8 : Int) (t9 : Int) (t10 : Int) : St := ⟨[(0, .one (.sl false 65 t0)), (1, .one (.int .i64 t1)), (2, .one (.fn 95 [])), (8, .one (.int .i64 t8)), (9, .one (.int .i64 t9)), (10, .one (.int .i64 t10))], []⟩
theorem e94 (m : Nat) (v : List (List Cell)) (a : Int) : runF E (callOf L95) (m + 1) 94 [.one (.sl false 65 v), .one (.int .i64 a), .one (.fn 95 [])] [] =
  (goF E (callOf L95) F94 0 m P94_0 (M94_0 v a (v.length : Int) 0 (v.length : Int))) := by kernel_rfl
theorem e94_0 (m : Nat) (t0 : List (List Cell)) (t1 : Int) (t8 : Int) (t9 : Int) (t10 : Int) : goF E (callOf L95) F94 0 (m + 1) P94_0 (M94_0 t0 t1 t8 t9 t10) =
  (cond (decide (t9 < t10))
   (cond (inB (IntKind.wrap .i64 (shrI .u64 (IntKind.wrap .u64 (IntKind.wrap .i64 (t9 + t10))) 1)) t0.length)
    (cond (decide ((cmpI (nr (Abs.rowAt t0 (Int.toNat (IntKind.wrap .i64 (shrI .u64 (IntKind.wrap .u64 (IntKind.wrap .i64 (t9 + t10))) 1)))) 0) t1) < 0))
     (goF E (callOf L95) F94 0 m P94_0 (M94_0 t0 t1 t8 (IntKind.wrap .i64 ((IntKind.wrap .i64 (shrI .u64 (IntKind.wrap .u64 (IntKind.wrap .i64 (t9 + t10))) 1)) + 1)) t10))
     (goF E (callOf L95) F94 0 m P94_0 (M94_0 t0 t1 t8 t9 (IntKind.wrap .i64 (shrI .u64 (IntKind.wrap .u64 (IntKind.wrap .i64 (t9 + t10))) 1)))))
    none)
   (cond (decide (t9 < t8))
    (cond (inB t9 t0.length)
     (some ([.one (.int .i64 t9), .one (.bool ((cmpI (nr (Abs.rowAt t0 (Int.toNat t9)) 0) t1) == 0))], []))
     none)
    (some ([.one (.int .i64 t9), .one (.bool false)], [])))) := by kernel_rfl

/- elasticstore/vector.search -/
theorem e77 (m : Nat) (v : List (List Cell)) (a : Int) : runF E (callOf L94) (m + 1) 77 [.one (.sl false 65 v), .one (.int .i64 a)] [] =
  (cond (okVec v)
   (some ([.one (.int .i64 (lowV v a : Int)), .one (.bool (hasV v a))], []))
   none) := by kernel_rfl

/- elasticstore/vector.Get -/
theorem e57 (m : Nat) (v : List (List Cell)) (a : Int) : runF E (callOf L77) (m + 1) 57 [.one (.sl false 65 v), .one (.int .i64 a)] [] =
  (cond (okVec v)
   (cond (hasV v a)
    (cond (inB (lowV v a : Int) v.length)
     (some ([.one (.int .i64 (nr (Abs.rowAt v (Int.toNat (lowV v a : Int))) 1))], []))
     none)
    (some ([.one (.int .i64 0)], [])))
   none) := by kernel_rfl

/- elasticstore/elasticstoreref03.Count -/
noncomputable def P46_0 : List AItem := F46.at [.snd, .fst, .snd, .sub, .head]
def M46_0 (t0 : List (List Cell)) (t1 : Int) (t5 : Int) : St := ⟨[(0, .one (.sl false 65 t0)), (1, .one (.int .i64 t1)), (5, .one (.int .i64 t5))], []⟩
theorem e46 (m : Nat) (v : List (List Cell)) (a : Int) : runF E (callOf L57) (m + 1) 46 [.one (.sl false 65 v), .one (.int .i64 a)] [] =
  (goF E (callOf L57) F46 0 m P46_0 (M46_0 v a 0)) := by kernel_rfl
theorem e46_0 (m : Nat) (t0 : List (List Cell)) (t1 : Int) (t5 : Int) : goF E (callOf L57) F46 0 (m + 1) P46_0 (M46_0 t0 t1 t5) =
  (cond (decide (t5 < (t0.length : Int)))
   (cond (inB t5 t0.length)
    (cond ((nr (Abs.rowAt t0 (Int.toNat t5)) 0) == t1)
     (cond (inB t5 t0.length)
      (some ([.one (.int .i64 (nr (Abs.rowAt t0 (Int.toNat t5)) 1))], []))
      none)
     (goF E (callOf L57) F46 0 m P46_0 (M46_0 t0 t1 (IntKind.wrap .i64 (t5 + 1)))))
    none)
   (some ([.one (.int .i64 0)], []))) := by kernel_rfl

/- elasticstore/elasticstoreref03.With -/
noncomputable def P45_0 : List AItem := F45.at [.snd, .snd, .snd, .snd, .fst, .snd, .sub, .head]
def M45_0 (t0 : List (List Cell)) (t1 : Int) (t2 : Int) (t7 : List (List Cell)) (t8 : Bool) (t9 : Int) : St := ⟨[(0, .one (.sl false 65 t0)), (1, .one (.int .i64 t1)), (2, .one (.int .i64 t2)), (7, .one (.sl true 65 t7)), (8, .one (.bool t8)), (9, .one (.int .i64 t9))], []⟩
theorem e45 (m : Nat) (v : List (List Cell)) (a : Int) (k : Int) : runF E (callOf L46) (m + 1) 45 [.one (.sl false 65 v), .one (.int .i64 a), .one (.int .i64 k)] [] =
  (cond (decide (a < 1))
   (some ([.one (.sl false 65 v)], []))
   (cond (decide (k < 0))
    (some ([.one (.sl false 65 v)], []))
    (cond (decide (k > 1000000))
     (some ([.one (.sl false 65 v)], []))
     (goF E (callOf L46) F45 0 m P45_0 (M45_0 v a k ([] : List (List Cell)) (k == 0) 0))))) := by kernel_rfl
theorem e45_0 (m : Nat) (t0 : List (List Cell)) (t1 : Int) (t2 : Int) (t7 : List (List Cell)) (t8 : Bool) (t9 : Int) : goF E (callOf L46) F45 0 (m + 1) P45_0 (M45_0 t0 t1 t2 t7 t8 t9) =
  (cond (decide (t9 < (t0.length : Int)))
   (cond (!t8)
    (cond (inB t9 t0.length)
     (cond (decide ((nr (Abs.rowAt t0 (Int.toNat t9)) 0) ≥ t1))
      (cond (fits (t7.length + [[Cell.int .i64 t1, Cell.int .i64 t2]].length))
       (cond (inB t9 t0.length)
        (cond ((nr (Abs.rowAt t0 (Int.toNat t9)) 0) != t1)
         (cond (inB t9 t0.length)
          (cond (fits ((t7 ++ [[Cell.int .i64 t1, Cell.int .i64 t2]]).length + [[Cell.int .i64 (nr (Abs.rowAt t0 (Int.toNat t9)) 0), Cell.int .i64 (nr (Abs.rowAt t0 (Int.toNat t9)) 1)]].length))
           (goF E (callOf L46) F45 0 m P45_0 (M45_0 t0 t1 t2 ((t7 ++ [[Cell.int .i64 t1, Cell.int .i64 t2]]) ++ [[Cell.int .i64 (nr (Abs.rowAt t0 (Int.toNat t9)) 0), Cell.int .i64 (nr (Abs.rowAt t0 (Int.toNat t9)) 1)]]) true (IntKind.wrap .i64 (t9 + 1))))
           none)
          none)
         (goF E (callOf L46) F45 0 m P45_0 (M45_0 t0 t1 t2 (t7 ++ [[Cell.int .i64 t1, Cell.int .i64 t2]]) true (IntKind.wrap .i64 (t9 + 1)))))
        none)
       none)
      (cond (inB t9 t0.length)
       (cond ((nr (Abs.rowAt t0 (Int.toNat t9)) 0) != t1)
        (cond (inB t9 t0.length)
         (cond (fits (t7.length + [[Cell.int .i64 (nr (Abs.rowAt t0 (Int.toNat t9)) 0), Cell.int .i64 (nr (Abs.rowAt t0 (Int.toNat t9)) 1)]].length))
          (goF E (callOf L46) F45 0 m P45_0 (M45_0 t0 t1 t2 (t7 ++ [[Cell.int .i64 (nr (Abs.rowAt t0 (Int.toNat t9)) 0), Cell.int .i64 (nr (Abs.rowAt t0 (Int.toNat t9)) 1)]]) t8 (IntKind.wrap .i64 (t9 + 1))))
          none)
         none)
        (goF E (callOf L46) F45 0 m P45_0 (M45_0 t0 t1 t2 t7 t8 (IntKind.wrap .i64 (t9 + 1)))))
       none))
     none)
    (cond (inB t9 t0.length)
     (cond ((nr (Abs.rowAt t0 (Int.toNat t9)) 0) != t1)
      (cond (inB t9 t0.length)
       (cond (fits (t7.length + [[Cell.int .i64 (nr (Abs.rowAt t0 (Int.toNat t9)) 0), Cell.int .i64 (nr (Abs.rowAt t0 (Int.toNat t9)) 1)]].length))
        (goF E (callOf L46) F45 0 m P45_0 (M45_0 t0 t1 t2 (t7 ++ [[Cell.int .i64 (nr (Abs.rowAt t0 (Int.toNat t9)) 0), Cell.int .i64 (nr (Abs.rowAt t0 (Int.toNat t9)) 1)]]) t8 (IntKind.wrap .i64 (t9 + 1))))
        none)
       none)
      (goF E (callOf L46) F45 0 m P45_0 (M45_0 t0 t1 t2 t7 t8 (IntKind.wrap .i64 (t9 + 1)))))
     none))
   (cond (!t8)
    (cond (fits (t7.length + [[Cell.int .i64 t1, Cell.int .i64 t2]].length))
     (some ([.one (.sl false 65 (t7 ++ [[Cell.int .i64 t1, Cell.int .i64 t2]]))], []))
     none)
    (some ([.one (.sl false 65 t7)], [])))) := by kernel_rfl

/- elasticstore/elasticstoreref03.EqualVector -/
noncomputable def P16_0 : List AItem := F16.at [.snd, .snd, .fst, .snd, .sub, .head]
def M16_0 (t0 : List (List Cell)) (t1 : List (List Cell)) (t5 : Int) : St := ⟨[(0, .one (.sl false 65 t0)), (1, .one (.sl false 65 t1)), (5, .one (.int .i64 t5))], []⟩
theorem e16 (m : Nat) (v : List (List Cell)) (w : List (List Cell)) : runF E (callOf L45) (m + 1) 16 [.one (.sl false 65 v), .one (.sl false 65 w)] [] =
  (cond ((v.length : Int) != (w.length : Int))
   (some ([.one (.bool false)], []))
   (goF E (callOf L45) F16 0 m P16_0 (M16_0 v w 0))) := by kernel_rfl
theorem e16_0 (m : Nat) (t0 : List (List Cell)) (t1 : List (List Cell)) (t5 : Int) : goF E (callOf L45) F16 0 (m + 1) P16_0 (M16_0 t0 t1 t5) =
  (cond (decide (t5 < (t0.length : Int)))
   (cond (inB t5 t0.length)
    (cond (inB t5 t1.length)
     (cond (!(((nr (Abs.rowAt t0 (Int.toNat t5)) 0) == (nr (Abs.rowAt t1 (Int.toNat t5)) 0)) && (((nr (Abs.rowAt t0 (Int.toNat t5)) 1) == (nr (Abs.rowAt t1 (Int.toNat t5)) 1)) && true)))
      (some ([.one (.bool false)], []))
      (goF E (callOf L45) F16 0 m P16_0 (M16_0 t0 t1 (IntKind.wrap .i64 (t5 + 1)))))
     none)
    none)
   (some ([.one (.bool true)], []))) := by kernel_rfl

/- elasticstore/elasticstoreref03.Join -/
noncomputable def P27_0 : List AItem := F27.at [.snd, .snd, .fst, .snd, .sub, .head]
def M27_0 (t1 : List (List Cell)) (t5 : List (List Cell)) (t6 : Int) : St := ⟨[(1, .one (.sl false 65 t1)), (5, .one (.sl false 65 t5)), (6, .one (.int .i64 t6))], []⟩
theorem e27 (m : Nat) (v : List (List Cell)) (w : List (List Cell)) : runF E (callOf L16) (m + 1) 27 [.one (.sl false 65 v), .one (.sl false 65 w)] [] =
  (cond (fits (([] : List (List Cell)).length + v.length))
   (goF E (callOf L16) F27 0 m P27_0 (M27_0 w (([] : List (List Cell)) ++ v) 0))
   none) := by kernel_rfl
theorem e27_0 (m : Nat) (t1 : List (List Cell)) (t5 : List (List Cell)) (t6 : Int) : goF E (callOf L16) F27 0 (m + 1) P27_0 (M27_0 t1 t5 t6) =
  (cond (decide (t6 < (t1.length : Int)))
   (cond (inB t6 t1.length)
    (cond (inB t6 t1.length)
     (cond (okLn t5)
      (cond (decide ((nr (Abs.rowAt t1 (Int.toNat t6)) 1) > (cntV t5 (nr (Abs.rowAt t1 (Int.toNat t6)) 0))))
       (cond (inB t6 t1.length)
        (cond (inB t6 t1.length)
         (cond (okEv t5)
          (goF E (callOf L16) F27 0 m P27_0 (M27_0 t1 (withV t5 (nr (Abs.rowAt t1 (Int.toNat t6)) 0) (nr (Abs.rowAt t1 (Int.toNat t6)) 1)) (IntKind.wrap .i64 (t6 + 1))))
          none)
         none)
        none)
       (goF E (callOf L16) F27 0 m P27_0 (M27_0 t1 t5 (IntKind.wrap .i64 (t6 + 1)))))
      none)
     none)
    none)
   (some ([.one (.sl false 65 t5)], []))) := by kernel_rfl

/- elasticstore/elasticstoreref03.LessEqual -/
noncomputable def P28_0 : List AItem := F28.at [.snd, .fst, .snd, .sub, .head]
def M28_0 (t0 : List (List Cell)) (t1 : List (List Cell)) (t5 : Int) : St := ⟨[(0, .one (.sl false 65 t0)), (1, .one (.sl false 65 t1)), (5, .one (.int .i64 t5))], []⟩
theorem e28 (m : Nat) (v : List (List Cell)) (w : List (List Cell)) : runF E (callOf L27) (m + 1) 28 [.one (.sl false 65 v), .one (.sl false 65 w)] [] =
  (goF E (callOf L27) F28 0 m P28_0 (M28_0 v w 0)) := by kernel_rfl
theorem e28_0 (m : Nat) (t0 : List (List Cell)) (t1 : List (List Cell)) (t5 : Int) : goF E (callOf L27) F28 0 (m + 1) P28_0 (M28_0 t0 t1 t5) =
  (cond (decide (t5 < (t0.length : Int)))
   (cond (inB t5 t0.length)
    (cond (inB t5 t0.length)
     (cond (okLn t1)
      (cond (decide ((nr (Abs.rowAt t0 (Int.toNat t5)) 1) > (cntV t1 (nr (Abs.rowAt t0 (Int.toNat t5)) 0))))
       (some ([.one (.bool false)], []))
       (goF E (callOf L27) F28 0 m P28_0 (M28_0 t0 t1 (IntKind.wrap .i64 (t5 + 1)))))
      none)
     none)
    none)
   (some ([.one (.bool true)], []))) := by kernel_rfl

/- elasticstore/elasticstoreref03.ValidateVector -/
noncomputable def P31_0 : List AItem := F31.at [.snd, .fst, .snd, .sub, .head]
def M31_0 (t0 : List (List Cell)) (t3 : Int) : St := ⟨[(0, .one (.sl false 65 t0)), (3, .one (.int .i64 t3))], []⟩
theorem e31 (m : Nat) (v : List (List Cell)) : runF E (callOf L28) (m + 1) 31 [.one (.sl false 65 v)] [] =
  (goF E (callOf L28) F31 0 m P31_0 (M31_0 v 0)) := by kernel_rfl
theorem e31_0 (m : Nat) (t0 : List (List Cell)) (t3 : Int) : goF E (callOf L28) F31 0 (m + 1) P31_0 (M31_0 t0 t3) =
  (cond (decide (t3 < (t0.length : Int)))
   (cond (inB t3 t0.length)
    (cond (decide ((nr (Abs.rowAt t0 (Int.toNat t3)) 0) < 1))
     (some ([.one (.int .i64 9)], []))
     (cond (inB t3 t0.length)
      (cond (decide ((nr (Abs.rowAt t0 (Int.toNat t3)) 1) < 1))
       (some ([.one (.int .i64 9)], []))
       (cond (inB t3 t0.length)
        (cond (decide ((nr (Abs.rowAt t0 (Int.toNat t3)) 1) > 1000000))
         (some ([.one (.int .i64 9)], []))
         (cond (decide (t3 > 0))
          (cond (inB (IntKind.wrap .i64 (t3 - 1)) t0.length)
           (cond (inB t3 t0.length)
            (cond (decide ((nr (Abs.rowAt t0 (Int.toNat (IntKind.wrap .i64 (t3 - 1)))) 0) ≥ (nr (Abs.rowAt t0 (Int.toNat t3)) 0)))
             (some ([.one (.int .i64 7)], []))
             (goF E (callOf L28) F31 0 m P31_0 (M31_0 t0 (IntKind.wrap .i64 (t3 + 1)))))
            none)
           none)
          (goF E (callOf L28) F31 0 m P31_0 (M31_0 t0 (IntKind.wrap .i64 (t3 + 1))))))
        none))
      none))
    none)
   (some ([.one (.int .i64 0)], []))) := by kernel_rfl

end Go.Proofs.Ytkfniijfenkocaa
