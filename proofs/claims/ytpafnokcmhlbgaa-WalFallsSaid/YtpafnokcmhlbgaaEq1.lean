/-
  What each function does at each place where a run of it may be cut: printed by a program of our own.
-/
import Derived.Test.YtpafnokcmhlbgaaTab
namespace Go.Proofs.Ytpafnokcmhlbgaa
open Go.Abs
set_option maxRecDepth 20000

/- elasticstore/elasticstorelaw00.Index -/
theorem e11 (m : Nat) (n : Int) (k : Int) : runF E (callOf L) (m + 1) 11 [.one (.int .i64 n), .one (.int .i64 k)] [] =
  (cond (decide (k < 1))
   (some ([.one (.int .i64 0)], []))
   (cond (decide (k = 0))
    none
    (cond (decide (k = 0))
     none
     (some ([.one (.int .i64 (Int.tmod (IntKind.wrap .i64 ((Int.tmod n k) + k)) k))], []))))) := by kernel_rfl

/- elasticstore/wal.appendNumber -/
theorem e72 (m : Nat) (un : Nat) (v : Int) (x : List (List Cell)) : runF E (callOf L11) (m + 1) 72 [.one (.msl 5 0 un), .one (.int .u64 v), .one (.int .i64 8)] [.arr 5 x] =
  let z1 := IntKind.wrap .u8 (shrI .u64 v 56)
  let z2 := IntKind.wrap .u8 (shrI .u64 v 48)
  let z3 := IntKind.wrap .u8 (shrI .u64 v 40)
  let z4 := IntKind.wrap .u8 (shrI .u64 v 32)
  let z5 := IntKind.wrap .u8 (shrI .u64 v 24)
  let z6 := IntKind.wrap .u8 (shrI .u64 v 16)
  (cond (Nat.beq un x.length)
   (cond (fits (x.length + [[Cell.int .u8 z1]].length))
    (cond (Nat.beq (x.length + [[Cell.int .u8 z1]].length) (x ++ [[Cell.int .u8 z1]]).length)
     (cond (fits ((x ++ [[Cell.int .u8 z1]]).length + [[Cell.int .u8 z2]].length))
      (cond (Nat.beq ((x ++ [[Cell.int .u8 z1]]).length + [[Cell.int .u8 z2]].length) ((x ++ [[Cell.int .u8 z1]]) ++ [[Cell.int .u8 z2]]).length)
       (cond (fits (((x ++ [[Cell.int .u8 z1]]) ++ [[Cell.int .u8 z2]]).length + [[Cell.int .u8 z3]].length))
        (cond (Nat.beq (((x ++ [[Cell.int .u8 z1]]) ++ [[Cell.int .u8 z2]]).length + [[Cell.int .u8 z3]].length) (((x ++ [[Cell.int .u8 z1]]) ++ [[Cell.int .u8 z2]]) ++ [[Cell.int .u8 z3]]).length)
         (cond (fits ((((x ++ [[Cell.int .u8 z1]]) ++ [[Cell.int .u8 z2]]) ++ [[Cell.int .u8 z3]]).length + [[Cell.int .u8 z4]].length))
          (cond (Nat.beq ((((x ++ [[Cell.int .u8 z1]]) ++ [[Cell.int .u8 z2]]) ++ [[Cell.int .u8 z3]]).length + [[Cell.int .u8 z4]].length) ((((x ++ [[Cell.int .u8 z1]]) ++ [[Cell.int .u8 z2]]) ++ [[Cell.int .u8 z3]]) ++ [[Cell.int .u8 z4]]).length)
           (cond (fits (((((x ++ [[Cell.int .u8 z1]]) ++ [[Cell.int .u8 z2]]) ++ [[Cell.int .u8 z3]]) ++ [[Cell.int .u8 z4]]).length + [[Cell.int .u8 z5]].length))
            (cond (Nat.beq (((((x ++ [[Cell.int .u8 z1]]) ++ [[Cell.int .u8 z2]]) ++ [[Cell.int .u8 z3]]) ++ [[Cell.int .u8 z4]]).length + [[Cell.int .u8 z5]].length) (((((x ++ [[Cell.int .u8 z1]]) ++ [[Cell.int .u8 z2]]) ++ [[Cell.int .u8 z3]]) ++ [[Cell.int .u8 z4]]) ++ [[Cell.int .u8 z5]]).length)
             (cond (fits ((((((x ++ [[Cell.int .u8 z1]]) ++ [[Cell.int .u8 z2]]) ++ [[Cell.int .u8 z3]]) ++ [[Cell.int .u8 z4]]) ++ [[Cell.int .u8 z5]]).length + [[Cell.int .u8 z6]].length))
              (cond (Nat.beq ((((((x ++ [[Cell.int .u8 z1]]) ++ [[Cell.int .u8 z2]]) ++ [[Cell.int .u8 z3]]) ++ [[Cell.int .u8 z4]]) ++ [[Cell.int .u8 z5]]).length + [[Cell.int .u8 z6]].length) ((((((x ++ [[Cell.int .u8 z1]]) ++ [[Cell.int .u8 z2]]) ++ [[Cell.int .u8 z3]]) ++ [[Cell.int .u8 z4]]) ++ [[Cell.int .u8 z5]]) ++ [[Cell.int .u8 z6]]).length)
               (cond (fits (((((((x ++ [[Cell.int .u8 z1]]) ++ [[Cell.int .u8 z2]]) ++ [[Cell.int .u8 z3]]) ++ [[Cell.int .u8 z4]]) ++ [[Cell.int .u8 z5]]) ++ [[Cell.int .u8 z6]]).length + [[Cell.int .u8 (IntKind.wrap .u8 (shrI .u64 v 8))]].length))
                (cond (Nat.beq (((((((x ++ [[Cell.int .u8 z1]]) ++ [[Cell.int .u8 z2]]) ++ [[Cell.int .u8 z3]]) ++ [[Cell.int .u8 z4]]) ++ [[Cell.int .u8 z5]]) ++ [[Cell.int .u8 z6]]).length + [[Cell.int .u8 (IntKind.wrap .u8 (shrI .u64 v 8))]].length) (((((((x ++ [[Cell.int .u8 z1]]) ++ [[Cell.int .u8 z2]]) ++ [[Cell.int .u8 z3]]) ++ [[Cell.int .u8 z4]]) ++ [[Cell.int .u8 z5]]) ++ [[Cell.int .u8 z6]]) ++ [[Cell.int .u8 (IntKind.wrap .u8 (shrI .u64 v 8))]]).length)
                 (cond (fits ((((((((x ++ [[Cell.int .u8 z1]]) ++ [[Cell.int .u8 z2]]) ++ [[Cell.int .u8 z3]]) ++ [[Cell.int .u8 z4]]) ++ [[Cell.int .u8 z5]]) ++ [[Cell.int .u8 z6]]) ++ [[Cell.int .u8 (IntKind.wrap .u8 (shrI .u64 v 8))]]).length + [[Cell.int .u8 (IntKind.wrap .u8 (shrI .u64 v 0))]].length))
                  (some ([.one (.msl 5 1 ((((((((x ++ [[Cell.int .u8 z1]]) ++ [[Cell.int .u8 z2]]) ++ [[Cell.int .u8 z3]]) ++ [[Cell.int .u8 z4]]) ++ [[Cell.int .u8 z5]]) ++ [[Cell.int .u8 z6]]) ++ [[Cell.int .u8 (IntKind.wrap .u8 (shrI .u64 v 8))]]).length + [[Cell.int .u8 (IntKind.wrap .u8 (shrI .u64 v 0))]].length))], [.dead, .arr 5 ((((((((x ++ [[Cell.int .u8 z1]]) ++ [[Cell.int .u8 z2]]) ++ [[Cell.int .u8 z3]]) ++ [[Cell.int .u8 z4]]) ++ [[Cell.int .u8 z5]]) ++ [[Cell.int .u8 z6]]) ++ [[Cell.int .u8 (IntKind.wrap .u8 (shrI .u64 v 8))]]) ++ [[Cell.int .u8 (IntKind.wrap .u8 (shrI .u64 v 0))]])]))
                  none)
                 none)
                none)
               none)
              none)
             none)
            none)
           none)
          none)
         none)
        none)
       none)
      none)
     none)
    none)
   none) := by kernel_rfl
theorem e72_c1 (m : Nat) (un : Nat) (v : Int) (x : List (List Cell)) : runF E (callOf L11) (m + 1) 72 [.one (.msl 5 0 un), .one (.int .u64 v), .one (.int .i64 4)] [.arr 5 x] =
  (cond (Nat.beq un x.length)
   (cond (fits (x.length + [[Cell.int .u8 (IntKind.wrap .u8 (shrI .u64 v 24))]].length))
    (cond (Nat.beq (x.length + [[Cell.int .u8 (IntKind.wrap .u8 (shrI .u64 v 24))]].length) (x ++ [[Cell.int .u8 (IntKind.wrap .u8 (shrI .u64 v 24))]]).length)
     (cond (fits ((x ++ [[Cell.int .u8 (IntKind.wrap .u8 (shrI .u64 v 24))]]).length + [[Cell.int .u8 (IntKind.wrap .u8 (shrI .u64 v 16))]].length))
      (cond (Nat.beq ((x ++ [[Cell.int .u8 (IntKind.wrap .u8 (shrI .u64 v 24))]]).length + [[Cell.int .u8 (IntKind.wrap .u8 (shrI .u64 v 16))]].length) ((x ++ [[Cell.int .u8 (IntKind.wrap .u8 (shrI .u64 v 24))]]) ++ [[Cell.int .u8 (IntKind.wrap .u8 (shrI .u64 v 16))]]).length)
       (cond (fits (((x ++ [[Cell.int .u8 (IntKind.wrap .u8 (shrI .u64 v 24))]]) ++ [[Cell.int .u8 (IntKind.wrap .u8 (shrI .u64 v 16))]]).length + [[Cell.int .u8 (IntKind.wrap .u8 (shrI .u64 v 8))]].length))
        (cond (Nat.beq (((x ++ [[Cell.int .u8 (IntKind.wrap .u8 (shrI .u64 v 24))]]) ++ [[Cell.int .u8 (IntKind.wrap .u8 (shrI .u64 v 16))]]).length + [[Cell.int .u8 (IntKind.wrap .u8 (shrI .u64 v 8))]].length) (((x ++ [[Cell.int .u8 (IntKind.wrap .u8 (shrI .u64 v 24))]]) ++ [[Cell.int .u8 (IntKind.wrap .u8 (shrI .u64 v 16))]]) ++ [[Cell.int .u8 (IntKind.wrap .u8 (shrI .u64 v 8))]]).length)
         (cond (fits ((((x ++ [[Cell.int .u8 (IntKind.wrap .u8 (shrI .u64 v 24))]]) ++ [[Cell.int .u8 (IntKind.wrap .u8 (shrI .u64 v 16))]]) ++ [[Cell.int .u8 (IntKind.wrap .u8 (shrI .u64 v 8))]]).length + [[Cell.int .u8 (IntKind.wrap .u8 (shrI .u64 v 0))]].length))
          (some ([.one (.msl 5 1 ((((x ++ [[Cell.int .u8 (IntKind.wrap .u8 (shrI .u64 v 24))]]) ++ [[Cell.int .u8 (IntKind.wrap .u8 (shrI .u64 v 16))]]) ++ [[Cell.int .u8 (IntKind.wrap .u8 (shrI .u64 v 8))]]).length + [[Cell.int .u8 (IntKind.wrap .u8 (shrI .u64 v 0))]].length))], [.dead, .arr 5 ((((x ++ [[Cell.int .u8 (IntKind.wrap .u8 (shrI .u64 v 24))]]) ++ [[Cell.int .u8 (IntKind.wrap .u8 (shrI .u64 v 16))]]) ++ [[Cell.int .u8 (IntKind.wrap .u8 (shrI .u64 v 8))]]) ++ [[Cell.int .u8 (IntKind.wrap .u8 (shrI .u64 v 0))]])]))
          none)
         none)
        none)
       none)
      none)
     none)
    none)
   none) := by kernel_rfl
theorem e72_c2 (m : Nat) (lo : Nat) (un : Nat) (c : Nat) (v : Int) (x : List (List Cell)) : runF E (callOf L11) (m + 1) 72 [.one (.win 5 0 lo un (some c)), .one (.int .u64 v), .one (.int .i64 8)] [.arr 5 x] =
  let z1 := IntKind.wrap .u8 (shrI .u64 v 56)
  let z3 := IntKind.wrap .u8 (shrI .u64 v 48)
  let z5 := IntKind.wrap .u8 (shrI .u64 v 40)
  let z6 := IntKind.wrap .u8 (shrI .u64 v 32)
  let z7 := IntKind.wrap .u8 (shrI .u64 v 24)
  let z8 := IntKind.wrap .u8 (shrI .u64 v 16)
  let z9 := IntKind.wrap .u8 (shrI .u64 v 8)
  let z10 := overL (overL x (lo + un) [[Cell.int .u8 z1]]) (lo + (un + [[Cell.int .u8 z1]].length)) [[Cell.int .u8 z3]]
  let z2 := overL z10 (lo + ((un + [[Cell.int .u8 z1]].length) + [[Cell.int .u8 z3]].length)) [[Cell.int .u8 z5]]
  let z4 := overL z2 (lo + (((un + [[Cell.int .u8 z1]].length) + [[Cell.int .u8 z3]].length) + [[Cell.int .u8 z5]].length)) [[Cell.int .u8 z6]]
  (cond (Nat.blt 0 x.length)
   (cond (Nat.ble (un + [[Cell.int .u8 z1]].length) c)
    (cond (Nat.ble (lo + un + [[Cell.int .u8 z1]].length) x.length)
     (cond (Nat.blt 0 (overL x (lo + un) [[Cell.int .u8 z1]]).length)
      (cond (Nat.ble ((un + [[Cell.int .u8 z1]].length) + [[Cell.int .u8 z3]].length) c)
       (cond (Nat.ble (lo + (un + [[Cell.int .u8 z1]].length) + [[Cell.int .u8 z3]].length) (overL x (lo + un) [[Cell.int .u8 z1]]).length)
        (cond (Nat.blt 0 z10.length)
         (cond (Nat.ble (((un + [[Cell.int .u8 z1]].length) + [[Cell.int .u8 z3]].length) + [[Cell.int .u8 z5]].length) c)
          (cond (Nat.ble (lo + ((un + [[Cell.int .u8 z1]].length) + [[Cell.int .u8 z3]].length) + [[Cell.int .u8 z5]].length) z10.length)
           (cond (Nat.blt 0 z2.length)
            (cond (Nat.ble ((((un + [[Cell.int .u8 z1]].length) + [[Cell.int .u8 z3]].length) + [[Cell.int .u8 z5]].length) + [[Cell.int .u8 z6]].length) c)
             (cond (Nat.ble (lo + (((un + [[Cell.int .u8 z1]].length) + [[Cell.int .u8 z3]].length) + [[Cell.int .u8 z5]].length) + [[Cell.int .u8 z6]].length) z2.length)
              (cond (Nat.blt 0 z4.length)
               (cond (Nat.ble (((((un + [[Cell.int .u8 z1]].length) + [[Cell.int .u8 z3]].length) + [[Cell.int .u8 z5]].length) + [[Cell.int .u8 z6]].length) + [[Cell.int .u8 z7]].length) c)
                (cond (Nat.ble (lo + ((((un + [[Cell.int .u8 z1]].length) + [[Cell.int .u8 z3]].length) + [[Cell.int .u8 z5]].length) + [[Cell.int .u8 z6]].length) + [[Cell.int .u8 z7]].length) z4.length)
                 (cond (Nat.blt 0 (overL z4 (lo + ((((un + [[Cell.int .u8 z1]].length) + [[Cell.int .u8 z3]].length) + [[Cell.int .u8 z5]].length) + [[Cell.int .u8 z6]].length)) [[Cell.int .u8 z7]]).length)
                  (cond (Nat.ble ((((((un + [[Cell.int .u8 z1]].length) + [[Cell.int .u8 z3]].length) + [[Cell.int .u8 z5]].length) + [[Cell.int .u8 z6]].length) + [[Cell.int .u8 z7]].length) + [[Cell.int .u8 z8]].length) c)
                   (cond (Nat.ble (lo + (((((un + [[Cell.int .u8 z1]].length) + [[Cell.int .u8 z3]].length) + [[Cell.int .u8 z5]].length) + [[Cell.int .u8 z6]].length) + [[Cell.int .u8 z7]].length) + [[Cell.int .u8 z8]].length) (overL z4 (lo + ((((un + [[Cell.int .u8 z1]].length) + [[Cell.int .u8 z3]].length) + [[Cell.int .u8 z5]].length) + [[Cell.int .u8 z6]].length)) [[Cell.int .u8 z7]]).length)
                    (cond (Nat.blt 0 (overL (overL z4 (lo + ((((un + [[Cell.int .u8 z1]].length) + [[Cell.int .u8 z3]].length) + [[Cell.int .u8 z5]].length) + [[Cell.int .u8 z6]].length)) [[Cell.int .u8 z7]]) (lo + (((((un + [[Cell.int .u8 z1]].length) + [[Cell.int .u8 z3]].length) + [[Cell.int .u8 z5]].length) + [[Cell.int .u8 z6]].length) + [[Cell.int .u8 z7]].length)) [[Cell.int .u8 z8]]).length)
                     (cond (Nat.ble (((((((un + [[Cell.int .u8 z1]].length) + [[Cell.int .u8 z3]].length) + [[Cell.int .u8 z5]].length) + [[Cell.int .u8 z6]].length) + [[Cell.int .u8 z7]].length) + [[Cell.int .u8 z8]].length) + [[Cell.int .u8 z9]].length) c)
                      (cond (Nat.ble (lo + ((((((un + [[Cell.int .u8 z1]].length) + [[Cell.int .u8 z3]].length) + [[Cell.int .u8 z5]].length) + [[Cell.int .u8 z6]].length) + [[Cell.int .u8 z7]].length) + [[Cell.int .u8 z8]].length) + [[Cell.int .u8 z9]].length) (overL (overL z4 (lo + ((((un + [[Cell.int .u8 z1]].length) + [[Cell.int .u8 z3]].length) + [[Cell.int .u8 z5]].length) + [[Cell.int .u8 z6]].length)) [[Cell.int .u8 z7]]) (lo + (((((un + [[Cell.int .u8 z1]].length) + [[Cell.int .u8 z3]].length) + [[Cell.int .u8 z5]].length) + [[Cell.int .u8 z6]].length) + [[Cell.int .u8 z7]].length)) [[Cell.int .u8 z8]]).length)
                       (cond (Nat.blt 0 (overL (overL (overL z4 (lo + ((((un + [[Cell.int .u8 z1]].length) + [[Cell.int .u8 z3]].length) + [[Cell.int .u8 z5]].length) + [[Cell.int .u8 z6]].length)) [[Cell.int .u8 z7]]) (lo + (((((un + [[Cell.int .u8 z1]].length) + [[Cell.int .u8 z3]].length) + [[Cell.int .u8 z5]].length) + [[Cell.int .u8 z6]].length) + [[Cell.int .u8 z7]].length)) [[Cell.int .u8 z8]]) (lo + ((((((un + [[Cell.int .u8 z1]].length) + [[Cell.int .u8 z3]].length) + [[Cell.int .u8 z5]].length) + [[Cell.int .u8 z6]].length) + [[Cell.int .u8 z7]].length) + [[Cell.int .u8 z8]].length)) [[Cell.int .u8 z9]]).length)
                        (cond (Nat.ble ((((((((un + [[Cell.int .u8 z1]].length) + [[Cell.int .u8 z3]].length) + [[Cell.int .u8 z5]].length) + [[Cell.int .u8 z6]].length) + [[Cell.int .u8 z7]].length) + [[Cell.int .u8 z8]].length) + [[Cell.int .u8 z9]].length) + [[Cell.int .u8 (IntKind.wrap .u8 (shrI .u64 v 0))]].length) c)
                         (cond (Nat.ble (lo + (((((((un + [[Cell.int .u8 z1]].length) + [[Cell.int .u8 z3]].length) + [[Cell.int .u8 z5]].length) + [[Cell.int .u8 z6]].length) + [[Cell.int .u8 z7]].length) + [[Cell.int .u8 z8]].length) + [[Cell.int .u8 z9]].length) + [[Cell.int .u8 (IntKind.wrap .u8 (shrI .u64 v 0))]].length) (overL (overL (overL z4 (lo + ((((un + [[Cell.int .u8 z1]].length) + [[Cell.int .u8 z3]].length) + [[Cell.int .u8 z5]].length) + [[Cell.int .u8 z6]].length)) [[Cell.int .u8 z7]]) (lo + (((((un + [[Cell.int .u8 z1]].length) + [[Cell.int .u8 z3]].length) + [[Cell.int .u8 z5]].length) + [[Cell.int .u8 z6]].length) + [[Cell.int .u8 z7]].length)) [[Cell.int .u8 z8]]) (lo + ((((((un + [[Cell.int .u8 z1]].length) + [[Cell.int .u8 z3]].length) + [[Cell.int .u8 z5]].length) + [[Cell.int .u8 z6]].length) + [[Cell.int .u8 z7]].length) + [[Cell.int .u8 z8]].length)) [[Cell.int .u8 z9]]).length)
                          (some ([.one (.win 5 0 lo ((((((((un + [[Cell.int .u8 z1]].length) + [[Cell.int .u8 z3]].length) + [[Cell.int .u8 z5]].length) + [[Cell.int .u8 z6]].length) + [[Cell.int .u8 z7]].length) + [[Cell.int .u8 z8]].length) + [[Cell.int .u8 z9]].length) + [[Cell.int .u8 (IntKind.wrap .u8 (shrI .u64 v 0))]].length) (some c))], [.arr 5 (overL (overL (overL (overL z4 (lo + ((((un + [[Cell.int .u8 z1]].length) + [[Cell.int .u8 z3]].length) + [[Cell.int .u8 z5]].length) + [[Cell.int .u8 z6]].length)) [[Cell.int .u8 z7]]) (lo + (((((un + [[Cell.int .u8 z1]].length) + [[Cell.int .u8 z3]].length) + [[Cell.int .u8 z5]].length) + [[Cell.int .u8 z6]].length) + [[Cell.int .u8 z7]].length)) [[Cell.int .u8 z8]]) (lo + ((((((un + [[Cell.int .u8 z1]].length) + [[Cell.int .u8 z3]].length) + [[Cell.int .u8 z5]].length) + [[Cell.int .u8 z6]].length) + [[Cell.int .u8 z7]].length) + [[Cell.int .u8 z8]].length)) [[Cell.int .u8 z9]]) (lo + (((((((un + [[Cell.int .u8 z1]].length) + [[Cell.int .u8 z3]].length) + [[Cell.int .u8 z5]].length) + [[Cell.int .u8 z6]].length) + [[Cell.int .u8 z7]].length) + [[Cell.int .u8 z8]].length) + [[Cell.int .u8 z9]].length)) [[Cell.int .u8 (IntKind.wrap .u8 (shrI .u64 v 0))]])]))
                          none)
                         none)
                        none)
                       none)
                      none)
                     none)
                    none)
                   none)
                  none)
                 none)
                none)
               none)
              none)
             none)
            none)
           none)
          none)
         none)
        none)
       none)
      none)
     none)
    none)
   none) := by kernel_rfl
theorem e72_c3 (m : Nat) (lo : Nat) (un : Nat) (c : Nat) (v : Int) (x : List (List Cell)) : runF E (callOf L11) (m + 1) 72 [.one (.win 5 0 lo un (some c)), .one (.int .u64 v), .one (.int .i64 4)] [.arr 5 x] =
  let z2 := IntKind.wrap .u8 (shrI .u64 v 24)
  let z3 := IntKind.wrap .u8 (shrI .u64 v 16)
  let z1 := overL (overL x (lo + un) [[Cell.int .u8 z2]]) (lo + (un + [[Cell.int .u8 z2]].length)) [[Cell.int .u8 z3]]
  let z4 := overL z1 (lo + ((un + [[Cell.int .u8 z2]].length) + [[Cell.int .u8 z3]].length)) [[Cell.int .u8 (IntKind.wrap .u8 (shrI .u64 v 8))]]
  (cond (Nat.blt 0 x.length)
   (cond (Nat.ble (un + [[Cell.int .u8 z2]].length) c)
    (cond (Nat.ble (lo + un + [[Cell.int .u8 z2]].length) x.length)
     (cond (Nat.blt 0 (overL x (lo + un) [[Cell.int .u8 z2]]).length)
      (cond (Nat.ble ((un + [[Cell.int .u8 z2]].length) + [[Cell.int .u8 z3]].length) c)
       (cond (Nat.ble (lo + (un + [[Cell.int .u8 z2]].length) + [[Cell.int .u8 z3]].length) (overL x (lo + un) [[Cell.int .u8 z2]]).length)
        (cond (Nat.blt 0 z1.length)
         (cond (Nat.ble (((un + [[Cell.int .u8 z2]].length) + [[Cell.int .u8 z3]].length) + [[Cell.int .u8 (IntKind.wrap .u8 (shrI .u64 v 8))]].length) c)
          (cond (Nat.ble (lo + ((un + [[Cell.int .u8 z2]].length) + [[Cell.int .u8 z3]].length) + [[Cell.int .u8 (IntKind.wrap .u8 (shrI .u64 v 8))]].length) z1.length)
           (cond (Nat.blt 0 z4.length)
            (cond (Nat.ble ((((un + [[Cell.int .u8 z2]].length) + [[Cell.int .u8 z3]].length) + [[Cell.int .u8 (IntKind.wrap .u8 (shrI .u64 v 8))]].length) + [[Cell.int .u8 (IntKind.wrap .u8 (shrI .u64 v 0))]].length) c)
             (cond (Nat.ble (lo + (((un + [[Cell.int .u8 z2]].length) + [[Cell.int .u8 z3]].length) + [[Cell.int .u8 (IntKind.wrap .u8 (shrI .u64 v 8))]].length) + [[Cell.int .u8 (IntKind.wrap .u8 (shrI .u64 v 0))]].length) z4.length)
              (some ([.one (.win 5 0 lo ((((un + [[Cell.int .u8 z2]].length) + [[Cell.int .u8 z3]].length) + [[Cell.int .u8 (IntKind.wrap .u8 (shrI .u64 v 8))]].length) + [[Cell.int .u8 (IntKind.wrap .u8 (shrI .u64 v 0))]].length) (some c))], [.arr 5 (overL z4 (lo + (((un + [[Cell.int .u8 z2]].length) + [[Cell.int .u8 z3]].length) + [[Cell.int .u8 (IntKind.wrap .u8 (shrI .u64 v 8))]].length)) [[Cell.int .u8 (IntKind.wrap .u8 (shrI .u64 v 0))]])]))
              none)
             none)
            none)
           none)
          none)
         none)
        none)
       none)
      none)
     none)
    none)
   none) := by kernel_rfl

/- elasticstore/frame.Checksum -/
noncomputable def P73_0 : List AItem := F73.at [.snd, .snd, .fst, .snd, .sub, .head]
def M73_0 (t3 : Int) (t7 : List (List Cell)) (t8 : Int) (t9 : Int) : St := ⟨[(3, .one (.int .u32 t3)), (7, .one (.sl false 5 t7)), (8, .one (.int .i64 t8)), (9, .one (.int .i64 t9))], []⟩
noncomputable def P73_1 : List AItem := F73.at [.snd, .snd, .fst, .snd, .sub, .body, .snd, .snd, .fst, .sub, .snd, .snd, .snd, .sub, .head]
def M73_1 (t3 : Int) (t7 : List (List Cell)) (t8 : Int) (t9 : Int) (t17 : Int) : St := ⟨[(3, .one (.int .u32 t3)), (7, .one (.sl false 5 t7)), (8, .one (.int .i64 t8)), (9, .one (.int .i64 t9)), (17, .one (.int .i64 t17))], []⟩
theorem e73 (m : Nat) (x : List (List Cell)) : runF E (callOf L72) (m + 1) 73 [.one (.sl false 5 x)] [] =
  (goF E (callOf L72) F73 0 m P73_0 (M73_0 4294967295 x (x.length : Int) 0)) := by kernel_rfl
theorem e73_0 (m : Nat) (t3 : Int) (t7 : List (List Cell)) (t8 : Int) (t9 : Int) : goF E (callOf L72) F73 0 (m + 1) P73_0 (M73_0 t3 t7 t8 t9) =
  (cond (decide (t9 < t8))
   (cond (inB t9 t7.length)
    (goF E (callOf L72) F73 0 m P73_1 (M73_1 (xorI .u32 t3 (IntKind.wrap .u32 (nr (Abs.rowAt t7 (Int.toNat t9)) 0))) t7 t8 t9 0))
    none)
   (some ([.one (.int .u32 (xorI .u32 4294967295 t3))], []))) := by kernel_rfl
theorem e73_1 (m : Nat) (t3 : Int) (t7 : List (List Cell)) (t8 : Int) (t9 : Int) (t17 : Int) : goF E (callOf L72) F73 0 (m + 1) P73_1 (M73_1 t3 t7 t8 t9 t17) =
  (cond (decide (t17 < 8))
   (cond ((andI .u32 t3 1) != 0)
    (goF E (callOf L72) F73 0 m P73_1 (M73_1 (xorI .u32 (shrI .u32 t3 1) 2197175160) t7 t8 t9 (IntKind.wrap .i64 (t17 + 1))))
    (goF E (callOf L72) F73 0 m P73_1 (M73_1 (shrI .u32 t3 1) t7 t8 t9 (IntKind.wrap .i64 (t17 + 1)))))
   (goF E (callOf L72) F73 0 m P73_0 (M73_0 t3 t7 t8 (IntKind.wrap .i64 (t9 + 1))))) := by kernel_rfl
noncomputable def P73_0_c1 : List AItem := F73.at [.snd, .snd, .fst, .snd, .sub, .head]
def M73_0_c1 (t3 : Int) (t7 : Nat) (t8 : Int) (t9 : Int) (b0 : List (List Cell)) : St := ⟨[(3, .one (.int .u32 t3)), (7, .one (.msl 5 0 t7)), (8, .one (.int .i64 t8)), (9, .one (.int .i64 t9))], [.arr 5 b0]⟩
noncomputable def P73_1_c1 : List AItem := F73.at [.snd, .snd, .fst, .snd, .sub, .body, .snd, .snd, .fst, .sub, .snd, .snd, .snd, .sub, .head]
def M73_1_c1 (t3 : Int) (t7 : Nat) (t8 : Int) (t9 : Int) (t17 : Int) (b0 : List (List Cell)) : St := ⟨[(3, .one (.int .u32 t3)), (7, .one (.msl 5 0 t7)), (8, .one (.int .i64 t8)), (9, .one (.int .i64 t9)), (17, .one (.int .i64 t17))], [.arr 5 b0]⟩
theorem e73_c1 (m : Nat) (un : Nat) (x : List (List Cell)) : runF E (callOf L72) (m + 1) 73 [.one (.msl 5 0 un)] [.arr 5 x] =
  (goF E (callOf L72) F73 1 m P73_0_c1 (M73_0_c1 4294967295 un (un : Int) 0 x)) := by kernel_rfl
theorem e73_0_c1 (m : Nat) (t3 : Int) (t7 : Nat) (t8 : Int) (t9 : Int) (b0 : List (List Cell)) : goF E (callOf L72) F73 1 (m + 1) P73_0_c1 (M73_0_c1 t3 t7 t8 t9 b0) =
  (cond (decide (t9 < t8))
   (cond (inB t9 t7)
    (cond (Nat.blt (Int.toNat t9) b0.length)
     (goF E (callOf L72) F73 1 m P73_1_c1 (M73_1_c1 (xorI .u32 t3 (IntKind.wrap .u32 (nr (Abs.rowAt b0 (Int.toNat t9)) 0))) t7 t8 t9 0 b0))
     none)
    none)
   (some ([.one (.int .u32 (xorI .u32 4294967295 t3))], [.arr 5 b0]))) := by kernel_rfl
theorem e73_1_c1 (m : Nat) (t3 : Int) (t7 : Nat) (t8 : Int) (t9 : Int) (t17 : Int) (b0 : List (List Cell)) : goF E (callOf L72) F73 1 (m + 1) P73_1_c1 (M73_1_c1 t3 t7 t8 t9 t17 b0) =
  (cond (decide (t17 < 8))
   (cond ((andI .u32 t3 1) != 0)
    (goF E (callOf L72) F73 1 m P73_1_c1 (M73_1_c1 (xorI .u32 (shrI .u32 t3 1) 2197175160) t7 t8 t9 (IntKind.wrap .i64 (t17 + 1)) b0))
    (goF E (callOf L72) F73 1 m P73_1_c1 (M73_1_c1 (shrI .u32 t3 1) t7 t8 t9 (IntKind.wrap .i64 (t17 + 1)) b0)))
   (goF E (callOf L72) F73 1 m P73_0_c1 (M73_0_c1 t3 t7 t8 (IntKind.wrap .i64 (t9 + 1)) b0))) := by kernel_rfl
noncomputable def P73_0_c2 : List AItem := F73.at [.snd, .snd, .fst, .snd, .sub, .head]
def M73_0_c2 (t3 : Int) (t7 : Nat) (t7_1 : Nat) (t7_2 : Nat) (t8 : Int) (t9 : Int) (b0 : List (List Cell)) : St := ⟨[(3, .one (.int .u32 t3)), (7, .one (.win 5 0 t7 t7_1 (some t7_2))), (8, .one (.int .i64 t8)), (9, .one (.int .i64 t9))], [.arr 5 b0]⟩
noncomputable def P73_1_c2 : List AItem := F73.at [.snd, .snd, .fst, .snd, .sub, .body, .snd, .snd, .fst, .sub, .snd, .snd, .snd, .sub, .head]
def M73_1_c2 (t3 : Int) (t7 : Nat) (t7_1 : Nat) (t7_2 : Nat) (t8 : Int) (t9 : Int) (t17 : Int) (b0 : List (List Cell)) : St := ⟨[(3, .one (.int .u32 t3)), (7, .one (.win 5 0 t7 t7_1 (some t7_2))), (8, .one (.int .i64 t8)), (9, .one (.int .i64 t9)), (17, .one (.int .i64 t17))], [.arr 5 b0]⟩
theorem e73_c2 (m : Nat) (lo : Nat) (un : Nat) (c : Nat) (x : List (List Cell)) : runF E (callOf L72) (m + 1) 73 [.one (.win 5 0 lo un (some c))] [.arr 5 x] =
  (goF E (callOf L72) F73 1 m P73_0_c2 (M73_0_c2 4294967295 lo un c (un : Int) 0 x)) := by kernel_rfl
theorem e73_0_c2 (m : Nat) (t3 : Int) (t7 : Nat) (t7_1 : Nat) (t7_2 : Nat) (t8 : Int) (t9 : Int) (b0 : List (List Cell)) : goF E (callOf L72) F73 1 (m + 1) P73_0_c2 (M73_0_c2 t3 t7 t7_1 t7_2 t8 t9 b0) =
  (cond (decide (t9 < t8))
   (cond (inB t9 t7_1)
    (cond (Nat.blt (t7 + (Int.toNat t9)) b0.length)
     (goF E (callOf L72) F73 1 m P73_1_c2 (M73_1_c2 (xorI .u32 t3 (IntKind.wrap .u32 (nr (Abs.rowAt b0 (t7 + (Int.toNat t9))) 0))) t7 t7_1 t7_2 t8 t9 0 b0))
     none)
    none)
   (some ([.one (.int .u32 (xorI .u32 4294967295 t3))], [.arr 5 b0]))) := by kernel_rfl
theorem e73_1_c2 (m : Nat) (t3 : Int) (t7 : Nat) (t7_1 : Nat) (t7_2 : Nat) (t8 : Int) (t9 : Int) (t17 : Int) (b0 : List (List Cell)) : goF E (callOf L72) F73 1 (m + 1) P73_1_c2 (M73_1_c2 t3 t7 t7_1 t7_2 t8 t9 t17 b0) =
  (cond (decide (t17 < 8))
   (cond ((andI .u32 t3 1) != 0)
    (goF E (callOf L72) F73 1 m P73_1_c2 (M73_1_c2 (xorI .u32 (shrI .u32 t3 1) 2197175160) t7 t7_1 t7_2 t8 t9 (IntKind.wrap .i64 (t17 + 1)) b0))
    (goF E (callOf L72) F73 1 m P73_1_c2 (M73_1_c2 (shrI .u32 t3 1) t7 t7_1 t7_2 t8 t9 (IntKind.wrap .i64 (t17 + 1)) b0)))
   (goF E (callOf L72) F73 1 m P73_0_c2 (M73_0_c2 t3 t7 t7_1 t7_2 t8 (IntKind.wrap .i64 (t9 + 1)) b0))) := by kernel_rfl

/- elasticstore/wal.number -/
noncomputable def P71_0 : List AItem := F71.at [.snd, .snd, .fst, .snd, .sub, .head]
def M71_0 (t3 : Int) (t6 : List (List Cell)) (t7 : Int) (t8 : Int) : St := ⟨[(3, .one (.int .u64 t3)), (6, .one (.sl false 5 t6)), (7, .one (.int .i64 t7)), (8, .one (.int .i64 t8))], []⟩
theorem e71 (m : Nat) (x : List (List Cell)) : runF E (callOf L73) (m + 1) 71 [.one (.sl false 5 x)] [] =
  (goF E (callOf L73) F71 0 m P71_0 (M71_0 0 x (x.length : Int) 0)) := by kernel_rfl
theorem e71_0 (m : Nat) (t3 : Int) (t6 : List (List Cell)) (t7 : Int) (t8 : Int) : goF E (callOf L73) F71 0 (m + 1) P71_0 (M71_0 t3 t6 t7 t8) =
  (cond (decide (t8 < t7))
   (cond (inB t8 t6.length)
    (goF E (callOf L73) F71 0 m P71_0 (M71_0 (orI .u64 (shlI .u64 t3 8) (IntKind.wrap .u64 (nr (Abs.rowAt t6 (Int.toNat t8)) 0))) t6 t7 (IntKind.wrap .i64 (t8 + 1))))
    none)
   (some ([.one (.int .u64 t3)], []))) := by kernel_rfl

/- elasticstore/wal.encodeHeader -/
theorem e51 (m : Nat) (g : Int) : runF E (callOf L71) (m + 1) 51 [.one (.int .u64 g)] [] =
  let z1 := IntKind.wrap .u64 (crcS ([[Cell.int .u8 69], [Cell.int .u8 83], [Cell.int .u8 76], [Cell.int .u8 49]] ++ bigF (Int.toNat 8) g))
  (cond (okV g && (okSz 8 && okMx 4 [[Cell.int .u8 69], [Cell.int .u8 83], [Cell.int .u8 76], [Cell.int .u8 49]]))
   (cond (okBl ([[Cell.int .u8 69], [Cell.int .u8 83], [Cell.int .u8 76], [Cell.int .u8 49]] ++ bigF (Int.toNat 8) g) && Nat.beq ([[Cell.int .u8 69], [Cell.int .u8 83], [Cell.int .u8 76], [Cell.int .u8 49]].length + Int.toNat 8) ([[Cell.int .u8 69], [Cell.int .u8 83], [Cell.int .u8 76], [Cell.int .u8 49]] ++ bigF (Int.toNat 8) g).length)
    (cond (okV z1 && (okSz 4 && okMx ([[Cell.int .u8 69], [Cell.int .u8 83], [Cell.int .u8 76], [Cell.int .u8 49]].length + Int.toNat 8) ([[Cell.int .u8 69], [Cell.int .u8 83], [Cell.int .u8 76], [Cell.int .u8 49]] ++ bigF (Int.toNat 8) g)))
     (cond (Nat.beq (([[Cell.int .u8 69], [Cell.int .u8 83], [Cell.int .u8 76], [Cell.int .u8 49]] ++ bigF (Int.toNat 8) g).length + Int.toNat 4) (([[Cell.int .u8 69], [Cell.int .u8 83], [Cell.int .u8 76], [Cell.int .u8 49]] ++ bigF (Int.toNat 8) g) ++ bigF (Int.toNat 4) z1).length)
      (cond (okMake (IntKind.wrap .i64 (32 - ((([[Cell.int .u8 69], [Cell.int .u8 83], [Cell.int .u8 76], [Cell.int .u8 49]] ++ bigF (Int.toNat 8) g).length + Int.toNat 4) : Int))) (IntKind.wrap .i64 (32 - ((([[Cell.int .u8 69], [Cell.int .u8 83], [Cell.int .u8 76], [Cell.int .u8 49]] ++ bigF (Int.toNat 8) g).length + Int.toNat 4) : Int))))
       (cond (fits ((([[Cell.int .u8 69], [Cell.int .u8 83], [Cell.int .u8 76], [Cell.int .u8 49]] ++ bigF (Int.toNat 8) g) ++ bigF (Int.toNat 4) z1).length + (Int.toNat (IntKind.wrap .i64 (32 - ((([[Cell.int .u8 69], [Cell.int .u8 83], [Cell.int .u8 76], [Cell.int .u8 49]] ++ bigF (Int.toNat 8) g).length + Int.toNat 4) : Int))))))
        (cond (Nat.beq ((([[Cell.int .u8 69], [Cell.int .u8 83], [Cell.int .u8 76], [Cell.int .u8 49]] ++ bigF (Int.toNat 8) g) ++ bigF (Int.toNat 4) z1).length + (Int.toNat (IntKind.wrap .i64 (32 - ((([[Cell.int .u8 69], [Cell.int .u8 83], [Cell.int .u8 76], [Cell.int .u8 49]] ++ bigF (Int.toNat 8) g).length + Int.toNat 4) : Int))))) ((([[Cell.int .u8 69], [Cell.int .u8 83], [Cell.int .u8 76], [Cell.int .u8 49]] ++ bigF (Int.toNat 8) g) ++ bigF (Int.toNat 4) z1) ++ List.replicate (Int.toNat (IntKind.wrap .i64 (32 - ((([[Cell.int .u8 69], [Cell.int .u8 83], [Cell.int .u8 76], [Cell.int .u8 49]] ++ bigF (Int.toNat 8) g).length + Int.toNat 4) : Int)))) [Cell.int .u8 0]).length)
         (some ([.one (.sl false 5 ((([[Cell.int .u8 69], [Cell.int .u8 83], [Cell.int .u8 76], [Cell.int .u8 49]] ++ bigF (Int.toNat 8) g) ++ bigF (Int.toNat 4) z1) ++ List.replicate (Int.toNat (IntKind.wrap .i64 (32 - ((([[Cell.int .u8 69], [Cell.int .u8 83], [Cell.int .u8 76], [Cell.int .u8 49]] ++ bigF (Int.toNat 8) g).length + Int.toNat 4) : Int)))) [Cell.int .u8 0]))], []))
         none)
        none)
       none)
      none)
     none)
    none)
   none) := by kernel_rfl

/- elasticstore/wal.decodeHeader -/
theorem e46 (m : Nat) (x : List (List Cell)) : runF E (callOf L51) (m + 1) 46 [.one (.sl false 5 x)] [] =
  (cond ((x.length : Int) != 32)
   (some ([.one (.int .u64 0)], []))
   (cond (inB 12 (x.length + 1))
    (cond (okB (subL x 4 12) && pd ((subL x 4 12).length ≤ 8))
     (cond (okV (numF 0 (subL x 4 12)))
      (cond (!((toBytes (wHdr (numF 0 (subL x 4 12)))) == (toBytes x)))
       (some ([.one (.int .u64 0)], []))
       (some ([.one (.int .u64 (numF 0 (subL x 4 12)))], [])))
      none)
     none)
    none)) := by kernel_rfl

/- elasticstore/wal.checksum -/
theorem e77 (m : Nat) (g : Int) (o : Int) (x : List (List Cell)) : runF E (callOf L46) (m + 1) 77 [.one (.int .u64 g), .one (.int .i64 o), .one (.sl false 5 x)] [] =
  let z1 := overL (overL (overL (List.replicate 30016 [Cell.int .u8 0]) (0 + 0) (bigF (Int.toNat 8) g)) (0 + (0 + Int.toNat 8)) (bigF (Int.toNat 4) (IntKind.wrap .u64 o))) (0 + ((0 + Int.toNat 8) + Int.toNat 4)) (bigF (Int.toNat 4) (IntKind.wrap .u64 (x.length : Int)))
  let z2 := Int.toNat ((((0 + Int.toNat 8) + Int.toNat 4) + Int.toNat 4) : Int)
  (cond (okV g && (okSz 8 && okWa 0 0 30016 (List.replicate 30016 [Cell.int .u8 0]) (Int.toNat 8)))
   (cond (okV (IntKind.wrap .u64 o) && (okSz 4 && okWa 0 (0 + Int.toNat 8) 30016 (overL (List.replicate 30016 [Cell.int .u8 0]) (0 + 0) (bigF (Int.toNat 8) g)) (Int.toNat 4)))
    (cond (okV (IntKind.wrap .u64 (x.length : Int)) && (okSz 4 && okWa 0 ((0 + Int.toNat 8) + Int.toNat 4) 30016 (overL (overL (List.replicate 30016 [Cell.int .u8 0]) (0 + 0) (bigF (Int.toNat 8) g)) (0 + (0 + Int.toNat 8)) (bigF (Int.toNat 4) (IntKind.wrap .u64 o))) (Int.toNat 4)))
     (cond (inB ((((0 + Int.toNat 8) + Int.toNat 4) + Int.toNat 4) : Int) 30017)
      (cond (Nat.blt 0 z1.length)
       (cond (Nat.ble ((0 + z2) + (30016 - z2)) z1.length)
        (cond (inB (IntKind.wrap .i64 (((((0 + Int.toNat 8) + Int.toNat 4) + Int.toNat 4) : Int) + ((minN (30016 - z2) x.length) : Int))) 30017)
         (cond (okWb 0 (Int.toNat (IntKind.wrap .i64 (((((0 + Int.toNat 8) + Int.toNat 4) + Int.toNat 4) : Int) + ((minN (30016 - z2) x.length) : Int)))) (overL z1 (0 + z2) (takeN x (minN (30016 - z2) x.length))))
          (some ([.one (.int .u32 (crcS (subL (overL z1 (0 + z2) (takeN x (minN (30016 - z2) x.length))) 0 (0 + (Int.toNat (IntKind.wrap .i64 (((((0 + Int.toNat 8) + Int.toNat 4) + Int.toNat 4) : Int) + ((minN (30016 - z2) x.length) : Int))))))))], []))
          none)
         none)
        none)
       none)
      none)
     none)
    none)
   none) := by kernel_rfl

/- elasticstore/wal.appendRecord -/
theorem e63 (m : Nat) (g : Int) (o : Int) (y : List (List Cell)) : runF E (callOf L77) (m + 1) 63 [.one (.nils), .one (.int .u64 g), .one (.int .i64 o), .one (.sl false 5 y)] [] =
  (cond (okV (IntKind.wrap .u64 (y.length : Int)) && (okSz 4 && okMx (([] : List (List Cell)).length + [[Cell.int .u8 229]].length) (([] : List (List Cell)) ++ [[Cell.int .u8 229]])))
   (cond (Nat.beq ((([] : List (List Cell)) ++ [[Cell.int .u8 229]]).length + Int.toNat 4) ((([] : List (List Cell)) ++ [[Cell.int .u8 229]]) ++ bigF (Int.toNat 4) (IntKind.wrap .u64 (y.length : Int))).length)
    (cond (fits (((([] : List (List Cell)) ++ [[Cell.int .u8 229]]) ++ bigF (Int.toNat 4) (IntKind.wrap .u64 (y.length : Int))).length + y.length))
     (cond (okV g && okRx o y)
      (cond (okV (IntKind.wrap .u64 (wSum g o y)) && (okSz 4 && okMx (((([] : List (List Cell)) ++ [[Cell.int .u8 229]]) ++ bigF (Int.toNat 4) (IntKind.wrap .u64 (y.length : Int))).length + y.length) (((([] : List (List Cell)) ++ [[Cell.int .u8 229]]) ++ bigF (Int.toNat 4) (IntKind.wrap .u64 (y.length : Int))) ++ y)))
       (cond (Nat.beq ((((([] : List (List Cell)) ++ [[Cell.int .u8 229]]) ++ bigF (Int.toNat 4) (IntKind.wrap .u64 (y.length : Int))) ++ y).length + Int.toNat 4) ((((([] : List (List Cell)) ++ [[Cell.int .u8 229]]) ++ bigF (Int.toNat 4) (IntKind.wrap .u64 (y.length : Int))) ++ y) ++ bigF (Int.toNat 4) (IntKind.wrap .u64 (wSum g o y))).length)
        (cond (fits (((((([] : List (List Cell)) ++ [[Cell.int .u8 229]]) ++ bigF (Int.toNat 4) (IntKind.wrap .u64 (y.length : Int))) ++ y) ++ bigF (Int.toNat 4) (IntKind.wrap .u64 (wSum g o y))).length + [[Cell.int .u8 255]].length))
         (some ([.one (.msl 5 0 (((((([] : List (List Cell)) ++ [[Cell.int .u8 229]]) ++ bigF (Int.toNat 4) (IntKind.wrap .u64 (y.length : Int))) ++ y) ++ bigF (Int.toNat 4) (IntKind.wrap .u64 (wSum g o y))).length + [[Cell.int .u8 255]].length))], [.arr 5 (((((([] : List (List Cell)) ++ [[Cell.int .u8 229]]) ++ bigF (Int.toNat 4) (IntKind.wrap .u64 (y.length : Int))) ++ y) ++ bigF (Int.toNat 4) (IntKind.wrap .u64 (wSum g o y))) ++ [[Cell.int .u8 255]])]))
         none)
        none)
       none)
      none)
     none)
    none)
   none) := by kernel_rfl
theorem e63_c1 (m : Nat) (un : Nat) (g : Int) (o : Int) (y : List (List Cell)) (x : List (List Cell)) : runF E (callOf L77) (m + 1) 63 [.one (.msl 5 0 un), .one (.int .u64 g), .one (.int .i64 o), .one (.sl false 5 y)] [.arr 5 x] =
  (cond (Nat.beq un x.length)
   (cond (fits (x.length + [[Cell.int .u8 229]].length))
    (cond (okV (IntKind.wrap .u64 (y.length : Int)) && (okSz 4 && okMx (x.length + [[Cell.int .u8 229]].length) (x ++ [[Cell.int .u8 229]])))
     (cond (Nat.beq ((x ++ [[Cell.int .u8 229]]).length + Int.toNat 4) ((x ++ [[Cell.int .u8 229]]) ++ bigF (Int.toNat 4) (IntKind.wrap .u64 (y.length : Int))).length)
      (cond (fits (((x ++ [[Cell.int .u8 229]]) ++ bigF (Int.toNat 4) (IntKind.wrap .u64 (y.length : Int))).length + y.length))
       (cond (okV g && okRx o y)
        (cond (okV (IntKind.wrap .u64 (wSum g o y)) && (okSz 4 && okMx (((x ++ [[Cell.int .u8 229]]) ++ bigF (Int.toNat 4) (IntKind.wrap .u64 (y.length : Int))).length + y.length) (((x ++ [[Cell.int .u8 229]]) ++ bigF (Int.toNat 4) (IntKind.wrap .u64 (y.length : Int))) ++ y)))
         (cond (Nat.beq ((((x ++ [[Cell.int .u8 229]]) ++ bigF (Int.toNat 4) (IntKind.wrap .u64 (y.length : Int))) ++ y).length + Int.toNat 4) ((((x ++ [[Cell.int .u8 229]]) ++ bigF (Int.toNat 4) (IntKind.wrap .u64 (y.length : Int))) ++ y) ++ bigF (Int.toNat 4) (IntKind.wrap .u64 (wSum g o y))).length)
          (cond (fits (((((x ++ [[Cell.int .u8 229]]) ++ bigF (Int.toNat 4) (IntKind.wrap .u64 (y.length : Int))) ++ y) ++ bigF (Int.toNat 4) (IntKind.wrap .u64 (wSum g o y))).length + [[Cell.int .u8 255]].length))
           (some ([.one (.msl 5 1 (((((x ++ [[Cell.int .u8 229]]) ++ bigF (Int.toNat 4) (IntKind.wrap .u64 (y.length : Int))) ++ y) ++ bigF (Int.toNat 4) (IntKind.wrap .u64 (wSum g o y))).length + [[Cell.int .u8 255]].length))], [.dead, .arr 5 (((((x ++ [[Cell.int .u8 229]]) ++ bigF (Int.toNat 4) (IntKind.wrap .u64 (y.length : Int))) ++ y) ++ bigF (Int.toNat 4) (IntKind.wrap .u64 (wSum g o y))) ++ [[Cell.int .u8 255]])]))
           none)
          none)
         none)
        none)
       none)
      none)
     none)
    none)
   none) := by kernel_rfl

/- elasticstore/wal.recordAt -/
theorem e74 (m : Nat) (x : List (List Cell)) (g : Int) (o : Int) : runF E (callOf L63) (m + 1) 74 [.one (.sl false 5 x), .one (.int .u64 g), .one (.int .i64 o)] [] =
  let z1 := IntKind.wrap .i64 (numF 0 (subL (dropN x (Int.toNat o)) 1 5))
  let z2 := IntKind.wrap .i64 (5 + z1)
  (cond (inB o (x.length + 1))
   (cond (decide (((dropN x (Int.toNat o)).length : Int) ≤ 10))
    (some ([.one (.sl false 5 ([] : List (List Cell))), .one (.bool false)], []))
    (cond (inB 0 (dropN x (Int.toNat o)).length)
     (cond ((nr (Abs.rowAt (dropN x (Int.toNat o)) 0) 0) != 229)
      (some ([.one (.sl false 5 ([] : List (List Cell))), .one (.bool false)], []))
      (cond (inB 5 ((dropN x (Int.toNat o)).length + 1))
       (cond (okB (subL (dropN x (Int.toNat o)) 1 5) && pd ((subL (dropN x (Int.toNat o)) 1 5).length ≤ 8))
        (cond (decide ((numF 0 (subL (dropN x (Int.toNat o)) 1 5)) < 1))
         (some ([.one (.sl false 5 ([] : List (List Cell))), .one (.bool false)], []))
         (cond (decide ((numF 0 (subL (dropN x (Int.toNat o)) 1 5)) > 30000))
          (some ([.one (.sl false 5 ([] : List (List Cell))), .one (.bool false)], []))
          (cond (decide (z1 > (IntKind.wrap .i64 (((dropN x (Int.toNat o)).length : Int) - 10))))
           (some ([.one (.sl false 5 ([] : List (List Cell))), .one (.bool false)], []))
           (cond (inB z2 ((dropN x (Int.toNat o)).length + 1))
            (cond (inB 5 ((Int.toNat z2) + 1))
             (cond (fits (([] : List (List Cell)).length + (subL (dropN x (Int.toNat o)) 5 (Int.toNat z2)).length))
              (cond (inB (IntKind.wrap .i64 (z2 + 4)) ((dropN x (Int.toNat o)).length + 1))
               (cond (inB z2 ((Int.toNat (IntKind.wrap .i64 (z2 + 4))) + 1))
                (cond (okB (subL (dropN x (Int.toNat o)) (Int.toNat z2) (Int.toNat (IntKind.wrap .i64 (z2 + 4)))) && pd ((subL (dropN x (Int.toNat o)) (Int.toNat z2) (Int.toNat (IntKind.wrap .i64 (z2 + 4)))).length ≤ 8))
                 (cond (okV g && okRx o (([] : List (List Cell)) ++ (subL (dropN x (Int.toNat o)) 5 (Int.toNat z2))))
                  (cond ((numF 0 (subL (dropN x (Int.toNat o)) (Int.toNat z2) (Int.toNat (IntKind.wrap .i64 (z2 + 4))))) == (IntKind.wrap .u64 (wSum g o (([] : List (List Cell)) ++ (subL (dropN x (Int.toNat o)) 5 (Int.toNat z2))))))
                   (cond (inB (IntKind.wrap .i64 (z2 + 4)) (dropN x (Int.toNat o)).length)
                    (some ([.one (.sl false 5 (([] : List (List Cell)) ++ (subL (dropN x (Int.toNat o)) 5 (Int.toNat z2)))), .one (.bool ((nr (Abs.rowAt (dropN x (Int.toNat o)) (Int.toNat (IntKind.wrap .i64 (z2 + 4)))) 0) == 255))], []))
                    none)
                   (some ([.one (.sl false 5 (([] : List (List Cell)) ++ (subL (dropN x (Int.toNat o)) 5 (Int.toNat z2)))), .one (.bool false)], [])))
                  none)
                 none)
                none)
               none)
              none)
             none)
            none))))
        none)
       none))
     none))
   none) := by kernel_rfl

/- elasticstore/wal.scan -/
noncomputable def P52_0 : List AItem := F52.at [.snd, .snd, .snd, .sub, .head]
def M52_0 (t0 : List (List Cell)) (t1 : Int) (t6 : List (List Cell)) (t7 : Int) : St := ⟨[(0, .one (.sl false 5 t0)), (1, .one (.int .u64 t1)), (6, .one (.sl true 22 t6)), (7, .one (.int .i64 t7))], []⟩
theorem e52 (m : Nat) (x : List (List Cell)) (g : Int) : runF E (callOf L74) (m + 1) 52 [.one (.sl false 5 x), .one (.int .u64 g)] [] =
  (goF E (callOf L74) F52 0 m P52_0 (M52_0 x g ([] : List (List Cell)) 0)) := by kernel_rfl
theorem e52_0 (m : Nat) (t0 : List (List Cell)) (t1 : Int) (t6 : List (List Cell)) (t7 : Int) : goF E (callOf L74) F52 0 (m + 1) P52_0 (M52_0 t0 t1 t6 t7) =
  (cond (okV t1 && (okBl t0 && (pd ((0 : Int) ≤ t7) && pd (t7 ≤ (t0.length : Int)))))
   (cond (!(recB t1 t7 (t0.drop (Int.toNat t7))).2)
    (some ([.one (.sl true 22 t6), .one (.int .i64 t7)], []))
    (cond (fits (t6.length + [[Cell.slice 5 (recB t1 t7 (t0.drop (Int.toNat t7))).1]].length))
     (goF E (callOf L74) F52 0 m P52_0 (M52_0 t0 t1 (t6 ++ [[Cell.slice 5 (recB t1 t7 (t0.drop (Int.toNat t7))).1]]) (IntKind.wrap .i64 (t7 + (IntKind.wrap .i64 (((recB t1 t7 (t0.drop (Int.toNat t7))).1.length : Int) + 10))))))
     none))
   none) := by kernel_rfl

/- elasticstore/wal.isZero -/
noncomputable def P49_0 : List AItem := F49.at [.snd, .fst, .snd, .sub, .head]
def M49_0 (t5 : List (List Cell)) (t6 : Int) (t7 : Int) : St := ⟨[(5, .one (.sl false 5 t5)), (6, .one (.int .i64 t6)), (7, .one (.int .i64 t7))], []⟩
theorem e49 (m : Nat) (x : List (List Cell)) : runF E (callOf L52) (m + 1) 49 [.one (.sl false 5 x)] [] =
  (goF E (callOf L52) F49 0 m P49_0 (M49_0 x (x.length : Int) 0)) := by kernel_rfl
theorem e49_0 (m : Nat) (t5 : List (List Cell)) (t6 : Int) (t7 : Int) : goF E (callOf L52) F49 0 (m + 1) P49_0 (M49_0 t5 t6 t7) =
  (cond (decide (t7 < t6))
   (cond (inB t7 t5.length)
    (cond ((nr (Abs.rowAt t5 (Int.toNat t7)) 0) != 0)
     (some ([.one (.bool false)], []))
     (goF E (callOf L52) F49 0 m P49_0 (M49_0 t5 t6 (IntKind.wrap .i64 (t7 + 1)))))
    none)
   (some ([.one (.bool true)], []))) := by kernel_rfl

/- elasticstore/disk.New -/
theorem e12 (m : Nat) (n : Int) : runF E (callOf L49) (m + 1) 12 [.one (.int .i64 n)] [] =
  let z1 := IntKind.wrap .i64 ((if (if 2048 < n then 2048 else n) > 1 then (if 2048 < n then 2048 else n) else 1) * 32)
  let z2 := List.replicate (Int.toNat z1) [Cell.int .u8 0]
  let z3 := Nat.blt 0 (Int.toNat z1)
  (sameO (sameO (cond (okMake z1 z1)
     (cond z3
      (cond (okMake z1 z1)
       (cond z3
        (some ([.one (.ptr 0 0)], [.var [.msl 5 1 (Int.toNat z1), .msl 5 2 (Int.toNat z1), .sl true 85 ([] : List (List Cell)), .bool false, .int .i64 0, .bool false], .arr 5 z2, .arr 5 z2]))
        none)
       none)
      none)
     none)
    (sameO (cond (okMake z1 z1)
      (cond z3
       (cond (okMake z1 z1)
        (cond z3
         (some ([.one (.ptr 0 0)], [.var [.msl 5 1 (Int.toNat z1), .msl 5 2 (Int.toNat z1), .sl true 85 ([] : List (List Cell)), .bool false, .int .i64 0, .bool false], .arr 5 z2, .arr 5 z2]))
         none)
        none)
       none)
      none)
     (cond (okMake z1 z1)
      (cond z3
       (cond (okMake z1 z1)
        (cond z3
         (some ([.one (.ptr 0 0)], [.var [.msl 5 1 (Int.toNat z1), .msl 5 2 (Int.toNat z1), .sl true 85 ([] : List (List Cell)), .bool false, .int .i64 0, .bool false], .arr 5 z2, .arr 5 z2]))
         none)
        none)
       none)
      none)))
   (sameO (sameO (cond (okMake z1 z1)
      (cond z3
       (cond (okMake z1 z1)
        (cond z3
         (some ([.one (.ptr 0 0)], [.var [.msl 5 1 (Int.toNat z1), .msl 5 2 (Int.toNat z1), .sl true 85 ([] : List (List Cell)), .bool false, .int .i64 0, .bool false], .arr 5 z2, .arr 5 z2]))
         none)
        none)
       none)
      none)
     (cond (okMake z1 z1)
      (cond z3
       (cond (okMake z1 z1)
        (cond z3
         (some ([.one (.ptr 0 0)], [.var [.msl 5 1 (Int.toNat z1), .msl 5 2 (Int.toNat z1), .sl true 85 ([] : List (List Cell)), .bool false, .int .i64 0, .bool false], .arr 5 z2, .arr 5 z2]))
         none)
        none)
       none)
      none))
    (cond (okMake z1 z1)
     (cond z3
      (cond (okMake z1 z1)
       (cond z3
        (some ([.one (.ptr 0 0)], [.var [.msl 5 1 (Int.toNat z1), .msl 5 2 (Int.toNat z1), .sl true 85 ([] : List (List Cell)), .bool false, .int .i64 0, .bool false], .arr 5 z2, .arr 5 z2]))
        none)
       none)
      none)
     none))) := by kernel_rfl

/- (*elasticstore/disk.Disk).Sectors -/
theorem e32 (m : Nat) (un : Nat) (cn : Nat) (qu : List (List Cell)) (am : Bool) (lf : Int) (dn : Bool) (du : List (List Cell)) (cu : List (List Cell)) : runF E (callOf L12) (m + 1) 32 [.one (.ptr 0 0)] [.var [.msl 5 1 un, .msl 5 2 cn, .sl true 85 qu, .bool am, .int .i64 lf, .bool dn], .arr 5 du, .arr 5 cu] =
  (some ([.one (.int .i64 (IntKind.wrap .i64 (Int.tdiv (un : Int) 32)))], [.var [.msl 5 1 un, .msl 5 2 cn, .sl true 85 qu, .bool am, .int .i64 lf, .bool dn], .arr 5 du, .arr 5 cu])) := by kernel_rfl
theorem e32_c1 (m : Nat)  : runF E (callOf L12) (m + 1) 32 [.one (.nilp)] [] =
  (some ([.one (.int .i64 0)], [])) := by kernel_rfl

/- (*elasticstore/disk.Disk).Down -/
theorem e38 (m : Nat) (un : Nat) (cn : Nat) (qu : List (List Cell)) (am : Bool) (lf : Int) (dn : Bool) (du : List (List Cell)) (cu : List (List Cell)) : runF E (callOf L32) (m + 1) 38 [.one (.ptr 0 0)] [.var [.msl 5 1 un, .msl 5 2 cn, .sl true 85 qu, .bool am, .int .i64 lf, .bool dn], .arr 5 du, .arr 5 cu] =
  (some ([.one (.bool dn)], [.var [.msl 5 1 un, .msl 5 2 cn, .sl true 85 qu, .bool am, .int .i64 lf, .bool dn], .arr 5 du, .arr 5 cu])) := by kernel_rfl

/- (*elasticstore/disk.Disk).check -/
theorem e44 (m : Nat) (o : Int) (k : Int) (un : Nat) (cn : Nat) (qu : List (List Cell)) (am : Bool) (lf : Int) (dn : Bool) (du : List (List Cell)) (cu : List (List Cell)) : runF E (callOf L38) (m + 1) 44 [.one (.ptr 0 0), .one (.int .i64 o), .one (.int .i64 k)] [.var [.msl 5 1 un, .msl 5 2 cn, .sl true 85 qu, .bool am, .int .i64 lf, .bool dn], .arr 5 du, .arr 5 cu] =
  (cond dn
   (some ([.one (.int .i64 15)], [.var [.msl 5 1 un, .msl 5 2 cn, .sl true 85 qu, .bool am, .int .i64 lf, .bool dn], .arr 5 du, .arr 5 cu]))
   (cond (decide (o < 0))
    (some ([.one (.int .i64 9)], [.var [.msl 5 1 un, .msl 5 2 cn, .sl true 85 qu, .bool am, .int .i64 lf, .bool dn], .arr 5 du, .arr 5 cu]))
    (cond (decide (k < 0))
     (some ([.one (.int .i64 9)], [.var [.msl 5 1 un, .msl 5 2 cn, .sl true 85 qu, .bool am, .int .i64 lf, .bool dn], .arr 5 du, .arr 5 cu]))
     (cond (decide (o > (cn : Int)))
      (some ([.one (.int .i64 9)], [.var [.msl 5 1 un, .msl 5 2 cn, .sl true 85 qu, .bool am, .int .i64 lf, .bool dn], .arr 5 du, .arr 5 cu]))
      (cond (decide (k > (IntKind.wrap .i64 ((cn : Int) - o))))
       (some ([.one (.int .i64 9)], [.var [.msl 5 1 un, .msl 5 2 cn, .sl true 85 qu, .bool am, .int .i64 lf, .bool dn], .arr 5 du, .arr 5 cu]))
       (some ([.one (.int .i64 0)], [.var [.msl 5 1 un, .msl 5 2 cn, .sl true 85 qu, .bool am, .int .i64 lf, .bool dn], .arr 5 du, .arr 5 cu]))))))) := by kernel_rfl

/- (*elasticstore/disk.Disk).Read -/
theorem e35 (m : Nat) (o : Int) (k : Int) (un : Nat) (cn : Nat) (qu : List (List Cell)) (am : Bool) (lf : Int) (dn : Bool) (du : List (List Cell)) (cu : List (List Cell)) : runF E (callOf L44) (m + 1) 35 [.one (.ptr 0 0), .one (.int .i64 o), .one (.int .i64 k)] [.var [.msl 5 1 un, .msl 5 2 cn, .sl true 85 qu, .bool am, .int .i64 lf, .bool dn], .arr 5 du, .arr 5 cu] =
  (cond (okDk un cn (Dk.mk du cu qu am lf dn))
   (cond ((Dk.chk (Dk.mk du cu qu am lf dn) o k) != 0)
    (some ([.one (.sl false 5 ([] : List (List Cell))), .one (.int .i64 (Dk.chk (Dk.mk du cu qu am lf dn) o k))], [.var [.msl 5 1 un, .msl 5 2 cn, .sl true 85 qu, .bool am, .int .i64 lf, .bool dn], .arr 5 du, .arr 5 cu]))
    (cond (Nat.blt 0 cn)
     (cond (inB (IntKind.wrap .i64 (o + k)) (cn + 1))
      (cond (inB o ((Int.toNat (IntKind.wrap .i64 (o + k))) + 1))
       (cond (Nat.ble ((0 + (Int.toNat o)) + ((Int.toNat (IntKind.wrap .i64 (o + k))) - (Int.toNat o))) cu.length)
        (cond (fits (([] : List (List Cell)).length + (subL cu (0 + (Int.toNat o)) ((0 + (Int.toNat o)) + ((Int.toNat (IntKind.wrap .i64 (o + k))) - (Int.toNat o)))).length))
         (some ([.one (.sl false 5 (([] : List (List Cell)) ++ (subL cu (0 + (Int.toNat o)) ((0 + (Int.toNat o)) + ((Int.toNat (IntKind.wrap .i64 (o + k))) - (Int.toNat o)))))), .one (.int .i64 0)], [.var [.msl 5 1 un, .msl 5 2 cn, .sl true 85 qu, .bool am, .int .i64 lf, .bool dn], .arr 5 du, .arr 5 cu]))
         none)
        none)
       none)
      none)
     none))
   none) := by kernel_rfl

/- (*elasticstore/disk.Disk).Write -/
noncomputable def P36_0 : List AItem := F36.at [.snd, .snd, .fst, .sub, .head]
def M36_0 (t1 : Int) (t2 : List (List Cell)) (b0 : Nat) (b0_1 : Nat) (b0_2 : List (List Cell)) (b0_3 : Bool) (b0_4 : Int) (b0_5 : Bool) (b1 : List (List Cell)) (b2 : List (List Cell)) : St := ⟨[(0, .one (.ptr 0 0)), (1, .one (.int .i64 t1)), (2, .one (.sl false 5 t2))], [.var [.msl 5 1 b0, .msl 5 2 b0_1, .sl true 85 b0_2, .bool b0_3, .int .i64 b0_4, .bool b0_5], .arr 5 b1, .arr 5 b2]⟩
theorem e36 (m : Nat) (o : Int) (x : List (List Cell)) (un : Nat) (cn : Nat) (qu : List (List Cell)) (am : Bool) (lf : Int) (dn : Bool) (du : List (List Cell)) (cu : List (List Cell)) : runF E (callOf L35) (m + 1) 36 [.one (.ptr 0 0), .one (.int .i64 o), .one (.sl false 5 x)] [.var [.msl 5 1 un, .msl 5 2 cn, .sl true 85 qu, .bool am, .int .i64 lf, .bool dn], .arr 5 du, .arr 5 cu] =
  (cond (okDk un cn (Dk.mk du cu qu am lf dn))
   (cond ((Dk.chk (Dk.mk du cu qu am lf dn) o (x.length : Int)) != 0)
    (some ([.one (.int .i64 (Dk.chk (Dk.mk du cu qu am lf dn) o (x.length : Int)))], [.var [.msl 5 1 un, .msl 5 2 cn, .sl true 85 qu, .bool am, .int .i64 lf, .bool dn], .arr 5 du, .arr 5 cu]))
    (goF E (callOf L35) F36 3 m P36_0 (M36_0 o x un cn qu am lf dn du cu)))
   none) := by kernel_rfl
theorem e36_0 (m : Nat) (t1 : Int) (t2 : List (List Cell)) (b0 : Nat) (b0_1 : Nat) (b0_2 : List (List Cell)) (b0_3 : Bool) (b0_4 : Int) (b0_5 : Bool) (b1 : List (List Cell)) (b2 : List (List Cell)) : goF E (callOf L35) F36 3 (m + 1) P36_0 (M36_0 t1 t2 b0 b0_1 b0_2 b0_3 b0_4 b0_5 b1 b2) =
  let z1 := IntKind.wrap .i64 (32 - (Int.tmod t1 32))
  let z2 := IntKind.wrap .i64 (t1 + (if z1 < (t2.length : Int) then z1 else (t2.length : Int)))
  let z3 := Int.toNat (if z1 < (t2.length : Int) then z1 else (t2.length : Int))
  let z4 := fits (b0_2.length + [[Cell.int .i64 t1, Cell.slice 5 (([] : List (List Cell)) ++ (takeN t2 z3))]].length)
  let z5 := overL b2 (0 + (Int.toNat t1)) (takeN t2 (minN ((Int.toNat z2) - (Int.toNat t1)) t2.length))
  let z6 := Nat.ble ((0 + (Int.toNat t1)) + ((Int.toNat z2) - (Int.toNat t1))) b2.length
  (cond (decide ((t2.length : Int) > 0))
   (cond b0_3
    (cond (b0_4 == 0)
     (some ([.one (.int .i64 15)], [.var [.msl 5 1 b0, .msl 5 2 b0_1, .sl true 85 b0_2, .bool b0_3, .int .i64 b0_4, .bool true], .arr 5 b1, .arr 5 b2]))
     (cond b0_3
      (cond (Nat.blt 0 b0_1)
       (cond (inB z2 (b0_1 + 1))
        (cond (decide (z2 = z2))
         (cond (inB t1 ((Int.toNat z2) + 1))
          (cond (Nat.blt 0 b2.length)
           (cond z6
            (cond (inB (if z1 < (t2.length : Int) then z1 else (t2.length : Int)) (t2.length + 1))
             (cond (fits (([] : List (List Cell)).length + (takeN t2 z3).length))
              (cond z4
               (cond (inB (if z1 < (t2.length : Int) then z1 else (t2.length : Int)) (t2.length + 1))
                (goF E (callOf L35) F36 3 m P36_0 (M36_0 z2 (dropN t2 z3) b0 b0_1 (b0_2 ++ [[Cell.int .i64 t1, Cell.slice 5 (([] : List (List Cell)) ++ (takeN t2 z3))]]) b0_3 (IntKind.wrap .i64 (b0_4 - 1)) b0_5 b1 z5))
                none)
               none)
              none)
             none)
            none)
           none)
          none)
         none)
        none)
       none)
      (cond (Nat.blt 0 b0_1)
       (cond (inB z2 (b0_1 + 1))
        (cond (decide (z2 = z2))
         (cond (inB t1 ((Int.toNat z2) + 1))
          (cond (Nat.blt 0 b2.length)
           (cond z6
            (cond (inB (if z1 < (t2.length : Int) then z1 else (t2.length : Int)) (t2.length + 1))
             (cond (fits (([] : List (List Cell)).length + (takeN t2 z3).length))
              (cond z4
               (cond (inB (if z1 < (t2.length : Int) then z1 else (t2.length : Int)) (t2.length + 1))
                (goF E (callOf L35) F36 3 m P36_0 (M36_0 z2 (dropN t2 z3) b0 b0_1 (b0_2 ++ [[Cell.int .i64 t1, Cell.slice 5 (([] : List (List Cell)) ++ (takeN t2 z3))]]) b0_3 b0_4 b0_5 b1 z5))
                none)
               none)
              none)
             none)
            none)
           none)
          none)
         none)
        none)
       none)))
    (cond b0_3
     (cond (Nat.blt 0 b0_1)
      (cond (inB z2 (b0_1 + 1))
       (cond (decide (z2 = z2))
        (cond (inB t1 ((Int.toNat z2) + 1))
         (cond (Nat.blt 0 b2.length)
          (cond z6
           (cond (inB (if z1 < (t2.length : Int) then z1 else (t2.length : Int)) (t2.length + 1))
            (cond (fits (([] : List (List Cell)).length + (takeN t2 z3).length))
             (cond z4
              (cond (inB (if z1 < (t2.length : Int) then z1 else (t2.length : Int)) (t2.length + 1))
               (goF E (callOf L35) F36 3 m P36_0 (M36_0 z2 (dropN t2 z3) b0 b0_1 (b0_2 ++ [[Cell.int .i64 t1, Cell.slice 5 (([] : List (List Cell)) ++ (takeN t2 z3))]]) b0_3 (IntKind.wrap .i64 (b0_4 - 1)) b0_5 b1 z5))
               none)
              none)
             none)
            none)
           none)
          none)
         none)
        none)
       none)
      none)
     (cond (Nat.blt 0 b0_1)
      (cond (inB z2 (b0_1 + 1))
       (cond (decide (z2 = z2))
        (cond (inB t1 ((Int.toNat z2) + 1))
         (cond (Nat.blt 0 b2.length)
          (cond z6
           (cond (inB (if z1 < (t2.length : Int) then z1 else (t2.length : Int)) (t2.length + 1))
            (cond (fits (([] : List (List Cell)).length + (takeN t2 z3).length))
             (cond z4
              (cond (inB (if z1 < (t2.length : Int) then z1 else (t2.length : Int)) (t2.length + 1))
               (goF E (callOf L35) F36 3 m P36_0 (M36_0 z2 (dropN t2 z3) b0 b0_1 (b0_2 ++ [[Cell.int .i64 t1, Cell.slice 5 (([] : List (List Cell)) ++ (takeN t2 z3))]]) b0_3 b0_4 b0_5 b1 z5))
               none)
              none)
             none)
            none)
           none)
          none)
         none)
        none)
       none)
      none)))
   (some ([.one (.int .i64 0)], [.var [.msl 5 1 b0, .msl 5 2 b0_1, .sl true 85 b0_2, .bool b0_3, .int .i64 b0_4, .bool b0_5], .arr 5 b1, .arr 5 b2]))) := by kernel_rfl

/- (*elasticstore/disk.Disk).Sync -/
noncomputable def P20_0 : List AItem := F20.at [.snd, .snd, .fst, .snd, .sub, .head]
def M20_0 (t14 : List (List Cell)) (t15 : Int) (t16 : Int) (b0 : Nat) (b0_1 : Nat) (b0_2 : List (List Cell)) (b0_3 : Bool) (b0_4 : Int) (b0_5 : Bool) (b1 : List (List Cell)) (b2 : List (List Cell)) : St := ⟨[(0, .one (.ptr 0 0)), (14, .one (.sl false 85 t14)), (15, .one (.int .i64 t15)), (16, .one (.int .i64 t16))], [.var [.msl 5 1 b0, .msl 5 2 b0_1, .sl true 85 b0_2, .bool b0_3, .int .i64 b0_4, .bool b0_5], .arr 5 b1, .arr 5 b2]⟩
theorem e20 (m : Nat) (un : Nat) (cn : Nat) (qu : List (List Cell)) (am : Bool) (lf : Int) (dn : Bool) (du : List (List Cell)) (cu : List (List Cell)) : runF E (callOf L36) (m + 1) 20 [.one (.ptr 0 0)] [.var [.msl 5 1 un, .msl 5 2 cn, .sl true 85 qu, .bool am, .int .i64 lf, .bool dn], .arr 5 du, .arr 5 cu] =
  (cond (okDk un cn (Dk.mk du cu qu am lf dn))
   (cond ((Dk.chk (Dk.mk du cu qu am lf dn) 0 0) != 0)
    (some ([.one (.int .i64 (Dk.chk (Dk.mk du cu qu am lf dn) 0 0))], [.var [.msl 5 1 un, .msl 5 2 cn, .sl true 85 qu, .bool am, .int .i64 lf, .bool dn], .arr 5 du, .arr 5 cu]))
    (goF E (callOf L36) F20 3 m P20_0 (M20_0 qu (qu.length : Int) 0 un cn qu am lf dn du cu)))
   none) := by kernel_rfl
theorem e20_0 (m : Nat) (t14 : List (List Cell)) (t15 : Int) (t16 : Int) (b0 : Nat) (b0_1 : Nat) (b0_2 : List (List Cell)) (b0_3 : Bool) (b0_4 : Int) (b0_5 : Bool) (b1 : List (List Cell)) (b2 : List (List Cell)) : goF E (callOf L36) F20 3 (m + 1) P20_0 (M20_0 t14 t15 t16 b0 b0_1 b0_2 b0_3 b0_4 b0_5 b1 b2) =
  (cond (decide (t16 < t15))
   (cond (inB t16 t14.length)
    (cond (Nat.blt 0 b0)
     (cond (inB (nr (Abs.rowAt t14 (Int.toNat t16)) 0) (b0 + 1))
      (cond (Nat.blt 0 b1.length)
       (cond (Nat.ble ((0 + (Int.toNat (nr (Abs.rowAt t14 (Int.toNat t16)) 0))) + (b0 - (Int.toNat (nr (Abs.rowAt t14 (Int.toNat t16)) 0)))) b1.length)
        (goF E (callOf L36) F20 3 m P20_0 (M20_0 t14 t15 (IntKind.wrap .i64 (t16 + 1)) b0 b0_1 b0_2 b0_3 b0_4 b0_5 (overL b1 (0 + (Int.toNat (nr (Abs.rowAt t14 (Int.toNat t16)) 0))) (takeN (nl (Abs.rowAt t14 (Int.toNat t16)) 1) (minN (b0 - (Int.toNat (nr (Abs.rowAt t14 (Int.toNat t16)) 0))) (nl (Abs.rowAt t14 (Int.toNat t16)) 1).length))) b2))
        none)
       none)
      none)
     none)
    none)
   (some ([.one (.int .i64 0)], [.var [.msl 5 1 b0, .msl 5 2 b0_1, .sl true 85 ([] : List (List Cell)), .bool b0_3, .int .i64 b0_4, .bool b0_5], .arr 5 b1, .arr 5 b2]))) := by kernel_rfl

/- (*elasticstore/disk.Disk).FailAfter -/
theorem e39 (m : Nat) (k : Int) (un : Nat) (cn : Nat) (qu : List (List Cell)) (am : Bool) (lf : Int) (dn : Bool) (du : List (List Cell)) (cu : List (List Cell)) : runF E (callOf L20) (m + 1) 39 [.one (.ptr 0 0), .one (.int .i64 k)] [.var [.msl 5 1 un, .msl 5 2 cn, .sl true 85 qu, .bool am, .int .i64 lf, .bool dn], .arr 5 du, .arr 5 cu] =
  (cond dn
   (some ([], [.var [.msl 5 1 un, .msl 5 2 cn, .sl true 85 qu, .bool am, .int .i64 lf, .bool dn], .arr 5 du, .arr 5 cu]))
   (some ([], [.var [.msl 5 1 un, .msl 5 2 cn, .sl true 85 qu, .bool true, .int .i64 (if 0 > k then 0 else k), .bool dn], .arr 5 du, .arr 5 cu]))) := by kernel_rfl

/- (*elasticstore/disk.Disk).Crash -/
noncomputable def P40_0 : List AItem := F40.at [.snd, .snd, .snd, .fst, .snd, .sub, .head]
def M40_0 (t4 : Int) (t24 : List (List Cell)) (t25 : Int) (t26 : Int) (b0 : Nat) (b0_1 : Nat) (b0_2 : List (List Cell)) (b0_3 : Bool) (b0_4 : Int) (b0_5 : Bool) (b1 : List (List Cell)) (b2 : List (List Cell)) (b3 : Int) (b3_1 : Int) : St := ⟨[(0, .one (.ptr 0 0)), (3, .one (.ptr 3 0)), (4, .one (.int .i64 t4)), (24, .one (.sl false 85 t24)), (25, .one (.int .i64 t25)), (26, .one (.int .i64 t26))], [.var [.msl 5 1 b0, .msl 5 2 b0_1, .sl true 85 b0_2, .bool b0_3, .int .i64 b0_4, .bool b0_5], .arr 5 b1, .arr 5 b2, .var [.int .i64 b3, .int .i64 b3_1]]⟩
theorem e40 (m : Nat) (k : Int) (t : Int) (un : Nat) (cn : Nat) (qu : List (List Cell)) (am : Bool) (lf : Int) (dn : Bool) (du : List (List Cell)) (cu : List (List Cell)) : runF E (callOf L39) (m + 1) 40 [.one (.ptr 0 0), .agg [.int .i64 k, .int .i64 t]] [.var [.msl 5 1 un, .msl 5 2 cn, .sl true 85 qu, .bool am, .int .i64 lf, .bool dn], .arr 5 du, .arr 5 cu] =
  (cond (inB (if (if (qu.length : Int) < k then (qu.length : Int) else k) > 0 then (if (qu.length : Int) < k then (qu.length : Int) else k) else 0) (qu.length + 1))
   (goF E (callOf L39) F40 3 m P40_0 (M40_0 (if (if (qu.length : Int) < k then (qu.length : Int) else k) > 0 then (if (qu.length : Int) < k then (qu.length : Int) else k) else 0) (takeN qu (Int.toNat (if (if (qu.length : Int) < k then (qu.length : Int) else k) > 0 then (if (qu.length : Int) < k then (qu.length : Int) else k) else 0))) ((takeN qu (Int.toNat (if (if (qu.length : Int) < k then (qu.length : Int) else k) > 0 then (if (qu.length : Int) < k then (qu.length : Int) else k) else 0))).length : Int) 0 un cn qu am lf dn du cu k t))
   none) := by kernel_rfl
theorem e40_0 (m : Nat) (t4 : Int) (t24 : List (List Cell)) (t25 : Int) (t26 : Int) (b0 : Nat) (b0_1 : Nat) (b0_2 : List (List Cell)) (b0_3 : Bool) (b0_4 : Int) (b0_5 : Bool) (b1 : List (List Cell)) (b2 : List (List Cell)) (b3 : Int) (b3_1 : Int) : goF E (callOf L39) F40 3 (m + 1) P40_0 (M40_0 t4 t24 t25 t26 b0 b0_1 b0_2 b0_3 b0_4 b0_5 b1 b2 b3 b3_1) =
  let z1 := nl (Abs.rowAt b0_2 (Int.toNat t4)) 1
  let z2 := takeN z1 (Int.toNat (if (if (z1.length : Int) < b3_1 then (z1.length : Int) else b3_1) > 0 then (if (z1.length : Int) < b3_1 then (z1.length : Int) else b3_1) else 0))
  let z3 := Int.toNat (nr (Abs.rowAt b0_2 (Int.toNat t4)) 0)
  (cond (decide (t26 < t25))
   (cond (inB t26 t24.length)
    (cond (Nat.blt 0 b0)
     (cond (inB (nr (Abs.rowAt t24 (Int.toNat t26)) 0) (b0 + 1))
      (cond (Nat.blt 0 b1.length)
       (cond (Nat.ble ((0 + (Int.toNat (nr (Abs.rowAt t24 (Int.toNat t26)) 0))) + (b0 - (Int.toNat (nr (Abs.rowAt t24 (Int.toNat t26)) 0)))) b1.length)
        (goF E (callOf L39) F40 3 m P40_0 (M40_0 t4 t24 t25 (IntKind.wrap .i64 (t26 + 1)) b0 b0_1 b0_2 b0_3 b0_4 b0_5 (overL b1 (0 + (Int.toNat (nr (Abs.rowAt t24 (Int.toNat t26)) 0))) (takeN (nl (Abs.rowAt t24 (Int.toNat t26)) 1) (minN (b0 - (Int.toNat (nr (Abs.rowAt t24 (Int.toNat t26)) 0))) (nl (Abs.rowAt t24 (Int.toNat t26)) 1).length))) b2 b3 b3_1))
        none)
       none)
      none)
     none)
    none)
   (cond (decide (t4 < (b0_2.length : Int)))
    (cond (inB t4 b0_2.length)
     (cond (Nat.blt 0 b0)
      (cond (inB (nr (Abs.rowAt b0_2 (Int.toNat t4)) 0) (b0 + 1))
       (cond (inB (if (if (z1.length : Int) < b3_1 then (z1.length : Int) else b3_1) > 0 then (if (z1.length : Int) < b3_1 then (z1.length : Int) else b3_1) else 0) (z1.length + 1))
        (cond (Nat.blt 0 b1.length)
         (cond (Nat.ble ((0 + z3) + (b0 - z3)) b1.length)
          (cond (Nat.beq b0 (overL b1 (0 + z3) (takeN z2 (minN (b0 - z3) z2.length))).length)
           (cond (Nat.blt 0 b0_1)
            (cond (Nat.blt 0 b2.length)
             (cond (Nat.ble (0 + b0_1) b2.length)
              (some ([], [.var [.msl 5 1 b0, .msl 5 2 b0_1, .sl true 85 ([] : List (List Cell)), .bool false, .int .i64 0, .bool false], .arr 5 (overL b1 (0 + z3) (takeN z2 (minN (b0 - z3) z2.length))), .arr 5 (overL b2 0 (takeN (overL b1 (0 + z3) (takeN z2 (minN (b0 - z3) z2.length))) (minN b0_1 (overL b1 (0 + z3) (takeN z2 (minN (b0 - z3) z2.length))).length)))]))
              none)
             none)
            none)
           none)
          none)
         none)
        none)
       none)
      none)
     none)
    (cond (Nat.beq b0 b1.length)
     (cond (Nat.blt 0 b0_1)
      (cond (Nat.blt 0 b2.length)
       (cond (Nat.ble (0 + b0_1) b2.length)
        (some ([], [.var [.msl 5 1 b0, .msl 5 2 b0_1, .sl true 85 ([] : List (List Cell)), .bool false, .int .i64 0, .bool false], .arr 5 b1, .arr 5 (overL b2 0 (takeN b1 (minN b0_1 b1.length)))]))
        none)
       none)
      none)
     none))) := by kernel_rfl

/- elasticstore/elasticstorelaw24.Whole -/
theorem e24 (m : Nat) (un : Nat) (cn : Nat) (qu : List (List Cell)) (am : Bool) (lf : Int) (dn : Bool) (du : List (List Cell)) (cu : List (List Cell)) : runF E (callOf L40) (m + 1) 24 [.one (.ptr 0 0)] [.var [.msl 5 1 un, .msl 5 2 cn, .sl true 85 qu, .bool am, .int .i64 lf, .bool dn], .arr 5 du, .arr 5 cu] =
  (cond (okDk un cn (Dk.mk du cu qu am lf dn))
   (cond (okDk un cn (Dk.mk du cu qu am lf dn))
    (some ([.one (.str (toBytes (Dk.rd (Dk.mk du cu qu am lf dn) 0 (IntKind.wrap .i64 ((secs du) * 32)))))], [.var [.msl 5 1 un, .msl 5 2 cn, .sl true 85 qu, .bool am, .int .i64 lf, .bool dn], .arr 5 du, .arr 5 cu]))
    none)
   none) := by kernel_rfl

/- elasticstore/wal.segmentSize -/
theorem e70 (m : Nat) (un : Nat) (cn : Nat) (qu : List (List Cell)) (am : Bool) (lf : Int) (dn : Bool) (du : List (List Cell)) (cu : List (List Cell)) : runF E (callOf L24) (m + 1) 70 [.one (.ptr 0 0)] [.var [.msl 5 1 un, .msl 5 2 cn, .sl true 85 qu, .bool am, .int .i64 lf, .bool dn], .arr 5 du, .arr 5 cu] =
  (cond (okDk un cn (Dk.mk du cu qu am lf dn))
   (some ([.one (.int .i64 (IntKind.wrap .i64 ((IntKind.wrap .i64 (Int.tdiv (secs du) 2)) * 32)))], [.var [.msl 5 1 un, .msl 5 2 cn, .sl true 85 qu, .bool am, .int .i64 lf, .bool dn], .arr 5 du, .arr 5 cu]))
   none) := by kernel_rfl

/- (*elasticstore/wal.Log).header -/
theorem e45 (m : Nat) (s : Int) (ac : Int) (ge : Int) (rc : List (List Cell)) (fi : Int) (fa : Bool) (un : Nat) (cn : Nat) (qu : List (List Cell)) (am : Bool) (lf : Int) (dn : Bool) (du : List (List Cell)) (cu : List (List Cell)) : runF E (callOf L70) (m + 1) 45 [.one (.ptr 0 0), .one (.int .i64 s)] [.var [.ptr 1 0, .int .i64 ac, .int .u64 ge, .sl true 22 rc, .int .i64 fi, .bool fa], .var [.msl 5 2 un, .msl 5 3 cn, .sl true 85 qu, .bool am, .int .i64 lf, .bool dn], .arr 5 du, .arr 5 cu] =
  (cond (okDk un cn (Dk.mk du cu qu am lf dn))
   (some ([.one (.int .i64 (IntKind.wrap .i64 (s * (Dk.half (Dk.mk du cu qu am lf dn)))))], [.var [.ptr 1 0, .int .i64 ac, .int .u64 ge, .sl true 22 rc, .int .i64 fi, .bool fa], .var [.msl 5 2 un, .msl 5 3 cn, .sl true 85 qu, .bool am, .int .i64 lf, .bool dn], .arr 5 du, .arr 5 cu]))
   none) := by kernel_rfl

/- (*elasticstore/wal.Log).data -/
theorem e47 (m : Nat) (s : Int) (ac : Int) (ge : Int) (rc : List (List Cell)) (fi : Int) (fa : Bool) (un : Nat) (cn : Nat) (qu : List (List Cell)) (am : Bool) (lf : Int) (dn : Bool) (du : List (List Cell)) (cu : List (List Cell)) : runF E (callOf L45) (m + 1) 47 [.one (.ptr 0 0), .one (.int .i64 s)] [.var [.ptr 1 0, .int .i64 ac, .int .u64 ge, .sl true 22 rc, .int .i64 fi, .bool fa], .var [.msl 5 2 un, .msl 5 3 cn, .sl true 85 qu, .bool am, .int .i64 lf, .bool dn], .arr 5 du, .arr 5 cu] =
  (cond (okDk un cn (Dk.mk du cu qu am lf dn) && okSeg s)
   (some ([.one (.int .i64 (IntKind.wrap .i64 ((s * Dk.half (Dk.mk du cu qu am lf dn)) + 32)))], [.var [.ptr 1 0, .int .i64 ac, .int .u64 ge, .sl true 22 rc, .int .i64 fi, .bool fa], .var [.msl 5 2 un, .msl 5 3 cn, .sl true 85 qu, .bool am, .int .i64 lf, .bool dn], .arr 5 du, .arr 5 cu]))
   none) := by kernel_rfl

/- (*elasticstore/wal.Log).area -/
theorem e48 (m : Nat) (ac : Int) (ge : Int) (rc : List (List Cell)) (fi : Int) (fa : Bool) (un : Nat) (cn : Nat) (qu : List (List Cell)) (am : Bool) (lf : Int) (dn : Bool) (du : List (List Cell)) (cu : List (List Cell)) : runF E (callOf L47) (m + 1) 48 [.one (.ptr 0 0)] [.var [.ptr 1 0, .int .i64 ac, .int .u64 ge, .sl true 22 rc, .int .i64 fi, .bool fa], .var [.msl 5 2 un, .msl 5 3 cn, .sl true 85 qu, .bool am, .int .i64 lf, .bool dn], .arr 5 du, .arr 5 cu] =
  (cond (okDk un cn (Dk.mk du cu qu am lf dn))
   (some ([.one (.int .i64 (IntKind.wrap .i64 ((Dk.half (Dk.mk du cu qu am lf dn)) - 32)))], [.var [.ptr 1 0, .int .i64 ac, .int .u64 ge, .sl true 22 rc, .int .i64 fi, .bool fa], .var [.msl 5 2 un, .msl 5 3 cn, .sl true 85 qu, .bool am, .int .i64 lf, .bool dn], .arr 5 du, .arr 5 cu]))
   none) := by kernel_rfl

/- (*elasticstore/wal.Log).write -/
theorem e50 (m : Nat) (o : Int) (x : List (List Cell)) (ac : Int) (ge : Int) (rc : List (List Cell)) (fi : Int) (fa : Bool) (un : Nat) (cn : Nat) (qu : List (List Cell)) (am : Bool) (lf : Int) (dn : Bool) (du : List (List Cell)) (cu : List (List Cell)) : runF E (callOf L48) (m + 1) 50 [.one (.ptr 0 0), .one (.int .i64 o), .one (.sl false 5 x)] [.var [.ptr 1 0, .int .i64 ac, .int .u64 ge, .sl true 22 rc, .int .i64 fi, .bool fa], .var [.msl 5 2 un, .msl 5 3 cn, .sl true 85 qu, .bool am, .int .i64 lf, .bool dn], .arr 5 du, .arr 5 cu] =
  let z1 := Dk.write (Dk.mk du cu qu am lf dn) o x
  (cond (okDk un cn (Dk.mk du cu qu am lf dn) && okWx (Dk.mk du cu qu am lf dn) x)
   (cond ((Dr.e z1) == 0)
    (cond (okDk un cn (Dr.d z1))
     (some ([.one (.int .i64 (Dr.e (Dk.sync (Dr.d z1))))], [.var [.ptr 1 0, .int .i64 ac, .int .u64 ge, .sl true 22 rc, .int .i64 fi, .bool ((Dr.e (Dk.sync (Dr.d z1))) != 0)], .var [.msl 5 2 un, .msl 5 3 cn, .sl true 85 (Dk.q (Dr.d (Dk.sync (Dr.d z1)))), .bool (Dk.arm (Dr.d (Dk.sync (Dr.d z1)))), .int .i64 (Dk.left (Dr.d (Dk.sync (Dr.d z1)))), .bool (Dk.down (Dr.d (Dk.sync (Dr.d z1))))], .arr 5 (Dk.dur (Dr.d (Dk.sync (Dr.d z1)))), .arr 5 (Dk.cur (Dr.d (Dk.sync (Dr.d z1))))]))
     none)
    (some ([.one (.int .i64 (Dr.e z1))], [.var [.ptr 1 0, .int .i64 ac, .int .u64 ge, .sl true 22 rc, .int .i64 fi, .bool ((Dr.e z1) != 0)], .var [.msl 5 2 un, .msl 5 3 cn, .sl true 85 (Dk.q (Dr.d z1)), .bool (Dk.arm (Dr.d z1)), .int .i64 (Dk.left (Dr.d z1)), .bool (Dk.down (Dr.d z1))], .arr 5 (Dk.dur (Dr.d z1)), .arr 5 (Dk.cur (Dr.d z1))])))
   none) := by kernel_rfl

/- elasticstore/wal.clone -/
noncomputable def P59_0 : List AItem := F59.at [.snd, .snd, .fst, .snd, .sub, .head]
def M59_0 (t3 : List (List Cell)) (t6 : List (List Cell)) (t7 : Int) (t8 : Int) : St := ⟨[(3, .one (.sl true 22 t3)), (6, .one (.sl false 22 t6)), (7, .one (.int .i64 t7)), (8, .one (.int .i64 t8))], []⟩
theorem e59 (m : Nat) (r : List (List Cell)) : runF E (callOf L22) (m + 1) 59 [.one (.sl false 22 r)] [] =
  (goF E (callOf L22) F59 0 m P59_0 (M59_0 ([] : List (List Cell)) r (r.length : Int) 0)) := by kernel_rfl
theorem e59_0 (m : Nat) (t3 : List (List Cell)) (t6 : List (List Cell)) (t7 : Int) (t8 : Int) : goF E (callOf L22) F59 0 (m + 1) P59_0 (M59_0 t3 t6 t7 t8) =
  (cond (decide (t8 < t7))
   (cond (inB t8 t6.length)
    (cond (fits (([] : List (List Cell)).length + (nl (Abs.rowAt t6 (Int.toNat t8)) 0).length))
     (cond (fits (t3.length + [[Cell.slice 5 (([] : List (List Cell)) ++ (nl (Abs.rowAt t6 (Int.toNat t8)) 0))]].length))
      (goF E (callOf L22) F59 0 m P59_0 (M59_0 (t3 ++ [[Cell.slice 5 (([] : List (List Cell)) ++ (nl (Abs.rowAt t6 (Int.toNat t8)) 0))]]) t6 t7 (IntKind.wrap .i64 (t8 + 1))))
      none)
     none)
    none)
   (some ([.one (.sl true 22 t3)], []))) := by kernel_rfl

/- (*elasticstore/wal.Log).Records -/
theorem e28 (m : Nat) (ac : Int) (ge : Int) (rc : List (List Cell)) (fi : Int) (fa : Bool) (un : Nat) (cn : Nat) (qu : List (List Cell)) (am : Bool) (lf : Int) (dn : Bool) (du : List (List Cell)) (cu : List (List Cell)) : runF E (callOf L59) (m + 1) 28 [.one (.ptr 0 0)] [.var [.ptr 1 0, .int .i64 ac, .int .u64 ge, .sl true 22 rc, .int .i64 fi, .bool fa], .var [.msl 5 2 un, .msl 5 3 cn, .sl true 85 qu, .bool am, .int .i64 lf, .bool dn], .arr 5 du, .arr 5 cu] =
  (cond (okRs rc)
   (some ([.one (.sl true 22 (cloneR rc))], [.var [.ptr 1 0, .int .i64 ac, .int .u64 ge, .sl true 22 rc, .int .i64 fi, .bool fa], .var [.msl 5 2 un, .msl 5 3 cn, .sl true 85 qu, .bool am, .int .i64 lf, .bool dn], .arr 5 du, .arr 5 cu]))
   none) := by kernel_rfl
theorem e28_c1 (m : Nat)  : runF E (callOf L59) (m + 1) 28 [.one (.nilp)] [] =
  (some ([.one (.sl true 22 ([] : List (List Cell)))], [])) := by kernel_rfl

/- (*elasticstore/wal.Log).Generation -/
theorem e29 (m : Nat) (ac : Int) (ge : Int) (rc : List (List Cell)) (fi : Int) (fa : Bool) (un : Nat) (cn : Nat) (qu : List (List Cell)) (am : Bool) (lf : Int) (dn : Bool) (du : List (List Cell)) (cu : List (List Cell)) : runF E (callOf L28) (m + 1) 29 [.one (.ptr 0 0)] [.var [.ptr 1 0, .int .i64 ac, .int .u64 ge, .sl true 22 rc, .int .i64 fi, .bool fa], .var [.msl 5 2 un, .msl 5 3 cn, .sl true 85 qu, .bool am, .int .i64 lf, .bool dn], .arr 5 du, .arr 5 cu] =
  (some ([.one (.int .u64 ge)], [.var [.ptr 1 0, .int .i64 ac, .int .u64 ge, .sl true 22 rc, .int .i64 fi, .bool fa], .var [.msl 5 2 un, .msl 5 3 cn, .sl true 85 qu, .bool am, .int .i64 lf, .bool dn], .arr 5 du, .arr 5 cu])) := by kernel_rfl
theorem e29_c1 (m : Nat)  : runF E (callOf L28) (m + 1) 29 [.one (.nilp)] [] =
  (some ([.one (.int .u64 0)], [])) := by kernel_rfl

/- (*elasticstore/wal.Log).Free -/
theorem e30 (m : Nat) (ac : Int) (ge : Int) (rc : List (List Cell)) (fi : Int) (fa : Bool) (un : Nat) (cn : Nat) (qu : List (List Cell)) (am : Bool) (lf : Int) (dn : Bool) (du : List (List Cell)) (cu : List (List Cell)) : runF E (callOf L29) (m + 1) 30 [.one (.ptr 0 0)] [.var [.ptr 1 0, .int .i64 ac, .int .u64 ge, .sl true 22 rc, .int .i64 fi, .bool fa], .var [.msl 5 2 un, .msl 5 3 cn, .sl true 85 qu, .bool am, .int .i64 lf, .bool dn], .arr 5 du, .arr 5 cu] =
  (cond (okDk un cn (Dk.mk du cu qu am lf dn))
   (cond (true && ((sb1 (.var [.ptr 1 0, .int .i64 ac, .int .u64 ge, .sl true 22 rc, .int .i64 fi, .bool fa])) && ((sb1 (.var [.msl 5 2 un, .msl 5 3 cn, .sl true 85 qu, .bool am, .int .i64 lf, .bool dn])) && ((sb1 (.arr 5 du)) && ((sb1 (.arr 5 cu)) && true)))))
    (some ([.one (.int .i64 (IntKind.wrap .i64 ((Dk.half (Dk.mk du cu qu am lf dn) - 32) - fi)))], [.var [.ptr 1 0, .int .i64 ac, .int .u64 ge, .sl true 22 rc, .int .i64 fi, .bool fa], .var [.msl 5 2 un, .msl 5 3 cn, .sl true 85 qu, .bool am, .int .i64 lf, .bool dn], .arr 5 du, .arr 5 cu]))
    none)
   none) := by kernel_rfl
theorem e30_c1 (m : Nat)  : runF E (callOf L29) (m + 1) 30 [.one (.nilp)] [] =
  (some ([.one (.int .i64 0)], [])) := by kernel_rfl

/- (*elasticstore/wal.Log).usable -/
theorem e61 (m : Nat) (ac : Int) (ge : Int) (rc : List (List Cell)) (fi : Int) (fa : Bool) (un : Nat) (cn : Nat) (qu : List (List Cell)) (am : Bool) (lf : Int) (dn : Bool) (du : List (List Cell)) (cu : List (List Cell)) : runF E (callOf L30) (m + 1) 61 [.one (.ptr 0 0)] [.var [.ptr 1 0, .int .i64 ac, .int .u64 ge, .sl true 22 rc, .int .i64 fi, .bool fa], .var [.msl 5 2 un, .msl 5 3 cn, .sl true 85 qu, .bool am, .int .i64 lf, .bool dn], .arr 5 du, .arr 5 cu] =
  (cond fa
   (some ([.one (.int .i64 15)], [.var [.ptr 1 0, .int .i64 ac, .int .u64 ge, .sl true 22 rc, .int .i64 fi, .bool fa], .var [.msl 5 2 un, .msl 5 3 cn, .sl true 85 qu, .bool am, .int .i64 lf, .bool dn], .arr 5 du, .arr 5 cu]))
   (some ([.one (.int .i64 0)], [.var [.ptr 1 0, .int .i64 ac, .int .u64 ge, .sl true 22 rc, .int .i64 fi, .bool fa], .var [.msl 5 2 un, .msl 5 3 cn, .sl true 85 qu, .bool am, .int .i64 lf, .bool dn], .arr 5 du, .arr 5 cu]))) := by kernel_rfl
theorem e61_c1 (m : Nat)  : runF E (callOf L30) (m + 1) 61 [.one (.nilp)] [] =
  (some ([.one (.int .i64 17)], [])) := by kernel_rfl

/- elasticstore/wal.checkRecord -/
theorem e62 (m : Nat) (x : List (List Cell)) : runF E (callOf L61) (m + 1) 62 [.one (.sl false 5 x)] [] =
  (cond ((x.length : Int) == 0)
   (some ([.one (.int .i64 2)], []))
   (cond (decide ((x.length : Int) > 30000))
    (some ([.one (.int .i64 3)], []))
    (some ([.one (.int .i64 0)], [])))) := by kernel_rfl

/- elasticstore/elasticstorelaw25.few -/
theorem e15 (m : Nat) (x : List (List Cell)) (n : Int) : runF E (callOf L34) (m + 1) 15 [.one (.sl false 5 x), .one (.int .i64 n)] [] =
  (cond (inB (if n < (x.length : Int) then n else (x.length : Int)) (x.length + 1))
   (cond (fits (([] : List (List Cell)).length + (takeN x (Int.toNat (if n < (x.length : Int) then n else (x.length : Int)))).length))
    (some ([.one (.sl true 5 (([] : List (List Cell)) ++ (takeN x (Int.toNat (if n < (x.length : Int) then n else (x.length : Int))))))], []))
    none)
   none) := by kernel_rfl

/- elasticstore/elasticstorelaw25.Same -/
noncomputable def P27_0 : List AItem := F27.at [.snd, .snd, .fst, .snd, .sub, .head]
def M27_0 (t0 : List (List Cell)) (t1 : List (List Cell)) (t5 : Int) : St := ⟨[(0, .one (.sl false 22 t0)), (1, .one (.sl false 22 t1)), (5, .one (.int .i64 t5))], []⟩
theorem e27 (m : Nat) (r : List (List Cell)) (t : List (List Cell)) : runF E (callOf L15) (m + 1) 27 [.one (.sl false 22 r), .one (.sl false 22 t)] [] =
  (cond ((r.length : Int) != (t.length : Int))
   (some ([.one (.bool false)], []))
   (goF E (callOf L15) F27 0 m P27_0 (M27_0 r t 0))) := by kernel_rfl
theorem e27_0 (m : Nat) (t0 : List (List Cell)) (t1 : List (List Cell)) (t5 : Int) : goF E (callOf L15) F27 0 (m + 1) P27_0 (M27_0 t0 t1 t5) =
  (cond (decide (t5 < (t0.length : Int)))
   (cond (inB t5 t0.length)
    (cond (inB t5 t1.length)
     (cond (!((toBytes (nl (Abs.rowAt t0 (Int.toNat t5)) 0)) == (toBytes (nl (Abs.rowAt t1 (Int.toNat t5)) 0))))
      (some ([.one (.bool false)], []))
      (goF E (callOf L15) F27 0 m P27_0 (M27_0 t0 t1 (IntKind.wrap .i64 (t5 + 1)))))
     none)
    none)
   (some ([.one (.bool true)], []))) := by kernel_rfl

/- elasticstore/elasticstorelaw25.Records -/
noncomputable def P18_0 : List AItem := F18.at [.snd, .snd, .fst, .snd, .sub, .head]
def M18_0 (t0 : List (List Cell)) (t1 : Int) (t5 : List (List Cell)) (t6 : Int) : St := ⟨[(0, .one (.sl false 22 t0)), (1, .one (.int .i64 t1)), (5, .one (.sl true 22 t5)), (6, .one (.int .i64 t6))], []⟩
theorem e18 (m : Nat) (r : List (List Cell)) (k : Int) : runF E (callOf L27) (m + 1) 18 [.one (.sl false 22 r), .one (.int .i64 k)] [] =
  (goF E (callOf L27) F18 0 m P18_0 (M18_0 r k ([] : List (List Cell)) 0)) := by kernel_rfl
theorem e18_0 (m : Nat) (t0 : List (List Cell)) (t1 : Int) (t5 : List (List Cell)) (t6 : Int) : goF E (callOf L27) F18 0 (m + 1) P18_0 (M18_0 t0 t1 t5 t6) =
  (cond (decide (t6 < (t0.length : Int)))
   (cond (decide (t6 < t1))
    (cond (inB t6 t0.length)
     (cond (pd ((0 : Int) ≤ 40) && pd (40 ≤ (1000 : Int)))
      (cond (fits (((nl (Abs.rowAt t0 (Int.toNat t6)) 0).take (Int.toNat 40)).length + [[Cell.int .u8 (IntKind.wrap .u8 t6)]].length))
       (cond (fits (t5.length + [[Cell.slice 5 (((nl (Abs.rowAt t0 (Int.toNat t6)) 0).take (Int.toNat 40)) ++ [[Cell.int .u8 (IntKind.wrap .u8 t6)]])]].length))
        (goF E (callOf L27) F18 0 m P18_0 (M18_0 t0 t1 (t5 ++ [[Cell.slice 5 (((nl (Abs.rowAt t0 (Int.toNat t6)) 0).take (Int.toNat 40)) ++ [[Cell.int .u8 (IntKind.wrap .u8 t6)]])]]) (IntKind.wrap .i64 (t6 + 1))))
        none)
       none)
      none)
     none)
    (some ([.one (.sl true 22 t5)], [])))
   (some ([.one (.sl true 22 t5)], []))) := by kernel_rfl

end Go.Proofs.Ytpafnokcmhlbgaa
