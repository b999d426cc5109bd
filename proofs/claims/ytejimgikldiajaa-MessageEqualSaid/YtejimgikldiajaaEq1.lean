/-
  What each function does at each place where a run of it may be cut: printed by a program of our own.
-/
import Derived.Test.YtejimgikldiajaaTab
namespace Go.Proofs.Ytejimgikldiajaa
open Go.Abs
set_option maxRecDepth 20000

/- elasticstore/elasticstoreref06.EqualProposal -/
noncomputable def P34_0 : List AItem := F34.at [.snd, .snd, .fst, .snd, .sub, .head]
def M34_0 (t5 : Int) (b0 : Int) (b0_1 : Int) (b0_2 : List (List Cell)) (b1 : Int) (b1_1 : Int) (b1_2 : List (List Cell)) : St := ⟨[(2, .one (.ptr 0 0)), (3, .one (.ptr 1 0)), (5, .one (.int .i64 t5))], [.var [.int .i64 b0, .int .i64 b0_1, .sl false 79 b0_2], .var [.int .i64 b1, .int .i64 b1_1, .sl false 79 b1_2]]⟩
theorem e34 (m : Nat) (ap : Int) (np : Int) (cp : List (List Cell)) (aq : Int) (nq : Int) (cq : List (List Cell)) : runF E (callOf L) (m + 1) 34 [.agg [.int .i64 ap, .int .i64 np, .sl false 79 cp], .agg [.int .i64 aq, .int .i64 nq, .sl false 79 cq]] [] =
  (cond (ap != aq)
   (some ([.one (.bool false)], []))
   (cond (np != nq)
    (some ([.one (.bool false)], []))
    (cond ((cp.length : Int) != (cq.length : Int))
     (some ([.one (.bool false)], []))
     (goF E (callOf L) F34 0 m P34_0 (M34_0 0 ap np cp aq nq cq))))) := by kernel_rfl
theorem e34_0 (m : Nat) (t5 : Int) (b0 : Int) (b0_1 : Int) (b0_2 : List (List Cell)) (b1 : Int) (b1_1 : Int) (b1_2 : List (List Cell)) : goF E (callOf L) F34 0 (m + 1) P34_0 (M34_0 t5 b0 b0_1 b0_2 b1 b1_1 b1_2) =
  (cond (decide (t5 < (b0_2.length : Int)))
   (cond (inB t5 b0_2.length)
    (cond (inB t5 b1_2.length)
     (cond (!(((nr (Abs.rowAt b0_2 (Int.toNat t5)) 0) == (nr (Abs.rowAt b1_2 (Int.toNat t5)) 0)) && (((nr (Abs.rowAt b0_2 (Int.toNat t5)) 1) == (nr (Abs.rowAt b1_2 (Int.toNat t5)) 1)) && (((nr (Abs.rowAt b0_2 (Int.toNat t5)) 2) == (nr (Abs.rowAt b1_2 (Int.toNat t5)) 2)) && (((nr (Abs.rowAt b0_2 (Int.toNat t5)) 3) == (nr (Abs.rowAt b1_2 (Int.toNat t5)) 3)) && (((nr (Abs.rowAt b0_2 (Int.toNat t5)) 4) == (nr (Abs.rowAt b1_2 (Int.toNat t5)) 4)) && (((nr (Abs.rowAt b0_2 (Int.toNat t5)) 5) == (nr (Abs.rowAt b1_2 (Int.toNat t5)) 5)) && (((nr (Abs.rowAt b0_2 (Int.toNat t5)) 6) == (nr (Abs.rowAt b1_2 (Int.toNat t5)) 6)) && true))))))))
      (some ([.one (.bool false)], []))
      (goF E (callOf L) F34 0 m P34_0 (M34_0 (IntKind.wrap .i64 (t5 + 1)) b0 b0_1 b0_2 b1 b1_1 b1_2)))
     none)
    none)
   (some ([.one (.bool true)], []))) := by kernel_rfl

/- elasticstore/elasticstoreref06.EqualConfig -/
noncomputable def P17_0 : List AItem := F17.at [.snd, .snd, .fst, .snd, .sub, .head]
def M17_0 (t0 : List (List Cell)) (t1 : List (List Cell)) (t5 : Int) : St := ⟨[(0, .one (.sl false 74 t0)), (1, .one (.sl false 74 t1)), (5, .one (.int .i64 t5))], []⟩
theorem e17 (m : Nat) (c : List (List Cell)) (d : List (List Cell)) : runF E (callOf L34) (m + 1) 17 [.one (.sl false 74 c), .one (.sl false 74 d)] [] =
  (cond ((c.length : Int) != (d.length : Int))
   (some ([.one (.bool false)], []))
   (goF E (callOf L34) F17 0 m P17_0 (M17_0 c d 0))) := by kernel_rfl
theorem e17_0 (m : Nat) (t0 : List (List Cell)) (t1 : List (List Cell)) (t5 : Int) : goF E (callOf L34) F17 0 (m + 1) P17_0 (M17_0 t0 t1 t5) =
  (cond (decide (t5 < (t0.length : Int)))
   (cond (inB t5 t0.length)
    (cond (inB t5 t1.length)
     (cond (decide ((nl (Abs.rowAt t0 (Int.toNat t5)) 2).length < 9223372036854775808))
      (cond (!(eqP (nr (Abs.rowAt t0 (Int.toNat t5)) 0) (nr (Abs.rowAt t0 (Int.toNat t5)) 1) (nl (Abs.rowAt t0 (Int.toNat t5)) 2) (nr (Abs.rowAt t1 (Int.toNat t5)) 0) (nr (Abs.rowAt t1 (Int.toNat t5)) 1) (nl (Abs.rowAt t1 (Int.toNat t5)) 2)))
       (some ([.one (.bool false)], []))
       (goF E (callOf L34) F17 0 m P17_0 (M17_0 t0 t1 (IntKind.wrap .i64 (t5 + 1)))))
      none)
     none)
    none)
   (some ([.one (.bool true)], []))) := by kernel_rfl

/- elasticstore/elasticstoreref03.EqualVector -/
noncomputable def P19_0 : List AItem := F19.at [.snd, .snd, .fst, .snd, .sub, .head]
def M19_0 (t0 : List (List Cell)) (t1 : List (List Cell)) (t5 : Int) : St := ⟨[(0, .one (.sl false 52 t0)), (1, .one (.sl false 52 t1)), (5, .one (.int .i64 t5))], []⟩
theorem e19 (m : Nat) (v : List (List Cell)) (w : List (List Cell)) : runF E (callOf L17) (m + 1) 19 [.one (.sl false 52 v), .one (.sl false 52 w)] [] =
  (cond ((v.length : Int) != (w.length : Int))
   (some ([.one (.bool false)], []))
   (goF E (callOf L17) F19 0 m P19_0 (M19_0 v w 0))) := by kernel_rfl
theorem e19_0 (m : Nat) (t0 : List (List Cell)) (t1 : List (List Cell)) (t5 : Int) : goF E (callOf L17) F19 0 (m + 1) P19_0 (M19_0 t0 t1 t5) =
  (cond (decide (t5 < (t0.length : Int)))
   (cond (inB t5 t0.length)
    (cond (inB t5 t1.length)
     (cond (!(((nr (Abs.rowAt t0 (Int.toNat t5)) 0) == (nr (Abs.rowAt t1 (Int.toNat t5)) 0)) && (((nr (Abs.rowAt t0 (Int.toNat t5)) 1) == (nr (Abs.rowAt t1 (Int.toNat t5)) 1)) && true)))
      (some ([.one (.bool false)], []))
      (goF E (callOf L17) F19 0 m P19_0 (M19_0 t0 t1 (IntKind.wrap .i64 (t5 + 1)))))
     none)
    none)
   (some ([.one (.bool true)], []))) := by kernel_rfl

/- slices.Equal[[]elasticstore/api.Effect,elasticstore/api.Effect] -/
noncomputable def P33_0 : List AItem := F33.at [.snd, .snd, .fst, .snd, .sub, .head]
def M33_0 (t0 : List (List Cell)) (t1 : List (List Cell)) (t12 : Int) (t13 : Int) : St := ⟨[(0, .one (.sl false 83 t0)), (1, .one (.sl false 83 t1)), (12, .one (.int .i64 t12)), (13, .one (.int .i64 t13))], []⟩
theorem e33 (m : Nat) (x : List (List Cell)) (y : List (List Cell)) : runF E (callOf L19) (m + 1) 33 [.one (.sl false 83 x), .one (.sl false 83 y)] [] =
  (cond ((x.length : Int) != (y.length : Int))
   (some ([.one (.bool false)], []))
   (goF E (callOf L19) F33 0 m P33_0 (M33_0 x y (x.length : Int) 0))) := by kernel_rfl
theorem e33_0 (m : Nat) (t0 : List (List Cell)) (t1 : List (List Cell)) (t12 : Int) (t13 : Int) : goF E (callOf L19) F33 0 (m + 1) P33_0 (M33_0 t0 t1 t12 t13) =
  (cond (decide (t13 < t12))
   (cond (inB t13 t0.length)
    (cond (inB t13 t1.length)
     (cond (!(((nr (Abs.rowAt t0 (Int.toNat t13)) 0) == (nr (Abs.rowAt t1 (Int.toNat t13)) 0)) && (((ns (Abs.rowAt t0 (Int.toNat t13)) 1) == (ns (Abs.rowAt t1 (Int.toNat t13)) 1)) && (((ns (Abs.rowAt t0 (Int.toNat t13)) 2) == (ns (Abs.rowAt t1 (Int.toNat t13)) 2)) && (((nr (Abs.rowAt t0 (Int.toNat t13)) 3) == (nr (Abs.rowAt t1 (Int.toNat t13)) 3)) && (((ns (Abs.rowAt t0 (Int.toNat t13)) 4) == (ns (Abs.rowAt t1 (Int.toNat t13)) 4)) && true))))))
      (some ([.one (.bool false)], []))
      (goF E (callOf L19) F33 0 m P33_0 (M33_0 t0 t1 t12 (IntKind.wrap .i64 (t13 + 1)))))
     none)
    none)
   (some ([.one (.bool true)], []))) := by kernel_rfl

/- elasticstore/update.Equal -/
theorem e14 (m : Nat) (cu : Int) (qu : Int) (tu : Int) (eu : List (List Cell)) (cv : Int) (qv : Int) (tv : Int) (ev : List (List Cell)) : runF E (callOf L33) (m + 1) 14 [.agg [.int .i64 cu, .int .i64 qu, .int .i64 tu, .sl false 83 eu], .agg [.int .i64 cv, .int .i64 qv, .int .i64 tv, .sl false 83 ev]] [] =
  (cond (cu == cv)
   (cond (qu == qv)
    (cond (tu == tv)
     (cond (decide (eu.length < 9223372036854775808))
      (some ([.one (.bool (eqEffs eu ev))], []))
      none)
     (some ([.one (.bool false)], [])))
    (some ([.one (.bool false)], [])))
   (some ([.one (.bool false)], []))) := by kernel_rfl

/- elasticstore/elasticstoreref14.EqualUpdate -/
noncomputable def P35_0 : List AItem := F35.at [.snd, .snd, .fst, .snd, .sub, .head]
def M35_0 (t5 : Int) (b0 : Int) (b0_1 : Int) (b0_2 : Int) (b0_3 : List (List Cell)) (b1 : Int) (b1_1 : Int) (b1_2 : Int) (b1_3 : List (List Cell)) : St := ⟨[(2, .one (.ptr 0 0)), (3, .one (.ptr 1 0)), (5, .one (.int .i64 t5))], [.var [.int .i64 b0, .int .i64 b0_1, .int .i64 b0_2, .sl false 83 b0_3], .var [.int .i64 b1, .int .i64 b1_1, .int .i64 b1_2, .sl false 83 b1_3]]⟩
theorem e35 (m : Nat) (cu : Int) (qu : Int) (tu : Int) (eu : List (List Cell)) (cv : Int) (qv : Int) (tv : Int) (ev : List (List Cell)) : runF E (callOf L14) (m + 1) 35 [.agg [.int .i64 cu, .int .i64 qu, .int .i64 tu, .sl false 83 eu], .agg [.int .i64 cv, .int .i64 qv, .int .i64 tv, .sl false 83 ev]] [] =
  (cond (cu != cv)
   (some ([.one (.bool false)], []))
   (cond (qu != qv)
    (some ([.one (.bool false)], []))
    (cond (tu != tv)
     (some ([.one (.bool false)], []))
     (cond ((eu.length : Int) != (ev.length : Int))
      (some ([.one (.bool false)], []))
      (goF E (callOf L14) F35 0 m P35_0 (M35_0 0 cu qu tu eu cv qv tv ev)))))) := by kernel_rfl
theorem e35_0 (m : Nat) (t5 : Int) (b0 : Int) (b0_1 : Int) (b0_2 : Int) (b0_3 : List (List Cell)) (b1 : Int) (b1_1 : Int) (b1_2 : Int) (b1_3 : List (List Cell)) : goF E (callOf L14) F35 0 (m + 1) P35_0 (M35_0 t5 b0 b0_1 b0_2 b0_3 b1 b1_1 b1_2 b1_3) =
  (cond (decide (t5 < (b0_3.length : Int)))
   (cond (inB t5 b0_3.length)
    (cond (inB t5 b1_3.length)
     (cond (!(((nr (Abs.rowAt b0_3 (Int.toNat t5)) 0) == (nr (Abs.rowAt b1_3 (Int.toNat t5)) 0)) && (((ns (Abs.rowAt b0_3 (Int.toNat t5)) 1) == (ns (Abs.rowAt b1_3 (Int.toNat t5)) 1)) && (((ns (Abs.rowAt b0_3 (Int.toNat t5)) 2) == (ns (Abs.rowAt b1_3 (Int.toNat t5)) 2)) && (((nr (Abs.rowAt b0_3 (Int.toNat t5)) 3) == (nr (Abs.rowAt b1_3 (Int.toNat t5)) 3)) && (((ns (Abs.rowAt b0_3 (Int.toNat t5)) 4) == (ns (Abs.rowAt b1_3 (Int.toNat t5)) 4)) && true))))))
      (some ([.one (.bool false)], []))
      (goF E (callOf L14) F35 0 m P35_0 (M35_0 (IntKind.wrap .i64 (t5 + 1)) b0 b0_1 b0_2 b0_3 b1 b1_1 b1_2 b1_3)))
     none)
    none)
   (some ([.one (.bool true)], []))) := by kernel_rfl

/- elasticstore/elasticstoreref14.EqualState -/
noncomputable def P18_0 : List AItem := F18.at [.snd, .snd, .fst, .snd, .sub, .head]
def M18_0 (t0 : List (List Cell)) (t1 : List (List Cell)) (t5 : Int) : St := ⟨[(0, .one (.sl false 48 t0)), (1, .one (.sl false 48 t1)), (5, .one (.int .i64 t5))], []⟩
theorem e18 (m : Nat) (c : List (List Cell)) (d : List (List Cell)) : runF E (callOf L35) (m + 1) 18 [.one (.sl false 48 c), .one (.sl false 48 d)] [] =
  (cond ((c.length : Int) != (d.length : Int))
   (some ([.one (.bool false)], []))
   (goF E (callOf L35) F18 0 m P18_0 (M18_0 c d 0))) := by kernel_rfl
theorem e18_0 (m : Nat) (t0 : List (List Cell)) (t1 : List (List Cell)) (t5 : Int) : goF E (callOf L35) F18 0 (m + 1) P18_0 (M18_0 t0 t1 t5) =
  (cond (decide (t5 < (t0.length : Int)))
   (cond (inB t5 t0.length)
    (cond (inB t5 t1.length)
     (cond (decide ((nl (Abs.rowAt t0 (Int.toNat t5)) 3).length < 9223372036854775808))
      (cond (!(eqU (nr (Abs.rowAt t0 (Int.toNat t5)) 0) (nr (Abs.rowAt t0 (Int.toNat t5)) 1) (nr (Abs.rowAt t0 (Int.toNat t5)) 2) (nl (Abs.rowAt t0 (Int.toNat t5)) 3) (nr (Abs.rowAt t1 (Int.toNat t5)) 0) (nr (Abs.rowAt t1 (Int.toNat t5)) 1) (nr (Abs.rowAt t1 (Int.toNat t5)) 2) (nl (Abs.rowAt t1 (Int.toNat t5)) 3)))
       (some ([.one (.bool false)], []))
       (goF E (callOf L35) F18 0 m P18_0 (M18_0 t0 t1 (IntKind.wrap .i64 (t5 + 1)))))
      none)
     none)
    none)
   (some ([.one (.bool true)], []))) := by kernel_rfl

/- elasticstore/elasticstoreref14.EqualCert -/
theorem e16 (m : Nat) (f1 : List (List Cell)) (t1 : List (List Cell)) (f2 : List (List Cell)) (t2 : List (List Cell)) : runF E (callOf L18) (m + 1) 16 [.agg [.sl false 74 f1, .sl false 74 t1], .agg [.sl false 74 f2, .sl false 74 t2]] [] =
  (cond (okRows f1)
   (cond (eqCfg f1 f2)
    (cond (okRows t1)
     (some ([.one (.bool (eqCfg t1 t2))], []))
     none)
    (some ([.one (.bool false)], [])))
   none) := by kernel_rfl

/- slices.Equal[[]elasticstore/api.Change,elasticstore/api.Change] -/
noncomputable def P32_0 : List AItem := F32.at [.snd, .snd, .fst, .snd, .sub, .head]
def M32_0 (t0 : List (List Cell)) (t1 : List (List Cell)) (t12 : Int) (t13 : Int) : St := ⟨[(0, .one (.sl false 79 t0)), (1, .one (.sl false 79 t1)), (12, .one (.int .i64 t12)), (13, .one (.int .i64 t13))], []⟩
theorem e32 (m : Nat) (x : List (List Cell)) (y : List (List Cell)) : runF E (callOf L16) (m + 1) 32 [.one (.sl false 79 x), .one (.sl false 79 y)] [] =
  (cond ((x.length : Int) != (y.length : Int))
   (some ([.one (.bool false)], []))
   (goF E (callOf L16) F32 0 m P32_0 (M32_0 x y (x.length : Int) 0))) := by kernel_rfl
theorem e32_0 (m : Nat) (t0 : List (List Cell)) (t1 : List (List Cell)) (t12 : Int) (t13 : Int) : goF E (callOf L16) F32 0 (m + 1) P32_0 (M32_0 t0 t1 t12 t13) =
  (cond (decide (t13 < t12))
   (cond (inB t13 t0.length)
    (cond (inB t13 t1.length)
     (cond (!(((nr (Abs.rowAt t0 (Int.toNat t13)) 0) == (nr (Abs.rowAt t1 (Int.toNat t13)) 0)) && (((nr (Abs.rowAt t0 (Int.toNat t13)) 1) == (nr (Abs.rowAt t1 (Int.toNat t13)) 1)) && (((nr (Abs.rowAt t0 (Int.toNat t13)) 2) == (nr (Abs.rowAt t1 (Int.toNat t13)) 2)) && (((nr (Abs.rowAt t0 (Int.toNat t13)) 3) == (nr (Abs.rowAt t1 (Int.toNat t13)) 3)) && (((nr (Abs.rowAt t0 (Int.toNat t13)) 4) == (nr (Abs.rowAt t1 (Int.toNat t13)) 4)) && (((nr (Abs.rowAt t0 (Int.toNat t13)) 5) == (nr (Abs.rowAt t1 (Int.toNat t13)) 5)) && (((nr (Abs.rowAt t0 (Int.toNat t13)) 6) == (nr (Abs.rowAt t1 (Int.toNat t13)) 6)) && true))))))))
      (some ([.one (.bool false)], []))
      (goF E (callOf L16) F32 0 m P32_0 (M32_0 t0 t1 t12 (IntKind.wrap .i64 (t13 + 1)))))
     none)
    none)
   (some ([.one (.bool true)], []))) := by kernel_rfl

/- elasticstore/message.equalConfigs$1 -/
theorem e31 (m : Nat) (ap : Int) (np : Int) (cp : List (List Cell)) (aq : Int) (nq : Int) (cq : List (List Cell)) : runF E (callOf L32) (m + 1) 31 [.agg [.int .i64 ap, .int .i64 np, .sl false 79 cp], .agg [.int .i64 aq, .int .i64 nq, .sl false 79 cq]] [] =
  (cond (ap == aq)
   (cond (np == nq)
    (cond (decide (cp.length < 9223372036854775808))
     (some ([.one (.bool (decide (cp.length = cq.length) && eqChs cp cq))], []))
     none)
    (some ([.one (.bool false)], [])))
   (some ([.one (.bool false)], []))) := by kernel_rfl

/- slices.EqualFunc[elasticstore/api.Config,elasticstore/api.Config,elasticstore/api.Proposal,elasticstore/api.Proposal] -/
noncomputable def P30_0 : List AItem := F30.at [.snd, .snd, .fst, .snd, .sub, .head]
def M30_0 (t1 : List (List Cell)) (t15 : List (List Cell)) (t16 : Int) (t17 : Int) : St := ⟨[(1, .one (.sl false 74 t1)), (2, .one (.fn 31 [])), (15, .one (.sl false 74 t15)), (16, .one (.int .i64 t16)), (17, .one (.int .i64 t17))], []⟩
theorem e30 (m : Nat) (c : List (List Cell)) (d : List (List Cell)) : runF E (callOf L31) (m + 1) 30 [.one (.sl false 74 c), .one (.sl false 74 d), .one (.fn 31 [])] [] =
  (cond ((c.length : Int) != (d.length : Int))
   (some ([.one (.bool false)], []))
   (goF E (callOf L31) F30 0 m P30_0 (M30_0 d c (c.length : Int) 0))) := by kernel_rfl
theorem e30_0 (m : Nat) (t1 : List (List Cell)) (t15 : List (List Cell)) (t16 : Int) (t17 : Int) : goF E (callOf L31) F30 0 (m + 1) P30_0 (M30_0 t1 t15 t16 t17) =
  (cond (decide (t17 < t16))
   (cond (inB t17 t15.length)
    (cond (inB t17 t1.length)
     (cond (decide ((nl (Abs.rowAt t15 (Int.toNat t17)) 2).length < 9223372036854775808))
      (cond (!(eqP (nr (Abs.rowAt t15 (Int.toNat t17)) 0) (nr (Abs.rowAt t15 (Int.toNat t17)) 1) (nl (Abs.rowAt t15 (Int.toNat t17)) 2) (nr (Abs.rowAt t1 (Int.toNat t17)) 0) (nr (Abs.rowAt t1 (Int.toNat t17)) 1) (nl (Abs.rowAt t1 (Int.toNat t17)) 2)))
       (some ([.one (.bool false)], []))
       (goF E (callOf L31) F30 0 m P30_0 (M30_0 t1 t15 t16 (IntKind.wrap .i64 (t17 + 1)))))
      none)
     none)
    none)
   (some ([.one (.bool true)], []))) := by kernel_rfl

/- elasticstore/message.equalConfigs -/
theorem e12 (m : Nat) (c : List (List Cell)) (d : List (List Cell)) : runF E (callOf L30) (m + 1) 12 [.one (.sl false 74 c), .one (.sl false 74 d)] [] =
  (cond (okRows c)
   (some ([.one (.bool (eqCfg c d))], []))
   none) := by kernel_rfl

/- elasticstore/message.equalCerts -/
theorem e11 (m : Nat) (f1 : List (List Cell)) (t1 : List (List Cell)) (f2 : List (List Cell)) (t2 : List (List Cell)) : runF E (callOf L12) (m + 1) 11 [.agg [.sl false 74 f1, .sl false 74 t1], .agg [.sl false 74 f2, .sl false 74 t2]] [] =
  (cond (okRows f1)
   (cond (eqCfg f1 f2)
    (cond (okRows t1)
     (some ([.one (.bool (eqCfg t1 t2))], []))
     none)
    (some ([.one (.bool false)], [])))
   none) := by kernel_rfl

/- slices.EqualFunc[elasticstore/api.State,elasticstore/api.State,elasticstore/api.Update,elasticstore/api.Update] -/
noncomputable def P13_0 : List AItem := F13.at [.snd, .snd, .fst, .snd, .sub, .head]
def M13_0 (t1 : List (List Cell)) (t15 : List (List Cell)) (t16 : Int) (t17 : Int) : St := ⟨[(1, .one (.sl false 48 t1)), (2, .one (.fn 14 [])), (15, .one (.sl false 48 t15)), (16, .one (.int .i64 t16)), (17, .one (.int .i64 t17))], []⟩
theorem e13 (m : Nat) (c : List (List Cell)) (d : List (List Cell)) : runF E (callOf L11) (m + 1) 13 [.one (.sl false 48 c), .one (.sl false 48 d), .one (.fn 14 [])] [] =
  (cond ((c.length : Int) != (d.length : Int))
   (some ([.one (.bool false)], []))
   (goF E (callOf L11) F13 0 m P13_0 (M13_0 d c (c.length : Int) 0))) := by kernel_rfl
theorem e13_0 (m : Nat) (t1 : List (List Cell)) (t15 : List (List Cell)) (t16 : Int) (t17 : Int) : goF E (callOf L11) F13 0 (m + 1) P13_0 (M13_0 t1 t15 t16 t17) =
  (cond (decide (t17 < t16))
   (cond (inB t17 t15.length)
    (cond (inB t17 t1.length)
     (cond (decide ((nl (Abs.rowAt t15 (Int.toNat t17)) 3).length < 9223372036854775808))
      (cond (!(eqU (nr (Abs.rowAt t15 (Int.toNat t17)) 0) (nr (Abs.rowAt t15 (Int.toNat t17)) 1) (nr (Abs.rowAt t15 (Int.toNat t17)) 2) (nl (Abs.rowAt t15 (Int.toNat t17)) 3) (nr (Abs.rowAt t1 (Int.toNat t17)) 0) (nr (Abs.rowAt t1 (Int.toNat t17)) 1) (nr (Abs.rowAt t1 (Int.toNat t17)) 2) (nl (Abs.rowAt t1 (Int.toNat t17)) 3)))
       (some ([.one (.bool false)], []))
       (goF E (callOf L11) F13 0 m P13_0 (M13_0 t1 t15 t16 (IntKind.wrap .i64 (t17 + 1)))))
      none)
     none)
    none)
   (some ([.one (.bool true)], []))) := by kernel_rfl

/- slices.Equal[elasticstore/api.Vector,elasticstore/api.Entry] -/
noncomputable def P15_0 : List AItem := F15.at [.snd, .snd, .fst, .snd, .sub, .head]
def M15_0 (t0 : List (List Cell)) (t1 : List (List Cell)) (t12 : Int) (t13 : Int) : St := ⟨[(0, .one (.sl false 52 t0)), (1, .one (.sl false 52 t1)), (12, .one (.int .i64 t12)), (13, .one (.int .i64 t13))], []⟩
theorem e15 (m : Nat) (v : List (List Cell)) (w : List (List Cell)) : runF E (callOf L13) (m + 1) 15 [.one (.sl false 52 v), .one (.sl false 52 w)] [] =
  (cond ((v.length : Int) != (w.length : Int))
   (some ([.one (.bool false)], []))
   (goF E (callOf L13) F15 0 m P15_0 (M15_0 v w (v.length : Int) 0))) := by kernel_rfl
theorem e15_0 (m : Nat) (t0 : List (List Cell)) (t1 : List (List Cell)) (t12 : Int) (t13 : Int) : goF E (callOf L13) F15 0 (m + 1) P15_0 (M15_0 t0 t1 t12 t13) =
  (cond (decide (t13 < t12))
   (cond (inB t13 t0.length)
    (cond (inB t13 t1.length)
     (cond (!(((nr (Abs.rowAt t0 (Int.toNat t13)) 0) == (nr (Abs.rowAt t1 (Int.toNat t13)) 0)) && (((nr (Abs.rowAt t0 (Int.toNat t13)) 1) == (nr (Abs.rowAt t1 (Int.toNat t13)) 1)) && true)))
      (some ([.one (.bool false)], []))
      (goF E (callOf L13) F15 0 m P15_0 (M15_0 t0 t1 t12 (IntKind.wrap .i64 (t13 + 1)))))
     none)
    none)
   (some ([.one (.bool true)], []))) := by kernel_rfl

/- elasticstore/message.Equal -/
theorem e6 (m : Nat) (k1 : Int) (f1 : Int) (t1 : Int) (p1 : Int) (n1 : Int) (r1 : Int) (o1 : Int) (cf1 : List (List Cell)) (ct1 : List (List Cell)) (bf1 : List (List Cell)) (bt1 : List (List Cell)) (h1 : Bool) (ef1 : List (List Cell)) (et1 : List (List Cell)) (g1 : List (List Cell)) (u1 : List (List Cell)) (v1 : List (List Cell)) (m1 : Bool) (k2 : Int) (f2 : Int) (t2 : Int) (p2 : Int) (n2 : Int) (r2 : Int) (o2 : Int) (cf2 : List (List Cell)) (ct2 : List (List Cell)) (bf2 : List (List Cell)) (bt2 : List (List Cell)) (h2 : Bool) (ef2 : List (List Cell)) (et2 : List (List Cell)) (g2 : List (List Cell)) (u2 : List (List Cell)) (v2 : List (List Cell)) (m2 : Bool) : runF E (callOf L15) (m + 1) 6 [.agg [.int .i64 k1, .int .i64 f1, .int .i64 t1, .int .i64 p1, .int .i64 n1, .int .i64 r1, .int .i64 o1, .sl false 74 cf1, .sl false 74 ct1, .sl false 74 bf1, .sl false 74 bt1, .bool h1, .sl false 74 ef1, .sl false 74 et1, .sl false 74 g1, .sl false 48 u1, .sl false 52 v1, .bool m1], .agg [.int .i64 k2, .int .i64 f2, .int .i64 t2, .int .i64 p2, .int .i64 n2, .int .i64 r2, .int .i64 o2, .sl false 74 cf2, .sl false 74 ct2, .sl false 74 bf2, .sl false 74 bt2, .bool h2, .sl false 74 ef2, .sl false 74 et2, .sl false 74 g2, .sl false 48 u2, .sl false 52 v2, .bool m2]] [] =
  (cond (k1 == k2)
   (cond (f1 == f2)
    (cond (t1 == t2)
     (cond ((p1 == p2) && ((n1 == n2) && true))
      (cond (r1 == r2)
       (cond (o1 == o2)
        (cond (h1 == h2)
         (cond (m1 == m2)
          (cond (okRows cf1 && okRows ct1)
           (cond (eqCfg cf1 cf2 && eqCfg ct1 ct2)
            (cond (okRows bf1 && okRows bt1)
             (cond (eqCfg bf1 bf2 && eqCfg bt1 bt2)
              (cond (okRows ef1 && okRows et1)
               (cond (eqCfg ef1 ef2 && eqCfg et1 et2)
                (cond (okRows g1)
                 (cond (eqCfg g1 g2)
                  (cond (okRowsU u1)
                   (cond (eqSt u1 u2)
                    (cond (okLn v1)
                     (some ([.one (.bool (eqVec v1 v2))], []))
                     none)
                    (some ([.one (.bool false)], [])))
                   none)
                  (some ([.one (.bool false)], [])))
                 none)
                (some ([.one (.bool false)], [])))
               none)
              (some ([.one (.bool false)], [])))
             none)
            (some ([.one (.bool false)], [])))
           none)
          (some ([.one (.bool false)], [])))
         (some ([.one (.bool false)], [])))
        (some ([.one (.bool false)], [])))
       (some ([.one (.bool false)], [])))
      (some ([.one (.bool false)], [])))
     (some ([.one (.bool false)], [])))
    (some ([.one (.bool false)], [])))
   (some ([.one (.bool false)], []))) := by kernel_rfl

/- elasticstore/elasticstoreref14.EqualMessage -/
theorem e7 (m : Nat) (k1 : Int) (f1 : Int) (t1 : Int) (p1 : Int) (n1 : Int) (r1 : Int) (o1 : Int) (cf1 : List (List Cell)) (ct1 : List (List Cell)) (bf1 : List (List Cell)) (bt1 : List (List Cell)) (h1 : Bool) (ef1 : List (List Cell)) (et1 : List (List Cell)) (g1 : List (List Cell)) (u1 : List (List Cell)) (v1 : List (List Cell)) (m1 : Bool) (k2 : Int) (f2 : Int) (t2 : Int) (p2 : Int) (n2 : Int) (r2 : Int) (o2 : Int) (cf2 : List (List Cell)) (ct2 : List (List Cell)) (bf2 : List (List Cell)) (bt2 : List (List Cell)) (h2 : Bool) (ef2 : List (List Cell)) (et2 : List (List Cell)) (g2 : List (List Cell)) (u2 : List (List Cell)) (v2 : List (List Cell)) (m2 : Bool) : runF E (callOf L6) (m + 1) 7 [.agg [.int .i64 k1, .int .i64 f1, .int .i64 t1, .int .i64 p1, .int .i64 n1, .int .i64 r1, .int .i64 o1, .sl false 74 cf1, .sl false 74 ct1, .sl false 74 bf1, .sl false 74 bt1, .bool h1, .sl false 74 ef1, .sl false 74 et1, .sl false 74 g1, .sl false 48 u1, .sl false 52 v1, .bool m1], .agg [.int .i64 k2, .int .i64 f2, .int .i64 t2, .int .i64 p2, .int .i64 n2, .int .i64 r2, .int .i64 o2, .sl false 74 cf2, .sl false 74 ct2, .sl false 74 bf2, .sl false 74 bt2, .bool h2, .sl false 74 ef2, .sl false 74 et2, .sl false 74 g2, .sl false 48 u2, .sl false 52 v2, .bool m2]] [] =
  (cond (k1 != k2)
   (some ([.one (.bool false)], []))
   (cond (f1 != f2)
    (some ([.one (.bool false)], []))
    (cond (t1 != t2)
     (some ([.one (.bool false)], []))
     (cond (!((p1 == p2) && ((n1 == n2) && true)))
      (some ([.one (.bool false)], []))
      (cond (r1 != r2)
       (some ([.one (.bool false)], []))
       (cond (o1 != o2)
        (some ([.one (.bool false)], []))
        (cond (!(h1 == h2))
         (some ([.one (.bool false)], []))
         (cond (!(m1 == m2))
          (some ([.one (.bool false)], []))
          (cond (okRows cf1 && okRows ct1)
           (cond (eqCfg cf1 cf2 && eqCfg ct1 ct2)
            (cond (okRows bf1 && okRows bt1)
             (cond (eqCfg bf1 bf2 && eqCfg bt1 bt2)
              (cond (okRows ef1 && okRows et1)
               (cond (eqCfg ef1 ef2 && eqCfg et1 et2)
                (cond (okRows g1)
                 (cond (eqCfg g1 g2)
                  (cond (okRowsU u1)
                   (cond (eqSt u1 u2)
                    (cond (okLn v1)
                     (some ([.one (.bool (eqVec v1 v2))], []))
                     none)
                    (some ([.one (.bool false)], [])))
                   none)
                  (some ([.one (.bool false)], [])))
                 none)
                (some ([.one (.bool false)], [])))
               none)
              (some ([.one (.bool false)], [])))
             none)
            (some ([.one (.bool false)], [])))
           none))))))))) := by kernel_rfl

/- elasticstore/elasticstorelaw14.short -/
theorem e4 (m : Nat) (k1 : Int) (f1 : Int) (t1 : Int) (p1 : Int) (n1 : Int) (r1 : Int) (o1 : Int) (cf1 : List (List Cell)) (ct1 : List (List Cell)) (bf1 : List (List Cell)) (bt1 : List (List Cell)) (h1 : Bool) (ef1 : List (List Cell)) (et1 : List (List Cell)) (g1 : List (List Cell)) (u1 : List (List Cell)) (v1 : List (List Cell)) (m1 : Bool) : runF E (callOf L7) (m + 1) 4 [.agg [.int .i64 k1, .int .i64 f1, .int .i64 t1, .int .i64 p1, .int .i64 n1, .int .i64 r1, .int .i64 o1, .sl false 74 cf1, .sl false 74 ct1, .sl false 74 bf1, .sl false 74 bt1, .bool h1, .sl false 74 ef1, .sl false 74 et1, .sl false 74 g1, .sl false 48 u1, .sl false 52 v1, .bool m1]] [] =
  (cond (decide ((g1.length : Int) ≤ 30))
   (cond (decide ((u1.length : Int) ≤ 60))
    (cond (decide ((v1.length : Int) ≤ 60))
     (cond (decide ((cf1.length : Int) ≤ 30))
      (cond (decide ((ct1.length : Int) ≤ 30))
       (cond (decide ((bf1.length : Int) ≤ 30))
        (cond (decide ((bt1.length : Int) ≤ 30))
         (cond (decide ((ef1.length : Int) ≤ 30))
          (some ([.one (.bool (decide ((et1.length : Int) ≤ 30)))], []))
          (some ([.one (.bool false)], [])))
         (some ([.one (.bool false)], [])))
        (some ([.one (.bool false)], [])))
       (some ([.one (.bool false)], [])))
      (some ([.one (.bool false)], [])))
     (some ([.one (.bool false)], [])))
    (some ([.one (.bool false)], [])))
   (some ([.one (.bool false)], []))) := by kernel_rfl

/- elasticstore/elasticstorelaw14.MessageEqual -/
theorem e3 (m : Nat) (k1 : Int) (f1 : Int) (t1 : Int) (p1 : Int) (n1 : Int) (r1 : Int) (o1 : Int) (cf1 : List (List Cell)) (ct1 : List (List Cell)) (bf1 : List (List Cell)) (bt1 : List (List Cell)) (h1 : Bool) (ef1 : List (List Cell)) (et1 : List (List Cell)) (g1 : List (List Cell)) (u1 : List (List Cell)) (v1 : List (List Cell)) (m1 : Bool) (k2 : Int) (f2 : Int) (t2 : Int) (p2 : Int) (n2 : Int) (r2 : Int) (o2 : Int) (cf2 : List (List Cell)) (ct2 : List (List Cell)) (bf2 : List (List Cell)) (bt2 : List (List Cell)) (h2 : Bool) (ef2 : List (List Cell)) (et2 : List (List Cell)) (g2 : List (List Cell)) (u2 : List (List Cell)) (v2 : List (List Cell)) (m2 : Bool) : runF E (callOf L5) (m + 1) 3 [.agg [.int .i64 k1, .int .i64 f1, .int .i64 t1, .int .i64 p1, .int .i64 n1, .int .i64 r1, .int .i64 o1, .sl false 74 cf1, .sl false 74 ct1, .sl false 74 bf1, .sl false 74 bt1, .bool h1, .sl false 74 ef1, .sl false 74 et1, .sl false 74 g1, .sl false 48 u1, .sl false 52 v1, .bool m1], .agg [.int .i64 k2, .int .i64 f2, .int .i64 t2, .int .i64 p2, .int .i64 n2, .int .i64 r2, .int .i64 o2, .sl false 74 cf2, .sl false 74 ct2, .sl false 74 bf2, .sl false 74 bt2, .bool h2, .sl false 74 ef2, .sl false 74 et2, .sl false 74 g2, .sl false 48 u2, .sl false 52 v2, .bool m2]] [] =
  (cond (!(shortM cf1 ct1 bf1 bt1 ef1 et1 g1 u1 v1))
   (some ([.one (.bool true)], []))
   (cond (!(shortM cf2 ct2 bf2 bt2 ef2 et2 g2 u2 v2))
    (some ([.one (.bool true)], []))
    (cond (okM cf1 ct1 bf1 bt1 ef1 et1 g1 u1 v1)
     (cond (okM cf1 ct1 bf1 bt1 ef1 et1 g1 u1 v1)
      (cond ((eqM k1 f1 t1 p1 n1 r1 o1 cf1 ct1 bf1 bt1 h1 ef1 et1 g1 u1 v1 m1 k2 f2 t2 p2 n2 r2 o2 cf2 ct2 bf2 bt2 h2 ef2 et2 g2 u2 v2 m2) == (eqM k1 f1 t1 p1 n1 r1 o1 cf1 ct1 bf1 bt1 h1 ef1 et1 g1 u1 v1 m1 k2 f2 t2 p2 n2 r2 o2 cf2 ct2 bf2 bt2 h2 ef2 et2 g2 u2 v2 m2))
       (cond (okM cf1 ct1 bf1 bt1 ef1 et1 g1 u1 v1)
        (cond (eqM k1 f1 t1 p1 n1 r1 o1 cf1 ct1 bf1 bt1 h1 ef1 et1 g1 u1 v1 m1 k1 f1 t1 p1 n1 r1 o1 cf1 ct1 bf1 bt1 h1 ef1 et1 g1 u1 v1 m1)
         (some ([.one (.bool true)], []))
         (some ([.one (.bool false)], [])))
        none)
       (some ([.one (.bool false)], [])))
      none)
     none))) := by kernel_rfl

end Go.Proofs.Ytejimgikldiajaa
