/-
  What each function does at each place where a run of it may be cut: printed by a program of our own.
-/
import Derived.Test.YtohikghidhdhjaaTab
namespace Go.Proofs.Ytohikghidhdhjaa
open Go.Abs
set_option maxRecDepth 20000

/- elasticstore/proposal.within -/
theorem e85 (m : Nat) (n : Int) (lo : Int) (hi : Int) (u : Bool) : runF E (callOf L) (m + 1) 85 [.one (.int .i64 n), .one (.int .i64 lo), .one (.int .i64 hi), .one (.bool u)] [] =
  (cond (!u)
   (some ([.one (.bool (n == 0))], []))
   (cond (decide (n ≥ lo))
    (some ([.one (.bool (decide (n ≤ hi)))], []))
    (some ([.one (.bool false)], [])))) := by kernel_rfl

/- elasticstore/quorum.ValidateRule -/
theorem e86 (m : Nat) (k : Int) (c : Int) (f : Int) : runF E (callOf L85) (m + 1) 86 [.agg [.int .i64 k, .int .i64 c, .int .i64 f]] [] =
  (cond (k == 1)
   (cond (k == 1)
    (cond (!(c == 0))
     (some ([.one (.int .i64 9)], []))
     (cond (!(f == 0))
      (some ([.one (.int .i64 9)], []))
      (some ([.one (.int .i64 0)], []))))
    (cond (k == 3)
     (cond (decide (c ≥ 1))
      (cond (!(decide (c ≤ 12)))
       (some ([.one (.int .i64 9)], []))
       (cond (!(f == 0))
        (some ([.one (.int .i64 9)], []))
        (some ([.one (.int .i64 0)], []))))
      (some ([.one (.int .i64 9)], [])))
     (cond (k == 4)
      (cond (decide (f ≥ 0))
       (cond (!(c == 0))
        (some ([.one (.int .i64 9)], []))
        (cond (!(decide (f ≤ 12)))
         (some ([.one (.int .i64 9)], []))
         (some ([.one (.int .i64 0)], []))))
       (cond (!(c == 0))
        (some ([.one (.int .i64 9)], []))
        (some ([.one (.int .i64 9)], []))))
      (some ([.one (.int .i64 10)], [])))))
   (cond (k == 2)
    (cond (!(c == 0))
     (some ([.one (.int .i64 9)], []))
     (cond (!(f == 0))
      (some ([.one (.int .i64 9)], []))
      (some ([.one (.int .i64 0)], []))))
    (cond (k == 3)
     (cond (decide (c ≥ 1))
      (cond (!(decide (c ≤ 12)))
       (some ([.one (.int .i64 9)], []))
       (cond (!(f == 0))
        (some ([.one (.int .i64 9)], []))
        (some ([.one (.int .i64 0)], []))))
      (some ([.one (.int .i64 9)], [])))
     (cond (k == 4)
      (cond (decide (f ≥ 0))
       (cond (!(c == 0))
        (some ([.one (.int .i64 9)], []))
        (cond (!(decide (f ≤ 12)))
         (some ([.one (.int .i64 9)], []))
         (some ([.one (.int .i64 0)], []))))
       (cond (!(c == 0))
        (some ([.one (.int .i64 9)], []))
        (some ([.one (.int .i64 9)], []))))
      (some ([.one (.int .i64 10)], [])))))) := by kernel_rfl

/- elasticstore/elasticstoreref06.Server -/
theorem e88 (m : Nat) (n : Int) : runF E (callOf L86) (m + 1) 88 [.one (.int .i64 n)] [] =
  (cond (decide (n ≥ 1))
   (some ([.one (.bool (decide (n ≤ 12)))], []))
   (some ([.one (.bool false)], []))) := by kernel_rfl

/- elasticstore/elasticstoreref06.Admin -/
theorem e74 (m : Nat) (n : Int) : runF E (callOf L88) (m + 1) 74 [.one (.int .i64 n)] [] =
  (cond (decide (n ≥ 201))
   (some ([.one (.bool (decide (n < 204)))], []))
   (some ([.one (.bool false)], []))) := by kernel_rfl

/- elasticstore/elasticstoreref06.ValidateRule -/
theorem e89 (m : Nat) (k : Int) (c : Int) (f : Int) : runF E (callOf L74) (m + 1) 89 [.agg [.int .i64 k, .int .i64 c, .int .i64 f]] [] =
  (cond (decide (k < 1))
   (some ([.one (.int .i64 10)], []))
   (cond (decide (k > 4))
    (some ([.one (.int .i64 10)], []))
    (cond (k == 3)
     (cond (!(isServer c))
      (some ([.one (.int .i64 9)], []))
      (cond (k != 3)
       (cond (c != 0)
        (some ([.one (.int .i64 9)], []))
        (cond (k == 4)
         (cond (decide (f < 0))
          (some ([.one (.int .i64 9)], []))
          (cond (decide (f > 12))
           (some ([.one (.int .i64 9)], []))
           (cond (k != 4)
            (cond (f != 0)
             (some ([.one (.int .i64 9)], []))
             (some ([.one (.int .i64 0)], [])))
            (some ([.one (.int .i64 0)], [])))))
         (cond (k != 4)
          (cond (f != 0)
           (some ([.one (.int .i64 9)], []))
           (some ([.one (.int .i64 0)], [])))
          (some ([.one (.int .i64 0)], [])))))
       (cond (k == 4)
        (cond (decide (f < 0))
         (some ([.one (.int .i64 9)], []))
         (cond (decide (f > 12))
          (some ([.one (.int .i64 9)], []))
          (cond (k != 4)
           (cond (f != 0)
            (some ([.one (.int .i64 9)], []))
            (some ([.one (.int .i64 0)], [])))
           (some ([.one (.int .i64 0)], [])))))
        (cond (k != 4)
         (cond (f != 0)
          (some ([.one (.int .i64 9)], []))
          (some ([.one (.int .i64 0)], [])))
         (some ([.one (.int .i64 0)], []))))))
     (cond (k != 3)
      (cond (c != 0)
       (some ([.one (.int .i64 9)], []))
       (cond (k == 4)
        (cond (decide (f < 0))
         (some ([.one (.int .i64 9)], []))
         (cond (decide (f > 12))
          (some ([.one (.int .i64 9)], []))
          (cond (k != 4)
           (cond (f != 0)
            (some ([.one (.int .i64 9)], []))
            (some ([.one (.int .i64 0)], [])))
           (some ([.one (.int .i64 0)], [])))))
        (cond (k != 4)
         (cond (f != 0)
          (some ([.one (.int .i64 9)], []))
          (some ([.one (.int .i64 0)], [])))
         (some ([.one (.int .i64 0)], [])))))
      (cond (k == 4)
       (cond (decide (f < 0))
        (some ([.one (.int .i64 9)], []))
        (cond (decide (f > 12))
         (some ([.one (.int .i64 9)], []))
         (cond (k != 4)
          (cond (f != 0)
           (some ([.one (.int .i64 9)], []))
           (some ([.one (.int .i64 0)], [])))
          (some ([.one (.int .i64 0)], [])))))
       (cond (k != 4)
        (cond (f != 0)
         (some ([.one (.int .i64 9)], []))
         (some ([.one (.int .i64 0)], [])))
        (some ([.one (.int .i64 0)], [])))))))) := by kernel_rfl

/- elasticstore/proposal.ValidateChange -/
theorem e71 (m : Nat) (k : Int) (s : Int) (w : Int) (v : Int) (rk : Int) (rc : Int) (rf : Int) : runF E (callOf L89) (m + 1) 71 [.agg [.int .i64 k, .int .i64 s, .int .i64 w, .int .i64 v, .int .i64 rk, .int .i64 rc, .int .i64 rf]] [] =
  (cond (decide (k < 1))
   (some ([.one (.int .i64 10)], []))
   (cond (decide (k > 4))
    (some ([.one (.int .i64 10)], []))
    (cond (k == 1)
     (cond (k == 3)
      (cond (!(within s 1 12 (!(k == 4))))
       (some ([.one (.int .i64 9)], []))
       (cond (!(within w 1 9 true))
        (some ([.one (.int .i64 9)], []))
        (cond (!(within v 1 1000 true))
         (some ([.one (.int .i64 9)], []))
         (cond (k == 4)
          (some ([.one (.int .i64 (vRule rk rc rf))], []))
          (cond (!((rk == 0) && ((rc == 0) && ((rf == 0) && true))))
           (some ([.one (.int .i64 2)], []))
           (some ([.one (.int .i64 0)], [])))))))
      (cond (!(within s 1 12 (!(k == 4))))
       (some ([.one (.int .i64 9)], []))
       (cond (!(within w 1 9 true))
        (some ([.one (.int .i64 9)], []))
        (cond (!(within v 1 1000 (k == 4)))
         (some ([.one (.int .i64 9)], []))
         (cond (k == 4)
          (some ([.one (.int .i64 (vRule rk rc rf))], []))
          (cond (!((rk == 0) && ((rc == 0) && ((rf == 0) && true))))
           (some ([.one (.int .i64 2)], []))
           (some ([.one (.int .i64 0)], []))))))))
     (cond (k == 3)
      (cond (!(within s 1 12 (!(k == 4))))
       (some ([.one (.int .i64 9)], []))
       (cond (!(within w 1 9 (k == 3)))
        (some ([.one (.int .i64 9)], []))
        (cond (!(within v 1 1000 true))
         (some ([.one (.int .i64 9)], []))
         (cond (k == 4)
          (some ([.one (.int .i64 (vRule rk rc rf))], []))
          (cond (!((rk == 0) && ((rc == 0) && ((rf == 0) && true))))
           (some ([.one (.int .i64 2)], []))
           (some ([.one (.int .i64 0)], [])))))))
      (cond (!(within s 1 12 (!(k == 4))))
       (some ([.one (.int .i64 9)], []))
       (cond (!(within w 1 9 (k == 3)))
        (some ([.one (.int .i64 9)], []))
        (cond (!(within v 1 1000 (k == 4)))
         (some ([.one (.int .i64 9)], []))
         (cond (k == 4)
          (some ([.one (.int .i64 (vRule rk rc rf))], []))
          (cond (!((rk == 0) && ((rc == 0) && ((rf == 0) && true))))
           (some ([.one (.int .i64 2)], []))
           (some ([.one (.int .i64 0)], []))))))))))) := by kernel_rfl

/- elasticstore/elasticstoreref06.ValidateChange -/
noncomputable def P75_0 : List AItem := F75.at [.snd, .snd, .fst, .sub, .snd]
def M75_0 (t3 : Bool) (t4 : Bool) (t5 : Bool) (t6 : Bool) (t19 : Bool) (b0 : Int) (b0_1 : Int) (b0_2 : Int) (b0_3 : Int) (b0_4 : Int) (b0_5 : Int) (b0_6 : Int) : St := ⟨[(1, .one (.ptr 0 0)), (3, .one (.bool t3)), (4, .one (.bool t4)), (5, .one (.bool t5)), (6, .one (.bool t6)), (19, .one (.bool t19))], [.var [.int .i64 b0, .int .i64 b0_1, .int .i64 b0_2, .int .i64 b0_3, .int .i64 b0_4, .int .i64 b0_5, .int .i64 b0_6]]⟩
noncomputable def P75_1 : List AItem := F75.at [.snd, .snd, .fst, .sub, .snd, .snd, .snd]
def M75_1 (t3 : Bool) (t4 : Bool) (t5 : Bool) (t6 : Bool) (t34 : Bool) (b0 : Int) (b0_1 : Int) (b0_2 : Int) (b0_3 : Int) (b0_4 : Int) (b0_5 : Int) (b0_6 : Int) : St := ⟨[(1, .one (.ptr 0 0)), (3, .one (.bool t3)), (4, .one (.bool t4)), (5, .one (.bool t5)), (6, .one (.bool t6)), (34, .one (.bool t34))], [.var [.int .i64 b0, .int .i64 b0_1, .int .i64 b0_2, .int .i64 b0_3, .int .i64 b0_4, .int .i64 b0_5, .int .i64 b0_6]]⟩
noncomputable def P75_2 : List AItem := F75.at [.snd, .snd, .fst, .sub, .snd, .snd, .snd, .snd, .snd]
def M75_2 (t3 : Bool) (t4 : Bool) (t5 : Bool) (t6 : Bool) (t51 : Bool) (b0 : Int) (b0_1 : Int) (b0_2 : Int) (b0_3 : Int) (b0_4 : Int) (b0_5 : Int) (b0_6 : Int) : St := ⟨[(1, .one (.ptr 0 0)), (3, .one (.bool t3)), (4, .one (.bool t4)), (5, .one (.bool t5)), (6, .one (.bool t6)), (51, .one (.bool t51))], [.var [.int .i64 b0, .int .i64 b0_1, .int .i64 b0_2, .int .i64 b0_3, .int .i64 b0_4, .int .i64 b0_5, .int .i64 b0_6]]⟩
noncomputable def P75_3 : List AItem := F75.at [.snd, .snd, .fst, .sub, .snd, .snd, .snd, .snd, .snd, .snd, .snd]
def M75_3 (t6 : Bool) (t77 : Bool) (b0 : Int) (b0_1 : Int) (b0_2 : Int) (b0_3 : Int) (b0_4 : Int) (b0_5 : Int) (b0_6 : Int) : St := ⟨[(1, .one (.ptr 0 0)), (6, .one (.bool t6)), (77, .one (.bool t77))], [.var [.int .i64 b0, .int .i64 b0_1, .int .i64 b0_2, .int .i64 b0_3, .int .i64 b0_4, .int .i64 b0_5, .int .i64 b0_6]]⟩
noncomputable def P75_4 : List AItem := F75.at [.snd, .snd, .snd]
def M75_4  : St := ⟨[], []⟩
theorem e75 (m : Nat) (k : Int) (s : Int) (w : Int) (v : Int) (rk : Int) (rc : Int) (rf : Int) : runF E (callOf L71) (m + 1) 75 [.agg [.int .i64 k, .int .i64 s, .int .i64 w, .int .i64 v, .int .i64 rk, .int .i64 rc, .int .i64 rf]] [] =
  (cond (!(k == 1))
   (cond (!(k == 2))
    (cond (!(k == 3))
     (goF E (callOf L71) F75 0 m P75_0 (M75_0 (k == 1) (k == 2) (k == 3) (k == 4) (!(k == 4)) k s w v rk rc rf))
     (goF E (callOf L71) F75 0 m P75_0 (M75_0 (k == 1) (k == 2) (k == 3) (k == 4) false k s w v rk rc rf)))
    (goF E (callOf L71) F75 0 m P75_0 (M75_0 (k == 1) (k == 2) (k == 3) (k == 4) false k s w v rk rc rf)))
   (goF E (callOf L71) F75 0 m P75_0 (M75_0 (k == 1) (k == 2) (k == 3) (k == 4) false k s w v rk rc rf))) := by kernel_rfl
theorem e75_0 (m : Nat) (t3 : Bool) (t4 : Bool) (t5 : Bool) (t6 : Bool) (t19 : Bool) (b0 : Int) (b0_1 : Int) (b0_2 : Int) (b0_3 : Int) (b0_4 : Int) (b0_5 : Int) (b0_6 : Int) : goF E (callOf L71) F75 0 (m + 1) P75_0 (M75_0 t3 t4 t5 t6 t19 b0 b0_1 b0_2 b0_3 b0_4 b0_5 b0_6) =
  (cond t19
   (some ([.one (.int .i64 10)], []))
   (cond (!t6)
    (cond (!(isServer b0_1))
     (goF E (callOf L71) F75 0 m P75_1 (M75_1 t3 t4 t5 t6 true b0 b0_1 b0_2 b0_3 b0_4 b0_5 b0_6))
     (cond t6
      (goF E (callOf L71) F75 0 m P75_1 (M75_1 t3 t4 t5 t6 (b0_1 != 0) b0 b0_1 b0_2 b0_3 b0_4 b0_5 b0_6))
      (goF E (callOf L71) F75 0 m P75_1 (M75_1 t3 t4 t5 t6 false b0 b0_1 b0_2 b0_3 b0_4 b0_5 b0_6))))
    (cond t6
     (goF E (callOf L71) F75 0 m P75_1 (M75_1 t3 t4 t5 t6 (b0_1 != 0) b0 b0_1 b0_2 b0_3 b0_4 b0_5 b0_6))
     (goF E (callOf L71) F75 0 m P75_1 (M75_1 t3 t4 t5 t6 false b0 b0_1 b0_2 b0_3 b0_4 b0_5 b0_6))))) := by kernel_rfl
theorem e75_1 (m : Nat) (t3 : Bool) (t4 : Bool) (t5 : Bool) (t6 : Bool) (t34 : Bool) (b0 : Int) (b0_1 : Int) (b0_2 : Int) (b0_3 : Int) (b0_4 : Int) (b0_5 : Int) (b0_6 : Int) : goF E (callOf L71) F75 0 (m + 1) P75_1 (M75_1 t3 t4 t5 t6 t34 b0 b0_1 b0_2 b0_3 b0_4 b0_5 b0_6) =
  (cond t34
   (some ([.one (.int .i64 9)], []))
   (cond t3
    (cond (decide (b0_2 < 1))
     (goF E (callOf L71) F75 0 m P75_2 (M75_2 t3 t4 t5 t6 true b0 b0_1 b0_2 b0_3 b0_4 b0_5 b0_6))
     (cond (decide (b0_2 > 9))
      (goF E (callOf L71) F75 0 m P75_2 (M75_2 t3 t4 t5 t6 true b0 b0_1 b0_2 b0_3 b0_4 b0_5 b0_6))
      (cond t4
       (goF E (callOf L71) F75 0 m P75_2 (M75_2 t3 t4 t5 t6 (b0_2 != 0) b0 b0_1 b0_2 b0_3 b0_4 b0_5 b0_6))
       (cond t6
        (goF E (callOf L71) F75 0 m P75_2 (M75_2 t3 t4 t5 t6 (b0_2 != 0) b0 b0_1 b0_2 b0_3 b0_4 b0_5 b0_6))
        (goF E (callOf L71) F75 0 m P75_2 (M75_2 t3 t4 t5 t6 false b0 b0_1 b0_2 b0_3 b0_4 b0_5 b0_6))))))
    (cond t5
     (cond (decide (b0_2 < 1))
      (goF E (callOf L71) F75 0 m P75_2 (M75_2 t3 t4 t5 t6 true b0 b0_1 b0_2 b0_3 b0_4 b0_5 b0_6))
      (cond (decide (b0_2 > 9))
       (goF E (callOf L71) F75 0 m P75_2 (M75_2 t3 t4 t5 t6 true b0 b0_1 b0_2 b0_3 b0_4 b0_5 b0_6))
       (cond t4
        (goF E (callOf L71) F75 0 m P75_2 (M75_2 t3 t4 t5 t6 (b0_2 != 0) b0 b0_1 b0_2 b0_3 b0_4 b0_5 b0_6))
        (cond t6
         (goF E (callOf L71) F75 0 m P75_2 (M75_2 t3 t4 t5 t6 (b0_2 != 0) b0 b0_1 b0_2 b0_3 b0_4 b0_5 b0_6))
         (goF E (callOf L71) F75 0 m P75_2 (M75_2 t3 t4 t5 t6 false b0 b0_1 b0_2 b0_3 b0_4 b0_5 b0_6))))))
     (cond t4
      (goF E (callOf L71) F75 0 m P75_2 (M75_2 t3 t4 t5 t6 (b0_2 != 0) b0 b0_1 b0_2 b0_3 b0_4 b0_5 b0_6))
      (cond t6
       (goF E (callOf L71) F75 0 m P75_2 (M75_2 t3 t4 t5 t6 (b0_2 != 0) b0 b0_1 b0_2 b0_3 b0_4 b0_5 b0_6))
       (goF E (callOf L71) F75 0 m P75_2 (M75_2 t3 t4 t5 t6 false b0 b0_1 b0_2 b0_3 b0_4 b0_5 b0_6))))))) := by kernel_rfl
theorem e75_2 (m : Nat) (t3 : Bool) (t4 : Bool) (t5 : Bool) (t6 : Bool) (t51 : Bool) (b0 : Int) (b0_1 : Int) (b0_2 : Int) (b0_3 : Int) (b0_4 : Int) (b0_5 : Int) (b0_6 : Int) : goF E (callOf L71) F75 0 (m + 1) P75_2 (M75_2 t3 t4 t5 t6 t51 b0 b0_1 b0_2 b0_3 b0_4 b0_5 b0_6) =
  (cond t51
   (some ([.one (.int .i64 9)], []))
   (cond t5
    (cond (decide (b0_3 < 1))
     (goF E (callOf L71) F75 0 m P75_3 (M75_3 t6 true b0 b0_1 b0_2 b0_3 b0_4 b0_5 b0_6))
     (cond (decide (b0_3 > 1000))
      (goF E (callOf L71) F75 0 m P75_3 (M75_3 t6 true b0 b0_1 b0_2 b0_3 b0_4 b0_5 b0_6))
      (cond t3
       (goF E (callOf L71) F75 0 m P75_3 (M75_3 t6 (b0_3 != 0) b0 b0_1 b0_2 b0_3 b0_4 b0_5 b0_6))
       (cond t4
        (goF E (callOf L71) F75 0 m P75_3 (M75_3 t6 (b0_3 != 0) b0 b0_1 b0_2 b0_3 b0_4 b0_5 b0_6))
        (goF E (callOf L71) F75 0 m P75_3 (M75_3 t6 false b0 b0_1 b0_2 b0_3 b0_4 b0_5 b0_6))))))
    (cond t6
     (cond (decide (b0_3 < 1))
      (goF E (callOf L71) F75 0 m P75_3 (M75_3 t6 true b0 b0_1 b0_2 b0_3 b0_4 b0_5 b0_6))
      (cond (decide (b0_3 > 1000))
       (goF E (callOf L71) F75 0 m P75_3 (M75_3 t6 true b0 b0_1 b0_2 b0_3 b0_4 b0_5 b0_6))
       (cond t3
        (goF E (callOf L71) F75 0 m P75_3 (M75_3 t6 (b0_3 != 0) b0 b0_1 b0_2 b0_3 b0_4 b0_5 b0_6))
        (cond t4
         (goF E (callOf L71) F75 0 m P75_3 (M75_3 t6 (b0_3 != 0) b0 b0_1 b0_2 b0_3 b0_4 b0_5 b0_6))
         (goF E (callOf L71) F75 0 m P75_3 (M75_3 t6 false b0 b0_1 b0_2 b0_3 b0_4 b0_5 b0_6))))))
     (cond t3
      (goF E (callOf L71) F75 0 m P75_3 (M75_3 t6 (b0_3 != 0) b0 b0_1 b0_2 b0_3 b0_4 b0_5 b0_6))
      (cond t4
       (goF E (callOf L71) F75 0 m P75_3 (M75_3 t6 (b0_3 != 0) b0 b0_1 b0_2 b0_3 b0_4 b0_5 b0_6))
       (goF E (callOf L71) F75 0 m P75_3 (M75_3 t6 false b0 b0_1 b0_2 b0_3 b0_4 b0_5 b0_6))))))) := by kernel_rfl
theorem e75_3 (m : Nat) (t6 : Bool) (t77 : Bool) (b0 : Int) (b0_1 : Int) (b0_2 : Int) (b0_3 : Int) (b0_4 : Int) (b0_5 : Int) (b0_6 : Int) : goF E (callOf L71) F75 0 (m + 1) P75_3 (M75_3 t6 t77 b0 b0_1 b0_2 b0_3 b0_4 b0_5 b0_6) =
  (cond t77
   (some ([.one (.int .i64 9)], []))
   (cond t6
    (some ([.one (.int .i64 (vRule b0_4 b0_5 b0_6))], []))
    (cond (!((b0_4 == 0) && ((b0_5 == 0) && ((b0_6 == 0) && true))))
     (some ([.one (.int .i64 2)], []))
     (goF E (callOf L71) F75 0 m P75_4 (M75_4 ))))) := by kernel_rfl
theorem e75_4 (m : Nat)  : goF E (callOf L71) F75 0 (m + 1) P75_4 (M75_4 ) =
  (some ([.one (.int .i64 0)], [])) := by kernel_rfl

/- elasticstore/proposal.Validate -/
noncomputable def P44_0 : List AItem := F44.at [.snd, .snd, .fst, .snd, .sub, .head]
def M44_0 (t38 : List (List Cell)) (t39 : Int) (t40 : Int) (b0 : Int) (b0_1 : Int) (b0_2 : List (List Cell)) : St := ⟨[(1, .one (.ptr 0 0)), (38, .one (.sl false 63 t38)), (39, .one (.int .i64 t39)), (40, .one (.int .i64 t40))], [.var [.int .i64 b0, .int .i64 b0_1, .sl false 63 b0_2]]⟩
noncomputable def P44_1 : List AItem := F44.at [.snd, .snd, .fst, .snd, .sub, .body, .snd, .snd, .fst, .sub, .snd, .snd, .snd, .sub, .head]
def M44_1 (t38 : List (List Cell)) (t39 : Int) (t40 : Int) (t53 : List (List Cell)) (t54 : Int) (t55 : Int) (b0 : Int) (b0_1 : Int) (b0_2 : List (List Cell)) (b1 : Int) (b1_1 : Int) (b1_2 : Int) (b1_3 : Int) (b1_4 : Int) (b1_5 : Int) (b1_6 : Int) : St := ⟨[(1, .one (.ptr 0 0)), (4, .one (.ptr 1 0)), (38, .one (.sl false 63 t38)), (39, .one (.int .i64 t39)), (40, .one (.int .i64 t40)), (53, .one (.sl false 63 t53)), (54, .one (.int .i64 t54)), (55, .one (.int .i64 t55))], [.var [.int .i64 b0, .int .i64 b0_1, .sl false 63 b0_2], .var [.int .i64 b1, .int .i64 b1_1, .int .i64 b1_2, .int .i64 b1_3, .int .i64 b1_4, .int .i64 b1_5, .int .i64 b1_6]]⟩
theorem e44 (m : Nat) (ap : Int) (np : Int) (cp : List (List Cell)) : runF E (callOf L75) (m + 1) 44 [.agg [.int .i64 ap, .int .i64 np, .sl false 63 cp]] [] =
  (cond (decide (ap < 201))
   (some ([.one (.int .i64 9)], []))
   (cond (decide (ap ≥ 204))
    (some ([.one (.int .i64 9)], []))
    (cond (decide (np < 1))
     (some ([.one (.int .i64 9)], []))
     (cond (decide (np > 3))
      (some ([.one (.int .i64 9)], []))
      (cond ((cp.length : Int) == 0)
       (some ([.one (.int .i64 2)], []))
       (cond (decide ((cp.length : Int) > 6))
        (some ([.one (.int .i64 3)], []))
        (goF E (callOf L75) F44 0 m P44_0 (M44_0 cp (cp.length : Int) 0 ap np cp)))))))) := by kernel_rfl
theorem e44_0 (m : Nat) (t38 : List (List Cell)) (t39 : Int) (t40 : Int) (b0 : Int) (b0_1 : Int) (b0_2 : List (List Cell)) : goF E (callOf L75) F44 0 (m + 1) P44_0 (M44_0 t38 t39 t40 b0 b0_1 b0_2) =
  (cond (decide (t40 < t39))
   (cond (inB t40 t38.length)
    (cond ((vChange (nr (Abs.rowAt t38 (Int.toNat t40)) 0) (nr (Abs.rowAt t38 (Int.toNat t40)) 1) (nr (Abs.rowAt t38 (Int.toNat t40)) 2) (nr (Abs.rowAt t38 (Int.toNat t40)) 3) (nr (Abs.rowAt t38 (Int.toNat t40)) 4) (nr (Abs.rowAt t38 (Int.toNat t40)) 5) (nr (Abs.rowAt t38 (Int.toNat t40)) 6)) != 0)
     (some ([.one (.int .i64 (vChange (nr (Abs.rowAt t38 (Int.toNat t40)) 0) (nr (Abs.rowAt t38 (Int.toNat t40)) 1) (nr (Abs.rowAt t38 (Int.toNat t40)) 2) (nr (Abs.rowAt t38 (Int.toNat t40)) 3) (nr (Abs.rowAt t38 (Int.toNat t40)) 4) (nr (Abs.rowAt t38 (Int.toNat t40)) 5) (nr (Abs.rowAt t38 (Int.toNat t40)) 6)))], []))
     (cond (inB t40 (b0_2.length + 1))
      (goF E (callOf L75) F44 0 m P44_1 (M44_1 t38 t39 t40 (takeN b0_2 (Int.toNat t40)) ((takeN b0_2 (Int.toNat t40)).length : Int) 0 b0 b0_1 b0_2 (nr (Abs.rowAt t38 (Int.toNat t40)) 0) (nr (Abs.rowAt t38 (Int.toNat t40)) 1) (nr (Abs.rowAt t38 (Int.toNat t40)) 2) (nr (Abs.rowAt t38 (Int.toNat t40)) 3) (nr (Abs.rowAt t38 (Int.toNat t40)) 4) (nr (Abs.rowAt t38 (Int.toNat t40)) 5) (nr (Abs.rowAt t38 (Int.toNat t40)) 6)))
      none))
    none)
   (some ([.one (.int .i64 0)], []))) := by kernel_rfl
theorem e44_1 (m : Nat) (t38 : List (List Cell)) (t39 : Int) (t40 : Int) (t53 : List (List Cell)) (t54 : Int) (t55 : Int) (b0 : Int) (b0_1 : Int) (b0_2 : List (List Cell)) (b1 : Int) (b1_1 : Int) (b1_2 : Int) (b1_3 : Int) (b1_4 : Int) (b1_5 : Int) (b1_6 : Int) : goF E (callOf L75) F44 0 (m + 1) P44_1 (M44_1 t38 t39 t40 t53 t54 t55 b0 b0_1 b0_2 b1 b1_1 b1_2 b1_3 b1_4 b1_5 b1_6) =
  (cond (decide (t55 < t54))
   (cond (inB t55 t53.length)
    (cond ((nr (Abs.rowAt t53 (Int.toNat t55)) 0) == b1)
     (cond ((nr (Abs.rowAt t53 (Int.toNat t55)) 1) == b1_1)
      (some ([.one (.int .i64 5)], []))
      (goF E (callOf L75) F44 0 m P44_1 (M44_1 t38 t39 t40 t53 t54 (IntKind.wrap .i64 (t55 + 1)) b0 b0_1 b0_2 b1 b1_1 b1_2 b1_3 b1_4 b1_5 b1_6)))
     (goF E (callOf L75) F44 0 m P44_1 (M44_1 t38 t39 t40 t53 t54 (IntKind.wrap .i64 (t55 + 1)) b0 b0_1 b0_2 b1 b1_1 b1_2 b1_3 b1_4 b1_5 b1_6)))
    none)
   (goF E (callOf L75) F44 0 m P44_0 (M44_0 t38 t39 (IntKind.wrap .i64 (t40 + 1)) b0 b0_1 b0_2))) := by kernel_rfl

/- elasticstore/elasticstoreref06.ValidateProposal -/
noncomputable def P46_0 : List AItem := F46.at [.snd, .fst, .sub, .snd]
def M46_0 (t6 : Bool) (b0 : Int) (b0_1 : Int) (b0_2 : List (List Cell)) : St := ⟨[(1, .one (.ptr 0 0)), (6, .one (.bool t6))], [.var [.int .i64 b0, .int .i64 b0_1, .sl false 63 b0_2]]⟩
noncomputable def P46_1 : List AItem := F46.at [.snd, .snd]
def M46_1 (b0 : Int) (b0_1 : Int) (b0_2 : List (List Cell)) : St := ⟨[(1, .one (.ptr 0 0))], [.var [.int .i64 b0, .int .i64 b0_1, .sl false 63 b0_2]]⟩
noncomputable def P46_2 : List AItem := F46.at [.snd, .snd, .fst, .snd, .sub, .head]
def M46_2 (t3 : Int) (b0 : Int) (b0_1 : Int) (b0_2 : List (List Cell)) : St := ⟨[(1, .one (.ptr 0 0)), (3, .one (.int .i64 t3))], [.var [.int .i64 b0, .int .i64 b0_1, .sl false 63 b0_2]]⟩
noncomputable def P46_3 : List AItem := F46.at [.snd, .snd, .fst, .snd, .sub, .body, .snd]
def M46_3 (t3 : Int) (b0 : Int) (b0_1 : Int) (b0_2 : List (List Cell)) : St := ⟨[(1, .one (.ptr 0 0)), (3, .one (.int .i64 t3))], [.var [.int .i64 b0, .int .i64 b0_1, .sl false 63 b0_2]]⟩
noncomputable def P46_4 : List AItem := F46.at [.snd, .snd, .snd]
def M46_4  : St := ⟨[], []⟩
noncomputable def P46_5 : List AItem := F46.at [.snd, .snd, .fst, .snd, .sub, .body, .snd, .fst, .sub, .snd]
def M46_5 (t3 : Int) (b0 : Int) (b0_1 : Int) (b0_2 : List (List Cell)) : St := ⟨[(1, .one (.ptr 0 0)), (3, .one (.int .i64 t3))], [.var [.int .i64 b0, .int .i64 b0_1, .sl false 63 b0_2]]⟩
noncomputable def P46_6 : List AItem := F46.at [.snd, .snd, .fst, .snd, .sub, .body, .snd, .fst, .sub, .snd, .snd, .sub, .head]
def M46_6 (t3 : Int) (t5 : Int) (b0 : Int) (b0_1 : Int) (b0_2 : List (List Cell)) : St := ⟨[(1, .one (.ptr 0 0)), (3, .one (.int .i64 t3)), (5, .one (.int .i64 t5))], [.var [.int .i64 b0, .int .i64 b0_1, .sl false 63 b0_2]]⟩
noncomputable def P46_7 : List AItem := F46.at [.snd, .snd, .fst, .snd, .sub, .body, .snd, .fst, .sub, .snd, .snd, .sub, .body, .snd]
def M46_7 (t3 : Int) (t5 : Int) (b0 : Int) (b0_1 : Int) (b0_2 : List (List Cell)) : St := ⟨[(1, .one (.ptr 0 0)), (3, .one (.int .i64 t3)), (5, .one (.int .i64 t5))], [.var [.int .i64 b0, .int .i64 b0_1, .sl false 63 b0_2]]⟩
noncomputable def P46_8 : List AItem := F46.at [.snd, .snd, .fst, .snd, .sub, .body, .snd, .snd]
def M46_8 (t3 : Int) (b0 : Int) (b0_1 : Int) (b0_2 : List (List Cell)) : St := ⟨[(1, .one (.ptr 0 0)), (3, .one (.int .i64 t3))], [.var [.int .i64 b0, .int .i64 b0_1, .sl false 63 b0_2]]⟩
noncomputable def P46_9 : List AItem := F46.at [.snd, .snd, .fst, .snd, .sub, .body, .snd, .fst, .sub, .snd, .snd, .sub, .body, .snd, .fst, .sub, .snd]
def M46_9 (t3 : Int) (t5 : Int) (t79 : Bool) (b0 : Int) (b0_1 : Int) (b0_2 : List (List Cell)) : St := ⟨[(1, .one (.ptr 0 0)), (3, .one (.int .i64 t3)), (5, .one (.int .i64 t5)), (79, .one (.bool t79))], [.var [.int .i64 b0, .int .i64 b0_1, .sl false 63 b0_2]]⟩
noncomputable def P46_10 : List AItem := F46.at [.snd, .snd, .fst, .snd, .sub, .body, .snd, .fst, .sub, .snd, .snd, .sub, .body, .snd, .snd]
def M46_10 (t3 : Int) (t5 : Int) (b0 : Int) (b0_1 : Int) (b0_2 : List (List Cell)) : St := ⟨[(1, .one (.ptr 0 0)), (3, .one (.int .i64 t3)), (5, .one (.int .i64 t5))], [.var [.int .i64 b0, .int .i64 b0_1, .sl false 63 b0_2]]⟩
theorem e46 (m : Nat) (ap : Int) (np : Int) (cp : List (List Cell)) : runF E (callOf L44) (m + 1) 46 [.agg [.int .i64 ap, .int .i64 np, .sl false 63 cp]] [] =
  (cond (!(isAdmin ap))
   (goF E (callOf L44) F46 0 m P46_0 (M46_0 true ap np cp))
   (cond (decide (np < 1))
    (goF E (callOf L44) F46 0 m P46_0 (M46_0 true ap np cp))
    (goF E (callOf L44) F46 0 m P46_0 (M46_0 (decide (np > 3)) ap np cp)))) := by kernel_rfl
theorem e46_0 (m : Nat) (t6 : Bool) (b0 : Int) (b0_1 : Int) (b0_2 : List (List Cell)) : goF E (callOf L44) F46 0 (m + 1) P46_0 (M46_0 t6 b0 b0_1 b0_2) =
  (cond t6
   (some ([.one (.int .i64 9)], []))
   (cond ((b0_2.length : Int) == 0)
    (some ([.one (.int .i64 2)], []))
    (cond (decide ((b0_2.length : Int) > 6))
     (some ([.one (.int .i64 3)], []))
     (goF E (callOf L44) F46 0 m P46_1 (M46_1 b0 b0_1 b0_2))))) := by kernel_rfl
theorem e46_1 (m : Nat) (b0 : Int) (b0_1 : Int) (b0_2 : List (List Cell)) : goF E (callOf L44) F46 0 (m + 1) P46_1 (M46_1 b0 b0_1 b0_2) =
  (goF E (callOf L44) F46 0 m P46_2 (M46_2 0 b0 b0_1 b0_2)) := by kernel_rfl
theorem e46_2 (m : Nat) (t3 : Int) (b0 : Int) (b0_1 : Int) (b0_2 : List (List Cell)) : goF E (callOf L44) F46 0 (m + 1) P46_2 (M46_2 t3 b0 b0_1 b0_2) =
  (cond (decide (t3 < (b0_2.length : Int)))
   (goF E (callOf L44) F46 0 m P46_3 (M46_3 t3 b0 b0_1 b0_2))
   (goF E (callOf L44) F46 0 m P46_4 (M46_4 ))) := by kernel_rfl
theorem e46_3 (m : Nat) (t3 : Int) (b0 : Int) (b0_1 : Int) (b0_2 : List (List Cell)) : goF E (callOf L44) F46 0 (m + 1) P46_3 (M46_3 t3 b0 b0_1 b0_2) =
  (cond (inB t3 b0_2.length)
   (cond ((vChange (nr (Abs.rowAt b0_2 (Int.toNat t3)) 0) (nr (Abs.rowAt b0_2 (Int.toNat t3)) 1) (nr (Abs.rowAt b0_2 (Int.toNat t3)) 2) (nr (Abs.rowAt b0_2 (Int.toNat t3)) 3) (nr (Abs.rowAt b0_2 (Int.toNat t3)) 4) (nr (Abs.rowAt b0_2 (Int.toNat t3)) 5) (nr (Abs.rowAt b0_2 (Int.toNat t3)) 6)) != 0)
    (some ([.one (.int .i64 (vChange (nr (Abs.rowAt b0_2 (Int.toNat t3)) 0) (nr (Abs.rowAt b0_2 (Int.toNat t3)) 1) (nr (Abs.rowAt b0_2 (Int.toNat t3)) 2) (nr (Abs.rowAt b0_2 (Int.toNat t3)) 3) (nr (Abs.rowAt b0_2 (Int.toNat t3)) 4) (nr (Abs.rowAt b0_2 (Int.toNat t3)) 5) (nr (Abs.rowAt b0_2 (Int.toNat t3)) 6)))], []))
    (goF E (callOf L44) F46 0 m P46_5 (M46_5 t3 b0 b0_1 b0_2)))
   none) := by kernel_rfl
theorem e46_4 (m : Nat)  : goF E (callOf L44) F46 0 (m + 1) P46_4 (M46_4 ) =
  (some ([.one (.int .i64 0)], [])) := by kernel_rfl
theorem e46_5 (m : Nat) (t3 : Int) (b0 : Int) (b0_1 : Int) (b0_2 : List (List Cell)) : goF E (callOf L44) F46 0 (m + 1) P46_5 (M46_5 t3 b0 b0_1 b0_2) =
  (goF E (callOf L44) F46 0 m P46_6 (M46_6 t3 0 b0 b0_1 b0_2)) := by kernel_rfl
theorem e46_6 (m : Nat) (t3 : Int) (t5 : Int) (b0 : Int) (b0_1 : Int) (b0_2 : List (List Cell)) : goF E (callOf L44) F46 0 (m + 1) P46_6 (M46_6 t3 t5 b0 b0_1 b0_2) =
  (cond (decide (t5 < t3))
   (goF E (callOf L44) F46 0 m P46_7 (M46_7 t3 t5 b0 b0_1 b0_2))
   (goF E (callOf L44) F46 0 m P46_8 (M46_8 t3 b0 b0_1 b0_2))) := by kernel_rfl
theorem e46_7 (m : Nat) (t3 : Int) (t5 : Int) (b0 : Int) (b0_1 : Int) (b0_2 : List (List Cell)) : goF E (callOf L44) F46 0 (m + 1) P46_7 (M46_7 t3 t5 b0 b0_1 b0_2) =
  (cond (inB t5 b0_2.length)
   (cond (inB t3 b0_2.length)
    (cond ((nr (Abs.rowAt b0_2 (Int.toNat t5)) 0) == (nr (Abs.rowAt b0_2 (Int.toNat t3)) 0))
     (cond (inB t5 b0_2.length)
      (cond (inB t3 b0_2.length)
       (goF E (callOf L44) F46 0 m P46_9 (M46_9 t3 t5 ((nr (Abs.rowAt b0_2 (Int.toNat t5)) 1) == (nr (Abs.rowAt b0_2 (Int.toNat t3)) 1)) b0 b0_1 b0_2))
       none)
      none)
     (goF E (callOf L44) F46 0 m P46_9 (M46_9 t3 t5 false b0 b0_1 b0_2)))
    none)
   none) := by kernel_rfl
theorem e46_8 (m : Nat) (t3 : Int) (b0 : Int) (b0_1 : Int) (b0_2 : List (List Cell)) : goF E (callOf L44) F46 0 (m + 1) P46_8 (M46_8 t3 b0 b0_1 b0_2) =
  (goF E (callOf L44) F46 0 m P46_2 (M46_2 (IntKind.wrap .i64 (t3 + 1)) b0 b0_1 b0_2)) := by kernel_rfl
theorem e46_9 (m : Nat) (t3 : Int) (t5 : Int) (t79 : Bool) (b0 : Int) (b0_1 : Int) (b0_2 : List (List Cell)) : goF E (callOf L44) F46 0 (m + 1) P46_9 (M46_9 t3 t5 t79 b0 b0_1 b0_2) =
  (cond t79
   (some ([.one (.int .i64 5)], []))
   (goF E (callOf L44) F46 0 m P46_10 (M46_10 t3 t5 b0 b0_1 b0_2))) := by kernel_rfl
theorem e46_10 (m : Nat) (t3 : Int) (t5 : Int) (b0 : Int) (b0_1 : Int) (b0_2 : List (List Cell)) : goF E (callOf L44) F46 0 (m + 1) P46_10 (M46_10 t3 t5 b0 b0_1 b0_2) =
  (goF E (callOf L44) F46 0 m P46_6 (M46_6 t3 (IntKind.wrap .i64 (t5 + 1)) b0 b0_1 b0_2)) := by kernel_rfl

/- cmp.isNaN[int] -/
theorem e87 (m : Nat) (n : Int) : runF E (callOf L46) (m + 1) 87 [.one (.int .i64 n)] [] =
  (some ([.one (.bool (n != n))], [])) := by kernel_rfl

/- cmp.Compare[int] -/
theorem e73 (m : Nat) (x : Int) (y : Int) : runF E (callOf L87) (m + 1) 73 [.one (.int .i64 x), .one (.int .i64 y)] [] =
  (cond false
   (cond false
    (some ([.one (.int .i64 0)], []))
    (some ([.one (.int .i64 (-1))], [])))
   (cond false
    (some ([.one (.int .i64 1)], []))
    (cond (decide (x < y))
     (some ([.one (.int .i64 (-1))], []))
     (cond (decide (x > y))
      (some ([.one (.int .i64 1)], []))
      (some ([.one (.int .i64 0)], [])))))) := by kernel_rfl

/- cmp.Or[int] -/
noncomputable def P72_0 : List AItem := F72.at [.snd, .snd, .fst, .snd, .sub, .head]
def M72_0 (t3 : Int) (t6 : List (List Cell)) (t7 : Int) (t8 : Int) : St := ⟨[(3, .one (.int .i64 t3)), (6, .one (.sl false 3 t6)), (7, .one (.int .i64 t7)), (8, .one (.int .i64 t8))], []⟩
theorem e72 (m : Nat) (l : List (List Cell)) : runF E (callOf L73) (m + 1) 72 [.one (.sl false 3 l)] [] =
  (goF E (callOf L73) F72 0 m P72_0 (M72_0 0 l (l.length : Int) 0)) := by kernel_rfl
theorem e72_0 (m : Nat) (t3 : Int) (t6 : List (List Cell)) (t7 : Int) (t8 : Int) : goF E (callOf L73) F72 0 (m + 1) P72_0 (M72_0 t3 t6 t7 t8) =
  (cond (decide (t8 < t7))
   (cond (inB t8 t6.length)
    (cond ((nr (Abs.rowAt t6 (Int.toNat t8)) 0) != t3)
     (some ([.one (.int .i64 (nr (Abs.rowAt t6 (Int.toNat t8)) 0))], []))
     (goF E (callOf L73) F72 0 m P72_0 (M72_0 t3 t6 t7 (IntKind.wrap .i64 (t8 + 1)))))
    none)
   (some ([.one (.int .i64 t3)], []))) := by kernel_rfl

/- elasticstore/proposal.Compare -/
theorem e45 (m : Nat) (ap : Int) (np : Int) (cp : List (List Cell)) (aq : Int) (nq : Int) (cq : List (List Cell)) : runF E (callOf L72) (m + 1) 45 [.agg [.int .i64 ap, .int .i64 np, .sl false 63 cp], .agg [.int .i64 aq, .int .i64 nq, .sl false 63 cq]] [] =
  (cond (decide ([[Cell.int .i64 (cmpI ap aq)], [Cell.int .i64 (cmpI np nq)]].length < 9223372036854775808))
   (some ([.one (.int .i64 (orI1 [[Cell.int .i64 (cmpI ap aq)], [Cell.int .i64 (cmpI np nq)]]))], []))
   none) := by kernel_rfl

/- elasticstore/elasticstoreref06.CompareProposal -/
theorem e47 (m : Nat) (ap : Int) (np : Int) (cp : List (List Cell)) (aq : Int) (nq : Int) (cq : List (List Cell)) : runF E (callOf L45) (m + 1) 47 [.agg [.int .i64 ap, .int .i64 np, .sl false 63 cp], .agg [.int .i64 aq, .int .i64 nq, .sl false 63 cq]] [] =
  (cond (decide (ap < aq))
   (some ([.one (.int .i64 (-1))], []))
   (cond (ap == aq)
    (cond (decide (np < nq))
     (some ([.one (.int .i64 (-1))], []))
     (cond (ap == aq)
      (cond (np == nq)
       (some ([.one (.int .i64 0)], []))
       (some ([.one (.int .i64 1)], [])))
      (some ([.one (.int .i64 1)], []))))
    (cond (ap == aq)
     (cond (np == nq)
      (some ([.one (.int .i64 0)], []))
      (some ([.one (.int .i64 1)], [])))
     (some ([.one (.int .i64 1)], []))))) := by kernel_rfl

/- elasticstore/elasticstoreref06.EqualProposal -/
noncomputable def P53_0 : List AItem := F53.at [.snd, .snd, .fst, .snd, .sub, .head]
def M53_0 (t5 : Int) (b0 : Int) (b0_1 : Int) (b0_2 : List (List Cell)) (b1 : Int) (b1_1 : Int) (b1_2 : List (List Cell)) : St := ⟨[(2, .one (.ptr 0 0)), (3, .one (.ptr 1 0)), (5, .one (.int .i64 t5))], [.var [.int .i64 b0, .int .i64 b0_1, .sl false 63 b0_2], .var [.int .i64 b1, .int .i64 b1_1, .sl false 63 b1_2]]⟩
theorem e53 (m : Nat) (ap : Int) (np : Int) (cp : List (List Cell)) (aq : Int) (nq : Int) (cq : List (List Cell)) : runF E (callOf L47) (m + 1) 53 [.agg [.int .i64 ap, .int .i64 np, .sl false 63 cp], .agg [.int .i64 aq, .int .i64 nq, .sl false 63 cq]] [] =
  (cond (ap != aq)
   (some ([.one (.bool false)], []))
   (cond (np != nq)
    (some ([.one (.bool false)], []))
    (cond ((cp.length : Int) != (cq.length : Int))
     (some ([.one (.bool false)], []))
     (goF E (callOf L47) F53 0 m P53_0 (M53_0 0 ap np cp aq nq cq))))) := by kernel_rfl
theorem e53_0 (m : Nat) (t5 : Int) (b0 : Int) (b0_1 : Int) (b0_2 : List (List Cell)) (b1 : Int) (b1_1 : Int) (b1_2 : List (List Cell)) : goF E (callOf L47) F53 0 (m + 1) P53_0 (M53_0 t5 b0 b0_1 b0_2 b1 b1_1 b1_2) =
  (cond (decide (t5 < (b0_2.length : Int)))
   (cond (inB t5 b0_2.length)
    (cond (inB t5 b1_2.length)
     (cond (!(((nr (Abs.rowAt b0_2 (Int.toNat t5)) 0) == (nr (Abs.rowAt b1_2 (Int.toNat t5)) 0)) && (((nr (Abs.rowAt b0_2 (Int.toNat t5)) 1) == (nr (Abs.rowAt b1_2 (Int.toNat t5)) 1)) && (((nr (Abs.rowAt b0_2 (Int.toNat t5)) 2) == (nr (Abs.rowAt b1_2 (Int.toNat t5)) 2)) && (((nr (Abs.rowAt b0_2 (Int.toNat t5)) 3) == (nr (Abs.rowAt b1_2 (Int.toNat t5)) 3)) && (((nr (Abs.rowAt b0_2 (Int.toNat t5)) 4) == (nr (Abs.rowAt b1_2 (Int.toNat t5)) 4)) && (((nr (Abs.rowAt b0_2 (Int.toNat t5)) 5) == (nr (Abs.rowAt b1_2 (Int.toNat t5)) 5)) && (((nr (Abs.rowAt b0_2 (Int.toNat t5)) 6) == (nr (Abs.rowAt b1_2 (Int.toNat t5)) 6)) && true))))))))
      (some ([.one (.bool false)], []))
      (goF E (callOf L47) F53 0 m P53_0 (M53_0 (IntKind.wrap .i64 (t5 + 1)) b0 b0_1 b0_2 b1 b1_1 b1_2)))
     none)
    none)
   (some ([.one (.bool true)], []))) := by kernel_rfl

/- elasticstore/wire.AppendUint -/
noncomputable def P63_0 : List AItem := F63.at [.snd, .snd, .fst, .sub, .head]
def M63_0 (t0 : List (List Cell)) (t1 : Int) (t5 : List (List Cell)) : St := ⟨[(0, .one (.sl false 5 t0)), (1, .one (.int .u64 t1)), (5, .one (.sl true 5 t5))], []⟩
theorem e63 (m : Nat) (x : List (List Cell)) (v : Int) : runF E (callOf L53) (m + 1) 63 [.one (.sl false 5 x), .one (.int .u64 v)] [] =
  (goF E (callOf L53) F63 0 m P63_0 (M63_0 x v ([] : List (List Cell)))) := by kernel_rfl
theorem e63_0 (m : Nat) (t0 : List (List Cell)) (t1 : Int) (t5 : List (List Cell)) : goF E (callOf L53) F63 0 (m + 1) P63_0 (M63_0 t0 t1 t5) =
  (cond (decide (t1 ≥ 128))
   (cond (fits (t5.length + [[Cell.int .u8 (orI .u8 (IntKind.wrap .u8 t1) 128)]].length))
    (goF E (callOf L53) F63 0 m P63_0 (M63_0 t0 (shrI .u64 t1 7) (t5 ++ [[Cell.int .u8 (orI .u8 (IntKind.wrap .u8 t1) 128)]])))
    none)
   (cond (fits (t5.length + [[Cell.int .u8 (IntKind.wrap .u8 t1)]].length))
    (cond (inB (t0.length : Int) (t0.length + 1))
     (cond (decide ((t0.length : Int) = (t0.length : Int)))
      (cond (fits ((takeN t0 (Int.toNat (t0.length : Int))).length + (t5 ++ [[Cell.int .u8 (IntKind.wrap .u8 t1)]]).length))
       (some ([.one (.sl true 5 ((takeN t0 (Int.toNat (t0.length : Int))) ++ (t5 ++ [[Cell.int .u8 (IntKind.wrap .u8 t1)]])))], []))
       none)
      none)
     none)
    none)) := by kernel_rfl
noncomputable def P63_0_c1 : List AItem := F63.at [.snd, .snd, .fst, .sub, .head]
def M63_0_c1 (t0 : List (List Cell)) (t1 : Int) (t5 : List (List Cell)) : St := ⟨[(0, .one (.sl true 5 t0)), (1, .one (.int .u64 t1)), (5, .one (.sl true 5 t5))], []⟩
theorem e63_c1 (m : Nat) (v : Int) : runF E (callOf L53) (m + 1) 63 [.one (.nils), .one (.int .u64 v)] [] =
  (goF E (callOf L53) F63 0 m P63_0_c1 (M63_0_c1 ([] : List (List Cell)) v ([] : List (List Cell)))) := by kernel_rfl
theorem e63_0_c1 (m : Nat) (t0 : List (List Cell)) (t1 : Int) (t5 : List (List Cell)) : goF E (callOf L53) F63 0 (m + 1) P63_0_c1 (M63_0_c1 t0 t1 t5) =
  (cond (decide (t1 ≥ 128))
   (cond (fits (t5.length + [[Cell.int .u8 (orI .u8 (IntKind.wrap .u8 t1) 128)]].length))
    (goF E (callOf L53) F63 0 m P63_0_c1 (M63_0_c1 t0 (shrI .u64 t1 7) (t5 ++ [[Cell.int .u8 (orI .u8 (IntKind.wrap .u8 t1) 128)]])))
    none)
   (cond (fits (t5.length + [[Cell.int .u8 (IntKind.wrap .u8 t1)]].length))
    (cond (inB (t0.length : Int) (t0.length + 1))
     (cond (decide ((t0.length : Int) = (t0.length : Int)))
      (cond (fits ((takeN t0 (Int.toNat (t0.length : Int))).length + (t5 ++ [[Cell.int .u8 (IntKind.wrap .u8 t1)]]).length))
       (some ([.one (.sl true 5 ((takeN t0 (Int.toNat (t0.length : Int))) ++ (t5 ++ [[Cell.int .u8 (IntKind.wrap .u8 t1)]])))], []))
       none)
      none)
     none)
    none)) := by kernel_rfl

/- elasticstore/elasticstoreref03.AppendUint -/
noncomputable def P83_0 : List AItem := F83.at [.snd, .snd, .fst, .sub, .head]
def M83_0 (t1 : Int) (t5 : List (List Cell)) : St := ⟨[(1, .one (.int .u64 t1)), (5, .one (.sl true 5 t5))], []⟩
theorem e83 (m : Nat) (x : List (List Cell)) (v : Int) : runF E (callOf L63) (m + 1) 83 [.one (.sl false 5 x), .one (.int .u64 v)] [] =
  (cond (fits (([] : List (List Cell)).length + x.length))
   (goF E (callOf L63) F83 0 m P83_0 (M83_0 v (([] : List (List Cell)) ++ x)))
   none) := by kernel_rfl
theorem e83_0 (m : Nat) (t1 : Int) (t5 : List (List Cell)) : goF E (callOf L63) F83 0 (m + 1) P83_0 (M83_0 t1 t5) =
  (cond (decide (t1 ≥ 128))
   (cond (fits (t5.length + [[Cell.int .u8 (IntKind.wrap .u8 ((IntKind.wrap .u8 (Int.tmod t1 128)) + 128))]].length))
    (goF E (callOf L63) F83 0 m P83_0 (M83_0 (IntKind.wrap .u64 (Int.tdiv t1 128)) (t5 ++ [[Cell.int .u8 (IntKind.wrap .u8 ((IntKind.wrap .u8 (Int.tmod t1 128)) + 128))]])))
    none)
   (cond (fits (t5.length + [[Cell.int .u8 (IntKind.wrap .u8 t1)]].length))
    (some ([.one (.sl true 5 (t5 ++ [[Cell.int .u8 (IntKind.wrap .u8 t1)]]))], []))
    none)) := by kernel_rfl

/- elasticstore/wire.Uint -/
noncomputable def P65_0 : List AItem := F65.at [.snd, (.jump 0)]
def M65_0 (t0 : List (List Cell)) (t5 : Int) (t6 : Int) : St := ⟨[(0, .one (.sl false 5 t0)), (5, .one (.int .u64 t5)), (6, .one (.int .i64 t6))], []⟩
theorem e65 (m : Nat) (x : List (List Cell)) : runF E (callOf L83) (m + 1) 65 [.one (.sl false 5 x)] [] =
  (cond ((0 : Int) == (x.length : Int))
   (some ([.one (.int .u64 0), .one (.int .i64 0), .one (.int .i64 1)], []))
   (cond (inB 0 x.length)
    (cond (decide ((nr (Abs.rowAt x 0) 0) ≥ 128))
     (goF E (callOf L83) F65 0 m P65_0 (M65_0 x (orI .u64 0 (shlI .u64 (IntKind.wrap .u64 (andNotI .u8 (nr (Abs.rowAt x 0) 0) 128)) 0)) 1))
     (cond ((nr (Abs.rowAt x 0) 0) == 0)
      (some ([.one (.int .u64 (orI .u64 0 (shlI .u64 (IntKind.wrap .u64 (andNotI .u8 (nr (Abs.rowAt x 0) 0) 128)) 0))), .one (.int .i64 1), .one (.int .i64 0)], []))
      (some ([.one (.int .u64 (orI .u64 0 (shlI .u64 (IntKind.wrap .u64 (andNotI .u8 (nr (Abs.rowAt x 0) 0) 128)) 0))), .one (.int .i64 1), .one (.int .i64 0)], []))))
    none)) := by kernel_rfl
theorem e65_0 (m : Nat) (t0 : List (List Cell)) (t5 : Int) (t6 : Int) : goF E (callOf L83) F65 0 (m + 1) P65_0 (M65_0 t0 t5 t6) =
  (cond (t6 == (t0.length : Int))
   (some ([.one (.int .u64 0), .one (.int .i64 0), .one (.int .i64 1)], []))
   (cond (inB t6 t0.length)
    (cond (t6 == 9)
     (cond (decide ((nr (Abs.rowAt t0 (Int.toNat t6)) 0) > 1))
      (some ([.one (.int .u64 0), .one (.int .i64 0), .one (.int .i64 9)], []))
      (cond (decide ((IntKind.wrap .i64 (7 * t6)) < 0))
       none
       (cond (decide ((nr (Abs.rowAt t0 (Int.toNat t6)) 0) ≥ 128))
        (goF E (callOf L83) F65 0 m P65_0 (M65_0 t0 (orI .u64 t5 (shlI .u64 (IntKind.wrap .u64 (andNotI .u8 (nr (Abs.rowAt t0 (Int.toNat t6)) 0) 128)) (IntKind.wrap .i64 (7 * t6)))) (IntKind.wrap .i64 (t6 + 1))))
        (cond ((nr (Abs.rowAt t0 (Int.toNat t6)) 0) == 0)
         (cond (decide ((IntKind.wrap .i64 (t6 + 1)) > 1))
          (some ([.one (.int .u64 0), .one (.int .i64 0), .one (.int .i64 2)], []))
          (some ([.one (.int .u64 (orI .u64 t5 (shlI .u64 (IntKind.wrap .u64 (andNotI .u8 (nr (Abs.rowAt t0 (Int.toNat t6)) 0) 128)) (IntKind.wrap .i64 (7 * t6))))), .one (.int .i64 (IntKind.wrap .i64 (t6 + 1))), .one (.int .i64 0)], [])))
         (some ([.one (.int .u64 (orI .u64 t5 (shlI .u64 (IntKind.wrap .u64 (andNotI .u8 (nr (Abs.rowAt t0 (Int.toNat t6)) 0) 128)) (IntKind.wrap .i64 (7 * t6))))), .one (.int .i64 (IntKind.wrap .i64 (t6 + 1))), .one (.int .i64 0)], []))))))
     (cond (decide ((IntKind.wrap .i64 (7 * t6)) < 0))
      none
      (cond (decide ((nr (Abs.rowAt t0 (Int.toNat t6)) 0) ≥ 128))
       (goF E (callOf L83) F65 0 m P65_0 (M65_0 t0 (orI .u64 t5 (shlI .u64 (IntKind.wrap .u64 (andNotI .u8 (nr (Abs.rowAt t0 (Int.toNat t6)) 0) 128)) (IntKind.wrap .i64 (7 * t6)))) (IntKind.wrap .i64 (t6 + 1))))
       (cond ((nr (Abs.rowAt t0 (Int.toNat t6)) 0) == 0)
        (cond (decide ((IntKind.wrap .i64 (t6 + 1)) > 1))
         (some ([.one (.int .u64 0), .one (.int .i64 0), .one (.int .i64 2)], []))
         (some ([.one (.int .u64 (orI .u64 t5 (shlI .u64 (IntKind.wrap .u64 (andNotI .u8 (nr (Abs.rowAt t0 (Int.toNat t6)) 0) 128)) (IntKind.wrap .i64 (7 * t6))))), .one (.int .i64 (IntKind.wrap .i64 (t6 + 1))), .one (.int .i64 0)], [])))
        (some ([.one (.int .u64 (orI .u64 t5 (shlI .u64 (IntKind.wrap .u64 (andNotI .u8 (nr (Abs.rowAt t0 (Int.toNat t6)) 0) 128)) (IntKind.wrap .i64 (7 * t6))))), .one (.int .i64 (IntKind.wrap .i64 (t6 + 1))), .one (.int .i64 0)], []))))))
    none)) := by kernel_rfl

/- elasticstore/elasticstoreref03.Uint -/
noncomputable def P69_0 : List AItem := F69.at [.snd, .snd, .fst, .snd, .sub, .head]
def M69_0 (t0 : List (List Cell)) (t5 : Int) (t6 : Int) : St := ⟨[(0, .one (.sl false 5 t0)), (5, .one (.int .u64 t5)), (6, .one (.int .i64 t6))], []⟩
theorem e69 (m : Nat) (x : List (List Cell)) : runF E (callOf L65) (m + 1) 69 [.one (.sl false 5 x)] [] =
  (goF E (callOf L65) F69 0 m P69_0 (M69_0 x 0 0)) := by kernel_rfl
theorem e69_0 (m : Nat) (t0 : List (List Cell)) (t5 : Int) (t6 : Int) : goF E (callOf L65) F69 0 (m + 1) P69_0 (M69_0 t0 t5 t6) =
  (cond (decide (t6 < 10))
   (cond (t6 == (t0.length : Int))
    (some ([.one (.int .u64 0), .one (.int .i64 0), .one (.int .i64 1)], []))
    (cond (t6 == 9)
     (cond (inB t6 t0.length)
      (cond (decide ((nr (Abs.rowAt t0 (Int.toNat t6)) 0) > 1))
       (some ([.one (.int .u64 0), .one (.int .i64 0), .one (.int .i64 9)], []))
       (cond (inB t6 t0.length)
        (cond (decide ((IntKind.wrap .u64 (IntKind.wrap .i64 (7 * t6))) < 0))
         none
         (cond (inB t6 t0.length)
          (cond (decide ((nr (Abs.rowAt t0 (Int.toNat t6)) 0) < 128))
           (cond (inB t6 t0.length)
            (cond ((nr (Abs.rowAt t0 (Int.toNat t6)) 0) == 0)
             (cond (decide (t6 > 0))
              (some ([.one (.int .u64 0), .one (.int .i64 0), .one (.int .i64 2)], []))
              (some ([.one (.int .u64 (orI .u64 t5 (shlI .u64 (IntKind.wrap .u64 (Int.tmod (nr (Abs.rowAt t0 (Int.toNat t6)) 0) 128)) (IntKind.wrap .u64 (IntKind.wrap .i64 (7 * t6)))))), .one (.int .i64 (IntKind.wrap .i64 (t6 + 1))), .one (.int .i64 0)], [])))
             (some ([.one (.int .u64 (orI .u64 t5 (shlI .u64 (IntKind.wrap .u64 (Int.tmod (nr (Abs.rowAt t0 (Int.toNat t6)) 0) 128)) (IntKind.wrap .u64 (IntKind.wrap .i64 (7 * t6)))))), .one (.int .i64 (IntKind.wrap .i64 (t6 + 1))), .one (.int .i64 0)], [])))
            none)
           (goF E (callOf L65) F69 0 m P69_0 (M69_0 t0 (orI .u64 t5 (shlI .u64 (IntKind.wrap .u64 (Int.tmod (nr (Abs.rowAt t0 (Int.toNat t6)) 0) 128)) (IntKind.wrap .u64 (IntKind.wrap .i64 (7 * t6))))) (IntKind.wrap .i64 (t6 + 1)))))
          none))
        none))
      none)
     (cond (inB t6 t0.length)
      (cond (decide ((IntKind.wrap .u64 (IntKind.wrap .i64 (7 * t6))) < 0))
       none
       (cond (inB t6 t0.length)
        (cond (decide ((nr (Abs.rowAt t0 (Int.toNat t6)) 0) < 128))
         (cond (inB t6 t0.length)
          (cond ((nr (Abs.rowAt t0 (Int.toNat t6)) 0) == 0)
           (cond (decide (t6 > 0))
            (some ([.one (.int .u64 0), .one (.int .i64 0), .one (.int .i64 2)], []))
            (some ([.one (.int .u64 (orI .u64 t5 (shlI .u64 (IntKind.wrap .u64 (Int.tmod (nr (Abs.rowAt t0 (Int.toNat t6)) 0) 128)) (IntKind.wrap .u64 (IntKind.wrap .i64 (7 * t6)))))), .one (.int .i64 (IntKind.wrap .i64 (t6 + 1))), .one (.int .i64 0)], [])))
           (some ([.one (.int .u64 (orI .u64 t5 (shlI .u64 (IntKind.wrap .u64 (Int.tmod (nr (Abs.rowAt t0 (Int.toNat t6)) 0) 128)) (IntKind.wrap .u64 (IntKind.wrap .i64 (7 * t6)))))), .one (.int .i64 (IntKind.wrap .i64 (t6 + 1))), .one (.int .i64 0)], [])))
          none)
         (goF E (callOf L65) F69 0 m P69_0 (M69_0 t0 (orI .u64 t5 (shlI .u64 (IntKind.wrap .u64 (Int.tmod (nr (Abs.rowAt t0 (Int.toNat t6)) 0) 128)) (IntKind.wrap .u64 (IntKind.wrap .i64 (7 * t6))))) (IntKind.wrap .i64 (t6 + 1)))))
        none))
      none)))
   (some ([.one (.int .u64 0), .one (.int .i64 0), .one (.int .i64 9)], []))) := by kernel_rfl

/- (*elasticstore/proposal.reader).number -/
theorem e82 (m : Nat) (b : List (List Cell)) (o : Int) (e : Int) : runF E (callOf L69) (m + 1) 82 [.one (.ptr 0 0)] [.var [.sl false 5 b, .int .i64 o, .int .i64 e]] =
  (cond (e != 0)
   (some ([.one (.int .i64 0)], [.var [.sl false 5 b, .int .i64 o, .int .i64 e]]))
   (cond (inB o (b.length + 1))
    (cond (okRd (dropN b (Int.toNat o)))
     (cond ((udec (dropN b (Int.toNat o))).2.2 != 0)
      (some ([.one (.int .i64 0)], [.var [.sl false 5 b, .int .i64 o, .int .i64 (udec (dropN b (Int.toNat o))).2.2]]))
      (cond (decide ((udec (dropN b (Int.toNat o))).1 > 2147483647))
       (some ([.one (.int .i64 0)], [.var [.sl false 5 b, .int .i64 o, .int .i64 9]]))
       (some ([.one (.int .i64 (IntKind.wrap .i64 (udec (dropN b (Int.toNat o))).1))], [.var [.sl false 5 b, .int .i64 (IntKind.wrap .i64 (o + (udec (dropN b (Int.toNat o))).2.1)), .int .i64 e]]))))
     none)
    none)) := by kernel_rfl

/- elasticstore/proposal.Append -/
noncomputable def P64_0 : List AItem := F64.at [.snd, .snd, .fst, .snd, .sub, .head]
def M64_0 (t0 : List (List Cell)) (t5 : List (List Cell)) (t20 : List (List Cell)) (t21 : Int) (t22 : Int) : St := ⟨[(0, .one (.sl false 5 t0)), (5, .one (.sl true 3 t5)), (20, .one (.sl false 63 t20)), (21, .one (.int .i64 t21)), (22, .one (.int .i64 t22))], []⟩
noncomputable def P64_1 : List AItem := F64.at [.snd, .snd, .snd, .snd, .fst, .snd, .sub, .head]
def M64_1 (t0 : List (List Cell)) (t8 : List (List Cell)) (t47 : List (List Cell)) (t48 : Int) (t49 : Int) : St := ⟨[(0, .one (.sl false 5 t0)), (8, .one (.sl false 5 t8)), (47, .one (.sl false 3 t47)), (48, .one (.int .i64 t48)), (49, .one (.int .i64 t49))], []⟩
theorem e64 (m : Nat) (x : List (List Cell)) (ap : Int) (np : Int) (cp : List (List Cell)) : runF E (callOf L82) (m + 1) 64 [.one (.sl false 5 x), .agg [.int .i64 ap, .int .i64 np, .sl false 63 cp]] [] =
  (goF E (callOf L82) F64 0 m P64_0 (M64_0 x [[Cell.int .i64 ap], [Cell.int .i64 np], [Cell.int .i64 (cp.length : Int)]] cp (cp.length : Int) 0)) := by kernel_rfl
theorem e64_0 (m : Nat) (t0 : List (List Cell)) (t5 : List (List Cell)) (t20 : List (List Cell)) (t21 : Int) (t22 : Int) : goF E (callOf L82) F64 0 (m + 1) P64_0 (M64_0 t0 t5 t20 t21 t22) =
  (cond (decide (t22 < t21))
   (cond (inB t22 t20.length)
    (cond (fits (t5.length + [[Cell.int .i64 (nr (Abs.rowAt t20 (Int.toNat t22)) 0)], [Cell.int .i64 (nr (Abs.rowAt t20 (Int.toNat t22)) 1)], [Cell.int .i64 (nr (Abs.rowAt t20 (Int.toNat t22)) 2)], [Cell.int .i64 (nr (Abs.rowAt t20 (Int.toNat t22)) 3)], [Cell.int .i64 (nr (Abs.rowAt t20 (Int.toNat t22)) 4)], [Cell.int .i64 (nr (Abs.rowAt t20 (Int.toNat t22)) 5)], [Cell.int .i64 (nr (Abs.rowAt t20 (Int.toNat t22)) 6)]].length))
     (goF E (callOf L82) F64 0 m P64_0 (M64_0 t0 (t5 ++ [[Cell.int .i64 (nr (Abs.rowAt t20 (Int.toNat t22)) 0)], [Cell.int .i64 (nr (Abs.rowAt t20 (Int.toNat t22)) 1)], [Cell.int .i64 (nr (Abs.rowAt t20 (Int.toNat t22)) 2)], [Cell.int .i64 (nr (Abs.rowAt t20 (Int.toNat t22)) 3)], [Cell.int .i64 (nr (Abs.rowAt t20 (Int.toNat t22)) 4)], [Cell.int .i64 (nr (Abs.rowAt t20 (Int.toNat t22)) 5)], [Cell.int .i64 (nr (Abs.rowAt t20 (Int.toNat t22)) 6)]]) t20 t21 (IntKind.wrap .i64 (t22 + 1))))
     none)
    none)
   (goF E (callOf L82) F64 0 m P64_1 (M64_1 t0 ([] : List (List Cell)) t5 (t5.length : Int) 0))) := by kernel_rfl
theorem e64_1 (m : Nat) (t0 : List (List Cell)) (t8 : List (List Cell)) (t47 : List (List Cell)) (t48 : Int) (t49 : Int) : goF E (callOf L82) F64 0 (m + 1) P64_1 (M64_1 t0 t8 t47 t48 t49) =
  (cond (decide (t49 < t48))
   (cond (inB t49 t47.length)
    (cond (okEnc t8 (IntKind.wrap .u64 (nr (Abs.rowAt t47 (Int.toNat t49)) 0)))
     (goF E (callOf L82) F64 0 m P64_1 (M64_1 t0 (t8 ++ uenc (IntKind.wrap .u64 (nr (Abs.rowAt t47 (Int.toNat t49)) 0))) t47 t48 (IntKind.wrap .i64 (t49 + 1))))
     none)
    none)
   (cond (inB (t0.length : Int) (t0.length + 1))
    (cond (decide ((t0.length : Int) = (t0.length : Int)))
     (cond (fits ((takeN t0 (Int.toNat (t0.length : Int))).length + t8.length))
      (some ([.one (.sl true 5 ((takeN t0 (Int.toNat (t0.length : Int))) ++ t8))], []))
      none)
     none)
    none)) := by kernel_rfl
noncomputable def P64_0_c1 : List AItem := F64.at [.snd, .snd, .fst, .snd, .sub, .head]
def M64_0_c1 (t0 : List (List Cell)) (t5 : List (List Cell)) (t20 : List (List Cell)) (t21 : Int) (t22 : Int) : St := ⟨[(0, .one (.sl true 5 t0)), (5, .one (.sl true 3 t5)), (20, .one (.sl false 63 t20)), (21, .one (.int .i64 t21)), (22, .one (.int .i64 t22))], []⟩
noncomputable def P64_1_c1 : List AItem := F64.at [.snd, .snd, .snd, .snd, .fst, .snd, .sub, .head]
def M64_1_c1 (t0 : List (List Cell)) (t8 : List (List Cell)) (t47 : List (List Cell)) (t48 : Int) (t49 : Int) : St := ⟨[(0, .one (.sl true 5 t0)), (8, .one (.sl false 5 t8)), (47, .one (.sl false 3 t47)), (48, .one (.int .i64 t48)), (49, .one (.int .i64 t49))], []⟩
theorem e64_c1 (m : Nat) (ap : Int) (np : Int) (cp : List (List Cell)) : runF E (callOf L82) (m + 1) 64 [.one (.nils), .agg [.int .i64 ap, .int .i64 np, .sl false 63 cp]] [] =
  (goF E (callOf L82) F64 0 m P64_0_c1 (M64_0_c1 ([] : List (List Cell)) [[Cell.int .i64 ap], [Cell.int .i64 np], [Cell.int .i64 (cp.length : Int)]] cp (cp.length : Int) 0)) := by kernel_rfl
theorem e64_0_c1 (m : Nat) (t0 : List (List Cell)) (t5 : List (List Cell)) (t20 : List (List Cell)) (t21 : Int) (t22 : Int) : goF E (callOf L82) F64 0 (m + 1) P64_0_c1 (M64_0_c1 t0 t5 t20 t21 t22) =
  (cond (decide (t22 < t21))
   (cond (inB t22 t20.length)
    (cond (fits (t5.length + [[Cell.int .i64 (nr (Abs.rowAt t20 (Int.toNat t22)) 0)], [Cell.int .i64 (nr (Abs.rowAt t20 (Int.toNat t22)) 1)], [Cell.int .i64 (nr (Abs.rowAt t20 (Int.toNat t22)) 2)], [Cell.int .i64 (nr (Abs.rowAt t20 (Int.toNat t22)) 3)], [Cell.int .i64 (nr (Abs.rowAt t20 (Int.toNat t22)) 4)], [Cell.int .i64 (nr (Abs.rowAt t20 (Int.toNat t22)) 5)], [Cell.int .i64 (nr (Abs.rowAt t20 (Int.toNat t22)) 6)]].length))
     (goF E (callOf L82) F64 0 m P64_0_c1 (M64_0_c1 t0 (t5 ++ [[Cell.int .i64 (nr (Abs.rowAt t20 (Int.toNat t22)) 0)], [Cell.int .i64 (nr (Abs.rowAt t20 (Int.toNat t22)) 1)], [Cell.int .i64 (nr (Abs.rowAt t20 (Int.toNat t22)) 2)], [Cell.int .i64 (nr (Abs.rowAt t20 (Int.toNat t22)) 3)], [Cell.int .i64 (nr (Abs.rowAt t20 (Int.toNat t22)) 4)], [Cell.int .i64 (nr (Abs.rowAt t20 (Int.toNat t22)) 5)], [Cell.int .i64 (nr (Abs.rowAt t20 (Int.toNat t22)) 6)]]) t20 t21 (IntKind.wrap .i64 (t22 + 1))))
     none)
    none)
   (goF E (callOf L82) F64 0 m P64_1_c1 (M64_1_c1 t0 ([] : List (List Cell)) t5 (t5.length : Int) 0))) := by kernel_rfl
theorem e64_1_c1 (m : Nat) (t0 : List (List Cell)) (t8 : List (List Cell)) (t47 : List (List Cell)) (t48 : Int) (t49 : Int) : goF E (callOf L82) F64 0 (m + 1) P64_1_c1 (M64_1_c1 t0 t8 t47 t48 t49) =
  (cond (decide (t49 < t48))
   (cond (inB t49 t47.length)
    (cond (okEnc t8 (IntKind.wrap .u64 (nr (Abs.rowAt t47 (Int.toNat t49)) 0)))
     (goF E (callOf L82) F64 0 m P64_1_c1 (M64_1_c1 t0 (t8 ++ uenc (IntKind.wrap .u64 (nr (Abs.rowAt t47 (Int.toNat t49)) 0))) t47 t48 (IntKind.wrap .i64 (t49 + 1))))
     none)
    none)
   (cond (inB (t0.length : Int) (t0.length + 1))
    (cond (decide ((t0.length : Int) = (t0.length : Int)))
     (cond (fits ((takeN t0 (Int.toNat (t0.length : Int))).length + t8.length))
      (some ([.one (.sl true 5 ((takeN t0 (Int.toNat (t0.length : Int))) ++ t8))], []))
      none)
     none)
    none)) := by kernel_rfl

/- elasticstore/proposal.Decode -/
noncomputable def P66_0 : List AItem := F66.at [.snd, .snd, .snd, .snd, .snd, .snd, .fst, .snd, .sub, .head]
def M66_0 (t7 : Int) (t8 : Int) (b0 : Int) (b0_1 : Int) (b0_2 : List (List Cell)) (b1 : List (List Cell)) (b1_1 : Int) (b1_2 : Int) (b2 : Int) (b2_1 : Int) (b2_2 : List (List Cell)) : St := ⟨[(2, .one (.ptr 0 0)), (5, .one (.ptr 1 0)), (6, .one (.ptr 2 0)), (7, .one (.int .i64 t7)), (8, .one (.int .i64 t8))], [.var [.int .i64 b0, .int .i64 b0_1, .sl true 63 b0_2], .var [.sl false 5 b1, .int .i64 b1_1, .int .i64 b1_2], .var [.int .i64 b2, .int .i64 b2_1, .sl true 63 b2_2]]⟩
theorem e66 (m : Nat) (x : List (List Cell)) : runF E (callOf L64) (m + 1) 66 [.one (.sl false 5 x)] [] =
  (cond (okAt x 0)
   (cond (okAt x (rnum x 0 0).2.1)
    (cond (okAt x (rnum x (rnum x 0 0).2.1 (rnum x 0 0).2.2).2.1)
     (cond ((rnum x (rnum x (rnum x 0 0).2.1 (rnum x 0 0).2.2).2.1 (rnum x (rnum x 0 0).2.1 (rnum x 0 0).2.2).2.2).2.2 == 0)
      (cond (decide ((rnum x (rnum x (rnum x 0 0).2.1 (rnum x 0 0).2.2).2.1 (rnum x (rnum x 0 0).2.1 (rnum x 0 0).2.2).2.2).1 > 6))
       (goF E (callOf L64) F66 0 m P66_0 (M66_0 (rnum x (rnum x (rnum x 0 0).2.1 (rnum x 0 0).2.2).2.1 (rnum x (rnum x 0 0).2.1 (rnum x 0 0).2.2).2.2).1 0 0 0 ([] : List (List Cell)) x (rnum x (rnum x (rnum x 0 0).2.1 (rnum x 0 0).2.2).2.1 (rnum x (rnum x 0 0).2.1 (rnum x 0 0).2.2).2.2).2.1 3 (rnum x 0 0).1 (rnum x (rnum x 0 0).2.1 (rnum x 0 0).2.2).1 ([] : List (List Cell))))
       (goF E (callOf L64) F66 0 m P66_0 (M66_0 (rnum x (rnum x (rnum x 0 0).2.1 (rnum x 0 0).2.2).2.1 (rnum x (rnum x 0 0).2.1 (rnum x 0 0).2.2).2.2).1 0 0 0 ([] : List (List Cell)) x (rnum x (rnum x (rnum x 0 0).2.1 (rnum x 0 0).2.2).2.1 (rnum x (rnum x 0 0).2.1 (rnum x 0 0).2.2).2.2).2.1 (rnum x (rnum x (rnum x 0 0).2.1 (rnum x 0 0).2.2).2.1 (rnum x (rnum x 0 0).2.1 (rnum x 0 0).2.2).2.2).2.2 (rnum x 0 0).1 (rnum x (rnum x 0 0).2.1 (rnum x 0 0).2.2).1 ([] : List (List Cell)))))
      (goF E (callOf L64) F66 0 m P66_0 (M66_0 (rnum x (rnum x (rnum x 0 0).2.1 (rnum x 0 0).2.2).2.1 (rnum x (rnum x 0 0).2.1 (rnum x 0 0).2.2).2.2).1 0 0 0 ([] : List (List Cell)) x (rnum x (rnum x (rnum x 0 0).2.1 (rnum x 0 0).2.2).2.1 (rnum x (rnum x 0 0).2.1 (rnum x 0 0).2.2).2.2).2.1 (rnum x (rnum x (rnum x 0 0).2.1 (rnum x 0 0).2.2).2.1 (rnum x (rnum x 0 0).2.1 (rnum x 0 0).2.2).2.2).2.2 (rnum x 0 0).1 (rnum x (rnum x 0 0).2.1 (rnum x 0 0).2.2).1 ([] : List (List Cell)))))
     none)
    none)
   none) := by kernel_rfl
theorem e66_0 (m : Nat) (t7 : Int) (t8 : Int) (b0 : Int) (b0_1 : Int) (b0_2 : List (List Cell)) (b1 : List (List Cell)) (b1_1 : Int) (b1_2 : Int) (b2 : Int) (b2_1 : Int) (b2_2 : List (List Cell)) : goF E (callOf L64) F66 0 (m + 1) P66_0 (M66_0 t7 t8 b0 b0_1 b0_2 b1 b1_1 b1_2 b2 b2_1 b2_2) =
  (cond (decide (t8 < t7))
   (cond (b1_2 == 0)
    (cond (okAt b1 b1_1)
     (cond (okAt b1 (rnum b1 b1_1 b1_2).2.1)
      (cond (okAt b1 (rnum b1 (rnum b1 b1_1 b1_2).2.1 (rnum b1 b1_1 b1_2).2.2).2.1)
       (cond (okAt b1 (rnum b1 (rnum b1 (rnum b1 b1_1 b1_2).2.1 (rnum b1 b1_1 b1_2).2.2).2.1 (rnum b1 (rnum b1 b1_1 b1_2).2.1 (rnum b1 b1_1 b1_2).2.2).2.2).2.1)
        (cond (okAt b1 (rnum b1 (rnum b1 (rnum b1 (rnum b1 b1_1 b1_2).2.1 (rnum b1 b1_1 b1_2).2.2).2.1 (rnum b1 (rnum b1 b1_1 b1_2).2.1 (rnum b1 b1_1 b1_2).2.2).2.2).2.1 (rnum b1 (rnum b1 (rnum b1 b1_1 b1_2).2.1 (rnum b1 b1_1 b1_2).2.2).2.1 (rnum b1 (rnum b1 b1_1 b1_2).2.1 (rnum b1 b1_1 b1_2).2.2).2.2).2.2).2.1)
         (cond (okAt b1 (rnum b1 (rnum b1 (rnum b1 (rnum b1 (rnum b1 b1_1 b1_2).2.1 (rnum b1 b1_1 b1_2).2.2).2.1 (rnum b1 (rnum b1 b1_1 b1_2).2.1 (rnum b1 b1_1 b1_2).2.2).2.2).2.1 (rnum b1 (rnum b1 (rnum b1 b1_1 b1_2).2.1 (rnum b1 b1_1 b1_2).2.2).2.1 (rnum b1 (rnum b1 b1_1 b1_2).2.1 (rnum b1 b1_1 b1_2).2.2).2.2).2.2).2.1 (rnum b1 (rnum b1 (rnum b1 (rnum b1 b1_1 b1_2).2.1 (rnum b1 b1_1 b1_2).2.2).2.1 (rnum b1 (rnum b1 b1_1 b1_2).2.1 (rnum b1 b1_1 b1_2).2.2).2.2).2.1 (rnum b1 (rnum b1 (rnum b1 b1_1 b1_2).2.1 (rnum b1 b1_1 b1_2).2.2).2.1 (rnum b1 (rnum b1 b1_1 b1_2).2.1 (rnum b1 b1_1 b1_2).2.2).2.2).2.2).2.2).2.1)
          (cond (okAt b1 (rnum b1 (rnum b1 (rnum b1 (rnum b1 (rnum b1 (rnum b1 b1_1 b1_2).2.1 (rnum b1 b1_1 b1_2).2.2).2.1 (rnum b1 (rnum b1 b1_1 b1_2).2.1 (rnum b1 b1_1 b1_2).2.2).2.2).2.1 (rnum b1 (rnum b1 (rnum b1 b1_1 b1_2).2.1 (rnum b1 b1_1 b1_2).2.2).2.1 (rnum b1 (rnum b1 b1_1 b1_2).2.1 (rnum b1 b1_1 b1_2).2.2).2.2).2.2).2.1 (rnum b1 (rnum b1 (rnum b1 (rnum b1 b1_1 b1_2).2.1 (rnum b1 b1_1 b1_2).2.2).2.1 (rnum b1 (rnum b1 b1_1 b1_2).2.1 (rnum b1 b1_1 b1_2).2.2).2.2).2.1 (rnum b1 (rnum b1 (rnum b1 b1_1 b1_2).2.1 (rnum b1 b1_1 b1_2).2.2).2.1 (rnum b1 (rnum b1 b1_1 b1_2).2.1 (rnum b1 b1_1 b1_2).2.2).2.2).2.2).2.2).2.1 (rnum b1 (rnum b1 (rnum b1 (rnum b1 (rnum b1 b1_1 b1_2).2.1 (rnum b1 b1_1 b1_2).2.2).2.1 (rnum b1 (rnum b1 b1_1 b1_2).2.1 (rnum b1 b1_1 b1_2).2.2).2.2).2.1 (rnum b1 (rnum b1 (rnum b1 b1_1 b1_2).2.1 (rnum b1 b1_1 b1_2).2.2).2.1 (rnum b1 (rnum b1 b1_1 b1_2).2.1 (rnum b1 b1_1 b1_2).2.2).2.2).2.2).2.1 (rnum b1 (rnum b1 (rnum b1 (rnum b1 b1_1 b1_2).2.1 (rnum b1 b1_1 b1_2).2.2).2.1 (rnum b1 (rnum b1 b1_1 b1_2).2.1 (rnum b1 b1_1 b1_2).2.2).2.2).2.1 (rnum b1 (rnum b1 (rnum b1 b1_1 b1_2).2.1 (rnum b1 b1_1 b1_2).2.2).2.1 (rnum b1 (rnum b1 b1_1 b1_2).2.1 (rnum b1 b1_1 b1_2).2.2).2.2).2.2).2.2).2.2).2.1)
           (cond (fits (b2_2.length + [[Cell.int .i64 (rnum b1 b1_1 b1_2).1, Cell.int .i64 (rnum b1 (rnum b1 b1_1 b1_2).2.1 (rnum b1 b1_1 b1_2).2.2).1, Cell.int .i64 (rnum b1 (rnum b1 (rnum b1 b1_1 b1_2).2.1 (rnum b1 b1_1 b1_2).2.2).2.1 (rnum b1 (rnum b1 b1_1 b1_2).2.1 (rnum b1 b1_1 b1_2).2.2).2.2).1, Cell.int .i64 (rnum b1 (rnum b1 (rnum b1 (rnum b1 b1_1 b1_2).2.1 (rnum b1 b1_1 b1_2).2.2).2.1 (rnum b1 (rnum b1 b1_1 b1_2).2.1 (rnum b1 b1_1 b1_2).2.2).2.2).2.1 (rnum b1 (rnum b1 (rnum b1 b1_1 b1_2).2.1 (rnum b1 b1_1 b1_2).2.2).2.1 (rnum b1 (rnum b1 b1_1 b1_2).2.1 (rnum b1 b1_1 b1_2).2.2).2.2).2.2).1, Cell.int .i64 (rnum b1 (rnum b1 (rnum b1 (rnum b1 (rnum b1 b1_1 b1_2).2.1 (rnum b1 b1_1 b1_2).2.2).2.1 (rnum b1 (rnum b1 b1_1 b1_2).2.1 (rnum b1 b1_1 b1_2).2.2).2.2).2.1 (rnum b1 (rnum b1 (rnum b1 b1_1 b1_2).2.1 (rnum b1 b1_1 b1_2).2.2).2.1 (rnum b1 (rnum b1 b1_1 b1_2).2.1 (rnum b1 b1_1 b1_2).2.2).2.2).2.2).2.1 (rnum b1 (rnum b1 (rnum b1 (rnum b1 b1_1 b1_2).2.1 (rnum b1 b1_1 b1_2).2.2).2.1 (rnum b1 (rnum b1 b1_1 b1_2).2.1 (rnum b1 b1_1 b1_2).2.2).2.2).2.1 (rnum b1 (rnum b1 (rnum b1 b1_1 b1_2).2.1 (rnum b1 b1_1 b1_2).2.2).2.1 (rnum b1 (rnum b1 b1_1 b1_2).2.1 (rnum b1 b1_1 b1_2).2.2).2.2).2.2).2.2).1, Cell.int .i64 (rnum b1 (rnum b1 (rnum b1 (rnum b1 (rnum b1 (rnum b1 b1_1 b1_2).2.1 (rnum b1 b1_1 b1_2).2.2).2.1 (rnum b1 (rnum b1 b1_1 b1_2).2.1 (rnum b1 b1_1 b1_2).2.2).2.2).2.1 (rnum b1 (rnum b1 (rnum b1 b1_1 b1_2).2.1 (rnum b1 b1_1 b1_2).2.2).2.1 (rnum b1 (rnum b1 b1_1 b1_2).2.1 (rnum b1 b1_1 b1_2).2.2).2.2).2.2).2.1 (rnum b1 (rnum b1 (rnum b1 (rnum b1 b1_1 b1_2).2.1 (rnum b1 b1_1 b1_2).2.2).2.1 (rnum b1 (rnum b1 b1_1 b1_2).2.1 (rnum b1 b1_1 b1_2).2.2).2.2).2.1 (rnum b1 (rnum b1 (rnum b1 b1_1 b1_2).2.1 (rnum b1 b1_1 b1_2).2.2).2.1 (rnum b1 (rnum b1 b1_1 b1_2).2.1 (rnum b1 b1_1 b1_2).2.2).2.2).2.2).2.2).2.1 (rnum b1 (rnum b1 (rnum b1 (rnum b1 (rnum b1 b1_1 b1_2).2.1 (rnum b1 b1_1 b1_2).2.2).2.1 (rnum b1 (rnum b1 b1_1 b1_2).2.1 (rnum b1 b1_1 b1_2).2.2).2.2).2.1 (rnum b1 (rnum b1 (rnum b1 b1_1 b1_2).2.1 (rnum b1 b1_1 b1_2).2.2).2.1 (rnum b1 (rnum b1 b1_1 b1_2).2.1 (rnum b1 b1_1 b1_2).2.2).2.2).2.2).2.1 (rnum b1 (rnum b1 (rnum b1 (rnum b1 b1_1 b1_2).2.1 (rnum b1 b1_1 b1_2).2.2).2.1 (rnum b1 (rnum b1 b1_1 b1_2).2.1 (rnum b1 b1_1 b1_2).2.2).2.2).2.1 (rnum b1 (rnum b1 (rnum b1 b1_1 b1_2).2.1 (rnum b1 b1_1 b1_2).2.2).2.1 (rnum b1 (rnum b1 b1_1 b1_2).2.1 (rnum b1 b1_1 b1_2).2.2).2.2).2.2).2.2).2.2).1, Cell.int .i64 (rnum b1 (rnum b1 (rnum b1 (rnum b1 (rnum b1 (rnum b1 (rnum b1 b1_1 b1_2).2.1 (rnum b1 b1_1 b1_2).2.2).2.1 (rnum b1 (rnum b1 b1_1 b1_2).2.1 (rnum b1 b1_1 b1_2).2.2).2.2).2.1 (rnum b1 (rnum b1 (rnum b1 b1_1 b1_2).2.1 (rnum b1 b1_1 b1_2).2.2).2.1 (rnum b1 (rnum b1 b1_1 b1_2).2.1 (rnum b1 b1_1 b1_2).2.2).2.2).2.2).2.1 (rnum b1 (rnum b1 (rnum b1 (rnum b1 b1_1 b1_2).2.1 (rnum b1 b1_1 b1_2).2.2).2.1 (rnum b1 (rnum b1 b1_1 b1_2).2.1 (rnum b1 b1_1 b1_2).2.2).2.2).2.1 (rnum b1 (rnum b1 (rnum b1 b1_1 b1_2).2.1 (rnum b1 b1_1 b1_2).2.2).2.1 (rnum b1 (rnum b1 b1_1 b1_2).2.1 (rnum b1 b1_1 b1_2).2.2).2.2).2.2).2.2).2.1 (rnum b1 (rnum b1 (rnum b1 (rnum b1 (rnum b1 b1_1 b1_2).2.1 (rnum b1 b1_1 b1_2).2.2).2.1 (rnum b1 (rnum b1 b1_1 b1_2).2.1 (rnum b1 b1_1 b1_2).2.2).2.2).2.1 (rnum b1 (rnum b1 (rnum b1 b1_1 b1_2).2.1 (rnum b1 b1_1 b1_2).2.2).2.1 (rnum b1 (rnum b1 b1_1 b1_2).2.1 (rnum b1 b1_1 b1_2).2.2).2.2).2.2).2.1 (rnum b1 (rnum b1 (rnum b1 (rnum b1 b1_1 b1_2).2.1 (rnum b1 b1_1 b1_2).2.2).2.1 (rnum b1 (rnum b1 b1_1 b1_2).2.1 (rnum b1 b1_1 b1_2).2.2).2.2).2.1 (rnum b1 (rnum b1 (rnum b1 b1_1 b1_2).2.1 (rnum b1 b1_1 b1_2).2.2).2.1 (rnum b1 (rnum b1 b1_1 b1_2).2.1 (rnum b1 b1_1 b1_2).2.2).2.2).2.2).2.2).2.2).2.1 (rnum b1 (rnum b1 (rnum b1 (rnum b1 (rnum b1 (rnum b1 b1_1 b1_2).2.1 (rnum b1 b1_1 b1_2).2.2).2.1 (rnum b1 (rnum b1 b1_1 b1_2).2.1 (rnum b1 b1_1 b1_2).2.2).2.2).2.1 (rnum b1 (rnum b1 (rnum b1 b1_1 b1_2).2.1 (rnum b1 b1_1 b1_2).2.2).2.1 (rnum b1 (rnum b1 b1_1 b1_2).2.1 (rnum b1 b1_1 b1_2).2.2).2.2).2.2).2.1 (rnum b1 (rnum b1 (rnum b1 (rnum b1 b1_1 b1_2).2.1 (rnum b1 b1_1 b1_2).2.2).2.1 (rnum b1 (rnum b1 b1_1 b1_2).2.1 (rnum b1 b1_1 b1_2).2.2).2.2).2.1 (rnum b1 (rnum b1 (rnum b1 b1_1 b1_2).2.1 (rnum b1 b1_1 b1_2).2.2).2.1 (rnum b1 (rnum b1 b1_1 b1_2).2.1 (rnum b1 b1_1 b1_2).2.2).2.2).2.2).2.2).2.1 (rnum b1 (rnum b1 (rnum b1 (rnum b1 (rnum b1 b1_1 b1_2).2.1 (rnum b1 b1_1 b1_2).2.2).2.1 (rnum b1 (rnum b1 b1_1 b1_2).2.1 (rnum b1 b1_1 b1_2).2.2).2.2).2.1 (rnum b1 (rnum b1 (rnum b1 b1_1 b1_2).2.1 (rnum b1 b1_1 b1_2).2.2).2.1 (rnum b1 (rnum b1 b1_1 b1_2).2.1 (rnum b1 b1_1 b1_2).2.2).2.2).2.2).2.1 (rnum b1 (rnum b1 (rnum b1 (rnum b1 b1_1 b1_2).2.1 (rnum b1 b1_1 b1_2).2.2).2.1 (rnum b1 (rnum b1 b1_1 b1_2).2.1 (rnum b1 b1_1 b1_2).2.2).2.2).2.1 (rnum b1 (rnum b1 (rnum b1 b1_1 b1_2).2.1 (rnum b1 b1_1 b1_2).2.2).2.1 (rnum b1 (rnum b1 b1_1 b1_2).2.1 (rnum b1 b1_1 b1_2).2.2).2.2).2.2).2.2).2.2).2.2).1]].length))
            (goF E (callOf L64) F66 0 m P66_0 (M66_0 t7 (IntKind.wrap .i64 (t8 + 1)) b0 b0_1 b0_2 b1 (rnum b1 (rnum b1 (rnum b1 (rnum b1 (rnum b1 (rnum b1 (rnum b1 b1_1 b1_2).2.1 (rnum b1 b1_1 b1_2).2.2).2.1 (rnum b1 (rnum b1 b1_1 b1_2).2.1 (rnum b1 b1_1 b1_2).2.2).2.2).2.1 (rnum b1 (rnum b1 (rnum b1 b1_1 b1_2).2.1 (rnum b1 b1_1 b1_2).2.2).2.1 (rnum b1 (rnum b1 b1_1 b1_2).2.1 (rnum b1 b1_1 b1_2).2.2).2.2).2.2).2.1 (rnum b1 (rnum b1 (rnum b1 (rnum b1 b1_1 b1_2).2.1 (rnum b1 b1_1 b1_2).2.2).2.1 (rnum b1 (rnum b1 b1_1 b1_2).2.1 (rnum b1 b1_1 b1_2).2.2).2.2).2.1 (rnum b1 (rnum b1 (rnum b1 b1_1 b1_2).2.1 (rnum b1 b1_1 b1_2).2.2).2.1 (rnum b1 (rnum b1 b1_1 b1_2).2.1 (rnum b1 b1_1 b1_2).2.2).2.2).2.2).2.2).2.1 (rnum b1 (rnum b1 (rnum b1 (rnum b1 (rnum b1 b1_1 b1_2).2.1 (rnum b1 b1_1 b1_2).2.2).2.1 (rnum b1 (rnum b1 b1_1 b1_2).2.1 (rnum b1 b1_1 b1_2).2.2).2.2).2.1 (rnum b1 (rnum b1 (rnum b1 b1_1 b1_2).2.1 (rnum b1 b1_1 b1_2).2.2).2.1 (rnum b1 (rnum b1 b1_1 b1_2).2.1 (rnum b1 b1_1 b1_2).2.2).2.2).2.2).2.1 (rnum b1 (rnum b1 (rnum b1 (rnum b1 b1_1 b1_2).2.1 (rnum b1 b1_1 b1_2).2.2).2.1 (rnum b1 (rnum b1 b1_1 b1_2).2.1 (rnum b1 b1_1 b1_2).2.2).2.2).2.1 (rnum b1 (rnum b1 (rnum b1 b1_1 b1_2).2.1 (rnum b1 b1_1 b1_2).2.2).2.1 (rnum b1 (rnum b1 b1_1 b1_2).2.1 (rnum b1 b1_1 b1_2).2.2).2.2).2.2).2.2).2.2).2.1 (rnum b1 (rnum b1 (rnum b1 (rnum b1 (rnum b1 (rnum b1 b1_1 b1_2).2.1 (rnum b1 b1_1 b1_2).2.2).2.1 (rnum b1 (rnum b1 b1_1 b1_2).2.1 (rnum b1 b1_1 b1_2).2.2).2.2).2.1 (rnum b1 (rnum b1 (rnum b1 b1_1 b1_2).2.1 (rnum b1 b1_1 b1_2).2.2).2.1 (rnum b1 (rnum b1 b1_1 b1_2).2.1 (rnum b1 b1_1 b1_2).2.2).2.2).2.2).2.1 (rnum b1 (rnum b1 (rnum b1 (rnum b1 b1_1 b1_2).2.1 (rnum b1 b1_1 b1_2).2.2).2.1 (rnum b1 (rnum b1 b1_1 b1_2).2.1 (rnum b1 b1_1 b1_2).2.2).2.2).2.1 (rnum b1 (rnum b1 (rnum b1 b1_1 b1_2).2.1 (rnum b1 b1_1 b1_2).2.2).2.1 (rnum b1 (rnum b1 b1_1 b1_2).2.1 (rnum b1 b1_1 b1_2).2.2).2.2).2.2).2.2).2.1 (rnum b1 (rnum b1 (rnum b1 (rnum b1 (rnum b1 b1_1 b1_2).2.1 (rnum b1 b1_1 b1_2).2.2).2.1 (rnum b1 (rnum b1 b1_1 b1_2).2.1 (rnum b1 b1_1 b1_2).2.2).2.2).2.1 (rnum b1 (rnum b1 (rnum b1 b1_1 b1_2).2.1 (rnum b1 b1_1 b1_2).2.2).2.1 (rnum b1 (rnum b1 b1_1 b1_2).2.1 (rnum b1 b1_1 b1_2).2.2).2.2).2.2).2.1 (rnum b1 (rnum b1 (rnum b1 (rnum b1 b1_1 b1_2).2.1 (rnum b1 b1_1 b1_2).2.2).2.1 (rnum b1 (rnum b1 b1_1 b1_2).2.1 (rnum b1 b1_1 b1_2).2.2).2.2).2.1 (rnum b1 (rnum b1 (rnum b1 b1_1 b1_2).2.1 (rnum b1 b1_1 b1_2).2.2).2.1 (rnum b1 (rnum b1 b1_1 b1_2).2.1 (rnum b1 b1_1 b1_2).2.2).2.2).2.2).2.2).2.2).2.2).2.1 (rnum b1 (rnum b1 (rnum b1 (rnum b1 (rnum b1 (rnum b1 (rnum b1 b1_1 b1_2).2.1 (rnum b1 b1_1 b1_2).2.2).2.1 (rnum b1 (rnum b1 b1_1 b1_2).2.1 (rnum b1 b1_1 b1_2).2.2).2.2).2.1 (rnum b1 (rnum b1 (rnum b1 b1_1 b1_2).2.1 (rnum b1 b1_1 b1_2).2.2).2.1 (rnum b1 (rnum b1 b1_1 b1_2).2.1 (rnum b1 b1_1 b1_2).2.2).2.2).2.2).2.1 (rnum b1 (rnum b1 (rnum b1 (rnum b1 b1_1 b1_2).2.1 (rnum b1 b1_1 b1_2).2.2).2.1 (rnum b1 (rnum b1 b1_1 b1_2).2.1 (rnum b1 b1_1 b1_2).2.2).2.2).2.1 (rnum b1 (rnum b1 (rnum b1 b1_1 b1_2).2.1 (rnum b1 b1_1 b1_2).2.2).2.1 (rnum b1 (rnum b1 b1_1 b1_2).2.1 (rnum b1 b1_1 b1_2).2.2).2.2).2.2).2.2).2.1 (rnum b1 (rnum b1 (rnum b1 (rnum b1 (rnum b1 b1_1 b1_2).2.1 (rnum b1 b1_1 b1_2).2.2).2.1 (rnum b1 (rnum b1 b1_1 b1_2).2.1 (rnum b1 b1_1 b1_2).2.2).2.2).2.1 (rnum b1 (rnum b1 (rnum b1 b1_1 b1_2).2.1 (rnum b1 b1_1 b1_2).2.2).2.1 (rnum b1 (rnum b1 b1_1 b1_2).2.1 (rnum b1 b1_1 b1_2).2.2).2.2).2.2).2.1 (rnum b1 (rnum b1 (rnum b1 (rnum b1 b1_1 b1_2).2.1 (rnum b1 b1_1 b1_2).2.2).2.1 (rnum b1 (rnum b1 b1_1 b1_2).2.1 (rnum b1 b1_1 b1_2).2.2).2.2).2.1 (rnum b1 (rnum b1 (rnum b1 b1_1 b1_2).2.1 (rnum b1 b1_1 b1_2).2.2).2.1 (rnum b1 (rnum b1 b1_1 b1_2).2.1 (rnum b1 b1_1 b1_2).2.2).2.2).2.2).2.2).2.2).2.1 (rnum b1 (rnum b1 (rnum b1 (rnum b1 (rnum b1 (rnum b1 b1_1 b1_2).2.1 (rnum b1 b1_1 b1_2).2.2).2.1 (rnum b1 (rnum b1 b1_1 b1_2).2.1 (rnum b1 b1_1 b1_2).2.2).2.2).2.1 (rnum b1 (rnum b1 (rnum b1 b1_1 b1_2).2.1 (rnum b1 b1_1 b1_2).2.2).2.1 (rnum b1 (rnum b1 b1_1 b1_2).2.1 (rnum b1 b1_1 b1_2).2.2).2.2).2.2).2.1 (rnum b1 (rnum b1 (rnum b1 (rnum b1 b1_1 b1_2).2.1 (rnum b1 b1_1 b1_2).2.2).2.1 (rnum b1 (rnum b1 b1_1 b1_2).2.1 (rnum b1 b1_1 b1_2).2.2).2.2).2.1 (rnum b1 (rnum b1 (rnum b1 b1_1 b1_2).2.1 (rnum b1 b1_1 b1_2).2.2).2.1 (rnum b1 (rnum b1 b1_1 b1_2).2.1 (rnum b1 b1_1 b1_2).2.2).2.2).2.2).2.2).2.1 (rnum b1 (rnum b1 (rnum b1 (rnum b1 (rnum b1 b1_1 b1_2).2.1 (rnum b1 b1_1 b1_2).2.2).2.1 (rnum b1 (rnum b1 b1_1 b1_2).2.1 (rnum b1 b1_1 b1_2).2.2).2.2).2.1 (rnum b1 (rnum b1 (rnum b1 b1_1 b1_2).2.1 (rnum b1 b1_1 b1_2).2.2).2.1 (rnum b1 (rnum b1 b1_1 b1_2).2.1 (rnum b1 b1_1 b1_2).2.2).2.2).2.2).2.1 (rnum b1 (rnum b1 (rnum b1 (rnum b1 b1_1 b1_2).2.1 (rnum b1 b1_1 b1_2).2.2).2.1 (rnum b1 (rnum b1 b1_1 b1_2).2.1 (rnum b1 b1_1 b1_2).2.2).2.2).2.1 (rnum b1 (rnum b1 (rnum b1 b1_1 b1_2).2.1 (rnum b1 b1_1 b1_2).2.2).2.1 (rnum b1 (rnum b1 b1_1 b1_2).2.1 (rnum b1 b1_1 b1_2).2.2).2.2).2.2).2.2).2.2).2.2).2.2 b2 b2_1 (b2_2 ++ [[Cell.int .i64 (rnum b1 b1_1 b1_2).1, Cell.int .i64 (rnum b1 (rnum b1 b1_1 b1_2).2.1 (rnum b1 b1_1 b1_2).2.2).1, Cell.int .i64 (rnum b1 (rnum b1 (rnum b1 b1_1 b1_2).2.1 (rnum b1 b1_1 b1_2).2.2).2.1 (rnum b1 (rnum b1 b1_1 b1_2).2.1 (rnum b1 b1_1 b1_2).2.2).2.2).1, Cell.int .i64 (rnum b1 (rnum b1 (rnum b1 (rnum b1 b1_1 b1_2).2.1 (rnum b1 b1_1 b1_2).2.2).2.1 (rnum b1 (rnum b1 b1_1 b1_2).2.1 (rnum b1 b1_1 b1_2).2.2).2.2).2.1 (rnum b1 (rnum b1 (rnum b1 b1_1 b1_2).2.1 (rnum b1 b1_1 b1_2).2.2).2.1 (rnum b1 (rnum b1 b1_1 b1_2).2.1 (rnum b1 b1_1 b1_2).2.2).2.2).2.2).1, Cell.int .i64 (rnum b1 (rnum b1 (rnum b1 (rnum b1 (rnum b1 b1_1 b1_2).2.1 (rnum b1 b1_1 b1_2).2.2).2.1 (rnum b1 (rnum b1 b1_1 b1_2).2.1 (rnum b1 b1_1 b1_2).2.2).2.2).2.1 (rnum b1 (rnum b1 (rnum b1 b1_1 b1_2).2.1 (rnum b1 b1_1 b1_2).2.2).2.1 (rnum b1 (rnum b1 b1_1 b1_2).2.1 (rnum b1 b1_1 b1_2).2.2).2.2).2.2).2.1 (rnum b1 (rnum b1 (rnum b1 (rnum b1 b1_1 b1_2).2.1 (rnum b1 b1_1 b1_2).2.2).2.1 (rnum b1 (rnum b1 b1_1 b1_2).2.1 (rnum b1 b1_1 b1_2).2.2).2.2).2.1 (rnum b1 (rnum b1 (rnum b1 b1_1 b1_2).2.1 (rnum b1 b1_1 b1_2).2.2).2.1 (rnum b1 (rnum b1 b1_1 b1_2).2.1 (rnum b1 b1_1 b1_2).2.2).2.2).2.2).2.2).1, Cell.int .i64 (rnum b1 (rnum b1 (rnum b1 (rnum b1 (rnum b1 (rnum b1 b1_1 b1_2).2.1 (rnum b1 b1_1 b1_2).2.2).2.1 (rnum b1 (rnum b1 b1_1 b1_2).2.1 (rnum b1 b1_1 b1_2).2.2).2.2).2.1 (rnum b1 (rnum b1 (rnum b1 b1_1 b1_2).2.1 (rnum b1 b1_1 b1_2).2.2).2.1 (rnum b1 (rnum b1 b1_1 b1_2).2.1 (rnum b1 b1_1 b1_2).2.2).2.2).2.2).2.1 (rnum b1 (rnum b1 (rnum b1 (rnum b1 b1_1 b1_2).2.1 (rnum b1 b1_1 b1_2).2.2).2.1 (rnum b1 (rnum b1 b1_1 b1_2).2.1 (rnum b1 b1_1 b1_2).2.2).2.2).2.1 (rnum b1 (rnum b1 (rnum b1 b1_1 b1_2).2.1 (rnum b1 b1_1 b1_2).2.2).2.1 (rnum b1 (rnum b1 b1_1 b1_2).2.1 (rnum b1 b1_1 b1_2).2.2).2.2).2.2).2.2).2.1 (rnum b1 (rnum b1 (rnum b1 (rnum b1 (rnum b1 b1_1 b1_2).2.1 (rnum b1 b1_1 b1_2).2.2).2.1 (rnum b1 (rnum b1 b1_1 b1_2).2.1 (rnum b1 b1_1 b1_2).2.2).2.2).2.1 (rnum b1 (rnum b1 (rnum b1 b1_1 b1_2).2.1 (rnum b1 b1_1 b1_2).2.2).2.1 (rnum b1 (rnum b1 b1_1 b1_2).2.1 (rnum b1 b1_1 b1_2).2.2).2.2).2.2).2.1 (rnum b1 (rnum b1 (rnum b1 (rnum b1 b1_1 b1_2).2.1 (rnum b1 b1_1 b1_2).2.2).2.1 (rnum b1 (rnum b1 b1_1 b1_2).2.1 (rnum b1 b1_1 b1_2).2.2).2.2).2.1 (rnum b1 (rnum b1 (rnum b1 b1_1 b1_2).2.1 (rnum b1 b1_1 b1_2).2.2).2.1 (rnum b1 (rnum b1 b1_1 b1_2).2.1 (rnum b1 b1_1 b1_2).2.2).2.2).2.2).2.2).2.2).1, Cell.int .i64 (rnum b1 (rnum b1 (rnum b1 (rnum b1 (rnum b1 (rnum b1 (rnum b1 b1_1 b1_2).2.1 (rnum b1 b1_1 b1_2).2.2).2.1 (rnum b1 (rnum b1 b1_1 b1_2).2.1 (rnum b1 b1_1 b1_2).2.2).2.2).2.1 (rnum b1 (rnum b1 (rnum b1 b1_1 b1_2).2.1 (rnum b1 b1_1 b1_2).2.2).2.1 (rnum b1 (rnum b1 b1_1 b1_2).2.1 (rnum b1 b1_1 b1_2).2.2).2.2).2.2).2.1 (rnum b1 (rnum b1 (rnum b1 (rnum b1 b1_1 b1_2).2.1 (rnum b1 b1_1 b1_2).2.2).2.1 (rnum b1 (rnum b1 b1_1 b1_2).2.1 (rnum b1 b1_1 b1_2).2.2).2.2).2.1 (rnum b1 (rnum b1 (rnum b1 b1_1 b1_2).2.1 (rnum b1 b1_1 b1_2).2.2).2.1 (rnum b1 (rnum b1 b1_1 b1_2).2.1 (rnum b1 b1_1 b1_2).2.2).2.2).2.2).2.2).2.1 (rnum b1 (rnum b1 (rnum b1 (rnum b1 (rnum b1 b1_1 b1_2).2.1 (rnum b1 b1_1 b1_2).2.2).2.1 (rnum b1 (rnum b1 b1_1 b1_2).2.1 (rnum b1 b1_1 b1_2).2.2).2.2).2.1 (rnum b1 (rnum b1 (rnum b1 b1_1 b1_2).2.1 (rnum b1 b1_1 b1_2).2.2).2.1 (rnum b1 (rnum b1 b1_1 b1_2).2.1 (rnum b1 b1_1 b1_2).2.2).2.2).2.2).2.1 (rnum b1 (rnum b1 (rnum b1 (rnum b1 b1_1 b1_2).2.1 (rnum b1 b1_1 b1_2).2.2).2.1 (rnum b1 (rnum b1 b1_1 b1_2).2.1 (rnum b1 b1_1 b1_2).2.2).2.2).2.1 (rnum b1 (rnum b1 (rnum b1 b1_1 b1_2).2.1 (rnum b1 b1_1 b1_2).2.2).2.1 (rnum b1 (rnum b1 b1_1 b1_2).2.1 (rnum b1 b1_1 b1_2).2.2).2.2).2.2).2.2).2.2).2.1 (rnum b1 (rnum b1 (rnum b1 (rnum b1 (rnum b1 (rnum b1 b1_1 b1_2).2.1 (rnum b1 b1_1 b1_2).2.2).2.1 (rnum b1 (rnum b1 b1_1 b1_2).2.1 (rnum b1 b1_1 b1_2).2.2).2.2).2.1 (rnum b1 (rnum b1 (rnum b1 b1_1 b1_2).2.1 (rnum b1 b1_1 b1_2).2.2).2.1 (rnum b1 (rnum b1 b1_1 b1_2).2.1 (rnum b1 b1_1 b1_2).2.2).2.2).2.2).2.1 (rnum b1 (rnum b1 (rnum b1 (rnum b1 b1_1 b1_2).2.1 (rnum b1 b1_1 b1_2).2.2).2.1 (rnum b1 (rnum b1 b1_1 b1_2).2.1 (rnum b1 b1_1 b1_2).2.2).2.2).2.1 (rnum b1 (rnum b1 (rnum b1 b1_1 b1_2).2.1 (rnum b1 b1_1 b1_2).2.2).2.1 (rnum b1 (rnum b1 b1_1 b1_2).2.1 (rnum b1 b1_1 b1_2).2.2).2.2).2.2).2.2).2.1 (rnum b1 (rnum b1 (rnum b1 (rnum b1 (rnum b1 b1_1 b1_2).2.1 (rnum b1 b1_1 b1_2).2.2).2.1 (rnum b1 (rnum b1 b1_1 b1_2).2.1 (rnum b1 b1_1 b1_2).2.2).2.2).2.1 (rnum b1 (rnum b1 (rnum b1 b1_1 b1_2).2.1 (rnum b1 b1_1 b1_2).2.2).2.1 (rnum b1 (rnum b1 b1_1 b1_2).2.1 (rnum b1 b1_1 b1_2).2.2).2.2).2.2).2.1 (rnum b1 (rnum b1 (rnum b1 (rnum b1 b1_1 b1_2).2.1 (rnum b1 b1_1 b1_2).2.2).2.1 (rnum b1 (rnum b1 b1_1 b1_2).2.1 (rnum b1 b1_1 b1_2).2.2).2.2).2.1 (rnum b1 (rnum b1 (rnum b1 b1_1 b1_2).2.1 (rnum b1 b1_1 b1_2).2.2).2.1 (rnum b1 (rnum b1 b1_1 b1_2).2.1 (rnum b1 b1_1 b1_2).2.2).2.2).2.2).2.2).2.2).2.2).1]])))
            none)
           none)
          none)
         none)
        none)
       none)
      none)
     none)
    (cond (b1_2 == 0)
     (cond (decide (b2_2.length < 9223372036854775808))
      (cond ((vProp b2 b2_1 b2_2) != 0)
       (some ([.agg [.int .i64 0, .int .i64 0, .sl true 63 ([] : List (List Cell))], .one (.int .i64 0), .one (.int .i64 (vProp b2 b2_1 b2_2))], []))
       (some ([.agg [.int .i64 b2, .int .i64 b2_1, .sl true 63 b2_2], .one (.int .i64 b1_1), .one (.int .i64 0)], [])))
      none)
     (cond (b1_2 != 0)
      (some ([.agg [.int .i64 0, .int .i64 0, .sl true 63 ([] : List (List Cell))], .one (.int .i64 0), .one (.int .i64 b1_2)], []))
      (some ([.agg [.int .i64 b2, .int .i64 b2_1, .sl true 63 b2_2], .one (.int .i64 b1_1), .one (.int .i64 0)], [])))))
   (cond (b1_2 == 0)
    (cond (decide (b2_2.length < 9223372036854775808))
     (cond ((vProp b2 b2_1 b2_2) != 0)
      (some ([.agg [.int .i64 0, .int .i64 0, .sl true 63 ([] : List (List Cell))], .one (.int .i64 0), .one (.int .i64 (vProp b2 b2_1 b2_2))], []))
      (some ([.agg [.int .i64 b2, .int .i64 b2_1, .sl true 63 b2_2], .one (.int .i64 b1_1), .one (.int .i64 0)], [])))
     none)
    (cond (b1_2 != 0)
     (some ([.agg [.int .i64 0, .int .i64 0, .sl true 63 ([] : List (List Cell))], .one (.int .i64 0), .one (.int .i64 b1_2)], []))
     (some ([.agg [.int .i64 b2, .int .i64 b2_1, .sl true 63 b2_2], .one (.int .i64 b1_1), .one (.int .i64 0)], []))))) := by kernel_rfl

/- elasticstore/elasticstoreref06.Number -/
theorem e93 (m : Nat) (x : List (List Cell)) : runF E (callOf L66) (m + 1) 93 [.one (.sl false 5 x)] [] =
  (cond (okRd x)
   (cond ((udec x).2.2 != 0)
    (some ([.one (.int .i64 0), .one (.int .i64 0), .one (.int .i64 (udec x).2.2)], []))
    (cond (decide ((udec x).1 > 2147483647))
     (some ([.one (.int .i64 0), .one (.int .i64 0), .one (.int .i64 9)], []))
     (some ([.one (.int .i64 (IntKind.wrap .i64 (udec x).1)), .one (.int .i64 (udec x).2.1), .one (.int .i64 0)], []))))
   none) := by kernel_rfl

/- elasticstore/elasticstoreref06.Read -/
noncomputable def P84_0 : List AItem := F84.at [.snd, .snd, .snd, .fst, .snd, .sub, .head]
def M84_0 (t0 : List (List Cell)) (t1 : Int) (t7 : List (List Cell)) (t8 : Int) (t9 : Int) : St := ⟨[(0, .one (.sl false 5 t0)), (1, .one (.int .i64 t1)), (7, .one (.sl true 3 t7)), (8, .one (.int .i64 t8)), (9, .one (.int .i64 t9))], []⟩
theorem e84 (m : Nat) (x : List (List Cell)) (c : Int) : runF E (callOf L93) (m + 1) 84 [.one (.sl false 5 x), .one (.int .i64 c)] [] =
  (goF E (callOf L93) F84 0 m P84_0 (M84_0 x c ([] : List (List Cell)) 0 0)) := by kernel_rfl
theorem e84_0 (m : Nat) (t0 : List (List Cell)) (t1 : Int) (t7 : List (List Cell)) (t8 : Int) (t9 : Int) : goF E (callOf L93) F84 0 (m + 1) P84_0 (M84_0 t0 t1 t7 t8 t9) =
  (cond (decide (t9 < t1))
   (cond (inB t8 (t0.length + 1))
    (cond (okRd (dropN t0 (Int.toNat t8)))
     (cond ((rnum2 (dropN t0 (Int.toNat t8))).2.2 != 0)
      (some ([.one (.sl true 3 ([] : List (List Cell))), .one (.int .i64 0), .one (.int .i64 (rnum2 (dropN t0 (Int.toNat t8))).2.2)], []))
      (cond (fits (t7.length + [[Cell.int .i64 (rnum2 (dropN t0 (Int.toNat t8))).1]].length))
       (goF E (callOf L93) F84 0 m P84_0 (M84_0 t0 t1 (t7 ++ [[Cell.int .i64 (rnum2 (dropN t0 (Int.toNat t8))).1]]) (IntKind.wrap .i64 (t8 + (rnum2 (dropN t0 (Int.toNat t8))).2.1)) (IntKind.wrap .i64 (t9 + 1))))
       none))
     none)
    none)
   (some ([.one (.sl true 3 t7), .one (.int .i64 t8), .one (.int .i64 0)], []))) := by kernel_rfl

/- elasticstore/elasticstoreref06.Numbers -/
noncomputable def P67_0 : List AItem := F67.at [.snd, .fst, .snd, .sub, .head]
def M67_0 (t0 : List (List Cell)) (t1 : List (List Cell)) (t5 : Int) : St := ⟨[(0, .one (.sl false 5 t0)), (1, .one (.sl false 3 t1)), (5, .one (.int .i64 t5))], []⟩
theorem e67 (m : Nat) (x : List (List Cell)) (l : List (List Cell)) : runF E (callOf L84) (m + 1) 67 [.one (.sl false 5 x), .one (.sl false 3 l)] [] =
  (goF E (callOf L84) F67 0 m P67_0 (M67_0 x l 0)) := by kernel_rfl
theorem e67_0 (m : Nat) (t0 : List (List Cell)) (t1 : List (List Cell)) (t5 : Int) : goF E (callOf L84) F67 0 (m + 1) P67_0 (M67_0 t0 t1 t5) =
  (cond (decide (t5 < (t1.length : Int)))
   (cond (inB t5 t1.length)
    (cond (okEnc t0 (IntKind.wrap .u64 (nr (Abs.rowAt t1 (Int.toNat t5)) 0)))
     (goF E (callOf L84) F67 0 m P67_0 (M67_0 (t0 ++ uenc (IntKind.wrap .u64 (nr (Abs.rowAt t1 (Int.toNat t5)) 0))) t1 (IntKind.wrap .i64 (t5 + 1))))
     none)
    none)
   (some ([.one (.sl false 5 t0)], []))) := by kernel_rfl

/- elasticstore/elasticstoreref06.AppendProposal -/
noncomputable def P68_0 : List AItem := F68.at [.snd, .snd, .fst, .snd, .sub, .head]
def M68_0 (t0 : List (List Cell)) (t5 : Int) (b0 : Int) (b0_1 : Int) (b0_2 : List (List Cell)) : St := ⟨[(0, .one (.sl false 5 t0)), (3, .one (.ptr 0 0)), (5, .one (.int .i64 t5))], [.var [.int .i64 b0, .int .i64 b0_1, .sl false 63 b0_2]]⟩
theorem e68 (m : Nat) (x : List (List Cell)) (ap : Int) (np : Int) (cp : List (List Cell)) : runF E (callOf L67) (m + 1) 68 [.one (.sl false 5 x), .agg [.int .i64 ap, .int .i64 np, .sl false 63 cp]] [] =
  (cond (okNums x [[Cell.int .i64 ap], [Cell.int .i64 np], [Cell.int .i64 (cp.length : Int)]])
   (goF E (callOf L67) F68 0 m P68_0 (M68_0 (x ++ encL [[Cell.int .i64 ap], [Cell.int .i64 np], [Cell.int .i64 (cp.length : Int)]]) 0 ap np cp))
   none) := by kernel_rfl
theorem e68_0 (m : Nat) (t0 : List (List Cell)) (t5 : Int) (b0 : Int) (b0_1 : Int) (b0_2 : List (List Cell)) : goF E (callOf L67) F68 0 (m + 1) P68_0 (M68_0 t0 t5 b0 b0_1 b0_2) =
  (cond (decide (t5 < (b0_2.length : Int)))
   (cond (inB t5 b0_2.length)
    (cond (okNums t0 [[Cell.int .i64 (nr (Abs.rowAt b0_2 (Int.toNat t5)) 0)], [Cell.int .i64 (nr (Abs.rowAt b0_2 (Int.toNat t5)) 1)], [Cell.int .i64 (nr (Abs.rowAt b0_2 (Int.toNat t5)) 2)], [Cell.int .i64 (nr (Abs.rowAt b0_2 (Int.toNat t5)) 3)], [Cell.int .i64 (nr (Abs.rowAt b0_2 (Int.toNat t5)) 4)], [Cell.int .i64 (nr (Abs.rowAt b0_2 (Int.toNat t5)) 5)], [Cell.int .i64 (nr (Abs.rowAt b0_2 (Int.toNat t5)) 6)]])
     (goF E (callOf L67) F68 0 m P68_0 (M68_0 (t0 ++ encL [[Cell.int .i64 (nr (Abs.rowAt b0_2 (Int.toNat t5)) 0)], [Cell.int .i64 (nr (Abs.rowAt b0_2 (Int.toNat t5)) 1)], [Cell.int .i64 (nr (Abs.rowAt b0_2 (Int.toNat t5)) 2)], [Cell.int .i64 (nr (Abs.rowAt b0_2 (Int.toNat t5)) 3)], [Cell.int .i64 (nr (Abs.rowAt b0_2 (Int.toNat t5)) 4)], [Cell.int .i64 (nr (Abs.rowAt b0_2 (Int.toNat t5)) 5)], [Cell.int .i64 (nr (Abs.rowAt b0_2 (Int.toNat t5)) 6)]]) (IntKind.wrap .i64 (t5 + 1)) b0 b0_1 b0_2))
     none)
    none)
   (some ([.one (.sl false 5 t0)], []))) := by kernel_rfl
noncomputable def P68_0_c1 : List AItem := F68.at [.snd, .snd, .fst, .snd, .sub, .head]
def M68_0_c1 (t0 : List (List Cell)) (t5 : Int) (b0 : Int) (b0_1 : Int) (b0_2 : List (List Cell)) : St := ⟨[(0, .one (.sl false 5 t0)), (3, .one (.ptr 0 0)), (5, .one (.int .i64 t5))], [.var [.int .i64 b0, .int .i64 b0_1, .sl false 63 b0_2]]⟩
theorem e68_c1 (m : Nat) (ap : Int) (np : Int) (cp : List (List Cell)) : runF E (callOf L67) (m + 1) 68 [.one (.nils), .agg [.int .i64 ap, .int .i64 np, .sl false 63 cp]] [] =
  (cond (okNums ([] : List (List Cell)) [[Cell.int .i64 ap], [Cell.int .i64 np], [Cell.int .i64 (cp.length : Int)]])
   (goF E (callOf L67) F68 0 m P68_0_c1 (M68_0_c1 (([] : List (List Cell)) ++ encL [[Cell.int .i64 ap], [Cell.int .i64 np], [Cell.int .i64 (cp.length : Int)]]) 0 ap np cp))
   none) := by kernel_rfl
theorem e68_0_c1 (m : Nat) (t0 : List (List Cell)) (t5 : Int) (b0 : Int) (b0_1 : Int) (b0_2 : List (List Cell)) : goF E (callOf L67) F68 0 (m + 1) P68_0_c1 (M68_0_c1 t0 t5 b0 b0_1 b0_2) =
  (cond (decide (t5 < (b0_2.length : Int)))
   (cond (inB t5 b0_2.length)
    (cond (okNums t0 [[Cell.int .i64 (nr (Abs.rowAt b0_2 (Int.toNat t5)) 0)], [Cell.int .i64 (nr (Abs.rowAt b0_2 (Int.toNat t5)) 1)], [Cell.int .i64 (nr (Abs.rowAt b0_2 (Int.toNat t5)) 2)], [Cell.int .i64 (nr (Abs.rowAt b0_2 (Int.toNat t5)) 3)], [Cell.int .i64 (nr (Abs.rowAt b0_2 (Int.toNat t5)) 4)], [Cell.int .i64 (nr (Abs.rowAt b0_2 (Int.toNat t5)) 5)], [Cell.int .i64 (nr (Abs.rowAt b0_2 (Int.toNat t5)) 6)]])
     (goF E (callOf L67) F68 0 m P68_0_c1 (M68_0_c1 (t0 ++ encL [[Cell.int .i64 (nr (Abs.rowAt b0_2 (Int.toNat t5)) 0)], [Cell.int .i64 (nr (Abs.rowAt b0_2 (Int.toNat t5)) 1)], [Cell.int .i64 (nr (Abs.rowAt b0_2 (Int.toNat t5)) 2)], [Cell.int .i64 (nr (Abs.rowAt b0_2 (Int.toNat t5)) 3)], [Cell.int .i64 (nr (Abs.rowAt b0_2 (Int.toNat t5)) 4)], [Cell.int .i64 (nr (Abs.rowAt b0_2 (Int.toNat t5)) 5)], [Cell.int .i64 (nr (Abs.rowAt b0_2 (Int.toNat t5)) 6)]]) (IntKind.wrap .i64 (t5 + 1)) b0 b0_1 b0_2))
     none)
    none)
   (some ([.one (.sl false 5 t0)], []))) := by kernel_rfl

/- elasticstore/elasticstoreref06.DecodeProposal -/
noncomputable def P70_0 : List AItem := F70.at [.snd, .snd, .snd, .snd, .snd, .fst, .snd, .sub, .head]
def M70_0 (t0 : List (List Cell)) (t5 : List (List Cell)) (t6 : Int) (t9 : Int) (b0 : Int) (b0_1 : Int) (b0_2 : List (List Cell)) (b1 : Int) (b1_1 : Int) (b1_2 : List (List Cell)) : St := ⟨[(0, .one (.sl false 5 t0)), (2, .one (.ptr 0 0)), (5, .one (.sl false 3 t5)), (6, .one (.int .i64 t6)), (8, .one (.ptr 1 0)), (9, .one (.int .i64 t9))], [.var [.int .i64 b0, .int .i64 b0_1, .sl true 63 b0_2], .var [.int .i64 b1, .int .i64 b1_1, .sl true 63 b1_2]]⟩
theorem e70 (m : Nat) (x : List (List Cell)) : runF E (callOf L68) (m + 1) 70 [.one (.sl false 5 x)] [] =
  (cond (okRd x && decide (3 ≤ 1000))
   (cond ((rread x 3).2.2 != 0)
    (some ([.agg [.int .i64 0, .int .i64 0, .sl true 63 ([] : List (List Cell))], .one (.int .i64 0), .one (.int .i64 (rread x 3).2.2)], []))
    (cond (inB 2 (rread x 3).1.length)
     (cond (decide ((nr (Abs.rowAt (rread x 3).1 2) 0) > 6))
      (some ([.agg [.int .i64 0, .int .i64 0, .sl true 63 ([] : List (List Cell))], .one (.int .i64 0), .one (.int .i64 3)], []))
      (cond (inB 0 (rread x 3).1.length)
       (cond (inB 1 (rread x 3).1.length)
        (goF E (callOf L68) F70 0 m P70_0 (M70_0 x (rread x 3).1 (rread x 3).2.1 0 0 0 ([] : List (List Cell)) (nr (Abs.rowAt (rread x 3).1 0) 0) (nr (Abs.rowAt (rread x 3).1 1) 0) ([] : List (List Cell))))
        none)
       none))
     none))
   none) := by kernel_rfl
theorem e70_0 (m : Nat) (t0 : List (List Cell)) (t5 : List (List Cell)) (t6 : Int) (t9 : Int) (b0 : Int) (b0_1 : Int) (b0_2 : List (List Cell)) (b1 : Int) (b1_1 : Int) (b1_2 : List (List Cell)) : goF E (callOf L68) F70 0 (m + 1) P70_0 (M70_0 t0 t5 t6 t9 b0 b0_1 b0_2 b1 b1_1 b1_2) =
  (cond (inB 2 t5.length)
   (cond (decide (t9 < (nr (Abs.rowAt t5 2) 0)))
    (cond (inB t6 (t0.length + 1))
     (cond (okRd (dropN t0 (Int.toNat t6)) && decide (7 ≤ 1000))
      (cond ((rread (dropN t0 (Int.toNat t6)) 7).2.2 != 0)
       (some ([.agg [.int .i64 0, .int .i64 0, .sl true 63 ([] : List (List Cell))], .one (.int .i64 0), .one (.int .i64 (rread (dropN t0 (Int.toNat t6)) 7).2.2)], []))
       (cond (inB 0 (rread (dropN t0 (Int.toNat t6)) 7).1.length)
        (cond (inB 1 (rread (dropN t0 (Int.toNat t6)) 7).1.length)
         (cond (inB 2 (rread (dropN t0 (Int.toNat t6)) 7).1.length)
          (cond (inB 3 (rread (dropN t0 (Int.toNat t6)) 7).1.length)
           (cond (inB 4 (rread (dropN t0 (Int.toNat t6)) 7).1.length)
            (cond (inB 5 (rread (dropN t0 (Int.toNat t6)) 7).1.length)
             (cond (inB 6 (rread (dropN t0 (Int.toNat t6)) 7).1.length)
              (cond (fits (b1_2.length + [[Cell.int .i64 (nr (Abs.rowAt (rread (dropN t0 (Int.toNat t6)) 7).1 0) 0), Cell.int .i64 (nr (Abs.rowAt (rread (dropN t0 (Int.toNat t6)) 7).1 1) 0), Cell.int .i64 (nr (Abs.rowAt (rread (dropN t0 (Int.toNat t6)) 7).1 2) 0), Cell.int .i64 (nr (Abs.rowAt (rread (dropN t0 (Int.toNat t6)) 7).1 3) 0), Cell.int .i64 (nr (Abs.rowAt (rread (dropN t0 (Int.toNat t6)) 7).1 4) 0), Cell.int .i64 (nr (Abs.rowAt (rread (dropN t0 (Int.toNat t6)) 7).1 5) 0), Cell.int .i64 (nr (Abs.rowAt (rread (dropN t0 (Int.toNat t6)) 7).1 6) 0)]].length))
               (goF E (callOf L68) F70 0 m P70_0 (M70_0 t0 t5 (IntKind.wrap .i64 (t6 + (rread (dropN t0 (Int.toNat t6)) 7).2.1)) (IntKind.wrap .i64 (t9 + 1)) b0 b0_1 b0_2 b1 b1_1 (b1_2 ++ [[Cell.int .i64 (nr (Abs.rowAt (rread (dropN t0 (Int.toNat t6)) 7).1 0) 0), Cell.int .i64 (nr (Abs.rowAt (rread (dropN t0 (Int.toNat t6)) 7).1 1) 0), Cell.int .i64 (nr (Abs.rowAt (rread (dropN t0 (Int.toNat t6)) 7).1 2) 0), Cell.int .i64 (nr (Abs.rowAt (rread (dropN t0 (Int.toNat t6)) 7).1 3) 0), Cell.int .i64 (nr (Abs.rowAt (rread (dropN t0 (Int.toNat t6)) 7).1 4) 0), Cell.int .i64 (nr (Abs.rowAt (rread (dropN t0 (Int.toNat t6)) 7).1 5) 0), Cell.int .i64 (nr (Abs.rowAt (rread (dropN t0 (Int.toNat t6)) 7).1 6) 0)]])))
               none)
              none)
             none)
            none)
           none)
          none)
         none)
        none))
      none)
     none)
    (cond (decide (b1_2.length < 9223372036854775808))
     (cond ((vProp b1 b1_1 b1_2) != 0)
      (some ([.agg [.int .i64 0, .int .i64 0, .sl true 63 ([] : List (List Cell))], .one (.int .i64 0), .one (.int .i64 (vProp b1 b1_1 b1_2))], []))
      (some ([.agg [.int .i64 b1, .int .i64 b1_1, .sl true 63 b1_2], .one (.int .i64 t6), .one (.int .i64 0)], [])))
     none))
   none) := by kernel_rfl

/- elasticstore/elasticstorelaw00.Index -/
theorem e36 (m : Nat) (n : Int) (k : Int) : runF E (callOf L70) (m + 1) 36 [.one (.int .i64 n), .one (.int .i64 k)] [] =
  (cond (decide (k < 1))
   (some ([.one (.int .i64 0)], []))
   (cond (decide (k = 0))
    none
    (cond (decide (k = 0))
     none
     (some ([.one (.int .i64 (Int.tmod (IntKind.wrap .i64 ((Int.tmod n k) + k)) k))], []))))) := by kernel_rfl

/- elasticstore/elasticstorelaw00.Digit -/
noncomputable def P59_0 : List AItem := F59.at [.snd, .snd, .fst, .snd, .sub, .head]
def M59_0 (t1 : Int) (t2 : Int) (t7 : Int) (t8 : Int) : St := ⟨[(1, .one (.int .i64 t1)), (2, .one (.int .i64 t2)), (7, .one (.int .i64 t7)), (8, .one (.int .i64 t8))], []⟩
theorem e59 (m : Nat) (n : Int) (b : Int) (j : Int) : runF E (callOf L36) (m + 1) 59 [.one (.int .i64 n), .one (.int .i64 b), .one (.int .i64 j)] [] =
  (cond (decide (1099511627776 ≤ 4611686018427387904))
   (goF E (callOf L36) F59 0 m P59_0 (M59_0 b j (gIndex n 1099511627776) 0))
   none) := by kernel_rfl
theorem e59_0 (m : Nat) (t1 : Int) (t2 : Int) (t7 : Int) (t8 : Int) : goF E (callOf L36) F59 0 (m + 1) P59_0 (M59_0 t1 t2 t7 t8) =
  (cond (decide (t8 < t2))
   (cond (decide (t1 = 0))
    none
    (goF E (callOf L36) F59 0 m P59_0 (M59_0 t1 t2 (IntKind.wrap .i64 (Int.tdiv t7 t1)) (IntKind.wrap .i64 (t8 + 1)))))
   (cond (decide (t1 = 0))
    none
    (some ([.one (.int .i64 (Int.tmod t7 t1))], [])))) := by kernel_rfl

/- elasticstore/elasticstorelaw00.At -/
theorem e37 (m : Nat) (l : List (List Cell)) (j : Int) : runF E (callOf L59) (m + 1) 37 [.one (.sl false 3 l), .one (.int .i64 j)] [] =
  (cond ((l.length : Int) == 0)
   (some ([.one (.int .i64 0)], []))
   (cond (decide ((l.length : Int) ≤ 4611686018427387904))
    (cond (inB (gIndex j (l.length : Int)) l.length)
     (some ([.one (.int .i64 (nr (Abs.rowAt l (Int.toNat (gIndex j (l.length : Int)))) 0))], []))
     none)
    none)) := by kernel_rfl

/- elasticstore/elasticstorelaw00.Rule -/
theorem e80 (m : Nat) (n : Int) : runF E (callOf L37) (m + 1) 80 [.one (.int .i64 n)] [] =
  (cond (decide (2 ≤ 8) && decide (0 ≤ 9223372036854775807))
   (cond ((gDigit n 8 0) == 1)
    (cond ((gDigit n 8 0) == 1)
     (some ([.agg [.int .i64 2, .int .i64 0, .int .i64 0]], []))
     (cond ((gDigit n 8 0) == 3)
      (cond (decide (2 ≤ 4) && decide (2 ≤ 9223372036854775807))
       (some ([.agg [.int .i64 3, .int .i64 (IntKind.wrap .i64 (1 + (gDigit n 4 2))), .int .i64 0]], []))
       none)
      (cond ((gDigit n 8 0) == 4)
       (cond (decide (2 ≤ 2) && decide (3 ≤ 9223372036854775807))
        (some ([.agg [.int .i64 4, .int .i64 0, .int .i64 (gDigit n 2 3)]], []))
        none)
       (some ([.agg [.int .i64 1, .int .i64 0, .int .i64 0]], [])))))
    (cond ((gDigit n 8 0) == 2)
     (some ([.agg [.int .i64 2, .int .i64 0, .int .i64 0]], []))
     (cond ((gDigit n 8 0) == 3)
      (cond (decide (2 ≤ 4) && decide (2 ≤ 9223372036854775807))
       (some ([.agg [.int .i64 3, .int .i64 (IntKind.wrap .i64 (1 + (gDigit n 4 2))), .int .i64 0]], []))
       none)
      (cond ((gDigit n 8 0) == 4)
       (cond (decide (2 ≤ 2) && decide (3 ≤ 9223372036854775807))
        (some ([.agg [.int .i64 4, .int .i64 0, .int .i64 (gDigit n 2 3)]], []))
        none)
       (some ([.agg [.int .i64 1, .int .i64 0, .int .i64 0]], []))))))
   none) := by kernel_rfl

/- elasticstore/elasticstorelaw00.Change -/
theorem e60 (m : Nat) (n : Int) : runF E (callOf L80) (m + 1) 60 [.one (.int .i64 n)] [] =
  (cond (decide (2 ≤ 8) && decide (1 ≤ 9223372036854775807))
   (cond (decide (2 ≤ 8) && decide (0 ≤ 9223372036854775807))
    (cond ((gDigit n 8 0) == 0)
     (cond ((gDigit n 8 0) == 0)
      (cond (decide (2 ≤ 4) && decide (3 ≤ 9223372036854775807))
       (some ([.agg [.int .i64 1, .int .i64 (IntKind.wrap .i64 (1 + (gDigit n 8 1))), .int .i64 (IntKind.wrap .i64 (1 + (gDigit n 4 3))), .int .i64 0, .int .i64 0, .int .i64 0, .int .i64 0]], []))
       none)
      (cond ((gDigit n 8 0) == 3)
       (cond ((gDigit n 8 0) == 3)
        (some ([.agg [.int .i64 2, .int .i64 (IntKind.wrap .i64 (1 + (gDigit n 8 1))), .int .i64 0, .int .i64 0, .int .i64 0, .int .i64 0, .int .i64 0]], []))
        (cond ((gDigit n 8 0) == 5)
         (cond (decide (2 ≤ 4) && decide (3 ≤ 9223372036854775807))
          (cond (decide (2 ≤ 2) && decide (9 ≤ 9223372036854775807))
           (some ([.agg [.int .i64 3, .int .i64 (IntKind.wrap .i64 (1 + (gDigit n 8 1))), .int .i64 (IntKind.wrap .i64 (1 + (gDigit n 4 3))), .int .i64 (IntKind.wrap .i64 (1 + (gDigit n 2 9))), .int .i64 0, .int .i64 0, .int .i64 0]], []))
           none)
          none)
         (cond ((gDigit n 8 0) == 6)
          (cond (decide (2 ≤ 2) && decide (9 ≤ 9223372036854775807))
           (cond (decide (1099511627776 ≤ 4611686018427387904))
            (some ([.agg [.int .i64 4, .int .i64 0, .int .i64 0, .int .i64 (IntKind.wrap .i64 (1 + (gDigit n 2 9))), .int .i64 (gRule (IntKind.wrap .i64 (Int.tdiv (gIndex n 1099511627776) 64))).1, .int .i64 (gRule (IntKind.wrap .i64 (Int.tdiv (gIndex n 1099511627776) 64))).2.1, .int .i64 (gRule (IntKind.wrap .i64 (Int.tdiv (gIndex n 1099511627776) 64))).2.2]], []))
            none)
           none)
          (cond (decide (2 ≤ 12) && decide (1 ≤ 9223372036854775807))
           (some ([.agg [.int .i64 1, .int .i64 (IntKind.wrap .i64 (1 + (gDigit n 12 1))), .int .i64 1, .int .i64 0, .int .i64 0, .int .i64 0, .int .i64 0]], []))
           none))))
       (cond ((gDigit n 8 0) == 4)
        (some ([.agg [.int .i64 2, .int .i64 (IntKind.wrap .i64 (1 + (gDigit n 8 1))), .int .i64 0, .int .i64 0, .int .i64 0, .int .i64 0, .int .i64 0]], []))
        (cond ((gDigit n 8 0) == 5)
         (cond (decide (2 ≤ 4) && decide (3 ≤ 9223372036854775807))
          (cond (decide (2 ≤ 2) && decide (9 ≤ 9223372036854775807))
           (some ([.agg [.int .i64 3, .int .i64 (IntKind.wrap .i64 (1 + (gDigit n 8 1))), .int .i64 (IntKind.wrap .i64 (1 + (gDigit n 4 3))), .int .i64 (IntKind.wrap .i64 (1 + (gDigit n 2 9))), .int .i64 0, .int .i64 0, .int .i64 0]], []))
           none)
          none)
         (cond ((gDigit n 8 0) == 6)
          (cond (decide (2 ≤ 2) && decide (9 ≤ 9223372036854775807))
           (cond (decide (1099511627776 ≤ 4611686018427387904))
            (some ([.agg [.int .i64 4, .int .i64 0, .int .i64 0, .int .i64 (IntKind.wrap .i64 (1 + (gDigit n 2 9))), .int .i64 (gRule (IntKind.wrap .i64 (Int.tdiv (gIndex n 1099511627776) 64))).1, .int .i64 (gRule (IntKind.wrap .i64 (Int.tdiv (gIndex n 1099511627776) 64))).2.1, .int .i64 (gRule (IntKind.wrap .i64 (Int.tdiv (gIndex n 1099511627776) 64))).2.2]], []))
            none)
           none)
          (cond (decide (2 ≤ 12) && decide (1 ≤ 9223372036854775807))
           (some ([.agg [.int .i64 1, .int .i64 (IntKind.wrap .i64 (1 + (gDigit n 12 1))), .int .i64 1, .int .i64 0, .int .i64 0, .int .i64 0, .int .i64 0]], []))
           none))))))
     (cond ((gDigit n 8 0) == 1)
      (cond ((gDigit n 8 0) == 1)
       (cond (decide (2 ≤ 4) && decide (3 ≤ 9223372036854775807))
        (some ([.agg [.int .i64 1, .int .i64 (IntKind.wrap .i64 (1 + (gDigit n 8 1))), .int .i64 (IntKind.wrap .i64 (1 + (gDigit n 4 3))), .int .i64 0, .int .i64 0, .int .i64 0, .int .i64 0]], []))
        none)
       (cond ((gDigit n 8 0) == 3)
        (cond ((gDigit n 8 0) == 3)
         (some ([.agg [.int .i64 2, .int .i64 (IntKind.wrap .i64 (1 + (gDigit n 8 1))), .int .i64 0, .int .i64 0, .int .i64 0, .int .i64 0, .int .i64 0]], []))
         (cond ((gDigit n 8 0) == 5)
          (cond (decide (2 ≤ 4) && decide (3 ≤ 9223372036854775807))
           (cond (decide (2 ≤ 2) && decide (9 ≤ 9223372036854775807))
            (some ([.agg [.int .i64 3, .int .i64 (IntKind.wrap .i64 (1 + (gDigit n 8 1))), .int .i64 (IntKind.wrap .i64 (1 + (gDigit n 4 3))), .int .i64 (IntKind.wrap .i64 (1 + (gDigit n 2 9))), .int .i64 0, .int .i64 0, .int .i64 0]], []))
            none)
           none)
          (cond ((gDigit n 8 0) == 6)
           (cond (decide (2 ≤ 2) && decide (9 ≤ 9223372036854775807))
            (cond (decide (1099511627776 ≤ 4611686018427387904))
             (some ([.agg [.int .i64 4, .int .i64 0, .int .i64 0, .int .i64 (IntKind.wrap .i64 (1 + (gDigit n 2 9))), .int .i64 (gRule (IntKind.wrap .i64 (Int.tdiv (gIndex n 1099511627776) 64))).1, .int .i64 (gRule (IntKind.wrap .i64 (Int.tdiv (gIndex n 1099511627776) 64))).2.1, .int .i64 (gRule (IntKind.wrap .i64 (Int.tdiv (gIndex n 1099511627776) 64))).2.2]], []))
             none)
            none)
           (cond (decide (2 ≤ 12) && decide (1 ≤ 9223372036854775807))
            (some ([.agg [.int .i64 1, .int .i64 (IntKind.wrap .i64 (1 + (gDigit n 12 1))), .int .i64 1, .int .i64 0, .int .i64 0, .int .i64 0, .int .i64 0]], []))
            none))))
        (cond ((gDigit n 8 0) == 4)
         (some ([.agg [.int .i64 2, .int .i64 (IntKind.wrap .i64 (1 + (gDigit n 8 1))), .int .i64 0, .int .i64 0, .int .i64 0, .int .i64 0, .int .i64 0]], []))
         (cond ((gDigit n 8 0) == 5)
          (cond (decide (2 ≤ 4) && decide (3 ≤ 9223372036854775807))
           (cond (decide (2 ≤ 2) && decide (9 ≤ 9223372036854775807))
            (some ([.agg [.int .i64 3, .int .i64 (IntKind.wrap .i64 (1 + (gDigit n 8 1))), .int .i64 (IntKind.wrap .i64 (1 + (gDigit n 4 3))), .int .i64 (IntKind.wrap .i64 (1 + (gDigit n 2 9))), .int .i64 0, .int .i64 0, .int .i64 0]], []))
            none)
           none)
          (cond ((gDigit n 8 0) == 6)
           (cond (decide (2 ≤ 2) && decide (9 ≤ 9223372036854775807))
            (cond (decide (1099511627776 ≤ 4611686018427387904))
             (some ([.agg [.int .i64 4, .int .i64 0, .int .i64 0, .int .i64 (IntKind.wrap .i64 (1 + (gDigit n 2 9))), .int .i64 (gRule (IntKind.wrap .i64 (Int.tdiv (gIndex n 1099511627776) 64))).1, .int .i64 (gRule (IntKind.wrap .i64 (Int.tdiv (gIndex n 1099511627776) 64))).2.1, .int .i64 (gRule (IntKind.wrap .i64 (Int.tdiv (gIndex n 1099511627776) 64))).2.2]], []))
             none)
            none)
           (cond (decide (2 ≤ 12) && decide (1 ≤ 9223372036854775807))
            (some ([.agg [.int .i64 1, .int .i64 (IntKind.wrap .i64 (1 + (gDigit n 12 1))), .int .i64 1, .int .i64 0, .int .i64 0, .int .i64 0, .int .i64 0]], []))
            none))))))
      (cond ((gDigit n 8 0) == 2)
       (cond (decide (2 ≤ 4) && decide (3 ≤ 9223372036854775807))
        (some ([.agg [.int .i64 1, .int .i64 (IntKind.wrap .i64 (1 + (gDigit n 8 1))), .int .i64 (IntKind.wrap .i64 (1 + (gDigit n 4 3))), .int .i64 0, .int .i64 0, .int .i64 0, .int .i64 0]], []))
        none)
       (cond ((gDigit n 8 0) == 3)
        (cond ((gDigit n 8 0) == 3)
         (some ([.agg [.int .i64 2, .int .i64 (IntKind.wrap .i64 (1 + (gDigit n 8 1))), .int .i64 0, .int .i64 0, .int .i64 0, .int .i64 0, .int .i64 0]], []))
         (cond ((gDigit n 8 0) == 5)
          (cond (decide (2 ≤ 4) && decide (3 ≤ 9223372036854775807))
           (cond (decide (2 ≤ 2) && decide (9 ≤ 9223372036854775807))
            (some ([.agg [.int .i64 3, .int .i64 (IntKind.wrap .i64 (1 + (gDigit n 8 1))), .int .i64 (IntKind.wrap .i64 (1 + (gDigit n 4 3))), .int .i64 (IntKind.wrap .i64 (1 + (gDigit n 2 9))), .int .i64 0, .int .i64 0, .int .i64 0]], []))
            none)
           none)
          (cond ((gDigit n 8 0) == 6)
           (cond (decide (2 ≤ 2) && decide (9 ≤ 9223372036854775807))
            (cond (decide (1099511627776 ≤ 4611686018427387904))
             (some ([.agg [.int .i64 4, .int .i64 0, .int .i64 0, .int .i64 (IntKind.wrap .i64 (1 + (gDigit n 2 9))), .int .i64 (gRule (IntKind.wrap .i64 (Int.tdiv (gIndex n 1099511627776) 64))).1, .int .i64 (gRule (IntKind.wrap .i64 (Int.tdiv (gIndex n 1099511627776) 64))).2.1, .int .i64 (gRule (IntKind.wrap .i64 (Int.tdiv (gIndex n 1099511627776) 64))).2.2]], []))
             none)
            none)
           (cond (decide (2 ≤ 12) && decide (1 ≤ 9223372036854775807))
            (some ([.agg [.int .i64 1, .int .i64 (IntKind.wrap .i64 (1 + (gDigit n 12 1))), .int .i64 1, .int .i64 0, .int .i64 0, .int .i64 0, .int .i64 0]], []))
            none))))
        (cond ((gDigit n 8 0) == 4)
         (some ([.agg [.int .i64 2, .int .i64 (IntKind.wrap .i64 (1 + (gDigit n 8 1))), .int .i64 0, .int .i64 0, .int .i64 0, .int .i64 0, .int .i64 0]], []))
         (cond ((gDigit n 8 0) == 5)
          (cond (decide (2 ≤ 4) && decide (3 ≤ 9223372036854775807))
           (cond (decide (2 ≤ 2) && decide (9 ≤ 9223372036854775807))
            (some ([.agg [.int .i64 3, .int .i64 (IntKind.wrap .i64 (1 + (gDigit n 8 1))), .int .i64 (IntKind.wrap .i64 (1 + (gDigit n 4 3))), .int .i64 (IntKind.wrap .i64 (1 + (gDigit n 2 9))), .int .i64 0, .int .i64 0, .int .i64 0]], []))
            none)
           none)
          (cond ((gDigit n 8 0) == 6)
           (cond (decide (2 ≤ 2) && decide (9 ≤ 9223372036854775807))
            (cond (decide (1099511627776 ≤ 4611686018427387904))
             (some ([.agg [.int .i64 4, .int .i64 0, .int .i64 0, .int .i64 (IntKind.wrap .i64 (1 + (gDigit n 2 9))), .int .i64 (gRule (IntKind.wrap .i64 (Int.tdiv (gIndex n 1099511627776) 64))).1, .int .i64 (gRule (IntKind.wrap .i64 (Int.tdiv (gIndex n 1099511627776) 64))).2.1, .int .i64 (gRule (IntKind.wrap .i64 (Int.tdiv (gIndex n 1099511627776) 64))).2.2]], []))
             none)
            none)
           (cond (decide (2 ≤ 12) && decide (1 ≤ 9223372036854775807))
            (some ([.agg [.int .i64 1, .int .i64 (IntKind.wrap .i64 (1 + (gDigit n 12 1))), .int .i64 1, .int .i64 0, .int .i64 0, .int .i64 0, .int .i64 0]], []))
            none))))))))
    none)
   none) := by kernel_rfl

/- elasticstore/elasticstorelaw00.Pool -/
noncomputable def P28_0 : List AItem := F28.at [.snd, .snd, .snd, .fst, .snd, .sub, .head]
def M28_0 (t0 : List (List Cell)) (t3 : List (List Cell)) (t4 : Int) (t5 : Int) : St := ⟨[(0, .one (.sl false 3 t0)), (3, .one (.sl true 45 t3)), (4, .one (.int .i64 t4)), (5, .one (.int .i64 t5))], []⟩
noncomputable def P28_1 : List AItem := F28.at [.snd, .snd, .snd, .fst, .snd, .sub, .body, .snd, .fst, .sub, .snd, .sub, .head]
def M28_1 (t0 : List (List Cell)) (t3 : List (List Cell)) (t4 : Int) (t5 : Int) (t6 : Int) : St := ⟨[(0, .one (.sl false 3 t0)), (3, .one (.sl true 45 t3)), (4, .one (.int .i64 t4)), (5, .one (.int .i64 t5)), (6, .one (.int .i64 t6))], []⟩
theorem e28 (m : Nat) (l : List (List Cell)) : runF E (callOf L60) (m + 1) 28 [.one (.sl false 3 l)] [] =
  (goF E (callOf L60) F28 0 m P28_0 (M28_0 l ([] : List (List Cell)) 3 0)) := by kernel_rfl
theorem e28_0 (m : Nat) (t0 : List (List Cell)) (t3 : List (List Cell)) (t4 : Int) (t5 : Int) : goF E (callOf L60) F28 0 (m + 1) P28_0 (M28_0 t0 t3 t4 t5) =
  (cond (decide (t5 < 3))
   (goF E (callOf L60) F28 0 m P28_1 (M28_1 t0 t3 t4 t5 0))
   (some ([.one (.sl true 45 t3)], []))) := by kernel_rfl
theorem e28_1 (m : Nat) (t0 : List (List Cell)) (t3 : List (List Cell)) (t4 : Int) (t5 : Int) (t6 : Int) : goF E (callOf L60) F28 0 (m + 1) P28_1 (M28_1 t0 t3 t4 t5 t6) =
  (cond (decide (t0.length < 4611686018427387904))
   (cond (decide (2 ≤ 4) && decide (0 ≤ 9223372036854775807))
    (cond (decide (t6 < (gDigit (gAt t0 t5) 4 0)))
     (cond (decide (t0.length < 4611686018427387904))
      (cond (decide (t0.length < 4611686018427387904))
       (cond (decide (t0.length < 4611686018427387904))
        (cond (decide (2 ≤ 2) && decide (12 ≤ 9223372036854775807))
         (cond ((gDigit (gAt t0 t4) 2 12) == 1)
          (cond ((gCh (gAt t0 (IntKind.wrap .i64 (t4 + 1))) 0) != (nr (Abs.rowAt [[Cell.int .i64 (gCh (gAt t0 t4) 0), Cell.int .i64 (gCh (gAt t0 t4) 1), Cell.int .i64 (gCh (gAt t0 t4) 2), Cell.int .i64 (gCh (gAt t0 t4) 3), Cell.int .i64 (gCh (gAt t0 t4) 4), Cell.int .i64 (gCh (gAt t0 t4) 5), Cell.int .i64 (gCh (gAt t0 t4) 6)]] 0) 0))
           (cond (fits (t3.length + [[Cell.int .i64 (IntKind.wrap .i64 (201 + t5)), Cell.int .i64 (IntKind.wrap .i64 (t6 + 1)), Cell.slice 63 ([[Cell.int .i64 (gCh (gAt t0 t4) 0), Cell.int .i64 (gCh (gAt t0 t4) 1), Cell.int .i64 (gCh (gAt t0 t4) 2), Cell.int .i64 (gCh (gAt t0 t4) 3), Cell.int .i64 (gCh (gAt t0 t4) 4), Cell.int .i64 (gCh (gAt t0 t4) 5), Cell.int .i64 (gCh (gAt t0 t4) 6)]] ++ [[Cell.int .i64 (gCh (gAt t0 (IntKind.wrap .i64 (t4 + 1))) 0), Cell.int .i64 (gCh (gAt t0 (IntKind.wrap .i64 (t4 + 1))) 1), Cell.int .i64 (gCh (gAt t0 (IntKind.wrap .i64 (t4 + 1))) 2), Cell.int .i64 (gCh (gAt t0 (IntKind.wrap .i64 (t4 + 1))) 3), Cell.int .i64 (gCh (gAt t0 (IntKind.wrap .i64 (t4 + 1))) 4), Cell.int .i64 (gCh (gAt t0 (IntKind.wrap .i64 (t4 + 1))) 5), Cell.int .i64 (gCh (gAt t0 (IntKind.wrap .i64 (t4 + 1))) 6)]])]].length))
            (goF E (callOf L60) F28 0 m P28_1 (M28_1 t0 (t3 ++ [[Cell.int .i64 (IntKind.wrap .i64 (201 + t5)), Cell.int .i64 (IntKind.wrap .i64 (t6 + 1)), Cell.slice 63 ([[Cell.int .i64 (gCh (gAt t0 t4) 0), Cell.int .i64 (gCh (gAt t0 t4) 1), Cell.int .i64 (gCh (gAt t0 t4) 2), Cell.int .i64 (gCh (gAt t0 t4) 3), Cell.int .i64 (gCh (gAt t0 t4) 4), Cell.int .i64 (gCh (gAt t0 t4) 5), Cell.int .i64 (gCh (gAt t0 t4) 6)]] ++ [[Cell.int .i64 (gCh (gAt t0 (IntKind.wrap .i64 (t4 + 1))) 0), Cell.int .i64 (gCh (gAt t0 (IntKind.wrap .i64 (t4 + 1))) 1), Cell.int .i64 (gCh (gAt t0 (IntKind.wrap .i64 (t4 + 1))) 2), Cell.int .i64 (gCh (gAt t0 (IntKind.wrap .i64 (t4 + 1))) 3), Cell.int .i64 (gCh (gAt t0 (IntKind.wrap .i64 (t4 + 1))) 4), Cell.int .i64 (gCh (gAt t0 (IntKind.wrap .i64 (t4 + 1))) 5), Cell.int .i64 (gCh (gAt t0 (IntKind.wrap .i64 (t4 + 1))) 6)]])]]) (IntKind.wrap .i64 (t4 + 2)) t5 (IntKind.wrap .i64 (t6 + 1))))
            none)
           (cond ((gCh (gAt t0 (IntKind.wrap .i64 (t4 + 1))) 1) != (nr (Abs.rowAt [[Cell.int .i64 (gCh (gAt t0 t4) 0), Cell.int .i64 (gCh (gAt t0 t4) 1), Cell.int .i64 (gCh (gAt t0 t4) 2), Cell.int .i64 (gCh (gAt t0 t4) 3), Cell.int .i64 (gCh (gAt t0 t4) 4), Cell.int .i64 (gCh (gAt t0 t4) 5), Cell.int .i64 (gCh (gAt t0 t4) 6)]] 0) 1))
            (cond (fits (t3.length + [[Cell.int .i64 (IntKind.wrap .i64 (201 + t5)), Cell.int .i64 (IntKind.wrap .i64 (t6 + 1)), Cell.slice 63 ([[Cell.int .i64 (gCh (gAt t0 t4) 0), Cell.int .i64 (gCh (gAt t0 t4) 1), Cell.int .i64 (gCh (gAt t0 t4) 2), Cell.int .i64 (gCh (gAt t0 t4) 3), Cell.int .i64 (gCh (gAt t0 t4) 4), Cell.int .i64 (gCh (gAt t0 t4) 5), Cell.int .i64 (gCh (gAt t0 t4) 6)]] ++ [[Cell.int .i64 (gCh (gAt t0 (IntKind.wrap .i64 (t4 + 1))) 0), Cell.int .i64 (gCh (gAt t0 (IntKind.wrap .i64 (t4 + 1))) 1), Cell.int .i64 (gCh (gAt t0 (IntKind.wrap .i64 (t4 + 1))) 2), Cell.int .i64 (gCh (gAt t0 (IntKind.wrap .i64 (t4 + 1))) 3), Cell.int .i64 (gCh (gAt t0 (IntKind.wrap .i64 (t4 + 1))) 4), Cell.int .i64 (gCh (gAt t0 (IntKind.wrap .i64 (t4 + 1))) 5), Cell.int .i64 (gCh (gAt t0 (IntKind.wrap .i64 (t4 + 1))) 6)]])]].length))
             (goF E (callOf L60) F28 0 m P28_1 (M28_1 t0 (t3 ++ [[Cell.int .i64 (IntKind.wrap .i64 (201 + t5)), Cell.int .i64 (IntKind.wrap .i64 (t6 + 1)), Cell.slice 63 ([[Cell.int .i64 (gCh (gAt t0 t4) 0), Cell.int .i64 (gCh (gAt t0 t4) 1), Cell.int .i64 (gCh (gAt t0 t4) 2), Cell.int .i64 (gCh (gAt t0 t4) 3), Cell.int .i64 (gCh (gAt t0 t4) 4), Cell.int .i64 (gCh (gAt t0 t4) 5), Cell.int .i64 (gCh (gAt t0 t4) 6)]] ++ [[Cell.int .i64 (gCh (gAt t0 (IntKind.wrap .i64 (t4 + 1))) 0), Cell.int .i64 (gCh (gAt t0 (IntKind.wrap .i64 (t4 + 1))) 1), Cell.int .i64 (gCh (gAt t0 (IntKind.wrap .i64 (t4 + 1))) 2), Cell.int .i64 (gCh (gAt t0 (IntKind.wrap .i64 (t4 + 1))) 3), Cell.int .i64 (gCh (gAt t0 (IntKind.wrap .i64 (t4 + 1))) 4), Cell.int .i64 (gCh (gAt t0 (IntKind.wrap .i64 (t4 + 1))) 5), Cell.int .i64 (gCh (gAt t0 (IntKind.wrap .i64 (t4 + 1))) 6)]])]]) (IntKind.wrap .i64 (t4 + 2)) t5 (IntKind.wrap .i64 (t6 + 1))))
             none)
            (cond (fits (t3.length + [[Cell.int .i64 (IntKind.wrap .i64 (201 + t5)), Cell.int .i64 (IntKind.wrap .i64 (t6 + 1)), Cell.slice 63 [[Cell.int .i64 (gCh (gAt t0 t4) 0), Cell.int .i64 (gCh (gAt t0 t4) 1), Cell.int .i64 (gCh (gAt t0 t4) 2), Cell.int .i64 (gCh (gAt t0 t4) 3), Cell.int .i64 (gCh (gAt t0 t4) 4), Cell.int .i64 (gCh (gAt t0 t4) 5), Cell.int .i64 (gCh (gAt t0 t4) 6)]]]].length))
             (goF E (callOf L60) F28 0 m P28_1 (M28_1 t0 (t3 ++ [[Cell.int .i64 (IntKind.wrap .i64 (201 + t5)), Cell.int .i64 (IntKind.wrap .i64 (t6 + 1)), Cell.slice 63 [[Cell.int .i64 (gCh (gAt t0 t4) 0), Cell.int .i64 (gCh (gAt t0 t4) 1), Cell.int .i64 (gCh (gAt t0 t4) 2), Cell.int .i64 (gCh (gAt t0 t4) 3), Cell.int .i64 (gCh (gAt t0 t4) 4), Cell.int .i64 (gCh (gAt t0 t4) 5), Cell.int .i64 (gCh (gAt t0 t4) 6)]]]]) (IntKind.wrap .i64 (t4 + 2)) t5 (IntKind.wrap .i64 (t6 + 1))))
             none)))
          (cond (fits (t3.length + [[Cell.int .i64 (IntKind.wrap .i64 (201 + t5)), Cell.int .i64 (IntKind.wrap .i64 (t6 + 1)), Cell.slice 63 [[Cell.int .i64 (gCh (gAt t0 t4) 0), Cell.int .i64 (gCh (gAt t0 t4) 1), Cell.int .i64 (gCh (gAt t0 t4) 2), Cell.int .i64 (gCh (gAt t0 t4) 3), Cell.int .i64 (gCh (gAt t0 t4) 4), Cell.int .i64 (gCh (gAt t0 t4) 5), Cell.int .i64 (gCh (gAt t0 t4) 6)]]]].length))
           (goF E (callOf L60) F28 0 m P28_1 (M28_1 t0 (t3 ++ [[Cell.int .i64 (IntKind.wrap .i64 (201 + t5)), Cell.int .i64 (IntKind.wrap .i64 (t6 + 1)), Cell.slice 63 [[Cell.int .i64 (gCh (gAt t0 t4) 0), Cell.int .i64 (gCh (gAt t0 t4) 1), Cell.int .i64 (gCh (gAt t0 t4) 2), Cell.int .i64 (gCh (gAt t0 t4) 3), Cell.int .i64 (gCh (gAt t0 t4) 4), Cell.int .i64 (gCh (gAt t0 t4) 5), Cell.int .i64 (gCh (gAt t0 t4) 6)]]]]) (IntKind.wrap .i64 (t4 + 2)) t5 (IntKind.wrap .i64 (t6 + 1))))
           none))
         none)
        none)
       none)
      none)
     (goF E (callOf L60) F28 0 m P28_0 (M28_0 t0 t3 t4 (IntKind.wrap .i64 (t5 + 1)))))
    none)
   none) := by kernel_rfl

/- elasticstore/config.Validate -/
noncomputable def P13_0 : List AItem := F13.at [.snd, .fst, .snd, .sub, .head]
def M13_0 (t0 : List (List Cell)) (t6 : List (List Cell)) (t7 : Int) (t8 : Int) : St := ⟨[(0, .one (.sl false 45 t0)), (6, .one (.sl false 45 t6)), (7, .one (.int .i64 t7)), (8, .one (.int .i64 t8))], []⟩
theorem e13 (m : Nat) (c : List (List Cell)) : runF E (callOf L28) (m + 1) 13 [.one (.sl false 45 c)] [] =
  (goF E (callOf L28) F13 0 m P13_0 (M13_0 c c (c.length : Int) 0)) := by kernel_rfl
theorem e13_0 (m : Nat) (t0 : List (List Cell)) (t6 : List (List Cell)) (t7 : Int) (t8 : Int) : goF E (callOf L28) F13 0 (m + 1) P13_0 (M13_0 t0 t6 t7 t8) =
  (cond (decide (t8 < t7))
   (cond (inB t8 t6.length)
    (cond (decide ((nl (Abs.rowAt t6 (Int.toNat t8)) 2).length < 9223372036854775808))
     (cond ((vProp (nr (Abs.rowAt t6 (Int.toNat t8)) 0) (nr (Abs.rowAt t6 (Int.toNat t8)) 1) (nl (Abs.rowAt t6 (Int.toNat t8)) 2)) != 0)
      (some ([.one (.int .i64 (vProp (nr (Abs.rowAt t6 (Int.toNat t8)) 0) (nr (Abs.rowAt t6 (Int.toNat t8)) 1) (nl (Abs.rowAt t6 (Int.toNat t8)) 2)))], []))
      (cond (decide (t8 > 0))
       (cond (inB (IntKind.wrap .i64 (t8 - 1)) t0.length)
        (cond (decide ((cmpP (nr (Abs.rowAt t6 (Int.toNat t8)) 0) (nr (Abs.rowAt t6 (Int.toNat t8)) 1) (nr (Abs.rowAt t0 (Int.toNat (IntKind.wrap .i64 (t8 - 1)))) 0) (nr (Abs.rowAt t0 (Int.toNat (IntKind.wrap .i64 (t8 - 1)))) 1)) ≤ 0))
         (some ([.one (.int .i64 7)], []))
         (cond (decide ((nr (Abs.rowAt t6 (Int.toNat t8)) 1) > 1))
          (cond (t8 == 0)
           (some ([.one (.int .i64 8)], []))
           (cond (inB (IntKind.wrap .i64 (t8 - 1)) t0.length)
            (cond ((nr (Abs.rowAt t0 (Int.toNat (IntKind.wrap .i64 (t8 - 1)))) 0) != (nr (Abs.rowAt t6 (Int.toNat t8)) 0))
             (some ([.one (.int .i64 8)], []))
             (cond (inB (IntKind.wrap .i64 (t8 - 1)) t0.length)
              (cond ((nr (Abs.rowAt t0 (Int.toNat (IntKind.wrap .i64 (t8 - 1)))) 1) != (IntKind.wrap .i64 ((nr (Abs.rowAt t6 (Int.toNat t8)) 1) - 1)))
               (some ([.one (.int .i64 8)], []))
               (goF E (callOf L28) F13 0 m P13_0 (M13_0 t0 t6 t7 (IntKind.wrap .i64 (t8 + 1)))))
              none))
            none))
          (goF E (callOf L28) F13 0 m P13_0 (M13_0 t0 t6 t7 (IntKind.wrap .i64 (t8 + 1))))))
        none)
       (cond (decide ((nr (Abs.rowAt t6 (Int.toNat t8)) 1) > 1))
        (cond (t8 == 0)
         (some ([.one (.int .i64 8)], []))
         (cond (inB (IntKind.wrap .i64 (t8 - 1)) t0.length)
          (cond ((nr (Abs.rowAt t0 (Int.toNat (IntKind.wrap .i64 (t8 - 1)))) 0) != (nr (Abs.rowAt t6 (Int.toNat t8)) 0))
           (some ([.one (.int .i64 8)], []))
           (cond (inB (IntKind.wrap .i64 (t8 - 1)) t0.length)
            (cond ((nr (Abs.rowAt t0 (Int.toNat (IntKind.wrap .i64 (t8 - 1)))) 1) != (IntKind.wrap .i64 ((nr (Abs.rowAt t6 (Int.toNat t8)) 1) - 1)))
             (some ([.one (.int .i64 8)], []))
             (goF E (callOf L28) F13 0 m P13_0 (M13_0 t0 t6 t7 (IntKind.wrap .i64 (t8 + 1)))))
            none))
          none))
        (goF E (callOf L28) F13 0 m P13_0 (M13_0 t0 t6 t7 (IntKind.wrap .i64 (t8 + 1)))))))
     none)
    none)
   (some ([.one (.int .i64 0)], []))) := by kernel_rfl

/- elasticstore/elasticstoreref06.ValidateConfig -/
noncomputable def P14_0 : List AItem := F14.at [.snd, .fst, .snd, .sub, .head]
def M14_0 (t0 : List (List Cell)) (t3 : Int) : St := ⟨[(0, .one (.sl false 45 t0)), (3, .one (.int .i64 t3))], []⟩
theorem e14 (m : Nat) (c : List (List Cell)) : runF E (callOf L13) (m + 1) 14 [.one (.sl false 45 c)] [] =
  (goF E (callOf L13) F14 0 m P14_0 (M14_0 c 0)) := by kernel_rfl
theorem e14_0 (m : Nat) (t0 : List (List Cell)) (t3 : Int) : goF E (callOf L13) F14 0 (m + 1) P14_0 (M14_0 t0 t3) =
  (cond (decide (t3 < (t0.length : Int)))
   (cond (inB t3 t0.length)
    (cond (decide ((nl (Abs.rowAt t0 (Int.toNat t3)) 2).length < 9223372036854775808))
     (cond ((vProp (nr (Abs.rowAt t0 (Int.toNat t3)) 0) (nr (Abs.rowAt t0 (Int.toNat t3)) 1) (nl (Abs.rowAt t0 (Int.toNat t3)) 2)) != 0)
      (some ([.one (.int .i64 (vProp (nr (Abs.rowAt t0 (Int.toNat t3)) 0) (nr (Abs.rowAt t0 (Int.toNat t3)) 1) (nl (Abs.rowAt t0 (Int.toNat t3)) 2)))], []))
      (cond (decide (t3 > 0))
       (cond (inB (IntKind.wrap .i64 (t3 - 1)) t0.length)
        (cond (inB t3 t0.length)
         (cond (decide ((cmpP (nr (Abs.rowAt t0 (Int.toNat (IntKind.wrap .i64 (t3 - 1)))) 0) (nr (Abs.rowAt t0 (Int.toNat (IntKind.wrap .i64 (t3 - 1)))) 1) (nr (Abs.rowAt t0 (Int.toNat t3)) 0) (nr (Abs.rowAt t0 (Int.toNat t3)) 1)) ≥ 0))
          (some ([.one (.int .i64 7)], []))
          (cond (inB t3 t0.length)
           (cond (decide ((nr (Abs.rowAt t0 (Int.toNat t3)) 1) > 1))
            (cond (t3 == 0)
             (some ([.one (.int .i64 8)], []))
             (cond (inB (IntKind.wrap .i64 (t3 - 1)) t0.length)
              (cond (inB t3 t0.length)
               (cond ((nr (Abs.rowAt t0 (Int.toNat (IntKind.wrap .i64 (t3 - 1)))) 0) != (nr (Abs.rowAt t0 (Int.toNat t3)) 0))
                (some ([.one (.int .i64 8)], []))
                (cond (inB (IntKind.wrap .i64 (t3 - 1)) t0.length)
                 (cond (inB t3 t0.length)
                  (cond ((nr (Abs.rowAt t0 (Int.toNat (IntKind.wrap .i64 (t3 - 1)))) 1) != (IntKind.wrap .i64 ((nr (Abs.rowAt t0 (Int.toNat t3)) 1) - 1)))
                   (some ([.one (.int .i64 8)], []))
                   (goF E (callOf L13) F14 0 m P14_0 (M14_0 t0 (IntKind.wrap .i64 (t3 + 1)))))
                  none)
                 none))
               none)
              none))
            (goF E (callOf L13) F14 0 m P14_0 (M14_0 t0 (IntKind.wrap .i64 (t3 + 1)))))
           none))
         none)
        none)
       (cond (inB t3 t0.length)
        (cond (decide ((nr (Abs.rowAt t0 (Int.toNat t3)) 1) > 1))
         (cond (t3 == 0)
          (some ([.one (.int .i64 8)], []))
          (cond (inB (IntKind.wrap .i64 (t3 - 1)) t0.length)
           (cond (inB t3 t0.length)
            (cond ((nr (Abs.rowAt t0 (Int.toNat (IntKind.wrap .i64 (t3 - 1)))) 0) != (nr (Abs.rowAt t0 (Int.toNat t3)) 0))
             (some ([.one (.int .i64 8)], []))
             (cond (inB (IntKind.wrap .i64 (t3 - 1)) t0.length)
              (cond (inB t3 t0.length)
               (cond ((nr (Abs.rowAt t0 (Int.toNat (IntKind.wrap .i64 (t3 - 1)))) 1) != (IntKind.wrap .i64 ((nr (Abs.rowAt t0 (Int.toNat t3)) 1) - 1)))
                (some ([.one (.int .i64 8)], []))
                (goF E (callOf L13) F14 0 m P14_0 (M14_0 t0 (IntKind.wrap .i64 (t3 + 1)))))
               none)
              none))
            none)
           none))
         (goF E (callOf L13) F14 0 m P14_0 (M14_0 t0 (IntKind.wrap .i64 (t3 + 1)))))
        none)))
     none)
    none)
   (some ([.one (.int .i64 0)], []))) := by kernel_rfl

/- elasticstore/elasticstorelaw06.ConfigValidate -/
theorem e3 (m : Nat) (c : List (List Cell)) : runF E (callOf L12) (m + 1) 3 [.one (.sl false 45 c)] [] =
  (cond (decide ((c.length : Int) > 60))
   (some ([.one (.bool true)], []))
   (cond (okRows c)
    (cond (okRows c)
     (cond ((vCfg c) == (vCfg c))
      (some ([.one (.bool true)], []))
      (some ([.one (.bool false)], [])))
     none)
    none)) := by kernel_rfl

/- elasticstore/elasticstoreref06.EqualConfig -/
noncomputable def P23_0 : List AItem := F23.at [.snd, .snd, .fst, .snd, .sub, .head]
def M23_0 (t0 : List (List Cell)) (t1 : List (List Cell)) (t5 : Int) : St := ⟨[(0, .one (.sl false 45 t0)), (1, .one (.sl false 45 t1)), (5, .one (.int .i64 t5))], []⟩
theorem e23 (m : Nat) (c : List (List Cell)) (d : List (List Cell)) : runF E (callOf L3) (m + 1) 23 [.one (.sl false 45 c), .one (.sl false 45 d)] [] =
  (cond ((c.length : Int) != (d.length : Int))
   (some ([.one (.bool false)], []))
   (goF E (callOf L3) F23 0 m P23_0 (M23_0 c d 0))) := by kernel_rfl
theorem e23_0 (m : Nat) (t0 : List (List Cell)) (t1 : List (List Cell)) (t5 : Int) : goF E (callOf L3) F23 0 (m + 1) P23_0 (M23_0 t0 t1 t5) =
  (cond (decide (t5 < (t0.length : Int)))
   (cond (inB t5 t0.length)
    (cond (inB t5 t1.length)
     (cond (decide ((nl (Abs.rowAt t0 (Int.toNat t5)) 2).length < 9223372036854775808))
      (cond (!(eqP (nr (Abs.rowAt t0 (Int.toNat t5)) 0) (nr (Abs.rowAt t0 (Int.toNat t5)) 1) (nl (Abs.rowAt t0 (Int.toNat t5)) 2) (nr (Abs.rowAt t1 (Int.toNat t5)) 0) (nr (Abs.rowAt t1 (Int.toNat t5)) 1) (nl (Abs.rowAt t1 (Int.toNat t5)) 2)))
       (some ([.one (.bool false)], []))
       (goF E (callOf L3) F23 0 m P23_0 (M23_0 t0 t1 (IntKind.wrap .i64 (t5 + 1)))))
      none)
     none)
    none)
   (some ([.one (.bool true)], []))) := by kernel_rfl

/- elasticstore/config.Append -/
noncomputable def P40_0 : List AItem := F40.at [.snd, .snd, .fst, .snd, .sub, .head]
def M40_0 (t0 : List (List Cell)) (t5 : List (List Cell)) (t12 : List (List Cell)) (t13 : Int) (t14 : Int) : St := ⟨[(0, .one (.sl false 5 t0)), (5, .one (.sl true 5 t5)), (12, .one (.sl false 45 t12)), (13, .one (.int .i64 t13)), (14, .one (.int .i64 t14))], []⟩
theorem e40 (m : Nat) (x : List (List Cell)) (c : List (List Cell)) : runF E (callOf L23) (m + 1) 40 [.one (.sl false 5 x), .one (.sl false 45 c)] [] =
  (cond (okU (IntKind.wrap .u64 (c.length : Int)))
   (goF E (callOf L23) F40 0 m P40_0 (M40_0 x (uenc (IntKind.wrap .u64 (c.length : Int))) c (c.length : Int) 0))
   none) := by kernel_rfl
theorem e40_0 (m : Nat) (t0 : List (List Cell)) (t5 : List (List Cell)) (t12 : List (List Cell)) (t13 : Int) (t14 : Int) : goF E (callOf L23) F40 0 (m + 1) P40_0 (M40_0 t0 t5 t12 t13 t14) =
  (cond (decide (t14 < t13))
   (cond (inB t14 t12.length)
    (cond (okApp [] (nl (Abs.rowAt t12 (Int.toNat t14)) 2))
     (cond (fits (t5.length + (encP (nr (Abs.rowAt t12 (Int.toNat t14)) 0) (nr (Abs.rowAt t12 (Int.toNat t14)) 1) (nl (Abs.rowAt t12 (Int.toNat t14)) 2)).length))
      (goF E (callOf L23) F40 0 m P40_0 (M40_0 t0 (t5 ++ (encP (nr (Abs.rowAt t12 (Int.toNat t14)) 0) (nr (Abs.rowAt t12 (Int.toNat t14)) 1) (nl (Abs.rowAt t12 (Int.toNat t14)) 2))) t12 t13 (IntKind.wrap .i64 (t14 + 1))))
      none)
     none)
    none)
   (cond (inB (t0.length : Int) (t0.length + 1))
    (cond (decide ((t0.length : Int) = (t0.length : Int)))
     (cond (fits ((takeN t0 (Int.toNat (t0.length : Int))).length + t5.length))
      (some ([.one (.sl true 5 ((takeN t0 (Int.toNat (t0.length : Int))) ++ t5))], []))
      none)
     none)
    none)) := by kernel_rfl
noncomputable def P40_0_c1 : List AItem := F40.at [.snd, .snd, .fst, .snd, .sub, .head]
def M40_0_c1 (t0 : List (List Cell)) (t5 : List (List Cell)) (t12 : List (List Cell)) (t13 : Int) (t14 : Int) : St := ⟨[(0, .one (.sl true 5 t0)), (5, .one (.sl true 5 t5)), (12, .one (.sl false 45 t12)), (13, .one (.int .i64 t13)), (14, .one (.int .i64 t14))], []⟩
theorem e40_c1 (m : Nat) (c : List (List Cell)) : runF E (callOf L23) (m + 1) 40 [.one (.nils), .one (.sl false 45 c)] [] =
  (cond (okU (IntKind.wrap .u64 (c.length : Int)))
   (goF E (callOf L23) F40 0 m P40_0_c1 (M40_0_c1 ([] : List (List Cell)) (uenc (IntKind.wrap .u64 (c.length : Int))) c (c.length : Int) 0))
   none) := by kernel_rfl
theorem e40_0_c1 (m : Nat) (t0 : List (List Cell)) (t5 : List (List Cell)) (t12 : List (List Cell)) (t13 : Int) (t14 : Int) : goF E (callOf L23) F40 0 (m + 1) P40_0_c1 (M40_0_c1 t0 t5 t12 t13 t14) =
  (cond (decide (t14 < t13))
   (cond (inB t14 t12.length)
    (cond (okApp [] (nl (Abs.rowAt t12 (Int.toNat t14)) 2))
     (cond (fits (t5.length + (encP (nr (Abs.rowAt t12 (Int.toNat t14)) 0) (nr (Abs.rowAt t12 (Int.toNat t14)) 1) (nl (Abs.rowAt t12 (Int.toNat t14)) 2)).length))
      (goF E (callOf L23) F40 0 m P40_0_c1 (M40_0_c1 t0 (t5 ++ (encP (nr (Abs.rowAt t12 (Int.toNat t14)) 0) (nr (Abs.rowAt t12 (Int.toNat t14)) 1) (nl (Abs.rowAt t12 (Int.toNat t14)) 2))) t12 t13 (IntKind.wrap .i64 (t14 + 1))))
      none)
     none)
    none)
   (cond (inB (t0.length : Int) (t0.length + 1))
    (cond (decide ((t0.length : Int) = (t0.length : Int)))
     (cond (fits ((takeN t0 (Int.toNat (t0.length : Int))).length + t5.length))
      (some ([.one (.sl true 5 ((takeN t0 (Int.toNat (t0.length : Int))) ++ t5))], []))
      none)
     none)
    none)) := by kernel_rfl

/- elasticstore/elasticstoreref06.AppendConfig -/
noncomputable def P42_0 : List AItem := F42.at [.snd, .snd, .fst, .snd, .sub, .head]
def M42_0 (t0 : List (List Cell)) (t1 : List (List Cell)) (t5 : Int) : St := ⟨[(0, .one (.sl false 5 t0)), (1, .one (.sl false 45 t1)), (5, .one (.int .i64 t5))], []⟩
theorem e42 (m : Nat) (x : List (List Cell)) (c : List (List Cell)) : runF E (callOf L40) (m + 1) 42 [.one (.sl false 5 x), .one (.sl false 45 c)] [] =
  (cond (okNums x [[Cell.int .i64 (c.length : Int)]])
   (goF E (callOf L40) F42 0 m P42_0 (M42_0 (x ++ encL [[Cell.int .i64 (c.length : Int)]]) c 0))
   none) := by kernel_rfl
theorem e42_0 (m : Nat) (t0 : List (List Cell)) (t1 : List (List Cell)) (t5 : Int) : goF E (callOf L40) F42 0 (m + 1) P42_0 (M42_0 t0 t1 t5) =
  (cond (decide (t5 < (t1.length : Int)))
   (cond (inB t5 t1.length)
    (cond (okApp t0 (nl (Abs.rowAt t1 (Int.toNat t5)) 2))
     (goF E (callOf L40) F42 0 m P42_0 (M42_0 (t0 ++ encP (nr (Abs.rowAt t1 (Int.toNat t5)) 0) (nr (Abs.rowAt t1 (Int.toNat t5)) 1) (nl (Abs.rowAt t1 (Int.toNat t5)) 2)) t1 (IntKind.wrap .i64 (t5 + 1))))
     none)
    none)
   (some ([.one (.sl false 5 t0)], []))) := by kernel_rfl
noncomputable def P42_0_c1 : List AItem := F42.at [.snd, .snd, .fst, .snd, .sub, .head]
def M42_0_c1 (t0 : List (List Cell)) (t1 : List (List Cell)) (t5 : Int) : St := ⟨[(0, .one (.sl false 5 t0)), (1, .one (.sl false 45 t1)), (5, .one (.int .i64 t5))], []⟩
theorem e42_c1 (m : Nat) (c : List (List Cell)) : runF E (callOf L40) (m + 1) 42 [.one (.nils), .one (.sl false 45 c)] [] =
  (cond (okNums ([] : List (List Cell)) [[Cell.int .i64 (c.length : Int)]])
   (goF E (callOf L40) F42 0 m P42_0_c1 (M42_0_c1 (([] : List (List Cell)) ++ encL [[Cell.int .i64 (c.length : Int)]]) c 0))
   none) := by kernel_rfl
theorem e42_0_c1 (m : Nat) (t0 : List (List Cell)) (t1 : List (List Cell)) (t5 : Int) : goF E (callOf L40) F42 0 (m + 1) P42_0_c1 (M42_0_c1 t0 t1 t5) =
  (cond (decide (t5 < (t1.length : Int)))
   (cond (inB t5 t1.length)
    (cond (okApp t0 (nl (Abs.rowAt t1 (Int.toNat t5)) 2))
     (goF E (callOf L40) F42 0 m P42_0_c1 (M42_0_c1 (t0 ++ encP (nr (Abs.rowAt t1 (Int.toNat t5)) 0) (nr (Abs.rowAt t1 (Int.toNat t5)) 1) (nl (Abs.rowAt t1 (Int.toNat t5)) 2)) t1 (IntKind.wrap .i64 (t5 + 1))))
     none)
    none)
   (some ([.one (.sl false 5 t0)], []))) := by kernel_rfl

/- elasticstore/config.Decode -/
noncomputable def P41_0 : List AItem := F41.at [.snd, .snd, .snd, .snd, .snd, .fst, .snd, .sub, .head]
def M41_0 (t0 : List (List Cell)) (t6 : Int) (t8 : List (List Cell)) (t24 : Int) (t25 : Int) : St := ⟨[(0, .one (.sl false 5 t0)), (6, .one (.int .i64 t6)), (8, .one (.sl true 45 t8)), (24, .one (.int .u64 t24)), (25, .one (.int .u64 t25))], []⟩
theorem e41 (m : Nat) (x : List (List Cell)) : runF E (callOf L42) (m + 1) 41 [.one (.sl false 5 x)] [] =
  (cond (okRd x)
   (cond ((udec x).2.2 != 0)
    (some ([.one (.sl true 45 ([] : List (List Cell))), .one (.int .i64 0), .one (.int .i64 (udec x).2.2)], []))
    (cond (decide ((udec x).1 > 9))
     (some ([.one (.sl true 45 ([] : List (List Cell))), .one (.int .i64 0), .one (.int .i64 3)], []))
     (goF E (callOf L42) F41 0 m P41_0 (M41_0 x (udec x).2.1 ([] : List (List Cell)) (udec x).1 0))))
   none) := by kernel_rfl
theorem e41_0 (m : Nat) (t0 : List (List Cell)) (t6 : Int) (t8 : List (List Cell)) (t24 : Int) (t25 : Int) : goF E (callOf L42) F41 0 (m + 1) P41_0 (M41_0 t0 t6 t8 t24 t25) =
  (cond (decide (t25 < t24))
   (cond (inB t6 (t0.length + 1))
    (cond (okRd (dropN t0 (Int.toNat t6)))
     (cond ((decP (dropN t0 (Int.toNat t6))).2.2.2.2 != 0)
      (some ([.one (.sl true 45 ([] : List (List Cell))), .one (.int .i64 0), .one (.int .i64 (decP (dropN t0 (Int.toNat t6))).2.2.2.2)], []))
      (cond (fits (t8.length + [[Cell.int .i64 (decP (dropN t0 (Int.toNat t6))).1, Cell.int .i64 (decP (dropN t0 (Int.toNat t6))).2.1, Cell.slice 63 (decP (dropN t0 (Int.toNat t6))).2.2.1]].length))
       (goF E (callOf L42) F41 0 m P41_0 (M41_0 t0 (IntKind.wrap .i64 (t6 + (decP (dropN t0 (Int.toNat t6))).2.2.2.1)) (t8 ++ [[Cell.int .i64 (decP (dropN t0 (Int.toNat t6))).1, Cell.int .i64 (decP (dropN t0 (Int.toNat t6))).2.1, Cell.slice 63 (decP (dropN t0 (Int.toNat t6))).2.2.1]]) t24 (IntKind.wrap .u64 (t25 + 1))))
       none))
     none)
    none)
   (cond (okRows t8)
    (cond ((vCfg t8) != 0)
     (some ([.one (.sl true 45 ([] : List (List Cell))), .one (.int .i64 0), .one (.int .i64 (vCfg t8))], []))
     (some ([.one (.sl true 45 t8), .one (.int .i64 t6), .one (.int .i64 0)], [])))
    none)) := by kernel_rfl

/- elasticstore/elasticstoreref06.DecodeConfig -/
noncomputable def P43_0 : List AItem := F43.at [.snd, .snd, .snd, .snd, .snd, .fst, .snd, .sub, .head]
def M43_0 (t0 : List (List Cell)) (t5 : Int) (t6 : Int) (t8 : List (List Cell)) (t9 : Int) : St := ⟨[(0, .one (.sl false 5 t0)), (5, .one (.int .u64 t5)), (6, .one (.int .i64 t6)), (8, .one (.sl true 45 t8)), (9, .one (.int .i64 t9))], []⟩
theorem e43 (m : Nat) (x : List (List Cell)) : runF E (callOf L41) (m + 1) 43 [.one (.sl false 5 x)] [] =
  (cond (okRd x)
   (cond ((udec x).2.2 != 0)
    (some ([.one (.sl true 45 ([] : List (List Cell))), .one (.int .i64 0), .one (.int .i64 (udec x).2.2)], []))
    (cond (decide ((udec x).1 > 9))
     (some ([.one (.sl true 45 ([] : List (List Cell))), .one (.int .i64 0), .one (.int .i64 3)], []))
     (goF E (callOf L41) F43 0 m P43_0 (M43_0 x (udec x).1 (udec x).2.1 ([] : List (List Cell)) 0))))
   none) := by kernel_rfl
theorem e43_0 (m : Nat) (t0 : List (List Cell)) (t5 : Int) (t6 : Int) (t8 : List (List Cell)) (t9 : Int) : goF E (callOf L41) F43 0 (m + 1) P43_0 (M43_0 t0 t5 t6 t8 t9) =
  (cond (decide (t9 < (IntKind.wrap .i64 t5)))
   (cond (inB t6 (t0.length + 1))
    (cond (okRd (dropN t0 (Int.toNat t6)))
     (cond ((decP (dropN t0 (Int.toNat t6))).2.2.2.2 != 0)
      (some ([.one (.sl true 45 ([] : List (List Cell))), .one (.int .i64 0), .one (.int .i64 (decP (dropN t0 (Int.toNat t6))).2.2.2.2)], []))
      (cond (fits (t8.length + [[Cell.int .i64 (decP (dropN t0 (Int.toNat t6))).1, Cell.int .i64 (decP (dropN t0 (Int.toNat t6))).2.1, Cell.slice 63 (decP (dropN t0 (Int.toNat t6))).2.2.1]].length))
       (goF E (callOf L41) F43 0 m P43_0 (M43_0 t0 t5 (IntKind.wrap .i64 (t6 + (decP (dropN t0 (Int.toNat t6))).2.2.2.1)) (t8 ++ [[Cell.int .i64 (decP (dropN t0 (Int.toNat t6))).1, Cell.int .i64 (decP (dropN t0 (Int.toNat t6))).2.1, Cell.slice 63 (decP (dropN t0 (Int.toNat t6))).2.2.1]]) (IntKind.wrap .i64 (t9 + 1))))
       none))
     none)
    none)
   (cond (okRows t8)
    (cond ((vCfg t8) != 0)
     (some ([.one (.sl true 45 ([] : List (List Cell))), .one (.int .i64 0), .one (.int .i64 (vCfg t8))], []))
     (some ([.one (.sl true 45 t8), .one (.int .i64 t6), .one (.int .i64 0)], [])))
    none)) := by kernel_rfl

/- elasticstore/elasticstorelaw06.ConfigRoundTrip -/
theorem e10 (m : Nat) (c : List (List Cell)) (x : List (List Cell)) : runF E (callOf L43) (m + 1) 10 [.one (.sl false 45 c), .one (.sl false 5 x)] [] =
  (cond (decide ((c.length : Int) > 30))
   (some ([.one (.bool true)], []))
   (cond (decide ((x.length : Int) > 300))
    (some ([.one (.bool true)], []))
    (cond (okRows c)
     (cond ((vCfg c) != 0)
      (some ([.one (.bool true)], []))
      (cond (okCApp [] c)
       (cond (fits (([] : List (List Cell)).length + (encC c).length))
        (cond (fits ((([] : List (List Cell)) ++ (encC c)).length + x.length))
         (cond (okRd ((([] : List (List Cell)) ++ (encC c)) ++ x))
          (cond (okCApp [] c)
           (cond ((toBytes (encC c)) == (toBytes (encC c)))
            (cond ((decC ((([] : List (List Cell)) ++ (encC c)) ++ x)).2.2 == 0)
             (cond ((decC ((([] : List (List Cell)) ++ (encC c)) ++ x)).2.1 == ((encC c).length : Int))
              (cond (okRows c)
               (cond (eqCfg c (decC ((([] : List (List Cell)) ++ (encC c)) ++ x)).1)
                (some ([.one (.bool true)], []))
                (some ([.one (.bool false)], [])))
               none)
              (some ([.one (.bool false)], [])))
             (some ([.one (.bool false)], [])))
            (some ([.one (.bool false)], [])))
           none)
          none)
         none)
        none)
       none))
     none))) := by kernel_rfl

/- elasticstore/elasticstorelaw06.ConfigDecode -/
theorem e11 (m : Nat) (x : List (List Cell)) : runF E (callOf L10) (m + 1) 11 [.one (.sl false 5 x)] [] =
  (cond (decide ((x.length : Int) > 400))
   (some ([.one (.bool true)], []))
   (cond (okRd x)
    (cond (okRd x)
     (cond (okRows (decC x).1)
      (cond (eqCfg (decC x).1 (decC x).1)
       (cond ((decC x).2.1 == (decC x).2.1)
        (cond ((decC x).2.2 == (decC x).2.2)
         (some ([.one (.bool true)], []))
         (some ([.one (.bool false)], [])))
        (some ([.one (.bool false)], [])))
       (some ([.one (.bool false)], [])))
      none)
     none)
    none)) := by kernel_rfl

end Go.Proofs.Ytohikghidhdhjaa
