/-
  What each function does at each place where a run of it may be cut: printed by a program of our own.
-/
import Derived.Test.YtdgijohgncchiaaTab
namespace Go.Proofs.Ytdgijohgncchiaa
open Go.Abs
set_option maxRecDepth 20000

/- elasticstore/proposal.within -/
theorem e90 (m : Nat) (n : Int) (lo : Int) (hi : Int) (u : Bool) : runF E (callOf L) (m + 1) 90 [.one (.int .i64 n), .one (.int .i64 lo), .one (.int .i64 hi), .one (.bool u)] [] =
  (cond (!u)
   (some ([.one (.bool (n == 0))], []))
   (cond (decide (n ≥ lo))
    (some ([.one (.bool (decide (n ≤ hi)))], []))
    (some ([.one (.bool false)], [])))) := by kernel_rfl

/- elasticstore/quorum.ValidateRule -/
theorem e91 (m : Nat) (k : Int) (c : Int) (f : Int) : runF E (callOf L90) (m + 1) 91 [.agg [.int .i64 k, .int .i64 c, .int .i64 f]] [] =
  (cond (k == 1)
   (cond (k == 1)
    (cond (!(c == 0))
     (some ([.one (.int .i64 9)], []))
     (cond (!(f == 0))
      (some ([.one (.int .i64 9)], []))
      (some ([.one (.int .i64 0)], []))))
    (cond (k == 3)
     (cond (decide (c ≥ 1))
      (cond (!(decide (c ≤ 12)))
       (some ([.one (.int .i64 9)], []))
       (cond (!(f == 0))
        (some ([.one (.int .i64 9)], []))
        (some ([.one (.int .i64 0)], []))))
      (some ([.one (.int .i64 9)], [])))
     (cond (k == 4)
      (cond (decide (f ≥ 0))
       (cond (!(c == 0))
        (some ([.one (.int .i64 9)], []))
        (cond (!(decide (f ≤ 12)))
         (some ([.one (.int .i64 9)], []))
         (some ([.one (.int .i64 0)], []))))
       (cond (!(c == 0))
        (some ([.one (.int .i64 9)], []))
        (some ([.one (.int .i64 9)], []))))
      (some ([.one (.int .i64 10)], [])))))
   (cond (k == 2)
    (cond (!(c == 0))
     (some ([.one (.int .i64 9)], []))
     (cond (!(f == 0))
      (some ([.one (.int .i64 9)], []))
      (some ([.one (.int .i64 0)], []))))
    (cond (k == 3)
     (cond (decide (c ≥ 1))
      (cond (!(decide (c ≤ 12)))
       (some ([.one (.int .i64 9)], []))
       (cond (!(f == 0))
        (some ([.one (.int .i64 9)], []))
        (some ([.one (.int .i64 0)], []))))
      (some ([.one (.int .i64 9)], [])))
     (cond (k == 4)
      (cond (decide (f ≥ 0))
       (cond (!(c == 0))
        (some ([.one (.int .i64 9)], []))
        (cond (!(decide (f ≤ 12)))
         (some ([.one (.int .i64 9)], []))
         (some ([.one (.int .i64 0)], []))))
       (cond (!(c == 0))
        (some ([.one (.int .i64 9)], []))
        (some ([.one (.int .i64 9)], []))))
      (some ([.one (.int .i64 10)], [])))))) := by kernel_rfl

/- elasticstore/elasticstoreref06.Server -/
theorem e93 (m : Nat) (n : Int) : runF E (callOf L91) (m + 1) 93 [.one (.int .i64 n)] [] =
  (cond (decide (n ≥ 1))
   (some ([.one (.bool (decide (n ≤ 12)))], []))
   (some ([.one (.bool false)], []))) := by kernel_rfl

/- elasticstore/elasticstoreref06.Admin -/
theorem e81 (m : Nat) (n : Int) : runF E (callOf L93) (m + 1) 81 [.one (.int .i64 n)] [] =
  (cond (decide (n ≥ 201))
   (some ([.one (.bool (decide (n < 204)))], []))
   (some ([.one (.bool false)], []))) := by kernel_rfl

/- elasticstore/elasticstoreref06.ValidateRule -/
theorem e94 (m : Nat) (k : Int) (c : Int) (f : Int) : runF E (callOf L81) (m + 1) 94 [.agg [.int .i64 k, .int .i64 c, .int .i64 f]] [] =
  (cond (decide (k < 1))
   (some ([.one (.int .i64 10)], []))
   (cond (decide (k > 4))
    (some ([.one (.int .i64 10)], []))
    (cond (k == 3)
     (cond (!(isServer c))
      (some ([.one (.int .i64 9)], []))
      (cond (k != 3)
       (cond (c != 0)
        (some ([.one (.int .i64 9)], []))
        (cond (k == 4)
         (cond (decide (f < 0))
          (some ([.one (.int .i64 9)], []))
          (cond (decide (f > 12))
           (some ([.one (.int .i64 9)], []))
           (cond (k != 4)
            (cond (f != 0)
             (some ([.one (.int .i64 9)], []))
             (some ([.one (.int .i64 0)], [])))
            (some ([.one (.int .i64 0)], [])))))
         (cond (k != 4)
          (cond (f != 0)
           (some ([.one (.int .i64 9)], []))
           (some ([.one (.int .i64 0)], [])))
          (some ([.one (.int .i64 0)], [])))))
       (cond (k == 4)
        (cond (decide (f < 0))
         (some ([.one (.int .i64 9)], []))
         (cond (decide (f > 12))
          (some ([.one (.int .i64 9)], []))
          (cond (k != 4)
           (cond (f != 0)
            (some ([.one (.int .i64 9)], []))
            (some ([.one (.int .i64 0)], [])))
           (some ([.one (.int .i64 0)], [])))))
        (cond (k != 4)
         (cond (f != 0)
          (some ([.one (.int .i64 9)], []))
          (some ([.one (.int .i64 0)], [])))
         (some ([.one (.int .i64 0)], []))))))
     (cond (k != 3)
      (cond (c != 0)
       (some ([.one (.int .i64 9)], []))
       (cond (k == 4)
        (cond (decide (f < 0))
         (some ([.one (.int .i64 9)], []))
         (cond (decide (f > 12))
          (some ([.one (.int .i64 9)], []))
          (cond (k != 4)
           (cond (f != 0)
            (some ([.one (.int .i64 9)], []))
            (some ([.one (.int .i64 0)], [])))
           (some ([.one (.int .i64 0)], [])))))
        (cond (k != 4)
         (cond (f != 0)
          (some ([.one (.int .i64 9)], []))
          (some ([.one (.int .i64 0)], [])))
         (some ([.one (.int .i64 0)], [])))))
      (cond (k == 4)
       (cond (decide (f < 0))
        (some ([.one (.int .i64 9)], []))
        (cond (decide (f > 12))
         (some ([.one (.int .i64 9)], []))
         (cond (k != 4)
          (cond (f != 0)
           (some ([.one (.int .i64 9)], []))
           (some ([.one (.int .i64 0)], [])))
          (some ([.one (.int .i64 0)], [])))))
       (cond (k != 4)
        (cond (f != 0)
         (some ([.one (.int .i64 9)], []))
         (some ([.one (.int .i64 0)], [])))
        (some ([.one (.int .i64 0)], [])))))))) := by kernel_rfl

/- elasticstore/proposal.ValidateChange -/
theorem e76 (m : Nat) (k : Int) (s : Int) (w : Int) (v : Int) (rk : Int) (rc : Int) (rf : Int) : runF E (callOf L94) (m + 1) 76 [.agg [.int .i64 k, .int .i64 s, .int .i64 w, .int .i64 v, .int .i64 rk, .int .i64 rc, .int .i64 rf]] [] =
  (cond (decide (k < 1))
   (some ([.one (.int .i64 10)], []))
   (cond (decide (k > 4))
    (some ([.one (.int .i64 10)], []))
    (cond (k == 1)
     (cond (k == 3)
      (cond (!(within s 1 12 (!(k == 4))))
       (some ([.one (.int .i64 9)], []))
       (cond (!(within w 1 9 true))
        (some ([.one (.int .i64 9)], []))
        (cond (!(within v 1 1000 true))
         (some ([.one (.int .i64 9)], []))
         (cond (k == 4)
          (some ([.one (.int .i64 (vRule rk rc rf))], []))
          (cond (!((rk == 0) && ((rc == 0) && ((rf == 0) && true))))
           (some ([.one (.int .i64 2)], []))
           (some ([.one (.int .i64 0)], [])))))))
      (cond (!(within s 1 12 (!(k == 4))))
       (some ([.one (.int .i64 9)], []))
       (cond (!(within w 1 9 true))
        (some ([.one (.int .i64 9)], []))
        (cond (!(within v 1 1000 (k == 4)))
         (some ([.one (.int .i64 9)], []))
         (cond (k == 4)
          (some ([.one (.int .i64 (vRule rk rc rf))], []))
          (cond (!((rk == 0) && ((rc == 0) && ((rf == 0) && true))))
           (some ([.one (.int .i64 2)], []))
           (some ([.one (.int .i64 0)], []))))))))
     (cond (k == 3)
      (cond (!(within s 1 12 (!(k == 4))))
       (some ([.one (.int .i64 9)], []))
       (cond (!(within w 1 9 (k == 3)))
        (some ([.one (.int .i64 9)], []))
        (cond (!(within v 1 1000 true))
         (some ([.one (.int .i64 9)], []))
         (cond (k == 4)
          (some ([.one (.int .i64 (vRule rk rc rf))], []))
          (cond (!((rk == 0) && ((rc == 0) && ((rf == 0) && true))))
           (some ([.one (.int .i64 2)], []))
           (some ([.one (.int .i64 0)], [])))))))
      (cond (!(within s 1 12 (!(k == 4))))
       (some ([.one (.int .i64 9)], []))
       (cond (!(within w 1 9 (k == 3)))
        (some ([.one (.int .i64 9)], []))
        (cond (!(within v 1 1000 (k == 4)))
         (some ([.one (.int .i64 9)], []))
         (cond (k == 4)
          (some ([.one (.int .i64 (vRule rk rc rf))], []))
          (cond (!((rk == 0) && ((rc == 0) && ((rf == 0) && true))))
           (some ([.one (.int .i64 2)], []))
           (some ([.one (.int .i64 0)], []))))))))))) := by kernel_rfl

/- elasticstore/elasticstoreref06.ValidateChange -/
noncomputable def P82_0 : List AItem := F82.at [.snd, .snd, .fst, .sub, .snd]
def M82_0 (t3 : Bool) (t4 : Bool) (t5 : Bool) (t6 : Bool) (t19 : Bool) (b0 : Int) (b0_1 : Int) (b0_2 : Int) (b0_3 : Int) (b0_4 : Int) (b0_5 : Int) (b0_6 : Int) : St := ⟨[(1, .one (.ptr 0 0)), (3, .one (.bool t3)), (4, .one (.bool t4)), (5, .one (.bool t5)), (6, .one (.bool t6)), (19, .one (.bool t19))], [.var [.int .i64 b0, .int .i64 b0_1, .int .i64 b0_2, .int .i64 b0_3, .int .i64 b0_4, .int .i64 b0_5, .int .i64 b0_6]]⟩
noncomputable def P82_1 : List AItem := F82.at [.snd, .snd, .fst, .sub, .snd, .snd, .snd]
def M82_1 (t3 : Bool) (t4 : Bool) (t5 : Bool) (t6 : Bool) (t34 : Bool) (b0 : Int) (b0_1 : Int) (b0_2 : Int) (b0_3 : Int) (b0_4 : Int) (b0_5 : Int) (b0_6 : Int) : St := ⟨[(1, .one (.ptr 0 0)), (3, .one (.bool t3)), (4, .one (.bool t4)), (5, .one (.bool t5)), (6, .one (.bool t6)), (34, .one (.bool t34))], [.var [.int .i64 b0, .int .i64 b0_1, .int .i64 b0_2, .int .i64 b0_3, .int .i64 b0_4, .int .i64 b0_5, .int .i64 b0_6]]⟩
noncomputable def P82_2 : List AItem := F82.at [.snd, .snd, .fst, .sub, .snd, .snd, .snd, .snd, .snd]
def M82_2 (t3 : Bool) (t4 : Bool) (t5 : Bool) (t6 : Bool) (t51 : Bool) (b0 : Int) (b0_1 : Int) (b0_2 : Int) (b0_3 : Int) (b0_4 : Int) (b0_5 : Int) (b0_6 : Int) : St := ⟨[(1, .one (.ptr 0 0)), (3, .one (.bool t3)), (4, .one (.bool t4)), (5, .one (.bool t5)), (6, .one (.bool t6)), (51, .one (.bool t51))], [.var [.int .i64 b0, .int .i64 b0_1, .int .i64 b0_2, .int .i64 b0_3, .int .i64 b0_4, .int .i64 b0_5, .int .i64 b0_6]]⟩
noncomputable def P82_3 : List AItem := F82.at [.snd, .snd, .fst, .sub, .snd, .snd, .snd, .snd, .snd, .snd, .snd]
def M82_3 (t6 : Bool) (t77 : Bool) (b0 : Int) (b0_1 : Int) (b0_2 : Int) (b0_3 : Int) (b0_4 : Int) (b0_5 : Int) (b0_6 : Int) : St := ⟨[(1, .one (.ptr 0 0)), (6, .one (.bool t6)), (77, .one (.bool t77))], [.var [.int .i64 b0, .int .i64 b0_1, .int .i64 b0_2, .int .i64 b0_3, .int .i64 b0_4, .int .i64 b0_5, .int .i64 b0_6]]⟩
noncomputable def P82_4 : List AItem := F82.at [.snd, .snd, .snd]
def M82_4  : St := ⟨[], []⟩
theorem e82 (m : Nat) (k : Int) (s : Int) (w : Int) (v : Int) (rk : Int) (rc : Int) (rf : Int) : runF E (callOf L76) (m + 1) 82 [.agg [.int .i64 k, .int .i64 s, .int .i64 w, .int .i64 v, .int .i64 rk, .int .i64 rc, .int .i64 rf]] [] =
  (cond (!(k == 1))
   (cond (!(k == 2))
    (cond (!(k == 3))
     (goF E (callOf L76) F82 0 m P82_0 (M82_0 (k == 1) (k == 2) (k == 3) (k == 4) (!(k == 4)) k s w v rk rc rf))
     (goF E (callOf L76) F82 0 m P82_0 (M82_0 (k == 1) (k == 2) (k == 3) (k == 4) false k s w v rk rc rf)))
    (goF E (callOf L76) F82 0 m P82_0 (M82_0 (k == 1) (k == 2) (k == 3) (k == 4) false k s w v rk rc rf)))
   (goF E (callOf L76) F82 0 m P82_0 (M82_0 (k == 1) (k == 2) (k == 3) (k == 4) false k s w v rk rc rf))) := by kernel_rfl
theorem e82_0 (m : Nat) (t3 : Bool) (t4 : Bool) (t5 : Bool) (t6 : Bool) (t19 : Bool) (b0 : Int) (b0_1 : Int) (b0_2 : Int) (b0_3 : Int) (b0_4 : Int) (b0_5 : Int) (b0_6 : Int) : goF E (callOf L76) F82 0 (m + 1) P82_0 (M82_0 t3 t4 t5 t6 t19 b0 b0_1 b0_2 b0_3 b0_4 b0_5 b0_6) =
  (cond t19
   (some ([.one (.int .i64 10)], []))
   (cond (!t6)
    (cond (!(isServer b0_1))
     (goF E (callOf L76) F82 0 m P82_1 (M82_1 t3 t4 t5 t6 true b0 b0_1 b0_2 b0_3 b0_4 b0_5 b0_6))
     (cond t6
      (goF E (callOf L76) F82 0 m P82_1 (M82_1 t3 t4 t5 t6 (b0_1 != 0) b0 b0_1 b0_2 b0_3 b0_4 b0_5 b0_6))
      (goF E (callOf L76) F82 0 m P82_1 (M82_1 t3 t4 t5 t6 false b0 b0_1 b0_2 b0_3 b0_4 b0_5 b0_6))))
    (cond t6
     (goF E (callOf L76) F82 0 m P82_1 (M82_1 t3 t4 t5 t6 (b0_1 != 0) b0 b0_1 b0_2 b0_3 b0_4 b0_5 b0_6))
     (goF E (callOf L76) F82 0 m P82_1 (M82_1 t3 t4 t5 t6 false b0 b0_1 b0_2 b0_3 b0_4 b0_5 b0_6))))) := by kernel_rfl
theorem e82_1 (m : Nat) (t3 : Bool) (t4 : Bool) (t5 : Bool) (t6 : Bool) (t34 : Bool) (b0 : Int) (b0_1 : Int) (b0_2 : Int) (b0_3 : Int) (b0_4 : Int) (b0_5 : Int) (b0_6 : Int) : goF E (callOf L76) F82 0 (m + 1) P82_1 (M82_1 t3 t4 t5 t6 t34 b0 b0_1 b0_2 b0_3 b0_4 b0_5 b0_6) =
  (cond t34
   (some ([.one (.int .i64 9)], []))
   (cond t3
    (cond (decide (b0_2 < 1))
     (goF E (callOf L76) F82 0 m P82_2 (M82_2 t3 t4 t5 t6 true b0 b0_1 b0_2 b0_3 b0_4 b0_5 b0_6))
     (cond (decide (b0_2 > 9))
      (goF E (callOf L76) F82 0 m P82_2 (M82_2 t3 t4 t5 t6 true b0 b0_1 b0_2 b0_3 b0_4 b0_5 b0_6))
      (cond t4
       (goF E (callOf L76) F82 0 m P82_2 (M82_2 t3 t4 t5 t6 (b0_2 != 0) b0 b0_1 b0_2 b0_3 b0_4 b0_5 b0_6))
       (cond t6
        (goF E (callOf L76) F82 0 m P82_2 (M82_2 t3 t4 t5 t6 (b0_2 != 0) b0 b0_1 b0_2 b0_3 b0_4 b0_5 b0_6))
        (goF E (callOf L76) F82 0 m P82_2 (M82_2 t3 t4 t5 t6 false b0 b0_1 b0_2 b0_3 b0_4 b0_5 b0_6))))))
    (cond t5
     (cond (decide (b0_2 < 1))
      (goF E (callOf L76) F82 0 m P82_2 (M82_2 t3 t4 t5 t6 true b0 b0_1 b0_2 b0_3 b0_4 b0_5 b0_6))
      (cond (decide (b0_2 > 9))
       (goF E (callOf L76) F82 0 m P82_2 (M82_2 t3 t4 t5 t6 true b0 b0_1 b0_2 b0_3 b0_4 b0_5 b0_6))
       (cond t4
        (goF E (callOf L76) F82 0 m P82_2 (M82_2 t3 t4 t5 t6 (b0_2 != 0) b0 b0_1 b0_2 b0_3 b0_4 b0_5 b0_6))
        (cond t6
         (goF E (callOf L76) F82 0 m P82_2 (M82_2 t3 t4 t5 t6 (b0_2 != 0) b0 b0_1 b0_2 b0_3 b0_4 b0_5 b0_6))
         (goF E (callOf L76) F82 0 m P82_2 (M82_2 t3 t4 t5 t6 false b0 b0_1 b0_2 b0_3 b0_4 b0_5 b0_6))))))
     (cond t4
      (goF E (callOf L76) F82 0 m P82_2 (M82_2 t3 t4 t5 t6 (b0_2 != 0) b0 b0_1 b0_2 b0_3 b0_4 b0_5 b0_6))
      (cond t6
       (goF E (callOf L76) F82 0 m P82_2 (M82_2 t3 t4 t5 t6 (b0_2 != 0) b0 b0_1 b0_2 b0_3 b0_4 b0_5 b0_6))
       (goF E (callOf L76) F82 0 m P82_2 (M82_2 t3 t4 t5 t6 false b0 b0_1 b0_2 b0_3 b0_4 b0_5 b0_6))))))) := by kernel_rfl
theorem e82_2 (m : Nat) (t3 : Bool) (t4 : Bool) (t5 : Bool) (t6 : Bool) (t51 : Bool) (b0 : Int) (b0_1 : Int) (b0_2 : Int) (b0_3 : Int) (b0_4 : Int) (b0_5 : Int) (b0_6 : Int) : goF E (callOf L76) F82 0 (m + 1) P82_2 (M82_2 t3 t4 t5 t6 t51 b0 b0_1 b0_2 b0_3 b0_4 b0_5 b0_6) =
  (cond t51
   (some ([.one (.int .i64 9)], []))
   (cond t5
    (cond (decide (b0_3 < 1))
     (goF E (callOf L76) F82 0 m P82_3 (M82_3 t6 true b0 b0_1 b0_2 b0_3 b0_4 b0_5 b0_6))
     (cond (decide (b0_3 > 1000))
      (goF E (callOf L76) F82 0 m P82_3 (M82_3 t6 true b0 b0_1 b0_2 b0_3 b0_4 b0_5 b0_6))
      (cond t3
       (goF E (callOf L76) F82 0 m P82_3 (M82_3 t6 (b0_3 != 0) b0 b0_1 b0_2 b0_3 b0_4 b0_5 b0_6))
       (cond t4
        (goF E (callOf L76) F82 0 m P82_3 (M82_3 t6 (b0_3 != 0) b0 b0_1 b0_2 b0_3 b0_4 b0_5 b0_6))
        (goF E (callOf L76) F82 0 m P82_3 (M82_3 t6 false b0 b0_1 b0_2 b0_3 b0_4 b0_5 b0_6))))))
    (cond t6
     (cond (decide (b0_3 < 1))
      (goF E (callOf L76) F82 0 m P82_3 (M82_3 t6 true b0 b0_1 b0_2 b0_3 b0_4 b0_5 b0_6))
      (cond (decide (b0_3 > 1000))
       (goF E (callOf L76) F82 0 m P82_3 (M82_3 t6 true b0 b0_1 b0_2 b0_3 b0_4 b0_5 b0_6))
       (cond t3
        (goF E (callOf L76) F82 0 m P82_3 (M82_3 t6 (b0_3 != 0) b0 b0_1 b0_2 b0_3 b0_4 b0_5 b0_6))
        (cond t4
         (goF E (callOf L76) F82 0 m P82_3 (M82_3 t6 (b0_3 != 0) b0 b0_1 b0_2 b0_3 b0_4 b0_5 b0_6))
         (goF E (callOf L76) F82 0 m P82_3 (M82_3 t6 false b0 b0_1 b0_2 b0_3 b0_4 b0_5 b0_6))))))
     (cond t3
      (goF E (callOf L76) F82 0 m P82_3 (M82_3 t6 (b0_3 != 0) b0 b0_1 b0_2 b0_3 b0_4 b0_5 b0_6))
      (cond t4
       (goF E (callOf L76) F82 0 m P82_3 (M82_3 t6 (b0_3 != 0) b0 b0_1 b0_2 b0_3 b0_4 b0_5 b0_6))
       (goF E (callOf L76) F82 0 m P82_3 (M82_3 t6 false b0 b0_1 b0_2 b0_3 b0_4 b0_5 b0_6))))))) := by kernel_rfl
theorem e82_3 (m : Nat) (t6 : Bool) (t77 : Bool) (b0 : Int) (b0_1 : Int) (b0_2 : Int) (b0_3 : Int) (b0_4 : Int) (b0_5 : Int) (b0_6 : Int) : goF E (callOf L76) F82 0 (m + 1) P82_3 (M82_3 t6 t77 b0 b0_1 b0_2 b0_3 b0_4 b0_5 b0_6) =
  (cond t77
   (some ([.one (.int .i64 9)], []))
   (cond t6
    (some ([.one (.int .i64 (vRule b0_4 b0_5 b0_6))], []))
    (cond (!((b0_4 == 0) && ((b0_5 == 0) && ((b0_6 == 0) && true))))
     (some ([.one (.int .i64 2)], []))
     (goF E (callOf L76) F82 0 m P82_4 (M82_4 ))))) := by kernel_rfl
theorem e82_4 (m : Nat)  : goF E (callOf L76) F82 0 (m + 1) P82_4 (M82_4 ) =
  (some ([.one (.int .i64 0)], [])) := by kernel_rfl

/- elasticstore/proposal.Validate -/
noncomputable def P53_0 : List AItem := F53.at [.snd, .snd, .fst, .snd, .sub, .head]
def M53_0 (t38 : List (List Cell)) (t39 : Int) (t40 : Int) (b0 : Int) (b0_1 : Int) (b0_2 : List (List Cell)) : St := ⟨[(1, .one (.ptr 0 0)), (38, .one (.sl false 50 t38)), (39, .one (.int .i64 t39)), (40, .one (.int .i64 t40))], [.var [.int .i64 b0, .int .i64 b0_1, .sl false 50 b0_2]]⟩
noncomputable def P53_1 : List AItem := F53.at [.snd, .snd, .fst, .snd, .sub, .body, .snd, .snd, .fst, .sub, .snd, .snd, .snd, .sub, .head]
def M53_1 (t38 : List (List Cell)) (t39 : Int) (t40 : Int) (t53 : List (List Cell)) (t54 : Int) (t55 : Int) (b0 : Int) (b0_1 : Int) (b0_2 : List (List Cell)) (b1 : Int) (b1_1 : Int) (b1_2 : Int) (b1_3 : Int) (b1_4 : Int) (b1_5 : Int) (b1_6 : Int) : St := ⟨[(1, .one (.ptr 0 0)), (4, .one (.ptr 1 0)), (38, .one (.sl false 50 t38)), (39, .one (.int .i64 t39)), (40, .one (.int .i64 t40)), (53, .one (.sl false 50 t53)), (54, .one (.int .i64 t54)), (55, .one (.int .i64 t55))], [.var [.int .i64 b0, .int .i64 b0_1, .sl false 50 b0_2], .var [.int .i64 b1, .int .i64 b1_1, .int .i64 b1_2, .int .i64 b1_3, .int .i64 b1_4, .int .i64 b1_5, .int .i64 b1_6]]⟩
theorem e53 (m : Nat) (ap : Int) (np : Int) (cp : List (List Cell)) : runF E (callOf L82) (m + 1) 53 [.agg [.int .i64 ap, .int .i64 np, .sl false 50 cp]] [] =
  (cond (decide (ap < 201))
   (some ([.one (.int .i64 9)], []))
   (cond (decide (ap ≥ 204))
    (some ([.one (.int .i64 9)], []))
    (cond (decide (np < 1))
     (some ([.one (.int .i64 9)], []))
     (cond (decide (np > 3))
      (some ([.one (.int .i64 9)], []))
      (cond ((cp.length : Int) == 0)
       (some ([.one (.int .i64 2)], []))
       (cond (decide ((cp.length : Int) > 6))
        (some ([.one (.int .i64 3)], []))
        (goF E (callOf L82) F53 0 m P53_0 (M53_0 cp (cp.length : Int) 0 ap np cp)))))))) := by kernel_rfl
theorem e53_0 (m : Nat) (t38 : List (List Cell)) (t39 : Int) (t40 : Int) (b0 : Int) (b0_1 : Int) (b0_2 : List (List Cell)) : goF E (callOf L82) F53 0 (m + 1) P53_0 (M53_0 t38 t39 t40 b0 b0_1 b0_2) =
  (cond (decide (t40 < t39))
   (cond (inB t40 t38.length)
    (cond ((vChange (nr (Abs.rowAt t38 (Int.toNat t40)) 0) (nr (Abs.rowAt t38 (Int.toNat t40)) 1) (nr (Abs.rowAt t38 (Int.toNat t40)) 2) (nr (Abs.rowAt t38 (Int.toNat t40)) 3) (nr (Abs.rowAt t38 (Int.toNat t40)) 4) (nr (Abs.rowAt t38 (Int.toNat t40)) 5) (nr (Abs.rowAt t38 (Int.toNat t40)) 6)) != 0)
     (some ([.one (.int .i64 (vChange (nr (Abs.rowAt t38 (Int.toNat t40)) 0) (nr (Abs.rowAt t38 (Int.toNat t40)) 1) (nr (Abs.rowAt t38 (Int.toNat t40)) 2) (nr (Abs.rowAt t38 (Int.toNat t40)) 3) (nr (Abs.rowAt t38 (Int.toNat t40)) 4) (nr (Abs.rowAt t38 (Int.toNat t40)) 5) (nr (Abs.rowAt t38 (Int.toNat t40)) 6)))], []))
     (cond (inB t40 (b0_2.length + 1))
      (goF E (callOf L82) F53 0 m P53_1 (M53_1 t38 t39 t40 (takeN b0_2 (Int.toNat t40)) ((takeN b0_2 (Int.toNat t40)).length : Int) 0 b0 b0_1 b0_2 (nr (Abs.rowAt t38 (Int.toNat t40)) 0) (nr (Abs.rowAt t38 (Int.toNat t40)) 1) (nr (Abs.rowAt t38 (Int.toNat t40)) 2) (nr (Abs.rowAt t38 (Int.toNat t40)) 3) (nr (Abs.rowAt t38 (Int.toNat t40)) 4) (nr (Abs.rowAt t38 (Int.toNat t40)) 5) (nr (Abs.rowAt t38 (Int.toNat t40)) 6)))
      none))
    none)
   (some ([.one (.int .i64 0)], []))) := by kernel_rfl
theorem e53_1 (m : Nat) (t38 : List (List Cell)) (t39 : Int) (t40 : Int) (t53 : List (List Cell)) (t54 : Int) (t55 : Int) (b0 : Int) (b0_1 : Int) (b0_2 : List (List Cell)) (b1 : Int) (b1_1 : Int) (b1_2 : Int) (b1_3 : Int) (b1_4 : Int) (b1_5 : Int) (b1_6 : Int) : goF E (callOf L82) F53 0 (m + 1) P53_1 (M53_1 t38 t39 t40 t53 t54 t55 b0 b0_1 b0_2 b1 b1_1 b1_2 b1_3 b1_4 b1_5 b1_6) =
  (cond (decide (t55 < t54))
   (cond (inB t55 t53.length)
    (cond ((nr (Abs.rowAt t53 (Int.toNat t55)) 0) == b1)
     (cond ((nr (Abs.rowAt t53 (Int.toNat t55)) 1) == b1_1)
      (some ([.one (.int .i64 5)], []))
      (goF E (callOf L82) F53 0 m P53_1 (M53_1 t38 t39 t40 t53 t54 (IntKind.wrap .i64 (t55 + 1)) b0 b0_1 b0_2 b1 b1_1 b1_2 b1_3 b1_4 b1_5 b1_6)))
     (goF E (callOf L82) F53 0 m P53_1 (M53_1 t38 t39 t40 t53 t54 (IntKind.wrap .i64 (t55 + 1)) b0 b0_1 b0_2 b1 b1_1 b1_2 b1_3 b1_4 b1_5 b1_6)))
    none)
   (goF E (callOf L82) F53 0 m P53_0 (M53_0 t38 t39 (IntKind.wrap .i64 (t40 + 1)) b0 b0_1 b0_2))) := by kernel_rfl

/- elasticstore/elasticstoreref06.ValidateProposal -/
noncomputable def P58_0 : List AItem := F58.at [.snd, .fst, .sub, .snd]
def M58_0 (t6 : Bool) (b0 : Int) (b0_1 : Int) (b0_2 : List (List Cell)) : St := ⟨[(1, .one (.ptr 0 0)), (6, .one (.bool t6))], [.var [.int .i64 b0, .int .i64 b0_1, .sl false 50 b0_2]]⟩
noncomputable def P58_1 : List AItem := F58.at [.snd, .snd]
def M58_1 (b0 : Int) (b0_1 : Int) (b0_2 : List (List Cell)) : St := ⟨[(1, .one (.ptr 0 0))], [.var [.int .i64 b0, .int .i64 b0_1, .sl false 50 b0_2]]⟩
noncomputable def P58_2 : List AItem := F58.at [.snd, .snd, .fst, .snd, .sub, .head]
def M58_2 (t3 : Int) (b0 : Int) (b0_1 : Int) (b0_2 : List (List Cell)) : St := ⟨[(1, .one (.ptr 0 0)), (3, .one (.int .i64 t3))], [.var [.int .i64 b0, .int .i64 b0_1, .sl false 50 b0_2]]⟩
noncomputable def P58_3 : List AItem := F58.at [.snd, .snd, .fst, .snd, .sub, .body, .snd]
def M58_3 (t3 : Int) (b0 : Int) (b0_1 : Int) (b0_2 : List (List Cell)) : St := ⟨[(1, .one (.ptr 0 0)), (3, .one (.int .i64 t3))], [.var [.int .i64 b0, .int .i64 b0_1, .sl false 50 b0_2]]⟩
noncomputable def P58_4 : List AItem := F58.at [.snd, .snd, .snd]
def M58_4  : St := ⟨[], []⟩
noncomputable def P58_5 : List AItem := F58.at [.snd, .snd, .fst, .snd, .sub, .body, .snd, .fst, .sub, .snd]
def M58_5 (t3 : Int) (b0 : Int) (b0_1 : Int) (b0_2 : List (List Cell)) : St := ⟨[(1, .one (.ptr 0 0)), (3, .one (.int .i64 t3))], [.var [.int .i64 b0, .int .i64 b0_1, .sl false 50 b0_2]]⟩
noncomputable def P58_6 : List AItem := F58.at [.snd, .snd, .fst, .snd, .sub, .body, .snd, .fst, .sub, .snd, .snd, .sub, .head]
def M58_6 (t3 : Int) (t5 : Int) (b0 : Int) (b0_1 : Int) (b0_2 : List (List Cell)) : St := ⟨[(1, .one (.ptr 0 0)), (3, .one (.int .i64 t3)), (5, .one (.int .i64 t5))], [.var [.int .i64 b0, .int .i64 b0_1, .sl false 50 b0_2]]⟩
noncomputable def P58_7 : List AItem := F58.at [.snd, .snd, .fst, .snd, .sub, .body, .snd, .fst, .sub, .snd, .snd, .sub, .body, .snd]
def M58_7 (t3 : Int) (t5 : Int) (b0 : Int) (b0_1 : Int) (b0_2 : List (List Cell)) : St := ⟨[(1, .one (.ptr 0 0)), (3, .one (.int .i64 t3)), (5, .one (.int .i64 t5))], [.var [.int .i64 b0, .int .i64 b0_1, .sl false 50 b0_2]]⟩
noncomputable def P58_8 : List AItem := F58.at [.snd, .snd, .fst, .snd, .sub, .body, .snd, .snd]
def M58_8 (t3 : Int) (b0 : Int) (b0_1 : Int) (b0_2 : List (List Cell)) : St := ⟨[(1, .one (.ptr 0 0)), (3, .one (.int .i64 t3))], [.var [.int .i64 b0, .int .i64 b0_1, .sl false 50 b0_2]]⟩
noncomputable def P58_9 : List AItem := F58.at [.snd, .snd, .fst, .snd, .sub, .body, .snd, .fst, .sub, .snd, .snd, .sub, .body, .snd, .fst, .sub, .snd]
def M58_9 (t3 : Int) (t5 : Int) (t79 : Bool) (b0 : Int) (b0_1 : Int) (b0_2 : List (List Cell)) : St := ⟨[(1, .one (.ptr 0 0)), (3, .one (.int .i64 t3)), (5, .one (.int .i64 t5)), (79, .one (.bool t79))], [.var [.int .i64 b0, .int .i64 b0_1, .sl false 50 b0_2]]⟩
noncomputable def P58_10 : List AItem := F58.at [.snd, .snd, .fst, .snd, .sub, .body, .snd, .fst, .sub, .snd, .snd, .sub, .body, .snd, .snd]
def M58_10 (t3 : Int) (t5 : Int) (b0 : Int) (b0_1 : Int) (b0_2 : List (List Cell)) : St := ⟨[(1, .one (.ptr 0 0)), (3, .one (.int .i64 t3)), (5, .one (.int .i64 t5))], [.var [.int .i64 b0, .int .i64 b0_1, .sl false 50 b0_2]]⟩
theorem e58 (m : Nat) (ap : Int) (np : Int) (cp : List (List Cell)) : runF E (callOf L53) (m + 1) 58 [.agg [.int .i64 ap, .int .i64 np, .sl false 50 cp]] [] =
  (cond (!(isAdmin ap))
   (goF E (callOf L53) F58 0 m P58_0 (M58_0 true ap np cp))
   (cond (decide (np < 1))
    (goF E (callOf L53) F58 0 m P58_0 (M58_0 true ap np cp))
    (goF E (callOf L53) F58 0 m P58_0 (M58_0 (decide (np > 3)) ap np cp)))) := by kernel_rfl
theorem e58_0 (m : Nat) (t6 : Bool) (b0 : Int) (b0_1 : Int) (b0_2 : List (List Cell)) : goF E (callOf L53) F58 0 (m + 1) P58_0 (M58_0 t6 b0 b0_1 b0_2) =
  (cond t6
   (some ([.one (.int .i64 9)], []))
   (cond ((b0_2.length : Int) == 0)
    (some ([.one (.int .i64 2)], []))
    (cond (decide ((b0_2.length : Int) > 6))
     (some ([.one (.int .i64 3)], []))
     (goF E (callOf L53) F58 0 m P58_1 (M58_1 b0 b0_1 b0_2))))) := by kernel_rfl
theorem e58_1 (m : Nat) (b0 : Int) (b0_1 : Int) (b0_2 : List (List Cell)) : goF E (callOf L53) F58 0 (m + 1) P58_1 (M58_1 b0 b0_1 b0_2) =
  (goF E (callOf L53) F58 0 m P58_2 (M58_2 0 b0 b0_1 b0_2)) := by kernel_rfl
theorem e58_2 (m : Nat) (t3 : Int) (b0 : Int) (b0_1 : Int) (b0_2 : List (List Cell)) : goF E (callOf L53) F58 0 (m + 1) P58_2 (M58_2 t3 b0 b0_1 b0_2) =
  (cond (decide (t3 < (b0_2.length : Int)))
   (goF E (callOf L53) F58 0 m P58_3 (M58_3 t3 b0 b0_1 b0_2))
   (goF E (callOf L53) F58 0 m P58_4 (M58_4 ))) := by kernel_rfl
theorem e58_3 (m : Nat) (t3 : Int) (b0 : Int) (b0_1 : Int) (b0_2 : List (List Cell)) : goF E (callOf L53) F58 0 (m + 1) P58_3 (M58_3 t3 b0 b0_1 b0_2) =
  (cond (inB t3 b0_2.length)
   (cond ((vChange (nr (Abs.rowAt b0_2 (Int.toNat t3)) 0) (nr (Abs.rowAt b0_2 (Int.toNat t3)) 1) (nr (Abs.rowAt b0_2 (Int.toNat t3)) 2) (nr (Abs.rowAt b0_2 (Int.toNat t3)) 3) (nr (Abs.rowAt b0_2 (Int.toNat t3)) 4) (nr (Abs.rowAt b0_2 (Int.toNat t3)) 5) (nr (Abs.rowAt b0_2 (Int.toNat t3)) 6)) != 0)
    (some ([.one (.int .i64 (vChange (nr (Abs.rowAt b0_2 (Int.toNat t3)) 0) (nr (Abs.rowAt b0_2 (Int.toNat t3)) 1) (nr (Abs.rowAt b0_2 (Int.toNat t3)) 2) (nr (Abs.rowAt b0_2 (Int.toNat t3)) 3) (nr (Abs.rowAt b0_2 (Int.toNat t3)) 4) (nr (Abs.rowAt b0_2 (Int.toNat t3)) 5) (nr (Abs.rowAt b0_2 (Int.toNat t3)) 6)))], []))
    (goF E (callOf L53) F58 0 m P58_5 (M58_5 t3 b0 b0_1 b0_2)))
   none) := by kernel_rfl
theorem e58_4 (m : Nat)  : goF E (callOf L53) F58 0 (m + 1) P58_4 (M58_4 ) =
  (some ([.one (.int .i64 0)], [])) := by kernel_rfl
theorem e58_5 (m : Nat) (t3 : Int) (b0 : Int) (b0_1 : Int) (b0_2 : List (List Cell)) : goF E (callOf L53) F58 0 (m + 1) P58_5 (M58_5 t3 b0 b0_1 b0_2) =
  (goF E (callOf L53) F58 0 m P58_6 (M58_6 t3 0 b0 b0_1 b0_2)) := by kernel_rfl
theorem e58_6 (m : Nat) (t3 : Int) (t5 : Int) (b0 : Int) (b0_1 : Int) (b0_2 : List (List Cell)) : goF E (callOf L53) F58 0 (m + 1) P58_6 (M58_6 t3 t5 b0 b0_1 b0_2) =
  (cond (decide (t5 < t3))
   (goF E (callOf L53) F58 0 m P58_7 (M58_7 t3 t5 b0 b0_1 b0_2))
   (goF E (callOf L53) F58 0 m P58_8 (M58_8 t3 b0 b0_1 b0_2))) := by kernel_rfl
theorem e58_7 (m : Nat) (t3 : Int) (t5 : Int) (b0 : Int) (b0_1 : Int) (b0_2 : List (List Cell)) : goF E (callOf L53) F58 0 (m + 1) P58_7 (M58_7 t3 t5 b0 b0_1 b0_2) =
  (cond (inB t5 b0_2.length)
   (cond (inB t3 b0_2.length)
    (cond ((nr (Abs.rowAt b0_2 (Int.toNat t5)) 0) == (nr (Abs.rowAt b0_2 (Int.toNat t3)) 0))
     (cond (inB t5 b0_2.length)
      (cond (inB t3 b0_2.length)
       (goF E (callOf L53) F58 0 m P58_9 (M58_9 t3 t5 ((nr (Abs.rowAt b0_2 (Int.toNat t5)) 1) == (nr (Abs.rowAt b0_2 (Int.toNat t3)) 1)) b0 b0_1 b0_2))
       none)
      none)
     (goF E (callOf L53) F58 0 m P58_9 (M58_9 t3 t5 false b0 b0_1 b0_2)))
    none)
   none) := by kernel_rfl
theorem e58_8 (m : Nat) (t3 : Int) (b0 : Int) (b0_1 : Int) (b0_2 : List (List Cell)) : goF E (callOf L53) F58 0 (m + 1) P58_8 (M58_8 t3 b0 b0_1 b0_2) =
  (goF E (callOf L53) F58 0 m P58_2 (M58_2 (IntKind.wrap .i64 (t3 + 1)) b0 b0_1 b0_2)) := by kernel_rfl
theorem e58_9 (m : Nat) (t3 : Int) (t5 : Int) (t79 : Bool) (b0 : Int) (b0_1 : Int) (b0_2 : List (List Cell)) : goF E (callOf L53) F58 0 (m + 1) P58_9 (M58_9 t3 t5 t79 b0 b0_1 b0_2) =
  (cond t79
   (some ([.one (.int .i64 5)], []))
   (goF E (callOf L53) F58 0 m P58_10 (M58_10 t3 t5 b0 b0_1 b0_2))) := by kernel_rfl
theorem e58_10 (m : Nat) (t3 : Int) (t5 : Int) (b0 : Int) (b0_1 : Int) (b0_2 : List (List Cell)) : goF E (callOf L53) F58 0 (m + 1) P58_10 (M58_10 t3 t5 b0 b0_1 b0_2) =
  (goF E (callOf L53) F58 0 m P58_6 (M58_6 t3 (IntKind.wrap .i64 (t5 + 1)) b0 b0_1 b0_2)) := by kernel_rfl

/- cmp.isNaN[int] -/
theorem e92 (m : Nat) (n : Int) : runF E (callOf L58) (m + 1) 92 [.one (.int .i64 n)] [] =
  (some ([.one (.bool (n != n))], [])) := by kernel_rfl

/- cmp.Compare[int] -/
theorem e78 (m : Nat) (x : Int) (y : Int) : runF E (callOf L92) (m + 1) 78 [.one (.int .i64 x), .one (.int .i64 y)] [] =
  (cond false
   (cond false
    (some ([.one (.int .i64 0)], []))
    (some ([.one (.int .i64 (-1))], [])))
   (cond false
    (some ([.one (.int .i64 1)], []))
    (cond (decide (x < y))
     (some ([.one (.int .i64 (-1))], []))
     (cond (decide (x > y))
      (some ([.one (.int .i64 1)], []))
      (some ([.one (.int .i64 0)], [])))))) := by kernel_rfl

/- cmp.Or[int] -/
noncomputable def P77_0 : List AItem := F77.at [.snd, .snd, .fst, .snd, .sub, .head]
def M77_0 (t3 : Int) (t6 : List (List Cell)) (t7 : Int) (t8 : Int) : St := ⟨[(3, .one (.int .i64 t3)), (6, .one (.sl false 3 t6)), (7, .one (.int .i64 t7)), (8, .one (.int .i64 t8))], []⟩
theorem e77 (m : Nat) (l : List (List Cell)) : runF E (callOf L78) (m + 1) 77 [.one (.sl false 3 l)] [] =
  (goF E (callOf L78) F77 0 m P77_0 (M77_0 0 l (l.length : Int) 0)) := by kernel_rfl
theorem e77_0 (m : Nat) (t3 : Int) (t6 : List (List Cell)) (t7 : Int) (t8 : Int) : goF E (callOf L78) F77 0 (m + 1) P77_0 (M77_0 t3 t6 t7 t8) =
  (cond (decide (t8 < t7))
   (cond (inB t8 t6.length)
    (cond ((nr (Abs.rowAt t6 (Int.toNat t8)) 0) != t3)
     (some ([.one (.int .i64 (nr (Abs.rowAt t6 (Int.toNat t8)) 0))], []))
     (goF E (callOf L78) F77 0 m P77_0 (M77_0 t3 t6 t7 (IntKind.wrap .i64 (t8 + 1)))))
    none)
   (some ([.one (.int .i64 t3)], []))) := by kernel_rfl

/- elasticstore/proposal.Compare -/
theorem e54 (m : Nat) (ap : Int) (np : Int) (cp : List (List Cell)) (aq : Int) (nq : Int) (cq : List (List Cell)) : runF E (callOf L77) (m + 1) 54 [.agg [.int .i64 ap, .int .i64 np, .sl false 50 cp], .agg [.int .i64 aq, .int .i64 nq, .sl false 50 cq]] [] =
  (cond (decide ([[Cell.int .i64 (cmpI ap aq)], [Cell.int .i64 (cmpI np nq)]].length < 9223372036854775808))
   (some ([.one (.int .i64 (orI1 [[Cell.int .i64 (cmpI ap aq)], [Cell.int .i64 (cmpI np nq)]]))], []))
   none) := by kernel_rfl

/- elasticstore/elasticstoreref06.CompareProposal -/
theorem e59 (m : Nat) (ap : Int) (np : Int) (cp : List (List Cell)) (aq : Int) (nq : Int) (cq : List (List Cell)) : runF E (callOf L54) (m + 1) 59 [.agg [.int .i64 ap, .int .i64 np, .sl false 50 cp], .agg [.int .i64 aq, .int .i64 nq, .sl false 50 cq]] [] =
  (cond (decide (ap < aq))
   (some ([.one (.int .i64 (-1))], []))
   (cond (ap == aq)
    (cond (decide (np < nq))
     (some ([.one (.int .i64 (-1))], []))
     (cond (ap == aq)
      (cond (np == nq)
       (some ([.one (.int .i64 0)], []))
       (some ([.one (.int .i64 1)], [])))
      (some ([.one (.int .i64 1)], []))))
    (cond (ap == aq)
     (cond (np == nq)
      (some ([.one (.int .i64 0)], []))
      (some ([.one (.int .i64 1)], [])))
     (some ([.one (.int .i64 1)], []))))) := by kernel_rfl

/- elasticstore/elasticstoreref06.EqualProposal -/
noncomputable def P40_0 : List AItem := F40.at [.snd, .snd, .fst, .snd, .sub, .head]
def M40_0 (t5 : Int) (b0 : Int) (b0_1 : Int) (b0_2 : List (List Cell)) (b1 : Int) (b1_1 : Int) (b1_2 : List (List Cell)) : St := ⟨[(2, .one (.ptr 0 0)), (3, .one (.ptr 1 0)), (5, .one (.int .i64 t5))], [.var [.int .i64 b0, .int .i64 b0_1, .sl false 50 b0_2], .var [.int .i64 b1, .int .i64 b1_1, .sl false 50 b1_2]]⟩
theorem e40 (m : Nat) (ap : Int) (np : Int) (cp : List (List Cell)) (aq : Int) (nq : Int) (cq : List (List Cell)) : runF E (callOf L59) (m + 1) 40 [.agg [.int .i64 ap, .int .i64 np, .sl false 50 cp], .agg [.int .i64 aq, .int .i64 nq, .sl false 50 cq]] [] =
  (cond (ap != aq)
   (some ([.one (.bool false)], []))
   (cond (np != nq)
    (some ([.one (.bool false)], []))
    (cond ((cp.length : Int) != (cq.length : Int))
     (some ([.one (.bool false)], []))
     (goF E (callOf L59) F40 0 m P40_0 (M40_0 0 ap np cp aq nq cq))))) := by kernel_rfl
theorem e40_0 (m : Nat) (t5 : Int) (b0 : Int) (b0_1 : Int) (b0_2 : List (List Cell)) (b1 : Int) (b1_1 : Int) (b1_2 : List (List Cell)) : goF E (callOf L59) F40 0 (m + 1) P40_0 (M40_0 t5 b0 b0_1 b0_2 b1 b1_1 b1_2) =
  (cond (decide (t5 < (b0_2.length : Int)))
   (cond (inB t5 b0_2.length)
    (cond (inB t5 b1_2.length)
     (cond (!(((nr (Abs.rowAt b0_2 (Int.toNat t5)) 0) == (nr (Abs.rowAt b1_2 (Int.toNat t5)) 0)) && (((nr (Abs.rowAt b0_2 (Int.toNat t5)) 1) == (nr (Abs.rowAt b1_2 (Int.toNat t5)) 1)) && (((nr (Abs.rowAt b0_2 (Int.toNat t5)) 2) == (nr (Abs.rowAt b1_2 (Int.toNat t5)) 2)) && (((nr (Abs.rowAt b0_2 (Int.toNat t5)) 3) == (nr (Abs.rowAt b1_2 (Int.toNat t5)) 3)) && (((nr (Abs.rowAt b0_2 (Int.toNat t5)) 4) == (nr (Abs.rowAt b1_2 (Int.toNat t5)) 4)) && (((nr (Abs.rowAt b0_2 (Int.toNat t5)) 5) == (nr (Abs.rowAt b1_2 (Int.toNat t5)) 5)) && (((nr (Abs.rowAt b0_2 (Int.toNat t5)) 6) == (nr (Abs.rowAt b1_2 (Int.toNat t5)) 6)) && true))))))))
      (some ([.one (.bool false)], []))
      (goF E (callOf L59) F40 0 m P40_0 (M40_0 (IntKind.wrap .i64 (t5 + 1)) b0 b0_1 b0_2 b1 b1_1 b1_2)))
     none)
    none)
   (some ([.one (.bool true)], []))) := by kernel_rfl

/- elasticstore/wire.AppendUint -/
noncomputable def P72_0 : List AItem := F72.at [.snd, .snd, .fst, .sub, .head]
def M72_0 (t0 : List (List Cell)) (t1 : Int) (t5 : List (List Cell)) : St := ⟨[(0, .one (.sl false 5 t0)), (1, .one (.int .u64 t1)), (5, .one (.sl true 5 t5))], []⟩
theorem e72 (m : Nat) (x : List (List Cell)) (v : Int) : runF E (callOf L40) (m + 1) 72 [.one (.sl false 5 x), .one (.int .u64 v)] [] =
  (goF E (callOf L40) F72 0 m P72_0 (M72_0 x v ([] : List (List Cell)))) := by kernel_rfl
theorem e72_0 (m : Nat) (t0 : List (List Cell)) (t1 : Int) (t5 : List (List Cell)) : goF E (callOf L40) F72 0 (m + 1) P72_0 (M72_0 t0 t1 t5) =
  (cond (decide (t1 ≥ 128))
   (cond (fits (t5.length + [[Cell.int .u8 (orI .u8 (IntKind.wrap .u8 t1) 128)]].length))
    (goF E (callOf L40) F72 0 m P72_0 (M72_0 t0 (shrI .u64 t1 7) (t5 ++ [[Cell.int .u8 (orI .u8 (IntKind.wrap .u8 t1) 128)]])))
    none)
   (cond (fits (t5.length + [[Cell.int .u8 (IntKind.wrap .u8 t1)]].length))
    (cond (inB (t0.length : Int) (t0.length + 1))
     (cond (decide ((t0.length : Int) = (t0.length : Int)))
      (cond (fits ((takeN t0 (Int.toNat (t0.length : Int))).length + (t5 ++ [[Cell.int .u8 (IntKind.wrap .u8 t1)]]).length))
       (some ([.one (.sl true 5 ((takeN t0 (Int.toNat (t0.length : Int))) ++ (t5 ++ [[Cell.int .u8 (IntKind.wrap .u8 t1)]])))], []))
       none)
      none)
     none)
    none)) := by kernel_rfl
noncomputable def P72_0_c1 : List AItem := F72.at [.snd, .snd, .fst, .sub, .head]
def M72_0_c1 (t0 : List (List Cell)) (t1 : Int) (t5 : List (List Cell)) : St := ⟨[(0, .one (.sl true 5 t0)), (1, .one (.int .u64 t1)), (5, .one (.sl true 5 t5))], []⟩
theorem e72_c1 (m : Nat) (v : Int) : runF E (callOf L40) (m + 1) 72 [.one (.nils), .one (.int .u64 v)] [] =
  (goF E (callOf L40) F72 0 m P72_0_c1 (M72_0_c1 ([] : List (List Cell)) v ([] : List (List Cell)))) := by kernel_rfl
theorem e72_0_c1 (m : Nat) (t0 : List (List Cell)) (t1 : Int) (t5 : List (List Cell)) : goF E (callOf L40) F72 0 (m + 1) P72_0_c1 (M72_0_c1 t0 t1 t5) =
  (cond (decide (t1 ≥ 128))
   (cond (fits (t5.length + [[Cell.int .u8 (orI .u8 (IntKind.wrap .u8 t1) 128)]].length))
    (goF E (callOf L40) F72 0 m P72_0_c1 (M72_0_c1 t0 (shrI .u64 t1 7) (t5 ++ [[Cell.int .u8 (orI .u8 (IntKind.wrap .u8 t1) 128)]])))
    none)
   (cond (fits (t5.length + [[Cell.int .u8 (IntKind.wrap .u8 t1)]].length))
    (cond (inB (t0.length : Int) (t0.length + 1))
     (cond (decide ((t0.length : Int) = (t0.length : Int)))
      (cond (fits ((takeN t0 (Int.toNat (t0.length : Int))).length + (t5 ++ [[Cell.int .u8 (IntKind.wrap .u8 t1)]]).length))
       (some ([.one (.sl true 5 ((takeN t0 (Int.toNat (t0.length : Int))) ++ (t5 ++ [[Cell.int .u8 (IntKind.wrap .u8 t1)]])))], []))
       none)
      none)
     none)
    none)) := by kernel_rfl

/- elasticstore/elasticstoreref03.AppendUint -/
noncomputable def P89_0 : List AItem := F89.at [.snd, .snd, .fst, .sub, .head]
def M89_0 (t1 : Int) (t5 : List (List Cell)) : St := ⟨[(1, .one (.int .u64 t1)), (5, .one (.sl true 5 t5))], []⟩
theorem e89 (m : Nat) (x : List (List Cell)) (v : Int) : runF E (callOf L72) (m + 1) 89 [.one (.sl false 5 x), .one (.int .u64 v)] [] =
  (cond (fits (([] : List (List Cell)).length + x.length))
   (goF E (callOf L72) F89 0 m P89_0 (M89_0 v (([] : List (List Cell)) ++ x)))
   none) := by kernel_rfl
theorem e89_0 (m : Nat) (t1 : Int) (t5 : List (List Cell)) : goF E (callOf L72) F89 0 (m + 1) P89_0 (M89_0 t1 t5) =
  (cond (decide (t1 ≥ 128))
   (cond (fits (t5.length + [[Cell.int .u8 (IntKind.wrap .u8 ((IntKind.wrap .u8 (Int.tmod t1 128)) + 128))]].length))
    (goF E (callOf L72) F89 0 m P89_0 (M89_0 (IntKind.wrap .u64 (Int.tdiv t1 128)) (t5 ++ [[Cell.int .u8 (IntKind.wrap .u8 ((IntKind.wrap .u8 (Int.tmod t1 128)) + 128))]])))
    none)
   (cond (fits (t5.length + [[Cell.int .u8 (IntKind.wrap .u8 t1)]].length))
    (some ([.one (.sl true 5 (t5 ++ [[Cell.int .u8 (IntKind.wrap .u8 t1)]]))], []))
    none)) := by kernel_rfl

/- elasticstore/wire.Uint -/
noncomputable def P68_0 : List AItem := F68.at [.snd, (.jump 0)]
def M68_0 (t0 : List (List Cell)) (t5 : Int) (t6 : Int) : St := ⟨[(0, .one (.sl false 5 t0)), (5, .one (.int .u64 t5)), (6, .one (.int .i64 t6))], []⟩
theorem e68 (m : Nat) (x : List (List Cell)) : runF E (callOf L89) (m + 1) 68 [.one (.sl false 5 x)] [] =
  (cond ((0 : Int) == (x.length : Int))
   (some ([.one (.int .u64 0), .one (.int .i64 0), .one (.int .i64 1)], []))
   (cond (inB 0 x.length)
    (cond (decide ((nr (Abs.rowAt x 0) 0) ≥ 128))
     (goF E (callOf L89) F68 0 m P68_0 (M68_0 x (orI .u64 0 (shlI .u64 (IntKind.wrap .u64 (andNotI .u8 (nr (Abs.rowAt x 0) 0) 128)) 0)) 1))
     (cond ((nr (Abs.rowAt x 0) 0) == 0)
      (some ([.one (.int .u64 (orI .u64 0 (shlI .u64 (IntKind.wrap .u64 (andNotI .u8 (nr (Abs.rowAt x 0) 0) 128)) 0))), .one (.int .i64 1), .one (.int .i64 0)], []))
      (some ([.one (.int .u64 (orI .u64 0 (shlI .u64 (IntKind.wrap .u64 (andNotI .u8 (nr (Abs.rowAt x 0) 0) 128)) 0))), .one (.int .i64 1), .one (.int .i64 0)], []))))
    none)) := by kernel_rfl
theorem e68_0 (m : Nat) (t0 : List (List Cell)) (t5 : Int) (t6 : Int) : goF E (callOf L89) F68 0 (m + 1) P68_0 (M68_0 t0 t5 t6) =
  (cond (t6 == (t0.length : Int))
   (some ([.one (.int .u64 0), .one (.int .i64 0), .one (.int .i64 1)], []))
   (cond (inB t6 t0.length)
    (cond (t6 == 9)
     (cond (decide ((nr (Abs.rowAt t0 (Int.toNat t6)) 0) > 1))
      (some ([.one (.int .u64 0), .one (.int .i64 0), .one (.int .i64 9)], []))
      (cond (decide ((IntKind.wrap .i64 (7 * t6)) < 0))
       none
       (cond (decide ((nr (Abs.rowAt t0 (Int.toNat t6)) 0) ≥ 128))
        (goF E (callOf L89) F68 0 m P68_0 (M68_0 t0 (orI .u64 t5 (shlI .u64 (IntKind.wrap .u64 (andNotI .u8 (nr (Abs.rowAt t0 (Int.toNat t6)) 0) 128)) (IntKind.wrap .i64 (7 * t6)))) (IntKind.wrap .i64 (t6 + 1))))
        (cond ((nr (Abs.rowAt t0 (Int.toNat t6)) 0) == 0)
         (cond (decide ((IntKind.wrap .i64 (t6 + 1)) > 1))
          (some ([.one (.int .u64 0), .one (.int .i64 0), .one (.int .i64 2)], []))
          (some ([.one (.int .u64 (orI .u64 t5 (shlI .u64 (IntKind.wrap .u64 (andNotI .u8 (nr (Abs.rowAt t0 (Int.toNat t6)) 0) 128)) (IntKind.wrap .i64 (7 * t6))))), .one (.int .i64 (IntKind.wrap .i64 (t6 + 1))), .one (.int .i64 0)], [])))
         (some ([.one (.int .u64 (orI .u64 t5 (shlI .u64 (IntKind.wrap .u64 (andNotI .u8 (nr (Abs.rowAt t0 (Int.toNat t6)) 0) 128)) (IntKind.wrap .i64 (7 * t6))))), .one (.int .i64 (IntKind.wrap .i64 (t6 + 1))), .one (.int .i64 0)], []))))))
     (cond (decide ((IntKind.wrap .i64 (7 * t6)) < 0))
      none
      (cond (decide ((nr (Abs.rowAt t0 (Int.toNat t6)) 0) ≥ 128))
       (goF E (callOf L89) F68 0 m P68_0 (M68_0 t0 (orI .u64 t5 (shlI .u64 (IntKind.wrap .u64 (andNotI .u8 (nr (Abs.rowAt t0 (Int.toNat t6)) 0) 128)) (IntKind.wrap .i64 (7 * t6)))) (IntKind.wrap .i64 (t6 + 1))))
       (cond ((nr (Abs.rowAt t0 (Int.toNat t6)) 0) == 0)
        (cond (decide ((IntKind.wrap .i64 (t6 + 1)) > 1))
         (some ([.one (.int .u64 0), .one (.int .i64 0), .one (.int .i64 2)], []))
         (some ([.one (.int .u64 (orI .u64 t5 (shlI .u64 (IntKind.wrap .u64 (andNotI .u8 (nr (Abs.rowAt t0 (Int.toNat t6)) 0) 128)) (IntKind.wrap .i64 (7 * t6))))), .one (.int .i64 (IntKind.wrap .i64 (t6 + 1))), .one (.int .i64 0)], [])))
        (some ([.one (.int .u64 (orI .u64 t5 (shlI .u64 (IntKind.wrap .u64 (andNotI .u8 (nr (Abs.rowAt t0 (Int.toNat t6)) 0) 128)) (IntKind.wrap .i64 (7 * t6))))), .one (.int .i64 (IntKind.wrap .i64 (t6 + 1))), .one (.int .i64 0)], []))))))
    none)) := by kernel_rfl

/- elasticstore/elasticstoreref03.Uint -/
noncomputable def P70_0 : List AItem := F70.at [.snd, .snd, .fst, .snd, .sub, .head]
def M70_0 (t0 : List (List Cell)) (t5 : Int) (t6 : Int) : St := ⟨[(0, .one (.sl false 5 t0)), (5, .one (.int .u64 t5)), (6, .one (.int .i64 t6))], []⟩
theorem e70 (m : Nat) (x : List (List Cell)) : runF E (callOf L68) (m + 1) 70 [.one (.sl false 5 x)] [] =
  (goF E (callOf L68) F70 0 m P70_0 (M70_0 x 0 0)) := by kernel_rfl
theorem e70_0 (m : Nat) (t0 : List (List Cell)) (t5 : Int) (t6 : Int) : goF E (callOf L68) F70 0 (m + 1) P70_0 (M70_0 t0 t5 t6) =
  (cond (decide (t6 < 10))
   (cond (t6 == (t0.length : Int))
    (some ([.one (.int .u64 0), .one (.int .i64 0), .one (.int .i64 1)], []))
    (cond (t6 == 9)
     (cond (inB t6 t0.length)
      (cond (decide ((nr (Abs.rowAt t0 (Int.toNat t6)) 0) > 1))
       (some ([.one (.int .u64 0), .one (.int .i64 0), .one (.int .i64 9)], []))
       (cond (inB t6 t0.length)
        (cond (decide ((IntKind.wrap .u64 (IntKind.wrap .i64 (7 * t6))) < 0))
         none
         (cond (inB t6 t0.length)
          (cond (decide ((nr (Abs.rowAt t0 (Int.toNat t6)) 0) < 128))
           (cond (inB t6 t0.length)
            (cond ((nr (Abs.rowAt t0 (Int.toNat t6)) 0) == 0)
             (cond (decide (t6 > 0))
              (some ([.one (.int .u64 0), .one (.int .i64 0), .one (.int .i64 2)], []))
              (some ([.one (.int .u64 (orI .u64 t5 (shlI .u64 (IntKind.wrap .u64 (Int.tmod (nr (Abs.rowAt t0 (Int.toNat t6)) 0) 128)) (IntKind.wrap .u64 (IntKind.wrap .i64 (7 * t6)))))), .one (.int .i64 (IntKind.wrap .i64 (t6 + 1))), .one (.int .i64 0)], [])))
             (some ([.one (.int .u64 (orI .u64 t5 (shlI .u64 (IntKind.wrap .u64 (Int.tmod (nr (Abs.rowAt t0 (Int.toNat t6)) 0) 128)) (IntKind.wrap .u64 (IntKind.wrap .i64 (7 * t6)))))), .one (.int .i64 (IntKind.wrap .i64 (t6 + 1))), .one (.int .i64 0)], [])))
            none)
           (goF E (callOf L68) F70 0 m P70_0 (M70_0 t0 (orI .u64 t5 (shlI .u64 (IntKind.wrap .u64 (Int.tmod (nr (Abs.rowAt t0 (Int.toNat t6)) 0) 128)) (IntKind.wrap .u64 (IntKind.wrap .i64 (7 * t6))))) (IntKind.wrap .i64 (t6 + 1)))))
          none))
        none))
      none)
     (cond (inB t6 t0.length)
      (cond (decide ((IntKind.wrap .u64 (IntKind.wrap .i64 (7 * t6))) < 0))
       none
       (cond (inB t6 t0.length)
        (cond (decide ((nr (Abs.rowAt t0 (Int.toNat t6)) 0) < 128))
         (cond (inB t6 t0.length)
          (cond ((nr (Abs.rowAt t0 (Int.toNat t6)) 0) == 0)
           (cond (decide (t6 > 0))
            (some ([.one (.int .u64 0), .one (.int .i64 0), .one (.int .i64 2)], []))
            (some ([.one (.int .u64 (orI .u64 t5 (shlI .u64 (IntKind.wrap .u64 (Int.tmod (nr (Abs.rowAt t0 (Int.toNat t6)) 0) 128)) (IntKind.wrap .u64 (IntKind.wrap .i64 (7 * t6)))))), .one (.int .i64 (IntKind.wrap .i64 (t6 + 1))), .one (.int .i64 0)], [])))
           (some ([.one (.int .u64 (orI .u64 t5 (shlI .u64 (IntKind.wrap .u64 (Int.tmod (nr (Abs.rowAt t0 (Int.toNat t6)) 0) 128)) (IntKind.wrap .u64 (IntKind.wrap .i64 (7 * t6)))))), .one (.int .i64 (IntKind.wrap .i64 (t6 + 1))), .one (.int .i64 0)], [])))
          none)
         (goF E (callOf L68) F70 0 m P70_0 (M70_0 t0 (orI .u64 t5 (shlI .u64 (IntKind.wrap .u64 (Int.tmod (nr (Abs.rowAt t0 (Int.toNat t6)) 0) 128)) (IntKind.wrap .u64 (IntKind.wrap .i64 (7 * t6))))) (IntKind.wrap .i64 (t6 + 1)))))
        none))
      none)))
   (some ([.one (.int .u64 0), .one (.int .i64 0), .one (.int .i64 9)], []))) := by kernel_rfl

/- (*elasticstore/proposal.reader).number -/
theorem e87 (m : Nat) (b : List (List Cell)) (o : Int) (e : Int) : runF E (callOf L70) (m + 1) 87 [.one (.ptr 0 0)] [.var [.sl false 5 b, .int .i64 o, .int .i64 e]] =
  (cond (e != 0)
   (some ([.one (.int .i64 0)], [.var [.sl false 5 b, .int .i64 o, .int .i64 e]]))
   (cond (inB o (b.length + 1))
    (cond (okRd (dropN b (Int.toNat o)))
     (cond ((udec (dropN b (Int.toNat o))).2.2 != 0)
      (some ([.one (.int .i64 0)], [.var [.sl false 5 b, .int .i64 o, .int .i64 (udec (dropN b (Int.toNat o))).2.2]]))
      (cond (decide ((udec (dropN b (Int.toNat o))).1 > 2147483647))
       (some ([.one (.int .i64 0)], [.var [.sl false 5 b, .int .i64 o, .int .i64 9]]))
       (some ([.one (.int .i64 (IntKind.wrap .i64 (udec (dropN b (Int.toNat o))).1))], [.var [.sl false 5 b, .int .i64 (IntKind.wrap .i64 (o + (udec (dropN b (Int.toNat o))).2.1)), .int .i64 e]]))))
     none)
    none)) := by kernel_rfl

/- elasticstore/proposal.Append -/
noncomputable def P73_0 : List AItem := F73.at [.snd, .snd, .fst, .snd, .sub, .head]
def M73_0 (t0 : List (List Cell)) (t5 : List (List Cell)) (t20 : List (List Cell)) (t21 : Int) (t22 : Int) : St := ⟨[(0, .one (.sl false 5 t0)), (5, .one (.sl true 3 t5)), (20, .one (.sl false 50 t20)), (21, .one (.int .i64 t21)), (22, .one (.int .i64 t22))], []⟩
noncomputable def P73_1 : List AItem := F73.at [.snd, .snd, .snd, .snd, .fst, .snd, .sub, .head]
def M73_1 (t0 : List (List Cell)) (t8 : List (List Cell)) (t47 : List (List Cell)) (t48 : Int) (t49 : Int) : St := ⟨[(0, .one (.sl false 5 t0)), (8, .one (.sl false 5 t8)), (47, .one (.sl false 3 t47)), (48, .one (.int .i64 t48)), (49, .one (.int .i64 t49))], []⟩
theorem e73 (m : Nat) (x : List (List Cell)) (ap : Int) (np : Int) (cp : List (List Cell)) : runF E (callOf L87) (m + 1) 73 [.one (.sl false 5 x), .agg [.int .i64 ap, .int .i64 np, .sl false 50 cp]] [] =
  (goF E (callOf L87) F73 0 m P73_0 (M73_0 x [[Cell.int .i64 ap], [Cell.int .i64 np], [Cell.int .i64 (cp.length : Int)]] cp (cp.length : Int) 0)) := by kernel_rfl
theorem e73_0 (m : Nat) (t0 : List (List Cell)) (t5 : List (List Cell)) (t20 : List (List Cell)) (t21 : Int) (t22 : Int) : goF E (callOf L87) F73 0 (m + 1) P73_0 (M73_0 t0 t5 t20 t21 t22) =
  (cond (decide (t22 < t21))
   (cond (inB t22 t20.length)
    (cond (fits (t5.length + [[Cell.int .i64 (nr (Abs.rowAt t20 (Int.toNat t22)) 0)], [Cell.int .i64 (nr (Abs.rowAt t20 (Int.toNat t22)) 1)], [Cell.int .i64 (nr (Abs.rowAt t20 (Int.toNat t22)) 2)], [Cell.int .i64 (nr (Abs.rowAt t20 (Int.toNat t22)) 3)], [Cell.int .i64 (nr (Abs.rowAt t20 (Int.toNat t22)) 4)], [Cell.int .i64 (nr (Abs.rowAt t20 (Int.toNat t22)) 5)], [Cell.int .i64 (nr (Abs.rowAt t20 (Int.toNat t22)) 6)]].length))
     (goF E (callOf L87) F73 0 m P73_0 (M73_0 t0 (t5 ++ [[Cell.int .i64 (nr (Abs.rowAt t20 (Int.toNat t22)) 0)], [Cell.int .i64 (nr (Abs.rowAt t20 (Int.toNat t22)) 1)], [Cell.int .i64 (nr (Abs.rowAt t20 (Int.toNat t22)) 2)], [Cell.int .i64 (nr (Abs.rowAt t20 (Int.toNat t22)) 3)], [Cell.int .i64 (nr (Abs.rowAt t20 (Int.toNat t22)) 4)], [Cell.int .i64 (nr (Abs.rowAt t20 (Int.toNat t22)) 5)], [Cell.int .i64 (nr (Abs.rowAt t20 (Int.toNat t22)) 6)]]) t20 t21 (IntKind.wrap .i64 (t22 + 1))))
     none)
    none)
   (goF E (callOf L87) F73 0 m P73_1 (M73_1 t0 ([] : List (List Cell)) t5 (t5.length : Int) 0))) := by kernel_rfl
theorem e73_1 (m : Nat) (t0 : List (List Cell)) (t8 : List (List Cell)) (t47 : List (List Cell)) (t48 : Int) (t49 : Int) : goF E (callOf L87) F73 0 (m + 1) P73_1 (M73_1 t0 t8 t47 t48 t49) =
  (cond (decide (t49 < t48))
   (cond (inB t49 t47.length)
    (cond (okEnc t8 (IntKind.wrap .u64 (nr (Abs.rowAt t47 (Int.toNat t49)) 0)))
     (goF E (callOf L87) F73 0 m P73_1 (M73_1 t0 (t8 ++ uenc (IntKind.wrap .u64 (nr (Abs.rowAt t47 (Int.toNat t49)) 0))) t47 t48 (IntKind.wrap .i64 (t49 + 1))))
     none)
    none)
   (cond (inB (t0.length : Int) (t0.length + 1))
    (cond (decide ((t0.length : Int) = (t0.length : Int)))
     (cond (fits ((takeN t0 (Int.toNat (t0.length : Int))).length + t8.length))
      (some ([.one (.sl true 5 ((takeN t0 (Int.toNat (t0.length : Int))) ++ t8))], []))
      none)
     none)
    none)) := by kernel_rfl
noncomputable def P73_0_c1 : List AItem := F73.at [.snd, .snd, .fst, .snd, .sub, .head]
def M73_0_c1 (t0 : List (List Cell)) (t5 : List (List Cell)) (t20 : List (List Cell)) (t21 : Int) (t22 : Int) : St := ⟨[(0, .one (.sl true 5 t0)), (5, .one (.sl true 3 t5)), (20, .one (.sl false 50 t20)), (21, .one (.int .i64 t21)), (22, .one (.int .i64 t22))], []⟩
noncomputable def P73_1_c1 : List AItem := F73.at [.snd, .snd, .snd, .snd, .fst, .snd, .sub, .head]
def M73_1_c1 (t0 : List (List Cell)) (t8 : List (List Cell)) (t47 : List (List Cell)) (t48 : Int) (t49 : Int) : St := ⟨[(0, .one (.sl true 5 t0)), (8, .one (.sl false 5 t8)), (47, .one (.sl false 3 t47)), (48, .one (.int .i64 t48)), (49, .one (.int .i64 t49))], []⟩
theorem e73_c1 (m : Nat) (ap : Int) (np : Int) (cp : List (List Cell)) : runF E (callOf L87) (m + 1) 73 [.one (.nils), .agg [.int .i64 ap, .int .i64 np, .sl false 50 cp]] [] =
  (goF E (callOf L87) F73 0 m P73_0_c1 (M73_0_c1 ([] : List (List Cell)) [[Cell.int .i64 ap], [Cell.int .i64 np], [Cell.int .i64 (cp.length : Int)]] cp (cp.length : Int) 0)) := by kernel_rfl
theorem e73_0_c1 (m : Nat) (t0 : List (List Cell)) (t5 : List (List Cell)) (t20 : List (List Cell)) (t21 : Int) (t22 : Int) : goF E (callOf L87) F73 0 (m + 1) P73_0_c1 (M73_0_c1 t0 t5 t20 t21 t22) =
  (cond (decide (t22 < t21))
   (cond (inB t22 t20.length)
    (cond (fits (t5.length + [[Cell.int .i64 (nr (Abs.rowAt t20 (Int.toNat t22)) 0)], [Cell.int .i64 (nr (Abs.rowAt t20 (Int.toNat t22)) 1)], [Cell.int .i64 (nr (Abs.rowAt t20 (Int.toNat t22)) 2)], [Cell.int .i64 (nr (Abs.rowAt t20 (Int.toNat t22)) 3)], [Cell.int .i64 (nr (Abs.rowAt t20 (Int.toNat t22)) 4)], [Cell.int .i64 (nr (Abs.rowAt t20 (Int.toNat t22)) 5)], [Cell.int .i64 (nr (Abs.rowAt t20 (Int.toNat t22)) 6)]].length))
     (goF E (callOf L87) F73 0 m P73_0_c1 (M73_0_c1 t0 (t5 ++ [[Cell.int .i64 (nr (Abs.rowAt t20 (Int.toNat t22)) 0)], [Cell.int .i64 (nr (Abs.rowAt t20 (Int.toNat t22)) 1)], [Cell.int .i64 (nr (Abs.rowAt t20 (Int.toNat t22)) 2)], [Cell.int .i64 (nr (Abs.rowAt t20 (Int.toNat t22)) 3)], [Cell.int .i64 (nr (Abs.rowAt t20 (Int.toNat t22)) 4)], [Cell.int .i64 (nr (Abs.rowAt t20 (Int.toNat t22)) 5)], [Cell.int .i64 (nr (Abs.rowAt t20 (Int.toNat t22)) 6)]]) t20 t21 (IntKind.wrap .i64 (t22 + 1))))
     none)
    none)
   (goF E (callOf L87) F73 0 m P73_1_c1 (M73_1_c1 t0 ([] : List (List Cell)) t5 (t5.length : Int) 0))) := by kernel_rfl
theorem e73_1_c1 (m : Nat) (t0 : List (List Cell)) (t8 : List (List Cell)) (t47 : List (List Cell)) (t48 : Int) (t49 : Int) : goF E (callOf L87) F73 0 (m + 1) P73_1_c1 (M73_1_c1 t0 t8 t47 t48 t49) =
  (cond (decide (t49 < t48))
   (cond (inB t49 t47.length)
    (cond (okEnc t8 (IntKind.wrap .u64 (nr (Abs.rowAt t47 (Int.toNat t49)) 0)))
     (goF E (callOf L87) F73 0 m P73_1_c1 (M73_1_c1 t0 (t8 ++ uenc (IntKind.wrap .u64 (nr (Abs.rowAt t47 (Int.toNat t49)) 0))) t47 t48 (IntKind.wrap .i64 (t49 + 1))))
     none)
    none)
   (cond (inB (t0.length : Int) (t0.length + 1))
    (cond (decide ((t0.length : Int) = (t0.length : Int)))
     (cond (fits ((takeN t0 (Int.toNat (t0.length : Int))).length + t8.length))
      (some ([.one (.sl true 5 ((takeN t0 (Int.toNat (t0.length : Int))) ++ t8))], []))
      none)
     none)
    none)) := by kernel_rfl

/- elasticstore/proposal.Decode -/
noncomputable def P69_0 : List AItem := F69.at [.snd, .snd, .snd, .snd, .snd, .snd, .fst, .snd, .sub, .head]
def M69_0 (t7 : Int) (t8 : Int) (b0 : Int) (b0_1 : Int) (b0_2 : List (List Cell)) (b1 : List (List Cell)) (b1_1 : Int) (b1_2 : Int) (b2 : Int) (b2_1 : Int) (b2_2 : List (List Cell)) : St := ⟨[(2, .one (.ptr 0 0)), (5, .one (.ptr 1 0)), (6, .one (.ptr 2 0)), (7, .one (.int .i64 t7)), (8, .one (.int .i64 t8))], [.var [.int .i64 b0, .int .i64 b0_1, .sl true 50 b0_2], .var [.sl false 5 b1, .int .i64 b1_1, .int .i64 b1_2], .var [.int .i64 b2, .int .i64 b2_1, .sl true 50 b2_2]]⟩
theorem e69 (m : Nat) (x : List (List Cell)) : runF E (callOf L73) (m + 1) 69 [.one (.sl false 5 x)] [] =
  (cond (okAt x 0)
   (cond (okAt x (rnum x 0 0).2.1)
    (cond (okAt x (rnum x (rnum x 0 0).2.1 (rnum x 0 0).2.2).2.1)
     (cond ((rnum x (rnum x (rnum x 0 0).2.1 (rnum x 0 0).2.2).2.1 (rnum x (rnum x 0 0).2.1 (rnum x 0 0).2.2).2.2).2.2 == 0)
      (cond (decide ((rnum x (rnum x (rnum x 0 0).2.1 (rnum x 0 0).2.2).2.1 (rnum x (rnum x 0 0).2.1 (rnum x 0 0).2.2).2.2).1 > 6))
       (goF E (callOf L73) F69 0 m P69_0 (M69_0 (rnum x (rnum x (rnum x 0 0).2.1 (rnum x 0 0).2.2).2.1 (rnum x (rnum x 0 0).2.1 (rnum x 0 0).2.2).2.2).1 0 0 0 ([] : List (List Cell)) x (rnum x (rnum x (rnum x 0 0).2.1 (rnum x 0 0).2.2).2.1 (rnum x (rnum x 0 0).2.1 (rnum x 0 0).2.2).2.2).2.1 3 (rnum x 0 0).1 (rnum x (rnum x 0 0).2.1 (rnum x 0 0).2.2).1 ([] : List (List Cell))))
       (goF E (callOf L73) F69 0 m P69_0 (M69_0 (rnum x (rnum x (rnum x 0 0).2.1 (rnum x 0 0).2.2).2.1 (rnum x (rnum x 0 0).2.1 (rnum x 0 0).2.2).2.2).1 0 0 0 ([] : List (List Cell)) x (rnum x (rnum x (rnum x 0 0).2.1 (rnum x 0 0).2.2).2.1 (rnum x (rnum x 0 0).2.1 (rnum x 0 0).2.2).2.2).2.1 (rnum x (rnum x (rnum x 0 0).2.1 (rnum x 0 0).2.2).2.1 (rnum x (rnum x 0 0).2.1 (rnum x 0 0).2.2).2.2).2.2 (rnum x 0 0).1 (rnum x (rnum x 0 0).2.1 (rnum x 0 0).2.2).1 ([] : List (List Cell)))))
      (goF E (callOf L73) F69 0 m P69_0 (M69_0 (rnum x (rnum x (rnum x 0 0).2.1 (rnum x 0 0).2.2).2.1 (rnum x (rnum x 0 0).2.1 (rnum x 0 0).2.2).2.2).1 0 0 0 ([] : List (List Cell)) x (rnum x (rnum x (rnum x 0 0).2.1 (rnum x 0 0).2.2).2.1 (rnum x (rnum x 0 0).2.1 (rnum x 0 0).2.2).2.2).2.1 (rnum x (rnum x (rnum x 0 0).2.1 (rnum x 0 0).2.2).2.1 (rnum x (rnum x 0 0).2.1 (rnum x 0 0).2.2).2.2).2.2 (rnum x 0 0).1 (rnum x (rnum x 0 0).2.1 (rnum x 0 0).2.2).1 ([] : List (List Cell)))))
     none)
    none)
   none) := by kernel_rfl
theorem e69_0 (m : Nat) (t7 : Int) (t8 : Int) (b0 : Int) (b0_1 : Int) (b0_2 : List (List Cell)) (b1 : List (List Cell)) (b1_1 : Int) (b1_2 : Int) (b2 : Int) (b2_1 : Int) (b2_2 : List (List Cell)) : goF E (callOf L73) F69 0 (m + 1) P69_0 (M69_0 t7 t8 b0 b0_1 b0_2 b1 b1_1 b1_2 b2 b2_1 b2_2) =
  (cond (decide (t8 < t7))
   (cond (b1_2 == 0)
    (cond (okAt b1 b1_1)
     (cond (okAt b1 (rnum b1 b1_1 b1_2).2.1)
      (cond (okAt b1 (rnum b1 (rnum b1 b1_1 b1_2).2.1 (rnum b1 b1_1 b1_2).2.2).2.1)
       (cond (okAt b1 (rnum b1 (rnum b1 (rnum b1 b1_1 b1_2).2.1 (rnum b1 b1_1 b1_2).2.2).2.1 (rnum b1 (rnum b1 b1_1 b1_2).2.1 (rnum b1 b1_1 b1_2).2.2).2.2).2.1)
        (cond (okAt b1 (rnum b1 (rnum b1 (rnum b1 (rnum b1 b1_1 b1_2).2.1 (rnum b1 b1_1 b1_2).2.2).2.1 (rnum b1 (rnum b1 b1_1 b1_2).2.1 (rnum b1 b1_1 b1_2).2.2).2.2).2.1 (rnum b1 (rnum b1 (rnum b1 b1_1 b1_2).2.1 (rnum b1 b1_1 b1_2).2.2).2.1 (rnum b1 (rnum b1 b1_1 b1_2).2.1 (rnum b1 b1_1 b1_2).2.2).2.2).2.2).2.1)
         (cond (okAt b1 (rnum b1 (rnum b1 (rnum b1 (rnum b1 (rnum b1 b1_1 b1_2).2.1 (rnum b1 b1_1 b1_2).2.2).2.1 (rnum b1 (rnum b1 b1_1 b1_2).2.1 (rnum b1 b1_1 b1_2).2.2).2.2).2.1 (rnum b1 (rnum b1 (rnum b1 b1_1 b1_2).2.1 (rnum b1 b1_1 b1_2).2.2).2.1 (rnum b1 (rnum b1 b1_1 b1_2).2.1 (rnum b1 b1_1 b1_2).2.2).2.2).2.2).2.1 (rnum b1 (rnum b1 (rnum b1 (rnum b1 b1_1 b1_2).2.1 (rnum b1 b1_1 b1_2).2.2).2.1 (rnum b1 (rnum b1 b1_1 b1_2).2.1 (rnum b1 b1_1 b1_2).2.2).2.2).2.1 (rnum b1 (rnum b1 (rnum b1 b1_1 b1_2).2.1 (rnum b1 b1_1 b1_2).2.2).2.1 (rnum b1 (rnum b1 b1_1 b1_2).2.1 (rnum b1 b1_1 b1_2).2.2).2.2).2.2).2.2).2.1)
          (cond (okAt b1 (rnum b1 (rnum b1 (rnum b1 (rnum b1 (rnum b1 (rnum b1 b1_1 b1_2).2.1 (rnum b1 b1_1 b1_2).2.2).2.1 (rnum b1 (rnum b1 b1_1 b1_2).2.1 (rnum b1 b1_1 b1_2).2.2).2.2).2.1 (rnum b1 (rnum b1 (rnum b1 b1_1 b1_2).2.1 (rnum b1 b1_1 b1_2).2.2).2.1 (rnum b1 (rnum b1 b1_1 b1_2).2.1 (rnum b1 b1_1 b1_2).2.2).2.2).2.2).2.1 (rnum b1 (rnum b1 (rnum b1 (rnum b1 b1_1 b1_2).2.1 (rnum b1 b1_1 b1_2).2.2).2.1 (rnum b1 (rnum b1 b1_1 b1_2).2.1 (rnum b1 b1_1 b1_2).2.2).2.2).2.1 (rnum b1 (rnum b1 (rnum b1 b1_1 b1_2).2.1 (rnum b1 b1_1 b1_2).2.2).2.1 (rnum b1 (rnum b1 b1_1 b1_2).2.1 (rnum b1 b1_1 b1_2).2.2).2.2).2.2).2.2).2.1 (rnum b1 (rnum b1 (rnum b1 (rnum b1 (rnum b1 b1_1 b1_2).2.1 (rnum b1 b1_1 b1_2).2.2).2.1 (rnum b1 (rnum b1 b1_1 b1_2).2.1 (rnum b1 b1_1 b1_2).2.2).2.2).2.1 (rnum b1 (rnum b1 (rnum b1 b1_1 b1_2).2.1 (rnum b1 b1_1 b1_2).2.2).2.1 (rnum b1 (rnum b1 b1_1 b1_2).2.1 (rnum b1 b1_1 b1_2).2.2).2.2).2.2).2.1 (rnum b1 (rnum b1 (rnum b1 (rnum b1 b1_1 b1_2).2.1 (rnum b1 b1_1 b1_2).2.2).2.1 (rnum b1 (rnum b1 b1_1 b1_2).2.1 (rnum b1 b1_1 b1_2).2.2).2.2).2.1 (rnum b1 (rnum b1 (rnum b1 b1_1 b1_2).2.1 (rnum b1 b1_1 b1_2).2.2).2.1 (rnum b1 (rnum b1 b1_1 b1_2).2.1 (rnum b1 b1_1 b1_2).2.2).2.2).2.2).2.2).2.2).2.1)
           (cond (fits (b2_2.length + [[Cell.int .i64 (rnum b1 b1_1 b1_2).1, Cell.int .i64 (rnum b1 (rnum b1 b1_1 b1_2).2.1 (rnum b1 b1_1 b1_2).2.2).1, Cell.int .i64 (rnum b1 (rnum b1 (rnum b1 b1_1 b1_2).2.1 (rnum b1 b1_1 b1_2).2.2).2.1 (rnum b1 (rnum b1 b1_1 b1_2).2.1 (rnum b1 b1_1 b1_2).2.2).2.2).1, Cell.int .i64 (rnum b1 (rnum b1 (rnum b1 (rnum b1 b1_1 b1_2).2.1 (rnum b1 b1_1 b1_2).2.2).2.1 (rnum b1 (rnum b1 b1_1 b1_2).2.1 (rnum b1 b1_1 b1_2).2.2).2.2).2.1 (rnum b1 (rnum b1 (rnum b1 b1_1 b1_2).2.1 (rnum b1 b1_1 b1_2).2.2).2.1 (rnum b1 (rnum b1 b1_1 b1_2).2.1 (rnum b1 b1_1 b1_2).2.2).2.2).2.2).1, Cell.int .i64 (rnum b1 (rnum b1 (rnum b1 (rnum b1 (rnum b1 b1_1 b1_2).2.1 (rnum b1 b1_1 b1_2).2.2).2.1 (rnum b1 (rnum b1 b1_1 b1_2).2.1 (rnum b1 b1_1 b1_2).2.2).2.2).2.1 (rnum b1 (rnum b1 (rnum b1 b1_1 b1_2).2.1 (rnum b1 b1_1 b1_2).2.2).2.1 (rnum b1 (rnum b1 b1_1 b1_2).2.1 (rnum b1 b1_1 b1_2).2.2).2.2).2.2).2.1 (rnum b1 (rnum b1 (rnum b1 (rnum b1 b1_1 b1_2).2.1 (rnum b1 b1_1 b1_2).2.2).2.1 (rnum b1 (rnum b1 b1_1 b1_2).2.1 (rnum b1 b1_1 b1_2).2.2).2.2).2.1 (rnum b1 (rnum b1 (rnum b1 b1_1 b1_2).2.1 (rnum b1 b1_1 b1_2).2.2).2.1 (rnum b1 (rnum b1 b1_1 b1_2).2.1 (rnum b1 b1_1 b1_2).2.2).2.2).2.2).2.2).1, Cell.int .i64 (rnum b1 (rnum b1 (rnum b1 (rnum b1 (rnum b1 (rnum b1 b1_1 b1_2).2.1 (rnum b1 b1_1 b1_2).2.2).2.1 (rnum b1 (rnum b1 b1_1 b1_2).2.1 (rnum b1 b1_1 b1_2).2.2).2.2).2.1 (rnum b1 (rnum b1 (rnum b1 b1_1 b1_2).2.1 (rnum b1 b1_1 b1_2).2.2).2.1 (rnum b1 (rnum b1 b1_1 b1_2).2.1 (rnum b1 b1_1 b1_2).2.2).2.2).2.2).2.1 (rnum b1 (rnum b1 (rnum b1 (rnum b1 b1_1 b1_2).2.1 (rnum b1 b1_1 b1_2).2.2).2.1 (rnum b1 (rnum b1 b1_1 b1_2).2.1 (rnum b1 b1_1 b1_2).2.2).2.2).2.1 (rnum b1 (rnum b1 (rnum b1 b1_1 b1_2).2.1 (rnum b1 b1_1 b1_2).2.2).2.1 (rnum b1 (rnum b1 b1_1 b1_2).2.1 (rnum b1 b1_1 b1_2).2.2).2.2).2.2).2.2).2.1 (rnum b1 (rnum b1 (rnum b1 (rnum b1 (rnum b1 b1_1 b1_2).2.1 (rnum b1 b1_1 b1_2).2.2).2.1 (rnum b1 (rnum b1 b1_1 b1_2).2.1 (rnum b1 b1_1 b1_2).2.2).2.2).2.1 (rnum b1 (rnum b1 (rnum b1 b1_1 b1_2).2.1 (rnum b1 b1_1 b1_2).2.2).2.1 (rnum b1 (rnum b1 b1_1 b1_2).2.1 (rnum b1 b1_1 b1_2).2.2).2.2).2.2).2.1 (rnum b1 (rnum b1 (rnum b1 (rnum b1 b1_1 b1_2).2.1 (rnum b1 b1_1 b1_2).2.2).2.1 (rnum b1 (rnum b1 b1_1 b1_2).2.1 (rnum b1 b1_1 b1_2).2.2).2.2).2.1 (rnum b1 (rnum b1 (rnum b1 b1_1 b1_2).2.1 (rnum b1 b1_1 b1_2).2.2).2.1 (rnum b1 (rnum b1 b1_1 b1_2).2.1 (rnum b1 b1_1 b1_2).2.2).2.2).2.2).2.2).2.2).1, Cell.int .i64 (rnum b1 (rnum b1 (rnum b1 (rnum b1 (rnum b1 (rnum b1 (rnum b1 b1_1 b1_2).2.1 (rnum b1 b1_1 b1_2).2.2).2.1 (rnum b1 (rnum b1 b1_1 b1_2).2.1 (rnum b1 b1_1 b1_2).2.2).2.2).2.1 (rnum b1 (rnum b1 (rnum b1 b1_1 b1_2).2.1 (rnum b1 b1_1 b1_2).2.2).2.1 (rnum b1 (rnum b1 b1_1 b1_2).2.1 (rnum b1 b1_1 b1_2).2.2).2.2).2.2).2.1 (rnum b1 (rnum b1 (rnum b1 (rnum b1 b1_1 b1_2).2.1 (rnum b1 b1_1 b1_2).2.2).2.1 (rnum b1 (rnum b1 b1_1 b1_2).2.1 (rnum b1 b1_1 b1_2).2.2).2.2).2.1 (rnum b1 (rnum b1 (rnum b1 b1_1 b1_2).2.1 (rnum b1 b1_1 b1_2).2.2).2.1 (rnum b1 (rnum b1 b1_1 b1_2).2.1 (rnum b1 b1_1 b1_2).2.2).2.2).2.2).2.2).2.1 (rnum b1 (rnum b1 (rnum b1 (rnum b1 (rnum b1 b1_1 b1_2).2.1 (rnum b1 b1_1 b1_2).2.2).2.1 (rnum b1 (rnum b1 b1_1 b1_2).2.1 (rnum b1 b1_1 b1_2).2.2).2.2).2.1 (rnum b1 (rnum b1 (rnum b1 b1_1 b1_2).2.1 (rnum b1 b1_1 b1_2).2.2).2.1 (rnum b1 (rnum b1 b1_1 b1_2).2.1 (rnum b1 b1_1 b1_2).2.2).2.2).2.2).2.1 (rnum b1 (rnum b1 (rnum b1 (rnum b1 b1_1 b1_2).2.1 (rnum b1 b1_1 b1_2).2.2).2.1 (rnum b1 (rnum b1 b1_1 b1_2).2.1 (rnum b1 b1_1 b1_2).2.2).2.2).2.1 (rnum b1 (rnum b1 (rnum b1 b1_1 b1_2).2.1 (rnum b1 b1_1 b1_2).2.2).2.1 (rnum b1 (rnum b1 b1_1 b1_2).2.1 (rnum b1 b1_1 b1_2).2.2).2.2).2.2).2.2).2.2).2.1 (rnum b1 (rnum b1 (rnum b1 (rnum b1 (rnum b1 (rnum b1 b1_1 b1_2).2.1 (rnum b1 b1_1 b1_2).2.2).2.1 (rnum b1 (rnum b1 b1_1 b1_2).2.1 (rnum b1 b1_1 b1_2).2.2).2.2).2.1 (rnum b1 (rnum b1 (rnum b1 b1_1 b1_2).2.1 (rnum b1 b1_1 b1_2).2.2).2.1 (rnum b1 (rnum b1 b1_1 b1_2).2.1 (rnum b1 b1_1 b1_2).2.2).2.2).2.2).2.1 (rnum b1 (rnum b1 (rnum b1 (rnum b1 b1_1 b1_2).2.1 (rnum b1 b1_1 b1_2).2.2).2.1 (rnum b1 (rnum b1 b1_1 b1_2).2.1 (rnum b1 b1_1 b1_2).2.2).2.2).2.1 (rnum b1 (rnum b1 (rnum b1 b1_1 b1_2).2.1 (rnum b1 b1_1 b1_2).2.2).2.1 (rnum b1 (rnum b1 b1_1 b1_2).2.1 (rnum b1 b1_1 b1_2).2.2).2.2).2.2).2.2).2.1 (rnum b1 (rnum b1 (rnum b1 (rnum b1 (rnum b1 b1_1 b1_2).2.1 (rnum b1 b1_1 b1_2).2.2).2.1 (rnum b1 (rnum b1 b1_1 b1_2).2.1 (rnum b1 b1_1 b1_2).2.2).2.2).2.1 (rnum b1 (rnum b1 (rnum b1 b1_1 b1_2).2.1 (rnum b1 b1_1 b1_2).2.2).2.1 (rnum b1 (rnum b1 b1_1 b1_2).2.1 (rnum b1 b1_1 b1_2).2.2).2.2).2.2).2.1 (rnum b1 (rnum b1 (rnum b1 (rnum b1 b1_1 b1_2).2.1 (rnum b1 b1_1 b1_2).2.2).2.1 (rnum b1 (rnum b1 b1_1 b1_2).2.1 (rnum b1 b1_1 b1_2).2.2).2.2).2.1 (rnum b1 (rnum b1 (rnum b1 b1_1 b1_2).2.1 (rnum b1 b1_1 b1_2).2.2).2.1 (rnum b1 (rnum b1 b1_1 b1_2).2.1 (rnum b1 b1_1 b1_2).2.2).2.2).2.2).2.2).2.2).2.2).1]].length))
            (goF E (callOf L73) F69 0 m P69_0 (M69_0 t7 (IntKind.wrap .i64 (t8 + 1)) b0 b0_1 b0_2 b1 (rnum b1 (rnum b1 (rnum b1 (rnum b1 (rnum b1 (rnum b1 (rnum b1 b1_1 b1_2).2.1 (rnum b1 b1_1 b1_2).2.2).2.1 (rnum b1 (rnum b1 b1_1 b1_2).2.1 (rnum b1 b1_1 b1_2).2.2).2.2).2.1 (rnum b1 (rnum b1 (rnum b1 b1_1 b1_2).2.1 (rnum b1 b1_1 b1_2).2.2).2.1 (rnum b1 (rnum b1 b1_1 b1_2).2.1 (rnum b1 b1_1 b1_2).2.2).2.2).2.2).2.1 (rnum b1 (rnum b1 (rnum b1 (rnum b1 b1_1 b1_2).2.1 (rnum b1 b1_1 b1_2).2.2).2.1 (rnum b1 (rnum b1 b1_1 b1_2).2.1 (rnum b1 b1_1 b1_2).2.2).2.2).2.1 (rnum b1 (rnum b1 (rnum b1 b1_1 b1_2).2.1 (rnum b1 b1_1 b1_2).2.2).2.1 (rnum b1 (rnum b1 b1_1 b1_2).2.1 (rnum b1 b1_1 b1_2).2.2).2.2).2.2).2.2).2.1 (rnum b1 (rnum b1 (rnum b1 (rnum b1 (rnum b1 b1_1 b1_2).2.1 (rnum b1 b1_1 b1_2).2.2).2.1 (rnum b1 (rnum b1 b1_1 b1_2).2.1 (rnum b1 b1_1 b1_2).2.2).2.2).2.1 (rnum b1 (rnum b1 (rnum b1 b1_1 b1_2).2.1 (rnum b1 b1_1 b1_2).2.2).2.1 (rnum b1 (rnum b1 b1_1 b1_2).2.1 (rnum b1 b1_1 b1_2).2.2).2.2).2.2).2.1 (rnum b1 (rnum b1 (rnum b1 (rnum b1 b1_1 b1_2).2.1 (rnum b1 b1_1 b1_2).2.2).2.1 (rnum b1 (rnum b1 b1_1 b1_2).2.1 (rnum b1 b1_1 b1_2).2.2).2.2).2.1 (rnum b1 (rnum b1 (rnum b1 b1_1 b1_2).2.1 (rnum b1 b1_1 b1_2).2.2).2.1 (rnum b1 (rnum b1 b1_1 b1_2).2.1 (rnum b1 b1_1 b1_2).2.2).2.2).2.2).2.2).2.2).2.1 (rnum b1 (rnum b1 (rnum b1 (rnum b1 (rnum b1 (rnum b1 b1_1 b1_2).2.1 (rnum b1 b1_1 b1_2).2.2).2.1 (rnum b1 (rnum b1 b1_1 b1_2).2.1 (rnum b1 b1_1 b1_2).2.2).2.2).2.1 (rnum b1 (rnum b1 (rnum b1 b1_1 b1_2).2.1 (rnum b1 b1_1 b1_2).2.2).2.1 (rnum b1 (rnum b1 b1_1 b1_2).2.1 (rnum b1 b1_1 b1_2).2.2).2.2).2.2).2.1 (rnum b1 (rnum b1 (rnum b1 (rnum b1 b1_1 b1_2).2.1 (rnum b1 b1_1 b1_2).2.2).2.1 (rnum b1 (rnum b1 b1_1 b1_2).2.1 (rnum b1 b1_1 b1_2).2.2).2.2).2.1 (rnum b1 (rnum b1 (rnum b1 b1_1 b1_2).2.1 (rnum b1 b1_1 b1_2).2.2).2.1 (rnum b1 (rnum b1 b1_1 b1_2).2.1 (rnum b1 b1_1 b1_2).2.2).2.2).2.2).2.2).2.1 (rnum b1 (rnum b1 (rnum b1 (rnum b1 (rnum b1 b1_1 b1_2).2.1 (rnum b1 b1_1 b1_2).2.2).2.1 (rnum b1 (rnum b1 b1_1 b1_2).2.1 (rnum b1 b1_1 b1_2).2.2).2.2).2.1 (rnum b1 (rnum b1 (rnum b1 b1_1 b1_2).2.1 (rnum b1 b1_1 b1_2).2.2).2.1 (rnum b1 (rnum b1 b1_1 b1_2).2.1 (rnum b1 b1_1 b1_2).2.2).2.2).2.2).2.1 (rnum b1 (rnum b1 (rnum b1 (rnum b1 b1_1 b1_2).2.1 (rnum b1 b1_1 b1_2).2.2).2.1 (rnum b1 (rnum b1 b1_1 b1_2).2.1 (rnum b1 b1_1 b1_2).2.2).2.2).2.1 (rnum b1 (rnum b1 (rnum b1 b1_1 b1_2).2.1 (rnum b1 b1_1 b1_2).2.2).2.1 (rnum b1 (rnum b1 b1_1 b1_2).2.1 (rnum b1 b1_1 b1_2).2.2).2.2).2.2).2.2).2.2).2.2).2.1 (rnum b1 (rnum b1 (rnum b1 (rnum b1 (rnum b1 (rnum b1 (rnum b1 b1_1 b1_2).2.1 (rnum b1 b1_1 b1_2).2.2).2.1 (rnum b1 (rnum b1 b1_1 b1_2).2.1 (rnum b1 b1_1 b1_2).2.2).2.2).2.1 (rnum b1 (rnum b1 (rnum b1 b1_1 b1_2).2.1 (rnum b1 b1_1 b1_2).2.2).2.1 (rnum b1 (rnum b1 b1_1 b1_2).2.1 (rnum b1 b1_1 b1_2).2.2).2.2).2.2).2.1 (rnum b1 (rnum b1 (rnum b1 (rnum b1 b1_1 b1_2).2.1 (rnum b1 b1_1 b1_2).2.2).2.1 (rnum b1 (rnum b1 b1_1 b1_2).2.1 (rnum b1 b1_1 b1_2).2.2).2.2).2.1 (rnum b1 (rnum b1 (rnum b1 b1_1 b1_2).2.1 (rnum b1 b1_1 b1_2).2.2).2.1 (rnum b1 (rnum b1 b1_1 b1_2).2.1 (rnum b1 b1_1 b1_2).2.2).2.2).2.2).2.2).2.1 (rnum b1 (rnum b1 (rnum b1 (rnum b1 (rnum b1 b1_1 b1_2).2.1 (rnum b1 b1_1 b1_2).2.2).2.1 (rnum b1 (rnum b1 b1_1 b1_2).2.1 (rnum b1 b1_1 b1_2).2.2).2.2).2.1 (rnum b1 (rnum b1 (rnum b1 b1_1 b1_2).2.1 (rnum b1 b1_1 b1_2).2.2).2.1 (rnum b1 (rnum b1 b1_1 b1_2).2.1 (rnum b1 b1_1 b1_2).2.2).2.2).2.2).2.1 (rnum b1 (rnum b1 (rnum b1 (rnum b1 b1_1 b1_2).2.1 (rnum b1 b1_1 b1_2).2.2).2.1 (rnum b1 (rnum b1 b1_1 b1_2).2.1 (rnum b1 b1_1 b1_2).2.2).2.2).2.1 (rnum b1 (rnum b1 (rnum b1 b1_1 b1_2).2.1 (rnum b1 b1_1 b1_2).2.2).2.1 (rnum b1 (rnum b1 b1_1 b1_2).2.1 (rnum b1 b1_1 b1_2).2.2).2.2).2.2).2.2).2.2).2.1 (rnum b1 (rnum b1 (rnum b1 (rnum b1 (rnum b1 (rnum b1 b1_1 b1_2).2.1 (rnum b1 b1_1 b1_2).2.2).2.1 (rnum b1 (rnum b1 b1_1 b1_2).2.1 (rnum b1 b1_1 b1_2).2.2).2.2).2.1 (rnum b1 (rnum b1 (rnum b1 b1_1 b1_2).2.1 (rnum b1 b1_1 b1_2).2.2).2.1 (rnum b1 (rnum b1 b1_1 b1_2).2.1 (rnum b1 b1_1 b1_2).2.2).2.2).2.2).2.1 (rnum b1 (rnum b1 (rnum b1 (rnum b1 b1_1 b1_2).2.1 (rnum b1 b1_1 b1_2).2.2).2.1 (rnum b1 (rnum b1 b1_1 b1_2).2.1 (rnum b1 b1_1 b1_2).2.2).2.2).2.1 (rnum b1 (rnum b1 (rnum b1 b1_1 b1_2).2.1 (rnum b1 b1_1 b1_2).2.2).2.1 (rnum b1 (rnum b1 b1_1 b1_2).2.1 (rnum b1 b1_1 b1_2).2.2).2.2).2.2).2.2).2.1 (rnum b1 (rnum b1 (rnum b1 (rnum b1 (rnum b1 b1_1 b1_2).2.1 (rnum b1 b1_1 b1_2).2.2).2.1 (rnum b1 (rnum b1 b1_1 b1_2).2.1 (rnum b1 b1_1 b1_2).2.2).2.2).2.1 (rnum b1 (rnum b1 (rnum b1 b1_1 b1_2).2.1 (rnum b1 b1_1 b1_2).2.2).2.1 (rnum b1 (rnum b1 b1_1 b1_2).2.1 (rnum b1 b1_1 b1_2).2.2).2.2).2.2).2.1 (rnum b1 (rnum b1 (rnum b1 (rnum b1 b1_1 b1_2).2.1 (rnum b1 b1_1 b1_2).2.2).2.1 (rnum b1 (rnum b1 b1_1 b1_2).2.1 (rnum b1 b1_1 b1_2).2.2).2.2).2.1 (rnum b1 (rnum b1 (rnum b1 b1_1 b1_2).2.1 (rnum b1 b1_1 b1_2).2.2).2.1 (rnum b1 (rnum b1 b1_1 b1_2).2.1 (rnum b1 b1_1 b1_2).2.2).2.2).2.2).2.2).2.2).2.2).2.2 b2 b2_1 (b2_2 ++ [[Cell.int .i64 (rnum b1 b1_1 b1_2).1, Cell.int .i64 (rnum b1 (rnum b1 b1_1 b1_2).2.1 (rnum b1 b1_1 b1_2).2.2).1, Cell.int .i64 (rnum b1 (rnum b1 (rnum b1 b1_1 b1_2).2.1 (rnum b1 b1_1 b1_2).2.2).2.1 (rnum b1 (rnum b1 b1_1 b1_2).2.1 (rnum b1 b1_1 b1_2).2.2).2.2).1, Cell.int .i64 (rnum b1 (rnum b1 (rnum b1 (rnum b1 b1_1 b1_2).2.1 (rnum b1 b1_1 b1_2).2.2).2.1 (rnum b1 (rnum b1 b1_1 b1_2).2.1 (rnum b1 b1_1 b1_2).2.2).2.2).2.1 (rnum b1 (rnum b1 (rnum b1 b1_1 b1_2).2.1 (rnum b1 b1_1 b1_2).2.2).2.1 (rnum b1 (rnum b1 b1_1 b1_2).2.1 (rnum b1 b1_1 b1_2).2.2).2.2).2.2).1, Cell.int .i64 (rnum b1 (rnum b1 (rnum b1 (rnum b1 (rnum b1 b1_1 b1_2).2.1 (rnum b1 b1_1 b1_2).2.2).2.1 (rnum b1 (rnum b1 b1_1 b1_2).2.1 (rnum b1 b1_1 b1_2).2.2).2.2).2.1 (rnum b1 (rnum b1 (rnum b1 b1_1 b1_2).2.1 (rnum b1 b1_1 b1_2).2.2).2.1 (rnum b1 (rnum b1 b1_1 b1_2).2.1 (rnum b1 b1_1 b1_2).2.2).2.2).2.2).2.1 (rnum b1 (rnum b1 (rnum b1 (rnum b1 b1_1 b1_2).2.1 (rnum b1 b1_1 b1_2).2.2).2.1 (rnum b1 (rnum b1 b1_1 b1_2).2.1 (rnum b1 b1_1 b1_2).2.2).2.2).2.1 (rnum b1 (rnum b1 (rnum b1 b1_1 b1_2).2.1 (rnum b1 b1_1 b1_2).2.2).2.1 (rnum b1 (rnum b1 b1_1 b1_2).2.1 (rnum b1 b1_1 b1_2).2.2).2.2).2.2).2.2).1, Cell.int .i64 (rnum b1 (rnum b1 (rnum b1 (rnum b1 (rnum b1 (rnum b1 b1_1 b1_2).2.1 (rnum b1 b1_1 b1_2).2.2).2.1 (rnum b1 (rnum b1 b1_1 b1_2).2.1 (rnum b1 b1_1 b1_2).2.2).2.2).2.1 (rnum b1 (rnum b1 (rnum b1 b1_1 b1_2).2.1 (rnum b1 b1_1 b1_2).2.2).2.1 (rnum b1 (rnum b1 b1_1 b1_2).2.1 (rnum b1 b1_1 b1_2).2.2).2.2).2.2).2.1 (rnum b1 (rnum b1 (rnum b1 (rnum b1 b1_1 b1_2).2.1 (rnum b1 b1_1 b1_2).2.2).2.1 (rnum b1 (rnum b1 b1_1 b1_2).2.1 (rnum b1 b1_1 b1_2).2.2).2.2).2.1 (rnum b1 (rnum b1 (rnum b1 b1_1 b1_2).2.1 (rnum b1 b1_1 b1_2).2.2).2.1 (rnum b1 (rnum b1 b1_1 b1_2).2.1 (rnum b1 b1_1 b1_2).2.2).2.2).2.2).2.2).2.1 (rnum b1 (rnum b1 (rnum b1 (rnum b1 (rnum b1 b1_1 b1_2).2.1 (rnum b1 b1_1 b1_2).2.2).2.1 (rnum b1 (rnum b1 b1_1 b1_2).2.1 (rnum b1 b1_1 b1_2).2.2).2.2).2.1 (rnum b1 (rnum b1 (rnum b1 b1_1 b1_2).2.1 (rnum b1 b1_1 b1_2).2.2).2.1 (rnum b1 (rnum b1 b1_1 b1_2).2.1 (rnum b1 b1_1 b1_2).2.2).2.2).2.2).2.1 (rnum b1 (rnum b1 (rnum b1 (rnum b1 b1_1 b1_2).2.1 (rnum b1 b1_1 b1_2).2.2).2.1 (rnum b1 (rnum b1 b1_1 b1_2).2.1 (rnum b1 b1_1 b1_2).2.2).2.2).2.1 (rnum b1 (rnum b1 (rnum b1 b1_1 b1_2).2.1 (rnum b1 b1_1 b1_2).2.2).2.1 (rnum b1 (rnum b1 b1_1 b1_2).2.1 (rnum b1 b1_1 b1_2).2.2).2.2).2.2).2.2).2.2).1, Cell.int .i64 (rnum b1 (rnum b1 (rnum b1 (rnum b1 (rnum b1 (rnum b1 (rnum b1 b1_1 b1_2).2.1 (rnum b1 b1_1 b1_2).2.2).2.1 (rnum b1 (rnum b1 b1_1 b1_2).2.1 (rnum b1 b1_1 b1_2).2.2).2.2).2.1 (rnum b1 (rnum b1 (rnum b1 b1_1 b1_2).2.1 (rnum b1 b1_1 b1_2).2.2).2.1 (rnum b1 (rnum b1 b1_1 b1_2).2.1 (rnum b1 b1_1 b1_2).2.2).2.2).2.2).2.1 (rnum b1 (rnum b1 (rnum b1 (rnum b1 b1_1 b1_2).2.1 (rnum b1 b1_1 b1_2).2.2).2.1 (rnum b1 (rnum b1 b1_1 b1_2).2.1 (rnum b1 b1_1 b1_2).2.2).2.2).2.1 (rnum b1 (rnum b1 (rnum b1 b1_1 b1_2).2.1 (rnum b1 b1_1 b1_2).2.2).2.1 (rnum b1 (rnum b1 b1_1 b1_2).2.1 (rnum b1 b1_1 b1_2).2.2).2.2).2.2).2.2).2.1 (rnum b1 (rnum b1 (rnum b1 (rnum b1 (rnum b1 b1_1 b1_2).2.1 (rnum b1 b1_1 b1_2).2.2).2.1 (rnum b1 (rnum b1 b1_1 b1_2).2.1 (rnum b1 b1_1 b1_2).2.2).2.2).2.1 (rnum b1 (rnum b1 (rnum b1 b1_1 b1_2).2.1 (rnum b1 b1_1 b1_2).2.2).2.1 (rnum b1 (rnum b1 b1_1 b1_2).2.1 (rnum b1 b1_1 b1_2).2.2).2.2).2.2).2.1 (rnum b1 (rnum b1 (rnum b1 (rnum b1 b1_1 b1_2).2.1 (rnum b1 b1_1 b1_2).2.2).2.1 (rnum b1 (rnum b1 b1_1 b1_2).2.1 (rnum b1 b1_1 b1_2).2.2).2.2).2.1 (rnum b1 (rnum b1 (rnum b1 b1_1 b1_2).2.1 (rnum b1 b1_1 b1_2).2.2).2.1 (rnum b1 (rnum b1 b1_1 b1_2).2.1 (rnum b1 b1_1 b1_2).2.2).2.2).2.2).2.2).2.2).2.1 (rnum b1 (rnum b1 (rnum b1 (rnum b1 (rnum b1 (rnum b1 b1_1 b1_2).2.1 (rnum b1 b1_1 b1_2).2.2).2.1 (rnum b1 (rnum b1 b1_1 b1_2).2.1 (rnum b1 b1_1 b1_2).2.2).2.2).2.1 (rnum b1 (rnum b1 (rnum b1 b1_1 b1_2).2.1 (rnum b1 b1_1 b1_2).2.2).2.1 (rnum b1 (rnum b1 b1_1 b1_2).2.1 (rnum b1 b1_1 b1_2).2.2).2.2).2.2).2.1 (rnum b1 (rnum b1 (rnum b1 (rnum b1 b1_1 b1_2).2.1 (rnum b1 b1_1 b1_2).2.2).2.1 (rnum b1 (rnum b1 b1_1 b1_2).2.1 (rnum b1 b1_1 b1_2).2.2).2.2).2.1 (rnum b1 (rnum b1 (rnum b1 b1_1 b1_2).2.1 (rnum b1 b1_1 b1_2).2.2).2.1 (rnum b1 (rnum b1 b1_1 b1_2).2.1 (rnum b1 b1_1 b1_2).2.2).2.2).2.2).2.2).2.1 (rnum b1 (rnum b1 (rnum b1 (rnum b1 (rnum b1 b1_1 b1_2).2.1 (rnum b1 b1_1 b1_2).2.2).2.1 (rnum b1 (rnum b1 b1_1 b1_2).2.1 (rnum b1 b1_1 b1_2).2.2).2.2).2.1 (rnum b1 (rnum b1 (rnum b1 b1_1 b1_2).2.1 (rnum b1 b1_1 b1_2).2.2).2.1 (rnum b1 (rnum b1 b1_1 b1_2).2.1 (rnum b1 b1_1 b1_2).2.2).2.2).2.2).2.1 (rnum b1 (rnum b1 (rnum b1 (rnum b1 b1_1 b1_2).2.1 (rnum b1 b1_1 b1_2).2.2).2.1 (rnum b1 (rnum b1 b1_1 b1_2).2.1 (rnum b1 b1_1 b1_2).2.2).2.2).2.1 (rnum b1 (rnum b1 (rnum b1 b1_1 b1_2).2.1 (rnum b1 b1_1 b1_2).2.2).2.1 (rnum b1 (rnum b1 b1_1 b1_2).2.1 (rnum b1 b1_1 b1_2).2.2).2.2).2.2).2.2).2.2).2.2).1]])))
            none)
           none)
          none)
         none)
        none)
       none)
      none)
     none)
    (cond (b1_2 == 0)
     (cond (decide (b2_2.length < 9223372036854775808))
      (cond ((vProp b2 b2_1 b2_2) != 0)
       (some ([.agg [.int .i64 0, .int .i64 0, .sl true 50 ([] : List (List Cell))], .one (.int .i64 0), .one (.int .i64 (vProp b2 b2_1 b2_2))], []))
       (some ([.agg [.int .i64 b2, .int .i64 b2_1, .sl true 50 b2_2], .one (.int .i64 b1_1), .one (.int .i64 0)], [])))
      none)
     (cond (b1_2 != 0)
      (some ([.agg [.int .i64 0, .int .i64 0, .sl true 50 ([] : List (List Cell))], .one (.int .i64 0), .one (.int .i64 b1_2)], []))
      (some ([.agg [.int .i64 b2, .int .i64 b2_1, .sl true 50 b2_2], .one (.int .i64 b1_1), .one (.int .i64 0)], [])))))
   (cond (b1_2 == 0)
    (cond (decide (b2_2.length < 9223372036854775808))
     (cond ((vProp b2 b2_1 b2_2) != 0)
      (some ([.agg [.int .i64 0, .int .i64 0, .sl true 50 ([] : List (List Cell))], .one (.int .i64 0), .one (.int .i64 (vProp b2 b2_1 b2_2))], []))
      (some ([.agg [.int .i64 b2, .int .i64 b2_1, .sl true 50 b2_2], .one (.int .i64 b1_1), .one (.int .i64 0)], [])))
     none)
    (cond (b1_2 != 0)
     (some ([.agg [.int .i64 0, .int .i64 0, .sl true 50 ([] : List (List Cell))], .one (.int .i64 0), .one (.int .i64 b1_2)], []))
     (some ([.agg [.int .i64 b2, .int .i64 b2_1, .sl true 50 b2_2], .one (.int .i64 b1_1), .one (.int .i64 0)], []))))) := by kernel_rfl

/- elasticstore/elasticstoreref06.Number -/
theorem e96 (m : Nat) (x : List (List Cell)) : runF E (callOf L69) (m + 1) 96 [.one (.sl false 5 x)] [] =
  (cond (okRd x)
   (cond ((udec x).2.2 != 0)
    (some ([.one (.int .i64 0), .one (.int .i64 0), .one (.int .i64 (udec x).2.2)], []))
    (cond (decide ((udec x).1 > 2147483647))
     (some ([.one (.int .i64 0), .one (.int .i64 0), .one (.int .i64 9)], []))
     (some ([.one (.int .i64 (IntKind.wrap .i64 (udec x).1)), .one (.int .i64 (udec x).2.1), .one (.int .i64 0)], []))))
   none) := by kernel_rfl

/- elasticstore/elasticstoreref06.Read -/
noncomputable def P88_0 : List AItem := F88.at [.snd, .snd, .snd, .fst, .snd, .sub, .head]
def M88_0 (t0 : List (List Cell)) (t1 : Int) (t7 : List (List Cell)) (t8 : Int) (t9 : Int) : St := ⟨[(0, .one (.sl false 5 t0)), (1, .one (.int .i64 t1)), (7, .one (.sl true 3 t7)), (8, .one (.int .i64 t8)), (9, .one (.int .i64 t9))], []⟩
theorem e88 (m : Nat) (x : List (List Cell)) (c : Int) : runF E (callOf L96) (m + 1) 88 [.one (.sl false 5 x), .one (.int .i64 c)] [] =
  (goF E (callOf L96) F88 0 m P88_0 (M88_0 x c ([] : List (List Cell)) 0 0)) := by kernel_rfl
theorem e88_0 (m : Nat) (t0 : List (List Cell)) (t1 : Int) (t7 : List (List Cell)) (t8 : Int) (t9 : Int) : goF E (callOf L96) F88 0 (m + 1) P88_0 (M88_0 t0 t1 t7 t8 t9) =
  (cond (decide (t9 < t1))
   (cond (inB t8 (t0.length + 1))
    (cond (okRd (dropN t0 (Int.toNat t8)))
     (cond ((rnum2 (dropN t0 (Int.toNat t8))).2.2 != 0)
      (some ([.one (.sl true 3 ([] : List (List Cell))), .one (.int .i64 0), .one (.int .i64 (rnum2 (dropN t0 (Int.toNat t8))).2.2)], []))
      (cond (fits (t7.length + [[Cell.int .i64 (rnum2 (dropN t0 (Int.toNat t8))).1]].length))
       (goF E (callOf L96) F88 0 m P88_0 (M88_0 t0 t1 (t7 ++ [[Cell.int .i64 (rnum2 (dropN t0 (Int.toNat t8))).1]]) (IntKind.wrap .i64 (t8 + (rnum2 (dropN t0 (Int.toNat t8))).2.1)) (IntKind.wrap .i64 (t9 + 1))))
       none))
     none)
    none)
   (some ([.one (.sl true 3 t7), .one (.int .i64 t8), .one (.int .i64 0)], []))) := by kernel_rfl

/- elasticstore/elasticstoreref06.Numbers -/
noncomputable def P74_0 : List AItem := F74.at [.snd, .fst, .snd, .sub, .head]
def M74_0 (t0 : List (List Cell)) (t1 : List (List Cell)) (t5 : Int) : St := ⟨[(0, .one (.sl false 5 t0)), (1, .one (.sl false 3 t1)), (5, .one (.int .i64 t5))], []⟩
theorem e74 (m : Nat) (x : List (List Cell)) (l : List (List Cell)) : runF E (callOf L88) (m + 1) 74 [.one (.sl false 5 x), .one (.sl false 3 l)] [] =
  (goF E (callOf L88) F74 0 m P74_0 (M74_0 x l 0)) := by kernel_rfl
theorem e74_0 (m : Nat) (t0 : List (List Cell)) (t1 : List (List Cell)) (t5 : Int) : goF E (callOf L88) F74 0 (m + 1) P74_0 (M74_0 t0 t1 t5) =
  (cond (decide (t5 < (t1.length : Int)))
   (cond (inB t5 t1.length)
    (cond (okEnc t0 (IntKind.wrap .u64 (nr (Abs.rowAt t1 (Int.toNat t5)) 0)))
     (goF E (callOf L88) F74 0 m P74_0 (M74_0 (t0 ++ uenc (IntKind.wrap .u64 (nr (Abs.rowAt t1 (Int.toNat t5)) 0))) t1 (IntKind.wrap .i64 (t5 + 1))))
     none)
    none)
   (some ([.one (.sl false 5 t0)], []))) := by kernel_rfl

/- elasticstore/elasticstoreref06.AppendProposal -/
noncomputable def P75_0 : List AItem := F75.at [.snd, .snd, .fst, .snd, .sub, .head]
def M75_0 (t0 : List (List Cell)) (t5 : Int) (b0 : Int) (b0_1 : Int) (b0_2 : List (List Cell)) : St := ⟨[(0, .one (.sl false 5 t0)), (3, .one (.ptr 0 0)), (5, .one (.int .i64 t5))], [.var [.int .i64 b0, .int .i64 b0_1, .sl false 50 b0_2]]⟩
theorem e75 (m : Nat) (x : List (List Cell)) (ap : Int) (np : Int) (cp : List (List Cell)) : runF E (callOf L74) (m + 1) 75 [.one (.sl false 5 x), .agg [.int .i64 ap, .int .i64 np, .sl false 50 cp]] [] =
  (cond (okNums x [[Cell.int .i64 ap], [Cell.int .i64 np], [Cell.int .i64 (cp.length : Int)]])
   (goF E (callOf L74) F75 0 m P75_0 (M75_0 (x ++ encL [[Cell.int .i64 ap], [Cell.int .i64 np], [Cell.int .i64 (cp.length : Int)]]) 0 ap np cp))
   none) := by kernel_rfl
theorem e75_0 (m : Nat) (t0 : List (List Cell)) (t5 : Int) (b0 : Int) (b0_1 : Int) (b0_2 : List (List Cell)) : goF E (callOf L74) F75 0 (m + 1) P75_0 (M75_0 t0 t5 b0 b0_1 b0_2) =
  (cond (decide (t5 < (b0_2.length : Int)))
   (cond (inB t5 b0_2.length)
    (cond (okNums t0 [[Cell.int .i64 (nr (Abs.rowAt b0_2 (Int.toNat t5)) 0)], [Cell.int .i64 (nr (Abs.rowAt b0_2 (Int.toNat t5)) 1)], [Cell.int .i64 (nr (Abs.rowAt b0_2 (Int.toNat t5)) 2)], [Cell.int .i64 (nr (Abs.rowAt b0_2 (Int.toNat t5)) 3)], [Cell.int .i64 (nr (Abs.rowAt b0_2 (Int.toNat t5)) 4)], [Cell.int .i64 (nr (Abs.rowAt b0_2 (Int.toNat t5)) 5)], [Cell.int .i64 (nr (Abs.rowAt b0_2 (Int.toNat t5)) 6)]])
     (goF E (callOf L74) F75 0 m P75_0 (M75_0 (t0 ++ encL [[Cell.int .i64 (nr (Abs.rowAt b0_2 (Int.toNat t5)) 0)], [Cell.int .i64 (nr (Abs.rowAt b0_2 (Int.toNat t5)) 1)], [Cell.int .i64 (nr (Abs.rowAt b0_2 (Int.toNat t5)) 2)], [Cell.int .i64 (nr (Abs.rowAt b0_2 (Int.toNat t5)) 3)], [Cell.int .i64 (nr (Abs.rowAt b0_2 (Int.toNat t5)) 4)], [Cell.int .i64 (nr (Abs.rowAt b0_2 (Int.toNat t5)) 5)], [Cell.int .i64 (nr (Abs.rowAt b0_2 (Int.toNat t5)) 6)]]) (IntKind.wrap .i64 (t5 + 1)) b0 b0_1 b0_2))
     none)
    none)
   (some ([.one (.sl false 5 t0)], []))) := by kernel_rfl
noncomputable def P75_0_c1 : List AItem := F75.at [.snd, .snd, .fst, .snd, .sub, .head]
def M75_0_c1 (t0 : List (List Cell)) (t5 : Int) (b0 : Int) (b0_1 : Int) (b0_2 : List (List Cell)) : St := ⟨[(0, .one (.sl false 5 t0)), (3, .one (.ptr 0 0)), (5, .one (.int .i64 t5))], [.var [.int .i64 b0, .int .i64 b0_1, .sl false 50 b0_2]]⟩
theorem e75_c1 (m : Nat) (ap : Int) (np : Int) (cp : List (List Cell)) : runF E (callOf L74) (m + 1) 75 [.one (.nils), .agg [.int .i64 ap, .int .i64 np, .sl false 50 cp]] [] =
  (cond (okNums ([] : List (List Cell)) [[Cell.int .i64 ap], [Cell.int .i64 np], [Cell.int .i64 (cp.length : Int)]])
   (goF E (callOf L74) F75 0 m P75_0_c1 (M75_0_c1 (([] : List (List Cell)) ++ encL [[Cell.int .i64 ap], [Cell.int .i64 np], [Cell.int .i64 (cp.length : Int)]]) 0 ap np cp))
   none) := by kernel_rfl
theorem e75_0_c1 (m : Nat) (t0 : List (List Cell)) (t5 : Int) (b0 : Int) (b0_1 : Int) (b0_2 : List (List Cell)) : goF E (callOf L74) F75 0 (m + 1) P75_0_c1 (M75_0_c1 t0 t5 b0 b0_1 b0_2) =
  (cond (decide (t5 < (b0_2.length : Int)))
   (cond (inB t5 b0_2.length)
    (cond (okNums t0 [[Cell.int .i64 (nr (Abs.rowAt b0_2 (Int.toNat t5)) 0)], [Cell.int .i64 (nr (Abs.rowAt b0_2 (Int.toNat t5)) 1)], [Cell.int .i64 (nr (Abs.rowAt b0_2 (Int.toNat t5)) 2)], [Cell.int .i64 (nr (Abs.rowAt b0_2 (Int.toNat t5)) 3)], [Cell.int .i64 (nr (Abs.rowAt b0_2 (Int.toNat t5)) 4)], [Cell.int .i64 (nr (Abs.rowAt b0_2 (Int.toNat t5)) 5)], [Cell.int .i64 (nr (Abs.rowAt b0_2 (Int.toNat t5)) 6)]])
     (goF E (callOf L74) F75 0 m P75_0_c1 (M75_0_c1 (t0 ++ encL [[Cell.int .i64 (nr (Abs.rowAt b0_2 (Int.toNat t5)) 0)], [Cell.int .i64 (nr (Abs.rowAt b0_2 (Int.toNat t5)) 1)], [Cell.int .i64 (nr (Abs.rowAt b0_2 (Int.toNat t5)) 2)], [Cell.int .i64 (nr (Abs.rowAt b0_2 (Int.toNat t5)) 3)], [Cell.int .i64 (nr (Abs.rowAt b0_2 (Int.toNat t5)) 4)], [Cell.int .i64 (nr (Abs.rowAt b0_2 (Int.toNat t5)) 5)], [Cell.int .i64 (nr (Abs.rowAt b0_2 (Int.toNat t5)) 6)]]) (IntKind.wrap .i64 (t5 + 1)) b0 b0_1 b0_2))
     none)
    none)
   (some ([.one (.sl false 5 t0)], []))) := by kernel_rfl

/- elasticstore/elasticstoreref06.DecodeProposal -/
noncomputable def P71_0 : List AItem := F71.at [.snd, .snd, .snd, .snd, .snd, .fst, .snd, .sub, .head]
def M71_0 (t0 : List (List Cell)) (t5 : List (List Cell)) (t6 : Int) (t9 : Int) (b0 : Int) (b0_1 : Int) (b0_2 : List (List Cell)) (b1 : Int) (b1_1 : Int) (b1_2 : List (List Cell)) : St := ⟨[(0, .one (.sl false 5 t0)), (2, .one (.ptr 0 0)), (5, .one (.sl false 3 t5)), (6, .one (.int .i64 t6)), (8, .one (.ptr 1 0)), (9, .one (.int .i64 t9))], [.var [.int .i64 b0, .int .i64 b0_1, .sl true 50 b0_2], .var [.int .i64 b1, .int .i64 b1_1, .sl true 50 b1_2]]⟩
theorem e71 (m : Nat) (x : List (List Cell)) : runF E (callOf L75) (m + 1) 71 [.one (.sl false 5 x)] [] =
  (cond (okRd x && decide (3 ≤ 1000))
   (cond ((rread x 3).2.2 != 0)
    (some ([.agg [.int .i64 0, .int .i64 0, .sl true 50 ([] : List (List Cell))], .one (.int .i64 0), .one (.int .i64 (rread x 3).2.2)], []))
    (cond (inB 2 (rread x 3).1.length)
     (cond (decide ((nr (Abs.rowAt (rread x 3).1 2) 0) > 6))
      (some ([.agg [.int .i64 0, .int .i64 0, .sl true 50 ([] : List (List Cell))], .one (.int .i64 0), .one (.int .i64 3)], []))
      (cond (inB 0 (rread x 3).1.length)
       (cond (inB 1 (rread x 3).1.length)
        (goF E (callOf L75) F71 0 m P71_0 (M71_0 x (rread x 3).1 (rread x 3).2.1 0 0 0 ([] : List (List Cell)) (nr (Abs.rowAt (rread x 3).1 0) 0) (nr (Abs.rowAt (rread x 3).1 1) 0) ([] : List (List Cell))))
        none)
       none))
     none))
   none) := by kernel_rfl
theorem e71_0 (m : Nat) (t0 : List (List Cell)) (t5 : List (List Cell)) (t6 : Int) (t9 : Int) (b0 : Int) (b0_1 : Int) (b0_2 : List (List Cell)) (b1 : Int) (b1_1 : Int) (b1_2 : List (List Cell)) : goF E (callOf L75) F71 0 (m + 1) P71_0 (M71_0 t0 t5 t6 t9 b0 b0_1 b0_2 b1 b1_1 b1_2) =
  (cond (inB 2 t5.length)
   (cond (decide (t9 < (nr (Abs.rowAt t5 2) 0)))
    (cond (inB t6 (t0.length + 1))
     (cond (okRd (dropN t0 (Int.toNat t6)) && decide (7 ≤ 1000))
      (cond ((rread (dropN t0 (Int.toNat t6)) 7).2.2 != 0)
       (some ([.agg [.int .i64 0, .int .i64 0, .sl true 50 ([] : List (List Cell))], .one (.int .i64 0), .one (.int .i64 (rread (dropN t0 (Int.toNat t6)) 7).2.2)], []))
       (cond (inB 0 (rread (dropN t0 (Int.toNat t6)) 7).1.length)
        (cond (inB 1 (rread (dropN t0 (Int.toNat t6)) 7).1.length)
         (cond (inB 2 (rread (dropN t0 (Int.toNat t6)) 7).1.length)
          (cond (inB 3 (rread (dropN t0 (Int.toNat t6)) 7).1.length)
           (cond (inB 4 (rread (dropN t0 (Int.toNat t6)) 7).1.length)
            (cond (inB 5 (rread (dropN t0 (Int.toNat t6)) 7).1.length)
             (cond (inB 6 (rread (dropN t0 (Int.toNat t6)) 7).1.length)
              (cond (fits (b1_2.length + [[Cell.int .i64 (nr (Abs.rowAt (rread (dropN t0 (Int.toNat t6)) 7).1 0) 0), Cell.int .i64 (nr (Abs.rowAt (rread (dropN t0 (Int.toNat t6)) 7).1 1) 0), Cell.int .i64 (nr (Abs.rowAt (rread (dropN t0 (Int.toNat t6)) 7).1 2) 0), Cell.int .i64 (nr (Abs.rowAt (rread (dropN t0 (Int.toNat t6)) 7).1 3) 0), Cell.int .i64 (nr (Abs.rowAt (rread (dropN t0 (Int.toNat t6)) 7).1 4) 0), Cell.int .i64 (nr (Abs.rowAt (rread (dropN t0 (Int.toNat t6)) 7).1 5) 0), Cell.int .i64 (nr (Abs.rowAt (rread (dropN t0 (Int.toNat t6)) 7).1 6) 0)]].length))
               (goF E (callOf L75) F71 0 m P71_0 (M71_0 t0 t5 (IntKind.wrap .i64 (t6 + (rread (dropN t0 (Int.toNat t6)) 7).2.1)) (IntKind.wrap .i64 (t9 + 1)) b0 b0_1 b0_2 b1 b1_1 (b1_2 ++ [[Cell.int .i64 (nr (Abs.rowAt (rread (dropN t0 (Int.toNat t6)) 7).1 0) 0), Cell.int .i64 (nr (Abs.rowAt (rread (dropN t0 (Int.toNat t6)) 7).1 1) 0), Cell.int .i64 (nr (Abs.rowAt (rread (dropN t0 (Int.toNat t6)) 7).1 2) 0), Cell.int .i64 (nr (Abs.rowAt (rread (dropN t0 (Int.toNat t6)) 7).1 3) 0), Cell.int .i64 (nr (Abs.rowAt (rread (dropN t0 (Int.toNat t6)) 7).1 4) 0), Cell.int .i64 (nr (Abs.rowAt (rread (dropN t0 (Int.toNat t6)) 7).1 5) 0), Cell.int .i64 (nr (Abs.rowAt (rread (dropN t0 (Int.toNat t6)) 7).1 6) 0)]])))
               none)
              none)
             none)
            none)
           none)
          none)
         none)
        none))
      none)
     none)
    (cond (decide (b1_2.length < 9223372036854775808))
     (cond ((vProp b1 b1_1 b1_2) != 0)
      (some ([.agg [.int .i64 0, .int .i64 0, .sl true 50 ([] : List (List Cell))], .one (.int .i64 0), .one (.int .i64 (vProp b1 b1_1 b1_2))], []))
      (some ([.agg [.int .i64 b1, .int .i64 b1_1, .sl true 50 b1_2], .one (.int .i64 t6), .one (.int .i64 0)], [])))
     none))
   none) := by kernel_rfl

/- elasticstore/elasticstorelaw00.Index -/
theorem e46 (m : Nat) (n : Int) (k : Int) : runF E (callOf L71) (m + 1) 46 [.one (.int .i64 n), .one (.int .i64 k)] [] =
  (cond (decide (k < 1))
   (some ([.one (.int .i64 0)], []))
   (cond (decide (k = 0))
    none
    (cond (decide (k = 0))
     none
     (some ([.one (.int .i64 (Int.tmod (IntKind.wrap .i64 ((Int.tmod n k) + k)) k))], []))))) := by kernel_rfl

/- elasticstore/elasticstorelaw00.Digit -/
noncomputable def P43_0 : List AItem := F43.at [.snd, .snd, .fst, .snd, .sub, .head]
def M43_0 (t1 : Int) (t2 : Int) (t7 : Int) (t8 : Int) : St := ⟨[(1, .one (.int .i64 t1)), (2, .one (.int .i64 t2)), (7, .one (.int .i64 t7)), (8, .one (.int .i64 t8))], []⟩
theorem e43 (m : Nat) (n : Int) (b : Int) (j : Int) : runF E (callOf L46) (m + 1) 43 [.one (.int .i64 n), .one (.int .i64 b), .one (.int .i64 j)] [] =
  (cond (decide (1099511627776 ≤ 4611686018427387904))
   (goF E (callOf L46) F43 0 m P43_0 (M43_0 b j (gIndex n 1099511627776) 0))
   none) := by kernel_rfl
theorem e43_0 (m : Nat) (t1 : Int) (t2 : Int) (t7 : Int) (t8 : Int) : goF E (callOf L46) F43 0 (m + 1) P43_0 (M43_0 t1 t2 t7 t8) =
  (cond (decide (t8 < t2))
   (cond (decide (t1 = 0))
    none
    (goF E (callOf L46) F43 0 m P43_0 (M43_0 t1 t2 (IntKind.wrap .i64 (Int.tdiv t7 t1)) (IntKind.wrap .i64 (t8 + 1)))))
   (cond (decide (t1 = 0))
    none
    (some ([.one (.int .i64 (Int.tmod t7 t1))], [])))) := by kernel_rfl

/- elasticstore/elasticstorelaw00.At -/
theorem e44 (m : Nat) (l : List (List Cell)) (j : Int) : runF E (callOf L43) (m + 1) 44 [.one (.sl false 3 l), .one (.int .i64 j)] [] =
  (cond ((l.length : Int) == 0)
   (some ([.one (.int .i64 0)], []))
   (cond (decide ((l.length : Int) ≤ 4611686018427387904))
    (cond (inB (gIndex j (l.length : Int)) l.length)
     (some ([.one (.int .i64 (nr (Abs.rowAt l (Int.toNat (gIndex j (l.length : Int)))) 0))], []))
     none)
    none)) := by kernel_rfl

/- elasticstore/elasticstorelaw00.Rule -/
theorem e66 (m : Nat) (n : Int) : runF E (callOf L44) (m + 1) 66 [.one (.int .i64 n)] [] =
  (cond (decide (2 ≤ 8) && decide (0 ≤ 9223372036854775807))
   (cond ((gDigit n 8 0) == 1)
    (cond ((gDigit n 8 0) == 1)
     (some ([.agg [.int .i64 2, .int .i64 0, .int .i64 0]], []))
     (cond ((gDigit n 8 0) == 3)
      (cond (decide (2 ≤ 4) && decide (2 ≤ 9223372036854775807))
       (some ([.agg [.int .i64 3, .int .i64 (IntKind.wrap .i64 (1 + (gDigit n 4 2))), .int .i64 0]], []))
       none)
      (cond ((gDigit n 8 0) == 4)
       (cond (decide (2 ≤ 2) && decide (3 ≤ 9223372036854775807))
        (some ([.agg [.int .i64 4, .int .i64 0, .int .i64 (gDigit n 2 3)]], []))
        none)
       (some ([.agg [.int .i64 1, .int .i64 0, .int .i64 0]], [])))))
    (cond ((gDigit n 8 0) == 2)
     (some ([.agg [.int .i64 2, .int .i64 0, .int .i64 0]], []))
     (cond ((gDigit n 8 0) == 3)
      (cond (decide (2 ≤ 4) && decide (2 ≤ 9223372036854775807))
       (some ([.agg [.int .i64 3, .int .i64 (IntKind.wrap .i64 (1 + (gDigit n 4 2))), .int .i64 0]], []))
       none)
      (cond ((gDigit n 8 0) == 4)
       (cond (decide (2 ≤ 2) && decide (3 ≤ 9223372036854775807))
        (some ([.agg [.int .i64 4, .int .i64 0, .int .i64 (gDigit n 2 3)]], []))
        none)
       (some ([.agg [.int .i64 1, .int .i64 0, .int .i64 0]], []))))))
   none) := by kernel_rfl

/- elasticstore/elasticstorelaw00.Change -/
theorem e45 (m : Nat) (n : Int) : runF E (callOf L66) (m + 1) 45 [.one (.int .i64 n)] [] =
  (cond (decide (2 ≤ 8) && decide (1 ≤ 9223372036854775807))
   (cond (decide (2 ≤ 8) && decide (0 ≤ 9223372036854775807))
    (cond ((gDigit n 8 0) == 0)
     (cond ((gDigit n 8 0) == 0)
      (cond (decide (2 ≤ 4) && decide (3 ≤ 9223372036854775807))
       (some ([.agg [.int .i64 1, .int .i64 (IntKind.wrap .i64 (1 + (gDigit n 8 1))), .int .i64 (IntKind.wrap .i64 (1 + (gDigit n 4 3))), .int .i64 0, .int .i64 0, .int .i64 0, .int .i64 0]], []))
       none)
      (cond ((gDigit n 8 0) == 3)
       (cond ((gDigit n 8 0) == 3)
        (some ([.agg [.int .i64 2, .int .i64 (IntKind.wrap .i64 (1 + (gDigit n 8 1))), .int .i64 0, .int .i64 0, .int .i64 0, .int .i64 0, .int .i64 0]], []))
        (cond ((gDigit n 8 0) == 5)
         (cond (decide (2 ≤ 4) && decide (3 ≤ 9223372036854775807))
          (cond (decide (2 ≤ 2) && decide (9 ≤ 9223372036854775807))
           (some ([.agg [.int .i64 3, .int .i64 (IntKind.wrap .i64 (1 + (gDigit n 8 1))), .int .i64 (IntKind.wrap .i64 (1 + (gDigit n 4 3))), .int .i64 (IntKind.wrap .i64 (1 + (gDigit n 2 9))), .int .i64 0, .int .i64 0, .int .i64 0]], []))
           none)
          none)
         (cond ((gDigit n 8 0) == 6)
          (cond (decide (2 ≤ 2) && decide (9 ≤ 9223372036854775807))
           (cond (decide (1099511627776 ≤ 4611686018427387904))
            (some ([.agg [.int .i64 4, .int .i64 0, .int .i64 0, .int .i64 (IntKind.wrap .i64 (1 + (gDigit n 2 9))), .int .i64 (gRule (IntKind.wrap .i64 (Int.tdiv (gIndex n 1099511627776) 64))).1, .int .i64 (gRule (IntKind.wrap .i64 (Int.tdiv (gIndex n 1099511627776) 64))).2.1, .int .i64 (gRule (IntKind.wrap .i64 (Int.tdiv (gIndex n 1099511627776) 64))).2.2]], []))
            none)
           none)
          (cond (decide (2 ≤ 12) && decide (1 ≤ 9223372036854775807))
           (some ([.agg [.int .i64 1, .int .i64 (IntKind.wrap .i64 (1 + (gDigit n 12 1))), .int .i64 1, .int .i64 0, .int .i64 0, .int .i64 0, .int .i64 0]], []))
           none))))
       (cond ((gDigit n 8 0) == 4)
        (some ([.agg [.int .i64 2, .int .i64 (IntKind.wrap .i64 (1 + (gDigit n 8 1))), .int .i64 0, .int .i64 0, .int .i64 0, .int .i64 0, .int .i64 0]], []))
        (cond ((gDigit n 8 0) == 5)
         (cond (decide (2 ≤ 4) && decide (3 ≤ 9223372036854775807))
          (cond (decide (2 ≤ 2) && decide (9 ≤ 9223372036854775807))
           (some ([.agg [.int .i64 3, .int .i64 (IntKind.wrap .i64 (1 + (gDigit n 8 1))), .int .i64 (IntKind.wrap .i64 (1 + (gDigit n 4 3))), .int .i64 (IntKind.wrap .i64 (1 + (gDigit n 2 9))), .int .i64 0, .int .i64 0, .int .i64 0]], []))
           none)
          none)
         (cond ((gDigit n 8 0) == 6)
          (cond (decide (2 ≤ 2) && decide (9 ≤ 9223372036854775807))
           (cond (decide (1099511627776 ≤ 4611686018427387904))
            (some ([.agg [.int .i64 4, .int .i64 0, .int .i64 0, .int .i64 (IntKind.wrap .i64 (1 + (gDigit n 2 9))), .int .i64 (gRule (IntKind.wrap .i64 (Int.tdiv (gIndex n 1099511627776) 64))).1, .int .i64 (gRule (IntKind.wrap .i64 (Int.tdiv (gIndex n 1099511627776) 64))).2.1, .int .i64 (gRule (IntKind.wrap .i64 (Int.tdiv (gIndex n 1099511627776) 64))).2.2]], []))
            none)
           none)
          (cond (decide (2 ≤ 12) && decide (1 ≤ 9223372036854775807))
           (some ([.agg [.int .i64 1, .int .i64 (IntKind.wrap .i64 (1 + (gDigit n 12 1))), .int .i64 1, .int .i64 0, .int .i64 0, .int .i64 0, .int .i64 0]], []))
           none))))))
     (cond ((gDigit n 8 0) == 1)
      (cond ((gDigit n 8 0) == 1)
       (cond (decide (2 ≤ 4) && decide (3 ≤ 9223372036854775807))
        (some ([.agg [.int .i64 1, .int .i64 (IntKind.wrap .i64 (1 + (gDigit n 8 1))), .int .i64 (IntKind.wrap .i64 (1 + (gDigit n 4 3))), .int .i64 0, .int .i64 0, .int .i64 0, .int .i64 0]], []))
        none)
       (cond ((gDigit n 8 0) == 3)
        (cond ((gDigit n 8 0) == 3)
         (some ([.agg [.int .i64 2, .int .i64 (IntKind.wrap .i64 (1 + (gDigit n 8 1))), .int .i64 0, .int .i64 0, .int .i64 0, .int .i64 0, .int .i64 0]], []))
         (cond ((gDigit n 8 0) == 5)
          (cond (decide (2 ≤ 4) && decide (3 ≤ 9223372036854775807))
           (cond (decide (2 ≤ 2) && decide (9 ≤ 9223372036854775807))
            (some ([.agg [.int .i64 3, .int .i64 (IntKind.wrap .i64 (1 + (gDigit n 8 1))), .int .i64 (IntKind.wrap .i64 (1 + (gDigit n 4 3))), .int .i64 (IntKind.wrap .i64 (1 + (gDigit n 2 9))), .int .i64 0, .int .i64 0, .int .i64 0]], []))
            none)
           none)
          (cond ((gDigit n 8 0) == 6)
           (cond (decide (2 ≤ 2) && decide (9 ≤ 9223372036854775807))
            (cond (decide (1099511627776 ≤ 4611686018427387904))
             (some ([.agg [.int .i64 4, .int .i64 0, .int .i64 0, .int .i64 (IntKind.wrap .i64 (1 + (gDigit n 2 9))), .int .i64 (gRule (IntKind.wrap .i64 (Int.tdiv (gIndex n 1099511627776) 64))).1, .int .i64 (gRule (IntKind.wrap .i64 (Int.tdiv (gIndex n 1099511627776) 64))).2.1, .int .i64 (gRule (IntKind.wrap .i64 (Int.tdiv (gIndex n 1099511627776) 64))).2.2]], []))
             none)
            none)
           (cond (decide (2 ≤ 12) && decide (1 ≤ 9223372036854775807))
            (some ([.agg [.int .i64 1, .int .i64 (IntKind.wrap .i64 (1 + (gDigit n 12 1))), .int .i64 1, .int .i64 0, .int .i64 0, .int .i64 0, .int .i64 0]], []))
            none))))
        (cond ((gDigit n 8 0) == 4)
         (some ([.agg [.int .i64 2, .int .i64 (IntKind.wrap .i64 (1 + (gDigit n 8 1))), .int .i64 0, .int .i64 0, .int .i64 0, .int .i64 0, .int .i64 0]], []))
         (cond ((gDigit n 8 0) == 5)
          (cond (decide (2 ≤ 4) && decide (3 ≤ 9223372036854775807))
           (cond (decide (2 ≤ 2) && decide (9 ≤ 9223372036854775807))
            (some ([.agg [.int .i64 3, .int .i64 (IntKind.wrap .i64 (1 + (gDigit n 8 1))), .int .i64 (IntKind.wrap .i64 (1 + (gDigit n 4 3))), .int .i64 (IntKind.wrap .i64 (1 + (gDigit n 2 9))), .int .i64 0, .int .i64 0, .int .i64 0]], []))
            none)
           none)
          (cond ((gDigit n 8 0) == 6)
           (cond (decide (2 ≤ 2) && decide (9 ≤ 9223372036854775807))
            (cond (decide (1099511627776 ≤ 4611686018427387904))
             (some ([.agg [.int .i64 4, .int .i64 0, .int .i64 0, .int .i64 (IntKind.wrap .i64 (1 + (gDigit n 2 9))), .int .i64 (gRule (IntKind.wrap .i64 (Int.tdiv (gIndex n 1099511627776) 64))).1, .int .i64 (gRule (IntKind.wrap .i64 (Int.tdiv (gIndex n 1099511627776) 64))).2.1, .int .i64 (gRule (IntKind.wrap .i64 (Int.tdiv (gIndex n 1099511627776) 64))).2.2]], []))
             none)
            none)
           (cond (decide (2 ≤ 12) && decide (1 ≤ 9223372036854775807))
            (some ([.agg [.int .i64 1, .int .i64 (IntKind.wrap .i64 (1 + (gDigit n 12 1))), .int .i64 1, .int .i64 0, .int .i64 0, .int .i64 0, .int .i64 0]], []))
            none))))))
      (cond ((gDigit n 8 0) == 2)
       (cond (decide (2 ≤ 4) && decide (3 ≤ 9223372036854775807))
        (some ([.agg [.int .i64 1, .int .i64 (IntKind.wrap .i64 (1 + (gDigit n 8 1))), .int .i64 (IntKind.wrap .i64 (1 + (gDigit n 4 3))), .int .i64 0, .int .i64 0, .int .i64 0, .int .i64 0]], []))
        none)
       (cond ((gDigit n 8 0) == 3)
        (cond ((gDigit n 8 0) == 3)
         (some ([.agg [.int .i64 2, .int .i64 (IntKind.wrap .i64 (1 + (gDigit n 8 1))), .int .i64 0, .int .i64 0, .int .i64 0, .int .i64 0, .int .i64 0]], []))
         (cond ((gDigit n 8 0) == 5)
          (cond (decide (2 ≤ 4) && decide (3 ≤ 9223372036854775807))
           (cond (decide (2 ≤ 2) && decide (9 ≤ 9223372036854775807))
            (some ([.agg [.int .i64 3, .int .i64 (IntKind.wrap .i64 (1 + (gDigit n 8 1))), .int .i64 (IntKind.wrap .i64 (1 + (gDigit n 4 3))), .int .i64 (IntKind.wrap .i64 (1 + (gDigit n 2 9))), .int .i64 0, .int .i64 0, .int .i64 0]], []))
            none)
           none)
          (cond ((gDigit n 8 0) == 6)
           (cond (decide (2 ≤ 2) && decide (9 ≤ 9223372036854775807))
            (cond (decide (1099511627776 ≤ 4611686018427387904))
             (some ([.agg [.int .i64 4, .int .i64 0, .int .i64 0, .int .i64 (IntKind.wrap .i64 (1 + (gDigit n 2 9))), .int .i64 (gRule (IntKind.wrap .i64 (Int.tdiv (gIndex n 1099511627776) 64))).1, .int .i64 (gRule (IntKind.wrap .i64 (Int.tdiv (gIndex n 1099511627776) 64))).2.1, .int .i64 (gRule (IntKind.wrap .i64 (Int.tdiv (gIndex n 1099511627776) 64))).2.2]], []))
             none)
            none)
           (cond (decide (2 ≤ 12) && decide (1 ≤ 9223372036854775807))
            (some ([.agg [.int .i64 1, .int .i64 (IntKind.wrap .i64 (1 + (gDigit n 12 1))), .int .i64 1, .int .i64 0, .int .i64 0, .int .i64 0, .int .i64 0]], []))
            none))))
        (cond ((gDigit n 8 0) == 4)
         (some ([.agg [.int .i64 2, .int .i64 (IntKind.wrap .i64 (1 + (gDigit n 8 1))), .int .i64 0, .int .i64 0, .int .i64 0, .int .i64 0, .int .i64 0]], []))
         (cond ((gDigit n 8 0) == 5)
          (cond (decide (2 ≤ 4) && decide (3 ≤ 9223372036854775807))
           (cond (decide (2 ≤ 2) && decide (9 ≤ 9223372036854775807))
            (some ([.agg [.int .i64 3, .int .i64 (IntKind.wrap .i64 (1 + (gDigit n 8 1))), .int .i64 (IntKind.wrap .i64 (1 + (gDigit n 4 3))), .int .i64 (IntKind.wrap .i64 (1 + (gDigit n 2 9))), .int .i64 0, .int .i64 0, .int .i64 0]], []))
            none)
           none)
          (cond ((gDigit n 8 0) == 6)
           (cond (decide (2 ≤ 2) && decide (9 ≤ 9223372036854775807))
            (cond (decide (1099511627776 ≤ 4611686018427387904))
             (some ([.agg [.int .i64 4, .int .i64 0, .int .i64 0, .int .i64 (IntKind.wrap .i64 (1 + (gDigit n 2 9))), .int .i64 (gRule (IntKind.wrap .i64 (Int.tdiv (gIndex n 1099511627776) 64))).1, .int .i64 (gRule (IntKind.wrap .i64 (Int.tdiv (gIndex n 1099511627776) 64))).2.1, .int .i64 (gRule (IntKind.wrap .i64 (Int.tdiv (gIndex n 1099511627776) 64))).2.2]], []))
             none)
            none)
           (cond (decide (2 ≤ 12) && decide (1 ≤ 9223372036854775807))
            (some ([.agg [.int .i64 1, .int .i64 (IntKind.wrap .i64 (1 + (gDigit n 12 1))), .int .i64 1, .int .i64 0, .int .i64 0, .int .i64 0, .int .i64 0]], []))
            none))))))))
    none)
   none) := by kernel_rfl

/- elasticstore/elasticstorelaw00.Pool -/
noncomputable def P22_0 : List AItem := F22.at [.snd, .snd, .snd, .fst, .snd, .sub, .head]
def M22_0 (t0 : List (List Cell)) (t3 : List (List Cell)) (t4 : Int) (t5 : Int) : St := ⟨[(0, .one (.sl false 3 t0)), (3, .one (.sl true 53 t3)), (4, .one (.int .i64 t4)), (5, .one (.int .i64 t5))], []⟩
noncomputable def P22_1 : List AItem := F22.at [.snd, .snd, .snd, .fst, .snd, .sub, .body, .snd, .fst, .sub, .snd, .sub, .head]
def M22_1 (t0 : List (List Cell)) (t3 : List (List Cell)) (t4 : Int) (t5 : Int) (t6 : Int) : St := ⟨[(0, .one (.sl false 3 t0)), (3, .one (.sl true 53 t3)), (4, .one (.int .i64 t4)), (5, .one (.int .i64 t5)), (6, .one (.int .i64 t6))], []⟩
theorem e22 (m : Nat) (l : List (List Cell)) : runF E (callOf L45) (m + 1) 22 [.one (.sl false 3 l)] [] =
  (goF E (callOf L45) F22 0 m P22_0 (M22_0 l ([] : List (List Cell)) 3 0)) := by kernel_rfl
theorem e22_0 (m : Nat) (t0 : List (List Cell)) (t3 : List (List Cell)) (t4 : Int) (t5 : Int) : goF E (callOf L45) F22 0 (m + 1) P22_0 (M22_0 t0 t3 t4 t5) =
  (cond (decide (t5 < 3))
   (goF E (callOf L45) F22 0 m P22_1 (M22_1 t0 t3 t4 t5 0))
   (some ([.one (.sl true 53 t3)], []))) := by kernel_rfl
theorem e22_1 (m : Nat) (t0 : List (List Cell)) (t3 : List (List Cell)) (t4 : Int) (t5 : Int) (t6 : Int) : goF E (callOf L45) F22 0 (m + 1) P22_1 (M22_1 t0 t3 t4 t5 t6) =
  (cond (decide (t0.length < 4611686018427387904))
   (cond (decide (2 ≤ 4) && decide (0 ≤ 9223372036854775807))
    (cond (decide (t6 < (gDigit (gAt t0 t5) 4 0)))
     (cond (decide (t0.length < 4611686018427387904))
      (cond (decide (t0.length < 4611686018427387904))
       (cond (decide (t0.length < 4611686018427387904))
        (cond (decide (2 ≤ 2) && decide (12 ≤ 9223372036854775807))
         (cond ((gDigit (gAt t0 t4) 2 12) == 1)
          (cond ((gCh (gAt t0 (IntKind.wrap .i64 (t4 + 1))) 0) != (nr (Abs.rowAt [[Cell.int .i64 (gCh (gAt t0 t4) 0), Cell.int .i64 (gCh (gAt t0 t4) 1), Cell.int .i64 (gCh (gAt t0 t4) 2), Cell.int .i64 (gCh (gAt t0 t4) 3), Cell.int .i64 (gCh (gAt t0 t4) 4), Cell.int .i64 (gCh (gAt t0 t4) 5), Cell.int .i64 (gCh (gAt t0 t4) 6)]] 0) 0))
           (cond (fits (t3.length + [[Cell.int .i64 (IntKind.wrap .i64 (201 + t5)), Cell.int .i64 (IntKind.wrap .i64 (t6 + 1)), Cell.slice 50 ([[Cell.int .i64 (gCh (gAt t0 t4) 0), Cell.int .i64 (gCh (gAt t0 t4) 1), Cell.int .i64 (gCh (gAt t0 t4) 2), Cell.int .i64 (gCh (gAt t0 t4) 3), Cell.int .i64 (gCh (gAt t0 t4) 4), Cell.int .i64 (gCh (gAt t0 t4) 5), Cell.int .i64 (gCh (gAt t0 t4) 6)]] ++ [[Cell.int .i64 (gCh (gAt t0 (IntKind.wrap .i64 (t4 + 1))) 0), Cell.int .i64 (gCh (gAt t0 (IntKind.wrap .i64 (t4 + 1))) 1), Cell.int .i64 (gCh (gAt t0 (IntKind.wrap .i64 (t4 + 1))) 2), Cell.int .i64 (gCh (gAt t0 (IntKind.wrap .i64 (t4 + 1))) 3), Cell.int .i64 (gCh (gAt t0 (IntKind.wrap .i64 (t4 + 1))) 4), Cell.int .i64 (gCh (gAt t0 (IntKind.wrap .i64 (t4 + 1))) 5), Cell.int .i64 (gCh (gAt t0 (IntKind.wrap .i64 (t4 + 1))) 6)]])]].length))
            (goF E (callOf L45) F22 0 m P22_1 (M22_1 t0 (t3 ++ [[Cell.int .i64 (IntKind.wrap .i64 (201 + t5)), Cell.int .i64 (IntKind.wrap .i64 (t6 + 1)), Cell.slice 50 ([[Cell.int .i64 (gCh (gAt t0 t4) 0), Cell.int .i64 (gCh (gAt t0 t4) 1), Cell.int .i64 (gCh (gAt t0 t4) 2), Cell.int .i64 (gCh (gAt t0 t4) 3), Cell.int .i64 (gCh (gAt t0 t4) 4), Cell.int .i64 (gCh (gAt t0 t4) 5), Cell.int .i64 (gCh (gAt t0 t4) 6)]] ++ [[Cell.int .i64 (gCh (gAt t0 (IntKind.wrap .i64 (t4 + 1))) 0), Cell.int .i64 (gCh (gAt t0 (IntKind.wrap .i64 (t4 + 1))) 1), Cell.int .i64 (gCh (gAt t0 (IntKind.wrap .i64 (t4 + 1))) 2), Cell.int .i64 (gCh (gAt t0 (IntKind.wrap .i64 (t4 + 1))) 3), Cell.int .i64 (gCh (gAt t0 (IntKind.wrap .i64 (t4 + 1))) 4), Cell.int .i64 (gCh (gAt t0 (IntKind.wrap .i64 (t4 + 1))) 5), Cell.int .i64 (gCh (gAt t0 (IntKind.wrap .i64 (t4 + 1))) 6)]])]]) (IntKind.wrap .i64 (t4 + 2)) t5 (IntKind.wrap .i64 (t6 + 1))))
            none)
           (cond ((gCh (gAt t0 (IntKind.wrap .i64 (t4 + 1))) 1) != (nr (Abs.rowAt [[Cell.int .i64 (gCh (gAt t0 t4) 0), Cell.int .i64 (gCh (gAt t0 t4) 1), Cell.int .i64 (gCh (gAt t0 t4) 2), Cell.int .i64 (gCh (gAt t0 t4) 3), Cell.int .i64 (gCh (gAt t0 t4) 4), Cell.int .i64 (gCh (gAt t0 t4) 5), Cell.int .i64 (gCh (gAt t0 t4) 6)]] 0) 1))
            (cond (fits (t3.length + [[Cell.int .i64 (IntKind.wrap .i64 (201 + t5)), Cell.int .i64 (IntKind.wrap .i64 (t6 + 1)), Cell.slice 50 ([[Cell.int .i64 (gCh (gAt t0 t4) 0), Cell.int .i64 (gCh (gAt t0 t4) 1), Cell.int .i64 (gCh (gAt t0 t4) 2), Cell.int .i64 (gCh (gAt t0 t4) 3), Cell.int .i64 (gCh (gAt t0 t4) 4), Cell.int .i64 (gCh (gAt t0 t4) 5), Cell.int .i64 (gCh (gAt t0 t4) 6)]] ++ [[Cell.int .i64 (gCh (gAt t0 (IntKind.wrap .i64 (t4 + 1))) 0), Cell.int .i64 (gCh (gAt t0 (IntKind.wrap .i64 (t4 + 1))) 1), Cell.int .i64 (gCh (gAt t0 (IntKind.wrap .i64 (t4 + 1))) 2), Cell.int .i64 (gCh (gAt t0 (IntKind.wrap .i64 (t4 + 1))) 3), Cell.int .i64 (gCh (gAt t0 (IntKind.wrap .i64 (t4 + 1))) 4), Cell.int .i64 (gCh (gAt t0 (IntKind.wrap .i64 (t4 + 1))) 5), Cell.int .i64 (gCh (gAt t0 (IntKind.wrap .i64 (t4 + 1))) 6)]])]].length))
             (goF E (callOf L45) F22 0 m P22_1 (M22_1 t0 (t3 ++ [[Cell.int .i64 (IntKind.wrap .i64 (201 + t5)), Cell.int .i64 (IntKind.wrap .i64 (t6 + 1)), Cell.slice 50 ([[Cell.int .i64 (gCh (gAt t0 t4) 0), Cell.int .i64 (gCh (gAt t0 t4) 1), Cell.int .i64 (gCh (gAt t0 t4) 2), Cell.int .i64 (gCh (gAt t0 t4) 3), Cell.int .i64 (gCh (gAt t0 t4) 4), Cell.int .i64 (gCh (gAt t0 t4) 5), Cell.int .i64 (gCh (gAt t0 t4) 6)]] ++ [[Cell.int .i64 (gCh (gAt t0 (IntKind.wrap .i64 (t4 + 1))) 0), Cell.int .i64 (gCh (gAt t0 (IntKind.wrap .i64 (t4 + 1))) 1), Cell.int .i64 (gCh (gAt t0 (IntKind.wrap .i64 (t4 + 1))) 2), Cell.int .i64 (gCh (gAt t0 (IntKind.wrap .i64 (t4 + 1))) 3), Cell.int .i64 (gCh (gAt t0 (IntKind.wrap .i64 (t4 + 1))) 4), Cell.int .i64 (gCh (gAt t0 (IntKind.wrap .i64 (t4 + 1))) 5), Cell.int .i64 (gCh (gAt t0 (IntKind.wrap .i64 (t4 + 1))) 6)]])]]) (IntKind.wrap .i64 (t4 + 2)) t5 (IntKind.wrap .i64 (t6 + 1))))
             none)
            (cond (fits (t3.length + [[Cell.int .i64 (IntKind.wrap .i64 (201 + t5)), Cell.int .i64 (IntKind.wrap .i64 (t6 + 1)), Cell.slice 50 [[Cell.int .i64 (gCh (gAt t0 t4) 0), Cell.int .i64 (gCh (gAt t0 t4) 1), Cell.int .i64 (gCh (gAt t0 t4) 2), Cell.int .i64 (gCh (gAt t0 t4) 3), Cell.int .i64 (gCh (gAt t0 t4) 4), Cell.int .i64 (gCh (gAt t0 t4) 5), Cell.int .i64 (gCh (gAt t0 t4) 6)]]]].length))
             (goF E (callOf L45) F22 0 m P22_1 (M22_1 t0 (t3 ++ [[Cell.int .i64 (IntKind.wrap .i64 (201 + t5)), Cell.int .i64 (IntKind.wrap .i64 (t6 + 1)), Cell.slice 50 [[Cell.int .i64 (gCh (gAt t0 t4) 0), Cell.int .i64 (gCh (gAt t0 t4) 1), Cell.int .i64 (gCh (gAt t0 t4) 2), Cell.int .i64 (gCh (gAt t0 t4) 3), Cell.int .i64 (gCh (gAt t0 t4) 4), Cell.int .i64 (gCh (gAt t0 t4) 5), Cell.int .i64 (gCh (gAt t0 t4) 6)]]]]) (IntKind.wrap .i64 (t4 + 2)) t5 (IntKind.wrap .i64 (t6 + 1))))
             none)))
          (cond (fits (t3.length + [[Cell.int .i64 (IntKind.wrap .i64 (201 + t5)), Cell.int .i64 (IntKind.wrap .i64 (t6 + 1)), Cell.slice 50 [[Cell.int .i64 (gCh (gAt t0 t4) 0), Cell.int .i64 (gCh (gAt t0 t4) 1), Cell.int .i64 (gCh (gAt t0 t4) 2), Cell.int .i64 (gCh (gAt t0 t4) 3), Cell.int .i64 (gCh (gAt t0 t4) 4), Cell.int .i64 (gCh (gAt t0 t4) 5), Cell.int .i64 (gCh (gAt t0 t4) 6)]]]].length))
           (goF E (callOf L45) F22 0 m P22_1 (M22_1 t0 (t3 ++ [[Cell.int .i64 (IntKind.wrap .i64 (201 + t5)), Cell.int .i64 (IntKind.wrap .i64 (t6 + 1)), Cell.slice 50 [[Cell.int .i64 (gCh (gAt t0 t4) 0), Cell.int .i64 (gCh (gAt t0 t4) 1), Cell.int .i64 (gCh (gAt t0 t4) 2), Cell.int .i64 (gCh (gAt t0 t4) 3), Cell.int .i64 (gCh (gAt t0 t4) 4), Cell.int .i64 (gCh (gAt t0 t4) 5), Cell.int .i64 (gCh (gAt t0 t4) 6)]]]]) (IntKind.wrap .i64 (t4 + 2)) t5 (IntKind.wrap .i64 (t6 + 1))))
           none))
         none)
        none)
       none)
      none)
     (goF E (callOf L45) F22 0 m P22_0 (M22_0 t0 t3 t4 (IntKind.wrap .i64 (t5 + 1)))))
    none)
   none) := by kernel_rfl

/- elasticstore/config.Validate -/
noncomputable def P30_0 : List AItem := F30.at [.snd, .fst, .snd, .sub, .head]
def M30_0 (t0 : List (List Cell)) (t6 : List (List Cell)) (t7 : Int) (t8 : Int) : St := ⟨[(0, .one (.sl false 53 t0)), (6, .one (.sl false 53 t6)), (7, .one (.int .i64 t7)), (8, .one (.int .i64 t8))], []⟩
theorem e30 (m : Nat) (c : List (List Cell)) : runF E (callOf L22) (m + 1) 30 [.one (.sl false 53 c)] [] =
  (goF E (callOf L22) F30 0 m P30_0 (M30_0 c c (c.length : Int) 0)) := by kernel_rfl
theorem e30_0 (m : Nat) (t0 : List (List Cell)) (t6 : List (List Cell)) (t7 : Int) (t8 : Int) : goF E (callOf L22) F30 0 (m + 1) P30_0 (M30_0 t0 t6 t7 t8) =
  (cond (decide (t8 < t7))
   (cond (inB t8 t6.length)
    (cond (decide ((nl (Abs.rowAt t6 (Int.toNat t8)) 2).length < 9223372036854775808))
     (cond ((vProp (nr (Abs.rowAt t6 (Int.toNat t8)) 0) (nr (Abs.rowAt t6 (Int.toNat t8)) 1) (nl (Abs.rowAt t6 (Int.toNat t8)) 2)) != 0)
      (some ([.one (.int .i64 (vProp (nr (Abs.rowAt t6 (Int.toNat t8)) 0) (nr (Abs.rowAt t6 (Int.toNat t8)) 1) (nl (Abs.rowAt t6 (Int.toNat t8)) 2)))], []))
      (cond (decide (t8 > 0))
       (cond (inB (IntKind.wrap .i64 (t8 - 1)) t0.length)
        (cond (decide ((cmpP (nr (Abs.rowAt t6 (Int.toNat t8)) 0) (nr (Abs.rowAt t6 (Int.toNat t8)) 1) (nr (Abs.rowAt t0 (Int.toNat (IntKind.wrap .i64 (t8 - 1)))) 0) (nr (Abs.rowAt t0 (Int.toNat (IntKind.wrap .i64 (t8 - 1)))) 1)) ≤ 0))
         (some ([.one (.int .i64 7)], []))
         (cond (decide ((nr (Abs.rowAt t6 (Int.toNat t8)) 1) > 1))
          (cond (t8 == 0)
           (some ([.one (.int .i64 8)], []))
           (cond (inB (IntKind.wrap .i64 (t8 - 1)) t0.length)
            (cond ((nr (Abs.rowAt t0 (Int.toNat (IntKind.wrap .i64 (t8 - 1)))) 0) != (nr (Abs.rowAt t6 (Int.toNat t8)) 0))
             (some ([.one (.int .i64 8)], []))
             (cond (inB (IntKind.wrap .i64 (t8 - 1)) t0.length)
              (cond ((nr (Abs.rowAt t0 (Int.toNat (IntKind.wrap .i64 (t8 - 1)))) 1) != (IntKind.wrap .i64 ((nr (Abs.rowAt t6 (Int.toNat t8)) 1) - 1)))
               (some ([.one (.int .i64 8)], []))
               (goF E (callOf L22) F30 0 m P30_0 (M30_0 t0 t6 t7 (IntKind.wrap .i64 (t8 + 1)))))
              none))
            none))
          (goF E (callOf L22) F30 0 m P30_0 (M30_0 t0 t6 t7 (IntKind.wrap .i64 (t8 + 1))))))
        none)
       (cond (decide ((nr (Abs.rowAt t6 (Int.toNat t8)) 1) > 1))
        (cond (t8 == 0)
         (some ([.one (.int .i64 8)], []))
         (cond (inB (IntKind.wrap .i64 (t8 - 1)) t0.length)
          (cond ((nr (Abs.rowAt t0 (Int.toNat (IntKind.wrap .i64 (t8 - 1)))) 0) != (nr (Abs.rowAt t6 (Int.toNat t8)) 0))
           (some ([.one (.int .i64 8)], []))
           (cond (inB (IntKind.wrap .i64 (t8 - 1)) t0.length)
            (cond ((nr (Abs.rowAt t0 (Int.toNat (IntKind.wrap .i64 (t8 - 1)))) 1) != (IntKind.wrap .i64 ((nr (Abs.rowAt t6 (Int.toNat t8)) 1) - 1)))
             (some ([.one (.int .i64 8)], []))
             (goF E (callOf L22) F30 0 m P30_0 (M30_0 t0 t6 t7 (IntKind.wrap .i64 (t8 + 1)))))
            none))
          none))
        (goF E (callOf L22) F30 0 m P30_0 (M30_0 t0 t6 t7 (IntKind.wrap .i64 (t8 + 1)))))))
     none)
    none)
   (some ([.one (.int .i64 0)], []))) := by kernel_rfl

/- elasticstore/elasticstoreref06.ValidateConfig -/
noncomputable def P32_0 : List AItem := F32.at [.snd, .fst, .snd, .sub, .head]
def M32_0 (t0 : List (List Cell)) (t3 : Int) : St := ⟨[(0, .one (.sl false 53 t0)), (3, .one (.int .i64 t3))], []⟩
theorem e32 (m : Nat) (c : List (List Cell)) : runF E (callOf L30) (m + 1) 32 [.one (.sl false 53 c)] [] =
  (goF E (callOf L30) F32 0 m P32_0 (M32_0 c 0)) := by kernel_rfl
theorem e32_0 (m : Nat) (t0 : List (List Cell)) (t3 : Int) : goF E (callOf L30) F32 0 (m + 1) P32_0 (M32_0 t0 t3) =
  (cond (decide (t3 < (t0.length : Int)))
   (cond (inB t3 t0.length)
    (cond (decide ((nl (Abs.rowAt t0 (Int.toNat t3)) 2).length < 9223372036854775808))
     (cond ((vProp (nr (Abs.rowAt t0 (Int.toNat t3)) 0) (nr (Abs.rowAt t0 (Int.toNat t3)) 1) (nl (Abs.rowAt t0 (Int.toNat t3)) 2)) != 0)
      (some ([.one (.int .i64 (vProp (nr (Abs.rowAt t0 (Int.toNat t3)) 0) (nr (Abs.rowAt t0 (Int.toNat t3)) 1) (nl (Abs.rowAt t0 (Int.toNat t3)) 2)))], []))
      (cond (decide (t3 > 0))
       (cond (inB (IntKind.wrap .i64 (t3 - 1)) t0.length)
        (cond (inB t3 t0.length)
         (cond (decide ((cmpP (nr (Abs.rowAt t0 (Int.toNat (IntKind.wrap .i64 (t3 - 1)))) 0) (nr (Abs.rowAt t0 (Int.toNat (IntKind.wrap .i64 (t3 - 1)))) 1) (nr (Abs.rowAt t0 (Int.toNat t3)) 0) (nr (Abs.rowAt t0 (Int.toNat t3)) 1)) ≥ 0))
          (some ([.one (.int .i64 7)], []))
          (cond (inB t3 t0.length)
           (cond (decide ((nr (Abs.rowAt t0 (Int.toNat t3)) 1) > 1))
            (cond (t3 == 0)
             (some ([.one (.int .i64 8)], []))
             (cond (inB (IntKind.wrap .i64 (t3 - 1)) t0.length)
              (cond (inB t3 t0.length)
               (cond ((nr (Abs.rowAt t0 (Int.toNat (IntKind.wrap .i64 (t3 - 1)))) 0) != (nr (Abs.rowAt t0 (Int.toNat t3)) 0))
                (some ([.one (.int .i64 8)], []))
                (cond (inB (IntKind.wrap .i64 (t3 - 1)) t0.length)
                 (cond (inB t3 t0.length)
                  (cond ((nr (Abs.rowAt t0 (Int.toNat (IntKind.wrap .i64 (t3 - 1)))) 1) != (IntKind.wrap .i64 ((nr (Abs.rowAt t0 (Int.toNat t3)) 1) - 1)))
                   (some ([.one (.int .i64 8)], []))
                   (goF E (callOf L30) F32 0 m P32_0 (M32_0 t0 (IntKind.wrap .i64 (t3 + 1)))))
                  none)
                 none))
               none)
              none))
            (goF E (callOf L30) F32 0 m P32_0 (M32_0 t0 (IntKind.wrap .i64 (t3 + 1)))))
           none))
         none)
        none)
       (cond (inB t3 t0.length)
        (cond (decide ((nr (Abs.rowAt t0 (Int.toNat t3)) 1) > 1))
         (cond (t3 == 0)
          (some ([.one (.int .i64 8)], []))
          (cond (inB (IntKind.wrap .i64 (t3 - 1)) t0.length)
           (cond (inB t3 t0.length)
            (cond ((nr (Abs.rowAt t0 (Int.toNat (IntKind.wrap .i64 (t3 - 1)))) 0) != (nr (Abs.rowAt t0 (Int.toNat t3)) 0))
             (some ([.one (.int .i64 8)], []))
             (cond (inB (IntKind.wrap .i64 (t3 - 1)) t0.length)
              (cond (inB t3 t0.length)
               (cond ((nr (Abs.rowAt t0 (Int.toNat (IntKind.wrap .i64 (t3 - 1)))) 1) != (IntKind.wrap .i64 ((nr (Abs.rowAt t0 (Int.toNat t3)) 1) - 1)))
                (some ([.one (.int .i64 8)], []))
                (goF E (callOf L30) F32 0 m P32_0 (M32_0 t0 (IntKind.wrap .i64 (t3 + 1)))))
               none)
              none))
            none)
           none))
         (goF E (callOf L30) F32 0 m P32_0 (M32_0 t0 (IntKind.wrap .i64 (t3 + 1)))))
        none)))
     none)
    none)
   (some ([.one (.int .i64 0)], []))) := by kernel_rfl

/- elasticstore/elasticstoreref06.EqualConfig -/
noncomputable def P19_0 : List AItem := F19.at [.snd, .snd, .fst, .snd, .sub, .head]
def M19_0 (t0 : List (List Cell)) (t1 : List (List Cell)) (t5 : Int) : St := ⟨[(0, .one (.sl false 53 t0)), (1, .one (.sl false 53 t1)), (5, .one (.int .i64 t5))], []⟩
theorem e19 (m : Nat) (c : List (List Cell)) (d : List (List Cell)) : runF E (callOf L32) (m + 1) 19 [.one (.sl false 53 c), .one (.sl false 53 d)] [] =
  (cond ((c.length : Int) != (d.length : Int))
   (some ([.one (.bool false)], []))
   (goF E (callOf L32) F19 0 m P19_0 (M19_0 c d 0))) := by kernel_rfl
theorem e19_0 (m : Nat) (t0 : List (List Cell)) (t1 : List (List Cell)) (t5 : Int) : goF E (callOf L32) F19 0 (m + 1) P19_0 (M19_0 t0 t1 t5) =
  (cond (decide (t5 < (t0.length : Int)))
   (cond (inB t5 t0.length)
    (cond (inB t5 t1.length)
     (cond (decide ((nl (Abs.rowAt t0 (Int.toNat t5)) 2).length < 9223372036854775808))
      (cond (!(eqP (nr (Abs.rowAt t0 (Int.toNat t5)) 0) (nr (Abs.rowAt t0 (Int.toNat t5)) 1) (nl (Abs.rowAt t0 (Int.toNat t5)) 2) (nr (Abs.rowAt t1 (Int.toNat t5)) 0) (nr (Abs.rowAt t1 (Int.toNat t5)) 1) (nl (Abs.rowAt t1 (Int.toNat t5)) 2)))
       (some ([.one (.bool false)], []))
       (goF E (callOf L32) F19 0 m P19_0 (M19_0 t0 t1 (IntKind.wrap .i64 (t5 + 1)))))
      none)
     none)
    none)
   (some ([.one (.bool true)], []))) := by kernel_rfl

/- elasticstore/config.Append -/
noncomputable def P51_0 : List AItem := F51.at [.snd, .snd, .fst, .snd, .sub, .head]
def M51_0 (t0 : List (List Cell)) (t5 : List (List Cell)) (t12 : List (List Cell)) (t13 : Int) (t14 : Int) : St := ⟨[(0, .one (.sl false 5 t0)), (5, .one (.sl true 5 t5)), (12, .one (.sl false 53 t12)), (13, .one (.int .i64 t13)), (14, .one (.int .i64 t14))], []⟩
theorem e51 (m : Nat) (x : List (List Cell)) (c : List (List Cell)) : runF E (callOf L19) (m + 1) 51 [.one (.sl false 5 x), .one (.sl false 53 c)] [] =
  (cond (okU (IntKind.wrap .u64 (c.length : Int)))
   (goF E (callOf L19) F51 0 m P51_0 (M51_0 x (uenc (IntKind.wrap .u64 (c.length : Int))) c (c.length : Int) 0))
   none) := by kernel_rfl
theorem e51_0 (m : Nat) (t0 : List (List Cell)) (t5 : List (List Cell)) (t12 : List (List Cell)) (t13 : Int) (t14 : Int) : goF E (callOf L19) F51 0 (m + 1) P51_0 (M51_0 t0 t5 t12 t13 t14) =
  (cond (decide (t14 < t13))
   (cond (inB t14 t12.length)
    (cond (okApp [] (nl (Abs.rowAt t12 (Int.toNat t14)) 2))
     (cond (fits (t5.length + (encP (nr (Abs.rowAt t12 (Int.toNat t14)) 0) (nr (Abs.rowAt t12 (Int.toNat t14)) 1) (nl (Abs.rowAt t12 (Int.toNat t14)) 2)).length))
      (goF E (callOf L19) F51 0 m P51_0 (M51_0 t0 (t5 ++ (encP (nr (Abs.rowAt t12 (Int.toNat t14)) 0) (nr (Abs.rowAt t12 (Int.toNat t14)) 1) (nl (Abs.rowAt t12 (Int.toNat t14)) 2))) t12 t13 (IntKind.wrap .i64 (t14 + 1))))
      none)
     none)
    none)
   (cond (inB (t0.length : Int) (t0.length + 1))
    (cond (decide ((t0.length : Int) = (t0.length : Int)))
     (cond (fits ((takeN t0 (Int.toNat (t0.length : Int))).length + t5.length))
      (some ([.one (.sl true 5 ((takeN t0 (Int.toNat (t0.length : Int))) ++ t5))], []))
      none)
     none)
    none)) := by kernel_rfl
noncomputable def P51_0_c1 : List AItem := F51.at [.snd, .snd, .fst, .snd, .sub, .head]
def M51_0_c1 (t0 : List (List Cell)) (t5 : List (List Cell)) (t12 : List (List Cell)) (t13 : Int) (t14 : Int) : St := ⟨[(0, .one (.sl true 5 t0)), (5, .one (.sl true 5 t5)), (12, .one (.sl false 53 t12)), (13, .one (.int .i64 t13)), (14, .one (.int .i64 t14))], []⟩
theorem e51_c1 (m : Nat) (c : List (List Cell)) : runF E (callOf L19) (m + 1) 51 [.one (.nils), .one (.sl false 53 c)] [] =
  (cond (okU (IntKind.wrap .u64 (c.length : Int)))
   (goF E (callOf L19) F51 0 m P51_0_c1 (M51_0_c1 ([] : List (List Cell)) (uenc (IntKind.wrap .u64 (c.length : Int))) c (c.length : Int) 0))
   none) := by kernel_rfl
theorem e51_0_c1 (m : Nat) (t0 : List (List Cell)) (t5 : List (List Cell)) (t12 : List (List Cell)) (t13 : Int) (t14 : Int) : goF E (callOf L19) F51 0 (m + 1) P51_0_c1 (M51_0_c1 t0 t5 t12 t13 t14) =
  (cond (decide (t14 < t13))
   (cond (inB t14 t12.length)
    (cond (okApp [] (nl (Abs.rowAt t12 (Int.toNat t14)) 2))
     (cond (fits (t5.length + (encP (nr (Abs.rowAt t12 (Int.toNat t14)) 0) (nr (Abs.rowAt t12 (Int.toNat t14)) 1) (nl (Abs.rowAt t12 (Int.toNat t14)) 2)).length))
      (goF E (callOf L19) F51 0 m P51_0_c1 (M51_0_c1 t0 (t5 ++ (encP (nr (Abs.rowAt t12 (Int.toNat t14)) 0) (nr (Abs.rowAt t12 (Int.toNat t14)) 1) (nl (Abs.rowAt t12 (Int.toNat t14)) 2))) t12 t13 (IntKind.wrap .i64 (t14 + 1))))
      none)
     none)
    none)
   (cond (inB (t0.length : Int) (t0.length + 1))
    (cond (decide ((t0.length : Int) = (t0.length : Int)))
     (cond (fits ((takeN t0 (Int.toNat (t0.length : Int))).length + t5.length))
      (some ([.one (.sl true 5 ((takeN t0 (Int.toNat (t0.length : Int))) ++ t5))], []))
      none)
     none)
    none)) := by kernel_rfl

/- elasticstore/elasticstoreref06.AppendConfig -/
noncomputable def P52_0 : List AItem := F52.at [.snd, .snd, .fst, .snd, .sub, .head]
def M52_0 (t0 : List (List Cell)) (t1 : List (List Cell)) (t5 : Int) : St := ⟨[(0, .one (.sl false 5 t0)), (1, .one (.sl false 53 t1)), (5, .one (.int .i64 t5))], []⟩
theorem e52 (m : Nat) (x : List (List Cell)) (c : List (List Cell)) : runF E (callOf L51) (m + 1) 52 [.one (.sl false 5 x), .one (.sl false 53 c)] [] =
  (cond (okNums x [[Cell.int .i64 (c.length : Int)]])
   (goF E (callOf L51) F52 0 m P52_0 (M52_0 (x ++ encL [[Cell.int .i64 (c.length : Int)]]) c 0))
   none) := by kernel_rfl
theorem e52_0 (m : Nat) (t0 : List (List Cell)) (t1 : List (List Cell)) (t5 : Int) : goF E (callOf L51) F52 0 (m + 1) P52_0 (M52_0 t0 t1 t5) =
  (cond (decide (t5 < (t1.length : Int)))
   (cond (inB t5 t1.length)
    (cond (okApp t0 (nl (Abs.rowAt t1 (Int.toNat t5)) 2))
     (goF E (callOf L51) F52 0 m P52_0 (M52_0 (t0 ++ encP (nr (Abs.rowAt t1 (Int.toNat t5)) 0) (nr (Abs.rowAt t1 (Int.toNat t5)) 1) (nl (Abs.rowAt t1 (Int.toNat t5)) 2)) t1 (IntKind.wrap .i64 (t5 + 1))))
     none)
    none)
   (some ([.one (.sl false 5 t0)], []))) := by kernel_rfl
noncomputable def P52_0_c1 : List AItem := F52.at [.snd, .snd, .fst, .snd, .sub, .head]
def M52_0_c1 (t0 : List (List Cell)) (t1 : List (List Cell)) (t5 : Int) : St := ⟨[(0, .one (.sl false 5 t0)), (1, .one (.sl false 53 t1)), (5, .one (.int .i64 t5))], []⟩
theorem e52_c1 (m : Nat) (c : List (List Cell)) : runF E (callOf L51) (m + 1) 52 [.one (.nils), .one (.sl false 53 c)] [] =
  (cond (okNums ([] : List (List Cell)) [[Cell.int .i64 (c.length : Int)]])
   (goF E (callOf L51) F52 0 m P52_0_c1 (M52_0_c1 (([] : List (List Cell)) ++ encL [[Cell.int .i64 (c.length : Int)]]) c 0))
   none) := by kernel_rfl
theorem e52_0_c1 (m : Nat) (t0 : List (List Cell)) (t1 : List (List Cell)) (t5 : Int) : goF E (callOf L51) F52 0 (m + 1) P52_0_c1 (M52_0_c1 t0 t1 t5) =
  (cond (decide (t5 < (t1.length : Int)))
   (cond (inB t5 t1.length)
    (cond (okApp t0 (nl (Abs.rowAt t1 (Int.toNat t5)) 2))
     (goF E (callOf L51) F52 0 m P52_0_c1 (M52_0_c1 (t0 ++ encP (nr (Abs.rowAt t1 (Int.toNat t5)) 0) (nr (Abs.rowAt t1 (Int.toNat t5)) 1) (nl (Abs.rowAt t1 (Int.toNat t5)) 2)) t1 (IntKind.wrap .i64 (t5 + 1))))
     none)
    none)
   (some ([.one (.sl false 5 t0)], []))) := by kernel_rfl

/- elasticstore/config.Decode -/
noncomputable def P49_0 : List AItem := F49.at [.snd, .snd, .snd, .snd, .snd, .fst, .snd, .sub, .head]
def M49_0 (t0 : List (List Cell)) (t6 : Int) (t8 : List (List Cell)) (t24 : Int) (t25 : Int) : St := ⟨[(0, .one (.sl false 5 t0)), (6, .one (.int .i64 t6)), (8, .one (.sl true 53 t8)), (24, .one (.int .u64 t24)), (25, .one (.int .u64 t25))], []⟩
theorem e49 (m : Nat) (x : List (List Cell)) : runF E (callOf L52) (m + 1) 49 [.one (.sl false 5 x)] [] =
  (cond (okRd x)
   (cond ((udec x).2.2 != 0)
    (some ([.one (.sl true 53 ([] : List (List Cell))), .one (.int .i64 0), .one (.int .i64 (udec x).2.2)], []))
    (cond (decide ((udec x).1 > 9))
     (some ([.one (.sl true 53 ([] : List (List Cell))), .one (.int .i64 0), .one (.int .i64 3)], []))
     (goF E (callOf L52) F49 0 m P49_0 (M49_0 x (udec x).2.1 ([] : List (List Cell)) (udec x).1 0))))
   none) := by kernel_rfl
theorem e49_0 (m : Nat) (t0 : List (List Cell)) (t6 : Int) (t8 : List (List Cell)) (t24 : Int) (t25 : Int) : goF E (callOf L52) F49 0 (m + 1) P49_0 (M49_0 t0 t6 t8 t24 t25) =
  (cond (decide (t25 < t24))
   (cond (inB t6 (t0.length + 1))
    (cond (okRd (dropN t0 (Int.toNat t6)))
     (cond ((decP (dropN t0 (Int.toNat t6))).2.2.2.2 != 0)
      (some ([.one (.sl true 53 ([] : List (List Cell))), .one (.int .i64 0), .one (.int .i64 (decP (dropN t0 (Int.toNat t6))).2.2.2.2)], []))
      (cond (fits (t8.length + [[Cell.int .i64 (decP (dropN t0 (Int.toNat t6))).1, Cell.int .i64 (decP (dropN t0 (Int.toNat t6))).2.1, Cell.slice 50 (decP (dropN t0 (Int.toNat t6))).2.2.1]].length))
       (goF E (callOf L52) F49 0 m P49_0 (M49_0 t0 (IntKind.wrap .i64 (t6 + (decP (dropN t0 (Int.toNat t6))).2.2.2.1)) (t8 ++ [[Cell.int .i64 (decP (dropN t0 (Int.toNat t6))).1, Cell.int .i64 (decP (dropN t0 (Int.toNat t6))).2.1, Cell.slice 50 (decP (dropN t0 (Int.toNat t6))).2.2.1]]) t24 (IntKind.wrap .u64 (t25 + 1))))
       none))
     none)
    none)
   (cond (okRows t8)
    (cond ((vCfg t8) != 0)
     (some ([.one (.sl true 53 ([] : List (List Cell))), .one (.int .i64 0), .one (.int .i64 (vCfg t8))], []))
     (some ([.one (.sl true 53 t8), .one (.int .i64 t6), .one (.int .i64 0)], [])))
    none)) := by kernel_rfl

/- elasticstore/elasticstoreref06.DecodeConfig -/
noncomputable def P50_0 : List AItem := F50.at [.snd, .snd, .snd, .snd, .snd, .fst, .snd, .sub, .head]
def M50_0 (t0 : List (List Cell)) (t5 : Int) (t6 : Int) (t8 : List (List Cell)) (t9 : Int) : St := ⟨[(0, .one (.sl false 5 t0)), (5, .one (.int .u64 t5)), (6, .one (.int .i64 t6)), (8, .one (.sl true 53 t8)), (9, .one (.int .i64 t9))], []⟩
theorem e50 (m : Nat) (x : List (List Cell)) : runF E (callOf L49) (m + 1) 50 [.one (.sl false 5 x)] [] =
  (cond (okRd x)
   (cond ((udec x).2.2 != 0)
    (some ([.one (.sl true 53 ([] : List (List Cell))), .one (.int .i64 0), .one (.int .i64 (udec x).2.2)], []))
    (cond (decide ((udec x).1 > 9))
     (some ([.one (.sl true 53 ([] : List (List Cell))), .one (.int .i64 0), .one (.int .i64 3)], []))
     (goF E (callOf L49) F50 0 m P50_0 (M50_0 x (udec x).1 (udec x).2.1 ([] : List (List Cell)) 0))))
   none) := by kernel_rfl
theorem e50_0 (m : Nat) (t0 : List (List Cell)) (t5 : Int) (t6 : Int) (t8 : List (List Cell)) (t9 : Int) : goF E (callOf L49) F50 0 (m + 1) P50_0 (M50_0 t0 t5 t6 t8 t9) =
  (cond (decide (t9 < (IntKind.wrap .i64 t5)))
   (cond (inB t6 (t0.length + 1))
    (cond (okRd (dropN t0 (Int.toNat t6)))
     (cond ((decP (dropN t0 (Int.toNat t6))).2.2.2.2 != 0)
      (some ([.one (.sl true 53 ([] : List (List Cell))), .one (.int .i64 0), .one (.int .i64 (decP (dropN t0 (Int.toNat t6))).2.2.2.2)], []))
      (cond (fits (t8.length + [[Cell.int .i64 (decP (dropN t0 (Int.toNat t6))).1, Cell.int .i64 (decP (dropN t0 (Int.toNat t6))).2.1, Cell.slice 50 (decP (dropN t0 (Int.toNat t6))).2.2.1]].length))
       (goF E (callOf L49) F50 0 m P50_0 (M50_0 t0 t5 (IntKind.wrap .i64 (t6 + (decP (dropN t0 (Int.toNat t6))).2.2.2.1)) (t8 ++ [[Cell.int .i64 (decP (dropN t0 (Int.toNat t6))).1, Cell.int .i64 (decP (dropN t0 (Int.toNat t6))).2.1, Cell.slice 50 (decP (dropN t0 (Int.toNat t6))).2.2.1]]) (IntKind.wrap .i64 (t9 + 1))))
       none))
     none)
    none)
   (cond (okRows t8)
    (cond ((vCfg t8) != 0)
     (some ([.one (.sl true 53 ([] : List (List Cell))), .one (.int .i64 0), .one (.int .i64 (vCfg t8))], []))
     (some ([.one (.sl true 53 t8), .one (.int .i64 t6), .one (.int .i64 0)], [])))
    none)) := by kernel_rfl

/- slices.Clone[[]elasticstore/api.Change,elasticstore/api.Change] -/
theorem e86 (m : Nat) (c : List (List Cell)) : runF E (callOf L50) (m + 1) 86 [.one (.sl false 50 c)] [] =
  (cond (isNilL c)
   none
   (cond (fits (([] : List (List Cell)).length + c.length))
    (some ([.one (.sl true 50 (([] : List (List Cell)) ++ c))], []))
    none)) := by kernel_rfl

/- elasticstore/config.clone -/
theorem e65 (m : Nat) (ap : Int) (np : Int) (cp : List (List Cell)) : runF E (callOf L86) (m + 1) 65 [.agg [.int .i64 ap, .int .i64 np, .sl false 50 cp]] [] =
  (cond (okCh cp)
   (some ([.agg [.int .i64 ap, .int .i64 np, .sl false 50 cp]], []))
   none) := by kernel_rfl

/- elasticstore/config.Union$1 -/
theorem e63 (m : Nat) (ap : Int) (np : Int) (cp : List (List Cell)) : runF E (callOf L65) (m + 1) 63 [.agg [.int .i64 ap, .int .i64 np, .sl false 50 cp]] [] =
  (some ([.one (.bool true)], [])) := by kernel_rfl

/- slices.BinarySearchFunc[elasticstore/api.Config,elasticstore/api.Proposal,elasticstore/api.Proposal] -/
noncomputable def P83_0 : List AItem := F83.at [.snd, .snd, .snd, .fst, .sub, .head]
def M83_0 (t0 : List (List Cell)) (t8 : Int) (t9 : Int) (t10 : Int) (b0 : Int) (b0_1 : Int) (b0_2 : List (List Cell)) : St := ⟨[(0, .one (.sl false 53 t0)), (2, .one (.fn 54 [])), (4, .one (.ptr 0 0)), (8, .one (.int .i64 t8)), (9, .one (.int .i64 t9)), (10, .one (.int .i64 t10))], [.var [.int .i64 b0, .int .i64 b0_1, .sl false 50 b0_2]]⟩
theorem e83 (m : Nat) (c : List (List Cell)) (ap : Int) (np : Int) (cp : List (List Cell)) : runF E (callOf L63) (m + 1) 83 [.one (.sl false 53 c), .agg [.int .i64 ap, .int .i64 np, .sl false 50 cp], .one (.fn 54 [])] [] =
  (goF E (callOf L63) F83 0 m P83_0 (M83_0 c (c.length : Int) 0 (c.length : Int) ap np cp)) := by kernel_rfl
theorem e83_0 (m : Nat) (t0 : List (List Cell)) (t8 : Int) (t9 : Int) (t10 : Int) (b0 : Int) (b0_1 : Int) (b0_2 : List (List Cell)) : goF E (callOf L63) F83 0 (m + 1) P83_0 (M83_0 t0 t8 t9 t10 b0 b0_1 b0_2) =
  (cond (decide (t9 < t10))
   (cond (inB (IntKind.wrap .i64 (shrI .u64 (IntKind.wrap .u64 (IntKind.wrap .i64 (t9 + t10))) 1)) t0.length)
    (cond (decide ((cmpP (nr (Abs.rowAt t0 (Int.toNat (IntKind.wrap .i64 (shrI .u64 (IntKind.wrap .u64 (IntKind.wrap .i64 (t9 + t10))) 1)))) 0) (nr (Abs.rowAt t0 (Int.toNat (IntKind.wrap .i64 (shrI .u64 (IntKind.wrap .u64 (IntKind.wrap .i64 (t9 + t10))) 1)))) 1) b0 b0_1) < 0))
     (goF E (callOf L63) F83 0 m P83_0 (M83_0 t0 t8 (IntKind.wrap .i64 ((IntKind.wrap .i64 (shrI .u64 (IntKind.wrap .u64 (IntKind.wrap .i64 (t9 + t10))) 1)) + 1)) t10 b0 b0_1 b0_2))
     (goF E (callOf L63) F83 0 m P83_0 (M83_0 t0 t8 t9 (IntKind.wrap .i64 (shrI .u64 (IntKind.wrap .u64 (IntKind.wrap .i64 (t9 + t10))) 1)) b0 b0_1 b0_2)))
    none)
   (cond (decide (t9 < t8))
    (cond (inB t9 t0.length)
     (some ([.one (.int .i64 t9), .one (.bool ((cmpP (nr (Abs.rowAt t0 (Int.toNat t9)) 0) (nr (Abs.rowAt t0 (Int.toNat t9)) 1) b0 b0_1) == 0))], []))
     none)
    (some ([.one (.int .i64 t9), .one (.bool false)], [])))) := by kernel_rfl

/- elasticstore/config.has -/
theorem e61 (m : Nat) (c : List (List Cell)) (ap : Int) (np : Int) (cp : List (List Cell)) : runF E (callOf L83) (m + 1) 61 [.one (.sl false 53 c), .agg [.int .i64 ap, .int .i64 np, .sl false 50 cp]] [] =
  (cond (okSrt c)
   (some ([.one (.bool (hasK c (prow ap np cp)))], []))
   none) := by kernel_rfl

end Go.Proofs.Ytdgijohgncchiaa
