/-
  What each function does at each place where a run of it may be cut: printed by a program of our own.
-/
import Derived.Test.YtaafnpmijncpeaaTab
namespace Go.Proofs.Ytaafnpmijncpeaa
open Go.Abs
set_option maxRecDepth 20000

/- elasticstore/proposal.within -/
theorem e24 (m : Nat) (n : Int) (lo : Int) (hi : Int) (u : Bool) : runF E (callOf L) (m + 1) 24 [.one (.int .i64 n), .one (.int .i64 lo), .one (.int .i64 hi), .one (.bool u)] [] =
  (cond (!u)
   (some ([.one (.bool (n == 0))], []))
   (cond (decide (n ≥ lo))
    (some ([.one (.bool (decide (n ≤ hi)))], []))
    (some ([.one (.bool false)], [])))) := by kernel_rfl

/- elasticstore/quorum.ValidateRule -/
theorem e25 (m : Nat) (k : Int) (c : Int) (f : Int) : runF E (callOf L24) (m + 1) 25 [.agg [.int .i64 k, .int .i64 c, .int .i64 f]] [] =
  (cond (k == 1)
   (cond (k == 1)
    (cond (!(c == 0))
     (some ([.one (.int .i64 9)], []))
     (cond (!(f == 0))
      (some ([.one (.int .i64 9)], []))
      (some ([.one (.int .i64 0)], []))))
    (cond (k == 3)
     (cond (decide (c ≥ 1))
      (cond (!(decide (c ≤ 12)))
       (some ([.one (.int .i64 9)], []))
       (cond (!(f == 0))
        (some ([.one (.int .i64 9)], []))
        (some ([.one (.int .i64 0)], []))))
      (some ([.one (.int .i64 9)], [])))
     (cond (k == 4)
      (cond (decide (f ≥ 0))
       (cond (!(c == 0))
        (some ([.one (.int .i64 9)], []))
        (cond (!(decide (f ≤ 12)))
         (some ([.one (.int .i64 9)], []))
         (some ([.one (.int .i64 0)], []))))
       (cond (!(c == 0))
        (some ([.one (.int .i64 9)], []))
        (some ([.one (.int .i64 9)], []))))
      (some ([.one (.int .i64 10)], [])))))
   (cond (k == 2)
    (cond (!(c == 0))
     (some ([.one (.int .i64 9)], []))
     (cond (!(f == 0))
      (some ([.one (.int .i64 9)], []))
      (some ([.one (.int .i64 0)], []))))
    (cond (k == 3)
     (cond (decide (c ≥ 1))
      (cond (!(decide (c ≤ 12)))
       (some ([.one (.int .i64 9)], []))
       (cond (!(f == 0))
        (some ([.one (.int .i64 9)], []))
        (some ([.one (.int .i64 0)], []))))
      (some ([.one (.int .i64 9)], [])))
     (cond (k == 4)
      (cond (decide (f ≥ 0))
       (cond (!(c == 0))
        (some ([.one (.int .i64 9)], []))
        (cond (!(decide (f ≤ 12)))
         (some ([.one (.int .i64 9)], []))
         (some ([.one (.int .i64 0)], []))))
       (cond (!(c == 0))
        (some ([.one (.int .i64 9)], []))
        (some ([.one (.int .i64 9)], []))))
      (some ([.one (.int .i64 10)], [])))))) := by kernel_rfl

/- elasticstore/elasticstoreref06.Server -/
theorem e26 (m : Nat) (n : Int) : runF E (callOf L25) (m + 1) 26 [.one (.int .i64 n)] [] =
  (cond (decide (n ≥ 1))
   (some ([.one (.bool (decide (n ≤ 12)))], []))
   (some ([.one (.bool false)], []))) := by kernel_rfl

/- elasticstore/elasticstoreref06.Admin -/
theorem e28 (m : Nat) (n : Int) : runF E (callOf L26) (m + 1) 28 [.one (.int .i64 n)] [] =
  (cond (decide (n ≥ 201))
   (some ([.one (.bool (decide (n < 204)))], []))
   (some ([.one (.bool false)], []))) := by kernel_rfl

/- elasticstore/elasticstoreref06.ValidateRule -/
theorem e27 (m : Nat) (k : Int) (c : Int) (f : Int) : runF E (callOf L28) (m + 1) 27 [.agg [.int .i64 k, .int .i64 c, .int .i64 f]] [] =
  (cond (decide (k < 1))
   (some ([.one (.int .i64 10)], []))
   (cond (decide (k > 4))
    (some ([.one (.int .i64 10)], []))
    (cond (k == 3)
     (cond (!(isServer c))
      (some ([.one (.int .i64 9)], []))
      (cond (k != 3)
       (cond (c != 0)
        (some ([.one (.int .i64 9)], []))
        (cond (k == 4)
         (cond (decide (f < 0))
          (some ([.one (.int .i64 9)], []))
          (cond (decide (f > 12))
           (some ([.one (.int .i64 9)], []))
           (cond (k != 4)
            (cond (f != 0)
             (some ([.one (.int .i64 9)], []))
             (some ([.one (.int .i64 0)], [])))
            (some ([.one (.int .i64 0)], [])))))
         (cond (k != 4)
          (cond (f != 0)
           (some ([.one (.int .i64 9)], []))
           (some ([.one (.int .i64 0)], [])))
          (some ([.one (.int .i64 0)], [])))))
       (cond (k == 4)
        (cond (decide (f < 0))
         (some ([.one (.int .i64 9)], []))
         (cond (decide (f > 12))
          (some ([.one (.int .i64 9)], []))
          (cond (k != 4)
           (cond (f != 0)
            (some ([.one (.int .i64 9)], []))
            (some ([.one (.int .i64 0)], [])))
           (some ([.one (.int .i64 0)], [])))))
        (cond (k != 4)
         (cond (f != 0)
          (some ([.one (.int .i64 9)], []))
          (some ([.one (.int .i64 0)], [])))
         (some ([.one (.int .i64 0)], []))))))
     (cond (k != 3)
      (cond (c != 0)
       (some ([.one (.int .i64 9)], []))
       (cond (k == 4)
        (cond (decide (f < 0))
         (some ([.one (.int .i64 9)], []))
         (cond (decide (f > 12))
          (some ([.one (.int .i64 9)], []))
          (cond (k != 4)
           (cond (f != 0)
            (some ([.one (.int .i64 9)], []))
            (some ([.one (.int .i64 0)], [])))
           (some ([.one (.int .i64 0)], [])))))
        (cond (k != 4)
         (cond (f != 0)
          (some ([.one (.int .i64 9)], []))
          (some ([.one (.int .i64 0)], [])))
         (some ([.one (.int .i64 0)], [])))))
      (cond (k == 4)
       (cond (decide (f < 0))
        (some ([.one (.int .i64 9)], []))
        (cond (decide (f > 12))
         (some ([.one (.int .i64 9)], []))
         (cond (k != 4)
          (cond (f != 0)
           (some ([.one (.int .i64 9)], []))
           (some ([.one (.int .i64 0)], [])))
          (some ([.one (.int .i64 0)], [])))))
       (cond (k != 4)
        (cond (f != 0)
         (some ([.one (.int .i64 9)], []))
         (some ([.one (.int .i64 0)], [])))
        (some ([.one (.int .i64 0)], [])))))))) := by kernel_rfl

/- elasticstore/proposal.ValidateChange -/
theorem e10 (m : Nat) (k : Int) (s : Int) (w : Int) (v : Int) (rk : Int) (rc : Int) (rf : Int) : runF E (callOf L27) (m + 1) 10 [.agg [.int .i64 k, .int .i64 s, .int .i64 w, .int .i64 v, .int .i64 rk, .int .i64 rc, .int .i64 rf]] [] =
  (cond (decide (k < 1))
   (some ([.one (.int .i64 10)], []))
   (cond (decide (k > 4))
    (some ([.one (.int .i64 10)], []))
    (cond (k == 1)
     (cond (k == 3)
      (cond (!(within s 1 12 (!(k == 4))))
       (some ([.one (.int .i64 9)], []))
       (cond (!(within w 1 9 true))
        (some ([.one (.int .i64 9)], []))
        (cond (!(within v 1 1000 true))
         (some ([.one (.int .i64 9)], []))
         (cond (k == 4)
          (some ([.one (.int .i64 (vRule rk rc rf))], []))
          (cond (!((rk == 0) && ((rc == 0) && ((rf == 0) && true))))
           (some ([.one (.int .i64 2)], []))
           (some ([.one (.int .i64 0)], [])))))))
      (cond (!(within s 1 12 (!(k == 4))))
       (some ([.one (.int .i64 9)], []))
       (cond (!(within w 1 9 true))
        (some ([.one (.int .i64 9)], []))
        (cond (!(within v 1 1000 (k == 4)))
         (some ([.one (.int .i64 9)], []))
         (cond (k == 4)
          (some ([.one (.int .i64 (vRule rk rc rf))], []))
          (cond (!((rk == 0) && ((rc == 0) && ((rf == 0) && true))))
           (some ([.one (.int .i64 2)], []))
           (some ([.one (.int .i64 0)], []))))))))
     (cond (k == 3)
      (cond (!(within s 1 12 (!(k == 4))))
       (some ([.one (.int .i64 9)], []))
       (cond (!(within w 1 9 (k == 3)))
        (some ([.one (.int .i64 9)], []))
        (cond (!(within v 1 1000 true))
         (some ([.one (.int .i64 9)], []))
         (cond (k == 4)
          (some ([.one (.int .i64 (vRule rk rc rf))], []))
          (cond (!((rk == 0) && ((rc == 0) && ((rf == 0) && true))))
           (some ([.one (.int .i64 2)], []))
           (some ([.one (.int .i64 0)], [])))))))
      (cond (!(within s 1 12 (!(k == 4))))
       (some ([.one (.int .i64 9)], []))
       (cond (!(within w 1 9 (k == 3)))
        (some ([.one (.int .i64 9)], []))
        (cond (!(within v 1 1000 (k == 4)))
         (some ([.one (.int .i64 9)], []))
         (cond (k == 4)
          (some ([.one (.int .i64 (vRule rk rc rf))], []))
          (cond (!((rk == 0) && ((rc == 0) && ((rf == 0) && true))))
           (some ([.one (.int .i64 2)], []))
           (some ([.one (.int .i64 0)], []))))))))))) := by kernel_rfl

/- elasticstore/elasticstoreref06.ValidateChange -/
noncomputable def P11_0 : List AItem := F11.at [.snd, .snd, .fst, .sub, .snd]
def M11_0 (t3 : Bool) (t4 : Bool) (t5 : Bool) (t6 : Bool) (t19 : Bool) (b0 : Int) (b0_1 : Int) (b0_2 : Int) (b0_3 : Int) (b0_4 : Int) (b0_5 : Int) (b0_6 : Int) : St := ⟨[(1, .one (.ptr 0 0)), (3, .one (.bool t3)), (4, .one (.bool t4)), (5, .one (.bool t5)), (6, .one (.bool t6)), (19, .one (.bool t19))], [.var [.int .i64 b0, .int .i64 b0_1, .int .i64 b0_2, .int .i64 b0_3, .int .i64 b0_4, .int .i64 b0_5, .int .i64 b0_6]]⟩
noncomputable def P11_1 : List AItem := F11.at [.snd, .snd, .fst, .sub, .snd, .snd, .snd]
def M11_1 (t3 : Bool) (t4 : Bool) (t5 : Bool) (t6 : Bool) (t34 : Bool) (b0 : Int) (b0_1 : Int) (b0_2 : Int) (b0_3 : Int) (b0_4 : Int) (b0_5 : Int) (b0_6 : Int) : St := ⟨[(1, .one (.ptr 0 0)), (3, .one (.bool t3)), (4, .one (.bool t4)), (5, .one (.bool t5)), (6, .one (.bool t6)), (34, .one (.bool t34))], [.var [.int .i64 b0, .int .i64 b0_1, .int .i64 b0_2, .int .i64 b0_3, .int .i64 b0_4, .int .i64 b0_5, .int .i64 b0_6]]⟩
noncomputable def P11_2 : List AItem := F11.at [.snd, .snd, .fst, .sub, .snd, .snd, .snd, .snd, .snd]
def M11_2 (t3 : Bool) (t4 : Bool) (t5 : Bool) (t6 : Bool) (t51 : Bool) (b0 : Int) (b0_1 : Int) (b0_2 : Int) (b0_3 : Int) (b0_4 : Int) (b0_5 : Int) (b0_6 : Int) : St := ⟨[(1, .one (.ptr 0 0)), (3, .one (.bool t3)), (4, .one (.bool t4)), (5, .one (.bool t5)), (6, .one (.bool t6)), (51, .one (.bool t51))], [.var [.int .i64 b0, .int .i64 b0_1, .int .i64 b0_2, .int .i64 b0_3, .int .i64 b0_4, .int .i64 b0_5, .int .i64 b0_6]]⟩
noncomputable def P11_3 : List AItem := F11.at [.snd, .snd, .fst, .sub, .snd, .snd, .snd, .snd, .snd, .snd, .snd]
def M11_3 (t6 : Bool) (t77 : Bool) (b0 : Int) (b0_1 : Int) (b0_2 : Int) (b0_3 : Int) (b0_4 : Int) (b0_5 : Int) (b0_6 : Int) : St := ⟨[(1, .one (.ptr 0 0)), (6, .one (.bool t6)), (77, .one (.bool t77))], [.var [.int .i64 b0, .int .i64 b0_1, .int .i64 b0_2, .int .i64 b0_3, .int .i64 b0_4, .int .i64 b0_5, .int .i64 b0_6]]⟩
noncomputable def P11_4 : List AItem := F11.at [.snd, .snd, .snd]
def M11_4  : St := ⟨[], []⟩
theorem e11 (m : Nat) (k : Int) (s : Int) (w : Int) (v : Int) (rk : Int) (rc : Int) (rf : Int) : runF E (callOf L10) (m + 1) 11 [.agg [.int .i64 k, .int .i64 s, .int .i64 w, .int .i64 v, .int .i64 rk, .int .i64 rc, .int .i64 rf]] [] =
  (cond (!(k == 1))
   (cond (!(k == 2))
    (cond (!(k == 3))
     (goF E (callOf L10) F11 0 m P11_0 (M11_0 (k == 1) (k == 2) (k == 3) (k == 4) (!(k == 4)) k s w v rk rc rf))
     (goF E (callOf L10) F11 0 m P11_0 (M11_0 (k == 1) (k == 2) (k == 3) (k == 4) false k s w v rk rc rf)))
    (goF E (callOf L10) F11 0 m P11_0 (M11_0 (k == 1) (k == 2) (k == 3) (k == 4) false k s w v rk rc rf)))
   (goF E (callOf L10) F11 0 m P11_0 (M11_0 (k == 1) (k == 2) (k == 3) (k == 4) false k s w v rk rc rf))) := by kernel_rfl
theorem e11_0 (m : Nat) (t3 : Bool) (t4 : Bool) (t5 : Bool) (t6 : Bool) (t19 : Bool) (b0 : Int) (b0_1 : Int) (b0_2 : Int) (b0_3 : Int) (b0_4 : Int) (b0_5 : Int) (b0_6 : Int) : goF E (callOf L10) F11 0 (m + 1) P11_0 (M11_0 t3 t4 t5 t6 t19 b0 b0_1 b0_2 b0_3 b0_4 b0_5 b0_6) =
  (cond t19
   (some ([.one (.int .i64 10)], []))
   (cond (!t6)
    (cond (!(isServer b0_1))
     (goF E (callOf L10) F11 0 m P11_1 (M11_1 t3 t4 t5 t6 true b0 b0_1 b0_2 b0_3 b0_4 b0_5 b0_6))
     (cond t6
      (goF E (callOf L10) F11 0 m P11_1 (M11_1 t3 t4 t5 t6 (b0_1 != 0) b0 b0_1 b0_2 b0_3 b0_4 b0_5 b0_6))
      (goF E (callOf L10) F11 0 m P11_1 (M11_1 t3 t4 t5 t6 false b0 b0_1 b0_2 b0_3 b0_4 b0_5 b0_6))))
    (cond t6
     (goF E (callOf L10) F11 0 m P11_1 (M11_1 t3 t4 t5 t6 (b0_1 != 0) b0 b0_1 b0_2 b0_3 b0_4 b0_5 b0_6))
     (goF E (callOf L10) F11 0 m P11_1 (M11_1 t3 t4 t5 t6 false b0 b0_1 b0_2 b0_3 b0_4 b0_5 b0_6))))) := by kernel_rfl
theorem e11_1 (m : Nat) (t3 : Bool) (t4 : Bool) (t5 : Bool) (t6 : Bool) (t34 : Bool) (b0 : Int) (b0_1 : Int) (b0_2 : Int) (b0_3 : Int) (b0_4 : Int) (b0_5 : Int) (b0_6 : Int) : goF E (callOf L10) F11 0 (m + 1) P11_1 (M11_1 t3 t4 t5 t6 t34 b0 b0_1 b0_2 b0_3 b0_4 b0_5 b0_6) =
  (cond t34
   (some ([.one (.int .i64 9)], []))
   (cond t3
    (cond (decide (b0_2 < 1))
     (goF E (callOf L10) F11 0 m P11_2 (M11_2 t3 t4 t5 t6 true b0 b0_1 b0_2 b0_3 b0_4 b0_5 b0_6))
     (cond (decide (b0_2 > 9))
      (goF E (callOf L10) F11 0 m P11_2 (M11_2 t3 t4 t5 t6 true b0 b0_1 b0_2 b0_3 b0_4 b0_5 b0_6))
      (cond t4
       (goF E (callOf L10) F11 0 m P11_2 (M11_2 t3 t4 t5 t6 (b0_2 != 0) b0 b0_1 b0_2 b0_3 b0_4 b0_5 b0_6))
       (cond t6
        (goF E (callOf L10) F11 0 m P11_2 (M11_2 t3 t4 t5 t6 (b0_2 != 0) b0 b0_1 b0_2 b0_3 b0_4 b0_5 b0_6))
        (goF E (callOf L10) F11 0 m P11_2 (M11_2 t3 t4 t5 t6 false b0 b0_1 b0_2 b0_3 b0_4 b0_5 b0_6))))))
    (cond t5
     (cond (decide (b0_2 < 1))
      (goF E (callOf L10) F11 0 m P11_2 (M11_2 t3 t4 t5 t6 true b0 b0_1 b0_2 b0_3 b0_4 b0_5 b0_6))
      (cond (decide (b0_2 > 9))
       (goF E (callOf L10) F11 0 m P11_2 (M11_2 t3 t4 t5 t6 true b0 b0_1 b0_2 b0_3 b0_4 b0_5 b0_6))
       (cond t4
        (goF E (callOf L10) F11 0 m P11_2 (M11_2 t3 t4 t5 t6 (b0_2 != 0) b0 b0_1 b0_2 b0_3 b0_4 b0_5 b0_6))
        (cond t6
         (goF E (callOf L10) F11 0 m P11_2 (M11_2 t3 t4 t5 t6 (b0_2 != 0) b0 b0_1 b0_2 b0_3 b0_4 b0_5 b0_6))
         (goF E (callOf L10) F11 0 m P11_2 (M11_2 t3 t4 t5 t6 false b0 b0_1 b0_2 b0_3 b0_4 b0_5 b0_6))))))
     (cond t4
      (goF E (callOf L10) F11 0 m P11_2 (M11_2 t3 t4 t5 t6 (b0_2 != 0) b0 b0_1 b0_2 b0_3 b0_4 b0_5 b0_6))
      (cond t6
       (goF E (callOf L10) F11 0 m P11_2 (M11_2 t3 t4 t5 t6 (b0_2 != 0) b0 b0_1 b0_2 b0_3 b0_4 b0_5 b0_6))
       (goF E (callOf L10) F11 0 m P11_2 (M11_2 t3 t4 t5 t6 false b0 b0_1 b0_2 b0_3 b0_4 b0_5 b0_6))))))) := by kernel_rfl
theorem e11_2 (m : Nat) (t3 : Bool) (t4 : Bool) (t5 : Bool) (t6 : Bool) (t51 : Bool) (b0 : Int) (b0_1 : Int) (b0_2 : Int) (b0_3 : Int) (b0_4 : Int) (b0_5 : Int) (b0_6 : Int) : goF E (callOf L10) F11 0 (m + 1) P11_2 (M11_2 t3 t4 t5 t6 t51 b0 b0_1 b0_2 b0_3 b0_4 b0_5 b0_6) =
  (cond t51
   (some ([.one (.int .i64 9)], []))
   (cond t5
    (cond (decide (b0_3 < 1))
     (goF E (callOf L10) F11 0 m P11_3 (M11_3 t6 true b0 b0_1 b0_2 b0_3 b0_4 b0_5 b0_6))
     (cond (decide (b0_3 > 1000))
      (goF E (callOf L10) F11 0 m P11_3 (M11_3 t6 true b0 b0_1 b0_2 b0_3 b0_4 b0_5 b0_6))
      (cond t3
       (goF E (callOf L10) F11 0 m P11_3 (M11_3 t6 (b0_3 != 0) b0 b0_1 b0_2 b0_3 b0_4 b0_5 b0_6))
       (cond t4
        (goF E (callOf L10) F11 0 m P11_3 (M11_3 t6 (b0_3 != 0) b0 b0_1 b0_2 b0_3 b0_4 b0_5 b0_6))
        (goF E (callOf L10) F11 0 m P11_3 (M11_3 t6 false b0 b0_1 b0_2 b0_3 b0_4 b0_5 b0_6))))))
    (cond t6
     (cond (decide (b0_3 < 1))
      (goF E (callOf L10) F11 0 m P11_3 (M11_3 t6 true b0 b0_1 b0_2 b0_3 b0_4 b0_5 b0_6))
      (cond (decide (b0_3 > 1000))
       (goF E (callOf L10) F11 0 m P11_3 (M11_3 t6 true b0 b0_1 b0_2 b0_3 b0_4 b0_5 b0_6))
       (cond t3
        (goF E (callOf L10) F11 0 m P11_3 (M11_3 t6 (b0_3 != 0) b0 b0_1 b0_2 b0_3 b0_4 b0_5 b0_6))
        (cond t4
         (goF E (callOf L10) F11 0 m P11_3 (M11_3 t6 (b0_3 != 0) b0 b0_1 b0_2 b0_3 b0_4 b0_5 b0_6))
         (goF E (callOf L10) F11 0 m P11_3 (M11_3 t6 false b0 b0_1 b0_2 b0_3 b0_4 b0_5 b0_6))))))
     (cond t3
      (goF E (callOf L10) F11 0 m P11_3 (M11_3 t6 (b0_3 != 0) b0 b0_1 b0_2 b0_3 b0_4 b0_5 b0_6))
      (cond t4
       (goF E (callOf L10) F11 0 m P11_3 (M11_3 t6 (b0_3 != 0) b0 b0_1 b0_2 b0_3 b0_4 b0_5 b0_6))
       (goF E (callOf L10) F11 0 m P11_3 (M11_3 t6 false b0 b0_1 b0_2 b0_3 b0_4 b0_5 b0_6))))))) := by kernel_rfl
theorem e11_3 (m : Nat) (t6 : Bool) (t77 : Bool) (b0 : Int) (b0_1 : Int) (b0_2 : Int) (b0_3 : Int) (b0_4 : Int) (b0_5 : Int) (b0_6 : Int) : goF E (callOf L10) F11 0 (m + 1) P11_3 (M11_3 t6 t77 b0 b0_1 b0_2 b0_3 b0_4 b0_5 b0_6) =
  (cond t77
   (some ([.one (.int .i64 9)], []))
   (cond t6
    (some ([.one (.int .i64 (vRule b0_4 b0_5 b0_6))], []))
    (cond (!((b0_4 == 0) && ((b0_5 == 0) && ((b0_6 == 0) && true))))
     (some ([.one (.int .i64 2)], []))
     (goF E (callOf L10) F11 0 m P11_4 (M11_4 ))))) := by kernel_rfl
theorem e11_4 (m : Nat)  : goF E (callOf L10) F11 0 (m + 1) P11_4 (M11_4 ) =
  (some ([.one (.int .i64 0)], [])) := by kernel_rfl

/- elasticstore/proposal.Validate -/
noncomputable def P13_0 : List AItem := F13.at [.snd, .snd, .fst, .snd, .sub, .head]
def M13_0 (t38 : List (List Cell)) (t39 : Int) (t40 : Int) (b0 : Int) (b0_1 : Int) (b0_2 : List (List Cell)) : St := ⟨[(1, .one (.ptr 0 0)), (38, .one (.sl false 25 t38)), (39, .one (.int .i64 t39)), (40, .one (.int .i64 t40))], [.var [.int .i64 b0, .int .i64 b0_1, .sl false 25 b0_2]]⟩
noncomputable def P13_1 : List AItem := F13.at [.snd, .snd, .fst, .snd, .sub, .body, .snd, .snd, .fst, .sub, .snd, .snd, .snd, .sub, .head]
def M13_1 (t38 : List (List Cell)) (t39 : Int) (t40 : Int) (t53 : List (List Cell)) (t54 : Int) (t55 : Int) (b0 : Int) (b0_1 : Int) (b0_2 : List (List Cell)) (b1 : Int) (b1_1 : Int) (b1_2 : Int) (b1_3 : Int) (b1_4 : Int) (b1_5 : Int) (b1_6 : Int) : St := ⟨[(1, .one (.ptr 0 0)), (4, .one (.ptr 1 0)), (38, .one (.sl false 25 t38)), (39, .one (.int .i64 t39)), (40, .one (.int .i64 t40)), (53, .one (.sl false 25 t53)), (54, .one (.int .i64 t54)), (55, .one (.int .i64 t55))], [.var [.int .i64 b0, .int .i64 b0_1, .sl false 25 b0_2], .var [.int .i64 b1, .int .i64 b1_1, .int .i64 b1_2, .int .i64 b1_3, .int .i64 b1_4, .int .i64 b1_5, .int .i64 b1_6]]⟩
theorem e13 (m : Nat) (ap : Int) (np : Int) (cp : List (List Cell)) : runF E (callOf L11) (m + 1) 13 [.agg [.int .i64 ap, .int .i64 np, .sl false 25 cp]] [] =
  (cond (decide (ap < 201))
   (some ([.one (.int .i64 9)], []))
   (cond (decide (ap ≥ 204))
    (some ([.one (.int .i64 9)], []))
    (cond (decide (np < 1))
     (some ([.one (.int .i64 9)], []))
     (cond (decide (np > 3))
      (some ([.one (.int .i64 9)], []))
      (cond ((cp.length : Int) == 0)
       (some ([.one (.int .i64 2)], []))
       (cond (decide ((cp.length : Int) > 6))
        (some ([.one (.int .i64 3)], []))
        (goF E (callOf L11) F13 0 m P13_0 (M13_0 cp (cp.length : Int) 0 ap np cp)))))))) := by kernel_rfl
theorem e13_0 (m : Nat) (t38 : List (List Cell)) (t39 : Int) (t40 : Int) (b0 : Int) (b0_1 : Int) (b0_2 : List (List Cell)) : goF E (callOf L11) F13 0 (m + 1) P13_0 (M13_0 t38 t39 t40 b0 b0_1 b0_2) =
  (cond (decide (t40 < t39))
   (cond (inB t40 t38.length)
    (cond ((vChange (nr (Abs.rowAt t38 (Int.toNat t40)) 0) (nr (Abs.rowAt t38 (Int.toNat t40)) 1) (nr (Abs.rowAt t38 (Int.toNat t40)) 2) (nr (Abs.rowAt t38 (Int.toNat t40)) 3) (nr (Abs.rowAt t38 (Int.toNat t40)) 4) (nr (Abs.rowAt t38 (Int.toNat t40)) 5) (nr (Abs.rowAt t38 (Int.toNat t40)) 6)) != 0)
     (some ([.one (.int .i64 (vChange (nr (Abs.rowAt t38 (Int.toNat t40)) 0) (nr (Abs.rowAt t38 (Int.toNat t40)) 1) (nr (Abs.rowAt t38 (Int.toNat t40)) 2) (nr (Abs.rowAt t38 (Int.toNat t40)) 3) (nr (Abs.rowAt t38 (Int.toNat t40)) 4) (nr (Abs.rowAt t38 (Int.toNat t40)) 5) (nr (Abs.rowAt t38 (Int.toNat t40)) 6)))], []))
     (cond (inB t40 (b0_2.length + 1))
      (goF E (callOf L11) F13 0 m P13_1 (M13_1 t38 t39 t40 (takeN b0_2 (Int.toNat t40)) ((takeN b0_2 (Int.toNat t40)).length : Int) 0 b0 b0_1 b0_2 (nr (Abs.rowAt t38 (Int.toNat t40)) 0) (nr (Abs.rowAt t38 (Int.toNat t40)) 1) (nr (Abs.rowAt t38 (Int.toNat t40)) 2) (nr (Abs.rowAt t38 (Int.toNat t40)) 3) (nr (Abs.rowAt t38 (Int.toNat t40)) 4) (nr (Abs.rowAt t38 (Int.toNat t40)) 5) (nr (Abs.rowAt t38 (Int.toNat t40)) 6)))
      none))
    none)
   (some ([.one (.int .i64 0)], []))) := by kernel_rfl
theorem e13_1 (m : Nat) (t38 : List (List Cell)) (t39 : Int) (t40 : Int) (t53 : List (List Cell)) (t54 : Int) (t55 : Int) (b0 : Int) (b0_1 : Int) (b0_2 : List (List Cell)) (b1 : Int) (b1_1 : Int) (b1_2 : Int) (b1_3 : Int) (b1_4 : Int) (b1_5 : Int) (b1_6 : Int) : goF E (callOf L11) F13 0 (m + 1) P13_1 (M13_1 t38 t39 t40 t53 t54 t55 b0 b0_1 b0_2 b1 b1_1 b1_2 b1_3 b1_4 b1_5 b1_6) =
  (cond (decide (t55 < t54))
   (cond (inB t55 t53.length)
    (cond ((nr (Abs.rowAt t53 (Int.toNat t55)) 0) == b1)
     (cond ((nr (Abs.rowAt t53 (Int.toNat t55)) 1) == b1_1)
      (some ([.one (.int .i64 5)], []))
      (goF E (callOf L11) F13 0 m P13_1 (M13_1 t38 t39 t40 t53 t54 (IntKind.wrap .i64 (t55 + 1)) b0 b0_1 b0_2 b1 b1_1 b1_2 b1_3 b1_4 b1_5 b1_6)))
     (goF E (callOf L11) F13 0 m P13_1 (M13_1 t38 t39 t40 t53 t54 (IntKind.wrap .i64 (t55 + 1)) b0 b0_1 b0_2 b1 b1_1 b1_2 b1_3 b1_4 b1_5 b1_6)))
    none)
   (goF E (callOf L11) F13 0 m P13_0 (M13_0 t38 t39 (IntKind.wrap .i64 (t40 + 1)) b0 b0_1 b0_2))) := by kernel_rfl

/- elasticstore/elasticstoreref06.ValidateProposal -/
noncomputable def P14_0 : List AItem := F14.at [.snd, .fst, .sub, .snd]
def M14_0 (t6 : Bool) (b0 : Int) (b0_1 : Int) (b0_2 : List (List Cell)) : St := ⟨[(1, .one (.ptr 0 0)), (6, .one (.bool t6))], [.var [.int .i64 b0, .int .i64 b0_1, .sl false 25 b0_2]]⟩
noncomputable def P14_1 : List AItem := F14.at [.snd, .snd]
def M14_1 (b0 : Int) (b0_1 : Int) (b0_2 : List (List Cell)) : St := ⟨[(1, .one (.ptr 0 0))], [.var [.int .i64 b0, .int .i64 b0_1, .sl false 25 b0_2]]⟩
noncomputable def P14_2 : List AItem := F14.at [.snd, .snd, .fst, .snd, .sub, .head]
def M14_2 (t3 : Int) (b0 : Int) (b0_1 : Int) (b0_2 : List (List Cell)) : St := ⟨[(1, .one (.ptr 0 0)), (3, .one (.int .i64 t3))], [.var [.int .i64 b0, .int .i64 b0_1, .sl false 25 b0_2]]⟩
noncomputable def P14_3 : List AItem := F14.at [.snd, .snd, .fst, .snd, .sub, .body, .snd]
def M14_3 (t3 : Int) (b0 : Int) (b0_1 : Int) (b0_2 : List (List Cell)) : St := ⟨[(1, .one (.ptr 0 0)), (3, .one (.int .i64 t3))], [.var [.int .i64 b0, .int .i64 b0_1, .sl false 25 b0_2]]⟩
noncomputable def P14_4 : List AItem := F14.at [.snd, .snd, .snd]
def M14_4  : St := ⟨[], []⟩
noncomputable def P14_5 : List AItem := F14.at [.snd, .snd, .fst, .snd, .sub, .body, .snd, .fst, .sub, .snd]
def M14_5 (t3 : Int) (b0 : Int) (b0_1 : Int) (b0_2 : List (List Cell)) : St := ⟨[(1, .one (.ptr 0 0)), (3, .one (.int .i64 t3))], [.var [.int .i64 b0, .int .i64 b0_1, .sl false 25 b0_2]]⟩
noncomputable def P14_6 : List AItem := F14.at [.snd, .snd, .fst, .snd, .sub, .body, .snd, .fst, .sub, .snd, .snd, .sub, .head]
def M14_6 (t3 : Int) (t5 : Int) (b0 : Int) (b0_1 : Int) (b0_2 : List (List Cell)) : St := ⟨[(1, .one (.ptr 0 0)), (3, .one (.int .i64 t3)), (5, .one (.int .i64 t5))], [.var [.int .i64 b0, .int .i64 b0_1, .sl false 25 b0_2]]⟩
noncomputable def P14_7 : List AItem := F14.at [.snd, .snd, .fst, .snd, .sub, .body, .snd, .fst, .sub, .snd, .snd, .sub, .body, .snd]
def M14_7 (t3 : Int) (t5 : Int) (b0 : Int) (b0_1 : Int) (b0_2 : List (List Cell)) : St := ⟨[(1, .one (.ptr 0 0)), (3, .one (.int .i64 t3)), (5, .one (.int .i64 t5))], [.var [.int .i64 b0, .int .i64 b0_1, .sl false 25 b0_2]]⟩
noncomputable def P14_8 : List AItem := F14.at [.snd, .snd, .fst, .snd, .sub, .body, .snd, .snd]
def M14_8 (t3 : Int) (b0 : Int) (b0_1 : Int) (b0_2 : List (List Cell)) : St := ⟨[(1, .one (.ptr 0 0)), (3, .one (.int .i64 t3))], [.var [.int .i64 b0, .int .i64 b0_1, .sl false 25 b0_2]]⟩
noncomputable def P14_9 : List AItem := F14.at [.snd, .snd, .fst, .snd, .sub, .body, .snd, .fst, .sub, .snd, .snd, .sub, .body, .snd, .fst, .sub, .snd]
def M14_9 (t3 : Int) (t5 : Int) (t79 : Bool) (b0 : Int) (b0_1 : Int) (b0_2 : List (List Cell)) : St := ⟨[(1, .one (.ptr 0 0)), (3, .one (.int .i64 t3)), (5, .one (.int .i64 t5)), (79, .one (.bool t79))], [.var [.int .i64 b0, .int .i64 b0_1, .sl false 25 b0_2]]⟩
noncomputable def P14_10 : List AItem := F14.at [.snd, .snd, .fst, .snd, .sub, .body, .snd, .fst, .sub, .snd, .snd, .sub, .body, .snd, .snd]
def M14_10 (t3 : Int) (t5 : Int) (b0 : Int) (b0_1 : Int) (b0_2 : List (List Cell)) : St := ⟨[(1, .one (.ptr 0 0)), (3, .one (.int .i64 t3)), (5, .one (.int .i64 t5))], [.var [.int .i64 b0, .int .i64 b0_1, .sl false 25 b0_2]]⟩
theorem e14 (m : Nat) (ap : Int) (np : Int) (cp : List (List Cell)) : runF E (callOf L13) (m + 1) 14 [.agg [.int .i64 ap, .int .i64 np, .sl false 25 cp]] [] =
  (cond (!(isAdmin ap))
   (goF E (callOf L13) F14 0 m P14_0 (M14_0 true ap np cp))
   (cond (decide (np < 1))
    (goF E (callOf L13) F14 0 m P14_0 (M14_0 true ap np cp))
    (goF E (callOf L13) F14 0 m P14_0 (M14_0 (decide (np > 3)) ap np cp)))) := by kernel_rfl
theorem e14_0 (m : Nat) (t6 : Bool) (b0 : Int) (b0_1 : Int) (b0_2 : List (List Cell)) : goF E (callOf L13) F14 0 (m + 1) P14_0 (M14_0 t6 b0 b0_1 b0_2) =
  (cond t6
   (some ([.one (.int .i64 9)], []))
   (cond ((b0_2.length : Int) == 0)
    (some ([.one (.int .i64 2)], []))
    (cond (decide ((b0_2.length : Int) > 6))
     (some ([.one (.int .i64 3)], []))
     (goF E (callOf L13) F14 0 m P14_1 (M14_1 b0 b0_1 b0_2))))) := by kernel_rfl
theorem e14_1 (m : Nat) (b0 : Int) (b0_1 : Int) (b0_2 : List (List Cell)) : goF E (callOf L13) F14 0 (m + 1) P14_1 (M14_1 b0 b0_1 b0_2) =
  (goF E (callOf L13) F14 0 m P14_2 (M14_2 0 b0 b0_1 b0_2)) := by kernel_rfl
theorem e14_2 (m : Nat) (t3 : Int) (b0 : Int) (b0_1 : Int) (b0_2 : List (List Cell)) : goF E (callOf L13) F14 0 (m + 1) P14_2 (M14_2 t3 b0 b0_1 b0_2) =
  (cond (decide (t3 < (b0_2.length : Int)))
   (goF E (callOf L13) F14 0 m P14_3 (M14_3 t3 b0 b0_1 b0_2))
   (goF E (callOf L13) F14 0 m P14_4 (M14_4 ))) := by kernel_rfl
theorem e14_3 (m : Nat) (t3 : Int) (b0 : Int) (b0_1 : Int) (b0_2 : List (List Cell)) : goF E (callOf L13) F14 0 (m + 1) P14_3 (M14_3 t3 b0 b0_1 b0_2) =
  (cond (inB t3 b0_2.length)
   (cond ((vChange (nr (Abs.rowAt b0_2 (Int.toNat t3)) 0) (nr (Abs.rowAt b0_2 (Int.toNat t3)) 1) (nr (Abs.rowAt b0_2 (Int.toNat t3)) 2) (nr (Abs.rowAt b0_2 (Int.toNat t3)) 3) (nr (Abs.rowAt b0_2 (Int.toNat t3)) 4) (nr (Abs.rowAt b0_2 (Int.toNat t3)) 5) (nr (Abs.rowAt b0_2 (Int.toNat t3)) 6)) != 0)
    (some ([.one (.int .i64 (vChange (nr (Abs.rowAt b0_2 (Int.toNat t3)) 0) (nr (Abs.rowAt b0_2 (Int.toNat t3)) 1) (nr (Abs.rowAt b0_2 (Int.toNat t3)) 2) (nr (Abs.rowAt b0_2 (Int.toNat t3)) 3) (nr (Abs.rowAt b0_2 (Int.toNat t3)) 4) (nr (Abs.rowAt b0_2 (Int.toNat t3)) 5) (nr (Abs.rowAt b0_2 (Int.toNat t3)) 6)))], []))
    (goF E (callOf L13) F14 0 m P14_5 (M14_5 t3 b0 b0_1 b0_2)))
   none) := by kernel_rfl
theorem e14_4 (m : Nat)  : goF E (callOf L13) F14 0 (m + 1) P14_4 (M14_4 ) =
  (some ([.one (.int .i64 0)], [])) := by kernel_rfl
theorem e14_5 (m : Nat) (t3 : Int) (b0 : Int) (b0_1 : Int) (b0_2 : List (List Cell)) : goF E (callOf L13) F14 0 (m + 1) P14_5 (M14_5 t3 b0 b0_1 b0_2) =
  (goF E (callOf L13) F14 0 m P14_6 (M14_6 t3 0 b0 b0_1 b0_2)) := by kernel_rfl
theorem e14_6 (m : Nat) (t3 : Int) (t5 : Int) (b0 : Int) (b0_1 : Int) (b0_2 : List (List Cell)) : goF E (callOf L13) F14 0 (m + 1) P14_6 (M14_6 t3 t5 b0 b0_1 b0_2) =
  (cond (decide (t5 < t3))
   (goF E (callOf L13) F14 0 m P14_7 (M14_7 t3 t5 b0 b0_1 b0_2))
   (goF E (callOf L13) F14 0 m P14_8 (M14_8 t3 b0 b0_1 b0_2))) := by kernel_rfl
theorem e14_7 (m : Nat) (t3 : Int) (t5 : Int) (b0 : Int) (b0_1 : Int) (b0_2 : List (List Cell)) : goF E (callOf L13) F14 0 (m + 1) P14_7 (M14_7 t3 t5 b0 b0_1 b0_2) =
  (cond (inB t5 b0_2.length)
   (cond (inB t3 b0_2.length)
    (cond ((nr (Abs.rowAt b0_2 (Int.toNat t5)) 0) == (nr (Abs.rowAt b0_2 (Int.toNat t3)) 0))
     (cond (inB t5 b0_2.length)
      (cond (inB t3 b0_2.length)
       (goF E (callOf L13) F14 0 m P14_9 (M14_9 t3 t5 ((nr (Abs.rowAt b0_2 (Int.toNat t5)) 1) == (nr (Abs.rowAt b0_2 (Int.toNat t3)) 1)) b0 b0_1 b0_2))
       none)
      none)
     (goF E (callOf L13) F14 0 m P14_9 (M14_9 t3 t5 false b0 b0_1 b0_2)))
    none)
   none) := by kernel_rfl
theorem e14_8 (m : Nat) (t3 : Int) (b0 : Int) (b0_1 : Int) (b0_2 : List (List Cell)) : goF E (callOf L13) F14 0 (m + 1) P14_8 (M14_8 t3 b0 b0_1 b0_2) =
  (goF E (callOf L13) F14 0 m P14_2 (M14_2 (IntKind.wrap .i64 (t3 + 1)) b0 b0_1 b0_2)) := by kernel_rfl
theorem e14_9 (m : Nat) (t3 : Int) (t5 : Int) (t79 : Bool) (b0 : Int) (b0_1 : Int) (b0_2 : List (List Cell)) : goF E (callOf L13) F14 0 (m + 1) P14_9 (M14_9 t3 t5 t79 b0 b0_1 b0_2) =
  (cond t79
   (some ([.one (.int .i64 5)], []))
   (goF E (callOf L13) F14 0 m P14_10 (M14_10 t3 t5 b0 b0_1 b0_2))) := by kernel_rfl
theorem e14_10 (m : Nat) (t3 : Int) (t5 : Int) (b0 : Int) (b0_1 : Int) (b0_2 : List (List Cell)) : goF E (callOf L13) F14 0 (m + 1) P14_10 (M14_10 t3 t5 b0 b0_1 b0_2) =
  (goF E (callOf L13) F14 0 m P14_6 (M14_6 t3 (IntKind.wrap .i64 (t5 + 1)) b0 b0_1 b0_2)) := by kernel_rfl

/- cmp.isNaN[int] -/
theorem e39 (m : Nat) (n : Int) : runF E (callOf L14) (m + 1) 39 [.one (.int .i64 n)] [] =
  (some ([.one (.bool (n != n))], [])) := by kernel_rfl

/- cmp.Compare[int] -/
theorem e30 (m : Nat) (x : Int) (y : Int) : runF E (callOf L39) (m + 1) 30 [.one (.int .i64 x), .one (.int .i64 y)] [] =
  (cond false
   (cond false
    (some ([.one (.int .i64 0)], []))
    (some ([.one (.int .i64 (-1))], [])))
   (cond false
    (some ([.one (.int .i64 1)], []))
    (cond (decide (x < y))
     (some ([.one (.int .i64 (-1))], []))
     (cond (decide (x > y))
      (some ([.one (.int .i64 1)], []))
      (some ([.one (.int .i64 0)], [])))))) := by kernel_rfl

/- cmp.Or[int] -/
noncomputable def P29_0 : List AItem := F29.at [.snd, .snd, .fst, .snd, .sub, .head]
def M29_0 (t3 : Int) (t6 : List (List Cell)) (t7 : Int) (t8 : Int) : St := ⟨[(3, .one (.int .i64 t3)), (6, .one (.sl false 3 t6)), (7, .one (.int .i64 t7)), (8, .one (.int .i64 t8))], []⟩
theorem e29 (m : Nat) (l : List (List Cell)) : runF E (callOf L30) (m + 1) 29 [.one (.sl false 3 l)] [] =
  (goF E (callOf L30) F29 0 m P29_0 (M29_0 0 l (l.length : Int) 0)) := by kernel_rfl
theorem e29_0 (m : Nat) (t3 : Int) (t6 : List (List Cell)) (t7 : Int) (t8 : Int) : goF E (callOf L30) F29 0 (m + 1) P29_0 (M29_0 t3 t6 t7 t8) =
  (cond (decide (t8 < t7))
   (cond (inB t8 t6.length)
    (cond ((nr (Abs.rowAt t6 (Int.toNat t8)) 0) != t3)
     (some ([.one (.int .i64 (nr (Abs.rowAt t6 (Int.toNat t8)) 0))], []))
     (goF E (callOf L30) F29 0 m P29_0 (M29_0 t3 t6 t7 (IntKind.wrap .i64 (t8 + 1)))))
    none)
   (some ([.one (.int .i64 t3)], []))) := by kernel_rfl

/- elasticstore/proposal.Compare -/
theorem e15 (m : Nat) (ap : Int) (np : Int) (cp : List (List Cell)) (aq : Int) (nq : Int) (cq : List (List Cell)) : runF E (callOf L29) (m + 1) 15 [.agg [.int .i64 ap, .int .i64 np, .sl false 25 cp], .agg [.int .i64 aq, .int .i64 nq, .sl false 25 cq]] [] =
  (cond (decide ([[Cell.int .i64 (cmpI ap aq)], [Cell.int .i64 (cmpI np nq)]].length < 4611686018427387904))
   (some ([.one (.int .i64 (orI1 [[Cell.int .i64 (cmpI ap aq)], [Cell.int .i64 (cmpI np nq)]]))], []))
   none) := by kernel_rfl

/- elasticstore/elasticstoreref06.CompareProposal -/
theorem e16 (m : Nat) (ap : Int) (np : Int) (cp : List (List Cell)) (aq : Int) (nq : Int) (cq : List (List Cell)) : runF E (callOf L15) (m + 1) 16 [.agg [.int .i64 ap, .int .i64 np, .sl false 25 cp], .agg [.int .i64 aq, .int .i64 nq, .sl false 25 cq]] [] =
  (cond (decide (ap < aq))
   (some ([.one (.int .i64 (-1))], []))
   (cond (ap == aq)
    (cond (decide (np < nq))
     (some ([.one (.int .i64 (-1))], []))
     (cond (ap == aq)
      (cond (np == nq)
       (some ([.one (.int .i64 0)], []))
       (some ([.one (.int .i64 1)], [])))
      (some ([.one (.int .i64 1)], []))))
    (cond (ap == aq)
     (cond (np == nq)
      (some ([.one (.int .i64 0)], []))
      (some ([.one (.int .i64 1)], [])))
     (some ([.one (.int .i64 1)], []))))) := by kernel_rfl

/- elasticstore/proposal.equal -/
theorem e31 (m : Nat) (k1 : Int) (s1 : Int) (w1 : Int) (v1 : Int) (rk1 : Int) (rc1 : Int) (rf1 : Int) (k2 : Int) (s2 : Int) (w2 : Int) (v2 : Int) (rk2 : Int) (rc2 : Int) (rf2 : Int) : runF E (callOf L16) (m + 1) 31 [.agg [.int .i64 k1, .int .i64 s1, .int .i64 w1, .int .i64 v1, .int .i64 rk1, .int .i64 rc1, .int .i64 rf1], .agg [.int .i64 k2, .int .i64 s2, .int .i64 w2, .int .i64 v2, .int .i64 rk2, .int .i64 rc2, .int .i64 rf2]] [] =
  (cond (k1 == k2)
   (cond (s1 == s2)
    (cond (w1 == w2)
     (cond (v1 == v2)
      (some ([.one (.bool ((rk1 == rk2) && ((rc1 == rc2) && ((rf1 == rf2) && true))))], []))
      (some ([.one (.bool false)], [])))
     (some ([.one (.bool false)], [])))
    (some ([.one (.bool false)], [])))
   (some ([.one (.bool false)], []))) := by kernel_rfl

/- elasticstore/proposal.Equal -/
noncomputable def P17_0 : List AItem := F17.at [.snd, .snd, .fst, .snd, .sub, .head]
def M17_0 (t29 : List (List Cell)) (t30 : Int) (t31 : Int) (b0 : Int) (b0_1 : Int) (b0_2 : List (List Cell)) : St := ⟨[(3, .one (.ptr 0 0)), (29, .one (.sl false 25 t29)), (30, .one (.int .i64 t30)), (31, .one (.int .i64 t31))], [.var [.int .i64 b0, .int .i64 b0_1, .sl false 25 b0_2]]⟩
theorem e17 (m : Nat) (ap : Int) (np : Int) (cp : List (List Cell)) (aq : Int) (nq : Int) (cq : List (List Cell)) : runF E (callOf L31) (m + 1) 17 [.agg [.int .i64 ap, .int .i64 np, .sl false 25 cp], .agg [.int .i64 aq, .int .i64 nq, .sl false 25 cq]] [] =
  (cond (ap != aq)
   (some ([.one (.bool false)], []))
   (cond (np != nq)
    (some ([.one (.bool false)], []))
    (cond ((cp.length : Int) != (cq.length : Int))
     (some ([.one (.bool false)], []))
     (goF E (callOf L31) F17 0 m P17_0 (M17_0 cp (cp.length : Int) 0 aq nq cq))))) := by kernel_rfl
theorem e17_0 (m : Nat) (t29 : List (List Cell)) (t30 : Int) (t31 : Int) (b0 : Int) (b0_1 : Int) (b0_2 : List (List Cell)) : goF E (callOf L31) F17 0 (m + 1) P17_0 (M17_0 t29 t30 t31 b0 b0_1 b0_2) =
  (cond (decide (t31 < t30))
   (cond (inB t31 t29.length)
    (cond (inB t31 b0_2.length)
     (cond (!(eqCh (nr (Abs.rowAt t29 (Int.toNat t31)) 0) (nr (Abs.rowAt t29 (Int.toNat t31)) 1) (nr (Abs.rowAt t29 (Int.toNat t31)) 2) (nr (Abs.rowAt t29 (Int.toNat t31)) 3) (nr (Abs.rowAt t29 (Int.toNat t31)) 4) (nr (Abs.rowAt t29 (Int.toNat t31)) 5) (nr (Abs.rowAt t29 (Int.toNat t31)) 6) (nr (Abs.rowAt b0_2 (Int.toNat t31)) 0) (nr (Abs.rowAt b0_2 (Int.toNat t31)) 1) (nr (Abs.rowAt b0_2 (Int.toNat t31)) 2) (nr (Abs.rowAt b0_2 (Int.toNat t31)) 3) (nr (Abs.rowAt b0_2 (Int.toNat t31)) 4) (nr (Abs.rowAt b0_2 (Int.toNat t31)) 5) (nr (Abs.rowAt b0_2 (Int.toNat t31)) 6)))
      (some ([.one (.bool false)], []))
      (goF E (callOf L31) F17 0 m P17_0 (M17_0 t29 t30 (IntKind.wrap .i64 (t31 + 1)) b0 b0_1 b0_2)))
     none)
    none)
   (some ([.one (.bool true)], []))) := by kernel_rfl

/- elasticstore/elasticstoreref06.EqualProposal -/
noncomputable def P18_0 : List AItem := F18.at [.snd, .snd, .fst, .snd, .sub, .head]
def M18_0 (t5 : Int) (b0 : Int) (b0_1 : Int) (b0_2 : List (List Cell)) (b1 : Int) (b1_1 : Int) (b1_2 : List (List Cell)) : St := ⟨[(2, .one (.ptr 0 0)), (3, .one (.ptr 1 0)), (5, .one (.int .i64 t5))], [.var [.int .i64 b0, .int .i64 b0_1, .sl false 25 b0_2], .var [.int .i64 b1, .int .i64 b1_1, .sl false 25 b1_2]]⟩
theorem e18 (m : Nat) (ap : Int) (np : Int) (cp : List (List Cell)) (aq : Int) (nq : Int) (cq : List (List Cell)) : runF E (callOf L17) (m + 1) 18 [.agg [.int .i64 ap, .int .i64 np, .sl false 25 cp], .agg [.int .i64 aq, .int .i64 nq, .sl false 25 cq]] [] =
  (cond (ap != aq)
   (some ([.one (.bool false)], []))
   (cond (np != nq)
    (some ([.one (.bool false)], []))
    (cond ((cp.length : Int) != (cq.length : Int))
     (some ([.one (.bool false)], []))
     (goF E (callOf L17) F18 0 m P18_0 (M18_0 0 ap np cp aq nq cq))))) := by kernel_rfl
theorem e18_0 (m : Nat) (t5 : Int) (b0 : Int) (b0_1 : Int) (b0_2 : List (List Cell)) (b1 : Int) (b1_1 : Int) (b1_2 : List (List Cell)) : goF E (callOf L17) F18 0 (m + 1) P18_0 (M18_0 t5 b0 b0_1 b0_2 b1 b1_1 b1_2) =
  (cond (decide (t5 < (b0_2.length : Int)))
   (cond (inB t5 b0_2.length)
    (cond (inB t5 b1_2.length)
     (cond (!(((nr (Abs.rowAt b0_2 (Int.toNat t5)) 0) == (nr (Abs.rowAt b1_2 (Int.toNat t5)) 0)) && (((nr (Abs.rowAt b0_2 (Int.toNat t5)) 1) == (nr (Abs.rowAt b1_2 (Int.toNat t5)) 1)) && (((nr (Abs.rowAt b0_2 (Int.toNat t5)) 2) == (nr (Abs.rowAt b1_2 (Int.toNat t5)) 2)) && (((nr (Abs.rowAt b0_2 (Int.toNat t5)) 3) == (nr (Abs.rowAt b1_2 (Int.toNat t5)) 3)) && (((nr (Abs.rowAt b0_2 (Int.toNat t5)) 4) == (nr (Abs.rowAt b1_2 (Int.toNat t5)) 4)) && (((nr (Abs.rowAt b0_2 (Int.toNat t5)) 5) == (nr (Abs.rowAt b1_2 (Int.toNat t5)) 5)) && (((nr (Abs.rowAt b0_2 (Int.toNat t5)) 6) == (nr (Abs.rowAt b1_2 (Int.toNat t5)) 6)) && true))))))))
      (some ([.one (.bool false)], []))
      (goF E (callOf L17) F18 0 m P18_0 (M18_0 (IntKind.wrap .i64 (t5 + 1)) b0 b0_1 b0_2 b1 b1_1 b1_2)))
     none)
    none)
   (some ([.one (.bool true)], []))) := by kernel_rfl

/- elasticstore/elasticstorelaw05.ProposalChange -/
theorem e3 (m : Nat) (k : Int) (s : Int) (w : Int) (v : Int) (rk : Int) (rc : Int) (rf : Int) : runF E (callOf L12) (m + 1) 3 [.agg [.int .i64 k, .int .i64 s, .int .i64 w, .int .i64 v, .int .i64 rk, .int .i64 rc, .int .i64 rf]] [] =
  (cond ((vChange k s w v rk rc rf) == (vChange k s w v rk rc rf))
   (some ([.one (.bool true)], []))
   (some ([.one (.bool false)], []))) := by kernel_rfl

/- elasticstore/elasticstorelaw05.ProposalValidate -/
theorem e4 (m : Nat) (ap : Int) (np : Int) (cp : List (List Cell)) : runF E (callOf L3) (m + 1) 4 [.agg [.int .i64 ap, .int .i64 np, .sl false 25 cp]] [] =
  (cond (decide ((cp.length : Int) > 100))
   (some ([.one (.bool true)], []))
   (cond (decide (cp.length < 4611686018427387904))
    (cond (decide (cp.length < 4611686018427387904))
     (cond ((vProp ap np cp) == (vProp ap np cp))
      (some ([.one (.bool true)], []))
      (some ([.one (.bool false)], [])))
     none)
    none)) := by kernel_rfl

/- elasticstore/elasticstorelaw05.ProposalCompare -/
theorem e5 (m : Nat) (ap : Int) (np : Int) (cp : List (List Cell)) (aq : Int) (nq : Int) (cq : List (List Cell)) (ar : Int) (nr : Int) (cr : List (List Cell)) : runF E (callOf L4) (m + 1) 5 [.agg [.int .i64 ap, .int .i64 np, .sl false 25 cp], .agg [.int .i64 aq, .int .i64 nq, .sl false 25 cq], .agg [.int .i64 ar, .int .i64 nr, .sl false 25 cr]] [] =
  (cond ((cmpP ap np aq nq) != (cmpP ap np aq nq))
   (some ([.one (.bool false)], []))
   (cond ((cmpP aq nq ap np) != (IntKind.wrap .i64 (0 - (cmpP ap np aq nq))))
    (some ([.one (.bool false)], []))
    (cond (decide ((cmpP ap np aq nq) > 0))
     (cond (decide ((cmpP ap np aq nq) < 0))
      (some ([.one (.bool true)], []))
      (cond (decide ((cmpP aq nq ar nr) < 0))
       (some ([.one (.bool true)], []))
       (cond (decide ((cmpP ap np ar nr) ≥ 0))
        (some ([.one (.bool true)], []))
        (some ([.one (.bool false)], [])))))
     (cond (decide ((cmpP aq nq ar nr) > 0))
      (cond (decide ((cmpP ap np aq nq) < 0))
       (some ([.one (.bool true)], []))
       (cond (decide ((cmpP aq nq ar nr) < 0))
        (some ([.one (.bool true)], []))
        (cond (decide ((cmpP ap np ar nr) ≥ 0))
         (some ([.one (.bool true)], []))
         (some ([.one (.bool false)], [])))))
      (cond (decide ((cmpP ap np ar nr) ≤ 0))
       (cond (decide ((cmpP ap np aq nq) < 0))
        (some ([.one (.bool true)], []))
        (cond (decide ((cmpP aq nq ar nr) < 0))
         (some ([.one (.bool true)], []))
         (cond (decide ((cmpP ap np ar nr) ≥ 0))
          (some ([.one (.bool true)], []))
          (some ([.one (.bool false)], [])))))
       (some ([.one (.bool false)], []))))))) := by kernel_rfl

/- elasticstore/elasticstorelaw05.ProposalEqual -/
theorem e6 (m : Nat) (ap : Int) (np : Int) (cp : List (List Cell)) (aq : Int) (nq : Int) (cq : List (List Cell)) : runF E (callOf L5) (m + 1) 6 [.agg [.int .i64 ap, .int .i64 np, .sl false 25 cp], .agg [.int .i64 aq, .int .i64 nq, .sl false 25 cq]] [] =
  (cond (decide ((cp.length : Int) > 100))
   (some ([.one (.bool true)], []))
   (cond (decide ((cq.length : Int) > 100))
    (some ([.one (.bool true)], []))
    (cond (decide (cp.length < 4611686018427387904))
     (cond (decide (cp.length < 4611686018427387904))
      (cond ((eqP ap np cp aq nq cq) == (eqP ap np cp aq nq cq))
       (cond (decide (cp.length < 4611686018427387904))
        (cond (eqP ap np cp ap np cp)
         (some ([.one (.bool true)], []))
         (some ([.one (.bool false)], [])))
        none)
       (some ([.one (.bool false)], [])))
      none)
     none))) := by kernel_rfl

/- elasticstore/wire.AppendUint -/
noncomputable def P32_0 : List AItem := F32.at [.snd, .snd, .fst, .sub, .head]
def M32_0 (t0 : List (List Cell)) (t1 : Int) (t5 : List (List Cell)) : St := ⟨[(0, .one (.sl false 5 t0)), (1, .one (.int .u64 t1)), (5, .one (.sl true 5 t5))], []⟩
theorem e32 (m : Nat) (x : List (List Cell)) (v : Int) : runF E (callOf L6) (m + 1) 32 [.one (.sl false 5 x), .one (.int .u64 v)] [] =
  (goF E (callOf L6) F32 0 m P32_0 (M32_0 x v ([] : List (List Cell)))) := by kernel_rfl
theorem e32_0 (m : Nat) (t0 : List (List Cell)) (t1 : Int) (t5 : List (List Cell)) : goF E (callOf L6) F32 0 (m + 1) P32_0 (M32_0 t0 t1 t5) =
  (cond (decide (t1 ≥ 128))
   (cond (fits (t5.length + [[Cell.int .u8 (orI .u8 (IntKind.wrap .u8 t1) 128)]].length))
    (goF E (callOf L6) F32 0 m P32_0 (M32_0 t0 (shrI .u64 t1 7) (t5 ++ [[Cell.int .u8 (orI .u8 (IntKind.wrap .u8 t1) 128)]])))
    none)
   (cond (fits (t5.length + [[Cell.int .u8 (IntKind.wrap .u8 t1)]].length))
    (cond (inB (t0.length : Int) (t0.length + 1))
     (cond (decide ((t0.length : Int) = (t0.length : Int)))
      (cond (fits ((takeN t0 (Int.toNat (t0.length : Int))).length + (t5 ++ [[Cell.int .u8 (IntKind.wrap .u8 t1)]]).length))
       (some ([.one (.sl true 5 ((takeN t0 (Int.toNat (t0.length : Int))) ++ (t5 ++ [[Cell.int .u8 (IntKind.wrap .u8 t1)]])))], []))
       none)
      none)
     none)
    none)) := by kernel_rfl

/- elasticstore/elasticstoreref03.AppendUint -/
noncomputable def P41_0 : List AItem := F41.at [.snd, .snd, .fst, .sub, .head]
def M41_0 (t1 : Int) (t5 : List (List Cell)) : St := ⟨[(1, .one (.int .u64 t1)), (5, .one (.sl true 5 t5))], []⟩
theorem e41 (m : Nat) (x : List (List Cell)) (v : Int) : runF E (callOf L32) (m + 1) 41 [.one (.sl false 5 x), .one (.int .u64 v)] [] =
  (cond (fits (([] : List (List Cell)).length + x.length))
   (goF E (callOf L32) F41 0 m P41_0 (M41_0 v (([] : List (List Cell)) ++ x)))
   none) := by kernel_rfl
theorem e41_0 (m : Nat) (t1 : Int) (t5 : List (List Cell)) : goF E (callOf L32) F41 0 (m + 1) P41_0 (M41_0 t1 t5) =
  (cond (decide (t1 ≥ 128))
   (cond (fits (t5.length + [[Cell.int .u8 (IntKind.wrap .u8 ((IntKind.wrap .u8 (Int.tmod t1 128)) + 128))]].length))
    (goF E (callOf L32) F41 0 m P41_0 (M41_0 (IntKind.wrap .u64 (Int.tdiv t1 128)) (t5 ++ [[Cell.int .u8 (IntKind.wrap .u8 ((IntKind.wrap .u8 (Int.tmod t1 128)) + 128))]])))
    none)
   (cond (fits (t5.length + [[Cell.int .u8 (IntKind.wrap .u8 t1)]].length))
    (some ([.one (.sl true 5 (t5 ++ [[Cell.int .u8 (IntKind.wrap .u8 t1)]]))], []))
    none)) := by kernel_rfl

/- elasticstore/wire.Uint -/
noncomputable def P40_0 : List AItem := F40.at [.snd, (.jump 0)]
def M40_0 (t0 : List (List Cell)) (t5 : Int) (t6 : Int) : St := ⟨[(0, .one (.sl false 5 t0)), (5, .one (.int .u64 t5)), (6, .one (.int .i64 t6))], []⟩
theorem e40 (m : Nat) (x : List (List Cell)) : runF E (callOf L41) (m + 1) 40 [.one (.sl false 5 x)] [] =
  (cond ((0 : Int) == (x.length : Int))
   (some ([.one (.int .u64 0), .one (.int .i64 0), .one (.int .i64 1)], []))
   (cond (inB 0 x.length)
    (cond (decide ((nr (Abs.rowAt x 0) 0) ≥ 128))
     (goF E (callOf L41) F40 0 m P40_0 (M40_0 x (orI .u64 0 (shlI .u64 (IntKind.wrap .u64 (andNotI .u8 (nr (Abs.rowAt x 0) 0) 128)) 0)) 1))
     (cond ((nr (Abs.rowAt x 0) 0) == 0)
      (some ([.one (.int .u64 (orI .u64 0 (shlI .u64 (IntKind.wrap .u64 (andNotI .u8 (nr (Abs.rowAt x 0) 0) 128)) 0))), .one (.int .i64 1), .one (.int .i64 0)], []))
      (some ([.one (.int .u64 (orI .u64 0 (shlI .u64 (IntKind.wrap .u64 (andNotI .u8 (nr (Abs.rowAt x 0) 0) 128)) 0))), .one (.int .i64 1), .one (.int .i64 0)], []))))
    none)) := by kernel_rfl
theorem e40_0 (m : Nat) (t0 : List (List Cell)) (t5 : Int) (t6 : Int) : goF E (callOf L41) F40 0 (m + 1) P40_0 (M40_0 t0 t5 t6) =
  (cond (t6 == (t0.length : Int))
   (some ([.one (.int .u64 0), .one (.int .i64 0), .one (.int .i64 1)], []))
   (cond (inB t6 t0.length)
    (cond (t6 == 9)
     (cond (decide ((nr (Abs.rowAt t0 (Int.toNat t6)) 0) > 1))
      (some ([.one (.int .u64 0), .one (.int .i64 0), .one (.int .i64 9)], []))
      (cond (decide ((IntKind.wrap .i64 (7 * t6)) < 0))
       none
       (cond (decide ((nr (Abs.rowAt t0 (Int.toNat t6)) 0) ≥ 128))
        (goF E (callOf L41) F40 0 m P40_0 (M40_0 t0 (orI .u64 t5 (shlI .u64 (IntKind.wrap .u64 (andNotI .u8 (nr (Abs.rowAt t0 (Int.toNat t6)) 0) 128)) (IntKind.wrap .i64 (7 * t6)))) (IntKind.wrap .i64 (t6 + 1))))
        (cond ((nr (Abs.rowAt t0 (Int.toNat t6)) 0) == 0)
         (cond (decide ((IntKind.wrap .i64 (t6 + 1)) > 1))
          (some ([.one (.int .u64 0), .one (.int .i64 0), .one (.int .i64 2)], []))
          (some ([.one (.int .u64 (orI .u64 t5 (shlI .u64 (IntKind.wrap .u64 (andNotI .u8 (nr (Abs.rowAt t0 (Int.toNat t6)) 0) 128)) (IntKind.wrap .i64 (7 * t6))))), .one (.int .i64 (IntKind.wrap .i64 (t6 + 1))), .one (.int .i64 0)], [])))
         (some ([.one (.int .u64 (orI .u64 t5 (shlI .u64 (IntKind.wrap .u64 (andNotI .u8 (nr (Abs.rowAt t0 (Int.toNat t6)) 0) 128)) (IntKind.wrap .i64 (7 * t6))))), .one (.int .i64 (IntKind.wrap .i64 (t6 + 1))), .one (.int .i64 0)], []))))))
     (cond (decide ((IntKind.wrap .i64 (7 * t6)) < 0))
      none
      (cond (decide ((nr (Abs.rowAt t0 (Int.toNat t6)) 0) ≥ 128))
       (goF E (callOf L41) F40 0 m P40_0 (M40_0 t0 (orI .u64 t5 (shlI .u64 (IntKind.wrap .u64 (andNotI .u8 (nr (Abs.rowAt t0 (Int.toNat t6)) 0) 128)) (IntKind.wrap .i64 (7 * t6)))) (IntKind.wrap .i64 (t6 + 1))))
       (cond ((nr (Abs.rowAt t0 (Int.toNat t6)) 0) == 0)
        (cond (decide ((IntKind.wrap .i64 (t6 + 1)) > 1))
         (some ([.one (.int .u64 0), .one (.int .i64 0), .one (.int .i64 2)], []))
         (some ([.one (.int .u64 (orI .u64 t5 (shlI .u64 (IntKind.wrap .u64 (andNotI .u8 (nr (Abs.rowAt t0 (Int.toNat t6)) 0) 128)) (IntKind.wrap .i64 (7 * t6))))), .one (.int .i64 (IntKind.wrap .i64 (t6 + 1))), .one (.int .i64 0)], [])))
        (some ([.one (.int .u64 (orI .u64 t5 (shlI .u64 (IntKind.wrap .u64 (andNotI .u8 (nr (Abs.rowAt t0 (Int.toNat t6)) 0) 128)) (IntKind.wrap .i64 (7 * t6))))), .one (.int .i64 (IntKind.wrap .i64 (t6 + 1))), .one (.int .i64 0)], []))))))
    none)) := by kernel_rfl

/- elasticstore/elasticstoreref03.Uint -/
noncomputable def P45_0 : List AItem := F45.at [.snd, .snd, .fst, .snd, .sub, .head]
def M45_0 (t0 : List (List Cell)) (t5 : Int) (t6 : Int) : St := ⟨[(0, .one (.sl false 5 t0)), (5, .one (.int .u64 t5)), (6, .one (.int .i64 t6))], []⟩
theorem e45 (m : Nat) (x : List (List Cell)) : runF E (callOf L40) (m + 1) 45 [.one (.sl false 5 x)] [] =
  (goF E (callOf L40) F45 0 m P45_0 (M45_0 x 0 0)) := by kernel_rfl
theorem e45_0 (m : Nat) (t0 : List (List Cell)) (t5 : Int) (t6 : Int) : goF E (callOf L40) F45 0 (m + 1) P45_0 (M45_0 t0 t5 t6) =
  (cond (decide (t6 < 10))
   (cond (t6 == (t0.length : Int))
    (some ([.one (.int .u64 0), .one (.int .i64 0), .one (.int .i64 1)], []))
    (cond (t6 == 9)
     (cond (inB t6 t0.length)
      (cond (decide ((nr (Abs.rowAt t0 (Int.toNat t6)) 0) > 1))
       (some ([.one (.int .u64 0), .one (.int .i64 0), .one (.int .i64 9)], []))
       (cond (inB t6 t0.length)
        (cond (decide ((IntKind.wrap .u64 (IntKind.wrap .i64 (7 * t6))) < 0))
         none
         (cond (inB t6 t0.length)
          (cond (decide ((nr (Abs.rowAt t0 (Int.toNat t6)) 0) < 128))
           (cond (inB t6 t0.length)
            (cond ((nr (Abs.rowAt t0 (Int.toNat t6)) 0) == 0)
             (cond (decide (t6 > 0))
              (some ([.one (.int .u64 0), .one (.int .i64 0), .one (.int .i64 2)], []))
              (some ([.one (.int .u64 (orI .u64 t5 (shlI .u64 (IntKind.wrap .u64 (Int.tmod (nr (Abs.rowAt t0 (Int.toNat t6)) 0) 128)) (IntKind.wrap .u64 (IntKind.wrap .i64 (7 * t6)))))), .one (.int .i64 (IntKind.wrap .i64 (t6 + 1))), .one (.int .i64 0)], [])))
             (some ([.one (.int .u64 (orI .u64 t5 (shlI .u64 (IntKind.wrap .u64 (Int.tmod (nr (Abs.rowAt t0 (Int.toNat t6)) 0) 128)) (IntKind.wrap .u64 (IntKind.wrap .i64 (7 * t6)))))), .one (.int .i64 (IntKind.wrap .i64 (t6 + 1))), .one (.int .i64 0)], [])))
            none)
           (goF E (callOf L40) F45 0 m P45_0 (M45_0 t0 (orI .u64 t5 (shlI .u64 (IntKind.wrap .u64 (Int.tmod (nr (Abs.rowAt t0 (Int.toNat t6)) 0) 128)) (IntKind.wrap .u64 (IntKind.wrap .i64 (7 * t6))))) (IntKind.wrap .i64 (t6 + 1)))))
          none))
        none))
      none)
     (cond (inB t6 t0.length)
      (cond (decide ((IntKind.wrap .u64 (IntKind.wrap .i64 (7 * t6))) < 0))
       none
       (cond (inB t6 t0.length)
        (cond (decide ((nr (Abs.rowAt t0 (Int.toNat t6)) 0) < 128))
         (cond (inB t6 t0.length)
          (cond ((nr (Abs.rowAt t0 (Int.toNat t6)) 0) == 0)
           (cond (decide (t6 > 0))
            (some ([.one (.int .u64 0), .one (.int .i64 0), .one (.int .i64 2)], []))
            (some ([.one (.int .u64 (orI .u64 t5 (shlI .u64 (IntKind.wrap .u64 (Int.tmod (nr (Abs.rowAt t0 (Int.toNat t6)) 0) 128)) (IntKind.wrap .u64 (IntKind.wrap .i64 (7 * t6)))))), .one (.int .i64 (IntKind.wrap .i64 (t6 + 1))), .one (.int .i64 0)], [])))
           (some ([.one (.int .u64 (orI .u64 t5 (shlI .u64 (IntKind.wrap .u64 (Int.tmod (nr (Abs.rowAt t0 (Int.toNat t6)) 0) 128)) (IntKind.wrap .u64 (IntKind.wrap .i64 (7 * t6)))))), .one (.int .i64 (IntKind.wrap .i64 (t6 + 1))), .one (.int .i64 0)], [])))
          none)
         (goF E (callOf L40) F45 0 m P45_0 (M45_0 t0 (orI .u64 t5 (shlI .u64 (IntKind.wrap .u64 (Int.tmod (nr (Abs.rowAt t0 (Int.toNat t6)) 0) 128)) (IntKind.wrap .u64 (IntKind.wrap .i64 (7 * t6))))) (IntKind.wrap .i64 (t6 + 1)))))
        none))
      none)))
   (some ([.one (.int .u64 0), .one (.int .i64 0), .one (.int .i64 9)], []))) := by kernel_rfl

/- (*elasticstore/proposal.reader).number -/
theorem e33 (m : Nat) (b : List (List Cell)) (o : Int) (e : Int) : runF E (callOf L45) (m + 1) 33 [.one (.ptr 0 0)] [.var [.sl false 5 b, .int .i64 o, .int .i64 e]] =
  (cond (e != 0)
   (some ([.one (.int .i64 0)], [.var [.sl false 5 b, .int .i64 o, .int .i64 e]]))
   (cond (inB o (b.length + 1))
    (cond (okRd (dropN b (Int.toNat o)))
     (cond ((udec (dropN b (Int.toNat o))).2.2 != 0)
      (some ([.one (.int .i64 0)], [.var [.sl false 5 b, .int .i64 o, .int .i64 (udec (dropN b (Int.toNat o))).2.2]]))
      (cond (decide ((udec (dropN b (Int.toNat o))).1 > 2147483647))
       (some ([.one (.int .i64 0)], [.var [.sl false 5 b, .int .i64 o, .int .i64 9]]))
       (some ([.one (.int .i64 (IntKind.wrap .i64 (udec (dropN b (Int.toNat o))).1))], [.var [.sl false 5 b, .int .i64 (IntKind.wrap .i64 (o + (udec (dropN b (Int.toNat o))).2.1)), .int .i64 e]]))))
     none)
    none)) := by kernel_rfl

/- elasticstore/proposal.Append -/
noncomputable def P19_0 : List AItem := F19.at [.snd, .snd, .fst, .snd, .sub, .head]
def M19_0 (t0 : List (List Cell)) (t5 : List (List Cell)) (t20 : List (List Cell)) (t21 : Int) (t22 : Int) : St := ⟨[(0, .one (.sl false 5 t0)), (5, .one (.sl true 3 t5)), (20, .one (.sl false 25 t20)), (21, .one (.int .i64 t21)), (22, .one (.int .i64 t22))], []⟩
noncomputable def P19_1 : List AItem := F19.at [.snd, .snd, .snd, .snd, .fst, .snd, .sub, .head]
def M19_1 (t0 : List (List Cell)) (t8 : List (List Cell)) (t47 : List (List Cell)) (t48 : Int) (t49 : Int) : St := ⟨[(0, .one (.sl false 5 t0)), (8, .one (.sl false 5 t8)), (47, .one (.sl false 3 t47)), (48, .one (.int .i64 t48)), (49, .one (.int .i64 t49))], []⟩
theorem e19 (m : Nat) (x : List (List Cell)) (ap : Int) (np : Int) (cp : List (List Cell)) : runF E (callOf L33) (m + 1) 19 [.one (.sl false 5 x), .agg [.int .i64 ap, .int .i64 np, .sl false 25 cp]] [] =
  (goF E (callOf L33) F19 0 m P19_0 (M19_0 x [[Cell.int .i64 ap], [Cell.int .i64 np], [Cell.int .i64 (cp.length : Int)]] cp (cp.length : Int) 0)) := by kernel_rfl
theorem e19_0 (m : Nat) (t0 : List (List Cell)) (t5 : List (List Cell)) (t20 : List (List Cell)) (t21 : Int) (t22 : Int) : goF E (callOf L33) F19 0 (m + 1) P19_0 (M19_0 t0 t5 t20 t21 t22) =
  (cond (decide (t22 < t21))
   (cond (inB t22 t20.length)
    (cond (fits (t5.length + [[Cell.int .i64 (nr (Abs.rowAt t20 (Int.toNat t22)) 0)], [Cell.int .i64 (nr (Abs.rowAt t20 (Int.toNat t22)) 1)], [Cell.int .i64 (nr (Abs.rowAt t20 (Int.toNat t22)) 2)], [Cell.int .i64 (nr (Abs.rowAt t20 (Int.toNat t22)) 3)], [Cell.int .i64 (nr (Abs.rowAt t20 (Int.toNat t22)) 4)], [Cell.int .i64 (nr (Abs.rowAt t20 (Int.toNat t22)) 5)], [Cell.int .i64 (nr (Abs.rowAt t20 (Int.toNat t22)) 6)]].length))
     (goF E (callOf L33) F19 0 m P19_0 (M19_0 t0 (t5 ++ [[Cell.int .i64 (nr (Abs.rowAt t20 (Int.toNat t22)) 0)], [Cell.int .i64 (nr (Abs.rowAt t20 (Int.toNat t22)) 1)], [Cell.int .i64 (nr (Abs.rowAt t20 (Int.toNat t22)) 2)], [Cell.int .i64 (nr (Abs.rowAt t20 (Int.toNat t22)) 3)], [Cell.int .i64 (nr (Abs.rowAt t20 (Int.toNat t22)) 4)], [Cell.int .i64 (nr (Abs.rowAt t20 (Int.toNat t22)) 5)], [Cell.int .i64 (nr (Abs.rowAt t20 (Int.toNat t22)) 6)]]) t20 t21 (IntKind.wrap .i64 (t22 + 1))))
     none)
    none)
   (goF E (callOf L33) F19 0 m P19_1 (M19_1 t0 ([] : List (List Cell)) t5 (t5.length : Int) 0))) := by kernel_rfl
theorem e19_1 (m : Nat) (t0 : List (List Cell)) (t8 : List (List Cell)) (t47 : List (List Cell)) (t48 : Int) (t49 : Int) : goF E (callOf L33) F19 0 (m + 1) P19_1 (M19_1 t0 t8 t47 t48 t49) =
  (cond (decide (t49 < t48))
   (cond (inB t49 t47.length)
    (cond (okEnc t8 (IntKind.wrap .u64 (nr (Abs.rowAt t47 (Int.toNat t49)) 0)))
     (goF E (callOf L33) F19 0 m P19_1 (M19_1 t0 (t8 ++ uenc (IntKind.wrap .u64 (nr (Abs.rowAt t47 (Int.toNat t49)) 0))) t47 t48 (IntKind.wrap .i64 (t49 + 1))))
     none)
    none)
   (cond (inB (t0.length : Int) (t0.length + 1))
    (cond (decide ((t0.length : Int) = (t0.length : Int)))
     (cond (fits ((takeN t0 (Int.toNat (t0.length : Int))).length + t8.length))
      (some ([.one (.sl true 5 ((takeN t0 (Int.toNat (t0.length : Int))) ++ t8))], []))
      none)
     none)
    none)) := by kernel_rfl
noncomputable def P19_0_c1 : List AItem := F19.at [.snd, .snd, .fst, .snd, .sub, .head]
def M19_0_c1 (t0 : List (List Cell)) (t5 : List (List Cell)) (t20 : List (List Cell)) (t21 : Int) (t22 : Int) : St := ⟨[(0, .one (.sl true 5 t0)), (5, .one (.sl true 3 t5)), (20, .one (.sl false 25 t20)), (21, .one (.int .i64 t21)), (22, .one (.int .i64 t22))], []⟩
noncomputable def P19_1_c1 : List AItem := F19.at [.snd, .snd, .snd, .snd, .fst, .snd, .sub, .head]
def M19_1_c1 (t0 : List (List Cell)) (t8 : List (List Cell)) (t47 : List (List Cell)) (t48 : Int) (t49 : Int) : St := ⟨[(0, .one (.sl true 5 t0)), (8, .one (.sl false 5 t8)), (47, .one (.sl false 3 t47)), (48, .one (.int .i64 t48)), (49, .one (.int .i64 t49))], []⟩
theorem e19_c1 (m : Nat) (ap : Int) (np : Int) (cp : List (List Cell)) : runF E (callOf L33) (m + 1) 19 [.one (.nils), .agg [.int .i64 ap, .int .i64 np, .sl false 25 cp]] [] =
  (goF E (callOf L33) F19 0 m P19_0_c1 (M19_0_c1 ([] : List (List Cell)) [[Cell.int .i64 ap], [Cell.int .i64 np], [Cell.int .i64 (cp.length : Int)]] cp (cp.length : Int) 0)) := by kernel_rfl
theorem e19_0_c1 (m : Nat) (t0 : List (List Cell)) (t5 : List (List Cell)) (t20 : List (List Cell)) (t21 : Int) (t22 : Int) : goF E (callOf L33) F19 0 (m + 1) P19_0_c1 (M19_0_c1 t0 t5 t20 t21 t22) =
  (cond (decide (t22 < t21))
   (cond (inB t22 t20.length)
    (cond (fits (t5.length + [[Cell.int .i64 (nr (Abs.rowAt t20 (Int.toNat t22)) 0)], [Cell.int .i64 (nr (Abs.rowAt t20 (Int.toNat t22)) 1)], [Cell.int .i64 (nr (Abs.rowAt t20 (Int.toNat t22)) 2)], [Cell.int .i64 (nr (Abs.rowAt t20 (Int.toNat t22)) 3)], [Cell.int .i64 (nr (Abs.rowAt t20 (Int.toNat t22)) 4)], [Cell.int .i64 (nr (Abs.rowAt t20 (Int.toNat t22)) 5)], [Cell.int .i64 (nr (Abs.rowAt t20 (Int.toNat t22)) 6)]].length))
     (goF E (callOf L33) F19 0 m P19_0_c1 (M19_0_c1 t0 (t5 ++ [[Cell.int .i64 (nr (Abs.rowAt t20 (Int.toNat t22)) 0)], [Cell.int .i64 (nr (Abs.rowAt t20 (Int.toNat t22)) 1)], [Cell.int .i64 (nr (Abs.rowAt t20 (Int.toNat t22)) 2)], [Cell.int .i64 (nr (Abs.rowAt t20 (Int.toNat t22)) 3)], [Cell.int .i64 (nr (Abs.rowAt t20 (Int.toNat t22)) 4)], [Cell.int .i64 (nr (Abs.rowAt t20 (Int.toNat t22)) 5)], [Cell.int .i64 (nr (Abs.rowAt t20 (Int.toNat t22)) 6)]]) t20 t21 (IntKind.wrap .i64 (t22 + 1))))
     none)
    none)
   (goF E (callOf L33) F19 0 m P19_1_c1 (M19_1_c1 t0 ([] : List (List Cell)) t5 (t5.length : Int) 0))) := by kernel_rfl
theorem e19_1_c1 (m : Nat) (t0 : List (List Cell)) (t8 : List (List Cell)) (t47 : List (List Cell)) (t48 : Int) (t49 : Int) : goF E (callOf L33) F19 0 (m + 1) P19_1_c1 (M19_1_c1 t0 t8 t47 t48 t49) =
  (cond (decide (t49 < t48))
   (cond (inB t49 t47.length)
    (cond (okEnc t8 (IntKind.wrap .u64 (nr (Abs.rowAt t47 (Int.toNat t49)) 0)))
     (goF E (callOf L33) F19 0 m P19_1_c1 (M19_1_c1 t0 (t8 ++ uenc (IntKind.wrap .u64 (nr (Abs.rowAt t47 (Int.toNat t49)) 0))) t47 t48 (IntKind.wrap .i64 (t49 + 1))))
     none)
    none)
   (cond (inB (t0.length : Int) (t0.length + 1))
    (cond (decide ((t0.length : Int) = (t0.length : Int)))
     (cond (fits ((takeN t0 (Int.toNat (t0.length : Int))).length + t8.length))
      (some ([.one (.sl true 5 ((takeN t0 (Int.toNat (t0.length : Int))) ++ t8))], []))
      none)
     none)
    none)) := by kernel_rfl

/- elasticstore/proposal.Decode -/
noncomputable def P20_0 : List AItem := F20.at [.snd, .snd, .snd, .snd, .snd, .snd, .fst, .snd, .sub, .head]
def M20_0 (t7 : Int) (t8 : Int) (b0 : Int) (b0_1 : Int) (b0_2 : List (List Cell)) (b1 : List (List Cell)) (b1_1 : Int) (b1_2 : Int) (b2 : Int) (b2_1 : Int) (b2_2 : List (List Cell)) : St := ⟨[(2, .one (.ptr 0 0)), (5, .one (.ptr 1 0)), (6, .one (.ptr 2 0)), (7, .one (.int .i64 t7)), (8, .one (.int .i64 t8))], [.var [.int .i64 b0, .int .i64 b0_1, .sl true 25 b0_2], .var [.sl false 5 b1, .int .i64 b1_1, .int .i64 b1_2], .var [.int .i64 b2, .int .i64 b2_1, .sl true 25 b2_2]]⟩
theorem e20 (m : Nat) (x : List (List Cell)) : runF E (callOf L19) (m + 1) 20 [.one (.sl false 5 x)] [] =
  (cond (okAt x 0)
   (cond (okAt x (rnum x 0 0).2.1)
    (cond (okAt x (rnum x (rnum x 0 0).2.1 (rnum x 0 0).2.2).2.1)
     (cond ((rnum x (rnum x (rnum x 0 0).2.1 (rnum x 0 0).2.2).2.1 (rnum x (rnum x 0 0).2.1 (rnum x 0 0).2.2).2.2).2.2 == 0)
      (cond (decide ((rnum x (rnum x (rnum x 0 0).2.1 (rnum x 0 0).2.2).2.1 (rnum x (rnum x 0 0).2.1 (rnum x 0 0).2.2).2.2).1 > 6))
       (goF E (callOf L19) F20 0 m P20_0 (M20_0 (rnum x (rnum x (rnum x 0 0).2.1 (rnum x 0 0).2.2).2.1 (rnum x (rnum x 0 0).2.1 (rnum x 0 0).2.2).2.2).1 0 0 0 ([] : List (List Cell)) x (rnum x (rnum x (rnum x 0 0).2.1 (rnum x 0 0).2.2).2.1 (rnum x (rnum x 0 0).2.1 (rnum x 0 0).2.2).2.2).2.1 3 (rnum x 0 0).1 (rnum x (rnum x 0 0).2.1 (rnum x 0 0).2.2).1 ([] : List (List Cell))))
       (goF E (callOf L19) F20 0 m P20_0 (M20_0 (rnum x (rnum x (rnum x 0 0).2.1 (rnum x 0 0).2.2).2.1 (rnum x (rnum x 0 0).2.1 (rnum x 0 0).2.2).2.2).1 0 0 0 ([] : List (List Cell)) x (rnum x (rnum x (rnum x 0 0).2.1 (rnum x 0 0).2.2).2.1 (rnum x (rnum x 0 0).2.1 (rnum x 0 0).2.2).2.2).2.1 (rnum x (rnum x (rnum x 0 0).2.1 (rnum x 0 0).2.2).2.1 (rnum x (rnum x 0 0).2.1 (rnum x 0 0).2.2).2.2).2.2 (rnum x 0 0).1 (rnum x (rnum x 0 0).2.1 (rnum x 0 0).2.2).1 ([] : List (List Cell)))))
      (goF E (callOf L19) F20 0 m P20_0 (M20_0 (rnum x (rnum x (rnum x 0 0).2.1 (rnum x 0 0).2.2).2.1 (rnum x (rnum x 0 0).2.1 (rnum x 0 0).2.2).2.2).1 0 0 0 ([] : List (List Cell)) x (rnum x (rnum x (rnum x 0 0).2.1 (rnum x 0 0).2.2).2.1 (rnum x (rnum x 0 0).2.1 (rnum x 0 0).2.2).2.2).2.1 (rnum x (rnum x (rnum x 0 0).2.1 (rnum x 0 0).2.2).2.1 (rnum x (rnum x 0 0).2.1 (rnum x 0 0).2.2).2.2).2.2 (rnum x 0 0).1 (rnum x (rnum x 0 0).2.1 (rnum x 0 0).2.2).1 ([] : List (List Cell)))))
     none)
    none)
   none) := by kernel_rfl
theorem e20_0 (m : Nat) (t7 : Int) (t8 : Int) (b0 : Int) (b0_1 : Int) (b0_2 : List (List Cell)) (b1 : List (List Cell)) (b1_1 : Int) (b1_2 : Int) (b2 : Int) (b2_1 : Int) (b2_2 : List (List Cell)) : goF E (callOf L19) F20 0 (m + 1) P20_0 (M20_0 t7 t8 b0 b0_1 b0_2 b1 b1_1 b1_2 b2 b2_1 b2_2) =
  (cond (decide (t8 < t7))
   (cond (b1_2 == 0)
    (cond (okAt b1 b1_1)
     (cond (okAt b1 (rnum b1 b1_1 b1_2).2.1)
      (cond (okAt b1 (rnum b1 (rnum b1 b1_1 b1_2).2.1 (rnum b1 b1_1 b1_2).2.2).2.1)
       (cond (okAt b1 (rnum b1 (rnum b1 (rnum b1 b1_1 b1_2).2.1 (rnum b1 b1_1 b1_2).2.2).2.1 (rnum b1 (rnum b1 b1_1 b1_2).2.1 (rnum b1 b1_1 b1_2).2.2).2.2).2.1)
        (cond (okAt b1 (rnum b1 (rnum b1 (rnum b1 (rnum b1 b1_1 b1_2).2.1 (rnum b1 b1_1 b1_2).2.2).2.1 (rnum b1 (rnum b1 b1_1 b1_2).2.1 (rnum b1 b1_1 b1_2).2.2).2.2).2.1 (rnum b1 (rnum b1 (rnum b1 b1_1 b1_2).2.1 (rnum b1 b1_1 b1_2).2.2).2.1 (rnum b1 (rnum b1 b1_1 b1_2).2.1 (rnum b1 b1_1 b1_2).2.2).2.2).2.2).2.1)
         (cond (okAt b1 (rnum b1 (rnum b1 (rnum b1 (rnum b1 (rnum b1 b1_1 b1_2).2.1 (rnum b1 b1_1 b1_2).2.2).2.1 (rnum b1 (rnum b1 b1_1 b1_2).2.1 (rnum b1 b1_1 b1_2).2.2).2.2).2.1 (rnum b1 (rnum b1 (rnum b1 b1_1 b1_2).2.1 (rnum b1 b1_1 b1_2).2.2).2.1 (rnum b1 (rnum b1 b1_1 b1_2).2.1 (rnum b1 b1_1 b1_2).2.2).2.2).2.2).2.1 (rnum b1 (rnum b1 (rnum b1 (rnum b1 b1_1 b1_2).2.1 (rnum b1 b1_1 b1_2).2.2).2.1 (rnum b1 (rnum b1 b1_1 b1_2).2.1 (rnum b1 b1_1 b1_2).2.2).2.2).2.1 (rnum b1 (rnum b1 (rnum b1 b1_1 b1_2).2.1 (rnum b1 b1_1 b1_2).2.2).2.1 (rnum b1 (rnum b1 b1_1 b1_2).2.1 (rnum b1 b1_1 b1_2).2.2).2.2).2.2).2.2).2.1)
          (cond (okAt b1 (rnum b1 (rnum b1 (rnum b1 (rnum b1 (rnum b1 (rnum b1 b1_1 b1_2).2.1 (rnum b1 b1_1 b1_2).2.2).2.1 (rnum b1 (rnum b1 b1_1 b1_2).2.1 (rnum b1 b1_1 b1_2).2.2).2.2).2.1 (rnum b1 (rnum b1 (rnum b1 b1_1 b1_2).2.1 (rnum b1 b1_1 b1_2).2.2).2.1 (rnum b1 (rnum b1 b1_1 b1_2).2.1 (rnum b1 b1_1 b1_2).2.2).2.2).2.2).2.1 (rnum b1 (rnum b1 (rnum b1 (rnum b1 b1_1 b1_2).2.1 (rnum b1 b1_1 b1_2).2.2).2.1 (rnum b1 (rnum b1 b1_1 b1_2).2.1 (rnum b1 b1_1 b1_2).2.2).2.2).2.1 (rnum b1 (rnum b1 (rnum b1 b1_1 b1_2).2.1 (rnum b1 b1_1 b1_2).2.2).2.1 (rnum b1 (rnum b1 b1_1 b1_2).2.1 (rnum b1 b1_1 b1_2).2.2).2.2).2.2).2.2).2.1 (rnum b1 (rnum b1 (rnum b1 (rnum b1 (rnum b1 b1_1 b1_2).2.1 (rnum b1 b1_1 b1_2).2.2).2.1 (rnum b1 (rnum b1 b1_1 b1_2).2.1 (rnum b1 b1_1 b1_2).2.2).2.2).2.1 (rnum b1 (rnum b1 (rnum b1 b1_1 b1_2).2.1 (rnum b1 b1_1 b1_2).2.2).2.1 (rnum b1 (rnum b1 b1_1 b1_2).2.1 (rnum b1 b1_1 b1_2).2.2).2.2).2.2).2.1 (rnum b1 (rnum b1 (rnum b1 (rnum b1 b1_1 b1_2).2.1 (rnum b1 b1_1 b1_2).2.2).2.1 (rnum b1 (rnum b1 b1_1 b1_2).2.1 (rnum b1 b1_1 b1_2).2.2).2.2).2.1 (rnum b1 (rnum b1 (rnum b1 b1_1 b1_2).2.1 (rnum b1 b1_1 b1_2).2.2).2.1 (rnum b1 (rnum b1 b1_1 b1_2).2.1 (rnum b1 b1_1 b1_2).2.2).2.2).2.2).2.2).2.2).2.1)
           (cond (fits (b2_2.length + [[Cell.int .i64 (rnum b1 b1_1 b1_2).1, Cell.int .i64 (rnum b1 (rnum b1 b1_1 b1_2).2.1 (rnum b1 b1_1 b1_2).2.2).1, Cell.int .i64 (rnum b1 (rnum b1 (rnum b1 b1_1 b1_2).2.1 (rnum b1 b1_1 b1_2).2.2).2.1 (rnum b1 (rnum b1 b1_1 b1_2).2.1 (rnum b1 b1_1 b1_2).2.2).2.2).1, Cell.int .i64 (rnum b1 (rnum b1 (rnum b1 (rnum b1 b1_1 b1_2).2.1 (rnum b1 b1_1 b1_2).2.2).2.1 (rnum b1 (rnum b1 b1_1 b1_2).2.1 (rnum b1 b1_1 b1_2).2.2).2.2).2.1 (rnum b1 (rnum b1 (rnum b1 b1_1 b1_2).2.1 (rnum b1 b1_1 b1_2).2.2).2.1 (rnum b1 (rnum b1 b1_1 b1_2).2.1 (rnum b1 b1_1 b1_2).2.2).2.2).2.2).1, Cell.int .i64 (rnum b1 (rnum b1 (rnum b1 (rnum b1 (rnum b1 b1_1 b1_2).2.1 (rnum b1 b1_1 b1_2).2.2).2.1 (rnum b1 (rnum b1 b1_1 b1_2).2.1 (rnum b1 b1_1 b1_2).2.2).2.2).2.1 (rnum b1 (rnum b1 (rnum b1 b1_1 b1_2).2.1 (rnum b1 b1_1 b1_2).2.2).2.1 (rnum b1 (rnum b1 b1_1 b1_2).2.1 (rnum b1 b1_1 b1_2).2.2).2.2).2.2).2.1 (rnum b1 (rnum b1 (rnum b1 (rnum b1 b1_1 b1_2).2.1 (rnum b1 b1_1 b1_2).2.2).2.1 (rnum b1 (rnum b1 b1_1 b1_2).2.1 (rnum b1 b1_1 b1_2).2.2).2.2).2.1 (rnum b1 (rnum b1 (rnum b1 b1_1 b1_2).2.1 (rnum b1 b1_1 b1_2).2.2).2.1 (rnum b1 (rnum b1 b1_1 b1_2).2.1 (rnum b1 b1_1 b1_2).2.2).2.2).2.2).2.2).1, Cell.int .i64 (rnum b1 (rnum b1 (rnum b1 (rnum b1 (rnum b1 (rnum b1 b1_1 b1_2).2.1 (rnum b1 b1_1 b1_2).2.2).2.1 (rnum b1 (rnum b1 b1_1 b1_2).2.1 (rnum b1 b1_1 b1_2).2.2).2.2).2.1 (rnum b1 (rnum b1 (rnum b1 b1_1 b1_2).2.1 (rnum b1 b1_1 b1_2).2.2).2.1 (rnum b1 (rnum b1 b1_1 b1_2).2.1 (rnum b1 b1_1 b1_2).2.2).2.2).2.2).2.1 (rnum b1 (rnum b1 (rnum b1 (rnum b1 b1_1 b1_2).2.1 (rnum b1 b1_1 b1_2).2.2).2.1 (rnum b1 (rnum b1 b1_1 b1_2).2.1 (rnum b1 b1_1 b1_2).2.2).2.2).2.1 (rnum b1 (rnum b1 (rnum b1 b1_1 b1_2).2.1 (rnum b1 b1_1 b1_2).2.2).2.1 (rnum b1 (rnum b1 b1_1 b1_2).2.1 (rnum b1 b1_1 b1_2).2.2).2.2).2.2).2.2).2.1 (rnum b1 (rnum b1 (rnum b1 (rnum b1 (rnum b1 b1_1 b1_2).2.1 (rnum b1 b1_1 b1_2).2.2).2.1 (rnum b1 (rnum b1 b1_1 b1_2).2.1 (rnum b1 b1_1 b1_2).2.2).2.2).2.1 (rnum b1 (rnum b1 (rnum b1 b1_1 b1_2).2.1 (rnum b1 b1_1 b1_2).2.2).2.1 (rnum b1 (rnum b1 b1_1 b1_2).2.1 (rnum b1 b1_1 b1_2).2.2).2.2).2.2).2.1 (rnum b1 (rnum b1 (rnum b1 (rnum b1 b1_1 b1_2).2.1 (rnum b1 b1_1 b1_2).2.2).2.1 (rnum b1 (rnum b1 b1_1 b1_2).2.1 (rnum b1 b1_1 b1_2).2.2).2.2).2.1 (rnum b1 (rnum b1 (rnum b1 b1_1 b1_2).2.1 (rnum b1 b1_1 b1_2).2.2).2.1 (rnum b1 (rnum b1 b1_1 b1_2).2.1 (rnum b1 b1_1 b1_2).2.2).2.2).2.2).2.2).2.2).1, Cell.int .i64 (rnum b1 (rnum b1 (rnum b1 (rnum b1 (rnum b1 (rnum b1 (rnum b1 b1_1 b1_2).2.1 (rnum b1 b1_1 b1_2).2.2).2.1 (rnum b1 (rnum b1 b1_1 b1_2).2.1 (rnum b1 b1_1 b1_2).2.2).2.2).2.1 (rnum b1 (rnum b1 (rnum b1 b1_1 b1_2).2.1 (rnum b1 b1_1 b1_2).2.2).2.1 (rnum b1 (rnum b1 b1_1 b1_2).2.1 (rnum b1 b1_1 b1_2).2.2).2.2).2.2).2.1 (rnum b1 (rnum b1 (rnum b1 (rnum b1 b1_1 b1_2).2.1 (rnum b1 b1_1 b1_2).2.2).2.1 (rnum b1 (rnum b1 b1_1 b1_2).2.1 (rnum b1 b1_1 b1_2).2.2).2.2).2.1 (rnum b1 (rnum b1 (rnum b1 b1_1 b1_2).2.1 (rnum b1 b1_1 b1_2).2.2).2.1 (rnum b1 (rnum b1 b1_1 b1_2).2.1 (rnum b1 b1_1 b1_2).2.2).2.2).2.2).2.2).2.1 (rnum b1 (rnum b1 (rnum b1 (rnum b1 (rnum b1 b1_1 b1_2).2.1 (rnum b1 b1_1 b1_2).2.2).2.1 (rnum b1 (rnum b1 b1_1 b1_2).2.1 (rnum b1 b1_1 b1_2).2.2).2.2).2.1 (rnum b1 (rnum b1 (rnum b1 b1_1 b1_2).2.1 (rnum b1 b1_1 b1_2).2.2).2.1 (rnum b1 (rnum b1 b1_1 b1_2).2.1 (rnum b1 b1_1 b1_2).2.2).2.2).2.2).2.1 (rnum b1 (rnum b1 (rnum b1 (rnum b1 b1_1 b1_2).2.1 (rnum b1 b1_1 b1_2).2.2).2.1 (rnum b1 (rnum b1 b1_1 b1_2).2.1 (rnum b1 b1_1 b1_2).2.2).2.2).2.1 (rnum b1 (rnum b1 (rnum b1 b1_1 b1_2).2.1 (rnum b1 b1_1 b1_2).2.2).2.1 (rnum b1 (rnum b1 b1_1 b1_2).2.1 (rnum b1 b1_1 b1_2).2.2).2.2).2.2).2.2).2.2).2.1 (rnum b1 (rnum b1 (rnum b1 (rnum b1 (rnum b1 (rnum b1 b1_1 b1_2).2.1 (rnum b1 b1_1 b1_2).2.2).2.1 (rnum b1 (rnum b1 b1_1 b1_2).2.1 (rnum b1 b1_1 b1_2).2.2).2.2).2.1 (rnum b1 (rnum b1 (rnum b1 b1_1 b1_2).2.1 (rnum b1 b1_1 b1_2).2.2).2.1 (rnum b1 (rnum b1 b1_1 b1_2).2.1 (rnum b1 b1_1 b1_2).2.2).2.2).2.2).2.1 (rnum b1 (rnum b1 (rnum b1 (rnum b1 b1_1 b1_2).2.1 (rnum b1 b1_1 b1_2).2.2).2.1 (rnum b1 (rnum b1 b1_1 b1_2).2.1 (rnum b1 b1_1 b1_2).2.2).2.2).2.1 (rnum b1 (rnum b1 (rnum b1 b1_1 b1_2).2.1 (rnum b1 b1_1 b1_2).2.2).2.1 (rnum b1 (rnum b1 b1_1 b1_2).2.1 (rnum b1 b1_1 b1_2).2.2).2.2).2.2).2.2).2.1 (rnum b1 (rnum b1 (rnum b1 (rnum b1 (rnum b1 b1_1 b1_2).2.1 (rnum b1 b1_1 b1_2).2.2).2.1 (rnum b1 (rnum b1 b1_1 b1_2).2.1 (rnum b1 b1_1 b1_2).2.2).2.2).2.1 (rnum b1 (rnum b1 (rnum b1 b1_1 b1_2).2.1 (rnum b1 b1_1 b1_2).2.2).2.1 (rnum b1 (rnum b1 b1_1 b1_2).2.1 (rnum b1 b1_1 b1_2).2.2).2.2).2.2).2.1 (rnum b1 (rnum b1 (rnum b1 (rnum b1 b1_1 b1_2).2.1 (rnum b1 b1_1 b1_2).2.2).2.1 (rnum b1 (rnum b1 b1_1 b1_2).2.1 (rnum b1 b1_1 b1_2).2.2).2.2).2.1 (rnum b1 (rnum b1 (rnum b1 b1_1 b1_2).2.1 (rnum b1 b1_1 b1_2).2.2).2.1 (rnum b1 (rnum b1 b1_1 b1_2).2.1 (rnum b1 b1_1 b1_2).2.2).2.2).2.2).2.2).2.2).2.2).1]].length))
            (goF E (callOf L19) F20 0 m P20_0 (M20_0 t7 (IntKind.wrap .i64 (t8 + 1)) b0 b0_1 b0_2 b1 (rnum b1 (rnum b1 (rnum b1 (rnum b1 (rnum b1 (rnum b1 (rnum b1 b1_1 b1_2).2.1 (rnum b1 b1_1 b1_2).2.2).2.1 (rnum b1 (rnum b1 b1_1 b1_2).2.1 (rnum b1 b1_1 b1_2).2.2).2.2).2.1 (rnum b1 (rnum b1 (rnum b1 b1_1 b1_2).2.1 (rnum b1 b1_1 b1_2).2.2).2.1 (rnum b1 (rnum b1 b1_1 b1_2).2.1 (rnum b1 b1_1 b1_2).2.2).2.2).2.2).2.1 (rnum b1 (rnum b1 (rnum b1 (rnum b1 b1_1 b1_2).2.1 (rnum b1 b1_1 b1_2).2.2).2.1 (rnum b1 (rnum b1 b1_1 b1_2).2.1 (rnum b1 b1_1 b1_2).2.2).2.2).2.1 (rnum b1 (rnum b1 (rnum b1 b1_1 b1_2).2.1 (rnum b1 b1_1 b1_2).2.2).2.1 (rnum b1 (rnum b1 b1_1 b1_2).2.1 (rnum b1 b1_1 b1_2).2.2).2.2).2.2).2.2).2.1 (rnum b1 (rnum b1 (rnum b1 (rnum b1 (rnum b1 b1_1 b1_2).2.1 (rnum b1 b1_1 b1_2).2.2).2.1 (rnum b1 (rnum b1 b1_1 b1_2).2.1 (rnum b1 b1_1 b1_2).2.2).2.2).2.1 (rnum b1 (rnum b1 (rnum b1 b1_1 b1_2).2.1 (rnum b1 b1_1 b1_2).2.2).2.1 (rnum b1 (rnum b1 b1_1 b1_2).2.1 (rnum b1 b1_1 b1_2).2.2).2.2).2.2).2.1 (rnum b1 (rnum b1 (rnum b1 (rnum b1 b1_1 b1_2).2.1 (rnum b1 b1_1 b1_2).2.2).2.1 (rnum b1 (rnum b1 b1_1 b1_2).2.1 (rnum b1 b1_1 b1_2).2.2).2.2).2.1 (rnum b1 (rnum b1 (rnum b1 b1_1 b1_2).2.1 (rnum b1 b1_1 b1_2).2.2).2.1 (rnum b1 (rnum b1 b1_1 b1_2).2.1 (rnum b1 b1_1 b1_2).2.2).2.2).2.2).2.2).2.2).2.1 (rnum b1 (rnum b1 (rnum b1 (rnum b1 (rnum b1 (rnum b1 b1_1 b1_2).2.1 (rnum b1 b1_1 b1_2).2.2).2.1 (rnum b1 (rnum b1 b1_1 b1_2).2.1 (rnum b1 b1_1 b1_2).2.2).2.2).2.1 (rnum b1 (rnum b1 (rnum b1 b1_1 b1_2).2.1 (rnum b1 b1_1 b1_2).2.2).2.1 (rnum b1 (rnum b1 b1_1 b1_2).2.1 (rnum b1 b1_1 b1_2).2.2).2.2).2.2).2.1 (rnum b1 (rnum b1 (rnum b1 (rnum b1 b1_1 b1_2).2.1 (rnum b1 b1_1 b1_2).2.2).2.1 (rnum b1 (rnum b1 b1_1 b1_2).2.1 (rnum b1 b1_1 b1_2).2.2).2.2).2.1 (rnum b1 (rnum b1 (rnum b1 b1_1 b1_2).2.1 (rnum b1 b1_1 b1_2).2.2).2.1 (rnum b1 (rnum b1 b1_1 b1_2).2.1 (rnum b1 b1_1 b1_2).2.2).2.2).2.2).2.2).2.1 (rnum b1 (rnum b1 (rnum b1 (rnum b1 (rnum b1 b1_1 b1_2).2.1 (rnum b1 b1_1 b1_2).2.2).2.1 (rnum b1 (rnum b1 b1_1 b1_2).2.1 (rnum b1 b1_1 b1_2).2.2).2.2).2.1 (rnum b1 (rnum b1 (rnum b1 b1_1 b1_2).2.1 (rnum b1 b1_1 b1_2).2.2).2.1 (rnum b1 (rnum b1 b1_1 b1_2).2.1 (rnum b1 b1_1 b1_2).2.2).2.2).2.2).2.1 (rnum b1 (rnum b1 (rnum b1 (rnum b1 b1_1 b1_2).2.1 (rnum b1 b1_1 b1_2).2.2).2.1 (rnum b1 (rnum b1 b1_1 b1_2).2.1 (rnum b1 b1_1 b1_2).2.2).2.2).2.1 (rnum b1 (rnum b1 (rnum b1 b1_1 b1_2).2.1 (rnum b1 b1_1 b1_2).2.2).2.1 (rnum b1 (rnum b1 b1_1 b1_2).2.1 (rnum b1 b1_1 b1_2).2.2).2.2).2.2).2.2).2.2).2.2).2.1 (rnum b1 (rnum b1 (rnum b1 (rnum b1 (rnum b1 (rnum b1 (rnum b1 b1_1 b1_2).2.1 (rnum b1 b1_1 b1_2).2.2).2.1 (rnum b1 (rnum b1 b1_1 b1_2).2.1 (rnum b1 b1_1 b1_2).2.2).2.2).2.1 (rnum b1 (rnum b1 (rnum b1 b1_1 b1_2).2.1 (rnum b1 b1_1 b1_2).2.2).2.1 (rnum b1 (rnum b1 b1_1 b1_2).2.1 (rnum b1 b1_1 b1_2).2.2).2.2).2.2).2.1 (rnum b1 (rnum b1 (rnum b1 (rnum b1 b1_1 b1_2).2.1 (rnum b1 b1_1 b1_2).2.2).2.1 (rnum b1 (rnum b1 b1_1 b1_2).2.1 (rnum b1 b1_1 b1_2).2.2).2.2).2.1 (rnum b1 (rnum b1 (rnum b1 b1_1 b1_2).2.1 (rnum b1 b1_1 b1_2).2.2).2.1 (rnum b1 (rnum b1 b1_1 b1_2).2.1 (rnum b1 b1_1 b1_2).2.2).2.2).2.2).2.2).2.1 (rnum b1 (rnum b1 (rnum b1 (rnum b1 (rnum b1 b1_1 b1_2).2.1 (rnum b1 b1_1 b1_2).2.2).2.1 (rnum b1 (rnum b1 b1_1 b1_2).2.1 (rnum b1 b1_1 b1_2).2.2).2.2).2.1 (rnum b1 (rnum b1 (rnum b1 b1_1 b1_2).2.1 (rnum b1 b1_1 b1_2).2.2).2.1 (rnum b1 (rnum b1 b1_1 b1_2).2.1 (rnum b1 b1_1 b1_2).2.2).2.2).2.2).2.1 (rnum b1 (rnum b1 (rnum b1 (rnum b1 b1_1 b1_2).2.1 (rnum b1 b1_1 b1_2).2.2).2.1 (rnum b1 (rnum b1 b1_1 b1_2).2.1 (rnum b1 b1_1 b1_2).2.2).2.2).2.1 (rnum b1 (rnum b1 (rnum b1 b1_1 b1_2).2.1 (rnum b1 b1_1 b1_2).2.2).2.1 (rnum b1 (rnum b1 b1_1 b1_2).2.1 (rnum b1 b1_1 b1_2).2.2).2.2).2.2).2.2).2.2).2.1 (rnum b1 (rnum b1 (rnum b1 (rnum b1 (rnum b1 (rnum b1 b1_1 b1_2).2.1 (rnum b1 b1_1 b1_2).2.2).2.1 (rnum b1 (rnum b1 b1_1 b1_2).2.1 (rnum b1 b1_1 b1_2).2.2).2.2).2.1 (rnum b1 (rnum b1 (rnum b1 b1_1 b1_2).2.1 (rnum b1 b1_1 b1_2).2.2).2.1 (rnum b1 (rnum b1 b1_1 b1_2).2.1 (rnum b1 b1_1 b1_2).2.2).2.2).2.2).2.1 (rnum b1 (rnum b1 (rnum b1 (rnum b1 b1_1 b1_2).2.1 (rnum b1 b1_1 b1_2).2.2).2.1 (rnum b1 (rnum b1 b1_1 b1_2).2.1 (rnum b1 b1_1 b1_2).2.2).2.2).2.1 (rnum b1 (rnum b1 (rnum b1 b1_1 b1_2).2.1 (rnum b1 b1_1 b1_2).2.2).2.1 (rnum b1 (rnum b1 b1_1 b1_2).2.1 (rnum b1 b1_1 b1_2).2.2).2.2).2.2).2.2).2.1 (rnum b1 (rnum b1 (rnum b1 (rnum b1 (rnum b1 b1_1 b1_2).2.1 (rnum b1 b1_1 b1_2).2.2).2.1 (rnum b1 (rnum b1 b1_1 b1_2).2.1 (rnum b1 b1_1 b1_2).2.2).2.2).2.1 (rnum b1 (rnum b1 (rnum b1 b1_1 b1_2).2.1 (rnum b1 b1_1 b1_2).2.2).2.1 (rnum b1 (rnum b1 b1_1 b1_2).2.1 (rnum b1 b1_1 b1_2).2.2).2.2).2.2).2.1 (rnum b1 (rnum b1 (rnum b1 (rnum b1 b1_1 b1_2).2.1 (rnum b1 b1_1 b1_2).2.2).2.1 (rnum b1 (rnum b1 b1_1 b1_2).2.1 (rnum b1 b1_1 b1_2).2.2).2.2).2.1 (rnum b1 (rnum b1 (rnum b1 b1_1 b1_2).2.1 (rnum b1 b1_1 b1_2).2.2).2.1 (rnum b1 (rnum b1 b1_1 b1_2).2.1 (rnum b1 b1_1 b1_2).2.2).2.2).2.2).2.2).2.2).2.2).2.2 b2 b2_1 (b2_2 ++ [[Cell.int .i64 (rnum b1 b1_1 b1_2).1, Cell.int .i64 (rnum b1 (rnum b1 b1_1 b1_2).2.1 (rnum b1 b1_1 b1_2).2.2).1, Cell.int .i64 (rnum b1 (rnum b1 (rnum b1 b1_1 b1_2).2.1 (rnum b1 b1_1 b1_2).2.2).2.1 (rnum b1 (rnum b1 b1_1 b1_2).2.1 (rnum b1 b1_1 b1_2).2.2).2.2).1, Cell.int .i64 (rnum b1 (rnum b1 (rnum b1 (rnum b1 b1_1 b1_2).2.1 (rnum b1 b1_1 b1_2).2.2).2.1 (rnum b1 (rnum b1 b1_1 b1_2).2.1 (rnum b1 b1_1 b1_2).2.2).2.2).2.1 (rnum b1 (rnum b1 (rnum b1 b1_1 b1_2).2.1 (rnum b1 b1_1 b1_2).2.2).2.1 (rnum b1 (rnum b1 b1_1 b1_2).2.1 (rnum b1 b1_1 b1_2).2.2).2.2).2.2).1, Cell.int .i64 (rnum b1 (rnum b1 (rnum b1 (rnum b1 (rnum b1 b1_1 b1_2).2.1 (rnum b1 b1_1 b1_2).2.2).2.1 (rnum b1 (rnum b1 b1_1 b1_2).2.1 (rnum b1 b1_1 b1_2).2.2).2.2).2.1 (rnum b1 (rnum b1 (rnum b1 b1_1 b1_2).2.1 (rnum b1 b1_1 b1_2).2.2).2.1 (rnum b1 (rnum b1 b1_1 b1_2).2.1 (rnum b1 b1_1 b1_2).2.2).2.2).2.2).2.1 (rnum b1 (rnum b1 (rnum b1 (rnum b1 b1_1 b1_2).2.1 (rnum b1 b1_1 b1_2).2.2).2.1 (rnum b1 (rnum b1 b1_1 b1_2).2.1 (rnum b1 b1_1 b1_2).2.2).2.2).2.1 (rnum b1 (rnum b1 (rnum b1 b1_1 b1_2).2.1 (rnum b1 b1_1 b1_2).2.2).2.1 (rnum b1 (rnum b1 b1_1 b1_2).2.1 (rnum b1 b1_1 b1_2).2.2).2.2).2.2).2.2).1, Cell.int .i64 (rnum b1 (rnum b1 (rnum b1 (rnum b1 (rnum b1 (rnum b1 b1_1 b1_2).2.1 (rnum b1 b1_1 b1_2).2.2).2.1 (rnum b1 (rnum b1 b1_1 b1_2).2.1 (rnum b1 b1_1 b1_2).2.2).2.2).2.1 (rnum b1 (rnum b1 (rnum b1 b1_1 b1_2).2.1 (rnum b1 b1_1 b1_2).2.2).2.1 (rnum b1 (rnum b1 b1_1 b1_2).2.1 (rnum b1 b1_1 b1_2).2.2).2.2).2.2).2.1 (rnum b1 (rnum b1 (rnum b1 (rnum b1 b1_1 b1_2).2.1 (rnum b1 b1_1 b1_2).2.2).2.1 (rnum b1 (rnum b1 b1_1 b1_2).2.1 (rnum b1 b1_1 b1_2).2.2).2.2).2.1 (rnum b1 (rnum b1 (rnum b1 b1_1 b1_2).2.1 (rnum b1 b1_1 b1_2).2.2).2.1 (rnum b1 (rnum b1 b1_1 b1_2).2.1 (rnum b1 b1_1 b1_2).2.2).2.2).2.2).2.2).2.1 (rnum b1 (rnum b1 (rnum b1 (rnum b1 (rnum b1 b1_1 b1_2).2.1 (rnum b1 b1_1 b1_2).2.2).2.1 (rnum b1 (rnum b1 b1_1 b1_2).2.1 (rnum b1 b1_1 b1_2).2.2).2.2).2.1 (rnum b1 (rnum b1 (rnum b1 b1_1 b1_2).2.1 (rnum b1 b1_1 b1_2).2.2).2.1 (rnum b1 (rnum b1 b1_1 b1_2).2.1 (rnum b1 b1_1 b1_2).2.2).2.2).2.2).2.1 (rnum b1 (rnum b1 (rnum b1 (rnum b1 b1_1 b1_2).2.1 (rnum b1 b1_1 b1_2).2.2).2.1 (rnum b1 (rnum b1 b1_1 b1_2).2.1 (rnum b1 b1_1 b1_2).2.2).2.2).2.1 (rnum b1 (rnum b1 (rnum b1 b1_1 b1_2).2.1 (rnum b1 b1_1 b1_2).2.2).2.1 (rnum b1 (rnum b1 b1_1 b1_2).2.1 (rnum b1 b1_1 b1_2).2.2).2.2).2.2).2.2).2.2).1, Cell.int .i64 (rnum b1 (rnum b1 (rnum b1 (rnum b1 (rnum b1 (rnum b1 (rnum b1 b1_1 b1_2).2.1 (rnum b1 b1_1 b1_2).2.2).2.1 (rnum b1 (rnum b1 b1_1 b1_2).2.1 (rnum b1 b1_1 b1_2).2.2).2.2).2.1 (rnum b1 (rnum b1 (rnum b1 b1_1 b1_2).2.1 (rnum b1 b1_1 b1_2).2.2).2.1 (rnum b1 (rnum b1 b1_1 b1_2).2.1 (rnum b1 b1_1 b1_2).2.2).2.2).2.2).2.1 (rnum b1 (rnum b1 (rnum b1 (rnum b1 b1_1 b1_2).2.1 (rnum b1 b1_1 b1_2).2.2).2.1 (rnum b1 (rnum b1 b1_1 b1_2).2.1 (rnum b1 b1_1 b1_2).2.2).2.2).2.1 (rnum b1 (rnum b1 (rnum b1 b1_1 b1_2).2.1 (rnum b1 b1_1 b1_2).2.2).2.1 (rnum b1 (rnum b1 b1_1 b1_2).2.1 (rnum b1 b1_1 b1_2).2.2).2.2).2.2).2.2).2.1 (rnum b1 (rnum b1 (rnum b1 (rnum b1 (rnum b1 b1_1 b1_2).2.1 (rnum b1 b1_1 b1_2).2.2).2.1 (rnum b1 (rnum b1 b1_1 b1_2).2.1 (rnum b1 b1_1 b1_2).2.2).2.2).2.1 (rnum b1 (rnum b1 (rnum b1 b1_1 b1_2).2.1 (rnum b1 b1_1 b1_2).2.2).2.1 (rnum b1 (rnum b1 b1_1 b1_2).2.1 (rnum b1 b1_1 b1_2).2.2).2.2).2.2).2.1 (rnum b1 (rnum b1 (rnum b1 (rnum b1 b1_1 b1_2).2.1 (rnum b1 b1_1 b1_2).2.2).2.1 (rnum b1 (rnum b1 b1_1 b1_2).2.1 (rnum b1 b1_1 b1_2).2.2).2.2).2.1 (rnum b1 (rnum b1 (rnum b1 b1_1 b1_2).2.1 (rnum b1 b1_1 b1_2).2.2).2.1 (rnum b1 (rnum b1 b1_1 b1_2).2.1 (rnum b1 b1_1 b1_2).2.2).2.2).2.2).2.2).2.2).2.1 (rnum b1 (rnum b1 (rnum b1 (rnum b1 (rnum b1 (rnum b1 b1_1 b1_2).2.1 (rnum b1 b1_1 b1_2).2.2).2.1 (rnum b1 (rnum b1 b1_1 b1_2).2.1 (rnum b1 b1_1 b1_2).2.2).2.2).2.1 (rnum b1 (rnum b1 (rnum b1 b1_1 b1_2).2.1 (rnum b1 b1_1 b1_2).2.2).2.1 (rnum b1 (rnum b1 b1_1 b1_2).2.1 (rnum b1 b1_1 b1_2).2.2).2.2).2.2).2.1 (rnum b1 (rnum b1 (rnum b1 (rnum b1 b1_1 b1_2).2.1 (rnum b1 b1_1 b1_2).2.2).2.1 (rnum b1 (rnum b1 b1_1 b1_2).2.1 (rnum b1 b1_1 b1_2).2.2).2.2).2.1 (rnum b1 (rnum b1 (rnum b1 b1_1 b1_2).2.1 (rnum b1 b1_1 b1_2).2.2).2.1 (rnum b1 (rnum b1 b1_1 b1_2).2.1 (rnum b1 b1_1 b1_2).2.2).2.2).2.2).2.2).2.1 (rnum b1 (rnum b1 (rnum b1 (rnum b1 (rnum b1 b1_1 b1_2).2.1 (rnum b1 b1_1 b1_2).2.2).2.1 (rnum b1 (rnum b1 b1_1 b1_2).2.1 (rnum b1 b1_1 b1_2).2.2).2.2).2.1 (rnum b1 (rnum b1 (rnum b1 b1_1 b1_2).2.1 (rnum b1 b1_1 b1_2).2.2).2.1 (rnum b1 (rnum b1 b1_1 b1_2).2.1 (rnum b1 b1_1 b1_2).2.2).2.2).2.2).2.1 (rnum b1 (rnum b1 (rnum b1 (rnum b1 b1_1 b1_2).2.1 (rnum b1 b1_1 b1_2).2.2).2.1 (rnum b1 (rnum b1 b1_1 b1_2).2.1 (rnum b1 b1_1 b1_2).2.2).2.2).2.1 (rnum b1 (rnum b1 (rnum b1 b1_1 b1_2).2.1 (rnum b1 b1_1 b1_2).2.2).2.1 (rnum b1 (rnum b1 b1_1 b1_2).2.1 (rnum b1 b1_1 b1_2).2.2).2.2).2.2).2.2).2.2).2.2).1]])))
            none)
           none)
          none)
         none)
        none)
       none)
      none)
     none)
    (cond (b1_2 == 0)
     (cond (decide (b2_2.length < 4611686018427387904))
      (cond ((vProp b2 b2_1 b2_2) != 0)
       (some ([.agg [.int .i64 0, .int .i64 0, .sl true 25 ([] : List (List Cell))], .one (.int .i64 0), .one (.int .i64 (vProp b2 b2_1 b2_2))], []))
       (some ([.agg [.int .i64 b2, .int .i64 b2_1, .sl true 25 b2_2], .one (.int .i64 b1_1), .one (.int .i64 0)], [])))
      none)
     (cond (b1_2 != 0)
      (some ([.agg [.int .i64 0, .int .i64 0, .sl true 25 ([] : List (List Cell))], .one (.int .i64 0), .one (.int .i64 b1_2)], []))
      (some ([.agg [.int .i64 b2, .int .i64 b2_1, .sl true 25 b2_2], .one (.int .i64 b1_1), .one (.int .i64 0)], [])))))
   (cond (b1_2 == 0)
    (cond (decide (b2_2.length < 4611686018427387904))
     (cond ((vProp b2 b2_1 b2_2) != 0)
      (some ([.agg [.int .i64 0, .int .i64 0, .sl true 25 ([] : List (List Cell))], .one (.int .i64 0), .one (.int .i64 (vProp b2 b2_1 b2_2))], []))
      (some ([.agg [.int .i64 b2, .int .i64 b2_1, .sl true 25 b2_2], .one (.int .i64 b1_1), .one (.int .i64 0)], [])))
     none)
    (cond (b1_2 != 0)
     (some ([.agg [.int .i64 0, .int .i64 0, .sl true 25 ([] : List (List Cell))], .one (.int .i64 0), .one (.int .i64 b1_2)], []))
     (some ([.agg [.int .i64 b2, .int .i64 b2_1, .sl true 25 b2_2], .one (.int .i64 b1_1), .one (.int .i64 0)], []))))) := by kernel_rfl

/- elasticstore/elasticstoreref06.Number -/
theorem e42 (m : Nat) (x : List (List Cell)) : runF E (callOf L20) (m + 1) 42 [.one (.sl false 5 x)] [] =
  (cond (okRd x)
   (cond ((udec x).2.2 != 0)
    (some ([.one (.int .i64 0), .one (.int .i64 0), .one (.int .i64 (udec x).2.2)], []))
    (cond (decide ((udec x).1 > 2147483647))
     (some ([.one (.int .i64 0), .one (.int .i64 0), .one (.int .i64 9)], []))
     (some ([.one (.int .i64 (IntKind.wrap .i64 (udec x).1)), .one (.int .i64 (udec x).2.1), .one (.int .i64 0)], []))))
   none) := by kernel_rfl

/- elasticstore/elasticstoreref06.Read -/
noncomputable def P35_0 : List AItem := F35.at [.snd, .snd, .snd, .fst, .snd, .sub, .head]
def M35_0 (t0 : List (List Cell)) (t1 : Int) (t7 : List (List Cell)) (t8 : Int) (t9 : Int) : St := ⟨[(0, .one (.sl false 5 t0)), (1, .one (.int .i64 t1)), (7, .one (.sl true 3 t7)), (8, .one (.int .i64 t8)), (9, .one (.int .i64 t9))], []⟩
theorem e35 (m : Nat) (x : List (List Cell)) (c : Int) : runF E (callOf L42) (m + 1) 35 [.one (.sl false 5 x), .one (.int .i64 c)] [] =
  (goF E (callOf L42) F35 0 m P35_0 (M35_0 x c ([] : List (List Cell)) 0 0)) := by kernel_rfl
theorem e35_0 (m : Nat) (t0 : List (List Cell)) (t1 : Int) (t7 : List (List Cell)) (t8 : Int) (t9 : Int) : goF E (callOf L42) F35 0 (m + 1) P35_0 (M35_0 t0 t1 t7 t8 t9) =
  (cond (decide (t9 < t1))
   (cond (inB t8 (t0.length + 1))
    (cond (okRd (dropN t0 (Int.toNat t8)))
     (cond ((rnum2 (dropN t0 (Int.toNat t8))).2.2 != 0)
      (some ([.one (.sl true 3 ([] : List (List Cell))), .one (.int .i64 0), .one (.int .i64 (rnum2 (dropN t0 (Int.toNat t8))).2.2)], []))
      (cond (fits (t7.length + [[Cell.int .i64 (rnum2 (dropN t0 (Int.toNat t8))).1]].length))
       (goF E (callOf L42) F35 0 m P35_0 (M35_0 t0 t1 (t7 ++ [[Cell.int .i64 (rnum2 (dropN t0 (Int.toNat t8))).1]]) (IntKind.wrap .i64 (t8 + (rnum2 (dropN t0 (Int.toNat t8))).2.1)) (IntKind.wrap .i64 (t9 + 1))))
       none))
     none)
    none)
   (some ([.one (.sl true 3 t7), .one (.int .i64 t8), .one (.int .i64 0)], []))) := by kernel_rfl

/- elasticstore/elasticstoreref06.Numbers -/
noncomputable def P34_0 : List AItem := F34.at [.snd, .fst, .snd, .sub, .head]
def M34_0 (t0 : List (List Cell)) (t1 : List (List Cell)) (t5 : Int) : St := ⟨[(0, .one (.sl false 5 t0)), (1, .one (.sl false 3 t1)), (5, .one (.int .i64 t5))], []⟩
theorem e34 (m : Nat) (x : List (List Cell)) (l : List (List Cell)) : runF E (callOf L35) (m + 1) 34 [.one (.sl false 5 x), .one (.sl false 3 l)] [] =
  (goF E (callOf L35) F34 0 m P34_0 (M34_0 x l 0)) := by kernel_rfl
theorem e34_0 (m : Nat) (t0 : List (List Cell)) (t1 : List (List Cell)) (t5 : Int) : goF E (callOf L35) F34 0 (m + 1) P34_0 (M34_0 t0 t1 t5) =
  (cond (decide (t5 < (t1.length : Int)))
   (cond (inB t5 t1.length)
    (cond (okEnc t0 (IntKind.wrap .u64 (nr (Abs.rowAt t1 (Int.toNat t5)) 0)))
     (goF E (callOf L35) F34 0 m P34_0 (M34_0 (t0 ++ uenc (IntKind.wrap .u64 (nr (Abs.rowAt t1 (Int.toNat t5)) 0))) t1 (IntKind.wrap .i64 (t5 + 1))))
     none)
    none)
   (some ([.one (.sl false 5 t0)], []))) := by kernel_rfl

/- elasticstore/elasticstoreref06.AppendProposal -/
noncomputable def P21_0 : List AItem := F21.at [.snd, .snd, .fst, .snd, .sub, .head]
def M21_0 (t0 : List (List Cell)) (t5 : Int) (b0 : Int) (b0_1 : Int) (b0_2 : List (List Cell)) : St := ⟨[(0, .one (.sl false 5 t0)), (3, .one (.ptr 0 0)), (5, .one (.int .i64 t5))], [.var [.int .i64 b0, .int .i64 b0_1, .sl false 25 b0_2]]⟩
theorem e21 (m : Nat) (x : List (List Cell)) (ap : Int) (np : Int) (cp : List (List Cell)) : runF E (callOf L34) (m + 1) 21 [.one (.sl false 5 x), .agg [.int .i64 ap, .int .i64 np, .sl false 25 cp]] [] =
  (cond (okNums x [[Cell.int .i64 ap], [Cell.int .i64 np], [Cell.int .i64 (cp.length : Int)]])
   (goF E (callOf L34) F21 0 m P21_0 (M21_0 (x ++ encL [[Cell.int .i64 ap], [Cell.int .i64 np], [Cell.int .i64 (cp.length : Int)]]) 0 ap np cp))
   none) := by kernel_rfl
theorem e21_0 (m : Nat) (t0 : List (List Cell)) (t5 : Int) (b0 : Int) (b0_1 : Int) (b0_2 : List (List Cell)) : goF E (callOf L34) F21 0 (m + 1) P21_0 (M21_0 t0 t5 b0 b0_1 b0_2) =
  (cond (decide (t5 < (b0_2.length : Int)))
   (cond (inB t5 b0_2.length)
    (cond (okNums t0 [[Cell.int .i64 (nr (Abs.rowAt b0_2 (Int.toNat t5)) 0)], [Cell.int .i64 (nr (Abs.rowAt b0_2 (Int.toNat t5)) 1)], [Cell.int .i64 (nr (Abs.rowAt b0_2 (Int.toNat t5)) 2)], [Cell.int .i64 (nr (Abs.rowAt b0_2 (Int.toNat t5)) 3)], [Cell.int .i64 (nr (Abs.rowAt b0_2 (Int.toNat t5)) 4)], [Cell.int .i64 (nr (Abs.rowAt b0_2 (Int.toNat t5)) 5)], [Cell.int .i64 (nr (Abs.rowAt b0_2 (Int.toNat t5)) 6)]])
     (goF E (callOf L34) F21 0 m P21_0 (M21_0 (t0 ++ encL [[Cell.int .i64 (nr (Abs.rowAt b0_2 (Int.toNat t5)) 0)], [Cell.int .i64 (nr (Abs.rowAt b0_2 (Int.toNat t5)) 1)], [Cell.int .i64 (nr (Abs.rowAt b0_2 (Int.toNat t5)) 2)], [Cell.int .i64 (nr (Abs.rowAt b0_2 (Int.toNat t5)) 3)], [Cell.int .i64 (nr (Abs.rowAt b0_2 (Int.toNat t5)) 4)], [Cell.int .i64 (nr (Abs.rowAt b0_2 (Int.toNat t5)) 5)], [Cell.int .i64 (nr (Abs.rowAt b0_2 (Int.toNat t5)) 6)]]) (IntKind.wrap .i64 (t5 + 1)) b0 b0_1 b0_2))
     none)
    none)
   (some ([.one (.sl false 5 t0)], []))) := by kernel_rfl
noncomputable def P21_0_c1 : List AItem := F21.at [.snd, .snd, .fst, .snd, .sub, .head]
def M21_0_c1 (t0 : List (List Cell)) (t5 : Int) (b0 : Int) (b0_1 : Int) (b0_2 : List (List Cell)) : St := ⟨[(0, .one (.sl false 5 t0)), (3, .one (.ptr 0 0)), (5, .one (.int .i64 t5))], [.var [.int .i64 b0, .int .i64 b0_1, .sl false 25 b0_2]]⟩
theorem e21_c1 (m : Nat) (ap : Int) (np : Int) (cp : List (List Cell)) : runF E (callOf L34) (m + 1) 21 [.one (.nils), .agg [.int .i64 ap, .int .i64 np, .sl false 25 cp]] [] =
  (cond (okNums ([] : List (List Cell)) [[Cell.int .i64 ap], [Cell.int .i64 np], [Cell.int .i64 (cp.length : Int)]])
   (goF E (callOf L34) F21 0 m P21_0_c1 (M21_0_c1 (([] : List (List Cell)) ++ encL [[Cell.int .i64 ap], [Cell.int .i64 np], [Cell.int .i64 (cp.length : Int)]]) 0 ap np cp))
   none) := by kernel_rfl
theorem e21_0_c1 (m : Nat) (t0 : List (List Cell)) (t5 : Int) (b0 : Int) (b0_1 : Int) (b0_2 : List (List Cell)) : goF E (callOf L34) F21 0 (m + 1) P21_0_c1 (M21_0_c1 t0 t5 b0 b0_1 b0_2) =
  (cond (decide (t5 < (b0_2.length : Int)))
   (cond (inB t5 b0_2.length)
    (cond (okNums t0 [[Cell.int .i64 (nr (Abs.rowAt b0_2 (Int.toNat t5)) 0)], [Cell.int .i64 (nr (Abs.rowAt b0_2 (Int.toNat t5)) 1)], [Cell.int .i64 (nr (Abs.rowAt b0_2 (Int.toNat t5)) 2)], [Cell.int .i64 (nr (Abs.rowAt b0_2 (Int.toNat t5)) 3)], [Cell.int .i64 (nr (Abs.rowAt b0_2 (Int.toNat t5)) 4)], [Cell.int .i64 (nr (Abs.rowAt b0_2 (Int.toNat t5)) 5)], [Cell.int .i64 (nr (Abs.rowAt b0_2 (Int.toNat t5)) 6)]])
     (goF E (callOf L34) F21 0 m P21_0_c1 (M21_0_c1 (t0 ++ encL [[Cell.int .i64 (nr (Abs.rowAt b0_2 (Int.toNat t5)) 0)], [Cell.int .i64 (nr (Abs.rowAt b0_2 (Int.toNat t5)) 1)], [Cell.int .i64 (nr (Abs.rowAt b0_2 (Int.toNat t5)) 2)], [Cell.int .i64 (nr (Abs.rowAt b0_2 (Int.toNat t5)) 3)], [Cell.int .i64 (nr (Abs.rowAt b0_2 (Int.toNat t5)) 4)], [Cell.int .i64 (nr (Abs.rowAt b0_2 (Int.toNat t5)) 5)], [Cell.int .i64 (nr (Abs.rowAt b0_2 (Int.toNat t5)) 6)]]) (IntKind.wrap .i64 (t5 + 1)) b0 b0_1 b0_2))
     none)
    none)
   (some ([.one (.sl false 5 t0)], []))) := by kernel_rfl

/- elasticstore/elasticstoreref06.DecodeProposal -/
noncomputable def P22_0 : List AItem := F22.at [.snd, .snd, .snd, .snd, .snd, .fst, .snd, .sub, .head]
def M22_0 (t0 : List (List Cell)) (t5 : List (List Cell)) (t6 : Int) (t9 : Int) (b0 : Int) (b0_1 : Int) (b0_2 : List (List Cell)) (b1 : Int) (b1_1 : Int) (b1_2 : List (List Cell)) : St := ⟨[(0, .one (.sl false 5 t0)), (2, .one (.ptr 0 0)), (5, .one (.sl false 3 t5)), (6, .one (.int .i64 t6)), (8, .one (.ptr 1 0)), (9, .one (.int .i64 t9))], [.var [.int .i64 b0, .int .i64 b0_1, .sl true 25 b0_2], .var [.int .i64 b1, .int .i64 b1_1, .sl true 25 b1_2]]⟩
theorem e22 (m : Nat) (x : List (List Cell)) : runF E (callOf L21) (m + 1) 22 [.one (.sl false 5 x)] [] =
  (cond (okRd x && decide (3 ≤ 1000))
   (cond ((rread x 3).2.2 != 0)
    (some ([.agg [.int .i64 0, .int .i64 0, .sl true 25 ([] : List (List Cell))], .one (.int .i64 0), .one (.int .i64 (rread x 3).2.2)], []))
    (cond (inB 2 (rread x 3).1.length)
     (cond (decide ((nr (Abs.rowAt (rread x 3).1 2) 0) > 6))
      (some ([.agg [.int .i64 0, .int .i64 0, .sl true 25 ([] : List (List Cell))], .one (.int .i64 0), .one (.int .i64 3)], []))
      (cond (inB 0 (rread x 3).1.length)
       (cond (inB 1 (rread x 3).1.length)
        (goF E (callOf L21) F22 0 m P22_0 (M22_0 x (rread x 3).1 (rread x 3).2.1 0 0 0 ([] : List (List Cell)) (nr (Abs.rowAt (rread x 3).1 0) 0) (nr (Abs.rowAt (rread x 3).1 1) 0) ([] : List (List Cell))))
        none)
       none))
     none))
   none) := by kernel_rfl
theorem e22_0 (m : Nat) (t0 : List (List Cell)) (t5 : List (List Cell)) (t6 : Int) (t9 : Int) (b0 : Int) (b0_1 : Int) (b0_2 : List (List Cell)) (b1 : Int) (b1_1 : Int) (b1_2 : List (List Cell)) : goF E (callOf L21) F22 0 (m + 1) P22_0 (M22_0 t0 t5 t6 t9 b0 b0_1 b0_2 b1 b1_1 b1_2) =
  (cond (inB 2 t5.length)
   (cond (decide (t9 < (nr (Abs.rowAt t5 2) 0)))
    (cond (inB t6 (t0.length + 1))
     (cond (okRd (dropN t0 (Int.toNat t6)) && decide (7 ≤ 1000))
      (cond ((rread (dropN t0 (Int.toNat t6)) 7).2.2 != 0)
       (some ([.agg [.int .i64 0, .int .i64 0, .sl true 25 ([] : List (List Cell))], .one (.int .i64 0), .one (.int .i64 (rread (dropN t0 (Int.toNat t6)) 7).2.2)], []))
       (cond (inB 0 (rread (dropN t0 (Int.toNat t6)) 7).1.length)
        (cond (inB 1 (rread (dropN t0 (Int.toNat t6)) 7).1.length)
         (cond (inB 2 (rread (dropN t0 (Int.toNat t6)) 7).1.length)
          (cond (inB 3 (rread (dropN t0 (Int.toNat t6)) 7).1.length)
           (cond (inB 4 (rread (dropN t0 (Int.toNat t6)) 7).1.length)
            (cond (inB 5 (rread (dropN t0 (Int.toNat t6)) 7).1.length)
             (cond (inB 6 (rread (dropN t0 (Int.toNat t6)) 7).1.length)
              (cond (fits (b1_2.length + [[Cell.int .i64 (nr (Abs.rowAt (rread (dropN t0 (Int.toNat t6)) 7).1 0) 0), Cell.int .i64 (nr (Abs.rowAt (rread (dropN t0 (Int.toNat t6)) 7).1 1) 0), Cell.int .i64 (nr (Abs.rowAt (rread (dropN t0 (Int.toNat t6)) 7).1 2) 0), Cell.int .i64 (nr (Abs.rowAt (rread (dropN t0 (Int.toNat t6)) 7).1 3) 0), Cell.int .i64 (nr (Abs.rowAt (rread (dropN t0 (Int.toNat t6)) 7).1 4) 0), Cell.int .i64 (nr (Abs.rowAt (rread (dropN t0 (Int.toNat t6)) 7).1 5) 0), Cell.int .i64 (nr (Abs.rowAt (rread (dropN t0 (Int.toNat t6)) 7).1 6) 0)]].length))
               (goF E (callOf L21) F22 0 m P22_0 (M22_0 t0 t5 (IntKind.wrap .i64 (t6 + (rread (dropN t0 (Int.toNat t6)) 7).2.1)) (IntKind.wrap .i64 (t9 + 1)) b0 b0_1 b0_2 b1 b1_1 (b1_2 ++ [[Cell.int .i64 (nr (Abs.rowAt (rread (dropN t0 (Int.toNat t6)) 7).1 0) 0), Cell.int .i64 (nr (Abs.rowAt (rread (dropN t0 (Int.toNat t6)) 7).1 1) 0), Cell.int .i64 (nr (Abs.rowAt (rread (dropN t0 (Int.toNat t6)) 7).1 2) 0), Cell.int .i64 (nr (Abs.rowAt (rread (dropN t0 (Int.toNat t6)) 7).1 3) 0), Cell.int .i64 (nr (Abs.rowAt (rread (dropN t0 (Int.toNat t6)) 7).1 4) 0), Cell.int .i64 (nr (Abs.rowAt (rread (dropN t0 (Int.toNat t6)) 7).1 5) 0), Cell.int .i64 (nr (Abs.rowAt (rread (dropN t0 (Int.toNat t6)) 7).1 6) 0)]])))
               none)
              none)
             none)
            none)
           none)
          none)
         none)
        none))
      none)
     none)
    (cond (decide (b1_2.length < 4611686018427387904))
     (cond ((vProp b1 b1_1 b1_2) != 0)
      (some ([.agg [.int .i64 0, .int .i64 0, .sl true 25 ([] : List (List Cell))], .one (.int .i64 0), .one (.int .i64 (vProp b1 b1_1 b1_2))], []))
      (some ([.agg [.int .i64 b1, .int .i64 b1_1, .sl true 25 b1_2], .one (.int .i64 t6), .one (.int .i64 0)], [])))
     none))
   none) := by kernel_rfl

/- elasticstore/elasticstorelaw00.Index -/
theorem e43 (m : Nat) (n : Int) (k : Int) : runF E (callOf L22) (m + 1) 43 [.one (.int .i64 n), .one (.int .i64 k)] [] =
  (cond (decide (k < 1))
   (some ([.one (.int .i64 0)], []))
   (cond (decide (k = 0))
    none
    (cond (decide (k = 0))
     none
     (some ([.one (.int .i64 (Int.tmod (IntKind.wrap .i64 ((Int.tmod n k) + k)) k))], []))))) := by kernel_rfl

/- elasticstore/elasticstorelaw00.Digit -/
noncomputable def P36_0 : List AItem := F36.at [.snd, .snd, .fst, .snd, .sub, .head]
def M36_0 (t1 : Int) (t2 : Int) (t7 : Int) (t8 : Int) : St := ⟨[(1, .one (.int .i64 t1)), (2, .one (.int .i64 t2)), (7, .one (.int .i64 t7)), (8, .one (.int .i64 t8))], []⟩
theorem e36 (m : Nat) (n : Int) (b : Int) (j : Int) : runF E (callOf L43) (m + 1) 36 [.one (.int .i64 n), .one (.int .i64 b), .one (.int .i64 j)] [] =
  (cond (decide (1099511627776 ≤ 4611686018427387904))
   (goF E (callOf L43) F36 0 m P36_0 (M36_0 b j (gIndex n 1099511627776) 0))
   none) := by kernel_rfl
theorem e36_0 (m : Nat) (t1 : Int) (t2 : Int) (t7 : Int) (t8 : Int) : goF E (callOf L43) F36 0 (m + 1) P36_0 (M36_0 t1 t2 t7 t8) =
  (cond (decide (t8 < t2))
   (cond (decide (t1 = 0))
    none
    (goF E (callOf L43) F36 0 m P36_0 (M36_0 t1 t2 (IntKind.wrap .i64 (Int.tdiv t7 t1)) (IntKind.wrap .i64 (t8 + 1)))))
   (cond (decide (t1 = 0))
    none
    (some ([.one (.int .i64 (Int.tmod t7 t1))], [])))) := by kernel_rfl

/- elasticstore/elasticstorelaw00.At -/
theorem e37 (m : Nat) (l : List (List Cell)) (j : Int) : runF E (callOf L36) (m + 1) 37 [.one (.sl false 3 l), .one (.int .i64 j)] [] =
  (cond ((l.length : Int) == 0)
   (some ([.one (.int .i64 0)], []))
   (cond (decide ((l.length : Int) ≤ 4611686018427387904))
    (cond (inB (gIndex j (l.length : Int)) l.length)
     (some ([.one (.int .i64 (nr (Abs.rowAt l (Int.toNat (gIndex j (l.length : Int)))) 0))], []))
     none)
    none)) := by kernel_rfl

/- elasticstore/elasticstorelaw00.Rule -/
theorem e44 (m : Nat) (n : Int) : runF E (callOf L37) (m + 1) 44 [.one (.int .i64 n)] [] =
  (cond (decide (2 ≤ 8) && decide (0 ≤ 9223372036854775807))
   (cond ((gDigit n 8 0) == 1)
    (cond ((gDigit n 8 0) == 1)
     (some ([.agg [.int .i64 2, .int .i64 0, .int .i64 0]], []))
     (cond ((gDigit n 8 0) == 3)
      (cond (decide (2 ≤ 4) && decide (2 ≤ 9223372036854775807))
       (some ([.agg [.int .i64 3, .int .i64 (IntKind.wrap .i64 (1 + (gDigit n 4 2))), .int .i64 0]], []))
       none)
      (cond ((gDigit n 8 0) == 4)
       (cond (decide (2 ≤ 2) && decide (3 ≤ 9223372036854775807))
        (some ([.agg [.int .i64 4, .int .i64 0, .int .i64 (gDigit n 2 3)]], []))
        none)
       (some ([.agg [.int .i64 1, .int .i64 0, .int .i64 0]], [])))))
    (cond ((gDigit n 8 0) == 2)
     (some ([.agg [.int .i64 2, .int .i64 0, .int .i64 0]], []))
     (cond ((gDigit n 8 0) == 3)
      (cond (decide (2 ≤ 4) && decide (2 ≤ 9223372036854775807))
       (some ([.agg [.int .i64 3, .int .i64 (IntKind.wrap .i64 (1 + (gDigit n 4 2))), .int .i64 0]], []))
       none)
      (cond ((gDigit n 8 0) == 4)
       (cond (decide (2 ≤ 2) && decide (3 ≤ 9223372036854775807))
        (some ([.agg [.int .i64 4, .int .i64 0, .int .i64 (gDigit n 2 3)]], []))
        none)
       (some ([.agg [.int .i64 1, .int .i64 0, .int .i64 0]], []))))))
   none) := by kernel_rfl

/- elasticstore/elasticstorelaw00.Change -/
theorem e38 (m : Nat) (n : Int) : runF E (callOf L44) (m + 1) 38 [.one (.int .i64 n)] [] =
  (cond (decide (2 ≤ 8) && decide (1 ≤ 9223372036854775807))
   (cond (decide (2 ≤ 8) && decide (0 ≤ 9223372036854775807))
    (cond ((gDigit n 8 0) == 0)
     (cond ((gDigit n 8 0) == 0)
      (cond (decide (2 ≤ 4) && decide (3 ≤ 9223372036854775807))
       (some ([.agg [.int .i64 1, .int .i64 (IntKind.wrap .i64 (1 + (gDigit n 8 1))), .int .i64 (IntKind.wrap .i64 (1 + (gDigit n 4 3))), .int .i64 0, .int .i64 0, .int .i64 0, .int .i64 0]], []))
       none)
      (cond ((gDigit n 8 0) == 3)
       (cond ((gDigit n 8 0) == 3)
        (some ([.agg [.int .i64 2, .int .i64 (IntKind.wrap .i64 (1 + (gDigit n 8 1))), .int .i64 0, .int .i64 0, .int .i64 0, .int .i64 0, .int .i64 0]], []))
        (cond ((gDigit n 8 0) == 5)
         (cond (decide (2 ≤ 4) && decide (3 ≤ 9223372036854775807))
          (cond (decide (2 ≤ 2) && decide (9 ≤ 9223372036854775807))
           (some ([.agg [.int .i64 3, .int .i64 (IntKind.wrap .i64 (1 + (gDigit n 8 1))), .int .i64 (IntKind.wrap .i64 (1 + (gDigit n 4 3))), .int .i64 (IntKind.wrap .i64 (1 + (gDigit n 2 9))), .int .i64 0, .int .i64 0, .int .i64 0]], []))
           none)
          none)
         (cond ((gDigit n 8 0) == 6)
          (cond (decide (2 ≤ 2) && decide (9 ≤ 9223372036854775807))
           (cond (decide (1099511627776 ≤ 4611686018427387904))
            (some ([.agg [.int .i64 4, .int .i64 0, .int .i64 0, .int .i64 (IntKind.wrap .i64 (1 + (gDigit n 2 9))), .int .i64 (gRule (IntKind.wrap .i64 (Int.tdiv (gIndex n 1099511627776) 64))).1, .int .i64 (gRule (IntKind.wrap .i64 (Int.tdiv (gIndex n 1099511627776) 64))).2.1, .int .i64 (gRule (IntKind.wrap .i64 (Int.tdiv (gIndex n 1099511627776) 64))).2.2]], []))
            none)
           none)
          (cond (decide (2 ≤ 12) && decide (1 ≤ 9223372036854775807))
           (some ([.agg [.int .i64 1, .int .i64 (IntKind.wrap .i64 (1 + (gDigit n 12 1))), .int .i64 1, .int .i64 0, .int .i64 0, .int .i64 0, .int .i64 0]], []))
           none))))
       (cond ((gDigit n 8 0) == 4)
        (some ([.agg [.int .i64 2, .int .i64 (IntKind.wrap .i64 (1 + (gDigit n 8 1))), .int .i64 0, .int .i64 0, .int .i64 0, .int .i64 0, .int .i64 0]], []))
        (cond ((gDigit n 8 0) == 5)
         (cond (decide (2 ≤ 4) && decide (3 ≤ 9223372036854775807))
          (cond (decide (2 ≤ 2) && decide (9 ≤ 9223372036854775807))
           (some ([.agg [.int .i64 3, .int .i64 (IntKind.wrap .i64 (1 + (gDigit n 8 1))), .int .i64 (IntKind.wrap .i64 (1 + (gDigit n 4 3))), .int .i64 (IntKind.wrap .i64 (1 + (gDigit n 2 9))), .int .i64 0, .int .i64 0, .int .i64 0]], []))
           none)
          none)
         (cond ((gDigit n 8 0) == 6)
          (cond (decide (2 ≤ 2) && decide (9 ≤ 9223372036854775807))
           (cond (decide (1099511627776 ≤ 4611686018427387904))
            (some ([.agg [.int .i64 4, .int .i64 0, .int .i64 0, .int .i64 (IntKind.wrap .i64 (1 + (gDigit n 2 9))), .int .i64 (gRule (IntKind.wrap .i64 (Int.tdiv (gIndex n 1099511627776) 64))).1, .int .i64 (gRule (IntKind.wrap .i64 (Int.tdiv (gIndex n 1099511627776) 64))).2.1, .int .i64 (gRule (IntKind.wrap .i64 (Int.tdiv (gIndex n 1099511627776) 64))).2.2]], []))
            none)
           none)
          (cond (decide (2 ≤ 12) && decide (1 ≤ 9223372036854775807))
           (some ([.agg [.int .i64 1, .int .i64 (IntKind.wrap .i64 (1 + (gDigit n 12 1))), .int .i64 1, .int .i64 0, .int .i64 0, .int .i64 0, .int .i64 0]], []))
           none))))))
     (cond ((gDigit n 8 0) == 1)
      (cond ((gDigit n 8 0) == 1)
       (cond (decide (2 ≤ 4) && decide (3 ≤ 9223372036854775807))
        (some ([.agg [.int .i64 1, .int .i64 (IntKind.wrap .i64 (1 + (gDigit n 8 1))), .int .i64 (IntKind.wrap .i64 (1 + (gDigit n 4 3))), .int .i64 0, .int .i64 0, .int .i64 0, .int .i64 0]], []))
        none)
       (cond ((gDigit n 8 0) == 3)
        (cond ((gDigit n 8 0) == 3)
         (some ([.agg [.int .i64 2, .int .i64 (IntKind.wrap .i64 (1 + (gDigit n 8 1))), .int .i64 0, .int .i64 0, .int .i64 0, .int .i64 0, .int .i64 0]], []))
         (cond ((gDigit n 8 0) == 5)
          (cond (decide (2 ≤ 4) && decide (3 ≤ 9223372036854775807))
           (cond (decide (2 ≤ 2) && decide (9 ≤ 9223372036854775807))
            (some ([.agg [.int .i64 3, .int .i64 (IntKind.wrap .i64 (1 + (gDigit n 8 1))), .int .i64 (IntKind.wrap .i64 (1 + (gDigit n 4 3))), .int .i64 (IntKind.wrap .i64 (1 + (gDigit n 2 9))), .int .i64 0, .int .i64 0, .int .i64 0]], []))
            none)
           none)
          (cond ((gDigit n 8 0) == 6)
           (cond (decide (2 ≤ 2) && decide (9 ≤ 9223372036854775807))
            (cond (decide (1099511627776 ≤ 4611686018427387904))
             (some ([.agg [.int .i64 4, .int .i64 0, .int .i64 0, .int .i64 (IntKind.wrap .i64 (1 + (gDigit n 2 9))), .int .i64 (gRule (IntKind.wrap .i64 (Int.tdiv (gIndex n 1099511627776) 64))).1, .int .i64 (gRule (IntKind.wrap .i64 (Int.tdiv (gIndex n 1099511627776) 64))).2.1, .int .i64 (gRule (IntKind.wrap .i64 (Int.tdiv (gIndex n 1099511627776) 64))).2.2]], []))
             none)
            none)
           (cond (decide (2 ≤ 12) && decide (1 ≤ 9223372036854775807))
            (some ([.agg [.int .i64 1, .int .i64 (IntKind.wrap .i64 (1 + (gDigit n 12 1))), .int .i64 1, .int .i64 0, .int .i64 0, .int .i64 0, .int .i64 0]], []))
            none))))
        (cond ((gDigit n 8 0) == 4)
         (some ([.agg [.int .i64 2, .int .i64 (IntKind.wrap .i64 (1 + (gDigit n 8 1))), .int .i64 0, .int .i64 0, .int .i64 0, .int .i64 0, .int .i64 0]], []))
         (cond ((gDigit n 8 0) == 5)
          (cond (decide (2 ≤ 4) && decide (3 ≤ 9223372036854775807))
           (cond (decide (2 ≤ 2) && decide (9 ≤ 9223372036854775807))
            (some ([.agg [.int .i64 3, .int .i64 (IntKind.wrap .i64 (1 + (gDigit n 8 1))), .int .i64 (IntKind.wrap .i64 (1 + (gDigit n 4 3))), .int .i64 (IntKind.wrap .i64 (1 + (gDigit n 2 9))), .int .i64 0, .int .i64 0, .int .i64 0]], []))
            none)
           none)
          (cond ((gDigit n 8 0) == 6)
           (cond (decide (2 ≤ 2) && decide (9 ≤ 9223372036854775807))
            (cond (decide (1099511627776 ≤ 4611686018427387904))
             (some ([.agg [.int .i64 4, .int .i64 0, .int .i64 0, .int .i64 (IntKind.wrap .i64 (1 + (gDigit n 2 9))), .int .i64 (gRule (IntKind.wrap .i64 (Int.tdiv (gIndex n 1099511627776) 64))).1, .int .i64 (gRule (IntKind.wrap .i64 (Int.tdiv (gIndex n 1099511627776) 64))).2.1, .int .i64 (gRule (IntKind.wrap .i64 (Int.tdiv (gIndex n 1099511627776) 64))).2.2]], []))
             none)
            none)
           (cond (decide (2 ≤ 12) && decide (1 ≤ 9223372036854775807))
            (some ([.agg [.int .i64 1, .int .i64 (IntKind.wrap .i64 (1 + (gDigit n 12 1))), .int .i64 1, .int .i64 0, .int .i64 0, .int .i64 0, .int .i64 0]], []))
            none))))))
      (cond ((gDigit n 8 0) == 2)
       (cond (decide (2 ≤ 4) && decide (3 ≤ 9223372036854775807))
        (some ([.agg [.int .i64 1, .int .i64 (IntKind.wrap .i64 (1 + (gDigit n 8 1))), .int .i64 (IntKind.wrap .i64 (1 + (gDigit n 4 3))), .int .i64 0, .int .i64 0, .int .i64 0, .int .i64 0]], []))
        none)
       (cond ((gDigit n 8 0) == 3)
        (cond ((gDigit n 8 0) == 3)
         (some ([.agg [.int .i64 2, .int .i64 (IntKind.wrap .i64 (1 + (gDigit n 8 1))), .int .i64 0, .int .i64 0, .int .i64 0, .int .i64 0, .int .i64 0]], []))
         (cond ((gDigit n 8 0) == 5)
          (cond (decide (2 ≤ 4) && decide (3 ≤ 9223372036854775807))
           (cond (decide (2 ≤ 2) && decide (9 ≤ 9223372036854775807))
            (some ([.agg [.int .i64 3, .int .i64 (IntKind.wrap .i64 (1 + (gDigit n 8 1))), .int .i64 (IntKind.wrap .i64 (1 + (gDigit n 4 3))), .int .i64 (IntKind.wrap .i64 (1 + (gDigit n 2 9))), .int .i64 0, .int .i64 0, .int .i64 0]], []))
            none)
           none)
          (cond ((gDigit n 8 0) == 6)
           (cond (decide (2 ≤ 2) && decide (9 ≤ 9223372036854775807))
            (cond (decide (1099511627776 ≤ 4611686018427387904))
             (some ([.agg [.int .i64 4, .int .i64 0, .int .i64 0, .int .i64 (IntKind.wrap .i64 (1 + (gDigit n 2 9))), .int .i64 (gRule (IntKind.wrap .i64 (Int.tdiv (gIndex n 1099511627776) 64))).1, .int .i64 (gRule (IntKind.wrap .i64 (Int.tdiv (gIndex n 1099511627776) 64))).2.1, .int .i64 (gRule (IntKind.wrap .i64 (Int.tdiv (gIndex n 1099511627776) 64))).2.2]], []))
             none)
            none)
           (cond (decide (2 ≤ 12) && decide (1 ≤ 9223372036854775807))
            (some ([.agg [.int .i64 1, .int .i64 (IntKind.wrap .i64 (1 + (gDigit n 12 1))), .int .i64 1, .int .i64 0, .int .i64 0, .int .i64 0, .int .i64 0]], []))
            none))))
        (cond ((gDigit n 8 0) == 4)
         (some ([.agg [.int .i64 2, .int .i64 (IntKind.wrap .i64 (1 + (gDigit n 8 1))), .int .i64 0, .int .i64 0, .int .i64 0, .int .i64 0, .int .i64 0]], []))
         (cond ((gDigit n 8 0) == 5)
          (cond (decide (2 ≤ 4) && decide (3 ≤ 9223372036854775807))
           (cond (decide (2 ≤ 2) && decide (9 ≤ 9223372036854775807))
            (some ([.agg [.int .i64 3, .int .i64 (IntKind.wrap .i64 (1 + (gDigit n 8 1))), .int .i64 (IntKind.wrap .i64 (1 + (gDigit n 4 3))), .int .i64 (IntKind.wrap .i64 (1 + (gDigit n 2 9))), .int .i64 0, .int .i64 0, .int .i64 0]], []))
            none)
           none)
          (cond ((gDigit n 8 0) == 6)
           (cond (decide (2 ≤ 2) && decide (9 ≤ 9223372036854775807))
            (cond (decide (1099511627776 ≤ 4611686018427387904))
             (some ([.agg [.int .i64 4, .int .i64 0, .int .i64 0, .int .i64 (IntKind.wrap .i64 (1 + (gDigit n 2 9))), .int .i64 (gRule (IntKind.wrap .i64 (Int.tdiv (gIndex n 1099511627776) 64))).1, .int .i64 (gRule (IntKind.wrap .i64 (Int.tdiv (gIndex n 1099511627776) 64))).2.1, .int .i64 (gRule (IntKind.wrap .i64 (Int.tdiv (gIndex n 1099511627776) 64))).2.2]], []))
             none)
            none)
           (cond (decide (2 ≤ 12) && decide (1 ≤ 9223372036854775807))
            (some ([.agg [.int .i64 1, .int .i64 (IntKind.wrap .i64 (1 + (gDigit n 12 1))), .int .i64 1, .int .i64 0, .int .i64 0, .int .i64 0, .int .i64 0]], []))
            none))))))))
    none)
   none) := by kernel_rfl

/- elasticstore/elasticstorelaw00.Pool -/
noncomputable def P23_0 : List AItem := F23.at [.snd, .snd, .snd, .fst, .snd, .sub, .head]
def M23_0 (t0 : List (List Cell)) (t3 : List (List Cell)) (t4 : Int) (t5 : Int) : St := ⟨[(0, .one (.sl false 3 t0)), (3, .one (.sl true 32 t3)), (4, .one (.int .i64 t4)), (5, .one (.int .i64 t5))], []⟩
noncomputable def P23_1 : List AItem := F23.at [.snd, .snd, .snd, .fst, .snd, .sub, .body, .snd, .fst, .sub, .snd, .sub, .head]
def M23_1 (t0 : List (List Cell)) (t3 : List (List Cell)) (t4 : Int) (t5 : Int) (t6 : Int) : St := ⟨[(0, .one (.sl false 3 t0)), (3, .one (.sl true 32 t3)), (4, .one (.int .i64 t4)), (5, .one (.int .i64 t5)), (6, .one (.int .i64 t6))], []⟩
theorem e23 (m : Nat) (l : List (List Cell)) : runF E (callOf L38) (m + 1) 23 [.one (.sl false 3 l)] [] =
  (goF E (callOf L38) F23 0 m P23_0 (M23_0 l ([] : List (List Cell)) 3 0)) := by kernel_rfl
theorem e23_0 (m : Nat) (t0 : List (List Cell)) (t3 : List (List Cell)) (t4 : Int) (t5 : Int) : goF E (callOf L38) F23 0 (m + 1) P23_0 (M23_0 t0 t3 t4 t5) =
  (cond (decide (t5 < 3))
   (goF E (callOf L38) F23 0 m P23_1 (M23_1 t0 t3 t4 t5 0))
   (some ([.one (.sl true 32 t3)], []))) := by kernel_rfl
theorem e23_1 (m : Nat) (t0 : List (List Cell)) (t3 : List (List Cell)) (t4 : Int) (t5 : Int) (t6 : Int) : goF E (callOf L38) F23 0 (m + 1) P23_1 (M23_1 t0 t3 t4 t5 t6) =
  (cond (decide (t0.length < 4611686018427387904))
   (cond (decide (2 ≤ 4) && decide (0 ≤ 9223372036854775807))
    (cond (decide (t6 < (gDigit (gAt t0 t5) 4 0)))
     (cond (decide (t0.length < 4611686018427387904))
      (cond (decide (t0.length < 4611686018427387904))
       (cond (decide (t0.length < 4611686018427387904))
        (cond (decide (2 ≤ 2) && decide (12 ≤ 9223372036854775807))
         (cond ((gDigit (gAt t0 t4) 2 12) == 1)
          (cond ((gCh (gAt t0 (IntKind.wrap .i64 (t4 + 1))) 0) != (nr (Abs.rowAt [[Cell.int .i64 (gCh (gAt t0 t4) 0), Cell.int .i64 (gCh (gAt t0 t4) 1), Cell.int .i64 (gCh (gAt t0 t4) 2), Cell.int .i64 (gCh (gAt t0 t4) 3), Cell.int .i64 (gCh (gAt t0 t4) 4), Cell.int .i64 (gCh (gAt t0 t4) 5), Cell.int .i64 (gCh (gAt t0 t4) 6)]] 0) 0))
           (cond (fits (t3.length + [[Cell.int .i64 (IntKind.wrap .i64 (201 + t5)), Cell.int .i64 (IntKind.wrap .i64 (t6 + 1)), Cell.slice 25 ([[Cell.int .i64 (gCh (gAt t0 t4) 0), Cell.int .i64 (gCh (gAt t0 t4) 1), Cell.int .i64 (gCh (gAt t0 t4) 2), Cell.int .i64 (gCh (gAt t0 t4) 3), Cell.int .i64 (gCh (gAt t0 t4) 4), Cell.int .i64 (gCh (gAt t0 t4) 5), Cell.int .i64 (gCh (gAt t0 t4) 6)]] ++ [[Cell.int .i64 (gCh (gAt t0 (IntKind.wrap .i64 (t4 + 1))) 0), Cell.int .i64 (gCh (gAt t0 (IntKind.wrap .i64 (t4 + 1))) 1), Cell.int .i64 (gCh (gAt t0 (IntKind.wrap .i64 (t4 + 1))) 2), Cell.int .i64 (gCh (gAt t0 (IntKind.wrap .i64 (t4 + 1))) 3), Cell.int .i64 (gCh (gAt t0 (IntKind.wrap .i64 (t4 + 1))) 4), Cell.int .i64 (gCh (gAt t0 (IntKind.wrap .i64 (t4 + 1))) 5), Cell.int .i64 (gCh (gAt t0 (IntKind.wrap .i64 (t4 + 1))) 6)]])]].length))
            (goF E (callOf L38) F23 0 m P23_1 (M23_1 t0 (t3 ++ [[Cell.int .i64 (IntKind.wrap .i64 (201 + t5)), Cell.int .i64 (IntKind.wrap .i64 (t6 + 1)), Cell.slice 25 ([[Cell.int .i64 (gCh (gAt t0 t4) 0), Cell.int .i64 (gCh (gAt t0 t4) 1), Cell.int .i64 (gCh (gAt t0 t4) 2), Cell.int .i64 (gCh (gAt t0 t4) 3), Cell.int .i64 (gCh (gAt t0 t4) 4), Cell.int .i64 (gCh (gAt t0 t4) 5), Cell.int .i64 (gCh (gAt t0 t4) 6)]] ++ [[Cell.int .i64 (gCh (gAt t0 (IntKind.wrap .i64 (t4 + 1))) 0), Cell.int .i64 (gCh (gAt t0 (IntKind.wrap .i64 (t4 + 1))) 1), Cell.int .i64 (gCh (gAt t0 (IntKind.wrap .i64 (t4 + 1))) 2), Cell.int .i64 (gCh (gAt t0 (IntKind.wrap .i64 (t4 + 1))) 3), Cell.int .i64 (gCh (gAt t0 (IntKind.wrap .i64 (t4 + 1))) 4), Cell.int .i64 (gCh (gAt t0 (IntKind.wrap .i64 (t4 + 1))) 5), Cell.int .i64 (gCh (gAt t0 (IntKind.wrap .i64 (t4 + 1))) 6)]])]]) (IntKind.wrap .i64 (t4 + 2)) t5 (IntKind.wrap .i64 (t6 + 1))))
            none)
           (cond ((gCh (gAt t0 (IntKind.wrap .i64 (t4 + 1))) 1) != (nr (Abs.rowAt [[Cell.int .i64 (gCh (gAt t0 t4) 0), Cell.int .i64 (gCh (gAt t0 t4) 1), Cell.int .i64 (gCh (gAt t0 t4) 2), Cell.int .i64 (gCh (gAt t0 t4) 3), Cell.int .i64 (gCh (gAt t0 t4) 4), Cell.int .i64 (gCh (gAt t0 t4) 5), Cell.int .i64 (gCh (gAt t0 t4) 6)]] 0) 1))
            (cond (fits (t3.length + [[Cell.int .i64 (IntKind.wrap .i64 (201 + t5)), Cell.int .i64 (IntKind.wrap .i64 (t6 + 1)), Cell.slice 25 ([[Cell.int .i64 (gCh (gAt t0 t4) 0), Cell.int .i64 (gCh (gAt t0 t4) 1), Cell.int .i64 (gCh (gAt t0 t4) 2), Cell.int .i64 (gCh (gAt t0 t4) 3), Cell.int .i64 (gCh (gAt t0 t4) 4), Cell.int .i64 (gCh (gAt t0 t4) 5), Cell.int .i64 (gCh (gAt t0 t4) 6)]] ++ [[Cell.int .i64 (gCh (gAt t0 (IntKind.wrap .i64 (t4 + 1))) 0), Cell.int .i64 (gCh (gAt t0 (IntKind.wrap .i64 (t4 + 1))) 1), Cell.int .i64 (gCh (gAt t0 (IntKind.wrap .i64 (t4 + 1))) 2), Cell.int .i64 (gCh (gAt t0 (IntKind.wrap .i64 (t4 + 1))) 3), Cell.int .i64 (gCh (gAt t0 (IntKind.wrap .i64 (t4 + 1))) 4), Cell.int .i64 (gCh (gAt t0 (IntKind.wrap .i64 (t4 + 1))) 5), Cell.int .i64 (gCh (gAt t0 (IntKind.wrap .i64 (t4 + 1))) 6)]])]].length))
             (goF E (callOf L38) F23 0 m P23_1 (M23_1 t0 (t3 ++ [[Cell.int .i64 (IntKind.wrap .i64 (201 + t5)), Cell.int .i64 (IntKind.wrap .i64 (t6 + 1)), Cell.slice 25 ([[Cell.int .i64 (gCh (gAt t0 t4) 0), Cell.int .i64 (gCh (gAt t0 t4) 1), Cell.int .i64 (gCh (gAt t0 t4) 2), Cell.int .i64 (gCh (gAt t0 t4) 3), Cell.int .i64 (gCh (gAt t0 t4) 4), Cell.int .i64 (gCh (gAt t0 t4) 5), Cell.int .i64 (gCh (gAt t0 t4) 6)]] ++ [[Cell.int .i64 (gCh (gAt t0 (IntKind.wrap .i64 (t4 + 1))) 0), Cell.int .i64 (gCh (gAt t0 (IntKind.wrap .i64 (t4 + 1))) 1), Cell.int .i64 (gCh (gAt t0 (IntKind.wrap .i64 (t4 + 1))) 2), Cell.int .i64 (gCh (gAt t0 (IntKind.wrap .i64 (t4 + 1))) 3), Cell.int .i64 (gCh (gAt t0 (IntKind.wrap .i64 (t4 + 1))) 4), Cell.int .i64 (gCh (gAt t0 (IntKind.wrap .i64 (t4 + 1))) 5), Cell.int .i64 (gCh (gAt t0 (IntKind.wrap .i64 (t4 + 1))) 6)]])]]) (IntKind.wrap .i64 (t4 + 2)) t5 (IntKind.wrap .i64 (t6 + 1))))
             none)
            (cond (fits (t3.length + [[Cell.int .i64 (IntKind.wrap .i64 (201 + t5)), Cell.int .i64 (IntKind.wrap .i64 (t6 + 1)), Cell.slice 25 [[Cell.int .i64 (gCh (gAt t0 t4) 0), Cell.int .i64 (gCh (gAt t0 t4) 1), Cell.int .i64 (gCh (gAt t0 t4) 2), Cell.int .i64 (gCh (gAt t0 t4) 3), Cell.int .i64 (gCh (gAt t0 t4) 4), Cell.int .i64 (gCh (gAt t0 t4) 5), Cell.int .i64 (gCh (gAt t0 t4) 6)]]]].length))
             (goF E (callOf L38) F23 0 m P23_1 (M23_1 t0 (t3 ++ [[Cell.int .i64 (IntKind.wrap .i64 (201 + t5)), Cell.int .i64 (IntKind.wrap .i64 (t6 + 1)), Cell.slice 25 [[Cell.int .i64 (gCh (gAt t0 t4) 0), Cell.int .i64 (gCh (gAt t0 t4) 1), Cell.int .i64 (gCh (gAt t0 t4) 2), Cell.int .i64 (gCh (gAt t0 t4) 3), Cell.int .i64 (gCh (gAt t0 t4) 4), Cell.int .i64 (gCh (gAt t0 t4) 5), Cell.int .i64 (gCh (gAt t0 t4) 6)]]]]) (IntKind.wrap .i64 (t4 + 2)) t5 (IntKind.wrap .i64 (t6 + 1))))
             none)))
          (cond (fits (t3.length + [[Cell.int .i64 (IntKind.wrap .i64 (201 + t5)), Cell.int .i64 (IntKind.wrap .i64 (t6 + 1)), Cell.slice 25 [[Cell.int .i64 (gCh (gAt t0 t4) 0), Cell.int .i64 (gCh (gAt t0 t4) 1), Cell.int .i64 (gCh (gAt t0 t4) 2), Cell.int .i64 (gCh (gAt t0 t4) 3), Cell.int .i64 (gCh (gAt t0 t4) 4), Cell.int .i64 (gCh (gAt t0 t4) 5), Cell.int .i64 (gCh (gAt t0 t4) 6)]]]].length))
           (goF E (callOf L38) F23 0 m P23_1 (M23_1 t0 (t3 ++ [[Cell.int .i64 (IntKind.wrap .i64 (201 + t5)), Cell.int .i64 (IntKind.wrap .i64 (t6 + 1)), Cell.slice 25 [[Cell.int .i64 (gCh (gAt t0 t4) 0), Cell.int .i64 (gCh (gAt t0 t4) 1), Cell.int .i64 (gCh (gAt t0 t4) 2), Cell.int .i64 (gCh (gAt t0 t4) 3), Cell.int .i64 (gCh (gAt t0 t4) 4), Cell.int .i64 (gCh (gAt t0 t4) 5), Cell.int .i64 (gCh (gAt t0 t4) 6)]]]]) (IntKind.wrap .i64 (t4 + 2)) t5 (IntKind.wrap .i64 (t6 + 1))))
           none))
         none)
        none)
       none)
      none)
     (goF E (callOf L38) F23 0 m P23_0 (M23_0 t0 t3 t4 (IntKind.wrap .i64 (t5 + 1)))))
    none)
   none) := by kernel_rfl

/- elasticstore/elasticstorelaw05.ProposalRoundTrip -/
theorem e7 (m : Nat) (ap : Int) (np : Int) (cp : List (List Cell)) (x : List (List Cell)) : runF E (callOf L23) (m + 1) 7 [.agg [.int .i64 ap, .int .i64 np, .sl false 25 cp], .one (.sl false 5 x)] [] =
  (cond (decide ((x.length : Int) > 300))
   (some ([.one (.bool true)], []))
   (cond (decide ((cp.length : Int) > 100))
    (some ([.one (.bool true)], []))
    (cond (decide (cp.length < 4611686018427387904))
     (cond ((vProp ap np cp) != 0)
      (some ([.one (.bool true)], []))
      (cond (okApp [] cp)
       (cond (fits (([] : List (List Cell)).length + (encP ap np cp).length))
        (cond (fits ((([] : List (List Cell)) ++ (encP ap np cp)).length + x.length))
         (cond (okRd ((([] : List (List Cell)) ++ (encP ap np cp)) ++ x))
          (cond (okApp [] cp)
           (cond ((toBytes (encP ap np cp)) == (toBytes (encP ap np cp)))
            (cond ((decP ((([] : List (List Cell)) ++ (encP ap np cp)) ++ x)).2.2.2.2 == 0)
             (cond ((decP ((([] : List (List Cell)) ++ (encP ap np cp)) ++ x)).2.2.2.1 == ((encP ap np cp).length : Int))
              (cond (decide (cp.length < 4611686018427387904))
               (cond (eqP ap np cp (decP ((([] : List (List Cell)) ++ (encP ap np cp)) ++ x)).1 (decP ((([] : List (List Cell)) ++ (encP ap np cp)) ++ x)).2.1 (decP ((([] : List (List Cell)) ++ (encP ap np cp)) ++ x)).2.2.1)
                (some ([.one (.bool true)], []))
                (some ([.one (.bool false)], [])))
               none)
              (some ([.one (.bool false)], [])))
             (some ([.one (.bool false)], [])))
            (some ([.one (.bool false)], [])))
           none)
          none)
         none)
        none)
       none))
     none))) := by kernel_rfl

/- elasticstore/elasticstorelaw05.ProposalDecode -/
theorem e8 (m : Nat) (x : List (List Cell)) : runF E (callOf L7) (m + 1) 8 [.one (.sl false 5 x)] [] =
  (cond (decide ((x.length : Int) > 300))
   (some ([.one (.bool true)], []))
   (cond (okRd x)
    (cond (okRd x)
     (cond (decide ((decP x).2.2.1.length < 4611686018427387904))
      (cond (eqP (decP x).1 (decP x).2.1 (decP x).2.2.1 (decP x).1 (decP x).2.1 (decP x).2.2.1)
       (cond ((decP x).2.2.2.1 == (decP x).2.2.2.1)
        (cond ((decP x).2.2.2.2 == (decP x).2.2.2.2)
         (some ([.one (.bool true)], []))
         (some ([.one (.bool false)], [])))
        (some ([.one (.bool false)], [])))
       (some ([.one (.bool false)], [])))
      none)
     none)
    none)) := by kernel_rfl

/- elasticstore/elasticstorelaw05.ProposalPieces -/
noncomputable def P9_0 : List AItem := F9.at [.snd, .snd, .snd, .fst, .snd, .sub, .head]
def M9_0 (t1 : Int) (t5 : List (List Cell)) (t6 : List (List Cell)) (t7 : Int) : St := ⟨[(1, .one (.int .u16 t1)), (5, .one (.sl false 32 t5)), (6, .one (.sl false 5 t6)), (7, .one (.int .i64 t7))], []⟩
noncomputable def P9_1 : List AItem := F9.at [.snd, .snd, .snd, .snd, .snd, .fst, .snd, .sub, .head]
def M9_1 (t1 : Int) (t5 : List (List Cell)) (t6 : List (List Cell)) (t8 : Int) (t9 : Int) : St := ⟨[(1, .one (.int .u16 t1)), (5, .one (.sl false 32 t5)), (6, .one (.sl false 5 t6)), (8, .one (.int .i64 t8)), (9, .one (.int .i64 t9))], []⟩
theorem e9 (m : Nat) (l : List (List Cell)) (cut : Int) : runF E (callOf L8) (m + 1) 9 [.one (.sl false 3 l), .one (.int .u16 cut)] [] =
  (cond (decide (l.length < 4611686018427387904))
   (goF E (callOf L8) F9 0 m P9_0 (M9_0 cut (gPool l) ([] : List (List Cell)) 0))
   none) := by kernel_rfl
theorem e9_0 (m : Nat) (t1 : Int) (t5 : List (List Cell)) (t6 : List (List Cell)) (t7 : Int) : goF E (callOf L8) F9 0 (m + 1) P9_0 (M9_0 t1 t5 t6 t7) =
  (cond (decide (t7 < (t5.length : Int)))
   (cond (inB t7 t5.length)
    (cond (okApp t6 (nl (Abs.rowAt t5 (Int.toNat t7)) 2))
     (goF E (callOf L8) F9 0 m P9_0 (M9_0 t1 t5 (t6 ++ encP (nr (Abs.rowAt t5 (Int.toNat t7)) 0) (nr (Abs.rowAt t5 (Int.toNat t7)) 1) (nl (Abs.rowAt t5 (Int.toNat t7)) 2)) (IntKind.wrap .i64 (t7 + 1))))
     none)
    none)
   (goF E (callOf L8) F9 0 m P9_1 (M9_1 t1 t5 t6 0 0))) := by kernel_rfl
theorem e9_1 (m : Nat) (t1 : Int) (t5 : List (List Cell)) (t6 : List (List Cell)) (t8 : Int) (t9 : Int) : goF E (callOf L8) F9 0 (m + 1) P9_1 (M9_1 t1 t5 t6 t8 t9) =
  (cond (decide (t9 < (t5.length : Int)))
   (cond (inB t8 (t6.length + 1))
    (cond (okRd (dropN t6 (Int.toNat t8)))
     (cond ((decP (dropN t6 (Int.toNat t8))).2.2.2.2 != 0)
      (some ([.one (.bool false)], []))
      (cond (decide ((decP (dropN t6 (Int.toNat t8))).2.2.2.1 < 1))
       (some ([.one (.bool false)], []))
       (cond (decide ((decP (dropN t6 (Int.toNat t8))).2.2.2.1 > (IntKind.wrap .i64 ((t6.length : Int) - t8))))
        (some ([.one (.bool false)], []))
        (cond (inB t9 t5.length)
         (cond (decide ((decP (dropN t6 (Int.toNat t8))).2.2.1.length < 4611686018427387904))
          (cond (!(eqP (decP (dropN t6 (Int.toNat t8))).1 (decP (dropN t6 (Int.toNat t8))).2.1 (decP (dropN t6 (Int.toNat t8))).2.2.1 (nr (Abs.rowAt t5 (Int.toNat t9)) 0) (nr (Abs.rowAt t5 (Int.toNat t9)) 1) (nl (Abs.rowAt t5 (Int.toNat t9)) 2)))
           (some ([.one (.bool false)], []))
           (cond (decide ((decP (dropN t6 (Int.toNat t8))).2.2.2.1 = 0))
            none
            (cond (inB (IntKind.wrap .i64 (t8 + (Int.tmod (IntKind.wrap .i64 t1) (decP (dropN t6 (Int.toNat t8))).2.2.2.1))) (t6.length + 1))
             (cond (inB t8 ((Int.toNat (IntKind.wrap .i64 (t8 + (Int.tmod (IntKind.wrap .i64 t1) (decP (dropN t6 (Int.toNat t8))).2.2.2.1)))) + 1))
              (cond (okRd (subL t6 (Int.toNat t8) (Int.toNat (IntKind.wrap .i64 (t8 + (Int.tmod (IntKind.wrap .i64 t1) (decP (dropN t6 (Int.toNat t8))).2.2.2.1))))))
               (cond ((decP (subL t6 (Int.toNat t8) (Int.toNat (IntKind.wrap .i64 (t8 + (Int.tmod (IntKind.wrap .i64 t1) (decP (dropN t6 (Int.toNat t8))).2.2.2.1)))))).2.2.2.2 != 1)
                (some ([.one (.bool false)], []))
                (goF E (callOf L8) F9 0 m P9_1 (M9_1 t1 t5 t6 (IntKind.wrap .i64 (t8 + (decP (dropN t6 (Int.toNat t8))).2.2.2.1)) (IntKind.wrap .i64 (t9 + 1)))))
               none)
              none)
             none)))
          none)
         none))))
     none)
    none)
   (cond (t8 == (t6.length : Int))
    (some ([.one (.bool true)], []))
    (some ([.one (.bool false)], [])))) := by kernel_rfl

end Go.Proofs.Ytaafnpmijncpeaa
