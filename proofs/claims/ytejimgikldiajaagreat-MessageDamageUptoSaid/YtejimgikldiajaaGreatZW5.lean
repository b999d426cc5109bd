/-
 MessageDamage returns true: for every argument whose bulk is at most 1048576.
-/
import Derived.Test.YtejimgikldiajaaGreatZ8
import Derived.Test.YtejimgikldiajaaGreatRows
import Derived.JoinedOf
import Derived.JoinedAt
import Derived.ChangeSame
import Derived.JoinedCond
namespace Go.Proofs.YtejimgikldiajaaGreat
open Go.Abs Go.ChangeShapes Go.WideShapes Go.ChangeAt
set_option maxRecDepth 100000
theorem Pl {rows:RL}(h:j4 E [43,43,3,3,3,44,5,4] rows):∃(l:RL) (u:RL) (ki:Int) (ni:Int) (mi:Int) (av:Int) (wi:Int) (ct:Bool),rows=[[Cell.slice 3 l],[Cell.slice 3 u],[Cell.int .i64 ki],[Cell.int .i64 ni],[Cell.int .i64 mi],[Cell.int .u16 av],[Cell.int .u8 wi],[Cell.bool ct]]:=by
 obtain⟨r0,q0,rfl,k0_0, -,h⟩:=ed (ks:=[.slice 3]) h (by kernel_rfl)
 obtain⟨r1,q1,rfl,k1_0, -,h⟩:=ed (ks:=[.slice 3]) h (by kernel_rfl)
 obtain⟨r2,q2,rfl,k2_0, -,h⟩:=ed (ks:=[.int .i64]) h (by kernel_rfl)
 obtain⟨r3,q3,rfl,k3_0, -,h⟩:=ed (ks:=[.int .i64]) h (by kernel_rfl)
 obtain⟨r4,q4,rfl,k4_0, -,h⟩:=ed (ks:=[.int .i64]) h (by kernel_rfl)
 obtain⟨r5,q5,rfl,k5_0, -,h⟩:=ed (ks:=[.int .u16]) h (by kernel_rfl)
 obtain⟨r6,q6,rfl,k6_0, -,h⟩:=ed (ks:=[.int .u8]) h (by kernel_rfl)
 obtain⟨r7,q7,rfl,k7_0, -,h⟩:=ed (ks:=[.bool]) h (by kernel_rfl)
 obtain rfl:=BX h
 obtain⟨_,_,rfl,e0_0,k0_1⟩:=gu k0_0
 obtain⟨l,rfl⟩:=si e0_0
 obtain rfl:=jU k0_1
 obtain⟨_,_,rfl,e1_0,k1_1⟩:=gu k1_0
 obtain⟨u,rfl⟩:=si e1_0
 obtain rfl:=jU k1_1
 obtain⟨_,_,rfl,e2_0,k2_1⟩:=gu k2_0
 obtain⟨ki,rfl⟩:=lW e2_0
 obtain rfl:=jU k2_1
 obtain⟨_,_,rfl,e3_0,k3_1⟩:=gu k3_0
 obtain⟨ni,rfl⟩:=lW e3_0
 obtain rfl:=jU k3_1
 obtain⟨_,_,rfl,e4_0,k4_1⟩:=gu k4_0
 obtain⟨mi,rfl⟩:=lW e4_0
 obtain rfl:=jU k4_1
 obtain⟨_,_,rfl,e5_0,k5_1⟩:=gu k5_0
 obtain⟨av,rfl⟩:=lW e5_0
 obtain rfl:=jU k5_1
 obtain⟨_,_,rfl,e6_0,k6_1⟩:=gu k6_0
 obtain⟨wi,rfl⟩:=lW e6_0
 obtain rfl:=jU k6_1
 obtain⟨_,_,rfl,e7_0,k7_1⟩:=gu k7_0
 obtain⟨ct,rfl⟩:=EL e7_0
 obtain rfl:=jU k7_1
 exact⟨l,u,ki,ni,mi,av,wi,ct,rfl⟩
theorem NX (H:Type):Bulk (H:=H) Rows.uptoBulk Rows.uptoBulkAll where
 int _ _:=by simp [Rows.uptoBulk]
 bool _:=by simp [Rows.uptoBulk]
 str _:=by simp [Rows.uptoBulk]
 nil:=by simp [Rows.uptoBulk]
 slice _ _:=by simp only [Rows.uptoBulk];omega
 agg _:=by simp only [Rows.uptoBulk];omega
 cons _ _:=by simp only [Rows.uptoBulkAll];omega
theorem lifted5 (os:Os)(started:os.Started)(H:Type)(enc:TypeId×Value→H)(F:Stop.Interp):
 ReturnsInHanded {} Tryz.checked os 5 .any ((Rows.OpenSpec.upto Rows.messageDamageSpec).pre6 enc Tryz.prog Tryz.f5 Rows.messageDamageUptoRow.domain false) (((Rows.OpenSpec.upto Rows.messageDamageSpec).at F).post enc Tryz.prog Tryz.f5 false true false false):=by
 refine returnsInHanded_of_cond (C:=Tryz.checked) (s:=Rows.OpenSpec.upto Rows.messageDamageSpec) (k:=Rows.uptoSmall) rfl QT started (by kernel_rfl) Tryz.func5
  (OpenSpec.witness (enc:=enc) (C:=Tryz.checked) (s:=Rows.OpenSpec.upto Rows.messageDamageSpec) (k:=Rows.uptoSmall) rfl false ⟨#[], #[.slice none 0 0,.slice none 0 0,.int .i64 0,.int .i64 0,.int .i64 0,.int .u16 0,.int .u8 0,.bool false],[]⟩ 8 (by kernel_rfl) (by kernel_rfl) (by kernel_rfl)
   (x:=([.nil,.nil,.lit (.int .i64 0),.lit (.int .i64 0),.lit (.int .i64 0),.lit (.int .u16 0),.lit (.int .u8 0),.lit (.bool false)],[],[])) (by kernel_rfl) rfl (by kernel_rfl)) ?_
 intro W base args ds gs before hval hW _ hk _
 have hk':Rows.uptoBulkAll (ds++gs)≤1048576:=of_decide_eq_true hk
 refine Ht (s:=Rows.messageDamageSpec) Sq Mu JM (ts:=[43,43,3,3,3,44,5,4]) (tb:=4) (by kernel_rfl) (by kernel_rfl) (by kernel_rfl) rfl ?_ (by kernel_rfl) hval hW ?_
 · intro ds hd
   match ds,hd with
   | [_,_,_,_,_,_,_,_],_=>exact rfl
 · intro rows hr hbulk
   have hr':=hr
   obtain⟨l,u,ki,ni,mi,av,wi,ct,rfl⟩:=Pl hr
   have hb:=Nat.le_trans (hbulk _ _ (NX H)) hk'
   refine vq L5 O6 5 _ _ _ ?_
   have w0:=gO hr'
   have w1:=gO w0.2
   have w2:=gO w1.2
   have w3:=gO w2.2
   have w4:=gO w3.2
   have w5:=gO w4.2
   have w6:=gO w5.2
   have hl:=sO (k:=.int .i64) (ks:=[]) (Bc (ks:=[.int .i64]) (w0.1 _ List.mem_cons_self) (by kernel_rfl)).1
   have hl2:=sO (k:=.int .i64) (ks:=[]) (Bc (ks:=[.int .i64]) (w1.1 _ List.mem_cons_self) (by kernel_rfl)).1
   have ha:=Oc (w5.1 _ List.mem_cons_self)
   have hc:=PG (w6.1 _ List.mem_cons_self)
   simp only [gX,gL,oG]at hb
   exact congrArg (fun b=>(b,(([.one (.bool true)],[]):List AV×List Block))) (by simp only [Bool.and_eq_true,decide_eq_true_eq];omega)
theorem proved5 :Rows.MessageDamageUptoSaid:=
 OpenClaim.holds_of_cond 5 Tryz.f5 rfl rfl rfl rfl rfl rfl rfl ⟨rfl,rfl,rfl,rfl,rfl⟩ rfl rfl rfl rfl rfl (by kernel_rfl) Tryz.func5 (by kernel_rfl)
  (of_decide_eq_true (by kernel_rfl)) (by unfold Func.isWrapper;rw [if_neg (of_decide_eq_true (by kernel_rfl))];exact⟨rfl,rfl⟩)
  (fun os started H enc _ F=>lifted5 os started H enc F)
end Go.Proofs.YtejimgikldiajaaGreat
