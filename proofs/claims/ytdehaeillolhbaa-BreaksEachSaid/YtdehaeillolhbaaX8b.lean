import Derived.Test.YtdehaeillolhbaaM30
import Derived.Test.YtdehaeillolhbaaX8a
import Derived.Test.YtdehaeillolhbaaProg
import Derived.KernelRfl
set_option maxRecDepth 100000
set_option maxHeartbeats 4000000
namespace Go.Eng.Lift
open Go.Proofs
noncomputable section
/-! 62_s platen/breaks.ends -/
def F62_s_l1 (k:Nat) (a2:List Gstate) (a3:Gstate):Nat->(Option (Option Nat))->(Option (Option Nat))->Option ((Unit) ⊕ (Int×(List Gstate)×Gstate))
  | 0,_,_=>none
  | j3+1,v3,v4=>
    bindE a2 (bif v3 != v4 then(bif Option.isNone v3 then(some (.inr ((-1),a2,a3))) else(bif Option.isNone v4 then(some (.inr (1,a2,a3))) else(bindG a3 a2 v3 λ y7=>
    bindG a3 a2 v4 λ y8=>
    bif y7.line_Break != y8.line_Break then(bindG a3 a2 v3 λ y9=>
    bindG a3 a2 v4 λ y10=>
    (F81 k y9.line_Break y10.line_Break).bind λ r14=>
    some (.inr (r14,a2,a3))) else(bindG a3 a2 v3 λ y11=>
    bindG a3 a2 v4 λ y12=>
    F62_s_l1 k a2 a3 j3 (Option.map some y11.ahead) (Option.map some y12.ahead))))) else(some (.inl ())))
def F62_s (k:Nat) (a0:Option (Option Nat)) (a1:Option (Option Nat)) (a2:List Gstate) (a3:Gstate):Option (Int×(List Gstate)×Gstate):=
Option.bind (α:=(Unit) ⊕ (Int×(List Gstate)×Gstate)) (F62_s_l1 k a2 a3 k a0 a1) (Sum.elim (λ(_:Unit)=>
some (0,a2,a3)) some)
theorem L62_s (k:Nat) (a0:Option (Option Nat)) (a1:Option (Option Nat)) (a2:List Gstate) (a3:Gstate) (r:Int×(List Gstate)×Gstate) (hF:F62_s k a0 a1 a2 a3=some r):PF Try.prog orc 62 [gpO 1 0 19 a0 0,gpO 1 0 19 a1 0] [⟨76,(flatU (cGstate 0) a2)⟩,⟨0,(cGstate 0 a3)⟩] [] (λ p fr tk=>p=vI r.1/\fr=[⟨76,(flatU (cGstate 0) r.2.1)⟩,⟨0,(cGstate 0 r.2.2)⟩]/\tk=[]):=by
 unfold F62_s at hF
 refine PF.enterS Try.func62 rfl rfl rfl (by kernel_rfl) rfl ?_
 refine PC.run (n:=2) rfl ?_
 refine bindK hF (λ x1 e2 hF=>?_)
 refine PC.blockJ (λ s=>Weak s (PS.of 45 [(4,vI 0)] [⟨76,(flatU (cGstate 0) a2)⟩,⟨0,(cGstate 0 a3)⟩] [] 2 0)/\.inl ()=x1) ?_ ?_
 ·refine PC.loop (λ j3 s=>∃ (v3:Option (Option Nat)) (v4:Option (Option Nat)),Weak s (PS.of 45 [(0,gpO 1 0 19 v3 0),(1,gpO 1 0 19 v4 0),(4,vI 0)] [⟨76,(flatU (cGstate 0) a2)⟩,⟨0,(cGstate 0 a3)⟩] [] 2 0)/\F62_s_l1 k a2 a3 j3 v3 v4=some x1) (λ j3 s=>?_) k ⟨a0,a1,Weak.mk [0,1] [] 0 rfl rfl rfl ⟨⟨_,_,rfl,rfl,uTo rfl,LessL.refl _⟩,⟨⟨_,_,rfl,rfl,uTo1 a3 rfl,(LessL.refl _)⟩,trivial⟩⟩ ⟨⟨_,_,rfl,gp_to rfl rfl,.refl _⟩,⟨⟨_,_,rfl,gp_to rfl rfl,.refl _⟩,⟨⟨_,_,rfl,rfl,.refl _⟩,trivial⟩⟩⟩,e2⟩
  rintro⟨v3,v4,w4,e2⟩
  refine PC.weak w4 ?_
  obtain _ | j3:=j3
  · rw[F62_s_l1] at e2; cases e2
  rw[F62_s_l1] at e2
  refine PC.assoc ?_
  refine PC.region ?_
  refine PO.run 2 rfl ?_
  refine bindEK e2 (λ h5 e2=>?_)
  refine PO.same rfl (neG_ok Try.underlying73 rfl (by decide) (by decide) cU rfl rfl (by decide) rfl rfl rfl rfl h5 (by kernel_rfl)) rfl ?_
  refine PO.nil ?_
  refine PC.cond rfl (λ h6=>?_) (λ h6=>?_)
  ·have e2:=bif_t h6 e2
   refine PC.noop ?_
   refine PC.lone ?_
   refine PC.block ?_
   refine PC.block ?_
   refine PC.region ?_
   refine PO.run 1 rfl ?_
   refine PO.same rfl (eqNilG_ok Try.underlying73 rfl rfl (by kernel_rfl)) rfl ?_
   refine PO.run 1 rfl ?_
   refine PO.nil ?_
   refine PC.lone ?_
   refine PC.cond rfl (λ h7=>?_) (λ h7=>?_)
   ·have e2:=bif_t h7 e2
    refine PC.assoc ?_
    refine PC.run (n:=2) rfl ?_
    have hq:=Option.some.inj e2
    subst hq
    have hq:=Option.some.inj hF
    subst hq
    exact PC.ret (blockKP.back (blockKP.back (loopKP.ret (blockJK.back (retUK [0,1] [] (fr':=[⟨76,(flatU (cGstate 0) a2)⟩,⟨0,(cGstate 0 a3)⟩]) (by kernel_rfl) ⟨⟨_,rfl,rfl,uTo rfl⟩,⟨⟨_,rfl,rfl,uTo1 a3 rfl⟩,trivial⟩⟩ (.refl _) ⟨rfl,rfl,rfl⟩)))))
   have e2:=bif_f h7 e2
   refine PC.assoc ?_
   refine PC.region ?_
   refine PO.run 1 rfl ?_
   refine PO.same rfl (eqNilG_ok Try.underlying73 rfl rfl (by kernel_rfl)) rfl ?_
   refine PO.run 1 rfl ?_
   refine PO.nil ?_
   refine PC.cond rfl (λ h8=>?_) (λ h8=>?_)
   ·have e2:=bif_t h8 e2
    refine PC.assoc ?_
    refine PC.run (n:=2) rfl ?_
    have hq:=Option.some.inj e2
    subst hq
    have hq:=Option.some.inj hF
    subst hq
    exact PC.ret (blockKP.back (blockKP.back (loopKP.ret (blockJK.back (retUK [0,1] [] (fr':=[⟨76,(flatU (cGstate 0) a2)⟩,⟨0,(cGstate 0 a3)⟩]) (by kernel_rfl) ⟨⟨_,rfl,rfl,uTo rfl⟩,⟨⟨_,rfl,rfl,uTo1 a3 rfl⟩,trivial⟩⟩ (.refl _) ⟨rfl,rfl,rfl⟩)))))
   have e2:=bif_f h8 e2
   refine PC.assoc ?_
   refine PC.drawn (order:=[0,1,2,3,4,5,6,7,8,9,10,11]) (by kernel_rfl) ?_
   refine PO.run 1 rfl ?_
   refine bindGK e2 (λ y7 h9 e2=>?_)
   refine PO.same rfl (nilG_ok rfl (getG_some h9)) rfl ?_
   refine PO.same rfl (fieldG_ok (o':=4) rfl (getG_some h9) (λ _ _=>rfl)) rfl ?_
   refine PO.same rfl (fieldG_ok (o':=2) rfl (getG_some h9) (λ _ _=>rfl)) rfl ?_
   refine PO.same rfl (load_of rfl (pLoad_g (q:=vI y7.line_Break) (z:=a3) cU rfl rfl h9 rfl)) rfl ?_
   refine PO.run 1 rfl ?_
   refine bindGK e2 (λ y8 h10 e2=>?_)
   refine PO.same rfl (nilG_ok rfl (getG_some h10)) rfl ?_
   refine oT 0 [(0,gpO 1 0 19 v3 0),(1,gpO 1 0 19 v4 0),(4,vI 0),(19,vI y7.line_Break),(21,gpO 1 0 19 v4 0)] [⟨76,(flatU (cGstate 0) a2)⟩,⟨0,(cGstate 0 a3)⟩] [] (by kernel_rfl) ?_
   refine PO.same rfl (fieldG_ok (o':=4) rfl (getG_some h10) (λ _ _=>rfl)) rfl ?_
   refine PO.same rfl (fieldG_ok (o':=2) rfl (getG_some h10) (λ _ _=>rfl)) rfl ?_
   refine PO.same rfl (load_of rfl (pLoad_g (q:=vI y8.line_Break) (z:=a3) cU rfl rfl h10 rfl)) rfl ?_
   refine PO.run 2 rfl ?_
   refine PO.nil ?_
   refine PC.cond rfl (λ h11=>?_) (λ h11=>?_)
   ·have e2:=bif_t h11 e2
    refine PC.assoc ?_
    refine PC.drawn (order:=[0,1,2,3,4,5,6,7,8,9,10,11]) (by kernel_rfl) ?_
    refine PO.run 1 rfl ?_
    refine bindGK e2 (λ y9 h12 e2=>?_)
    refine PO.same rfl (nilG_ok rfl (getG_some h12)) rfl ?_
    refine PO.same rfl (fieldG_ok (o':=4) rfl (getG_some h12) (λ _ _=>rfl)) rfl ?_
    refine PO.same rfl (fieldG_ok (o':=2) rfl (getG_some h12) (λ _ _=>rfl)) rfl ?_
    refine PO.same rfl (load_of rfl (pLoad_g (q:=vI y9.line_Break) (z:=a3) cU rfl rfl h12 rfl)) rfl ?_
    refine PO.run 1 rfl ?_
    refine bindGK e2 (λ y10 h13 e2=>?_)
    refine PO.same rfl (nilG_ok rfl (getG_some h13)) rfl ?_
    refine PO.same rfl (fieldG_ok (o':=4) rfl (getG_some h13) (λ _ _=>rfl)) rfl ?_
    refine PO.same rfl (fieldG_ok (o':=2) rfl (getG_some h13) (λ _ _=>rfl)) rfl ?_
    refine oT 0 [(0,gpO 1 0 19 v3 0),(1,gpO 1 0 19 v4 0),(4,vI 0),(30,vI y9.line_Break),(34,gpO 1 0 19 v4 6)] [⟨76,(flatU (cGstate 0) a2)⟩,⟨0,(cGstate 0 a3)⟩] [] (by kernel_rfl) ?_
    refine PO.same rfl (load_of rfl (pLoad_g (q:=vI y10.line_Break) (z:=a3) cU rfl rfl h13 rfl)) rfl ?_
    refine bindK e2 (λ r14 e15 e2=>?_)
    refine PO.call rfl rfl rfl rfl (ks:=[]) (ts:=[]) (fr1:=[]) rfl rfl rfl trivial (L81 k y9.line_Break y10.line_Break _ e15) ?_
    rintro _ _ _ ⟨rfl,rfl,rfl⟩
    refine⟨_,_,rfl,rfl,?_⟩
    refine PO.run 1 rfl ?_
    refine PO.nil ?_
    have hq:=Option.some.inj e2
    subst hq
    have hq:=Option.some.inj hF
    subst hq
    exact PC.ret (blockKP.back (blockKP.back (loopKP.ret (blockJK.back (retUK [0,1] [] (fr':=[⟨76,(flatU (cGstate 0) a2)⟩,⟨0,(cGstate 0 a3)⟩]) (by kernel_rfl) ⟨⟨_,rfl,rfl,uTo rfl⟩,⟨⟨_,rfl,rfl,uTo1 a3 rfl⟩,trivial⟩⟩ (.refl _) ⟨rfl,rfl,rfl⟩)))))
   have e2:=bif_f h11 e2
   refine PC.noop ?_
   refine PC.skip (blockKP.end ?_)
   refine PC.lone ?_
   refine PC.drawn (order:=[0,1,2,3,4,5,6,7,8,9]) (by kernel_rfl) ?_
   refine PO.run 1 rfl ?_
   refine bindGK e2 (λ y11 h16 e2=>?_)
   refine PO.same rfl (nilG_ok rfl (getG_some h16)) rfl ?_
   refine PO.same rfl (fieldG_ok (o':=18) rfl (getG_some h16) (λ _ _=>rfl)) rfl ?_
   refine PO.same rfl (load_of rfl (pLoad_g (q:=gpO 1 0 19 (Option.map some y11.ahead) 0) (z:=a3) cU rfl rfl h16 (by rw[gp_l 1 0]; rfl))) rfl ?_
   refine PO.run 1 rfl ?_
   refine bindGK e2 (λ y12 h17 e2=>?_)
   refine PO.same rfl (nilG_ok rfl (getG_some h17)) rfl ?_
   refine PO.same rfl (fieldG_ok (o':=18) rfl (getG_some h17) (λ _ _=>rfl)) rfl ?_
   refine PO.same rfl (load_of rfl (pLoad_g (q:=gpO 1 0 19 (Option.map some y12.ahead) 0) (z:=a3) cU rfl rfl h17 (by rw[gp_l 1 0]; rfl))) rfl ?_
   refine PO.run 2 rfl ?_
   refine PO.nil ?_
   refine PC.skip (blockKP.end ?_)
   exact PC.skip (loopKP.mk (Nat.lt_succ_self _) ⟨Option.map some y11.ahead,Option.map some y12.ahead,Weak.mk [0,1] [] 0 rfl rfl rfl ⟨⟨_,_,rfl,rfl,uTo rfl,LessL.refl _⟩,⟨⟨_,_,rfl,rfl,uTo1 a3 rfl,(LessL.refl _)⟩,trivial⟩⟩ ⟨⟨_,_,rfl,gp_to rfl rfl,.refl _⟩,⟨⟨_,_,rfl,gp_to rfl rfl,.refl _⟩,⟨⟨_,_,rfl,rfl,.refl _⟩,trivial⟩⟩⟩,e2⟩)
  have e2:=bif_f h6 e2
  exact PC.exit (loopKP.exit (blockJK.here ⟨Weak.mk [0,1] [] 0 rfl rfl rfl ⟨⟨_,_,rfl,rfl,uTo rfl,LessL.refl _⟩,⟨⟨_,_,rfl,rfl,uTo1 a3 rfl,(LessL.refl _)⟩,trivial⟩⟩ ⟨⟨_,_,rfl,rfl,.refl _⟩,trivial⟩,Option.some.inj e2⟩))
 rintro _ ⟨w18,rfl⟩
 refine PC.weak w18 ?_
 have hF:=elim_l hF
 refine PC.run (n:=2) rfl ?_
 have hq:=Option.some.inj hF
 subst hq
 exact PC.ret' (retUK [0,1] [] (fr':=[⟨76,(flatU (cGstate 0) a2)⟩,⟨0,(cGstate 0 a3)⟩]) (by kernel_rfl) ⟨⟨_,rfl,rfl,uTo rfl⟩,⟨⟨_,rfl,rfl,uTo1 a3 rfl⟩,trivial⟩⟩ (.refl _) ⟨rfl,rfl,rfl⟩)
def F32_s (k:Nat) (a0:Option (Option Nat)) (a1:Option (Option Nat)) (a2:List Gstate) (a3:Gstate):Option (Bool×(List Gstate)×Gstate):=
bindG a3 a2 a1 λ y1=>
bif !y1.is_ then(some (true,a2,a3)) else(bindG a3 a2 a0 λ y2=>
bindG a3 a2 a1 λ y3=>
(F61 k (GCost.mk y2.cost_Bad y2.cost_Total y2.cost_Lines) (GCost.mk y3.cost_Bad y3.cost_Total y3.cost_Lines)).bind λ r5=>
bif r5 != 0 then(some (decide (r5 < 0),a2,a3)) else((F62_s k a0 a1 a2 a3).bind λ r8=>
some (decide (r8.1 < 0),r8.2.1,r8.2.2)))
theorem L32_s (k:Nat) (a0:Option (Option Nat)) (a1:Option (Option Nat)) (a2:List Gstate) (a3:Gstate) (r:Bool×(List Gstate)×Gstate) (hF:F32_s k a0 a1 a2 a3=some r):PF Try.prog orc 32 [gpO 1 0 19 a0 0,gpO 1 0 19 a1 0] [⟨76,(flatU (cGstate 0) a2)⟩,⟨0,(cGstate 0 a3)⟩] [] (λ p fr tk=>p=vB r.1/\fr=[⟨76,(flatU (cGstate 0) r.2.1)⟩,⟨0,(cGstate 0 r.2.2)⟩]/\tk=[]):=by
 unfold F32_s at hF
 refine PF.enterS Try.func32 rfl rfl rfl (by kernel_rfl) rfl ?_
 refine PC.run (n:=2) rfl ?_
 refine PC.assoc ?_
 refine PC.region ?_
 refine PO.run 1 rfl ?_
 refine bindGK hF (λ y1 h1 hF=>?_)
 refine PO.same rfl (nilG_ok rfl (getG_some h1)) rfl ?_
 refine PO.same rfl (fieldG_ok (o':=0) rfl (getG_some h1) (λ _ _=>rfl)) rfl ?_
 refine PO.same rfl (load_of rfl (pLoad_g (q:=vB y1.is_) (z:=a3) cU rfl rfl h1 rfl)) rfl ?_
 refine PO.run 1 rfl ?_
 refine PO.nil ?_
 refine PC.cond rfl (λ h2=>?_) (λ h2=>?_)
 ·have hF:=bif_t h2 hF
  refine PC.assoc ?_
  refine PC.run (n:=2) rfl ?_
  have hq:=Option.some.inj hF
  subst hq
  exact PC.ret (retUK [0,1] [] (fr':=[⟨76,(flatU (cGstate 0) a2)⟩,⟨0,(cGstate 0 a3)⟩]) (by kernel_rfl) ⟨⟨_,rfl,rfl,uTo rfl⟩,⟨⟨_,rfl,rfl,uTo1 a3 rfl⟩,trivial⟩⟩ (.refl _) ⟨rfl,rfl,rfl⟩)
 have hF:=bif_f h2 hF
 refine PC.noop ?_
 refine PC.assoc ?_
 refine PC.drawn (order:=[0,1,2,3,4,5,6,7,8,9]) (by kernel_rfl) ?_
 refine PO.run 1 rfl ?_
 refine bindGK hF (λ y2 h3 hF=>?_)
 refine PO.same rfl (nilG_ok rfl (getG_some h3)) rfl ?_
 refine PO.same rfl (fieldG_ok (o':=1) rfl (getG_some h3) (λ _ _=>rfl)) rfl ?_
 refine PO.same rfl (load_of rfl (pLoad_g (q:=.agg [vI y2.cost_Bad,vI y2.cost_Total,vI y2.cost_Lines]) (z:=a3) cU rfl rfl h3 rfl)) rfl ?_
 refine PO.run 1 rfl ?_
 refine bindGK hF (λ y3 h4 hF=>?_)
 refine PO.same rfl (nilG_ok rfl (getG_some h4)) rfl ?_
 refine PO.same rfl (fieldG_ok (o':=1) rfl (getG_some h4) (λ _ _=>rfl)) rfl ?_
 refine PO.same rfl (load_of rfl (pLoad_g (q:=.agg [vI y3.cost_Bad,vI y3.cost_Total,vI y3.cost_Lines]) (z:=a3) cU rfl rfl h4 rfl)) rfl ?_
 refine oT 0 [(0,gpO 1 0 19 a0 0),(1,gpO 1 0 19 a1 0),(4,vB false),(14,.agg [vI y2.cost_Bad,vI y2.cost_Total,vI y2.cost_Lines]),(18,.agg [vI y3.cost_Bad,vI y3.cost_Total,vI y3.cost_Lines])] [⟨76,(flatU (cGstate 0) a2)⟩,⟨0,(cGstate 0 a3)⟩] [] (by kernel_rfl) ?_
 refine bindK hF (λ r5 e6 hF=>?_)
 refine PO.call rfl rfl rfl rfl (ks:=[]) (ts:=[]) (fr1:=[]) rfl rfl rfl trivial (L61 k (GCost.mk y2.cost_Bad y2.cost_Total y2.cost_Lines) (GCost.mk y3.cost_Bad y3.cost_Total y3.cost_Lines) _ e6) ?_
 rintro _ _ _ ⟨rfl,rfl,rfl⟩
 refine⟨_,_,rfl,rfl,?_⟩
 refine PO.run 1 rfl ?_
 refine PO.nil ?_
 refine PC.assoc ?_
 refine PC.run (n:=3) rfl ?_
 refine PC.cond rfl (λ h7=>?_) (λ h7=>?_)
 ·have hF:=bif_t h7 hF
  refine PC.assoc ?_
  refine PC.run (n:=4) rfl ?_
  have hq:=Option.some.inj hF
  subst hq
  exact PC.ret (retUK [0,1] [] (fr':=[⟨76,(flatU (cGstate 0) a2)⟩,⟨0,(cGstate 0 a3)⟩]) (by kernel_rfl) ⟨⟨_,rfl,rfl,uTo rfl⟩,⟨⟨_,rfl,rfl,uTo1 a3 rfl⟩,trivial⟩⟩ (.refl _) ⟨rfl,rfl,rfl⟩)
 have hF:=bif_f h7 hF
 refine PC.noop ?_
 refine PC.region ?_
 refine PO.run 2 rfl ?_
 refine bindK hF (λ r8 e9 hF=>?_)
 refine PO.call rfl rfl rfl rfl (ks:=[0,1]) (ts:=[]) (fr1:=[⟨76,(flatU (cGstate 0) a2)⟩,⟨0,(cGstate 0 a3)⟩]) rfl rfl (mo_cons (gp_to rfl rfl) (mo_cons (gp_to rfl rfl) mo_nil)) ⟨⟨_,rfl,rfl,uTo rfl⟩,⟨⟨_,rfl,rfl,uTo1 a3 rfl⟩,trivial⟩⟩ (L62_s k a0 a1 a2 a3 _ e9) ?_
 rintro _ _ _ ⟨rfl,rfl,rfl⟩
 refine⟨_,_,rfl,(bk_cons (bk_u (uTo rfl)) (bk_cons (bk_u (uTo1 r8.2.2 rfl)) bk_nil)),?_⟩
 refine PO.run 2 rfl ?_
 refine PO.nil ?_
 have hq:=Option.some.inj hF
 subst hq
 exact PC.ret' (retUK [0,1] [] (fr':=[⟨76,(flatU (cGstate 0) r8.2.1)⟩,⟨0,(cGstate 0 r8.2.2)⟩]) (by kernel_rfl) ⟨⟨_,rfl,rfl,uTo rfl⟩,⟨⟨_,rfl,rfl,uTo1 r8.2.2 rfl⟩,trivial⟩⟩ (.refl _) ⟨rfl,rfl,rfl⟩)
def F60_s (k:Nat) (a0:Int) (a1:GLine) (a2:Option Nat) (a3:GMeter) (a4:List GItem) (a5:Int) (a6:Int) (a7:List Int) (a8:Nat) (a9:List Gstate):Option (GMeter×(List GItem)×Int×Int×(List Int)×(List Gstate)):=
Option.bind (α:=Bool) (bif a1.over_ then(some true) else(some (decide (a1.bad > a6)))) λ(v1:Bool)=>
Option.bind (α:=Int) (bif v1 then(some 1) else(some 0)) λ(v2:Int)=>
Option.bind (α:=Gstate) (bif Option.isNone (Option.map some a2) then((F52 k a4 (GLine.mk (-1) 0 0 0 0 0 0 0 0 false false false 0 0) a1).bind λ r12=>
some (Gstate.mk true v2 r12 1 a1.first a1.last a1.break_ a1.natural a1.stretch a1.shrink a1.short a1.bad a1.class_ a1.over_ a1.hyphen a1.end_ a1.height a1.depth a2)) else(bindO a9 a2 λ y7=>
bindO a9 a2 λ y8=>
bindO a9 a2 λ y9=>
(F52 k a4 (GLine.mk y9.line_First y9.line_Last y9.line_Break y9.line_Natural y9.line_Stretch y9.line_Shrink y9.line_Short y9.line_Bad y9.line_Class y9.line_Over y9.line_Hyphen y9.line_End y9.line_Height y9.line_Depth) a1).bind λ r17=>
bindO a9 a2 λ y10=>
some (Gstate.mk true (w (v2+y7.cost_Bad)) (w (y10.cost_Total+r17)) (w (1+y8.cost_Lines)) a1.first a1.last a1.break_ a1.natural a1.stretch a1.shrink a1.short a1.bad a1.class_ a1.over_ a1.hyphen a1.end_ a1.height a1.depth a2))) λ(v6:Gstate)=>
bindN a0 a8 (bindN a1.class_ 4 ((F32_s k (some none) (some (some (4 * Int.toNat a0+Int.toNat a1.class_))) a9 v6).bind λ r25=>
Option.bind (α:=List Gstate) (bif r25.1 then(bindG r25.2.2 r25.2.1 (some (some (4 * Int.toNat a0+Int.toNat a1.class_))) λ y12=>
some (List.set r25.2.1 (4 * Int.toNat a0+Int.toNat a1.class_) r25.2.2)) else(some r25.2.1)) λ(v11:List Gstate)=>
some (a3,a4,a5,a6,a7,v11)))
theorem L60_s (k:Nat) (a0:Int) (a1:GLine) (a2:Option Nat) (a3:GMeter) (a4:List GItem) (a5:Int) (a6:Int) (a7:List Int) (a8:Nat) (a9:List Gstate) (r:GMeter×(List GItem)×Int×Int×(List Int)×(List Gstate)) (hF:F60_s k a0 a1 a2 a3 a4 a5 a6 a7 a8 a9=some r):PF Try.prog orc 60 [vP 1,vI a0,.agg (cGLine a1),gpO 2 2 19 (Option.map some a2) 0] [⟨0,(cGMeter a3)⟩,⟨0,[vP 0,.list 13 (List.map cGItem a4) none,vI a5,vI a6,.list 1 (List.map cI_i64 a7) none,.sl 2 0 a8 a8]⟩,⟨76,(flatU (cGstate 2) a9)⟩] [] (λ p fr tk=>p=.tup []/\fr=[⟨0,(cGMeter r.1)⟩,⟨0,[vP 0,.list 13 (List.map cGItem r.2.1) none,vI r.2.2.1,vI r.2.2.2.1,.list 1 (List.map cI_i64 r.2.2.2.2.1) none,.sl 2 0 a8 a8]⟩,⟨76,(flatU (cGstate 2) r.2.2.2.2.2)⟩]/\tk=[]):=by
 unfold F60_s at hF
 refine PF.enterS Try.func60 rfl rfl rfl (by kernel_rfl) rfl ?_
 refine PC.region ?_
 refine oT 1 [(0,vP 1),(1,vI a0),(3,gpO 2 2 19 (Option.map some a2) 0),(6,vP 3)] [⟨0,(cGMeter a3)⟩,⟨0,[vP 0,.list 13 (List.map cGItem a4) none,vI a5,vI a6,.list 1 (List.map cI_i64 a7) none,.sl 2 0 a8 a8]⟩,⟨76,(flatU (cGstate 2) a9)⟩,⟨0,(cGLine a1)⟩] [] (by kernel_rfl) ?_
 refine PO.nil ?_
 refine PC.region ?_
 refine oT 3 [(0,vP 1),(1,vI a0),(3,gpO 2 2 19 (Option.map some a2) 0),(6,vP 3),(8,vP 4)] [⟨0,(cGMeter a3)⟩,⟨0,[vP 0,.list 13 (List.map cGItem a4) none,vI a5,vI a6,.list 1 (List.map cI_i64 a7) none,.sl 2 0 a8 a8]⟩,⟨76,(flatU (cGstate 2) a9)⟩,⟨0,(cGLine a1)⟩,⟨0,[vI (-1),vI 0,vI 0,vI 0,vI 0,vI 0,vI 0,vI 0,vI 0,vB false,vB false,vB false,vI 0,vI 0]⟩] [] (by kernel_rfl) ?_
 refine PO.nil ?_
 refine PC.region ?_
 refine oT 6 [(0,vP 1),(1,vI a0),(3,gpO 2 2 19 (Option.map some a2) 0),(6,vP 3),(8,vP 4),(9,vP 5)] [⟨0,(cGMeter a3)⟩,⟨0,[vP 0,.list 13 (List.map cGItem a4) none,vI a5,vI a6,.list 1 (List.map cI_i64 a7) none,.sl 2 0 a8 a8]⟩,⟨76,(flatU (cGstate 2) a9)⟩,⟨0,(cGLine a1)⟩,⟨0,[vI (-1),vI 0,vI 0,vI 0,vI 0,vI 0,vI 0,vI 0,vI 0,vB false,vB false,vB false,vI 0,vI 0]⟩,⟨0,[vB true,vI 0,vI 0,vI 1,vI a1.first,vI a1.last,vI a1.break_,vI a1.natural,vI a1.stretch,vI a1.shrink,vI a1.short,vI a1.bad,vI a1.class_,vB a1.over_,vB a1.hyphen,vB a1.end_,vI a1.height,vI a1.depth,gpO 2 2 19 (Option.map some a2) 0]⟩] [] (by cases a2 <;> kernel_rfl) ?_
 refine PO.nil ?_
 refine PC.assoc ?_
 refine PC.drawn (order:=[0,1,2,3,4,5,6,7,8,9,10]) (by kernel_rfl) ?_
 refine PO.run 3 rfl ?_
 refine bindK hF (λ x1 e2 hF=>?_)
 refine PO.cut 8 (λ s=>∃ (v1:Bool),Weak s (PS.of 94 [(0,vP 1),(1,vI a0),(3,gpO 2 2 19 (Option.map some a2) 0),(6,vP 3),(8,vP 4),(9,vP 5),(26,vB v1)] [⟨0,(cGMeter a3)⟩,⟨0,[vP 0,.list 13 (List.map cGItem a4) none,vI a5,vI a6,.list 1 (List.map cI_i64 a7) none,.sl 2 0 a8 a8]⟩,⟨76,(flatU (cGstate 2) a9)⟩,⟨0,(cGLine a1)⟩,⟨0,[vI (-1),vI 0,vI 0,vI 0,vI 0,vI 0,vI 0,vI 0,vI 0,vB false,vB false,vB false,vI 0,vI 0]⟩,⟨0,[vB true,vI 0,vI 0,vI 1,vI a1.first,vI a1.last,vI a1.break_,vI a1.natural,vI a1.stretch,vI a1.shrink,vI a1.short,vI a1.bad,vI a1.class_,vB a1.over_,vB a1.hyphen,vB a1.end_,vI a1.height,vI a1.depth,gpO 2 2 19 (Option.map some a2) 0]⟩] [] 3 0)/\v1=x1) ?_ ?_
 ·refine PO.case (t:=18) rfl rfl (λ h3=>?_) (λ h3=>?_)
  ·have e2:=bif_t h3 e2
   refine PO.run 7 rfl ?_
   refine PO.same rfl (pickT_ok rfl rfl rfl) rfl ?_
   refine PO.nil ?_
   exact⟨true,Weak.mk [0,1,2,3,4,5] [] 0 rfl rfl rfl ⟨⟨_,_,rfl,rfl,rfl,(LessL.refl _)⟩,⟨⟨_,_,rfl,rfl,rfl,(LessL.refl _)⟩,⟨⟨_,_,rfl,rfl,uTo rfl,LessL.refl _⟩,⟨⟨_,_,rfl,rfl,rfl,(LessL.refl _)⟩,⟨⟨_,_,rfl,rfl,rfl,(LessL.refl _)⟩,⟨⟨_,_,rfl,rfl,uTo1 (Gstate.mk true 0 0 1 a1.first a1.last a1.break_ a1.natural a1.stretch a1.shrink a1.short a1.bad a1.class_ a1.over_ a1.hyphen a1.end_ a1.height a1.depth a2) rfl,(LessL.refl _)⟩,trivial⟩⟩⟩⟩⟩⟩ ⟨⟨_,_,rfl,rfl,.refl _⟩,⟨⟨_,_,rfl,rfl,.refl _⟩,⟨⟨_,_,rfl,gp_to rfl rfl,.refl _⟩,⟨⟨_,_,rfl,rfl,.refl _⟩,⟨⟨_,_,rfl,rfl,.refl _⟩,⟨⟨_,_,rfl,rfl,.refl _⟩,⟨⟨_,_,rfl,rfl,.refl _⟩,trivial⟩⟩⟩⟩⟩⟩⟩,Option.some.inj e2⟩
  have e2:=bif_f h3 e2
  refine PO.run 7 rfl ?_
  refine PO.same rfl (pickF_ok rfl rfl rfl) rfl ?_
  refine PO.nil ?_
  exact⟨decide (a1.bad > a6),Weak.mk [0,1,2,3,4,5] [] 0 rfl rfl rfl ⟨⟨_,_,rfl,rfl,rfl,(LessL.refl _)⟩,⟨⟨_,_,rfl,rfl,rfl,(LessL.refl _)⟩,⟨⟨_,_,rfl,rfl,uTo rfl,LessL.refl _⟩,⟨⟨_,_,rfl,rfl,rfl,(LessL.refl _)⟩,⟨⟨_,_,rfl,rfl,rfl,(LessL.refl _)⟩,⟨⟨_,_,rfl,rfl,uTo1 (Gstate.mk true 0 0 1 a1.first a1.last a1.break_ a1.natural a1.stretch a1.shrink a1.short a1.bad a1.class_ a1.over_ a1.hyphen a1.end_ a1.height a1.depth a2) rfl,(LessL.refl _)⟩,trivial⟩⟩⟩⟩⟩⟩ ⟨⟨_,_,rfl,rfl,.refl _⟩,⟨⟨_,_,rfl,rfl,.refl _⟩,⟨⟨_,_,rfl,gp_to rfl rfl,.refl _⟩,⟨⟨_,_,rfl,rfl,.refl _⟩,⟨⟨_,_,rfl,rfl,.refl _⟩,⟨⟨_,_,rfl,rfl,.refl _⟩,⟨⟨_,_,rfl,rfl,.refl _⟩,trivial⟩⟩⟩⟩⟩⟩⟩,Option.some.inj e2⟩
 rintro _ ⟨v1,w4,rfl⟩
 refine PO.weak w4 ?_
 refine PO.nil ?_
 refine bindK hF (λ x5 e6 hF=>?_)
 refine PC.join (λ s=>∃ (v2:Int),Weak s (PS.of 94 [(0,vP 1),(1,vI a0),(3,gpO 2 2 19 (Option.map some a2) 0),(6,vP 3),(8,vP 4),(9,vP 5)] [⟨0,(cGMeter a3)⟩,⟨0,[vP 0,.list 13 (List.map cGItem a4) none,vI a5,vI a6,.list 1 (List.map cI_i64 a7) none,.sl 2 0 a8 a8]⟩,⟨76,(flatU (cGstate 2) a9)⟩,⟨0,(cGLine a1)⟩,⟨0,[vI (-1),vI 0,vI 0,vI 0,vI 0,vI 0,vI 0,vI 0,vI 0,vB false,vB false,vB false,vI 0,vI 0]⟩,⟨0,[vB true,vI v2,vI 0,vI 1,vI a1.first,vI a1.last,vI a1.break_,vI a1.natural,vI a1.stretch,vI a1.shrink,vI a1.short,vI a1.bad,vI a1.class_,vB a1.over_,vB a1.hyphen,vB a1.end_,vI a1.height,vI a1.depth,gpO 2 2 19 (Option.map some a2) 0]⟩] [] 3 0)/\v2=x5) ?_ ?_
 ·refine PC.cond rfl (λ h7=>?_) (λ h7=>?_)
  ·have e6:=bif_t h7 e6
   refine PC.region ?_
   refine oT 3 [(0,vP 1),(1,vI a0),(3,gpO 2 2 19 (Option.map some a2) 0),(6,vP 3),(8,vP 4),(9,vP 5)] [⟨0,(cGMeter a3)⟩,⟨0,[vP 0,.list 13 (List.map cGItem a4) none,vI a5,vI a6,.list 1 (List.map cI_i64 a7) none,.sl 2 0 a8 a8]⟩,⟨76,(flatU (cGstate 2) a9)⟩,⟨0,(cGLine a1)⟩,⟨0,[vI (-1),vI 0,vI 0,vI 0,vI 0,vI 0,vI 0,vI 0,vI 0,vB false,vB false,vB false,vI 0,vI 0]⟩,⟨0,[vB true,vI 1,vI 0,vI 1,vI a1.first,vI a1.last,vI a1.break_,vI a1.natural,vI a1.stretch,vI a1.shrink,vI a1.short,vI a1.bad,vI a1.class_,vB a1.over_,vB a1.hyphen,vB a1.end_,vI a1.height,vI a1.depth,gpO 2 2 19 (Option.map some a2) 0]⟩] [] (by kernel_rfl) ?_
   refine PO.nil ?_
   exact PC.skip (joinKP.end ⟨1,Weak.mk [0,1,2,3,4,5] [] 0 rfl rfl rfl ⟨⟨_,_,rfl,rfl,rfl,(LessL.refl _)⟩,⟨⟨_,_,rfl,rfl,rfl,(LessL.refl _)⟩,⟨⟨_,_,rfl,rfl,uTo rfl,LessL.refl _⟩,⟨⟨_,_,rfl,rfl,rfl,(LessL.refl _)⟩,⟨⟨_,_,rfl,rfl,rfl,(LessL.refl _)⟩,⟨⟨_,_,rfl,rfl,uTo1 (Gstate.mk true 1 0 1 a1.first a1.last a1.break_ a1.natural a1.stretch a1.shrink a1.short a1.bad a1.class_ a1.over_ a1.hyphen a1.end_ a1.height a1.depth a2) rfl,(LessL.refl _)⟩,trivial⟩⟩⟩⟩⟩⟩ ⟨⟨_,_,rfl,rfl,.refl _⟩,⟨⟨_,_,rfl,rfl,.refl _⟩,⟨⟨_,_,rfl,gp_to rfl rfl,.refl _⟩,⟨⟨_,_,rfl,rfl,.refl _⟩,⟨⟨_,_,rfl,rfl,.refl _⟩,⟨⟨_,_,rfl,rfl,.refl _⟩,trivial⟩⟩⟩⟩⟩⟩,Option.some.inj e6⟩)
  have e6:=bif_f h7 e6
  refine PC.noop ?_
  exact PC.skip (joinKP.end ⟨0,Weak.mk [0,1,2,3,4,5] [] 0 rfl rfl rfl ⟨⟨_,_,rfl,rfl,rfl,(LessL.refl _)⟩,⟨⟨_,_,rfl,rfl,rfl,(LessL.refl _)⟩,⟨⟨_,_,rfl,rfl,uTo rfl,LessL.refl _⟩,⟨⟨_,_,rfl,rfl,rfl,(LessL.refl _)⟩,⟨⟨_,_,rfl,rfl,rfl,(LessL.refl _)⟩,⟨⟨_,_,rfl,rfl,uTo1 (Gstate.mk true 0 0 1 a1.first a1.last a1.break_ a1.natural a1.stretch a1.shrink a1.short a1.bad a1.class_ a1.over_ a1.hyphen a1.end_ a1.height a1.depth a2) rfl,(LessL.refl _)⟩,trivial⟩⟩⟩⟩⟩⟩ ⟨⟨_,_,rfl,rfl,.refl _⟩,⟨⟨_,_,rfl,rfl,.refl _⟩,⟨⟨_,_,rfl,gp_to rfl rfl,.refl _⟩,⟨⟨_,_,rfl,rfl,.refl _⟩,⟨⟨_,_,rfl,rfl,.refl _⟩,⟨⟨_,_,rfl,rfl,.refl _⟩,trivial⟩⟩⟩⟩⟩⟩,Option.some.inj e6⟩)
 rintro _ ⟨v2,w8,rfl⟩
 refine PC.weak w8 ?_
 refine PC.assoc ?_
 refine PC.region ?_
 refine PO.run 1 rfl ?_
 refine PO.same rfl (eqNilG_ok Try.underlying73 rfl rfl (by kernel_rfl)) rfl ?_
 refine PO.nil ?_
 refine bindK hF (λ x9 e10 hF=>?_)
 refine PC.join (λ s=>∃ (v6:Gstate),Weak s (PS.of 94 [(0,vP 1),(1,vI a0),(6,vP 3),(9,vP 4)] [⟨0,(cGMeter a3)⟩,⟨0,[vP 0,.list 13 (List.map cGItem a4) none,vI a5,vI a6,.list 1 (List.map cI_i64 a7) none,.sl 2 0 a8 a8]⟩,⟨76,(flatU (cGstate 2) a9)⟩,⟨0,(cGLine a1)⟩,⟨0,(cGstate 2 v6)⟩] [] 3 0)/\v6=x9) ?_ ?_
 ·refine PC.cond rfl (λ h11=>?_) (λ h11=>?_)
  ·have e10:=bif_t h11 e10
   refine PC.drawn (order:=[0,1,2,3,4,5,6,7,8,9]) (by kernel_rfl) ?_
   refine PO.run 6 rfl ?_
   refine bindK e10 (λ r12 e13 e10=>?_)
   refine PO.call rfl rfl rfl rfl (ks:=[]) (ts:=[]) (fr1:=[]) rfl rfl rfl trivial (L52 k a4 (GLine.mk (-1) 0 0 0 0 0 0 0 0 false false false 0 0) a1 _ e13) ?_
   rintro _ _ _ ⟨rfl,rfl,rfl⟩
   refine⟨_,_,rfl,rfl,?_⟩
   refine oT 3 [(0,vP 1),(1,vI a0),(6,vP 3),(9,vP 5)] [⟨0,(cGMeter a3)⟩,⟨0,[vP 0,.list 13 (List.map cGItem a4) none,vI a5,vI a6,.list 1 (List.map cI_i64 a7) none,.sl 2 0 a8 a8]⟩,⟨76,(flatU (cGstate 2) a9)⟩,⟨0,(cGLine a1)⟩,⟨0,[vI (-1),vI 0,vI 0,vI 0,vI 0,vI 0,vI 0,vI 0,vI 0,vB false,vB false,vB false,vI 0,vI 0]⟩,⟨0,[vB true,vI v2,vI r12,vI 1,vI a1.first,vI a1.last,vI a1.break_,vI a1.natural,vI a1.stretch,vI a1.shrink,vI a1.short,vI a1.bad,vI a1.class_,vB a1.over_,vB a1.hyphen,vB a1.end_,vI a1.height,vI a1.depth,gpO 2 2 19 (Option.map some a2) 0]⟩] [] (by kernel_rfl) ?_
   refine PO.nil ?_
   exact PC.skip (joinKP.end ⟨(Gstate.mk true v2 r12 1 a1.first a1.last a1.break_ a1.natural a1.stretch a1.shrink a1.short a1.bad a1.class_ a1.over_ a1.hyphen a1.end_ a1.height a1.depth a2),Weak.mk [0,1,2,3,5] [] 0 rfl rfl rfl ⟨⟨_,_,rfl,rfl,rfl,(LessL.refl _)⟩,⟨⟨_,_,rfl,rfl,rfl,(LessL.refl _)⟩,⟨⟨_,_,rfl,rfl,uTo rfl,LessL.refl _⟩,⟨⟨_,_,rfl,rfl,rfl,(LessL.refl _)⟩,⟨⟨_,_,rfl,rfl,uTo1 (Gstate.mk true v2 r12 1 a1.first a1.last a1.break_ a1.natural a1.stretch a1.shrink a1.short a1.bad a1.class_ a1.over_ a1.hyphen a1.end_ a1.height a1.depth a2) rfl,(LessL.refl _)⟩,trivial⟩⟩⟩⟩⟩ ⟨⟨_,_,rfl,rfl,.refl _⟩,⟨⟨_,_,rfl,rfl,.refl _⟩,⟨⟨_,_,rfl,rfl,.refl _⟩,⟨⟨_,_,rfl,rfl,.refl _⟩,trivial⟩⟩⟩⟩,Option.some.inj e10⟩)
  have e10:=bif_f h11 e10
  refine PC.assoc ?_
  refine PC.drawn (order:=[0,1,2,3,4,5,6,7,8,9,10,11]) (by kernel_rfl) ?_
  refine PO.run 4 rfl ?_
  refine bindOK e10 (λ y7 h14 e10=>?_)
  refine PO.same rfl (nilG_ok rfl (getO_some h14)) rfl ?_
  refine PO.same rfl (fieldG_ok (o':=1) rfl (getO_some h14) (λ _ _=>rfl)) rfl ?_
  refine PO.same rfl (fieldG_ok (o':=0) rfl (getO_some h14) (λ _ _=>rfl)) rfl ?_
  refine PO.same rfl (load_of rfl (pLoad_o (q:=vI y7.cost_Bad) cU rfl h14 rfl)) rfl ?_
  refine oT 4 [(0,vP 1),(1,vI a0),(3,gpO 2 2 19 (Option.map some a2) 0),(6,vP 3),(9,vP 5)] [⟨0,(cGMeter a3)⟩,⟨0,[vP 0,.list 13 (List.map cGItem a4) none,vI a5,vI a6,.list 1 (List.map cI_i64 a7) none,.sl 2 0 a8 a8]⟩,⟨76,(flatU (cGstate 2) a9)⟩,⟨0,(cGLine a1)⟩,⟨0,[vI (-1),vI 0,vI 0,vI 0,vI 0,vI 0,vI 0,vI 0,vI 0,vB false,vB false,vB false,vI 0,vI 0]⟩,⟨0,[vB true,vI (w (v2+y7.cost_Bad)),vI 0,vI 1,vI a1.first,vI a1.last,vI a1.break_,vI a1.natural,vI a1.stretch,vI a1.shrink,vI a1.short,vI a1.bad,vI a1.class_,vB a1.over_,vB a1.hyphen,vB a1.end_,vI a1.height,vI a1.depth,gpO 2 2 19 (Option.map some a2) 0]⟩] [] (by kernel_rfl) ?_
  refine PO.nil ?_
  refine PC.assoc ?_
  refine PC.drawn (order:=[0,1,2,3,4,5,6,7,8,9,10,11]) (by kernel_rfl) ?_
  refine PO.run 4 rfl ?_
  refine bindOK e10 (λ y8 h15 e10=>?_)
  refine PO.same rfl (nilG_ok rfl (getO_some h15)) rfl ?_
  refine oT 0 [(0,vP 1),(1,vI a0),(3,gpO 2 2 19 (Option.map some a2) 0),(6,vP 3),(9,vP 5),(53,vI 1),(55,gpO 2 2 19 (Option.map some a2) 0)] [⟨0,(cGMeter a3)⟩,⟨0,[vP 0,.list 13 (List.map cGItem a4) none,vI a5,vI a6,.list 1 (List.map cI_i64 a7) none,.sl 2 0 a8 a8]⟩,⟨76,(flatU (cGstate 2) a9)⟩,⟨0,(cGLine a1)⟩,⟨0,[vI (-1),vI 0,vI 0,vI 0,vI 0,vI 0,vI 0,vI 0,vI 0,vB false,vB false,vB false,vI 0,vI 0]⟩,⟨0,[vB true,vI (w (v2+y7.cost_Bad)),vI 0,vI 1,vI a1.first,vI a1.last,vI a1.break_,vI a1.natural,vI a1.stretch,vI a1.shrink,vI a1.short,vI a1.bad,vI a1.class_,vB a1.over_,vB a1.hyphen,vB a1.end_,vI a1.height,vI a1.depth,gpO 2 2 19 (Option.map some a2) 0]⟩] [] (by kernel_rfl) ?_
  refine PO.same rfl (fieldG_ok (o':=1) rfl (getO_some h15) (λ _ _=>rfl)) rfl ?_
  refine PO.same rfl (fieldG_ok (o':=2) rfl (getO_some h15) (λ _ _=>rfl)) rfl ?_
  refine PO.same rfl (load_of rfl (pLoad_o (q:=vI y8.cost_Lines) cU rfl h15 rfl)) rfl ?_
  refine oT 4 [(0,vP 1),(1,vI a0),(3,gpO 2 2 19 (Option.map some a2) 0),(6,vP 3),(9,vP 5)] [⟨0,(cGMeter a3)⟩,⟨0,[vP 0,.list 13 (List.map cGItem a4) none,vI a5,vI a6,.list 1 (List.map cI_i64 a7) none,.sl 2 0 a8 a8]⟩,⟨76,(flatU (cGstate 2) a9)⟩,⟨0,(cGLine a1)⟩,⟨0,[vI (-1),vI 0,vI 0,vI 0,vI 0,vI 0,vI 0,vI 0,vI 0,vB false,vB false,vB false,vI 0,vI 0]⟩,⟨0,[vB true,vI (w (v2+y7.cost_Bad)),vI 0,vI (w (1+y8.cost_Lines)),vI a1.first,vI a1.last,vI a1.break_,vI a1.natural,vI a1.stretch,vI a1.shrink,vI a1.short,vI a1.bad,vI a1.class_,vB a1.over_,vB a1.hyphen,vB a1.end_,vI a1.height,vI a1.depth,gpO 2 2 19 (Option.map some a2) 0]⟩] [] (by kernel_rfl) ?_
  refine PO.nil ?_
  refine PC.draw [5,6,7,8,9,10,11,12,13,14,0,1,2,3,4,15,16,17,18] (by kernel_rfl) ?_
  refine oD 5 [10,11,12,13,14,0,1,2,3,4,15,16,17,18] ⟨992,0,0,[]⟩ [(0,vP 1),(1,vI a0),(3,gpO 2 2 19 (Option.map some a2) 0),(6,vP 3),(9,vP 5),(70,.list 13 (List.map cGItem a4) none),(71,gpO 2 2 19 (Option.map some a2) 0)] [⟨0,(cGMeter a3)⟩,⟨0,[vP 0,.list 13 (List.map cGItem a4) none,vI a5,vI a6,.list 1 (List.map cI_i64 a7) none,.sl 2 0 a8 a8]⟩,⟨76,(flatU (cGstate 2) a9)⟩,⟨0,(cGLine a1)⟩,⟨0,[vI (-1),vI 0,vI 0,vI 0,vI 0,vI 0,vI 0,vI 0,vI 0,vB false,vB false,vB false,vI 0,vI 0]⟩,⟨0,[vB true,vI (w (v2+y7.cost_Bad)),vI 0,vI (w (1+y8.cost_Lines)),vI a1.first,vI a1.last,vI a1.break_,vI a1.natural,vI a1.stretch,vI a1.shrink,vI a1.short,vI a1.bad,vI a1.class_,vB a1.over_,vB a1.hyphen,vB a1.end_,vI a1.height,vI a1.depth,gpO 2 2 19 (Option.map some a2) 0]⟩] [] (by kernel_rfl) ?_
  refine bindOK e10 (λ y9 h16 e10=>?_)
  refine PD.pureS rfl (by kernel_rfl) rfl (nilG_ok rfl (getO_some h16)) rfl ?_
  refine PD.pureS rfl (by kernel_rfl) rfl (fieldG_ok (o':=4) rfl (getO_some h16) (λ _ _=>rfl)) rfl ?_
  refine PD.load rfl rfl (by kernel_rfl) (by kernel_rfl) (by kernel_rfl) rfl rfl (pLoad_o (q:=.agg [vI y9.line_First,vI y9.line_Last,vI y9.line_Break,vI y9.line_Natural,vI y9.line_Stretch,vI y9.line_Shrink,vI y9.line_Short,vI y9.line_Bad,vI y9.line_Class,vB y9.line_Over,vB y9.line_Hyphen,vB y9.line_End,vI y9.line_Height,vI y9.line_Depth]) cU rfl h16 rfl) (rdO (getO_some h16) (by kernel_rfl)) rfl rfl ?_
  refine oD 1 [14,0,1,2,3,4,15,16,17,18] ⟨16352,0,0,[]⟩ [(0,vP 1),(1,vI a0),(3,gpO 2 2 19 (Option.map some a2) 0),(6,vP 3),(9,vP 5),(70,.list 13 (List.map cGItem a4) none),(74,.agg [vI y9.line_First,vI y9.line_Last,vI y9.line_Break,vI y9.line_Natural,vI y9.line_Stretch,vI y9.line_Shrink,vI y9.line_Short,vI y9.line_Bad,vI y9.line_Class,vB y9.line_Over,vB y9.line_Hyphen,vB y9.line_End,vI y9.line_Height,vI y9.line_Depth]),(75,.agg (cGLine a1))] [⟨0,(cGMeter a3)⟩,⟨0,[vP 0,.list 13 (List.map cGItem a4) none,vI a5,vI a6,.list 1 (List.map cI_i64 a7) none,.sl 2 0 a8 a8]⟩,⟨76,(flatU (cGstate 2) a9)⟩,⟨0,(cGLine a1)⟩,⟨0,[vI (-1),vI 0,vI 0,vI 0,vI 0,vI 0,vI 0,vI 0,vI 0,vB false,vB false,vB false,vI 0,vI 0]⟩,⟨0,[vB true,vI (w (v2+y7.cost_Bad)),vI 0,vI (w (1+y8.cost_Lines)),vI a1.first,vI a1.last,vI a1.break_,vI a1.natural,vI a1.stretch,vI a1.shrink,vI a1.short,vI a1.bad,vI a1.class_,vB a1.over_,vB a1.hyphen,vB a1.end_,vI a1.height,vI a1.depth,gpO 2 2 19 (Option.map some a2) 0]⟩] [] (by kernel_rfl) ?_
  refine bindK e10 (λ r17 e18 e10=>?_)
  refine PD.call rfl rfl (by kernel_rfl) rfl rfl rfl (ks:=[]) (ts:=[]) (fr1:=[]) rfl rfl rfl trivial (L52 k a4 (GLine.mk y9.line_First y9.line_Last y9.line_Break y9.line_Natural y9.line_Stretch y9.line_Shrink y9.line_Short y9.line_Bad y9.line_Class y9.line_Over y9.line_Hyphen y9.line_End y9.line_Height y9.line_Depth) a1 _ e18) ?_
  rintro _ _ _ ⟨rfl,rfl,rfl⟩
  refine⟨_,_,rfl,rfl,?_⟩
  refine oD 1 [1,2,3,4,15,16,17,18] ⟨32737,32736,16352,[(14,[],true)]⟩ [(0,vP 1),(1,vI a0),(6,vP 3),(9,vP 5),(62,gpO 2 2 19 (Option.map some a2) 0),(76,vI r17)] [⟨0,(cGMeter a3)⟩,⟨0,[vP 0,.list 13 (List.map cGItem a4) none,vI a5,vI a6,.list 1 (List.map cI_i64 a7) none,.sl 2 0 a8 a8]⟩,⟨76,(flatU (cGstate 2) a9)⟩,⟨0,(cGLine a1)⟩,⟨0,[vI (-1),vI 0,vI 0,vI 0,vI 0,vI 0,vI 0,vI 0,vI 0,vB false,vB false,vB false,vI 0,vI 0]⟩,⟨0,[vB true,vI (w (v2+y7.cost_Bad)),vI 0,vI (w (1+y8.cost_Lines)),vI a1.first,vI a1.last,vI a1.break_,vI a1.natural,vI a1.stretch,vI a1.shrink,vI a1.short,vI a1.bad,vI a1.class_,vB a1.over_,vB a1.hyphen,vB a1.end_,vI a1.height,vI a1.depth,gpO 2 2 19 (Option.map some a2) 0]⟩] [] (by kernel_rfl) ?_
  refine bindOK e10 (λ y10 h19 e10=>?_)
  refine PD.pureS rfl (by kernel_rfl) rfl (nilG_ok rfl (getO_some h19)) rfl ?_
  refine PD.pureS rfl (by kernel_rfl) rfl (fieldG_ok (o':=1) rfl (getO_some h19) (λ _ _=>rfl)) rfl ?_
  refine PD.pureS rfl (by kernel_rfl) rfl (fieldG_ok (o':=1) rfl (getO_some h19) (λ _ _=>rfl)) rfl ?_
  refine PD.load rfl rfl (by kernel_rfl) (by kernel_rfl) (by kernel_rfl) rfl rfl (pLoad_o (q:=vI y10.cost_Total) cU rfl h19 rfl) (rdO (getO_some h19) (by kernel_rfl)) rfl rfl ?_
  refine oD 4 [] ⟨524287,524287,262143,[(18,[5],false),(14,[5],true)]⟩ [(0,vP 1),(1,vI a0),(6,vP 3),(9,vP 5)] [⟨0,(cGMeter a3)⟩,⟨0,[vP 0,.list 13 (List.map cGItem a4) none,vI a5,vI a6,.list 1 (List.map cI_i64 a7) none,.sl 2 0 a8 a8]⟩,⟨76,(flatU (cGstate 2) a9)⟩,⟨0,(cGLine a1)⟩,⟨0,[vI (-1),vI 0,vI 0,vI 0,vI 0,vI 0,vI 0,vI 0,vI 0,vB false,vB false,vB false,vI 0,vI 0]⟩,⟨0,[vB true,vI (w (v2+y7.cost_Bad)),vI (w (y10.cost_Total+r17)),vI (w (1+y8.cost_Lines)),vI a1.first,vI a1.last,vI a1.break_,vI a1.natural,vI a1.stretch,vI a1.shrink,vI a1.short,vI a1.bad,vI a1.class_,vB a1.over_,vB a1.hyphen,vB a1.end_,vI a1.height,vI a1.depth,gpO 2 2 19 (Option.map some a2) 0]⟩] [] (by kernel_rfl) ?_
  refine PD.doneT [(0,vP 1),(1,vI a0),(6,vP 3),(9,vP 5)] [⟨0,(cGMeter a3)⟩,⟨0,[vP 0,.list 13 (List.map cGItem a4) none,vI a5,vI a6,.list 1 (List.map cI_i64 a7) none,.sl 2 0 a8 a8]⟩,⟨76,(flatU (cGstate 2) a9)⟩,⟨0,(cGLine a1)⟩,⟨0,[vI (-1),vI 0,vI 0,vI 0,vI 0,vI 0,vI 0,vI 0,vI 0,vB false,vB false,vB false,vI 0,vI 0]⟩,⟨0,[vB true,vI (w (v2+y7.cost_Bad)),vI (w (y10.cost_Total+r17)),vI (w (1+y8.cost_Lines)),vI a1.first,vI a1.last,vI a1.break_,vI a1.natural,vI a1.stretch,vI a1.shrink,vI a1.short,vI a1.bad,vI a1.class_,vB a1.over_,vB a1.hyphen,vB a1.end_,vI a1.height,vI a1.depth,gpO 2 2 19 (Option.map some a2) 0]⟩] [] (by kernel_rfl) (by kernel_rfl) ?_
  exact PC.skip (joinKP.end ⟨(Gstate.mk true (w (v2+y7.cost_Bad)) (w (y10.cost_Total+r17)) (w (1+y8.cost_Lines)) a1.first a1.last a1.break_ a1.natural a1.stretch a1.shrink a1.short a1.bad a1.class_ a1.over_ a1.hyphen a1.end_ a1.height a1.depth a2),Weak.mk [0,1,2,3,5] [] 0 rfl rfl rfl ⟨⟨_,_,rfl,rfl,rfl,(LessL.refl _)⟩,⟨⟨_,_,rfl,rfl,rfl,(LessL.refl _)⟩,⟨⟨_,_,rfl,rfl,uTo rfl,LessL.refl _⟩,⟨⟨_,_,rfl,rfl,rfl,(LessL.refl _)⟩,⟨⟨_,_,rfl,rfl,uTo1 (Gstate.mk true (w (v2+y7.cost_Bad)) (w (y10.cost_Total+r17)) (w (1+y8.cost_Lines)) a1.first a1.last a1.break_ a1.natural a1.stretch a1.shrink a1.short a1.bad a1.class_ a1.over_ a1.hyphen a1.end_ a1.height a1.depth a2) rfl,(LessL.refl _)⟩,trivial⟩⟩⟩⟩⟩ ⟨⟨_,_,rfl,rfl,.refl _⟩,⟨⟨_,_,rfl,rfl,.refl _⟩,⟨⟨_,_,rfl,rfl,.refl _⟩,⟨⟨_,_,rfl,rfl,.refl _⟩,trivial⟩⟩⟩⟩,Option.some.inj e10⟩)
 rintro _ ⟨v6,w20,rfl⟩
 refine PC.weak w20 ?_
 refine PC.drawn (order:=[0,1,2,3,4,5,6,7,8,9]) (by kernel_rfl) ?_
 refine PO.run 7 rfl ?_
 refine bindNK hF (λ h21 h22 hF=>?_)
 refine PO.same rfl (slAt_ok Try.underlying68 rfl rfl rfl h21 h22) rfl ?_
 refine oT 0 [(9,vP 4),(86,vI a1.class_),(87,.ptr 2 (0+Int.toNat a0 * 76))] [⟨0,(cGMeter a3)⟩,⟨0,[vP 0,.list 13 (List.map cGItem a4) none,vI a5,vI a6,.list 1 (List.map cI_i64 a7) none,.sl 2 0 a8 a8]⟩,⟨76,(flatU (cGstate 2) a9)⟩,⟨0,(cGLine a1)⟩,⟨0,(cGstate 2 v6)⟩] [] (by kernel_rfl) ?_
 refine bindNK hF (λ h23 h24 hF=>?_)
 refine PO.same rfl (arrAt_ok (l:=4) (j:=4 * Int.toNat a0+Int.toNat a1.class_) (sz:=19) Try.underlying78 rfl rfl rfl h23 h24 (by omega)) rfl ?_
 refine PO.run 1 rfl ?_
 refine PO.nil ?_
 refine PC.region ?_
 refine PO.run 1 rfl ?_
 refine bindK hF (λ r25 e26 hF=>?_)
 refine PO.call rfl rfl rfl rfl (ks:=[2,4]) (ts:=[]) (fr1:=[⟨76,(flatU (cGstate 0) a9)⟩,⟨0,(cGstate 0 v6)⟩]) rfl rfl (mo_cons rfl (mo_cons rfl mo_nil)) ⟨⟨_,rfl,rfl,uTo rfl⟩,⟨⟨_,rfl,rfl,uTo1 v6 rfl⟩,trivial⟩⟩ (L32_s k (some none) (some (some (4 * Int.toNat a0+Int.toNat a1.class_))) a9 v6 _ e26) ?_
 rintro _ _ _ ⟨rfl,rfl,rfl⟩
 refine⟨_,_,rfl,(bk_cons (bk_u (uTo rfl)) (bk_cons (bk_u (uTo1 r25.2.2 rfl)) bk_nil)),?_⟩
 refine PO.nil ?_
 refine PC.lone ?_
 refine bindK hF (λ x27 e28 hF=>?_)
 refine PC.join (λ s=>∃ (v11:List Gstate),Weak s (PS.of 94 [] [⟨0,(cGMeter a3)⟩,⟨0,[vP 0,.list 13 (List.map cGItem a4) none,vI a5,vI a6,.list 1 (List.map cI_i64 a7) none,.sl 2 0 a8 a8]⟩,⟨76,(flatU (cGstate 2) v11)⟩,⟨0,(cGstate 2 r25.2.2)⟩] [] 3 0)/\v11=x27) ?_ ?_
 ·refine PC.cond rfl (λ h29=>?_) (λ h29=>?_)
  ·have e28:=bif_t h29 e28
   refine PC.region ?_
   refine PO.run 2 rfl ?_
   refine bindGK e28 (λ y12 h30 e28=>?_)
   refine PO.same rfl (nilG_ok rfl (getG_some h30)) rfl ?_
   refine oT 0 [(92,.agg (cGstate 2 r25.2.2)),(93,gpO 4 2 19 (some (some (4 * Int.toNat a0+Int.toNat a1.class_))) 0)] [⟨0,(cGMeter a3)⟩,⟨0,[vP 0,.list 13 (List.map cGItem a4) none,vI a5,vI a6,.list 1 (List.map cI_i64 a7) none,.sl 2 0 a8 a8]⟩,⟨76,(flatU (cGstate 2) r25.2.1)⟩,⟨0,(cGLine a1)⟩,⟨0,(cGstate 2 r25.2.2)⟩] [] (by kernel_rfl) ?_
   refine PO.one rfl (storeG_ok (y':=r25.2.2) cU cUp rfl rfl rfl rfl h30) rfl ?_
   refine PO.nil ?_
   exact PC.skip (joinKP.end ⟨List.set r25.2.1 (4 * Int.toNat a0+Int.toNat a1.class_) r25.2.2,Weak.mk [0,1,2,4] [] 0 rfl rfl rfl ⟨⟨_,_,rfl,rfl,rfl,(LessL.refl _)⟩,⟨⟨_,_,rfl,rfl,rfl,(LessL.refl _)⟩,⟨⟨_,_,rfl,rfl,uTo rfl,LessL.refl _⟩,⟨⟨_,_,rfl,rfl,uTo1 r25.2.2 rfl,(LessL.refl _)⟩,trivial⟩⟩⟩⟩ trivial,Option.some.inj e28⟩)
  have e28:=bif_f h29 e28
  refine PC.noop ?_
  exact PC.skip (joinKP.end ⟨r25.2.1,Weak.mk [0,1,2,4] [] 0 rfl rfl rfl ⟨⟨_,_,rfl,rfl,rfl,(LessL.refl _)⟩,⟨⟨_,_,rfl,rfl,rfl,(LessL.refl _)⟩,⟨⟨_,_,rfl,rfl,uTo rfl,LessL.refl _⟩,⟨⟨_,_,rfl,rfl,uTo1 r25.2.2 rfl,(LessL.refl _)⟩,trivial⟩⟩⟩⟩ trivial,Option.some.inj e28⟩)
 rintro _ ⟨v11,w31,rfl⟩
 refine PC.weak w31 ?_
 have hq:=Option.some.inj hF
 subst hq
 exact PC.skip (retUN [0,1,2] [] (fr':=[⟨0,(cGMeter a3)⟩,⟨0,[vP 0,.list 13 (List.map cGItem a4) none,vI a5,vI a6,.list 1 (List.map cI_i64 a7) none,.sl 2 0 a8 a8]⟩,⟨76,(flatU (cGstate 2) v11)⟩]) (by kernel_rfl) ⟨⟨_,rfl,rfl,rfl⟩,⟨⟨_,rfl,rfl,rfl⟩,⟨⟨_,rfl,rfl,uTo rfl⟩,trivial⟩⟩⟩ (.refl _) ⟨rfl,rfl,rfl⟩)
def F30_s_l1 (k:Nat) (a0:Int) (a6:Nat):Nat->Int->GMeter->(List GItem)->Int->Int->(List Int)->(List Gstate)->Option ((GMeter×(List GItem)×Int×Int×(List Int)×(List Gstate)) ⊕ (Bool×GMeter×(List GItem)×Int×Int×(List Int)×(List Gstate)))
  | 0,_,_,_,_,_,_,_=>none
  | j5+1,v28,v36,v37,v38,v39,v40,v41=>
    bif decide (v28 < a0) then(Option.bind (α:=(GMeter×(List GItem)×Int×Int×(List Int)×(List Gstate)) ⊕ ((GMeter×(List GItem)×Int×Int×(List Int)×(List Gstate)) ⊕ (Bool×GMeter×(List GItem)×Int×Int×(List Int)×(List Gstate)))) ((F58 k v36 1).bind λ r10=>
    bif !r10.1 then(some (.inr (.inr (false,r10.2,v37,v38,v39,v40,v41)))) else(Option.bind (α:=Int) (bif decide (v28>=0) then(bindI v40 v28 λ y70=>
    some y70) else(some (-1))) λ(v69:Int)=>
    bindI v40 a0 λ y71=>
    (F59 k v37 v38 v69 y71).bind λ r21=>
    bif decide (v28 < 0) then((F60_s k a0 r21.1 none r10.2 v37 v38 v39 v40 a6 v41).bind λ r24=>
    some (.inl (r24.1,r24.2.1,r24.2.2.1,r24.2.2.2.1,r24.2.2.2.2.1,r24.2.2.2.2.2))) else(Option.bind (α:=GMeter×(List GItem)×Int×Int×(List Int)×(List Gstate)) (Option.bind (α:=GMeter×(List GItem)×Int×Int×(List Int)×(List Gstate)) (bindN v28 a6 (bindN 0 4 (bindO v41 (some (4 * Int.toNat v28+Int.toNat 0)) λ y98=>
    bif y98.is_ then((F60_s k a0 r21.1 (some (4 * Int.toNat v28+Int.toNat 0)) r10.2 v37 v38 v39 v40 a6 v41).bind λ r37=>
    some (r37.1,r37.2.1,r37.2.2.1,r37.2.2.2.1,r37.2.2.2.2.1,r37.2.2.2.2.2)) else(some (r10.2,v37,v38,v39,v40,v41))))) λ(v92,v93,v94,v95,v96,v97)=>
    Option.bind (α:=GMeter×(List GItem)×Int×Int×(List Int)×(List Gstate)) (bindN v28 a6 (bindN 1 4 (bindO v97 (some (4 * Int.toNat v28+Int.toNat 1)) λ y112=>
    bif y112.is_ then((F60_s k a0 r21.1 (some (4 * Int.toNat v28+Int.toNat 1)) v92 v93 v94 v95 v96 a6 v97).bind λ r49=>
    some (r49.1,r49.2.1,r49.2.2.1,r49.2.2.2.1,r49.2.2.2.2.1,r49.2.2.2.2.2)) else(some (v92,v93,v94,v95,v96,v97))))) λ(v106,v107,v108,v109,v110,v111)=>
    Option.bind (α:=GMeter×(List GItem)×Int×Int×(List Int)×(List Gstate)) (bindN v28 a6 (bindN 2 4 (bindO v111 (some (4 * Int.toNat v28+Int.toNat 2)) λ y126=>
    bif y126.is_ then((F60_s k a0 r21.1 (some (4 * Int.toNat v28+Int.toNat 2)) v106 v107 v108 v109 v110 a6 v111).bind λ r61=>
    some (r61.1,r61.2.1,r61.2.2.1,r61.2.2.2.1,r61.2.2.2.2.1,r61.2.2.2.2.2)) else(some (v106,v107,v108,v109,v110,v111))))) λ(v120,v121,v122,v123,v124,v125)=>
    Option.bind (α:=GMeter×(List GItem)×Int×Int×(List Int)×(List Gstate)) (bindN v28 a6 (bindN 3 4 (bindO v125 (some (4 * Int.toNat v28+Int.toNat 3)) λ y140=>
    bif y140.is_ then((F60_s k a0 r21.1 (some (4 * Int.toNat v28+Int.toNat 3)) v120 v121 v122 v123 v124 a6 v125).bind λ r73=>
    some (r73.1,r73.2.1,r73.2.2.1,r73.2.2.2.1,r73.2.2.2.2.1,r73.2.2.2.2.2)) else(some (v120,v121,v122,v123,v124,v125))))) λ(v134,v135,v136,v137,v138,v139)=>
    some (v134,v135,v136,v137,v138,v139)) λ(v79,v80,v81,v82,v83,v84)=>
    some (.inl (v79,v80,v81,v82,v83,v84))))) (Sum.elim (λ(v63,v64,v65,v66,v67,v68)=>
    F30_s_l1 k a0 a6 j5 (w (v28+1)) v63 v64 v65 v66 v67 v68) some)) else(some (.inl (v36,v37,v38,v39,v40,v41)))
def F30_s (k:Nat) (a0:Int) (a1:GMeter) (a2:List GItem) (a3:Int) (a4:Int) (a5:List Int) (a6:Nat) (a7:List Gstate):Option (Bool×GMeter×(List GItem)×Int×Int×(List Int)×(List Gstate)):=
(F57_s k a0 a1 a2 a3 a4 a5 a6 a7).bind λ r1=>
Option.bind (α:=(GMeter×(List GItem)×Int×Int×(List Int)×(List Gstate)) ⊕ (Bool×GMeter×(List GItem)×Int×Int×(List Int)×(List Gstate))) (F30_s_l1 k a0 a6 k r1.1 r1.2.1 r1.2.2.1 r1.2.2.2.1 r1.2.2.2.2.1 r1.2.2.2.2.2.1 r1.2.2.2.2.2.2) (Sum.elim (λ(v8,v9,v10,v11,v12,v13)=>
some (true,v8,v9,v10,v11,v12,v13)) some)
theorem L30_s (k:Nat) (a0:Int) (a1:GMeter) (a2:List GItem) (a3:Int) (a4:Int) (a5:List Int) (a6:Nat) (a7:List Gstate) (r:Bool×GMeter×(List GItem)×Int×Int×(List Int)×(List Gstate)) (hF:F30_s k a0 a1 a2 a3 a4 a5 a6 a7=some r):PF Try.prog orc 30 [vP 1,vI a0] [⟨0,(cGMeter a1)⟩,⟨0,[vP 0,.list 13 (List.map cGItem a2) none,vI a3,vI a4,.list 1 (List.map cI_i64 a5) none,.sl 2 0 a6 a6]⟩,⟨76,(flatU (cGstate 2) a7)⟩] [] (λ p fr tk=>p=vB r.1/\fr=[⟨0,(cGMeter r.2.1)⟩,⟨0,[vP 0,.list 13 (List.map cGItem r.2.2.1) none,vI r.2.2.2.1,vI r.2.2.2.2.1,.list 1 (List.map cI_i64 r.2.2.2.2.2.1) none,.sl 2 0 a6 a6]⟩,⟨76,(flatU (cGstate 2) r.2.2.2.2.2.2)⟩]/\tk=[]):=by
 unfold F30_s at hF
 refine PF.enterS Try.func30 rfl rfl rfl (by kernel_rfl) rfl ?_
 refine PC.run (n:=2) rfl ?_
 refine PC.assoc ?_
 refine PC.region ?_
 refine PO.run 2 rfl ?_
 refine bindK hF (λ r1 e2 hF=>?_)
 refine PO.call rfl rfl rfl rfl (ks:=[0,1,2]) (ts:=[]) (fr1:=[⟨0,(cGMeter a1)⟩,⟨0,[vP 0,.list 13 (List.map cGItem a2) none,vI a3,vI a4,.list 1 (List.map cI_i64 a5) none,.sl 2 0 a6 a6]⟩,⟨76,(flatU (cGstate 2) a7)⟩]) rfl rfl rfl ⟨⟨_,rfl,rfl,rfl⟩,⟨⟨_,rfl,rfl,rfl⟩,⟨⟨_,rfl,rfl,uTo rfl⟩,trivial⟩⟩⟩ (L57_s k a0 a1 a2 a3 a4 a5 a6 a7 _ e2) ?_
 rintro _ _ _ ⟨rfl,rfl,rfl⟩
 refine⟨_,_,rfl,(bk_cons rfl (bk_cons rfl (bk_cons (bk_u (uTo rfl)) bk_nil))),?_⟩
 refine PO.run 1 rfl ?_
 refine PO.nil ?_
 refine bindK hF (λ x3 e4 hF=>?_)
 refine PC.blockJ (λ s=>∃ (v8:GMeter) (v9:List GItem) (v10:Int) (v11:Int) (v12:List Int) (v13:List Gstate),Weak s (PS.of 81 [(4,vB false)] [⟨0,(cGMeter v8)⟩,⟨0,[vP 0,.list 13 (List.map cGItem v9) none,vI v10,vI v11,.list 1 (List.map cI_i64 v12) none,.sl 2 0 a6 a6]⟩,⟨76,(flatU (cGstate 2) v13)⟩] [] 3 0)/\.inl (v8,v9,v10,v11,v12,v13)=x3) ?_ ?_
 ·refine PC.loop (λ j5 s=>∃ (v28:Int) (v36:GMeter) (v37:List GItem) (v38:Int) (v39:Int) (v40:List Int) (v41:List Gstate),Weak s (PS.of 81 [(0,vP 1),(1,vI a0),(4,vB false),(5,vI v28)] [⟨0,(cGMeter v36)⟩,⟨0,[vP 0,.list 13 (List.map cGItem v37) none,vI v38,vI v39,.list 1 (List.map cI_i64 v40) none,.sl 2 0 a6 a6]⟩,⟨76,(flatU (cGstate 2) v41)⟩] [] 3 0)/\F30_s_l1 k a0 a6 j5 v28 v36 v37 v38 v39 v40 v41=some x3) (λ j5 s=>?_) k ⟨r1.1,r1.2.1,r1.2.2.1,r1.2.2.2.1,r1.2.2.2.2.1,r1.2.2.2.2.2.1,r1.2.2.2.2.2.2,Weak.mk [0,1,2] [] 0 rfl rfl rfl ⟨⟨_,_,rfl,rfl,rfl,(LessL.refl _)⟩,⟨⟨_,_,rfl,rfl,rfl,(LessL.refl _)⟩,⟨⟨_,_,rfl,rfl,uTo rfl,LessL.refl _⟩,trivial⟩⟩⟩ ⟨⟨_,_,rfl,rfl,.refl _⟩,⟨⟨_,_,rfl,rfl,.refl _⟩,⟨⟨_,_,rfl,rfl,.refl _⟩,⟨⟨_,_,rfl,rfl,.refl _⟩,trivial⟩⟩⟩⟩,e4⟩
  rintro⟨v28,v36,v37,v38,v39,v40,v41,w6,e4⟩
  refine PC.weak w6 ?_
  obtain _ | j5:=j5
  · rw[F30_s_l1] at e4; cases e4
  rw[F30_s_l1] at e4
  refine PC.assoc ?_
  refine PC.run (n:=4) rfl ?_
  refine PC.cond rfl (λ h7=>?_) (λ h7=>?_)
  ·have e4:=bif_t h7 e4
   refine PC.noop ?_
   refine bindK e4 (λ x8 e9 e4=>?_)
   refine PC.blockJ (λ s=>∃ (v63:GMeter) (v64:List GItem) (v65:Int) (v66:Int) (v67:List Int) (v68:List Gstate),Weak s (PS.of 81 [(0,vP 1),(1,vI a0),(4,vB false),(5,vI v28)] [⟨0,(cGMeter v63)⟩,⟨0,[vP 0,.list 13 (List.map cGItem v64) none,vI v65,vI v66,.list 1 (List.map cI_i64 v67) none,.sl 2 0 a6 a6]⟩,⟨76,(flatU (cGstate 2) v68)⟩] [] 3 0)/\.inl (v63,v64,v65,v66,v67,v68)=x8) ?_ ?_
   ·refine PC.assoc ?_
    refine PC.region ?_
    refine PO.run 4 rfl ?_
    refine bindK e9 (λ r10 e11 e9=>?_)
    refine PO.call rfl rfl rfl rfl (ks:=[0]) (ts:=[]) (fr1:=[⟨0,(cGMeter v36)⟩]) rfl rfl rfl ⟨⟨_,rfl,rfl,rfl⟩,trivial⟩ (L58 k v36 1 _ e11) ?_
    rintro _ _ _ ⟨rfl,rfl,rfl⟩
    refine⟨_,_,rfl,rfl,?_⟩
    refine PO.run 1 rfl ?_
    refine PO.nil ?_
    refine PC.cond rfl (λ h12=>?_) (λ h12=>?_)
    ·have e9:=bif_t h12 e9
     refine PC.assoc ?_
     refine PC.run (n:=2) rfl ?_
     have hq:=Option.some.inj e9
     subst hq
     have hq:=Option.some.inj e4
     subst hq
     have hq:=Option.some.inj hF
     subst hq
     exact PC.ret (blockJK.back (loopKP.ret (blockJK.back (retUK [0,1,2] [] (fr':=[⟨0,(cGMeter r10.2)⟩,⟨0,[vP 0,.list 13 (List.map cGItem v37) none,vI v38,vI v39,.list 1 (List.map cI_i64 v40) none,.sl 2 0 a6 a6]⟩,⟨76,(flatU (cGstate 2) v41)⟩]) (by kernel_rfl) ⟨⟨_,rfl,rfl,rfl⟩,⟨⟨_,rfl,rfl,rfl⟩,⟨⟨_,rfl,rfl,uTo rfl⟩,trivial⟩⟩⟩ (.refl _) ⟨rfl,rfl,rfl⟩))))
    have e9:=bif_f h12 e9
    refine PC.noop ?_
    refine PC.run (n:=2) rfl ?_
    refine PC.assoc ?_
    refine PC.run (n:=3) rfl ?_
    refine bindK e9 (λ x13 e14 e9=>?_)
    refine PC.join (λ s=>∃ (v69:Int),Weak s (PS.of 81 [(0,vP 1),(1,vI a0),(4,vB false),(5,vI v28),(6,vI v69)] [⟨0,(cGMeter r10.2)⟩,⟨0,[vP 0,.list 13 (List.map cGItem v37) none,vI v38,vI v39,.list 1 (List.map cI_i64 v40) none,.sl 2 0 a6 a6]⟩,⟨76,(flatU (cGstate 2) v41)⟩] [] 3 0)/\v69=x13) ?_ ?_
    ·refine PC.cond rfl (λ h15=>?_) (λ h15=>?_)
     ·have e14:=bif_t h15 e14
      refine PC.region ?_
      refine PO.run 5 rfl ?_
      refine bindIK e14 (λ y70 h16 h17 e14=>?_)
      refine PO.same rfl (indexAddr_ok Try.underlying34 rfl rfl rfl h16 (map_at h17)) rfl ?_
      refine PO.run 2 rfl ?_
      refine PO.nil ?_
      exact PC.skip (joinKP.end ⟨y70,Weak.mk [0,1,2] [] 0 rfl rfl rfl ⟨⟨_,_,rfl,rfl,rfl,(LessL.refl _)⟩,⟨⟨_,_,rfl,rfl,rfl,(LessL.refl _)⟩,⟨⟨_,_,rfl,rfl,uTo rfl,LessL.refl _⟩,trivial⟩⟩⟩ ⟨⟨_,_,rfl,rfl,.refl _⟩,⟨⟨_,_,rfl,rfl,.refl _⟩,⟨⟨_,_,rfl,rfl,.refl _⟩,⟨⟨_,_,rfl,rfl,.refl _⟩,⟨⟨_,_,rfl,rfl,.refl _⟩,trivial⟩⟩⟩⟩⟩,Option.some.inj e14⟩)
     have e14:=bif_f h15 e14
     refine PC.noop ?_
     exact PC.skip (joinKP.end ⟨(-1),Weak.mk [0,1,2] [] 0 rfl rfl rfl ⟨⟨_,_,rfl,rfl,rfl,(LessL.refl _)⟩,⟨⟨_,_,rfl,rfl,rfl,(LessL.refl _)⟩,⟨⟨_,_,rfl,rfl,uTo rfl,LessL.refl _⟩,trivial⟩⟩⟩ ⟨⟨_,_,rfl,rfl,.refl _⟩,⟨⟨_,_,rfl,rfl,.refl _⟩,⟨⟨_,_,rfl,rfl,.refl _⟩,⟨⟨_,_,rfl,rfl,.refl _⟩,⟨⟨_,_,rfl,rfl,.refl _⟩,trivial⟩⟩⟩⟩⟩,Option.some.inj e14⟩)
    rintro _ ⟨v69,w18,rfl⟩
    refine PC.weak w18 ?_
    refine PC.draw [0,1,2,3,4,5,6,7,8,9,10,11,12,13,14,15,16,17,18,20,21,19,22] (by kernel_rfl) ?_
    refine oD 14 [14,15,16,17,18,20,21,19,22] ⟨16383,0,0,[]⟩ [(0,vP 1),(1,vI a0),(4,vB false),(5,vI v28),(38,.list 13 (List.map cGItem v37) none),(42,vI v38),(43,vI v69),(47,.list 1 (List.map cI_i64 v40) none),(48,vI a0)] [⟨0,(cGMeter r10.2)⟩,⟨0,[vP 0,.list 13 (List.map cGItem v37) none,vI v38,vI v39,.list 1 (List.map cI_i64 v40) none,.sl 2 0 a6 a6]⟩,⟨76,(flatU (cGstate 2) v41)⟩] [] (by kernel_rfl) ?_
    refine bindIK e9 (λ y71 h19 h20 e9=>?_)
    refine PD.pureS rfl (by kernel_rfl) rfl (indexAddr_ok Try.underlying34 rfl rfl rfl h19 (map_at h20)) rfl ?_
    refine oD 1 [16,17,18,20,21,19,22] ⟨65535,0,0,[]⟩ [(0,vP 1),(1,vI a0),(4,vB false),(5,vI v28),(38,.list 13 (List.map cGItem v37) none),(42,vI v38),(43,vI v69),(50,vI y71)] [⟨0,(cGMeter r10.2)⟩,⟨0,[vP 0,.list 13 (List.map cGItem v37) none,vI v38,vI v39,.list 1 (List.map cI_i64 v40) none,.sl 2 0 a6 a6]⟩,⟨76,(flatU (cGstate 2) v41)⟩] [] (by kernel_rfl) ?_
    refine bindK e9 (λ r21 e22 e9=>?_)
    refine PD.call rfl rfl (by kernel_rfl) rfl rfl rfl (ks:=[]) (ts:=[]) (fr1:=[]) rfl rfl rfl trivial (L59 k v37 v38 v69 y71 _ e22) ?_
    rintro _ _ _ ⟨rfl,rfl,rfl⟩
    refine⟨_,_,rfl,rfl,?_⟩
    refine oD 4 [19,22] ⟨3670015,3670015,1572863,[(21,[3],false),(16,[3],true)]⟩ [(0,vP 1),(1,vI a0),(4,vB false),(5,vI v28),(7,vP 3),(34,.tup [.agg (cGLine r21.1),vI r21.2])] [⟨0,(cGMeter r10.2)⟩,⟨0,[vP 0,.list 13 (List.map cGItem v37) none,vI v38,vI v39,.list 1 (List.map cI_i64 v40) none,.sl 2 0 a6 a6]⟩,⟨76,(flatU (cGstate 2) v41)⟩,⟨0,(cGLine r21.1)⟩] [] (by kernel_rfl) ?_
    refine oD 2 [] ⟨8388607,3670015,1572863,[(21,[3],false),(16,[3],true)]⟩ [(0,vP 1),(1,vI a0),(4,vB false),(5,vI v28),(7,vP 3)] [⟨0,(cGMeter r10.2)⟩,⟨0,[vP 0,.list 13 (List.map cGItem v37) none,vI v38,vI v39,.list 1 (List.map cI_i64 v40) none,.sl 2 0 a6 a6]⟩,⟨76,(flatU (cGstate 2) v41)⟩,⟨0,(cGLine r21.1)⟩] [] (by kernel_rfl) ?_
    refine PD.doneT [(0,vP 1),(1,vI a0),(4,vB false),(5,vI v28),(7,vP 3)] [⟨0,(cGMeter r10.2)⟩,⟨0,[vP 0,.list 13 (List.map cGItem v37) none,vI v38,vI v39,.list 1 (List.map cI_i64 v40) none,.sl 2 0 a6 a6]⟩,⟨76,(flatU (cGstate 2) v41)⟩,⟨0,(cGLine r21.1)⟩] [] (by kernel_rfl) (by kernel_rfl) ?_
    refine PC.assoc ?_
    refine PC.run (n:=3) rfl ?_
    refine PC.cond rfl (λ h23=>?_) (λ h23=>?_)
    ·have e9:=bif_t h23 e9
     refine PC.assoc ?_
     refine PC.region ?_
     refine PO.run 3 rfl ?_
     refine bindK e9 (λ r24 e25 e9=>?_)
     refine PO.call rfl rfl rfl rfl (ks:=[0,1,2]) (ts:=[]) (fr1:=[⟨0,(cGMeter r10.2)⟩,⟨0,[vP 0,.list 13 (List.map cGItem v37) none,vI v38,vI v39,.list 1 (List.map cI_i64 v40) none,.sl 2 0 a6 a6]⟩,⟨76,(flatU (cGstate 2) v41)⟩]) rfl rfl rfl ⟨⟨_,rfl,rfl,rfl⟩,⟨⟨_,rfl,rfl,rfl⟩,⟨⟨_,rfl,rfl,uTo rfl⟩,trivial⟩⟩⟩ (L60_s k a0 r21.1 none r10.2 v37 v38 v39 v40 a6 v41 _ e25) ?_
     rintro _ _ _ ⟨rfl,rfl,rfl⟩
     refine⟨_,_,rfl,(bk_cons rfl (bk_cons rfl (bk_cons (bk_u (uTo rfl)) bk_nil))),?_⟩
     refine PO.nil ?_
     exact PC.exit (blockJK.here ⟨r24.1,r24.2.1,r24.2.2.1,r24.2.2.2.1,r24.2.2.2.2.1,r24.2.2.2.2.2,Weak.mk [0,1,2] [] 0 rfl rfl rfl ⟨⟨_,_,rfl,rfl,rfl,(LessL.refl _)⟩,⟨⟨_,_,rfl,rfl,rfl,(LessL.refl _)⟩,⟨⟨_,_,rfl,rfl,uTo rfl,LessL.refl _⟩,trivial⟩⟩⟩ ⟨⟨_,_,rfl,rfl,.refl _⟩,⟨⟨_,_,rfl,rfl,.refl _⟩,⟨⟨_,_,rfl,rfl,.refl _⟩,⟨⟨_,_,rfl,rfl,.refl _⟩,trivial⟩⟩⟩⟩,Option.some.inj e9⟩)
    have e9:=bif_f h23 e9
    refine PC.noop ?_
    refine PC.run (n:=2) rfl ?_
    refine PC.lone ?_
    refine bindK e9 (λ x26 e27 e9=>?_)
    refine PC.blockJ (λ s=>∃ (v79:GMeter) (v80:List GItem) (v81:Int) (v82:Int) (v83:List Int) (v84:List Gstate),Weak s (PS.of 81 [(0,vP 1),(1,vI a0),(4,vB false),(5,vI v28)] [⟨0,(cGMeter v79)⟩,⟨0,[vP 0,.list 13 (List.map cGItem v80) none,vI v81,vI v82,.list 1 (List.map cI_i64 v83) none,.sl 2 0 a6 a6]⟩,⟨76,(flatU (cGstate 2) v84)⟩] [] 3 0)/\(v79,v80,v81,v82,v83,v84)=x26) ?_ ?_
    ·refine PC.loop1 ?_
     refine PC.region ?_
     refine oT 1 [(0,vP 1),(1,vI a0),(4,vB false),(5,vI v28),(7,vP 3),(60,vI 0),(61,vB true)] [⟨0,(cGMeter r10.2)⟩,⟨0,[vP 0,.list 13 (List.map cGItem v37) none,vI v38,vI v39,.list 1 (List.map cI_i64 v40) none,.sl 2 0 a6 a6]⟩,⟨76,(flatU (cGstate 2) v41)⟩,⟨0,(cGLine r21.1)⟩] [] (by kernel_rfl) ?_
     refine PO.nil ?_
     refine PC.cond rfl (λ _=>?_) (λ h28=>Bool.noConfusion h28)
     refine PC.noop ?_
     refine bindK e27 (λ x29 e30 e27=>?_)
     refine PC.blockJ (λ s=>∃ (v92:GMeter) (v93:List GItem) (v94:Int) (v95:Int) (v96:List Int) (v97:List Gstate),Weak s (PS.of 81 [(0,vP 1),(1,vI a0),(4,vB false),(5,vI v28),(7,vP 3),(60,vI 0)] [⟨0,(cGMeter v92)⟩,⟨0,[vP 0,.list 13 (List.map cGItem v93) none,vI v94,vI v95,.list 1 (List.map cI_i64 v96) none,.sl 2 0 a6 a6]⟩,⟨76,(flatU (cGstate 2) v97)⟩,⟨0,(cGLine r21.1)⟩] [] 3 0)/\(v92,v93,v94,v95,v96,v97)=x29) ?_ ?_
     ·refine PC.region ?_
      refine oT 2 [(0,vP 1),(1,vI a0),(4,vB false),(5,vI v28),(7,vP 3),(9,vI 0),(60,vI 0)] [⟨0,(cGMeter r10.2)⟩,⟨0,[vP 0,.list 13 (List.map cGItem v37) none,vI v38,vI v39,.list 1 (List.map cI_i64 v40) none,.sl 2 0 a6 a6]⟩,⟨76,(flatU (cGstate 2) v41)⟩,⟨0,(cGLine r21.1)⟩] [] (by kernel_rfl) ?_
      refine PO.nil ?_
      refine PC.region ?_
      refine oT 6 [(0,vP 1),(1,vI a0),(4,vB false),(5,vI v28),(7,vP 3),(60,vI 0),(66,.sl 2 0 a6 a6),(67,vI v28),(68,vI 0)] [⟨0,(cGMeter r10.2)⟩,⟨0,[vP 0,.list 13 (List.map cGItem v37) none,vI v38,vI v39,.list 1 (List.map cI_i64 v40) none,.sl 2 0 a6 a6]⟩,⟨76,(flatU (cGstate 2) v41)⟩,⟨0,(cGLine r21.1)⟩] [] (by kernel_rfl) ?_
      refine bindNK e30 (λ h31 h32 e30=>?_)
      refine PO.same rfl (slAt_ok Try.underlying68 rfl rfl rfl h31 h32) rfl ?_
      refine oT 0 [(0,vP 1),(1,vI a0),(4,vB false),(5,vI v28),(7,vP 3),(60,vI 0),(68,vI 0),(69,.ptr 2 (0+Int.toNat v28 * 76))] [⟨0,(cGMeter r10.2)⟩,⟨0,[vP 0,.list 13 (List.map cGItem v37) none,vI v38,vI v39,.list 1 (List.map cI_i64 v40) none,.sl 2 0 a6 a6]⟩,⟨76,(flatU (cGstate 2) v41)⟩,⟨0,(cGLine r21.1)⟩] [] (by kernel_rfl) ?_
      refine bindNK e30 (λ h33 h34 e30=>?_)
      refine PO.same rfl (arrAt_ok (l:=2) (j:=4 * Int.toNat v28+Int.toNat 0) (sz:=19) Try.underlying78 rfl rfl rfl h33 h34 (by omega)) rfl ?_
      refine oT 1 [(0,vP 1),(1,vI a0),(4,vB false),(5,vI v28),(7,vP 3),(10,gpO 2 2 19 (some (some (4 * Int.toNat v28+Int.toNat 0))) 0),(60,vI 0)] [⟨0,(cGMeter r10.2)⟩,⟨0,[vP 0,.list 13 (List.map cGItem v37) none,vI v38,vI v39,.list 1 (List.map cI_i64 v40) none,.sl 2 0 a6 a6]⟩,⟨76,(flatU (cGstate 2) v41)⟩,⟨0,(cGLine r21.1)⟩] [] (by kernel_rfl) ?_
      refine PO.nil ?_
      refine PC.region ?_
      refine oT 1 [(0,vP 1),(1,vI a0),(4,vB false),(5,vI v28),(7,vP 3),(10,gpO 2 2 19 (some (some (4 * Int.toNat v28+Int.toNat 0))) 0),(60,vI 0),(71,gpO 2 2 19 (some (some (4 * Int.toNat v28+Int.toNat 0))) 0)] [⟨0,(cGMeter r10.2)⟩,⟨0,[vP 0,.list 13 (List.map cGItem v37) none,vI v38,vI v39,.list 1 (List.map cI_i64 v40) none,.sl 2 0 a6 a6]⟩,⟨76,(flatU (cGstate 2) v41)⟩,⟨0,(cGLine r21.1)⟩] [] (by kernel_rfl) ?_
      refine bindOK e30 (λ y98 h35 e30=>?_)
      refine PO.same rfl (nilG_ok rfl (getO_some h35)) rfl ?_
      refine PO.same rfl (fieldG_ok (o':=0) rfl (getO_some h35) (λ _ _=>rfl)) rfl ?_
      refine PO.same rfl (load_of rfl (pLoad_o (q:=vB y98.is_) cU rfl h35 rfl)) rfl ?_
      refine PO.nil ?_
      refine PC.lone ?_
      refine PC.cond rfl (λ h36=>?_) (λ h36=>?_)
      ·have e30:=bif_t h36 e30
       refine PC.region ?_
       refine oT 4 [(0,vP 1),(1,vI a0),(4,vB false),(5,vI v28),(7,vP 3),(60,vI 0),(75,vP 1),(76,vI a0),(77,.agg (cGLine r21.1)),(78,gpO 2 2 19 (some (some (4 * Int.toNat v28+Int.toNat 0))) 0)] [⟨0,(cGMeter r10.2)⟩,⟨0,[vP 0,.list 13 (List.map cGItem v37) none,vI v38,vI v39,.list 1 (List.map cI_i64 v40) none,.sl 2 0 a6 a6]⟩,⟨76,(flatU (cGstate 2) v41)⟩,⟨0,(cGLine r21.1)⟩] [] (by kernel_rfl) ?_
       refine bindK e30 (λ r37 e38 e30=>?_)
       refine PO.call rfl rfl rfl rfl (ks:=[0,1,2]) (ts:=[]) (fr1:=[⟨0,(cGMeter r10.2)⟩,⟨0,[vP 0,.list 13 (List.map cGItem v37) none,vI v38,vI v39,.list 1 (List.map cI_i64 v40) none,.sl 2 0 a6 a6]⟩,⟨76,(flatU (cGstate 2) v41)⟩]) rfl rfl (mo_cons rfl (mo_cons rfl (mo_cons rfl (mo_cons rfl mo_nil)))) ⟨⟨_,rfl,rfl,rfl⟩,⟨⟨_,rfl,rfl,rfl⟩,⟨⟨_,rfl,rfl,uTo rfl⟩,trivial⟩⟩⟩ (L60_s k a0 r21.1 (some (4 * Int.toNat v28+Int.toNat 0)) r10.2 v37 v38 v39 v40 a6 v41 _ e38) ?_
       rintro _ _ _ ⟨rfl,rfl,rfl⟩
       refine⟨_,_,rfl,(bk_cons rfl (bk_cons rfl (bk_cons (bk_u (uTo rfl)) bk_nil))),?_⟩
       refine PO.nil ?_
       exact PC.skip (blockJK.end ⟨r37.1,r37.2.1,r37.2.2.1,r37.2.2.2.1,r37.2.2.2.2.1,r37.2.2.2.2.2,Weak.mk [0,1,2,3] [] 0 rfl rfl rfl ⟨⟨_,_,rfl,rfl,rfl,(LessL.refl _)⟩,⟨⟨_,_,rfl,rfl,rfl,(LessL.refl _)⟩,⟨⟨_,_,rfl,rfl,uTo rfl,LessL.refl _⟩,⟨⟨_,_,rfl,rfl,rfl,(LessL.refl _)⟩,trivial⟩⟩⟩⟩ ⟨⟨_,_,rfl,rfl,.refl _⟩,⟨⟨_,_,rfl,rfl,.refl _⟩,⟨⟨_,_,rfl,rfl,.refl _⟩,⟨⟨_,_,rfl,rfl,.refl _⟩,⟨⟨_,_,rfl,rfl,.refl _⟩,⟨⟨_,_,rfl,rfl,.refl _⟩,trivial⟩⟩⟩⟩⟩⟩,Option.some.inj e30⟩)
      have e30:=bif_f h36 e30
      refine PC.noop ?_
      exact PC.skip (blockJK.end ⟨r10.2,v37,v38,v39,v40,v41,Weak.mk [0,1,2,3] [] 0 rfl rfl rfl ⟨⟨_,_,rfl,rfl,rfl,(LessL.refl _)⟩,⟨⟨_,_,rfl,rfl,rfl,(LessL.refl _)⟩,⟨⟨_,_,rfl,rfl,uTo rfl,LessL.refl _⟩,⟨⟨_,_,rfl,rfl,rfl,(LessL.refl _)⟩,trivial⟩⟩⟩⟩ ⟨⟨_,_,rfl,rfl,.refl _⟩,⟨⟨_,_,rfl,rfl,.refl _⟩,⟨⟨_,_,rfl,rfl,.refl _⟩,⟨⟨_,_,rfl,rfl,.refl _⟩,⟨⟨_,_,rfl,rfl,.refl _⟩,⟨⟨_,_,rfl,rfl,.refl _⟩,trivial⟩⟩⟩⟩⟩⟩,Option.some.inj e30⟩)
     rintro _ ⟨v92,v93,v94,v95,v96,v97,w39,rfl⟩
     refine PC.weak w39 ?_
     refine PC.lone ?_
     refine PC.region ?_
     refine oT 2 [(0,vP 1),(1,vI a0),(4,vB false),(5,vI v28),(7,vP 3),(60,vI 1)] [⟨0,(cGMeter v92)⟩,⟨0,[vP 0,.list 13 (List.map cGItem v93) none,vI v94,vI v95,.list 1 (List.map cI_i64 v96) none,.sl 2 0 a6 a6]⟩,⟨76,(flatU (cGstate 2) v97)⟩,⟨0,(cGLine r21.1)⟩] [] (by kernel_rfl) ?_
     refine PO.nil ?_
     refine PC.skip (loop1P.end ?_)
     refine PC.loop1 ?_
     refine PC.region ?_
     refine oT 1 [(0,vP 1),(1,vI a0),(4,vB false),(5,vI v28),(7,vP 3),(60,vI 1),(61,vB true)] [⟨0,(cGMeter v92)⟩,⟨0,[vP 0,.list 13 (List.map cGItem v93) none,vI v94,vI v95,.list 1 (List.map cI_i64 v96) none,.sl 2 0 a6 a6]⟩,⟨76,(flatU (cGstate 2) v97)⟩,⟨0,(cGLine r21.1)⟩] [] (by kernel_rfl) ?_
     refine PO.nil ?_
     refine PC.cond rfl (λ _=>?_) (λ h40=>Bool.noConfusion h40)
     refine PC.noop ?_
     refine bindK e27 (λ x41 e42 e27=>?_)
     refine PC.blockJ (λ s=>∃ (v106:GMeter) (v107:List GItem) (v108:Int) (v109:Int) (v110:List Int) (v111:List Gstate),Weak s (PS.of 81 [(0,vP 1),(1,vI a0),(4,vB false),(5,vI v28),(7,vP 3),(60,vI 1)] [⟨0,(cGMeter v106)⟩,⟨0,[vP 0,.list 13 (List.map cGItem v107) none,vI v108,vI v109,.list 1 (List.map cI_i64 v110) none,.sl 2 0 a6 a6]⟩,⟨76,(flatU (cGstate 2) v111)⟩,⟨0,(cGLine r21.1)⟩] [] 3 0)/\(v106,v107,v108,v109,v110,v111)=x41) ?_ ?_
     ·refine PC.region ?_
      refine oT 2 [(0,vP 1),(1,vI a0),(4,vB false),(5,vI v28),(7,vP 3),(9,vI 1),(60,vI 1)] [⟨0,(cGMeter v92)⟩,⟨0,[vP 0,.list 13 (List.map cGItem v93) none,vI v94,vI v95,.list 1 (List.map cI_i64 v96) none,.sl 2 0 a6 a6]⟩,⟨76,(flatU (cGstate 2) v97)⟩,⟨0,(cGLine r21.1)⟩] [] (by kernel_rfl) ?_
      refine PO.nil ?_
      refine PC.region ?_
      refine oT 6 [(0,vP 1),(1,vI a0),(4,vB false),(5,vI v28),(7,vP 3),(60,vI 1),(66,.sl 2 0 a6 a6),(67,vI v28),(68,vI 1)] [⟨0,(cGMeter v92)⟩,⟨0,[vP 0,.list 13 (List.map cGItem v93) none,vI v94,vI v95,.list 1 (List.map cI_i64 v96) none,.sl 2 0 a6 a6]⟩,⟨76,(flatU (cGstate 2) v97)⟩,⟨0,(cGLine r21.1)⟩] [] (by kernel_rfl) ?_
      refine bindNK e42 (λ h43 h44 e42=>?_)
      refine PO.same rfl (slAt_ok Try.underlying68 rfl rfl rfl h43 h44) rfl ?_
      refine oT 0 [(0,vP 1),(1,vI a0),(4,vB false),(5,vI v28),(7,vP 3),(60,vI 1),(68,vI 1),(69,.ptr 2 (0+Int.toNat v28 * 76))] [⟨0,(cGMeter v92)⟩,⟨0,[vP 0,.list 13 (List.map cGItem v93) none,vI v94,vI v95,.list 1 (List.map cI_i64 v96) none,.sl 2 0 a6 a6]⟩,⟨76,(flatU (cGstate 2) v97)⟩,⟨0,(cGLine r21.1)⟩] [] (by kernel_rfl) ?_
      refine bindNK e42 (λ h45 h46 e42=>?_)
      refine PO.same rfl (arrAt_ok (l:=2) (j:=4 * Int.toNat v28+Int.toNat 1) (sz:=19) Try.underlying78 rfl rfl rfl h45 h46 (by omega)) rfl ?_
      refine oT 1 [(0,vP 1),(1,vI a0),(4,vB false),(5,vI v28),(7,vP 3),(10,gpO 2 2 19 (some (some (4 * Int.toNat v28+Int.toNat 1))) 0),(60,vI 1)] [⟨0,(cGMeter v92)⟩,⟨0,[vP 0,.list 13 (List.map cGItem v93) none,vI v94,vI v95,.list 1 (List.map cI_i64 v96) none,.sl 2 0 a6 a6]⟩,⟨76,(flatU (cGstate 2) v97)⟩,⟨0,(cGLine r21.1)⟩] [] (by kernel_rfl) ?_
      refine PO.nil ?_
      refine PC.region ?_
      refine oT 1 [(0,vP 1),(1,vI a0),(4,vB false),(5,vI v28),(7,vP 3),(10,gpO 2 2 19 (some (some (4 * Int.toNat v28+Int.toNat 1))) 0),(60,vI 1),(71,gpO 2 2 19 (some (some (4 * Int.toNat v28+Int.toNat 1))) 0)] [⟨0,(cGMeter v92)⟩,⟨0,[vP 0,.list 13 (List.map cGItem v93) none,vI v94,vI v95,.list 1 (List.map cI_i64 v96) none,.sl 2 0 a6 a6]⟩,⟨76,(flatU (cGstate 2) v97)⟩,⟨0,(cGLine r21.1)⟩] [] (by kernel_rfl) ?_
      refine bindOK e42 (λ y112 h47 e42=>?_)
      refine PO.same rfl (nilG_ok rfl (getO_some h47)) rfl ?_
      refine PO.same rfl (fieldG_ok (o':=0) rfl (getO_some h47) (λ _ _=>rfl)) rfl ?_
      refine PO.same rfl (load_of rfl (pLoad_o (q:=vB y112.is_) cU rfl h47 rfl)) rfl ?_
      refine PO.nil ?_
      refine PC.lone ?_
      refine PC.cond rfl (λ h48=>?_) (λ h48=>?_)
      ·have e42:=bif_t h48 e42
       refine PC.region ?_
       refine oT 4 [(0,vP 1),(1,vI a0),(4,vB false),(5,vI v28),(7,vP 3),(60,vI 1),(75,vP 1),(76,vI a0),(77,.agg (cGLine r21.1)),(78,gpO 2 2 19 (some (some (4 * Int.toNat v28+Int.toNat 1))) 0)] [⟨0,(cGMeter v92)⟩,⟨0,[vP 0,.list 13 (List.map cGItem v93) none,vI v94,vI v95,.list 1 (List.map cI_i64 v96) none,.sl 2 0 a6 a6]⟩,⟨76,(flatU (cGstate 2) v97)⟩,⟨0,(cGLine r21.1)⟩] [] (by kernel_rfl) ?_
       refine bindK e42 (λ r49 e50 e42=>?_)
       refine PO.call rfl rfl rfl rfl (ks:=[0,1,2]) (ts:=[]) (fr1:=[⟨0,(cGMeter v92)⟩,⟨0,[vP 0,.list 13 (List.map cGItem v93) none,vI v94,vI v95,.list 1 (List.map cI_i64 v96) none,.sl 2 0 a6 a6]⟩,⟨76,(flatU (cGstate 2) v97)⟩]) rfl rfl (mo_cons rfl (mo_cons rfl (mo_cons rfl (mo_cons rfl mo_nil)))) ⟨⟨_,rfl,rfl,rfl⟩,⟨⟨_,rfl,rfl,rfl⟩,⟨⟨_,rfl,rfl,uTo rfl⟩,trivial⟩⟩⟩ (L60_s k a0 r21.1 (some (4 * Int.toNat v28+Int.toNat 1)) v92 v93 v94 v95 v96 a6 v97 _ e50) ?_
       rintro _ _ _ ⟨rfl,rfl,rfl⟩
       refine⟨_,_,rfl,(bk_cons rfl (bk_cons rfl (bk_cons (bk_u (uTo rfl)) bk_nil))),?_⟩
       refine PO.nil ?_
       exact PC.skip (blockJK.end ⟨r49.1,r49.2.1,r49.2.2.1,r49.2.2.2.1,r49.2.2.2.2.1,r49.2.2.2.2.2,Weak.mk [0,1,2,3] [] 0 rfl rfl rfl ⟨⟨_,_,rfl,rfl,rfl,(LessL.refl _)⟩,⟨⟨_,_,rfl,rfl,rfl,(LessL.refl _)⟩,⟨⟨_,_,rfl,rfl,uTo rfl,LessL.refl _⟩,⟨⟨_,_,rfl,rfl,rfl,(LessL.refl _)⟩,trivial⟩⟩⟩⟩ ⟨⟨_,_,rfl,rfl,.refl _⟩,⟨⟨_,_,rfl,rfl,.refl _⟩,⟨⟨_,_,rfl,rfl,.refl _⟩,⟨⟨_,_,rfl,rfl,.refl _⟩,⟨⟨_,_,rfl,rfl,.refl _⟩,⟨⟨_,_,rfl,rfl,.refl _⟩,trivial⟩⟩⟩⟩⟩⟩,Option.some.inj e42⟩)
      have e42:=bif_f h48 e42
      refine PC.noop ?_
      exact PC.skip (blockJK.end ⟨v92,v93,v94,v95,v96,v97,Weak.mk [0,1,2,3] [] 0 rfl rfl rfl ⟨⟨_,_,rfl,rfl,rfl,(LessL.refl _)⟩,⟨⟨_,_,rfl,rfl,rfl,(LessL.refl _)⟩,⟨⟨_,_,rfl,rfl,uTo rfl,LessL.refl _⟩,⟨⟨_,_,rfl,rfl,rfl,(LessL.refl _)⟩,trivial⟩⟩⟩⟩ ⟨⟨_,_,rfl,rfl,.refl _⟩,⟨⟨_,_,rfl,rfl,.refl _⟩,⟨⟨_,_,rfl,rfl,.refl _⟩,⟨⟨_,_,rfl,rfl,.refl _⟩,⟨⟨_,_,rfl,rfl,.refl _⟩,⟨⟨_,_,rfl,rfl,.refl _⟩,trivial⟩⟩⟩⟩⟩⟩,Option.some.inj e42⟩)
     rintro _ ⟨v106,v107,v108,v109,v110,v111,w51,rfl⟩
     refine PC.weak w51 ?_
     refine PC.lone ?_
     refine PC.region ?_
     refine oT 2 [(0,vP 1),(1,vI a0),(4,vB false),(5,vI v28),(7,vP 3),(60,vI 2)] [⟨0,(cGMeter v106)⟩,⟨0,[vP 0,.list 13 (List.map cGItem v107) none,vI v108,vI v109,.list 1 (List.map cI_i64 v110) none,.sl 2 0 a6 a6]⟩,⟨76,(flatU (cGstate 2) v111)⟩,⟨0,(cGLine r21.1)⟩] [] (by kernel_rfl) ?_
     refine PO.nil ?_
     refine PC.skip (loop1P.end ?_)
     refine PC.loop1 ?_
     refine PC.region ?_
     refine oT 1 [(0,vP 1),(1,vI a0),(4,vB false),(5,vI v28),(7,vP 3),(60,vI 2),(61,vB true)] [⟨0,(cGMeter v106)⟩,⟨0,[vP 0,.list 13 (List.map cGItem v107) none,vI v108,vI v109,.list 1 (List.map cI_i64 v110) none,.sl 2 0 a6 a6]⟩,⟨76,(flatU (cGstate 2) v111)⟩,⟨0,(cGLine r21.1)⟩] [] (by kernel_rfl) ?_
     refine PO.nil ?_
     refine PC.cond rfl (λ _=>?_) (λ h52=>Bool.noConfusion h52)
     refine PC.noop ?_
     refine bindK e27 (λ x53 e54 e27=>?_)
     refine PC.blockJ (λ s=>∃ (v120:GMeter) (v121:List GItem) (v122:Int) (v123:Int) (v124:List Int) (v125:List Gstate),Weak s (PS.of 81 [(0,vP 1),(1,vI a0),(4,vB false),(5,vI v28),(7,vP 3),(60,vI 2)] [⟨0,(cGMeter v120)⟩,⟨0,[vP 0,.list 13 (List.map cGItem v121) none,vI v122,vI v123,.list 1 (List.map cI_i64 v124) none,.sl 2 0 a6 a6]⟩,⟨76,(flatU (cGstate 2) v125)⟩,⟨0,(cGLine r21.1)⟩] [] 3 0)/\(v120,v121,v122,v123,v124,v125)=x53) ?_ ?_
     ·refine PC.region ?_
      refine oT 2 [(0,vP 1),(1,vI a0),(4,vB false),(5,vI v28),(7,vP 3),(9,vI 2),(60,vI 2)] [⟨0,(cGMeter v106)⟩,⟨0,[vP 0,.list 13 (List.map cGItem v107) none,vI v108,vI v109,.list 1 (List.map cI_i64 v110) none,.sl 2 0 a6 a6]⟩,⟨76,(flatU (cGstate 2) v111)⟩,⟨0,(cGLine r21.1)⟩] [] (by kernel_rfl) ?_
      refine PO.nil ?_
      refine PC.region ?_
      refine oT 6 [(0,vP 1),(1,vI a0),(4,vB false),(5,vI v28),(7,vP 3),(60,vI 2),(66,.sl 2 0 a6 a6),(67,vI v28),(68,vI 2)] [⟨0,(cGMeter v106)⟩,⟨0,[vP 0,.list 13 (List.map cGItem v107) none,vI v108,vI v109,.list 1 (List.map cI_i64 v110) none,.sl 2 0 a6 a6]⟩,⟨76,(flatU (cGstate 2) v111)⟩,⟨0,(cGLine r21.1)⟩] [] (by kernel_rfl) ?_
      refine bindNK e54 (λ h55 h56 e54=>?_)
      refine PO.same rfl (slAt_ok Try.underlying68 rfl rfl rfl h55 h56) rfl ?_
      refine oT 0 [(0,vP 1),(1,vI a0),(4,vB false),(5,vI v28),(7,vP 3),(60,vI 2),(68,vI 2),(69,.ptr 2 (0+Int.toNat v28 * 76))] [⟨0,(cGMeter v106)⟩,⟨0,[vP 0,.list 13 (List.map cGItem v107) none,vI v108,vI v109,.list 1 (List.map cI_i64 v110) none,.sl 2 0 a6 a6]⟩,⟨76,(flatU (cGstate 2) v111)⟩,⟨0,(cGLine r21.1)⟩] [] (by kernel_rfl) ?_
      refine bindNK e54 (λ h57 h58 e54=>?_)
      refine PO.same rfl (arrAt_ok (l:=2) (j:=4 * Int.toNat v28+Int.toNat 2) (sz:=19) Try.underlying78 rfl rfl rfl h57 h58 (by omega)) rfl ?_
      refine oT 1 [(0,vP 1),(1,vI a0),(4,vB false),(5,vI v28),(7,vP 3),(10,gpO 2 2 19 (some (some (4 * Int.toNat v28+Int.toNat 2))) 0),(60,vI 2)] [⟨0,(cGMeter v106)⟩,⟨0,[vP 0,.list 13 (List.map cGItem v107) none,vI v108,vI v109,.list 1 (List.map cI_i64 v110) none,.sl 2 0 a6 a6]⟩,⟨76,(flatU (cGstate 2) v111)⟩,⟨0,(cGLine r21.1)⟩] [] (by kernel_rfl) ?_
      refine PO.nil ?_
      refine PC.region ?_
      refine oT 1 [(0,vP 1),(1,vI a0),(4,vB false),(5,vI v28),(7,vP 3),(10,gpO 2 2 19 (some (some (4 * Int.toNat v28+Int.toNat 2))) 0),(60,vI 2),(71,gpO 2 2 19 (some (some (4 * Int.toNat v28+Int.toNat 2))) 0)] [⟨0,(cGMeter v106)⟩,⟨0,[vP 0,.list 13 (List.map cGItem v107) none,vI v108,vI v109,.list 1 (List.map cI_i64 v110) none,.sl 2 0 a6 a6]⟩,⟨76,(flatU (cGstate 2) v111)⟩,⟨0,(cGLine r21.1)⟩] [] (by kernel_rfl) ?_
      refine bindOK e54 (λ y126 h59 e54=>?_)
      refine PO.same rfl (nilG_ok rfl (getO_some h59)) rfl ?_
      refine PO.same rfl (fieldG_ok (o':=0) rfl (getO_some h59) (λ _ _=>rfl)) rfl ?_
      refine PO.same rfl (load_of rfl (pLoad_o (q:=vB y126.is_) cU rfl h59 rfl)) rfl ?_
      refine PO.nil ?_
      refine PC.lone ?_
      refine PC.cond rfl (λ h60=>?_) (λ h60=>?_)
      ·have e54:=bif_t h60 e54
       refine PC.region ?_
       refine oT 4 [(0,vP 1),(1,vI a0),(4,vB false),(5,vI v28),(7,vP 3),(60,vI 2),(75,vP 1),(76,vI a0),(77,.agg (cGLine r21.1)),(78,gpO 2 2 19 (some (some (4 * Int.toNat v28+Int.toNat 2))) 0)] [⟨0,(cGMeter v106)⟩,⟨0,[vP 0,.list 13 (List.map cGItem v107) none,vI v108,vI v109,.list 1 (List.map cI_i64 v110) none,.sl 2 0 a6 a6]⟩,⟨76,(flatU (cGstate 2) v111)⟩,⟨0,(cGLine r21.1)⟩] [] (by kernel_rfl) ?_
       refine bindK e54 (λ r61 e62 e54=>?_)
       refine PO.call rfl rfl rfl rfl (ks:=[0,1,2]) (ts:=[]) (fr1:=[⟨0,(cGMeter v106)⟩,⟨0,[vP 0,.list 13 (List.map cGItem v107) none,vI v108,vI v109,.list 1 (List.map cI_i64 v110) none,.sl 2 0 a6 a6]⟩,⟨76,(flatU (cGstate 2) v111)⟩]) rfl rfl (mo_cons rfl (mo_cons rfl (mo_cons rfl (mo_cons rfl mo_nil)))) ⟨⟨_,rfl,rfl,rfl⟩,⟨⟨_,rfl,rfl,rfl⟩,⟨⟨_,rfl,rfl,uTo rfl⟩,trivial⟩⟩⟩ (L60_s k a0 r21.1 (some (4 * Int.toNat v28+Int.toNat 2)) v106 v107 v108 v109 v110 a6 v111 _ e62) ?_
       rintro _ _ _ ⟨rfl,rfl,rfl⟩
       refine⟨_,_,rfl,(bk_cons rfl (bk_cons rfl (bk_cons (bk_u (uTo rfl)) bk_nil))),?_⟩
       refine PO.nil ?_
       exact PC.skip (blockJK.end ⟨r61.1,r61.2.1,r61.2.2.1,r61.2.2.2.1,r61.2.2.2.2.1,r61.2.2.2.2.2,Weak.mk [0,1,2,3] [] 0 rfl rfl rfl ⟨⟨_,_,rfl,rfl,rfl,(LessL.refl _)⟩,⟨⟨_,_,rfl,rfl,rfl,(LessL.refl _)⟩,⟨⟨_,_,rfl,rfl,uTo rfl,LessL.refl _⟩,⟨⟨_,_,rfl,rfl,rfl,(LessL.refl _)⟩,trivial⟩⟩⟩⟩ ⟨⟨_,_,rfl,rfl,.refl _⟩,⟨⟨_,_,rfl,rfl,.refl _⟩,⟨⟨_,_,rfl,rfl,.refl _⟩,⟨⟨_,_,rfl,rfl,.refl _⟩,⟨⟨_,_,rfl,rfl,.refl _⟩,⟨⟨_,_,rfl,rfl,.refl _⟩,trivial⟩⟩⟩⟩⟩⟩,Option.some.inj e54⟩)
      have e54:=bif_f h60 e54
      refine PC.noop ?_
      exact PC.skip (blockJK.end ⟨v106,v107,v108,v109,v110,v111,Weak.mk [0,1,2,3] [] 0 rfl rfl rfl ⟨⟨_,_,rfl,rfl,rfl,(LessL.refl _)⟩,⟨⟨_,_,rfl,rfl,rfl,(LessL.refl _)⟩,⟨⟨_,_,rfl,rfl,uTo rfl,LessL.refl _⟩,⟨⟨_,_,rfl,rfl,rfl,(LessL.refl _)⟩,trivial⟩⟩⟩⟩ ⟨⟨_,_,rfl,rfl,.refl _⟩,⟨⟨_,_,rfl,rfl,.refl _⟩,⟨⟨_,_,rfl,rfl,.refl _⟩,⟨⟨_,_,rfl,rfl,.refl _⟩,⟨⟨_,_,rfl,rfl,.refl _⟩,⟨⟨_,_,rfl,rfl,.refl _⟩,trivial⟩⟩⟩⟩⟩⟩,Option.some.inj e54⟩)
     rintro _ ⟨v120,v121,v122,v123,v124,v125,w63,rfl⟩
     refine PC.weak w63 ?_
     refine PC.lone ?_
     refine PC.region ?_
     refine oT 2 [(0,vP 1),(1,vI a0),(4,vB false),(5,vI v28),(7,vP 3),(60,vI 3)] [⟨0,(cGMeter v120)⟩,⟨0,[vP 0,.list 13 (List.map cGItem v121) none,vI v122,vI v123,.list 1 (List.map cI_i64 v124) none,.sl 2 0 a6 a6]⟩,⟨76,(flatU (cGstate 2) v125)⟩,⟨0,(cGLine r21.1)⟩] [] (by kernel_rfl) ?_
     refine PO.nil ?_
     refine PC.skip (loop1P.end ?_)
     refine PC.loop1 ?_
     refine PC.region ?_
     refine oT 1 [(0,vP 1),(1,vI a0),(4,vB false),(5,vI v28),(7,vP 3),(60,vI 3),(61,vB true)] [⟨0,(cGMeter v120)⟩,⟨0,[vP 0,.list 13 (List.map cGItem v121) none,vI v122,vI v123,.list 1 (List.map cI_i64 v124) none,.sl 2 0 a6 a6]⟩,⟨76,(flatU (cGstate 2) v125)⟩,⟨0,(cGLine r21.1)⟩] [] (by kernel_rfl) ?_
     refine PO.nil ?_
     refine PC.cond rfl (λ _=>?_) (λ h64=>Bool.noConfusion h64)
     refine PC.noop ?_
     refine bindK e27 (λ x65 e66 e27=>?_)
     refine PC.blockJ (λ s=>∃ (v134:GMeter) (v135:List GItem) (v136:Int) (v137:Int) (v138:List Int) (v139:List Gstate),Weak s (PS.of 81 [(0,vP 1),(1,vI a0),(4,vB false),(5,vI v28),(7,vP 3),(60,vI 3)] [⟨0,(cGMeter v134)⟩,⟨0,[vP 0,.list 13 (List.map cGItem v135) none,vI v136,vI v137,.list 1 (List.map cI_i64 v138) none,.sl 2 0 a6 a6]⟩,⟨76,(flatU (cGstate 2) v139)⟩,⟨0,(cGLine r21.1)⟩] [] 3 0)/\(v134,v135,v136,v137,v138,v139)=x65) ?_ ?_
     ·refine PC.region ?_
      refine oT 2 [(0,vP 1),(1,vI a0),(4,vB false),(5,vI v28),(7,vP 3),(9,vI 3),(60,vI 3)] [⟨0,(cGMeter v120)⟩,⟨0,[vP 0,.list 13 (List.map cGItem v121) none,vI v122,vI v123,.list 1 (List.map cI_i64 v124) none,.sl 2 0 a6 a6]⟩,⟨76,(flatU (cGstate 2) v125)⟩,⟨0,(cGLine r21.1)⟩] [] (by kernel_rfl) ?_
      refine PO.nil ?_
      refine PC.region ?_
      refine oT 6 [(0,vP 1),(1,vI a0),(4,vB false),(5,vI v28),(7,vP 3),(60,vI 3),(66,.sl 2 0 a6 a6),(67,vI v28),(68,vI 3)] [⟨0,(cGMeter v120)⟩,⟨0,[vP 0,.list 13 (List.map cGItem v121) none,vI v122,vI v123,.list 1 (List.map cI_i64 v124) none,.sl 2 0 a6 a6]⟩,⟨76,(flatU (cGstate 2) v125)⟩,⟨0,(cGLine r21.1)⟩] [] (by kernel_rfl) ?_
      refine bindNK e66 (λ h67 h68 e66=>?_)
      refine PO.same rfl (slAt_ok Try.underlying68 rfl rfl rfl h67 h68) rfl ?_
      refine oT 0 [(0,vP 1),(1,vI a0),(4,vB false),(5,vI v28),(7,vP 3),(60,vI 3),(68,vI 3),(69,.ptr 2 (0+Int.toNat v28 * 76))] [⟨0,(cGMeter v120)⟩,⟨0,[vP 0,.list 13 (List.map cGItem v121) none,vI v122,vI v123,.list 1 (List.map cI_i64 v124) none,.sl 2 0 a6 a6]⟩,⟨76,(flatU (cGstate 2) v125)⟩,⟨0,(cGLine r21.1)⟩] [] (by kernel_rfl) ?_
      refine bindNK e66 (λ h69 h70 e66=>?_)
      refine PO.same rfl (arrAt_ok (l:=2) (j:=4 * Int.toNat v28+Int.toNat 3) (sz:=19) Try.underlying78 rfl rfl rfl h69 h70 (by omega)) rfl ?_
      refine oT 1 [(0,vP 1),(1,vI a0),(4,vB false),(5,vI v28),(7,vP 3),(10,gpO 2 2 19 (some (some (4 * Int.toNat v28+Int.toNat 3))) 0),(60,vI 3)] [⟨0,(cGMeter v120)⟩,⟨0,[vP 0,.list 13 (List.map cGItem v121) none,vI v122,vI v123,.list 1 (List.map cI_i64 v124) none,.sl 2 0 a6 a6]⟩,⟨76,(flatU (cGstate 2) v125)⟩,⟨0,(cGLine r21.1)⟩] [] (by kernel_rfl) ?_
      refine PO.nil ?_
      refine PC.region ?_
      refine oT 1 [(0,vP 1),(1,vI a0),(4,vB false),(5,vI v28),(7,vP 3),(10,gpO 2 2 19 (some (some (4 * Int.toNat v28+Int.toNat 3))) 0),(60,vI 3),(71,gpO 2 2 19 (some (some (4 * Int.toNat v28+Int.toNat 3))) 0)] [⟨0,(cGMeter v120)⟩,⟨0,[vP 0,.list 13 (List.map cGItem v121) none,vI v122,vI v123,.list 1 (List.map cI_i64 v124) none,.sl 2 0 a6 a6]⟩,⟨76,(flatU (cGstate 2) v125)⟩,⟨0,(cGLine r21.1)⟩] [] (by kernel_rfl) ?_
      refine bindOK e66 (λ y140 h71 e66=>?_)
      refine PO.same rfl (nilG_ok rfl (getO_some h71)) rfl ?_
      refine PO.same rfl (fieldG_ok (o':=0) rfl (getO_some h71) (λ _ _=>rfl)) rfl ?_
      refine PO.same rfl (load_of rfl (pLoad_o (q:=vB y140.is_) cU rfl h71 rfl)) rfl ?_
      refine PO.nil ?_
      refine PC.lone ?_
      refine PC.cond rfl (λ h72=>?_) (λ h72=>?_)
      ·have e66:=bif_t h72 e66
       refine PC.region ?_
       refine oT 4 [(0,vP 1),(1,vI a0),(4,vB false),(5,vI v28),(7,vP 3),(60,vI 3),(75,vP 1),(76,vI a0),(77,.agg (cGLine r21.1)),(78,gpO 2 2 19 (some (some (4 * Int.toNat v28+Int.toNat 3))) 0)] [⟨0,(cGMeter v120)⟩,⟨0,[vP 0,.list 13 (List.map cGItem v121) none,vI v122,vI v123,.list 1 (List.map cI_i64 v124) none,.sl 2 0 a6 a6]⟩,⟨76,(flatU (cGstate 2) v125)⟩,⟨0,(cGLine r21.1)⟩] [] (by kernel_rfl) ?_
       refine bindK e66 (λ r73 e74 e66=>?_)
       refine PO.call rfl rfl rfl rfl (ks:=[0,1,2]) (ts:=[]) (fr1:=[⟨0,(cGMeter v120)⟩,⟨0,[vP 0,.list 13 (List.map cGItem v121) none,vI v122,vI v123,.list 1 (List.map cI_i64 v124) none,.sl 2 0 a6 a6]⟩,⟨76,(flatU (cGstate 2) v125)⟩]) rfl rfl (mo_cons rfl (mo_cons rfl (mo_cons rfl (mo_cons rfl mo_nil)))) ⟨⟨_,rfl,rfl,rfl⟩,⟨⟨_,rfl,rfl,rfl⟩,⟨⟨_,rfl,rfl,uTo rfl⟩,trivial⟩⟩⟩ (L60_s k a0 r21.1 (some (4 * Int.toNat v28+Int.toNat 3)) v120 v121 v122 v123 v124 a6 v125 _ e74) ?_
       rintro _ _ _ ⟨rfl,rfl,rfl⟩
       refine⟨_,_,rfl,(bk_cons rfl (bk_cons rfl (bk_cons (bk_u (uTo rfl)) bk_nil))),?_⟩
       refine PO.nil ?_
       exact PC.skip (blockJK.end ⟨r73.1,r73.2.1,r73.2.2.1,r73.2.2.2.1,r73.2.2.2.2.1,r73.2.2.2.2.2,Weak.mk [0,1,2,3] [] 0 rfl rfl rfl ⟨⟨_,_,rfl,rfl,rfl,(LessL.refl _)⟩,⟨⟨_,_,rfl,rfl,rfl,(LessL.refl _)⟩,⟨⟨_,_,rfl,rfl,uTo rfl,LessL.refl _⟩,⟨⟨_,_,rfl,rfl,rfl,(LessL.refl _)⟩,trivial⟩⟩⟩⟩ ⟨⟨_,_,rfl,rfl,.refl _⟩,⟨⟨_,_,rfl,rfl,.refl _⟩,⟨⟨_,_,rfl,rfl,.refl _⟩,⟨⟨_,_,rfl,rfl,.refl _⟩,⟨⟨_,_,rfl,rfl,.refl _⟩,⟨⟨_,_,rfl,rfl,.refl _⟩,trivial⟩⟩⟩⟩⟩⟩,Option.some.inj e66⟩)
      have e66:=bif_f h72 e66
      refine PC.noop ?_
      exact PC.skip (blockJK.end ⟨v120,v121,v122,v123,v124,v125,Weak.mk [0,1,2,3] [] 0 rfl rfl rfl ⟨⟨_,_,rfl,rfl,rfl,(LessL.refl _)⟩,⟨⟨_,_,rfl,rfl,rfl,(LessL.refl _)⟩,⟨⟨_,_,rfl,rfl,uTo rfl,LessL.refl _⟩,⟨⟨_,_,rfl,rfl,rfl,(LessL.refl _)⟩,trivial⟩⟩⟩⟩ ⟨⟨_,_,rfl,rfl,.refl _⟩,⟨⟨_,_,rfl,rfl,.refl _⟩,⟨⟨_,_,rfl,rfl,.refl _⟩,⟨⟨_,_,rfl,rfl,.refl _⟩,⟨⟨_,_,rfl,rfl,.refl _⟩,⟨⟨_,_,rfl,rfl,.refl _⟩,trivial⟩⟩⟩⟩⟩⟩,Option.some.inj e66⟩)
     rintro _ ⟨v134,v135,v136,v137,v138,v139,w75,rfl⟩
     refine PC.weak w75 ?_
     refine PC.lone ?_
     refine PC.region ?_
     refine oT 2 [(0,vP 1),(1,vI a0),(4,vB false),(5,vI v28),(7,vP 3),(60,vI 4)] [⟨0,(cGMeter v134)⟩,⟨0,[vP 0,.list 13 (List.map cGItem v135) none,vI v136,vI v137,.list 1 (List.map cI_i64 v138) none,.sl 2 0 a6 a6]⟩,⟨76,(flatU (cGstate 2) v139)⟩,⟨0,(cGLine r21.1)⟩] [] (by kernel_rfl) ?_
     refine PO.nil ?_
     refine PC.skip (loop1P.end ?_)
     refine PC.loop1 ?_
     refine PC.region ?_
     refine oT 1 [(0,vP 1),(1,vI a0),(4,vB false),(5,vI v28),(7,vP 3),(60,vI 4),(61,vB false)] [⟨0,(cGMeter v134)⟩,⟨0,[vP 0,.list 13 (List.map cGItem v135) none,vI v136,vI v137,.list 1 (List.map cI_i64 v138) none,.sl 2 0 a6 a6]⟩,⟨76,(flatU (cGstate 2) v139)⟩,⟨0,(cGLine r21.1)⟩] [] (by kernel_rfl) ?_
     refine PO.nil ?_
     refine PC.cond rfl (λ h76=>Bool.noConfusion h76) (λ _=>?_)
     exact PC.exit (loop1P.exit (blockJK.here ⟨v134,v135,v136,v137,v138,v139,Weak.mk [0,1,2] [] 0 rfl rfl rfl ⟨⟨_,_,rfl,rfl,rfl,(LessL.refl _)⟩,⟨⟨_,_,rfl,rfl,rfl,(LessL.refl _)⟩,⟨⟨_,_,rfl,rfl,uTo rfl,LessL.refl _⟩,trivial⟩⟩⟩ ⟨⟨_,_,rfl,rfl,.refl _⟩,⟨⟨_,_,rfl,rfl,.refl _⟩,⟨⟨_,_,rfl,rfl,.refl _⟩,⟨⟨_,_,rfl,rfl,.refl _⟩,trivial⟩⟩⟩⟩,Option.some.inj e27⟩))
    rintro _ ⟨v79,v80,v81,v82,v83,v84,w77,rfl⟩
    refine PC.weak w77 ?_
    exact PC.skip (blockJK.end ⟨v79,v80,v81,v82,v83,v84,Weak.mk [0,1,2] [] 0 rfl rfl rfl ⟨⟨_,_,rfl,rfl,rfl,(LessL.refl _)⟩,⟨⟨_,_,rfl,rfl,rfl,(LessL.refl _)⟩,⟨⟨_,_,rfl,rfl,uTo rfl,LessL.refl _⟩,trivial⟩⟩⟩ ⟨⟨_,_,rfl,rfl,.refl _⟩,⟨⟨_,_,rfl,rfl,.refl _⟩,⟨⟨_,_,rfl,rfl,.refl _⟩,⟨⟨_,_,rfl,rfl,.refl _⟩,trivial⟩⟩⟩⟩,Option.some.inj e9⟩)
   rintro _ ⟨v63,v64,v65,v66,v67,v68,w78,rfl⟩
   refine PC.weak w78 ?_
   have e4:=elim_l e4
   refine PC.lone ?_
   refine PC.run (n:=4) rfl ?_
   exact PC.skip (loopKP.mk (Nat.lt_succ_self _) ⟨w (v28+1),v63,v64,v65,v66,v67,v68,Weak.mk [0,1,2] [] 0 rfl rfl rfl ⟨⟨_,_,rfl,rfl,rfl,(LessL.refl _)⟩,⟨⟨_,_,rfl,rfl,rfl,(LessL.refl _)⟩,⟨⟨_,_,rfl,rfl,uTo rfl,LessL.refl _⟩,trivial⟩⟩⟩ ⟨⟨_,_,rfl,rfl,.refl _⟩,⟨⟨_,_,rfl,rfl,.refl _⟩,⟨⟨_,_,rfl,rfl,.refl _⟩,⟨⟨_,_,rfl,rfl,.refl _⟩,trivial⟩⟩⟩⟩,e4⟩)
  have e4:=bif_f h7 e4
  exact PC.exit (loopKP.exit (blockJK.here ⟨v36,v37,v38,v39,v40,v41,Weak.mk [0,1,2] [] 0 rfl rfl rfl ⟨⟨_,_,rfl,rfl,rfl,(LessL.refl _)⟩,⟨⟨_,_,rfl,rfl,rfl,(LessL.refl _)⟩,⟨⟨_,_,rfl,rfl,uTo rfl,LessL.refl _⟩,trivial⟩⟩⟩ ⟨⟨_,_,rfl,rfl,.refl _⟩,trivial⟩,Option.some.inj e4⟩))
 rintro _ ⟨v8,v9,v10,v11,v12,v13,w79,rfl⟩
 refine PC.weak w79 ?_
 have hF:=elim_l hF
 refine PC.run (n:=2) rfl ?_
 have hq:=Option.some.inj hF
 subst hq
 exact PC.ret' (retUK [0,1,2] [] (fr':=[⟨0,(cGMeter v8)⟩,⟨0,[vP 0,.list 13 (List.map cGItem v9) none,vI v10,vI v11,.list 1 (List.map cI_i64 v12) none,.sl 2 0 a6 a6]⟩,⟨76,(flatU (cGstate 2) v13)⟩]) (by kernel_rfl) ⟨⟨_,rfl,rfl,rfl⟩,⟨⟨_,rfl,rfl,rfl⟩,⟨⟨_,rfl,rfl,uTo rfl⟩,trivial⟩⟩⟩ (.refl _) ⟨rfl,rfl,rfl⟩)
def F31 (k:Nat) (a0:GMeter) (a1:Int):Option (Bool×GMeter):=
Option.bind (α:=Bool) (bif decide (a1 < 0) then(some true) else(some (decide (a1 > a0.cells_now)))) λ(v1:Bool)=>
bif v1 then(some (false,a0)) else(some (true,(GMeter.mk a0.steps_now a0.steps_peak a0.steps_budget (w (a0.cells_now - a1)) a0.cells_peak a0.cells_budget a0.refused)))
theorem L31 (k:Nat) (a0:GMeter) (a1:Int) (r:Bool×GMeter) (hF:F31 k a0 a1=some r):PF Try.prog orc 31 [vP 0,vI a1] [⟨0,(cGMeter a0)⟩] [] (λ p fr tk=>p=vB r.1/\fr=[⟨0,(cGMeter r.2)⟩]/\tk=[]):=by
 unfold F31 at hF
 refine PF.enterS Try.func31 rfl rfl rfl (by kernel_rfl) rfl ?_
 refine PC.run (n:=2) rfl ?_
 refine PC.assoc ?_
 refine PC.region ?_
 refine PO.run 3 rfl ?_
 refine bindK hF (λ x1 e2 hF=>?_)
 refine PO.cut 8 (λ s=>∃ (v1:Bool),Weak s (PS.of 26 [(0,vP 0),(1,vI a1),(4,vB false),(15,vB v1)] [⟨0,(cGMeter a0)⟩] [] 1 0)/\v1=x1) ?_ ?_
 ·refine PO.case (t:=7) rfl rfl (λ h3=>?_) (λ h3=>?_)
  ·have e2:=bif_t h3 e2
   refine PO.run 7 rfl ?_
   refine PO.same rfl (pickT_ok rfl rfl rfl) rfl ?_
   refine PO.nil ?_
   exact⟨true,Weak.one [0] [] (by kernel_rfl),Option.some.inj e2⟩
  have e2:=bif_f h3 e2
  refine PO.run 7 rfl ?_
  refine PO.same rfl (pickF_ok rfl rfl rfl) rfl ?_
  refine PO.nil ?_
  exact⟨decide (a1 > a0.cells_now),Weak.one [0] [] (by kernel_rfl),Option.some.inj e2⟩
 rintro _ ⟨v1,w4,rfl⟩
 refine PO.weak w4 ?_
 refine PO.nil ?_
 refine PC.cond rfl (λ h5=>?_) (λ h5=>?_)
 ·have hF:=bif_t h5 hF
  refine PC.assoc ?_
  refine PC.run (n:=2) rfl ?_
  have hq:=Option.some.inj hF
  subst hq
  exact PC.ret (retSK [0] [] (by kernel_rfl) (.refl _) ⟨rfl,rfl,rfl⟩)
 have hF:=bif_f h5 hF
 refine PC.noop ?_
 refine PC.region ?_
 refine oK 11 [0] [] [(4,vB false)] [⟨0,[vI a0.steps_now,vI a0.steps_peak,vI a0.steps_budget,vI (w (a0.cells_now - a1)),vI a0.cells_peak,vI a0.cells_budget,vI a0.refused]⟩] [] (by kernel_rfl) ?_
 refine PO.nil ?_
 refine PC.run (n:=2) rfl ?_
 have hq:=Option.some.inj hF
 subst hq
 exact PC.ret' (retSK [0] [] (by kernel_rfl) (.refl _) ⟨rfl,rfl,rfl⟩)
end
end Go.Eng.Lift
