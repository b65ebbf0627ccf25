import Derived.Test.YtdehaeillolhbaaM30
import Derived.Test.YtdehaeillolhbaaX8b
import Derived.Test.YtdehaeillolhbaaProg
import Derived.KernelRfl
set_option maxRecDepth 100000
set_option maxHeartbeats 4000000
namespace Go.Eng.Lift
open Go.Proofs
noncomputable section
/-! 11 platen/breaks.Best -/
def F11_l1 (k:Nat) (r24:(List Int)×(List Int)):Nat->Int->GMeter->Option ((GMeter) ⊕ ((List Int)×GCost×GFault×GMeter))
  | 0,_,_=>none
  | j34+1,v23,v31=>
    bif decide (v23 < (w (4 * (r24.1.length:Int)))) then((F28 k v31 1).bind λ r37=>
    bif !r37.1 then((F29 k r37.2).bind λ r40=>
    (F26 k r40.1 0).bind λ r42=>
    some (.inr (r42.1,r42.2.1,r42.2.2,r40.2))) else(F11_l1 k r24 j34 (w (v23+1)) r37.2)) else(some (.inl v31))
def F11_l2 (k:Nat) (r24:(List Int)×(List Int)):Nat->Int->GMeter->(List GItem)->Int->Int->(List Int)->(List Gstate)->Option ((GMeter×(List GItem)×Int×Int×(List Int)×(List Gstate)) ⊕ ((List Int)×GCost×GFault×GMeter))
  | 0,_,_,_,_,_,_,_=>none
  | j50+1,v68,v76,v77,v78,v79,v80,v81=>
    bif decide (v68 < (r24.1.length:Int)) then((F30_s k v68 v76 v77 v78 v79 v80 (Int.toNat (r24.1.length:Int)) v81).bind λ r53=>
    bif !r53.1 then((F29 k r53.2.1).bind λ r56=>
    (F26 k r56.1 0).bind λ r58=>
    some (.inr (r58.1,r58.2.1,r58.2.2,r56.2))) else(F11_l2 k r24 j50 (w (v68+1)) r53.2.1 r53.2.2.1 r53.2.2.2.1 r53.2.2.2.2.1 r53.2.2.2.2.2.1 r53.2.2.2.2.2.2)) else(some (.inl (v76,v77,v78,v79,v80,v81)))
def F11_l3 (k:Nat) (v97:List Gstate) (v117:Gstate):Nat->(List Int)->(Option (Option Nat))->Option (List Int)
  | 0,_,_=>none
  | j133+1,v301,v302=>
    bif !(Option.isNone v302) then(bindG v117 v97 v302 λ y305=>
    bindA 8 v301 ([y305.line_Break]) λ l306=>
    bindG v117 v97 v302 λ y307=>
    F11_l3 k v97 v117 j133 l306 (Option.map some y307.ahead)) else(some v301)
def F11_l4 (k:Nat) (l308:List Int):Nat->Int->GMeter->Option ((GMeter) ⊕ ((List Int)×GCost×GFault×GMeter))
  | 0,_,_=>none
  | j143+1,v326,v334=>
    bif decide (v326 < (l308.length:Int)) then((F28 k v334 1).bind λ r146=>
    bif !r146.1 then((F29 k r146.2).bind λ r149=>
    (F26 k r149.1 0).bind λ r151=>
    some (.inr (r151.1,r151.2.1,r151.2.2,r149.2))) else(F11_l4 k l308 j143 (w (v326+1)) r146.2)) else(some (.inl v334))
def F11 (k:Nat) (a0:GMeter) (a1:List GItem) (a2:Int) (a3:Int):Option ((List Int)×GCost×GFault×GMeter):=
(F21 k a1).bind λ r1=>
Option.bind (α:=Bool) (bif r1 != 0 then(some true) else(Option.bind (α:=Bool) (bif decide (a2 < 1) then(some true) else(Option.bind (α:=Bool) (bif decide (a2 > 536870912) then(some true) else(Option.bind (α:=Bool) (bif decide (a3 < 0) then(some true) else(some (decide (a3 > 10000)))) λ(v4:Bool)=>
some v4)) λ(v3:Bool)=>
some v3)) λ(v2:Bool)=>
some v2)) λ(v1:Bool)=>
bif v1 then((F26 k 1 0).bind λ r20=>
some (r20.1,r20.2.1,r20.2.2,a0)) else((F18 k a1).bind λ r22=>
(F27_s k r22).bind λ r24=>
bif decide ((r24.1.length:Int) > 1024) then(bindI a1 0 λ y5=>
(F26 k 150 y5.from_).bind λ r29=>
some (r29.1,r29.2.1,r29.2.2,a0)) else(bif (a1.length:Int) == 0 then(some ([],(GCost.mk 0 0 0),(GFault.mk 0 0),a0)) else(Option.bind (α:=(GMeter) ⊕ ((List Int)×GCost×GFault×GMeter)) (F11_l1 k r24 k 0 a0) (Sum.elim (λ(v13:GMeter)=>
bindMk (r24.1.length:Int) 544 (Option.bind (α:=(GMeter×(List GItem)×Int×Int×(List Int)×(List Gstate)) ⊕ ((List Int)×GCost×GFault×GMeter)) (F11_l2 k r24 k 0 v13 a1 a2 a3 r24.1 (List.replicate (Int.toNat (r24.1.length:Int) * 4) (Gstate.mk false 0 0 0 0 0 0 0 0 0 0 0 0 false false false 0 0 none))) (Sum.elim (λ(v48,v49,v50,v51,v52,v53)=>
(F31 k v48 (w (4 * (r24.1.length:Int)))).bind λ r61=>
Option.bind (α:=(Option (Option Nat))×(List Gstate)×Gstate) (Option.bind (α:=(Option (Option Nat))×(List Gstate)×Gstate) (bindN (w ((v52.length:Int) - 1)) (Int.toNat (r24.1.length:Int)) (bindN 0 4 (bindG (Gstate.mk false 0 0 0 0 0 0 0 0 0 0 0 0 false false false 0 0 none) v53 (some (some (4 * Int.toNat (w ((v52.length:Int) - 1))+Int.toNat 0))) λ y140=>
Option.bind (α:=Bool×(List Gstate)×Gstate) (bif y140.is_ then((F32_s k (some (some (4 * Int.toNat (w ((v52.length:Int) - 1))+Int.toNat 0))) (some none) v53 (Gstate.mk false 0 0 0 0 0 0 0 0 0 0 0 0 false false false 0 0 none)).bind λ r76=>
some (r76.1,r76.2.1,r76.2.2)) else(some (false,v53,(Gstate.mk false 0 0 0 0 0 0 0 0 0 0 0 0 false false false 0 0 none)))) λ(v141,v142,v162)=>
bif v141 then(some (some (some (4 * Int.toNat (w ((v52.length:Int) - 1))+Int.toNat 0)),v142,v162)) else(some (some none,v142,v162))))) λ(v118,v119,v139)=>
Option.bind (α:=(Option (Option Nat))×(List Gstate)×Gstate) (bindN (w ((v52.length:Int) - 1)) (Int.toNat (r24.1.length:Int)) (bindN 1 4 (bindG v139 v119 (some (some (4 * Int.toNat (w ((v52.length:Int) - 1))+Int.toNat 1))) λ y185=>
Option.bind (α:=Bool×(List Gstate)×Gstate) (bif y185.is_ then((F32_s k (some (some (4 * Int.toNat (w ((v52.length:Int) - 1))+Int.toNat 1))) v118 v119 v139).bind λ r92=>
some (r92.1,r92.2.1,r92.2.2)) else(some (false,v119,v139))) λ(v186,v187,v207)=>
bif v186 then(some (some (some (4 * Int.toNat (w ((v52.length:Int) - 1))+Int.toNat 1)),v187,v207)) else(some (v118,v187,v207))))) λ(v163,v164,v184)=>
Option.bind (α:=(Option (Option Nat))×(List Gstate)×Gstate) (bindN (w ((v52.length:Int) - 1)) (Int.toNat (r24.1.length:Int)) (bindN 2 4 (bindG v184 v164 (some (some (4 * Int.toNat (w ((v52.length:Int) - 1))+Int.toNat 2))) λ y230=>
Option.bind (α:=Bool×(List Gstate)×Gstate) (bif y230.is_ then((F32_s k (some (some (4 * Int.toNat (w ((v52.length:Int) - 1))+Int.toNat 2))) v163 v164 v184).bind λ r108=>
some (r108.1,r108.2.1,r108.2.2)) else(some (false,v164,v184))) λ(v231,v232,v252)=>
bif v231 then(some (some (some (4 * Int.toNat (w ((v52.length:Int) - 1))+Int.toNat 2)),v232,v252)) else(some (v163,v232,v252))))) λ(v208,v209,v229)=>
Option.bind (α:=(Option (Option Nat))×(List Gstate)×Gstate) (bindN (w ((v52.length:Int) - 1)) (Int.toNat (r24.1.length:Int)) (bindN 3 4 (bindG v229 v209 (some (some (4 * Int.toNat (w ((v52.length:Int) - 1))+Int.toNat 3))) λ y275=>
Option.bind (α:=Bool×(List Gstate)×Gstate) (bif y275.is_ then((F32_s k (some (some (4 * Int.toNat (w ((v52.length:Int) - 1))+Int.toNat 3))) v208 v209 v229).bind λ r124=>
some (r124.1,r124.2.1,r124.2.2)) else(some (false,v209,v229))) λ(v276,v277,v297)=>
bif v276 then(some (some (some (4 * Int.toNat (w ((v52.length:Int) - 1))+Int.toNat 3)),v277,v297)) else(some (v208,v277,v297))))) λ(v253,v254,v274)=>
some (v253,v254,v274)) λ(v96,v97,v117)=>
Option.bind (α:=List Int) (F11_l3 k v97 v117 k ([] : List Int) v96) λ(v298:List Int)=>
bindRev v298 λ l308=>
Option.bind (α:=(GMeter) ⊕ ((List Int)×GCost×GFault×GMeter)) (F11_l4 k l308 k 0 r61.2) (Sum.elim (λ(v316:GMeter)=>
bindG v117 v97 v96 λ y344=>
some (l308,(GCost.mk y344.cost_Bad y344.cost_Total y344.cost_Lines),(GFault.mk 0 0),v316)) some)) some))) some))))
theorem L11 (k:Nat) (a0:GMeter) (a1:List GItem) (a2:Int) (a3:Int) (r:(List Int)×GCost×GFault×GMeter) (hF:F11 k a0 a1 a2 a3=some r):PF Try.prog orc 11 [vP 0,.list 13 (List.map cGItem a1) none,vI a2,vI a3] [⟨0,(cGMeter a0)⟩] [] (λ p fr tk=>p=.tup [.list 1 (List.map cI_i64 r.1) none,.agg (cGCost r.2.1),.agg (cGFault r.2.2.1)]/\fr=[⟨0,(cGMeter r.2.2.2)⟩]/\tk=[]):=by
 unfold F11 at hF
 refine PF.enterS Try.func11 rfl rfl rfl (by kernel_rfl) rfl ?_
 refine PC.region ?_
 refine oK 3 [0,1,2] [] [(0,vP 0),(1,.list 13 (List.map cGItem a1) none),(2,vI a2),(3,vI a3),(8,.val (.slice none 0 0)),(9,vP 1),(10,vP 2)] [⟨0,(cGMeter a0)⟩,⟨0,[vI 0,vI 0,vI 0]⟩,⟨0,[vI 0,vI 0]⟩] [] (by kernel_rfl) ?_
 refine PO.nil ?_
 refine PC.run (n:=2) rfl ?_
 refine PC.assoc ?_
 refine PC.region ?_
 refine PO.run 1 rfl ?_
 refine bindK hF (λ r1 e2 hF=>?_)
 refine PO.call rfl rfl rfl rfl (ks:=[]) (ts:=[]) (fr1:=[]) rfl rfl rfl trivial (L21 k a1 _ e2) ?_
 rintro _ _ _ ⟨rfl,rfl,rfl⟩
 refine⟨_,_,rfl,rfl,?_⟩
 refine PO.run 2 rfl ?_
 refine bindK hF (λ x3 e4 hF=>?_)
 refine PO.cut 15 (λ s=>∃ (v1:Bool),Weak s (PS.of 192 [(0,vP 0),(1,.list 13 (List.map cGItem a1) none),(2,vI a2),(3,vI a3),(8,.val (.slice none 0 0)),(9,vP 1),(10,vP 2),(11,.fn 26 [] []),(38,vB v1)] [⟨0,(cGMeter a0)⟩,⟨0,[vI 0,vI 0,vI 0]⟩,⟨0,[vI 0,vI 0]⟩] [] 1 0)/\v1=x3) ?_ ?_
 ·refine PO.case (t:=23) rfl rfl (λ h5=>?_) (λ h5=>?_)
  ·have e4:=bif_t h5 e4
   refine PO.run 2 rfl ?_
   refine PO.same rfl (pickT_ok rfl rfl rfl) rfl ?_
   refine PO.run 3 rfl ?_
   refine PO.same rfl (pickT_ok rfl rfl rfl) rfl ?_
   refine PO.run 3 rfl ?_
   refine PO.same rfl (pickT_ok rfl rfl rfl) rfl ?_
   refine PO.run 3 rfl ?_
   refine PO.same rfl (pickT_ok rfl rfl rfl) rfl ?_
   refine PO.nil ?_
   exact⟨true,Weak.one [0,1,2] [] (by kernel_rfl),Option.some.inj e4⟩
  have e4:=bif_f h5 e4
  refine PO.run 2 rfl ?_
  refine PO.same rfl (pickF_ok rfl rfl rfl) rfl ?_
  refine PO.run 1 rfl ?_
  refine bindK e4 (λ x6 e7 e4=>?_)
  refine PO.cut 11 (λ s=>∃ (v2:Bool),Weak s (PS.of 192 [(0,vP 0),(1,.list 13 (List.map cGItem a1) none),(2,vI a2),(3,vI a3),(8,.val (.slice none 0 0)),(9,vP 1),(10,vP 2),(11,.fn 26 [] []),(38,vB v2)] [⟨0,(cGMeter a0)⟩,⟨0,[vI 0,vI 0,vI 0]⟩,⟨0,[vI 0,vI 0]⟩] [] 1 0)/\v2=x6) ?_ ?_
  ·refine PO.case (t:=27) rfl rfl (λ h8=>?_) (λ h8=>?_)
   ·have e7:=bif_t h8 e7
    refine PO.run 2 rfl ?_
    refine PO.same rfl (pickT_ok rfl rfl rfl) rfl ?_
    refine PO.run 3 rfl ?_
    refine PO.same rfl (pickT_ok rfl rfl rfl) rfl ?_
    refine PO.run 3 rfl ?_
    refine PO.same rfl (pickT_ok rfl rfl rfl) rfl ?_
    refine PO.nil ?_
    exact⟨true,Weak.one [0,1,2] [] (by kernel_rfl),Option.some.inj e7⟩
   have e7:=bif_f h8 e7
   refine PO.run 2 rfl ?_
   refine PO.same rfl (pickF_ok rfl rfl rfl) rfl ?_
   refine PO.run 1 rfl ?_
   refine bindK e7 (λ x9 e10 e7=>?_)
   refine PO.cut 7 (λ s=>∃ (v3:Bool),Weak s (PS.of 192 [(0,vP 0),(1,.list 13 (List.map cGItem a1) none),(2,vI a2),(3,vI a3),(8,.val (.slice none 0 0)),(9,vP 1),(10,vP 2),(11,.fn 26 [] []),(38,vB v3)] [⟨0,(cGMeter a0)⟩,⟨0,[vI 0,vI 0,vI 0]⟩,⟨0,[vI 0,vI 0]⟩] [] 1 0)/\v3=x9) ?_ ?_
   ·refine PO.case (t:=31) rfl rfl (λ h11=>?_) (λ h11=>?_)
    ·have e10:=bif_t h11 e10
     refine PO.run 2 rfl ?_
     refine PO.same rfl (pickT_ok rfl rfl rfl) rfl ?_
     refine PO.run 3 rfl ?_
     refine PO.same rfl (pickT_ok rfl rfl rfl) rfl ?_
     refine PO.nil ?_
     exact⟨true,Weak.one [0,1,2] [] (by kernel_rfl),Option.some.inj e10⟩
    have e10:=bif_f h11 e10
    refine PO.run 2 rfl ?_
    refine PO.same rfl (pickF_ok rfl rfl rfl) rfl ?_
    refine PO.run 1 rfl ?_
    refine bindK e10 (λ x12 e13 e10=>?_)
    refine PO.cut 3 (λ s=>∃ (v4:Bool),Weak s (PS.of 192 [(0,vP 0),(1,.list 13 (List.map cGItem a1) none),(2,vI a2),(3,vI a3),(8,.val (.slice none 0 0)),(9,vP 1),(10,vP 2),(11,.fn 26 [] []),(38,vB v4)] [⟨0,(cGMeter a0)⟩,⟨0,[vI 0,vI 0,vI 0]⟩,⟨0,[vI 0,vI 0]⟩] [] 1 0)/\v4=x12) ?_ ?_
    ·refine PO.case (t:=35) rfl rfl (λ h14=>?_) (λ h14=>?_)
     ·have e13:=bif_t h14 e13
      refine PO.run 2 rfl ?_
      refine PO.same rfl (pickT_ok rfl rfl rfl) rfl ?_
      refine PO.nil ?_
      exact⟨true,Weak.one [0,1,2] [] (by kernel_rfl),Option.some.inj e13⟩
     have e13:=bif_f h14 e13
     refine PO.run 2 rfl ?_
     refine PO.same rfl (pickF_ok rfl rfl rfl) rfl ?_
     refine PO.nil ?_
     exact⟨decide (a3 > 10000),Weak.one [0,1,2] [] (by kernel_rfl),Option.some.inj e13⟩
    rintro _ ⟨v4,w15,rfl⟩
    refine PO.weak w15 ?_
    refine PO.nil ?_
    exact⟨v4,Weak.one [0,1,2] [] (by kernel_rfl),Option.some.inj e10⟩
   rintro _ ⟨v3,w16,rfl⟩
   refine PO.weak w16 ?_
   refine PO.nil ?_
   exact⟨v3,Weak.one [0,1,2] [] (by kernel_rfl),Option.some.inj e7⟩
  rintro _ ⟨v2,w17,rfl⟩
  refine PO.weak w17 ?_
  refine PO.nil ?_
  exact⟨v2,Weak.one [0,1,2] [] (by kernel_rfl),Option.some.inj e4⟩
 rintro _ ⟨v1,w18,rfl⟩
 refine PO.weak w18 ?_
 refine PO.nil ?_
 refine PC.cond rfl (λ h19=>?_) (λ h19=>?_)
 ·have hF:=bif_t h19 hF
  refine PC.assoc ?_
  refine PC.region ?_
  refine PO.run 1 rfl ?_
  refine bindK hF (λ r20 e21 hF=>?_)
  refine PO.callv rfl rfl rfl rfl rfl (ks:=[]) (ts:=[]) (fr1:=[]) rfl rfl rfl trivial (L26 k 1 0 _ e21) ?_
  rintro _ _ _ ⟨rfl,rfl,rfl⟩
  refine⟨_,_,rfl,rfl,?_⟩
  refine oK 6 [0,1,2] [] [(8,.list 1 (List.map cI_i64 r20.1) none),(9,vP 1),(10,vP 2)] [⟨0,(cGMeter a0)⟩,⟨0,(cGCost r20.2.1)⟩,⟨0,(cGFault r20.2.2)⟩] [] (by kernel_rfl) ?_
  refine PO.nil ?_
  have hq:=Option.some.inj hF
  subst hq
  exact PC.ret (retSK [0] [] (by kernel_rfl) (.refl _) ⟨rfl,rfl,rfl⟩)
 have hF:=bif_f h19 hF
 refine PC.noop ?_
 refine PC.region ?_
 refine PO.run 5 rfl ?_
 refine bindK hF (λ r22 e23 hF=>?_)
 refine PO.call rfl rfl rfl rfl (ks:=[]) (ts:=[]) (fr1:=[]) rfl rfl rfl trivial (L18 k a1 _ e23) ?_
 rintro _ _ _ ⟨rfl,rfl,rfl⟩
 refine⟨_,_,rfl,rfl,?_⟩
 refine bindK hF (λ r24 e25 hF=>?_)
 refine PO.call rfl rfl rfl rfl (ks:=[3]) (ts:=[]) (fr1:=[⟨0,[.list 1 (List.map cI_i64 r22) none]⟩]) rfl rfl rfl ⟨⟨_,rfl,rfl,rfl⟩,trivial⟩ (L27_s k r22 _ e25) ?_
 rintro _ _ _ ⟨rfl,rfl,rfl⟩
 refine⟨_,_,rfl,rfl,?_⟩
 refine oK 3 [0,1,2,4] [] [(0,vP 0),(1,.list 13 (List.map cGItem a1) none),(8,.val (.slice none 0 0)),(9,vP 1),(10,vP 2),(11,.fn 26 [] []),(12,vP 3)] [⟨0,(cGMeter a0)⟩,⟨0,[vI 0,vI 0,vI 0]⟩,⟨0,[vI 0,vI 0]⟩,⟨0,[vP 0,.list 13 (List.map cGItem a1) none,vI a2,vI a3,.list 1 (List.map cI_i64 r24.1) none,.val (.slice none 0 0)]⟩] [] (by kernel_rfl) ?_
 refine PO.nil ?_
 refine PC.assoc ?_
 refine PC.region ?_
 refine PO.run 4 rfl ?_
 refine PO.same rfl (len_ok Try.underlying34 rfl (List.length_map _)) rfl ?_
 refine PO.run 1 rfl ?_
 refine PO.nil ?_
 refine PC.cond rfl (λ h26=>?_) (λ h26=>?_)
 ·have hF:=bif_t h26 hF
  refine PC.assoc ?_
  refine PC.region ?_
  refine PO.run 2 rfl ?_
  refine bindIK hF (λ y5 h27 h28 hF=>?_)
  refine PO.same rfl (indexAddr_ok Try.underlying22 rfl rfl rfl h27 (map_at h28)) rfl ?_
  refine oK 2 [0,1,2] [] [(8,.val (.slice none 0 0)),(9,vP 1),(10,vP 2),(59,.fn 26 [] []),(63,vI y5.from_)] [⟨0,(cGMeter a0)⟩,⟨0,[vI 0,vI 0,vI 0]⟩,⟨0,[vI 0,vI 0]⟩] [] (by kernel_rfl) ?_
  refine bindK hF (λ r29 e30 hF=>?_)
  refine PO.callv rfl rfl rfl rfl rfl (ks:=[]) (ts:=[]) (fr1:=[]) rfl rfl rfl trivial (L26 k 150 y5.from_ _ e30) ?_
  rintro _ _ _ ⟨rfl,rfl,rfl⟩
  refine⟨_,_,rfl,rfl,?_⟩
  refine oK 6 [0,1,2] [] [(8,.list 1 (List.map cI_i64 r29.1) none),(9,vP 1),(10,vP 2)] [⟨0,(cGMeter a0)⟩,⟨0,(cGCost r29.2.1)⟩,⟨0,(cGFault r29.2.2)⟩] [] (by kernel_rfl) ?_
  refine PO.nil ?_
  have hq:=Option.some.inj hF
  subst hq
  exact PC.ret (retSK [0] [] (by kernel_rfl) (.refl _) ⟨rfl,rfl,rfl⟩)
 have hF:=bif_f h26 hF
 refine PC.noop ?_
 refine PC.assoc ?_
 refine PC.region ?_
 refine PO.run 1 rfl ?_
 refine PO.same rfl (len_ok Try.underlying22 rfl (List.length_map _)) rfl ?_
 refine PO.run 1 rfl ?_
 refine PO.nil ?_
 refine PC.cond rfl (λ h31=>?_) (λ h31=>?_)
 ·have hF:=bif_t h31 hF
  refine PC.assoc ?_
  refine PC.region ?_
  refine oK 5 [0,1,2] [] [(8,.val (.slice none 0 0)),(9,vP 1),(10,vP 2)] [⟨0,(cGMeter a0)⟩,⟨0,[vI 0,vI 0,vI 0]⟩,⟨0,[vI 0,vI 0]⟩] [] (by kernel_rfl) ?_
  refine PO.nil ?_
  have hq:=Option.some.inj hF
  subst hq
  exact PC.ret (retSK [0] [] (by kernel_rfl) (Less.tupL (LessL.cons (.nil 1) (LessL.refl _))) ⟨rfl,rfl,rfl⟩)
 have hF:=bif_f h31 hF
 refine PC.noop ?_
 refine PC.region ?_
 refine PO.run 4 rfl ?_
 refine PO.same rfl (len_ok Try.underlying34 rfl (List.length_map _)) rfl ?_
 refine PO.run 2 rfl ?_
 refine PO.nil ?_
 refine PC.assoc ?_
 refine PC.run (n:=3) rfl ?_
 refine bindK hF (λ x32 e33 hF=>?_)
 refine PC.blockJ (λ s=>∃ (v13:GMeter),Weak s (PS.of 192 [(0,vP 0),(8,.val (.slice none 0 0)),(9,vP 1),(10,vP 2),(11,.fn 26 [] []),(12,vP 3),(13,vI (w (4 * (r24.1.length:Int))))] [⟨0,(cGMeter v13)⟩,⟨0,[vI 0,vI 0,vI 0]⟩,⟨0,[vI 0,vI 0]⟩,⟨0,[vP 0,.list 13 (List.map cGItem a1) none,vI a2,vI a3,.list 1 (List.map cI_i64 r24.1) none,.val (.slice none 0 0)]⟩] [] 1 0)/\.inl v13=x32) ?_ ?_
 ·refine PC.loop (λ j34 s=>∃ (v23:Int) (v31:GMeter),Weak s (PS.of 192 [(0,vP 0),(8,.val (.slice none 0 0)),(9,vP 1),(10,vP 2),(11,.fn 26 [] []),(12,vP 3),(13,vI (w (4 * (r24.1.length:Int)))),(79,vI (w (4 * (r24.1.length:Int)))),(80,vI v23)] [⟨0,(cGMeter v31)⟩,⟨0,[vI 0,vI 0,vI 0]⟩,⟨0,[vI 0,vI 0]⟩,⟨0,[vP 0,.list 13 (List.map cGItem a1) none,vI a2,vI a3,.list 1 (List.map cI_i64 r24.1) none,.val (.slice none 0 0)]⟩] [] 1 0)/\F11_l1 k r24 j34 v23 v31=some x32) (λ j34 s=>?_) k ⟨0,a0,Weak.one [0,1,2,3] [] (by kernel_rfl),e33⟩
  rintro⟨v23,v31,w35,e33⟩
  refine PC.weak w35 ?_
  obtain _ | j34:=j34
  · rw[F11_l1] at e33; cases e33
  rw[F11_l1] at e33
  refine PC.run (n:=2) rfl ?_
  refine PC.cond rfl (λ h36=>?_) (λ h36=>?_)
  ·have e33:=bif_t h36 e33
   refine PC.noop ?_
   refine PC.block ?_
   refine PC.region ?_
   refine PO.run 1 rfl ?_
   refine bindK e33 (λ r37 e38 e33=>?_)
   refine PO.call rfl rfl rfl rfl (ks:=[0]) (ts:=[]) (fr1:=[⟨0,(cGMeter v31)⟩]) rfl rfl rfl ⟨⟨_,rfl,rfl,rfl⟩,trivial⟩ (L28 k v31 1 _ e38) ?_
   rintro _ _ _ ⟨rfl,rfl,rfl⟩
   refine⟨_,_,rfl,rfl,?_⟩
   refine PO.run 1 rfl ?_
   refine PO.nil ?_
   refine PC.lone ?_
   refine PC.cond rfl (λ h39=>?_) (λ h39=>?_)
   ·have e33:=bif_t h39 e33
    refine PC.assoc ?_
    refine PC.region ?_
    refine PO.run 2 rfl ?_
    refine bindK e33 (λ r40 e41 e33=>?_)
    refine PO.call rfl rfl rfl rfl (ks:=[0]) (ts:=[]) (fr1:=[⟨0,(cGMeter r37.2)⟩]) rfl rfl rfl ⟨⟨_,rfl,rfl,rfl⟩,trivial⟩ (L29 k r37.2 _ e41) ?_
    rintro _ _ _ ⟨rfl,rfl,rfl⟩
    refine⟨_,_,rfl,rfl,?_⟩
    refine oK 0 [0,1,2,3] [] [(0,vP 0),(8,.val (.slice none 0 0)),(9,vP 1),(10,vP 2),(11,.fn 26 [] []),(12,vP 3),(13,vI (w (4 * (r24.1.length:Int)))),(79,vI (w (4 * (r24.1.length:Int)))),(80,vI v23),(85,.fn 26 [] []),(87,vI r40.1)] [⟨0,(cGMeter r40.2)⟩,⟨0,[vI 0,vI 0,vI 0]⟩,⟨0,[vI 0,vI 0]⟩,⟨0,[vP 0,.list 13 (List.map cGItem a1) none,vI a2,vI a3,.list 1 (List.map cI_i64 r24.1) none,.val (.slice none 0 0)]⟩] [] (by kernel_rfl) ?_
    refine bindK e33 (λ r42 e43 e33=>?_)
    refine PO.callv rfl rfl rfl rfl rfl (ks:=[]) (ts:=[]) (fr1:=[]) rfl rfl rfl trivial (L26 k r40.1 0 _ e43) ?_
    rintro _ _ _ ⟨rfl,rfl,rfl⟩
    refine⟨_,_,rfl,rfl,?_⟩
    refine oK 6 [0,1,2,3] [] [(0,vP 0),(8,.list 1 (List.map cI_i64 r42.1) none),(9,vP 1),(10,vP 2),(11,.fn 26 [] []),(12,vP 3),(13,vI (w (4 * (r24.1.length:Int)))),(79,vI (w (4 * (r24.1.length:Int)))),(80,vI v23)] [⟨0,(cGMeter r40.2)⟩,⟨0,(cGCost r42.2.1)⟩,⟨0,(cGFault r42.2.2)⟩,⟨0,[vP 0,.list 13 (List.map cGItem a1) none,vI a2,vI a3,.list 1 (List.map cI_i64 r24.1) none,.val (.slice none 0 0)]⟩] [] (by kernel_rfl) ?_
    refine PO.nil ?_
    have hq:=Option.some.inj e33
    subst hq
    have hq:=Option.some.inj hF
    subst hq
    exact PC.ret (blockKP.back (loopKP.ret (blockJK.back (retSK [0] [] (by kernel_rfl) (.refl _) ⟨rfl,rfl,rfl⟩))))
   have e33:=bif_f h39 e33
   refine PC.noop ?_
   refine PC.skip (blockKP.end ?_)
   refine PC.lone ?_
   refine PC.run (n:=3) rfl ?_
   exact PC.skip (loopKP.mk (Nat.lt_succ_self _) ⟨w (v23+1),r37.2,Weak.one [0,1,2,3] [] (by kernel_rfl),e33⟩)
  have e33:=bif_f h36 e33
  exact PC.exit (loopKP.exit (blockJK.here ⟨v31,Weak.one [0,1,2,3] [] (by kernel_rfl),Option.some.inj e33⟩))
 rintro _ ⟨v13,w44,rfl⟩
 refine PC.weak w44 ?_
 have hF:=elim_l hF
 refine PC.region ?_
 refine PO.run 5 rfl ?_
 refine PO.same rfl (len_ok Try.underlying34 rfl (List.length_map _)) rfl ?_
 refine bindMkK hF (λ h45 h46 h47 hF=>?_)
 refine PO.one rfl (makeU_ok (c:=cGstate 4) (z:=(Gstate.mk false 0 0 0 0 0 0 0 0 0 0 0 0 false false false 0 0 none)) (m:=4) Try.underlying68 rfl rfl rfl (by kernel_rfl) rfl rfl rfl h45 h46 h47) rfl ?_
 refine oT 3 [(0,vP 0),(8,.val (.slice none 0 0)),(9,vP 1),(10,vP 2),(11,.fn 26 [] []),(12,vP 3),(13,vI (w (4 * (r24.1.length:Int))))] [⟨0,(cGMeter v13)⟩,⟨0,[vI 0,vI 0,vI 0]⟩,⟨0,[vI 0,vI 0]⟩,⟨0,[vP 0,.list 13 (List.map cGItem a1) none,vI a2,vI a3,.list 1 (List.map cI_i64 r24.1) none,.sl 4 0 (Int.toNat (r24.1.length:Int)) (Int.toNat (r24.1.length:Int))]⟩,⟨76,(flatU (cGstate 4) (List.replicate (Int.toNat (r24.1.length:Int) * 4) (Gstate.mk false 0 0 0 0 0 0 0 0 0 0 0 0 false false false 0 0 none)))⟩] [] (by kernel_rfl) ?_
 refine PO.nil ?_
 refine PC.assoc ?_
 refine PC.region ?_
 refine PO.run 4 rfl ?_
 refine PO.same rfl (len_ok Try.underlying34 rfl (List.length_map _)) rfl ?_
 refine PO.run 1 rfl ?_
 refine PO.nil ?_
 refine bindK hF (λ x48 e49 hF=>?_)
 refine PC.blockJ (λ s=>∃ (v48:GMeter) (v49:List GItem) (v50:Int) (v51:Int) (v52:List Int) (v53:List Gstate),Weak s (PS.of 192 [(0,vP 0),(8,.val (.slice none 0 0)),(9,vP 1),(10,vP 2),(11,.fn 26 [] []),(12,vP 3),(13,vI (w (4 * (r24.1.length:Int))))] [⟨0,(cGMeter v48)⟩,⟨0,[vI 0,vI 0,vI 0]⟩,⟨0,[vI 0,vI 0]⟩,⟨0,[vP 0,.list 13 (List.map cGItem v49) none,vI v50,vI v51,.list 1 (List.map cI_i64 v52) none,.sl 4 0 (Int.toNat (r24.1.length:Int)) (Int.toNat (r24.1.length:Int))]⟩,⟨76,(flatU (cGstate 4) v53)⟩] [] 1 0)/\.inl (v48,v49,v50,v51,v52,v53)=x48) ?_ ?_
 ·refine PC.loop (λ j50 s=>∃ (v68:Int) (v76:GMeter) (v77:List GItem) (v78:Int) (v79:Int) (v80:List Int) (v81:List Gstate),Weak s (PS.of 192 [(0,vP 0),(8,.val (.slice none 0 0)),(9,vP 1),(10,vP 2),(11,.fn 26 [] []),(12,vP 3),(13,vI (w (4 * (r24.1.length:Int)))),(106,vI (r24.1.length:Int)),(107,vI v68)] [⟨0,(cGMeter v76)⟩,⟨0,[vI 0,vI 0,vI 0]⟩,⟨0,[vI 0,vI 0]⟩,⟨0,[vP 0,.list 13 (List.map cGItem v77) none,vI v78,vI v79,.list 1 (List.map cI_i64 v80) none,.sl 4 0 (Int.toNat (r24.1.length:Int)) (Int.toNat (r24.1.length:Int))]⟩,⟨76,(flatU (cGstate 4) v81)⟩] [] 1 0)/\F11_l2 k r24 j50 v68 v76 v77 v78 v79 v80 v81=some x48) (λ j50 s=>?_) k ⟨0,v13,a1,a2,a3,r24.1,List.replicate (Int.toNat (r24.1.length:Int) * 4) (Gstate.mk false 0 0 0 0 0 0 0 0 0 0 0 0 false false false 0 0 none),Weak.mk [0,1,2,3,4] [] 0 rfl rfl rfl ⟨⟨_,_,rfl,rfl,rfl,(LessL.refl _)⟩,⟨⟨_,_,rfl,rfl,rfl,(LessL.refl _)⟩,⟨⟨_,_,rfl,rfl,rfl,(LessL.refl _)⟩,⟨⟨_,_,rfl,rfl,rfl,(LessL.refl _)⟩,⟨⟨_,_,rfl,rfl,uTo rfl,LessL.refl _⟩,trivial⟩⟩⟩⟩⟩ ⟨⟨_,_,rfl,rfl,.refl _⟩,⟨⟨_,_,rfl,rfl,.refl _⟩,⟨⟨_,_,rfl,rfl,.refl _⟩,⟨⟨_,_,rfl,rfl,.refl _⟩,⟨⟨_,_,rfl,rfl,.refl _⟩,⟨⟨_,_,rfl,rfl,.refl _⟩,⟨⟨_,_,rfl,rfl,.refl _⟩,⟨⟨_,_,rfl,rfl,.refl _⟩,⟨⟨_,_,rfl,rfl,.refl _⟩,trivial⟩⟩⟩⟩⟩⟩⟩⟩⟩,e49⟩
  rintro⟨v68,v76,v77,v78,v79,v80,v81,w51,e49⟩
  refine PC.weak w51 ?_
  obtain _ | j50:=j50
  · rw[F11_l2] at e49; cases e49
  rw[F11_l2] at e49
  refine PC.run (n:=2) rfl ?_
  refine PC.cond rfl (λ h52=>?_) (λ h52=>?_)
  ·have e49:=bif_t h52 e49
   refine PC.noop ?_
   refine PC.block ?_
   refine PC.run (n:=3) rfl ?_
   refine PC.region ?_
   refine PO.run 2 rfl ?_
   refine bindK e49 (λ r53 e54 e49=>?_)
   refine PO.call rfl rfl rfl rfl (ks:=[0,3,4]) (ts:=[]) (fr1:=[⟨0,(cGMeter v76)⟩,⟨0,[vP 0,.list 13 (List.map cGItem v77) none,vI v78,vI v79,.list 1 (List.map cI_i64 v80) none,.sl 2 0 (Int.toNat (r24.1.length:Int)) (Int.toNat (r24.1.length:Int))]⟩,⟨76,(flatU (cGstate 2) v81)⟩]) rfl rfl rfl ⟨⟨_,rfl,rfl,rfl⟩,⟨⟨_,rfl,rfl,rfl⟩,⟨⟨_,rfl,rfl,uTo rfl⟩,trivial⟩⟩⟩ (L30_s k v68 v76 v77 v78 v79 v80 (Int.toNat (r24.1.length:Int)) v81 _ e54) ?_
   rintro _ _ _ ⟨rfl,rfl,rfl⟩
   refine⟨_,_,rfl,(bk_cons rfl (bk_cons rfl (bk_cons (bk_u (uTo rfl)) bk_nil))),?_⟩
   refine PO.run 1 rfl ?_
   refine PO.nil ?_
   refine PC.lone ?_
   refine PC.cond rfl (λ h55=>?_) (λ h55=>?_)
   ·have e49:=bif_t h55 e49
    refine PC.assoc ?_
    refine PC.region ?_
    refine PO.run 2 rfl ?_
    refine bindK e49 (λ r56 e57 e49=>?_)
    refine PO.call rfl rfl rfl rfl (ks:=[0]) (ts:=[]) (fr1:=[⟨0,(cGMeter r53.2.1)⟩]) rfl rfl rfl ⟨⟨_,rfl,rfl,rfl⟩,trivial⟩ (L29 k r53.2.1 _ e57) ?_
    rintro _ _ _ ⟨rfl,rfl,rfl⟩
    refine⟨_,_,rfl,rfl,?_⟩
    refine oT 0 [(0,vP 0),(8,.val (.slice none 0 0)),(9,vP 1),(10,vP 2),(11,.fn 26 [] []),(12,vP 3),(13,vI (w (4 * (r24.1.length:Int)))),(106,vI (r24.1.length:Int)),(107,vI v68),(114,.fn 26 [] []),(116,vI r56.1)] [⟨0,(cGMeter r56.2)⟩,⟨0,[vI 0,vI 0,vI 0]⟩,⟨0,[vI 0,vI 0]⟩,⟨0,[vP 0,.list 13 (List.map cGItem r53.2.2.1) none,vI r53.2.2.2.1,vI r53.2.2.2.2.1,.list 1 (List.map cI_i64 r53.2.2.2.2.2.1) none,.sl 4 0 (Int.toNat (r24.1.length:Int)) (Int.toNat (r24.1.length:Int))]⟩,⟨76,(flatU (cGstate 4) r53.2.2.2.2.2.2)⟩] [] (by kernel_rfl) ?_
    refine bindK e49 (λ r58 e59 e49=>?_)
    refine PO.callv rfl rfl rfl rfl rfl (ks:=[]) (ts:=[]) (fr1:=[]) rfl rfl rfl trivial (L26 k r56.1 0 _ e59) ?_
    rintro _ _ _ ⟨rfl,rfl,rfl⟩
    refine⟨_,_,rfl,rfl,?_⟩
    refine oT 6 [(0,vP 0),(8,.list 1 (List.map cI_i64 r58.1) none),(9,vP 1),(10,vP 2),(11,.fn 26 [] []),(12,vP 3),(13,vI (w (4 * (r24.1.length:Int)))),(106,vI (r24.1.length:Int)),(107,vI v68)] [⟨0,(cGMeter r56.2)⟩,⟨0,(cGCost r58.2.1)⟩,⟨0,(cGFault r58.2.2)⟩,⟨0,[vP 0,.list 13 (List.map cGItem r53.2.2.1) none,vI r53.2.2.2.1,vI r53.2.2.2.2.1,.list 1 (List.map cI_i64 r53.2.2.2.2.2.1) none,.sl 4 0 (Int.toNat (r24.1.length:Int)) (Int.toNat (r24.1.length:Int))]⟩,⟨76,(flatU (cGstate 4) r53.2.2.2.2.2.2)⟩] [] (by kernel_rfl) ?_
    refine PO.nil ?_
    have hq:=Option.some.inj e49
    subst hq
    have hq:=Option.some.inj hF
    subst hq
    exact PC.ret (blockKP.back (loopKP.ret (blockJK.back (retSK [0] [] (by kernel_rfl) (.refl _) ⟨rfl,rfl,rfl⟩))))
   have e49:=bif_f h55 e49
   refine PC.noop ?_
   refine PC.skip (blockKP.end ?_)
   refine PC.lone ?_
   refine PC.run (n:=3) rfl ?_
   exact PC.skip (loopKP.mk (Nat.lt_succ_self _) ⟨w (v68+1),r53.2.1,r53.2.2.1,r53.2.2.2.1,r53.2.2.2.2.1,r53.2.2.2.2.2.1,r53.2.2.2.2.2.2,Weak.mk [0,1,2,3,4] [] 0 rfl rfl rfl ⟨⟨_,_,rfl,rfl,rfl,(LessL.refl _)⟩,⟨⟨_,_,rfl,rfl,rfl,(LessL.refl _)⟩,⟨⟨_,_,rfl,rfl,rfl,(LessL.refl _)⟩,⟨⟨_,_,rfl,rfl,rfl,(LessL.refl _)⟩,⟨⟨_,_,rfl,rfl,uTo rfl,LessL.refl _⟩,trivial⟩⟩⟩⟩⟩ ⟨⟨_,_,rfl,rfl,.refl _⟩,⟨⟨_,_,rfl,rfl,.refl _⟩,⟨⟨_,_,rfl,rfl,.refl _⟩,⟨⟨_,_,rfl,rfl,.refl _⟩,⟨⟨_,_,rfl,rfl,.refl _⟩,⟨⟨_,_,rfl,rfl,.refl _⟩,⟨⟨_,_,rfl,rfl,.refl _⟩,⟨⟨_,_,rfl,rfl,.refl _⟩,⟨⟨_,_,rfl,rfl,.refl _⟩,trivial⟩⟩⟩⟩⟩⟩⟩⟩⟩,e49⟩)
  have e49:=bif_f h52 e49
  exact PC.exit (loopKP.exit (blockJK.here ⟨v76,v77,v78,v79,v80,v81,Weak.mk [0,1,2,3,4] [] 0 rfl rfl rfl ⟨⟨_,_,rfl,rfl,rfl,(LessL.refl _)⟩,⟨⟨_,_,rfl,rfl,rfl,(LessL.refl _)⟩,⟨⟨_,_,rfl,rfl,rfl,(LessL.refl _)⟩,⟨⟨_,_,rfl,rfl,rfl,(LessL.refl _)⟩,⟨⟨_,_,rfl,rfl,uTo rfl,LessL.refl _⟩,trivial⟩⟩⟩⟩⟩ ⟨⟨_,_,rfl,rfl,.refl _⟩,⟨⟨_,_,rfl,rfl,.refl _⟩,⟨⟨_,_,rfl,rfl,.refl _⟩,⟨⟨_,_,rfl,rfl,.refl _⟩,⟨⟨_,_,rfl,rfl,.refl _⟩,⟨⟨_,_,rfl,rfl,.refl _⟩,⟨⟨_,_,rfl,rfl,.refl _⟩,trivial⟩⟩⟩⟩⟩⟩⟩,Option.some.inj e49⟩))
 rintro _ ⟨v48,v49,v50,v51,v52,v53,w60,rfl⟩
 refine PC.weak w60 ?_
 have hF:=elim_l hF
 refine PC.region ?_
 refine PO.run 2 rfl ?_
 refine bindK hF (λ r61 e62 hF=>?_)
 refine PO.call rfl rfl rfl rfl (ks:=[0]) (ts:=[]) (fr1:=[⟨0,(cGMeter v48)⟩]) rfl rfl rfl ⟨⟨_,rfl,rfl,rfl⟩,trivial⟩ (L31 k v48 (w (4 * (r24.1.length:Int))) _ e62) ?_
 rintro _ _ _ ⟨rfl,rfl,rfl⟩
 refine⟨_,_,rfl,rfl,?_⟩
 refine PO.nil ?_
 refine PC.region ?_
 refine oT 3 [(0,vP 0),(8,.val (.slice none 0 0)),(9,vP 1),(10,vP 2),(11,.fn 26 [] []),(12,vP 3),(15,vP 5)] [⟨0,(cGMeter r61.2)⟩,⟨0,[vI 0,vI 0,vI 0]⟩,⟨0,[vI 0,vI 0]⟩,⟨0,[vP 0,.list 13 (List.map cGItem v49) none,vI v50,vI v51,.list 1 (List.map cI_i64 v52) none,.sl 4 0 (Int.toNat (r24.1.length:Int)) (Int.toNat (r24.1.length:Int))]⟩,⟨76,(flatU (cGstate 4) v53)⟩,⟨0,[vB false,vI 0,vI 0,vI 0,vI 0,vI 0,vI 0,vI 0,vI 0,vI 0,vI 0,vI 0,vI 0,vB false,vB false,vB false,vI 0,vI 0,.val (.pointer none)]⟩] [] (by kernel_rfl) ?_
 refine PO.nil ?_
 refine PC.assoc ?_
 refine PC.run (n:=2) rfl ?_
 refine bindK hF (λ x63 e64 hF=>?_)
 refine PC.blockJ (λ s=>∃ (v96:Option (Option Nat)) (v97:List Gstate) (v117:Gstate),Weak s (PS.of 192 [(0,vP 0),(8,.val (.slice none 0 0)),(9,vP 1),(10,vP 2),(11,.fn 26 [] []),(15,gpO 4 3 19 v96 0)] [⟨0,(cGMeter r61.2)⟩,⟨0,[vI 0,vI 0,vI 0]⟩,⟨0,[vI 0,vI 0]⟩,⟨76,(flatU (cGstate 3) v97)⟩,⟨0,(cGstate 3 v117)⟩] [] 1 0)/\(v96,v97,v117)=x63) ?_ ?_
 ·refine PC.loop1 ?_
  refine PC.region ?_
  refine oT 1 [(0,vP 0),(8,.val (.slice none 0 0)),(9,vP 1),(10,vP 2),(11,.fn 26 [] []),(12,vP 3),(15,vP 5),(127,vI 0),(128,vB true)] [⟨0,(cGMeter r61.2)⟩,⟨0,[vI 0,vI 0,vI 0]⟩,⟨0,[vI 0,vI 0]⟩,⟨0,[vP 0,.list 13 (List.map cGItem v49) none,vI v50,vI v51,.list 1 (List.map cI_i64 v52) none,.sl 4 0 (Int.toNat (r24.1.length:Int)) (Int.toNat (r24.1.length:Int))]⟩,⟨76,(flatU (cGstate 4) v53)⟩,⟨0,[vB false,vI 0,vI 0,vI 0,vI 0,vI 0,vI 0,vI 0,vI 0,vI 0,vI 0,vI 0,vI 0,vB false,vB false,vB false,vI 0,vI 0,.val (.pointer none)]⟩] [] (by kernel_rfl) ?_
  refine PO.nil ?_
  refine PC.cond rfl (λ _=>?_) (λ h65=>Bool.noConfusion h65)
  refine PC.noop ?_
  refine bindK e64 (λ x66 e67 e64=>?_)
  refine PC.blockJ (λ s=>∃ (v118:Option (Option Nat)) (v119:List Gstate) (v139:Gstate),Weak s (PS.of 192 [(0,vP 0),(8,.val (.slice none 0 0)),(9,vP 1),(10,vP 2),(11,.fn 26 [] []),(12,vP 3),(15,gpO 5 4 19 v118 0),(127,vI 0)] [⟨0,(cGMeter r61.2)⟩,⟨0,[vI 0,vI 0,vI 0]⟩,⟨0,[vI 0,vI 0]⟩,⟨0,[vP 0,.list 13 (List.map cGItem v49) none,vI v50,vI v51,.list 1 (List.map cI_i64 v52) none,.sl 4 0 (Int.toNat (r24.1.length:Int)) (Int.toNat (r24.1.length:Int))]⟩,⟨76,(flatU (cGstate 4) v119)⟩,⟨0,(cGstate 4 v139)⟩] [] 1 0)/\(v118,v119,v139)=x66) ?_ ?_
  ·refine PC.region ?_
   refine oT 2 [(0,vP 0),(8,.val (.slice none 0 0)),(9,vP 1),(10,vP 2),(11,.fn 26 [] []),(12,vP 3),(15,vP 5),(16,vI 0),(127,vI 0)] [⟨0,(cGMeter r61.2)⟩,⟨0,[vI 0,vI 0,vI 0]⟩,⟨0,[vI 0,vI 0]⟩,⟨0,[vP 0,.list 13 (List.map cGItem v49) none,vI v50,vI v51,.list 1 (List.map cI_i64 v52) none,.sl 4 0 (Int.toNat (r24.1.length:Int)) (Int.toNat (r24.1.length:Int))]⟩,⟨76,(flatU (cGstate 4) v53)⟩,⟨0,[vB false,vI 0,vI 0,vI 0,vI 0,vI 0,vI 0,vI 0,vI 0,vI 0,vI 0,vI 0,vI 0,vB false,vB false,vB false,vI 0,vI 0,.val (.pointer none)]⟩] [] (by kernel_rfl) ?_
   refine PO.nil ?_
   refine PC.drawn (order:=[0,1,2,3,4,5,6,7,8,9,10,11,12,13]) (by kernel_rfl) ?_
   refine oT 8 [(0,vP 0),(8,.val (.slice none 0 0)),(9,vP 1),(10,vP 2),(11,.fn 26 [] []),(12,vP 3),(15,vP 5),(16,vI 0),(127,vI 0),(133,.sl 4 0 (Int.toNat (r24.1.length:Int)) (Int.toNat (r24.1.length:Int))),(137,.list 1 (List.map cI_i64 v52) none)] [⟨0,(cGMeter r61.2)⟩,⟨0,[vI 0,vI 0,vI 0]⟩,⟨0,[vI 0,vI 0]⟩,⟨0,[vP 0,.list 13 (List.map cGItem v49) none,vI v50,vI v51,.list 1 (List.map cI_i64 v52) none,.sl 4 0 (Int.toNat (r24.1.length:Int)) (Int.toNat (r24.1.length:Int))]⟩,⟨76,(flatU (cGstate 4) v53)⟩,⟨0,[vB false,vI 0,vI 0,vI 0,vI 0,vI 0,vI 0,vI 0,vI 0,vI 0,vI 0,vI 0,vI 0,vB false,vB false,vB false,vI 0,vI 0,.val (.pointer none)]⟩] [] (by kernel_rfl) ?_
   refine PO.same rfl (len_ok Try.underlying34 rfl (List.length_map _)) rfl ?_
   refine oT 2 [(0,vP 0),(8,.val (.slice none 0 0)),(9,vP 1),(10,vP 2),(11,.fn 26 [] []),(12,vP 3),(15,vP 5),(127,vI 0),(133,.sl 4 0 (Int.toNat (r24.1.length:Int)) (Int.toNat (r24.1.length:Int))),(139,vI (w ((v52.length:Int) - 1))),(140,vI 0)] [⟨0,(cGMeter r61.2)⟩,⟨0,[vI 0,vI 0,vI 0]⟩,⟨0,[vI 0,vI 0]⟩,⟨0,[vP 0,.list 13 (List.map cGItem v49) none,vI v50,vI v51,.list 1 (List.map cI_i64 v52) none,.sl 4 0 (Int.toNat (r24.1.length:Int)) (Int.toNat (r24.1.length:Int))]⟩,⟨76,(flatU (cGstate 4) v53)⟩,⟨0,[vB false,vI 0,vI 0,vI 0,vI 0,vI 0,vI 0,vI 0,vI 0,vI 0,vI 0,vI 0,vI 0,vB false,vB false,vB false,vI 0,vI 0,.val (.pointer none)]⟩] [] (by kernel_rfl) ?_
   refine bindNK e67 (λ h68 h69 e67=>?_)
   refine PO.same rfl (slAt_ok Try.underlying68 rfl rfl rfl h68 h69) rfl ?_
   refine oT 0 [(0,vP 0),(8,.val (.slice none 0 0)),(9,vP 1),(10,vP 2),(11,.fn 26 [] []),(12,vP 3),(15,vP 5),(127,vI 0),(140,vI 0),(141,.ptr 4 (0+Int.toNat (w ((v52.length:Int) - 1)) * 76))] [⟨0,(cGMeter r61.2)⟩,⟨0,[vI 0,vI 0,vI 0]⟩,⟨0,[vI 0,vI 0]⟩,⟨0,[vP 0,.list 13 (List.map cGItem v49) none,vI v50,vI v51,.list 1 (List.map cI_i64 v52) none,.sl 4 0 (Int.toNat (r24.1.length:Int)) (Int.toNat (r24.1.length:Int))]⟩,⟨76,(flatU (cGstate 4) v53)⟩,⟨0,[vB false,vI 0,vI 0,vI 0,vI 0,vI 0,vI 0,vI 0,vI 0,vI 0,vI 0,vI 0,vI 0,vB false,vB false,vB false,vI 0,vI 0,.val (.pointer none)]⟩] [] (by kernel_rfl) ?_
   refine bindNK e67 (λ h70 h71 e67=>?_)
   refine PO.same rfl (arrAt_ok (l:=5) (j:=4 * Int.toNat (w ((v52.length:Int) - 1))+Int.toNat 0) (sz:=19) Try.underlying78 rfl rfl rfl h70 h71 (by omega)) rfl ?_
   refine oT 1 [(0,vP 0),(8,.val (.slice none 0 0)),(9,vP 1),(10,vP 2),(11,.fn 26 [] []),(12,vP 3),(15,vP 5),(17,gpO 5 4 19 (some (some (4 * Int.toNat (w ((v52.length:Int) - 1))+Int.toNat 0))) 0),(127,vI 0)] [⟨0,(cGMeter r61.2)⟩,⟨0,[vI 0,vI 0,vI 0]⟩,⟨0,[vI 0,vI 0]⟩,⟨0,[vP 0,.list 13 (List.map cGItem v49) none,vI v50,vI v51,.list 1 (List.map cI_i64 v52) none,.sl 4 0 (Int.toNat (r24.1.length:Int)) (Int.toNat (r24.1.length:Int))]⟩,⟨76,(flatU (cGstate 4) v53)⟩,⟨0,[vB false,vI 0,vI 0,vI 0,vI 0,vI 0,vI 0,vI 0,vI 0,vI 0,vI 0,vI 0,vI 0,vB false,vB false,vB false,vI 0,vI 0,.val (.pointer none)]⟩] [] (by kernel_rfl) ?_
   refine PO.nil ?_
   refine PC.region ?_
   refine oT 1 [(0,vP 0),(8,.val (.slice none 0 0)),(9,vP 1),(10,vP 2),(11,.fn 26 [] []),(12,vP 3),(15,vP 5),(17,gpO 5 4 19 (some (some (4 * Int.toNat (w ((v52.length:Int) - 1))+Int.toNat 0))) 0),(127,vI 0),(143,gpO 5 4 19 (some (some (4 * Int.toNat (w ((v52.length:Int) - 1))+Int.toNat 0))) 0)] [⟨0,(cGMeter r61.2)⟩,⟨0,[vI 0,vI 0,vI 0]⟩,⟨0,[vI 0,vI 0]⟩,⟨0,[vP 0,.list 13 (List.map cGItem v49) none,vI v50,vI v51,.list 1 (List.map cI_i64 v52) none,.sl 4 0 (Int.toNat (r24.1.length:Int)) (Int.toNat (r24.1.length:Int))]⟩,⟨76,(flatU (cGstate 4) v53)⟩,⟨0,[vB false,vI 0,vI 0,vI 0,vI 0,vI 0,vI 0,vI 0,vI 0,vI 0,vI 0,vI 0,vI 0,vB false,vB false,vB false,vI 0,vI 0,.val (.pointer none)]⟩] [] (by kernel_rfl) ?_
   refine bindGK e67 (λ y140 h72 e67=>?_)
   refine PO.same rfl (nilG_ok rfl (getG_some h72)) rfl ?_
   refine PO.same rfl (fieldG_ok (o':=0) rfl (getG_some h72) (λ _ _=>rfl)) rfl ?_
   refine PO.same rfl (load_of rfl (pLoad_g (q:=vB y140.is_) (z:=(Gstate.mk false 0 0 0 0 0 0 0 0 0 0 0 0 false false false 0 0 none)) cU rfl rfl h72 rfl)) rfl ?_
   refine oT 1 [(0,vP 0),(8,.val (.slice none 0 0)),(9,vP 1),(10,vP 2),(11,.fn 26 [] []),(12,vP 3),(15,vP 5),(17,gpO 5 4 19 (some (some (4 * Int.toNat (w ((v52.length:Int) - 1))+Int.toNat 0))) 0),(127,vI 0),(147,vB y140.is_)] [⟨0,(cGMeter r61.2)⟩,⟨0,[vI 0,vI 0,vI 0]⟩,⟨0,[vI 0,vI 0]⟩,⟨0,[vP 0,.list 13 (List.map cGItem v49) none,vI v50,vI v51,.list 1 (List.map cI_i64 v52) none,.sl 4 0 (Int.toNat (r24.1.length:Int)) (Int.toNat (r24.1.length:Int))]⟩,⟨76,(flatU (cGstate 4) v53)⟩,⟨0,[vB false,vI 0,vI 0,vI 0,vI 0,vI 0,vI 0,vI 0,vI 0,vI 0,vI 0,vI 0,vI 0,vB false,vB false,vB false,vI 0,vI 0,.val (.pointer none)]⟩] [] (by kernel_rfl) ?_
   refine bindK e67 (λ x73 e74 e67=>?_)
   refine PO.cut 4 (λ s=>∃ (v141:Bool) (v142:List Gstate) (v162:Gstate),Weak s (PS.of 192 [(0,vP 0),(8,.val (.slice none 0 0)),(9,vP 1),(10,vP 2),(11,.fn 26 [] []),(12,vP 3),(15,vP 5),(17,gpO 5 4 19 (some (some (4 * Int.toNat (w ((v52.length:Int) - 1))+Int.toNat 0))) 0),(127,vI 0),(151,vB v141)] [⟨0,(cGMeter r61.2)⟩,⟨0,[vI 0,vI 0,vI 0]⟩,⟨0,[vI 0,vI 0]⟩,⟨0,[vP 0,.list 13 (List.map cGItem v49) none,vI v50,vI v51,.list 1 (List.map cI_i64 v52) none,.sl 4 0 (Int.toNat (r24.1.length:Int)) (Int.toNat (r24.1.length:Int))]⟩,⟨76,(flatU (cGstate 4) v142)⟩,⟨0,(cGstate 4 v162)⟩] [] 1 0)/\(v141,v142,v162)=x73) ?_ ?_
   ·refine PO.case (t:=147) rfl rfl (λ h75=>?_) (λ h75=>?_)
    ·have e74:=bif_t h75 e74
     refine oT 2 [(0,vP 0),(8,.val (.slice none 0 0)),(9,vP 1),(10,vP 2),(11,.fn 26 [] []),(12,vP 3),(15,vP 5),(17,gpO 5 4 19 (some (some (4 * Int.toNat (w ((v52.length:Int) - 1))+Int.toNat 0))) 0),(127,vI 0),(147,vB true),(148,gpO 5 4 19 (some (some (4 * Int.toNat (w ((v52.length:Int) - 1))+Int.toNat 0))) 0),(149,vP 5)] [⟨0,(cGMeter r61.2)⟩,⟨0,[vI 0,vI 0,vI 0]⟩,⟨0,[vI 0,vI 0]⟩,⟨0,[vP 0,.list 13 (List.map cGItem v49) none,vI v50,vI v51,.list 1 (List.map cI_i64 v52) none,.sl 4 0 (Int.toNat (r24.1.length:Int)) (Int.toNat (r24.1.length:Int))]⟩,⟨76,(flatU (cGstate 4) v53)⟩,⟨0,[vB false,vI 0,vI 0,vI 0,vI 0,vI 0,vI 0,vI 0,vI 0,vI 0,vI 0,vI 0,vI 0,vB false,vB false,vB false,vI 0,vI 0,.val (.pointer none)]⟩] [] (by kernel_rfl) ?_
     refine bindK e74 (λ r76 e77 e74=>?_)
     refine PO.call rfl rfl rfl rfl (ks:=[4,5]) (ts:=[]) (fr1:=[⟨76,(flatU (cGstate 0) v53)⟩,⟨0,[vB false,vI 0,vI 0,vI 0,vI 0,vI 0,vI 0,vI 0,vI 0,vI 0,vI 0,vI 0,vI 0,vB false,vB false,vB false,vI 0,vI 0,.val (.pointer none)]⟩]) rfl rfl (mo_cons rfl (mo_cons rfl mo_nil)) ⟨⟨_,rfl,rfl,uTo rfl⟩,⟨⟨_,rfl,rfl,rfl⟩,trivial⟩⟩ (L32_s k (some (some (4 * Int.toNat (w ((v52.length:Int) - 1))+Int.toNat 0))) (some none) v53 (Gstate.mk false 0 0 0 0 0 0 0 0 0 0 0 0 false false false 0 0 none) _ e77) ?_
     rintro _ _ _ ⟨rfl,rfl,rfl⟩
     refine⟨_,_,rfl,(bk_cons (bk_u (uTo rfl)) (bk_cons (bk_u (uTo1 r76.2.2 rfl)) bk_nil)),?_⟩
     refine PO.same rfl (pickT_ok rfl rfl rfl) rfl ?_
     refine PO.nil ?_
     exact⟨r76.1,r76.2.1,r76.2.2,Weak.mk [0,1,2,3,4,5] [] 0 rfl rfl rfl ⟨⟨_,_,rfl,rfl,rfl,(LessL.refl _)⟩,⟨⟨_,_,rfl,rfl,rfl,(LessL.refl _)⟩,⟨⟨_,_,rfl,rfl,rfl,(LessL.refl _)⟩,⟨⟨_,_,rfl,rfl,rfl,(LessL.refl _)⟩,⟨⟨_,_,rfl,rfl,uTo rfl,LessL.refl _⟩,⟨⟨_,_,rfl,rfl,uTo1 r76.2.2 rfl,(LessL.refl _)⟩,trivial⟩⟩⟩⟩⟩⟩ ⟨⟨_,_,rfl,rfl,.refl _⟩,⟨⟨_,_,rfl,rfl,.refl _⟩,⟨⟨_,_,rfl,rfl,.refl _⟩,⟨⟨_,_,rfl,rfl,.refl _⟩,⟨⟨_,_,rfl,rfl,.refl _⟩,⟨⟨_,_,rfl,rfl,.refl _⟩,⟨⟨_,_,rfl,rfl,.refl _⟩,⟨⟨_,_,rfl,rfl,.refl _⟩,⟨⟨_,_,rfl,rfl,.refl _⟩,⟨⟨_,_,rfl,rfl,.refl _⟩,trivial⟩⟩⟩⟩⟩⟩⟩⟩⟩⟩,Option.some.inj e74⟩
    have e74:=bif_f h75 e74
    refine PO.run 3 rfl ?_
    refine PO.same rfl (pickF_ok rfl rfl rfl) rfl ?_
    refine PO.nil ?_
    exact⟨false,v53,(Gstate.mk false 0 0 0 0 0 0 0 0 0 0 0 0 false false false 0 0 none),Weak.mk [0,1,2,3,4,5] [] 0 rfl rfl rfl ⟨⟨_,_,rfl,rfl,rfl,(LessL.refl _)⟩,⟨⟨_,_,rfl,rfl,rfl,(LessL.refl _)⟩,⟨⟨_,_,rfl,rfl,rfl,(LessL.refl _)⟩,⟨⟨_,_,rfl,rfl,rfl,(LessL.refl _)⟩,⟨⟨_,_,rfl,rfl,uTo rfl,LessL.refl _⟩,⟨⟨_,_,rfl,rfl,rfl,(LessL.refl _)⟩,trivial⟩⟩⟩⟩⟩⟩ ⟨⟨_,_,rfl,rfl,.refl _⟩,⟨⟨_,_,rfl,rfl,.refl _⟩,⟨⟨_,_,rfl,rfl,.refl _⟩,⟨⟨_,_,rfl,rfl,.refl _⟩,⟨⟨_,_,rfl,rfl,.refl _⟩,⟨⟨_,_,rfl,rfl,.refl _⟩,⟨⟨_,_,rfl,rfl,.refl _⟩,⟨⟨_,_,rfl,rfl,.refl _⟩,⟨⟨_,_,rfl,rfl,.refl _⟩,⟨⟨_,_,rfl,rfl,.refl _⟩,trivial⟩⟩⟩⟩⟩⟩⟩⟩⟩⟩,Option.some.inj e74⟩
   rintro _ ⟨v141,v142,v162,w78,rfl⟩
   refine PO.weak w78 ?_
   refine PO.nil ?_
   refine PC.lone ?_
   refine PC.cond rfl (λ h79=>?_) (λ h79=>?_)
   ·have e67:=bif_t h79 e67
    refine PC.region ?_
    refine oT 2 [(0,vP 0),(8,.val (.slice none 0 0)),(9,vP 1),(10,vP 2),(11,.fn 26 [] []),(12,vP 3),(15,gpO 5 4 19 (some (some (4 * Int.toNat (w ((v52.length:Int) - 1))+Int.toNat 0))) 0),(127,vI 0)] [⟨0,(cGMeter r61.2)⟩,⟨0,[vI 0,vI 0,vI 0]⟩,⟨0,[vI 0,vI 0]⟩,⟨0,[vP 0,.list 13 (List.map cGItem v49) none,vI v50,vI v51,.list 1 (List.map cI_i64 v52) none,.sl 4 0 (Int.toNat (r24.1.length:Int)) (Int.toNat (r24.1.length:Int))]⟩,⟨76,(flatU (cGstate 4) v142)⟩,⟨0,(cGstate 4 v162)⟩] [] (by kernel_rfl) ?_
    refine PO.nil ?_
    exact PC.skip (blockJK.end ⟨some (some (4 * Int.toNat (w ((v52.length:Int) - 1))+Int.toNat 0)),v142,v162,Weak.mk [0,1,2,3,4,5] [] 0 rfl rfl rfl ⟨⟨_,_,rfl,rfl,rfl,(LessL.refl _)⟩,⟨⟨_,_,rfl,rfl,rfl,(LessL.refl _)⟩,⟨⟨_,_,rfl,rfl,rfl,(LessL.refl _)⟩,⟨⟨_,_,rfl,rfl,rfl,(LessL.refl _)⟩,⟨⟨_,_,rfl,rfl,uTo rfl,LessL.refl _⟩,⟨⟨_,_,rfl,rfl,uTo1 v162 rfl,(LessL.refl _)⟩,trivial⟩⟩⟩⟩⟩⟩ ⟨⟨_,_,rfl,rfl,.refl _⟩,⟨⟨_,_,rfl,rfl,.refl _⟩,⟨⟨_,_,rfl,rfl,.refl _⟩,⟨⟨_,_,rfl,rfl,.refl _⟩,⟨⟨_,_,rfl,rfl,.refl _⟩,⟨⟨_,_,rfl,rfl,.refl _⟩,⟨⟨_,_,rfl,rfl,.refl _⟩,⟨⟨_,_,rfl,rfl,.refl _⟩,trivial⟩⟩⟩⟩⟩⟩⟩⟩,Option.some.inj e67⟩)
   have e67:=bif_f h79 e67
   refine PC.noop ?_
   exact PC.skip (blockJK.end ⟨some none,v142,v162,Weak.mk [0,1,2,3,4,5] [] 0 rfl rfl rfl ⟨⟨_,_,rfl,rfl,rfl,(LessL.refl _)⟩,⟨⟨_,_,rfl,rfl,rfl,(LessL.refl _)⟩,⟨⟨_,_,rfl,rfl,rfl,(LessL.refl _)⟩,⟨⟨_,_,rfl,rfl,rfl,(LessL.refl _)⟩,⟨⟨_,_,rfl,rfl,uTo rfl,LessL.refl _⟩,⟨⟨_,_,rfl,rfl,uTo1 v162 rfl,(LessL.refl _)⟩,trivial⟩⟩⟩⟩⟩⟩ ⟨⟨_,_,rfl,rfl,.refl _⟩,⟨⟨_,_,rfl,rfl,.refl _⟩,⟨⟨_,_,rfl,rfl,.refl _⟩,⟨⟨_,_,rfl,rfl,.refl _⟩,⟨⟨_,_,rfl,rfl,.refl _⟩,⟨⟨_,_,rfl,rfl,.refl _⟩,⟨⟨_,_,rfl,rfl,.refl _⟩,⟨⟨_,_,rfl,rfl,.refl _⟩,trivial⟩⟩⟩⟩⟩⟩⟩⟩,Option.some.inj e67⟩)
  rintro _ ⟨v118,v119,v139,w80,rfl⟩
  refine PC.weak w80 ?_
  refine PC.lone ?_
  refine PC.region ?_
  refine oT 2 [(0,vP 0),(8,.val (.slice none 0 0)),(9,vP 1),(10,vP 2),(11,.fn 26 [] []),(12,vP 3),(15,gpO 5 4 19 v118 0),(127,vI 1)] [⟨0,(cGMeter r61.2)⟩,⟨0,[vI 0,vI 0,vI 0]⟩,⟨0,[vI 0,vI 0]⟩,⟨0,[vP 0,.list 13 (List.map cGItem v49) none,vI v50,vI v51,.list 1 (List.map cI_i64 v52) none,.sl 4 0 (Int.toNat (r24.1.length:Int)) (Int.toNat (r24.1.length:Int))]⟩,⟨76,(flatU (cGstate 4) v119)⟩,⟨0,(cGstate 4 v139)⟩] [] (by kernel_rfl) ?_
  refine PO.nil ?_
  refine PC.skip (loop1P.end ?_)
  refine PC.loop1 ?_
  refine PC.region ?_
  refine oT 1 [(0,vP 0),(8,.val (.slice none 0 0)),(9,vP 1),(10,vP 2),(11,.fn 26 [] []),(12,vP 3),(15,gpO 5 4 19 v118 0),(127,vI 1),(128,vB true)] [⟨0,(cGMeter r61.2)⟩,⟨0,[vI 0,vI 0,vI 0]⟩,⟨0,[vI 0,vI 0]⟩,⟨0,[vP 0,.list 13 (List.map cGItem v49) none,vI v50,vI v51,.list 1 (List.map cI_i64 v52) none,.sl 4 0 (Int.toNat (r24.1.length:Int)) (Int.toNat (r24.1.length:Int))]⟩,⟨76,(flatU (cGstate 4) v119)⟩,⟨0,(cGstate 4 v139)⟩] [] (by kernel_rfl) ?_
  refine PO.nil ?_
  refine PC.cond rfl (λ _=>?_) (λ h81=>Bool.noConfusion h81)
  refine PC.noop ?_
  refine bindK e64 (λ x82 e83 e64=>?_)
  refine PC.blockJ (λ s=>∃ (v163:Option (Option Nat)) (v164:List Gstate) (v184:Gstate),Weak s (PS.of 192 [(0,vP 0),(8,.val (.slice none 0 0)),(9,vP 1),(10,vP 2),(11,.fn 26 [] []),(12,vP 3),(15,gpO 5 4 19 v163 0),(127,vI 1)] [⟨0,(cGMeter r61.2)⟩,⟨0,[vI 0,vI 0,vI 0]⟩,⟨0,[vI 0,vI 0]⟩,⟨0,[vP 0,.list 13 (List.map cGItem v49) none,vI v50,vI v51,.list 1 (List.map cI_i64 v52) none,.sl 4 0 (Int.toNat (r24.1.length:Int)) (Int.toNat (r24.1.length:Int))]⟩,⟨76,(flatU (cGstate 4) v164)⟩,⟨0,(cGstate 4 v184)⟩] [] 1 0)/\(v163,v164,v184)=x82) ?_ ?_
  ·refine PC.region ?_
   refine oT 2 [(0,vP 0),(8,.val (.slice none 0 0)),(9,vP 1),(10,vP 2),(11,.fn 26 [] []),(12,vP 3),(15,gpO 5 4 19 v118 0),(16,vI 1),(127,vI 1)] [⟨0,(cGMeter r61.2)⟩,⟨0,[vI 0,vI 0,vI 0]⟩,⟨0,[vI 0,vI 0]⟩,⟨0,[vP 0,.list 13 (List.map cGItem v49) none,vI v50,vI v51,.list 1 (List.map cI_i64 v52) none,.sl 4 0 (Int.toNat (r24.1.length:Int)) (Int.toNat (r24.1.length:Int))]⟩,⟨76,(flatU (cGstate 4) v119)⟩,⟨0,(cGstate 4 v139)⟩] [] (by kernel_rfl) ?_
   refine PO.nil ?_
   refine PC.drawn (order:=[0,1,2,3,4,5,6,7,8,9,10,11,12,13]) (by kernel_rfl) ?_
   refine oT 8 [(0,vP 0),(8,.val (.slice none 0 0)),(9,vP 1),(10,vP 2),(11,.fn 26 [] []),(12,vP 3),(15,gpO 5 4 19 v118 0),(16,vI 1),(127,vI 1),(133,.sl 4 0 (Int.toNat (r24.1.length:Int)) (Int.toNat (r24.1.length:Int))),(137,.list 1 (List.map cI_i64 v52) none)] [⟨0,(cGMeter r61.2)⟩,⟨0,[vI 0,vI 0,vI 0]⟩,⟨0,[vI 0,vI 0]⟩,⟨0,[vP 0,.list 13 (List.map cGItem v49) none,vI v50,vI v51,.list 1 (List.map cI_i64 v52) none,.sl 4 0 (Int.toNat (r24.1.length:Int)) (Int.toNat (r24.1.length:Int))]⟩,⟨76,(flatU (cGstate 4) v119)⟩,⟨0,(cGstate 4 v139)⟩] [] (by kernel_rfl) ?_
   refine PO.same rfl (len_ok Try.underlying34 rfl (List.length_map _)) rfl ?_
   refine oT 2 [(0,vP 0),(8,.val (.slice none 0 0)),(9,vP 1),(10,vP 2),(11,.fn 26 [] []),(12,vP 3),(15,gpO 5 4 19 v118 0),(127,vI 1),(133,.sl 4 0 (Int.toNat (r24.1.length:Int)) (Int.toNat (r24.1.length:Int))),(139,vI (w ((v52.length:Int) - 1))),(140,vI 1)] [⟨0,(cGMeter r61.2)⟩,⟨0,[vI 0,vI 0,vI 0]⟩,⟨0,[vI 0,vI 0]⟩,⟨0,[vP 0,.list 13 (List.map cGItem v49) none,vI v50,vI v51,.list 1 (List.map cI_i64 v52) none,.sl 4 0 (Int.toNat (r24.1.length:Int)) (Int.toNat (r24.1.length:Int))]⟩,⟨76,(flatU (cGstate 4) v119)⟩,⟨0,(cGstate 4 v139)⟩] [] (by kernel_rfl) ?_
   refine bindNK e83 (λ h84 h85 e83=>?_)
   refine PO.same rfl (slAt_ok Try.underlying68 rfl rfl rfl h84 h85) rfl ?_
   refine oT 0 [(0,vP 0),(8,.val (.slice none 0 0)),(9,vP 1),(10,vP 2),(11,.fn 26 [] []),(12,vP 3),(15,gpO 5 4 19 v118 0),(127,vI 1),(140,vI 1),(141,.ptr 4 (0+Int.toNat (w ((v52.length:Int) - 1)) * 76))] [⟨0,(cGMeter r61.2)⟩,⟨0,[vI 0,vI 0,vI 0]⟩,⟨0,[vI 0,vI 0]⟩,⟨0,[vP 0,.list 13 (List.map cGItem v49) none,vI v50,vI v51,.list 1 (List.map cI_i64 v52) none,.sl 4 0 (Int.toNat (r24.1.length:Int)) (Int.toNat (r24.1.length:Int))]⟩,⟨76,(flatU (cGstate 4) v119)⟩,⟨0,(cGstate 4 v139)⟩] [] (by kernel_rfl) ?_
   refine bindNK e83 (λ h86 h87 e83=>?_)
   refine PO.same rfl (arrAt_ok (l:=5) (j:=4 * Int.toNat (w ((v52.length:Int) - 1))+Int.toNat 1) (sz:=19) Try.underlying78 rfl rfl rfl h86 h87 (by omega)) rfl ?_
   refine oT 1 [(0,vP 0),(8,.val (.slice none 0 0)),(9,vP 1),(10,vP 2),(11,.fn 26 [] []),(12,vP 3),(15,gpO 5 4 19 v118 0),(17,gpO 5 4 19 (some (some (4 * Int.toNat (w ((v52.length:Int) - 1))+Int.toNat 1))) 0),(127,vI 1)] [⟨0,(cGMeter r61.2)⟩,⟨0,[vI 0,vI 0,vI 0]⟩,⟨0,[vI 0,vI 0]⟩,⟨0,[vP 0,.list 13 (List.map cGItem v49) none,vI v50,vI v51,.list 1 (List.map cI_i64 v52) none,.sl 4 0 (Int.toNat (r24.1.length:Int)) (Int.toNat (r24.1.length:Int))]⟩,⟨76,(flatU (cGstate 4) v119)⟩,⟨0,(cGstate 4 v139)⟩] [] (by kernel_rfl) ?_
   refine PO.nil ?_
   refine PC.region ?_
   refine oT 1 [(0,vP 0),(8,.val (.slice none 0 0)),(9,vP 1),(10,vP 2),(11,.fn 26 [] []),(12,vP 3),(15,gpO 5 4 19 v118 0),(17,gpO 5 4 19 (some (some (4 * Int.toNat (w ((v52.length:Int) - 1))+Int.toNat 1))) 0),(127,vI 1),(143,gpO 5 4 19 (some (some (4 * Int.toNat (w ((v52.length:Int) - 1))+Int.toNat 1))) 0)] [⟨0,(cGMeter r61.2)⟩,⟨0,[vI 0,vI 0,vI 0]⟩,⟨0,[vI 0,vI 0]⟩,⟨0,[vP 0,.list 13 (List.map cGItem v49) none,vI v50,vI v51,.list 1 (List.map cI_i64 v52) none,.sl 4 0 (Int.toNat (r24.1.length:Int)) (Int.toNat (r24.1.length:Int))]⟩,⟨76,(flatU (cGstate 4) v119)⟩,⟨0,(cGstate 4 v139)⟩] [] (by kernel_rfl) ?_
   refine bindGK e83 (λ y185 h88 e83=>?_)
   refine PO.same rfl (nilG_ok rfl (getG_some h88)) rfl ?_
   refine PO.same rfl (fieldG_ok (o':=0) rfl (getG_some h88) (λ _ _=>rfl)) rfl ?_
   refine PO.same rfl (load_of rfl (pLoad_g (q:=vB y185.is_) (z:=v139) cU rfl rfl h88 rfl)) rfl ?_
   refine oT 1 [(0,vP 0),(8,.val (.slice none 0 0)),(9,vP 1),(10,vP 2),(11,.fn 26 [] []),(12,vP 3),(15,gpO 5 4 19 v118 0),(17,gpO 5 4 19 (some (some (4 * Int.toNat (w ((v52.length:Int) - 1))+Int.toNat 1))) 0),(127,vI 1),(147,vB y185.is_)] [⟨0,(cGMeter r61.2)⟩,⟨0,[vI 0,vI 0,vI 0]⟩,⟨0,[vI 0,vI 0]⟩,⟨0,[vP 0,.list 13 (List.map cGItem v49) none,vI v50,vI v51,.list 1 (List.map cI_i64 v52) none,.sl 4 0 (Int.toNat (r24.1.length:Int)) (Int.toNat (r24.1.length:Int))]⟩,⟨76,(flatU (cGstate 4) v119)⟩,⟨0,(cGstate 4 v139)⟩] [] (by kernel_rfl) ?_
   refine bindK e83 (λ x89 e90 e83=>?_)
   refine PO.cut 4 (λ s=>∃ (v186:Bool) (v187:List Gstate) (v207:Gstate),Weak s (PS.of 192 [(0,vP 0),(8,.val (.slice none 0 0)),(9,vP 1),(10,vP 2),(11,.fn 26 [] []),(12,vP 3),(15,gpO 5 4 19 v118 0),(17,gpO 5 4 19 (some (some (4 * Int.toNat (w ((v52.length:Int) - 1))+Int.toNat 1))) 0),(127,vI 1),(151,vB v186)] [⟨0,(cGMeter r61.2)⟩,⟨0,[vI 0,vI 0,vI 0]⟩,⟨0,[vI 0,vI 0]⟩,⟨0,[vP 0,.list 13 (List.map cGItem v49) none,vI v50,vI v51,.list 1 (List.map cI_i64 v52) none,.sl 4 0 (Int.toNat (r24.1.length:Int)) (Int.toNat (r24.1.length:Int))]⟩,⟨76,(flatU (cGstate 4) v187)⟩,⟨0,(cGstate 4 v207)⟩] [] 1 0)/\(v186,v187,v207)=x89) ?_ ?_
   ·refine PO.case (t:=147) rfl rfl (λ h91=>?_) (λ h91=>?_)
    ·have e90:=bif_t h91 e90
     refine oT 2 [(0,vP 0),(8,.val (.slice none 0 0)),(9,vP 1),(10,vP 2),(11,.fn 26 [] []),(12,vP 3),(15,gpO 5 4 19 v118 0),(17,gpO 5 4 19 (some (some (4 * Int.toNat (w ((v52.length:Int) - 1))+Int.toNat 1))) 0),(127,vI 1),(147,vB true),(148,gpO 5 4 19 (some (some (4 * Int.toNat (w ((v52.length:Int) - 1))+Int.toNat 1))) 0),(149,gpO 5 4 19 v118 0)] [⟨0,(cGMeter r61.2)⟩,⟨0,[vI 0,vI 0,vI 0]⟩,⟨0,[vI 0,vI 0]⟩,⟨0,[vP 0,.list 13 (List.map cGItem v49) none,vI v50,vI v51,.list 1 (List.map cI_i64 v52) none,.sl 4 0 (Int.toNat (r24.1.length:Int)) (Int.toNat (r24.1.length:Int))]⟩,⟨76,(flatU (cGstate 4) v119)⟩,⟨0,(cGstate 4 v139)⟩] [] (by kernel_rfl) ?_
     refine bindK e90 (λ r92 e93 e90=>?_)
     refine PO.call rfl rfl rfl rfl (ks:=[4,5]) (ts:=[]) (fr1:=[⟨76,(flatU (cGstate 0) v119)⟩,⟨0,(cGstate 0 v139)⟩]) rfl rfl (mo_cons rfl (mo_cons (gp_to rfl rfl) mo_nil)) ⟨⟨_,rfl,rfl,uTo rfl⟩,⟨⟨_,rfl,rfl,uTo1 v139 rfl⟩,trivial⟩⟩ (L32_s k (some (some (4 * Int.toNat (w ((v52.length:Int) - 1))+Int.toNat 1))) v118 v119 v139 _ e93) ?_
     rintro _ _ _ ⟨rfl,rfl,rfl⟩
     refine⟨_,_,rfl,(bk_cons (bk_u (uTo rfl)) (bk_cons (bk_u (uTo1 r92.2.2 rfl)) bk_nil)),?_⟩
     refine PO.same rfl (pickT_ok rfl rfl rfl) rfl ?_
     refine PO.nil ?_
     exact⟨r92.1,r92.2.1,r92.2.2,Weak.mk [0,1,2,3,4,5] [] 0 rfl rfl rfl ⟨⟨_,_,rfl,rfl,rfl,(LessL.refl _)⟩,⟨⟨_,_,rfl,rfl,rfl,(LessL.refl _)⟩,⟨⟨_,_,rfl,rfl,rfl,(LessL.refl _)⟩,⟨⟨_,_,rfl,rfl,rfl,(LessL.refl _)⟩,⟨⟨_,_,rfl,rfl,uTo rfl,LessL.refl _⟩,⟨⟨_,_,rfl,rfl,uTo1 r92.2.2 rfl,(LessL.refl _)⟩,trivial⟩⟩⟩⟩⟩⟩ ⟨⟨_,_,rfl,rfl,.refl _⟩,⟨⟨_,_,rfl,rfl,.refl _⟩,⟨⟨_,_,rfl,rfl,.refl _⟩,⟨⟨_,_,rfl,rfl,.refl _⟩,⟨⟨_,_,rfl,rfl,.refl _⟩,⟨⟨_,_,rfl,rfl,.refl _⟩,⟨⟨_,_,rfl,gp_to rfl rfl,.refl _⟩,⟨⟨_,_,rfl,rfl,.refl _⟩,⟨⟨_,_,rfl,rfl,.refl _⟩,⟨⟨_,_,rfl,rfl,.refl _⟩,trivial⟩⟩⟩⟩⟩⟩⟩⟩⟩⟩,Option.some.inj e90⟩
    have e90:=bif_f h91 e90
    refine PO.run 3 rfl ?_
    refine PO.same rfl (pickF_ok rfl rfl rfl) rfl ?_
    refine PO.nil ?_
    exact⟨false,v119,v139,Weak.mk [0,1,2,3,4,5] [] 0 rfl rfl rfl ⟨⟨_,_,rfl,rfl,rfl,(LessL.refl _)⟩,⟨⟨_,_,rfl,rfl,rfl,(LessL.refl _)⟩,⟨⟨_,_,rfl,rfl,rfl,(LessL.refl _)⟩,⟨⟨_,_,rfl,rfl,rfl,(LessL.refl _)⟩,⟨⟨_,_,rfl,rfl,uTo rfl,LessL.refl _⟩,⟨⟨_,_,rfl,rfl,uTo1 v139 rfl,(LessL.refl _)⟩,trivial⟩⟩⟩⟩⟩⟩ ⟨⟨_,_,rfl,rfl,.refl _⟩,⟨⟨_,_,rfl,rfl,.refl _⟩,⟨⟨_,_,rfl,rfl,.refl _⟩,⟨⟨_,_,rfl,rfl,.refl _⟩,⟨⟨_,_,rfl,rfl,.refl _⟩,⟨⟨_,_,rfl,rfl,.refl _⟩,⟨⟨_,_,rfl,gp_to rfl rfl,.refl _⟩,⟨⟨_,_,rfl,rfl,.refl _⟩,⟨⟨_,_,rfl,rfl,.refl _⟩,⟨⟨_,_,rfl,rfl,.refl _⟩,trivial⟩⟩⟩⟩⟩⟩⟩⟩⟩⟩,Option.some.inj e90⟩
   rintro _ ⟨v186,v187,v207,w94,rfl⟩
   refine PO.weak w94 ?_
   refine PO.nil ?_
   refine PC.lone ?_
   refine PC.cond rfl (λ h95=>?_) (λ h95=>?_)
   ·have e83:=bif_t h95 e83
    refine PC.region ?_
    refine oT 2 [(0,vP 0),(8,.val (.slice none 0 0)),(9,vP 1),(10,vP 2),(11,.fn 26 [] []),(12,vP 3),(15,gpO 5 4 19 (some (some (4 * Int.toNat (w ((v52.length:Int) - 1))+Int.toNat 1))) 0),(127,vI 1)] [⟨0,(cGMeter r61.2)⟩,⟨0,[vI 0,vI 0,vI 0]⟩,⟨0,[vI 0,vI 0]⟩,⟨0,[vP 0,.list 13 (List.map cGItem v49) none,vI v50,vI v51,.list 1 (List.map cI_i64 v52) none,.sl 4 0 (Int.toNat (r24.1.length:Int)) (Int.toNat (r24.1.length:Int))]⟩,⟨76,(flatU (cGstate 4) v187)⟩,⟨0,(cGstate 4 v207)⟩] [] (by kernel_rfl) ?_
    refine PO.nil ?_
    exact PC.skip (blockJK.end ⟨some (some (4 * Int.toNat (w ((v52.length:Int) - 1))+Int.toNat 1)),v187,v207,Weak.mk [0,1,2,3,4,5] [] 0 rfl rfl rfl ⟨⟨_,_,rfl,rfl,rfl,(LessL.refl _)⟩,⟨⟨_,_,rfl,rfl,rfl,(LessL.refl _)⟩,⟨⟨_,_,rfl,rfl,rfl,(LessL.refl _)⟩,⟨⟨_,_,rfl,rfl,rfl,(LessL.refl _)⟩,⟨⟨_,_,rfl,rfl,uTo rfl,LessL.refl _⟩,⟨⟨_,_,rfl,rfl,uTo1 v207 rfl,(LessL.refl _)⟩,trivial⟩⟩⟩⟩⟩⟩ ⟨⟨_,_,rfl,rfl,.refl _⟩,⟨⟨_,_,rfl,rfl,.refl _⟩,⟨⟨_,_,rfl,rfl,.refl _⟩,⟨⟨_,_,rfl,rfl,.refl _⟩,⟨⟨_,_,rfl,rfl,.refl _⟩,⟨⟨_,_,rfl,rfl,.refl _⟩,⟨⟨_,_,rfl,rfl,.refl _⟩,⟨⟨_,_,rfl,rfl,.refl _⟩,trivial⟩⟩⟩⟩⟩⟩⟩⟩,Option.some.inj e83⟩)
   have e83:=bif_f h95 e83
   refine PC.noop ?_
   exact PC.skip (blockJK.end ⟨v118,v187,v207,Weak.mk [0,1,2,3,4,5] [] 0 rfl rfl rfl ⟨⟨_,_,rfl,rfl,rfl,(LessL.refl _)⟩,⟨⟨_,_,rfl,rfl,rfl,(LessL.refl _)⟩,⟨⟨_,_,rfl,rfl,rfl,(LessL.refl _)⟩,⟨⟨_,_,rfl,rfl,rfl,(LessL.refl _)⟩,⟨⟨_,_,rfl,rfl,uTo rfl,LessL.refl _⟩,⟨⟨_,_,rfl,rfl,uTo1 v207 rfl,(LessL.refl _)⟩,trivial⟩⟩⟩⟩⟩⟩ ⟨⟨_,_,rfl,rfl,.refl _⟩,⟨⟨_,_,rfl,rfl,.refl _⟩,⟨⟨_,_,rfl,rfl,.refl _⟩,⟨⟨_,_,rfl,rfl,.refl _⟩,⟨⟨_,_,rfl,rfl,.refl _⟩,⟨⟨_,_,rfl,rfl,.refl _⟩,⟨⟨_,_,rfl,gp_to rfl rfl,.refl _⟩,⟨⟨_,_,rfl,rfl,.refl _⟩,trivial⟩⟩⟩⟩⟩⟩⟩⟩,Option.some.inj e83⟩)
  rintro _ ⟨v163,v164,v184,w96,rfl⟩
  refine PC.weak w96 ?_
  refine PC.lone ?_
  refine PC.region ?_
  refine oT 2 [(0,vP 0),(8,.val (.slice none 0 0)),(9,vP 1),(10,vP 2),(11,.fn 26 [] []),(12,vP 3),(15,gpO 5 4 19 v163 0),(127,vI 2)] [⟨0,(cGMeter r61.2)⟩,⟨0,[vI 0,vI 0,vI 0]⟩,⟨0,[vI 0,vI 0]⟩,⟨0,[vP 0,.list 13 (List.map cGItem v49) none,vI v50,vI v51,.list 1 (List.map cI_i64 v52) none,.sl 4 0 (Int.toNat (r24.1.length:Int)) (Int.toNat (r24.1.length:Int))]⟩,⟨76,(flatU (cGstate 4) v164)⟩,⟨0,(cGstate 4 v184)⟩] [] (by kernel_rfl) ?_
  refine PO.nil ?_
  refine PC.skip (loop1P.end ?_)
  refine PC.loop1 ?_
  refine PC.region ?_
  refine oT 1 [(0,vP 0),(8,.val (.slice none 0 0)),(9,vP 1),(10,vP 2),(11,.fn 26 [] []),(12,vP 3),(15,gpO 5 4 19 v163 0),(127,vI 2),(128,vB true)] [⟨0,(cGMeter r61.2)⟩,⟨0,[vI 0,vI 0,vI 0]⟩,⟨0,[vI 0,vI 0]⟩,⟨0,[vP 0,.list 13 (List.map cGItem v49) none,vI v50,vI v51,.list 1 (List.map cI_i64 v52) none,.sl 4 0 (Int.toNat (r24.1.length:Int)) (Int.toNat (r24.1.length:Int))]⟩,⟨76,(flatU (cGstate 4) v164)⟩,⟨0,(cGstate 4 v184)⟩] [] (by kernel_rfl) ?_
  refine PO.nil ?_
  refine PC.cond rfl (λ _=>?_) (λ h97=>Bool.noConfusion h97)
  refine PC.noop ?_
  refine bindK e64 (λ x98 e99 e64=>?_)
  refine PC.blockJ (λ s=>∃ (v208:Option (Option Nat)) (v209:List Gstate) (v229:Gstate),Weak s (PS.of 192 [(0,vP 0),(8,.val (.slice none 0 0)),(9,vP 1),(10,vP 2),(11,.fn 26 [] []),(12,vP 3),(15,gpO 5 4 19 v208 0),(127,vI 2)] [⟨0,(cGMeter r61.2)⟩,⟨0,[vI 0,vI 0,vI 0]⟩,⟨0,[vI 0,vI 0]⟩,⟨0,[vP 0,.list 13 (List.map cGItem v49) none,vI v50,vI v51,.list 1 (List.map cI_i64 v52) none,.sl 4 0 (Int.toNat (r24.1.length:Int)) (Int.toNat (r24.1.length:Int))]⟩,⟨76,(flatU (cGstate 4) v209)⟩,⟨0,(cGstate 4 v229)⟩] [] 1 0)/\(v208,v209,v229)=x98) ?_ ?_
  ·refine PC.region ?_
   refine oT 2 [(0,vP 0),(8,.val (.slice none 0 0)),(9,vP 1),(10,vP 2),(11,.fn 26 [] []),(12,vP 3),(15,gpO 5 4 19 v163 0),(16,vI 2),(127,vI 2)] [⟨0,(cGMeter r61.2)⟩,⟨0,[vI 0,vI 0,vI 0]⟩,⟨0,[vI 0,vI 0]⟩,⟨0,[vP 0,.list 13 (List.map cGItem v49) none,vI v50,vI v51,.list 1 (List.map cI_i64 v52) none,.sl 4 0 (Int.toNat (r24.1.length:Int)) (Int.toNat (r24.1.length:Int))]⟩,⟨76,(flatU (cGstate 4) v164)⟩,⟨0,(cGstate 4 v184)⟩] [] (by kernel_rfl) ?_
   refine PO.nil ?_
   refine PC.drawn (order:=[0,1,2,3,4,5,6,7,8,9,10,11,12,13]) (by kernel_rfl) ?_
   refine oT 8 [(0,vP 0),(8,.val (.slice none 0 0)),(9,vP 1),(10,vP 2),(11,.fn 26 [] []),(12,vP 3),(15,gpO 5 4 19 v163 0),(16,vI 2),(127,vI 2),(133,.sl 4 0 (Int.toNat (r24.1.length:Int)) (Int.toNat (r24.1.length:Int))),(137,.list 1 (List.map cI_i64 v52) none)] [⟨0,(cGMeter r61.2)⟩,⟨0,[vI 0,vI 0,vI 0]⟩,⟨0,[vI 0,vI 0]⟩,⟨0,[vP 0,.list 13 (List.map cGItem v49) none,vI v50,vI v51,.list 1 (List.map cI_i64 v52) none,.sl 4 0 (Int.toNat (r24.1.length:Int)) (Int.toNat (r24.1.length:Int))]⟩,⟨76,(flatU (cGstate 4) v164)⟩,⟨0,(cGstate 4 v184)⟩] [] (by kernel_rfl) ?_
   refine PO.same rfl (len_ok Try.underlying34 rfl (List.length_map _)) rfl ?_
   refine oT 2 [(0,vP 0),(8,.val (.slice none 0 0)),(9,vP 1),(10,vP 2),(11,.fn 26 [] []),(12,vP 3),(15,gpO 5 4 19 v163 0),(127,vI 2),(133,.sl 4 0 (Int.toNat (r24.1.length:Int)) (Int.toNat (r24.1.length:Int))),(139,vI (w ((v52.length:Int) - 1))),(140,vI 2)] [⟨0,(cGMeter r61.2)⟩,⟨0,[vI 0,vI 0,vI 0]⟩,⟨0,[vI 0,vI 0]⟩,⟨0,[vP 0,.list 13 (List.map cGItem v49) none,vI v50,vI v51,.list 1 (List.map cI_i64 v52) none,.sl 4 0 (Int.toNat (r24.1.length:Int)) (Int.toNat (r24.1.length:Int))]⟩,⟨76,(flatU (cGstate 4) v164)⟩,⟨0,(cGstate 4 v184)⟩] [] (by kernel_rfl) ?_
   refine bindNK e99 (λ h100 h101 e99=>?_)
   refine PO.same rfl (slAt_ok Try.underlying68 rfl rfl rfl h100 h101) rfl ?_
   refine oT 0 [(0,vP 0),(8,.val (.slice none 0 0)),(9,vP 1),(10,vP 2),(11,.fn 26 [] []),(12,vP 3),(15,gpO 5 4 19 v163 0),(127,vI 2),(140,vI 2),(141,.ptr 4 (0+Int.toNat (w ((v52.length:Int) - 1)) * 76))] [⟨0,(cGMeter r61.2)⟩,⟨0,[vI 0,vI 0,vI 0]⟩,⟨0,[vI 0,vI 0]⟩,⟨0,[vP 0,.list 13 (List.map cGItem v49) none,vI v50,vI v51,.list 1 (List.map cI_i64 v52) none,.sl 4 0 (Int.toNat (r24.1.length:Int)) (Int.toNat (r24.1.length:Int))]⟩,⟨76,(flatU (cGstate 4) v164)⟩,⟨0,(cGstate 4 v184)⟩] [] (by kernel_rfl) ?_
   refine bindNK e99 (λ h102 h103 e99=>?_)
   refine PO.same rfl (arrAt_ok (l:=5) (j:=4 * Int.toNat (w ((v52.length:Int) - 1))+Int.toNat 2) (sz:=19) Try.underlying78 rfl rfl rfl h102 h103 (by omega)) rfl ?_
   refine oT 1 [(0,vP 0),(8,.val (.slice none 0 0)),(9,vP 1),(10,vP 2),(11,.fn 26 [] []),(12,vP 3),(15,gpO 5 4 19 v163 0),(17,gpO 5 4 19 (some (some (4 * Int.toNat (w ((v52.length:Int) - 1))+Int.toNat 2))) 0),(127,vI 2)] [⟨0,(cGMeter r61.2)⟩,⟨0,[vI 0,vI 0,vI 0]⟩,⟨0,[vI 0,vI 0]⟩,⟨0,[vP 0,.list 13 (List.map cGItem v49) none,vI v50,vI v51,.list 1 (List.map cI_i64 v52) none,.sl 4 0 (Int.toNat (r24.1.length:Int)) (Int.toNat (r24.1.length:Int))]⟩,⟨76,(flatU (cGstate 4) v164)⟩,⟨0,(cGstate 4 v184)⟩] [] (by kernel_rfl) ?_
   refine PO.nil ?_
   refine PC.region ?_
   refine oT 1 [(0,vP 0),(8,.val (.slice none 0 0)),(9,vP 1),(10,vP 2),(11,.fn 26 [] []),(12,vP 3),(15,gpO 5 4 19 v163 0),(17,gpO 5 4 19 (some (some (4 * Int.toNat (w ((v52.length:Int) - 1))+Int.toNat 2))) 0),(127,vI 2),(143,gpO 5 4 19 (some (some (4 * Int.toNat (w ((v52.length:Int) - 1))+Int.toNat 2))) 0)] [⟨0,(cGMeter r61.2)⟩,⟨0,[vI 0,vI 0,vI 0]⟩,⟨0,[vI 0,vI 0]⟩,⟨0,[vP 0,.list 13 (List.map cGItem v49) none,vI v50,vI v51,.list 1 (List.map cI_i64 v52) none,.sl 4 0 (Int.toNat (r24.1.length:Int)) (Int.toNat (r24.1.length:Int))]⟩,⟨76,(flatU (cGstate 4) v164)⟩,⟨0,(cGstate 4 v184)⟩] [] (by kernel_rfl) ?_
   refine bindGK e99 (λ y230 h104 e99=>?_)
   refine PO.same rfl (nilG_ok rfl (getG_some h104)) rfl ?_
   refine PO.same rfl (fieldG_ok (o':=0) rfl (getG_some h104) (λ _ _=>rfl)) rfl ?_
   refine PO.same rfl (load_of rfl (pLoad_g (q:=vB y230.is_) (z:=v184) cU rfl rfl h104 rfl)) rfl ?_
   refine oT 1 [(0,vP 0),(8,.val (.slice none 0 0)),(9,vP 1),(10,vP 2),(11,.fn 26 [] []),(12,vP 3),(15,gpO 5 4 19 v163 0),(17,gpO 5 4 19 (some (some (4 * Int.toNat (w ((v52.length:Int) - 1))+Int.toNat 2))) 0),(127,vI 2),(147,vB y230.is_)] [⟨0,(cGMeter r61.2)⟩,⟨0,[vI 0,vI 0,vI 0]⟩,⟨0,[vI 0,vI 0]⟩,⟨0,[vP 0,.list 13 (List.map cGItem v49) none,vI v50,vI v51,.list 1 (List.map cI_i64 v52) none,.sl 4 0 (Int.toNat (r24.1.length:Int)) (Int.toNat (r24.1.length:Int))]⟩,⟨76,(flatU (cGstate 4) v164)⟩,⟨0,(cGstate 4 v184)⟩] [] (by kernel_rfl) ?_
   refine bindK e99 (λ x105 e106 e99=>?_)
   refine PO.cut 4 (λ s=>∃ (v231:Bool) (v232:List Gstate) (v252:Gstate),Weak s (PS.of 192 [(0,vP 0),(8,.val (.slice none 0 0)),(9,vP 1),(10,vP 2),(11,.fn 26 [] []),(12,vP 3),(15,gpO 5 4 19 v163 0),(17,gpO 5 4 19 (some (some (4 * Int.toNat (w ((v52.length:Int) - 1))+Int.toNat 2))) 0),(127,vI 2),(151,vB v231)] [⟨0,(cGMeter r61.2)⟩,⟨0,[vI 0,vI 0,vI 0]⟩,⟨0,[vI 0,vI 0]⟩,⟨0,[vP 0,.list 13 (List.map cGItem v49) none,vI v50,vI v51,.list 1 (List.map cI_i64 v52) none,.sl 4 0 (Int.toNat (r24.1.length:Int)) (Int.toNat (r24.1.length:Int))]⟩,⟨76,(flatU (cGstate 4) v232)⟩,⟨0,(cGstate 4 v252)⟩] [] 1 0)/\(v231,v232,v252)=x105) ?_ ?_
   ·refine PO.case (t:=147) rfl rfl (λ h107=>?_) (λ h107=>?_)
    ·have e106:=bif_t h107 e106
     refine oT 2 [(0,vP 0),(8,.val (.slice none 0 0)),(9,vP 1),(10,vP 2),(11,.fn 26 [] []),(12,vP 3),(15,gpO 5 4 19 v163 0),(17,gpO 5 4 19 (some (some (4 * Int.toNat (w ((v52.length:Int) - 1))+Int.toNat 2))) 0),(127,vI 2),(147,vB true),(148,gpO 5 4 19 (some (some (4 * Int.toNat (w ((v52.length:Int) - 1))+Int.toNat 2))) 0),(149,gpO 5 4 19 v163 0)] [⟨0,(cGMeter r61.2)⟩,⟨0,[vI 0,vI 0,vI 0]⟩,⟨0,[vI 0,vI 0]⟩,⟨0,[vP 0,.list 13 (List.map cGItem v49) none,vI v50,vI v51,.list 1 (List.map cI_i64 v52) none,.sl 4 0 (Int.toNat (r24.1.length:Int)) (Int.toNat (r24.1.length:Int))]⟩,⟨76,(flatU (cGstate 4) v164)⟩,⟨0,(cGstate 4 v184)⟩] [] (by kernel_rfl) ?_
     refine bindK e106 (λ r108 e109 e106=>?_)
     refine PO.call rfl rfl rfl rfl (ks:=[4,5]) (ts:=[]) (fr1:=[⟨76,(flatU (cGstate 0) v164)⟩,⟨0,(cGstate 0 v184)⟩]) rfl rfl (mo_cons rfl (mo_cons (gp_to rfl rfl) mo_nil)) ⟨⟨_,rfl,rfl,uTo rfl⟩,⟨⟨_,rfl,rfl,uTo1 v184 rfl⟩,trivial⟩⟩ (L32_s k (some (some (4 * Int.toNat (w ((v52.length:Int) - 1))+Int.toNat 2))) v163 v164 v184 _ e109) ?_
     rintro _ _ _ ⟨rfl,rfl,rfl⟩
     refine⟨_,_,rfl,(bk_cons (bk_u (uTo rfl)) (bk_cons (bk_u (uTo1 r108.2.2 rfl)) bk_nil)),?_⟩
     refine PO.same rfl (pickT_ok rfl rfl rfl) rfl ?_
     refine PO.nil ?_
     exact⟨r108.1,r108.2.1,r108.2.2,Weak.mk [0,1,2,3,4,5] [] 0 rfl rfl rfl ⟨⟨_,_,rfl,rfl,rfl,(LessL.refl _)⟩,⟨⟨_,_,rfl,rfl,rfl,(LessL.refl _)⟩,⟨⟨_,_,rfl,rfl,rfl,(LessL.refl _)⟩,⟨⟨_,_,rfl,rfl,rfl,(LessL.refl _)⟩,⟨⟨_,_,rfl,rfl,uTo rfl,LessL.refl _⟩,⟨⟨_,_,rfl,rfl,uTo1 r108.2.2 rfl,(LessL.refl _)⟩,trivial⟩⟩⟩⟩⟩⟩ ⟨⟨_,_,rfl,rfl,.refl _⟩,⟨⟨_,_,rfl,rfl,.refl _⟩,⟨⟨_,_,rfl,rfl,.refl _⟩,⟨⟨_,_,rfl,rfl,.refl _⟩,⟨⟨_,_,rfl,rfl,.refl _⟩,⟨⟨_,_,rfl,rfl,.refl _⟩,⟨⟨_,_,rfl,gp_to rfl rfl,.refl _⟩,⟨⟨_,_,rfl,rfl,.refl _⟩,⟨⟨_,_,rfl,rfl,.refl _⟩,⟨⟨_,_,rfl,rfl,.refl _⟩,trivial⟩⟩⟩⟩⟩⟩⟩⟩⟩⟩,Option.some.inj e106⟩
    have e106:=bif_f h107 e106
    refine PO.run 3 rfl ?_
    refine PO.same rfl (pickF_ok rfl rfl rfl) rfl ?_
    refine PO.nil ?_
    exact⟨false,v164,v184,Weak.mk [0,1,2,3,4,5] [] 0 rfl rfl rfl ⟨⟨_,_,rfl,rfl,rfl,(LessL.refl _)⟩,⟨⟨_,_,rfl,rfl,rfl,(LessL.refl _)⟩,⟨⟨_,_,rfl,rfl,rfl,(LessL.refl _)⟩,⟨⟨_,_,rfl,rfl,rfl,(LessL.refl _)⟩,⟨⟨_,_,rfl,rfl,uTo rfl,LessL.refl _⟩,⟨⟨_,_,rfl,rfl,uTo1 v184 rfl,(LessL.refl _)⟩,trivial⟩⟩⟩⟩⟩⟩ ⟨⟨_,_,rfl,rfl,.refl _⟩,⟨⟨_,_,rfl,rfl,.refl _⟩,⟨⟨_,_,rfl,rfl,.refl _⟩,⟨⟨_,_,rfl,rfl,.refl _⟩,⟨⟨_,_,rfl,rfl,.refl _⟩,⟨⟨_,_,rfl,rfl,.refl _⟩,⟨⟨_,_,rfl,gp_to rfl rfl,.refl _⟩,⟨⟨_,_,rfl,rfl,.refl _⟩,⟨⟨_,_,rfl,rfl,.refl _⟩,⟨⟨_,_,rfl,rfl,.refl _⟩,trivial⟩⟩⟩⟩⟩⟩⟩⟩⟩⟩,Option.some.inj e106⟩
   rintro _ ⟨v231,v232,v252,w110,rfl⟩
   refine PO.weak w110 ?_
   refine PO.nil ?_
   refine PC.lone ?_
   refine PC.cond rfl (λ h111=>?_) (λ h111=>?_)
   ·have e99:=bif_t h111 e99
    refine PC.region ?_
    refine oT 2 [(0,vP 0),(8,.val (.slice none 0 0)),(9,vP 1),(10,vP 2),(11,.fn 26 [] []),(12,vP 3),(15,gpO 5 4 19 (some (some (4 * Int.toNat (w ((v52.length:Int) - 1))+Int.toNat 2))) 0),(127,vI 2)] [⟨0,(cGMeter r61.2)⟩,⟨0,[vI 0,vI 0,vI 0]⟩,⟨0,[vI 0,vI 0]⟩,⟨0,[vP 0,.list 13 (List.map cGItem v49) none,vI v50,vI v51,.list 1 (List.map cI_i64 v52) none,.sl 4 0 (Int.toNat (r24.1.length:Int)) (Int.toNat (r24.1.length:Int))]⟩,⟨76,(flatU (cGstate 4) v232)⟩,⟨0,(cGstate 4 v252)⟩] [] (by kernel_rfl) ?_
    refine PO.nil ?_
    exact PC.skip (blockJK.end ⟨some (some (4 * Int.toNat (w ((v52.length:Int) - 1))+Int.toNat 2)),v232,v252,Weak.mk [0,1,2,3,4,5] [] 0 rfl rfl rfl ⟨⟨_,_,rfl,rfl,rfl,(LessL.refl _)⟩,⟨⟨_,_,rfl,rfl,rfl,(LessL.refl _)⟩,⟨⟨_,_,rfl,rfl,rfl,(LessL.refl _)⟩,⟨⟨_,_,rfl,rfl,rfl,(LessL.refl _)⟩,⟨⟨_,_,rfl,rfl,uTo rfl,LessL.refl _⟩,⟨⟨_,_,rfl,rfl,uTo1 v252 rfl,(LessL.refl _)⟩,trivial⟩⟩⟩⟩⟩⟩ ⟨⟨_,_,rfl,rfl,.refl _⟩,⟨⟨_,_,rfl,rfl,.refl _⟩,⟨⟨_,_,rfl,rfl,.refl _⟩,⟨⟨_,_,rfl,rfl,.refl _⟩,⟨⟨_,_,rfl,rfl,.refl _⟩,⟨⟨_,_,rfl,rfl,.refl _⟩,⟨⟨_,_,rfl,rfl,.refl _⟩,⟨⟨_,_,rfl,rfl,.refl _⟩,trivial⟩⟩⟩⟩⟩⟩⟩⟩,Option.some.inj e99⟩)
   have e99:=bif_f h111 e99
   refine PC.noop ?_
   exact PC.skip (blockJK.end ⟨v163,v232,v252,Weak.mk [0,1,2,3,4,5] [] 0 rfl rfl rfl ⟨⟨_,_,rfl,rfl,rfl,(LessL.refl _)⟩,⟨⟨_,_,rfl,rfl,rfl,(LessL.refl _)⟩,⟨⟨_,_,rfl,rfl,rfl,(LessL.refl _)⟩,⟨⟨_,_,rfl,rfl,rfl,(LessL.refl _)⟩,⟨⟨_,_,rfl,rfl,uTo rfl,LessL.refl _⟩,⟨⟨_,_,rfl,rfl,uTo1 v252 rfl,(LessL.refl _)⟩,trivial⟩⟩⟩⟩⟩⟩ ⟨⟨_,_,rfl,rfl,.refl _⟩,⟨⟨_,_,rfl,rfl,.refl _⟩,⟨⟨_,_,rfl,rfl,.refl _⟩,⟨⟨_,_,rfl,rfl,.refl _⟩,⟨⟨_,_,rfl,rfl,.refl _⟩,⟨⟨_,_,rfl,rfl,.refl _⟩,⟨⟨_,_,rfl,gp_to rfl rfl,.refl _⟩,⟨⟨_,_,rfl,rfl,.refl _⟩,trivial⟩⟩⟩⟩⟩⟩⟩⟩,Option.some.inj e99⟩)
  rintro _ ⟨v208,v209,v229,w112,rfl⟩
  refine PC.weak w112 ?_
  refine PC.lone ?_
  refine PC.region ?_
  refine oT 2 [(0,vP 0),(8,.val (.slice none 0 0)),(9,vP 1),(10,vP 2),(11,.fn 26 [] []),(12,vP 3),(15,gpO 5 4 19 v208 0),(127,vI 3)] [⟨0,(cGMeter r61.2)⟩,⟨0,[vI 0,vI 0,vI 0]⟩,⟨0,[vI 0,vI 0]⟩,⟨0,[vP 0,.list 13 (List.map cGItem v49) none,vI v50,vI v51,.list 1 (List.map cI_i64 v52) none,.sl 4 0 (Int.toNat (r24.1.length:Int)) (Int.toNat (r24.1.length:Int))]⟩,⟨76,(flatU (cGstate 4) v209)⟩,⟨0,(cGstate 4 v229)⟩] [] (by kernel_rfl) ?_
  refine PO.nil ?_
  refine PC.skip (loop1P.end ?_)
  refine PC.loop1 ?_
  refine PC.region ?_
  refine oT 1 [(0,vP 0),(8,.val (.slice none 0 0)),(9,vP 1),(10,vP 2),(11,.fn 26 [] []),(12,vP 3),(15,gpO 5 4 19 v208 0),(127,vI 3),(128,vB true)] [⟨0,(cGMeter r61.2)⟩,⟨0,[vI 0,vI 0,vI 0]⟩,⟨0,[vI 0,vI 0]⟩,⟨0,[vP 0,.list 13 (List.map cGItem v49) none,vI v50,vI v51,.list 1 (List.map cI_i64 v52) none,.sl 4 0 (Int.toNat (r24.1.length:Int)) (Int.toNat (r24.1.length:Int))]⟩,⟨76,(flatU (cGstate 4) v209)⟩,⟨0,(cGstate 4 v229)⟩] [] (by kernel_rfl) ?_
  refine PO.nil ?_
  refine PC.cond rfl (λ _=>?_) (λ h113=>Bool.noConfusion h113)
  refine PC.noop ?_
  refine bindK e64 (λ x114 e115 e64=>?_)
  refine PC.blockJ (λ s=>∃ (v253:Option (Option Nat)) (v254:List Gstate) (v274:Gstate),Weak s (PS.of 192 [(0,vP 0),(8,.val (.slice none 0 0)),(9,vP 1),(10,vP 2),(11,.fn 26 [] []),(12,vP 3),(15,gpO 5 4 19 v253 0),(127,vI 3)] [⟨0,(cGMeter r61.2)⟩,⟨0,[vI 0,vI 0,vI 0]⟩,⟨0,[vI 0,vI 0]⟩,⟨0,[vP 0,.list 13 (List.map cGItem v49) none,vI v50,vI v51,.list 1 (List.map cI_i64 v52) none,.sl 4 0 (Int.toNat (r24.1.length:Int)) (Int.toNat (r24.1.length:Int))]⟩,⟨76,(flatU (cGstate 4) v254)⟩,⟨0,(cGstate 4 v274)⟩] [] 1 0)/\(v253,v254,v274)=x114) ?_ ?_
  ·refine PC.region ?_
   refine oT 2 [(0,vP 0),(8,.val (.slice none 0 0)),(9,vP 1),(10,vP 2),(11,.fn 26 [] []),(12,vP 3),(15,gpO 5 4 19 v208 0),(16,vI 3),(127,vI 3)] [⟨0,(cGMeter r61.2)⟩,⟨0,[vI 0,vI 0,vI 0]⟩,⟨0,[vI 0,vI 0]⟩,⟨0,[vP 0,.list 13 (List.map cGItem v49) none,vI v50,vI v51,.list 1 (List.map cI_i64 v52) none,.sl 4 0 (Int.toNat (r24.1.length:Int)) (Int.toNat (r24.1.length:Int))]⟩,⟨76,(flatU (cGstate 4) v209)⟩,⟨0,(cGstate 4 v229)⟩] [] (by kernel_rfl) ?_
   refine PO.nil ?_
   refine PC.drawn (order:=[0,1,2,3,4,5,6,7,8,9,10,11,12,13]) (by kernel_rfl) ?_
   refine oT 8 [(0,vP 0),(8,.val (.slice none 0 0)),(9,vP 1),(10,vP 2),(11,.fn 26 [] []),(12,vP 3),(15,gpO 5 4 19 v208 0),(16,vI 3),(127,vI 3),(133,.sl 4 0 (Int.toNat (r24.1.length:Int)) (Int.toNat (r24.1.length:Int))),(137,.list 1 (List.map cI_i64 v52) none)] [⟨0,(cGMeter r61.2)⟩,⟨0,[vI 0,vI 0,vI 0]⟩,⟨0,[vI 0,vI 0]⟩,⟨0,[vP 0,.list 13 (List.map cGItem v49) none,vI v50,vI v51,.list 1 (List.map cI_i64 v52) none,.sl 4 0 (Int.toNat (r24.1.length:Int)) (Int.toNat (r24.1.length:Int))]⟩,⟨76,(flatU (cGstate 4) v209)⟩,⟨0,(cGstate 4 v229)⟩] [] (by kernel_rfl) ?_
   refine PO.same rfl (len_ok Try.underlying34 rfl (List.length_map _)) rfl ?_
   refine oT 2 [(0,vP 0),(8,.val (.slice none 0 0)),(9,vP 1),(10,vP 2),(11,.fn 26 [] []),(12,vP 3),(15,gpO 5 4 19 v208 0),(127,vI 3),(133,.sl 4 0 (Int.toNat (r24.1.length:Int)) (Int.toNat (r24.1.length:Int))),(139,vI (w ((v52.length:Int) - 1))),(140,vI 3)] [⟨0,(cGMeter r61.2)⟩,⟨0,[vI 0,vI 0,vI 0]⟩,⟨0,[vI 0,vI 0]⟩,⟨0,[vP 0,.list 13 (List.map cGItem v49) none,vI v50,vI v51,.list 1 (List.map cI_i64 v52) none,.sl 4 0 (Int.toNat (r24.1.length:Int)) (Int.toNat (r24.1.length:Int))]⟩,⟨76,(flatU (cGstate 4) v209)⟩,⟨0,(cGstate 4 v229)⟩] [] (by kernel_rfl) ?_
   refine bindNK e115 (λ h116 h117 e115=>?_)
   refine PO.same rfl (slAt_ok Try.underlying68 rfl rfl rfl h116 h117) rfl ?_
   refine oT 0 [(0,vP 0),(8,.val (.slice none 0 0)),(9,vP 1),(10,vP 2),(11,.fn 26 [] []),(12,vP 3),(15,gpO 5 4 19 v208 0),(127,vI 3),(140,vI 3),(141,.ptr 4 (0+Int.toNat (w ((v52.length:Int) - 1)) * 76))] [⟨0,(cGMeter r61.2)⟩,⟨0,[vI 0,vI 0,vI 0]⟩,⟨0,[vI 0,vI 0]⟩,⟨0,[vP 0,.list 13 (List.map cGItem v49) none,vI v50,vI v51,.list 1 (List.map cI_i64 v52) none,.sl 4 0 (Int.toNat (r24.1.length:Int)) (Int.toNat (r24.1.length:Int))]⟩,⟨76,(flatU (cGstate 4) v209)⟩,⟨0,(cGstate 4 v229)⟩] [] (by kernel_rfl) ?_
   refine bindNK e115 (λ h118 h119 e115=>?_)
   refine PO.same rfl (arrAt_ok (l:=5) (j:=4 * Int.toNat (w ((v52.length:Int) - 1))+Int.toNat 3) (sz:=19) Try.underlying78 rfl rfl rfl h118 h119 (by omega)) rfl ?_
   refine oT 1 [(0,vP 0),(8,.val (.slice none 0 0)),(9,vP 1),(10,vP 2),(11,.fn 26 [] []),(12,vP 3),(15,gpO 5 4 19 v208 0),(17,gpO 5 4 19 (some (some (4 * Int.toNat (w ((v52.length:Int) - 1))+Int.toNat 3))) 0),(127,vI 3)] [⟨0,(cGMeter r61.2)⟩,⟨0,[vI 0,vI 0,vI 0]⟩,⟨0,[vI 0,vI 0]⟩,⟨0,[vP 0,.list 13 (List.map cGItem v49) none,vI v50,vI v51,.list 1 (List.map cI_i64 v52) none,.sl 4 0 (Int.toNat (r24.1.length:Int)) (Int.toNat (r24.1.length:Int))]⟩,⟨76,(flatU (cGstate 4) v209)⟩,⟨0,(cGstate 4 v229)⟩] [] (by kernel_rfl) ?_
   refine PO.nil ?_
   refine PC.region ?_
   refine oT 1 [(0,vP 0),(8,.val (.slice none 0 0)),(9,vP 1),(10,vP 2),(11,.fn 26 [] []),(12,vP 3),(15,gpO 5 4 19 v208 0),(17,gpO 5 4 19 (some (some (4 * Int.toNat (w ((v52.length:Int) - 1))+Int.toNat 3))) 0),(127,vI 3),(143,gpO 5 4 19 (some (some (4 * Int.toNat (w ((v52.length:Int) - 1))+Int.toNat 3))) 0)] [⟨0,(cGMeter r61.2)⟩,⟨0,[vI 0,vI 0,vI 0]⟩,⟨0,[vI 0,vI 0]⟩,⟨0,[vP 0,.list 13 (List.map cGItem v49) none,vI v50,vI v51,.list 1 (List.map cI_i64 v52) none,.sl 4 0 (Int.toNat (r24.1.length:Int)) (Int.toNat (r24.1.length:Int))]⟩,⟨76,(flatU (cGstate 4) v209)⟩,⟨0,(cGstate 4 v229)⟩] [] (by kernel_rfl) ?_
   refine bindGK e115 (λ y275 h120 e115=>?_)
   refine PO.same rfl (nilG_ok rfl (getG_some h120)) rfl ?_
   refine PO.same rfl (fieldG_ok (o':=0) rfl (getG_some h120) (λ _ _=>rfl)) rfl ?_
   refine PO.same rfl (load_of rfl (pLoad_g (q:=vB y275.is_) (z:=v229) cU rfl rfl h120 rfl)) rfl ?_
   refine oT 1 [(0,vP 0),(8,.val (.slice none 0 0)),(9,vP 1),(10,vP 2),(11,.fn 26 [] []),(12,vP 3),(15,gpO 5 4 19 v208 0),(17,gpO 5 4 19 (some (some (4 * Int.toNat (w ((v52.length:Int) - 1))+Int.toNat 3))) 0),(127,vI 3),(147,vB y275.is_)] [⟨0,(cGMeter r61.2)⟩,⟨0,[vI 0,vI 0,vI 0]⟩,⟨0,[vI 0,vI 0]⟩,⟨0,[vP 0,.list 13 (List.map cGItem v49) none,vI v50,vI v51,.list 1 (List.map cI_i64 v52) none,.sl 4 0 (Int.toNat (r24.1.length:Int)) (Int.toNat (r24.1.length:Int))]⟩,⟨76,(flatU (cGstate 4) v209)⟩,⟨0,(cGstate 4 v229)⟩] [] (by kernel_rfl) ?_
   refine bindK e115 (λ x121 e122 e115=>?_)
   refine PO.cut 4 (λ s=>∃ (v276:Bool) (v277:List Gstate) (v297:Gstate),Weak s (PS.of 192 [(0,vP 0),(8,.val (.slice none 0 0)),(9,vP 1),(10,vP 2),(11,.fn 26 [] []),(12,vP 3),(15,gpO 5 4 19 v208 0),(17,gpO 5 4 19 (some (some (4 * Int.toNat (w ((v52.length:Int) - 1))+Int.toNat 3))) 0),(127,vI 3),(151,vB v276)] [⟨0,(cGMeter r61.2)⟩,⟨0,[vI 0,vI 0,vI 0]⟩,⟨0,[vI 0,vI 0]⟩,⟨0,[vP 0,.list 13 (List.map cGItem v49) none,vI v50,vI v51,.list 1 (List.map cI_i64 v52) none,.sl 4 0 (Int.toNat (r24.1.length:Int)) (Int.toNat (r24.1.length:Int))]⟩,⟨76,(flatU (cGstate 4) v277)⟩,⟨0,(cGstate 4 v297)⟩] [] 1 0)/\(v276,v277,v297)=x121) ?_ ?_
   ·refine PO.case (t:=147) rfl rfl (λ h123=>?_) (λ h123=>?_)
    ·have e122:=bif_t h123 e122
     refine oT 2 [(0,vP 0),(8,.val (.slice none 0 0)),(9,vP 1),(10,vP 2),(11,.fn 26 [] []),(12,vP 3),(15,gpO 5 4 19 v208 0),(17,gpO 5 4 19 (some (some (4 * Int.toNat (w ((v52.length:Int) - 1))+Int.toNat 3))) 0),(127,vI 3),(147,vB true),(148,gpO 5 4 19 (some (some (4 * Int.toNat (w ((v52.length:Int) - 1))+Int.toNat 3))) 0),(149,gpO 5 4 19 v208 0)] [⟨0,(cGMeter r61.2)⟩,⟨0,[vI 0,vI 0,vI 0]⟩,⟨0,[vI 0,vI 0]⟩,⟨0,[vP 0,.list 13 (List.map cGItem v49) none,vI v50,vI v51,.list 1 (List.map cI_i64 v52) none,.sl 4 0 (Int.toNat (r24.1.length:Int)) (Int.toNat (r24.1.length:Int))]⟩,⟨76,(flatU (cGstate 4) v209)⟩,⟨0,(cGstate 4 v229)⟩] [] (by kernel_rfl) ?_
     refine bindK e122 (λ r124 e125 e122=>?_)
     refine PO.call rfl rfl rfl rfl (ks:=[4,5]) (ts:=[]) (fr1:=[⟨76,(flatU (cGstate 0) v209)⟩,⟨0,(cGstate 0 v229)⟩]) rfl rfl (mo_cons rfl (mo_cons (gp_to rfl rfl) mo_nil)) ⟨⟨_,rfl,rfl,uTo rfl⟩,⟨⟨_,rfl,rfl,uTo1 v229 rfl⟩,trivial⟩⟩ (L32_s k (some (some (4 * Int.toNat (w ((v52.length:Int) - 1))+Int.toNat 3))) v208 v209 v229 _ e125) ?_
     rintro _ _ _ ⟨rfl,rfl,rfl⟩
     refine⟨_,_,rfl,(bk_cons (bk_u (uTo rfl)) (bk_cons (bk_u (uTo1 r124.2.2 rfl)) bk_nil)),?_⟩
     refine PO.same rfl (pickT_ok rfl rfl rfl) rfl ?_
     refine PO.nil ?_
     exact⟨r124.1,r124.2.1,r124.2.2,Weak.mk [0,1,2,3,4,5] [] 0 rfl rfl rfl ⟨⟨_,_,rfl,rfl,rfl,(LessL.refl _)⟩,⟨⟨_,_,rfl,rfl,rfl,(LessL.refl _)⟩,⟨⟨_,_,rfl,rfl,rfl,(LessL.refl _)⟩,⟨⟨_,_,rfl,rfl,rfl,(LessL.refl _)⟩,⟨⟨_,_,rfl,rfl,uTo rfl,LessL.refl _⟩,⟨⟨_,_,rfl,rfl,uTo1 r124.2.2 rfl,(LessL.refl _)⟩,trivial⟩⟩⟩⟩⟩⟩ ⟨⟨_,_,rfl,rfl,.refl _⟩,⟨⟨_,_,rfl,rfl,.refl _⟩,⟨⟨_,_,rfl,rfl,.refl _⟩,⟨⟨_,_,rfl,rfl,.refl _⟩,⟨⟨_,_,rfl,rfl,.refl _⟩,⟨⟨_,_,rfl,rfl,.refl _⟩,⟨⟨_,_,rfl,gp_to rfl rfl,.refl _⟩,⟨⟨_,_,rfl,rfl,.refl _⟩,⟨⟨_,_,rfl,rfl,.refl _⟩,⟨⟨_,_,rfl,rfl,.refl _⟩,trivial⟩⟩⟩⟩⟩⟩⟩⟩⟩⟩,Option.some.inj e122⟩
    have e122:=bif_f h123 e122
    refine PO.run 3 rfl ?_
    refine PO.same rfl (pickF_ok rfl rfl rfl) rfl ?_
    refine PO.nil ?_
    exact⟨false,v209,v229,Weak.mk [0,1,2,3,4,5] [] 0 rfl rfl rfl ⟨⟨_,_,rfl,rfl,rfl,(LessL.refl _)⟩,⟨⟨_,_,rfl,rfl,rfl,(LessL.refl _)⟩,⟨⟨_,_,rfl,rfl,rfl,(LessL.refl _)⟩,⟨⟨_,_,rfl,rfl,rfl,(LessL.refl _)⟩,⟨⟨_,_,rfl,rfl,uTo rfl,LessL.refl _⟩,⟨⟨_,_,rfl,rfl,uTo1 v229 rfl,(LessL.refl _)⟩,trivial⟩⟩⟩⟩⟩⟩ ⟨⟨_,_,rfl,rfl,.refl _⟩,⟨⟨_,_,rfl,rfl,.refl _⟩,⟨⟨_,_,rfl,rfl,.refl _⟩,⟨⟨_,_,rfl,rfl,.refl _⟩,⟨⟨_,_,rfl,rfl,.refl _⟩,⟨⟨_,_,rfl,rfl,.refl _⟩,⟨⟨_,_,rfl,gp_to rfl rfl,.refl _⟩,⟨⟨_,_,rfl,rfl,.refl _⟩,⟨⟨_,_,rfl,rfl,.refl _⟩,⟨⟨_,_,rfl,rfl,.refl _⟩,trivial⟩⟩⟩⟩⟩⟩⟩⟩⟩⟩,Option.some.inj e122⟩
   rintro _ ⟨v276,v277,v297,w126,rfl⟩
   refine PO.weak w126 ?_
   refine PO.nil ?_
   refine PC.lone ?_
   refine PC.cond rfl (λ h127=>?_) (λ h127=>?_)
   ·have e115:=bif_t h127 e115
    refine PC.region ?_
    refine oT 2 [(0,vP 0),(8,.val (.slice none 0 0)),(9,vP 1),(10,vP 2),(11,.fn 26 [] []),(12,vP 3),(15,gpO 5 4 19 (some (some (4 * Int.toNat (w ((v52.length:Int) - 1))+Int.toNat 3))) 0),(127,vI 3)] [⟨0,(cGMeter r61.2)⟩,⟨0,[vI 0,vI 0,vI 0]⟩,⟨0,[vI 0,vI 0]⟩,⟨0,[vP 0,.list 13 (List.map cGItem v49) none,vI v50,vI v51,.list 1 (List.map cI_i64 v52) none,.sl 4 0 (Int.toNat (r24.1.length:Int)) (Int.toNat (r24.1.length:Int))]⟩,⟨76,(flatU (cGstate 4) v277)⟩,⟨0,(cGstate 4 v297)⟩] [] (by kernel_rfl) ?_
    refine PO.nil ?_
    exact PC.skip (blockJK.end ⟨some (some (4 * Int.toNat (w ((v52.length:Int) - 1))+Int.toNat 3)),v277,v297,Weak.mk [0,1,2,3,4,5] [] 0 rfl rfl rfl ⟨⟨_,_,rfl,rfl,rfl,(LessL.refl _)⟩,⟨⟨_,_,rfl,rfl,rfl,(LessL.refl _)⟩,⟨⟨_,_,rfl,rfl,rfl,(LessL.refl _)⟩,⟨⟨_,_,rfl,rfl,rfl,(LessL.refl _)⟩,⟨⟨_,_,rfl,rfl,uTo rfl,LessL.refl _⟩,⟨⟨_,_,rfl,rfl,uTo1 v297 rfl,(LessL.refl _)⟩,trivial⟩⟩⟩⟩⟩⟩ ⟨⟨_,_,rfl,rfl,.refl _⟩,⟨⟨_,_,rfl,rfl,.refl _⟩,⟨⟨_,_,rfl,rfl,.refl _⟩,⟨⟨_,_,rfl,rfl,.refl _⟩,⟨⟨_,_,rfl,rfl,.refl _⟩,⟨⟨_,_,rfl,rfl,.refl _⟩,⟨⟨_,_,rfl,rfl,.refl _⟩,⟨⟨_,_,rfl,rfl,.refl _⟩,trivial⟩⟩⟩⟩⟩⟩⟩⟩,Option.some.inj e115⟩)
   have e115:=bif_f h127 e115
   refine PC.noop ?_
   exact PC.skip (blockJK.end ⟨v208,v277,v297,Weak.mk [0,1,2,3,4,5] [] 0 rfl rfl rfl ⟨⟨_,_,rfl,rfl,rfl,(LessL.refl _)⟩,⟨⟨_,_,rfl,rfl,rfl,(LessL.refl _)⟩,⟨⟨_,_,rfl,rfl,rfl,(LessL.refl _)⟩,⟨⟨_,_,rfl,rfl,rfl,(LessL.refl _)⟩,⟨⟨_,_,rfl,rfl,uTo rfl,LessL.refl _⟩,⟨⟨_,_,rfl,rfl,uTo1 v297 rfl,(LessL.refl _)⟩,trivial⟩⟩⟩⟩⟩⟩ ⟨⟨_,_,rfl,rfl,.refl _⟩,⟨⟨_,_,rfl,rfl,.refl _⟩,⟨⟨_,_,rfl,rfl,.refl _⟩,⟨⟨_,_,rfl,rfl,.refl _⟩,⟨⟨_,_,rfl,rfl,.refl _⟩,⟨⟨_,_,rfl,rfl,.refl _⟩,⟨⟨_,_,rfl,gp_to rfl rfl,.refl _⟩,⟨⟨_,_,rfl,rfl,.refl _⟩,trivial⟩⟩⟩⟩⟩⟩⟩⟩,Option.some.inj e115⟩)
  rintro _ ⟨v253,v254,v274,w128,rfl⟩
  refine PC.weak w128 ?_
  refine PC.lone ?_
  refine PC.region ?_
  refine oT 2 [(0,vP 0),(8,.val (.slice none 0 0)),(9,vP 1),(10,vP 2),(11,.fn 26 [] []),(12,vP 3),(15,gpO 5 4 19 v253 0),(127,vI 4)] [⟨0,(cGMeter r61.2)⟩,⟨0,[vI 0,vI 0,vI 0]⟩,⟨0,[vI 0,vI 0]⟩,⟨0,[vP 0,.list 13 (List.map cGItem v49) none,vI v50,vI v51,.list 1 (List.map cI_i64 v52) none,.sl 4 0 (Int.toNat (r24.1.length:Int)) (Int.toNat (r24.1.length:Int))]⟩,⟨76,(flatU (cGstate 4) v254)⟩,⟨0,(cGstate 4 v274)⟩] [] (by kernel_rfl) ?_
  refine PO.nil ?_
  refine PC.skip (loop1P.end ?_)
  refine PC.loop1 ?_
  refine PC.region ?_
  refine oT 1 [(0,vP 0),(8,.val (.slice none 0 0)),(9,vP 1),(10,vP 2),(11,.fn 26 [] []),(12,vP 3),(15,gpO 5 4 19 v253 0),(127,vI 4),(128,vB false)] [⟨0,(cGMeter r61.2)⟩,⟨0,[vI 0,vI 0,vI 0]⟩,⟨0,[vI 0,vI 0]⟩,⟨0,[vP 0,.list 13 (List.map cGItem v49) none,vI v50,vI v51,.list 1 (List.map cI_i64 v52) none,.sl 4 0 (Int.toNat (r24.1.length:Int)) (Int.toNat (r24.1.length:Int))]⟩,⟨76,(flatU (cGstate 4) v254)⟩,⟨0,(cGstate 4 v274)⟩] [] (by kernel_rfl) ?_
  refine PO.nil ?_
  refine PC.cond rfl (λ h129=>Bool.noConfusion h129) (λ _=>?_)
  exact PC.exit (loop1P.exit (blockJK.here ⟨v253,v254,v274,Weak.mk [0,1,2,4,5] [] 0 rfl rfl rfl ⟨⟨_,_,rfl,rfl,rfl,(LessL.refl _)⟩,⟨⟨_,_,rfl,rfl,rfl,(LessL.refl _)⟩,⟨⟨_,_,rfl,rfl,rfl,(LessL.refl _)⟩,⟨⟨_,_,rfl,rfl,uTo rfl,LessL.refl _⟩,⟨⟨_,_,rfl,rfl,uTo1 v274 rfl,(LessL.refl _)⟩,trivial⟩⟩⟩⟩⟩ ⟨⟨_,_,rfl,rfl,.refl _⟩,⟨⟨_,_,rfl,rfl,.refl _⟩,⟨⟨_,_,rfl,rfl,.refl _⟩,⟨⟨_,_,rfl,rfl,.refl _⟩,⟨⟨_,_,rfl,rfl,.refl _⟩,⟨⟨_,_,rfl,gp_to rfl rfl,.refl _⟩,trivial⟩⟩⟩⟩⟩⟩,Option.some.inj e64⟩))
 rintro _ ⟨v96,v97,v117,w130,rfl⟩
 refine PC.weak w130 ?_
 refine PC.run (n:=2) rfl ?_
 refine PC.assoc ?_
 refine PC.run (n:=3) rfl ?_
 refine bindK hF (λ x131 e132 hF=>?_)
 refine PC.blockJ (λ s=>∃ (v298:List Int),Weak s (PS.of 192 [(0,vP 0),(8,.val (.slice none 0 0)),(9,vP 1),(10,vP 2),(11,.fn 26 [] []),(15,gpO 4 3 19 v96 0),(18,.list 1 (List.map cI_i64 v298) (some 0))] [⟨0,(cGMeter r61.2)⟩,⟨0,[vI 0,vI 0,vI 0]⟩,⟨0,[vI 0,vI 0]⟩,⟨76,(flatU (cGstate 3) v97)⟩,⟨0,(cGstate 3 v117)⟩] [v298.length] 1 0)/\v298=x131) ?_ ?_
 ·refine PC.weak (s':=PS.of 192 [(0,vP 0),(8,.val (.slice none 0 0)),(9,vP 1),(10,vP 2),(11,.fn 26 [] []),(15,gpO 4 3 19 v96 0),(18,.list 1 (List.map cI_i64 ([] : List Int)) (some 0)),(19,gpO 4 3 19 v96 0)] [⟨0,(cGMeter r61.2)⟩,⟨0,[vI 0,vI 0,vI 0]⟩,⟨0,[vI 0,vI 0]⟩,⟨76,(flatU (cGstate 3) v97)⟩,⟨0,(cGstate 3 v117)⟩] [0] 1 0) (Weak.mk [0,1,2,3,4] [] 1 rfl rfl rfl ⟨⟨_,_,rfl,rfl,rfl,(LessL.refl _)⟩,⟨⟨_,_,rfl,rfl,rfl,(LessL.refl _)⟩,⟨⟨_,_,rfl,rfl,rfl,(LessL.refl _)⟩,⟨⟨_,_,rfl,rfl,uTo rfl,LessL.refl _⟩,⟨⟨_,_,rfl,rfl,uTo1 v117 rfl,(LessL.refl _)⟩,trivial⟩⟩⟩⟩⟩ ⟨⟨_,_,rfl,rfl,.refl _⟩,⟨⟨_,_,rfl,rfl,.refl _⟩,⟨⟨_,_,rfl,rfl,.refl _⟩,⟨⟨_,_,rfl,rfl,.refl _⟩,⟨⟨_,_,rfl,rfl,.refl _⟩,⟨⟨_,_,rfl,gp_to rfl rfl,.refl _⟩,⟨⟨_,_,rfl,rfl,.nilt 1 0 rfl rfl⟩,⟨⟨_,_,rfl,gp_to rfl rfl,.refl _⟩,trivial⟩⟩⟩⟩⟩⟩⟩⟩) ?_
  refine PC.loop (λ j133 s=>∃ (v301:List Int) (v302:Option (Option Nat)),Weak s (PS.of 192 [(0,vP 0),(8,.val (.slice none 0 0)),(9,vP 1),(10,vP 2),(11,.fn 26 [] []),(15,gpO 4 3 19 v96 0),(18,.list 1 (List.map cI_i64 v301) (some 0)),(19,gpO 4 3 19 v302 0)] [⟨0,(cGMeter r61.2)⟩,⟨0,[vI 0,vI 0,vI 0]⟩,⟨0,[vI 0,vI 0]⟩,⟨76,(flatU (cGstate 3) v97)⟩,⟨0,(cGstate 3 v117)⟩] [v301.length] 1 0)/\F11_l3 k v97 v117 j133 v301 v302=some x131) (λ j133 s=>?_) k ⟨([] : List Int),v96,Weak.mk [0,1,2,3,4] [0] 0 rfl rfl rfl ⟨⟨_,_,rfl,rfl,rfl,(LessL.refl _)⟩,⟨⟨_,_,rfl,rfl,rfl,(LessL.refl _)⟩,⟨⟨_,_,rfl,rfl,rfl,(LessL.refl _)⟩,⟨⟨_,_,rfl,rfl,uTo rfl,LessL.refl _⟩,⟨⟨_,_,rfl,rfl,uTo1 v117 rfl,(LessL.refl _)⟩,trivial⟩⟩⟩⟩⟩ ⟨⟨_,_,rfl,rfl,.refl _⟩,⟨⟨_,_,rfl,rfl,.refl _⟩,⟨⟨_,_,rfl,rfl,.refl _⟩,⟨⟨_,_,rfl,rfl,.refl _⟩,⟨⟨_,_,rfl,rfl,.refl _⟩,⟨⟨_,_,rfl,gp_to rfl rfl,.refl _⟩,⟨⟨_,_,rfl,rfl,.refl _⟩,⟨⟨_,_,rfl,gp_to rfl rfl,.refl _⟩,trivial⟩⟩⟩⟩⟩⟩⟩⟩,e132⟩
  rintro⟨v301,v302,w134,e132⟩
  refine PC.weak w134 ?_
  obtain _ | j133:=j133
  · rw[F11_l3] at e132; cases e132
  rw[F11_l3] at e132
  refine PC.assoc ?_
  refine PC.region ?_
  refine PO.run 1 rfl ?_
  refine PO.same rfl (neNilG_ok Try.underlying73 rfl rfl (by kernel_rfl)) rfl ?_
  refine PO.nil ?_
  refine PC.cond rfl (λ h135=>?_) (λ h135=>?_)
  ·have e132:=bif_t h135 e132
   refine PC.noop ?_
   refine PC.block ?_
   refine PC.lone ?_
   refine PC.region ?_
   refine PO.run 2 rfl ?_
   refine bindGK e132 (λ y305 h136 e132=>?_)
   refine PO.same rfl (nilG_ok rfl (getG_some h136)) rfl ?_
   refine PO.same rfl (fieldG_ok (o':=4) rfl (getG_some h136) (λ _ _=>rfl)) rfl ?_
   refine PO.same rfl (fieldG_ok (o':=2) rfl (getG_some h136) (λ _ _=>rfl)) rfl ?_
   refine PO.same rfl (load_of rfl (pLoad_g (q:=vI y305.line_Break) (z:=v117) cU rfl rfl h136 rfl)) rfl ?_
   refine oT 1 [(0,vP 0),(8,.val (.slice none 0 0)),(9,vP 1),(10,vP 2),(11,.fn 26 [] []),(15,gpO 4 3 19 v96 0),(18,.list 1 (List.map cI_i64 v301) (some 0)),(19,gpO 4 3 19 v302 0),(161,.list 1 (List.map cI_i64 v301) (some 0)),(167,.list 1 (List.map cI_i64 ([y305.line_Break])) (some 1))] [⟨0,(cGMeter r61.2)⟩,⟨0,[vI 0,vI 0,vI 0]⟩,⟨0,[vI 0,vI 0]⟩,⟨76,(flatU (cGstate 3) v97)⟩,⟨0,(cGstate 3 v117)⟩] [v301.length,1] (by kernel_rfl) ?_
   refine bindAK e132 (λ h137 e132=>?_)
   generalize hgl306:v301++([y305.line_Break])=l306 at e132
   refine PO.one rfl (append_typed (L:=v301) (M:=[y305.line_Break]) (f:=cI_i64) (sz:=1) (bytes:=8) Try.underlying34 rfl rfl rfl rfl rfl rfl rfl rfl rfl rfl rfl rfl h137 hgl306) rfl ?_
   refine PO.run 1 rfl ?_
   refine PO.nil ?_
   refine PC.skip (blockKP.end ?_)
   refine PC.lone ?_
   refine PC.region ?_
   refine PO.run 1 rfl ?_
   refine bindGK e132 (λ y307 h138 e132=>?_)
   refine PO.same rfl (nilG_ok rfl (getG_some h138)) rfl ?_
   refine PO.same rfl (fieldG_ok (o':=18) rfl (getG_some h138) (λ _ _=>rfl)) rfl ?_
   refine PO.same rfl (load_of rfl (pLoad_g (q:=gpO 4 3 19 (Option.map some y307.ahead) 0) (z:=v117) cU rfl rfl h138 (by rw[gp_l 4 3]; rfl))) rfl ?_
   refine PO.run 1 rfl ?_
   refine PO.nil ?_
   exact PC.skip (loopKP.mk (Nat.lt_succ_self _) ⟨l306,Option.map some y307.ahead,Weak.mk [0,1,2,3,4] [0] 0 rfl rfl rfl ⟨⟨_,_,rfl,rfl,rfl,(LessL.refl _)⟩,⟨⟨_,_,rfl,rfl,rfl,(LessL.refl _)⟩,⟨⟨_,_,rfl,rfl,rfl,(LessL.refl _)⟩,⟨⟨_,_,rfl,rfl,uTo rfl,LessL.refl _⟩,⟨⟨_,_,rfl,rfl,uTo1 v117 rfl,(LessL.refl _)⟩,trivial⟩⟩⟩⟩⟩ ⟨⟨_,_,rfl,rfl,.refl _⟩,⟨⟨_,_,rfl,rfl,.refl _⟩,⟨⟨_,_,rfl,rfl,.refl _⟩,⟨⟨_,_,rfl,rfl,.refl _⟩,⟨⟨_,_,rfl,rfl,.refl _⟩,⟨⟨_,_,rfl,gp_to rfl rfl,.refl _⟩,⟨⟨_,_,rfl,rfl,.refl _⟩,⟨⟨_,_,rfl,gp_to rfl rfl,.refl _⟩,trivial⟩⟩⟩⟩⟩⟩⟩⟩,e132⟩)
  have e132:=bif_f h135 e132
  exact PC.exit (loopKP.exit (blockJK.here ⟨v301,Weak.mk [0,1,2,3,4] [0] 0 rfl rfl rfl ⟨⟨_,_,rfl,rfl,rfl,(LessL.refl _)⟩,⟨⟨_,_,rfl,rfl,rfl,(LessL.refl _)⟩,⟨⟨_,_,rfl,rfl,rfl,(LessL.refl _)⟩,⟨⟨_,_,rfl,rfl,uTo rfl,LessL.refl _⟩,⟨⟨_,_,rfl,rfl,uTo1 v117 rfl,(LessL.refl _)⟩,trivial⟩⟩⟩⟩⟩ ⟨⟨_,_,rfl,rfl,.refl _⟩,⟨⟨_,_,rfl,rfl,.refl _⟩,⟨⟨_,_,rfl,rfl,.refl _⟩,⟨⟨_,_,rfl,rfl,.refl _⟩,⟨⟨_,_,rfl,rfl,.refl _⟩,⟨⟨_,_,rfl,gp_to rfl rfl,.refl _⟩,⟨⟨_,_,rfl,rfl,.refl _⟩,trivial⟩⟩⟩⟩⟩⟩⟩,Option.some.inj e132⟩))
 rintro _ ⟨v298,w139,rfl⟩
 refine PC.weak w139 ?_
 refine PC.region ?_
 refine PO.weak (s':=PS.of 192 [(0,vP 0),(8,.val (.slice none 0 0)),(9,vP 1),(10,vP 2),(11,.fn 26 [] []),(15,gpO 4 3 19 v96 0),(18,.list 1 (List.map cI_i64 v298) (some 0))] [⟨0,(cGMeter r61.2)⟩,⟨0,[vI 0,vI 0,vI 0]⟩,⟨0,[vI 0,vI 0]⟩,⟨76,(flatU (cGstate 3) v97)⟩,⟨0,(cGstate 3 v117)⟩] [v298.length] 1 0) (Weak.mk [0,1,2,3,4] [0] 0 rfl rfl rfl ⟨⟨_,_,rfl,rfl,rfl,(LessL.refl _)⟩,⟨⟨_,_,rfl,rfl,rfl,(LessL.refl _)⟩,⟨⟨_,_,rfl,rfl,rfl,(LessL.refl _)⟩,⟨⟨_,_,rfl,rfl,uTo rfl,LessL.refl _⟩,⟨⟨_,_,rfl,rfl,uTo1 v117 rfl,(LessL.refl _)⟩,trivial⟩⟩⟩⟩⟩ ⟨⟨_,_,rfl,rfl,.refl _⟩,⟨⟨_,_,rfl,rfl,.refl _⟩,⟨⟨_,_,rfl,rfl,.refl _⟩,⟨⟨_,_,rfl,rfl,.refl _⟩,⟨⟨_,_,rfl,rfl,.refl _⟩,⟨⟨_,_,rfl,gp_to rfl rfl,.refl _⟩,⟨⟨_,_,rfl,rfl,.refl _⟩,trivial⟩⟩⟩⟩⟩⟩⟩) ?_
 refine bindRevK hF (λ h140 hF=>?_)
 generalize hgl308:List.reverse v298=l308 at hF
 refine PO.turn (L:=v298) (t:=0) (tk':=[l308.length]) [(0,vP 0),(8,.val (.slice none 0 0)),(9,vP 1),(10,vP 2),(11,.fn 26 [] []),(15,gpO 4 3 19 v96 0)] hgl308 rfl rfl rfl rfl rfl rfl ⟨rfl,rfl⟩ rev_own h140 rev_nil (all2 (⟨by kernel_rfl,.ptr _ _,rfl,rfl⟩) (all2 (⟨by kernel_rfl,.val _,rfl,rfl⟩) (all2 (⟨by kernel_rfl,.ptr _ _,rfl,rfl⟩) (all2 (⟨by kernel_rfl,.ptr _ _,rfl,rfl⟩) (all2 (⟨by kernel_rfl,.fn all1 all1,rfl,rfl⟩) (all2 (⟨by kernel_rfl,ap_gp,rfl,rfl⟩) all1)))))) (all2 (all2 (.val _) (all2 (.val _) (all2 (.val _) (all2 (.val _) (all2 (.val _) (all2 (.val _) (all2 (.val _) all1))))))) (all2 (all2 (.val _) (all2 (.val _) (all2 (.val _) all1))) (all2 (all2 (.val _) (all2 (.val _) all1)) (all2 (ap_flat uAp _) (all2 (uAp v117) all1))))) rfl ?_
 refine PO.weak (s':=PS.of 192 [(0,vP 0),(8,.val (.slice none 0 0)),(9,vP 1),(10,vP 2),(11,.fn 26 [] []),(15,gpO 4 3 19 v96 0),(18,.list 1 (List.map cI_i64 l308) (some 0))] [⟨0,(cGMeter r61.2)⟩,⟨0,[vI 0,vI 0,vI 0]⟩,⟨0,[vI 0,vI 0]⟩,⟨76,(flatU (cGstate 3) v97)⟩,⟨0,(cGstate 3 v117)⟩] [l308.length] 1 0) (Weak.mk [0,1,2,3,4] [0] 0 rfl rfl rfl ⟨⟨_,_,rfl,rfl,rfl,(LessL.refl _)⟩,⟨⟨_,_,rfl,rfl,rfl,(LessL.refl _)⟩,⟨⟨_,_,rfl,rfl,rfl,(LessL.refl _)⟩,⟨⟨_,_,rfl,rfl,uTo rfl,LessL.refl _⟩,⟨⟨_,_,rfl,rfl,uTo1 v117 rfl,(LessL.refl _)⟩,trivial⟩⟩⟩⟩⟩ ⟨⟨_,_,rfl,rfl,.refl _⟩,⟨⟨_,_,rfl,rfl,.refl _⟩,⟨⟨_,_,rfl,rfl,.refl _⟩,⟨⟨_,_,rfl,rfl,.refl _⟩,⟨⟨_,_,rfl,rfl,.refl _⟩,⟨⟨_,_,rfl,gp_to rfl rfl,.refl _⟩,⟨⟨_,_,rfl,rfl,.refl _⟩,trivial⟩⟩⟩⟩⟩⟩⟩) ?_
 refine PO.nil ?_
 refine PC.assoc ?_
 refine PC.region ?_
 refine PO.run 1 rfl ?_
 refine PO.same rfl (len_ok Try.underlying34 rfl (List.length_map _)) rfl ?_
 refine PO.run 1 rfl ?_
 refine PO.nil ?_
 refine bindK hF (λ x141 e142 hF=>?_)
 refine PC.blockJ (λ s=>∃ (v316:GMeter),Weak s (PS.of 192 [(8,.val (.slice none 0 0)),(9,vP 1),(10,vP 2),(15,gpO 4 3 19 v96 0),(18,.list 1 (List.map cI_i64 l308) (some 0))] [⟨0,(cGMeter v316)⟩,⟨0,[vI 0,vI 0,vI 0]⟩,⟨0,[vI 0,vI 0]⟩,⟨76,(flatU (cGstate 3) v97)⟩,⟨0,(cGstate 3 v117)⟩] [l308.length] 1 0)/\.inl v316=x141) ?_ ?_
 ·refine PC.loop (λ j143 s=>∃ (v326:Int) (v334:GMeter),Weak s (PS.of 192 [(0,vP 0),(8,.val (.slice none 0 0)),(9,vP 1),(10,vP 2),(11,.fn 26 [] []),(15,gpO 4 3 19 v96 0),(18,.list 1 (List.map cI_i64 l308) (some 0)),(172,vI (l308.length:Int)),(173,vI v326)] [⟨0,(cGMeter v334)⟩,⟨0,[vI 0,vI 0,vI 0]⟩,⟨0,[vI 0,vI 0]⟩,⟨76,(flatU (cGstate 3) v97)⟩,⟨0,(cGstate 3 v117)⟩] [l308.length] 1 0)/\F11_l4 k l308 j143 v326 v334=some x141) (λ j143 s=>?_) k ⟨0,r61.2,Weak.mk [0,1,2,3,4] [0] 0 rfl rfl rfl ⟨⟨_,_,rfl,rfl,rfl,(LessL.refl _)⟩,⟨⟨_,_,rfl,rfl,rfl,(LessL.refl _)⟩,⟨⟨_,_,rfl,rfl,rfl,(LessL.refl _)⟩,⟨⟨_,_,rfl,rfl,uTo rfl,LessL.refl _⟩,⟨⟨_,_,rfl,rfl,uTo1 v117 rfl,(LessL.refl _)⟩,trivial⟩⟩⟩⟩⟩ ⟨⟨_,_,rfl,rfl,.refl _⟩,⟨⟨_,_,rfl,rfl,.refl _⟩,⟨⟨_,_,rfl,rfl,.refl _⟩,⟨⟨_,_,rfl,rfl,.refl _⟩,⟨⟨_,_,rfl,rfl,.refl _⟩,⟨⟨_,_,rfl,gp_to rfl rfl,.refl _⟩,⟨⟨_,_,rfl,rfl,.refl _⟩,⟨⟨_,_,rfl,rfl,.refl _⟩,⟨⟨_,_,rfl,rfl,.refl _⟩,trivial⟩⟩⟩⟩⟩⟩⟩⟩⟩,e142⟩
  rintro⟨v326,v334,w144,e142⟩
  refine PC.weak w144 ?_
  obtain _ | j143:=j143
  · rw[F11_l4] at e142; cases e142
  rw[F11_l4] at e142
  refine PC.run (n:=2) rfl ?_
  refine PC.cond rfl (λ h145=>?_) (λ h145=>?_)
  ·have e142:=bif_t h145 e142
   refine PC.noop ?_
   refine PC.block ?_
   refine PC.region ?_
   refine PO.run 1 rfl ?_
   refine bindK e142 (λ r146 e147 e142=>?_)
   refine PO.call rfl rfl rfl rfl (ks:=[0]) (ts:=[]) (fr1:=[⟨0,(cGMeter v334)⟩]) rfl rfl rfl ⟨⟨_,rfl,rfl,rfl⟩,trivial⟩ (L28 k v334 1 _ e147) ?_
   rintro _ _ _ ⟨rfl,rfl,rfl⟩
   refine⟨_,_,rfl,rfl,?_⟩
   refine PO.run 1 rfl ?_
   refine PO.nil ?_
   refine PC.lone ?_
   refine PC.cond rfl (λ h148=>?_) (λ h148=>?_)
   ·have e142:=bif_t h148 e142
    refine PC.assoc ?_
    refine PC.region ?_
    refine PO.run 2 rfl ?_
    refine bindK e142 (λ r149 e150 e142=>?_)
    refine PO.call rfl rfl rfl rfl (ks:=[0]) (ts:=[]) (fr1:=[⟨0,(cGMeter r146.2)⟩]) rfl rfl rfl ⟨⟨_,rfl,rfl,rfl⟩,trivial⟩ (L29 k r146.2 _ e150) ?_
    rintro _ _ _ ⟨rfl,rfl,rfl⟩
    refine⟨_,_,rfl,rfl,?_⟩
    refine oT 0 [(0,vP 0),(8,.val (.slice none 0 0)),(9,vP 1),(10,vP 2),(11,.fn 26 [] []),(15,gpO 4 3 19 v96 0),(18,.list 1 (List.map cI_i64 l308) (some 0)),(172,vI (l308.length:Int)),(173,vI v326),(178,.fn 26 [] []),(180,vI r149.1)] [⟨0,(cGMeter r149.2)⟩,⟨0,[vI 0,vI 0,vI 0]⟩,⟨0,[vI 0,vI 0]⟩,⟨76,(flatU (cGstate 3) v97)⟩,⟨0,(cGstate 3 v117)⟩] [l308.length] (by kernel_rfl) ?_
    refine bindK e142 (λ r151 e152 e142=>?_)
    refine PO.callv rfl rfl rfl rfl rfl (ks:=[]) (ts:=[]) (fr1:=[]) rfl rfl rfl trivial (L26 k r149.1 0 _ e152) ?_
    rintro _ _ _ ⟨rfl,rfl,rfl⟩
    refine⟨_,_,rfl,rfl,?_⟩
    refine oT 6 [(0,vP 0),(8,.list 1 (List.map cI_i64 r151.1) none),(9,vP 1),(10,vP 2),(11,.fn 26 [] []),(15,gpO 4 3 19 v96 0),(18,.list 1 (List.map cI_i64 l308) (some 0)),(172,vI (l308.length:Int)),(173,vI v326)] [⟨0,(cGMeter r149.2)⟩,⟨0,(cGCost r151.2.1)⟩,⟨0,(cGFault r151.2.2)⟩,⟨76,(flatU (cGstate 3) v97)⟩,⟨0,(cGstate 3 v117)⟩] [l308.length] (by kernel_rfl) ?_
    refine PO.nil ?_
    have hq:=Option.some.inj e142
    subst hq
    have hq:=Option.some.inj hF
    subst hq
    exact PC.ret (blockKP.back (loopKP.ret (blockJK.back (retSK [0] [] (by kernel_rfl) (.refl _) ⟨rfl,rfl,rfl⟩))))
   have e142:=bif_f h148 e142
   refine PC.noop ?_
   refine PC.skip (blockKP.end ?_)
   refine PC.lone ?_
   refine PC.run (n:=3) rfl ?_
   exact PC.skip (loopKP.mk (Nat.lt_succ_self _) ⟨w (v326+1),r146.2,Weak.mk [0,1,2,3,4] [0] 0 rfl rfl rfl ⟨⟨_,_,rfl,rfl,rfl,(LessL.refl _)⟩,⟨⟨_,_,rfl,rfl,rfl,(LessL.refl _)⟩,⟨⟨_,_,rfl,rfl,rfl,(LessL.refl _)⟩,⟨⟨_,_,rfl,rfl,uTo rfl,LessL.refl _⟩,⟨⟨_,_,rfl,rfl,uTo1 v117 rfl,(LessL.refl _)⟩,trivial⟩⟩⟩⟩⟩ ⟨⟨_,_,rfl,rfl,.refl _⟩,⟨⟨_,_,rfl,rfl,.refl _⟩,⟨⟨_,_,rfl,rfl,.refl _⟩,⟨⟨_,_,rfl,rfl,.refl _⟩,⟨⟨_,_,rfl,rfl,.refl _⟩,⟨⟨_,_,rfl,gp_to rfl rfl,.refl _⟩,⟨⟨_,_,rfl,rfl,.refl _⟩,⟨⟨_,_,rfl,rfl,.refl _⟩,⟨⟨_,_,rfl,rfl,.refl _⟩,trivial⟩⟩⟩⟩⟩⟩⟩⟩⟩,e142⟩)
  have e142:=bif_f h145 e142
  exact PC.exit (loopKP.exit (blockJK.here ⟨v334,Weak.mk [0,1,2,3,4] [0] 0 rfl rfl rfl ⟨⟨_,_,rfl,rfl,rfl,(LessL.refl _)⟩,⟨⟨_,_,rfl,rfl,rfl,(LessL.refl _)⟩,⟨⟨_,_,rfl,rfl,rfl,(LessL.refl _)⟩,⟨⟨_,_,rfl,rfl,uTo rfl,LessL.refl _⟩,⟨⟨_,_,rfl,rfl,uTo1 v117 rfl,(LessL.refl _)⟩,trivial⟩⟩⟩⟩⟩ ⟨⟨_,_,rfl,rfl,.refl _⟩,⟨⟨_,_,rfl,rfl,.refl _⟩,⟨⟨_,_,rfl,rfl,.refl _⟩,⟨⟨_,_,rfl,gp_to rfl rfl,.refl _⟩,⟨⟨_,_,rfl,rfl,.refl _⟩,trivial⟩⟩⟩⟩⟩,Option.some.inj e142⟩))
 rintro _ ⟨v316,w153,rfl⟩
 refine PC.weak w153 ?_
 have hF:=elim_l hF
 refine PC.drawn (order:=[0,1,2,3,4,6,7,5,8]) (by kernel_rfl) ?_
 refine PO.run 2 rfl ?_
 refine bindGK hF (λ y344 h154 hF=>?_)
 refine PO.same rfl (nilG_ok rfl (getG_some h154)) rfl ?_
 refine PO.same rfl (fieldG_ok (o':=1) rfl (getG_some h154) (λ _ _=>rfl)) rfl ?_
 refine PO.same rfl (load_of rfl (pLoad_g (q:=.agg [vI y344.cost_Bad,vI y344.cost_Total,vI y344.cost_Lines]) (z:=v117) cU rfl rfl h154 rfl)) rfl ?_
 refine oT 4 [(8,.list 1 (List.map cI_i64 l308) (some 0)),(9,vP 1),(10,vP 2)] [⟨0,(cGMeter v316)⟩,⟨0,[vI y344.cost_Bad,vI y344.cost_Total,vI y344.cost_Lines]⟩,⟨0,[vI 0,vI 0]⟩,⟨76,(flatU (cGstate 3) v97)⟩,⟨0,(cGstate 3 v117)⟩] [l308.length] (by kernel_rfl) ?_
 refine PO.nil ?_
 have hq:=Option.some.inj hF
 subst hq
 exact PC.ret' (retSK [0] [] (by kernel_rfl) (.refl _) ⟨rfl,rfl,rfl⟩)
end
end Go.Eng.Lift
