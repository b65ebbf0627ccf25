import Derived.Test.YtdehaeillolhbaaM30
import Derived.Test.YtdehaeillolhbaaX8c
import Derived.Test.YtdehaeillolhbaaProg
import Derived.KernelRfl
set_option maxRecDepth 100000
set_option maxHeartbeats 4000000
namespace Go.Eng.Lift
open Go.Proofs
noncomputable section
/-! 50 platen/line.way -/
def F50_l1 (k:Nat) (a0:List GItem) (a1:List Int):Nat->Int->Int->Option ((Int) ⊕ (Bool))
  | 0,_,_=>none
  | j3+1,v4,v5=>
    bif decide (v5 < (a1.length:Int)) then(bindI a1 v5 λ y8=>
    Option.bind (α:=Bool) (bif decide (y8<=v4) then(some true) else(Option.bind (α:=Bool) (bif decide (y8>=(a0.length:Int)) then(some true) else((F71 k a0 y8).bind λ r14=>
    Option.bind (α:=Bool) (bif !r14 then(some true) else(bindS a0 (w (v4+1)) y8 λ l12=>
    (F74_75 k l12).bind λ r22=>
    some r22)) λ(v11:Bool)=>
    some v11)) λ(v10:Bool)=>
    some v10)) λ(v9:Bool)=>
    bif v9 then(some (.inr false)) else(F50_l1 k a0 a1 j3 y8 (w (v5+1)))) else(some (.inl v4))
def F50 (k:Nat) (a0:List GItem) (a1:List Int):Option Bool:=
Option.bind (α:=(Int) ⊕ (Bool)) (F50_l1 k a0 a1 k (-1) 0) (Sum.elim (λ(v1:Int)=>
bindS a0 (w (v1+1)) (a0.length:Int) λ l13=>
(F74_75 k l13).bind λ r32=>
some (!r32)) some)
theorem L50 (k:Nat) (a0:List GItem) (a1:List Int) (r:Bool) (hF:F50 k a0 a1=some r):PF Try.prog orc 50 [.list 13 (List.map cGItem a0) none,.list 1 (List.map cI_i64 a1) none] [] [] (λ p fr tk=>p=vB r/\fr=[]/\tk=[]):=by
 unfold F50 at hF
 refine PF.enterS Try.func50 rfl rfl rfl (by kernel_rfl) rfl ?_
 refine PC.run (n:=2) rfl ?_
 refine PC.run (n:=2) rfl ?_
 refine PC.assoc ?_
 refine PC.region ?_
 refine PO.run 1 rfl ?_
 refine PO.same rfl (len_ok Try.underlying34 rfl (List.length_map _)) rfl ?_
 refine PO.run 1 rfl ?_
 refine PO.nil ?_
 refine bindK hF (λ x1 e2 hF=>?_)
 refine PC.blockJ (λ s=>∃ (v1:Int),Weak s (PS.of 45 [(0,.list 13 (List.map cGItem a0) none),(4,vB false),(5,vI v1)] [] [] 0 0)/\.inl v1=x1) ?_ ?_
 ·refine PC.loop (λ j3 s=>∃ (v4:Int) (v5:Int),Weak s (PS.of 45 [(0,.list 13 (List.map cGItem a0) none),(4,vB false),(5,vI v4),(8,.list 1 (List.map cI_i64 a1) none),(9,vI (a1.length:Int)),(10,vI v5)] [] [] 0 0)/\F50_l1 k a0 a1 j3 v4 v5=some x1) (λ j3 s=>?_) k ⟨(-1),0,Weak.one [] [] (by kernel_rfl),e2⟩
  rintro⟨v4,v5,w4,e2⟩
  refine PC.weak w4 ?_
  obtain _ | j3:=j3
  · rw[F50_l1] at e2; cases e2
  rw[F50_l1] at e2
  refine PC.run (n:=2) rfl ?_
  refine PC.cond rfl (λ h5=>?_) (λ h5=>?_)
  ·have e2:=bif_t h5 e2
   refine PC.noop ?_
   refine PC.block ?_
   refine PC.region ?_
   refine bindIK e2 (λ y8 h6 h7 e2=>?_)
   refine PO.same rfl (indexAddr_ok Try.underlying34 rfl rfl rfl h6 (map_at h7)) rfl ?_
   refine PO.run 2 rfl ?_
   refine PO.nil ?_
   refine PC.assoc ?_
   refine PC.region ?_
   refine PO.run 4 rfl ?_
   refine bindK e2 (λ x8 e9 e2=>?_)
   refine PO.cut 19 (λ s=>∃ (v9:Bool),Weak s (PS.of 45 [(0,.list 13 (List.map cGItem a0) none),(4,vB false),(5,vI v4),(7,vI y8),(8,.list 1 (List.map cI_i64 a1) none),(9,vI (a1.length:Int)),(10,vI v5),(36,vB v9)] [] [] 0 0)/\v9=x8) ?_ ?_
   ·refine PO.case (t:=17) rfl rfl (λ h10=>?_) (λ h10=>?_)
    ·have e9:=bif_t h10 e9
     refine PO.run 4 rfl ?_
     refine PO.same rfl (pickT_ok rfl rfl rfl) rfl ?_
     refine PO.run 5 rfl ?_
     refine PO.same rfl (pickT_ok rfl rfl rfl) rfl ?_
     refine PO.run 7 rfl ?_
     refine PO.same rfl (pickT_ok rfl rfl rfl) rfl ?_
     refine PO.nil ?_
     exact⟨true,Weak.one [] [] (by kernel_rfl),Option.some.inj e9⟩
    have e9:=bif_f h10 e9
    refine PO.run 2 rfl ?_
    refine PO.same rfl (len_ok Try.underlying22 rfl (List.length_map _)) rfl ?_
    refine PO.run 1 rfl ?_
    refine PO.same rfl (pickF_ok rfl rfl rfl) rfl ?_
    refine PO.run 1 rfl ?_
    refine bindK e9 (λ x11 e12 e9=>?_)
    refine PO.cut 13 (λ s=>∃ (v10:Bool),Weak s (PS.of 45 [(0,.list 13 (List.map cGItem a0) none),(4,vB false),(5,vI v4),(7,vI y8),(8,.list 1 (List.map cI_i64 a1) none),(9,vI (a1.length:Int)),(10,vI v5),(36,vB v10)] [] [] 0 0)/\v10=x11) ?_ ?_
    ·refine PO.case (t:=23) rfl rfl (λ h13=>?_) (λ h13=>?_)
     ·have e12:=bif_t h13 e12
      refine PO.run 4 rfl ?_
      refine PO.same rfl (pickT_ok rfl rfl rfl) rfl ?_
      refine PO.run 7 rfl ?_
      refine PO.same rfl (pickT_ok rfl rfl rfl) rfl ?_
      refine PO.nil ?_
      exact⟨true,Weak.one [] [] (by kernel_rfl),Option.some.inj e12⟩
     have e12:=bif_f h13 e12
     refine PO.run 2 rfl ?_
     refine bindK e12 (λ r14 e15 e12=>?_)
     refine PO.call rfl rfl rfl rfl (ks:=[]) (ts:=[]) (fr1:=[]) rfl rfl rfl trivial (L71 k a0 y8 _ e15) ?_
     rintro _ _ _ ⟨rfl,rfl,rfl⟩
     refine⟨_,_,rfl,rfl,?_⟩
     refine PO.run 1 rfl ?_
     refine PO.same rfl (pickF_ok rfl rfl rfl) rfl ?_
     refine PO.run 1 rfl ?_
     refine bindK e12 (λ x16 e17 e12=>?_)
     refine PO.cut 7 (λ s=>∃ (v11:Bool),Weak s (PS.of 45 [(0,.list 13 (List.map cGItem a0) none),(4,vB false),(5,vI v4),(7,vI y8),(8,.list 1 (List.map cI_i64 a1) none),(9,vI (a1.length:Int)),(10,vI v5),(36,vB v11)] [] [] 0 0)/\v11=x16) ?_ ?_
     ·refine PO.case (t:=29) rfl rfl (λ h18=>?_) (λ h18=>?_)
      ·have e17:=bif_t h18 e17
       refine PO.run 6 rfl ?_
       refine PO.same rfl (pickT_ok rfl rfl rfl) rfl ?_
       refine PO.nil ?_
       exact⟨true,Weak.one [] [] (by kernel_rfl),Option.some.inj e17⟩
      have e17:=bif_f h18 e17
      refine PO.run 4 rfl ?_
      refine bindSK e17 (λ h19 h20 h21 e17=>?_)
      generalize hgl12:(List.take (Int.toNat y8) a0).drop (Int.toNat (w (v4+1)))=l12 at e17
      refine PO.same rfl (slice_ok (l2:=List.map cGItem l12) Try.underlying22 rfl rfl (.some rfl h19 rfl) (.some rfl (Int.le_trans h19 h20) rfl) (Int.toNat_le_toNat h20) (toNat_le1 h21) (by rw[<- hgl12,List.map_drop,List.map_take] <;> first | rfl | simp[w])) rfl ?_
      refine bindK e17 (λ r22 e23 e17=>?_)
      refine PO.call rfl rfl rfl rfl (ks:=[]) (ts:=[]) (fr1:=[]) rfl rfl rfl trivial (L74_75 k l12 _ e23) ?_
      rintro _ _ _ ⟨rfl,rfl,rfl⟩
      refine⟨_,_,rfl,rfl,?_⟩
      refine PO.same rfl (pickF_ok rfl rfl rfl) rfl ?_
      refine PO.nil ?_
      exact⟨r22,Weak.one [] [] (by kernel_rfl),Option.some.inj e17⟩
     rintro _ ⟨v11,w24,rfl⟩
     refine PO.weak w24 ?_
     refine PO.nil ?_
     exact⟨v11,Weak.one [] [] (by kernel_rfl),Option.some.inj e12⟩
    rintro _ ⟨v10,w25,rfl⟩
    refine PO.weak w25 ?_
    refine PO.nil ?_
    exact⟨v10,Weak.one [] [] (by kernel_rfl),Option.some.inj e9⟩
   rintro _ ⟨v9,w26,rfl⟩
   refine PO.weak w26 ?_
   refine PO.nil ?_
   refine PC.cond rfl (λ h27=>?_) (λ h27=>?_)
   ·have e2:=bif_t h27 e2
    refine PC.assoc ?_
    refine PC.run (n:=2) rfl ?_
    have hq:=Option.some.inj e2
    subst hq
    have hq:=Option.some.inj hF
    subst hq
    exact PC.ret (blockKP.back (loopKP.ret (blockJK.back (retSK [] [] (by kernel_rfl) (.refl _) ⟨rfl,rfl,rfl⟩))))
   have e2:=bif_f h27 e2
   refine PC.noop ?_
   refine PC.lone ?_
   refine PC.run (n:=3) rfl ?_
   refine PC.skip (blockKP.end ?_)
   refine PC.lone ?_
   refine PC.run (n:=3) rfl ?_
   exact PC.skip (loopKP.mk (Nat.lt_succ_self _) ⟨y8,w (v5+1),Weak.one [] [] (by kernel_rfl),e2⟩)
  have e2:=bif_f h5 e2
  exact PC.exit (loopKP.exit (blockJK.here ⟨v4,Weak.one [] [] (by kernel_rfl),Option.some.inj e2⟩))
 rintro _ ⟨v1,w28,rfl⟩
 refine PC.weak w28 ?_
 have hF:=elim_l hF
 refine PC.region ?_
 refine PO.run 3 rfl ?_
 refine bindSK hF (λ h29 h30 h31 hF=>?_)
 generalize hgl13:(List.take (Int.toNat (a0.length:Int)) a0).drop (Int.toNat (w (v1+1)))=l13 at hF
 refine PO.same rfl (slice_ok (l2:=List.map cGItem l13) Try.underlying22 rfl rfl (.some rfl h29 rfl) .none (toNat_le1 h30) (Nat.le_refl _) (by rw[<- hgl13,List.map_drop,List.map_take] <;> first | rfl | simp[w])) rfl ?_
 refine bindK hF (λ r32 e33 hF=>?_)
 refine PO.call rfl rfl rfl rfl (ks:=[]) (ts:=[]) (fr1:=[]) rfl rfl rfl trivial (L74_75 k l13 _ e33) ?_
 rintro _ _ _ ⟨rfl,rfl,rfl⟩
 refine⟨_,_,rfl,rfl,?_⟩
 refine PO.run 2 rfl ?_
 refine PO.nil ?_
 have hq:=Option.some.inj hF
 subst hq
 exact PC.ret' (retSK [] [] (by kernel_rfl) (.refl _) ⟨rfl,rfl,rfl⟩)
def F22_l1 (k:Nat) (a0:List GItem) (a1:Int) (a2:Int) (a3:List Int):Nat->Int->Int->GCost->Int->Int->Int->Int->Int->Int->Int->Int->Int->Bool->Bool->Bool->Int->Int->Option GCost
  | 0,_,_,_,_,_,_,_,_,_,_,_,_,_,_,_,_,_=>none
  | j28+1,v29,v30,v33,v34,v35,v36,v37,v38,v39,v40,v41,v42,v43,v44,v45,v46,v47=>
    bif decide (v30 < (a3.length:Int)) then(bindI a3 v30 λ y68=>
    (F51 k a0 a1 v29 y68).bind λ r33=>
    Option.bind (α:=Bool) (bif r33.over_ then(some true) else(some (decide (r33.bad > a2)))) λ(v69:Bool)=>
    Option.bind (α:=Int) (bif v69 then(some (w (v33.bad+1))) else(some v33.bad)) λ(v70:Int)=>
    (F52 k a0 (GLine.mk v34 v35 v36 v37 v38 v39 v40 v41 v42 v43 v44 v45 v46 v47) r33).bind λ r43=>
    F22_l1 k a0 a1 a2 a3 j28 y68 (w (v30+1)) (GCost.mk v70 (w (v33.total+r43)) v33.lines) r33.first r33.last r33.break_ r33.natural r33.stretch r33.shrink r33.short r33.bad r33.class_ r33.over_ r33.hyphen r33.end_ r33.height r33.depth) else(some v33)
def F22 (k:Nat) (a0:List GItem) (a1:Int) (a2:Int) (a3:List Int):Option (GCost×Int):=
(F21 k a0).bind λ r1=>
Option.bind (α:=Bool) (bif r1 != 0 then(some true) else(Option.bind (α:=Bool) (bif decide (a1 < 1) then(some true) else(Option.bind (α:=Bool) (bif decide (a1 > 536870912) then(some true) else(Option.bind (α:=Bool) (bif decide (a2 < 0) then(some true) else(Option.bind (α:=Bool) (bif decide (a2 > 10000) then(some true) else((F50 k a0 a3).bind λ r18=>
some (!r18))) λ(v5:Bool)=>
some v5)) λ(v4:Bool)=>
some v4)) λ(v3:Bool)=>
some v3)) λ(v2:Bool)=>
some v2)) λ(v1:Bool)=>
bif v1 then(some ((GCost.mk 0 0 0),1)) else(Option.bind (α:=GCost) (F22_l1 k a0 a1 a2 a3 k (-1) 0 (GCost.mk 0 0 (a3.length:Int)) (-1) 0 0 0 0 0 0 0 0 false false false 0 0) λ(v9:GCost)=>
some (v9,0))
theorem L22 (k:Nat) (a0:List GItem) (a1:Int) (a2:Int) (a3:List Int) (r:GCost×Int) (hF:F22 k a0 a1 a2 a3=some r):PF Try.prog orc 22 [.list 13 (List.map cGItem a0) none,vI a1,vI a2,.list 1 (List.map cI_i64 a3) none] [] [] (λ p fr tk=>p=.tup [.agg (cGCost r.1),vI r.2]/\fr=[]/\tk=[]):=by
 unfold F22 at hF
 refine PF.enterS Try.func22 rfl rfl rfl (by kernel_rfl) rfl ?_
 refine PC.region ?_
 refine oK 2 [0] [] [(0,.list 13 (List.map cGItem a0) none),(1,vI a1),(2,vI a2),(3,.list 1 (List.map cI_i64 a3) none),(8,vP 0),(9,vI 0)] [⟨0,[vI 0,vI 0,vI 0]⟩] [] (by kernel_rfl) ?_
 refine PO.nil ?_
 refine PC.assoc ?_
 refine PC.region ?_
 refine PO.run 1 rfl ?_
 refine bindK hF (λ r1 e2 hF=>?_)
 refine PO.call rfl rfl rfl rfl (ks:=[]) (ts:=[]) (fr1:=[]) rfl rfl rfl trivial (L21 k a0 _ e2) ?_
 rintro _ _ _ ⟨rfl,rfl,rfl⟩
 refine⟨_,_,rfl,rfl,?_⟩
 refine PO.run 2 rfl ?_
 refine bindK hF (λ x3 e4 hF=>?_)
 refine PO.cut 21 (λ s=>∃ (v1:Bool),Weak s (PS.of 81 [(0,.list 13 (List.map cGItem a0) none),(1,vI a1),(2,vI a2),(3,.list 1 (List.map cI_i64 a3) none),(8,vP 0),(9,vI 0),(40,vB v1)] [⟨0,[vI 0,vI 0,vI 0]⟩] [] 0 0)/\v1=x3) ?_ ?_
 ·refine PO.case (t:=19) rfl rfl (λ h5=>?_) (λ h5=>?_)
  ·have e4:=bif_t h5 e4
   refine PO.run 2 rfl ?_
   refine PO.same rfl (pickT_ok rfl rfl rfl) rfl ?_
   refine PO.run 3 rfl ?_
   refine PO.same rfl (pickT_ok rfl rfl rfl) rfl ?_
   refine PO.run 3 rfl ?_
   refine PO.same rfl (pickT_ok rfl rfl rfl) rfl ?_
   refine PO.run 3 rfl ?_
   refine PO.same rfl (pickT_ok rfl rfl rfl) rfl ?_
   refine PO.run 5 rfl ?_
   refine PO.same rfl (pickT_ok rfl rfl rfl) rfl ?_
   refine PO.nil ?_
   exact⟨true,Weak.one [0] [] (by kernel_rfl),Option.some.inj e4⟩
  have e4:=bif_f h5 e4
  refine PO.run 2 rfl ?_
  refine PO.same rfl (pickF_ok rfl rfl rfl) rfl ?_
  refine PO.run 1 rfl ?_
  refine bindK e4 (λ x6 e7 e4=>?_)
  refine PO.cut 17 (λ s=>∃ (v2:Bool),Weak s (PS.of 81 [(0,.list 13 (List.map cGItem a0) none),(1,vI a1),(2,vI a2),(3,.list 1 (List.map cI_i64 a3) none),(8,vP 0),(9,vI 0),(40,vB v2)] [⟨0,[vI 0,vI 0,vI 0]⟩] [] 0 0)/\v2=x6) ?_ ?_
  ·refine PO.case (t:=23) rfl rfl (λ h8=>?_) (λ h8=>?_)
   ·have e7:=bif_t h8 e7
    refine PO.run 2 rfl ?_
    refine PO.same rfl (pickT_ok rfl rfl rfl) rfl ?_
    refine PO.run 3 rfl ?_
    refine PO.same rfl (pickT_ok rfl rfl rfl) rfl ?_
    refine PO.run 3 rfl ?_
    refine PO.same rfl (pickT_ok rfl rfl rfl) rfl ?_
    refine PO.run 5 rfl ?_
    refine PO.same rfl (pickT_ok rfl rfl rfl) rfl ?_
    refine PO.nil ?_
    exact⟨true,Weak.one [0] [] (by kernel_rfl),Option.some.inj e7⟩
   have e7:=bif_f h8 e7
   refine PO.run 2 rfl ?_
   refine PO.same rfl (pickF_ok rfl rfl rfl) rfl ?_
   refine PO.run 1 rfl ?_
   refine bindK e7 (λ x9 e10 e7=>?_)
   refine PO.cut 13 (λ s=>∃ (v3:Bool),Weak s (PS.of 81 [(0,.list 13 (List.map cGItem a0) none),(1,vI a1),(2,vI a2),(3,.list 1 (List.map cI_i64 a3) none),(8,vP 0),(9,vI 0),(40,vB v3)] [⟨0,[vI 0,vI 0,vI 0]⟩] [] 0 0)/\v3=x9) ?_ ?_
   ·refine PO.case (t:=27) rfl rfl (λ h11=>?_) (λ h11=>?_)
    ·have e10:=bif_t h11 e10
     refine PO.run 2 rfl ?_
     refine PO.same rfl (pickT_ok rfl rfl rfl) rfl ?_
     refine PO.run 3 rfl ?_
     refine PO.same rfl (pickT_ok rfl rfl rfl) rfl ?_
     refine PO.run 5 rfl ?_
     refine PO.same rfl (pickT_ok rfl rfl rfl) rfl ?_
     refine PO.nil ?_
     exact⟨true,Weak.one [0] [] (by kernel_rfl),Option.some.inj e10⟩
    have e10:=bif_f h11 e10
    refine PO.run 2 rfl ?_
    refine PO.same rfl (pickF_ok rfl rfl rfl) rfl ?_
    refine PO.run 1 rfl ?_
    refine bindK e10 (λ x12 e13 e10=>?_)
    refine PO.cut 9 (λ s=>∃ (v4:Bool),Weak s (PS.of 81 [(0,.list 13 (List.map cGItem a0) none),(1,vI a1),(2,vI a2),(3,.list 1 (List.map cI_i64 a3) none),(8,vP 0),(9,vI 0),(40,vB v4)] [⟨0,[vI 0,vI 0,vI 0]⟩] [] 0 0)/\v4=x12) ?_ ?_
    ·refine PO.case (t:=31) rfl rfl (λ h14=>?_) (λ h14=>?_)
     ·have e13:=bif_t h14 e13
      refine PO.run 2 rfl ?_
      refine PO.same rfl (pickT_ok rfl rfl rfl) rfl ?_
      refine PO.run 5 rfl ?_
      refine PO.same rfl (pickT_ok rfl rfl rfl) rfl ?_
      refine PO.nil ?_
      exact⟨true,Weak.one [0] [] (by kernel_rfl),Option.some.inj e13⟩
     have e13:=bif_f h14 e13
     refine PO.run 2 rfl ?_
     refine PO.same rfl (pickF_ok rfl rfl rfl) rfl ?_
     refine PO.run 1 rfl ?_
     refine bindK e13 (λ x15 e16 e13=>?_)
     refine PO.cut 5 (λ s=>∃ (v5:Bool),Weak s (PS.of 81 [(0,.list 13 (List.map cGItem a0) none),(1,vI a1),(2,vI a2),(3,.list 1 (List.map cI_i64 a3) none),(8,vP 0),(9,vI 0),(40,vB v5)] [⟨0,[vI 0,vI 0,vI 0]⟩] [] 0 0)/\v5=x15) ?_ ?_
     ·refine PO.case (t:=35) rfl rfl (λ h17=>?_) (λ h17=>?_)
      ·have e16:=bif_t h17 e16
       refine PO.run 4 rfl ?_
       refine PO.same rfl (pickT_ok rfl rfl rfl) rfl ?_
       refine PO.nil ?_
       exact⟨true,Weak.one [0] [] (by kernel_rfl),Option.some.inj e16⟩
      have e16:=bif_f h17 e16
      refine PO.run 2 rfl ?_
      refine bindK e16 (λ r18 e19 e16=>?_)
      refine PO.call rfl rfl rfl rfl (ks:=[]) (ts:=[]) (fr1:=[]) rfl rfl rfl trivial (L50 k a0 a3 _ e19) ?_
      rintro _ _ _ ⟨rfl,rfl,rfl⟩
      refine⟨_,_,rfl,rfl,?_⟩
      refine PO.run 1 rfl ?_
      refine PO.same rfl (pickF_ok rfl rfl rfl) rfl ?_
      refine PO.nil ?_
      exact⟨!r18,Weak.one [0] [] (by kernel_rfl),Option.some.inj e16⟩
     rintro _ ⟨v5,w20,rfl⟩
     refine PO.weak w20 ?_
     refine PO.nil ?_
     exact⟨v5,Weak.one [0] [] (by kernel_rfl),Option.some.inj e13⟩
    rintro _ ⟨v4,w21,rfl⟩
    refine PO.weak w21 ?_
    refine PO.nil ?_
    exact⟨v4,Weak.one [0] [] (by kernel_rfl),Option.some.inj e10⟩
   rintro _ ⟨v3,w22,rfl⟩
   refine PO.weak w22 ?_
   refine PO.nil ?_
   exact⟨v3,Weak.one [0] [] (by kernel_rfl),Option.some.inj e7⟩
  rintro _ ⟨v2,w23,rfl⟩
  refine PO.weak w23 ?_
  refine PO.nil ?_
  exact⟨v2,Weak.one [0] [] (by kernel_rfl),Option.some.inj e4⟩
 rintro _ ⟨v1,w24,rfl⟩
 refine PO.weak w24 ?_
 refine PO.nil ?_
 refine PC.cond rfl (λ h25=>?_) (λ h25=>?_)
 ·have hF:=bif_t h25 hF
  refine PC.assoc ?_
  refine PC.region ?_
  refine oK 3 [0] [] [(8,vP 0),(9,vI 1)] [⟨0,[vI 0,vI 0,vI 0]⟩] [] (by kernel_rfl) ?_
  refine PO.nil ?_
  have hq:=Option.some.inj hF
  subst hq
  exact PC.ret (retSK [] [] (by kernel_rfl) (.refl _) ⟨rfl,rfl,rfl⟩)
 have hF:=bif_f h25 hF
 refine PC.noop ?_
 refine PC.region ?_
 refine PO.run 1 rfl ?_
 refine PO.same rfl (len_ok Try.underlying34 rfl (List.length_map _)) rfl ?_
 refine oK 3 [0,1] [] [(0,.list 13 (List.map cGItem a0) none),(1,vI a1),(2,vI a2),(3,.list 1 (List.map cI_i64 a3) none),(8,vP 0),(9,vI 0),(10,vP 1)] [⟨0,[vI 0,vI 0,vI 0]⟩,⟨0,[vI 0,vI 0,vI (a3.length:Int)]⟩] [] (by kernel_rfl) ?_
 refine PO.nil ?_
 refine PC.region ?_
 refine oK 4 [0,1,2] [] [(0,.list 13 (List.map cGItem a0) none),(1,vI a1),(2,vI a2),(3,.list 1 (List.map cI_i64 a3) none),(8,vP 0),(9,vI 0),(10,vP 1),(11,vP 2),(12,vI (-1))] [⟨0,[vI 0,vI 0,vI 0]⟩,⟨0,[vI 0,vI 0,vI (a3.length:Int)]⟩,⟨0,[vI (-1),vI 0,vI 0,vI 0,vI 0,vI 0,vI 0,vI 0,vI 0,vB false,vB false,vB false,vI 0,vI 0]⟩] [] (by kernel_rfl) ?_
 refine PO.nil ?_
 refine PC.assoc ?_
 refine PC.region ?_
 refine PO.run 1 rfl ?_
 refine PO.same rfl (len_ok Try.underlying34 rfl (List.length_map _)) rfl ?_
 refine PO.run 1 rfl ?_
 refine PO.nil ?_
 refine bindK hF (λ x26 e27 hF=>?_)
 refine PC.blockJ (λ s=>∃ (v9:GCost),Weak s (PS.of 81 [(8,vP 0),(9,vI 0),(10,vP 1)] [⟨0,[vI 0,vI 0,vI 0]⟩,⟨0,(cGCost v9)⟩] [] 0 0)/\v9=x26) ?_ ?_
 ·refine PC.loop (λ j28 s=>∃ (v29:Int) (v30:Int) (v33:GCost) (v34:Int) (v35:Int) (v36:Int) (v37:Int) (v38:Int) (v39:Int) (v40:Int) (v41:Int) (v42:Int) (v43:Bool) (v44:Bool) (v45:Bool) (v46:Int) (v47:Int),Weak s (PS.of 81 [(0,.list 13 (List.map cGItem a0) none),(1,vI a1),(2,vI a2),(8,vP 0),(9,vI 0),(10,vP 1),(11,vP 2),(12,vI v29),(46,.list 1 (List.map cI_i64 a3) none),(47,vI (a3.length:Int)),(48,vI v30)] [⟨0,[vI 0,vI 0,vI 0]⟩,⟨0,(cGCost v33)⟩,⟨0,[vI v34,vI v35,vI v36,vI v37,vI v38,vI v39,vI v40,vI v41,vI v42,vB v43,vB v44,vB v45,vI v46,vI v47]⟩] [] 0 0)/\F22_l1 k a0 a1 a2 a3 j28 v29 v30 v33 v34 v35 v36 v37 v38 v39 v40 v41 v42 v43 v44 v45 v46 v47=some x26) (λ j28 s=>?_) k ⟨(-1),0,(GCost.mk 0 0 (a3.length:Int)),(-1),0,0,0,0,0,0,0,0,false,false,false,0,0,Weak.one [0,1,2] [] (by kernel_rfl),e27⟩
  rintro⟨v29,v30,v33,v34,v35,v36,v37,v38,v39,v40,v41,v42,v43,v44,v45,v46,v47,w29,e27⟩
  refine PC.weak w29 ?_
  obtain _ | j28:=j28
  · rw[F22_l1] at e27; cases e27
  rw[F22_l1] at e27
  refine PC.run (n:=2) rfl ?_
  refine PC.cond rfl (λ h30=>?_) (λ h30=>?_)
  ·have e27:=bif_t h30 e27
   refine PC.noop ?_
   refine PC.block ?_
   refine PC.region ?_
   refine bindIK e27 (λ y68 h31 h32 e27=>?_)
   refine PO.same rfl (indexAddr_ok Try.underlying34 rfl rfl rfl h31 (map_at h32)) rfl ?_
   refine PO.run 2 rfl ?_
   refine PO.nil ?_
   refine PC.region ?_
   refine PO.run 4 rfl ?_
   refine bindK e27 (λ r33 e34 e27=>?_)
   refine PO.call rfl rfl rfl rfl (ks:=[]) (ts:=[]) (fr1:=[]) rfl rfl rfl trivial (L51 k a0 a1 v29 y68 _ e34) ?_
   rintro _ _ _ ⟨rfl,rfl,rfl⟩
   refine⟨_,_,rfl,rfl,?_⟩
   refine oK 2 [0,1,2,3] [] [(0,.list 13 (List.map cGItem a0) none),(1,vI a1),(2,vI a2),(8,vP 0),(9,vI 0),(10,vP 1),(11,vP 2),(12,vI v29),(14,vI y68),(15,vP 3),(46,.list 1 (List.map cI_i64 a3) none),(47,vI (a3.length:Int)),(48,vI v30)] [⟨0,[vI 0,vI 0,vI 0]⟩,⟨0,(cGCost v33)⟩,⟨0,[vI v34,vI v35,vI v36,vI v37,vI v38,vI v39,vI v40,vI v41,vI v42,vB v43,vB v44,vB v45,vI v46,vI v47]⟩,⟨0,(cGLine r33)⟩] [] (by kernel_rfl) ?_
   refine PO.nil ?_
   refine PC.assoc ?_
   refine PC.region ?_
   refine PO.run 3 rfl ?_
   refine bindK e27 (λ x35 e36 e27=>?_)
   refine PO.cut 5 (λ s=>∃ (v69:Bool),Weak s (PS.of 81 [(0,.list 13 (List.map cGItem a0) none),(1,vI a1),(2,vI a2),(8,vP 0),(9,vI 0),(10,vP 1),(11,vP 2),(12,vI v29),(14,vI y68),(15,vP 3),(46,.list 1 (List.map cI_i64 a3) none),(47,vI (a3.length:Int)),(48,vI v30),(64,vB v69)] [⟨0,[vI 0,vI 0,vI 0]⟩,⟨0,(cGCost v33)⟩,⟨0,[vI v34,vI v35,vI v36,vI v37,vI v38,vI v39,vI v40,vI v41,vI v42,vB v43,vB v44,vB v45,vI v46,vI v47]⟩,⟨0,(cGLine r33)⟩] [] 0 0)/\v69=x35) ?_ ?_
   ·refine PO.case (t:=59) rfl rfl (λ h37=>?_) (λ h37=>?_)
    ·have e36:=bif_t h37 e36
     refine PO.run 4 rfl ?_
     refine PO.same rfl (pickT_ok rfl rfl rfl) rfl ?_
     refine PO.nil ?_
     exact⟨true,Weak.one [0,1,2,3] [] (by kernel_rfl),Option.some.inj e36⟩
    have e36:=bif_f h37 e36
    refine PO.run 4 rfl ?_
    refine PO.same rfl (pickF_ok rfl rfl rfl) rfl ?_
    refine PO.nil ?_
    exact⟨decide (r33.bad > a2),Weak.one [0,1,2,3] [] (by kernel_rfl),Option.some.inj e36⟩
   rintro _ ⟨v69,w38,rfl⟩
   refine PO.weak w38 ?_
   refine PO.nil ?_
   refine bindK e27 (λ x39 e40 e27=>?_)
   refine PC.join (λ s=>∃ (v70:Int),Weak s (PS.of 81 [(0,.list 13 (List.map cGItem a0) none),(1,vI a1),(2,vI a2),(8,vP 0),(9,vI 0),(10,vP 1),(11,vP 2),(12,vI v29),(14,vI y68),(15,vP 3),(46,.list 1 (List.map cI_i64 a3) none),(47,vI (a3.length:Int)),(48,vI v30)] [⟨0,[vI 0,vI 0,vI 0]⟩,⟨0,[vI v70,vI v33.total,vI v33.lines]⟩,⟨0,[vI v34,vI v35,vI v36,vI v37,vI v38,vI v39,vI v40,vI v41,vI v42,vB v43,vB v44,vB v45,vI v46,vI v47]⟩,⟨0,(cGLine r33)⟩] [] 0 0)/\v70=x39) ?_ ?_
   ·refine PC.cond rfl (λ h41=>?_) (λ h41=>?_)
    ·have e40:=bif_t h41 e40
     refine PC.region ?_
     refine oK 5 [0,1,2,3] [] [(0,.list 13 (List.map cGItem a0) none),(1,vI a1),(2,vI a2),(8,vP 0),(9,vI 0),(10,vP 1),(11,vP 2),(12,vI v29),(14,vI y68),(15,vP 3),(46,.list 1 (List.map cI_i64 a3) none),(47,vI (a3.length:Int)),(48,vI v30)] [⟨0,[vI 0,vI 0,vI 0]⟩,⟨0,[vI (w (v33.bad+1)),vI v33.total,vI v33.lines]⟩,⟨0,[vI v34,vI v35,vI v36,vI v37,vI v38,vI v39,vI v40,vI v41,vI v42,vB v43,vB v44,vB v45,vI v46,vI v47]⟩,⟨0,(cGLine r33)⟩] [] (by kernel_rfl) ?_
     refine PO.nil ?_
     exact PC.skip (joinKP.end ⟨w (v33.bad+1),Weak.one [0,1,2,3] [] (by kernel_rfl),Option.some.inj e40⟩)
    have e40:=bif_f h41 e40
    refine PC.noop ?_
    exact PC.skip (joinKP.end ⟨v33.bad,Weak.one [0,1,2,3] [] (by kernel_rfl),Option.some.inj e40⟩)
   rintro _ ⟨v70,w42,rfl⟩
   refine PC.weak w42 ?_
   refine PC.draw [2,3,4,5,0,1,6,7,8] (by kernel_rfl) ?_
   refine oD 3 [5,0,1,6,7,8] ⟨28,0,0,[]⟩ [(0,.list 13 (List.map cGItem a0) none),(1,vI a1),(2,vI a2),(8,vP 0),(9,vI 0),(10,vP 1),(11,vP 2),(12,vI v29),(14,vI y68),(15,vP 3),(46,.list 1 (List.map cI_i64 a3) none),(47,vI (a3.length:Int)),(48,vI v30),(71,.list 13 (List.map cGItem a0) none),(72,.agg [vI v34,vI v35,vI v36,vI v37,vI v38,vI v39,vI v40,vI v41,vI v42,vB v43,vB v44,vB v45,vI v46,vI v47]),(73,.agg (cGLine r33))] [⟨0,[vI 0,vI 0,vI 0]⟩,⟨0,[vI v70,vI v33.total,vI v33.lines]⟩,⟨0,[vI v34,vI v35,vI v36,vI v37,vI v38,vI v39,vI v40,vI v41,vI v42,vB v43,vB v44,vB v45,vI v46,vI v47]⟩,⟨0,(cGLine r33)⟩] [] (by kernel_rfl) ?_
   refine bindK e27 (λ r43 e44 e27=>?_)
   refine PD.call rfl rfl (by kernel_rfl) rfl rfl rfl (ks:=[]) (ts:=[]) (fr1:=[]) rfl rfl rfl trivial (L52 k a0 (GLine.mk v34 v35 v36 v37 v38 v39 v40 v41 v42 v43 v44 v45 v46 v47) r33 _ e44) ?_
   rintro _ _ _ ⟨rfl,rfl,rfl⟩
   refine⟨_,_,rfl,rfl,?_⟩
   refine oD 5 [] ⟨511,511,255,[(8,[1],false),(5,[1],true)]⟩ [(0,.list 13 (List.map cGItem a0) none),(1,vI a1),(2,vI a2),(8,vP 0),(9,vI 0),(10,vP 1),(11,vP 2),(12,vI v29),(14,vI y68),(15,vP 3),(46,.list 1 (List.map cI_i64 a3) none),(47,vI (a3.length:Int)),(48,vI v30)] [⟨0,[vI 0,vI 0,vI 0]⟩,⟨0,[vI v70,vI (w (v33.total+r43)),vI v33.lines]⟩,⟨0,[vI v34,vI v35,vI v36,vI v37,vI v38,vI v39,vI v40,vI v41,vI v42,vB v43,vB v44,vB v45,vI v46,vI v47]⟩,⟨0,(cGLine r33)⟩] [] (by kernel_rfl) ?_
   refine PD.done [0,1,2,3] [] (es:=[(0,.list 13 (List.map cGItem a0) none),(1,vI a1),(2,vI a2),(8,vP 0),(9,vI 0),(10,vP 1),(11,vP 2),(12,vI v29),(14,vI y68),(15,vP 3),(46,.list 1 (List.map cI_i64 a3) none),(47,vI (a3.length:Int)),(48,vI v30)]) (fr':=[⟨0,[vI 0,vI 0,vI 0]⟩,⟨0,[vI v70,vI (w (v33.total+r43)),vI v33.lines]⟩,⟨0,[vI v34,vI v35,vI v36,vI v37,vI v38,vI v39,vI v40,vI v41,vI v42,vB v43,vB v44,vB v45,vI v46,vI v47]⟩,⟨0,(cGLine r33)⟩]) (tk':=[]) (by kernel_rfl) (by kernel_rfl) ?_
   refine PC.lone ?_
   refine PC.region ?_
   refine oK 4 [0,1,2] [] [(0,.list 13 (List.map cGItem a0) none),(1,vI a1),(2,vI a2),(8,vP 0),(9,vI 0),(10,vP 1),(11,vP 2),(12,vI y68),(46,.list 1 (List.map cI_i64 a3) none),(47,vI (a3.length:Int)),(48,vI v30)] [⟨0,[vI 0,vI 0,vI 0]⟩,⟨0,[vI v70,vI (w (v33.total+r43)),vI v33.lines]⟩,⟨0,(cGLine r33)⟩] [] (by kernel_rfl) ?_
   refine PO.nil ?_
   refine PC.skip (blockKP.end ?_)
   refine PC.lone ?_
   refine PC.run (n:=3) rfl ?_
   exact PC.skip (loopKP.mk (Nat.lt_succ_self _) ⟨y68,w (v30+1),(GCost.mk v70 (w (v33.total+r43)) v33.lines),r33.first,r33.last,r33.break_,r33.natural,r33.stretch,r33.shrink,r33.short,r33.bad,r33.class_,r33.over_,r33.hyphen,r33.end_,r33.height,r33.depth,Weak.one [0,1,2] [] (by kernel_rfl),e27⟩)
  have e27:=bif_f h30 e27
  exact PC.exit (loopKP.exit (blockJK.here ⟨v33,Weak.one [0,1] [] (by kernel_rfl),Option.some.inj e27⟩))
 rintro _ ⟨v9,w45,rfl⟩
 refine PC.weak w45 ?_
 refine PC.region ?_
 refine oK 3 [0] [] [(8,vP 0),(9,vI 0)] [⟨0,(cGCost v9)⟩] [] (by kernel_rfl) ?_
 refine PO.nil ?_
 have hq:=Option.some.inj hF
 subst hq
 exact PC.ret' (retSK [] [] (by kernel_rfl) (.refl _) ⟨rfl,rfl,rfl⟩)
def F24_l1 (k:Nat) (a1:List Int) (a3:List Int):Nat->Int->Option ((Unit) ⊕ (Bool))
  | 0,_=>none
  | j6+1,v2=>
    Option.bind (α:=Bool) (bif decide (v2>=0) then(some (decide (v2 < (a3.length:Int)))) else(some false)) λ(v4:Bool)=>
    bif v4 then(bindI a1 v2 λ y5=>
    bindI a3 v2 λ y6=>
    bif y5 != y6 then(bindI a1 v2 λ y7=>
    bindI a3 v2 λ y8=>
    some (.inr (decide (y7 < y8)))) else(F24_l1 k a1 a3 j6 (w (v2 - 1)))) else(some (.inl ()))
def F24 (k:Nat) (a0:GCost) (a1:List Int) (a2:GCost) (a3:List Int):Option Bool:=
bif a0.bad != a2.bad then(some (decide (a0.bad < a2.bad))) else(bif a0.total != a2.total then(some (decide (a0.total < a2.total))) else(bif a0.lines != a2.lines then(some (decide (a0.lines < a2.lines))) else(Option.bind (α:=(Unit) ⊕ (Bool)) (F24_l1 k a1 a3 k (w ((a1.length:Int) - 1))) (Sum.elim (λ(_:Unit)=>
some false) some))))
theorem L24 (k:Nat) (a0:GCost) (a1:List Int) (a2:GCost) (a3:List Int) (r:Bool) (hF:F24 k a0 a1 a2 a3=some r):PF Try.prog orc 24 [.agg (cGCost a0),.list 1 (List.map cI_i64 a1) none,.agg (cGCost a2),.list 1 (List.map cI_i64 a3) none] [] [] (λ p fr tk=>p=vB r/\fr=[]/\tk=[]):=by
 unfold F24 at hF
 refine PF.enterS Try.func24 rfl rfl rfl (by kernel_rfl) rfl ?_
 refine PC.region ?_
 refine oK 3 [0,1] [] [(1,.list 1 (List.map cI_i64 a1) none),(3,.list 1 (List.map cI_i64 a3) none),(4,vP 0),(6,vP 1),(8,vB false)] [⟨0,(cGCost a0)⟩,⟨0,(cGCost a2)⟩] [] (by kernel_rfl) ?_
 refine PO.nil ?_
 refine PC.assoc ?_
 refine PC.run (n:=6) rfl ?_
 refine PC.cond rfl (λ h1=>?_) (λ h1=>?_)
 ·have hF:=bif_t h1 hF
  refine PC.assoc ?_
  refine PC.run (n:=7) rfl ?_
  have hq:=Option.some.inj hF
  subst hq
  exact PC.ret (retSK [] [] (by kernel_rfl) (.refl _) ⟨rfl,rfl,rfl⟩)
 have hF:=bif_f h1 hF
 refine PC.noop ?_
 refine PC.assoc ?_
 refine PC.run (n:=6) rfl ?_
 refine PC.cond rfl (λ h2=>?_) (λ h2=>?_)
 ·have hF:=bif_t h2 hF
  refine PC.assoc ?_
  refine PC.run (n:=7) rfl ?_
  have hq:=Option.some.inj hF
  subst hq
  exact PC.ret (retSK [] [] (by kernel_rfl) (.refl _) ⟨rfl,rfl,rfl⟩)
 have hF:=bif_f h2 hF
 refine PC.noop ?_
 refine PC.assoc ?_
 refine PC.run (n:=6) rfl ?_
 refine PC.cond rfl (λ h3=>?_) (λ h3=>?_)
 ·have hF:=bif_t h3 hF
  refine PC.assoc ?_
  refine PC.run (n:=7) rfl ?_
  have hq:=Option.some.inj hF
  subst hq
  exact PC.ret (retSK [] [] (by kernel_rfl) (.refl _) ⟨rfl,rfl,rfl⟩)
 have hF:=bif_f h3 hF
 refine PC.noop ?_
 refine PC.assoc ?_
 refine PC.region ?_
 refine PO.run 1 rfl ?_
 refine PO.same rfl (len_ok Try.underlying34 rfl (List.length_map _)) rfl ?_
 refine PO.run 2 rfl ?_
 refine PO.nil ?_
 refine bindK hF (λ x4 e5 hF=>?_)
 refine PC.blockJ (λ s=>Weak s (PS.of 71 [(8,vB false)] [] [] 0 0)/\.inl ()=x4) ?_ ?_
 ·refine PC.loop (λ j6 s=>∃ (v2:Int),Weak s (PS.of 71 [(1,.list 1 (List.map cI_i64 a1) none),(3,.list 1 (List.map cI_i64 a3) none),(8,vB false),(9,vI v2)] [] [] 0 0)/\F24_l1 k a1 a3 j6 v2=some x4) (λ j6 s=>?_) k ⟨w ((a1.length:Int) - 1),Weak.one [] [] (by kernel_rfl),e5⟩
  rintro⟨v2,w7,e5⟩
  refine PC.weak w7 ?_
  obtain _ | j6:=j6
  · rw[F24_l1] at e5; cases e5
  rw[F24_l1] at e5
  refine PC.assoc ?_
  refine PC.region ?_
  refine PO.run 3 rfl ?_
  refine bindK e5 (λ x8 e9 e5=>?_)
  refine PO.cut 5 (λ s=>∃ (v4:Bool),Weak s (PS.of 71 [(1,.list 1 (List.map cI_i64 a1) none),(3,.list 1 (List.map cI_i64 a3) none),(8,vB false),(9,vI v2),(50,vB v4)] [] [] 0 0)/\v4=x8) ?_ ?_
  ·refine PO.case (t:=45) rfl rfl (λ h10=>?_) (λ h10=>?_)
   ·have e9:=bif_t h10 e9
    refine PO.run 2 rfl ?_
    refine PO.same rfl (len_ok Try.underlying34 rfl (List.length_map _)) rfl ?_
    refine PO.run 1 rfl ?_
    refine PO.same rfl (pickT_ok rfl rfl rfl) rfl ?_
    refine PO.nil ?_
    exact⟨decide (v2 < (a3.length:Int)),Weak.one [] [] (by kernel_rfl),Option.some.inj e9⟩
   have e9:=bif_f h10 e9
   refine PO.run 4 rfl ?_
   refine PO.same rfl (pickF_ok rfl rfl rfl) rfl ?_
   refine PO.nil ?_
   exact⟨false,Weak.one [] [] (by kernel_rfl),Option.some.inj e9⟩
  rintro _ ⟨v4,w11,rfl⟩
  refine PO.weak w11 ?_
  refine PO.nil ?_
  refine PC.cond rfl (λ h12=>?_) (λ h12=>?_)
  ·have e5:=bif_t h12 e5
   refine PC.noop ?_
   refine PC.block ?_
   refine PC.drawn (order:=[0,1,2,3,4,5,6,7,8]) (by kernel_rfl) ?_
   refine PO.run 2 rfl ?_
   refine bindIK e5 (λ y5 h13 h14 e5=>?_)
   refine PO.same rfl (indexAddr_ok Try.underlying34 rfl rfl rfl h13 (map_at h14)) rfl ?_
   refine PO.run 3 rfl ?_
   refine bindIK e5 (λ y6 h15 h16 e5=>?_)
   refine PO.same rfl (indexAddr_ok Try.underlying34 rfl rfl rfl h15 (map_at h16)) rfl ?_
   refine PO.run 2 rfl ?_
   refine PO.nil ?_
   refine PC.lone ?_
   refine PC.cond rfl (λ h17=>?_) (λ h17=>?_)
   ·have e5:=bif_t h17 e5
    refine PC.assoc ?_
    refine PC.drawn (order:=[0,1,2,3,4,5,6,7,8,9]) (by kernel_rfl) ?_
    refine PO.run 2 rfl ?_
    refine bindIK e5 (λ y7 h18 h19 e5=>?_)
    refine PO.same rfl (indexAddr_ok Try.underlying34 rfl rfl rfl h18 (map_at h19)) rfl ?_
    refine PO.run 3 rfl ?_
    refine bindIK e5 (λ y8 h20 h21 e5=>?_)
    refine PO.same rfl (indexAddr_ok Try.underlying34 rfl rfl rfl h20 (map_at h21)) rfl ?_
    refine PO.run 3 rfl ?_
    refine PO.nil ?_
    have hq:=Option.some.inj e5
    subst hq
    have hq:=Option.some.inj hF
    subst hq
    exact PC.ret (blockKP.back (loopKP.ret (blockJK.back (retSK [] [] (by kernel_rfl) (.refl _) ⟨rfl,rfl,rfl⟩))))
   have e5:=bif_f h17 e5
   refine PC.noop ?_
   refine PC.skip (blockKP.end ?_)
   refine PC.lone ?_
   refine PC.run (n:=4) rfl ?_
   exact PC.skip (loopKP.mk (Nat.lt_succ_self _) ⟨w (v2 - 1),Weak.one [] [] (by kernel_rfl),e5⟩)
  have e5:=bif_f h12 e5
  exact PC.exit (loopKP.exit (blockJK.here ⟨Weak.one [] [] (by kernel_rfl),Option.some.inj e5⟩))
 rintro _ ⟨w22,rfl⟩
 refine PC.weak w22 ?_
 have hF:=elim_l hF
 refine PC.run (n:=2) rfl ?_
 have hq:=Option.some.inj hF
 subst hq
 exact PC.ret' (retSK [] [] (by kernel_rfl) (.refl _) ⟨rfl,rfl,rfl⟩)
def F13_l1 (k:Nat) (a0:List Int) (a1:List Int):Nat->Int->Option ((Unit) ⊕ (Bool))
  | 0,_=>none
  | j4+1,v2=>
    bif decide (v2 < (a0.length:Int)) then(bindI a0 v2 λ y4=>
    bindI a1 v2 λ y5=>
    bif y4 != y5 then(some (.inr false)) else(F13_l1 k a0 a1 j4 (w (v2+1)))) else(some (.inl ()))
def F13 (k:Nat) (a0:List Int) (a1:List Int):Option Bool:=
bif (a0.length:Int) != (a1.length:Int) then(some false) else(Option.bind (α:=(Unit) ⊕ (Bool)) (F13_l1 k a0 a1 k 0) (Sum.elim (λ(_:Unit)=>
some true) some))
theorem L13 (k:Nat) (a0:List Int) (a1:List Int) (r:Bool) (hF:F13 k a0 a1=some r):PF Try.prog orc 13 [.list 1 (List.map cI_i64 a0) none,.list 1 (List.map cI_i64 a1) none] [] [] (λ p fr tk=>p=vB r/\fr=[]/\tk=[]):=by
 unfold F13 at hF
 refine PF.enterS Try.func13 rfl rfl rfl (by kernel_rfl) rfl ?_
 refine PC.run (n:=2) rfl ?_
 refine PC.assoc ?_
 refine PC.region ?_
 refine PO.run 1 rfl ?_
 refine PO.same rfl (len_ok Try.underlying34 rfl (List.length_map _)) rfl ?_
 refine PO.run 1 rfl ?_
 refine PO.same rfl (len_ok Try.underlying34 rfl (List.length_map _)) rfl ?_
 refine PO.run 1 rfl ?_
 refine PO.nil ?_
 refine PC.cond rfl (λ h1=>?_) (λ h1=>?_)
 ·have hF:=bif_t h1 hF
  refine PC.assoc ?_
  refine PC.run (n:=2) rfl ?_
  have hq:=Option.some.inj hF
  subst hq
  exact PC.ret (retSK [] [] (by kernel_rfl) (.refl _) ⟨rfl,rfl,rfl⟩)
 have hF:=bif_f h1 hF
 refine PC.noop ?_
 refine PC.assoc ?_
 refine PC.run (n:=2) rfl ?_
 refine bindK hF (λ x2 e3 hF=>?_)
 refine PC.blockJ (λ s=>Weak s (PS.of 26 [(4,vB false)] [] [] 0 0)/\.inl ()=x2) ?_ ?_
 ·refine PC.loop (λ j4 s=>∃ (v2:Int),Weak s (PS.of 26 [(0,.list 1 (List.map cI_i64 a0) none),(1,.list 1 (List.map cI_i64 a1) none),(4,vB false),(5,vI v2)] [] [] 0 0)/\F13_l1 k a0 a1 j4 v2=some x2) (λ j4 s=>?_) k ⟨0,Weak.one [] [] (by kernel_rfl),e3⟩
  rintro⟨v2,w5,e3⟩
  refine PC.weak w5 ?_
  obtain _ | j4:=j4
  · rw[F13_l1] at e3; cases e3
  rw[F13_l1] at e3
  refine PC.assoc ?_
  refine PC.region ?_
  refine PO.run 2 rfl ?_
  refine PO.same rfl (len_ok Try.underlying34 rfl (List.length_map _)) rfl ?_
  refine PO.run 1 rfl ?_
  refine PO.nil ?_
  refine PC.cond rfl (λ h6=>?_) (λ h6=>?_)
  ·have e3:=bif_t h6 e3
   refine PC.noop ?_
   refine PC.block ?_
   refine PC.drawn (order:=[0,1,2,3,4,5,6,7,8]) (by kernel_rfl) ?_
   refine PO.run 2 rfl ?_
   refine bindIK e3 (λ y4 h7 h8 e3=>?_)
   refine PO.same rfl (indexAddr_ok Try.underlying34 rfl rfl rfl h7 (map_at h8)) rfl ?_
   refine PO.run 3 rfl ?_
   refine bindIK e3 (λ y5 h9 h10 e3=>?_)
   refine PO.same rfl (indexAddr_ok Try.underlying34 rfl rfl rfl h9 (map_at h10)) rfl ?_
   refine PO.run 2 rfl ?_
   refine PO.nil ?_
   refine PC.lone ?_
   refine PC.cond rfl (λ h11=>?_) (λ h11=>?_)
   ·have e3:=bif_t h11 e3
    refine PC.assoc ?_
    refine PC.run (n:=2) rfl ?_
    have hq:=Option.some.inj e3
    subst hq
    have hq:=Option.some.inj hF
    subst hq
    exact PC.ret (blockKP.back (loopKP.ret (blockJK.back (retSK [] [] (by kernel_rfl) (.refl _) ⟨rfl,rfl,rfl⟩))))
   have e3:=bif_f h11 e3
   refine PC.noop ?_
   refine PC.skip (blockKP.end ?_)
   refine PC.lone ?_
   refine PC.run (n:=4) rfl ?_
   exact PC.skip (loopKP.mk (Nat.lt_succ_self _) ⟨w (v2+1),Weak.one [] [] (by kernel_rfl),e3⟩)
  have e3:=bif_f h6 e3
  exact PC.exit (loopKP.exit (blockJK.here ⟨Weak.one [] [] (by kernel_rfl),Option.some.inj e3⟩))
 rintro _ ⟨w12,rfl⟩
 refine PC.weak w12 ?_
 have hF:=elim_l hF
 refine PC.run (n:=2) rfl ?_
 have hq:=Option.some.inj hF
 subst hq
 exact PC.ret' (retSK [] [] (by kernel_rfl) (.refl _) ⟨rfl,rfl,rfl⟩)
def F6_r1 (k:Nat):List Int->(List Int)->Option ((List Int))
  | [],v3=>some v3
  | y2 :: l5,v3=>
    bindA 8 v3 ([y2]) λ l6=>
    F6_r1 k l5 l6
def F6_l3 (k:Nat) (v1:List Int) (v11:Int):Nat->(List Int)->Int->Option (List Int)
  | 0,_,_=>none
  | j31+1,v18,v19=>
    bif decide (v19 < (v1.length:Int)) then(Option.bind (α:=List Int) (bindP v19 (bif (band_i64 (Int.fdiv v11 (2 ^ (min (Int.toNat v19) 64))) 1) == 1 then(bindI v1 v19 λ y23=>
    bindA 8 v18 ([y23]) λ l24=>
    some l24) else(some v18))) λ(v22:List Int)=>
    F6_l3 k v1 v11 j31 v22 (w (v19+1))) else(some v18)
def F6_l2 (k:Nat) (a0:List GItem) (a1:Int) (a2:Int) (v1:List Int) (r18:(List Int)×GCost×GFault×GMeter):Nat->Bool->Int->Option ((Bool) ⊕ (Bool))
  | 0,_,_=>none
  | j23+1,v10,v11=>
    bindP (v1.length:Int) (bif decide (v11 < (w (1 * 2 ^ (min (Int.toNat (v1.length:Int)) 64)))) then(Option.bind (α:=(Bool) ⊕ ((Bool) ⊕ (Bool))) (Option.bind (α:=List Int) (F6_l3 k v1 v11 k ([] : List Int) 0) λ(v15:List Int)=>
    (F22 k a0 a1 a2 v15).bind λ r43=>
    bif r43.2 != 0 then(some (.inl v10)) else((F24 k r43.1 v15 r18.2.1 r18.1).bind λ r46=>
    bif r46 then(some (.inr (.inr false))) else(Option.bind (α:=Bool) (bif v10 then(some true) else((F13 k v15 r18.1).bind λ r52=>
    some r52)) λ(v25:Bool)=>
    some (.inl v25)))) (Sum.elim (λ(v14:Bool)=>
    F6_l2 k a0 a1 a2 v1 r18 j23 v14 (w (v11+1))) some)) else(some (.inl v10)))
def F6 (k:Nat) (a0:List GItem) (a1:Int) (a2:Int):Option Bool:=
(F18 k a0).bind λ r2=>
Option.bind (α:=List Int) (guardL r2.length (Option.bind (α:=(List Int)) (F6_r1 k r2 ([] : List Int)) (λ(v3:List Int)=>
some v3))) λ(v1:List Int)=>
bif decide ((v1.length:Int) > 8) then(some true) else((F15 k).bind λ r16=>
(F11 k r16 a0 a1 a2).bind λ r18=>
bif r18.2.2.1.kind != 0 then(some ((r18.1.length:Int) == 0)) else(Option.bind (α:=(Bool) ⊕ (Bool)) (F6_l2 k a0 a1 a2 v1 r18 k false 0) (Sum.elim (λ(v7:Bool)=>
some v7) some)))
theorem L6 (k:Nat) (a0:List GItem) (a1:Int) (a2:Int) (r:Bool) (hF:F6 k a0 a1 a2=some r):PF Try.prog orc 6 [.list 13 (List.map cGItem a0) none,vI a1,vI a2] [] [] (λ p fr tk=>p=vB r/\fr=[]/\tk=[]):=by
 unfold F6 at hF
 refine PF.enterM Try.func6 rfl rfl rfl (by kernel_rfl) rfl ?_
 refine PC.run (n:=2) rfl ?_
 refine PC.region ?_
 refine PO.call rfl rfl rfl rfl (ks:=[]) (ts:=[]) (fr1:=[]) rfl rfl rfl trivial K7 ?_
 rintro _ _ _ ⟨rfl,rfl,rfl⟩
 refine⟨_,_,rfl,rfl,?_⟩
 refine PO.run 1 rfl ?_
 refine PO.nil ?_
 refine PC.assoc ?_
 refine PC.run (n:=3) rfl ?_
 refine PC.cond rfl (λ h1=>Bool.noConfusion h1) (λ _=>?_)
 refine PC.noop ?_
 refine PC.region ?_
 refine oK 3 [0] [0] [(0,.list 13 (List.map cGItem a0) none),(1,vI a1),(2,vI a2),(6,vB false),(7,vB true),(8,vP 0)] [⟨0,[.list 1 (List.map cI_i64 ([] : List Int)) (some 0)]⟩] [0] (by kernel_rfl) ?_
 refine PO.nil ?_
 refine PC.assoc ?_
 refine PC.region ?_
 refine PO.run 1 rfl ?_
 refine bindK hF (λ r2 e3 hF=>?_)
 refine PO.call rfl rfl rfl rfl (ks:=[]) (ts:=[]) (fr1:=[]) rfl rfl rfl trivial (L18 k a0 _ e3) ?_
 rintro _ _ _ ⟨rfl,rfl,rfl⟩
 refine⟨_,_,rfl,rfl,?_⟩
 refine PO.nil ?_
 refine bindK hF (λ x4 e5 hF=>?_)
 refine PC.blockJ (λ s=>∃ (v1:List Int),Weak s (PS.ofm [none] 103 [(0,.list 13 (List.map cGItem a0) none),(1,vI a1),(2,vI a2),(6,vB false),(7,vB true),(8,vP 0)] [⟨0,[.list 1 (List.map cI_i64 v1) (some 0)]⟩] [v1.length] 0 0)/\v1=x4) ?_ ?_
 ·refine PC.lone ?_
  have hq:=guardL_some e5
  have h6:=hq.1
  have e5:=hq.2
  clear hq
  refine PC.weak (s':=PS.ofm [none] 103 [(0,.list 13 (List.map cGItem a0) none),(1,vI a1),(2,vI a2),(6,vB false),(7,vB true),(8,vP 0),(24,.fn 47 [] [vP 1])] [⟨0,[.list 1 (List.map cI_i64 ([] : List Int)) (some 0)]⟩,⟨0,[.list 1 (List.map cI_i64 r2) none]⟩] [0] 0 0) (Weak.one [0,1] [0] (by kernel_rfl)) ?_
  refine bindK e5 (λ x7 e8 e5=>?_)
  refine PC.rangeFunc (f:=47) rfl (I66 r2 h6 1) (by intro i x hx; obtain⟨_,_,rfl⟩:=map_inv hx; rfl) (by intro h; first | rfl | cases h) (λ i fr tk=>∃ (v3:List Int),fr=[⟨0,[.list 1 (List.map cI_i64 v3) (some 0)]⟩,⟨0,[.list 1 (List.map cI_i64 r2) none]⟩]/\tk=[v3.length]/\F6_r1 k (List.drop i r2) v3=some x7) (λ y fr tk=>False) ?_ ?_ ?_ ?_ ?_
  · rintro i fr tk ⟨v3,rfl,rfl,_⟩
    exact⟨rfl,rfl,⟨_,_,rfl⟩⟩
  · exact⟨([] : List Int),rfl,rfl,e8⟩
  ·intro i x fr tk l hx hj
   refine Exists.elim (map_inv hx) (λ y2 hq=>?_)
   have ha:=hq.1
   obtain rfl:=hq.2
   clear hq
   obtain⟨v3,rfl,rfl,e9⟩:=hj
   rw[drop_at ha,F6_r1] at e9
   clear hx ha
   refine⟨_,rfl,?_⟩
   refine PC.weak (s':=PS.of 103 [(8,vP 0),(25,vI y2)] [⟨0,[.list 1 (List.map cI_i64 v3) (some 0)]⟩,⟨0,[.list 1 (List.map cI_i64 r2) none]⟩] [v3.length] 2 1) (Weak.one [0,1] [0] (by kernel_rfl)) ?_
   refine PC.lone ?_
   refine PC.run (n:=2) rfl ?_
   refine PC.skip ⟨rfl,?_⟩
   refine PC.lone ?_
   refine PC.block ?_
   refine PC.lone ?_
   refine PC.region ?_
   refine oK 3 [0,1] [0,1] [(8,vP 0),(26,.list 1 (List.map cI_i64 v3) (some 0)),(28,.list 1 (List.map cI_i64 ([y2])) (some 1))] [⟨0,[.list 1 (List.map cI_i64 v3) (some 0)]⟩,⟨0,[.list 1 (List.map cI_i64 r2) none]⟩] [v3.length,1] (by kernel_rfl) ?_
   refine bindAK e9 (λ h13 e9=>?_)
   generalize hgl6:v3++([y2])=l6 at e9
   refine PO.one rfl (append_typed (L:=v3) (M:=[y2]) (f:=cI_i64) (sz:=1) (bytes:=8) Try.underlying34 rfl rfl rfl rfl rfl rfl rfl rfl rfl rfl rfl rfl h13 hgl6) rfl ?_
   refine oK 1 [0,1] [0] [] [⟨0,[.list 1 (List.map cI_i64 l6) (some 0)]⟩,⟨0,[.list 1 (List.map cI_i64 r2) none]⟩] [l6.length] (by kernel_rfl) ?_
   refine PO.nil ?_
   refine PC.skip (blockKP.end ?_)
   refine PC.weak (s':=PS.of 103 [] [⟨0,[.list 1 (List.map cI_i64 l6) (some 0)]⟩,⟨0,[.list 1 (List.map cI_i64 r2) none]⟩] [l6.length] 2 1) (Weak.one [0,1] [0] (by kernel_rfl)) ?_
   exact PC.skip (⟨l6,rfl,rfl,e9⟩)
  ·rintro fr tk ⟨v3,rfl,rfl,e9⟩
   rw[List.length_map,List.drop_length,F6_r1] at e9
   obtain rfl:=Option.some.inj e9
   have e5:=e5
   refine PC.weak (s':=PS.ofm [none] 103 [(0,.list 13 (List.map cGItem a0) none),(1,vI a1),(2,vI a2),(6,vB false),(7,vB true),(8,vP 0),(24,.fn 47 [] [vP 1])] [⟨0,[.list 1 (List.map cI_i64 v3) (some 0)]⟩,⟨0,[.list 1 (List.map cI_i64 r2) none]⟩] [v3.length] 0 0) (Weak.one [0,1] [0] (by kernel_rfl)) ?_
   exact PC.skip (blockJK.end ⟨v3,Weak.one [0] [0] (by kernel_rfl),Option.some.inj e5⟩)
  ·intro y fr tk hd hy
   exact hd.elim
 rintro _ ⟨v1,w14,rfl⟩
 refine PC.weak w14 ?_
 refine PC.assoc ?_
 refine PC.region ?_
 refine PO.run 1 rfl ?_
 refine PO.same rfl (len_ok Try.underlying34 rfl (List.length_map _)) rfl ?_
 refine PO.run 1 rfl ?_
 refine PO.nil ?_
 refine PC.cond rfl (λ h15=>?_) (λ h15=>?_)
 ·have hF:=bif_t h15 hF
  refine PC.assoc ?_
  refine PC.run (n:=3) rfl ?_
  have hq:=Option.some.inj hF
  subst hq
  exact PC.ret (retMK [] [] (by kernel_rfl) (.refl _) ⟨rfl,rfl,rfl⟩)
 have hF:=bif_f h15 hF
 refine PC.noop ?_
 refine PC.region ?_
 refine bindK hF (λ r16 e17 hF=>?_)
 refine PO.call rfl rfl rfl rfl (ks:=[]) (ts:=[]) (fr1:=[]) rfl rfl rfl trivial (L15 k _ e17) ?_
 rintro _ _ _ ⟨rfl,rfl,rfl⟩
 refine⟨_,_,rfl,rfl,?_⟩
 refine PO.run 3 rfl ?_
 refine bindK hF (λ r18 e19 hF=>?_)
 refine PO.call rfl rfl rfl rfl (ks:=[1]) (ts:=[]) (fr1:=[⟨0,(cGMeter r16)⟩]) rfl rfl rfl ⟨⟨_,rfl,rfl,rfl⟩,trivial⟩ (L11 k r16 a0 a1 a2 _ e19) ?_
 rintro _ _ _ ⟨rfl,rfl,rfl⟩
 refine⟨_,_,rfl,rfl,?_⟩
 refine oK 9 [0,2,3] [0] [(0,.list 13 (List.map cGItem a0) none),(1,vI a1),(2,vI a2),(6,vB false),(7,vB true),(8,vP 0),(10,.list 1 (List.map cI_i64 r18.1) none),(11,vP 1),(12,vP 2)] [⟨0,[.list 1 (List.map cI_i64 v1) (some 0)]⟩,⟨0,(cGCost r18.2.1)⟩,⟨0,(cGFault r18.2.2.1)⟩] [v1.length] (by kernel_rfl) ?_
 refine PO.nil ?_
 refine PC.assoc ?_
 refine PC.run (n:=4) rfl ?_
 refine PC.cond rfl (λ h20=>?_) (λ h20=>?_)
 ·have hF:=bif_t h20 hF
  refine PC.assoc ?_
  refine PC.region ?_
  refine PO.run 3 rfl ?_
  refine PO.same rfl (len_ok Try.underlying34 rfl (List.length_map _)) rfl ?_
  refine PO.run 1 rfl ?_
  refine PO.same rfl (pickT_ok rfl rfl rfl) rfl ?_
  refine PO.run 1 rfl ?_
  refine PO.nil ?_
  have hq:=Option.some.inj hF
  subst hq
  exact PC.ret (retMK [] [] (by kernel_rfl) (.refl _) ⟨rfl,rfl,rfl⟩)
 have hF:=bif_f h20 hF
 refine PC.noop ?_
 refine PC.run (n:=2) rfl ?_
 refine PC.assoc ?_
 refine PC.run (n:=2) rfl ?_
 refine bindK hF (λ x21 e22 hF=>?_)
 refine PC.blockJ (λ s=>∃ (v7:Bool),Weak s (PS.ofm [none] 103 [(6,vB false),(7,vB true),(13,vB v7)] [] [] 0 0)/\.inl v7=x21) ?_ ?_
 ·refine PC.loop (λ j23 s=>∃ (v10:Bool) (v11:Int),Weak s (PS.ofm [none] 103 [(0,.list 13 (List.map cGItem a0) none),(1,vI a1),(2,vI a2),(6,vB false),(7,vB true),(8,vP 0),(10,.list 1 (List.map cI_i64 r18.1) none),(11,vP 1),(13,vB v10),(14,vI v11)] [⟨0,[.list 1 (List.map cI_i64 v1) (some 0)]⟩,⟨0,(cGCost r18.2.1)⟩] [v1.length] 0 0)/\F6_l2 k a0 a1 a2 v1 r18 j23 v10 v11=some x21) (λ j23 s=>?_) k ⟨false,0,Weak.one [0,1] [0] (by kernel_rfl),e22⟩
  rintro⟨v10,v11,w24,e22⟩
  refine PC.weak w24 ?_
  obtain _ | j23:=j23
  · rw[F6_l2] at e22; cases e22
  rw[F6_l2] at e22
  refine PC.assoc ?_
  refine PC.region ?_
  refine PO.run 2 rfl ?_
  refine PO.same rfl (len_ok Try.underlying34 rfl (List.length_map _)) rfl ?_
  obtain⟨h25,e22⟩:=bindP_some e22
  refine PO.same rfl (shl_ok rfl rfl h25) rfl ?_
  refine PO.run 1 rfl ?_
  refine PO.nil ?_
  refine PC.cond rfl (λ h26=>?_) (λ h26=>?_)
  ·have e22:=bif_t h26 e22
   refine PC.noop ?_
   refine bindK e22 (λ x27 e28 e22=>?_)
   refine PC.blockJ (λ s=>∃ (v14:Bool),Weak s (PS.ofm [none] 103 [(0,.list 13 (List.map cGItem a0) none),(1,vI a1),(2,vI a2),(6,vB false),(7,vB true),(8,vP 0),(10,.list 1 (List.map cI_i64 r18.1) none),(11,vP 1),(13,vB v14),(14,vI v11)] [⟨0,[.list 1 (List.map cI_i64 v1) (some 0)]⟩,⟨0,(cGCost r18.2.1)⟩] [v1.length] 0 0)/\.inl v14=x27) ?_ ?_
   ·refine PC.region ?_
    refine oK 2 [0,1] [0,1] [(0,.list 13 (List.map cGItem a0) none),(1,vI a1),(2,vI a2),(6,vB false),(7,vB true),(8,vP 0),(10,.list 1 (List.map cI_i64 r18.1) none),(11,vP 1),(13,vB v10),(14,vI v11),(15,.list 1 (List.map cI_i64 ([] : List Int)) (some 1))] [⟨0,[.list 1 (List.map cI_i64 v1) (some 0)]⟩,⟨0,(cGCost r18.2.1)⟩] [v1.length,0] (by kernel_rfl) ?_
    refine PO.nil ?_
    refine PC.assoc ?_
    refine PC.run (n:=2) rfl ?_
    refine bindK e28 (λ x29 e30 e28=>?_)
    refine PC.blockJ (λ s=>∃ (v15:List Int),Weak s (PS.ofm [none] 103 [(0,.list 13 (List.map cGItem a0) none),(1,vI a1),(2,vI a2),(6,vB false),(7,vB true),(8,vP 0),(10,.list 1 (List.map cI_i64 r18.1) none),(11,vP 1),(13,vB v10),(14,vI v11),(15,.list 1 (List.map cI_i64 v15) (some 1))] [⟨0,[.list 1 (List.map cI_i64 v1) (some 0)]⟩,⟨0,(cGCost r18.2.1)⟩] [v1.length,v15.length] 0 0)/\v15=x29) ?_ ?_
    ·refine PC.loop (λ j31 s=>∃ (v18:List Int) (v19:Int),Weak s (PS.ofm [none] 103 [(0,.list 13 (List.map cGItem a0) none),(1,vI a1),(2,vI a2),(6,vB false),(7,vB true),(8,vP 0),(10,.list 1 (List.map cI_i64 r18.1) none),(11,vP 1),(13,vB v10),(14,vI v11),(15,.list 1 (List.map cI_i64 v18) (some 1)),(16,vI v19)] [⟨0,[.list 1 (List.map cI_i64 v1) (some 0)]⟩,⟨0,(cGCost r18.2.1)⟩] [v1.length,v18.length] 0 0)/\F6_l3 k v1 v11 j31 v18 v19=some x29) (λ j31 s=>?_) k ⟨([] : List Int),0,Weak.one [0,1] [0,1] (by kernel_rfl),e30⟩
     rintro⟨v18,v19,w32,e30⟩
     refine PC.weak w32 ?_
     obtain _ | j31:=j31
     · rw[F6_l3] at e30; cases e30
     rw[F6_l3] at e30
     refine PC.assoc ?_
     refine PC.region ?_
     refine PO.run 2 rfl ?_
     refine PO.same rfl (len_ok Try.underlying34 rfl (List.length_map _)) rfl ?_
     refine PO.run 1 rfl ?_
     refine PO.nil ?_
     refine PC.cond rfl (λ h33=>?_) (λ h33=>?_)
     ·have e30:=bif_t h33 e30
      refine PC.noop ?_
      refine bindK e30 (λ x34 e35 e30=>?_)
      refine PC.blockJ (λ s=>∃ (v22:List Int),Weak s (PS.ofm [none] 103 [(0,.list 13 (List.map cGItem a0) none),(1,vI a1),(2,vI a2),(6,vB false),(7,vB true),(8,vP 0),(10,.list 1 (List.map cI_i64 r18.1) none),(11,vP 1),(13,vB v10),(14,vI v11),(15,.list 1 (List.map cI_i64 v22) (some 1)),(16,vI v19)] [⟨0,[.list 1 (List.map cI_i64 v1) (some 0)]⟩,⟨0,(cGCost r18.2.1)⟩] [v1.length,v22.length] 0 0)/\v22=x34) ?_ ?_
      ·refine PC.region ?_
       refine PO.run 2 rfl ?_
       obtain⟨h36,e35⟩:=bindP_some e35
       refine PO.same rfl (shr_ok rfl rfl h36) rfl ?_
       refine PO.run 2 rfl ?_
       refine PO.nil ?_
       refine PC.lone ?_
       refine PC.cond rfl (λ h37=>?_) (λ h37=>?_)
       ·have e35:=bif_t h37 e35
        refine PC.region ?_
        refine PO.run 3 rfl ?_
        refine bindIK e35 (λ y23 h38 h39 e35=>?_)
        refine PO.same rfl (indexAddr_ok Try.underlying34 rfl rfl rfl h38 (map_at h39)) rfl ?_
        refine oK 2 [0,1] [0,1,2] [(0,.list 13 (List.map cGItem a0) none),(1,vI a1),(2,vI a2),(6,vB false),(7,vB true),(8,vP 0),(10,.list 1 (List.map cI_i64 r18.1) none),(11,vP 1),(13,vB v10),(14,vI v11),(15,.list 1 (List.map cI_i64 v18) (some 1)),(16,vI v19),(71,.list 1 (List.map cI_i64 v18) (some 1)),(76,.list 1 (List.map cI_i64 ([y23])) (some 2))] [⟨0,[.list 1 (List.map cI_i64 v1) (some 0)]⟩,⟨0,(cGCost r18.2.1)⟩] [v1.length,v18.length,1] (by kernel_rfl) ?_
        refine bindAK e35 (λ h40 e35=>?_)
        generalize hgl24:v18++([y23])=l24 at e35
        refine PO.one rfl (append_typed (L:=v18) (M:=[y23]) (f:=cI_i64) (sz:=1) (bytes:=8) Try.underlying34 rfl rfl rfl rfl rfl rfl rfl rfl rfl rfl rfl rfl h40 hgl24) rfl ?_
        refine PO.run 1 rfl ?_
        refine PO.nil ?_
        exact PC.skip (blockJK.end ⟨l24,Weak.one [0,1] [0,1] (by kernel_rfl),Option.some.inj e35⟩)
       have e35:=bif_f h37 e35
       refine PC.noop ?_
       exact PC.skip (blockJK.end ⟨v18,Weak.one [0,1] [0,1] (by kernel_rfl),Option.some.inj e35⟩)
      rintro _ ⟨v22,w41,rfl⟩
      refine PC.weak w41 ?_
      refine PC.lone ?_
      refine PC.run (n:=4) rfl ?_
      exact PC.skip (loopKP.mk (Nat.lt_succ_self _) ⟨v22,w (v19+1),Weak.one [0,1] [0,1] (by kernel_rfl),e30⟩)
     have e30:=bif_f h33 e30
     exact PC.exit (loopKP.exit (blockJK.here ⟨v18,Weak.one [0,1] [0,1] (by kernel_rfl),Option.some.inj e30⟩))
    rintro _ ⟨v15,w42,rfl⟩
    refine PC.weak w42 ?_
    refine PC.region ?_
    refine PO.run 4 rfl ?_
    refine bindK e28 (λ r43 e44 e28=>?_)
    refine PO.call rfl rfl rfl rfl (ks:=[]) (ts:=[]) (fr1:=[]) rfl rfl rfl trivial (L22 k a0 a1 a2 v15 _ e44) ?_
    rintro _ _ _ ⟨rfl,rfl,rfl⟩
    refine⟨_,_,rfl,rfl,?_⟩
    refine oK 6 [0,1,2] [0,1] [(0,.list 13 (List.map cGItem a0) none),(1,vI a1),(2,vI a2),(6,vB false),(7,vB true),(8,vP 0),(10,.list 1 (List.map cI_i64 r18.1) none),(11,vP 1),(13,vB v10),(14,vI v11),(15,.list 1 (List.map cI_i64 v15) (some 1)),(17,vP 2),(18,vI r43.2)] [⟨0,[.list 1 (List.map cI_i64 v1) (some 0)]⟩,⟨0,(cGCost r18.2.1)⟩,⟨0,(cGCost r43.1)⟩] [v1.length,v15.length] (by kernel_rfl) ?_
    refine PO.nil ?_
    refine PC.assoc ?_
    refine PC.run (n:=3) rfl ?_
    refine PC.cond rfl (λ h45=>?_) (λ h45=>?_)
    ·have e28:=bif_t h45 e28
     exact PC.exit (blockJK.here ⟨v10,Weak.one [0,1] [0] (by kernel_rfl),Option.some.inj e28⟩)
    have e28:=bif_f h45 e28
    refine PC.noop ?_
    refine PC.assoc ?_
    refine PC.region ?_
    refine PO.run 4 rfl ?_
    refine bindK e28 (λ r46 e47 e28=>?_)
    refine PO.call rfl rfl rfl rfl (ks:=[]) (ts:=[]) (fr1:=[]) rfl rfl rfl trivial (L24 k r43.1 v15 r18.2.1 r18.1 _ e47) ?_
    rintro _ _ _ ⟨rfl,rfl,rfl⟩
    refine⟨_,_,rfl,rfl,?_⟩
    refine PO.nil ?_
    refine PC.cond rfl (λ h48=>?_) (λ h48=>?_)
    ·have e28:=bif_t h48 e28
     refine PC.assoc ?_
     refine PC.run (n:=2) rfl ?_
     have hq:=Option.some.inj e28
     subst hq
     have hq:=Option.some.inj e22
     subst hq
     have hq:=Option.some.inj hF
     subst hq
     exact PC.ret (blockJK.back (loopKP.ret (blockJK.back (retMK [] [] (by kernel_rfl) (.refl _) ⟨rfl,rfl,rfl⟩))))
    have e28:=bif_f h48 e28
    refine PC.noop ?_
    refine PC.lone ?_
    refine PC.region ?_
    refine PO.run 2 rfl ?_
    refine bindK e28 (λ x49 e50 e28=>?_)
    refine PO.cut 4 (λ s=>∃ (v25:Bool),Weak s (PS.ofm [none] 103 [(0,.list 13 (List.map cGItem a0) none),(1,vI a1),(2,vI a2),(6,vB false),(7,vB true),(8,vP 0),(10,.list 1 (List.map cI_i64 r18.1) none),(11,vP 1),(13,vB v10),(14,vI v11),(98,vB v25)] [⟨0,[.list 1 (List.map cI_i64 v1) (some 0)]⟩,⟨0,(cGCost r18.2.1)⟩] [v1.length] 0 0)/\v25=x49) ?_ ?_
    ·refine PO.case (t:=94) rfl rfl (λ h51=>?_) (λ h51=>?_)
     ·have e50:=bif_t h51 e50
      refine PO.run 3 rfl ?_
      refine PO.same rfl (pickT_ok rfl rfl rfl) rfl ?_
      refine PO.nil ?_
      exact⟨true,Weak.one [0,1] [0] (by kernel_rfl),Option.some.inj e50⟩
     have e50:=bif_f h51 e50
     refine PO.run 2 rfl ?_
     refine bindK e50 (λ r52 e53 e50=>?_)
     refine PO.call rfl rfl rfl rfl (ks:=[]) (ts:=[]) (fr1:=[]) rfl rfl rfl trivial (L13 k v15 r18.1 _ e53) ?_
     rintro _ _ _ ⟨rfl,rfl,rfl⟩
     refine⟨_,_,rfl,rfl,?_⟩
     refine PO.same rfl (pickF_ok rfl rfl rfl) rfl ?_
     refine PO.nil ?_
     exact⟨r52,Weak.one [0,1] [0] (by kernel_rfl),Option.some.inj e50⟩
    rintro _ ⟨v25,w54,rfl⟩
    refine PO.weak w54 ?_
    refine PO.run 1 rfl ?_
    refine PO.nil ?_
    exact PC.skip (blockJK.end ⟨v25,Weak.one [0,1] [0] (by kernel_rfl),Option.some.inj e28⟩)
   rintro _ ⟨v14,w55,rfl⟩
   refine PC.weak w55 ?_
   have e22:=elim_l e22
   refine PC.lone ?_
   refine PC.run (n:=4) rfl ?_
   exact PC.skip (loopKP.mk (Nat.lt_succ_self _) ⟨v14,w (v11+1),Weak.one [0,1] [0] (by kernel_rfl),e22⟩)
  have e22:=bif_f h26 e22
  exact PC.exit (loopKP.exit (blockJK.here ⟨v10,Weak.one [] [] (by kernel_rfl),Option.some.inj e22⟩))
 rintro _ ⟨v7,w56,rfl⟩
 refine PC.weak w56 ?_
 have hF:=elim_l hF
 refine PC.region ?_
 refine PO.run 3 rfl ?_
 refine PO.same rfl (pickT_ok rfl rfl rfl) rfl ?_
 refine PO.run 1 rfl ?_
 refine PO.nil ?_
 have hq:=Option.some.inj hF
 subst hq
 exact PC.ret' (retMK [] [] (by kernel_rfl) (.refl _) ⟨rfl,rfl,rfl⟩)
end
end Go.Eng.Lift
