import Derived.Test.YtdehaeillolhbaaM30
import Derived.Test.YtdehaeillolhbaaX8c
import Derived.Test.YtdehaeillolhbaaProg
import Derived.KernelRfl
set_option maxRecDepth 100000
set_option maxHeartbeats 4000000
namespace Go.Eng.Lift
open Go.Proofs
noncomputable section
/-! 50 platen/line.way -/
def F50_l1 (k:Nat) (a0:List GItem) (a1:List Int):Nat->Int->Int->Option ((Int) ⊕ (Bool))
  | 0,_,_=>none
  | j3+1,v4,v5=>
    bif decide (v5 < (a1.length:Int)) then(bindI a1 v5 λ y8=>
    Option.bind (α:=Bool) (bif decide (y8<=v4) then(some true) else(Option.bind (α:=Bool) (bif decide (y8>=(a0.length:Int)) then(some true) else((F71 k a0 y8).bind λ r14=>
    Option.bind (α:=Bool) (bif !r14 then(some true) else(bindS a0 (w (v4+1)) y8 λ l12=>
    (F74_75 k l12).bind λ r22=>
    some r22)) λ(v11:Bool)=>
    some v11)) λ(v10:Bool)=>
    some v10)) λ(v9:Bool)=>
    bif v9 then(some (.inr false)) else(F50_l1 k a0 a1 j3 y8 (w (v5+1)))) else(some (.inl v4))
def F50 (k:Nat) (a0:List GItem) (a1:List Int):Option Bool:=
Option.bind (α:=(Int) ⊕ (Bool)) (F50_l1 k a0 a1 k (-1) 0) (Sum.elim (λ(v1:Int)=>
bindS a0 (w (v1+1)) (a0.length:Int) λ l13=>
(F74_75 k l13).bind λ r32=>
some (!r32)) some)
theorem L50 (k:Nat) (a0:List GItem) (a1:List Int) (r:Bool) (hF:F50 k a0 a1=some r):PF Try.prog orc 50 [.list 13 (List.map cGItem a0) none,.list 1 (List.map cI_i64 a1) none] [] [] (λ p fr tk=>p=vB r/\fr=[]/\tk=[]):=by
 unfold F50 at hF
 refine PF.enterS Try.func50 rfl rfl rfl (by kernel_rfl) rfl ?_
 refine PC.run (n:=2) rfl ?_
 refine PC.run (n:=2) rfl ?_
 refine PC.assoc ?_
 refine PC.region ?_
 refine PO.run 1 rfl ?_
 refine PO.same rfl (len_ok Try.underlying34 rfl (List.length_map _)) rfl ?_
 refine PO.run 1 rfl ?_
 refine PO.nil ?_
 refine bindK hF (λ x1 e2 hF=>?_)
 refine PC.blockJ (λ s=>∃ (v1:Int),Weak s (PS.of 45 [(0,.list 13 (List.map cGItem a0) none),(4,vB false),(5,vI v1)] [] [] 0 0)/\.inl v1=x1) ?_ ?_
 ·refine PC.loop (λ j3 s=>∃ (v4:Int) (v5:Int),Weak s (PS.of 45 [(0,.list 13 (List.map cGItem a0) none),(4,vB false),(5,vI v4),(8,.list 1 (List.map cI_i64 a1) none),(9,vI (a1.length:Int)),(10,vI v5)] [] [] 0 0)/\F50_l1 k a0 a1 j3 v4 v5=some x1) (λ j3 s=>?_) k ⟨(-1),0,Weak.one [] [] (by kernel_rfl),e2⟩
  rintro⟨v4,v5,w4,e2⟩
  refine PC.weak w4 ?_
  obtain _ | j3:=j3
  · rw[F50_l1] at e2; cases e2
  rw[F50_l1] at e2
  refine PC.run (n:=2) rfl ?_
  refine PC.cond rfl (λ h5=>?_) (λ h5=>?_)
  ·have e2:=bif_t h5 e2
   refine PC.noop ?_
   refine PC.block ?_
   refine PC.region ?_
   refine bindIK e2 (λ y8 h6 h7 e2=>?_)
   refine PO.same rfl (indexAddr_ok Try.underlying34 rfl rfl rfl h6 (map_at h7)) rfl ?_
   refine PO.run 2 rfl ?_
   refine PO.nil ?_
   refine PC.assoc ?_
   refine PC.region ?_
   refine PO.run 4 rfl ?_
   refine bindK e2 (λ x8 e9 e2=>?_)
   refine PO.cut 19 (λ s=>∃ (v9:Bool),Weak s (PS.of 45 [(0,.list 13 (List.map cGItem a0) none),(4,vB false),(5,vI v4),(7,vI y8),(8,.list 1 (List.map cI_i64 a1) none),(9,vI (a1.length:Int)),(10,vI v5),(36,vB v9)] [] [] 0 0)/\v9=x8) ?_ ?_
   ·refine PO.case (t:=17) rfl rfl (λ h10=>?_) (λ h10=>?_)
    ·have e9:=bif_t h10 e9
     refine PO.run 4 rfl ?_
     refine PO.same rfl (pickT_ok rfl rfl rfl) rfl ?_
     refine PO.run 5 rfl ?_
     refine PO.same rfl (pickT_ok rfl rfl rfl) rfl ?_
     refine PO.run 7 rfl ?_
     refine PO.same rfl (pickT_ok rfl rfl rfl) rfl ?_
     refine PO.nil ?_
     exact⟨true,Weak.one [] [] (by kernel_rfl),Option.some.inj e9⟩
    have e9:=bif_f h10 e9
    refine PO.run 2 rfl ?_
    refine PO.same rfl (len_ok Try.underlying22 rfl (List.length_map _)) rfl ?_
    refine PO.run 1 rfl ?_
    refine PO.same rfl (pickF_ok rfl rfl rfl) rfl ?_
    refine PO.run 1 rfl ?_
    refine bindK e9 (λ x11 e12 e9=>?_)
    refine PO.cut 13 (λ s=>∃ (v10:Bool),Weak s (PS.of 45 [(0,.list 13 (List.map cGItem a0) none),(4,vB false),(5,vI v4),(7,vI y8),(8,.list 1 (List.map cI_i64 a1) none),(9,vI (a1.length:Int)),(10,vI v5),(36,vB v10)] [] [] 0 0)/\v10=x11) ?_ ?_
    ·refine PO.case (t:=23) rfl rfl (λ h13=>?_) (λ h13=>?_)
     ·have e12:=bif_t h13 e12
      refine PO.run 4 rfl ?_
      refine PO.same rfl (pickT_ok rfl rfl rfl) rfl ?_
      refine PO.run 7 rfl ?_
      refine PO.same rfl (pickT_ok rfl rfl rfl) rfl ?_
      refine PO.nil ?_
      exact⟨true,Weak.one [] [] (by kernel_rfl),Option.some.inj e12⟩
     have e12:=bif_f h13 e12
     refine PO.run 2 rfl ?_
     refine bindK e12 (λ r14 e15 e12=>?_)
     refine PO.call rfl rfl rfl rfl (ks:=[]) (ts:=[]) (fr1:=[]) rfl rfl rfl trivial (L71 k a0 y8 _ e15) ?_
     rintro _ _ _ ⟨rfl,rfl,rfl⟩
     refine⟨_,_,rfl,rfl,?_⟩
     refine PO.run 1 rfl ?_
     refine PO.same rfl (pickF_ok rfl rfl rfl) rfl ?_
     refine PO.run 1 rfl ?_
     refine bindK e12 (λ x16 e17 e12=>?_)
     refine PO.cut 7 (λ s=>∃ (v11:Bool),Weak s (PS.of 45 [(0,.list 13 (List.map cGItem a0) none),(4,vB false),(5,vI v4),(7,vI y8),(8,.list 1 (List.map cI_i64 a1) none),(9,vI (a1.length:Int)),(10,vI v5),(36,vB v11)] [] [] 0 0)/\v11=x16) ?_ ?_
     ·refine PO.case (t:=29) rfl rfl (λ h18=>?_) (λ h18=>?_)
      ·have e17:=bif_t h18 e17
       refine PO.run 6 rfl ?_
       refine PO.same rfl (pickT_ok rfl rfl rfl) rfl ?_
       refine PO.nil ?_
       exact⟨true,Weak.one [] [] (by kernel_rfl),Option.some.inj e17⟩
      have e17:=bif_f h18 e17
      refine PO.run 4 rfl ?_
      refine bindSK e17 (λ h19 h20 h21 e17=>?_)
      generalize hgl12:(List.take (Int.toNat y8) a0).drop (Int.toNat (w (v4+1)))=l12 at e17
      refine PO.same rfl (slice_ok (l2:=List.map cGItem l12) Try.underlying22 rfl rfl (.some rfl h19 rfl) (.some rfl (Int.le_trans h19 h20) rfl) (Int.toNat_le_toNat h20) (toNat_le1 h21) (by rw[<- hgl12,List.map_drop,List.map_take] <;> first | rfl | simp[w])) rfl ?_
      refine bindK e17 (λ r22 e23 e17=>?_)
      refine PO.call rfl rfl rfl rfl (ks:=[]) (ts:=[]) (fr1:=[]) rfl rfl rfl trivial (L74_75 k l12 _ e23) ?_
      rintro _ _ _ ⟨rfl,rfl,rfl⟩
      refine⟨_,_,rfl,rfl,?_⟩
      refine PO.same rfl (pickF_ok rfl rfl rfl) rfl ?_
      refine PO.nil ?_
      exact⟨r22,Weak.one [] [] (by kernel_rfl),Option.some.inj e17⟩
     rintro _ ⟨v11,w24,rfl⟩
     refine PO.weak w24 ?_
     refine PO.nil ?_
     exact⟨v11,Weak.one [] [] (by kernel_rfl),Option.some.inj e12⟩
    rintro _ ⟨v10,w25,rfl⟩
    refine PO.weak w25 ?_
    refine PO.nil ?_
    exact⟨v10,Weak.one [] [] (by kernel_rfl),Option.some.inj e9⟩
   rintro _ ⟨v9,w26,rfl⟩
   refine PO.weak w26 ?_
   refine PO.nil ?_
   refine PC.cond rfl (λ h27=>?_) (λ h27=>?_)
   ·have e2:=bif_t h27 e2
    refine PC.assoc ?_
    refine PC.run (n:=2) rfl ?_
    have hq:=Option.some.inj e2
    subst hq
    have hq:=Option.some.inj hF
    subst hq
    exact PC.ret (blockKP.back (loopKP.ret (blockJK.back (retSK [] [] (by kernel_rfl) (.refl _) ⟨rfl,rfl,rfl⟩))))
   have e2:=bif_f h27 e2
   refine PC.noop ?_
   refine PC.lone ?_
   refine PC.run (n:=3) rfl ?_
   refine PC.skip (blockKP.end ?_)
   refine PC.lone ?_
   refine PC.run (n:=3) rfl ?_
   exact PC.skip (loopKP.mk (Nat.lt_succ_self _) ⟨y8,w (v5+1),Weak.one [] [] (by kernel_rfl),e2⟩)
  have e2:=bif_f h5 e2
  exact PC.exit (loopKP.exit (blockJK.here ⟨v4,Weak.one [] [] (by kernel_rfl),Option.some.inj e2⟩))
 rintro _ ⟨v1,w28,rfl⟩
 refine PC.weak w28 ?_
 have hF:=elim_l hF
 refine PC.region ?_
 refine PO.run 3 rfl ?_
 refine bindSK hF (λ h29 h30 h31 hF=>?_)
 generalize hgl13:(List.take (Int.toNat (a0.length:Int)) a0).drop (Int.toNat (w (v1+1)))=l13 at hF
 refine PO.same rfl (slice_ok (l2:=List.map cGItem l13) Try.underlying22 rfl rfl (.some rfl h29 rfl) .none (toNat_le1 h30) (Nat.le_refl _) (by rw[<- hgl13,List.map_drop,List.map_take] <;> first | rfl | simp[w])) rfl ?_
 refine bindK hF (λ r32 e33 hF=>?_)
 refine PO.call rfl rfl rfl rfl (ks:=[]) (ts:=[]) (fr1:=[]) rfl rfl rfl trivial (L74_75 k l13 _ e33) ?_
 rintro _ _ _ ⟨rfl,rfl,rfl⟩
 refine⟨_,_,rfl,rfl,?_⟩
 refine PO.run 2 rfl ?_
 refine PO.nil ?_
 have hq:=Option.some.inj hF
 subst hq
 exact PC.ret' (retSK [] [] (by kernel_rfl) (.refl _) ⟨rfl,rfl,rfl⟩)
def F22_l1 (k:Nat) (a0:List GItem) (a1:Int) (a2:Int) (a3:List Int):Nat->Int->Int->GCost->Int->Int->Int->Int->Int->Int->Int->Int->Int->Bool->Bool->Bool->Int->Int->Option GCost
  | 0,_,_,_,_,_,_,_,_,_,_,_,_,_,_,_,_,_=>none
  | j28+1,v29,v30,v33,v34,v35,v36,v37,v38,v39,v40,v41,v42,v43,v44,v45,v46,v47=>
    bif decide (v30 < (a3.length:Int)) then(bindI a3 v30 λ y68=>
    (F51 k a0 a1 v29 y68).bind λ r33=>
    Option.bind (α:=Bool) (bif r33.over_ then(some true) else(some (decide (r33.bad > a2)))) λ(v69:Bool)=>
    Option.bind (α:=Int) (bif v69 then(some (w (v33.bad+1))) else(some v33.bad)) λ(v70:Int)=>
    (F52 k a0 (GLine.mk v34 v35 v36 v37 v38 v39 v40 v41 v42 v43 v44 v45 v46 v47) r33).bind λ r43=>
    F22_l1 k a0 a1 a2 a3 j28 y68 (w (v30+1)) (GCost.mk v70 (w (v33.total+r43)) v33.lines) r33.first r33.last r33.break_ r33.natural r33.stretch r33.shrink r33.short r33.bad r33.class_ r33.over_ r33.hyphen r33.end_ r33.height r33.depth) else(some v33)
def F22 (k:Nat) (a0:List GItem) (a1:Int) (a2:Int) (a3:List Int):Option (GCost×Int):=
(F21 k a0).bind λ r1=>
Option.bind (α:=Bool) (bif r1 != 0 then(some true) else(Option.bind (α:=Bool) (bif decide (a1 < 1) then(some true) else(Option.bind (α:=Bool) (bif decide (a1 > 536870912) then(some true) else(Option.bind (α:=Bool) (bif decide (a2 < 0) then(some true) else(Option.bind (α:=Bool) (bif decide (a2 > 10000) then(some true) else((F50 k a0 a3).bind λ r18=>
some (!r18))) λ(v5:Bool)=>
some v5)) λ(v4:Bool)=>
some v4)) λ(v3:Bool)=>
some v3)) λ(v2:Bool)=>
some v2)) λ(v1:Bool)=>
bif v1 then(some ((GCost.mk 0 0 0),1)) else(Option.bind (α:=GCost) (F22_l1 k a0 a1 a2 a3 k (-1) 0 (GCost.mk 0 0 (a3.length:Int)) (-1) 0 0 0 0 0 0 0 0 false false false 0 0) λ(v9:GCost)=>
some (v9,0))
theorem L22 (k:Nat) (a0:List GItem) (a1:Int) (a2:Int) (a3:List Int) (r:GCost×Int) (hF:F22 k a0 a1 a2 a3=some r):PF Try.prog orc 22 [.list 13 (List.map cGItem a0) none,vI a1,vI a2,.list 1 (List.map cI_i64 a3) none] [] [] (λ p fr tk=>p=.tup [.agg (cGCost r.1),vI r.2]/\fr=[]/\tk=[]):=by
 unfold F22 at hF
 refine PF.enterS Try.func22 rfl rfl rfl (by kernel_rfl) rfl ?_
 refine PC.region ?_
 refine oK 2 [0] [] [(0,.list 13 (List.map cGItem a0) none),(1,vI a1),(2,vI a2),(3,.list 1 (List.map cI_i64 a3) none),(8,vP 0),(9,vI 0)] [⟨0,[vI 0,vI 0,vI 0]⟩] [] (by kernel_rfl) ?_
 refine PO.nil ?_
 refine PC.assoc ?_
 refine PC.region ?_
 refine PO.run 1 rfl ?_
 refine bindK hF (λ r1 e2 hF=>?_)
 refine PO.call rfl rfl rfl rfl (ks:=[]) (ts:=[]) (fr1:=[]) rfl rfl rfl trivial (L21 k a0 _ e2) ?_
 rintro _ _ _ ⟨rfl,rfl,rfl⟩
 refine⟨_,_,rfl,rfl,?_⟩
 refine PO.run 2 rfl ?_
 refine bindK hF (λ x3 e4 hF=>?_)
 refine PO.cut 21 (λ s=>∃ (v1:Bool),Weak s (PS.of 81 [(0,.list 13 (List.map cGItem a0) none),(1,vI a1),(2,vI a2),(3,.list 1 (List.map cI_i64 a3) none),(8,vP 0),(9,vI 0),(40,vB v1)] [⟨0,[vI 0,vI 0,vI 0]⟩] [] 0 0)/\v1=x3) ?_ ?_
 ·refine PO.case (t:=19) rfl rfl (λ h5=>?_) (λ h5=>?_)
  ·have e4:=bif_t h5 e4
   refine PO.run 2 rfl ?_
   refine PO.same rfl (pickT_ok rfl rfl rfl) rfl ?_
   refine PO.run 3 rfl ?_
   refine PO.same rfl (pickT_ok rfl rfl rfl) rfl ?_
   refine PO.run 3 rfl ?_
   refine PO.same rfl (pickT_ok rfl rfl rfl) rfl ?_
   refine PO.run 3 rfl ?_
   refine PO.same rfl (pickT_ok rfl rfl rfl) rfl ?_
   refine PO.run 5 rfl ?_
   refine PO.same rfl (pickT_ok rfl rfl rfl) rfl ?_
   refine PO.nil ?_
   exact⟨true,Weak.one [0] [] (by kernel_rfl),Option.some.inj e4⟩
  have e4:=bif_f h5 e4
  refine PO.run 2 rfl ?_
  refine PO.same rfl (pickF_ok rfl rfl rfl) rfl ?_
  refine PO.run 1 rfl ?_
  refine bindK e4 (λ x6 e7 e4=>?_)
  refine PO.cut 17 (λ s=>∃ (v2:Bool),Weak s (PS.of 81 [(0,.list 13 (List.map cGItem a0) none),(1,vI a1),(2,vI a2),(3,.list 1 (List.map cI_i64 a3) none),(8,vP 0),(9,vI 0),(40,vB v2)] [⟨0,[vI 0,vI 0,vI 0]⟩] [] 0 0)/\v2=x6) ?_ ?_
  ·refine PO.case (t:=23) rfl rfl (λ h8=>?_) (λ h8=>?_)
   ·have e7:=bif_t h8 e7
    refine PO.run 2 rfl ?_
    refine PO.same rfl (pickT_ok rfl rfl rfl) rfl ?_
    refine PO.run 3 rfl ?_
    refine PO.same rfl (pickT_ok rfl rfl rfl) rfl ?_
    refine PO.run 3 rfl ?_
    refine PO.same rfl (pickT_ok rfl rfl rfl) rfl ?_
    refine PO.run 5 rfl ?_
    refine PO.same rfl (pickT_ok rfl rfl rfl) rfl ?_
    refine PO.nil ?_
    exact⟨true,Weak.one [0] [] (by kernel_rfl),Option.some.inj e7⟩
   have e7:=bif_f h8 e7
   refine PO.run 2 rfl ?_
   refine PO.same rfl (pickF_ok rfl rfl rfl) rfl ?_
   refine PO.run 1 rfl ?_
   refine bindK e7 (λ x9 e10 e7=>?_)
   refine PO.cut 13 (λ s=>∃ (v3:Bool),Weak s (PS.of 81 [(0,.list 13 (List.map cGItem a0) none),(1,vI a1),(2,vI a2),(3,.list 1 (List.map cI_i64 a3) none),(8,vP 0),(9,vI 0),(40,vB v3)] [⟨0,[vI 0,vI 0,vI 0]⟩] [] 0 0)/\v3=x9) ?_ ?_
   ·refine PO.case (t:=27) rfl rfl (λ h11=>?_) (λ h11=>?_)
    ·have e10:=bif_t h11 e10
     refine PO.run 2 rfl ?_
     refine PO.same rfl (pickT_ok rfl rfl rfl) rfl ?_
     refine PO.run 3 rfl ?_
     refine PO.same rfl (pickT_ok rfl rfl rfl) rfl ?_
     refine PO.run 5 rfl ?_
     refine PO.same rfl (pickT_ok rfl rfl rfl) rfl ?_
     refine PO.nil ?_
     exact⟨true,Weak.one [0] [] (by kernel_rfl),Option.some.inj e10⟩
    have e10:=bif_f h11 e10
    refine PO.run 2 rfl ?_
    refine PO.same rfl (pickF_ok rfl rfl rfl) rfl ?_
    refine PO.run 1 rfl ?_
    refine bindK e10 (λ x12 e13 e10=>?_)
    refine PO.cut 9 (λ s=>∃ (v4:Bool),Weak s (PS.of 81 [(0,.list 13 (List.map cGItem a0) none),(1,vI a1),(2,vI a2),(3,.list 1 (List.map cI_i64 a3) none),(8,vP 0),(9,vI 0),(40,vB v4)] [⟨0,[vI 0,vI 0,vI 0]⟩] [] 0 0)/\v4=x12) ?_ ?_
    ·refine PO.case (t:=31) rfl rfl (λ h14=>?_) (λ h14=>?_)
     ·have e13:=bif_t h14 e13
      refine PO.run 2 rfl ?_
      refine PO.same rfl (pickT_ok rfl rfl rfl) rfl ?_
      refine PO.run 5 rfl ?_
      refine PO.same rfl (pickT_ok rfl rfl rfl) rfl ?_
      refine PO.nil ?_
      exact⟨true,Weak.one [0] [] (by kernel_rfl),Option.some.inj e13⟩
     have e13:=bif_f h14 e13
     refine PO.run 2 rfl ?_
     refine PO.same rfl (pickF_ok rfl rfl rfl) rfl ?_
     refine PO.run 1 rfl ?_
     refine bindK e13 (λ x15 e16 e13=>?_)
     refine PO.cut 5 (λ s=>∃ (v5:Bool),Weak s (PS.of 81 [(0,.list 13 (List.map cGItem a0) none),(1,vI a1),(2,vI a2),(3,.list 1 (List.map cI_i64 a3) none),(8,vP 0),(9,vI 0),(40,vB v5)] [⟨0,[vI 0,vI 0,vI 0]⟩] [] 0 0)/\v5=x15) ?_ ?_
     ·refine PO.case (t:=35) rfl rfl (λ h17=>?_) (λ h17=>?_)
      ·have e16:=bif_t h17 e16
       refine PO.run 4 rfl ?_
       refine PO.same rfl (pickT_ok rfl rfl rfl) rfl ?_
       refine PO.nil ?_
       exact⟨true,Weak.one [0] [] (by kernel_rfl),Option.some.inj e16⟩
      have e16:=bif_f h17 e16
      refine PO.run 2 rfl ?_
      refine bindK e16 (λ r18 e19 e16=>?_)
      refine PO.call rfl rfl rfl rfl (ks:=[]) (ts:=[]) (fr1:=[]) rfl rfl rfl trivial (L50 k a0 a3 _ e19) ?_
      rintro _ _ _ ⟨rfl,rfl,rfl⟩
      refine⟨_,_,rfl,rfl,?_⟩
      refine PO.run 1 rfl ?_
      refine PO.same rfl (pickF_ok rfl rfl rfl) rfl ?_
      refine PO.nil ?_
      exact⟨!r18,Weak.one [0] [] (by kernel_rfl),Option.some.inj e16⟩
     rintro _ ⟨v5,w20,rfl⟩
     refine PO.weak w20 ?_
     refine PO.nil ?_
     exact⟨v5,Weak.one [0] [] (by kernel_rfl),Option.some.inj e13⟩
    rintro _ ⟨v4,w21,rfl⟩
    refine PO.weak w21 ?_
    refine PO.nil ?_
    exact⟨v4,Weak.one [0] [] (by kernel_rfl),Option.some.inj e10⟩
   rintro _ ⟨v3,w22,rfl⟩
   refine PO.weak w22 ?_
   refine PO.nil ?_
   exact⟨v3,Weak.one [0] [] (by kernel_rfl),Option.some.inj e7⟩
  rintro _ ⟨v2,w23,rfl⟩
  refine PO.weak w23 ?_
  refine PO.nil ?_
  exact⟨v2,Weak.one [0] [] (by kernel_rfl),Option.some.inj e4⟩
 rintro _ ⟨v1,w24,rfl⟩
 refine PO.weak w24 ?_
 refine PO.nil ?_
 refine PC.cond rfl (λ h25=>?_) (λ h25=>?_)
 ·have hF:=bif_t h25 hF
  refine PC.assoc ?_
  refine PC.region ?_
  refine oK 3 [0] [] [(8,vP 0),(9,vI 1)] [⟨0,[vI 0,vI 0,vI 0]⟩] [] (by kernel_rfl) ?_
  refine PO.nil ?_
  have hq:=Option.some.inj hF
  subst hq
  exact PC.ret (retSK [] [] (by kernel_rfl) (.refl _) ⟨rfl,rfl,rfl⟩)
 have hF:=bif_f h25 hF
 refine PC.noop ?_
 refine PC.region ?_
 refine PO.run 1 rfl ?_
 refine PO.same rfl (len_ok Try.underlying34 rfl (List.length_map _)) rfl ?_
 refine oK 3 [0,1] [] [(0,.list 13 (List.map cGItem a0) none),(1,vI a1),(2,vI a2),(3,.list 1 (List.map cI_i64 a3) none),(8,vP 0),(9,vI 0),(10,vP 1)] [⟨0,[vI 0,vI 0,vI 0]⟩,⟨0,[vI 0,vI 0,vI (a3.length:Int)]⟩] [] (by kernel_rfl) ?_
 refine PO.nil ?_
 refine PC.region ?_
 refine oK 4 [0,1,2] [] [(0,.list 13 (List.map cGItem a0) none),(1,vI a1),(2,vI a2),(3,.list 1 (List.map cI_i64 a3) none),(8,vP 0),(9,vI 0),(10,vP 1),(11,vP 2),(12,vI (-1))] [⟨0,[vI 0,vI 0,vI 0]⟩,⟨0,[vI 0,vI 0,vI (a3.length:Int)]⟩,⟨0,[vI (-1),vI 0,vI 0,vI 0,vI 0,vI 0,vI 0,vI 0,vI 0,vB false,vB false,vB false,vI 0,vI 0]⟩] [] (by kernel_rfl) ?_
 refine PO.nil ?_
 refine PC.assoc ?_
 refine PC.region ?_
 refine PO.run 1 rfl ?_
 refine PO.same rfl (len_ok Try.underlying34 rfl (List.length_map _)) rfl ?_
 refine PO.run 1 rfl ?_
 refine PO.nil ?_
 refine bindK hF (λ x26 e27 hF=>?_)
 refine PC.blockJ (λ s=>∃ (v9:GCost),Weak s (PS.of 81 [(8,vP 0),(9,vI 0),(10,vP 1)] [⟨0,[vI 0,vI 0,vI 0]⟩,⟨0,(cGCost v9)⟩] [] 0 0)/\v9=x26) ?_ ?_
 ·refine PC.loop (λ j28 s=>∃ (v29:Int) (v30:Int) (v33:GCost) (v34:Int) (v35:Int) (v36:Int) (v37:Int) (v38:Int) (v39:Int) (v40:Int) (v41:Int) (v42:Int) (v43:Bool) (v44:Bool) (v45:Bool) (v46:Int) (v47:Int),Weak s (PS.of 81 [(0,.list 13 (List.map cGItem a0) none),(1,vI a1),(2,vI a2),(8,vP 0),(9,vI 0),(10,vP 1),(11,vP 2),(12,vI v29),(46,.list 1 (List.map cI_i64 a3) none),(47,vI (a3.length:Int)),(48,vI v30)] [⟨0,[vI 0,vI 0,vI 0]⟩,⟨0,(cGCost v33)⟩,⟨0,[vI v34,vI v35,vI v36,vI v37,vI v38,vI v39,vI v40,vI v41,vI v42,vB v43,vB v44,vB v45,vI v46,vI v47]⟩] [] 0 0)/\F22_l1 k a0 a1 a2 a3 j28 v29 v30 v33 v34 v35 v36 v37 v38 v39 v40 v41 v42 v43 v44 v45 v46 v47=some x26) (λ j28 s=>?_) k ⟨(-1),0,(GCost.mk 0 0 (a3.length:Int)),(-1),0,0,0,0,0,0,0,0,false,false,false,0,0,Weak.one [0,1,2] [] (by kernel_rfl),e27⟩
  rintro⟨v29,v30,v33,v34,v35,v36,v37,v38,v39,v40,v41,v42,v43,v44,v45,v46,v47,w29,e27⟩
  refine PC.weak w29 ?_
  obtain _ | j28:=j28
  · rw[F22_l1] at e27; cases e27
  rw[F22_l1] at e27
  refine PC.run (n:=2) rfl ?_
  refine PC.cond rfl (λ h30=>?_) (λ h30=>?_)
  ·have e27:=bif_t h30 e27
   refine PC.noop ?_
   refine PC.block ?_
   refine PC.region ?_
   refine bindIK e27 (λ y68 h31 h32 e27=>?_)
   refine PO.same rfl (indexAddr_ok Try.underlying34 rfl rfl rfl h31 (map_at h32)) rfl ?_
   refine PO.run 2 rfl ?_
   refine PO.nil ?_
   refine PC.region ?_
   refine PO.run 4 rfl ?_
   refine bindK e27 (λ r33 e34 e27=>?_)
   refine PO.call rfl rfl rfl rfl (ks:=[]) (ts:=[]) (fr1:=[]) rfl rfl rfl trivial (L51 k a0 a1 v29 y68 _ e34) ?_
   rintro _ _ _ ⟨rfl,rfl,rfl⟩
   refine⟨_,_,rfl,rfl,?_⟩
   refine oK 2 [0,1,2,3] [] [(0,.list 13 (List.map cGItem a0) none),(1,vI a1),(2,vI a2),(8,vP 0),(9,vI 0),(10,vP 1),(11,vP 2),(12,vI v29),(14,vI y68),(15,vP 3),(46,.list 1 (List.map cI_i64 a3) none),(47,vI (a3.length:Int)),(48,vI v30)] [⟨0,[vI 0,vI 0,vI 0]⟩,⟨0,(cGCost v33)⟩,⟨0,[vI v34,vI v35,vI v36,vI v37,vI v38,vI v39,vI v40,vI v41,vI v42,vB v43,vB v44,vB v45,vI v46,vI v47]⟩,⟨0,(cGLine r33)⟩] [] (by kernel_rfl) ?_
   refine PO.nil ?_
   refine PC.assoc ?_
   refine PC.region ?_
   refine PO.run 3 rfl ?_
   refine bindK e27 (λ x35 e36 e27=>?_)
   refine PO.cut 5 (λ s=>∃ (v69:Bool),Weak s (PS.of 81 [(0,.list 13 (List.map cGItem a0) none),(1,vI a1),(2,vI a2),(8,vP 0),(9,vI 0),(10,vP 1),(11,vP 2),(12,vI v29),(14,vI y68),(15,vP 3),(46,.list 1 (List.map cI_i64 a3) none),(47,vI (a3.length:Int)),(48,vI v30),(64,vB v69)] [⟨0,[vI 0,vI 0,vI 0]⟩,⟨0,(cGCost v33)⟩,⟨0,[vI v34,vI v35,vI v36,vI v37,vI v38,vI v39,vI v40,vI v41,vI v42,vB v43,vB v44,vB v45,vI v46,vI v47]⟩,⟨0,(cGLine r33)⟩] [] 0 0)/\v69=x35) ?_ ?_
   ·refine PO.case (t:=59) rfl rfl (λ h37=>?_) (λ h37=>?_)
    ·have e36:=bif_t h37 e36
     refine PO.run 4 rfl ?_
     refine PO.same rfl (pickT_ok rfl rfl rfl) rfl ?_
     refine PO.nil ?_
     exact⟨true,Weak.one [0,1,2,3] [] (by kernel_rfl),Option.some.inj e36⟩
    have e36:=bif_f h37 e36
    refine PO.run 4 rfl ?_
    refine PO.same rfl (pickF_ok rfl rfl rfl) rfl ?_
    refine PO.nil ?_
    exact⟨decide (r33.bad > a2),Weak.one [0,1,2,3] [] (by kernel_rfl),Option.some.inj e36⟩
   rintro _ ⟨v69,w38,rfl⟩
   refine PO.weak w38 ?_
   refine PO.nil ?_
   refine bindK e27 (λ x39 e40 e27=>?_)
   refine PC.join (λ s=>∃ (v70:Int),Weak s (PS.of 81 [(0,.list 13 (List.map cGItem a0) none),(1,vI a1),(2,vI a2),(8,vP 0),(9,vI 0),(10,vP 1),(11,vP 2),(12,vI v29),(14,vI y68),(15,vP 3),(46,.list 1 (List.map cI_i64 a3) none),(47,vI (a3.length:Int)),(48,vI v30)] [⟨0,[vI 0,vI 0,vI 0]⟩,⟨0,[vI v70,vI v33.total,vI v33.lines]⟩,⟨0,[vI v34,vI v35,vI v36,vI v37,vI v38,vI v39,vI v40,vI v41,vI v42,vB v43,vB v44,vB v45,vI v46,vI v47]⟩,⟨0,(cGLine r33)⟩] [] 0 0)/\v70=x39) ?_ ?_
   ·refine PC.cond rfl (λ h41=>?_) (λ h41=>?_)
    ·have e40:=bif_t h41 e40
     refine PC.region ?_
     refine oK 5 [0,1,2,3] [] [(0,.list 13 (List.map cGItem a0) none),(1,vI a1),(2,vI a2),(8,vP 0),(9,vI 0),(10,vP 1),(11,vP 2),(12,vI v29),(14,vI y68),(15,vP 3),(46,.list 1 (List.map cI_i64 a3) none),(47,vI (a3.length:Int)),(48,vI v30)] [⟨0,[vI 0,vI 0,vI 0]⟩,⟨0,[vI (w (v33.bad+1)),vI v33.total,vI v33.lines]⟩,⟨0,[vI v34,vI v35,vI v36,vI v37,vI v38,vI v39,vI v40,vI v41,vI v42,vB v43,vB v44,vB v45,vI v46,vI v47]⟩,⟨0,(cGLine r33)⟩] [] (by kernel_rfl) ?_
     refine PO.nil ?_
     exact PC.skip (joinKP.end ⟨w (v33.bad+1),Weak.one [0,1,2,3] [] (by kernel_rfl),Option.some.inj e40⟩)
    have e40:=bif_f h41 e40
    refine PC.noop ?_
    exact PC.skip (joinKP.end ⟨v33.bad,Weak.one [0,1,2,3] [] (by kernel_rfl),Option.some.inj e40⟩)
   rintro _ ⟨v70,w42,rfl⟩
   refine PC.weak w42 ?_
   refine PC.draw [2,3,4,5,0,1,6,7,8] (by kernel_rfl) ?_
   refine oD 3 [5,0,1,6,7,8] ⟨28,0,0,[]⟩ [(0,.list 13 (List.map cGItem a0) none),(1,vI a1),(2,vI a2),(8,vP 0),(9,vI 0),(10,vP 1),(11,vP 2),(12,vI v29),(14,vI y68),(15,vP 3),(46,.list 1 (List.map cI_i64 a3) none),(47,vI (a3.length:Int)),(48,vI v30),(71,.list 13 (List.map cGItem a0) none),(72,.agg [vI v34,vI v35,vI v36,vI v37,vI v38,vI v39,vI v40,vI v41,vI v42,vB v43,vB v44,vB v45,vI v46,vI v47]),(73,.agg (cGLine r33))] [⟨0,[vI 0,vI 0,vI 0]⟩,⟨0,[vI v70,vI v33.total,vI v33.lines]⟩,⟨0,[vI v34,vI v35,vI v36,vI v37,vI v38,vI v39,vI v40,vI v41,vI v42,vB v43,vB v44,vB v45,vI v46,vI v47]⟩,⟨0,(cGLine r33)⟩] [] (by kernel_rfl) ?_
   refine bindK e27 (λ r43 e44 e27=>?_)
   refine PD.call rfl rfl (by kernel_rfl) rfl rfl rfl (ks:=[]) (ts:=[]) (fr1:=[]) rfl rfl rfl trivial (L52 k a0 (GLine.mk v34 v35 v36 v37 v38 v39 v40 v41 v42 v43 v44 v45 v46 v47) r33 _ e44) ?_
   rintro _ _ _ ⟨rfl,rfl,rfl⟩
   refine⟨_,_,rfl,rfl,?_⟩
   refine oD 5 [] ⟨511,511,255,[(8,[1],false),(5,[1],true)]⟩ [(0,.list 13 (List.map cGItem a0) none),(1,vI a1),(2,vI a2),(8,vP 0),(9,vI 0),(10,vP 1),(11,vP 2),(12,vI v29),(14,vI y68),(15,vP 3),(46,.list 1 (List.map cI_i64 a3) none),(47,vI (a3.length:Int)),(48,vI v30)] [⟨0,[vI 0,vI 0,vI 0]⟩,⟨0,[vI v70,vI (w (v33.total+r43)),vI v33.lines]⟩,⟨0,[vI v34,vI v35,vI v36,vI v37,vI v38,vI v39,vI v40,vI v41,vI v42,vB v43,vB v44,vB v45,vI v46,vI v47]⟩,⟨0,(cGLine r33)⟩] [] (by kernel_rfl) ?_
   refine PD.done [0,1,2,3] [] (es:=[(0,.list 13 (List.map cGItem a0) none),(1,vI a1),(2,vI a2),(8,vP 0),(9,vI 0),(10,vP 1),(11,vP 2),(12,vI v29),(14,vI y68),(15,vP 3),(46,.list 1 (List.map cI_i64 a3) none),(47,vI (a3.length:Int)),(48,vI v30)]) (fr':=[⟨0,[vI 0,vI 0,vI 0]⟩,⟨0,[vI v70,vI (w (v33.total+r43)),vI v33.lines]⟩,⟨0,[vI v34,vI v35,vI v36,vI v37,vI v38,vI v39,vI v40,vI v41,vI v42,vB v43,vB v44,vB v45,vI v46,vI v47]⟩,⟨0,(cGLine r33)⟩]) (tk':=[]) (by kernel_rfl) (by kernel_rfl) ?_
   refine PC.lone ?_
   refine PC.region ?_
   refine oK 4 [0,1,2] [] [(0,.list 13 (List.map cGItem a0) none),(1,vI a1),(2,vI a2),(8,vP 0),(9,vI 0),(10,vP 1),(11,vP 2),(12,vI y68),(46,.list 1 (List.map cI_i64 a3) none),(47,vI (a3.length:Int)),(48,vI v30)] [⟨0,[vI 0,vI 0,vI 0]⟩,⟨0,[vI v70,vI (w (v33.total+r43)),vI v33.lines]⟩,⟨0,(cGLine r33)⟩] [] (by kernel_rfl) ?_
   refine PO.nil ?_
   refine PC.skip (blockKP.end ?_)
   refine PC.lone ?_
   refine PC.run (n:=3) rfl ?_
   exact PC.skip (loopKP.mk (Nat.lt_succ_self _) ⟨y68,w (v30+1),(GCost.mk v70 (w (v33.total+r43)) v33.lines),r33.first,r33.last,r33.break_,r33.natural,r33.stretch,r33.shrink,r33.short,r33.bad,r33.class_,r33.over_,r33.hyphen,r33.end_,r33.height,r33.depth,Weak.one [0,1,2] [] (by kernel_rfl),e27⟩)
  have e27:=bif_f h30 e27
  exact PC.exit (loopKP.exit (blockJK.here ⟨v33,Weak.one [0,1] [] (by kernel_rfl),Option.some.inj e27⟩))
 rintro _ ⟨v9,w45,rfl⟩
 refine PC.weak w45 ?_
 refine PC.region ?_
 refine oK 3 [0] [] [(8,vP 0),(9,vI 0)] [⟨0,(cGCost v9)⟩] [] (by kernel_rfl) ?_
 refine PO.nil ?_
 have hq:=Option.some.inj hF
 subst hq
 exact PC.ret' (retSK [] [] (by kernel_rfl) (.refl _) ⟨rfl,rfl,rfl⟩)
def F23 (k:Nat) (a0:Int) (a1:Int):Option Int:=
Option.bind (α:=Int) (bif decide (a0 < 0) then(some (w (0 - (w (a0+1))))) else(some a0)) λ(v1:Int)=>
bindD a1 (some (Int.tmod v1 a1))
theorem L23 (k:Nat) (a0:Int) (a1:Int) (r:Int) (hF:F23 k a0 a1=some r):PF Try.prog orc 23 [vI a0,vI a1] [] [] (λ p fr tk=>p=vI r/\fr=[]/\tk=[]):=by
 unfold F23 at hF
 refine PF.enterS Try.func23 rfl rfl rfl (by kernel_rfl) rfl ?_
 refine PC.run (n:=2) rfl ?_
 refine PC.assoc ?_
 refine PC.run (n:=3) rfl ?_
 refine bindK hF (λ x1 e2 hF=>?_)
 refine PC.join (λ s=>∃ (v1:Int),Weak s (PS.of 13 [(0,vI v1),(1,vI a1),(4,vI 0)] [] [] 0 0)/\v1=x1) ?_ ?_
 ·refine PC.cond rfl (λ h3=>?_) (λ h3=>?_)
  ·have e2:=bif_t h3 e2
   refine PC.run (n:=5) rfl ?_
   exact PC.skip (joinKP.end ⟨w (0 - (w (a0+1))),Weak.one [] [] (by kernel_rfl),Option.some.inj e2⟩)
  have e2:=bif_f h3 e2
  refine PC.noop ?_
  exact PC.skip (joinKP.end ⟨a0,Weak.one [] [] (by kernel_rfl),Option.some.inj e2⟩)
 rintro _ ⟨v1,w4,rfl⟩
 refine PC.weak w4 ?_
 refine PC.region ?_
 refine PO.run 2 rfl ?_
 refine bindDK hF (λ h5 hF=>?_)
 refine PO.same rfl (rem_ok rfl rfl h5) rfl ?_
 refine PO.run 1 rfl ?_
 refine PO.nil ?_
 have hq:=Option.some.inj hF
 subst hq
 exact PC.ret' (retSK [] [] (by kernel_rfl) (.refl _) ⟨rfl,rfl,rfl⟩)
def F24_l1 (k:Nat) (a1:List Int) (a3:List Int):Nat->Int->Option ((Unit) ⊕ (Bool))
  | 0,_=>none
  | j6+1,v2=>
    Option.bind (α:=Bool) (bif decide (v2>=0) then(some (decide (v2 < (a3.length:Int)))) else(some false)) λ(v4:Bool)=>
    bif v4 then(bindI a1 v2 λ y5=>
    bindI a3 v2 λ y6=>
    bif y5 != y6 then(bindI a1 v2 λ y7=>
    bindI a3 v2 λ y8=>
    some (.inr (decide (y7 < y8)))) else(F24_l1 k a1 a3 j6 (w (v2 - 1)))) else(some (.inl ()))
def F24 (k:Nat) (a0:GCost) (a1:List Int) (a2:GCost) (a3:List Int):Option Bool:=
bif a0.bad != a2.bad then(some (decide (a0.bad < a2.bad))) else(bif a0.total != a2.total then(some (decide (a0.total < a2.total))) else(bif a0.lines != a2.lines then(some (decide (a0.lines < a2.lines))) else(Option.bind (α:=(Unit) ⊕ (Bool)) (F24_l1 k a1 a3 k (w ((a1.length:Int) - 1))) (Sum.elim (λ(_:Unit)=>
some false) some))))
theorem L24 (k:Nat) (a0:GCost) (a1:List Int) (a2:GCost) (a3:List Int) (r:Bool) (hF:F24 k a0 a1 a2 a3=some r):PF Try.prog orc 24 [.agg (cGCost a0),.list 1 (List.map cI_i64 a1) none,.agg (cGCost a2),.list 1 (List.map cI_i64 a3) none] [] [] (λ p fr tk=>p=vB r/\fr=[]/\tk=[]):=by
 unfold F24 at hF
 refine PF.enterS Try.func24 rfl rfl rfl (by kernel_rfl) rfl ?_
 refine PC.region ?_
 refine oK 3 [0,1] [] [(1,.list 1 (List.map cI_i64 a1) none),(3,.list 1 (List.map cI_i64 a3) none),(4,vP 0),(6,vP 1),(8,vB false)] [⟨0,(cGCost a0)⟩,⟨0,(cGCost a2)⟩] [] (by kernel_rfl) ?_
 refine PO.nil ?_
 refine PC.assoc ?_
 refine PC.run (n:=6) rfl ?_
 refine PC.cond rfl (λ h1=>?_) (λ h1=>?_)
 ·have hF:=bif_t h1 hF
  refine PC.assoc ?_
  refine PC.run (n:=7) rfl ?_
  have hq:=Option.some.inj hF
  subst hq
  exact PC.ret (retSK [] [] (by kernel_rfl) (.refl _) ⟨rfl,rfl,rfl⟩)
 have hF:=bif_f h1 hF
 refine PC.noop ?_
 refine PC.assoc ?_
 refine PC.run (n:=6) rfl ?_
 refine PC.cond rfl (λ h2=>?_) (λ h2=>?_)
 ·have hF:=bif_t h2 hF
  refine PC.assoc ?_
  refine PC.run (n:=7) rfl ?_
  have hq:=Option.some.inj hF
  subst hq
  exact PC.ret (retSK [] [] (by kernel_rfl) (.refl _) ⟨rfl,rfl,rfl⟩)
 have hF:=bif_f h2 hF
 refine PC.noop ?_
 refine PC.assoc ?_
 refine PC.run (n:=6) rfl ?_
 refine PC.cond rfl (λ h3=>?_) (λ h3=>?_)
 ·have hF:=bif_t h3 hF
  refine PC.assoc ?_
  refine PC.run (n:=7) rfl ?_
  have hq:=Option.some.inj hF
  subst hq
  exact PC.ret (retSK [] [] (by kernel_rfl) (.refl _) ⟨rfl,rfl,rfl⟩)
 have hF:=bif_f h3 hF
 refine PC.noop ?_
 refine PC.assoc ?_
 refine PC.region ?_
 refine PO.run 1 rfl ?_
 refine PO.same rfl (len_ok Try.underlying34 rfl (List.length_map _)) rfl ?_
 refine PO.run 2 rfl ?_
 refine PO.nil ?_
 refine bindK hF (λ x4 e5 hF=>?_)
 refine PC.blockJ (λ s=>Weak s (PS.of 71 [(8,vB false)] [] [] 0 0)/\.inl ()=x4) ?_ ?_
 ·refine PC.loop (λ j6 s=>∃ (v2:Int),Weak s (PS.of 71 [(1,.list 1 (List.map cI_i64 a1) none),(3,.list 1 (List.map cI_i64 a3) none),(8,vB false),(9,vI v2)] [] [] 0 0)/\F24_l1 k a1 a3 j6 v2=some x4) (λ j6 s=>?_) k ⟨w ((a1.length:Int) - 1),Weak.one [] [] (by kernel_rfl),e5⟩
  rintro⟨v2,w7,e5⟩
  refine PC.weak w7 ?_
  obtain _ | j6:=j6
  · rw[F24_l1] at e5; cases e5
  rw[F24_l1] at e5
  refine PC.assoc ?_
  refine PC.region ?_
  refine PO.run 3 rfl ?_
  refine bindK e5 (λ x8 e9 e5=>?_)
  refine PO.cut 5 (λ s=>∃ (v4:Bool),Weak s (PS.of 71 [(1,.list 1 (List.map cI_i64 a1) none),(3,.list 1 (List.map cI_i64 a3) none),(8,vB false),(9,vI v2),(50,vB v4)] [] [] 0 0)/\v4=x8) ?_ ?_
  ·refine PO.case (t:=45) rfl rfl (λ h10=>?_) (λ h10=>?_)
   ·have e9:=bif_t h10 e9
    refine PO.run 2 rfl ?_
    refine PO.same rfl (len_ok Try.underlying34 rfl (List.length_map _)) rfl ?_
    refine PO.run 1 rfl ?_
    refine PO.same rfl (pickT_ok rfl rfl rfl) rfl ?_
    refine PO.nil ?_
    exact⟨decide (v2 < (a3.length:Int)),Weak.one [] [] (by kernel_rfl),Option.some.inj e9⟩
   have e9:=bif_f h10 e9
   refine PO.run 4 rfl ?_
   refine PO.same rfl (pickF_ok rfl rfl rfl) rfl ?_
   refine PO.nil ?_
   exact⟨false,Weak.one [] [] (by kernel_rfl),Option.some.inj e9⟩
  rintro _ ⟨v4,w11,rfl⟩
  refine PO.weak w11 ?_
  refine PO.nil ?_
  refine PC.cond rfl (λ h12=>?_) (λ h12=>?_)
  ·have e5:=bif_t h12 e5
   refine PC.noop ?_
   refine PC.block ?_
   refine PC.drawn (order:=[0,1,2,3,4,5,6,7,8]) (by kernel_rfl) ?_
   refine PO.run 2 rfl ?_
   refine bindIK e5 (λ y5 h13 h14 e5=>?_)
   refine PO.same rfl (indexAddr_ok Try.underlying34 rfl rfl rfl h13 (map_at h14)) rfl ?_
   refine PO.run 3 rfl ?_
   refine bindIK e5 (λ y6 h15 h16 e5=>?_)
   refine PO.same rfl (indexAddr_ok Try.underlying34 rfl rfl rfl h15 (map_at h16)) rfl ?_
   refine PO.run 2 rfl ?_
   refine PO.nil ?_
   refine PC.lone ?_
   refine PC.cond rfl (λ h17=>?_) (λ h17=>?_)
   ·have e5:=bif_t h17 e5
    refine PC.assoc ?_
    refine PC.drawn (order:=[0,1,2,3,4,5,6,7,8,9]) (by kernel_rfl) ?_
    refine PO.run 2 rfl ?_
    refine bindIK e5 (λ y7 h18 h19 e5=>?_)
    refine PO.same rfl (indexAddr_ok Try.underlying34 rfl rfl rfl h18 (map_at h19)) rfl ?_
    refine PO.run 3 rfl ?_
    refine bindIK e5 (λ y8 h20 h21 e5=>?_)
    refine PO.same rfl (indexAddr_ok Try.underlying34 rfl rfl rfl h20 (map_at h21)) rfl ?_
    refine PO.run 3 rfl ?_
    refine PO.nil ?_
    have hq:=Option.some.inj e5
    subst hq
    have hq:=Option.some.inj hF
    subst hq
    exact PC.ret (blockKP.back (loopKP.ret (blockJK.back (retSK [] [] (by kernel_rfl) (.refl _) ⟨rfl,rfl,rfl⟩))))
   have e5:=bif_f h17 e5
   refine PC.noop ?_
   refine PC.skip (blockKP.end ?_)
   refine PC.lone ?_
   refine PC.run (n:=4) rfl ?_
   exact PC.skip (loopKP.mk (Nat.lt_succ_self _) ⟨w (v2 - 1),Weak.one [] [] (by kernel_rfl),e5⟩)
  have e5:=bif_f h12 e5
  exact PC.exit (loopKP.exit (blockJK.here ⟨Weak.one [] [] (by kernel_rfl),Option.some.inj e5⟩))
 rintro _ ⟨w22,rfl⟩
 refine PC.weak w22 ?_
 have hF:=elim_l hF
 refine PC.run (n:=2) rfl ?_
 have hq:=Option.some.inj hF
 subst hq
 exact PC.ret' (retSK [] [] (by kernel_rfl) (.refl _) ⟨rfl,rfl,rfl⟩)
def F5_r1 (k:Nat) (a0:List GItem) (a3:List Int):List Int->(List Int)->(List Int)->Int->Option (((List Int)×(List Int)×Int))
  | [],v9,v10,v11=>some (v9,v10,v11)
  | y8 :: l15,v9,v10,v11=>
    bindA 8 v9 ([y8]) λ l16=>
    Option.bind (α:=Bool) (bif decide ((a3.length:Int) > 0) then(bindD (a3.length:Int) (bindI a3 (Int.tmod v11 (a3.length:Int)) λ y18=>
    (F23 k y18 3).bind λ r54=>
    some (r54 == 0))) else(some true)) λ(v17:Bool)=>
    Option.bind (α:=Bool) (bif v17 then(some true) else(bindI a0 y8 λ y20=>
    (F19 k y20).bind λ r62=>
    some r62)) λ(v19:Bool)=>
    Option.bind (α:=List Int) (bif v19 then(bindA 8 v10 ([y8]) λ l22=>
    some l22) else(some v10)) λ(v21:List Int)=>
    F5_r1 k a0 a3 l15 l16 v21 (w (v11+1))
def F5 (k:Nat) (a0:List GItem) (a1:Int) (a2:Int) (a3:List Int):Option Bool:=
(F10 k a0).bind λ r2=>
bif r2 then(some true) else((F15 k).bind λ r5=>
(F11 k r5 a0 a1 a2).bind λ r7=>
bif r7.2.2.1.kind != 0 then(Option.bind (α:=Bool) (bif (r7.1.length:Int) == 0 then(Option.bind (α:=Bool) (bif (r7.2.1.bad == 0 && (r7.2.1.total == 0 && (r7.2.1.lines == 0 && true))) then(Option.bind (α:=Bool) (bif r7.2.2.1.kind == 1 then(Option.bind (α:=Bool) (bif r7.2.2.1.at_ == 0 then(some true) else(some (r7.2.2.1.kind == 150))) λ(v4:Bool)=>
some v4) else(some (r7.2.2.1.kind == 150))) λ(v3:Bool)=>
some v3) else(some false)) λ(v2:Bool)=>
some v2) else(some false)) λ(v1:Bool)=>
some v1) else((F21 k a0).bind λ r26=>
bif r26 != 0 then(some false) else((F22 k a0 a1 a2 r7.1).bind λ r29=>
Option.bind (α:=Bool) (bif r29.2 != 0 then(some true) else(some (!(r29.1.bad == r7.2.1.bad && (r29.1.total == r7.2.1.total && (r29.1.lines == r7.2.1.lines && true)))))) λ(v5:Bool)=>
bif v5 then(some false) else((F18 k a0).bind λ r36=>
Option.bind (α:=(List Int)×(List Int)) (guardL r36.length (Option.bind (α:=((List Int)×(List Int)×Int)) (F5_r1 k a0 a3 r36 ([] : List Int) ([] : List Int) 0) (λ(v9,v10,v11)=>
some (v9,v10)))) λ(v6,v7)=>
(F22 k a0 a1 a2 v6).bind λ r71=>
(F22 k a0 a1 a2 v7).bind λ r73=>
Option.bind (α:=Bool) (bif r71.2 == 0 then(Option.bind (α:=Bool) (bif r73.2 == 0 then((F24 k r71.1 v6 r7.2.1 r7.1).bind λ r81=>
Option.bind (α:=Bool) (bif !r81 then((F24 k r73.1 v7 r7.2.1 r7.1).bind λ r86=>
Option.bind (α:=Bool) (bif !r86 then(Option.bind (α:=Bool) (bif decide (r7.2.1.bad<=r71.1.bad) then(some (decide (r7.2.1.bad<=r73.1.bad))) else(some false)) λ(v27:Bool)=>
some v27) else(some false)) λ(v26:Bool)=>
some v26) else(some false)) λ(v25:Bool)=>
some v25) else(some false)) λ(v24:Bool)=>
some v24) else(some false)) λ(v23:Bool)=>
some v23))))
theorem L5 (k:Nat) (a0:List GItem) (a1:Int) (a2:Int) (a3:List Int) (r:Bool) (hF:F5 k a0 a1 a2 a3=some r):PF Try.prog orc 5 [.list 13 (List.map cGItem a0) none,vI a1,vI a2,.list 1 (List.map cI_i64 a3) none] [] [] (λ p fr tk=>p=vB r/\fr=[]/\tk=[]):=by
 unfold F5 at hF
 refine PF.enterM Try.func5 rfl rfl rfl (by kernel_rfl) rfl ?_
 refine PC.region ?_
 refine oK 3 [0,1] [] [(1,vI a1),(2,vI a2),(4,vP 0),(7,vP 1),(8,vB false)] [⟨0,[.list 13 (List.map cGItem a0) none]⟩,⟨0,[.list 1 (List.map cI_i64 a3) none]⟩] [] (by kernel_rfl) ?_
 refine PO.nil ?_
 refine PC.region ?_
 refine PO.call rfl rfl rfl rfl (ks:=[]) (ts:=[]) (fr1:=[]) rfl rfl rfl trivial K7 ?_
 rintro _ _ _ ⟨rfl,rfl,rfl⟩
 refine⟨_,_,rfl,rfl,?_⟩
 refine PO.run 1 rfl ?_
 refine PO.nil ?_
 refine PC.assoc ?_
 refine PC.run (n:=3) rfl ?_
 refine PC.cond rfl (λ h1=>Bool.noConfusion h1) (λ _=>?_)
 refine PC.noop ?_
 refine PC.assoc ?_
 refine PC.region ?_
 refine PO.run 1 rfl ?_
 refine bindK hF (λ r2 e3 hF=>?_)
 refine PO.call rfl rfl rfl rfl (ks:=[]) (ts:=[]) (fr1:=[]) rfl rfl rfl trivial (L10 k a0 _ e3) ?_
 rintro _ _ _ ⟨rfl,rfl,rfl⟩
 refine⟨_,_,rfl,rfl,?_⟩
 refine PO.nil ?_
 refine PC.cond rfl (λ h4=>?_) (λ h4=>?_)
 ·have hF:=bif_t h4 hF
  refine PC.assoc ?_
  refine PC.run (n:=3) rfl ?_
  have hq:=Option.some.inj hF
  subst hq
  exact PC.ret (retMK [] [] (by kernel_rfl) (.refl _) ⟨rfl,rfl,rfl⟩)
 have hF:=bif_f h4 hF
 refine PC.noop ?_
 refine PC.draw [0,1,2,3,4,5,6,7,9,10,11,12,8,13] (by kernel_rfl) ?_
 refine bindK hF (λ r5 e6 hF=>?_)
 refine PD.call rfl rfl (by kernel_rfl) rfl rfl rfl (ks:=[]) (ts:=[]) (fr1:=[]) rfl rfl rfl trivial (L15 k _ e6) ?_
 rintro _ _ _ ⟨rfl,rfl,rfl⟩
 refine⟨_,_,rfl,rfl,?_⟩
 refine oD 3 [4,5,6,7,9,10,11,12,8,13] ⟨15,1,0,[(0,[],true)]⟩ [(1,vI a1),(2,vI a2),(4,vP 0),(7,vP 1),(8,vB false),(9,vB true),(31,vP 2),(32,.list 13 (List.map cGItem a0) none),(33,vI a1),(34,vI a2)] [⟨0,[.list 13 (List.map cGItem a0) none]⟩,⟨0,[.list 1 (List.map cI_i64 a3) none]⟩,⟨0,(cGMeter r5)⟩] [] (by kernel_rfl) ?_
 refine bindK hF (λ r7 e8 hF=>?_)
 refine PD.call rfl rfl (by kernel_rfl) rfl rfl rfl (ks:=[2]) (ts:=[]) (fr1:=[⟨0,(cGMeter r5)⟩]) rfl rfl rfl ⟨⟨_,rfl,rfl,rfl⟩,trivial⟩ (L11 k r5 a0 a1 a2 _ e8) ?_
 rintro _ _ _ ⟨rfl,rfl,rfl⟩
 refine⟨_,_,rfl,rfl,?_⟩
 refine oD 7 [8,13] ⟨7935,7935,3839,[(12,[3],false),(4,[3,2],true),(0,[3,2],true)]⟩ [(1,vI a1),(2,vI a2),(4,vP 0),(7,vP 1),(8,vB false),(9,vB true),(10,.list 1 (List.map cI_i64 r7.1) none),(11,vP 3),(12,vP 4),(30,.tup [.list 1 (List.map cI_i64 r7.1) none,.agg (cGCost r7.2.1),.agg (cGFault r7.2.2.1)])] [⟨0,[.list 13 (List.map cGItem a0) none]⟩,⟨0,[.list 1 (List.map cI_i64 a3) none]⟩,⟨0,(cGMeter r7.2.2.2)⟩,⟨0,(cGCost r7.2.1)⟩,⟨0,[vI 0,vI 0]⟩] [] (by kernel_rfl) ?_
 refine oD 2 [] ⟨16383,16383,8191,[(13,[4],false),(12,[4,3],false),(4,[4,3,2],true),(0,[4,3,2],true)]⟩ [(1,vI a1),(2,vI a2),(4,vP 0),(7,vP 1),(8,vB false),(9,vB true),(10,.list 1 (List.map cI_i64 r7.1) none),(11,vP 3),(12,vP 4)] [⟨0,[.list 13 (List.map cGItem a0) none]⟩,⟨0,[.list 1 (List.map cI_i64 a3) none]⟩,⟨0,(cGMeter r7.2.2.2)⟩,⟨0,(cGCost r7.2.1)⟩,⟨0,(cGFault r7.2.2.1)⟩] [] (by kernel_rfl) ?_
 refine PD.done [0,1,3,4] [] (es:=[(1,vI a1),(2,vI a2),(4,vP 0),(7,vP 1),(8,vB false),(9,vB true),(10,.list 1 (List.map cI_i64 r7.1) none),(11,vP 2),(12,vP 3)]) (fr':=[⟨0,[.list 13 (List.map cGItem a0) none]⟩,⟨0,[.list 1 (List.map cI_i64 a3) none]⟩,⟨0,(cGCost r7.2.1)⟩,⟨0,(cGFault r7.2.2.1)⟩]) (tk':=[]) (by kernel_rfl) (by kernel_rfl) ?_
 refine PC.assoc ?_
 refine PC.run (n:=4) rfl ?_
 refine PC.cond rfl (λ h9=>?_) (λ h9=>?_)
 ·have hF:=bif_t h9 hF
  refine PC.assoc ?_
  refine PC.region ?_
  refine PO.run 3 rfl ?_
  refine PO.same rfl (len_ok Try.underlying34 rfl (List.length_map _)) rfl ?_
  refine PO.run 1 rfl ?_
  refine PO.same rfl (pickT_ok rfl rfl rfl) rfl ?_
  refine PO.run 1 rfl ?_
  refine bindK hF (λ x10 e11 hF=>?_)
  refine PO.cut 19 (λ s=>∃ (v1:Bool),Weak s (PS.ofm [none] 176 [(8,vB false),(67,vB v1)] [] [] 0 0)/\v1=x10) ?_ ?_
  ·refine PO.case (t:=48) rfl rfl (λ h12=>?_) (λ h12=>?_)
   ·have e11:=bif_t h12 e11
    refine oK 2 [3] [] [(8,vB false),(12,vP 0),(48,vB true),(49,.agg (cGCost r7.2.1)),(50,.agg [vI 0,vI 0,vI 0])] [⟨0,(cGFault r7.2.2.1)⟩] [] (by kernel_rfl) ?_
    refine PO.same rfl (aggEq_ok (v:=.bool (r7.2.1.bad == 0 && (r7.2.1.total == 0 && (r7.2.1.lines == 0 && true)))) rfl rfl rfl rfl rfl rfl rfl (by kernel_rfl)) rfl ?_
    refine PO.same rfl (pickT_ok rfl rfl rfl) rfl ?_
    refine PO.run 1 rfl ?_
    refine bindK e11 (λ x13 e14 e11=>?_)
    refine PO.cut 14 (λ s=>∃ (v2:Bool),Weak s (PS.ofm [none] 176 [(8,vB false),(67,vB v2)] [] [] 0 0)/\v2=x13) ?_ ?_
    ·refine PO.case (t:=53) rfl rfl (λ h15=>?_) (λ h15=>?_)
     ·have e14:=bif_t h15 e14
      refine PO.run 4 rfl ?_
      refine bindK e14 (λ x16 e17 e14=>?_)
      refine PO.cut 10 (λ s=>∃ (v3:Bool),Weak s (PS.ofm [none] 176 [(8,vB false),(67,vB v3)] [] [] 0 0)/\v3=x16) ?_ ?_
      ·refine PO.case (t:=57) rfl rfl (λ h18=>?_) (λ h18=>?_)
       ·have e17:=bif_t h18 e17
        refine PO.run 3 rfl ?_
        refine PO.same rfl (pickT_ok rfl rfl rfl) rfl ?_
        refine PO.run 1 rfl ?_
        refine bindK e17 (λ x19 e20 e17=>?_)
        refine PO.cut 5 (λ s=>∃ (v4:Bool),Weak s (PS.ofm [none] 176 [(8,vB false),(67,vB v4)] [] [] 0 0)/\v4=x19) ?_ ?_
        ·refine PO.case (t:=62) rfl rfl (λ h21=>?_) (λ h21=>?_)
         ·have e20:=bif_t h21 e20
          refine PO.run 3 rfl ?_
          refine PO.same rfl (pickT_ok rfl rfl rfl) rfl ?_
          refine PO.same rfl (pickT_ok rfl rfl rfl) rfl ?_
          refine PO.nil ?_
          exact⟨true,Weak.one [] [] (by kernel_rfl),Option.some.inj e20⟩
         have e20:=bif_f h21 e20
         refine PO.run 3 rfl ?_
         refine PO.same rfl (pickF_ok rfl rfl rfl) rfl ?_
         refine PO.same rfl (pickT_ok rfl rfl rfl) rfl ?_
         refine PO.nil ?_
         exact⟨r7.2.2.1.kind == 150,Weak.one [] [] (by kernel_rfl),Option.some.inj e20⟩
        rintro _ ⟨v4,w22,rfl⟩
        refine PO.weak w22 ?_
        refine PO.nil ?_
        exact⟨v4,Weak.one [] [] (by kernel_rfl),Option.some.inj e17⟩
       have e17:=bif_f h18 e17
       refine PO.run 3 rfl ?_
       refine PO.same rfl (pickF_ok rfl rfl rfl) rfl ?_
       refine PO.run 4 rfl ?_
       refine PO.same rfl (pickF_ok rfl rfl rfl) rfl ?_
       refine PO.same rfl (pickT_ok rfl rfl rfl) rfl ?_
       refine PO.nil ?_
       exact⟨r7.2.2.1.kind == 150,Weak.one [] [] (by kernel_rfl),Option.some.inj e17⟩
      rintro _ ⟨v3,w23,rfl⟩
      refine PO.weak w23 ?_
      refine PO.nil ?_
      exact⟨v3,Weak.one [] [] (by kernel_rfl),Option.some.inj e14⟩
     have e14:=bif_f h15 e14
     refine PO.run 13 rfl ?_
     refine PO.same rfl (pickF_ok rfl rfl rfl) rfl ?_
     refine PO.nil ?_
     exact⟨false,Weak.one [] [] (by kernel_rfl),Option.some.inj e14⟩
    rintro _ ⟨v2,w24,rfl⟩
    refine PO.weak w24 ?_
    refine PO.nil ?_
    exact⟨v2,Weak.one [] [] (by kernel_rfl),Option.some.inj e11⟩
   have e11:=bif_f h12 e11
   refine PO.run 3 rfl ?_
   refine PO.same rfl (pickF_ok rfl rfl rfl) rfl ?_
   refine PO.run 14 rfl ?_
   refine PO.same rfl (pickF_ok rfl rfl rfl) rfl ?_
   refine PO.nil ?_
   exact⟨false,Weak.one [] [] (by kernel_rfl),Option.some.inj e11⟩
  rintro _ ⟨v1,w25,rfl⟩
  refine PO.weak w25 ?_
  refine PO.run 1 rfl ?_
  refine PO.nil ?_
  have hq:=Option.some.inj hF
  subst hq
  exact PC.ret (retMK [] [] (by kernel_rfl) (.refl _) ⟨rfl,rfl,rfl⟩)
 have hF:=bif_f h9 hF
 refine PC.noop ?_
 refine PC.assoc ?_
 refine PC.region ?_
 refine PO.run 1 rfl ?_
 refine bindK hF (λ r26 e27 hF=>?_)
 refine PO.call rfl rfl rfl rfl (ks:=[]) (ts:=[]) (fr1:=[]) rfl rfl rfl trivial (L21 k a0 _ e27) ?_
 rintro _ _ _ ⟨rfl,rfl,rfl⟩
 refine⟨_,_,rfl,rfl,?_⟩
 refine PO.run 1 rfl ?_
 refine PO.nil ?_
 refine PC.cond rfl (λ h28=>?_) (λ h28=>?_)
 ·have hF:=bif_t h28 hF
  refine PC.assoc ?_
  refine PC.run (n:=2) rfl ?_
  have hq:=Option.some.inj hF
  subst hq
  exact PC.ret (retMK [] [] (by kernel_rfl) (.refl _) ⟨rfl,rfl,rfl⟩)
 have hF:=bif_f h28 hF
 refine PC.noop ?_
 refine PC.region ?_
 refine PO.run 4 rfl ?_
 refine bindK hF (λ r29 e30 hF=>?_)
 refine PO.call rfl rfl rfl rfl (ks:=[]) (ts:=[]) (fr1:=[]) rfl rfl rfl trivial (L22 k a0 a1 a2 r7.1 _ e30) ?_
 rintro _ _ _ ⟨rfl,rfl,rfl⟩
 refine⟨_,_,rfl,rfl,?_⟩
 refine oK 6 [0,1,2,4] [] [(1,vI a1),(2,vI a2),(4,vP 0),(7,vP 1),(8,vB false),(9,vB true),(10,.list 1 (List.map cI_i64 r7.1) none),(11,vP 2),(13,vP 3),(14,vI r29.2)] [⟨0,[.list 13 (List.map cGItem a0) none]⟩,⟨0,[.list 1 (List.map cI_i64 a3) none]⟩,⟨0,(cGCost r7.2.1)⟩,⟨0,(cGCost r29.1)⟩] [] (by kernel_rfl) ?_
 refine PO.nil ?_
 refine PC.assoc ?_
 refine PC.region ?_
 refine PO.run 3 rfl ?_
 refine bindK hF (λ x31 e32 hF=>?_)
 refine PO.cut 4 (λ s=>∃ (v5:Bool),Weak s (PS.ofm [none] 176 [(1,vI a1),(2,vI a2),(4,vP 0),(7,vP 1),(8,vB false),(9,vB true),(10,.list 1 (List.map cI_i64 r7.1) none),(11,vP 2),(85,vB v5)] [⟨0,[.list 13 (List.map cGItem a0) none]⟩,⟨0,[.list 1 (List.map cI_i64 a3) none]⟩,⟨0,(cGCost r7.2.1)⟩] [] 0 0)/\v5=x31) ?_ ?_
 ·refine PO.case (t:=81) rfl rfl (λ h33=>?_) (λ h33=>?_)
  ·have e32:=bif_t h33 e32
   refine PO.run 3 rfl ?_
   refine PO.same rfl (pickT_ok rfl rfl rfl) rfl ?_
   refine PO.nil ?_
   exact⟨true,Weak.one [0,1,2] [] (by kernel_rfl),Option.some.inj e32⟩
  have e32:=bif_f h33 e32
  refine oK 2 [0,1,2] [] [(1,vI a1),(2,vI a2),(4,vP 0),(7,vP 1),(8,vB false),(9,vB true),(10,.list 1 (List.map cI_i64 r7.1) none),(11,vP 2),(81,vB false),(82,.agg (cGCost r29.1)),(83,.agg (cGCost r7.2.1))] [⟨0,[.list 13 (List.map cGItem a0) none]⟩,⟨0,[.list 1 (List.map cI_i64 a3) none]⟩,⟨0,(cGCost r7.2.1)⟩] [] (by kernel_rfl) ?_
  refine PO.same rfl (aggEq_ok (v:=.bool (!(r29.1.bad == r7.2.1.bad && (r29.1.total == r7.2.1.total && (r29.1.lines == r7.2.1.lines && true))))) rfl rfl rfl rfl rfl rfl rfl (by kernel_rfl)) rfl ?_
  refine PO.same rfl (pickF_ok rfl rfl rfl) rfl ?_
  refine PO.nil ?_
  exact⟨!(r29.1.bad == r7.2.1.bad && (r29.1.total == r7.2.1.total && (r29.1.lines == r7.2.1.lines && true))),Weak.one [0,1,2] [] (by kernel_rfl),Option.some.inj e32⟩
 rintro _ ⟨v5,w34,rfl⟩
 refine PO.weak w34 ?_
 refine PO.nil ?_
 refine PC.cond rfl (λ h35=>?_) (λ h35=>?_)
 ·have hF:=bif_t h35 hF
  refine PC.assoc ?_
  refine PC.run (n:=2) rfl ?_
  have hq:=Option.some.inj hF
  subst hq
  exact PC.ret (retMK [] [] (by kernel_rfl) (.refl _) ⟨rfl,rfl,rfl⟩)
 have hF:=bif_f h35 hF
 refine PC.noop ?_
 refine PC.region ?_
 refine oK 3 [0,1,2,3] [0] [(1,vI a1),(2,vI a2),(4,vP 0),(7,vP 1),(8,vB false),(9,vB true),(10,.list 1 (List.map cI_i64 r7.1) none),(11,vP 2),(15,vP 3)] [⟨0,[.list 13 (List.map cGItem a0) none]⟩,⟨0,[.list 1 (List.map cI_i64 a3) none]⟩,⟨0,(cGCost r7.2.1)⟩,⟨0,[.list 1 (List.map cI_i64 ([] : List Int)) (some 0)]⟩] [0] (by kernel_rfl) ?_
 refine PO.nil ?_
 refine PC.region ?_
 refine oK 3 [0,1,2,3,4] [0,1] [(1,vI a1),(2,vI a2),(4,vP 0),(7,vP 1),(8,vB false),(9,vB true),(10,.list 1 (List.map cI_i64 r7.1) none),(11,vP 2),(15,vP 3),(16,vP 4)] [⟨0,[.list 13 (List.map cGItem a0) none]⟩,⟨0,[.list 1 (List.map cI_i64 a3) none]⟩,⟨0,(cGCost r7.2.1)⟩,⟨0,[.list 1 (List.map cI_i64 ([] : List Int)) (some 0)]⟩,⟨0,[.list 1 (List.map cI_i64 ([] : List Int)) (some 1)]⟩] [0,0] (by kernel_rfl) ?_
 refine PO.nil ?_
 refine PC.region ?_
 refine oK 2 [0,1,2,3,4,5] [0,1] [(1,vI a1),(2,vI a2),(4,vP 0),(7,vP 1),(8,vB false),(9,vB true),(10,.list 1 (List.map cI_i64 r7.1) none),(11,vP 2),(15,vP 3),(16,vP 4),(17,vP 5)] [⟨0,[.list 13 (List.map cGItem a0) none]⟩,⟨0,[.list 1 (List.map cI_i64 a3) none]⟩,⟨0,(cGCost r7.2.1)⟩,⟨0,[.list 1 (List.map cI_i64 ([] : List Int)) (some 0)]⟩,⟨0,[.list 1 (List.map cI_i64 ([] : List Int)) (some 1)]⟩,⟨0,[vI 0]⟩] [0,0] (by kernel_rfl) ?_
 refine PO.nil ?_
 refine PC.assoc ?_
 refine PC.region ?_
 refine PO.run 1 rfl ?_
 refine bindK hF (λ r36 e37 hF=>?_)
 refine PO.call rfl rfl rfl rfl (ks:=[]) (ts:=[]) (fr1:=[]) rfl rfl rfl trivial (L18 k a0 _ e37) ?_
 rintro _ _ _ ⟨rfl,rfl,rfl⟩
 refine⟨_,_,rfl,rfl,?_⟩
 refine PO.nil ?_
 refine bindK hF (λ x38 e39 hF=>?_)
 refine PC.blockJ (λ s=>∃ (v6:List Int) (v7:List Int),Weak s (PS.ofm [none] 176 [(1,vI a1),(2,vI a2),(4,vP 0),(8,vB false),(9,vB true),(10,.list 1 (List.map cI_i64 r7.1) none),(11,vP 1),(15,vP 2),(16,vP 3)] [⟨0,[.list 13 (List.map cGItem a0) none]⟩,⟨0,(cGCost r7.2.1)⟩,⟨0,[.list 1 (List.map cI_i64 v6) (some 0)]⟩,⟨0,[.list 1 (List.map cI_i64 v7) (some 1)]⟩] [v6.length,v7.length] 0 0)/\(v6,v7)=x38) ?_ ?_
 ·refine PC.lone ?_
  have hq:=guardL_some e39
  have h40:=hq.1
  have e39:=hq.2
  clear hq
  refine PC.weak (s':=PS.ofm [none] 176 [(1,vI a1),(2,vI a2),(4,vP 0),(7,vP 1),(8,vB false),(9,vB true),(10,.list 1 (List.map cI_i64 r7.1) none),(11,vP 2),(15,vP 3),(16,vP 4),(17,vP 5),(89,.fn 47 [] [vP 6])] [⟨0,[.list 13 (List.map cGItem a0) none]⟩,⟨0,[.list 1 (List.map cI_i64 a3) none]⟩,⟨0,(cGCost r7.2.1)⟩,⟨0,[.list 1 (List.map cI_i64 ([] : List Int)) (some 0)]⟩,⟨0,[.list 1 (List.map cI_i64 ([] : List Int)) (some 1)]⟩,⟨0,[vI 0]⟩,⟨0,[.list 1 (List.map cI_i64 r36) none]⟩] [0,0] 0 0) (Weak.one [0,1,2,3,4,5,6] [0,1] (by kernel_rfl)) ?_
  refine bindK e39 (λ x41 e42 e39=>?_)
  refine PC.rangeFunc (f:=47) rfl (I66 r36 h40 6) (by intro i x hx; obtain⟨_,_,rfl⟩:=map_inv hx; rfl) (by intro h; first | rfl | cases h) (λ i fr tk=>∃ (v9:List Int) (v10:List Int) (v11:Int),fr=[⟨0,[.list 13 (List.map cGItem a0) none]⟩,⟨0,[.list 1 (List.map cI_i64 a3) none]⟩,⟨0,(cGCost r7.2.1)⟩,⟨0,[.list 1 (List.map cI_i64 v9) (some 0)]⟩,⟨0,[.list 1 (List.map cI_i64 v10) (some 1)]⟩,⟨0,[vI v11]⟩,⟨0,[.list 1 (List.map cI_i64 r36) none]⟩]/\tk=[v9.length,v10.length]/\F5_r1 k a0 a3 (List.drop i r36) v9 v10 v11=some x41) (λ y fr tk=>False) ?_ ?_ ?_ ?_ ?_
  · rintro i fr tk ⟨v9,v10,v11,rfl,rfl,_⟩
    exact⟨rfl,rfl,⟨_,_,rfl⟩⟩
  · exact⟨([] : List Int),([] : List Int),0,rfl,rfl,e42⟩
  ·intro i x fr tk l hx hj
   refine Exists.elim (map_inv hx) (λ y8 hq=>?_)
   have ha:=hq.1
   obtain rfl:=hq.2
   clear hq
   obtain⟨v9,v10,v11,rfl,rfl,e43⟩:=hj
   rw[drop_at ha,F5_r1] at e43
   clear hx ha
   refine⟨_,rfl,?_⟩
   refine PC.weak (s':=PS.of 176 [(4,vP 0),(7,vP 1),(15,vP 3),(16,vP 4),(17,vP 5),(90,vI y8)] [⟨0,[.list 13 (List.map cGItem a0) none]⟩,⟨0,[.list 1 (List.map cI_i64 a3) none]⟩,⟨0,(cGCost r7.2.1)⟩,⟨0,[.list 1 (List.map cI_i64 v9) (some 0)]⟩,⟨0,[.list 1 (List.map cI_i64 v10) (some 1)]⟩,⟨0,[vI v11]⟩,⟨0,[.list 1 (List.map cI_i64 r36) none]⟩] [v9.length,v10.length] 7 2) (Weak.one [0,1,2,3,4,5,6] [0,1] (by kernel_rfl)) ?_
   refine PC.lone ?_
   refine PC.run (n:=2) rfl ?_
   refine PC.skip ⟨rfl,?_⟩
   refine PC.lone ?_
   refine PC.block ?_
   refine PC.region ?_
   refine oK 3 [0,1,2,3,4,5,6] [0,1,2] [(4,vP 0),(7,vP 1),(15,vP 3),(16,vP 4),(17,vP 5),(18,vI y8),(91,.list 1 (List.map cI_i64 v9) (some 0)),(93,.list 1 (List.map cI_i64 ([y8])) (some 2))] [⟨0,[.list 13 (List.map cGItem a0) none]⟩,⟨0,[.list 1 (List.map cI_i64 a3) none]⟩,⟨0,(cGCost r7.2.1)⟩,⟨0,[.list 1 (List.map cI_i64 v9) (some 0)]⟩,⟨0,[.list 1 (List.map cI_i64 v10) (some 1)]⟩,⟨0,[vI v11]⟩,⟨0,[.list 1 (List.map cI_i64 r36) none]⟩] [v9.length,v10.length,1] (by kernel_rfl) ?_
   refine bindAK e43 (λ h47 e43=>?_)
   generalize hgl16:v9++([y8])=l16 at e43
   refine PO.one rfl (append_typed (L:=v9) (M:=[y8]) (f:=cI_i64) (sz:=1) (bytes:=8) Try.underlying34 rfl rfl rfl rfl rfl rfl rfl rfl rfl rfl rfl rfl h47 hgl16) rfl ?_
   refine oK 1 [0,1,2,3,4,5,6] [0,1] [(4,vP 0),(7,vP 1),(16,vP 4),(17,vP 5),(18,vI y8)] [⟨0,[.list 13 (List.map cGItem a0) none]⟩,⟨0,[.list 1 (List.map cI_i64 a3) none]⟩,⟨0,(cGCost r7.2.1)⟩,⟨0,[.list 1 (List.map cI_i64 l16) (some 0)]⟩,⟨0,[.list 1 (List.map cI_i64 v10) (some 1)]⟩,⟨0,[vI v11]⟩,⟨0,[.list 1 (List.map cI_i64 r36) none]⟩] [l16.length,v10.length] (by kernel_rfl) ?_
   refine PO.nil ?_
   refine PC.run (n:=2) rfl ?_
   refine PC.assoc ?_
   refine PC.region ?_
   refine PO.run 1 rfl ?_
   refine PO.same rfl (len_ok Try.underlying34 rfl (List.length_map _)) rfl ?_
   refine PO.run 1 rfl ?_
   refine PO.nil ?_
   refine bindK e43 (λ x48 e49 e43=>?_)
   refine PC.join (λ s=>∃ (v17:Bool),Weak s (PS.of 176 [(4,vP 0),(16,vP 4),(17,vP 5),(18,vI y8),(19,vB v17)] [⟨0,[.list 13 (List.map cGItem a0) none]⟩,⟨0,[.list 1 (List.map cI_i64 a3) none]⟩,⟨0,(cGCost r7.2.1)⟩,⟨0,[.list 1 (List.map cI_i64 l16) (some 0)]⟩,⟨0,[.list 1 (List.map cI_i64 v10) (some 1)]⟩,⟨0,[vI v11]⟩,⟨0,[.list 1 (List.map cI_i64 r36) none]⟩] [l16.length,v10.length] 7 2)/\v17=x48) ?_ ?_
   ·refine PC.cond rfl (λ h50=>?_) (λ h50=>?_)
    ·have e49:=bif_t h50 e49
     refine PC.drawn (order:=[0,1,2,3,4,5,6,7,8,9]) (by kernel_rfl) ?_
     refine PO.run 3 rfl ?_
     refine PO.same rfl (len_ok Try.underlying34 rfl (List.length_map _)) rfl ?_
     refine bindDK e49 (λ h51 e49=>?_)
     refine PO.same rfl (rem_ok rfl rfl h51) rfl ?_
     refine bindIK e49 (λ y18 h52 h53 e49=>?_)
     refine PO.same rfl (indexAddr_ok Try.underlying34 rfl rfl rfl h52 (map_at h53)) rfl ?_
     refine PO.run 1 rfl ?_
     refine bindK e49 (λ r54 e55 e49=>?_)
     refine PO.call rfl rfl rfl rfl (ks:=[]) (ts:=[]) (fr1:=[]) rfl rfl rfl trivial (L23 k y18 3 _ e55) ?_
     rintro _ _ _ ⟨rfl,rfl,rfl⟩
     refine⟨_,_,rfl,rfl,?_⟩
     refine PO.run 2 rfl ?_
     refine PO.nil ?_
     exact PC.skip (joinKP.end ⟨r54 == 0,Weak.one [0,1,2,3,4,5,6] [0,1] (by kernel_rfl),Option.some.inj e49⟩)
    have e49:=bif_f h50 e49
    refine PC.noop ?_
    exact PC.skip (joinKP.end ⟨true,Weak.one [0,1,2,3,4,5,6] [0,1] (by kernel_rfl),Option.some.inj e49⟩)
   rintro _ ⟨v17,w56,rfl⟩
   refine PC.weak w56 ?_
   refine PC.assoc ?_
   refine PC.region ?_
   refine PO.run 2 rfl ?_
   refine bindK e43 (λ x57 e58 e43=>?_)
   refine PO.cut 6 (λ s=>∃ (v19:Bool),Weak s (PS.of 176 [(16,vP 4),(17,vP 5),(18,vI y8),(114,vB v19)] [⟨0,[.list 13 (List.map cGItem a0) none]⟩,⟨0,[.list 1 (List.map cI_i64 a3) none]⟩,⟨0,(cGCost r7.2.1)⟩,⟨0,[.list 1 (List.map cI_i64 l16) (some 0)]⟩,⟨0,[.list 1 (List.map cI_i64 v10) (some 1)]⟩,⟨0,[vI v11]⟩,⟨0,[.list 1 (List.map cI_i64 r36) none]⟩] [l16.length,v10.length] 7 2)/\v19=x57) ?_ ?_
   ·refine PO.case (t:=108) rfl rfl (λ h59=>?_) (λ h59=>?_)
    ·have e58:=bif_t h59 e58
     refine PO.run 5 rfl ?_
     refine PO.same rfl (pickT_ok rfl rfl rfl) rfl ?_
     refine PO.nil ?_
     exact⟨true,Weak.one [0,1,2,3,4,5,6] [0,1] (by kernel_rfl),Option.some.inj e58⟩
    have e58:=bif_f h59 e58
    refine PO.run 2 rfl ?_
    refine bindIK e58 (λ y20 h60 h61 e58=>?_)
    refine PO.same rfl (indexAddr_ok Try.underlying22 rfl rfl rfl h60 (map_at h61)) rfl ?_
    refine PO.run 1 rfl ?_
    refine bindK e58 (λ r62 e63 e58=>?_)
    refine PO.call rfl rfl rfl rfl (ks:=[]) (ts:=[]) (fr1:=[]) rfl rfl rfl trivial (L19 k y20 _ e63) ?_
    rintro _ _ _ ⟨rfl,rfl,rfl⟩
    refine⟨_,_,rfl,rfl,?_⟩
    refine PO.same rfl (pickF_ok rfl rfl rfl) rfl ?_
    refine PO.nil ?_
    exact⟨r62,Weak.one [0,1,2,3,4,5,6] [0,1] (by kernel_rfl),Option.some.inj e58⟩
   rintro _ ⟨v19,w64,rfl⟩
   refine PO.weak w64 ?_
   refine PO.nil ?_
   refine bindK e43 (λ x65 e66 e43=>?_)
   refine PC.join (λ s=>∃ (v21:List Int),Weak s (PS.of 176 [(17,vP 5)] [⟨0,[.list 13 (List.map cGItem a0) none]⟩,⟨0,[.list 1 (List.map cI_i64 a3) none]⟩,⟨0,(cGCost r7.2.1)⟩,⟨0,[.list 1 (List.map cI_i64 l16) (some 0)]⟩,⟨0,[.list 1 (List.map cI_i64 v21) (some 1)]⟩,⟨0,[vI v11]⟩,⟨0,[.list 1 (List.map cI_i64 r36) none]⟩] [l16.length,v21.length] 7 2)/\v21=x65) ?_ ?_
   ·refine PC.cond rfl (λ h67=>?_) (λ h67=>?_)
    ·have e66:=bif_t h67 e66
     refine PC.region ?_
     refine oK 3 [0,1,2,3,4,5,6] [0,1,2] [(16,vP 4),(17,vP 5),(115,.list 1 (List.map cI_i64 v10) (some 1)),(117,.list 1 (List.map cI_i64 ([y8])) (some 2))] [⟨0,[.list 13 (List.map cGItem a0) none]⟩,⟨0,[.list 1 (List.map cI_i64 a3) none]⟩,⟨0,(cGCost r7.2.1)⟩,⟨0,[.list 1 (List.map cI_i64 l16) (some 0)]⟩,⟨0,[.list 1 (List.map cI_i64 v10) (some 1)]⟩,⟨0,[vI v11]⟩,⟨0,[.list 1 (List.map cI_i64 r36) none]⟩] [l16.length,v10.length,1] (by kernel_rfl) ?_
     refine bindAK e66 (λ h68 e66=>?_)
     generalize hgl22:v10++([y8])=l22 at e66
     refine PO.one rfl (append_typed (L:=v10) (M:=[y8]) (f:=cI_i64) (sz:=1) (bytes:=8) Try.underlying34 rfl rfl rfl rfl rfl rfl rfl rfl rfl rfl rfl rfl h68 hgl22) rfl ?_
     refine oK 1 [0,1,2,3,4,5,6] [0,1] [(17,vP 5)] [⟨0,[.list 13 (List.map cGItem a0) none]⟩,⟨0,[.list 1 (List.map cI_i64 a3) none]⟩,⟨0,(cGCost r7.2.1)⟩,⟨0,[.list 1 (List.map cI_i64 l16) (some 0)]⟩,⟨0,[.list 1 (List.map cI_i64 l22) (some 1)]⟩,⟨0,[vI v11]⟩,⟨0,[.list 1 (List.map cI_i64 r36) none]⟩] [l16.length,l22.length] (by kernel_rfl) ?_
     refine PO.nil ?_
     exact PC.skip (joinKP.end ⟨l22,Weak.one [0,1,2,3,4,5,6] [0,1] (by kernel_rfl),Option.some.inj e66⟩)
    have e66:=bif_f h67 e66
    refine PC.noop ?_
    exact PC.skip (joinKP.end ⟨v10,Weak.one [0,1,2,3,4,5,6] [0,1] (by kernel_rfl),Option.some.inj e66⟩)
   rintro _ ⟨v21,w69,rfl⟩
   refine PC.weak w69 ?_
   refine PC.lone ?_
   refine PC.region ?_
   refine oK 3 [0,1,2,3,4,5,6] [0,1] [] [⟨0,[.list 13 (List.map cGItem a0) none]⟩,⟨0,[.list 1 (List.map cI_i64 a3) none]⟩,⟨0,(cGCost r7.2.1)⟩,⟨0,[.list 1 (List.map cI_i64 l16) (some 0)]⟩,⟨0,[.list 1 (List.map cI_i64 v21) (some 1)]⟩,⟨0,[vI (w (v11+1))]⟩,⟨0,[.list 1 (List.map cI_i64 r36) none]⟩] [l16.length,v21.length] (by kernel_rfl) ?_
   refine PO.nil ?_
   refine PC.skip (blockKP.end ?_)
   refine PC.weak (s':=PS.of 176 [] [⟨0,[.list 13 (List.map cGItem a0) none]⟩,⟨0,[.list 1 (List.map cI_i64 a3) none]⟩,⟨0,(cGCost r7.2.1)⟩,⟨0,[.list 1 (List.map cI_i64 l16) (some 0)]⟩,⟨0,[.list 1 (List.map cI_i64 v21) (some 1)]⟩,⟨0,[vI (w (v11+1))]⟩,⟨0,[.list 1 (List.map cI_i64 r36) none]⟩] [l16.length,v21.length] 7 2) (Weak.one [0,1,2,3,4,5,6] [0,1] (by kernel_rfl)) ?_
   exact PC.skip (⟨l16,v21,w (v11+1),rfl,rfl,e43⟩)
  ·rintro fr tk ⟨v9,v10,v11,rfl,rfl,e43⟩
   rw[List.length_map,List.drop_length,F5_r1] at e43
   obtain rfl:=Option.some.inj e43
   have e39:=e39
   refine PC.weak (s':=PS.ofm [none] 176 [(1,vI a1),(2,vI a2),(4,vP 0),(7,vP 1),(8,vB false),(9,vB true),(10,.list 1 (List.map cI_i64 r7.1) none),(11,vP 2),(15,vP 3),(16,vP 4),(17,vP 5),(89,.fn 47 [] [vP 6])] [⟨0,[.list 13 (List.map cGItem a0) none]⟩,⟨0,[.list 1 (List.map cI_i64 a3) none]⟩,⟨0,(cGCost r7.2.1)⟩,⟨0,[.list 1 (List.map cI_i64 v9) (some 0)]⟩,⟨0,[.list 1 (List.map cI_i64 v10) (some 1)]⟩,⟨0,[vI v11]⟩,⟨0,[.list 1 (List.map cI_i64 r36) none]⟩] [v9.length,v10.length] 0 0) (Weak.one [0,1,2,3,4,5,6] [0,1] (by kernel_rfl)) ?_
   exact PC.skip (blockJK.end ⟨v9,v10,Weak.one [0,2,3,4] [0,1] (by kernel_rfl),Option.some.inj e39⟩)
  ·intro y fr tk hd hy
   exact hd.elim
 rintro _ ⟨v6,v7,w70,rfl⟩
 refine PC.weak w70 ?_
 refine PC.region ?_
 refine PO.run 4 rfl ?_
 refine bindK hF (λ r71 e72 hF=>?_)
 refine PO.call rfl rfl rfl rfl (ks:=[]) (ts:=[]) (fr1:=[]) rfl rfl rfl trivial (L22 k a0 a1 a2 v6 _ e72) ?_
 rintro _ _ _ ⟨rfl,rfl,rfl⟩
 refine⟨_,_,rfl,rfl,?_⟩
 refine oK 6 [0,1,2,3,4] [0,1] [(1,vI a1),(2,vI a2),(4,vP 0),(8,vB false),(9,vB true),(10,.list 1 (List.map cI_i64 r7.1) none),(11,vP 1),(15,vP 2),(16,vP 3),(20,vP 4),(21,vI r71.2)] [⟨0,[.list 13 (List.map cGItem a0) none]⟩,⟨0,(cGCost r7.2.1)⟩,⟨0,[.list 1 (List.map cI_i64 v6) (some 0)]⟩,⟨0,[.list 1 (List.map cI_i64 v7) (some 1)]⟩,⟨0,(cGCost r71.1)⟩] [v6.length,v7.length] (by kernel_rfl) ?_
 refine PO.nil ?_
 refine PC.region ?_
 refine PO.run 4 rfl ?_
 refine bindK hF (λ r73 e74 hF=>?_)
 refine PO.call rfl rfl rfl rfl (ks:=[]) (ts:=[]) (fr1:=[]) rfl rfl rfl trivial (L22 k a0 a1 a2 v7 _ e74) ?_
 rintro _ _ _ ⟨rfl,rfl,rfl⟩
 refine⟨_,_,rfl,rfl,?_⟩
 refine oK 6 [1,2,3,4,5] [0,1] [(8,vB false),(9,vB true),(10,.list 1 (List.map cI_i64 r7.1) none),(11,vP 0),(15,vP 1),(16,vP 2),(20,vP 3),(21,vI r71.2),(22,vP 4),(23,vI r73.2)] [⟨0,(cGCost r7.2.1)⟩,⟨0,[.list 1 (List.map cI_i64 v6) (some 0)]⟩,⟨0,[.list 1 (List.map cI_i64 v7) (some 1)]⟩,⟨0,(cGCost r71.1)⟩,⟨0,(cGCost r73.1)⟩] [v6.length,v7.length] (by kernel_rfl) ?_
 refine PO.nil ?_
 refine PC.region ?_
 refine PO.run 4 rfl ?_
 refine PO.same rfl (pickT_ok rfl rfl rfl) rfl ?_
 refine PO.run 1 rfl ?_
 refine bindK hF (λ x75 e76 hF=>?_)
 refine PO.cut 33 (λ s=>∃ (v23:Bool),Weak s (PS.ofm [none] 176 [(8,vB false),(175,vB v23)] [] [] 0 0)/\v23=x75) ?_ ?_
 ·refine PO.case (t:=142) rfl rfl (λ h77=>?_) (λ h77=>?_)
  ·have e76:=bif_t h77 e76
   refine PO.run 2 rfl ?_
   refine PO.same rfl (pickT_ok rfl rfl rfl) rfl ?_
   refine PO.run 1 rfl ?_
   refine bindK e76 (λ x78 e79 e76=>?_)
   refine PO.cut 29 (λ s=>∃ (v24:Bool),Weak s (PS.ofm [none] 176 [(8,vB false),(175,vB v24)] [] [] 0 0)/\v24=x78) ?_ ?_
   ·refine PO.case (t:=146) rfl rfl (λ h80=>?_) (λ h80=>?_)
    ·have e79:=bif_t h80 e79
     refine PO.run 4 rfl ?_
     refine bindK e79 (λ r81 e82 e79=>?_)
     refine PO.call rfl rfl rfl rfl (ks:=[]) (ts:=[]) (fr1:=[]) rfl rfl rfl trivial (L24 k r71.1 v6 r7.2.1 r7.1 _ e82) ?_
     rintro _ _ _ ⟨rfl,rfl,rfl⟩
     refine⟨_,_,rfl,rfl,?_⟩
     refine PO.run 1 rfl ?_
     refine PO.same rfl (pickT_ok rfl rfl rfl) rfl ?_
     refine PO.run 1 rfl ?_
     refine bindK e79 (λ x83 e84 e79=>?_)
     refine PO.cut 21 (λ s=>∃ (v25:Bool),Weak s (PS.ofm [none] 176 [(8,vB false),(175,vB v25)] [] [] 0 0)/\v25=x83) ?_ ?_
     ·refine PO.case (t:=154) rfl rfl (λ h85=>?_) (λ h85=>?_)
      ·have e84:=bif_t h85 e84
       refine oK 4 [0,3,4] [1] [(8,vB false),(11,vP 0),(20,vP 1),(22,vP 2),(154,vB true),(155,.agg (cGCost r73.1)),(156,.list 1 (List.map cI_i64 v7) (some 0)),(157,.agg (cGCost r7.2.1)),(158,.list 1 (List.map cI_i64 r7.1) none)] [⟨0,(cGCost r7.2.1)⟩,⟨0,(cGCost r71.1)⟩,⟨0,(cGCost r73.1)⟩] [v7.length] (by kernel_rfl) ?_
       refine bindK e84 (λ r86 e87 e84=>?_)
       refine PO.call rfl rfl rfl rfl (ks:=[]) (ts:=[]) (fr1:=[]) rfl rfl rfl trivial (L24 k r73.1 v7 r7.2.1 r7.1 _ e87) ?_
       rintro _ _ _ ⟨rfl,rfl,rfl⟩
       refine⟨_,_,rfl,rfl,?_⟩
       refine PO.run 1 rfl ?_
       refine PO.same rfl (pickT_ok rfl rfl rfl) rfl ?_
       refine PO.run 1 rfl ?_
       refine bindK e84 (λ x88 e89 e84=>?_)
       refine PO.cut 13 (λ s=>∃ (v26:Bool),Weak s (PS.ofm [none] 176 [(8,vB false),(175,vB v26)] [] [] 0 0)/\v26=x88) ?_ ?_
       ·refine PO.case (t:=162) rfl rfl (λ h90=>?_) (λ h90=>?_)
        ·have e89:=bif_t h90 e89
         refine PO.run 5 rfl ?_
         refine PO.same rfl (pickT_ok rfl rfl rfl) rfl ?_
         refine PO.run 1 rfl ?_
         refine bindK e89 (λ x91 e92 e89=>?_)
         refine PO.cut 6 (λ s=>∃ (v27:Bool),Weak s (PS.ofm [none] 176 [(8,vB false),(175,vB v27)] [] [] 0 0)/\v27=x91) ?_ ?_
         ·refine PO.case (t:=169) rfl rfl (λ h93=>?_) (λ h93=>?_)
          ·have e92:=bif_t h93 e92
           refine PO.run 5 rfl ?_
           refine PO.same rfl (pickT_ok rfl rfl rfl) rfl ?_
           refine PO.nil ?_
           exact⟨decide (r7.2.1.bad<=r73.1.bad),Weak.one [] [] (by kernel_rfl),Option.some.inj e92⟩
          have e92:=bif_f h93 e92
          refine PO.run 5 rfl ?_
          refine PO.same rfl (pickF_ok rfl rfl rfl) rfl ?_
          refine PO.nil ?_
          exact⟨false,Weak.one [] [] (by kernel_rfl),Option.some.inj e92⟩
         rintro _ ⟨v27,w94,rfl⟩
         refine PO.weak w94 ?_
         refine PO.nil ?_
         exact⟨v27,Weak.one [] [] (by kernel_rfl),Option.some.inj e89⟩
        have e89:=bif_f h90 e89
        refine PO.run 5 rfl ?_
        refine PO.same rfl (pickF_ok rfl rfl rfl) rfl ?_
        refine PO.run 6 rfl ?_
        refine PO.same rfl (pickF_ok rfl rfl rfl) rfl ?_
        refine PO.nil ?_
        exact⟨false,Weak.one [] [] (by kernel_rfl),Option.some.inj e89⟩
       rintro _ ⟨v26,w95,rfl⟩
       refine PO.weak w95 ?_
       refine PO.nil ?_
       exact⟨v26,Weak.one [] [] (by kernel_rfl),Option.some.inj e84⟩
      have e84:=bif_f h85 e84
      refine PO.run 6 rfl ?_
      refine PO.same rfl (pickF_ok rfl rfl rfl) rfl ?_
      refine PO.run 6 rfl ?_
      refine PO.same rfl (pickF_ok rfl rfl rfl) rfl ?_
      refine PO.run 6 rfl ?_
      refine PO.same rfl (pickF_ok rfl rfl rfl) rfl ?_
      refine PO.nil ?_
      exact⟨false,Weak.one [] [] (by kernel_rfl),Option.some.inj e84⟩
     rintro _ ⟨v25,w96,rfl⟩
     refine PO.weak w96 ?_
     refine PO.nil ?_
     exact⟨v25,Weak.one [] [] (by kernel_rfl),Option.some.inj e79⟩
    have e79:=bif_f h80 e79
    refine PO.run 6 rfl ?_
    refine PO.same rfl (pickF_ok rfl rfl rfl) rfl ?_
    refine PO.run 7 rfl ?_
    refine PO.same rfl (pickF_ok rfl rfl rfl) rfl ?_
    refine PO.run 6 rfl ?_
    refine PO.same rfl (pickF_ok rfl rfl rfl) rfl ?_
    refine PO.run 6 rfl ?_
    refine PO.same rfl (pickF_ok rfl rfl rfl) rfl ?_
    refine PO.nil ?_
    exact⟨false,Weak.one [] [] (by kernel_rfl),Option.some.inj e79⟩
   rintro _ ⟨v24,w97,rfl⟩
   refine PO.weak w97 ?_
   refine PO.nil ?_
   exact⟨v24,Weak.one [] [] (by kernel_rfl),Option.some.inj e76⟩
  have e76:=bif_f h77 e76
  refine PO.run 2 rfl ?_
  refine PO.same rfl (pickF_ok rfl rfl rfl) rfl ?_
  refine PO.run 7 rfl ?_
  refine PO.same rfl (pickF_ok rfl rfl rfl) rfl ?_
  refine PO.run 7 rfl ?_
  refine PO.same rfl (pickF_ok rfl rfl rfl) rfl ?_
  refine PO.run 6 rfl ?_
  refine PO.same rfl (pickF_ok rfl rfl rfl) rfl ?_
  refine PO.run 6 rfl ?_
  refine PO.same rfl (pickF_ok rfl rfl rfl) rfl ?_
  refine PO.nil ?_
  exact⟨false,Weak.one [] [] (by kernel_rfl),Option.some.inj e76⟩
 rintro _ ⟨v23,w98,rfl⟩
 refine PO.weak w98 ?_
 refine PO.run 1 rfl ?_
 refine PO.nil ?_
 have hq:=Option.some.inj hF
 subst hq
 exact PC.ret' (retMK [] [] (by kernel_rfl) (.refl _) ⟨rfl,rfl,rfl⟩)
end
end Go.Eng.Lift
