/-
  Arrays of one's own, slices of them, bytes and strings; a loop's round by itself.
-/
import Derived.Test.YtdehaeillolhbaaM21
namespace Go.Eng
noncomputable section
variable {P:Program} {O:FuncId->Option Value}
def loop1P (P:Program) (O:FuncId->Option Value) (rnd:Option Nat) (x:Code) (Q:AX->PS->Prop):AX->PS->Prop
 | .normal,s=>PC P O rnd (.loop x) s Q
 | y,s=>Q y s
theorem PC.loop1 {rnd:Option Nat} {x:Code} {s:PS} {Q:AX->PS->Prop} (h:PC P O rnd x s (loop1P P O rnd x Q)):PC P O rnd (.loop x) s Q:=λ C e a H hR hX=>by
 obtain⟨n,y,a1,H1,h1,e1,s1,k1,k2⟩:=h C e a H hR hX
 cases y with
 | normal=>
  obtain⟨m,z,a2,H2,h3,h4⟩:=k2 C e1 a1 H1 k1 hX
  refine⟨max n m+1,z,a2,H2,?_,h4⟩
  simp only[oRun,aStep,run_up (Nat.le_max_left n m) h1]
  show oRun P O (max n m) (.code rnd (.loop x) a1) H1=_
  exact run_up (Nat.le_max_right n m) h3
 | exit id=>exact⟨n+1,_,a1,H1,by simp only[oRun,aStep,h1]; rfl,e1,s1,k1,k2⟩
 | goto l=>exact⟨n+1,_,a1,H1,by simp only[oRun,aStep,h1]; rfl,e1,s1,k1,k2⟩
 | ret=>exact⟨n+1,_,a1,H1,by simp only[oRun,aStep,h1]; rfl,e1,s1,k1,k2⟩
theorem loop1P.end {rnd:Option Nat} {x:Code} {s:PS} {Q:AX->PS->Prop} (h:PC P O rnd (.loop x) s Q):loop1P P O rnd x Q .normal s:=h
theorem loop1P.exit {rnd:Option Nat} {x:Code} {s:PS} {Q:AX->PS->Prop} {i:Nat} (h:Q (.exit i) s):loop1P P O rnd x Q (.exit i) s:=h
section
variable {s:PS} {d:Option Tmp} {ty:TypeId} {pst:String} {af:Array Edge} {gu:Option (Nat×Bool)}
theorem arrAddr_ok {t el sz N k off i:Nat} {x y:Operand} {kd:IntKind} (ht:P.underlying t=some (.array N el)) (hs:tSize P el=.ok sz) (hx:s.ev x=some (.ptr k off)) (hi:s.ev y=some (.val (.int kd (i:Int)))) (hN:Nat.ble (i+1) N=true):OpSame P O s ⟨d,.indexAddr t x y,ty,pst,af,gu⟩ (.ptr k (off+i * sz)):=
 .mk' rfl λ C e a H hR=>by
  obtain⟨v,h1,h2⟩:=hR.ev hx
  obtain⟨u,h3,h4⟩:=hR.ev hi
  have e1:=h4.bool_inv; subst e1
  rw[Nat.ble_eq] at hN
  cases h2 with
  | @ptr _ _ id hk=>
   refine⟨0,.pointer (some ⟨id,off+i * sz,none⟩),?_,.ptr hk⟩
   simp only[aOp,AAct.ev_eval h1,AAct.ev_eval h3,bind,Except.bind,ht,natIn_at (m:=(i:Int)) (n:=i) rfl (by omega) (show i<=N - 1 by omega),hs]
   rw[if_pos (show i < N by omega)]
theorem idxSl_ok {t el sz k off n c i:Nat} {x y:Operand} {kd:IntKind} (ht:P.underlying t=some (.slice el)) (hs:tSize P el=.ok sz) (hx:s.ev x=some (.sl k off n c)) (hi:s.ev y=some (.val (.int kd (i:Int)))) (hN:Nat.ble (i+1) n=true):OpSame P O s ⟨d,.indexAddr t x y,ty,pst,af,gu⟩ (.ptr k (off+i * sz)):=
 .mk' rfl λ C e a H hR=>by
  obtain⟨v,h1,h2⟩:=hR.ev hx
  obtain⟨u,h3,h4⟩:=hR.ev hi
  have e1:=h4.bool_inv; subst e1
  rw[Nat.ble_eq] at hN
  cases h2 with
  | @sl _ _ _ _ id hk=>
   refine⟨0,.pointer (some ⟨id,off+i * sz,none⟩),?_,.ptr hk⟩
   simp only[aOp,AAct.ev_eval h1,AAct.ev_eval h3,bind,Except.bind,ht,natIn_at (m:=(i:Int)) (n:=i) rfl (by omega) (show i<=n - 1 by omega),hs]
   rw[if_pos (show i < n by omega)]
end
end
end Go.Eng
