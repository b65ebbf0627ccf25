/-
  Calls put off; parts with three bounds; numbers: shifts, remainders; a text's byte.
-/
import Derived.Test.YtdehaeillolhbaaM25
namespace Go.Eng
noncomputable section
variable {P:Program} {O:FuncId->Option Value}
def WB1 (P:Program) (O:FuncId->Option Value) (f:FuncId) (vs:List Value) (H:AH) (Q:Value->AH->Prop):Prop:=
 ∃ fn c,bodyOf P f vs=.ok (fn,c)/\WC P O none c (startAct fn.ntmps vs) H (λ e a1 H1=>(e=.normal\/e=.ret)/\a1.marks=[]/\∃ v,aResults P H1 a1 fn.results.toList=.ok v/\Q v H1)
theorem WB1.mono {f:FuncId} {vs:List Value} {H:AH} {Q Q':Value->AH->Prop} (h:WB1 P O f vs H Q) (hq:∀ v H,Q v H->Q' v H):WB1 P O f vs H Q':=
 let ⟨fn,c,h1,h2⟩:=h; ⟨fn,c,h1,h2.mono λ e a1 H1 ⟨k1,k2,v,k3,k4⟩=>⟨k1,k2,v,k3,hq _ _ k4⟩⟩
def PB (P:Program) (O:FuncId->Option Value) (f:FuncId) (args:List PV) (fr:List PRow) (tk:List Nat) (Q:PV->List PRow->List Nat->Prop):Prop:=
 ∀ e H vs,HInv e fr tk H->XC e H->L2 (RV e tk H true) args vs->WB1 P O f vs H (λ v H'=>∃ e' fr' tk' p,Step e tk H e' fr' tk' H'/\RV e' tk' H' true p v/\Q p fr' tk')
theorem ret_end {fn:Func} {Q:PV->List PRow->List Nat->Prop} {e e':Env} {tk:List Nat} {H H':AH} {x:AX} {a':AAct} {s':PS} (h1:RelA (ctx e tk H) e' s' a' H') (h2:retS P fn Q x s') :
  (x=.normal\/x=.ret)/\a'.marks=[]/\∃ v,aResults P H' a' fn.results.toList=.ok v/\∃ e' fr' tk' p,Step e tk H e' fr' tk' H'/\RV e' tk' H' true p v/\Q p fr' tk':=by
 obtain⟨h2,hms,p,ks,ts,p1,p',fr',h3,h5,h6,h4⟩:=h2
 obtain⟨v,k1,k2⟩:=h1.results h3
 simp only[Prod.mk.injEq] at h5
 obtain⟨g1,g2,g3,g4⟩:=h5
 obtain⟨m1,m2⟩:=oneR_at g3
 have hX':∀ id fam en,Stay e' s'.tk H' id fam en->e'.X id fam en:=λ id fam en hs=>hs.x
 have hsel:=sel_mk h1.h.inv (selB_ok g1) (selB_ok g2) hX'
 have h7:=h1.sel (selB_ok g1) (selB_ok g2) m1 m2 (tm1:=.nil) (λ t q h=>by cases h)
 refine⟨?_,(hms ▸ h1.marks).none,v,k1,e'.sel ks ts e'.X,fr',pickN s'.tk ts,p',h7.h.back,?_,h4⟩
 ·cases x <;> first | exact .inl rfl | exact .inr rfl | exact h2.elim
 ·exact(k2.sel hsel 4 g4).wk (λ k a b=>by omega) h6
theorem start_rel {fn:Func} {args:List PV} {fr:List PRow} {tk:List Nat} {e:Env} {H:AH} {vs:List Value} (hn:args.length<=fn.ntmps) (hm:args.length<=1000000) (hI:HInv e fr tk H) (hX:XC e H) (ha:L2 (RV e tk H true) args vs):RelA (ctx e tk H) e (PS.start fn.ntmps args fr tk) (startAct fn.ntmps vs) H:=
 ⟨RelH.start hI hX,rfl,.nil rfl,hI.rlen,hI.tlen,λ t p ht=>by
  simp only[PS.start] at ht
  rw[start_get args 0 _ (by omega) t] at ht
  split at ht
  ·obtain⟨v,hv,hv'⟩:=ha.at ht
   refine⟨v,?_,hv'⟩
   unfold startAct
   simp only
   rw[start_get vs 0 _ (by rw[<- ha.1]; omega) t,if_pos (by rw[<- ha.1]; assumption)]
   exact hv
  ·rw[T.get_full] at ht; cases ht⟩
theorem PB.enterS {f:FuncId} {fn:Func} {c:Code} {args:List PV} {fr:List PRow} {tk:List Nat} {Q:PV->List PRow->List Nat->Prop} (hf:P.funcs[f]? = some fn) (hc:fn.body=some c) (hn:Nat.ble args.length fn.ntmps=true) (hm:Nat.ble args.length 1000000=true)
  (hx:(fn.name == "runtime.NumGoroutine")=false) (h:PC P O none c (PS.start fn.ntmps args fr tk) (retS P fn Q)):PB P O f args fr tk Q:=by
 intro e H vs hI hX ha
 rw[Nat.ble_eq] at hn hm
 refine⟨fn,c,bodyOf_mk hf hc (by rw[<- ha.1]; exact hn) (by rw[<- ha.1]; exact hm) hx,?_⟩
 exact(h (ctx e tk H) e (startAct fn.ntmps vs) H (start_rel hn hm hI hX ha) (λ l hl=>by cases hl)).mono λ x a' H' ⟨e',s',h1,h2⟩=>ret_end h1 h2
theorem call_coreB {C:Ctx} {e:Env} {s:PS} {a:AAct} {H:AH} (hR:RelA C e s a H) {g:FuncId} {args args1:List PV} {vs:List Value} {ks ts:List Nat} {fr1:List PRow} {Qf K:PV->List PRow->List Nat->Prop} (hv:L2 (RV e s.tk H true) args vs)
  (hk:selB 0 s.fr.length ks=true) (ht:selB 0 s.tk.length ts=true) (ha:mapO (PV.to (idx ks) (idx ts) 4) args=some args1) (hfr:SelFr0 s.fr ks ts ks fr1) (hf:PB P O g args1 fr1 (pickN s.tk ts) Qf) (hK:CallK s ks ts Qf K) :
  WB1 P O g vs H (λ v H'=>∃ e' p fr' tk',Step e s.tk H e' fr' tk' H'/\RV e' tk' H' true p v/\K p fr' tk'):=by
 have hk':=selB_ok hk
 have ht':=selB_ok ht
 have hI:=hR.h.inv
 have hX:=hR.h.xc
 have hx:∀ id fam en,Stay e s.tk H id fam en->hidX e s.tk ts id fam en:=λ id fam en hs=>⟨hs.x,hs.row,λ t τ n _ h1 h2 h3=>hs.tok t τ n h1 h2 h3⟩
 obtain⟨hfl,hfa⟩:=hfr.at
 have hI1:HInv (e.sel ks ts (hidX e s.tk ts)) fr1 (pickN s.tk ts) H:=hinv_sel hI hk' ht' hx hfl hfa
 have hsel:=sel_mk hI hk' ht' hx
 have hX1:XC (e.sel ks ts (hidX e s.tk ts)) H:=by
  refine⟨λ id fam en h1 h2=>⟨hX.new id fam en h1 h2,λ hm=>by have:=hI.rlt hm; omega,λ t τ n _ h3 _ h4=>by have:=hI.tlt t τ h3; omega⟩,λ t τ id en h1 h2=>?_⟩
  obtain⟨t',b1,b2⟩:=pickT_inv (l:=e.toks) (λ i k hi=>by rw[hI.tlen]; exact ht'.lt i k hi) h1
  refine⟨hX.tok t' τ id en b2 h2,λ hm=>by have:=hI.rlt hm; omega,λ t2 τ2 n h3 h4 _ h5=>?_⟩
  have:=hI.tsep t' t2 τ τ2 b2 h4 h5
  subst this
  rw[idx_of ht'.nd b1] at h3; cases h3
 refine(hf _ H vs hI1 hX1 (hv.sel hsel ha)).mono λ v H' ⟨e2,fr2,tk2,p,h1,h2,h3⟩=>?_
 obtain⟨p3,fr2b,k1,k2,k3⟩:=hK p fr2 tk2 h3
 obtain⟨e3,m1,m2⟩:=call_back hR hk' ht' hI1 h1 k2
 exact⟨e3,p3,_,_,m1,h2.sel m2 4 k1,k3⟩
theorem PO.defer {all os:List Oper} {s:PS} {Q:PS->Prop} {o:Oper} {t:Tmp} {tys:Array TypeId} {g:FuncId} {l m:List PV} (ho:o.op=.defer ⟨.value (.tmp t),#[],tys⟩) (hf:s.tm.get t=some (.fn g l m)) (hw:pWanted all s o=some true) (hd:o.dst=none) (hms:s.ms=[])
  (h:PO P O none all os ⟨s.tm,s.n,s.fr,s.tk,s.r0,s.t0,[some t]⟩ Q):PO P O none all (o :: os) s Q:=λ C e a H hR=>by
 obtain⟨fv,h3,h4⟩:=hR.tm t _ hf
 have hm0:a.marks=[]:=(hms ▸ hR.marks).none
 cases h4 with
 | @fn _ _ _ _ us ws hl hh hm hh'=>
  have hR2:RelA C e ⟨s.tm,s.n,s.fr,s.tk,s.r0,s.t0,[some t]⟩ ⟨a.tm,a.n,[.call g (us.toArray.toList++[]++ws.toArray.toList)]⟩ H:=by
   refine⟨hR.h,hR.n,⟨?_,λ i j m' hi=>?_⟩,hR.r0,hR.t0,hR.tm⟩
   ·show L2 _ [some t] [_]
    refine L2.cons ?_ L2.nil
    exact⟨us.toArray,ws.toArray,h3,by simp⟩
   ·cases i with
    | zero=>simp at hi
    | succ i=>simp at hi
  obtain⟨n,a',H',k1,k2⟩:=h C e _ H hR2
  refine⟨n,a',H',?_,k2⟩
  have hev:a.eval (.tmp t)=.ok (.func (.func g) us.toArray ws.toArray):=AAct.ev_eval h3
  obtain⟨d,op,ty,ps,af,gu⟩:=o
  simp only at ho hd
  subst ho; subst hd
  simp only[aOps,hR.wanted hw,deferOf,bind,Except.bind,aDefer,allR,hev,Option.isSome_none,Bool.false_eq_true,if_false,if_true,hm0]
  exact k1
theorem leave_one {f:FuncId} {vs:List Value} {H:AH} {Q:Value->AH->Prop} (h:WB1 P O f vs H Q):∃ v H2 n0,(∀ n,n0<=n->aLeave P (oRun P O n) [.call f vs] H=.ok H2)/\Q v H2:=by
 obtain⟨fn,c,hb,n,e,a1,H1,h1,h2,h3,v,h4,h5⟩:=h
 refine⟨v,H1,n,λ k hk=>?_,h5⟩
 simp only[aLeave,hb,bind,Except.bind,run_up hk h1]
 rcases h2 with rfl | rfl <;> simp only[h3,List.isEmpty_nil,if_true,h4]
theorem WF1.callL {f:FuncId} {fn:Func} {c:Code} {vs:List Value} {H:AH} {Q:Value->AH->Prop} (hb:bodyOf P f vs=.ok (fn,c)) (hk:Eng.known O f vs=none)
  (h:WC P O none c (startAct fn.ntmps vs) H (λ e a1 H1=>(e=.normal\/e=.ret)/\∃ H2,(∃ n0,∀ n,n0<=n->aLeave P (oRun P O n) a1.marks H1=.ok H2)/\∃ v,aResults P H2 a1 fn.results.toList=.ok v/\Q v H2)):WF1 P O f vs H Q:=by
 obtain⟨n,e,a1,H1,h1,h2,H2,⟨n0,h3⟩,v,h4,h5⟩:=h
 refine⟨max n n0+1,v,H2,?_,h5⟩
 simp only[oRun,hk,aStep,hb]
 show(oRun P O (max n n0) (.code none c (startAct fn.ntmps vs)) H >>= _)=_
 rw[run_up (Nat.le_max_left n n0) h1]
 rcases h2 with rfl | rfl
 ·show(aLeave P (oRun P O (max n n0)) a1.marks H1 >>= _)=_
  rw[h3 _ (Nat.le_max_right n n0)]
  show(aResults P H2 a1 fn.results.toList >>= _)=_
  rw[h4]; rfl
 ·show(aLeave P (oRun P O (max n n0)) a1.marks H1 >>= _)=_
  rw[h3 _ (Nat.le_max_right n n0)]
  show(aResults P H2 a1 fn.results.toList >>= _)=_
  rw[h4]; rfl
def retD (P:Program) (O:FuncId->Option Value) (fn:Func) (Q:PV->List PRow->List Nat->Prop):AX->PS->Prop:=λ x s=>retS P fn Q x s\/(∃ (t:Tmp) (g:FuncId) (l m args1:List PV) (ks ts:List Nat) (fr1:List PRow) (Qf:PV->List PRow->List Nat->Prop),s.ms=[some t]/\s.tm.get t=some (.fn g l m) /\
 selB 0 s.fr.length ks=true/\selB 0 s.tk.length ts=true/\mapO (PV.to (idx ks) (idx ts) 4) (l++m)=some args1/\SelFr0 s.fr ks ts ks fr1/\PB P O g args1 fr1 (pickN s.tk ts) Qf/\CallK s ks ts Qf (λ _ fr tk=>retS P fn Q x ⟨s.tm,s.n,fr,tk,s.r0,s.t0,[]⟩))
theorem PF.enterD {f:FuncId} {fn:Func} {c:Code} {args:List PV} {fr:List PRow} {tk:List Nat} {Q:PV->List PRow->List Nat->Prop} (hf:P.funcs[f]? = some fn) (hc:fn.body=some c) (hn:Nat.ble args.length fn.ntmps=true) (hm:Nat.ble args.length 1000000=true)
  (hx:(fn.name == "runtime.NumGoroutine")=false) (hk:nilKnown O f args=none) (h:PC P O none c (PS.start fn.ntmps args fr tk) (retD P O fn Q)):PF P O f args fr tk Q:=by
 intro e H vs hI hX ha
 rw[Nat.ble_eq] at hn hm
 refine WF1.callL (bodyOf_mk hf hc (by rw[<- ha.1]; exact hn) (by rw[<- ha.1]; exact hm) hx) ?_ ?_
 ·cases args with
  | nil=>have:=ha.cases_nil; subst this; exact hk
  | cons p l=>obtain⟨v,m,rfl,_⟩:=ha.cases_cons; rfl
 ·refine(h (ctx e tk H) e (startAct fn.ntmps vs) H (start_rel hn hm hI hX ha) (λ l hl=>by cases hl)).mono λ x a' H' ⟨e',s',h1,h2⟩=>?_
  rcases h2 with h2 | ⟨t,g,l,m,args1,ks,ts,fr1,Qf,hms,hg,hks,hts,ha1,hfr,hB,hK⟩
  ·obtain⟨k1,k2,v,k3,k4⟩:=ret_end h1 h2
   exact⟨k1,H',⟨0,λ n _=>by rw[k2]; rfl⟩,v,k3,k4⟩
  ·obtain⟨fv,q1,q2⟩:=h1.tm t _ hg
   have hmk:=h1.marks
   rw[hms] at hmk
   have hrel:L2 (MarkR (ctx e tk H).H0.next a' H') [some t] a'.marks:=hmk.rel
   obtain⟨d,rest,hd,hd1,hd2⟩:=hrel.cases_cons
   have hrest:=hd2.cases_nil
   subst hrest
   cases d with
   | mark m=>exact hd1.elim
   | call f' vs'=>
    obtain⟨first,cap,b1,b2⟩:=hd1
    rw[q1] at b1
    cases q2 with
    | @fn _ _ _ _ us ws hl hh hm' hh'=>
     cases b1
     have hv:L2 (RV e' s'.tk H' true) (l++m) vs':=by
      rw[b2]
      have q3:L2 (RV e' s'.tk H' true) (l++m) (us++ws):=L2.append ⟨hl,hh⟩ ⟨hm',hh'⟩
      simpa using q3
     obtain⟨v0,H2,n0,c1,e2,p2,fr2,tk2,c2,c3,c4⟩:=leave_one (call_coreB h1 hv hks hts ha1 hfr hB hK)
     have hR2:RelA (ctx e tk H) e2 (s'.mem fr2 tk2) a' H2:=h1.upd (d:=none) rfl c2 c3
     have hR3:RelA (ctx e tk H) e2 ⟨s'.tm,s'.n,fr2,tk2,s'.r0,s'.t0,[]⟩ ⟨a'.tm,a'.n,[]⟩ H2:=⟨hR2.h,hR2.n,.nil rfl,hR2.r0,hR2.t0,hR2.tm⟩
     obtain⟨k1,k2,v,k3,k4⟩:=ret_end hR3 c4
     exact⟨k1,H2,⟨n0,λ n hn=>by rw[hd]; exact c1 n hn⟩,v,k3,k4⟩
theorem retD.now {s:PS} {fn:Func} {Q:PV->List PRow->List Nat->Prop} {x:AX} (h:retS P fn Q x s):retD P O fn Q x s:=.inl h
theorem retD.off {s:PS} {fn:Func} {Q:PV->List PRow->List Nat->Prop} {x:AX} {t:Tmp} {g:FuncId} {l m args1:List PV} {ks ts:List Nat} {fr1:List PRow} {Qf:PV->List PRow->List Nat->Prop} (hms:s.ms=[some t]) (hg:s.tm.get t=some (.fn g l m))
  (hks:selB 0 s.fr.length ks=true) (hts:selB 0 s.tk.length ts=true) (ha:mapO (PV.to (idx ks) (idx ts) 4) (l++m)=some args1) (hfr:SelFr0 s.fr ks ts ks fr1) (hB:PB P O g args1 fr1 (pickN s.tk ts) Qf)
  (hK:CallK s ks ts Qf (λ _ fr tk=>retS P fn Q x ⟨s.tm,s.n,fr,tk,s.r0,s.t0,[]⟩)):retD P O fn Q x s:=.inr ⟨t,g,l,m,args1,ks,ts,fr1,Qf,hms,hg,hks,hts,ha,hfr,hB,hK⟩
section ops
variable {rnd:Option Nat} {all os:List Oper} {s:PS} {Q:PS->Prop} {d:Option Tmp} {ty:TypeId} {pst:String} {af:Array Edge} {gu:Option (Nat×Bool)}
theorem aBin_shl {t:TypeId} {x y:Operand} {k j:IntKind} {m n:Int} (h:0<=n):aBin P .shl t x y (.int k m) (.int j n)=.ok (.int k (k.wrap (m * 2 ^ (min n.toNat k.bits)))):=by
 simp only[aBin,gOnly,binOp,Op.shift,pureRun,if_neg (show ¬ n < 0 by omega),pure]
 rfl
theorem shl_ok {t t2:TypeId} {x y:Operand} {k j:IntKind} {m n:Int} (hx:s.ev x=some (.val (.int k m))) (hy:s.ev y=some (.val (.int j n))) (h:0<=n):OpSame P O s ⟨d,.binOp .shl t x y t2,ty,pst,af,gu⟩ (.val (.int k (k.wrap (m * 2 ^ (min n.toNat k.bits))))):=
 .mk' rfl λ C e a H hR=>by
  obtain⟨u,h1,h2⟩:=hR.ev hx
  obtain⟨w,h3,h4⟩:=hR.ev hy
  have e1:=h2.bool_inv; subst e1
  have e2:=h4.bool_inv; subst e2
  exact⟨0,_,by simp only[aOp,AAct.ev_eval h1,AAct.ev_eval h3,bind,Except.bind,bothPtr,aBin_shl h,Bool.false_eq_true,if_false],.val rfl⟩
theorem aBin_shr {t:TypeId} {x y:Operand} {k j:IntKind} {m n:Int} (h:0<=n):aBin P .shr t x y (.int k m) (.int j n)=.ok (.int k (m.fdiv (2 ^ (min n.toNat k.bits)))):=by
 simp only[aBin,gOnly,binOp,Op.shift,pureRun,if_neg (show ¬ n < 0 by omega),pure]
 rfl
theorem shr_ok {t t2:TypeId} {x y:Operand} {k j:IntKind} {m n:Int} (hx:s.ev x=some (.val (.int k m))) (hy:s.ev y=some (.val (.int j n))) (h:0<=n):OpSame P O s ⟨d,.binOp .shr t x y t2,ty,pst,af,gu⟩ (.val (.int k (m.fdiv (2 ^ (min n.toNat k.bits))))):=
 .mk' rfl λ C e a H hR=>by
  obtain⟨u,h1,h2⟩:=hR.ev hx
  obtain⟨w,h3,h4⟩:=hR.ev hy
  have e1:=h2.bool_inv; subst e1
  have e2:=h4.bool_inv; subst e2
  exact⟨0,_,by simp only[aOp,AAct.ev_eval h1,AAct.ev_eval h3,bind,Except.bind,bothPtr,aBin_shr h,Bool.false_eq_true,if_false],.val rfl⟩
end ops
def bindP {β:Type} (n:Int) (f:Option β):Option β:=if 0<=n then f else none
theorem bindP_some {β:Type} {n:Int} {f:Option β} {r:β} (h:bindP n f=some r):0<=n/\f=some r:=by
 unfold bindP at h
 split at h
 ·rename_i h0; exact⟨h0,h⟩
 ·cases h
end
end Go.Eng
