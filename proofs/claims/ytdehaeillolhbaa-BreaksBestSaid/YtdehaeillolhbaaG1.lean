/- aG1 -/
import Derived.Test.YtdehaeillolhbaaG0
import Derived.Sort.Grow
import Derived.Sort.Row
import Derived.ProofKit
import Derived.OpenShut
import Derived.ReadAgain
set_option linter.unusedVariables false
set_option linter.unusedSimpArgs false
namespace Go.cy
noncomputable section
variable {P:Program}
def kQ (P:Program) (o:Oper):Bool:=eJ P o.op || fC o.op || bP o
def bW (f:AH->R (Value×AH)):Prop:=∃ x:R Value,∀ H,f H=x >>= λ v=>.ok (v,H)
theorem bW.uG {n:Nat} : bW (λ _=>.error n):=⟨.error n,λ _=>rfl⟩
theorem bW.val {v:Value} : bW (λ H=>.ok (v,H)):=⟨.ok v,λ _=>rfl⟩
theorem bW.bind {α:Type} {x:R α} {f:α->AH->R (Value×AH)} (h:∀ a,bW (f a)):bW (λ H=>x >>= λ a=>f a H):=by
 cases x with
 | error e=>exact⟨.error e,λ _=>rfl⟩
 | ok a=>obtain⟨y,hy⟩:=h a; exact⟨y,λ H=>hy H⟩
theorem Nf {rec:eL} {a:az} {o:Oper} (U:eJ P o.op=true):bW (λ H=>b9 P rec a H o):=by
 obtain⟨d,op,ty,ps,af,gu⟩:=o;cases op <;> simp only[eJ] at U <;> first | (cases U; done) | skip
 case move x=>simp only[b9]; exact bW.bind λ u=>bW.val
 case assign x=>simp only[b9]; exact bW.bind λ u=>bW.val
 case pick c x y=>
  simp only[b9];refine bW.bind λ u=>?_;split
  ·exact bW.bind λ u=>bW.val
  ·exact bW.uG
 case nilCheck x=>
  simp only[b9];refine bW.bind λ u=>?_;split
  ·exact bW.val
  ·exact bW.val
  ·exact bW.val
  ·exact bW.uG
 case binOp op t x y t2=>
  simp only[b9];refine bW.bind λ u=>bW.bind λ w=>?_;split
  ·have e:∀ H,rn P H op t u w=.error 353:=λ H=>by
    unfold rn;cases hU:P.underlying t with
    | none=>rfl
    | some d=>cases d <;> first | (rw[hU] at U; cases U; done) | rfl
   exact⟨.error 353,λ H=>by show(rn P H op t u w >>= λ z=>Except.ok (z,H))=_; rw[e]⟩
  ·exact bW.bind λ z=>bW.val
 case unOp op t x=>
  simp only[b9];refine bW.bind λ u=>?_;split
  ·exact bW.bind λ u=>bW.val
  ·exact bW.bind λ u=>bW.val
  ·exact bW.uG
 case makeInterface t x=>
  simp only[b9];split
  ·exact bW.uG
  ·exact bW.bind λ u=>bW.val
  ·exact bW.uG
 case makeFunc fn first cap=>
  cases fn <;> simp only[b9] <;> first | exact bW.uG | exact bW.bind λ u=>bW.bind λ w=>bW.val
 case fieldAddr t x f=>
  simp only[b9];split
  ·split
   ·refine bW.bind λ u=>bW.bind λ p=>bW.bind λ n=>?_;split
    ·exact bW.uG
    ·exact bW.val
   ·exact bW.uG
  ·exact bW.uG
 case field t x f=>
  simp only[b9];refine bW.bind λ u=>?_;split
  ·split
   ·exact bW.bind λ u=>bW.val
   ·exact bW.uG
  ·exact bW.uG
 case indexAddr t x i=>
  simp only[b9];refine bW.bind λ u=>?_;split
  ·refine bW.bind λ u=>bW.bind λ i=>?_;split
   ·exact bW.bind λ u=>bW.val
   ·exact bW.uG
  ·refine bW.bind λ u=>bW.bind λ i=>?_;split
   ·exact bW.bind λ u=>bW.val
   ·exact bW.uG
  ·exact bW.uG
 case index t x i=>
  simp only[b9];refine bW.bind λ u=>?_;split
  ·refine bW.bind λ u=>bW.bind λ i=>?_;split
   ·exact bW.val
   ·exact bW.uG
  ·refine bW.bind λ u=>bW.bind λ i=>?_;split
   ·exact bW.bind λ u=>bW.bind λ w=>bW.val
   ·exact bW.uG
  ·exact bW.uG
 case extract x i=>
  simp only[b9];refine bW.bind λ u=>?_;split
  ·split
   ·exact bW.val
   ·exact bW.uG
  ·exact bW.uG
 case build t bH=>
  simp only[b9];refine bW.bind λ u=>bW.bind λ zs=>?_;split
  ·refine bW.bind λ pl=>?_;split
   ·exact bW.val
   ·exact bW.uG
  ·refine bW.bind λ pl=>?_;split
   ·exact bW.val
   ·exact bW.uG
  ·exact bW.uG
 case convert s t x=>
  simp only[b9];refine bW.bind λ u=>?_;split at U
  ·rename_i k hk;unfold sx;split
   ·split
    ·rename_i B D; rw[hk] at B; cases B
    ·exact bW.uG
   ·split
    ·rename_i B D; rw[hk] at B; cases B
    ·rename_i B D; rw[hk] at B; cases B
    ·exact bW.uG
   ·split
    ·rename_i B D; rw[hk] at B; cases B
    ·exact bW.bind λ u=>bW.val
   ·exact bW.bind λ u=>bW.val
   ·exact bW.uG
  ·cases U
 case call c=>
  obtain⟨IF,args,xf⟩:=c;cases IF with
  | value f=>simp at U
  | invoke r m=>simp at U
  | builtin b=>
   cases b <;> simp only at U <;> first | (cases U; done) | skip
   ·simp only[b9];refine bW.bind λ vs=>?_;rcases vs with _ | ⟨x,_ | ⟨y,l⟩⟩
    ·exact bW.uG
    ·simp only;split
     ·exact bW.bind λ u=>bW.val
     ·exact bW.uG
    ·exact bW.uG
   ·simp only[b9];refine bW.bind λ vs=>?_;split
    ·exact bW.bind λ u=>bW.val
    ·exact bW.uG
   ·simp only[b9];refine bW.bind λ vs=>?_;split
    ·exact bW.bind λ u=>bW.val
    ·exact bW.uG
theorem Ng {rec:eL} {a:az} {H H1:AH} {o:Oper} {v:Value} (U:eJ P o.op=true) (h:b9 P rec a H o=.ok (v,H1)):H1=H/\∀ H2,b9 P rec a H2 o=.ok (v,H2):=by
 obtain⟨x,Y⟩:=Nf (P:=P) (rec:=rec) (a:=a) U;simp only at Y;rw[Y] at h;obtain⟨u,B,D⟩:=bE h;cases D;exact⟨rfl,λ H2=>by rw[Y,B]; rfl⟩
theorem Nh {rec:eL} {a:az} {H H1:AH} {o:Oper} {v:Value} (U:fC o.op=true) (h:b9 P rec a H o=.ok (v,H1)):H1=H:=by
 obtain⟨d,op,ty,ps,af,gu⟩:=o;cases op <;> simp only[fC] at U <;> first | (cases U; done) | skip
 case load t x=>
  simp only[b9] at h;obtain⟨u,B,D⟩:=bE h;obtain⟨p,V,h4⟩:=bE D;obtain⟨w,h5,h6⟩:=bE h4;cases h6;rfl
 case lookup t x i ok=>
  simp only[b9] at h;obtain⟨u,B,D⟩:=bE h;obtain⟨p,V,h4⟩:=bE D;obtain⟨w,h5,h6⟩:=bE h4;cases h6;rfl
 case typeAssert x xt t ok=>
  simp only[b9] at h;obtain⟨u,B,D⟩:=bE h;obtain⟨p,V,h4⟩:=bE D;cases h4;rfl
 case slice t x lo N mx=>
  simp only[b9] at h;obtain⟨u,B,D⟩:=bE h;obtain⟨p,V,h4⟩:=bE D;obtain⟨w,h5,h6⟩:=bE h4;obtain⟨w2,h7,h8⟩:=bE h6;obtain⟨w3,h9,AP⟩:=bE h8;cases AP;rfl
theorem vt {rec:eL} {os:List Oper} {a:az} {H H1:AH} {o:Oper} {v:Value} (U:eJ P o.op=true) (h:tp P rec os a H o=.ok (v,H1)):H1=H/\∀ H2,tp P rec os a H2 o=.ok (v,H2):=by
 unfold tp at h ⊢;obtain⟨b,B,D⟩:=bE h;cases b with
 | true=>
  simp only[if_true] at D;obtain⟨e,V⟩:=Ng U D;exact⟨e,λ H2=>by rw[B]; exact V H2⟩
 | false=>
  simp only[Bool.false_eq_true,if_false] at D;cases D;exact⟨rfl,λ H2=>by rw[B]; rfl⟩
theorem zN {rec:eL} {os:List Oper} {a:az} {H H1:AH} {o:Oper} {v:Value} (U:fC o.op=true) (h:tp P rec os a H o=.ok (v,H1)):H1=H:=by
 unfold tp at h;obtain⟨b,B,D⟩:=bE h;cases b with
 | true=>simp only[if_true] at D; exact Nh U D
 | false=>simp only[Bool.false_eq_true,if_false] at D; cases D; rfl
theorem tH {rec:eL} {os:List Oper} {pn:List c5} {a:az} {o:Oper} {v:Value} {c:Nat} (hr:fC o.op=true):∀ (l:List (Nat×PM)),dw P rec os pn a o v c l=true->∀ (m:Nat) (x:Nat×PM),l[m]? = some x->(∀ (m':Nat) (y:Nat×PM),m'<=m->l[m']? = some y->c.testBit y.1=false)->tp P rec os a (x.2.dy c pn) o=.ok (v,x.2.dy c pn)
 | [],_,m,x,Y,_=>by simp at Y
 | (j,H) :: l,h,m,x,Y,hn=>by
  have h0:=hn 0 (j,H) (Nat.zero_le _) rfl;simp only[dw,h0,Bool.false_eq_true,if_false,Bool.and_eq_true] at h;cases m with
  | zero=>
   simp at Y;subst Y;have B:=h.1;split at B
   ·rename_i u H1 hd;have e:=zN hr hd;subst e;rw[hd,TL _ B]
   ·cases B
  | succ m=>
   exact tH hr l h.2 m x (by simpa using Y) (λ m' y hm hy=>hn (m'+1) y (by omega) (by simpa using hy))
structure sV (P:Program) (rec:eL) (os:List Oper) (cl:List Nat) (pn:List c5) (s:DS) (j:Nat) (s':DS) (o:Oper) (v:Value) (H1:AH):Prop where
 op:os[j]? = some o
 zj:s.done.testBit j=false
 below:∀ i,(cl.getD j 0).testBit i=true->s.done.testBit i=true
 QM:bP o=false->tp P rec os s.a (s.m.dy (cl.getD j 0) pn) o=.ok (v,H1)
 flo:bP o=true->∃ p,gh pn j=some p/\v=p.val/\fP P s.a o.op p.id=.ok p.row
 put:s.a.put o.dst v=.ok s'.a
 done:s'.done=s.done ||| 2 ^ j
 aM:(kQ P o=true/\s'.m=s.m/\s'.ed=s.ed/\s'.bL=s.bL/\(bP o=true\/eJ P o.op=true\/(fC o.op=true/\dw P rec os pn s.a o v (cl.getD j 0) s.ed=true))) \/
  (kQ P o=false/\s'.m=⟨H1,s.m.gx ||| cl.getD j 0⟩/\s'.ed=(j,s.m) :: s.ed/\s'.bL=s'.done/\(∀ i,(s.done ^^^ s.bL).testBit i=true->(cl.getD j 0).testBit i=true\/(iI pn).testBit i=true) /\
   (∀ c0 l,s.ed=c0 :: l->(cl.getD j 0).testBit c0.1=true))
def dP (d:Nat):List c5->List c5->Prop
 | [],[]=>True
 | p :: l,q :: m=>(p.op=q.op/\p.id=q.id/\p.val=q.val/\(d.testBit p.op=true->p.row=q.row))/\dP d l m
 | _,_=>False
theorem dP.refl (d:Nat):∀ ps,dP d ps ps
 | []=>trivial
 | p :: l=>⟨⟨rfl,rfl,rfl,λ _=>rfl⟩,dP.refl d l⟩
theorem dP.Pa {d d':Nat} (h:∀ i,d'.testBit i=true->d.testBit i=true):∀ {ps pn:List c5},dP d ps pn->dP d' ps pn
 | [],[],_=>trivial
 | p :: l,q :: m,⟨⟨a,b,c,e⟩,hr⟩=>⟨⟨a,b,c,λ hd=>e (h _ hd)⟩,hr.Pa h⟩
theorem dP.dy {d c aa:Nat} (h:∀ i,c.testBit i=true->d.testBit i=true):∀ {ps pn:List c5} {M:AH},dP d ps pn->cy.dy c aa ps M=cy.dy c aa pn M
 | [],[],M,_=>rfl
 | p :: l,q :: m,M,⟨⟨a,b,_,e⟩,hr⟩=>by
  have e1:(if c.testBit p.op && !aa.testBit p.op then M.set p.id (.row p.row) else M)=(if c.testBit q.op && !aa.testBit q.op then M.set q.id (.row q.row) else M):=by
   rw[<- a,<- b];split
   ·rename_i hc;simp only[Bool.and_eq_true] at hc;rw[e (h _ hc.1)]
   ·rfl
  simp only[cy.dy,e1];exact dP.dy h hr
theorem dP.Pb {d c:Nat} (h:∀ i,c.testBit i=true->d.testBit i=true) {ps pn:List c5} {m:PM} (ha:dP d ps pn):m.dy c ps=m.dy c pn:=dP.dy h ha
theorem dP.TM {d:Nat} : ∀ {ps pn:List c5},dP d ps pn->iI ps=iI pn:=by
 have go:∀ (ps pn:List c5) (m:Nat),dP d ps pn->ps.foldl (λ m p=>m ||| 2 ^ p.op) m=pn.foldl (λ m p=>m ||| 2 ^ p.op) m:=by
  intro ps
  induction ps with
  | nil=>intro pn m h; cases pn with
   | nil=>rfl
   | cons q l=>exact h.elim
  | cons p l ih=>intro pn m h; cases pn with
   | nil=>exact h.elim
   | cons q l2=>
    simp only[List.foldl_cons,h.1.1];exact ih l2 _ h.2
 intro ps pn h;exact go _ _ 0 h
theorem dP.K9 {d j:Nat} : ∀ {ps pn:List c5} {p:c5},dP d ps pn->gh ps j=some p->∃ q,gh pn j=some q/\p.id=q.id/\p.val=q.val/\(d.testBit j=true->p.row=q.row)
 | [],[],p,_,h=>by simp[gh] at h
 | x :: l,y :: m,p,⟨⟨a,b,c,e⟩,hr⟩,h=>by
  unfold gh at h ⊢;rw[List.find?_cons] at h ⊢;rw[<- a];cases Y:(x.op == j) with
  | true=>
   rw[Y] at h;cases h;simp only[beq_iff_eq] at Y;exact⟨y,rfl,b,c,λ hd=>e (by rw[Y]; exact hd)⟩
  | false=>
   rw[Y] at h;exact dP.K9 hr h
theorem dP.LA {d d' j:Nat} {r:Row} (X:d.testBit j=false) (h:∀ i,d.testBit i=true->d'.testBit i=true):∀ {ps pn:List c5},dP d' (jm j r ps) pn->dP d ps pn
 | [],[],_=>trivial
 | [],q :: m,hh=>hh.elim
 | p :: l,[],hh=>hh.elim
 | p :: l,q :: m,hh=>by
  unfold jm at hh;cases hb:(p.op == j) with
  | true=>
   rw[hb] at hh;obtain⟨⟨a,b,c,e⟩,hr⟩:=hh;simp only[beq_iff_eq] at hb;exact⟨⟨a,b,c,λ hd=>by rw[hb,X] at hd; cases hd⟩,dP.LA X h hr⟩
  | false=>
   rw[hb] at hh;obtain⟨⟨a,b,c,e⟩,hr⟩:=hh;exact⟨⟨a,b,c,λ hd=>e (h _ hd)⟩,dP.LA X h hr⟩
theorem zO {j:Nat} {r:Row} : ∀ {ps:List c5} {p:c5},gh ps j=some p->gh (jm j r ps) j=some ⟨p.op,p.id,p.val,r⟩
 | [],p,h=>by simp[gh] at h
 | x :: l,p,h=>by
  unfold gh at h;rw[List.find?_cons] at h;unfold jm gh;cases Y:(x.op == j) with
  | true=>rw[Y] at h; cases h; simp only[List.find?_cons,Y]
  | false=>rw[Y] at h; simp only[List.find?_cons,Y]; exact zO h
theorem dP.dw {rec:eL} {os:List Oper} {a:az} {o:Oper} {v:Value} {d c:Nat} {ps pn:List c5} (h:∀ i,c.testBit i=true->d.testBit i=true) (ha:dP d ps pn):∀ (l:List (Nat×PM)),cy.dw P rec os ps a o v c l=cy.dw P rec os pn a o v c l
 | []=>rfl
 | (j,m) :: l=>by
  simp only[cy.dw,dP.Pb h ha (m:=m),dP.dw h ha l]
theorem yy {d i j:Nat} (h:d.testBit i=true):(d ||| 2 ^ j).testBit i=true:=by rw[Nat.testBit_or,h]; rfl
theorem xE {rec:eL} {os:List Oper} {cl:List Nat} {pn:List c5} {s s':DS} {j:Nat} (h:eY P rec os cl s j=.ok s') (uM:dP s'.done s'.ps pn):dP s.done s.ps pn:=by
 unfold eY at h;split at h
 ·cases h
 ·rename_i o ho;split at h
  ·cases h
  rename_i hf;have DG:s.done.testBit j=false:=by simpa using hf
  split at h
  ·cases h
  split at h
  ·rename_i q mH hq;obtain⟨r,B,D⟩:=bE h;obtain⟨a1,V,h4⟩:=bE D;cases h4;exact uM.LA DG (λ i N=>yy N)
  ·cases h
  ·obtain⟨⟨v,H1⟩,B,D⟩:=bE h;obtain⟨a1,V,h4⟩:=bE D;split at h4
   ·cases h4; exact uM.Pa (λ i N=>yy N)
   ·split at h4
    ·split at h4
     ·cases h4; exact uM.Pa (λ i N=>yy N)
     ·cases h4
    ·split at h4
     ·cases h4
     ·repeat' split at h4
      all_goals first | (cases h4; done) | (cases h4; exact uM.Pa (λ i N=>yy N))
theorem Ni {rec:eL} {os:List Oper} {cl:List Nat} {pn:List c5} {s s':DS} {j:Nat} (h:eY P rec os cl s j=.ok s') (uM:dP s'.done s'.ps pn):∃ o v H1,sV P rec os cl pn s j s' o v H1:=by
 have ha:=xE h uM;unfold eY at h;split at h
 ·cases h
 ·rename_i o ho;split at h
  ·cases h
  rename_i hf;split at h
  ·cases h
  rename_i hb;have ry:=Ac.1 (by simpa using hb:c8 (cl.getD j 0) s.done=true);have DG:s.done.testBit j=false:=by simpa using hf
  split at h
  ·rename_i q mH hq;obtain⟨r,hr,D⟩:=bE h;obtain⟨a1,V,h4⟩:=bE D;cases h4;obtain⟨q2,e1,e2,e3,e4⟩:=uM.K9 (zO (r:=r) hq);simp only at e2 e3 e4;have e5:=e4 (by rw[Nat.testBit_or,Nat.testBit_two_pow_self,Bool.or_true]);exact⟨o,q.val,s.m.H,ho,DG,ry,(λ h=>by rw[mH] at h; cases h),λ _=>⟨q2,e1,e3,by rw[<- e2,<- e5]; exact hr⟩,V,rfl,.inl ⟨by simp[kQ,mH],rfl,rfl,rfl,.inl mH⟩⟩
  ·cases h
  rename_i mH;obtain⟨⟨v,H1⟩,B,D⟩:=bE h;clear h;obtain⟨a1,V,h4⟩:=bE D;clear D;rw[ha.Pb ry] at B;have hd:bP o=false->tp P rec os s.a (s.m.dy (cl.getD j 0) pn) o=.ok (v,H1):=λ _=>B;have hq:bP o=true->∃ p,gh pn j=some p/\v=p.val/\fP P s.a o.op p.id=.ok p.row:=λ h=>by rw[mH] at h; cases h
  split at h4
  ·rename_i U;cases h4;exact⟨o,v,H1,ho,DG,ry,hd,hq,V,rfl,.inl ⟨by simp[kQ,U],rfl,rfl,rfl,.inr (.inl U)⟩⟩
  ·rename_i YE;split at h4
   ·rename_i hr;split at h4
    ·rename_i hs;cases h4;rw[ha.dw ry] at hs;exact⟨o,v,H1,ho,DG,ry,hd,hq,V,rfl,.inl ⟨by simp[kQ,hr],rfl,rfl,rfl,.inr (.inr ⟨hr,hs⟩)⟩⟩
    ·cases h4
   ·rename_i Bn;split at h4
    ·cases h4
    rename_i Y;rw[ha.TM] at Y;have Hp:∀ i,(s.done ^^^ s.bL).testBit i=true->(cl.getD j 0).testBit i=true\/(iI pn).testBit i=true:=λ i N=>by
     have:=Ac.1 (by simpa using Y:c8 (s.done ^^^ s.bL) (cl.getD j 0 ||| iI pn)=true) i N;rw[Nat.testBit_or,Bool.or_eq_true] at this;exact this
    rcases hs:s.ed with _ | ⟨⟨c0,m0⟩,l0⟩
    ·rw[hs] at h4;simp only[Bool.not_true,Bool.false_eq_true,if_false] at h4;cases h4;exact⟨o,v,H1,ho,DG,ry,hd,hq,V,rfl,.inr ⟨by simp[kQ,YE,Bn,mH],rfl,by rw[hs],rfl,Hp,λ c0 l e=>by rw[hs] at e; cases e⟩⟩
    ·rw[hs] at h4;by_cases hc:(cl.getD j 0).testBit c0=true
     ·simp only[hc,Bool.not_true,Bool.false_eq_true,if_false] at h4;cases h4;exact⟨o,v,H1,ho,DG,ry,hd,hq,V,rfl,.inr ⟨by simp[kQ,YE,Bn,mH],rfl,by rw[hs],rfl,Hp,λ c1 l e=>by rw[hs] at e; cases e; exact hc⟩⟩
     ·simp only[hc,Bool.not_false,if_true] at h4;cases h4
structure qH (P:Program) (rec:eL) (os:List Oper) (pn:List c5) (a:az) (H:AH) (L:List Nat) (S:Nat->DS):Prop where
 start:∃ QN,S 0 = { done:=0,bL:=0,ed:=[],a:=a,m:=⟨H,0⟩,ps:=QN }
 step:∀ (p j:Nat),L[p]? = some j->∃ o v H1,sV P rec os (ix os) pn (S p) j (S (p+1)) o v H1
 Eo:wN os
 tmps:∀ (j i:Nat) (o w:Oper) (t:Nat),os[j]? = some o->os[i]? = some w->w.dst=some t->i=j\/(o.dst≠some t/\(t ∉ Bv os o\/((ix os).getD j 0).testBit i=true\/((ix os).getD i 0).testBit j=true))
 all:(S L.length).done=2 ^ os.length - 1
section run
variable {rec:eL} {os:List Oper} {pn:List c5} {a:az} {H:AH} {L:List Nat} {S:Nat->DS}
theorem qH.lt (_:qH P rec os pn a H L S) {p j:Nat} (h:L[p]? = some j):p < L.length:=by
 rcases Nat.lt_or_ge p L.length with h' | h'
 ·exact h'
 ·rw[List.getElem?_eq_none h'] at h; cases h
theorem qH.pc (R:qH P rec os pn a H L S):∀ (p:Nat),p<=L.length->∀ i,(S p).done.testBit i=true↔∃ q,q < p/\L[q]? = some i
 | 0,_,i=>by
  obtain⟨QN,fW⟩:=R.start;rw[fW];simp
 | p+1,U,i=>by
  have X:L[p]? = some L[p]:=List.getElem?_eq_getElem (by omega);obtain⟨o,v,H1,F⟩:=R.step p _ X;rw[F.done,Nat.testBit_or,Bool.or_eq_true,R.pc p (by omega),Nat.testBit_two_pow,decide_eq_true_eq];constructor
  ·rintro(⟨q,B,D⟩ | h)
   ·exact⟨q,by omega,D⟩
   ·exact⟨p,by omega,by rw[X,h]⟩
  ·rintro⟨q,B,D⟩;by_cases e:q=p
   ·subst e; rw[X] at D; cases D; exact .inr rfl
   ·exact .inl ⟨q,by omega,D⟩
theorem qH.zw (R:qH P rec os pn a H L S) {p q i:Nat} (U:L[p]? = some i) (hq:L[q]? = some i):p=q:=by
 have key:∀ p q,p < q->L[p]? = some i->L[q]? = some i->False:=λ p q cG U hq=>by
  obtain⟨o,v,H1,F⟩:=R.step q i hq;have:=(R.pc q (by have:=R.lt hq; omega) i).2 ⟨p,cG,U⟩;rw[F.zj] at this;cases this
 rcases Nat.lt_trichotomy p q with h | h | h
 ·exact(key p q h U hq).elim
 ·exact h
 ·exact(key q p h hq U).elim
theorem qH.nP (R:qH P rec os pn a H L S) {i:Nat} (N:i < os.length):∃ p:Nat,L[p]? = some i:=by
 have B:(S L.length).done.testBit i=true:=by
  rw[R.all,Nat.testBit_two_pow_sub_one];simpa using N
 obtain⟨q,_,hq⟩:=(R.pc L.length (Nat.le_refl _) i).1 B;exact⟨q,hq⟩
theorem qH.Pc (R:qH P rec os pn a H L S):∀ (p:Nat),p<=L.length->(S p).a.n=a.n/\(S p).a.bn=a.bn
 | 0,_=>by obtain⟨QN,fW⟩:=R.start; rw[fW]; exact⟨rfl,rfl⟩
 | p+1,U=>by
  have X:L[p]? = some L[p]:=List.getElem?_eq_getElem (by omega);obtain⟨o,v,H1,F⟩:=R.step p _ X;obtain⟨e1,e2⟩:=Rf F.put;obtain⟨e3,e4⟩:=R.Pc p (by omega);exact⟨e1.trans e3,e2.trans e4⟩
theorem Ia {a a':az} {d:Option Tmp} {v:Value} (h:a.put d v=.ok a') (t:Nat):a'.tm.get t=if d=some t then some v else a.tm.get t:=by
 rw[az.zu] at h;cases d with
 | none=>cases h; simp
 | some d=>
  simp only at h;split at h
  ·rename_i hd;cases h;rw[show(T.put AH.top a.tm d v).get t=if t=d then some v else a.tm.get t from T.jB 48 _ _ _ _ (by have B:d < a.n:=hd.1; have D:a.n < 281474976710655:=hd.2; show d+1 < 2 ^ 48; rw[show(2:Nat) ^ 48=281474976710656 from rfl]; exact Nat.lt_of_le_of_lt B (Nat.lt_trans D (by decide)))];by_cases e:t=d
   ·subst e; simp
   ·rw[if_neg e,if_neg (by intro h; cases h; exact e rfl)]
  ·cases h
def tx (P:Program) (rec:eL) (os:List Oper) (pn:List c5) (S:Nat->DS) (p j:Nat):Value:=
 match os[j]? with
 | some o=>if bP o then(match gh pn j with
  | some q=>q.val
  | none=>undef) else(match tp P rec os (S p).a ((S p).m.dy ((ix os).getD j 0) pn) o with
  | .ok (v,_)=>v
  | .error _=>undef)
 | none=>undef
theorem sV.val {s':DS} {p j:Nat} {o:Oper} {v:Value} {H1:AH} (F:sV P rec os (ix os) pn (S p) j s' o v H1):tx P rec os pn S p j=v:=by
 unfold tx;rw[F.op];simp only;cases hf:bP o with
 | true=>
  obtain⟨q,B,D,_⟩:=F.flo hf;simp only[if_true,B,D]
 | false=>simp only[Bool.false_eq_true,if_false,F.QM hf]
theorem qH.CY (R:qH P rec os pn a H L S):∀ (p:Nat),p<=L.length->∀ (q j:Nat) (o:Oper) (t:Nat),q < p->L[q]? = some j->os[j]? = some o->o.dst=some t->(S p).a.tm.get t=some (tx P rec os pn S q j)
 | 0,_,q,j,o,t,hq,_,_,_=>by omega
 | p+1,U,q,j,o,t,hq,B,D,V=>by
  have X:L[p]? = some L[p]:=List.getElem?_eq_getElem (by omega);obtain⟨o',v,H1,F⟩:=R.step p _ X;rw[Ia F.put];by_cases e:q=p
  ·subst e;rw[X] at B; cases B;have:o'=o:=by have:=F.op; rw[D] at this; cases this; rfl
   subst this;rw[if_pos V,F.val]
  ·have ee:o'.dst≠some t:=λ hd=>by
    rcases R.tmps _ _ o' o t F.op D V with h | ⟨h,_⟩
    ·rw[h] at B;exact e (R.zw B X)
    ·exact h hd
   rw[if_neg ee];exact R.CY p (by omega) q j o t (by omega) B D V
theorem qH.yz (R:qH P rec os pn a H L S):∀ (p:Nat),p<=L.length->∀ (t:Nat),(∀ (q j:Nat) (o:Oper),q < p->L[q]? = some j->os[j]? = some o->o.dst≠some t)->(S p).a.tm.get t=a.tm.get t
 | 0,_,t,_=>by obtain⟨QN,fW⟩:=R.start; rw[fW]
 | p+1,U,t,h=>by
  have X:L[p]? = some L[p]:=List.getElem?_eq_getElem (by omega);obtain⟨o',v,H1,F⟩:=R.step p _ X;rw[Ia F.put,if_neg (h p _ o' (by omega) X F.op)];exact R.yz p (by omega) t (λ q j o hq=>h q j o (by omega))
def kR (L:List Nat) (S:Nat->DS) (k:Nat):PM:=
 match (S L.length).ed.reverse[k]? with
 | some x=>x.2
 | none=>(S L.length).m
theorem qH.suffix (R:qH P rec os pn a H L S):∀ (d p:Nat),p+d=L.length->∃ pre:List (Nat×PM),(S L.length).ed=pre++(S p).ed/\(pre=[]->(S L.length).m=(S p).m)/\(∀ La x,pre=La++[x]->x.2=(S p).m)
 | 0,p,h=>by
  have:p=L.length:=by omega
  subst this;exact⟨[],by simp,λ _=>rfl,λ La x e=>by simp at e⟩
 | d+1,p,h=>by
  have X:L[p]? = some L[p]:=List.getElem?_eq_getElem (by omega);obtain⟨o,v,H1,F⟩:=R.step p _ X;obtain⟨pre,e1,e2,e3⟩:=R.suffix d (p+1) (by omega);rcases F.aM with⟨_,k1,k2,_⟩ | ⟨_,k1,k2,_⟩
  ·exact⟨pre,by rw[e1,k2],λ h=>by rw[e2 h,k1],λ La x h=>by rw[e3 La x h,k1]⟩
  ·refine⟨pre++[(L[p],(S p).m)],by rw[e1,k2]; simp,λ h=>by simp at h,λ La x h=>?_⟩;have:=List.append_inj_right' h rfl;simp at this;rw[<- this]
theorem qH.lj (R:qH P rec os pn a H L S) {p:Nat} (U:p<=L.length):kR L S (S p).ed.length=(S p).m:=by
 obtain⟨pre,e1,e2,e3⟩:=R.suffix (L.length - p) p (by omega);unfold kR;rw[e1,List.reverse_append,List.getElem?_append_right (by simp)];simp only[List.length_reverse,Nat.sub_self];cases W6:pre.reverse with
 | nil=>
  have:pre=[]:=by simpa using W6
  simp[e2 this]
 | cons x l=>
  have:pre=l.reverse++[x]:=by
   have:=congrArg List.reverse W6;simpa using this
  simp[e3 _ x this]
theorem qH.JT (R:qH P rec os pn a H L S) {p:Nat} (U:p<=L.length) {m:Nat} (hm:m < (S p).ed.length):∃ x,(S p).ed[(S p).ed.length - 1 - m]? = some x/\kR L S m=x.2:=by
 obtain⟨pre,e1,_⟩:=R.suffix (L.length - p) p (by omega);have cG:(S p).ed.length - 1 - m < (S p).ed.length:=by omega
 refine⟨(S p).ed[(S p).ed.length - 1 - m],List.getElem?_eq_getElem cG,?_⟩;unfold kR;rw[e1,List.reverse_append,List.getElem?_append_left (by simpa using hm),List.getElem?_reverse hm,List.getElem?_eq_getElem cG]
theorem qH.sW (R:qH P rec os pn a H L S):∀ (p:Nat),p<=L.length->∀ (m:Nat) (x:Nat×PM),(S p).ed[m]? = some x->∃ q o,q < p/\L[q]? = some x.1/\os[x.1]? = some o/\kQ P o=false/\(S q).ed.length=(S p).ed.length - 1 - m
 | 0,_,m,x,h=>by obtain⟨QN,fW⟩:=R.start; rw[fW] at h; simp at h
 | p+1,U,m,x,h=>by
  have X:L[p]? = some L[p]:=List.getElem?_eq_getElem (by omega);obtain⟨o,v,H1,F⟩:=R.step p _ X;rcases F.aM with⟨_,_,k2,_⟩ | ⟨k0,_,k2,_⟩
  ·rw[k2] at h ⊢;obtain⟨q,o',B,D,V,h4,h5⟩:=R.sW p (by omega) m x h;exact⟨q,o',by omega,D,V,h4,h5⟩
  ·rw[k2] at h ⊢;cases m with
   | zero=>
    simp at h;subst h;exact⟨p,o,by omega,X,F.op,k0,by simp⟩
   | succ m=>
    simp only[List.getElem?_cons_succ] at h;obtain⟨q,o',B,D,V,h4,h5⟩:=R.sW p (by omega) m x h;refine⟨q,o',by omega,D,V,h4,?_⟩;simp only[List.length_cons];omega
theorem qH.mono (R:qH P rec os pn a H L S):∀ (d p:Nat),p+d<=L.length->(S p).ed.length<=(S (p+d)).ed.length
 | 0,p,_=>Nat.le_refl _
 | d+1,p,h=>by
  have X:L[p+d]? = some L[p+d]:=List.getElem?_eq_getElem (by omega);obtain⟨o,v,H1,F⟩:=R.step (p+d) _ X;have:=R.mono d p (by omega);rw[show p+(d+1)=p+d+1 by omega];rcases F.aM with⟨_,_,k2,_⟩ | ⟨_,_,k2,_⟩
  ·rw[k2]; exact this
  ·rw[k2]; simp only[List.length_cons]; omega
theorem qH.Ae (R:qH P rec os pn a H L S):∀ (d p:Nat),p+d=L.length->(S p).ed.length < (S L.length).ed.length ->
  ∃ q j o,p<=q/\L[q]? = some j/\os[j]? = some o/\kQ P o=false/\(S q).ed.length=(S p).ed.length/\(S q).bL=(S p).bL
 | 0,p,h,cG=>by
  have:p=L.length:=by omega
  subst this;omega
 | d+1,p,h,cG=>by
  have X:L[p]? = some L[p]:=List.getElem?_eq_getElem (by omega);obtain⟨o,v,H1,F⟩:=R.step p _ X;rcases F.aM with⟨_,_,k2,k3,_⟩ | ⟨k0,_⟩
  ·obtain⟨q,j,o',B,D,V,h4,h5,h6⟩:=R.Ae d (p+1) (by omega) (by rw[k2]; exact cG);exact⟨q,j,o',by omega,D,V,h4,by rw[h5,k2],by rw[h6,k3]⟩
  ·exact⟨p,_,o,Nat.le_refl _,X,F.op,k0,rfl,rfl⟩
theorem qH.BG (R:qH P rec os pn a H L S):∀ (p:Nat),p<=L.length->∀ i,(S p).bL.testBit i=true->(S p).done.testBit i=true
 | 0,_,i,h=>by obtain⟨QN,fW⟩:=R.start; rw[fW] at h; simp at h
 | p+1,U,i,h=>by
  have X:L[p]? = some L[p]:=List.getElem?_eq_getElem (by omega);obtain⟨o,v,H1,F⟩:=R.step p _ X;rcases F.aM with⟨_,_,_,k3,_⟩ | ⟨_,_,_,k3,_⟩
  ·rw[k3] at h;rw[F.done,Nat.testBit_or,R.BG p (by omega) i h];rfl
  ·rw[k3] at h; exact h
end run
end
end Go.cy
namespace Go.cy
noncomputable section
variable {P:Program}
structure iD (P:Program) (os:List Oper) (lo n:Nat) (ps:List c5):Prop where
 mem:∀ p∈ps,lo<=p.id/\p.id < n/\∃ o,os[p.op]? = some o/\bP o=true/\p.val=o7 o.op p.id
 le:lo<=n
 LB:True
 FP:ps.Pairwise (λ p q=>p.op < q.op/\p.id < q.id)
theorem uu:∀ (os:List Oper) (i next:Nat) (ps:List c5) (n:Nat),iT os i next=(ps,n) ->
  (∀ p∈ps,i<=p.op/\next<=p.id/\p.id < n/\∃ o,os[p.op - i]? = some o/\bP o=true/\p.val=o7 o.op p.id)/\next<=n/\True/\ps.Pairwise (λ p q=>p.op < q.op/\p.id < q.id)
 | [],i,next,ps,n,h=>by
  simp only[iT] at h;cases h;exact⟨by simp,Nat.le_refl _,trivial,List.Pairwise.nil⟩
 | o :: os,i,next,ps,n,h=>by
  simp only[iT] at h;split at h
  ·rename_i mH;cases h;obtain⟨r1,r2,r3,r4⟩:=uu os (i+1) (next+1) _ _ rfl;refine⟨λ p U=>?_,by omega,trivial,List.Pairwise.cons (λ q hq=>?_) r4⟩
   ·rcases List.mem_cons.1 U with rfl | U
    ·exact⟨Nat.le_refl _,Nat.le_refl _,by show next < _; omega,o,by simp,mH,rfl⟩
    ·obtain⟨a1,Z,a3,o',b1,b2,b3⟩:=r1 p U;exact⟨by omega,by omega,a3,o',by rw[show p.op - i=(p.op - (i+1))+1 by omega,List.getElem?_cons_succ]; exact b1,b2,b3⟩
   ·obtain⟨a1,Z,_⟩:=r1 q hq;exact⟨by show i < q.op; omega,by show next < q.id; omega⟩
  ·obtain⟨r1,r2,r3,r4⟩:=uu os (i+1) next ps n h
   refine⟨λ p U=>?_,r2,r3,r4⟩;obtain⟨a1,Z,a3,o',b1,b2,b3⟩:=r1 p U;exact⟨by omega,Z,a3,o',by rw[show p.op - i=(p.op - (i+1))+1 by omega,List.getElem?_cons_succ]; exact b1,b2,b3⟩
theorem iD.of {os:List Oper} {lo n:Nat} {ps:List c5} (h:iT os 0 lo=(ps,n)):iD P os lo n ps:=by
 obtain⟨r1,r2,r3,r4⟩:=uu os 0 lo ps n h;exact⟨λ p U=>let ⟨_,a,b,c⟩:=r1 p U; ⟨a,b,by simpa using c⟩,r2,r3,r4⟩
theorem dP.mem {d:Nat} : ∀ {ps pn:List c5},dP d ps pn->∀ q∈pn,∃ p∈ps,p.op=q.op/\p.id=q.id/\p.val=q.val
 | [],[],_,q,hq=>by cases hq
 | x :: l,y :: m,⟨⟨a,b,c,_⟩,hr⟩,q,hq=>by
  rcases List.mem_cons.1 hq with rfl | hq
  ·exact⟨x,by simp,a,b,c⟩
  ·obtain⟨p,U,h⟩:=hr.mem q hq; exact⟨p,by simp[U],h⟩
theorem dP.FP {d:Nat} : ∀ {ps pn:List c5},dP d ps pn->ps.Pairwise (λ p q=>p.op < q.op/\p.id < q.id)->pn.Pairwise (λ p q=>p.op < q.op/\p.id < q.id)
 | [],[],_,_=>List.Pairwise.nil
 | x :: l,y :: m,⟨⟨a,b,c,_⟩,hr⟩,h=>by
  obtain⟨B,D⟩:=List.pairwise_cons.1 h;refine List.Pairwise.cons (λ q hq=>?_) (hr.FP D);obtain⟨p,U,k1,k2,_⟩:=hr.mem q hq;rw[<- a,<- b,<- k1,<- k2];exact B p U
theorem iD.Rh {os:List Oper} {lo n d:Nat} {ps pn:List c5} (h:iD P os lo n ps) (ha:dP d ps pn):iD P os lo n pn:=
 ⟨λ q hq=>by
  obtain⟨p,U,k1,k2,k3⟩:=ha.mem q hq;rw[<- k1,<- k2,<- k3];exact h.mem p U,h.le,trivial,ha.FP h.FP⟩
section
variable {os:List Oper} {lo n:Nat} {ps:List c5}
theorem iD.float (h:iD P os lo n ps) {p:c5} (U:p∈ps):∃ o,os[p.op]? = some o/\bP o=true:=by
 obtain⟨_,_,o,B,D,_⟩:=h.mem p U;exact⟨o,B,D⟩
theorem zx:∀ {ps:List c5},ps.Pairwise (λ p q=>p.op < q.op/\p.id < q.id)->∀ p∈ps,∀ q∈ps,p.op=q.op\/p.id=q.id->p=q
 | [],_,p,U,_,_,_=>by cases U
 | x :: l,h,p,U,q,hq,e=>by
  obtain⟨B,D⟩:=List.pairwise_cons.1 h;rcases List.mem_cons.1 U with e1 | lE
  ·rcases List.mem_cons.1 hq with e2 | gT
   ·rw[e1,e2]
   ·have:=B q gT; rw[e1] at e; omega
  ·rcases List.mem_cons.1 hq with e2 | gT
   ·have:=B p lE; rw[e2] at e; omega
   ·exact zx D p lE q gT e
theorem xF:∀ (ps:List c5) (m i:Nat),(ps.foldl (λ m p=>m ||| 2 ^ p.op) m).testBit i=true->m.testBit i=true\/∃ p∈ps,p.op=i
 | [],m,i,h=>.inl h
 | p :: ps,m,i,h=>by
  rw[List.foldl_cons] at h;rcases xF ps _ i h with B | ⟨q,hq,e⟩
  ·rw[Nat.testBit_or,Bool.or_eq_true,Nat.testBit_two_pow,decide_eq_true_eq] at B;rcases B with B | B
   ·exact .inl B
   ·exact .inr ⟨p,by simp,B⟩
  ·exact .inr ⟨q,by simp[hq],e⟩
theorem Dp {i:Nat} (h:(iI ps).testBit i=true):∃ p∈ps,p.op=i:=by
 rcases xF ps 0 i h with h | h
 ·simp at h
 ·exact h
theorem sX {j:Nat} {p:c5} (h:gh ps j=some p):p∈ps/\p.op=j:=by
 unfold gh at h;exact⟨List.mem_of_find?_eq_some h,by simpa using List.find?_some h⟩
theorem lV (c aa:Nat):∀ (ps:List c5) (M:AH),(dy c aa ps M).next=M.next
 | [],M=>rfl
 | p :: ps,M=>by
  rw[dy,lV c aa ps];split <;> rfl
theorem lB {c aa j:Nat} : ∀ (ps:List c5) (M:AH),(∀ p∈ps,p.id<=p.id)->(∀ p∈ps,c.testBit p.op=true->aa.testBit p.op=false->p.id≠j)->(dy c aa ps M).get j=M.get j
 | [],M,_,_=>rfl
 | p :: ps,M,hb,h=>by
  rw[dy,lB ps _ (λ q hq=>hb q (by simp[hq])) (λ q hq=>h q (by simp[hq]))];split
  ·rename_i hc;simp only[Bool.and_eq_true,Bool.not_eq_true'] at hc;rw[AH.bS,if_neg (λ e=>h p (by simp) hc.1 hc.2 e.symm)]
  ·rfl
theorem wz {c aa:Nat} : ∀ (ps:List c5) (M:AH),(∀ p∈ps,p.id<=p.id)->ps.Pairwise (λ p q=>p.op < q.op/\p.id < q.id)->∀ p∈ps,c.testBit p.op=true->aa.testBit p.op=false->(dy c aa ps M).get p.id=some (.row p.row)
 | [],M,_,_,p,U,_,_=>by cases U
 | x :: ps,M,hb,hs,p,U,B,D=>by
  obtain⟨s1,s2⟩:=List.pairwise_cons.1 hs;rw[dy];rcases List.mem_cons.1 U with rfl | U
  ·rw[lB ps _ (λ q hq=>hb q (by simp[hq])) (λ q hq _ _=>by have:=s1 q hq; omega)];rw[if_pos (by simp[B,D]),AH.bS,if_pos rfl]
  ·exact wz ps _ (λ q hq=>hb q (by simp[hq])) s2 p U B D
structure tT (ps:List c5) (W0:World) (ld:Array Bool) (ρ:cx) (W:World) (m:PM):Prop where
 on:∀ p∈ps,ld.getD p.op false=true->∃ pl,ρ p.id=some pl/\W0.heap.size<=pl.cq/\pl.cq < W.heap.size/\pl.base=0/\pl.esz=p.row.esz/\(m.gx.testBit p.op=false->OR ρ W pl (.row p.row)/\¬ Bw ρ m.H pl.cq)
 off:∀ p∈ps,ld.getD p.op false=false->ρ p.id=none
 lt:∀ p∈ps,p.id < m.H.next
 gx:∀ p∈ps,m.gx.testBit p.op=true->ld.getD p.op false=true
 inj:∀ p∈ps,∀ q∈ps,p.id≠q.id->∀ pl yL,ρ p.id=some pl->ρ q.id=some yL->pl.cq≠yL.cq
variable {yN ρ db:cx} {H:AH} {W0 W W':World} {m:PM} {ld:Array Bool}
theorem tT.Me (pi:tT ps W0 ld ρ W m) (G:fV ρ m.H W) {p:c5} (U:p∈ps) (hg:m.gx.testBit p.op=false):m.H.get p.id=none:=by
 cases hc:m.H.get p.id with
 | none=>rfl
 | some o=>
  obtain⟨pl,B,_⟩:=G.nF p.id o hc;cases hl:ld.getD p.op false with
  | false=>rw[pi.off p U hl] at B; cases B
  | true=>
   obtain⟨yL,D,_,_,_,_,V⟩:=pi.on p U hl;rw[B] at D; cases D;exact absurd ⟨p.id,o,pl,hc,B,rfl⟩ (V hg).2
theorem lh (Pd:iD P os lo n ps) (mc:True) {c j:Nat} {o:AO} (h:(m.dy c ps).get j=some o) :
  (∃ p∈ps,p.id=j/\c.testBit p.op=true/\m.gx.testBit p.op=false/\o=.row p.row)\/(m.H.get j=some o/\∀ p∈ps,c.testBit p.op=true->m.gx.testBit p.op=false->p.id≠j):=by
 have hb:∀ p∈ps,p.id<=p.id:=λ p U=>by
  have:=(Pd.mem p U).2.1;have:=Pd.LB;omega
 by_cases hs:∃ p∈ps,c.testBit p.op=true/\m.gx.testBit p.op=false/\p.id=j
 ·obtain⟨p,U,B,D,rfl⟩:=hs;unfold PM.dy at h;rw[wz ps _ hb Pd.FP p U B D] at h;cases h;exact .inl ⟨p,U,rfl,B,D,rfl⟩
 ·have hn:∀ p∈ps,c.testBit p.op=true->m.gx.testBit p.op=false->p.id≠j:=λ p U B D e=>hs ⟨p,U,B,D,e⟩;unfold PM.dy at h;rw[lB ps _ hb hn] at h;exact .inr ⟨h,hn⟩
theorem P9 (Pd:iD P os lo n ps) (mc:True) {c:Nat} {p:c5} (U:p∈ps) (B:c.testBit p.op=true) (D:m.gx.testBit p.op=false):(m.dy c ps).get p.id=some (.row p.row):=
 wz ps _ (λ p U=>by
  have:=(Pd.mem p U).2.1;have:=Pd.LB;omega) Pd.FP p U B D
theorem BH (Pd:iD P os lo n ps) (mc:True) {c:Nat} (pi:tT ps W0 ld ρ W m) (mA:∀ p∈ps,c.testBit p.op=true->ld.getD p.op false=true) (st:St yN H W0 ρ m.H W):St yN H W0 ρ (m.dy c ps) W:=by
 have ea:(m.dy c ps).next=m.H.next:=lV _ _ _ _;have cq:∀ p∈ps,c.testBit p.op=true->m.gx.testBit p.op=false->∀ pl,ρ p.id=some pl->W0.heap.size<=pl.cq/\pl.cq < W.heap.size/\OR ρ W pl (.row p.row)/\¬ Bw ρ m.H pl.cq:=λ p U B D pl kN=>by
  obtain⟨yL,a1,Z,a3,_,_,a4⟩:=pi.on p U (mA p U B);rw[kN] at a1; cases a1;exact⟨Z,a3,(a4 D).1,(a4 D).2⟩
 refine⟨st.le,⟨λ i p N=>by rw[ea]; exact st.fc.B5 i p N,trivial,λ j o X=>?_,λ i j oi oj Vq pj N X rC uL fe fM=>?_⟩,by rw[ea]; exact st.next,st.size,λ b hb ff=>⟨(st.ou b hb ff).1,?_⟩,st.tape,st.os,st.output,st.old,λ b hb ff=>?_⟩
 ·rcases lh Pd mc X with⟨p,U,rfl,B,D,rfl⟩ | ⟨B,_⟩
  ·obtain⟨pl,a1,_,_,_,_,_⟩:=pi.on p U (mA p U B);obtain⟨b1,b2,b3,b4⟩:=cq p U B D pl a1;exact⟨pl,a1,b2,b3⟩
  ·exact st.fc.nF j o B
 ·rcases lh Pd mc N with⟨p,U,rfl,B,D,rfl⟩ | ⟨B,_⟩
  ·rcases lh Pd mc X with⟨q,hq,rfl,k1,k2,rfl⟩ | ⟨k1,_⟩
   ·exact absurd fM (pi.inj p U q hq rC _ _ uL fe)
   ·exact absurd ⟨j,oj,pj,k1,fe,fM.symm⟩ (cq p U B D Vq uL).2.2.2
  ·rcases lh Pd mc X with⟨q,hq,rfl,k1,k2,rfl⟩ | ⟨k1,_⟩
   ·exact absurd ⟨i,oi,Vq,B,uL,fM⟩ (cq q hq k1 k2 pj fe).2.2.2
   ·exact st.fc.jh i j oi oj Vq pj B k1 rC uL fe fM
 ·rintro⟨j,o,pl,X,FL,kN,ry⟩;rcases lh Pd mc X with⟨p,U,rfl,B,D,rfl⟩ | ⟨B,_⟩
  ·have:=(cq p U B D pl kN).1;omega
  ·exact(st.ou b hb ff).2 ⟨j,o,pl,B,FL,kN,ry⟩
 ·rintro⟨j,o,pl,X,kN,ry⟩;rcases lh Pd mc X with⟨p,U,rfl,B,D,rfl⟩ | ⟨B,_⟩
  ·have:=(cq p U B D pl kN).1;omega
  ·exact st.u9 b hb ff ⟨j,o,pl,B,kN,ry⟩
theorem Qa {M M':AH} (st:St yN H W0 ρ M' W) (hn:M.next=M'.next) (hs:∀ j o,M.get j=some o->M'.get j=some o):St yN H W0 ρ M W:=by
 refine⟨st.le,⟨λ i p N=>by rw[hn]; exact st.fc.B5 i p N,trivial,λ j o X=>st.fc.nF j o (hs j o X),λ i j oi oj pi pj N X=>st.fc.jh i j oi oj pi pj (hs _ _ N) (hs _ _ X)⟩,by rw[hn]; exact st.next,st.size,λ b hb ff=>⟨(st.ou b hb ff).1,?_⟩,st.tape,st.os,st.output,st.old,λ b hb ff=>?_⟩
 ·rintro⟨j,o,pl,X,FL,kN,ry⟩;exact(st.ou b hb ff).2 ⟨j,o,pl,hs _ _ X,FL,kN,ry⟩
 ·rintro⟨j,o,pl,X,kN,ry⟩;exact st.u9 b hb ff ⟨j,o,pl,hs _ _ X,kN,ry⟩
theorem Ib (Pd:iD P os lo n ps) (mc:True) {c:Nat} (pi:tT ps W0 ld ρ W m) (G:fV ρ m.H W):∀ j o,m.H.get j=some o->(m.dy c ps).get j=some o:=λ j o X=>by
 unfold PM.dy;rw[lB ps _ (λ p U=>by
  have:=(Pd.mem p U).2.1;have:=Pd.LB;omega) (λ p U _ D e=>by
   rw[<- e,pi.Me G U D] at X;cases X)]
 exact X
theorem uK.XJ {ρ:cx} {H:AH} {b:Nat} (h:uK ρ H b):Bw ρ H b:=by
 obtain⟨i,o,pl,a,_,b,c⟩:=h;exact⟨i,o,pl,a,b,c⟩
theorem tT.step (Pd:iD P os lo n ps) (mc:True) {c:Nat} (pi:tT ps W0 ld ρ W m) (G:fV ρ m.H W) (mA:∀ p∈ps,c.testBit p.op=true->ld.getD p.op false=true)
  {M':AH} {m':PM} (st:St ρ (m.dy c ps) W db M' W') (hm:(m'=m/\M'=m.dy c ps)\/(m'.H=M'/\m'.gx=m.gx ||| c)) {ld':Array Bool} (Ki:∀ p∈ps,ld'.getD p.op false=ld.getD p.op false):tT ps W0 ld' db W' m':=by
 have ea:(m.dy c ps).next=m.H.next:=lV _ _ _ _;have old:∀ p∈ps,db p.id=ρ p.id:=λ p U=>st.old _ (by rw[ea]; exact pi.lt p U);have ab5:∀ j o,m'.H.get j=some o->M'.get j=some o:=λ j o X=>by
  rcases hm with⟨rfl,rfl⟩ | ⟨e,_⟩
  ·exact Ib Pd mc pi G j o X
  ·rw[<- e]; exact X
 refine⟨λ p U hl=>?_,λ p U hl=>?_,λ p U=>?_,λ p U hg=>?_,λ p U q hq ee pl yL B D=>?_⟩
 ·rw[Ki p U] at hl;obtain⟨pl,a1,Z,a3,a4,a5,a6⟩:=pi.on p U hl;refine⟨pl,st.le _ _ a1,Z,Nat.lt_of_lt_of_le a3 st.size,a4,a5,λ hg=>?_⟩;have hg0:m.gx.testBit p.op=false:=by
   rcases hm with⟨rfl,_⟩ | ⟨_,e⟩
   ·exact hg
   ·rw[e,Nat.testBit_or,Bool.or_eq_false_iff] at hg; exact hg.1
  obtain⟨b1,b2⟩:=a6 hg0;cases hc:c.testBit p.op with
  | true=>
   rcases hm with⟨rfl,rfl⟩ | ⟨_,e⟩
   ·have wb:=P9 (m:=m') Pd mc U hc hg0;obtain⟨B7,c1,c2,c3⟩:=st.fc.nF _ _ wb;rw[st.le _ _ a1] at c1; cases c1;refine⟨c3,?_⟩;rintro⟨j,o,RQ,X,fe,hb⟩;obtain⟨ajM,d1,_⟩:=G.nF j o X;have d2:=st.le _ _ d1;rw[fe] at d2; cases d2;exact b2 ⟨j,o,RQ,X,d1,hb⟩
   ·rw[e,Nat.testBit_or,hc,Bool.or_true] at hg;cases hg
  | false=>
   have Vr:¬ Bw ρ (m.dy c ps) pl.cq:=by
    rintro⟨j,o,RQ,X,fe,hb⟩;rcases lh Pd mc X with⟨q,hq,rfl,B,D,rfl⟩ | ⟨B,_⟩
    ·refine pi.inj q hq p U (λ e=>?_) _ _ fe a1 hb;have:=zx Pd.FP q hq p U (.inr e);subst this;rw[hc] at B; cases B
    ·exact b2 ⟨j,o,RQ,B,fe,hb⟩
   have k:=st.ou pl.cq a3 (λ h=>Vr h.XJ);refine⟨b1.congr st.le k.1,?_⟩;rintro⟨j,o,RQ,X,fe,hb⟩;exact st.u9 pl.cq a3 Vr ⟨j,o,RQ,ab5 j o X,fe,hb⟩
 ·rw[Ki p U] at hl;rw[old p U];exact pi.off p U hl
 ·have B:=pi.lt p U;have D:=st.next;rw[ea] at D;rcases hm with⟨rfl,_⟩ | ⟨e,_⟩
  ·exact B
  ·rw[e]; omega
 ·rw[Ki p U];rcases hm with⟨rfl,_⟩ | ⟨_,e⟩
  ·exact pi.gx p U hg
  ·rw[e,Nat.testBit_or,Bool.or_eq_true] at hg;rcases hg with hg | hg
   ·exact pi.gx p U hg
   ·exact mA p U hg
 ·rw[old p U] at B;rw[old q hq] at D;exact pi.inj p U q hq ee _ _ B D
theorem tT.float (Pd:iD P os H.next n ps) (pi:tT ps W0 ld ρ W m) (st:St yN H W0 ρ m.H W) {p:c5} (U:p∈ps) (hl:ld.getD p.op false=false) {t:TypeId} {esz:Nat} {zs:List Value} (hr:p.row=vr t p.id esz zs) {cs:Array Value} (hz:LR ρ zs cs.toList)
  {ld':Array Bool} (Ki:∀ j,ld'.getD j false=true↔(j=p.op\/ld.getD j false=true)) :
  ∃ pl,(ρ.with p.id pl) p.id=some pl/\pl.cq=W.heap.size/\pl.base=0/\pl.esz=esz/\ρ.le (ρ.with p.id pl)/\St yN H W0 (ρ.with p.id pl) m.H { W with heap:=W.heap.push (.cells cs t) }/\tT ps W0 ld' (ρ.with p.id pl) { W with heap:=W.heap.push (.cells cs t) } m:=by
 have kV:=pi.off p U hl;have hg:m.gx.testBit p.op=false:=by
  cases hg:m.gx.testBit p.op with
  | false=>rfl
  | true=>have:=pi.gx p U hg; rw[hl] at this; cases this
 have iC:∀ b,b < W.heap.size->({ W with heap:=W.heap.push (.cells cs t) } : World).heap[b]? = W.heap[b]?:=λ b ry=>by
  show(W.heap.push _)[b]? = _;rw[Array.getElem?_push,if_neg (by omega)]
 have gK:({ W with heap:=W.heap.push (.cells cs t) } : World).heap.size=W.heap.size+1:=by simp
 refine⟨⟨W.heap.size,0,esz,cs.toList.length⟩,by simp[cx.with],rfl,rfl,rfl,?_⟩;have hle:ρ.le (ρ.with p.id ⟨W.heap.size,0,esz,cs.toList.length⟩):=λ i q N=>by
  simp only[cx.with];rw[if_neg (λ e=>by rw[e,kV] at N; cases N)];exact N
 have HJ:m.H.get p.id=none:=pi.Me st.fc U hg;have fO:∀ j,j≠p.id->(ρ.with p.id ⟨W.heap.size,0,esz,cs.toList.length⟩) j=ρ j:=λ j X=>by simp[cx.with,X]
 have Bx:(ρ.with p.id ⟨W.heap.size,0,esz,cs.toList.length⟩) p.id=some ⟨W.heap.size,0,esz,cs.toList.length⟩:=by simp[cx.with]
 have ee:∀ j o,m.H.get j=some o->j≠p.id:=λ j o X e=>by rw[e,HJ] at X; cases X
 have ji:OR (ρ.with p.id ⟨W.heap.size,0,esz,cs.toList.length⟩) { W with heap:=W.heap.push (.cells cs t) } ⟨W.heap.size,0,esz,cs.toList.length⟩ (.row p.row):=by
  rw[hr];have RS:=hz.1;refine um (esz:=esz) (cs:=zs) (cs':=cs.toList) (t:=t) (n1:=p.id) (n2:=0) ⟨(0,0),by simp,λ h=>(h rfl).elim,λ _=>rfl⟩ ?_ (by omega);have:List.take zs.length cs.toList=cs.toList:=List.take_of_length_le (by omega);rw[this];exact hz.mono hle
 have mG:(⟨W.heap.size,0,esz,cs.toList.length⟩:Pl).cq=W.heap.size:=rfl;have Od:(⟨W.heap.size,0,esz,cs.toList.length⟩:Pl).base=0:=rfl;have Ke:(⟨W.heap.size,0,esz,cs.toList.length⟩:Pl).esz=esz:=rfl;generalize (⟨W.heap.size,0,esz,cs.toList.length⟩:Pl)=Z6 at *;have fW:=st.size;have lH:=(Pd.mem p U)
 refine⟨hle,⟨cx.le_trans st.le hle,⟨λ i q N=>?_,st.fc.QC,λ j o X=>?_,λ i j oi oj Vq pj N X rC uL fe fM=>?_⟩,st.next,by rw[gK]; omega,λ b hb ff=>⟨?_,?_⟩,st.tape,st.os,st.output,λ i N=>?_,λ b hb ff=>?_⟩,
  ⟨λ q hq QO=>?_,λ q hq QO=>?_,pi.lt,λ q hq hgq=>(Ki _).2 (.inr (pi.gx q hq hgq)),λ q hq r hr YI pl yL B D=>?_⟩⟩
 ·by_cases e:i=p.id
  ·subst e; exact pi.lt p U
  ·rw[fO i e] at N; exact st.fc.B5 i q N
 ·obtain⟨pl,a1,Z,a3⟩:=st.fc.nF j o X;exact⟨pl,hle _ _ a1,by rw[gK]; omega,a3.congr hle (iC _ Z)⟩
 ·rw[fO i (ee i oi N)] at uL;rw[fO j (ee j oj X)] at fe;exact st.fc.jh i j oi oj Vq pj N X rC uL fe fM
 ·rw[iC b (by omega)]; exact(st.ou b hb ff).1
 ·rintro⟨j,o,pl,X,FL,kN,ry⟩;rw[fO j (ee j o X)] at kN;exact(st.ou b hb ff).2 ⟨j,o,pl,X,FL,kN,ry⟩
 ·rw[fO i (by omega)]; exact st.old i N
 ·rintro⟨j,o,pl,X,kN,ry⟩;rw[fO j (ee j o X)] at kN;exact st.u9 b hb ff ⟨j,o,pl,X,kN,ry⟩
 ·by_cases e:q=p
  ·subst e;refine⟨Z6,Bx,by omega,by rw[gK]; omega,Od,by rw[Ke,hr]; rfl,λ _=>⟨ji,?_⟩⟩;rintro⟨j,o,pl,X,kN,ry⟩;rw[fO j (ee j o X)] at kN;obtain⟨B7,c1,c2,_⟩:=st.fc.nF j o X;rw[kN] at c1; cases c1;omega
  ·have cI:q.id≠p.id:=λ h=>e (zx Pd.FP q hq p U (.inr h));have s9:q.op≠p.op:=λ h=>e (zx Pd.FP q hq p U (.inl h));have ab6:ld.getD q.op false=true:=by
    rcases(Ki q.op).1 QO with h | h
    ·exact absurd h s9
    ·exact h
   obtain⟨pl,a1,Z,a3,a4,a5,a6⟩:=pi.on q hq ab6;refine⟨pl,hle _ _ a1,Z,by rw[gK]; omega,a4,a5,λ Kz=>⟨(a6 Kz).1.congr hle (iC _ a3),?_⟩⟩;rintro⟨j,o,RQ,X,fe,ry⟩;rw[fO j (ee j o X)] at fe;exact(a6 Kz).2 ⟨j,o,RQ,X,fe,ry⟩
 ·have s9:q.op≠p.op:=λ h=>by rw[(Ki q.op).2 (.inl h)] at QO; cases QO
  have cI:q.id≠p.id:=λ h=>s9 (by rw[zx Pd.FP q hq p U (.inr h)]);rw[fO _ cI];refine pi.off q hq ?_;cases h:ld.getD q.op false with
  | false=>rfl
  | true=>rw[(Ki q.op).2 (.inr h)] at QO; cases QO
 ·have old:∀ q∈ps,q.id≠p.id->∀ pl,ρ q.id=some pl->pl.cq < W.heap.size:=λ q hq _ pl h=>by
   cases hl:ld.getD q.op false with
   | false=>rw[pi.off q hq hl] at h; cases h
   | true=>
    obtain⟨yL,a1,_,a3,_⟩:=pi.on q hq hl;rw[h] at a1; cases a1; exact a3
  by_cases e1:q.id=p.id
  ·have e2:r.id≠p.id:=λ h=>YI (e1.trans h.symm);rw[e1,Bx] at B;cases B;rw[fO _ e2] at D;have:=old r hr e2 _ D;omega
  ·rw[fO _ e1] at B;by_cases e2:r.id=p.id
   ·rw[e2,Bx] at D;cases D;have:=old q hq e1 _ B;omega
   ·rw[fO _ e2] at D;exact pi.inj q hq r hr YI _ _ B D
end
end
end Go.cy
namespace Go.cy
noncomputable section
variable {P:Program}
structure vX (P:Program) (rec:eL) (os:List Oper) (pn:List c5) (a:az) (IG:Act) (L:List Nat) (S:Nat->DS) (yN:cx) (H:AH) (W0:World) (ld:Array Bool) (ρ:cx) (ca:Act) (W:World) (k:Nat):Prop where
 size:ld.size=os.length
 down:W5 os (λ i=>ld.getD i false=true)
 ke:∀ (p j:Nat) (o:Oper),L[p]? = some j->os[j]? = some o->kQ P o=false->(ld.getD j false=true↔(S p).ed.length < k)
 YJ:k<=(S L.length).ed.length
 st:St yN H W0 ρ (kR L S k).H W
 Vs:tT pn W0 ld ρ W (kR L S k)
 FQ:ca.tmps.size=a.n
 defers:ca.defers=IG.defers
 LC:∀ (p j:Nat) (o:Oper) (t:Nat),L[p]? = some j->os[j]? = some o->o.dst=some t->ld.getD j false=true->VR ρ (tx P rec os pn S p j) (ca.tmps.getD t undef)
 rest:∀ t:Nat,(∀ (j:Nat) (o:Oper),os[j]? = some o->o.dst=some t->ld.getD j false=false)->VR ρ ((a.tm.get t).getD undef) (ca.tmps.getD t undef)
section
variable {rec:eL} {os:List Oper} {pn:List c5} {a:az} {IG:Act} {L:List Nat} {S:Nat->DS} {yN:cx} {H Hs:AH} {W0:World} {ld:Array Bool} {ρ:cx} {ca:Act} {W:World} {k:Nat} {lo n:Nat}
theorem ax {α:Type} {l:List α} {i:Nat} {x:α} (h:l[i]? = some x):i < l.length:=by
 rcases Nat.lt_or_ge i l.length with h' | h'
 ·exact h'
 ·rw[List.getElem?_eq_none h'] at h; cases h
theorem qH.GD (R:qH P rec os pn a Hs L S) {i j:Nat} {o w:Oper} {t:Nat} (B:os[i]? = some o) (D:o.dst=some t) (V:os[j]? = some w) (h4:w.dst=some t):i=j:=by
 rcases R.tmps i j o w t B V h4 with h | ⟨h,_⟩
 ·exact h.symm
 ·exact absurd D h
theorem vX.ab7 (R:qH P rec os pn a Hs L S) (aj:vX P rec os pn a IG L S yN H W0 ld ρ ca W k) {p i:Nat} {o:Oper} (U:L[p]? = some i) (ho:os[i]? = some o) (hn:ld.getD i false=false)
  (hc:∀ x,((ix os).getD i 0).testBit x=true->ld.getD x false=true) {t:Nat} (ht:t∈Bv os o):VR ρ (((S p).a.tm.get t).getD undef) (ca.tmps.getD t undef):=by
 have kN:=R.lt U;by_cases hw:∃ (j:Nat) (w:Oper),os[j]? = some w/\w.dst=some t
 ·obtain⟨j,w,X,hd⟩:=hw;have BI:(∀ q,q < p->L[q]? = some j->False)->ld.getD j false=false->VR ρ (((S p).a.tm.get t).getD undef) (ca.tmps.getD t undef):=λ B D=>by
   rw[R.yz p (by omega) t (λ q j' o' hq hl mb Hx=>by
    have:=R.GD mb Hx X hd;subst this;exact B q hq hl)]
   refine aj.rest t (λ j' o' mb Hx=>?_);have:=R.GD mb Hx X hd;subst this;exact D
  rcases R.tmps i j o w t ho X hd with h | ⟨_,h | h | h⟩
  ·subst h;exact BI (λ q hq hl=>by have:=R.zw hl U; omega) hn
  ·exact absurd ht h
  ·have hl:=hc j h;obtain⟨o',v,H1,F⟩:=R.step p i U;obtain⟨q,hq,Uq⟩:=(R.pc p (by omega) j).1 (F.below j h);rw[R.CY p (by omega) q j w t hq Uq X hd];exact aj.LC q j w t Uq X hd hl
  ·refine BI (λ q hq hl=>?_) ?_
   ·obtain⟨o',v,H1,F⟩:=R.step q j hl;obtain⟨q',gT,hqi⟩:=(R.pc q (by have:=R.lt hl; omega) i).1 (F.below i h);have:=R.zw hqi U;omega
   ·cases Ki:ld.getD j false with
    | false=>rfl
    | true=>
     have:=zM R.Eo aj.down j w X (λ e he hb=>aj.down j w Ki X e he hb) i h;simp only[hn] at this;cases this
 ·have KF:∀ (j:Nat) (o':Oper),os[j]? = some o'->o'.dst=some t->False:=λ j o' B D=>hw ⟨j,o',B,D⟩;rw[R.yz p (by omega) t (λ q j' o' hq hl mb Hx=>KF j' o' mb Hx)];exact aj.rest t (λ j' o' mb Hx=>(KF j' o' mb Hx).elim)
theorem vX.ab8 (R:qH P rec os pn a Hs L S) (Pd:iD P os lo n pn) (aj:vX P rec os pn a IG L S yN H W0 ld ρ ca W k) {p i:Nat} {o:Oper} (U:L[p]? = some i) (ho:os[i]? = some o) (hn:ld.getD i false=false) (mH:bP o=false)
  (hc:∀ x,((ix os).getD i 0).testBit x=true->ld.getD x false=true) :
  ∃ k' M',tp P rec os (S p).a ((kR L S k).dy ((ix os).getD i 0) pn) o=.ok (tx P rec os pn S p i,M')/\k'<=(S L.length).ed.length /\
   (kQ P o=true->k'=k)/\(kQ P o=false->k'=k+1/\(S p).ed.length=k) /\
   ((kR L S k'=kR L S k/\M'=(kR L S k).dy ((ix os).getD i 0) pn)\/((kR L S k').H=M'/\(kR L S k').gx=(kR L S k).gx ||| (ix os).getD i 0)):=by
 have kN:=R.lt U;obtain⟨o',v,H1,F⟩:=R.step p i U;have Z7:o'=o:=by have:=F.op; rw[ho] at this; cases this; rfl
 subst Z7;rw[F.val];have QM:=F.QM mH;have Mf:∀ (m:Nat) (x:Nat×PM),(S p).ed[m]? = some x->k<=(S p).ed.length - 1 - m->((ix os).getD i 0).testBit x.1=false:=λ m x hm hk=>by
  cases hb:((ix os).getD i 0).testBit x.1 with
  | false=>rfl
  | true=>
   obtain⟨q,o2,_,D,V,h4,h5⟩:=R.sW p (by omega) m x hm;have:=(aj.ke q x.1 o2 D V h4).1 (hc _ hb);omega
 rcases F.aM with⟨k0,k1,k2,k3,k4⟩ | ⟨k0,k1,k2,k3,k4,k5⟩
 ·refine⟨k,_,?_,aj.YJ,(λ _=>rfl),(λ h=>by rw[k0] at h; cases h),.inl ⟨rfl,rfl⟩⟩;rcases k4 with hf | rz | ⟨AE,RT⟩
  ·rw[mH] at hf; cases hf
  ·obtain⟨e,h⟩:=vt rz QM;exact h _
  ·have YK:k<=(S p).ed.length:=by
    rcases Nat.lt_or_ge (S p).ed.length k with cG | Ur
    ·obtain⟨q,j,oj,B,D,V,h4,h5,h6⟩:=R.Ae (L.length - p) p (by omega) (by have:=aj.YJ; omega);have Vt:p < q:=by
      rcases Nat.lt_or_ge p q with h | h
      ·exact h
      ·have:q=p:=by omega
       subst this;rw[U] at D;cases D;rw[ho] at V;cases V;rw[k0] at h4;cases h4
     obtain⟨o2,v2,H2,F2⟩:=R.step q j D;have ft:o2=oj:=by have:=F2.op; rw[V] at this; cases this; rfl
     subst ft;rcases F2.aM with⟨j0,_⟩ | ⟨j0,j1,j2,j3,j4,j5⟩
     ·rw[h4] at j0; cases j0
     ·have d1:(S q).done.testBit i=true:=(R.pc q (by have:=R.lt D; omega) i).2 ⟨p,Vt,U⟩;have d2:(S q).bL.testBit i=false:=by
       rw[h6];cases hb:(S p).bL.testBit i with
       | false=>rfl
       | true=>have:=R.BG p (by omega) i hb; rw[F.zj] at this; cases this
      have Y:((ix os).getD j 0).testBit i=true:=by
       rcases j4 i (by rw[Nat.testBit_xor,d1,d2]; rfl) with h | h
       ·exact h
       ·obtain⟨pe,ZU,e⟩:=Dp h;obtain⟨oe,Vu,NU⟩:=Pd.float ZU;rw[e,ho] at Vu;cases Vu;rw[mH] at NU; cases NU
      have Ki:ld.getD j false=true:=(aj.ke q j o2 D V h4).2 (by omega);have:=zM R.Eo aj.down j o2 V (λ e he hb=>aj.down j o2 Ki V e he hb) i Y;simp only[hn] at this;cases this
    ·exact Ur
   have Z8:=zN AE QM;rcases Nat.lt_or_ge k (S p).ed.length with cG | Ur
   ·obtain⟨x,B,D⟩:=R.JT (p:=p) (by omega) cG;rw[D];exact tH AE _ RT ((S p).ed.length - 1 - k) x B (λ m' y hm hy=>Mf m' y hy (by omega))
   ·have:k=(S p).ed.length:=by omega
    rw[this,R.lj (by omega)];rw[Z8] at QM;exact QM
 ·have YK:(S p).ed.length=k:=by
   have B:¬ (S p).ed.length < k:=λ h=>by
    have:=(aj.ke p i o' U ho k0).2 h;rw[hn] at this;cases this
   rcases Nat.lt_or_ge k (S p).ed.length with cG | Ur
   ·cases Dt:(S p).ed with
    | nil=>rw[Dt] at cG; simp at cG
    | cons c0 l=>
     have hb:=k5 c0 l Dt;have:=Mf 0 c0 (by rw[Dt]; rfl) (by omega);rw[hb] at this;cases this
   ·omega
  have ea:(S (p+1)).ed.length=k+1:=by rw[k2,List.length_cons,YK]
  have e1:=R.lj (p:=p) (by omega);have e2:=R.lj (p:=p+1) (by omega);rw[YK] at e1;rw[ea] at e2;refine⟨k+1,H1,?_,?_,(λ h=>by rw[k0] at h; cases h),(λ _=>⟨rfl,YK⟩),.inr ?_⟩
  ·rw[e1];exact QM
  ·have:=R.mono (L.length - (p+1)) (p+1) (by omega);rw[show p+1+(L.length - (p+1))=L.length by omega] at this;omega
  ·rw[e1,e2,k1];exact⟨rfl,rfl⟩
theorem qH.nJ (R:qH P rec os pn a Hs L S) {p i:Nat} {o:Oper} (U:L[p]? = some i) (ho:os[i]? = some o):∃ a',(S p).a.put o.dst (tx P rec os pn S p i)=.ok a':=by
 obtain⟨o',v,H1,F⟩:=R.step p i U;have Z7:o'=o:=by have:=F.op; rw[ho] at this; cases this; rfl
 subst Z7;rw[F.val];exact⟨_,F.put⟩
theorem vX.Pe (R:qH P rec os pn a Hs L S) (aj:vX P rec os pn a IG L S yN H W0 ld ρ ca W k) {p i:Nat} {o:Oper} (U:L[p]? = some i) (ho:os[i]? = some o) (hn:ld.getD i false=false)
  (he:∀ e∈o.after.toList,Region.binds .any e=true->ld.getD e.on false=true) {k':Nat} {db:cx} {W':World} {v':Value}
  (lF:k'<=(S L.length).ed.length) (I2:∃ a',(S p).a.put o.dst (tx P rec os pn S p i)=.ok a') (Vv:kQ P o=true->k'=k) (Dt:kQ P o=false->k'=k+1/\(S p).ed.length=k)
  (hle:ρ.le db) (fW:St yN H W0 db (kR L S k').H W') (S5:tT pn W0 (ld.setIfInBounds i true) db W' (kR L S k')) (hv:VR db (tx P rec os pn S p i) v') :
  vX P rec os pn a IG L S yN H W0 (ld.setIfInBounds i true) db (ca.put o.dst v') W' k':=by
 have FR:i < ld.size:=by rw[aj.size]; exact ax ho
 have eM:∀ j,(ld.setIfInBounds i true).getD j false=true↔(j=i\/ld.getD j false=true):=λ j=>by
  simp only[Array.getD_eq_getD_getElem?];by_cases e:j=i
  ·subst e; simp[FR]
  ·rw[Array.getElem?_setIfInBounds_ne (λ h=>e h.symm)];simp[e]
 have Ri:∀ j,(ld.setIfInBounds i true).getD j false=false->j≠i/\ld.getD j false=false:=λ j h=>by
  have:=eM j;rw[h] at this;constructor
  ·intro e; have:=this.2 (.inl e); cases this
  ·cases D:ld.getD j false with
   | false=>rfl
   | true=>have:=this.2 (.inr D); cases this
 have gK:(ca.put o.dst v').tmps.size=ca.tmps.size:=by unfold Act.put; cases o.dst <;> simp
 have fO:∀ t,o.dst≠some t->(ca.put o.dst v').tmps.getD t undef=ca.tmps.getD t undef:=λ t hd=>by
  unfold Act.put;cases hdd:o.dst with
  | none=>rfl
  | some d=>
   simp only[Array.getD_eq_getD_getElem?];rw[Array.getElem?_setIfInBounds_ne (λ h=>hd (by rw[hdd,h]))]
 refine⟨by simp[aj.size],λ j o2 X ft e NU hb=>?_,λ q j o2 hq X Vw=>?_,lF,fW,S5,by rw[gK]; exact aj.FQ,?_,λ q j o2 t hq X hd hl=>?_,λ t ht=>?_⟩
 ·show(ld.setIfInBounds i true).getD e.on false=true;rw[eM];rcases(eM j).1 X with e1 | B
  ·subst e1;rw[ho] at ft; cases ft;exact .inr (he e NU hb)
  ·exact .inr (aj.down j o2 B ft e NU hb)
 ·rw[eM];cases YL:kQ P o with
  | true=>
   rw[Vv YL,<- aj.ke q j o2 hq X Vw];constructor
   ·rintro(e | h)
    ·subst e; rw[ho] at X; cases X; rw[YL] at Vw; cases Vw
    ·exact h
   ·exact .inr
  | false=>
   obtain⟨e1,e2⟩:=Dt YL;have hI:=aj.ke q j o2 hq X Vw;rw[e1];constructor
   ·rintro(e | h)
    ·subst e;rw[R.zw hq U,e2]; omega
    ·have:=hI.1 h; omega
   ·intro h;by_cases cG:(S q).ed.length < k
    ·exact .inr (hI.2 cG)
    ·have heq:(S q).ed.length=k:=by omega
     have Rj:∀ (x:Nat) (jx:Nat) (ox:Oper),L[x]? = some jx->os[jx]? = some ox->kQ P ox=false->(S (x+1)).ed.length=(S x).ed.length+1:=λ x jx ox B D V=>by
      obtain⟨o3,v3,H3,F3⟩:=R.step x jx B;have:o3=ox:=by have:=F3.op; rw[D] at this; cases this; rfl
      subst this;rcases F3.aM with⟨j0,_⟩ | ⟨_,_,j2,_⟩
      ·rw[V] at j0; cases j0
      ·rw[j2,List.length_cons]
     have Vt:q=p:=by
      rcases Nat.lt_trichotomy q p with B | B | B
      ·have m:=R.mono (p - (q+1)) (q+1) (by have:=R.lt U; omega);rw[show q+1+(p - (q+1))=p by omega,Rj q j o2 hq X Vw] at m;omega
      ·exact B
      ·have m:=R.mono (q - (p+1)) (p+1) (by have:=R.lt hq; omega);rw[show p+1+(q - (p+1))=q by omega,Rj p i o U ho YL] at m;omega
     subst Vt;rw[U] at hq;cases hq;exact .inl rfl
 ·rw[<- aj.defers]; unfold Act.put; cases o.dst <;> rfl
 ·by_cases e:j=i
  ·subst e;rw[ho] at X; cases X;have Vt:=R.zw hq U;subst Vt;obtain⟨a',uM⟩:=I2;rw[hd] at uM;rw[az.zu] at uM;simp only at uM;split at uM
   ·rename_i cG;have Fw:t < ca.tmps.size:=by rw[aj.FQ,<- (R.Pc q (by have:=R.lt U; omega)).1]; exact cG.1
    have:(ca.put o.dst v').tmps.getD t undef=v':=by
     rw[hd];simp[Act.put,Array.getD_eq_getD_getElem?,Fw]
    rw[this];exact hv
   ·cases uM
  ·have Kj:ld.getD j false=true:=by
    rcases(eM j).1 hl with h | h
    ·exact absurd h e
    ·exact h
   rw[fO t (λ h=>e (R.GD ho h X hd).symm)];exact(aj.LC q j o2 t hq X hd Kj).mono hle
 ·have ee:o.dst≠some t:=λ h=>(Ri i (ht i o ho h)).1 rfl;rw[fO t ee];exact(aj.rest t (λ j o2 X hd=>(Ri j (ht j o2 X hd)).2)).mono hle
theorem vX.gz (R:qH P rec os pn a Hs L S) (aj:vX P rec os pn a IG L S yN H W0 ld ρ ca W k) (Pd:iD P os lo n pn) (mc:True) (mU:∀ i,i < os.length->ld.getD i false=true) (hm:MR yN a.bn IG.defers) :
  St yN H W0 ρ ((S L.length).m.dy (S L.length).done pn) W/\AR ρ (S L.length).a ca:=by
 have hk:k=(S L.length).ed.length:=by
  rcases Nat.lt_or_ge k (S L.length).ed.length with cG | Ur
  ·obtain⟨x,Y⟩:∃ x,(S L.length).ed[0]? = some x:=⟨(S L.length).ed[0],List.getElem?_eq_getElem (by omega)⟩
   obtain⟨q,o2,B,D,V,h4,h5⟩:=R.sW L.length (Nat.le_refl _) 0 x Y;have:=(aj.ke q x.1 o2 D V h4).1 (mU _ (ax V));omega
  ·have:=aj.YJ; omega
 have lH:=R.lj (p:=L.length) (Nat.le_refl _);rw[<- hk] at lH;have fW:=aj.st;have uL:=aj.Vs;rw[lH] at fW uL;have fW:=BH (c:=(S L.length).done) Pd mc uL (λ p U _=>by
  obtain⟨o,B,_⟩:=Pd.float U;exact mU _ (ax B)) fW
 obtain⟨n1,n2⟩:=R.Pc L.length (Nat.le_refl _);refine⟨fW,⟨⟨by rw[n1]; exact aj.FQ,λ t=>?_⟩,by rw[n2,aj.defers]; exact hm.mono fW.le⟩⟩;by_cases hw:∃ (j:Nat) (w:Oper),os[j]? = some w/\w.dst=some t
 ·obtain⟨j,w,X,hd⟩:=hw;obtain⟨q,hq⟩:=R.nP (ax X);rw[R.CY L.length (Nat.le_refl _) q j w t (R.lt hq) hq X hd];exact aj.LC q j w t hq X hd (mU j (ax X))
 ·have KF:∀ (j:Nat) (o':Oper),os[j]? = some o'->o'.dst=some t->False:=λ j o' B D=>hw ⟨j,o',B,D⟩;rw[R.yz L.length (Nat.le_refl _) t (λ q j' o' hq hl mb Hx=>KF j' o' mb Hx)];exact aj.rest t (λ j' o' mb Hx=>(KF j' o' mb Hx).elim)
end
def Ol (ld:Array Bool):Nat:=ld.toList.countP (λ b=>!b)
theorem Qb {ld:Array Bool} {i:Nat} (N:i < ld.size) (hn:ld.getD i false=false):Ol (ld.setIfInBounds i true)+1=Ol ld:=by
 unfold Ol;have eM:ld.toList[i]'(by simpa using N)=false:=by
  simpa [Array.getD_eq_getD_getElem?,N] using hn
 have key:∀ (l:List Bool) (i:Nat) (h:i < l.length),l[i]=false->(l.set i true).countP (λ b=>!b)+1=l.countP (λ b=>!b):=by
  intro l
  induction l with
  | nil=>intro i h; simp at h
  | cons x l ih=>
   intro i h Y;cases i with
   | zero=>
    simp at Y;subst Y;simp
   | succ i=>
    simp only[List.getElem_cons_succ] at Y;have:=ih i (by simpa using h) Y;simp only[List.set_cons_succ,List.countP_cons];omega
 rw[Array.toList_setIfInBounds];exact key ld.toList i (by simpa using N) eM
theorem Nj {ld:Array Bool} (h:Ol ld=0):∀ i,i < ld.size->ld.getD i false=true:=λ i N=>by
 unfold Ol at h;rw[List.countP_eq_zero] at h;have:=h (ld.toList[i]'(by simpa using N)) (List.getElem_mem _);simpa [Array.getD_eq_getD_getElem?,N] using this
theorem Nk {a:az} {ρ:cx} {o:Oper} {id:Nat} {r:Row} {ca:Act} {W:World} (mH:bP o=true) (hr:fP P a o.op id=.ok r) (Y:∀ x∈o.op.operands,kE a ca ρ x) (rc:Option Nat) (n:Nat)
  {next:Act->World->Prop} {Q:Exit->Act->World->Prop} (ea:∀ (cs:Array Value) (t esz:Nat) (zs:List Value) (v:Value),r=vr t id esz zs->LR ρ zs cs.toList->(∀ (db:cx) (pl:Pl),db id=some pl->pl.cq=W.heap.size->pl.base=0->VR db (o7 o.op id) v) ->
   next (ca.put o.dst v) { W with heap:=W.heap.push (.cells cs t) }):o.wpIn (WF rc) n P ca W next Q:=by
 refine⟨py _ (λ f=>trivial) o W ca.eval,?_⟩;unfold bP at mH;split at mH
 ·rename_i t ho hg;have KB:∀ c,o.op≠.defer c:=λ c e=>by rw[ho] at e; cases e
  rw[Oper.semAt_eq _ _ _ KB];rw[ho] at hr;simp only[fP] at hr;obtain⟨zs,hz,D⟩:=bE hr;cases D;obtain⟨z,z1,z2,z3,_⟩:=eK hz W;have fp:(execOp ca.eval o).run P W=.ok (.value (.pointer (some ⟨W.heap.size,0,none⟩))) { W with heap:=W.heap.push (.cells z.cells t) }:=by
   unfold execOp;rw[ho];simp only[Instr.alloc,Sem.run_bind,z1,Result.andThen,newVar,dt,Sem.run_pure]
  rw[fp];refine ea z.cells t 0 zs _ rfl (by rw[z2]; exact ju z3) (λ db pl B D V=>?_);rw[ho];have:=VR.ptr (off:=0) B;rw[D,V] at this;exact this
 ·rename_i t len bH ho hg;have KB:∀ c,o.op≠.defer c:=λ c e=>by rw[ho] at e; cases e
  rw[Oper.semAt_eq _ _ _ KB];rw[ho] at hr;simp only[fP] at hr;split at hr
  ·rename_i elem hu;obtain⟨qs,B,fx⟩:=bE hr;obtain⟨size,D,ft⟩:=bE fx;split at ft
   ·cases ft
   ·rename_i Vh;obtain⟨zs,V,xR⟩:=bE ft;split at xR
    ·rename_i cells hf;cases xR;have Hp:∀ p∈bH.toList,kE a ca ρ p.2:=λ p U=>Y p.2 (by rw[ho]; simp only[Op.operands,List.mem_toArray,List.mem_map]; exact⟨p,U,rfl⟩);obtain⟨z,z1,z2,z3,inf,z4,z5⟩:=eK V W;have gI:size=inf.size:=by obtain⟨i2,q1,q2⟩:=nz D; rw[z4] at q1; cases q1; exact q2.symm
     have hz:z.cells.size=size:=by rw[gI,<- z5,<- z2]; simp
     obtain⟨k1,k2⟩:=uo B Hp;have hg:∀ m,(ba zs m).all (iL gd)=true:=by
      intro m
      induction m with
      | zero=>rfl
      | succ m ih=>simp only[ba,List.all_append,ih,z3,Bool.and_self]
     obtain⟨r',f1,f2⟩:=sy _ qs _ _ (ba zs len).toArray cells k1 k2 (ju (hg len)) hf;have fp:(execOp ca.eval o).run P W=.ok (.value (.slice (some ⟨W.heap.size,0,none⟩) len len)) { W with heap:=W.heap.push (.cells r' elem) }:=by
      have Kw:¬ (len * size > 2 ^ 24):=Vh;unfold execOp;rw[ho];simp only[Instr.buildSlice,Sem.run_bind,av hu,Result.andThen,bU D,Kw,if_false];by_cases hn:len * size=0
      ·have e0:((Array.range 0).map λ x=>(#[] : Array Value)[x % (#[] : Array Value).size]!)=(ba zs len).toArray:=by
        have:ba zs len=[]:=List.eq_nil_of_length_eq_zero (by rw[eS,z5,<- gI]; exact hn);rw[this];apply Array.eq_empty_of_size_eq_zero; simp
       simp only[hn,if_true,Sem.run_bind,Sem.run_pure,Result.andThen,e0,Array.toList_map,f1,dt]
      ·have e0:((Array.range (len * size)).map λ x=>z.cells[x % z.cells.size]!)=(ba zs len).toArray:=by
        apply Array.ext';rw[<- hz,sA,z2]
       simp only[hn,if_false,Sem.run_bind,Sem.run_pure,z1,Result.andThen,e0,Array.toList_map,f1,dt]
     rw[fp];refine ea r' elem size cells.toList _ rfl f2 (λ db pl B D V=>?_);rw[ho];have:=VR.slice (off:=0) (n:=len) (c:=len) (c':=len) B (.inl rfl);rw[D,V] at this;exact this
    ·cases xR
  ·cases hr
 ·cases mH
theorem Qc {rec:eL} (eI:rQ P rec) {ops:Array Oper} {pn:List c5} {a:az} {IG:Act} {L:List Nat} {S:Nat->DS} {yN:cx} {H Hs:AH} {W0:World} {nn:Nat} (R:qH P rec ops.toList pn a Hs L S) (Pd:iD P ops.toList H.next nn pn) (mc:True) (hm:MR yN a.bn IG.defers) (rc:Option Nat) (n:Nat)
  {Q:Exit->Act->World->Prop} (hQ:∀ db Fu W',St yN H W0 db ((S L.length).m.dy (S L.length).done pn) W'->AR db (S L.length).a Fu->Q .normal Fu W') :
  ∀ (fuel:Nat) (ld:Array Bool) (ρ:cx) (ca:Act) (W:World) (k:Nat),vX P rec ops.toList pn a IG L S yN H W0 ld ρ ca W k->Ol ld<=fuel->wpAnyIn (WF rc) n P .any ops Q fuel ld ca W:=by
 have gI:ops.toList.length=ops.size:=by simp
 have mem:∀ (ld:Array Bool),ld.size=ops.size->∀ i,i∈Region.ready .any ops ld↔∃ o,ops.toList[i]? = some o/\ld.getD i false=false/\∀ e∈o.after.toList,Region.binds .any e=true->ld.getD e.on false=true:=by
  intro ld hs i;unfold Region.ready;rw[List.mem_filter,List.mem_range];constructor
  ·rintro⟨B,D⟩;have N:ops[i]? = some ops[i]:=by simp[B]
   rw[N] at D;simp only[Option.map_some,Option.getD_some,Bool.and_eq_true,Bool.not_eq_true'] at D;refine⟨ops[i],by simp[B],?_,λ e he hb=>?_⟩
   ·have:=D.1;simp only[Array.getD_eq_getD_getElem?] at this ⊢;rw[Array.getElem?_eq_getElem (by omega)] at this ⊢;simpa using this
   ·have:=D.2;rw[<- Array.all_toList] at this;have:=List.all_eq_true.1 this e he;simpa [hb] using this
  ·rintro⟨o,B,D,V⟩;have N:i < ops.size:=by rw[<- gI]; exact ax B
   have nG:ops[i]? = some o:=by simpa using B
   refine⟨N,?_⟩;rw[nG];simp only[Option.map_some,Option.getD_some,Bool.and_eq_true,Bool.not_eq_true'];refine⟨?_,?_⟩
   ·simp only[Array.getD_eq_getD_getElem?] at D ⊢;rw[Array.getElem?_eq_getElem (by omega)] at D ⊢;simpa using D
   ·rw[<- Array.all_toList];refine List.all_eq_true.2 (λ e he=>?_);cases hb:Region.binds .any e with
    | false=>rfl
    | true=>simpa using V e he hb
 have yW:∀ (ld:Array Bool) (ρ:cx) (ca:Act) (W:World) (k:Nat),vX P rec ops.toList pn a IG L S yN H W0 ld ρ ca W k->Region.ready .any ops ld=[]->Q .normal ca W:=by
  intro ld ρ ca W k aj hr;have hs:ld.size=ops.size:=by rw[aj.size,gI]
  have mU:∀ i,i < ops.toList.length->ld.getD i false=true:=by
   intro i
   induction i using Nat.strongRecOn with
   | _ i ih=>
    intro N;cases hb:ld.getD i false with
    | true=>rfl
    | false=>
     have ho:ops.toList[i]? = some ops.toList[i]:=List.getElem?_eq_getElem N;have:i∈Region.ready .any ops ld:=(mem ld hs i).2 ⟨_,ho,hb,λ e he Uo=>ih e.on (R.Eo i _ ho e he Uo) (by have:=R.Eo i _ ho e he Uo; omega)⟩;rw[hr] at this;cases this
  obtain⟨B,D⟩:=aj.gz R Pd mc mU hm;exact hQ ρ ca W B D
 intro fuel
 induction fuel with
 | zero=>
  intro ld ρ ca W k aj hf;have hs:ld.size=ops.size:=by rw[aj.size,gI]
  have hr:Region.ready .any ops ld=[]:=by
   cases hr:Region.ready .any ops ld with
   | nil=>rfl
   | cons i l=>
    obtain⟨o,B,D,_⟩:=(mem ld hs i).1 (by rw[hr]; exact List.mem_cons_self);have:=Nj (show Ol ld=0 by omega) i (by rw[hs,<- gI]; exact ax B);rw[D] at this;cases this
  exact⟨hr,yW ld ρ ca W k aj hr⟩
 | succ fuel ih=>
  intro ld ρ ca W k aj hf;have hs:ld.size=ops.size:=by rw[aj.size,gI]
  refine⟨yW ld ρ ca W k aj,λ i N=>?_⟩;obtain⟨o,ho,hn,he⟩:=(mem ld hs i).1 N;have FR:i < ld.size:=by rw[hs,<- gI]; exact ax ho
  obtain⟨p,U⟩:=R.nP (ax ho);have hc:∀ x,((ix ops.toList).getD i 0).testBit x=true->ld.getD x false=true:=zM R.Eo aj.down i o ho he;have I2:=R.nJ U ho;have LD:Ol (ld.setIfInBounds i true)<=fuel:=by
   have:=Qb FR hn;omega
  have pJ:∀ j,(ld.setIfInBounds i true).getD j false=true↔(j=i\/ld.getD j false=true):=λ j=>by
   simp only[Array.getD_eq_getD_getElem?];by_cases e:j=i
   ·subst e; simp[FR]
   ·rw[Array.getElem?_setIfInBounds_ne (λ h=>e h.symm)];simp[e]
  have Rk:∀ t∈Bv ops.toList o,VR ρ (((S p).a.tm.get t).getD undef) (ca.tmps.getD t undef):=λ t ht=>aj.ab7 R U ho hn hc ht;have mb:ops[i]? = some o:=by simpa using ho
  unfold wpOpIn;rw[mb];simp only;have IE:=(R.Pc p (by have:=R.lt U; omega)).1;have W7:∀ x∈o.op.operands,kE (S p).a ca ρ x:=λ x Y=>by
   intro u hu;cases x with
   | tmp t=>
    simp only[az.eval] at hu;cases hu;exact Rk t (List.mem_append_left _ (List.mem_filterMap.2 ⟨.tmp t,by simpa using Y,rfl⟩))
   | const v=>
    simp only[az.eval] at hu;split at hu
    ·cases hu; exact dT _ (by assumption)
    ·cases hu
   | global aa=>simp[az.eval] at hu
   | func f=>
    simp only[az.eval] at hu;cases hu;exact .func rfl (by intro i v v' h; simp at h) rfl (by intro i v v' h; simp at h)
  cases mH:bP o with
  | true=>
   have hog:o.guard=none:=by
    unfold bP at mH;split at mH <;> first | assumption | (cases mH; done)
   obtain⟨o1,v1,H1,F⟩:=R.step p i U;have:o1=o:=by have:=F.op; rw[ho] at this; cases this; rfl
   subst this;obtain⟨q,Vp,Z4,YI⟩:=F.flo mH;obtain⟨Us,Z9⟩:=sX Vp;obtain⟨_,_,o2,b1,b2,b3⟩:=Pd.mem q Us;rw[Z9,ho] at b1;cases b1;have Od:dr ops.toList (S p).a o1=.ok true:=by unfold dr; rw[hog]
   have hw:=ur (ρ:=ρ) (ca:=ca) Od (by rw[aj.FQ,IE]) (λ aa w d hg hd=>by rw[hog] at hg; cases hg);rw[if_pos hw];refine Nk mH YI W7 rc n (λ cs t esz zs v' b5 Bl rb=>?_);have QO:ld.getD q.op false=false:=by rw[Z9]; exact hn
   obtain⟨pl,e1,e2,e3,e4,e5,e6,e7⟩:=tT.float Pd aj.Vs aj.st Us QO b5 Bl (ld':=ld.setIfInBounds i true) (λ j=>by rw[Z9]; exact pJ j);have TN:kQ P o1=true:=by simp[kQ,mH]
   refine ih _ _ _ _ k (aj.Pe R U ho hn he aj.YJ I2 (λ _=>rfl) (λ h=>by rw[TN] at h; cases h) e5 e6 e7 ?_) LD;rw[F.val,Z4,b3];exact rb _ pl e1 e2 e3
  | false=>
  obtain⟨k',M',B,D,h4,h5,h6⟩:=aj.ab8 R Pd U ho hn mH hc;have mA:∀ q∈pn,((ix ops.toList).getD i 0).testBit q.op=true->ld.getD q.op false=true:=λ q _ hb=>hc _ hb;have Gh:=BH (c:=(ix ops.toList).getD i 0) Pd mc aj.Vs mA aj.st;have hgo:∀ db W' v',St ρ ((kR L S k).dy ((ix ops.toList).getD i 0) pn) W db M' W'->VR db (tx P rec ops.toList pn S p i) v'->vX P rec ops.toList pn a IG L S yN H W0 (ld.setIfInBounds i true) db (ca.put o.dst v') W' k':=by
   intro db W' v' fW AN;have S5:tT pn W0 (ld.setIfInBounds i true) db W' (kR L S k'):=by
    refine tT.step Pd mc aj.Vs aj.st.fc mA fW ?_ (λ q hq=>?_)
    ·rcases h6 with⟨e1,e2⟩ | h6
     ·exact .inl ⟨e1,e2⟩
     ·exact .inr h6
    ·have ee:q.op≠i:=λ e=>by
      obtain⟨oe,Vu,NU⟩:=Pd.float hq;rw[e,ho] at Vu;cases Vu;rw[mH] at NU; cases NU
     have:=pJ q.op;cases h7:ld.getD q.op false with
     | true=>exact this.2 (.inr h7)
     | false=>
      cases h8:(ld.setIfInBounds i true).getD q.op false with
      | false=>rfl
      | true=>
       rcases this.1 h8 with h | h
       ·exact absurd h ee
       ·rw[h7] at h; cases h
   refine aj.Pe R U ho hn he D I2 h4 h5 fW.le ?_ S5 AN;have Lb:=Gh.trans fW;rcases h6 with⟨e1,e2⟩ | ⟨e1,_⟩
   ·rw[e1];subst e2;exact Qa Lb (lV _ _ _ _).symm (Ib Pd mc aj.Vs aj.st.fc)
   ·rw[e1]; exact Lb
  unfold tp at B;obtain⟨b,Od,Ke⟩:=bE B;have hw:=ur (ρ:=ρ) (ca:=ca) Od (by rw[aj.FQ,IE]) (λ aa w d hg hd=>Rk d (by
   unfold Bv;rw[hg];refine List.mem_append_right _ ?_;have e:ops.toList[aa]? = ops[aa]?:=by simp
   show d∈((ops.toList[aa]?).bind (·.dst)).toList;rw[e,hd];simp))
  cases b with
  | true=>
   rw[if_pos hw];simp only[if_true] at Ke;exact Rg eI Gh.fc W7 Ke rc n (λ db W' v' fW AN=>ih _ db _ W' k' (hgo db W' v' fW AN) LD)
  | false=>
   rw[if_neg (by rw[hw]; simp)];simp only[Bool.false_eq_true,if_false] at Ke;have e1:undef=tx P rec ops.toList pn S p i/\(kR L S k).dy ((ix ops.toList).getD i 0) pn=M':=by
    have hb3:=Except.ok.inj Ke;exact⟨congrArg Prod.fst hb3,congrArg Prod.snd hb3⟩
   refine⟨py _ (λ f=>trivial) o W ca.eval,ih _ ρ _ W k' (hgo ρ W _ ?_ ?_) LD⟩
   ·rw[<- e1.2]; exact St.refl Gh.fc
   ·rw[<- e1.1]; exact VR.undef _
theorem Ay {os:List Oper} (h:pt os (ix os)=true):wN os /\
  ∀ (j i:Nat) (o w:Oper) (t:Nat),os[j]? = some o->os[i]? = some w->w.dst=some t->i=j\/(o.dst≠some t/\(t ∉ Bv os o\/((ix os).getD j 0).testBit i=true\/((ix os).getD i 0).testBit j=true)):=by
 unfold pt at h;have hz:∀ (j:Nat) (o:Oper),os[j]? = some o->(o,j)∈os.zipIdx:=λ j o X=>List.mem_zipIdx_iff_getElem?.2 X;constructor
 ·intro j o X e he hb;have:=List.all_eq_true.1 h (o,j) (hz j o X);simp only[Bool.and_eq_true] at this;have:=List.all_eq_true.1 this.1 e he;simpa [hb] using this
 ·intro j i o w t X N hd;have:=List.all_eq_true.1 h (o,j) (hz j o X);simp only[Bool.and_eq_true] at this;have:=List.all_eq_true.1 this.2 (w,i) (hz i w N);simp only[hd,Bool.or_eq_true,Bool.and_eq_true,beq_iff_eq,bne_iff_ne,Bool.not_eq_true'] at this;rcases this with B | ⟨B,(D | D) | D⟩
  ·exact .inl B
  ·exact .inr ⟨B,.inl (by simpa using D)⟩
  ·exact .inr ⟨B,.inr (.inl D)⟩
  ·exact .inr ⟨B,.inr (.inr D)⟩
theorem Nl {rec:eL} (eI:rQ P rec) {ops:Array Oper} {a a':az} {ca:Act} {ρ:cx} {H H':AH} {W:World} (h:rP P rec ops.toList a H=.ok (a',H')) (G:fV ρ H W) (hA:AR ρ a ca) (rc:Option Nat) (n:Nat)
  {Q:Exit->Act->World->Prop} (hQ:∀ db Fu W',St ρ H W db H' W'->AR db a' Fu->Q .normal Fu W'):wpAnyIn (WF rc) n P .any ops Q ops.size (Array.replicate ops.size false) ca W:=by
 unfold rP at h;simp only at h;split at h
 ·rename_i htr;generalize h0:iT ops.toList 0 H.next=rs at h;obtain⟨QN,nn⟩:=rs;obtain⟨s,B,D⟩:=bE h;split at D
  ·rename_i hd;cases D;obtain⟨S,e1,e2,e3⟩:=Ad _ _ _ B;obtain⟨hb,ht⟩:=Ay htr;generalize sU P ops.toList (ix ops.toList)=L at e2 e3;have Vx:∀ d p,p+d=L.length->dP (S p).done (S p).ps (S L.length).ps:=by
    intro d
    induction d with
    | zero=>
     intro p U;have:p=L.length:=by omega
     subst this; exact dP.refl _ _
    | succ d ih=>
     intro p U;exact xE (e3 p _ (List.getElem?_eq_getElem (show p < L.length by omega))) (ih (p+1) (by omega))
   have Pd0:=iD.of (P:=P) h0;have W8:=Vx L.length 0 (by omega);rw[e1] at W8;have Pd:=Pd0.Rh W8;have R:qH P rec ops.toList (S L.length).ps a { H with next:=nn } L S:=⟨⟨QN,e1⟩,λ p j U=>Ni (e3 p j U) (Vx (L.length - (p+1)) (p+1) (by have:=ax U; omega)),hb,ht,by rw[e2]; exact hd⟩
   have hf:∀ i,(Array.replicate ops.size false).getD i false=false:=λ i=>by
    simp only[Array.getD_eq_getD_getElem?,Array.getElem?_replicate];split <;> rfl
   have Ut:(S 0).ed.length=0:=by rw[e1]; rfl
   refine Qc eI R Pd G.QC hA.bn rc n (W0:=W) (λ db Fu W' fW ha=>hQ db Fu W' (by rw[<- e2]; exact fW) (by rw[<- e2]; exact ha)) ops.size _ ρ ca W 0 ?_ ?_
   ·refine⟨by simp,λ j o X=>?_,λ p j o U X hc=>?_,Nat.zero_le _,?_,?_,hA.tm.1,rfl,λ p j o t _ _ _ hl=>?_,λ t _=>hA.tm.2 t⟩
    ·simp only[hf] at X; cases X
    ·rw[hf]; simp
    ·have:=R.lj (p:=0) (Nat.zero_le _);rw[Ut,e1] at this;rw[this];refine⟨cx.le_refl ρ,⟨λ i p N=>?_,trivial,G.nF,G.jh⟩,Pd.le,Nat.le_refl _,λ b _ hb=>⟨rfl,hb⟩,rfl,rfl,rfl,λ _ _=>rfl,λ _ _ hb=>hb⟩;have:=G.B5 i p N;have:=Pd.le;show i < nn;omega
    ·have:=R.lj (p:=0) (Nat.zero_le _);rw[Ut,e1] at this;rw[this];have HJ:∀ p∈(S L.length).ps,ρ p.id=none:=λ p U=>by
      cases hc:ρ p.id with
      | none=>rfl
      | some pl=>
       have:=G.B5 _ _ hc;have:=(Pd.mem p U).1;omega
     refine⟨λ p _ hl=>?_,λ p U _=>HJ p U,λ p U=>(Pd.mem p U).2.1,λ p _ hg=>?_,λ p U q _ _ pl yL B _=>?_⟩
     ·rw[hf] at hl; cases hl
     ·simp at hg
     ·rw[HJ p U] at B; cases B
    ·rw[hf] at hl; cases hl
   ·have:∀ l:List Bool,l.countP (λ b=>!b)<=l.length:=λ l=>List.countP_le_length;have V:=this (Array.replicate ops.size false).toList;unfold Ol;simpa using V
  ·cases D
 ·cases h
end
end Go.cy
namespace Go.cy
noncomputable section
variable {P:Program}
theorem EH:∀ (args:List Value) (k:Nat) (t0:T Value),k+args.length<=1000000->∀ j,((args.zipIdx k).foldl (λ t (p:Value×Nat)=>T.put AH.top t p.2 p.1) t0).get j=if k<=j/\j < k+args.length then args[j - k]? else t0.get j
 | [],k,t0,_,j=>by
  rw[if_neg (by simp)];rfl
 | v :: args,k,t0,h,j=>by
  simp only[List.length_cons] at h;rw[List.zipIdx_cons,List.foldl_cons,EH args (k+1) _ (by omega) j];rw[show(T.put AH.top t0 k v).get j=if j=k then some v else t0.get j from T.jB 48 _ _ _ _ (by
   rw[show(2:Nat) ^ 48=281474976710656 from rfl]; omega)]
  simp only[List.length_cons];by_cases e:j=k
  ·subst e;rw[if_neg (by omega),if_pos rfl,if_pos ⟨Nat.le_refl _,by omega⟩];simp
  ·by_cases D:k+1<=j/\j < k+1+args.length
   ·rw[if_pos D,if_pos ⟨by omega,by omega⟩,show j - k=(j - (k+1))+1 by omega,List.getElem?_cons_succ]
   ·rw[if_neg D,if_neg e,if_neg (by omega)]
theorem Nm {ρ:cx} {args eC:List Value} {n:Nat} (h:LR ρ args eC) (B:args.length<=n) (D:args.length<=1000000) :
  TR ρ (cO n args).tm n (eC.toArray++Array.replicate (n - eC.toArray.size) undef):=by
 have hl:=h.1;refine⟨by simp; omega,λ t=>?_⟩;have hg:(cO n args).tm.get t=if 0<=t/\t < 0+args.length then args[t - 0]? else(T.oP 10:T Value).get t:=EH args 0 _ (by omega) t
 rw[hg];by_cases ht:t < args.length
 ·rw[if_pos ⟨Nat.zero_le _,by omega⟩,Nat.sub_zero];obtain⟨v',V,h4⟩:=h.get (List.getElem?_eq_getElem ht);rw[List.getElem?_eq_getElem ht];have e:(eC.toArray++Array.replicate (n - eC.toArray.size) undef).getD t undef=v':=by
   rw[Array.getD_eq_getD_getElem?,Array.getElem?_append_left (by simp; omega)];simp[V]
  rw[e];exact h4
 ·rw[if_neg (by omega)];have e:(eC.toArray++Array.replicate (n - eC.toArray.size) undef).getD t undef=undef:=by
   rw[Array.getD_eq_getD_getElem?,Array.getElem?_append_right (by simp; omega),Array.getElem?_replicate];split <;> rfl
  rw[e,T.lT];exact VR.undef ρ
def va (tmps:Array Value):ResultVar->Sem Value
 | .tmp t=>pure (tmps.getD t undef)
 | .cell a t=>do loadVar t (<- asAddr (tmps.getD a undef))
theorem G9 (fn:Func) (tmps:Array Value):results fn tmps=(do
  let vs<-fn.results.mapM (va tmps)
  pure (if h:vs.size=1 then vs[0] else .tuple vs)):=rfl
theorem xG {ρ:cx} {H:AH} {W:World} {a:az} {tmps:Array Value} {fn:Func} {v:Value} (h:fV ρ H W) (ht:TR ρ a.tm a.n tmps) (hr:c9 P H a fn.results.toList=.ok v) :
  ∃ v',(results fn tmps).run P W=.ok v' W/\VR ρ v v':=by
 unfold c9 at hr;obtain⟨vs,B,D⟩:=bE hr;obtain⟨V,h4⟩:=wL B
 let aa:ResultVar->Value:=λ r=>match (va tmps r).run P W with
  | .ok v _=>v
  | _=>undef
 have key:∀ r y,(match r with
   | .tmp t=>.ok ((a.tm.get t).getD undef)
   | .cell t ty=>do
    let (id,off)<-eg ((a.tm.get t).getD undef)
    jq P H ty id off:R Value)=.ok y->(va tmps r).run P W=.ok (aa r) W/\VR ρ y (aa r):=λ r y hy=>by
  have one:∀ u,(va tmps r).run P W=.ok u W->VR ρ y u->(va tmps r).run P W=.ok (aa r) W/\VR ρ y (aa r):=λ u e hv=>by
   have:aa r=u:=by show(match (va tmps r).run P W with | .ok v _=>v | _=>undef)=u; rw[e]
   rw[this];exact⟨e,hv⟩
  cases r with
  | tmp t=>cases hy; exact one _ rfl (ht.2 t)
  | cell t ty=>
   simp only at hy;obtain⟨⟨id,off⟩,k1,k2⟩:=bE hy;have hv:=ht.2 t;rw[px k1] at hv;obtain⟨pl,p1,p2⟩:=hv.at;obtain⟨u,q1,q2⟩:=vD (P:=P) h p1 k2;refine one u ?_ q2;simp only[va,p2,asAddr,Sem.run_bind,Sem.run_pure,Result.andThen,q1]
 have fp:(fn.results.mapM (va tmps)).run P W=.ok (fn.results.toList.map aa).toArray W:=by
  refine tG (P:=P) (va tmps) aa W fn.results (λ x Y=>?_);obtain⟨i,N⟩:=List.mem_iff_getElem?.1 Y;obtain⟨y,_,hy⟩:=h4 i x N;exact(key x y hy).1
 have hl:LR ρ vs (fn.results.toList.map aa):=by
  refine⟨by simp[V],λ i u u' hu uD=>?_⟩;rw[List.getElem?_map] at uD;cases Y:fn.results.toList[i]? with
  | none=>rw[Y] at uD; cases uD
  | some x=>
   rw[Y] at uD;cases uD;obtain⟨y,Yx,Vf⟩:=h4 i x Y;rw[hu] at Yx;cases Yx;exact(key x _ Vf).2
 rw[G9];simp only[Sem.run_bind,fp,Result.andThen,Sem.run_pure];generalize fn.results.toList.map aa=us at hl;split at D
 ·rename_i w0;cases D;obtain⟨v',m',e1,e2,e3⟩:=hl.jt;have:=e3.mC;subst this;subst e1;exact⟨v',by simp,e2⟩
 ·rename_i ee;cases D;have gK:¬ us.toArray.size=1:=λ e=>by
   have:vs.length=1:=by rw[hl.1]; simpa using e
   obtain⟨x,rfl⟩:=List.length_eq_one_iff.1 this;exact ee x rfl
  exact⟨.tuple us.toArray,by rw[dif_neg gK],VR.oC hl⟩
theorem vV {W:World} {b:Nat} (h:W.heap[b]? = some (.deferred (some []))):(Instr.takeDeferred b).run P W=.ok [] { W with heap:=W.heap.setIfInBounds b (.deferred none) }:=by
 unfold Instr.takeDeferred;simp only[Sem.run_bind,fJ h (by intro c t f e; cases e),Result.andThen,iJ h (by intro c t f e; cases e),Sem.run_pure]
theorem wO {f:FuncId} {args:List Value} {fn:Func} {c:Code} (h:mj P f args=.ok (fn,c)):P.funcs[f]? = some fn/\fn.body=some c/\args.length<=fn.ntmps/\args.length<=1000000/\(fn.name == "runtime.NumGoroutine")=false:=by
 unfold mj at h;split at h
 ·rename_i fn' hf;split at h
  ·rename_i c' hc;split at h
   ·cases h
   split at h
   ·cases h
   split at h
   ·cases h
   rename_i B D V;cases h;exact⟨hf,hc,by omega,by omega,by simpa using V⟩
  ·cases h
 ·cases h
theorem EI {rec:eL} (eI:rQ P rec) {f:FuncId} {args eC:List Value} {fn:Func} {c:Code} (h:mj P f args=.ok (fn,c)) {H H1:AH} {x:AX} {a1:az} (B:rec (.code none c (cO fn.ntmps args)) H=.ok (.ie x a1,H1))
  {ρ:cx} {W:World} (G:fV ρ H W) (hl:LR ρ args eC) (n:Nat):c.wpIn (WF none) n P (o9 ρ H W x a1 H1) { tmps:=eC.toArray++Array.replicate (fn.ntmps - eC.toArray.size) undef,defers:=[] } W:=by
 obtain⟨_,_,D,V,_⟩:=wO h;exact eI.code none c _ H x a1 H1 B ρ W _ none n G ⟨Nm hl D V,⟨rfl,λ i m d hm=>by simp[cO] at hm⟩⟩ trivial
theorem uv {rec:eL} (eI:rQ P rec) {n:Nat} {fn:Func} {tmps:Array Value} {R:Ending->World->Prop} : ∀ (ms:List rF) (ds:List Deferred) (ρ:cx) (H H1:AH) (W:World),eh P rec ms H=.ok H1->fV ρ H W->MR ρ ms ds ->
  (∀ db W1,St ρ H W db H1 W1->LeavesIn (WF none) n P fn tmps R [] .returning W1)->LeavesInM (WF none) n P fn tmps R ds .returning W
 | [],ds,ρ,H,H1,W,h,G,hm,hk=>by
  have:ds=[]:=by have:=hm.1; simp at this; exact List.length_eq_zero_iff.1 this.symm
  subst this;simp only[eh] at h;cases h;exact hk ρ W (St.refl G)
 | m :: ms,[],ρ,H,H1,W,h,G,hm,hk=>by have:=hm.1; simp at this
 | .mark m :: ms,d :: ds,ρ,H,H1,W,h,G,hm,hk=>by
  obtain⟨pl,U,rfl⟩:=hm.2 0 (.mark m) d rfl rfl;simp only[eh] at h;split at h
  ·rename_i hg;obtain⟨p0,nL,Gg,ji⟩:=G.nF m _ hg;rw[U] at nL; cases nL;have fW:St ρ H W ρ (H.set m (.mark false)) { W with heap:=W.heap.setIfInBounds pl.cq (.deferred none) }:=by
    refine St.setObj G hg rfl U _ ?_;show(W.heap.setIfInBounds pl.cq (Obj.deferred none))[pl.cq]? = _;simp[Gg]
   refine⟨(by intro e; cases e),.inl ⟨pl.cq,_,rfl,vV ji,?_⟩⟩;exact uv eI ms ds ρ _ H1 _ h fW.fc ⟨by have:=hm.1; simpa using this,λ i m' d' B D=>hm.2 (i+1) m' d' (by simpa using B) (by simpa using D)⟩ (λ db W1 hs=>hk db W1 (fW.trans hs))
  ·cases h
 | .call f l :: ms,d :: ds,ρ,H,H1,W,h,G,hm,hk=>by
  obtain⟨cap,args,rfl,hl⟩:=hm.2 0 (.call f l) d rfl rfl;have XK:MR ρ ms ds:=⟨by have:=hm.1; simpa using this,λ i m' d' B D=>hm.2 (i+1) m' d' (by simpa using B) (by simpa using D)⟩
  simp only[eh] at h;obtain⟨⟨Vm,c⟩,B,D⟩:=bE h;clear h;obtain⟨⟨res,H2⟩,V,h4⟩:=bE D;clear D;obtain⟨b1,b2,_,_,b5⟩:=wO B;have gz:∀ x a1,res=.ie x a1->(x=.normal\/x=.ret)->(if a1.bn.isEmpty=true then c9 P H2 a1 Vm.results.toList >>= λ _=>eh P rec ms H2 else .error 980)=(.ok H1:Except Nat AH) ->
    LeavesInM (WF none) n P fn tmps R ({ target:=.fn (.func f) cap,args:=args } :: ds) .returning W:=by
   intro x a1 I3 Y h5;subst I3;split at h5
   case isFalse=>cases h5
   rename_i hem;obtain⟨v,h6,h7⟩:=bE h5;have Vc:(args++cap).toList=args.toList++cap.toList:=by simp
   refine⟨(by intro e; cases e),.inr ⟨λ hd=>(by cases hd),.func f,cap,f,args++cap,rfl,?_,λ aa _=>trivial,?_⟩⟩
   ·simp only[invoke,callFunc,run_program,Sem.run_bind,Result.andThen,b1,b2,b5,Bool.false_eq_true,if_false,Option.isNone_some,Sem.run_pure]
   ·have hw:=EI eI B V G hl (n - 1);have e:(args.toList++cap.toList).toArray=args++cap:=by apply Array.ext'; simp
    rw[e] at hw;refine CallsDIn.mono (callsDIn_of_wp (F:=WF none) (R:=λ e W1=>∃ v' uF,e=.returned v'/\St ρ H W uF H2 W1) b1 b2 trivial (wpIn_mono hw (λ e FM W1 U=>?_)) rfl) (λ e u' W1 U=>?_)
    ·obtain⟨rfl,uF,jD,FN⟩:=U;have Pf:FM.defers=[]:=by
      have:=FN.bn.1;have K8:a1.bn=[]:=by simpa using hem
      rw[K8] at this;exact List.length_eq_zero_iff.1 this.symm
     obtain⟨v',k1,k2⟩:=xG jD.fc FN.tm h6;rcases Y with rfl | rfl
     ·exact⟨Pf,v',k1,v',uF,rfl,jD⟩
     ·exact⟨Pf,v',k1,v',uF,rfl,jD⟩
    ·obtain⟨rfl,v',uF,rfl,jD⟩:=U;exact uv eI ms ds uF H2 H1 W1 h7 jD.fc (XK.mono jD.le) (λ db W2 hs=>hk db W2 (jD.trans hs))
  split at h4
  ·rename_i a1 FO hq;cases hq;exact gz .normal a1 rfl (.inl rfl) h4
  ·rename_i a1 FO hq;cases hq;exact gz .ret a1 rfl (.inr rfl) h4
  ·cases h4
theorem LF {K:Nat->Prop} (h:∃ k,K k):∃ k,K k/\∀ j,K j->k<=j:=by
 obtain⟨k,hk⟩:=h
 induction k using Nat.strongRecOn with
 | _ k ih=>
  by_cases Y:∃ j,j < k/\K j
  ·obtain⟨j,B,D⟩:=Y;exact ih j B D
  ·exact⟨k,hk,λ j X=>by
    rcases Nat.lt_or_ge j k with h' | h'
    ·exact absurd ⟨j,h',X⟩ Y
    ·exact h'⟩
open Classical in
theorem Qd {F:Fence} {n:Nat} {c:Code} {Q:Exit->Act->World->Prop} {K:Nat->Act->World->Prop}
  (h:∀ k a w,K k a w->c.wpIn F n P (Exit.then (λ a' w'=>∃ k',k' < k/\K k' a' w') Q) a w) {k:Nat} {a:Act} {w:World} (hk:K k a w):(Code.loop c).wpIn F n P Q a w:=by
 let μ:Act->World->Nat:=λ a w=>if h:∃ k,K k a w then Classical.choose (LF h) else 0
 have hμ:∀ a w,(∃ k,K k a w)->K (μ a w) a w/\∀ j,K j a w->μ a w<=j:=λ a w Y=>by
  have e:μ a w=Classical.choose (LF Y):=dif_pos Y;rw[e];exact Classical.choose_spec (LF Y)
 refine wpIn_loop (λ a w=>∃ k,K k a w) μ ⟨k,hk⟩ (λ a w Y=>?_);obtain⟨B,_⟩:=hμ a w Y;refine wpIn_mono (h _ a w B) (λ e a' w' hq=>?_);cases e with
 | normal=>
  obtain⟨k',D,V⟩:=hq;exact⟨⟨k',V⟩,Nat.lt_of_le_of_lt ((hμ a' w' ⟨k',V⟩).2 k' V) D⟩
 | exit id=>exact hq
 | goto l=>exact hq
 | ret=>exact hq
 | panic ch=>exact hq
 | outgrown=>exact hq
def zy (P:Program) (r:Option Nat) (c:Code) (a:az) (H:AH) (x:AX) (a':az) (H':AH):Prop:=
 ∀ ρ W ca rc n,fV ρ H W->AR ρ a ca->RR ρ r rc->c.wpIn (WF rc) n P (o9 ρ H W x a' H') ca W
inductive pW (P:Program) (r:Option Nat) (c:Code) (x:AX) (a':az) (H':AH):Nat->az->AH->Prop
 | stop {a:az} {H:AH} : x≠.normal->zy P r c a H x a' H'->pW P r c x a' H' 0 a H
 | jU {a a1:az} {H H1:AH} {k:Nat} : zy P r c a H .normal a1 H1->pW P r c x a' H' k a1 H1->pW P r c x a' H' (k+1) a H
theorem pW.ok {r:Option Nat} {c:Code} {x:AX} {a':az} {H':AH} {k:Nat} {a:az} {H:AH} (h:pW P r c x a' H' k a H):zy P r (.loop c) a H x a' H':=by
 intro ρ W ca rc n G hA hr;refine Qd (K:=λ k FM W1=>∃ a1 H1 uF,pW P r c x a' H' k a1 H1/\St ρ H W uF H1 W1/\AR uF a1 FM) ?_ (k:=k) ⟨a,H,ρ,h,St.refl G,hA⟩;rintro k1 FM W1 ⟨a1,H1,uF,YM,jD,FN⟩;cases YM with
 | stop Y hc=>
  refine wpIn_mono (hc uF W1 FM rc n jD.fc FN (hr.mono jD.le)) (λ e YH W2 U=>?_);obtain⟨rfl,Hw,wc,QK⟩:=U;cases x with
  | normal=>exact absurd rfl Y
  | exit id=>exact⟨rfl,Hw,jD.trans wc,QK⟩
  | goto l=>exact⟨rfl,Hw,jD.trans wc,QK⟩
  | ret=>exact⟨rfl,Hw,jD.trans wc,QK⟩
 | jU hc By=>
  refine wpIn_mono (hc uF W1 FM rc n jD.fc FN (hr.mono jD.le)) (λ e YH W2 U=>?_);obtain⟨rfl,Hw,wc,QK⟩:=U;exact⟨_,Nat.lt_succ_self _,_,_,Hw,By,jD.trans wc,QK⟩
end
end Go.cy
namespace Go.cy
noncomputable section
variable {P:Program}
structure GF (P:Program) (rec:eL):Prop extends rQ P rec where
 TO:∀ r c a H x a' H',rec (.code r (.loop c) a) H=.ok (.ie x a',H')->∃ k,pW P r c x a' H' k a H
theorem BJ {rec:eL} (eI:rQ P rec) {f:FuncId} {args:List Value} {H H':AH} {v:Value} (h:bO P rec (.call f args) H=.ok (.val v,H')) :
  (∃ fn c,P.funcs[f]? = some fn/\fn.body=some c/\(fn.name == "runtime.NumGoroutine")=false) /\
  ∀ ρ W eC n,fV ρ H W->LR ρ args eC->CallsIn (WF none) n P f eC.toArray W (nu ρ H W v H'):=by
 simp only[bO] at h;obtain⟨⟨fn,c⟩,h0,h⟩:=bE h;obtain⟨⟨res,H1⟩,B,D⟩:=bE h;clear h;obtain⟨hfn,hc,_,_,TP⟩:=wO h0;refine⟨⟨fn,c,hfn,hc,TP⟩,λ ρ W eC n G hl=>?_⟩;have gz:∀ x a1,res=.ie x a1->(x=.normal\/x=.ret)->(eh P rec a1.bn H1 >>= λ H2=>c9 P H2 a1 fn.results.toList >>= λ u=>.ok (Ds.val u,H2))=(.ok (.val v,H'):R (Ds×AH)) ->
   CallsIn (WF none) n P f eC.toArray W (nu ρ H W v H'):=by
  intro x a1 I3 Y V;subst I3;obtain⟨H2,h4,h5⟩:=bE V;obtain⟨u,h6,h7⟩:=bE h5;cases h7;refine callsIn_of_wp_marks (F:=WF none) hfn hc trivial ?_ rfl;refine wpIn_mono (EI eI h0 B G hl n) (λ e FM W1 U=>?_);obtain⟨rfl,uF,jD,FN⟩:=U;have Mg:LeavesInM (WF none) n P fn FM.tmps (nu ρ H W v H') FM.defers .returning W1:=by
   refine uv eI a1.bn FM.defers uF H1 H' W1 h4 jD.fc FN.bn (λ Hw W2 wc=>?_);obtain⟨v',k1,k2⟩:=xG wc.fc (FN.tm.mono wc.le) h6;exact⟨v',k1,Hw,v',rfl,jD.trans wc,k2⟩
  rcases Y with rfl | rfl
  ·exact Mg
  ·exact Mg
 split at D
 ·rename_i a1 RP hq;cases hq;exact gz .normal a1 rfl (.inl rfl) D
 ·rename_i a1 RP hq;cases hq;exact gz .ret a1 rfl (.inr rfl) D
 ·cases D
theorem vJ {rec:eL} {f:FuncId} {args:List Value} {H H':AH} {x:AX} {a:az} : bO P rec (.call f args) H≠.ok (.ie x a,H'):=by
 intro h;simp only[bO] at h;obtain⟨⟨fn,c⟩,h0,h⟩:=bE h;obtain⟨⟨res,H1⟩,B,D⟩:=bE h;split at D
 ·obtain⟨H2,h4,h5⟩:=bE D;obtain⟨u,h6,h7⟩:=bE h5;cases h7
 ·obtain⟨H2,h4,h5⟩:=bE D;obtain⟨u,h6,h7⟩:=bE h5;cases h7
 ·cases D
theorem BK {ρ uF:cx} {H H1 H':AH} {W W1:World} {x:AX} {a':az} (fW:St ρ H W uF H1 W1) {e:Exit} {ca:Act} {W':World} (h:o9 uF H1 W1 x a' H' e ca W'):o9 ρ H W x a' H' e ca W':=by
 obtain⟨rfl,Hw,wc,QK⟩:=h;exact⟨rfl,Hw,fW.trans wc,QK⟩
theorem BL {rec:eL} (eI:rQ P rec) {ρ:cx} {H H1 H2 H':AH} {W W1:World} {r:Option Nat} {rc:Option Nat} {n:Nat} {aa:Operand} {a a1:az} {ca:Act} {mark:List Deferred} {x:AX} {a':az}
  {f:FuncId} {first cap:Array Value} {u:Value} {lp:gY} {l bl:Nat} {pl:Pl}
  (hA:AR ρ a ca) (hr:RR ρ r rc) {uF:cx} (jD:St ρ H W uF H1 W1) (kN:uF l=some pl) (RU:pl.cq=bl)
  (Oj:AR uF a1 { ca with defers:=mark++ca.defers }) (hg:a.eval aa=.ok (.func (.func f) first cap))
  (xu:rec (.call f (first.toList++[.func (.yield l) #[] #[]]++cap.toList)) H1=.ok (.val u,H2)) (Uu:H2.get l=some (.loop lp)) (Ep:(lp.state == .busy)=false)
  (yW:(match lp.pending with
   | none=>.ok (.ie .normal a1,H2.set l (.loop { lp with state:=.exhausted }))
   | some c=>rec (.code r c a1) (H2.set l (.loop { lp with state:=.exhausted })))=(.ok (.ie x a',H'):R (Ds×AH))) :
  ∃ (d:Deferred) (f':FuncId) (args:Array Value),
   (resolve ca.eval (rangeCall aa bl) 0).run P W1=.ok d W1 /\
   (invoke d.target d.args).run P W1=.ok (.enter f' args) W1 /\
   CallsIn (WF rc) (n - 1) P f' args W1 (rangePost (WF rc) n P bl (o9 ρ H W x a' H') { ca with defers:=mark++ca.defers }):=by
 have hv:=hA.eval aa _ hg;obtain⟨⟨fn,c,f1,f2,f3⟩,hc⟩:=eI.call _ _ _ _ _ xu;obtain⟨fv,Kh⟩:∃ fv,ca.eval aa=fv:=⟨_,rfl⟩
 rw[Kh] at hv;cases hv with
 | func e1 e2 e3 e4=>
  rename_i iE rp
  refine⟨{ target:=.fn (.func f) rp,args:=iE++#[.func (.yield bl) #[] #[]] },f,(iE.toList++[Value.func (.yield bl) #[] #[]]++rp.toList).toArray,?_,?_,?_⟩
  ·simp only[resolve,rangeCall,Kh,Deferred.ofValue,Sem.run_bind,Sem.run_pure,Result.andThen];simp;rfl
  ·have e:iE++#[Value.func (.yield bl) #[] #[]]++rp=(iE.toList++[Value.func (.yield bl) #[] #[]]++rp.toList).toArray:=by
    apply Array.ext'; simp
   simp only[invoke,callFunc,run_program,Sem.run_bind,Result.andThen,f1,f2,f3,Bool.false_eq_true,if_false,Option.isNone_some,e,Sem.run_pure]
  ·have hl:LR uF (first.toList++[Value.func (.yield l) #[] #[]]++cap.toList) (iE.toList++[Value.func (.yield bl) #[] #[]]++rp.toList):=by
    refine LR.append (LR.append (LR.mono jD.le ⟨e1,e2⟩) ?_) (LR.mono jD.le ⟨e3,e4⟩);subst RU;exact LR.cons (.yield kN) (LR.nil _)
   have:=hc uF W1 _ (n - 1) jD.fc hl;refine CallsIn.mono (F:=WF rc) this (λ e W2 U=>?_);obtain⟨Hw,v',rfl,wc,AN⟩:=U;have AD:=wc.le _ _ kN;obtain⟨Vn,En,Vo,q1,q2,q3⟩:=vi wc.fc Uu AD;rw[RU] at q1;have QP:=St.CX (r':={ lp with state:=.exhausted }) wc.fc Uu AD (fn:=Vn) (tmps:=En) (pm:=Vo) q2 q3;rw[RU] at QP;have fp:(Instr.endLoop bl).run P W2=.ok lp.pending { W2 with heap:=W2.heap.setIfInBounds bl (.loop { state:=.exhausted,pending:=lp.pending,fn:=Vn,tmps:=En,params:=lp.params.toArray,assign:=lp.assign,body:=lp.body,defers:=Vo.cq }) }:=by
    unfold Instr.endLoop;simp only[Sem.run_bind,kz q1,Result.andThen,Ep,Bool.false_eq_true,if_false,iJ q1 (by intro c t f e; cases e),Sem.run_pure]
   dsimp only at QP;generalize ({ W2 with heap:=W2.heap.setIfInBounds bl (.loop { state:=.exhausted,pending:=lp.pending,fn:=Vn,tmps:=En,params:=lp.params.toArray,assign:=lp.assign,body:=lp.body,defers:=Vo.cq }) } : World)=W3 at fp QP;refine⟨lp.pending,W3,fp,?_⟩;have S6:=(jD.trans wc).trans QP;have Vj:=(Oj.mono wc.le).mono QP.le;have hr3:=((hr.mono jD.le).mono wc.le).mono QP.le;have NV:=QP.fc;clear QP wc jD Oj hr fp hc q1 q2 q3 hl AN;generalize H2.set l (.loop { lp with state:=.exhausted })=H3 at yW S6 NV;generalize lp.pending=pe at yW;cases pe with
   | none=>
    simp only at yW;cases yW;exact⟨rfl,Hw,S6,Vj⟩
   | some c0=>
    simp only at yW;exact wpIn_mono (eI.code r c0 a1 _ x a' H' yW Hw W3 _ rc n NV Vj hr3) (λ e YH W3 U=>BK S6 U)
theorem sY {rec:eL} (eI:GF P rec) {r:Option Nat} {c:Code} {a:az} {H:AH} {x:AX} {a':az} {H':AH} (h:bO P rec (.code r c a) H=.ok (.ie x a',H')):zy P r c a H x a' H' /\
  ∀ c',c=.loop c'->∃ k,pW P r c' x a' H' k a H:=by
 cases c with
 | skip=>
  simp only[bO] at h; cases h;exact⟨λ ρ W ca rc n G hA hr=>wpIn_skip ⟨rfl,ρ,St.refl G,hA⟩,λ c' e=>by cases e⟩
 | label l=>
  simp only[bO] at h; cases h;exact⟨λ ρ W ca rc n G hA hr=>wpIn_label ⟨rfl,ρ,St.refl G,hA⟩,λ c' e=>by cases e⟩
 | ret=>
  simp only[bO] at h; cases h;exact⟨λ ρ W ca rc n G hA hr=>wpIn_ret ⟨rfl,ρ,St.refl G,hA⟩,λ c' e=>by cases e⟩
 | exit id=>
  simp only[bO] at h; cases h;exact⟨λ ρ W ca rc n G hA hr=>wpIn_exit ⟨rfl,ρ,St.refl G,hA⟩,λ c' e=>by cases e⟩
 | goto l=>
  simp only[bO] at h; cases h;exact⟨λ ρ W ca rc n G hA hr=>wpIn_goto ⟨rfl,ρ,St.refl G,hA⟩,λ c' e=>by cases e⟩
 | seq c1 c2=>
  refine⟨λ ρ W ca rc n G hA hr=>?_,λ c' e=>by cases e⟩;simp only[bO] at h;obtain⟨⟨res,H1⟩,B,D⟩:=bE h;cases res with
  | val v=>exact absurd B (eI.lA _ _ _ _ _ _)
  | ie x1 a1=>
   refine wpIn_seq (wpIn_mono (eI.code r c1 a H x1 a1 H1 B ρ W ca rc n G hA hr) (λ e FM W1 U=>?_));cases x1 with
   | normal=>
    simp only at D;obtain⟨rfl,uF,jD,FN⟩:=U;exact wpIn_mono (eI.code r c2 a1 H1 x a' H' D uF W1 FM rc n jD.fc FN (hr.mono jD.le)) (λ e YH W2 U=>BK jD U)
   | exit id=>simp only at D; cases D; have:=U.1; subst this; exact U
   | goto l=>simp only at D; cases D; have:=U.1; subst this; exact U
   | ret=>simp only at D; cases D; have:=U.1; subst this; exact U
 | cond o c1 c2=>
  refine⟨λ ρ W ca rc n G hA hr=>?_,λ c' e=>by cases e⟩;simp only[bO] at h;obtain⟨v,B,D⟩:=bE h;have hv:=hA.eval o _ B;split at D
  ·rename_i b;refine wpIn_cond hv.bA ?_;have:=eI.code r _ a H x a' H' D ρ W ca rc n G hA hr;cases b <;> exact this
  ·cases D
 | block id c1=>
  refine⟨λ ρ W ca rc n G hA hr=>?_,λ c' e=>by cases e⟩;simp only[bO] at h;obtain⟨⟨res,H1⟩,B,D⟩:=bE h;cases res with
  | val v=>exact absurd B (eI.lA _ _ _ _ _ _)
  | ie x1 a1=>
   refine wpIn_block (wpIn_mono (eI.code r c1 a H x1 a1 H1 B ρ W ca rc n G hA hr) (λ e FM W1 U=>?_));cases x1 with
   | exit j=>
    simp only at D;cases D;obtain⟨rfl,uF,jD,FN⟩:=U;by_cases e:j=id
    ·subst e;simp only[Em,Exit.inBlock,if_true];exact⟨by simp[Em],uF,jD,FN⟩
    ·simp only[Em,Exit.inBlock,if_neg e];exact⟨by simp[Em],uF,jD,FN⟩
   | normal=>simp only at D; cases D; have:=U.1; subst this; exact U
   | goto l=>simp only at D; cases D; have:=U.1; subst this; exact U
   | ret=>simp only at D; cases D; have:=U.1; subst this; exact U
 | loop c1=>
  simp only[bO] at h;obtain⟨⟨res,H1⟩,B,D⟩:=bE h;have key:∃ k,pW P r c1 x a' H' k a H:=by
   cases res with
   | val v=>exact absurd B (eI.lA _ _ _ _ _ _)
   | ie x1 a1=>
    have DJ:zy P r c1 a H x1 a1 H1:=eI.code r c1 a H x1 a1 H1 B;cases x1 with
    | normal=>
     simp only at D;obtain⟨k,hk⟩:=eI.TO r c1 a1 H1 x a' H' D;exact⟨k+1,.jU DJ hk⟩
    | exit id=>simp only at D; cases D; exact⟨0,.stop (by intro e; cases e) DJ⟩
    | goto l=>simp only at D; cases D; exact⟨0,.stop (by intro e; cases e) DJ⟩
    | ret=>simp only at D; cases D; exact⟨0,.stop (by intro e; cases e) DJ⟩
  exact⟨let ⟨k,hk⟩:=key; hk.ok,λ c' e=>by cases e; exact key⟩
 | region id ops pK=>
  refine⟨λ ρ W ca rc n G hA hr=>?_,λ c' e=>by cases e⟩;cases pK with
  | false=>
   simp only[bO] at h;obtain⟨⟨a1,H1⟩,B,D⟩:=bE h;cases D;refine wpIn_region (yx eI.torQ r rc (λ e=>by subst e; cases rc with | none=>rfl | some b=>exact hr.elim) n ops.toList (List.range ops.size) a _ ca ρ H _ W B (by simp) (λ k i o hk ho=>?_) G hA (λ db Fu W' st ar=>⟨rfl,db,st,ar⟩));have cG:k < ops.size:=by
    have:=ax ho;simpa using this
   rw[List.getElem?_range cG] at hk;cases hk;simpa using ho
  | true=>
   simp only[bO] at h;split at h
   ·cases h
   rename_i hm;obtain⟨⟨a1,H1⟩,B,D⟩:=bE h;cases D;have hs:=St.drawn (W':={ W with drawn:=W.drawn+1 }) G rfl rfl rfl rfl;exact wpIn_region_any (by simpa using hm) (Nl eI.torQ B hs.fc hA rc n (λ db Fu W' st ar=>⟨rfl,db,hs.trans st,ar⟩))
 | rangeFunc aa params assign body=>
  refine⟨λ ρ W ca rc n G hA hr=>?_,λ c' e=>by cases e⟩;simp only[bO] at h;cases r with
  | some l0=>
   cases rc with
   | none=>exact hr.elim
   | some b=>
    obtain⟨Z6,W9,mG⟩:=hr;simp only at h;obtain⟨⟨mk,a1,H0⟩,B,D⟩:=bE h;clear h;split at B
    ·rename_i r0 KD;cases B;simp only at D;obtain⟨⟨l,H1⟩,V,h4⟩:=bE D;clear D;simp only at h4;obtain⟨gv,h5,h6⟩:=bE h4;clear h4;split at h6
     ·rename_i f first cap
      obtain⟨⟨res,H2⟩,h7,h8⟩:=bE h6;clear h6;cases res with
      | ie x1 a1=>exact absurd h7 (eI.yw _ _ _ _ _ _)
      | val u=>
       simp only at h8;split at h8
       ·rename_i lp Uu;split at h8
        ·cases h8
        rename_i Ep;refine wpIn_rangeFunc (λ fn _=>?_);obtain⟨fn0,af1,pm0,w1,w2,w3⟩:=vi G KD W9;rw[mG] at w1;have S7:(Instr.enterLoop fn ca.tmps params assign body (some b)).run P W=.ok (W.heap.size,[]) { W with heap:=W.heap.push (.loop { state:=.ready,pending:=none,fn:=fn,tmps:=ca.tmps,params:=params,assign:=assign,body:=body,defers:=pm0.cq }) }:=by
         unfold Instr.enterLoop;simp only[Sem.run_bind,kz w1,Result.andThen,Sem.run_pure,run_newObj]
        have cI:=(AH.pV V).1;subst cI;have jD:=St.new (pl:=⟨W.heap.size,0,0,0⟩) (W':={ W with heap:=W.heap.push (.loop { state:=.ready,pending:=none,fn:=fn,tmps:=ca.tmps,params:=params,assign:=assign,body:=body,defers:=pm0.cq }) }) G V _ rfl rfl rfl rfl rfl
         ⟨fn,ca.tmps,pm0,by simp,hA.tm.mono (cx.mD G _),cx.mD G _ _ _ w3⟩
        obtain⟨d,f',args,k1,k2,k3⟩:=BL (n:=n) (mark:=[]) (pl:=⟨W.heap.size,0,0,0⟩) eI.torQ hA (show RR ρ (some l0) (some b) from⟨Z6,W9,mG⟩) jD (by simp[cx.with]) rfl (hA.mono jD.le) h5 h7 Uu (by simpa using Ep) h8;exact⟨W.heap.size,[],_,d,_,f',args,_,S7,k1,λ f' _=>trivial,k2,(λ hd=>by cases hd),k3⟩
       ·cases h8
     ·cases h6
    ·cases B
  | none=>
   cases rc with
   | some b=>exact hr.elim
   | none=>
    simp only at h;obtain⟨⟨mk,a1,H0⟩,B,D⟩:=bE h;clear h;obtain⟨⟨m,H0'⟩,h1a,h1b⟩:=bE B;clear B;cases h1b;simp only at D;obtain⟨⟨l,H1⟩,V,h4⟩:=bE D;clear D;simp only at h4;obtain⟨gv,h5,h6⟩:=bE h4;clear h4;split at h6
    ·rename_i f first cap
     obtain⟨⟨res,H2⟩,h7,h8⟩:=bE h6;clear h6;cases res with
     | ie x1 a1=>exact absurd h7 (eI.yw _ _ _ _ _ _)
     | val u=>
      simp only at h8;split at h8
      ·rename_i lp Uu;split at h8
       ·cases h8
       rename_i Ep;refine wpIn_rangeFunc (λ fn _=>?_);have QJ:=St.new (pl:=⟨W.heap.size,0,0,0⟩) (W':={ W with heap:=W.heap.push (.deferred (some [])) }) G h1a _ rfl rfl rfl rfl rfl (by show(W.heap.push _)[W.heap.size]? = _; simp);have ajN:=(AH.pV h1a).1;have S7:(Instr.enterLoop fn ca.tmps params assign body none).run P W=.ok (W.heap.size+1,[{ target:=.collected W.heap.size,args:=#[] }])
         { W with heap:=(W.heap.push (.deferred (some []))).push (.loop { state:=.ready,pending:=none,fn:=fn,tmps:=ca.tmps,params:=params,assign:=assign,body:=body,defers:=W.heap.size }) }:=by
        unfold Instr.enterLoop;simp only[Sem.run_bind,run_newObj,Result.andThen,Sem.run_pure,Array.size_push]
       have B6:(ρ.with m ⟨W.heap.size,0,0,0⟩) m=some ⟨W.heap.size,0,0,0⟩:=by simp[cx.with]
       have RW:=hA.mono QJ.le;have cI:=(AH.pV V).1;subst cI;have jD:=St.new (pl:=⟨W.heap.size+1,0,0,0⟩) (W':={ W with heap:=(W.heap.push (.deferred (some []))).push (.loop { state:=.ready,pending:=none,fn:=fn,tmps:=ca.tmps,params:=params,assign:=assign,body:=body,defers:=W.heap.size }) }) QJ.fc V _ rfl rfl rfl rfl (by simp)
        ⟨fn,ca.tmps,⟨W.heap.size,0,0,0⟩,by rw[Array.getElem?_push]; simp,RW.tm.mono (cx.mD QJ.fc _),cx.mD QJ.fc _ _ _ B6⟩
       have hA1:=RW.mono jD.le;obtain⟨d,f',args,k1,k2,k3⟩:=BL (n:=n) (mark:=[{ target:=.collected W.heap.size,args:=#[] }]) (pl:=⟨W.heap.size+1,0,0,0⟩) eI.torQ hA hr (QJ.trans jD) (by simp[cx.with]) rfl
        (a1:={ a with bn:=.mark m :: a.bn }) ⟨hA1.tm,hA1.bn.cons ⟨_,jD.le _ _ B6,rfl⟩⟩ h5 h7 Uu (by simpa using Ep) h8
       exact⟨W.heap.size+1,[{ target:=.collected W.heap.size,args:=#[] }],_,d,_,f',args,_,S7,k1,λ f' _=>trivial,k2,(λ hd=>by cases hd),k3⟩
      ·cases h8
    ·cases h6
 | _=>simp only[bO] at h; cases h
theorem vK {rec:eL} (eI:rQ P rec) {r:Option Nat} {c:Code} {a:az} {H:AH} {v:Value} {H':AH} : bO P rec (.code r c a) H≠.ok (.val v,H'):=by
 intro h;cases c with
 | skip=>simp only[bO] at h; cases h
 | label l=>simp only[bO] at h; cases h
 | ret=>simp only[bO] at h; cases h
 | exit id=>simp only[bO] at h; cases h
 | goto l=>simp only[bO] at h; cases h
 | seq c1 c2=>
  simp only[bO] at h;obtain⟨⟨res,H1⟩,B,D⟩:=bE h;cases res with
  | val v=>exact eI.lA _ _ _ _ _ _ B
  | ie x1 a1=>
   cases x1 with
   | normal=>exact eI.lA _ _ _ _ _ _ D
   | exit id=>cases D
   | goto l=>cases D
   | ret=>cases D
 | cond o c1 c2=>
  simp only[bO] at h;obtain⟨v,B,D⟩:=bE h;split at D
  ·exact eI.lA _ _ _ _ _ _ D
  ·cases D
 | block id c1=>
  simp only[bO] at h;obtain⟨⟨res,H1⟩,B,D⟩:=bE h;cases res with
  | val v=>exact eI.lA _ _ _ _ _ _ B
  | ie x1 a1=>cases x1 <;> cases D
 | loop c1=>
  simp only[bO] at h;obtain⟨⟨res,H1⟩,B,D⟩:=bE h;cases res with
  | val v=>exact eI.lA _ _ _ _ _ _ B
  | ie x1 a1=>
   cases x1 with
   | normal=>exact eI.lA _ _ _ _ _ _ D
   | exit id=>cases D
   | goto l=>cases D
   | ret=>cases D
 | region id ops pK=>
  cases pK with
  | false=>
   simp only[bO] at h;obtain⟨⟨a1,H1⟩,B,D⟩:=bE h;cases D
  | true=>
   simp only[bO] at h;split at h
   ·cases h
   obtain⟨⟨a1,H1⟩,B,D⟩:=bE h;cases D
 | rangeFunc aa params assign body=>
  simp only[bO] at h;obtain⟨⟨mk,a1,H0⟩,B,D⟩:=bE h;simp only at D;obtain⟨⟨l,H1⟩,V,h4⟩:=bE D;simp only at h4;obtain⟨gv,h5,h6⟩:=bE h4;split at h6
  ·obtain⟨⟨res,H2⟩,h7,h8⟩:=bE h6;cases res with
   | ie x1 a1=>cases h8
   | val u=>
    simp only at h8;split at h8
    ·split at h8
     ·cases h8
     ·split at h8
      ·cases h8
      ·exact eI.lA _ _ _ _ _ _ h8
    ·cases h8
  ·cases h6
 | _=>simp only[bO] at h; cases h
theorem Ic:∀ n,GF P (A5 P n)
 | 0=>⟨⟨λ f args H v H' h=>(by simp only[A5] at h; cases h),λ r c a H x a' H' h=>(by simp only[A5] at h; cases h),λ f args H x a H' h=>(by simp only[A5] at h; cases h),λ r c a H v H' h=>(by simp only[A5] at h; cases h)⟩,
   λ r c a H x a' H' h=>(by simp only[A5] at h; cases h)⟩
 | n+1=>
  have ih:=Ic n
  ⟨⟨λ _ _ _ _ _ h=>BJ ih.torQ h,λ _ _ _ _ _ _ _ h=>(sY ih h).1,λ _ _ _ _ _ _ h=>vJ h,λ _ _ _ _ _ _ h=>vK ih.torQ h⟩,
   λ _ _ _ _ _ _ _ h=>(sY ih h).2 _ rfl⟩
theorem fV.empty (W:World):fV (λ _=>none) AH.empty W:=
 ⟨λ id pl h=>(by cases h),(by decide),λ id o h=>(by cases h),λ i j oi oj pi pj h=>(by cases h)⟩
end
end Go.cy
namespace Go.cy
noncomputable section
open Go.WideShapes Go.ChangeShapes
def yc (W W':World):Prop:=(∀ r,r < W.heap.size->W'.heap[r]? = W.heap[r]?)/\W.heap.size<=W'.heap.size/\W'.os=W.os/\W'.output=W.output
theorem yc.bC {W W':World} (h:yc W W') (may:MemPlace->Prop):W.keptBut W' may:=by
 refine⟨h.2.2.1,h.2.2.2,λ i N=>?_⟩;have:=(World.keptBut_refl W may).2.2 i N;rw[h.1 i N];exact this
theorem yc.frozen {W W':World} (h:yc W W') (a:Addr) (ha:a.block < W.heap.size):W'.frozen? a=W.frozen? a:=by
 unfold World.frozen?;rw[h.1 _ ha]
theorem Dq {H:Type} {enc:TypeId×Value->H} {P:Program} {f:Func} {s:ChangeSpec} {u9 zj handsOn again:Bool} {W W':World} {args:Array Value} {v:Value} {ds gs:List (DataW H)} {before pa pv:List MemPlace}
  (hW:DataW.Whole enc P f.params.toList s.vars u9 W args.toList ds gs before)
  (I3:∀ (b:Nat) (sp:Nat->Bool) (hd:Bool),DataW.TrodAll enc P W' b sp hd f.resultTypes.toList (v.resultList f.resultTypes.size) (s.fn H (ds++gs)).results [])
  (nQ:∀ sp:Nat->Bool,(∀ p∈before,sp p.block=true)->DataW.TrodAll enc P W' 0 sp true f.params.toList args.toList (s.fn H (ds++gs)).args pa)
  (Rl:∀ sp:Nat->Bool,(∀ p∈before,sp p.block=true)->DataW.TrodVars enc P W' sp s.vars (s.fn H (ds++gs)).vars pv)
  (mo:before=pa++pv) (hk:yc W W')
  (DJ:∀ (j:Nat) (t:TypeId) (r:Value),f.resultTypes[j]? = some t->(v.resultList f.resultTypes.size)[j]? = some r->Value.okWide P W' .any 0 t r) :
  s.post enc P f u9 zj handsOn again W args v W':=by
 have hold:∀ p∈before,(λ b=>decide (b < W.heap.size)) p.block=true:=λ p U=>by simpa using hW.lt p U
 refine⟨ds,gs,before,[],pa,pv,hW,I3 _ _ _,nQ _ hold,Rl _ hold,World.keptBut_mono (λ p U=>⟨U,?_⟩) (hk.bC (· ∈ before)),λ _=>?_⟩
 ·rw[mo,List.mem_append] at U;exact Or.inr U
 ·have cG:=λ p U=>hW.lt p U;obtain⟨_,_,_,_,_,hz,hn⟩:=hW;refine⟨DJ,_,_,([]++pa)++pv,⟨[]++pa,pv,trodAll_append (nQ _ (λ _ _=>rfl)) (I3 _ _ _),Rl _ (λ _ _=>rfl),rfl,?_,?_⟩,?_⟩
  ·intro b off U;have hb:MemPlace.cell b off∈before:=by rw[mo]; simpa using U
   rw[hk.frozen _ (cG _ hb)];exact hz b off hb
  ·intro ha;have:=hn ha;rw[mo] at this;simpa using this
  ·intro p U _;rw[mo];simpa using U
end
end Go.cy
namespace Go.cy
noncomputable section
variable {P:Program}
def KG (rec me:eL):Prop:=∀ q H x,rec q H=.ok x->me q H=.ok x
theorem dQ {α β:Type} {x x':R α} {f f':α->R β} {y:β} (h:(x >>= f)=.ok y) (B:∀ a,x=.ok a->x'=.ok a) (D:∀ a,f a=.ok y->f' a=.ok y):(x' >>= f')=.ok y:=by
 obtain⟨a,e1,e2⟩:=bE h;rw[B a e1];exact D a e2
theorem pf {rec me:eL} (hr:KG rec me) {a:az} {H:AH} {o:Oper} {x:Value×AH} (h:b9 P rec a H o=.ok x):b9 P me a H o=.ok x:=by
 obtain⟨d,op,ty,ps,af,gu⟩:=o;cases op <;> first | exact h | skip
 case makeFunc fn first cap=>cases fn <;> exact h
 case makeMap t x=>cases x <;> exact h
 rename_i c;obtain⟨IF,args,xf⟩:=c;cases IF with
 | builtin b=>cases b <;> exact h
 | invoke IC name=>
  simp only[b9] at h ⊢;refine dQ h (λ _ e=>e) (λ vs h=>dQ h (λ _ e=>e) (λ v h=>?_));split at h
  ·refine dQ h (λ _ e=>e) (λ f h=>dQ h (λ a e=>hr _ _ _ e) (λ r h=>h))
  ·cases h
 | value f=>
  simp only[b9] at h ⊢;refine dQ h (λ _ e=>e) (λ vs h=>dQ h (λ _ e=>e) (λ v h=>?_));split at h
  ·exact dQ h (λ a e=>hr _ _ _ e) (λ r h=>h)
  ·split at h
   ·split at h
    ·cases h
    ·rename_i hlen;rw[if_neg hlen];split at h
     ·refine dQ h (λ _ e=>e) (λ act h=>dQ h (λ a e=>hr _ _ _ e) (λ r h=>?_));split at h
      ·split at h
       ·split at h
        ·cases h
        ·rename_i fW;rw[if_neg fW];exact dQ h (λ a e=>hr _ _ _ e) (λ r h=>h)
       ·cases h
      ·cases h
     ·cases h
   ·cases h
  ·cases h
theorem pz {rec me:eL} (hr:KG rec me) {rnd:Option Nat} {all:List Oper} : ∀ (os:List Oper) (a:az) (H:AH) (x:az×AH),eW P rec rnd all os a H=.ok x->eW P me rnd all os a H=.ok x
 | [],_,_,_,h=>h
 | o :: os,a,H,x,h=>by
  simp only[eW] at h ⊢;refine dQ h (λ _ e=>e) (λ b h=>?_);cases b with
  | true=>
   simp only[if_true] at h ⊢;cases hd:dR o.op with
   | some c=>
    simp only[hd] at h ⊢;split at h
    ·cases h
    ·rename_i hb;rw[if_neg hb];exact dQ h (λ _ e=>e) (λ d h=>dQ h (λ _ e=>e) (λ a1 h=>pz hr os _ _ _ h))
   | none=>
    simp only[hd] at h ⊢;exact dQ h (λ r e=>pf hr e) (λ r h=>dQ h (λ _ e=>e) (λ a1 h=>pz hr os _ _ _ h))
  | false=>
   simp only[Bool.false_eq_true,if_false] at h ⊢;exact dQ h (λ _ e=>e) (λ a1 h=>pz hr os _ _ _ h)
theorem EJ {rec me:eL} (hr:KG rec me) {os:List Oper} {a:az} {H:AH} {o:Oper} {x:Value×AH} (h:tp P rec os a H o=.ok x):tp P me os a H o=.ok x:=by
 unfold tp at h ⊢;refine dQ h (λ _ e=>e) (λ b h=>?_);cases b with
 | true=>exact pf hr h
 | false=>exact h
theorem tI {rec me:eL} (hr:KG rec me) {os:List Oper} {pn:List c5} {a:az} {o:Oper} {v:Value} {c:Nat} : ∀ l:List (Nat×PM),dw P rec os pn a o v c l=true->dw P me os pn a o v c l=true
 | [],h=>h
 | (j,H) :: l,h=>by
  simp only[dw] at h ⊢;split at h
  ·rename_i hb; rw[if_pos hb]
  ·rename_i hb;rw[if_neg hb];rw[Bool.and_eq_true] at h ⊢;refine⟨?_,tI hr l h.2⟩;have B:=h.1;split at B
   ·rename_i u H1 hd;rw[EJ hr hd];exact B
   ·cases B
theorem Ha {rec me:eL} (hr:KG rec me) {os:List Oper} {cl:List Nat} {s s':DS} {j:Nat} (h:eY P rec os cl s j=.ok s'):eY P me os cl s j=.ok s':=by
 unfold eY at h ⊢;split at h
 ·cases h
 ·split at h
  ·cases h
  rename_i B;rw[if_neg B];split at h
  ·cases h
  rename_i D;rw[if_neg D];split at h
  ·exact h
  ·cases h
  refine dQ h (λ r e=>EJ hr e) (λ r h=>dQ h (λ _ e=>e) (λ a1 h=>?_));split at h
  ·rename_i U;rw[if_pos U];exact h
  ·rename_i U;rw[if_neg U];split at h
   ·rename_i hq;rw[if_pos hq];split at h
    ·rename_i hs;rw[if_pos (tI hr _ hs)];exact h
    ·cases h
   ·rename_i hq;rw[if_neg hq];exact h
theorem xH {α β:Type} {f aa:α->β->R α} (hfg:∀ a b c,f a b=.ok c->aa a b=.ok c):∀ (l:List β) (s s':α),l.foldlM f s=.ok s'->l.foldlM aa s=.ok s'
 | [],_,_,h=>h
 | x :: l,s,s',h=>by
  simp only[List.foldlM_cons] at h ⊢;exact dQ h (λ a e=>hfg _ _ _ e) (λ a h=>xH hfg l a s' h)
theorem Hb {rec me:eL} (hr:KG rec me) {os:List Oper} {a:az} {H:AH} {x:az×AH} (h:rP P rec os a H=.ok x):rP P me os a H=.ok x:=by
 unfold rP at h ⊢;simp only at h ⊢;split at h
 ·rename_i ht;rw[if_pos ht];exact dQ h (λ s e=>xH (λ _ _ _ e=>Ha hr e) _ _ _ e) (λ s h=>h)
 ·cases h
theorem lY {rec me:eL} (hr:KG rec me):∀ (ms:List rF) (H H1:AH),eh P rec ms H=.ok H1->eh P me ms H=.ok H1
 | [],_,_,h=>h
 | .mark m :: ms,H,H1,h=>by
  simp only[eh] at h ⊢;split at h
  ·exact lY hr ms _ _ h
  ·cases h
 | .call f args :: ms,H,H1,h=>by
  simp only[eh] at h ⊢;refine dQ h (λ _ e=>e) (λ b h=>dQ h (λ r e=>hr _ _ _ e) (λ r h=>?_));split at h
  ·split at h
   ·rename_i hm;rw[if_pos hm];exact dQ h (λ _ e=>e) (λ _ h=>lY hr ms _ _ h)
   ·cases h
  ·split at h
   ·rename_i hm;rw[if_pos hm];exact dQ h (λ _ e=>e) (λ _ h=>lY hr ms _ _ h)
   ·cases h
  ·cases h
theorem Af {rec me:eL} (hr:KG rec me):KG (bO P rec) (bO P me):=by
 intro q H x h;cases q with
 | call f args=>
  simp only[bO] at h ⊢;refine dQ h (λ _ e=>e) (λ b h=>dQ h (λ r e=>hr _ _ _ e) (λ r h=>?_));split at h
  ·exact dQ h (λ H e=>lY hr _ _ _ e) (λ _ h=>h)
  ·exact dQ h (λ H e=>lY hr _ _ _ e) (λ _ h=>h)
  ·cases h
 | code rnd c a=>
  cases c with
  | skip=>exact h
  | label l=>exact h
  | ret=>exact h
  | exit id=>exact h
  | goto l=>exact h
  | seq c1 c2=>
   simp only[bO] at h ⊢;refine dQ h (λ r e=>hr _ _ _ e) (λ r h=>?_);obtain⟨res,H1⟩:=r;cases res with
   | val v=>exact h
   | ie x1 a1=>
    cases x1 with
    | normal=>exact hr _ _ _ h
    | exit id=>exact h
    | goto l=>exact h
    | ret=>exact h
  | cond o c1 c2=>
   simp only[bO] at h ⊢;refine dQ h (λ _ e=>e) (λ v h=>?_);split at h
   ·exact hr _ _ _ h
   ·cases h
  | block id c1=>
   simp only[bO] at h ⊢;exact dQ h (λ r e=>hr _ _ _ e) (λ r h=>h)
  | loop c1=>
   simp only[bO] at h ⊢;refine dQ h (λ r e=>hr _ _ _ e) (λ r h=>?_);obtain⟨res,H1⟩:=r;cases res with
   | val v=>exact h
   | ie x1 a1=>
    cases x1 with
    | normal=>exact hr _ _ _ h
    | exit id=>exact h
    | goto l=>exact h
    | ret=>exact h
  | region id ops pK=>
   cases pK with
   | false=>
    simp only[bO] at h ⊢;exact dQ h (λ r e=>pz hr _ _ _ _ e) (λ r h=>h)
   | true=>
    simp only[bO] at h ⊢;split at h
    ·cases h
    rename_i hf;rw[if_neg hf];exact dQ h (λ r e=>Hb hr e) (λ r h=>h)
  | rangeFunc aa params assign body=>
   simp only[bO] at h ⊢;refine dQ h (λ _ e=>e) (λ m h=>dQ h (λ _ e=>e) (λ l h=>dQ h (λ _ e=>e) (λ gv h=>?_)));split at h
   ·refine dQ h (λ r e=>hr _ _ _ e) (λ r h=>?_);split at h
    ·split at h
     ·split at h
      ·cases h
      ·rename_i hb;rw[if_neg hb];split at h
       ·exact h
       ·exact hr _ _ _ h
     ·cases h
    ·cases h
   ·cases h
  | _=>simp only[bO] at h; cases h
end
end Go.cy
namespace Go.cy
noncomputable section
variable {P:Program}
def wA:Nat->List (Row×Pl)->AH->AH
 | _,[],H=>H
 | k,(r,_) :: l,H=>wA (k+1) l ⟨T.put (Nat.succ k) H.A4 k (.row r),k+1⟩
def g9 (l:List (Row×Pl)):cx:=λ i=>(l[i]?).map (·.2)
theorem Ag:∀ (l:List (Row×Pl)) (k:Nat) (H:AH),∀ j,(wA k l H).get j=if k<=j/\j < k+l.length then(l[j - k]?).map (λ x=>AO.row x.1) else H.get j
 | [],k,H,j=>by rw[if_neg (by simp)]; rfl
 | (r,pl) :: l,k,H,j=>by
  rw[wA,Ag l (k+1) _ j];have U:(⟨T.put (Nat.succ k) H.A4 k (.row r),k+1⟩:AH).get j=if j=k then some (.row r) else H.get j:=T.o8 _ _ _ _
  simp only[List.length_cons];by_cases B:k+1<=j/\j < k+1+l.length
  ·rw[if_pos B,if_pos (by omega)];obtain⟨d,rfl⟩:∃ d,j=k+1+d:=⟨j - (k+1),by omega⟩
   rw[show k+1+d - (k+1)=d by omega,show k+1+d - k=d+1 by omega];simp
  ·rw[if_neg B,U];by_cases e:j=k
   ·subst e;rw[if_pos rfl,if_pos (by omega)];simp
   ·rw[if_neg e,if_neg (by omega)]
theorem om:∀ (l:List (Row×Pl)) (k:Nat) (H:AH),H.next=k->(wA k l H).next=k+l.length
 | [],k,H,h=>h
 | (r,pl) :: l,k,H,h=>by
  rw[wA,om l (k+1) _ rfl];simp only[List.length_cons];omega
structure Cg (ρ:cx) (W:World) (r:Row) (pl:Pl):Prop where
 ro:r.ro=true
 aU:r.aU=0
 bJ:r.bJ=pl.base
 cW:r.cW=false
 lt:pl.cq < W.heap.size
 or:OR ρ W pl (.row r)
def cZ (l:List (Row×Pl)):AH:=wA 0 l AH.empty
theorem iK {l:List (Row×Pl)} (j:Nat):(cZ l).get j=(l[j]?).map (λ x=>AO.row x.1):=by
 unfold cZ;rw[Ag l 0 _ j];by_cases B:j < l.length
 ·rw[if_pos (by omega)]; simp
 ·rw[if_neg (by omega),List.getElem?_eq_none (by omega)]; rfl
theorem JU {W:World} {l:List (Row×Pl)} (h:∀ x∈l,Cg (g9 l) W x.1 x.2):fV (g9 l) (cZ l) W:=by
 have ea:(cZ l).next=l.length:=by unfold cZ; rw[om l 0 _ rfl]; omega
 have get:∀ j o,(cZ l).get j=some o->∃ x∈l,l[j]? = some x/\o=.row x.1/\g9 l j=some x.2:=λ j o X=>by
  rw[iK] at X;cases Y:l[j]? with
  | none=>rw[Y] at X; cases X
  | some x=>
   rw[Y] at X;cases X;exact⟨x,List.mem_of_getElem? Y,rfl,rfl,by unfold g9; rw[Y]; rfl⟩
 refine⟨λ id pl U=>?_,trivial,λ id o ho=>?_,λ i j oi oj pi pj N X _ uL fe hb=>?_⟩
 ·rw[ea];unfold g9 at U;rcases Nat.lt_or_ge id l.length with h' | h'
  ·exact h'
  ·rw[List.getElem?_eq_none h'] at U; cases U
 ·obtain⟨x,Y,_,rfl,hr⟩:=get id o ho;exact⟨x.2,hr,(h x Y).lt,(h x Y).or⟩
 ·obtain⟨x,Y,_,rfl,hr⟩:=get i oi N;obtain⟨y,hy,_,rfl,hs⟩:=get j oj X;rw[hr] at uL; cases uL;rw[hs] at fe; cases fe;have a:=h x Y;have b:=h y hy;exact⟨x.1,y.1,rfl,rfl,by rw[a.aU,b.aU],by rw[a.bJ,b.bJ]; omega,a.cW,b.cW⟩
theorem yc.aX {W W':World} (h:yc W W') {p:MemPlace} (U:p.block < W.heap.size):W.sameAt W' p:=by
 cases p with
 | cell b off=>exact qn (h.1 b U)
 | map b=>exact h.1 b U
theorem vL {H:Type} {enc:TypeId×Value->H} {W W':World} (hk:yc W W') {b:Nat} {sp:Nat->Bool} {hd:Bool} : ∀ {ts:List TypeId} {vs:List Value} {ds:List (DataW H)} {ps:List MemPlace},
  DataW.TrodAll enc P W b sp hd ts vs ds ps->(∀ p∈ps,p.block < W.heap.size)->DataW.TrodAll enc P W' b sp hd ts vs ds ps
 | [],[],[],_,h,_=>h
 | _ :: _,_ :: _,_ :: _,_,⟨p,q,⟨n,B⟩,D,e⟩,hs=>
  ⟨p,q,⟨n,DataW.trod_carry n _ _ _ B (λ x Y=>hk.aX (hs x (by rw[e]; exact List.mem_append_left _ Y)))⟩,vL hk D (λ x Y=>hs x (by rw[e]; exact List.mem_append_right _ Y)),e⟩
end
end Go.cy
namespace Go.cy
noncomputable section
variable {P:Program}
structure ia where
 v:FuncId->Option Value
 s:FuncId->Bool
def wB:List Value->Option (List Int)
 | []=>some []
 | .int .i64 n :: l=>(wB l).map (n :: ·)
 | _ :: _=>none
def KH (zs:List Int):List Int:=zs.mergeSort λ x y=>decide (x<=y)
def vj (args:List Value) (H:AH):R (Value×AH):=
 match args with
 | [.slice _ 0 _]=>.ok (.tuple #[],H)
 | [.slice (some ⟨id,off,none⟩) (n+1) _]=>do
  let r<-H.row id
  let vs<-jN (r.cells.drop off) (n+1)
  match wB vs with
  | some zs=>
   if zs.length < 4611686018427387904 then do
    let H1<-H.gf id off ((KH zs).map (Value.int .i64))
    .ok (.tuple #[],H1)
   else .error 901
  | none=>.error 902
 | _=>.error 903
structure Mh (P:Program) (f:FuncId):Prop where
 body:∃ fn c,P.funcs[f]? = some fn/\fn.body=some c/\(fn.name == "runtime.NumGoroutine")=false
 ab9:∀ (p:Option Addr) (c:Nat) (w:World),Calls P f #[.slice p 0 c] w λ e w'=>e=.returned (.tuple #[])/\w'=w
 aca:∀ (cq off cap:Nat) (zs:List Int) (w:World),Sort.Holds (Value.int .i64) w cq off zs.toArray->cq < w.heap.size->zs.length < 4611686018427387904 ->
  Calls P f #[.slice (some ⟨cq,off,none⟩) zs.length cap] w λ e w'=>e=.returned (.tuple #[])/\∃ n os,w'=Sort.grow (Sort.putRow (Value.int .i64) (Sort.ahead w n) cq off (KH zs).toArray) os
theorem xI:∀ {l:List Value} {zs:List Int},wB l=some zs->l=zs.map (Value.int .i64)
 | [],zs,h=>by cases h; rfl
 | x :: l,zs,h=>by
  unfold wB at h;split at h
  ·cases h; rename_i h; cases h
  ·rename_i n l' e;cases e;cases hl:wB l with
   | none=>rw[hl] at h; cases h
   | some ys=>rw[hl] at h; cases h; rw[xI hl]; rfl
  ·cases h
theorem Qe (zs:List Int):(KH zs).length=zs.length:=List.length_mergeSort zs
def zz (c:Array Value):Nat->List Value->Array Value
 | _,[]=>c
 | o,v :: vs=>zz (c.setIfInBounds o v) (o+1) vs
theorem Ah:∀ (vs:List Value) (c:Array Value) (o x:Nat),(zz c o vs)[x]? = if o<=x/\x < o+vs.length/\x < c.size then vs[x - o]? else c[x]?
 | [],c,o,x=>by rw[if_neg (by simp; omega)]; rfl
 | v :: vs,c,o,x=>by
  show(zz (c.setIfInBounds o v) (o+1) vs)[x]? = _;rw[Ah vs];simp only[List.length_cons,Array.size_setIfInBounds,Array.getElem?_setIfInBounds];by_cases Y:x=o
  ·subst Y;rw[if_neg (by omega),if_pos rfl];by_cases hs:x < c.size
   ·rw[if_pos hs,if_pos (by omega),Nat.sub_self]; rfl
   ·rw[if_neg hs,if_neg (by omega)]; simp; omega
  ·by_cases D:o+1<=x/\x < o+1+vs.length/\x < c.size
   ·rw[if_pos D,if_pos (by omega),show x - o=(x - (o+1))+1 by omega]; rfl
   ·rw[if_neg D,if_neg (by omega),if_neg (by omega)]
theorem EK:∀ (vs:List Value) (W:World) (b o:Nat),(nJ W b o vs).heap[b]? = (W.heap[b]?).map (λ x=>match x with | .cells c t f=>.cells (zz c o vs) t f | y=>y)
 | [],W,b,o=>by
  show W.heap[b]? = _;cases W.heap[b]? with
  | none=>rfl
  | some x=>cases x <;> rfl
 | v :: vs,W,b,o=>by
  show(nJ (W.setCell ⟨b,o,none⟩ v) b (o+1) vs).heap[b]? = _;rw[EK vs];simp only[World.setCell,Array.getElem?_modify,if_true];cases W.heap[b]? with
  | none=>rfl
  | some x=>cases x <;> rfl
theorem xJ (w:World) (b o:Nat) (zs:List Int):(Sort.putRow (Value.int .i64) w b o zs.toArray).heap=(nJ w b o (zs.map (Value.int .i64))).heap:=by
 apply Array.ext_getElem?;intro k;unfold Sort.putRow Sort.mapBlock;simp only[Array.getElem?_modify];by_cases hk:b=k
 ·subst hk;rw[if_pos rfl,EK];cases w.heap[b]? with
  | none=>rfl
  | some x=>
   cases x with
   | cells c t f=>
    show some (Obj.cells (Sort.putCells (Value.int .i64) o zs.toArray c) t f)=some (Obj.cells (zz c o (zs.map (Value.int .i64))) t f);congr 2;apply Array.ext_getElem?;intro i;rw[Ah];unfold Sort.putCells;rw[Array.getElem?_mapIdx,List.length_map];simp only[List.size_toArray];by_cases N:i < c.size
    ·rw[Array.getElem?_eq_getElem N,Option.map_some];by_cases D:o<=i/\i < o+zs.length
     ·rw[if_pos D,if_pos ⟨D.1,D.2,N⟩,List.getElem?_map,List.getElem?_eq_getElem (show i - o < zs.length by omega),Option.map_some];congr 2;rw[getElem!_pos zs.toArray (i - o) (by simp; omega)];simp
     ·rw[if_neg D,if_neg (by omega)]
    ·rw[if_neg (by omega),Array.getElem?_eq_none (by omega)];rfl
   | _=>rfl
 ·rw[if_neg hk,qp _ _ _ _ _ (Ne.symm hk)]
theorem St.XL {ρ:cx} {H:AH} {W:World} (h:fV ρ H W) (os:Array Obj):St ρ H W ρ H (Sort.grow W os):=by
 have hg:∀ b,b < W.heap.size->(Sort.grow W os).heap[b]? = W.heap[b]?:=λ b hb=>by
  show(W.heap++os)[b]? = _;rw[Array.getElem?_append_left hb]
 refine⟨cx.le_refl ρ,⟨h.B5,h.QC,λ id o ho=>?_,h.jh⟩,Nat.le_refl _,by show W.heap.size<=(W.heap++os).size; rw[Array.size_append]; omega,λ b hb hn=>⟨hg b hb,hn⟩,rfl,rfl,rfl,λ _ _=>rfl,λ _ _ hb=>hb⟩;obtain⟨pl,a,b,c⟩:=h.nF id o ho;exact⟨pl,a,by show pl.cq < (W.heap++os).size; rw[Array.size_append]; omega,c.congr (cx.le_refl ρ) (hg _ b)⟩
theorem JV {f:FuncId} (hs:Mh P f) {args:List Value} {H H':AH} {v:Value} (h:vj args H=.ok (v,H')) (ρ:cx) (W:World) (eC:List Value) (n:Nat) (G:fV ρ H W) (hl:LR ρ args eC) :
  CallsIn (WF none) n P f eC.toArray W (nu ρ H W v H'):=by
 refine callsIn_wide.2 ?_;unfold vj at h;split at h
 ·rename_i p c;cases h;obtain⟨x,Y⟩:∃ x,eC=[x]:=by
   have:=hl.1;cases eC with
   | nil=>simp at this
   | cons x l=>cases l with | nil=>exact⟨x,rfl⟩ | cons y l=>simp at this
  subst Y;have hv:=hl.2 0 _ _ rfl rfl;obtain⟨p',c',rfl⟩:∃ p' c',x=.slice p' 0 c':=by cases hv <;> exact⟨_,_,rfl⟩
  exact(hs.ab9 p' c' W).mono λ e W' ⟨he,hw⟩=>⟨ρ,.tuple #[],he,by rw[hw]; exact St.refl G,dT gd (by rfl)⟩
 ·rename_i id off k c;obtain⟨r,B,h⟩:=bE h;obtain⟨vs,D,h⟩:=bE h;cases hz:wB vs with
  | none=>rw[hz] at h; cases h
  | some zs=>
   rw[hz] at h;dsimp only at h;split at h
   ·rename_i hlen;obtain⟨H1,V,h⟩:=bE h;cases h;obtain⟨x,Y⟩:∃ x,eC=[x]:=by
     have:=hl.1;cases eC with
     | nil=>simp at this
     | cons x l=>cases l with | nil=>exact⟨x,rfl⟩ | cons y l=>simp at this
    subst Y;have hv:=hl.2 0 _ _ rfl rfl;obtain⟨pl,c',U,rfl⟩:∃ pl c',ρ id=some pl/\x=.slice (some ⟨pl.cq,pl.base+off,none⟩) (k+1) c':=by
     cases hv;exact⟨_,_,by assumption,rfl⟩
    have hr:=AH.rX B;obtain⟨yL,lE,cG,ji⟩:=G.nF id _ hr;rw[U] at lE; cases lE;have Om:=xI hz;obtain⟨t1,t2⟩:=zK D;have Yw:zs.length=k+1:=by rw[Om,List.length_map] at t1; exact t1
    have gG:r.ro=false:=by
     unfold AH.gf at V;rw[B] at V;simp only[bind,Except.bind] at V;split at V
     ·cases V
     ·rename_i gG; simpa using gG
    have gZ:∀ j,j < zs.length->W.cell? ⟨pl.cq,pl.base+off+j,none⟩=some (.int .i64 (zs[j]!))/\W.frozen? ⟨pl.cq,pl.base+off+j,none⟩=false:=λ j X=>by
     have e1:=t2 j (by omega);rw[List.getElem?_drop,Om,List.getElem?_map,List.getElem?_eq_getElem X,Option.map_some] at e1;have tg:off+j < r.cells.length:=(List.getElem?_eq_some_iff.1 e1).1;obtain⟨u,g1,g2,g3⟩:=ji.2.2.1 (off+j) (by have:=ji.2.1; omega);rw[show pl.base+off+j=pl.base+(off+j) by omega];have:=(g2 _ e1).gQ;rw[g1,this,getElem!_pos zs j X];exact⟨rfl,wJ (g3 gG)⟩
    have Mi:=hs.aca pl.cq (pl.base+off) c' zs W (λ j X=>by
     have jc:j < zs.length:=by simpa using X
     obtain⟨a,b⟩:=gZ j jc;refine⟨?_,b⟩;rw[a,getElem!_pos zs.toArray j (by simpa using jc),getElem!_pos zs j jc];simp) cG hlen
    rw[Yw] at Mi;refine Mi.mono λ e W' ⟨he,m,os,hw⟩=>?_;have Z3:LR ρ ((KH zs).map (Value.int .i64)) ((KH zs).map (Value.int .i64)):=ju (n:=gd) (by rw[List.all_eq_true]; intro y hy; obtain⟨z,_,rfl⟩:=List.mem_map.1 hy; rfl);obtain⟨W1,fp,st⟩:=St.gf (P:=P) G V U Z3;have nf:∀ k,k < ((KH zs).map (Value.int .i64)).length->(∃ u,W.cell? ⟨pl.cq,pl.base+off+0+k,none⟩=some u)/\W.frozen? ⟨pl.cq,pl.base+off+0+k,none⟩=false:=λ k hk=>by
     rw[List.length_map,Qe] at hk;obtain⟨a,b⟩:=gZ k hk;exact⟨⟨_,a⟩,b⟩
    have Vy:W1=nJ W pl.cq (pl.base+off) ((KH zs).map (Value.int .i64)):=by
     have:=jC (P:=P) ((KH zs).map (Value.int .i64)) W pl.cq (pl.base+off) 0 (λ v hv=>by obtain⟨z,_,rfl⟩:=List.mem_map.1 hv; rfl) nf;rw[Nat.add_zero] at this;have:=fp.symm.trans this;cases this;rfl
    refine⟨ρ,.tuple #[],he,?_,dT gd (by rfl)⟩;rw[hw];refine st.trans (St.trans (St.drawn st.fc (W':=Sort.putRow (Value.int .i64) (Sort.ahead W m) pl.cq (pl.base+off) (KH zs).toArray) ?_ ?_ ?_ ?_) (St.XL ?_ os))
    ·rw[Vy];exact xJ W pl.cq (pl.base+off) (KH zs)
    ·rw[Vy]; exact(mJ _ W _ _).1.symm
    ·rw[Vy]; exact(mJ _ W _ _).2.1.symm
    ·rw[Vy]; exact(mJ _ W _ _).2.2.1.symm
    ·refine fV.drawn st.fc ?_;rw[Vy];exact xJ W pl.cq (pl.base+off) (KH zs)
   ·cases h
 ·cases h
def fR (O:ia) (f:FuncId) (args:List Value):Option Value:=
 match O.s f with
 | true=>some (.bool false)
 | false=>
  match args with
  | []=>O.v f
  | _ :: _=>none
def bF (P:Program) (O:ia):Nat->eL
 | 0,_,_=>.error 0
 | n+1,.call f args,H=>
  match fR O f args with
  | some v=>
   match O.s f with
   | true=>(vj args H).map λ x=>(.val x.1,x.2)
   | false=>.ok (.val v,H)
  | none=>bO P (bF P O n) (.call f args) H
 | n+1,.code r c a,H=>bO P (bF P O n) (.code r c a) H
theorem wP {O:ia} : ∀ n,KG (bF P O n) (bF P O (n+1))
 | 0=>λ q H x h=>by simp only[bF] at h; cases h
 | n+1=>λ q H x h=>by
  cases q with
  | call f args=>
   simp only[bF] at h ⊢;cases hk:fR O f args with
   | some v=>rw[hk] at h; exact h
   | none=>rw[hk] at h; exact Af (wP n) _ _ _ h
  | code r c a=>exact Af (wP n) _ _ _ h
theorem sP {O:ia} {n m:Nat} (h:n<=m):KG (bF P O n) (bF P O m):=by
 induction h with
 | refl=>exact λ q H x h=>h
 | step _ ih=>exact λ q H x h=>wP _ q H x (ih q H x h)
structure I4 (P:Program) (O:ia):Prop where
 v:∀ f v,O.v f=some v->iL gd v=true/\∃ n H',A5 P n (.call f []) AH.empty=.ok (.val v,H')
 s:∀ f,O.s f=true->Mh P f
theorem JW {O:ia} (hO:I4 P O) {f:FuncId} {v:Value} (hf:O.v f=some v) :
  (∃ fn c,P.funcs[f]? = some fn/\fn.body=some c/\(fn.name == "runtime.NumGoroutine")=false) /\
  ∀ (ρ:cx) (H:AH) (W:World) (eC:List Value) (n:Nat),fV ρ H W->LR ρ [] eC->CallsIn (WF none) n P f eC.toArray W (nu ρ H W v H):=by
 obtain⟨hg,n0,H0,h0⟩:=hO.v f v hf;obtain⟨k1,k2⟩:=(Ic (P:=P) n0).call f [] AH.empty v H0 h0;refine⟨k1,λ ρ H W eC n G hl=>?_⟩;have he:eC=[]:=by
  have:=hl.1;cases eC with
  | nil=>rfl
  | cons x l=>simp at this
 subst he;refine CallsIn.mono (k2 (λ _=>none) W [] n (fV.empty W) (LR.nil _)) (λ e W' U=>?_);obtain⟨db,v',rfl,st,hv⟩:=U;have rb:v'=v:=tY _ hg hv;subst rb;have aX:∀ b,b < W.heap.size->W'.heap[b]? = W.heap[b]?:=λ b hb=>(st.ou b hb (λ⟨id,o,pl,h,_⟩=>by cases h)).1;refine⟨ρ,v',rfl,⟨cx.le_refl ρ,⟨G.B5,G.QC,λ id o ho=>?_,G.jh⟩,Nat.le_refl _,st.size,λ b hb hn=>⟨aX b hb,hn⟩,st.tape,st.os,st.output,λ _ _=>rfl,λ _ _ hb=>hb⟩,dT _ hg⟩;obtain⟨pl,a,b,c⟩:=G.nF id o ho;exact⟨pl,a,Nat.lt_of_lt_of_le b st.size,c.congr (cx.le_refl ρ) (aX _ b)⟩
theorem Ie {O:ia} (hO:I4 P O):∀ n,GF P (bF P O n)
 | 0=>⟨⟨λ f args H v H' h=>(by simp only[bF] at h; cases h),λ r c a H x a' H' h=>(by simp only[bF] at h; cases h),λ f args H x a H' h=>(by simp only[bF] at h; cases h),λ r c a H v H' h=>(by simp only[bF] at h; cases h)⟩,
   λ r c a H x a' H' h=>(by simp only[bF] at h; cases h)⟩
 | n+1=>
  have ih:=Ie hO n
  ⟨⟨λ f args H v H' h=>by
    simp only[bF] at h;cases hk:fR O f args with
    | some u=>
     rw[hk] at h;cases hs:O.s f with
     | true=>
      rw[hs] at h;cases hz:vj args H with
      | error e=>rw[hz] at h; cases h
      | ok x=>
       rw[hz] at h;cases h;exact⟨(hO.s f hs).body,λ ρ W eC n G hl=>JV (hO.s f hs) hz ρ W eC n G hl⟩
     | false=>
      rw[hs] at h;cases h;unfold fR at hk;rw[hs] at hk;cases args with
      | nil=>
       obtain⟨k1,k2⟩:=JW hO hk;exact⟨k1,λ ρ W eC n G hl=>k2 ρ H W eC n G hl⟩
      | cons x l=>cases hk
    | none=>rw[hk] at h; exact BJ ih.torQ h,
   λ _ _ _ _ _ _ _ h=>(sY ih h).1,
   λ f args H x a H' h=>by
    simp only[bF] at h;cases hk:fR O f args with
    | some u=>
     rw[hk] at h;cases hs:O.s f with
     | true=>
      rw[hs] at h;cases hz:vj args H with
      | error e=>rw[hz] at h; cases h
      | ok x=>rw[hz] at h; cases h
     | false=>rw[hs] at h; cases h
    | none=>rw[hk] at h; exact vJ h,
   λ _ _ _ _ _ _ h=>vK ih.torQ h⟩,
   λ _ _ _ _ _ _ _ h=>(sY ih h).2 _ rfl⟩
theorem Fl {O:ia} (hO:I4 P O) {W:World} {l:List (Row×Pl)} (h:∀ x∈l,Cg (g9 l) W x.1 x.2) {vs:List Value} {args:Array Value} (ha:LR (g9 l) vs args.toList) {n:Nat} {f:FuncId} {b:Bool} {H':AH}
  (fp:bF P O n (.call f vs) (cZ l)=.ok (.val (.bool b),H')):Calls P f args W (λ e w'=>e=.returned (.bool b)/\yc W w'):=by
 obtain⟨_,hc⟩:=(Ie hO n).call f vs (cZ l) _ H' fp;have:=hc (g9 l) W args.toList 0 (JU h) ha;rw[show args.toList.toArray=args by simp] at this;have V:Calls P f args W (nu (g9 l) (cZ l) W (.bool b) H'):=callsIn_wide.1 this;intro cs;obtain⟨e,w',fr,r,s,x⟩:=V cs;obtain⟨db,v',rfl,st,hv⟩:=r;rw[hv.bA] at s x;refine⟨_,w',fr,⟨rfl,λ r hr=>(st.ou r hr ?_).1,st.size,st.os,st.output⟩,s,x⟩;rintro⟨id,o,pl,B,D,_⟩;rw[iK] at B;cases Y:l[id]? with
 | none=>rw[Y] at B; cases B
 | some y=>
  rw[Y] at B;cases B;simp[AO.rw,(h y (List.mem_of_getElem? Y)).ro] at D
end
end Go.cy
namespace Go.cy
noncomputable section
variable {P:Program} {O:ia}
def WC (P:Program) (O:ia) (rnd:Option Nat) (c:Code) (a:az) (H:AH) (Q:AX->az->AH->Prop):Prop:=
 ∃ n x a' H',bF P O n (.code rnd c a) H=.ok (.ie x a',H')/\Q x a' H'
def WO (P:Program) (O:ia) (rnd:Option Nat) (all os:List Oper) (a:az) (H:AH) (Q:az->AH->Prop):Prop:=
 ∃ n a' H',eW P (bF P O n) rnd all os a H=.ok (a',H')/\Q a' H'
def uP (P:Program) (O:ia) (f:FuncId) (vs:List Value) (H:AH) (Q:Value->AH->Prop):Prop:=
 ∃ n v H',bF P O n (.call f vs) H=.ok (.val v,H')/\Q v H'
theorem WC.mono {rnd:Option Nat} {c:Code} {a:az} {H:AH} {Q Q':AX->az->AH->Prop} (h:WC P O rnd c a H Q) (hq:∀ x a H,Q x a H->Q' x a H):WC P O rnd c a H Q':=
 let ⟨n,x,a',H',B,D⟩:=h; ⟨n,x,a',H',B,hq _ _ _ D⟩
theorem uP.mono {f:FuncId} {vs:List Value} {H:AH} {Q Q':Value->AH->Prop} (h:uP P O f vs H Q) (hq:∀ v H,Q v H->Q' v H):uP P O f vs H Q':=
 let ⟨n,v,H',B,D⟩:=h; ⟨n,v,H',B,hq _ _ D⟩
theorem lf {n m:Nat} (h:n<=m) {q:ZJ} {H:AH} {x:Ds×AH} (hr:bF P O n q H=.ok x):bF P O m q H=.ok x:=sP h q H x hr
theorem zA {n m:Nat} (h:n<=m) {rnd:Option Nat} {all os:List Oper} {a:az} {H:AH} {x:az×AH} (hr:eW P (bF P O n) rnd all os a H=.ok x):eW P (bF P O m) rnd all os a H=.ok x:=
 pz (sP h) _ _ _ _ hr
section code
variable {rnd:Option Nat} {a:az} {H:AH} {Q:AX->az->AH->Prop}
theorem WC.skip (h:Q .normal a H):WC P O rnd .skip a H Q:=⟨1,.normal,a,H,rfl,h⟩
def andThen (P:Program) (O:ia) (rnd:Option Nat) (z:Code) (Q:AX->az->AH->Prop):AX->az->AH->Prop
 | .normal,a,H=>WC P O rnd z a H Q
 | x,a,H=>Q x a H
theorem WC.seq {x z:Code} (h:WC P O rnd x a H (andThen P O rnd z Q)):WC P O rnd (.seq x z) a H Q:=by
 obtain⟨n,e,a1,H1,B,D⟩:=h;cases e with
 | normal=>
  obtain⟨m,e2,Z,H2,V,h4⟩:=D;refine⟨max n m+1,e2,Z,H2,?_,h4⟩;simp only[bF,bO,lf (Nat.le_max_left n m) B];show bF P O (max n m) (.code rnd z a1) H1=_;exact lf (Nat.le_max_right n m) V
 | exit id=>exact⟨n+1,_,a1,H1,by simp only[bF,bO,B]; rfl,D⟩
 | goto l=>exact⟨n+1,_,a1,H1,by simp only[bF,bO,B]; rfl,D⟩
 | ret=>exact⟨n+1,_,a1,H1,by simp only[bF,bO,B]; rfl,D⟩
theorem WC.eP {x y z:Code} (h:WC P O rnd (.seq x (.seq y z)) a H Q):WC P O rnd (.seq (.seq x y) z) a H Q:=by
 have Y:∀ {n:Nat} {c1 c2:Code} {e:AX} {Z:az} {H2:AH},bF P O (n+1) (.code rnd (.seq c1 c2) a) H=.ok (.ie e Z,H2)->∃ e1 a1 H1,bF P O n (.code rnd c1 a) H=.ok (.ie e1 a1,H1)/\(e1=.normal->bF P O n (.code rnd c2 a1) H1=.ok (.ie e Z,H2))/\(e1≠.normal->e1=e/\a1=Z/\H1=H2):=by
  intro n c1 c2 e Z H2 h;simp only[bF,bO] at h;obtain⟨⟨res,H1⟩,B,D⟩:=bE h;cases res with
  | val v=>cases D
  | ie e1 a1=>
   refine⟨e1,a1,H1,B,λ e=>?_,λ e=>?_⟩
   ·subst e; exact D
   ·cases e1 with
    | normal=>exact absurd rfl e
    | _=>cases D; exact⟨rfl,rfl,rfl⟩
 obtain⟨n,e,Z,H2,B,D⟩:=h;cases n with
 | zero=>simp only[bF] at B; cases B
 | succ n=>
  obtain⟨e1,a1,H1,g1,g2,g3⟩:=Y B;refine WC.seq (WC.seq ⟨n,e1,a1,H1,g1,?_⟩);cases e1 with
  | normal=>
   have g4:=g2 rfl;cases n with
   | zero=>simp only[bF] at g4; cases g4
   | succ n=>
    simp only[bF,bO] at g4;obtain⟨⟨res,H3⟩,k1,k2⟩:=bE g4;cases res with
    | val v=>cases k2
    | ie e3 a3=>
     refine⟨n,e3,a3,H3,k1,?_⟩;cases e3 with
     | normal=>exact⟨n,e,Z,H2,k2,D⟩
     | _=>cases k2; exact D
  | _=>
   obtain⟨rfl,rfl,rfl⟩:=g3 (by intro h; cases h);exact D
theorem WC.lone {x:Code} (h:WC P O rnd (.seq x .skip) a H Q):WC P O rnd x a H Q:=by
 obtain⟨n,e,Z,H2,B,D⟩:=h;cases n with
 | zero=>simp only[bF] at B; cases B
 | succ n=>
  simp only[bF,bO] at B;obtain⟨⟨res,H1⟩,k1,k2⟩:=bE B;cases res with
  | val v=>cases k2
  | ie e1 a1=>
   cases e1 with
   | normal=>
    cases n with
    | zero=>simp only[bF] at k1; cases k1
    | succ n=>
     simp only[bF,bO] at k2;cases k2;exact⟨n+1,.normal,_,_,k1,D⟩
   | _=>cases k2; exact⟨n,_,_,_,k1,D⟩
theorem WC.region {i:Nat} {ops:Array Oper} {z:Code} (h:WO P O rnd ops.toList ops.toList a H (λ a1 H1=>WC P O rnd z a1 H1 Q)):WC P O rnd (.seq (.region i ops false) z) a H Q:=by
 obtain⟨n,a1,H1,B,D⟩:=h;refine WC.seq ⟨n+1,.normal,a1,H1,?_,D⟩;simp only[bF,bO,B];rfl
theorem WC.aZ {z:Code} (h:WC P O rnd z a H Q):WC P O rnd (.seq .skip z) a H Q:=WC.seq ⟨1,.normal,a,H,rfl,h⟩
theorem WC.ret {z:Code} (h:Q .ret a H):WC P O rnd (.seq .ret z) a H Q:=WC.seq ⟨1,.ret,a,H,rfl,h⟩
theorem WC.cS (h:Q .ret a H):WC P O rnd .ret a H Q:=⟨1,.ret,a,H,rfl,h⟩
theorem WC.exit {id:Nat} {z:Code} (h:Q (.exit id) a H):WC P O rnd (.seq (.exit id) z) a H Q:=WC.seq ⟨1,.exit id,a,H,rfl,h⟩
def az.ev (a:az):Operand->Option Value
 | .tmp t=>a.tm.get t
 | .const v=>pick (iL gd v) (some v) none
 | .func f=>some (.func (.func f) #[] #[])
 | .global _=>none
theorem az.aL {o:Operand} {v:Value} (h:a.ev o=some v):a.eval o=.ok v:=by
 cases o with
 | tmp t=>simp only[az.ev] at h; simp only[az.eval,h]; rfl
 | const u=>
  simp only[az.ev] at h;simp only[az.eval];cases hg:iL gd u with
  | true=>rw[hg] at h; cases h; rfl
  | false=>rw[hg] at h; cases h
 | func f=>simp only[az.ev] at h; cases h; rfl
 | global aa=>cases h
theorem WC.cond {o:Operand} {x y z:Code} {b:Bool} (ho:a.ev o=some (.bool b)) (ht:b=true->WC P O rnd (.seq x z) a H Q) (hf:b=false->WC P O rnd (.seq y z) a H Q):WC P O rnd (.seq (.cond o x y) z) a H Q:=by
 have he:=az.aL ho;have key:∀ c,WC P O rnd (.seq c z) a H Q->(if b then x else y)=c->WC P O rnd (.seq (.cond o x y) z) a H Q:=by
  intro c hc e;obtain⟨n,r,Z,H2,B,D⟩:=hc;cases n with
  | zero=>simp only[bF] at B; cases B
  | succ n=>
   refine⟨n+2,r,Z,H2,?_,D⟩;simp only[bF,bO] at B;obtain⟨⟨res,H1⟩,k1,k2⟩:=bE B;have V:bF P O (n+1) (.code rnd (.cond o x y) a) H=.ok (res,H1):=by
    simp only[bF,bO,he];show bF P O n (.code rnd (if b then x else y) a) H=_;rw[e]; exact k1
   have h4:bF P O (n+2) (.code rnd (.seq (.cond o x y) z) a) H=(bF P O (n+1) (.code rnd (.cond o x y) a) H >>= λ r=>match r with
    | (.ie .normal a,H)=>bF P O (n+1) (.code rnd z a) H
    | r=>.ok r):=by simp only[bF,bO]; rfl
   rw[h4,V];cases res with
   | val v=>cases k2
   | ie e1 a1=>
    cases e1 with
    | normal=>exact lf (Nat.le_succ n) k2
    | _=>exact k2
 cases b with
 | true=>exact key x (ht rfl) rfl
 | false=>exact key y (hf rfl) rfl
def CC (P:Program) (O:ia) (rnd:Option Nat) (id:Nat) (z:Code) (Q:AX->az->AH->Prop):AX->az->AH->Prop
 | .normal,a,H=>WC P O rnd z a H Q
 | .exit j,a,H=>if j=id then WC P O rnd z a H Q else Q (.exit j) a H
 | x,a,H=>Q x a H
theorem WC.block {id:Nat} {x z:Code} (h:WC P O rnd x a H (CC P O rnd id z Q)):WC P O rnd (.seq (.block id x) z) a H Q:=by
 obtain⟨n,e,a1,H1,B,D⟩:=h;cases e with
 | normal=>exact WC.seq ⟨n+1,.normal,a1,H1,by simp only[bF,bO,B]; rfl,D⟩
 | exit j=>
  simp only[CC] at D;by_cases e:j=id
  ·rw[if_pos e] at D;exact WC.seq ⟨n+1,.normal,a1,H1,by simp only[bF,bO,B]; rw[<- e]; simp[bind,Except.bind],D⟩
  ·rw[if_neg e] at D;exact WC.seq ⟨n+1,.exit j,a1,H1,by simp only[bF,bO,B]; simp[bind,Except.bind,e],D⟩
 | goto l=>exact WC.seq ⟨n+1,.goto l,a1,H1,by simp only[bF,bO,B]; rfl,D⟩
 | ret=>exact WC.seq ⟨n+1,.ret,a1,H1,by simp only[bF,bO,B]; rfl,D⟩
def HK (aj:Nat->az->AH->Prop) (k:Nat) (Q:AX->az->AH->Prop):AX->az->AH->Prop
 | .normal,a,H=>∃ k',k' < k/\aj k' a H
 | x,a,H=>Q x a H
theorem WC.loop {x:Code} (aj:Nat->az->AH->Prop) (hI:∀ k a H,aj k a H->WC P O rnd x a H (HK aj k Q)):∀ (k:Nat) {a:az} {H:AH},aj k a H->WC P O rnd (.loop x) a H Q:=by
 intro k
 induction k using Nat.strongRecOn with
 | _ k ih=>
  intro a H h;obtain⟨n,e,a1,H1,B,D⟩:=hI k a H h;cases e with
  | normal=>
   obtain⟨k',hk,V⟩:=D;obtain⟨m,e2,Z,H2,h4,h5⟩:=ih k' hk V;refine⟨max n m+1,e2,Z,H2,?_,h5⟩;simp only[bF,bO,lf (Nat.le_max_left n m) B];show bF P O (max n m) (.code rnd (.loop x) a1) H1=_;exact lf (Nat.le_max_right n m) h4
  | exit id=>exact⟨n+1,_,a1,H1,by simp only[bF,bO,B]; rfl,D⟩
  | goto l=>exact⟨n+1,_,a1,H1,by simp only[bF,bO,B]; rfl,D⟩
  | ret=>exact⟨n+1,_,a1,H1,by simp only[bF,bO,B]; rfl,D⟩
end code
theorem mL {f:FuncId} {fn:Func} {c:Code} {args:List Value} (hf:P.funcs[f]? = some fn) (hc:fn.body=some c) (hn:args.length<=fn.ntmps) (hm:args.length<=1000000) (Y:(fn.name == "runtime.NumGoroutine")=false):mj P f args=.ok (fn,c):=by
 unfold mj;rw[hf];simp only[hc];rw[if_neg (by omega),if_neg (by omega),Y];rfl
theorem uP.call {f:FuncId} {fn:Func} {c:Code} {vs:List Value} {H:AH} {Q:Value->AH->Prop} (hb:mj P f vs=.ok (fn,c)) (hk:fR O f vs=none)
  (h:WC P O none c (cO fn.ntmps vs) H (λ e a1 H1=>(e=.normal\/e=.ret)/\a1.bn=[]/\∃ v,c9 P H1 a1 fn.results.toList=.ok v/\Q v H1)):uP P O f vs H Q:=by
 obtain⟨n,e,a1,H1,B,D,V,v,h4,h5⟩:=h;refine⟨n+1,v,H1,?_,h5⟩;simp only[bF,hk,bO,hb];show(bF P O n (.code none c (cO fn.ntmps vs)) H >>= _)=_;rw[B];have h6:∀ rec,eh P rec a1.bn H1=.ok H1:=λ rec=>by rw[V]; rfl
 rcases D with rfl | rfl
 ·show(eh P (bF P O n) a1.bn H1 >>= _)=_;rw[h6];show(c9 P H1 a1 fn.results.toList >>= _)=_;rw[h4]; rfl
 ·show(eh P (bF P O n) a1.bn H1 >>= _)=_;rw[h6];show(c9 P H1 a1 fn.results.toList >>= _)=_;rw[h4]; rfl
theorem uP.fR {f:FuncId} {v:Value} {H:AH} {Q:Value->AH->Prop} (hk:cy.fR O f []=some v) (hs:O.s f=false) (h:Q v H):uP P O f [] H Q:=
 ⟨1,v,H,by simp only[bF,hk,hs],h⟩
def az.dF (a:az) (d:Option Tmp) (v:Value):az:=
 match d with
 | none=>a
 | some d=>⟨T.put AH.top a.tm d v,a.n,a.bn⟩
def az.can (a:az) (d:Option Tmp):Bool:=
 match d with
 | none=>true
 | some d=>pick (Nat.ble (Nat.succ d) a.n) (Nat.ble a.n (nat_lit 281474976710654)) false
theorem az.yA {a:az} {d:Option Tmp} {v:Value} (h:a.can d=true):a.put d v=.ok (a.dF d v):=by
 obtain⟨tm,n,ms⟩:=a;cases d with
 | none=>rfl
 | some d=>
  unfold az.can at h;simp only at h;show pick _ (pick _ _ _) _=_;cases B:Nat.ble (Nat.succ d) n with
  | false=>rw[B] at h; cases h
  | true=>
   rw[B] at h;have D:Nat.ble n 281474976710654=true:=h;rw[D]; rfl
section ops
variable {rnd:Option Nat} {all os:List Oper} {a:az} {H:AH} {Q:az->AH->Prop}
theorem WO.nil (h:Q a H):WO P O rnd all [] a H Q:=⟨0,a,H,rfl,h⟩
theorem WO.one {o:Oper} {v:Value} {H1:AH} (hw:dr all a o=.ok true) (hd:dR o.op=none) (ho:∃ n,b9 P (bF P O n) a H o=.ok (v,H1)) (hc:a.can o.dst=true) (h:WO P O rnd all os (a.dF o.dst v) H1 Q):WO P O rnd all (o :: os) a H Q:=by
 obtain⟨n,B⟩:=ho;obtain⟨m,Z,H2,D,V⟩:=h;refine⟨max n m,Z,H2,?_,V⟩;simp only[eW,hw,hd];show(b9 P (bF P O (max n m)) a H o >>= λ p=>(a.put o.dst p.1) >>= λ a1=>eW P (bF P O (max n m)) rnd all os a1 p.2)=_;rw[pf (sP (Nat.le_max_left n m)) B];show((a.put o.dst v) >>= λ a1=>eW P (bF P O (max n m)) rnd all os a1 H1)=_;rw[az.yA hc];exact zA (Nat.le_max_right n m) D
theorem WO.not {o:Oper} (hw:dr all a o=.ok false) (hc:a.can o.dst=true) (h:WO P O rnd all os (a.dF o.dst undef) H Q):WO P O rnd all (o :: os) a H Q:=by
 obtain⟨m,Z,H2,D,V⟩:=h;refine⟨m,Z,H2,?_,V⟩;simp only[eW,hw];show((a.put o.dst undef) >>= λ a1=>eW P (bF P O m) rnd all os a1 H)=_;rw[az.yA hc];exact D
theorem jP {o:Oper} (h:o.guard=none):dr all a o=.ok true:=by unfold dr; rw[h]
theorem Fm {o:Oper} {j:Nat} {w b:Bool} {d:Tmp} (h:o.guard=some (j,w)) (hd:(all[j]?).bind (·.dst)=some d) (hl:Nat.ble (Nat.succ d) a.n=true) (hg:a.tm.get d=some (.bool b)):dr all a o=.ok (b == w):=by
 unfold dr;rw[h];simp only[hd];rw[Nat.ble_eq] at hl;rw[if_pos (show d < a.n from hl),hg]
theorem WO.call {o:Oper} {aa:FuncId} {xs:Array Operand} {ts:Array TypeId} {vs:List Value} {R1:Value->AH->Prop} (ho:o.op=.call ⟨.value (.func aa),xs,ts⟩) (hw:dr all a o=.ok true) (Y:eU a.eval xs.toList=.ok vs) (hc:a.can o.dst=true)
  (hf:uP P O aa vs H R1) (h:∀ v H1,R1 v H1->WO P O rnd all os (a.dF o.dst v) H1 Q):WO P O rnd all (o :: os) a H Q:=by
 obtain⟨n,v,H1,B,D⟩:=hf;refine WO.one hw (by rw[ho]; rfl) ⟨n,?_⟩ hc (h v H1 D);obtain⟨d,op,ty,ps,af,gu⟩:=o;simp only at ho;subst ho;have e:(#[] : Array Value).toList++vs++(#[] : Array Value).toList=vs:=by simp
 simp only[b9,Y,az.eval,bind,Except.bind,e,B]
end ops
end
end Go.cy
namespace Go.cy
noncomputable section
variable {P:Program} {O:ia}
def Lc (op:BinOp) (k:IntKind) (m n:Int):Option Value:=
 match op with
 | .add=>some (.int k (k.wrap (m+n)))
 | .sub=>some (.int k (k.wrap (m - n)))
 | .mul=>some (.int k (k.wrap (m * n)))
 | .eql=>some (.bool (m == n))
 | .neq=>some (.bool (m != n))
 | .lss=>some (.bool (decide (m < n)))
 | .leq=>some (.bool (decide (m<=n)))
 | .gtr=>some (.bool (decide (m > n)))
 | .geq=>some (.bool (decide (m>=n)))
 | _=>none
def AH.push (H:AH) (r:Row):AH:=⟨T.put (Nat.succ H.next) H.A4 H.next (.row r),Nat.succ H.next⟩
theorem AH.di (H:AH) (r:Row):(H.push r).next=H.next+1:=rfl
theorem AH.cM {H:AH} {r:Row} (j:Nat):(H.push r).get j=if j=H.next then some (.row r) else H.get j:=
 T.o8 _ _ _ _
theorem AH.jv {H:AH} {r:Row} : H.new (.row r)=.ok (H.next,H.push r):=by
 obtain⟨t,n⟩:=H;rfl
section ops
variable {rnd:Option Nat} {all os:List Oper} {a:az} {H:AH} {Q:az->AH->Prop} {d:Option Tmp} {ty:TypeId} {ps:String} {af:Array Edge} {gu:Option (Nat×Bool)}
theorem WO.move {x:Operand} {v:Value} (hw:dr all a ⟨d,.move x,ty,ps,af,gu⟩=.ok true) (Y:a.ev x=some v) (hc:a.can d=true) (h:WO P O rnd all os (a.dF d v) H Q):WO P O rnd all (⟨d,.move x,ty,ps,af,gu⟩ :: os) a H Q:=
 WO.one hw rfl ⟨0,by simp only[b9,az.aL Y]; rfl⟩ hc h
theorem Qg {op:BinOp} {k:IntKind} {m n:Int} {v:Value} (h:Lc op k m n=some v) (t:TypeId):jO (dA P 0 (Go.binOp op t (.int k m) (.int k n)))=.ok v:=by
 cases op <;> simp only[Lc] at h <;> first | (cases h; done) | (cases h; simp[Go.binOp,Op.intArith,Op.intCmp,dA,jO,iL,pure]; done) | (cases h; simp only[Go.binOp,Op.intArith,Op.intCmp,ne_eq,not_true_eq_false,if_false]; rfl)
theorem WO.jr {c x y:Operand} {b:Bool} {v:Value} (hw:dr all a ⟨d,.pick c x y,ty,ps,af,gu⟩=.ok true) (hb:a.ev c=some (.bool b)) (ht:b=true) (Y:a.ev x=some v) (hc:a.can d=true) (h:WO P O rnd all os (a.dF d v) H Q):WO P O rnd all (⟨d,.pick c x y,ty,ps,af,gu⟩ :: os) a H Q:=by
 refine WO.one hw rfl ⟨0,?_⟩ hc h;subst ht;simp only[b9,az.aL hb,az.aL Y,bind,Except.bind,if_true]
theorem WO.len {x:Operand} {t e:TypeId} {p:Option Addr} {n c:Nat} (hw:dr all a ⟨d,.call ⟨.builtin .len,#[x],#[t]⟩,ty,ps,af,gu⟩=.ok true) (ht:P.underlying t=some (.slice e)) (Y:a.ev x=some (.slice p n c)) (hc:a.can d=true) (h:WO P O rnd all os (a.dF d (.int .i64 n)) H Q) :
  WO P O rnd all (⟨d,.call ⟨.builtin .len,#[x],#[t]⟩,ty,ps,af,gu⟩ :: os) a H Q:=by
 refine WO.one hw rfl ⟨0,?_⟩ hc h;simp only[b9,eU,az.aL Y,bind,Except.bind,DX,ht]
theorem WO.box {t:TypeId} {x:Operand} {v:Value} (hw:dr all a ⟨d,.box t x,ty,ps,af,gu⟩=.ok true) (Y:a.ev x=some v) (hc:a.can d=true)
  (h:WO P O rnd all os (a.dF d (.pointer (some ⟨H.next,0,none⟩))) (H.push { cells:=v.cells.toList.map some,ty:=t,aU:=H.next,bJ:=0,esz:=0,ro:=false,cW:=true }) Q):WO P O rnd all (⟨d,.box t x,ty,ps,af,gu⟩ :: os) a H Q:=by
 refine WO.one hw rfl ⟨0,?_⟩ hc h;simp only[b9,az.aL Y,bind,Except.bind,newRow,AH.jv]
theorem WO.extract {x:Operand} {i:Nat} {vs:Array Value} {v:Value} (hw:dr all a ⟨d,.extract x i,ty,ps,af,gu⟩=.ok true) (Y:a.ev x=some (.tuple vs)) (hv:vs.toList[i]? = some v) (hc:a.can d=true) (h:WO P O rnd all os (a.dF d v) H Q):WO P O rnd all (⟨d,.extract x i,ty,ps,af,gu⟩ :: os) a H Q:=by
 refine WO.one hw rfl ⟨0,?_⟩ hc h;simp only[b9,az.aL Y,bind,Except.bind,hv]
theorem kA {r:Row} : (H.push r).get H.next=some (.row r):=by rw[AH.cM,if_pos rfl]
end ops
section meet
variable {rnd:Option Nat} {a:az} {H:AH} {Q:AX->az->AH->Prop}
theorem WC.XM {x:Code} (aj:Nat->az->AH->Prop) (hI:∀ k a H,aj k a H->WC P O rnd x a H (HK aj k Q)) (h:∃ k,aj k a H):WC P O rnd (.loop x) a H Q:=
 let ⟨k,hk⟩:=h; WC.loop aj hI k hk
theorem HK.mk {aj:Nat->az->AH->Prop} {k k':Nat} (h:aj k' a H) (hk:k' < k):HK aj k Q .normal a H:=⟨k',hk,h⟩
end meet
end
end Go.cy
namespace Go.cy
noncomputable section
def L2 {α β:Type} (R:α->β->Prop) (l:List α) (m:List β):Prop:=l.length=m.length/\∀ (i:Nat) (x:α) (y:β),l[i]? = some x->m[i]? = some y->R x y
theorem aP {α:Type} {l:List α} {i:Nat} (h:i < l.length):∃ x,l[i]? = some x:=⟨l[i],List.getElem?_eq_getElem h⟩
section l2
variable {α β:Type} {R S:α->β->Prop}
theorem L2.nil:L2 R [] []:=⟨rfl,λ i x y h=>by simp at h⟩
theorem L2.cons {x:α} {y:β} {l:List α} {m:List β} (h:R x y) (hl:L2 R l m):L2 R (x :: l) (y :: m):=
 ⟨by simp[hl.1],λ i a b ha hb=>by
  cases i with
  | zero=>simp at ha hb; subst ha; subst hb; exact h
  | succ i=>exact hl.2 i a b (by simpa using ha) (by simpa using hb)⟩
theorem L2.mono {l:List α} {m:List β} (h:L2 R l m) (hs:∀ x y,R x y->S x y):L2 S l m:=⟨h.1,λ i x y Y hy=>hs _ _ (h.2 i x y Y hy)⟩
theorem L2.at {l:List α} {m:List β} (h:L2 R l m) {i:Nat} {x:α} (Y:l[i]? = some x):∃ y,m[i]? = some y/\R x y:=by
 obtain⟨y,hy⟩:=aP (l:=m) (i:=i) (by rw[<- h.1]; exact ax Y);exact⟨y,hy,h.2 i x y Y hy⟩
theorem L2.append {l l':List α} {m m':List β} (h:L2 R l m) (h':L2 R l' m'):L2 R (l++l') (m++m'):=
 ⟨by simp[h.1,h'.1],λ i x y Y hy=>by
  by_cases N:i < l.length
  ·rw[List.getElem?_append_left N] at Y;rw[List.getElem?_append_left (by rw[<- h.1]; exact N)] at hy;exact h.2 i x y Y hy
  ·rw[List.getElem?_append_right (by omega)] at Y;rw[List.getElem?_append_right (by rw[<- h.1]; omega),<- h.1] at hy;exact h'.2 _ x y Y hy⟩
theorem L2.take {l:List α} {m:List β} (h:L2 R l m) (n:Nat):L2 R (l.take n) (m.take n):=
 ⟨by simp[h.1],λ i x y Y hy=>by
  rw[List.getElem?_take] at Y hy;split at Y
  ·rename_i N; rw[if_pos N] at hy; exact h.2 i x y Y hy
  ·cases Y⟩
theorem L2.drop {l:List α} {m:List β} (h:L2 R l m) (n:Nat):L2 R (l.drop n) (m.drop n):=
 ⟨by simp[h.1],λ i x y Y hy=>by
  rw[List.getElem?_drop] at Y hy;exact h.2 _ x y Y hy⟩
theorem L2.dE {x:α} {l:List α} {m:List β} (h:L2 R (x :: l) m):∃ y m',m=y :: m'/\R x y/\L2 R l m':=by
 cases m with
 | nil=>have:=h.1; simp at this
 | cons y m'=>
  refine⟨y,m',rfl,h.2 0 x y rfl rfl,by have:=h.1; simpa using this,λ i a b ha hb=>h.2 (i+1) a b (by simpa using ha) (by simpa using hb)⟩
theorem L2.fE {m:List β} (h:L2 R [] m):m=[]:=by
 cases m with
 | nil=>rfl
 | cons y m'=>have:=h.1; simp at this
end l2
inductive PV where
 | val (v:Value)
 | agg (l:List PV)
 | fX (l:List PV)
 | aS (sz:Nat) (l:List (List PV)) (t:Option Nat)
 | ptr (k off:Nat)
 | dN (cells:List PV) (off:Nat)
 | sl (k off n c:Nat)
 | mp (k:Nat)
 | aW (sz:Nat) (l:List (List PV)) (k:Nat)
 | gW (sz:Nat) (l:List (List PV)) (k i off:Nat)
 | fn (f:FuncId) (first cap:List PV)
 | iface (t:TypeId) (v:PV)
def PV.cells:PV->List PV
 | .agg l=>l
 | p=>[p]
def PV.plain:PV->Bool
 | .val v=>bu v
 | .agg _=>false
 | .fX _=>false
 | _=>true
structure Tk where
 aU:Nat
 base:Nat
 esz:Nat
 row:Nat
 off:Nat
structure cz where
 aY:List Nat
 toks:List (Option Tk)
 an:Nat->Nat->Nat->Prop
structure lJ (e:cz) (tk:List Nat) (H:AH) (id aU en:Nat):Prop where
 lt:id < H.next
 we:aU < H.next
 x:e.an id aU en
 row:id ∉ e.aY
 tok:∀ (t:Nat) (τ:Tk) (n:Nat),e.toks[t]? = some (some τ)->tk[t]? = some n->aU=τ.aU->en<=τ.base+n * τ.esz
def CD (e:cz) (tk:List Nat) (sz:Nat) (r:Row) (off len c:Nat) (k:Nat):Prop:=
 ∃ n,tk[k]? = some n/\len<=n/\(len=n->∃ τ,e.toks[k]? = some (some τ)/\r.aU=τ.aU/\r.bJ+off=τ.base/\sz=τ.esz/\r.ro=false/\c=len)
def wQ (e:cz) (tk:List Nat) (k:Nat):Prop:=
 ∃ n,tk[k]? = some n/\(0=n->e.toks[k]? = some none)
inductive RV (e:cz) (tk:List Nat) (H:AH):Bool->PV->Value->Prop
 | val {b:Bool} {v:Value} (hv:bu v=true):RV e tk H b (.val v) v
 | agg {b:Bool} {l:List PV} {vs:List Value} (hl:l.length=vs.length) (h:∀ (i:Nat) (p:PV) (v:Value),l[i]? = some p->vs[i]? = some v->RV e tk H b p v):RV e tk H b (.agg l) (.agg vs.toArray)
 | fX {b:Bool} {l:List PV} {vs:List Value} (hl:l.length=vs.length) (h:∀ (i:Nat) (p:PV) (v:Value),l[i]? = some p->vs[i]? = some v->RV e tk H b p v):RV e tk H b (.fX l) (.tuple vs.toArray)
 | fU {b:Bool} {sz:Nat} {t:Option Nat} (ht:∀ k,t=some k->b=true/\wQ e tk k):RV e tk H b (.aS sz [] t) (.slice none 0 0)
 | aS {b:Bool} {sz:Nat} {l:List (List PV)} {t:Option Nat} {id off c n:Nat} {r:Row} (w:Nat->Nat->Value) (hr:H.get id=some (.row r)) (hn:off+l.length * sz<=n) (hs:lJ e tk H id r.aU (r.bJ+n))
   (he:r.esz=sz) (hc:l.length<=c) (hw:off+l.length * sz<=r.cells.length) (hz:∀ (i:Nat) (cs:List PV),l[i]? = some cs->cs.length=sz) (U:∀ (i:Nat) (cs:List PV) (j:Nat) (p:PV),l[i]? = some cs->cs[j]? = some p->p.plain=true)
   (hv:∀ (i:Nat) (cs:List PV) (j:Nat) (p:PV),l[i]? = some cs->cs[j]? = some p->r.cells[off+i * sz+j]? = some (some (w i j)))
   (h:∀ (i:Nat) (cs:List PV) (j:Nat) (p:PV),l[i]? = some cs->cs[j]? = some p->RV e tk H false p (w i j))
   (ht:∀ k,t=some k->b=true/\CD e tk sz r off l.length c k):RV e tk H b (.aS sz l t) (.slice (some ⟨id,off,none⟩) l.length c)
 | ptr {k off id:Nat} (hk:e.aY[k]? = some id):RV e tk H true (.ptr k off) (.pointer (some ⟨id,off,none⟩))
 | sl {k off n c id:Nat} (hk:e.aY[k]? = some id):RV e tk H true (.sl k off n c) (.slice (some ⟨id,off,none⟩) n c)
 | mp {k id:Nat} (hk:e.aY[k]? = some id):RV e tk H true (.mp k) (.map (some id))
 | aW {sz:Nat} {l:List (List PV)} {k id off:Nat} {r:Row} {τ:Tk} (w:Nat->Nat->Value) (hr:H.get id=some (.row r)) (Y:e.an id r.aU (r.bJ+(off+l.length * sz))) (cI:id ∉ e.aY) {n:Nat} (hn:tk[k]? = some n) (ht:e.toks[k]? = some (some τ)) (hm:τ.esz=0) (mG:τ.base=0) (ajO:τ.row=id) (ajP:τ.off=off) (hf:r.aU=τ.aU) (gG:r.ro=false)
   (he:r.esz=sz) (hw:off+l.length * sz<=r.cells.length) (hz:∀ (i:Nat) (cs:List PV),l[i]? = some cs->cs.length=sz) (U:∀ (i:Nat) (cs:List PV) (j:Nat) (p:PV),l[i]? = some cs->cs[j]? = some p->p.plain=true)
   (hv:∀ (i:Nat) (cs:List PV) (j:Nat) (p:PV),l[i]? = some cs->cs[j]? = some p->r.cells[off+i * sz+j]? = some (some (w i j)))
   (h:∀ (i:Nat) (cs:List PV) (j:Nat) (p:PV),l[i]? = some cs->cs[j]? = some p->RV e tk H false p (w i j)):RV e tk H true (.aW sz l k) (.slice (some ⟨id,off,none⟩) l.length l.length)
 | mf {sz k:Nat} : RV e tk H true (.aW sz [] k) (.slice none 0 0)
 | gW {sz:Nat} {l:List (List PV)} {k i o id off:Nat} (h:RV e tk H true (.aW sz l k) (.slice (some ⟨id,off,none⟩) l.length l.length)):RV e tk H true (.gW sz l k i o) (.pointer (some ⟨id,off+i * sz+o,none⟩))
 | dN {b:Bool} {cells:List PV} {off id base n:Nat} {r:Row} (w:Nat->Value) (hr:H.get id=some (.row r)) (hn:base+cells.length<=n) (hs:lJ e tk H id r.aU (r.bJ+n))
   (hv:∀ (j:Nat) (p:PV),cells[j]? = some p->r.cells[base+j]? = some (some (w j))) (h:∀ (j:Nat) (p:PV),cells[j]? = some p->RV e tk H false p (w j)):RV e tk H b (.dN cells off) (.pointer (some ⟨id,base+off,none⟩))
 | fn {b:Bool} {f:FuncId} {l m:List PV} {vs ws:List Value} (hl:l.length=vs.length) (h:∀ (i:Nat) (p:PV) (v:Value),l[i]? = some p->vs[i]? = some v->RV e tk H b p v)
   (hm:m.length=ws.length) (h':∀ (i:Nat) (p:PV) (v:Value),m[i]? = some p->ws[i]? = some v->RV e tk H b p v):RV e tk H b (.fn f l m) (.func (.func f) vs.toArray ws.toArray)
 | iface {b:Bool} {t:TypeId} {p:PV} {v:Value} (h:RV e tk H b p v):RV e tk H b (.iface t p) (.iface t v)
theorem RV.up {e:cz} {tk:List Nat} {H:AH} {b b':Bool} {p:PV} {v:Value} (h:RV e tk H b p v) (hb:b=true->b'=true):RV e tk H b' p v:=by
 induction h with
 | val hv=>exact .val hv
 | agg hl _ ih=>exact .agg hl (λ i p v N hv=>ih i p v N hv hb)
 | fX hl _ ih=>exact .fX hl (λ i p v N hv=>ih i p v N hv hb)
 | fU ht=>exact .fU λ k hk=>⟨hb (ht k hk).1,(ht k hk).2⟩
 | aS w hr hn hs he hc hw hz U hv h ht=>exact .aS w hr hn hs he hc hw hz U hv h λ k hk=>⟨hb (ht k hk).1,(ht k hk).2⟩
 | ptr hk=>rw[hb rfl]; exact .ptr hk
 | sl hk=>rw[hb rfl]; exact .sl hk
 | mp hk=>rw[hb rfl]; exact .mp hk
 | mf=>rw[hb rfl]; exact .mf
 | gW h=>rw[hb rfl]; exact .gW h
 | aW w hr Y cI hn ht hm mG uH ft hf gG he hw hz U hv h=>rw[hb rfl]; exact .aW w hr Y cI hn ht hm mG uH ft hf gG he hw hz U hv h
 | dN w hr hn hs hv h=>exact .dN w hr hn hs hv h
 | fn hl _ hm _ ih On=>exact .fn hl (λ i p v N hv=>ih i p v N hv hb) hm (λ i p v N hv=>On i p v N hv hb)
 | iface _ ih=>exact .iface (ih hb)
theorem RV.top {e:cz} {tk:List Nat} {H:AH} {b:Bool} {p:PV} {v:Value} (h:RV e tk H b p v):RV e tk H true p v:=h.up λ _=>rfl
theorem vu {e:cz} {tk:List Nat} {H:AH} {b:Bool} {p:PV} {v:Value} (h:RV e tk H b p v) (U:p.plain=true):bu v=true:=by
 cases h <;> first | assumption | rfl | (cases U)
theorem RV.cells {e:cz} {tk:List Nat} {H:AH} {b:Bool} {p:PV} {v:Value} (h:RV e tk H b p v):L2 (RV e tk H b) p.cells v.cells.toList:=by
 cases h with
 | agg hl h=>exact⟨by simpa [PV.cells,Value.cells] using hl,λ i x y Y hy=>h i x y Y (by simpa [Value.cells] using hy)⟩
 | val hv=>
  cases v with
  | agg cs=>cases hv
  | tuple cs=>cases hv
  | _=>exact L2.cons (.val rfl) L2.nil
 | fX hl h=>exact L2.cons (.fX hl h) L2.nil
 | fU ht=>exact L2.cons (.fU ht) L2.nil
 | aS w hr hn hs he hc hw hz U hv h ht=>exact L2.cons (.aS w hr hn hs he hc hw hz U hv h ht) L2.nil
 | ptr hk=>exact L2.cons (.ptr hk) L2.nil
 | sl hk=>exact L2.cons (.sl hk) L2.nil
 | mp hk=>exact L2.cons (.mp hk) L2.nil
 | mf=>exact L2.cons .mf L2.nil
 | gW h=>exact L2.cons (.gW h) L2.nil
 | aW w hr Y cI hn ht hm mG uH ft hf gG he hw hz U hv h=>exact L2.cons (.aW w hr Y cI hn ht hm mG uH ft hf gG he hw hz U hv h) L2.nil
 | dN w hr hn hs hv h=>exact L2.cons (.dN w hr hn hs hv h) L2.nil
 | fn hl h hm h'=>exact L2.cons (.fn hl h hm h') L2.nil
 | iface h=>exact L2.cons (.iface h) L2.nil
end
end Go.cy
namespace Go.cy
noncomputable section
structure Meta (r r':Row):Prop where
 ty:r'.ty=r.ty
 aU:r'.aU=r.aU
 bJ:r'.bJ=r.bJ
 esz:r'.esz=r.esz
 ro:r'.ro=r.ro
 len:r'.cells.length=r.cells.length
theorem Meta.refl (r:Row):Meta r r:=⟨rfl,rfl,rfl,rfl,rfl,rfl⟩
theorem Meta.trans {r s t:Row} (h:Meta r s) (h':Meta s t):Meta r t:=⟨h'.ty.trans h.ty,h'.aU.trans h.aU,h'.bJ.trans h.bJ,h'.esz.trans h.esz,h'.ro.trans h.ro,h'.len.trans h.len⟩
structure fS where
 H0:AH
 yO:List Nat
 toks:List (Option Tk)
 I5:List Nat
 an:Nat->Nat->Nat->Prop
def acb (C:fS) (aU pos:Nat):Prop:=∀ (t:Nat) (τ:Tk) (n:Nat),C.toks[t]? = some (some τ)->C.I5[t]? = some n->aU=τ.aU->τ.esz≠0->pos < τ.base+n * τ.esz
structure Frame (C:fS) (H:AH):Prop where
 next:C.H0.next<=H.next
 row:∀ (id:Nat) (r:Row),C.H0.get id=some (.row r)->id ∉ C.yO->∃ r',H.get id=some (.row r')/\Meta r r'/\(∀ p,acb C r.aU (r.bJ+p)->r'.cells[p]? = r.cells[p]?)/\((∀ (t:Nat) (τ:Tk),C.toks[t]? = some (some τ)->r.aU≠τ.aU)->r'.cW=r.cW)
 jY:∀ (id:Nat) (o:AO),C.H0.get id=some o->(∀ r,o≠.row r)->id ∉ C.yO->H.get id=some o
 jo:∀ (id:Nat),id < C.H0.next->C.H0.get id=none->H.get id=none
 aU:∀ (id:Nat) (r:Row),H.get id=some (.row r)->(∃ Fx r0,C.H0.get Fx=some (.row r0)/\r0.aU=r.aU)\/C.H0.next<=r.aU
structure mB (C:fS) (e:cz) (tk:List Nat):Prop where
 aY:∃ new,e.aY=C.yO++new/\∀ id∈new,C.H0.next<=id
 tok:∀ (t:Nat) (τ:Tk),e.toks[t]? = some (some τ)->C.toks[t]? = some (some τ)\/C.H0.next<=τ.aU
 old:∀ (t:Nat) (τ:Tk),C.toks[t]? = some (some τ)->e.toks[t]? = some (some τ)
 Hy:∀ (t n:Nat),C.I5[t]? = some n->∃ n',tk[t]? = some n'/\n<=n'/\(n'=n->e.toks[t]? = C.toks[t]?)
structure KI (H:AH):Prop where
 lt:∀ (id:Nat) (o:AO),H.get id=some o->id < H.next
 aU:∀ (id:Nat) (r:Row),H.get id=some (.row r)->r.aU < H.next
 esz:∀ (id qF:Nat) (r r':Row),H.get id=some (.row r)->H.get qF=some (.row r')->r.aU=r'.aU->r.ro=false->r.esz≠0->r'.esz≠0->r'.esz=r.esz
theorem pX {H H':AH} (hw:KI H) (hb:∀ (id:Nat) (r:Row),H'.get id=some (.row r)->r.esz=0\/∃ Fx r0,H.get Fx=some (.row r0)/\r.aU=r0.aU/\r.esz=r0.esz/\r.ro=r0.ro) :
  ∀ (id qF:Nat) (r r':Row),H'.get id=some (.row r)->H'.get qF=some (.row r')->r.aU=r'.aU->r.ro=false->r.esz≠0->r'.esz≠0->r'.esz=r.esz:=by
 intro id qF r r' h h' hf gG h0 AQ;rcases hb id r h with B | ⟨i,q,k1,k2,k3,k4⟩
 ·exact absurd B h0
 rcases hb qF r' h' with D | ⟨j,q',m1,m2,m3,m4⟩
 ·exact absurd D AQ
 rw[k3,m3];exact hw.esz i j q q' k1 m1 (by rw[<- k2,<- m2]; exact hf) (by rw[<- k4]; exact gG) (by rw[<- k3]; exact h0) (by rw[<- m3]; exact AQ)
structure aJ where
 esz:Nat
 cells:List PV
def Xa (e:cz) (tk:List Nat) (H:AH) (id:Nat) (R:aJ):Prop:=
 ∃ (r:Row) (vs:List Value),H.get id=some (.row r)/\r.cW=true/\r.ro=false/\r.esz=R.esz/\r.aU=id/\r.cells=vs.map some/\L2 (RV e tk H true) R.cells vs
def kY:Nat:=4294967295
inductive GE:List (List PV)->List kX->Prop
 | nil:GE [] []
 | ajQ {l:List (List PV)} {x:kX} {es:List kX} (U:bu x.val=true) (h:GE l es):GE ([.val x.key,.val x.val] :: l) (x :: es)
 | unit {l:List (List PV)} {x:kX} {es:List kX} (hv:x.val=.agg #[]) (h:GE l es):GE ([.val x.key] :: l) (x :: es)
def acd (H:AH) (id:Nat) (R:aJ):Prop:=
 ∃ (es:List kX) (clock sz:Nat) (l:List (List PV)),H.get id=some (.map es clock)/\R.cells=[.aS sz l none]/\GE l es
def qT (e:cz) (tk:List Nat) (H:AH) (id:Nat) (R:aJ):Prop:=R.esz≠kY/\Xa e tk H id R\/R.esz=kY/\acd H id R
def QQ (R:aJ) (n:Nat):Bool:=
 match Nat.beq R.esz kY with
 | true=>false
 | false=>Nat.ble n R.cells.length
theorem Nn {R:aJ} {n:Nat} (h:QQ R n=true):Nat.beq R.esz kY=false/\Nat.ble n R.cells.length=true:=by
 unfold QQ at h;cases hz:Nat.beq R.esz kY with
 | true=>rw[hz] at h; cases h
 | false=>rw[hz] at h; exact⟨rfl,h⟩
theorem qT.row {e:cz} {tk:List Nat} {H:AH} {id:Nat} {R:aJ} (h:qT e tk H id R) (hn:Nat.beq R.esz kY=false):Xa e tk H id R:=by
 rcases h with⟨_,h⟩ | ⟨h,_⟩
 ·exact h
 ·rw[h] at hn; exact absurd hn (by decide)
theorem qT.eF {e:cz} {tk:List Nat} {H:AH} {id:Nat} {R:aJ} (h:qT e tk H id R):∃ o,H.get id=some o/\((∃ r,o=.row r)\/∃ es c,o=.map es c):=by
 rcases h with⟨_,r,_,h,_⟩ | ⟨_,es,c,_,_,h,_⟩
 ·exact⟨_,h,.inl ⟨r,rfl⟩⟩
 ·exact⟨_,h,.inr ⟨es,c,rfl⟩⟩
theorem qT.eR {e e':cz} {tk tk':List Nat} {H H':AH} {id:Nat} {R R':aJ} (h:qT e tk H id R) (hz:R'.esz=R.esz) (ho:H'.get id=H.get id) (hc:∀ vs,L2 (RV e tk H true) R.cells vs->L2 (RV e' tk' H' true) R'.cells vs) (hm:∀ sz l,R.cells=[.aS sz l none]->R'.cells=R.cells:=by intro _ _ _; rfl):qT e' tk' H' id R':=by
 rcases h with⟨h0,r,vs,B,D,V,h4,h5,h6,h7⟩ | ⟨h0,es,c,sz,l,B,D,V⟩
 ·exact .inl ⟨by rw[hz]; exact h0,r,vs,ho.trans B,D,V,by rw[hz]; exact h4,h5,h6,hc vs h7⟩
 ·exact .inr ⟨hz.trans h0,es,c,sz,l,ho.trans B,(hm sz l D).trans D,V⟩
structure gN (e:cz) (fr:List aJ) (tk:List Nat) (H:AH):Prop where
 wf:KI H
 dY:e.aY.length=fr.length
 rnd:∀ (i j id:Nat),e.aY[i]? = some id->e.aY[j]? = some id->i=j
 row:∀ (k id:Nat) (R:aJ),e.aY[k]? = some id->fr[k]? = some R->qT e tk H id R
 dD:e.toks.length=tk.length
 iy:∀ (t t':Nat) (τ fG:Tk),e.toks[t]? = some (some τ)->e.toks[t']? = some (some fG)->τ.aU=fG.aU->t=t'
 oI:∀ (t:Nat) (τ:Tk),e.toks[t]? = some (some τ)->τ.aU < H.next
 tq:∀ (t:Nat) (τ:Tk),e.toks[t]? = some (some τ)->τ.aU ∉ e.aY
def je (e:cz) (tk:List Nat) (H:AH):fS:=⟨H,e.aY,e.toks,tk,e.an⟩
structure XC (e:cz) (H:AH):Prop where
 new:∀ id aU en,H.next<=id->H.next<=aU->e.an id aU en
 tok:∀ (t:Nat) (τ:Tk) id en,e.toks[t]? = some (some τ)->H.next<=id->e.an id τ.aU en
structure CW (C:fS):Prop where
 wf:KI C.H0
 len:C.toks.length=C.I5.length
 yO:∀ id∈C.yO,∃ o,C.H0.get id=some o/\((∃ r,o=.row r)\/∃ es c,o=.map es c)
structure df (C:fS) (e:cz) (fr:List aJ) (tk:List Nat) (H:AH):Prop where
 dz:gN e fr tk H
 ext:mB C e tk
 bC:Frame C H
 cw:CW C
 x:XC e C.H0
 x0:e.an=C.an
structure gO (e:cz) (tk:List Nat) (H:AH) (e':cz) (fr':List aJ) (tk':List Nat) (H':AH):Prop where
 dz:gN e' fr' tk' H'
 ext:mB (je e tk H) e' tk'
 bC:Frame (je e tk H) H'
 x:e'.an=e.an
structure Grow (e:cz) (tk:List Nat) (H:AH) (e':cz) (tk':List Nat) (H':AH):Prop where
 next:H.next<=H'.next
 aY:∀ (k id:Nat),e.aY[k]? = some id->e'.aY[k]? = some id
 eR:∀ id aU en,(∃ r,H.get id=some (.row r)/\r.aU=aU)->lJ e tk H id aU en->lJ e' tk' H' id aU en
 row:∀ (id:Nat) (r:Row) (n:Nat),H.get id=some (.row r)->lJ e tk H id r.aU (r.bJ+n)->∃ r',H'.get id=some (.row r')/\Meta r r'/\∀ p,p < n->r'.cells[p]? = r.cells[p]?
 tok:∀ (k n:Nat),tk[k]? = some n->∃ n',tk'[k]? = some n'/\n<=n'/\(n'=n->e'.toks[k]? = e.toks[k]?)
 Ld:∀ (k:Nat) (τ:Tk),e.toks[k]? = some (some τ)->τ.esz=0->∀ (id:Nat) (r:Row),H.get id=some (.row r)->r.aU=τ.aU->id ∉ e.aY->∃ r',H'.get id=some (.row r')/\Meta r r'/\r'.cells=r.cells/\e'.toks[k]? = some (some τ)/\(∀ a b c,e.an a b c->e'.an a b c)/\id ∉ e'.aY
theorem wC {i j L sz:Nat} (N:i < L) (X:j < sz):i * sz+j < L * sz:=by
 have B:(i+1) * sz<=L * sz:=Nat.mul_le_mul_right _ N;have D:(i+1) * sz=i * sz+sz:=by rw[Nat.add_mul,Nat.one_mul]
 omega
theorem RV.grow {e e':cz} {tk tk':List Nat} {H H':AH} (aa:Grow e tk H e' tk' H') {b:Bool} {p:PV} {v:Value} (h:RV e tk H b p v):RV e' tk' H' b p v:=by
 induction h with
 | val hv=>exact .val hv
 | agg hl _ ih=>exact .agg hl ih
 | fX hl _ ih=>exact .fX hl ih
 | fU ht=>
  refine .fU λ k hk=>?_;obtain⟨hb,n,B,D⟩:=ht k hk;obtain⟨n',V,h4,h5⟩:=aa.tok k n B;refine⟨hb,n',V,λ h6=>?_⟩;have:n=0:=by omega
  rw[h5 (by omega)];exact D this.symm
 | @aS b sz l t id off c n r w hr hn hs he hc hw hz U hv h ht ih=>
  obtain⟨r',B,hm,D⟩:=aa.row _ _ _ hr hs;refine .aS w B hn (by rw[hm.aU,hm.bJ]; exact aa.eR _ _ _ ⟨_,hr,rfl⟩ hs) (hm.esz.trans he) hc (by rw[hm.len]; exact hw) hz U (λ i cs j p N X=>?_) ih λ k hk=>?_
  ·have:=wC (ax N) (show j < sz by rw[<- hz i cs N]; exact ax X);rw[D _ (by omega)];exact hv i cs j p N X
  ·obtain⟨hb,n,V,h4,h5⟩:=ht k hk;obtain⟨n',h6,h7,h8⟩:=aa.tok k n V;refine⟨hb,n',h6,by omega,λ h9=>?_⟩;obtain⟨τ,k1,k2,k3,k4,k5,k6⟩:=h5 (by omega);exact⟨τ,by rw[h8 (by omega)]; exact k1,by rw[hm.aU]; exact k2,by rw[hm.bJ]; exact k3,k4,by rw[hm.ro]; exact k5,k6⟩
 | ptr hk=>exact .ptr (aa.aY _ _ hk)
 | sl hk=>exact .sl (aa.aY _ _ hk)
 | mp hk=>exact .mp (aa.aY _ _ hk)
 | mf=>exact .mf
 | gW h ih=>exact .gW ih
 | @aW sz l k id off r τ w hr Y cI n hn ht hm mG uH ft hf gG he hw hz U hv _ ih=>
  obtain⟨n',sJ,_⟩:=aa.tok k n hn;obtain⟨r',B,D,V,h4,h5,h6⟩:=aa.Ld k τ ht hm id r hr hf cI;exact .aW w B (by rw[D.aU,D.bJ]; exact h5 _ _ _ Y) h6 sJ h4 hm mG uH ft (D.aU.trans hf) (D.ro.trans gG) (D.esz.trans he) (by rw[D.len]; exact hw) hz U (λ i cs j p N X=>by rw[V]; exact hv i cs j p N X) ih
 | @dN b cells off id base n r w hr hn hs hv _ ih=>
  obtain⟨r',B,hm,D⟩:=aa.row _ _ _ hr hs;refine .dN w B hn (by rw[hm.aU,hm.bJ]; exact aa.eR _ _ _ ⟨_,hr,rfl⟩ hs) (λ j p X=>?_) ih;have:=ax X;rw[D _ (by omega)];exact hv j p X
 | fn hl _ hm _ ih On=>exact .fn hl ih hm On
 | iface _ ih=>exact .iface ih
theorem L2.grow {e e':cz} {tk tk':List Nat} {H H':AH} (aa:Grow e tk H e' tk' H') {b:Bool} {l:List PV} {vs:List Value} (h:L2 (RV e tk H b) l vs):L2 (RV e' tk' H' b) l vs:=h.mono λ _ _ h=>h.grow aa
theorem lJ.DK {e e':cz} {tk tk':List Nat} {H H':AH} (Y:mB (je e tk H) e' tk') (hn:H.next<=H'.next) (hX:e'.an=e.an) (hl:e.toks.length=tk.length) {id aU en:Nat} (h:lJ e tk H id aU en):lJ e' tk' H' id aU en:=by
 refine⟨Nat.lt_of_lt_of_le h.lt hn,Nat.lt_of_lt_of_le h.we hn,by rw[hX]; exact h.x,λ hm=>?_,λ t τ n ht sJ hf=>?_⟩
 ·obtain⟨new,B,D⟩:=Y.aY;rw[B] at hm;rcases List.mem_append.1 hm with V | V
  ·exact h.row V
  ·have:=D _ V; have:=h.lt; simp only[je] at *; omega
 ·rcases Y.tok t τ ht with V | V
  ·obtain⟨n0,xg⟩:=aP (l:=tk) (i:=t) (by rw[<- hl]; exact ax V);obtain⟨n',h4,h5,_⟩:=Y.Hy t n0 xg;rw[sJ] at h4; cases h4;have h6:=h.tok t τ n0 V xg hf;have h7:n0 * τ.esz<=n * τ.esz:=Nat.mul_le_mul_right _ h5;omega
  ·have:=h.we; simp only[je] at V; omega
theorem kn {e e':cz} {fr:List aJ} {tk tk':List Nat} {H H':AH} (Y:mB (je e tk H) e' tk') (hf:Frame (je e tk H) H') (hX:e'.an=e.an) (hI:gN e fr tk H):Grow e tk H e' tk' H':=by
 refine⟨hf.next,λ k id hk=>?_,λ id aU en _ h=>h.DK Y hf.next hX hI.dD,λ id r n hr hs=>?_,Y.Hy,λ k τ ht hm id r hr uW cI=>?_⟩
 ·obtain⟨new,B,_⟩:=Y.aY;rw[B];show(e.aY++new)[k]? = some id;rw[List.getElem?_append_left (show k < e.aY.length from ax hk)];exact hk
 ·obtain⟨r',B,D,V,_⟩:=hf.row id r hr hs.row;refine⟨r',B,D,λ p U=>V p λ t τ n' ht sJ uW _=>?_⟩;have:=hs.tok t τ n' ht sJ uW;omega
 ·obtain⟨r',B,D,V,_⟩:=hf.row id r hr cI;refine⟨r',B,D,List.ext_getElem? λ p=>V p λ t fG n iO _ DG h0=>absurd hm ?_,Y.old k τ ht,λ a b c h=>by rw[hX]; exact h,λ AF=>?_⟩
  ·have:=hI.iy t k fG τ iO ht (DG.symm.trans uW);subst this;have Uv:e.toks[t]? = some (some fG):=iO;rw[ht] at Uv; cases Uv; exact h0
  ·obtain⟨new,k1,k2⟩:=Y.aY;rw[k1] at AF;rcases List.mem_append.1 AF with k3 | k3
   ·exact cI k3
   ·have:=k2 _ k3; have:=hI.wf.lt id _ hr; simp only[je] at *; omega
theorem gO.grow {e e':cz} {tk tk':List Nat} {H H':AH} {fr fr':List aJ} (h:gN e fr tk H) (s:gO e tk H e' fr' tk' H'):Grow e tk H e' tk' H':=kn s.ext s.bC s.x h
theorem Frame.refl (C:fS):Frame C C.H0:=⟨Nat.le_refl _,λ id r hr _=>⟨r,hr,Meta.refl r,λ _ _=>rfl,λ _=>rfl⟩,λ _ _ h _ _=>h,λ _ _ h=>h,λ id r h=>.inl ⟨id,r,h,rfl⟩⟩
theorem mB.refl (e:cz) (tk:List Nat) (H:AH):mB (je e tk H) e tk:=
 ⟨⟨[],by simp[je],by simp⟩,λ _ _ h=>.inl h,λ _ _ h=>h,λ t n h=>⟨n,h,Nat.le_refl _,λ _=>rfl⟩⟩
theorem gO.refl {e:cz} {tk:List Nat} {H:AH} {fr:List aJ} (h:gN e fr tk H):gO e tk H e fr tk H:=⟨h,mB.refl e tk H,Frame.refl (je e tk H),rfl⟩
theorem Frame.ace {C:fS} {e:cz} {tk:List Nat} {H H':AH} (h:Frame (je e tk H) H') (hf:Frame C H) (id:Nat) (r:Row) (hr:H'.get id=some (.row r)):(∃ Fx r0,C.H0.get Fx=some (.row r0)/\r0.aU=r.aU)\/C.H0.next<=r.aU:=by
 rcases h.aU id r hr with⟨i0,r0,k1,k2⟩ | k
 ·rcases hf.aU i0 r0 k1 with⟨i1,r1,m1,m2⟩ | m
  ·exact .inl ⟨i1,r1,m1,m2.trans k2⟩
  ·exact .inr (by rw[<- k2]; exact m)
 ·exact .inr (Nat.le_trans hf.next k)
theorem Frame.acf {C:fS} {H H':AH} (hf:Frame C H) (hb:∀ id r,H'.get id=some (.row r)->∃ Fx r0,H.get Fx=some (.row r0)/\r0.aU=r.aU) (id:Nat) (r:Row) (hr:H'.get id=some (.row r)):(∃ Fx r0,C.H0.get Fx=some (.row r0)/\r0.aU=r.aU)\/C.H0.next<=r.aU:=by
 obtain⟨i0,r0,k1,k2⟩:=hb id r hr;rcases hf.aU i0 r0 k1 with⟨i1,r1,m1,m2⟩ | m
 ·exact .inl ⟨i1,r1,m1,m2.trans k2⟩
 ·exact .inr (by rw[<- k2]; exact m)
theorem Frame.trans {C:fS} {e:cz} {tk:List Nat} {H H':AH} (hw:CW C) (Y:mB C e tk) (hf:Frame C H) (h:Frame (je e tk H) H'):Frame C H':=by
 refine⟨Nat.le_trans hf.next h.next,λ id r hr cI=>?_,λ id o ho hn cI=>h.jY id o (hf.jY id o ho hn cI) hn (λ hm=>by
  obtain⟨new,k1,k2⟩:=Y.aY;have hm:id∈e.aY:=hm;rw[k1] at hm;rcases List.mem_append.1 hm with k3 | k3
  ·exact cI k3
  ·have:=k2 _ k3; have:=hw.wf.lt id _ ho; omega),λ id B D=>h.jo id (Nat.lt_of_lt_of_le B hf.next) (hf.jo id B D),λ id r hr=>h.ace hf id r hr⟩
 obtain⟨r1,B,m1,c1,s1⟩:=hf.row id r hr cI;have Ci:id ∉ e.aY:=λ hm=>by
  obtain⟨new,k1,k2⟩:=Y.aY;rw[k1] at hm;rcases List.mem_append.1 hm with k3 | k3
  ·exact cI k3
  ·have:=k2 _ k3; have:=hw.wf.lt id _ hr; omega
 obtain⟨r2,D,m2,c2,s2⟩:=h.row id r1 B Ci;refine⟨r2,D,m1.trans m2,λ p U=>?_,λ kV=>(s2 λ t τ ht=>?_).trans (s1 kV)⟩
 case refine_2=>
  rw[m1.aU];rcases Y.tok t τ ht with k | k
  ·exact kV t τ k
  ·have:=hw.wf.aU id r hr; omega
 rw[<- c1 p U];refine c2 p λ t τ n ht hn uW h0=>?_;rw[m1.aU] at uW;rw[m1.bJ];rcases Y.tok t τ ht with k | k
 ·obtain⟨n0,xg⟩:=aP (l:=C.I5) (i:=t) (by rw[<- hw.len]; exact ax k);obtain⟨n',k1,k2,_⟩:=Y.Hy t n0 xg;have sJ:tk[t]? = some n:=hn;rw[sJ] at k1; cases k1;have:=U t τ n0 k xg uW h0;have h7:n0 * τ.esz<=n * τ.esz:=Nat.mul_le_mul_right _ k2;omega
 ·have:=hw.wf.aU id r hr; omega
theorem mB.trans {C:fS} {e e':cz} {tk tk':List Nat} {H:AH} (hn:C.H0.next<=H.next) (Y:mB C e tk) (h:mB (je e tk H) e' tk'):mB C e' tk':=by
 refine⟨?_,λ t τ ht=>?_,λ t τ ht=>h.old t τ (Y.old t τ ht),λ t n ht=>?_⟩
 ·obtain⟨n1,B,D⟩:=Y.aY;obtain⟨n2,V,h4⟩:=h.aY;have DL:e'.aY=e.aY++n2:=V;refine⟨n1++n2,by rw[DL,B,List.append_assoc],λ id cI=>?_⟩;rcases List.mem_append.1 cI with k | k
  ·exact D _ k
  ·exact Nat.le_trans hn (h4 _ k)
 ·rcases h.tok t τ ht with k | k
  ·exact Y.tok t τ k
  ·exact .inr (Nat.le_trans hn k)
 ·obtain⟨n1,B,D,V⟩:=Y.Hy t n ht;obtain⟨n2,h4,h5,h6⟩:=h.Hy t n1 B;refine⟨n2,h4,Nat.le_trans D h5,λ e1=>?_⟩;have:n2=n1:=by omega
  rw[h6 this];exact V (by omega)
theorem XC.XN {e:cz} {H H':AH} (h:XC e H) (hn:H.next<=H'.next):XC e H':=⟨λ id aU en B D=>h.new id aU en (Nat.le_trans hn B) (Nat.le_trans hn D),λ t τ id en B D=>h.tok t τ id en B (Nat.le_trans hn D)⟩
theorem df.step {C:fS} {e e':cz} {tk tk':List Nat} {H H':AH} {fr fr':List aJ} (h:df C e fr tk H) (s:gO e tk H e' fr' tk' H'):df C e' fr' tk' H':=by
 refine⟨s.dz,h.ext.trans h.bC.next s.ext,h.bC.trans h.cw h.ext s.bC,h.cw,?_,s.x.trans h.x0⟩;refine⟨λ id aU en B D=>by rw[s.x]; exact h.x.new id aU en B D,λ t τ id en B D=>?_⟩;rw[s.x];rcases s.ext.tok t τ B with k | k
 ·exact h.x.tok t τ id en k D
 ·exact h.x.new _ _ _ D (Nat.le_trans h.bC.next k)
theorem gN.yO {e:cz} {tk:List Nat} {H:AH} {fr:List aJ} (h:gN e fr tk H) (id:Nat) (hm:id∈e.aY):∃ o,H.get id=some o/\((∃ r,o=.row r)\/∃ es c,o=.map es c):=by
 obtain⟨k,hk,e1⟩:=List.mem_iff_getElem.1 hm;have lF:e.aY[k]? = some id:=by rw[List.getElem?_eq_getElem hk,e1]
 obtain⟨R,G⟩:=aP (l:=fr) (i:=k) (by rw[<- h.dY]; exact hk);exact(h.row k id R lF G).eF
theorem df.start {e:cz} {tk:List Nat} {H:AH} {fr:List aJ} (h:gN e fr tk H) (Y:XC e H):df (je e tk H) e fr tk H:=⟨h,mB.refl e tk H,Frame.refl (je e tk H),⟨h.wf,h.dD,h.yO⟩,Y,rfl⟩
theorem CW.jY {C:fS} (w:CW C) {id:Nat} {o:AO} (h:C.H0.get id=some o) (B:∀ r,o≠.row r) (D:∀ es c,o≠.map es c):id ∉ C.yO:=λ hm=>by
 obtain⟨o',q1,q2⟩:=w.yO id hm;rw[h] at q1; cases q1;rcases q2 with⟨r,e⟩ | ⟨es,c,e⟩
 ·exact B r e
 ·exact D es c e
theorem df.kP {C:fS} {e:cz} {tk:List Nat} {H:AH} {fr:List aJ} (h:df C e fr tk H) {id:Nat} {o:AO} (ho:C.H0.get id=some o) (B:∀ r,o≠.row r) (D:∀ es c,o≠.map es c):H.get id=some o:=h.bC.jY id o ho B (h.cw.jY ho B D)
theorem gO.kP {e e':cz} {tk tk':List Nat} {H H':AH} {fr fr':List aJ} (hI:gN e fr tk H) (s:gO e tk H e' fr' tk' H') {id:Nat} {o:AO} (ho:H.get id=some o) (B:∀ r,o≠.row r) (D:∀ es c,o≠.map es c):H'.get id=some o:=
 s.bC.jY id o ho B (CW.jY (C:=je e tk H) ⟨hI.wf,hI.dD,hI.yO⟩ ho B D)
theorem df.ct {e e':cz} {tk tk':List Nat} {H H':AH} {fr':List aJ} (h:df (je e tk H) e' fr' tk' H'):gO e tk H e' fr' tk' H':=⟨h.dz,h.ext,h.bC,h.x0⟩
theorem df.xc {C:fS} {e:cz} {tk:List Nat} {H:AH} {fr:List aJ} (h:df C e fr tk H):XC e H:=h.x.XN h.bC.next
end
end Go.cy
namespace Go.cy
noncomputable section
variable {P:Program} {e:cz} {fr:List aJ} {tk:List Nat} {H:AH}
theorem gN.Oo (h:gN e fr tk H) {id:Nat} (hm:id∈e.aY):id < H.next:=by
 obtain⟨k,hk,lF⟩:=List.mem_iff_getElem.1 hm;have rD:e.aY[k]? = some id:=by rw[List.getElem?_eq_getElem hk,lF]
 obtain⟨R,G⟩:=aP (l:=fr) (i:=k) (by rw[<- h.dY]; exact hk);obtain⟨o,hr,_⟩:=(h.row k id R rD G).eF;exact h.wf.lt id _ hr
theorem gN.nR (h:gN e fr tk H):H.next ∉ e.aY:=λ hm=>by have:=h.Oo hm; omega
theorem vm (hw:KI H) {r:Row} (hf:r.aU=H.next):KI (H.push r):=by
 refine⟨λ id o ho=>?_,λ id r' hr=>?_,λ id qF r1 r2 B D Vz gG z1 z2=>?_⟩
 ·rw[AH.cM] at ho;rw[AH.di];split at ho
  ·omega
  ·have:=hw.lt id o ho; omega
 ·rw[AH.cM] at hr;rw[AH.di];split at hr
  ·cases hr; omega
  ·have:=hw.aU id r' hr; omega
 ·rw[AH.cM] at B D;split at B <;> split at D
  ·cases B; cases D; rfl
  ·cases B; have:=hw.aU qF r2 D; omega
  ·cases D; have:=hw.aU id r1 B; omega
  ·exact hw.esz id qF r1 r2 B D Vz gG z1 z2
theorem qv (hw:KI H) (r:Row) (oM:H.next<=r.aU):Frame (je e tk H) (H.push r):=by
 have hs:∀ id o,H.get id=some o->(H.push r).get id=some o:=λ id o ho=>by
  rw[AH.cM,if_neg (by have:=hw.lt id o ho; omega)]; exact ho
 exact⟨by rw[AH.di]; exact Nat.le_succ _,λ id r' hr _=>⟨r',hs id _ hr,Meta.refl r',λ _ _=>rfl,λ _=>rfl⟩,λ id o ho _ _=>hs id o ho,λ id B D=>by rw[AH.cM,if_neg (by have nG:id < H.next:=B; omega)]; exact D,λ id r' ga=>by
  rw[AH.cM] at ga;split at ga
  ·cases ga; exact .inr oM
  ·exact .inl ⟨id,r',ga,rfl⟩⟩
theorem dL {α:Type} {l:List α} {x y:α} {k:Nat} (h:(l++[x])[k]? = some y):(k < l.length/\l[k]? = some y)\/(k=l.length/\y=x):=by
 by_cases hk:k < l.length
 ·rw[List.getElem?_append_left hk] at h; exact .inl ⟨hk,h⟩
 ·rw[List.getElem?_append_right (by omega)] at h;have:k - l.length=0:=by
   rcases Nat.eq_zero_or_pos (k - l.length) with h' | h'
   ·exact h'
   ·rw[List.getElem?_eq_none (by simp; omega)] at h; cases h
  rw[this] at h;simp at h;exact .inr ⟨by omega,h.symm⟩
theorem da {α:Type} {l:List α} {x:α} : (l++[x])[l.length]? = some x:=by simp
theorem cK {α:Type} {l m:List α} {x:α} {k:Nat} (h:l[k]? = some x):(l++m)[k]? = some x:=by rw[List.getElem?_append_left (ax h)]; exact h
def jG (ty:TypeId) (aU esz:Nat) (vs:List Value):Row:={ cells:=vs.map some,ty:=ty,aU:=aU,bJ:=0,esz:=esz,ro:=false,cW:=true }
def cz.row (e:cz) (id:Nat):cz:={ e with aY:=e.aY++[id] }
theorem vw (h:gN e fr tk H) {ps:List PV} {vs:List Value} (hv:L2 (RV e tk H true) ps vs) (ty:TypeId) (esz:Nat) (hz:esz≠kY) :
  gO e tk H (e.row H.next) (fr++[⟨esz,ps⟩]) tk (H.push (jG ty H.next esz vs)):=by
 have Y:mB (je e tk H) (e.row H.next) tk:=⟨⟨[H.next],rfl,by simp[je]⟩,λ t τ ht=>.inl ht,λ t τ ht=>ht,λ t n ht=>⟨n,ht,Nat.le_refl _,λ _=>rfl⟩⟩
 have hf:=qv (e:=e) (tk:=tk) h.wf (jG ty H.next esz vs) (Nat.le_refl _);have aa:=kn Y hf rfl h;refine⟨⟨vm h.wf rfl,by simp[cz.row,h.dY],λ i j id N X=>?_,λ k id R hk G=>?_,h.dD,h.iy,λ t τ ht=>by rw[AH.di]; have:=h.oI t τ ht; omega,λ t τ ht hm=>?_⟩,Y,hf,rfl⟩
 ·rcases dL N with⟨_,B⟩ | ⟨rfl,rfl⟩ <;> rcases dL X with⟨_,D⟩ | ⟨rfl,V⟩
  ·exact h.rnd i j id B D
  ·subst V; exact absurd (List.mem_of_getElem? B) h.nR
  ·exact absurd (List.mem_of_getElem? D) h.nR
  ·rfl
 ·rcases dL hk with⟨h0,B⟩ | ⟨rfl,rfl⟩
  ·rw[List.getElem?_append_left (by rw[<- h.dY]; exact h0)] at G;obtain⟨o,D,_⟩:=(h.row k id R B G).eF;exact(h.row k id R B G).eR rfl (by rw[AH.cM,if_neg (by have:=h.wf.lt id _ D; omega)]) λ us h8=>h8.grow aa
  ·rw[h.dY,da] at G;cases G;exact .inl ⟨hz,_,vs,kA,rfl,rfl,rfl,rfl,rfl,hv.grow aa⟩
 ·rcases List.mem_append.1 hm with k | k
  ·exact h.tq t τ ht k
  ·simp at k; have:=h.oI t τ ht; omega
theorem JX {k id:Nat} {o:AO} (hk:e.aY[k]? = some id) {r:Row} (hr:H.get id=some (.row r)) (oM:∀ r',o=.row r'->r'.aU=r.aU):Frame (je e tk H) (H.set id o):=by
 refine⟨Nat.le_refl _,λ j r' ga X=>⟨r',?_,Meta.refl r',λ _ _=>rfl,λ _=>rfl⟩,λ j o' ho hn _=>?_,λ j _ D=>by rw[AH.bS,if_neg (λ e1=>by subst e1; have uE:H.get j=none:=D; rw[hr] at uE; cases uE)]; exact D,λ j r' X=>by
  rw[AH.bS] at X;split at X
  ·cases X; exact .inl ⟨id,r,hr,(oM _ rfl).symm⟩
  ·exact .inl ⟨j,r',X,rfl⟩⟩
 ·rw[AH.bS,if_neg (λ e1=>X (by subst e1; exact List.mem_of_getElem? hk))]; exact ga
 ·rw[AH.bS,if_neg (λ e1=>by subst e1; have mb:H.get j=some o':=ho; rw[hr] at mb; cases mb; exact hn r rfl)]; exact ho
theorem No (h:gN e fr tk H) {k id:Nat} (hk:e.aY[k]? = some id) {R:aJ} (G:fr[k]? = some R) {r:Row} (hr:H.get id=some (.row r)) {ps:List PV} {vs:List Value} (hv:L2 (RV e tk H true) ps vs) :
  gO e tk H e (fr.set k ⟨R.esz,ps⟩) tk (H.set id (.row { r with cells:=vs.map some })):=by
 have hf:=JX (tk:=tk) (o:=.row { r with cells:=vs.map some }) hk hr (λ r' e1=>by cases e1; rfl);have aa:=kn (mB.refl e tk H) hf rfl h;refine⟨⟨⟨λ j o ho=>?_,λ j r' ga=>?_,pX h.wf λ j r' ga=>?_⟩,by simp[h.dY],h.rnd,λ j jd R' X ma=>?_,h.dD,h.iy,h.oI,h.tq⟩,mB.refl e tk H,hf,rfl⟩
 ·rw[AH.bS] at ho;split at ho
  ·rename_i e1; subst e1; exact h.wf.lt _ _ hr
  ·exact h.wf.lt _ _ ho
 ·rw[AH.bS] at ga;split at ga
  ·rename_i e1; subst e1; cases ga; exact(h.wf.aU _ _ hr:r.aU < H.next)
  ·exact h.wf.aU _ _ ga
 ·rw[AH.bS] at ga;split at ga
  ·cases ga; exact .inr ⟨id,r,hr,rfl,rfl,rfl⟩
  ·exact .inr ⟨j,r',ga,rfl,rfl,rfl⟩
 ·by_cases e1:j=k
  ·subst e1;rw[hk] at X; cases X;rw[List.getElem?_set_self (ax G)] at ma;cases ma;rcases h.row j id R hk G with⟨h0,r2,us,D,V,h4,h5,h6,h7,h8⟩ | ⟨_,es,c,_,_,D,_⟩
   ·rw[hr] at D; cases D;exact .inl ⟨h0,{ r with cells:=vs.map some },vs,by rw[AH.bS,if_pos rfl],V,h4,h5,h6,rfl,hv.grow aa⟩
   ·rw[hr] at D; cases D
  ·rw[List.getElem?_set_ne (Ne.symm e1)] at ma;exact(h.row j jd R' X ma).eR rfl (by rw[AH.bS,if_neg (λ e2=>e1 (h.rnd j k jd X (by rw[e2]; exact hk)))]) λ us h8=>h8.grow aa
def cz.tok (e:cz) (τ:Option Tk):cz:={ e with toks:=e.toks++[τ] }
def rH (e:cz) (tk:List Nat) (H:AH) (sz:Nat) (l:List (List PV)) (vs:List Value):Prop:=
 vs.length=l.length * sz/\(∀ (i:Nat) (cs:List PV),l[i]? = some cs->cs.length=sz)/\(∀ (i:Nat) (cs:List PV) (j:Nat) (p:PV),l[i]? = some cs->cs[j]? = some p->p.plain=true) /\
 ∀ (i:Nat) (cs:List PV) (j:Nat) (p:PV),l[i]? = some cs->cs[j]? = some p->∃ v,vs[i * sz+j]? = some v/\RV e tk H false p v
theorem rH.grow {e':cz} {tk':List Nat} {H':AH} (aa:Grow e tk H e' tk' H') {sz:Nat} {l:List (List PV)} {vs:List Value} (h:rH e tk H sz l vs):rH e' tk' H' sz l vs:=
 ⟨h.1,h.2.1,h.2.2.1,λ i cs j p N X=>let ⟨v,B,D⟩:=h.2.2.2 i cs j p N X; ⟨v,B,D.grow aa⟩⟩
theorem RV.GG {sz:Nat} {l:List (List PV)} {t:Option Nat} {id off c:Nat} {r:Row} {vs:List Value} (hl:rH e tk H sz l vs) (hr:H.get id=some (.row r)) (hs:lJ e tk H id r.aU (r.bJ+(off+l.length * sz))) (he:r.esz=sz) (hc:l.length<=c)
  (hv:∀ (x:Nat) (v:Value),vs[x]? = some v->r.cells[off+x]? = some (some v)) (hw:off+l.length * sz<=r.cells.length) (ht:∀ k,t=some k->CD e tk sz r off l.length c k):RV e tk H true (.aS sz l t) (.slice (some ⟨id,off,none⟩) l.length c):=by
 refine .aS (λ i j=>(vs[i * sz+j]?).getD undef) hr (Nat.le_refl _) hs he hc hw hl.2.1 hl.2.2.1 (λ i cs j p N X=>?_) (λ i cs j p N X=>?_) λ k hk=>⟨rfl,ht k hk⟩
 ·obtain⟨v,B,D⟩:=hl.2.2.2 i cs j p N X;rw[B,show off+i * sz+j=off+(i * sz+j) by omega,hv _ _ B]; rfl
 ·obtain⟨v,B,D⟩:=hl.2.2.2 i cs j p N X;rw[B]; exact D
theorem BM (h:gN e fr tk H) (hX:XC e H) {sz:Nat} {l:List (List PV)} {vs:List Value} (hl:rH e tk H sz l vs) (ty:TypeId) :
  gO e tk H (e.tok (some ⟨H.next,0,sz,0,0⟩)) fr (tk++[l.length]) (H.push (jG ty H.next sz vs)) /\
  RV (e.tok (some ⟨H.next,0,sz,0,0⟩)) (tk++[l.length]) (H.push (jG ty H.next sz vs)) true (.aS sz l (some tk.length)) (.slice (some ⟨H.next,0,none⟩) l.length l.length):=by
 have Y:mB (je e tk H) (e.tok (some ⟨H.next,0,sz,0,0⟩)) (tk++[l.length]):=by
  refine⟨⟨[],by simp[je,cz.tok],by simp⟩,λ t τ ht=>?_,λ t τ ht=>cK ht,λ t n ht=>⟨n,cK ht,Nat.le_refl _,λ _=>?_⟩⟩
  ·rcases dL ht with⟨_,B⟩ | ⟨_,B⟩
   ·exact .inl B
   ·cases B; exact .inr (Nat.le_refl _)
  ·show(e.toks++[some _])[t]? = e.toks[t]?;rw[List.getElem?_append_left (by rw[h.dD]; exact ax ht)]
 have hf:=qv (e:=e) (tk:=tk) h.wf (jG ty H.next sz vs) (Nat.le_refl _);have aa:=kn Y hf rfl h;have hw:=vm h.wf (r:=jG ty H.next sz vs) rfl;refine⟨⟨⟨hw,h.dY,h.rnd,λ k id R hk G=>?_,by simp[cz.tok,h.dD],λ t t' τ fG ht iO hf=>?_,λ t τ ht=>?_,λ t τ ht hm=>?_⟩,Y,hf,rfl⟩,?_⟩
 ·obtain⟨o,D,_⟩:=(h.row k id R hk G).eF;exact(h.row k id R hk G).eR rfl (by rw[AH.cM,if_neg (by have:=h.wf.lt id _ D; omega)]) λ us h8=>h8.grow aa
 ·rcases dL ht with⟨_,B⟩ | ⟨h0,B⟩ <;> rcases dL iO with⟨_,D⟩ | ⟨V,D⟩
  ·exact h.iy t t' τ fG B D hf
  ·cases D; have:=h.oI t τ B; simp only at hf; omega
  ·cases B; have:=h.oI t' fG D; simp only at hf; omega
  ·omega
 ·rw[AH.di];rcases dL ht with⟨_,B⟩ | ⟨h0,B⟩
  ·have:=h.oI t τ B; omega
  ·cases B; exact Nat.lt_succ_self _
 ·rcases dL ht with⟨_,B⟩ | ⟨h0,B⟩
  ·exact h.tq t τ B hm
  ·cases B; exact h.nR hm
 ·refine RV.GG (vs:=vs) (hl.grow aa) kA ⟨by rw[AH.di]; omega,by rw[AH.di]; exact Nat.lt_succ_self _,hX.new _ _ _ (Nat.le_refl _) (Nat.le_refl _),h.nR,λ t τ n ht hn hf=>?_⟩ rfl (Nat.le_refl _) (λ x v hv=>?_) ?_ (λ k hk=>?_)
  ·rcases dL ht with⟨_,B⟩ | ⟨h0,B⟩
   ·have:=h.oI t τ B; simp only[jG] at hf; omega
   ·cases B;rw[h0,h.dD,da] at hn;cases hn;simp[jG]
  ·show(vs.map some)[0+x]? = _;rw[Nat.zero_add,List.getElem?_map,hv]; rfl
  ·show 0+l.length * sz<=(vs.map some).length;rw[List.length_map,hl.1]; omega
  ·cases hk;refine⟨l.length,da,Nat.le_refl _,λ _=>⟨⟨H.next,0,sz,0,0⟩,?_,rfl,rfl,rfl,rfl,rfl⟩⟩;show(e.toks++[_])[tk.length]? = _;rw[<- h.dD]; exact da
end
end Go.cy
namespace Go.cy
noncomputable section
variable {P:Program} {e:cz} {fr:List aJ} {tk:List Nat} {H:AH}
theorem lZ (H:AH) (id:Nat) (r:Row) (lo n j:Nat) (hr:H.get id=some (.row r)) :
  (H.dK id r lo n).next=H.next /\
  (∀ o,H.get j=some o->(∀ r,o≠.row r)->(H.dK id r lo n).get j=some o) /\
  (∀ o,(H.dK id r lo n).get j=some o->∃ o',H.get j=some o'/\((∀ r,o'≠.row r)->o'=o)/\(∀ r',o=.row r'->∃ r0,o'=.row r0/\r'.aU=r0.aU)) /\
  ∀ r0,H.get j=some (.row r0)->∃ r',(H.dK id r lo n).get j=some (.row r')/\Meta r0 r'/\(r0.aU≠r.aU->r'=r0)/\∀ p,r0.bJ+p < lo->r'.cells[p]? = r0.cells[p]?:=by
 unfold AH.dK;cases hso:r.cW with
 | true=>
  simp only[if_true];refine⟨rfl,λ o ho hn=>?_,λ o ho=>?_,λ r0 h0=>?_⟩
  ·rw[AH.bS,if_neg (λ e=>by subst e; rw[hr] at ho; cases ho; exact hn r rfl)]; exact ho
  ·rw[AH.bS] at ho;split at ho
   ·rename_i e1; subst e1; cases ho; exact⟨_,hr,λ hn=>absurd rfl (hn r),λ r' e=>⟨r,rfl,by cases e; rfl⟩⟩
   ·exact⟨o,ho,λ _=>rfl,λ r' e=>⟨r',e,rfl⟩⟩
  ·rw[AH.bS];by_cases e:j=id
   ·subst e;rw[hr] at h0; cases h0;rw[if_pos rfl];refine⟨_,rfl,⟨rfl,rfl,rfl,rfl,rfl,Row.gJ _ _ _⟩,λ hn=>absurd rfl hn,λ p U=>?_⟩;show(r.eE lo (lo+n)).cells[p]? = _;rw[Row.dS];cases r.cells[p]? with
    | none=>rfl
    | some c=>simp only[Option.map_some]; rw[if_neg (by omega)]
   ·rw[if_neg e];exact⟨r0,h0,Meta.refl r0,λ _=>rfl,λ _ _=>rfl⟩
 | false=>
  simp only[Bool.false_eq_true,if_false];refine⟨rfl,λ o ho hn=>?_,λ o ho=>?_,λ r0 h0=>?_⟩
  ·rw[AH.dS,ho];cases o with
   | row r=>exact absurd rfl (hn r)
   | _=>rfl
  ·rw[AH.dS] at ho;cases X:H.get j with
   | none=>rw[X] at ho; cases ho
   | some o'=>
    rw[X] at ho;simp only[Option.map_some,Option.some.injEq] at ho;refine⟨o',rfl,λ hn=>?_,λ r' e=>?_⟩
    ·cases o' with
     | row r=>exact absurd rfl (hn r)
     | _=>exact ho
    ·subst e;cases o' with
     | row r0=>
      refine⟨r0,rfl,?_⟩;simp only[AO.eE] at ho;split at ho
      ·cases ho; rfl
      ·cases ho; rfl
     | _=>cases ho
  ·rw[AH.dS,h0];simp only[Option.map_some,AO.eE];split
   ·refine⟨_,rfl,⟨rfl,rfl,rfl,rfl,rfl,Row.gJ _ _ _⟩,λ hn=>absurd (by assumption) hn,λ p U=>?_⟩;rw[Row.dS];cases r0.cells[p]? with
    | none=>rfl
    | some c=>simp only[Option.map_some]; rw[if_neg (by omega)]
   ·exact⟨r0,rfl,Meta.refl r0,λ _=>rfl,λ _ _=>rfl⟩
def mZ (r:Row) (off n sz:Nat) (new:List Value):Row:={ cells:=(r.cells.drop off).take (n * sz)++new.map some,ty:=r.ty,aU:=r.aU,bJ:=r.bJ+off,esz:=sz,ro:=false,cW:=false }
theorem Ai {t u el sz bytes id off n m:Nat} {H:AH} {x:Value} {r:Row} {new:List Value} {zs:List Value} {z:Bool}
  (ht:P.underlying t=some (.slice el)) (hu:m9 P (some u)=.ok z) (hs:bD P el=.ok sz) (hb:jJ P el=.ok bytes) (hz:eB P el=.ok zs) (ym:Nat.beq sz 0=false) (mG:Nat.beq bytes 0=false)
  (hr:H.get id=some (.row r)) (gG:r.ro=false) (K5:r.esz=sz) (hlen:off+n * sz<=r.cells.length) (Y:gj P H el z x=.ok (new,m)) (hm:m≠0) (th:(5 * (n+m)+768) * bytes<=1125899906842624)
  (kN:new.all bu=true) :
  iu P H t (some u) (.slice (some ⟨id,off,none⟩) n n) x=.ok (.slice (some ⟨H.next,0,none⟩) (n+m) (n+m),(H.dK id r (r.bJ+off+n * sz) new.length).push (mZ r off n sz new)):=by
 have B:¬ m * bytes > 281474976710656:=by
  have:(4 * m) * bytes<=(5 * (n+m)+768) * bytes:=Nat.mul_le_mul_right _ (by omega);rw[Nat.mul_assoc] at this;omega
 have D:¬ (sz=0\/bytes=0):=by
  rintro(e | e)
  ·subst e; cases ym
  ·subst e; cases mG
 have V:¬ n+m<=n:=by omega
 have eH:H.row id=.ok r:=by unfold AH.row; rw[hr]
 have yn:(H.dK id r (r.bJ+off+n * sz) new.length).next=H.next:=(lZ H id r _ _ 0 hr).1;have jT:=AH.jv (H:=H.dK id r (r.bJ+off+n * sz) new.length) (r:=mZ r off n sz new);rw[yn] at jT;have xi:zg (List.drop off r.cells) (n * sz)=.ok ((r.cells.drop off).take (n * sz)):=by
  unfold zg;rw[if_pos (by rw[List.length_drop]; omega)]
 unfold iu;simp only[ht,hu,hs,hb,Y,bind,Except.bind,if_neg B,if_neg hm,if_neg D,hz,eH,gG,Bool.false_eq_true,if_false,if_neg V,if_pos th,kN,Bool.not_true,K5,ne_eq,not_true_eq_false,xi];have e:(if r.cW=true then H.set id (.row { (r.eE (r.bJ+off+n * sz) (r.bJ+off+n * sz+new.length)) with cW:=false }) else H.eE r.aU (r.bJ+off+n * sz) (r.bJ+off+n * sz+new.length))=H.dK id r (r.bJ+off+n * sz) new.length:=rfl;rw[e];unfold mZ at jT ⊢;rw[jT]
theorem append_nil {t u el sz bytes m:Nat} {H:AH} {x:Value} {new:List Value} {zs:List Value} {z:Bool}
  (ht:P.underlying t=some (.slice el)) (hu:m9 P (some u)=.ok z) (hs:bD P el=.ok sz) (hb:jJ P el=.ok bytes) (hz:eB P el=.ok zs) (ym:Nat.beq sz 0=false) (mG:Nat.beq bytes 0=false)
  (Y:gj P H el z x=.ok (new,m)) (hm:m≠0) (th:(5 * m+768) * bytes<=1125899906842624) :
  iu P H t (some u) (.slice none 0 0) x=.ok (.slice (some ⟨H.next,0,none⟩) m m,H.push (jG el H.next sz new)):=by
 have B:¬ m * bytes > 281474976710656:=by
  have:(4 * m) * bytes<=(5 * m+768) * bytes:=Nat.mul_le_mul_right _ (by omega);rw[Nat.mul_assoc] at this;omega
 have D:¬ (sz=0\/bytes=0):=by
  rintro(e | e)
  ·subst e; cases ym
  ·subst e; cases mG
 unfold iu;simp only[ht,hu,hs,hb,Y,bind,Except.bind,if_neg B,if_neg hm,if_neg D,hz,if_pos th,newRow];have:=AH.jv (H:=H) (r:=jG el H.next sz new);unfold jG at this ⊢;rw[this]
theorem xK {t u el sz bytes:Nat} {H:AH} {x s:Value} {new:List Value} {z:Bool}
  (ht:P.underlying t=some (.slice el)) (hu:m9 P (some u)=.ok z) (hs:bD P el=.ok sz) (hb:jJ P el=.ok bytes)
  (Y:gj P H el z x=.ok (new,0)) (hv:s=.slice none 0 0\/∃ a n c,s=.slice (some a) n c/\n<=c):iu P H t (some u) s x=.ok (s,H):=by
 unfold iu;have B:¬ 0 * bytes > 281474976710656:=by omega
 simp only[ht,hu,hs,hb,Y,bind,Except.bind,if_neg B,if_true];rcases hv with rfl | ⟨a,n,c,rfl,hc⟩
 ·rfl
 ·simp only[if_pos hc]
structure QR (H H1:AH) (aU lo:Nat):Prop where
 nx:H1.next=H.next
 jY:∀ j o,H.get j=some o->(∀ r,o≠.row r)->H1.get j=some o
 ct:∀ j o,H1.get j=some o->∃ o',H.get j=some o'/\((∀ r,o'≠.row r)->o'=o)/\(∀ r',o=.row r'->∃ r0,o'=.row r0/\r'.aU=r0.aU)
 row:∀ j r0,H.get j=some (.row r0)->∃ r',H1.get j=some (.row r')/\Meta r0 r'/\(r0.aU≠aU->r'=r0)/\∀ p,r0.bJ+p < lo->r'.cells[p]? = r0.cells[p]?
theorem QR.dK {H:AH} {id:Nat} {r:Row} {lo n:Nat} (hr:H.get id=some (.row r)):QR H (H.dK id r lo n) r.aU lo:=
 ⟨(lZ H id r lo n 0 hr).1,λ j=>(lZ H id r lo n j hr).2.1,λ j=>(lZ H id r lo n j hr).2.2.1,λ j=>(lZ H id r lo n j hr).2.2.2⟩
theorem Hc (h:gN e fr tk H) (hX:XC e H) {sz:Nat} {l m:List (List PV)} {k id off:Nat} {r:Row} {new:List Value} {τ:Tk} (hl:RV e tk H true (.aS sz l (some k)) (.slice (some ⟨id,off,none⟩) l.length l.length)) (hn:tk[k]? = some l.length)
  (hr:H.get id=some (.row r)) (ht:e.toks[k]? = some (some τ)) (hf:r.aU=τ.aU) (hd:r.bJ+off=τ.base) (hz:sz=τ.esz) (hm:rH e tk H sz m new) (AB:m.length≠0) (gK:sz≠0) {H1:AH} (hD:QR H H1 r.aU (r.bJ+off+l.length * sz)) :
  gO e tk H e fr (tk.set k (l.length+m.length)) (H1.push (mZ r off l.length sz new)) /\
  RV e (tk.set k (l.length+m.length)) (H1.push (mZ r off l.length sz new)) true (.aS sz (l++m) (some k)) (.slice (some ⟨H.next,0,none⟩) (l.length+m.length) (l.length+m.length)) /\
  ∀ (j jd:Nat),e.aY[j]? = some jd->(H1.push (mZ r off l.length sz new)).get jd=H.get jd:=by
 have yn:Nat->H1.next=H.next:=λ _=>hD.nx;have KJ:k < tk.length:=ax hn;have fN:=hD.jY;have nS:=hD.ct;have eH:=hD.row;have zk:∀ j o,H1.get j=some o->(H1.push (mZ r off l.length sz new)).get j=some o:=λ j o ho=>by
  obtain⟨o',mb,_⟩:=nS j o ho;rw[AH.cM,if_neg (by rw[yn 0]; have:=h.wf.lt j o' mb; omega)]; exact ho
 have iC:∀ (j jd:Nat) (R:aJ),e.aY[j]? = some jd->fr[j]? = some R->(H1.push (mZ r off l.length sz new)).get jd=H.get jd:=λ j jd R X G=>by
  rcases h.row j jd R X G with⟨_,r2,us,D,V,h4,h5,h6,h7,h8⟩ | ⟨_,es,c,_,_,D,_⟩
  ·obtain⟨r',k1,k2,k3,k4⟩:=eH jd r2 D;have:r'=r2:=k3 (λ e1=>h.tq k τ ht (by rw[<- hf,<- e1,h6]; exact List.mem_of_getElem? X));subst this;rw[zk _ _ k1,D]
  ·rw[zk _ _ (fN jd _ D (λ r e1=>by cases e1)),D]
 have Y:mB (je e tk H) e (tk.set k (l.length+m.length)):=by
  refine⟨⟨[],by simp[je],by simp⟩,λ _ _ h=>.inl h,λ _ _ h=>h,λ t n (hq:tk[t]? = some n)=>?_⟩;by_cases e1:t=k
  ·rw[e1,hn] at hq; cases hq;rw[e1];exact⟨_,List.getElem?_set_self KJ,by omega,λ _=>rfl⟩
  ·exact⟨n,by rw[List.getElem?_set_ne (Ne.symm e1)]; exact hq,Nat.le_refl _,λ _=>rfl⟩
 have jj:Frame (je e tk H) (H1.push (mZ r off l.length sz new)):=by
  refine⟨by rw[AH.di,yn 0]; exact Nat.le_succ _,λ j r0 h0 _=>?_,λ j o ho hn _=>zk j o (fN j o ho hn),λ j B D=>?_,λ j r' ga=>?_⟩
  case refine_3=>
   rw[AH.cM] at ga;split at ga
   ·cases ga; exact .inl ⟨id,r,hr,rfl⟩
   ·obtain⟨o',mb,_,D⟩:=nS j _ ga;obtain⟨r0,rfl,V⟩:=D r' rfl;exact .inl ⟨j,r0,mb,V.symm⟩
  case refine_2=>
   have nG:j < H.next:=B;rw[AH.cM,if_neg (by rw[yn 0]; omega)];cases X:H1.get j with
   | none=>rfl
   | some o=>
    obtain⟨o',mb,_⟩:=nS j o X;have uE:H.get j=none:=D;rw[uE] at mb; cases mb
  obtain⟨r',B,D,V,h4⟩:=eH j r0 h0;refine⟨r',zk j _ B,D,λ p U=>?_,λ kV=>by rw[V (by rw[hf]; exact kV k τ ht)]⟩;by_cases e1:r0.aU=r.aU
  ·have:=U k τ l.length ht hn (e1.trans hf) (by rw[<- hz]; exact gK);exact h4 p (by rw[hz]; omega)
  ·rw[V e1]
 have aa:=kn Y jj rfl h;have cG:id < H.next:=h.wf.lt id _ hr;refine⟨⟨⟨⟨λ j o ho=>?_,λ j r' ga=>?_,pX h.wf λ j r' ga=>?_⟩,h.dY,h.rnd,λ j jd R X G=>?_,by simp[h.dD],h.iy,λ t fG iO=>by rw[AH.di,yn 0]; have:=h.oI t fG iO; omega,h.tq⟩,Y,jj,rfl⟩,?_,λ j jd X=>?_⟩
 ·rw[AH.cM] at ho;rw[AH.di,yn 0];split at ho
  ·rw[yn 0] at *; omega
  ·obtain⟨o',mb,_⟩:=nS j o ho;have:=h.wf.lt j o' mb; omega
 ·rw[AH.cM] at ga;rw[AH.di,yn 0];split at ga
  ·cases ga;have:r.aU < H.next:=h.wf.aU id r hr;show r.aU < _; omega
  ·obtain⟨o',mb,_,D⟩:=nS j _ ga;obtain⟨r0,rfl,V⟩:=D r' rfl;have:=h.wf.aU j r0 mb; omega
 ·rw[AH.cM] at ga;split at ga
  ·cases ga;cases hl with
   | @aS _ _ _ _ _ _ _ _ r2 w RX IE hs he hc hw uN U hv hh NW=>
    rw[hr] at RX; cases RX;obtain⟨_,n0,q1,q2,q3⟩:=NW k rfl;have Bm:l.length=n0:=by rw[hn] at q1; exact Option.some.inj q1
    obtain⟨_,_,_,_,_,q4,_⟩:=q3 Bm;exact .inr ⟨id,r,hr,rfl,he.symm,q4.symm⟩
  ·obtain⟨o',mb,_,D⟩:=nS j _ ga;obtain⟨r0,rfl,_⟩:=D r' rfl;obtain⟨r'',k1,k2,_⟩:=eH j r0 mb;rw[ga] at k1; cases k1;exact .inr ⟨j,r0,mb,k2.aU,k2.esz,k2.ro⟩
 ·exact(h.row j jd R X G).eR rfl (iC j jd R X G) λ us h8=>h8.grow aa
 ·cases hl with
  | @aS _ _ _ _ _ _ _ _ r' w ga IE hs he hc hw uN U hv hh NW=>
   rw[hr] at ga; cases ga;have kM:((r.cells.drop off).take (l.length * sz)).length=l.length * sz:=by rw[List.length_take,List.length_drop]; omega
   have NX:new.length=m.length * sz:=hm.1;have hlen:(l++m).length=l.length+m.length:=List.length_append;have key:∀ {β:Prop} (i:Nat) (cs:List PV),(l++m)[i]? = some cs->(i < l.length->l[i]? = some cs->β)->(∀ j,i=l.length+j->m[j]? = some cs->β)->β:=λ i cs N B D=>by
    by_cases cG:i < l.length
    ·rw[List.getElem?_append_left cG] at N; exact B cG N
    ·rw[List.getElem?_append_right (by omega)] at N; exact D (i - l.length) (by omega) N
   rw[<- hlen];refine .aS (r:=mZ r off l.length sz new) (λ i j=>if i < l.length then w i j else(new[(i - l.length) * sz+j]?).getD undef) ?_ (Nat.le_refl _) ⟨?_,?_,?_,h.nR,λ t fG n iO sJ DG=>?_⟩ rfl (Nat.le_refl _) ?_
    (λ i cs N=>key i cs N (λ _ k=>uN i cs k) (λ j _ k=>hm.2.1 j cs k)) (λ i cs j p N X=>key i cs N (λ _ k=>U i cs j p k X) (λ j' _ k=>hm.2.2.1 j' cs j p k X)) (λ i cs j p N X=>?_) (λ i cs j p N X=>?_) (λ k' lF=>?_)
   ·rw[AH.cM,if_pos (yn 0).symm]
   ·rw[AH.di,yn 0]; exact Nat.lt_succ_self _
   ·rw[AH.di,yn 0]; have:r.aU < H.next:=h.wf.aU id r hr; show r.aU < _; omega
   ·show e.an H.next r.aU _;rw[hf]; exact hX.tok k τ _ _ ht (Nat.le_refl _)
   ·have:t=k:=h.iy t k fG τ iO ht (by rw[<- DG,<- hf]; rfl);subst this;rw[ht] at iO; cases iO;rw[List.getElem?_set_self KJ] at sJ; cases sJ;show r.bJ+off+(0+(l++m).length * sz)<=_;rw[hlen,hz]; omega
   ·show 0+(l++m).length * sz<=((r.cells.drop off).take (l.length * sz)++new.map some).length;rw[hlen,List.length_append,kM,List.length_map,NX,Nat.add_mul]; omega
   ·show((r.cells.drop off).take (l.length * sz)++new.map some)[0+i * sz+j]? = _;rw[Nat.zero_add];refine key i cs N (λ cG k=>?_) (λ i' e1 k=>?_)
    ·have jc:j < sz:=by rw[<- uN i cs k]; exact ax X
     have:=wC cG jc;rw[List.getElem?_append_left (by omega),List.getElem?_take,if_pos this,List.getElem?_drop,if_pos cG,show off+(i * sz+j)=off+i * sz+j by omega];exact hv i cs j p k X
    ·obtain⟨v,B,_⟩:=hm.2.2.2 i' cs j p k X;have V:i * sz+j=l.length * sz+(i' * sz+j):=by rw[e1,Nat.add_mul]; omega
     rw[if_neg (by omega),show i - l.length=i' by omega,List.getElem?_append_right (by omega),kM,V,show l.length * sz+(i' * sz+j) - l.length * sz=i' * sz+j by omega,List.getElem?_map,B]; rfl
   ·refine key i cs N (λ cG k=>?_) (λ i' e1 k=>?_)
    ·simp only[if_pos cG]; rw[hlen]; exact(hh i cs j p k X).grow aa
    ·obtain⟨v,B,D⟩:=hm.2.2.2 i' cs j p k X;simp only[if_neg (show ¬ i < l.length by omega),show i - l.length=i' by omega,B];rw[hlen]; exact D.grow aa
   ·cases lF;refine⟨rfl,l.length+m.length,by rw[hlen]; exact List.getElem?_set_self KJ,by omega,λ _=>⟨τ,ht,hf,?_,hz,rfl,rfl⟩⟩;show r.bJ+off+0=τ.base;omega
 ·obtain⟨R,G⟩:=aP (l:=fr) (i:=j) (by rw[<- h.dY]; exact ax X);exact iC j jd R X G
end
end Go.cy
namespace Go.cy
noncomputable section
variable {P:Program} {e:cz} {fr:List aJ} {tk:List Nat} {H:AH}
def cz.wD (e:cz) (k:Nat) (τ:Tk):cz:={ e with toks:=e.toks.set k (some τ) }
theorem hZ {α:Type} {l:List α} {k t:Nat} {x y:α} (h:(l.set k x)[t]? = some y):(t=k/\y=x)\/(t≠k/\l[t]? = some y):=by
 by_cases e1:t=k
 ·subst e1;rw[List.getElem?_set_self (by have:=ax h; simpa using this)] at h;cases h; exact .inl ⟨rfl,rfl⟩
 ·rw[List.getElem?_set_ne (Ne.symm e1)] at h; exact .inr ⟨e1,h⟩
theorem JY (h:gN e fr tk H) (hX:XC e H) {sz:Nat} {m:List (List PV)} {k:Nat} {new:List Value} (ht:e.toks[k]? = some none) (hn:tk[k]? = some 0) (hm:rH e tk H sz m new) (AB:m.length≠0) (ty:TypeId) :
  gO e tk H (e.wD k ⟨H.next,0,sz,0,0⟩) fr (tk.set k m.length) (H.push (jG ty H.next sz new)) /\
  RV (e.wD k ⟨H.next,0,sz,0,0⟩) (tk.set k m.length) (H.push (jG ty H.next sz new)) true (.aS sz m (some k)) (.slice (some ⟨H.next,0,none⟩) m.length m.length):=by
 have KJ:k < tk.length:=ax hn;have hkt:k < e.toks.length:=ax ht;have Y:mB (je e tk H) (e.wD k ⟨H.next,0,sz,0,0⟩) (tk.set k m.length):=by
  refine⟨⟨[],by simp[je,cz.wD],by simp⟩,λ t τ B=>?_,λ t τ B=>?_,λ t n (hq:tk[t]? = some n)=>?_⟩
  ·rcases hZ B with⟨_,D⟩ | ⟨_,D⟩
   ·cases D; exact .inr (Nat.le_refl _)
   ·exact .inl D
  ·have nG:e.toks[t]? = some (some τ):=B;show(e.toks.set k _)[t]? = _;rw[List.getElem?_set_ne (λ e1=>by subst e1; rw[ht] at nG; cases nG)]; exact nG
  ·by_cases e1:t=k
   ·rw[e1,hn] at hq; cases hq;exact⟨m.length,by rw[e1]; exact List.getElem?_set_self KJ,Nat.zero_le _,λ e2=>absurd e2 AB⟩
   ·exact⟨n,by rw[List.getElem?_set_ne (Ne.symm e1)]; exact hq,Nat.le_refl _,λ _=>by show(e.toks.set k _)[t]? = e.toks[t]?; rw[List.getElem?_set_ne (Ne.symm e1)]⟩
 have hf:=qv (e:=e) (tk:=tk) h.wf (jG ty H.next sz new) (Nat.le_refl _);have aa:=kn Y hf rfl h;have hw:=vm h.wf (r:=jG ty H.next sz new) rfl;refine⟨⟨⟨hw,h.dY,h.rnd,λ k id R hk G=>?_,by simp[cz.wD,h.dD],λ t t' τ fG ht iO hf=>?_,λ t τ ht=>?_,λ t τ ht hm=>?_⟩,Y,hf,rfl⟩,?_⟩
 ·obtain⟨o,D,_⟩:=(h.row k id R hk G).eF;exact(h.row k id R hk G).eR rfl (by rw[AH.cM,if_neg (by have:=h.wf.lt id _ D; omega)]) λ us h8=>h8.grow aa
 ·rcases hZ ht with⟨h0,B⟩ | ⟨_,B⟩ <;> rcases hZ iO with⟨V,D⟩ | ⟨_,D⟩
  ·omega
  ·cases B; have:=h.oI t' fG D; simp only at hf; omega
  ·cases D; have:=h.oI t τ B; simp only at hf; omega
  ·exact h.iy t t' τ fG B D hf
 ·rw[AH.di];rcases hZ ht with⟨h0,B⟩ | ⟨_,B⟩
  ·cases B; exact Nat.lt_succ_self _
  ·have:=h.oI t τ B; omega
 ·rcases hZ ht with⟨h0,B⟩ | ⟨_,B⟩
  ·cases B; exact h.nR hm
  ·exact h.tq t τ B hm
 ·refine RV.GG (vs:=new) (hm.grow aa) kA ⟨by rw[AH.di]; omega,by rw[AH.di]; exact Nat.lt_succ_self _,hX.new _ _ _ (Nat.le_refl _) (Nat.le_refl _),h.nR,λ t τ n ht hn hf=>?_⟩ rfl (Nat.le_refl _) (λ x v hv=>?_) ?_ (λ k' hk=>?_)
  ·rcases hZ ht with⟨h0,B⟩ | ⟨_,B⟩
   ·cases B;rw[h0,List.getElem?_set_self KJ] at hn;cases hn;simp[jG]
   ·have:=h.oI t τ B; simp only[jG] at hf; omega
  ·show(new.map some)[0+x]? = _;rw[Nat.zero_add,List.getElem?_map,hv]; rfl
  ·show 0+m.length * sz<=(new.map some).length;rw[List.length_map,hm.1]; omega
  ·cases hk;refine⟨m.length,List.getElem?_set_self KJ,Nat.le_refl _,λ _=>⟨⟨H.next,0,sz,0,0⟩,?_,rfl,rfl,rfl,rfl,rfl⟩⟩;exact List.getElem?_set_self hkt
theorem rH.plain {sz:Nat} {m:List (List PV)} {new:List Value} (hm:rH e tk H sz m new):new.all bu=true:=by
 rw[List.all_eq_true];intro v hv;obtain⟨x,Y,rfl⟩:=List.mem_iff_getElem.1 hv;have Hp:x < m.length * sz:=by rw[<- hm.1]; exact Y
 have gK:0 < sz:=by
  rcases Nat.eq_zero_or_pos sz with h | h
  ·rw[h,Nat.mul_zero] at Hp; omega
  ·exact h
 have N:x / sz < m.length:=(Nat.div_lt_iff_lt_mul gK).2 Hp;obtain⟨cs,Bl⟩:=aP N;obtain⟨p,U⟩:=aP (l:=cs) (i:=x % sz) (by rw[hm.2.1 _ _ Bl]; exact Nat.mod_lt _ gK);obtain⟨w,B,D⟩:=hm.2.2.2 _ _ _ _ Bl U;rw[show x / sz * sz+x % sz=x by rw[Nat.mul_comm]; exact Nat.div_add_mod x sz,List.getElem?_eq_getElem Y] at B;cases B;exact vu D (hm.2.2.1 _ _ _ _ Bl U)
theorem zP:∀ (ak:Nat) (cells:List (Option Value)) (f:Nat->Value),(∀ x,x < ak->cells[x]? = some (some (f x)))->jN cells ak=.ok ((List.range ak).map f)
 | 0,cells,f,_=>by cases cells <;> rfl
 | ak+1,cells,f,h=>by
  have h0:=h 0 (by omega);cases cells with
  | nil=>simp at h0
  | cons c l=>
   simp at h0;subst h0;show(jN l ak >>= λ x=>Except.ok (f 0 :: x))=_;rw[zP ak l (λ x=>f (x+1)) (λ x Y=>by have:=h (x+1) (by omega); simpa using this)];rw[List.range_succ_eq_map];simp[bind,Except.bind,Function.comp_def]
theorem wR {b:Bool} {sz:Nat} {m:List (List PV)} {t:Option Nat} {v:Value} (h:RV e tk H b (.aS sz m t) v):v=.slice none 0 0/\m=[]\/∃ id off c r new,v=.slice (some ⟨id,off,none⟩) m.length c/\H.get id=some (.row r)/\m.length<=c/\r.esz=sz /\
  jN (r.cells.drop off) (m.length * sz)=.ok new/\rH e tk H sz m new/\off+m.length * sz<=r.cells.length/\(∃ n,off+m.length * sz<=n/\lJ e tk H id r.aU (r.bJ+n))/\∀ k,t=some k->CD e tk sz r off m.length c k:=by
 cases h with
 | fU ht=>exact .inl ⟨rfl,rfl⟩
 | @aS _ _ _ _ id off c n r w hr hn hs he hc hw hz U hv hh ht=>
  refine .inr ⟨id,off,c,r,_,rfl,hr,hc,he,zP _ _ (λ x=>w (x / sz) (x % sz)) (λ x Y=>?_),⟨by simp,hz,U,λ i cs j p N X=>?_⟩,hw,⟨n,hn,hs⟩,λ k hk=>(ht k hk).2⟩
  ·have gK:0 < sz:=by
    rcases Nat.eq_zero_or_pos sz with h | h
    ·rw[h,Nat.mul_zero] at Y; omega
    ·exact h
   have N:x / sz < m.length:=(Nat.div_lt_iff_lt_mul gK).2 Y;obtain⟨cs,Bl⟩:=aP N;obtain⟨p,lE⟩:=aP (l:=cs) (i:=x % sz) (by rw[hz _ _ Bl]; exact Nat.mod_lt _ gK);rw[List.getElem?_drop];have B:=hv _ _ _ _ Bl lE;rw[show off+x / sz * sz+x % sz=off+x by have:=Nat.div_add_mod x sz; rw[Nat.mul_comm] at this; omega] at B;exact B
  ·have jc:j < sz:=by rw[<- hz i cs N]; exact ax X
   have Y:=wC (ax N) jc;refine⟨w i j,?_,hh i cs j p N X⟩;rw[List.getElem?_map,List.getElem?_range Y];simp only[Option.map_some];rw[show(i * sz+j) / sz=i by rw[Nat.mul_comm,Nat.mul_add_div (by omega),Nat.div_eq_of_lt jc]; rfl,show(i * sz+j) % sz=j by rw[Nat.mul_comm,Nat.mul_add_mod,Nat.mod_eq_of_lt jc]]
theorem lD {b:Bool} {sz el:Nat} {m:List (List PV)} {t:Option Nat} {v:Value} (h:RV e tk H b (.aS sz m t) v) (hs:bD P el=.ok sz):∃ new,gj P H el false v=.ok (new,m.length)/\rH e tk H sz m new:=by
 rcases wR h with⟨rfl,rfl⟩ | ⟨id,off,c,r,new,rfl,hr,hc,he,ht,hl,_⟩
 ·refine⟨[],?_,⟨by simp,λ i cs N=>by simp at N,λ i cs j p N=>by simp at N,λ i cs j p N=>by simp at N⟩⟩;unfold gj; simp only[hs,bind,Except.bind]; rfl
 ·refine⟨new,?_,hl⟩;unfold gj;simp only[hs,bind,Except.bind,Bool.false_eq_true,if_false];have:qh H id off (m.length * sz)=.ok new:=by
   unfold qh;split
   ·rename_i h0;rw[h0] at ht;rw[<- ht];cases (List.drop off r.cells) <;> rfl
   ·have eH:H.row id=.ok r:=by unfold AH.row; rw[hr]
    simp only[eH,bind,Except.bind]; exact ht
  rw[this]
theorem BN (h:gN e fr tk H) (hX:XC e H) {t u el sz bytes:Nat} {xv v:Value} {new:List Value} {zs:List Value} {z:Bool} {l m:List (List PV)} {k:Nat}
  (ht:P.underlying t=some (.slice el)) (hu:m9 P (some u)=.ok z) (hs:bD P el=.ok sz) (hb:jJ P el=.ok bytes) (hz:eB P el=.ok zs) (ym:Nat.beq sz 0=false) (mG:Nat.beq bytes 0=false)
  (hl:RV e tk H true (.aS sz l (some k)) v) (hn:tk[k]? = some l.length) (Y:gj P H el z xv=.ok (new,m.length)) (hm:rH e tk H sz m new) (th:(5 * (l.length+m.length)+768) * bytes<=1125899906842624) :
  ∃ e' H' v',iu P H t (some u) v xv=.ok (v',H')/\gO e tk H e' fr (tk.set k (l.length+m.length)) H'/\RV e' (tk.set k (l.length+m.length)) H' true (.aS sz (l++m) (some k)) v'/\∀ (j jd:Nat),e.aY[j]? = some jd->H'.get jd=H.get jd:=by
 by_cases AB:m.length=0
 ·have Hr:m=[]:=List.eq_nil_of_length_eq_zero AB;subst Hr;have pJ:tk.set k (l.length+0)=tk:=by
   apply List.ext_getElem?;intro i;by_cases e1:i=k
   ·subst e1; rw[List.getElem?_set_self (ax hn),hn]; rfl
   ·rw[List.getElem?_set_ne (Ne.symm e1)]
  refine⟨e,H,v,xK ht hu hs hb Y ?_,?_,?_,λ _ _ _=>rfl⟩
  ·rcases wR hl with⟨rfl,_⟩ | ⟨id,off,c,r,nw,rfl,_,hc,_⟩
   ·exact .inl rfl
   ·exact .inr ⟨_,_,_,rfl,hc⟩
  ·rw[List.length_nil,pJ]; exact gO.refl h
  ·rw[List.length_nil,pJ,List.append_nil]; exact hl
 ·rcases wR hl with⟨rfl,rfl⟩ | ⟨id,off,c,r,nw,rfl,hr,hc,he,xi,Uw,hlen,fW,HL⟩
  ·cases hl with
   | fU cG=>
    obtain⟨_,n,B,D⟩:=cG k rfl;have xg:n=0:=by rw[B] at hn; cases hn; rfl
    subst xg;obtain⟨s1,s2⟩:=JY h hX (D rfl) B hm AB el;refine⟨e.wD k ⟨H.next,0,sz,0,0⟩,H.push (jG el H.next sz new),.slice (some ⟨H.next,0,none⟩) m.length m.length,append_nil ht hu hs hb hz ym mG Y AB (by simpa using th),?_,?_,λ j jd X=>?_⟩
    ·simpa using s1
    ·simpa using s2
    ·rw[AH.cM,if_neg (λ e1=>h.nR (by rw[<- e1]; exact List.mem_of_getElem? X))]
  ·obtain⟨n,B,D,V⟩:=HL k rfl;have sJ:n=l.length:=by rw[B] at hn; cases hn; rfl
   subst sJ;obtain⟨τ,k1,k2,k3,k4,k5,k6⟩:=V rfl;subst k6;obtain⟨s1,s2,s3⟩:=Hc h hX hl B hr k1 k2 k3 k4 hm AB (λ e=>by subst e; exact absurd ym (by decide)) (QR.dK (n:=new.length) hr);exact⟨e,_,_,Ai ht hu hs hb hz ym mG hr k5 he hlen Y AB th hm.plain,s1,s2,s3⟩
end
end Go.cy
namespace Go.cy
noncomputable section
def mg:Nat->T Value->Prop
 | 0,_=>True
 | k+1,t=>∃ v l r,t=T.node v l r/\mg k l/\mg k r
theorem mg.oP:∀ k,mg k (T.oP k)
 | 0=>trivial
 | k+1=>⟨none,T.oP k,T.oP k,rfl,mg.oP k,mg.oP k⟩
theorem mg.put {n:Nat} : ∀ {k:Nat} {t:T Value},mg k t->∀ (d:Nat) (v:Value),mg k (T.put n t d v)
 | 0,_,_,_,_=>trivial
 | k+1,_,⟨x,l,r,rfl,hl,hr⟩,d,v=>by
  rw[T.EB];split
  ·exact⟨_,_,_,rfl,hl,hr⟩
  ·split
   ·exact⟨_,_,_,rfl,hl.put _ _,hr⟩
   ·exact⟨_,_,_,rfl,hl,hr.put _ _⟩
theorem mg.start {n:Nat} {vs:List Value} : mg 10 (cO n vs).tm:=by
 unfold cO;have key:∀ (l:List (Value×Nat)) (t:T Value),mg 10 t->mg 10 (l.foldl (λ t (p:Value×Nat)=>T.put AH.top t p.2 p.1) t):=by
  intro l
  induction l with
  | nil=>intro t h; exact h
  | cons p l ih=>intro t h; exact ih _ (h.put _ _)
 exact key _ _ (mg.oP 10)
end
end Go.cy
namespace Go.cy
noncomputable section
variable {P:Program} {O:ia}
def od (P:Program) (os:List Oper) (cl:List Nat):List Nat->Nat->Nat->Option Nat->Bool
 | [],done,_,_=>done == 2 ^ os.length - 1
 | j :: js,done,bL,ch=>
  match os[j]? with
  | none=>false
  | some o=>!done.testBit j && (c8 (cl.getD j 0) done && (!bP o && ((dR o.op).isNone &&
   (if eJ P o.op then od P os cl js (done ||| 2 ^ j) bL ch
    else if fC o.op then(match ch with | none=>true | some c=>(cl.getD j 0).testBit c) && od P os cl js (done ||| 2 ^ j) bL ch
    else c8 (done ^^^ bL) (cl.getD j 0) && ((match ch with | none=>true | some c=>(cl.getD j 0).testBit c) && od P os cl js (done ||| 2 ^ j) (done ||| 2 ^ j) (some j))))))
def tz (os:List Oper) (js:List Nat):List Oper:=js.filterMap λ j=>os[j]?
def mM (P:Program) (os:List Oper) (order:List Nat):Bool:=
 (P.follows .mixedOrders && (pt os (ix os) && (os.all (λ o=>!bP o) && (sU P os (ix os) == order && od P os (ix os) order 0 0 none))))
theorem vM:∀ (os:List Oper) (i next:Nat),os.all (λ o=>!bP o)=true->iT os i next=([],next)
 | [],_,_,_=>rfl
 | o :: os,i,next,h=>by
  simp only[List.all_cons,Bool.and_eq_true,Bool.not_eq_true'] at h;have ih:=vM os (i+1) next h.2
  simp only[iT,h.1];exact ih
def S8:List (Nat×PM)->Option Nat
 | []=>none
 | (c,_) :: _=>some c
theorem Aj {rec:eL} {rnd:Option Nat} {os:List Oper} {cl:List Nat} : ∀ (js:List Nat) (s:DS) (a':az) (H':AH),s.ps=[]->od P os cl js s.done s.bL (S8 s.ed)=true ->
  eW P rec rnd os (tz os js) s.a s.m.H=.ok (a',H')->∃ s',js.foldlM (eY P rec os cl) s=.ok s'/\s'.a=a'/\s'.m.H=H'/\s'.done=2 ^ os.length - 1/\s'.ps=[]
 | [],s,a',H',mo,U,h=>by
  simp only[od,beq_iff_eq] at U;simp only[tz,List.filterMap_nil,eW] at h;cases h;exact⟨s,rfl,rfl,rfl,U,mo⟩
 | j :: js,s,a',H',mo,U,h=>by
  simp only[od] at U;cases ho:os[j]? with
  | none=>rw[ho] at U; cases U
  | some o=>
   rw[ho] at U;simp only[Bool.and_eq_true,Bool.not_eq_true',Option.isNone_iff_eq_none] at U;obtain⟨B,D,V,h4,h5⟩:=U;have XO:tz os (j :: js)=o :: tz os js:=by simp[tz,ho]
   rw[XO] at h;obtain⟨v,H1,a1,g1,g2,g3⟩:∃ v H1 a1,tp P rec os s.a s.m.H o=.ok (v,H1)/\s.a.put o.dst v=.ok a1/\eW P rec rnd os (tz os js) a1 H1=.ok (a',H'):=by
    simp only[eW] at h;obtain⟨b,k1,k2⟩:=bE h;cases b with
    | true=>
     simp only[if_true,h4] at k2;obtain⟨⟨v,H1⟩,k3,k4⟩:=bE k2;obtain⟨a1,k5,k6⟩:=bE k4;exact⟨v,H1,a1,by unfold tp; rw[k1]; exact k3,k5,k6⟩
    | false=>
     simp only[Bool.false_eq_true,if_false] at k2;obtain⟨a1,k5,k6⟩:=bE k2;exact⟨undef,s.m.H,a1,by unfold tp; rw[k1]; rfl,k5,k6⟩
   have Er:∀ s1,eY P rec os cl s j=.ok s1->s1.a=a1->s1.m.H=H1->od P os cl js s1.done s1.bL (S8 s1.ed)=true->s1.ps=[]->∃ s',(j :: js).foldlM (eY P rec os cl) s=.ok s'/\s'.a=a'/\s'.m.H=H'/\s'.done=2 ^ os.length - 1/\s'.ps=[]:=by
    intro s1 e1 e2 e3 e4 e5;subst e2; subst e3;obtain⟨s',q1,q2⟩:=Aj js s1 a' H' e5 e4 g3;refine⟨s',?_,q2⟩;rw[List.foldlM_cons,e1];exact q1
   have ti:∀ c,s.m.dy c []=s.m.H:=λ c=>rfl;have mH:iI []=0:=rfl;by_cases rz:eJ P o.op=true
   ·rw[if_pos rz] at h5;have e:H1=s.m.H:=(vt rz g1).1;refine Er { s with done:=s.done ||| 2 ^ j,a:=a1 } ?_ rfl e.symm h5 mo;unfold eY;simp only[ho,B,D,V,Bool.false_eq_true,if_false,Bool.not_true,mo,ti,g1];simp only[bind,Except.bind,g2,rz,if_true]
   ·rw[if_neg rz] at h5;by_cases AE:fC o.op=true
    ·rw[if_pos AE] at h5;simp only[Bool.and_eq_true] at h5;have e:H1=s.m.H:=zN AE g1;have RT:dw P rec os [] s.a o v (cl.getD j 0) s.ed=true:=by
      cases Dt:s.ed with
      | nil=>rfl
      | cons x l=>
       obtain⟨c,m⟩:=x;have:=h5.1;rw[Dt] at this;simp only[S8] at this;simp only[dw,this,if_true]
     refine Er { s with done:=s.done ||| 2 ^ j,a:=a1 } ?_ rfl e.symm h5.2 mo;unfold eY;simp only[ho,B,D,V,Bool.false_eq_true,if_false,Bool.not_true,mo,ti,g1];simp only[bind,Except.bind,g2,rz,AE,if_true,RT,if_false];rfl
    ·rw[if_neg AE] at h5;simp only[Bool.and_eq_true] at h5;have hb:c8 (s.done ^^^ s.bL) (cl.getD j 0 ||| iI [])=true:=by rw[mH,Nat.or_zero]; exact h5.1
     have hc:(match s.ed with | []=>true | (c0,_) :: _=>(cl.getD j 0).testBit c0)=true:=by
      have:=h5.2.1;cases Dt:s.ed with
      | nil=>rfl
      | cons x l=>rw[Dt] at this; exact this
     refine Er { done:=s.done ||| 2 ^ j,bL:=s.done ||| 2 ^ j,ed:=(j,s.m) :: s.ed,a:=a1,m:=⟨H1,s.m.gx ||| cl.getD j 0⟩,ps:=s.ps } ?_ rfl rfl h5.2.2 mo;unfold eY;simp only[ho,B,D,V,Bool.false_eq_true,if_false,Bool.not_true,mo,ti,g1];simp only[bind,Except.bind,g2,rz,AE,hb,if_false,Bool.not_true,Bool.false_eq_true];refine if_neg (λ Y=>?_);rw[Bool.not_eq_true'] at Y;exact Bool.noConfusion (hc.symm.trans Y)
theorem Hd {rec:eL} {rnd:Option Nat} {os:List Oper} {order:List Nat} {a a':az} {H H':AH} (U:mM P os order=true) (h:eW P rec rnd os (tz os order) a H=.ok (a',H')):rP P rec os a H=.ok (a',H'):=by
 unfold mM at U;simp only[Bool.and_eq_true,beq_iff_eq] at U;obtain⟨_,D,V,h4,h5⟩:=U;unfold rP;simp only[D,if_true,vM os 0 H.next V,h4];obtain⟨s',q1,q2,q3,q4,q5⟩:=Aj (rnd:=rnd) order { done:=0,bL:=0,ed:=[],a:=a,m:=⟨H,0⟩,ps:=[] } a' H' rfl h5 h;show(order.foldlM (eY P rec os (ix os)) { done:=0,bL:=0,ed:=[],a:=a,m:=⟨H,0⟩,ps:=[] } >>= λ s=>if s.done=2 ^ os.length - 1 then .ok (s.a,s.m.dy s.done s.ps) else .error 121)=_;rw[q1];show(if s'.done=2 ^ os.length - 1 then Except.ok (s'.a,s'.m.dy s'.done s'.ps) else .error 121)=_;rw[if_pos q4,<- q2,<- q3,q5];rfl
theorem WC.drawn {rnd:Option Nat} {i:Nat} {ops:Array Oper} {z:Code} {a:az} {H:AH} {Q:AX->az->AH->Prop} {order:List Nat} (U:mM P ops.toList order=true)
  (h:WO P O rnd ops.toList (tz ops.toList order) a H (λ a1 H1=>WC P O rnd z a1 H1 Q)):WC P O rnd (.seq (.region i ops true) z) a H Q:=by
 obtain⟨n,a1,H1,B,D⟩:=h;refine WC.seq ⟨n+1,.normal,a1,H1,?_,D⟩;have hf:P.follows .mixedOrders=true:=by
  unfold mM at U;simp only[Bool.and_eq_true] at U;exact U.1
 simp only[bF,bO,hf,Bool.not_true,Bool.false_eq_true,if_false,Hd U B];rfl
end
end Go.cy
namespace Go.cy
noncomputable section
variable {P:Program} {O:ia}
def Row.Gi (r:Row) (off:Nat) (vs:List Value):Row:={ r with cells:=cY r.cells off (vs.map some) }
theorem He {H:AH} {id off:Nat} {r:Row} {vs:List Value} (hr:H.get id=some (.row r)) (gG:r.ro=false) (hs:r.cW=true) (U:vs.all bu=true) (hl:off+vs.length<=r.cells.length):H.gf id off vs=.ok (H.set id (.row (r.Gi off vs))):=by
 unfold AH.gf;have eH:H.row id=.ok r:=by unfold AH.row; rw[hr]
 simp only[eH,bind,Except.bind,gG,U,hs,Bool.false_eq_true,if_false,Bool.not_true,if_true];rw[if_pos hl];have e:({ cells:=cY r.cells off (vs.map some),ty:=r.ty,aU:=r.aU,bJ:=r.bJ,esz:=r.esz,ro:=false,cW:=true } : Row)=r.Gi off vs:=by
  unfold Row.Gi; rw[<- gG,<- hs]
 rw[e]
section ops
variable {rnd:Option Nat} {all os:List Oper} {a:az} {H:AH} {Q:az->AH->Prop} {d:Option Tmp} {ty:TypeId} {ps:String} {af:Array Edge} {gu:Option (Nat×Bool)}
end ops
end
end Go.cy
namespace Go.cy
noncomputable section
variable {P:Program} {O:ia}
structure PS where
 tm:T PV
 n:Nat
 fr:List aJ
 tk:List Nat
 r0:Nat
 t0:Nat
 ms:List (Option Tmp)
def tA (lo:Nat) (a:az) (H:AH):Option Tmp->rF->Prop
 | none,.mark m=>lo<=m/\H.get m=some (.mark true)
 | some t,.call f vs=>∃ first cap,a.tm.get t=some (.func (.func f) first cap)/\vs=first.toList++cap.toList
 | _,_=>False
def zB (lo:Nat) (a:az) (H:AH):List (Option Tmp)->Prop
 | [none]=>∀ d∈a.bn,tA lo a H none d
 | ms=>L2 (tA lo a H) ms a.bn
theorem zB.imp {lo:Nat} {a a':az} {H H':AH} {ms:List (Option Tmp)} (h:zB lo a H ms) (hm:a'.bn=a.bn) (N:∀ x∈ms,∀ d∈a.bn,tA lo a H x d->tA lo a' H' x d):zB lo a' H' ms:=by
 have main:L2 (tA lo a H) ms a.bn->L2 (tA lo a' H') ms a'.bn:=λ h=>by
  rw[hm];exact⟨h.1,λ i x y Y hy=>N x (List.mem_of_getElem? Y) y (List.mem_of_getElem? hy) (h.2 i x y Y hy)⟩
 unfold zB at h ⊢;split at h
 ·intro d hd;rw[hm] at hd;exact N none List.mem_cons_self d hd (h d hd)
 ·exact main h
structure fk (lo:Nat) (ms:List (Option Tmp)) (a:az) (H:AH):Prop where
 fc:zB lo a H ms
 nd:∀ (i j m:Nat),a.bn[i]? = some (.mark m)->a.bn[j]? = some (.mark m)->i=j
theorem fk.nil {lo:Nat} {a:az} {H:AH} (h:a.bn=[]):fk lo [] a H:=⟨by show L2 _ _ _; rw[h]; exact L2.nil,λ i j m N=>by rw[h] at N; simp at N⟩
theorem fk.any {lo:Nat} {a:az} {H:AH} (h:a.bn=[]):fk lo [none] a H:=⟨λ d hd=>by rw[h] at hd; simp at hd,λ i j m N=>by rw[h] at N; simp at N⟩
theorem fk.none {lo:Nat} {a:az} {H:AH} (h:fk lo [] a H):a.bn=[]:=L2.fE (R:=tA lo a H) h.fc
theorem fk.step {lo:Nat} {ms:List (Option Tmp)} {a:az} {H H':AH} (h:fk lo ms a H) (ho:∀ m,H.get m=some (.mark true)->H'.get m=some (.mark true)):fk lo ms a H':=
 ⟨h.fc.imp rfl λ x _ y _ Du=>by
  cases x <;> cases y <;> first | exact Du | exact⟨Du.1,ho _ Du.2⟩,h.nd⟩
structure cm (C:fS) (e:cz) (s:PS) (a:az) (H:AH):Prop where
 h:df C e s.fr s.tk H
 n:a.n=s.n
 bn:fk C.H0.next s.ms a H
 r0:C.yO.length=s.r0
 t0:C.toks.length=s.t0
 tm:∀ (t:Nat) (p:PV),s.tm.get t=some p->∃ v,a.tm.get t=some v/\RV e s.tk H true p v
def Up (C:fS) {α:Type} (Q:α->PS->Prop):α->az->AH->Prop:=λ x a H=>∃ e s,cm C e s a H/\Q x s
def QS (C:fS) (Q:PS->Prop):az->AH->Prop:=λ a H=>∃ e s,cm C e s a H/\Q s
def LG (rnd:Option Nat) (C:fS):Prop:=∀ l,rnd=some l->∃ r,C.H0.get l=some (.loop r)
def PC (P:Program) (O:ia) (rnd:Option Nat) (c:Code) (s:PS) (Q:AX->PS->Prop):Prop:=
 ∀ C e a H,cm C e s a H->LG rnd C->WC P O rnd c a H (Up C Q)
def PO (P:Program) (O:ia) (rnd:Option Nat) (all os:List Oper) (s:PS) (Q:PS->Prop):Prop:=
 ∀ C e a H,cm C e s a H->WO P O rnd all os a H (QS C Q)
def PF (P:Program) (O:ia) (f:FuncId) (args:List PV) (fr:List aJ) (tk:List Nat) (Q:PV->List aJ->List Nat->Prop):Prop:=
 ∀ e H vs,gN e fr tk H->XC e H->L2 (RV e tk H true) args vs->uP P O f vs H (λ v H'=>∃ e' fr' tk' p,gO e tk H e' fr' tk' H'/\RV e' tk' H' true p v/\Q p fr' tk')
theorem PC.mono {rnd:Option Nat} {c:Code} {s:PS} {Q Q':AX->PS->Prop} (h:PC P O rnd c s Q) (hq:∀ x s,Q x s->Q' x s):PC P O rnd c s Q':=
 λ C e a H G hX=>(h C e a H G hX).mono λ x a' H' ⟨e',s',B,D⟩=>⟨e',s',B,hq _ _ D⟩
theorem WO.mono {rnd:Option Nat} {all os:List Oper} {a:az} {H:AH} {Q Q':az->AH->Prop} (h:WO P O rnd all os a H Q) (hq:∀ a H,Q a H->Q' a H):WO P O rnd all os a H Q':=
 let ⟨n,a',H',B,D⟩:=h; ⟨n,a',H',B,hq _ _ D⟩
section code
variable {rnd:Option Nat} {s:PS} {Q:AX->PS->Prop}
theorem PC.skip (h:Q .normal s):PC P O rnd .skip s Q:=λ C e a H G hX=>WC.skip ⟨e,s,G,h⟩
def Np (P:Program) (O:ia) (rnd:Option Nat) (z:Code) (Q:AX->PS->Prop):AX->PS->Prop
 | .normal,s=>PC P O rnd z s Q
 | x,s=>Q x s
theorem PC.seq {x z:Code} (h:PC P O rnd x s (Np P O rnd z Q)):PC P O rnd (.seq x z) s Q:=λ C e a H G hX=>by
 refine WC.seq ((h C e a H G hX).mono λ x a' H' ⟨e',s',B,D⟩=>?_);cases x with
 | normal=>exact D C e' a' H' B hX
 | _=>exact⟨e',s',B,D⟩
theorem PC.eP {x y z:Code} (h:PC P O rnd (.seq x (.seq y z)) s Q):PC P O rnd (.seq (.seq x y) z) s Q:=λ C e a H G hX=>WC.eP (h C e a H G hX)
theorem PC.lone {x:Code} (h:PC P O rnd (.seq x .skip) s Q):PC P O rnd x s Q:=λ C e a H G hX=>WC.lone (h C e a H G hX)
theorem PC.region {i:Nat} {ops:Array Oper} {z:Code} (h:PO P O rnd ops.toList ops.toList s (λ s1=>PC P O rnd z s1 Q)):PC P O rnd (.seq (.region i ops false) z) s Q:=λ C e a H G hX=>
 WC.region ((h C e a H G).mono λ a' H' ⟨e',s',B,D⟩=>D C e' a' H' B hX)
theorem PC.drawn {i:Nat} {ops:Array Oper} {z:Code} {order:List Nat} (U:mM P ops.toList order=true) (h:PO P O rnd ops.toList (tz ops.toList order) s (λ s1=>PC P O rnd z s1 Q)):PC P O rnd (.seq (.region i ops true) z) s Q:=λ C e a H G hX=>
 WC.drawn U ((h C e a H G).mono λ a' H' ⟨e',s',B,D⟩=>D C e' a' H' B hX)
theorem PC.aZ {z:Code} (h:PC P O rnd z s Q):PC P O rnd (.seq .skip z) s Q:=λ C e a H G hX=>WC.aZ (h C e a H G hX)
theorem PC.ret {z:Code} (h:Q .ret s):PC P O rnd (.seq .ret z) s Q:=λ C e a H G hX=>WC.ret ⟨e,s,G,h⟩
theorem PC.cS (h:Q .ret s):PC P O rnd .ret s Q:=λ C e a H G hX=>WC.cS ⟨e,s,G,h⟩
theorem PC.exit {id:Nat} {z:Code} (h:Q (.exit id) s):PC P O rnd (.seq (.exit id) z) s Q:=λ C e a H G hX=>WC.exit ⟨e,s,G,h⟩
def PS.ev (s:PS):Operand->Option PV
 | .tmp t=>s.tm.get t
 | .const v=>pick (iL gd v) (match v with
   | .agg vs=>pick (vs.toList.all bu) (some (.agg (vs.toList.map .val))) none
   | .tuple _=>none
   | v=>some (.val v)) none
 | .func f=>some (.fn f [] [])
 | .global _=>none
theorem bm {α:Type} {b:Bool} {x:Option α} {z:α} (h:pick b x none=some z):b=true/\x=some z:=by
 cases b with
 | true=>exact⟨rfl,h⟩
 | false=>cases h
theorem cm.ev {C:fS} {e:cz} {a:az} {H:AH} (G:cm C e s a H) {o:Operand} {p:PV} (h:s.ev o=some p):∃ v,a.ev o=some v/\RV e s.tk H true p v:=by
 cases o with
 | tmp t=>exact G.tm t p h
 | const v=>
  simp only[PS.ev] at h;obtain⟨hg,h⟩:=bm h;refine⟨v,by simp only[az.ev,hg]; rfl,?_⟩;cases v with
  | agg vs=>
   simp only at h;obtain⟨U,h⟩:=bm h;cases h;have:RV e s.tk H true (.agg (vs.toList.map .val)) (.agg vs.toList.toArray):=by
    refine .agg (by simp) λ i p v N hv=>?_;rw[List.getElem?_map,hv] at N;cases N;exact .val (List.all_eq_true.1 U v (List.mem_of_getElem? hv))
   simpa using this
  | tuple vs=>cases h
  | _=>cases h; exact .val rfl
 | func f=>cases h; exact⟨_,rfl,.fn (vs:=[]) (ws:=[]) rfl (λ i p v N=>by simp at N) rfl (λ i p v N=>by simp at N)⟩
 | global aa=>cases h
theorem RV.bA {e:cz} {tk:List Nat} {H:AH} {b:Bool} {w v:Value} (h:RV e tk H b (.val w) v):v=w:=by cases h; rfl
theorem PC.cond {o:Operand} {x y z:Code} {b:Bool} (ho:s.ev o=some (.val (.bool b))) (ht:b=true->PC P O rnd (.seq x z) s Q) (hf:b=false->PC P O rnd (.seq y z) s Q):PC P O rnd (.seq (.cond o x y) z) s Q:=λ C e a H G hX=>by
 obtain⟨v,B,D⟩:=G.ev ho;rw[D.bA] at B;exact WC.cond B (λ h=>ht h C e a H G hX) (λ h=>hf h C e a H G hX)
def bk (P:Program) (O:ia) (rnd:Option Nat) (id:Nat) (z:Code) (Q:AX->PS->Prop):AX->PS->Prop
 | .normal,s=>PC P O rnd z s Q
 | .exit j,s=>if j=id then PC P O rnd z s Q else Q (.exit j) s
 | x,s=>Q x s
theorem PC.block {id:Nat} {x z:Code} (h:PC P O rnd x s (bk P O rnd id z Q)):PC P O rnd (.seq (.block id x) z) s Q:=λ C e a H G hX=>by
 refine WC.block ((h C e a H G hX).mono λ x a' H' ⟨e',s',B,D⟩=>?_);cases x with
 | normal=>exact D C e' a' H' B hX
 | exit j=>
  simp only[CC];simp only[bk] at D;split
  ·rename_i X; rw[if_pos X] at D; exact D C e' a' H' B hX
  ·rename_i X; rw[if_neg X] at D; exact⟨e',s',B,D⟩
 | _=>exact⟨e',s',B,D⟩
theorem bk.end {id:Nat} {z:Code} (h:PC P O rnd z s Q):bk P O rnd id z Q .normal s:=h
theorem bk.ct {id:Nat} {z:Code} (h:Q .ret s):bk P O rnd id z Q .ret s:=h
def bh (aj:Nat->PS->Prop) (k:Nat) (Q:AX->PS->Prop):AX->PS->Prop
 | .normal,s=>∃ k',k' < k/\aj k' s
 | x,s=>Q x s
theorem PC.loop {x:Code} (aj:Nat->PS->Prop) (hI:∀ k s,aj k s->PC P O rnd x s (bh aj k Q)) (k:Nat) (h:aj k s):PC P O rnd (.loop x) s Q:=λ C e a H G hX=>by
 refine WC.loop (λ k a H=>∃ e s,cm C e s a H/\aj k s) (λ k a H ⟨e,s,B,D⟩=>?_) k ⟨e,s,G,h⟩;refine(hI k s D C e a H B hX).mono λ x a' H' ⟨e',s',k1,k2⟩=>?_;cases x with
 | normal=>obtain⟨k',k3,k4⟩:=k2; exact⟨k',k3,e',s',k1,k4⟩
 | _=>exact⟨e',s',k1,k2⟩
theorem bh.mk {aj:Nat->PS->Prop} {k k':Nat} (hk:k' < k) (h:aj k' s):bh aj k Q .normal s:=⟨k',hk,h⟩
theorem bh.ret {aj:Nat->PS->Prop} {k:Nat} (h:Q .ret s):bh aj k Q .ret s:=h
theorem bh.exit {aj:Nat->PS->Prop} {k i:Nat} (h:Q (.exit i) s):bh aj k Q (.exit i) s:=h
def bR (J:PS->Prop) (Q:AX->PS->Prop):AX->PS->Prop
 | .normal,s=>J s
 | x,s=>Q x s
theorem PC.mh {x z:Code} (J:PS->Prop) (B:PC P O rnd (.seq x .skip) s (bR J Q)) (D:∀ s1,J s1->PC P O rnd z s1 Q):PC P O rnd (.seq x z) s Q:=by
 refine PC.seq ((PC.lone B).mono λ e s1 hq=>?_);cases e with
 | normal=>exact D s1 hq
 | _=>exact hq
theorem bR.end {J:PS->Prop} (h:J s):bR J Q .normal s:=h
def PS.start (n:Nat) (args:List PV) (fr:List aJ) (tk:List Nat):PS:=⟨args.zipIdx.foldl (λ t (v,i)=>T.put AH.top t i v) (T.oP 10),n,fr,tk,fr.length,tk.length,[]⟩
theorem iX {α:Type} : ∀ (args:List α) (k:Nat) (t0:T α),k+args.length<=1000000->∀ j,((args.zipIdx k).foldl (λ t (p:α×Nat)=>T.put AH.top t p.2 p.1) t0).get j=if k<=j/\j < k+args.length then args[j - k]? else t0.get j
 | [],k,t0,_,j=>by rw[if_neg (by simp)]; rfl
 | v :: l,k,t0,h,j=>by
  simp only[List.length_cons] at h;simp only[List.zipIdx_cons,List.foldl_cons];rw[iX l (k+1) _ (by omega) j];have U:(T.put AH.top t0 k v).get j=if j=k then some v else t0.get j:=T.jB 48 _ _ _ _ (by have:2 ^ 48=281474976710656:=rfl; omega)
  simp only[List.length_cons];by_cases B:k+1<=j/\j < k+1+l.length
  ·rw[if_pos B,if_pos (by omega)];obtain⟨d,rfl⟩:∃ d,j=k+1+d:=⟨j - (k+1),by omega⟩
   rw[show k+1+d - (k+1)=d by omega,show k+1+d - k=d+1 by omega];simp
  ·rw[if_neg B,U];by_cases e1:j=k
   ·subst e1; rw[if_pos rfl,if_pos (by omega)]; simp
   ·rw[if_neg e1,if_neg (by omega)]
def nT (P:Program) (fr:List aJ) (t:TypeId):PV->Option PV
 | .ptr k off=>match fr[k]? with
  | some R=>match Nat.beq R.esz kY with
   | true=>none
   | false=>match rm P t with
    | .ok true=>match bD P t with
     | .ok n=>pick (Nat.ble (off+n) R.cells.length) (some (.agg ((R.cells.drop off).take n))) none
     | _=>none
    | .ok false=>R.cells[off]?
    | _=>none
  | none=>none
 | .dN cells off=>match rm P t with
   | .ok true=>match bD P t with
    | .ok n=>pick (Nat.ble (off+n) cells.length) (some (.agg ((cells.drop off).take n))) none
    | _=>none
   | .ok false=>cells[off]?
   | _=>none
 | _=>none
theorem JZ {l:List Value} {n:Nat} (h:n<=l.length):jN (l.map some) n=.ok (l.take n):=by
 induction n generalizing l with
 | zero=>cases l <;> rfl
 | succ n ih=>
  cases l with
  | nil=>simp at h
  | cons v l=>
   show(jN (l.map some) n >>= λ x=>Except.ok (v :: x))=_;rw[ih (by simpa using h)]; rfl
theorem cm.load {C:fS} {e:cz} {a:az} {H:AH} (G:cm C e s a H) {t:TypeId} {p q:PV} {v:Value} (U:RV e s.tk H true p v) (h:nT P s.fr t p=some q):∃ id off u,eg v=.ok (id,off)/\jq P H t id off=.ok u/\RV e s.tk H true q u:=by
 cases p with
 | ptr k off=>
  cases U with
  | @ptr _ _ id hk=>
   simp only[nT] at h;cases xT:s.fr[k]? with
   | none=>rw[xT] at h; cases h
   | some R=>
    rw[xT] at h;simp only at h;cases hz:Nat.beq R.esz kY with
    | true=>rw[hz] at h; cases h
    | false=>
    rw[hz] at h;obtain⟨r,vs,D,V,h4,h5,h6,h7,h8⟩:=(G.h.dz.row k id R hk xT).row hz;have eH:H.row id=.ok r:=by unfold AH.row; rw[D]
    refine⟨id,off,?_⟩;simp only at h;cases ha:rm P t with
    | error n=>rw[ha] at h; cases h
    | ok b=>
     rw[ha] at h;cases b with
     | true=>
      cases hn:bD P t with
      | error n=>rw[hn] at h; cases h
      | ok n=>
       rw[hn] at h;obtain⟨hle,h⟩:=bm h;cases h;rw[Nat.ble_eq] at hle;have I6:off+n<=vs.length:=by rw[<- h8.1]; exact hle
       refine⟨.agg ((vs.drop off).take n).toArray,rfl,?_,?_⟩
       ·simp only[jq,eH,ha,hn,bind,Except.bind,if_true,h7,<- List.map_drop];rw[JZ (by rw[List.length_drop]; omega)]
       ·have:=(h8.drop off).take n;exact .agg this.1 this.2
     | false=>
      obtain⟨u,hu,uD⟩:=h8.at h;refine⟨u,rfl,?_,uD⟩;have VA:r.cells[off]? = some (some u):=by rw[h7,List.getElem?_map,hu]; rfl
      simp only[jq,eH,ha,bind,Except.bind,Bool.false_eq_true,if_false,VA]
 | dN cells off=>
  cases U with
  | @dN _ _ _ id base n r w hr hn hs hv hh=>
   simp only[nT] at h;have eH:H.row id=.ok r:=by unfold AH.row; rw[hr]
   refine⟨id,base+off,?_⟩;cases ha:rm P t with
   | error n=>rw[ha] at h; cases h
   | ok b=>
    rw[ha] at h;cases b with
    | true=>
     cases hn:bD P t with
     | error n=>rw[hn] at h; cases h
     | ok n=>
      rw[hn] at h;obtain⟨hle,h⟩:=bm h;cases h;rw[Nat.ble_eq] at hle;refine⟨.agg ((List.range n).map (λ x=>w (off+x))).toArray,rfl,?_,?_⟩
      ·simp only[jq,eH,ha,hn,bind,Except.bind,if_true];rw[zP n _ (λ x=>w (off+x)) (λ x Y=>by
        obtain⟨p,U⟩:=aP (l:=cells) (i:=off+x) (by omega);rw[List.getElem?_drop,show base+off+x=base+(off+x) by omega];exact hv _ _ U)]
      ·refine .agg (by simp; omega) λ i p v N rb=>?_;rw[List.getElem?_take] at N;split at N
       ·rename_i wb;rw[List.getElem?_drop] at N;rw[List.getElem?_map,List.getElem?_range wb] at rb;cases rb;exact(hh _ _ N).top
       ·cases N
    | false=>
     refine⟨w off,rfl,?_,(hh _ _ h).top⟩;have VA:r.cells[base+off]? = some (some (w off)):=hv _ _ h;simp only[jq,eH,ha,bind,Except.bind,Bool.false_eq_true,if_false,VA]
 | _=>cases h
def vn (P:Program) (s:PS):ResultVar->Option PV
 | .tmp t=>s.tm.get t
 | .cell t ty=>match s.tm.get t with
  | some p=>nT P s.fr ty p
  | none=>none
def kp (P:Program) (s:PS):List ResultVar->Option (List PV)
 | []=>some []
 | r :: rs=>match vn P s r with
  | some p=>match kp P s rs with
   | some ps=>some (p :: ps)
   | none=>none
  | none=>none
def jy (P:Program) (s:PS) (rs:List ResultVar):Option PV:=
 match kp P s rs with
 | some [p]=>some p
 | some ps=>some (.fX ps)
 | none=>none
theorem pA {α β:Type} {f:α->R β} {x:α} {y:β} {l:List α} {ys:List β} (h:f x=.ok y) (h':eU f l=.ok ys):eU f (x :: l)=.ok (y :: ys):=by
 simp only[eU,h,h',bind,Except.bind]
def Pg (P:Program) (H:AH) (a:az):ResultVar->R Value:=λ r=>match r with
 | .tmp t=>.ok ((a.tm.get t).getD undef)
 | .cell t ty=>do
  let (id,off)<-eg ((a.tm.get t).getD undef)
  jq P H ty id off
theorem Fo (H:AH) (a:az) (rs:List ResultVar):c9 P H a rs=(eU (Pg P H a) rs >>= λ vs=>match vs with
 | [v]=>.ok v
 | _=>.ok (.tuple vs.toArray)):=rfl
theorem cm.results {C:fS} {e:cz} {a:az} {H:AH} (G:cm C e s a H) {rs:List ResultVar} {p:PV} (h:jy P s rs=some p):∃ v,c9 P H a rs=.ok v/\RV e s.tk H true p v:=by
 have key:∀ (rs:List ResultVar) (ps:List PV),kp P s rs=some ps->∃ vs,eU (Pg P H a) rs=.ok vs/\L2 (RV e s.tk H true) ps vs:=by
  intro rs
  induction rs with
  | nil=>intro ps h; cases h; exact⟨[],rfl,L2.nil⟩
  | cons r rs ih=>
   intro ps h;simp only[kp] at h;cases U:vn P s r with
   | none=>rw[U] at h; cases h
   | some p=>
    rw[U] at h;cases hq:kp P s rs with
    | none=>rw[hq] at h; cases h
    | some qs=>
     rw[hq] at h; cases h;obtain⟨vs,B,D⟩:=ih qs hq;cases r with
     | tmp t=>
      obtain⟨v,V,h4⟩:=G.tm t p U;exact⟨v :: vs,pA (by simp only[Pg,V,Option.getD_some]) B,L2.cons h4 D⟩
     | cell t ty=>
      simp only[vn] at U;cases ht:s.tm.get t with
      | none=>rw[ht] at U; cases U
      | some q=>
       rw[ht] at U;obtain⟨v,V,h4⟩:=G.tm t q ht;obtain⟨id,off,u,k1,k2,k3⟩:=G.load h4 U;exact⟨u :: vs,pA (by simp only[Pg,V,Option.getD_some,k1,k2,bind,Except.bind]) B,L2.cons k3 D⟩
 unfold jy at h;cases hq:kp P s rs with
 | none=>rw[hq] at h; cases h
 | some ps=>
  obtain⟨vs,B,D⟩:=key rs ps hq;rw[hq] at h;rw[Fo,B];rcases ps with _ | ⟨q,_ | ⟨q2,l⟩⟩
  ·cases h;have:=D.fE; subst this;exact⟨_,rfl,.fX D.1 D.2⟩
  ·cases h;obtain⟨v,m,rfl,k1,k2⟩:=D.dE;have:=k2.fE; subst this;exact⟨v,rfl,k1⟩
  ·cases h;obtain⟨v,m,rfl,k1,k2⟩:=D.dE;obtain⟨v2,m2,rfl,k3,k4⟩:=k2.dE;exact⟨_,rfl,.fX D.1 D.2⟩
def LH:AX->Prop
 | .normal=>True
 | .ret=>True
 | _=>False
def nv (O:ia) (f:FuncId) (l:List PV):Option Value:=
 match O.s f with
 | true=>some (.bool false)
 | false=>
  match l with
  | []=>O.v f
  | _ :: _=>none
theorem vx {f:FuncId} {args:List PV} {vs:List Value} (hk:nv O f args=none) (hl:args.length=vs.length):cy.fR O f vs=none:=by
 unfold nv at hk;unfold cy.fR;cases hs:O.s f with
 | true=>rw[hs] at hk; cases hk
 | false=>
  rw[hs] at hk;cases vs with
  | cons v l=>rfl
  | nil=>
   cases args with
   | nil=>exact hk
   | cons p l=>simp at hl
end code
end
end Go.cy
namespace Go.cy
noncomputable section
variable {P:Program} {O:ia}
def PS.dF:PS->Option Tmp->PV->PS
 | s,none,_=>s
 | ⟨tm,n,fr,tk,r0,t0,ms⟩,some d,p=>⟨T.put AH.top tm d p,n,fr,tk,r0,t0,ms⟩
def I7 (d:Tmp):List (Option Tmp)->Bool
 | []=>true
 | none :: l=>I7 d l
 | some t :: l=>pick (Nat.beq t d) false (I7 d l)
def LI (d:Option Tmp) (ms:List (Option Tmp)):Bool:=
 match d with
 | none=>true
 | some d=>I7 d ms
def PS.I8 (s:PS) (d:Option Tmp):Bool:=
 match d with
 | none=>true
 | some d=>pick (Nat.ble (Nat.succ d) s.n) (Nat.ble s.n (nat_lit 281474976710654)) false
def PS.can (s:PS) (d:Option Tmp):Bool:=pick (LI d s.ms) (s.I8 d) false
theorem mN {s:PS} {d:Option Tmp} (h:s.can d=true):LI d s.ms=true/\s.I8 d=true:=by
 unfold PS.can at h;cases B:LI d s.ms with
 | true=>rw[B] at h; exact⟨rfl,h⟩
 | false=>rw[B] at h; cases h
def PS.mem (s:PS) (fr:List aJ) (tk:List Nat):PS:=⟨s.tm,s.n,fr,tk,s.r0,s.t0,s.ms⟩
theorem CZ {d t:Nat} : ∀ {ms:List (Option Tmp)},I7 d ms=true->some t∈ms->t≠d
 | [],_,h=>by simp at h
 | none :: l,h,hm=>by
  rcases List.mem_cons.1 hm with e | hm
  ·cases e
  ·exact CZ (ms:=l) h hm
 | some u :: l,h,hm=>by
  simp only[I7] at h;cases hb:Nat.beq u d with
  | true=>rw[hb] at h; cases h
  | false=>
   rw[hb] at h;rcases List.mem_cons.1 hm with e | hm
   ·cases e;intro e;subst e;rw[Nat.beq_refl] at hb; cases hb
   ·exact CZ (ms:=l) h hm
theorem fk.dF {lo:Nat} {ms:List (Option Tmp)} {a:az} {H:AH} {d:Tmp} {v:Value} (h:fk lo ms a H) (hd:I7 d ms=true) (hb:d+1 < 2 ^ 48):fk lo ms (a.dF (some d) v) H:=by
 refine⟨h.fc.imp rfl λ x Y y hy Du=>?_,h.nd⟩;cases x with
 | none=>cases y <;> exact Du
 | some t=>
  cases y with
  | mark m=>exact Du
  | call f vs=>
   obtain⟨first,cap,B,D⟩:=Du;refine⟨first,cap,?_,D⟩;show(T.put AH.top a.tm d v).get t=_;rw[show(T.put AH.top a.tm d v).get t=if t=d then some v else a.tm.get t from T.jB 48 _ _ _ _ hb,if_neg (CZ hd Y)];exact B
theorem cm.can {C:fS} {e:cz} {s:PS} {a:az} {H:AH} (G:cm C e s a H) {d:Option Tmp} (h:s.can d=true):a.can d=true:=by
 cases d with
 | none=>rfl
 | some d=>replace h:=(mN h).2; simp only[PS.I8] at h; simp only[az.can,G.n]; exact h
theorem cm.dF {C:fS} {e e':cz} {s:PS} {a:az} {H H':AH} {fr':List aJ} {tk':List Nat} (G:cm C e s a H) {d:Option Tmp} (hc:s.can d=true) {p:PV} {v:Value} (st:gO e s.tk H e' fr' tk' H') (hv:RV e' tk' H' true p v):cm C e' ((s.mem fr' tk').dF d p) (a.dF d v) H':=by
 have aa:=st.grow G.h.dz;have hh:=G.h.step st;have B6:=G.bn.step (H':=H') (λ m hm=>st.kP G.h.dz hm (λ r e=>by cases e) (λ _ _ e=>by cases e));obtain⟨tm,n,fr,tk,r0,t0,ms⟩:=s;cases d with
 | none=>exact⟨hh,G.n,B6,G.r0,G.t0,λ t q ht=>let ⟨w,B,D⟩:=G.tm t q ht; ⟨w,B,D.grow aa⟩⟩
 | some d=>
  have hd:d+1 < 2 ^ 48:=by
   replace hc:=(mN hc).2;simp only[PS.I8] at hc;cases B:Nat.ble (Nat.succ d) n with
   | false=>rw[B] at hc; cases hc
   | true=>
    rw[B] at hc;have D:Nat.ble n 281474976710654=true:=hc;rw[Nat.ble_eq] at B D;exact Nat.lt_of_le_of_lt (Nat.le_trans B D) (by decide)
  have U:∀ {α:Type} (t:T α) (x:α) (j:Nat),(T.put AH.top t d x).get j=if j=d then some x else t.get j:=λ t x j=>T.jB 48 _ _ _ _ hd
  refine⟨hh,G.n,B6.dF (mN hc).1 hd,G.r0,G.t0,λ t q ht=>?_⟩;have iO:(T.put AH.top tm d p).get t=some q:=ht;rw[U] at iO;show ∃ w,(T.put AH.top a.tm d v).get t=some w/\_;rw[U];split at iO
  ·rename_i e1;cases iO;exact⟨v,by rw[if_pos e1],hv⟩
  ·rename_i e1;obtain⟨w,B,D⟩:=G.tm t q iO;exact⟨w,by rw[if_neg e1]; exact B,D.grow aa⟩
def uX (P:Program) (O:ia) (s:PS) (o:Oper) (p:PV) (fr':List aJ) (tk':List Nat):Prop:=
 dR o.op=none/\∀ C e a H,cm C e s a H->∃ n v H' e',b9 P (bF P O n) a H o=.ok (v,H')/\gO e s.tk H e' fr' tk' H'/\RV e' tk' H' true p v
section ops
variable {rnd:Option Nat} {all os:List Oper} {s:PS} {Q:PS->Prop}
def cC (all:List Oper) (s:PS) (o:Oper):Option Bool:=
 match o.guard with
 | none=>some true
 | some (j,w)=>match (all[j]?).bind (·.dst) with
  | some d=>pick (Nat.ble (Nat.succ d) s.n) (match s.tm.get d with
   | some (.val (.bool b))=>some (b == w)
   | some (.fX _)=>some false
   | _=>none) none
  | none=>none
theorem cm.wanted {C:fS} {e:cz} {a:az} {H:AH} (G:cm C e s a H) {o:Oper} {b:Bool} (h:cC all s o=some b):dr all a o=.ok b:=by
 unfold cC at h;cases hg:o.guard with
 | none=>rw[hg] at h; cases h; exact jP hg
 | some jw=>
  obtain⟨j,w⟩:=jw;rw[hg] at h;simp only at h;cases hd:(all[j]?).bind (·.dst) with
  | none=>rw[hd] at h; cases h
  | some d=>
   rw[hd] at h;obtain⟨hl,h⟩:=bm h;cases ht:s.tm.get d with
   | none=>rw[ht] at h; cases h
   | some p=>
    rw[ht] at h;obtain⟨v,B,D⟩:=G.tm d p ht;cases p with
    | val u=>
     cases u with
     | bool c=>
      cases h;rw[D.bA] at B;exact Fm hg hd (by rw[G.n]; exact hl) B
     | _=>cases h
    | fX l=>
     cases h;cases D with
     | fX Kj hh=>
      unfold dr;rw[hg];simp only[hd];rw[Nat.ble_eq] at hl;rw[if_pos (show d < a.n by rw[G.n]; exact hl),B]
    | _=>cases h
theorem PO.nil (h:Q s):PO P O rnd all [] s Q:=λ C e a H G=>WO.nil ⟨e,s,G,h⟩
theorem PO.one {o:Oper} {p:PV} {fr':List aJ} {tk':List Nat} (hw:cC all s o=some true) (ho:uX P O s o p fr' tk') (hc:s.can o.dst=true) (h:PO P O rnd all os ((s.mem fr' tk').dF o.dst p) Q):PO P O rnd all (o :: os) s Q:=λ C e a H G=>by
 obtain⟨hd,ho⟩:=ho;obtain⟨n,v,H',e',B,D,V⟩:=ho C e a H G;exact WO.one (G.wanted hw) hd ⟨n,B⟩ (G.can hc) (h C e' _ H' (G.dF hc D V))
def cX (P:Program) (O:ia) (s:PS) (o:Oper) (p:PV):Prop:=
 dR o.op=none/\∀ C e a H,cm C e s a H->∃ n v,b9 P (bF P O n) a H o=.ok (v,H)/\RV e s.tk H true p v
theorem cX.ok {o:Oper} {p:PV} (h:cX P O s o p):uX P O s o p s.fr s.tk:=
 ⟨h.1,λ C e a H G=>let ⟨n,v,B,D⟩:=h.2 C e a H G; ⟨n,v,H,e,B,gO.refl G.h.dz,D⟩⟩
theorem PO.aX {o:Oper} {p:PV} (hw:cC all s o=some true) (ho:cX P O s o p) (hc:s.can o.dst=true) (h:PO P O rnd all os (s.dF o.dst p) Q):PO P O rnd all (o :: os) s Q:=PO.one hw ho.ok hc h
theorem cm.refl {C:fS} {e:cz} {a:az} {H:AH} (G:cm C e s a H):gO e s.tk H e s.fr s.tk H:=gO.refl G.h.dz
theorem sB {e:cz} {tk:List Nat} {H:AH} : RV e tk H true (.fX []) undef:=.fX (vs:=[]) rfl (λ i p v N=>by simp at N)
theorem PO.not {o:Oper} (hw:cC all s o=some false) (hc:s.can o.dst=true) (h:PO P O rnd all os (s.dF o.dst (.fX [])) Q):PO P O rnd all (o :: os) s Q:=λ C e a H G=>
 WO.not (G.wanted hw) (G.can hc) (h C e _ H (G.dF hc G.refl sB))
def tL (s:PS):List Operand->Option (List PV)
 | []=>some []
 | o :: os=>match s.ev o with
  | some p=>match tL s os with
   | some ps=>some (p :: ps)
   | none=>none
  | none=>none
theorem cm.tL {C:fS} {e:cz} {a:az} {H:AH} (G:cm C e s a H):∀ {os:List Operand} {ps:List PV},Go.cy.tL s os=some ps->∃ vs,eU a.eval os=.ok vs/\L2 (RV e s.tk H true) ps vs
 | [],ps,h=>by cases h; exact⟨[],rfl,L2.nil⟩
 | o :: os,ps,h=>by
  simp only[Go.cy.tL] at h;cases U:s.ev o with
  | none=>rw[U] at h; cases h
  | some p=>
   rw[U] at h;cases hq:Go.cy.tL s os with
   | none=>rw[hq] at h; cases h
   | some qs=>
    rw[hq] at h; cases h;obtain⟨v,B,D⟩:=G.ev U;obtain⟨vs,V,h4⟩:=G.tL hq;exact⟨v :: vs,pA (az.aL B) V,L2.cons D h4⟩
def iF:List PV->Option (List Value)
 | []=>some []
 | .val v :: l=>match iF l with
  | some vs=>some (v :: vs)
  | none=>none
 | _ :: _=>none
theorem BO {e:cz} {tk:List Nat} {H:AH} {b:Bool} : ∀ {l:List PV} {us vs:List Value},iF l=some us->L2 (RV e tk H b) l vs->us=vs
 | [],us,vs,h,D=>by cases h; exact D.fE.symm
 | p :: l,us,vs,h,D=>by
  obtain⟨v,m,rfl,V,h4⟩:=D.dE;cases p with
  | val u=>
   simp only[iF] at h;cases hu:iF l with
   | none=>rw[hu] at h; cases h
   | some ws=>rw[hu] at h; cases h; rw[V.bA,BO hu h4]
  | _=>cases h
def PV.fR:PV->Option Value
 | .val v=>some v
 | .agg l=>match iF l with
  | some vs=>some (.agg vs.toArray)
  | none=>none
 | _=>none
theorem RV.fR {e:cz} {tk:List Nat} {H:AH} {b:Bool} {p:PV} {u v:Value} (h:RV e tk H b p v) (hk:p.fR=some u):v=u:=by
 cases p with
 | val w=>cases hk; exact h.bA
 | agg l=>
  cases h with
  | @agg _ _ vs hl hh=>
   simp only[PV.fR] at hk;cases hw:iF l with
   | none=>rw[hw] at hk; cases hk
   | some ws=>rw[hw] at hk; cases hk; rw[BO hw (vs:=vs) ⟨hl,hh⟩]
 | _=>cases hk
def Kk:R Value->Option PV
 | .ok (.agg _)=>none
 | .ok (.tuple _)=>none
 | .ok v=>some (.val v)
 | .error _=>none
theorem CE {x:R Value} {p:PV} (h:Kk x=some p) {e:cz} {tk:List Nat} {H:AH} : ∃ v,x=.ok v/\RV e tk H true p v:=by
 cases x with
 | error n=>cases h
 | ok v=>cases v <;> first | (cases h; exact⟨_,rfl,.val rfl⟩) | (cases h)
def Ph (P:Program) (op:BinOp) (t:TypeId) (x y:Operand):PV->PV->Option PV
 | .val (.int k m),.val (.int j n)=>pick (k == j) (match Lc op k m n with
  | some v=>Kk (.ok v)
  | none=>Kk (iA P op t x y (.int k m) (.int j n))) (Kk (iA P op t x y (.int k m) (.int j n)))
 | .val u,.val w=>pick (dq u w) none (Kk (iA P op t x y u w))
 | .agg l,.agg m=>match iF l,iF m with
  | some us,some ws=>Kk (iA P op t x y (.agg us.toArray) (.agg ws.toArray))
  | _,_=>none
 | _,_=>none
theorem Qh {op:BinOp} {t:TypeId} {x y:Operand} {p q r:PV} (h:Ph P op t x y p q=some r) {e:cz} {tk:List Nat} {H:AH} {u w:Value} (hu:RV e tk H true p u) (hw:RV e tk H true q w) :
  ∃ v,(if dq u w then rn P H op t u w else iA P op t x y u w)=.ok v/\RV e tk H true r v:=by
 have key:∀ u w,dq u w=false->Kk (iA P op t x y u w)=some r->∃ v,(if dq u w then rn P H op t u w else iA P op t x y u w)=.ok v/\RV e tk H true r v:=λ u w hb ho=>by
  obtain⟨v,B,D⟩:=CE (e:=e) (tk:=tk) (H:=H) ho;exact⟨v,by rw[hb]; exact B,D⟩
 cases p with
 | val u'=>
  have e1:=hu.bA; subst e1;cases q with
  | val w'=>
   have e2:=hw.bA; subst e2;have gen:pick (dq u w) none (Kk (iA P op t x y u w))=some r->∃ v,(if dq u w then rn P H op t u w else iA P op t x y u w)=.ok v/\RV e tk H true r v:=λ h=>by
    cases hb:dq u w with
    | true=>rw[hb] at h; cases h
    | false=>rw[hb] at h; have:=key u w hb h; rw[hb] at this; exact this
   cases u with
   | int k m=>
    cases w with
    | int j n=>
     simp only[Ph] at h;cases hk:(k == j) with
     | false=>rw[hk] at h; exact key _ _ rfl h
     | true=>
      rw[hk] at h;have:k=j:=by simpa using hk
      subst this;have h':(match Lc op k m n with
       | some v=>Kk (.ok v)
       | none=>Kk (iA P op t x y (.int k m) (.int k n)))=some r:=h
      cases hv:Lc op k m n with
      | none=>rw[hv] at h'; exact key _ _ rfl h'
      | some v=>
       rw[hv] at h';obtain⟨v',B,D⟩:=CE (e:=e) (tk:=tk) (H:=H) h';cases B;exact⟨v,by simp only[dq,Bool.false_eq_true,if_false,iA,Qg hv],D⟩
    | _=>exact gen h
   | _=>exact gen h
  | _=>cases u <;> cases h
 | agg l=>
  cases q with
  | agg m=>
   simp only[Ph] at h;cases hl:iF l with
   | none=>rw[hl] at h; cases h
   | some us=>
    cases hm:iF m with
    | none=>rw[hl,hm] at h; cases h
    | some ws=>
     rw[hl,hm] at h;rw[hu.fR (u:=.agg us.toArray) (by simp only[PV.fR,hl]),hw.fR (u:=.agg ws.toArray) (by simp only[PV.fR,hm])];exact key _ _ rfl h
  | _=>cases h
 | _=>cases q <;> cases h
def qU (P:Program) (t:TypeId) (l:List PV) (off:Nat):Option PV:=
 match rm P t with
 | .ok true=>match bD P t with
  | .ok n=>pick (Nat.ble (off+n) l.length) (some (.agg ((l.drop off).take n))) none
  | _=>none
 | .ok false=>l[off]?
 | _=>none
theorem Nq {t:TypeId} {l:List PV} {vs:List Value} {off:Nat} {p:PV} (h:qU P t l off=some p) {e:cz} {tk:List Nat} {H:AH} (hl:L2 (RV e tk H true) l vs):∃ v,oc P t vs off=.ok v/\RV e tk H true p v:=by
 unfold qU at h;unfold oc;cases ha:rm P t with
 | error n=>rw[ha] at h; cases h
 | ok b=>
  rw[ha] at h;cases b with
  | true=>
   cases hn:bD P t with
   | error n=>rw[hn] at h; cases h
   | ok n=>
    rw[hn] at h;obtain⟨hle,h⟩:=bm h;cases h;rw[Nat.ble_eq,hl.1] at hle;simp only[bind,Except.bind,if_true,if_pos hle];have:=(hl.drop off).take n;exact⟨_,rfl,.agg this.1 this.2⟩
  | false=>
   obtain⟨v,B,D⟩:=hl.at h;simp only[bind,Except.bind,Bool.false_eq_true,if_false,B];exact⟨v,rfl,D⟩
def yB (P:Program) (t:TypeId) (f:Nat):Option Field:=
 match P.underlying t with
 | some (.struct fs)=>fs[f]?
 | _=>none
def af2:PV->PV->PV->Option PV
 | .val (.bool b),p,q=>match b with
  | true=>some p
  | false=>some q
 | _,_,_=>none
def zQ (P:Program) (t:TypeId):Bool:=
 match P.underlying t with
 | some (.interface _)=>false
 | some _=>true
 | none=>false
theorem Fp {t:TypeId} (h:zQ P t=true):∃ ag,P.underlying t=some ag/\∀ m,ag≠.interface m:=by
 unfold zQ at h;cases ht:P.underlying t with
 | none=>rw[ht] at h; cases h
 | some ag=>exact⟨ag,rfl,λ m e=>by subst e; rw[ht] at h; cases h⟩
def iq (P:Program) (s:PS):Op->Option PV
 | .move x=>s.ev x
 | .assign x=>s.ev x
 | .nilCheck x=>match s.ev x with
  | some (.ptr k off)=>some (.ptr k off)
  | some (.dN c off)=>some (.dN c off)
  | some (.fn f l m)=>some (.fn f l m)
  | _=>none
 | .binOp op t x y _=>match s.ev x,s.ev y with
  | some p,some q=>Ph P op t x y p q
  | _,_=>none
 | .unOp op _ x=>match s.ev x with
  | some (.val (.bool b))=>(match op with
   | .not=>some (.val (.bool !b))
   | _=>none)
  | some (.val (.int k n))=>Kk (jO (dA P 0 (Op.unary op (.int k n))))
  | _=>none
 | .convert a b x=>match s.ev x with
  | some (.val (.int k n))=>Kk (jO (dA P 20 (Go.convert a b (.int k n))))
  | _=>none
 | .makeInterface t x=>match P.underlying t with
  | some (.interface _)=>none
  | some _=>(match s.ev x with
   | some p=>some (.iface t p)
   | none=>none)
  | none=>none
 | .makeFunc (.func f) first cap=>match tL s first.toList,tL s cap.toList with
  | some l,some m=>some (.fn f l m)
  | _,_=>none
 | .fieldAddr t x f=>match yB P t f with
  | some fd=>(match bD P fd.type with
   | .ok n=>pick (Nat.beq n 0) none (match s.ev x with
    | some (.ptr k off)=>some (.ptr k (off+fd.offset))
    | some (.dN c off)=>some (.dN c (off+fd.offset))
    | _=>none)
   | _=>none)
  | none=>none
 | .field t x f=>match yB P t f with
  | some fd=>(match s.ev x with
   | some (.agg l)=>qU P fd.type l fd.offset
   | _=>none)
  | none=>none
 | .extract x i=>match s.ev x with
  | some (.fX l)=>l[i]?
  | _=>none
 | .load t x=>match s.ev x with
  | some p=>nT P s.fr t p
  | none=>none
 | .call { callee:=.builtin .max,args:=xs,argTypes:=_ }=>match tL s xs.toList with
  | some [.val (.int k m),.val (.int j n)]=>pick (k == j) (some (.val (.int k (if n > m then n else m)))) none
  | _=>none
 | .call { callee:=.builtin .min,args:=xs,argTypes:=_ }=>match tL s xs.toList with
  | some [.val (.int k m),.val (.int j n)]=>pick (k == j) (some (.val (.int k (if n < m then n else m)))) none
  | _=>none
 | .typeAssert x _ t ok=>pick (zQ P t) (match s.ev x with
   | some (.iface u p)=>pick (Nat.beq u t) (some (match ok with | true=>.fX [p,.val (.bool true)] | false=>p)) none
   | _=>none) none
 | _=>none
theorem qx {o:Oper} {p:PV} (h:iq P s o.op=some p):dR o.op=none/\(∀ C e a H,cm C e s a H->∃ v,b9 P (bF P O 0) a H o=.ok (v,H)/\RV e s.tk H true p v):=by
 obtain⟨d,op,ty,ps,af,gu⟩:=o;simp only at h;have mk:dR op=none->(∀ C e a H,cm C e s a H->∃ v,b9 P (bF P O 0) a H ⟨d,op,ty,ps,af,gu⟩=.ok (v,H)/\RV e s.tk H true p v)->dR op=none/\(∀ C e a H,cm C e s a H->∃ v,b9 P (bF P O 0) a H ⟨d,op,ty,ps,af,gu⟩=.ok (v,H)/\RV e s.tk H true p v):=λ B D=>⟨B,D⟩
 cases op with
 | move x=>
  refine mk rfl λ C e a H G=>?_;obtain⟨v,B,D⟩:=G.ev h;exact⟨v,by simp only[b9,az.aL B]; rfl,D⟩
 | assign x=>
  refine mk rfl λ C e a H G=>?_;obtain⟨v,B,D⟩:=G.ev h;exact⟨v,by simp only[b9,az.aL B]; rfl,D⟩
 | nilCheck x=>
  refine mk rfl λ C e a H G=>?_;simp only[iq] at h;cases Y:s.ev x with
  | none=>rw[Y] at h; cases h
  | some q=>
   rw[Y] at h;obtain⟨v,B,D⟩:=G.ev Y;refine⟨v,?_,?_⟩
   ·simp only[b9,az.aL B,bind,Except.bind];cases q <;> first | (cases h; done) | (cases D <;> rfl)
   ·cases q <;> first | (cases h; done) | (cases h; exact D)
 | binOp op t x y t2=>
  refine mk rfl λ C e a H G=>?_;simp only[iq] at h;cases Y:s.ev x with
  | none=>rw[Y] at h; cases h
  | some q=>
   cases hy:s.ev y with
   | none=>rw[Y,hy] at h; cases h
   | some r=>
    rw[Y,hy] at h;obtain⟨u,B,D⟩:=G.ev Y;obtain⟨w,V,h4⟩:=G.ev hy;obtain⟨v,k1,k2⟩:=Qh h D h4;refine⟨v,?_,k2⟩;simp only[b9,az.aL B,az.aL V,bind,Except.bind];split at k1
    ·rename_i hb; simp only[hb,if_true,k1]
    ·rename_i hb; simp only[hb,if_false,k1];rfl
 | unOp op t x=>
  refine mk rfl λ C e a H G=>?_;simp only[iq] at h;cases Y:s.ev x with
  | none=>rw[Y] at h; cases h
  | some q=>
   rw[Y] at h;obtain⟨u,B,D⟩:=G.ev Y;cases q with
   | val w=>
    have e1:=D.bA; subst e1;cases u with
    | bool b=>
     cases op <;> first | (cases h; done) | skip
     cases h;refine⟨.bool !b,?_,.val rfl⟩;simp only[b9,az.aL B,bind,Except.bind]; rfl
    | int k n=>
     obtain⟨v,k1,k2⟩:=CE (e:=e) (tk:=s.tk) (H:=H) h;exact⟨v,by simp only[b9,az.aL B,bind,Except.bind,k1],k2⟩
    | _=>cases h
   | _=>cases h
 | convert c b x=>
  refine mk rfl λ C e a H G=>?_;simp only[iq] at h;cases Y:s.ev x with
  | none=>rw[Y] at h; cases h
  | some q=>
   rw[Y] at h;obtain⟨u,B,D⟩:=G.ev Y;cases q with
   | val w=>
    have e1:=D.bA; subst e1;cases u with
    | int k n=>
     obtain⟨v,k1,k2⟩:=CE (e:=e) (tk:=s.tk) (H:=H) h;exact⟨v,by simp only[b9,az.aL B,bind,Except.bind,sx,k1],k2⟩
    | _=>cases h
   | _=>cases h
 | makeInterface t x=>
  refine mk rfl λ C e a H G=>?_;simp only[iq] at h;cases ht:P.underlying t with
  | none=>rw[ht] at h; cases h
  | some ag=>
   rw[ht] at h;cases Y:s.ev x with
   | none=>rw[Y] at h; cases ag <;> cases h
   | some q=>
    rw[Y] at h;obtain⟨u,B,D⟩:=G.ev Y;refine⟨.iface t u,?_,?_⟩
    ·simp only[b9,ht];cases ag <;> first | (cases h; done) | (simp only[az.aL B,bind,Except.bind])
    ·cases ag <;> first | (cases h; done) | (cases h; exact .iface D)
 | makeFunc fn first cap=>
  refine mk rfl λ C e a H G=>?_;cases fn with
  | func f=>
   simp only[iq] at h;cases B:tL s first.toList with
   | none=>rw[B] at h; cases h
   | some l=>
    cases D:tL s cap.toList with
    | none=>rw[B,D] at h; cases h
    | some m=>
     rw[B,D] at h; cases h;obtain⟨vs,k1,k2⟩:=G.tL B;obtain⟨ws,k3,k4⟩:=G.tL D;exact⟨.func (.func f) vs.toArray ws.toArray,by simp only[b9,k1,k3,bind,Except.bind],.fn k2.1 k2.2 k4.1 k4.2⟩
  | _=>cases h
 | fieldAddr t x f=>
  refine mk rfl λ C e a H G=>?_;simp only[iq,yB] at h;cases ht:P.underlying t with
  | none=>rw[ht] at h; cases h
  | some ag=>
   rw[ht] at h;cases ag with
   | struct fs=>
    simp only at h;cases hf:fs[f]? with
    | none=>rw[hf] at h; cases h
    | some fd=>
     rw[hf] at h;simp only at h;cases hn:bD P fd.type with
     | error n=>rw[hn] at h; cases h
     | ok n=>
      rw[hn] at h;simp only at h;cases hz:Nat.beq n 0 with
      | true=>rw[hz] at h; cases h
      | false=>
       rw[hz] at h;have xg:¬ n=0:=λ e=>by subst e; cases hz
       have h':(match s.ev x with
        | some (.ptr k off)=>some (PV.ptr k (off+fd.offset))
        | some (.dN c off)=>some (.dN c (off+fd.offset))
        | _=>none)=some p:=h
       cases Y:s.ev x with
       | none=>rw[Y] at h'; cases h'
       | some q=>
        rw[Y] at h';obtain⟨u,B,D⟩:=G.ev Y;cases q with
        | ptr k off=>
         cases h';cases D with
         | @ptr _ _ id hk=>
          exact⟨.pointer (some ⟨id,off+fd.offset,none⟩),by simp only[b9,ht,hf,hn,az.aL B,bind,Except.bind,eg,if_neg xg],.ptr hk⟩
        | dN c off=>
         cases h';cases D with
         | @dN _ _ _ id base m r w hr hm hs hv hh=>
          refine⟨.pointer (some ⟨id,base+off+fd.offset,none⟩),by simp only[b9,ht,hf,hn,az.aL B,bind,Except.bind,eg,if_neg xg],?_⟩;rw[Nat.add_assoc];exact .dN w hr hm hs hv hh
        | _=>cases h'
   | _=>cases h
 | field t x f=>
  refine mk rfl λ C e a H G=>?_;simp only[iq,yB] at h;cases ht:P.underlying t with
  | none=>rw[ht] at h; cases h
  | some ag=>
   rw[ht] at h;cases ag with
   | struct fs=>
    simp only at h;cases hf:fs[f]? with
    | none=>rw[hf] at h; cases h
    | some fd=>
     rw[hf] at h;simp only at h;cases Y:s.ev x with
     | none=>rw[Y] at h; cases h
     | some q=>
      rw[Y] at h;obtain⟨u,B,D⟩:=G.ev Y;cases q with
      | agg l=>
       cases D with
       | @agg _ _ vs hl hh=>
        obtain⟨v,k1,k2⟩:=Nq h (vs:=vs) ⟨hl,hh⟩;exact⟨v,by simp only[b9,ht,hf,az.aL B,bind,Except.bind,k1],k2⟩
      | _=>cases h
   | _=>cases h
 | extract x i=>
  refine mk rfl λ C e a H G=>?_;simp only[iq] at h;cases Y:s.ev x with
  | none=>rw[Y] at h; cases h
  | some q=>
   rw[Y] at h;obtain⟨u,B,D⟩:=G.ev Y;cases q with
   | fX l=>
    cases D with
    | @fX _ _ vs hl hh=>
     obtain⟨v,k1,k2⟩:=(show L2 (RV e s.tk H true) l vs from⟨hl,hh⟩).at h;exact⟨v,by simp only[b9,az.aL B,bind,Except.bind,k1],k2⟩
   | _=>cases h
 | load t x=>
  refine mk rfl λ C e a H G=>?_;simp only[iq] at h;cases Y:s.ev x with
  | none=>rw[Y] at h; cases h
  | some q=>
   rw[Y] at h;obtain⟨u,B,D⟩:=G.ev Y;obtain⟨id,off,v,k1,k2,k3⟩:=G.load D h;exact⟨v,by simp only[b9,az.aL B,bind,Except.bind,k1,k2],k3⟩
 | call c=>
  obtain⟨IF,xs,ts⟩:=c;cases IF with
  | builtin b=>
   refine mk rfl λ C e a H G=>?_;cases b with
   | max=>
    simp only[iq] at h;cases Y:tL s xs.toList with
    | none=>rw[Y] at h; cases h
    | some l=>
     rw[Y] at h;obtain⟨vs,B,D⟩:=G.tL Y;rcases l with _ | ⟨q,_ | ⟨r,_ | ⟨r',l⟩⟩⟩
     ·cases h
     ·simp only at h; cases h
     ·obtain⟨v1,m1,rfl,k1,k2⟩:=D.dE;obtain⟨v2,m2,rfl,k3,k4⟩:=k2.dE;have:=k4.fE; subst this;cases q with
      | val u=>
       cases r with
       | val w=>
        have e1:=k1.bA; subst e1;have e2:=k3.bA; subst e2;cases v1 <;> cases v2 <;> first | (simp only at h; cases h; done) | skip
        rename_i k m j n;simp only at h;obtain⟨hk,hq⟩:=bm h;have:k=j:=by simpa using hk
        subst this;cases hq;refine⟨.int k (if n > m then n else m),?_,.val rfl⟩;simp only[b9,B,bind,Except.bind];rfl
       | _=>simp only at h; cases h
      | _=>simp only at h; cases h
     ·simp only at h; cases h
   | min=>
    simp only[iq] at h;cases Y:tL s xs.toList with
    | none=>rw[Y] at h; cases h
    | some l=>
     rw[Y] at h;obtain⟨vs,B,D⟩:=G.tL Y;rcases l with _ | ⟨q,_ | ⟨r,_ | ⟨r',l⟩⟩⟩
     ·cases h
     ·simp only at h; cases h
     ·obtain⟨v1,m1,rfl,k1,k2⟩:=D.dE;obtain⟨v2,m2,rfl,k3,k4⟩:=k2.dE;have:=k4.fE; subst this;cases q with
      | val u=>
       cases r with
       | val w=>
        have e1:=k1.bA; subst e1;have e2:=k3.bA; subst e2;cases v1 <;> cases v2 <;> first | (simp only at h; cases h; done) | skip
        rename_i k m j n;simp only at h;obtain⟨hk,hq⟩:=bm h;have:k=j:=by simpa using hk
        subst this;cases hq;refine⟨.int k (if n < m then n else m),?_,.val rfl⟩;simp only[b9,B,bind,Except.bind];rfl
       | _=>simp only at h; cases h
      | _=>simp only at h; cases h
     ·simp only at h; cases h
   | _=>cases h
  | _=>cases h
 | typeAssert x t0 t ok=>
  refine mk rfl λ C e a H G=>?_;simp only[iq] at h;obtain⟨hn,h'⟩:=bm h;obtain⟨ag,ht,hif⟩:=Fp hn;cases Y:s.ev x with
  | none=>rw[Y] at h'; cases h'
  | some q=>
   rw[Y] at h';obtain⟨u,B,D⟩:=G.ev Y;cases q with
   | iface t' q=>
    obtain⟨hb,h4⟩:=bm h';have e1:t'=t:=Nat.eq_of_beq_eq_true hb;subst e1;cases D with
    | @iface _ _ _ v D=>
     cases ok with
     | true=>
      cases h4;refine⟨.tuple #[v,.bool true],?_,?_⟩
      ·simp only[b9,az.aL B,bind,Except.bind,oh,ht];cases ag <;> first | exact absurd rfl (hif _) | simp
      ·have:=L2.cons D (L2.cons (RV.val (e:=e) (tk:=s.tk) (H:=H) (b:=true) (v:=.bool true) rfl) L2.nil);exact .fX this.1 this.2
     | false=>
      cases h4;refine⟨v,?_,D⟩;simp only[b9,az.aL B,bind,Except.bind,oh,ht];cases ag <;> first | exact absurd rfl (hif _) | simp
   | _=>cases h'
 | _=>cases h
theorem Nr {o:Oper} {p:PV} (h:iq P s o.op=some p):uX P O s o p s.fr s.tk:=
 let ⟨B,D⟩:=qx (O:=O) h
 ⟨B,λ C e a H G=>let ⟨v,k1,k2⟩:=D C e a H G; ⟨0,v,H,e,k1,G.refl,k2⟩⟩
end ops
end
end Go.cy
namespace Go.cy
noncomputable section
variable {P:Program} {O:ia}
def iw (l:List PV) (off:Nat) (m:List PV):List PV:=l.take off++m++l.drop (off+m.length)
theorem qj {e:cz} {tk:List Nat} {H:AH} {b:Bool} {zs:List Value} (h:zs.all bu=true):L2 (RV e tk H b) (zs.map .val) zs:=
 ⟨by simp,λ i p v N hv=>by
  rw[List.getElem?_map,hv] at N;cases N;exact .val (List.all_eq_true.1 h v (List.mem_of_getElem? hv))⟩
def rR (nP:Nat->Option (Nat×Nat)):List PV->List (Nat×PV)->Option (List PV)
 | cells,[]=>some cells
 | cells,(i,p) :: rest=>match nP i with
  | some (off,size)=>pick (Nat.beq p.cells.length size) (pick (Nat.ble (off+p.cells.length) cells.length) (rR nP (iw cells off p.cells) rest) none) none
  | none=>none
theorem EL:∀ (vs:List Value) (off k:Nat) (cs:Array Value),off+k+vs.length<=cs.size ->
  ((vs.zipIdx k).foldl (λ(cs:Array Value) (p:Value×Nat)=>cs.setIfInBounds (off+p.2) p.1) cs).toList=cs.toList.take (off+k)++vs++cs.toList.drop (off+k+vs.length)
 | [],off,k,cs,_=>by simp
 | v :: vs,off,k,cs,h=>by
  simp only[List.length_cons] at h;simp only[List.zipIdx_cons,List.foldl_cons];rw[EL vs off (k+1) _ (by simp; omega)];simp only[Array.toList_setIfInBounds,List.length_cons];have hl:off+k < cs.toList.length:=by simp; omega
  have e1:(cs.toList.set (off+k) v).take (off+(k+1))=cs.toList.take (off+k)++[v]:=by
   rw[show off+(k+1)=off+k+1 by omega,List.take_add_one,List.getElem?_set_self hl,List.take_set_of_le (Nat.le_refl _)]; rfl
  have e2:(cs.toList.set (off+k) v).drop (off+(k+1)+vs.length)=cs.toList.drop (off+k+(vs.length+1)):=by
   rw[List.drop_set_of_lt (by omega),show off+(k+1)+vs.length=off+k+(vs.length+1) by omega]
  rw[e1,e2];simp
theorem L2.Mj {R:PV->Value->Prop} {l m:List PV} {vs ws:List Value} (h:L2 R l vs) (h':L2 R m ws) (off:Nat):L2 R (iw l off m) (vs.take off++ws++vs.drop (off+ws.length)):=by
 unfold iw;rw[h'.1];exact((h.take off).append h').append (h.drop _)
theorem sQ {e:cz} {tk:List Nat} {H:AH} {nP:Nat->Option (Nat×Nat)} : ∀ (bH:List (Nat×PV)) (CF:List (Nat×Value)) (cells:List PV) (nh:Array Value) (ie:List PV),
  L2 (λ(x:Nat×PV) (y:Nat×Value)=>x.1=y.1/\RV e tk H true x.2 y.2) bH CF->L2 (RV e tk H true) cells nh.toList->rR nP cells bH=some ie->∃ r,Instr.fill nP nh CF=some r/\L2 (RV e tk H true) ie r.toList
 | [],CF,cells,nh,ie,U,hc,h=>by
  have:=U.fE; subst this;cases h;exact⟨nh,rfl,hc⟩
 | (i,p) :: bH,CF,cells,nh,ie,U,hc,h=>by
  obtain⟨⟨i',v⟩,XP,rfl,⟨B,D⟩,V⟩:=U.dE;simp only at B D;subst B;simp only[rR] at h;simp only[Instr.fill];cases kN:nP i with
  | none=>rw[kN] at h; cases h
  | some os=>
   obtain⟨off,size⟩:=os;rw[kN] at h;obtain⟨k1,h⟩:=bm h;obtain⟨k2,h⟩:=bm h;have Bl:=D.cells;have e1:p.cells.length=size:=Nat.eq_of_beq_eq_true k1;rw[Nat.ble_eq] at k2;have Om:v.cells.size=size:=by rw[<- Array.length_toList,<- Bl.1]; exact e1
   have gK:nh.size=cells.length:=by rw[<- Array.length_toList,<- hc.1]
   have zh:(decide (v.cells.size≠size) || decide (off+v.cells.size > nh.size))=false:=by
    rw[Om,gK];simp;omega
   simp only[zh,Bool.false_eq_true,if_false];refine sQ bH XP _ _ ie V ?_ h;have hf:=EL v.cells.toList off 0 nh (by rw[Array.length_toList]; omega);have hz:(Array.foldl (λ(cs:Array Value) (x:Value×Nat)=>cs.setIfInBounds (off+x.2) x.1) nh v.cells.zipIdx).toList=nh.toList.take off++v.cells.toList++nh.toList.drop (off+v.cells.toList.length):=by
    rw[<- Array.foldl_toList,Array.toList_zipIdx,hf,Nat.add_zero]
   have:=hc.Mj Bl off;rw[<- hz] at this;exact this
def oD (s:PS):List (Nat×Operand)->Option (List (Nat×PV))
 | []=>some []
 | (i,o) :: l=>match s.ev o with
  | some p=>match oD s l with
   | some ps=>some ((i,p) :: ps)
   | none=>none
  | none=>none
theorem cm.bH {C:fS} {e:cz} {s:PS} {a:az} {H:AH} (G:cm C e s a H):∀ {l:List (Nat×Operand)} {ps:List (Nat×PV)},oD s l=some ps->∃ vs,eU (λ(p:Nat×Operand)=>do .ok (p.1,<- a.eval p.2)) l=.ok vs/\L2 (λ(x:Nat×PV) (y:Nat×Value)=>x.1=y.1/\RV e s.tk H true x.2 y.2) ps vs
 | [],ps,h=>by cases h; exact⟨[],rfl,L2.nil⟩
 | (i,o) :: l,ps,h=>by
  simp only[oD] at h;cases U:s.ev o with
  | none=>rw[U] at h; cases h
  | some p=>
   rw[U] at h;cases hq:oD s l with
   | none=>rw[hq] at h; cases h
   | some qs=>
    rw[hq] at h; cases h;obtain⟨v,B,D⟩:=G.ev U;obtain⟨vs,V,h4⟩:=G.bH hq;exact⟨(i,v) :: vs,pA (by simp only[az.aL B,bind,Except.bind]) V,L2.cons ⟨rfl,D⟩ h4⟩
def zC (P:Program) (s:PS) (t:TypeId) (bH:List (Nat×Operand)):Option PV:=
 match oD s bH,eB P t with
 | some ps,.ok zs=>pick (zs.all bu) (match P.underlying t with
  | some (.struct fields)=>match eU (λ(f:Field)=>do .ok (f.offset,<- bD P f.type)) fields.toList with
   | .ok nc=>match rR (λ i=>nc[i]?) (zs.map .val) ps with
    | some cells=>some (.agg cells)
    | none=>none
   | .error _=>none
  | some (.array _ elem)=>match bD P elem with
   | .ok size=>match rR (λ i=>some (i * size,size)) (zs.map .val) ps with
    | some cells=>some (.agg cells)
    | none=>none
   | .error _=>none
  | _=>none) none
 | _,_=>none
section ops
variable {rnd:Option Nat} {all os:List Oper} {s:PS} {Q:PS->Prop} {d:Option Tmp} {ty:TypeId} {pst:String} {af:Array Edge} {gu:Option (Nat×Bool)}
theorem EN {t:TypeId} {bH:Array (Nat×Operand)} {p:PV} (h:zC P s t bH.toList=some p):cX P O s ⟨d,.build t bH,ty,pst,af,gu⟩ p:=by
 refine⟨rfl,λ C e a H G=>?_⟩;unfold zC at h;cases mo:oD s bH.toList with
 | none=>rw[mo] at h; cases h
 | some ps=>
  cases hz:eB P t with
  | error n=>rw[mo,hz] at h; cases h
  | ok zs=>
   rw[mo,hz] at h;obtain⟨kN,h⟩:=bm h;obtain⟨vs,B,D⟩:=G.bH mo;have YB:L2 (RV e s.tk H true) (zs.map .val) zs.toArray.toList:=qj kN;cases ht:P.underlying t with
   | none=>rw[ht] at h; cases h
   | some ag=>
    rw[ht] at h;cases ag with
    | struct fields=>
     simp only at h;cases kN:eU (λ(f:Field)=>do .ok (f.offset,<- bD P f.type)) fields.toList with
     | error n=>rw[kN] at h; cases h
     | ok nc=>
      rw[kN] at h;simp only at h;cases hf:rR (λ i=>nc[i]?) (zs.map .val) ps with
      | none=>rw[hf] at h; cases h
      | some cells=>
       rw[hf] at h; cases h;obtain⟨r,k1,k2⟩:=sQ ps vs _ _ _ D YB hf;refine⟨0,.agg r,?_,?_⟩
       ·simp only[b9];rw[B];simp only[bind,Except.bind,hz,ht];simp only[bind,Except.bind] at kN;rw[kN];simp only[k1]
       ·have:=RV.agg k2.1 k2.2;simpa using this
    | array n elem=>
     simp only at h;cases hs:bD P elem with
     | error n=>rw[hs] at h; cases h
     | ok size=>
      rw[hs] at h;simp only at h;cases hf:rR (λ i=>some (i * size,size)) (zs.map .val) ps with
      | none=>rw[hf] at h; cases h
      | some cells=>
       rw[hf] at h; cases h;obtain⟨r,k1,k2⟩:=sQ ps vs _ _ _ D YB hf;refine⟨0,.agg r,?_,?_⟩
       ·simp only[b9];rw[B];simp only[bind,Except.bind,hz,ht,hs,k1]
       ·have:=RV.agg k2.1 k2.2;simpa using this
    | _=>cases h
theorem TQ {t:TypeId} {x:Operand} {p:PV} (h:s.ev x=some p):uX P O s ⟨d,.box t x,ty,pst,af,gu⟩ (.ptr s.fr.length 0) (s.fr++[⟨0,p.cells⟩]) s.tk:=by
 refine⟨rfl,λ C e a H G=>?_⟩;obtain⟨v,B,D⟩:=G.ev h;have st:=vw G.h.dz D.cells t 0 (by decide);refine⟨0,.pointer (some ⟨H.next,0,none⟩),_,_,?_,st,.ptr ?_⟩
 ·simp only[b9,az.aL B,bind,Except.bind,newRow,AH.jv]; rfl
 ·rw[<- G.h.dz.dY]; exact da
theorem Ns {t:TypeId} {zs:List Value} (hz:eB P t=.ok zs) (U:zs.all bu=true):uX P O s ⟨d,.alloc t,ty,pst,af,gu⟩ (.ptr s.fr.length 0) (s.fr++[⟨0,zs.map .val⟩]) s.tk:=by
 refine⟨rfl,λ C e a H G=>?_⟩;have st:=vw G.h.dz (qj (e:=e) (tk:=s.tk) (H:=H) (b:=true) U) t 0 (by decide);refine⟨0,.pointer (some ⟨H.next,0,none⟩),_,_,?_,st,.ptr ?_⟩
 ·simp only[b9,hz,bind,Except.bind,newRow,AH.jv]; rfl
 ·rw[<- G.h.dz.dY]; exact da
theorem Fq (us vs:List Value) (off:Nat):cY (us.map some) off (vs.map some)=(us.take off++vs++us.drop (off+vs.length)).map some:=by
 unfold cY;simp
theorem Hf {e:cz} {tk:List Nat} {H:AH} {b:Bool} {l:List PV} {vs:List Value} (h:L2 (RV e tk H b) l vs) (U:l.all PV.plain=true):vs.all bu=true:=by
 rw[List.all_eq_true];intro v hv;obtain⟨i,N,rfl⟩:=List.mem_iff_getElem.1 hv;obtain⟨p,lE⟩:=aP (l:=l) (i:=i) (by rw[h.1]; exact N);exact vu (h.2 i p _ lE (List.getElem?_eq_getElem N)) (List.all_eq_true.1 U p (List.mem_of_getElem? lE))
theorem Ak {t:TypeId} {x y:Operand} {k off n:Nat} {R:aJ} {p:PV} (Y:s.ev x=some (.ptr k off)) (hy:s.ev y=some p) (hn:bD P t=.ok n) (hl:Nat.beq p.cells.length n=true) (yP:s.fr[k]? = some R) (U:p.cells.all PV.plain=true)
  (hb:QQ R (off+p.cells.length)=true) {C:fS} {e:cz} {a:az} {H:AH} (G:cm C e s a H):∃ id r',e.aY[k]? = some id/\b9 P (bF P O 0) a H ⟨d,.store t x y,ty,pst,af,gu⟩=.ok (undef,H.set id r')/\gO e s.tk H e (s.fr.set k ⟨R.esz,iw R.cells off p.cells⟩) s.tk (H.set id r'):=by
 obtain⟨u,B,D⟩:=G.ev Y;obtain⟨v,V,h4⟩:=G.ev hy;cases D with
 | @ptr _ _ id hk=>
  obtain⟨hz,hb⟩:=Nn hb;obtain⟨r,us,k2,k3,k4,k5,k6,k7,k8⟩:=(G.h.dz.row k id R hk yP).row hz;have hc:=h4.cells;rw[Nat.ble_eq] at hb;have KK:p.cells.length=n:=Nat.eq_of_beq_eq_true hl;have gK:v.cells.size=n:=by rw[<- Array.length_toList,<- hc.1]; exact KK
  have hw:=He (H:=H) (id:=id) (off:=off) (r:=r) (vs:=v.cells.toList) k2 k4 k3 (Hf hc U) (by rw[k7,List.length_map,<- k8.1,<- hc.1]; exact hb);have st:=No G.h.dz hk yP k2 (k8.Mj hc off);refine⟨id,_,hk,?_,st⟩;simp only[b9,az.aL B,az.aL V,bind,Except.bind,eg,hn,gK,if_true,hw];have:r.Gi off v.cells.toList = { r with cells:=(us.take off++v.cells.toList++us.drop (off+v.cells.toList.length)).map some }:=by
   unfold Row.Gi;rw[k7,Fq]
  rw[this]
theorem EO {t:TypeId} {x y:Operand} {k off n:Nat} {R:aJ} {p:PV} (Y:s.ev x=some (.ptr k off)) (hy:s.ev y=some p) (hn:bD P t=.ok n) (hl:Nat.beq p.cells.length n=true) (yP:s.fr[k]? = some R) (U:p.cells.all PV.plain=true)
  (hb:QQ R (off+p.cells.length)=true):uX P O s ⟨d,.store t x y,ty,pst,af,gu⟩ (.fX []) (s.fr.set k ⟨R.esz,iw R.cells off p.cells⟩) s.tk:=
 ⟨rfl,λ C e a H G=>let ⟨id,r',B,D,V⟩:=Ak (O:=O) Y hy hn hl yP U hb G; ⟨0,undef,_,e,D,V,sB⟩⟩
def PV.low:PV->Option PV
 | .val v=>some (.val v)
 | .aS sz l _=>some (.aS sz l none)
 | .dN c o=>some (.dN c o)
 | .fn f l m=>match l,m with
  | [],[]=>some (.fn f [] [])
  | _,_=>none
 | .iface t p=>match p with
  | .val v=>some (.iface t (.val v))
  | .agg l=>match iF l with
   | some _=>some (.iface t (.agg l))
   | none=>none
  | _=>none
 | _=>none
theorem BP {e:cz} {tk:List Nat} {H:AH} {b b':Bool} : ∀ {l:List PV} {us vs:List Value},iF l=some us->L2 (RV e tk H b) l vs->L2 (RV e tk H b') l vs
 | [],us,vs,h,D=>by rw[D.fE]; exact L2.nil
 | p :: l,us,vs,h,D=>by
  obtain⟨v,m,rfl,V,h4⟩:=D.dE;cases p with
  | val u=>
   simp only[iF] at h;cases hu:iF l with
   | none=>rw[hu] at h; cases h
   | some ws=>
    refine L2.cons ?_ (BP hu h4);cases V with
    | val hv=>exact .val hv
  | _=>cases h
theorem TS {e:cz} {tk:List Nat} {H:AH} {b:Bool} {p q:PV} {v:Value} (h:RV e tk H b p v) (hq:p.low=some q):RV e tk H false q v/\(p.plain=true->q.plain=true):=by
 cases p with
 | val u=>cases hq; cases h with | val hv=>exact⟨.val hv,id⟩
 | aS sz l t=>
  cases hq;cases h with
  | fU ht=>exact⟨.fU (λ k hk=>by cases hk),λ _=>rfl⟩
  | aS w hr hn hs he hc hw hz U hv hh ht=>exact⟨.aS w hr hn hs he hc hw hz U hv hh (λ k hk=>by cases hk),λ _=>rfl⟩
 | dN c o=>cases hq; cases h with | dN w hr hn hs hv hh=>exact⟨.dN w hr hn hs hv hh,λ _=>rfl⟩
 | fn f l m=>
  simp only[PV.low] at hq;cases l with
  | cons x l=>cases hq
  | nil=>
   cases m with
   | cons x l=>cases hq
   | nil=>
    cases hq;cases h with
    | @fn _ _ _ _ vs ws hl hh hm FT=>
     have e1:vs=[]:=List.eq_nil_of_length_eq_zero hl.symm;have e2:ws=[]:=List.eq_nil_of_length_eq_zero hm.symm;subst e1; subst e2;exact⟨.fn rfl (λ i p v N=>by simp at N) rfl (λ i p v N=>by simp at N),λ _=>rfl⟩
 | iface t p=>
  cases h with
  | @iface _ _ _ v h=>
   cases p with
   | val u=>cases hq; cases h with | val hv=>exact⟨.iface (.val hv),λ _=>rfl⟩
   | agg l=>
    simp only[PV.low] at hq;cases hl:iF l with
    | none=>rw[hl] at hq; cases hq
    | some us=>
     rw[hl] at hq; cases hq;cases h with
     | @agg _ _ vs hlen hh=>
      have:=BP (b':=false) hl (vs:=vs) ⟨hlen,hh⟩;exact⟨.iface (.agg this.1 this.2),λ _=>rfl⟩
   | _=>cases hq
 | _=>cases hq
def A6:List PV->Option (List PV)
 | []=>some []
 | p :: l=>pick p.plain (match p.low with
  | some q=>match A6 l with
   | some qs=>some (q :: qs)
   | none=>none
  | none=>none) none
theorem sR {e:cz} {tk:List Nat} {H:AH} {b:Bool} : ∀ {l m:List PV} {vs:List Value},L2 (RV e tk H b) l vs->A6 l=some m->L2 (RV e tk H false) m vs/\m.all PV.plain=true
 | [],m,vs,h,hq=>by cases hq; exact⟨by rw[h.fE]; exact L2.nil,rfl⟩
 | p :: l,m,vs,h,hq=>by
  obtain⟨v,ws,rfl,V,h4⟩:=h.dE;obtain⟨U,hq⟩:=bm hq;cases hl:p.low with
  | none=>rw[hl] at hq; cases hq
  | some q=>
   rw[hl] at hq;simp only at hq;cases hm:A6 l with
   | none=>rw[hm] at hq; cases hq
   | some qs=>
    rw[hm] at hq; cases hq;obtain⟨k1,k2⟩:=TS V hl;obtain⟨k3,k4⟩:=sR h4 hm;exact⟨L2.cons k1 k3,by simp only[List.all_cons,k2 U,k4,Bool.and_self]⟩
def tB (sz:Nat):Nat->List PV->List (List PV)
 | 0,_=>[]
 | n+1,l=>l.take sz :: tB sz n (l.drop sz)
theorem BQ (sz:Nat):∀ (n:Nat) (l:List PV) (i:Nat),i < n->(tB sz n l)[i]? = some ((l.drop (i * sz)).take sz)
 | n+1,l,0,_=>by simp[tB]
 | n+1,l,i+1,h=>by
  simp only[tB,List.getElem?_cons_succ];rw[BQ sz n (l.drop sz) i (by omega),List.drop_drop,Nat.add_mul,Nat.one_mul,Nat.add_comm]
theorem mO (sz:Nat):∀ (n:Nat) (l:List PV),(tB sz n l).length=n
 | 0,_=>rfl
 | n+1,l=>by simp[tB,mO sz n]
theorem uw {e:cz} {tk:List Nat} {H:AH} {sz n:Nat} {l:List PV} {vs:List Value} (h:L2 (RV e tk H false) l vs) (U:l.all PV.plain=true) (hl:l.length=n * sz):rH e tk H sz (tB sz n l) vs:=by
 have key:∀ (i:Nat) (cs:List PV),(tB sz n l)[i]? = some cs->i < n/\cs=(l.drop (i * sz)).take sz:=λ i cs N=>by
  have wb:i < n:=by have:=ax N; rwa [mO] at this
  rw[BQ sz n l i wb] at N;cases N; exact⟨wb,rfl⟩
 have hle:∀ i,i < n->i * sz+sz<=n * sz:=λ i N=>by
  have B:(i+1) * sz<=n * sz:=Nat.mul_le_mul_right _ N;rw[Nat.add_mul,Nat.one_mul] at B; exact B
 have at':∀ (i:Nat) (cs:List PV) (j:Nat) (p:PV),(tB sz n l)[i]? = some cs->cs[j]? = some p->l[i * sz+j]? = some p:=λ i cs j p N X=>by
  obtain⟨B,rfl⟩:=key i cs N;rw[List.getElem?_take] at X;split at X
  ·rw[List.getElem?_drop] at X; exact X
  ·cases X
 refine⟨by rw[<- h.1,hl,mO],λ i cs N=>?_,λ i cs j p N X=>List.all_eq_true.1 U p (List.mem_of_getElem? (at' i cs j p N X)),λ i cs j p N X=>h.at (at' i cs j p N X)⟩;obtain⟨B,rfl⟩:=key i cs N;have:=hle i B;rw[List.length_take,List.length_drop,hl]; omega
def uY (P:Program) (s:PS) (t:TypeId) (len:Nat) (bH:List (Nat×Operand)):Option (Nat×List (List PV)):=
 match P.underlying t with
 | some (.slice elem)=>match oD s bH,bD P elem,eB P elem with
  | some ps,.ok size,.ok zs=>pick (Nat.ble (len * size) 16777216) (pick (zs.all bu) (match rR (λ i=>some (i * size,size)) ((ba zs len).map .val) ps with
   | some cells=>match A6 cells with
    | some cs=>pick (Nat.beq cs.length (len * size)) (some (size,tB size len cs)) none
    | none=>none
   | none=>none) none) none
  | _,_,_=>none
 | _=>none
theorem mF {zs:List Value} (h:zs.all bu=true):∀ n,(ba zs n).all bu=true
 | 0=>rfl
 | n+1=>by simp only[ba,List.all_append,h,mF h n,Bool.and_self]
theorem Bk {t:TypeId} {len sz:Nat} {bH:Array (Nat×Operand)} {l:List (List PV)} (h:uY P s t len bH.toList=some (sz,l)):uX P O s ⟨d,.buildSlice t len bH,ty,pst,af,gu⟩ (.aS sz l (some s.tk.length)) s.fr (s.tk++[l.length]):=by
 refine⟨rfl,λ C e a H G=>?_⟩;unfold uY at h;cases ht:P.underlying t with
 | none=>rw[ht] at h; cases h
 | some ag=>
  rw[ht] at h;cases ag with
  | slice elem=>
   simp only at h;cases mo:oD s bH.toList with
   | none=>rw[mo] at h; cases h
   | some ps=>
    cases hs:bD P elem with
    | error n=>rw[mo,hs] at h; cases h
    | ok size=>
     cases hz:eB P elem with
     | error n=>rw[mo,hs,hz] at h; cases h
     | ok zs=>
      rw[mo,hs,hz] at h;obtain⟨hle,h⟩:=bm h;obtain⟨kN,h⟩:=bm h;cases hf:rR (λ i=>some (i * size,size)) ((ba zs len).map .val) ps with
      | none=>rw[hf] at h; cases h
      | some cells=>
       rw[hf] at h;simp only at h;cases mc:A6 cells with
       | none=>rw[mc] at h; cases h
       | some cs=>
        rw[mc] at h;obtain⟨kM,h⟩:=bm h;cases h;obtain⟨vs,B,D⟩:=G.bH mo;obtain⟨r,k1,k2⟩:=sQ ps vs _ (ba zs len).toArray _ D (qj (mF kN len)) hf;obtain⟨k3,k4⟩:=sR k2 mc;have Uw:=uw (n:=len) k3 k4 (Nat.eq_of_beq_eq_true kM);obtain⟨st,rv⟩:=BM G.h.dz G.h.xc Uw elem;rw[Nat.ble_eq] at hle;have I6:¬ len * sz > 16777216:=by omega
        refine⟨0,_,_,_,?_,st,rv⟩;simp only[b9,ht];rw[B];simp only[bind,Except.bind,hs,if_neg I6,hz,k1,newRow,AH.jv,mO];rfl
  | _=>cases h
end ops
end
end Go.cy
namespace Go.cy
noncomputable section
variable {P:Program} {O:ia}
section ops
variable {rnd:Option Nat} {all os:List Oper} {s:PS} {Q:PS->Prop} {d:Option Tmp} {ty:TypeId} {pst:String} {af:Array Edge} {gu:Option (Nat×Bool)}
theorem cX.DK {o:Oper} {p:PV} (hd:dR o.op=none) (h:∀ C e a H,cm C e s a H->∃ n v,b9 P (bF P O n) a H o=.ok (v,H)/\RV e s.tk H true p v):cX P O s o p:=⟨hd,h⟩
theorem wS {b:Bool} {e:cz} {tk:List Nat} {H:AH} {sz:Nat} {l:List (List PV)} {t:Option Nat} {v:Value} (h:RV e tk H b (.aS sz l t) v):∃ a c,v=.slice a l.length c:=by
 cases h with
 | fU ht=>exact⟨_,_,rfl⟩
 | aS=>exact⟨_,_,rfl⟩
theorem TT {x:Operand} {t el sz n:Nat} {l:List (List PV)} {AS:Option Nat} (ht:P.underlying t=some (.slice el)) (Y:s.ev x=some (.aS sz l AS)) (hl:l.length=n):cX P O s ⟨d,.call ⟨.builtin .len,#[x],#[t]⟩,ty,pst,af,gu⟩ (.val (.int .i64 n)):=
 .DK rfl λ C e a H G=>by
  obtain⟨v,B,D⟩:=G.ev Y;obtain⟨ad,c,rfl⟩:=wS D;refine⟨0,.int .i64 n,?_,.val rfl⟩;simp only[b9,eU,az.aL B,bind,Except.bind,DX,ht,hl]
def ajR (P:Program) (t:TypeId):PV->Option PV
 | .val (.string s)=>match P.underlying t with
  | some .string=>some (.val (.int .i64 s.size))
  | _=>none
 | .val (.slice none 0 0)=>match P.underlying t with
  | some (.slice _)=>some (.val (.int .i64 0))
  | _=>none
 | .sl _ _ n _=>match P.underlying t with
  | some (.slice _)=>some (.val (.int .i64 n))
  | _=>none
 | _=>match P.underlying t with
  | some (.array n _)=>some (.val (.int .i64 n))
  | _=>none
theorem kr {k:IntKind} {m:Int} {n gF:Nat} (h:m.toNat=n) (h0:0<=m) (hm:n<=gF):gH (.int k m) gF=.ok n:=by
 simp only[gH];rw[if_pos (by omega),h]
theorem iY {t el sz:Nat} {x i:Operand} {l:List (List PV)} {AS:Option Nat} {k:IntKind} {m:Int} {cs:List PV} (ht:P.underlying t=some (.slice el)) (hs:bD P el=.ok sz) (Y:s.ev x=some (.aS sz l AS)) (N:s.ev i=some (.val (.int k m)))
  (h0:0<=m) (hc:l[m.toNat]? = some cs):cX P O s ⟨d,.indexAddr t x i,ty,pst,af,gu⟩ (.dN cs 0):=
 .DK rfl λ C e a H G=>by
  obtain⟨v,B,D⟩:=G.ev Y;obtain⟨u,V,h4⟩:=G.ev N;have e1:=h4.bA; subst e1;have cG:=ax hc;cases D with
  | fU ht=>simp at cG
  | @aS _ _ _ _ id off c n r w hr hn fW he Ux hw hz U hv hh NW=>
   refine⟨0,.pointer (some ⟨id,off+m.toNat * sz,none⟩),?_,?_⟩
   ·simp only[b9,az.aL B,az.aL V,bind,Except.bind,ht,kr (m:=m) (n:=m.toNat) rfl h0 (show m.toNat<=l.length - 1 by omega),hs];rw[if_pos cG]
   ·have kM:=hz _ _ hc;have hmul:m.toNat * sz+sz<=l.length * sz:=by
     have B:(m.toNat+1) * sz<=l.length * sz:=Nat.mul_le_mul_right _ cG;rw[Nat.add_mul,Nat.one_mul] at B; exact B
    have:=RV.dN (b:=true) (off:=0) (base:=off+m.toNat * sz) (λ j=>w m.toNat j) hr (by omega) fW (λ j p X=>hv _ _ _ _ hc X) (λ j p X=>hh _ _ _ _ hc X);simpa using this
def ajS (s:PS) (x:Option Operand) (D2:Nat):Option Nat:=
 match x with
 | none=>some D2
 | some o=>match s.ev o with
  | some (.val (.int _ m))=>some m.toNat
  | _=>none
inductive VB (s:PS) (D2:Nat):Option Operand->Nat->Prop
 | none:VB s D2 none D2
 | some {o:Operand} {k:IntKind} {m:Int} {n:Nat} (h:s.ev o=some (.val (.int k m))) (h0:0<=m) (hn:m.toNat=n):VB s D2 (some o) n
def zl (a:az) (y:Option Operand):R (Option Value):=match y with
 | some y=>do .ok (some (<- a.eval y))
 | none=>.ok none
theorem BR {rec:eL} {a:az} {H:AH} {t:TypeId} {x:Operand} {xl xh xm:Option Operand} : b9 P rec a H ⟨d,.slice t x xl xh xm,ty,pst,af,gu⟩=(do .ok (<- wx P H t (<- a.eval x) (<- zl a xl) (<- zl a xh) (<- zl a xm),H)):=rfl
theorem cm.YN {C:fS} {e:cz} {a:az} {H:AH} (G:cm C e s a H) {x:Option Operand} {D2 n gF:Nat} (h:VB s D2 x n) (hm:n<=gF) :
  ∃ v,zl a x=.ok v/\xq v gF D2=.ok n/\(v.isNone=x.isNone):=by
 cases h with
 | none=>exact⟨none,rfl,rfl,rfl⟩
 | @some o k m n h h0 hn=>
  obtain⟨u,V,h4⟩:=G.ev h;have e1:=h4.bA; subst e1;exact⟨some (.int k m),by simp only[zl,az.aL V,bind,Except.bind],by simp only[xq]; exact kr hn h0 hm,rfl⟩
theorem vy {t el sz lo N:Nat} {x:Operand} {xl xh:Option Operand} {l l2:List (List PV)} {AS:Option Nat} (ht:P.underlying t=some (.slice el)) (hs:bD P el=.ok sz) (Y:s.ev x=some (.aS sz l AS)) (B:VB s 0 xl lo) (D:VB s l.length xh N)
  (hle:lo<=N) (S9:N<=l.length) (V:(l.take N).drop lo=l2):cX P O s ⟨d,.slice t x xl xh none,ty,pst,af,gu⟩ (.aS sz l2 none):=
 .DK rfl λ C e a H G=>by
  subst V;obtain⟨v,k1,k2⟩:=G.ev Y;cases k2 with
  | fU NW=>
   have e1:N=0:=by simp at S9; exact S9
   subst e1;have e2:lo=0:=by omega
   subst e2;obtain⟨vh,m1,m2,m3⟩:=G.YN D (Nat.zero_le 0);obtain⟨vl,m4,m5,m6⟩:=G.YN B (Nat.zero_le 0);refine⟨0,.slice none 0 0,?_,.fU (λ k hk=>by cases hk)⟩;simp only[List.length_nil] at m2;have m0:zl a none=.ok none:=rfl;have m7:xq (none:Option Value) 0 0=.ok 0:=rfl;rw[BR];simp only[az.aL k1,m1,m4,m0,wx,ht,bind,Except.bind,nZ,m7,Option.isSome_none,Bool.and_false,Bool.false_eq_true,if_false,m2,m5,Nat.le_refl,and_self,if_true,hs]
  | @aS _ _ _ _ id off c n r w hr hn fW he Ux hw hz U hv hh NW=>
   obtain⟨vh,m1,m2,m3⟩:=G.YN D (show N<=c by omega);obtain⟨vl,m4,m5,m6⟩:=G.YN B hle;have eH:H.row id=.ok r:=by unfold AH.row; rw[hr]
   have hlen:((l.take N).drop lo).length=N - lo:=by rw[List.length_drop,List.length_take]; omega
   have A7:∀ (i:Nat) (cs:List PV),((l.take N).drop lo)[i]? = some cs->l[lo+i]? = some cs:=λ i cs h=>by
    rw[List.getElem?_drop,List.getElem?_take] at h;split at h
    ·exact h
    ·cases h
   have hmul:lo * sz+(N - lo) * sz<=l.length * sz:=by
    rw[<- Nat.add_mul,show lo+(N - lo)=N by omega]; exact Nat.mul_le_mul_right _ S9
   refine⟨0,.slice (some ⟨id,off+lo * sz,none⟩) (N - lo) (c - lo),?_,?_⟩
   ·have m0:zl a none=.ok none:=rfl;have m7:xq (none:Option Value) c c=.ok c:=rfl;rw[BR];simp only[az.aL k1,m1,m4,m0,wx,ht,bind,Except.bind,nZ,m7,Option.isSome_none,Bool.and_false,Bool.false_eq_true,if_false,m2,m5,hs,eH,he,true_or,if_true];rw[if_pos ⟨hle,by omega⟩]
   ·rw[<- hlen];refine .aS (λ i j=>w (lo+i) j) hr (n:=n) ?_ fW he (by rw[hlen]; omega) ?_ (λ i cs kD=>hz _ _ (A7 i cs kD)) (λ i cs j p kD X=>U _ _ j p (A7 i cs kD) X) (λ i cs j p kD X=>?_) (λ i cs j p kD X=>hh _ _ j p (A7 i cs kD) X) (λ k hk=>by cases hk)
    ·rw[hlen]; omega
    ·rw[hlen]; omega
    ·have:=hv _ _ j p (A7 i cs kD) X;rw[show off+lo * sz+i * sz+j=off+(lo+i) * sz+j by rw[Nat.add_mul]; omega];exact this
theorem Az {t u el sz bytes k n n2:Nat} {x y:Operand} {zs:List Value} {l m l2:List (List PV)} {AS:Option Nat} (ht:P.underlying t=some (.slice el)) (hu:m9 P (some u)=.ok false) (hs:bD P el=.ok sz) (hb:jJ P el=.ok bytes) (hz:eB P el=.ok zs) (ym:Nat.beq sz 0=false) (mG:Nat.beq bytes 0=false)
  (Y:s.ev x=some (.aS sz l (some k))) (hy:s.ev y=some (.aS sz m AS)) (hn:s.tk[k]? = some n) (KK:l.length=n) (th:(5 * (l.length+m.length)+768) * bytes<=1125899906842624) (D:l++m=l2) (Hq:l.length+m.length=n2) :
  uX P O s ⟨d,.call ⟨.builtin .append,#[x,y],#[t,u]⟩,ty,pst,af,gu⟩ (.aS sz l2 (some k)) s.fr (s.tk.set k n2):=by
 subst D;subst Hq;subst KK;refine⟨rfl,λ C e a H G=>?_⟩;obtain⟨v,k1,k2⟩:=G.ev Y;obtain⟨w,k3,k4⟩:=G.ev hy;obtain⟨new,m1,m2⟩:=lD k4 hs;obtain⟨e',H',v',a1,Z,a3,_⟩:=BN G.h.dz G.h.xc ht hu hs hb hz ym mG k2 hn m1 m2 th;exact⟨0,v',H',e',by simp only[b9,eU,az.aL k1,az.aL k3,bind,Except.bind,a1],Z,a3⟩
theorem cm.TU {C:fS} {e:cz} {a:az} {H:AH} (G:cm C e s a H):cm C (e.tok none) (s.mem s.fr (s.tk++[0])) a H/\Grow e s.tk H (e.tok none) (s.tk++[0]) H:=by
 have hI:=G.h.dz;have Y:mB (je e s.tk H) (e.tok none) (s.tk++[0]):=by
  refine⟨⟨[],by simp[je,cz.tok],by simp⟩,λ t τ ht=>?_,λ t τ ht=>cK ht,λ t n ht=>⟨n,cK ht,Nat.le_refl _,λ _=>?_⟩⟩
  ·rcases dL ht with⟨_,B⟩ | ⟨_,B⟩
   ·exact .inl B
   ·cases B
  ·show(e.toks++[none])[t]? = e.toks[t]?;rw[List.getElem?_append_left (by rw[hI.dD]; exact ax ht)]
 have hf:Frame (je e s.tk H) H:=Frame.refl (je e s.tk H);have aa:=kn Y hf rfl hI;have st:gO e s.tk H (e.tok none) s.fr (s.tk++[0]) H:=by
  refine⟨⟨hI.wf,hI.dY,hI.rnd,λ k id R hk ma=>?_,by simp[cz.tok,hI.dD],λ t t' τ fG ht iO hf=>?_,λ t τ ht=>?_,λ t τ ht hm=>?_⟩,Y,hf,rfl⟩
  ·exact(hI.row k id R hk ma).eR rfl rfl λ us h8=>h8.grow aa
  ·rcases dL ht with⟨_,B⟩ | ⟨h0,B⟩ <;> rcases dL iO with⟨_,D⟩ | ⟨V,D⟩
   ·exact hI.iy t t' τ fG B D hf
   ·cases D
   ·cases B
   ·omega
  ·rcases dL ht with⟨_,B⟩ | ⟨h0,B⟩
   ·exact hI.oI t τ B
   ·cases B
  ·rcases dL ht with⟨_,B⟩ | ⟨h0,B⟩
   ·exact hI.tq t τ B hm
   ·cases B
 exact⟨⟨G.h.step st,G.n,G.bn.step (λ m hm=>st.kP G.h.dz hm (λ r e=>by cases e) (λ _ _ e=>by cases e)),G.r0,G.t0,λ t p ht=>let ⟨v,B,D⟩:=G.tm t p ht; ⟨v,B,D.grow aa⟩⟩,aa⟩
theorem Nt {e:cz} {tk:List Nat} {H:AH} {b:Bool} {sz:Nat} {v:Value} (h:RV e tk H b (.val (.slice none 0 0)) v):RV e tk H b (.aS sz [] none) v:=by
 rw[h.bA]; exact .fU (λ k hk=>by cases hk)
theorem Nu {c x y:Operand} {b:Bool} {p:PV} (hc:s.ev c=some (.val (.bool b))) (hb:b=true) (Y:s.ev x=some p):cX P O s ⟨d,.pick c x y,ty,pst,af,gu⟩ p:=
 .DK rfl λ C e a H G=>by
  obtain⟨v,B,D⟩:=G.ev hc;have e1:=D.bA; subst e1;obtain⟨w,V,h4⟩:=G.ev Y;subst hb;exact⟨0,w,by simp only[b9,az.aL B,az.aL V,bind,Except.bind,if_true],h4⟩
theorem Nv {c x y:Operand} {b:Bool} {p:PV} (hc:s.ev c=some (.val (.bool b))) (hb:b=false) (Y:s.ev y=some p):cX P O s ⟨d,.pick c x y,ty,pst,af,gu⟩ p:=
 .DK rfl λ C e a H G=>by
  obtain⟨v,B,D⟩:=G.ev hc;have e1:=D.bA; subst e1;obtain⟨w,V,h4⟩:=G.ev Y;subst hb;exact⟨0,w,by simp only[b9,az.aL B,az.aL V,bind,Except.bind,Bool.false_eq_true,if_false],h4⟩
inductive PR where
 | pure (p:PV)
 | mem (p:PV) (fr:List aJ) (tk:List Nat)
def KL (P:Program) (s:PS) (op:Op):Option PR:=
 match op with
 | .box _ x=>match s.ev x with
  | some p=>some (.mem (.ptr s.fr.length 0) (s.fr++[⟨0,p.cells⟩]) s.tk)
  | none=>none
 | .alloc t=>match eB P t with
  | .ok zs=>pick (zs.all bu) (some (.mem (.ptr s.fr.length 0) (s.fr++[⟨0,zs.map .val⟩]) s.tk)) none
  | .error _=>none
 | .store t x y=>match s.ev x,s.ev y,bD P t with
  | some (.ptr k off),some p,.ok n=>match s.fr[k]? with
   | some R=>pick (Nat.beq p.cells.length n) (pick (p.cells.all PV.plain) (pick (QQ R (off+p.cells.length)) (some (.mem (.fX []) (s.fr.set k ⟨R.esz,iw R.cells off p.cells⟩) s.tk)) none) none) none
   | none=>none
  | _,_,_=>none
 | .build t bH=>match zC P s t bH.toList with
  | some p=>some (.pure p)
  | none=>none
 | .buildSlice t len bH=>match uY P s t len bH.toList with
  | some (sz,l)=>some (.mem (.aS sz l (some s.tk.length)) s.fr (s.tk++[l.length]))
  | none=>none
 | .call { callee:=.builtin .len,args:=_,argTypes:=_ }=>none
 | .pick c x y=>match s.ev c with
  | some (.val (.bool b))=>match (Bool.rec (s.ev y) (s.ev x) b:Option PV) with
   | some p=>some (.pure p)
   | none=>none
  | _=>none
 | op=>match iq P s op with
  | some p=>some (.pure p)
  | none=>none
def PR.ok (P:Program) (O:ia) (s:PS) (o:Oper):PR->Prop
 | .pure p=>uX P O s o p s.fr s.tk
 | .mem p fr tk=>uX P O s o p fr tk
theorem TV {o:Oper} {r:PR} (h:KL P s o.op=some r):r.ok P O s o:=by
 have gen:(match iq P s o.op with | some p=>some (PR.pure p) | none=>none)=some r->r.ok P O s o:=λ h=>by
  cases U:iq P s o.op with
  | none=>rw[U] at h; cases h
  | some p=>rw[U] at h; cases h; exact Nr U
 obtain⟨d,op,ty,ps,af,gu⟩:=o;cases op with
 | box t x=>
  simp only[KL] at h;cases Y:s.ev x with
  | none=>rw[Y] at h; cases h
  | some p=>rw[Y] at h; cases h; exact TQ Y
 | pick c x y=>
  simp only[KL] at h;split at h
  ·rename_i b hc;split at h
   ·rename_i p U;cases h;cases b with
    | true=>exact(Nu hc rfl U).ok
    | false=>exact(Nv hc rfl U).ok
   ·cases h
  ·cases h
 | alloc t=>
  simp only[KL] at h;cases hz:eB P t with
  | error n=>rw[hz] at h; cases h
  | ok zs=>
   rw[hz] at h;obtain⟨U,h⟩:=bm h;cases h; exact Ns hz U
 | store t x y=>
  simp only[KL] at h;cases Y:s.ev x with
  | none=>rw[Y] at h; cases h
  | some q=>
   cases hy:s.ev y with
   | none=>rw[Y,hy] at h; cases q <;> cases h
   | some p=>
    cases hn:bD P t with
    | error n=>rw[Y,hy,hn] at h; cases q <;> cases h
    | ok n=>
     rw[Y,hy,hn] at h;cases q with
     | ptr k off=>
      simp only at h;cases hk:s.fr[k]? with
      | none=>rw[hk] at h; cases h
      | some R=>
       rw[hk] at h;obtain⟨B,h⟩:=bm h;obtain⟨D,h⟩:=bm h;obtain⟨V,h⟩:=bm h;cases h;exact EO Y hy hn B hk D V
     | _=>cases h
 | build t bH=>
  simp only[KL] at h;cases hb:zC P s t bH.toList with
  | none=>rw[hb] at h; cases h
  | some p=>rw[hb] at h; cases h; exact(EN hb).ok
 | buildSlice t len bH=>
  simp only[KL] at h;cases hb:uY P s t len bH.toList with
  | none=>rw[hb] at h; cases h
  | some r=>obtain⟨sz,l⟩:=r; rw[hb] at h; cases h; exact Bk hb
 | call c=>
  obtain⟨IF,xs,ts⟩:=c;cases IF with
  | builtin b=>cases b <;> first | exact gen h | (cases h; done)
  | _=>exact gen h
 | _=>exact gen h
def oy (P:Program) (all:List Oper):Nat->List Oper->PS->Option (List Oper×PS)
 | 0,os,s=>some (os,s)
 | _+1,[],s=>some ([],s)
 | n+1,o :: os,s=>match cC all s o with
  | some true=>match KL P s o.op with
   | some (.pure p)=>pick (s.can o.dst) (oy P all n os (s.dF o.dst p)) none
   | some (.mem p fr tk)=>pick (s.can o.dst) (oy P all n os ((s.mem fr tk).dF o.dst p)) none
   | none=>none
  | some false=>pick (s.can o.dst) (oy P all n os (s.dF o.dst (.fX []))) none
  | none=>none
theorem PO.run (n:Nat):∀ {os yo:List Oper} {s s':PS},oy P all n os s=some (yo,s')->PO P O rnd all yo s' Q->PO P O rnd all os s Q:=by
 induction n with
 | zero=>intro os yo s s' h hq; cases h; exact hq
 | succ n ih=>
  intro os yo s s' h hq;cases os with
  | nil=>cases h; exact hq
  | cons o os=>
   simp only[oy] at h;cases hw:cC all s o with
   | none=>rw[hw] at h; cases h
   | some b=>
    rw[hw] at h;cases b with
    | true=>
     simp only at h;cases U:KL P s o.op with
     | none=>rw[U] at h; cases h
     | some r=>
      rw[U] at h;have DJ:=TV (O:=O) U;cases r with
      | pure p=>
       obtain⟨hc,h⟩:=bm h;exact PO.one hw DJ hc (ih h hq)
      | mem p fr tk=>
       obtain⟨hc,h⟩:=bm h;exact PO.one hw DJ hc (ih h hq)
    | false=>
     obtain⟨hc,h⟩:=bm h;exact PO.not hw hc (ih h hq)
theorem PC.run {rnd:Option Nat} {i n:Nat} {ops:Array Oper} {z:Code} {s s':PS} {Q:AX->PS->Prop} (h:oy P ops.toList n ops.toList s=some ([],s')) (hq:PC P O rnd z s' Q):PC P O rnd (.seq (.region i ops false) z) s Q:=
 PC.region (PO.run n h (PO.nil hq))
end ops
end
end Go.cy
