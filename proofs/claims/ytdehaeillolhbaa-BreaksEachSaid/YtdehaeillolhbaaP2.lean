/-
  Layer 15: the plain law of BreaksCharges.
-/
import Derived.Test.YtdehaeillolhbaaP1
set_option maxRecDepth 10000
namespace Go.Eng.Lift
open Go.Proofs
noncomputable section
def Cls (x:GLine):Prop:=0<=x.class_/\x.class_ < 4
theorem c76 {k:Nat} {x r:GLine} (h:F76 k x=some r):Cls r:=by
 unfold F76 at h
 obtain⟨p,hp,h⟩:=bind_some h
 have one:∀ {a b:Int} {c:Bool},some (a,b,c)=some p->0<=b/\b < 4->0<=p.2.1/\p.2.1 < 4:=λ e1 hb=>by
  have:=Option.some.inj e1
  rw[<- this]; exact hb
 have two:∀ {b:Bool} {u v:Option (Int×Int×Bool)},(bif b then u else v)=some p->(u=some p->0<=p.2.1/\p.2.1 < 4)->(v=some p->0<=p.2.1/\p.2.1 < 4)->0<=p.2.1/\p.2.1 < 4:=λ {b u v} h1 h2 h3=>by
  cases b with
  | true=>exact h2 h1
  | false=>exact h3 h1
 have key:0<=p.2.1/\p.2.1 < 4:=by
  obtain⟨b,_,hp⟩:=bind_some hp
  refine two hp (λ hp=>one hp (by decide)) λ hp=>?_
  obtain⟨b,_,hp⟩:=bind_some hp
  refine two hp (λ hp=>one hp (by decide)) λ hp=>?_
  refine two hp (λ hp=>?_) λ hp=>?_
  ·obtain⟨_,hp⟩:=bindD_some hp
   obtain⟨q,_,hp⟩:=bind_some hp
   exact two hp (λ hp=>one hp (by decide)) (λ hp=>one hp (by decide))
  ·refine two hp (λ hp=>one hp (by decide)) λ hp=>?_
   obtain⟨_,hp⟩:=bindD_some hp
   obtain⟨q,_,hp⟩:=bind_some hp
   refine two hp (λ hp=>one hp (by decide)) λ hp=>?_
   exact two hp (λ hp=>one hp (by decide)) (λ hp=>one hp (by decide))
 have h':=Option.some.inj h
 rw[<- h']
 exact key
theorem c51 {k:Nat} {L:List GItem} {a b c:Int} {r:GLine} (h:F51 k L a b c=some r):Cls r:=by
 unfold F51 at h
 obtain⟨_,_,h⟩:=bind_some h
 obtain⟨_,_,h⟩:=bind_some h
 obtain⟨_,_,_,h⟩:=bindS_some h
 obtain⟨_,_,h⟩:=bind_some h
 obtain⟨_,_,_,h⟩:=bindI_some h
 obtain⟨_,_,h⟩:=bind_some h
 obtain⟨q,h1,h⟩:=bind_some h
 rw[<- Option.some.inj h]
 exact c76 h1
theorem c59 {k:Nat} {L:List GItem} {a b c:Int} {r:GLine×Int} (h:F59 k L a b c=some r):Cls r.1:=by
 unfold F59 at h
 obtain⟨_,_,h⟩:=bind_some h
 obtain⟨v,_,h⟩:=bind_some h
 cases v with
 | true=>rw[cond_true] at h; rw[<- Option.some.inj h]; exact⟨by decide,by decide⟩
 | false=>
  rw[cond_false] at h
  obtain⟨_,_,_,h⟩:=bindS_some h
  obtain⟨v,_,h⟩:=bind_some h
  cases v with
  | true=>rw[cond_true] at h; rw[<- Option.some.inj h]; exact⟨by decide,by decide⟩
  | false=>
   rw[cond_false] at h
   obtain⟨q,h1,h⟩:=bind_some h
   rw[<- Option.some.inj h]
   exact c51 h1
theorem l59 (k:Nat) (L:List GItem) (a b c:Int) (hk:L.length < k):∃ r,F59 k L a b c=some r/\Cls r.1:=by
 obtain⟨r,h,_⟩:=t34 k L a b c hk
 exact⟨r,h,c59 h⟩
theorem ex_bif {α:Type} {b:Bool} {u v:Option α} (h1:∃ r,u=some r) (h2:∃ r,v=some r):∃ r,(bif b then u else v)=some r:=by
 cases b with
 | true=>exact h1
 | false=>exact h2
theorem t81 (k:Nat) (a b:Int):∃ r,F81 k a b=some r:=by
 unfold F81 F92
 simp only[Option.bind_some]
 exact ex_bif (ex_bif ⟨_,rfl⟩ ⟨_,rfl⟩) (ex_bif ⟨_,rfl⟩ (ex_bif ⟨_,rfl⟩ (ex_bif ⟨_,rfl⟩ ⟨_,rfl⟩)))
theorem t80 (k:Nat) (x y z:Int) (hk:4<=k):∃ r,F80 k [x,y,z]=some r:=by
 have key:∀ (j i:Nat),i<=3->3 < j+i->∃ r,F80_l1 k [x,y,z] j i=some r:=by
  intro j
  induction j with
  | zero=>intro i h1 h2; omega
  | succ j ih=>
   intro i h1 h2
   unfold F80_l1
   by_cases hi:i < 3
   ·obtain⟨u,hu⟩:=at_of (L:=[x,y,z]) (i:=(i:Int)) (by omega) (by simp; omega)
    rw[decide_eq_true (show(i:Int) < ([x,y,z].length:Int) by simp; omega),cond_true,bindI_eq (by omega) hu,w_id (by omega) (by omega)]
    exact ex_bif ⟨_,rfl⟩ (ih (i+1) (by omega) (by omega))
   ·rw[decide_eq_false (show ¬ (i:Int) < ([x,y,z].length:Int) by simp; omega),cond_false]
    exact⟨_,rfl⟩
 obtain⟨r,hr⟩:=key k 0 (by omega) (by omega)
 unfold F80
 rw[show(0:Int)=((0:Nat):Int) from rfl,hr]
 cases r with
 | inl u=>exact⟨_,rfl⟩
 | inr u=>exact⟨_,rfl⟩
theorem t61 (k:Nat) (a b:GCost) (hk:4<=k):∃ r,F61 k a b=some r:=by
 unfold F61
 refine ex_bif ⟨_,rfl⟩ ?_
 obtain⟨r1,h1⟩:=t81 k a.bad b.bad
 obtain⟨r2,h2⟩:=t81 k a.total b.total
 obtain⟨r3,h3⟩:=t81 k a.lines b.lines
 obtain⟨r4,h4⟩:=t80 k r1 r2 r3 hk
 rw[h1,Option.bind_some,h2,Option.bind_some,h3,Option.bind_some,h4]
 exact⟨_,rfl⟩
def TB (S:List Gstate):Prop:=∀ (i:Nat) (y:Gstate) (j:Nat),S[i]? = some y->y.ahead=some j->j < S.length/\j / 4 < i / 4
def rank (S:List Gstate):Option (Option Nat)->Nat
 | none=>0
 | some none=>S.length+2
 | some (some i)=>i / 4+1
def InS (S:List Gstate) (p:Option (Option Nat)):Prop:=∀ i,p=some (some i)->i < S.length
def Into (S:List Gstate) (z:Gstate):Prop:=∀ j,z.ahead=some j->j < S.length
theorem get_in {S:List Gstate} {z:Gstate} {p:Option (Option Nat)} (h:InS S p) (hp:p≠none):∃ y,getG z S p=some y:=by
 rcases p with _ | _ | i
 ·exact absurd rfl hp
 ·exact⟨z,rfl⟩
 ·exact⟨_,List.getElem?_eq_getElem (h i rfl)⟩
theorem bindG_eq {β:Type} {S:List Gstate} {z y:Gstate} {p:Option (Option Nat)} {f:Gstate->Option β} (h:getG z S p=some y):bindG z S p f=f y:=by unfold bindG; rw[h]; rfl
theorem step_ahead {S:List Gstate} {z y:Gstate} {p:Option (Option Nat)} (hT:TB S) (hz:Into S z) (hi:InS S p) (h:getG z S p=some y):InS S (y.ahead.map some)/\rank S (y.ahead.map some) < rank S p:=by
 rcases p with _ | _ | i
 ·cases h
 ·cases h
  cases ha:z.ahead with
  | none=>exact⟨λ i e=>(by cases e),by show 0 < _; exact Nat.succ_pos _⟩
  | some j=>
   have:=hz j ha
   refine⟨λ i e=>?_,?_⟩
   ·simp only[Option.map_some,Option.some.injEq] at e
    omega
   ·show j / 4+1 < S.length+2
    omega
 ·have h:S[i]? = some y:=h
  cases ha:y.ahead with
  | none=>exact⟨λ i e=>(by cases e),by show 0 < _; exact Nat.succ_pos _⟩
  | some j=>
   obtain⟨h1,h2⟩:=hT i y j h ha
   refine⟨λ i e=>?_,?_⟩
   ·simp only[Option.map_some,Option.some.injEq] at e
    omega
   ·show j / 4+1 < i / 4+1
    omega
theorem t62_l1 (k:Nat) (S:List Gstate) (z:Gstate) (hS:S.isEmpty=false) (hT:TB S) (hz:Into S z):∀ (j:Nat) (p q:Option (Option Nat)),InS S p->InS S q->rank S p < j->∃ r,F62_s_l1 k S z j p q=some r/\∀ u,r=.inr u->u.2=(S,z)
 | 0,_,_,_,_,h=>by omega
 | j+1,p,q,hp,hq,h=>by
  unfold F62_s_l1 bindE
  rw[hS,cond_false]
  cases h1:p != q with
  | false=>exact⟨_,rfl,λ u e=>by cases e⟩
  | true=>
   rw[cond_true]
   cases h2:p.isNone with
   | true=>exact⟨_,rfl,λ u e=>by cases e; rfl⟩
   | false=>
    rw[cond_false]
    cases h3:q.isNone with
    | true=>exact⟨_,rfl,λ u e=>by cases e; rfl⟩
    | false=>
     rw[cond_false]
     have hpn:p≠none:=λ e=>by subst e; cases h2
     have hqn:q≠none:=λ e=>by subst e; cases h3
     obtain⟨y,hy⟩:=get_in (z:=z) hp hpn
     obtain⟨y',hy'⟩:=get_in (z:=z) hq hqn
     simp only[bindG_eq hy,bindG_eq hy']
     cases h4:y.line_Break != y'.line_Break with
     | true=>
      rw[cond_true]
      obtain⟨r,hr⟩:=t81 k y.line_Break y'.line_Break
      rw[hr]
      exact⟨_,rfl,λ u e=>by cases e; rfl⟩
     | false=>
      rw[cond_false]
      obtain⟨a1,a2⟩:=step_ahead hT hz hp hy
      obtain⟨b1,_⟩:=step_ahead hT hz hq hy'
      exact t62_l1 k S z hS hT hz j _ _ a1 b1 (by omega)
theorem t62 (k:Nat) (S:List Gstate) (z:Gstate) (hS:S.isEmpty=false) (hT:TB S) (hz:Into S z) (p q:Option (Option Nat)) (hp:InS S p) (hq:InS S q) (hk:S.length+2 < k):∃ n,F62_s k p q S z=some (n,S,z):=by
 have hr:rank S p < k:=by
  rcases p with _ | _ | i
  ·show 0 < k; omega
  ·exact hk
  ·have:=hp i rfl
   show i / 4+1 < k
   omega
 obtain⟨r,h1,h2⟩:=t62_l1 k S z hS hT hz k p q hp hq hr
 unfold F62_s
 rw[h1]
 cases r with
 | inl u=>exact⟨0,rfl⟩
 | inr u=>
  obtain⟨n,u⟩:=u
  have:=h2 _ rfl
  simp only at this
  subst this
  exact⟨n,rfl⟩
theorem t32 (k:Nat) (S:List Gstate) (z:Gstate) (hS:S.isEmpty=false) (hT:TB S) (hz:Into S z) (p q:Option (Option Nat)) (hp:InS S p) (hq:InS S q) (hpn:p≠none) (hqn:q≠none) (hk:S.length+4 < k):∃ b,F32_s k p q S z=some (b,S,z):=by
 obtain⟨y,hy⟩:=get_in (z:=z) hp hpn
 obtain⟨y',hy'⟩:=get_in (z:=z) hq hqn
 unfold F32_s
 simp only[bindG_eq hy,bindG_eq hy']
 cases h1 : !y'.is_ with
 | true=>exact⟨true,rfl⟩
 | false=>
  rw[cond_false]
  obtain⟨r,hr⟩:=t61 k (GCost.mk y.cost_Bad y.cost_Total y.cost_Lines) (GCost.mk y'.cost_Bad y'.cost_Total y'.cost_Lines) (by omega)
  rw[hr,Option.bind_some]
  cases h2:r != 0 with
  | true=>exact⟨_,rfl⟩
  | false=>
   rw[cond_false]
   obtain⟨n,hn⟩:=t62 k S z hS hT hz p q hp hq (by omega)
   rw[hn]
   exact⟨_,rfl⟩
theorem TB.set {S:List Gstate} {z:Gstate} {i:Nat} (hT:TB S) (hz:∀ j,z.ahead=some j->j < S.length/\j / 4 < i / 4):TB (S.set i z):=λ i' y j h1 h2=>by
 rw[List.length_set]
 rw[List.getElem?_set] at h1
 split at h1
 ·rename_i e; subst e
  split at h1
  ·cases h1; exact hz j h2
  ·cases h1
 ·exact hT i' y j h1 h2
def fat (L:List GItem) (p:Int):Bool:=match L[p.toNat]? with
 | some y=>frc y
 | none=>false
def frm (L:List GItem) (W:List Int):Nat->Int
 | 0=>-1
 | n+1=>if fat L (W.getD n 0)=true then n else frm L W n
theorem frm_lt (L:List GItem) (W:List Int):∀ n:Nat,-1<=frm L W n/\frm L W n < n
 | 0=>by unfold frm; omega
 | n+1=>by
  unfold frm
  have:=frm_lt L W n
  split <;> omega
theorem t79 (k:Nat) (p:Int) (m:GMeter) (L:List GItem) (a b:Int) (W:List Int) (N:Nat) (S:List Gstate) (hf:∀ (t:Nat) (y:GItem),L[t]? = some y->Fine y) (h0:0<=p) (h1:p < L.length):F79_s k p m L a b W N S=some (fat L p,m,L,a,b,W,S):=by
 obtain⟨y,hy⟩:=at_of h0 h1
 unfold F79_s fat
 rw[bindI_eq h0 hy,hy]
 have:=same_pen (hf _ _ hy)
 have e1:frc y=(y.kind == 4 && (y.value == -10000)):=this.symm
 simp only
 rw[e1]
 cases h2:y.kind == 4 with
 | false=>rfl
 | true=>rw[cond_true,bindI_eq h0 hy]; rfl
theorem t57_l1 (k N:Nat) (m:GMeter) (L:List GItem) (a b:Int) (W:List Int) (S:List Gstate) (hf:∀ (t:Nat) (y:GItem),L[t]? = some y->Fine y) (hW:∀ p∈W,0<=p/\p < L.length) (hlen:W.length<=100000) :
  ∀ (j n:Nat),n<=W.length->n < j->F57_s_l1 k N j ((n:Int) - 1) m L a b W S=some (if frm L W n = -1 then .inl (m,L,a,b,W,S) else .inr (frm L W n,m,L,a,b,W,S))
 | 0,n,_,h=>by omega
 | j+1,0,h1,h2=>by
  unfold F57_s_l1
  rw[decide_eq_false (by omega),cond_false]
  rfl
 | j+1,n+1,h1,h2=>by
  unfold F57_s_l1
  rw[decide_eq_true (show((n+1:Nat):Int) - 1>=0 by omega),cond_true]
  obtain⟨p,hp⟩:=at_of (L:=W) (i:=((n+1:Nat):Int) - 1) (by omega) (by omega)
  rw[bindI_eq (by omega) hp]
  have hn:(((n+1:Nat):Int) - 1).toNat=n:=by omega
  have hp':W.getD n 0=p:=by rw[List.getD_eq_getElem?_getD,<- hn,hp]; rfl
  obtain⟨p0,p1⟩:=hW p (List.mem_of_getElem? hp)
  rw[t79 k p m L a b W N S hf p0 p1,Option.bind_some]
  unfold frm
  rw[hp']
  cases hc:fat L p with
  | true=>
   simp only[if_true]
   rw[if_neg (by omega),show((n+1:Nat):Int) - 1=n by omega]
   rfl
  | false=>
   simp only[Bool.false_eq_true,if_false]
   show F57_s_l1 k N j (w (((n+1:Nat):Int) - 1 - 1)) m L a b W S=_
   rw[w_id (by omega) (by omega),show((n+1:Nat):Int) - 1 - 1=(n:Int) - 1 by omega]
   exact t57_l1 k N m L a b W S hf hW hlen j n (by omega) (by omega)
theorem t57 (k N n:Nat) (m:GMeter) (L:List GItem) (a b:Int) (W:List Int) (S:List Gstate) (hf:∀ (t:Nat) (y:GItem),L[t]? = some y->Fine y) (hW:∀ p∈W,0<=p/\p < L.length) (hlen:W.length<=100000) (hn:n<=W.length) (hk:n < k) :
  F57_s k n m L a b W N S=some (frm L W n,m,L,a,b,W,S):=by
 unfold F57_s
 rw[w_id (by omega) (by omega),t57_l1 k N m L a b W S hf hW hlen k n hn hk]
 split
 ·rename_i h; rw[h]; rfl
 ·rfl
structure Much (m:GMeter):Prop where
 sb:m.steps_budget=1152921504606846976
 cb:m.cells_budget=1152921504606846976
 rf:m.refused=0
 s0:0<=m.steps_now
 c0:0<=m.cells_now
theorem t58 (k:Nat) (m:GMeter) (h:Much m) (hs:m.steps_now<=1000000000):∃ m',F58 k m 1=some (true,m')/\Much m'/\m'.steps_now=m.steps_now+1/\m'.cells_now=m.cells_now/\m'.cells_peak=m.cells_peak:=by
 obtain⟨sn,sp,sb,cn,cp,cb,rf⟩:=m
 obtain⟨h1,h2,h3,h4,h5⟩:=h
 simp only at h1 h2 h3 h4 h5 hs
 subst h1 h2 h3
 have e1:w (1152921504606846976 - sn)=1152921504606846976 - sn:=w_id (by omega) (by omega)
 have e2:w (sn+1)=sn+1:=w_id (by omega) (by omega)
 unfold F58 F56_s2 F78_s2
 simp only[e1,e2]
 rw[show decide ((1:Int) < 0)=false from rfl,cond_false,Option.bind_some,show((0:Int) != 0)=false from rfl,cond_false,decide_eq_false (by omega),cond_false]
 exact⟨_,rfl,⟨rfl,rfl,rfl,by show 0<=sn+1; omega,h5⟩,rfl,rfl,rfl⟩
theorem t28 (k:Nat) (m:GMeter) (h:Much m) (hs:m.cells_now<=1000000000):∃ m',F28 k m 1=some (true,m')/\Much m'/\m'.cells_now=m.cells_now+1/\m'.cells_peak=max m.cells_peak (m.cells_now+1)/\m'.steps_now=m.steps_now:=by
 obtain⟨sn,sp,sb,cn,cp,cb,rf⟩:=m
 obtain⟨h1,h2,h3,h4,h5⟩:=h
 simp only at h1 h2 h3 h4 h5 hs
 subst h1 h2 h3
 have e1:w (1152921504606846976 - cn)=1152921504606846976 - cn:=w_id (by omega) (by omega)
 have e2:w (cn+1)=cn+1:=w_id (by omega) (by omega)
 unfold F28 F56_s F78_s
 simp only[e1,e2]
 rw[show decide ((1:Int) < 0)=false from rfl,cond_false,Option.bind_some,show((0:Int) != 0)=false from rfl,cond_false,decide_eq_false (by omega),cond_false]
 refine⟨_,rfl,⟨rfl,rfl,rfl,h4,by show 0<=cn+1; omega⟩,rfl,?_,rfl⟩
 show(if cn+1 > cp then cn+1 else cp)=max cp (cn+1)
 split <;> omega
theorem t11_l1 (k:Nat) (r:List Int×List Int) (hN:r.1.length<=100000):∀ (j:Nat) (v:Int) (m:GMeter),0<=v->v<=4 * r.1.length->4 * r.1.length - v < j->Much m->m.cells_now=v->m.cells_peak=v ->
  ∃ m',F11_l1 k r j v m=some (.inl m')/\Much m'/\m'.cells_now=4 * r.1.length/\m'.cells_peak=4 * r.1.length/\m'.steps_now=m.steps_now
 | 0,v,m,h1,h2,h3,_,_,_=>by omega
 | j+1,v,m,h1,h2,h3,hm,h4,h5=>by
  unfold F11_l1
  rw[w_id (n:=4 * (r.1.length:Int)) (by omega) (by omega)]
  by_cases hv:v < 4 * (r.1.length:Int)
  ·rw[decide_eq_true hv,cond_true]
   obtain⟨m1,e1,e2,e3,e4,e5⟩:=t28 k m hm (by omega)
   rw[e1,Option.bind_some]
   simp only[Bool.not_true,cond_false]
   rw[w_id (by omega) (by omega)]
   obtain⟨m',r1,r2,r3,r4,r5⟩:=t11_l1 k r hN j (v+1) m1 (by omega) (by omega) (by omega) e2 (by omega) (by omega)
   exact⟨m',r1,r2,r3,r4,by omega⟩
  ·rw[decide_eq_false hv,cond_false]
   exact⟨m,rfl,hm,by omega,by omega,rfl⟩
theorem t11_l4 (k:Nat) (l:List Int) (hN:l.length<=100000):∀ (j:Nat) (v:Int) (m:GMeter),0<=v->v<=l.length->l.length - v < j->Much m->m.cells_now=v->(l.length:Int)<=m.cells_peak ->
  ∃ m',F11_l4 k l j v m=some (.inl m')/\Much m'/\m'.cells_now=l.length/\m'.cells_peak=m.cells_peak/\m'.steps_now=m.steps_now
 | 0,v,m,h1,h2,h3,_,_,_=>by omega
 | j+1,v,m,h1,h2,h3,hm,h4,h5=>by
  unfold F11_l4
  by_cases hv:v < (l.length:Int)
  ·rw[decide_eq_true hv,cond_true]
   obtain⟨m1,e1,e2,e3,e4,e5⟩:=t28 k m hm (by omega)
   rw[e1,Option.bind_some]
   simp only[Bool.not_true,cond_false]
   rw[w_id (by omega) (by omega)]
   obtain⟨m',r1,r2,r3,r4,r5⟩:=t11_l4 k l hN j (v+1) m1 (by omega) (by omega) (by omega) e2 (by omega) (by omega)
   exact⟨m',r1,r2,r3,by omega,by omega⟩
  ·rw[decide_eq_false hv,cond_false]
   exact⟨m,rfl,hm,by omega,rfl,rfl⟩
def stp (L:List GItem) (W:List Int) (n:Nat):Nat->Int
 | 0=>0
 | d+1=>(n - frm L W n)+stp L W (n+1) d
theorem bindA_eq {α β:Type} {n:Nat} {L M:List α} {f:List α->Option β} (h:(5 * (L.length+M.length)+768) * n<=1125899906842624):bindA n L M f=f (L++M):=if_pos h
def mu:Option (Option Nat)->Nat
 | none=>0
 | some none=>1
 | some (some i)=>i / 4+1
theorem step_mu {S:List Gstate} {z y:Gstate} {p:Option (Option Nat)} (hT:TB S) (hz:z.ahead=none) (hi:InS S p) (h:getG z S p=some y):InS S (y.ahead.map some)/\mu (y.ahead.map some)+1<=mu p:=by
 rcases p with _ | _ | i
 ·cases h
 ·cases h
  rw[hz]
  exact⟨λ i e=>(by cases e),Nat.le_refl _⟩
 ·have h:S[i]? = some y:=h
  cases ha:y.ahead with
  | none=>exact⟨λ i e=>(by cases e),by show 0+1<=i / 4+1; omega⟩
  | some j=>
   obtain⟨h1,h2⟩:=hT i y j h ha
   refine⟨λ i e=>?_,?_⟩
   ·simp only[Option.map_some,Option.some.injEq] at e
    omega
   ·show j / 4+1+1<=i / 4+1
    omega
theorem sel (k N:Nat) (c:Int) (S:List Gstate) (z:Gstate) (p:Option (Option Nat)) (hS:S.length=4 * N) (hN:0 < N) (h0:0<=c) (h1:c < 4) (hT:TB S) (hz:z.ahead=none) (hp:InS S p) (hpn:p≠none) (hm:mu p<=N) (hk:S.length+4 < k) :
  ∃ p',(bindN ((N:Int) - 1) N (bindN c 4 (bindG z S (some (some (4 * Int.toNat ((N:Int) - 1)+Int.toNat c))) λ y140=>
   Option.bind (α:=Bool×(List Gstate)×Gstate) (bif y140.is_ then((F32_s k (some (some (4 * Int.toNat ((N:Int) - 1)+Int.toNat c))) p S z).bind λ r76=>
   some (r76.1,r76.2.1,r76.2.2)) else(some (false,S,z))) λ(v141,v142,v162)=>
   bif v141 then(some (some (some (4 * Int.toNat ((N:Int) - 1)+Int.toNat c)),v142,v162)) else(some (p,v142,v162)))))=some (p',S,z)/\InS S p'/\p'≠none/\mu p'<=N:=by
 unfold bindN
 rw[if_pos ⟨by omega,by omega⟩,if_pos ⟨h0,h1⟩]
 have hi:4 * Int.toNat ((N:Int) - 1)+Int.toNat c < S.length:=by omega
 obtain⟨u,hu⟩:∃ u,getG z S (some (some (4 * Int.toNat ((N:Int) - 1)+Int.toNat c)))=some u:=⟨_,List.getElem?_eq_getElem hi⟩
 rw[bindG_eq hu]
 cases u.is_ with
 | false=>exact⟨p,rfl,hp,hpn,hm⟩
 | true=>
  obtain⟨t,ht⟩:=t32 k S z (by cases S with | nil=>simp at hi | cons _ _=>rfl) hT (λ j hj=>by rw[hz] at hj; cases hj) (some (some (4 * Int.toNat ((N:Int) - 1)+Int.toNat c))) p (λ i h=>by cases h; exact hi) hp (by simp) hpn hk
  rw[cond_true,ht]
  cases t with
  | false=>exact⟨p,rfl,hp,hpn,hm⟩
  | true=>exact⟨_,rfl,λ i h=>(by cases h; exact hi),by simp,by show(4 * Int.toNat ((N:Int) - 1)+Int.toNat c) / 4+1<=N; omega⟩
theorem walk_ok (k:Nat) (L:List GItem) (hl:L.length<=4096):∀ (j i:Nat),L.length < j+i->i<=L.length ->
  ∃ A,walkL k L j i=some A/\A.length<=L.length - i/\(∀ x∈A,(i:Int)<=x/\x < L.length)/\∀ t:Nat,i<=t->t < L.length->F71 k L t=some true->(t:Int)∈A
 | 0,i,h,_=>by omega
 | j+1,i,h1,h2=>by
  unfold walkL
  by_cases hi:i < L.length
  ·obtain⟨c,hc⟩:=t68 k L i (by omega) (by omega) hl
   obtain⟨A,a1,a2,a3,a4⟩:=walk_ok k L hl j (i+1) (by omega) (by omega)
   rw[decide_eq_true (show(i:Int) < L.length by omega),cond_true,hc,Option.bind_some,w_id (by omega) (by omega),show(i:Int)+1=((i+1:Nat):Int) by omega,a1,Option.bind_some]
   cases c with
   | false=>
    refine⟨A,rfl,by omega,λ x hx=>⟨by have:=(a3 x hx).1; omega,(a3 x hx).2⟩,λ t k1 k2 k3=>?_⟩
    by_cases e:t=i
    ·subst e; rw[hc] at k3; cases k3
    ·exact a4 t (by omega) k2 k3
   | true=>
    refine⟨(i:Int) :: A,rfl,by rw[List.length_cons]; omega,λ x hx=>?_,λ t k1 k2 k3=>?_⟩
    ·rcases List.mem_cons.mp hx with rfl | hx
     ·omega
     ·exact⟨by have:=(a3 x hx).1; omega,(a3 x hx).2⟩
    ·by_cases e:t=i
     ·subst e; exact List.mem_cons_self ..
     ·exact List.mem_cons_of_mem _ (a4 t (by omega) k2 k3)
  ·rw[decide_eq_false (show ¬ (i:Int) < L.length by omega)]
   exact⟨[],rfl,by simp,λ x hx=>(by cases hx),λ t k1 k2 _=>by omega⟩
theorem r55 (k:Nat):∀ (A acc:List Int),acc.length+A.length<=100000->F55_s_r1 k A acc=some (acc++A)
 | [],acc,_=>by rw[List.append_nil]; rfl
 | x :: A,acc,h=>by
  rw[List.length_cons] at h
  show bindA 8 acc [x] _=_
  rw[bindA_eq (by simp only[List.length_singleton]; omega)]
  rw[r55 k A (acc++[x]) (by rw[List.length_append,List.length_singleton]; omega),List.append_assoc]
  rfl
theorem legal_ok (k:Nat) (L:List GItem) (h0:F21 k L=some 0) (hk:L.length < k):∃ A,F18 k L=some A/\F27_s k A=some (A,A)/\A.length<=L.length/\L.length<=4096/\(∀ x∈A,0<=x/\x < L.length)/\(0 < L.length->0 < A.length):=by
 obtain⟨r,hr,hg⟩:=t64 k L hk
 rw[h0] at hr
 obtain⟨hl,_⟩:=hg (Option.some.inj hr).symm
 obtain⟨A,a1,a2,a3,a4⟩:=walk_ok k L hl k 0 (by omega) (by omega)
 refine⟨A,?_,?_,by omega,hl,λ x hx=>⟨by have:=(a3 x hx).1; omega,(a3 x hx).2⟩,λ hp=>?_⟩
 ·unfold F18 F46
  have a1':walkL k L k 0=some A:=a1
  rw[h0,Option.bind_some]
  simp only[beq_self_eq_true,cond_true,Option.bind_some,a1',r30 k A [] (by simp; omega),List.nil_append]
 ·unfold F27_s F55_s guardL
  rw[show Nat.ble (A.length+2) 9223372036854775808=true by rw[Nat.ble_eq]; omega,cond_true,r55 k A [] (by simp; omega)]
  rfl
 ·obtain⟨y,y1,y2⟩:=chk_last k L hl h0 hp
  have:=a4 (L.length - 1) (by omega) (by omega) (frc_legal k L _ y y1 y2)
  exact List.length_pos_of_mem this
theorem t31 (k:Nat) (m:GMeter) (n:Int) (h:Much m) (h0:0<=n) (h1:m.cells_now=n) (h2:n<=100000):∃ b m',F31 k m n=some (b,m')/\Much m'/\m'.cells_now=0/\m'.cells_peak=m.cells_peak/\m'.steps_now=m.steps_now:=by
 unfold F31
 rw[decide_eq_false (by omega),cond_false,Option.bind_some,decide_eq_false (by omega),cond_false,w_id (by omega) (by omega)]
 exact⟨_,_,rfl,⟨h.sb,h.cb,h.rf,h.s0,by show 0<=m.cells_now - n; omega⟩,by show m.cells_now - n=0; omega,rfl,rfl⟩
def zst:Gstate:=Gstate.mk false 0 0 0 0 0 0 0 0 0 0 0 0 false false false 0 0 none
theorem t18 (k:Nat) (L:List GItem) (hk:L.length < k):∃ A,F18 k L=some A/\A.length<=4096:=by
 obtain⟨c,hc,hg⟩:=t64 k L hk
 by_cases h:c=0
 ·subst h
  obtain⟨A,b1,b2,b3,b4,_⟩:=legal_ok k L hc hk
  exact⟨A,b1,by omega⟩
 ·refine⟨[],?_,by simp⟩
  unfold F18
  rw[hc,Option.bind_some,show(c == 0)=false from beq_eq_false_iff_ne.mpr h]
  rfl
end
end Go.Eng.Lift
