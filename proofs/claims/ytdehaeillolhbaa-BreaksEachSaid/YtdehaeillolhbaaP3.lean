/-
  Layer 15: the best way is no worse than any other one.
-/
import Derived.Test.YtdehaeillolhbaaP2
set_option maxRecDepth 10000
namespace Go.Eng.Lift
open Go.Proofs
noncomputable section
def lx:List Int->List Int->Bool
 | _,[]=>false
 | [],_ :: _=>true
 | a :: x,b :: y=>bif decide (a < b) then true else bif decide (b < a) then false else lx x y
theorem lx_lt {a b:Int} {x y:List Int} (h:a < b):lx (a :: x) (b :: y)=true:=by unfold lx; rw[decide_eq_true h]; rfl
theorem lx_gt {a b:Int} {x y:List Int} (h:b < a):lx (a :: x) (b :: y)=false:=by unfold lx; rw[decide_eq_false (by omega),decide_eq_true h]; rfl
theorem lx_eq {a:Int} {x y:List Int} : lx (a :: x) (a :: y)=lx x y:=by
 conv=>lhs; unfold lx
 rw[decide_eq_false (by omega)]; rfl
theorem lx_irr:∀ x:List Int,lx x x=false
 | []=>rfl
 | a :: x=>by rw[lx_eq]; exact lx_irr x
theorem lx_asym:∀ x y:List Int,lx x y=true->lx y x=false
 | _,[],h=>by cases ‹List Int› <;> cases h
 | [],_ :: _,_=>rfl
 | a :: x,b :: y,h=>by
  rcases Int.lt_trichotomy a b with h1 | h1 | h1
  ·exact lx_gt h1
  ·subst h1; rw[lx_eq] at h ⊢; exact lx_asym x y h
  ·rw[lx_gt h1] at h; cases h
theorem le_tr:∀ x y z:List Int,lx y x=false->lx z y=false->lx z x=false
 | [],_,_,_,_=>by cases ‹List Int› <;> rfl
 | a :: x,[],_,h,_=>by cases h
 | a :: x,b :: y,[],_,h=>by cases h
 | a :: x,b :: y,c :: z,h1,h2=>by
  rcases Int.lt_trichotomy a b with h3 | h3 | h3
  ·rcases Int.lt_trichotomy b c with h4 | h4 | h4
   ·exact lx_gt (by omega)
   ·subst h4; exact lx_gt h3
   ·rw[lx_lt h4] at h2; cases h2
  ·subst h3
   rw[lx_eq] at h1
   rcases Int.lt_trichotomy a c with h4 | h4 | h4
   ·exact lx_gt h4
   ·subst h4; rw[lx_eq] at h2 ⊢; exact le_tr x y z h1 h2
   ·rw[lx_lt h4] at h2; cases h2
  ·rw[lx_lt h3] at h1; cases h1
theorem lx_shift {a b p:Int} {x y:List Int} : lx ((p+a) :: x) ((p+b) :: y)=bif decide (a < b) then true else bif decide (b < a) then false else lx x y:=by
 conv=>lhs; unfold lx
 rw[show decide (p+a < p+b)=decide (a < b) by congr 1; exact propext ⟨λ h=>by omega,λ h=>by omega⟩,show decide (p+b < p+a)=decide (b < a) by congr 1; exact propext ⟨λ h=>by omega,λ h=>by omega⟩]
theorem c81 (k:Nat) (a b:Int):F81 k a b=some (if a < b then -1 else if b < a then 1 else 0):=by
 unfold F81 F92
 simp only[Option.bind_some,bne_self_eq_false,cond_false]
 by_cases h:a < b
 ·rw[if_pos h,show decide (a < b)=true from decide_eq_true h]; rfl
 ·rw[if_neg h,show decide (a < b)=false from decide_eq_false h]
  by_cases h2:b < a
  ·rw[if_pos h2,show decide (a > b)=true from decide_eq_true h2]; rfl
  ·rw[if_neg h2,show decide (a > b)=false from decide_eq_false h2]; rfl
theorem c80 (k:Nat) (x y z:Int) (hk:4<=k):F80 k [x,y,z]=some (if x≠0 then x else if y≠0 then y else z):=by
 obtain⟨k,rfl⟩:∃ j,k=j+4:=⟨k - 4,by omega⟩
 unfold F80
 have s0:∀ (K j:Nat),F80_l1 K [x,y,z] (j+1) 0=(bif x != 0 then some (.inr x) else F80_l1 K [x,y,z] j 1):=λ K j=>rfl
 have s1:∀ (K j:Nat),F80_l1 K [x,y,z] (j+1) 1=(bif y != 0 then some (.inr y) else F80_l1 K [x,y,z] j 2):=λ K j=>rfl
 have s2:∀ (K j:Nat),F80_l1 K [x,y,z] (j+1) 2=(bif z != 0 then some (.inr z) else F80_l1 K [x,y,z] j 3):=λ K j=>rfl
 have s3:∀ (K j:Nat),F80_l1 K [x,y,z] (j+1) 3=some (.inl ()):=λ K j=>rfl
 rw[show k+4=(k+3)+1 from rfl,s0]
 by_cases h1:x=0
 ·subst h1
  rw[show((0:Int) != 0)=false from rfl,cond_false,s1]
  by_cases h2:y=0
  ·subst h2
   rw[show((0:Int) != 0)=false from rfl,cond_false,s2]
   by_cases h3:z=0
   ·subst h3; rw[show((0:Int) != 0)=false from rfl,cond_false,s3]; rfl
   ·rw[show(z != 0)=true from bne_iff_ne.mpr h3,cond_true]; rfl
  ·rw[show(y != 0)=true from bne_iff_ne.mpr h2,cond_true,if_neg (by simp),if_pos h2]; rfl
 ·rw[show(x != 0)=true from bne_iff_ne.mpr h1,cond_true,if_pos h1]; rfl
def ck (c:GCost) (R:List Int):List Int:=c.bad :: c.total :: c.lines :: R
theorem c61 (k:Nat) (a b:GCost) (hk:4<=k):∃ r,F61 k a b=some r/\(r≠0->∀ x y,lx (ck a x) (ck b y)=decide (r < 0))/\(r=0->∀ x y,lx (ck a x) (ck b y)=lx x y):=by
 obtain⟨a1,a2,a3⟩:=a
 obtain⟨b1,b2,b3⟩:=b
 unfold F61 ck
 simp only[c81,c80 _ _ _ _ hk,Option.bind_some]
 by_cases h:a1=b1/\a2=b2/\a3=b3
 ·obtain⟨rfl,rfl,rfl⟩:=h
  simp only[beq_self_eq_true,Bool.and_true,cond_true]
  exact⟨0,rfl,λ h=>absurd rfl h,λ _ x y=>by rw[lx_eq,lx_eq,lx_eq]⟩
 ·have hb:(a1 == b1 && (a2 == b2 && (a3 == b3 && true)))=false:=by
   rw[Bool.eq_false_iff]
   intro e
   simp only[Bool.and_true,Bool.and_eq_true,beq_iff_eq] at e
   exact h e
  rw[hb,cond_false]
  refine⟨_,rfl,λ hr x y=>?_,λ hr x y=>?_⟩
  ·rcases Int.lt_trichotomy a1 b1 with h1 | h1 | h1
   ·rw[lx_lt h1,if_pos h1]; rfl
   ·subst h1
    rw[lx_eq]
    rcases Int.lt_trichotomy a2 b2 with h2 | h2 | h2
    ·rw[lx_lt h2,if_pos h2]; simp
    ·subst h2
     rw[lx_eq]
     rcases Int.lt_trichotomy a3 b3 with h3 | h3 | h3
     ·rw[lx_lt h3,if_pos h3]; simp
     ·subst h3; exact absurd ⟨rfl,rfl,rfl⟩ h
     ·rw[lx_gt h3,if_neg (show ¬ a3 < b3 by omega),if_pos h3]; simp
    ·rw[lx_gt h2,if_neg (show ¬ a2 < b2 by omega),if_pos h2]; simp
   ·rw[lx_gt h1,if_neg (show ¬ a1 < b1 by omega),if_pos h1]; simp
  ·exfalso
   apply h
   by_cases h1:a1 < b1
   ·rw[if_pos h1] at hr; simp at hr
   by_cases h1':b1 < a1
   ·rw[if_neg h1,if_pos h1'] at hr; simp at hr
   by_cases h2:a2 < b2
   ·rw[if_neg h1,if_neg h1',if_pos h2] at hr; simp at hr
   by_cases h2':b2 < a2
   ·rw[if_neg h1,if_neg h1',if_neg h2,if_pos h2'] at hr; simp at hr
   by_cases h3:a3 < b3
   ·rw[if_neg h1,if_neg h1',if_neg h2,if_neg h2',if_pos h3] at hr; simp at hr
   by_cases h3':b3 < a3
   ·rw[if_neg h1,if_neg h1',if_neg h2,if_neg h2',if_neg h3,if_pos h3'] at hr; simp at hr
   exact⟨by omega,by omega,by omega⟩
inductive Ch (S:List Gstate):Option Nat->List Int->Prop
 | nil:Ch S none []
 | cons {j:Nat} {y:Gstate} {R:List Int} (h:S[j]? = some y) (hR:Ch S y.ahead R):Ch S (some j) (y.line_Break :: R)
theorem Ch.uniq {S:List Gstate} {p:Option Nat} {R R':List Int} (h:Ch S p R) (h':Ch S p R'):R=R':=by
 induction h generalizing R' with
 | nil=>cases h'; rfl
 | cons h1 _ ih=>
  cases h' with
  | cons h2 h3=>
   rw[h1] at h2; cases h2
   rw[ih h3]
theorem Ch.set {S:List Gstate} {p:Option Nat} {R:List Int} {z:Gstate} {i:Nat} (hT:TB S) (h:Ch S p R) (hp:∀ j,p=some j->j / 4 < i / 4):Ch (S.set i z) p R:=by
 induction h with
 | nil=>exact .nil
 | @cons j y R h1 _ ih=>
  refine .cons (by rw[List.getElem?_set,if_neg (by have:=hp j rfl; intro e; omega)]; exact h1) (ih λ j' e=>?_)
  have:=(hT j y j' h1 e).2
  have:=hp j rfl
  omega
def Cp (S:List Gstate) (z:Gstate):Option (Option Nat)->List Int->Prop
 | none,R=>R=[]
 | some none,R=>∃ R',R=z.line_Break :: R'/\Ch S z.ahead R'
 | some (some j),R=>Ch S (some j) R
theorem Cp.map {S:List Gstate} {z:Gstate} {p:Option Nat} {R:List Int} (h:Ch S p R):Cp S z (p.map some) R:=by
 cases h with
 | nil=>rfl
 | cons h1 h2=>exact .cons h1 h2
theorem Cp.uniq {S:List Gstate} {z:Gstate} {p:Option (Option Nat)} {R R':List Int} (h:Cp S z p R) (h':Cp S z p R'):R=R':=by
 rcases p with _ | _ | j
 ·rw[h,h']
 ·obtain⟨u,rfl,hu⟩:=h
  obtain⟨v,rfl,hv⟩:=h'
  rw[hu.uniq hv]
 ·exact Ch.uniq h h'
theorem Cp.step {S:List Gstate} {z y:Gstate} {p:Option (Option Nat)} {R:List Int} (h:Cp S z p R) (hy:getG z S p=some y):∃ R',R=y.line_Break :: R'/\Cp S z (y.ahead.map some) R':=by
 rcases p with _ | _ | j
 ·cases hy
 ·cases hy
  obtain⟨u,rfl,hu⟩:=h
  exact⟨u,rfl,.map hu⟩
 ·cases h with
  | cons h1 h2=>
   have hy:S[j]? = some y:=hy
   rw[h1] at hy; cases hy
   exact⟨_,rfl,.map h2⟩
theorem c62_l1 (k:Nat) (S:List Gstate) (z:Gstate) (hS:S.isEmpty=false) (hT:TB S) (hz:Into S z):∀ (j:Nat) (p q:Option (Option Nat)) (A B:List Int),InS S p->InS S q->Cp S z p A->Cp S z q B->rank S p < j ->
  (F62_s_l1 k S z j p q=some (.inl ())/\A=B)\/∃ n,F62_s_l1 k S z j p q=some (.inr (n,S,z))/\decide (n < 0)=lx A B
 | 0,_,_,_,_,_,_,_,_,h=>by omega
 | j+1,p,q,A,B,hp,hq,hA,hB,h=>by
  unfold F62_s_l1 bindE
  rw[hS,cond_false]
  cases h1:p != q with
  | false=>
   have e:p=q:=by simpa using h1
   subst e
   exact .inl ⟨rfl,hA.uniq hB⟩
  | true=>
   rw[cond_true]
   cases h2:p.isNone with
   | true=>
    have e:p=none:=by simpa using h2
    subst e
    have hA:A=[]:=hA
    subst hA
    have hqn:q≠none:=λ e=>by subst e; cases h1
    obtain⟨y,hy⟩:=get_in (z:=z) hq hqn
    obtain⟨R',rfl,_⟩:=hB.step hy
    exact .inr ⟨-1,rfl,rfl⟩
   | false=>
    rw[cond_false]
    have hpn:p≠none:=λ e=>by subst e; cases h2
    obtain⟨y,hy⟩:=get_in (z:=z) hp hpn
    obtain⟨A',rfl,hA'⟩:=hA.step hy
    cases h3:q.isNone with
    | true=>
     have e:q=none:=by simpa using h3
     subst e
     have hB:B=[]:=hB
     subst hB
     exact .inr ⟨1,rfl,rfl⟩
    | false=>
     rw[cond_false]
     have hqn:q≠none:=λ e=>by subst e; cases h3
     obtain⟨y',hy'⟩:=get_in (z:=z) hq hqn
     obtain⟨B',rfl,hB'⟩:=hB.step hy'
     simp only[bindG_eq hy,bindG_eq hy']
     cases h4:y.line_Break != y'.line_Break with
     | true=>
      have h4':y.line_Break≠y'.line_Break:=by simpa using h4
      rw[cond_true,c81,Option.bind_some]
      refine .inr ⟨_,rfl,?_⟩
      by_cases h5:y.line_Break < y'.line_Break
      ·rw[if_pos h5,lx_lt h5]; rfl
      ·rw[if_neg h5,if_pos (by omega),lx_gt (by omega)]; rfl
     | false=>
      have h4':y.line_Break=y'.line_Break:=by simpa using h4
      rw[cond_false,h4',lx_eq]
      obtain⟨a1,a2⟩:=step_ahead hT hz hp hy
      obtain⟨b1,_⟩:=step_ahead hT hz hq hy'
      rcases c62_l1 k S z hS hT hz j _ _ A' B' a1 b1 hA' hB' (by omega) with⟨h6,h7⟩ | h6
      ·exact .inl ⟨h6,by rw[h7]⟩
      ·exact .inr h6
theorem c62 (k:Nat) (S:List Gstate) (z:Gstate) (hS:S.isEmpty=false) (hT:TB S) (hz:Into S z) (p q:Option (Option Nat)) (A B:List Int) (hp:InS S p) (hq:InS S q) (hA:Cp S z p A) (hB:Cp S z q B) (hk:S.length+2 < k):∃ n,F62_s k p q S z=some (n,S,z)/\decide (n < 0)=lx A B:=by
 have hr:rank S p < k:=by
  rcases p with _ | _ | i
  ·show 0 < k; omega
  ·exact hk
  ·have:=hp i rfl
   show i / 4+1 < k
   omega
 unfold F62_s
 rcases c62_l1 k S z hS hT hz k p q A B hp hq hA hB hr with⟨h1,h2⟩ | ⟨n,h1,h2⟩
 ·rw[h1]
  subst h2
  exact⟨0,rfl,(lx_irr A).symm⟩
 ·rw[h1]
  exact⟨n,rfl,h2⟩
def kk (y:Gstate) (R:List Int):List Int:=y.cost_Bad :: y.cost_Total :: y.cost_Lines :: R
theorem c32 (k:Nat) (S:List Gstate) (z y y':Gstate) (hS:S.isEmpty=false) (hT:TB S) (hz:Into S z) (p q:Option (Option Nat)) (hp:InS S p) (hq:InS S q) (hy:getG z S p=some y) (hy':getG z S q=some y') (A:List Int) (hA:Cp S z p A) (hB:y'.is_=true->∃ B,Cp S z q B) (hk:S.length+4 < k) :
  ∃ t,F32_s k p q S z=some (t,S,z)/\(y'.is_=false->t=true)/\(y'.is_=true->∀ B,Cp S z q B->t=lx (kk y A) (kk y' B)):=by
 unfold F32_s
 simp only[bindG_eq hy,bindG_eq hy']
 cases h1:y'.is_ with
 | false=>exact⟨true,rfl,λ _=>rfl,λ e=>by cases e⟩
 | true=>
  simp only[Bool.not_true,cond_false]
  obtain⟨r,hr,r1,r2⟩:=c61 k (GCost.mk y.cost_Bad y.cost_Total y.cost_Lines) (GCost.mk y'.cost_Bad y'.cost_Total y'.cost_Lines) (by omega)
  rw[hr,Option.bind_some]
  by_cases h2:r=0
  ·rw[show(r != 0)=false by rw[h2]; rfl,cond_false]
   obtain⟨B,hB⟩:=hB h1
   obtain⟨n,hn,hl⟩:=c62 k S z hS hT hz p q A B hp hq hA hB (by omega)
   rw[hn]
   refine⟨_,rfl,λ e=>(by cases e),λ _ B' hB'=>?_⟩
   have:=hB.uniq hB'
   subst this
   rw[hl]
   exact(r2 h2 A B).symm
  ·rw[show(r != 0)=true from bne_iff_ne.mpr h2,cond_true]
   exact⟨_,rfl,λ e=>(by cases e),λ _ B' _=>(r1 h2 A B').symm⟩
theorem exB {α β:Type} {x:Option α} {f:α->Option β} {P:α->Prop} {Q:β->Prop} (h:∃ r,x=some r/\P r) (h2:∀ v,P v->∃ r,f v=some r/\Q r):∃ r,x.bind f=some r/\Q r:=by
 obtain⟨v,rfl,hv⟩:=h
 exact h2 v hv
theorem exC {α:Type} {c:Bool} {u v:Option α} {Q:α->Prop} (h1:c=true->∃ r,u=some r/\Q r) (h2:c=false->∃ r,v=some r/\Q r):∃ r,(bif c then u else v)=some r/\Q r:=by
 cases c with
 | true=>exact h1 rfl
 | false=>exact h2 rfl
theorem sq_bd {x n:Int} (h0:0<=x) (h1:x<=n):0<=x * x/\x * x<=n * n:=⟨Int.mul_nonneg h0 h0,Int.mul_le_mul h1 h1 h0 (by omega)⟩
def Bd (r:Int):Prop:=-1000000000<=r/\r<=1000000000
theorem b52 (k:Nat) (L:List GItem) (x y:GLine):∃ r,F52 k L x y=some r/\Bd r:=by
 have c77:∀ n lo hi:Int,lo<=hi->∃ r,F77 k n lo hi=some r/\(lo<=r/\r<=hi):=λ n lo hi h=>⟨_,rfl,by split <;> split at * <;> omega,by split <;> split <;> omega⟩
 unfold F52
 refine exB (c77 y.bad 0 10000 (by decide)) λ r1 hr1=>?_
 obtain⟨q0,q1⟩:=sq_bd (x:=10+r1) (n:=10010) (by omega) (by omega)
 have e1:w (10+r1)=10+r1:=w_id (by omega) (by omega)
 have e2:w ((10+r1) * (10+r1))=(10+r1) * (10+r1):=w_id (by omega) (by omega)
 rw[e1,e2]
 generalize (10+r1) * (10+r1)=s at q0 q1
 refine exB (P:=λ v=>v=true->0<=y.break_/\y.break_ < (L.length:Int)) (exC (λ h=>exB (P:=λ v=>v=true->0<=y.break_/\y.break_ < (L.length:Int)) (exC (λ h'=>?_) (λ h'=>⟨false,rfl,λ e=>by cases e⟩)) λ v hv=>⟨v,rfl,hv⟩) (λ h=>⟨false,rfl,λ e=>by cases e⟩)) λ v1 hv1=>?_
 ·have h1:=of_decide_eq_true h
  have h2:=of_decide_eq_true h'
  obtain⟨u,hu⟩:=at_of (L:=L) (i:=y.break_) h1 h2
  rw[bindI_eq h1 hu]
  exact⟨_,rfl,λ _=>⟨h1,h2⟩⟩
 refine exB (P:=λ v=>-200000000<=v/\v<=300000000) (exC (λ h=>?_) (λ h=>⟨s,rfl,by omega,by omega⟩)) λ v4 hv4=>?_
 ·obtain⟨h1,h2⟩:=hv1 h
  obtain⟨u,hu⟩:=at_of (L:=L) (i:=y.break_) h1 h2
  rw[bindI_eq h1 hu]
  refine exB (P:=λ v=>-200000000<=v/\v<=300000000) (exC (λ h=>?_) (λ h=>exC (λ h'=>?_) (λ h'=>⟨s,rfl,by omega,by omega⟩))) λ v hv=>⟨v,rfl,hv⟩
  ·have h3:=of_decide_eq_true h
   obtain⟨z0,z1⟩:=sq_bd (x:=if 10000 < u.value then 10000 else u.value) (n:=10000) (by split <;> omega) (by split <;> omega)
   rw[w_id (n:=(if 10000 < u.value then 10000 else u.value) * (if 10000 < u.value then 10000 else u.value)) (by omega) (by omega),w_id (by omega) (by omega)]
   exact⟨_,rfl,by omega,by omega⟩
  ·have h3:=of_decide_eq_false h
   have h4:=of_decide_eq_true h'
   obtain⟨z0,z1⟩:=sq_bd (x:=-u.value) (n:=10000) (by omega) (by omega)
   rw[Int.neg_mul_neg] at z0 z1
   rw[w_id (n:=u.value * u.value) (by omega) (by omega),w_id (by omega) (by omega)]
   exact⟨_,rfl,by omega,by omega⟩
 refine exB (P:=λ v=>(-200000000<=v.1/\v.1<=300003000)/\(0<=v.2/\v.2<=3)) (exC (λ h=>exB (c77 x.class_ 0 3 (by decide)) λ r27 h27=>exB (P:=λ _=>True) (exC (λ _=>⟨_,rfl,trivial⟩) (λ _=>⟨_,rfl,trivial⟩)) λ v9 _=>exC (λ _=>?_) (λ _=>⟨_,rfl,⟨hv4.1,by show v4<=_; omega⟩,h27⟩)) (λ h=>⟨_,rfl,⟨hv4.1,by show v4<=_; omega⟩,by show(0:Int)<=1; decide,by show(1:Int)<=3; decide⟩)) λ v hv=>?_
 ·rw[w_id (by omega) (by omega)]
  exact⟨_,rfl,⟨by show _<=v4+3000; omega,by show v4+3000<=_; omega⟩,h27⟩
 obtain⟨v7,v8⟩:=v
 refine exB (c77 y.class_ 0 3 (by decide)) λ r35 h35=>exB (P:=λ _=>True) (exC (λ _=>⟨_,rfl,trivial⟩) (λ _=>⟨_,rfl,trivial⟩)) λ v10 _=>exB (P:=λ v=>-1000000000<=v/\v<=1000000000) (exC (λ _=>?_) (λ _=>⟨_,rfl,by have:=hv.1.1; simp only at this; omega,by have:=hv.1.2; simp only at this; omega⟩)) λ v11 h11=>⟨v11,rfl,h11⟩
 have h1:=hv.1.1
 have h2:=hv.1.2
 simp only at h1 h2
 rw[w_id (by omega) (by omega)]
 exact⟨_,rfl,by omega,by omega⟩
theorem d52 {k:Nat} {L:List GItem} {x x' y:GLine} (h1:decide (x.first>=0)=decide (x'.first>=0)) (h2:x.class_=x'.class_) (h3:x.hyphen=x'.hyphen):F52 k L x y=F52 k L x' y:=by
 unfold F52
 rw[h1,h2,h3]
def noL:GLine:=GLine.mk (-1) 0 0 0 0 0 0 0 0 false false false 0 0
def hd:List Int->Int
 | []=>-1
 | t :: _=>t
def lnR (k:Nat) (L:List GItem) (a:Int):List Int->GLine
 | []=>noL
 | t :: R=>((F59 k L a (hd R) t).getD (noL,0)).1
def dm (k:Nat) (L:List GItem) (x y:GLine):Int:=(F52 k L x y).getD 0
theorem dm_eq (k:Nat) (L:List GItem) (x y:GLine):F52 k L x y=some (dm k L x y)/\Bd (dm k L x y):=by
 obtain⟨r,h,hb⟩:=b52 k L x y
 unfold dm
 rw[h]
 exact⟨rfl,hb⟩
def bd (b:Int) (y:GLine):Int:=bif y.over_ then 1 else bif decide (y.bad > b) then 1 else 0
def cB (k:Nat) (L:List GItem) (a b:Int):List Int->Int
 | []=>0
 | t :: R=>bd b (lnR k L a (t :: R))+cB k L a b R
def cT (k:Nat) (L:List GItem) (a:Int):List Int->Int
 | []=>0
 | t :: R=>cT k L a R+dm k L (lnR k L a R) (lnR k L a (t :: R))
theorem bd_bd (b:Int) (y:GLine):0<=bd b y/\bd b y<=1:=by
 unfold bd
 cases y.over_ <;> cases decide (y.bad > b) <;> exact⟨by decide,by decide⟩
theorem cB_bd (k:Nat) (L:List GItem) (a b:Int):∀ R:List Int,0<=cB k L a b R/\cB k L a b R<=R.length
 | []=>⟨Int.le_refl _,Int.le_refl _⟩
 | t :: R=>by
  have h1:=cB_bd k L a b R
  have h2:=bd_bd b (lnR k L a (t :: R))
  have e:cB k L a b (t :: R)=bd b (lnR k L a (t :: R))+cB k L a b R:=rfl
  rw[e,List.length_cons]
  omega
theorem cT_bd (k:Nat) (L:List GItem) (a:Int):∀ R:List Int,-(1000000000 * (R.length:Int))<=cT k L a R/\cT k L a R<=1000000000 * R.length
 | []=>⟨Int.le_refl _,Int.le_refl _⟩
 | t :: R=>by
  have h1:=cT_bd k L a R
  have h2:=(dm_eq k L (lnR k L a R) (lnR k L a (t :: R))).2
  have e:cT k L a (t :: R)=cT k L a R+dm k L (lnR k L a R) (lnR k L a (t :: R)):=rfl
  unfold Bd at h2
  rw[e,List.length_cons]
  omega
def key (k:Nat) (L:List GItem) (a b:Int) (R:List Int):List Int:=cB k L a b R :: cT k L a R :: (R.length:Int) :: R
theorem mono {k:Nat} {L:List GItem} {a b:Int} {t:Int} {R R':List Int} (hh:hd R=hd R') (h1:decide ((lnR k L a R).first>=0)=decide ((lnR k L a R').first>=0)) (h2:(lnR k L a R).class_=(lnR k L a R').class_) (h3:(lnR k L a R).hyphen=(lnR k L a R').hyphen) :
  lnR k L a (t :: R)=lnR k L a (t :: R')/\lx (key k L a b (t :: R)) (key k L a b (t :: R'))=lx (key k L a b R) (key k L a b R'):=by
 have e:lnR k L a (t :: R)=lnR k L a (t :: R'):=by
  show((F59 k L a (hd R) t).getD (noL,0)).1=((F59 k L a (hd R') t).getD (noL,0)).1
  rw[hh]
 refine⟨e,?_⟩
 have e2:dm k L (lnR k L a R) (lnR k L a (t :: R))=dm k L (lnR k L a R') (lnR k L a (t :: R')):=by
  unfold dm
  rw[e,d52 h1 h2 h3]
 unfold key
 have k1:∀ {p x y:Int} {u v:List Int},lx ((p+x) :: u) ((p+y) :: v)=bif decide (x < y) then true else bif decide (y < x) then false else lx u v:=lx_shift
 rw[show cB k L a b (t :: R)=bd b (lnR k L a (t :: R))+cB k L a b R from rfl,show cB k L a b (t :: R')=bd b (lnR k L a (t :: R'))+cB k L a b R' from rfl,e,k1]
 rw[show cT k L a (t :: R)=dm k L (lnR k L a R) (lnR k L a (t :: R))+cT k L a R from Int.add_comm _ _,show cT k L a (t :: R')=dm k L (lnR k L a R') (lnR k L a (t :: R'))+cT k L a R' from Int.add_comm _ _,e2,k1]
 rw[show((t :: R).length:Int)=1+R.length by rw[List.length_cons]; omega,show((t :: R').length:Int)=1+R'.length by rw[List.length_cons]; omega,k1,lx_eq]
 rfl
structure WOK (k:Nat) (L:List GItem) (W:List Int):Prop where
 len:L.length<=4096
 many:W.length<=L.length
 asc:W.Pairwise (· < ·)
 inn:∀ x∈W,0<=x/\x < (L.length:Int)
 leg:∀ x∈W,F71 k L x=some true
 all:∀ t:Nat,t < L.length->F71 k L t=some true->(t:Int)∈W
 chk:F21 k L=some 0
 fine:∀ (t:Nat) (y:GItem),L[t]? = some y->Fine y
theorem walk_asc (k:Nat) (L:List GItem) (hl:L.length<=4096):∀ (j i:Nat) (A:List Int),i<=L.length->walkL k L j i=some A->A.Pairwise (· < ·)/\(∀ x∈A,(i:Int)<=x)/\∀ x∈A,F71 k L x=some true
 | 0,i,A,_,h=>by cases h
 | j+1,i,A,hi,h=>by
  unfold walkL at h
  by_cases hi':i < L.length
  ·rw[decide_eq_true (show(i:Int) < L.length by omega),cond_true] at h
   obtain⟨c,hc,h⟩:=bind_some h
   obtain⟨B,hB,h⟩:=bind_some h
   rw[w_id (by omega) (by omega),show(i:Int)+1=((i+1:Nat):Int) by omega] at hB
   obtain⟨p1,p2,p3⟩:=walk_asc k L hl j (i+1) B (by omega) hB
   cases c with
   | false=>
    have h:=Option.some.inj h
    subst h
    exact⟨p1,λ x hx=>by have:=p2 x hx; omega,p3⟩
   | true=>
    have h:=Option.some.inj h
    subst h
    refine⟨List.pairwise_cons.2 ⟨λ x hx=>by have:=p2 x hx; omega,p1⟩,λ x hx=>?_,λ x hx=>?_⟩
    ·rcases List.mem_cons.1 hx with rfl | hx
     ·exact Int.le_refl _
     ·have:=p2 x hx; omega
    ·rcases List.mem_cons.1 hx with rfl | hx
     ·exact hc
     ·exact p3 x hx
  ·rw[decide_eq_false (show ¬ (i:Int) < L.length by omega),cond_false] at h
   have h:=Option.some.inj h
   subst h
   exact⟨List.Pairwise.nil,λ x hx=>(by cases hx),λ x hx=>(by cases hx)⟩
theorem wok_of (k:Nat) (L:List GItem) (h0:F21 k L=some 0) (hk:L.length < k):∃ W,F18 k L=some W/\F27_s k W=some (W,W)/\WOK k L W:=by
 obtain⟨r,hr,hg⟩:=t64 k L hk
 rw[h0] at hr
 obtain⟨hl,hg⟩:=hg (Option.some.inj hr).symm
 obtain⟨A,a1,a2,a3,a4⟩:=walk_ok k L hl k 0 (by omega) (by omega)
 obtain⟨b1,b2,b3⟩:=walk_asc k L hl k 0 A (by omega) a1
 refine⟨A,?_,?_,hl,by omega,b1,λ x hx=>⟨by have:=(a3 x hx).1; omega,(a3 x hx).2⟩,b3,λ t h1 h2=>a4 t (Nat.zero_le _) h1 h2,h0,λ t y hy=>fine_of hg hy⟩
 ·unfold F18 F46
  have a1':walkL k L k 0=some A:=a1
  rw[h0,Option.bind_some]
  simp only[beq_self_eq_true,cond_true,Option.bind_some,a1',r30 k A [] (by simp; omega),List.nil_append]
 ·unfold F27_s F55_s guardL
  rw[show Nat.ble (A.length+2) 9223372036854775808=true by rw[Nat.ble_eq]; omega,cond_true,r55 k A [] (by simp; omega)]
  rfl
theorem getD_mem {W:List Int} {n:Nat} (h:n < W.length):W[n]? = some (W.getD n 0)/\W.getD n 0∈W:=by
 rw[List.getD_eq_getElem?_getD,List.getElem?_eq_getElem h]
 exact⟨rfl,List.getElem_mem _⟩
theorem WOK.lt {k:Nat} {L:List GItem} {W:List Int} (h:WOK k L W) {i j:Nat} (hij:i < j) (hj:j < W.length):W.getD i 0 < W.getD j 0:=by
 rw[List.getD_eq_getElem?_getD,List.getD_eq_getElem?_getD,List.getElem?_eq_getElem hj,List.getElem?_eq_getElem (by omega)]
 exact List.pairwise_iff_getElem.1 h.asc i j (by omega) hj hij
theorem WOK.lt_of {k:Nat} {L:List GItem} {W:List Int} (h:WOK k L W) {i j:Nat} (hi:i < W.length) (hij:W.getD i 0 < W.getD j 0):i < j:=by
 rcases Nat.lt_trichotomy i j with h1 | h1 | h1
 ·exact h1
 ·subst h1; omega
 ·have:=h.lt h1 hi; omega
theorem WOK.at {k:Nat} {L:List GItem} {W:List Int} (h:WOK k L W) {t:Int} (ht:t∈W):∃ n,n < W.length/\W.getD n 0=t:=by
 obtain⟨n,hn,e⟩:=List.mem_iff_getElem.1 ht
 exact⟨n,hn,by rw[List.getD_eq_getElem?_getD,List.getElem?_eq_getElem hn]; exact e⟩
theorem frm_ge (L:List GItem) (W:List Int):∀ (n i:Nat),i < n->fat L (W.getD i 0)=true->(i:Int)<=frm L W n
 | 0,i,h,_=>by omega
 | n+1,i,h,hf=>by
  unfold frm
  split
  ·omega
  ·rename_i hn
   by_cases e:i=n
   ·subst e; exact absurd hf hn
   ·exact frm_ge L W n i (by omega) hf
theorem frm_fat (L:List GItem) (W:List Int):∀ (n i:Nat),frm L W n=i->fat L (W.getD i 0)=true
 | 0,i,h=>by unfold frm at h; omega
 | n+1,i,h=>by
  unfold frm at h
  split at h
  ·rename_i hf
   have:n=i:=by omega
   subst this; exact hf
  ·exact frm_fat L W n i h
def Free (L:List GItem) (f t:Int):Prop:=∀ (s:Nat) (y:GItem),f < s->(s:Int) < t->L[s]? = some y->frc y=false
theorem free_any {L:List GItem} {f t:Int} (h0 : -1<=f):Free L f t↔((L.take t.toNat).drop (f+1).toNat).any frc=false:=by
 constructor
 ·intro h
  rw[List.any_eq_false]
  intro y hy
  obtain⟨s,hs⟩:=List.mem_iff_getElem?.1 hy
  rw[List.getElem?_drop,List.getElem?_take] at hs
  split at hs
  ·have:=h _ y (by omega) (by omega) hs
   rw[this]; exact Bool.false_ne_true
  ·cases hs
 ·intro h s y h1 h2 hy
  rw[List.any_eq_false] at h
  have:y∈(L.take t.toNat).drop (f+1).toNat:=by
   refine List.mem_of_getElem? (i:=s - (f+1).toNat) ?_
   rw[List.getElem?_drop,List.getElem?_take,if_pos (by omega),show(f+1).toNat+(s - (f+1).toNat)=s by omega]
   exact hy
  have:=h y this
  simpa using this
theorem free_frm {k:Nat} {L:List GItem} {W:List Int} (h:WOK k L W) {n:Nat} {f:Int} (hf:f = -1/\frm L W n = -1\/∃ m:Nat,f=W.getD m 0/\frm L W n<=m/\m < n) (hn:n < W.length):Free L f (W.getD n 0):=by
 intro s y h1 h2 hy
 cases e:frc y with
 | false=>rfl
 | true=>
  exfalso
  have hl:=frc_legal k L s y hy e
  obtain⟨i,hi,hi'⟩:=h.at (h.all s (by have:=(List.getElem?_eq_some_iff.1 hy).1; exact this) hl)
  have hin:i < n:=h.lt_of hi (by omega)
  have hfat:fat L (W.getD i 0)=true:=by
   unfold fat
   rw[hi',show((s:Int)).toNat=s by omega,hy]
   exact e
  have:=frm_ge L W n i hin hfat
  rcases hf with⟨rfl,h3⟩ | ⟨m,rfl,h3,h4⟩
  ·omega
  ·have:=h.lt_of (i:=m) (j:=i) (by omega) (by omega)
   omega
theorem legal_of {k:Nat} {L:List GItem} {W:List Int} {a f t:Int} (h:WOK k L W) (hk:L.length < k) (ha:1<=a) (ha':a<=536870912) (h0 : -1<=f) (ht:t∈W) (hft:f < t) (hf:f>=0->f∈W) (hfr:Free L f t):Legal k L a f t:=by
 obtain⟨t0,t1⟩:=h.inn t ht
 refine⟨h.len,h.fine,ha,ha',h0,hft,t1,h.leg t ht,λ h1=>h.leg f (hf h1),?_,h.chk⟩
 have:=(free_any h0).1 hfr
 refine free_of k _ (by simp; have:=h.len; omega) (by simp; omega) λ s y hy=>?_
 have:=List.any_eq_false.1 this y (List.mem_of_getElem? hy)
 simpa [frc] using this
theorem p76 {k:Nat} {x r:GLine} (h:F76 k x=some r):r.first=x.first/\r.hyphen=x.hyphen/\r.break_=x.break_:=by
 unfold F76 at h
 obtain⟨p,hp,h⟩:=bind_some h
 rw[<- Option.some.inj h]
 exact⟨rfl,rfl,rfl⟩
def hyp (L:List GItem) (t:Int):Bool:=match L[t.toNat]? with
 | some y=>bif y.kind == 4 then y.flag else false
 | none=>false
theorem h59 {k:Nat} {L:List GItem} {a f t:Int} (h:Legal k L a f t) (hk:L.length < k):∃ r,F51 k L a f t=some r/\F59 k L a f t=some (r,0)/\0<=r.first/\r.hyphen=hyp L t/\r.break_=t/\Cls r:=by
 have hl:=h.len
 have h0:=h.f1
 obtain⟨v1,v7,n,b,c,u,v,y,hc⟩:=core_of k L f t hl hk h.fine h0 h.f2 h.f3
 obtain⟨r,hr,_⟩:=l59 k L a f t hk
 rw[g34 k L a f t h] at hr
 obtain⟨r',h1,h2⟩:=bind_some hr
 refine⟨r',h1,by rw[g34 k L a f t h,h1]; rfl,?_⟩
 have h3:=h1
 rw[hc.eq a] at h3
 obtain⟨q1,q2,q3⟩:=p76 h3
 refine⟨?_,?_,q3,c51 h1⟩
 ·rw[q1]
  have:=hc.lo
  show 0<=v1
  omega
 ·rw[q2]
  unfold hyp
  rw[hc.at_]
  show(tailOf y n u v).2.1=_
  unfold tailOf
  dsimp only
  cases y.kind == 4 <;> rfl
inductive Way (L:List GItem) (W:List Int):Nat->List Int->Prop
 | one {n:Nat} (h:frm L W n = -1):Way L W n [W.getD n 0]
 | more {n m:Nat} {R:List Int} (h1:frm L W n<=m) (h2:m < n) (hR:Way L W m R):Way L W n (W.getD n 0 :: R)
theorem Way.hd {L:List GItem} {W:List Int} {n:Nat} {R:List Int} (h:Way L W n R):hd R=W.getD n 0:=by cases h <;> rfl
theorem Way.len {L:List GItem} {W:List Int} {n:Nat} {R:List Int} (h:Way L W n R):R.length<=n+1:=by
 induction h with
 | one _=>simp
 | more _ _ _ ih=>rw[List.length_cons]; omega
def From (L:List GItem) (W:List Int) (n:Nat) (f:Int):Prop:=f = -1/\frm L W n = -1\/∃ m:Nat,f=W.getD m 0/\frm L W n<=m/\m < n
theorem Way.from {L:List GItem} {W:List Int} {n:Nat} {R:List Int} (h:Way L W n R):∃ R',R=W.getD n 0 :: R'/\From L W n (Lift.hd R'):=by
 cases h with
 | one h=>exact⟨[],rfl,.inl ⟨rfl,h⟩⟩
 | more h1 h2 hR=>exact⟨_,rfl,.inr ⟨_,hR.hd,h1,h2⟩⟩
theorem leg_from {k:Nat} {L:List GItem} {W:List Int} {a:Int} {n:Nat} {f:Int} (h:WOK k L W) (hk:L.length < k) (ha:1<=a) (ha':a<=536870912) (hn:n < W.length) (hf:From L W n f):Legal k L a f (W.getD n 0):=by
 have hm:=(getD_mem hn).2
 obtain⟨q0,q1⟩:=h.inn _ hm
 rcases hf with⟨rfl,h1⟩ | ⟨m,rfl,h1,h2⟩
 ·exact legal_of h hk ha ha' (by omega) hm (by omega) (λ e=>by omega) (free_frm h (.inl ⟨rfl,h1⟩) hn)
 ·have hm':=(getD_mem (W:=W) (n:=m) (by omega)).2
  obtain⟨r0,r1⟩:=h.inn _ hm'
  exact legal_of h hk ha ha' (by omega) hm (h.lt h2 hn) (λ _=>hm') (free_frm h (.inr ⟨m,rfl,h1,h2⟩) hn)
theorem ln_of {k:Nat} {L:List GItem} {W:List Int} {a:Int} {n:Nat} {R:List Int} (h:WOK k L W) (hk:L.length < k) (ha:1<=a) (ha':a<=536870912) (hn:n < W.length) (hf:From L W n (hd R)) :
  F51 k L a (hd R) (W.getD n 0)=some (lnR k L a (W.getD n 0 :: R))/\F59 k L a (hd R) (W.getD n 0)=some (lnR k L a (W.getD n 0 :: R),0)/\0<=(lnR k L a (W.getD n 0 :: R)).first/\(lnR k L a (W.getD n 0 :: R)).hyphen=hyp L (W.getD n 0)/\(lnR k L a (W.getD n 0 :: R)).break_=W.getD n 0/\Cls (lnR k L a (W.getD n 0 :: R)):=by
 obtain⟨r,h1,h2,h3,h4,h5,h6⟩:=h59 (leg_from h hk ha ha' hn hf) hk
 have e:lnR k L a (W.getD n 0 :: R)=r:=by
  show((F59 k L a (hd R) (W.getD n 0)).getD (noL,0)).1=r
  rw[h2]; rfl
 rw[e]
 exact⟨h1,h2,h3,h4,h5,h6⟩
theorem wmono {k:Nat} {L:List GItem} {W:List Int} {a b t:Int} {m:Nat} {R R':List Int} (h:WOK k L W) (hk:L.length < k) (ha:1<=a) (ha':a<=536870912) (hm:m < W.length) (h1:Way L W m R) (h2:Way L W m R') (hc:(lnR k L a R).class_=(lnR k L a R').class_) :
  lnR k L a (t :: R)=lnR k L a (t :: R')/\lx (key k L a b (t :: R)) (key k L a b (t :: R'))=lx (key k L a b R) (key k L a b R'):=by
 obtain⟨A,rfl,f1⟩:=h1.from
 obtain⟨B,rfl,f2⟩:=h2.from
 obtain⟨_,_,p1,p2,_⟩:=ln_of h hk ha ha' hm f1
 obtain⟨_,_,q1,q2,_⟩:=ln_of h hk ha ha' hm f2
 exact mono rfl (by rw[decide_eq_true (by omega),decide_eq_true (by omega)]) hc (by rw[p2,q2])
def gl (y:Gstate):GLine:=GLine.mk y.line_First y.line_Last y.line_Break y.line_Natural y.line_Stretch y.line_Shrink y.line_Short y.line_Bad y.line_Class y.line_Over y.line_Hyphen y.line_End y.line_Height y.line_Depth
structure Rep (k:Nat) (L:List GItem) (a b:Int) (S:List Gstate) (y:Gstate) (R:List Int):Prop where
 is:y.is_=true
 line:gl y=lnR k L a R
 bad:y.cost_Bad=cB k L a b R
 tot:y.cost_Total=cT k L a R
 lns:y.cost_Lines=R.length
 ch:∃ R',R=y.line_Break :: R'/\Ch S y.ahead R'
section
variable {k:Nat} {L:List GItem} {a b:Int} {S:List Gstate}
theorem Rep.kk {y:Gstate} {R:List Int} (h:Rep k L a b S y R):kk y R=key k L a b R:=by unfold Lift.kk key; rw[h.bad,h.tot,h.lns]
theorem Rep.cp {y z:Gstate} {R:List Int} {i:Nat} (h:Rep k L a b S y R) (hi:S[i]? = some y):Cp S z (some (some i)) R:=by
 obtain⟨R',rfl,hR⟩:=h.ch
 exact .cons hi hR
theorem Rep.set {y z:Gstate} {R:List Int} {i:Nat} (hT:TB S) (h:Rep k L a b S y R) (hi:∀ j,y.ahead=some j->j / 4 < i / 4):Rep k L a b (S.set i z) y R:=by
 obtain⟨R',e,hR⟩:=h.ch
 exact⟨h.is,h.line,h.bad,h.tot,h.lns,R',e,hR.set hT hi⟩
def Opt (k:Nat) (L:List GItem) (a b:Int) (S:List Gstate) (i:Nat) (cand:List Int->Prop):Prop:=
 ∃ y,S[i]? = some y/\(y.is_=false->∀ R,¬ cand R)/\(y.is_=true->∃ R,Rep k L a b S y R/\cand R/\∀ R',cand R'->lx (key k L a b R') (key k L a b R)=false)
theorem Opt.congr {i:Nat} {c c':List Int->Prop} (h:Opt k L a b S i c) (e:∀ R,c R↔c' R):Opt k L a b S i c':=by
 obtain⟨y,hy,h1,h2⟩:=h
 refine⟨y,hy,λ q R hR=>h1 q R ((e R).2 hR),λ q=>?_⟩
 obtain⟨R,r1,r2,r3⟩:=h2 q
 exact⟨R,r1,(e R).1 r2,λ R' hR'=>r3 R' ((e R').2 hR')⟩
theorem Opt.set {i i':Nat} {z:Gstate} {cand:List Int->Prop} (hT:TB S) (hne:i'≠i) (hi:i' / 4<=i / 4\/∀ R,¬ cand R) (h:Opt k L a b S i' cand):Opt k L a b (S.set i z) i' cand:=by
 obtain⟨y,hy,h1,h2⟩:=h
 refine⟨y,by rw[List.getElem?_set,if_neg (λ e=>hne e.symm)]; exact hy,h1,λ q=>?_⟩
 obtain⟨R,r1,r2,r3⟩:=h2 q
 rcases hi with hi | hi
 ·exact⟨R,r1.set hT λ j hj=>by have:=(hT i' y j hy hj).2; omega,r2,r3⟩
 ·exact absurd r2 (hi R)
theorem c60 (n N:Nat) (y:GLine) (e:Option Nat) (R':List Int) (t:Int) (m:GMeter) (W:List Int) (hS:S.length=4 * N) (hn:n < N) (hy:Cls y) (he:∀ j,e=some j->j < S.length/\j / 4 < n) (hT:TB S) (hk:S.length+4 < k)
  (hR:Ch S e R') (hu:∀ j,e=some j->∃ u,S[j]? = some u/\Rep k L a b S u R') (hyl:y=lnR k L a (t :: R')) (hb:y.break_=t) (hlen:R'.length<=5000)
  (hold:∀ u,S[4 * n+y.class_.toNat]? = some u->u.is_=true->∃ B,Rep k L a b S u B) :
  ∃ S',F60_s k n y e m L a b W N S=some (m,L,a,b,W,S')/\S'.length=S.length/\TB S' /\
   (∀ (i:Nat) (cand:List Int->Prop),i≠4 * n+y.class_.toNat->(i / 4<=n\/∀ R,¬ cand R)->Opt k L a b S i cand->Opt k L a b S' i cand) /\
   ∀ (cand cand':List Int->Prop),Opt k L a b S (4 * n+y.class_.toNat) cand->(∀ R,cand R->cand' R)->cand' (t :: R')->(∀ R,cand' R->cand R\/lx (key k L a b R) (key k L a b (t :: R'))=false)->Opt k L a b S' (4 * n+y.class_.toNat) cand':=by
 unfold F60_s
 obtain⟨v1,hv1,hv2⟩:∃ v,(bif y.over_ then(some true) else(some (decide (y.bad > b))):Option Bool)=some v/\(bif v then(some 1) else(some 0):Option Int)=some (bd b y):=by
  unfold bd
  cases y.over_ with
  | true=>exact⟨_,rfl,rfl⟩
  | false=>cases decide (y.bad > b) <;> exact⟨_,rfl,rfl⟩
 rw[hv1,Option.bind_some,hv2,Option.bind_some]
 have hi:4 * Int.toNat (n:Int)+Int.toNat y.class_ < S.length:=by have:=hy.1; have:=hy.2; omega
 have hi':4 * Int.toNat (n:Int)+Int.toNat y.class_=4 * n+y.class_.toNat:=by omega
 have hi4:(4 * n+Int.toNat y.class_) / 4=n:=by have:=hy.1; have:=hy.2; omega
 rw[hi'] at hi
 rw[hi']
 obtain⟨u,hui⟩:∃ u,S[4 * n+y.class_.toNat]? = some u:=⟨_,List.getElem?_eq_getElem hi⟩
 have rest:∀ v6:Gstate,v6.ahead=e->Rep k L a b S v6 (t :: R')->∃ S',(bindN (n:Int) N (bindN y.class_ 4 ((F32_s k (some none) (some (some (4 * n+Int.toNat y.class_))) S v6).bind λ r25=>
   Option.bind (α:=List Gstate) (bif r25.1 then(bindG r25.2.2 r25.2.1 (some (some (4 * n+Int.toNat y.class_))) λ y12=>
   some (List.set r25.2.1 (4 * n+Int.toNat y.class_) r25.2.2)) else(some r25.2.1)) λ(v11:List Gstate)=>
   some (m,L,a,b,W,v11))))=some (m,L,a,b,W,S')/\S'.length=S.length/\TB S' /\
   (∀ (i:Nat) (cand:List Int->Prop),i≠4 * n+y.class_.toNat->(i / 4<=n\/∀ R,¬ cand R)->Opt k L a b S i cand->Opt k L a b S' i cand) /\
   ∀ (cand cand':List Int->Prop),Opt k L a b S (4 * n+y.class_.toNat) cand->(∀ R,cand R->cand' R)->cand' (t :: R')->(∀ R,cand' R->cand R\/lx (key k L a b R) (key k L a b (t :: R'))=false)->Opt k L a b S' (4 * n+y.class_.toNat) cand':=λ v6 hv6 hrep=>by
  unfold bindN
  rw[if_pos ⟨by omega,by omega⟩,if_pos ⟨hy.1,hy.2⟩]
  have hInto:Into S v6:=λ j hj=>(he j (hv6 ▸ hj)).1
  have hcp:Cp S v6 (some none) (t :: R'):=by
   obtain⟨R1,e1,e2⟩:=hrep.ch
   exact⟨R1,e1,e2⟩
  obtain⟨q,ht,t1,t2⟩:=c32 k S v6 v6 u (by cases S with | nil=>simp at hi | cons _ _=>rfl) hT hInto (some none) (some (some (4 * n+Int.toNat y.class_))) (λ i h=>by cases h) (λ i h=>by cases h; exact hi) rfl hui (t :: R') hcp (λ hb=>by
   obtain⟨B,hB⟩:=hold u hui hb
   exact⟨B,hB.cp hui⟩) hk
  rw[ht,Option.bind_some]
  cases q with
  | false=>
   have hut:u.is_=true:=by cases h:u.is_ with | true=>rfl | false=>cases t1 h
   refine⟨S,rfl,rfl,hT,λ i cand _ _ h=>h,λ cand cand' h hc1 hc2 hc3=>?_⟩
   obtain⟨y0,hy0,h1,h2⟩:=h
   rw[hui] at hy0; cases hy0
   obtain⟨B,r1,r2,r3⟩:=h2 hut
   have hq:=t2 hut B (r1.cp hui)
   rw[hrep.kk,r1.kk] at hq
   refine⟨u,hui,λ q=>(by rw[hut] at q; cases q),λ _=>⟨B,r1,hc1 B r2,λ R hR=>?_⟩⟩
   rcases hc3 R hR with h3 | h3
   ·exact r3 R h3
   ·exact le_tr _ _ _ hq.symm h3
  | true=>
   obtain⟨u',hu'⟩:∃ u',getG v6 S (some (some (4 * n+Int.toNat y.class_)))=some u':=⟨u,hui⟩
   simp only[cond_true,bindG_eq hu']
   have hah:∀ j,v6.ahead=some j->j / 4 < (4 * n+y.class_.toNat) / 4:=λ j hj=>by rw[hi4]; exact(he j (hv6 ▸ hj)).2
   refine⟨_,rfl,List.length_set,hT.set λ j hj=>⟨(he j (hv6 ▸ hj)).1,hah j hj⟩,λ i cand h1 h2 h3=>h3.set hT h1 (by rw[hi4]; exact h2),λ cand cand' h hc1 hc2 hc3=>?_⟩
   refine⟨v6,by rw[List.getElem?_set,if_pos rfl,if_pos hi],λ q=>(by rw[hrep.is] at q; cases q),λ _=>⟨t :: R',hrep.set hT hah,hc2,λ R hR=>?_⟩⟩
   rcases hc3 R hR with h3 | h3
   ·obtain⟨y0,hy0,h1,h2⟩:=h
    rw[hui] at hy0; cases hy0
    cases hut:u.is_ with
    | false=>exact absurd h3 (h1 hut R)
    | true=>
     obtain⟨B,r1,r2,r3⟩:=h2 hut
     have hq:=t2 hut B (r1.cp hui)
     rw[hrep.kk,r1.kk] at hq
     exact le_tr _ _ _ (lx_asym _ _ hq.symm) (r3 R h3)
   ·exact h3
 cases e with
 | none=>
  cases hR
  obtain⟨hd,_⟩:=dm_eq k L noL y
  unfold noL at hd
  simp only[Option.map_none,Option.isNone_none,cond_true,hd,Option.bind_some]
  have e0:cB k L a b [t]=bd b y+0:=by rw[hyl]; rfl
  have e1:cT k L a [t]=0+dm k L noL y:=by rw[hyl]; rfl
  refine rest _ rfl ⟨rfl,hyl,?_,?_,rfl,[],?_,.nil⟩
  ·show bd b y=_; omega
  ·show dm k L noL y=_; omega
  ·show[t]=[y.break_]; rw[hb]
 | some j=>
  obtain⟨h1,_⟩:=he j rfl
  obtain⟨u1,hu1,hrep⟩:=hu j rfl
  have hO:∀ {β:Type} (f:Gstate->Option β),bindO S (some j) f=f u1:=λ f=>by unfold bindO getO; simp only[Option.bind_some,hu1]
  obtain⟨hd,hd2⟩:=dm_eq k L (gl u1) y
  have hd':=hd
  unfold gl at hd'
  have hbb:=cB_bd k L a b R'
  have hbt:=cT_bd k L a R'
  have hb1:=bd_bd b y
  unfold Bd at hd2
  simp only[Option.map_some,Option.isNone_some,cond_false,hO,Option.bind_some,hrep.bad,hrep.tot,hrep.lns]
  rw[hd',Option.bind_some,w_id (n:=bd b y+cB k L a b R') (by omega) (by omega),w_id (n:=cT k L a R'+_) (by show -9223372036854775808<=cT k L a R'+dm k L (gl u1) y; omega) (by show cT k L a R'+dm k L (gl u1) y < _; omega),w_id (n:=1+(R'.length:Int)) (by omega) (by omega)]
  refine rest _ rfl ⟨rfl,hyl,?_,?_,?_,R',?_,hR⟩
  ·rw[show cB k L a b (t :: R')=bd b (lnR k L a (t :: R'))+cB k L a b R' from rfl,<- hyl]
  ·rw[show cT k L a (t :: R')=cT k L a R'+dm k L (lnR k L a R') (lnR k L a (t :: R')) from rfl,<- hyl,<- hrep.line]
   rfl
  ·show 1+(R'.length:Int)=_; rw[List.length_cons]; omega
  ·show t :: R'=y.break_ :: R'; rw[hb]
end
def Part (k:Nat) (L:List GItem) (a:Int) (W:List Int) (n:Nat) (v q:Int) (R:List Int):Prop:=
 ∃ R',R=W.getD n 0 :: R'/\((R'=[]/\frm L W n = -1 /\ -1 < v)\/∃ m:Nat,frm L W n<=m/\((m:Int) < v\/(m:Int)=v/\(lnR k L a R').class_ < q)/\m < n/\Way L W m R')
def Cand (k:Nat) (L:List GItem) (a:Int) (W:List Int) (n:Nat) (v q:Int) (m:Nat) (R:List Int):Prop:=(m < n/\Way L W m R)\/(m=n/\Part k L a W n v q R)
def Inv (k:Nat) (L:List GItem) (a b:Int) (W:List Int) (N:Nat) (S:List Gstate) (n:Nat) (v q:Int):Prop:=
 ∀ (m:Nat) (c:Int),m < N->0<=c->c < 4->Opt k L a b S (4 * m+c.toNat) (λ R=>Cand k L a W n v q m R/\(lnR k L a R).class_=c)
structure Set1 (k:Nat) (L:List GItem) (W:List Int) (a:Int) (N:Nat):Prop where
 w:WOK k L W
 hk:L.length < k
 a1:1<=a
 a2:a<=536870912
 hW:W.length=N
section
variable {k:Nat} {L:List GItem} {a b:Int} {W:List Int} {N:Nat}
theorem Inv.congr {S:List Gstate} {n n':Nat} {v q v' q':Int} (h:Inv k L a b W N S n v q) (e:∀ (m:Nat) (R:List Int),m < N->(Cand k L a W n v q m R↔Cand k L a W n' v' q' m R)):Inv k L a b W N S n' v' q':=
 λ m c h1 h2 h3=>(h m c h1 h2 h3).congr λ R=>and_congr_left λ _=>e m R h1
theorem Set1.ln (s:Set1 k L W a N) {n:Nat} {R:List Int} (hn:n < N) (hf:From L W n (hd R)) :
  F51 k L a (hd R) (W.getD n 0)=some (lnR k L a (W.getD n 0 :: R))/\F59 k L a (hd R) (W.getD n 0)=some (lnR k L a (W.getD n 0 :: R),0)/\0<=(lnR k L a (W.getD n 0 :: R)).first/\(lnR k L a (W.getD n 0 :: R)).hyphen=hyp L (W.getD n 0)/\(lnR k L a (W.getD n 0 :: R)).break_=W.getD n 0/\Cls (lnR k L a (W.getD n 0 :: R)):=ln_of s.w s.hk s.a1 s.a2 (by rw[s.hW]; exact hn) hf
theorem Set1.cls (s:Set1 k L W a N) {n:Nat} {R:List Int} (hn:n < N) (hw:Way L W n R):Cls (lnR k L a R):=by
 obtain⟨R',rfl,hf⟩:=hw.from
 exact(s.ln hn hf).2.2.2.2.2
theorem Set1.mono (s:Set1 k L W a N) {t:Int} {m:Nat} {R R':List Int} (b:Int) (hm:m < N) (h1:Way L W m R) (h2:Way L W m R') (hc:(lnR k L a R).class_=(lnR k L a R').class_) :
  lnR k L a (t :: R)=lnR k L a (t :: R')/\lx (key k L a b (t :: R)) (key k L a b (t :: R'))=lx (key k L a b R) (key k L a b R'):=wmono (b:=b) (t:=t) s.w s.hk s.a1 s.a2 (by rw[s.hW]; exact hm) h1 h2 hc
theorem cand_eq {n m:Nat} {v q v' q':Int} {R:List Int} (h:m=n->(Part k L a W n v q R↔Part k L a W n v' q' R)):Cand k L a W n v q m R↔Cand k L a W n v' q' m R:=by
 unfold Cand
 constructor
 ·rintro(h1 | ⟨h1,h2⟩)
  ·exact .inl h1
  ·exact .inr ⟨h1,(h h1).1 h2⟩
 ·rintro(h1 | ⟨h1,h2⟩)
  ·exact .inl h1
  ·exact .inr ⟨h1,(h h1).2 h2⟩
theorem Part.up {n:Nat} {v q:Int} {R:List Int} (h:Part k L a W n v q R):Part k L a W n v (q+1) R:=by
 obtain⟨R',e,h⟩:=h
 refine⟨R',e,?_⟩
 rcases h with h | ⟨m,h1,h2,h3⟩
 ·exact .inl h
 ·exact .inr ⟨m,h1,h2.imp id λ h=>⟨h.1,by have:=h.2; omega⟩,h3⟩
theorem Part.down {n v:Nat} {q:Int} {R:List Int} (h:Part k L a W n v (q+1) R):Part k L a W n v q R\/∃ R',R=W.getD n 0 :: R'/\Way L W v R'/\(lnR k L a R').class_=q:=by
 obtain⟨R',e,h⟩:=h
 rcases h with h | ⟨m,h1,h2,h3,h4⟩
 ·exact .inl ⟨R',e,.inl h⟩
 ·rcases h2 with h2 | ⟨h2,h5⟩
  ·exact .inl ⟨R',e,.inr ⟨m,h1,.inl h2,h3,h4⟩⟩
  ·have hm:m=v:=by omega
   subst hm
   by_cases hc:(lnR k L a R').class_ < q
   ·exact .inl ⟨R',e,.inr ⟨m,h1,.inr ⟨h2,hc⟩,h3,h4⟩⟩
   ·exact .inr ⟨R',e,h4,by omega⟩
theorem way_part {n:Nat} {R:List Int} : Way L W n R↔Part k L a W n n 0 R:=by
 constructor
 ·intro h
  cases h with
  | one h=>exact⟨[],rfl,.inl ⟨rfl,h,by omega⟩⟩
  | more h1 h2 hR=>exact⟨_,rfl,.inr ⟨_,h1,.inl (by omega),h2,hR⟩⟩
 ·rintro⟨R',rfl,⟨rfl,h,_⟩ | ⟨m,h1,_,h3,h4⟩⟩
  ·exact .one h
  ·exact .more h1 h3 h4
theorem Set1.none (s:Set1 k L W a N) {n:Nat} {R:List Int} (hn:n < N):¬ Part k L a W n (frm L W n) 0 R:=by
 rintro⟨R',rfl,⟨rfl,h,h'⟩ | ⟨m,h1,h2,h3,h4⟩⟩
 ·omega
 ·rcases h2 with h2 | ⟨_,h2⟩
  ·omega
  ·have:=(s.cls (by omega) h4).1; omega
theorem Set1.next (s:Set1 k L W a N) {S:List Gstate} {n:Nat} (h:Inv k L a b W N S n n 0):Inv k L a b W N S (n+1) (frm L W (n+1)) 0:=h.congr λ m R hm=>by
 unfold Cand
 constructor
 ·rintro(⟨h1,h2⟩ | ⟨h1,h2⟩)
  ·exact .inl ⟨by omega,h2⟩
  ·subst h1; exact .inl ⟨by omega,way_part.2 h2⟩
 ·rintro(⟨h1,h2⟩ | ⟨h1,h2⟩)
  ·by_cases e:m=n
   ·subst e; exact .inr ⟨rfl,way_part.1 h2⟩
   ·exact .inl ⟨by omega,h2⟩
  ·subst h1; exact absurd h2 (s.none hm)
theorem Set1.carry (s:Set1 k L W a N) {n v:Nat} {R:List Int} (hn:n < N) (hv:v < n):Part k L a W n v 4 R↔Part k L a W n ((v:Int)+1) 0 R:=by
 constructor
 ·rintro⟨R',rfl,⟨rfl,h,h'⟩ | ⟨m,h1,h2,h3,h4⟩⟩
  ·exact⟨_,rfl,.inl ⟨rfl,h,by omega⟩⟩
  ·exact⟨_,rfl,.inr ⟨m,h1,.inl (by rcases h2 with h2 | h2 <;> omega),h3,h4⟩⟩
 ·rintro⟨R',rfl,⟨rfl,h,h'⟩ | ⟨m,h1,h2,h3,h4⟩⟩
  ·exact⟨_,rfl,.inl ⟨rfl,h,by omega⟩⟩
  ·have hc:=s.cls (show m < N by omega) h4
   refine⟨_,rfl,.inr ⟨m,h1,?_,h3,h4⟩⟩
   rcases h2 with h2 | ⟨_,h2⟩
   ·by_cases e:(m:Int) < v
    ·exact .inl e
    ·exact .inr ⟨by omega,hc.2⟩
   ·have:=hc.1; omega
theorem cblk (s:Set1 k L W a N) (n v:Nat) (c:Int) (y:GLine) (m:GMeter) (S:List Gstate) (hS:S.length=4 * N) (hn:n < N) (hv:v < n) (hfv:frm L W n<=v) (h0:0<=c) (h1:c < 4) (hy:F59 k L a (W.getD v 0) (W.getD n 0)=some (y,0)) (hT:TB S) (hk:S.length+4 < k) (hI:Inv k L a b W N S n v c) :
  ∃ S',(bindN (v:Int) N (bindN c 4 (bindO S (some (4 * Int.toNat (v:Int)+Int.toNat c)) λ y98=>
  bif y98.is_ then((F60_s k n y (some (4 * Int.toNat (v:Int)+Int.toNat c)) m L a b W N S).bind λ r37=>
  some (r37.1,r37.2.1,r37.2.2.1,r37.2.2.2.1,r37.2.2.2.2.1,r37.2.2.2.2.2)) else(some (m,L,a,b,W,S)))))=some (m,L,a,b,W,S')/\S'.length=S.length/\TB S'/\Inv k L a b W N S' n v (c+1):=by
 unfold bindN
 rw[if_pos ⟨by omega,by omega⟩,if_pos ⟨h0,h1⟩]
 have hi:4 * Int.toNat (v:Int)+Int.toNat c < S.length:=by omega
 obtain⟨u,hu,o1,o2⟩:=hI v c (by omega) h0 h1
 have ei:4 * Int.toNat (v:Int)+Int.toNat c=4 * v+c.toNat:=by omega
 rw[ei] at hi ⊢
 have hl:=s.w.len
 have hm:=s.w.many
 have hW:=s.hW
 unfold bindO getO
 simp only[Option.bind_some,hu]
 cases his:u.is_ with
 | false=>
  refine⟨S,rfl,rfl,hT,hI.congr λ m R _=>cand_eq λ _=>⟨Part.up,λ h=>?_⟩⟩
  rcases h.down with h | ⟨R',e,h2,h3⟩
  ·exact h
  ·exact absurd ⟨.inl ⟨hv,h2⟩,h3⟩ (o1 his R')
 | true=>
  obtain⟨R1,r1,⟨r2,r3⟩,r4⟩:=o2 his
  have hway:Way L W v R1:=by
   rcases r2 with⟨_,h⟩ | ⟨h,_⟩
   ·exact h
   ·omega
  obtain⟨_,p2,_,_,p5,p6⟩:=s.ln (R:=R1) hn (.inr ⟨v,hway.hd,hfv,hv⟩)
  rw[hway.hd,hy] at p2
  have hyl:y=lnR k L a (W.getD n 0 :: R1):=by
   have:=Option.some.inj p2
   exact(Prod.mk.inj this).1
  rw[<- hyl] at p5 p6
  obtain⟨S',e1,e2,e3,e4,e5⟩:=c60 (b:=b) n N y (some (4 * v+c.toNat)) R1 (W.getD n 0) m W hS hn p6 (λ j hj=>by cases hj; exact⟨hi,by omega⟩) hT hk (by
   obtain⟨R2,q1,q2⟩:=r1.ch
   rw[q1]
   exact .cons hu q2) (λ j hj=>by cases hj; exact⟨u,hu,r1⟩) hyl p5 (by have:=hway.len; omega) (λ u' hu' hb=>by
    obtain⟨u2,w1,_,w2⟩:=hI n y.class_ hn p6.1 p6.2
    rw[hu'] at w1; cases w1
    obtain⟨B,hB,_⟩:=w2 hb
    exact⟨B,hB⟩)
  rw[cond_true,e1]
  refine⟨S',rfl,e2,e3,λ m c' hm h0' h1'=>?_⟩
  have old:=hI m c' hm h0' h1'
  by_cases hidx:4 * m+c'.toNat=4 * n+y.class_.toNat
  ·have h6:=p6.1
   have h7:=p6.2
   have hmn:m=n:=by omega
   have hc':c'=y.class_:=by omega
   subst hmn
   subst hc'
   refine e5 _ _ old (λ R h=>⟨?_,h.2⟩) ⟨.inr ⟨rfl,R1,rfl,.inr ⟨v,hfv,.inr ⟨rfl,by omega⟩,hv,hway⟩⟩,by rw[<- hyl]⟩ (λ R h=>?_)
   ·rcases h.1 with h | ⟨_,h⟩
    ·exact .inl h
    ·exact .inr ⟨rfl,h.up⟩
   ·obtain⟨h,hcl⟩:=h
    rcases h with h | ⟨_,h⟩
    ·exact .inl ⟨.inl h,hcl⟩
    ·rcases h.down with h | ⟨R',rfl,q2,q3⟩
     ·exact .inl ⟨.inr ⟨rfl,h⟩,hcl⟩
     ·right
      rw[(s.mono b (t:=W.getD m 0) (show v < N by omega) q2 hway (q3.trans r3.symm)).2]
      exact r4 R' ⟨.inl ⟨hv,q2⟩,q3⟩
  ·have hcond:(4 * m+c'.toNat) / 4<=n\/∀ R,¬ (Cand k L a W n v c m R/\(lnR k L a R).class_=c'):=by
    by_cases hmn:m<=n
    ·left; omega
    ·right
     rintro R ⟨h | h,_⟩ <;> omega
   refine(e4 _ _ hidx hcond old).congr λ R=>?_
   constructor
   ·rintro⟨h | ⟨h,h'⟩,hcl⟩
    ·exact⟨.inl h,hcl⟩
    ·exact⟨.inr ⟨h,h'.up⟩,hcl⟩
   ·rintro⟨h | ⟨h,h'⟩,hcl⟩
    ·exact⟨.inl h,hcl⟩
    ·rcases h'.down with h' | ⟨R',rfl,q2,q3⟩
     ·exact⟨.inr ⟨h,h'⟩,hcl⟩
     ·exfalso
      subst h
      rw[(s.mono b (t:=W.getD m 0) (show v < N by omega) q2 hway (q3.trans r3.symm)).1,<- hyl] at hcl
      subst hcl
      exact hidx rfl
end
section
variable {k:Nat} {L:List GItem} {a b:Int} {W:List Int} {N:Nat}
theorem c30_l1 (s:Set1 k L W a N) (n:Nat) (hn:n < N) :
  ∀ (j:Nat) (v:Int) (m:GMeter) (S:List Gstate),-1<=v->frm L W n<=v->v<=n->n - v < j->Much m->m.steps_now+(n - v)<=1000000000->S.length=4 * N->TB S->S.length+4 < k->Inv k L a b W N S n v 0 ->
   ∃ m' S',F30_s_l1 k n N j v m L a b W S=some (.inl (m',L,a,b,W,S'))/\Much m'/\m'.steps_now=m.steps_now+(n - v)/\m'.cells_now=m.cells_now/\m'.cells_peak=m.cells_peak/\S'.length=4 * N/\TB S'/\Inv k L a b W N S' n n 0
 | 0,v,m,S,h1,h1',h2,h3,_,_,_,_,_,_=>by omega
 | j+1,v,m,S,h1,h1',h2,h3,hm,hs,hS,hT,hk,hI=>by
  have hl:=s.w.len
  have hmn:=s.w.many
  have hW:=s.hW
  unfold F30_s_l1
  by_cases hv:v < n
  ·rw[decide_eq_true hv,cond_true]
   obtain⟨m1,e1,m2,m3,m4,m5⟩:=t58 k m hm (by omega)
   rw[e1,Option.bind_some]
   have hq:W[((n:Int)).toNat]? = some (W.getD n 0):=(getD_mem (by omega)).1
   have go:∀ S1:List Gstate,S1.length=4 * N->TB S1->Inv k L a b W N S1 n (v+1) 0->∃ m' S',F30_s_l1 k n N j (w (v+1)) m1 L a b W S1=some (.inl (m',L,a,b,W,S'))/\Much m'/\m'.steps_now=m.steps_now+(n - v)/\m'.cells_now=m.cells_now/\m'.cells_peak=m.cells_peak/\S'.length=4 * N/\TB S'/\Inv k L a b W N S' n n 0:=λ S1 q1 q2 q3=>by
    rw[w_id (by omega) (by omega)]
    obtain⟨m',S',r1,r2,r3,r4,r5,r6,r7,r8⟩:=c30_l1 s n hn j (v+1) m1 S1 (by omega) (by omega) (by omega) (by omega) m2 (by omega) q1 q2 (by omega) q3
    exact⟨m',S',r1,r2,by omega,by omega,by omega,r6,r7,r8⟩
   by_cases h0:v < 0
   ·have hv1:v = -1:=by omega
    subst hv1
    have hfr:frm L W n = -1:=by have:=(frm_lt L W n).1; omega
    obtain⟨_,p2,_,_,p5,p6⟩:=s.ln (R:=[]) hn (.inl ⟨rfl,hfr⟩)
    obtain⟨S1,e1,e2,e3,e4,e5⟩:=c60 (k:=k) (L:=L) (a:=a) (b:=b) (S:=S) n N _ none [] (W.getD n 0) m1 W hS hn p6 (λ j hj=>by cases hj) hT hk .nil (λ j hj=>by cases hj) rfl p5 (by simp) (λ u' hu' hb=>by
     obtain⟨u2,w1,_,w2⟩:=hI n _ hn p6.1 p6.2
     rw[hu'] at w1; cases w1
     obtain⟨B,hB,_⟩:=w2 hb
     exact⟨B,hB⟩)
    have p2':F59 k L a (-1) (W.getD n 0)=some (lnR k L a [W.getD n 0],0):=p2
    simp only[Bool.not_true,cond_false,Option.bind_some,bindI_eq (f:=_) (show(0:Int)<=(n:Int) by omega) hq,show decide ((-1:Int)>=0)=false from rfl,p2']
    rw[show decide ((-1:Int) < 0)=true from rfl,cond_true,e1]
    refine go S1 (e2.trans hS) e3 λ m c' hm h0' h1'=>?_
    have old:=hI m c' hm h0' h1'
    have new:Part k L a W n (-1+1) 0 [W.getD n 0]:=⟨[],rfl,.inl ⟨rfl,hfr,by decide⟩⟩
    have up:∀ R,Part k L a W n (-1) 0 R->Part k L a W n (-1+1) 0 R:=by
     rintro R ⟨R',rfl,⟨rfl,h,h'⟩ | ⟨m,h1,h2,h3,h4⟩⟩
     ·exact⟨_,rfl,.inl ⟨rfl,h,by omega⟩⟩
     ·exact⟨_,rfl,.inr ⟨m,h1,.inl (by rcases h2 with h2 | h2 <;> omega),h3,h4⟩⟩
    have down:∀ R,Part k L a W n (-1+1) 0 R->R=[W.getD n 0]:=by
     rintro R ⟨R',rfl,⟨rfl,h,h'⟩ | ⟨m,h1,h2,h3,h4⟩⟩
     ·rfl
     ·exfalso
      have:=(s.cls (show m < N by omega) h4).1
      rcases h2 with h2 | ⟨_,h2⟩ <;> omega
    by_cases hidx:4 * m+c'.toNat=4 * n+(lnR k L a [W.getD n 0]).class_.toNat
    ·have h6:=p6.1
     have h7:=p6.2
     have hmn:m=n:=by omega
     have hc':c'=(lnR k L a [W.getD n 0]).class_:=by omega
     subst hmn
     subst hc'
     refine e5 _ _ old (λ R h=>⟨?_,h.2⟩) ⟨.inr ⟨rfl,new⟩,rfl⟩ (λ R h=>?_)
     ·rcases h.1 with h | ⟨_,h⟩
      ·exact .inl h
      ·exact .inr ⟨rfl,up R h⟩
     ·obtain⟨h,hcl⟩:=h
      rcases h with h | ⟨_,h⟩
      ·exact .inl ⟨.inl h,hcl⟩
      ·right; rw[down R h]; exact lx_irr _
    ·have hcond:(4 * m+c'.toNat) / 4<=n\/∀ R,¬ (Cand k L a W n (-1) 0 m R/\(lnR k L a R).class_=c'):=by
      by_cases hmn:m<=n
      ·left; omega
      ·right
       rintro R ⟨h | h,_⟩ <;> omega
     refine(e4 _ _ hidx hcond old).congr λ R=>?_
     constructor
     ·rintro⟨h | ⟨h,h'⟩,hcl⟩
      ·exact⟨.inl h,hcl⟩
      ·exact⟨.inr ⟨h,up R h'⟩,hcl⟩
     ·rintro⟨h | ⟨h,h'⟩,hcl⟩
      ·exact⟨.inl h,hcl⟩
      ·exfalso
       have:=down R h'
       subst this
       subst h
       subst hcl
       exact hidx rfl
   ·obtain⟨u,rfl⟩:∃ u:Nat,v=u:=⟨v.toNat,by omega⟩
    have hu':W[((u:Int)).toNat]? = some (W.getD u 0):=(getD_mem (by omega)).1
    obtain⟨y,_,p2,_⟩:=h59 (leg_from s.w s.hk s.a1 s.a2 (show n < W.length by omega) (.inr ⟨u,rfl,h1',by omega⟩)) s.hk
    obtain⟨S1,a1,a2,a3,a4⟩:=cblk s n u 0 y m1 S hS hn (by omega) h1' (by decide) (by decide) p2 hT hk hI
    obtain⟨S2,b1,b2,b3,b4⟩:=cblk s n u 1 y m1 S1 (a2.trans hS) hn (by omega) h1' (by decide) (by decide) p2 a3 (by omega) a4
    obtain⟨S3,c1,c2,c3,c4⟩:=cblk s n u 2 y m1 S2 (by omega) hn (by omega) h1' (by decide) (by decide) p2 b3 (by omega) b4
    obtain⟨S4,d1,d2,d3,d4⟩:=cblk s n u 3 y m1 S3 (by omega) hn (by omega) h1' (by decide) (by decide) p2 c3 (by omega) c4
    simp only[Bool.not_true,cond_false,Option.bind_some,bindI_eq (f:=_) (show(0:Int)<=(n:Int) by omega) hq,decide_eq_true (show(u:Int)>=0 by omega),cond_true,bindI_eq (f:=_) (show(0:Int)<=(u:Int) by omega) hu',p2]
    rw[decide_eq_false h0,cond_false,a1]
    simp only[Option.bind_some]
    rw[b1]
    simp only[Option.bind_some]
    rw[c1]
    simp only[Option.bind_some]
    rw[d1]
    exact go S4 (by omega) d3 (d4.congr λ m R _=>cand_eq λ _=>s.carry hn (by omega))
  ·rw[decide_eq_false hv,cond_false]
   have hvn:v=n:=by omega
   subst hvn
   exact⟨m,S,rfl,hm,by omega,rfl,rfl,hS,hT,hI⟩
theorem c30 (s:Set1 k L W a N) (n:Nat) (m:GMeter) (S:List Gstate) (hn:n < N) (hN:N<=100000) (hnk:N+1 < k)
  (hm:Much m) (hs:m.steps_now<=999000000) (hS:S.length=4 * N) (hT:TB S) (hk:S.length+4 < k) (hI:Inv k L a b W N S n (frm L W n) 0) :
  ∃ m' S',F30_s k n m L a b W N S=some (true,m',L,a,b,W,S')/\Much m'/\m'.steps_now=m.steps_now+(n - frm L W n)/\m'.cells_now=m.cells_now/\m'.cells_peak=m.cells_peak/\S'.length=4 * N/\TB S'/\Inv k L a b W N S' (n+1) (frm L W (n+1)) 0:=by
 have hW:=s.hW
 obtain⟨f1,f2⟩:=frm_lt L W n
 obtain⟨m',S',e1,e2,e3,e4,e5,e6,e7,e8⟩:=c30_l1 s n hn k (frm L W n) m S f1 (Int.le_refl _) (by omega) (by omega) hm (by omega) hS hT hk hI
 unfold F30_s
 rw[t57 k N n m L a b W S s.w.fine s.w.inn (by omega) (by omega) (by omega),Option.bind_some]
 simp only[e1]
 exact⟨m',S',rfl,e2,e3,e4,e5,e6,e7,s.next e8⟩
end
theorem c11_l2 {k N:Nat} {L:List GItem} {a b:Int} (r:List Int×List Int) (s:Set1 k L r.1 a N) (hN:N<=4096) (hk:4 * N+4 < k) :
  ∀ (j n:Nat) (m:GMeter) (S:List Gstate),n<=N->N - n < j->Much m->m.steps_now<=5000 * n->S.length=4 * N->TB S->Inv k L a b r.1 N S n (frm L r.1 n) 0 ->
   ∃ m' S',F11_l2 k r j n m L a b r.1 S=some (.inl (m',L,a,b,r.1,S'))/\Much m'/\m'.steps_now=m.steps_now+stp L r.1 n (N - n)/\m'.cells_now=m.cells_now/\m'.cells_peak=m.cells_peak/\S'.length=4 * N/\TB S'/\Inv k L a b r.1 N S' N (frm L r.1 N) 0
 | 0,n,m,S,_,h,_,_,_,_,_=>by omega
 | j+1,n,m,S,h1,h2,hm,hs,hS,hT,hI=>by
  have hr:=s.hW
  unfold F11_l2
  by_cases hv:n < N
  ·rw[decide_eq_true (show(n:Int) < (r.1.length:Int) by omega),cond_true,show Int.toNat (r.1.length:Int)=N by omega]
   obtain⟨f1,f2⟩:=frm_lt L r.1 n
   obtain⟨m1,S1,e1,e2,e3,e4,e5,e6,e7,e8⟩:=c30 s n m S hv (by omega) (by omega) hm (by omega) hS hT (by omega) hI
   rw[e1,Option.bind_some]
   simp only[Bool.not_true,cond_false]
   rw[w_id (by omega) (by omega)]
   obtain⟨m',S',r1,r2,r3,r4,r5,r6,r7,r8⟩:=c11_l2 r s hN hk j (n+1) m1 S1 (by omega) (by omega) e2 (by omega) e6 e7 e8
   refine⟨m',S',r1,r2,?_,by omega,by omega,r6,r7,r8⟩
   rw[show N - n=(N - (n+1))+1 by omega]
   show m'.steps_now=m.steps_now+((n - frm L r.1 n)+stp L r.1 (n+1) (N - (n+1)))
   omega
  ·rw[decide_eq_false (show ¬ (n:Int) < (r.1.length:Int) by omega),cond_false]
   have hn:n=N:=by omega
   subst hn
   refine⟨m,S,rfl,hm,?_,rfl,rfl,hS,hT,hI⟩
   rw[show n - n=0 by omega]
   show m.steps_now=m.steps_now+0
   omega
theorem way_ex (L:List GItem) (W:List Int):∀ n,∃ R,Way L W n R
 | 0=>⟨_,.one rfl⟩
 | n+1=>by
  obtain⟨R,h⟩:=way_ex L W n
  have:=(frm_lt L W (n+1)).2
  exact⟨_,.more (m:=n) (by omega) (by omega) h⟩
theorem c11_l3 (k:Nat) (S:List Gstate) (z:Gstate) (hT:TB S) (hz:z.ahead=none):∀ (j:Nat) (acc:List Int) (p:Option (Option Nat)) (R:List Int),InS S p->Cp S z p R->mu p < j->acc.length+mu p<=100000->F11_l3 k S z j acc p=some (acc++R)
 | 0,_,_,_,_,_,h,_=>by omega
 | j+1,acc,p,R,hi,hC,h,hb=>by
  unfold F11_l3
  cases hp:p.isNone with
  | true=>
   have e:p=none:=by simpa using hp
   subst e
   have hC:R=[]:=hC
   subst hC
   rw[List.append_nil]
   rfl
  | false=>
   have hpn:p≠none:=λ e=>by subst e; cases hp
   obtain⟨y,hy⟩:=get_in (z:=z) hi hpn
   obtain⟨a1,a2⟩:=step_mu hT hz hi hy
   obtain⟨R',rfl,hR'⟩:=hC.step hy
   simp only[Bool.not_false,cond_true,bindG_eq hy]
   rw[bindA_eq (by simp only[List.length_singleton]; omega)]
   rw[c11_l3 k S z hT hz j (acc++[y.line_Break]) (y.ahead.map some) R' a1 hR' (by omega) (by rw[List.length_append,List.length_singleton]; omega),List.append_assoc]
   rfl
def SelI (k:Nat) (L:List GItem) (a b:Int) (W:List Int) (N:Nat) (S:List Gstate) (c:Int) (p:Option (Option Nat)):Prop:=
 (p=some none/\∀ R,Way L W (N - 1) R->¬ (lnR k L a R).class_ < c)\/∃ (i:Nat) (u:Gstate) (R:List Int),p=some (some i)/\S[i]? = some u/\Rep k L a b S u R/\Way L W (N - 1) R/\i / 4+1<=N/\∀ R',Way L W (N - 1) R'->(lnR k L a R').class_ < c->lx (key k L a b R') (key k L a b R)=false
theorem csel {k:Nat} {L:List GItem} {a b:Int} {W:List Int} {N:Nat} (s:Set1 k L W a N) (c:Int) (S:List Gstate) (p:Option (Option Nat)) (hS:S.length=4 * N) (hN:0 < N) (h0:0<=c) (h1:c < 4) (hT:TB S) (hk:S.length+4 < k) (hI:Inv k L a b W N S N (frm L W N) 0) (hp:SelI k L a b W N S c p) :
  ∃ p',(bindN ((N:Int) - 1) N (bindN c 4 (bindG zst S (some (some (4 * Int.toNat ((N:Int) - 1)+Int.toNat c))) λ y140=>
   Option.bind (α:=Bool×(List Gstate)×Gstate) (bif y140.is_ then((F32_s k (some (some (4 * Int.toNat ((N:Int) - 1)+Int.toNat c))) p S zst).bind λ r76=>
   some (r76.1,r76.2.1,r76.2.2)) else(some (false,S,zst))) λ(v141,v142,v162)=>
   bif v141 then(some (some (some (4 * Int.toNat ((N:Int) - 1)+Int.toNat c)),v142,v162)) else(some (p,v142,v162)))))=some (p',S,zst)/\SelI k L a b W N S (c+1) p':=by
 unfold bindN
 rw[if_pos ⟨by omega,by omega⟩,if_pos ⟨h0,h1⟩]
 have hi:4 * Int.toNat ((N:Int) - 1)+Int.toNat c < S.length:=by omega
 have ei:4 * Int.toNat ((N:Int) - 1)+Int.toNat c=4 * (N - 1)+c.toNat:=by omega
 obtain⟨u,hu0,o1,o2⟩:=hI (N - 1) c (by omega) h0 h1
 rw[ei] at hi ⊢
 have hu:getG zst S (some (some (4 * (N - 1)+c.toNat)))=some u:=hu0
 have cw:∀ R,Way L W (N - 1) R->Cand k L a W N (frm L W N) 0 (N - 1) R:=λ R h=>.inl ⟨by omega,h⟩
 rw[bindG_eq hu]
 cases his:u.is_ with
 | false=>
  refine⟨p,rfl,?_⟩
  have no:∀ R,Way L W (N - 1) R->(lnR k L a R).class_ < c+1->(lnR k L a R).class_ < c:=λ R h1 h2=>by
   by_cases e:(lnR k L a R).class_=c
   ·exact absurd ⟨cw R h1,e⟩ (o1 his R)
   ·omega
  rcases hp with⟨e,h⟩ | ⟨i,v,R,e,h3,h4,h5,h6,h7⟩
  ·exact .inl ⟨e,λ R h1 h2=>h R h1 (no R h1 h2)⟩
  ·exact .inr ⟨i,v,R,e,h3,h4,h5,h6,λ R' g1 g2=>h7 R' g1 (no R' g1 g2)⟩
 | true=>
  obtain⟨R1,r1,⟨r2,r3⟩,r4⟩:=o2 his
  have hway:Way L W (N - 1) R1:=by
   rcases r2 with⟨_,h⟩ | ⟨h,_⟩
   ·exact h
   ·omega
  have hmin:∀ R,Way L W (N - 1) R->(lnR k L a R).class_=c->lx (key k L a b R) (key k L a b R1)=false:=λ R h1 h2=>r4 R ⟨cw R h1,h2⟩
  have hEm:S.isEmpty=false:=by cases S with | nil=>simp at hi | cons _ _=>rfl
  have hz:Into S zst:=λ j hj=>by cases hj
  have hd4:(4 * (N - 1)+c.toNat) / 4+1<=N:=by omega
  rcases hp with⟨rfl,h⟩ | ⟨i,v,R,rfl,h3,h4,h5,h6,h7⟩
  ·obtain⟨t,ht,t1,_⟩:=c32 k S zst u zst hEm hT hz (some (some (4 * (N - 1)+c.toNat))) (some none) (λ i h=>by cases h; exact hi) (λ i h=>by cases h) hu rfl R1 (r1.cp hu0) (λ hb=>by cases hb) hk
   have:=t1 rfl
   subst this
   rw[cond_true,ht]
   refine⟨_,rfl,.inr ⟨_,u,R1,rfl,hu0,r1,hway,hd4,λ R' g1 g2=>hmin R' g1 ?_⟩⟩
   have:=h R' g1
   omega
  ·obtain⟨t,ht,_,t2⟩:=c32 k S zst u v hEm hT hz (some (some (4 * (N - 1)+c.toNat))) (some (some i)) (λ i h=>by cases h; exact hi) (λ j h=>by cases h; exact(List.getElem?_eq_some_iff.1 h3).1) hu h3 R1 (r1.cp hu0) (λ _=>⟨R,h4.cp h3⟩) hk
   have ht2:=t2 h4.is R (h4.cp h3)
   rw[r1.kk,h4.kk] at ht2
   rw[cond_true,ht]
   cases t with
   | false=>
    refine⟨_,rfl,.inr ⟨i,v,R,rfl,h3,h4,h5,h6,λ R' g1 g2=>?_⟩⟩
    by_cases e:(lnR k L a R').class_=c
    ·exact le_tr _ _ _ ht2.symm (hmin R' g1 e)
    ·exact h7 R' g1 (by omega)
   | true=>
    refine⟨_,rfl,.inr ⟨_,u,R1,rfl,hu0,r1,hway,hd4,λ R' g1 g2=>?_⟩⟩
    by_cases e:(lnR k L a R').class_=c
    ·exact hmin R' g1 e
    ·exact le_tr _ _ _ (lx_asym _ _ ht2.symm) (h7 R' g1 (by omega))
theorem c11 (k:Nat) (L:List GItem) (a b:Int) (m:GMeter) (hm:Much m) (m1:m.steps_now=0) (m2:m.cells_now=0) (m3:m.cells_peak=0) (hk:4 * L.length+10 < k) :
  ∃ r,F11 k m L a b=some r/\((r.2.2.1.kind≠0/\r.1=[]/\r.2.1=GCost.mk 0 0 0/\(r.2.2.1.kind=1/\r.2.2.1.at_=0\/r.2.2.1.kind=150)) \/
   (r.2.2.1.kind=0/\(1<=a/\a<=536870912)/\(0<=b/\b<=10000)/\∃ W,F18 k L=some W/\WOK k L W /\
    ((L=[]/\W=[]/\r.1=[]/\r.2.1=GCost.mk 0 0 0)\/(0 < W.length/\∃ R,r.1=R.reverse/\Way L W (W.length - 1) R/\r.2.1=GCost.mk (cB k L a b R) (cT k L a R) R.length/\∀ R',Way L W (W.length - 1) R'->lx (key k L a b R') (key k L a b R)=false)))):=by
 obtain⟨c,hc,hg⟩:=t64 k L (by omega)
 unfold F11
 rw[hc,Option.bind_some]
 obtain⟨v1,hv1,hv2⟩:∃ v,(bif c != 0 then(some true) else(Option.bind (α:=Bool) (bif decide (a < 1) then(some true) else(Option.bind (α:=Bool) (bif decide (a > 536870912) then(some true) else(Option.bind (α:=Bool) (bif decide (b < 0) then(some true) else(some (decide (b > 10000)))) λ(v4:Bool)=>some v4)) λ(v3:Bool)=>some v3)) λ(v2:Bool)=>some v2):Option Bool)=some v/\(v=false->c=0/\(1<=a/\a<=536870912)/\(0<=b/\b<=10000)):=by
  refine exC (λ _=>⟨_,rfl,λ e=>by cases e⟩) λ h1=>exB (P:=λ v=>v=false->(1<=a/\a<=536870912)/\(0<=b/\b<=10000)) (exC (λ _=>⟨_,rfl,λ e=>by cases e⟩) λ h2=>exB (P:=λ v=>v=false->a<=536870912/\(0<=b/\b<=10000)) (exC (λ _=>⟨_,rfl,λ e=>by cases e⟩) λ h3=>exB (P:=λ v=>v=false->(0<=b/\b<=10000)) (exC (λ _=>⟨_,rfl,λ e=>by cases e⟩) λ h4=>⟨_,rfl,λ e=>?_⟩) λ v hv=>⟨v,rfl,λ e=>⟨?_,hv e⟩⟩) λ v hv=>⟨v,rfl,λ e=>⟨⟨?_,(hv e).1⟩,(hv e).2⟩⟩) λ v hv=>⟨v,rfl,λ e=>⟨?_,hv e⟩⟩
  ·have:=of_decide_eq_false h4
   have:=of_decide_eq_false e
   omega
  ·have:=of_decide_eq_false h3; omega
  ·have:=of_decide_eq_false h2; omega
  ·simpa using h1
 rw[hv1,Option.bind_some]
 cases v1 with
 | true=>exact⟨_,rfl,.inl ⟨by show(1:Int)≠0; decide,rfl,rfl,.inl ⟨rfl,rfl⟩⟩⟩
 | false=>
  obtain⟨hc0,ha,hb⟩:=hv2 rfl
  subst hc0
  obtain⟨A,b1,b2,hw⟩:=wok_of k L hc (by omega)
  have hl:=hw.len
  have hmn:=hw.many
  rw[cond_false,b1,Option.bind_some,b2,Option.bind_some]
  simp only
  by_cases h1:(A.length:Int) > 1024
  ·rw[decide_eq_true h1,cond_true]
   obtain⟨y,hy⟩:=at_of (L:=L) (i:=0) (by omega) (by omega)
   rw[bindI_eq (by omega) hy]
   exact⟨_,rfl,.inl ⟨by show(150:Int)≠0; decide,rfl,rfl,.inr rfl⟩⟩
  rw[decide_eq_false h1,cond_false]
  by_cases h2:L.length=0
  ·have hA:A=[]:=List.eq_nil_of_length_eq_zero (by omega)
   subst hA
   rw[show((L.length:Int) == 0)=true by rw[h2]; rfl,cond_true]
   exact⟨_,rfl,.inr ⟨rfl,ha,hb,[],rfl,hw,.inl ⟨List.eq_nil_of_length_eq_zero h2,rfl,rfl,rfl⟩⟩⟩
  rw[show((L.length:Int) == 0)=false by rw[beq_eq_false_iff_ne]; omega,cond_false]
  have hA:0 < A.length:=by
   obtain⟨y,y1,y2⟩:=chk_last k L hl hc (by omega)
   exact List.length_pos_of_mem (hw.all (L.length - 1) (by omega) (frc_legal k L _ y y1 y2))
  have s:Set1 k L A a A.length:=⟨hw,by omega,ha.1,ha.2,rfl⟩
  obtain⟨n1,c1,c2,c3,c4,c5⟩:=t11_l1 k (A,A) (by show A.length<=_; omega) k 0 m (by omega) (by show(0:Int)<=4 * A.length; omega) (by show 4 * (A.length:Int) - 0 < k; omega) hm m2 m3
  simp only at c1 c3 c4
  rw[c1]
  simp only[Option.bind_some,Sum.elim_inl]
  unfold bindMk
  rw[if_pos ⟨by omega,by omega,by omega⟩]
  obtain⟨n2,S,d1,d2,d3,d4,d5,d6,d7,d8⟩:=c11_l2 (b:=b) (A,A) s (by omega) (by omega) k 0 n1 (List.replicate (Int.toNat (A.length:Int) * 4) zst) (by omega) (by omega) c2 (by omega) (by rw[List.length_replicate]; omega) (λ i y j e1 e2=>by
   have:=List.eq_of_mem_replicate (List.mem_of_getElem? e1)
   subst this; cases e2) (λ m c hm h0 h1=>⟨zst,by rw[List.getElem?_replicate,if_pos (by omega)],λ _ R=>(by
    rintro⟨⟨h,_⟩ | ⟨_,h⟩,_⟩
    ·omega
    ·exact s.none (by omega) h),λ e=>(by cases e)⟩)
  have d1':F11_l2 k (A,A) k 0 n1 L a b A (List.replicate (Int.toNat (A.length:Int) * 4) (Gstate.mk false 0 0 0 0 0 0 0 0 0 0 0 0 false false false 0 0 none))=some (.inl (n2,L,a,b,A,S)):=d1
  rw[d1']
  simp only[Option.bind_some,Sum.elim_inl]
  rw[w_id (n:=4 * (A.length:Int)) (by omega) (by omega),w_id (n:=(A.length:Int) - 1) (by omega) (by omega),show Int.toNat (A.length:Int)=A.length by omega]
  obtain⟨b',n3,e1,e2,e3,e4,e5⟩:=t31 k n2 (4 * (A.length:Int)) d2 (by omega) (by omega) (by omega)
  rw[e1]
  simp only[Option.bind_some]
  have cl:∀ R,Way L A (A.length - 1) R->Cls (lnR k L a R):=λ R h=>s.cls (by omega) h
  obtain⟨p1,f1,f2⟩:=csel s 0 S (some none) d6 hA (by decide) (by decide) d7 (by omega) d8 (.inl ⟨rfl,λ R h=>by have:=(cl R h).1; omega⟩)
  obtain⟨p2,g1,g2⟩:=csel s 1 S p1 d6 hA (by decide) (by decide) d7 (by omega) d8 f2
  obtain⟨p3,i1,i2⟩:=csel s 2 S p2 d6 hA (by decide) (by decide) d7 (by omega) d8 g2
  obtain⟨p4,j1,j2⟩:=csel s 3 S p3 d6 hA (by decide) (by decide) d7 (by omega) d8 i2
  obtain⟨R0,hR0⟩:=way_ex L A (A.length - 1)
  obtain⟨i,u,R,rfl,hu,hrep,hway,hi4,hmin⟩:∃ (i:Nat) (u:Gstate) (R:List Int),p4=some (some i)/\S[i]? = some u/\Rep k L a b S u R/\Way L A (A.length - 1) R/\i / 4+1<=A.length/\∀ R',Way L A (A.length - 1) R'->lx (key k L a b R') (key k L a b R)=false:=by
   rcases j2 with⟨_,h⟩ | ⟨i,u,R,h1,h2,h3,h4,h5,h6⟩
   ·exact absurd (cl R0 hR0).2 (h R0 hR0)
   ·exact⟨i,u,R,h1,h2,h3,h4,h5,λ R' h=>h6 R' h (cl R' h).2⟩
  simp only[zst] at f1 g1 i1 j1
  erw [f1]
  simp only[Option.bind_some]
  erw [g1]
  simp only[Option.bind_some]
  erw [i1]
  simp only[Option.bind_some]
  erw [j1]
  simp only[Option.bind_some]
  have hIn:InS S (some (some i)):=λ j e=>by cases e; exact(List.getElem?_eq_some_iff.1 hu).1
  have o1:=c11_l3 k S zst d7 rfl k [] (some (some i)) R hIn (hrep.cp hu) (by show i / 4+1 < k; omega) (by show 0+(i / 4+1)<=100000; omega)
  simp only[zst,List.nil_append] at o1
  rw[o1]
  simp only[Option.bind_some]
  have o3:R.reverse.length<=A.length:=by rw[List.length_reverse]; have:=hway.len; omega
  unfold bindRev
  rw[if_pos (by rw[List.length_reverse] at o3; omega)]
  obtain⟨n4,q1,q2,q3,q4,q5⟩:=t11_l4 k R.reverse (by omega) k 0 n3 (by omega) (by omega) (by omega) e2 e3 (by omega)
  show ∃ r,(F11_l4 k R.reverse k 0 n3).bind _=some r/\_
  rw[q1]
  have hy:getG zst S (some (some i))=some u:=hu
  simp only[zst] at hy
  simp only[Option.bind_some,Sum.elim_inl,bindG_eq hy]
  refine⟨_,rfl,.inr ⟨rfl,ha,hb,A,rfl,hw,.inr ⟨hA,R,rfl,hway,?_,hmin⟩⟩⟩
  rw[hrep.bad,hrep.tot,hrep.lns]
def Fwd (k:Nat) (L:List GItem):Int->List Int->Prop
 | f,[]=>∀ (s:Nat) (y:GItem),f < s->L[s]? = some y->frc y=false
 | f,t :: A=>f < t/\t < (L.length:Int)/\F71 k L t=some true/\Free L f t/\Fwd k L t A
theorem Fwd.len {k:Nat} {L:List GItem} : ∀ (A:List Int) (f:Int),f < L.length->Fwd k L f A->(A.length:Int)<=L.length - 1 - f
 | [],f,hf,_=>by simp; omega
 | t :: A,f,hf,h=>by
  obtain⟨h1,h2,_,_,h5⟩:=h
  have:=Fwd.len A t h2 h5
  rw[List.length_cons]
  omega
section
variable {k:Nat} {L:List GItem} {W:List Int}
theorem last_of (h:WOK k L W) (h0:0 < L.length):0 < W.length/\W.getD (W.length - 1) 0=(L.length:Int) - 1/\∃ y,L[L.length - 1]? = some y/\frc y=true:=by
 obtain⟨y,y1,y2⟩:=chk_last k L h.len h.chk h0
 have hm:=h.all (L.length - 1) (by omega) (frc_legal k L _ y y1 y2)
 have hW:=List.length_pos_of_mem hm
 refine⟨hW,?_,y,y1,y2⟩
 obtain⟨n,hn,e⟩:=h.at hm
 obtain⟨q0,q1⟩:=h.inn _ (getD_mem (W:=W) (n:=W.length - 1) (by omega)).2
 by_cases e':n=W.length - 1
 ·subst e'; rw[e]; omega
 ·have:=h.lt (i:=n) (j:=W.length - 1) (by omega) (by omega)
  omega
theorem way_fwd (h:WOK k L W) {m:Nat} {R A:List Int} (hw:Way L W m R) (hm:m < W.length) (hA:Fwd k L (W.getD m 0) A):Fwd k L (-1) (R.reverse++A):=by
 induction hw generalizing A with
 | @one n h1=>
  have hi:=(getD_mem hm).2
  obtain⟨q0,q1⟩:=h.inn _ hi
  exact⟨by omega,q1,h.leg _ hi,free_frm h (.inl ⟨rfl,h1⟩) hm,hA⟩
 | @more n m R h1 h2 hR ih=>
  have hi:=(getD_mem hm).2
  obtain⟨q0,q1⟩:=h.inn _ hi
  rw[List.reverse_cons,List.append_assoc]
  exact ih (by omega) ⟨h.lt h2 hm,q1,h.leg _ hi,free_frm h (.inr ⟨m,rfl,h1,h2⟩) hm,hA⟩
theorem frm_free (h:WOK k L W) {m:Nat} {f:Int} (hm:m < W.length) (hf : -1<=f) (hfr:Free L f (W.getD m 0)) (i:Nat) (hi:frm L W m=i):W.getD i 0<=f:=by
 have hlt:=(frm_lt L W m).2
 have hfat:=frm_fat L W m i hi
 obtain⟨q0,q1⟩:=h.inn _ (getD_mem (W:=W) (n:=i) (by omega)).2
 have:=h.lt (i:=i) (j:=m) (by omega) hm
 by_cases e:W.getD i 0<=f
 ·exact e
 ·exfalso
  unfold fat at hfat
  cases hy:L[(W.getD i 0).toNat]? with
  | none=>rw[hy] at hfat; cases hfat
  | some y=>
   rw[hy] at hfat
   have:=hfr (W.getD i 0).toNat y (by omega) (by omega) hy
   simp only at hfat
   rw[this] at hfat
   cases hfat
theorem fwd_way (h:WOK k L W) (h0:0 < L.length):∀ (A:List Int) (m:Nat) (R:List Int),m < W.length->Way L W m R->Fwd k L (W.getD m 0) A->Way L W (W.length - 1) (A.reverse++R)
 | [],m,R,hm,hw,hA=>by
  obtain⟨hW,hl,y,y1,y2⟩:=last_of h h0
  have e:m=W.length - 1:=by
   by_cases e:m=W.length - 1
   ·exact e
   ·have:=h.lt (i:=m) (j:=W.length - 1) (by omega) (by omega)
    have:=hA (L.length - 1) y (by omega) y1
    rw[this] at y2; cases y2
  subst e
  exact hw
 | t :: A,m,R,hm,hw,hA=>by
  obtain⟨h1,h2,h3,h4,h5⟩:=hA
  obtain⟨q0,q1⟩:=h.inn _ (getD_mem hm).2
  have ht:=h.all t.toNat (by omega) (by rw[show((t.toNat:Nat):Int)=t by omega]; exact h3)
  rw[show((t.toNat:Nat):Int)=t by omega] at ht
  obtain⟨n,hn,e⟩:=h.at ht
  subst e
  have hmn:=h.lt_of hm h1
  have hfr:frm L W n<=m:=by
   obtain⟨f1,f2⟩:=frm_lt L W n
   by_cases e:frm L W n = -1
   ·omega
   ·have:=frm_free h hn (by omega) h4 (frm L W n).toNat (by omega)
    by_cases e2:frm L W n<=m
    ·exact e2
    ·have:=h.lt (i:=m) (j:=(frm L W n).toNat) (by omega) (by omega)
     omega
  have:=fwd_way h h0 A n _ hn (.more hfr hmn hw) h5
  rw[List.reverse_cons,List.append_assoc]
  exact this
theorem fwd_iff (h:WOK k L W) (h0:0 < L.length) (A:List Int):Fwd k L (-1) A↔Way L W (W.length - 1) A.reverse:=by
 obtain⟨hW,hl,y,y1,y2⟩:=last_of h h0
 constructor
 ·intro hA
  cases A with
  | nil=>
   have:=hA (L.length - 1) y (by omega) y1
   rw[this] at y2; cases y2
  | cons t A=>
   obtain⟨h1,h2,h3,h4,h5⟩:=hA
   have ht:=h.all t.toNat (by omega) (by rw[show((t.toNat:Nat):Int)=t by omega]; exact h3)
   rw[show((t.toNat:Nat):Int)=t by omega] at ht
   obtain⟨n,hn,e⟩:=h.at ht
   subst e
   have hfr:frm L W n = -1:=by
    obtain⟨f1,f2⟩:=frm_lt L W n
    by_cases e:frm L W n = -1
    ·exact e
    ·have:=frm_free h hn (by omega) h4 (frm L W n).toNat (by omega)
     obtain⟨q0,q1⟩:=h.inn _ (getD_mem (W:=W) (n:=(frm L W n).toNat) (by omega)).2
     omega
   rw[List.reverse_cons]
   exact fwd_way h h0 A n [W.getD n 0] hn (.one hfr) h5
 ·intro hw
  have:=way_fwd (A:=[]) h hw (by omega) (λ s y hs hy=>by
   have:=(List.getElem?_eq_some_iff.1 hy).1
   omega)
  rwa [List.append_nil,List.reverse_reverse] at this
theorem c50_l1 (h:WOK k L W) (hk:L.length < k) (hk':(k:Int) < 9223372036854775807) (A:List Int) (hA:A.length<=100000):∀ (j i:Nat) (f:Int),i<=A.length->A.length < j+i -> -1<=f->f < L.length ->
  ∃ r,F50_l1 k L A j f i=some r/\((r=.inr false/\¬ Fwd k L f (A.drop i))\/∃ f',r=.inl f' /\ -1<=f'/\f' < L.length/\(Fwd k L f (A.drop i)↔Fwd k L f' []))
 | 0,i,f,h1,h2,_,_=>by omega
 | j+1,i,f,h1,h2,h3,h4=>by
  have hl:=h.len
  unfold F50_l1
  by_cases hi:i < A.length
  ·obtain⟨t,ht⟩:∃ t,A[i]? = some t:=⟨_,List.getElem?_eq_getElem hi⟩
   have hd:A.drop i=t :: A.drop (i+1):=by
    rw[List.drop_eq_getElem_cons hi]
    rw[List.getElem?_eq_getElem hi] at ht
    cases ht; rfl
   rw[decide_eq_true (show(i:Int) < (A.length:Int) by omega),cond_true,bindI_eq (by omega) (by rw[show((i:Int)).toNat=i by omega]; exact ht),hd]
   by_cases c1:t<=f
   ·rw[decide_eq_true c1]
    exact⟨_,rfl,.inl ⟨rfl,λ h=>by have:=h.1; omega⟩⟩
   rw[decide_eq_false c1,cond_false]
   by_cases c2:t>=(L.length:Int)
   ·rw[decide_eq_true c2]
    exact⟨_,rfl,.inl ⟨rfl,λ h=>by have:=h.2.1; omega⟩⟩
   rw[decide_eq_false c2,cond_false]
   obtain⟨g,hg⟩:=t68 k L t (by omega) (by omega) hl
   rw[hg]
   cases g with
   | false=>exact⟨_,rfl,.inl ⟨rfl,λ h=>by have:=h.2.2.1; rw[hg] at this; cases this⟩⟩
   | true=>
    simp only[Option.bind_some,Bool.not_true,cond_false]
    rw[w_id (n:=f+1) (by omega) (by omega)]
    unfold bindS
    rw[if_pos ⟨by omega,by omega,by omega⟩]
    dsimp only
    rw[x69 k _ (by simp; omega) (by simp; omega) hk']
    simp only[Option.bind_some]
    have hfr:=free_any (L:=L) (f:=f) (t:=t) h3
    cases hany:((L.take t.toNat).drop (f+1).toNat).any frc with
    | true=>
     rw[hany] at hfr
     exact⟨_,rfl,.inl ⟨rfl,λ h=>by have:=hfr.1 h.2.2.2.1; cases this⟩⟩
    | false=>
     rw[hany] at hfr
     rw[cond_false,w_id (by omega) (by omega),show(i:Int)+1=((i+1:Nat):Int) by omega]
     obtain⟨r,e1,e2⟩:=c50_l1 h hk hk' A hA j (i+1) t (by omega) (by omega) (by omega) (by omega)
     refine⟨r,e1,?_⟩
     have he:Fwd k L f (t :: A.drop (i+1))↔Fwd k L t (A.drop (i+1)):=⟨λ h=>h.2.2.2.2,λ h=>⟨by omega,by omega,hg,hfr.2 rfl,h⟩⟩
     rcases e2 with⟨e2,e3⟩ | ⟨f',e2,e3,e4,e5⟩
     ·exact .inl ⟨e2,λ h=>e3 (he.1 h)⟩
     ·exact .inr ⟨f',e2,e3,e4,he.trans e5⟩
  ·rw[decide_eq_false (show ¬ (i:Int) < (A.length:Int) by omega),cond_false]
   refine⟨_,rfl,.inr ⟨f,rfl,h3,h4,?_⟩⟩
   rw[List.drop_eq_nil_of_le (by omega)]
theorem c50 (h:WOK k L W) (hk:L.length < k) (hk':(k:Int) < 9223372036854775807) (A:List Int) (hA:A.length<=100000) (hAk:A.length < k):∃ r,F50 k L A=some r/\(r=true↔Fwd k L (-1) A):=by
 have hl:=h.len
 obtain⟨r,e1,e2⟩:=c50_l1 h hk hk' A hA k 0 (-1) (by omega) (by omega) (by omega) (by omega)
 unfold F50
 have e1':F50_l1 k L A k (-1) 0=some r:=e1
 rw[e1']
 rw[List.drop_zero] at e2
 rcases e2 with⟨rfl,e3⟩ | ⟨f',rfl,e3,e4,e5⟩
 ·exact⟨false,rfl,λ h=>(by cases h),λ h=>absurd h e3⟩
 ·simp only[Option.bind_some,Sum.elim_inl]
  rw[w_id (n:=f'+1) (by omega) (by omega)]
  unfold bindS
  rw[if_pos ⟨by omega,by omega,by omega⟩]
  dsimp only
  rw[x69 k _ (by simp; omega) (by simp; omega) hk']
  refine⟨_,rfl,?_⟩
  rw[e5]
  have hfr:=free_any (L:=L) (f:=f') (t:=L.length) e3
  have he:Fwd k L f' []↔Free L f' L.length:=⟨λ h s y h1 _ h3=>h s y h1 h3,λ h s y h1 h3=>h s y h1 (by have:=(List.getElem?_eq_some_iff.1 h3).1; omega) h3⟩
  rw[he,hfr]
  cases ((L.take ((L.length:Int)).toNat).drop (f'+1).toNat).any frc <;> simp
theorem c22_l1 {a b:Int} (h:WOK k L W) (hk:L.length < k) (ha:1<=a) (ha':a<=536870912) (A:List Int) (hA:A.length<=100000):∀ (j i:Nat) (P:List Int) (x:GLine),i<=A.length->A.length < j+i->P=(A.take i).reverse->x=lnR k L a P->(hd P>=0->hd P∈W) -> -1<=hd P->Fwd k L (hd P) (A.drop i) ->
  F22_l1 k L a b A j (hd P) i (GCost.mk (cB k L a b P) (cT k L a P) A.length) x.first x.last x.break_ x.natural x.stretch x.shrink x.short x.bad x.class_ x.over_ x.hyphen x.end_ x.height x.depth=some (GCost.mk (cB k L a b A.reverse) (cT k L a A.reverse) A.length)
 | 0,i,P,x,h1,h2,_,_,_,_,_=>by omega
 | j+1,i,P,x,h1,h2,hP,hx,hm,h0,hF=>by
  have hl:=h.len
  unfold F22_l1
  by_cases hi:i < A.length
  ·obtain⟨t,ht⟩:∃ t,A[i]? = some t:=⟨_,List.getElem?_eq_getElem hi⟩
   have hd':A.drop i=t :: A.drop (i+1):=by
    rw[List.drop_eq_getElem_cons hi]
    rw[List.getElem?_eq_getElem hi] at ht
    cases ht; rfl
   rw[hd'] at hF
   obtain⟨g1,g2,g3,g4,g5⟩:=hF
   have htW:=h.all t.toNat (by omega) (by rw[show((t.toNat:Nat):Int)=t by omega]; exact g3)
   rw[show((t.toNat:Nat):Int)=t by omega] at htW
   obtain⟨r,f1,f2,f3,f4,f5,f6⟩:=h59 (legal_of (a:=a) h hk ha ha' h0 htW g1 hm g4) hk
   have hlr:lnR k L a (t :: P)=r:=by
    show((F59 k L a (hd P) t).getD (noL,0)).1=r
    rw[f2]; rfl
   have hPl:P.length=i:=by rw[hP,List.length_reverse,List.length_take]; omega
   have q1:=cB_bd k L a b P
   have q2:=cT_bd k L a P
   have q3:=bd_bd b r
   obtain⟨q4,q5⟩:=dm_eq k L x r
   unfold Bd at q5
   obtain⟨v,hv,hv'⟩:∃ v,(bif r.over_ then(some true) else(some (decide (r.bad > b))):Option Bool)=some v/\(bif v then(some (w (cB k L a b P+1))) else(some (cB k L a b P)):Option Int)=some (cB k L a b (t :: P)):=by
    rw[show cB k L a b (t :: P)=bd b (lnR k L a (t :: P))+cB k L a b P from rfl,hlr,w_id (by omega) (by omega)]
    unfold bd
    cases r.over_ with
    | true=>exact⟨_,rfl,by show some _=some (1+_); rw[Int.add_comm]⟩
    | false=>
     cases decide (r.bad > b) with
     | true=>exact⟨_,rfl,by show some _=some (1+_); rw[Int.add_comm]⟩
     | false=>exact⟨_,rfl,by show some _=some (0+_); rw[Int.zero_add]⟩
   have hT:w (cT k L a P+dm k L x r)=cT k L a (t :: P):=by
    rw[show cT k L a (t :: P)=cT k L a P+dm k L (lnR k L a P) (lnR k L a (t :: P)) from rfl,hlr,<- hx,w_id (by omega) (by omega)]
   rw[decide_eq_true (show(i:Int) < (A.length:Int) by omega),cond_true,bindI_eq (by omega) (by rw[show((i:Int)).toNat=i by omega]; exact ht),f1,Option.bind_some,hv,Option.bind_some,hv',Option.bind_some]
   have q4':F52 k L (GLine.mk x.first x.last x.break_ x.natural x.stretch x.shrink x.short x.bad x.class_ x.over_ x.hyphen x.end_ x.height x.depth) r=some (dm k L x r):=q4
   rw[q4',Option.bind_some,hT,w_id (n:=(i:Int)+1) (by omega) (by omega),show(i:Int)+1=((i+1:Nat):Int) by omega]
   exact c22_l1 h hk ha ha' A hA j (i+1) (t :: P) r (by omega) (by omega) (by
    rw[List.take_add_one,ht,List.reverse_append,hP]; rfl) hlr.symm (λ _=>htW) (by show -1<=t; omega) g5
  ·rw[decide_eq_false (show ¬ (i:Int) < (A.length:Int) by omega),cond_false]
   rw[hP,List.take_of_length_le (by omega)]
theorem c22 {a b:Int} (h:WOK k L W) (hk:L.length < k) (hk':(k:Int) < 9223372036854775807) (ha:1<=a) (ha':a<=536870912) (hb:0<=b) (hb':b<=10000) (A:List Int) (hA:A.length<=100000) (hAk:A.length < k) :
  (Fwd k L (-1) A->F22 k L a b A=some (GCost.mk (cB k L a b A.reverse) (cT k L a A.reverse) A.length,0))/\(¬ Fwd k L (-1) A->F22 k L a b A=some (GCost.mk 0 0 0,1)):=by
 obtain⟨r,h1,h2⟩:=c50 h hk hk' A hA hAk
 unfold F22
 rw[h.chk,Option.bind_some,decide_eq_false (show ¬ a < 1 by omega),decide_eq_false (show ¬ a > 536870912 by omega),decide_eq_false (show ¬ b < 0 by omega),decide_eq_false (show ¬ b > 10000 by omega),h1]
 constructor
 ·intro hF
  have:=h2.2 hF
  subst this
  have e:=c22_l1 (b:=b) h hk ha ha' A hA k 0 [] noL (by omega) (by omega) rfl rfl (λ h=>by cases h) (by show(-1:Int) <= -1; omega) hF
  have e':F22_l1 k L a b A k (-1) 0 (GCost.mk 0 0 (A.length:Int)) (-1) 0 0 0 0 0 0 0 0 false false false 0 0=some (GCost.mk (cB k L a b A.reverse) (cT k L a A.reverse) A.length):=e
  show(Option.bind (F22_l1 k L a b A k (-1) 0 (GCost.mk 0 0 (A.length:Int)) (-1) 0 0 0 0 0 0 0 0 false false false 0 0) λ v9=>some (v9,0))=_
  rw[e']
  rfl
 ·intro hF
  have:r=false:=by
   cases r with
   | true=>exact absurd (h2.1 rfl) hF
   | false=>rfl
  subst this
  rfl
end
theorem c24_l1 (k:Nat) (A B:List Int) (hAB:A.length=B.length) (hA:A.length<=100000):∀ (j n:Nat),n<=A.length->n < j->∃ r,F24_l1 k A B j ((n:Int) - 1)=some r/\Sum.elim (λ _=>false) id r=lx (A.take n).reverse (B.take n).reverse
 | 0,n,_,h=>by omega
 | j+1,0,h1,h2=>by
  unfold F24_l1
  rw[show decide (((0:Nat):Int) - 1>=0)=false from rfl]
  exact⟨_,rfl,rfl⟩
 | j+1,n+1,h1,h2=>by
  unfold F24_l1
  have e:((n+1:Nat):Int) - 1=n:=by omega
  rw[e,decide_eq_true (show(n:Int)>=0 by omega),decide_eq_true (show(n:Int) < (B.length:Int) by omega)]
  obtain⟨x,hx⟩:∃ x,A[n]? = some x:=⟨_,List.getElem?_eq_getElem (by omega)⟩
  obtain⟨y,hy⟩:∃ y,B[n]? = some y:=⟨_,List.getElem?_eq_getElem (by omega)⟩
  have hA':∀ {β:Type} (f:Int->Option β),bindI A n f=f x:=λ f=>bindI_eq (by omega) (by rw[show((n:Int)).toNat=n by omega]; exact hx)
  have hB':∀ {β:Type} (f:Int->Option β),bindI B n f=f y:=λ f=>bindI_eq (by omega) (by rw[show((n:Int)).toNat=n by omega]; exact hy)
  rw[List.take_add_one,hx,List.reverse_append,List.take_add_one,hy,List.reverse_append]
  show ∃ r,(bindI A n λ y5=>bindI B n λ y6=>bif y5 != y6 then(bindI A n λ y7=>bindI B n λ y8=>some (.inr (decide (y7 < y8)))) else(F24_l1 k A B j (w ((n:Int) - 1))))=some r/\_=lx (x :: (A.take n).reverse) (y :: (B.take n).reverse)
  simp only[hA',hB']
  rcases Int.lt_trichotomy x y with h | h | h
  ·rw[show(x != y)=true from bne_iff_ne.mpr (by omega),cond_true,decide_eq_true h,lx_lt h]
   exact⟨_,rfl,rfl⟩
  ·subst h
   rw[show(x != x)=false by simp,cond_false,w_id (by omega) (by omega),lx_eq]
   exact c24_l1 k A B hAB hA j n (by omega) (by omega)
  ·rw[show(x != y)=true from bne_iff_ne.mpr (by omega),cond_true,decide_eq_false (by omega),lx_gt h]
   exact⟨_,rfl,rfl⟩
theorem c24 (k:Nat) (L:List GItem) (a b:Int) (A B:List Int) (hA:A.length<=100000) (hk:A.length < k) :
  F24 k (GCost.mk (cB k L a b A.reverse) (cT k L a A.reverse) A.length) A (GCost.mk (cB k L a b B.reverse) (cT k L a B.reverse) B.length) B=some (lx (key k L a b A.reverse) (key k L a b B.reverse)):=by
 unfold F24 key
 rw[List.length_reverse,List.length_reverse]
 simp only
 generalize cB k L a b A.reverse=x1
 generalize cB k L a b B.reverse=y1
 generalize cT k L a A.reverse=x2
 generalize cT k L a B.reverse=y2
 have ne:∀ {x y:Int},x≠y->(x != y)=true:=λ h=>bne_iff_ne.mpr h
 have lt:∀ {x y:Int} {u v:List Int},x≠y->lx (x :: u) (y :: v)=decide (x < y):=λ {x y u v} h=>by
  rcases Int.lt_trichotomy x y with h1 | h1 | h1
  ·rw[lx_lt h1,decide_eq_true h1]
  ·exact absurd h1 h
  ·rw[lx_gt h1,decide_eq_false (by omega)]
 by_cases h1:x1=y1
 ·subst h1
  rw[show(x1 != x1)=false by simp,cond_false,lx_eq]
  by_cases h2:x2=y2
  ·subst h2
   rw[show(x2 != x2)=false by simp,cond_false,lx_eq]
   by_cases h3:(A.length:Int)=B.length
   ·rw[show((A.length:Int) != (B.length:Int))=false by rw[h3]; simp,cond_false,h3,lx_eq,<- h3]
    obtain⟨r,e1,e2⟩:=c24_l1 k A B (by omega) hA k A.length (by omega) hk
    rw[w_id (by omega) (by omega),e1,List.take_of_length_le (by omega),List.take_of_length_le (by omega)] at *
    cases r with
    | inl u=>rw[<- e2]; rfl
    | inr u=>rw[<- e2]; rfl
   ·rw[ne h3,cond_true,lt h3]
  ·rw[ne h2,cond_true,lt h2]
 ·rw[ne h1,cond_true,lt h1]
theorem best (k:Nat) (L:List GItem) (a b:Int) (m:GMeter) (hm:Much m) (m1:m.steps_now=0) (m2:m.cells_now=0) (m3:m.cells_peak=0) (hk:4 * L.length+10 < k) :
  ∃ r,F11 k m L a b=some r/\((r.2.2.1.kind≠0/\r.1=[]/\r.2.1=GCost.mk 0 0 0/\(r.2.2.1.kind=1/\r.2.2.1.at_=0\/r.2.2.1.kind=150)) \/
   (r.2.2.1.kind=0/\(1<=a/\a<=536870912)/\(0<=b/\b<=10000)/\∃ W,F18 k L=some W/\WOK k L W/\Fwd k L (-1) r.1/\r.2.1=GCost.mk (cB k L a b r.1.reverse) (cT k L a r.1.reverse) r.1.length/\∀ A,Fwd k L (-1) A->lx (key k L a b A.reverse) (key k L a b r.1.reverse)=false)):=by
 obtain⟨r,hr,h⟩:=c11 k L a b m hm m1 m2 m3 hk
 refine⟨r,hr,?_⟩
 rcases h with h | ⟨h1,h2,h3,W,hW,hw,h⟩
 ·exact .inl h
 ·refine .inr ⟨h1,h2,h3,W,hW,hw,?_⟩
  rcases h with⟨e1,e2,e3,e4⟩ | ⟨h0,R,e1,e2,e3,e4⟩
  ·rw[e3,e4]
   subst e1
   refine⟨λ s y _ hy=>by simp at hy,rfl,λ A hA=>?_⟩
   cases A with
   | nil=>exact lx_irr _
   | cons t A=>have h1:=hA.1; have h2:=hA.2.1; simp at h2; omega
  ·have hL:0 < L.length:=by have:=hw.many; omega
   rw[e1,List.reverse_reverse,List.length_reverse]
   exact⟨(fwd_iff hw hL _).2 (by rw[List.reverse_reverse]; exact e2),e3,λ A hA=>e4 _ ((fwd_iff hw hL A).1 hA)⟩
theorem great15 (k:Nat):∃ m,F15 k=some m/\Much m/\m.steps_now=0/\m.cells_now=0/\m.cells_peak=0:=⟨GMeter.mk 0 0 1152921504606846976 0 0 1152921504606846976 0,rfl,⟨rfl,rfl,rfl,by decide,by decide⟩,rfl,rfl,rfl⟩
end
end Go.Eng.Lift
