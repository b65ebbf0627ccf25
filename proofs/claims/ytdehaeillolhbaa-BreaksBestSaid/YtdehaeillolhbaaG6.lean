/- aG6 -/
import Derived.Test.YtdehaeillolhbaaX9b
import Derived.Test.YtdehaeillolhbaaG1
set_option linter.unusedVariables false
set_option linter.unusedSimpArgs false
set_option maxRecDepth 10000
namespace Go.cy.jV
open Go.Proofs
noncomputable section
theorem cj {n:Int} (B : -9223372036854775808<=n) (D:n < 9223372036854775808):w n=n:=by
 unfold w
 first | (rw[wrap64]; omega) | (simp[IntKind.wrap,IntKind.signed,IntKind.bits]; omega)
theorem aQ {α β:Type} {L:List α} {i:Int} {f:α->Option β} {y:α} (h:0<=i) (hy:L[i.toNat]? = some y):bp L i f=f y:=by
 unfold bp;rw[if_pos h,hy]; rfl
theorem eV {α:Type} {L:List α} {i:Int} (h:0<=i) (D:i < L.length):∃ y,L[i.toNat]? = some y:=⟨_,List.getElem?_eq_getElem (by omega)⟩
theorem SM (k:Nat) (a b c:Int):FW k a b c=some (decide (b<=a) && decide (a<=c)):=by
 unfold FW;cases decide (b<=a) <;> rfl
theorem adV (k:Nat) (x:au):∃ r,QY k x=some r/\(r=true->0<=x.aB/\x.aB<=1099511627776):=by
 unfold QY;simp only[SM,Option.bind_some];cases B:(decide (1<=x.size) && decide (x.size<=67108864)) with
 | false=>exact⟨false,rfl,λ h=>by cases h⟩
 | true=>
  cases D:(decide (0<=x.aB) && decide (x.aB<=1099511627776)) with
  | false=>exact⟨false,rfl,λ h=>by cases h⟩
  | true=>
   have V:0<=x.aB/\x.aB<=1099511627776:=by simpa using D
   cases h4:(decide (0<=x.aD) && decide (x.aD<=1099511627776)) with
   | false=>exact⟨false,rfl,λ h=>by cases h⟩
   | true=>exact⟨_,rfl,λ _=>V⟩
theorem adW (k:Nat) (a:Int):∃ r,Sh k a=some r:=by
 unfold Sh;cases decide (a < 0) with
 | true=>exact⟨_,rfl⟩
 | false=>
 cases decide (a<=127) with
 | true=>exact⟨_,rfl⟩
 | false=>
 cases decide (a<=2047) with
 | true=>exact⟨_,rfl⟩
 | false=>
 cases decide (55296<=a) <;> cases decide (a<=57343) <;> cases decide (a<=65535) <;> cases decide (a<=1114111) <;> exact⟨_,rfl⟩
theorem adX (k:Nat) (a:Int):∃ r,Si k a=some r:=by
 unfold Si;obtain⟨r,hr⟩:=adW k (Bz a);rw[hr];cases decide (a < 0) <;> simp only[cond_true,cond_false,Option.bind_some]
 ·cases decide (a > 1114111) <;> simp only[cond_true,cond_false,Option.bind_some]
  ·cases decide (a>=55296) <;> simp only[cond_true,cond_false,Option.bind_some]
   ·exact⟨_,rfl⟩
   ·cases decide (a<=57343) <;> exact⟨_,rfl⟩
  ·exact⟨_,rfl⟩
 ·exact⟨_,rfl⟩
structure mg (a b c:au):Prop where
 box:a.aM=1->0<=a.aB/\a.aB<=1099511627776
 adY:a.aM=2->b.aM=1/\c.aM=1/\w (0 - (if c.aB < b.aB then c.aB else b.aB))<=a.aB/\a.aB<=1099511627776
 PJ:a.aM=3->(0<=a.aB/\a.aB<=67108864)/\(0<=a.aw/\a.aw<=67108864)/\0<=a.aF/\a.aF<=a.aB
 ZA:a.aM=4->0<=a.aB/\a.aB<=1099511627776
 val:a.aM=4 -> -10000<=a.value
theorem t91 (k:Nat) (a b c:au):∃ r,OC k a b c=some r/\(r=true->mg a b c):=by
 obtain⟨q,hq,gT⟩:=adV k a;obtain⟨u,hu⟩:=adX k a.dc;unfold OC;simp only[SM,hq,hu,Option.bind_some];cases B:(a.aM == 1) with
 | true=>
  have e:a.aM=1:=eq_of_beq B;cases q with
  | false=>exact⟨false,rfl,λ h=>by cases h⟩
  | true=>
   have:=gT rfl;have aa:mg a b c:=⟨λ _=>this,λ h=>by omega,λ h=>by omega,λ h=>by omega,λ h=>by omega⟩
   cases decide (u > 0) with
   | false=>exact⟨false,rfl,λ h=>by cases h⟩
   | true=>exact⟨_,rfl,λ _=>aa⟩
 | false=>
 cases D:(a.aM == 2) with
 | true=>
  have e:a.aM=2:=eq_of_beq D;cases V:(b.aM == 1) with
  | false=>exact⟨false,rfl,λ h=>by cases h⟩
  | true=>
  cases h4:(c.aM == 1) with
  | false=>exact⟨false,rfl,λ h=>by cases h⟩
  | true=>
  cases h5:(a.aB != 0) with
  | false=>exact⟨false,rfl,λ h=>by cases h⟩
  | true=>
  cases h6:(decide (w (0 - (if c.aB < b.aB then c.aB else b.aB))<=a.aB) && decide (a.aB<=1099511627776)) with
  | false=>exact⟨false,rfl,λ h=>by cases h⟩
  | true=>
   have h7:w (0 - (if c.aB < b.aB then c.aB else b.aB))<=a.aB/\a.aB<=1099511627776:=by simpa using h6
   have aa:mg a b c:=⟨λ h=>by omega,λ _=>⟨eq_of_beq V,eq_of_beq h4,h7⟩,λ h=>by omega,λ h=>by omega,λ h=>by omega⟩
   exact⟨_,rfl,λ _=>aa⟩
 | false=>
 cases V:(a.aM == 3) with
 | true=>
  have e:a.aM=3:=eq_of_beq V;cases h4:(decide (1<=a.size) && decide (a.size<=67108864)) with
  | false=>exact⟨false,rfl,λ h=>by cases h⟩
  | true=>
  cases h5:(decide (0<=a.aB) && decide (a.aB<=67108864)) with
  | false=>exact⟨false,rfl,λ h=>by cases h⟩
  | true=>
  cases h6:(decide (0<=a.aw) && decide (a.aw<=67108864)) with
  | false=>exact⟨false,rfl,λ h=>by cases h⟩
  | true=>
  cases h7:(decide (0<=a.aF) && decide (a.aF<=a.aB)) with
  | false=>exact⟨false,rfl,λ h=>by cases h⟩
  | true=>
   have h5':0<=a.aB/\a.aB<=67108864:=by simpa using h5
   have h6':0<=a.aw/\a.aw<=67108864:=by simpa using h6
   have VA:0<=a.aF/\a.aF<=a.aB:=by simpa using h7
   have aa:mg a b c:=⟨λ h=>by omega,λ h=>by omega,λ _=>⟨h5',h6',VA⟩,λ h=>by omega,λ h=>by omega⟩
   exact⟨_,rfl,λ _=>aa⟩
 | false=>
 cases h4:(a.aM == 4) with
 | true=>
  have e:a.aM=4:=eq_of_beq h4;cases hv:(decide (-10000<=a.value) && decide (a.value<=10000)) with
  | false=>cases hf:a.cR <;> exact⟨false,rfl,λ h=>by cases h⟩
  | true=>
  have tj : -10000<=a.value:=(show -10000<=a.value/\a.value<=10000 by simpa using hv).1;cases hf:a.cR with
  | false=>
   refine⟨_,rfl,λ h=>?_⟩;simp only[Bool.and_eq_true,beq_iff_eq] at h;have hw:a.aB=0:=h.2.2.2.2.1;exact⟨λ h=>by omega,λ h=>by omega,λ h=>by omega,λ _=>by omega,λ _=>tj⟩
  | true=>
  cases q with
  | false=>exact⟨false,rfl,λ h=>by cases h⟩
  | true=>
   have:=gT rfl;have aa:mg a b c:=⟨λ h=>by omega,λ h=>by omega,λ h=>by omega,λ _=>this,λ _=>tj⟩
   cases hr:(a.dc == 45) with
   | false=>exact⟨false,rfl,λ h=>by cases h⟩
   | true=>
    cases decide (a.value > -10000) with
    | false=>exact⟨false,rfl,λ h=>by cases h⟩
    | true=>exact⟨_,rfl,λ _=>aa⟩
 | false=>exact⟨false,rfl,λ h=>by cases h⟩
def cH (L:List au) (i:Nat):au:=if 0 < i then(L[i - 1]?).getD (au.mk 0 ByteArray.empty 0 0 0 0 0 0 0 0 false 0 0) else au.mk 0 ByteArray.empty 0 0 0 0 0 0 0 0 false 0 0
def cE (L:List au) (i:Nat):au:=(L[i+1]?).getD (au.mk 0 ByteArray.empty 0 0 0 0 0 0 0 0 false 0 0)
theorem GP (k:Nat) (L:List au) (hl:L.length<=4096):∀ (j:Nat) (v:Int) (i:Nat),i<=L.length->L.length < j+i ->
  ∃ r,jn k L j v i=some r/\(r=.inl ()->∀ t y,i<=t->L[t]? = some y->mg y (cH L t) (cE L t))
 | 0,v,i,B,D=>by omega
 | j+1,v,i,B,D=>by
  unfold jn;cases hc:decide ((i:Int) < (L.length:Int)) with
  | false=>
   have:¬ (i:Int) < L.length:=of_decide_eq_false hc;refine⟨.inl (),rfl,λ _ t y ht hy=>?_⟩;have:=ax hy;omega
  | true=>
   have N:(i:Int) < L.length:=of_decide_eq_true hc;obtain⟨y,hy⟩:=eV (L:=L) (i:=(i:Int)) (by omega) N;have U:∀ {β:Type} (f:Int×ByteArray×Int×Int×Int×Int×Int×Int×Int×Int×Bool×Int×Int->Option β),(Option.bind (bif decide ((i:Int) > 0) then(bp L (w ((i:Int) - 1)) λ fY=>some (fY.aM,fY.cP,fY.size,fY.dc,fY.aB,fY.aD,fY.depth,fY.aw,fY.aF,fY.value,fY.cR,fY.bM,fY.to_)) else(some (0,ByteArray.empty,0,0,0,0,0,0,0,0,false,0,0))) f) =
     f ((cH L i).aM,(cH L i).cP,(cH L i).size,(cH L i).dc,(cH L i).aB,(cH L i).aD,(cH L i).depth,(cH L i).aw,(cH L i).aF,(cH L i).value,(cH L i).cR,(cH L i).bM,(cH L i).to_):=by
    intro β f;by_cases h0:0 < i
    ·rw[decide_eq_true (show(i:Int) > 0 by omega),cj (by omega) (by omega)];obtain⟨z,hz⟩:=eV (L:=L) (i:=(i:Int) - 1) (by omega) (by omega);rw[cond_true,aQ (by omega) hz];have:(i:Int).toNat - 1=i - 1:=by omega
     unfold cH;rw[if_pos h0];rw[show((i:Int) - 1).toNat=i - 1 by omega] at hz;rw[hz]; rfl
    ·rw[decide_eq_false (show ¬ (i:Int) > 0 by omega),cond_false];unfold cH;rw[if_neg h0]; rfl
   have hn:∀ {β:Type} (f:Int×ByteArray×Int×Int×Int×Int×Int×Int×Int×Int×Bool×Int×Int->Option β),(Option.bind (bif decide ((w ((i:Int)+1)) < (L.length:Int)) then(bp L (w ((i:Int)+1)) λ fY=>some (fY.aM,fY.cP,fY.size,fY.dc,fY.aB,fY.aD,fY.depth,fY.aw,fY.aF,fY.value,fY.cR,fY.bM,fY.to_)) else(some (0,ByteArray.empty,0,0,0,0,0,0,0,0,false,0,0))) f) =
     f ((cE L i).aM,(cE L i).cP,(cE L i).size,(cE L i).dc,(cE L i).aB,(cE L i).aD,(cE L i).depth,(cE L i).aw,(cE L i).aF,(cE L i).value,(cE L i).cR,(cE L i).bM,(cE L i).to_):=by
    intro β f;rw[cj (n:=(i:Int)+1) (by omega) (by omega)];by_cases h0:i+1 < L.length
    ·rw[decide_eq_true (show(i:Int)+1 < L.length by omega)];obtain⟨z,hz⟩:=eV (L:=L) (i:=(i:Int)+1) (by omega) (by omega);rw[cond_true,aQ (by omega) hz];unfold cE;rw[show((i:Int)+1).toNat=i+1 by omega] at hz;rw[hz]; rfl
    ·rw[decide_eq_false (show ¬ (i:Int)+1 < L.length by omega),cond_false];unfold cE;rw[List.getElem?_eq_none (by omega)]; rfl
   rw[cond_true,aQ (by omega) hy];rw[show(i:Int).toNat=i by omega] at hy;simp only[U,hn];obtain⟨r,hr,hg⟩:=t91 k y (cH L i) (cE L i);rw[hr];simp only[Option.bind_some];cases r with
   | false=>exact⟨.inr 1,rfl,λ h=>by cases h⟩
   | true=>
    have aa:=hg rfl;have step:∀ v',∃ r,jn k L j v' (w ((i:Int)+1))=some r/\(r=.inl ()->∀ t y,i<=t->L[t]? = some y->mg y (cH L t) (cE L t)):=by
     intro v';rw[cj (n:=(i:Int)+1) (by omega) (by omega)];obtain⟨r,V,h4⟩:=GP k L hl j v' (i+1) (by omega) (by omega);refine⟨r,V,λ e t z ht hz=>?_⟩;by_cases hti:t=i
     ·subst hti;rw[hy] at hz; cases hz; exact aa
     ·exact h4 e t z (by omega) hz
    cases (y.aM == 2) with
    | true=>exact step v
    | false=>
     simp only[SM];cases decide (y.bM < v) with
     | true=>exact⟨.inr 1,rfl,λ h=>by cases h⟩
     | false=>
      cases (decide (y.bM<=y.to_) && decide (y.to_<=65536)) with
      | false=>exact⟨.inr 1,rfl,λ h=>by cases h⟩
      | true=>exact step y.to_
theorem CP (k:Nat) (L:List au):∀ (j:Nat) (v i:Int),jn k L j v i≠some (.inr 0)
 | 0,v,i=>by unfold jn; intro h; cases h
 | j+1,v,i=>by
  have ih:=CP k L j;unfold jn;intro h;cases hc:decide (i < (L.length:Int)) with
  | false=>rw[hc] at h; cases h
  | true=>
   rw[hc,cond_true] at h;obtain⟨x,Y,h⟩:=bind_some h;cases x with
   | inl v'=>exact ih _ _ h
   | inr q=>
    have hq:q=.inr 0:=by simpa using h
    subst hq;obtain⟨y,_,_,Y⟩:=ux Y;obtain⟨p,_,Y⟩:=bind_some Y;obtain⟨n,_,Y⟩:=bind_some Y;obtain⟨p1,p2,p3,p4,p5,p6,p7,p8,p9,p10,p11,p12,p13⟩:=p;obtain⟨n1,n2,n3,n4,n5,n6,n7,n8,n9,n10,n11,n12,n13⟩:=n;obtain⟨r,_,Y⟩:=bind_some Y;cases r with
    | false=>cases Y
    | true=>
     simp only[Bool.not_true,cond_false] at Y;cases hk:(y.aM == 2) with
     | true=>rw[hk] at Y; cases Y
     | false=>
      rw[hk,cond_false] at Y;obtain⟨b,_,Y⟩:=bind_some Y;cases b <;> cases Y
theorem Q9 (k:Nat) (L:List au) (hk:L.length < k):∃ r,DQ k L=some r/\(r=0->L.length<=4096/\∀ t y,L[t]? = some y->mg y (cH L t) (cE L t)):=by
 unfold DQ;cases hc:decide ((L.length:Int) > 4096) with
 | true=>exact⟨130,rfl,λ h=>by omega⟩
 | false=>
  have hl:¬ (L.length:Int) > 4096:=of_decide_eq_false hc;obtain⟨r,B,D⟩:=GP k L (by omega) k 0 0 (by omega) (by omega);rw[cond_false];have nG:jn k L k 0 0=some r:=B;rw[nG,Option.bind_some];cases r with
  | inr n=>
   refine⟨n,rfl,λ e=>?_⟩;subst e;exact(CP k L k 0 0 nG).elim
  | inl u=>
   have aa:=D rfl;have Ls:L.length<=4096/\∀ t y,L[t]? = some y->mg y (cH L t) (cE L t):=⟨by omega,λ t y hy=>aa t y (by omega) hy⟩
   simp only[Sum.elim_inl];by_cases h0:0 < L.length
   ·obtain⟨y,hy⟩:=eV (L:=L) (i:=(L.length:Int) - 1) (by omega) (by omega);rw[decide_eq_true (show(L.length:Int) > 0 by omega),cond_true,cj (n:=(L.length:Int) - 1) (by omega) (by omega),aQ (by omega) hy,aQ (by omega) hy];cases (y.aM != 4) with
    | true=>exact⟨1,rfl,λ h=>by cases h⟩
    | false=>
     cases (y.value != (-10000)) with
     | true=>exact⟨1,rfl,λ h=>by cases h⟩
     | false=>exact⟨0,rfl,λ _=>Ls⟩
   ·rw[decide_eq_false (show ¬ (L.length:Int) > 0 by omega)];exact⟨0,rfl,λ _=>Ls⟩
theorem SN (k:Nat) (L:List au) (i:Int) (h0:0<=i) (B:i < L.length) (hl:L.length<=4096):∃ r,DO k L i=some r:=by
 obtain⟨y,hy⟩:=eV h0 B;unfold DO;rw[aQ h0 hy];cases (y.aM == 3) with
 | true=>
  by_cases D:0 < i
  ·obtain⟨z,hz⟩:=eV (L:=L) (i:=i - 1) (by omega) (by omega);rw[decide_eq_true (show i > 0 by omega),cj (n:=i - 1) (by omega) (by omega),aQ (by omega) hz];exact⟨_,rfl⟩
  ·rw[decide_eq_false (show ¬ i > 0 by omega)];exact⟨_,rfl⟩
 | false=>
  cases (y.aM == 4) with
  | true=>rw[aQ h0 hy]; exact⟨_,rfl⟩
  | false=>exact⟨_,rfl⟩
theorem t70 (k:Nat) (y:au):∃ r,Q1 k y=some r:=by
 unfold Q1;cases (y.aM == 4) <;> exact⟨_,rfl⟩
theorem Mv (k:Nat) (L:List au) (hl:L.length<=4096):∀ (j i:Nat),i<=L.length->L.length < j+i->∃ r,dU k L j i=some r
 | 0,i,B,D=>by omega
 | j+1,i,B,D=>by
  unfold dU;cases hc:decide ((i:Int) < (L.length:Int)) with
  | false=>exact⟨_,rfl⟩
  | true=>
   have N:(i:Int) < L.length:=of_decide_eq_true hc;obtain⟨y,hy⟩:=eV (L:=L) (i:=(i:Int)) (by omega) N;obtain⟨r,hr⟩:=t70 k y;rw[cond_true,aQ (by omega) hy,hr,Option.bind_some];cases r with
   | true=>exact⟨_,rfl⟩
   | false=>
    rw[cj (n:=(i:Int)+1) (by omega) (by omega)];exact Mv k L hl j (i+1) (by omega) (by omega)
theorem t69 (k:Nat) (L:List au) (hl:L.length<=4096) (hk:L.length < k):∃ r,nq k L=some r:=by
 unfold nq wH;obtain⟨r,hr⟩:=Mv k L hl k 0 (by omega) (by omega);have ga:dU k L k 0=some r:=hr;rw[ga,Option.bind_some];cases r <;> exact⟨_,rfl⟩
theorem CQ (k:Nat) (L:List au) (a3:Int) (hl:L.length<=4096) (V:a3 < L.length):∀ (j:Nat) (v:Int),0<=v->v<=a3->a3 - v < j->∃ r,ns k L a3 j v=some r/\v<=r/\r<=a3
 | 0,v,h0,B,D=>by omega
 | j+1,v,h0,B,D=>by
  unfold ns;by_cases hv:v < a3
  ·obtain⟨y,hy⟩:=eV (L:=L) (i:=v) (by omega) (by omega);rw[decide_eq_true hv,cond_true,aQ (by omega) hy,Option.bind_some];cases (y.aM != 1) with
   | false=>exact⟨v,rfl,by omega,by omega⟩
   | true=>
    rw[cj (n:=v+1) (by omega) (by omega)];obtain⟨r,k1,k2,k3⟩:=CQ k L a3 hl V j (v+1) (by omega) (by omega) (by omega);exact⟨r,k1,by omega,k3⟩
  ·rw[decide_eq_false hv];exact⟨v,rfl,by omega,by omega⟩
theorem CR (k:Nat) (L:List au) (v1:Int) (hl:L.length<=4096) (h0:0<=v1):∀ (j:Nat) (v:Int),v1<=v->v<=L.length->v - v1 < j->∃ r,nt k L v1 j v=some r/\v1<=r/\r<=v
 | 0,v,B,V,D=>by omega
 | j+1,v,B,V,D=>by
  unfold nt;by_cases hv:v > v1
  ·obtain⟨y,hy⟩:=eV (L:=L) (i:=v - 1) (by omega) (by omega);rw[decide_eq_true hv,cond_true,cj (n:=v - 1) (by omega) (by omega),aQ (by omega) hy,Option.bind_some];cases (y.aM != 1) with
   | false=>exact⟨v,rfl,by omega,by omega⟩
   | true=>
    obtain⟨r,k1,k2,k3⟩:=CR k L v1 hl h0 j (v - 1) (by omega) (by omega) (by omega);exact⟨r,k1,by omega,by omega⟩
  ·rw[decide_eq_false hv];exact⟨v,rfl,by omega,by omega⟩
structure u0 (y:au):Prop where
 aB:y.aM=1\/y.aM=2\/y.aM=3 -> -1099511627776<=y.aB/\y.aB<=1099511627776
 PJ:y.aM=3->(0<=y.aw/\y.aw<=67108864)/\0<=y.aF/\y.aF<=67108864
 ZA:y.aM=4->0<=y.aB/\y.aB<=1099511627776
 val:y.aM=4 -> -10000<=y.value
theorem C9 {L:List au} (h:∀ t y,L[t]? = some y->mg y (cH L t) (cE L t)) {t:Nat} {y:au} (hy:L[t]? = some y):u0 y:=by
 have aa:=h t y hy;refine⟨λ hk=>?_,λ hk=>?_,aa.ZA,aa.val⟩
 ·rcases hk with hk | hk | hk
  ·have:=aa.box hk; omega
  ·obtain⟨k1,k2,k3,k4⟩:=aa.adY hk;have U:0<=(cH L t).aB/\(cH L t).aB<=1099511627776:=by
    unfold cH at k1 ⊢;by_cases h0:0 < t
    ·rw[if_pos h0] at k1 ⊢;cases hz:L[t - 1]? with
     | none=>rw[hz] at k1; cases k1
     | some z=>
      rw[hz] at k1;exact(h _ z hz).box k1
    ·rw[if_neg h0] at k1; cases k1
   have hn:0<=(cE L t).aB/\(cE L t).aB<=1099511627776:=by
    unfold cE at k2 ⊢;cases hz:L[t+1]? with
    | none=>rw[hz] at k2; cases k2
    | some z=>
     rw[hz] at k2;exact(h _ z hz).box k2
   split at k3
   ·rw[cj (by omega) (by omega)] at k3; omega
   ·rw[cj (by omega) (by omega)] at k3; omega
  ·have:=aa.PJ hk; omega
 ·have:=aa.PJ hk; omega
theorem ui (k:Nat) (M:List au) (hl:M.length<=4096) (hf:∀ (t:Nat) (y:au),M[t]? = some y->u0 y):∀ (j i:Nat) (a b c d e:Int),i<=M.length->M.length < j+i -> -1099511627776 * i<=a->a<=1099511627776 * i->0<=b->b<=67108864 * i->0<=c->c<=67108864 * i ->
  ∃ a' b' c' d' e',kj k M j i a b c d e=some (a',b',c',d',e') /\ -4503599627370496<=a'/\a'<=4503599627370496/\0<=b'/\b'<=274877906944/\0<=c'/\c'<=274877906944
 | 0,i,a,b,c,d,e,B,D,V,h4,h5,h6,h7,h8=>by omega
 | j+1,i,a,b,c,d,e,B,D,V,h4,h5,h6,h7,h8=>by
  unfold kj;by_cases N:(i:Int) < M.length
  ·obtain⟨y,hy⟩:=eV (L:=M) (i:=(i:Int)) (by omega) N;have fy:=hf _ y hy;rw[decide_eq_true N,cond_true,aQ (by omega) hy];rw[cj (n:=(i:Int)+1) (by omega) (by omega)];cases q1:(y.aM == 1) with
   | true=>
    have wy:=fy.aB (.inl (eq_of_beq q1));rw[cj (n:=a+y.aB) (by omega) (by omega)];exact ui k M hl hf j (i+1) _ _ _ _ _ (by omega) (by omega) (by omega) (by omega) (by omega) (by omega) (by omega) (by omega)
   | false=>
   cases q2:(y.aM == 2) with
   | true=>
    have wy:=fy.aB (.inr (.inl (eq_of_beq q2)));rw[cj (n:=a+y.aB) (by omega) (by omega)];exact ui k M hl hf j (i+1) _ _ _ _ _ (by omega) (by omega) (by omega) (by omega) (by omega) (by omega) (by omega) (by omega)
   | false=>
   cases q3:(y.aM == 3) with
   | true=>
    have wy:=fy.aB (.inr (.inr (eq_of_beq q3)));have gy:=fy.PJ (eq_of_beq q3);rw[cj (n:=a+y.aB) (by omega) (by omega),cj (n:=b+y.aw) (by omega) (by omega),cj (n:=c+y.aF) (by omega) (by omega)];exact ui k M hl hf j (i+1) _ _ _ _ _ (by omega) (by omega) (by omega) (by omega) (by omega) (by omega) (by omega) (by omega)
   | false=>exact ui k M hl hf j (i+1) _ _ _ _ _ (by omega) (by omega) (by omega) (by omega) (by omega) (by omega) (by omega) (by omega)
  ·rw[decide_eq_false N];exact⟨a,b,c,d,e,rfl,by omega,by omega,by omega,by omega,by omega,by omega⟩
theorem adZ (k:Nat) (x:Int) (h:100<=x) (h':x<=1000):∃ r,Kt k x=some r/\100<=r:=by
 unfold Kt;refine⟨_,rfl,?_⟩;have a1:100 * 100<=x * x:=Int.mul_le_mul h h (by omega) (by omega);have Z:x * x<=1000 * 1000:=Int.mul_le_mul h' h' (by omega) (by omega);have a3:10000 * 100<=x * x * x:=Int.mul_le_mul (by omega) h (by omega) (by omega);have a4:x * x * x<=1000000 * 1000:=Int.mul_le_mul (by omega) h' (by omega) (by omega);rw[cj (n:=x * x) (by omega) (by omega),cj (n:=x * x * x) (by omega) (by omega),Int.tdiv_eq_ediv_of_nonneg (by omega)];rw[cj (n:=x * x * x / 10000) (by omega) (by omega)];split <;> omega
def vd (x:bI):Prop:=x.bB=false->x.fA < 100->w (0 - x.aN)<=x.aF/\(x.c7=true\/x.aN<=x.aw)
theorem t95 (k:Nat) (x:bI) (hs:0<=x.aw) (NS:x.aw<=274877906944) (hk:0<=x.aF) (lF:x.aF<=274877906944) (ht : -9007199254740992<=x.aN) (iO:x.aN<=9007199254740992) :
  ∃ r,F1 k x=some r/\vd r:=by
 unfold F1;have yj:∀ y,∃ r,Kt k y=some r:=λ y=>⟨_,rfl⟩
 rw[cj (n:=0 - x.aF) (by omega) (by omega),cj (n:=0 - x.aN) (by omega) (by omega)];by_cases B:x.aN < 0
 ·rw[decide_eq_true B];by_cases D:x.aN < 0 - x.aF
  ·rw[decide_eq_true D];exact⟨_,rfl,λ h=>by cases h⟩
  ·rw[decide_eq_false D];have V:(x.aN == 0)=false:=by rw[beq_eq_false_iff_ne]; omega
   have h4:decide (x.aN > 0)=false:=decide_eq_false (by omega);rw[V,h4];obtain⟨q,hq⟩:=yj (w (Int.tdiv (w (100 * (0 - x.aN))) x.aF));have ou:∀ b c,vd (bI.mk x.first x.bL x.bf x.bt x.aw x.aF x.aN b c x.bB x.bx x.c7 x.aD x.depth):=λ b c _ _=>
    ⟨by show w (0 - x.aN)<=x.aF; rw[cj (by omega) (by omega)]; omega,.inr (by show x.aN<=x.aw; omega)⟩
   simp only[cond_true,cond_false,Option.bind_some,rT,if_neg (show ¬ x.aF=0 by omega),hq];cases decide (w (Int.tdiv (w (100 * (0 - x.aN))) x.aF) > 50)
   ·exact⟨_,rfl,ou _ _⟩
   ·exact⟨_,rfl,ou _ _⟩
 ·rw[decide_eq_false B];have k1:w (0 - x.aN)<=x.aF:=by rw[cj (by omega) (by omega)]; omega
  by_cases V:x.aN=0
  ·have DL:(x.aN == 0)=true:=by rw[V]; rfl
   rw[DL];exact⟨_,rfl,λ _ _=>⟨k1,.inr (by show x.aN<=x.aw; omega)⟩⟩
  ·have DL:(x.aN == 0)=false:=by rw[beq_eq_false_iff_ne]; exact V
   rw[DL,decide_eq_true (show x.aN > 0 by omega)];cases he:x.c7 with
   | true=>exact⟨_,rfl,λ _ _=>⟨k1,.inl rfl⟩⟩
   | false=>
   by_cases h4:x.aw=0
   ·have Ko:(x.aw == 0)=true:=by rw[h4]; rfl
    rw[Ko];exact⟨_,rfl,λ _ h=>by have h':(10000:Int) < 100:=h; omega⟩
   ·have Ko:(x.aw == 0)=false:=by rw[beq_eq_false_iff_ne]; exact h4
    rw[Ko];have d0:0<=100 * x.aN / x.aw:=Int.ediv_nonneg (by omega) (by omega);have d1:100 * x.aN / x.aw<=100 * x.aN:=Int.ediv_le_self _ (by omega);have ew:w (Int.tdiv (w (100 * x.aN)) x.aw)=100 * x.aN / x.aw:=by
     rw[cj (n:=100 * x.aN) (by omega) (by omega),Int.tdiv_eq_ediv_of_nonneg (by omega),cj (by omega) (by omega)]
    rw[ew];generalize hd:(if 1000 < 100 * x.aN / x.aw then(1000:Int) else 100 * x.aN / x.aw)=d;obtain⟨q,hq⟩:=yj d;have ou:∀ c,vd (bI.mk x.first x.bL x.bf x.bt x.aw x.aF x.aN q c x.bB x.bx false x.aD x.depth):=λ c _ hb=>by
     refine⟨k1,.inr ?_⟩;show x.aN<=x.aw;by_cases h5:x.aN<=x.aw
     ·exact h5
     ·exfalso;have h6:100<=100 * x.aN / x.aw:=(Int.le_ediv_iff_mul_le (by omega)).2 (by omega);obtain⟨r,hr,ga⟩:=adZ k d (by rw[<- hd]; split <;> omega) (by rw[<- hd]; split <;> omega);rw[hq] at hr; cases hr;have ry:q < 100:=hb;omega
    simp only[cond_true,cond_false,Option.bind_some,rT,if_neg h4,hq];cases decide (d<=50) with
    | true=>exact⟨_,rfl,ou _⟩
    | false=>
     cases decide (d<=100) with
     | true=>exact⟨_,rfl,ou _⟩
     | false=>exact⟨_,rfl,ou _⟩
theorem t71 (k:Nat) (L:List au) (a1 Z a3:Int) (hl:L.length<=4096) (hk:L.length < k) (hf:∀ (t:Nat) (y:au),L[t]? = some y->u0 y) (B:1<=a1) (nG:a1<=536870912) (D : -1<=Z) (V:Z < a3) (h4:a3 < L.length) :
  ∃ r,DD k L a1 Z a3=some r/\vd r:=by
 unfold DD;rw[cj (n:=Z+1) (by omega) (by omega)];obtain⟨v1,e1,k1,k2⟩:=CQ k L a3 hl h4 k (Z+1) (by omega) (by omega) (by omega);rw[e1,Option.bind_some];obtain⟨v7,e2,k3,k4⟩:=CR k L v1 hl (by omega) k a3 (by omega) (by omega) (by omega);rw[e2,Option.bind_some];unfold lS;rw[if_pos ⟨by omega,by omega,by omega⟩];obtain⟨a,b,c,d,e,e3,b1,b2,b3,b4,b5,b6⟩:=ui k ((L.take v7.toNat).drop v1.toNat) (by simp; omega) (λ t y hy=>by
  rw[List.getElem?_drop,List.getElem?_take] at hy;split at hy
  ·exact hf _ y hy
  ·cases hy) k 0 0 0 0 0 0 (by omega) (by simp; omega) (by omega) (by omega) (by omega) (by omega) (by omega) (by omega)
 have U9:kj k ((L.take v7.toNat).drop v1.toNat) k 0 0 0 0 0 0=some (a,b,c,d,e):=e3;dsimp only;rw[U9,Option.bind_some];dsimp only;obtain⟨y,hy⟩:=eV (L:=L) (i:=a3) (by omega) h4;rw[aQ (by omega) hy];have gz:∀ (n:Int) (f aa:Bool) (u v:Int),-4503599627370496<=n->n<=4504699139000000->∃ r,(F1 k (bI.mk v1 v7 a3 n b c (w (a1 - n)) 0 0 false f aa u v)).bind (λ nI=>some nI)=some r/\vd r:=by
  intro n f aa u v n1 n2;rw[cj (n:=a1 - n) (by omega) (by omega)];obtain⟨r,hr,ga⟩:=t95 k (bI.mk v1 v7 a3 n b c (a1 - n) 0 0 false f aa u v) b3 b4 b5 b6 (by show _<=a1 - n; omega) (by show a1 - n<=_; omega);rw[hr];exact⟨r,rfl,ga⟩
 cases q:(y.aM == 4) with
 | false=>exact gz _ _ _ _ _ (by omega) (by omega)
 | true=>
  obtain⟨r,hr⟩:=t70 k y;have:=(hf _ y hy).ZA (eq_of_beq q);have ew:=cj (n:=a+y.aB) (by omega) (by omega);rw[cond_true,hr,Option.bind_some];cases yr:y.cR with
  | false=>rw[cond_false,Option.bind_some]; exact gz (w (a+y.aB)) _ _ _ _ (by omega) (by omega)
  | true=>rw[cond_true,Option.bind_some]; exact gz (w (a+y.aB)) _ _ _ _ (by omega) (by omega)
theorem Q6 (k:Nat) (y:au):Q1 k y=some (y.aM == 4 && decide (y.value <= -10000)):=by
 unfold Q1;cases (y.aM == 4) <;> rfl
def qg (y:au) (n u v:Int):Int×Bool×Bool×Int×Int:=
 bif y.aM == 4 then(w (n+y.aB),y.cR,decide (y.value <= -10000),(bif y.cR then(if y.aD > u then y.aD else u) else u),(bif y.cR then(if y.depth > v then y.depth else v) else v)) else(n,false,false,u,v)
structure ad0 (k:Nat) (L:List au) (Z a3 v1 v7 n b c u v:Int) (y:au):Prop where
 lo:Z+1<=v1
 mid:v1<=v7
 N:v7<=a3
 first:v1 < v7->∃ z,L[v1.toNat]? = some z/\z.aM=1
 bL:v1 < v7->∃ z,L[(v7 - 1).toNat]? = some z/\z.aM=1
 sum:kj k ((L.take v7.toNat).drop v1.toNat) k 0 0 0 0 0 0=some (n,b,c,u,v)
 n1 : -4503599627370496<=n
 n2:n<=4503599627370496
 b1:0<=b
 b2:b<=274877906944
 c1:0<=c
 c2:c<=274877906944
 QU:L[a3.toNat]? = some y
 eq:∀ a1,DD k L a1 Z a3=F1 k (bI.mk v1 v7 a3 (qg y n u v).1 b c (w (a1 - (qg y n u v).1)) 0 0 false (qg y n u v).2.1 (qg y n u v).2.2.1 (qg y n u v).2.2.2.1 (qg y n u v).2.2.2.2)
theorem E4 (k:Nat) (L:List au) (a3:Int) (hl:L.length<=4096) (V:a3 < L.length):∀ (j:Nat) (v r:Int),0<=v->v<=a3->ns k L a3 j v=some r->r < a3->∃ z,L[r.toNat]? = some z/\z.aM=1
 | 0,v,r,h0,B,h,hr=>by cases h
 | j+1,v,r,h0,B,h,hr=>by
  unfold ns at h;by_cases hv:v < a3
  ·obtain⟨y,hy⟩:=eV (L:=L) (i:=v) (by omega) (by omega);rw[decide_eq_true hv,cond_true,aQ (by omega) hy,Option.bind_some] at h;cases hk:(y.aM != 1) with
   | false=>
    rw[hk] at h;cases h;exact⟨y,hy,by simpa [bne] using hk⟩
   | true=>
    rw[hk,cond_true,cj (n:=v+1) (by omega) (by omega)] at h;exact E4 k L a3 hl V j (v+1) r (by omega) (by omega) h hr
  ·rw[decide_eq_false hv] at h;cases h;omega
theorem Io (k:Nat) (L:List au) (v1:Int) (hl:L.length<=4096) (h0:0<=v1):∀ (j:Nat) (v r:Int),v1<=v->v<=L.length->nt k L v1 j v=some r->v1 < r->∃ z,L[(r - 1).toNat]? = some z/\z.aM=1
 | 0,v,r,B,V,h,hr=>by cases h
 | j+1,v,r,B,V,h,hr=>by
  unfold nt at h;by_cases hv:v > v1
  ·obtain⟨y,hy⟩:=eV (L:=L) (i:=v - 1) (by omega) (by omega);rw[decide_eq_true hv,cond_true,cj (n:=v - 1) (by omega) (by omega),aQ (by omega) hy,Option.bind_some] at h;cases hk:(y.aM != 1) with
   | false=>
    rw[hk] at h;cases h;exact⟨y,hy,by simpa [bne] using hk⟩
   | true=>
    rw[hk,cond_true] at h;exact Io k L v1 hl h0 j (v - 1) r (by omega) (by omega) h hr
  ·rw[decide_eq_false hv] at h;cases h;omega
theorem Qt (k:Nat) (L:List au) (Z a3:Int) (hl:L.length<=4096) (hk:L.length < k) (hf:∀ (t:Nat) (y:au),L[t]? = some y->u0 y) (D : -1<=Z) (V:Z < a3) (h4:a3 < L.length) :
  ∃ v1 v7 n b c u v y,ad0 k L Z a3 v1 v7 n b c u v y:=by
 obtain⟨v1,e1,k1,k2⟩:=CQ k L a3 hl h4 k (Z+1) (by omega) (by omega) (by omega);obtain⟨v7,e2,k3,k4⟩:=CR k L v1 hl (by omega) k a3 (by omega) (by omega) (by omega);obtain⟨a,b,c,d,e,e3,b1,b2,b3,b4,b5,b6⟩:=ui k ((L.take v7.toNat).drop v1.toNat) (by simp; omega) (λ t y hy=>by
  rw[List.getElem?_drop,List.getElem?_take] at hy;split at hy
  ·exact hf _ y hy
  ·cases hy) k 0 0 0 0 0 0 (by omega) (by simp; omega) (by omega) (by omega) (by omega) (by omega) (by omega) (by omega)
 have U9:kj k ((L.take v7.toNat).drop v1.toNat) k 0 0 0 0 0 0=some (a,b,c,d,e):=e3;obtain⟨y,hy⟩:=eV (L:=L) (i:=a3) (by omega) h4;refine⟨v1,v7,a,b,c,d,e,y,k1,k3,k4,λ h=>E4 k L a3 hl h4 k (Z+1) v1 (by omega) (by omega) e1 (by omega),λ h=>Io k L v1 hl (by omega) k a3 v7 (by omega) (by omega) e2 h,U9,b1,b2,b3,b4,b5,b6,hy,λ a1=>?_⟩;unfold DD;rw[cj (n:=Z+1) (by omega) (by omega),e1,Option.bind_some,e2,Option.bind_some];unfold lS;rw[if_pos ⟨by omega,by omega,by omega⟩];dsimp only;rw[U9,Option.bind_some];dsimp only;rw[aQ (by omega) hy];unfold qg;have gz:∀ x:Option bI,(x.bind λ nI=>some nI)=x:=λ x=>by cases x <;> rfl
 cases q:(y.aM == 4) with
 | false=>simp only[cond_false,Option.bind_some,gz]
 | true=>
  simp only[Q6,q,Bool.true_and,cond_true,Option.bind_some];cases yr:y.cR with
  | false=>simp only[cond_false,Option.bind_some,gz]
  | true=>simp only[cond_true,Option.bind_some,gz]
structure HU (k:Nat) (L:List au) (a1 Z a3:Int):Prop where
 len:L.length<=4096
 PK:∀ (t:Nat) (y:au),L[t]? = some y->u0 y
 w1:1<=a1
 w2:a1<=536870912
 f1 : -1<=Z
 f2:Z < a3
 f3:a3 < L.length
 to_:DO k L a3=some true
 bM:Z>=0->DO k L Z=some true
 yY:nq k ((L.take a3.toNat).drop (Z+1).toNat)=some false
 chk:DQ k L=some 0
theorem g34 (k:Nat) (L:List au) (a1 Z a3:Int) (h:HU k L a1 Z a3):AZ k L a1 Z a3=(DD k L a1 Z a3).bind λ r=>some (r,0):=by
 have B:=h.len; have D:=h.w1; have V:=h.w2; have h4:=h.f1; have h5:=h.f2; have h6:=h.f3;unfold AZ;rw[h.chk,Option.bind_some,decide_eq_false (show ¬ a1 < 1 by omega),decide_eq_false (show ¬ a1 > 536870912 by omega),decide_eq_false (show ¬ Z < -1 by omega),decide_eq_false (show ¬ Z>=a3 by omega),decide_eq_false (show ¬ a3>=L.length by omega),h.to_,cj (n:=Z+1) (by omega) (by omega)];unfold lS;rw[if_pos ⟨by omega,by omega,by omega⟩];dsimp only;rw[h.yY];by_cases h7:Z>=0
 ·rw[decide_eq_true h7,h.bM h7]; rfl
 ·rw[decide_eq_false h7]; rfl
theorem Ip (k:Nat) (L:List au) (hl:L.length<=4096):∀ (j i:Nat),i<=L.length->L.length < j+i->(∀ (t:Nat) (y:au),i<=t->L[t]? = some y->(y.aM == 4 && decide (y.value <= -10000))=false)->dU k L j i=some (.inl ())
 | 0,i,B,D,h=>by omega
 | j+1,i,B,D,h=>by
  unfold dU;by_cases N:(i:Int) < L.length
  ·obtain⟨y,hy⟩:=eV (L:=L) (i:=(i:Int)) (by omega) N;rw[decide_eq_true N,cond_true,aQ (by omega) hy,Q6,h (i:Int).toNat y (by omega) hy,Option.bind_some,cond_false,cj (n:=(i:Int)+1) (by omega) (by omega)];exact Ip k L hl j (i+1) (by omega) (by omega) λ t y ht=>h t y (by omega)
  ·rw[decide_eq_false N]; rfl
theorem Qu (k:Nat) (L:List au) (hl:L.length<=4096) (hk:L.length < k) (h:∀ (t:Nat) (y:au),L[t]? = some y->(y.aM == 4 && decide (y.value <= -10000))=false):nq k L=some false:=by
 unfold nq wH;have:=Ip k L hl k 0 (by omega) (by omega) λ t y _=>h t y;have h':dU k L k 0=some (.inl ()):=this;rw[h']; rfl
theorem zW {y:au} (hf:u0 y):(y.aM == 4 && (y.value == -10000))=(y.aM == 4 && decide (y.value <= -10000)):=by
 cases q:(y.aM == 4) with
 | false=>rfl
 | true=>
  have:=hf.val (eq_of_beq q);rw[Bool.true_and,Bool.true_and,Bool.eq_iff_iff];simp;omega
def DW (y:au):Bool:=y.aM == 4 && decide (y.value <= -10000)
theorem E5 (k:Nat) (L:List au) (hl:L.length<=4096) (h:DQ k L=some 0) (h0:0 < L.length):∃ y,L[L.length - 1]? = some y/\DW y=true:=by
 unfold DQ at h;rw[decide_eq_false (show ¬ (L.length:Int) > 4096 by omega),cond_false] at h;obtain⟨q,hq,h⟩:=bind_some h;cases q with
 | inr n=>
  have hn:n=0:=by simpa using h
  subst hn;exact absurd hq (CP k L k 0 0)
 | inl u=>
  obtain⟨y,hy⟩:=eV (L:=L) (i:=(L.length:Int) - 1) (by omega) (by omega);simp only[Sum.elim_inl] at h;rw[decide_eq_true (show(L.length:Int) > 0 by omega),cond_true,cj (n:=(L.length:Int) - 1) (by omega) (by omega),aQ (by omega) hy,aQ (by omega) hy] at h;refine⟨y,by rw[show((L.length:Int) - 1).toNat=L.length - 1 by omega] at hy; exact hy,?_⟩;cases hk:(y.aM != 4) with
  | true=>rw[hk] at h; cases h
  | false=>
   rw[hk] at h;cases hv:(y.value != (-10000)) with
   | true=>rw[hv] at h; cases h
   | false=>
    have e1:y.aM=4:=by simpa [bne] using hk
    have e2:y.value = -10000:=by simpa [bne] using hv
    unfold DW;rw[e1,e2]; rfl
theorem wZ (k:Nat) (L:List au) (i:Nat) (y:au) (hy:L[i]? = some y) (h:DW y=true):DO k L i=some true:=by
 have h4:(y.aM == 4)=true:=by
  unfold DW at h;cases e:(y.aM == 4) with
  | true=>rfl
  | false=>rw[e] at h; cases h
 have V:(y.aM == 3)=false:=by
  have:=eq_of_beq h4;rw[this]; rfl
 have hv:y.value < 10000:=by
  unfold DW at h;rw[h4,Bool.true_and,decide_eq_true_iff] at h;omega
 have yr:L[(i:Int).toNat]? = some y:=by rw[show(i:Int).toNat=i by omega]; exact hy
 unfold DO;rw[aQ (by omega) yr,V,cond_false,h4,cond_true,aQ (by omega) yr,decide_eq_true hv]
theorem Q0 (k:Nat):∀ (ab acc:List Int),acc.length+ab.length<=100000->sg k ab acc=some (acc++ab)
 | [],acc,_=>by rw[sg]; simp
 | y :: ab,acc,h=>by
  simp only[List.length_cons] at h;rw[sg];unfold mw;rw[if_pos (by simp; omega)];dsimp only;rw[Q0 k ab (acc++[y]) (by simp; omega),List.append_assoc];rfl
theorem Yg:vd (bI.mk 0 0 0 0 0 0 0 0 0 false false false 0 0):=λ _ _=>⟨by rw[cj (by decide) (by decide)]; decide,.inr (by decide)⟩
theorem t34 (k:Nat) (L:List au) (a1 Z a3:Int) (hk:L.length < k):∃ r,AZ k L a1 Z a3=some r/\(r.2=0->vd r.1):=by
 unfold AZ;obtain⟨r,hr,hg⟩:=Q9 k L hk;rw[hr,Option.bind_some];have fA:∃ r:bI×Int,(some ((bI.mk 0 0 0 0 0 0 0 0 0 false false false 0 0),1):Option (bI×Int))=some r/\(r.2=0->vd r.1):=⟨_,rfl,λ _=>Yg⟩
 by_cases h0:r=0
 ·obtain⟨hl,aa⟩:=hg h0;have hf:∀ (t:Nat) (y:au),L[t]? = some y->u0 y:=λ t y hy=>C9 aa hy;have AQ:(r != 0)=false:=by rw[h0]; rfl
  rw[AQ];by_cases B:a1 < 1
  ·rw[decide_eq_true B]; exact fA
  rw[decide_eq_false B];by_cases D:a1 > 536870912
  ·rw[decide_eq_true D]; exact fA
  rw[decide_eq_false D];by_cases V:Z < -1
  ·rw[decide_eq_true V]; exact fA
  rw[decide_eq_false V];by_cases h4:Z>=a3
  ·rw[decide_eq_true h4]; exact fA
  rw[decide_eq_false h4];by_cases h5:a3>=L.length
  ·rw[decide_eq_true h5]; exact fA
  rw[decide_eq_false h5];obtain⟨b,hb⟩:=SN k L a3 (by omega) (by omega) hl;rw[hb];obtain⟨x,Y,Hp⟩:=t71 k L a1 Z a3 hl hk hf (by omega) (by omega) (by omega) (by omega) (by omega);have Ls:∃ r:bI×Int,(lS L (w (Z+1)) a3 λ l9=>(nq k l9).bind λ Ks=>bif Ks then(some ((bI.mk 0 0 0 0 0 0 0 0 0 false false false 0 0),1)) else((DD k L a1 Z a3).bind λ OM=>some (OM,0)))=some r/\(r.2=0->vd r.1):=by
   rw[cj (by omega) (by omega)];unfold lS;rw[if_pos ⟨by omega,by omega,by omega⟩];obtain⟨q,hq⟩:=t69 k ((L.take a3.toNat).drop (Z+1).toNat) (by simp; omega) (by simp; omega);dsimp only;rw[hq,Option.bind_some,Y];cases q with
   | true=>exact fA
   | false=>exact⟨_,rfl,λ _=>Hp⟩
  cases b with
  | false=>exact fA
  | true=>
   by_cases h6:Z>=0
   ·rw[decide_eq_true h6];obtain⟨c,hc⟩:=SN k L Z (by omega) (by omega) hl;rw[hc];cases c with
    | false=>exact fA
    | true=>exact Ls
   ·rw[decide_eq_false h6];exact Ls
 ·have AQ:(r != 0)=true:=by rw[bne_iff_ne]; exact h0
  rw[AQ];exact fA
end
end Go.cy.jV
namespace Go.cy.jV
open Go.Proofs
noncomputable section
def HF (x:bI):Prop:=0<=x.aI/\x.aI < 4
theorem c76 {k:Nat} {x r:bI} (h:F1 k x=some r):HF r:=by
 unfold F1 at h;obtain⟨p,U,h⟩:=bind_some h;have one:∀ {a b:Int} {c:Bool},some (a,b,c)=some p->0<=b/\b < 4->0<=p.2.1/\p.2.1 < 4:=λ e1 hb=>by
  have:=Option.some.inj e1;rw[<- this]; exact hb
 have two:∀ {b:Bool} {u v:Option (Int×Int×Bool)},(bif b then u else v)=some p->(u=some p->0<=p.2.1/\p.2.1 < 4)->(v=some p->0<=p.2.1/\p.2.1 < 4)->0<=p.2.1/\p.2.1 < 4:=λ {b u v} B D V=>by
  cases b with
  | true=>exact D B
  | false=>exact V B
 have key:0<=p.2.1/\p.2.1 < 4:=by
  obtain⟨b,_,U⟩:=bind_some U;refine two U (λ U=>one U (by decide)) λ U=>?_;obtain⟨b,_,U⟩:=bind_some U;refine two U (λ U=>one U (by decide)) λ U=>?_;refine two U (λ U=>?_) λ U=>?_
  ·obtain⟨_,U⟩:=uz U;obtain⟨q,_,U⟩:=bind_some U;exact two U (λ U=>one U (by decide)) (λ U=>one U (by decide))
  ·refine two U (λ U=>one U (by decide)) λ U=>?_;obtain⟨_,U⟩:=uz U;obtain⟨q,_,U⟩:=bind_some U;refine two U (λ U=>one U (by decide)) λ U=>?_;exact two U (λ U=>one U (by decide)) (λ U=>one U (by decide))
 have h':=Option.some.inj h;rw[<- h'];exact key
theorem c51 {k:Nat} {L:List au} {a b c:Int} {r:bI} (h:DD k L a b c=some r):HF r:=by
 unfold DD at h;obtain⟨_,_,h⟩:=bind_some h;obtain⟨_,_,h⟩:=bind_some h;obtain⟨_,_,_,h⟩:=uy h;obtain⟨_,_,h⟩:=bind_some h;obtain⟨_,_,_,h⟩:=ux h;obtain⟨_,_,h⟩:=bind_some h;obtain⟨q,B,h⟩:=bind_some h;rw[<- Option.some.inj h];exact c76 B
theorem c59 {k:Nat} {L:List au} {a b c:Int} {r:bI×Int} (h:AZ k L a b c=some r):HF r.1:=by
 unfold AZ at h;obtain⟨_,_,h⟩:=bind_some h;obtain⟨v,_,h⟩:=bind_some h;cases v with
 | true=>rw[cond_true] at h; rw[<- Option.some.inj h]; exact⟨by decide,by decide⟩
 | false=>
  rw[cond_false] at h;obtain⟨_,_,_,h⟩:=uy h;obtain⟨v,_,h⟩:=bind_some h;cases v with
  | true=>rw[cond_true] at h; rw[<- Option.some.inj h]; exact⟨by decide,by decide⟩
  | false=>
   rw[cond_false] at h;obtain⟨q,B,h⟩:=bind_some h;rw[<- Option.some.inj h];exact c51 B
theorem l59 (k:Nat) (L:List au) (a b c:Int) (hk:L.length < k):∃ r,AZ k L a b c=some r/\HF r.1:=by
 obtain⟨r,h,_⟩:=t34 k L a b c hk;exact⟨r,h,c59 h⟩
theorem su {α:Type} {b:Bool} {u v:Option α} (B:∃ r,u=some r) (D:∃ r,v=some r):∃ r,(bif b then u else v)=some r:=by
 cases b with
 | true=>exact B
 | false=>exact D
theorem ZB (k:Nat) (a b:Int):∃ r,N8 k a b=some r:=by
 unfold N8 UI;simp only[Option.bind_some];exact su (su ⟨_,rfl⟩ ⟨_,rfl⟩) (su ⟨_,rfl⟩ (su ⟨_,rfl⟩ (su ⟨_,rfl⟩ ⟨_,rfl⟩)))
theorem t80 (k:Nat) (x y z:Int) (hk:4<=k):∃ r,Sw k [x,y,z]=some r:=by
 have key:∀ (j i:Nat),i<=3->3 < j+i->∃ r,km k [x,y,z] j i=some r:=by
  intro j
  induction j with
  | zero=>intro i B D; omega
  | succ j ih=>
   intro i B D;unfold km;by_cases N:i < 3
   ·obtain⟨u,hu⟩:=eV (L:=[x,y,z]) (i:=(i:Int)) (by omega) (by simp; omega);rw[decide_eq_true (show(i:Int) < ([x,y,z].length:Int) by simp; omega),cond_true,aQ (by omega) hu,cj (by omega) (by omega)];exact su ⟨_,rfl⟩ (ih (i+1) (by omega) (by omega))
   ·rw[decide_eq_false (show ¬ (i:Int) < ([x,y,z].length:Int) by simp; omega),cond_false];exact⟨_,rfl⟩
 obtain⟨r,hr⟩:=key k 0 (by omega) (by omega);unfold Sw;rw[show(0:Int)=((0:Nat):Int) from rfl,hr];cases r with
 | inl u=>exact⟨_,rfl⟩
 | inr u=>exact⟨_,rfl⟩
theorem t61 (k:Nat) (a b:cD) (hk:4<=k):∃ r,Sx k a b=some r:=by
 unfold Sx;refine su ⟨_,rfl⟩ ?_;obtain⟨r1,B⟩:=ZB k a.fA b.fA;obtain⟨r2,D⟩:=ZB k a.kT b.kT;obtain⟨r3,V⟩:=ZB k a.kU b.kU;obtain⟨r4,h4⟩:=t80 k r1 r2 r3 hk;rw[B,Option.bind_some,D,Option.bind_some,V,Option.bind_some,h4];exact⟨_,rfl⟩
def TB (S:List ay):Prop:=∀ (i:Nat) (y:ay) (j:Nat),S[i]? = some y->y.ahead=some j->j < S.length/\j / 4 < i / 4
def JB (S:List ay):Option (Option Nat)->Nat
 | none=>0
 | some none=>S.length+2
 | some (some i)=>i / 4+1
def A3 (S:List ay) (p:Option (Option Nat)):Prop:=∀ i,p=some (some i)->i < S.length
def Cw (S:List ay) (z:ay):Prop:=∀ j,z.ahead=some j->j < S.length
theorem sv {S:List ay} {z:ay} {p:Option (Option Nat)} (h:A3 S p) (U:p≠none):∃ y,tV z S p=some y:=by
 rcases p with _ | _ | i
 ·exact absurd rfl U
 ·exact⟨z,rfl⟩
 ·exact⟨_,List.getElem?_eq_getElem (h i rfl)⟩
theorem gq {β:Type} {S:List ay} {z y:ay} {p:Option (Option Nat)} {f:ay->Option β} (h:tV z S p=some y):ir z S p f=f y:=by unfold ir; rw[h]; rfl
theorem qA {S:List ay} {z y:ay} {p:Option (Option Nat)} (hT:TB S) (hz:Cw S z) (N:A3 S p) (h:tV z S p=some y):A3 S (y.ahead.map some)/\JB S (y.ahead.map some) < JB S p:=by
 rcases p with _ | _ | i
 ·cases h
 ·cases h;cases ha:z.ahead with
  | none=>exact⟨λ i e=>(by cases e),by show 0 < _; exact Nat.succ_pos _⟩
  | some j=>
   have:=hz j ha;refine⟨λ i e=>?_,?_⟩
   ·simp only[Option.map_some,Option.some.injEq] at e;omega
   ·show j / 4+1 < S.length+2;omega
 ·have h:S[i]? = some y:=h;cases ha:y.ahead with
  | none=>exact⟨λ i e=>(by cases e),by show 0 < _; exact Nat.succ_pos _⟩
  | some j=>
   obtain⟨B,D⟩:=hT i y j h ha;refine⟨λ i e=>?_,?_⟩
   ·simp only[Option.map_some,Option.some.injEq] at e;omega
   ·show j / 4+1 < i / 4+1;omega
theorem Mw (k:Nat) (S:List ay) (z:ay) (hS:S.isEmpty=false) (hT:TB S) (hz:Cw S z):∀ (j:Nat) (p q:Option (Option Nat)),A3 S p->A3 S q->JB S p < j->∃ r,jA k S z j p q=some r/\∀ u,r=.inr u->u.2=(S,z)
 | 0,_,_,_,_,h=>by omega
 | j+1,p,q,U,hq,h=>by
  unfold jA Et;rw[hS,cond_false];cases B:p != q with
  | false=>exact⟨_,rfl,λ u e=>by cases e⟩
  | true=>
   rw[cond_true];cases D:p.isNone with
   | true=>exact⟨_,rfl,λ u e=>by cases e; rfl⟩
   | false=>
    rw[cond_false];cases V:q.isNone with
    | true=>exact⟨_,rfl,λ u e=>by cases e; rfl⟩
    | false=>
     rw[cond_false];have KZ:p≠none:=λ e=>by subst e; cases D
     have SO:q≠none:=λ e=>by subst e; cases V
     obtain⟨y,hy⟩:=sv (z:=z) U KZ;obtain⟨y',yr⟩:=sv (z:=z) hq SO;simp only[gq hy,gq yr];cases h4:y.bw != y'.bw with
     | true=>
      rw[cond_true];obtain⟨r,hr⟩:=ZB k y.bw y'.bw;rw[hr];exact⟨_,rfl,λ u e=>by cases e; rfl⟩
     | false=>
      rw[cond_false];obtain⟨a1,Z⟩:=qA hT hz U hy;obtain⟨b1,_⟩:=qA hT hz hq yr;exact Mw k S z hS hT hz j _ _ a1 b1 (by omega)
theorem t62 (k:Nat) (S:List ay) (z:ay) (hS:S.isEmpty=false) (hT:TB S) (hz:Cw S z) (p q:Option (Option Nat)) (U:A3 S p) (hq:A3 S q) (hk:S.length+2 < k):∃ n,zp k p q S z=some (n,S,z):=by
 have hr:JB S p < k:=by
  rcases p with _ | _ | i
  ·show 0 < k; omega
  ·exact hk
  ·have:=U i rfl;show i / 4+1 < k;omega
 obtain⟨r,B,D⟩:=Mw k S z hS hT hz k p q U hq hr;unfold zp;rw[B];cases r with
 | inl u=>exact⟨0,rfl⟩
 | inr u=>
  obtain⟨n,u⟩:=u;have:=D _ rfl;simp only at this;subst this;exact⟨n,rfl⟩
theorem t32 (k:Nat) (S:List ay) (z:ay) (hS:S.isEmpty=false) (hT:TB S) (hz:Cw S z) (p q:Option (Option Nat)) (U:A3 S p) (hq:A3 S q) (KZ:p≠none) (SO:q≠none) (hk:S.length+4 < k):∃ b,nX k p q S z=some (b,S,z):=by
 obtain⟨y,hy⟩:=sv (z:=z) U KZ;obtain⟨y',yr⟩:=sv (z:=z) hq SO;unfold nX;simp only[gq hy,gq yr];cases B : !y'.gE with
 | true=>exact⟨true,rfl⟩
 | false=>
  rw[cond_false];obtain⟨r,hr⟩:=t61 k (cD.mk y.bj y.aR y.aO) (cD.mk y'.bj y'.aR y'.aO) (by omega);rw[hr,Option.bind_some];cases D:r != 0 with
  | true=>exact⟨_,rfl⟩
  | false=>
   rw[cond_false];obtain⟨n,hn⟩:=t62 k S z hS hT hz p q U hq (by omega);rw[hn];exact⟨_,rfl⟩
theorem TB.set {S:List ay} {z:ay} {i:Nat} (hT:TB S) (hz:∀ j,z.ahead=some j->j < S.length/\j / 4 < i / 4):TB (S.set i z):=λ i' y j B D=>by
 rw[List.length_set];rw[List.getElem?_set] at B;split at B
 ·rename_i e; subst e;split at B
  ·cases B; exact hz j D
  ·cases B
 ·exact hT i' y j B D
def OY (L:List au) (p:Int):Bool:=match L[p.toNat]? with
 | some y=>DW y
 | none=>false
def fj (L:List au) (W:List Int):Nat->Int
 | 0=>-1
 | n+1=>if OY L (W.getD n 0)=true then n else fj L W n
theorem oH (L:List au) (W:List Int):∀ n:Nat,-1<=fj L W n/\fj L W n < n
 | 0=>by unfold fj; omega
 | n+1=>by
  unfold fj;have:=oH L W n;split <;> omega
theorem t79 (k:Nat) (p:Int) (m:aE) (L:List au) (a b:Int) (W:List Int) (ak:Nat) (S:List ay) (hf:∀ (t:Nat) (y:au),L[t]? = some y->u0 y) (h0:0<=p) (B:p < L.length):Ex k p m L a b W ak S=some (OY L p,m,L,a,b,W,S):=by
 obtain⟨y,hy⟩:=eV h0 B;unfold Ex OY;rw[aQ h0 hy,hy];have:=zW (hf _ _ hy);have e1:DW y=(y.aM == 4 && (y.value == -10000)):=this.symm;simp only;rw[e1];cases D:y.aM == 4 with
 | false=>rfl
 | true=>rw[cond_true,aQ h0 hy]; rfl
theorem Mx (k ak:Nat) (m:aE) (L:List au) (a b:Int) (W:List Int) (S:List ay) (hf:∀ (t:Nat) (y:au),L[t]? = some y->u0 y) (hW:∀ p∈W,0<=p/\p < L.length) (hlen:W.length<=100000) :
  ∀ (j n:Nat),n<=W.length->n < j->kx k ak j ((n:Int) - 1) m L a b W S=some (if fj L W n = -1 then .inl (m,L,a,b,W,S) else .inr (fj L W n,m,L,a,b,W,S))
 | 0,n,_,h=>by omega
 | j+1,0,B,D=>by
  unfold kx;rw[decide_eq_false (by omega),cond_false];rfl
 | j+1,n+1,B,D=>by
  unfold kx;rw[decide_eq_true (show((n+1:Nat):Int) - 1>=0 by omega),cond_true];obtain⟨p,U⟩:=eV (L:=W) (i:=((n+1:Nat):Int) - 1) (by omega) (by omega);rw[aQ (by omega) U];have hn:(((n+1:Nat):Int) - 1).toNat=n:=by omega
  have lE:W.getD n 0=p:=by rw[List.getD_eq_getElem?_getD,<- hn,U]; rfl
  obtain⟨p0,p1⟩:=hW p (List.mem_of_getElem? U);rw[t79 k p m L a b W ak S hf p0 p1,Option.bind_some];unfold fj;rw[lE];cases hc:OY L p with
  | true=>
   simp only[if_true];rw[if_neg (by omega),show((n+1:Nat):Int) - 1=n by omega];rfl
  | false=>
   simp only[Bool.false_eq_true,if_false];show kx k ak j (w (((n+1:Nat):Int) - 1 - 1)) m L a b W S=_;rw[cj (by omega) (by omega),show((n+1:Nat):Int) - 1 - 1=(n:Int) - 1 by omega];exact Mx k ak m L a b W S hf hW hlen j n (by omega) (by omega)
theorem t57 (k ak n:Nat) (m:aE) (L:List au) (a b:Int) (W:List Int) (S:List ay) (hf:∀ (t:Nat) (y:au),L[t]? = some y->u0 y) (hW:∀ p∈W,0<=p/\p < L.length) (hlen:W.length<=100000) (hn:n<=W.length) (hk:n < k) :
  Ey k n m L a b W ak S=some (fj L W n,m,L,a,b,W,S):=by
 unfold Ey;rw[cj (by omega) (by omega),Mx k ak m L a b W S hf hW hlen k n hn hk];split
 ·rename_i h; rw[h]; rfl
 ·rfl
structure ajY (m:aE):Prop where
 sb:m.aV=1152921504606846976
 cb:m.bo=1152921504606846976
 rf:m.dM=0
 s0:0<=m.bb
 c0:0<=m.bq
def tR (L:List au) (W:List Int) (n:Nat):Nat->Int
 | 0=>0
 | d+1=>(n - fj L W n)+tR L W (n+1) d
theorem ny {α β:Type} {n:Nat} {L M:List α} {f:List α->Option β} (h:(5 * (L.length+M.length)+768) * n<=1125899906842624):mw n L M f=f (L++M):=if_pos h
def mu:Option (Option Nat)->Nat
 | none=>0
 | some none=>1
 | some (some i)=>i / 4+1
theorem Qv {S:List ay} {z y:ay} {p:Option (Option Nat)} (hT:TB S) (hz:z.ahead=none) (N:A3 S p) (h:tV z S p=some y):A3 S (y.ahead.map some)/\mu (y.ahead.map some)+1<=mu p:=by
 rcases p with _ | _ | i
 ·cases h
 ·cases h;rw[hz];exact⟨λ i e=>(by cases e),Nat.le_refl _⟩
 ·have h:S[i]? = some y:=h;cases ha:y.ahead with
  | none=>exact⟨λ i e=>(by cases e),by show 0+1<=i / 4+1; omega⟩
  | some j=>
   obtain⟨B,D⟩:=hT i y j h ha;refine⟨λ i e=>?_,?_⟩
   ·simp only[Option.map_some,Option.some.injEq] at e;omega
   ·show j / 4+1+1<=i / 4+1;omega
theorem oJ (k ak:Nat) (c:Int) (S:List ay) (z:ay) (p:Option (Option Nat)) (hS:S.length=4 * ak) (hN:0 < ak) (h0:0<=c) (B:c < 4) (hT:TB S) (hz:z.ahead=none) (U:A3 S p) (KZ:p≠none) (hm:mu p<=ak) (hk:S.length+4 < k) :
  ∃ p',(eZ ((ak:Int) - 1) ak (eZ c 4 (ir z S (some (some (4 * Int.toNat ((ak:Int) - 1)+Int.toNat c))) λ yh=>
   Option.bind (α:=Bool×(List ay)×ay) (bif yh.gE then((nX k (some (some (4 * Int.toNat ((ak:Int) - 1)+Int.toNat c))) p S z).bind λ Bu=>
   some (Bu.1,Bu.2.1,Bu.2.2)) else(some (false,S,z))) λ(j9,iB,rM)=>
   bif j9 then(some (some (some (4 * Int.toNat ((ak:Int) - 1)+Int.toNat c)),iB,rM)) else(some (p,iB,rM)))))=some (p',S,z)/\A3 S p'/\p'≠none/\mu p'<=ak:=by
 unfold eZ;rw[if_pos ⟨by omega,by omega⟩,if_pos ⟨h0,B⟩];have N:4 * Int.toNat ((ak:Int) - 1)+Int.toNat c < S.length:=by omega
 obtain⟨u,hu⟩:∃ u,tV z S (some (some (4 * Int.toNat ((ak:Int) - 1)+Int.toNat c)))=some u:=⟨_,List.getElem?_eq_getElem N⟩
 rw[gq hu];cases u.gE with
 | false=>exact⟨p,rfl,U,KZ,hm⟩
 | true=>
  obtain⟨t,ht⟩:=t32 k S z (by cases S with | nil=>simp at N | cons _ _=>rfl) hT (λ j X=>by rw[hz] at X; cases X) (some (some (4 * Int.toNat ((ak:Int) - 1)+Int.toNat c))) p (λ i h=>by cases h; exact N) U (by simp) KZ hk;rw[cond_true,ht];cases t with
  | false=>exact⟨p,rfl,U,KZ,hm⟩
  | true=>exact⟨_,rfl,λ i h=>(by cases h; exact N),by simp,by show(4 * Int.toNat ((ak:Int) - 1)+Int.toNat c) / 4+1<=ak; omega⟩
theorem Da (k:Nat) (L:List au) (hl:L.length<=4096):∀ (j i:Nat),L.length < j+i->i<=L.length ->
  ∃ ab,o4 k L j i=some ab/\ab.length<=L.length - i/\(∀ x∈ab,(i:Int)<=x/\x < L.length)/\∀ t:Nat,i<=t->t < L.length->DO k L t=some true->(t:Int)∈ab
 | 0,i,h,_=>by omega
 | j+1,i,B,D=>by
  unfold o4;by_cases N:i < L.length
  ·obtain⟨c,hc⟩:=SN k L i (by omega) (by omega) hl;obtain⟨ab,a1,Z,a3,a4⟩:=Da k L hl j (i+1) (by omega) (by omega);rw[decide_eq_true (show(i:Int) < L.length by omega),cond_true,hc,Option.bind_some,cj (by omega) (by omega),show(i:Int)+1=((i+1:Nat):Int) by omega,a1,Option.bind_some];cases c with
   | false=>
    refine⟨ab,rfl,by omega,λ x Y=>⟨by have:=(a3 x Y).1; omega,(a3 x Y).2⟩,λ t k1 k2 k3=>?_⟩;by_cases e:t=i
    ·subst e; rw[hc] at k3; cases k3
    ·exact a4 t (by omega) k2 k3
   | true=>
    refine⟨(i:Int) :: ab,rfl,by rw[List.length_cons]; omega,λ x Y=>?_,λ t k1 k2 k3=>?_⟩
    ·rcases List.mem_cons.mp Y with rfl | Y
     ·omega
     ·exact⟨by have:=(a3 x Y).1; omega,(a3 x Y).2⟩
    ·by_cases e:t=i
     ·subst e; exact List.mem_cons_self ..
     ·exact List.mem_cons_of_mem _ (a4 t (by omega) k2 k3)
  ·rw[decide_eq_false (show ¬ (i:Int) < L.length by omega)];exact⟨[],rfl,by simp,λ x Y=>(by cases Y),λ t k1 k2 _=>by omega⟩
theorem OD (k:Nat):∀ (ab acc:List Int),acc.length+ab.length<=100000->po k ab acc=some (acc++ab)
 | [],acc,_=>by rw[List.append_nil]; rfl
 | x :: ab,acc,h=>by
  rw[List.length_cons] at h;show mw 8 acc [x] _=_;rw[ny (by simp only[List.length_singleton]; omega)];rw[OD k ab (acc++[x]) (by rw[List.length_append,List.length_singleton]; omega),List.append_assoc];rfl
theorem NN (k:Nat) (L:List au) (h0:DQ k L=some 0) (hk:L.length < k):∃ ab,HD k L=some ab/\zo k ab=some (ab,ab)/\ab.length<=L.length/\L.length<=4096/\(∀ x∈ab,0<=x/\x < L.length)/\(0 < L.length->0 < ab.length):=by
 obtain⟨r,hr,hg⟩:=Q9 k L hk;rw[h0] at hr;obtain⟨hl,_⟩:=hg (Option.some.inj hr).symm;obtain⟨ab,a1,Z,a3,a4⟩:=Da k L hl k 0 (by omega) (by omega);refine⟨ab,?_,?_,by omega,hl,λ x Y=>⟨by have:=(a3 x Y).1; omega,(a3 x Y).2⟩,λ U=>?_⟩
 ·unfold HD UF;have AG:o4 k L k 0=some ab:=a1;rw[h0,Option.bind_some];simp only[beq_self_eq_true,cond_true,Option.bind_some,AG,Q0 k ab [] (by simp; omega),List.nil_append]
 ·unfold zo Ev uc;rw[show Nat.ble (ab.length+2) 9223372036854775808=true by rw[Nat.ble_eq]; omega,cond_true,OD k ab [] (by simp; omega)];rfl
 ·obtain⟨y,y1,y2⟩:=E5 k L hl h0 U;have:=a4 (L.length - 1) (by omega) (by omega) (wZ k L _ y y1 y2);exact List.length_pos_of_mem this
def FJ:ay:=ay.mk false 0 0 0 0 0 0 0 0 0 0 0 0 false false false 0 0 none
theorem My (k:Nat):∀ (ab:List Int) (v:Int),∃ r,wG k ab v=some r
 | [],v=>⟨v,rfl⟩
 | x :: ab,v=>My k ab (w (v+1))
theorem t18 (k:Nat) (L:List au) (hk:L.length < k):∃ ab,HD k L=some ab/\ab.length<=4096:=by
 obtain⟨c,hc,hg⟩:=Q9 k L hk;by_cases h:c=0
 ·subst h;obtain⟨ab,b1,b2,b3,b4,_⟩:=NN k L hc hk;exact⟨ab,b1,by omega⟩
 ·refine⟨[],?_,by simp⟩;unfold HD;rw[hc,Option.bind_some,show(c == 0)=false from beq_eq_false_iff_ne.mpr h];rfl
theorem t10 (k:Nat) (L:List au) (hk:L.length < k):∃ r,We k L=some r:=by
 obtain⟨ab,B,D⟩:=t18 k L hk;obtain⟨n,hn⟩:=My k ab 0;unfold We uc;rw[B,Option.bind_some,show Nat.ble (ab.length+2) 9223372036854775808=true by rw[Nat.ble_eq]; omega,cond_true,hn];simp only[Option.bind_some];obtain⟨u,hu⟩:∃ v,(bif decide (n > 60) then(some (decide (n<=1024))) else(some false):Option Bool)=some v:=su ⟨_,rfl⟩ ⟨_,rfl⟩;rw[hu];exact⟨_,rfl⟩
end
end Go.cy.jV
namespace Go.cy.jV
open Go.Proofs
noncomputable section
def lx:List Int->List Int->Bool
 | _,[]=>false
 | [],_ :: _=>true
 | a :: x,b :: y=>bif decide (a < b) then true else bif decide (b < a) then false else lx x y
theorem o5 {a b:Int} {x y:List Int} (h:a < b):lx (a :: x) (b :: y)=true:=by unfold lx; rw[decide_eq_true h]; rfl
theorem o6 {a b:Int} {x y:List Int} (h:b < a):lx (a :: x) (b :: y)=false:=by unfold lx; rw[decide_eq_false (by omega),decide_eq_true h]; rfl
theorem my {a:Int} {x y:List Int} : lx (a :: x) (a :: y)=lx x y:=by
 conv=>lhs; unfold lx
 rw[decide_eq_false (by omega)]; rfl
theorem zG:∀ x:List Int,lx x x=false
 | []=>rfl
 | a :: x=>by rw[my]; exact zG x
theorem vp:∀ x y:List Int,lx x y=true->lx y x=false
 | _,[],h=>by cases ‹List Int› <;> cases h
 | [],_ :: _,_=>rfl
 | a :: x,b :: y,h=>by
  rcases Int.lt_trichotomy a b with B | B | B
  ·exact o6 B
  ·subst B; rw[my] at h ⊢; exact vp x y h
  ·rw[o6 B] at h; cases h
theorem ve:∀ x y z:List Int,lx y x=false->lx z y=false->lx z x=false
 | [],_,_,_,_=>by cases ‹List Int› <;> rfl
 | a :: x,[],_,h,_=>by cases h
 | a :: x,b :: y,[],_,h=>by cases h
 | a :: x,b :: y,c :: z,B,D=>by
  rcases Int.lt_trichotomy a b with V | V | V
  ·rcases Int.lt_trichotomy b c with h4 | h4 | h4
   ·exact o6 (by omega)
   ·subst h4; exact o6 V
   ·rw[o5 h4] at D; cases D
  ·subst V;rw[my] at B;rcases Int.lt_trichotomy a c with h4 | h4 | h4
   ·exact o6 h4
   ·subst h4; rw[my] at D ⊢; exact ve x y z B D
   ·rw[o5 h4] at D; cases D
  ·rw[o5 V] at B; cases B
theorem NO {a b p:Int} {x y:List Int} : lx ((p+a) :: x) ((p+b) :: y)=bif decide (a < b) then true else bif decide (b < a) then false else lx x y:=by
 conv=>lhs; unfold lx
 rw[show decide (p+a < p+b)=decide (a < b) by congr 1; exact propext ⟨λ h=>by omega,λ h=>by omega⟩,show decide (p+b < p+a)=decide (b < a) by congr 1; exact propext ⟨λ h=>by omega,λ h=>by omega⟩]
theorem c81 (k:Nat) (a b:Int):N8 k a b=some (if a < b then -1 else if b < a then 1 else 0):=by
 unfold N8 UI;simp only[Option.bind_some,bne_self_eq_false,cond_false];by_cases h:a < b
 ·rw[if_pos h,show decide (a < b)=true from decide_eq_true h]; rfl
 ·rw[if_neg h,show decide (a < b)=false from decide_eq_false h];by_cases D:b < a
  ·rw[if_pos D,show decide (a > b)=true from decide_eq_true D]; rfl
  ·rw[if_neg D,show decide (a > b)=false from decide_eq_false D]; rfl
theorem c80 (k:Nat) (x y z:Int) (hk:4<=k):Sw k [x,y,z]=some (if x≠0 then x else if y≠0 then y else z):=by
 obtain⟨k,rfl⟩:∃ j,k=j+4:=⟨k - 4,by omega⟩
 unfold Sw;have s0:∀ (K j:Nat),km K [x,y,z] (j+1) 0=(bif x != 0 then some (.inr x) else km K [x,y,z] j 1):=λ K j=>rfl;have s1:∀ (K j:Nat),km K [x,y,z] (j+1) 1=(bif y != 0 then some (.inr y) else km K [x,y,z] j 2):=λ K j=>rfl;have s2:∀ (K j:Nat),km K [x,y,z] (j+1) 2=(bif z != 0 then some (.inr z) else km K [x,y,z] j 3):=λ K j=>rfl;have s3:∀ (K j:Nat),km K [x,y,z] (j+1) 3=some (.inl ()):=λ K j=>rfl;rw[show k+4=(k+3)+1 from rfl,s0];by_cases B:x=0
 ·subst B;rw[show((0:Int) != 0)=false from rfl,cond_false,s1];by_cases D:y=0
  ·subst D;rw[show((0:Int) != 0)=false from rfl,cond_false,s2];by_cases V:z=0
   ·subst V; rw[show((0:Int) != 0)=false from rfl,cond_false,s3]; rfl
   ·rw[show(z != 0)=true from bne_iff_ne.mpr V,cond_true]; rfl
  ·rw[show(y != 0)=true from bne_iff_ne.mpr D,cond_true,if_neg (by simp),if_pos D]; rfl
 ·rw[show(x != 0)=true from bne_iff_ne.mpr B,cond_true,if_pos B]; rfl
def ck (c:cD) (R:List Int):List Int:=c.fA :: c.kT :: c.kU :: R
theorem c61 (k:Nat) (a b:cD) (hk:4<=k):∃ r,Sx k a b=some r/\(r≠0->∀ x y,lx (ck a x) (ck b y)=decide (r < 0))/\(r=0->∀ x y,lx (ck a x) (ck b y)=lx x y):=by
 obtain⟨a1,Z,a3⟩:=a;obtain⟨b1,b2,b3⟩:=b;unfold Sx ck;simp only[c81,c80 _ _ _ _ hk,Option.bind_some];by_cases h:a1=b1/\Z=b2/\a3=b3
 ·obtain⟨rfl,rfl,rfl⟩:=h;simp only[beq_self_eq_true,Bool.and_true,cond_true];exact⟨0,rfl,λ h=>absurd rfl h,λ _ x y=>by rw[my,my,my]⟩
 ·have hb:(a1 == b1 && (Z == b2 && (a3 == b3 && true)))=false:=by
   rw[Bool.eq_false_iff];intro e;simp only[Bool.and_true,Bool.and_eq_true,beq_iff_eq] at e;exact h e
  rw[hb,cond_false];refine⟨_,rfl,λ hr x y=>?_,λ hr x y=>?_⟩
  ·rcases Int.lt_trichotomy a1 b1 with B | B | B
   ·rw[o5 B,if_pos B]; rfl
   ·subst B;rw[my];rcases Int.lt_trichotomy Z b2 with D | D | D
    ·rw[o5 D,if_pos D]; simp
    ·subst D;rw[my];rcases Int.lt_trichotomy a3 b3 with V | V | V
     ·rw[o5 V,if_pos V]; simp
     ·subst V; exact absurd ⟨rfl,rfl,rfl⟩ h
     ·rw[o6 V,if_neg (show ¬ a3 < b3 by omega),if_pos V]; simp
    ·rw[o6 D,if_neg (show ¬ Z < b2 by omega),if_pos D]; simp
   ·rw[o6 B,if_neg (show ¬ a1 < b1 by omega),if_pos B]; simp
  ·exfalso;apply h;by_cases B:a1 < b1
   ·rw[if_pos B] at hr; simp at hr
   by_cases nG:b1 < a1
   ·rw[if_neg B,if_pos nG] at hr; simp at hr
   by_cases D:Z < b2
   ·rw[if_neg B,if_neg nG,if_pos D] at hr; simp at hr
   by_cases uE:b2 < Z
   ·rw[if_neg B,if_neg nG,if_neg D,if_pos uE] at hr; simp at hr
   by_cases V:a3 < b3
   ·rw[if_neg B,if_neg nG,if_neg D,if_neg uE,if_pos V] at hr; simp at hr
   by_cases DL:b3 < a3
   ·rw[if_neg B,if_neg nG,if_neg D,if_neg uE,if_neg V,if_pos DL] at hr; simp at hr
   exact⟨by omega,by omega,by omega⟩
inductive Ch (S:List ay):Option Nat->List Int->Prop
 | nil:Ch S none []
 | cons {j:Nat} {y:ay} {R:List Int} (h:S[j]? = some y) (G:Ch S y.ahead R):Ch S (some j) (y.bw :: R)
theorem Ch.yg {S:List ay} {p:Option Nat} {R R':List Int} (h:Ch S p R) (h':Ch S p R'):R=R':=by
 induction h generalizing R' with
 | nil=>cases h'; rfl
 | cons B _ ih=>
  cases h' with
  | cons D V=>
   rw[B] at D; cases D;rw[ih V]
theorem Ch.set {S:List ay} {p:Option Nat} {R:List Int} {z:ay} {i:Nat} (hT:TB S) (h:Ch S p R) (U:∀ j,p=some j->j / 4 < i / 4):Ch (S.set i z) p R:=by
 induction h with
 | nil=>exact .nil
 | @cons j y R B _ ih=>
  refine .cons (by rw[List.getElem?_set,if_neg (by have:=U j rfl; intro e; omega)]; exact B) (ih λ j' e=>?_);have:=(hT j y j' B e).2;have:=U j rfl;omega
def Cp (S:List ay) (z:ay):Option (Option Nat)->List Int->Prop
 | none,R=>R=[]
 | some none,R=>∃ R',R=z.bw :: R'/\Ch S z.ahead R'
 | some (some j),R=>Ch S (some j) R
theorem Cp.map {S:List ay} {z:ay} {p:Option Nat} {R:List Int} (h:Ch S p R):Cp S z (p.map some) R:=by
 cases h with
 | nil=>rfl
 | cons B D=>exact .cons B D
theorem Cp.yg {S:List ay} {z:ay} {p:Option (Option Nat)} {R R':List Int} (h:Cp S z p R) (h':Cp S z p R'):R=R':=by
 rcases p with _ | _ | j
 ·rw[h,h']
 ·obtain⟨u,rfl,hu⟩:=h;obtain⟨v,rfl,hv⟩:=h';rw[hu.yg hv]
 ·exact Ch.yg h h'
theorem Cp.step {S:List ay} {z y:ay} {p:Option (Option Nat)} {R:List Int} (h:Cp S z p R) (hy:tV z S p=some y):∃ R',R=y.bw :: R'/\Cp S z (y.ahead.map some) R':=by
 rcases p with _ | _ | j
 ·cases hy
 ·cases hy;obtain⟨u,rfl,hu⟩:=h;exact⟨u,rfl,.map hu⟩
 ·cases h with
  | cons B D=>
   have hy:S[j]? = some y:=hy;rw[B] at hy; cases hy;exact⟨_,rfl,.map D⟩
theorem Mz (k:Nat) (S:List ay) (z:ay) (hS:S.isEmpty=false) (hT:TB S) (hz:Cw S z):∀ (j:Nat) (p q:Option (Option Nat)) (ab ae:List Int),A3 S p->A3 S q->Cp S z p ab->Cp S z q ae->JB S p < j ->
  (jA k S z j p q=some (.inl ())/\ab=ae)\/∃ n,jA k S z j p q=some (.inr (n,S,z))/\decide (n < 0)=lx ab ae
 | 0,_,_,_,_,_,_,_,_,h=>by omega
 | j+1,p,q,ab,ae,U,hq,hA,hB,h=>by
  unfold jA Et;rw[hS,cond_false];cases B:p != q with
  | false=>
   have e:p=q:=by simpa using B
   subst e;exact .inl ⟨rfl,hA.yg hB⟩
  | true=>
   rw[cond_true];cases D:p.isNone with
   | true=>
    have e:p=none:=by simpa using D
    subst e;have hA:ab=[]:=hA;subst hA;have SO:q≠none:=λ e=>by subst e; cases B
    obtain⟨y,hy⟩:=sv (z:=z) hq SO;obtain⟨R',rfl,_⟩:=hB.step hy;exact .inr ⟨-1,rfl,rfl⟩
   | false=>
    rw[cond_false];have KZ:p≠none:=λ e=>by subst e; cases D
    obtain⟨y,hy⟩:=sv (z:=z) U KZ;obtain⟨A',rfl,hA'⟩:=hA.step hy;cases V:q.isNone with
    | true=>
     have e:q=none:=by simpa using V
     subst e;have hB:ae=[]:=hB;subst hB;exact .inr ⟨1,rfl,rfl⟩
    | false=>
     rw[cond_false];have SO:q≠none:=λ e=>by subst e; cases V
     obtain⟨y',yr⟩:=sv (z:=z) hq SO;obtain⟨B',rfl,hB'⟩:=hB.step yr;simp only[gq hy,gq yr];cases h4:y.bw != y'.bw with
     | true=>
      have Ko:y.bw≠y'.bw:=by simpa using h4
      rw[cond_true,c81,Option.bind_some];refine .inr ⟨_,rfl,?_⟩;by_cases h5:y.bw < y'.bw
      ·rw[if_pos h5,o5 h5]; rfl
      ·rw[if_neg h5,if_pos (by omega),o6 (by omega)]; rfl
     | false=>
      have Ko:y.bw=y'.bw:=by simpa using h4
      rw[cond_false,Ko,my];obtain⟨a1,Z⟩:=qA hT hz U hy;obtain⟨b1,_⟩:=qA hT hz hq yr;rcases Mz k S z hS hT hz j _ _ A' B' a1 b1 hA' hB' (by omega) with⟨h6,h7⟩ | h6
      ·exact .inl ⟨h6,by rw[h7]⟩
      ·exact .inr h6
theorem c62 (k:Nat) (S:List ay) (z:ay) (hS:S.isEmpty=false) (hT:TB S) (hz:Cw S z) (p q:Option (Option Nat)) (ab ae:List Int) (U:A3 S p) (hq:A3 S q) (hA:Cp S z p ab) (hB:Cp S z q ae) (hk:S.length+2 < k):∃ n,zp k p q S z=some (n,S,z)/\decide (n < 0)=lx ab ae:=by
 have hr:JB S p < k:=by
  rcases p with _ | _ | i
  ·show 0 < k; omega
  ·exact hk
  ·have:=U i rfl;show i / 4+1 < k;omega
 unfold zp;rcases Mz k S z hS hT hz k p q ab ae U hq hA hB hr with⟨B,D⟩ | ⟨n,B,D⟩
 ·rw[B];subst D;exact⟨0,rfl,(zG ab).symm⟩
 ·rw[B];exact⟨n,rfl,D⟩
def kk (y:ay) (R:List Int):List Int:=y.bj :: y.aR :: y.aO :: R
theorem c32 (k:Nat) (S:List ay) (z y y':ay) (hS:S.isEmpty=false) (hT:TB S) (hz:Cw S z) (p q:Option (Option Nat)) (U:A3 S p) (hq:A3 S q) (hy:tV z S p=some y) (yr:tV z S q=some y') (ab:List Int) (hA:Cp S z p ab) (hB:y'.gE=true->∃ ae,Cp S z q ae) (hk:S.length+4 < k) :
  ∃ t,nX k p q S z=some (t,S,z)/\(y'.gE=false->t=true)/\(y'.gE=true->∀ ae,Cp S z q ae->t=lx (kk y ab) (kk y' ae)):=by
 unfold nX;simp only[gq hy,gq yr];cases B:y'.gE with
 | false=>exact⟨true,rfl,λ _=>rfl,λ e=>by cases e⟩
 | true=>
  simp only[Bool.not_true,cond_false];obtain⟨r,hr,r1,r2⟩:=c61 k (cD.mk y.bj y.aR y.aO) (cD.mk y'.bj y'.aR y'.aO) (by omega);rw[hr,Option.bind_some];by_cases D:r=0
  ·rw[show(r != 0)=false by rw[D]; rfl,cond_false];obtain⟨ae,hB⟩:=hB B;obtain⟨n,hn,hl⟩:=c62 k S z hS hT hz p q ab ae U hq hA hB (by omega);rw[hn];refine⟨_,rfl,λ e=>(by cases e),λ _ B' hB'=>?_⟩;have:=hB.yg hB';subst this;rw[hl];exact(r2 D ab ae).symm
  ·rw[show(r != 0)=true from bne_iff_ne.mpr D,cond_true];exact⟨_,rfl,λ e=>(by cases e),λ _ B' _=>(r1 D ab B').symm⟩
theorem FK {α β:Type} {x:Option α} {f:α->Option β} {P:α->Prop} {Q:β->Prop} (h:∃ r,x=some r/\P r) (D:∀ v,P v->∃ r,f v=some r/\Q r):∃ r,x.bind f=some r/\Q r:=by
 obtain⟨v,rfl,hv⟩:=h;exact D v hv
theorem Oa {α:Type} {c:Bool} {u v:Option α} {Q:α->Prop} (B:c=true->∃ r,u=some r/\Q r) (D:c=false->∃ r,v=some r/\Q r):∃ r,(bif c then u else v)=some r/\Q r:=by
 cases c with
 | true=>exact B rfl
 | false=>exact D rfl
theorem LX {x n:Int} (h0:0<=x) (B:x<=n):0<=x * x/\x * x<=n * n:=⟨Int.mul_nonneg h0 h0,Int.mul_le_mul B B h0 (by omega)⟩
def Bd (r:Int):Prop:=-1000000000<=r/\r<=1000000000
theorem b52 (k:Nat) (L:List au) (x y:bI):∃ r,IS k L x y=some r/\Bd r:=by
 have c77:∀ n lo N:Int,lo<=N->∃ r,ON k n lo N=some r/\(lo<=r/\r<=N):=λ n lo N h=>⟨_,rfl,by split <;> split at * <;> omega,by split <;> split <;> omega⟩
 unfold IS;refine FK (c77 y.fA 0 10000 (by decide)) λ r1 YM=>?_;obtain⟨q0,q1⟩:=LX (x:=10+r1) (n:=10010) (by omega) (by omega);have e1:w (10+r1)=10+r1:=cj (by omega) (by omega);have e2:w ((10+r1) * (10+r1))=(10+r1) * (10+r1):=cj (by omega) (by omega);rw[e1,e2];generalize (10+r1) * (10+r1)=s at q0 q1;refine FK (P:=λ v=>v=true->0<=y.bf/\y.bf < (L.length:Int)) (Oa (λ h=>FK (P:=λ v=>v=true->0<=y.bf/\y.bf < (L.length:Int)) (Oa (λ h'=>?_) (λ h'=>⟨false,rfl,λ e=>by cases e⟩)) λ v hv=>⟨v,rfl,hv⟩) (λ h=>⟨false,rfl,λ e=>by cases e⟩)) λ v1 FB=>?_
 ·have B:=of_decide_eq_true h;have D:=of_decide_eq_true h';obtain⟨u,hu⟩:=eV (L:=L) (i:=y.bf) B D;rw[aQ B hu];exact⟨_,rfl,λ _=>⟨B,D⟩⟩
 refine FK (P:=λ v=>-200000000<=v/\v<=300000000) (Oa (λ h=>?_) (λ h=>⟨s,rfl,by omega,by omega⟩)) λ v4 hv4=>?_
 ·obtain⟨B,D⟩:=FB h;obtain⟨u,hu⟩:=eV (L:=L) (i:=y.bf) B D;rw[aQ B hu];refine FK (P:=λ v=>-200000000<=v/\v<=300000000) (Oa (λ h=>?_) (λ h=>Oa (λ h'=>?_) (λ h'=>⟨s,rfl,by omega,by omega⟩))) λ v hv=>⟨v,rfl,hv⟩
  ·have V:=of_decide_eq_true h;obtain⟨z0,z1⟩:=LX (x:=if 10000 < u.value then 10000 else u.value) (n:=10000) (by split <;> omega) (by split <;> omega);rw[cj (n:=(if 10000 < u.value then 10000 else u.value) * (if 10000 < u.value then 10000 else u.value)) (by omega) (by omega),cj (by omega) (by omega)];exact⟨_,rfl,by omega,by omega⟩
  ·have V:=of_decide_eq_false h;have h4:=of_decide_eq_true h';obtain⟨z0,z1⟩:=LX (x:=-u.value) (n:=10000) (by omega) (by omega);rw[Int.neg_mul_neg] at z0 z1;rw[cj (n:=u.value * u.value) (by omega) (by omega),cj (by omega) (by omega)];exact⟨_,rfl,by omega,by omega⟩
 refine FK (P:=λ v=>(-200000000<=v.1/\v.1<=300003000)/\(0<=v.2/\v.2<=3)) (Oa (λ h=>FK (c77 x.aI 0 3 (by decide)) λ Su Y8=>FK (P:=λ _=>True) (Oa (λ _=>⟨_,rfl,trivial⟩) (λ _=>⟨_,rfl,trivial⟩)) λ v9 _=>Oa (λ _=>?_) (λ _=>⟨_,rfl,⟨hv4.1,by show v4<=_; omega⟩,Y8⟩)) (λ h=>⟨_,rfl,⟨hv4.1,by show v4<=_; omega⟩,by show(0:Int)<=1; decide,by show(1:Int)<=3; decide⟩)) λ v hv=>?_
 ·rw[cj (by omega) (by omega)];exact⟨_,rfl,⟨by show _<=v4+3000; omega,by show v4+3000<=_; omega⟩,Y8⟩
 obtain⟨v7,v8⟩:=v;refine FK (c77 y.aI 0 3 (by decide)) λ Wj Zc=>FK (P:=λ _=>True) (Oa (λ _=>⟨_,rfl,trivial⟩) (λ _=>⟨_,rfl,trivial⟩)) λ v10 _=>FK (P:=λ v=>-1000000000<=v/\v<=1000000000) (Oa (λ _=>?_) (λ _=>⟨_,rfl,by have:=hv.1.1; simp only at this; omega,by have:=hv.1.2; simp only at this; omega⟩)) λ v11 QF=>⟨v11,rfl,QF⟩
 have B:=hv.1.1;have D:=hv.1.2;simp only at B D;rw[cj (by omega) (by omega)];exact⟨_,rfl,by omega,by omega⟩
theorem d52 {k:Nat} {L:List au} {x x' y:bI} (B:decide (x.first>=0)=decide (x'.first>=0)) (D:x.aI=x'.aI) (V:x.bx=x'.bx):IS k L x y=IS k L x' y:=by
 unfold IS;rw[B,D,V]
def OZ:bI:=bI.mk (-1) 0 0 0 0 0 0 0 0 false false false 0 0
def hd:List Int->Int
 | []=>-1
 | t :: _=>t
def dW (k:Nat) (L:List au) (a:Int):List Int->bI
 | []=>OZ
 | t :: R=>((AZ k L a (hd R) t).getD (OZ,0)).1
def dm (k:Nat) (L:List au) (x y:bI):Int:=(IS k L x y).getD 0
theorem HV (k:Nat) (L:List au) (x y:bI):IS k L x y=some (dm k L x y)/\Bd (dm k L x y):=by
 obtain⟨r,h,hb⟩:=b52 k L x y;unfold dm;rw[h];exact⟨rfl,hb⟩
def bd (b:Int) (y:bI):Int:=bif y.bB then 1 else bif decide (y.fA > b) then 1 else 0
def cB (k:Nat) (L:List au) (a b:Int):List Int->Int
 | []=>0
 | t :: R=>bd b (dW k L a (t :: R))+cB k L a b R
def cT (k:Nat) (L:List au) (a:Int):List Int->Int
 | []=>0
 | t :: R=>cT k L a R+dm k L (dW k L a R) (dW k L a (t :: R))
theorem LY (b:Int) (y:bI):0<=bd b y/\bd b y<=1:=by
 unfold bd;cases y.bB <;> cases decide (y.fA > b) <;> exact⟨by decide,by decide⟩
theorem LZ (k:Nat) (L:List au) (a b:Int):∀ R:List Int,0<=cB k L a b R/\cB k L a b R<=R.length
 | []=>⟨Int.le_refl _,Int.le_refl _⟩
 | t :: R=>by
  have B:=LZ k L a b R;have D:=LY b (dW k L a (t :: R));have e:cB k L a b (t :: R)=bd b (dW k L a (t :: R))+cB k L a b R:=rfl;rw[e,List.length_cons];omega
theorem L0 (k:Nat) (L:List au) (a:Int):∀ R:List Int,-(1000000000 * (R.length:Int))<=cT k L a R/\cT k L a R<=1000000000 * R.length
 | []=>⟨Int.le_refl _,Int.le_refl _⟩
 | t :: R=>by
  have B:=L0 k L a R;have D:=(HV k L (dW k L a R) (dW k L a (t :: R))).2;have e:cT k L a (t :: R)=cT k L a R+dm k L (dW k L a R) (dW k L a (t :: R)):=rfl;unfold Bd at D;rw[e,List.length_cons];omega
def key (k:Nat) (L:List au) (a b:Int) (R:List Int):List Int:=cB k L a b R :: cT k L a R :: (R.length:Int) :: R
theorem mono {k:Nat} {L:List au} {a b:Int} {t:Int} {R R':List Int} (hh:hd R=hd R') (B:decide ((dW k L a R).first>=0)=decide ((dW k L a R').first>=0)) (D:(dW k L a R).aI=(dW k L a R').aI) (V:(dW k L a R).bx=(dW k L a R').bx) :
  dW k L a (t :: R)=dW k L a (t :: R')/\lx (key k L a b (t :: R)) (key k L a b (t :: R'))=lx (key k L a b R) (key k L a b R'):=by
 have e:dW k L a (t :: R)=dW k L a (t :: R'):=by
  show((AZ k L a (hd R) t).getD (OZ,0)).1=((AZ k L a (hd R') t).getD (OZ,0)).1;rw[hh]
 refine⟨e,?_⟩;have e2:dm k L (dW k L a R) (dW k L a (t :: R))=dm k L (dW k L a R') (dW k L a (t :: R')):=by
  unfold dm;rw[e,d52 B D V]
 unfold key;have k1:∀ {p x y:Int} {u v:List Int},lx ((p+x) :: u) ((p+y) :: v)=bif decide (x < y) then true else bif decide (y < x) then false else lx u v:=NO
 rw[show cB k L a b (t :: R)=bd b (dW k L a (t :: R))+cB k L a b R from rfl,show cB k L a b (t :: R')=bd b (dW k L a (t :: R'))+cB k L a b R' from rfl,e,k1];rw[show cT k L a (t :: R)=dm k L (dW k L a R) (dW k L a (t :: R))+cT k L a R from Int.add_comm _ _,show cT k L a (t :: R')=dm k L (dW k L a R') (dW k L a (t :: R'))+cT k L a R' from Int.add_comm _ _,e2,k1];rw[show((t :: R).length:Int)=1+R.length by rw[List.length_cons]; omega,show((t :: R').length:Int)=1+R'.length by rw[List.length_cons]; omega,k1,my];rfl
structure IX (k:Nat) (L:List au) (W:List Int):Prop where
 len:L.length<=4096
 Cx:W.length<=L.length
 asc:W.Pairwise (· < ·)
 WQ:∀ x∈W,0<=x/\x < (L.length:Int)
 leg:∀ x∈W,DO k L x=some true
 all:∀ t:Nat,t < L.length->DO k L t=some true->(t:Int)∈W
 chk:DQ k L=some 0
 PK:∀ (t:Nat) (y:au),L[t]? = some y->u0 y
theorem E6 (k:Nat) (L:List au) (hl:L.length<=4096):∀ (j i:Nat) (ab:List Int),i<=L.length->o4 k L j i=some ab->ab.Pairwise (· < ·)/\(∀ x∈ab,(i:Int)<=x)/\∀ x∈ab,DO k L x=some true
 | 0,i,ab,_,h=>by cases h
 | j+1,i,ab,N,h=>by
  unfold o4 at h;by_cases kD:i < L.length
  ·rw[decide_eq_true (show(i:Int) < L.length by omega),cond_true] at h;obtain⟨c,hc,h⟩:=bind_some h;obtain⟨ae,hB,h⟩:=bind_some h;rw[cj (by omega) (by omega),show(i:Int)+1=((i+1:Nat):Int) by omega] at hB;obtain⟨p1,p2,p3⟩:=E6 k L hl j (i+1) ae (by omega) hB;cases c with
   | false=>
    have h:=Option.some.inj h;subst h;exact⟨p1,λ x Y=>by have:=p2 x Y; omega,p3⟩
   | true=>
    have h:=Option.some.inj h;subst h;refine⟨List.pairwise_cons.2 ⟨λ x Y=>by have:=p2 x Y; omega,p1⟩,λ x Y=>?_,λ x Y=>?_⟩
    ·rcases List.mem_cons.1 Y with rfl | Y
     ·exact Int.le_refl _
     ·have:=p2 x Y; omega
    ·rcases List.mem_cons.1 Y with rfl | Y
     ·exact hc
     ·exact p3 x Y
  ·rw[decide_eq_false (show ¬ (i:Int) < L.length by omega),cond_false] at h;have h:=Option.some.inj h;subst h;exact⟨List.Pairwise.nil,λ x Y=>(by cases Y),λ x Y=>(by cases Y)⟩
theorem MA (k:Nat) (L:List au) (h0:DQ k L=some 0) (hk:L.length < k):∃ W,HD k L=some W/\zo k W=some (W,W)/\IX k L W:=by
 obtain⟨r,hr,hg⟩:=Q9 k L hk;rw[h0] at hr;obtain⟨hl,hg⟩:=hg (Option.some.inj hr).symm;obtain⟨ab,a1,Z,a3,a4⟩:=Da k L hl k 0 (by omega) (by omega);obtain⟨b1,b2,b3⟩:=E6 k L hl k 0 ab (by omega) a1;refine⟨ab,?_,?_,hl,by omega,b1,λ x Y=>⟨by have:=(a3 x Y).1; omega,(a3 x Y).2⟩,b3,λ t B D=>a4 t (Nat.zero_le _) B D,h0,λ t y hy=>C9 hg hy⟩
 ·unfold HD UF;have AG:o4 k L k 0=some ab:=a1;rw[h0,Option.bind_some];simp only[beq_self_eq_true,cond_true,Option.bind_some,AG,Q0 k ab [] (by simp; omega),List.nil_append]
 ·unfold zo Ev uc;rw[show Nat.ble (ab.length+2) 9223372036854775808=true by rw[Nat.ble_eq]; omega,cond_true,OD k ab [] (by simp; omega)];rfl
theorem pq {W:List Int} {n:Nat} (h:n < W.length):W[n]? = some (W.getD n 0)/\W.getD n 0∈W:=by
 rw[List.getD_eq_getElem?_getD,List.getElem?_eq_getElem h];exact⟨rfl,List.getElem_mem _⟩
theorem IX.lt {k:Nat} {L:List au} {W:List Int} (h:IX k L W) {i j:Nat} (rC:i < j) (X:j < W.length):W.getD i 0 < W.getD j 0:=by
 rw[List.getD_eq_getElem?_getD,List.getD_eq_getElem?_getD,List.getElem?_eq_getElem X,List.getElem?_eq_getElem (by omega)];exact List.pairwise_iff_getElem.1 h.asc i j (by omega) X rC
theorem IX.RA {k:Nat} {L:List au} {W:List Int} (h:IX k L W) {i j:Nat} (N:i < W.length) (rC:W.getD i 0 < W.getD j 0):i < j:=by
 rcases Nat.lt_trichotomy i j with B | B | B
 ·exact B
 ·subst B; omega
 ·have:=h.lt B N; omega
theorem IX.at {k:Nat} {L:List au} {W:List Int} (h:IX k L W) {t:Int} (ht:t∈W):∃ n,n < W.length/\W.getD n 0=t:=by
 obtain⟨n,hn,e⟩:=List.mem_iff_getElem.1 ht;exact⟨n,hn,by rw[List.getD_eq_getElem?_getD,List.getElem?_eq_getElem hn]; exact e⟩
theorem MB (L:List au) (W:List Int):∀ (n i:Nat),i < n->OY L (W.getD i 0)=true->(i:Int)<=fj L W n
 | 0,i,h,_=>by omega
 | n+1,i,h,hf=>by
  unfold fj;split
  ·omega
  ·rename_i hn;by_cases e:i=n
   ·subst e; exact absurd hf hn
   ·exact MB L W n i (by omega) hf
def bW (L:List au) (f t:Int):Prop:=∀ (s:Nat) (y:au),f < s->(s:Int) < t->L[s]? = some y->DW y=false
theorem NP {L:List au} {f t:Int} (h0 : -1<=f):bW L f t↔((L.take t.toNat).drop (f+1).toNat).any DW=false:=by
 constructor
 ·intro h;rw[List.any_eq_false];intro y hy;obtain⟨s,hs⟩:=List.mem_iff_getElem?.1 hy;rw[List.getElem?_drop,List.getElem?_take] at hs;split at hs
  ·have:=h _ y (by omega) (by omega) hs;rw[this]; exact Bool.false_ne_true
  ·cases hs
 ·intro h s y B D hy;rw[List.any_eq_false] at h;have:y∈(L.take t.toNat).drop (f+1).toNat:=by
   refine List.mem_of_getElem? (i:=s - (f+1).toNat) ?_;rw[List.getElem?_drop,List.getElem?_take,if_pos (by omega),show(f+1).toNat+(s - (f+1).toNat)=s by omega];exact hy
  have:=h y this;simpa using this
theorem E7 {k:Nat} {L:List au} {W:List Int} (h:IX k L W) {n:Nat} {f:Int} (hf:f = -1/\fj L W n = -1\/∃ m:Nat,f=W.getD m 0/\fj L W n<=m/\m < n) (hn:n < W.length):bW L f (W.getD n 0):=by
 intro s y B D hy;cases e:DW y with
 | false=>rfl
 | true=>
  exfalso;have hl:=wZ k L s y hy e;obtain⟨i,N,kD⟩:=h.at (h.all s (by have:=(List.getElem?_eq_some_iff.1 hy).1; exact this) hl);have wb:i < n:=h.RA N (by omega);have ad1:OY L (W.getD i 0)=true:=by
   unfold OY;rw[kD,show((s:Int)).toNat=s by omega,hy];exact e
  have:=MB L W n i wb ad1;rcases hf with⟨rfl,V⟩ | ⟨m,rfl,V,h4⟩
  ·omega
  ·have:=h.RA (i:=m) (j:=i) (by omega) (by omega);omega
theorem E8 {k:Nat} {L:List au} {W:List Int} {a f t:Int} (h:IX k L W) (hk:L.length < k) (ha:1<=a) (uM:a<=536870912) (h0 : -1<=f) (ht:t∈W) (hft:f < t) (hf:f>=0->f∈W) (jj:bW L f t):HU k L a f t:=by
 obtain⟨t0,t1⟩:=h.WQ t ht;refine⟨h.len,h.PK,ha,uM,h0,hft,t1,h.leg t ht,λ B=>h.leg f (hf B),?_,h.chk⟩;have:=(NP h0).1 jj;refine Qu k _ (by simp; have:=h.len; omega) (by simp; omega) λ s y hy=>?_;have:=List.any_eq_false.1 this y (List.mem_of_getElem? hy);simpa [DW] using this
theorem p76 {k:Nat} {x r:bI} (h:F1 k x=some r):r.first=x.first/\r.bx=x.bx/\r.bf=x.bf:=by
 unfold F1 at h;obtain⟨p,U,h⟩:=bind_some h;rw[<- Option.some.inj h];exact⟨rfl,rfl,rfl⟩
def ZC (L:List au) (t:Int):Bool:=match L[t.toNat]? with
 | some y=>bif y.aM == 4 then y.cR else false
 | none=>false
theorem UP {k:Nat} {L:List au} {a f t:Int} (h:HU k L a f t) (hk:L.length < k):∃ r,DD k L a f t=some r/\AZ k L a f t=some (r,0)/\0<=r.first/\r.bx=ZC L t/\r.bf=t/\HF r:=by
 have hl:=h.len;have h0:=h.f1;obtain⟨v1,v7,n,b,c,u,v,y,hc⟩:=Qt k L f t hl hk h.PK h0 h.f2 h.f3;obtain⟨r,hr,_⟩:=l59 k L a f t hk;rw[g34 k L a f t h] at hr;obtain⟨r',B,D⟩:=bind_some hr;refine⟨r',B,by rw[g34 k L a f t h,B]; rfl,?_⟩;have V:=B;rw[hc.eq a] at V;obtain⟨q1,q2,q3⟩:=p76 V;refine⟨?_,?_,q3,c51 B⟩
 ·rw[q1];have:=hc.lo;show 0<=v1;omega
 ·rw[q2];unfold ZC;rw[hc.QU];show(qg y n u v).2.1=_;unfold qg;dsimp only;cases y.aM == 4 <;> rfl
inductive mI (L:List au) (W:List Int):Nat->List Int->Prop
 | one {n:Nat} (h:fj L W n = -1):mI L W n [W.getD n 0]
 | jU {n m:Nat} {R:List Int} (B:fj L W n<=m) (D:m < n) (G:mI L W m R):mI L W n (W.getD n 0 :: R)
theorem mI.hd {L:List au} {W:List Int} {n:Nat} {R:List Int} (h:mI L W n R):hd R=W.getD n 0:=by cases h <;> rfl
theorem mI.len {L:List au} {W:List Int} {n:Nat} {R:List Int} (h:mI L W n R):R.length<=n+1:=by
 induction h with
 | one _=>simp
 | jU _ _ _ ih=>rw[List.length_cons]; omega
def JC (L:List au) (W:List Int) (n:Nat) (f:Int):Prop:=f = -1/\fj L W n = -1\/∃ m:Nat,f=W.getD m 0/\fj L W n<=m/\m < n
theorem mI.from {L:List au} {W:List Int} {n:Nat} {R:List Int} (h:mI L W n R):∃ R',R=W.getD n 0 :: R'/\JC L W n (jV.hd R'):=by
 cases h with
 | one h=>exact⟨[],rfl,.inl ⟨rfl,h⟩⟩
 | jU B D G=>exact⟨_,rfl,.inr ⟨_,G.hd,B,D⟩⟩
theorem E9 {k:Nat} {L:List au} {W:List Int} {a:Int} {n:Nat} {f:Int} (h:IX k L W) (hk:L.length < k) (ha:1<=a) (uM:a<=536870912) (hn:n < W.length) (hf:JC L W n f):HU k L a f (W.getD n 0):=by
 have hm:=(pq hn).2;obtain⟨q0,q1⟩:=h.WQ _ hm;rcases hf with⟨rfl,B⟩ | ⟨m,rfl,B,D⟩
 ·exact E8 h hk ha uM (by omega) hm (by omega) (λ e=>by omega) (E7 h (.inl ⟨rfl,B⟩) hn)
 ·have AF:=(pq (W:=W) (n:=m) (by omega)).2;obtain⟨r0,r1⟩:=h.WQ _ AF;exact E8 h hk ha uM (by omega) hm (h.lt D hn) (λ _=>AF) (E7 h (.inr ⟨m,rfl,B,D⟩) hn)
theorem L1 {k:Nat} {L:List au} {W:List Int} {a:Int} {n:Nat} {R:List Int} (h:IX k L W) (hk:L.length < k) (ha:1<=a) (uM:a<=536870912) (hn:n < W.length) (hf:JC L W n (hd R)) :
  DD k L a (hd R) (W.getD n 0)=some (dW k L a (W.getD n 0 :: R))/\AZ k L a (hd R) (W.getD n 0)=some (dW k L a (W.getD n 0 :: R),0)/\0<=(dW k L a (W.getD n 0 :: R)).first/\(dW k L a (W.getD n 0 :: R)).bx=ZC L (W.getD n 0)/\(dW k L a (W.getD n 0 :: R)).bf=W.getD n 0/\HF (dW k L a (W.getD n 0 :: R)):=by
 obtain⟨r,B,D,V,h4,h5,h6⟩:=UP (E9 h hk ha uM hn hf) hk;have e:dW k L a (W.getD n 0 :: R)=r:=by
  show((AZ k L a (hd R) (W.getD n 0)).getD (OZ,0)).1=r;rw[D]; rfl
 rw[e];exact⟨B,D,V,h4,h5,h6⟩
theorem Yh {k:Nat} {L:List au} {W:List Int} {a b t:Int} {m:Nat} {R R':List Int} (h:IX k L W) (hk:L.length < k) (ha:1<=a) (uM:a<=536870912) (hm:m < W.length) (B:mI L W m R) (D:mI L W m R') (hc:(dW k L a R).aI=(dW k L a R').aI) :
  dW k L a (t :: R)=dW k L a (t :: R')/\lx (key k L a b (t :: R)) (key k L a b (t :: R'))=lx (key k L a b R) (key k L a b R'):=by
 obtain⟨ab,rfl,f1⟩:=B.from;obtain⟨ae,rfl,f2⟩:=D.from;obtain⟨_,_,p1,p2,_⟩:=L1 h hk ha uM hm f1;obtain⟨_,_,q1,q2,_⟩:=L1 h hk ha uM hm f2;exact mono rfl (by rw[decide_eq_true (by omega),decide_eq_true (by omega)]) hc (by rw[p2,q2])
def gl (y:ay):bI:=bI.mk y.lq y.mP y.bw y.ja y.jb y.jQ y.lr y.ph y.lu y.mQ y.jR y.pk y.jS y.ly
structure IY (k:Nat) (L:List au) (a b:Int) (S:List ay) (y:ay) (R:List Int):Prop where
 is:y.gE=true
 PL:gl y=dW k L a R
 fA:y.bj=cB k L a b R
 tot:y.aR=cT k L a R
 O1:y.aO=R.length
 ch:∃ R',R=y.bw :: R'/\Ch S y.ahead R'
section
variable {k:Nat} {L:List au} {a b:Int} {S:List ay}
theorem IY.kk {y:ay} {R:List Int} (h:IY k L a b S y R):kk y R=key k L a b R:=by unfold jV.kk key; rw[h.fA,h.tot,h.O1]
theorem IY.cp {y z:ay} {R:List Int} {i:Nat} (h:IY k L a b S y R) (N:S[i]? = some y):Cp S z (some (some i)) R:=by
 obtain⟨R',rfl,G⟩:=h.ch;exact .cons N G
theorem IY.set {y z:ay} {R:List Int} {i:Nat} (hT:TB S) (h:IY k L a b S y R) (N:∀ j,y.ahead=some j->j / 4 < i / 4):IY k L a b (S.set i z) y R:=by
 obtain⟨R',e,G⟩:=h.ch;exact⟨h.is,h.PL,h.fA,h.tot,h.O1,R',e,G.set hT N⟩
def Gb (k:Nat) (L:List au) (a b:Int) (S:List ay) (i:Nat) (jI:List Int->Prop):Prop:=
 ∃ y,S[i]? = some y/\(y.gE=false->∀ R,¬ jI R)/\(y.gE=true->∃ R,IY k L a b S y R/\jI R/\∀ R',jI R'->lx (key k L a b R') (key k L a b R)=false)
theorem Gb.congr {i:Nat} {c c':List Int->Prop} (h:Gb k L a b S i c) (e:∀ R,c R↔c' R):Gb k L a b S i c':=by
 obtain⟨y,hy,B,D⟩:=h;refine⟨y,hy,λ q R G=>B q R ((e R).2 G),λ q=>?_⟩;obtain⟨R,r1,r2,r3⟩:=D q;exact⟨R,r1,(e R).1 r2,λ R' ma=>r3 R' ((e R').2 ma)⟩
theorem Gb.set {i i':Nat} {z:ay} {jI:List Int->Prop} (hT:TB S) (ee:i'≠i) (N:i' / 4<=i / 4\/∀ R,¬ jI R) (h:Gb k L a b S i' jI):Gb k L a b (S.set i z) i' jI:=by
 obtain⟨y,hy,B,D⟩:=h;refine⟨y,by rw[List.getElem?_set,if_neg (λ e=>ee e.symm)]; exact hy,B,λ q=>?_⟩;obtain⟨R,r1,r2,r3⟩:=D q;rcases N with N | N
 ·exact⟨R,r1.set hT λ j X=>by have:=(hT i' y j hy X).2; omega,r2,r3⟩
 ·exact absurd r2 (N R)
theorem c60 (n ak:Nat) (y:bI) (e:Option Nat) (R':List Int) (t:Int) (m:aE) (W:List Int) (hS:S.length=4 * ak) (hn:n < ak) (hy:HF y) (he:∀ j,e=some j->j < S.length/\j / 4 < n) (hT:TB S) (hk:S.length+4 < k)
  (G:Ch S e R') (hu:∀ j,e=some j->∃ u,S[j]? = some u/\IY k L a b S u R') (K2:y=dW k L a (t :: R')) (hb:y.bf=t) (hlen:R'.length<=5000)
  (hold:∀ u,S[4 * n+y.aI.toNat]? = some u->u.gE=true->∃ ae,IY k L a b S u ae) :
  ∃ S',tE k n y e m L a b W ak S=some (m,L,a,b,W,S')/\S'.length=S.length/\TB S' /\
   (∀ (i:Nat) (jI:List Int->Prop),i≠4 * n+y.aI.toNat->(i / 4<=n\/∀ R,¬ jI R)->Gb k L a b S i jI->Gb k L a b S' i jI) /\
   ∀ (jI rV:List Int->Prop),Gb k L a b S (4 * n+y.aI.toNat) jI->(∀ R,jI R->rV R)->rV (t :: R')->(∀ R,rV R->jI R\/lx (key k L a b R) (key k L a b (t :: R'))=false)->Gb k L a b S' (4 * n+y.aI.toNat) rV:=by
 unfold tE;obtain⟨v1,FB,xQ⟩:∃ v,(bif y.bB then(some true) else(some (decide (y.fA > b))):Option Bool)=some v/\(bif v then(some 1) else(some 0):Option Int)=some (bd b y):=by
  unfold bd;cases y.bB with
  | true=>exact⟨_,rfl,rfl⟩
  | false=>cases decide (y.fA > b) <;> exact⟨_,rfl,rfl⟩
 rw[FB,Option.bind_some,xQ,Option.bind_some];have N:4 * Int.toNat (n:Int)+Int.toNat y.aI < S.length:=by have:=hy.1; have:=hy.2; omega
 have kD:4 * Int.toNat (n:Int)+Int.toNat y.aI=4 * n+y.aI.toNat:=by omega
 have hi4:(4 * n+Int.toNat y.aI) / 4=n:=by have:=hy.1; have:=hy.2; omega
 rw[kD] at N;rw[kD];obtain⟨u,O2⟩:∃ u,S[4 * n+y.aI.toNat]? = some u:=⟨_,List.getElem?_eq_getElem N⟩
 have rest:∀ v6:ay,v6.ahead=e->IY k L a b S v6 (t :: R')->∃ S',(eZ (n:Int) ak (eZ y.aI 4 ((nX k (some none) (some (some (4 * n+Int.toNat y.aI))) S v6).bind λ uT=>
   Option.bind (α:=List ay) (bif uT.1 then(ir uT.2.2 uT.2.1 (some (some (4 * n+Int.toNat y.aI))) λ AW=>
   some (List.set uT.2.1 (4 * n+Int.toNat y.aI) uT.2.2)) else(some uT.2.1)) λ(v11:List ay)=>
   some (m,L,a,b,W,v11))))=some (m,L,a,b,W,S')/\S'.length=S.length/\TB S' /\
   (∀ (i:Nat) (jI:List Int->Prop),i≠4 * n+y.aI.toNat->(i / 4<=n\/∀ R,¬ jI R)->Gb k L a b S i jI->Gb k L a b S' i jI) /\
   ∀ (jI rV:List Int->Prop),Gb k L a b S (4 * n+y.aI.toNat) jI->(∀ R,jI R->rV R)->rV (t :: R')->(∀ R,rV R->jI R\/lx (key k L a b R) (key k L a b (t :: R'))=false)->Gb k L a b S' (4 * n+y.aI.toNat) rV:=λ v6 hv6 rG=>by
  unfold eZ;rw[if_pos ⟨by omega,by omega⟩,if_pos ⟨hy.1,hy.2⟩];have Yi:Cw S v6:=λ j X=>(he j (hv6 ▸ X)).1;have Ux:Cp S v6 (some none) (t :: R'):=by
   obtain⟨R1,e1,e2⟩:=rG.ch;exact⟨R1,e1,e2⟩
  obtain⟨q,ht,t1,t2⟩:=c32 k S v6 v6 u (by cases S with | nil=>simp at N | cons _ _=>rfl) hT Yi (some none) (some (some (4 * n+Int.toNat y.aI))) (λ i h=>by cases h) (λ i h=>by cases h; exact N) rfl O2 (t :: R') Ux (λ hb=>by
   obtain⟨ae,hB⟩:=hold u O2 hb;exact⟨ae,hB.cp O2⟩) hk
  rw[ht,Option.bind_some];cases q with
  | false=>
   have SP:u.gE=true:=by cases h:u.gE with | true=>rfl | false=>cases t1 h
   refine⟨S,rfl,rfl,hT,λ i jI _ _ h=>h,λ jI rV h Oe AA Sb=>?_⟩;obtain⟨y0,WR,B,D⟩:=h;rw[O2] at WR; cases WR;obtain⟨ae,r1,r2,r3⟩:=D SP;have hq:=t2 SP ae (r1.cp O2);rw[rG.kk,r1.kk] at hq;refine⟨u,O2,λ q=>(by rw[SP] at q; cases q),λ _=>⟨ae,r1,Oe ae r2,λ R G=>?_⟩⟩;rcases Sb R G with V | V
   ·exact r3 R V
   ·exact ve _ _ _ hq.symm V
  | true=>
   obtain⟨u',uD⟩:∃ u',tV v6 S (some (some (4 * n+Int.toNat y.aI)))=some u':=⟨u,O2⟩
   simp only[cond_true,gq uD];have hah:∀ j,v6.ahead=some j->j / 4 < (4 * n+y.aI.toNat) / 4:=λ j X=>by rw[hi4]; exact(he j (hv6 ▸ X)).2
   refine⟨_,rfl,List.length_set,hT.set λ j X=>⟨(he j (hv6 ▸ X)).1,hah j X⟩,λ i jI B D V=>V.set hT B (by rw[hi4]; exact D),λ jI rV h Oe AA Sb=>?_⟩;refine⟨v6,by rw[List.getElem?_set,if_pos rfl,if_pos N],λ q=>(by rw[rG.is] at q; cases q),λ _=>⟨t :: R',rG.set hT hah,AA,λ R G=>?_⟩⟩;rcases Sb R G with V | V
   ·obtain⟨y0,WR,B,D⟩:=h;rw[O2] at WR; cases WR;cases SP:u.gE with
    | false=>exact absurd V (B SP R)
    | true=>
     obtain⟨ae,r1,r2,r3⟩:=D SP;have hq:=t2 SP ae (r1.cp O2);rw[rG.kk,r1.kk] at hq;exact ve _ _ _ (vp _ _ hq.symm) (r3 R V)
   ·exact V
 cases e with
 | none=>
  cases G;obtain⟨hd,_⟩:=HV k L OZ y;unfold OZ at hd;simp only[Option.map_none,Option.isNone_none,cond_true,hd,Option.bind_some];have e0:cB k L a b [t]=bd b y+0:=by rw[K2]; rfl
  have e1:cT k L a [t]=0+dm k L OZ y:=by rw[K2]; rfl
  refine rest _ rfl ⟨rfl,K2,?_,?_,rfl,[],?_,.nil⟩
  ·show bd b y=_; omega
  ·show dm k L OZ y=_; omega
  ·show[t]=[y.bf]; rw[hb]
 | some j=>
  obtain⟨B,_⟩:=he j rfl;obtain⟨u1,hu1,rG⟩:=hu j rfl;have hO:∀ {β:Type} (f:ay->Option β),nW S (some j) f=f u1:=λ f=>by unfold nW Jj; simp only[Option.bind_some,hu1]
  obtain⟨hd,YX⟩:=HV k L (gl u1) y;have Hx:=hd;unfold gl at Hx;have hbb:=LZ k L a b R';have hbt:=L0 k L a R';have Od:=LY b y;unfold Bd at YX;simp only[Option.map_some,Option.isNone_some,cond_false,hO,Option.bind_some,rG.fA,rG.tot,rG.O1];rw[Hx,Option.bind_some,cj (n:=bd b y+cB k L a b R') (by omega) (by omega),cj (n:=cT k L a R'+_) (by show -9223372036854775808<=cT k L a R'+dm k L (gl u1) y; omega) (by show cT k L a R'+dm k L (gl u1) y < _; omega),cj (n:=1+(R'.length:Int)) (by omega) (by omega)];refine rest _ rfl ⟨rfl,K2,?_,?_,?_,R',?_,G⟩
  ·rw[show cB k L a b (t :: R')=bd b (dW k L a (t :: R'))+cB k L a b R' from rfl,<- K2]
  ·rw[show cT k L a (t :: R')=cT k L a R'+dm k L (dW k L a R') (dW k L a (t :: R')) from rfl,<- K2,<- rG.PL];rfl
  ·show 1+(R'.length:Int)=_; rw[List.length_cons]; omega
  ·show t :: R'=y.bf :: R'; rw[hb]
end
def kc (k:Nat) (L:List au) (a:Int) (W:List Int) (n:Nat) (v q:Int) (R:List Int):Prop:=
 ∃ R',R=W.getD n 0 :: R'/\((R'=[]/\fj L W n = -1 /\ -1 < v)\/∃ m:Nat,fj L W n<=m/\((m:Int) < v\/(m:Int)=v/\(dW k L a R').aI < q)/\m < n/\mI L W m R')
def Be (k:Nat) (L:List au) (a:Int) (W:List Int) (n:Nat) (v q:Int) (m:Nat) (R:List Int):Prop:=(m < n/\mI L W m R)\/(m=n/\kc k L a W n v q R)
def vX (k:Nat) (L:List au) (a b:Int) (W:List Int) (ak:Nat) (S:List ay) (n:Nat) (v q:Int):Prop:=
 ∀ (m:Nat) (c:Int),m < ak->0<=c->c < 4->Gb k L a b S (4 * m+c.toNat) (λ R=>Be k L a W n v q m R/\(dW k L a R).aI=c)
structure k9 (k:Nat) (L:List au) (W:List Int) (a:Int) (ak:Nat):Prop where
 w:IX k L W
 hk:L.length < k
 a1:1<=a
 Z:a<=536870912
 hW:W.length=ak
section
variable {k:Nat} {L:List au} {a b:Int} {W:List Int} {ak:Nat}
theorem vX.congr {S:List ay} {n n':Nat} {v q v' q':Int} (h:vX k L a b W ak S n v q) (e:∀ (m:Nat) (R:List Int),m < ak->(Be k L a W n v q m R↔Be k L a W n' v' q' m R)):vX k L a b W ak S n' v' q':=
 λ m c B D V=>(h m c B D V).congr λ R=>and_congr_left λ _=>e m R B
theorem k9.ln (s:k9 k L W a ak) {n:Nat} {R:List Int} (hn:n < ak) (hf:JC L W n (hd R)) :
  DD k L a (hd R) (W.getD n 0)=some (dW k L a (W.getD n 0 :: R))/\AZ k L a (hd R) (W.getD n 0)=some (dW k L a (W.getD n 0 :: R),0)/\0<=(dW k L a (W.getD n 0 :: R)).first/\(dW k L a (W.getD n 0 :: R)).bx=ZC L (W.getD n 0)/\(dW k L a (W.getD n 0 :: R)).bf=W.getD n 0/\HF (dW k L a (W.getD n 0 :: R)):=L1 s.w s.hk s.a1 s.Z (by rw[s.hW]; exact hn) hf
theorem k9.Va (s:k9 k L W a ak) {n:Nat} {R:List Int} (hn:n < ak) (hw:mI L W n R):HF (dW k L a R):=by
 obtain⟨R',rfl,hf⟩:=hw.from;exact(s.ln hn hf).2.2.2.2.2
theorem k9.mono (s:k9 k L W a ak) {t:Int} {m:Nat} {R R':List Int} (b:Int) (hm:m < ak) (B:mI L W m R) (D:mI L W m R') (hc:(dW k L a R).aI=(dW k L a R').aI) :
  dW k L a (t :: R)=dW k L a (t :: R')/\lx (key k L a b (t :: R)) (key k L a b (t :: R'))=lx (key k L a b R) (key k L a b R'):=Yh (b:=b) (t:=t) s.w s.hk s.a1 s.Z (by rw[s.hW]; exact hm) B D hc
theorem Iq {n m:Nat} {v q v' q':Int} {R:List Int} (h:m=n->(kc k L a W n v q R↔kc k L a W n v' q' R)):Be k L a W n v q m R↔Be k L a W n v' q' m R:=by
 unfold Be;constructor
 ·rintro(B | ⟨B,D⟩)
  ·exact .inl B
  ·exact .inr ⟨B,(h B).1 D⟩
 ·rintro(B | ⟨B,D⟩)
  ·exact .inl B
  ·exact .inr ⟨B,(h B).2 D⟩
theorem kc.up {n:Nat} {v q:Int} {R:List Int} (h:kc k L a W n v q R):kc k L a W n v (q+1) R:=by
 obtain⟨R',e,h⟩:=h;refine⟨R',e,?_⟩;rcases h with h | ⟨m,B,D,V⟩
 ·exact .inl h
 ·exact .inr ⟨m,B,D.imp id λ h=>⟨h.1,by have:=h.2; omega⟩,V⟩
theorem kc.down {n v:Nat} {q:Int} {R:List Int} (h:kc k L a W n v (q+1) R):kc k L a W n v q R\/∃ R',R=W.getD n 0 :: R'/\mI L W v R'/\(dW k L a R').aI=q:=by
 obtain⟨R',e,h⟩:=h;rcases h with h | ⟨m,B,D,V,h4⟩
 ·exact .inl ⟨R',e,.inl h⟩
 ·rcases D with D | ⟨D,h5⟩
  ·exact .inl ⟨R',e,.inr ⟨m,B,.inl D,V,h4⟩⟩
  ·have hm:m=v:=by omega
   subst hm;by_cases hc:(dW k L a R').aI < q
   ·exact .inl ⟨R',e,.inr ⟨m,B,.inr ⟨D,hc⟩,V,h4⟩⟩
   ·exact .inr ⟨R',e,h4,by omega⟩
theorem zX {n:Nat} {R:List Int} : mI L W n R↔kc k L a W n n 0 R:=by
 constructor
 ·intro h;cases h with
  | one h=>exact⟨[],rfl,.inl ⟨rfl,h,by omega⟩⟩
  | jU B D G=>exact⟨_,rfl,.inr ⟨_,B,.inl (by omega),D,G⟩⟩
 ·rintro⟨R',rfl,⟨rfl,h,_⟩ | ⟨m,B,_,V,h4⟩⟩
  ·exact .one h
  ·exact .jU B V h4
theorem k9.none (s:k9 k L W a ak) {n:Nat} {R:List Int} (hn:n < ak):¬ kc k L a W n (fj L W n) 0 R:=by
 rintro⟨R',rfl,⟨rfl,h,h'⟩ | ⟨m,B,D,V,h4⟩⟩
 ·omega
 ·rcases D with D | ⟨_,D⟩
  ·omega
  ·have:=(s.Va (by omega) h4).1; omega
theorem k9.next (s:k9 k L W a ak) {S:List ay} {n:Nat} (h:vX k L a b W ak S n n 0):vX k L a b W ak S (n+1) (fj L W (n+1)) 0:=h.congr λ m R hm=>by
 unfold Be;constructor
 ·rintro(⟨B,D⟩ | ⟨B,D⟩)
  ·exact .inl ⟨by omega,D⟩
  ·subst B; exact .inl ⟨by omega,zX.2 D⟩
 ·rintro(⟨B,D⟩ | ⟨B,D⟩)
  ·by_cases e:m=n
   ·subst e; exact .inr ⟨rfl,zX.1 D⟩
   ·exact .inl ⟨by omega,D⟩
  ·subst B; exact absurd D (s.none hm)
theorem k9.RB (s:k9 k L W a ak) {n v:Nat} {R:List Int} (hn:n < ak) (hv:v < n):kc k L a W n v 4 R↔kc k L a W n ((v:Int)+1) 0 R:=by
 constructor
 ·rintro⟨R',rfl,⟨rfl,h,h'⟩ | ⟨m,B,D,V,h4⟩⟩
  ·exact⟨_,rfl,.inl ⟨rfl,h,by omega⟩⟩
  ·exact⟨_,rfl,.inr ⟨m,B,.inl (by rcases D with D | D <;> omega),V,h4⟩⟩
 ·rintro⟨R',rfl,⟨rfl,h,h'⟩ | ⟨m,B,D,V,h4⟩⟩
  ·exact⟨_,rfl,.inl ⟨rfl,h,by omega⟩⟩
  ·have hc:=s.Va (show m < ak by omega) h4;refine⟨_,rfl,.inr ⟨m,B,?_,V,h4⟩⟩;rcases D with D | ⟨_,D⟩
   ·by_cases e:(m:Int) < v
    ·exact .inl e
    ·exact .inr ⟨by omega,hc.2⟩
   ·have:=hc.1; omega
theorem PN (s:k9 k L W a ak) (n v:Nat) (c:Int) (y:bI) (m:aE) (S:List ay) (hS:S.length=4 * ak) (hn:n < ak) (hv:v < n) (Fv:fj L W n<=v) (h0:0<=c) (B:c < 4) (hy:AZ k L a (W.getD v 0) (W.getD n 0)=some (y,0)) (hT:TB S) (hk:S.length+4 < k) (hI:vX k L a b W ak S n v c) :
  ∃ S',(eZ (v:Int) ak (eZ c 4 (nW S (some (4 * Int.toNat (v:Int)+Int.toNat c)) λ Wl=>
  bif Wl.gE then((tE k n y (some (4 * Int.toNat (v:Int)+Int.toNat c)) m L a b W ak S).bind λ wg=>
  some (wg.1,wg.2.1,wg.2.2.1,wg.2.2.2.1,wg.2.2.2.2.1,wg.2.2.2.2.2)) else(some (m,L,a,b,W,S)))))=some (m,L,a,b,W,S')/\S'.length=S.length/\TB S'/\vX k L a b W ak S' n v (c+1):=by
 unfold eZ;rw[if_pos ⟨by omega,by omega⟩,if_pos ⟨h0,B⟩];have N:4 * Int.toNat (v:Int)+Int.toNat c < S.length:=by omega
 obtain⟨u,hu,o1,o2⟩:=hI v c (by omega) h0 B;have ei:4 * Int.toNat (v:Int)+Int.toNat c=4 * v+c.toNat:=by omega
 rw[ei] at N ⊢;have hl:=s.w.len;have hm:=s.w.Cx;have hW:=s.hW;unfold nW Jj;simp only[Option.bind_some,hu];cases WS:u.gE with
 | false=>
  refine⟨S,rfl,rfl,hT,hI.congr λ m R _=>Iq λ _=>⟨kc.up,λ h=>?_⟩⟩;rcases h.down with h | ⟨R',e,D,V⟩
  ·exact h
  ·exact absurd ⟨.inl ⟨hv,D⟩,V⟩ (o1 WS R')
 | true=>
  obtain⟨R1,r1,⟨r2,r3⟩,r4⟩:=o2 WS;have yk:mI L W v R1:=by
   rcases r2 with⟨_,h⟩ | ⟨h,_⟩
   ·exact h
   ·omega
  obtain⟨_,p2,_,_,p5,p6⟩:=s.ln (R:=R1) hn (.inr ⟨v,yk.hd,Fv,hv⟩);rw[yk.hd,hy] at p2;have K2:y=dW k L a (W.getD n 0 :: R1):=by
   have:=Option.some.inj p2;exact(Prod.mk.inj this).1
  rw[<- K2] at p5 p6;obtain⟨S',e1,e2,e3,e4,e5⟩:=c60 (b:=b) n ak y (some (4 * v+c.toNat)) R1 (W.getD n 0) m W hS hn p6 (λ j X=>by cases X; exact⟨N,by omega⟩) hT hk (by
   obtain⟨R2,q1,q2⟩:=r1.ch;rw[q1];exact .cons hu q2) (λ j X=>by cases X; exact⟨u,hu,r1⟩) K2 p5 (by have:=yk.len; omega) (λ u' uD hb=>by
    obtain⟨u2,w1,_,w2⟩:=hI n y.aI hn p6.1 p6.2;rw[uD] at w1; cases w1;obtain⟨ae,hB,_⟩:=w2 hb;exact⟨ae,hB⟩)
  rw[cond_true,e1];refine⟨S',rfl,e2,e3,λ m c' hm AQ nG=>?_⟩;have old:=hI m c' hm AQ nG;by_cases A7:4 * m+c'.toNat=4 * n+y.aI.toNat
  ·have h6:=p6.1;have h7:=p6.2;have Hr:m=n:=by omega
   have N4:c'=y.aI:=by omega
   subst Hr;subst N4;refine e5 _ _ old (λ R h=>⟨?_,h.2⟩) ⟨.inr ⟨rfl,R1,rfl,.inr ⟨v,Fv,.inr ⟨rfl,by omega⟩,hv,yk⟩⟩,by rw[<- K2]⟩ (λ R h=>?_)
   ·rcases h.1 with h | ⟨_,h⟩
    ·exact .inl h
    ·exact .inr ⟨rfl,h.up⟩
   ·obtain⟨h,kM⟩:=h;rcases h with h | ⟨_,h⟩
    ·exact .inl ⟨.inl h,kM⟩
    ·rcases h.down with h | ⟨R',rfl,q2,q3⟩
     ·exact .inl ⟨.inr ⟨rfl,h⟩,kM⟩
     ·right;rw[(s.mono b (t:=W.getD m 0) (show v < ak by omega) q2 yk (q3.trans r3.symm)).2];exact r4 R' ⟨.inl ⟨hv,q2⟩,q3⟩
  ·have zh:(4 * m+c'.toNat) / 4<=n\/∀ R,¬ (Be k L a W n v c m R/\(dW k L a R).aI=c'):=by
    by_cases Hr:m<=n
    ·left; omega
    ·right;rintro R ⟨h | h,_⟩ <;> omega
   refine(e4 _ _ A7 zh old).congr λ R=>?_;constructor
   ·rintro⟨h | ⟨h,h'⟩,kM⟩
    ·exact⟨.inl h,kM⟩
    ·exact⟨.inr ⟨h,h'.up⟩,kM⟩
   ·rintro⟨h | ⟨h,h'⟩,kM⟩
    ·exact⟨.inl h,kM⟩
    ·rcases h'.down with h' | ⟨R',rfl,q2,q3⟩
     ·exact⟨.inr ⟨h,h'⟩,kM⟩
     ·exfalso;subst h;rw[(s.mono b (t:=W.getD m 0) (show v < ak by omega) q2 yk (q3.trans r3.symm)).1,<- K2] at kM;subst kM;exact A7 rfl
end
section
variable {k:Nat} {L:List au} {a b:Int} {W:List Int} {ak:Nat}
end
theorem GQ (L:List au) (W:List Int):∀ n,∃ R,mI L W n R
 | 0=>⟨_,.one rfl⟩
 | n+1=>by
  obtain⟨R,h⟩:=GQ L W n;have:=(oH L W (n+1)).2;exact⟨_,.jU (m:=n) (by omega) (by omega) h⟩
theorem MD (k:Nat) (S:List ay) (z:ay) (hT:TB S) (hz:z.ahead=none):∀ (j:Nat) (acc:List Int) (p:Option (Option Nat)) (R:List Int),A3 S p->Cp S z p R->mu p < j->acc.length+mu p<=100000->ud k S z j acc p=some (acc++R)
 | 0,_,_,_,_,_,h,_=>by omega
 | j+1,acc,p,R,N,hC,h,hb=>by
  unfold ud;cases U:p.isNone with
  | true=>
   have e:p=none:=by simpa using U
   subst e;have hC:R=[]:=hC;subst hC;rw[List.append_nil];rfl
  | false=>
   have KZ:p≠none:=λ e=>by subst e; cases U
   obtain⟨y,hy⟩:=sv (z:=z) N KZ;obtain⟨a1,Z⟩:=Qv hT hz N hy;obtain⟨R',rfl,ma⟩:=hC.step hy;simp only[Bool.not_false,cond_true,gq hy];rw[ny (by simp only[List.length_singleton]; omega)];rw[MD k S z hT hz j (acc++[y.bw]) (y.ahead.map some) R' a1 ma (by omega) (by rw[List.length_append,List.length_singleton]; omega),List.append_assoc];rfl
def Xu (k:Nat) (L:List au) (a b:Int) (W:List Int) (ak:Nat) (S:List ay) (c:Int) (p:Option (Option Nat)):Prop:=
 (p=some none/\∀ R,mI L W (ak - 1) R->¬ (dW k L a R).aI < c)\/∃ (i:Nat) (u:ay) (R:List Int),p=some (some i)/\S[i]? = some u/\IY k L a b S u R/\mI L W (ak - 1) R/\i / 4+1<=ak/\∀ R',mI L W (ak - 1) R'->(dW k L a R').aI < c->lx (key k L a b R') (key k L a b R)=false
theorem PQ {k:Nat} {L:List au} {a b:Int} {W:List Int} {ak:Nat} (s:k9 k L W a ak) (c:Int) (S:List ay) (p:Option (Option Nat)) (hS:S.length=4 * ak) (hN:0 < ak) (h0:0<=c) (B:c < 4) (hT:TB S) (hk:S.length+4 < k) (hI:vX k L a b W ak S ak (fj L W ak) 0) (U:Xu k L a b W ak S c p) :
  ∃ p',(eZ ((ak:Int) - 1) ak (eZ c 4 (ir FJ S (some (some (4 * Int.toNat ((ak:Int) - 1)+Int.toNat c))) λ yh=>
   Option.bind (α:=Bool×(List ay)×ay) (bif yh.gE then((nX k (some (some (4 * Int.toNat ((ak:Int) - 1)+Int.toNat c))) p S FJ).bind λ Bu=>
   some (Bu.1,Bu.2.1,Bu.2.2)) else(some (false,S,FJ))) λ(j9,iB,rM)=>
   bif j9 then(some (some (some (4 * Int.toNat ((ak:Int) - 1)+Int.toNat c)),iB,rM)) else(some (p,iB,rM)))))=some (p',S,FJ)/\Xu k L a b W ak S (c+1) p':=by
 unfold eZ;rw[if_pos ⟨by omega,by omega⟩,if_pos ⟨h0,B⟩];have N:4 * Int.toNat ((ak:Int) - 1)+Int.toNat c < S.length:=by omega
 have ei:4 * Int.toNat ((ak:Int) - 1)+Int.toNat c=4 * (ak - 1)+c.toNat:=by omega
 obtain⟨u,WT,o1,o2⟩:=hI (ak - 1) c (by omega) h0 B;rw[ei] at N ⊢;have hu:tV FJ S (some (some (4 * (ak - 1)+c.toNat)))=some u:=WT;have cw:∀ R,mI L W (ak - 1) R->Be k L a W ak (fj L W ak) 0 (ak - 1) R:=λ R h=>.inl ⟨by omega,h⟩;rw[gq hu];cases WS:u.gE with
 | false=>
  refine⟨p,rfl,?_⟩;have no:∀ R,mI L W (ak - 1) R->(dW k L a R).aI < c+1->(dW k L a R).aI < c:=λ R B D=>by
   by_cases e:(dW k L a R).aI=c
   ·exact absurd ⟨cw R B,e⟩ (o1 WS R)
   ·omega
  rcases U with⟨e,h⟩ | ⟨i,v,R,e,V,h4,h5,h6,h7⟩
  ·exact .inl ⟨e,λ R B D=>h R B (no R B D)⟩
  ·exact .inr ⟨i,v,R,e,V,h4,h5,h6,λ R' g1 g2=>h7 R' g1 (no R' g1 g2)⟩
 | true=>
  obtain⟨R1,r1,⟨r2,r3⟩,r4⟩:=o2 WS;have yk:mI L W (ak - 1) R1:=by
   rcases r2 with⟨_,h⟩ | ⟨h,_⟩
   ·exact h
   ·omega
  have tn:∀ R,mI L W (ak - 1) R->(dW k L a R).aI=c->lx (key k L a b R) (key k L a b R1)=false:=λ R B D=>r4 R ⟨cw R B,D⟩;have hEm:S.isEmpty=false:=by cases S with | nil=>simp at N | cons _ _=>rfl
  have hz:Cw S FJ:=λ j X=>by cases X
  have hd4:(4 * (ak - 1)+c.toNat) / 4+1<=ak:=by omega
  rcases U with⟨rfl,h⟩ | ⟨i,v,R,rfl,V,h4,h5,h6,h7⟩
  ·obtain⟨t,ht,t1,_⟩:=c32 k S FJ u FJ hEm hT hz (some (some (4 * (ak - 1)+c.toNat))) (some none) (λ i h=>by cases h; exact N) (λ i h=>by cases h) hu rfl R1 (r1.cp WT) (λ hb=>by cases hb) hk;have:=t1 rfl;subst this;rw[cond_true,ht];refine⟨_,rfl,.inr ⟨_,u,R1,rfl,WT,r1,yk,hd4,λ R' g1 g2=>tn R' g1 ?_⟩⟩;have:=h R' g1;omega
  ·obtain⟨t,ht,_,t2⟩:=c32 k S FJ u v hEm hT hz (some (some (4 * (ak - 1)+c.toNat))) (some (some i)) (λ i h=>by cases h; exact N) (λ j h=>by cases h; exact(List.getElem?_eq_some_iff.1 V).1) hu V R1 (r1.cp WT) (λ _=>⟨R,h4.cp V⟩) hk;have Uv:=t2 h4.is R (h4.cp V);rw[r1.kk,h4.kk] at Uv;rw[cond_true,ht];cases t with
   | false=>
    refine⟨_,rfl,.inr ⟨i,v,R,rfl,V,h4,h5,h6,λ R' g1 g2=>?_⟩⟩;by_cases e:(dW k L a R').aI=c
    ·exact ve _ _ _ Uv.symm (tn R' g1 e)
    ·exact h7 R' g1 (by omega)
   | true=>
    refine⟨_,rfl,.inr ⟨_,u,R1,rfl,WT,r1,yk,hd4,λ R' g1 g2=>?_⟩⟩;by_cases e:(dW k L a R').aI=c
    ·exact tn R' g1 e
    ·exact ve _ _ _ (vp _ _ Uv.symm) (h7 R' g1 (by omega))
def ZD (k:Nat) (L:List au):Int->List Int->Prop
 | f,[]=>∀ (s:Nat) (y:au),f < s->L[s]? = some y->DW y=false
 | f,t :: ab=>f < t/\t < (L.length:Int)/\DO k L t=some true/\bW L f t/\ZD k L t ab
theorem ZD.len {k:Nat} {L:List au} : ∀ (ab:List Int) (f:Int),f < L.length->ZD k L f ab->(ab.length:Int)<=L.length - 1 - f
 | [],f,hf,_=>by simp; omega
 | t :: ab,f,hf,h=>by
  obtain⟨B,D,_,_,h5⟩:=h;have:=ZD.len ab t D h5;rw[List.length_cons];omega
section
variable {k:Nat} {L:List au} {W:List Int}
end
end
end Go.cy.jV
namespace Go.cy.jV
open Go.Proofs
noncomputable section
theorem yj (k:Nat) (x:Int):U0 k x=Kt k x:=by
 unfold Kt U0;by_cases h:10000 < w (Int.tdiv (w ((w (x * x)) * x)) 10000)
 ·rw[if_pos h,decide_eq_true (show w (Int.tdiv (w ((w (x * x)) * x)) 10000) > 10000 from h)]; rfl
 ·rw[if_neg h,decide_eq_false (show ¬ w (Int.tdiv (w ((w (x * x)) * x)) 10000) > 10000 from h)]; rfl
theorem e95 (k:Nat) (x:bI) (hs:0<=x.aw) (NS:x.aw<=274877906944) (hk:0<=x.aF) (lF:x.aF<=274877906944) (ht : -9007199254740992<=x.aN) (iO:x.aN<=9007199254740992) :
  SH k x=F1 k x:=by
 unfold F1 SH;simp only[yj];by_cases B:x.aN < 0
 ·rw[decide_eq_true B];by_cases D:x.aN < w (0 - x.aF)
  ·rw[decide_eq_true D]; rfl
  ·rw[decide_eq_false D];have V:(x.aN == 0)=false:=by rw[beq_eq_false_iff_ne]; omega
   have h4:decide (x.aN > 0)=false:=decide_eq_false (by omega);rw[V,h4]; rfl
 ·rw[decide_eq_false B];by_cases V:x.aN=0
  ·have DL:(x.aN == 0)=true:=by rw[V]; rfl
   rw[DL]; rfl
  ·have DL:(x.aN == 0)=false:=by rw[beq_eq_false_iff_ne]; exact V
   rw[DL,decide_eq_true (show x.aN > 0 by omega)];cases he:x.c7 with
   | true=>rfl
   | false=>
   by_cases h4:x.aw=0
   ·have Ko:(x.aw == 0)=true:=by rw[h4]; rfl
    rw[Ko]; rfl
   ·have Ko:(x.aw == 0)=false:=by rw[beq_eq_false_iff_ne]; exact h4
    rw[Ko];have d0:0<=100 * x.aN / x.aw:=Int.ediv_nonneg (by omega) (by omega);have d1:100 * x.aN / x.aw<=100 * x.aN:=Int.ediv_le_self _ (by omega);have ew:w (Int.tdiv (w (100 * x.aN)) x.aw)=100 * x.aN / x.aw:=by
     rw[cj (n:=100 * x.aN) (by omega) (by omega),Int.tdiv_eq_ediv_of_nonneg (by omega),cj (by omega) (by omega)]
    rw[ew,cj (n:=10 * x.aw) (by omega) (by omega)];have gz:∀ d:Int,(Kt k d).bind (λ bV=>Option.bind (α:=Int) (bif decide (d<=100) then(some 2) else(some 3)) λ(v7:Int)=>bif decide (d<=50) then(some (bV,1,x.bB)) else(some (bV,v7,x.bB))) =
      (Kt k d).bind λ bV=>bif decide (d<=50) then(some (bV,1,x.bB)) else(bif decide (d<=100) then(some (bV,2,x.bB)) else(some (bV,3,x.bB))):=by
     intro d;obtain⟨q,hq⟩:∃ q,Kt k d=some q:=⟨_,rfl⟩
     rw[hq,Option.bind_some,Option.bind_some];cases decide (d<=50) <;> cases decide (d<=100) <;> rfl
    by_cases h5:x.aN < 10 * x.aw
    ·have h6:100 * x.aN / x.aw < 1000:=Int.ediv_lt_of_lt_mul (by omega) (by omega);rw[decide_eq_true h5,if_neg (show ¬ 1000 < 100 * x.aN / x.aw by omega)];simp only[cond_true,cond_false,Option.bind_some,rT,if_neg h4,gz]
    ·have h6:1000<=100 * x.aN / x.aw:=(Int.le_ediv_iff_mul_le (by omega)).2 (by omega);have h7:(if 1000 < 100 * x.aN / x.aw then(1000:Int) else 100 * x.aN / x.aw)=1000:=by split <;> omega
     rw[decide_eq_false h5,h7];simp only[cond_true,cond_false,Option.bind_some,rT,if_neg h4,gz]
theorem ME (k:Nat) (L:List au) (a3:Int):∀ (j:Nat) (v:Int),uf k L a3 j v=ns k L a3 j v
 | 0,v=>rfl
 | j+1,v=>by
  unfold ns uf;simp only[ME k L a3 j]
theorem MF (k:Nat) (L:List au) (v1:Int):∀ (j:Nat) (v:Int),ug k L v1 j v=nt k L v1 j v
 | 0,v=>rfl
 | j+1,v=>by
  unfold nt ug;simp only[MF k L v1 j]
theorem Fa {α:Type} {p:Prop} [Decidable p] (x y:α):(bif decide p then x else y)=if p then x else y:=by
 by_cases h:p
 ·rw[decide_eq_true h,if_pos h]; rfl
 ·rw[decide_eq_false h,if_neg h]; rfl
theorem MG (k:Nat) (L:List au) (v1 v7:Int) (h0:0<=v1) (B:v1<=v7) (h7:v7<=L.length) (hl:L.length<=4096):∀ (j i:Nat) (a b c d e:Int),v1+i<=v7 ->
  so k L v7 j (v1+i) a b c d e=kj k ((L.take v7.toNat).drop v1.toNat) j i a b c d e
 | 0,i,a,b,c,d,e,N=>rfl
 | j+1,i,a,b,c,d,e,N=>by
  have hM:((L.take v7.toNat).drop v1.toNat).length=v7.toNat - v1.toNat:=by simp; omega
  unfold kj so;by_cases hv:v1+i < v7
  ·rw[decide_eq_true hv,decide_eq_true (show(i:Int) < ((L.take v7.toNat).drop v1.toNat).length by rw[hM]; omega)];obtain⟨y,hy⟩:=eV (L:=L) (i:=v1+i) (by omega) (by omega);have yr:((L.take v7.toNat).drop v1.toNat)[(i:Int).toNat]? = some y:=by
    rw[List.getElem?_drop,List.getElem?_take,if_pos (by omega),show v1.toNat+(i:Int).toNat=(v1+i).toNat by omega];exact hy
   rw[cond_true,cond_true,aQ (by omega) hy,aQ (by omega) yr,cj (n:=v1+i+1) (by omega) (by omega),cj (n:=(i:Int)+1) (by omega) (by omega)];have ih:∀ a b c d e,so k L v7 j (v1+i+1) a b c d e=kj k ((L.take v7.toNat).drop v1.toNat) j ((i:Int)+1) a b c d e:=by
    intro a b c d e;have:=MG k L v1 v7 h0 B h7 hl j (i+1) a b c d e (by omega);rw[show v1+((i+1:Nat):Int)=v1+i+1 by omega] at this;exact this
   simp only[ih];cases (y.aM == 1) with
   | true=>
    simp only[cond_true,Option.bind_some,<- Fa];cases decide (y.aD > d) <;> cases decide (y.depth > e) <;> rfl
   | false=>rfl
  ·rw[decide_eq_false hv,decide_eq_false (show ¬ (i:Int) < ((L.take v7.toNat).drop v1.toNat).length by rw[hM]; omega)];rfl
theorem x96 (k:Nat) (L:List au) (i:Int) (y:au) (h0:0<=i) (hy:L[i.toNat]? = some y):WG k L i=some (y.aM == 4 && (y.value == -10000)):=by
 unfold WG;simp only[aQ h0 hy];cases (y.aM == 4) <;> rfl
theorem A2 (k:Nat) (L:List au) (a1 Z a3:Int) (hl:L.length<=4096) (hk:L.length < k) (hf:∀ (t:Nat) (y:au),L[t]? = some y->u0 y) (B:1<=a1) (nG:a1<=536870912) (D : -1<=Z) (V:Z < a3) (h4:a3 < L.length) :
  WH k L a1 Z a3=DD k L a1 Z a3:=by
 unfold DD WH;simp only[ME,MF];rw[cj (n:=Z+1) (by omega) (by omega)];obtain⟨v1,e1,k1,k2⟩:=CQ k L a3 hl h4 k (Z+1) (by omega) (by omega) (by omega);rw[e1,Option.bind_some,Option.bind_some];obtain⟨v7,e2,k3,k4⟩:=CR k L v1 hl (by omega) k a3 (by omega) (by omega) (by omega);rw[e2,Option.bind_some,Option.bind_some];unfold lS;rw[if_pos ⟨by omega,by omega,by omega⟩];obtain⟨a,b,c,d,e,e3,b1,b2,b3,b4,b5,b6⟩:=ui k ((L.take v7.toNat).drop v1.toNat) (by simp; omega) (λ t y hy=>by
  rw[List.getElem?_drop,List.getElem?_take] at hy;split at hy
  ·exact hf _ y hy
  ·cases hy) k 0 0 0 0 0 0 (by omega) (by simp; omega) (by omega) (by omega) (by omega) (by omega) (by omega) (by omega)
 have U9:kj k ((L.take v7.toNat).drop v1.toNat) k 0 0 0 0 0 0=some (a,b,c,d,e):=e3;have e4:=MG k L v1 v7 (by omega) k3 (by omega) hl k 0 0 0 0 0 0 (by omega);rw[show v1+((0:Nat):Int)=v1 by omega,e3] at e4;dsimp only;rw[U9,e4,Option.bind_some,Option.bind_some];dsimp only;obtain⟨y,hy⟩:=eV (L:=L) (i:=a3) (by omega) h4;rw[aQ (by omega) hy,aQ (by omega) hy];have gz:∀ (n:Int) (f aa:Bool) (u v:Int),-4503599627370496<=n->n<=4504699139000000->SH k (bI.mk v1 v7 a3 n b c (w (a1 - n)) 0 0 false f aa u v)=F1 k (bI.mk v1 v7 a3 n b c (w (a1 - n)) 0 0 false f aa u v):=by
  intro n f aa u v n1 n2;rw[cj (n:=a1 - n) (by omega) (by omega)];exact e95 k (bI.mk v1 v7 a3 n b c (a1 - n) 0 0 false f aa u v) b3 b4 b5 b6 (by show _<=a1 - n; omega) (by show a1 - n<=_; omega)
 have fy:=hf _ y hy;have sp:=zW fy;cases q:(y.aM == 4) with
 | false=>
  simp only[cond_false,Option.bind_some,gz a false false d e (by omega) (by omega)]
 | true=>
  rw[q,Bool.true_and,Bool.true_and] at sp;have:=fy.ZA (eq_of_beq q);have ew:=cj (n:=a+y.aB) (by omega) (by omega);have Xv:∀ f aa u v,SH k (bI.mk v1 v7 a3 (w (a+y.aB)) b c (w (a1 - (w (a+y.aB)))) 0 0 false f aa u v)=F1 k (bI.mk v1 v7 a3 (w (a+y.aB)) b c (w (a1 - (w (a+y.aB)))) 0 0 false f aa u v):=λ f aa u v=>gz _ f aa u v (by omega) (by omega);simp only[Q6,q,Bool.true_and,cond_true,Option.bind_some,sp];cases yr:y.cR with
  | false=>simp only[cond_false,Option.bind_some,Xv]
  | true=>
   simp only[cond_true,Option.bind_some,<- Fa];cases decide (y.aD > d) <;> cases decide (y.depth > e) <;> simp only[cond_true,cond_false,Option.bind_some,Xv]
theorem OG (k:Nat) (L:List au) (i:Int):SF k L i=DO k L i:=rfl
theorem wI (b:Bool):(bif b then some true else some false)=some b:=by cases b <;> rfl
theorem ad2 (k:Nat) (x:au):QY k x=some ((decide (1<=x.size) && decide (x.size<=67108864)) && ((decide (0<=x.aB) && decide (x.aB<=1099511627776)) && ((decide (0<=x.aD) && decide (x.aD<=1099511627776)) && (decide (0<=x.depth) && decide (x.depth<=1099511627776))))):=by
 unfold QY;simp only[SM,Option.bind_some];cases (decide (1<=x.size) && decide (x.size<=67108864)) <;> cases (decide (0<=x.aB) && decide (x.aB<=1099511627776)) <;> cases (decide (0<=x.aD) && decide (x.aD<=1099511627776)) <;> cases (decide (0<=x.depth) && decide (x.depth<=1099511627776)) <;> rfl
theorem x99 (k:Nat) (a:Int):SD k a=some (decide (1<=a) && decide (a<=67108864)):=by
 unfold SD;have e:decide (a>=1)=decide (1<=a):=rfl;rw[e];cases decide (1<=a) <;> rfl
theorem ad3 (k:Nat) (a:Int):N9 k a=some (decide (0<=a) && decide (a<=1099511627776)):=by
 unfold N9;have e:decide (a>=0)=decide (0<=a):=rfl;rw[e];cases decide (0<=a) <;> rfl
theorem ad4 {a:Int} (h:0<=a) (h':a<=1114111):Bz a=a:=by
 unfold Bz;rw[IntKind.wrap_i32]; omega
theorem Tm (k:Nat) (a:Int):∃ u v,Si k a=some u/\Ww k a=some v/\decide (u > 0)=decide (v > 0):=by
 unfold Si Ww;by_cases B:a < 0
 ·rw[decide_eq_true B]; exact⟨0,0,rfl,rfl,rfl⟩
 rw[decide_eq_false B];by_cases D:a > 1114111
 ·rw[decide_eq_true D]; exact⟨0,0,rfl,rfl,rfl⟩
 rw[decide_eq_false D];have bytes:(¬ (a>=55296/\a<=57343))->∃ u v:Int,(Sh k (Bz a)).bind (λ Sj=>some Sj)=some u/\(bif decide (a < 128) then(some (1:Int)) else(bif decide (a < 2048) then(some 2) else(bif decide (a < 65536) then(some 3) else(some 4))))=some v/\decide (u > 0)=decide (v > 0):=by
  intro hs;rw[ad4 (by omega) (by omega)];unfold Sh;rw[decide_eq_false B];by_cases q1:a < 128
  ·rw[decide_eq_true q1,decide_eq_true (show a<=127 by omega)]; exact⟨1,1,rfl,rfl,rfl⟩
  rw[decide_eq_false q1,decide_eq_false (show ¬ a<=127 by omega)];by_cases q2:a < 2048
  ·rw[decide_eq_true q2,decide_eq_true (show a<=2047 by omega)]; exact⟨2,2,rfl,rfl,rfl⟩
  rw[decide_eq_false q2,decide_eq_false (show ¬ a<=2047 by omega)];have q3:(bif decide (55296<=a) then(some (decide (a<=57343))) else(some false))=some false:=by
   by_cases q:55296<=a
   ·rw[decide_eq_true q,decide_eq_false (show ¬ a<=57343 by omega)]; rfl
   ·rw[decide_eq_false q]; rfl
  rw[q3];by_cases q4:a < 65536
  ·rw[decide_eq_true q4,decide_eq_true (show a<=65535 by omega)]; exact⟨3,3,rfl,rfl,rfl⟩
  rw[decide_eq_false q4,decide_eq_false (show ¬ a<=65535 by omega),decide_eq_true (show a<=1114111 by omega)];exact⟨4,4,rfl,rfl,rfl⟩
 by_cases V:a>=55296
 ·rw[decide_eq_true V];by_cases h4:a<=57343
  ·rw[decide_eq_true h4]; exact⟨0,0,rfl,rfl,rfl⟩
  ·rw[decide_eq_false h4]; exact bytes (by omega)
 ·rw[decide_eq_false V]; exact bytes (by omega)
theorem e81 (k:Nat) (a b c:au) (D:(a.aM == 2)=false):Wx k a=OC k a b c:=by
 obtain⟨u,v,hu,hv,Z2⟩:=Tm k a.dc;unfold Wx OC;simp only[SM,ad2,x99,ad3,hu,hv,Option.bind_some,Z2,D,cond_false];cases B:(a.aM == 1) with
 | true=>
  simp only[cond_true,beq_self_eq_true,Bool.true_and,Bool.and_true,Option.bind_some];cases (decide (1<=a.size) && decide (a.size<=67108864)) <;> cases (decide (0<=a.aB) && decide (a.aB<=1099511627776)) <;> cases (decide (0<=a.aD) && decide (a.aD<=1099511627776)) <;> cases (decide (0<=a.depth) && decide (a.depth<=1099511627776)) <;> cases decide (v > 0) <;> simp[wI]
 | false=>
 cases V:(a.aM == 3) with
 | true=>
  simp only[cond_true,cond_false,beq_self_eq_true,Bool.true_and,Bool.and_true,Option.bind_some,ge_iff_le];cases (decide (1<=a.size) && decide (a.size<=67108864)) <;> cases decide (0<=a.aB) <;> cases decide (a.aB<=67108864) <;> cases decide (0<=a.aw) <;> cases decide (a.aw<=67108864) <;> cases decide (0<=a.aF) <;> cases decide (a.aF<=a.aB) <;> simp[wI]
 | false=>
 cases h4:(a.aM == 4) with
 | true=>
  simp only[cond_true,cond_false,beq_self_eq_true,Bool.true_and,Bool.and_true,Option.bind_some];by_cases q1:a.value < -10000
  ·rw[decide_eq_true q1,decide_eq_false (show ¬ -10000<=a.value by omega)];cases a.cR <;> simp[wI]
  ·rw[decide_eq_false q1,decide_eq_true (show -10000<=a.value by omega)];by_cases q2:a.value > 10000
   ·rw[decide_eq_true q2,decide_eq_false (show ¬ a.value<=10000 by omega)];cases a.cR <;> simp[wI]
   ·rw[decide_eq_false q2,decide_eq_true (show a.value<=10000 by omega)];cases a.cR with
    | false=>simp
    | true=>
     cases (decide (1<=a.size) && decide (a.size<=67108864)) <;> cases (decide (0<=a.aB) && decide (a.aB<=1099511627776)) <;> cases (decide (0<=a.aD) && decide (a.aD<=1099511627776)) <;> cases (decide (0<=a.depth) && decide (a.depth<=1099511627776)) <;> cases (a.dc == 45) <;> cases decide (a.value > -10000) <;> simp[wI]
 | false=>rfl
theorem e80 (k:Nat) (L:List au) (i:Nat) (y:au) (hl:L.length<=4096) (hy:L[i]? = some y) (D:(y.aM == 2)=true):Wv k L i=OC k y (cH L i) (cE L i):=by
 have N:=ax hy;have yr:L[(i:Int).toNat]? = some y:=by rw[show(i:Int).toNat=i by omega]; exact hy
 have e:y.aM=2:=eq_of_beq D;unfold Wv OC;simp only[aQ (by omega:0<=(i:Int)) yr,SM,D,show(y.aM == 1)=false by rw[e]; rfl,show(y.aM == 3)=false by rw[e]; rfl,show(y.aM == 4)=false by rw[e]; rfl,cond_true,cond_false,Option.bind_some];rw[cj (n:=(i:Int)+1) (by omega) (by omega)];by_cases h0:i=0
 ·subst h0;have:cH L 0=au.mk 0 ByteArray.empty 0 0 0 0 0 0 0 0 false 0 0:=rfl;rw[this]; rfl
 ·have AQ:((i:Int) == 0)=false:=by rw[beq_eq_false_iff_ne]; omega
  rw[AQ,cj (n:=(i:Int) - 1) (by omega) (by omega)];obtain⟨p,U⟩:=eV (L:=L) (i:=(i:Int) - 1) (by omega) (by omega);have ep:cH L i=p:=by
   unfold cH;rw[if_pos (by omega)];rw[show((i:Int) - 1).toNat=i - 1 by omega] at U;rw[U]; rfl
  rw[ep];by_cases B:i+1 < L.length
  ·rw[decide_eq_false (show ¬ ((i:Int)+1>=L.length) by omega)];obtain⟨n,hn⟩:=eV (L:=L) (i:=(i:Int)+1) (by omega) (by omega);have en:cE L i=n:=by
    unfold cE;rw[show((i:Int)+1).toNat=i+1 by omega] at hn;rw[hn]; rfl
   rw[en];simp only[aQ (by omega:0<=(i:Int) - 1) U,aQ (by omega:0<=(i:Int)+1) hn,cond_false,Option.bind_some,e];cases FV:(p.aM == 1) with
   | false=>simp[bne,FV]
   | true=>
    cases rD:(n.aM == 1) with
    | false=>simp[bne,FV,rD]
    | true=>
     simp only[bne,FV,rD,Bool.not_true,cond_true,cond_false,Option.bind_some,ge_iff_le];cases (y.aB == 0) <;> cases decide (y.aB<=1099511627776) <;> cases decide (w (0 - if n.aB < p.aB then n.aB else p.aB)<=y.aB) <;> simp[wI]
  ·rw[decide_eq_true (show((i:Int)+1>=L.length) by omega)];have en:cE L i=au.mk 0 ByteArray.empty 0 0 0 0 0 0 0 0 false 0 0:=by
    unfold cE;rw[List.getElem?_eq_none (by omega)]; rfl
   rw[en];cases (p.aM == 1) <;> rfl
theorem Yj (L:List au) (i:Nat) (N:i < L.length) (hl:L.length<=4096) {β:Type} (f:Int×ByteArray×Int×Int×Int×Int×Int×Int×Int×Int×Bool×Int×Int->Option β):(Option.bind (bif decide ((i:Int) > 0) then(bp L (w ((i:Int) - 1)) λ fY=>some (fY.aM,fY.cP,fY.size,fY.dc,fY.aB,fY.aD,fY.depth,fY.aw,fY.aF,fY.value,fY.cR,fY.bM,fY.to_)) else(some (0,ByteArray.empty,0,0,0,0,0,0,0,0,false,0,0))) f) =
  f ((cH L i).aM,(cH L i).cP,(cH L i).size,(cH L i).dc,(cH L i).aB,(cH L i).aD,(cH L i).depth,(cH L i).aw,(cH L i).aF,(cH L i).value,(cH L i).cR,(cH L i).bM,(cH L i).to_):=by
 by_cases h0:0 < i
 ·rw[decide_eq_true (show(i:Int) > 0 by omega),cj (by omega) (by omega)];obtain⟨z,hz⟩:=eV (L:=L) (i:=(i:Int) - 1) (by omega) (by omega);rw[cond_true,aQ (by omega) hz];unfold cH;rw[if_pos h0];rw[show((i:Int) - 1).toNat=i - 1 by omega] at hz;rw[hz]; rfl
 ·rw[decide_eq_false (show ¬ (i:Int) > 0 by omega),cond_false];unfold cH;rw[if_neg h0]; rfl
theorem ea (L:List au) (i:Nat) (N:i < L.length) (hl:L.length<=4096) {β:Type} (f:Int×ByteArray×Int×Int×Int×Int×Int×Int×Int×Int×Bool×Int×Int->Option β):(Option.bind (bif decide ((w ((i:Int)+1)) < (L.length:Int)) then(bp L (w ((i:Int)+1)) λ fY=>some (fY.aM,fY.cP,fY.size,fY.dc,fY.aB,fY.aD,fY.depth,fY.aw,fY.aF,fY.value,fY.cR,fY.bM,fY.to_)) else(some (0,ByteArray.empty,0,0,0,0,0,0,0,0,false,0,0))) f) =
  f ((cE L i).aM,(cE L i).cP,(cE L i).size,(cE L i).dc,(cE L i).aB,(cE L i).aD,(cE L i).depth,(cE L i).aw,(cE L i).aF,(cE L i).value,(cE L i).cR,(cE L i).bM,(cE L i).to_):=by
 rw[cj (n:=(i:Int)+1) (by omega) (by omega)];by_cases h0:i+1 < L.length
 ·rw[decide_eq_true (show(i:Int)+1 < L.length by omega)];obtain⟨z,hz⟩:=eV (L:=L) (i:=(i:Int)+1) (by omega) (by omega);rw[cond_true,aQ (by omega) hz];unfold cE;rw[show((i:Int)+1).toNat=i+1 by omega] at hz;rw[hz]; rfl
 ·rw[decide_eq_false (show ¬ (i:Int)+1 < L.length by omega),cond_false];unfold cE;rw[List.getElem?_eq_none (by omega)]; rfl
theorem MH (k:Nat) (L:List au) (hl:L.length<=4096):∀ (j:Nat) (v:Int) (i:Nat),i<=L.length->qb k L j v i=jn k L j v i
 | 0,v,i,B=>rfl
 | j+1,v,i,B=>by
  unfold qb jn;by_cases N:(i:Int) < L.length
  ·rw[decide_eq_true N];obtain⟨y,hy⟩:=eV (L:=L) (i:=(i:Int)) (by omega) N;have hb:=λ {β:Type} (f:au->Option β)=>aQ (f:=f) (by omega:0<=(i:Int)) hy;have yr:L[i]? = some y:=by rw[show(i:Int).toNat=i by omega] at hy; exact hy
   have ih:∀ v',qb k L j v' (w ((i:Int)+1))=jn k L j v' (w ((i:Int)+1)):=by
    intro v';rw[cj (n:=(i:Int)+1) (by omega) (by omega)];exact MH k L hl j v' (i+1) (by omega)
   rw[cond_true,cond_true];simp only[hb,ih,Yj L i (by omega) hl,ea L i (by omega) hl];obtain⟨r,hr,_⟩:=t91 k y (cH L i) (cE L i);cases D:(y.aM == 2) with
   | true=>
    rw[e80 k L i y hl yr D,hr];simp only[Option.bind_some,cond_true]
   | false=>
    rw[e81 k y (cH L i) (cE L i) D,hr];simp only[Option.bind_some,cond_false,SM];cases r with
    | false=>rfl
    | true=>
     simp only[Bool.not_true,cond_false,Option.bind_some];cases decide (y.bM < v) with
     | true=>rfl
     | false=>
      simp only[cond_false,Option.bind_some];by_cases q1:y.to_ < y.bM
      ·rw[decide_eq_true q1,decide_eq_false (show ¬ y.bM<=y.to_ by omega)]; rfl
      ·rw[decide_eq_false q1,decide_eq_true (show y.bM<=y.to_ by omega)];by_cases q2:y.to_ > 65536
       ·rw[decide_eq_true q2,decide_eq_false (show ¬ y.to_<=65536 by omega)]; rfl
       ·rw[decide_eq_false q2,decide_eq_true (show y.to_<=65536 by omega)]; rfl
  ·rw[decide_eq_false N]; rfl
theorem x79 (k:Nat) (y:au):Wu k y=some (y.aM == 4 && decide (y.value <= -10000)):=by
 unfold Wu;cases (y.aM == 4) <;> rfl
theorem F7 (k:Nat) (L:List au) (hk:L.length < k):∃ r s,DQ k L=some r/\SE k L=some s/\(r != 0)=(s != 0):=by
 unfold DQ SE;cases hc:decide ((L.length:Int) > 4096) with
 | true=>exact⟨130,130,rfl,rfl,rfl⟩
 | false=>
  have hl:¬ (L.length:Int) > 4096:=of_decide_eq_false hc;obtain⟨q,B,D⟩:=GP k L (by omega) k 0 0 (by omega) (by omega);have nG:jn k L k 0 0=some q:=B;have DL:qb k L k 0 0=some q:=(MH k L (by omega) k 0 0 (by omega)).trans B;rw[cond_false,cond_false,nG,DL];by_cases h0:0 < L.length
  ·obtain⟨y,hy⟩:=eV (L:=L) (i:=(L.length:Int) - 1) (by omega) (by omega);have hb:=λ {β:Type} (f:au->Option β)=>aQ (f:=f) (by omega:0<=(L.length:Int) - 1) hy;rw[decide_eq_true (show(L.length:Int) > 0 by omega),cj (n:=(L.length:Int) - 1) (by omega) (by omega)];simp only[hb,x79,cond_true,Option.bind_some];cases q with
   | inr n=>
    have hn:(n != 0)=true:=by
     rw[bne_iff_ne];intro e;subst e;exact CP k L k 0 0 nG
    cases (!(y.aM == 4 && decide (y.value <= -10000))) with
    | true=>exact⟨n,1,rfl,rfl,hn⟩
    | false=>exact⟨n,n,rfl,rfl,rfl⟩
   | inl u=>
    have aa:=(D rfl) _ y (Nat.zero_le _) hy;cases q4:(y.aM == 4) with
    | false=>exact⟨1,1,by simp[bne,q4],by simp,rfl⟩
    | true=>
     have hv:=aa.val (eq_of_beq q4);by_cases q5:y.value = -10000
     ·exact⟨0,0,by simp[bne,q4,q5],by simp[q5],rfl⟩
     ·have q5':(y.value == -10000)=false:=by rw[beq_eq_false_iff_ne]; exact q5
      exact⟨1,1,by simp[bne,q4,q5'],by rw[decide_eq_false (show ¬ y.value <= -10000 by omega)]; rfl,rfl⟩
  ·rw[decide_eq_false (show ¬ (L.length:Int) > 0 by omega)];cases q with
   | inr n=>exact⟨n,n,rfl,rfl,rfl⟩
   | inl u=>exact⟨0,0,rfl,rfl,rfl⟩
theorem x72 (k:Nat) (a:Int):WE k a=some (decide (1<=a) && decide (a<=536870912)):=by
 unfold WE;have e:decide (a>=1)=decide (1<=a):=rfl;rw[e];cases decide (1<=a) <;> rfl
theorem ZE (k:Nat) (n lo N:Int) (h:lo<=N):OX k n lo N=ON k n lo N:=by
 unfold ON OX;by_cases B:n < lo
 ·rw[decide_eq_true B,cond_true,if_neg (show ¬ N < n by omega),if_neg (show ¬ n > lo by omega)]
 ·rw[decide_eq_false B,cond_false];by_cases D:n > N
  ·rw[decide_eq_true D,cond_true,if_pos (show N < n by omega)];by_cases V:N > lo
   ·rw[if_pos V]
   ·rw[if_neg V,show N=lo by omega]
  ·rw[decide_eq_false D,cond_false,if_neg (show ¬ N < n by omega)];by_cases V:n > lo
   ·rw[if_pos V]
   ·rw[if_neg V,show n=lo by omega]
theorem Ft {α β:Type} {L:List α} {i:Int} {f aa:α->Option β} (h:∀ y,f y=aa y):bp L i f=bp L i aa:=by rw[show f=aa from funext h]
theorem te (k:Nat) (L:List au) (a b:bI):WJ k L a b=IS k L a b:=by
 unfold IS WJ;rw[ZE k b.fA 0 10000 (by decide),ZE k a.aI 0 3 (by decide),ZE k b.aI 0 3 (by decide)];refine congrArg _ (funext λ r1=>congrArg _ (funext λ v1=>?_));have:∀ y5:au,(bif decide (y5.value>=0) then((OX k y5.value 0 10000).bind λ AL=>
some (w ((w ((w (10+r1)) * (w (10+r1))))+(w (AL * AL))))) else(bif decide (y5.value > (-10000)) then(some (w ((w ((w (10+r1)) * (w (10+r1)))) - (w (y5.value * y5.value))))) else(some (w ((w (10+r1)) * (w (10+r1))))))) =
  (Option.bind (α:=Int) (bif decide (y5.value>=0) then(some (w ((w ((w (10+r1)) * (w (10+r1))))+(w ((if 10000 < y5.value then 10000 else y5.value) * (if 10000 < y5.value then 10000 else y5.value)))))) else(bif decide (y5.value > (-10000)) then(some (w ((w ((w (10+r1)) * (w (10+r1)))) - (w (y5.value * y5.value))))) else(some (w ((w (10+r1)) * (w (10+r1))))))) λ(v6:Int)=>
some v6):=by
  intro y;by_cases h:y.value>=0
  ·rw[decide_eq_true h,cond_true,cond_true,ZE k y.value 0 10000 (by decide)];unfold ON;rw[Option.bind_some,Option.bind_some];by_cases D:10000 < y.value
   ·rw[if_pos D]; rfl
   ·rw[if_neg D];by_cases V:y.value > 0
    ·rw[if_pos V]
    ·rw[if_neg V,show y.value=0 by omega]
  ·rw[decide_eq_false h,cond_false,cond_false];cases decide (y.value > -10000) <;> rfl
 rw[Ft this]
theorem zY (k:Nat) (L:List au) (hl:L.length<=4096):∀ (j i:Nat) (acc:List Int),i<=L.length->L.length < j+i->acc.length<=i ->
  ∃ ab,o4 k L j i=some ab/\ue k L j acc i=some (acc++ab)/\ab.length<=L.length - i
 | 0,i,acc,B,D,_=>by omega
 | j+1,i,acc,B,D,V=>by
  rw[o4,ue];by_cases N:i < L.length
  ·obtain⟨b,hb⟩:=SN k L i (by omega) (by omega) hl;rw[decide_eq_true (show(i:Int) < L.length by omega),cond_true,cond_true,OG,hb,Option.bind_some,Option.bind_some,cj (n:=(i:Int)+1) (by omega) (by omega),show(i:Int)+1=((i+1:Nat):Int) by omega];cases b with
   | false=>
    obtain⟨ab,a1,Z,a3⟩:=zY k L hl j (i+1) acc (by omega) (by omega) (by omega);exact⟨ab,by rw[a1]; rfl,by rw[cond_false]; exact Z,by omega⟩
   | true=>
    obtain⟨ab,a1,Z,a3⟩:=zY k L hl j (i+1) (acc++[(i:Int)]) (by omega) (by omega) (by rw[List.length_append,List.length_singleton]; omega);refine⟨(i:Int) :: ab,by rw[a1]; rfl,?_,by rw[List.length_cons]; omega⟩;rw[cond_true];unfold mw;rw[if_pos (by rw[List.length_singleton]; omega)];simp only[Option.bind_some];rw[Z,List.append_assoc]; rfl
  ·rw[decide_eq_false (by omega),cond_false,cond_false];exact⟨[],rfl,by rw[List.append_nil],by simp⟩
theorem Yk (k:Nat) (L:List au) (hk:L.length+4<=k) (hn:L.length<=2147483647):∃ ab,HD k L=some ab/\UX k L=some ab/\ab.length<=4096:=by
 obtain⟨r,hr,hg⟩:=Q9 k L (by omega);obtain⟨r',s,ga,hs,SQ⟩:=F7 k L (by omega);rw[hr] at ga;cases ga;by_cases h0:r=0
 ·subst h0;obtain⟨hl,aa⟩:=hg rfl;have ym:(s != 0)=false:=by rw[<- SQ]; rfl
  obtain⟨ab,a1,Z,a3⟩:=zY k L hl k 0 [] (by omega) (by omega) (by simp);rw[show((0:Nat):Int)=0 from rfl] at a1 Z;refine⟨ab,?_,?_,by omega⟩
  ·unfold HD UF;rw[hr,Option.bind_some];have:=Q0 k ab [] (by simp; omega);rw[List.nil_append] at this;simp only[beq_self_eq_true,cond_true,Option.bind_some,a1,this]
  ·unfold UX;rw[hs,Option.bind_some,ym,cond_false,Z];rfl
 ·refine⟨[],?_,?_,by simp⟩
  ·unfold HD;rw[hr,Option.bind_some,show(r == 0)=false by simpa using h0];rfl
  ·unfold UX;rw[hs,Option.bind_some,<- SQ,show(r != 0)=true by simpa using h0];rfl
theorem e94 (k:Nat) (L:List au) (lo a3:Int) (hl:L.length<=4096) (hf:∀ (t:Nat) (y:au),L[t]? = some y->u0 y) (h0:0<=lo) (V:lo<=a3) (h4:a3 < L.length):∀ (j i:Nat),lo+i<=a3->a3 - (lo+i) < j ->
  (qc k L a3 j (lo+i)=some (.inl ())/\dU k ((L.take a3.toNat).drop lo.toNat) j i=some (.inl ()))\/(qc k L a3 j (lo+i)=some (.inr false)/\∃ n:Int,0<=n/\dU k ((L.take a3.toNat).drop lo.toNat) j i=some (.inr n))
 | 0,i,h5,h6=>by omega
 | j+1,i,h5,h6=>by
  have hM:((L.take a3.toNat).drop lo.toNat).length=a3.toNat - lo.toNat:=by simp; omega
  unfold qc dU;by_cases hv:lo+i < a3
  ·rw[decide_eq_true hv,decide_eq_true (show(i:Int) < ((L.take a3.toNat).drop lo.toNat).length by rw[hM]; omega)];obtain⟨y,hy⟩:=eV (L:=L) (i:=lo+i) (by omega) (by omega);have yr:((L.take a3.toNat).drop lo.toNat)[(i:Int).toNat]? = some y:=by
    rw[List.getElem?_drop,List.getElem?_take,if_pos (by omega),show lo.toNat+(i:Int).toNat=(lo+i).toNat by omega];exact hy
   rw[cond_true,cond_true,aQ (by omega) yr,x96 k L _ y (by omega) hy,Q6,zW (hf _ y hy),Option.bind_some,Option.bind_some];cases (y.aM == 4 && decide (y.value <= -10000)) with
   | true=>exact .inr ⟨rfl,i,by omega,rfl⟩
   | false=>
    rw[cond_false,cond_false,cj (n:=lo+i+1) (by omega) (by omega),cj (n:=(i:Int)+1) (by omega) (by omega)];have:=e94 k L lo a3 hl hf h0 V h4 j (i+1) (by omega) (by omega);rw[show lo+((i+1:Nat):Int)=lo+i+1 by omega] at this;exact this
  ·rw[decide_eq_false hv,decide_eq_false (show ¬ (i:Int) < ((L.take a3.toNat).drop lo.toNat).length by rw[hM]; omega)];exact .inl ⟨rfl,rfl⟩
theorem td (k:Nat) (L:List au) (a1 Z a3:Int) (hk:L.length < k):WI k L a1 Z a3=AZ k L a1 Z a3:=by
 obtain⟨r,hr,hg⟩:=Q9 k L hk;obtain⟨r',s,ga,hs,SQ⟩:=F7 k L hk;rw[hr] at ga;cases ga;unfold AZ WI;rw[hr,hs,Option.bind_some,Option.bind_some];by_cases h0:r=0
 ·obtain⟨hl,aa⟩:=hg h0;have hf:∀ (t:Nat) (y:au),L[t]? = some y->u0 y:=λ t y hy=>C9 aa hy;have AQ:(r != 0)=false:=by rw[h0]; rfl
  rw[AQ] at SQ;rw[AQ,<- SQ];simp only[x72,cond_false,Option.bind_some];by_cases B:a1 < 1
  ·rw[decide_eq_true B,decide_eq_false (show ¬ 1<=a1 by omega)]; rfl
  rw[decide_eq_false B,decide_eq_true (show 1<=a1 by omega)];by_cases D:a1 > 536870912
  ·rw[decide_eq_true D,decide_eq_false (show ¬ a1<=536870912 by omega)]; rfl
  rw[decide_eq_false D,decide_eq_true (show a1<=536870912 by omega)];unfold Zl;by_cases V:Z < -1
  ·rw[decide_eq_true V]; rfl
  rw[decide_eq_false V];by_cases h4:Z>=a3
  ·rw[decide_eq_true h4]; rfl
  rw[decide_eq_false h4];by_cases h5:a3>=L.length
  ·rw[decide_eq_true h5]; rfl
  rw[decide_eq_false h5];obtain⟨b,hb⟩:=SN k L a3 (by omega) (by omega) hl;rw[OG,OG,hb];rw[A2 k L a1 Z a3 hl hk hf (by omega) (by omega) (by omega) (by omega) (by omega)];have e9:=e94 k L (Z+1) a3 hl hf (by omega) (by omega) (by omega) k 0 (by omega) (by omega);rw[show Z+1+((0:Nat):Int)=Z+1 by omega] at e9;have gz:∀ (ah:Option (bI×Int)) (ai:Option (bI×Int)),(Option.bind (α:=Bool) (Option.bind (α:=(Unit) ⊕ (Bool)) (qc k L a3 k (w (Z+1))) (Sum.elim (λ(_:Unit)=>some true) some)) λ KS=>(bif !KS then ah else ai)) =
    (lS L (w (Z+1)) a3 λ l9=>(nq k l9).bind λ Ks=>bif Ks then ah else ai):=by
   intro ah ai;rw[cj (by omega) (by omega)];unfold lS nq wH;rw[if_pos ⟨by omega,by omega,by omega⟩];rcases e9 with⟨p1,p2⟩ | ⟨p1,n,p3,p2⟩
   ·have WU:dU k ((L.take a3.toNat).drop (Z+1).toNat) k 0=some (.inl ()):=p2;dsimp only;rw[p1,WU]; rfl
   ·have WU:dU k ((L.take a3.toNat).drop (Z+1).toNat) k 0=some (.inr n):=p2;dsimp only;rw[p1,WU];show ah=Option.bind (some (decide (n>=0))) λ Ks=>bif Ks then ah else ai
    rw[decide_eq_true p3]; rfl
  cases b with
  | false=>
   by_cases h6:Z>=0
   ·rw[decide_eq_true h6];obtain⟨c,hc⟩:=SN k L Z (by omega) (by omega) hl;rw[hc];cases c <;> rfl
   ·rw[decide_eq_false h6]; rfl
  | true=>
   by_cases h6:Z>=0
   ·rw[decide_eq_true h6];obtain⟨c,hc⟩:=SN k L Z (by omega) (by omega) hl;rw[hc];cases c with
    | false=>rfl
    | true=>
     have:=gz (some ((bI.mk 0 0 0 0 0 0 0 0 0 false false false 0 0),1)) ((DD k L a1 Z a3).bind λ OM=>some (OM,0));rw[<- this,cj (n:=Z+1) (by omega) (by omega)];rcases e9 with⟨p1,_⟩ | ⟨p1,_⟩ <;> rw[p1] <;> rfl
   ·rw[decide_eq_false h6];have:=gz (some ((bI.mk 0 0 0 0 0 0 0 0 0 false false false 0 0),1)) ((DD k L a1 Z a3).bind λ OM=>some (OM,0));rw[<- this,cj (n:=Z+1) (by omega) (by omega)];rcases e9 with⟨p1,_⟩ | ⟨p1,_⟩ <;> rw[p1] <;> rfl
 ·have AQ:(r != 0)=true:=by rw[bne_iff_ne]; exact h0
  rw[AQ] at SQ;rw[AQ,<- SQ];rfl
end
end Go.cy.jV
namespace Go.cy.jV
open Go.Proofs
noncomputable section
theorem x67 (k:Nat) (y:au):WA k y=some (DW y):=by
 unfold WA DW;cases y.aM == 4 with
 | false=>rfl
 | true=>rfl
def rO (v:Int):Nat->List Int
 | 0=>[]
 | d+1=>v :: rO (v+1) d
theorem zZ (v:Int):∀ d,(rO v d).length=d
 | 0=>rfl
 | d+1=>by show(rO (v+1) d).length+1=_; rw[zZ]
theorem Ir:∀ (d i:Nat) (v:Int),i < d->(rO v d)[i]? = some (v+i)
 | 0,i,v,h=>by omega
 | d+1,0,v,_=>by show some v=_; congr 1; omega
 | d+1,i+1,v,h=>by
  show(rO (v+1) d)[i]? = _;rw[Ir d i (v+1) (by omega)];congr 1; omega
theorem B1:∀ (d:Nat) (v:Int),rO v d++[v+d]=rO v (d+1)
 | 0,v=>by show[v+((0:Nat):Int)]=[v]; congr 1; omega
 | d+1,v=>by
  show v :: (rO (v+1) d++[v+((d+1:Nat):Int)])=v :: rO (v+1) (d+1);rw[<- B1 d (v+1)];congr 3; omega
section
variable {k:Nat} {L:List au} {W:List Int} {a:Int} {ak:Nat}
theorem MI (s:k9 k L W a ak) (n:Nat) (hn:n<=ak):∀ (j i:Nat),i<=n->n - i < j->sk k L W n j (fj L W i) i=some (fj L W n)
 | 0,i,_,h=>by omega
 | j+1,i,B,D=>by
  have hl:=s.w.len;have hm:=s.w.Cx;have hW:=s.hW;unfold sk;by_cases N:i < n
  ·obtain⟨q1,q2⟩:=pq (W:=W) (n:=i) (by omega);obtain⟨p0,p1⟩:=s.w.WQ _ q2;obtain⟨y,hy⟩:=eV p0 p1;have hf:OY L (W.getD i 0)=DW y:=by unfold OY; rw[hy]
   have jj:fj L W (i+1)=if DW y=true then(i:Int) else fj L W i:=by rw[fj,hf]
   rw[decide_eq_true (show(i:Int) < (n:Int) by omega),cond_true,aQ (f:=_) (by omega) (show W[((i:Nat):Int).toNat]? = some (W.getD i 0) from q1),aQ p0 hy,x67,Option.bind_some,cj (by omega) (by omega),show(i:Int)+1=((i+1:Nat):Int) by omega];have ih:=MI s n hn j (i+1) (by omega) (by omega);rw[jj] at ih;cases hc:DW y with
   | true=>rw[hc] at ih; exact ih
   | false=>rw[hc] at ih; exact ih
  ·rw[decide_eq_false (show ¬ (i:Int) < (n:Int) by omega),cond_false];rw[show i=n by omega]
theorem MJ (k:Nat) (n:Nat) (hn:n<=100000) (v:Int) (hv : -1<=v):∀ (j d:Nat),v+d<=n->n - (v+d) < j->sm k n j (rO v d) (v+d)=some (rO v (n - v).toNat)
 | 0,d,_,h=>by omega
 | j+1,d,B,D=>by
  unfold sm;by_cases N:v+d < n
  ·rw[decide_eq_true N,cond_true,ny (by rw[zZ]; simp only[List.length_singleton]; omega),B1,cj (by omega) (by omega),show v+(d:Int)+1=v+((d+1:Nat):Int) by omega];exact MJ k n hn v hv j (d+1) (by omega) (by omega)
  ·rw[decide_eq_false N,cond_false,show(n - v).toNat=d by omega]
theorem t38 (s:k9 k L W a ak) (n:Nat) (hn:n<=ak) (hk:ak+2 < k):WB k L W n=some (rO (fj L W n) (n - fj L W n).toNat):=by
 have hl:=s.w.len;have hm:=s.w.Cx;have hW:=s.hW;obtain⟨f1,f2⟩:=oH L W n;unfold WB;have B:=MI s n hn k 0 (by omega) (by omega);have nG:sk k L W n k (-1) 0=some (fj L W n):=B;rw[nG,Option.bind_some];have D:=MJ k n (by omega) (fj L W n) f1 k 0 (by omega) (by omega);rw[show fj L W n+((0:Nat):Int)=fj L W n by omega] at D;have uE:sm k n k [] (fj L W n)=some (rO (fj L W n) (n - fj L W n).toNat):=D;rw[uE];rfl
end
def glw (y:cg):bI:=bI.mk y.eo y.fh y.er y.dj y.dk y.dH y.eu y.gn y.bN y.fi y.dI y.gp y.dJ y.ey
structure Bf (k:Nat) (L:List au) (a b:Int) (y:cg) (R:List Int):Prop where
 is:y.gE=true
 WV:y.eX=R.reverse
 PL:glw y=dW k L a R
 fA:y.bj=cB k L a b R
 tot:y.aR=cT k L a R
 O1:y.aO=R.length
def Gx:cg:=cg.mk true [] 0 0 0 (-1) 0 0 0 0 0 0 0 0 false false false 0 0
theorem ad5 (k:Nat) (L:List au) (a b:Int):Bf k L a b Gx []:=⟨rfl,rfl,rfl,rfl,rfl,rfl⟩
section
variable {k:Nat} {L:List au} {W:List Int} {a b:Int} {ak:Nat}
theorem t40 (s:k9 k L W a ak) {n:Nat} (hn:n < ak) {y:cg} {R:List Int} (hy:Bf k L a b y R) (hf:JC L W n (hd R)) (hlen:R.length<=5000) :
  ∃ y',U2 k L a b y (W.getD n 0)=some y'/\Bf k L a b y' (W.getD n 0 :: R)/\y'.bN=(dW k L a (W.getD n 0 :: R)).aI/\HF (dW k L a (W.getD n 0 :: R)):=by
 obtain⟨p1,p2,p3,p4,p5,p6⟩:=s.ln hn hf;have IH:(R.reverse.length:Int)=R.length:=by rw[List.length_reverse]
 unfold U2;rw[hy.WV];obtain⟨hv,FB⟩:∃ v,(bif decide ((R.reverse.length:Int) > 0) then(bp R.reverse (w ((R.reverse.length:Int) - 1)) λ y2=>some y2) else(some (-1)):Option Int)=some v/\v=hd R:=by
  cases R with
  | nil=>exact⟨-1,rfl,rfl⟩
  | cons t R'=>
   have hl:(((t :: R').reverse).length:Int)=(R'.length:Int)+1:=by rw[List.length_reverse,List.length_cons]; omega
   rw[hl,decide_eq_true (by omega),cond_true,cj (by omega) (by omega),show(R'.length:Int)+1 - 1=R'.length by omega];have AI:((t :: R').reverse)[((R'.length:Nat):Int).toNat]? = some t:=by
    rw[show((R'.length:Nat):Int).toNat=R'.length by omega,List.reverse_cons,List.getElem?_append_right (by rw[List.length_reverse]; omega),List.length_reverse,Nat.sub_self];rfl
   exact⟨t,by rw[aQ (by omega) AI],rfl⟩
 rw[FB.1,Option.bind_some,FB.2,td k L a _ _ s.hk,p2,Option.bind_some];rw[ny (by simp only[List.length_nil,List.length_reverse]; omega),List.nil_append,ny (by rw[List.length_reverse]; simp only[List.length_singleton]; omega)];generalize KK:dW k L a (W.getD n 0 :: R)=x at *;obtain⟨v5,h5,h6⟩:∃ v,(bif x.bB then(some true) else(some (decide (x.fA > b))):Option Bool)=some v/\(bif v then(1:Int) else 0)=bd b x:=by
  unfold bd;cases x.bB with
  | true=>exact⟨_,rfl,rfl⟩
  | false=>exact⟨_,rfl,rfl⟩
 simp only;rw[h5,Option.bind_some];have hbb:=LZ k L a b R;have hbt:=L0 k L a R;have Od:=LY b x;obtain⟨d1,d2⟩:=HV k L (dW k L a R) x;have h7:(bif v5 then(some (w (y.bj+1))) else(some y.bj):Option Int)=some (bd b x+cB k L a b R):=by
  rw[hy.fA,<- h6];cases v5 with
  | true=>rw[cond_true,cj (by omega) (by omega)]; congr 1; show _=1+_; omega
  | false=>rw[cond_false]; congr 1; show _=0+_; omega
 rw[h7,Option.bind_some,te];have h8:bI.mk y.eo y.fh y.er y.dj y.dk y.dH y.eu y.gn y.bN y.fi y.dI y.gp y.dJ y.ey=dW k L a R:=hy.PL;rw[h8,d1,Option.bind_some];unfold Bd at d2;refine⟨_,rfl,⟨rfl,?_,?_,?_,?_,?_⟩,rfl,p6⟩
 ·show R.reverse++[W.getD n 0]=_;rw[List.reverse_cons]
 ·show glw _=dW k L a (W.getD n 0 :: R);rw[KK]; rfl
 ·show bd b x+cB k L a b R=cB k L a b (W.getD n 0 :: R);rw[<- KK]; rfl
 ·show w (y.aR+dm k L (dW k L a R) x)=cT k L a (W.getD n 0 :: R);rw[hy.tot,cj (by omega) (by omega),<- KK]; rfl
 ·show w (y.aO+1)=_;rw[hy.O1,cj (by omega) (by omega),List.length_cons]; omega
end
theorem MK (k:Nat) (y z:cg) (R T:List Int) (hy:y.eX=R.reverse) (hz:z.eX=T.reverse) (hl:R.length=T.length) (hlen:R.length<=5000):∀ (j d:Nat),d<=R.length->R.length - d < j ->
  (sq k y z j ((R.length:Int) - 1 - d)=some (.inl ())/\R.drop d=T.drop d)\/sq k y z j ((R.length:Int) - 1 - d)=some (.inr (lx (R.drop d) (T.drop d)))
 | 0,d,_,h=>by omega
 | j+1,d,B,D=>by
  unfold sq;by_cases hd:d < R.length
  ·rw[decide_eq_true (by omega),cond_true,hy,hz];have ZF:∀ (an:List Int),an.length=R.length->∀ (h:d < an.length),an.reverse[((R.length:Int) - 1 - d).toNat]? = some an[d]:=λ an hX h=>by
    rw[List.getElem?_reverse (by omega),List.getElem?_eq_getElem (by omega)];congr 2; omega
   rw[aQ (by omega) (ZF R rfl hd),aQ (by omega) (ZF T hl.symm (by omega))];have e1:R.drop d=R[d] :: R.drop (d+1):=List.drop_eq_getElem_cons hd;have e2:T.drop d=T[d] :: T.drop (d+1):=List.drop_eq_getElem_cons (by omega);rw[e1,e2];by_cases V:R[d]=T[d]'(by omega)
   ·rw[show(R[d] != T[d]'(by omega))=false by rw[V]; exact bne_self_eq_false ..,cond_false,cj (by omega) (by omega),V,my];rw[show(R.length:Int) - 1 - d - 1=(R.length:Int) - 1 - ((d+1:Nat):Int) by omega];rcases MK k y z R T hy hz hl hlen j (d+1) (by omega) (by omega) with⟨h4,h5⟩ | h4
    ·exact .inl ⟨h4,by rw[h5]⟩
    ·exact .inr h4
   ·rw[show(R[d] != T[d]'(by omega))=true from bne_iff_ne.mpr V,cond_true,aQ (by omega) (ZF R rfl hd),aQ (by omega) (ZF T hl.symm (by omega))];right;by_cases h4:R[d] < T[d]'(by omega)
    ·rw[o5 h4,decide_eq_true h4]
    ·rw[o6 (by omega),decide_eq_false h4]
  ·rw[decide_eq_false (by omega),cond_false];exact .inl ⟨rfl,by rw[List.drop_eq_nil_of_le (by omega),List.drop_eq_nil_of_le (by omega)]⟩
theorem t41 {k:Nat} {L:List au} {a b:Int} {y z:cg} {R T:List Int} (hy:Bf k L a b y R) (hz:Bf k L a b z T) (hlen:R.length<=5000) (hk:5001 < k):KY k y z=some (lx (key k L a b R) (key k L a b T)):=by
 have lF:R.length < k:=by omega
 unfold KY key;rw[hy.fA,hz.fA,hy.tot,hz.tot,hy.O1,hz.O1];by_cases B:cB k L a b R=cB k L a b T
 ·rw[show(cB k L a b R != cB k L a b T)=false by rw[B]; exact bne_self_eq_false ..,cond_false,B,my];by_cases D:cT k L a R=cT k L a T
  ·rw[show(cT k L a R != cT k L a T)=false by rw[D]; exact bne_self_eq_false ..,cond_false,D,my];by_cases V:R.length=T.length
   ·rw[show((R.length:Int) != (T.length:Int))=false by rw[V]; exact bne_self_eq_false ..,cond_false,V,my,hy.WV,show(R.reverse.length:Int)=R.length by rw[List.length_reverse],cj (by omega) (by omega)];have:=MK k y z R T hy.WV hz.WV V hlen k 0 (Nat.zero_le _) (by omega);rw[show(R.length:Int) - 1 - ((0:Nat):Int)=(R.length:Int) - 1 by omega,List.drop_zero,List.drop_zero] at this;rcases this with⟨h4,h5⟩ | h4
    ·rw[h4,h5,zG]; rfl
    ·rw[h4]; rfl
   ·rw[show((R.length:Int) != (T.length:Int))=true from bne_iff_ne.mpr (by omega),cond_true];by_cases h4:(R.length:Int) < T.length
    ·rw[o5 h4,decide_eq_true h4]
    ·rw[o6 (by omega),decide_eq_false h4]
  ·rw[show(cT k L a R != cT k L a T)=true from bne_iff_ne.mpr D,cond_true];by_cases h4:cT k L a R < cT k L a T
   ·rw[o5 h4,decide_eq_true h4]
   ·rw[o6 (by omega),decide_eq_false h4]
 ·rw[show(cB k L a b R != cB k L a b T)=true from bne_iff_ne.mpr B,cond_true];by_cases h4:cB k L a b R < cB k L a b T
  ·rw[o5 h4,decide_eq_true h4]
  ·rw[o6 (by omega),decide_eq_false h4]
end
end Go.cy.jV
namespace Go.cy.jV
open Go.Proofs
noncomputable section
def Tx (k:Nat) (L:List au) (a b:Int) (y:cg) (jI:List Int->Prop):Prop:=
 (y.gE=false->∀ R,¬ jI R)/\(y.gE=true->∃ R,Bf k L a b y R/\jI R/\∀ R',jI R'->lx (key k L a b R') (key k L a b R)=false)
def yU (k:Nat) (L:List au) (a b:Int) (st:List cg) (P:List Int->Prop):Prop:=
 st.length=4/\∀ (c:Int),0<=c->c < 4->∃ y,st[c.toNat]? = some y/\Tx k L a b y (λ R=>P R/\(dW k L a R).aI=c)
theorem yU.congr {k:Nat} {L:List au} {a b:Int} {st:List cg} {P P':List Int->Prop} (h:yU k L a b st P) (e:∀ R,P R↔P' R):yU k L a b st P':=by
 have:P=P':=funext λ R=>propext (e R);subst this; exact h
def PT:cg:=cg.mk false [] 0 0 0 0 0 0 0 0 0 0 0 0 false false false 0 0
theorem Qw (k:Nat) (L:List au) (a b:Int) (P:List Int->Prop) (h:∀ R,¬ P R):yU k L a b (List.replicate (Int.toNat 4) PT) P:=by
 refine⟨rfl,λ c h0 B=>⟨PT,?_,λ _ R G=>h R G.1,λ e=>by cases e⟩⟩;rw[List.getElem?_replicate,if_pos (show c.toNat < Int.toNat 4 by show c.toNat < 4; omega)]
section
variable {k:Nat} {L:List au} {W:List Int} {a b:Int} {ak:Nat}
theorem ad6 {st:List cg} {P P':List Int->Prop} {y:cg} {R1:List Int} (hS:yU k L a b st P) (hy:Bf k L a b y R1) (hc:y.bN=(dW k L a R1).aI) (kM:HF (dW k L a R1)) (hlen:R1.length<=5000) (hk:5001 < k)
  (B:∀ R,P R->P' R) (D:P' R1) (V:∀ R,P' R->P R\/((dW k L a R).aI=(dW k L a R1).aI/\lx (key k L a b R) (key k L a b R1)=false)) :
  ∃ uU,(bp st y.bN λ Gr=>
  Option.bind (α:=Bool) (bif !Gr.gE then(some true) else(bp st y.bN λ D9=>
  (KY k y D9).bind λ SI=>
  some SI)) λ(lK:Bool)=>
  bif lK then(bp st y.bN λ Lj=>
  qa (List.set st (Int.toNat y.bN) y) λ Bb=>
  some Bb) else(some st))=some uU/\yU k L a b uU P':=by
 rw[hc];obtain⟨hl,hS⟩:=hS;obtain⟨z,hz,z1,z2⟩:=hS _ kM.1 kM.2;rw[aQ kM.1 hz];have ou:∀ c,0<=c->c < 4->c≠(dW k L a R1).aI->∀ u,Tx k L a b u (λ R=>P R/\(dW k L a R).aI=c)->Tx k L a b u (λ R=>P' R/\(dW k L a R).aI=c):=λ c _ _ ee u hu=>by
  have e:∀ R,(P R/\(dW k L a R).aI=c)↔(P' R/\(dW k L a R).aI=c):=λ R=>⟨λ h=>⟨B R h.1,h.2⟩,λ h=>by
   rcases V R h.1 with h4 | h4
   ·exact⟨h4,h.2⟩
   ·exact absurd (h.2.symm.trans h4.1) ee⟩
  have:(λ R=>P R/\(dW k L a R).aI=c)=(λ R=>P' R/\(dW k L a R).aI=c):=funext λ R=>propext (e R);rw[<- this]; exact hu
 have pJ:yU k L a b (st.set (dW k L a R1).aI.toNat y) P'->∃ uU,(bp st (dW k L a R1).aI λ Lj=>qa (List.set st (Int.toNat (dW k L a R1).aI) y) λ Bb=>some Bb)=some uU/\yU k L a b uU P':=λ h=>⟨_,by rw[aQ kM.1 hz]; rfl,h⟩
 have mk:(∀ R,(P' R/\(dW k L a R).aI=(dW k L a R1).aI)->lx (key k L a b R) (key k L a b R1)=false)->yU k L a b (st.set (dW k L a R1).aI.toNat y) P':=λ tn=>by
  refine⟨by rw[List.length_set]; exact hl,λ c g0 g1=>?_⟩;by_cases e:c=(dW k L a R1).aI
  ·subst e;refine⟨y,List.getElem?_set_self (by have:=kM.2; omega),λ e=>(by rw[hy.is] at e; cases e),λ _=>⟨R1,hy,⟨D,rfl⟩,tn⟩⟩
  ·obtain⟨u,hu,ho⟩:=hS c g0 g1;exact⟨u,by rw[List.getElem?_set_ne (by have:=kM.1; omega)]; exact hu,ou c g0 g1 e u ho⟩
 cases hb:z.gE with
 | false=>
  rw[Bool.not_false,cond_true,Option.bind_some,cond_true];refine pJ (mk λ R G=>?_);rcases V R G.1 with h4 | h4
  ·exact absurd ⟨h4,G.2⟩ (z1 hb R)
  ·exact h4.2
 | true=>
  obtain⟨ae,w1,w2,w3⟩:=z2 hb;rw[Bool.not_true,cond_false,aQ kM.1 hz,t41 hy w1 hlen hk];simp only[Option.bind_some];cases hq:lx (key k L a b R1) (key k L a b ae) with
  | true=>
   rw[cond_true];refine pJ (mk λ R G=>?_);rcases V R G.1 with h4 | h4
   ·exact ve _ _ _ (vp _ _ hq) (w3 R ⟨h4,G.2⟩)
   ·exact h4.2
  | false=>
   rw[cond_false];refine⟨st,rfl,hl,λ c g0 g1=>?_⟩;obtain⟨u,hu,ho⟩:=hS c g0 g1;by_cases e:c=(dW k L a R1).aI
   ·subst e;rw[hz] at hu; cases hu;refine⟨z,hz,λ e=>(by rw[hb] at e; cases e),λ _=>⟨ae,w1,⟨B ae w2.1,w2.2⟩,λ R G=>?_⟩⟩;rcases V R G.1 with h4 | h4
    ·exact w3 R ⟨h4,G.2⟩
    ·exact ve _ _ _ hq h4.2
   ·exact⟨u,hu,ou c g0 g1 e u ho⟩
theorem Is (s:k9 k L W a ak) {n:Nat} (hn:n < ak) {x:List cg} {i:Int} (N:0<=i) {z:cg} (hz:x[i.toNat]? = some z) {st:List cg} {P P':List Int->Prop} (hS:yU k L a b st P) (hk:5001 < k)
  (kV:z.gE=false->∀ R,P R↔P' R) (ad7:z.gE=true->∃ R0,Bf k L a b z R0/\JC L W n (hd R0)/\R0.length<=4999/\(∀ R,P R->P' R)/\P' (W.getD n 0 :: R0)/\∀ R,P' R->P R\/((dW k L a R).aI=(dW k L a (W.getD n 0 :: R0)).aI/\lx (key k L a b R) (key k L a b (W.getD n 0 :: R0))=false)) :
  ∃ uU,(bp x i λ Py=>
  bif !Py.gE then(some st) else(bp x i λ Gq=>
  bp W n λ Jt=>
  (U2 k L a b Gq Jt).bind λ nE=>
  bp st nE.bN λ Gr=>
  Option.bind (α:=Bool) (bif !Gr.gE then(some true) else(bp st nE.bN λ D9=>
  (KY k nE D9).bind λ SI=>
  some SI)) λ(lK:Bool)=>
  bif lK then(bp st nE.bN λ Lj=>
  qa (List.set st (Int.toNat nE.bN) nE) λ Bb=>
  some Bb) else(some st)))=some uU/\yU k L a b uU P':=by
 have hW:=s.hW;rw[aQ N hz];cases hb:z.gE with
 | false=>exact⟨st,rfl,hS.congr (kV hb)⟩
 | true=>
  obtain⟨R0,r1,r2,r3,r4,r5,r6⟩:=ad7 hb;obtain⟨y',q1,q2,q3,q4⟩:=t40 s hn r1 r2 (by omega);have hq:W[((n:Nat):Int).toNat]? = some (W.getD n 0):=(pq (by omega)).1;rw[Bool.not_true,cond_false,aQ N hz,aQ (by omega) hq,q1,Option.bind_some];exact ad6 hS q2 q3 q4 (by rw[List.length_cons]; omega) hk r4 r5 r6
def Ty (k:Nat) (L:List au) (a b:Int) (W:List Int) (T:List (List cg)):Prop:=∀ (m:Nat) (st:List cg),T[m]? = some st->yU k L a b st (mI L W m)
theorem ML (s:k9 k L W a ak) (n v:Nat) (hn:n < ak) (hv:v < n) (Fv:fj L W n<=v) (hk:5001 < k) {x:List cg} (Y:yU k L a b x (mI L W v)) :
  ∀ (j:Nat) (q:Int) (st:List cg),0<=q->q<=4->4 - q < j->yU k L a b st (kc k L a W n v q)->∃ uU,oG k L a b W n x j st q=some uU/\yU k L a b uU (kc k L a W n v 4)
 | 0,q,st,_,h,h',_=>by omega
 | j+1,q,st,h0,B,D,hS=>by
  have hl:=s.w.len;have hm:=s.w.Cx;have hW:=s.hW;unfold oG;rw[show(x.length:Int)=4 by rw[Y.1]; rfl];by_cases hq:q < 4
  ·rw[decide_eq_true hq,cond_true];obtain⟨z,hz,z1,z2⟩:=Y.2 q h0 hq;obtain⟨uU,e1,e2⟩:=Is (b:=b) (P':=kc k L a W n v (q+1)) s hn h0 hz hS hk (λ hb R=>⟨kc.up,λ h=>by
    rcases h.down with h | ⟨R',e,g2,g3⟩
    ·exact h
    ·exact absurd ⟨g2,g3⟩ (z1 hb R')⟩) (λ hb=>by
    obtain⟨R0,r1,⟨r2,r3⟩,r4⟩:=z2 hb;refine⟨R0,r1,.inr ⟨v,r2.hd,Fv,hv⟩,by have:=r2.len; omega,λ R=>kc.up,⟨R0,rfl,.inr ⟨v,Fv,.inr ⟨rfl,by omega⟩,hv,r2⟩⟩,λ R h=>?_⟩;rcases h.down with h | ⟨R',rfl,g2,g3⟩
    ·exact .inl h
    ·have Yz:=s.mono b (t:=W.getD n 0) (show v < ak by omega) g2 r2 (g3.trans r3.symm);exact .inr ⟨by rw[Yz.1],by rw[Yz.2]; exact r4 R' ⟨g2,g3⟩⟩)
   rw[e1,Option.bind_some,cj (by omega) (by omega)];exact ML s n v hn hv Fv hk Y j (q+1) uU (by omega) (by omega) (by omega) e2
  ·rw[decide_eq_false hq,cond_false];have:q=4:=by omega
   subst this;exact⟨st,rfl,hS⟩
theorem Kc (s:k9 k L W a ak) (n:Nat) (hn:n < ak) (jj:fj L W n = -1) (hk:5001 < k) {st:List cg} (hS:yU k L a b st (kc k L a W n (-1) 0)) :
  ∃ uU,oG k L a b W n [Gx] k st 0=some uU/\yU k L a b uU (kc k L a W n 0 0):=by
 obtain⟨k,rfl⟩:∃ j,k=j+2:=⟨k - 2,by omega⟩
 have down:∀ R,kc (k+2) L a W n 0 0 R->R=[W.getD n 0]:=by
  rintro R ⟨R',rfl,⟨rfl,h,h'⟩ | ⟨m,B,D,V,h4⟩⟩
  ·rfl
  ·exfalso;have:=(s.Va (show m < ak by omega) h4).1;rcases D with D | ⟨_,D⟩ <;> omega
 obtain⟨uU,e1,e2⟩:=Is (b:=b) (P':=kc (k+2) L a W n 0 0) s hn (i:=0) (Int.le_refl _) (x:=[Gx]) (z:=Gx) rfl hS hk (λ e=>by cases e) (λ _=>⟨[],ad5 _ L a b,.inl ⟨rfl,jj⟩,by simp,(by
  rintro R ⟨R',rfl,⟨rfl,h,h'⟩ | ⟨m,B,D,V,h4⟩⟩
  ·exact⟨_,rfl,.inl ⟨rfl,h,by omega⟩⟩
  ·exact⟨_,rfl,.inr ⟨m,B,.inl (by rcases D with D | D <;> omega),V,h4⟩⟩),⟨[],rfl,.inl ⟨rfl,jj,by decide⟩⟩,λ R h=>.inr ⟨by rw[down R h],by rw[down R h]; exact zG _⟩⟩)
 have s1:oG (k+2) L a b W n [Gx] ((k+1)+1) st 0=(some uU).bind λ Ea=>oG (k+2) L a b W n [Gx] (k+1) Ea 1:=by
  rw[<- e1]; rfl
 rw[show k+2=(k+1)+1 from rfl] at *;exact⟨uU,by rw[s1]; rfl,e2⟩
end
structure Vb (m:aH):Prop where
 rf:m.Bq=0
 s0:0<=m.done
 s1:m.done<=m.bz
 s2:m.bz < 9223372036854775808
 c0:0<=m.tv
 c1:m.tv<=m.bZ
 c2:m.bZ < 9223372036854775808
theorem t39 (k:Nat) (m:aH) (h:Vb m):WD k m 1=some (if m.done < m.bz then(true,aH.mk m.bz m.bZ (m.done+1) m.tv m.gF 0) else(false,aH.mk m.bz m.bZ m.bz m.tv m.gF 20)):=by
 have h0:=h.s0;have B:=h.s1;have D:=h.s2;unfold WD;rw[show decide ((1:Int) < 0)=false from rfl,cond_false,Option.bind_some,h.rf,show((0:Int) != 0)=false from rfl,cond_false,cj (n:=m.bz - m.done) (by omega) (by omega)];by_cases hd:m.done < m.bz
 ·rw[decide_eq_false (by omega),cond_false,if_pos hd,cj (by omega) (by omega)]
 ·rw[decide_eq_true (by omega),cond_true,if_neg hd]
def nY (m:aH) (d:Int):aH:=aH.mk m.bz m.bZ (m.done+d) m.tv m.gF 0
def L4 (m:aH):aH:=aH.mk m.bz m.bZ m.bz m.tv m.gF 20
section
variable {k:Nat} {L:List au} {W:List Int} {a b:Int} {ak:Nat}
theorem Fb {m:aH} (h:Vb m) {d:Int} (h0:0<=d) (B:m.done+d<=m.bz):Vb (nY m d):=⟨rfl,by have:=h.s0; show 0<=m.done+d; omega,B,h.s2,h.c0,h.c1,h.c2⟩
theorem MM (s:k9 k L W a ak) (n:Nat) (hn:n < ak) (hk:5001 < k) {T:List (List cg)} (hT:Ty k L a b W T) (SR:T.length=n) :
  ∀ (j d:Nat) (st:List cg) (m:aH),d<=(n - fj L W n).toNat->(n - fj L W n).toNat - d < j->Vb m->yU k L a b st (kc k L a W n (fj L W n+d) 0) ->
   ∃ an,qe k L a b W T n (rO (fj L W n) (n - fj L W n).toNat) j st d m=some an /\
    ((m.done+(n - (fj L W n+d))<=m.bz/\∃ uU,an=.inl (uU,nY m (n - (fj L W n+d)))/\yU k L a b uU (mI L W n))\/(m.bz < m.done+(n - (fj L W n+d))/\an=.inr (.inr (.inr ([],cD.mk 0 0 0,cA.mk 20 0,L4 m)))))
 | 0,d,st,m,_,h,_,_=>by omega
 | j+1,d,st,m,B,D,hm,hS=>by
  have hl:=s.w.len;have Hr:=s.w.Cx;have hW:=s.hW;obtain⟨f1,f2⟩:=oH L W n;have AB:=hm.s0;have RK:=hm.s1;unfold qe;rw[zZ];by_cases hd:d < (n - fj L W n).toNat
  ·rw[decide_eq_true (by omega),cond_true,t39 k m hm];by_cases fW:m.done < m.bz
   ·rw[if_pos fW];have AI:=Ir (n - fj L W n).toNat d (fj L W n) hd;have ad8:(rO (fj L W n) (n - fj L W n).toNat)[((d:Nat):Int).toNat]? = some (fj L W n+d):=AI;simp only[Option.bind_some,Bool.not_true,cond_false,aQ (f:=_) (show(0:Int)<=(d:Int) by omega) ad8];have go:∀ jD:List cg,yU k L a b jD (kc k L a W n (fj L W n+((d+1:Nat):Int)) 0)->∃ an,qe k L a b W T n (rO (fj L W n) (n - fj L W n).toNat) j jD (w ((d:Int)+1)) (aH.mk m.bz m.bZ (m.done+1) m.tv m.gF 0)=some an /\
      ((m.done+(n - (fj L W n+d))<=m.bz/\∃ uU,an=.inl (uU,nY m (n - (fj L W n+d)))/\yU k L a b uU (mI L W n))\/(m.bz < m.done+(n - (fj L W n+d))/\an=.inr (.inr (.inr ([],cD.mk 0 0 0,cA.mk 20 0,L4 m))))):=λ jD hS1=>by
     rw[cj (by omega) (by omega),show(d:Int)+1=((d+1:Nat):Int) by omega];obtain⟨an,e1,e2⟩:=MM s n hn hk hT SR j (d+1) jD (nY m 1) (by omega) (by omega) (Fb hm (by omega) (by omega)) hS1;refine⟨an,e1,?_⟩;rcases e2 with⟨g1,uU,g2,g3⟩ | ⟨g1,g2⟩
     ·refine .inl ⟨?_,uU,?_,g3⟩
      ·have Ob:m.done+1+(n - (fj L W n+((d+1:Nat):Int)))<=m.bz:=g1;omega
      ·rw[g2];unfold nY;congr 3;show m.done+1+_=_;omega
     ·refine .inr ⟨?_,g2⟩;have Ob:m.bz < m.done+1+(n - (fj L W n+((d+1:Nat):Int))):=g1;omega
    by_cases h0:fj L W n+(d:Int)>=0
    ·obtain⟨v,hv⟩:∃ v:Nat,fj L W n+(d:Int)=v:=⟨(fj L W n+d).toNat,by omega⟩
     have ZG:v < n:=by omega
     obtain⟨x,Y⟩:=aP (l:=T) (i:=v) (by omega);rw[hv,decide_eq_true (show(v:Int)>=0 by omega),cond_true,aQ (by omega) (show T[((v:Nat):Int).toNat]? = some x from Y)];simp only[Option.bind_some];rw[hv] at hS;obtain⟨jD,e1,e2⟩:=ML s n v hn ZG (by omega) hk (hT v x Y) k 0 st (Int.le_refl _) (by decide) (by omega) hS;rw[e1];simp only[Option.bind_some,Sum.elim_inl];obtain⟨an,g1,g2⟩:=go jD (by
      rw[show fj L W n+((d+1:Nat):Int)=(v:Int)+1 by omega];exact e2.congr λ R=>s.RB hn ZG)
     exact⟨an,g1,by rw[<- hv]; exact g2⟩
    ·have YY:d=0:=by omega
     have jj:fj L W n = -1:=by omega
     subst YY;have hv:fj L W n+((0:Nat):Int) = -1:=by omega
     rw[hv,show decide ((-1:Int)>=0)=false from rfl,cond_false];simp only[Option.bind_some];rw[hv] at hS;obtain⟨jD,e1,e2⟩:=Kc s n hn jj hk hS;rw[show[cg.mk true ([] : List Int) 0 0 0 (-1) 0 0 0 0 0 0 0 0 false false false 0 0]=[Gx] from rfl,e1];simp only[Option.bind_some,Sum.elim_inl];obtain⟨an,g1,g2⟩:=go jD (by
      rw[show fj L W n+((0+1:Nat):Int)=0 by omega];exact e2)
     exact⟨an,g1,by rw[<- hv]; exact g2⟩
   ·rw[if_neg fW];refine⟨_,rfl,.inr ⟨by omega,rfl⟩⟩
  ·rw[decide_eq_false (by omega),cond_false];refine⟨_,rfl,.inl ⟨by omega,st,?_,?_⟩⟩
   ·unfold nY;congr 2;obtain⟨m1,m2,m3,m4,m5,m6⟩:=m;have:=hm.rf;simp only at this;subst this;congr 1;show m3=m3+_;omega
   ·rw[show fj L W n+(d:Int)=n by omega] at hS;exact hS.congr λ R=>zX.symm
theorem MN (s:k9 k L W a ak) (hk:5001 < k) (rD:ak+2 < k) :
  ∀ (j n:Nat) (T:List (List cg)) (m:aH),n<=ak->ak - n < j->Vb m->Ty k L a b W T->T.length=n ->
   ∃ an,sr k L a b W j T n m=some an /\
    ((m.done+tR L W n (ak - n)<=m.bz/\∃ T',an=.inl (T',nY m (tR L W n (ak - n)))/\Ty k L a b W T'/\T'.length=ak)\/(m.bz < m.done+tR L W n (ak - n)/\an=.inr ([],cD.mk 0 0 0,cA.mk 20 0,L4 m)))
 | 0,n,T,m,_,h,_,_,_=>by omega
 | j+1,n,T,m,B,D,hm,hT,SR=>by
  have hl:=s.w.len;have Hr:=s.w.Cx;have hW:=s.hW;obtain⟨f1,f2⟩:=oH L W n;have AB:=hm.s0;have RK:=hm.s1;unfold sr;by_cases hn:n < ak
  ·have UA:tR L W n (ak - n)=(n - fj L W n)+tR L W (n+1) (ak - (n+1)):=by rw[show ak - n=(ak - (n+1))+1 by omega]; rfl
   have D1:∀ (d n:Nat),0<=tR L W n d:=by
    intro d
    induction d with
    | zero=>intro n; exact Int.le_refl _
    | succ d ih=>intro n; have:=ih (n+1); have:=(oH L W n).2; show 0<=(n - fj L W n)+tR L W (n+1) d; omega
   have U:=D1 (ak - (n+1)) (n+1);rw[decide_eq_true (show(n:Int) < (W.length:Int) by omega),cond_true];unfold rZ;rw[if_pos ⟨by decide,by decide,by decide⟩,t38 s n (by omega) rD,Option.bind_some];obtain⟨an,e1,e2⟩:=MM s n hn hk hT SR k 0 (List.replicate (Int.toNat 4) PT) m (Nat.zero_le _) (by omega) hm (by
    rw[show fj L W n+((0:Nat):Int)=fj L W n by omega];exact Qw k L a b _ λ R=>s.none hn)
   have Um:qe k L a b W T n (rO (fj L W n) (n - fj L W n).toNat) k (List.replicate (Int.toNat 4) (cg.mk false ([]) 0 0 0 0 0 0 0 0 0 0 0 0 false false false 0 0)) 0 m=some an:=e1;rw[Um];rw[show(n:Int) - (fj L W n+((0:Nat):Int))=n - fj L W n by omega] at e2;rcases e2 with⟨g1,uU,rfl,g3⟩ | ⟨g1,rfl⟩
   ·simp only[Option.bind_some,Sum.elim_inl];rw[ny (by simp only[List.length_singleton]; omega)];simp only[Option.bind_some,Sum.elim_inl];rw[cj (by omega) (by omega),show(n:Int)+1=((n+1:Nat):Int) by omega];obtain⟨ao,r1,r2⟩:=MN s hk rD j (n+1) (T++[uU]) (nY m (n - fj L W n)) (by omega) (by omega) (Fb hm (by omega) g1) (λ i x Y=>by
     by_cases N:i < n
     ·rw[List.getElem?_append_left (by omega)] at Y; exact hT i x Y
     ·have cG:=ax Y;rw[List.length_append,List.length_singleton,SR] at cG;have:i=n:=by omega
      subst this;rw[List.getElem?_append_right (by omega),SR,Nat.sub_self] at Y;cases Y;exact g3) (by rw[List.length_append,List.length_singleton,SR])
    refine⟨ao,r1,?_⟩;have ZS:(nY m (n - fj L W n)).done=m.done+(n - fj L W n):=rfl;have Vh:(nY m (n - fj L W n)).bz=m.bz:=rfl;rw[ZS,Vh] at r2;rcases r2 with⟨u1,T',u2,u3⟩ | ⟨u1,u2⟩
    ·refine .inl ⟨by omega,T',?_,u3⟩;rw[u2];unfold nY;congr 3;show m.done+(n - fj L W n)+_=m.done+_;omega
    ·exact .inr ⟨by omega,u2⟩
   ·simp only[Option.bind_some,Sum.elim_inr];exact⟨_,rfl,.inr ⟨by omega,rfl⟩⟩
  ·rw[decide_eq_false (show ¬ (n:Int) < (W.length:Int) by omega),cond_false];have hnN:n=ak:=by omega
   have hz:tR L W n (ak - n)=0:=by rw[hnN,Nat.sub_self]; rfl
   rw[hz];refine⟨_,rfl,.inl ⟨by omega,T,?_,hT,by omega⟩⟩;unfold nY;congr 2;obtain⟨m1,m2,m3,m4,m5,m6⟩:=m;have:=hm.rf;simp only at this;subst this;congr 1;show m3=m3+0;omega
end
end
end Go.cy.jV
namespace Go.cy.jV
open Go.Proofs
noncomputable section
structure O3 (m:aE):Prop where
 rf:m.dM=0
 s0:0<=m.bb
 s1:m.bb<=m.aV
 s2:m.aV < 9223372036854775808
 c0:0<=m.bq
 c1:m.bq<=m.bo
 c2:m.bo < 9223372036854775808
 c3:m.bq<=m.bK
structure u7 (m m':aE) (d:Int):Prop where
 s:m'.bb=m.bb+d
 sb:m'.aV=m.aV
 c:m'.bq=m.bq
 cp:m'.bK=m.bK
 cb:m'.bo=m.bo
 rf:m'.dM=0
structure BC (m m':aE):Prop where
 s:m'.bb=m.aV
 c:m'.bq=m.bq
 cp:m'.bK=m.bK
 rf:m'.dM=20
theorem u7.ok {m m':aE} {d:Int} (h:u7 m m' d) (hm:O3 m) (h0:0<=d) (B:m.bb+d<=m.aV):O3 m':=⟨h.rf,by rw[h.s]; have:=hm.s0; omega,by rw[h.s,h.sb]; exact B,by rw[h.sb]; exact hm.s2,by rw[h.c]; exact hm.c0,by rw[h.c,h.cb]; exact hm.c1,by rw[h.cb]; exact hm.c2,by rw[h.c,h.cp]; exact hm.c3⟩
theorem ad9 (k:Nat) (m:aE) (h:O3 m):(m.bb < m.aV/\∃ m',UG k m 1=some (true,m')/\u7 m m' 1/\O3 m')\/(¬ m.bb < m.aV/\∃ m',UG k m 1=some (false,m')/\BC m m'):=by
 have hm:=h;obtain⟨sn,sp,sb,cn,cp,cb,rf⟩:=m;obtain⟨B,D,V,h4,h5,h6,h7,h8⟩:=h;simp only at B D V h4 h5 h6 h7 h8;subst B;have e1:w (sb - sn)=sb - sn:=cj (by omega) (by omega);have e3:w (sn+(sb - sn))=sb:=by rw[show sn+(sb - sn)=sb by omega]; exact cj (by omega) (by omega)
 unfold UG CO zF;simp only[e1,e3];rw[show decide ((1:Int) < 0)=false from rfl,cond_false,Option.bind_some,show((0:Int) != 0)=false from rfl,cond_false];by_cases hd:sn < sb
 ·have e2:w (sn+1)=sn+1:=cj (by omega) (by omega);simp only[e2];rw[decide_eq_false (by omega),cond_false];have ha:u7 (aE.mk sn sp sb cn cp cb 0) (aE.mk (sn+1) (if sn+1 > sp then sn+1 else sp) sb cn cp cb 0) 1:=⟨rfl,rfl,rfl,rfl,rfl,rfl⟩
  exact .inl ⟨hd,_,rfl,ha,ha.ok hm (by omega) (by show sn+1<=sb; omega)⟩
 ·rw[decide_eq_true (by omega),cond_true];exact .inr ⟨hd,_,rfl,⟨rfl,rfl,rfl,rfl⟩⟩
def HW (k:Nat) (L:List au) (a b:Int) (W:List Int) (ak n:Nat) (m:aE) (d:Int) (an:(aE×(List au)×Int×Int×(List Int)×(List ay)) ⊕ (Bool×aE×(List au)×Int×Int×(List Int)×(List ay))):Prop:=
 (m.bb+d<=m.aV/\∃ m' S',an=.inl (m',L,a,b,W,S')/\u7 m m' d/\S'.length=4 * ak/\TB S'/\vX k L a b W ak S' n n 0)\/(m.aV < m.bb+d/\∃ m' S',an=.inr (false,m',L,a,b,W,S')/\BC m m')
theorem u7.trans {m m1 m':aE} {d d':Int} (h:u7 m m1 d) (h':u7 m1 m' d'):u7 m m' (d'+d):=⟨by rw[h'.s,h.s]; omega,h'.sb.trans h.sb,h'.c.trans h.c,h'.cp.trans h.cp,h'.cb.trans h.cb,h'.rf⟩
theorem u7.Xw {m m1 m':aE} {d:Int} (h:u7 m m1 d) (h':BC m1 m'):BC m m':=⟨h'.s.trans h.sb,h'.c.trans h.c,h'.cp.trans h.cp,h'.rf⟩
section
variable {k:Nat} {L:List au} {a b:Int} {W:List Int} {ak:Nat}
theorem NQ {n:Nat} {m m1:aE} {d:Int} {an} (h:u7 m m1 1) (h0:0<=d) (h':HW k L a b W ak n m1 d an):HW k L a b W ak n m (d+1) an:=by
 have e1:=h.s;have e2:=h.sb;rcases h' with⟨aa,m',S',g1,g2,g3⟩ | ⟨aa,m',S',g1,g2⟩
 ·exact .inl ⟨by omega,m',S',g1,h.trans g2,g3⟩
 ·exact .inr ⟨by omega,m',S',g1,h.Xw g2⟩
theorem MO (s:k9 k L W a ak) (n:Nat) (hn:n < ak) :
  ∀ (j:Nat) (v:Int) (m:aE) (S:List ay),-1<=v->fj L W n<=v->v<=n->n - v < j->O3 m->S.length=4 * ak->TB S->S.length+4 < k->vX k L a b W ak S n v 0 ->
   ∃ an,lX k n ak j v m L a b W S=some an/\HW k L a b W ak n m (n - v) an
 | 0,v,m,S,B,nG,D,V,_,_,_,_,_=>by omega
 | j+1,v,m,S,B,nG,D,V,hm,hS,hT,hk,hI=>by
  have hl:=s.w.len;have Hr:=s.w.Cx;have hW:=s.hW;unfold lX;by_cases hv:v < n
  ·rw[decide_eq_true hv,cond_true];rcases ad9 k m hm with⟨cG,m1,e1,m2,m3⟩ | ⟨cG,m1,e1,m2⟩
   case inr=>
    rw[e1,Option.bind_some];exact⟨_,rfl,.inr ⟨by omega,m1,S,rfl,m2⟩⟩
   rw[e1,Option.bind_some];have hq:W[((n:Int)).toNat]? = some (W.getD n 0):=(pq (by omega)).1;have go:∀ S1:List ay,S1.length=4 * ak->TB S1->vX k L a b W ak S1 n (v+1) 0->∃ an,lX k n ak j (w (v+1)) m1 L a b W S1=some an/\HW k L a b W ak n m (n - v) an:=λ S1 q1 q2 q3=>by
    rw[cj (by omega) (by omega)];obtain⟨an,r1,r2⟩:=MO s n hn j (v+1) m1 S1 (by omega) (by omega) (by omega) (by omega) m3 q1 q2 (by omega) q3;refine⟨an,r1,?_⟩;have:=NQ m2 (by omega) r2;rw[show(n:Int) - (v+1)+1=n - v by omega] at this;exact this
   by_cases h0:v < 0
   ·have FB:v = -1:=by omega
    subst FB;have jj:fj L W n = -1:=by have:=(oH L W n).1; omega
    obtain⟨_,p2,_,_,p5,p6⟩:=s.ln (R:=[]) hn (.inl ⟨rfl,jj⟩);obtain⟨S1,e1,e2,e3,e4,e5⟩:=c60 (k:=k) (L:=L) (a:=a) (b:=b) (S:=S) n ak _ none [] (W.getD n 0) m1 W hS hn p6 (λ j X=>by cases X) hT hk .nil (λ j X=>by cases X) rfl p5 (by simp) (λ u' uD hb=>by
     obtain⟨u2,w1,_,w2⟩:=hI n _ hn p6.1 p6.2;rw[uD] at w1; cases w1;obtain⟨ae,hB,_⟩:=w2 hb;exact⟨ae,hB⟩)
    have WU:AZ k L a (-1) (W.getD n 0)=some (dW k L a [W.getD n 0],0):=p2;simp only[Bool.not_true,cond_false,Option.bind_some,aQ (f:=_) (show(0:Int)<=(n:Int) by omega) hq,show decide ((-1:Int)>=0)=false from rfl,WU];rw[show decide ((-1:Int) < 0)=true from rfl,cond_true,e1];refine go S1 (e2.trans hS) e3 λ m c' hm AQ nG=>?_;have old:=hI m c' hm AQ nG;have new:kc k L a W n (-1+1) 0 [W.getD n 0]:=⟨[],rfl,.inl ⟨rfl,jj,by decide⟩⟩
    have up:∀ R,kc k L a W n (-1) 0 R->kc k L a W n (-1+1) 0 R:=by
     rintro R ⟨R',rfl,⟨rfl,h,h'⟩ | ⟨m,B,D,V,h4⟩⟩
     ·exact⟨_,rfl,.inl ⟨rfl,h,by omega⟩⟩
     ·exact⟨_,rfl,.inr ⟨m,B,.inl (by rcases D with D | D <;> omega),V,h4⟩⟩
    have down:∀ R,kc k L a W n (-1+1) 0 R->R=[W.getD n 0]:=by
     rintro R ⟨R',rfl,⟨rfl,h,h'⟩ | ⟨m,B,D,V,h4⟩⟩
     ·rfl
     ·exfalso;have:=(s.Va (show m < ak by omega) h4).1;rcases D with D | ⟨_,D⟩ <;> omega
    by_cases A7:4 * m+c'.toNat=4 * n+(dW k L a [W.getD n 0]).aI.toNat
    ·have h6:=p6.1;have h7:=p6.2;have Hr:m=n:=by omega
     have N4:c'=(dW k L a [W.getD n 0]).aI:=by omega
     subst Hr;subst N4;refine e5 _ _ old (λ R h=>⟨?_,h.2⟩) ⟨.inr ⟨rfl,new⟩,rfl⟩ (λ R h=>?_)
     ·rcases h.1 with h | ⟨_,h⟩
      ·exact .inl h
      ·exact .inr ⟨rfl,up R h⟩
     ·obtain⟨h,kM⟩:=h;rcases h with h | ⟨_,h⟩
      ·exact .inl ⟨.inl h,kM⟩
      ·right; rw[down R h]; exact zG _
    ·have zh:(4 * m+c'.toNat) / 4<=n\/∀ R,¬ (Be k L a W n (-1) 0 m R/\(dW k L a R).aI=c'):=by
      by_cases Hr:m<=n
      ·left; omega
      ·right;rintro R ⟨h | h,_⟩ <;> omega
     refine(e4 _ _ A7 zh old).congr λ R=>?_;constructor
     ·rintro⟨h | ⟨h,h'⟩,kM⟩
      ·exact⟨.inl h,kM⟩
      ·exact⟨.inr ⟨h,up R h'⟩,kM⟩
     ·rintro⟨h | ⟨h,h'⟩,kM⟩
      ·exact⟨.inl h,kM⟩
      ·exfalso;have:=down R h';subst this;subst h;subst kM;exact A7 rfl
   ·obtain⟨u,rfl⟩:∃ u:Nat,v=u:=⟨v.toNat,by omega⟩
    have uD:W[((u:Int)).toNat]? = some (W.getD u 0):=(pq (by omega)).1;obtain⟨y,_,p2,_⟩:=UP (E9 s.w s.hk s.a1 s.Z (show n < W.length by omega) (.inr ⟨u,rfl,nG,by omega⟩)) s.hk;obtain⟨S1,a1,Z,a3,a4⟩:=PN s n u 0 y m1 S hS hn (by omega) nG (by decide) (by decide) p2 hT hk hI;obtain⟨S2,b1,b2,b3,b4⟩:=PN s n u 1 y m1 S1 (Z.trans hS) hn (by omega) nG (by decide) (by decide) p2 a3 (by omega) a4;obtain⟨S3,c1,c2,c3,c4⟩:=PN s n u 2 y m1 S2 (by omega) hn (by omega) nG (by decide) (by decide) p2 b3 (by omega) b4;obtain⟨S4,d1,d2,d3,d4⟩:=PN s n u 3 y m1 S3 (by omega) hn (by omega) nG (by decide) (by decide) p2 c3 (by omega) c4;simp only[Bool.not_true,cond_false,Option.bind_some,aQ (f:=_) (show(0:Int)<=(n:Int) by omega) hq,decide_eq_true (show(u:Int)>=0 by omega),cond_true,aQ (f:=_) (show(0:Int)<=(u:Int) by omega) uD,p2];rw[decide_eq_false h0,cond_false,a1];simp only[Option.bind_some];rw[b1];simp only[Option.bind_some];rw[c1];simp only[Option.bind_some];rw[d1];exact go S4 (by omega) d3 (d4.congr λ m R _=>Iq λ _=>s.RB hn (by omega))
  ·rw[decide_eq_false hv,cond_false];have ZG:v=n:=by omega
   subst ZG;refine⟨_,rfl,.inl ⟨by have:=hm.s1; omega,m,S,rfl,⟨by omega,rfl,rfl,rfl,rfl,hm.rf⟩,hS,hT,hI⟩⟩
theorem d30 (s:k9 k L W a ak) (n:Nat) (m:aE) (S:List ay) (hn:n < ak) (hN:ak<=100000) (hnk:ak+1 < k)
  (hm:O3 m) (hS:S.length=4 * ak) (hT:TB S) (hk:S.length+4 < k) (hI:vX k L a b W ak S n (fj L W n) 0) :
  (m.bb+(n - fj L W n)<=m.aV/\∃ m' S',BB k n m L a b W ak S=some (true,m',L,a,b,W,S')/\u7 m m' (n - fj L W n)/\S'.length=4 * ak/\TB S'/\vX k L a b W ak S' (n+1) (fj L W (n+1)) 0) \/
  (m.aV < m.bb+(n - fj L W n)/\∃ m' S',BB k n m L a b W ak S=some (false,m',L,a,b,W,S')/\BC m m'):=by
 have hW:=s.hW;obtain⟨f1,f2⟩:=oH L W n;obtain⟨an,e1,e2⟩:=MO s n hn k (fj L W n) m S f1 (Int.le_refl _) (by omega) (by omega) hm hS hT hk hI;unfold BB;rw[t57 k ak n m L a b W S s.w.PK s.w.WQ (by omega) (by omega) (by omega),Option.bind_some];simp only[e1];rcases e2 with⟨aa,m',S',rfl,g2,g3,g4,g5⟩ | ⟨aa,m',S',rfl,g2⟩
 ·exact .inl ⟨aa,m',S',rfl,g2,g3,g4,s.next g5⟩
 ·exact .inr ⟨aa,m',S',rfl,g2⟩
end
theorem yI (L:List au) (W:List Int):∀ (d n:Nat),0<=tR L W n d
 | 0,n=>Int.le_refl _
 | d+1,n=>by have:=yI L W d (n+1); have:=(oH L W n).2; show 0<=(n - fj L W n)+tR L W (n+1) d; omega
theorem MP {k ak:Nat} {L:List au} {a b:Int} (r:List Int×List Int) (s:k9 k L r.1 a ak) (hN:ak<=4096) (hk:4 * ak+4 < k) :
  ∀ (j n:Nat) (m:aE) (S:List ay),n<=ak->ak - n < j->O3 m->S.length=4 * ak->TB S->vX k L a b r.1 ak S n (fj L r.1 n) 0 ->
   (m.bb+tR L r.1 n (ak - n)<=m.aV/\∃ m' S',oF k r j n m L a b r.1 S=some (.inl (m',L,a,b,r.1,S'))/\u7 m m' (tR L r.1 n (ak - n))/\S'.length=4 * ak/\TB S'/\vX k L a b r.1 ak S' ak (fj L r.1 ak) 0) \/
   (m.aV < m.bb+tR L r.1 n (ak - n)/\∃ m',oF k r j n m L a b r.1 S=some (.inr ([],cD.mk 0 0 0,cA.mk 20 0,m'))/\BC m m')
 | 0,n,m,S,_,h,_,_,_,_=>by omega
 | j+1,n,m,S,B,D,hm,hS,hT,hI=>by
  have hr:=s.hW;have RK:=hm.s1;have AB:=hm.s0;unfold oF;by_cases hv:n < ak
  ·rw[decide_eq_true (show(n:Int) < (r.1.length:Int) by omega),cond_true,show Int.toNat (r.1.length:Int)=ak by omega];obtain⟨f1,f2⟩:=oH L r.1 n;have UA:tR L r.1 n (ak - n)=(n - fj L r.1 n)+tR L r.1 (n+1) (ak - (n+1)):=by rw[show ak - n=(ak - (n+1))+1 by omega]; rfl
   have U:=yI L r.1 (ak - (n+1)) (n+1);rcases d30 s n m S hv (by omega) (by omega) hm hS hT (by omega) hI with⟨aa,m1,S1,e1,e2,e3,e4,e5⟩ | ⟨aa,m1,S1,e1,e2⟩
   ·have es:=e2.s;have esb:=e2.sb;rw[e1,Option.bind_some];simp only[Bool.not_true,cond_false];rw[cj (by omega) (by omega)];rcases MP r s hN hk j (n+1) m1 S1 (by omega) (by omega) (e2.ok hm (by omega) aa) e3 e4 e5 with⟨u,m',S',r1,r2,r3⟩ | ⟨u,m',r1,r2⟩
    ·refine .inl ⟨by omega,m',S',r1,?_,r3⟩;rw[UA,Int.add_comm];exact e2.trans r2
    ·exact .inr ⟨by omega,m',r1,e2.Xw r2⟩
   ·rw[e1,Option.bind_some];refine .inr ⟨by omega,m1,?_,e2⟩;have hrf:=e2.rf;simp only[Bool.not_false,cond_true];unfold OJ OI;rw[Option.bind_some,Option.bind_some,hrf]
  ·rw[decide_eq_false (show ¬ (n:Int) < (r.1.length:Int) by omega),cond_false];have hn:n=ak:=by omega
   subst hn;have hz:tR L r.1 n (n - n)=0:=by rw[Nat.sub_self]; rfl
   rw[hz];exact .inl ⟨by omega,m,S,rfl,⟨by omega,rfl,rfl,rfl,rfl,hm.rf⟩,hS,hT,hI⟩
theorem Xx (k:Nat) (m:aE) (h:O3 m):(m.bq < m.bo/\Sp k m 1=some (true,aE.mk m.bb m.cL m.aV (m.bq+1) (max m.bK (m.bq+1)) m.bo 0))\/(¬ m.bq < m.bo/\Sp k m 1=some (false,aE.mk m.bb m.cL m.aV m.bo (max m.bK m.bo) m.bo 21)):=by
 have ZQ:∀ x y:Int,(if x > y then x else y)=max y x:=λ x y=>by split <;> omega
 obtain⟨sn,sp,sb,cn,cp,cb,rf⟩:=m;obtain⟨B,D,V,h4,h5,h6,h7,h8⟩:=h;simp only at B D V h4 h5 h6 h7 h8;subst B;have e1:w (cb - cn)=cb - cn:=cj (by omega) (by omega);have e3:w (cn+(cb - cn))=cb:=by rw[show cn+(cb - cn)=cb by omega]; exact cj (by omega) (by omega)
 unfold Sp HT Ew;simp only[e1,e3,ZQ];rw[show decide ((1:Int) < 0)=false from rfl,cond_false,Option.bind_some,show((0:Int) != 0)=false from rfl,cond_false];by_cases hd:cn < cb
 ·have e2:w (cn+1)=cn+1:=cj (by omega) (by omega);simp only[e2];rw[decide_eq_false (by omega),cond_false];exact .inl ⟨hd,rfl⟩
 ·rw[decide_eq_true (by omega),cond_true];exact .inr ⟨hd,rfl⟩
theorem MQ (k:Nat) (r:List Int×List Int) (hN:r.1.length<=100000) (ab ae:Int) (hA:0<=ab) (Ok:ab < 9223372036854775808) (O4:ae < 9223372036854775808):∀ (j:Nat) (v:Int),0<=v->v<=4 * r.1.length->4 * r.1.length - v < j->v<=ae ->
  (4 * (r.1.length:Int)<=ae/\sh k r j v (aE.mk 0 0 ab v v ae 0)=some (.inl (aE.mk 0 0 ab (4 * r.1.length) (4 * r.1.length) ae 0)))\/(ae < 4 * (r.1.length:Int)/\sh k r j v (aE.mk 0 0 ab v v ae 0)=some (.inr ([],cD.mk 0 0 0,cA.mk 21 0,aE.mk 0 0 ab ae ae ae 21)))
 | 0,v,B,D,V,_=>by omega
 | j+1,v,B,D,V,h4=>by
  unfold sh;rw[cj (n:=4 * (r.1.length:Int)) (by omega) (by omega)];by_cases hv:v < 4 * (r.1.length:Int)
  ·rw[decide_eq_true hv,cond_true];rcases Xx k (aE.mk 0 0 ab v v ae 0) ⟨rfl,Int.le_refl _,hA,Ok,B,h4,O4,Int.le_refl _⟩ with⟨aa,e⟩ | ⟨aa,e⟩
   ·have g':v < ae:=aa;rw[e,Option.bind_some];simp only[Bool.not_true,cond_false];rw[cj (by omega) (by omega),show max v (v+1)=v+1 by omega];exact MQ k r hN ab ae hA Ok O4 j (v+1) (by omega) (by omega) (by omega) (by omega)
   ·have g':¬ v < ae:=aa;rw[e,Option.bind_some];refine .inr ⟨by omega,?_⟩;simp only[Bool.not_false,cond_true];unfold OJ OI;rw[Option.bind_some,Option.bind_some];show some (Sum.inr (_,_,_,aE.mk 0 0 ab ae (max v ae) ae 21))=_;rw[show max v ae=ae by omega]
  ·rw[decide_eq_false hv,cond_false];have:v=4 * (r.1.length:Int):=by omega
   subst this;exact .inl ⟨h4,rfl⟩
theorem MS (k:Nat) (l:List Int) (hN:l.length<=100000) (sn sp sb cb cp:Int) (h0:0<=sn) (B:sn<=sb) (D:sb < 9223372036854775808) (V:(l.length:Int)<=cp) (h4:cp<=cb) (h5:cb < 9223372036854775808):∀ (j:Nat) (v:Int),0<=v->v<=l.length->l.length - v < j ->
  sj k l j v (aE.mk sn sp sb v cp cb 0)=some (.inl (aE.mk sn sp sb l.length cp cb 0))
 | 0,v,g1,g2,g3=>by omega
 | j+1,v,g1,g2,g3=>by
  unfold sj;by_cases hv:v < (l.length:Int)
  ·rw[decide_eq_true hv,cond_true];rcases Xx k (aE.mk sn sp sb v cp cb 0) ⟨rfl,h0,B,D,g1,by show v<=cb; omega,h5,by show v<=cp; omega⟩ with⟨aa,e⟩ | ⟨aa,e⟩
   ·rw[e,Option.bind_some];simp only[Bool.not_true,cond_false];rw[cj (by omega) (by omega),show max cp (v+1)=cp by omega];exact MS k l hN sn sp sb cb cp h0 B D V h4 h5 j (v+1) (by omega) (by omega) (by omega)
   ·have g':¬ v < cb:=aa;omega
  ·rw[decide_eq_false hv,cond_false];have:v=(l.length:Int):=by omega
   subst this;rfl
end
end Go.cy.jV
namespace Go.cy.jV
open Go.Proofs
noncomputable section
abbrev Ds:=List Int×cD×cA×Int×Int×Int×Int
def PU (k:Nat) (L:List au) (a b:Int):Prop:=(∃ r,DQ k L=some r/\(r != 0)=true)\/¬ (1<=a/\a<=536870912)\/¬ (0<=b/\b<=10000)
def Lt (k:Nat) (L:List au) (a b:Int) (W:List Int) (R:List Int):Prop:=mI L W (W.length - 1) R/\∀ R',mI L W (W.length - 1) R'->lx (key k L a b R') (key k L a b R)=false
def SS (k:Nat) (L:List au) (a b ab ae:Int) (x:Ds):Prop:=
 (PU k L a b/\x=([],cD.mk 0 0 0,cA.mk 1 0,0,0,0,0)) \/
 (¬ PU k L a b/\∃ W,HD k L=some W /\
  ((1024 < W.length/\∃ y,L[0]? = some y/\x=([],cD.mk 0 0 0,cA.mk 150 y.bM,0,0,0,0)) \/
  (W.length=0/\x=([],cD.mk 0 0 0,cA.mk 0 0,0,0,0,0)) \/
  (0 < W.length/\W.length<=1024 /\
   ((ae < 4 * (W.length:Int)/\x=([],cD.mk 0 0 0,cA.mk 21 0,0,ae,ae,21)) \/
   (4 * (W.length:Int)<=ae/\ab < tR L W 0 W.length/\x=([],cD.mk 0 0 0,cA.mk 20 0,ab,4 * (W.length:Int),4 * (W.length:Int),20)) \/
   (4 * (W.length:Int)<=ae/\tR L W 0 W.length<=ab/\∃ R,Lt k L a b W R/\x=(R.reverse,cD.mk (cB k L a b R) (cT k L a R) R.length,cA.mk 0 0,tR L W 0 W.length,(R.length:Int),4 * (W.length:Int),0))))))
theorem CS {a b:Int} {x y:List Int} (h:lx (a :: x) (b :: y)=false) (h':lx (b :: y) (a :: x)=false):a=b/\lx x y=false/\lx y x=false:=by
 rcases Int.lt_trichotomy a b with B | B | B
 ·rw[o5 B] at h; cases h
 ·subst B; rw[my] at h h'; exact⟨rfl,h,h'⟩
 ·rw[o5 B] at h'; cases h'
theorem MT:∀ x y:List Int,x.length=y.length->lx x y=false->lx y x=false->x=y
 | [],[],_,_,_=>rfl
 | [],_ :: _,h,_,_=>by cases h
 | _ :: _,[],h,_,_=>by cases h
 | a :: x,b :: y,h,B,D=>by
  obtain⟨rfl,V,h4⟩:=CS B D;rw[MT x y (by simpa using h) V h4]
theorem Lt.yg {k:Nat} {L:List au} {a b:Int} {W R R':List Int} (h:Lt k L a b W R) (h':Lt k L a b W R'):R=R':=by
 have B:=h.2 R' h'.1;have D:=h'.2 R h.1;unfold key at B D;obtain⟨_,B,D⟩:=CS B D;obtain⟨_,B,D⟩:=CS B D;obtain⟨V,B,D⟩:=CS B D;exact MT _ _ (by omega) D B
theorem SS.yg {k:Nat} {L:List au} {a b ab ae:Int} {x y:Ds} (h:SS k L a b ab ae x) (h':SS k L a b ab ae y):x=y:=by
 rcases h with⟨aa,e⟩ | ⟨aa,W,w,h⟩
 ·rcases h' with⟨g',e'⟩ | ⟨g',_⟩
  ·rw[e,e']
  ·exact absurd aa g'
 rcases h' with⟨g',e'⟩ | ⟨g',W',w',h'⟩
 ·exact absurd g' aa
 rw[w] at w'; cases w';rcases h with⟨g1,y1,e1,e⟩ | ⟨g1,e⟩ | ⟨g1,g2,h⟩
 ·rcases h' with⟨Ob,y2,e2,e'⟩ | ⟨Ob,e'⟩ | ⟨Ob,g2',h'⟩
  ·rw[e1] at e2; cases e2; rw[e,e']
  ·omega
  ·omega
 ·rcases h' with⟨Ob,y2,e2,e'⟩ | ⟨Ob,e'⟩ | ⟨Ob,g2',h'⟩
  ·omega
  ·rw[e,e']
  ·omega
 rcases h' with⟨Ob,y2,e2,e'⟩ | ⟨Ob,e'⟩ | ⟨Ob,g2',h'⟩
 ·omega
 ·omega
 rcases h with⟨g3,e⟩ | ⟨g3,g4,e⟩ | ⟨g3,g4,R,g5,e⟩
 ·rcases h' with⟨Ra,e'⟩ | ⟨Ra,WW,e'⟩ | ⟨Ra,WW,R',g5',e'⟩
  ·rw[e,e']
  ·omega
  ·omega
 ·rcases h' with⟨Ra,e'⟩ | ⟨Ra,WW,e'⟩ | ⟨Ra,WW,R',g5',e'⟩
  ·omega
  ·rw[e,e']
  ·omega
 ·rcases h' with⟨Ra,e'⟩ | ⟨Ra,WW,e'⟩ | ⟨Ra,WW,R',g5',e'⟩
  ·omega
  ·omega
  ·rw[e,e',g5.yg g5']
theorem h36 (k:Nat) (ab ae s n p d:Int) (h0:0<=n) (B:n<=ae) (D:ae < 9223372036854775808) (hd:0<=d) (YX:d<=100000) (hn:n<=100000) :
  UY k (aH.mk ab ae s n p 0) d=some (if n+d<=ae then(true,aH.mk ab ae s (n+d) (max p (n+d)) 0) else(false,aH.mk ab ae s ae ae 21)):=by
 unfold UY;rw[decide_eq_false (by omega),cond_false,show((0:Int) != 0)=false from rfl,Option.bind_some,cond_false];simp only;rw[cj (n:=ae - n) (by omega) (by omega),cj (n:=n+d) (by omega) (by omega)];by_cases h:n+d<=ae
 ·rw[if_pos h,decide_eq_false (by omega),cond_false];by_cases V:n+d > p
  ·rw[decide_eq_true V,cond_true,Option.bind_some,show max p (n+d)=n+d by omega]
  ·rw[decide_eq_false V,cond_false,Option.bind_some,show max p (n+d)=p by omega]
 ·rw[if_neg h,decide_eq_true (by omega),cond_true]
theorem MU (k:Nat) (l:List Int) (ab ae s p:Int) (hl:l.length<=100000) (B:(l.length:Int)<=p) (D:p<=ae) (V:ae < 9223372036854775808):∀ (j:Nat) (v:Int),0<=v->v<=l.length->l.length - v < j ->
  uh k l j v (aH.mk ab ae s v p 0)=some (.inl (aH.mk ab ae s l.length p 0))
 | 0,v,g1,g2,g3=>by omega
 | j+1,v,g1,g2,g3=>by
  unfold uh;by_cases hv:v < (l.length:Int)
  ·rw[decide_eq_true hv,cond_true,h36 k ab ae s v p 1 g1 (by omega) V (by decide) (by decide) (by omega),if_pos (by omega),Option.bind_some];simp only[Bool.not_true,cond_false];rw[cj (by omega) (by omega),show max p (v+1)=p by omega];exact MU k l ab ae s p hl B D V j (v+1) (by omega) (by omega) (by omega)
  ·rw[decide_eq_false hv,cond_false];have:v=(l.length:Int):=by omega
   subst this;rfl
def fX (z:cg):Bool×(List Int)×Int×Int×Int×Int×Int×Int×Int×Int×Int×Int×Int×Int×Bool×Bool×Bool×Int×Int:=(z.gE,z.eX,z.bj,z.aR,z.aO,z.eo,z.fh,z.er,z.dj,z.dk,z.dH,z.eu,z.gn,z.bN,z.fi,z.dI,z.gp,z.dJ,z.ey)
def JD (k:Nat) (L:List au) (a b:Int) (W:List Int) (c:Int) (z:cg):Prop:=
 (z.gE=false/\∀ R,mI L W (W.length - 1) R->¬ (dW k L a R).aI < c)\/∃ R,Bf k L a b z R/\mI L W (W.length - 1) R/\∀ R',mI L W (W.length - 1) R'->(dW k L a R').aI < c->lx (key k L a b R') (key k L a b R)=false
section
variable {k:Nat} {L:List au} {a b:Int} {W:List Int}
theorem Yl {st:List cg} (hS:yU k L a b st (mI L W (W.length - 1))) (hc:∀ R,mI L W (W.length - 1) R->HF (dW k L a R)) :
  ∃ t,(bp st 0 λ Ll=>
Option.bind (α:=Bool) (bif Ll.gE then(some true) else(some false)) λ(Jv:Bool)=>
bif Jv then(bp st 0 λ dO=>
some (dO.gE,dO.eX,dO.bj,dO.aR,dO.aO,dO.eo,dO.fh,dO.er,dO.dj,dO.dk,dO.dH,dO.eu,dO.gn,dO.bN,dO.fi,dO.dI,dO.gp,dO.dJ,dO.ey)) else(some (false,[],0,0,0,0,0,0,0,0,0,0,0,0,false,false,false,0,0)))=some t/\∃ z,t=fX z/\JD k L a b W 1 z:=by
 obtain⟨z,hz,z1,z2⟩:=hS.2 0 (by decide) (by decide);have one:∀ R,mI L W (W.length - 1) R->(dW k L a R).aI < 1->(dW k L a R).aI=0:=λ R h h'=>by have:=(hc R h).1; omega
 rw[aQ (by decide) hz];cases hb:z.gE with
 | false=>exact⟨_,rfl,PT,rfl,.inl ⟨rfl,λ R h h'=>z1 hb R ⟨h,one R h h'⟩⟩⟩
 | true=>
  rw[cond_true,Option.bind_some,cond_true,aQ (by decide) hz];obtain⟨R,r1,r2,r3⟩:=z2 hb;refine⟨_,rfl,z,?_,.inr ⟨R,r1,r2.1,λ R' h h'=>r3 R' ⟨h,one R' h h'⟩⟩⟩;rfl
theorem Tz {st:List cg} (hS:yU k L a b st (mI L W (W.length - 1))) (c:Int) (h0:0<=c) (B:c < 4) (z:cg) (hz:JD k L a b W c z) (hlen:∀ R,mI L W (W.length - 1) R->R.length<=5000) (hk:5001 < k) :
  ∃ z',(bp st c λ Lm=>
Option.bind (α:=Bool) (bif Lm.gE then(Option.bind (α:=Bool) (bif !z.gE then(some true) else(bp st c λ Jw=>
(KY k Jw z).bind λ Ln=>
some Ln)) λ(Gt:Bool)=>
some Gt) else(some false)) λ(Jx:Bool)=>
bif Jx then(bp st c λ Jy=>
some Jy) else(some z))=some z'/\JD k L a b W (c+1) z':=by
 obtain⟨u,hu,o1,o2⟩:=hS.2 c h0 B;have uD:∀ {β:Type} (f:cg->Option β),bp st c f=f u:=λ f=>aQ h0 hu;simp only[uD];have low:∀ R:List Int,(dW k L a R).aI < c+1->(dW k L a R).aI < c\/(dW k L a R).aI=c:=λ R h=>by omega
 cases hb:u.gE with
 | false=>
  refine⟨z,rfl,?_⟩;have no:∀ R,mI L W (W.length - 1) R->(dW k L a R).aI < c+1->(dW k L a R).aI < c:=λ R B D=>(low R D).resolve_right λ e=>o1 hb R ⟨B,e⟩;rcases hz with⟨e,h⟩ | ⟨R,h4,h5,h7⟩
  ·exact .inl ⟨e,λ R B D=>h R B (no R B D)⟩
  ·exact .inr ⟨R,h4,h5,λ R' g1 g2=>h7 R' g1 (no R' g1 g2)⟩
 | true=>
  obtain⟨R1,r1,⟨r2,r3⟩,r4⟩:=o2 hb;have tn:∀ R,mI L W (W.length - 1) R->(dW k L a R).aI=c->lx (key k L a b R) (key k L a b R1)=false:=λ R B D=>r4 R ⟨B,D⟩;rw[cond_true];rcases hz with⟨e,h⟩ | ⟨R,h4,h5,h7⟩
  ·rw[e];refine⟨u,rfl,.inr ⟨R1,r1,r2,λ R' g1 g2=>?_⟩⟩;rcases low R' g2 with aa | aa
   ·exact absurd aa (h R' g1)
   ·exact tn R' g1 aa
  ·rw[h4.is,Bool.not_true,cond_false,t41 r1 h4 (hlen R1 r2) hk];simp only[Option.bind_some];cases hq:lx (key k L a b R1) (key k L a b R) with
   | false=>
    refine⟨z,rfl,.inr ⟨R,h4,h5,λ R' g1 g2=>?_⟩⟩;rcases low R' g2 with aa | aa
    ·exact h7 R' g1 aa
    ·exact ve _ _ _ hq (tn R' g1 aa)
   | true=>
    refine⟨u,rfl,.inr ⟨R1,r1,r2,λ R' g1 g2=>?_⟩⟩;rcases low R' g2 with aa | aa
    ·exact ve _ _ _ (vp _ _ hq) (h7 R' g1 aa)
    ·exact tn R' g1 aa
end
theorem RC (k:Nat) (L:List au) (a b:Int) (c c':Int) (hc:DQ k L=some c) (NT:(c != 0)=(c' != 0)) :
  ∃ v,(bif c' != 0 then(some true) else(Option.bind (α:=Bool) (bif decide (a < 1) then(some true) else(Option.bind (α:=Bool) (bif decide (a > 536870912) then(some true) else(Option.bind (α:=Bool) (bif decide (b < 0) then(some true) else(some (decide (b > 10000)))) λ(v4:Bool)=>some v4)) λ(v3:Bool)=>some v3)) λ(v2:Bool)=>some v2):Option Bool)=some v/\((v=true/\PU k L a b)\/(v=false/\¬ PU k L a b/\c=0/\(1<=a/\a<=536870912)/\(0<=b/\b<=10000))):=by
 rw[<- NT];cases B:c != 0 with
 | true=>exact⟨_,rfl,.inl ⟨rfl,.inl ⟨c,hc,B⟩⟩⟩
 | false=>
  have c0:c=0:=by simpa using B
  rw[cond_false];by_cases D:a < 1
  ·rw[decide_eq_true D]; exact⟨_,rfl,.inl ⟨rfl,.inr (.inl λ h=>by omega)⟩⟩
  rw[decide_eq_false D,cond_false];by_cases V:a > 536870912
  ·rw[decide_eq_true V]; exact⟨_,rfl,.inl ⟨rfl,.inr (.inl λ h=>by omega)⟩⟩
  rw[decide_eq_false V,cond_false];by_cases h4:b < 0
  ·rw[decide_eq_true h4]; exact⟨_,rfl,.inl ⟨rfl,.inr (.inr λ h=>by omega)⟩⟩
  rw[decide_eq_false h4,cond_false];by_cases h5:b > 10000
  ·rw[decide_eq_true h5]; exact⟨_,rfl,.inl ⟨rfl,.inr (.inr λ h=>by omega)⟩⟩
  rw[decide_eq_false h5];refine⟨_,rfl,.inr ⟨rfl,?_,c0,⟨by omega,by omega⟩,by omega,by omega⟩⟩;rintro(⟨r,h,h'⟩ | h | h)
  ·rw[hc] at h; cases h; rw[B] at h'; cases h'
  ·exact h ⟨by omega,by omega⟩
  ·exact h ⟨by omega,by omega⟩
theorem d31 (k:Nat) (m:aE) (n:Int) (h:m.bq=n) (h0:0<=n):Wq k m n=some (true,aE.mk m.bb m.cL m.aV (w 0) m.bK m.bo m.dM):=by
 unfold Wq;rw[decide_eq_false (by omega),cond_false,decide_eq_false (by omega),Option.bind_some,cond_false,h,Int.sub_self]
theorem Ym (k:Nat) (L:List au) (a b ab ae:Int) (hA:0<=ab) (Ok:ab < 9223372036854775808) (hB:0<=ae) (O4:ae < 9223372036854775808) (hk:4 * L.length+10 < k) :
  ∃ r,UT k (aE.mk 0 0 ab 0 0 ae 0) L a b=some r/\SS k L a b ab ae (r.1,r.2.1,r.2.2.1,r.2.2.2.bb,r.2.2.2.bq,r.2.2.2.bK,r.2.2.2.dM):=by
 obtain⟨c,hc,hg⟩:=Q9 k L (by omega);unfold UT;rw[hc,Option.bind_some];obtain⟨v1,FB,⟨rfl,xQ⟩ | ⟨rfl,xQ,Sa,ha,hb⟩⟩:=RC k L a b c c hc rfl
 ·rw[FB,Option.bind_some];exact⟨_,rfl,.inl ⟨xQ,rfl⟩⟩
 rw[FB,Option.bind_some];subst Sa;obtain⟨al,b1,b2,hw⟩:=MA k L hc (by omega);have hl:=hw.len;have Hr:=hw.Cx;rw[cond_false,b1,Option.bind_some,b2,Option.bind_some];simp only;by_cases B:(al.length:Int) > 1024
 ·rw[decide_eq_true B,cond_true];obtain⟨y,hy⟩:=eV (L:=L) (i:=0) (by omega) (by omega);rw[aQ (by omega) hy];exact⟨_,rfl,.inr ⟨xQ,al,b1,.inl ⟨by omega,y,hy,rfl⟩⟩⟩
 rw[decide_eq_false B,cond_false];by_cases D:L.length=0
 ·have hV:al=[]:=List.eq_nil_of_length_eq_zero (by omega);subst hV;rw[show((L.length:Int) == 0)=true by rw[D]; rfl,cond_true];exact⟨_,rfl,.inr ⟨xQ,[],b1,.inr (.inl ⟨rfl,rfl⟩)⟩⟩
 rw[show((L.length:Int) == 0)=false by rw[beq_eq_false_iff_ne]; omega,cond_false];have hV:0 < al.length:=by
  obtain⟨y,y1,y2⟩:=E5 k L hl hc (by omega);exact List.length_pos_of_mem (hw.all (L.length - 1) (by omega) (wZ k L _ y y1 y2))
 have s:k9 k L al a al.length:=⟨hw,by omega,ha.1,ha.2,rfl⟩
 rcases MQ k (al,al) (by show al.length<=_; omega) ab ae hA Ok O4 k 0 (Int.le_refl _) (by show(0:Int)<=4 * al.length; omega) (by show 4 * (al.length:Int) - 0 < k; omega) hB with⟨aa,e⟩ | ⟨aa,e⟩
 case inr=>
  rw[e];simp only[Option.bind_some,Sum.elim_inr];exact⟨_,rfl,.inr ⟨xQ,al,b1,.inr (.inr ⟨hV,by omega,.inl ⟨aa,rfl⟩⟩)⟩⟩
 rw[e];simp only at aa;simp only[Option.bind_some,Sum.elim_inl];unfold rZ;rw[if_pos ⟨by omega,by omega,by omega⟩];have RK:O3 (aE.mk 0 0 ab (4 * al.length) (4 * al.length) ae 0):=⟨rfl,Int.le_refl _,hA,Ok,by show(0:Int)<=4 * al.length; omega,aa,O4,Int.le_refl _⟩
 rcases MP (b:=b) (al,al) s (by omega) (by omega) k 0 _ (List.replicate (Int.toNat (al.length:Int) * 4) FJ) (by omega) (by omega) RK (by rw[List.length_replicate]; omega) (λ i y j e1 e2=>by
  have:=List.eq_of_mem_replicate (List.mem_of_getElem? e1);subst this; cases e2) (λ m c hm h0 B=>⟨FJ,by rw[List.getElem?_replicate,if_pos (by omega)],λ _ R=>(by
   rintro⟨⟨h,_⟩ | ⟨_,h⟩,_⟩
   ·omega
   ·exact s.none (by omega) h),λ e=>(by cases e)⟩) with⟨q,n2,S,d1,d2,d6,d7,d8⟩ | ⟨q,n2,d1,d2⟩
 case inr=>
  have WX:oF k (al,al) k 0 (aE.mk 0 0 ab (4 * al.length) (4 * al.length) ae 0) L a b al (List.replicate (Int.toNat (al.length:Int) * 4) (ay.mk false 0 0 0 0 0 0 0 0 0 0 0 0 false false false 0 0 none))=some (.inr ([],cD.mk 0 0 0,cA.mk 20 0,n2)):=d1;rw[WX];simp only[Option.bind_some,Sum.elim_inr];refine⟨_,rfl,.inr ⟨xQ,al,b1,.inr (.inr ⟨hV,by omega,.inr (.inl ⟨aa,?_,?_⟩)⟩)⟩⟩
  ·have q':ab < 0+tR L al 0 (al.length - 0):=q;rw[Nat.sub_zero,Int.zero_add] at q';exact q'
  ·show(_,_,_,n2.bb,n2.bq,n2.bK,n2.dM)=_;rw[d2.s,d2.c,d2.cp,d2.rf]
 have q':0+tR L al 0 (al.length - 0)<=ab:=q;rw[Nat.sub_zero,Int.zero_add] at q';have u1:n2.bb=0+tR L al 0 (al.length - 0):=d2.s;rw[Nat.sub_zero,Int.zero_add] at u1;have u2:n2.aV=ab:=d2.sb;have u3:n2.bq=4 * al.length:=d2.c;have u4:n2.bK=4 * al.length:=d2.cp;have u5:n2.bo=ae:=d2.cb;have u6:=d2.rf;have U:=yI L al al.length 0;have WX:oF k (al,al) k 0 (aE.mk 0 0 ab (4 * al.length) (4 * al.length) ae 0) L a b al (List.replicate (Int.toNat (al.length:Int) * 4) (ay.mk false 0 0 0 0 0 0 0 0 0 0 0 0 false false false 0 0 none))=some (.inl (n2,L,a,b,al,S)):=d1;rw[WX];simp only[Option.bind_some,Sum.elim_inl];rw[cj (n:=4 * (al.length:Int)) (by omega) (by omega),cj (n:=(al.length:Int) - 1) (by omega) (by omega),show Int.toNat (al.length:Int)=al.length by omega];rw[d31 k n2 (4 * (al.length:Int)) u3 (by omega)];simp only[Option.bind_some];have cl:∀ R,mI L al (al.length - 1) R->HF (dW k L a R):=λ R h=>s.Va (by omega) h;obtain⟨p1,f1,f2⟩:=PQ s 0 S (some none) d6 hV (by decide) (by decide) d7 (by omega) d8 (.inl ⟨rfl,λ R h=>by have:=(cl R h).1; omega⟩);obtain⟨p2,g1,g2⟩:=PQ s 1 S p1 d6 hV (by decide) (by decide) d7 (by omega) d8 f2;obtain⟨p3,i1,i2⟩:=PQ s 2 S p2 d6 hV (by decide) (by decide) d7 (by omega) d8 g2;obtain⟨p4,j1,j2⟩:=PQ s 3 S p3 d6 hV (by decide) (by decide) d7 (by omega) d8 i2;obtain⟨R0,yP⟩:=GQ L al (al.length - 1);obtain⟨i,u,R,rfl,hu,rG,yk,hi4,tn⟩:∃ (i:Nat) (u:ay) (R:List Int),p4=some (some i)/\S[i]? = some u/\IY k L a b S u R/\mI L al (al.length - 1) R/\i / 4+1<=al.length/\∀ R',mI L al (al.length - 1) R'->lx (key k L a b R') (key k L a b R)=false:=by
  rcases j2 with⟨_,h⟩ | ⟨i,u,R,B,D,V,h4,h5,h6⟩
  ·exact absurd (cl R0 yP).2 (h R0 yP)
  ·exact⟨i,u,R,B,D,V,h4,h5,λ R' h=>h6 R' h (cl R' h).2⟩
 simp only[FJ] at f1 g1 i1 j1;erw [f1];simp only[Option.bind_some];erw [g1];simp only[Option.bind_some];erw [i1];simp only[Option.bind_some];erw [j1];simp only[Option.bind_some];have hIn:A3 S (some (some i)):=λ j e=>by cases e; exact(List.getElem?_eq_some_iff.1 hu).1
 have o1:=MD k S FJ d7 rfl k [] (some (some i)) R hIn (rG.cp hu) (by show i / 4+1 < k; omega) (by show 0+(i / 4+1)<=100000; omega);simp only[FJ,List.nil_append] at o1;rw[o1];simp only[Option.bind_some];have o3:R.reverse.length<=al.length:=by rw[List.length_reverse]; have:=yk.len; omega
 unfold yD;rw[if_pos (by rw[List.length_reverse] at o3; omega)];have q1:=MS k R.reverse (by omega) n2.bb n2.cL n2.aV n2.bo n2.bK (by omega) (by omega) (by omega) (by omega) (by omega) (by omega) k 0 (Int.le_refl _) (by omega) (by omega);rw[show w 0=0 from rfl,u6];show ∃ r,(sj k R.reverse k 0 _).bind _=some r/\_;rw[q1];have hy:tV FJ S (some (some i))=some u:=hu;simp only[FJ] at hy;simp only[Option.bind_some,Sum.elim_inl,gq hy];refine⟨_,rfl,.inr ⟨xQ,al,b1,.inr (.inr ⟨hV,by omega,.inr (.inr ⟨aa,q',R,⟨yk,tn⟩,?_⟩)⟩)⟩⟩;show(R.reverse,cD.mk u.bj u.aR u.aO,cA.mk 0 0,n2.bb,(R.reverse.length:Int),n2.bK,(0:Int))=_;rw[rG.fA,rG.tot,rG.O1,u1,u4,List.length_reverse]
theorem Yn (k:Nat) (L:List au) (a b ab ae:Int) (hA:0<=ab) (Ok:ab < 9223372036854775808) (hB:0<=ae) (O4:ae < 9223372036854775808) (hk:4 * L.length+6000 < k) :
  ∃ r,WL k (aH.mk ab ae 0 0 0 0) L a b=some r/\SS k L a b ab ae (r.1,r.2.1,r.2.2.1,r.2.2.2.done,r.2.2.2.tv,r.2.2.2.gF,r.2.2.2.Bq):=by
 obtain⟨c,hc,hg⟩:=Q9 k L (by omega);obtain⟨c1,c',Oe,N4,NT⟩:=F7 k L (by omega);rw[hc] at Oe; cases Oe;unfold WL;rw[N4,Option.bind_some];obtain⟨v1,FB,⟨rfl,xQ⟩ | ⟨rfl,xQ,Sa,ha,hb⟩⟩:=RC k L a b c c' hc NT
 ·rw[FB,Option.bind_some];exact⟨_,rfl,.inl ⟨xQ,rfl⟩⟩
 rw[FB,Option.bind_some];subst Sa;obtain⟨al,b1,b2,hw⟩:=MA k L hc (by omega);have hl:=hw.len;have Hr:=hw.Cx;obtain⟨V',e1,e2,_⟩:=Yk k L (by omega) (by omega);rw[b1] at e1; cases e1;rw[cond_false,e2,Option.bind_some];simp only;by_cases B:(al.length:Int) > 1024
 ·rw[decide_eq_true B,cond_true];obtain⟨y,hy⟩:=eV (L:=L) (i:=0) (by omega) (by omega);rw[aQ (by omega) hy];exact⟨_,rfl,.inr ⟨xQ,al,b1,.inl ⟨by omega,y,hy,rfl⟩⟩⟩
 rw[decide_eq_false B,cond_false];by_cases D:al.length=0
 ·rw[show((al.length:Int) == 0)=true by rw[D]; rfl,cond_true];exact⟨_,rfl,.inr ⟨xQ,al,b1,.inr (.inl ⟨D,rfl⟩)⟩⟩
 rw[show((al.length:Int) == 0)=false by rw[beq_eq_false_iff_ne]; omega,cond_false];have hV:0 < al.length:=by omega
 have s:k9 k L al a al.length:=⟨hw,by omega,ha.1,ha.2,rfl⟩
 rw[cj (n:=4 * (al.length:Int)) (by omega) (by omega),h36 k ab ae 0 0 0 _ (Int.le_refl _) hB O4 (by omega) (by omega) (by decide)];by_cases aa:4 * (al.length:Int)<=ae
 case neg=>
  rw[if_neg (by omega)];exact⟨_,rfl,.inr ⟨xQ,al,b1,.inr (.inr ⟨hV,by omega,.inl ⟨by omega,rfl⟩⟩)⟩⟩
 rw[if_pos (by omega)];simp only[Option.bind_some,Bool.not_true,cond_false];rw[show max 0 (0+4 * (al.length:Int))=4 * al.length by omega,show 0+4 * (al.length:Int)=4 * al.length by omega];have Y:Vb (aH.mk ab ae 0 (4 * al.length) (4 * al.length) 0):=⟨rfl,Int.le_refl _,hA,Ok,by show(0:Int)<=4 * al.length; omega,aa,O4⟩
 obtain⟨an,d1,d2⟩:=MN (b:=b) s (by omega) (by omega) k 0 [] _ (Nat.zero_le _) (by omega) Y (λ m st h=>by simp at h) rfl;have WX:sr k L a b al k [] 0 (aH.mk ab ae 0 (4 * al.length) (4 * al.length) 0)=some an:=d1;rw[WX,Option.bind_some];have U:=yI L al al.length 0;rcases d2 with⟨q,T,rfl,hT,SR⟩ | ⟨q,rfl⟩
 case inr=>
  simp only[Sum.elim_inr];refine⟨_,rfl,.inr ⟨xQ,al,b1,.inr (.inr ⟨hV,by omega,.inr (.inl ⟨aa,?_,rfl⟩)⟩)⟩⟩;have q':ab < 0+tR L al 0 (al.length - 0):=q;rw[Nat.sub_zero,Int.zero_add] at q';exact q'
 have q':0+tR L al 0 (al.length - 0)<=ab:=q;rw[Nat.sub_zero,Int.zero_add] at q';simp only[Sum.elim_inl];have fW:nY (aH.mk ab ae 0 (4 * al.length) (4 * al.length) 0) (tR L al 0 (al.length - 0))=aH.mk ab ae (tR L al 0 al.length) (4 * al.length) (4 * al.length) 0:=by
  unfold nY;rw[Nat.sub_zero,Int.zero_add]
 rw[fW];have Wi:WK k (aH.mk ab ae (tR L al 0 al.length) (4 * al.length) (4 * al.length) 0) (4 * al.length)=some (true,aH.mk ab ae (tR L al 0 al.length) 0 (4 * al.length) 0):=by
  unfold WK;rw[decide_eq_false (by omega),cond_false,decide_eq_false (by show ¬ (4 * (al.length:Int)) > 4 * al.length; omega),Option.bind_some,cond_false];simp only;rw[Int.sub_self];rfl
 rw[Wi];simp only[Option.bind_some];rw[cj (n:=(al.length:Int) - 1) (by omega) (by omega)];obtain⟨st,Lb⟩:=aP (l:=T) (i:=al.length - 1) (by omega);have hS:=hT _ _ Lb;rw[aQ (by omega) (show T[((al.length:Int) - 1).toNat]? = some st by rw[show((al.length:Int) - 1).toNat=al.length - 1 by omega]; exact Lb)];have cl:∀ R,mI L al (al.length - 1) R->HF (dW k L a R):=λ R h=>s.Va (by omega) h;have ln:∀ R,mI L al (al.length - 1) R->R.length<=5000:=λ R h=>by have:=h.len; omega
 refine FK (P:=λ t=>∃ z R,t=fX z/\Bf k L a b z R/\Lt k L a b al R) ?_ ?_
 ·refine FK (Yl hS cl) ?_;rintro _ ⟨z,rfl,hz⟩;dsimp only[fX];refine FK (P:=JD k L a b al 2) (Tz hS 1 (by decide) (by decide) z hz ln (by omega)) λ z2 Og=>?_;refine FK (P:=JD k L a b al 3) (Tz hS 2 (by decide) (by decide) z2 Og ln (by omega)) λ z3 hz3=>?_;refine FK (P:=JD k L a b al 4) (Tz hS 3 (by decide) (by decide) z3 hz3 ln (by omega)) λ z4 hz4=>?_;obtain⟨R0,yP⟩:=GQ L al (al.length - 1);rcases hz4 with⟨_,h⟩ | ⟨R,h4,h5,h6⟩
  ·exact absurd (cl R0 yP).2 (h R0 yP)
  ·exact⟨_,rfl,z4,R,rfl,h4,h5,λ R' h=>h6 R' h (cl R' h).2⟩
 rintro _ ⟨z,R,rfl,hz,G⟩;dsimp only[fX];have o3:R.reverse.length<=al.length:=by rw[List.length_reverse]; have:=G.1.len; omega
 rw[hz.WV,MU k R.reverse ab ae (tR L al 0 al.length) (4 * al.length) (by omega) (by omega) aa O4 k 0 (Int.le_refl _) (by omega) (by omega)];simp only[Option.bind_some,Sum.elim_inl];refine⟨_,rfl,.inr ⟨xQ,al,b1,.inr (.inr ⟨hV,by omega,.inr (.inr ⟨aa,q',R,G,?_⟩)⟩)⟩⟩;show(R.reverse,cD.mk z.bj z.aR z.aO,cA.mk 0 0,tR L al 0 al.length,(R.reverse.length:Int),(4 * al.length:Int),(0:Int))=_;rw[hz.fA,hz.tot,hz.O1,List.length_reverse]
end
end Go.cy.jV
namespace Go.cy.jV
open Go.Proofs
noncomputable section
theorem MV (k:Nat) (R:List Int) (G:R.length<=100000):∀ (j i:Nat),i<=R.length->R.length - i < j->ss k R R j i=some (.inl ())
 | 0,i,_,h=>by omega
 | j+1,i,B,D=>by
  unfold ss;by_cases N:i < R.length
  ·have AI:R[((i:Nat):Int).toNat]? = some R[i]:=List.getElem?_eq_getElem N;rw[decide_eq_true (by omega),cond_true,aQ (by omega) AI,aQ (by omega) AI,bne_self_eq_false,cond_false,cj (by omega) (by omega)];exact MV k R G j (i+1) (by omega) (by omega)
  ·rw[decide_eq_false (by omega),cond_false]
theorem t13 (k:Nat) (R:List Int) (G:R.length<=100000) (hk:R.length < k):U7 k R R=some true:=by
 unfold U7;have h:=MV k R G k 0 (Nat.zero_le _) (by omega);have h':ss k R R k 0=some (.inl ()):=h;rw[bne_self_eq_false,cond_false,h'];rfl
theorem Hn (s:ByteArray):(s == s)=true:=by
 obtain⟨d⟩:=s;show(d == d)=true;exact beq_self_eq_true d
theorem RD (k:Nat) (L l8:List au) (hL:L.length<=1000000000000000) (h8:∀ (i:Nat) (y:au),L[i]? = some y->l8[i]? = some y):∀ (j i:Nat),i<=L.length->L.length - i < j->xA k L l8 j i=some (.inl ())
 | 0,i,_,h=>by omega
 | j+1,i,B,D=>by
  unfold xA;by_cases N:i < L.length
  ·have AI:L[((i:Nat):Int).toNat]? = some L[i]:=List.getElem?_eq_getElem N;rw[decide_eq_true (by omega),cond_true,aQ (by omega) (h8 _ _ AI),aQ (by omega) AI,cj (by omega) (by omega)];simp only[beq_self_eq_true,Hn,Bool.and_true,Bool.not_true,cond_false];exact RD k L l8 hL h8 j (i+1) (by omega) (by omega)
  ·rw[decide_eq_false (by omega),cond_false]
theorem RE (k:Nat):∀ (j i:Nat) (R:List Int),R.length<=100000->i<=R.length->R.length - i < j->∃ R',xB k j R i=some R'/\R'.length=R.length
 | 0,i,R,_,_,h=>by omega
 | j+1,i,R,G,B,D=>by
  unfold xB;by_cases N:i < R.length
  ·have AI:R[((i:Nat):Int).toNat]? = some R[i]:=List.getElem?_eq_getElem N;rw[decide_eq_true (by omega),cond_true,aQ (by omega) AI,cj (by omega) (by omega)];obtain⟨R',e1,e2⟩:=RE k j (i+1) (R.set ((i:Nat):Int).toNat (-9)) (by rw[List.length_set]; exact G) (by rw[List.length_set]; omega) (by rw[List.length_set]; omega);exact⟨R',e1,by rw[e2,List.length_set]⟩
  ·rw[decide_eq_false (by omega),cond_false];exact⟨R,rfl,rfl⟩
theorem t14 (k:Nat) (m:aE) (x:aH) (B:m.bb=x.done) (D:m.bq=x.tv) (V:m.bK=x.gF) (h4:m.dM=x.Bq):WM k m x=some (true,m,x):=by
 unfold WM Zr Zs Zt Zu Zv Zw OJ SG;simp only[Option.bind_some,B,D,V,h4,beq_self_eq_true,cond_true]
theorem SS.len {k:Nat} {L:List au} {a b ab ae:Int} {x:Ds} (h:SS k L a b ab ae x):x.1.length<=1024:=by
 rcases h with⟨aa,e⟩ | ⟨aa,W,w,h⟩
 ·rw[e]; exact Nat.zero_le _
 rcases h with⟨g1,y1,e1,e⟩ | ⟨g1,e⟩ | ⟨g1,g2,h⟩
 ·rw[e]; exact Nat.zero_le _
 ·rw[e]; exact Nat.zero_le _
 rcases h with⟨g3,e⟩ | ⟨g3,g4,e⟩ | ⟨g3,g4,R,g5,e⟩
 ·rw[e]; exact Nat.zero_le _
 ·rw[e]; exact Nat.zero_le _
 ·rw[e]; have:=g5.1.len; show R.reverse.length<=1024; rw[List.length_reverse]; omega
theorem t8 (k:Nat) (ab ae:Int):(0<=ab/\0<=ae/\F8 k ab ae=some (some (aE.mk 0 0 ab 0 0 ae 0),0)/\F9 k ab ae=some (some (aH.mk ab ae 0 0 0 0),0))\/(F8 k ab ae=some (none,1)/\F9 k ab ae=some (none,1)):=by
 unfold F8 F9;by_cases B:ab < 0
 ·rw[decide_eq_true B]; exact .inr ⟨rfl,rfl⟩
 rw[decide_eq_false B];by_cases D:ae < 0
 ·rw[decide_eq_true D]; exact .inr ⟨rfl,rfl⟩
 rw[decide_eq_false D];exact .inl ⟨by omega,by omega,rfl,rfl⟩
theorem t3 (k:Nat) (L:List au) (a b ab ae:Int) (hL:L.length * 112<=140737488351232) (hA:ab<=9223372036854775807) (hB:ae<=9223372036854775807) (hk:4 * L.length+6000 < k):F3 k L a b ab ae=some true:=by
 unfold F3;rcases t8 k ab ae with⟨RW,hB0,e8,e9⟩ | ⟨e8,e9⟩
 case inr=>rw[e8,e9]; rfl
 rw[e8,e9];simp only[Option.bind_some,zn,bne_self_eq_false,cond_false];obtain⟨q,hq⟩:=t10 k L (by omega);rw[hq,Option.bind_some];cases q with
 | true=>rfl
 | false=>
  rw[cond_false,cj (n:=(L.length:Int)+1) (by omega) (by omega)];unfold rZ;rw[if_pos ⟨by omega,by omega,by omega⟩];simp only[qa];generalize hz:au.mk 0 ByteArray.empty 0 0 0 0 0 0 0 0 false 0 0=z;rw[show Int.toNat ((L.length:Int)+1)=L.length+1 by omega,List.length_replicate,List.take_of_length_le (by omega),List.drop_replicate,show L.length+1 - L.length=1 by omega];rw[show List.replicate 1 z=[z] from rfl,show Int.toNat (L.length:Int)=L.length by omega];have AI:(L++[z])[((L.length:Nat):Int).toNat]? = some z:=by
   rw[show Int.toNat (L.length:Int)=L.length by omega,List.getElem?_append_right (Nat.le_refl _),Nat.sub_self]; rfl
  rw[aQ (by omega) AI];generalize Oh:au.mk (-77) z.cP z.size z.dc z.aB z.aD z.depth z.aw z.aF z.value z.cR z.bM z.to_=z';have pJ:(L++[z]).set L.length z'=L++[z']:=by
   rw[List.set_append_right _ _ (Nat.le_refl _),Nat.sub_self]; rfl
  rw[pJ];have hS:∀ {β:Type} (f:List au->Option β),lS (L++[z']) 0 (L.length:Int) f=f L:=λ f=>by
   unfold lS;rw[if_pos ⟨by omega,by omega,by rw[List.length_append]; simp only[List.length_singleton]; omega⟩,show Int.toNat (L.length:Int)=L.length by omega,List.take_left];rfl
  simp only[hS];obtain⟨r,QF,o1⟩:=Ym k L a b ab ae RW (by omega) hB0 (by omega) (by omega);obtain⟨r',Oi,o2⟩:=Yn k L a b ab ae RW (by omega) hB0 (by omega) (by omega);have hu:=o1.yg o2;have hlen:r.1.length<=1024:=o1.len;obtain⟨ls,c,f,m⟩:=r;obtain⟨ls',c',f',m'⟩:=r';simp only[Prod.mk.injEq] at hu;obtain⟨rfl,rfl,rfl,g1,g2,g3,g4⟩:=hu;simp only at hlen;rw[QF,Oi];simp only[Option.bind_some];rw[t13 k ls (by omega) (by omega),t14 k m m' g1 g2 g3 g4];simp only[Option.bind_some,Bool.not_true,cond_false,beq_self_eq_true,Bool.and_true];have aea:(L++[z'])[((L.length:Nat):Int).toNat]? = some z':=by
   rw[show Int.toNat (L.length:Int)=L.length by omega,List.getElem?_append_right (Nat.le_refl _),Nat.sub_self]; rfl
  have aeb:z'.aM = -77:=by rw[<- Oh]
  rw[aQ (by omega) aea,aeb,show((-77:Int) != (-77))=false from rfl];simp only[Option.bind_some,cond_false];have B:=RD k L (L++[z']) (by omega) (λ i y h=>by rw[List.getElem?_append_left (ax h)]; exact h) k 0 (Nat.zero_le _) (by omega);have nG:xA k L (L++[z']) k 0=some (.inl ()):=B;rw[nG];simp only[Option.bind_some,Sum.elim_inl];obtain⟨R',e1,e2⟩:=RE k k 0 ls (by omega) (Nat.zero_le _) (by omega);have Um:xB k k ls 0=some R':=e1;rw[Um];simp only[Option.bind_some];rw[ny (by simp only[List.length_cons,List.length_nil]; omega)];simp only[Option.bind_some,cond_true];rw[List.length_append,e2,cj (by omega) (by omega)];simp
end
end Go.cy.jV
namespace Go.cy
noncomputable section
def R.bd {α β:Type} (x:R α) (f:α->R β):R β:=Except.rec (motive:=λ _=>R β) (λ e=>.error e) f x
local instance (priority:=high) Ud:Bind (Except Nat):=⟨R.bd⟩
theorem mR {α β:Type} (x:R α) (f:α->R β) : @Bind.bind R Ud α β x f = @Bind.bind R (@Monad.toBind R Except.instMonad) α β x f:=by cases x <;> rfl
theorem rW {α β:Type} (x:R α) (f:α->R β):R.bd x f=Except.bind x f:=by cases x <;> rfl
def ec (a:az) (o:Operand):R Value:=
 match o with
 | .tmp t=>Option.rec (motive:=λ _=>R Value) (.ok undef) (λ v=>.ok v) (a.tm.get t)
 | .const v=>pick (iL gd v) (.ok v) (.error 12)
 | o=>a.eval o
theorem vA (a:az) (o:Operand):ec a o=a.eval o:=by
 cases o with
 | tmp t=>simp only[ec,az.eval]; cases a.tm.get t <;> rfl
 | const v=>simp only[ec,az.eval,pick]; cases iL gd v <;> rfl
 | _=>rfl
theorem B2 (a:az):ec a=a.eval:=funext (vA a)
def PW (H:AH) (id:Nat):R Row:=
 Option.rec (motive:=λ _=>R Row) (.error 2) (λ o=>AO.rec (motive:=λ _=>R Row) (λ _ _=>.error 2) (λ r=>.ok r) (λ _=>.error 2) (λ _=>.error 2) (λ _ _=>.error 2) (λ _=>.error 2) o) (T.get H.A4 id)
theorem It (H:AH) (id:Nat):PW H id=H.row id:=by
 unfold PW AH.row AH.get;cases T.get H.A4 id with
 | none=>rfl
 | some o=>cases o <;> rfl
def fGe {α:Type} (l:List α):Nat->Bool:=
 List.rec (motive:=λ _=>Nat->Bool) (λ k=>Nat.beq k (nat_lit 0)) (λ _ _ ih k=>Nat.rec (motive:=λ _=>Bool) true (λ n _=>ih n) k) l
theorem MW {α:Type} : ∀ (l:List α) (k:Nat),fGe l k=decide (k<=l.length)
 | [],k=>by
  show Nat.beq k 0=_;cases k <;> rfl
 | _ :: l,0=>by
  show true=_;simp
 | _ :: l,k+1=>by
  show fGe l k=_;rw[MW l k];simp
def TA {α:Type} (l:List α):Nat:=List.rec (motive:=λ _=>Nat) (nat_lit 0) (λ _ _ n=>Nat.succ n) l
theorem Iu {α:Type} : ∀ (l:List α),TA l=l.length
 | []=>rfl
 | _ :: l=>by show Nat.succ (TA l)=_; rw[Iu l]; rfl
def PX {α:Type} (f:α->Bool) (l:List α):Bool:=List.rec (motive:=λ _=>Bool) true (λ x _ b=>Bool.rec (motive:=λ _=>Bool) false b (f x)) l
theorem Iv {α:Type} (f:α->Bool):∀ (l:List α),PX f l=l.all f
 | []=>rfl
 | x :: l=>by
  have h:PX f (x :: l)=Bool.rec (motive:=λ _=>Bool) false (PX f l) (f x):=rfl;rw[h,Iv f l,List.all_cons];cases f x <;> rfl
def sT (l:List (Option Value)):Nat->List Value->List (Option Value):=
 List.rec (motive:=λ _=>Nat->List Value->List (Option Value)) (λ _ _=>[])
  (λ c l ih off vs=>Nat.rec (motive:=λ _=>List (Option Value)) (List.rec (motive:=λ _=>List (Option Value)) (c :: l) (λ v vs _=>some v :: ih (nat_lit 0) vs) vs) (λ n _=>c :: ih n vs) off) l
theorem uB:∀ (l:List (Option Value)) (off:Nat) (vs:List Value),off+vs.length<=l.length->sT l off vs=cY l off (vs.map some)
 | [],off,vs,h=>by
  have B:off=0:=by simp at h; omega
  have D:vs=[]:=by cases vs with
   | nil=>rfl
   | cons v vs=>simp at h
  subst B; subst D; rfl
 | c :: l,0,[],h=>by simp[cY]; rfl
 | c :: l,0,v :: vs,h=>by
  have e:sT (c :: l) 0 (v :: vs)=some v :: sT l 0 vs:=rfl;rw[e,uB l 0 vs (by simpa using h)];simp[cY]
 | c :: l,off+1,vs,h=>by
  have e:sT (c :: l) (off+1) vs=c :: sT l off vs:=rfl;rw[e,uB l off vs (by simp at h; omega)];simp[cY,Nat.add_right_comm]
def Iw (H:AH) (id off:Nat) (vs:List Value) (r:Row):R AH:=
 match r with
 | ⟨cells,ty,aU,bJ,esz,ro,cW⟩=>
  pick ro (.error 5) (pick (PX bu vs) (pick (fGe cells (Nat.add off (TA vs))) (.ok (AH.set (pick cW H (H.eE aU (bJ+off) (bJ+off+vs.length))) id (.row ⟨sT cells off vs,ty,aU,bJ,esz,ro,cW⟩))) (.error 7)) (.error 6))
def CT (H:AH) (id off:Nat) (vs:List Value):R AH:=R.bd (PW H id) (Iw H id off vs)
theorem B3 (H:AH) (id off:Nat) (vs:List Value):CT H id off vs=H.gf id off vs:=by
 unfold CT AH.gf;rw[It,rW];show Except.bind (H.row id) _=Except.bind (H.row id) _;congr 1;funext r;obtain⟨cells,ty,aU,bJ,esz,ro,cW⟩:=r;simp only[Iw,Iv,MW,Iu];cases ro with
 | true=>rfl
 | false=>
  cases vs.all bu with
  | false=>rfl
  | true=>
   simp only[pick,Bool.false_eq_true,if_false,Bool.not_true];show Bool.rec (motive:=λ _=>R AH) _ _ (decide (off+vs.length<=cells.length))=_;by_cases h:off+vs.length<=cells.length
   ·rw[decide_eq_true h,if_pos h];show Except.ok _=_;rw[uB _ _ _ h];cases cW <;> rfl
   ·rw[decide_eq_false h,if_neg h]
def TC {α:Type} (l:List α):Nat->Option α:=
 List.rec (motive:=λ _=>Nat->Option α) (λ _=>none) (λ x _ ih k=>Nat.rec (motive:=λ _=>Option α) (some x) (λ n _=>ih n) k) l
theorem Ix {α:Type} : ∀ (l:List α) (k:Nat),TC l k=l[k]?
 | [],k=>rfl
 | _ :: l,0=>rfl
 | _ :: l,k+1=>by
  show TC l k=_;rw[Ix l k]; rfl
def GR (l:List (Option Value)):Nat->R (List Value):=
 List.rec (motive:=λ _=>Nat->R (List Value)) (λ n=>Nat.rec (motive:=λ _=>R (List Value)) (.ok []) (λ _ _=>.error 3) n)
  (λ c _ ih n=>Nat.rec (motive:=λ _=>R (List Value)) (.ok []) (λ n _=>Option.rec (motive:=λ _=>R (List Value)) (.error 3) (λ v=>R.bd (ih n) λ vs=>.ok (v :: vs)) c) n) l
theorem B4:∀ (l:List (Option Value)) (n:Nat),GR l n=jN l n
 | [],0=>rfl
 | [],n+1=>rfl
 | c :: l,0=>by cases c <;> rfl
 | none :: l,n+1=>rfl
 | some v :: l,n+1=>by
  show R.bd (GR l n) _=Except.bind (jN l n) _;rw[rW,B4 l n]
def HX {α:Type} (l:List α):Nat->List α:=
 List.rec (motive:=λ _=>Nat->List α) (λ _=>[]) (λ x l ih k=>Nat.rec (motive:=λ _=>List α) (x :: l) (λ n _=>ih n) k) l
theorem Fc {α:Type} : ∀ (l:List α) (k:Nat),HX l k=l.drop k
 | [],k=>by simp[HX]
 | _ :: l,0=>rfl
 | _ :: l,k+1=>by
  show HX l k=_;rw[Fc l k]; rfl
def MX (P:Program) (t:TypeId) (off:Nat) (r:Row):R Value:=
 R.bd (rm P t) λ b=>Bool.rec (motive:=λ _=>R Value)
  (Option.rec (motive:=λ _=>R Value) (.error 15) (λ c=>Option.rec (motive:=λ _=>R Value) (.error 15) (λ v=>.ok v) c) (TC r.cells off))
  (R.bd (bD P t) λ n=>R.bd (GR (HX r.cells off) n) λ vs=>.ok (.agg vs.toArray)) b
def L5 (P:Program) (H:AH) (t:TypeId) (id off:Nat):R Value:=R.bd (PW H id) (MX P t off)
theorem Fe (P:Program) (H:AH) (t:TypeId) (id off:Nat):L5 P H t id off=jq P H t id off:=by
 unfold L5 jq;rw[It,rW];show Except.bind (H.row id) _=Except.bind (H.row id) _;congr 1;funext r;unfold MX;rw[rW];show Except.bind (rm P t) _=Except.bind (rm P t) _;congr 1;funext b;cases b with
 | false=>
  simp only[Ix,Bool.false_eq_true,if_false];cases r.cells[off]? with
  | none=>rfl
  | some c=>cases c <;> rfl
 | true=>
  simp only[if_true];rw[rW];show Except.bind (bD P t) _=Except.bind (bD P t) _;congr 1;funext n;rw[rW,B4,Fc];rfl
def GS (P:Program) (rec:eL) (a:az) (H:AH) (x:Operand):R (Value×AH):=do
  .ok (<- ec a x,H)
def z6 (P:Program) (rec:eL) (a:az) (H:AH) (x:Operand):R (Value×AH):=do
  .ok (<- ec a x,H)
def GU (P:Program) (rec:eL) (a:az) (H:AH) (c:Operand) (x:Operand) (y:Operand):R (Value×AH):=do
  match<-ec a c with
  | .bool b=>.ok (<- ec a (if b then x else y),H)
  | _=>.error 50
def Db (P:Program) (rec:eL) (a:az) (H:AH) (t:TypeId):R (Value×AH):=do
  let (id,H)<-newRow H t 0 ((<- eB P t).map some)
  .ok (.pointer (some ⟨id,0,none⟩),H)
def L6 (P:Program) (rec:eL) (a:az) (H:AH) (t:TypeId) (x:Operand):R (Value×AH):=do
  let (id,H)<-newRow H t 0 ((<- ec a x).cells.toList.map some)
  .ok (.pointer (some ⟨id,0,none⟩),H)
def GV (P:Program) (rec:eL) (a:az) (H:AH) (t:TypeId) (x:Operand):R (Value×AH):=do
  let (id,off)<-eg (<- ec a x)
  .ok (<- L5 P H t id off,H)
def Dc (P:Program) (rec:eL) (a:az) (H:AH) (t:TypeId) (x:Operand) (y:Operand):R (Value×AH):=do
  let (id,off)<-eg (<- ec a x)
  let v<-ec a y
  if v.cells.size=(<- bD P t) then .ok (undef,<- CT H id off v.cells.toList) else .error 51
def uC (P:Program) (rec:eL) (a:az) (H:AH) (x:Operand):R (Value×AH):=do
  match<-ec a x with
  | .pointer (some p)=>.ok (.pointer (some p),H)
  | .func (.func f) fs cs=>.ok (.func (.func f) fs cs,H)
  | .func (.yield l) fs cs=>.ok (.func (.yield l) fs cs,H)
  | _=>.error 52
def Dd (P:Program) (rec:eL) (a:az) (H:AH) (op:BinOp) (t:TypeId) (x:Operand) (y:Operand) (t2:TypeId):R (Value×AH):=do
  let u<-ec a x
  let w<-ec a y
  if dq u w then .ok (<- rn P H op t u w,H) else .ok (<- iA P op t x y u w,H)
def GW (P:Program) (rec:eL) (a:az) (H:AH) (op:UnOp) (t:TypeId) (x:Operand):R (Value×AH):=do
  match<-ec a x with
  | .int k n=>.ok (<- jO (dA P 0 (Op.unary op (.int k n))),H)
  | .bool b=>.ok (<- jO (dA P 0 (Op.unary op (.bool b))),H)
  | _=>.error 53
def xa (P:Program) (rec:eL) (a:az) (H:AH) (s:TypeId) (d:TypeId) (x:Operand):R (Value×AH):=do
  sx P H s d (<- ec a x)
def mn (P:Program) (rec:eL) (a:az) (H:AH) (t:TypeId) (x:Operand):R (Value×AH):=do
  match P.underlying t with
  | some (.interface _)=>.error 54
  | some _=>.ok (.iface t (<- ec a x),H)
  | none=>.error 55
def sF (P:Program) (rec:eL) (a:az) (H:AH) (t:TypeId) (l:Operand) (c:Operand):R (Value×AH):=do
  match P.underlying t with
  | some (.slice elem)=>
   let c<-gH (<- ec a c) 281474976710656
   let l<-gH (<- ec a l) c
   let bytes<-jJ P elem
   if bytes * c > 281474976710656 then .error 57 else
   let (id,H)<-newRow H elem (<- bD P elem) ((ba (<- eB P elem) c).map some)
   .ok (.slice (some ⟨id,0,none⟩) l c,H)
  | _=>.error 58
def De (P:Program) (rec:eL) (a:az) (H:AH) (t:TypeId) (x:Operand) (lo:Option Operand) (N:Option Operand) (mx:Option Operand):R (Value×AH):=do
  let ev (y:Option Operand):R (Option Value):=match y with
   | some y=>do .ok (some (<- ec a y))
   | none=>.ok none
  .ok (<- wx P H t (<- ec a x) (<- ev lo) (<- ev N) (<- ev mx),H)
def sG (P:Program) (rec:eL) (a:az) (H:AH) (t:TypeId) (x:Operand) (f:Nat):R (Value×AH):=do
  match P.underlying t with
  | some (.struct fields)=>
   match fields[f]? with
   | some fd=>
    let (id,off)<-eg (<- ec a x)
    if (<- bD P fd.type)=0 then .error 59 else .ok (.pointer (some ⟨id,off+fd.offset,none⟩),H)
   | none=>.error 60
  | _=>.error 61
def Df (P:Program) (rec:eL) (a:az) (H:AH) (t:TypeId) (x:Operand) (f:Nat):R (Value×AH):=do
  match P.underlying t,<- ec a x with
  | some (.struct fields),.agg cs=>
   match fields[f]? with
   | some fd=>.ok (<- oc P fd.type cs.toList fd.offset,H)
   | none=>.error 62
  | _,_=>.error 63
def sH (P:Program) (rec:eL) (a:az) (H:AH) (t:TypeId) (x:Operand) (i:Operand):R (Value×AH):=do
  match P.underlying t,<- ec a x with
  | some (.array n elem),.pointer (some ⟨id,off,none⟩)=>
   let i<-gH (<- ec a i) (n - 1)
   if i < n then .ok (.pointer (some ⟨id,off+i * (<- bD P elem),none⟩),H) else .error 64
  | some (.slice elem),.slice (some ⟨id,off,none⟩) n _=>
   let i<-gH (<- ec a i) (n - 1)
   if i < n then .ok (.pointer (some ⟨id,off+i * (<- bD P elem),none⟩),H) else .error 65
  | _,_=>.error 66
def Dg (P:Program) (rec:eL) (a:az) (H:AH) (t:TypeId) (x:Operand) (i:Operand):R (Value×AH):=do
  match P.underlying t,<- ec a x with
  | some .string,.string s=>
   let i<-gH (<- ec a i) (s.size - 1)
   match s.data.toList[i]? with
   | some b=>.ok (.int .u8 b.toNat,H)
   | none=>.error 67
  | some (.array n elem),.agg cs=>
   let i<-gH (<- ec a i) (n - 1)
   if i < n then .ok (<- oc P elem cs.toList (i * (<- bD P elem)),H) else .error 68
  | _,_=>.error 69
def xb (P:Program) (rec:eL) (a:az) (H:AH) (x:Operand) (i:Nat):R (Value×AH):=do
  match<-ec a x with
  | .tuple vs=>match vs.toList[i]? with
   | some v=>.ok (v,H)
   | none=>.error 70
  | _=>.error 71
def Dh (P:Program) (rec:eL) (a:az) (H:AH) (t:TypeId) (bH:Array (Nat×Operand)):R (Value×AH):=do
  let ps<-eU (λ(p:Nat×Operand)=>do .ok (p.1,<- ec a p.2)) bH.toList
  let zs<-eB P t
  match P.underlying t with
  | some (.struct fields)=>
   let nc<-eU (λ(f:Field)=>do .ok (f.offset,<- bD P f.type)) fields.toList
   match Instr.fill (λ i=>nc[i]?) zs.toArray ps with
   | some cells=>.ok (.agg cells,H)
   | none=>.error 730
  | some (.array _ elem)=>
   let size<-bD P elem
   match Instr.fill (λ i=>some (i * size,size)) zs.toArray ps with
   | some cells=>.ok (.agg cells,H)
   | none=>.error 731
  | _=>.error 732
def qE (P:Program) (rec:eL) (a:az) (H:AH) (t:TypeId) (len:Nat) (bH:Array (Nat×Operand)):R (Value×AH):=do
  match P.underlying t with
  | some (.slice elem)=>
   let ps<-eU (λ(p:Nat×Operand)=>do .ok (p.1,<- ec a p.2)) bH.toList
   let size<-bD P elem
   if len * size > 16777216 then .error 72 else
   match Instr.fill (λ i=>some (i * size,size)) (ba (<- eB P elem) len).toArray ps with
   | some cells=>
    let (id,H)<-newRow H elem size (cells.toList.map some)
    .ok (.slice (some ⟨id,0,none⟩) len len,H)
   | none=>.error 73
  | _=>.error 74
def Di (P:Program) (rec:eL) (H:AH) (args:List Value) (l:Nat):R (Value×AH):=do
    match H.get l with
    | some (.loop r)=>
     if r.params.length≠args.length then .error 76 else
     match r.state with
     | .ready=>
      let act<-(r.params.zip args).foldlM (λ(b:az) (p:Tmp×Value)=>b.put (some p.1) p.2) { tm:=r.tm,n:=r.n,bn:=[] }
      match<-rec (.code (some l) r.assign act) H with
      | (.ie .normal act,H)=>
       match H.get l with
       | some (.loop r1)=>
        if r1.state≠.ready then .error 77 else
        match<-rec (.code (some l) r.body act) (H.set l (.loop { r1 with state:=.busy })) with
        | (.ie x _,H)=>
         match H.get l with
         | some (.loop r2)=>.ok (.bool (c6 x).isNone,H.set l (.loop { r2 with state:=if (c6 x).isNone then .ready else .done,pending:=c6 x }))
         | _=>.error 78
        | _=>.error 79
       | _=>.error 80
      | _=>.error 81
     | _=>.error 82
    | _=>.error 83
def Dj (P:Program) (rec:eL) (a:az) (H:AH) (args:List Value) (f:Operand):R (Value×AH):=do
   match<-ec a f with
   | .func (.func f) first cap=>
    match<-rec (.call f (first.toList++args++cap.toList)) H with
    | (.val v,H)=>.ok (v,H)
    | _=>.error 75
   | .func (.yield l) _ _=>Di P rec H args l
   | _=>.error 84
def z7 (P:Program) (rec:eL) (a:az) (H:AH) (args:List Value) (IC:Operand) (name:String):R (Value×AH):=do
   match<-ec a IC with
   | .iface t v=>do
    let f<-sN P t name
    match<-rec (.call f (v :: args)) H with
    | (.val v,H)=>.ok (v,H)
    | _=>.error 75
   | _=>.error 840
def xd (P:Program) (H:AH) (c:Call) (args:List Value) (b:Builtin):R (Value×AH):=do
   match b,args with
   | .len,[x]=>
    match c.argTypes.toList with
    | t :: _=>.ok (<- DX P t x,H)
    | []=>.error 85
   | .cap,_=>.error 86
   | .append,[s,x]=>
    match c.argTypes.toList with
    | [t]=>iu P H t none s x
    | t :: u :: _=>iu P H t (some u) s x
    | []=>.error 87
   | .copy,[d,x]=>
    match c.argTypes.toList with
    | t :: _=>
     match P.underlying t with
     | some (.slice elem)=>
      let size<-bD P elem
      let (new,m)<-gj P H elem false x
      match d with
      | .slice none 0 0=>.ok (.int .i64 0,H)
      | .slice (some ⟨id,off,none⟩) n _=>
       let k:=min m n
       if k=0 then .ok (.int .i64 0,H) else
       .ok (.int .i64 k,<- CT H id off (new.take (k * size)))
      | _=>.error 88
     | _=>.error 89
    | []=>.error 90
   | .max,_=>if args.all (iL gd) then .ok (<- jO (dA P 0 (Builtin.max_ #[] 0 args.toArray)),H) else .error 91
   | .min,_=>if args.all (iL gd) then .ok (<- jO (dA P 0 (Builtin.min_ #[] 0 args.toArray)),H) else .error 92
   | _,_=>.error 93
def GX (P:Program) (rec:eL) (a:az) (H:AH) (c:Call):R (Value×AH):=do
  let args<-eU (ec a) c.args.toList
  match c.callee with
  | .value f=>Dj P rec a H args f
  | .invoke IC name=>z7 P rec a H args IC name
  | .builtin b=>xd P H c args b
def ZH (P:Program) (rec:eL) (a:az) (H:AH) (o:Oper):R (Value×AH):=
 match o.op with
 | .move x=>GS P rec a H x
 | .assign x=>z6 P rec a H x
 | .pick c x y=>GU P rec a H c x y
 | .alloc t=>Db P rec a H t
 | .box t x=>L6 P rec a H t x
 | .load t x=>GV P rec a H t x
 | .store t x y=>Dc P rec a H t x y
 | .nilCheck x=>uC P rec a H x
 | .binOp op t x y t2=>Dd P rec a H op t x y t2
 | .unOp op t x=>GW P rec a H op t x
 | .convert s d x=>xa P rec a H s d x
 | .makeInterface t x=>mn P rec a H t x
 | .makeSlice t l c=>sF P rec a H t l c
 | .slice t x lo N mx=>De P rec a H t x lo N mx
 | .fieldAddr t x f=>sG P rec a H t x f
 | .field t x f=>Df P rec a H t x f
 | .indexAddr t x i=>sH P rec a H t x i
 | .index t x i=>Dg P rec a H t x i
 | .extract x i=>xb P rec a H x i
 | .build t bH=>Dh P rec a H t bH
 | .buildSlice t len bH=>qE P rec a H t len bH
 | .call c=>GX P rec a H c
 | _=>b9 P rec a H o
theorem Ue {P:Program} {rec:eL} {a:az} {H:AH} {o:Oper} : ZH P rec a H o=b9 P rec a H o:=by
 obtain⟨d,op,ty,ps,af,gu⟩:=o;cases op <;> first | rfl | (simp only[ZH,b9,GS,z6,GU,Db,L6,GV,Dc,uC,Dd,GW,xa,mn,sF,De,sG,Df,sH,Dg,xb,Dh,qE,Di,Dj,z7,xd,GX,B2,vA,B3,Fe,mR]; done) | (simp only[ZH,b9,GS,z6,GU,Db,L6,GV,Dc,uC,Dd,GW,xa,mn,sF,De,sG,Df,sH,Dg,xb,Dh,qE,Di,Dj,z7,xd,GX,B2,vA,B3,Fe,mR]; rfl)
def zq (k:az->AH->R (az×AH)) (a:az) (H:AH) (o:Oper) (v:Value):R (az×AH):=R.bd (a.put o.dst v) λ a=>k a H
def Yo (k:az->AH->R (az×AH)) (a:az) (o:Oper) (p:Value×AH):R (az×AH):=Prod.rec (motive:=λ _=>R (az×AH)) (λ v H=>zq k a H o v) p
def Gy (P:Program) (rec:eL) (rnd:Option Nat) (o:Oper) (a:az) (H:AH) (k:az->AH->R (az×AH)):R (az×AH):=
 match dR o.op with
 | some c=>if rnd.isSome then .error 1102 else R.bd (tX a c) λ d=>zq k { a with bn:=d :: a.bn } H o undef
 | none=>R.bd (ZH P rec a H o) (Yo k a o)
def Gz (P:Program) (rec:eL) (rnd:Option Nat) (all:List Oper) (os:List Oper):az->AH->R (az×AH):=
 List.rec (motive:=λ _=>az->AH->R (az×AH)) (λ a H=>.ok (a,H))
  (λ o _ ih a H=>Option.rec (motive:=λ _=>R (az×AH)) (Gy P rec rnd o a H ih) (λ _=>R.bd (dr all a o) λ b=>Bool.rec (motive:=λ _=>R (az×AH)) (zq ih a H o undef) (Gy P rec rnd o a H ih) b) o.guard) os
theorem Qx {P:Program} {rec:eL} {rnd:Option Nat} {o:Oper} {a:az} {H:AH} {k:az->AH->R (az×AH)} : Gy P rec rnd o a H k =
  (match dR o.op with
   | some c=>
    if rnd.isSome then .error 1102 else Except.bind (tX a c) λ d=>Except.bind (({ a with bn:=d :: a.bn } : az).put o.dst undef) λ a=>k a H
   | none=>Except.bind (b9 P rec a H o) λ p=>Except.bind (a.put o.dst p.1) λ a=>k a p.2):=by
 unfold Gy;split
 ·simp only[rW,zq]
 ·rw[rW,Ue];cases b9 P rec a H o with
  | error e=>rfl
  | ok p=>exact rW _ _
theorem Iy {P:Program} {rec:eL} {rnd:Option Nat} {all:List Oper} : ∀ (os:List Oper) (a:az) (H:AH),Gz P rec rnd all os a H=eW P rec rnd all os a H
 | [],a,H=>rfl
 | o :: os,a,H=>by
  have ih:Gz P rec rnd all os=eW P rec rnd all os:=funext λ a=>funext λ H=>Iy os a H;have B:Gz P rec rnd all (o :: os) a H=Option.rec (motive:=λ _=>R (az×AH)) (Gy P rec rnd o a H (Gz P rec rnd all os)) (λ _=>R.bd (dr all a o) λ b=>Bool.rec (motive:=λ _=>R (az×AH)) (zq (Gz P rec rnd all os) a H o undef) (Gy P rec rnd o a H (Gz P rec rnd all os)) b) o.guard:=rfl;rw[B,ih];have D:Gy P rec rnd o a H (eW P rec rnd all os)=(match dR o.op with
   | some c=>
    if rnd.isSome then .error 1102 else Except.bind (tX a c) λ d=>Except.bind (({ a with bn:=d :: a.bn } : az).put o.dst undef) λ a=>eW P rec rnd all os a H
   | none=>Except.bind (b9 P rec a H o) λ p=>Except.bind (a.put o.dst p.1) λ a=>eW P rec rnd all os a p.2):=Qx
  have V:zq (eW P rec rnd all os) a H o undef=Except.bind (a.put o.dst undef) λ a=>eW P rec rnd all os a H:=by unfold zq; rw[rW]
  rw[D,V];cases hg:o.guard with
  | none=>
   have hw:dr all a o=.ok true:=by unfold dr; rw[hg]
   simp only[eW,hw];rfl
  | some aa=>
   simp only[eW,rW];cases dr all a o with
   | error e=>rfl
   | ok b=>cases b <;> rfl
def MY (P:Program) (rec:eL) (f:FuncId) (args:List Value) (H:AH):R (Ds×AH):=do
  let (fn,c)<-mj P f args
  match<-rec (.code none c (cO fn.ntmps args)) H with
  | (.ie .normal a,H) | (.ie .ret a,H)=>do
   let H1<-eh P rec a.bn H
   .ok (.val (<- c9 P H1 a fn.results.toList),H1)
  | _=>.error 102
def RF (rec:eL) (rnd:Option Nat) (x y:Code) (a:az) (H:AH):R (Ds×AH):=do
   match<-rec (.code rnd x a) H with
   | (.ie .normal a,H)=>rec (.code rnd y a) H
   | r=>.ok r
def GY (rec:eL) (rnd:Option Nat) (o:Operand) (x y:Code) (a:az) (H:AH):R (Ds×AH):=do
   match<-ec a o with
   | .bool b=>pick b (rec (.code rnd x a) H) (rec (.code rnd y a) H)
   | _=>.error 105
def Iz (rec:eL) (rnd:Option Nat) (id:Nat) (x:Code) (a:az) (H:AH):R (Ds×AH):=do
   match<-rec (.code rnd x a) H with
   | (.ie (.exit j) a,H)=>.ok (.ie (if j=id then .normal else .exit j) a,H)
   | r=>.ok r
def MZ (rec:eL) (rnd:Option Nat) (x:Code) (a:az) (H:AH):R (Ds×AH):=do
   match<-rec (.code rnd x a) H with
   | (.ie .normal a,H)=>rec (.code rnd (.loop x) a) H
   | r=>.ok r
def M0 (P:Program) (rec:eL) (rnd:Option Nat) (ops:Array Oper) (a:az) (H:AH):R (Ds×AH):=do
   let (a,H)<-Gz P rec rnd ops.toList ops.toList a H
   .ok (.ie .normal a,H)
def M1 (P:Program) (rec:eL) (rnd:Option Nat) (ops:Array Oper) (a:az) (H:AH):R (Ds×AH):=do
   if !P.follows .mixedOrders then .error 120 else
   let (a,H)<-rP P rec ops.toList a H
   .ok (.ie .normal a,H)
def CU (P:Program) (rec:eL) (rnd:Option Nat) (c:Code) (a:az) (H:AH):R (Ds×AH):=
  match c with
  | .skip=>.ok (.ie .normal a,H)
  | .label _=>.ok (.ie .normal a,H)
  | .ret=>.ok (.ie .ret a,H)
  | .exit id=>.ok (.ie (.exit id) a,H)
  | .goto l=>.ok (.ie (.goto l) a,H)
  | .seq x y=>RF rec rnd x y a H
  | .cond o x y=>GY rec rnd o x y a H
  | .block id x=>Iz rec rnd id x a H
  | .loop x=>MZ rec rnd x a H
  | .region _ ops false=>M0 P rec rnd ops a H
  | .region _ ops true=>M1 P rec rnd ops a H
  | c=>bO P rec (.code rnd c a) H
def zr (P:Program) (rec:eL):eL
 | .call f args,H=>MY P rec f args H
 | .code rnd c a,H=>CU P rec rnd c a H
theorem NR (P:Program) (rec:eL):zr P rec=bO P rec:=by
 funext q H;cases q with
 | call f args=>simp only[zr,MY,bO,mR] <;> rfl
 | code rnd c a=>
  cases c with
  | region n ops b=>cases b <;> simp only[zr,CU,M0,M1,bO,mR,Iy] <;> rfl
  | cond o x y=>
   simp only[zr,CU,GY,bO,mR,vA];cases a.eval o with
   | error e=>rfl
   | ok v=>cases v <;> first | rfl | (rename_i b; cases b <;> rfl)
  | _=>first | rfl | (simp only[zr,CU,RF,GY,Iz,MZ,bO,mR] <;> rfl)
def Lu (P:Program) (n:Nat):eL:=Nat.rec (motive:=λ _=>eL) (λ _ _=>.error 0) (λ _ r=>zr P r) n
theorem IA (P:Program):∀ n,Lu P n=A5 P n
 | 0=>by funext q H; rfl
 | n+1=>by
  have h:Lu P (n+1)=zr P (Lu P n):=rfl;rw[h,IA P n,NR];funext q H;rfl
end
end Go.cy
