/-
  What layers 13 and 14 compute, under this seat's numbers.
-/
import Derived.Test.YtdehaeillolhbaaX8d
set_option maxRecDepth 10000
namespace Go.Eng.Lift
open Go.Proofs
noncomputable section
theorem w_id {n:Int} (h1 : -9223372036854775808<=n) (h2:n < 9223372036854775808):w n=n:=by
 unfold w
 first | (rw[wrap64]; omega) | (simp[IntKind.wrap,IntKind.signed,IntKind.bits]; omega)
theorem bindI_eq {α β:Type} {L:List α} {i:Int} {f:α->Option β} {y:α} (h:0<=i) (hy:L[i.toNat]? = some y):bindI L i f=f y:=by
 unfold bindI
 rw[if_pos h,hy]; rfl
theorem at_of {α:Type} {L:List α} {i:Int} (h:0<=i) (h2:i < L.length):∃ y,L[i.toNat]? = some y:=⟨_,List.getElem?_eq_getElem (by omega)⟩
theorem t92 (k:Nat) (a b c:Int):F49 k a b c=some (decide (b<=a) && decide (a<=c)):=by
 unfold F49
 cases decide (b<=a) <;> rfl
theorem t104 (k:Nat) (x:GItem):∃ r,F72 k x=some r/\(r=true->0<=x.width/\x.width<=1099511627776):=by
 unfold F72
 simp only[t92,Option.bind_some]
 cases h1:(decide (1<=x.size) && decide (x.size<=67108864)) with
 | false=>exact⟨false,rfl,λ h=>by cases h⟩
 | true=>
  cases h2:(decide (0<=x.width) && decide (x.width<=1099511627776)) with
  | false=>exact⟨false,rfl,λ h=>by cases h⟩
  | true=>
   have h3:0<=x.width/\x.width<=1099511627776:=by simpa using h2
   cases h4:(decide (0<=x.height) && decide (x.height<=1099511627776)) with
   | false=>exact⟨false,rfl,λ h=>by cases h⟩
   | true=>exact⟨_,rfl,λ _=>h3⟩
theorem t110 (k:Nat) (a:Int):∃ r,F89 k a=some r:=by
 unfold F89
 cases decide (a < 0) with
 | true=>exact⟨_,rfl⟩
 | false=>
 cases decide (a<=127) with
 | true=>exact⟨_,rfl⟩
 | false=>
 cases decide (a<=2047) with
 | true=>exact⟨_,rfl⟩
 | false=>
 cases decide (55296<=a) <;> cases decide (a<=57343) <;> cases decide (a<=65535) <;> cases decide (a<=1114111) <;> exact⟨_,rfl⟩
theorem t105 (k:Nat) (a:Int):∃ r,F73 k a=some r:=by
 unfold F73
 obtain⟨r,hr⟩:=t110 k (w_i32 a)
 rw[hr]
 cases decide (a < 0) <;> simp only[cond_true,cond_false,Option.bind_some]
 ·cases decide (a > 1114111) <;> simp only[cond_true,cond_false,Option.bind_some]
  ·cases decide (a>=55296) <;> simp only[cond_true,cond_false,Option.bind_some]
   ·exact⟨_,rfl⟩
   ·cases decide (a<=57343) <;> exact⟨_,rfl⟩
  ·exact⟨_,rfl⟩
 ·exact⟨_,rfl⟩
structure Good (a b c:GItem):Prop where
 box:a.kind=1->0<=a.width/\a.width<=1099511627776
 kern:a.kind=2->b.kind=1/\c.kind=1/\w (0 - (if c.width < b.width then c.width else b.width))<=a.width/\a.width<=1099511627776
 glue:a.kind=3->(0<=a.width/\a.width<=67108864)/\(0<=a.stretch/\a.stretch<=67108864)/\0<=a.shrink/\a.shrink<=a.width
 pen:a.kind=4->0<=a.width/\a.width<=1099511627776
 val:a.kind=4 -> -10000<=a.value
theorem t91 (k:Nat) (a b c:GItem):∃ r,F48 k a b c=some r/\(r=true->Good a b c):=by
 obtain⟨q,hq,hq'⟩:=t104 k a
 obtain⟨u,hu⟩:=t105 k a.rune
 unfold F48
 simp only[t92,hq,hu,Option.bind_some]
 cases h1:(a.kind == 1) with
 | true=>
  have e:a.kind=1:=eq_of_beq h1
  cases q with
  | false=>exact⟨false,rfl,λ h=>by cases h⟩
  | true=>
   have:=hq' rfl
   have g:Good a b c:=⟨λ _=>this,λ h=>by omega,λ h=>by omega,λ h=>by omega,λ h=>by omega⟩
   cases decide (u > 0) with
   | false=>exact⟨false,rfl,λ h=>by cases h⟩
   | true=>exact⟨_,rfl,λ _=>g⟩
 | false=>
 cases h2:(a.kind == 2) with
 | true=>
  have e:a.kind=2:=eq_of_beq h2
  cases h3:(b.kind == 1) with
  | false=>exact⟨false,rfl,λ h=>by cases h⟩
  | true=>
  cases h4:(c.kind == 1) with
  | false=>exact⟨false,rfl,λ h=>by cases h⟩
  | true=>
  cases h5:(a.width != 0) with
  | false=>exact⟨false,rfl,λ h=>by cases h⟩
  | true=>
  cases h6:(decide (w (0 - (if c.width < b.width then c.width else b.width))<=a.width) && decide (a.width<=1099511627776)) with
  | false=>exact⟨false,rfl,λ h=>by cases h⟩
  | true=>
   have h7:w (0 - (if c.width < b.width then c.width else b.width))<=a.width/\a.width<=1099511627776:=by simpa using h6
   have g:Good a b c:=⟨λ h=>by omega,λ _=>⟨eq_of_beq h3,eq_of_beq h4,h7⟩,λ h=>by omega,λ h=>by omega,λ h=>by omega⟩
   exact⟨_,rfl,λ _=>g⟩
 | false=>
 cases h3:(a.kind == 3) with
 | true=>
  have e:a.kind=3:=eq_of_beq h3
  cases h4:(decide (1<=a.size) && decide (a.size<=67108864)) with
  | false=>exact⟨false,rfl,λ h=>by cases h⟩
  | true=>
  cases h5:(decide (0<=a.width) && decide (a.width<=67108864)) with
  | false=>exact⟨false,rfl,λ h=>by cases h⟩
  | true=>
  cases h6:(decide (0<=a.stretch) && decide (a.stretch<=67108864)) with
  | false=>exact⟨false,rfl,λ h=>by cases h⟩
  | true=>
  cases h7:(decide (0<=a.shrink) && decide (a.shrink<=a.width)) with
  | false=>exact⟨false,rfl,λ h=>by cases h⟩
  | true=>
   have h5':0<=a.width/\a.width<=67108864:=by simpa using h5
   have h6':0<=a.stretch/\a.stretch<=67108864:=by simpa using h6
   have h7':0<=a.shrink/\a.shrink<=a.width:=by simpa using h7
   have g:Good a b c:=⟨λ h=>by omega,λ h=>by omega,λ _=>⟨h5',h6',h7'⟩,λ h=>by omega,λ h=>by omega⟩
   exact⟨_,rfl,λ _=>g⟩
 | false=>
 cases h4:(a.kind == 4) with
 | true=>
  have e:a.kind=4:=eq_of_beq h4
  cases hv:(decide (-10000<=a.value) && decide (a.value<=10000)) with
  | false=>cases hf:a.flag <;> exact⟨false,rfl,λ h=>by cases h⟩
  | true=>
  have hval : -10000<=a.value:=(show -10000<=a.value/\a.value<=10000 by simpa using hv).1
  cases hf:a.flag with
  | false=>
   refine⟨_,rfl,λ h=>?_⟩
   simp only[Bool.and_eq_true,beq_iff_eq] at h
   have hw:a.width=0:=h.2.2.2.2.1
   exact⟨λ h=>by omega,λ h=>by omega,λ h=>by omega,λ _=>by omega,λ _=>hval⟩
  | true=>
  cases q with
  | false=>exact⟨false,rfl,λ h=>by cases h⟩
  | true=>
   have:=hq' rfl
   have g:Good a b c:=⟨λ h=>by omega,λ h=>by omega,λ h=>by omega,λ _=>this,λ _=>hval⟩
   cases hr:(a.rune == 45) with
   | false=>exact⟨false,rfl,λ h=>by cases h⟩
   | true=>
    cases decide (a.value > -10000) with
    | false=>exact⟨false,rfl,λ h=>by cases h⟩
    | true=>exact⟨_,rfl,λ _=>g⟩
 | false=>exact⟨false,rfl,λ h=>by cases h⟩
def prevOf (L:List GItem) (i:Nat):GItem:=if 0 < i then(L[i - 1]?).getD (GItem.mk 0 ByteArray.empty 0 0 0 0 0 0 0 0 false 0 0) else GItem.mk 0 ByteArray.empty 0 0 0 0 0 0 0 0 false 0 0
def nextOf (L:List GItem) (i:Nat):GItem:=(L[i+1]?).getD (GItem.mk 0 ByteArray.empty 0 0 0 0 0 0 0 0 false 0 0)
theorem t64_l1 (k:Nat) (L:List GItem) (hl:L.length<=4096):∀ (j:Nat) (v:Int) (i:Nat),i<=L.length->L.length < j+i ->
  ∃ r,F21_l1 k L j v i=some r/\(r=.inl ()->∀ t y,i<=t->L[t]? = some y->Good y (prevOf L t) (nextOf L t))
 | 0,v,i,h1,h2=>by omega
 | j+1,v,i,h1,h2=>by
  unfold F21_l1
  cases hc:decide ((i:Int) < (L.length:Int)) with
  | false=>
   have:¬ (i:Int) < L.length:=of_decide_eq_false hc
   refine⟨.inl (),rfl,λ _ t y ht hy=>?_⟩
   have:=lt_of_get hy
   omega
  | true=>
   have hi:(i:Int) < L.length:=of_decide_eq_true hc
   obtain⟨y,hy⟩:=at_of (L:=L) (i:=(i:Int)) (by omega) hi
   have hp:∀ {β:Type} (f:Int×ByteArray×Int×Int×Int×Int×Int×Int×Int×Int×Bool×Int×Int->Option β),(Option.bind (bif decide ((i:Int) > 0) then(bindI L (w ((i:Int) - 1)) λ y22=>some (y22.kind,y22.font,y22.size,y22.rune,y22.width,y22.height,y22.depth,y22.stretch,y22.shrink,y22.value,y22.flag,y22.from_,y22.to_)) else(some (0,ByteArray.empty,0,0,0,0,0,0,0,0,false,0,0))) f) =
     f ((prevOf L i).kind,(prevOf L i).font,(prevOf L i).size,(prevOf L i).rune,(prevOf L i).width,(prevOf L i).height,(prevOf L i).depth,(prevOf L i).stretch,(prevOf L i).shrink,(prevOf L i).value,(prevOf L i).flag,(prevOf L i).from_,(prevOf L i).to_):=by
    intro β f
    by_cases h0:0 < i
    ·rw[decide_eq_true (show(i:Int) > 0 by omega),w_id (by omega) (by omega)]
     obtain⟨z,hz⟩:=at_of (L:=L) (i:=(i:Int) - 1) (by omega) (by omega)
     rw[cond_true,bindI_eq (by omega) hz]
     have:(i:Int).toNat - 1=i - 1:=by omega
     unfold prevOf
     rw[if_pos h0]
     rw[show((i:Int) - 1).toNat=i - 1 by omega] at hz
     rw[hz]; rfl
    ·rw[decide_eq_false (show ¬ (i:Int) > 0 by omega),cond_false]
     unfold prevOf
     rw[if_neg h0]; rfl
   have hn:∀ {β:Type} (f:Int×ByteArray×Int×Int×Int×Int×Int×Int×Int×Int×Bool×Int×Int->Option β),(Option.bind (bif decide ((w ((i:Int)+1)) < (L.length:Int)) then(bindI L (w ((i:Int)+1)) λ y22=>some (y22.kind,y22.font,y22.size,y22.rune,y22.width,y22.height,y22.depth,y22.stretch,y22.shrink,y22.value,y22.flag,y22.from_,y22.to_)) else(some (0,ByteArray.empty,0,0,0,0,0,0,0,0,false,0,0))) f) =
     f ((nextOf L i).kind,(nextOf L i).font,(nextOf L i).size,(nextOf L i).rune,(nextOf L i).width,(nextOf L i).height,(nextOf L i).depth,(nextOf L i).stretch,(nextOf L i).shrink,(nextOf L i).value,(nextOf L i).flag,(nextOf L i).from_,(nextOf L i).to_):=by
    intro β f
    rw[w_id (n:=(i:Int)+1) (by omega) (by omega)]
    by_cases h0:i+1 < L.length
    ·rw[decide_eq_true (show(i:Int)+1 < L.length by omega)]
     obtain⟨z,hz⟩:=at_of (L:=L) (i:=(i:Int)+1) (by omega) (by omega)
     rw[cond_true,bindI_eq (by omega) hz]
     unfold nextOf
     rw[show((i:Int)+1).toNat=i+1 by omega] at hz
     rw[hz]; rfl
    ·rw[decide_eq_false (show ¬ (i:Int)+1 < L.length by omega),cond_false]
     unfold nextOf
     rw[List.getElem?_eq_none (by omega)]; rfl
   rw[cond_true,bindI_eq (by omega) hy]
   rw[show(i:Int).toNat=i by omega] at hy
   simp only[hp,hn]
   obtain⟨r,hr,hg⟩:=t91 k y (prevOf L i) (nextOf L i)
   rw[hr]
   simp only[Option.bind_some]
   cases r with
   | false=>exact⟨.inr 1,rfl,λ h=>by cases h⟩
   | true=>
    have g:=hg rfl
    have step:∀ v',∃ r,F21_l1 k L j v' (w ((i:Int)+1))=some r/\(r=.inl ()->∀ t y,i<=t->L[t]? = some y->Good y (prevOf L t) (nextOf L t)):=by
     intro v'
     rw[w_id (n:=(i:Int)+1) (by omega) (by omega)]
     obtain⟨r,h3,h4⟩:=t64_l1 k L hl j v' (i+1) (by omega) (by omega)
     refine⟨r,h3,λ e t z ht hz=>?_⟩
     by_cases hti:t=i
     ·subst hti
      rw[hy] at hz; cases hz; exact g
     ·exact h4 e t z (by omega) hz
    cases (y.kind == 2) with
    | true=>exact step v
    | false=>
     simp only[t92]
     cases decide (y.from_ < v) with
     | true=>exact⟨.inr 1,rfl,λ h=>by cases h⟩
     | false=>
      cases (decide (y.from_<=y.to_) && decide (y.to_<=65536)) with
      | false=>exact⟨.inr 1,rfl,λ h=>by cases h⟩
      | true=>exact step y.to_
theorem t64_no (k:Nat) (L:List GItem):∀ (j:Nat) (v i:Int),F21_l1 k L j v i≠some (.inr 0)
 | 0,v,i=>by unfold F21_l1; intro h; cases h
 | j+1,v,i=>by
  have ih:=t64_no k L j
  unfold F21_l1
  intro h
  cases hc:decide (i < (L.length:Int)) with
  | false=>rw[hc] at h; cases h
  | true=>
   rw[hc,cond_true] at h
   obtain⟨x,hx,h⟩:=bind_some h
   cases x with
   | inl v'=>exact ih _ _ h
   | inr q=>
    have hq:q=.inr 0:=by simpa using h
    subst hq
    obtain⟨y,_,_,hx⟩:=bindI_some hx
    obtain⟨p,_,hx⟩:=bind_some hx
    obtain⟨n,_,hx⟩:=bind_some hx
    obtain⟨p1,p2,p3,p4,p5,p6,p7,p8,p9,p10,p11,p12,p13⟩:=p
    obtain⟨n1,n2,n3,n4,n5,n6,n7,n8,n9,n10,n11,n12,n13⟩:=n
    obtain⟨r,_,hx⟩:=bind_some hx
    cases r with
    | false=>cases hx
    | true=>
     simp only[Bool.not_true,cond_false] at hx
     cases hk:(y.kind == 2) with
     | true=>rw[hk] at hx; cases hx
     | false=>
      rw[hk,cond_false] at hx
      obtain⟨b,_,hx⟩:=bind_some hx
      cases b <;> cases hx
theorem t64 (k:Nat) (L:List GItem) (hk:L.length < k):∃ r,F21 k L=some r/\(r=0->L.length<=4096/\∀ t y,L[t]? = some y->Good y (prevOf L t) (nextOf L t)):=by
 unfold F21
 cases hc:decide ((L.length:Int) > 4096) with
 | true=>exact⟨130,rfl,λ h=>by omega⟩
 | false=>
  have hl:¬ (L.length:Int) > 4096:=of_decide_eq_false hc
  obtain⟨r,h1,h2⟩:=t64_l1 k L (by omega) k 0 0 (by omega) (by omega)
  rw[cond_false]
  have h1':F21_l1 k L k 0 0=some r:=h1
  rw[h1',Option.bind_some]
  cases r with
  | inr n=>
   refine⟨n,rfl,λ e=>?_⟩
   subst e
   exact(t64_no k L k 0 0 h1').elim
  | inl u=>
   have g:=h2 rfl
   have good:L.length<=4096/\∀ t y,L[t]? = some y->Good y (prevOf L t) (nextOf L t):=⟨by omega,λ t y hy=>g t y (by omega) hy⟩
   simp only[Sum.elim_inl]
   by_cases h0:0 < L.length
   ·obtain⟨y,hy⟩:=at_of (L:=L) (i:=(L.length:Int) - 1) (by omega) (by omega)
    rw[decide_eq_true (show(L.length:Int) > 0 by omega),cond_true,w_id (n:=(L.length:Int) - 1) (by omega) (by omega),bindI_eq (by omega) hy,bindI_eq (by omega) hy]
    cases (y.kind != 4) with
    | true=>exact⟨1,rfl,λ h=>by cases h⟩
    | false=>
     cases (y.value != (-10000)) with
     | true=>exact⟨1,rfl,λ h=>by cases h⟩
     | false=>exact⟨0,rfl,λ _=>good⟩
   ·rw[decide_eq_false (show ¬ (L.length:Int) > 0 by omega)]
    exact⟨0,rfl,λ _=>good⟩
theorem t68 (k:Nat) (L:List GItem) (i:Int) (h0:0<=i) (h1:i < L.length) (hl:L.length<=4096):∃ r,F71 k L i=some r:=by
 obtain⟨y,hy⟩:=at_of h0 h1
 unfold F71
 rw[bindI_eq h0 hy]
 cases (y.kind == 3) with
 | true=>
  by_cases h2:0 < i
  ·obtain⟨z,hz⟩:=at_of (L:=L) (i:=i - 1) (by omega) (by omega)
   rw[decide_eq_true (show i > 0 by omega),w_id (n:=i - 1) (by omega) (by omega),bindI_eq (by omega) hz]
   exact⟨_,rfl⟩
  ·rw[decide_eq_false (show ¬ i > 0 by omega)]
   exact⟨_,rfl⟩
 | false=>
  cases (y.kind == 4) with
  | true=>rw[bindI_eq h0 hy]; exact⟨_,rfl⟩
  | false=>exact⟨_,rfl⟩
theorem t70 (k:Nat) (y:GItem):∃ r,F75 k y=some r:=by
 unfold F75
 cases (y.kind == 4) <;> exact⟨_,rfl⟩
theorem t94_l1 (k:Nat) (L:List GItem) (hl:L.length<=4096):∀ (j i:Nat),i<=L.length->L.length < j+i->∃ r,F90_75_l1 k L j i=some r
 | 0,i,h1,h2=>by omega
 | j+1,i,h1,h2=>by
  unfold F90_75_l1
  cases hc:decide ((i:Int) < (L.length:Int)) with
  | false=>exact⟨_,rfl⟩
  | true=>
   have hi:(i:Int) < L.length:=of_decide_eq_true hc
   obtain⟨y,hy⟩:=at_of (L:=L) (i:=(i:Int)) (by omega) hi
   obtain⟨r,hr⟩:=t70 k y
   rw[cond_true,bindI_eq (by omega) hy,hr,Option.bind_some]
   cases r with
   | true=>exact⟨_,rfl⟩
   | false=>
    rw[w_id (n:=(i:Int)+1) (by omega) (by omega)]
    exact t94_l1 k L hl j (i+1) (by omega) (by omega)
theorem t69 (k:Nat) (L:List GItem) (hl:L.length<=4096) (hk:L.length < k):∃ r,F74_75 k L=some r:=by
 unfold F74_75 F90_75
 obtain⟨r,hr⟩:=t94_l1 k L hl k 0 (by omega) (by omega)
 have hr':F90_75_l1 k L k 0=some r:=hr
 rw[hr',Option.bind_some]
 cases r <;> exact⟨_,rfl⟩
theorem t71_l1 (k:Nat) (L:List GItem) (a3:Int) (hl:L.length<=4096) (h3:a3 < L.length):∀ (j:Nat) (v:Int),0<=v->v<=a3->a3 - v < j->∃ r,F51_l1 k L a3 j v=some r/\v<=r/\r<=a3
 | 0,v,h0,h1,h2=>by omega
 | j+1,v,h0,h1,h2=>by
  unfold F51_l1
  by_cases hv:v < a3
  ·obtain⟨y,hy⟩:=at_of (L:=L) (i:=v) (by omega) (by omega)
   rw[decide_eq_true hv,cond_true,bindI_eq (by omega) hy,Option.bind_some]
   cases (y.kind != 1) with
   | false=>exact⟨v,rfl,by omega,by omega⟩
   | true=>
    rw[w_id (n:=v+1) (by omega) (by omega)]
    obtain⟨r,k1,k2,k3⟩:=t71_l1 k L a3 hl h3 j (v+1) (by omega) (by omega) (by omega)
    exact⟨r,k1,by omega,k3⟩
  ·rw[decide_eq_false hv]
   exact⟨v,rfl,by omega,by omega⟩
theorem t71_l2 (k:Nat) (L:List GItem) (v1:Int) (hl:L.length<=4096) (h0:0<=v1):∀ (j:Nat) (v:Int),v1<=v->v<=L.length->v - v1 < j->∃ r,F51_l2 k L v1 j v=some r/\v1<=r/\r<=v
 | 0,v,h1,h3,h2=>by omega
 | j+1,v,h1,h3,h2=>by
  unfold F51_l2
  by_cases hv:v > v1
  ·obtain⟨y,hy⟩:=at_of (L:=L) (i:=v - 1) (by omega) (by omega)
   rw[decide_eq_true hv,cond_true,w_id (n:=v - 1) (by omega) (by omega),bindI_eq (by omega) hy,Option.bind_some]
   cases (y.kind != 1) with
   | false=>exact⟨v,rfl,by omega,by omega⟩
   | true=>
    obtain⟨r,k1,k2,k3⟩:=t71_l2 k L v1 hl h0 j (v - 1) (by omega) (by omega) (by omega)
    exact⟨r,k1,by omega,by omega⟩
  ·rw[decide_eq_false hv]
   exact⟨v,rfl,by omega,by omega⟩
structure Fine (y:GItem):Prop where
 width:y.kind=1\/y.kind=2\/y.kind=3 -> -1099511627776<=y.width/\y.width<=1099511627776
 glue:y.kind=3->(0<=y.stretch/\y.stretch<=67108864)/\0<=y.shrink/\y.shrink<=67108864
 pen:y.kind=4->0<=y.width/\y.width<=1099511627776
 val:y.kind=4 -> -10000<=y.value
theorem fine_of {L:List GItem} (h:∀ t y,L[t]? = some y->Good y (prevOf L t) (nextOf L t)) {t:Nat} {y:GItem} (hy:L[t]? = some y):Fine y:=by
 have g:=h t y hy
 refine⟨λ hk=>?_,λ hk=>?_,g.pen,g.val⟩
 ·rcases hk with hk | hk | hk
  ·have:=g.box hk; omega
  ·obtain⟨k1,k2,k3,k4⟩:=g.kern hk
   have hp:0<=(prevOf L t).width/\(prevOf L t).width<=1099511627776:=by
    unfold prevOf at k1 ⊢
    by_cases h0:0 < t
    ·rw[if_pos h0] at k1 ⊢
     cases hz:L[t - 1]? with
     | none=>rw[hz] at k1; cases k1
     | some z=>
      rw[hz] at k1
      exact(h _ z hz).box k1
    ·rw[if_neg h0] at k1; cases k1
   have hn:0<=(nextOf L t).width/\(nextOf L t).width<=1099511627776:=by
    unfold nextOf at k2 ⊢
    cases hz:L[t+1]? with
    | none=>rw[hz] at k2; cases k2
    | some z=>
     rw[hz] at k2
     exact(h _ z hz).box k2
   split at k3
   ·rw[w_id (by omega) (by omega)] at k3; omega
   ·rw[w_id (by omega) (by omega)] at k3; omega
  ·have:=g.glue hk; omega
 ·have:=g.glue hk; omega
theorem t71_l3 (k:Nat) (M:List GItem) (hl:M.length<=4096) (hf:∀ (t:Nat) (y:GItem),M[t]? = some y->Fine y):∀ (j i:Nat) (a b c d e:Int),i<=M.length->M.length < j+i -> -1099511627776 * i<=a->a<=1099511627776 * i->0<=b->b<=67108864 * i->0<=c->c<=67108864 * i ->
  ∃ a' b' c' d' e',F51_l3 k M j i a b c d e=some (a',b',c',d',e') /\ -4503599627370496<=a'/\a'<=4503599627370496/\0<=b'/\b'<=274877906944/\0<=c'/\c'<=274877906944
 | 0,i,a,b,c,d,e,h1,h2,h3,h4,h5,h6,h7,h8=>by omega
 | j+1,i,a,b,c,d,e,h1,h2,h3,h4,h5,h6,h7,h8=>by
  unfold F51_l3
  by_cases hi:(i:Int) < M.length
  ·obtain⟨y,hy⟩:=at_of (L:=M) (i:=(i:Int)) (by omega) hi
   have fy:=hf _ y hy
   rw[decide_eq_true hi,cond_true,bindI_eq (by omega) hy]
   rw[w_id (n:=(i:Int)+1) (by omega) (by omega)]
   cases q1:(y.kind == 1) with
   | true=>
    have wy:=fy.width (.inl (eq_of_beq q1))
    rw[w_id (n:=a+y.width) (by omega) (by omega)]
    exact t71_l3 k M hl hf j (i+1) _ _ _ _ _ (by omega) (by omega) (by omega) (by omega) (by omega) (by omega) (by omega) (by omega)
   | false=>
   cases q2:(y.kind == 2) with
   | true=>
    have wy:=fy.width (.inr (.inl (eq_of_beq q2)))
    rw[w_id (n:=a+y.width) (by omega) (by omega)]
    exact t71_l3 k M hl hf j (i+1) _ _ _ _ _ (by omega) (by omega) (by omega) (by omega) (by omega) (by omega) (by omega) (by omega)
   | false=>
   cases q3:(y.kind == 3) with
   | true=>
    have wy:=fy.width (.inr (.inr (eq_of_beq q3)))
    have gy:=fy.glue (eq_of_beq q3)
    rw[w_id (n:=a+y.width) (by omega) (by omega),w_id (n:=b+y.stretch) (by omega) (by omega),w_id (n:=c+y.shrink) (by omega) (by omega)]
    exact t71_l3 k M hl hf j (i+1) _ _ _ _ _ (by omega) (by omega) (by omega) (by omega) (by omega) (by omega) (by omega) (by omega)
   | false=>exact t71_l3 k M hl hf j (i+1) _ _ _ _ _ (by omega) (by omega) (by omega) (by omega) (by omega) (by omega) (by omega) (by omega)
  ·rw[decide_eq_false hi]
   exact⟨a,b,c,d,e,rfl,by omega,by omega,by omega,by omega,by omega,by omega⟩
theorem t106 (k:Nat) (x:Int) (h:100<=x) (h':x<=1000):∃ r,F91 k x=some r/\100<=r:=by
 unfold F91
 refine⟨_,rfl,?_⟩
 have a1:100 * 100<=x * x:=Int.mul_le_mul h h (by omega) (by omega)
 have a2:x * x<=1000 * 1000:=Int.mul_le_mul h' h' (by omega) (by omega)
 have a3:10000 * 100<=x * x * x:=Int.mul_le_mul (by omega) h (by omega) (by omega)
 have a4:x * x * x<=1000000 * 1000:=Int.mul_le_mul (by omega) h' (by omega) (by omega)
 rw[w_id (n:=x * x) (by omega) (by omega),w_id (n:=x * x * x) (by omega) (by omega),Int.tdiv_eq_ediv_of_nonneg (by omega)]
 rw[w_id (n:=x * x * x / 10000) (by omega) (by omega)]
 split <;> omega
def Keeps (x:GLine):Prop:=x.over_=false->x.bad < 100->w (0 - x.short)<=x.shrink/\(x.end_=true\/x.short<=x.stretch)
theorem t95 (k:Nat) (x:GLine) (hs:0<=x.stretch) (hs':x.stretch<=274877906944) (hk:0<=x.shrink) (hk':x.shrink<=274877906944) (ht : -9007199254740992<=x.short) (ht':x.short<=9007199254740992) :
  ∃ r,F76 k x=some r/\Keeps r:=by
 unfold F76
 have e106:∀ y,∃ r,F91 k y=some r:=λ y=>⟨_,rfl⟩
 rw[w_id (n:=0 - x.shrink) (by omega) (by omega),w_id (n:=0 - x.short) (by omega) (by omega)]
 by_cases h1:x.short < 0
 ·rw[decide_eq_true h1]
  by_cases h2:x.short < 0 - x.shrink
  ·rw[decide_eq_true h2]
   exact⟨_,rfl,λ h=>by cases h⟩
  ·rw[decide_eq_false h2]
   have h3:(x.short == 0)=false:=by rw[beq_eq_false_iff_ne]; omega
   have h4:decide (x.short > 0)=false:=decide_eq_false (by omega)
   rw[h3,h4]
   obtain⟨q,hq⟩:=e106 (w (Int.tdiv (w (100 * (0 - x.short))) x.shrink))
   have keep:∀ b c,Keeps (GLine.mk x.first x.last x.break_ x.natural x.stretch x.shrink x.short b c x.over_ x.hyphen x.end_ x.height x.depth):=λ b c _ _=>
    ⟨by show w (0 - x.short)<=x.shrink; rw[w_id (by omega) (by omega)]; omega,.inr (by show x.short<=x.stretch; omega)⟩
   simp only[cond_true,cond_false,Option.bind_some,bindD,if_neg (show ¬ x.shrink=0 by omega),hq]
   cases decide (w (Int.tdiv (w (100 * (0 - x.short))) x.shrink) > 50)
   ·exact⟨_,rfl,keep _ _⟩
   ·exact⟨_,rfl,keep _ _⟩
 ·rw[decide_eq_false h1]
  have k1:w (0 - x.short)<=x.shrink:=by rw[w_id (by omega) (by omega)]; omega
  by_cases h3:x.short=0
  ·have h3':(x.short == 0)=true:=by rw[h3]; rfl
   rw[h3']
   exact⟨_,rfl,λ _ _=>⟨k1,.inr (by show x.short<=x.stretch; omega)⟩⟩
  ·have h3':(x.short == 0)=false:=by rw[beq_eq_false_iff_ne]; exact h3
   rw[h3',decide_eq_true (show x.short > 0 by omega)]
   cases he:x.end_ with
   | true=>exact⟨_,rfl,λ _ _=>⟨k1,.inl rfl⟩⟩
   | false=>
   by_cases h4:x.stretch=0
   ·have h4':(x.stretch == 0)=true:=by rw[h4]; rfl
    rw[h4']
    exact⟨_,rfl,λ _ h=>by have h':(10000:Int) < 100:=h; omega⟩
   ·have h4':(x.stretch == 0)=false:=by rw[beq_eq_false_iff_ne]; exact h4
    rw[h4']
    have d0:0<=100 * x.short / x.stretch:=Int.ediv_nonneg (by omega) (by omega)
    have d1:100 * x.short / x.stretch<=100 * x.short:=Int.ediv_le_self _ (by omega)
    have ew:w (Int.tdiv (w (100 * x.short)) x.stretch)=100 * x.short / x.stretch:=by
     rw[w_id (n:=100 * x.short) (by omega) (by omega),Int.tdiv_eq_ediv_of_nonneg (by omega),w_id (by omega) (by omega)]
    rw[ew]
    generalize hd:(if 1000 < 100 * x.short / x.stretch then(1000:Int) else 100 * x.short / x.stretch)=d
    obtain⟨q,hq⟩:=e106 d
    have keep:∀ c,Keeps (GLine.mk x.first x.last x.break_ x.natural x.stretch x.shrink x.short q c x.over_ x.hyphen false x.height x.depth):=λ c _ hb=>by
     refine⟨k1,.inr ?_⟩
     show x.short<=x.stretch
     by_cases h5:x.short<=x.stretch
     ·exact h5
     ·exfalso
      have h6:100<=100 * x.short / x.stretch:=(Int.le_ediv_iff_mul_le (by omega)).2 (by omega)
      obtain⟨r,hr,hr'⟩:=t106 k d (by rw[<- hd]; split <;> omega) (by rw[<- hd]; split <;> omega)
      rw[hq] at hr; cases hr
      have hb':q < 100:=hb
      omega
    simp only[cond_true,cond_false,Option.bind_some,bindD,if_neg h4,hq]
    cases decide (d<=50) with
    | true=>exact⟨_,rfl,keep _⟩
    | false=>
     cases decide (d<=100) with
     | true=>exact⟨_,rfl,keep _⟩
     | false=>exact⟨_,rfl,keep _⟩
theorem t71 (k:Nat) (L:List GItem) (a1 a2 a3:Int) (hl:L.length<=4096) (hk:L.length < k) (hf:∀ (t:Nat) (y:GItem),L[t]? = some y->Fine y) (h1:1<=a1) (h1':a1<=536870912) (h2 : -1<=a2) (h3:a2 < a3) (h4:a3 < L.length) :
  ∃ r,F51 k L a1 a2 a3=some r/\Keeps r:=by
 unfold F51
 rw[w_id (n:=a2+1) (by omega) (by omega)]
 obtain⟨v1,e1,k1,k2⟩:=t71_l1 k L a3 hl h4 k (a2+1) (by omega) (by omega) (by omega)
 rw[e1,Option.bind_some]
 obtain⟨v7,e2,k3,k4⟩:=t71_l2 k L v1 hl (by omega) k a3 (by omega) (by omega) (by omega)
 rw[e2,Option.bind_some]
 unfold bindS
 rw[if_pos ⟨by omega,by omega,by omega⟩]
 obtain⟨a,b,c,d,e,e3,b1,b2,b3,b4,b5,b6⟩:=t71_l3 k ((L.take v7.toNat).drop v1.toNat) (by simp; omega) (λ t y hy=>by
  rw[List.getElem?_drop,List.getElem?_take] at hy
  split at hy
  ·exact hf _ y hy
  ·cases hy) k 0 0 0 0 0 0 (by omega) (by simp; omega) (by omega) (by omega) (by omega) (by omega) (by omega) (by omega)
 have e3':F51_l3 k ((L.take v7.toNat).drop v1.toNat) k 0 0 0 0 0 0=some (a,b,c,d,e):=e3
 dsimp only
 rw[e3',Option.bind_some]
 dsimp only
 obtain⟨y,hy⟩:=at_of (L:=L) (i:=a3) (by omega) h4
 rw[bindI_eq (by omega) hy]
 have fin:∀ (n:Int) (f g:Bool) (u v:Int),-4503599627370496<=n->n<=4504699139000000->∃ r,(F76 k (GLine.mk v1 v7 a3 n b c (w (a1 - n)) 0 0 false f g u v)).bind (λ r51=>some r51)=some r/\Keeps r:=by
  intro n f g u v n1 n2
  rw[w_id (n:=a1 - n) (by omega) (by omega)]
  obtain⟨r,hr,hr'⟩:=t95 k (GLine.mk v1 v7 a3 n b c (a1 - n) 0 0 false f g u v) b3 b4 b5 b6 (by show _<=a1 - n; omega) (by show a1 - n<=_; omega)
  rw[hr]
  exact⟨r,rfl,hr'⟩
 cases q:(y.kind == 4) with
 | false=>exact fin _ _ _ _ _ (by omega) (by omega)
 | true=>
  obtain⟨r,hr⟩:=t70 k y
  have:=(hf _ y hy).pen (eq_of_beq q)
  have ew:=w_id (n:=a+y.width) (by omega) (by omega)
  rw[cond_true,hr,Option.bind_some]
  cases hy':y.flag with
  | false=>rw[cond_false,Option.bind_some]; exact fin (w (a+y.width)) _ _ _ _ (by omega) (by omega)
  | true=>rw[cond_true,Option.bind_some]; exact fin (w (a+y.width)) _ _ _ _ (by omega) (by omega)
theorem x70 (k:Nat) (y:GItem):F75 k y=some (y.kind == 4 && decide (y.value <= -10000)):=by
 unfold F75
 cases (y.kind == 4) <;> rfl
def tailOf (y:GItem) (n u v:Int):Int×Bool×Bool×Int×Int:=
 bif y.kind == 4 then(w (n+y.width),y.flag,decide (y.value <= -10000),(bif y.flag then(if y.height > u then y.height else u) else u),(bif y.flag then(if y.depth > v then y.depth else v) else v)) else(n,false,false,u,v)
structure Core (k:Nat) (L:List GItem) (a2 a3 v1 v7 n b c u v:Int) (y:GItem):Prop where
 lo:a2+1<=v1
 mid:v1<=v7
 hi:v7<=a3
 first:v1 < v7->∃ z,L[v1.toNat]? = some z/\z.kind=1
 last:v1 < v7->∃ z,L[(v7 - 1).toNat]? = some z/\z.kind=1
 sum:F51_l3 k ((L.take v7.toNat).drop v1.toNat) k 0 0 0 0 0 0=some (n,b,c,u,v)
 n1 : -4503599627370496<=n
 n2:n<=4503599627370496
 b1:0<=b
 b2:b<=274877906944
 c1:0<=c
 c2:c<=274877906944
 at_:L[a3.toNat]? = some y
 eq:∀ a1,F51 k L a1 a2 a3=F76 k (GLine.mk v1 v7 a3 (tailOf y n u v).1 b c (w (a1 - (tailOf y n u v).1)) 0 0 false (tailOf y n u v).2.1 (tailOf y n u v).2.2.1 (tailOf y n u v).2.2.2.1 (tailOf y n u v).2.2.2.2)
theorem first_l1 (k:Nat) (L:List GItem) (a3:Int) (hl:L.length<=4096) (h3:a3 < L.length):∀ (j:Nat) (v r:Int),0<=v->v<=a3->F51_l1 k L a3 j v=some r->r < a3->∃ z,L[r.toNat]? = some z/\z.kind=1
 | 0,v,r,h0,h1,h,hr=>by cases h
 | j+1,v,r,h0,h1,h,hr=>by
  unfold F51_l1 at h
  by_cases hv:v < a3
  ·obtain⟨y,hy⟩:=at_of (L:=L) (i:=v) (by omega) (by omega)
   rw[decide_eq_true hv,cond_true,bindI_eq (by omega) hy,Option.bind_some] at h
   cases hk:(y.kind != 1) with
   | false=>
    rw[hk] at h
    cases h
    exact⟨y,hy,by simpa [bne] using hk⟩
   | true=>
    rw[hk,cond_true,w_id (n:=v+1) (by omega) (by omega)] at h
    exact first_l1 k L a3 hl h3 j (v+1) r (by omega) (by omega) h hr
  ·rw[decide_eq_false hv] at h
   cases h
   omega
theorem last_l2 (k:Nat) (L:List GItem) (v1:Int) (hl:L.length<=4096) (h0:0<=v1):∀ (j:Nat) (v r:Int),v1<=v->v<=L.length->F51_l2 k L v1 j v=some r->v1 < r->∃ z,L[(r - 1).toNat]? = some z/\z.kind=1
 | 0,v,r,h1,h3,h,hr=>by cases h
 | j+1,v,r,h1,h3,h,hr=>by
  unfold F51_l2 at h
  by_cases hv:v > v1
  ·obtain⟨y,hy⟩:=at_of (L:=L) (i:=v - 1) (by omega) (by omega)
   rw[decide_eq_true hv,cond_true,w_id (n:=v - 1) (by omega) (by omega),bindI_eq (by omega) hy,Option.bind_some] at h
   cases hk:(y.kind != 1) with
   | false=>
    rw[hk] at h
    cases h
    exact⟨y,hy,by simpa [bne] using hk⟩
   | true=>
    rw[hk,cond_true] at h
    exact last_l2 k L v1 hl h0 j (v - 1) r (by omega) (by omega) h hr
  ·rw[decide_eq_false hv] at h
   cases h
   omega
theorem core_of (k:Nat) (L:List GItem) (a2 a3:Int) (hl:L.length<=4096) (hk:L.length < k) (hf:∀ (t:Nat) (y:GItem),L[t]? = some y->Fine y) (h2 : -1<=a2) (h3:a2 < a3) (h4:a3 < L.length) :
  ∃ v1 v7 n b c u v y,Core k L a2 a3 v1 v7 n b c u v y:=by
 obtain⟨v1,e1,k1,k2⟩:=t71_l1 k L a3 hl h4 k (a2+1) (by omega) (by omega) (by omega)
 obtain⟨v7,e2,k3,k4⟩:=t71_l2 k L v1 hl (by omega) k a3 (by omega) (by omega) (by omega)
 obtain⟨a,b,c,d,e,e3,b1,b2,b3,b4,b5,b6⟩:=t71_l3 k ((L.take v7.toNat).drop v1.toNat) (by simp; omega) (λ t y hy=>by
  rw[List.getElem?_drop,List.getElem?_take] at hy
  split at hy
  ·exact hf _ y hy
  ·cases hy) k 0 0 0 0 0 0 (by omega) (by simp; omega) (by omega) (by omega) (by omega) (by omega) (by omega) (by omega)
 have e3':F51_l3 k ((L.take v7.toNat).drop v1.toNat) k 0 0 0 0 0 0=some (a,b,c,d,e):=e3
 obtain⟨y,hy⟩:=at_of (L:=L) (i:=a3) (by omega) h4
 refine⟨v1,v7,a,b,c,d,e,y,k1,k3,k4,λ h=>first_l1 k L a3 hl h4 k (a2+1) v1 (by omega) (by omega) e1 (by omega),λ h=>last_l2 k L v1 hl (by omega) k a3 v7 (by omega) (by omega) e2 h,e3',b1,b2,b3,b4,b5,b6,hy,λ a1=>?_⟩
 unfold F51
 rw[w_id (n:=a2+1) (by omega) (by omega),e1,Option.bind_some,e2,Option.bind_some]
 unfold bindS
 rw[if_pos ⟨by omega,by omega,by omega⟩]
 dsimp only
 rw[e3',Option.bind_some]
 dsimp only
 rw[bindI_eq (by omega) hy]
 unfold tailOf
 have fin:∀ x:Option GLine,(x.bind λ r51=>some r51)=x:=λ x=>by cases x <;> rfl
 cases q:(y.kind == 4) with
 | false=>simp only[cond_false,Option.bind_some,fin]
 | true=>
  simp only[x70,q,Bool.true_and,cond_true,Option.bind_some]
  cases hy':y.flag with
  | false=>simp only[cond_false,Option.bind_some,fin]
  | true=>simp only[cond_true,Option.bind_some,fin]
structure Legal (k:Nat) (L:List GItem) (a1 a2 a3:Int):Prop where
 len:L.length<=4096
 fine:∀ (t:Nat) (y:GItem),L[t]? = some y->Fine y
 w1:1<=a1
 w2:a1<=536870912
 f1 : -1<=a2
 f2:a2 < a3
 f3:a3 < L.length
 to_:F71 k L a3=some true
 from_:a2>=0->F71 k L a2=some true
 free:F74_75 k ((L.take a3.toNat).drop (a2+1).toNat)=some false
 chk:F21 k L=some 0
theorem g34 (k:Nat) (L:List GItem) (a1 a2 a3:Int) (h:Legal k L a1 a2 a3):F59 k L a1 a2 a3=(F51 k L a1 a2 a3).bind λ r=>some (r,0):=by
 have h1:=h.len; have h2:=h.w1; have h3:=h.w2; have h4:=h.f1; have h5:=h.f2; have h6:=h.f3
 unfold F59
 rw[h.chk,Option.bind_some,decide_eq_false (show ¬ a1 < 1 by omega),decide_eq_false (show ¬ a1 > 536870912 by omega),decide_eq_false (show ¬ a2 < -1 by omega),decide_eq_false (show ¬ a2>=a3 by omega),decide_eq_false (show ¬ a3>=L.length by omega),h.to_,w_id (n:=a2+1) (by omega) (by omega)]
 unfold bindS
 rw[if_pos ⟨by omega,by omega,by omega⟩]
 dsimp only
 rw[h.free]
 by_cases h7:a2>=0
 ·rw[decide_eq_true h7,h.from_ h7]; rfl
 ·rw[decide_eq_false h7]; rfl
theorem free_l1 (k:Nat) (L:List GItem) (hl:L.length<=4096):∀ (j i:Nat),i<=L.length->L.length < j+i->(∀ (t:Nat) (y:GItem),i<=t->L[t]? = some y->(y.kind == 4 && decide (y.value <= -10000))=false)->F90_75_l1 k L j i=some (.inl ())
 | 0,i,h1,h2,h=>by omega
 | j+1,i,h1,h2,h=>by
  unfold F90_75_l1
  by_cases hi:(i:Int) < L.length
  ·obtain⟨y,hy⟩:=at_of (L:=L) (i:=(i:Int)) (by omega) hi
   rw[decide_eq_true hi,cond_true,bindI_eq (by omega) hy,x70,h (i:Int).toNat y (by omega) hy,Option.bind_some,cond_false,w_id (n:=(i:Int)+1) (by omega) (by omega)]
   exact free_l1 k L hl j (i+1) (by omega) (by omega) λ t y ht=>h t y (by omega)
  ·rw[decide_eq_false hi]; rfl
theorem unfree_l1 (k:Nat) (L:List GItem) (hl:L.length<=4096):∀ (j i:Nat),F90_75_l1 k L j i=some (.inl ())->∀ (t:Nat) (y:GItem),i<=t->L[t]? = some y->(y.kind == 4 && decide (y.value <= -10000))=false
 | 0,i,h,t,y,ht,hy=>by cases h
 | j+1,i,h,t,y,ht,hy=>by
  have htl:=lt_of_get hy
  unfold F90_75_l1 at h
  obtain⟨z,hz⟩:=at_of (L:=L) (i:=(i:Int)) (by omega) (by omega)
  rw[decide_eq_true (show(i:Int) < L.length by omega),cond_true,bindI_eq (by omega) hz,x70,Option.bind_some,w_id (n:=(i:Int)+1) (by omega) (by omega)] at h
  cases hq:(z.kind == 4 && decide (z.value <= -10000)) with
  | true=>rw[hq] at h; cases h
  | false=>
   rw[hq,cond_false] at h
   by_cases hti:t=i
   ·subst hti
    rw[show(t:Int).toNat=t by omega] at hz
    rw[hy] at hz; cases hz; exact hq
   ·exact unfree_l1 k L hl j (i+1) h t y (by omega) hy
theorem no_inr (k:Nat) (L:List GItem):∀ (j:Nat) (i n:Int),0<=i->i+j < 9223372036854775807->F90_75_l1 k L j i=some (.inr n)->0<=n
 | 0,i,n,h0,hb,h=>by cases h
 | j+1,i,n,h0,hb,h=>by
  unfold F90_75_l1 at h
  cases hc:decide (i < (L.length:Int)) with
  | false=>rw[hc] at h; cases h
  | true=>
   rw[hc,cond_true] at h
   obtain⟨y,_,_,h⟩:=bindI_some h
   obtain⟨b,_,h⟩:=bind_some h
   cases b with
   | true=>cases h; exact h0
   | false=>
    rw[cond_false,w_id (n:=i+1) (by omega) (by omega)] at h
    exact no_inr k L j (i+1) n (by omega) (by omega) h
theorem free_of (k:Nat) (L:List GItem) (hl:L.length<=4096) (hk:L.length < k) (h:∀ (t:Nat) (y:GItem),L[t]? = some y->(y.kind == 4 && decide (y.value <= -10000))=false):F74_75 k L=some false:=by
 unfold F74_75 F90_75
 have:=free_l1 k L hl k 0 (by omega) (by omega) λ t y _=>h t y
 have h':F90_75_l1 k L k 0=some (.inl ()):=this
 rw[h']; rfl
theorem unfree (k:Nat) (L:List GItem) (hl:L.length<=4096) (hk:(k:Int) < 9223372036854775807) (h:F74_75 k L=some false):∀ (t:Nat) (y:GItem),L[t]? = some y->(y.kind == 4 && decide (y.value <= -10000))=false:=by
 unfold F74_75 F90_75 at h
 obtain⟨r,hr,h⟩:=bind_some h
 obtain⟨q,hq,hr⟩:=bind_some hr
 cases q with
 | inl u=>exact λ t y hy=>unfree_l1 k L hl k 0 hq t y (by omega) hy
 | inr n=>
  have:=no_inr k L k 0 n (by omega) (by omega) hq
  have e:some n=some r:=hr
  cases e
  have h':some (decide (r>=0))=some false:=h
  rw[decide_eq_true this] at h'
  cases h'
theorem same_pen {y:GItem} (hf:Fine y):(y.kind == 4 && (y.value == -10000))=(y.kind == 4 && decide (y.value <= -10000)):=by
 cases q:(y.kind == 4) with
 | false=>rfl
 | true=>
  have:=hf.val (eq_of_beq q)
  rw[Bool.true_and,Bool.true_and,Bool.eq_iff_iff]
  simp
  omega
def frc (y:GItem):Bool:=y.kind == 4 && decide (y.value <= -10000)
theorem x69 (k:Nat) (L:List GItem) (hl:L.length<=4096) (hk:L.length < k) (hk':(k:Int) < 9223372036854775807):F74_75 k L=some (L.any frc):=by
 cases h:L.any frc with
 | false=>
  refine free_of k L hl hk λ t y hy=>?_
  have:=List.any_eq_false.1 h y (List.mem_of_getElem? hy)
  simpa [frc] using this
 | true=>
  obtain⟨r,hr⟩:=t69 k L hl hk
  cases r with
  | true=>exact hr
  | false=>
   have:=unfree k L hl hk' hr
   obtain⟨y,hm,hy⟩:=List.any_eq_true.1 h
   obtain⟨t,ht,e⟩:=List.mem_iff_getElem.1 hm
   have:=this t y (by rw[List.getElem?_eq_getElem ht,e])
   rw[show frc y=(y.kind == 4 && decide (y.value <= -10000)) from rfl,this] at hy
   cases hy
theorem chk_last (k:Nat) (L:List GItem) (hl:L.length<=4096) (h:F21 k L=some 0) (h0:0 < L.length):∃ y,L[L.length - 1]? = some y/\frc y=true:=by
 unfold F21 at h
 rw[decide_eq_false (show ¬ (L.length:Int) > 4096 by omega),cond_false] at h
 obtain⟨q,hq,h⟩:=bind_some h
 cases q with
 | inr n=>
  have hn:n=0:=by simpa using h
  subst hn
  exact absurd hq (t64_no k L k 0 0)
 | inl u=>
  obtain⟨y,hy⟩:=at_of (L:=L) (i:=(L.length:Int) - 1) (by omega) (by omega)
  simp only[Sum.elim_inl] at h
  rw[decide_eq_true (show(L.length:Int) > 0 by omega),cond_true,w_id (n:=(L.length:Int) - 1) (by omega) (by omega),bindI_eq (by omega) hy,bindI_eq (by omega) hy] at h
  refine⟨y,by rw[show((L.length:Int) - 1).toNat=L.length - 1 by omega] at hy; exact hy,?_⟩
  cases hk:(y.kind != 4) with
  | true=>rw[hk] at h; cases h
  | false=>
   rw[hk] at h
   cases hv:(y.value != (-10000)) with
   | true=>rw[hv] at h; cases h
   | false=>
    have e1:y.kind=4:=by simpa [bne] using hk
    have e2:y.value = -10000:=by simpa [bne] using hv
    unfold frc
    rw[e1,e2]; rfl
theorem frc_legal (k:Nat) (L:List GItem) (i:Nat) (y:GItem) (hy:L[i]? = some y) (h:frc y=true):F71 k L i=some true:=by
 have h4:(y.kind == 4)=true:=by
  unfold frc at h
  cases e:(y.kind == 4) with
  | true=>rfl
  | false=>rw[e] at h; cases h
 have h3:(y.kind == 3)=false:=by
  have:=eq_of_beq h4
  rw[this]; rfl
 have hv:y.value < 10000:=by
  unfold frc at h
  rw[h4,Bool.true_and,decide_eq_true_iff] at h
  omega
 have hy':L[(i:Int).toNat]? = some y:=by rw[show(i:Int).toNat=i by omega]; exact hy
 unfold F71
 rw[bindI_eq (by omega) hy',h3,cond_false,h4,cond_true,bindI_eq (by omega) hy',decide_eq_true hv]
theorem r30 (k:Nat):∀ (A acc:List Int),acc.length+A.length<=100000->F18_r1 k A acc=some (acc++A)
 | [],acc,_=>by rw[F18_r1]; simp
 | y :: A,acc,h=>by
  simp only[List.length_cons] at h
  rw[F18_r1]
  unfold bindA
  rw[if_pos (by simp; omega)]
  dsimp only
  rw[r30 k A (acc++[y]) (by simp; omega),List.append_assoc]
  rfl
theorem keep0:Keeps (GLine.mk 0 0 0 0 0 0 0 0 0 false false false 0 0):=λ _ _=>⟨by rw[w_id (by decide) (by decide)]; decide,.inr (by decide)⟩
theorem t34 (k:Nat) (L:List GItem) (a1 a2 a3:Int) (hk:L.length < k):∃ r,F59 k L a1 a2 a3=some r/\(r.2=0->Keeps r.1):=by
 unfold F59
 obtain⟨r,hr,hg⟩:=t64 k L hk
 rw[hr,Option.bind_some]
 have bad:∃ r:GLine×Int,(some ((GLine.mk 0 0 0 0 0 0 0 0 0 false false false 0 0),1):Option (GLine×Int))=some r/\(r.2=0->Keeps r.1):=⟨_,rfl,λ _=>keep0⟩
 by_cases h0:r=0
 ·obtain⟨hl,g⟩:=hg h0
  have hf:∀ (t:Nat) (y:GItem),L[t]? = some y->Fine y:=λ t y hy=>fine_of g hy
  have h0':(r != 0)=false:=by rw[h0]; rfl
  rw[h0']
  by_cases h1:a1 < 1
  ·rw[decide_eq_true h1]; exact bad
  rw[decide_eq_false h1]
  by_cases h2:a1 > 536870912
  ·rw[decide_eq_true h2]; exact bad
  rw[decide_eq_false h2]
  by_cases h3:a2 < -1
  ·rw[decide_eq_true h3]; exact bad
  rw[decide_eq_false h3]
  by_cases h4:a2>=a3
  ·rw[decide_eq_true h4]; exact bad
  rw[decide_eq_false h4]
  by_cases h5:a3>=L.length
  ·rw[decide_eq_true h5]; exact bad
  rw[decide_eq_false h5]
  obtain⟨b,hb⟩:=t68 k L a3 (by omega) (by omega) hl
  rw[hb]
  obtain⟨x,hx,hx'⟩:=t71 k L a1 a2 a3 hl hk hf (by omega) (by omega) (by omega) (by omega) (by omega)
  have good:∃ r:GLine×Int,(bindS L (w (a2+1)) a3 λ l9=>(F74_75 k l9).bind λ r43=>bif r43 then(some ((GLine.mk 0 0 0 0 0 0 0 0 0 false false false 0 0),1)) else((F51 k L a1 a2 a3).bind λ r46=>some (r46,0)))=some r/\(r.2=0->Keeps r.1):=by
   rw[w_id (by omega) (by omega)]
   unfold bindS
   rw[if_pos ⟨by omega,by omega,by omega⟩]
   obtain⟨q,hq⟩:=t69 k ((L.take a3.toNat).drop (a2+1).toNat) (by simp; omega) (by simp; omega)
   dsimp only
   rw[hq,Option.bind_some,hx]
   cases q with
   | true=>exact bad
   | false=>exact⟨_,rfl,λ _=>hx'⟩
  cases b with
  | false=>exact bad
  | true=>
   by_cases h6:a2>=0
   ·rw[decide_eq_true h6]
    obtain⟨c,hc⟩:=t68 k L a2 (by omega) (by omega) hl
    rw[hc]
    cases c with
    | false=>exact bad
    | true=>exact good
   ·rw[decide_eq_false h6]
    exact good
 ·have h0':(r != 0)=true:=by rw[bne_iff_ne]; exact h0
  rw[h0']
  exact bad
end
end Go.Eng.Lift
