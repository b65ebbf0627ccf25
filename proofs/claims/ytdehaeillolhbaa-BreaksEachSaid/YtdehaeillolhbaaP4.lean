/-
  Layer 15: of few legal breaks all ways are asked.
-/
import Derived.Test.YtdehaeillolhbaaP3
set_option maxRecDepth 10000
namespace Go.Eng.Lift
open Go.Proofs
noncomputable section
theorem c13_l1 (k:Nat) (A B:List Int) (hAB:A.length=B.length) (hA:A.length<=100000):∀ (j n:Nat),n<=A.length->A.length < j+n->∃ r,F13_l1 k A B j n=some r/\(r=.inl ()/\A.drop n=B.drop n\/r=.inr false/\A.drop n≠B.drop n)
 | 0,n,_,h=>by omega
 | j+1,n,h1,h2=>by
  unfold F13_l1
  by_cases hn:n < A.length
  ·have ea:A.drop n=A[n] :: A.drop (n+1):=List.drop_eq_getElem_cons hn
   have eb:B.drop n=B[n] :: B.drop (n+1):=List.drop_eq_getElem_cons (by omega)
   have hA':∀ {β:Type} (f:Int->Option β),bindI A n f=f A[n]:=λ f=>bindI_eq (by omega) (by rw[show((n:Int)).toNat=n by omega]; exact List.getElem?_eq_getElem hn)
   have hB':∀ {β:Type} (f:Int->Option β),bindI B n f=f B[n]:=λ f=>bindI_eq (by omega) (by rw[show((n:Int)).toNat=n by omega]; exact List.getElem?_eq_getElem (by omega))
   rw[decide_eq_true (show(n:Int) < (A.length:Int) by omega),cond_true]
   simp only[hA',hB']
   rw[ea,eb]
   by_cases e:A[n]=B[n]
   ·rw[show(A[n] != B[n])=false by rw[e]; simp,cond_false,w_id (by omega) (by omega),show(n:Int)+1=((n+1:Nat):Int) by omega]
    obtain⟨r,e1,e2⟩:=c13_l1 k A B hAB hA j (n+1) (by omega) (by omega)
    refine⟨r,e1,?_⟩
    rcases e2 with⟨e2,e3⟩ | ⟨e2,e3⟩
    ·exact .inl ⟨e2,by rw[e,e3]⟩
    ·exact .inr ⟨e2,λ h=>e3 (List.cons.inj h).2⟩
   ·rw[show(A[n] != B[n])=true from bne_iff_ne.mpr e,cond_true]
    exact⟨_,rfl,.inr ⟨rfl,λ h=>e (List.cons.inj h).1⟩⟩
  ·rw[decide_eq_false (show ¬ (n:Int) < (A.length:Int) by omega),cond_false]
   exact⟨_,rfl,.inl ⟨rfl,by rw[List.drop_eq_nil_of_le (by omega),List.drop_eq_nil_of_le (by omega)]⟩⟩
theorem c13 (k:Nat) (A B:List Int) (hA:A.length<=100000) (hk:A.length < k):∃ r,F13 k A B=some r/\(r=true↔A=B):=by
 unfold F13
 by_cases h:(A.length:Int)=B.length
 ·rw[show((A.length:Int) != (B.length:Int))=false by rw[h]; simp,cond_false]
  obtain⟨r,e1,e2⟩:=c13_l1 k A B (by omega) hA k 0 (by omega) (by omega)
  have e1':F13_l1 k A B k 0=some r:=e1
  rw[e1']
  rw[List.drop_zero,List.drop_zero] at e2
  rcases e2 with⟨rfl,e3⟩ | ⟨rfl,e3⟩
  ·exact⟨true,rfl,λ _=>e3,λ _=>rfl⟩
  ·exact⟨false,rfl,λ h=>(by cases h),λ h=>absurd h e3⟩
 ·rw[show((A.length:Int) != (B.length:Int))=true from bne_iff_ne.mpr h,cond_true]
  exact⟨false,rfl,λ h=>(by cases h),λ e=>absurd (by rw[e]) h⟩
def bitC (n i:Nat):Bool:=band_i64 (Int.fdiv (n:Int) (2 ^ (min (Int.toNat (i:Int)) 64))) 1 == 1
theorem bits_all:((List.range 256).all λ n=>(List.range 8).all λ i=>bitC n i == n.testBit i)=true:=by decide+kernel
theorem bits (n i:Nat) (hn:n < 256) (hi:i < 8):bitC n i=n.testBit i:=by
 have h1:=List.all_eq_true.1 bits_all n (List.mem_range.2 hn)
 have h2:=List.all_eq_true.1 h1 i (List.mem_range.2 hi)
 exact eq_of_beq h2
def pck (n:Nat):Nat->List Int->List Int
 | _,[]=>[]
 | i,x :: W=>bif n.testBit i then x :: pck n (i+1) W else pck n (i+1) W
theorem pck_eq (n n':Nat):∀ (W:List Int) (i i':Nat),(∀ j,j < W.length->n.testBit (i+j)=n'.testBit (i'+j))->pck n i W=pck n' i' W
 | [],_,_,_=>rfl
 | x :: W,i,i',h=>by
  have h0:=h 0 (by simp)
  have ih:=pck_eq n n' W (i+1) (i'+1) (λ j hj=>by
   have:=h (j+1) (by simpa using hj)
   rw[show i+1+j=i+(j+1) by omega,show i'+1+j=i'+(j+1) by omega]
   exact this)
  unfold pck
  rw[Nat.add_zero,Nat.add_zero] at h0
  rw[h0,ih]
theorem pck_len (n:Nat):∀ (W:List Int) (i:Nat),(pck n i W).length<=W.length
 | [],_=>Nat.le_refl _
 | x :: W,i=>by
  have:=pck_len n W (i+1)
  unfold pck
  cases n.testBit i with
  | true=>rw[cond_true,List.length_cons,List.length_cons]; omega
  | false=>rw[cond_false,List.length_cons]; omega
theorem pck_of:∀ (W B:List Int),B.Sublist W->∃ m,m < 2 ^ W.length/\pck m 0 W=B
 | [],B,h=>⟨0,by simp,by rw[List.sublist_nil.1 h]; rfl⟩
 | x :: W,B,h=>by
  cases h with
  | cons _ hs=>
   obtain⟨m,h1,h2⟩:=pck_of W B hs
   refine⟨2 * m,by rw[List.length_cons,Nat.pow_succ]; omega,?_⟩
   unfold pck
   rw[show(2 * m).testBit 0=false by rw[Nat.testBit_zero]; simp,cond_false,<- h2]
   exact pck_eq _ _ W 1 0 λ j hj=>by rw[Nat.zero_add,show 1+j=j+1 by omega,Nat.testBit_succ,show 2 * m / 2=m by omega]
  | cons_cons _ hs=>
   rename_i B
   obtain⟨m,h1,h2⟩:=pck_of W B hs
   refine⟨2 * m+1,by rw[List.length_cons,Nat.pow_succ]; omega,?_⟩
   unfold pck
   rw[show(2 * m+1).testBit 0=true by rw[Nat.testBit_zero]; simp,cond_true,<- h2]
   congr 1
   exact pck_eq _ _ W 1 0 λ j hj=>by rw[Nat.zero_add,show 1+j=j+1 by omega,Nat.testBit_succ,show(2 * m+1) / 2=m by omega]
theorem c6_r1 (k:Nat):∀ (A acc:List Int),acc.length+A.length<=100000->F6_r1 k A acc=some (acc++A)
 | [],acc,_=>by rw[List.append_nil]; rfl
 | x :: A,acc,h=>by
  rw[List.length_cons] at h
  show bindA 8 acc [x] _=_
  rw[bindA_eq (by simp only[List.length_singleton]; omega)]
  rw[c6_r1 k A (acc++[x]) (by rw[List.length_append,List.length_singleton]; omega),List.append_assoc]
  rfl
theorem c6_l3 (k:Nat) (W:List Int) (hW:W.length<=8) (n:Nat) (hn:n < 256):∀ (j i:Nat) (acc:List Int),i<=W.length->W.length < j+i->acc.length<=i->F6_l3 k W n j acc i=some (acc++pck n i (W.drop i))
 | 0,i,acc,_,h,_=>by omega
 | j+1,i,acc,h1,h2,h3=>by
  unfold F6_l3
  by_cases hi:i < W.length
  ·have ew:W.drop i=W[i] :: W.drop (i+1):=List.drop_eq_getElem_cons hi
   have hb:(band_i64 (Int.fdiv (n:Int) (2 ^ (min (Int.toNat (i:Int)) 64))) 1 == 1)=n.testBit i:=bits n i hn (by omega)
   rw[decide_eq_true (show(i:Int) < (W.length:Int) by omega),cond_true]
   unfold bindP
   rw[if_pos (by omega),hb,bindI_eq (by omega) (show W[((i:Int)).toNat]? = some W[i] by rw[show((i:Int)).toNat=i by omega]; exact List.getElem?_eq_getElem hi),ew]
   conv=>rhs; unfold pck
   cases n.testBit i with
   | true=>
    rw[cond_true,cond_true,bindA_eq (by simp only[List.length_singleton]; omega),Option.bind_some,w_id (by omega) (by omega),show(i:Int)+1=((i+1:Nat):Int) by omega,c6_l3 k W hW n hn j (i+1) _ (by omega) (by omega) (by rw[List.length_append,List.length_singleton]; omega),List.append_assoc]
    rfl
   | false=>
    rw[cond_false,cond_false,Option.bind_some,w_id (by omega) (by omega),show(i:Int)+1=((i+1:Nat):Int) by omega,c6_l3 k W hW n hn j (i+1) _ (by omega) (by omega) (by omega)]
  ·rw[decide_eq_false (show ¬ (i:Int) < (W.length:Int) by omega),cond_false,List.drop_eq_nil_of_le (by omega)]
   show some acc=some (acc++[])
   rw[List.append_nil]
theorem c6_l2 {k:Nat} {L:List GItem} {a b:Int} {W:List Int} (hw:WOK k L W) (hk:L.length < k) (hk2:100000 < k) (hk':(k:Int) < 9223372036854775807) (ha:1<=a) (ha':a<=536870912) (hb:0<=b) (hb':b<=10000) (hW:W.length<=8) (r:List Int×GCost×GFault×GMeter)
  (hF:Fwd k L (-1) r.1) (hc:r.2.1=GCost.mk (cB k L a b r.1.reverse) (cT k L a r.1.reverse) r.1.length) (hmin:∀ A,Fwd k L (-1) A->lx (key k L a b A.reverse) (key k L a b r.1.reverse)=false) :
  ∀ (j n:Nat) (v:Bool),n<=2 ^ W.length->2 ^ W.length < j+n->∃ t,F6_l2 k L a b W r j v n=some (.inl t)/\((v=true\/∃ m,n<=m/\m < 2 ^ W.length/\pck m 0 W=r.1)->t=true)
 | 0,n,v,_,h=>by omega
 | j+1,n,v,h1,h2=>by
  have h256:2 ^ W.length<=256:=Nat.pow_le_pow_right (n:=2) (by decide) hW
  have hp:w (1 * 2 ^ (min (Int.toNat (W.length:Int)) 64))=((2 ^ W.length:Nat):Int):=by
   rw[show min (Int.toNat (W.length:Int)) 64=W.length by omega,Int.one_mul,show((2:Int) ^ W.length)=((2 ^ W.length:Nat):Int) by rw[Int.natCast_pow]; rfl]
   exact w_id (by omega) (by omega)
  unfold F6_l2
  unfold bindP
  rw[if_pos (by omega),hp]
  by_cases hn:n < 2 ^ W.length
  ·rw[decide_eq_true (show(n:Int) < ((2 ^ W.length:Nat):Int) by omega),cond_true]
   have e3:=c6_l3 k W hW n (by omega) k 0 [] (by omega) (by omega) (by simp)
   rw[List.drop_zero,List.nil_append] at e3
   have e3':F6_l3 k W n k [] 0=some (pck n 0 W):=e3
   have hpl:=pck_len n W 0
   obtain⟨c1,c2⟩:=c22 hw hk hk' ha ha' hb hb' (pck n 0 W) (by omega) (by omega)
   have hrl:r.1.length<=L.length:=by have:=hF.len _ _ (by omega); omega
   have go:∀ t0:Bool,((v=true\/pck n 0 W=r.1)->t0=true)->∃ t,F6_l2 k L a b W r j t0 (w ((n:Int)+1))=some (.inl t)/\((v=true\/∃ m,n<=m/\m < 2 ^ W.length/\pck m 0 W=r.1)->t=true):=λ t0 ht0=>by
    rw[w_id (by omega) (by omega),show(n:Int)+1=((n+1:Nat):Int) by omega]
    obtain⟨t,e1,e2⟩:=c6_l2 hw hk hk2 hk' ha ha' hb hb' hW r hF hc hmin j (n+1) t0 (by omega) (by omega)
    refine⟨t,e1,λ h=>e2 ?_⟩
    rcases h with h | ⟨m,m1,m2,m3⟩
    ·exact .inl (ht0 (.inl h))
    ·by_cases e:m=n
     ·subst e; exact .inl (ht0 (.inr m3))
     ·exact .inr ⟨m,by omega,m2,m3⟩
   rw[e3']
   simp only[Option.bind_some]
   by_cases hf:Fwd k L (-1) (pck n 0 W)
   ·rw[c1 hf,Option.bind_some]
    simp only[show((0:Int) != 0)=false from rfl,cond_false]
    have e4:=c24 k L a b (pck n 0 W) r.1 (by omega) (by omega)
    rw[<- hc] at e4
    rw[e4,Option.bind_some,hmin _ hf,cond_false]
    obtain⟨g,g1,g2⟩:=c13 k (pck n 0 W) r.1 (by omega) (by omega)
    cases v with
    | true=>exact go true λ _=>rfl
    | false=>
     rw[cond_false,g1]
     exact go g λ h=>g2.2 (h.resolve_left (by simp))
   ·rw[c2 hf,Option.bind_some]
    simp only[show((1:Int) != 0)=true from rfl,cond_true]
    exact go v λ h=>by
     rcases h with h | h
     ·exact h
     ·exact absurd (by rw[h]; exact hF) hf
  ·rw[decide_eq_false (show ¬ (n:Int) < ((2 ^ W.length:Nat):Int) by omega),cond_false]
   refine⟨v,rfl,λ h=>?_⟩
   rcases h with h | ⟨m,m1,m2,_⟩
   ·exact h
   ·omega
theorem fwd_sub {k:Nat} {L:List GItem} {W:List Int} (h:WOK k L W):∀ (A:List Int) (f:Int) (B:List Int),Fwd k L f A->B.Pairwise (· < ·)->(∀ x∈B,f < x)->(∀ x∈W,f < x->x∈B) -> -1<=f->A.Sublist B
 | [],f,B,_,_,_,_,_=>List.nil_sublist _
 | t :: A,f,B,hF,hB,h1,h2,h0=>by
  obtain⟨f1,f2,f3,f4,f5⟩:=hF
  have htW:=h.all t.toNat (by omega) (by rw[show((t.toNat:Nat):Int)=t by omega]; exact f3)
  rw[show((t.toNat:Nat):Int)=t by omega] at htW
  have ht:=h2 t htW f1
  obtain⟨u,v,e⟩:=List.append_of_mem ht
  subst e
  have hp:=List.pairwise_append.1 hB
  have hp2:=List.pairwise_cons.1 hp.2.1
  have ih:=fwd_sub h A t v f5 hp2.2 (λ x hx=>hp2.1 x hx) (λ x hx hlt=>by
   rcases List.mem_append.1 (h2 x hx (by omega)) with h3 | h3
   ·have:=hp.2.2 x h3 t (List.mem_cons_self ..); omega
   ·rcases List.mem_cons.1 h3 with h4 | h4
    ·omega
    ·exact h4) (by omega)
  exact(ih.cons_cons t).trans (List.sublist_append_right u (t :: v))
theorem t6 (k:Nat) (L:List GItem) (a b:Int) (hk:4 * L.length+10 < k) (hk2:100000 < k) (hk':L.length<=4096->(k:Int) < 9223372036854775807):F6 k L a b=some true:=by
 obtain⟨V,hV,hVl⟩:=t18 k L (by omega)
 unfold F6 guardL
 rw[hV,Option.bind_some,show Nat.ble (V.length+2) 9223372036854775808=true by rw[Nat.ble_eq]; omega,cond_true,c6_r1 k V [] (by simp; omega),List.nil_append]
 simp only[Option.bind_some]
 by_cases h8:(V.length:Int) > 8
 ·rw[decide_eq_true h8]; rfl
 rw[decide_eq_false h8,cond_false]
 obtain⟨m,hm0,hm,m1,m2,m3⟩:=great15 k
 rw[hm0,Option.bind_some]
 obtain⟨r,hr,h⟩:=best k L a b m hm m1 m2 m3 hk
 rw[hr,Option.bind_some]
 rcases h with⟨h1,h2,_⟩ | ⟨h1,⟨ha,ha'⟩,⟨hb,hb'⟩,W,hW,hw,hF,hc,hmin⟩
 ·rw[show(r.2.2.1.kind != 0)=true from bne_iff_ne.mpr h1,cond_true,h2]; rfl
 ·have hl:=hw.len
  rw[hV] at hW; cases hW
  rw[show(r.2.2.1.kind != 0)=false by rw[h1]; rfl,cond_false]
  have hp:2 ^ V.length<=256:=Nat.pow_le_pow_right (n:=2) (by decide) (show V.length<=8 by omega)
  obtain⟨t,e1,e2⟩:=c6_l2 (W:=V) hw (by omega) hk2 (hk' hl) ha ha' hb hb' (by omega) r hF hc hmin k 0 false (Nat.zero_le _) (Nat.lt_of_le_of_lt hp (by omega))
  obtain⟨n,n1,n2⟩:=pck_of V r.1 (fwd_sub hw r.1 (-1) V hF hw.asc (λ x hx=>by have:=(hw.inn x hx).1; omega) (λ x hx _=>hx) (by omega))
  have ht:=e2 (.inr ⟨n,Nat.zero_le _,n1,n2⟩)
  subst ht
  have e1':F6_l2 k L a b V r k false 0=some (.inl true):=e1
  rw[e1']
  rfl
end
end Go.Eng.Lift
