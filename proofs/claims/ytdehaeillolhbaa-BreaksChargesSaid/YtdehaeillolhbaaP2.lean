/-
  Layer 15: the plain law of BreaksCharges.
-/
import Derived.Test.YtdehaeillolhbaaP1
set_option linter.unusedVariables false
set_option linter.unusedSimpArgs false
set_option maxRecDepth 10000
namespace Go.Eng.Lift
open Go.Proofs
noncomputable section
def Cls (x:GLine):Prop:=0<=x.class_/\x.class_ < 4
theorem c76 {k:Nat} {x r:GLine} (h:F76 k x=some r):Cls r:=by
  unfold F76 at h
  obtain ⟨p,hp,h⟩:=bind_some h
  have one:∀ {a b:Int} {c:Bool},some (a,b,c)=some p->0<=b/\b < 4->0<=p.2.1/\p.2.1 < 4:=fun e1 hb=>by
    have:=Option.some.inj e1
    rw [<- this]; exact hb
  have two:∀ {b:Bool} {u v:Option (Int×Int×Bool)},(bif b then u else v)=some p->(u=some p->0<=p.2.1/\p.2.1 < 4)->(v=some p->0<=p.2.1/\p.2.1 < 4)->0<=p.2.1/\p.2.1 < 4:=fun {b u v} h1 h2 h3=>by
    cases b with
    | true=>exact h2 h1
    | false=>exact h3 h1
  have key:0<=p.2.1/\p.2.1 < 4:=by
    obtain ⟨b,_,hp⟩:=bind_some hp
    refine two hp (fun hp=>one hp (by decide)) fun hp=>?_
    obtain ⟨b,_,hp⟩:=bind_some hp
    refine two hp (fun hp=>one hp (by decide)) fun hp=>?_
    refine two hp (fun hp=>?_) fun hp=>?_
    · obtain ⟨_,hp⟩:=bindD_some hp
      obtain ⟨q,_,hp⟩:=bind_some hp
      exact two hp (fun hp=>one hp (by decide)) (fun hp=>one hp (by decide))
    · refine two hp (fun hp=>one hp (by decide)) fun hp=>?_
      obtain ⟨_,hp⟩:=bindD_some hp
      obtain ⟨q,_,hp⟩:=bind_some hp
      refine two hp (fun hp=>one hp (by decide)) fun hp=>?_
      exact two hp (fun hp=>one hp (by decide)) (fun hp=>one hp (by decide))
  have h':=Option.some.inj h
  rw [<- h']
  exact key
theorem c51 {k:Nat} {L:List GItem} {a b c:Int} {r:GLine} (h:F51 k L a b c=some r):Cls r:=by
  unfold F51 at h
  obtain ⟨_,_,h⟩:=bind_some h
  obtain ⟨_,_,h⟩:=bind_some h
  obtain ⟨_,_,_,h⟩:=bindS_some h
  obtain ⟨_,_,h⟩:=bind_some h
  obtain ⟨_,_,_,h⟩:=bindI_some h
  obtain ⟨_,_,h⟩:=bind_some h
  obtain ⟨q,h1,h⟩:=bind_some h
  rw [<- Option.some.inj h]
  exact c76 h1
theorem c59 {k:Nat} {L:List GItem} {a b c:Int} {r:GLine×Int} (h:F59 k L a b c=some r):Cls r.1:=by
  unfold F59 at h
  obtain ⟨_,_,h⟩:=bind_some h
  obtain ⟨v,_,h⟩:=bind_some h
  cases v with
  | true=>rw [cond_true] at h; rw [<- Option.some.inj h]; exact ⟨by decide,by decide⟩
  | false=>
    rw [cond_false] at h
    obtain ⟨_,_,_,h⟩:=bindS_some h
    obtain ⟨v,_,h⟩:=bind_some h
    cases v with
    | true=>rw [cond_true] at h; rw [<- Option.some.inj h]; exact ⟨by decide,by decide⟩
    | false=>
      rw [cond_false] at h
      obtain ⟨q,h1,h⟩:=bind_some h
      rw [<- Option.some.inj h]
      exact c51 h1
theorem l59 (k:Nat) (L:List GItem) (a b c:Int) (hk:L.length < k):∃ r,F59 k L a b c=some r/\Cls r.1:=by
  obtain ⟨r,h,_⟩:=t34 k L a b c hk
  exact ⟨r,h,c59 h⟩
theorem ex_bif {α:Type} {b:Bool} {u v:Option α} (h1:∃ r,u=some r) (h2:∃ r,v=some r):∃ r,(bif b then u else v)=some r:=by
  cases b with
  | true=>exact h1
  | false=>exact h2
theorem t81 (k:Nat) (a b:Int):∃ r,F81 k a b=some r:=by
  unfold F81 F92
  simp only [Option.bind_some]
  exact ex_bif (ex_bif ⟨_,rfl⟩ ⟨_,rfl⟩) (ex_bif ⟨_,rfl⟩ (ex_bif ⟨_,rfl⟩ (ex_bif ⟨_,rfl⟩ ⟨_,rfl⟩)))
theorem t80 (k:Nat) (x y z:Int) (hk:4<=k):∃ r,F80 k [x,y,z]=some r:=by
  have key:∀ (j i:Nat),i<=3->3 < j+i->∃ r,F80_l1 k [x,y,z] j i=some r:=by
    intro j
    induction j with
    | zero=>intro i h1 h2; omega
    | succ j ih=>
      intro i h1 h2
      unfold F80_l1
      by_cases hi:i < 3
      · obtain ⟨u,hu⟩:=at_of (L:=[x,y,z]) (i:=(i:Int)) (by omega) (by simp; omega)
        rw [decide_eq_true (show (i:Int) < ([x,y,z].length:Int) by simp; omega),cond_true,bindI_eq (by omega) hu,w_id (by omega) (by omega)]
        exact ex_bif ⟨_,rfl⟩ (ih (i+1) (by omega) (by omega))
      · rw [decide_eq_false (show ¬ (i:Int) < ([x,y,z].length:Int) by simp; omega),cond_false]
        exact ⟨_,rfl⟩
  obtain ⟨r,hr⟩:=key k 0 (by omega) (by omega)
  unfold F80
  rw [show (0:Int)=((0:Nat):Int) from rfl,hr]
  cases r with
  | inl u=>exact ⟨_,rfl⟩
  | inr u=>exact ⟨_,rfl⟩
theorem t61 (k:Nat) (a b:GCost) (hk:4<=k):∃ r,F61 k a b=some r:=by
  unfold F61
  refine ex_bif ⟨_,rfl⟩ ?_
  obtain ⟨r1,h1⟩:=t81 k a.bad b.bad
  obtain ⟨r2,h2⟩:=t81 k a.total b.total
  obtain ⟨r3,h3⟩:=t81 k a.lines b.lines
  obtain ⟨r4,h4⟩:=t80 k r1 r2 r3 hk
  rw [h1,Option.bind_some,h2,Option.bind_some,h3,Option.bind_some,h4]
  exact ⟨_,rfl⟩
def TB (S:List Gstate):Prop:=∀ (i:Nat) (y:Gstate) (j:Nat),S[i]? = some y->y.ahead=some j->j < S.length/\j / 4 < i / 4
def rank (S:List Gstate):Option (Option Nat)->Nat
  | none=>0
  | some none=>S.length+2
  | some (some i)=>i / 4+1
def InS (S:List Gstate) (p:Option (Option Nat)):Prop:=∀ i,p=some (some i)->i < S.length
def Into (S:List Gstate) (z:Gstate):Prop:=∀ j,z.ahead=some j->j < S.length
theorem get_in {S:List Gstate} {z:Gstate} {p:Option (Option Nat)} (h:InS S p) (hp:p≠none):∃ y,getG z S p=some y:=by
  rcases p with _ | _ | i
  · exact absurd rfl hp
  · exact ⟨z,rfl⟩
  · exact ⟨_,List.getElem?_eq_getElem (h i rfl)⟩
theorem bindG_eq {β:Type} {S:List Gstate} {z y:Gstate} {p:Option (Option Nat)} {f:Gstate->Option β} (h:getG z S p=some y):bindG z S p f=f y:=by unfold bindG; rw [h]; rfl
theorem step_ahead {S:List Gstate} {z y:Gstate} {p:Option (Option Nat)} (hT:TB S) (hz:Into S z) (hi:InS S p) (h:getG z S p=some y):InS S (y.ahead.map some)/\rank S (y.ahead.map some) < rank S p:=by
  rcases p with _ | _ | i
  · cases h
  · cases h
    cases ha:z.ahead with
    | none=>exact ⟨fun i e=>(by cases e),by show 0 < _; exact Nat.succ_pos _⟩
    | some j=>
      have:=hz j ha
      refine ⟨fun i e=>?_,?_⟩
      · simp only [Option.map_some,Option.some.injEq] at e
        omega
      · show j / 4+1 < S.length+2
        omega
  · have h:S[i]? = some y:=h
    cases ha:y.ahead with
    | none=>exact ⟨fun i e=>(by cases e),by show 0 < _; exact Nat.succ_pos _⟩
    | some j=>
      obtain ⟨h1,h2⟩:=hT i y j h ha
      refine ⟨fun i e=>?_,?_⟩
      · simp only [Option.map_some,Option.some.injEq] at e
        omega
      · show j / 4+1 < i / 4+1
        omega
theorem t62_l1 (k:Nat) (S:List Gstate) (z:Gstate) (hS:S.isEmpty=false) (hT:TB S) (hz:Into S z):∀ (j:Nat) (p q:Option (Option Nat)),InS S p->InS S q->rank S p < j->∃ r,F62_s_l1 k S z j p q=some r/\∀ u,r=.inr u->u.2=(S,z)
  | 0,_,_,_,_,h=>by omega
  | j+1,p,q,hp,hq,h=>by
    unfold F62_s_l1 bindE
    rw [hS,cond_false]
    cases h1:p != q with
    | false=>exact ⟨_,rfl,fun u e=>by cases e⟩
    | true=>
      rw [cond_true]
      cases h2:p.isNone with
      | true=>exact ⟨_,rfl,fun u e=>by cases e; rfl⟩
      | false=>
        rw [cond_false]
        cases h3:q.isNone with
        | true=>exact ⟨_,rfl,fun u e=>by cases e; rfl⟩
        | false=>
          rw [cond_false]
          have hpn:p≠none:=fun e=>by subst e; cases h2
          have hqn:q≠none:=fun e=>by subst e; cases h3
          obtain ⟨y,hy⟩:=get_in (z:=z) hp hpn
          obtain ⟨y',hy'⟩:=get_in (z:=z) hq hqn
          simp only [bindG_eq hy,bindG_eq hy']
          cases h4:y.line_Break != y'.line_Break with
          | true=>
            rw [cond_true]
            obtain ⟨r,hr⟩:=t81 k y.line_Break y'.line_Break
            rw [hr]
            exact ⟨_,rfl,fun u e=>by cases e; rfl⟩
          | false=>
            rw [cond_false]
            obtain ⟨a1,a2⟩:=step_ahead hT hz hp hy
            obtain ⟨b1,_⟩:=step_ahead hT hz hq hy'
            exact t62_l1 k S z hS hT hz j _ _ a1 b1 (by omega)
theorem t62 (k:Nat) (S:List Gstate) (z:Gstate) (hS:S.isEmpty=false) (hT:TB S) (hz:Into S z) (p q:Option (Option Nat)) (hp:InS S p) (hq:InS S q) (hk:S.length+2 < k):∃ n,F62_s k p q S z=some (n,S,z):=by
  have hr:rank S p < k:=by
    rcases p with _ | _ | i
    · show 0 < k; omega
    · exact hk
    · have:=hp i rfl
      show i / 4+1 < k
      omega
  obtain ⟨r,h1,h2⟩:=t62_l1 k S z hS hT hz k p q hp hq hr
  unfold F62_s
  rw [h1]
  cases r with
  | inl u=>exact ⟨0,rfl⟩
  | inr u=>
    obtain ⟨n,u⟩:=u
    have:=h2 _ rfl
    simp only at this
    subst this
    exact ⟨n,rfl⟩
theorem t32 (k:Nat) (S:List Gstate) (z:Gstate) (hS:S.isEmpty=false) (hT:TB S) (hz:Into S z) (p q:Option (Option Nat)) (hp:InS S p) (hq:InS S q) (hpn:p≠none) (hqn:q≠none) (hk:S.length+4 < k):∃ b,F32_s k p q S z=some (b,S,z):=by
  obtain ⟨y,hy⟩:=get_in (z:=z) hp hpn
  obtain ⟨y',hy'⟩:=get_in (z:=z) hq hqn
  unfold F32_s
  simp only [bindG_eq hy,bindG_eq hy']
  cases h1 : !y'.is_ with
  | true=>exact ⟨true,rfl⟩
  | false=>
    rw [cond_false]
    obtain ⟨r,hr⟩:=t61 k (GCost.mk y.cost_Bad y.cost_Total y.cost_Lines) (GCost.mk y'.cost_Bad y'.cost_Total y'.cost_Lines) (by omega)
    rw [hr,Option.bind_some]
    cases h2:r != 0 with
    | true=>exact ⟨_,rfl⟩
    | false=>
      rw [cond_false]
      obtain ⟨n,hn⟩:=t62 k S z hS hT hz p q hp hq (by omega)
      rw [hn]
      exact ⟨_,rfl⟩
theorem TB.set {S:List Gstate} {z:Gstate} {i:Nat} (hT:TB S) (hz:∀ j,z.ahead=some j->j < S.length/\j / 4 < i / 4):TB (S.set i z):=fun i' y j h1 h2=>by
  rw [List.length_set]
  rw [List.getElem?_set] at h1
  split at h1
  · rename_i e; subst e
    split at h1
    · cases h1; exact hz j h2
    · cases h1
  · exact hT i' y j h1 h2
theorem t60 (k:Nat) (n N:Nat) (y:GLine) (e:Option Nat) (m:GMeter) (L:List GItem) (a b:Int) (W:List Int) (S:List Gstate) (hS:S.length=4 * N) (hn:n < N) (hy:Cls y) (he:∀ j,e=some j->j < S.length/\j / 4 < n) (hT:TB S) (hk:S.length+4 < k) :
    ∃ S',F60_s k n y e m L a b W N S=some (m,L,a,b,W,S')/\S'.length=S.length/\TB S':=by
  unfold F60_s
  obtain ⟨v1,hv1⟩:∃ v,(bif y.over_ then (some true) else (some (decide (y.bad > b))):Option Bool)=some v:=ex_bif ⟨_,rfl⟩ ⟨_,rfl⟩
  rw [hv1,Option.bind_some]
  obtain ⟨v2,hv2⟩:∃ v,(bif v1 then (some 1) else (some 0):Option Int)=some v:=ex_bif ⟨_,rfl⟩ ⟨_,rfl⟩
  rw [hv2,Option.bind_some]
  have hi:4 * Int.toNat (n:Int)+Int.toNat y.class_ < S.length:=by have:=hy.1; have:=hy.2; omega
  have hi4:(4 * Int.toNat (n:Int)+Int.toNat y.class_) / 4=n:=by have:=hy.1; have:=hy.2; omega
  have rest:∀ v6:Gstate,v6.ahead=e->∃ S',(bindN (n:Int) N (bindN y.class_ 4 ((F32_s k (some none) (some (some (4 * Int.toNat (n:Int)+Int.toNat y.class_))) S v6).bind fun r25=>
      Option.bind (α:=List Gstate) (bif r25.1 then (bindG r25.2.2 r25.2.1 (some (some (4 * Int.toNat (n:Int)+Int.toNat y.class_))) fun y12=>
      some (List.set r25.2.1 (4 * Int.toNat (n:Int)+Int.toNat y.class_) r25.2.2)) else (some r25.2.1)) fun (v11:List Gstate)=>
      some (m,L,a,b,W,v11))))=some (m,L,a,b,W,S')/\S'.length=S.length/\TB S':=fun v6 hv6=>by
    unfold bindN
    rw [if_pos ⟨by omega,by omega⟩,if_pos ⟨hy.1,hy.2⟩]
    have hInto:Into S v6:=fun j hj=>(he j (hv6 ▸ hj)).1
    obtain ⟨t,ht⟩:=t32 k S v6 (by cases S with | nil=>simp at hi | cons _ _=>rfl) hT hInto (some none) (some (some (4 * Int.toNat (n:Int)+Int.toNat y.class_))) (fun i h=>by cases h) (fun i h=>by cases h; exact hi) (by simp) (by simp) hk
    rw [ht,Option.bind_some]
    cases t with
    | false=>exact ⟨S,rfl,rfl,hT⟩
    | true=>
      obtain ⟨u,hu⟩:∃ u,getG v6 S (some (some (4 * Int.toNat (n:Int)+Int.toNat y.class_)))=some u:=⟨_,List.getElem?_eq_getElem hi⟩
      simp only [cond_true,bindG_eq hu]
      exact ⟨_,rfl,List.length_set,hT.set fun j hj=>by rw [hi4]; exact he j (hv6 ▸ hj)⟩
  cases e with
  | none=>
    obtain ⟨d,hd⟩:=t36 k L (GLine.mk (-1) 0 0 0 0 0 0 0 0 false false false 0 0) y
    simp only [Option.map_none,Option.isNone_none,cond_true,hd,Option.bind_some]
    exact rest _ rfl
  | some j=>
    obtain ⟨h1,_⟩:=he j rfl
    obtain ⟨u,hu⟩:∃ u,S[j]? = some u:=⟨_,List.getElem?_eq_getElem h1⟩
    have hO:∀ {β:Type} (f:Gstate->Option β),bindO S (some j) f=f u:=fun f=>by unfold bindO getO; simp only [Option.bind_some,hu]
    obtain ⟨d,hd⟩:=t36 k L (GLine.mk u.line_First u.line_Last u.line_Break u.line_Natural u.line_Stretch u.line_Shrink u.line_Short u.line_Bad u.line_Class u.line_Over u.line_Hyphen u.line_End u.line_Height u.line_Depth) y
    simp only [Option.map_some,Option.isNone_some,cond_false,hO,hd,Option.bind_some]
    exact rest _ rfl
def fat (L:List GItem) (p:Int):Bool:=match L[p.toNat]? with
  | some y=>frc y
  | none=>false
def frm (L:List GItem) (W:List Int):Nat->Int
  | 0=>-1
  | n+1=>if fat L (W.getD n 0)=true then n else frm L W n
theorem frm_lt (L:List GItem) (W:List Int):∀ n:Nat,-1<=frm L W n/\frm L W n < n
  | 0=>by unfold frm; omega
  | n+1=>by
    unfold frm
    have:=frm_lt L W n
    split <;> omega
theorem t79 (k:Nat) (p:Int) (m:GMeter) (L:List GItem) (a b:Int) (W:List Int) (N:Nat) (S:List Gstate) (hf:∀ (t:Nat) (y:GItem),L[t]? = some y->Fine y) (h0:0<=p) (h1:p < L.length):F79_s k p m L a b W N S=some (fat L p,m,L,a,b,W,S):=by
  obtain ⟨y,hy⟩:=at_of h0 h1
  unfold F79_s fat
  rw [bindI_eq h0 hy,hy]
  have:=same_pen (hf _ _ hy)
  have e1:frc y=(y.kind == 4 && (y.value == -10000)):=this.symm
  simp only
  rw [e1]
  cases h2:y.kind == 4 with
  | false=>rfl
  | true=>rw [cond_true,bindI_eq h0 hy]; rfl
theorem t57_l1 (k N:Nat) (m:GMeter) (L:List GItem) (a b:Int) (W:List Int) (S:List Gstate) (hf:∀ (t:Nat) (y:GItem),L[t]? = some y->Fine y) (hW:∀ p∈W,0<=p/\p < L.length) (hlen:W.length<=100000) :
    ∀ (j n:Nat),n<=W.length->n < j->F57_s_l1 k N j ((n:Int) - 1) m L a b W S=some (if frm L W n = -1 then .inl (m,L,a,b,W,S) else .inr (frm L W n,m,L,a,b,W,S))
  | 0,n,_,h=>by omega
  | j+1,0,h1,h2=>by
    unfold F57_s_l1
    rw [decide_eq_false (by omega),cond_false]
    rfl
  | j+1,n+1,h1,h2=>by
    unfold F57_s_l1
    rw [decide_eq_true (show ((n+1:Nat):Int) - 1>=0 by omega),cond_true]
    obtain ⟨p,hp⟩:=at_of (L:=W) (i:=((n+1:Nat):Int) - 1) (by omega) (by omega)
    rw [bindI_eq (by omega) hp]
    have hn:(((n+1:Nat):Int) - 1).toNat=n:=by omega
    have hp':W.getD n 0=p:=by rw [List.getD_eq_getElem?_getD,<- hn,hp]; rfl
    obtain ⟨p0,p1⟩:=hW p (List.mem_of_getElem? hp)
    rw [t79 k p m L a b W N S hf p0 p1,Option.bind_some]
    unfold frm
    rw [hp']
    cases hc:fat L p with
    | true=>
      simp only [if_true]
      rw [if_neg (by omega),show ((n+1:Nat):Int) - 1=n by omega]
      rfl
    | false=>
      simp only [Bool.false_eq_true,if_false]
      show F57_s_l1 k N j (w (((n+1:Nat):Int) - 1 - 1)) m L a b W S=_
      rw [w_id (by omega) (by omega),show ((n+1:Nat):Int) - 1 - 1=(n:Int) - 1 by omega]
      exact t57_l1 k N m L a b W S hf hW hlen j n (by omega) (by omega)
theorem t57 (k N n:Nat) (m:GMeter) (L:List GItem) (a b:Int) (W:List Int) (S:List Gstate) (hf:∀ (t:Nat) (y:GItem),L[t]? = some y->Fine y) (hW:∀ p∈W,0<=p/\p < L.length) (hlen:W.length<=100000) (hn:n<=W.length) (hk:n < k) :
    F57_s k n m L a b W N S=some (frm L W n,m,L,a,b,W,S):=by
  unfold F57_s
  rw [w_id (by omega) (by omega),t57_l1 k N m L a b W S hf hW hlen k n hn hk]
  split
  · rename_i h; rw [h]; rfl
  · rfl
structure Much (m:GMeter):Prop where
  sb:m.steps_budget=1152921504606846976
  cb:m.cells_budget=1152921504606846976
  rf:m.refused=0
  s0:0<=m.steps_now
  c0:0<=m.cells_now
theorem t58 (k:Nat) (m:GMeter) (h:Much m) (hs:m.steps_now<=1000000000):∃ m',F58 k m 1=some (true,m')/\Much m'/\m'.steps_now=m.steps_now+1/\m'.cells_now=m.cells_now/\m'.cells_peak=m.cells_peak:=by
  obtain ⟨sn,sp,sb,cn,cp,cb,rf⟩:=m
  obtain ⟨h1,h2,h3,h4,h5⟩:=h
  simp only at h1 h2 h3 h4 h5 hs
  subst h1 h2 h3
  have e1:w (1152921504606846976 - sn)=1152921504606846976 - sn:=w_id (by omega) (by omega)
  have e2:w (sn+1)=sn+1:=w_id (by omega) (by omega)
  unfold F58 F56_s2 F78_s2
  simp only [e1,e2]
  rw [show decide ((1:Int) < 0)=false from rfl,cond_false,Option.bind_some,show ((0:Int) != 0)=false from rfl,cond_false,decide_eq_false (by omega),cond_false]
  exact ⟨_,rfl,⟨rfl,rfl,rfl,by show 0<=sn+1; omega,h5⟩,rfl,rfl,rfl⟩
theorem blk (k:Nat) (n N v:Nat) (c:Int) (y:GLine) (m:GMeter) (L:List GItem) (a b:Int) (W:List Int) (S:List Gstate) (hS:S.length=4 * N) (hn:n < N) (hv:v < n) (h0:0<=c) (h1:c < 4) (hy:Cls y) (hT:TB S) (hk:S.length+4 < k) :
    ∃ S',(bindN (v:Int) N (bindN c 4 (bindO S (some (4 * Int.toNat (v:Int)+Int.toNat c)) fun y98=>
    bif y98.is_ then ((F60_s k n y (some (4 * Int.toNat (v:Int)+Int.toNat c)) m L a b W N S).bind fun r37=>
    some (r37.1,r37.2.1,r37.2.2.1,r37.2.2.2.1,r37.2.2.2.2.1,r37.2.2.2.2.2)) else (some (m,L,a,b,W,S)))))=some (m,L,a,b,W,S')/\S'.length=S.length/\TB S':=by
  unfold bindN
  rw [if_pos ⟨by omega,by omega⟩,if_pos ⟨h0,h1⟩]
  have hi:4 * Int.toNat (v:Int)+Int.toNat c < S.length:=by omega
  obtain ⟨u,hu⟩:∃ u,S[4 * Int.toNat (v:Int)+Int.toNat c]? = some u:=⟨_,List.getElem?_eq_getElem hi⟩
  unfold bindO getO
  simp only [Option.bind_some,hu]
  cases u.is_ with
  | false=>exact ⟨S,rfl,rfl,hT⟩
  | true=>
    obtain ⟨S',e1,e2,e3⟩:=t60 k n N y (some (4 * Int.toNat (v:Int)+Int.toNat c)) m L a b W S hS hn hy (fun j hj=>by cases hj; exact ⟨hi,by omega⟩) hT hk
    rw [cond_true,e1]
    exact ⟨S',rfl,e2,e3⟩
theorem t30_l1 (k n N:Nat) (L:List GItem) (a b:Int) (W:List Int) (hW:W.length=N) (hn:n < N) (hN:N<=100000) (hL:L.length < k) :
    ∀ (j:Nat) (v:Int) (m:GMeter) (S:List Gstate),-1<=v->v<=n->n - v < j->Much m->m.steps_now+(n - v)<=1000000000->S.length=4 * N->TB S->S.length+4 < k ->
      ∃ m' S',F30_s_l1 k n N j v m L a b W S=some (.inl (m',L,a,b,W,S'))/\Much m'/\m'.steps_now=m.steps_now+(n - v)/\m'.cells_now=m.cells_now/\m'.cells_peak=m.cells_peak/\S'.length=4 * N/\TB S'
  | 0,v,m,S,h1,h2,h3,_,_,_,_,_=>by omega
  | j+1,v,m,S,h1,h2,h3,hm,hs,hS,hT,hk=>by
    unfold F30_s_l1
    by_cases hv:v < n
    · rw [decide_eq_true hv,cond_true]
      obtain ⟨m1,e1,m2,m3,m4,m5⟩:=t58 k m hm (by omega)
      rw [e1,Option.bind_some]
      obtain ⟨at_,hat⟩:∃ x,(bif decide (v>=0) then (bindI W v fun y70=>some y70) else (some (-1)):Option Int)=some x:=by
        by_cases h0:v>=0
        · obtain ⟨p,hp⟩:=at_of (L:=W) (i:=v) h0 (by omega)
          rw [decide_eq_true h0,cond_true,bindI_eq h0 hp]; exact ⟨_,rfl⟩
        · rw [decide_eq_false h0]; exact ⟨_,rfl⟩
      obtain ⟨q,hq⟩:=at_of (L:=W) (i:=(n:Int)) (by omega) (by omega)
      obtain ⟨y,hy,hc⟩:=l59 k L a at_ q hL
      have go:∀ S1:List Gstate,S1.length=4 * N->TB S1->∃ m' S',F30_s_l1 k n N j (w (v+1)) m1 L a b W S1=some (.inl (m',L,a,b,W,S'))/\Much m'/\m'.steps_now=m.steps_now+(n - v)/\m'.cells_now=m.cells_now/\m'.cells_peak=m.cells_peak/\S'.length=4 * N/\TB S':=fun S1 q1 q2=>by
        rw [w_id (by omega) (by omega)]
        obtain ⟨m',S',r1,r2,r3,r4,r5,r6,r7⟩:=t30_l1 k n N L a b W hW hn hN hL j (v+1) m1 S1 (by omega) (by omega) (by omega) m2 (by omega) q1 q2 (by omega)
        exact ⟨m',S',r1,r2,by omega,by omega,by omega,r6,r7⟩
      simp only [Bool.not_true,cond_false,hat,Option.bind_some,bindI_eq (f:=_) (by omega) hq,hy]
      by_cases h0:v < 0
      · obtain ⟨S1,e1,e2,e3⟩:=t60 k n N y.1 none m1 L a b W S hS hn hc (fun j hj=>by cases hj) hT hk
        rw [decide_eq_true h0,cond_true,e1]
        exact go S1 (e2.trans hS) e3
      · obtain ⟨u,rfl⟩:∃ u:Nat,v=u:=⟨v.toNat,by omega⟩
        obtain ⟨S1,a1,a2,a3⟩:=blk k n N u 0 y.1 m1 L a b W S hS hn (by omega) (by decide) (by decide) hc hT hk
        obtain ⟨S2,b1,b2,b3⟩:=blk k n N u 1 y.1 m1 L a b W S1 (a2.trans hS) hn (by omega) (by decide) (by decide) hc a3 (by omega)
        obtain ⟨S3,c1,c2,c3⟩:=blk k n N u 2 y.1 m1 L a b W S2 (by omega) hn (by omega) (by decide) (by decide) hc b3 (by omega)
        obtain ⟨S4,d1,d2,d3⟩:=blk k n N u 3 y.1 m1 L a b W S3 (by omega) hn (by omega) (by decide) (by decide) hc c3 (by omega)
        rw [decide_eq_false h0,cond_false,a1]
        simp only [Option.bind_some]
        rw [b1]
        simp only [Option.bind_some]
        rw [c1]
        simp only [Option.bind_some]
        rw [d1]
        exact go S4 (by omega) d3
    · rw [decide_eq_false hv,cond_false]
      exact ⟨m,S,rfl,hm,by omega,rfl,rfl,hS,hT⟩
theorem t30 (k n N:Nat) (m:GMeter) (L:List GItem) (a b:Int) (W:List Int) (S:List Gstate) (hf:∀ (t:Nat) (y:GItem),L[t]? = some y->Fine y) (hWin:∀ p∈W,0<=p/\p < L.length) (hW:W.length=N) (hn:n < N) (hN:N<=100000) (hL:L.length < k) (hnk:N+1 < k)
    (hm:Much m) (hs:m.steps_now<=999000000) (hS:S.length=4 * N) (hT:TB S) (hk:S.length+4 < k) :
    ∃ m' S',F30_s k n m L a b W N S=some (true,m',L,a,b,W,S')/\Much m'/\m'.steps_now=m.steps_now+(n - frm L W n)/\m'.cells_now=m.cells_now/\m'.cells_peak=m.cells_peak/\S'.length=4 * N/\TB S':=by
  obtain ⟨f1,f2⟩:=frm_lt L W n
  obtain ⟨m',S',e1,e2,e3,e4,e5,e6,e7⟩:=t30_l1 k n N L a b W hW hn hN hL k (frm L W n) m S f1 (by omega) (by omega) hm (by omega) hS hT hk
  unfold F30_s
  rw [t57 k N n m L a b W S hf hWin (by omega) (by omega) (by omega),Option.bind_some]
  simp only [e1]
  exact ⟨m',S',rfl,e2,e3,e4,e5,e6,e7⟩
theorem t28 (k:Nat) (m:GMeter) (h:Much m) (hs:m.cells_now<=1000000000):∃ m',F28 k m 1=some (true,m')/\Much m'/\m'.cells_now=m.cells_now+1/\m'.cells_peak=max m.cells_peak (m.cells_now+1)/\m'.steps_now=m.steps_now:=by
  obtain ⟨sn,sp,sb,cn,cp,cb,rf⟩:=m
  obtain ⟨h1,h2,h3,h4,h5⟩:=h
  simp only at h1 h2 h3 h4 h5 hs
  subst h1 h2 h3
  have e1:w (1152921504606846976 - cn)=1152921504606846976 - cn:=w_id (by omega) (by omega)
  have e2:w (cn+1)=cn+1:=w_id (by omega) (by omega)
  unfold F28 F56_s F78_s
  simp only [e1,e2]
  rw [show decide ((1:Int) < 0)=false from rfl,cond_false,Option.bind_some,show ((0:Int) != 0)=false from rfl,cond_false,decide_eq_false (by omega),cond_false]
  refine ⟨_,rfl,⟨rfl,rfl,rfl,h4,by show 0<=cn+1; omega⟩,rfl,?_,rfl⟩
  show (if cn+1 > cp then cn+1 else cp)=max cp (cn+1)
  split <;> omega
theorem t11_l1 (k:Nat) (r:List Int×List Int) (hN:r.1.length<=100000):∀ (j:Nat) (v:Int) (m:GMeter),0<=v->v<=4 * r.1.length->4 * r.1.length - v < j->Much m->m.cells_now=v->m.cells_peak=v ->
    ∃ m',F11_l1 k r j v m=some (.inl m')/\Much m'/\m'.cells_now=4 * r.1.length/\m'.cells_peak=4 * r.1.length/\m'.steps_now=m.steps_now
  | 0,v,m,h1,h2,h3,_,_,_=>by omega
  | j+1,v,m,h1,h2,h3,hm,h4,h5=>by
    unfold F11_l1
    rw [w_id (n:=4 * (r.1.length:Int)) (by omega) (by omega)]
    by_cases hv:v < 4 * (r.1.length:Int)
    · rw [decide_eq_true hv,cond_true]
      obtain ⟨m1,e1,e2,e3,e4,e5⟩:=t28 k m hm (by omega)
      rw [e1,Option.bind_some]
      simp only [Bool.not_true,cond_false]
      rw [w_id (by omega) (by omega)]
      obtain ⟨m',r1,r2,r3,r4,r5⟩:=t11_l1 k r hN j (v+1) m1 (by omega) (by omega) (by omega) e2 (by omega) (by omega)
      exact ⟨m',r1,r2,r3,r4,by omega⟩
    · rw [decide_eq_false hv,cond_false]
      exact ⟨m,rfl,hm,by omega,by omega,rfl⟩
theorem t11_l4 (k:Nat) (l:List Int) (hN:l.length<=100000):∀ (j:Nat) (v:Int) (m:GMeter),0<=v->v<=l.length->l.length - v < j->Much m->m.cells_now=v->(l.length:Int)<=m.cells_peak ->
    ∃ m',F11_l4 k l j v m=some (.inl m')/\Much m'/\m'.cells_now=l.length/\m'.cells_peak=m.cells_peak/\m'.steps_now=m.steps_now
  | 0,v,m,h1,h2,h3,_,_,_=>by omega
  | j+1,v,m,h1,h2,h3,hm,h4,h5=>by
    unfold F11_l4
    by_cases hv:v < (l.length:Int)
    · rw [decide_eq_true hv,cond_true]
      obtain ⟨m1,e1,e2,e3,e4,e5⟩:=t28 k m hm (by omega)
      rw [e1,Option.bind_some]
      simp only [Bool.not_true,cond_false]
      rw [w_id (by omega) (by omega)]
      obtain ⟨m',r1,r2,r3,r4,r5⟩:=t11_l4 k l hN j (v+1) m1 (by omega) (by omega) (by omega) e2 (by omega) (by omega)
      exact ⟨m',r1,r2,r3,by omega,by omega⟩
    · rw [decide_eq_false hv,cond_false]
      exact ⟨m,rfl,hm,by omega,rfl,rfl⟩
def stp (L:List GItem) (W:List Int) (n:Nat):Nat->Int
  | 0=>0
  | d+1=>(n - frm L W n)+stp L W (n+1) d
theorem t11_l2 (k N:Nat) (r:List Int×List Int) (L:List GItem) (a b:Int) (hr:r.1.length=N) (hf:∀ (t:Nat) (y:GItem),L[t]? = some y->Fine y) (hWin:∀ p∈r.1,0<=p/\p < L.length) (hN:N<=4096) (hL:L.length < k) (hk:4 * N+4 < k) :
    ∀ (j n:Nat) (m:GMeter) (S:List Gstate),n<=N->N - n < j->Much m->m.steps_now<=5000 * n->S.length=4 * N->TB S ->
      ∃ m' S',F11_l2 k r j n m L a b r.1 S=some (.inl (m',L,a,b,r.1,S'))/\Much m'/\m'.steps_now=m.steps_now+stp L r.1 n (N - n)/\m'.cells_now=m.cells_now/\m'.cells_peak=m.cells_peak/\S'.length=4 * N/\TB S'
  | 0,n,m,S,_,h,_,_,_,_=>by omega
  | j+1,n,m,S,h1,h2,hm,hs,hS,hT=>by
    unfold F11_l2
    by_cases hv:n < N
    · rw [decide_eq_true (show (n:Int) < (r.1.length:Int) by omega),cond_true,show Int.toNat (r.1.length:Int)=N by omega]
      obtain ⟨f1,f2⟩:=frm_lt L r.1 n
      obtain ⟨m1,S1,e1,e2,e3,e4,e5,e6,e7⟩:=t30 k n N m L a b r.1 S hf hWin hr hv (by omega) hL (by omega) hm (by omega) hS hT (by omega)
      rw [e1,Option.bind_some]
      simp only [Bool.not_true,cond_false]
      rw [w_id (by omega) (by omega)]
      obtain ⟨m',S',r1,r2,r3,r4,r5,r6,r7⟩:=t11_l2 k N r L a b hr hf hWin hN hL hk j (n+1) m1 S1 (by omega) (by omega) e2 (by omega) e6 e7
      refine ⟨m',S',r1,r2,?_,by omega,by omega,r6,r7⟩
      rw [show N - n=(N - (n+1))+1 by omega]
      show m'.steps_now=m.steps_now+((n - frm L r.1 n)+stp L r.1 (n+1) (N - (n+1)))
      omega
    · rw [decide_eq_false (show ¬ (n:Int) < (r.1.length:Int) by omega),cond_false]
      refine ⟨m,S,rfl,hm,?_,rfl,rfl,hS,hT⟩
      rw [show N - n=0 by omega]
      show m.steps_now=m.steps_now+0
      omega
theorem bindA_eq {α β:Type} {n:Nat} {L M:List α} {f:List α->Option β} (h:(5 * (L.length+M.length)+768) * n<=1125899906842624):bindA n L M f=f (L++M):=if_pos h
def mu:Option (Option Nat)->Nat
  | none=>0
  | some none=>1
  | some (some i)=>i / 4+1
theorem step_mu {S:List Gstate} {z y:Gstate} {p:Option (Option Nat)} (hT:TB S) (hz:z.ahead=none) (hi:InS S p) (h:getG z S p=some y):InS S (y.ahead.map some)/\mu (y.ahead.map some)+1<=mu p:=by
  rcases p with _ | _ | i
  · cases h
  · cases h
    rw [hz]
    exact ⟨fun i e=>(by cases e),Nat.le_refl _⟩
  · have h:S[i]? = some y:=h
    cases ha:y.ahead with
    | none=>exact ⟨fun i e=>(by cases e),by show 0+1<=i / 4+1; omega⟩
    | some j=>
      obtain ⟨h1,h2⟩:=hT i y j h ha
      refine ⟨fun i e=>?_,?_⟩
      · simp only [Option.map_some,Option.some.injEq] at e
        omega
      · show j / 4+1+1<=i / 4+1
        omega
theorem t11_l3 (k:Nat) (S:List Gstate) (z:Gstate) (hT:TB S) (hz:z.ahead=none):∀ (j:Nat) (acc:List Int) (p:Option (Option Nat)),InS S p->mu p < j->acc.length+mu p<=100000->∃ out,F11_l3 k S z j acc p=some out/\out.length<=acc.length+mu p
  | 0,_,_,_,h,_=>by omega
  | j+1,acc,p,hi,h,hb=>by
    unfold F11_l3
    cases hp:p.isNone with
    | true=>exact ⟨acc,rfl,by omega⟩
    | false=>
      have hpn:p≠none:=fun e=>by subst e; cases hp
      obtain ⟨y,hy⟩:=get_in (z:=z) hi hpn
      obtain ⟨a1,a2⟩:=step_mu hT hz hi hy
      simp only [Bool.not_false,cond_true,bindG_eq hy]
      rw [bindA_eq (by simp only [List.length_singleton]; omega)]
      obtain ⟨out,e1,e2⟩:=t11_l3 k S z hT hz j (acc++[y.line_Break]) (y.ahead.map some) a1 (by omega) (by rw [List.length_append,List.length_singleton]; omega)
      refine ⟨out,e1,?_⟩
      rw [List.length_append,List.length_singleton] at e2
      omega
theorem sel (k N:Nat) (c:Int) (S:List Gstate) (z:Gstate) (p:Option (Option Nat)) (hS:S.length=4 * N) (hN:0 < N) (h0:0<=c) (h1:c < 4) (hT:TB S) (hz:z.ahead=none) (hp:InS S p) (hpn:p≠none) (hm:mu p<=N) (hk:S.length+4 < k) :
    ∃ p',(bindN ((N:Int) - 1) N (bindN c 4 (bindG z S (some (some (4 * Int.toNat ((N:Int) - 1)+Int.toNat c))) fun y140=>
      Option.bind (α:=Bool×(List Gstate)×Gstate) (bif y140.is_ then ((F32_s k (some (some (4 * Int.toNat ((N:Int) - 1)+Int.toNat c))) p S z).bind fun r76=>
      some (r76.1,r76.2.1,r76.2.2)) else (some (false,S,z))) fun (v141,v142,v162)=>
      bif v141 then (some (some (some (4 * Int.toNat ((N:Int) - 1)+Int.toNat c)),v142,v162)) else (some (p,v142,v162)))))=some (p',S,z)/\InS S p'/\p'≠none/\mu p'<=N:=by
  unfold bindN
  rw [if_pos ⟨by omega,by omega⟩,if_pos ⟨h0,h1⟩]
  have hi:4 * Int.toNat ((N:Int) - 1)+Int.toNat c < S.length:=by omega
  obtain ⟨u,hu⟩:∃ u,getG z S (some (some (4 * Int.toNat ((N:Int) - 1)+Int.toNat c)))=some u:=⟨_,List.getElem?_eq_getElem hi⟩
  rw [bindG_eq hu]
  cases u.is_ with
  | false=>exact ⟨p,rfl,hp,hpn,hm⟩
  | true=>
    obtain ⟨t,ht⟩:=t32 k S z (by cases S with | nil=>simp at hi | cons _ _=>rfl) hT (fun j hj=>by rw [hz] at hj; cases hj) (some (some (4 * Int.toNat ((N:Int) - 1)+Int.toNat c))) p (fun i h=>by cases h; exact hi) hp (by simp) hpn hk
    rw [cond_true,ht]
    cases t with
    | false=>exact ⟨p,rfl,hp,hpn,hm⟩
    | true=>exact ⟨_,rfl,fun i h=>(by cases h; exact hi),by simp,by show (4 * Int.toNat ((N:Int) - 1)+Int.toNat c) / 4+1<=N; omega⟩
theorem walk_ok (k:Nat) (L:List GItem) (hl:L.length<=4096):∀ (j i:Nat),L.length < j+i->i<=L.length ->
    ∃ A,walkL k L j i=some A/\A.length<=L.length - i/\(∀ x∈A,(i:Int)<=x/\x < L.length)/\∀ t:Nat,i<=t->t < L.length->F71 k L t=some true->(t:Int)∈A
  | 0,i,h,_=>by omega
  | j+1,i,h1,h2=>by
    unfold walkL
    by_cases hi:i < L.length
    · obtain ⟨c,hc⟩:=t68 k L i (by omega) (by omega) hl
      obtain ⟨A,a1,a2,a3,a4⟩:=walk_ok k L hl j (i+1) (by omega) (by omega)
      rw [decide_eq_true (show (i:Int) < L.length by omega),cond_true,hc,Option.bind_some,w_id (by omega) (by omega),show (i:Int)+1=((i+1:Nat):Int) by omega,a1,Option.bind_some]
      cases c with
      | false=>
        refine ⟨A,rfl,by omega,fun x hx=>⟨by have:=(a3 x hx).1; omega,(a3 x hx).2⟩,fun t k1 k2 k3=>?_⟩
        by_cases e:t=i
        · subst e; rw [hc] at k3; cases k3
        · exact a4 t (by omega) k2 k3
      | true=>
        refine ⟨(i:Int) :: A,rfl,by rw [List.length_cons]; omega,fun x hx=>?_,fun t k1 k2 k3=>?_⟩
        · rcases List.mem_cons.mp hx with rfl | hx
          · omega
          · exact ⟨by have:=(a3 x hx).1; omega,(a3 x hx).2⟩
        · by_cases e:t=i
          · subst e; exact List.mem_cons_self ..
          · exact List.mem_cons_of_mem _ (a4 t (by omega) k2 k3)
    · rw [decide_eq_false (show ¬ (i:Int) < L.length by omega)]
      exact ⟨[],rfl,by simp,fun x hx=>(by cases hx),fun t k1 k2 _=>by omega⟩
theorem r55 (k:Nat):∀ (A acc:List Int),acc.length+A.length<=100000->F55_s_r1 k A acc=some (acc++A)
  | [],acc,_=>by rw [List.append_nil]; rfl
  | x :: A,acc,h=>by
    rw [List.length_cons] at h
    show bindA 8 acc [x] _=_
    rw [bindA_eq (by simp only [List.length_singleton]; omega)]
    rw [r55 k A (acc++[x]) (by rw [List.length_append,List.length_singleton]; omega),List.append_assoc]
    rfl
theorem legal_ok (k:Nat) (L:List GItem) (h0:F21 k L=some 0) (hk:L.length < k):∃ A,F18 k L=some A/\F27_s k A=some (A,A)/\A.length<=L.length/\L.length<=4096/\(∀ x∈A,0<=x/\x < L.length)/\(0 < L.length->0 < A.length):=by
  obtain ⟨r,hr,hg⟩:=t64 k L hk
  rw [h0] at hr
  obtain ⟨hl,_⟩:=hg (Option.some.inj hr).symm
  obtain ⟨A,a1,a2,a3,a4⟩:=walk_ok k L hl k 0 (by omega) (by omega)
  refine ⟨A,?_,?_,by omega,hl,fun x hx=>⟨by have:=(a3 x hx).1; omega,(a3 x hx).2⟩,fun hp=>?_⟩
  · unfold F18 F46
    have a1':walkL k L k 0=some A:=a1
    rw [h0,Option.bind_some]
    simp only [beq_self_eq_true,cond_true,Option.bind_some,a1',r30 k A [] (by simp; omega),List.nil_append]
  · unfold F27_s F55_s guardL
    rw [show Nat.ble (A.length+2) 9223372036854775808=true by rw [Nat.ble_eq]; omega,cond_true,r55 k A [] (by simp; omega)]
    rfl
  · obtain ⟨y,y1,y2⟩:=chk_last k L hl h0 hp
    have:=a4 (L.length - 1) (by omega) (by omega) (frc_legal k L _ y y1 y2)
    exact List.length_pos_of_mem this
theorem t31 (k:Nat) (m:GMeter) (n:Int) (h:Much m) (h0:0<=n) (h1:m.cells_now=n) (h2:n<=100000):∃ b m',F31 k m n=some (b,m')/\Much m'/\m'.cells_now=0/\m'.cells_peak=m.cells_peak/\m'.steps_now=m.steps_now:=by
  unfold F31
  rw [decide_eq_false (by omega),cond_false,Option.bind_some,decide_eq_false (by omega),cond_false,w_id (by omega) (by omega)]
  exact ⟨_,_,rfl,⟨h.sb,h.cb,h.rf,h.s0,by show 0<=m.cells_now - n; omega⟩,by show m.cells_now - n=0; omega,rfl,rfl⟩
def zst:Gstate:=Gstate.mk false 0 0 0 0 0 0 0 0 0 0 0 0 false false false 0 0 none
theorem t11 (k:Nat) (L:List GItem) (a b:Int) (m:GMeter) (hm:Much m) (m1:m.steps_now=0) (m2:m.cells_now=0) (m3:m.cells_peak=0) (hk:4 * L.length+10 < k) :
    ∃ r,F11 k m L a b=some r/\((r.2.2.1.kind≠0/\r.2.2.2=m)\/(r.2.2.1.kind=0/\∃ A,F18 k L=some A/\A.length<=L.length/\L.length<=4096/\(∀ x∈A,0<=x/\x < L.length)/\r.2.2.2.steps_now=stp L A 0 A.length/\r.2.2.2.cells_peak=4 * A.length/\r.2.2.2.cells_now=r.1.length)):=by
  obtain ⟨c,hc,hg⟩:=t64 k L (by omega)
  unfold F11
  rw [hc,Option.bind_some]
  obtain ⟨v1,hv1⟩:∃ v,(bif c != 0 then (some true) else (Option.bind (α:=Bool) (bif decide (a < 1) then (some true) else (Option.bind (α:=Bool) (bif decide (a > 536870912) then (some true) else (Option.bind (α:=Bool) (bif decide (b < 0) then (some true) else (some (decide (b > 10000)))) fun (v4:Bool)=>some v4)) fun (v3:Bool)=>some v3)) fun (v2:Bool)=>some v2):Option Bool)=some v:=by
    refine ex_bif ⟨_,rfl⟩ ?_
    obtain ⟨u,hu⟩:∃ v,(bif decide (b < 0) then (some true) else (some (decide (b > 10000))):Option Bool)=some v:=ex_bif ⟨_,rfl⟩ ⟨_,rfl⟩
    rw [hu]
    simp only [Option.bind_some]
    obtain ⟨u2,hu2⟩:∃ v,(bif decide (a > 536870912) then (some true) else (some u):Option Bool)=some v:=ex_bif ⟨_,rfl⟩ ⟨_,rfl⟩
    rw [hu2,Option.bind_some]
    obtain ⟨u3,hu3⟩:∃ v,(bif decide (a < 1) then (some true) else (some u2):Option Bool)=some v:=ex_bif ⟨_,rfl⟩ ⟨_,rfl⟩
    rw [hu3]
    exact ⟨_,rfl⟩
  have hc0:v1=false->c=0:=fun e=>by
    cases h:c != 0 with
    | true=>rw [h,cond_true] at hv1; rw [<- Option.some.inj hv1] at e; cases e
    | false=>simpa using h
  rw [hv1,Option.bind_some]
  cases v1 with
  | true=>exact ⟨_,rfl,.inl ⟨by show (1:Int)≠0; decide,rfl⟩⟩
  | false=>
    have hc0:=hc0 rfl
    subst hc0
    obtain ⟨A,b1,b2,b3,b4,b5,b6⟩:=legal_ok k L hc (by omega)
    have hf:∀ (t:Nat) (y:GItem),L[t]? = some y->Fine y:=fun t y hy=>fine_of (hg rfl).2 hy
    rw [cond_false,b1,Option.bind_some,b2,Option.bind_some]
    simp only
    by_cases h1:(A.length:Int) > 1024
    · rw [decide_eq_true h1,cond_true]
      obtain ⟨y,hy⟩:=at_of (L:=L) (i:=0) (by omega) (by omega)
      rw [bindI_eq (by omega) hy]
      exact ⟨_,rfl,.inl ⟨by show (150:Int)≠0; decide,rfl⟩⟩
    rw [decide_eq_false h1,cond_false]
    by_cases h2:L.length=0
    · have hA:A=[]:=List.eq_nil_of_length_eq_zero (by omega)
      subst hA
      rw [show ((L.length:Int) == 0)=true by rw [h2]; rfl,cond_true]
      exact ⟨_,rfl,.inr ⟨rfl,[],rfl,by simp,b4,b5,m1,m3,m2⟩⟩
    rw [show ((L.length:Int) == 0)=false by rw [beq_eq_false_iff_ne]; omega,cond_false]
    have hA:=b6 (by omega)
    obtain ⟨n1,c1,c2,c3,c4,c5⟩:=t11_l1 k (A,A) (by show A.length<=_; omega) k 0 m (by omega) (by show (0:Int)<=4 * A.length; omega) (by show 4 * (A.length:Int) - 0 < k; omega) hm m2 m3
    simp only at c1 c3 c4
    rw [c1]
    simp only [Option.bind_some,Sum.elim_inl]
    unfold bindMk
    rw [if_pos ⟨by omega,by omega,by omega⟩]
    obtain ⟨n2,S,d1,d2,d3,d4,d5,d6,d7⟩:=t11_l2 k A.length (A,A) L a b rfl hf b5 (by omega) (by omega) (by omega) k 0 n1 (List.replicate (Int.toNat (A.length:Int) * 4) zst) (by omega) (by omega) c2 (by omega) (by rw [List.length_replicate]; omega) (fun i y j e1 e2=>by
      have:=List.eq_of_mem_replicate (List.mem_of_getElem? e1)
      subst this; cases e2)
    have d1':F11_l2 k (A,A) k 0 n1 L a b A (List.replicate (Int.toNat (A.length:Int) * 4) (Gstate.mk false 0 0 0 0 0 0 0 0 0 0 0 0 false false false 0 0 none))=some (.inl (n2,L,a,b,A,S)):=d1
    rw [d1']
    simp only [Option.bind_some,Sum.elim_inl]
    rw [w_id (n:=4 * (A.length:Int)) (by omega) (by omega),w_id (n:=(A.length:Int) - 1) (by omega) (by omega),show Int.toNat (A.length:Int)=A.length by omega]
    obtain ⟨b',n3,e1,e2,e3,e4,e5⟩:=t31 k n2 (4 * (A.length:Int)) d2 (by omega) (by omega) (by omega)
    rw [e1]
    simp only [Option.bind_some]
    obtain ⟨p1,f1,f2,f3,f4⟩:=sel k A.length 0 S zst (some none) d6 hA (by decide) (by decide) d7 rfl (fun i h=>by cases h) (by simp) (by show 1<=A.length; omega) (by omega)
    obtain ⟨p2,g1,g2,g3,g4⟩:=sel k A.length 1 S zst p1 d6 hA (by decide) (by decide) d7 rfl f2 f3 f4 (by omega)
    obtain ⟨p3,i1,i2,i3,i4⟩:=sel k A.length 2 S zst p2 d6 hA (by decide) (by decide) d7 rfl g2 g3 g4 (by omega)
    obtain ⟨p4,j1,j2,j3,j4⟩:=sel k A.length 3 S zst p3 d6 hA (by decide) (by decide) d7 rfl i2 i3 i4 (by omega)
    simp only [zst] at f1 g1 i1 j1
    erw [f1]
    simp only [Option.bind_some]
    erw [g1]
    simp only [Option.bind_some]
    erw [i1]
    simp only [Option.bind_some]
    erw [j1]
    simp only [Option.bind_some]
    obtain ⟨out,o1,o2⟩:=t11_l3 k S zst d7 rfl k [] p4 j2 (by omega) (by simp; omega)
    simp only [zst] at o1
    rw [o1]
    simp only [Option.bind_some]
    have o3:out.reverse.length<=A.length:=by rw [List.length_reverse]; simp at o2; omega
    unfold bindRev
    rw [if_pos (by rw [List.length_reverse] at o3; omega)]
    obtain ⟨n4,q1,q2,q3,q4,q5⟩:=t11_l4 k out.reverse (by omega) k 0 n3 (by omega) (by omega) (by omega) e2 e3 (by omega)
    show ∃ r,(F11_l4 k out.reverse k 0 n3).bind _=some r/\_
    rw [q1]
    obtain ⟨y,hy⟩:=get_in (z:=zst) j2 j3
    simp only [zst] at hy
    simp only [Option.bind_some,Sum.elim_inl,bindG_eq hy]
    refine ⟨_,rfl,.inr ⟨rfl,A,rfl,b3,b4,b5,?_,?_,q3⟩⟩
    · show n4.steps_now=_
      simp only at d3
      rw [q5,e5,d3,c5,m1]
      simp
    · show n4.cells_peak=_
      omega
theorem x19 (k:Nat) (y:GItem):F19 k y=some (frc y):=by
  unfold F19 frc
  cases y.kind == 4 with
  | false=>rfl
  | true=>rfl
theorem r4 (k:Nat) (L:List GItem) (W:List Int) (hW:∀ x∈W,0<=x/\x < L.length) (hl:W.length<=4096):∀ (d n:Nat) (A:List Int) (v:Int),n+d=W.length->A=W.drop n->0<=v->v<=5000 * n ->
    ∃ o,F4_r1 k L A n v (n - frm L W n)=some ((W.length:Int),v+stp L W n d,o)
  | 0,n,A,v,h1,h2,_,_=>by
    rw [List.drop_eq_nil_of_le (by omega)] at h2
    subst h2
    refine ⟨n - frm L W n,?_⟩
    rw [show (W.length:Int)=n by omega,show v+stp L W n 0=v by show v+0=v; omega]
    rfl
  | d+1,n,A,v,h1,h2,h3,h4=>by
    rw [List.drop_eq_getElem_cons (by omega)] at h2
    subst h2
    obtain ⟨w0,w1⟩:=hW (W[n]) (List.getElem_mem _)
    obtain ⟨y,hy⟩:=at_of w0 w1
    obtain ⟨f1,f2⟩:=frm_lt L W n
    have hg:W.getD n 0=W[n]:=by rw [List.getD_eq_getElem?_getD,List.getElem?_eq_getElem (by omega)]; rfl
    have hf:fat L W[n]=frc y:=by unfold fat; rw [hy]
    show ∃ o,(bindI L W[n] fun y12=>(F19 k y12).bind fun r31=>Option.bind (α:=Int) (bif r31 then (some 0) else (some (n - frm L W n))) fun (v13:Int)=>F4_r1 k L (W.drop (n+1)) (w ((n:Int)+1)) (w (v+(n - frm L W n))) (w (v13+1)))=_
    rw [bindI_eq w0 hy,x19,Option.bind_some,w_id (n:=(n:Int)+1) (by omega) (by omega),w_id (n:=v+(n - frm L W n)) (by omega) (by omega)]
    obtain ⟨o,ho⟩:=r4 k L W hW hl d (n+1) (W.drop (n+1)) (v+(n - frm L W n)) (by omega) rfl (by omega) (by omega)
    have hfr:frm L W (n+1)=if frc y=true then (n:Int) else frm L W n:=by rw [frm,hg,hf]
    refine ⟨o,?_⟩
    rw [show stp L W n (d+1)=(n - frm L W n)+stp L W (n+1) d from rfl,show v+((n:Int) - frm L W n+stp L W (n+1) d)=v+(n - frm L W n)+stp L W (n+1) d by omega,<- ho]
    cases hc:frc y with
    | true=>
      rw [cond_true,Option.bind_some,w_id (by omega) (by omega),hfr,hc,if_pos rfl]
      congr 1; omega
    | false=>
      rw [cond_false,Option.bind_some,w_id (by omega) (by omega),hfr,hc]
      simp only [Bool.false_eq_true,if_false]
      congr 1; omega
theorem t10_r1 (k:Nat):∀ (A:List Int) (v:Int),∃ r,F10_r1 k A v=some r
  | [],v=>⟨v,rfl⟩
  | x :: A,v=>t10_r1 k A (w (v+1))
theorem t18 (k:Nat) (L:List GItem) (hk:L.length < k):∃ A,F18 k L=some A/\A.length<=4096:=by
  obtain ⟨c,hc,hg⟩:=t64 k L hk
  by_cases h:c=0
  · subst h
    obtain ⟨A,b1,b2,b3,b4,_⟩:=legal_ok k L hc hk
    exact ⟨A,b1,by omega⟩
  · refine ⟨[],?_,by simp⟩
    unfold F18
    rw [hc,Option.bind_some,show (c == 0)=false from beq_eq_false_iff_ne.mpr h]
    rfl
theorem t10 (k:Nat) (L:List GItem) (hk:L.length < k):∃ r,F10 k L=some r:=by
  obtain ⟨A,h1,h2⟩:=t18 k L hk
  obtain ⟨n,hn⟩:=t10_r1 k A 0
  unfold F10 guardL
  rw [h1,Option.bind_some,show Nat.ble (A.length+2) 9223372036854775808=true by rw [Nat.ble_eq]; omega,cond_true,hn]
  simp only [Option.bind_some]
  obtain ⟨u,hu⟩:∃ v,(bif decide (n > 60) then (some (decide (n<=1024))) else (some false):Option Bool)=some v:=ex_bif ⟨_,rfl⟩ ⟨_,rfl⟩
  rw [hu]
  exact ⟨_,rfl⟩
theorem t4 (k:Nat) (L:List GItem) (a b:Int) (hk:4 * L.length+10 < k):F4 k L a b=some true:=by
  obtain ⟨v,hv⟩:=t10 k L (by omega)
  unfold F4
  rw [hv,Option.bind_some]
  cases v with
  | true=>rfl
  | false=>
    rw [cond_false]
    obtain ⟨m,hm0,hm,m1,m2,m3⟩:∃ m,F15 k=some m/\Much m/\m.steps_now=0/\m.cells_now=0/\m.cells_peak=0:=⟨GMeter.mk 0 0 1152921504606846976 0 0 1152921504606846976 0,rfl,⟨rfl,rfl,rfl,by decide,by decide⟩,rfl,rfl,rfl⟩
    rw [hm0,Option.bind_some]
    obtain ⟨r,hr,h⟩:=t11 k L a b m hm m1 m2 m3 hk
    rw [hr,Option.bind_some]
    rcases h with ⟨h1,h2⟩ | ⟨h1,A,h2,h3,h4,h5,h6,h7,h8⟩
    · rw [show (r.2.2.1.kind != 0)=true from bne_iff_ne.mpr h1,cond_true]
      unfold F16 F17
      simp only [Option.bind_some,h2,m1,m3]
      rfl
    · rw [show (r.2.2.1.kind != 0)=false by rw [h1]; rfl,cond_false,h2,Option.bind_some]
      unfold guardL
      rw [show Nat.ble (A.length+2) 9223372036854775808=true by rw [Nat.ble_eq]; omega,cond_true]
      obtain ⟨o,ho⟩:=r4 k L A h5 (by omega) A.length 0 A 0 (by omega) rfl (by decide) (by decide)
      have ho':F4_r1 k L A 0 0 1=some ((A.length:Int),0+stp L A 0 A.length,o):=ho
      rw [ho']
      unfold F16 F17 F20
      simp only [Option.bind_some]
      rw [show (r.2.2.2.steps_now == 0+stp L A 0 A.length)=true by rw [h6,beq_iff_eq]; omega,cond_true,w_id (by omega) (by omega),show (r.2.2.2.cells_peak == 4 * (A.length:Int))=true by rw [h7,beq_iff_eq],cond_true,h8,beq_self_eq_true]
end
end Go.Eng.Lift
