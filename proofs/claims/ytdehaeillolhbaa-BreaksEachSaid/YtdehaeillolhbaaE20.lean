/-
  From a run of the abstract machine to what a statement asks of a law's call.
-/
import Derived.Test.YtdehaeillolhbaaE16
import Derived.ProofKit
import Derived.OpenShut
import Derived.ReadAgain
namespace Go.Eng
noncomputable section
open Go.WideShapes Go.ChangeShapes
def Kept (W W':World):Prop:=(∀ r,r < W.heap.size->W'.heap[r]? = W.heap[r]?)/\W.heap.size<=W'.heap.size/\W'.os=W.os/\W'.output=W.output
theorem Kept.frame {W W':World} (h:Kept W W') (may:MemPlace->Prop):W.keptBut W' may:=by
 refine⟨h.2.2.1,h.2.2.2,λ i hi=>?_⟩
 have:=(World.keptBut_refl W may).2.2 i hi
 rw[h.1 i hi]
 exact this
theorem Kept.frozen {W W':World} (h:Kept W W') (a:Addr) (ha:a.block < W.heap.size):W'.frozen? a=W.frozen? a:=by
 unfold World.frozen?
 rw[h.1 _ ha]
theorem post_of_kept {H:Type} {enc:TypeId×Value->H} {P:Program} {f:Func} {s:ChangeSpec} {apart fresh handsOn again:Bool} {W W':World} {args:Array Value} {v:Value} {ds gs:List (DataW H)} {before pa pv:List MemPlace}
  (hW:DataW.Whole enc P f.params.toList s.vars apart W args.toList ds gs before)
  (hres:∀ (b:Nat) (sp:Nat->Bool) (hd:Bool),DataW.TrodAll enc P W' b sp hd f.resultTypes.toList (v.resultList f.resultTypes.size) (s.fn H (ds++gs)).results [])
  (hargs:∀ sp:Nat->Bool,(∀ p∈before,sp p.block=true)->DataW.TrodAll enc P W' 0 sp true f.params.toList args.toList (s.fn H (ds++gs)).args pa)
  (hvars:∀ sp:Nat->Bool,(∀ p∈before,sp p.block=true)->DataW.TrodVars enc P W' sp s.vars (s.fn H (ds++gs)).vars pv)
  (hps:before=pa++pv) (hk:Kept W W')
  (hok:∀ (j:Nat) (t:TypeId) (r:Value),f.resultTypes[j]? = some t->(v.resultList f.resultTypes.size)[j]? = some r->Value.okWide P W' .any 0 t r) :
  s.post enc P f apart fresh handsOn again W args v W':=by
 have hold:∀ p∈before,(λ b=>decide (b < W.heap.size)) p.block=true:=λ p hp=>by simpa using hW.lt p hp
 refine⟨ds,gs,before,[],pa,pv,hW,hres _ _ _,hargs _ hold,hvars _ hold,World.keptBut_mono (λ p hp=>⟨hp,?_⟩) (hk.frame (· ∈ before)),λ _=>?_⟩
 ·rw[hps,List.mem_append] at hp
  exact Or.inr hp
 ·have hlt:=λ p hp=>hW.lt p hp
  obtain⟨_,_,_,_,_,hz,hn⟩:=hW
  refine⟨hok,_,_,([]++pa)++pv,⟨[]++pa,pv,trodAll_append (hargs _ (λ _ _=>rfl)) (hres _ _ _),hvars _ (λ _ _=>rfl),rfl,?_,?_⟩,?_⟩
  ·intro b off hp
   have hb:MemPlace.cell b off∈before:=by rw[hps]; simpa using hp
   rw[hk.frozen _ (hlt _ hb)]
   exact hz b off hb
  ·intro ha
   have:=hn ha
   rw[hps] at this
   simpa using this
  ·intro p hp _
   rw[hps]
   simpa using hp
end
end Go.Eng
namespace Go.Eng
noncomputable section
variable {P:Program}
def RLe (rec rec':Rec):Prop:=∀ q H x,rec q H=.ok x->rec' q H=.ok x
theorem bmono {α β:Type} {x x':R α} {f f':α->R β} {y:β} (h:(x >>= f)=.ok y) (h1:∀ a,x=.ok a->x'=.ok a) (h2:∀ a,f a=.ok y->f' a=.ok y):(x' >>= f')=.ok y:=by
 obtain⟨a,e1,e2⟩:=bok h
 rw[h1 a e1]
 exact h2 a e2
theorem aOp_mono {rec rec':Rec} (hr:RLe rec rec') {a:AAct} {H:AH} {o:Oper} {x:Value×AH} (h:aOp P rec a H o=.ok x):aOp P rec' a H o=.ok x:=by
 obtain⟨d,op,ty,ps,af,gu⟩:=o
 cases op <;> first | exact h | skip
 case makeFunc fn first cap=>cases fn <;> exact h
 case makeMap t x=>cases x <;> exact h
 rename_i c
 obtain⟨cal,args,ats⟩:=c
 cases cal with
 | builtin b=>cases b <;> exact h
 | invoke rcv name=>
  simp only[aOp] at h ⊢
  refine bmono h (λ _ e=>e) (λ vs h=>bmono h (λ _ e=>e) (λ v h=>?_))
  split at h
  ·refine bmono h (λ _ e=>e) (λ f h=>bmono h (λ a e=>hr _ _ _ e) (λ r h=>h))
  ·cases h
 | value f=>
  simp only[aOp] at h ⊢
  refine bmono h (λ _ e=>e) (λ vs h=>bmono h (λ _ e=>e) (λ v h=>?_))
  split at h
  ·exact bmono h (λ a e=>hr _ _ _ e) (λ r h=>h)
  ·split at h
   ·split at h
    ·cases h
    ·rename_i hlen
     rw[if_neg hlen]
     split at h
     ·refine bmono h (λ _ e=>e) (λ act h=>bmono h (λ a e=>hr _ _ _ e) (λ r h=>?_))
      split at h
      ·split at h
       ·split at h
        ·cases h
        ·rename_i hst
         rw[if_neg hst]
         exact bmono h (λ a e=>hr _ _ _ e) (λ r h=>h)
       ·cases h
      ·cases h
     ·cases h
   ·cases h
  ·cases h
theorem aOps_mono {rec rec':Rec} (hr:RLe rec rec') {rnd:Option Nat} {all:List Oper} : ∀ (os:List Oper) (a:AAct) (H:AH) (x:AAct×AH),aOps P rec rnd all os a H=.ok x->aOps P rec' rnd all os a H=.ok x
 | [],_,_,_,h=>h
 | o :: os,a,H,x,h=>by
  simp only[aOps] at h ⊢
  refine bmono h (λ _ e=>e) (λ b h=>?_)
  cases b with
  | true=>
   simp only[if_true] at h ⊢
   cases hd:deferOf o.op with
   | some c=>
    simp only[hd] at h ⊢
    split at h
    ·cases h
    ·rename_i hb
     rw[if_neg hb]
     exact bmono h (λ _ e=>e) (λ d h=>bmono h (λ _ e=>e) (λ a1 h=>aOps_mono hr os _ _ _ h))
   | none=>
    simp only[hd] at h ⊢
    exact bmono h (λ r e=>aOp_mono hr e) (λ r h=>bmono h (λ _ e=>e) (λ a1 h=>aOps_mono hr os _ _ _ h))
  | false=>
   simp only[Bool.false_eq_true,if_false] at h ⊢
   exact bmono h (λ _ e=>e) (λ a1 h=>aOps_mono hr os _ _ _ h)
theorem aDo_mono {rec rec':Rec} (hr:RLe rec rec') {os:List Oper} {a:AAct} {H:AH} {o:Oper} {x:Value×AH} (h:aDo P rec os a H o=.ok x):aDo P rec' os a H o=.ok x:=by
 unfold aDo at h ⊢
 refine bmono h (λ _ e=>e) (λ b h=>?_)
 cases b with
 | true=>exact aOp_mono hr h
 | false=>exact h
theorem sameBack_mono {rec rec':Rec} (hr:RLe rec rec') {os:List Oper} {pn:List Pend} {a:AAct} {o:Oper} {v:Value} {c:Nat} : ∀ l:List (Nat×PM),sameBack P rec os pn a o v c l=true->sameBack P rec' os pn a o v c l=true
 | [],h=>h
 | (j,H) :: l,h=>by
  simp only[sameBack] at h ⊢
  split at h
  ·rename_i hb; rw[if_pos hb]
  ·rename_i hb
   rw[if_neg hb]
   rw[Bool.and_eq_true] at h ⊢
   refine⟨?_,sameBack_mono hr l h.2⟩
   have h1:=h.1
   split at h1
   ·rename_i u H1 hd
    rw[aDo_mono hr hd]
    exact h1
   ·cases h1
theorem dStep_mono {rec rec':Rec} (hr:RLe rec rec') {os:List Oper} {cl:List Nat} {s s':DS} {j:Nat} (h:dStep P rec os cl s j=.ok s'):dStep P rec' os cl s j=.ok s':=by
 unfold dStep at h ⊢
 split at h
 ·cases h
 ·split at h
  ·cases h
  rename_i h1
  rw[if_neg h1]
  split at h
  ·cases h
  rename_i h2
  rw[if_neg h2]
  split at h
  ·exact h
  ·cases h
  refine bmono h (λ r e=>aDo_mono hr e) (λ r h=>bmono h (λ _ e=>e) (λ a1 h=>?_))
  split at h
  ·rename_i hp
   rw[if_pos hp]
   exact h
  ·rename_i hp
   rw[if_neg hp]
   split at h
   ·rename_i hq
    rw[if_pos hq]
    split at h
    ·rename_i hs
     rw[if_pos (sameBack_mono hr _ hs)]
     exact h
    ·cases h
   ·rename_i hq
    rw[if_neg hq]
    exact h
theorem foldlM_mono {α β:Type} {f g:α->β->R α} (hfg:∀ a b c,f a b=.ok c->g a b=.ok c):∀ (l:List β) (s s':α),l.foldlM f s=.ok s'->l.foldlM g s=.ok s'
 | [],_,_,h=>h
 | x :: l,s,s',h=>by
  simp only[List.foldlM_cons] at h ⊢
  exact bmono h (λ a e=>hfg _ _ _ e) (λ a h=>foldlM_mono hfg l a s' h)
theorem aDraw_mono {rec rec':Rec} (hr:RLe rec rec') {os:List Oper} {a:AAct} {H:AH} {x:AAct×AH} (h:aDraw P rec os a H=.ok x):aDraw P rec' os a H=.ok x:=by
 unfold aDraw at h ⊢
 simp only at h ⊢
 split at h
 ·rename_i ht
  rw[if_pos ht]
  exact bmono h (λ s e=>foldlM_mono (λ _ _ _ e=>dStep_mono hr e) _ _ _ e) (λ s h=>h)
 ·cases h
theorem aLeave_mono {rec rec':Rec} (hr:RLe rec rec'):∀ (ms:List ADef) (H H1:AH),aLeave P rec ms H=.ok H1->aLeave P rec' ms H=.ok H1
 | [],_,_,h=>h
 | .mark m :: ms,H,H1,h=>by
  simp only[aLeave] at h ⊢
  split at h
  ·exact aLeave_mono hr ms _ _ h
  ·cases h
 | .call f args :: ms,H,H1,h=>by
  simp only[aLeave] at h ⊢
  refine bmono h (λ _ e=>e) (λ b h=>bmono h (λ r e=>hr _ _ _ e) (λ r h=>?_))
  split at h
  ·split at h
   ·rename_i hm
    rw[if_pos hm]
    exact bmono h (λ _ e=>e) (λ _ h=>aLeave_mono hr ms _ _ h)
   ·cases h
  ·split at h
   ·rename_i hm
    rw[if_pos hm]
    exact bmono h (λ _ e=>e) (λ _ h=>aLeave_mono hr ms _ _ h)
   ·cases h
  ·cases h
theorem aStep_mono {rec rec':Rec} (hr:RLe rec rec'):RLe (aStep P rec) (aStep P rec'):=by
 intro q H x h
 cases q with
 | call f args=>
  simp only[aStep] at h ⊢
  refine bmono h (λ _ e=>e) (λ b h=>bmono h (λ r e=>hr _ _ _ e) (λ r h=>?_))
  split at h
  ·exact bmono h (λ H e=>aLeave_mono hr _ _ _ e) (λ _ h=>h)
  ·exact bmono h (λ H e=>aLeave_mono hr _ _ _ e) (λ _ h=>h)
  ·cases h
 | code rnd c a=>
  cases c with
  | skip=>exact h
  | label l=>exact h
  | ret=>exact h
  | exit id=>exact h
  | goto l=>exact h
  | seq c1 c2=>
   simp only[aStep] at h ⊢
   refine bmono h (λ r e=>hr _ _ _ e) (λ r h=>?_)
   obtain⟨res,H1⟩:=r
   cases res with
   | val v=>exact h
   | out x1 a1=>
    cases x1 with
    | normal=>exact hr _ _ _ h
    | exit id=>exact h
    | goto l=>exact h
    | ret=>exact h
  | cond o c1 c2=>
   simp only[aStep] at h ⊢
   refine bmono h (λ _ e=>e) (λ v h=>?_)
   split at h
   ·exact hr _ _ _ h
   ·cases h
  | block id c1=>
   simp only[aStep] at h ⊢
   exact bmono h (λ r e=>hr _ _ _ e) (λ r h=>h)
  | loop c1=>
   simp only[aStep] at h ⊢
   refine bmono h (λ r e=>hr _ _ _ e) (λ r h=>?_)
   obtain⟨res,H1⟩:=r
   cases res with
   | val v=>exact h
   | out x1 a1=>
    cases x1 with
    | normal=>exact hr _ _ _ h
    | exit id=>exact h
    | goto l=>exact h
    | ret=>exact h
  | region id ops draw=>
   cases draw with
   | false=>
    simp only[aStep] at h ⊢
    exact bmono h (λ r e=>aOps_mono hr _ _ _ _ e) (λ r h=>h)
   | true=>
    simp only[aStep] at h ⊢
    split at h
    ·cases h
    rename_i hf
    rw[if_neg hf]
    exact bmono h (λ r e=>aDraw_mono hr e) (λ r h=>h)
  | rangeFunc g params assign body=>
   simp only[aStep] at h ⊢
   refine bmono h (λ _ e=>e) (λ m h=>bmono h (λ _ e=>e) (λ l h=>bmono h (λ _ e=>e) (λ gv h=>?_)))
   split at h
   ·refine bmono h (λ r e=>hr _ _ _ e) (λ r h=>?_)
    split at h
    ·split at h
     ·split at h
      ·cases h
      ·rename_i hb
       rw[if_neg hb]
       split at h
       ·exact h
       ·exact hr _ _ _ h
     ·cases h
    ·cases h
   ·cases h
  | _=>simp only[aStep] at h; cases h
end
end Go.Eng
namespace Go.Eng
noncomputable section
variable {P:Program}
def heapOf:Nat->List (Row×Pl)->AH->AH
 | _,[],H=>H
 | k,(r,_) :: l,H=>heapOf (k+1) l ⟨T.put (Nat.succ k) H.objs k (.row r),k+1⟩
def rhoOf (l:List (Row×Pl)):Ren:=λ i=>(l[i]?).map (·.2)
theorem heapOf_get:∀ (l:List (Row×Pl)) (k:Nat) (H:AH),∀ j,(heapOf k l H).get j=if k<=j/\j < k+l.length then(l[j - k]?).map (λ x=>AO.row x.1) else H.get j
 | [],k,H,j=>by rw[if_neg (by simp)]; rfl
 | (r,pl) :: l,k,H,j=>by
  rw[heapOf,heapOf_get l (k+1) _ j]
  have hp:(⟨T.put (Nat.succ k) H.objs k (.row r),k+1⟩:AH).get j=if j=k then some (.row r) else H.get j:=T.get_put' _ _ _ _
  simp only[List.length_cons]
  by_cases h1:k+1<=j/\j < k+1+l.length
  ·rw[if_pos h1,if_pos (by omega)]
   obtain⟨d,rfl⟩:∃ d,j=k+1+d:=⟨j - (k+1),by omega⟩
   rw[show k+1+d - (k+1)=d by omega,show k+1+d - k=d+1 by omega]
   simp
  ·rw[if_neg h1,hp]
   by_cases e:j=k
   ·subst e
    rw[if_pos rfl,if_pos (by omega)]
    simp
   ·rw[if_neg e,if_neg (by omega)]
theorem heapOf_next:∀ (l:List (Row×Pl)) (k:Nat) (H:AH),H.next=k->(heapOf k l H).next=k+l.length
 | [],k,H,h=>h
 | (r,pl) :: l,k,H,h=>by
  rw[heapOf,heapOf_next l (k+1) _ rfl]
  simp only[List.length_cons]
  omega
structure Lent (ρ:Ren) (W:World) (r:Row) (pl:Pl):Prop where
 ro:r.ro=true
 fam:r.fam=0
 disp:r.disp=pl.base
 solo:r.solo=false
 lt:pl.blk < W.heap.size
 or:OR ρ W pl (.row r)
def firstOf (l:List (Row×Pl)):AH:=heapOf 0 l AH.empty
theorem firstOf_get {l:List (Row×Pl)} (j:Nat):(firstOf l).get j=(l[j]?).map (λ x=>AO.row x.1):=by
 unfold firstOf
 rw[heapOf_get l 0 _ j]
 by_cases h1:j < l.length
 ·rw[if_pos (by omega)]; simp
 ·rw[if_neg (by omega),List.getElem?_eq_none (by omega)]; rfl
theorem rel_first {W:World} {l:List (Row×Pl)} (h:∀ x∈l,Lent (rhoOf l) W x.1 x.2):Rel (rhoOf l) (firstOf l) W:=by
 have hnext:(firstOf l).next=l.length:=by unfold firstOf; rw[heapOf_next l 0 _ rfl]; omega
 have get:∀ j o,(firstOf l).get j=some o->∃ x∈l,l[j]? = some x/\o=.row x.1/\rhoOf l j=some x.2:=λ j o hj=>by
  rw[firstOf_get] at hj
  cases hx:l[j]? with
  | none=>rw[hx] at hj; cases hj
  | some x=>
   rw[hx] at hj
   cases hj
   exact⟨x,List.mem_of_getElem? hx,rfl,rfl,by unfold rhoOf; rw[hx]; rfl⟩
 refine⟨λ id pl hp=>?_,trivial,λ id o ho=>?_,λ i j oi oj pi pj hi hj _ hpi hpj hb=>?_⟩
 ·rw[hnext]
  unfold rhoOf at hp
  rcases Nat.lt_or_ge id l.length with h' | h'
  ·exact h'
  ·rw[List.getElem?_eq_none h'] at hp; cases hp
 ·obtain⟨x,hx,_,rfl,hr⟩:=get id o ho
  exact⟨x.2,hr,(h x hx).lt,(h x hx).or⟩
 ·obtain⟨x,hx,_,rfl,hr⟩:=get i oi hi
  obtain⟨y,hy,_,rfl,hs⟩:=get j oj hj
  rw[hr] at hpi; cases hpi
  rw[hs] at hpj; cases hpj
  have a:=h x hx
  have b:=h y hy
  exact⟨x.1,y.1,rfl,rfl,by rw[a.fam,b.fam],by rw[a.disp,b.disp]; omega,a.solo,b.solo⟩
theorem Kept.same {W W':World} (h:Kept W W') {p:MemPlace} (hp:p.block < W.heap.size):W.sameAt W' p:=by
 cases p with
 | cell b off=>exact cell_congr (h.1 b hp)
 | map b=>exact h.1 b hp
theorem trodAll_kept {H:Type} {enc:TypeId×Value->H} {W W':World} (hk:Kept W W') {b:Nat} {sp:Nat->Bool} {hd:Bool} : ∀ {ts:List TypeId} {vs:List Value} {ds:List (DataW H)} {ps:List MemPlace},
  DataW.TrodAll enc P W b sp hd ts vs ds ps->(∀ p∈ps,p.block < W.heap.size)->DataW.TrodAll enc P W' b sp hd ts vs ds ps
 | [],[],[],_,h,_=>h
 | _ :: _,_ :: _,_ :: _,_,⟨p,q,⟨n,h1⟩,h2,e⟩,hs=>
  ⟨p,q,⟨n,DataW.trod_carry n _ _ _ h1 (λ x hx=>hk.same (hs x (by rw[e]; exact List.mem_append_left _ hx)))⟩,trodAll_kept hk h2 (λ x hx=>hs x (by rw[e]; exact List.mem_append_right _ hx)),e⟩
end
end Go.Eng
namespace Go.Eng
noncomputable section
variable {P:Program}
def known (O:FuncId->Option Value) (f:FuncId) (args:List Value):Option Value:=
 match args with
 | []=>O f
 | _ :: _=>none
def oRun (P:Program) (O:FuncId->Option Value):Nat->Rec
 | 0,_,_=>.error 0
 | n+1,.call f args,H=>
  match known O f args with
  | some v=>.ok (.val v,H)
  | none=>aStep P (oRun P O n) (.call f args) H
 | n+1,.code r c a,H=>aStep P (oRun P O n) (.code r c a) H
theorem oRun_mono {O:FuncId->Option Value} : ∀ n,RLe (oRun P O n) (oRun P O (n+1))
 | 0=>λ q H x h=>by simp only[oRun] at h; cases h
 | n+1=>λ q H x h=>by
  cases q with
  | call f args=>
   simp only[oRun] at h ⊢
   cases hk:known O f args with
   | some v=>rw[hk] at h; exact h
   | none=>rw[hk] at h; exact aStep_mono (oRun_mono n) _ _ _ h
  | code r c a=>exact aStep_mono (oRun_mono n) _ _ _ h
theorem oRun_le {O:FuncId->Option Value} {n m:Nat} (h:n<=m):RLe (oRun P O n) (oRun P O m):=by
 induction h with
 | refl=>exact λ q H x h=>h
 | step _ ih=>exact λ q H x h=>oRun_mono _ q H x (ih q H x h)
def Told (P:Program) (O:FuncId->Option Value):Prop:=∀ f v,O f=some v->gnd gd v=true/\∃ n H',aRun P n (.call f []) AH.empty=.ok (.val v,H')
theorem told_call {O:FuncId->Option Value} (hO:Told P O) {f:FuncId} {v:Value} (hf:O f=some v) :
  (∃ fn c,P.funcs[f]? = some fn/\fn.body=some c/\(fn.name == "runtime.NumGoroutine")=false) /\
  ∀ (ρ:Ren) (H:AH) (W:World) (args':List Value) (n:Nat),Rel ρ H W->LR ρ [] args'->CallsIn (WF none) n P f args'.toArray W (CallPost ρ H W v H):=by
 obtain⟨hg,n0,H0,h0⟩:=hO f v hf
 obtain⟨k1,k2⟩:=(aRun_ok (P:=P) n0).call f [] AH.empty v H0 h0
 refine⟨k1,λ ρ H W args' n hR hl=>?_⟩
 have he:args'=[]:=by
  have:=hl.1
  cases args' with
  | nil=>rfl
  | cons x l=>simp at this
 subst he
 refine CallsIn.mono (k2 (λ _=>none) W [] n (Rel.empty W) (LR.nil _)) (λ e W' hp=>?_)
 obtain⟨ρ',v',rfl,st,hv⟩:=hp
 have hv':v'=v:=gnd_eq _ hg hv
 subst hv'
 have same:∀ b,b < W.heap.size->W'.heap[b]? = W.heap[b]?:=λ b hb=>(st.keep b hb (λ⟨id,o,pl,h,_⟩=>by cases h)).1
 refine⟨ρ,v',rfl,⟨Ren.le_refl ρ,⟨hR.dom,hR.nxt,λ id o ho=>?_,hR.share⟩,Nat.le_refl _,st.size,λ b hb hn=>⟨same b hb,hn⟩,st.tape,st.os,st.output,λ _ _=>rfl,λ _ _ hb=>hb⟩,gnd_refl _ hg⟩
 obtain⟨pl,a,b,c⟩:=hR.obj id o ho
 exact⟨pl,a,Nat.lt_of_lt_of_le b st.size,c.congr (Ren.le_refl ρ) (same _ b)⟩
theorem oRun_ok {O:FuncId->Option Value} (hO:Told P O):∀ n,RecOK2 P (oRun P O n)
 | 0=>⟨⟨λ f args H v H' h=>(by simp only[oRun] at h; cases h),λ r c a H x a' H' h=>(by simp only[oRun] at h; cases h),λ f args H x a H' h=>(by simp only[oRun] at h; cases h),λ r c a H v H' h=>(by simp only[oRun] at h; cases h)⟩,
   λ r c a H x a' H' h=>(by simp only[oRun] at h; cases h)⟩
 | n+1=>
  have ih:=oRun_ok hO n
  ⟨⟨λ f args H v H' h=>by
    simp only[oRun] at h
    cases hk:known O f args with
    | some u=>
     rw[hk] at h
     cases h
     cases args with
     | nil=>
      obtain⟨k1,k2⟩:=told_call hO hk
      exact⟨k1,λ ρ W args' n hR hl=>k2 ρ H W args' n hR hl⟩
     | cons x l=>cases hk
    | none=>rw[hk] at h; exact step_call ih.toRecOK h,
   λ _ _ _ _ _ _ _ h=>(step_code ih h).1,
   λ f args H x a H' h=>by
    simp only[oRun] at h
    cases hk:known O f args with
    | some u=>rw[hk] at h; cases h
    | none=>rw[hk] at h; exact step_callVal h,
   λ _ _ _ _ _ _ h=>step_codeOut ih.toRecOK h⟩,
   λ _ _ _ _ _ _ _ h=>(step_code ih h).2 _ rfl⟩
theorem law_first_o {O:FuncId->Option Value} (hO:Told P O) {W:World} {l:List (Row×Pl)} (h:∀ x∈l,Lent (rhoOf l) W x.1 x.2) {vs:List Value} {args:Array Value} (ha:LR (rhoOf l) vs args.toList) {n:Nat} {f:FuncId} {b:Bool} {H':AH}
  (hrun:oRun P O n (.call f vs) (firstOf l)=.ok (.val (.bool b),H')):Calls P f args W (λ e w'=>e=.returned (.bool b)/\Kept W w'):=by
 obtain⟨_,hc⟩:=(oRun_ok hO n).call f vs (firstOf l) _ H' hrun
 have:=hc (rhoOf l) W args.toList 0 (rel_first h) ha
 rw[show args.toList.toArray=args by simp] at this
 have h3:Calls P f args W (CallPost (rhoOf l) (firstOf l) W (.bool b) H'):=callsIn_wide.1 this
 intro cs
 obtain⟨e,w',fr,r,s,x⟩:=h3 cs
 obtain⟨ρ',v',rfl,st,hv⟩:=r
 rw[hv.bool_inv] at s x
 refine⟨_,w',fr,⟨rfl,λ r hr=>(st.keep r hr ?_).1,st.size,st.os,st.output⟩,s,x⟩
 rintro⟨id,o,pl,h1,h2,_⟩
 rw[firstOf_get] at h1
 cases hx:l[id]? with
 | none=>rw[hx] at h1; cases h1
 | some y=>
  rw[hx] at h1
  cases h1
  simp[AO.rw,(h y (List.mem_of_getElem? hx)).ro] at h2
end
end Go.Eng
