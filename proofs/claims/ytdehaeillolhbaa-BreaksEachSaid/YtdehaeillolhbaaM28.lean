/-
  Rows of so many elements: pointers into them, out of which one comes is known at run time alone.
-/
import Derived.Test.YtdehaeillolhbaaM27
namespace Go.Eng
noncomputable section
def flatU {α:Type} (c:α->List PV):List α->List PV
 | []=>[]
 | y :: l=>c y++flatU c l
section flat
variable {α:Type} {c:α->List PV} {sz:Nat} (hc:∀ y,(c y).length=sz)
include hc
theorem flatU_len:∀ (S:List α),(flatU c S).length=S.length * sz
 | []=>by simp[flatU]
 | y :: l=>by simp only[flatU,List.length_append,hc,flatU_len l,List.length_cons,Nat.add_mul,Nat.one_mul]; omega
theorem flatU_drop:∀ (S:List α) (i:Nat) (y:α),S[i]? = some y->(flatU c S).drop (i * sz)=c y++flatU c (S.drop (i+1))
 | [],i,y,h=>by simp at h
 | z :: l,0,y,h=>by
  simp at h; subst h
  simp[flatU]
 | z :: l,i+1,y,h=>by
  have h':l[i]? = some y:=by simpa using h
  have:=flatU_drop l i y h'
  show(c z++flatU c l).drop ((i+1) * sz)=_
  rw[List.drop_append,show(i+1) * sz=sz+i * sz by rw[Nat.add_mul,Nat.one_mul]; omega,List.drop_eq_nil_of_le (by rw[hc]; omega),List.nil_append,hc,show sz+i * sz - sz=i * sz by omega,this]
  rfl
theorem flatU_get {S:List α} {i o:Nat} {y:α} (h:S[i]? = some y) (ho:o < sz):(flatU c S)[i * sz+o]? = (c y)[o]?:=by
 rw[<- List.getElem?_drop,flatU_drop hc S i y h,List.getElem?_append_left (by rw[hc]; exact ho)]
theorem flatU_part {S:List α} {i o n:Nat} {y:α} (h:S[i]? = some y) (ho:o+n<=sz):((flatU c S).drop (i * sz+o)).take n=((c y).drop o).take n:=by
 rw[<- List.drop_drop,flatU_drop hc S i y h,List.drop_append_of_le_length (by rw[hc]; omega),List.take_append_of_le_length (by rw[List.length_drop,hc]; omega)]
theorem flatU_set {S:List α} {i:Nat} {y z:α} (h:S[i]? = some y):pSplice (flatU c S) (i * sz) (c z)=flatU c (S.set i z):=by
 unfold pSplice
 have key:∀ (S:List α) (i:Nat) (y:α),S[i]? = some y->(flatU c S).take (i * sz)++c z++(flatU c S).drop (i * sz+sz)=flatU c (S.set i z):=by
  intro S
  induction S with
  | nil=>intro i y h; simp at h
  | cons w l ih=>
   intro i y h
   cases i with
   | zero=>
    simp only[Nat.zero_mul,List.take_zero,List.nil_append,Nat.zero_add,flatU,List.set_cons_zero]
    rw[List.drop_append,hc,List.drop_eq_nil_of_le (by rw[hc]; omega),Nat.sub_self,List.drop_zero,List.nil_append]
   | succ i=>
    have:=ih i y (by simpa using h)
    simp only[flatU,List.set_cons_succ]
    rw[<- this,show(i+1) * sz=sz+i * sz by rw[Nat.add_mul,Nat.one_mul]; omega,List.take_append,List.take_of_length_le (by rw[hc]; omega),hc,show sz+i * sz - sz=i * sz by omega]
    rw[List.drop_append,hc,List.drop_eq_nil_of_le (by rw[hc]; omega),show sz+i * sz+sz - sz=i * sz+sz by omega]
    simp[List.append_assoc]
 have:=key S i y h
 rw[hc]
 exact this
end flat
def gpO (l k sz:Nat):Option (Option Nat)->Nat->PV
 | none,_=>.val (.pointer none)
 | some none,o=>.ptr l o
 | some (some i),o=>.ptr k (i * sz+o)
theorem gp_l {k sz:Nat} (l l':Nat) (o:Option Nat) (x:Nat):gpO l k sz (o.map some) x=gpO l' k sz (o.map some) x:=by cases o <;> rfl
def getG {α:Type} (z:α) (S:List α):Option (Option Nat)->Option α
 | none=>none
 | some none=>some z
 | some (some i)=>S[i]?
theorem getG_some {α:Type} {z y:α} {S:List α} {p:Option (Option Nat)} (h:getG z S p=some y):p≠none:=by rintro rfl; cases h
def bindG {α β:Type} (z:α) (S:List α) (p:Option (Option Nat)) (f:α->Option β):Option β:=(getG z S p).bind f
theorem bindGK {α β:Type} {z:α} {S:List α} {p:Option (Option Nat)} {f:α->Option β} {r:β} {q:Prop} (h:bindG z S p f=some r) (k:∀ y,getG z S p=some y->f y=some r->q):q:=by
 unfold bindG at h
 obtain⟨y,h1,h2⟩:=Option.bind_eq_some_iff.1 h
 exact k y h1 h2
def bindN {β:Type} (i:Int) (n:Nat) (f:Option β):Option β:=if 0<=i/\i < n then f else none
theorem bindNK {β:Type} {i:Int} {n:Nat} {f:Option β} {r:β} {q:Prop} (h:bindN i n f=some r) (k:0<=i->i < n->f=some r->q):q:=by
 unfold bindN at h
 split at h
 ·rename_i hi; exact k hi.1 hi.2 h
 ·cases h
def bindE {α β:Type} (S:List α) (f:Option β):Option β:=bif S.isEmpty then none else f
theorem bindEK {α β:Type} {S:List α} {f:Option β} {r:β} {q:Prop} (h:bindE S f=some r) (k:S.isEmpty=false->f=some r->q):q:=by
 unfold bindE at h
 cases hs:S.isEmpty with
 | true=>rw[hs] at h; cases h
 | false=>rw[hs] at h; exact k hs h
section ops
variable {P:Program} {O:FuncId->Option Value} {s:PS} {d:Option Tmp} {ty:TypeId} {pst:String} {af:Array Edge} {gu:Option (Nat×Bool)} {α:Type} {c:α->List PV} {sz l k o e1 e2:Nat} {z y:α} {S:List α} {p:Option (Option Nat)} {x:Operand}
theorem pPart_flat (hc:∀ y,(c y).length=sz) {i:Nat} (h:S[i]? = some y) {t:TypeId} {q:PV} (hq:pPart P t (c y) o=some q):pPart P t (flatU c S) (i * sz+o)=some q:=by
 unfold pPart at hq ⊢
 cases ha:tAgg P t with
 | error n=>rw[ha] at hq; cases hq
 | ok b=>
  rw[ha] at hq
  cases b with
  | true=>
   cases hn:tSize P t with
   | error n=>rw[hn] at hq; cases hq
   | ok n=>
    rw[hn] at hq
    obtain⟨hle,hq⟩:=pick_some hq
    rw[Nat.ble_eq,hc] at hle
    have hi:i < S.length:=lt_of_get h
    have hlen:i * sz+o+n<=(flatU c S).length:=by
     rw[flatU_len hc]
     have:=Nat.mul_le_mul_right sz (Nat.succ_le_of_lt hi)
     rw[Nat.succ_mul] at this
     omega
    have hb:Nat.ble (i * sz+o+n) (flatU c S).length=true:=by rw[Nat.ble_eq]; exact hlen
    simp only[flatU_part hc h hle,hb]
    exact hq
  | false=>
   have ho:o < sz:=by
    rcases Nat.lt_or_ge o sz with h' | h'
    ·exact h'
    ·have hq':(c y)[o]? = some q:=hq
     rw[List.getElem?_eq_none (by rw[hc]; exact h')] at hq'; cases hq'
   show(flatU c S)[i * sz+o]? = _
   rw[flatU_get hc h ho]; exact hq
theorem pLoad_ptr {k o e:Nat} {cs:List PV} (hR:s.fr[k]? = some ⟨e,cs⟩) {t:TypeId} {q:PV} (hq:pPart P t cs o=some q):pLoad P s.fr t (.ptr k o)=some q:=by
 unfold pPart at hq
 unfold pLoad
 simp only[hR]
 exact hq
theorem pLoad_g (hc:∀ y,(c y).length=sz) (hl:s.fr[l]? = some ⟨e1,c z⟩) (hk:s.fr[k]? = some ⟨e2,flatU c S⟩) (hg:getG z S p=some y) {t:TypeId} {q:PV} (hq:pPart P t (c y) o=some q):pLoad P s.fr t (gpO l k sz p o)=some q:=by
 cases p with
 | none=>cases hg
 | some p=>
  cases p with
  | none=>
   have e:z=y:=Option.some.inj hg
   subst e
   exact pLoad_ptr hl hq
  | some i=>exact pLoad_ptr hk (pPart_flat hc hg hq)
theorem load_of {t:TypeId} {q v:PV} (hx:s.ev x=some v) (hq:pLoad P s.fr t v=some q):OpSame P O s ⟨d,.load t x,ty,pst,af,gu⟩ q:=
 ⟨rfl,λ C e a H hR=>by
  obtain⟨u,h1,h2⟩:=hR.ev hx
  obtain⟨id,off,w,h3,h4,h5⟩:=hR.load h2 hq
  refine⟨0,w,?_,h5⟩
  simp only[aOp,AAct.ev_eval h1,bind,Except.bind,h3,h4]⟩
theorem nilG_ok (hx:s.ev x=some (gpO l k sz p o)) (hp:p≠none):OpSame P O s ⟨d,.nilCheck x,ty,pst,af,gu⟩ (gpO l k sz p o):=
 ⟨rfl,λ C e a H hR=>by
  obtain⟨u,h1,h2⟩:=hR.ev hx
  refine⟨0,u,?_,h2⟩
  cases p with
  | none=>exact absurd rfl hp
  | some p=>
   cases p with
   | none=>cases h2 with | ptr hk=>simp only[aOp,AAct.ev_eval h1,bind,Except.bind]
   | some i=>cases h2 with | ptr hk=>simp only[aOp,AAct.ev_eval h1,bind,Except.bind]⟩
theorem fieldG_ok {t:TypeId} {f:Nat} (hx:s.ev x=some (gpO l k sz p o)) (hp:p≠none) {o':Nat} (h1:∀ kk oo,pPure P ⟨T.put AH.top (T.full 10) 0 (.ptr kk oo),1,[],[],0,0,[]⟩ (.fieldAddr t (.tmp 0) f)=some (.ptr kk (oo+o'))):OpSame P O s ⟨d,.fieldAddr t x f,ty,pst,af,gu⟩ (gpO l k sz p (o+o')):=by
 have key:∀ kk oo,s.ev x=some (.ptr kk oo)->OpSame P O s ⟨d,.fieldAddr t x f,ty,pst,af,gu⟩ (.ptr kk (oo+o')):=λ kk oo hx=>by
  have h2:=h1 kk oo
  have e0:(PS.ev ⟨T.put AH.top (T.full 10) 0 (.ptr kk oo),1,[],[],0,0,[]⟩ (.tmp 0))=some (.ptr kk oo):=rfl
  have:pPure P s (.fieldAddr t x f)=some (.ptr kk (oo+o')):=by
   rw[<- h2]
   simp only[pPure,hx,e0]
  have:=pPure_core (O:=O) (o:=⟨d,.fieldAddr t x f,ty,pst,af,gu⟩) this
  exact⟨this.1,λ C e a H hR=>let ⟨v,k1,k2⟩:=this.2 C e a H hR; ⟨0,v,k1,k2⟩⟩
 cases p with
 | none=>exact absurd rfl hp
 | some p=>
  cases p with
  | none=>exact key l o hx
  | some i=>
   have:=key k (i * sz+o) hx
   rw[Nat.add_assoc] at this
   exact this
theorem cmpNil {t t2:TypeId} {el:TypeId} {w:Operand} {op:BinOp} {q:PV} {b f:Bool} (hop:op=.eql\/op=.neq) (ht:P.underlying t=some (.pointer el)) (hx:s.ev x=some q) (hw:s.ev w=some (.val (.pointer none))) (hq:(∃ k o,q=.ptr k o)/\f=false\/q=.val (.pointer none)/\f=true) (hb:b=match op with | .eql=>f | _=>!f) (hn:f=true->aBin P op t x w (.pointer none) (.pointer none)=.ok (.bool b)) :
  OpSame P O s ⟨d,.binOp op t x w t2,ty,pst,af,gu⟩ (vB b):=by
 refine⟨rfl,λ C e a H hR=>?_⟩
 obtain⟨u,h1,h2⟩:=hR.ev hx
 obtain⟨v,h3,h4⟩:=hR.ev hw
 have e1:=h4.bool_inv; subst e1
 refine⟨0,.bool b,?_,.val rfl⟩
 rcases hq with⟨⟨k,o,rfl⟩,rfl⟩ | ⟨rfl,rfl⟩
 ·cases h2 with
  | @ptr _ _ id hk=>
   rcases hop with rfl | rfl <;> subst hb <;> simp[aOp,AAct.ev_eval h1,AAct.ev_eval h3,bind,Except.bind,bothPtr,aBin,gnd,nilness,nilFits,ht]
 ·have e2:=h2.bool_inv; subst e2
  simp only[aOp,AAct.ev_eval h1,AAct.ev_eval h3,bind,Except.bind,bothPtr,Bool.false_eq_true,if_false,hn rfl]
theorem eqNilG_ok {t t2:TypeId} {el:TypeId} {w:Operand} (ht:P.underlying t=some (.pointer el)) (hx:s.ev x=some (gpO l k sz p o)) (hw:s.ev w=some (.val (.pointer none))) (hn:aBin P .eql t x w (.pointer none) (.pointer none)=.ok (.bool true)):OpSame P O s ⟨d,.binOp .eql t x w t2,ty,pst,af,gu⟩ (vB p.isNone):=by
 refine cmpNil (f:=p.isNone) (.inl rfl) ht hx hw ?_ rfl (λ h=>by rw[h]; exact hn)
 rcases p with _ | _ | i
 ·exact .inr ⟨rfl,rfl⟩
 ·exact .inl ⟨⟨_,_,rfl⟩,rfl⟩
 ·exact .inl ⟨⟨_,_,rfl⟩,rfl⟩
theorem neNilG_ok {t t2:TypeId} {el:TypeId} {w:Operand} (ht:P.underlying t=some (.pointer el)) (hx:s.ev x=some (gpO l k sz p o)) (hw:s.ev w=some (.val (.pointer none))) (hn:aBin P .neq t x w (.pointer none) (.pointer none)=.ok (.bool false)):OpSame P O s ⟨d,.binOp .neq t x w t2,ty,pst,af,gu⟩ (vB (!p.isNone)):=by
 refine cmpNil (f:=p.isNone) (.inr rfl) ht hx hw ?_ rfl (λ h=>by rw[h]; exact hn)
 rcases p with _ | _ | i
 ·exact .inr ⟨rfl,rfl⟩
 ·exact .inl ⟨⟨_,_,rfl⟩,rfl⟩
 ·exact .inl ⟨⟨_,_,rfl⟩,rfl⟩
theorem neG_ok {t t2 el:TypeId} {w:Operand} {q:Option (Option Nat)} {n:Nat} {cs:List PV} (ht:P.underlying t=some (.pointer el)) (htz:tSize P el=.ok n) (hn0:n≠0) (hsz:0 < sz) (hc:∀ y,(c y).length=sz) (hx:s.ev x=some (gpO l k sz p 0)) (hw:s.ev w=some (gpO l k sz q 0)) (hlk:l≠k)
  (hl:s.fr[l]? = some ⟨e1,cs⟩) (hcs:cs.isEmpty=false) (hk:s.fr[k]? = some ⟨e2,flatU c S⟩) (he2:Nat.ble 2 e2=true) (hS:S.isEmpty=false) (hnn:aBin P .neq t x w (.pointer none) (.pointer none)=.ok (.bool false)):OpSame P O s ⟨d,.binOp .neq t x w t2,ty,pst,af,gu⟩ (vB (p != q)):=by
 refine⟨rfl,λ C e a H hR=>?_⟩
 obtain⟨u,h1,h2⟩:=hR.ev hx
 obtain⟨v,h3,h4⟩:=hR.ev hw
 refine⟨0,.bool (p != q),?_,.val rfl⟩
 have hI:=hR.h.inv
 obtain⟨il,hil⟩:=get_of_lt (l:=e.rows) (i:=l) (by rw[hI.rlen]; exact lt_of_get hl)
 obtain⟨ik,hik⟩:=get_of_lt (l:=e.rows) (i:=k) (by rw[hI.rlen]; exact lt_of_get hk)
 have hne:il≠ik:=λ h=>hlk (hI.rnd l k il hil (by rw[h]; exact hik))
 obtain⟨rl,vl,a1,a2,a3,a4,a5,a6,a7⟩:=hI.row l il _ hil hl
 obtain⟨rk,vk,b1,b2,b3,b4,b5,b6,b7⟩:=hI.row k ik _ hik hk
 have el0:rl.cells.isEmpty=false:=by
  rw[a6]
  have:vl.length=cs.length:=a7.1.symm
  cases vl with
  | nil=>cases cs with
   | nil=>cases hcs
   | cons _ _=>simp at this
  | cons _ _=>rfl
 have ek0:rk.cells.isEmpty=false:=by
  rw[b6]
  have h7:vk.length=(flatU c S).length:=b7.1.symm
  rw[flatU_len hc] at h7
  cases vk with
  | nil=>
   cases S with
   | nil=>cases hS
   | cons _ _=>simp[Nat.add_mul] at h7; omega
  | cons _ _=>rfl
 have es:Nat.ble 2 rk.esz=true:=by rw[b4]; exact he2
 have one:∀ o1 o2:Nat,∀ i j:Nat,i=j->aPtr P H .neq t (.pointer (some ⟨i,o1,none⟩)) (.pointer (some ⟨j,o2,none⟩))=.ok (.bool (!(o1 == o2))):=λ o1 o2 i j hij=>by
  simp only[aPtr,ht,htz,bind,Except.bind,hn0,if_false,hij,if_true]
 have lk:∀ o1 o2:Nat,aPtr P H .neq t (.pointer (some ⟨il,o1,none⟩)) (.pointer (some ⟨ik,o2,none⟩))=.ok (.bool true):=λ o1 o2=>by
  simp only[aPtr,ht,htz,bind,Except.bind,hn0,if_false,hne,a1,b1,el0,ek0,Bool.or_self,Bool.false_eq_true,a2,b2,es,Bool.true_and,if_true]
  split <;> rfl
 have kl:∀ o1 o2:Nat,aPtr P H .neq t (.pointer (some ⟨ik,o1,none⟩)) (.pointer (some ⟨il,o2,none⟩))=.ok (.bool true):=λ o1 o2=>by
  simp only[aPtr,ht,htz,bind,Except.bind,hn0,if_false,hne.symm,a1,b1,el0,ek0,Bool.or_self,Bool.false_eq_true,a2,b2,es,Bool.true_and,if_true]
 have np:∀ ad,aBin P .neq t x w (.pointer none) (.pointer (some ad))=.ok (.bool true):=λ ad=>by
  obtain⟨b,o,sp⟩:=ad
  simp[aBin,gnd,nilness,nilFits,ht]
 have pn:∀ ad,aBin P .neq t x w (.pointer (some ad)) (.pointer none)=.ok (.bool true):=λ ad=>by
  obtain⟨b,o,sp⟩:=ad
  simp[aBin,gnd,nilness,nilFits,ht]
 simp only[aOp,AAct.ev_eval h1,AAct.ev_eval h3,bind,Except.bind]
 rcases p with _ | _ | i <;> rcases q with _ | _ | j
 ·have e1:=h2.bool_inv; subst e1; have e3:=h4.bool_inv; subst e3
  simp only[bothPtr,Bool.false_eq_true,if_false,hnn]; rfl
 ·have e1:=h2.bool_inv; subst e1
  cases h4 with | @ptr _ _ id hkk=>simp only[bothPtr,Bool.false_eq_true,if_false,np]; rfl
 ·have e1:=h2.bool_inv; subst e1
  cases h4 with | @ptr _ _ id hkk=>simp only[bothPtr,Bool.false_eq_true,if_false,np]; rfl
 ·have e1:=h4.bool_inv; subst e1
  cases h2 with | @ptr _ _ id hkk=>simp only[bothPtr,Bool.false_eq_true,if_false,pn]; rfl
 ·cases h2 with | @ptr _ _ id hk1=>cases h4 with | @ptr _ _ id2 hk2=>
   rw[hil] at hk1 hk2; cases hk1; cases hk2
   simp only[bothPtr,if_true,one 0 0 il il rfl]; rfl
 ·cases h2 with | @ptr _ _ id hk1=>cases h4 with | @ptr _ _ id2 hk2=>
   rw[hil] at hk1; rw[hik] at hk2; cases hk1; cases hk2
   simp only[bothPtr,if_true,lk]; rfl
 ·have e1:=h4.bool_inv; subst e1
  cases h2 with | @ptr _ _ id hkk=>simp only[bothPtr,Bool.false_eq_true,if_false,pn]; rfl
 ·cases h2 with | @ptr _ _ id hk1=>cases h4 with | @ptr _ _ id2 hk2=>
   rw[hik] at hk1; rw[hil] at hk2; cases hk1; cases hk2
   simp only[bothPtr,if_true,kl]; rfl
 ·cases h2 with | @ptr _ _ id hk1=>cases h4 with | @ptr _ _ id2 hk2=>
   rw[hik] at hk1 hk2; cases hk1; cases hk2
   have eij:(!(i * sz+0 == j * sz+0))=(some (some i) != some (some j)):=by
    by_cases hij:i=j
    ·subst hij; simp
    ·have:i * sz≠j * sz:=λ h=>hij (Nat.eq_of_mul_eq_mul_right hsz h)
     have e1:(i * sz+0 == j * sz+0)=false:=by rw[beq_eq_false_iff_ne]; omega
     have e2:(some (some i) == some (some j))=false:=by rw[beq_eq_false_iff_ne]; intro h; exact hij (Option.some.inj (Option.some.inj h))
     rw[e1]; show true = !(some (some i) == some (some j)); rw[e2]; rfl
   simp only[bothPtr,if_true,one _ _ ik ik rfl,eij]
end ops
section arr
variable {P:Program} {O:FuncId->Option Value} {s:PS} {d:Option Tmp} {ty:TypeId} {pst:String} {af:Array Edge} {gu:Option (Nat×Bool)}
theorem slAt_ok {t el sz k off n c:Nat} {x y:Operand} {i:Int} (ht:P.underlying t=some (.slice el)) (hs:tSize P el=.ok sz) (hx:s.ev x=some (.sl k off n c)) (hi:s.ev y=some (vI i)) (h0:0<=i) (hN:i < n):OpSame P O s ⟨d,.indexAddr t x y,ty,pst,af,gu⟩ (.ptr k (off+i.toNat * sz)):=
 idxSl_ok (i:=i.toNat) (kd:=.i64) ht hs hx (by rw[hi,Int.toNat_of_nonneg h0]) (by rw[Nat.ble_eq]; omega)
theorem arrAt_ok {t el sz N k off:Nat} {x y:Operand} {i:Int} (ht:P.underlying t=some (.array N el)) (hs:tSize P el=.ok sz) (hx:s.ev x=some (.ptr k off)) (hi:s.ev y=some (vI i)) (h0:0<=i) (hN:i < N) {l j:Nat} (hj:off+i.toNat * sz=j * sz):OpSame P O s ⟨d,.indexAddr t x y,ty,pst,af,gu⟩ (gpO l k sz (some (some j)) 0):=by
 have:=arrAddr_ok (O:=O) (s:=s) (d:=d) (ty:=ty) (pst:=pst) (af:=af) (gu:=gu) (i:=i.toNat) (kd:=.i64) ht hs hx (by rw[hi,Int.toNat_of_nonneg h0]) (by rw[Nat.ble_eq]; omega)
 show OpSame P O s _ (.ptr k (j * sz+0))
 rw[Nat.add_zero,<- hj]
 exact this
theorem storeG_ok {α:Type} {c:α->List PV} {sz l k i e:Nat} {S:List α} {y y':α} {t:TypeId} {x w:Operand} (hc:∀ y,(c y).length=sz) (hp:∀ y,(c y).all PV.plain=true) (hn:tSize P t=.ok sz) (hx:s.ev x=some (gpO l k sz (some (some i)) 0)) (hw:s.ev w=some (.agg (c y'))) (hR:s.fr[k]? = some ⟨e,flatU c S⟩) (hy:S[i]? = some y) :
  OpOK P O s ⟨d,.store t x w,ty,pst,af,gu⟩ (.tup []) (s.fr.set k ⟨e,flatU c (S.set i y')⟩) s.tk:=by
 have hlt:=lt_of_get hy
 have h2:=store_ok (O:=O) (d:=d) (ty:=ty) (pst:=pst) (af:=af) (gu:=gu) (t:=t) (x:=x) (y:=w) (k:=k) (off:=i * sz) (p:=.agg (c y')) (R:=⟨e,flatU c S⟩) (s:=s) (P:=P) hx hw hn (by show Nat.beq (c y').length sz=true; rw[hc]; exact Nat.beq_refl _) hR (hp y') (by
  show Nat.ble (i * sz+(c y').length) (flatU c S).length=true
  rw[Nat.ble_eq,hc,flatU_len hc]
  have:=Nat.mul_le_mul_right sz (Nat.succ_le_of_lt hlt)
  rw[Nat.succ_mul] at this
  exact this)
 have e3:pSplice (flatU c S) (i * sz) (c y')=flatU c (S.set i y'):=flatU_set hc hy
 rw[<- e3]
 exact h2
def bindMk {β:Type} (n:Int) (by_:Nat) (f:Option β):Option β:=if 0<=n/\n<=17179869184/\by_ * n.toNat<=281474976710656 then f else none
theorem bindMkK {β:Type} {n:Int} {by_:Nat} {f:Option β} {r:β} {q:Prop} (h:bindMk n by_ f=some r) (k:0<=n->n<=17179869184->by_ * n.toNat<=281474976710656->f=some r->q):q:=by
 unfold bindMk at h
 split at h
 ·rename_i hi; exact k hi.1 hi.2.1 hi.2.2 h
 ·cases h
theorem rep_flat {α:Type} {c:α->List PV} {zs:List Value} {m:Nat} {z:α} (h:zs.map .val=flatU c (List.replicate m z)):∀ n,(repeated zs n).map PV.val=flatU c (List.replicate (n * m) z)
 | 0=>by simp[repeated,flatU]
 | n+1=>by
  have ih:=rep_flat h n
  have ap:∀ (a b:Nat),flatU c (List.replicate (a+b) z)=flatU c (List.replicate a z)++flatU c (List.replicate b z):=by
   intro a b
   induction a with
   | zero=>simp[flatU]
   | succ a iha=>rw[Nat.succ_add,List.replicate_succ,List.replicate_succ,flatU,flatU,iha,List.append_assoc]
  rw[Nat.add_mul,Nat.one_mul,Nat.add_comm (n * m),ap,<- ih,<- h]
  simp[repeated,List.replicate_succ]
theorem makeU_ok {α:Type} {c:α->List PV} {z:α} {m:Nat} {t el sz by_:Nat} {x y:Operand} {n:Int} {zs:List Value} (ht:P.underlying t=some (.slice el)) (hb:tBytes P el=.ok by_) (hs:tSize P el=.ok sz) (hz:tZero P el=.ok zs) (hzz:zs.map .val=flatU c (List.replicate m z)) (hp:zs.all plainCell=true)
  (hx:s.ev x=some (vI n)) (hy:s.ev y=some (vI n)) (h0:0<=n) (h1:n<=17179869184) (h2:by_ * n.toNat<=281474976710656):OpOK P O s ⟨d,.makeSlice t x y,ty,pst,af,gu⟩ (.sl s.fr.length 0 n.toNat n.toNat) (s.fr++[⟨sz,flatU c (List.replicate (n.toNat * m) z)⟩]) s.tk:=by
 refine⟨rfl,λ C e a H hR=>?_⟩
 obtain⟨u,k1,k2⟩:=hR.ev hx
 obtain⟨v,k3,k4⟩:=hR.ev hy
 have e1:=k2.bool_inv; subst e1
 have e2:=k4.bool_inv; subst e2
 have hn:((n.toNat:Nat):Int)=n:=Int.toNat_of_nonneg h0
 have hrv:L2 (RV e s.tk H true) ((repeated zs n.toNat).map PV.val) (repeated zs n.toNat):=rv_vals (by
  have:∀ k,(repeated zs k).all plainCell=true:=by
   intro k
   induction k with
   | zero=>rfl
   | succ k ih=>rw[show repeated zs (k+1)=zs++repeated zs k from rfl,List.all_append,hp,ih]; rfl
  exact this _)
 rw[rep_flat hzz] at hrv
 have st:=step_row hR.h.inv hrv el sz
 refine⟨0,.slice (some ⟨H.next,0,none⟩) n.toNat n.toNat,H.push (newR el H.next sz (repeated zs n.toNat)),e.row H.next,?_,st,?_⟩
 ·have hnat:natIn (.int .i64 n) 17179869184=.ok n.toNat:=natIn_at (n:=n.toNat) rfl (by omega) (by omega)
  have hnat2:natIn (.int .i64 n) n.toNat=.ok n.toNat:=natIn_at (n:=n.toNat) rfl (by omega) (Nat.le_refl _)
  simp only[aOp,AAct.ev_eval k1,AAct.ev_eval k3,bind,Except.bind,ht,hnat,hnat2,hb,hs,hz]
  rw[if_neg (by omega)]
  simp only[newRow,AH.new_push]
  rfl
 ·refine .sl ?_
  show(e.rows++[H.next])[s.fr.length]? = some H.next
  rw[<- hR.h.inv.rlen]
  exact get_app_new
end arr
end
end Go.Eng
