/-
  A call that turns a list of one's own around (slices.Reverse).
-/
import Derived.Test.YtdehaeillolhbaaM29
namespace Go.Eng
noncomputable section
variable {P:Program} {O:FuncId->Option Value}
theorem write_cell {H:AH} {id o:Nat} {r:Row} {v:Value} (hr:H.get id=some (.row r)) (hro:r.ro=false) (hp:plainCell v=true) (hl:o < r.cells.length) :
  ∃ H1,H.write id o [v]=.ok H1/\Havoc r.fam H H1/\∃ r1,H1.get id=some (.row r1)/\Meta r r1/\∀ j,r1.cells[j]? = if j=o then some (some v) else r.cells[j]?:=by
 obtain⟨H1,h1,h2⟩:=write_any (off:=o) (vs:=[v]) hr hro (by simp[hp]) (by simp; omega)
 refine⟨H1,h1,h2,?_⟩
 obtain⟨r1,k1,k2,_⟩:=h2.fam id r hr rfl
 refine⟨r1,k1,k2,λ j=>?_⟩
 have hrow:H.row id=.ok r:=by unfold AH.row; rw[hr]
 unfold AH.write at h1
 simp only[hrow,bind,Except.bind,hro,List.all_cons,hp,List.all_nil,Bool.and_self,Bool.false_eq_true,if_false,Bool.not_true,List.length_singleton] at h1
 rw[if_pos (by omega)] at h1
 have h3:=Except.ok.inj h1
 rw[<- h3,AH.get_set,if_pos rfl] at k1
 have h4:=AO.row.inj (Option.some.inj k1)
 rw[<- h4]
 show(spliceL r.cells o (List.map some [v]))[j]? = _
 exact splice_at hl j
def bindRev {β:Type} (L:List Int) (f:List Int->Option β):Option β:=if L.length+2<=9223372036854775808 then f L.reverse else none
theorem bindRevK {β:Type} {L:List Int} {f:List Int->Option β} {r:β} {p:Prop} (h:bindRev L f=some r) (k:L.length+2<=9223372036854775808->f L.reverse=some r->p):p:=by
 unfold bindRev at h
 split at h
 ·rename_i h1; exact k h1 h
 ·cases h
theorem PO.turn {rnd:Option Nat} {all os:List Oper} {s:PS} {Q:PS->Prop} {d0 d1 x:Nat} {g:FuncId} {ty t1 t2:TypeId} {p1 p2:String} {f1 f2:Array Edge} {L L2:List Int} {t:Nat} {tk':List Nat} (es:List (Nat×PV)) (hL:L.reverse=L2)
  (hx:s.tm.get x=some (.list 1 (L.map λ i=>[.val (.int .i64 i)]) (some t))) (hc0:s.can (some d0)=true) (hc1:s.can (some d1)=true) (hlen:s.tk[t]? = some L.length) (ht0:Nat.ble s.t0 t=true) (hms:s.ms=[])
  (hxd:Nat.beq x d0=false/\Nat.beq x d1=false)
  (hrev:∀ (H:AH) (id off n c:Nat) (r:Row) (wv:Nat->Int),H.get id=some (.row r)->r.ro=false->r.esz=1->off+n<=r.cells.length->n+2<=9223372036854775808->(∀ i,i < n->r.cells[off+i]? = some (some (.int .i64 (wv i)))) ->
   WF1 P O g [.slice (some ⟨id,off,none⟩) n c] H (λ v H'=>Havoc r.fam H H'/\∃ r',H'.get id=some (.row r')/\∀ i,i < n->r'.cells[off+i]? = some (some (.int .i64 (wv (n - 1 - i)))))) (hg:L.length+2<=9223372036854775808)
  (hnil:∀ H:AH,WF1 P O g [.slice none 0 0] H (λ v H'=>H'=H))
  (hes:∀ y∈es,s.tm.get y.1=some y.2/\Ap 1 y.2/\Nat.beq y.1 d0=false/\Nat.beq y.1 d1=false) (hfr:∀ R∈s.fr,∀ p∈R.cells,Ap 1 p)
  (htk:s.tk.set t L2.length=tk')
  (h:PO P O rnd all os (PS.ofm s.ms s.n ((x,.list 1 (L2.map λ i=>[.val (.int .i64 i)]) (some t)) :: es) s.fr tk' s.r0 s.t0) Q) :
  PO P O rnd all (⟨some d0,.move (.tmp x),t1,p1,f1,none⟩ :: ⟨some d1,.call ⟨.value (.func g),#[.tmp d0],#[ty]⟩,t2,p2,f2,none⟩ :: os) s Q:=λ C e a H hR=>by
 subst hL
 have htk2:tk'=s.tk:=by
  rw[<- htk,List.length_reverse]
  apply List.ext_getElem?
  intro i
  rw[List.getElem?_set]
  split
  ·rename_i e1; subst e1
   split
   ·exact hlen.symm
   ·rename_i h2; exact absurd (lt_of_get hlen) h2
  ·rfl
 subst htk2
 clear htk
 obtain⟨v,hv0,hv⟩:=hR.tm x _ hx
 have ht0':s.t0<=t:=Nat.le_of_ble_eq_true ht0
 have hn1:a.n=s.n:=hR.n
 have hcan:∀ d,s.can (some d)=true->a.can (some d)=true /\ @LT.lt Nat _ d 281474976710654:=λ d hc=>by
  have hc':=hR.can hc
  refine⟨hc',?_⟩
  obtain⟨tm,n,ms⟩:=a
  have hc2:pick (Nat.ble (Nat.succ d) n) (Nat.ble n 281474976710654) false=true:=hc'
  cases hb:Nat.ble (Nat.succ d) n with
  | false=>rw[hb] at hc2; cases hc2
  | true=>
   rw[hb] at hc2
   have hc3:Nat.ble n 281474976710654=true:=hc2
   rw[Nat.ble_eq] at hb hc3
   omega
 obtain⟨hq0,hd0⟩:=hcan d0 hc0
 obtain⟨hq1,hd1⟩:=hcan d1 hc1
 have hget:∀ (b:AAct) (d:Nat) (u:Value) (k:Nat),@LT.lt Nat _ d 281474976710654->(b.upd (some d) u).tm.get k=if k=d then some u else b.tm.get k:=λ b d u k hd=>by
  obtain⟨tm,n,ms⟩:=b
  show(T.put AH.top tm d u).get k=_
  exact T.get_put 48 _ _ _ _ (by have:2 ^ 48=281474976710656:=rfl; omega)
 have nb:∀ {m n:Nat},Nat.beq m n=false->m≠n:=λ h e1=>by subst e1; rw[Nat.beq_refl] at h; cases h
 have hev:a.ev (.tmp x)=some v:=hv0
 refine WO.move (wanted_free rfl) hev hq0 ?_
 have hcall:∀ (R1:Value->AH->Prop),WF1 P O g [v] H R1->(∀ w H',R1 w H'->WO P O rnd all os ((a.upd (some d0) v).upd (some d1) w) H' (UpO C Q))->WO P O rnd all (⟨some d1,.call ⟨.value (.func g),#[.tmp d0],#[ty]⟩,t2,p2,f2,none⟩ :: os) (a.upd (some d0) v) H (UpO C Q):=λ R1 hw1 hk=>
  WO.call rfl (wanted_free rfl) (by
   have h2:(a.upd (some d0) v).tm.get d0=some v:=by rw[hget _ _ _ _ hd0,if_pos rfl]
   have h3:(a.upd (some d0) v).ev (.tmp d0)=some v:=h2
   show allR _ [Operand.tmp d0]=_
   simp only[allR,AAct.ev_eval h3]; rfl) (by obtain⟨tm,n,ms⟩:=a; exact hq1) hw1 hk
 have fin:∀ (w:Value) (H':AH),RelH C e s.fr s.tk H'->(∀ y∈es,∀ u,RV e s.tk H true y.2 u->RV e s.tk H' true y.2 u)->RV e s.tk H' true (.list 1 (L.reverse.map λ i=>[.val (.int .i64 i)]) (some t)) v->WO P O rnd all os ((a.upd (some d0) v).upd (some d1) w) H' (UpO C Q):=λ w H' hRH hvs hnew=>by
  have hupd:∀ k,k≠d0->k≠d1->((a.upd (some d0) v).upd (some d1) w).tm.get k=a.tm.get k:=λ k h0 h1=>by
   rw[hget _ _ _ _ hd1,if_neg h1,hget _ _ _ _ hd0,if_neg h0]
  refine h C e _ H' ⟨hRH,hn1,?_,hR.r0,hR.t0,λ k p hp=>?_⟩
  ·have hm:=hR.marks
   show MarksR C.H0.next s.ms _ H'
   rw[hms] at hm ⊢
   exact MarksR.nil hm.none
  ·have hmem:=of_get ((x,.list 1 (L.reverse.map λ i=>[.val (.int .i64 i)]) (some t)) :: es) k p (by have hp2:=hp; simp only[PS.ofm] at hp2; exact hp2)
   rcases List.mem_cons.mp hmem with e1 | hmem
   ·cases e1
    exact⟨v,by rw[hupd _ (nb hxd.1) (nb hxd.2)]; exact hv0,hnew⟩
   ·obtain⟨k1,_,k3,k4⟩:=hes _ hmem
    obtain⟨u,q1,q2⟩:=hR.tm k p k1
    exact⟨u,by rw[hupd k (nb k3) (nb k4)]; exact q1,hvs _ hmem u q2⟩
 have hlm:(L.map λ i=>[PV.val (.int .i64 i)]).length=L.length:=List.length_map _
 generalize hl:(L.map λ i=>[PV.val (.int .i64 i)])=l at hv hlm
 cases hv with
 | lnil ht=>
  refine hcall _ (hnil H) λ w H1 e1=>?_
  subst e1
  refine fin w H1 hR.h (λ _ _ _ h=>h) ?_
  have:L=[]:=List.map_eq_nil_iff.mp hl
  subst this
  exact .lnil ht
 | @list _ _ _ _ id off c n' r w0 hr hn' hs he hcp hw' hzz hp hvv hh ht=>
  rw[hlm] at *
  obtain⟨hb,n0,q1,q2,q3⟩:=ht t rfl
  have q1':=q1
  rw[hlen] at q1
  have hl0:=Option.some.inj q1
  obtain⟨τ,k1,k2,k3,k4,k5,k6⟩:=q3 hl0
  have hF:C.H0.next<=r.fam:=by
   rw[k2]
   rcases hR.h.ext.tok t τ k1 with h4 | h4
   ·have:=lt_of_get h4; have:=hR.t0; omega
   ·exact h4
  have hnr:r.fam ∉ e.rows:=by rw[k2]; exact hR.h.inv.tfr t τ k1
  have hcell:∀ i,i < L.length->r.cells[off+i]? = some (some (.int .i64 (L.getD i 0))):=λ i hi=>by
   have h3:L[i]? = some (L.getD i 0):=by rw[List.getD_eq_getElem?_getD,List.getElem?_eq_getElem hi]; rfl
   have h4:l[i]? = some [PV.val (.int .i64 (L.getD i 0))]:=by rw[<- hl,List.getElem?_map,h3]; rfl
   have h5:=hvv i _ 0 _ h4 rfl
   have h6:=hh i _ 0 _ h4 rfl
   rw[show off+i * 1+0=off+i by omega] at h5
   rw[h5]
   generalize w0 i 0=u at h6
   cases h6; rfl
  refine hcall _ (hrev H id off L.length c r (λ i=>L.getD i 0) hr k5 he (by omega) hg hcell) λ w H' hv=>?_
  obtain⟨hv,r',hr',hcell'⟩:=hv
  refine fin w H' (hR.h.havoc hF hnr hr rfl k5 he (by decide) hfr hv) (λ y hy u hu=>hu.havoc hR.h.inv.wf hr rfl k5 he (by decide) hv (hes y hy).2.1) ?_
  obtain⟨r2,m1,m2,_⟩:=hv.fam id r hr rfl
  rw[hr'] at m1
  cases m1
  have hlm2:(L.reverse.map λ i=>[PV.val (.int .i64 i)]).length=L.length:=by rw[List.length_map,List.length_reverse]
  have hel:∀ i cs j p,(L.reverse.map λ i=>[PV.val (.int .i64 i)])[i]? = some cs->cs[j]? = some p->i < L.length/\j=0/\p=PV.val (.int .i64 (L.getD (L.length - 1 - i) 0)):=λ i cs j p hi hj=>by
   have hlt:i < L.length:=by have:=lt_of_get hi; rw[hlm2] at this; exact this
   rw[List.getElem?_map,List.getElem?_reverse hlt,Option.map_eq_some_iff] at hi
   obtain⟨y,hy,rfl⟩:=hi
   have hj0:j=0:=by have:=lt_of_get hj; simp at this; omega
   subst hj0
   have hp:PV.val (.int .i64 y)=p:=Option.some.inj hj
   refine⟨hlt,rfl,?_⟩
   rw[<- hp,List.getD_eq_getElem?_getD,hy]; rfl
  have main:=RV.list (e:=e) (tk:=s.tk) (H:=H') (b:=true) (sz:=1) (l:=L.reverse.map λ i=>[PV.val (.int .i64 i)]) (t:=some t) (id:=id) (off:=off) (c:=c) (n:=n') (r:=r')
   (λ i _=>.int .i64 (L.getD (L.length - 1 - i) 0)) hr' (by rw[hlm2]; exact hn') ⟨by rw[hv.next]; exact hs.lt,by rw[hv.next,m2.fam]; exact hs.flt,by rw[m2.fam,m2.disp]; exact hs.x,hs.row,λ t' τ' n2 e1 e2 e3=>by rw[m2.disp]; exact hs.tok t' τ' n2 e1 e2 (m2.fam ▸ e3)⟩ (m2.esz.trans he)
   (by rw[hlm2]; exact hcp) (by rw[hlm2,m2.len]; omega) (λ i cs hi=>by
    rw[List.getElem?_map,Option.map_eq_some_iff] at hi
    obtain⟨y,hy,rfl⟩:=hi
    rfl)
   (λ i cs j p hi hj=>by obtain⟨_,_,rfl⟩:=hel i cs j p hi hj; rfl)
   (λ i cs j p hi hj=>by
    obtain⟨hlt,rfl,rfl⟩:=hel i cs j p hi hj
    rw[show off+i * 1+0=off+i by omega]
    exact hcell' i hlt)
   (λ i cs j p hi hj=>by obtain⟨_,_,rfl⟩:=hel i cs j p hi hj; exact RV.val rfl)
   (λ k hk=>by
    cases hk
    exact⟨rfl,n0,q1',by rw[hlm2]; exact q2,λ _=>⟨τ,k1,m2.fam.trans k2,by rw[m2.disp]; exact k3,k4,m2.ro.trans k5,by rw[hlm2]; exact k6⟩⟩)
  rw[hlm2] at main
  exact main
theorem ap_gp {z l k sz o:Nat} {p:Option (Option Nat)} : Ap z (gpO l k sz p o):=by
 rcases p with _ | _ | i
 ·exact .val _
 ·exact .ptr _ _
 ·exact .ptr _ _
theorem ap_flat {α:Type} {z:Nat} {c:α->List PV} (h:∀ y,∀ p∈c y,Ap z p) (S:List α):∀ p∈flatU c S,Ap z p:=by
 induction S with
 | nil=>intro p hp; cases hp
 | cons y l ih=>
  intro p hp
  rcases List.mem_append.mp hp with hy | hy
  ·exact h y p hy
  ·exact ih p hy
end
end Go.Eng
