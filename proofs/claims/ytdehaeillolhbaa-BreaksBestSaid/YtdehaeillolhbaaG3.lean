/- aG3 -/
import Derived.Test.YtdehaeillolhbaaG2
import Derived.KernelRfl
set_option linter.unusedVariables false
set_option linter.unusedSimpArgs false
namespace Go.cy
noncomputable section
variable {P:Program} {O:ia}
def yp (k:Nat):Nat->PV->Bool
 | _,.aW _ _ j=>pick (Nat.beq j k) false true
 | _,.gW _ _ j _ _=>pick (Nat.beq j k) false true
 | _,.aS _ _ (some j)=>pick (Nat.beq j k) false true
 | n+1,.agg l=>l.all (yp k n)
 | n+1,.fX l=>l.all (yp k n)
 | n+1,.fn _ l m=>pick (l.all (yp k n)) (m.all (yp k n)) false
 | n+1,.iface _ p=>yp k n p
 | 0,.agg _=>false
 | 0,.fX _=>false
 | 0,.fn _ _ _=>false
 | 0,.iface _ _=>false
 | _,_=>true
theorem jK {α:Type} {p:α->Bool} {l:List α} (h:l.all p=true) {i:Nat} {x:α} (N:l[i]? = some x):p x=true:=List.all_eq_true.1 h x (List.mem_of_getElem? N)
structure Jk (e e':cz) (tk tk':List Nat) (H H':AH) (k F:Nat):Prop where
 next:H.next<=H'.next
 aY:e'.aY=e.aY
 x:e'.an=e.an
 toks:∀ j,j≠k->e'.toks[j]? = e.toks[j]?
 Y0:∀ j,j≠k->tk'[j]? = tk[j]?
 eR:∀ id aU en,lJ e tk H id aU en->lJ e' tk' H' id aU en
 jY:∀ j r,H.get j=some (.row r)->r.aU≠F->H'.get j=some (.row r)
 aU:∀ j r,H.get j=some (.row r)->r.aU=F->∃ r',H'.get j=some (.row r')/\Meta r r'
 zero:∀ id en,lJ e tk H id F en->en=0
 Pr:∀ j fG,j≠k->e.toks[j]? = some (some fG)->fG.aU≠F
theorem T4 {k n:Nat} {sz:Nat} {l:List (List PV)} {j:Nat} (h:yp k n (.aW sz l j)=true):j≠k:=λ e1=>by
 subst e1;have:pick (Nat.beq j j) false true=true:=by cases n <;> exact h
 rw[Nat.beq_refl] at this; cases this
theorem EZ {k n:Nat} {sz:Nat} {l:List (List PV)} {j:Nat} (h:yp k n (.aS sz l (some j))=true):j≠k:=λ e1=>by
 subst e1;have:pick (Nat.beq j j) false true=true:=by cases n <;> exact h
 rw[Nat.beq_refl] at this; cases this
theorem RV.tl {e e':cz} {tk tk':List Nat} {H H':AH} {k F:Nat} (aa:Jk e e' tk tk' H H' k F) {b:Bool} {p:PV} {v:Value} (h:RV e tk H b p v):(b=true->∃ n,yp k n p=true)->RV e' tk' H' b p v:=by
 induction h with
 | val hv=>intro _; exact .val hv
 | @agg b l vs hl _ ih=>
  intro hn;refine .agg hl λ i p v N hv=>ih i p v N hv λ hb=>?_;obtain⟨n,hn⟩:=hn hb;cases n with
  | zero=>cases hn
  | succ n=>exact⟨n,jK hn N⟩
 | @fX b l vs hl _ ih=>
  intro hn;refine .fX hl λ i p v N hv=>ih i p v N hv λ hb=>?_;obtain⟨n,hn⟩:=hn hb;cases n with
  | zero=>cases hn
  | succ n=>exact⟨n,jK hn N⟩
 | @fU b sz t ht=>
  intro kV;refine .fU λ j X=>?_;obtain⟨q1,n,q2,q3⟩:=ht j X;subst X;obtain⟨m,hm⟩:=kV q1;have ee:=EZ hm;exact⟨q1,n,by rw[aa.Y0 j ee]; exact q2,λ q=>by rw[aa.toks j ee]; exact q3 q⟩
 | @aS b sz l t id off c n r w hr IE hs he hc hw uN U uO hh NW ih=>
  intro kV;have HL:∀ {r':Row},Meta r r'->∀ j,t=some j->b=true/\CD e' tk' sz r' off l.length c j:=λ {r'} D j X=>by
   obtain⟨q1,n0,q2,q3,q4⟩:=NW j X;subst X;obtain⟨m,hm⟩:=kV q1;have ee:=EZ hm;exact⟨q1,n0,by rw[aa.Y0 j ee]; exact q2,q3,λ q5=>by
    obtain⟨fG,m1,m2,m3,m4,m5,m6⟩:=q4 q5;exact⟨fG,by rw[aa.toks j ee]; exact m1,by rw[D.aU]; exact m2,by rw[D.bJ]; exact m3,m4,by rw[D.ro]; exact m5,m6⟩⟩
  by_cases hf:r.aU=F
  ·have h0:=aa.zero _ _ (hf ▸ hs);obtain⟨r',B,D⟩:=aa.aU id r hr hf;have kV:∀ (i:Nat) (cs:List PV) (j:Nat) (p:PV),l[i]? = some cs->cs[j]? = some p->False:=λ i cs j p N X=>by
    have:=wC (ax N) (show j < sz by rw[<- uN i cs N]; exact ax X);omega
   exact .aS w B IE (by rw[D.aU,D.bJ]; exact aa.eR _ _ _ hs) (D.esz.trans he) hc (by rw[D.len]; exact hw) uN U (λ i cs j p N X=>(kV i cs j p N X).elim) (λ i cs j p N X=>(kV i cs j p N X).elim) (HL D)
  ·exact .aS w (aa.jY _ _ hr hf) IE (aa.eR _ _ _ hs) he hc hw uN U uO (λ i cs j p N X=>ih i cs j p N X (λ hb=>by cases hb)) (HL (Meta.refl r))
 | ptr hk=>intro _; exact .ptr (by rw[aa.aY]; exact hk)
 | sl hk=>intro _; exact .sl (by rw[aa.aY]; exact hk)
 | mp hk=>intro _; exact .mp (by rw[aa.aY]; exact hk)
 | mf=>intro _; exact .mf
 | @aW sz l j id off r fG w hr Y cI n hn iO hm Cj uH ft oM gG he hw uN U uO hh ih=>
  intro kV;obtain⟨q,hq⟩:=kV rfl;have ee:=T4 hq;have hnf:r.aU≠F:=by rw[oM]; exact aa.Pr j fG ee iO
  exact .aW w (aa.jY _ _ hr hnf) (by rw[aa.x]; exact Y) (by rw[aa.aY]; exact cI) (by rw[aa.Y0 j ee]; exact hn) (by rw[aa.toks j ee]; exact iO) hm Cj uH ft oM gG he hw uN U uO (λ i cs j p N X=>ih i cs j p N X (λ hb=>by cases hb))
 | @gW sz l j i o id off h ih=>
  intro kV;obtain⟨q,hq⟩:=kV rfl;exact .gW (ih λ _=>⟨q,by cases q <;> exact hq⟩)
 | @dN b cells off id base n r w hr hn hs uO _ ih=>
  intro _;by_cases hf:r.aU=F
  ·have h0:=aa.zero _ _ (hf ▸ hs);obtain⟨r',B,D⟩:=aa.aU id r hr hf;have kV:∀ (j:Nat) (p:PV),cells[j]? = some p->False:=λ j p X=>by have:=ax X; omega
   exact .dN w B hn (by rw[D.aU,D.bJ]; exact aa.eR _ _ _ hs) (λ j p X=>(kV j p X).elim) (λ j p X=>(kV j p X).elim)
  ·exact .dN w (aa.jY _ _ hr hf) hn (aa.eR _ _ _ hs) uO (λ j p X=>ih j p X (λ hb=>by cases hb))
 | @fn b f l m vs ws hl _ hm _ ih On=>
  intro hn;refine .fn hl (λ i p v N hv=>ih i p v N hv λ hb=>?_) hm (λ i p v N hv=>On i p v N hv λ hb=>?_)
  ·obtain⟨n,hn⟩:=hn hb;cases n with
   | zero=>cases hn
   | succ n=>
    have sJ:pick (l.all (yp k n)) (m.all (yp k n)) false=true:=hn;cases hq:l.all (yp k n) with
    | false=>rw[hq] at sJ; cases sJ
    | true=>exact⟨n,jK hq N⟩
  ·obtain⟨n,hn⟩:=hn hb;cases n with
   | zero=>cases hn
   | succ n=>
    have sJ:pick (l.all (yp k n)) (m.all (yp k n)) false=true:=hn;cases hq:l.all (yp k n) with
    | false=>rw[hq] at sJ; cases sJ
    | true=>rw[hq] at sJ; exact⟨n,jK sJ N⟩
 | @iface b t p v _ ih=>
  intro hn;refine .iface (ih λ hb=>?_);obtain⟨n,hn⟩:=hn hb;cases n with
  | zero=>cases hn
  | succ n=>exact⟨n,hn⟩
def Gm (k:Nat) (fr:List aJ):Bool:=fr.all λ R=>R.cells.all (yp k 4)
structure acE (C:fS) (e:cz) (H H':AH) (F:Nat):Prop where
 wf:KI H'
 row:∀ j o,H.get j=some o->(∀ r,o=.row r->r.aU≠F)->H'.get j=some o
 jo:∀ j,j < H.next->H.get j=none->H'.get j=none
 aU:∀ id r,H'.get id=some (.row r)->(∃ Fx r0,H.get Fx=some (.row r0)/\r0.aU=r.aU)\/r.aU=F
 lo:C.H0.next<=F
 lt:F < H'.next
 nr:F ∉ e.aY
theorem df.tl {C:fS} {e e':cz} {fr:List aJ} {tk tk':List Nat} {H H':AH} {k F:Nat} {x:Option Tk} (G:df C e fr tk H) (aa:Jk e e' tk tk' H H' k F) (m:acE C e H H' F) (hk:C.toks.length<=k) (he:e'.toks=e.toks.set k x) (Y:∀ τ,x=some τ->τ.aU=F) (xi:tk'.length=tk.length) (jj:Gm k fr=true):df C e' fr tk' H':=by
 have hC:C.toks.length=C.I5.length:=G.cw.len;have yf:∀ (j:Nat) (τ:Tk),e'.toks[j]? = some (some τ)->(j=k/\τ.aU=F)\/(j≠k/\e.toks[j]? = some (some τ)):=λ j τ h=>by
  by_cases e1:j=k
  ·subst e1;rw[he] at h;rw[List.getElem?_set_self (by have:=ax h; simpa using this)] at h;exact .inl ⟨rfl,Y τ (Option.some.inj h)⟩
  ·rw[aa.toks j e1] at h; exact .inr ⟨e1,h⟩
 refine⟨⟨m.wf,by rw[aa.aY]; exact G.dz.dY,by rw[aa.aY]; exact G.dz.rnd,λ i id R lF ma=>?_,by rw[he,List.length_set,G.dz.dD,xi],λ t t' τ fG B D hf=>?_,λ t τ B=>?_,λ t τ B hm=>?_⟩,⟨by rw[aa.aY]; exact G.ext.aY,λ t τ B=>?_,λ t τ B=>?_,λ t n B=>?_⟩,⟨Nat.le_trans G.bC.next aa.next,λ j r X cI=>?_,λ j o X kV oL=>m.row j o (G.bC.jY j o X kV oL) (λ r e1=>(kV r e1).elim),λ j B D=>m.jo j (Nat.lt_of_lt_of_le B G.bC.next) (G.bC.jo j B D),λ id r hr=>?_⟩,G.cw,⟨by rw[aa.x]; exact G.x.new,λ t τ id en B D=>?_⟩,aa.x.trans G.x0⟩
 ·rw[aa.aY] at lF;have iC:H'.get id=H.get id:=by
   rcases G.dz.row i id R lF ma with⟨_,r,us,k2,k3,k4,k5,k6,k7,k8⟩ | ⟨_,es,c,_,_,k2,_⟩
   ·rw[m.row id _ k2 (λ r' e1 hf=>by
     cases e1;exact m.nr (by rw[<- hf,k6]; exact List.mem_of_getElem? lF)),k2]
   ·rw[m.row id _ k2 (λ r' e1=>by cases e1),k2]
  exact(G.dz.row i id R lF ma).eR rfl iC λ us k8=>⟨k8.1,λ j p v N rb=>(k8.2 j p v N rb).tl aa λ _=>⟨4,jK (jK jj ma) N⟩⟩
 ·rcases yf t τ B with⟨a1,Z⟩ | ⟨a1,Z⟩ <;> rcases yf t' fG D with⟨b1,b2⟩ | ⟨b1,b2⟩
  ·omega
  ·exact absurd (hf.symm.trans Z) (aa.Pr t' fG b1 b2)
  ·exact absurd (hf.trans b2) (aa.Pr t τ a1 Z)
  ·exact G.dz.iy t t' τ fG Z b2 hf
 ·rcases yf t τ B with⟨a1,Z⟩ | ⟨a1,Z⟩
  ·rw[Z]; exact m.lt
  ·exact Nat.lt_of_lt_of_le (G.dz.oI t τ Z) aa.next
 ·rw[aa.aY] at hm;rcases yf t τ B with⟨a1,Z⟩ | ⟨a1,Z⟩
  ·rw[Z] at hm; exact m.nr hm
  ·exact G.dz.tq t τ Z hm
 ·rcases yf t τ B with⟨a1,Z⟩ | ⟨a1,Z⟩
  ·rw[Z]; exact .inr m.lo
  ·exact G.ext.tok t τ Z
 ·have cG:=ax B;rw[aa.toks t (by omega)]; exact G.ext.old t τ B
 ·have cG:=ax B;obtain⟨n',a1,Z,a3⟩:=G.ext.Hy t n B;exact⟨n',by rw[aa.Y0 t (by omega)]; exact a1,Z,λ a4=>by rw[aa.toks t (by omega)]; exact a3 a4⟩
 ·obtain⟨r',k1,k2,k3,k4⟩:=G.bC.row j r X cI;refine⟨r',m.row j _ k1 (λ r'' e1 hf=>?_),k2,k3,k4⟩;cases e1;have:=G.cw.wf.aU j r X;have:=m.lo;rw[k2.aU] at hf;omega
 ·rcases m.aU id r hr with⟨i0,r0,k1,k2⟩ | k
  ·rw[<- k2]; exact G.bC.aU i0 r0 k1
  ·rw[k]; exact .inr m.lo
 ·rw[aa.x];rcases yf t τ B with⟨a1,Z⟩ | ⟨a1,Z⟩
  ·rw[Z]; exact G.x.new id F en D m.lo
  ·exact G.x.tok t τ id en Z D
theorem Av {C:fS} {e:cz} {fr:List aJ} {tk:List Nat} {H H':AH} {k:Nat} {τ:Tk} (G:df C e fr tk H) (ht:e.toks[k]? = some (some τ)) (hz:τ.esz=0) (mG:τ.base=0) (hv:kh τ.aU H H'):Jk e e tk tk H H' k τ.aU:=by
 obtain⟨nk,xi⟩:=aP (l:=tk) (i:=k) (by rw[<- G.dz.dD]; exact ax ht);exact⟨Nat.le_of_eq hv.next.symm,rfl,rfl,λ _ _=>rfl,λ _ _=>rfl,λ id aU en hs=>⟨by rw[hv.next]; exact hs.lt,by rw[hv.next]; exact hs.we,hs.x,hs.row,hs.tok⟩,λ j r hr hf=>hv.jY j _ hr (λ r' e1=>by cases e1; exact hf),λ j r hr hf=>let ⟨r',B,D,_⟩:=hv.aU j r hr hf; ⟨r',B,D⟩,
  λ id en hs=>by
   have:=hs.tok k τ nk ht xi rfl;rw[mG,hz] at this;omega,λ j fG ee X hf=>ee (G.dz.iy j k fG τ X ht hf)⟩
theorem E0 {α:Type} {l:List α} {k:Nat} {x:α} (h:l[k]? = some x):l.set k x=l:=by
 apply List.ext_getElem?;intro i;by_cases e1:i=k
 ·subst e1; rw[List.getElem?_set_self (ax h),h]
 ·rw[List.getElem?_set_ne (Ne.symm e1)]
theorem df.T5 {C:fS} {e:cz} {fr:List aJ} {tk:List Nat} {H H':AH} {k:Nat} {τ:Tk} (G:df C e fr tk H) (ht:e.toks[k]? = some (some τ)) (hk:C.toks.length<=k) (hz:τ.esz=0) (mG:τ.base=0) (jj:Gm k fr=true) (hv:kh τ.aU H H'):df C e fr tk H':=by
 have I:C.H0.next<=τ.aU:=by
  rcases G.ext.tok k τ ht with h | h
  ·have:=ax h; omega
  ·exact h
 refine G.tl (x:=some τ) (Av G ht hz mG hv) ⟨⟨λ j o X=>?_,λ j r X=>?_,pX G.dz.wf λ j r X=>?_⟩,λ j o X kV=>hv.jY j o X kV,λ j _ h=>hv.jo j h,λ id r hr=>?_,I,by rw[hv.next]; exact G.dz.oI k τ ht,G.dz.tq k τ ht⟩ hk (E0 ht).symm (λ fG e1=>by cases e1; rfl) rfl jj
 ·obtain⟨o',B,_⟩:=hv.ct X;rw[hv.next]; exact G.dz.wf.lt j o' B
 ·obtain⟨o',B,D | ⟨r1,r2,rfl,e2,_,V⟩⟩:=hv.ct X
  ·subst D; rw[hv.next]; exact G.dz.wf.aU j r B
  ·cases e2; rw[hv.next,V.aU]; exact G.dz.wf.aU j r1 B
 ·obtain⟨o',B,D | ⟨r1,r2,rfl,e2,_,V⟩⟩:=hv.ct X
  ·subst D; exact .inr ⟨j,r,B,rfl,rfl,rfl⟩
  ·cases e2; exact .inr ⟨j,r1,B,V.aU,V.esz,V.ro⟩
 ·obtain⟨o',B,D | ⟨r1,r2,rfl,e2,_,V⟩⟩:=hv.ct hr
  ·subst D; exact .inl ⟨id,r,B,rfl⟩
  ·cases e2; exact .inl ⟨id,r1,B,V.aU.symm⟩
theorem Qm {H:AH} {id o:Nat} {r:Row} {vs:List Value} (hr:H.get id=some (.row r)) (gG:r.ro=false) (U:vs.all bu=true) (hl:o+vs.length<=r.cells.length) :
  ∃ H1,H.gf id o vs=.ok H1/\kh r.aU H H1/\∃ r1,H1.get id=some (.row r1)/\Meta r r1/\∀ j,r1.cells[j]? = if o<=j/\j < o+vs.length then(vs.map some)[j - o]? else r.cells[j]?:=by
 obtain⟨H1,B,D⟩:=BX (off:=o) (vs:=vs) hr gG U hl;refine⟨H1,B,D,?_⟩;obtain⟨r1,k1,k2,_⟩:=D.aU id r hr rfl;refine⟨r1,k1,k2,λ j=>?_⟩;have eH:H.row id=.ok r:=by unfold AH.row; rw[hr]
 unfold AH.gf at B;simp only[eH,bind,Except.bind,gG,U,Bool.false_eq_true,if_false,Bool.not_true] at B;rw[if_pos hl] at B;have V:=Except.ok.inj B;rw[<- V,AH.bS,if_pos rfl] at k1;have h4:=AO.row.inj (Option.some.inj k1);rw[<- h4];show(cY r.cells o (vs.map some))[j]? = _;rw[uj _ _ _ (by rw[List.length_map]; exact hl),List.length_map]
theorem RV.Mt {C:fS} {e:cz} {fr:List aJ} {tk:List Nat} {H:AH} (G:df C e fr tk H) {sz k o:Nat} {l l':List (List PV)} {ps:List PV} {us:List Value} {v:Value} (hv:RV e tk H true (.aW sz l k) v) (ee:l≠[]) (hk:C.toks.length<=k) (mo:L2 (RV e tk H false) ps us) (VP:us.all bu=true) (Y1:ps.all PV.plain=true)
  (ho:o+us.length<=l.length * sz) (hlen:l'.length=l.length) (Oh:∀ (i:Nat) (cs:List PV),l'[i]? = some cs->cs.length=sz)
  (LQ:∀ (i:Nat) (cs:List PV) (j:Nat) (p:PV),l'[i]? = some cs->cs[j]? = some p->(o<=i * sz+j/\i * sz+j < o+us.length/\ps[i * sz+j - o]? = some p)\/((i * sz+j < o\/o+us.length<=i * sz+j)/\∃ QV,l[i]? = some QV/\QV[j]? = some p)) (jj:Gm k fr=true) :
  ∃ id off H1 τ,v=.slice (some ⟨id,off,none⟩) l.length l.length/\e.toks[k]? = some (some τ)/\τ.row=id/\τ.off=off/\H.gf id (off+o) us=.ok H1/\df C e fr tk H1/\(∀ p w,yp k 4 p=true->RV e tk H true p w->RV e tk H1 true p w)/\(∀ w,RV e tk H true (.aW sz l k) w->RV e tk H1 true (.aW sz l' k) w)/\(∀ m,H.get m=some (.mark true)->H1.get m=some (.mark true)):=by
 cases hv with
 | mf=>exact absurd rfl ee
 | @aW _ _ _ id off r τ w hr Y cI n hn ht hm mG uH ft oM gG he hw hz U uO hh=>
  obtain⟨H1,B,D,r1,V,h4,h5⟩:=Qm (o:=off+o) hr gG VP (by omega);rw[oM] at D;have xT:=G.T5 ht hk hm mG jj D;have gm:=Av G ht hm mG D;refine⟨id,off,H1,τ,rfl,ht,uH,ft,B,xT,λ p u kV hu=>hu.tl gm λ _=>⟨4,kV⟩,λ u hu=>?_,λ m AF=>D.jY m _ AF (λ r e1=>by cases e1)⟩;cases hu with
  | mf=>exact absurd rfl ee
  | @aW _ _ _ qF Jl r' fG w' ga Hp Ci n' sJ iO AF Cj Xj Xk ajX yV he' KF Ut lE acF FT=>
   rw[ht] at iO; cases iO;have e1:qF=id:=Xj.symm.trans uH;subst e1;have e2:Jl=off:=Xk.symm.trans ft;subst e2;rw[hr] at ga; cases ga;rw[<- hlen] at Hp KF;rw[<- hlen];refine .aW (λ i j=>if o<=i * sz+j/\i * sz+j < o+us.length then us.getD (i * sz+j - o) undef else w' i j) V (by rw[h4.aU,h4.bJ]; exact Hp) Ci sJ ht hm mG Xj Xk (h4.aU.trans oM) (h4.ro.trans gG) (h4.esz.trans he) (by rw[h4.len]; exact KF) Oh (λ i cs j p N X=>?_) (λ i cs j p N X=>?_) (λ i cs j p N X=>?_)
   ·rcases LQ i cs j p N X with⟨_,_,q3⟩ | ⟨_,QV,q2,q3⟩
    ·exact jK Y1 q3
    ·exact lE i QV j p q2 q3
   ·rw[h5];rcases LQ i cs j p N X with⟨q1,q2,q3⟩ | ⟨q1,QV,q2,q3⟩
    ·rw[if_pos ⟨by omega,by omega⟩];simp only[if_pos (show o<=i * sz+j/\i * sz+j < o+us.length from⟨q1,q2⟩)];obtain⟨u,hu,_⟩:=mo.at q3;rw[show Jl+i * sz+j - (Jl+o)=i * sz+j - o by omega,List.getElem?_map,hu,List.getD_eq_getElem?_getD,hu]; rfl
    ·rw[if_neg (by omega)];simp only[if_neg (show ¬ (o<=i * sz+j/\i * sz+j < o+us.length) by omega)];exact acF i QV j p q2 q3
   ·rcases LQ i cs j p N X with⟨q1,q2,q3⟩ | ⟨q1,QV,q2,q3⟩
    ·simp only[if_pos (show o<=i * sz+j/\i * sz+j < o+us.length from⟨q1,q2⟩)];obtain⟨u,hu,hru⟩:=mo.at q3;rw[List.getD_eq_getElem?_getD,hu];exact hru.tl gm (λ hb=>by cases hb)
    ·simp only[if_neg (show ¬ (o<=i * sz+j/\i * sz+j < o+us.length) by omega)];exact(FT i QV j p q2 q3).tl gm (λ hb=>by cases hb)
theorem RV.Tg {e:cz} {tk:List Nat} {H:AH} {sz k:Nat} {l:List (List PV)} {id off n c:Nat} (h:RV e tk H true (.aW sz l k) (.slice (some ⟨id,off,none⟩) n c)) :
  n=l.length/\∃ (r:Row) (w:Nat->Nat->Value),H.get id=some (.row r)/\(∀ (i:Nat) (cs:List PV),l[i]? = some cs->cs.length=sz)/\(∀ (i:Nat) (cs:List PV) (j:Nat) (p:PV),l[i]? = some cs->cs[j]? = some p->r.cells[off+i * sz+j]? = some (some (w i j)))/\(∀ (i:Nat) (cs:List PV) (j:Nat) (p:PV),l[i]? = some cs->cs[j]? = some p->RV e tk H false p (w i j)):=by
 cases h with
 | aW w hr Y cI hn iO hm mG uH ft oM gG he hw hz U uO hh=>exact⟨rfl,_,w,hr,hz,uO,hh⟩
theorem Fs (l:List PV) (off:Nat) (m:List PV) (h:off+m.length<=l.length) (j:Nat):(iw l off m)[j]? = if off<=j/\j < off+m.length then m[j - off]? else l[j]?:=by
 unfold iw;by_cases B:j < off
 ·rw[if_neg (by omega),List.append_assoc,List.getElem?_append_left (by simp; omega)];rw[List.getElem?_take]; simp[B]
 ·by_cases D:j < off+m.length
  ·rw[if_pos ⟨by omega,D⟩,List.append_assoc,List.getElem?_append_right (by simp; omega),List.getElem?_append_left (by simp; omega)];congr 1;simp; omega
  ·rw[if_neg (by omega),List.getElem?_append_right (by simp; omega),List.getElem?_drop];congr 1;simp; omega
def Eu (s:PS) (k sz:Nat) (l l':List (List PV)) (d:Option Tmp) (y:Nat×PV):Prop:=(match d with | none=>True | some d=>Nat.beq y.1 d=false)/\((s.tm.get y.1=some y.2/\yp k 4 y.2=true)\/(s.tm.get y.1=some (.aW sz l k)/\y.2=.aW sz l' k))
theorem qO {s:PS} {k sz:Nat} {l l':List (List PV)} {d:Option Tmp} {t:Nat} {p:PV} (h0:match d with | none=>True | some d=>Nat.beq t d=false) (h:s.tm.get t=some p) (D:yp k 4 p=true):Eu s k sz l l' d (t,p):=⟨h0,.inl ⟨h,D⟩⟩
theorem Y2 {s:PS} {k sz:Nat} {l l':List (List PV)} {d:Option Tmp} {t:Nat} (h0:match d with | none=>True | some d=>Nat.beq t d=false) (h:s.tm.get t=some (.aW sz l k)):Eu s k sz l l' d (t,.aW sz l' k):=⟨h0,.inr ⟨h,rfl⟩⟩
theorem C6 {a:az} {d k:Nat} {u:Value} (hc:a.can (some d)=true):(a.dF (some d) u).tm.get k=if k=d then some u else a.tm.get k:=by
 obtain⟨tm,n,ms⟩:=a;show(T.put AH.top tm d u).get k=_;refine T.jB 48 _ _ _ _ ?_;have AA:pick (Nat.ble (Nat.succ d) n) (Nat.ble n 281474976710654) false=true:=hc;cases hb:Nat.ble (Nat.succ d) n with
 | false=>rw[hb] at AA; cases AA
 | true=>
  rw[hb] at AA;have Sb:Nat.ble n 281474976710654=true:=AA;rw[Nat.ble_eq] at hb Sb;have:2 ^ 48=281474976710656:=rfl;omega
theorem cm.GN {C:fS} {e:cz} {s:PS} {a:az} {H H1:AH} (G:cm C e s a H) {k sz:Nat} {l l':List (List PV)} {d:Option Tmp} {w:Value} {es:List (Nat×PV)} (hc:s.can d=true) (tc:s.ms=[]) (yM:∀ y∈es,Eu s k sz l l' d y)
  (xT:df C e s.fr s.tk H1) (nV:∀ p w,yp k 4 p=true->RV e s.tk H true p w->RV e s.tk H1 true p w) (jT:∀ w,RV e s.tk H true (.aW sz l k) w->RV e s.tk H1 true (.aW sz l' k) w):cm C e (PS.mS s.ms s.n es s.fr s.tk s.r0 s.t0) (a.dF d w) H1:=by
 have hmarks:(a.dF d w).bn=a.bn:=by cases d <;> rfl
 have IE:(a.dF d w).n=a.n:=by cases d <;> rfl
 refine⟨xT,by rw[IE]; exact G.n,?_,G.r0,G.t0,λ t p U=>?_⟩
 ·have hm:=G.bn;show fk C.H0.next s.ms _ H1;rw[tc] at hm ⊢;exact fk.nil (by rw[hmarks]; exact hm.none)
 ·have lH:=ni es t p (by have AD:=U; simp only[PS.mS] at AD; exact AD);obtain⟨h0,B⟩:=yM _ lH;have eM:(a.dF d w).tm.get t=a.tm.get t:=by
   cases d with
   | none=>rfl
   | some d=>
    rw[C6 (G.can hc),if_neg (λ e1=>by subst e1; have AQ:Nat.beq t t=false:=h0; rw[Nat.beq_refl] at AQ; cases AQ)]
  rcases B with⟨B,D⟩ | ⟨B,D⟩
  ·obtain⟨u,q1,q2⟩:=G.tm t p B;exact⟨u,by rw[eM]; exact q1,nV p u D q2⟩
  ·obtain⟨u,q1,q2⟩:=G.tm t _ B;have uE:p=.aW sz l' k:=D;subst uE;exact⟨u,by rw[eM]; exact q1,jT u q2⟩
section ops
variable {rnd:Option Nat} {all os:List Oper} {s:PS} {Q:PS->Prop} {d:Option Tmp} {ty:TypeId} {pst:String} {af:Array Edge} {gu:Option (Nat×Bool)} {α:Type} {c:α->List PV}
theorem Il {x:Operand} {t el sz n k:Nat} {l:List (List PV)} (ht:P.underlying t=some (.slice el)) (Y:s.ev x=some (.aW sz l k)) (hl:l.length=n):cX P O s ⟨d,.call ⟨.builtin .len,#[x],#[t]⟩,ty,pst,af,gu⟩ (.val (.int .i64 n)):=
 .DK rfl λ C e a H G=>by
  obtain⟨v,B,D⟩:=G.ev Y;obtain⟨ad,c,rfl⟩:∃ a c,v=.slice a l.length c:=by
   cases D with
   | mf=>exact⟨_,_,rfl⟩
   | aW=>exact⟨_,_,rfl⟩
  refine⟨0,.int .i64 n,?_,.val rfl⟩;simp only[b9,eU,az.aL B,bind,Except.bind,DX,ht,hl]
theorem pE {t el sz k:Nat} {x i:Operand} {l:List (List PV)} {kd:IntKind} {m:Int} {cs:List PV} (ht:P.underlying t=some (.slice el)) (hs:bD P el=.ok sz) (Y:s.ev x=some (.aW sz l k)) (N:s.ev i=some (.val (.int kd m)))
  (h0:0<=m) (hc:l[m.toNat]? = some cs):cX P O s ⟨d,.indexAddr t x i,ty,pst,af,gu⟩ (.gW sz l k m.toNat 0):=
 .DK rfl λ C e a H G=>by
  obtain⟨v,B,D⟩:=G.ev Y;obtain⟨u,V,h4⟩:=G.ev N;have e1:=h4.bA; subst e1;have cG:=ax hc;cases D with
  | mf=>simp at cG
  | @aW _ _ _ id off r τ w hr Y cI n hn iO hm mG uH ft oM gG he hw hz U uO hh=>
   refine⟨0,.pointer (some ⟨id,off+m.toNat * sz+0,none⟩),?_,.gW (.aW w hr Y cI hn iO hm mG uH ft oM gG he hw hz U uO hh)⟩;simp only[b9,az.aL B,az.aL V,bind,Except.bind,ht,kr (m:=m) (n:=m.toNat) rfl h0 (show m.toNat<=l.length - 1 by omega),hs];rw[if_pos cG]; rfl
theorem B0 {t sz k i o f:Nat} {x:Operand} {l:List (List PV)} {fields:Array Field} {fd:Field} {n:Nat} (ht:P.underlying t=some (.struct fields)) (hf:fields[f]? = some fd) (hn:bD P fd.type=.ok n) (xg:Nat.beq n 0=false) (Y:s.ev x=some (.gW sz l k i o)):cX P O s ⟨d,.fieldAddr t x f,ty,pst,af,gu⟩ (.gW sz l k i (o+fd.offset)):=
 .DK rfl λ C e a H G=>by
  obtain⟨v,B,D⟩:=G.ev Y;cases D with
  | @gW _ _ _ _ _ id off h=>
   refine⟨0,.pointer (some ⟨id,off+i * sz+(o+fd.offset),none⟩),?_,.gW h⟩;have h0:¬ n=0:=λ e1=>by subst e1; cases xg
   simp only[b9,az.aL B,bind,Except.bind,ht,hf,eg,hn,if_neg h0,Nat.add_assoc]
theorem E1 {t sz k i o:Nat} {x:Operand} {L:List α} {y:α} {q:PV} (Y:s.ev x=some (.gW sz (L.map c) k i o)) (hy:L[i]? = some y) (hq:qU P t (c y) o=some q):cX P O s ⟨d,.load t x,ty,pst,af,gu⟩ q:=
 .DK rfl λ C e a H G=>by
  obtain⟨v,B,D⟩:=G.ev Y;cases D with
  | @gW _ _ _ _ _ id off h=>
   obtain⟨_,r,w,hr,hz,uO,hh⟩:=h.Tg
   ·have N:(L.map c)[i]? = some (c y):=by rw[List.getElem?_map,hy]; rfl
    have hlen:=hz i _ N;have eH:H.row id=.ok r:=by unfold AH.row; rw[hr]
    have gZ:∀ j p,(c y)[j]? = some p->r.cells[off+i * sz+j]? = some (some (w i j))/\RV e s.tk H true p (w i j):=λ j p X=>⟨uO i _ j p N X,(hh i _ j p N X).top⟩
    unfold qU at hq;cases ha:rm P t with
    | error n=>rw[ha] at hq; cases hq
    | ok b=>
     rw[ha] at hq;cases b with
     | false=>
      have gT:(c y)[o]? = some q:=hq;obtain⟨g1,g2⟩:=gZ o q gT;exact⟨0,w i o,by simp only[b9,az.aL B,bind,Except.bind,eg,jq,eH,ha,Bool.false_eq_true,if_false,g1],g2⟩
     | true=>
      cases sJ:bD P t with
      | error n=>rw[sJ] at hq; cases hq
      | ok n0=>
       rw[sJ] at hq;obtain⟨hle,hq⟩:=bm hq;rw[Nat.ble_eq] at hle;cases hq;have hk:jN (r.cells.drop (off+i * sz+o)) n0=.ok ((List.range n0).map λ j=>w i (o+j)):=by
        have key:∀ (n a:Nat),a+n<=(c y).length->jN (r.cells.drop (off+i * sz+a)) n=.ok ((List.range n).map λ j=>w i (a+j)):=by
         intro n
         induction n with
         | zero=>intro a _; cases r.cells.drop (off+i * sz+a) <;> rfl
         | succ n ih=>
          intro a ha;obtain⟨p,lE⟩:=aP (l:=c y) (i:=a) (by omega);obtain⟨g1,_⟩:=gZ a p lE;have cG:=ax g1;rw[List.drop_eq_getElem_cons cG];rw[List.getElem?_eq_getElem cG] at g1;rw[Option.some.inj g1];have:=ih (a+1) (by omega);rw[show off+i * sz+(a+1)=off+i * sz+a+1 by omega] at this;simp only[jN,this,bind,Except.bind,List.range_succ_eq_map,List.map_cons,List.map_map,Nat.add_zero];congr 2;exact List.map_congr_left λ j _=>by simp only[Function.comp_apply]; congr 1; omega
        exact key n0 o hle
       refine⟨0,.agg ((List.range n0).map λ j=>w i (o+j)).toArray,?_,?_⟩
       ·simp only[b9,az.aL B,bind,Except.bind,eg,jq,eH,ha,sJ,hk,if_true]
       ·refine .agg (by simp; omega) λ j p v X hv=>?_;have YZ:j < n0:=by have:=ax hv; simpa using this
        rw[List.getElem?_map,List.getElem?_range YZ] at hv;cases hv;rw[List.getElem?_take,if_pos YZ,List.getElem?_drop] at X;exact(gZ (o+j) p X).2
theorem PO.GO {t sz k i o:Nat} {x y:Operand} {L L2:List α} {z z':α} {q:PV} {ps:List PV} (es:List (Nat×PV)) (hw:cC all s ⟨d,.store t x y,ty,pst,af,gu⟩=some true) (Y:s.ev x=some (.gW sz (L.map c) k i o)) (hz:L[i]? = some z) (hy:s.ev y=some q) (hl:A6 q.cells=some ps) (hn:bD P t=.ok ps.length) (ho:Nat.ble (o+ps.length) sz=true) (gK:(c z').length=sz)
  (UA:iw (c z) o ps=c z') (hL:L.set i z'=L2) (hc:s.can d=true) (tc:s.ms=[]) (N3:Nat.ble s.t0 k=true) (jj:Gm k s.fr=true) (yM:∀ y∈es,Eu s k sz (L.map c) (L2.map c) d y) (h:PO P O rnd all os (PS.mS s.ms s.n es s.fr s.tk s.r0 s.t0) Q):PO P O rnd all (⟨d,.store t x y,ty,pst,af,gu⟩ :: os) s Q:=λ C e a H G=>by
 subst hL;obtain⟨v,B,D⟩:=G.ev Y;obtain⟨u,V,h4⟩:=G.ev hy;rw[Nat.ble_eq] at N3 ho;obtain⟨mo,Y1⟩:=sR h4.cells hl;have VP:u.cells.toList.all bu=true:=by
  rw[List.all_eq_true];intro x Y;obtain⟨j,X,rfl⟩:=List.mem_iff_getElem.1 Y;obtain⟨p,U⟩:=aP (l:=ps) (i:=j) (by rw[mo.1]; exact X);exact vu (mo.2 j p _ U (List.getElem?_eq_getElem X)) (jK Y1 U)
 have hlu:u.cells.toList.length=ps.length:=mo.1.symm;cases D with
 | @gW _ _ _ _ _ id off hv=>
  have hzi:(L.map c)[i]? = some (c z):=by rw[List.getElem?_map,hz]; rfl
  have acG:(c z).length=sz:=by
   obtain⟨_,r,w,hr,uN,_⟩:=hv.Tg;exact uN i _ hzi
  have FR:i < (L.map c).length:=ax hzi;have hmul:i * sz+sz<=(L.map c).length * sz:=by
   have:=Nat.mul_le_mul_right sz (Nat.succ_le_of_lt FR);rw[Nat.succ_mul] at this; exact this
  have Ek:∀ (j:Nat) (cs:List PV),(L.map c)[j]? = some cs->cs.length=sz:=λ j cs X=>by
   obtain⟨_,r,w,hr,uN,_⟩:=hv.Tg;exact uN j _ X
  have pJ:∀ (j:Nat) (cs:List PV),((L.set i z').map c)[j]? = some cs->(j=i/\cs=c z')\/(j≠i/\(L.map c)[j]? = some cs):=λ j cs X=>by
   rw[List.map_set] at X;by_cases e1:j=i
   ·subst e1;rw[List.getElem?_set_self FR] at X;exact .inl ⟨rfl,(Option.some.inj X).symm⟩
   ·rw[List.getElem?_set_ne (Ne.symm e1)] at X;exact .inr ⟨e1,X⟩
  obtain⟨qF,Jl,H1,τ,e1,Uy,uH,ft,VQ,xT,nV,jT,_⟩:=RV.Mt G.h (o:=i * sz+o) (l':=(L.set i z').map c) hv (λ e1=>by rw[e1] at FR; simp at FR) (by rw[G.t0]; exact N3) mo VP Y1 (by rw[hlu]; omega) (by simp) (λ j cs X=>by
   rcases pJ j cs X with⟨_,rfl⟩ | ⟨_,X⟩
   ·exact gK
   ·exact Ek j cs X) (λ j cs m p X hm=>by
   rw[hlu];rcases pJ j cs X with⟨rfl,rfl⟩ | ⟨ee,X⟩
   ·rw[<- UA,Fs _ _ _ (by rw[acG]; exact ho)] at hm;split at hm
    ·rename_i N4;exact .inl ⟨by omega,by omega,by rw[show j * sz+m - (j * sz+o)=m - o by omega]; exact hm⟩
    ·rename_i N4;exact .inr ⟨by omega,c z,hzi,hm⟩
   ·have AF:m < sz:=by rw[<- Ek j cs X]; exact ax hm
    refine .inr ⟨?_,cs,X,hm⟩;rcases Nat.lt_trichotomy j i with h5 | h5 | h5
    ·have:=Nat.mul_le_mul_right sz (Nat.succ_le_of_lt h5);rw[Nat.succ_mul] at this;exact .inl (by omega)
    ·exact absurd h5 ee
    ·have:=Nat.mul_le_mul_right sz (Nat.succ_le_of_lt h5);rw[Nat.succ_mul] at this;exact .inr (by omega)) jj
  cases e1;refine WO.one (G.wanted hw) rfl (v:=undef) (H1:=H1) ⟨0,?_⟩ (G.can hc) (h C e _ H1 (G.GN hc tc yM xT nV jT));simp only[b9,bind,Except.bind,eg,az.aL B,az.aL V,hn];rw[if_pos (show(Value.cells u).size=ps.length by rw[<- hlu]; rfl),show off+i * sz+o=off+(i * sz+o) by omega,VQ]
end ops
end
end Go.cy
namespace Go.cy
noncomputable section
variable {P:Program} {O:ia}
theorem Qn {e:cz} {fr:List aJ} {tk:List Nat} {H:AH} (h:gN e fr tk H) (hX:XC e H) {sz:Nat} {l:List (List PV)} {vs:List Value} (hl:rH e tk H sz l vs) (ty:TypeId) :
  gO e tk H (e.tok (some ⟨H.next,0,0,H.next,0⟩)) fr (tk++[0]) (H.push (jG ty H.next sz vs)) /\
  RV (e.tok (some ⟨H.next,0,0,H.next,0⟩)) (tk++[0]) (H.push (jG ty H.next sz vs)) true (.aW sz l tk.length) (.slice (some ⟨H.next,0,none⟩) l.length l.length):=by
 have Y:mB (je e tk H) (e.tok (some ⟨H.next,0,0,H.next,0⟩)) (tk++[0]):=by
  refine⟨⟨[],by simp[je,cz.tok],by simp⟩,λ t τ ht=>?_,λ t τ ht=>cK ht,λ t n ht=>⟨n,cK ht,Nat.le_refl _,λ _=>?_⟩⟩
  ·rcases dL ht with⟨_,B⟩ | ⟨_,B⟩
   ·exact .inl B
   ·cases B; exact .inr (Nat.le_refl _)
  ·show(e.toks++[some _])[t]? = e.toks[t]?;rw[List.getElem?_append_left (by rw[h.dD]; exact ax ht)]
 have hf:=qv (e:=e) (tk:=tk) h.wf (jG ty H.next sz vs) (Nat.le_refl _);have aa:=kn Y hf rfl h;have hw:=vm h.wf (r:=jG ty H.next sz vs) rfl;refine⟨⟨⟨hw,h.dY,h.rnd,λ k id R hk G=>?_,by simp[cz.tok,h.dD],λ t t' τ fG ht iO hf=>?_,λ t τ ht=>?_,λ t τ ht hm=>?_⟩,Y,hf,rfl⟩,?_⟩
 ·obtain⟨o,D,_⟩:=(h.row k id R hk G).eF;exact(h.row k id R hk G).eR rfl (by rw[AH.cM,if_neg (by have:=h.wf.lt id _ D; omega)]) λ us h8=>h8.grow aa
 ·rcases dL ht with⟨_,B⟩ | ⟨h0,B⟩ <;> rcases dL iO with⟨_,D⟩ | ⟨V,D⟩
  ·exact h.iy t t' τ fG B D hf
  ·cases D; have:=h.oI t τ B; simp only at hf; omega
  ·cases B; have:=h.oI t' fG D; simp only at hf; omega
  ·omega
 ·rw[AH.di];rcases dL ht with⟨_,B⟩ | ⟨h0,B⟩
  ·have:=h.oI t τ B; omega
  ·cases B; exact Nat.lt_succ_self _
 ·rcases dL ht with⟨_,B⟩ | ⟨h0,B⟩
  ·exact h.tq t τ B hm
  ·cases B; exact h.nR hm
 ·obtain⟨k1,k2,k3,k4⟩:=hl.grow aa;refine .aW (τ:=⟨H.next,0,0,H.next,0⟩) (λ i j=>(vs[i * sz+j]?).getD undef) kA (hX.new _ _ _ (Nat.le_refl _) (Nat.le_refl _)) h.nR da (by show(e.toks++[_])[tk.length]? = _; rw[<- h.dD]; exact da) rfl rfl rfl rfl rfl rfl rfl ?_ k2 k3 (λ i cs j p N X=>?_) (λ i cs j p N X=>?_)
  ·show 0+l.length * sz<=(vs.map some).length;rw[List.length_map,k1]; omega
  ·obtain⟨v,B,_⟩:=k4 i cs j p N X;show(vs.map some)[0+i * sz+j]? = _;rw[Nat.zero_add,List.getElem?_map,B]; rfl
  ·obtain⟨v,B,D⟩:=k4 i cs j p N X;rw[B]; exact D
theorem vQ (zs:List Value):∀ n,(ba zs n).length=n * zs.length
 | 0=>by simp[ba]
 | n+1=>by simp only[ba,List.length_append,vQ zs n,Nat.add_mul,Nat.one_mul]; omega
theorem tK (zs:List Value) {j:Nat} (X:j < zs.length):∀ (n i:Nat),i < n->(ba zs n)[i * zs.length+j]? = zs[j]?
 | 0,_,h=>by omega
 | n+1,0,_=>by
  show(zs++ba zs n)[0 * zs.length+j]? = _;rw[Nat.zero_mul,Nat.zero_add,List.getElem?_append_left X]
 | n+1,i+1,h=>by
  show(zs++ba zs n)[(i+1) * zs.length+j]? = _;rw[Nat.add_mul,Nat.one_mul,List.getElem?_append_right (by omega),show i * zs.length+zs.length+j - zs.length=i * zs.length+j by omega];exact tK zs X n i (by omega)
inductive ZR:List PV->List Value->Prop
 | nil:ZR [] []
 | val {v:Value} {l:List PV} {vs:List Value} (U:bu v=true) (h:ZR l vs):ZR (.val v :: l) (v :: vs)
 | lst {sz:Nat} {l:List PV} {vs:List Value} (h:ZR l vs):ZR (.aS sz [] none :: l) (.slice none 0 0 :: vs)
theorem ZR.rv {e:cz} {tk:List Nat} {H:AH} {l:List PV} {vs:List Value} (h:ZR l vs):L2 (RV e tk H false) l vs/\l.all PV.plain=true:=by
 induction h with
 | nil=>exact⟨L2.nil,rfl⟩
 | val U _ ih=>exact⟨L2.cons (.val U) ih.1,by rw[List.all_cons,ih.2]; exact(Bool.and_true _).trans U⟩
 | lst _ ih=>exact⟨L2.cons (.fU (λ k hk=>by cases hk)) ih.1,by rw[List.all_cons,ih.2]; rfl⟩
theorem NK {α:Type} {c:α->List PV} {z:α} {zs:List Value} {e:cz} {tk:List Nat} {H:AH} {sz:Nat} (uN:ZR (c z) zs) (gK:zs.length=sz) (n:Nat):rH e tk H sz ((List.replicate n z).map c) (ba zs n):=by
 have Ot:∀ (i:Nat) (cs:List PV),((List.replicate n z).map c)[i]? = some cs->i < n/\cs=c z:=λ i cs N=>by
  rw[List.getElem?_map,Option.map_eq_some_iff] at N;obtain⟨y,hy,rfl⟩:=N;exact⟨by have:=ax hy; simpa using this,by rw[List.eq_of_mem_replicate (List.mem_of_getElem? hy)]⟩
 obtain⟨k1,k2⟩:=uN.rv (e:=e) (tk:=tk) (H:=H);have Ov:(c z).length=sz:=by rw[k1.1]; exact gK
 subst gK;refine⟨by rw[vQ,List.length_map,List.length_replicate],λ i cs N=>by rw[(Ot i cs N).2]; exact Ov,λ i cs j p N X=>?_,λ i cs j p N X=>?_⟩
 ·obtain⟨_,rfl⟩:=Ot i cs N;exact jK k2 X
 ·obtain⟨kD,rfl⟩:=Ot i cs N;have jc:j < zs.length:=by rw[<- Ov]; exact ax X
  obtain⟨v,hv,hr⟩:=k1.at X;exact⟨v,by rw[tK zs jc n i kD,hv],hr⟩
section ops
variable {rnd:Option Nat} {all os:List Oper} {s:PS} {Q:PS->Prop} {d:Option Tmp} {ty:TypeId} {pst:String} {af:Array Edge} {gu:Option (Nat×Bool)} {α:Type} {c:α->List PV}
theorem E2 {z:α} {t el sz N2:Nat} {x y:Operand} {n:Int} {zs:List Value} (ht:P.underlying t=some (.slice el)) (hb:jJ P el=.ok N2) (hs:bD P el=.ok sz) (hz:eB P el=.ok zs) (uN:ZR (c z) zs) (gK:zs.length=sz)
  (Y:s.ev x=some (g n)) (hy:s.ev y=some (g n)) (h0:0<=n) (B:n<=281474976710656) (D:N2 * n.toNat<=281474976710656):uX P O s ⟨d,.makeSlice t x y,ty,pst,af,gu⟩ (.aW sz ((List.replicate n.toNat z).map c) s.tk.length) s.fr (s.tk++[0]):=by
 refine⟨rfl,λ C e a H G=>?_⟩;obtain⟨u,k1,k2⟩:=G.ev Y;obtain⟨v,k3,k4⟩:=G.ev hy;have e1:=k2.bA; subst e1;have e2:=k4.bA; subst e2;have hn:((n.toNat:Nat):Int)=n:=Int.toNat_of_nonneg h0;obtain⟨st,rv⟩:=Qn G.h.dz G.h.xc (NK (e:=e) (tk:=s.tk) (H:=H) uN gK n.toNat) el;rw[show((List.replicate n.toNat z).map c).length=n.toNat by simp] at rv;refine⟨0,_,_,_,?_,st,rv⟩;have Tf:gH (.int .i64 n) 281474976710656=.ok n.toNat:=kr (n:=n.toNat) rfl (by omega) (by omega);have LP:gH (.int .i64 n) n.toNat=.ok n.toNat:=kr (n:=n.toNat) rfl (by omega) (Nat.le_refl _);simp only[b9,az.aL k1,az.aL k3,bind,Except.bind,ht,Tf,LP,hb,hs,hz];rw[if_neg (by omega)];simp only[newRow,AH.jv];rfl
theorem PO.X3 {t sz k el:Nat} {AS:Option Nat} {x y:Operand} {xU:Array TypeId} {L M L2:List α} (es:List (Nat×PV)) (Ov:∀ y,(c y).length=sz) (hw:cC all s ⟨d,.call ⟨.builtin .copy,#[x,y],xU⟩,ty,pst,af,gu⟩=some true) (ht:xU.toList.head? = some t) (hu:P.underlying t=some (.slice el)) (hs:bD P el=.ok sz)
  (Y:s.ev x=some (.aW sz (L.map c) k)) (hy:s.ev y=some (.aS sz (M.map c) AS)) (hL:M.take L.length++L.drop M.length=L2) (hc:s.can d=true) (tc:s.ms=[]) (N3:Nat.ble s.t0 k=true) (jj:Gm k s.fr=true) (yM:∀ y∈es,Eu s k sz (L.map c) (L2.map c) d y)
  (h:PO P O rnd all os (PS.mS s.ms s.n es s.fr s.tk s.r0 s.t0) Q):PO P O rnd all (⟨d,.call ⟨.builtin .copy,#[x,y],xU⟩,ty,pst,af,gu⟩ :: os) s Q:=λ C e a H G=>by
 subst hL;obtain⟨v,B,D⟩:=G.ev Y;obtain⟨u,V,h4⟩:=G.ev hy;rw[Nat.ble_eq] at N3;obtain⟨new,k1,k2,k3,k4,k5⟩:=lD h4 hs;rw[List.length_map] at k1;rw[List.length_map] at k2;obtain⟨ts,N1⟩:∃ ts,xU.toList=t :: ts:=by
  cases hq:xU.toList with
  | nil=>rw[hq] at ht; cases ht
  | cons a l=>rw[hq] at ht; cases ht; exact⟨l,rfl⟩
 have KO:eU a.eval [x,y]=.ok [v,u]:=by simp only[eU,az.aL B,az.aL V,bind,Except.bind]
 have key:∀ (n:Nat),n=Nat.min M.length L.length->n≠0->∃ id off H1,v=.slice (some ⟨id,off,none⟩) L.length L.length/\H.gf id off (new.take (n * sz))=.ok H1/\df C e s.fr s.tk H1/\(∀ p w,yp k 4 p=true->RV e s.tk H true p w->RV e s.tk H1 true p w)/\(∀ w,RV e s.tk H true (.aW sz (L.map c) k) w->RV e s.tk H1 true (.aW sz ((M.take L.length++L.drop M.length).map c) k) w):=λ n hn xg=>by
  have hnM:n<=M.length:=by rw[hn]; exact Nat.min_le_left _ _
  have hnL:n<=L.length:=by rw[hn]; exact Nat.min_le_right _ _
  have Fw:(M.take n).length=n:=by rw[List.length_take]; omega
  have mH:(cJ c (M.take n)).length=n * sz:=by rw[pD Ov,Fw]
  have NX:(new.take (n * sz)).length=n * sz:=by
   rw[List.length_take,k2];exact Nat.min_eq_left (Nat.mul_le_mul_right _ hnM)
  have hmul:n * sz<=L.length * sz:=Nat.mul_le_mul_right _ hnL;have AI:∀ (i j:Nat) (y:α) (p:PV),M[i]? = some y->i < n->(c y)[j]? = some p->(cJ c (M.take n))[i * sz+j]? = some p:=λ i j y p N wb X=>by
   rw[BZ Ov (y:=y) (by rw[List.getElem?_take,if_pos wb]; exact N) (by rw[<- Ov y]; exact ax X)];exact X
  have mo:L2 (RV e s.tk H false) (cJ c (M.take n)) (new.take (n * sz))/\(cJ c (M.take n)).all PV.plain=true:=by
   have mU:∀ (q:Nat) (p:PV),(cJ c (M.take n))[q]? = some p->p.plain=true/\∃ v,new[q]? = some v/\RV e s.tk H false p v:=λ q p hq=>by
    have cG:=ax hq;rw[mH] at cG;have gK:0 < sz:=by
     rcases Nat.eq_zero_or_pos sz with h0 | h0
     ·rw[h0] at cG; omega
     ·exact h0
    have hdm:q / sz * sz+q % sz=q:=by have:=Nat.div_add_mod q sz; rw[Nat.mul_comm] at this; exact this
    have N:q / sz < n:=by rw[Nat.div_lt_iff_lt_mul gK]; exact cG
    have X:q % sz < sz:=Nat.mod_lt _ gK;obtain⟨y,hy⟩:=aP (l:=M) (i:=q / sz) (by omega);obtain⟨p',lE⟩:=aP (l:=c y) (i:=q % sz) (by rw[Ov]; exact X);have h5:=AI (q / sz) (q % sz) y p' hy N lE;rw[hdm,hq] at h5;cases h5;have h6:(M.map c)[q / sz]? = some (c y):=by rw[List.getElem?_map,hy]; rfl
    obtain⟨v,h7,h8⟩:=k5 _ _ _ _ h6 lE;rw[hdm] at h7;exact⟨k4 _ _ _ _ h6 lE,v,h7,h8⟩
   refine⟨⟨by rw[mH,NX],λ q p v hq hv=>?_⟩,?_⟩
   ·obtain⟨_,v',h5,h6⟩:=mU q p hq;rw[List.getElem?_take] at hv;split at hv
    ·rw[h5] at hv; cases hv; exact h6
    ·cases hv
   ·rw[List.all_eq_true];intro x Y;obtain⟨q,hq,rfl⟩:=List.mem_iff_getElem.1 Y;exact(mU q _ (List.getElem?_eq_getElem hq)).1
  have VP:(new.take (n * sz)).all bu=true:=by
   rw[List.all_eq_true];intro x Y;obtain⟨j,X,rfl⟩:=List.mem_iff_getElem.1 Y;obtain⟨p,U⟩:=aP (l:=cJ c (M.take n)) (i:=j) (by rw[mo.1.1]; exact X);exact vu (mo.1.2 j p _ U (List.getElem?_eq_getElem X)) (jK mo.2 U)
  have tC:(M.take L.length++L.drop M.length).length=L.length:=by
   rw[List.length_append,List.length_take,List.length_drop];have:n=min M.length L.length:=hn;omega
  obtain⟨qF,Jl,H1,τ,e1,Uy,uH,ft,VQ,xT,nV,jT,_⟩:=RV.Mt G.h (o:=0) (l':=(M.take L.length++L.drop M.length).map c) (ps:=cJ c (M.take n)) (us:=new.take (n * sz)) D (λ e1=>by
   have:=congrArg List.length e1;rw[List.length_map] at this;simp at this;subst this;simp at hnL;omega) (by rw[G.t0]; exact N3) mo.1 VP mo.2 (by rw[NX,List.length_map]; omega) (by rw[List.length_map,List.length_map,tC]) (λ j cs X=>by
    rw[List.getElem?_map,Option.map_eq_some_iff] at X;obtain⟨y,_,rfl⟩:=X;exact Ov y) (λ i cs j p N X=>by
    rw[NX];rw[List.getElem?_map,Option.map_eq_some_iff] at N;obtain⟨y,hy,rfl⟩:=N;have jc:j < sz:=by rw[<- Ov y]; exact ax X
    by_cases wb:i < n
    ·left;have:=wC wb jc;rw[List.getElem?_append_left (by rw[List.length_take]; have:n=min M.length L.length:=hn; omega),List.getElem?_take] at hy;rw[if_pos (by omega)] at hy;exact⟨by omega,by omega,by rw[Nat.sub_zero]; exact AI i j y p hy wb X⟩
    ·right;have h5:n * sz<=i * sz:=Nat.mul_le_mul_right _ (by omega);refine⟨.inr (by omega),c y,?_,X⟩;have hnm:n=min M.length L.length:=hn;have hiL:i < L.length:=by have:=ax hy; rw[tC] at this; exact this
     rw[List.getElem?_append_right (by rw[List.length_take]; omega),List.length_take,List.getElem?_drop] at hy;rw[List.getElem?_map,show i=M.length+(i - min L.length M.length) by omega,hy]; rfl) jj
  rw[List.length_map] at e1;exact⟨qF,Jl,H1,e1,by rw[<- VQ,Nat.add_zero],xT,nV,jT⟩
 by_cases xg:Nat.min M.length L.length=0
 ·have jT:M.take L.length++L.drop M.length=L:=by
   have tn:min M.length L.length=0:=xg;rcases Nat.eq_zero_or_pos M.length with h0 | h0
   ·have:M=[]:=List.eq_nil_of_length_eq_zero h0;subst this; simp
   ·have:L=[]:=List.eq_nil_of_length_eq_zero (by omega);subst this; simp
  rw[jT] at yM;refine WO.one (G.wanted hw) rfl (v:=.int .i64 0) (H1:=H) ⟨0,?_⟩ (G.can hc) (h C e _ H (G.GN hc tc yM G.h (λ _ _ _ h=>h) (λ _ h=>h)));have LS:(v=.slice none 0 0)\/∃ id off,v=.slice (some ⟨id,off,none⟩) L.length L.length:=by
   generalize hl:L.map c=l at D;have Sc:l.length=L.length:=by rw[<- hl,List.length_map]
   cases D with
   | mf=>exact .inl rfl
   | aW=>rw[<- Sc]; exact .inr ⟨_,_,rfl⟩
  have tn:min M.length L.length=0:=xg;rcases LS with rfl | ⟨id,off,rfl⟩
  ·simp only[b9,KO,bind,Except.bind,N1,hu,hs,k1]
  ·simp only[b9,KO,bind,Except.bind,N1,hu,hs,k1,tn,if_true]
 ·obtain⟨id,off,H1,rfl,VQ,xT,nV,jT⟩:=key _ rfl xg;refine WO.one (G.wanted hw) rfl (v:=.int .i64 (Nat.min M.length L.length)) (H1:=H1) ⟨0,?_⟩ (G.can hc) (h C e _ H1 (G.GN hc tc yM xT nV jT));have tn:min M.length L.length=Nat.min M.length L.length:=rfl;simp only[b9,KO,bind,Except.bind,N1,hu,hs,k1,tn,if_neg xg,VQ]
def LU (s:PS) (k sz:Nat) (l:List (List PV)) (y:Nat×PV):Prop:=(s.tm.get y.1=some y.2/\yp k 4 y.2=true)\/(s.tm.get y.1=some (.aW sz l k)/\y.2=.aS sz l none)
theorem Bp {s:PS} {k sz:Nat} {l:List (List PV)} {t:Nat} {p:PV} (h:s.tm.get t=some p) (D:yp k 4 p=true):LU s k sz l (t,p):=.inl ⟨h,D⟩
theorem fMw {s:PS} {k sz:Nat} {l:List (List PV)} {t:Nat} (h:s.tm.get t=some (.aW sz l k)):LU s k sz l (t,.aS sz l none):=.inr ⟨h,rfl⟩
theorem bc.Im (k sz:Nat) {l:List (List PV)} {es:List (Nat×PV)} (N3:Nat.ble s.t0 k=true) (jj:Gm k s.fr=true) (yM:∀ y∈es,LU s k sz l y):bc s (PS.mS s.ms s.n es s.fr s.tk s.r0 s.t0):=λ C e a H G=>by
 rw[Nat.ble_eq] at N3;by_cases Rv:∃ τ,e.toks[k]? = some (some τ)/\τ.esz=0/\τ.base=0
 ·obtain⟨τ,ht,hz,mG⟩:=Rv;have I:C.H0.next<=τ.aU:=by
   rcases G.h.ext.tok k τ ht with h | h
   ·have:=ax h; have:=G.t0; omega
   ·exact h
  obtain⟨nk,xi⟩:=aP (l:=s.tk) (i:=k) (by rw[<- G.h.dz.dD]; exact ax ht)
  let e':cz:={ e with toks:=e.toks.set k none }
  have yQ:∀ j,j≠k->e'.toks[j]? = e.toks[j]?:=λ j X=>List.getElem?_set_ne (Ne.symm X);have Xl:∀ (j:Nat) (fG:Tk),e'.toks[j]? = some (some fG)->j≠k/\e.toks[j]? = some (some fG):=λ j fG X=>by
   by_cases e1:j=k
   ·subst e1;have jc:(e.toks.set j none)[j]? = some (some fG):=X;rw[List.getElem?_set_self (ax ht)] at jc; cases jc
   ·exact⟨e1,by rw[<- yQ j e1]; exact X⟩
  have aa:Jk e e' s.tk s.tk H H k τ.aU:=⟨Nat.le_refl _,rfl,rfl,yQ,λ _ _=>rfl,λ id aU en hs=>⟨hs.lt,hs.we,hs.x,hs.row,λ t fG n a1 Z a3=>hs.tok t fG n (Xl t fG a1).2 Z a3⟩,λ j r hr _=>hr,λ j r hr _=>⟨r,hr,Meta.refl r⟩,λ id en hs=>by
   have:=hs.tok k τ nk ht xi rfl;rw[mG,hz] at this;omega,λ j fG ee X hf=>ee (G.h.dz.iy j k fG τ X ht hf)⟩
  have xT:df C e' s.fr s.tk H:=G.h.tl (x:=none) aa ⟨G.h.dz.wf,λ j o X _=>X,λ j _ h=>h,λ id r hr=>.inl ⟨id,r,hr,rfl⟩,I,G.h.dz.oI k τ ht,G.h.dz.tq k τ ht⟩ (by rw[G.t0]; exact N3) rfl (λ _ h=>by cases h) rfl jj;refine⟨e',xT,G.n,G.bn,G.r0,G.t0,λ t p U=>?_⟩;have lH:=ni es t p (by have AD:=U; simp only[PS.mS] at AD; exact AD);rcases yM _ lH with⟨B,D⟩ | ⟨B,D⟩
  ·obtain⟨u,q1,q2⟩:=G.tm t p B;exact⟨u,q1,q2.tl aa λ _=>⟨4,D⟩⟩
  ·obtain⟨u,q1,q2⟩:=G.tm t _ B;have uE:p=.aS sz l none:=D;subst uE;refine⟨u,q1,?_⟩;cases q2 with
   | mf=>exact .fU (λ j X=>by cases X)
   | @aW _ _ _ id off r fG w hr Y cI n hn iO hm Cj uH ft oM gG he hw Oh lE uO hh=>
    rw[ht] at iO; cases iO;refine .aS (n:=off+l.length * sz) w hr (Nat.le_refl _) ⟨G.h.dz.wf.lt _ _ hr,G.h.dz.wf.aU _ _ hr,Y,cI,λ t fG n a1 Z a3=>?_⟩ he (Nat.le_refl _) hw Oh lE uO (λ i cs j p N X=>(hh i cs j p N X).tl aa λ hb=>by cases hb) (λ j X=>by cases X);obtain⟨b1,b2⟩:=Xl t fG a1;exact absurd (a3.symm.trans oM) (aa.Pr t fG b1 b2)
 ·
  refine⟨e,G.h,G.n,G.bn,G.r0,G.t0,λ t p U=>?_⟩;have lH:=ni es t p (by have AD:=U; simp only[PS.mS] at AD; exact AD);rcases yM _ lH with⟨B,D⟩ | ⟨B,D⟩
  ·exact G.tm t p B
  ·obtain⟨u,q1,q2⟩:=G.tm t _ B;have uE:p=.aS sz l none:=D;subst uE;cases q2 with
   | mf=>exact⟨_,q1,.fU (λ j X=>by cases X)⟩
   | aW w hr Y cI hn iO hm Cj uH ft oM gG he hw Oh lE uO hh=>exact absurd ⟨_,iO,hm,Cj⟩ Rv
def sd:Nat->PV->Option PV
 | _,.val v=>some (.val v)
 | _,.aS sz l _=>some (.aS sz l none)
 | _,.aW sz l _=>some (.aS sz l none)
 | _,.dN c o=>some (.dN c o)
 | n+1,.agg l=>(match cr (sd n) l with
  | some m=>some (.agg m)
  | none=>none)
 | _,_=>none
def mi:cz:=⟨[],[],λ _ _ _=>True⟩
theorem LV {e:cz} {tk:List Nat} {H:AH} {id aU en:Nat} (h:lJ e tk H id aU en):lJ mi [] H id aU en:=⟨h.lt,h.we,trivial,by simp[mi],λ t τ n ht=>by simp[mi] at ht⟩
theorem RV.sd {e:cz} {fr:List aJ} {tk:List Nat} {H:AH} (hI:gN e fr tk H):∀ (n:Nat) {p q:PV} {v:Value},RV e tk H true p v->cy.sd n p=some q->RV mi [] H true q v:=by
 have low:∀ {p v},RV e tk H false p v->RV mi [] H false p v:=λ h=>h.Kl λ _ _ _=>LV;have base:∀ (n:Nat) {p q:PV} {v:Value},RV e tk H true p v->(∀ l,p≠.agg l)->cy.sd n p=some q->RV mi [] H true q v:=by
  intro n p q v h ZN hq;cases h with
  | val hv=>cases n <;> (cases hq; exact .val hv)
  | fU ht=>cases n <;> (cases hq; exact .fU (λ j X=>by cases X))
  | aS w hr hn hs he hc hw hz U hv hh ht=>cases n <;> (cases hq; exact .aS w hr hn (LV hs) he hc hw hz U hv (λ i cs j p N X=>low (hh i cs j p N X)) (λ j X=>by cases X))
  | mf=>cases n <;> (cases hq; exact .fU (λ j X=>by cases X))
  | @aW sz l _ id off r fG w hr Y cI n' hn iO hm Cj uH ft oM gG he hw hz U uO hh=>
   cases n <;> (cases hq; exact .aS (n:=off+l.length * sz) w hr (Nat.le_refl _) ⟨hI.wf.lt _ _ hr,hI.wf.aU _ _ hr,trivial,by simp[mi],λ t τ n ht=>by simp[mi] at ht⟩ he (Nat.le_refl _) hw hz U uO (λ i cs j p N X=>low (hh i cs j p N X)) (λ j X=>by cases X))
  | dN w hr hn hs hv hh=>cases n <;> (cases hq; exact .dN w hr hn (LV hs) hv (λ j p X=>low (hh j p X)))
  | agg=>exact absurd rfl (ZN _)
  | _=>cases n <;> cases hq
 intro n
 induction n with
 | zero=>
  intro p q v h hq;refine base 0 h (λ l e1=>?_) hq;subst e1; cases hq
 | succ n ih=>
  intro p q v h hq;cases p with
  | agg l=>
   simp only[cy.sd] at hq;cases hm:cr (cy.sd n) l with
   | none=>rw[hm] at hq; cases hq
   | some m=>
    rw[hm] at hq; cases hq;obtain⟨k1,k2⟩:=iU hm;cases h with
    | @agg _ _ vs hl hh=>
     refine .agg (k1.symm.trans hl) λ i p v N hv=>?_;obtain⟨x,Y⟩:=aP (l:=l) (i:=i) (by rw[k1]; exact ax N);exact ih (hh i x v Y hv) (k2 i x p Y N)
  | _=>exact base (n+1) h (λ l e1=>by cases e1) hq
theorem PO.Rw {o:Oper} {aa:FuncId} {xs:Array Operand} {xU:Array TypeId} {args eb:List PV} {u:Value} (ho:o.op=.call ⟨.value (.func aa),xs,xU⟩) (hw:cC all s o=some true) (Y:tL s xs.toList=some args) (hc:s.can o.dst=true) (ha:cr (sd 4) args=some eb)
  (hf:PF P O aa eb [] [] (λ p fr tk=>p=.val u/\fr=[]/\tk=[])) (h:PO P O rnd all os (s.dF o.dst (.val u)) Q):PO P O rnd all (o :: os) s Q:=λ C e a H G=>by
 obtain⟨vs,B,D⟩:=G.tL Y;have hI:=G.h.dz;have nQ:L2 (RV mi [] H true) eb vs:=by
  obtain⟨k1,k2⟩:=iU ha;refine⟨k1.symm.trans D.1,λ i p v N hv=>?_⟩;obtain⟨x,Y⟩:=aP (l:=args) (i:=i) (by rw[k1]; exact ax N);exact(D.2 i x v Y hv).sd hI 4 (k2 i x p Y N)
 have Km:gN mi [] [] H:=⟨hI.wf,rfl,λ i j id N=>by simp[mi] at N,λ k id R hk=>by simp[mi] at hk,rfl,λ t t' τ fG ht=>by simp[mi] at ht,λ t τ ht=>by simp[mi] at ht,λ t τ ht=>by simp[mi] at ht⟩
 have VE:XC mi H:=⟨λ _ _ _ _ _=>trivial,λ t τ id en ht=>by simp[mi] at ht⟩
 refine WO.call ho (G.wanted hw) B (G.can hc) (hf mi H vs Km VE nQ) ?_;rintro v H' ⟨e2,Dv,tk2,p,st,rv,rfl,rfl,rfl⟩;have hv:v=u:=by
  have:=rv.bA;exact this
 subst hv;have kN:bu v=true:=by cases rv; assumption
 have iC:∀ (id:Nat) (o:AO),H.get id=some o->H'.get id=some o:=λ id o ho=>by
  cases o with
  | row r=>
   obtain⟨r',k1,k2,k3,k4⟩:=st.bC.row id r ho (by simp[je,mi]);have CA:r'.cells=r.cells:=List.ext_getElem? λ p=>k3 p λ t τ n ht=>by simp[je,mi] at ht
   have af3:=k4 λ t τ ht=>by simp[je,mi] at ht
   have:r'=r:=by
    obtain⟨c1,t1,f1,d1,z1,o1,s1⟩:=r;obtain⟨c2,t2,f2,d2,z2,o2,s2⟩:=r';have:=k2.ty; have:=k2.aU; have:=k2.bJ; have:=k2.esz; have:=k2.ro;simp only at *
    subst_vars
    rfl
   rw[k1,this]
  | map es c=>exact st.bC.jY id _ ho (λ r e1=>by cases e1) (by simp[je,mi])
  | mark b=>exact st.bC.jY id _ ho (λ r e1=>by cases e1) (by simp[je,mi])
  | loop l=>exact st.bC.jY id _ ho (λ r e1=>by cases e1) (by simp[je,mi])
  | _=>exact st.bC.jY id _ ho (λ r e1=>by cases e1) (by simp[je,mi])
 have jj:Frame (je e s.tk H) H':=⟨st.bC.next,λ id r hr _=>⟨r,iC id _ hr,Meta.refl r,λ _ _=>rfl,λ _=>rfl⟩,λ id o ho _ _=>iC id o ho,st.bC.jo,st.bC.aU⟩
 have aa:=kn (mB.refl e s.tk H) jj rfl hI;have jD:gO e s.tk H e s.fr s.tk H':=⟨⟨st.dz.wf,hI.dY,hI.rnd,λ k id R hk ma=>by
  obtain⟨o,h5,_⟩:=(hI.row k id R hk ma).eF;exact(hI.row k id R hk ma).eR rfl (by rw[h5,iC id o h5]) λ us h8=>h8.grow aa,hI.dD,hI.iy,λ t τ ht=>Nat.lt_of_lt_of_le (hI.oI t τ ht) st.bC.next,hI.tq⟩,mB.refl e s.tk H,jj,rfl⟩
 have:=G.dF hc jD (.val (b:=true) kN);exact h C e _ H' this
end ops
end
end Go.cy
namespace Go.cy
noncomputable section
variable {P:Program} {O:ia}
theorem cm.Xm {C:fS} {e e':cz} {s:PS} {a:az} {H H':AH} {fr':List aJ} {tk':List Nat} (G:cm C e s a H) {d:Option Tmp} (hc:s.can d=true) {p:PV} {v:Value} (hh:df C e' fr' tk' H') (aa:Grow e s.tk H e' tk' H') (hm:∀ m,H.get m=some (.mark true)->H'.get m=some (.mark true)) (hv:RV e' tk' H' true p v):cm C e' ((s.mem fr' tk').dF d p) (a.dF d v) H':=by
 have B6:=G.bn.step (H':=H') hm;obtain⟨tm,n,fr,tk,r0,t0,ms⟩:=s;cases d with
 | none=>exact⟨hh,G.n,B6,G.r0,G.t0,λ t q ht=>let ⟨w,B,D⟩:=G.tm t q ht; ⟨w,B,D.grow aa⟩⟩
 | some d=>
  have hd:d+1 < 2 ^ 48:=by
   replace hc:=(mN hc).2;simp only[PS.I8] at hc;cases B:Nat.ble (Nat.succ d) n with
   | false=>rw[B] at hc; cases hc
   | true=>
    rw[B] at hc;have D:Nat.ble n 281474976710654=true:=hc;rw[Nat.ble_eq] at B D;exact Nat.lt_of_le_of_lt (Nat.le_trans B D) (by decide)
  have U:∀ {α:Type} (t:T α) (x:α) (j:Nat),(T.put AH.top t d x).get j=if j=d then some x else t.get j:=λ t x j=>T.jB 48 _ _ _ _ hd
  refine⟨hh,G.n,B6.dF (mN hc).1 hd,G.r0,G.t0,λ t q ht=>?_⟩;have iO:(T.put AH.top tm d p).get t=some q:=ht;rw[U] at iO;show ∃ w,(T.put AH.top a.tm d v).get t=some w/\_;rw[U];split at iO
  ·rename_i e1;cases iO;exact⟨v,by rw[if_pos e1],hv⟩
  ·rename_i e1;obtain⟨w,B,D⟩:=G.tm t q iO;exact⟨w,by rw[if_neg e1]; exact B,D.grow aa⟩
def Jm:PV->Bool
 | .val _=>true
 | _=>false
def Xn:PV->Bool
 | .val _=>true
 | .agg l=>l.all Jm
 | _=>false
theorem C7 {e e':cz} {tk tk':List Nat} {H H':AH} {b:Bool} {p:PV} {v:Value} (U:Jm p=true) (h:RV e tk H b p v):RV e' tk' H' b p v:=by
 cases h <;> first | (cases U) | skip
 exact .val (by assumption)
theorem Qo {e e':cz} {tk tk':List Nat} {H H':AH} {b:Bool} {p:PV} {v:Value} (U:Xn p=true) (h:RV e tk H b p v):RV e' tk' H' b p v:=by
 cases h <;> first | (cases U; done) | skip
 ·exact .val (by assumption)
 ·rename_i l vs hl hh;exact .agg hl λ i p v N hv=>C7 (jK U N) (hh i p v N hv)
def X4 (fr:List aJ):Bool:=fr.all λ R=>pick (Nat.beq R.esz kY) false (R.cells.all Jm)
section ops
variable {rnd:Option Nat} {all os:List Oper} {s:PS} {Q:PS->Prop} {α:Type}
theorem PO.HR (c:α->List PV) (RO:∀ y,(c y).all Jm=true) {o:Oper} {aa:FuncId} {xs:Array Operand} {xU:Array TypeId} {args eb:List PV} {ks ts:List Nat} {fr1:List aJ} {Qf:PV->List aJ->List Nat->Prop} (ho:o.op=.call ⟨.value (.func aa),xs,xU⟩) (hw:cC all s o=some true) (Y:tL s xs.toList=some args) (hc:s.can o.dst=true)
  (hk:dZ 0 s.fr.length ks=true) (ht:dZ 0 s.tk.length ts=true) (ha:cr (PV.to (fL ks) (fL ts) 4) args=some eb) (jj:iG s.fr ks ts ks fr1) (hf:PF P O aa eb fr1 (bY s.tk ts) Qf)
  (h:vb s ks ts Qf (λ p fr tk=>∃ (sz:Nat) (L:List α) (t:Nat) (rest:List PV),p=.fX (.aS sz (L.map c) (some t) :: rest)/\tk[t]? = some L.length/\(Nat.ble s.tk.length t,Nat.ble s.t0 s.tk.length,rest.all Xn,X4 fr)=(true,true,true,true)/\PO P O rnd all os ((s.mem fr (tk.set t 0)).dF o.dst (.fX (.aW sz (L.map c) t :: rest))) Q)):PO P O rnd all (o :: os) s Q:=λ C e a H G=>by
 obtain⟨vs,B,D⟩:=G.tL Y;refine WO.call ho (G.wanted hw) B (G.can hc) (pC G D hk ht ha jj hf h) ?_;rintro v H' ⟨e',p,fr',tk',st,rv,⟨sz,L,t,rest,rfl,xi,hq,FU⟩,_⟩;have Ot:∀ (i:Nat) (cs:List PV) (j:Nat) (p:PV),(L.map c)[i]? = some cs->cs[j]? = some p->Jm p=true:=λ i cs j p N X=>by
  rw[List.getElem?_map,Option.map_eq_some_iff] at N;obtain⟨y,_,rfl⟩:=N;exact jK (RO y) X
 rw[show L.length=(L.map c).length by rw[List.length_map]] at xi;generalize L.map c=l at *;simp only[Prod.mk.injEq] at hq;obtain⟨q1,q2,q3,q4⟩:=hq;rw[Nat.ble_eq] at q1 q2;have hI:=G.h.dz;have hh:=G.h.step st;have gg:=st.grow hI;have Rx:∀ m,H.get m=some (.mark true)->H'.get m=some (.mark true):=λ m hm=>st.kP hI hm (λ r e=>by cases e) (λ _ _ e=>by cases e);have Fw:t < tk'.length:=ax xi;have eH:∀ (i id:Nat) (R:aJ) (e2:cz) (tk2:List Nat),e'.aY[i]? = some id->fr'[i]? = some R->qT e2 tk2 H' id R:=λ i id R e2 tk2 N ma=>by
  have U:=jK q4 ma;refine(hh.dz.row i id R N ma).eR rfl rfl λ us k8=>⟨k8.1,λ j p v X rb=>C7 ?_ (k8.2 j p v X rb)⟩
  have lE:pick (Nat.beq R.esz kY) false (R.cells.all Jm)=true:=U;cases hz:Nat.beq R.esz kY with
  | true=>rw[hz] at lE; cases lE
  | false=>rw[hz] at lE; exact jK lE X
 obtain⟨ws,IK,VS⟩:∃ ws:List Value,v=.tuple ws.toArray/\L2 (RV e' tk' H' true) (.aS sz l (some t) :: rest) ws:=by
  cases rv with
  | fX hl hh=>exact⟨_,rfl,hl,hh⟩
 subst IK;obtain⟨w0,ws',rfl,Bm,By⟩:=VS.dE;have T6:∀ {e2:cz} {tk2:List Nat},L2 (RV e2 tk2 H' true) rest ws':=λ {e2 tk2}=>⟨By.1,λ i p v N hv=>Qo (jK q3 N) (By.2 i p v N hv)⟩
 have Xo:∀ {e2:cz} {tk2:List Nat},RV e2 tk2 H' true (.aW sz l t) w0->RV e2 tk2 H' true (.fX (.aW sz l t :: rest)) (.tuple (w0 :: ws').toArray):=λ {e2 tk2} hm=>by
  have:=L2.cons hm (T6 (e2:=e2) (tk2:=tk2));exact .fX this.1 this.2
 cases Bm with
 | fU cG=>
  obtain⟨_,n,m1,m2⟩:=cG t rfl;rw[xi] at m1;have xg:0=n:=Option.some.inj m1;subst xg;have pJ:tk'.set t 0=tk':=E0 xi;rw[pJ] at FU;exact FU C e' _ H' (G.Xm hc hh gg Rx (Xo .mf))
 | @aS _ _ _ _ id off c n r w hr hn hs he Ux KF uN U uO hh0 cG=>
  obtain⟨_,n0,m1,m2,m3⟩:=cG t rfl;have m1':=m1;rw[xi] at m1';have xg:l.length=n0:=Option.some.inj m1';obtain⟨τ,k1,k2,k3,k4,k5,k6⟩:=m3 xg;subst k6;have Sd:t < e'.toks.length:=ax k1;have jT:H.next<=τ.aU:=by
   rcases st.ext.tok t τ k1 with h4 | h4
   ·have h5:t < e.toks.length:=ax h4;rw[hI.dD] at h5; omega
   ·exact h4
  let fG:Tk:=⟨τ.aU,0,0,id,off⟩
  let e2:cz:={ e' with toks:=e'.toks.set t (some fG) }
  have yQ:∀ (j:Nat) (x:Tk),e2.toks[j]? = some (some x)->(j=t/\x=fG)\/(j≠t/\e'.toks[j]? = some (some x)):=λ j x X=>by
   have jc:(e'.toks.set t (some fG))[j]? = some (some x):=X;by_cases e1:j=t
   ·subst e1;rw[List.getElem?_set_self Sd] at jc;cases jc;exact .inl ⟨rfl,rfl⟩
   ·rw[List.getElem?_set_ne (Ne.symm e1)] at jc;exact .inr ⟨e1,jc⟩
  have IJ:∀ j,j≠t->e2.toks[j]? = e'.toks[j]?:=λ j X=>List.getElem?_set_ne (Ne.symm X);have Se:∀ j,j≠t->(tk'.set t 0)[j]? = tk'[j]?:=λ j X=>List.getElem?_set_ne (Ne.symm X);have hCt:C.toks.length<=t:=by have:=G.t0; omega
  have Fy:df C e2 fr' (tk'.set t 0) H':=by
   refine⟨⟨hh.dz.wf,hh.dz.dY,hh.dz.rnd,λ i id R N ma=>eH i id R _ _ N ma,by show(e'.toks.set t _).length=_; rw[List.length_set,List.length_set]; exact hh.dz.dD,λ t1 t2 x y V h4 h5=>?_,λ t1 x V=>?_,λ t1 x V=>?_⟩,⟨hh.ext.aY,λ t1 x V=>?_,λ t1 x V=>?_,λ t1 n V=>?_⟩,hh.bC,hh.cw,⟨hh.x.new,λ t1 x id en V h4=>?_⟩,hh.x0⟩
   ·rcases yQ t1 x V with⟨a1,Z⟩ | ⟨a1,Z⟩ <;> rcases yQ t2 y h4 with⟨b1,b2⟩ | ⟨b1,b2⟩
    ·omega
    ·subst Z; rw[a1]; exact hh.dz.iy t t2 τ y k1 b2 h5
    ·subst b2; rw[b1]; exact hh.dz.iy t1 t x τ Z k1 h5
    ·exact hh.dz.iy t1 t2 x y Z b2 h5
   ·rcases yQ t1 x V with⟨a1,Z⟩ | ⟨a1,Z⟩
    ·subst Z; exact hh.dz.oI t τ k1
    ·exact hh.dz.oI t1 x Z
   ·rcases yQ t1 x V with⟨a1,Z⟩ | ⟨a1,Z⟩
    ·subst Z; exact hh.dz.tq t τ k1
    ·exact hh.dz.tq t1 x Z
   ·rcases yQ t1 x V with⟨a1,Z⟩ | ⟨a1,Z⟩
    ·subst Z; exact .inr (Nat.le_trans G.h.bC.next jT)
    ·exact hh.ext.tok t1 x Z
   ·have cG:=ax V;rw[IJ t1 (by omega)]; exact hh.ext.old t1 x V
   ·have cG:=ax V;have tg:t1 < C.toks.length:=by rw[hh.cw.len]; exact cG
    obtain⟨n',a1,Z,a3⟩:=hh.ext.Hy t1 n V;exact⟨n',by rw[Se t1 (by omega)]; exact a1,Z,λ a4=>by rw[IJ t1 (by omega)]; exact a3 a4⟩
   ·rcases yQ t1 x V with⟨a1,Z⟩ | ⟨a1,Z⟩
    ·subst Z; exact hh.x.tok t τ id en k1 h4
    ·exact hh.x.tok t1 x id en Z h4
  have g2:Grow e s.tk H e2 (tk'.set t 0) H':=by
   refine⟨gg.next,gg.aY,λ id aU en ho ym=>?_,gg.row,λ j n X=>?_,λ j x X hz id r hr hf cI=>?_⟩
   ·have V:=gg.eR id aU en ho ym;refine⟨V.lt,V.we,V.x,V.row,λ t1 x n a1 Z a3=>?_⟩;rcases yQ t1 x a1 with⟨b1,b2⟩ | ⟨b1,b2⟩
    ·subst b2;have:=ym.we;have a3':aU=τ.aU:=a3;omega
    ·rw[Se t1 b1] at Z;exact V.tok t1 x n b2 Z a3
   ·have cG:=ax X;obtain⟨n',a1,Z,a3⟩:=gg.tok j n X;exact⟨n',by rw[Se j (by omega)]; exact a1,Z,λ a4=>by rw[IJ j (by omega)]; exact a3 a4⟩
   ·have cG:j < s.tk.length:=by rw[<- hI.dD]; exact ax X
    obtain⟨r',a1,Z,a3,a4,a5,a6⟩:=gg.Ld j x X hz id r hr hf cI;exact⟨r',a1,Z,a3,by rw[IJ j (by omega)]; exact a4,a5,a6⟩
  refine FU C e2 _ H' (G.Xm hc Fy g2 Rx (Xo ?_));refine .aW (τ:=fG) (n:=0) w hr ?_ hs.row (by rw[List.getElem?_set_self Fw]) (by show(e'.toks.set t _)[t]? = _; rw[List.getElem?_set_self Sd]) rfl rfl rfl rfl k2 k5 he KF uN U uO (λ i cs j p N X=>?_)
  ·show e'.an id r.aU _;rw[k2];have h5:=hs.x;exact hh.x.tok t τ id _ k1 (by
    rcases Nat.lt_or_ge id C.H0.next with h6 | h6
    ·exfalso;have:H'.get id=some (.row r):=hr;cases h0:C.H0.get id with
     | none=>rw[hh.bC.jo id h6 h0] at this; cases this
     | some o=>
      have hCn:C.H0.next<=τ.aU:=Nat.le_trans G.h.bC.next jT;cases o with
      | row r0=>
       by_cases cI:id∈C.yO
       ·obtain⟨nw,n1,_⟩:=hh.ext.aY;exact hs.row (by rw[n1]; exact List.mem_append_left _ cI)
       ·obtain⟨r',a1,Z,_⟩:=hh.bC.row id r0 h0 cI;rw[this] at a1; cases a1;have:=hh.cw.wf.aU id r0 h0;rw[<- Z.aU,k2] at this;omega
      | _=>
       by_cases cI:id∈C.yO
       ·obtain⟨nw,n1,_⟩:=hh.ext.aY;exact hs.row (by rw[n1]; exact List.mem_append_left _ cI)
       ·rw[hh.bC.jY id _ h0 (λ r e1=>by cases e1) cI] at this; cases this
    ·exact h6)
  ·exact C7 (Ot i cs j p N X) (hh0 i cs j p N X)
theorem PO.Qp {c:α->List PV} {t u el sz bytes k d:Nat} {x y:Operand} {zs:List Value} {AS:Option Nat} {L M L2:List α} {ty:TypeId} {pst:String} {af:Array Edge} {gu:Option (Nat×Bool)} (es:List (Nat×PV)) (hw:cC all s ⟨some d,.call ⟨.builtin .append,#[x,y],#[t,u]⟩,ty,pst,af,gu⟩=some true)
  (ht:P.underlying t=some (.slice el)) (hu:m9 P (some u)=.ok false) (hs:bD P el=.ok sz) (hb:jJ P el=.ok bytes) (hz:eB P el=.ok zs) (ym:Nat.beq sz 0=false) (mG:Nat.beq bytes 0=false)
  (Y:s.ev x=some (.aW sz (L.map c) k)) (hy:s.ev y=some (.aS sz (M.map c) AS)) (th:(5 * (L.length+M.length)+768) * bytes<=1125899906842624) (hL:L++M=L2) (hc:s.can (some d)=true) (tc:s.ms=[]) (hq:(Nat.ble s.t0 k,Nat.ble (k+1) s.tk.length,Gm k s.fr)=(true,true,true))
  (yM:∀ y∈es,s.tm.get y.1=some y.2/\yp k 4 y.2=true/\Nat.beq y.1 d=false)
  (h:PO P O rnd all os (PS.mS s.ms s.n ((d,.aW sz (L2.map c) k) :: es) s.fr s.tk s.r0 s.t0) Q):PO P O rnd all (⟨some d,.call ⟨.builtin .append,#[x,y],#[t,u]⟩,ty,pst,af,gu⟩ :: os) s Q:=λ C e a H G=>by
 subst hL;simp only[Prod.mk.injEq] at hq;obtain⟨q1,q2,jj⟩:=hq;rw[Nat.ble_eq] at q1 q2;obtain⟨v,B,D⟩:=G.ev Y;obtain⟨w,V,h4⟩:=G.ev hy;obtain⟨new,xS,vc⟩:=lD h4 hs;rw[List.length_map] at xS;have hI:=G.h.dz;have KO:eU a.eval [x,y]=.ok [v,w]:=by simp only[eU,az.aL B,az.aL V,bind,Except.bind]
 have Sd:k < e.toks.length:=by rw[hI.dD]; exact q2
 have hCk:C.toks.length<=k:=by have:=G.t0; omega
 have gz:∀ (e':cz) (H':AH) (u:Value) (ma:df C e' s.fr s.tk H') (nV:∀ p w,yp k 4 p=true->RV e s.tk H true p w->RV e' s.tk H' true p w) (jT:RV e' s.tk H' true (.aW sz ((L++M).map c) k) u),cm C e' (PS.mS s.ms s.n ((d,.aW sz ((L++M).map c) k) :: es) s.fr s.tk s.r0 s.t0) (a.dF (some d) u) H':=λ e' H' u ma nV jT=>by
  refine⟨ma,G.n,?_,G.r0,G.t0,λ t p U=>?_⟩
  ·have hm:=G.bn;show fk C.H0.next s.ms _ H';rw[tc] at hm ⊢;exact fk.nil hm.none
  ·have lH:=ni ((d,.aW sz ((L++M).map c) k) :: es) t p (by have AD:=U; simp only[PS.mS] at AD; exact AD);rcases List.mem_cons.mp lH with e1 | lH
   ·cases e1;exact⟨u,by rw[C6 (G.can hc),if_pos rfl],jT⟩
   ·obtain⟨k1,k2,k3⟩:=yM _ lH;obtain⟨u',m1,m2⟩:=G.tm t p k1;refine⟨u',?_,nV p u' k2 m2⟩;rw[C6 (G.can hc),if_neg (λ e1=>by subst e1; have k3':Nat.beq t t=false:=k3; rw[Nat.beq_refl] at k3'; cases k3')];exact m1
 by_cases AB:M.length=0
 ·have hM:M=[]:=List.eq_nil_of_length_eq_zero AB;subst hM;have LS:(v=.slice none 0 0)\/∃ a n c,v=.slice (some a) n c/\n<=c:=by
   generalize L.map c=l at D;cases D with
   | mf=>exact .inl rfl
   | aW=>exact .inr ⟨_,_,_,rfl,Nat.le_refl _⟩
  refine WO.one (G.wanted hw) rfl (v:=v) (H1:=H) ⟨0,?_⟩ (G.can hc) (h C e _ H (gz e H v G.h (λ _ _ _ h=>h) (by rw[List.append_nil]; exact D)));have:=xK (H:=H) (x:=w) (s:=v) (new:=new) ht hu hs hb xS LS;simp only[b9,KO,bind,Except.bind,this]
 have Xp:new.length=M.length * sz:=by have:=vc.1; rw[List.length_map] at this; exact this
 have hzM:∀ (i:Nat) (cs:List PV),(M.map c)[i]? = some cs->cs.length=sz:=vc.2.1;generalize hl:L.map c=l at D;have Sc:l.length=L.length:=by rw[<- hl,List.length_map]
 have key:∀ {β:Prop} (i:Nat) (cs:List PV),((L++M).map c)[i]? = some cs->(i < L.length->l[i]? = some cs->β)->(∀ j,i=L.length+j->(M.map c)[j]? = some cs->β)->β:=λ i cs N B D=>by
  rw[List.map_append,hl] at N;by_cases cG:i < L.length
  ·rw[List.getElem?_append_left (by omega)] at N; exact B cG N
  ·rw[List.getElem?_append_right (by omega)] at N; exact D (i - L.length) (by omega) (by rw[<- Sc]; exact N)
 cases D with
 | mf=>
  have hL0:L.length=0:=by rw[<- Sc]; rfl
  let e':cz:={ e with toks:=e.toks.set k (some ⟨H.next,0,0,H.next,0⟩) }
  have IJ:∀ j,j≠k->e'.toks[j]? = e.toks[j]?:=λ j X=>List.getElem?_set_ne (Ne.symm X);have yQ:∀ (j:Nat) (x:Tk),e'.toks[j]? = some (some x)->(j=k/\x=⟨H.next,0,0,H.next,0⟩)\/(j≠k/\e.toks[j]? = some (some x)):=λ j x X=>by
   by_cases e1:j=k
   ·subst e1;have jc:(e.toks.set j (some ⟨H.next,0,0,H.next,0⟩))[j]? = some (some x):=X;rw[List.getElem?_set_self Sd] at jc;cases jc; exact .inl ⟨rfl,rfl⟩
   ·rw[IJ j e1] at X; exact .inr ⟨e1,X⟩
  let H':=H.push (jG el H.next sz new)
  have yn:H'.next=H.next+1:=AH.di ..;have hold:∀ (j:Nat) (o:AO),H.get j=some o->H'.get j=some o:=λ j o X=>by
   show(H.push _).get j=_;rw[AH.cM,if_neg (by have:=hI.wf.lt j o X; omega)]; exact X
  have aa:Jk e e' s.tk s.tk H H' k H.next:=⟨by rw[yn]; omega,rfl,rfl,IJ,λ _ _=>rfl,λ id aU en hs=>⟨by rw[yn]; have:=hs.lt; omega,by rw[yn]; have:=hs.we; omega,hs.x,hs.row,λ t1 x n a1 Z a3=>by
   rcases yQ t1 x a1 with⟨b1,b2⟩ | ⟨b1,b2⟩
   ·subst b2; have:=hs.we; have a3':aU=H.next:=a3; omega
   ·exact hs.tok t1 x n b2 Z a3⟩,λ j r hr _=>hold j _ hr,λ j r hr _=>⟨r,hold j _ hr,Meta.refl r⟩,λ id en hs=>by have:=hs.we; omega,λ j x X Y hf=>by have:=hI.oI j x Y; omega⟩
  have VN:=vm hI.wf (r:=jG el H.next sz new) rfl;have ma:df C e' s.fr s.tk H':=G.h.tl (x:=some ⟨H.next,0,0,H.next,0⟩) aa ⟨VN,λ j o X _=>hold j o X,λ j cG X=>by show(H.push _).get j=none; rw[AH.cM,if_neg (by omega)]; exact X,λ id r hr=>by
   have ga:(H.push (jG el H.next sz new)).get id=some (.row r):=hr;rw[AH.cM] at ga;split at ga
   ·cases ga; exact .inr rfl
   ·exact .inl ⟨id,r,ga,rfl⟩,G.h.bC.next,by rw[yn]; omega,hI.nR⟩ hCk rfl (λ τ h=>by cases h; rfl) rfl jj
  have Ps:=append_nil (H:=H) ht hu hs hb hz ym mG xS AB (by rw[hL0,Nat.zero_add] at th; exact th);refine WO.one (G.wanted hw) rfl (v:=.slice (some ⟨H.next,0,none⟩) M.length M.length) (H1:=H') ⟨0,by simp only[b9,KO,bind,Except.bind,Ps]; rfl⟩ (G.can hc) (h C e' _ H' (gz e' H' _ ma (λ p w kV U=>U.tl aa λ _=>⟨4,kV⟩) ?_));have hlen:((L++M).map c).length=M.length:=by rw[List.length_map,List.length_append,hL0,Nat.zero_add]
  obtain⟨nk,hnk⟩:=aP q2;rw[<- hlen];have AI:∀ (i:Nat) (cs:List PV) (j:Nat) (p:PV),((L++M).map c)[i]? = some cs->cs[j]? = some p->(M.map c)[i]? = some cs:=λ i cs j p N X=>key i cs N (λ cG _=>by omega) (λ j' e1 h=>by rw[show i=j' by omega]; exact h);refine .aW (τ:=⟨H.next,0,0,H.next,0⟩) (λ i j=>(new[i * sz+j]?).getD undef) kA (G.h.xc.new _ _ _ (Nat.le_refl _) (Nat.le_refl _)) hI.nR hnk (List.getElem?_set_self Sd) rfl rfl rfl rfl rfl rfl rfl ?_ (λ i cs N=>key i cs N (λ cG _=>by omega) (λ j _ h=>hzM j cs h)) (λ i cs j p N X=>vc.2.2.1 i cs j p (AI i cs j p N X) X) (λ i cs j p N X=>?_) (λ i cs j p N X=>?_)
  ·show 0+((L++M).map c).length * sz<=(new.map some).length;rw[hlen,List.length_map,Xp]; omega
  ·obtain⟨x,m1,_⟩:=vc.2.2.2 i cs j p (AI i cs j p N X) X;show(new.map some)[0+i * sz+j]? = _;rw[Nat.zero_add,List.getElem?_map,m1]; rfl
  ·obtain⟨x,m1,m2⟩:=vc.2.2.2 i cs j p (AI i cs j p N X) X;rw[m1];exact m2.tl aa λ hb=>by cases hb
 | @aW _ _ _ id off r τ wv hr hxx cI n hn iO hm Cj uH ft oM gG he hww uN U uO hh=>
  have I:C.H0.next<=τ.aU:=by
   rcases G.h.ext.tok k τ iO with h | h
   ·have:=ax h; omega
   ·exact h
  let fG:Tk:=⟨τ.aU,0,0,H.next,0⟩
  let e':cz:={ e with toks:=e.toks.set k (some fG) }
  have IJ:∀ j,j≠k->e'.toks[j]? = e.toks[j]?:=λ j X=>List.getElem?_set_ne (Ne.symm X);have yQ:∀ (j:Nat) (x:Tk),e'.toks[j]? = some (some x)->(j=k/\x=fG)\/(j≠k/\e.toks[j]? = some (some x)):=λ j x X=>by
   by_cases e1:j=k
   ·subst e1;have jc:(e.toks.set j (some fG))[j]? = some (some x):=X;rw[List.getElem?_set_self Sd] at jc;cases jc; exact .inl ⟨rfl,rfl⟩
   ·rw[IJ j e1] at X; exact .inr ⟨e1,X⟩
  have hD:=QR.dK (H:=H) (lo:=r.bJ+off+l.length * sz) (n:=new.length) hr;generalize Z8:H.dK id r (r.bJ+off+l.length * sz) new.length=H1 at hD
  let H':=H1.push (mZ r off l.length sz new)
  have yn:H'.next=H.next+1:=by show(H1.push _).next=_; rw[AH.di,hD.nx]
  have zk:∀ j o,H1.get j=some o->H'.get j=some o:=λ j o ho=>by
   obtain⟨o',mb,_⟩:=hD.ct j o ho;show(H1.push _).get j=_;rw[AH.cM,if_neg (by rw[hD.nx]; have:=hI.wf.lt j o' mb; omega)]; exact ho
  have LW:∀ j r0,H.get j=some (.row r0)->∃ r',H'.get j=some (.row r')/\Meta r0 r'/\(r0.aU≠τ.aU->r'=r0):=λ j r0 h0=>by
   obtain⟨r',a1,Z,a3,_⟩:=hD.row j r0 h0;exact⟨r',zk j _ a1,Z,λ ee=>a3 (by rw[oM]; exact ee)⟩
  have hinv:∀ j r',H'.get j=some (.row r')->(j=H.next/\r'=mZ r off l.length sz new)\/∃ r0,H.get j=some (.row r0)/\Meta r0 r':=λ j r' X=>by
   have jc:(H1.push (mZ r off l.length sz new)).get j=some (.row r'):=X;rw[AH.cM] at jc;split at jc
   ·rename_i e1; cases jc; exact .inl ⟨by rw[e1,hD.nx],rfl⟩
   ·obtain⟨o',mb,_,Z⟩:=hD.ct j _ jc;obtain⟨r0,rfl,_⟩:=Z r' rfl;obtain⟨r'',b1,b2,_⟩:=hD.row j r0 mb;rw[jc] at b1; cases b1;exact .inr ⟨r0,mb,b2⟩
  have aa:Jk e e' s.tk s.tk H H' k τ.aU:=⟨by rw[yn]; omega,rfl,rfl,IJ,λ _ _=>rfl,λ id aU en hs=>⟨by rw[yn]; have:=hs.lt; omega,by rw[yn]; have:=hs.we; omega,hs.x,hs.row,λ t1 x n1 a1 Z a3=>by
   rcases yQ t1 x a1 with⟨b1,b2⟩ | ⟨b1,b2⟩
   ·subst b2;subst b1;rw[hn] at Z; cases Z;have:=hs.tok t1 τ n iO hn a3;rw[Cj,hm] at this;show en<=0+n * 0;omega
   ·exact hs.tok t1 x n1 b2 Z a3⟩,λ j r0 h0 ee=>let ⟨r',a1,_,a3⟩:=LW j r0 h0; by rw[a1,a3 ee],λ j r0 h0 _=>let ⟨r',a1,Z,_⟩:=LW j r0 h0; ⟨r',a1,Z⟩,λ id en hs=>by
    have:=hs.tok k τ n iO hn rfl;rw[Cj,hm] at this;omega,λ j x X Y hf=>X (hI.iy j k x τ Y iO hf)⟩
  have VN:KI H':=by
   refine⟨λ j o X=>?_,λ j r' X=>?_,pX hI.wf λ j r' X=>?_⟩
   ·have jc:(H1.push (mZ r off l.length sz new)).get j=some o:=X;rw[AH.cM] at jc;rw[yn];split at jc
    ·rename_i e1; rw[e1,hD.nx]; omega
    ·obtain⟨o',mb,_⟩:=hD.ct j o jc;have:=hI.wf.lt j o' mb; omega
   ·rw[yn];rcases hinv j r' X with⟨_,rfl⟩ | ⟨r0,a1,Z⟩
    ·have:=hI.wf.aU id r hr; show r.aU < _; omega
    ·rw[Z.aU]; have:=hI.wf.aU j r0 a1; omega
   ·rcases hinv j r' X with⟨_,rfl⟩ | ⟨r0,a1,Z⟩
    ·exact .inr ⟨id,r,hr,rfl,he.symm,gG.symm⟩
    ·exact .inr ⟨j,r0,a1,Z.aU,Z.esz,Z.ro⟩
  have ma:df C e' s.fr s.tk H':=G.h.tl (x:=some fG) aa ⟨VN,λ j o X kV=>by
    cases o with
    | row r0=>obtain⟨r',a1,_,a3⟩:=LW j r0 X; rw[a1,a3 (kV r0 rfl)]
    | _=>exact zk j _ (hD.jY j _ X (λ r e1=>by cases e1)),λ j cG X=>by
     show(H1.push _).get j=none;rw[AH.cM,if_neg (by rw[hD.nx]; omega)];cases xe:H1.get j with
     | none=>rfl
     | some o=>
      obtain⟨o',mb,_⟩:=hD.ct j o xe;rw[X] at mb; exact absurd mb (by simp),λ j r' X=>by
     rcases hinv j r' X with⟨_,rfl⟩ | ⟨r0,a1,Z⟩
     ·exact .inr oM
     ·exact .inl ⟨j,r0,a1,Z.aU.symm⟩,I,by rw[yn]; have:=hI.oI k τ iO; omega,hI.tq k τ iO⟩ hCk rfl (λ τ0 h=>by cases h; rfl) rfl jj
  have tZ:new.all bu=true:=vc.plain;have Ps:=Ai (H:=H) (n:=l.length) ht hu hs hb hz ym mG hr gG he hww xS AB (by rw[Sc]; exact th) tZ;rw[Z8] at Ps;refine WO.one (G.wanted hw) rfl (v:=.slice (some ⟨H.next,0,none⟩) (l.length+M.length) (l.length+M.length)) (H1:=H') ⟨0,by simp only[b9,KO,bind,Except.bind,Ps]; rfl⟩ (G.can hc) (h C e' _ H' (gz e' H' _ ma (λ p w kV U=>U.tl aa λ _=>⟨4,kV⟩) ?_));have hlen:((L++M).map c).length=l.length+M.length:=by rw[List.length_map,List.length_append,Sc]
  rw[<- hlen];have kM:((r.cells.drop off).take (l.length * sz)).length=l.length * sz:=by rw[List.length_take,List.length_drop]; omega
  refine .aW (τ:=fG) (r:=mZ r off l.length sz new) (λ i j=>if i < l.length then wv i j else(new[(i - l.length) * sz+j]?).getD undef) (by show(H1.push _).get H.next=_; rw[AH.cM,if_pos hD.nx.symm]) (by show e.an H.next r.aU _; rw[oM]; exact G.h.xc.tok k τ _ _ iO (Nat.le_refl _)) hI.nR hn (List.getElem?_set_self Sd) rfl rfl rfl rfl oM rfl rfl ?_ (λ i cs N=>key i cs N (λ _ h=>uN i cs h) (λ j _ h=>hzM j cs h)) (λ i cs j p N X=>key i cs N (λ _ h=>U i cs j p h X) (λ j' _ h=>vc.2.2.1 j' cs j p h X)) (λ i cs j p N X=>?_) (λ i cs j p N X=>?_)
  ·show 0+((L++M).map c).length * sz<=((r.cells.drop off).take (l.length * sz)++new.map some).length;rw[hlen,List.length_append,kM,List.length_map,Xp,Nat.add_mul]; omega
  ·show((r.cells.drop off).take (l.length * sz)++new.map some)[0+i * sz+j]? = _;rw[Nat.zero_add];refine key i cs N (λ cG h=>?_) (λ i' e1 h=>?_)
   ·have jc:j < sz:=by rw[<- uN i cs h]; exact ax X
    have:=wC (show i < l.length by omega) jc;rw[List.getElem?_append_left (by omega),List.getElem?_take,if_pos this,List.getElem?_drop,if_pos (by omega),show off+(i * sz+j)=off+i * sz+j by omega];exact uO i cs j p h X
   ·obtain⟨x,m1,_⟩:=vc.2.2.2 i' cs j p h X;have V:i * sz+j=l.length * sz+(i' * sz+j):=by rw[e1,<- Sc,Nat.add_mul]; omega
    rw[if_neg (by omega),show i - l.length=i' by omega,List.getElem?_append_right (by omega),kM,V,show l.length * sz+(i' * sz+j) - l.length * sz=i' * sz+j by omega,List.getElem?_map,m1]; rfl
  ·refine key i cs N (λ cG h=>?_) (λ i' e1 h=>?_)
   ·simp only[if_pos (show i < l.length by omega)]; exact(hh i cs j p h X).tl aa λ hb=>by cases hb
   ·obtain⟨x,m1,m2⟩:=vc.2.2.2 i' cs j p h X;simp only[if_neg (show ¬ i < l.length by omega),show i - l.length=i' by omega,m1];exact m2.tl aa λ hb=>by cases hb
theorem pF {d:Option Tmp} {ty:TypeId} {pst:String} {af:Array Edge} {gu:Option (Nat×Bool)} {t t2 el:TypeId} {x w:Operand} {k off:Nat} (ht:P.underlying t=some (.pointer el)) (Y:s.ev x=some (.ptr k off)) (hw:s.ev w=some (.val (.pointer none))):cX P O s ⟨d,.binOp .eql t x w t2,ty,pst,af,gu⟩ (vB false):=by
 refine⟨rfl,λ C e a H G=>?_⟩;obtain⟨u,B,D⟩:=G.ev Y;obtain⟨v,V,h4⟩:=G.ev hw;have e3:=h4.bA; subst e3;obtain⟨ad,rfl⟩:=J2 D;refine⟨0,.bool false,?_,.val rfl⟩;have pn:iA P .eql t x w (.pointer (some ad)) (.pointer none)=.ok (.bool false):=by
  obtain⟨b,o,sp⟩:=ad;simp[iA,iL,dh,dB,ht]
 simp only[b9,az.aL B,az.aL V,bind,Except.bind,dq,Bool.false_eq_true,if_false,pn]
theorem pG {d:Option Tmp} {ty:TypeId} {pst:String} {af:Array Edge} {gu:Option (Nat×Bool)} {t t2 el:TypeId} {x w:Operand} (ht:P.underlying t=some (.pointer el)) (Y:s.ev x=some (.val (.pointer none))) (hw:s.ev w=some (.val (.pointer none))) (hn:iA P .eql t x w (.pointer none) (.pointer none)=.ok (.bool true)):cX P O s ⟨d,.binOp .eql t x w t2,ty,pst,af,gu⟩ (vB true):=by
 refine⟨rfl,λ C e a H G=>?_⟩;obtain⟨u,B,D⟩:=G.ev Y;obtain⟨v,V,h4⟩:=G.ev hw;have e3:=h4.bA; subst e3;have e1:=D.bA; subst e1;refine⟨0,.bool true,?_,.val rfl⟩;simp only[b9,az.aL B,az.aL V,bind,Except.bind,dq,Bool.false_eq_true,if_false,hn]
end ops
def qa {α β:Type} (x:α) (f:α->Option β):Option β:=f x
theorem yE {α β:Type} {x:α} {f:α->Option β} {r:β} {p:Prop} (h:qa x f=some r) (k:∀ l,x=l->f l=some r->p):p:=k x rfl h
def zn {α β:Type} (x:Option α) (ab:Option β) (ae:α->Option β):Option β:=match x with
 | none=>ab
 | some m=>ae m
theorem yF {α β:Type} {x:Option α} {ab:Option β} {ae:α->Option β} {r:β} (h:zn x ab ae=some r) (hq:x=none):ab=some r:=by subst hq; exact h
theorem yG {α β:Type} {x:Option α} {ab:Option β} {ae:α->Option β} {r:β} {m:α} (h:zn x ab ae=some r) (hq:x=some m):ae m=some r:=by subst hq; exact h
end
end Go.cy
namespace Go.cy
noncomputable section
theorem qs {α:Type} {a b:α} (h:some a=some b):a=b:=Option.some.inj h
@[reducible] def cu {α:Type} (S:α->PS) (x:α) (s:PS):Prop:=∃ v,bc s (S v)/\v=x
section steps
variable {P:Program} {O:ia} {rnd:Option Nat} {all os:List Oper} {s s':PS} {Q:PS->Prop} {QX:AX->PS->Prop}
variable {d:Option Tmp} {ty:TypeId} {pst:String} {af:Array Edge} {gu:Option (Nat×Bool)}
theorem qN (n:Nat) (hq:Q s') (h:oy P all n os s=some ([],s'):=by rfl):PO P O rnd all os s Q:=PO.run n h (PO.nil hq)
theorem qR (n:Nat) {yo:List Oper} (hq:PO P O rnd all yo s' Q) (h:oy P all n os s=some (yo,s'):=by rfl):PO P O rnd all os s Q:=PO.run n h hq
theorem qC (t:Nat) {b:Bool} {α:Type} {u v:Option α} {r:α} (I:(bif b then u else v)=some r) (B:u=some r->PO P O rnd all os (s.dF (some t) (.val (.bool true))) Q) (D:v=some r->PO P O rnd all os (s.dF (some t) (.val (.bool false))) Q)
  (hcan:s.can (some t)=true:=by rfl) (ht:s.tm.get t=some (.val (.bool b)):=by rfl):PO P O rnd all os s Q:=PO.case hcan ht (λ h=>B (Rn h I)) λ h=>D (Ro h I)
theorem qD {o:Operand} {x y z:Code} {b:Bool} {α:Type} {u v:Option α} {r:α} (I:(bif b then u else v)=some r) (B:u=some r->PC P O rnd (.seq x z) s QX) (D:v=some r->PC P O rnd (.seq y z) s QX)
  (ho:s.ev o=some (.val (.bool b)):=by rfl):PC P O rnd (.seq (.cond o x y) z) s QX:=PC.cond ho (λ h=>B (Rn h I)) λ h=>D (Ro h I)
theorem qr (n:Nat) {i:Nat} {ops:Array Oper} {z:Code} (hq:PC P O rnd z s' QX) (h:oy P ops.toList n ops.toList s=some ([],s'):=by rfl):PC P O rnd (.seq (.region i ops false) z) s QX:=PC.run h hq
theorem qL (n:Nat) {yo:List Oper} {i:Nat} {ops:Array Oper} {z:Code} (hq:PO P O rnd ops.toList yo s' (λ s1=>PC P O rnd z s1 QX)) (h:oy P ops.toList n ops.toList s=some (yo,s'):=by rfl):PC P O rnd (.seq (.region i ops false) z) s QX:=PC.region (PO.run n h hq)
theorem qK (n:Nat) {i:Nat} {ops:Array Oper} {y z:Code} (hq:PC P O rnd (.seq y z) s' QX) (h:oy P ops.toList n ops.toList s=some ([],s'):=by rfl):PC P O rnd (.seq (.seq (.region i ops false) y) z) s QX:=PC.eP (PC.run h hq)
theorem qJ {i:Nat} {ops:Array Oper} {y z:Code} (h:PO P O rnd ops.toList ops.toList s (λ s1=>PC P O rnd (.seq y z) s1 QX)):PC P O rnd (.seq (.seq (.region i ops false) y) z) s QX:=PC.eP (PC.region h)
theorem qM (n:Nat) {yo:List Oper} {i:Nat} {ops:Array Oper} {y z:Code} (hq:PO P O rnd ops.toList yo s' (λ s1=>PC P O rnd (.seq y z) s1 QX)) (h:oy P ops.toList n ops.toList s=some (yo,s'):=by rfl):PC P O rnd (.seq (.seq (.region i ops false) y) z) s QX:=PC.eP (PC.region (PO.run n h hq))
theorem qk (n:Nat) (ks ts:List Nat) (es:List (Nat×PV)) (fr':List aJ) (tk':List Nat) (hq:PO P O rnd all (os.drop n) (PS.mS s.ms s.n es fr' tk' s.r0 s.t0) Q) (h:Pj P all n os s ks ts es=some (true,true,tk',some fr',some (es.map Prod.snd)):=by kernel_rfl):PO P O rnd all os s Q:=PO.runK n ks ts h hq
theorem qt (n:Nat) (es:List (Nat×PV)) (fr':List aJ) (tk':List Nat) (hq:PO P O rnd all (os.drop n) (PS.mS s.ms s.n es fr' tk' s.r0 s.t0) Q) (h:Pp P all n os s es=some (fr',tk',some (es.map Prod.snd)):=by kernel_rfl):PO P O rnd all os s Q:=oT n es fr' tk' h hq
theorem qd {cl:List Nat} {base:Nat} {js:List Nat} {σ:DC} (m:Nat) (NZ:List Nat) (Fz:DC) (es:List (Nat×PV)) (fr':List aJ) (tk':List Nat) (hq:PD P O os cl base NZ Fz (PS.mS s.ms s.n es fr' tk' s.r0 s.t0) Q) (h:Td P os cl base m js σ s es=some (NZ,Fz,s.n,s.r0,s.t0,s.ms,some (es.map Prod.snd),fr',tk'):=by kernel_rfl):PD P O os cl base js σ s Q:=PD.runK m h hq
theorem qw (ks ts:List Nat) {es:List (Nat×PV)} {fr':List aJ} {tk':List Nat} (h:(dZ s.r0 s.fr.length ks,dZ s.t0 s.tk.length ts,bY s.tk ts,cr (nK s ks ts) ks,cr (A8 s ks ts) es)=(true,true,tk',some fr',some (es.map Prod.snd)):=by kernel_rfl):bc s (PS.mS s.ms s.n es fr' tk' s.r0 s.t0):=bc.one ks ts h
theorem qf {fn:Func} {Qf:PV->List aJ->List Nat->Prop} (ks ts:List Nat) {p1 p':PV} {fr':List aJ} (hq:Qf p' fr' (bY s.tk ts):=by exact⟨rfl,rfl,rfl⟩) (hl:gX 0 0 p1 p':=by exact .refl _) (h:(D3 P s fn.results.toList ks ts,dZ s.r0 s.fr.length ks,dZ s.t0 s.tk.length ts,cr (nK s ks ts) ks,s.ms)=(some p1,true,true,some fr',[]):=by kernel_rfl):wm P fn Qf .ret s:=oZ ks ts h hl hq
theorem qG {o:Oper} {aa:FuncId} {xs:Array Operand} {xU:Array TypeId} {args eb:List PV} (ks ts:List Nat) {fr1 VL ye:List aJ} {p0 p3:PV} {VM:List Nat} (hf:PF P O aa eb fr1 (bY s.tk ts) (λ p fr tk=>p=p0/\fr=VL/\tk=VM)) (jj:iG s.fr ks ts ks fr1)
  (h:PO P O rnd all os ((s.mem (fw s.fr ks ye) (fw s.tk ts VM)).dF o.dst p3) Q) (ho:o.op=.call ⟨.value (.func aa),xs,xU⟩:=by rfl) (hw:cC all s o=some true:=by rfl) (Y:tL s xs.toList=some args:=by rfl) (hc:s.can o.dst=true:=by rfl)
  (hk:dZ 0 s.fr.length ks=true:=by rfl) (ht:dZ 0 s.tk.length ts=true:=by rfl) (ha:cr (PV.to (fL ks) (fL ts) 4) args=some eb:=by rfl) (B:PV.to (kS ks s.fr.length) (kS ts s.tk.length) 4 p0=some p3:=by rfl) (D:cr (lC (kS ks s.fr.length) (kS ts s.tk.length)) VL=some ye:=by rfl):PO P O rnd all (o :: os) s Q:=
 PO.call ho hw Y hc hk ht ha jj hf λ p fr tk ⟨e1,e2,e3⟩=>by
  subst e1; subst e2; subst e3;exact⟨_,_,B,D,h⟩
theorem qQ {t el sz:Nat} {x i:Operand} {α:Type} {c:α->List PV} {L:List α} {AS:Option Nat} {k:IntKind} {m:Int} {y:α} (ht:P.underlying t=some (.slice el)) (h0:0<=m) (hc:L[m.toNat]? = some y) (h:PO P O rnd all os (s.dF d (.dN (c y) 0)) Q)
  (hs:bD P el=.ok sz:=by rfl) (Y:s.ev x=some (.aS sz (L.map c) AS):=by rfl) (N:s.ev i=some (.val (.int k m)):=by rfl) (hw:cC all s ⟨d,.indexAddr t x i,ty,pst,af,gu⟩=some true:=by rfl) (VT:s.can d=true:=by rfl):PO P O rnd all (⟨d,.indexAddr t x i,ty,pst,af,gu⟩ :: os) s Q:=
 PO.aX hw (iY ht hs Y N h0 (nj hc)) VT h
theorem qI {t el sz:Nat} {x i:Operand} {α β:Type} {c:α->List PV} {L:List α} {AS:Option Nat} {k:IntKind} {m:Int} {f:α->Option β} {r:β} (ht:P.underlying t=some (.slice el)) (I:bp L m f=some r) (h:∀ y,f y=some r->PO P O rnd all os (s.dF d (.dN (c y) 0)) Q)
  (hs:bD P el=.ok sz:=by rfl) (Y:s.ev x=some (.aS sz (L.map c) AS):=by rfl) (N:s.ev i=some (.val (.int k m)):=by rfl) (hw:cC all s ⟨d,.indexAddr t x i,ty,pst,af,gu⟩=some true:=by rfl) (VT:s.can d=true:=by rfl):PO P O rnd all (⟨d,.indexAddr t x i,ty,pst,af,gu⟩ :: os) s Q:=
 oE I λ y h0 hc I=>qQ ht h0 hc (h y I) hs Y N hw VT
theorem qS {t el sz:Nat} {x:Operand} {α:Type} {c:α->List PV} {L:List α} {AS:Option Nat} (ht:P.underlying t=some (.slice el)) (h:PO P O rnd all os (s.dF d (.val (.int .i64 L.length))) Q) (Y:s.ev x=some (.aS sz (L.map c) AS):=by rfl)
  (hw:cC all s ⟨d,.call ⟨.builtin .len,#[x],#[t]⟩,ty,pst,af,gu⟩=some true:=by rfl) (VT:s.can d=true:=by rfl):PO P O rnd all (⟨d,.call ⟨.builtin .len,#[x],#[t]⟩,ty,pst,af,gu⟩ :: os) s Q:=
 PO.aX hw (TT ht Y (List.length_map _)) VT h
theorem qP {f:FuncId} {fn:Func} {c:Code} {args:List PV} {fr:List aJ} {tk:List Nat} {Qf:PV->List aJ->List Nat->Prop} (hf:P.funcs[f]? = some fn) (h:PC P O none c (PS.start fn.ntmps args fr tk) (wm P fn Qf)) (hc:fn.body=some c:=by rfl) (hn:Nat.ble args.length fn.ntmps=true:=by rfl) (hm:Nat.ble args.length 1000000=true:=by rfl)
  (Y:(fn.name == "runtime.NumGoroutine")=false:=by kernel_rfl) (hk:nv O f args=none:=by rfl):PF P O f args fr tk Qf:=PF.CI hf hc hn hm Y hk h
theorem bc.o {Q:PS->Prop} (h:bc s s') (hq:PO P O rnd all os s' Q):PO P O rnd all os s Q:=PO.gb h hq
theorem bc.c {z:Code} (h:bc s s') (hq:PC P O rnd z s' QX):PC P O rnd z s QX:=PC.gb h hq
theorem aG.z {ks ts:List Nat} {nn:Nat} : aG s ks ts nn []:=trivial
theorem aG.c {ks ts:List Nat} {nn:Nat} {es:List (Nat×PV)} {t:Nat} {q p p1:PV} (h:aG s ks ts nn es) (B:s.tm.get t=some p:=by rfl) (D:PV.to (fL ks) (fL ts) 4 p=some p1:=by rfl) (V:gX ts.length (ts.length+nn) p1 q:=by exact .refl _):aG s ks ts nn ((t,q) :: es):=⟨⟨_,_,B,D,V⟩,h⟩
theorem aA.z {ks ts:List Nat} {nn:Nat} : aA s ks ts nn [] []:=trivial
theorem aA.c {ks ts l:List Nat} {nn k:Nat} {fr':List aJ} {R R0:aJ} {cs:List PV} (h:aA s ks ts nn l fr') (B:s.fr[k]? = some R0:=by rfl) (D:R.esz=R0.esz:=by rfl) (V:cr (PV.to (fL ks) (fL ts) 4) R0.cells=some cs:=by rfl) (h4:aT ts.length (ts.length+nn) cs R.cells:=by exact aT.refl _):aA s ks ts nn (k :: l) (R :: fr'):=⟨⟨_,_,B,D,V,h4⟩,h⟩
theorem qm (ks ts:List Nat) (nn:Nat) {es:List (Nat×PV)} {fr':List aJ} {tk':List Nat} (jj:aA s ks ts nn ks fr') (yM:aG s ks ts nn es) (hk:dZ s.r0 s.fr.length ks=true:=by rfl) (ht:dZ s.t0 s.tk.length ts=true:=by rfl) (xi:bY s.tk ts++List.replicate nn 0=tk':=by rfl):bc s (PS.mS s.ms s.n es fr' tk' s.r0 s.t0):=bc.mk ks ts nn hk ht xi jj yM
theorem qV {α:Type} {S:α->PS} {x:α} (v:α) (ks ts:List Nat) (h:some v=some x) {es:List (Nat×PV)} {fr':List aJ} {tk':List Nat} (hS:PS.mS s.ms s.n es fr' tk' s.r0 s.t0=S v:=by rfl) (hw:(dZ s.r0 s.fr.length ks,dZ s.t0 s.tk.length ts,bY s.tk ts,cr (nK s ks ts) ks,cr (A8 s ks ts) es)=(true,true,tk',some fr',some (es.map Prod.snd)):=by kernel_rfl):PO P O rnd all [] s (cu S x):=
 PO.nil ⟨v,hS ▸ bc.one ks ts hw,qs h⟩
theorem qW (n:Nat) {α:Type} {S:α->PS} {x:α} (v:α) (ks ts:List Nat) (h:some v=some x) {es:List (Nat×PV)} {fr':List aJ} {tk':List Nat} (h0:oy P all n os s=some ([],s'):=by rfl) (hS:PS.mS s'.ms s'.n es fr' tk' s'.r0 s'.t0=S v:=by rfl) (hw:(dZ s'.r0 s'.fr.length ks,dZ s'.t0 s'.tk.length ts,bY s'.tk ts,cr (nK s' ks ts) ks,cr (A8 s' ks ts) es)=(true,true,tk',some fr',some (es.map Prod.snd)):=by kernel_rfl):PO P O rnd all os s (cu S x):=
 PO.run n h0 (qV v ks ts h hS hw)
theorem qX (n:Nat) (ks ts:List Nat) (es:List (Nat×PV)) (fr':List aJ) (tk':List Nat) (hq:Q (PS.mS s.ms s.n es fr' tk' s.r0 s.t0)) (h:Pj P all n os s ks ts es=some (true,true,tk',some fr',some (es.map Prod.snd)):=by kernel_rfl) (h0:os.drop n=[]:=by rfl):PO P O rnd all os s Q:=PO.runK n ks ts h (by rw[h0]; exact PO.nil hq)
theorem qY (n:Nat) (es:List (Nat×PV)) (fr':List aJ) (tk':List Nat) (hq:Q (PS.mS s.ms s.n es fr' tk' s.r0 s.t0)) (h:Pp P all n os s es=some (fr',tk',some (es.map Prod.snd)):=by kernel_rfl) (h0:os.drop n=[]:=by rfl):PO P O rnd all os s Q:=oT n es fr' tk' h (by rw[h0]; exact PO.nil hq)
theorem qo (order:List Nat) {i:Nat} {ops:Array Oper} {z:Code} (h:PO P O rnd ops.toList (tz ops.toList order) s (λ s1=>PC P O rnd z s1 QX)) (U:mM P ops.toList order=true:=by kernel_rfl):PC P O rnd (.seq (.region i ops true) z) s QX:=PC.drawn U h
theorem bc.on (h:bc s s') (hq:Q s'):PO P O rnd all [] s Q:=PO.gb h (PO.nil hq)
end steps
end
end Go.cy
