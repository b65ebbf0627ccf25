/- aG2 -/
import Derived.Test.YtdehaeillolhbaaG1
import Derived.ProofKit
import Derived.OpenShut
set_option linter.unusedVariables false
set_option linter.unusedSimpArgs false
namespace Go.cy
noncomputable section
variable {P:Program} {O:ia}
def cr {α β:Type} (f:α->Option β):List α->Option (List β)
 | []=>some []
 | x :: l=>match f x with
  | some y=>match cr f l with
   | some ys=>some (y :: ys)
   | none=>none
  | none=>none
theorem iU {α β:Type} {f:α->Option β} : ∀ {l:List α} {m:List β},cr f l=some m->l.length=m.length/\∀ (i:Nat) (x:α) (y:β),l[i]? = some x->m[i]? = some y->f x=some y
 | [],m,h=>by cases h; exact⟨rfl,λ i x y Y=>by simp at Y⟩
 | x :: l,m,h=>by
  simp only[cr] at h;cases Y:f x with
  | none=>rw[Y] at h; cases h
  | some y=>
   rw[Y] at h;cases hl:cr f l with
   | none=>rw[hl] at h; cases h
   | some ys=>
    rw[hl] at h; cases h;obtain⟨B,D⟩:=iU hl;refine⟨by simp[B],λ i a b ha hb=>?_⟩;cases i with
    | zero=>simp at ha hb; subst ha; subst hb; exact Y
    | succ i=>exact D i a b (by simpa using ha) (by simpa using hb)
def PV.to (f aa:Nat->Option Nat):Nat->PV->Option PV
 | _,.val v=>some (.val v)
 | _,.aS sz l t=>(match t with
  | none=>some (.aS sz l none)
  | some k=>some (.aS sz l (aa k)))
 | _,.ptr k off=>(match f k with
  | some i=>some (.ptr i off)
  | none=>none)
 | _,.sl k off n c=>(match f k with
  | some i=>some (.sl i off n c)
  | none=>none)
 | _,.mp k=>(match f k with
  | some i=>some (.mp i)
  | none=>none)
 | _,.aW sz l k=>(match aa k with
  | some i=>some (.aW sz l i)
  | none=>none)
 | _,.gW sz l k i o=>(match aa k with
  | some k'=>some (.gW sz l k' i o)
  | none=>none)
 | _,.dN c o=>some (.dN c o)
 | n+1,.agg l=>(match cr (PV.to f aa n) l with
  | some m=>some (.agg m)
  | none=>none)
 | n+1,.fX l=>(match cr (PV.to f aa n) l with
  | some m=>some (.fX m)
  | none=>none)
 | n+1,.fn h l m=>(match cr (PV.to f aa n) l,cr (PV.to f aa n) m with
  | some l',some m'=>some (.fn h l' m')
  | _,_=>none)
 | n+1,.iface t p=>(match PV.to f aa n p with
  | some q=>some (.iface t q)
  | none=>none)
 | _,_=>none
structure VC (e e1:cz) (tk KM:List Nat) (H:AH) (f aa:Nat->Option Nat):Prop where
 aY:∀ (k k':Nat),f k=some k'->∀ (id:Nat),e.aY[k]? = some id->e1.aY[k']? = some id
 tok:∀ (t t':Nat),aa t=some t'->∀ (n:Nat),tk[t]? = some n->KM[t']? = some n/\e1.toks[t']? = e.toks[t]?
 eR:∀ id aU en,lJ e tk H id aU en->lJ e1 KM H id aU en
 mt:∀ (k k':Nat),aa k=some k'->∀ (τ:Tk),e.toks[k]? = some (some τ)->τ.esz=0->∀ (id en:Nat),e.an id τ.aU en->id ∉ e.aY->e1.an id τ.aU en/\id ∉ e1.aY
theorem RV.Kl {e e1:cz} {tk KM:List Nat} {H:AH} (hs:∀ id aU en,lJ e tk H id aU en->lJ e1 KM H id aU en) {p:PV} {v:Value} (h:RV e tk H false p v):RV e1 KM H false p v:=by
 generalize hb:false=b at h
 induction h with
 | val hv=>exact .val hv
 | agg hl _ ih=>exact .agg hl (λ i p v N hv=>ih i p v N hv hb)
 | fX hl _ ih=>exact .fX hl (λ i p v N hv=>ih i p v N hv hb)
 | fU ht=>subst hb; exact .fU λ k hk=>absurd (ht k hk).1 (by simp)
 | aS w hr hn fW he hc hw hz U hv _ ht ih=>subst hb; exact .aS w hr hn (hs _ _ _ fW) he hc hw hz U hv (λ i cs j p N X=>ih i cs j p N X rfl) (λ k hk=>absurd (ht k hk).1 (by simp))
 | ptr hk=>cases hb
 | sl hk=>cases hb
 | mp hk=>cases hb
 | aW=>cases hb
 | mf=>cases hb
 | gW=>cases hb
 | dN w hr hn fW hv _ ih=>exact .dN w hr hn (hs _ _ _ fW) hv (λ j p X=>ih j p X rfl)
 | fn hl _ hm _ ih On=>exact .fn hl (λ i p v N hv=>ih i p v N hv hb) hm (λ i p v N hv=>On i p v N hv hb)
 | iface _ ih=>exact .iface (ih hb)
theorem RV.oJ {e e1:cz} {tk KM:List Nat} {H:AH} {f aa:Nat->Option Nat} (hs:VC e e1 tk KM H f aa):∀ (n:Nat) {b:Bool} {p q:PV} {v:Value},RV e tk H b p v->PV.to f aa n p=some q->RV e1 KM H b q v:=by
 intro n
 induction n with
 | zero=>
  intro b p q v h hq;cases p with
  | val u=>cases hq; cases h with | val hv=>exact .val hv
  | aS sz l t=>
   have gT:(match (generalizing:=false) t with | none=>some (PV.aS sz l none) | some k=>some (.aS sz l (aa k)))=some q:=hq;cases h with
   | fU ht=>
    cases t with
    | none=>cases gT; exact .fU (λ k hk=>by cases hk)
    | some k=>
     cases gT;refine .fU λ k' lF=>?_;obtain⟨hb,n,B,D⟩:=ht k rfl;obtain⟨V,h4⟩:=hs.tok k k' lF n B;exact⟨hb,n,V,λ h5=>by rw[h4]; exact D h5⟩
   | aS w hr hn fW he hc hw hz U hv hh ht=>
    have FT:=λ(i:Nat) (cs:List PV) (j:Nat) (p:PV) (N:l[i]? = some cs) (X:cs[j]? = some p)=>(hh i cs j p N X).Kl hs.eR;cases t with
    | none=>cases gT; exact .aS w hr hn (hs.eR _ _ _ fW) he hc hw hz U hv FT (λ k hk=>by cases hk)
    | some k=>
     cases gT;refine .aS w hr hn (hs.eR _ _ _ fW) he hc hw hz U hv FT λ k' lF=>?_;obtain⟨hb,n,B,D,V⟩:=ht k rfl;obtain⟨h4,h5⟩:=hs.tok k k' lF n B;exact⟨hb,n,h4,D,λ h6=>by rw[h5]; exact V h6⟩
  | ptr k off=>
   have gT:(match f k with | some i=>some (PV.ptr i off) | none=>none)=some q:=hq;cases hf:f k with
   | none=>rw[hf] at gT; cases gT
   | some i=>rw[hf] at gT; cases gT; cases h with | ptr hk=>exact .ptr (hs.aY _ _ hf _ hk)
  | sl k off n c=>
   have gT:(match f k with | some i=>some (PV.sl i off n c) | none=>none)=some q:=hq;cases hf:f k with
   | none=>rw[hf] at gT; cases gT
   | some i=>rw[hf] at gT; cases gT; cases h with | sl hk=>exact .sl (hs.aY _ _ hf _ hk)
  | mp k=>
   have gT:(match f k with | some i=>some (PV.mp i) | none=>none)=some q:=hq;cases hf:f k with
   | none=>rw[hf] at gT; cases gT
   | some i=>rw[hf] at gT; cases gT; cases h with | mp hk=>exact .mp (hs.aY _ _ hf _ hk)
  | aW sz l k=>
   have gT:(match aa k with | some i=>some (PV.aW sz l i) | none=>none)=some q:=hq;cases hf:aa k with
   | none=>rw[hf] at gT; cases gT
   | some i=>
    rw[hf] at gT; cases gT;cases h with
    | mf=>exact .mf
    | aW w hr Y cI hn ht hm mG uH ft oM gG he hw hz U hv hh=>
     obtain⟨V,h4⟩:=hs.tok _ _ hf _ hn;obtain⟨h5,h6⟩:=hs.mt _ _ hf _ ht hm _ _ (oM ▸ Y) cI;exact .aW w hr (oM.symm ▸ h5) h6 V (h4.trans ht) hm mG uH ft oM gG he hw hz U hv λ i cs j p N X=>(hh i cs j p N X).Kl hs.eR
  | gW sz l k i o=>
   have gT:(match aa k with | some k'=>some (PV.gW sz l k' i o) | none=>none)=some q:=hq;cases hf:aa k with
   | none=>rw[hf] at gT; cases gT
   | some k'=>
    rw[hf] at gT; cases gT;cases h with
    | gW h=>
     cases h with
     | aW w hr Y cI hn ht hm mG uH ft oM gG he hw hz U hv hh=>
      obtain⟨V,h4⟩:=hs.tok _ _ hf _ hn;obtain⟨h5,h6⟩:=hs.mt _ _ hf _ ht hm _ _ (oM ▸ Y) cI;exact .gW (.aW w hr (oM.symm ▸ h5) h6 V (h4.trans ht) hm mG uH ft oM gG he hw hz U hv λ i cs j p N X=>(hh i cs j p N X).Kl hs.eR)
  | dN c o=>cases hq; cases h with | dN w hr hn fW hv hh=>exact .dN w hr hn (hs.eR _ _ _ fW) hv (λ j p X=>(hh j p X).Kl hs.eR)
  | _=>cases hq
 | succ n ih=>
  intro b p q v h hq;cases p with
  | val u=>cases hq; cases h with | val hv=>exact .val hv
  | aS sz l t=>
   have gT:(match (generalizing:=false) t with | none=>some (PV.aS sz l none) | some k=>some (.aS sz l (aa k)))=some q:=hq;cases h with
   | fU ht=>
    cases t with
    | none=>cases gT; exact .fU (λ k hk=>by cases hk)
    | some k=>
     cases gT;refine .fU λ k' lF=>?_;obtain⟨hb,n,B,D⟩:=ht k rfl;obtain⟨V,h4⟩:=hs.tok k k' lF n B;exact⟨hb,n,V,λ h5=>by rw[h4]; exact D h5⟩
   | aS w hr hn fW he hc hw hz U hv hh ht=>
    have FT:=λ(i:Nat) (cs:List PV) (j:Nat) (p:PV) (N:l[i]? = some cs) (X:cs[j]? = some p)=>(hh i cs j p N X).Kl hs.eR;cases t with
    | none=>cases gT; exact .aS w hr hn (hs.eR _ _ _ fW) he hc hw hz U hv FT (λ k hk=>by cases hk)
    | some k=>
     cases gT;refine .aS w hr hn (hs.eR _ _ _ fW) he hc hw hz U hv FT λ k' lF=>?_;obtain⟨hb,n,B,D,V⟩:=ht k rfl;obtain⟨h4,h5⟩:=hs.tok k k' lF n B;exact⟨hb,n,h4,D,λ h6=>by rw[h5]; exact V h6⟩
  | ptr k off=>
   have gT:(match f k with | some i=>some (PV.ptr i off) | none=>none)=some q:=hq;cases hf:f k with
   | none=>rw[hf] at gT; cases gT
   | some i=>rw[hf] at gT; cases gT; cases h with | ptr hk=>exact .ptr (hs.aY _ _ hf _ hk)
  | sl k off n c=>
   have gT:(match f k with | some i=>some (PV.sl i off n c) | none=>none)=some q:=hq;cases hf:f k with
   | none=>rw[hf] at gT; cases gT
   | some i=>rw[hf] at gT; cases gT; cases h with | sl hk=>exact .sl (hs.aY _ _ hf _ hk)
  | mp k=>
   have gT:(match f k with | some i=>some (PV.mp i) | none=>none)=some q:=hq;cases hf:f k with
   | none=>rw[hf] at gT; cases gT
   | some i=>rw[hf] at gT; cases gT; cases h with | mp hk=>exact .mp (hs.aY _ _ hf _ hk)
  | aW sz l k=>
   have gT:(match aa k with | some i=>some (PV.aW sz l i) | none=>none)=some q:=hq;cases hf:aa k with
   | none=>rw[hf] at gT; cases gT
   | some i=>
    rw[hf] at gT; cases gT;cases h with
    | mf=>exact .mf
    | aW w hr Y cI hn ht hm mG uH ft oM gG he hw hz U hv hh=>
     obtain⟨V,h4⟩:=hs.tok _ _ hf _ hn;obtain⟨h5,h6⟩:=hs.mt _ _ hf _ ht hm _ _ (oM ▸ Y) cI;exact .aW w hr (oM.symm ▸ h5) h6 V (h4.trans ht) hm mG uH ft oM gG he hw hz U hv λ i cs j p N X=>(hh i cs j p N X).Kl hs.eR
  | gW sz l k i o=>
   have gT:(match aa k with | some k'=>some (PV.gW sz l k' i o) | none=>none)=some q:=hq;cases hf:aa k with
   | none=>rw[hf] at gT; cases gT
   | some k'=>
    rw[hf] at gT; cases gT;cases h with
    | gW h=>
     cases h with
     | aW w hr Y cI hn ht hm mG uH ft oM gG he hw hz U hv hh=>
      obtain⟨V,h4⟩:=hs.tok _ _ hf _ hn;obtain⟨h5,h6⟩:=hs.mt _ _ hf _ ht hm _ _ (oM ▸ Y) cI;exact .gW (.aW w hr (oM.symm ▸ h5) h6 V (h4.trans ht) hm mG uH ft oM gG he hw hz U hv λ i cs j p N X=>(hh i cs j p N X).Kl hs.eR)
  | dN c o=>cases hq; cases h with | dN w hr hn fW hv hh=>exact .dN w hr hn (hs.eR _ _ _ fW) hv (λ j p X=>(hh j p X).Kl hs.eR)
  | agg l=>
   simp only[PV.to] at hq;cases hm:cr (PV.to f aa n) l with
   | none=>rw[hm] at hq; cases hq
   | some m=>
    rw[hm] at hq; cases hq;obtain⟨k1,k2⟩:=iU hm;cases h with
    | @agg _ _ vs hl hh=>
     refine .agg (k1.symm.trans hl) λ i p v N hv=>?_;obtain⟨x,Y⟩:=aP (l:=l) (i:=i) (by rw[k1]; exact ax N);exact ih (hh i x v Y hv) (k2 i x p Y N)
  | fX l=>
   simp only[PV.to] at hq;cases hm:cr (PV.to f aa n) l with
   | none=>rw[hm] at hq; cases hq
   | some m=>
    rw[hm] at hq; cases hq;obtain⟨k1,k2⟩:=iU hm;cases h with
    | @fX _ _ vs hl hh=>
     refine .fX (k1.symm.trans hl) λ i p v N hv=>?_;obtain⟨x,Y⟩:=aP (l:=l) (i:=i) (by rw[k1]; exact ax N);exact ih (hh i x v Y hv) (k2 i x p Y N)
  | fn F l m=>
   simp only[PV.to] at hq;cases hm:cr (PV.to f aa n) l with
   | none=>rw[hm] at hq; cases hq
   | some l'=>
    cases AF:cr (PV.to f aa n) m with
    | none=>rw[hm,AF] at hq; cases hq
    | some m'=>
     rw[hm,AF] at hq; cases hq;obtain⟨k1,k2⟩:=iU hm;obtain⟨k3,k4⟩:=iU AF;cases h with
     | @fn _ _ _ _ vs ws hl hh hml FT=>
      refine .fn (k1.symm.trans hl) (λ i p v N hv=>?_) (k3.symm.trans hml) (λ i p v N hv=>?_)
      ·obtain⟨x,Y⟩:=aP (l:=l) (i:=i) (by rw[k1]; exact ax N);exact ih (hh i x v Y hv) (k2 i x p Y N)
      ·obtain⟨x,Y⟩:=aP (l:=m) (i:=i) (by rw[k3]; exact ax N);exact ih (FT i x v Y hv) (k4 i x p Y N)
  | iface t p=>
   simp only[PV.to] at hq;cases hm:PV.to f aa n p with
   | none=>rw[hm] at hq; cases hq
   | some q'=>
    rw[hm] at hq; cases hq;cases h with
    | iface h=>exact .iface (ih h hm)
theorem L2.oJ {e e1:cz} {tk KM:List Nat} {H:AH} {f aa:Nat->Option Nat} (hs:VC e e1 tk KM H f aa) {n:Nat} {b:Bool} {l m:List PV} {vs:List Value} (h:L2 (RV e tk H b) l vs) (hm:cr (PV.to f aa n) l=some m):L2 (RV e1 KM H b) m vs:=by
 obtain⟨k1,k2⟩:=iU hm;refine⟨k1.symm.trans h.1,λ i p v N hv=>?_⟩;obtain⟨x,Y⟩:=aP (l:=l) (i:=i) (by rw[k1]; exact ax N);exact(h.2 i x v Y hv).oJ hs n (k2 i x p Y N)
def fL:List Nat->Nat->Option Nat
 | [],_=>none
 | a :: l,k=>pick (Nat.beq k a) (some 0) (match fL l k with
  | some i=>some (i+1)
  | none=>none)
theorem iV:∀ {l:List Nat} {k i:Nat},fL l k=some i->l[i]? = some k
 | [],k,i,h=>by cases h
 | a :: l,k,i,h=>by
  simp only[fL] at h;cases hb:Nat.beq k a with
  | true=>
   rw[hb] at h;cases h;rw[Nat.eq_of_beq_eq_true hb]; rfl
  | false=>
   rw[hb] at h;have h':(match fL l k with | some i=>some (i+1) | none=>none)=some i:=h;cases N:fL l k with
   | none=>rw[N] at h'; cases h'
   | some j=>rw[N] at h'; cases h'; exact(show l[j]? = some k from iV N)
def I9:Nat->List Nat->Bool
 | _,[]=>true
 | lo,k :: l=>pick (Nat.ble lo k) (I9 (k+1) l) false
theorem Ig:∀ {l:List Nat} {lo:Nat},I9 lo l=true->(∀ (i k:Nat),l[i]? = some k->lo+i<=k)/\∀ (i j k k':Nat),l[i]? = some k->l[j]? = some k'->i < j->k < k'
 | [],lo,_=>⟨λ i k h=>by simp at h,λ i j k k' h=>by simp at h⟩
 | a :: l,lo,h=>by
  simp only[I9] at h;cases hb:Nat.ble lo a with
  | false=>rw[hb] at h; cases h
  | true=>
   rw[hb] at h;rw[Nat.ble_eq] at hb;obtain⟨B,D⟩:=Ig (show I9 (a+1) l=true from h);refine⟨λ i k N=>?_,λ i j k k' N X rC=>?_⟩
   ·cases i with
    | zero=>simp at N; omega
    | succ i=>have:=B i k (by simpa using N); omega
   ·cases j with
    | zero=>omega
    | succ j=>
     have jc:l[j]? = some k':=by simpa using X
     cases i with
     | zero=>
      simp at N;have:=B j k' jc; omega
     | succ i=>exact D i j k k' (by simpa using N) jc (by omega)
structure rS (r0 n:Nat) (ks:List Nat):Prop where
 pre:∀ (i:Nat),i < r0->ks[i]? = some i
 nd:∀ (i j k:Nat),ks[i]? = some k->ks[j]? = some k->i=j
 lt:∀ (i k:Nat),ks[i]? = some k->k < n
def dZ (r0 n:Nat) (ks:List Nat):Bool:=pick (I9 0 ks) (pick (ks.all λ k=>Nat.ble (k+1) n) (match r0 with
 | 0=>true
 | r+1=>match ks[r]? with
  | some k=>Nat.beq k r
  | none=>false) false) false
theorem fo {r0 n:Nat} {ks:List Nat} (h:dZ r0 n ks=true):rS r0 n ks:=by
 unfold dZ at h;cases B:I9 0 ks with
 | false=>rw[B] at h; cases h
 | true=>
  rw[B] at h;cases D:(ks.all λ k=>Nat.ble (k+1) n) with
  | false=>rw[D] at h; cases h
  | true=>
   rw[D] at h;obtain⟨k1,k2⟩:=Ig B;refine⟨λ i N=>?_,λ i j k N X=>?_,λ i k N=>?_⟩
   ·cases r0 with
    | zero=>omega
    | succ r=>
     have h':(match ks[r]? with | some k=>Nat.beq k r | none=>false)=true:=h;cases hr:ks[r]? with
     | none=>rw[hr] at h'; cases h'
     | some k=>
      rw[hr] at h';have:k=r:=Nat.eq_of_beq_eq_true h';subst this;obtain⟨x,Y⟩:=aP (l:=ks) (i:=i) (by have:=ax hr; omega);have V:=k1 i x Y;rcases Nat.lt_or_ge i k with h4 | h4
      ·have h5:=k2 i k x k Y hr h4;have key:∀ (m:Nat),i+m<=k->∀ y,ks[i+m]? = some y->x+m<=y:=by
        intro m
        induction m with
        | zero=>intro _ y hy; rw[Nat.add_zero,Y] at hy; cases hy; omega
        | succ m ihm=>
         intro hm y hy;obtain⟨z,hz⟩:=aP (l:=ks) (i:=i+m) (by have:=ax hr; omega);have a1:=ihm (by omega) z hz;have Z:=k2 (i+m) (i+(m+1)) z y hz hy (by omega);omega
       have a3:=key (k - i) (by omega) k (by rw[show i+(k - i)=k by omega]; exact hr);have:x=i:=by omega
       subst this; exact Y
      ·have:i=k:=by omega
       subst this; rw[hr] at Y; cases Y; exact hr
   ·rcases Nat.lt_trichotomy i j with V | V | V
    ·have:=k2 i j k k N X V; omega
    ·exact V
    ·have:=k2 j i k k X N V; omega
   ·have:=List.all_eq_true.1 D k (List.mem_of_getElem? N);rw[Nat.ble_eq] at this; omega
def bY (l:List Nat) (ks:List Nat):List Nat:=ks.map λ k=>(l[k]?).getD 0
def jr (l:List (Option Tk)) (ks:List Nat):List (Option Tk):=ks.map λ k=>(l[k]?).getD none
theorem pg {l ks:List Nat} {i k x:Nat} (h:ks[i]? = some k) (Y:l[k]? = some x):(bY l ks)[i]? = some x:=by unfold bY; rw[List.getElem?_map,h]; simp[Y]
theorem sC {l:List (Option Tk)} {ks:List Nat} {i k:Nat} {x:Option Tk} (h:ks[i]? = some k) (Y:l[k]? = some x):(jr l ks)[i]? = some x:=by unfold jr; rw[List.getElem?_map,h]; simp[Y]
theorem fg {l ks:List Nat} {i x:Nat} (hl:∀ (i k:Nat),ks[i]? = some k->k < l.length) (h:(bY l ks)[i]? = some x):∃ k,ks[i]? = some k/\l[k]? = some x:=by
 unfold bY at h;rw[List.getElem?_map] at h;cases hk:ks[i]? with
 | none=>rw[hk] at h; cases h
 | some k=>
  rw[hk] at h;obtain⟨y,hy⟩:=aP (hl i k hk);simp[hy] at h;exact⟨k,rfl,by rw[hy,h]⟩
theorem eQ {l:List (Option Tk)} {ks:List Nat} {i:Nat} {x:Option Tk} (hl:∀ (i k:Nat),ks[i]? = some k->k < l.length) (h:(jr l ks)[i]? = some x):∃ k,ks[i]? = some k/\l[k]? = some x:=by
 unfold jr at h;rw[List.getElem?_map] at h;cases hk:ks[i]? with
 | none=>rw[hk] at h; cases h
 | some k=>
  rw[hk] at h;obtain⟨y,hy⟩:=aP (hl i k hk);simp[hy] at h;exact⟨k,rfl,by rw[hy,h]⟩
def cz.oJ (e:cz) (ks ts:List Nat) (an:Nat->Nat->Nat->Prop):cz:=⟨bY e.aY ks,jr e.toks ts,an⟩
theorem Ih {f aa:Nat->Option Nat} {m cs:List PV} (hm:cr (PV.to f aa 4) m=some cs) {sz:Nat} {l:List (List PV)} (h:m=[.aS sz l none]):cs=m:=by
 subst h;cases hm;rfl
def wE (fr:List aJ) (f aa:Nat->Option Nat) (k:Nat) (R:aJ):Prop:=∃ R0,fr[k]? = some R0/\R.esz=R0.esz/\cr (PV.to f aa 4) R0.cells=some R.cells
section
variable {e:cz} {fr fr1:List aJ} {tk:List Nat} {H:AH} {ks ts:List Nat} {an:Nat->Nat->Nat->Prop} {r0 t0:Nat}
def yd (e:cz) (tk:List Nat) (H:AH) (ts:List Nat) (an:Nat->Nat->Nat->Prop):Prop:=(∀ id aU en,lJ e tk H id aU en->an id aU en)/\∀ (k:Nat) (τ:Tk),fL ts k≠none->e.toks[k]? = some (some τ)->∀ (id en:Nat),e.an id τ.aU en->id ∉ e.aY->an id τ.aU en
theorem pB {e:cz} {tk:List Nat} {H:AH} {ts:List Nat} : yd e tk H ts e.an:=⟨λ _ _ _ h=>h.x,λ _ _ _ _ _ _ h _=>h⟩
theorem Nw (h:gN e fr tk H) (hk:rS r0 fr.length ks) (ht:rS t0 tk.length ts) (hX:yd e tk H ts an) {id aU en:Nat} (hs:lJ e tk H id aU en):lJ (e.oJ ks ts an) (bY tk ts) H id aU en:=by
 refine⟨hs.lt,hs.we,hX.1 _ _ _ hs,λ hm=>?_,λ t τ n B D hf=>?_⟩
 ·obtain⟨i,N,kD⟩:=List.mem_iff_getElem.1 hm;obtain⟨k,_,k2⟩:=fg (l:=e.aY) (ks:=ks) (i:=i) (x:=id) (λ i k N=>by rw[h.dY]; exact hk.lt i k N) (by show(bY e.aY ks)[i]? = _; rw[List.getElem?_eq_getElem (show i < (bY e.aY ks).length from N)]; exact congrArg some kD);exact hs.row (List.mem_of_getElem? k2)
 ·obtain⟨k,k1,k2⟩:=eQ (l:=e.toks) (λ i k N=>by rw[h.dD]; exact ht.lt i k N) B;obtain⟨k',k3,k4⟩:=fg (l:=tk) (λ i k N=>ht.lt i k N) D;rw[k1] at k3; cases k3;exact hs.tok k τ n k2 k4 hf
theorem rY (h:gN e fr tk H) (hk:rS r0 fr.length ks) (ht:rS t0 tk.length ts) (hX:yd e tk H ts an):VC e (e.oJ ks ts an) tk (bY tk ts) H (fL ks) (fL ts):=
 ⟨λ k k' RY id cI=>pg (iV RY) cI,λ t t' NW n hn=>⟨pg (iV NW) hn,by
  obtain⟨x,Y⟩:=aP (l:=e.toks) (i:=t) (by rw[h.dD]; exact ax hn);rw[Y]; exact sC (iV NW) Y⟩,λ id aU en hs=>Nw h hk ht hX hs,λ k k' RY τ Uy _ id en B D=>⟨hX.2 k τ (by rw[RY]; simp) Uy id en B D,λ hm=>by
  obtain⟨i,N,kD⟩:=List.mem_iff_getElem.1 hm;obtain⟨k0,_,k2⟩:=fg (l:=e.aY) (ks:=ks) (i:=i) (x:=id) (λ i k N=>by rw[h.dY]; exact hk.lt i k N) (by show(bY e.aY ks)[i]? = _; rw[List.getElem?_eq_getElem (show i < (bY e.aY ks).length from N)]; exact congrArg some kD);exact D (List.mem_of_getElem? k2)⟩⟩
theorem zR (h:gN e fr tk H) (hk:rS r0 fr.length ks) (ht:rS t0 tk.length ts) (hX:yd e tk H ts an) (mH:ks.length=fr1.length)
  (jj:∀ (i k:Nat) (R:aJ),ks[i]? = some k->fr1[i]? = some R->wE fr (fL ks) (fL ts) k R):gN (e.oJ ks ts an) fr1 (bY tk ts) H:=by
 have IH:∀ (i k:Nat),ks[i]? = some k->k < e.aY.length:=λ i k N=>by rw[h.dY]; exact hk.lt i k N
 have Fw:∀ (i k:Nat),ts[i]? = some k->k < e.toks.length:=λ i k N=>by rw[h.dD]; exact ht.lt i k N
 have hs:=rY h hk ht hX;refine⟨h.wf,by simp[cz.oJ,bY,mH],λ i j id N X=>?_,λ k id R lF G=>?_,by simp[cz.oJ,bY,jr],λ t t' τ fG B D hf=>?_,λ t τ B=>?_,λ t τ B hm=>?_⟩
 ·obtain⟨k,k1,k2⟩:=fg IH N;obtain⟨k',k3,k4⟩:=fg IH X;have:=h.rnd k k' id k2 k4;subst this;exact hk.nd i j k k1 k3
 ·obtain⟨k0,k1,k2⟩:=fg IH lF;obtain⟨R0,k3,k4,k5⟩:=jj k k0 R k1 G;exact(h.row k0 id R0 k2 k3).eR k4 rfl (λ us h8=>h8.oJ hs k5) (λ sz l hl=>Ih k5 hl)
 ·obtain⟨k,k1,k2⟩:=eQ Fw B;obtain⟨k',k3,k4⟩:=eQ Fw D;have:=h.iy k k' τ fG k2 k4 hf;subst this;exact ht.nd t t' k k1 k3
 ·obtain⟨k,k1,k2⟩:=eQ Fw B;exact h.oI k τ k2
 ·obtain⟨k,k1,k2⟩:=eQ Fw B;obtain⟨i,N,kD⟩:=List.mem_iff_getElem.1 hm;obtain⟨k',_,k3⟩:=fg (l:=e.aY) (ks:=ks) (i:=i) (x:=τ.aU) IH (by show(bY e.aY ks)[i]? = _; rw[List.getElem?_eq_getElem (show i < (bY e.aY ks).length from N)]; exact congrArg some kD);exact h.tq k τ k2 (List.mem_of_getElem? k3)
end
end
end Go.cy
namespace Go.cy
noncomputable section
variable {P:Program} {O:ia}
theorem cm.oJ {C:fS} {e:cz} {s:PS} {a:az} {H:AH} (G:cm C e s a H) {ks ts:List Nat} (hk:rS s.r0 s.fr.length ks) (ht:rS s.t0 s.tk.length ts) {fr1:List aJ} (mH:ks.length=fr1.length)
  (jj:∀ (i k:Nat) (R:aJ),ks[i]? = some k->fr1[i]? = some R->wE s.fr (fL ks) (fL ts) k R) {tm1:T PV} (htm:∀ (t:Nat) (q:PV),tm1.get t=some q->∃ p,s.tm.get t=some p/\PV.to (fL ks) (fL ts) 4 p=some q) :
  cm C (e.oJ ks ts e.an) ⟨tm1,s.n,fr1,bY s.tk ts,s.r0,s.t0,s.ms⟩ a H:=by
 have h:=G.h.dz;have hX:yd e s.tk H ts e.an:=pB;have mA:=rY h hk ht hX;have IH:∀ (i k:Nat),ks[i]? = some k->k < e.aY.length:=λ i k N=>by rw[h.dY]; exact hk.lt i k N
 have Fw:∀ (i k:Nat),ts[i]? = some k->k < e.toks.length:=λ i k N=>by rw[h.dD]; exact ht.lt i k N
 obtain⟨ajT,xj,Hq⟩:=G.h.ext.aY;have hcr:=G.r0;have hct:=G.t0;refine⟨⟨zR h hk ht hX mH jj,⟨⟨(bY e.aY ks).drop s.r0,?_,λ id cI=>?_⟩,λ t τ B=>?_,λ t τ B=>?_,λ t n B=>?_⟩,G.h.bC,G.h.cw,⟨G.h.x.new,λ t τ id en B D=>?_⟩,G.h.x0⟩,G.n,G.bn,G.r0,G.t0,λ t q B=>?_⟩
 ·show bY e.aY ks=_;have:(bY e.aY ks).take s.r0=C.yO:=by
   apply List.ext_getElem?;intro i;rw[List.getElem?_take];split
   ·rename_i N;obtain⟨x,Y⟩:=aP (l:=C.yO) (i:=i) (by omega);rw[Y];exact pg (hk.pre i N) (by rw[xj]; exact cK Y)
   ·rw[List.getElem?_eq_none (by omega)]
  rw[<- this]; exact(List.take_append_drop _ _).symm
 ·obtain⟨i,N,kD⟩:=List.mem_iff_getElem.1 cI;have D:(bY e.aY ks)[s.r0+i]? = some id:=by
   have:=List.getElem?_eq_getElem N;rw[kD,List.getElem?_drop] at this;exact this
  obtain⟨k,k1,k2⟩:=fg IH D;have Kg:s.r0<=k:=by
   rcases Nat.lt_or_ge k s.r0 with V | V
   ·have:=hk.nd _ _ _ k1 (hk.pre k V); omega
   ·exact V
  rw[xj,List.getElem?_append_right (by omega)] at k2;exact Hq id (List.mem_of_getElem? k2)
 ·obtain⟨k,k1,k2⟩:=eQ Fw B;rcases G.h.ext.tok k τ k2 with V | V
  ·have Kg:k < s.t0:=by rw[<- hct]; exact ax V
   have:=ht.nd _ _ _ k1 (ht.pre k Kg);subst this;exact .inl V
  ·exact .inr V
 ·have Kg:t < s.t0:=by rw[<- hct]; exact ax B
  exact sC (ht.pre t Kg) (G.h.ext.old t τ B)
 ·have Kg:t < s.t0:=by rw[<- hct,G.h.cw.len]; exact ax B
  obtain⟨n',D,V,h4⟩:=G.h.ext.Hy t n B;refine⟨n',pg (ht.pre t Kg) D,V,λ h5=>?_⟩;rw[<- h4 h5];obtain⟨x,Y⟩:=aP (l:=e.toks) (i:=t) (by rw[h.dD]; exact ax D);rw[Y]; exact sC (ht.pre t Kg) Y
 ·obtain⟨k,k1,k2⟩:=eQ Fw B;exact G.h.x.tok k τ id en k2 D
 ·obtain⟨p,D,V⟩:=htm t q B;obtain⟨v,h4,h5⟩:=G.tm t p D;exact⟨v,h4,h5.oJ mA 4 V⟩
def cz.wj (e:cz) (nn:Nat):cz:={ e with toks:=e.toks++List.replicate nn none }
theorem cm.wj {C:fS} {a:az} {H:AH} : ∀ (nn:Nat) {e:cz} {s:PS},cm C e s a H->cm C (e.wj nn) (s.mem s.fr (s.tk++List.replicate nn 0)) a H
 | 0,e,s,G=>by simpa [PS.mem,cz.wj] using G
 | nn+1,e,s,G=>by
  have B:=cm.wj nn G.TU.1;have e1:(e.tok none).wj nn=e.wj (nn+1):=by simp[cz.wj,cz.tok,List.replicate_succ]
  have e2:(s.tk++[0]++List.replicate nn 0)=s.tk++List.replicate (nn+1) 0:=by simp[List.replicate_succ]
  rw[e1] at B;have D:cm C (e.wj (nn+1)) (s.mem s.fr (s.tk++[0]++List.replicate nn 0)) a H:=B;rw[e2] at D;exact D
inductive gX (lo N:Nat):PV->PV->Prop
 | refl (p:PV):gX lo N p p
 | tok (sz:Nat) (l:List (List PV)) (t:Option Nat):gX lo N (.aS sz l t) (.aS sz l none)
 | nil (sz:Nat):gX lo N (.val (.slice none 0 0)) (.aS sz [] none)
 | Ja (sz k:Nat) (B:Nat.ble lo k=true) (D:Nat.ble (k+1) N=true):gX lo N (.val (.slice none 0 0)) (.aS sz [] (some k))
 | agg {l m:List PV} (hl:l.length=m.length) (h:∀ (i:Nat) (p q:PV),l[i]? = some p->m[i]? = some q->gX lo N p q):gX lo N (.agg l) (.agg m)
 | fX {l m:List PV} (hl:l.length=m.length) (h:∀ (i:Nat) (p q:PV),l[i]? = some p->m[i]? = some q->gX lo N p q):gX lo N (.fX l) (.fX m)
theorem gX.J0 {lo N sz:Nat} {l:List (List PV)} {q:PV} (h:gX lo N (.aS sz l none) q):q=.aS sz l none:=by
 cases h <;> rfl
theorem J1 {lo N:Nat} {m m':List PV} (h:m.length=m'.length/\∀ (i:Nat) (p q:PV),m[i]? = some p->m'[i]? = some q->gX lo N p q) {sz:Nat} {l:List (List PV)} (hl:m=[.aS sz l none]):m'=m:=by
 subst hl
 match m',h with
 | [q],h=>rw[(h.2 0 _ q rfl rfl).J0]
theorem RV.wk {e:cz} {tk:List Nat} {H:AH} {lo N:Nat} (hn:∀ k,lo<=k->k < N->wQ e tk k) {p q:PV} (hw:gX lo N p q):∀ {v:Value},RV e tk H true p v->RV e tk H true q v:=by
 induction hw with
 | refl p=>exact λ h=>h
 | tok sz l t=>
  intro v h;cases h with
  | fU ht=>exact .fU (λ k hk=>by cases hk)
  | aS w hr hn hs he hc hw hz U hv hh ht=>exact .aS w hr hn hs he hc hw hz U hv hh (λ k hk=>by cases hk)
 | nil sz=>intro v h; exact Nt h
 | Ja sz k B D=>
  intro v h;rw[Nat.ble_eq] at B D;rw[h.bA];exact .fU λ k' lF=>by cases lF; exact⟨rfl,hn k B D⟩
 | agg hl _ ih=>
  intro v h;cases h with
  | @agg _ _ vs Kj hh=>
   refine .agg (hl.symm.trans Kj) λ i q v N hv=>?_;obtain⟨p,U⟩:=aP (i:=i) (by rw[hl]; exact ax N);exact ih i p q U N (hh i p v U hv)
 | fX hl _ ih=>
  intro v h;cases h with
  | @fX _ _ vs Kj hh=>
   refine .fX (hl.symm.trans Kj) λ i q v N hv=>?_;obtain⟨p,U⟩:=aP (i:=i) (by rw[hl]; exact ax N);exact ih i p q U N (hh i p v U hv)
def PS.mS (ms:List (Option Tmp)) (n:Nat) (es:List (Nat×PV)) (fr:List aJ) (tk:List Nat) (r0 t0:Nat):PS:=⟨es.foldr (λ(i,v) t=>T.put (Nat.succ i) t i v) (T.oP 10),n,fr,tk,r0,t0,ms⟩
@[reducible] def PS.of (n:Nat) (es:List (Nat×PV)) (fr:List aJ) (tk:List Nat) (r0 t0:Nat):PS:=PS.mS [] n es fr tk r0 t0
theorem ni:∀ (es:List (Nat×PV)) (t:Nat) (p:PV),(es.foldr (λ(x:Nat×PV) t=>T.put (Nat.succ x.1) t x.1 x.2) (T.oP 10)).get t=some p->(t,p)∈es
 | [],t,p,h=>by
  have h':(T.oP 10:T PV).get t=some p:=h;rw[T.lT] at h'; cases h'
 | (k,q) :: es,t,p,h=>by
  simp only[List.foldr_cons] at h;rw[T.o8] at h;split at h
  ·rename_i e1; cases h; rw[e1]; exact List.mem_cons_self
  ·exact List.mem_cons_of_mem _ (ni es t p h)
def aG (s:PS) (ks ts:List Nat) (nn:Nat):List (Nat×PV)->Prop
 | []=>True
 | (t,q) :: l=>(∃ p p1,s.tm.get t=some p/\PV.to (fL ks) (fL ts) 4 p=some p1/\gX ts.length (ts.length+nn) p1 q)/\aG s ks ts nn l
def aT (lo N:Nat) (l m:List PV):Prop:=L2 (gX lo N) l m
theorem aT.refl {lo N:Nat} (l:List PV):aT lo N l l:=⟨rfl,λ i x y Y hy=>by rw[Y] at hy; cases hy; exact .refl x⟩
theorem aT.cons {lo N:Nat} {p q:PV} {l m:List PV} (h:gX lo N p q) (hl:aT lo N l m):aT lo N (p :: l) (q :: m):=L2.cons h hl
def aA (s:PS) (ks ts:List Nat) (nn:Nat):List Nat->List aJ->Prop
 | [],[]=>True
 | k :: l,R :: fr'=>(∃ R0 cs,s.fr[k]? = some R0/\R.esz=R0.esz/\cr (PV.to (fL ks) (fL ts) 4) R0.cells=some cs/\aT ts.length (ts.length+nn) cs R.cells)/\aA s ks ts nn l fr'
 | _,_=>False
theorem aG.at {s:PS} {ks ts:List Nat} {nn:Nat} : ∀ {es:List (Nat×PV)} {t:Nat} {q:PV},aG s ks ts nn es->(t,q)∈es->∃ p p1,s.tm.get t=some p/\PV.to (fL ks) (fL ts) 4 p=some p1/\gX ts.length (ts.length+nn) p1 q
 | (t',q') :: es,t,q,h,hm=>by
  rcases List.mem_cons.1 hm with e1 | hm
  ·cases e1; exact h.1
  ·exact aG.at h.2 hm
theorem aA.at {s:PS} {ks ts:List Nat} {nn:Nat} : ∀ {l:List Nat} {fr':List aJ},aA s ks ts nn l fr'->l.length=fr'.length/\∀ (i k:Nat) (R:aJ),l[i]? = some k->fr'[i]? = some R->∃ R0 cs,s.fr[k]? = some R0/\R.esz=R0.esz/\cr (PV.to (fL ks) (fL ts) 4) R0.cells=some cs/\aT ts.length (ts.length+nn) cs R.cells
 | [],[],_=>⟨rfl,λ i k R h=>by simp at h⟩
 | k :: l,R :: fr',h=>by
  obtain⟨B,D⟩:=aA.at h.2;refine⟨by simp[B],λ i k' R' N G=>?_⟩;cases i with
  | zero=>simp at N G; subst N; subst G; exact h.1
  | succ i=>exact D i k' R' (by simpa using N) (by simpa using G)
 | [],_ :: _,h=>h.elim
 | _ :: _,[],h=>h.elim
def bc (s s':PS):Prop:=∀ C e a H,cm C e s a H->∃ e',cm C e' s' a H
theorem bc.mk {s:PS} (ks ts:List Nat) (nn:Nat) {es:List (Nat×PV)} {fr':List aJ} {tk':List Nat} (hk:dZ s.r0 s.fr.length ks=true) (ht:dZ s.t0 s.tk.length ts=true) (xi:bY s.tk ts++List.replicate nn 0=tk')
  (jj:aA s ks ts nn ks fr') (yM:aG s ks ts nn es):bc s (PS.mS s.ms s.n es fr' tk' s.r0 s.t0):=by
 intro C e a H G;subst xi;have lF:=fo hk;have iO:=fo ht;obtain⟨mH,VD⟩:=jj.at;have acg:∃ fr1:List aJ,fr1.length=ks.length/\∀ (i k:Nat) (R:aJ),ks[i]? = some k->fr1[i]? = some R->wE s.fr (fL ks) (fL ts) k R/\∀ R',fr'[i]? = some R'->R'.esz=R.esz/\aT ts.length (ts.length+nn) R.cells R'.cells:=by
  refine⟨(List.range ks.length).map λ i=>match ks[i]? with
   | some k=>match s.fr[k]? with
    | some R0=>match cr (PV.to (fL ks) (fL ts) 4) R0.cells with
     | some cs=>⟨R0.esz,cs⟩
     | none=>⟨0,[]⟩
    | none=>⟨0,[]⟩
   | none=>⟨0,[]⟩,by simp,λ i k R N ma=>?_⟩
  have cG:=ax N;obtain⟨R',Fy⟩:=aP (l:=fr') (i:=i) (by rw[<- mH]; exact cG);obtain⟨R0,cs,B,D,V,h4⟩:=VD i k R' N Fy;rw[List.getElem?_map,List.getElem?_range cG] at ma;simp only[Option.map_some,N,B,V,Option.some.injEq] at ma;subst ma;refine⟨⟨R0,B,rfl,V⟩,λ R'' Xb=>?_⟩;rw[Fy] at Xb; cases Xb;exact⟨D,h4⟩
 obtain⟨fr1,RS,hf1⟩:=acg;have B:=G.oJ lF iO (fr1:=fr1) (by rw[RS]) (λ i k R N ma=>(hf1 i k R N ma).1) (tm1:=.nil) (λ t q h=>by cases h);have hX:yd e s.tk H ts e.an:=pB;have mA:=rY G.h.dz lF iO hX;have D:=cm.wj nn B;have kN:(bY s.tk ts).length=ts.length:=by simp[bY]
 have NX:∀ k,ts.length<=k->k < ts.length+nn->wQ ((e.oJ ks ts e.an).wj nn) (bY s.tk ts++List.replicate nn 0) k:=λ k k1 k2=>by
  refine⟨0,?_,λ _=>?_⟩
  ·rw[List.getElem?_append_right (by omega),List.getElem?_replicate,if_pos (by omega)]
  ·show(jr e.toks ts++List.replicate nn none)[k]? = _;rw[List.getElem?_append_right (by simp[jr]; omega),List.getElem?_replicate,if_pos (by simp[jr]; omega)]
 have hI:=D.h.dz;have XQ:∀ {p:PV} {v:Value},RV (e.oJ ks ts e.an) (bY s.tk ts) H true p v->RV ((e.oJ ks ts e.an).wj nn) (bY s.tk ts++List.replicate nn 0) H true p v:=by
  intro p v hv;refine hv.grow (show Grow (e.oJ ks ts e.an) (bY s.tk ts) H ((e.oJ ks ts e.an).wj nn) (bY s.tk ts++List.replicate nn 0) H from⟨Nat.le_refl _,λ k id hk=>hk,λ id aU en _ hs=>⟨hs.lt,hs.we,hs.x,hs.row,λ t τ n a1 Z a3=>?_⟩,λ id r n hr _=>⟨r,hr,Meta.refl r,λ _ _=>rfl⟩,λ k n hk=>⟨n,cK hk,Nat.le_refl _,λ _=>?_⟩,λ k τ ht _ id r hr _ cI=>⟨r,hr,Meta.refl r,rfl,cK ht,λ _ _ _ h=>h,cI⟩⟩)
  ·have cG:t < (jr e.toks ts).length:=by
    rcases Nat.lt_or_ge t (jr e.toks ts).length with h | h
    ·exact h
    ·exfalso;have AG:(jr e.toks ts++List.replicate nn none)[t]? = some (some τ):=a1;rw[List.getElem?_append_right h,List.getElem?_replicate] at AG;split at AG <;> cases AG
   have AG:(jr e.toks ts++List.replicate nn none)[t]? = some (some τ):=a1;rw[List.getElem?_append_left cG] at AG;rw[List.getElem?_append_left (by rw[kN]; simpa [jr] using cG)] at Z;exact hs.tok t τ n AG Z a3
  ·show(jr e.toks ts++List.replicate nn none)[k]? = (jr e.toks ts)[k]?;rw[List.getElem?_append_left (by have:=ax hk; rw[kN] at this; simpa [jr] using this)]
 refine⟨(e.oJ ks ts e.an).wj nn,⟨⟨⟨hI.wf,by rw[hI.dY]; simp only[PS.mem,PS.mS]; rw[RS,mH],hI.rnd,λ k id R hk ma=>?_,hI.dD,hI.iy,hI.oI,hI.tq⟩,D.h.ext,D.h.bC,D.h.cw,D.h.x,D.h.x0⟩,G.n,G.bn,G.r0,G.t0,λ t q hq=>?_⟩⟩
 ·have KJ:k < ks.length:=by rw[mH]; exact ax ma
  obtain⟨k0,Kg⟩:=aP KJ;obtain⟨R1,xT⟩:=aP (l:=fr1) (i:=k) (by rw[RS]; exact KJ);obtain⟨_,h4⟩:=hf1 k k0 R1 Kg xT;obtain⟨h5,h6⟩:=h4 R ma;refine(hI.row k id R1 hk xT).eR h5 rfl (λ us k8=>⟨h6.1.symm.trans k8.1,λ i q v N hv=>?_⟩) (λ sz l hl=>J1 h6 hl);obtain⟨p,U⟩:=aP (l:=R1.cells) (i:=i) (by rw[h6.1]; exact ax N);exact(k8.2 i p v U hv).wk NX (h6.2 i p q U N)
 ·have hm:=ni es t q hq;obtain⟨p,p1,k1,k2,k3⟩:=yM.at hm;obtain⟨v,k4,k5⟩:=G.tm t p k1;exact⟨v,k4,(XQ (k5.oJ mA 4 k2)).wk NX k3⟩
theorem PC.gb {rnd:Option Nat} {z:Code} {s s':PS} {Q:AX->PS->Prop} (h:bc s s') (hq:PC P O rnd z s' Q):PC P O rnd z s Q:=λ C e a H G hX=>let ⟨e',B⟩:=h C e a H G; hq C e' a H B hX
theorem PO.gb {rnd:Option Nat} {all os:List Oper} {s s':PS} {Q:PS->Prop} (h:bc s s') (hq:PO P O rnd all os s' Q):PO P O rnd all os s Q:=λ C e a H G=>let ⟨e',B⟩:=h C e a H G; hq C e' a H B
end
end Go.cy
namespace Go.cy
noncomputable section
variable {P:Program} {O:ia}
def pY {α:Type} (ks:List Nat) (l2:List α):Nat->List α->List α
 | _,[]=>[]
 | k,x :: l=>(match fL ks k with
  | some i=>match l2[i]? with
   | some y=>y
   | none=>x
  | none=>x) :: pY ks l2 (k+1) l
def fw {α:Type} (l:List α) (ks:List Nat) (l2:List α):List α:=pY ks l2 0 l++l2.drop ks.length
theorem jL {α:Type} (ks:List Nat) (l2:List α):∀ (l:List α) (k:Nat),(pY ks l2 k l).length=l.length
 | [],_=>rfl
 | x :: l,k=>by simp[pY,jL ks l2 l]
theorem qy {α:Type} (ks:List Nat) (l2:List α):∀ (l:List α) (k j:Nat) (x:α),l[j]? = some x->(pY ks l2 k l)[j]? = some (match fL ks (k+j) with
  | some i=>match l2[i]? with
   | some y=>y
   | none=>x
  | none=>x)
 | y :: l,k,0,x,h=>by simp at h; subst h; simp[pY]
 | y :: l,k,j+1,x,h=>by
  simp only[pY,List.getElem?_cons_succ];rw[qy ks l2 l (k+1) j x (by simpa using h),show k+1+j=k+(j+1) by omega]
theorem wF {ks:List Nat} (hn:∀ (i j k:Nat),ks[i]? = some k->ks[j]? = some k->i=j) {i k:Nat} (h:ks[i]? = some k):fL ks k=some i:=by
 have key:∀ (l:List Nat) (k:Nat),k∈l->∃ i,fL l k=some i:=by
  intro l
  induction l with
  | nil=>intro k h; simp at h
  | cons a l ih=>
   intro k hk;simp only[fL];cases hb:Nat.beq k a with
   | true=>exact⟨0,rfl⟩
   | false=>
    have:k∈l:=by
     rcases List.mem_cons.1 hk with e | h
     ·subst e; rw[Nat.beq_refl] at hb; cases hb
     ·exact h
    obtain⟨i,N⟩:=ih k this;exact⟨i+1,by rw[N]; rfl⟩
 obtain⟨i',kD⟩:=key ks k (List.mem_of_getElem? h);rw[kD,hn i i' k h (iV kD)]
theorem nB {α:Type} {l:List α} {ks:List Nat} {l2:List α} {i k:Nat} {y:α} (hn:∀ (i j k:Nat),ks[i]? = some k->ks[j]? = some k->i=j) (hk:ks[i]? = some k) (hl:k < l.length) (hy:l2[i]? = some y):(fw l ks l2)[k]? = some y:=by
 unfold fw;rw[List.getElem?_append_left (by rw[jL]; exact hl)];obtain⟨x,Y⟩:=aP hl;rw[qy ks l2 l 0 k x Y,Nat.zero_add,wF hn hk];simp only[hy]
theorem qz {α:Type} {l:List α} {ks:List Nat} {l2:List α} {k:Nat} {x:α} (hk:fL ks k=none) (Y:l[k]? = some x):(fw l ks l2)[k]? = some x:=by
 unfold fw;rw[List.getElem?_append_left (by rw[jL]; exact ax Y),qy ks l2 l 0 k x Y,Nat.zero_add,hk]
theorem wT {α:Type} {l:List α} {ks:List Nat} {l2:List α} {i:Nat} (N:ks.length<=i):(fw l ks l2)[l.length+(i - ks.length)]? = l2[i]?:=by
 unfold fw;rw[List.getElem?_append_right (by rw[jL]; omega),jL,List.getElem?_drop];congr 1; omega
theorem wU {α:Type} (l:List α) (ks:List Nat) (l2:List α):(fw l ks l2).length=l.length+(l2.length - ks.length):=by
 unfold fw; rw[List.length_append,jL,List.length_drop]
theorem hP {α:Type} {l:List α} {ks:List Nat} {l2:List α} (hlen:ks.length<=l2.length) {k:Nat} {y:α} (h:(fw l ks l2)[k]? = some y) :
  (k < l.length/\fL ks k=none/\l[k]? = some y)\/(∃ i,k < l.length/\ks[i]? = some k/\fL ks k=some i/\l2[i]? = some y)\/(∃ i,ks.length<=i/\k=l.length+(i - ks.length)/\l2[i]? = some y):=by
 by_cases hk:k < l.length
 ·obtain⟨x,Y⟩:=aP hk;cases N:fL ks k with
  | none=>rw[qz N Y] at h; cases h; exact .inl ⟨hk,rfl,Y⟩
  | some i=>
   have kD:=iV N;obtain⟨z,hz⟩:=aP (l:=l2) (i:=i) (by have:=ax kD; omega);have h':=h;unfold fw at h';rw[List.getElem?_append_left (by rw[jL]; exact hk),qy ks l2 l 0 k x Y,Nat.zero_add,N] at h';simp only[hz] at h';cases h';exact .inr (.inl ⟨i,hk,kD,rfl,hz⟩)
 ·refine .inr (.inr ⟨k - l.length+ks.length,by omega,by omega,?_⟩);rw[<- wT (l:=l) (ks:=ks) (l2:=l2) (i:=k - l.length+ks.length) (by omega),show l.length+(k - l.length+ks.length - ks.length)=k by omega];exact h
def kS (ks:List Nat) (n:Nat) (i:Nat):Option Nat:=pick (Nat.ble (i+1) ks.length) (ks[i]?) (some (n+(i - ks.length)))
theorem xL {ks:List Nat} {n i k:Nat} (h:kS ks n i=some k):(i < ks.length/\ks[i]? = some k)\/(ks.length<=i/\k=n+(i - ks.length)):=by
 unfold kS at h;cases hb:Nat.ble (i+1) ks.length with
 | true=>rw[hb] at h; rw[Nat.ble_eq] at hb; exact .inl ⟨hb,h⟩
 | false=>
  rw[hb] at h;have ry:¬ i+1<=ks.length:=by rw[<- Nat.ble_eq,hb]; simp
  cases h; exact .inr ⟨by omega,rfl⟩
def lC (f aa:Nat->Option Nat) (R:aJ):Option aJ:=match cr (PV.to f aa 4) R.cells with
 | some cs=>some ⟨R.esz,cs⟩
 | none=>none
theorem Hg {e e':cz} {tk tk':List Nat} {H H':AH} {id:Nat} {R:aJ} (aa:Grow e tk H e' tk' H') (h:qT e tk H id R) {C:fS} (hC:C.H0=H) (hf:Frame C H') (cI:id ∉ C.yO) (ht:∀ (t:Nat) (τ:Tk),C.toks[t]? = some (some τ)->τ.aU≠id):qT e' tk' H' id R:=by
 subst hC;rcases h with⟨h0,r,us,D,V,h4,h5,h6,h7,h8⟩ | ⟨h0,es,c,sz,l,D,V⟩
 case inr=>exact .inr ⟨h0,es,c,sz,l,hf.jY id _ D (λ r e1=>by cases e1) cI,V⟩
 obtain⟨r',k1,k2,k3,k4⟩:=hf.row id r D cI;have hc:r'.cells=r.cells:=by
  apply List.ext_getElem?;intro p;exact k3 p (λ t τ n a1 _ a3=>absurd (a3.symm.trans h6) (ht t τ a1))
 exact .inl ⟨h0,r',us,k1,(k4 (λ t τ a1 e1=>ht t τ a1 (e1.symm.trans h6))).trans V,k2.ro.trans h4,k2.esz.trans h5,k2.aU.trans h6,hc.trans h7,h8.grow aa⟩
section
variable {C:fS} {e e2:cz} {s:PS} {a:az} {H H2:AH} {ks ts:List Nat} {fr1 Dv ye:List aJ} {tk2:List Nat}
def yX (e:cz) (tk:List Nat) (ts:List Nat):Nat->Nat->Nat->Prop:=λ id aU en=>e.an id aU en/\id ∉ e.aY/\∀ (t:Nat) (τ:Tk) (n:Nat),fL ts t=none->e.toks[t]? = some (some τ)->tk[t]? = some n->aU=τ.aU->en<=τ.base+n * τ.esz
theorem EP {e:cz} {fr:List aJ} {tk:List Nat} {H:AH} {ts:List Nat} (hI:gN e fr tk H):yd e tk H ts (yX e tk ts):=
 ⟨λ id aU en hs=>⟨hs.x,hs.row,λ t τ n _ B D V=>hs.tok t τ n B D V⟩,λ k τ hk Uy id en B D=>⟨B,D,λ t fG n q1 q2 _ q4=>absurd q1 (by rw[hI.iy t k fG τ q2 Uy q4.symm]; exact hk)⟩⟩
theorem BS (G:cm C e s a H) (hk:rS 0 s.fr.length ks) (ht:rS 0 s.tk.length ts) (hI2:gN (e.oJ ks ts (yX e s.tk ts)) fr1 (bY s.tk ts) H)
  (st:gO (e.oJ ks ts (yX e s.tk ts)) (bY s.tk ts) H e2 Dv tk2 H2) (hb:cr (lC (kS ks s.fr.length) (kS ts s.tk.length)) Dv=some ye) :
  ∃ e3,gO e s.tk H e3 (fw s.fr ks ye) (fw s.tk ts tk2) H2/\VC e2 e3 tk2 (fw s.tk ts tk2) H2 (kS ks s.fr.length) (kS ts s.tk.length):=by
 have hI:=G.h.dz;have hX:=G.h.xc;generalize jj:s.fr=fr at *;generalize xi:s.tk=tk at *;obtain⟨new,xj,Hq⟩:=st.ext.aY;have xj:e2.aY=bY e.aY ks++new:=xj;have kN:(bY e.aY ks).length=ks.length:=by simp[bY]
 have Fw:(jr e.toks ts).length=ts.length:=by simp[jr]
 have ajU:(bY tk ts).length=ts.length:=by simp[bY]
 have IH:∀ (i k:Nat),ks[i]? = some k->k < e.aY.length:=λ i k N=>by rw[hI.dY]; exact hk.lt i k N
 have Jb:∀ (i k:Nat),ts[i]? = some k->k < e.toks.length:=λ i k N=>by rw[hI.dD]; exact ht.lt i k N
 have tC:ts.length<=e2.toks.length:=by
  rcases Nat.eq_zero_or_pos ts.length with h | h
  ·omega
  ·obtain⟨x,Y⟩:=aP (l:=bY tk ts) (i:=ts.length - 1) (by omega);obtain⟨n',B,_⟩:=st.ext.Hy _ x Y;have:=ax B;have:=st.dz.dD;omega
 have LJ:ts.length<=tk2.length:=by rw[<- st.dz.dD]; exact tC
 have CG:∀ id∈new,H.next<=id:=Hq
 let e3:cz:=⟨e.aY++new,fw e.toks ts e2.toks,e.an⟩
 have ach:H.next<=H2.next:=st.bC.next;have HM:∀ (i:Nat) (τ:Tk),e2.toks[i]? = some (some τ)->(∃ t,ts[i]? = some t/\e.toks[t]? = some (some τ))\/H.next<=τ.aU:=λ i τ N=>by
  rcases st.ext.tok i τ N with h | h
  ·obtain⟨t,B,D⟩:=eQ Jb h;exact .inl ⟨t,B,D⟩
  ·exact .inr h
 have K4:mB (je e tk H) e3 (fw tk ts tk2):=by
  refine⟨⟨new,rfl,CG⟩,λ t τ h=>?_,λ t τ h=>?_,λ t n h=>?_⟩
  ·rcases hP tC h with⟨_,_,B⟩ | ⟨i,_,B,_,D⟩ | ⟨i,B,_,D⟩
   ·exact .inl B
   ·rcases HM i τ D with⟨t',k1,k2⟩ | k
    ·rw[B] at k1; cases k1; exact .inl k2
    ·exact .inr k
   ·rcases HM i τ D with⟨t',k1,k2⟩ | k
    ·have:=ax k1; omega
    ·exact .inr k
  ·have h':e.toks[t]? = some (some τ):=h;cases N:fL ts t with
   | none=>exact qz N h'
   | some i=>exact nB ht.nd (iV N) (ax h') (st.ext.old i τ (sC (iV N) h'))
  ·have h':tk[t]? = some n:=h;obtain⟨x,Y⟩:=aP (l:=e.toks) (i:=t) (by rw[hI.dD]; exact ax h');cases N:fL ts t with
   | none=>exact⟨n,qz N h',Nat.le_refl _,λ _=>by show(fw e.toks ts e2.toks)[t]? = e.toks[t]?; rw[Y]; exact qz N Y⟩
   | some i=>
    obtain⟨n',k1,k2,k3⟩:=st.ext.Hy i n (pg (iV N) h');refine⟨n',nB ht.nd (iV N) (ax h') k1,k2,λ k4=>?_⟩;show(fw e.toks ts e2.toks)[t]? = e.toks[t]?;rw[Y];refine nB ht.nd (iV N) (ax Y) ?_;rw[k3 k4];exact sC (iV N) Y
 have Mk:Frame (je e tk H) H2:=by
  have ow:∀ id,id ∉ e.aY->id ∉ bY e.aY ks:=λ id cI hm=>by
   obtain⟨i,N,kD⟩:=List.mem_iff_getElem.1 hm;obtain⟨k,_,D⟩:=fg (l:=e.aY) (ks:=ks) (i:=i) (x:=id) IH (by rw[List.getElem?_eq_getElem (show i < (bY e.aY ks).length from N)]; exact congrArg some kD);exact cI (List.mem_of_getElem? D)
  refine⟨ach,λ id r hr cI=>?_,λ id o ho hn cI=>st.bC.jY id o ho hn (ow id cI),st.bC.jo,st.bC.aU⟩;obtain⟨r',k1,k2,k3,k4⟩:=st.bC.row id r hr (ow id cI);refine⟨r',k1,k2,λ p U=>k3 p λ t τ n a1 Z a3=>?_,λ kV=>k4 λ t τ a1=>?_⟩
  ·obtain⟨t',b1,b2⟩:=eQ Jb a1;obtain⟨t'',b3,b4⟩:=fg (l:=tk) ht.lt Z;rw[b1] at b3; cases b3;exact U t' τ n b2 b4 a3
  ·obtain⟨t',b1,b2⟩:=eQ Jb a1;exact kV t' τ b2
 have aa:Grow e tk H e3 (fw tk ts tk2) H2:=kn K4 Mk rfl hI;have Lw:∀ id aU en,lJ e2 tk2 H2 id aU en->lJ e3 (fw tk ts tk2) H2 id aU en:=λ id aU en hs=>by
  have Y:yX e tk ts id aU en:=by have:=hs.x; rw[st.x] at this; exact this
  refine⟨hs.lt,hs.we,Y.1,λ hm=>?_,λ t τ n B D V=>?_⟩
  ·rcases List.mem_append.1 hm with h | h
   ·exact Y.2.1 h
   ·exact hs.row (by rw[xj]; exact List.mem_append_right _ h)
  ·rcases hP tC B with⟨_,k1,k2⟩ | ⟨i,_,k1,k0,k2⟩ | ⟨i,k1,k0,k2⟩
   ·rcases hP LJ D with⟨_,_,k3⟩ | ⟨i,_,_,k3,_⟩ | ⟨i,_,k3,_⟩
    ·exact Y.2.2 t τ n k1 k2 k3 V
    ·rw[k1] at k3; cases k3
    ·have:=ax k2; have:=hI.dD; omega
   ·rcases hP LJ D with⟨_,k3,_⟩ | ⟨i',_,_,k3,k4⟩ | ⟨i',_,k3,_⟩
    ·rw[k0] at k3; cases k3
    ·rw[k0] at k3; cases k3; exact hs.tok i τ n k2 k4 V
    ·have:=Jb i t k1; have:=hI.dD; omega
   ·rcases hP LJ D with⟨k3,_,_⟩ | ⟨i',k3,_,_,_⟩ | ⟨i',k3,k4,k5⟩
    ·have:=hI.dD; omega
    ·have:=hI.dD; omega
    ·have:i=i':=by have:=hI.dD; omega
     subst this; exact hs.tok i τ n k2 k5 V
 have mA:VC e2 e3 tk2 (fw tk ts tk2) H2 (kS ks fr.length) (kS ts tk.length):=by
  refine⟨λ k k' h id cI=>?_,λ t t' h n hn=>?_,Lw,λ k k' h τ Uy hm id en B D=>?_⟩
  case refine_3=>
   rw[st.x] at B;refine⟨B.1,λ AF=>?_⟩;rcases List.mem_append.1 AF with V | V
   ·exact B.2.1 V
   ·exact D (by rw[xj]; exact List.mem_append_right _ V)
  ·show(e.aY++new)[k']? = some id;rw[xj] at cI;rcases xL h with⟨B,D⟩ | ⟨B,D⟩
   ·rw[List.getElem?_append_left (by omega)] at cI;obtain⟨k0,V,h4⟩:=fg IH cI;rw[D] at V; cases V;exact cK h4
   ·rw[List.getElem?_append_right (by omega),kN] at cI;rw[D,<- hI.dY,List.getElem?_append_right (by omega),show e.aY.length+(k - ks.length) - e.aY.length=k - ks.length by omega];exact cI
  ·obtain⟨x,Y⟩:=aP (l:=e2.toks) (i:=t) (by rw[st.dz.dD]; exact ax hn);rcases xL h with⟨B,D⟩ | ⟨B,D⟩
   ·refine⟨nB ht.nd D (ht.lt _ _ D) hn,?_⟩;show(fw e.toks ts e2.toks)[t']? = _;rw[Y]; exact nB ht.nd D (Jb _ _ D) Y
   ·subst D;refine⟨by rw[wT B]; exact hn,?_⟩;show(fw e.toks ts e2.toks)[tk.length+(t - ts.length)]? = _;rw[<- hI.dD,wT B]
 obtain⟨RU,hba⟩:=iU hb;have Rm:∀ (i id:Nat) (R:aJ),e2.aY[i]? = some id->ye[i]? = some R->qT e3 (fw tk ts tk2) H2 id R:=λ i id R N ma=>by
  obtain⟨R0,yP⟩:=aP (l:=Dv) (i:=i) (by rw[RU]; exact ax ma);have B:=hba i R0 R yP ma;unfold lC at B;cases hm:cr (PV.to (kS ks fr.length) (kS ts tk.length) 4) R0.cells with
  | none=>rw[hm] at B; cases B
  | some cs=>
   rw[hm] at B; cases B;exact(st.dz.row i id R0 N yP).eR rfl rfl (λ us h8=>h8.oJ mA hm) (λ sz l hl=>Ih hm hl)
 have aci:ks.length<=ye.length:=by
  rw[<- RU,<- st.dz.dY,xj,List.length_append,kN]; omega
 refine⟨e3,⟨⟨st.dz.wf,?_,λ i j id N X=>?_,λ k id R lF ma=>?_,?_,λ t t' τ fG B D hf=>?_,λ t τ h=>?_,λ t τ h hm=>?_⟩,K4,Mk,rfl⟩,mA⟩
 ·show(e.aY++new).length=_;rw[wU,List.length_append,hI.dY,<- RU,<- st.dz.dY,xj,List.length_append,kN]; omega
 ·have kD:(e.aY++new)[i]? = some id:=N;have jc:(e.aY++new)[j]? = some id:=X;have side:∀ (i:Nat),(e.aY++new)[i]? = some id->(i < e.aY.length/\e.aY[i]? = some id)\/(e.aY.length<=i/\new[i - e.aY.length]? = some id):=λ i h=>by
   by_cases cG:i < e.aY.length
   ·rw[List.getElem?_append_left cG] at h; exact .inl ⟨cG,h⟩
   ·rw[List.getElem?_append_right (by omega)] at h; exact .inr ⟨by omega,h⟩
  rcases side i kD with⟨_,B⟩ | ⟨a1,B⟩ <;> rcases side j jc with⟨_,D⟩ | ⟨Z,D⟩
  ·exact hI.rnd i j id B D
  ·have:=hI.Oo (List.mem_of_getElem? B); have:=CG _ (List.mem_of_getElem? D); omega
  ·have:=hI.Oo (List.mem_of_getElem? D); have:=CG _ (List.mem_of_getElem? B); omega
  ·have:=st.dz.rnd (ks.length+(i - e.aY.length)) (ks.length+(j - e.aY.length)) id (by rw[xj,List.getElem?_append_right (by omega),kN,show ks.length+(i - e.aY.length) - ks.length=i - e.aY.length by omega]; exact B) (by rw[xj,List.getElem?_append_right (by omega),kN,show ks.length+(j - e.aY.length) - ks.length=j - e.aY.length by omega]; exact D);omega
 ·have rD:(e.aY++new)[k]? = some id:=lF;rcases hP aci ma with⟨h0,B,D⟩ | ⟨i,h0,B,_,D⟩ | ⟨i,B,h0,D⟩
  ·rw[List.getElem?_append_left (by rw[hI.dY]; exact h0)] at rD;refine Hg aa (hI.row k id R rD D) (C:=je (e.oJ ks ts (yX e tk ts)) (bY tk ts) H) rfl st.bC (λ hm=>?_) (λ t τ a1 e1=>?_)
   ·obtain⟨i,N,kD⟩:=List.mem_iff_getElem.1 hm;obtain⟨k0,k1,k2⟩:=fg (l:=e.aY) (ks:=ks) (i:=i) (x:=id) IH (by rw[List.getElem?_eq_getElem (show i < (bY e.aY ks).length from N)]; exact congrArg some kD);have:=hI.rnd k k0 id rD k2;subst this;rw[wF hk.nd k1] at B; cases B
   ·obtain⟨t',b1,b2⟩:=eQ Jb a1;exact hI.tq t' τ b2 (by rw[e1]; exact List.mem_of_getElem? rD)
  ·rw[List.getElem?_append_left (by rw[hI.dY]; exact h0)] at rD;refine Rm i id R ?_ D;rw[xj,List.getElem?_append_left (by rw[kN]; exact ax B)];exact pg B rD
  ·subst h0;rw[<- hI.dY,List.getElem?_append_right (by omega),show e.aY.length+(i - ks.length) - e.aY.length=i - ks.length by omega] at rD;refine Rm i id R ?_ D;rw[xj,List.getElem?_append_right (by omega),kN]; exact rD
 ·show(fw e.toks ts e2.toks).length=_;rw[wU,wU,hI.dD,st.dz.dD]
 ·
  have YO:∀ (t i:Nat) (τ fG:Tk),fL ts t=none->e.toks[t]? = some (some τ)->e2.toks[i]? = some (some fG)->τ.aU=fG.aU->False:=λ t i τ fG a1 Z a3 a4=>by
   rcases HM i fG a3 with⟨t'',b1,b2⟩ | b
   ·have:=hI.iy t t'' τ fG Z b2 a4;subst this;rw[wF ht.nd b1] at a1; cases a1
   ·have:=hI.oI t τ Z; omega
  rcases hP tC B with⟨_,k1,k2⟩ | ⟨i,_,k1,k0,k2⟩ | ⟨i,k1,k0,k2⟩ <;> rcases hP tC D with⟨_,m1,m2⟩ | ⟨j,_,m1,m0,m2⟩ | ⟨j,m1,m0,m2⟩
  ·exact hI.iy t t' τ fG k2 m2 hf
  ·exact(YO t j τ fG k1 k2 m2 hf).elim
  ·exact(YO t j τ fG k1 k2 m2 hf).elim
  ·exact(YO t' i fG τ m1 m2 k2 hf.symm).elim
  ·have:=st.dz.iy i j τ fG k2 m2 hf; subst this; rw[k1] at m1; cases m1; rfl
  ·have:=st.dz.iy i j τ fG k2 m2 hf; subst this; have:=ax k1; omega
  ·exact(YO t' i fG τ m1 m2 k2 hf.symm).elim
  ·have:=st.dz.iy i j τ fG k2 m2 hf; subst this; have:=ax m1; omega
  ·have:=st.dz.iy i j τ fG k2 m2 hf; subst this; omega
 ·rcases hP tC h with⟨_,_,k2⟩ | ⟨i,_,_,_,k2⟩ | ⟨i,_,_,k2⟩
  ·have:=hI.oI t τ k2; omega
  ·exact st.dz.oI i τ k2
  ·exact st.dz.oI i τ k2
 ·have AF:τ.aU∈e.aY\/τ.aU∈new:=List.mem_append.1 hm;have YP:∀ i,e2.toks[i]? = some (some τ)->False:=λ i k2=>by
   rcases AF with B | B
   ·rcases HM i τ k2 with⟨t',b1,b2⟩ | b
    ·exact hI.tq t' τ b2 B
    ·have:=hI.Oo B; omega
   ·exact st.dz.tq i τ k2 (by rw[xj]; exact List.mem_append_right _ B)
  rcases hP tC h with⟨_,_,k2⟩ | ⟨i,_,_,_,k2⟩ | ⟨i,_,_,k2⟩
  ·rcases AF with B | B
   ·exact hI.tq t τ k2 B
   ·have:=hI.oI t τ k2; have:=CG _ B; omega
  ·exact YP i k2
  ·exact YP i k2
end
def iG (fr:List aJ) (ks ts:List Nat):List Nat->List aJ->Prop
 | [],[]=>True
 | k :: l,R :: fr'=>wE fr (fL ks) (fL ts) k R/\iG fr ks ts l fr'
 | _,_=>False
theorem iG.at {fr:List aJ} {ks ts:List Nat} : ∀ {l:List Nat} {fr':List aJ},iG fr ks ts l fr'->l.length=fr'.length/\∀ (i k:Nat) (R:aJ),l[i]? = some k->fr'[i]? = some R->wE fr (fL ks) (fL ts) k R
 | [],[],_=>⟨rfl,λ i k R h=>by simp at h⟩
 | k :: l,R :: fr',h=>by
  obtain⟨B,D⟩:=iG.at h.2;refine⟨by simp[B],λ i k' R' N G=>?_⟩;cases i with
  | zero=>simp at N G; subst N; subst G; exact h.1
  | succ i=>exact D i k' R' (by simpa using N) (by simpa using G)
 | [],_ :: _,h=>h.elim
 | _ :: _,[],h=>h.elim
def vb (s:PS) (ks ts:List Nat) (Qf:PV->List aJ->List Nat->Prop) (K:PV->List aJ->List Nat->Prop):Prop:=
 ∀ p Dv tk2,Qf p Dv tk2->∃ p3 ye,PV.to (kS ks s.fr.length) (kS ts s.tk.length) 4 p=some p3/\cr (lC (kS ks s.fr.length) (kS ts s.tk.length)) Dv=some ye/\K p3 (fw s.fr ks ye) (fw s.tk ts tk2)
theorem pC {C:fS} {e:cz} {s:PS} {a:az} {H:AH} (G:cm C e s a H) {aa:FuncId} {args eb:List PV} {vs:List Value} {ks ts:List Nat} {fr1:List aJ} {Qf K:PV->List aJ->List Nat->Prop} (hv:L2 (RV e s.tk H true) args vs)
  (hk:dZ 0 s.fr.length ks=true) (ht:dZ 0 s.tk.length ts=true) (ha:cr (PV.to (fL ks) (fL ts) 4) args=some eb) (jj:iG s.fr ks ts ks fr1) (hf:PF P O aa eb fr1 (bY s.tk ts) Qf) (hK:vb s ks ts Qf K) :
  uP P O aa vs H (λ v H'=>∃ e' p fr' tk',gO e s.tk H e' fr' tk' H'/\RV e' tk' H' true p v/\K p fr' tk'/\∀ (k id:Nat),e.aY[k]? = some id->fL ks k=none->H'.get id=H.get id):=by
 have lF:=fo hk;have iO:=fo ht;have hI:=G.h.dz;have hX:=G.h.xc;have Y:yd e s.tk H ts (yX e s.tk ts):=EP hI;obtain⟨mH,VD⟩:=jj.at;have Km:gN (e.oJ ks ts (yX e s.tk ts)) fr1 (bY s.tk ts) H:=zR hI lF iO Y mH VD;have mA:=rY hI lF iO Y;have VE:XC (e.oJ ks ts (yX e s.tk ts)) H:=by
  refine⟨λ id aU en B D=>⟨hX.new id aU en B D,λ hm=>by have:=hI.Oo hm; omega,λ t τ n _ V _ h4=>by have:=hI.oI t τ V; omega⟩,λ t τ id en B D=>?_⟩;obtain⟨t',b1,b2⟩:=eQ (l:=e.toks) (λ i k N=>by rw[hI.dD]; exact iO.lt i k N) B;refine⟨hX.tok t' τ id en b2 D,λ hm=>by have:=hI.Oo hm; omega,λ t2 τ2 n V h4 _ h5=>?_⟩;have:=hI.iy t' t2 τ τ2 b2 h4 h5;subst this;rw[wF iO.nd b1] at V; cases V
 refine(hf _ H vs Km VE (hv.oJ mA ha)).mono λ v H' ⟨e2,Dv,tk2,p,B,D,V⟩=>?_;obtain⟨p3,ye,k1,k2,k3⟩:=hK p Dv tk2 V;obtain⟨e3,m1,m2⟩:=BS G lF iO Km B k2;refine⟨e3,p3,_,_,m1,D.oJ m2 4 k1,k3,λ k id Jc hki=>?_⟩;obtain⟨R,II⟩:=aP (l:=s.fr) (i:=k) (by rw[<- hI.dY]; exact ax Jc);have IH:∀ (i k:Nat),ks[i]? = some k->k < e.aY.length:=λ i k N=>by rw[hI.dY]; exact lF.lt i k N
 have ow:id ∉ bY e.aY ks:=λ hm=>by
  obtain⟨i,N,kD⟩:=List.mem_iff_getElem.1 hm;obtain⟨k0,a1,Z⟩:=fg (l:=e.aY) (ks:=ks) (i:=i) (x:=id) IH (by rw[List.getElem?_eq_getElem (show i < (bY e.aY ks).length from N)]; exact congrArg some kD);have:=hI.rnd k k0 id Jc Z;subst this;rw[wF lF.nd a1] at hki; cases hki
 rcases hI.row k id R Jc II with⟨_,r,us,g2,g3,g4,g5,g6,g7,g8⟩ | ⟨_,es,c,_,_,g2,_⟩
 case inr=>rw[B.bC.jY id _ g2 (λ r e1=>by cases e1) ow,g2]
 obtain⟨r',q1,q2,q3,q4⟩:=B.bC.row id r g2 ow;have Vr:∀ (t:Nat) (τ:Tk),(jr e.toks ts)[t]? = some (some τ)->r.aU≠τ.aU:=λ t τ a1 e1=>by
  obtain⟨t',b1,b2⟩:=eQ (l:=e.toks) (λ i k N=>by rw[hI.dD]; exact iO.lt i k N) a1;exact hI.tq t' τ b2 (by rw[<- e1,g6]; exact List.mem_of_getElem? Jc)
 have hc:r'.cells=r.cells:=by
  apply List.ext_getElem?;intro p;exact q3 p (λ t τ n a1 _ a3=>absurd a3 (Vr t τ a1))
 have hs:=q4 Vr;have:r'=r:=by
  obtain⟨c1,t1,f1,d1,z1,o1,s1⟩:=r;obtain⟨c2,t2,f2,d2,z2,o2,s2⟩:=r';have:=q2.ty; have:=q2.aU; have:=q2.bJ; have:=q2.esz; have:=q2.ro;simp only at *
  subst_vars
  rfl
 rw[q1,g2,this]
section ops
variable {rnd:Option Nat} {all os:List Oper} {s:PS} {Q:PS->Prop}
theorem PO.call {o:Oper} {aa:FuncId} {xs:Array Operand} {xU:Array TypeId} {args eb:List PV} {ks ts:List Nat} {fr1:List aJ} {Qf:PV->List aJ->List Nat->Prop} (ho:o.op=.call ⟨.value (.func aa),xs,xU⟩) (hw:cC all s o=some true) (Y:tL s xs.toList=some args) (hc:s.can o.dst=true)
  (hk:dZ 0 s.fr.length ks=true) (ht:dZ 0 s.tk.length ts=true) (ha:cr (PV.to (fL ks) (fL ts) 4) args=some eb) (jj:iG s.fr ks ts ks fr1) (hf:PF P O aa eb fr1 (bY s.tk ts) Qf)
  (h:vb s ks ts Qf (λ p fr tk=>PO P O rnd all os ((s.mem fr tk).dF o.dst p) Q)):PO P O rnd all (o :: os) s Q:=λ C e a H G=>by
 obtain⟨vs,B,D⟩:=G.tL Y;refine WO.call ho (G.wanted hw) B (G.can hc) (pC G D hk ht ha jj hf h) ?_;rintro v H' ⟨e',p,fr',tk',k1,k2,k3,_⟩;exact k3 C e' _ H' (G.dF hc k1 k2)
theorem PO.xw {o:Oper} {x:Operand} {aa:FuncId} {xs:Array Operand} {xU:Array TypeId} {l m args eb:List PV} {ks ts:List Nat} {fr1:List aJ} {Qf:PV->List aJ->List Nat->Prop} (ho:o.op=.call ⟨.value x,xs,xU⟩) (RZ:s.ev x=some (.fn aa l m)) (hw:cC all s o=some true) (Y:tL s xs.toList=some args) (hc:s.can o.dst=true)
  (hk:dZ 0 s.fr.length ks=true) (ht:dZ 0 s.tk.length ts=true) (ha:cr (PV.to (fL ks) (fL ts) 4) (l++args++m)=some eb) (jj:iG s.fr ks ts ks fr1) (hf:PF P O aa eb fr1 (bY s.tk ts) Qf)
  (h:vb s ks ts Qf (λ p fr tk=>PO P O rnd all os ((s.mem fr tk).dF o.dst p) Q)):PO P O rnd all (o :: os) s Q:=λ C e a H G=>by
 obtain⟨vs,B,D⟩:=G.tL Y;obtain⟨fv,V,h4⟩:=G.ev RZ;cases h4 with
 | @fn _ _ _ _ us ws hl hh hm FT=>
  have hv:L2 (RV e s.tk H true) (l++args++m) (us++vs++ws):=(L2.append ⟨hl,hh⟩ D).append ⟨hm,FT⟩;obtain⟨n,v,H',k1,e',p,fr',tk',k2,k3,k4,_⟩:=pC G hv hk ht ha jj hf h;refine WO.one (G.wanted hw) (by rw[ho]; rfl) ⟨n,?_⟩ (G.can hc) (k4 C e' _ H' (G.dF hc k2 k3));obtain⟨d,op,ty,ps,af,gu⟩:=o;simp only at ho;subst ho;simp only[b9,B,az.aL V,bind,Except.bind,k1]
theorem PO.invoke {o:Oper} {x:Operand} {name:String} {aa:FuncId} {t:TypeId} {q:PV} {xs:Array Operand} {xU:Array TypeId} {args eb:List PV} {ks ts:List Nat} {fr1:List aJ} {Qf:PV->List aJ->List Nat->Prop} (ho:o.op=.call ⟨.invoke x name,xs,xU⟩) (RZ:s.ev x=some (.iface t q)) (hm:sN P t name=.ok aa)
  (hw:cC all s o=some true) (Y:tL s xs.toList=some args) (hc:s.can o.dst=true) (hk:dZ 0 s.fr.length ks=true) (ht:dZ 0 s.tk.length ts=true) (ha:cr (PV.to (fL ks) (fL ts) 4) (q :: args)=some eb) (jj:iG s.fr ks ts ks fr1) (hf:PF P O aa eb fr1 (bY s.tk ts) Qf)
  (h:vb s ks ts Qf (λ p fr tk=>PO P O rnd all os ((s.mem fr tk).dF o.dst p) Q)):PO P O rnd all (o :: os) s Q:=λ C e a H G=>by
 obtain⟨vs,B,D⟩:=G.tL Y;obtain⟨fv,V,h4⟩:=G.ev RZ;cases h4 with
 | @iface _ _ _ u hu=>
  obtain⟨n,v,H',k1,e',p,fr',tk',k2,k3,k4,_⟩:=pC G (L2.cons hu D) hk ht ha jj hf h;refine WO.one (G.wanted hw) (by rw[ho]; rfl) ⟨n,?_⟩ (G.can hc) (k4 C e' _ H' (G.dF hc k2 k3));obtain⟨d,op,ty,ps,af,gu⟩:=o;simp only at ho;subst ho;simp only[b9,B,az.aL V,bind,Except.bind,hm,k1]
theorem PF.fR {f:FuncId} {v:Value} {Q:PV->List aJ->List Nat->Prop} (hk:cy.fR O f []=some v) (hs:O.s f=false) (U:bu v=true) (h:Q (.val v) [] []):PF P O f [] [] [] Q:=λ e H vs hI hX hv=>by
 have:=hv.fE; subst this;exact uP.fR hk hs ⟨e,[],[],.val v,gO.refl hI,.val U,h⟩
end ops
end
end Go.cy
namespace Go.cy
noncomputable section
variable {P:Program} {O:ia}
section code
variable {rnd:Option Nat} {s:PS} {Q:AX->PS->Prop}
def aC (id:Nat) (J:PS->Prop) (Q:AX->PS->Prop):AX->PS->Prop
 | .normal,s=>J s
 | .exit j,s=>if j=id then J s else Q (.exit j) s
 | x,s=>Q x s
theorem PC.bQ {id:Nat} {x z:Code} (J:PS->Prop) (B:PC P O rnd x s (aC id J Q)) (D:∀ s1,J s1->PC P O rnd z s1 Q):PC P O rnd (.seq (.block id x) z) s Q:=by
 refine PC.block (B.mono λ x s1 hq=>?_);cases x with
 | normal=>exact D s1 hq
 | exit j=>
  simp only[bk];simp only[aC] at hq;split
  ·rename_i X; rw[if_pos X] at hq; exact D s1 hq
  ·rename_i X; rw[if_neg X] at hq; exact hq
 | _=>exact hq
theorem aC.eF {id:Nat} {J:PS->Prop} (h:J s):aC id J Q (.exit id) s:=by simp only[aC,if_true]; exact h
theorem aC.end {id:Nat} {J:PS->Prop} (h:J s):aC id J Q .normal s:=h
theorem aC.ct {id:Nat} {J:PS->Prop} (h:Q .ret s):aC id J Q .ret s:=h
end code
section ops
variable {rnd:Option Nat} {all os:List Oper} {s:PS} {Q:PS->Prop}
theorem PO.cut (n:Nat) (J:PS->Prop) (B:PO P O rnd all (os.take n) s J) (D:∀ s1,J s1->PO P O rnd all (os.drop n) s1 Q):PO P O rnd all os s Q:=λ C e a H G=>by
 obtain⟨m,a1,H1,k1,e1,s1,k2,k3⟩:=B C e a H G;obtain⟨m2,Z,H2,k4,k5⟩:=D s1 k3 C e1 a1 H1 k2;refine⟨max m m2,Z,H2,?_,k5⟩;rw[<- List.take_append_drop n os];have key:∀ (xs ys:List Oper) (a:az) (H:AH),eW P (bF P O (max m m2)) rnd all xs a H=.ok (a1,H1)->eW P (bF P O (max m m2)) rnd all ys a1 H1=.ok (Z,H2)->eW P (bF P O (max m m2)) rnd all (xs++ys) a H=.ok (Z,H2):=by
  intro xs
  induction xs with
  | nil=>intro ys a H B D; simp only[eW] at B; cases B; exact D
  | cons o xs ih=>
   intro ys a H B D;simp only[List.cons_append,eW] at B ⊢;obtain⟨b,b1,b2⟩:=bE B;rw[b1];cases b with
   | true=>
    simp only[if_true] at b2;show(match dR o.op with | some c=>_ | none=>_)=_;cases hd:dR o.op with
    | some c=>
     rw[hd] at b2;simp only at b2 ⊢;split at b2
     ·cases b2
     ·rename_i hr;obtain⟨d,d1,d2⟩:=bE b2;obtain⟨a',AG,KN⟩:=bE d2;rw[if_neg hr,d1];show((az.put ⟨a.tm,a.n,d :: a.bn⟩ o.dst undef) >>= λ a'=>eW P (bF P O (max m m2)) rnd all (xs++ys) a' H)=_;rw[AG];exact ih ys a' H KN D
    | none=>
     rw[hd] at b2;simp only at b2 ⊢;obtain⟨⟨v,Hv⟩,d1,d2⟩:=bE b2;obtain⟨a',AG,KN⟩:=bE d2;rw[d1];show((a.put o.dst v) >>= λ a'=>eW P (bF P O (max m m2)) rnd all (xs++ys) a' Hv)=_;rw[AG];exact ih ys a' Hv KN D
   | false=>
    simp only[Bool.false_eq_true,if_false] at b2;obtain⟨a',AG,KN⟩:=bE b2;show((a.put o.dst undef) >>= λ a'=>eW P (bF P O (max m m2)) rnd all (xs++ys) a' H)=_;rw[AG];exact ih ys a' H KN D
 exact key _ _ a H (zA (Nat.le_max_left m m2) k1) (zA (Nat.le_max_right m m2) k4)
theorem cm.isB {C:fS} {e:cz} {a:az} {H:AH} {t:Nat} {b:Bool} (G:cm C e s a H) (hcan:s.can (some t)=true) (ht:s.tm.get t=some (.val (.bool b))):∀ c,b=c->cm C e (s.dF (some t) (.val (.bool c))) a H:=λ c hc=>by
  subst hc;obtain⟨v,V,h4⟩:=G.tm t _ ht;obtain⟨tm,n,fr,tk,r0,t0,ms⟩:=s;refine⟨G.h,G.n,G.bn,G.r0,G.t0,λ u q hq=>?_⟩;have gT:(T.put AH.top tm t (.val (.bool b))).get u=some q:=hq;have hb:t+1 < 2 ^ 48:=by
   replace hcan:=(mN hcan).2;simp only[PS.I8] at hcan;cases B:Nat.ble (Nat.succ t) n with
   | false=>rw[B] at hcan; cases hcan
   | true=>
    rw[B] at hcan;have D:Nat.ble n 281474976710654=true:=hcan;rw[Nat.ble_eq] at B D;exact Nat.lt_of_le_of_lt (Nat.le_trans B D) (by decide)
  ·rw[show(T.put AH.top tm t (.val (.bool b))).get u=if u=t then some (.val (.bool b)) else tm.get u from T.jB 48 _ _ _ _ hb] at gT;split at gT
   ·rename_i e1; cases gT; subst e1; exact⟨v,V,h4⟩
   ·exact G.tm u q gT
theorem PO.case {t:Nat} {b:Bool} (hcan:s.can (some t)=true) (ht:s.tm.get t=some (.val (.bool b))) (B:b=true->PO P O rnd all os (s.dF (some t) (.val (.bool true))) Q) (D:b=false->PO P O rnd all os (s.dF (some t) (.val (.bool false))) Q):PO P O rnd all os s Q:=λ C e a H G=>by
 cases b with
 | true=>exact B rfl C e a H (G.isB hcan ht true rfl)
 | false=>exact D rfl C e a H (G.isB hcan ht false rfl)
end ops
def bp {α β:Type} (L:List α) (i:Int) (f:α->Option β):Option β:=if 0<=i then(L[i.toNat]?).bind f else none
theorem ux {α β:Type} {L:List α} {i:Int} {f:α->Option β} {r:β} (h:bp L i f=some r):∃ y,0<=i/\L[i.toNat]? = some y/\f y=some r:=by
 unfold bp at h;split at h
 ·rename_i h0;obtain⟨y,B,D⟩:=Option.bind_eq_some_iff.1 h;exact⟨y,h0,B,D⟩
 ·cases h
def lS {α β:Type} (L:List α) (lo N:Int) (f:List α->Option β):Option β:=if 0<=lo/\lo<=N/\N<=L.length then f ((L.take N.toNat).drop lo.toNat) else none
theorem uy {α β:Type} {L:List α} {lo N:Int} {f:List α->Option β} {r:β} (h:lS L lo N f=some r):0<=lo/\lo<=N/\N<=L.length/\f ((L.take N.toNat).drop lo.toNat)=some r:=by
 unfold lS at h;split at h
 ·rename_i h0; exact⟨h0.1,h0.2.1,h0.2.2,h⟩
 ·cases h
def mw {α β:Type} (bytes:Nat) (L M:List α) (f:List α->Option β):Option β:=if (5 * (L.length+M.length)+768) * bytes<=1125899906842624 then f (L++M) else none
theorem Hh {α β:Type} {bytes:Nat} {L M:List α} {f:List α->Option β} {r:β} (h:mw bytes L M f=some r):(5 * (L.length+M.length)+768) * bytes<=1125899906842624/\f (L++M)=some r:=by
 unfold mw at h;split at h
 ·rename_i h0; exact⟨h0,h⟩
 ·cases h
def rT {β:Type} (n:Int) (f:Option β):Option β:=if n=0 then none else f
theorem uz {β:Type} {n:Int} {f:Option β} {r:β} (h:rT n f=some r):n≠0/\f=some r:=by
 unfold rT at h;split at h
 ·cases h
 ·rename_i h0; exact⟨h0,h⟩
theorem Rn {α:Type} {b:Bool} (h:b=true) {x y:Option α} {r:α} (I:(bif b then x else y)=some r):x=some r:=by subst h; exact I
theorem Ro {α:Type} {b:Bool} (h:b=false) {x y:Option α} {r:α} (I:(bif b then x else y)=some r):y=some r:=by subst h; exact I
theorem bind_some {α β:Type} {x:Option α} {f:α->Option β} {r:β} (h:x.bind f=some r):∃ y,x=some y/\f y=some r:=Option.bind_eq_some_iff.1 h
theorem nj {α β:Type} {L:List α} {f:α->β} {i:Nat} {y:α} (h:L[i]? = some y):(L.map f)[i]? = some (f y):=by rw[List.getElem?_map,h]; rfl
end
end Go.cy
namespace Go.cy
noncomputable section
variable {P:Program} {O:ia}
section ops
variable {rnd:Option Nat} {all os:List Oper} {s:PS} {Q:PS->Prop} {d:Option Tmp} {ty:TypeId} {pst:String} {af:Array Edge} {gu:Option (Nat×Bool)}
theorem Nx {t:TypeId} {x y:Operand} {k:IntKind} {m n:Int} (h:n≠0):iA P .quo t x y (.int k m) (.int k n)=.ok (.int k (k.wrap (m.tdiv n))):=by
 simp only[iA,jO,binOp,Op.intDiv,dA,ne_eq,not_true_eq_false,if_false,if_neg h,pure];rfl
theorem CH {t t2:TypeId} {x y:Operand} {k:IntKind} {m n:Int} (Y:s.ev x=some (.val (.int k m))) (hy:s.ev y=some (.val (.int k n))) (h:n≠0):cX P O s ⟨d,.binOp .quo t x y t2,ty,pst,af,gu⟩ (.val (.int k (k.wrap (m.tdiv n)))):=
 .DK rfl λ C e a H G=>by
  obtain⟨u,B,D⟩:=G.ev Y;obtain⟨w,V,h4⟩:=G.ev hy;have e1:=D.bA; subst e1;have e2:=h4.bA; subst e2;exact⟨0,.int k (k.wrap (m.tdiv n)),by simp only[b9,az.aL B,az.aL V,bind,Except.bind,dq,Nx h,Bool.false_eq_true,if_false],.val rfl⟩
theorem jz {op:BinOp} {t t2:TypeId} {x y:Operand} {l m:List PV} {us ws:List Value} {v:Value} (Y:s.ev x=some (.agg l)) (hy:s.ev y=some (.agg m)) (hl:iF l=some us) (hm:iF m=some ws) (hg:iL gd (.agg us.toArray)=true) (RL:iL gd (.agg ws.toArray)=true)
  (U:bu v=true) (hv:Ys P op t (.agg us.toArray) (.agg ws.toArray)=.ok v):cX P O s ⟨d,.binOp op t x y t2,ty,pst,af,gu⟩ (.val v):=
 .DK rfl λ C e a H G=>by
  obtain⟨u,B,D⟩:=G.ev Y;obtain⟨w,V,h4⟩:=G.ev hy;have e1:=D.fR (u:=.agg us.toArray) (by simp only[PV.fR,hl]); subst e1;have e2:=h4.fR (u:=.agg ws.toArray) (by simp only[PV.fR,hm]); subst e2;exact⟨0,v,by simp only[b9,az.aL B,az.aL V,bind,Except.bind,dq,iA,hv,hg,RL,Bool.and_true,if_true,Bool.false_eq_true,if_false],.val U⟩
theorem iZ {α:Type} {L M L2:List α} {f:α->List PV} {t u el sz bytes k n:Nat} {x y:Operand} {zs:List Value} {l m:List (List PV)} {AS:Option Nat} (ht:P.underlying t=some (.slice el)) (hu:m9 P (some u)=.ok false) (hs:bD P el=.ok sz) (hb:jJ P el=.ok bytes) (hz:eB P el=.ok zs) (ym:Nat.beq sz 0=false) (mG:Nat.beq bytes 0=false)
  (Y:s.ev x=some (.aS sz l (some k))) (hl:l=L.map f) (hy:s.ev y=some (.aS sz m AS)) (hm:m=M.map f) (hn:s.tk[k]? = some n) (KK:L.length=n) (th:(5 * (L.length+M.length)+768) * bytes<=1125899906842624) (D:L++M=L2) :
  uX P O s ⟨d,.call ⟨.builtin .append,#[x,y],#[t,u]⟩,ty,pst,af,gu⟩ (.aS sz (L2.map f) (some k)) s.fr (s.tk.set k L2.length):=by
 subst hl; subst hm; subst D;refine Az (l:=L.map f) (m:=M.map f) ht hu hs hb hz ym mG Y hy hn (by rw[List.length_map]; exact KK) (by simpa using th) (by rw[List.map_append]) (by simp)
theorem J2 {e:cz} {tk:List Nat} {H:AH} {b:Bool} {k off:Nat} {v:Value} (h:RV e tk H b (.ptr k off) v):∃ ad,v=.pointer (some ad):=by cases h; exact⟨_,rfl⟩
theorem sZ {α β:Type} {L:List α} {f:α->β} {N:Int} (h:N<=L.length):N.toNat<=(L.map f).length:=by rw[List.length_map]; omega
end ops
theorem gX.Jd {lo N:Nat} {l m:List PV} (h:aT lo N l m):gX lo N (.fX l) (.fX m):=.fX h.1 h.2
theorem gX.acj {lo N:Nat} {l m:List PV} (h:aT lo N l m):gX lo N (.agg l) (.agg m):=.agg h.1 h.2
def A8 (s:PS) (ks ts:List Nat):Nat×PV->Option PV:=λ(t,_)=>match s.tm.get t with
 | some p=>PV.to (fL ks) (fL ts) 4 p
 | none=>none
def nK (s:PS) (ks ts:List Nat) (k:Nat):Option aJ:=match s.fr[k]? with
 | some R=>match cr (PV.to (fL ks) (fL ts) 4) R.cells with
  | some cs=>some ⟨R.esz,cs⟩
  | none=>none
 | none=>none
theorem bc.aX {s:PS} (ks ts:List Nat) {es:List (Nat×PV)} {fr':List aJ} {tk':List Nat} (hk:dZ s.r0 s.fr.length ks=true) (ht:dZ s.t0 s.tk.length ts=true) (xi:bY s.tk ts=tk')
  (jj:cr (nK s ks ts) ks=some fr') (yM:cr (A8 s ks ts) es=some (es.map Prod.snd)):bc s (PS.mS s.ms s.n es fr' tk' s.r0 s.t0):=by
 refine bc.mk ks ts 0 hk ht (by rw[xi]; simp) ?_ ?_
 ·have key:∀ (l:List Nat) (fr':List aJ),cr (nK s ks ts) l=some fr'->aA s ks ts 0 l fr':=by
   intro l
   induction l with
   | nil=>intro fr' h; cases h; trivial
   | cons k l ih=>
    intro fr' h;simp only[cr] at h;cases B:nK s ks ts k with
    | none=>rw[B] at h; cases h
    | some R=>
     rw[B] at h;cases D:cr (nK s ks ts) l with
     | none=>rw[D] at h; cases h
     | some Rs=>
      rw[D] at h; cases h;refine⟨?_,ih _ D⟩;unfold nK at B;cases V:s.fr[k]? with
      | none=>rw[V] at B; cases B
      | some R0=>
       rw[V] at B;simp only at B;cases h4:cr (PV.to (fL ks) (fL ts) 4) R0.cells with
       | none=>rw[h4] at B; cases B
       | some cs=>rw[h4] at B; cases B; exact⟨R0,cs,by first | exact V | rfl,rfl,h4,aT.refl _⟩
  exact key ks fr' jj
 ·have key:∀ (l:List (Nat×PV)),cr (A8 s ks ts) l=some (l.map Prod.snd)->aG s ks ts 0 l:=by
   intro l
   induction l with
   | nil=>intro h; trivial
   | cons x l ih=>
    intro h;obtain⟨t,q⟩:=x;simp only[cr] at h;cases B:A8 s ks ts (t,q) with
    | none=>rw[B] at h; cases h
    | some p=>
     rw[B] at h;cases D:cr (A8 s ks ts) l with
     | none=>rw[D] at h; cases h
     | some ps=>
      rw[D] at h;simp only[List.map_cons,Option.some.injEq,List.cons.injEq] at h;obtain⟨rfl,rfl⟩:=h;refine⟨?_,ih D⟩;have B:(match s.tm.get t with | some p=>PV.to (fL ks) (fL ts) 4 p | none=>none)=some p:=B;cases V:s.tm.get t with
      | none=>rw[V] at B; cases B
      | some p0=>rw[V] at B; exact⟨p0,_,by first | exact V | rfl,B,.refl _⟩
  exact key es yM
theorem bc.one {s:PS} (ks ts:List Nat) {es:List (Nat×PV)} {fr':List aJ} {tk':List Nat} (h:(dZ s.r0 s.fr.length ks,dZ s.t0 s.tk.length ts,bY s.tk ts,cr (nK s ks ts) ks,cr (A8 s ks ts) es)=(true,true,tk',some fr',some (es.map Prod.snd))):bc s (PS.mS s.ms s.n es fr' tk' s.r0 s.t0):=by
 simp only[Prod.mk.injEq] at h;exact bc.aX ks ts h.1 h.2.1 h.2.2.1 h.2.2.2.1 h.2.2.2.2
section ops
variable {rnd:Option Nat} {all os:List Oper} {s:PS} {Q:PS->Prop}
theorem BT (n:Nat):∀ {os yo:List Oper} {s s':PS},oy P all n os s=some (yo,s')->yo=os.drop n:=by
 induction n with
 | zero=>intro os yo s s' h; cases h; rfl
 | succ n ih=>
  intro os yo s s' h;cases os with
  | nil=>cases h; rfl
  | cons o os=>
   simp only[oy] at h;cases hw:cC all s o with
   | none=>rw[hw] at h; cases h
   | some b=>
    rw[hw] at h;cases b with
    | true=>
     simp only at h;cases U:KL P s o.op with
     | none=>rw[U] at h; cases h
     | some r=>
      rw[U] at h;cases r with
      | pure p=>exact ih (bm h).2
      | mem p fr tk=>exact ih (bm h).2
    | false=>exact ih (bm h).2
def Pj (P:Program) (all:List Oper) (n:Nat) (os:List Oper) (s:PS) (ks ts:List Nat) (es:List (Nat×PV)):Option (Bool×Bool×List Nat×Option (List aJ)×Option (List PV)):=
 match oy P all n os s with
 | some (_,s1)=>some (dZ s1.r0 s1.fr.length ks,dZ s1.t0 s1.tk.length ts,bY s1.tk ts,cr (nK s1 ks ts) ks,cr (A8 s1 ks ts) es)
 | none=>none
theorem Al (n:Nat):∀ {os yo:List Oper} {s s':PS},oy P all n os s=some (yo,s')->s'.n=s.n/\s'.r0=s.r0/\s'.t0=s.t0/\s'.ms=s.ms:=by
 have hu:∀ (s:PS) (d:Option Tmp) (p:PV),(s.dF d p).n=s.n/\(s.dF d p).r0=s.r0/\(s.dF d p).t0=s.t0/\(s.dF d p).ms=s.ms:=λ s d p=>by
  obtain⟨tm,n,fr,tk,r0,t0,ms⟩:=s;cases d <;> exact⟨rfl,rfl,rfl,rfl⟩
 induction n with
 | zero=>intro os yo s s' h; cases h; exact⟨rfl,rfl,rfl,rfl⟩
 | succ n ih=>
  intro os yo s s' h;cases os with
  | nil=>cases h; exact⟨rfl,rfl,rfl,rfl⟩
  | cons o os=>
   simp only[oy] at h;cases hw:cC all s o with
   | none=>rw[hw] at h; cases h
   | some b=>
    rw[hw] at h;cases b with
    | true=>
     simp only at h;cases U:KL P s o.op with
     | none=>rw[U] at h; cases h
     | some r=>
      rw[U] at h;cases r with
      | pure p=>
       obtain⟨a,b,c,d⟩:=ih (bm h).2;obtain⟨a',b',c',d'⟩:=hu s o.dst p;exact⟨a.trans a',b.trans b',c.trans c',d.trans d'⟩
      | mem p fr tk=>
       obtain⟨a,b,c,d⟩:=ih (bm h).2;obtain⟨a',b',c',d'⟩:=hu (s.mem fr tk) o.dst p;exact⟨a.trans a',b.trans b',c.trans c',d.trans d'⟩
    | false=>
     obtain⟨a,b,c,d⟩:=ih (bm h).2;obtain⟨a',b',c',d'⟩:=hu s o.dst (.fX []);exact⟨a.trans a',b.trans b',c.trans c',d.trans d'⟩
theorem PO.runK (n:Nat) (ks ts:List Nat) {es:List (Nat×PV)} {fr':List aJ} {tk':List Nat} (h:Pj P all n os s ks ts es=some (true,true,tk',some fr',some (es.map Prod.snd))) (hq:PO P O rnd all (os.drop n) (PS.mS s.ms s.n es fr' tk' s.r0 s.t0) Q):PO P O rnd all os s Q:=by
 unfold Pj at h;cases hr:oy P all n os s with
 | none=>rw[hr] at h; cases h
 | some x=>
  obtain⟨yo,s1⟩:=x;rw[hr] at h;obtain⟨e1,e2,e3,e4⟩:=Al n hr;have hw:=bc.one (s:=s1) ks ts (es:=es) (fr':=fr') (tk':=tk') (Option.some.inj h);rw[e1,e2,e3,e4] at hw;have hd:=BT n hr;subst hd;exact PO.run n hr (PO.gb hw hq)
end ops
def wm (P:Program) (fn:Func) (Q:PV->List aJ->List Nat->Prop):AX->PS->Prop:=λ x s=>LH x/\s.ms=[]/\∃ (p:PV) (ks ts:List Nat) (p1 p':PV) (fr':List aJ),
 jy P s fn.results.toList=some p/\(dZ s.r0 s.fr.length ks,dZ s.t0 s.tk.length ts,cr (nK s ks ts) ks,PV.to (fL ks) (fL ts) 4 p)=(true,true,some fr',some p1)/\gX 0 0 p1 p'/\Q p' fr' (bY s.tk ts)
theorem C0 {s:PS} {ks ts:List Nat} {fr':List aJ} (h:cr (nK s ks ts) ks=some fr'):ks.length=fr'.length/\∀ (i k:Nat) (R:aJ),ks[i]? = some k->fr'[i]? = some R->wE s.fr (fL ks) (fL ts) k R:=by
 obtain⟨B,D⟩:=iU h;refine⟨B,λ i k R N G=>?_⟩;have V:=D i k R N G;unfold nK at V;cases h4:s.fr[k]? with
 | none=>rw[h4] at V; cases V
 | some R0=>
  rw[h4] at V;simp only at V;cases h5:cr (PV.to (fL ks) (fL ts) 4) R0.cells with
  | none=>rw[h5] at V; cases V
  | some cs=>rw[h5] at V; cases V; exact⟨R0,h4,rfl,h5⟩
theorem PF.CI {f:FuncId} {fn:Func} {c:Code} {args:List PV} {fr:List aJ} {tk:List Nat} {Q:PV->List aJ->List Nat->Prop} (hf:P.funcs[f]? = some fn) (hc:fn.body=some c) (hn:Nat.ble args.length fn.ntmps=true) (hm:Nat.ble args.length 1000000=true)
  (Y:(fn.name == "runtime.NumGoroutine")=false) (hk:nv O f args=none) (h:PC P O none c (PS.start fn.ntmps args fr tk) (wm P fn Q)):PF P O f args fr tk Q:=by
 intro e H vs hI hX ha;rw[Nat.ble_eq] at hn hm;refine uP.call (mL hf hc (by rw[<- ha.1]; exact hn) (by rw[<- ha.1]; exact hm) Y) ?_ ?_
 ·exact vx hk ha.1
 ·refine(h (je e tk H) e (cO fn.ntmps vs) H ⟨df.start hI hX,rfl,.nil rfl,hI.dY,hI.dD,λ t p ht=>?_⟩ (λ l hl=>by cases hl)).mono λ x a' H' ⟨e',s',B,D,tc,p,ks,ts,p1,p',fr',V,h5,h6,h4⟩=>?_
  ·simp only[PS.start] at ht;rw[iX args 0 _ (by omega) t] at ht;split at ht
   ·obtain⟨v,hv,rb⟩:=ha.at ht;refine⟨v,?_,rb⟩;unfold cO;simp only;rw[iX vs 0 _ (by rw[<- ha.1]; omega) t,if_pos (by rw[<- ha.1]; assumption)];exact hv
   ·rw[T.lT] at ht; cases ht
  ·obtain⟨v,k1,k2⟩:=B.results V;simp only[Prod.mk.injEq] at h5;obtain⟨g1,g2,g3,g4⟩:=h5;obtain⟨m1,m2⟩:=C0 g3;have VF:yd e' s'.tk H' ts e'.an:=pB;have mA:=rY B.h.dz (fo g1) (fo g2) VF;have h7:=B.oJ (fo g1) (fo g2) m1 m2 (tm1:=.nil) (λ t q h=>by cases h);refine⟨?_,(tc ▸ B.bn).none,v,k1,e'.oJ ks ts e'.an,fr',bY s'.tk ts,p',h7.h.ct,?_,h4⟩
   ·cases x <;> first | exact .inl rfl | exact .inr rfl | exact D.elim
   ·exact(k2.oJ mA 4 g4).wk (λ k a b=>by omega) h6
def D3 (P:Program) (s:PS) (rs:List ResultVar) (ks ts:List Nat):Option PV:=match jy P s rs with
 | some p=>PV.to (fL ks) (fL ts) 4 p
 | none=>none
theorem oZ {s:PS} {fn:Func} {Qf:PV->List aJ->List Nat->Prop} (ks ts:List Nat) {p1 p':PV} {fr':List aJ} (h:(D3 P s fn.results.toList ks ts,dZ s.r0 s.fr.length ks,dZ s.t0 s.tk.length ts,cr (nK s ks ts) ks,s.ms)=(some p1,true,true,some fr',[])) (hl:gX 0 0 p1 p') (hq:Qf p' fr' (bY s.tk ts)):wm P fn Qf .ret s:=by
 simp only[Prod.mk.injEq] at h;obtain⟨B,D,V,h4,tc⟩:=h;unfold D3 at B;cases U:jy P s fn.results.toList with
 | none=>rw[U] at B; cases B
 | some p=>rw[U] at B; exact⟨trivial,tc,p,ks,ts,p1,p',fr',U,by rw[D,V,h4]; exact congrArg (λ z=>(true,true,some fr',z)) B,hl,hq⟩
theorem HN {s:PS} {fn:Func} {Qf:PV->List aJ->List Nat->Prop} (ks ts:List Nat) {p1 p':PV} {fr':List aJ} (h:(D3 P s fn.results.toList ks ts,dZ s.r0 s.fr.length ks,dZ s.t0 s.tk.length ts,cr (nK s ks ts) ks,s.ms)=(some p1,true,true,some fr',[])) (hl:gX 0 0 p1 p') (hq:Qf p' fr' (bY s.tk ts)):wm P fn Qf .normal s:=by
 have:=oZ ks ts h hl hq;exact⟨trivial,this.2⟩
theorem fD {α β γ:Type} {f:α->γ} {aa:β->γ} {x:α} {r:γ} (h:Sum.elim f aa (.inl x)=r):f x=r:=h
def w (x:Int):Int:=IntKind.i64.wrap x
def Bz (x:Int):Int:=IntKind.i32.wrap x
end
end Go.cy
namespace Go.cy
noncomputable section
variable {P:Program} {O:ia}
def PV.okd:PV->Bool
 | .val v=>(match v with | .bool _=>true | .int _ _=>true | .string _=>true | .pointer _=>true | .slice _ _ _=>true | .nilFunc=>true | .nilIface=>true | .map _=>true | _=>false)
 | .aS _ _ _=>true
 | .ptr _ _=>true
 | .dN _ _=>true
 | .sl _ _ _ _=>true
 | .mp _=>true
 | _=>false
def PV.Ta:PV->Bool
 | .agg l=>l.all PV.okd
 | p=>p.okd
theorem Ii {e:cz} {tk:List Nat} {H:AH} {b:Bool} {p:PV} {v:Value} (h:RV e tk H b p v) (U:p.okd=true) (n:Nat):yJ n v v=true:=by
 cases p with
 | val u=>
  rw[h.bA];cases u <;> first | (cases U; done) | simp[yJ]
 | aS sz l t=>obtain⟨a,c,rfl⟩:=wS h; simp[yJ]
 | ptr k off=>cases h; simp[yJ]
 | dN c o=>cases h; simp[yJ]
 | sl k o n c=>cases h; simp[yJ]
 | mp k=>cases h; simp[yJ]
 | _=>cases U
theorem Ny {e:cz} {tk:List Nat} {H:AH} {b:Bool} {p:PV} {v:Value} (h:RV e tk H b p v) (U:p.Ta=true):yJ 3 v v=true:=by
 cases p with
 | agg l=>
  cases h with
  | @agg _ _ vs hl hh=>
   have key:(vs.zip vs).all (λ(x,y)=>yJ 2 x y)=true:=by
    rw[List.all_eq_true];rintro⟨x,y⟩ Y;obtain⟨i,N,Du⟩:=List.mem_iff_getElem.1 Y;simp only[List.getElem_zip,Prod.mk.injEq] at Du;obtain⟨rfl,rfl⟩:=Du;have kD:i < vs.length:=by simpa using N
    obtain⟨q,hq⟩:=aP (l:=l) (i:=i) (by rw[hl]; exact kD);exact Ii (hh i q _ hq (List.getElem?_eq_getElem kD)) (List.all_eq_true.1 U q (List.mem_of_getElem? hq)) 2
   simp only[yJ,beq_self_eq_true,Bool.true_and];exact key
 | _=>exact Ii h U 3
theorem Am {H M:AH} {t:TypeId} {id off:Nat} (h:M.get id=H.get id):jq P M t id off=jq P H t id off:=by
 unfold jq AH.row;rw[h]
theorem cm.put {C:fS} {e:cz} {s:PS} {a:az} {H:AH} (G:cm C e s a H) {d:Option Tmp} {v:Value} (h:s.can d=true):a.put d v=.ok (a.dF d v):=az.yA (G.can h)
end
end Go.cy
namespace Go.cy
noncomputable section
variable {P:Program} {O:ia}
theorem wV {c aa c' g':Nat} : ∀ (ps:List c5) (M:AH),(∀ p∈ps,(c.testBit p.op && !aa.testBit p.op)=(c'.testBit p.op && !g'.testBit p.op))->dy c aa ps M=dy c' g' ps M
 | [],M,_=>rfl
 | p :: ps,M,h=>by
  rw[dy,dy,h p (by simp)];exact wV ps _ (λ q hq=>h q (by simp[hq]))
theorem zS {c aa:Nat} : ∀ (ps:List c5) (M:AH),(∀ p∈ps,(c.testBit p.op && !aa.testBit p.op)=false)->dy c aa ps M=M
 | [],M,_=>rfl
 | p :: ps,M,h=>by
  rw[dy,h p (by simp)];exact zS ps M (λ q hq=>h q (by simp[hq]))
def BA (os:List Oper) (i:Nat):Bool:=match os[i]? with
 | some o=>(match o.op with
  | .buildSlice _ _ _=>true
  | _=>false)
 | none=>false
def Es (os:List Oper) (done:Nat):Bool:=(List.range os.length).all λ i=>!(BA os i && done.testBit i)
theorem Nz {os:List Oper} {done i:Nat} (h:Es os done=true) (hl:BA os i=true):done.testBit i=false:=by
 have N:i < os.length:=by
  unfold BA at hl;cases ho:os[i]? with
  | none=>rw[ho] at hl; cases hl
  | some o=>exact ax ho
 have:=List.all_eq_true.1 h i (List.mem_range.2 N);rw[hl] at this;simpa using this
structure DC where
 done:Nat
 bL:Nat
 gx:Nat
 ed:List (Nat×List Nat×Bool)
structure wo (P:Program) (os:List Oper) (base lo n:Nat) (ps:List c5) (C:fS) (e:cz) (s:PS) (a:az) (m:PM) (σ:DC) (jW:List (Nat×PM)):Prop where
 fc:cm C e s a (m.dy σ.done ps)
 gx:m.gx=σ.gx
 pd:iD P os lo n ps
 all:∀ (j:Nat) (o:Oper),os[j]? = some o->bP o=true->∃ p∈ps,p.op=j
 lo:C.H0.next<=lo
 N:n<=m.H.next
 jo:∀ p∈ps,σ.done.testBit p.op=false->(m.dy σ.done ps).get p.id=none
 Je:∀ p∈ps,σ.done.testBit p.op=false->∀ (j:Nat) (r:Row),(m.dy σ.done ps).get j=some (.row r)->r.aU≠p.id
 tok:∀ p∈ps,σ.done.testBit p.op=false->∀ (t:Nat) (τ:Tk),e.toks[t]? = some (some τ)->τ.aU≠p.id
 sub:∀ p∈ps,σ.gx.testBit p.op=true->σ.done.testBit p.op=true
 bs:base<=e.aY.length/\∀ (k id:Nat),k < base->e.aY[k]? = some id->∀ p∈ps,p.id≠id
 Jf:∀ p∈ps,σ.done.testBit p.op=true->p.id∈e.aY\/BA os p.op=true
 len:σ.ed.length=jW.length
 ct:∀ (i:Nat) (x:Nat×List Nat×Bool) (y:Nat×PM),σ.ed[i]? = some x->jW[i]? = some y->x.1=y.1 /\
  (∀ (k id:Nat),k < base->k ∉ x.2.1->e.aY[k]? = some id->y.2.H.get id=(m.dy σ.done ps).get id) /\
  (x.2.2=false->∀ id,(∀ p∈ps,p.id≠id)->(∀ k,k∈x.2.1->e.aY[k]? ≠ some id)->y.2.H.get id=(m.dy σ.done ps).get id)
def PD (P:Program) (O:ia) (os:List Oper) (cl:List Nat) (base:Nat) (js:List Nat) (σ:DC) (s:PS) (Q:PS->Prop):Prop:=
 ∀ lo n ps C e a m jW,wo P os base lo n ps C e s a m σ jW->∃ ak,∀ k,ak<=k->∃ ag,js.foldlM (eY P (bF P O k) os cl) ⟨σ.done,σ.bL,jW,a,m,ps⟩=.ok ag/\ag.done=2 ^ os.length - 1/\QS C Q ag.a (ag.m.dy ag.done ag.ps)
section rules
variable {os:List Oper} {cl:List Nat} {base j:Nat} {js:List Nat} {σ:DC} {s:PS} {Q:PS->Prop} {o:Oper}
theorem PD.nil (hd:σ.done=2 ^ os.length - 1) (h:Q s):PD P O os cl base [] σ s Q:=λ lo n ps C e a m jW G=>
 ⟨0,λ k _=>⟨⟨σ.done,σ.bL,jW,a,m,ps⟩,rfl,hd,e,s,G.fc,h⟩⟩
def zT (os:List Oper):List Nat:=(List.range os.length).filter λ i=>match os[i]? with
 | some o=>bP o
 | none=>false
def NY (os:List Oper) (c gx done:Nat):Bool:=(zT os).all λ i=>!done.testBit i || (gx.testBit i || c.testBit i)
theorem An {lo n:Nat} {ps:List c5} (pd:iD P os lo n ps) {p:c5} (U:p∈ps):p.op∈zT os:=by
 obtain⟨o,B,D⟩:=pd.float U;unfold zT;rw[List.mem_filter];refine⟨List.mem_range.2 (ax B),?_⟩;rw[B]; exact D
theorem ER {a b:Nat} (h:c8 a b=true) {i:Nat} (N:a.testBit i=true):b.testBit i=true:=by
 unfold c8 at h;have e:a &&& b=a:=by simpa using h
 have:(a &&& b).testBit i=true:=by rw[e]; exact N
 rw[Nat.testBit_and] at this;simp only[Bool.and_eq_true] at this;exact this.2
theorem Ml {lo n:Nat} {ps:List c5} {m:PM} (pd:iD P os lo n ps) {c done:Nat} (hc:c8 c done=true) (hf:NY os c m.gx done=true):m.dy c ps=m.dy done ps:=by
 unfold PM.dy;refine wV ps m.H λ p U=>?_;have B:=List.all_eq_true.1 hf p.op (An pd U);cases hg:m.gx.testBit p.op with
 | true=>simp
 | false=>
  rw[hg] at B;simp only[Bool.not_false,Bool.and_true];cases hd:done.testBit p.op with
  | true=>rw[hd] at B; simpa using B
  | false=>
   cases Yv:c.testBit p.op with
   | false=>rfl
   | true=>rw[ER hc Yv] at hd; cases hd
theorem fF {lo n:Nat} {ps:List c5} (pd:iD P os lo n ps) (ho:os[j]? = some o) (hf:bP o=false) {p:c5} (U:p∈ps):p.op≠j:=λ e=>by
 obtain⟨o',B,D⟩:=pd.float U;rw[e,ho] at B; cases B;rw[hf] at D; cases D
theorem lg {d j i:Nat} (h:i≠j):(d ||| 2 ^ j).testBit i=d.testBit i:=by
 rw[Nat.testBit_or,Nat.testBit_two_pow];simp[Ne.symm h]
theorem NA {lo n:Nat} {ps:List c5} {m:PM} (pd:iD P os lo n ps) (ho:os[j]? = some o) (hf:bP o=false) (done:Nat):m.dy (done ||| 2 ^ j) ps=m.dy done ps:=by
 unfold PM.dy;exact wV ps m.H λ p U=>by rw[lg (fF pd ho hf U)]
theorem wo.qZ {lo n:Nat} {ps:List c5} {C:fS} {e:cz} {a:az} {m:PM} {jW:List (Nat×PM)} (G:wo P os base lo n ps C e s a m σ jW) (ho:os[j]? = some o) (hf:bP o=false) {s':PS} {a':az} (h:cm C e s' a' (m.dy σ.done ps)):wo P os base lo n ps C e s' a' m { σ with done:=σ.done ||| 2 ^ j } jW:=by
 have e1:=NA (m:=m) G.pd ho hf σ.done;refine⟨by rw[e1]; exact h,G.gx,G.pd,G.all,G.lo,G.N,λ p U hd=>?_,λ p U hd=>?_,λ p U hd=>?_,λ p U hg=>?_,G.bs,λ p U hd=>?_,G.len,?_⟩
 ·rw[e1]; exact G.jo p U (by rw[<- lg (d:=σ.done) (fF G.pd ho hf U)]; exact hd)
 ·rw[e1]; exact G.Je p U (by rw[<- lg (d:=σ.done) (fF G.pd ho hf U)]; exact hd)
 ·exact G.tok p U (by rw[<- lg (d:=σ.done) (fF G.pd ho hf U)]; exact hd)
 ·show(σ.done ||| 2 ^ j).testBit p.op=true;rw[lg (fF G.pd ho hf U)]; exact G.sub p U hg
 ·exact G.Jf p U (by rw[<- lg (d:=σ.done) (fF G.pd ho hf U)]; exact hd)
 ·show ∀ (i:Nat) (x:Nat×List Nat×Bool) (y:Nat×PM),_;rw[show({ σ with done:=σ.done ||| 2 ^ j } : DC).done=σ.done ||| 2 ^ j from rfl,e1];exact G.ct
theorem yC {rec:eL} {a:az} {H:AH} {C:fS} {e:cz} (G:cm C e s a H) (hw:cC os s o=some true) (M:AH):tp P rec os a M o=b9 P rec a M o:=by
 unfold tp;rw[G.wanted hw];rfl
theorem PD.pure {p:PV} (ho:os[j]? = some o) (hf:bP o=false) (hd:σ.done.testBit j=false) (hc:c8 (cl.getD j 0) σ.done=true) (rz:eJ P o.op=true) (hw:cC os s o=some true) (U:iq P s o.op=some p) (hcan:s.can o.dst=true)
  (h:PD P O os cl base js { σ with done:=σ.done ||| 2 ^ j } (s.dF o.dst p) Q):PD P O os cl base (j :: js) σ s Q:=λ lo n ps C e a m jW G=>by
 obtain⟨_,XR⟩:=qx (O:=O) U;obtain⟨v,k1,k2⟩:=XR C e a _ G.fc;obtain⟨ak,hN⟩:=h lo n ps C e (a.dF o.dst v) m jW (G.qZ ho hf (G.fc.dF hcan G.fc.refl k2));refine⟨ak,λ k hk=>?_⟩;obtain⟨ag,d1,d2⟩:=hN k hk;refine⟨ag,?_,d2⟩;rw[List.foldlM_cons];have KC:tp P (bF P O k) os a (m.dy (cl.getD j 0) ps) o=.ok (v,m.dy (cl.getD j 0) ps):=by
  have B:tp P (bF P O k) os a (m.dy σ.done ps) o=.ok (v,m.dy σ.done ps):=by rw[yC G.fc hw]; exact pf (sP (Nat.zero_le k)) k1
  exact(vt rz B).2 _
 have:eY P (bF P O k) os cl ⟨σ.done,σ.bL,jW,a,m,ps⟩ j=.ok ⟨σ.done ||| 2 ^ j,σ.bL,jW,a.dF o.dst v,m,ps⟩:=by
  unfold eY;simp only[ho,hd,hc,hf,Bool.false_eq_true,if_false,Bool.not_true,KC];simp only[bind,Except.bind,G.fc.put hcan,rz,if_true]
 rw[this];exact d1
def Pk (base c:Nat) (q:PV) (ed:List (Nat×List Nat×Bool)) (nl:Bool:=true):Bool:=ed.all λ x=>c.testBit x.1 || (match q with
 | .ptr k _=>Nat.ble (k+1) base && !x.2.1.contains k
 | .dN _ _=>!x.2.2 && nl
 | _=>false)
def Xc (base:Nat):PV->Bool
 | .ptr k _=>Nat.ble (k+1) base
 | _=>false
theorem vN {rec:eL} {a:az} {v:Value} {c:Nat} {ps:List c5} : ∀ (ed:List (Nat×PM)),(∀ x∈ed,c.testBit x.1=true\/∃ u M,tp P rec os a (x.2.dy c ps) o=.ok (u,M)/\yJ 3 v u=true)->dw P rec os ps a o v c ed=true
 | [],_=>rfl
 | (j,m) :: l,h=>by
  simp only[dw];split
  ·rfl
  ·rename_i hc;rcases h (j,m) (by simp) with B | ⟨u,M,B,D⟩
   ·exact absurd B hc
   ·rw[B];simp only[D,Bool.true_and];exact vN l (λ x Y=>h x (by simp[Y]))
theorem PD.load {t:TypeId} {x:Operand} {q p:PV} (ho:os[j]? = some o) (s9:o.op=.load t x) (hd:σ.done.testBit j=false) (hc:c8 (cl.getD j 0) σ.done=true) (Bo:(NY os (cl.getD j 0) σ.gx σ.done || Xc base q)=true) (hw:cC os s o=some true) (Y:s.ev x=some q) (hl:nT P s.fr t q=some p)
  (hr:Pk base (cl.getD j 0) q σ.ed (Es os σ.done)=true) (DJ:p.Ta=true) (hcan:s.can o.dst=true) (h:PD P O os cl base js { σ with done:=σ.done ||| 2 ^ j } (s.dF o.dst p) Q):PD P O os cl base (j :: js) σ s Q:=λ lo n ps C e a m jW G=>by
 have hf:bP o=false:=by unfold bP; rw[s9]
 obtain⟨u,k1,k2⟩:=G.fc.ev Y;obtain⟨id,off,v,k3,k4,k5⟩:=G.fc.load k2 hl;have ti:(m.dy (cl.getD j 0) ps).get id=(m.dy σ.done ps).get id:=by
  rw[Bool.or_eq_true] at Bo;rcases Bo with Bo | Bo
  ·rw[Ml (m:=m) G.pd hc (by rw[G.gx]; exact Bo)]
  ·cases q with
   | ptr kq oq=>
    cases k2 with
    | @ptr _ _ YQ YR=>
     simp only[eg,Except.ok.injEq,Prod.mk.injEq] at k3;obtain⟨rfl,_⟩:=k3;have B:Nat.ble (kq+1) base=true:=Bo;rw[Nat.ble_eq] at B;have hb:=G.bs.2 kq YQ B YR;unfold PM.dy;rw[lB ps _ (λ _ _=>Nat.le_refl _) (λ p U _ _=>hb p U),lB ps _ (λ _ _=>Nat.le_refl _) (λ p U _ _=>hb p U)]
   | _=>cases Bo
 obtain⟨ak,hN⟩:=h lo n ps C e (a.dF o.dst v) m jW (G.qZ ho hf (G.fc.dF hcan G.fc.refl k5));refine⟨ak,λ k hk=>?_⟩;obtain⟨ag,d1,d2⟩:=hN k hk;refine⟨ag,?_,d2⟩;rw[List.foldlM_cons];have Xd:∀ M:AH,tp P (bF P O k) os a M o=(jq P M t id off >>= λ v=>.ok (v,M)):=λ M=>by
  rw[yC G.fc hw];obtain⟨dd,op,ty,pst,af,gu⟩:=o;simp only at s9;subst s9;simp only[b9,az.aL k1,bind,Except.bind,k3]
 have KC:tp P (bF P O k) os a (m.dy (cl.getD j 0) ps) o=.ok (v,m.dy (cl.getD j 0) ps):=by rw[Xd,Am ti,k4] <;> rfl
 have rz:eJ P o.op=false:=by rw[s9]; rfl
 have AE:fC o.op=true:=by rw[s9]; rfl
 have RT:dw P (bF P O k) os ps a o v (cl.getD j 0) jW=true:=by
  refine vN _ λ y hy=>?_;obtain⟨i,N,rfl⟩:=List.mem_iff_getElem.1 hy;obtain⟨x0,Kn⟩:=aP (l:=σ.ed) (i:=i) (by rw[G.len]; exact N);obtain⟨e1,e2,e3⟩:=G.ct i x0 _ Kn (List.getElem?_eq_getElem N);have KD:=List.all_eq_true.1 hr x0 (List.mem_of_getElem? Kn);rw[Bool.or_eq_true] at KD;rcases KD with B | B
  ·left; rw[<- e1]; exact B
  ·right;have iC:(jW[i].2.dy (cl.getD j 0) ps).get id=(m.dy σ.done ps).get id:=by
    have yY:(∀ p∈ps,p.id≠id)->(jW[i].2.dy (cl.getD j 0) ps).get id=jW[i].2.H.get id:=λ nU=>lB ps _ (λ _ _=>Nat.le_refl _) (λ p U _ _=>nU p U);cases q with
    | ptr kq oq=>
     cases k2 with
     | @ptr _ _ YQ YR=>
      simp only[eg,Except.ok.injEq,Prod.mk.injEq] at k3;obtain⟨rfl,_⟩:=k3;simp only[Bool.and_eq_true,Bool.not_eq_true',Nat.ble_eq] at B;have hb:=G.bs.2 kq YQ B.1 YR;rw[yY hb];exact e2 kq YQ B.1 (λ hm=>by have:=B.2; rw[List.contains_iff_mem.2 hm] at this; cases this) YR
    | dN c o2=>
     cases k2 with
     | @dN _ _ _ idr b0 n0 r w ga hm hs hv hh=>
      simp only[eg,Except.ok.injEq,Prod.mk.injEq] at k3;obtain⟨rfl,_⟩:=k3;have hb:∀ p∈ps,p.id≠idr:=λ p U e4=>by
       cases AT:σ.done.testBit p.op with
       | false=>have:=G.jo p U AT; rw[e4,ga] at this; cases this
       | true=>
        rcases G.Jf p U AT with h9 | h9
        ·exact hs.row (by rw[<- e4]; exact h9)
        ·have h8:(!x0.2.2 && Es os σ.done)=true:=B;rw[Bool.and_eq_true] at h8;rw[Nz h8.2 h9] at AT; cases AT
      rw[yY hb];have h8:(!x0.2.2 && Es os σ.done)=true:=B;rw[Bool.and_eq_true,Bool.not_eq_true'] at h8;exact e3 h8.1 idr hb (λ k _ hk=>hs.row (List.mem_of_getElem? hk))
    | _=>cases hl
   exact⟨v,_,by rw[Xd,Am iC,k4] <;> rfl,Ny k5 DJ⟩
 have:eY P (bF P O k) os cl ⟨σ.done,σ.bL,jW,a,m,ps⟩ j=.ok ⟨σ.done ||| 2 ^ j,σ.bL,jW,a.dF o.dst v,m,ps⟩:=by
  unfold eY;simp only[ho,hd,hc,hf,Bool.false_eq_true,if_false,Bool.not_true,KC];simp only[bind,Except.bind,G.fc.put hcan,rz,AE,RT,if_true,Bool.false_eq_true,if_false]
 rw[this];exact d1
def ua (P:Program) (O:ia) (s:PS) (o:Oper) (p:PV) (fr':List aJ) (tk':List Nat) (T:List Nat) (loud:Bool):Prop:=
 dR o.op=none/\∀ C e a H,cm C e s a H->∃ n v H' e',b9 P (bF P O n) a H o=.ok (v,H')/\gO e s.tk H e' fr' tk' H'/\RV e' tk' H' true p v /\
  (∀ (k id:Nat),e.aY[k]? = some id->k ∉ T->H'.get id=H.get id)/\(loud=false->∀ id,(∀ k,k∈T->e.aY[k]? ≠ some id)->H'.get id=H.get id)
def ub (c:Nat):List (Nat×List Nat×Bool)->Bool
 | []=>true
 | x :: _=>c.testBit x.1
def fm (j:Nat) (T:List Nat) (loud:Bool) (ed:List (Nat×List Nat×Bool)):List (Nat×List Nat×Bool):=(j,T,loud) :: ed.map λ x=>(x.1,T++x.2.1,x.2.2 || loud)
theorem PD.Ao {p:PV} {fr':List aJ} {tk':List Nat} {T:List Nat} {loud:Bool} (ho:os[j]? = some o) (hf:bP o=false) (hd:σ.done.testBit j=false) (hc:c8 (cl.getD j 0) σ.done=true) (rz:eJ P o.op=false) (AE:fC o.op=false) (hl:c8 (σ.done ^^^ σ.bL) (cl.getD j 0)=true)
  (Dt:ub (cl.getD j 0) σ.ed=true) (Bo:NY os (cl.getD j 0) σ.gx σ.done=true) {lo n:Nat} {ps:List c5} {C:fS} {e:cz} {a:az} {m:PM} {jW:List (Nat×PM)} (G:wo P os base lo n ps C e s a m σ jW)
  (hE:∃ n v H' e',(∀ k,n<=k->tp P (bF P O k) os a (m.dy σ.done ps) o=.ok (v,H'))/\gO e s.tk (m.dy σ.done ps) e' fr' tk' H'/\RV e' tk' H' true p v/\(∀ (k id:Nat),e.aY[k]? = some id->k ∉ T->H'.get id=(m.dy σ.done ps).get id)/\(loud=false->∀ id,(∀ k,k∈T->e.aY[k]? ≠ some id)->H'.get id=(m.dy σ.done ps).get id)) (hcan:s.can o.dst=true)
  (h:PD P O os cl base js ⟨σ.done ||| 2 ^ j,σ.done ||| 2 ^ j,σ.gx ||| cl.getD j 0,fm j T loud σ.ed⟩ ((s.mem fr' tk').dF o.dst p) Q):∃ ak,∀ k,ak<=k->∃ ag,(j :: js).foldlM (eY P (bF P O k) os cl) ⟨σ.done,σ.bL,jW,a,m,ps⟩=.ok ag/\ag.done=2 ^ os.length - 1/\QS C Q ag.a (ag.m.dy ag.done ag.ps):=by
 obtain⟨n0,v,H1,e',k1,st,k3,k4,k5⟩:=hE;have ti:=Ml (m:=m) G.pd hc (by rw[G.gx]; exact Bo);have ea:(m.dy σ.done ps).next=m.H.next:=lV _ _ _ _;have Tb:∀ p∈ps,p.id < m.H.next:=λ p U=>Nat.lt_of_lt_of_le (G.pd.mem p U).2.1 G.N;have kV:∀ p∈ps,((σ.done ||| 2 ^ j).testBit p.op && !(m.gx ||| cl.getD j 0).testBit p.op)=false:=λ p U=>by
  rw[lg (fF G.pd ho hf U),Nat.testBit_or,G.gx];have B:=List.all_eq_true.1 Bo p.op (An G.pd U);cases AT:σ.done.testBit p.op with
  | false=>simp
  | true=>rw[AT] at B; simp only[Bool.not_true,Bool.false_or] at B; simp only[Bool.true_and,B,Bool.not_true]
 have YS:(PM.mk H1 (m.gx ||| cl.getD j 0)).dy (σ.done ||| 2 ^ j) ps=H1:=zS ps H1 kV;obtain⟨new,xj,Hq⟩:=st.ext.aY;have q7:e'.aY=e.aY++new:=xj;have hup:=G.fc.dF hcan st k3;have hk:∀ (k id:Nat),k < base->(e'.aY[k]? = some id↔e.aY[k]? = some id):=λ k id hk=>by
  rw[q7,List.getElem?_append_left (Nat.lt_of_lt_of_le hk G.bs.1)]
 have jT:wo P os base lo n ps C e' ((s.mem fr' tk').dF o.dst p) (a.dF o.dst v) ⟨H1,m.gx ||| cl.getD j 0⟩ ⟨σ.done ||| 2 ^ j,σ.done ||| 2 ^ j,σ.gx ||| cl.getD j 0,fm j T loud σ.ed⟩ ((j,m) :: jW):=by
  refine⟨by rw[show(DC.mk (σ.done ||| 2 ^ j) (σ.done ||| 2 ^ j) (σ.gx ||| cl.getD j 0) (fm j T loud σ.ed)).done=σ.done ||| 2 ^ j from rfl,YS]; exact hup,by show m.gx ||| _=σ.gx ||| _; rw[G.gx],G.pd,G.all,G.lo,?_,λ p U AT=>?_,λ p U AT i r hr=>?_,λ p U AT t τ ht=>?_,λ p U hg=>?_,⟨?_,λ k id Dw cI p U=>?_⟩,λ p U AT=>?_,by simp[fm,G.len],λ i x y Y hy=>?_⟩
  ·have B:(m.dy σ.done ps).next<=H1.next:=st.bC.next;rw[ea] at B;exact Nat.le_trans G.N B
  ·have Gj:σ.done.testBit p.op=false:=by rw[<- lg (d:=σ.done) (fF G.pd ho hf U)]; exact AT
   rw[show(DC.mk (σ.done ||| 2 ^ j) (σ.done ||| 2 ^ j) (σ.gx ||| cl.getD j 0) (fm j T loud σ.ed)).done=σ.done ||| 2 ^ j from rfl,YS];exact st.bC.jo p.id (by show p.id < (m.dy σ.done ps).next; rw[ea]; exact Tb p U) (G.jo p U Gj)
  ·have Gj:σ.done.testBit p.op=false:=by rw[<- lg (d:=σ.done) (fF G.pd ho hf U)]; exact AT
   rw[show(DC.mk (σ.done ||| 2 ^ j) (σ.done ||| 2 ^ j) (σ.gx ||| cl.getD j 0) (fm j T loud σ.ed)).done=σ.done ||| 2 ^ j from rfl,YS] at hr;rcases st.bC.aU i r hr with⟨i0,r0,q1,q2⟩ | q1
   ·rw[<- q2]; exact G.Je p U Gj i0 r0 q1
   ·have Vl:(m.dy σ.done ps).next<=r.aU:=q1;rw[ea] at Vl;have:=Tb p U;omega
  ·have Gj:σ.done.testBit p.op=false:=by rw[<- lg (d:=σ.done) (fF G.pd ho hf U)]; exact AT
   rcases st.ext.tok t τ ht with B | B
   ·exact G.tok p U Gj t τ B
   ·have D:(m.dy σ.done ps).next<=τ.aU:=B;rw[ea] at D;have:=Tb p U; omega
  ·show(σ.done ||| 2 ^ j).testBit p.op=true;have Kz:(σ.gx ||| cl.getD j 0).testBit p.op=true:=hg;rw[lg (fF G.pd ho hf U)];rw[Nat.testBit_or,Bool.or_eq_true] at Kz;rcases Kz with B | B
   ·exact G.sub p U B
   ·exact ER hc B
  ·rw[q7,List.length_append]; have:=G.bs.1; omega
  ·exact G.bs.2 k id Dw ((hk k id Dw).1 cI) p U
  ·have Gj:σ.done.testBit p.op=true:=by rw[<- lg (d:=σ.done) (fF G.pd ho hf U)]; exact AT
   rw[q7];exact(G.Jf p U Gj).imp (List.mem_append_left _) id
  ·rw[show(DC.mk (σ.done ||| 2 ^ j) (σ.done ||| 2 ^ j) (σ.gx ||| cl.getD j 0) (fm j T loud σ.ed)).done=σ.done ||| 2 ^ j from rfl,YS];have yY:∀ id,(∀ p∈ps,p.id≠id)->m.H.get id=(m.dy σ.done ps).get id:=λ id nU=>(lB ps _ (λ _ _=>Nat.le_refl _) (λ p U _ _=>nU p U)).symm;cases i with
   | zero=>
    simp[fm] at Y hy;subst Y; subst hy;refine⟨rfl,λ k id Dw DM cI=>?_,λ mc id nU hT=>?_⟩
    ·have Ci:=(hk k id Dw).1 cI;rw[k4 k id Ci DM];exact yY id (G.bs.2 k id Dw Ci)
    ·rw[k5 mc id (λ k DM cI=>hT k DM (by rw[q7]; exact cK cI))];exact yY id nU
   | succ i=>
    simp only[fm,List.getElem?_cons_succ,List.getElem?_map] at Y hy;cases Kn:σ.ed[i]? with
    | none=>rw[Kn] at Y; cases Y
    | some x0=>
     rw[Kn] at Y;simp only[Option.map_some,Option.some.injEq] at Y;subst Y;obtain⟨e1,e2,e3⟩:=G.ct i x0 y Kn hy;refine⟨e1,λ k id Dw DM cI=>?_,λ mc id nU hT=>?_⟩
     ·have Ci:=(hk k id Dw).1 cI;simp only[List.mem_append,not_or] at DM;rw[k4 k id Ci DM.1];exact e2 k id Dw DM.2 Ci
     ·simp only[Bool.or_eq_false_iff] at mc;rw[k5 mc.2 id (λ k DM cI=>hT k (List.mem_append_left _ DM) (by rw[q7]; exact cK cI))];exact e3 mc.1 id nU (λ k DM cI=>hT k (List.mem_append_right _ DM) (by rw[q7]; exact cK cI))
 obtain⟨ak,hN⟩:=h lo n ps C e' (a.dF o.dst v) _ _ jT;refine⟨max ak n0,λ k hk=>?_⟩;obtain⟨ag,d1,d2⟩:=hN k (Nat.le_trans (Nat.le_max_left _ _) hk);refine⟨ag,?_,d2⟩;rw[List.foldlM_cons];have KC:tp P (bF P O k) os a (m.dy (cl.getD j 0) ps) o=.ok (v,H1):=by
  rw[ti]; exact k1 k (Nat.le_trans (Nat.le_max_right _ _) hk)
 have hlb:c8 (σ.done ^^^ σ.bL) (cl.getD j 0 ||| iI ps)=true:=by
  unfold c8 at hl ⊢;have e:(σ.done ^^^ σ.bL) &&& cl.getD j 0=(σ.done ^^^ σ.bL):=by simpa using hl
  have:(σ.done ^^^ σ.bL) &&& (cl.getD j 0 ||| iI ps)=(σ.done ^^^ σ.bL):=by
   apply Nat.eq_of_testBit_eq;intro i;have B:((σ.done ^^^ σ.bL) &&& cl.getD j 0).testBit i=(σ.done ^^^ σ.bL).testBit i:=by rw[e]
   rw[Nat.testBit_and] at B;rw[Nat.testBit_and,Nat.testBit_or];cases hb:(σ.done ^^^ σ.bL).testBit i with
   | false=>rfl
   | true=>rw[hb] at B; simp only[Bool.true_and] at B; rw[B]; rfl
  rw[this]; simp
 have NT:(match (generalizing:=false) jW with | []=>true | (c0,_) :: _=>(cl.getD j 0).testBit c0)=true:=by
  cases Xe:jW with
  | nil=>rfl
  | cons y l=>
   obtain⟨x0,Kn⟩:=aP (l:=σ.ed) (i:=0) (by rw[G.len,Xe]; simp);obtain⟨e1,_⟩:=G.ct 0 x0 y Kn (by rw[Xe]; rfl);cases hs:σ.ed with
   | nil=>rw[hs] at Kn; cases Kn
   | cons x1 l1=>
    rw[hs] at Kn Dt;cases Kn;show(cl.getD j 0).testBit y.1=true;rw[<- e1]; exact Dt
 have:eY P (bF P O k) os cl ⟨σ.done,σ.bL,jW,a,m,ps⟩ j=.ok ⟨σ.done ||| 2 ^ j,σ.done ||| 2 ^ j,(j,m) :: jW,a.dF o.dst v,⟨H1,m.gx ||| cl.getD j 0⟩,ps⟩:=by
  unfold eY;simp only[ho,hd,hc,hf,Bool.false_eq_true,if_false,Bool.not_true,KC];simp only[bind,Except.bind,G.fc.put hcan,rz,AE,hlb,if_false,Bool.not_true,Bool.false_eq_true];refine if_neg (λ Y=>?_);rw[Bool.not_eq_true'] at Y;exact Bool.noConfusion (NT.symm.trans Y)
 rw[this];exact d1
theorem PD.BU {p:PV} {fr':List aJ} {tk':List Nat} {T:List Nat} {loud:Bool} (ho:os[j]? = some o) (hf:bP o=false) (hd:σ.done.testBit j=false) (hc:c8 (cl.getD j 0) σ.done=true) (rz:eJ P o.op=false) (AE:fC o.op=false) (hl:c8 (σ.done ^^^ σ.bL) (cl.getD j 0)=true)
  (Dt:ub (cl.getD j 0) σ.ed=true) (Bo:NY os (cl.getD j 0) σ.gx σ.done=true) (hw:cC os s o=some true) (hdf:dR o.op=none) {lo n:Nat} {ps:List c5} {C:fS} {e:cz} {a:az} {m:PM} {jW:List (Nat×PM)} (G:wo P os base lo n ps C e s a m σ jW)
  (hE:∃ n v H' e',b9 P (bF P O n) a (m.dy σ.done ps) o=.ok (v,H')/\gO e s.tk (m.dy σ.done ps) e' fr' tk' H'/\RV e' tk' H' true p v/\(∀ (k id:Nat),e.aY[k]? = some id->k ∉ T->H'.get id=(m.dy σ.done ps).get id)/\(loud=false->∀ id,(∀ k,k∈T->e.aY[k]? ≠ some id)->H'.get id=(m.dy σ.done ps).get id)) (hcan:s.can o.dst=true)
  (h:PD P O os cl base js ⟨σ.done ||| 2 ^ j,σ.done ||| 2 ^ j,σ.gx ||| cl.getD j 0,fm j T loud σ.ed⟩ ((s.mem fr' tk').dF o.dst p) Q):∃ ak,∀ k,ak<=k->∃ ag,(j :: js).foldlM (eY P (bF P O k) os cl) ⟨σ.done,σ.bL,jW,a,m,ps⟩=.ok ag/\ag.done=2 ^ os.length - 1/\QS C Q ag.a (ag.m.dy ag.done ag.ps):=by
 obtain⟨n0,v,H1,e',k1,st,k3,k4,k5⟩:=hE;exact PD.Ao ho hf hd hc rz AE hl Dt Bo G ⟨n0,v,H1,e',λ k hk=>by rw[yC G.fc hw]; exact pf (sP hk) k1,st,k3,k4,k5⟩ hcan h
theorem GH {rec:eL} {a:az} {H:AH} {C:fS} {e:cz} (G:cm C e s a H) (hw:cC os s o=some false) (M:AH):tp P rec os a M o=.ok (undef,M):=by
 unfold tp;rw[G.wanted hw];rfl
theorem PD.XS (ho:os[j]? = some o) (hf:bP o=false) (hd:σ.done.testBit j=false) (hc:c8 (cl.getD j 0) σ.done=true) (rz:eJ P o.op=false) (AE:fC o.op=false) (hl:c8 (σ.done ^^^ σ.bL) (cl.getD j 0)=true)
  (Dt:ub (cl.getD j 0) σ.ed=true) (Bo:NY os (cl.getD j 0) σ.gx σ.done=true) (hw:cC os s o=some false) (hcan:s.can o.dst=true)
  (h:PD P O os cl base js ⟨σ.done ||| 2 ^ j,σ.done ||| 2 ^ j,σ.gx ||| cl.getD j 0,fm j [] false σ.ed⟩ (s.dF o.dst (.fX [])) Q):PD P O os cl base (j :: js) σ s Q:=λ lo n ps C e a m jW G=>
 PD.Ao ho hf hd hc rz AE hl Dt Bo G ⟨0,undef,m.dy σ.done ps,e,λ k _=>GH G.fc hw _,G.fc.refl,sB,λ _ _ _ _=>rfl,λ _ _ _=>rfl⟩ hcan h
theorem vO {rec:eL} {a:az} {H:AH} {C:fS} {e:cz} {c:Nat} {ps:List c5} (G:cm C e s a H) (hw:cC os s o=some false):∀ (ed:List (Nat×PM)),dw P rec os ps a o undef c ed=true
 | []=>rfl
 | (i,m) :: l=>by
  unfold dw;split
  ·rfl
  ·rw[GH G hw,vO G hw l]; simp[yJ,undef]
theorem PD.XT (ho:os[j]? = some o) (hf:bP o=false) (hd:σ.done.testBit j=false) (hc:c8 (cl.getD j 0) σ.done=true) (rz:(eJ P o.op || fC o.op)=true) (hw:cC os s o=some false) (hcan:s.can o.dst=true)
  (h:PD P O os cl base js { σ with done:=σ.done ||| 2 ^ j } (s.dF o.dst (.fX [])) Q):PD P O os cl base (j :: js) σ s Q:=λ lo n ps C e a m jW G=>by
 obtain⟨ak,hN⟩:=h lo n ps C e (a.dF o.dst undef) m jW (G.qZ ho hf (G.fc.dF hcan G.fc.refl sB));refine⟨ak,λ k hk=>?_⟩;obtain⟨ag,d1,d2⟩:=hN k hk;refine⟨ag,?_,d2⟩;rw[List.foldlM_cons];have KC:=GH (P:=P) (rec:=bF P O k) G.fc hw (m.dy (cl.getD j 0) ps);have RT:=vO (P:=P) (rec:=bF P O k) (c:=cl.getD j 0) (ps:=ps) G.fc hw jW;have:eY P (bF P O k) os cl ⟨σ.done,σ.bL,jW,a,m,ps⟩ j=.ok ⟨σ.done ||| 2 ^ j,σ.bL,jW,a.dF o.dst undef,m,ps⟩:=by
  unfold eY;simp only[ho,hd,hc,hf,Bool.false_eq_true,if_false,Bool.not_true,KC];simp only[bind,Except.bind,G.fc.put hcan,RT,if_true];cases B:eJ P o.op with
  | true=>simp
  | false=>
   rw[B] at rz;have D:fC o.op=true:=by simpa using rz
   simp[D]
 rw[this];exact d1
theorem PD.ke {p:PV} {fr':List aJ} {tk':List Nat} {T:List Nat} {loud:Bool} (ho:os[j]? = some o) (hf:bP o=false) (hd:σ.done.testBit j=false) (hc:c8 (cl.getD j 0) σ.done=true) (rz:eJ P o.op=false) (AE:fC o.op=false) (hl:c8 (σ.done ^^^ σ.bL) (cl.getD j 0)=true)
  (Dt:ub (cl.getD j 0) σ.ed=true) (Bo:NY os (cl.getD j 0) σ.gx σ.done=true) (hw:cC os s o=some true) (hE:ua P O s o p fr' tk' T loud) (hcan:s.can o.dst=true)
  (h:PD P O os cl base js ⟨σ.done ||| 2 ^ j,σ.done ||| 2 ^ j,σ.gx ||| cl.getD j 0,fm j T loud σ.ed⟩ ((s.mem fr' tk').dF o.dst p) Q):PD P O os cl base (j :: js) σ s Q:=λ lo n ps C e a m jW G=>PD.BU ho hf hd hc rz AE hl Dt Bo hw hE.1 G (hE.2 C e a _ G.fc) hcan h
theorem cm.insert {C:fS} {e:cz} {s:PS} {a:az} {H H':AH} (G:cm C e s a H) {id:Nat} {ty:TypeId} {zs:List Value} (mc:C.H0.next<=id) (cG:id < H.next) (Gk:H.get id=none) (yf:∀ (t:Nat) (τ:Tk),e.toks[t]? = some (some τ)->τ.aU≠id) (hn:H'.next=H.next) (cI:H'.get id=some (.row (jG ty id 0 zs)))
  (fN:∀ j,j≠id->H'.get j=H.get j) (U:zs.all bu=true):cm C (e.row id) (s.mem (s.fr++[⟨0,zs.map .val⟩]) s.tk) a H':=by
 have hI:=G.h.dz;have ee:∀ j o,H.get j=some o->j≠id:=λ j o X e1=>by rw[e1,Gk] at X; cases X
 have Bn:id ∉ e.aY:=λ hm=>by
  obtain⟨k,hk,lF⟩:=List.mem_iff_getElem.1 hm;have rD:e.aY[k]? = some id:=by rw[List.getElem?_eq_getElem hk,lF]
  obtain⟨R,II⟩:=aP (l:=s.fr) (i:=k) (by rw[<- hI.dY]; exact hk);obtain⟨o,D,_⟩:=(hI.row k id R rD II).eF;rw[Gk] at D; cases D
 have aa:Grow e s.tk H (e.row id) s.tk H':=by
  refine⟨by rw[hn]; exact Nat.le_refl _,λ k j hk=>cK hk,λ j aU en ⟨o,ho,_⟩ hs=>⟨by rw[hn]; exact hs.lt,by rw[hn]; exact hs.we,hs.x,λ hm=>?_,hs.tok⟩,λ j r n hr _=>⟨r,by rw[fN j (ee j _ hr)]; exact hr,Meta.refl r,λ _ _=>rfl⟩,λ k n hk=>⟨n,hk,Nat.le_refl _,λ _=>rfl⟩,λ k τ ht _ j r hr _ cI=>⟨r,by rw[fN j (ee j _ hr)]; exact hr,Meta.refl r,rfl,ht,λ _ _ _ h=>h,λ hm=>(List.mem_append.1 hm).elim cI λ B=>ee j _ hr (List.mem_singleton.1 B)⟩⟩;rcases List.mem_append.1 hm with B | B
  ·exact hs.row B
  ·simp at B; exact ee j _ ho B
 obtain⟨new,xj,Hq⟩:=G.h.ext.aY;refine⟨⟨⟨⟨λ j o ho=>?_,λ j r hr=>?_,pX hI.wf λ j r hr=>?_⟩,by simp[cz.row,PS.mem,hI.dY],λ i j jd N X=>?_,λ k jd R hk II=>?_,hI.dD,hI.iy,λ t τ ht=>by rw[hn]; exact hI.oI t τ ht,λ t τ ht hm=>?_⟩,⟨⟨new++[id],by show e.aY++[id]=_; rw[xj,List.append_assoc],λ j X=>?_⟩,G.h.ext.tok,G.h.ext.old,G.h.ext.Hy⟩,⟨by rw[hn]; exact G.h.bC.next,λ j r hr X=>?_,λ j o ho Tc oL=>?_,λ j B D=>?_,λ j r hr=>by
  by_cases e1:j=id
  ·subst e1; rw[cI] at hr; cases hr; exact .inr mc
  ·rw[fN j e1] at hr; exact G.h.bC.aU j r hr⟩,G.h.cw,⟨G.h.x.new,G.h.x.tok⟩,G.h.x0⟩,G.n,G.bn.step (λ m hm=>by rw[fN m (λ e=>by subst e; rw[Gk] at hm; cases hm)]; exact hm),G.r0,G.t0,λ t q ht=>?_⟩
 ·by_cases e1:j=id
  ·rw[e1,hn]; exact cG
  ·rw[fN j e1] at ho; rw[hn]; exact hI.wf.lt j o ho
 ·by_cases e1:j=id
  ·subst e1; rw[cI] at hr; cases hr; rw[hn]; exact cG
  ·rw[fN j e1] at hr; rw[hn]; exact hI.wf.aU j r hr
 ·by_cases e1:j=id
  ·subst e1; rw[cI] at hr; cases hr; exact .inl rfl
  ·rw[fN j e1] at hr; exact .inr ⟨j,r,hr,rfl,rfl,rfl⟩
 ·rcases dL N with⟨_,B⟩ | ⟨rfl,rfl⟩ <;> rcases dL X with⟨_,D⟩ | ⟨V,h4⟩
  ·exact hI.rnd i j jd B D
  ·subst h4; exact absurd (List.mem_of_getElem? B) Bn
  ·exact absurd (List.mem_of_getElem? D) Bn
  ·exact V.symm
 ·rcases dL hk with⟨h0,B⟩ | ⟨rfl,rfl⟩
  ·have Jg:(s.fr++[⟨0,zs.map .val⟩])[k]? = some R:=II;rw[List.getElem?_append_left (by rw[<- hI.dY]; exact h0)] at Jg;obtain⟨o,D,_⟩:=(hI.row k jd R B Jg).eF;exact(hI.row k jd R B Jg).eR rfl (fN jd (ee jd _ D)) λ us h8=>h8.grow aa
  ·have Jg:(s.fr++[⟨0,zs.map .val⟩])[e.aY.length]? = some R:=II;rw[hI.dY,da] at Jg;cases Jg;exact .inl ⟨(by decide:(0:Nat)≠kY),_,zs,cI,rfl,rfl,rfl,rfl,rfl,qj U⟩
 ·rcases List.mem_append.1 hm with B | B
  ·exact hI.tq t τ ht B
  ·simp at B; exact yf t τ ht B
 ·rcases List.mem_append.1 X with B | B
  ·exact Hq j B
  ·simp at B; rw[B]; exact mc
 ·obtain⟨r',B,D,V,h4⟩:=G.h.bC.row j r hr X;exact⟨r',by rw[fN j (ee j _ B)]; exact B,D,V,h4⟩
 ·have B:=G.h.bC.jY j o ho Tc oL;rw[fN j (ee j _ B)]; exact B
 ·have V:=G.h.bC.jo j B D;rw[fN j (λ e1=>by rw[e1] at B; omega)]; exact V
 ·obtain⟨v,B,D⟩:=G.tm t q ht;exact⟨v,B,D.grow aa⟩
theorem s6 {d j:Nat} {r:Row} (X:d.testBit j=false):∀ (ps:List c5),dP d ps (jm j r ps)
 | []=>trivial
 | p :: l=>by
  unfold jm;cases hb:(p.op == j) with
  | true=>
   simp only[beq_iff_eq] at hb;exact⟨⟨rfl,rfl,rfl,λ hd=>by rw[hb,X] at hd; cases hd⟩,s6 X l⟩
  | false=>exact⟨⟨rfl,rfl,rfl,λ _=>rfl⟩,s6 X l⟩
theorem C1 {j:Nat} {r:Row} : ∀ {ps:List c5} {p:c5},p∈ps->∃ q∈jm j r ps,q.op=p.op/\q.id=p.id
 | x :: l,p,U=>by
  unfold jm;rcases List.mem_cons.1 U with rfl | U
  ·refine⟨_,List.mem_cons_self,?_⟩;split <;> exact⟨rfl,rfl⟩
  ·obtain⟨q,B,D⟩:=C1 (j:=j) (r:=r) U;exact⟨q,List.mem_cons_of_mem _ B,D⟩
theorem wo.set {lo n:Nat} {ps:List c5} {C:fS} {e:cz} {a:az} {m:PM} {jW:List (Nat×PM)} (G:wo P os base lo n ps C e s a m σ jW) (hd:σ.done.testBit j=false) (r:Row):wo P os base lo n (jm j r ps) C e s a m σ jW:=by
 have ha:=s6 (r:=r) hd ps;have N:m.dy σ.done (jm j r ps)=m.dy σ.done ps:=(ha.Pb (λ i h=>h)).symm;have ct:∀ q∈jm j r ps,∃ p∈ps,p.op=q.op/\p.id=q.id:=λ q hq=>by
  obtain⟨p,B,D,V,_⟩:=ha.mem q hq; exact⟨p,B,D,V⟩
 refine⟨by rw[N]; exact G.fc,G.gx,G.pd.Rh ha,λ k o B D=>?_,G.lo,G.N,λ q hq h=>?_,λ q hq h=>?_,λ q hq h=>?_,λ q hq h=>?_,⟨G.bs.1,λ k id B D q hq=>?_⟩,λ q hq h=>?_,G.len,λ i x y B D=>?_⟩
 ·obtain⟨p,V,h4⟩:=G.all k o B D;obtain⟨q,h5,h6,_⟩:=C1 (j:=j) (r:=r) V;exact⟨q,h5,by rw[h6]; exact h4⟩
 ·obtain⟨p,B,D,V⟩:=ct q hq;rw[N,<- V]; exact G.jo p B (by rw[D]; exact h)
 ·obtain⟨p,B,D,V⟩:=ct q hq;rw[N,<- V]; exact G.Je p B (by rw[D]; exact h)
 ·obtain⟨p,B,D,V⟩:=ct q hq;rw[<- V]; exact G.tok p B (by rw[D]; exact h)
 ·obtain⟨p,B,D,V⟩:=ct q hq;rw[<- D]; exact G.sub p B (by rw[D]; exact h)
 ·obtain⟨p,V,h4,h5⟩:=ct q hq;rw[<- h5]; exact G.bs.2 k id B D p V
 ·obtain⟨p,B,D,V⟩:=ct q hq;rw[<- V,<- D]; exact G.Jf p B (by rw[D]; exact h)
 ·obtain⟨e1,e2,e3⟩:=G.ct i x y B D;rw[N];exact⟨e1,e2,λ mc id nU hT=>e3 mc id (λ p U=>by
   obtain⟨q,h5,_,h6⟩:=C1 (j:=j) (r:=r) U;rw[<- h6]; exact nU q h5) hT⟩
theorem PD.Aq (ho:os[j]? = some o) (hf:bP o=true) (hd:σ.done.testBit j=false) (hc:c8 (cl.getD j 0) σ.done=true) (VG:σ.gx.testBit j=false) {s1:PS} {lo n:Nat} {ps:List c5} {C:fS} {e e':cz} {a:az} {m:PM} {jW:List (Nat×PM)} (G:wo P os base lo n ps C e s a m σ jW)
  {p:c5} (FU:gh ps j=some p) {r:Row} (eH:fP P a o.op p.id=.ok r) (hrf:r.aU=p.id) (I2:a.put o.dst p.val=.ok (a.dF o.dst p.val)) (q7:(e'.aY=e.aY/\BA os j=true)\/e'.aY=e.aY++[p.id]) (XU:∀ (t:Nat) (τ:Tk),e'.toks[t]? = some (some τ)->τ.aU=p.id\/e.toks[t]? = some (some τ))
  (ti:∀ H':AH,H'.next=(m.dy σ.done ps).next->H'.get p.id=some (.row r)->(∀ i,i≠p.id->H'.get i=(m.dy σ.done ps).get i)->cm C e' s1 (a.dF o.dst p.val) H')
  (h:PD P O os cl base js { σ with done:=σ.done ||| 2 ^ j } s1 Q):∃ ak,∀ k,ak<=k->∃ ag,(j :: js).foldlM (eY P (bF P O k) os cl) ⟨σ.done,σ.bL,jW,a,m,ps⟩=.ok ag/\ag.done=2 ^ os.length - 1/\QS C Q ag.a (ag.m.dy ag.done ag.ps):=by
 have YT:m.dy σ.done (jm j r ps)=m.dy σ.done ps:=((s6 hd ps).Pb (λ i h=>h)).symm;have B8:=(sX (zO (r:=r) FU)).1;have fe:p.op=j:=(sX FU).2;have hS:=G.set hd r;have Er:∀ k,eY P (bF P O k) os cl ⟨σ.done,σ.bL,jW,a,m,ps⟩ j=.ok ⟨σ.done ||| 2 ^ j,σ.bL,jW,a.dF o.dst p.val,m,jm j r ps⟩:=λ k=>by
  unfold eY;simp only[ho,hd,hc,hf,FU,Bool.false_eq_true,if_false,Bool.not_true];simp only[bind,Except.bind,eH,I2]
 rw[<- YT] at ti;clear G FU YT;generalize jm j r ps=qs at *;have G:=hS;have ea:∀ c,(m.dy c qs).next=m.H.next:=λ c=>lV _ _ _ _;have yg:∀ q∈qs,q.op=j->q.id=p.id:=λ q hq e1=>by
  obtain⟨i1,B,rfl⟩:=List.mem_iff_getElem.1 hq;obtain⟨i2,D,uE⟩:=List.mem_iff_getElem.1 B8;have NS:=List.pairwise_iff_getElem.1 G.pd.FP;rcases Nat.lt_trichotomy i1 i2 with V | V | V
  ·have:=(NS i1 i2 B D V).1; rw[uE] at this; simp only at this; omega
  ·subst V; rw[uE]
  ·have:=(NS i2 i1 D B V).1; rw[uE] at this; simp only at this; omega
 have LK:∀ q∈qs,q.op≠j->q.id≠p.id:=λ q hq ee e1=>by
  obtain⟨i1,B,rfl⟩:=List.mem_iff_getElem.1 hq;obtain⟨i2,D,uE⟩:=List.mem_iff_getElem.1 B8;have NS:=List.pairwise_iff_getElem.1 G.pd.FP;rcases Nat.lt_trichotomy i1 i2 with V | V | V
  ·have:=(NS i1 i2 B D V).2; rw[uE] at this; simp only at this; omega
  ·subst V; rw[uE] at ee; exact ee fe
  ·have:=(NS i2 i1 D B V).2; rw[uE] at this; simp only at this; omega
 have fO:∀ i,i≠p.id->(m.dy (σ.done ||| 2 ^ j) qs).get i=(m.dy σ.done qs).get i:=λ i N=>by
  by_cases hs:∃ q∈qs,σ.done.testBit q.op=true/\m.gx.testBit q.op=false/\q.id=i
  ·obtain⟨q,hq,a1,Z,rfl⟩:=hs;unfold PM.dy;rw[wz qs _ (λ _ _=>Nat.le_refl _) G.pd.FP q hq a1 Z,wz qs _ (λ _ _=>Nat.le_refl _) G.pd.FP q hq (by rw[Nat.testBit_or,a1]; rfl) Z]
  ·unfold PM.dy;rw[lB qs _ (λ _ _=>Nat.le_refl _) (λ q hq a1 Z e1=>hs ⟨q,hq,a1,Z,e1⟩),lB qs _ (λ _ _=>Nat.le_refl _) (λ q hq a1 Z e1=>?_)];rw[Nat.testBit_or,Bool.or_eq_true] at a1;rcases a1 with a1 | a1
   ·exact hs ⟨q,hq,a1,Z,e1⟩
   ·have:j=q.op:=by rw[Nat.testBit_two_pow] at a1; simpa using a1
    exact N (by rw[<- e1]; exact yg q hq this.symm)
 have Bx:(m.dy (σ.done ||| 2 ^ j) qs).get p.id=some (.row r):=by
  unfold PM.dy;exact wz qs _ (λ _ _=>Nat.le_refl _) G.pd.FP _ B8 (by show(σ.done ||| 2 ^ j).testBit p.op=true; rw[fe,Nat.testBit_or,Nat.testBit_two_pow]; simp) (by rw[G.gx]; show σ.gx.testBit p.op=false; rw[fe]; exact VG)
 have hup:=ti (m.dy (σ.done ||| 2 ^ j) qs) (by rw[ea,ea]) Bx fO;have KB:∀ q∈qs,(σ.done ||| 2 ^ j).testBit q.op=false->q.op≠j/\σ.done.testBit q.op=false:=λ q hq B=>by
  rw[Nat.testBit_or,Bool.or_eq_false_iff] at B;refine⟨λ e1=>?_,B.1⟩;rw[e1,Nat.testBit_two_pow] at B;simp at B
 have nV:∀ (k id:Nat),k < base->e'.aY[k]? = some id->e.aY[k]? = some id:=λ k id Dw cI=>by
  rcases q7 with⟨B,_⟩ | B
  ·rw[B] at cI; exact cI
  ·rw[B,List.getElem?_append_left (Nat.lt_of_lt_of_le Dw G.bs.1)] at cI; exact cI
 have hold:∀ (k id:Nat),e.aY[k]? = some id->e'.aY[k]? = some id:=λ k id cI=>by
  rcases q7 with⟨B,_⟩ | B
  ·rw[B]; exact cI
  ·rw[B]; exact cK cI
 have lH:∀ id∈e.aY,id∈e'.aY:=λ id cI=>by
  rcases q7 with⟨B,_⟩ | B
  ·rw[B]; exact cI
  ·rw[B]; exact List.mem_append_left _ cI
 obtain⟨ak,hN⟩:=h lo n qs C e' (a.dF o.dst p.val) m jW (by
  refine⟨hup,G.gx,G.pd,G.all,G.lo,G.N,λ q hq QT=>?_,λ q hq QT i r' ga=>?_,λ q hq QT t τ ht=>(XU t τ ht).elim (λ B D=>LK q hq (KB q hq QT).1 (D.symm.trans B)) (λ B=>G.tok q hq (KB q hq QT).2 t τ B),λ q hq hqg=>?_,⟨?_,λ k id Dw cI q hq=>G.bs.2 k id Dw (nV k id Dw cI) q hq⟩,λ q hq QT=>?_,G.len,λ i x y Y hy=>?_⟩
  ·obtain⟨B,D⟩:=KB q hq QT;show(m.dy (σ.done ||| 2 ^ j) qs).get q.id=none;rw[fO _ (LK q hq B)]; exact G.jo q hq D
  ·obtain⟨B,D⟩:=KB q hq QT;have RX:(m.dy (σ.done ||| 2 ^ j) qs).get i=some (.row r'):=ga;by_cases e1:i=p.id
   ·rw[e1,Bx] at RX; cases RX;rw[hrf]; exact λ e2=>LK q hq B e2.symm
   ·rw[fO i e1] at RX; exact G.Je q hq D i r' RX
  ·show(σ.done ||| 2 ^ j).testBit q.op=true;rw[Nat.testBit_or,G.sub q hq hqg]; rfl
  ·rcases q7 with⟨B,_⟩ | B
   ·rw[B]; exact G.bs.1
   ·rw[B,List.length_append]; have:=G.bs.1; omega
  ·by_cases Uq:q.op=j
   ·rw[yg q hq Uq];rcases q7 with⟨_,D⟩ | B
    ·rw[Uq]; exact .inr D
    ·rw[B]; exact .inl (by simp)
   ·have Xf:(σ.done ||| 2 ^ j).testBit q.op=true:=QT;rw[lg Uq] at Xf;exact(G.Jf q hq Xf).imp (lH _) id
  ·obtain⟨e1,e2,e3⟩:=G.ct i x y Y hy;refine⟨e1,λ k id Dw DM cI=>?_,λ mc id nU hT=>?_⟩
   ·show _=(m.dy (σ.done ||| 2 ^ j) qs).get id;rw[fO id (λ e4=>G.bs.2 k id Dw (nV k id Dw cI) _ B8 e4.symm)];exact e2 k id Dw DM (nV k id Dw cI)
   ·show _=(m.dy (σ.done ||| 2 ^ j) qs).get id;rw[fO id (λ e4=>nU _ B8 e4.symm)];exact e3 mc id nU (λ k hk cI=>hT k hk (hold k id cI)))
 refine⟨ak,λ k hk=>?_⟩;obtain⟨ag,d1,d2⟩:=hN k hk;refine⟨ag,?_,d2⟩;rw[List.foldlM_cons,Er k];exact d1
theorem wo.K9 (ho:os[j]? = some o) (hf:bP o=true) {lo n:Nat} {ps:List c5} {C:fS} {e:cz} {a:az} {m:PM} {jW:List (Nat×PM)} (G:wo P os base lo n ps C e s a m σ jW):∃ p,gh ps j=some p/\p∈ps/\p.op=j/\p.val=o7 o.op p.id/\lo<=p.id/\p.id < n:=by
 cases FU:gh ps j with
 | none=>
  obtain⟨p,B8,fe⟩:=G.all j o ho hf;have:(gh ps j).isSome=true:=by
   unfold gh;rw[List.find?_isSome];exact⟨p,B8,by simpa using fe⟩
  rw[FU] at this; cases this
 | some p=>
  obtain⟨B8,fe⟩:=sX FU;obtain⟨q1,q2,o',g1,g2,g3⟩:=G.pd.mem p B8;rw[fe,ho] at g1; cases g1;exact⟨p,rfl,B8,fe,g3,q1,q2⟩
theorem PD.float {t:TypeId} {zs:List Value} (ho:os[j]? = some o) (s9:o.op=.alloc t) (hg:o.guard=none) (hd:σ.done.testBit j=false) (hc:c8 (cl.getD j 0) σ.done=true) (hz:eB P t=.ok zs) (U:zs.all bu=true) (VG:σ.gx.testBit j=false) (hcan:s.can o.dst=true)
  (h:PD P O os cl base js { σ with done:=σ.done ||| 2 ^ j } ((s.mem (s.fr++[⟨0,zs.map .val⟩]) s.tk).dF o.dst (.ptr s.fr.length 0)) Q):PD P O os cl base (j :: js) σ s Q:=λ lo n ps C e a m jW G=>by
 have hf:bP o=true:=by unfold bP; rw[s9,hg]
 obtain⟨p,FU,B8,fe,tj,q1,q2⟩:=G.K9 ho hf;have AT:σ.done.testBit p.op=false:=by rw[fe]; exact hd
 have LL:p.val=.pointer (some ⟨p.id,0,none⟩):=by rw[tj,s9]; rfl
 refine PD.Aq ho hf hd hc VG G FU (r:=jG t p.id 0 zs) (e':=e.row p.id) ?_ rfl ?_ (.inr rfl) (λ _ _ h=>.inr h) (λ H' hn cI fN=>?_) h
 ·rw[s9]; simp only[fP,hz]; rfl
 ·exact G.fc.put hcan
 ·have ti:=G.fc.insert (H':=H') (id:=p.id) (ty:=t) (zs:=zs) (Nat.le_trans G.lo q1) (by rw[show(m.dy σ.done ps).next=m.H.next from lV _ _ _ _]; exact Nat.lt_of_lt_of_le q2 G.N) (G.jo p B8 AT) (G.tok p B8 AT) hn cI fN U;have ack:RV (e.row p.id) (s.mem (s.fr++[⟨0,zs.map .val⟩]) s.tk).tk H' true (.ptr s.fr.length 0) (.pointer (some ⟨p.id,0,none⟩)):=by
   refine .ptr ?_;rw[<- G.fc.h.dz.dY]; exact da
  rw[LL];exact cm.dF ti (d:=o.dst) hcan (p:=.ptr s.fr.length 0) (v:=.pointer (some ⟨p.id,0,none⟩)) (gO.refl ti.h.dz) ack
theorem cm.Qi {C:fS} {e:cz} {s:PS} {a:az} {H H':AH} (G:cm C e s a H) {id sz:Nat} {ty:TypeId} {vs:List Value} {l:List (List PV)} (mc:C.H0.next<=id) (cG:id < H.next) (Gk:H.get id=none) (yf:∀ (t:Nat) (τ:Tk),e.toks[t]? = some (some τ)->τ.aU≠id) (hn:H'.next=H.next) (cI:H'.get id=some (.row (jG ty id sz vs)))
  (fN:∀ j,j≠id->H'.get j=H.get j) (oM:∀ (j:Nat) (r:Row),H.get j=some (.row r)->r.aU≠id) (hl:rH e s.tk H sz l vs):cm C (e.tok (some ⟨id,0,sz,0,0⟩)) (s.mem s.fr (s.tk++[l.length])) a H'/\RV (e.tok (some ⟨id,0,sz,0,0⟩)) (s.tk++[l.length]) H' true (.aS sz l (some s.tk.length)) (.slice (some ⟨id,0,none⟩) l.length l.length):=by
 have hI:=G.h.dz;have ee:∀ j o,H.get j=some o->j≠id:=λ j o X e1=>by rw[e1,Gk] at X; cases X
 have Bn:id ∉ e.aY:=λ hm=>by
  obtain⟨k,hk,lF⟩:=List.mem_iff_getElem.1 hm;have rD:e.aY[k]? = some id:=by rw[List.getElem?_eq_getElem hk,lF]
  obtain⟨R,II⟩:=aP (l:=s.fr) (i:=k) (by rw[<- hI.dY]; exact hk);obtain⟨o,D,_⟩:=(hI.row k id R rD II).eF;rw[Gk] at D; cases D
 have yQ:∀ (t:Nat) (τ:Tk),(e.tok (some ⟨id,0,sz,0,0⟩)).toks[t]? = some (some τ)->(t < s.tk.length/\e.toks[t]? = some (some τ))\/(t=s.tk.length/\τ=⟨id,0,sz,0,0⟩):=λ t τ ht=>by
  rcases dL ht with⟨B,D⟩ | ⟨B,D⟩
  ·exact .inl ⟨by rw[<- hI.dD]; exact B,D⟩
  ·cases D; exact .inr ⟨by rw[<- hI.dD]; exact B,rfl⟩
 have IJ:∀ (t:Nat),t < s.tk.length->(e.tok (some ⟨id,0,sz,0,0⟩)).toks[t]? = e.toks[t]?:=λ t ht=>by
  show(e.toks++[_])[t]? = _;rw[List.getElem?_append_left (by rw[hI.dD]; exact ht)]
 have aa:Grow e s.tk H (e.tok (some ⟨id,0,sz,0,0⟩)) (s.tk++[l.length]) H':=
  ⟨by rw[hn]; exact Nat.le_refl _,λ k j hk=>hk,λ j aU en ⟨r,hr,hf⟩ hs=>⟨by rw[hn]; exact hs.lt,by rw[hn]; exact hs.we,hs.x,hs.row,λ t τ n a1 Z a3=>by
   rcases yQ t τ a1 with⟨b1,b2⟩ | ⟨b1,b2⟩
   ·rw[List.getElem?_append_left b1] at Z;exact hs.tok t τ n b2 Z a3
   ·subst b2; exact absurd (hf.trans a3) (oM j r hr)⟩,λ j r n hr _=>⟨r,by rw[fN j (ee j _ hr)]; exact hr,Meta.refl r,λ _ _=>rfl⟩,λ k n hk=>⟨n,cK hk,Nat.le_refl _,λ _=>IJ k (ax hk)⟩,λ k τ ht _ j r hr _ cI=>⟨r,by rw[fN j (ee j _ hr)]; exact hr,Meta.refl r,rfl,cK ht,λ _ _ _ h=>h,cI⟩⟩
 refine⟨⟨⟨⟨⟨λ j o ho=>?_,λ j r hr=>?_,λ j j' r r' hr ga Vz gG z1 z2=>?_⟩,hI.dY,hI.rnd,λ k jd R hk II=>?_,by show(e.toks++[_]).length=(s.tk++[l.length]).length; rw[List.length_append,List.length_append,hI.dD]; rfl,λ t t' τ fG ht iO hf=>by
  rcases yQ t τ ht with⟨a1,Z⟩ | ⟨a1,Z⟩ <;> rcases yQ t' fG iO with⟨b1,b2⟩ | ⟨b1,b2⟩
  ·exact hI.iy t t' τ fG Z b2 hf
  ·subst b2; exact absurd hf (yf t τ Z)
  ·subst Z; exact absurd hf.symm (yf t' fG b2)
  ·omega,λ t τ ht=>by
  rw[hn];rcases yQ t τ ht with⟨a1,Z⟩ | ⟨a1,Z⟩
  ·exact hI.oI t τ Z
  ·subst Z; exact cG,λ t τ ht=>by
  rcases yQ t τ ht with⟨a1,Z⟩ | ⟨a1,Z⟩
  ·exact hI.tq t τ Z
  ·subst Z; exact Bn⟩,⟨G.h.ext.aY,λ t τ ht=>by
  rcases yQ t τ ht with⟨a1,Z⟩ | ⟨a1,Z⟩
  ·exact G.h.ext.tok t τ Z
  ·subst Z; exact .inr mc,λ t τ ht=>cK (G.h.ext.old t τ ht),λ t n ht=>by
  obtain⟨n',a1,Z,a3⟩:=G.h.ext.Hy t n ht;exact⟨n',cK a1,Z,λ a4=>by rw[IJ t (ax a1)]; exact a3 a4⟩⟩,⟨by rw[hn]; exact G.h.bC.next,λ j r hr X=>?_,λ j o ho Tc oL=>?_,λ j B D=>?_,λ j r hr=>by
  by_cases e1:j=id
  ·subst e1; rw[cI] at hr; cases hr; exact .inr mc
  ·rw[fN j e1] at hr; exact G.h.bC.aU j r hr⟩,G.h.cw,⟨G.h.x.new,λ t τ qF en ht D=>by
  rcases yQ t τ ht with⟨a1,Z⟩ | ⟨a1,Z⟩
  ·exact G.h.x.tok t τ qF en Z D
  ·subst Z; exact G.h.x.new qF id en D mc⟩,G.h.x0⟩,G.n,G.bn.step (λ m hm=>by rw[fN m (λ e=>by subst e; rw[Gk] at hm; cases hm)]; exact hm),G.r0,G.t0,λ t q ht=>?_⟩,?_⟩
 ·by_cases e1:j=id
  ·rw[e1,hn]; exact cG
  ·rw[fN j e1] at ho; rw[hn]; exact hI.wf.lt j o ho
 ·by_cases e1:j=id
  ·subst e1; rw[cI] at hr; cases hr; rw[hn]; exact cG
  ·rw[fN j e1] at hr; rw[hn]; exact hI.wf.aU j r hr
 ·by_cases e1:j=id
  ·rw[e1,cI] at hr; cases hr;by_cases e2:j'=id
   ·rw[e2,cI] at ga; cases ga; rfl
   ·rw[fN j' e2] at ga; exact absurd Vz.symm (oM j' r' ga)
  ·rw[fN j e1] at hr;by_cases e2:j'=id
   ·rw[e2,cI] at ga; cases ga; exact absurd Vz (oM j r hr)
   ·rw[fN j' e2] at ga; exact hI.wf.esz j j' r r' hr ga Vz gG z1 z2
 ·obtain⟨o,D,_⟩:=(hI.row k jd R hk II).eF;exact(hI.row k jd R hk II).eR rfl (fN jd (ee jd _ D)) λ us h8=>h8.grow aa
 ·obtain⟨r',B,D,V,h4⟩:=G.h.bC.row j r hr X;exact⟨r',by rw[fN j (ee j _ B)]; exact B,D,V,h4⟩
 ·have B:=G.h.bC.jY j o ho Tc oL;rw[fN j (ee j _ B)]; exact B
 ·have V:=G.h.bC.jo j B D;rw[fN j (λ e1=>by rw[e1] at B; omega)]; exact V
 ·obtain⟨v,B,D⟩:=G.tm t q ht;exact⟨v,B,D.grow aa⟩
 ·refine RV.GG (vs:=vs) (hl.grow aa) cI ⟨by rw[hn]; exact cG,by rw[hn]; exact cG,G.h.x.new _ _ _ mc mc,Bn,λ t τ n ht sJ hf=>by
   rcases yQ t τ ht with⟨a1,Z⟩ | ⟨a1,Z⟩
   ·exact absurd hf.symm (yf t τ Z)
   ·subst Z; subst a1;rw[da] at sJ; cases sJ;show 0+(0+l.length * sz)<=0+l.length * sz;omega⟩ rfl (Nat.le_refl _) (λ x v hv=>?_) ?_ (λ k hk=>by
    cases hk;exact⟨l.length,da,Nat.le_refl _,λ _=>⟨⟨id,0,sz,0,0⟩,by show(e.toks++[_])[s.tk.length]? = _; rw[<- hI.dD]; exact da,rfl,rfl,rfl,rfl,rfl⟩⟩)
  ·show(vs.map some)[0+x]? = _;rw[Nat.zero_add,List.getElem?_map,hv]; rfl
  ·show 0+l.length * sz<=(vs.map some).length;rw[List.length_map,hl.1]; omega
theorem Qj {t:TypeId} {len sz:Nat} {bH:Array (Nat×Operand)} {l:List (List PV)} (h:uY P s t len bH.toList=some (sz,l)) {C:fS} {e:cz} {a:az} {H:AH} (G:cm C e s a H):∃ elem vs,l.length=len/\rH e s.tk H sz l vs/\∀ id,fP P a (.buildSlice t len bH) id=.ok (jG elem id sz vs):=by
 unfold uY at h;cases ht:P.underlying t with
 | none=>rw[ht] at h; cases h
 | some ag=>
  rw[ht] at h;cases ag with
  | slice elem=>
   simp only at h;cases mo:oD s bH.toList with
   | none=>rw[mo] at h; cases h
   | some ps=>
    cases hs:bD P elem with
    | error n=>rw[mo,hs] at h; cases h
    | ok size=>
     cases hz:eB P elem with
     | error n=>rw[mo,hs,hz] at h; cases h
     | ok zs=>
      rw[mo,hs,hz] at h;obtain⟨hle,h⟩:=bm h;obtain⟨kN,h⟩:=bm h;cases hf:rR (λ i=>some (i * size,size)) ((ba zs len).map .val) ps with
      | none=>rw[hf] at h; cases h
      | some cells=>
       rw[hf] at h;simp only at h;cases mc:A6 cells with
       | none=>rw[mc] at h; cases h
       | some cs=>
        rw[mc] at h;obtain⟨kM,h⟩:=bm h;cases h;obtain⟨vs,B,D⟩:=G.bH mo;obtain⟨r,k1,k2⟩:=sQ ps vs _ (ba zs len).toArray _ D (qj (mF kN len)) hf;obtain⟨k3,k4⟩:=sR k2 mc;have Uw:=uw (n:=len) k3 k4 (Nat.eq_of_beq_eq_true kM);rw[Nat.ble_eq] at hle;have I6:¬ len * sz > 16777216:=by omega
        refine⟨elem,_,mO _ _ _,Uw,λ id=>?_⟩;simp only[fP,ht];rw[B];simp only[bind,Except.bind,hs,if_neg I6,hz,k1];rfl
  | _=>cases h
theorem PD.TW {t:TypeId} {len sz:Nat} {bH:Array (Nat×Operand)} {l:List (List PV)} (ho:os[j]? = some o) (s9:o.op=.buildSlice t len bH) (hg:o.guard=none) (hd:σ.done.testBit j=false) (hc:c8 (cl.getD j 0) σ.done=true) (U:uY P s t len bH.toList=some (sz,l)) (VG:σ.gx.testBit j=false) (hcan:s.can o.dst=true)
  (h:PD P O os cl base js { σ with done:=σ.done ||| 2 ^ j } ((s.mem s.fr (s.tk++[l.length])).dF o.dst (.aS sz l (some s.tk.length))) Q):PD P O os cl base (j :: js) σ s Q:=λ lo n ps C e a m jW G=>by
 have hf:bP o=true:=by unfold bP; rw[s9,hg]
 obtain⟨p,FU,B8,fe,tj,q1,q2⟩:=G.K9 ho hf;have AT:σ.done.testBit p.op=false:=by rw[fe]; exact hd
 have LL:p.val=.slice (some ⟨p.id,0,none⟩) len len:=by rw[tj,s9]; rfl
 obtain⟨elem,vs,w1,w2,w3⟩:=Qj U G.fc;refine PD.Aq ho hf hd hc VG G FU (r:=jG elem p.id sz vs) (e':=e.tok (some ⟨p.id,0,sz,0,0⟩)) ?_ rfl ?_ (.inl ⟨rfl,?_⟩) (λ t τ ht=>by
  rcases dL ht with⟨_,B⟩ | ⟨_,B⟩
  ·exact .inr B
  ·cases B; exact .inl rfl) (λ H' hn cI fN=>?_) h
 ·rw[s9]; exact w3 _
 ·exact G.fc.put hcan
 ·unfold BA; rw[ho]; simp only[s9]
 ·obtain⟨ti,YU⟩:=G.fc.Qi (H':=H') (id:=p.id) (ty:=elem) (vs:=vs) (Nat.le_trans G.lo q1) (by rw[show(m.dy σ.done ps).next=m.H.next from lV _ _ _ _]; exact Nat.lt_of_lt_of_le q2 G.N) (G.jo p B8 AT) (G.tok p B8 AT) hn cI fN (G.Je p B8 AT) w2;rw[LL,<- w1];exact cm.dF ti (d:=o.dst) hcan (gO.refl ti.h.dz) YU
end rules
end
end Go.cy
namespace Go.cy
noncomputable section
variable {P:Program} {O:ia}
theorem qB:∀ (os:List Oper) (i next:Nat),∃ ps n,iT os i next=(ps,n)/\∀ (j:Nat) (o:Oper),os[j]? = some o->bP o=true->∃ p∈ps,p.op=i+j
 | [],i,next=>⟨[],next,rfl,λ j o h=>by simp at h⟩
 | o :: os,i,next=>by
  cases hf:bP o with
  | false=>
   obtain⟨ps,n,B,D⟩:=qB os (i+1) next
   refine⟨ps,n,by simp only[iT,hf,B],λ j o' X mb=>?_⟩;cases j with
   | zero=>simp at X; subst X; rw[hf] at mb; cases mb
   | succ j=>
    obtain⟨p,U,lE⟩:=D j o' (by simpa using X) mb;exact⟨p,U,by omega⟩
  | true=>
   obtain⟨ps,n,B,D⟩:=qB os (i+1) (next+1);refine⟨⟨i,next,o7 o.op next,Rb⟩ :: ps,n,by simp only[iT,hf,B],λ j o' X mb=>?_⟩;cases j with
   | zero=>exact⟨_,List.mem_cons_self,rfl⟩
   | succ j=>
    obtain⟨p,U,lE⟩:=D j o' (by simpa using X) mb;exact⟨p,List.mem_cons_of_mem _ U,by omega⟩
theorem cm.XV {C:fS} {e:cz} {s:PS} {a:az} {H:AH} (G:cm C e s a H) {n:Nat} (hn:H.next<=n):cm C e s a { H with next:=n }:=by
 have hI:=G.h.dz;have eM:∀ j,({ H with next:=n } : AH).get j=H.get j:=λ j=>rfl;have aa:Grow e s.tk H e s.tk { H with next:=n }:=⟨hn,λ _ _ h=>h,λ id aU en _ hs=>⟨Nat.lt_of_lt_of_le hs.lt hn,Nat.lt_of_lt_of_le hs.we hn,hs.x,hs.row,hs.tok⟩,λ id r n hr _=>⟨r,hr,Meta.refl r,λ _ _=>rfl⟩,λ k n hk=>⟨n,hk,Nat.le_refl _,λ _=>rfl⟩,λ k τ ht _ id r hr _ cI=>⟨r,hr,Meta.refl r,rfl,ht,λ _ _ _ h=>h,cI⟩⟩
 refine⟨⟨⟨⟨λ j o ho=>Nat.lt_of_lt_of_le (hI.wf.lt j o ho) hn,λ j r hr=>Nat.lt_of_lt_of_le (hI.wf.aU j r hr) hn,hI.wf.esz⟩,hI.dY,hI.rnd,λ k id R hk II=>?_,hI.dD,hI.iy,λ t τ ht=>Nat.lt_of_lt_of_le (hI.oI t τ ht) hn,hI.tq⟩,G.h.ext,⟨Nat.le_trans G.h.bC.next hn,G.h.bC.row,G.h.bC.jY,G.h.bC.jo,G.h.bC.aU⟩,G.h.cw,G.h.x,G.h.x0⟩,G.n,G.bn.step (λ _ h=>h),G.r0,G.t0,λ t q ht=>?_⟩
 ·exact(hI.row k id R hk II).eR rfl rfl λ us h8=>h8.grow aa
 ·obtain⟨v,B,D⟩:=G.tm t q ht;exact⟨v,B,D.grow aa⟩
def Rp (P:Program) (os:List Oper) (order:List Nat):Bool:=P.follows .mixedOrders && (pt os (ix os) && sU P os (ix os) == order)
theorem PC.pK {rnd:Option Nat} {i:Nat} {ops:Array Oper} {z:Code} {s:PS} {Q:AX->PS->Prop} (order:List Nat) (U:Rp P ops.toList order=true)
  (h:PD P O ops.toList (ix ops.toList) s.fr.length order ⟨0,0,0,[]⟩ s (λ s1=>PC P O rnd z s1 Q)):PC P O rnd (.seq (.region i ops true) z) s Q:=λ C e a H G hX=>by
 unfold Rp at U;simp only[Bool.and_eq_true,beq_iff_eq] at U;obtain⟨p1,p2,p4⟩:=U;obtain⟨ps,n,r1,r2⟩:=qB ops.toList 0 H.next;have pd:=iD.of (P:=P) r1;have hI:=G.h.dz;have LM:(PM.mk { H with next:=n } 0).dy 0 ps = { H with next:=n }:=zS ps _ (λ p _=>by simp);have xT:=G.XV pd.le;obtain⟨ak,hN⟩:=h H.next n ps C e a ⟨{ H with next:=n },0⟩ [] (by
  refine⟨by rw[show(DC.mk 0 0 0 []).done=0 from rfl,LM]; exact xT,rfl,pd,(λ j o X ho=>by obtain⟨p,a1,Z⟩:=r2 j o X ho; exact⟨p,a1,by omega⟩),G.h.bC.next,Nat.le_refl _,λ p U _=>?_,λ p U _ i r hr=>?_,λ p U _ t τ ht e1=>?_,λ p U hg=>by simp at hg,⟨by rw[hI.dY]; exact Nat.le_refl _,λ k id hk cI p U e1=>?_⟩,λ p U hd=>by simp at hd,rfl,λ i x y Y=>by simp at Y⟩
  ·rw[show(DC.mk 0 0 0 []).done=0 from rfl,LM];have B:=(pd.mem p U).1;cases hg:H.get p.id with
   | none=>exact hg
   | some o=>have:=hI.wf.lt _ _ hg; omega
  ·rw[show(DC.mk 0 0 0 []).done=0 from rfl,LM] at hr;have B:=(pd.mem p U).1;have:=hI.wf.aU i r hr;omega
  ·have B:=(pd.mem p U).1;have:=hI.oI t τ ht; omega
  ·have B:=(pd.mem p U).1;have:=hI.Oo (List.mem_of_getElem? cI); omega)
 obtain⟨ag,d1,d2,e',s',d3,d4⟩:=hN ak (Nat.le_refl _);refine WC.seq ⟨ak+1,.normal,ag.a,ag.m.dy ag.done ag.ps,?_,d4 C e' ag.a _ d3 hX⟩;have hd:rP P (bF P O ak) ops.toList a H=.ok (ag.a,ag.m.dy ag.done ag.ps):=by
  unfold rP;simp only[p2,if_true,r1,p4];show(order.foldlM (eY P (bF P O ak) ops.toList (ix ops.toList)) { done:=0,bL:=0,ed:=[],a:=a,m:=⟨{ H with next:=n },0⟩,ps:=ps } >>= λ s=>if s.done=2 ^ ops.toList.length - 1 then .ok (s.a,s.m.dy s.done s.ps) else .error 121)=_;rw[d1];show(if ag.done=2 ^ ops.toList.length - 1 then Except.ok (ag.a,ag.m.dy ag.done ag.ps) else .error 121)=_;rw[if_pos d2]
 simp only[bF,bO,p1,Bool.not_true,Bool.false_eq_true,if_false,hd];rfl
end
end Go.cy
namespace Go.cy
noncomputable section
variable {P:Program} {O:ia}
section rules
variable {os:List Oper} {cl:List Nat} {base j:Nat} {js:List Nat} {σ:DC} {s:PS} {Q:PS->Prop} {o:Oper}
theorem PD.tD {p:PV} (ho:os[j]? = some o) (hq:(bP o,σ.done.testBit j,c8 (cl.getD j 0) σ.done,eJ P o.op)=(false,false,true,true)) (hw:cC os s o=some true) (hS:cX P O s o p) (hcan:s.can o.dst=true)
  (h:PD P O os cl base js { σ with done:=σ.done ||| 2 ^ j } (s.dF o.dst p) Q):PD P O os cl base (j :: js) σ s Q:=λ lo n ps C e a m jW G=>by
 simp only[Prod.mk.injEq] at hq;obtain⟨hf,hd,hc,rz⟩:=hq;obtain⟨n0,v,k1,k2⟩:=hS.2 C e a _ G.fc;obtain⟨ak,hN⟩:=h lo n ps C e (a.dF o.dst v) m jW (G.qZ ho hf (G.fc.dF hcan G.fc.refl k2));refine⟨max ak n0,λ k hk=>?_⟩;obtain⟨ag,d1,d2⟩:=hN k (Nat.le_trans (Nat.le_max_left _ _) hk);refine⟨ag,?_,d2⟩;rw[List.foldlM_cons];have KC:tp P (bF P O k) os a (m.dy (cl.getD j 0) ps) o=.ok (v,m.dy (cl.getD j 0) ps):=by
  have B:tp P (bF P O k) os a (m.dy σ.done ps) o=.ok (v,m.dy σ.done ps):=by rw[yC G.fc hw]; exact pf (sP (Nat.le_trans (Nat.le_max_right _ _) hk)) k1
  exact(vt rz B).2 _
 have:eY P (bF P O k) os cl ⟨σ.done,σ.bL,jW,a,m,ps⟩ j=.ok ⟨σ.done ||| 2 ^ j,σ.bL,jW,a.dF o.dst v,m,ps⟩:=by
  unfold eY;simp only[ho,hd,hc,hf,Bool.false_eq_true,if_false,Bool.not_true,KC];simp only[bind,Except.bind,G.fc.put hcan,rz,if_true]
 rw[this];exact d1
theorem PD.Mm {p:PV} {fr':List aJ} {tk':List Nat} {T:List Nat} {loud:Bool} (ho:os[j]? = some o) (hq:(bP o,σ.done.testBit j,c8 (cl.getD j 0) σ.done,eJ P o.op,fC o.op,ub (cl.getD j 0) σ.ed,NY os (cl.getD j 0) σ.gx σ.done,c8 (σ.done ^^^ σ.bL) (cl.getD j 0))=(false,false,true,false,false,true,true,true))
  (hw:cC os s o=some true) (hE:ua P O s o p fr' tk' T loud) (hcan:s.can o.dst=true)
  (h:PD P O os cl base js ⟨σ.done ||| 2 ^ j,σ.done ||| 2 ^ j,σ.gx ||| cl.getD j 0,fm j T loud σ.ed⟩ ((s.mem fr' tk').dF o.dst p) Q):PD P O os cl base (j :: js) σ s Q:=by
 simp only[Prod.mk.injEq] at hq;obtain⟨hf,hd,hc,rz,AE,hnw,Bo,hl⟩:=hq;exact PD.ke ho hf hd hc rz AE hl hnw Bo hw hE hcan h
variable {d:Option Tmp} {ty:TypeId} {pst:String} {af:Array Edge} {gu:Option (Nat×Bool)}
theorem Dr {t:TypeId} {x y:Operand} {k off n:Nat} {R:aJ} {p:PV} (Y:s.ev x=some (.ptr k off)) (hy:s.ev y=some p) (hn:bD P t=.ok n) (hl:Nat.beq p.cells.length n=true) (yP:s.fr[k]? = some R) (U:p.cells.all PV.plain=true)
  (hb:QQ R (off+p.cells.length)=true):ua P O s ⟨d,.store t x y,ty,pst,af,gu⟩ (.fX []) (s.fr.set k ⟨R.esz,iw R.cells off p.cells⟩) s.tk [k] false:=
 ⟨rfl,λ C e a H G=>by
  obtain⟨id,r',B,D,V⟩:=Ak (O:=O) (d:=d) (ty:=ty) (pst:=pst) (af:=af) (gu:=gu) Y hy hn hl yP U hb G;refine⟨0,undef,_,e,D,V,sB,λ k' qF lF DM=>?_,λ _ qF cI=>?_⟩
  ·rw[AH.bS,if_neg (λ e1=>DM (by subst e1; rw[G.h.dz.rnd k' k qF lF B]; simp))]
  ·rw[AH.bS,if_neg (λ e1=>by subst e1; exact cI k (by simp) B)]⟩
theorem Ar {e:cz} {fr:List aJ} {tk:List Nat} {H:AH} (hI:gN e fr tk H) (r:Row) {k id:Nat} (hk:e.aY[k]? = some id):(H.push r).get id=H.get id:=by
 rw[AH.cM,if_neg (λ e1=>hI.nR (by rw[<- e1]; exact List.mem_of_getElem? hk))]
theorem Hi {t:TypeId} {x:Operand} {p:PV} (h:s.ev x=some p):ua P O s ⟨d,.box t x,ty,pst,af,gu⟩ (.ptr s.fr.length 0) (s.fr++[⟨0,p.cells⟩]) s.tk [] true:=
 ⟨rfl,λ C e a H G=>by
  obtain⟨v,B,D⟩:=G.ev h;have st:=vw G.h.dz D.cells t 0 (by decide);refine⟨0,.pointer (some ⟨H.next,0,none⟩),_,_,?_,st,.ptr ?_,λ k id hk _=>Ar G.h.dz _ hk,λ h=>by cases h⟩
  ·simp only[b9,az.aL B,bind,Except.bind,newRow,AH.jv]; rfl
  ·rw[<- G.h.dz.dY]; exact da⟩
theorem vW {t:TypeId} {len sz:Nat} {bH:Array (Nat×Operand)} {l:List (List PV)} (h:uY P s t len bH.toList=some (sz,l)):ua P O s ⟨d,.buildSlice t len bH,ty,pst,af,gu⟩ (.aS sz l (some s.tk.length)) s.fr (s.tk++[l.length]) [] true:=
 ⟨rfl,λ C e a H G=>by
  unfold uY at h;cases ht:P.underlying t with
  | none=>rw[ht] at h; cases h
  | some ag=>
   rw[ht] at h;cases ag with
   | slice elem=>
    simp only at h;cases mo:oD s bH.toList with
    | none=>rw[mo] at h; cases h
    | some ps=>
     cases hs:bD P elem with
     | error n=>rw[mo,hs] at h; cases h
     | ok size=>
      cases hz:eB P elem with
      | error n=>rw[mo,hs,hz] at h; cases h
      | ok zs=>
       rw[mo,hs,hz] at h;obtain⟨hle,h⟩:=bm h;obtain⟨kN,h⟩:=bm h;cases hf:rR (λ i=>some (i * size,size)) ((ba zs len).map .val) ps with
       | none=>rw[hf] at h; cases h
       | some cells=>
        rw[hf] at h;simp only at h;cases mc:A6 cells with
        | none=>rw[mc] at h; cases h
        | some cs=>
         rw[mc] at h;obtain⟨kM,h⟩:=bm h;cases h;obtain⟨vs,B,D⟩:=G.bH mo;obtain⟨r,k1,k2⟩:=sQ ps vs _ (ba zs len).toArray _ D (qj (mF kN len)) hf;obtain⟨k3,k4⟩:=sR k2 mc;have Uw:=uw (n:=len) k3 k4 (Nat.eq_of_beq_eq_true kM);obtain⟨st,rv⟩:=BM G.h.dz G.h.xc Uw elem;rw[Nat.ble_eq] at hle;have I6:¬ len * sz > 16777216:=by omega
         refine⟨0,_,_,_,?_,st,rv,λ k id hk _=>Ar G.h.dz _ hk,λ h=>by cases h⟩;simp only[b9,ht];rw[B];simp only[bind,Except.bind,hs,if_neg I6,hz,k1,newRow,AH.jv,mO];rfl
   | _=>cases h⟩
theorem tJ {α:Type} {L M L2:List α} {f:α->List PV} {t u el sz bytes k n:Nat} {x y:Operand} {zs:List Value} {l m:List (List PV)} {AS:Option Nat} (ht:P.underlying t=some (.slice el)) (hu:m9 P (some u)=.ok false) (hs:bD P el=.ok sz) (hb:jJ P el=.ok bytes) (hz:eB P el=.ok zs) (ym:Nat.beq sz 0=false) (mG:Nat.beq bytes 0=false)
  (Y:s.ev x=some (.aS sz l (some k))) (hl:l=L.map f) (hy:s.ev y=some (.aS sz m AS)) (hm:m=M.map f) (hn:s.tk[k]? = some n) (KK:L.length=n) (th:(5 * (L.length+M.length)+768) * bytes<=1125899906842624) (D:L++M=L2) :
  ua P O s ⟨d,.call ⟨.builtin .append,#[x,y],#[t,u]⟩,ty,pst,af,gu⟩ (.aS sz (L2.map f) (some k)) s.fr (s.tk.set k L2.length) [] true:=by
 subst hl; subst hm; subst D;refine⟨rfl,λ C e a H G=>?_⟩;obtain⟨v,k1,k2⟩:=G.ev Y;obtain⟨w,k3,k4⟩:=G.ev hy;obtain⟨new,m1,m2⟩:=lD k4 hs;obtain⟨e',H',v',a1,Z,a3,a4⟩:=BN G.h.dz G.h.xc ht hu hs hb hz ym mG k2 (by rw[List.length_map,KK]; exact hn) m1 m2 (by simpa using th);have e1:(L.map f).length+(M.map f).length=(L++M).length:=by simp
 have e2:L.map f++M.map f=(L++M).map f:=by rw[List.map_append]
 rw[e1] at Z a3;rw[e2] at a3;exact⟨0,v',H',e',by simp only[b9,eU,az.aL k1,az.aL k3,bind,Except.bind,a1],Z,a3,λ k id hk _=>a4 k id hk,λ h=>by cases h⟩
theorem PD.call {aa:FuncId} {xs:Array Operand} {xU:Array TypeId} {args eb:List PV} {ks ts:List Nat} {fr1:List aJ} {Qf:PV->List aJ->List Nat->Prop} (ho:os[j]? = some o) (s9:o.op=.call ⟨.value (.func aa),xs,xU⟩) (hq:(bP o,σ.done.testBit j,c8 (cl.getD j 0) σ.done,eJ P o.op,fC o.op,ub (cl.getD j 0) σ.ed,NY os (cl.getD j 0) σ.gx σ.done,c8 (σ.done ^^^ σ.bL) (cl.getD j 0))=(false,false,true,false,false,true,true,true))
  (hw:cC os s o=some true) (Y:tL s xs.toList=some args) (hc:s.can o.dst=true) (hk:dZ 0 s.fr.length ks=true) (ht:dZ 0 s.tk.length ts=true) (ha:cr (PV.to (fL ks) (fL ts) 4) args=some eb) (jj:iG s.fr ks ts ks fr1) (hf:PF P O aa eb fr1 (bY s.tk ts) Qf)
  (h:vb s ks ts Qf (λ p fr tk=>PD P O os cl base js ⟨σ.done ||| 2 ^ j,σ.done ||| 2 ^ j,σ.gx ||| cl.getD j 0,fm j ks true σ.ed⟩ ((s.mem fr tk).dF o.dst p) Q)):PD P O os cl base (j :: js) σ s Q:=λ lo n ps C e a m jW G=>by
 obtain⟨vs,B,D⟩:=G.fc.tL Y;obtain⟨n1,v,H',k1,e',p,fr',tk',k2,k3,k4,k5⟩:=pC G.fc D hk ht ha jj hf h;have acm:b9 P (bF P O n1) a (m.dy σ.done ps) o=.ok (v,H'):=by
  obtain⟨d,op,ty,pst,af,gu⟩:=o;simp only at s9;subst s9;have e0:(#[] : Array Value).toList++vs++(#[] : Array Value).toList=vs:=by simp
  simp only[b9,B,az.eval,bind,Except.bind,e0,k1]
 simp only[Prod.mk.injEq] at hq;obtain⟨DG,hd,kM,rz,AE,hnw,Bo,hl⟩:=hq;refine PD.BU (T:=ks) (loud:=true) ho DG hd kM rz AE hl hnw Bo hw (by rw[s9]; rfl) G ⟨n1,v,H',e',acm,k2,k3,λ k id Jc DM=>k5 k id Jc ?_,λ h=>by cases h⟩ hc k4;cases N:fL ks k with
 | none=>rfl
 | some i=>exact absurd (List.mem_of_getElem? (iV N)) DM
def Mn (P:Program) (os:List Oper) (cl:List Nat) (j:Nat) (o:Oper) (σ:DC):Bool:=!σ.done.testBit j && c8 (cl.getD j 0) σ.done
def zD (P:Program) (os:List Oper) (cl:List Nat) (j:Nat) (o:Oper) (σ:DC):Bool:=!eJ P o.op && (!fC o.op && (ub (cl.getD j 0) σ.ed && (NY os (cl.getD j 0) σ.gx σ.done && c8 (σ.done ^^^ σ.bL) (cl.getD j 0))))
def DC.qZ (σ:DC) (j:Nat):DC:=⟨σ.done ||| 2 ^ j,σ.bL,σ.gx,σ.ed⟩
def DC.ke (σ:DC) (j c:Nat) (T:List Nat) (loud:Bool):DC:=⟨σ.done ||| 2 ^ j,σ.done ||| 2 ^ j,σ.gx ||| c,fm j T loud σ.ed⟩
def GI (P:Program) (s:PS):Op->Option PV
 | .build t bH=>zC P s t bH.toList
 | op=>iq P s op
theorem J3 {p:PV} (h:GI P s o.op=some p):cX P O s o p:=by
 have gen:iq P s o.op=some p->cX P O s o p:=λ h=>
  let ⟨B,D⟩:=qx (O:=O) h
  ⟨B,λ C e a H G=>let ⟨v,k1,k2⟩:=D C e a H G; ⟨0,v,k1,k2⟩⟩
 obtain⟨d,op,ty,ps,af,gu⟩:=o;cases op with
 | build t bH=>exact EN h
 | _=>exact gen h
def HO (P:Program) (os:List Oper) (cl:List Nat) (base j:Nat) (o:Oper) (σ:DC) (s:PS):Option (DC×PS):=
 match cC os s o with
 | some true=>pick (Mn P os cl j o σ && s.can o.dst) (match bP o with
  | true=>(match o.op with
   | .alloc t=>(match eB P t with
    | .ok zs=>pick (zs.all bu && !σ.gx.testBit j) (some (σ.qZ j,(s.mem (s.fr++[⟨0,zs.map .val⟩]) s.tk).dF o.dst (.ptr s.fr.length 0))) none
    | .error _=>none)
   | .buildSlice t len bH=>(match uY P s t len bH.toList with
    | some (sz,l)=>pick (!σ.gx.testBit j) (some (σ.qZ j,(s.mem s.fr (s.tk++[l.length])).dF o.dst (.aS sz l (some s.tk.length)))) none
    | none=>none)
   | _=>none)
  | false=>(match eJ P o.op with
   | true=>(match GI P s o.op with
    | some p=>some (σ.qZ j,s.dF o.dst p)
    | none=>none)
   | false=>(match o.op with
    | .load t x=>(match s.ev x with
     | some q=>(match nT P s.fr t q with
      | some p=>pick (p.Ta && (Pk base (cl.getD j 0) q σ.ed (Es os σ.done) && (NY os (cl.getD j 0) σ.gx σ.done || Xc base q))) (some (σ.qZ j,s.dF o.dst p)) none
      | none=>none)
     | none=>none)
    | .store t x y=>(match s.ev x,s.ev y,bD P t with
     | some (.ptr k off),some p,.ok n=>(match s.fr[k]? with
      | some R=>pick (zD P os cl j o σ && (Nat.beq p.cells.length n && (p.cells.all PV.plain && QQ R (off+p.cells.length)))) (some (σ.ke j (cl.getD j 0) [k] false,(s.mem (s.fr.set k ⟨R.esz,iw R.cells off p.cells⟩) s.tk).dF o.dst (.fX []))) none
      | none=>none)
     | _,_,_=>none)
    | .box t x=>(match s.ev x with
     | some p=>pick (zD P os cl j o σ) (some (σ.ke j (cl.getD j 0) [] true,(s.mem (s.fr++[⟨0,p.cells⟩]) s.tk).dF o.dst (.ptr s.fr.length 0))) none
     | none=>none)
    | .buildSlice t len bH=>(match uY P s t len bH.toList with
     | some (sz,l)=>pick (zD P os cl j o σ) (some (σ.ke j (cl.getD j 0) [] true,(s.mem s.fr (s.tk++[l.length])).dF o.dst (.aS sz l (some s.tk.length)))) none
     | none=>none)
    | _=>none))) none
 | some false=>pick (Mn P os cl j o σ && (s.can o.dst && !bP o)) (match eJ P o.op || fC o.op with
  | true=>some (σ.qZ j,s.dF o.dst (.fX []))
  | false=>pick (zD P os cl j o σ) (some (σ.ke j (cl.getD j 0) [] false,s.dF o.dst (.fX []))) none) none
 | _=>none
theorem kg {a b:Bool} (h:(a && b)=true):a=true/\b=true:=by simpa using h
theorem xx {a:Bool} (h:(!a)=true):a=false:=by simpa using h
theorem NB {Fz:DC} {s':PS} (ho:os[j]? = some o) (h:HO P os cl base j o σ s=some (Fz,s')) (hq:PD P O os cl base js Fz s' Q):PD P O os cl base (j :: js) σ s Q:=by
 unfold HO at h;cases hw:cC os s o with
 | none=>rw[hw] at h; cases h
 | some b=>
  cases b with
  | false=>
   rw[hw] at h;obtain⟨B,h⟩:=bm h;obtain⟨hqb,B⟩:=kg B;obtain⟨hcan,mH⟩:=kg B;obtain⟨hd,hc⟩:=kg hqb;have hd:=xx hd;have hf:=xx mH;cases Vv:eJ P o.op || fC o.op with
   | true=>rw[Vv] at h; cases h; exact PD.XT ho hf hd hc Vv hw hcan hq
   | false=>
    rw[Vv] at h;obtain⟨hb,h⟩:=bm h;obtain⟨b1,b2⟩:=kg hb;obtain⟨b3,b4⟩:=kg b2;obtain⟨b5,b6⟩:=kg b4;obtain⟨b7,b8⟩:=kg b6;cases h;exact PD.XS ho hf hd hc (xx b1) (xx b3) b8 b5 b7 hw hcan hq
  | true=>
   rw[hw] at h;obtain⟨B,h⟩:=bm h;obtain⟨hqb,hcan⟩:=kg B;obtain⟨hd,hc⟩:=kg hqb;have hd:=xx hd;cases hf:bP o with
   | true=>
    rw[hf] at h;have hg:o.guard=none:=by
     unfold bP at hf;split at hf
     ·assumption
     ·assumption
     ·cases hf
    have h':(match o.op with
     | .alloc t=>(match eB P t with
      | .ok zs=>pick (zs.all bu && !σ.gx.testBit j) (some (σ.qZ j,(s.mem (s.fr++[⟨0,zs.map .val⟩]) s.tk).dF o.dst (.ptr s.fr.length 0))) none
      | .error _=>none)
     | .buildSlice t len bH=>(match uY P s t len bH.toList with
      | some (sz,l)=>pick (!σ.gx.testBit j) (some (σ.qZ j,(s.mem s.fr (s.tk++[l.length])).dF o.dst (.aS sz l (some s.tk.length)))) none
      | none=>none)
     | _=>none)=some (Fz,s'):=h
    cases s9:o.op with
    | alloc t=>
     rw[s9] at h';simp only at h';cases hz:eB P t with
     | error n=>rw[hz] at h'; cases h'
     | ok zs=>
      rw[hz] at h';obtain⟨D,V⟩:=bm h';obtain⟨h4,h5⟩:=kg D;cases V;exact PD.float ho s9 hg hd hc hz h4 (xx h5) hcan hq
    | buildSlice t len bH=>
     rw[s9] at h';simp only at h';cases hz:uY P s t len bH.toList with
     | none=>rw[hz] at h'; cases h'
     | some r=>
      obtain⟨sz,l⟩:=r;rw[hz] at h';obtain⟨D,V⟩:=bm h';cases V;exact PD.TW ho s9 hg hd hc hz (xx D) hcan hq
    | _=>rw[s9] at h'; cases h'
   | false=>
    rw[hf] at h;cases rz:eJ P o.op with
    | true=>
     rw[rz] at h;simp only at h;cases U:GI P s o.op with
     | none=>rw[U] at h; cases h
     | some p=>rw[U] at h; cases h; exact PD.tD ho (by rw[hf,hd,hc,rz]) hw (J3 U) hcan hq
    | false=>
     rw[rz] at h;have ke:∀ {p:PV} {fr':List aJ} {tk':List Nat} {T:List Nat} {loud:Bool},zD P os cl j o σ=true->ua P O s o p fr' tk' T loud->PD P O os cl base js (σ.ke j (cl.getD j 0) T loud) ((s.mem fr' tk').dF o.dst p) Q->PD P O os cl base (j :: js) σ s Q:=λ hb hE hq=>by
      obtain⟨_,b2⟩:=kg hb;obtain⟨b3,b4⟩:=kg b2;obtain⟨b5,b6⟩:=kg b4;obtain⟨b7,b8⟩:=kg b6;exact PD.ke ho hf hd hc rz (xx b3) b8 b5 b7 hw hE hcan hq
     obtain⟨d,op,ty,pst,af,gu⟩:=o;simp only at h;cases op with
     | load t x=>
      simp only at h;cases Y:s.ev x with
      | none=>rw[Y] at h; cases h
      | some q=>
       rw[Y] at h;simp only at h;cases hl:nT P s.fr t q with
       | none=>rw[hl] at h; cases h
       | some p=>
        rw[hl] at h;obtain⟨D,V⟩:=bm h;obtain⟨h4,h5⟩:=kg D;obtain⟨h6,h7⟩:=kg h5;cases V;exact PD.load ho rfl hd hc h7 hw Y hl h6 h4 hcan hq
     | store t x y=>
      simp only at h;cases Y:s.ev x with
      | none=>rw[Y] at h; cases h
      | some q=>
       cases hy:s.ev y with
       | none=>rw[Y,hy] at h; cases q <;> cases h
       | some p=>
        cases hn:bD P t with
        | error n=>rw[Y,hy,hn] at h; cases q <;> cases h
        | ok n=>
         rw[Y,hy,hn] at h;cases q with
         | ptr k off=>
          simp only at h;cases hk:s.fr[k]? with
          | none=>rw[hk] at h; cases h
          | some R=>
           rw[hk] at h;obtain⟨D,V⟩:=bm h;obtain⟨h4,h5⟩:=kg D;obtain⟨h6,h7⟩:=kg h5;obtain⟨h8,h9⟩:=kg h7;cases V;exact ke h4 (Dr Y hy hn h6 hk h8 h9) hq
         | _=>cases h
     | box t x=>
      simp only at h;cases Y:s.ev x with
      | none=>rw[Y] at h; cases h
      | some p=>
       rw[Y] at h;obtain⟨D,V⟩:=bm h;cases V;exact ke D (Hi Y) hq
     | buildSlice t len bH=>
      simp only at h;cases hb:uY P s t len bH.toList with
      | none=>rw[hb] at h; cases h
      | some r=>
       obtain⟨sz,l⟩:=r;rw[hb] at h;obtain⟨D,V⟩:=bm h;cases V;exact ke D (vW hb) hq
     | _=>cases h
def VH (P:Program) (os:List Oper) (cl:List Nat) (base:Nat):Nat->List Nat->DC->PS->Option (List Nat×DC×PS)
 | 0,js,σ,s=>some (js,σ,s)
 | _+1,[],σ,s=>some ([],σ,s)
 | m+1,j :: js,σ,s=>match os[j]? with
  | some o=>match HO P os cl base j o σ s with
   | some (Fz,s')=>VH P os cl base m js Fz s'
   | none=>none
  | none=>none
theorem PD.run (m:Nat):∀ {js NZ:List Nat} {σ Fz:DC} {s s':PS},VH P os cl base m js σ s=some (NZ,Fz,s')->PD P O os cl base NZ Fz s' Q->PD P O os cl base js σ s Q:=by
 induction m with
 | zero=>intro js NZ σ Fz s s' h hq; cases h; exact hq
 | succ m ih=>
  intro js NZ σ Fz s s' h hq;cases js with
  | nil=>cases h; exact hq
  | cons j js=>
   simp only[VH] at h;cases ho:os[j]? with
   | none=>rw[ho] at h; cases h
   | some o=>
    rw[ho] at h;simp only at h;cases hs:HO P os cl base j o σ s with
    | none=>rw[hs] at h; cases h
    | some r=>
     obtain⟨σ1,s1⟩:=r;rw[hs] at h;exact NB ho hs (ih h hq)
def Le (s:PS):Nat×PV->Option PV:=λ(t,_)=>s.tm.get t
theorem ES {s:PS} : ∀ {es:List (Nat×PV)},cr (Le s) es=some (es.map Prod.snd)->∀ t p,(t,p)∈es->s.tm.get t=some p
 | [],_,t,p,h=>by simp at h
 | (t0,p0) :: l,h,t,p,hm=>by
  simp only[cr] at h;cases B:Le s (t0,p0) with
  | none=>rw[B] at h; cases h
  | some q=>
   rw[B] at h;cases D:cr (Le s) l with
   | none=>rw[D] at h; cases h
   | some qs=>
    rw[D] at h;simp only[List.map_cons,Option.some.injEq,List.cons.injEq] at h;obtain⟨rfl,rfl⟩:=h;rcases List.mem_cons.1 hm with e1 | hm
    ·cases e1; exact B
    ·exact ES D t p hm
theorem PD.aX {es:List (Nat×PV)} (h:cr (Le s) es=some (es.map Prod.snd)) (hq:PD P O os cl base js σ (PS.mS s.ms s.n es s.fr s.tk s.r0 s.t0) Q):PD P O os cl base js σ s Q:=λ lo n ps C e a m jW G=>
 hq lo n ps C e a m jW ⟨⟨G.fc.h,G.fc.n,G.fc.bn,G.fc.r0,G.fc.t0,λ t p ht=>G.fc.tm t p (ES h t p (ni es t p ht))⟩,G.gx,G.pd,G.all,G.lo,G.N,G.jo,G.Je,G.tok,G.sub,G.bs,G.Jf,G.len,G.ct⟩
def Td (P:Program) (os:List Oper) (cl:List Nat) (base m:Nat) (js:List Nat) (σ:DC) (s:PS) (es:List (Nat×PV)):Option (List Nat×DC×Nat×Nat×Nat×List (Option Tmp)×Option (List PV)×List aJ×List Nat):=
 match VH P os cl base m js σ s with
 | some (js1,σ1,s1)=>some (js1,σ1,s1.n,s1.r0,s1.t0,s1.ms,cr (Le s1) es,s1.fr,s1.tk)
 | none=>none
theorem PD.runK (m:Nat) {NZ:List Nat} {Fz:DC} {es:List (Nat×PV)} {fr':List aJ} {tk':List Nat} (h:Td P os cl base m js σ s es=some (NZ,Fz,s.n,s.r0,s.t0,s.ms,some (es.map Prod.snd),fr',tk')) (hq:PD P O os cl base NZ Fz (PS.mS s.ms s.n es fr' tk' s.r0 s.t0) Q):PD P O os cl base js σ s Q:=by
 unfold Td at h;cases hd:VH P os cl base m js σ s with
 | none=>rw[hd] at h; cases h
 | some r=>
  obtain⟨js1,σ1,s1⟩:=r;rw[hd] at h;simp only[Option.some.injEq,Prod.mk.injEq] at h;obtain⟨rfl,rfl,e1,e2,e3,e5,e4,rfl,rfl⟩:=h;refine PD.run m hd (PD.aX e4 ?_);rw[e1,e2,e3,e5];exact hq
theorem PD.done {rnd:Option Nat} {z:Code} {Q:AX->PS->Prop} (ks ts:List Nat) {es:List (Nat×PV)} {fr':List aJ} {tk':List Nat} (hd:σ.done=2 ^ os.length - 1) (h:(s.n,s.r0,s.t0,dZ s.r0 s.fr.length ks,dZ s.t0 s.tk.length ts,bY s.tk ts,cr (nK s ks ts) ks,cr (A8 s ks ts) es)=(s.n,s.r0,s.t0,true,true,tk',some fr',some (es.map Prod.snd)))
  (hq:PC P O rnd z (PS.mS s.ms s.n es fr' tk' s.r0 s.t0) Q):PD P O os cl base [] σ s (λ s1=>PC P O rnd z s1 Q):=by
 refine PD.nil hd (PC.gb (bc.one ks ts ?_) hq);simp only[Prod.mk.injEq] at h ⊢;exact h.2.2.2
end rules
end
end Go.cy
namespace Go.cy
noncomputable section
variable {P:Program} {O:ia} {s:PS}
theorem s7 {d:Option Tmp} {ty:TypeId} {pst:String} {af:Array Edge} {gu:Option (Nat×Bool)} {op:BinOp} {t t2:TypeId} {x y:Operand} {a b:Bool} (f:Bool->Bool->Bool) (Y:s.ev x=some (.val (.bool a))) (hy:s.ev y=some (.val (.bool b)))
  (h0:iA P op t x y (.bool false) (.bool false)=.ok (.bool (f false false))) (B:iA P op t x y (.bool false) (.bool true)=.ok (.bool (f false true))) (D:iA P op t x y (.bool true) (.bool false)=.ok (.bool (f true false))) (V:iA P op t x y (.bool true) (.bool true)=.ok (.bool (f true true))):cX P O s ⟨d,.binOp op t x y t2,ty,pst,af,gu⟩ (.val (.bool (f a b))):=
 .DK rfl λ C e a' H G=>by
  have hv:iA P op t x y (.bool a) (.bool b)=.ok (.bool (f a b)):=by cases a <;> cases b <;> assumption
  obtain⟨u,B,D⟩:=G.ev Y;obtain⟨w,V,h4⟩:=G.ev hy;have e1:=D.bA; subst e1;have e2:=h4.bA; subst e2;exact⟨0,.bool (f a b),by simp only[b9,az.aL B,az.aL V,bind,Except.bind,dq,hv,Bool.false_eq_true,if_false],.val rfl⟩
end
end Go.cy
namespace Go.cy
noncomputable section
variable {P:Program}
def mV:cz:=⟨[],[],λ _ _ _=>True⟩
theorem acn {W:World} {l:List (Row×Pl)} (h:∀ x∈l,Cg (g9 l) W x.1 x.2):gN mV [] [] (cZ l):=by
 have hn:(cZ l).next=l.length:=by unfold cZ; rw[om l 0 _ rfl]; omega
 refine⟨⟨λ id o ho=>?_,λ id r hr=>?_,λ id qF r r' hr _ _ gG _ _=>?_⟩,rfl,λ i j id N=>?_,λ k id R hk=>?_,rfl,λ t t' τ fG ht=>?_,λ t τ ht=>?_,λ t τ ht=>?_⟩
 ·rw[iK] at ho;cases Y:l[id]? with
  | none=>rw[Y] at ho; cases ho
  | some x=>rw[hn]; exact ax Y
 ·rw[iK] at hr;cases Y:l[id]? with
  | none=>rw[Y] at hr; cases hr
  | some x=>
   rw[Y] at hr;cases hr;rw[(h x (List.mem_of_getElem? Y)).aU,hn];have:=ax Y;omega
 ·rw[iK] at hr;cases Y:l[id]? with
  | none=>rw[Y] at hr; cases hr
  | some x=>
   rw[Y] at hr;cases hr;rw[(h x (List.mem_of_getElem? Y)).ro] at gG; cases gG
 ·simp[mV] at N
 ·simp[mV] at hk
 ·simp[mV] at ht
 ·simp[mV] at ht
 ·simp[mV] at ht
theorem xc0 (H:AH):XC mV H:=⟨λ _ _ _ _ _=>trivial,λ _ _ _ _ _ _=>trivial⟩
theorem TX {O:ia} (hO:I4 P O) {W:World} {l:List (Row×Pl)} (h:∀ x∈l,Cg (g9 l) W x.1 x.2) {vs:List Value} {args:Array Value} (ha:LR (g9 l) vs args.toList) {f:FuncId} {ps:List PV}
  (U:PF P O f ps [] [] (λ p fr tk=>p=.val (.bool true)/\fr=[]/\tk=[])) (hv:L2 (RV mV [] (cZ l) true) ps vs):Calls P f args W (λ e w'=>e=.returned (.bool true)/\yc W w'):=by
 obtain⟨n,v,H',B,e',fr',tk',p,_,D,rfl,_,_⟩:=U mV (cZ l) vs (acn h) (xc0 _) hv;cases D;exact Fl hO h ha B
section aY
variable {α:Type} {enc:α->List Value} {sz:Nat}
end aY
end
end Go.cy
namespace Go.cy.Br
noncomputable section
variable {P:Program}
abbrev FA:=List (Row×Pl)
def uK (W:World) (l:FA):Prop:=∀ x∈l,Cg (g9 l) W x.1 x.2
theorem s8 {l m:FA} : (g9 l).le (g9 (l++m)):=by
 intro id pl h;unfold g9 at h ⊢;rw[Option.map_eq_some_iff] at h;obtain⟨x,Y,rfl⟩:=h;rw[List.getElem?_append_left (ax Y),Y]; rfl
theorem BV {ρ db:cx} {W:World} {r:Row} {pl:Pl} (h:ρ.le db) (x:Cg ρ W r pl):Cg db W r pl:=by
 refine⟨x.ro,x.aU,x.bJ,x.cW,x.lt,?_⟩;obtain⟨B,D,V,h4⟩:=x.or;exact⟨B,D,λ j X=>by obtain⟨v',a,b,c⟩:=V j X; exact⟨v',a,λ v hv=>(b v hv).mono h,c⟩,h4⟩
theorem uK.nil {W:World} : uK W []:=λ x Y=>by cases Y
theorem uK.aco {W:World} {l:FA} {x:Row×Pl} (h:uK W l) (Y:Cg (g9 l) W x.1 x.2):uK W (l++[x]):=by
 intro y hy;rcases List.mem_append.1 hy with hy | hy
 ·exact BV s8 (h y hy)
 ·obtain rfl:y=x:=by simpa using hy
  exact BV s8 Y
theorem ll (l:FA):(cZ l).next=l.length:=by unfold cZ; rw[om l 0 _ rfl]; omega
theorem J4 {l m:FA} {id:Nat} {o:AO} (h:(cZ l).get id=some o):(cZ (l++m)).get id=some o:=by
 rw[iK] at h ⊢;rw[Option.map_eq_some_iff] at h;obtain⟨x,Y,rfl⟩:=h;rw[List.getElem?_append_left (ax Y),Y]; rfl
theorem zU {l m:FA} : Grow mV [] (cZ l) mV [] (cZ (l++m)):=by
 refine⟨by rw[ll,ll,List.length_append]; omega,λ k id h=>h,λ id aU en _ h=>?_,λ id r n hr _=>⟨r,J4 hr,Meta.refl r,λ _ _=>rfl⟩,λ k n h=>by simp at h,λ k τ ht=>by simp[mV] at ht⟩;have B:=h.lt;have D:=h.we;rw[ll] at B D;exact⟨by rw[ll,List.length_append]; omega,by rw[ll,List.length_append]; omega,trivial,by simp[mV],λ t τ n ht=>by simp[mV] at ht⟩
def sK (W:World) (l:FA) (ps:List PV) (cs:List Value):Prop:=
 ∃ m vs,uK W (l++m)/\LR (g9 (l++m)) vs cs/\L2 (RV mV [] (cZ (l++m)) false) ps vs
theorem sK.nil {W:World} {l:FA} (h:uK W l):sK W l [] []:=⟨[],[],by rw[List.append_nil]; exact h,LR.nil _,L2.nil⟩
theorem sK.append {W:World} {l:FA} {ps qs:List PV} {cs ds:List Value} (h:sK W l ps cs) (h':∀ l,uK W l->sK W l qs ds):sK W l (ps++qs) (cs++ds):=by
 obtain⟨m,vs,B,D,V⟩:=h;obtain⟨n,us,h4,h5,h6⟩:=h' _ B;refine⟨m++n,vs++us,by rw[<- List.append_assoc]; exact h4,?_,?_⟩
 ·rw[<- List.append_assoc]; exact(D.mono s8).append h5
 ·rw[<- List.append_assoc]; exact(V.mono λ _ _ h=>h.grow zU).append h6
theorem sK.len {W:World} {l:FA} {ps:List PV} {cs:List Value} (h:sK W l ps cs):ps.length=cs.length:=by
 obtain⟨m,vs,B,D,V⟩:=h;rw[V.1,D.1]
theorem sK.lit {W:World} {l:FA} {v:Value} (h:uK W l) (U:bu v=true) (hv:VR (g9 l) v v):sK W l [.val v] [v]:=
 ⟨[],[v],by rw[List.append_nil]; exact h,by rw[List.append_nil]; exact(LR.nil _).cons hv,L2.cons (.val U) L2.nil⟩
structure xk (P:Program) (t:TypeId) {α:Type} (c:α->List PV) (ok:α->Prop):Prop where
 get:∀ {H:Type} (enc:TypeId×Value->H) (W:World) (fuel:Nat) (cs:List Value) (x:DataW H×List MemPlace),DataW.trod enc P W 0 (λ _=>true) true fuel t cs=some x->(∀ a n k,Value.slice (some a) n k∈cs->0 < W.heap.size) ->
  ∃ y,ok y/\(c y).all PV.plain=true/\∀ l,uK W l->sK W l (c y) cs
theorem xk.map {t:TypeId} {α β:Type} {c:α->List PV} {ok:α->Prop} {d:β->List PV} {VI:β->Prop} (h:xk P t c ok) (f:α->β) (hc:∀ y,d (f y)=c y) (DJ:∀ y,ok y->VI (f y)):xk P t d VI:=by
 refine⟨λ {H} enc W fuel cs x Y hs=>?_⟩;obtain⟨y,B,D,V⟩:=h.get enc W fuel cs x Y hs;exact⟨f y,DJ y B,by rw[hc]; exact D,λ l hl=>by rw[hc]; exact V l hl⟩
section lits
variable {H:Type} {enc:TypeId×Value->H} {W:World} {base:Nat} {sp:Nat->Bool} {hd:Bool}
theorem NC {fuel:Nat} {t:TypeId} {k:IntKind} {cs:List Value} {x:DataW H×List MemPlace} (ht:P.underlying t=some (.int k)) (h:DataW.trod enc P W base sp hd fuel t cs=some x):∃ n,cs=[.int k n]/\(Lit.int k n).wf=true:=by
 cases fuel with
 | zero=>simp[DataW.trod] at h
 | succ fuel=>
  rcases cs with _ | ⟨c,_ | ⟨c2,l⟩⟩
  ·simp[DataW.trod,ht] at h
  ·cases c <;> simp[DataW.trod,ht] at h;exact⟨_,by rw[h.1.1],h.1.2⟩
  ·simp[DataW.trod,ht] at h
theorem J5 {fuel:Nat} {t:TypeId} {cs:List Value} {x:DataW H×List MemPlace} (ht:P.underlying t=some .bool) (h:DataW.trod enc P W base sp hd fuel t cs=some x):∃ b,cs=[.bool b]:=by
 cases fuel with
 | zero=>simp[DataW.trod] at h
 | succ fuel=>
  rcases cs with _ | ⟨c,_ | ⟨c2,l⟩⟩
  ·simp[DataW.trod,ht] at h
  ·cases c <;> simp[DataW.trod,ht] at h;exact⟨_,rfl⟩
  ·simp[DataW.trod,ht] at h
theorem ND {fuel:Nat} {t:TypeId} {cs:List Value} {x:DataW H×List MemPlace} (ht:P.underlying t=some .string) (h:DataW.trod enc P W base sp hd fuel t cs=some x):∃ s,cs=[.string s]/\s.size<=maxLen:=by
 cases fuel with
 | zero=>simp[DataW.trod] at h
 | succ fuel=>
  rcases cs with _ | ⟨c,_ | ⟨c2,l⟩⟩
  ·simp[DataW.trod,ht] at h
  ·cases c <;> simp[DataW.trod,ht] at h;exact⟨_,rfl,h.1⟩
  ·simp[DataW.trod,ht] at h
end lits
theorem xk.int {t:TypeId} {k:IntKind} (ht:P.underlying t=some (.int k)):xk P t (λ n=>[.val (.int k n)]) (λ n=>(Lit.int k n).wf=true):=by
 refine⟨λ {H} enc W fuel cs x Y _=>?_⟩;obtain⟨n,rfl,h⟩:=NC ht Y;exact⟨n,h,rfl,λ l hl=>sK.lit hl rfl (.int _ _)⟩
theorem xk.bool {t:TypeId} (ht:P.underlying t=some .bool):xk P t (λ b=>[.val (.bool b)]) (λ _=>True):=by
 refine⟨λ {H} enc W fuel cs x Y _=>?_⟩;obtain⟨n,rfl⟩:=J5 ht Y;exact⟨n,trivial,rfl,λ l hl=>sK.lit hl rfl (.bool _)⟩
theorem xk.str {t:TypeId} (ht:P.underlying t=some .string):xk P t (λ s=>[.val (.string s)]) (λ s=>s.size<=maxLen):=by
 refine⟨λ {H} enc W fuel cs x Y _=>?_⟩;obtain⟨n,rfl,h⟩:=ND ht Y;exact⟨n,h,rfl,λ l hl=>sK.lit hl rfl (.string _)⟩
theorem vz {α β:Type} {f:α->Option β} : ∀ {l:List α} {r:List β},l.mapM f=some r->∀ x∈l,∃ y,f x=some y
 | [],_,_,x,h=>by cases h
 | z :: l,r,h,x,Y=>by
  simp only[List.mapM_cons,bind,Option.bind_eq_some_iff] at h;obtain⟨y,B,ys,D,_⟩:=h;rcases List.mem_cons.1 Y with rfl | Y
  ·exact⟨y,B⟩
  ·exact vz D x Y
def CJ (P:Program) (cs:List Value) (x:TypeId×Nat):List Value:=(cs.drop x.2).take (P.cellsOf x.1)
structure Jh (P:Program) (fs:List (TypeId×Nat)) {α:Type} (c:α->List PV) (ok:α->Prop):Prop where
 get:∀ {H:Type} (enc:TypeId×Value->H) (W:World) (fuel:Nat) (cs:List Value),(∀ x∈fs,∃ y,DataW.trod enc P W 0 (λ _=>true) true fuel x.1 (CJ P cs x)=some y)->(∀ a n k,Value.slice (some a) n k∈cs->0 < W.heap.size) ->
  ∃ y,ok y/\(c y).all PV.plain=true/\∀ l,uK W l->sK W l (c y) (fs.flatMap (CJ P cs))
theorem Jh.nil:Jh P [] (λ _:Unit=>[]) (λ _=>True):=⟨λ _ _ _ _ _ _=>⟨(),trivial,rfl,λ l hl=>sK.nil hl⟩⟩
theorem Jh.cons {t:TypeId} {o:Nat} {fs:List (TypeId×Nat)} {α β:Type} {c:α->List PV} {ok:α->Prop} {d:β->List PV} {VI:β->Prop} (h:xk P t c ok) (h':Jh P fs d VI):Jh P ((t,o) :: fs) (λ p:α×β=>c p.1++d p.2) (λ p=>ok p.1/\VI p.2):=by
 refine⟨λ {H} enc W fuel cs Y hs=>?_⟩;obtain⟨y,hy⟩:=Y (t,o) List.mem_cons_self;obtain⟨a,a1,Z,a3⟩:=h.get enc W fuel _ y hy (λ b n k hm=>hs b n k (List.mem_of_mem_drop (List.mem_of_mem_take hm)));obtain⟨b,b1,b2,b3⟩:=h'.get enc W fuel cs (λ x hm=>Y x (List.mem_cons_of_mem _ hm)) hs;exact⟨(a,b),⟨a1,b1⟩,by rw[List.all_append,Z,b2]; rfl,λ l hl=>(a3 l hl).append b3⟩
def Pm (P:Program) (e:Nat):List (TypeId×Nat)->Nat->Bool
 | [],o=>Nat.beq o e
 | (t,o') :: fs,o=>Nat.beq o o' && Pm P e fs (o+P.cellsOf t)
theorem Ij (cs:List Value):∀ (fs:List (TypeId×Nat)) (o:Nat),Pm P cs.length fs o=true->fs.flatMap (CJ P cs)=cs.drop o
 | [],o,h=>by
  have:o=cs.length:=Nat.eq_of_beq_eq_true h;rw[this,List.drop_length]; rfl
 | (t,o') :: fs,o,h=>by
  unfold Pm at h;rw[Bool.and_eq_true] at h;obtain⟨B,D⟩:=h;have B:=Nat.eq_of_beq_eq_true B;subst B;rw[List.flatMap_cons,Ij cs fs _ D];unfold CJ;rw[show List.drop (o+P.cellsOf t) cs=List.drop (P.cellsOf t) (cs.drop o) by rw[List.drop_drop],List.take_append_drop]
theorem xk.struct {t:TypeId} {fs:Array Field} {α:Type} {c:α->List PV} {ok:α->Prop} (ht:P.underlying t=some (.struct fs)) (hs:Pm P (P.cellsOf t) (fs.toList.map λ f=>(f.type,f.offset)) 0=true) (h:Jh P (fs.toList.map λ f=>(f.type,f.offset)) c ok):xk P t c ok:=by
 refine⟨λ {H} enc W fuel cs x Y hsl=>?_⟩;cases fuel with
 | zero=>simp[DataW.trod] at Y
 | succ fuel=>
  have h':(if cs.length=P.cellsOf t then(fs.toList.mapM λ f=>DataW.trod enc P W 0 (λ _=>true) true fuel f.type ((cs.drop f.offset).take (P.cellsOf f.type))).map λ xs=>(DataW.agg (xs.map (·.1)),xs.flatMap (·.2)) else none)=some x:=by
   rw[<- Y]
   conv=>rhs; unfold DataW.trod
   rw[ht]
  split at h'
  ·rename_i hl;simp only[Option.map_eq_some_iff] at h';obtain⟨xs,hxs,_⟩:=h';obtain⟨y,B,D,V⟩:=h.get enc W fuel cs (λ z hz=>by
    obtain⟨f,hf,rfl⟩:=List.mem_map.1 hz;exact vz hxs f hf) hsl
   refine⟨y,B,D,λ l Kj=>?_⟩;have:=V l Kj;rw[Ij cs _ 0 (by rw[hl]; exact hs),List.drop_zero] at this;exact this
  ·cases h'
theorem ET {β:Type} {sz:Nat} : ∀ {L:List (List β)},(∀ x∈L,x.length=sz)->L.flatten.length=L.length * sz
 | [],_=>by simp
 | x :: L,h=>by
  rw[List.flatten_cons,List.length_append,h x List.mem_cons_self,ET (λ y hy=>h y (List.mem_cons_of_mem _ hy)),List.length_cons,Nat.add_mul,Nat.one_mul];omega
theorem C2 {β:Type} {sz:Nat} : ∀ {L:List (List β)},(∀ x∈L,x.length=sz)->∀ (i:Nat) (x:List β),L[i]? = some x->∀ (j:Nat),j < sz->L.flatten[i * sz+j]? = x[j]?
 | [],_,i,x,h,_,_=>by simp at h
 | y :: L,hL,i,x,h,j,X=>by
  rw[List.flatten_cons];have hy:=hL y List.mem_cons_self;cases i with
  | zero=>
   simp at h; subst h;rw[Nat.zero_mul,Nat.zero_add,List.getElem?_append_left (by omega)]
  | succ i=>
   have e:(i+1) * sz=i * sz+sz:=by rw[Nat.add_mul,Nat.one_mul]
   rw[e,List.getElem?_append_right (by omega),hy];rw[show i * sz+sz+j - sz=i * sz+j by omega];exact C2 (λ z hz=>hL z (List.mem_cons_of_mem _ hz)) i x (by simpa using h) j X
theorem xM {α:Type} {Q:Nat->α->Prop} : ∀ (n:Nat),(∀ i,i < n->∃ y,Q i y)->∃ L:List α,L.length=n/\∀ (i:Nat) (x:α),L[i]? = some x->Q i x
 | 0,_=>⟨[],rfl,λ i x h=>by simp at h⟩
 | n+1,h=>by
  obtain⟨L,B,D⟩:=xM n (λ i N=>h i (by omega));obtain⟨y,hy⟩:=h n (by omega);refine⟨L++[y],by simp[B],λ i x Y=>?_⟩;by_cases N:i < n
  ·rw[List.getElem?_append_left (by omega)] at Y;exact D i x Y
  ·have cG:i < (L++[y]).length:=ax Y;simp[B] at cG;have:i=n:=by omega
   subst this;rw[List.getElem?_append_right (by omega),B] at Y;simp at Y;subst Y;exact hy
theorem sK.all {W:World} {α:Type} {c:α->List PV} : ∀ (L:List (α×List Value)),(∀ x∈L,∀ l,uK W l->sK W l (c x.1) x.2)->∀ l,uK W l->sK W l ((L.map λ x=>c x.1).flatten) ((L.map (·.2)).flatten)
 | [],_,l,hl=>sK.nil hl
 | x :: L,h,l,hl=>(h x List.mem_cons_self l hl).append λ l hl=>sK.all L (λ y hy=>h y (List.mem_cons_of_mem _ hy)) l hl
theorem J6 {W:World} {l:FA} {sz:Nat} {ty:TypeId} {vs:List (List PV)} {cs:List (List Value)} {a:Addr} {cap:Nat} (gK:0 < sz) (hl:uK W l) (U:∀ x∈vs,x.all PV.plain=true) (hg:∀ l,uK W l->sK W l vs.flatten cs.flatten) (hv:∀ x∈vs,x.length=sz) (hc:∀ x∈cs,x.length=sz) (RI:vs.length=cs.length) (yb:cs.length<=cap)
  (hw:∀ i x,cs[i]? = some x->∀ j,j < sz->W.cell? ((a.add (i * sz)).add j)=x[j]?) (h0:0 < cap->a.spot=none/\a.block < W.heap.size) (D1:0 < W.heap.size):sK W l [.aS sz vs none] [.slice (some a) cs.length cap]:=by
 obtain⟨m,us,B,D,V⟩:=hg l hl;have kM:cs.flatten.length=cs.length * sz:=ET hc;have hul:us.length=cs.length * sz:=by rw[D.1,kM]
 obtain⟨b,o,hb,AI,AN⟩:∃ b o,b < W.heap.size/\(∀ j v,cs.flatten[j]? = some v->W.cell? ⟨b,o+j,none⟩=some v)/\(∀ ρ:cx,ρ (l++m).length=some ⟨b,o,sz,cs.length * sz⟩->VR ρ (.slice (some ⟨(l++m).length,0,none⟩) cs.length cap) (.slice (some a) cs.length cap)):=by
  by_cases hz:0 < cap
  ·obtain⟨b,o,s⟩:=a;obtain⟨h5,h6⟩:=h0 hz;simp only at h5 h6;subst h5;refine⟨b,o,h6,λ j v X=>?_,λ ρ hρ=>?_⟩
   ·have jc:j < cs.length * sz:=by rw[<- kM]; exact ax X
    have N:j / sz < cs.length:=Nat.div_lt_of_lt_mul (by rw[Nat.mul_comm]; exact jc);have hf:j % sz < sz:=Nat.mod_lt _ gK;have hm:j / sz * sz+j % sz=j:=by rw[Nat.mul_comm]; exact Nat.div_add_mod j sz
    have e1:=C2 hc (j / sz) _ (List.getElem?_eq_getElem N) (j % sz) hf;rw[hm,X] at e1;have e2:=hw (j / sz) _ (List.getElem?_eq_getElem N) (j % sz) hf;rw[gk,gk,show o+j / sz * sz+j % sz=o+j by omega,<- e1] at e2;exact e2
   ·have:=VR.slice (ρ:=ρ) (off:=0) (n:=cs.length) (c:=cap) (c':=cap) hρ (.inl rfl);exact this
  ·have Sa:cap=0:=by omega
   have Bm:cs.length=0:=by omega
   refine⟨0,0,D1,λ j v X=>?_,λ ρ hρ=>?_⟩
   ·have:=ax X;rw[kM,Bm] at this;omega
   ·rw[Sa,Bm]; exact .dG
 let r:Row:={ cells:=us.map some,ty:=ty,aU:=0,bJ:=o,esz:=sz,ro:=true,cW:=false }
 let pl:Pl:=⟨b,o,sz,cs.length * sz⟩
 have XW:Cg (g9 (l++m)) W r pl:=by
  refine⟨rfl,rfl,rfl,rfl,hb,rfl,?_,λ j X=>?_,λ a=>(by cases a)⟩
  ·show(us.map some).length<=cs.length * sz;rw[List.length_map,hul]; exact Nat.le_refl _
  ·have jc:j < cs.length * sz:=X;have h7:=List.getElem?_eq_getElem (l:=cs.flatten) (i:=j) (by rw[kM]; exact jc);refine⟨_,AI j _ h7,λ v hv=>?_,λ h=>by cases h⟩;have rb:(us.map some)[j]? = some (some v):=hv;rw[List.getElem?_map,Option.map_eq_some_iff] at rb;obtain⟨u,hu,uD⟩:=rb;cases uD;exact D.2 j v _ hu h7
 have acp:g9 (l++(m++[(r,pl)])) (l++m).length=some pl:=by
  unfold g9;rw[<- List.append_assoc,List.getElem?_append_right (Nat.le_refl _),Nat.sub_self]; rfl
 refine⟨m++[(r,pl)],[.slice (some ⟨(l++m).length,0,none⟩) cs.length cap],by rw[<- List.append_assoc]; exact B.aco XW,(LR.nil _).cons (AN _ acp),L2.cons ?_ L2.nil⟩;have eM:(cZ (l++(m++[(r,pl)]))).get (l++m).length=some (.row r):=by
  rw[iK,<- List.append_assoc,List.getElem?_append_right (Nat.le_refl _),Nat.sub_self]; rfl
 have hn:(cZ (l++(m++[(r,pl)]))).next=(l++m).length+1:=by rw[ll,<- List.append_assoc,List.length_append,List.length_singleton]
 have DL:L2 (RV mV [] (cZ (l++(m++[(r,pl)]))) false) vs.flatten us:=by
  rw[<- List.append_assoc];exact V.mono λ _ _ h=>h.grow zU
 have cell:∀ (i:Nat) (xs:List PV) (j:Nat) (p:PV),vs[i]? = some xs->xs[j]? = some p->∃ u,us[i * sz+j]? = some u/\RV mV [] (cZ (l++(m++[(r,pl)]))) false p u:=by
  intro i xs j p N X;have hjs:j < sz:=by rw[<- hv xs (List.mem_of_getElem? N)]; exact ax X
  have:=C2 hv i xs N j hjs;rw[X] at this;exact DL.at this
 rw[<- RI];refine RV.aS (e:=mV) (tk:=[]) (H:=cZ (l++(m++[(r,pl)]))) (b:=false) (sz:=sz) (l:=vs) (t:=none) (id:=(l++m).length) (off:=0) (c:=cap) (n:=cs.length * sz) (r:=r) (λ i j=>(us[i * sz+j]?).getD (.bool false)) eM (by rw[RI]; omega) ⟨by rw[hn]; omega,by show 0 < _; rw[hn]; omega,trivial,by simp[mV],λ t τ n ht=>by simp[mV] at ht⟩ rfl
  (by rw[RI]; exact yb) (by show _<=(us.map some).length; rw[List.length_map,hul,RI]; omega) (λ i xs N=>hv xs (List.mem_of_getElem? N)) (λ i xs j p N X=>List.all_eq_true.1 (U xs (List.mem_of_getElem? N)) p (List.mem_of_getElem? X)) ?_ ?_ (λ k hk=>by cases hk)
 ·intro i xs j p N X;obtain⟨u,hu,_⟩:=cell i xs j p N X;show(us.map some)[0+i * sz+j]? = _;rw[Nat.zero_add,List.getElem?_map,hu]; rfl
 ·intro i xs j p N X;obtain⟨u,hu,h⟩:=cell i xs j p N X;rw[hu]; exact h
theorem xk.slice {t e:TypeId} {α:Type} {c:α->List PV} {ok:α->Prop} {sz:Nat} (ht:P.underlying t=some (.slice e)) (gK:P.cellsOf e=sz) (h0:0 < sz) (h:xk P e c ok):xk P t (λ L:List α=>[.aS sz (L.map c) none]) (λ L=>L.length<=maxLen/\∀ x∈L,ok x):=by
 refine⟨λ {H} enc W fuel cs x Y hsl=>?_⟩;cases fuel with
 | zero=>simp[DataW.trod] at Y
 | succ fuel=>
  rcases cs with _ | ⟨v,_ | ⟨v2,cs⟩⟩
  ·simp[DataW.trod,ht] at Y
  ·cases v with
   | slice ad len cap=>
    cases ad with
    | none=>
     have:len=0/\cap=0:=by
      rcases len with _ | len <;> rcases cap with _ | cap <;> first | exact⟨rfl,rfl⟩ | (simp[DataW.trod,ht] at Y)
     obtain⟨rfl,rfl⟩:=this;refine⟨[],⟨by simp,λ x Y=>by cases Y⟩,rfl,λ l hl=>⟨[],[.slice none 0 0],by rw[List.append_nil]; exact hl,(LR.nil _).cons .fl,L2.cons (.fU λ k hk=>by cases hk) L2.nil⟩⟩
    | some a=>
     have D1:=hsl a len cap List.mem_cons_self;simp only[DataW.trod,ht,gK] at Y;split at Y
     ·rename_i hc;simp only[Option.bind_eq_some_iff,Option.map_eq_some_iff] at Y;obtain⟨elems,he,rest,hr,_⟩:=Y;simp only[if_true] at hr;have gZ:∀ i:Nat,i=0->∀ ys,W.cells? 0 (a.add (i * sz)) sz=some ys->a.spot=none/\a.block < W.heap.size:=by
       intro i YT ys hy;subst YT;rw[Nat.zero_mul] at hy;have B:=(World.cells?_some hy).2;have D:=B.2 0 h0;rw[List.getElem?_eq_getElem (by rw[B.1]; exact h0)] at D;obtain⟨b,o,s⟩:=a;unfold World.cell? at D;split at D
       ·rename_i fM;split at D
        ·cases D
        ·rename_i hs;have ZM:s=none:=by
          cases s with
          | none=>rfl
          | some s=>exfalso; revert hs; unfold Addr.add; simp
         subst ZM;rw[gk,gk] at fM;exact⟨rfl,ax (by simpa using fM)⟩
       ·cases D
      obtain⟨L,B,D⟩:=xM (Q:=λ i (y:α×List Value)=>(W.cells? 0 (a.add (i * sz)) sz=some y.2)/\ok y.1/\(c y.1).all PV.plain=true/\∀ l,uK W l->sK W l (c y.1) y.2) len (λ i N=>by
       obtain⟨r,hr⟩:=vz he i (by simp[N]);simp only[Option.bind_eq_some_iff] at hr;obtain⟨ys,V,h4⟩:=hr;obtain⟨y,h5,h6,h7⟩:=h.get enc W fuel ys r h4 (λ _ _ _ _=>D1);exact⟨(y,ys),V,h5,h6,h7⟩)
      have lH:∀ x∈L,∃ i,L[i]? = some x:=λ x Y=>List.getElem?_of_mem Y;have Bl:∀ x∈L,x.2.length=sz:=λ x Y=>by
       obtain⟨i,N⟩:=lH x Y;exact(World.cells?_some (D i x N).1).2.1
      refine⟨L.map (·.1),⟨by rw[List.length_map,B]; exact Nat.le_trans hc.2.1 hc.2.2,λ y hy=>?_⟩,rfl,λ l hl=>?_⟩
      ·obtain⟨x,Y,rfl⟩:=List.mem_map.1 hy;obtain⟨i,N⟩:=lH x Y;exact(D i x N).2.1
      ·have main:=J6 (W:=W) (l:=l) (sz:=sz) (ty:=e) (vs:=L.map λ x=>c x.1) (cs:=L.map (·.2)) (a:=a) (cap:=cap) h0 hl
        (λ y hy=>by
         obtain⟨x,Y,rfl⟩:=List.mem_map.1 hy;obtain⟨i,N⟩:=lH x Y;exact(D i x N).2.2.1)
        (sK.all L λ x Y=>by
         obtain⟨i,N⟩:=lH x Y;exact(D i x N).2.2.2)
        (λ y hy=>by
         obtain⟨x,Y,rfl⟩:=List.mem_map.1 hy;obtain⟨i,N⟩:=lH x Y;rw[((D i x N).2.2.2 [] uK.nil).len];exact Bl x Y)
        (λ y hy=>by
         obtain⟨x,Y,rfl⟩:=List.mem_map.1 hy;exact Bl x Y)
        (by rw[List.length_map,List.length_map]) (by rw[List.length_map,B]; exact hc.2.1)
        (λ i y hy j X=>by
         rw[List.getElem?_map,Option.map_eq_some_iff] at hy;obtain⟨x,Y,rfl⟩:=hy;exact(World.cells?_some (D i x Y).1).2.2 j X)
        (λ yb=>by
         rcases Nat.eq_zero_or_pos len with Bm | Bm
         ·obtain⟨r,ga⟩:=vz hr 0 (by simp; omega);simp only[Option.bind_eq_some_iff] at ga;obtain⟨ys,V,_⟩:=ga;exact gZ _ (by omega) ys V
         ·obtain⟨x,Y⟩:=aP (l:=L) (i:=0) (by omega);exact gZ 0 rfl _ (D 0 x Y).1) D1
       rw[List.length_map,B] at main;show sK W l [.aS sz ((L.map (·.1)).map c) none] _;rw[List.map_map];exact main
     ·cases Y
   | _=>simp[DataW.trod,ht] at Y
  ·simp[DataW.trod,ht] at Y
def uZ (W:World) (l:FA) (ps:List PV) (args:List Value):Prop:=
 ∃ m vs,uK W (l++m)/\LR (g9 (l++m)) vs args/\L2 (RV mV [] (cZ (l++m)) true) ps vs
theorem uZ.nil {W:World} {l:FA} (h:uK W l):uZ W l [] []:=⟨[],[],by rw[List.append_nil]; exact h,LR.nil _,L2.nil⟩
theorem uZ.cons {W:World} {l:FA} {p:PV} {v:Value} {ps:List PV} {vs:List Value} (h:∃ m u,uK W (l++m)/\VR (g9 (l++m)) u v/\RV mV [] (cZ (l++m)) true p u) (h':∀ l,uK W l->uZ W l ps vs):uZ W l (p :: ps) (v :: vs):=by
 obtain⟨m,u,B,D,V⟩:=h;obtain⟨n,us,h4,h5,h6⟩:=h' _ B;refine⟨m++n,u :: us,by rw[<- List.append_assoc]; exact h4,?_,?_⟩
 ·rw[<- List.append_assoc]; exact h5.cons (D.mono s8)
 ·rw[<- List.append_assoc]; exact L2.cons (V.grow zU) h6
theorem sK.one {W:World} {l:FA} {p:PV} {v:Value} (h:sK W l [p] [v]):∃ m u,uK W (l++m)/\VR (g9 (l++m)) u v/\RV mV [] (cZ (l++m)) true p u:=by
 obtain⟨m,vs,B,D,V⟩:=h;obtain⟨u,us,rfl,h4,h5⟩:=V.dE;exact⟨m,u,B,D.head,h4.top⟩
theorem Hj {W:World} {r:Reach} {base:Nat} {t:TypeId} {a:Addr} {n k:Nat} (h:Cell.okWide P W r base t (.slice (some a) n k)):0 < W.heap.size:=by
 have h':Cell.ok P W r base t (.slice (some a) n k):=by
  unfold Cell.okWide at h;split at h <;> first | exact h | (rename_i B D; cases D)
 unfold Cell.ok at h';split at h' <;> first | (exact h'.elim) | (rename_i B D; cases D)
 obtain⟨_,_,_,_,row,cells,h5,_⟩:=h';unfold World.shape? at h5;split at h5
 ·rename_i hb;have:=ax (l:=W.heap.toList) (i:=a.block) (by simpa using hb);simp at this;omega
 ·cases h5
theorem Qk {W:World} {r:Reach} {base:Nat} {t:TypeId} {cs:Array Value} (h:Cell.okWide P W r base t (.agg cs)):False:=by
 have h':Cell.ok P W r base t (.agg cs):=by
  unfold Cell.okWide at h;split at h <;> first | exact h | (rename_i B D; cases D)
 unfold Cell.ok at h';split at h' <;> first | (exact h'.elim) | (rename_i B D; cases D)
theorem vo {W:World} {base:Nat} {t:TypeId} {v:Value} (h:Value.okWide P W .any base t v) (hs:(match P.underlying t with | some (.struct _) | some (.array _ _)=>false | _=>true)=true):v.cells.toList=[v]/\∀ a n k,Value.slice (some a) n k∈[v]->0 < W.heap.size:=by
 have h':Cell.okWide P W .any base t v:=by
  unfold Value.okWide at h;split at h <;> first | exact h | (rename_i B; rw[B] at hs; cases hs)
 refine⟨?_,λ a n k hm=>?_⟩
 ·cases v <;> first | rfl | exact(Qk h').elim
 ·obtain rfl:=List.mem_singleton.1 hm;exact Hj h'
theorem uZ.XX {O:ia} (hO:I4 P O) {W:World} {args:Array Value} {ps:List PV} {f:FuncId} (h:uZ W [] ps args.toList) (U:PF P O f ps [] [] (λ p fr tk=>p=.val (.bool true)/\fr=[]/\tk=[])):Calls P f args W (λ e w'=>e=.returned (.bool true)/\yc W w'):=by
 obtain⟨m,vs,B,D,V⟩:=h;exact TX hO B D U V
end
end Go.cy.Br
namespace Go.cy
noncomputable section
variable {P:Program} {O:ia}
def AH.jU (H:AH) (o:AO):AH:=⟨T.put (Nat.succ H.next) H.A4 H.next o,Nat.succ H.next⟩
theorem AH.EU (H:AH) (o:AO):H.new o=.ok (H.next,H.jU o):=rfl
theorem AH.fI {H:AH} {o:AO} (j:Nat):(H.jU o).get j=if j=H.next then some o else H.get j:=T.o8 _ _ _ _
theorem AH.NF (H:AH) (id:Nat) (o:AO):(H.set id o).next=H.next:=rfl
def rU (a:az) (params:List Tmp) (assign body:Code) (mk:Nat):gY:={ state:=.ready,pending:=none,fn:=0,tm:=a.tm,n:=a.n,params:=params,assign:=assign,body:=body,mark:=mk }
inductive HP (params:List Tmp) (assign body:Code):Option Nat->az->AH->az->AH->Nat->gY->Prop
 | yY (a:az) (H:AH):HP params assign body none a H ⟨a.tm,a.n,.mark H.next :: a.bn⟩ ((H.jU (.mark true)).jU (.loop (rU a params assign body H.next))) (H.next+1) (rU a params assign body H.next)
 | GJ (a:az) (H:AH) (lp:Nat) (r:gY) (h:H.get lp=some (.loop r)):HP params assign body (some lp) a H a (H.jU (.loop (rU a params assign body r.mark))) H.next (rU a params assign body r.mark)
theorem WC.rangeFunc {rnd:Option Nat} {aa:Operand} {params:Array Tmp} {assign body z:Code} {a a1:az} {H H1:AH} {l:Nat} {r:gY} {Q:AX->az->AH->Prop} {f:FuncId} {first cap:Array Value}
  (hb:HP params.toList assign body rnd a H a1 H1 l r) (hg:a.ev aa=some (.func (.func f) first cap))
  (h:uP P O f (first.toList++[.func (.yield l) #[] #[]]++cap.toList) H1 (λ _ H2=>∃ r2,H2.get l=some (.loop r2)/\(r2.state == .busy)=false /\
   match r2.pending with
   | none=>WC P O rnd z a1 (H2.set l (.loop { r2 with state:=.exhausted })) Q
   | some c=>WC P O rnd c a1 (H2.set l (.loop { r2 with state:=.exhausted })) (andThen P O rnd z Q))):WC P O rnd (.seq (.rangeFunc aa params assign body) z) a H Q:=by
 obtain⟨n,v,H2,B,r2,D,V,h4⟩:=h;have Ky:a1.eval aa=.ok (.func (.func f) first cap):=by
  have:=az.aL hg;cases hb with
  | yY=>cases aa <;> exact this
  | GJ=>exact this
 have key:∀ m,n<=m->bF P O (m+1) (.code rnd (.rangeFunc aa params assign body) a) H=(match r2.pending with
   | none=>.ok (.ie .normal a1,H2.set l (.loop { r2 with state:=.exhausted }))
   | some c=>bF P O m (.code rnd c a1) (H2.set l (.loop { r2 with state:=.exhausted }))):=by
  intro m hm;have nG:=lf hm B;cases hb with
  | yY=>
   have en:(H.jU (AO.mark true)).next=H.next+1:=rfl;simp only[rU] at nG;simp only[bF,bO,AH.EU,bind,Except.bind,Ky,en,nG,D,V,Bool.false_eq_true,if_false];cases r2.pending <;> rfl
  | GJ _ _ lp r0 KD=>
   simp only[bF,bO,KD,AH.EU,bind,Except.bind,Ky];simp only[rU] at nG;simp only[nG,D,V,Bool.false_eq_true,if_false];cases r2.pending <;> rfl
 cases U:r2.pending with
 | none=>
  rw[U] at h4 key;exact WC.seq ⟨n+1,.normal,a1,_,key n (Nat.le_refl _),h4⟩
 | some c=>
  rw[U] at h4 key;obtain⟨m,x,a3,H3,k1,k2⟩:=h4;exact WC.seq ⟨max n m+1,x,a3,H3,by rw[key _ (Nat.le_max_left n m)]; exact lf (Nat.le_max_right n m) k1,k2⟩
theorem WC.acq {rnd:Option Nat} {x:AX} {c z:Code} {a:az} {H:AH} {Q:AX->az->AH->Prop} (X:c6 x=some c) (h:Q x a H):WC P O rnd c a H (andThen P O rnd z Q):=by
 cases x with
 | normal=>cases X
 | ret=>cases X; exact⟨1,.ret,a,H,rfl,h⟩
 | exit id=>cases X; exact⟨1,.exit id,a,H,rfl,h⟩
 | goto id=>cases X; exact⟨1,.goto id,a,H,rfl,h⟩
def CK (b:az) (ps:List (Tmp×Value)):R az:=ps.foldlM (λ(b:az) (p:Tmp×Value)=>b.put (some p.1) p.2) b
theorem WO.yield {rnd:Option Nat} {all os:List Oper} {a act:az} {H:AH} {Q:az->AH->Prop} {o:Oper} {aa:Operand} {xs:Array Operand} {xU:Array TypeId} {vs:List Value} {l:Nat} {fs cs:Array Value} {r:gY}
  (ho:o.op=.call ⟨.value aa,xs,xU⟩) (hw:dr all a o=.ok true) (hg:a.ev aa=some (.func (.yield l) fs cs)) (Y:eU a.eval xs.toList=.ok vs) (hc:a.can o.dst=true)
  (hl:H.get l=some (.loop r)) (fW:r.state=.ready) (hlen:r.params.length=vs.length) (acr:CK { tm:=r.tm,n:=r.n,bn:=[] } (r.params.zip vs)=.ok act)
  (h:WC P O (some l) r.assign act H (λ x tS H1=>x=.normal/\∃ r1,H1.get l=some (.loop r1)/\r1.state=.ready /\
   WC P O (some l) r.body tS (H1.set l (.loop { r1 with state:=.busy })) (λ x _ H2=>∃ r2,H2.get l=some (.loop r2) /\
    WO P O rnd all os (a.dF o.dst (.bool (c6 x).isNone)) (H2.set l (.loop { r2 with state:=if (c6 x).isNone then .ready else .done,pending:=c6 x })) Q))):WO P O rnd all (o :: os) a H Q:=by
 obtain⟨n1,x1,tS,H1,B,rfl,r1,D,V,n2,x2,acs,H2,h4,r2,h5,h6⟩:=h;refine WO.one hw (by rw[ho]; rfl) ⟨Max.max n1 n2,?_⟩ hc h6;obtain⟨d,op,ty,ps,af,gu⟩:=o;simp only at ho;subst ho;have Kz:=az.aL hg;have nG:=lf (Nat.le_max_left n1 n2) B;have Ko:=lf (Nat.le_max_right n1 n2) h4;have XY:(r.params.zip vs).foldlM (λ(b:az) (p:Tmp×Value)=>b.put (some p.1) p.2) { tm:=r.tm,n:=r.n,bn:=[] }=.ok act:=acr;have Gh:¬ (r1.state≠.ready):=by rw[V]; simp
 simp only[b9,Y,Kz,bind,Except.bind,hl,fW,hlen,ne_eq,not_true,if_false];rw[XY];simp only[nG,D];rw[if_neg Gh];simp only[Ko,h5]
structure ot (l:Nat) (H H':AH):Prop where
 next:H'.next=H.next
 jY:∀ j,j≠l->H'.get j=H.get j
 VJ:∃ r,H.get l=some (.loop r)
 is:∃ r,H'.get l=some (.loop r)
theorem ot.set {l:Nat} {H:AH} {r r':gY} (h:H.get l=some (.loop r)):ot l H (H.set l (.loop r')):=
 ⟨rfl,λ j X=>by rw[AH.bS,if_neg X],⟨r,h⟩,⟨r',by rw[AH.bS,if_pos rfl]⟩⟩
theorem ot.refl {l:Nat} {H:AH} {r:gY} (h:H.get l=some (.loop r)):ot l H H:=⟨rfl,λ _ _=>rfl,⟨r,h⟩,⟨r,h⟩⟩
theorem ot.trans {l:Nat} {H H' Oc:AH} (h:ot l H H') (h':ot l H' Oc):ot l H Oc:=⟨h'.next.trans h.next,λ j X=>(h'.jY j X).trans (h.jY j X),h.VJ,h'.is⟩
theorem ot.sym {l:Nat} {H H':AH} (h:ot l H H'):ot l H' H:=⟨h.next.symm,λ j X=>(h.jY j X).symm,h.is,h.VJ⟩
theorem ot.row {l:Nat} {H H':AH} (h:ot l H H') {id:Nat} {r:Row} (hr:H.get id=some (.row r)):H'.get id=some (.row r):=by
 rw[h.jY id (λ e=>by subst e; obtain⟨q,hq⟩:=h.VJ; rw[hq] at hr; cases hr)];exact hr
theorem ot.grow {l:Nat} {H H':AH} (h:ot l H H') (e:cz) (tk:List Nat):Grow e tk H e tk H':=
 ⟨Nat.le_of_eq h.next.symm,λ _ _ h=>h,λ id aU en _ hs=>⟨by rw[h.next]; exact hs.lt,by rw[h.next]; exact hs.we,hs.x,hs.row,hs.tok⟩,λ id r n hr _=>⟨r,h.row hr,Meta.refl r,λ _ _=>rfl⟩,λ k n hk=>⟨n,hk,Nat.le_refl _,λ _=>rfl⟩,λ k τ ht _ id r hr _ cI=>⟨r,h.row hr,Meta.refl r,rfl,ht,λ _ _ _ h=>h,cI⟩⟩
theorem ot.wf {l:Nat} {H H':AH} (h:ot l H H') (hw:KI H):KI H':=by
 refine⟨λ id o ho=>?_,λ id r hr=>?_,pX hw λ id r hr=>.inr ⟨id,r,h.sym.row hr,rfl,rfl,rfl⟩⟩
 ·rw[h.next];by_cases e:id=l
  ·subst e; obtain⟨q,hq⟩:=h.VJ; exact hw.lt _ _ hq
  ·rw[h.jY id e] at ho; exact hw.lt _ _ ho
 ·rw[h.next]; exact hw.aU id r (h.sym.row hr)
theorem ot.Mo {l:Nat} {H H':AH} (h:ot l H H') {id:Nat} {o:AO} (D:H.get id=some o) (V:(∃ r,o=.row r)\/∃ es c,o=.map es c):id≠l:=λ e1=>by
 subst e1;obtain⟨q,hq⟩:=h.VJ;rw[hq] at D; cases D;rcases V with⟨r,e⟩ | ⟨es,c,e⟩ <;> cases e
theorem gN.N0 {e:cz} {fr:List aJ} {tk:List Nat} {l:Nat} {H H':AH} (hI:gN e fr tk H) (h:ot l H H'):gN e fr tk H':=
 ⟨h.wf hI.wf,hI.dY,hI.rnd,λ k id R hk G=>by
  obtain⟨o,D,V⟩:=(hI.row k id R hk G).eF;exact(hI.row k id R hk G).eR rfl (h.jY id (h.Mo D V)) λ us h8=>h8.grow (h.grow e tk),hI.dD,hI.iy,λ t τ ht=>by rw[h.next]; exact hI.oI t τ ht,hI.tq⟩
def fS.to (C:fS) (H:AH):fS:=⟨H,C.yO,C.toks,C.I5,C.an⟩
theorem df.N0 {C:fS} {e:cz} {fr:List aJ} {tk:List Nat} {l:Nat} {H H' H0':AH} (h:df C e fr tk H) (b0:ot l C.H0 H0') (b:ot l H H') (hl:H'.get l=H0'.get l):df (C.to H0') e fr tk H':=by
 have hn:H0'.next=C.H0.next:=b0.next;refine⟨h.dz.N0 b,⟨?_,?_,h.ext.old,h.ext.Hy⟩,⟨?_,λ id r hr cI=>?_,λ id o ho Bn cI=>?_,λ id cG kV=>?_,λ id r hr=>?_⟩,⟨b0.wf h.cw.wf,h.cw.len,λ id cI=>by
  obtain⟨o,q1,q2⟩:=h.cw.yO id cI;exact⟨o,(b0.jY id (b0.Mo q1 q2)).trans q1,q2⟩⟩,⟨?_,?_⟩,h.x0⟩
 ·obtain⟨new,B,D⟩:=h.ext.aY;exact⟨new,B,λ id cI=>by show H0'.next<=id; rw[hn]; exact D id cI⟩
 ·intro t τ ht;rcases h.ext.tok t τ ht with B | B
  ·exact .inl B
  ·exact .inr (by show H0'.next<=_; rw[hn]; exact B)
 ·show H0'.next<=H'.next;rw[hn,b.next]; exact h.bC.next
 ·obtain⟨r',k1,k2,k3,k4⟩:=h.bC.row id r (b0.sym.row hr) cI;exact⟨r',b.row k1,k2,k3,k4⟩
 ·by_cases e1:id=l
  ·subst e1; rw[hl]; exact ho
  ·rw[b.jY id e1];have mb:H0'.get id=some o:=ho;rw[b0.jY id e1] at mb;exact h.bC.jY id o mb Bn cI
 ·have Pn:H0'.get id=none:=kV;have e1:id≠l:=λ e1=>by subst e1; obtain⟨q,hq⟩:=b0.is; rw[hq] at Pn; cases Pn
  rw[b.jY id e1];rw[b0.jY id e1] at Pn;exact h.bC.jo id (by rw[<- hn]; exact cG) Pn
 ·rcases h.bC.aU id r (b.sym.row hr) with⟨i0,r0,k1,k2⟩ | k
  ·exact .inl ⟨i0,r0,b0.row k1,k2⟩
  ·exact .inr (by show H0'.next<=_; rw[hn]; exact k)
 ·intro id aU en B D;have nG:H0'.next<=id:=B;have uE:H0'.next<=aU:=D;exact h.x.new id aU en (by rw[<- hn]; exact nG) (by rw[<- hn]; exact uE)
 ·intro t τ id en B D;have uE:H0'.next<=id:=D;exact h.x.tok t τ id en B (by rw[<- hn]; exact uE)
theorem df.acu {C:fS} {e:cz} {fr:List aJ} {tk:List Nat} {l:Nat} {H H':AH} (h:df C e fr tk H) (b:ot l H H') (hl:C.H0.next<=l):df C e fr tk H':=by
 refine⟨h.dz.N0 b,h.ext,⟨by rw[b.next]; exact h.bC.next,λ id r hr cI=>?_,λ id o ho Bn cI=>?_,λ id cG kV=>?_,λ id r hr=>h.bC.aU id r (b.sym.row hr)⟩,h.cw,h.x,h.x0⟩
 ·obtain⟨r',k1,k2,k3,k4⟩:=h.bC.row id r hr cI;exact⟨r',b.row k1,k2,k3,k4⟩
 ·have:=h.cw.wf.lt id o ho;rw[b.jY id (by omega)]; exact h.bC.jY id o ho Bn cI
 ·rw[b.jY id (by omega)]; exact h.bC.jo id cG kV
theorem df.jU {C:fS} {e:cz} {fr:List aJ} {tk:List Nat} {H:AH} (h:df C e fr tk H) (o:AO) (ho:∀ r,o≠.row r):df C e fr tk (H.jU o)/\Grow e tk H e tk (H.jU o):=by
 have hI:=h.dz;have eM:∀ j,j < H.next->(H.jU o).get j=H.get j:=λ j X=>by rw[AH.fI,if_neg (by omega)]
 have hn:(H.jU o).next=H.next+1:=rfl;have eH:∀ {id:Nat} {r:Row},H.get id=some (.row r)->(H.jU o).get id=some (.row r):=λ hr=>by rw[eM _ (hI.wf.lt _ _ hr)]; exact hr
 have nS:∀ {id:Nat} {r:Row},(H.jU o).get id=some (.row r)->H.get id=some (.row r):=λ {id r} hr=>by
  rw[AH.fI] at hr;split at hr
  ·cases hr; exact absurd rfl (ho r)
  ·exact hr
 have aa:Grow e tk H e tk (H.jU o):=⟨by rw[hn]; omega,λ _ _ h=>h,λ id aU en _ hs=>⟨by rw[hn]; have:=hs.lt; omega,by rw[hn]; have:=hs.we; omega,hs.x,hs.row,hs.tok⟩,λ id r n hr _=>⟨r,eH hr,Meta.refl r,λ _ _=>rfl⟩,λ k n hk=>⟨n,hk,Nat.le_refl _,λ _=>rfl⟩,λ k τ ht _ id r hr _ cI=>⟨r,eH hr,Meta.refl r,rfl,ht,λ _ _ _ h=>h,cI⟩⟩
 refine⟨⟨⟨⟨λ id q hq=>?_,λ id r hr=>?_,pX hI.wf λ id r hr=>.inr ⟨id,r,nS hr,rfl,rfl,rfl⟩⟩,hI.dY,hI.rnd,λ k id R hk G=>?_,hI.dD,hI.iy,λ t τ ht=>by rw[hn]; have:=hI.oI t τ ht; omega,hI.tq⟩,h.ext,⟨by rw[hn]; have:=h.bC.next; omega,λ id r hr cI=>?_,λ id q hq Bn cI=>?_,λ id cG kV=>?_,λ id r hr=>h.bC.aU id r (nS hr)⟩,h.cw,h.x,h.x0⟩,aa⟩
 ·rw[AH.fI] at hq;rw[hn];split at hq
  ·omega
  ·have:=hI.wf.lt _ _ hq; omega
 ·rw[hn]; have:=hI.wf.aU id r (nS hr); omega
 ·obtain⟨o,D,_⟩:=(hI.row k id R hk G).eF;exact(hI.row k id R hk G).eR rfl (eM _ (hI.wf.lt _ _ D)) λ us h8=>h8.grow aa
 ·obtain⟨r',k1,k2,k3,k4⟩:=h.bC.row id r hr cI;exact⟨r',eH k1,k2,k3,k4⟩
 ·have B:=h.bC.jY id q hq Bn cI;rw[eM _ (hI.wf.lt _ _ B)]; exact B
 ·have:=h.bC.next;rw[eM _ (by omega)]; exact h.bC.jo id cG kV
theorem df.next {C:fS} {e:cz} {fr:List aJ} {tk:List Nat} {H:AH} (h:df C e fr tk H):XC e H:=h.xc
def gz (r:gY) (p:Option Code):gY:={ r with state:=if p.isNone then .ready else .done,pending:=p }
def fS.gz (C:fS) (l:Nat) (r:gY):Option Code->fS
 | none=>C
 | some c=>C.to (C.H0.set l (.loop (cy.gz r (some c))))
def Mp (P:Program) (O:ia) (C:fS) (l:Nat) (r:gY) (xs:List PV) (fr:List aJ) (tk:List Nat) (K:Option Code->List aJ->List Nat->Prop):Prop:=
 ∀ e H vs,df C e fr tk H->L2 (RV e tk H true) xs vs->r.params.length=vs.length/\∃ act,CK { tm:=r.tm,n:=r.n,bn:=[] } (r.params.zip vs)=.ok act /\
  WC P O (some l) r.assign act H (λ x tS H1=>x=.normal/\∃ r1,H1.get l=some (.loop r1)/\r1.state=.ready /\
   WC P O (some l) r.body tS (H1.set l (.loop { r1 with state:=.busy })) (λ x _ H2=>∃ r2,H2.get l=some (.loop r2) /\
    ∃ e' fr' tk',df (C.gz l r (c6 x)) e' fr' tk' (H2.set l (.loop { r2 with state:=if (c6 x).isNone then .ready else .done,pending:=c6 x })) /\
     Grow e tk H e' tk' (H2.set l (.loop { r2 with state:=if (c6 x).isNone then .ready else .done,pending:=c6 x }))/\K (c6 x) fr' tk'))
def fu (P:Program) (O:ia) (C:fS) (l:Nat) (r:gY) (c:Code) (s:PS) (Q:Option Code->AX->PS->Prop):Prop:=
 ∀ e a H,cm C e s a H->WC P O none c a H (λ x a' H'=>∃ p e' s',cm (C.gz l r p) e' s' a' H'/\Q p x s')
def tr (P:Program) (O:ia) (C:fS) (l:Nat) (r:gY) (all os:List Oper) (s:PS) (Q:Option Code->PS->Prop):Prop:=
 ∀ e a H,cm C e s a H->WO P O none all os a H (λ a' H'=>∃ p e' s',cm (C.gz l r p) e' s' a' H'/\Q p s')
theorem EV (C:fS):LG none C:=λ l h=>by cases h
section y
variable {C:fS} {l:Nat} {r:gY} {s:PS} {Q:Option Code->AX->PS->Prop} {all os:List Oper}
def xy (P:Program) (O:ia) (C:fS) (l:Nat) (r:gY) (z:Code) (Q:Option Code->AX->PS->Prop):Option Code->PS->Prop
 | none,s=>fu P O C l r z s Q
 | some c,s=>PC P O none z s (Q (some c))
theorem xy.run {z:Code} {p:Option Code} {e:cz} {a:az} {H:AH} (h:xy P O C l r z Q p s) (G:cm (C.gz l r p) e s a H):WC P O none z a H (λ x a' H'=>∃ p e' s',cm (C.gz l r p) e' s' a' H'/\Q p x s'):=by
 cases p with
 | none=>exact h e a H G
 | some c=>exact(h (C.gz l r (some c)) e a H G (EV _)).mono λ x a' H' ⟨e',s',B,D⟩=>⟨some c,e',s',B,D⟩
theorem fu.of {c:Code} (h:PC P O none c s (Q none)):fu P O C l r c s Q:=λ e a H G=>(h C e a H G (EV _)).mono λ x a' H' ⟨e',s',B,D⟩=>⟨none,e',s',B,D⟩
theorem fu.gb {c:Code} {s':PS} (h:bc s s') (hq:fu P O C l r c s' Q):fu P O C l r c s Q:=λ e a H G=>let ⟨e',B⟩:=h C e a H G; hq e' a H B
theorem fu.lone {x:Code} (h:fu P O C l r (.seq x .skip) s Q):fu P O C l r x s Q:=λ e a H G=>WC.lone (h e a H G)
theorem fu.aZ {z:Code} (h:fu P O C l r z s Q):fu P O C l r (.seq .skip z) s Q:=λ e a H G=>WC.aZ (h e a H G)
theorem fu.region {i:Nat} {ops:Array Oper} {z:Code} (h:tr P O C l r ops.toList ops.toList s (xy P O C l r z Q)):fu P O C l r (.seq (.region i ops false) z) s Q:=λ e a H G=>
 WC.region ((h e a H G).mono λ a' H' ⟨p,e',s',B,D⟩=>D.run B)
theorem fu.cond {o:Operand} {x y z:Code} {b:Bool} (ho:s.ev o=some (.val (.bool b))) (ht:b=true->fu P O C l r (.seq x z) s Q) (hf:b=false->fu P O C l r (.seq y z) s Q):fu P O C l r (.seq (.cond o x y) z) s Q:=λ e a H G=>by
 obtain⟨v,B,D⟩:=G.ev ho;rw[D.bA] at B;exact WC.cond B (λ h=>ht h e a H G) (λ h=>hf h e a H G)
def zE (aj:Nat->PS->Prop) (k:Nat) (Q:Option Code->AX->PS->Prop):Option Code->AX->PS->Prop
 | none,.normal,s=>∃ k',k' < k/\aj k' s
 | some _,.normal,_=>False
 | p,x,s=>Q p x s
theorem fu.loop {x:Code} (aj:Nat->PS->Prop) (hI:∀ k s,aj k s->fu P O C l r x s (zE aj k Q)) (k:Nat) (h:aj k s):fu P O C l r (.loop x) s Q:=λ e a H G=>by
 refine WC.loop (λ k a H=>∃ e s,cm C e s a H/\aj k s) (λ k a H ⟨e,s,B,D⟩=>?_) k ⟨e,s,G,h⟩;refine(hI k s D e a H B).mono λ x a' H' ⟨p,e',s',k1,k2⟩=>?_;cases p with
 | none=>
  cases x with
  | normal=>obtain⟨k',k3,k4⟩:=k2; exact⟨k',k3,e',s',k1,k4⟩
  | _=>exact⟨none,e',s',k1,k2⟩
 | some c=>
  cases x with
  | normal=>exact k2.elim
  | _=>exact⟨some c,e',s',k1,k2⟩
def ql (P:Program) (O:ia) (C:fS) (l:Nat) (r:gY) (id:Nat) (z:Code) (Q:Option Code->AX->PS->Prop):Option Code->AX->PS->Prop
 | p,.normal,s=>xy P O C l r z Q p s
 | p,.exit j,s=>if j=id then xy P O C l r z Q p s else Q p (.exit j) s
 | p,x,s=>Q p x s
theorem fu.block {id:Nat} {x z:Code} (h:fu P O C l r x s (ql P O C l r id z Q)):fu P O C l r (.seq (.block id x) z) s Q:=λ e a H G=>by
 refine WC.block ((h e a H G).mono λ x a' H' ⟨p,e',s',B,D⟩=>?_);cases x with
 | normal=>exact xy.run D B
 | exit j=>
  simp only[CC];simp only[ql] at D;split
  ·rename_i X; rw[if_pos X] at D; exact xy.run D B
  ·rename_i X; rw[if_neg X] at D; exact⟨p,e',s',B,D⟩
 | _=>exact⟨p,e',s',B,D⟩
theorem tr.of {Q:Option Code->PS->Prop} (h:PO P O none all os s (Q none)):tr P O C l r all os s Q:=λ e a H G=>(h C e a H G).mono λ a' H' ⟨e',s',B,D⟩=>⟨none,e',s',B,D⟩
theorem tr.gb {Q:Option Code->PS->Prop} {s':PS} (h:bc s s') (hq:tr P O C l r all os s' Q):tr P O C l r all os s Q:=λ e a H G=>let ⟨e',B⟩:=h C e a H G; hq e' a H B
theorem WO.append {rnd:Option Nat} {xs ys:List Oper} {a:az} {H:AH} {Q:az->AH->Prop} (h:WO P O rnd all xs a H (λ a1 H1=>WO P O rnd all ys a1 H1 Q)):WO P O rnd all (xs++ys) a H Q:=by
 obtain⟨m,a1,H1,k1,m2,Z,H2,k4,k5⟩:=h;refine⟨Max.max m m2,Z,H2,?_,k5⟩;have key:∀ (xs:List Oper) (a:az) (H:AH),eW P (bF P O (Max.max m m2)) rnd all xs a H=.ok (a1,H1)->eW P (bF P O (Max.max m m2)) rnd all ys a1 H1=.ok (Z,H2)->eW P (bF P O (Max.max m m2)) rnd all (xs++ys) a H=.ok (Z,H2):=by
  intro xs
  induction xs with
  | nil=>intro a H B D; simp only[eW] at B; cases B; exact D
  | cons o xs ih=>
   intro a H B D;simp only[List.cons_append,eW] at B ⊢;obtain⟨b,b1,b2⟩:=bE B;rw[b1];cases b with
   | true=>
    simp only[if_true] at b2;show(match dR o.op with | some c=>_ | none=>_)=_;cases hd:dR o.op with
    | some c=>
     rw[hd] at b2;simp only at b2 ⊢;split at b2
     ·cases b2
     ·rename_i hr;obtain⟨d,d1,d2⟩:=bE b2;obtain⟨a',AG,KN⟩:=bE d2;rw[if_neg hr,d1];show((az.put ⟨a.tm,a.n,d :: a.bn⟩ o.dst undef) >>= λ a'=>eW P (bF P O (Max.max m m2)) rnd all (xs++ys) a' H)=_;rw[AG];exact ih a' H KN D
    | none=>
     rw[hd] at b2;simp only at b2 ⊢;obtain⟨⟨v,Hv⟩,d1,d2⟩:=bE b2;obtain⟨a',AG,KN⟩:=bE d2;rw[d1];show((a.put o.dst v) >>= λ a'=>eW P (bF P O (Max.max m m2)) rnd all (xs++ys) a' Hv)=_;rw[AG];exact ih a' Hv KN D
   | false=>
    simp only[Bool.false_eq_true,if_false] at b2;obtain⟨a',AG,KN⟩:=bE b2;show((a.put o.dst undef) >>= λ a'=>eW P (bF P O (Max.max m m2)) rnd all (xs++ys) a' H)=_;rw[AG];exact ih a' H KN D
 exact key _ a H (zA (Nat.le_max_left m m2) k1) (zA (Nat.le_max_right m m2) k4)
theorem tr.cut {Q:Option Code->PS->Prop} (n:Nat) (J:PS->Prop) (B:PO P O none all (os.take n) s J) (D:∀ s1,J s1->tr P O C l r all (os.drop n) s1 Q):tr P O C l r all os s Q:=λ e a H G=>by
 rw[<- List.take_append_drop n os];exact WO.append ((B C e a H G).mono λ a' H' ⟨e',s',k1,k2⟩=>D s' k2 e' a' H' k1)
def XZ (P:Program) (O:ia) (C:fS) (l:Nat) (r:gY) (all os:List Oper) (Q:Option Code->PS->Prop):Option Code->PS->Prop
 | none,s=>tr P O C l r all os s Q
 | some c,s=>PO P O none all os s (Q (some c))
theorem cm.TY {p:Option Code} : (C.gz l r p).yO=C.yO/\(C.gz l r p).toks=C.toks/\(C.gz l r p).H0.next=C.H0.next:=by
 cases p <;> exact⟨rfl,rfl,rfl⟩
theorem NG {e:cz} {tk:List Nat} {H:AH} {b:Bool} {l:Nat} {v:Value} (h:RV e tk H b (.val (.func (.yield l) #[] #[])) v):v=.func (.yield l) #[] #[]:=by cases h; rfl
def xz (s:PS):List Operand->Option (List PV)
 | []=>some []
 | o :: os=>match s.ev o with
  | some p=>match xz s os with
   | some ps=>some (p :: ps)
   | none=>none
  | none=>none
theorem cm.xz {e:cz} {a:az} {H:AH} (G:cm C e s a H):∀ {os:List Operand} {ps:List PV},cy.xz s os=some ps->∃ vs,eU a.eval os=.ok vs/\L2 (RV e s.tk H true) ps vs
 | [],ps,h=>by cases h; exact⟨[],rfl,L2.nil⟩
 | o :: os,ps,h=>by
  simp only[cy.xz] at h;cases B:s.ev o with
  | none=>rw[B] at h; cases h
  | some p=>
   rw[B] at h;cases D:cy.xz s os with
   | none=>rw[D] at h; cases h
   | some qs=>
    rw[D] at h; cases h;obtain⟨v,k1,k2⟩:=G.ev B;obtain⟨vs,k3,k4⟩:=cm.xz G D;exact⟨v :: vs,pA (az.aL k1) k3,L2.cons k2 k4⟩
theorem tr.yield {Q:Option Code->PS->Prop} {o:Oper} {aa:Operand} {xs:Array Operand} {xU:Array TypeId} {ps:List PV} {K:Option Code->List aJ->List Nat->Prop} (hC:C.H0.get l=some (.loop r)) (fW:r.state=.ready)
  (ho:o.op=.call ⟨.value aa,xs,xU⟩) (hw:cC all s o=some true) (hg:s.ev aa=some (.val (.func (.yield l) #[] #[]))) (Y:xz s xs.toList=some ps) (hc:s.can o.dst=true) (tc:s.ms=[])
  (hY:Mp P O C l r ps s.fr s.tk K) (h:∀ p fr' tk',K p fr' tk'->XZ P O C l r all os Q p ((s.mem fr' tk').dF o.dst (.val (.bool p.isNone)))):tr P O C l r all (o :: os) s Q:=λ e a H G=>by
 obtain⟨v,k1,k2⟩:=G.ev hg;rw[NG k2] at k1;obtain⟨vs,k3,k4⟩:=G.xz Y;have hl:H.get l=some (.loop r):=G.h.kP hC (λ r e=>by cases e) (λ _ _ e=>by cases e);obtain⟨hlen,act,B,D⟩:=hY e H vs G.h k4;have B6:a.bn=[]:=(tc ▸ G.bn).none;refine WO.yield ho (G.wanted hw) k1 k3 (G.can hc) hl fW hlen B (D.mono λ x tS H1 ⟨Y,r1,V,h4,h5⟩=>⟨Y,r1,V,h4,?_⟩);have YM:WC P O (some l) r.body tS (H1.set l (.loop { r1 with state:=.busy })) (λ x _ H2=>∃ r2,H2.get l=some (.loop r2) /\
    ∃ e' fr' tk',df (C.gz l r (c6 x)) e' fr' tk' (H2.set l (.loop { r2 with state:=if (c6 x).isNone then .ready else .done,pending:=c6 x })) /\
     Grow e s.tk H e' tk' (H2.set l (.loop { r2 with state:=if (c6 x).isNone then .ready else .done,pending:=c6 x }))/\K (c6 x) fr' tk'):=h5
 refine YM.mono λ y _ H2 ⟨r2,h6,e',fr',tk',h7,h8,h9⟩=>⟨r2,h6,?_⟩
 have hq:=h _ _ _ h9;generalize c6 y=p at *;generalize (H2.set l (.loop { r2 with state:=if p.isNone then .ready else .done,pending:=p }))=H3 at *;have NV:cm (C.gz l r p) e' ((s.mem fr' tk').dF o.dst (.val (.bool p.isNone))) (a.dF o.dst (.bool p.isNone)) H3:=by
  have hf:=cm.TY (C:=C) (l:=l) (r:=r) (p:=p);have base:cm (C.gz l r p) e' (s.mem fr' tk') a H3:=⟨h7,G.n,by show fk _ s.ms a H3; rw[tc]; exact .nil B6,by rw[hf.1]; exact G.r0,by rw[hf.2.1]; exact G.t0,λ t q ht=>let ⟨v,m1,m2⟩:=G.tm t q ht; ⟨v,m1,m2.grow h8⟩⟩
  have:=base.dF (d:=o.dst) (p:=.val (.bool p.isNone)) (v:=.bool p.isNone) (by have:=hc; unfold PS.can at this ⊢; exact this) (gO.refl h7.dz) (.val rfl);exact this
 cases p with
 | none=>exact(hq e' _ H3 NV)
 | some c=>exact(hq (C.gz l r (some c)) e' _ H3 NV).mono λ a' H' ⟨e2,s2,m1,m2⟩=>⟨some c,e2,s2,m1,m2⟩
end y
def LN (P:Program) (O:ia) (f:FuncId) (first cap:List PV) (ok:List aJ->Prop) (xs:List (List PV)):Prop:=
 ∀ (l:Nat) (r:gY) (C:fS),C.H0.get l=some (.loop r)->r.state=.ready ->
 ∀ (J:Nat->List aJ->List Nat->Prop) (ag:Code->List aJ->List Nat->Prop),
  (∀ i fr tk,J i fr tk->fr.length=C.yO.length/\tk.length=C.toks.length/\ok fr) ->
  (∀ i x fr tk,xs[i]? = some x->J i fr tk->Mp P O C l r x fr tk (λ p fr' tk'=>match p with | none=>J (i+1) fr' tk' | some c=>ag c fr' tk')) ->
  ∀ e fr tk H vs,df C e fr tk H->J 0 fr tk->L2 (RV e tk H true) (first++[.val (.func (.yield l) #[] #[])]++cap) vs ->
   uP P O f vs H (λ v H'=>∃ p e' fr' tk',df (C.gz l r p) e' fr' tk' H'/\match p with | none=>J xs.length fr' tk' | some c=>ag c fr' tk')
def acv (P:Program) (fn:Func) (K:Option Code->List aJ->List Nat->Prop):Option Code->AX->PS->Prop:=λ p x s=>LH x/\s.ms=[]/\(∃ q,jy P s fn.results.toList=some q)/\K p s.fr s.tk
theorem fu.enter {C:fS} {l:Nat} {r:gY} {f:FuncId} {fn:Func} {c:Code} {args:List PV} {fr:List aJ} {tk:List Nat} {e:cz} {H:AH} {vs:List Value} {K:Option Code->List aJ->List Nat->Prop} (hf:P.funcs[f]? = some fn) (hc:fn.body=some c) (hn:Nat.ble args.length fn.ntmps=true) (hm:Nat.ble args.length 1000000=true)
  (Y:(fn.name == "runtime.NumGoroutine")=false) (h0:nv O f args=none) (hr:fr.length=C.yO.length) (ht:tk.length=C.toks.length) (G:df C e fr tk H) (ha:L2 (RV e tk H true) args vs)
  (h:fu P O C l r c (PS.start fn.ntmps args fr tk) (acv P fn K)):uP P O f vs H (λ v H'=>∃ p e' fr' tk',df (C.gz l r p) e' fr' tk' H'/\K p fr' tk'):=by
 rw[Nat.ble_eq] at hn hm;refine uP.call (mL hf hc (by rw[<- ha.1]; exact hn) (by rw[<- ha.1]; exact hm) Y) ?_ ?_
 ·exact vx h0 ha.1
 ·refine(h e (cO fn.ntmps vs) H ⟨G,rfl,.nil rfl,hr.symm,ht.symm,λ t p ht=>?_⟩).mono λ x a' H' ⟨p,e',s',B,D,tc,⟨q,V⟩,h4⟩=>?_
  ·simp only[PS.start] at ht;rw[iX args 0 _ (by omega) t] at ht;split at ht
   ·obtain⟨v,hv,rb⟩:=ha.at ht;refine⟨v,?_,rb⟩;unfold cO;simp only;rw[iX vs 0 _ (by rw[<- ha.1]; omega) t,if_pos (by rw[<- ha.1]; assumption)];exact hv
   ·rw[T.lT] at ht; cases ht
  ·obtain⟨v,k1,k2⟩:=B.results V;refine⟨?_,(tc ▸ B.bn).none,v,k1,p,e',s'.fr,s'.tk,B.h,h4⟩;cases x <;> first | exact .inl rfl | exact .inr rfl | exact D.elim
def HQ:PS->List (Tmp×PV)->Option PS
 | s,[]=>some s
 | s,(t,p) :: l=>pick (s.can (some t)) (HQ (s.dF (some t) p) l) none
theorem EW {C:fS} {e:cz} {H:AH} : ∀ {ts:List Tmp} {ps:List PV} {vs:List Value} {s s0:PS} {act:az},cm C e s act H->ts.length=ps.length->L2 (RV e s.tk H true) ps vs->HQ s (ts.zip ps)=some s0->∃ Po,CK act (ts.zip vs)=.ok Po/\cm C e s0 Po H
 | [],ps,vs,s,s0,act,G,hl,hv,h=>by
  cases ps with
  | cons p l=>cases hl
  | nil=>
   have:=hv.fE; subst this;cases h;exact⟨act,rfl,G⟩
 | t :: ts,ps,vs,s,s0,act,G,hl,hv,h=>by
  cases ps with
  | nil=>cases hl
  | cons p ps=>
   obtain⟨v,sI,rfl,B,D⟩:=hv.dE;have h':pick (s.can (some t)) (HQ (s.dF (some t) p) (ts.zip ps)) none=some s0:=h;obtain⟨hcan,h'⟩:=bm h';have ma:=G.dF hcan (gO.refl G.h.dz) B;have hm:s.mem s.fr s.tk=s:=by cases s; rfl
   rw[hm] at ma;have xi:(s.dF (some t) p).tk=s.tk:=by cases s; rfl
   obtain⟨Po,k1,k2⟩:=EW (ts:=ts) (vs:=sI) ma (by simpa using hl) (by rw[xi]; exact D) h';refine⟨Po,?_,k2⟩;show((act.put (some t) v) >>= λ b=>CK b (ts.zip sI))=_;rw[az.yA (G.can hcan)];exact k1
theorem PC.rangeFunc {rnd:Option Nat} {aa:Operand} {params:Array Tmp} {assign body z:Code} {s:PS} {Q:AX->PS->Prop} {f:FuncId} {first cap:List PV} {ok:List aJ->Prop} {xs:List (List PV)} (hg:s.ev aa=some (.fn f first cap)) (hI:LN P O f first cap ok xs) (U:∀ (i:Nat) (x:List PV),xs[i]? = some x->params.toList.length=x.length) (tc:rnd=none->s.ms=[none])
  (J:Nat->List aJ->List Nat->Prop) (ag:AX->List aJ->List Nat->Prop) (hJ:∀ i fr tk,J i fr tk->fr.length=s.fr.length/\tk.length=s.tk.length/\ok fr) (h0:J 0 s.fr s.tk)
  (Lz:∀ (i:Nat) (x:List PV) (fr:List aJ) (tk:List Nat) (l:Nat),xs[i]? = some x->J i fr tk->∃ s0,HQ ⟨s.tm,s.n,fr,tk,s.fr.length,s.tk.length,[]⟩ (params.toList.zip x)=some s0 /\
   PC P O (some l) assign s0 (λ y s1=>y=.normal/\PC P O (some l) body s1 (λ y s2=>match y with | .normal=>J (i+1) s2.fr s2.tk | y=>ag y s2.fr s2.tk)))
  (yW:∀ fr tk,J xs.length fr tk->PC P O rnd z ⟨s.tm,s.n,fr,tk,s.r0,s.t0,s.ms⟩ Q)
  (ow:∀ y fr tk,ag y fr tk->y≠.normal->∃ s',bc ⟨s.tm,s.n,fr,tk,s.r0,s.t0,s.ms⟩ s'/\Q y s'):PC P O rnd (.seq (.rangeFunc aa params assign body) z) s Q:=λ C e a H G hX=>by
 obtain⟨v,FB,xQ⟩:=G.ev hg;cases xQ with
 | @fn _ _ _ _ fvs cvs mH hf kM hc=>
 obtain⟨a1,H1,l,r,hb,hr,wh,Ky,hl,nU,B6⟩:∃ a1 H1 l r,HP params.toList assign body rnd a H a1 H1 l r/\r=rU a params.toList assign body r.mark/\df C e s.fr s.tk H1/\Grow e s.tk H e s.tk H1/\H1.get l=some (.loop r)/\H.next<=l /\
   (∀ H3,(∀ m,m≠l->H1.get m=some (.mark true)->H3.get m=some (.mark true))->fk C.H0.next (s.ms) a1 H3)/\a1.tm=a.tm/\a1.n=a.n:=by
  cases rnd with
  | none=>
   obtain⟨m1,m2⟩:=G.h.jU (.mark true) (λ r e=>by cases e);obtain⟨m3,m4⟩:=m1.jU (.loop (rU a params.toList assign body H.next)) (λ r e=>by cases e);have gg:Grow e s.tk H e s.tk ((H.jU (.mark true)).jU (.loop (rU a params.toList assign body H.next))):=
    ⟨Nat.le_trans m2.next m4.next,λ _ _ h=>h,λ id aU en _ hs=>⟨Nat.lt_of_lt_of_le hs.lt (Nat.le_trans m2.next m4.next),Nat.lt_of_lt_of_le hs.we (Nat.le_trans m2.next m4.next),hs.x,hs.row,hs.tok⟩,λ id q n hq hs=>by
     have cG:=G.h.dz.wf.lt _ _ hq;refine⟨q,?_,Meta.refl q,λ _ _=>rfl⟩;rw[AH.fI,if_neg (by show id≠H.next+1; omega),AH.fI,if_neg (by omega)];exact hq,λ k n hk=>⟨n,hk,Nat.le_refl _,λ _=>rfl⟩,λ k τ ht _ id q hq _ cI=>by
     have cG:=G.h.dz.wf.lt _ _ hq;refine⟨q,?_,Meta.refl q,rfl,ht,λ _ _ _ h=>h,cI⟩;rw[AH.fI,if_neg (by show id≠H.next+1; omega),AH.fI,if_neg (by omega)];exact hq⟩
   refine⟨_,_,_,_,.yY a H,rfl,m3,gg,by rw[AH.fI]; exact if_pos rfl,Nat.le_succ _,λ H3 V=>?_,rfl,rfl⟩;have RK:((H.jU (.mark true)).jU (.loop (rU a params.toList assign body H.next))).get H.next=some (.mark true):=by
    rw[AH.fI,if_neg (by show H.next≠H.next+1; omega),AH.fI,if_pos rfl]
   have hold:∀ m,H.get m=some (.mark true)->H3.get m=some (.mark true):=λ m hm=>by
    have cG:=G.h.dz.wf.lt _ _ hm;refine V m (by omega) ?_;rw[AH.fI,if_neg (by show m≠H.next+1; omega),AH.fI,if_neg (by omega)];exact hm
   have hmr:=G.bn;rw[tc rfl] at hmr ⊢;have mU:∀ d∈a.bn,tA C.H0.next a H none d:=hmr.fc;have cG:∀ (i m:Nat),a.bn[i]? = some (.mark m)->m < H.next:=λ i m N=>by
    have:=mU _ (List.mem_of_getElem? N);exact G.h.dz.wf.lt _ _ this.2
   refine⟨λ d hd=>?_,λ i j m N X=>?_⟩
   ·rcases List.mem_cons.1 hd with e1 | hd
    ·subst e1; exact⟨G.h.bC.next,V _ (by omega) RK⟩
    ·have Du:=mU d hd;cases d with
     | mark m=>exact⟨Du.1,hold _ Du.2⟩
     | call f vs=>exact Du.elim
   ·cases i with
    | zero=>
     cases j with
     | zero=>rfl
     | succ j=>
      simp only[List.getElem?_cons_zero,List.getElem?_cons_succ,Option.some.injEq,rF.mark.injEq] at N X;have:=cG j m X; omega
    | succ i=>
     cases j with
     | zero=>
      simp only[List.getElem?_cons_zero,List.getElem?_cons_succ,Option.some.injEq,rF.mark.injEq] at N X;have:=cG i m N; omega
     | succ j=>rw[hmr.nd i j m (by simpa using N) (by simpa using X)]
  | some lp=>
   obtain⟨r0,KD⟩:=hX lp rfl;have acw:H.get lp=some (.loop r0):=G.h.kP KD (λ r e=>by cases e) (λ _ _ e=>by cases e);obtain⟨m3,m4⟩:=G.h.jU (.loop (rU a params.toList assign body r0.mark)) (λ r e=>by cases e);refine⟨_,_,_,_,.GJ a H lp r0 acw,rfl,m3,m4,by rw[AH.fI]; exact if_pos rfl,Nat.le_refl _,λ H3 V=>?_,rfl,rfl⟩;refine G.bn.step λ m hm=>?_;have cG:=G.h.dz.wf.lt _ _ hm;refine V m (by omega) ?_;rw[AH.fI,if_neg (by omega)];exact hm
 obtain⟨B6,Oj,xj⟩:=B6;have GK:r.state=.ready:=by rw[hr]; rfl
 have Xg:r.params=params.toList:=by rw[hr]; rfl
 have acx:r.assign=assign:=by rw[hr]; rfl
 have acy:r.body=body:=by rw[hr]; rfl
 have acz:r.tm=a.tm:=by rw[hr]; rfl
 have Z5:r.n=a.n:=by rw[hr]; rfl
 have Km:=wh.dz;have TZ:df (je e s.tk H1) e s.fr s.tk H1:=df.start Km wh.xc;have eH:∀ {e':cz} {fr':List aJ} {tk':List Nat} {H':AH},df (je e s.tk H1) e' fr' tk' H'->Grow e s.tk H1 e' tk' H':=λ h=>kn h.ext h.bC h.x0 Km;refine WC.rangeFunc hb FB ?_;have nQ:L2 (RV e s.tk H1 true) (first++[.val (.func (.yield l) #[] #[])]++cap) (fvs.toArray.toList++[.func (.yield l) #[] #[]]++cvs.toArray.toList):=by
  have k1:L2 (RV e s.tk H true) first fvs:=⟨mH,hf⟩
  have k2:L2 (RV e s.tk H true) cap cvs:=⟨kM,hc⟩
  simpa using((k1.grow Ky).append (L2.cons (.val rfl) L2.nil)).append (k2.grow Ky)
 refine(hI l r (je e s.tk H1) hl GK J (λ c fr tk=>∃ y,c6 y=some c/\ag y fr tk) (λ i fr tk X=>?_) (λ i x fr tk Y X=>?_) e s.fr s.tk H1 _ TZ h0 nQ).mono λ v H2 ⟨p,e',fr',tk',k1,k2⟩=>?_
 ·obtain⟨b1,b2,b3⟩:=hJ i fr tk X;exact⟨b1.trans Km.dY.symm,b2.trans Km.dD.symm,b3⟩
 ·
  intro e0 H0 vs yP Om;obtain⟨b1,b2,b3⟩:=hJ i fr tk X;obtain⟨s0,ym,hpc⟩:=Lz i x fr tk l Y X;have Bm:H0.get l=some (.loop r):=yP.kP hl (λ r e=>by cases e) (λ _ _ e=>by cases e);have YV:=yP.dz;have gr:=eH yP;have xT:cm (je e0 tk H0) e0 ⟨s.tm,s.n,fr,tk,s.fr.length,s.tk.length,[]⟩ { tm:=r.tm,n:=r.n,bn:=[] } H0:=
   ⟨df.start YV yP.xc,by rw[Z5]; exact G.n,.nil rfl,by show e0.aY.length=s.fr.length; rw[YV.dY,b1],by show e0.toks.length=s.tk.length; rw[YV.dD,b2],λ t q ht=>by
    obtain⟨u,m1,m2⟩:=G.tm t q ht;exact⟨u,by rw[acz]; exact m1,(m2.grow Ky).grow gr⟩⟩
  obtain⟨act,m1,m2⟩:=EW xT (U i x Y) Om ym;have hlx:r.params.length=vs.length:=by rw[Xg,U i x Y]; exact Om.1
  refine⟨hlx,act,by rw[Xg]; exact m1,?_⟩;rw[acx];have acA:LG (some l) (je e0 tk H0):=λ l' Kj=>by cases Kj; exact⟨r,Bm⟩
  refine(hpc (je e0 tk H0) e0 act H0 m2 acA).mono λ y tS RP ⟨e1,s1,n1,hy,n2⟩=>⟨hy,r,n1.h.kP Bm (λ r e=>by cases e) (λ _ _ e=>by cases e),GK,?_⟩
  have RS:RP.get l=some (.loop r):=n1.h.kP Bm (λ r e=>by cases e) (λ _ _ e=>by cases e);rw[<- acy] at n2;have bb0:ot l (je e0 tk H0).H0 (H0.set l (.loop { r with state:=.busy })):=ot.set Bm;have bb1:ot l RP (RP.set l (.loop { r with state:=.busy })):=ot.set RS;have n1':cm ((je e0 tk H0).to (H0.set l (.loop { r with state:=.busy }))) e1 s1 tS (RP.set l (.loop { r with state:=.busy })):=
   ⟨n1.h.N0 bb0 bb1 (by rw[AH.bS,AH.bS,if_pos rfl,if_pos rfl]),n1.n,n1.bn.step λ m hm=>by rw[AH.bS,if_neg (λ e=>by subst e; rw[RS] at hm; cases hm)]; exact hm,n1.r0,n1.t0,λ t q ht=>let ⟨u,o1,o2⟩:=n1.tm t q ht; ⟨u,o1,o2.grow (bb1.grow _ _)⟩⟩
  refine(n2 _ e1 tS _ n1' (λ l' Kj=>by cases Kj; exact⟨_,by show(H0.set l _).get l=_; rw[AH.bS,if_pos rfl]⟩)).mono λ y2 acs FO ⟨e2,s2,q1,q2⟩=>?_;have Oq:FO.get l=some (.loop { r with state:=.busy }):=q1.h.kP (by show(H0.set l _).get l=_; rw[AH.bS,if_pos rfl]) (λ r e=>by cases e) (λ _ _ e=>by cases e);refine⟨_,Oq,e2,s2.fr,s2.tk,?_,?_,?_⟩
  ·have VK:ot l FO (FO.set l (.loop r)):=ot.set Oq;have w1:df (je e0 tk H0) e2 s2.fr s2.tk (FO.set l (.loop r)):=by
    have:=q1.h.N0 (H0':=H0) (l:=l) bb0.sym VK (by rw[AH.bS,if_pos rfl,Bm]);exact this
   have w2:df (je e s.tk H1) e2 s2.fr s2.tk (FO.set l (.loop r)):=yP.step w1.ct;have Kp:ot l (FO.set l (.loop r)) (FO.set l (.loop { r with state:=if (c6 y2).isNone then .ready else .done,pending:=c6 y2 })):=VK.sym.trans (ot.set Oq);cases hj2:c6 y2 with
   | none=>
    rw[hj2] at Kp;refine w2.N0 (H0':=H1) (ot.refl hl) Kp ?_;rw[AH.bS,if_pos rfl,hl,hr]; rfl
   | some c=>
    rw[hj2] at Kp;refine w2.N0 (ot.set hl) Kp ?_;rw[AH.bS,if_pos rfl,AH.bS,if_pos rfl]; rfl
  ·have VK:ot l FO (FO.set l (.loop r)):=ot.set Oq;have w1:df (je e0 tk H0) e2 s2.fr s2.tk (FO.set l (.loop r)):=q1.h.N0 (H0':=H0) (l:=l) bb0.sym VK (by rw[AH.bS,if_pos rfl,Bm]);have Kp:ot l (FO.set l (.loop r)) (FO.set l (.loop { r with state:=if (c6 y2).isNone then .ready else .done,pending:=c6 y2 })):=VK.sym.trans (ot.set Oq);have g1:=w1.ct.grow YV;have g2:=Kp.grow e2 s2.tk;exact⟨Nat.le_trans g1.next g2.next,g1.aY,λ id aU en ho hs=>⟨by rw[Kp.next]; exact(g1.eR id aU en ho hs).lt,by rw[Kp.next]; exact(g1.eR id aU en ho hs).we,(g1.eR id aU en ho hs).x,(g1.eR id aU en ho hs).row,(g1.eR id aU en ho hs).tok⟩,λ id q n hq hs=>by
    obtain⟨q',c1,c2,c3⟩:=g1.row id q n hq hs;exact⟨q',Kp.row c1,c2,c3⟩,g1.tok,λ k τ ht hm id q hq hf cI=>by
    obtain⟨q',c1,c2,c3⟩:=g1.Ld k τ ht hm id q hq hf cI;exact⟨q',Kp.row c1,c2,c3⟩⟩
  ·cases y2 with
   | normal=>exact q2
   | ret=>exact⟨.ret,rfl,q2⟩
   | exit id=>exact⟨.exit id,rfl,q2⟩
   | goto id=>exact⟨.goto id,rfl,q2⟩
 ·
  have hlC:∃ r2,H2.get l=some (.loop r2)/\(r2.state == .busy)=false/\r2.pending=p:=by
   cases p with
   | none=>exact⟨r,k1.kP hl (λ r e=>by cases e) (λ _ _ e=>by cases e),by rw[GK]; rfl,by rw[hr]; rfl⟩
   | some c=>exact⟨cy.gz r (some c),k1.kP (by show(H1.set l _).get l=_; rw[AH.bS,if_pos rfl]) (λ r e=>by cases e) (λ _ _ e=>by cases e),rfl,rfl⟩
  obtain⟨r2,Oq,Ke,AD⟩:=hlC;refine⟨r2,Oq,Ke,?_⟩;rw[AD];have bl:ot l H2 (H2.set l (.loop r)):=ot.set Oq;have w0:df (je e s.tk H1) e' fr' tk' (H2.set l (.loop r)):=by
   cases p with
   | none=>exact k1.N0 (H0':=H1) (ot.refl hl) bl (by rw[AH.bS,if_pos rfl,hl])
   | some c=>exact k1.N0 (H0':=H1) (ot.set hl).sym bl (by rw[AH.bS,if_pos rfl,hl])
  have w1:df C e' fr' tk' (H2.set l (.loop r)):=wh.step w0.ct;have b3:ot l (H2.set l (.loop r)) (H2.set l (.loop { r2 with state:=.exhausted,pending:=p })):=bl.sym.trans (ot.set Oq);have hlC:C.H0.next<=l:=Nat.le_trans G.h.bC.next nU;have w2:=w1.acu b3 hlC;have gr:=eH w0;have NV:cm C e' ⟨s.tm,s.n,fr',tk',s.r0,s.t0,s.ms⟩ a1 (H2.set l (.loop { r2 with state:=.exhausted,pending:=p })):=by
   refine⟨w2,by rw[xj]; exact G.n,B6 _ λ m hml hm=>?_,G.r0,G.t0,λ t q ht=>?_⟩
   ·have:=w0.kP hm (λ r e=>by cases e) (λ _ _ e=>by cases e);rw[b3.jY m hml]; exact this
   ·obtain⟨u,m1,m2⟩:=G.tm t q ht;exact⟨u,by rw[Oj]; exact m1,((m2.grow Ky).grow gr).grow (b3.grow _ _)⟩
  cases p with
  | none=>exact yW fr' tk' k2 C e' a1 _ NV hX
  | some c=>
   obtain⟨y,hy,hd⟩:=k2;obtain⟨s',hw9,hq9⟩:=ow y fr' tk' hd (λ e=>by subst e; cases hy);obtain⟨e9,hR9⟩:=hw9 _ _ _ _ NV;exact WC.acq hy ⟨e9,s',hR9,hq9⟩
end
end Go.cy
namespace Go.cy
noncomputable section
variable {P:Program} {O:ia}
def Ji (s:PS):List (Nat×PV)->Prop
 | []=>True
 | (t,q) :: l=>(∃ p,s.tm.get t=some p/\gX 0 0 p q)/\Ji s l
theorem Ji.at {s:PS} : ∀ {es:List (Nat×PV)} {t:Nat} {q:PV},Ji s es->(t,q)∈es->∃ p,s.tm.get t=some p/\gX 0 0 p q
 | (t',q') :: es,t,q,h,hm=>by
  rcases List.mem_cons.1 hm with e1 | hm
  ·cases e1; exact h.1
  ·exact Ji.at h.2 hm
theorem bc.FQ {s:PS} {es:List (Nat×PV)} (h:Ji s es):bc s (PS.mS s.ms s.n es s.fr s.tk s.r0 s.t0):=λ C e a H G=>
 ⟨e,⟨G.h,G.n,G.bn,G.r0,G.t0,λ t q hq=>by
  obtain⟨p,B,D⟩:=h.at (ni es t q hq);obtain⟨v,V,h4⟩:=G.tm t p B;exact⟨v,V,h4.wk (λ k a b=>by omega) D⟩⟩⟩
theorem bc.acB {s:PS} {es:List (Nat×PV)} {VL:List aJ} {VM:List Nat} (h:Ji s es) (hf:s.fr=VL) (ht:s.tk=VM):bc s (PS.mS s.ms s.n es VL VM s.r0 s.t0):=by
 subst hf; subst ht;exact bc.FQ h
theorem As {α:Type} (l2:List α):∀ (l:List α) (k:Nat),pY [] l2 k l=l
 | [],_=>rfl
 | x :: l,k=>by
  show x :: pY [] l2 (k+1) l=_;rw[As l2 l (k+1)]
theorem BW {α:Type} (l:List α):fw l [] []=l:=by
 unfold fw; rw[As]; simp
section
variable {s:PS} {d:Option Tmp} {ty:TypeId} {pst:String} {af:Array Edge} {gu:Option (Nat×Bool)}
theorem zV {t:TypeId} {x:Operand} {k off:Nat} {R:aJ} {p:PV} (Y:s.ev x=some (.ptr k off)) (hr:s.fr[k]? = some R) (ha:rm P t=.ok false) (hc:R.cells[off]? = some p) (hz:Nat.beq R.esz kY=false:=by rfl):cX P O s ⟨d,.load t x,ty,pst,af,gu⟩ p:=
 .DK rfl λ C e a H G=>by
  obtain⟨v,B,D⟩:=G.ev Y;obtain⟨id,o,u,V,h4,h5⟩:=G.load (P:=P) (t:=t) (q:=p) D (by simp only[nT,hr,hz,ha,hc]);exact⟨0,u,by simp only[b9,az.aL B,bind,Except.bind,V,h4],h5⟩
end
section y
variable {C:fS} {l:Nat} {r:gY} {s:PS} {Q:Option Code->AX->PS->Prop} {p:Option Code} {z:Code}
theorem ql.eF {id:Nat} (h:xy P O C l r z Q p s):ql P O C l r id z Q p (.exit id) s:=by simp only[ql,if_true]; exact h
theorem zE.exit {aj:Nat->PS->Prop} {k id:Nat} (h:Q p (.exit id) s):zE aj k Q p (.exit id) s:=by cases p <;> exact h
end y
theorem uP.HR {f:FuncId} {fn:Func} {c:Code} {vs:List Value} {H:AH} {Q:Value->AH->Prop} (hb:mj P f vs=.ok (fn,c)) (hk:cy.fR O f vs=none)
  (h:WC P O none c (cO fn.ntmps vs) H (λ e a1 H1=>(e=.normal\/e=.ret)/\∃ H2,(∀ rec,eh P rec a1.bn H1=.ok H2)/\∃ v,c9 P H2 a1 fn.results.toList=.ok v/\Q v H2)):uP P O f vs H Q:=by
 obtain⟨n,e,a1,H1,B,D,H2,V,v,h4,h5⟩:=h;refine⟨n+1,v,H2,?_,h5⟩;simp only[bF,hk,bO,hb];show(bF P O n (.code none c (cO fn.ntmps vs)) H >>= _)=_;rw[B];rcases D with rfl | rfl
 ·show(eh P (bF P O n) a1.bn H1 >>= _)=_;rw[V];show(c9 P H2 a1 fn.results.toList >>= _)=_;rw[h4]; rfl
 ·show(eh P (bF P O n) a1.bn H1 >>= _)=_;rw[V];show(c9 P H2 a1 fn.results.toList >>= _)=_;rw[h4]; rfl
theorem df.mark {C:fS} {e:cz} {fr:List aJ} {tk:List Nat} {m:Nat} {H:AH} (h:df C e fr tk H) (hm:H.get m=some (.mark true)) (hl:C.H0.next<=m):df C e fr tk (H.set m (.mark false))/\Grow e tk H e tk (H.set m (.mark false)):=by
 have eH:∀ {id:Nat} {r:Row},H.get id=some (.row r)->(H.set m (.mark false)).get id=some (.row r):=λ {id r} hr=>by
  rw[AH.bS,if_neg (λ e=>by subst e; rw[hm] at hr; cases hr)]; exact hr
 have nS:∀ {id:Nat} {r:Row},(H.set m (.mark false)).get id=some (.row r)->H.get id=some (.row r):=λ {id r} hr=>by
  rw[AH.bS] at hr;split at hr
  ·cases hr
  ·exact hr
 have aa:Grow e tk H e tk (H.set m (.mark false)):=⟨Nat.le_refl _,λ _ _ h=>h,λ id aU en _ hs=>⟨hs.lt,hs.we,hs.x,hs.row,hs.tok⟩,λ id r n hr _=>⟨r,eH hr,Meta.refl r,λ _ _=>rfl⟩,λ k n hk=>⟨n,hk,Nat.le_refl _,λ _=>rfl⟩,λ k τ ht _ id r hr _ cI=>⟨r,eH hr,Meta.refl r,rfl,ht,λ _ _ _ h=>h,cI⟩⟩
 have hI:=h.dz;refine⟨⟨⟨⟨λ id o ho=>?_,λ id r hr=>hI.wf.aU id r (nS hr),pX hI.wf λ id r hr=>.inr ⟨id,r,nS hr,rfl,rfl,rfl⟩⟩,hI.dY,hI.rnd,λ k id R hk G=>?_,hI.dD,hI.iy,hI.oI,hI.tq⟩,h.ext,⟨h.bC.next,λ id r hr cI=>?_,λ id o ho Bn cI=>?_,λ id cG kV=>?_,λ id r hr=>h.bC.aU id r (nS hr)⟩,h.cw,h.x,h.x0⟩,aa⟩
 ·rw[AH.bS] at ho;show id < H.next;split at ho
  ·rename_i e1; rw[e1]; exact hI.wf.lt _ _ hm
  ·exact hI.wf.lt _ _ ho
 ·obtain⟨o,D,V⟩:=(hI.row k id R hk G).eF;exact(hI.row k id R hk G).eR rfl (by rw[AH.bS,if_neg (λ e=>by subst e; rw[hm] at D; cases D; rcases V with⟨r,e⟩ | ⟨es,c,e⟩ <;> cases e)]) λ us h8=>h8.grow aa
 ·obtain⟨r',k1,k2,k3,k4⟩:=h.bC.row id r hr cI;exact⟨r',eH k1,k2,k3,k4⟩
 ·have:=h.cw.wf.lt id o ho;rw[AH.bS,if_neg (by omega)]; exact h.bC.jY id o ho Bn cI
 ·rw[AH.bS,if_neg (by omega)]; exact h.bC.jo id cG kV
theorem xN {C:fS} {e:cz} {fr:List aJ} {tk:List Nat} (tm:T Value) (n:Nat):∀ {l:List rF} {H:AH},df C e fr tk H->fk C.H0.next [none] ⟨tm,n,l⟩ H->∃ H2,(∀ rec,eh P rec l H=.ok H2)/\df C e fr tk H2/\Grow e tk H e tk H2
 | [],H,G,hm=>⟨H,λ rec=>rfl,G,⟨Nat.le_refl _,λ _ _ h=>h,λ _ _ _ _ h=>h,λ id r n hr _=>⟨r,hr,Meta.refl r,λ _ _=>rfl⟩,λ k n hk=>⟨n,hk,Nat.le_refl _,λ _=>rfl⟩,λ k τ ht _ id r hr _ cI=>⟨r,hr,Meta.refl r,rfl,ht,λ _ _ _ h=>h,cI⟩⟩⟩
 | d :: l,H,G,hm=>by
  have mU:∀ x∈d :: l,tA C.H0.next ⟨tm,n,d :: l⟩ H none x:=hm.fc;cases d with
  | call f vs=>exact(mU _ List.mem_cons_self).elim
  | mark m=>
   obtain⟨V,h4⟩:=mU _ List.mem_cons_self;obtain⟨k1,k2⟩:=G.mark h4 V;have ee:∀ (j m':Nat),l[j]? = some (.mark m')->m'≠m:=λ j m' X e1=>by
    subst e1;have:=hm.nd 0 (j+1) m' rfl X;omega
   have AF:fk C.H0.next [none] ⟨tm,n,l⟩ (H.set m (.mark false)):=by
    refine⟨λ x Y=>?_,λ i j m' N X=>?_⟩
    ·have Du:=mU x (List.mem_cons_of_mem _ Y);cases x with
     | mark m'=>
      obtain⟨i,N⟩:=List.mem_iff_getElem?.1 Y;exact⟨Du.1,by rw[AH.bS,if_neg (ee i m' N)]; exact Du.2⟩
     | call f vs=>exact Du.elim
    ·have:=hm.nd (i+1) (j+1) m' N X;omega
   obtain⟨H2,q1,q2,q3⟩:=xN tm n k1 AF;refine⟨H2,λ rec=>?_,q2,?_⟩
   ·show(match H.get m with | some (.mark true)=>eh P rec l (H.set m (.mark false)) | _=>.error 98)=_;rw[h4];exact q1 rec
   ·exact⟨Nat.le_trans k2.next q3.next,λ _ _ h=>h,λ id aU en ho hs=>⟨Nat.lt_of_lt_of_le hs.lt (Nat.le_trans k2.next q3.next),Nat.lt_of_lt_of_le hs.we (Nat.le_trans k2.next q3.next),hs.x,hs.row,hs.tok⟩,λ id r n hr hs=>by
     obtain⟨r1,a1,Z,a3⟩:=k2.row id r n hr hs;have Kw:=k2.eR id _ _ ⟨_,hr,rfl⟩ hs;obtain⟨r2,b1,b2,b3⟩:=q3.row id r1 n a1 (by rw[Z.aU,Z.bJ]; exact Kw);exact⟨r2,b1,Z.trans b2,λ p U=>(b3 p U).trans (a3 p U)⟩,λ k n hk=>⟨n,hk,Nat.le_refl _,λ _=>rfl⟩,λ k τ ht hm id r hr hf cI=>by
     obtain⟨r1,a1,Z,a3,_⟩:=k2.Ld k τ ht hm id r hr hf cI;obtain⟨r2,b1,b2,b3,_⟩:=q3.Ld k τ ht hm id r1 a1 (Z.aU.trans hf) cI;exact⟨r2,b1,Z.trans b2,b3.trans a3,ht,λ _ _ _ h=>h,cI⟩⟩
def PS.Mq (n:Nat) (args:List PV) (fr:List aJ) (tk:List Nat):PS:=⟨(PS.start n args fr tk).tm,n,fr,tk,fr.length,tk.length,[none]⟩
def Xh (P:Program) (fn:Func) (Q:PV->List aJ->List Nat->Prop):AX->PS->Prop:=λ x s=>LH x/\s.ms=[none]/\∃ (p:PV) (ks ts:List Nat) (p1 p':PV) (fr':List aJ),
 jy P s fn.results.toList=some p/\(dZ s.r0 s.fr.length ks,dZ s.t0 s.tk.length ts,cr (nK s ks ts) ks,PV.to (fL ks) (fL ts) 4 p)=(true,true,some fr',some p1)/\gX 0 0 p1 p'/\Q p' fr' (bY s.tk ts)
theorem PF.GL {f:FuncId} {fn:Func} {c:Code} {args:List PV} {fr:List aJ} {tk:List Nat} {Q:PV->List aJ->List Nat->Prop} (hf:P.funcs[f]? = some fn) (hc:fn.body=some c) (hn:Nat.ble args.length fn.ntmps=true) (hm:Nat.ble args.length 1000000=true)
  (Y:(fn.name == "runtime.NumGoroutine")=false) (hk:nv O f args=none) (h:PC P O none c (PS.Mq fn.ntmps args fr tk) (Xh P fn Q)):PF P O f args fr tk Q:=by
 intro e H vs hI hX ha;rw[Nat.ble_eq] at hn hm;refine uP.HR (mL hf hc (by rw[<- ha.1]; exact hn) (by rw[<- ha.1]; exact hm) Y) ?_ ?_
 ·exact vx hk ha.1
 ·refine(h (je e tk H) e (cO fn.ntmps vs) H ⟨df.start hI hX,rfl,.any rfl,hI.dY,hI.dD,λ t p ht=>?_⟩ (λ l hl=>by cases hl)).mono λ x a' H' ⟨e',s',B,D,tc,p,ks,ts,p1,p',fr',V,h5,h6,h4⟩=>?_
  ·simp only[PS.Mq,PS.start] at ht;rw[iX args 0 _ (by omega) t] at ht;split at ht
   ·obtain⟨v,hv,rb⟩:=ha.at ht;refine⟨v,?_,rb⟩;unfold cO;simp only;rw[iX vs 0 _ (by rw[<- ha.1]; omega) t,if_pos (by rw[<- ha.1]; assumption)];exact hv
   ·rw[T.lT] at ht; cases ht
  ·obtain⟨H2,l1,l2,l3⟩:=xN (P:=P) a'.tm a'.n (l:=a'.bn) B.h (tc ▸ B.bn);have Fy:cm (je e tk H) e' ⟨s'.tm,s'.n,s'.fr,s'.tk,s'.r0,s'.t0,[]⟩ ⟨a'.tm,a'.n,[]⟩ H2:=⟨l2,B.n,.nil rfl,B.r0,B.t0,λ t q hq=>let ⟨v,m1,m2⟩:=B.tm t q hq; ⟨v,m1,m2.grow l3⟩⟩
   have DL:jy P ⟨s'.tm,s'.n,s'.fr,s'.tk,s'.r0,s'.t0,[]⟩ fn.results.toList=some p:=by
    have key:∀ rs,kp P ⟨s'.tm,s'.n,s'.fr,s'.tk,s'.r0,s'.t0,[]⟩ rs=kp P s' rs:=by
     intro rs
     induction rs with
     | nil=>rfl
     | cons r rs ih=>
      have e1:vn P ⟨s'.tm,s'.n,s'.fr,s'.tk,s'.r0,s'.t0,[]⟩ r=vn P s' r:=by cases r <;> rfl
      simp only[kp,e1,ih]
    unfold jy at V ⊢;rw[key]; exact V
   obtain⟨v,k1,k2⟩:=Fy.results DL;simp only[Prod.mk.injEq] at h5;obtain⟨g1,g2,g3,g4⟩:=h5;obtain⟨m1,m2⟩:=C0 g3;have VF:yd e' s'.tk H2 ts e'.an:=pB;have mA:=rY Fy.h.dz (fo g1) (fo g2) VF;have h7:=Fy.oJ (fo g1) (fo g2) m1 m2 (tm1:=.nil) (λ t q h=>by cases h);refine⟨?_,H2,l1,v,?_,e'.oJ ks ts e'.an,fr',bY s'.tk ts,p',h7.h.ct,?_,h4⟩
   ·cases x <;> first | exact .inl rfl | exact .inr rfl | exact D.elim
   ·have:∀ rs,c9 P H2 a' rs=c9 P H2 ⟨a'.tm,a'.n,[]⟩ rs:=λ rs=>rfl;rw[this]; exact k1
   ·exact(k2.oJ mA 4 g4).wk (λ k a b=>by omega) h6
theorem LO {s:PS} {fn:Func} {Qf:PV->List aJ->List Nat->Prop} (ks ts:List Nat) {p1 p':PV} {fr':List aJ} (h:(D3 P s fn.results.toList ks ts,dZ s.r0 s.fr.length ks,dZ s.t0 s.tk.length ts,cr (nK s ks ts) ks,s.ms)=(some p1,true,true,some fr',[none])) (hl:gX 0 0 p1 p') (hq:Qf p' fr' (bY s.tk ts)):Xh P fn Qf .ret s:=by
 simp only[Prod.mk.injEq] at h;obtain⟨B,D,V,h4,tc⟩:=h;unfold D3 at B;cases U:jy P s fn.results.toList with
 | none=>rw[U] at B; cases B
 | some p=>rw[U] at B; exact⟨trivial,tc,p,ks,ts,p1,p',fr',U,by rw[D,V,h4]; exact congrArg (λ z=>(true,true,some fr',z)) B,hl,hq⟩
theorem aq {α β:Type} {x:Option α} {f:α->Option β} {r:β} {p:Prop} (h:Option.bind x f=some r) (k:∀ a,x=some a->f a=some r->p):p:=let ⟨a,B,D⟩:=bind_some h; k a B D
theorem oE {α β:Type} {L:List α} {i:Int} {f:α->Option β} {r:β} {p:Prop} (h:bp L i f=some r) (k:∀ y,0<=i->L[i.toNat]? = some y->f y=some r->p):p:=let ⟨y,h0,B,D⟩:=ux h; k y h0 B D
theorem pZ {α β:Type} {n:Nat} {L M:List α} {f:List α->Option β} {r:β} {p:Prop} (h:mw n L M f=some r) (k:(5 * (L.length+M.length)+768) * n<=1125899906842624->f (L++M)=some r->p):p:=let ⟨B,D⟩:=Hh h; k B D
theorem CL {α β:Type} {L:List α} {lo N:Int} {f:List α->Option β} {r:β} {p:Prop} (h:lS L lo N f=some r) (k:0<=lo->lo<=N->N<=L.length->f ((L.take N.toNat).drop lo.toNat)=some r->p):p:=let ⟨h0,B,D,V⟩:=uy h; k h0 B D V
theorem CM {β:Type} {n:Int} {f:Option β} {r:β} {p:Prop} (h:rT n f=some r) (k:n≠0->f=some r->p):p:=let ⟨h0,B⟩:=uz h; k h0 B
def uc {β:Type} (n:Nat) (x:Option β):Option β:=bif Nat.ble (n+2) 9223372036854775808 then x else none
theorem xO {β:Type} {n:Nat} {x:Option β} {r:β} (h:uc n x=some r):(n:Int) < 9223372036854775807/\x=some r:=by
 unfold uc at h;cases hb:Nat.ble (n+2) 9223372036854775808 with
 | false=>rw[hb] at h; cases h
 | true=>rw[hb] at h; rw[Nat.ble_eq] at hb; exact⟨by omega,h⟩
theorem C3 {α:Type} {l:List α} {i:Nat} {x:α} (h:l[i]? = some x):l.drop i=x :: l.drop (i+1):=by
 have N:=ax h;rw[List.drop_eq_getElem_cons N];rw[List.getElem?_eq_getElem N] at h;cases h; rfl
theorem sS {α β:Type} {f:α->β} {l:List α} {i:Nat} {y:β} (h:(l.map f)[i]? = some y):∃ x,l[i]? = some x/\y=f x:=by
 rw[List.getElem?_map] at h;cases Y:l[i]? with
 | none=>rw[Y] at h; cases h
 | some x=>rw[Y] at h; cases h; exact⟨x,rfl,rfl⟩
end
end Go.cy
namespace Go.cy
noncomputable section
variable {P:Program} {O:ia}
def gi (P:Program) (O:ia) (rnd:Option Nat) (x:Code) (Q:AX->PS->Prop):AX->PS->Prop
 | .normal,s=>PC P O rnd (.loop x) s Q
 | y,s=>Q y s
theorem PC.m8 {rnd:Option Nat} {x:Code} {s:PS} {Q:AX->PS->Prop} (h:PC P O rnd x s (gi P O rnd x Q)):PC P O rnd (.loop x) s Q:=λ C e a H G hX=>by
 obtain⟨n,y,a1,H1,B,e1,s1,k1,k2⟩:=h C e a H G hX;cases y with
 | normal=>
  obtain⟨m,z,Z,H2,V,h4⟩:=k2 C e1 a1 H1 k1 hX;refine⟨max n m+1,z,Z,H2,?_,h4⟩;simp only[bF,bO,lf (Nat.le_max_left n m) B];show bF P O (max n m) (.code rnd (.loop x) a1) H1=_;exact lf (Nat.le_max_right n m) V
 | exit id=>exact⟨n+1,_,a1,H1,by simp only[bF,bO,B]; rfl,e1,s1,k1,k2⟩
 | goto l=>exact⟨n+1,_,a1,H1,by simp only[bF,bO,B]; rfl,e1,s1,k1,k2⟩
 | ret=>exact⟨n+1,_,a1,H1,by simp only[bF,bO,B]; rfl,e1,s1,k1,k2⟩
theorem gi.end {rnd:Option Nat} {x:Code} {s:PS} {Q:AX->PS->Prop} (h:PC P O rnd (.loop x) s Q):gi P O rnd x Q .normal s:=h
theorem gi.exit {rnd:Option Nat} {x:Code} {s:PS} {Q:AX->PS->Prop} {i:Nat} (h:Q (.exit i) s):gi P O rnd x Q (.exit i) s:=h
section
variable {s:PS} {d:Option Tmp} {ty:TypeId} {pst:String} {af:Array Edge} {gu:Option (Nat×Bool)}
theorem Hk {t el sz ak k off i:Nat} {x y:Operand} {kd:IntKind} (ht:P.underlying t=some (.array ak el)) (hs:bD P el=.ok sz) (Y:s.ev x=some (.ptr k off)) (N:s.ev y=some (.val (.int kd (i:Int)))) (hN:Nat.ble (i+1) ak=true):cX P O s ⟨d,.indexAddr t x y,ty,pst,af,gu⟩ (.ptr k (off+i * sz)):=
 .DK rfl λ C e a H G=>by
  obtain⟨v,B,D⟩:=G.ev Y;obtain⟨u,V,h4⟩:=G.ev N;have e1:=h4.bA; subst e1;rw[Nat.ble_eq] at hN;cases D with
  | @ptr _ _ id hk=>
   refine⟨0,.pointer (some ⟨id,off+i * sz,none⟩),?_,.ptr hk⟩;simp only[b9,az.aL B,az.aL V,bind,Except.bind,ht,kr (m:=(i:Int)) (n:=i) rfl (by omega) (show i<=ak - 1 by omega),hs];rw[if_pos (show i < ak by omega)]
theorem NH {t el sz k off n c i:Nat} {x y:Operand} {kd:IntKind} (ht:P.underlying t=some (.slice el)) (hs:bD P el=.ok sz) (Y:s.ev x=some (.sl k off n c)) (N:s.ev y=some (.val (.int kd (i:Int)))) (hN:Nat.ble (i+1) n=true):cX P O s ⟨d,.indexAddr t x y,ty,pst,af,gu⟩ (.ptr k (off+i * sz)):=
 .DK rfl λ C e a H G=>by
  obtain⟨v,B,D⟩:=G.ev Y;obtain⟨u,V,h4⟩:=G.ev N;have e1:=h4.bA; subst e1;rw[Nat.ble_eq] at hN;cases D with
  | @sl _ _ _ _ id hk=>
   refine⟨0,.pointer (some ⟨id,off+i * sz,none⟩),?_,.ptr hk⟩;simp only[b9,az.aL B,az.aL V,bind,Except.bind,ht,kr (m:=(i:Int)) (n:=i) rfl (by omega) (show i<=n - 1 by omega),hs];rw[if_pos (show i < n by omega)]
end
end
end Go.cy
namespace Go.cy
noncomputable section
variable {P:Program} {O:ia} {e e':cz} {fr fr':List aJ} {tk tk':List Nat} {H H' Oc:AH}
structure AH.ajV (H H':AH):Prop where
 get:∀ j,H'.get j=H.get j
 next:H'.next=H.next
theorem QR.eE {H1:AH} {aU lo N:Nat} (h:QR H H1 aU lo):QR H (H1.eE aU lo N) aU lo:=by
 refine⟨h.nx,λ j o ho hn=>?_,λ j o ho=>?_,λ j r0 h0=>?_⟩
 ·rw[AH.dS,h.jY j o ho hn];cases o with
  | row r=>exact absurd rfl (hn r)
  | _=>rfl
 ·rw[AH.dS] at ho;cases B:H1.get j with
  | none=>rw[B] at ho; cases ho
  | some o1=>
   rw[B] at ho;simp only[Option.map_some,Option.some.injEq] at ho;obtain⟨o',k1,k2,k3⟩:=h.ct j o1 B;refine⟨o',k1,λ hn=>?_,λ r' e1=>?_⟩
   ·have e2:=k2 hn;subst e2;rw[<- ho];cases o' with
    | row r=>exact absurd rfl (hn r)
    | _=>rfl
   ·subst e1;cases o1 with
    | row r1=>
     obtain⟨r0,e3,e4⟩:=k3 r1 rfl;refine⟨r0,e3,?_⟩;simp only[AO.eE] at ho;split at ho <;> (cases ho; exact e4)
    | _=>cases ho
 ·obtain⟨r',k1,k2,k3,k4⟩:=h.row j r0 h0;rw[AH.dS,k1];simp only[Option.map_some,AO.eE];split
  ·rename_i hf;refine⟨_,rfl,⟨k2.ty,k2.aU,k2.bJ,k2.esz,k2.ro,(Row.gJ _ _ _).trans k2.len⟩,λ hn=>absurd (k2.aU.symm.trans hf) hn,λ p U=>?_⟩;rw[Row.dS,<- k4 p U];cases r'.cells[p]? with
   | none=>rfl
   | some c=>simp only[Option.map_some]; rw[if_neg (by rw[k2.bJ]; omega)]
  ·exact⟨r',rfl,k2,k3,k4⟩
structure KA (a:az) (n:Nat) (aa:Nat->Option Value):Prop where
 n:a.n=n
 ms:a.bn=[]
 tm:∀ t v,aa t=some v->a.tm.get t=some v
theorem KA.put {a:az} {n:Nat} {aa:Nat->Option Value} (h:KA a n aa) {d:Nat} (hd:Nat.ble (Nat.succ d) n=true) (hn:Nat.ble n 281474976710654=true) (v:Value):KA (a.dF (some d) v) n (λ t=>if t=d then some v else aa t):=
 ⟨h.n,h.ms,λ t w hw=>by
  rw[Nat.ble_eq] at hd hn;show(T.put AH.top a.tm d v).get t=_;rw[show(T.put AH.top a.tm d v).get t=if t=d then some v else a.tm.get t from T.jB 48 _ _ _ _ (by have:2 ^ 48=281474976710656:=rfl; omega)];replace hw:(if t=d then some v else aa t)=some w:=hw;split at hw
  ·rename_i e1; rw[if_pos e1]; exact hw
  ·rename_i e1; rw[if_neg e1]; exact h.tm t w hw⟩
theorem KA.can {a:az} {n:Nat} {aa:Nat->Option Value} (h:KA a n aa) {d:Nat} (hd:Nat.ble (Nat.succ d) n=true) (hn:Nat.ble n 281474976710654=true):a.can (some d)=true:=by
 unfold az.can;simp only[h.n,hd];exact hn
theorem KA.eval {a:az} {n:Nat} {aa:Nat->Option Value} (h:KA a n aa) {t:Nat} {v:Value} (hv:aa t=some v):a.eval (.tmp t)=.ok v:=az.aL (h.tm t v hv)
theorem WO.ka {rnd:Option Nat} {all os:List Oper} {a:az} {H H1:AH} {Q:az->AH->Prop} {n:Nat} {aa:Nat->Option Value} (h:KA a n aa) {d:Nat} {op:Op} {ty:TypeId} {pst:String} {af:Array Edge} {v:Value}
  (ho:b9 P (bF P O 0) a H ⟨some d,op,ty,pst,af,none⟩=.ok (v,H1)) (Pf:dR op=none) (hd:Nat.ble (Nat.succ d) n=true) (hn:Nat.ble n 281474976710654=true) (k:∀ a',KA a' n (λ t=>if t=d then some v else aa t)->WO P O rnd all os a' H1 Q) :
  WO P O rnd all (⟨some d,op,ty,pst,af,none⟩ :: os) a H Q:=
 WO.one (jP rfl) Pf ⟨0,ho⟩ (h.can hd hn) (k _ (h.put hd hn v))
end
end Go.cy
namespace Go.cy
noncomputable section
variable {P:Program} {O:ia}
theorem J7 {l:List (Option Value)} {o:Nat} {x:Option Value} (h:o < l.length) (j:Nat):(cY l o [x])[j]? = if j=o then some x else l[j]?:=by
 have e:cY l o [x]=l.set o x:=by
  unfold cY;apply List.ext_getElem?;intro j;rw[List.getElem?_set];by_cases B:j < o
  ·rw[if_neg (by omega),List.append_assoc,List.getElem?_append_left (by rw[List.length_take]; omega),List.getElem?_take,if_pos B]
  ·by_cases D:j=o
   ·subst D;rw[if_pos rfl,if_pos h,List.append_assoc,List.getElem?_append_right (by rw[List.length_take]; omega),List.length_take,show j - min j l.length=0 by omega]; rfl
   ·rw[if_neg (by omega),List.getElem?_append_right (by rw[List.length_append,List.length_take,List.length_singleton]; omega),List.getElem?_drop];congr 1;simp only[List.length_append,List.length_take,List.length_singleton]; omega
 rw[e,List.getElem?_set];by_cases D:o=j
 ·subst D; rw[if_pos rfl,if_pos rfl,if_pos h]
 ·rw[if_neg D,if_neg (Ne.symm D)]
end
end Go.cy
namespace Go.cy
noncomputable section
variable {P:Program} {O:ia}
structure kh (F:Nat) (H H':AH):Prop where
 next:H'.next=H.next
 jY:∀ (j:Nat) (o:AO),H.get j=some o->(∀ r,o=.row r->r.aU≠F)->H'.get j=some o
 aU:∀ (j:Nat) (r:Row),H.get j=some (.row r)->r.aU=F->∃ r',H'.get j=some (.row r')/\Meta r r'/\r'.cW=r.cW
 jo:∀ (j:Nat),H.get j=none->H'.get j=none
theorem kh.refl (F:Nat) (H:AH):kh F H H:=⟨rfl,λ _ _ h _=>h,λ j r h _=>⟨r,h,Meta.refl r,rfl⟩,λ _ h=>h⟩
theorem kh.trans {F:Nat} {H H' Oc:AH} (h:kh F H H') (h':kh F H' Oc):kh F H Oc:=
 ⟨h'.next.trans h.next,λ j o ho hn=>h'.jY j o (h.jY j o ho hn) hn,λ j r hr hf=>by
  obtain⟨r1,k1,k2,k3⟩:=h.aU j r hr hf;obtain⟨r2,m1,m2,m3⟩:=h'.aU j r1 k1 (k2.aU.trans hf);exact⟨r2,m1,k2.trans m2,m3.trans k3⟩,λ j X=>h'.jo j (h.jo j X)⟩
theorem kh.ct {F:Nat} {H H':AH} (h:kh F H H') {j:Nat} {o:AO} (ho:H'.get j=some o):∃ o',H.get j=some o'/\(o'=o\/∃ r r',o'=.row r/\o=.row r'/\r.aU=F/\Meta r r'):=by
 cases X:H.get j with
 | none=>rw[h.jo j X] at ho; cases ho
 | some o'=>
  refine⟨o',rfl,?_⟩;by_cases hc:∃ r,o'=.row r/\r.aU=F
  ·obtain⟨r,rfl,hf⟩:=hc;obtain⟨r',k1,k2,_⟩:=h.aU j r X hf;rw[k1] at ho; cases ho;exact .inr ⟨r,r',rfl,rfl,hf,k2⟩
  ·have:=h.jY j o' X (λ r e hf=>hc ⟨r,e,hf⟩);rw[this] at ho;exact .inl (Option.some.inj ho)
theorem BX {H:AH} {id off:Nat} {r:Row} {vs:List Value} (hr:H.get id=some (.row r)) (gG:r.ro=false) (U:vs.all bu=true) (hl:off+vs.length<=r.cells.length):∃ H1,H.gf id off vs=.ok H1/\kh r.aU H H1:=by
 have eH:H.row id=.ok r:=by unfold AH.row; rw[hr]
 refine⟨_,by unfold AH.gf; simp only[eH,bind,Except.bind,gG,U,Bool.false_eq_true,if_false,Bool.not_true]; rw[if_pos hl],?_⟩;have hlen:(cY r.cells off (vs.map some)).length=r.cells.length:=tF _ _ _ (by rw[List.length_map]; exact hl);have eM:∀ j,((if r.cW=true then H else H.eE r.aU (r.bJ+off) (r.bJ+off+vs.length)).set id (.row { cells:=cY r.cells off (vs.map some),ty:=r.ty,aU:=r.aU,bJ:=r.bJ,esz:=r.esz,ro:=false,cW:=r.cW })).get j=if j=id then some (.row { cells:=cY r.cells off (vs.map some),ty:=r.ty,aU:=r.aU,bJ:=r.bJ,esz:=r.esz,ro:=false,cW:=r.cW }) else(if r.cW=true then H.get j else(H.get j).map (AO.eE r.aU (r.bJ+off) (r.bJ+off+vs.length))):=λ j=>by
  rw[AH.bS];by_cases X:j=id
  ·rw[if_pos X,if_pos X]
  ·rw[if_neg X,if_neg X];split
   ·rfl
   ·rw[AH.dS]
 refine⟨by rw[AH.NF]; split <;> rfl,λ j o ho hn=>?_,λ j r0 h0 hf=>?_,λ j X=>?_⟩
 ·rw[eM,if_neg (λ e=>by subst e; rw[hr] at ho; cases ho; exact hn r rfl rfl)];split
  ·exact ho
  ·rw[ho];cases o with
   | row r'=>simp only[Option.map_some,AO.eE,if_neg (hn r' rfl)]
   | _=>rfl
 ·rw[eM];by_cases X:j=id
  ·subst X;rw[hr] at h0; cases h0;rw[if_pos rfl];exact⟨_,rfl,⟨rfl,rfl,rfl,rfl,gG.symm,hlen⟩,rfl⟩
  ·rw[if_neg X];split
   ·exact⟨r0,h0,Meta.refl r0,rfl⟩
   ·rw[h0];simp only[Option.map_some,AO.eE,if_pos hf];exact⟨_,rfl,⟨rfl,rfl,rfl,rfl,rfl,Row.gJ _ _ _⟩,rfl⟩
 ·rw[eM,if_neg (λ e=>by subst e; rw[hr] at X; cases X)];split
  ·exact X
  ·rw[X]; rfl
inductive Ap (z:Nat):PV->Prop
 | val (v:Value):Ap z (.val v)
 | agg {l:List PV} : (∀ p∈l,Ap z p)->Ap z (.agg l)
 | fX {l:List PV} : (∀ p∈l,Ap z p)->Ap z (.fX l)
 | aS {sz:Nat} {l:List (List PV)} {t:Option Nat} : sz≠z->sz≠0->(∀ cs∈l,∀ p∈cs,Ap z p)->Ap z (.aS sz l t)
 | ptr (k off:Nat):Ap z (.ptr k off)
 | sl (k off n c:Nat):Ap z (.sl k off n c)
 | mp (k:Nat):Ap z (.mp k)
 | fn {f:FuncId} {l m:List PV} : (∀ p∈l,Ap z p)->(∀ p∈m,Ap z p)->Ap z (.fn f l m)
 | iface {t:TypeId} {p:PV} : Ap z p->Ap z (.iface t p)
theorem RV.HS {e:cz} {tk:List Nat} {H H':AH} {F z Fx:Nat} {r0:Row} (VN:KI H) (h0:H.get Fx=some (.row r0)) (RZ:r0.aU=F) (K6:r0.ro=false) (Ut:r0.esz=z) (hz:z≠0) (hv:kh F H H') {b:Bool} {p:PV} {v:Value} (h:RV e tk H b p v) (xS:Ap z p):RV e tk H' b p v:=by
 induction h with
 | val hv=>exact .val hv
 | agg hl _ ih=>cases xS with | agg ha=>exact .agg hl λ i p v N hv=>ih i p v N hv (ha p (List.mem_of_getElem? N))
 | fX hl _ ih=>cases xS with | fX ha=>exact .fX hl λ i p v N hv=>ih i p v N hv (ha p (List.mem_of_getElem? N))
 | fU ht=>exact .fU ht
 | @aS b sz l t id off c n r w hr hn hs he hc hw uN U uO _ ht ih=>
  cases xS with
  | aS gK ym ha=>
   have ee:r.aU≠F:=λ hf=>by
    have:=VN.esz Fx id r0 r h0 hr (RZ.trans hf.symm) K6 (by omega) (by omega);omega
   have ga:=hv.jY _ _ hr (λ r' e1=>by cases e1; exact ee);exact .aS w ga hn ⟨by rw[hv.next]; exact hs.lt,by rw[hv.next]; exact hs.we,hs.x,hs.row,hs.tok⟩ he hc hw uN U uO (λ i cs j p N X=>ih i cs j p N X (ha cs (List.mem_of_getElem? N) p (List.mem_of_getElem? X))) ht
 | ptr hk=>exact .ptr hk
 | sl hk=>exact .sl hk
 | mp hk=>exact .mp hk
 | aW=>cases xS
 | mf=>cases xS
 | gW=>cases xS
 | dN w hr hn hs uO _ ih=>cases xS
 | fn hl _ hm _ ih On=>cases xS with | fn ha uM=>exact .fn hl (λ i p v N hv=>ih i p v N hv (ha p (List.mem_of_getElem? N))) hm (λ i p v N hv=>On i p v N hv (uM p (List.mem_of_getElem? N)))
 | iface _ ih=>cases xS with | iface ha=>exact .iface (ih ha)
theorem df.HS {C:fS} {e:cz} {fr:List aJ} {tk:List Nat} {H H':AH} {F z Fx:Nat} {r0:Row} (G:df C e fr tk H) (I:C.H0.next<=F) (Bn:F ∉ e.aY) (h0:H.get Fx=some (.row r0)) (RZ:r0.aU=F) (K6:r0.ro=false) (Ut:r0.esz=z) (hz:z≠0)
  (jj:∀ R∈fr,∀ p∈R.cells,Ap z p) (hv:kh F H H'):df C e fr tk H':=by
 refine⟨⟨⟨λ j o X=>?_,λ j r X=>?_,pX G.dz.wf λ j r X=>?_⟩,G.dz.dY,G.dz.rnd,λ k id R hk ma=>?_,G.dz.dD,G.dz.iy,λ t τ ht=>by rw[hv.next]; exact G.dz.oI t τ ht,G.dz.tq⟩,G.ext,⟨by rw[hv.next]; exact G.bC.next,λ j r X cI=>?_,λ j o X kV oL=>?_,λ j B D=>hv.jo j (G.bC.jo j B D),G.bC.acf λ j r X=>by
  obtain⟨o',B,D | ⟨r1,r2,rfl,e2,_,V⟩⟩:=hv.ct X
  ·subst D; exact⟨j,r,B,rfl⟩
  ·cases e2; exact⟨j,r1,B,V.aU.symm⟩⟩,G.cw,G.x,G.x0⟩
 ·obtain⟨o',B,_⟩:=hv.ct X;rw[hv.next]; exact G.dz.wf.lt j o' B
 ·obtain⟨o',B,D | ⟨r1,r2,rfl,e2,_,V⟩⟩:=hv.ct X
  ·subst D; rw[hv.next]; exact G.dz.wf.aU j r B
  ·cases e2; rw[hv.next,V.aU]; exact G.dz.wf.aU j r1 B
 ·obtain⟨o',B,D | ⟨r1,r2,rfl,e2,_,V⟩⟩:=hv.ct X
  ·subst D; exact .inr ⟨j,r,B,rfl,rfl,rfl⟩
  ·cases e2; exact .inr ⟨j,r1,B,V.aU,V.esz,V.ro⟩
 ·have iC:H'.get id=H.get id:=by
   rcases G.dz.row k id R hk ma with⟨_,r,us,k2,k3,k4,k5,k6,k7,k8⟩ | ⟨_,es,c,_,_,k2,_⟩
   ·rw[hv.jY id _ k2 (λ r' e1 hf=>by
     cases e1;exact Bn (by rw[<- hf,k6]; exact List.mem_of_getElem? hk)),k2]
   ·rw[hv.jY id _ k2 (λ r' e1=>by cases e1),k2]
  exact(G.dz.row k id R hk ma).eR rfl iC λ us k8=>⟨k8.1,λ i p v N rb=>(k8.2 i p v N rb).HS G.dz.wf h0 RZ K6 Ut hz hv (jj R (List.mem_of_getElem? ma) p (List.mem_of_getElem? N))⟩
 ·obtain⟨r',k1,k2,k3,k4⟩:=G.bC.row j r X cI;refine⟨r',hv.jY j _ k1 (λ r'' e1 hf=>?_),k2,k3,k4⟩;cases e1;have:=G.cw.wf.aU j r X;rw[k2.aU] at hf;omega
 ·exact hv.jY j o (G.bC.jY j o X kV oL) (λ r e1=>(kV r e1).elim)
theorem tU {α:Type} {Q:α->Prop} : ∀ x∈([] : List α),Q x:=λ x h=>by cases h
theorem cc {α:Type} {Q:α->Prop} {a:α} {l:List α} (h:Q a) (h':∀ x∈l,Q x):∀ x∈a :: l,Q x:=λ x Y=>(List.mem_cons.1 Y).elim (λ e=>e ▸ h) (h' x)
end
end Go.cy
namespace Go.cy
noncomputable section
variable {P:Program} {O:ia}
def Uz (P:Program) (O:ia) (f:FuncId) (vs:List Value) (H:AH) (Q:Value->AH->Prop):Prop:=
 ∃ fn c,mj P f vs=.ok (fn,c)/\WC P O none c (cO fn.ntmps vs) H (λ e a1 H1=>(e=.normal\/e=.ret)/\a1.bn=[]/\∃ v,c9 P H1 a1 fn.results.toList=.ok v/\Q v H1)
theorem Uz.mono {f:FuncId} {vs:List Value} {H:AH} {Q Q':Value->AH->Prop} (h:Uz P O f vs H Q) (hq:∀ v H,Q v H->Q' v H):Uz P O f vs H Q':=
 let ⟨fn,c,B,D⟩:=h; ⟨fn,c,B,D.mono λ e a1 H1 ⟨k1,k2,v,k3,k4⟩=>⟨k1,k2,v,k3,hq _ _ k4⟩⟩
def PB (P:Program) (O:ia) (f:FuncId) (args:List PV) (fr:List aJ) (tk:List Nat) (Q:PV->List aJ->List Nat->Prop):Prop:=
 ∀ e H vs,gN e fr tk H->XC e H->L2 (RV e tk H true) args vs->Uz P O f vs H (λ v H'=>∃ e' fr' tk' p,gO e tk H e' fr' tk' H'/\RV e' tk' H' true p v/\Q p fr' tk')
theorem C4 {fn:Func} {Q:PV->List aJ->List Nat->Prop} {e e':cz} {tk:List Nat} {H H':AH} {x:AX} {a':az} {s':PS} (B:cm (je e tk H) e' s' a' H') (D:wm P fn Q x s') :
  (x=.normal\/x=.ret)/\a'.bn=[]/\∃ v,c9 P H' a' fn.results.toList=.ok v/\∃ e' fr' tk' p,gO e tk H e' fr' tk' H'/\RV e' tk' H' true p v/\Q p fr' tk':=by
 obtain⟨D,tc,p,ks,ts,p1,p',fr',V,h5,h6,h4⟩:=D;obtain⟨v,k1,k2⟩:=B.results V;simp only[Prod.mk.injEq] at h5;obtain⟨g1,g2,g3,g4⟩:=h5;obtain⟨m1,m2⟩:=C0 g3;have VF:yd e' s'.tk H' ts e'.an:=pB;have mA:=rY B.h.dz (fo g1) (fo g2) VF;have h7:=B.oJ (fo g1) (fo g2) m1 m2 (tm1:=.nil) (λ t q h=>by cases h);refine⟨?_,(tc ▸ B.bn).none,v,k1,e'.oJ ks ts e'.an,fr',bY s'.tk ts,p',h7.h.ct,?_,h4⟩
 ·cases x <;> first | exact .inl rfl | exact .inr rfl | exact D.elim
 ·exact(k2.oJ mA 4 g4).wk (λ k a b=>by omega) h6
theorem BY {fn:Func} {args:List PV} {fr:List aJ} {tk:List Nat} {e:cz} {H:AH} {vs:List Value} (hn:args.length<=fn.ntmps) (hm:args.length<=1000000) (hI:gN e fr tk H) (hX:XC e H) (ha:L2 (RV e tk H true) args vs):cm (je e tk H) e (PS.start fn.ntmps args fr tk) (cO fn.ntmps vs) H:=
 ⟨df.start hI hX,rfl,.nil rfl,hI.dY,hI.dD,λ t p ht=>by
  simp only[PS.start] at ht;rw[iX args 0 _ (by omega) t] at ht;split at ht
  ·obtain⟨v,hv,rb⟩:=ha.at ht;refine⟨v,?_,rb⟩;unfold cO;simp only;rw[iX vs 0 _ (by rw[<- ha.1]; omega) t,if_pos (by rw[<- ha.1]; assumption)];exact hv
  ·rw[T.lT] at ht; cases ht⟩
theorem PB.CI {f:FuncId} {fn:Func} {c:Code} {args:List PV} {fr:List aJ} {tk:List Nat} {Q:PV->List aJ->List Nat->Prop} (hf:P.funcs[f]? = some fn) (hc:fn.body=some c) (hn:Nat.ble args.length fn.ntmps=true) (hm:Nat.ble args.length 1000000=true)
  (Y:(fn.name == "runtime.NumGoroutine")=false) (h:PC P O none c (PS.start fn.ntmps args fr tk) (wm P fn Q)):PB P O f args fr tk Q:=by
 intro e H vs hI hX ha;rw[Nat.ble_eq] at hn hm;refine⟨fn,c,mL hf hc (by rw[<- ha.1]; exact hn) (by rw[<- ha.1]; exact hm) Y,?_⟩;exact(h (je e tk H) e (cO fn.ntmps vs) H (BY hn hm hI hX ha) (λ l hl=>by cases hl)).mono λ x a' H' ⟨e',s',B,D⟩=>C4 B D
theorem Hl {C:fS} {e:cz} {s:PS} {a:az} {H:AH} (G:cm C e s a H) {aa:FuncId} {args eb:List PV} {vs:List Value} {ks ts:List Nat} {fr1:List aJ} {Qf K:PV->List aJ->List Nat->Prop} (hv:L2 (RV e s.tk H true) args vs)
  (hk:dZ 0 s.fr.length ks=true) (ht:dZ 0 s.tk.length ts=true) (ha:cr (PV.to (fL ks) (fL ts) 4) args=some eb) (jj:iG s.fr ks ts ks fr1) (hf:PB P O aa eb fr1 (bY s.tk ts) Qf) (hK:vb s ks ts Qf K) :
  Uz P O aa vs H (λ v H'=>∃ e' p fr' tk',gO e s.tk H e' fr' tk' H'/\RV e' tk' H' true p v/\K p fr' tk'):=by
 have lF:=fo hk;have iO:=fo ht;have hI:=G.h.dz;have hX:=G.h.xc;have Y:yd e s.tk H ts (yX e s.tk ts):=EP hI;obtain⟨mH,VD⟩:=jj.at;have Km:gN (e.oJ ks ts (yX e s.tk ts)) fr1 (bY s.tk ts) H:=zR hI lF iO Y mH VD;have mA:=rY hI lF iO Y;have VE:XC (e.oJ ks ts (yX e s.tk ts)) H:=by
  refine⟨λ id aU en B D=>⟨hX.new id aU en B D,λ hm=>by have:=hI.Oo hm; omega,λ t τ n _ V _ h4=>by have:=hI.oI t τ V; omega⟩,λ t τ id en B D=>?_⟩;obtain⟨t',b1,b2⟩:=eQ (l:=e.toks) (λ i k N=>by rw[hI.dD]; exact iO.lt i k N) B;refine⟨hX.tok t' τ id en b2 D,λ hm=>by have:=hI.Oo hm; omega,λ t2 τ2 n V h4 _ h5=>?_⟩;have:=hI.iy t' t2 τ τ2 b2 h4 h5;subst this;rw[wF iO.nd b1] at V; cases V
 refine(hf _ H vs Km VE (hv.oJ mA ha)).mono λ v H' ⟨e2,Dv,tk2,p,B,D,V⟩=>?_;obtain⟨p3,ye,k1,k2,k3⟩:=hK p Dv tk2 V;obtain⟨e3,m1,m2⟩:=BS G lF iO Km B k2;exact⟨e3,p3,_,_,m1,D.oJ m2 4 k1,k3⟩
theorem PO.defer {all os:List Oper} {s:PS} {Q:PS->Prop} {o:Oper} {t:Tmp} {xU:Array TypeId} {aa:FuncId} {l m:List PV} (ho:o.op=.defer ⟨.value (.tmp t),#[],xU⟩) (hf:s.tm.get t=some (.fn aa l m)) (hw:cC all s o=some true) (hd:o.dst=none) (tc:s.ms=[])
  (h:PO P O none all os ⟨s.tm,s.n,s.fr,s.tk,s.r0,s.t0,[some t]⟩ Q):PO P O none all (o :: os) s Q:=λ C e a H G=>by
 obtain⟨fv,V,h4⟩:=G.tm t _ hf;have AB:a.bn=[]:=(tc ▸ G.bn).none;cases h4 with
 | @fn _ _ _ _ us ws hl hh hm FT=>
  have Fy:cm C e ⟨s.tm,s.n,s.fr,s.tk,s.r0,s.t0,[some t]⟩ ⟨a.tm,a.n,[.call aa (us.toArray.toList++[]++ws.toArray.toList)]⟩ H:=by
   refine⟨G.h,G.n,⟨?_,λ i j m' N=>?_⟩,G.r0,G.t0,G.tm⟩
   ·show L2 _ [some t] [_];refine L2.cons ?_ L2.nil;exact⟨us.toArray,ws.toArray,V,by simp⟩
   ·cases i with
    | zero=>simp at N
    | succ i=>simp at N
  obtain⟨n,a',H',k1,k2⟩:=h C e _ H Fy;refine⟨n,a',H',?_,k2⟩;have KO:a.eval (.tmp t)=.ok (.func (.func aa) us.toArray ws.toArray):=az.aL V;obtain⟨d,op,ty,ps,af,gu⟩:=o;simp only at ho hd;subst ho; subst hd;simp only[eW,G.wanted hw,dR,bind,Except.bind,tX,eU,KO,Option.isSome_none,Bool.false_eq_true,if_false,if_true,AB];exact k1
theorem J8 {f:FuncId} {vs:List Value} {H:AH} {Q:Value->AH->Prop} (h:Uz P O f vs H Q):∃ v H2 n0,(∀ n,n0<=n->eh P (bF P O n) [.call f vs] H=.ok H2)/\Q v H2:=by
 obtain⟨fn,c,hb,n,e,a1,H1,B,D,V,v,h4,h5⟩:=h;refine⟨v,H1,n,λ k hk=>?_,h5⟩;simp only[eh,hb,bind,Except.bind,lf hk B];rcases D with rfl | rfl <;> simp only[V,List.isEmpty_nil,if_true,h4]
theorem uP.X0 {f:FuncId} {fn:Func} {c:Code} {vs:List Value} {H:AH} {Q:Value->AH->Prop} (hb:mj P f vs=.ok (fn,c)) (hk:cy.fR O f vs=none)
  (h:WC P O none c (cO fn.ntmps vs) H (λ e a1 H1=>(e=.normal\/e=.ret)/\∃ H2,(∃ n0,∀ n,n0<=n->eh P (bF P O n) a1.bn H1=.ok H2)/\∃ v,c9 P H2 a1 fn.results.toList=.ok v/\Q v H2)):uP P O f vs H Q:=by
 obtain⟨n,e,a1,H1,B,D,H2,⟨n0,V⟩,v,h4,h5⟩:=h;refine⟨max n n0+1,v,H2,?_,h5⟩;simp only[bF,hk,bO,hb];show(bF P O (max n n0) (.code none c (cO fn.ntmps vs)) H >>= _)=_;rw[lf (Nat.le_max_left n n0) B];rcases D with rfl | rfl
 ·show(eh P (bF P O (max n n0)) a1.bn H1 >>= _)=_;rw[V _ (Nat.le_max_right n n0)];show(c9 P H2 a1 fn.results.toList >>= _)=_;rw[h4]; rfl
 ·show(eh P (bF P O (max n n0)) a1.bn H1 >>= _)=_;rw[V _ (Nat.le_max_right n n0)];show(c9 P H2 a1 fn.results.toList >>= _)=_;rw[h4]; rfl
def yZ (P:Program) (O:ia) (fn:Func) (Q:PV->List aJ->List Nat->Prop):AX->PS->Prop:=λ x s=>wm P fn Q x s\/(∃ (t:Tmp) (aa:FuncId) (l m eb:List PV) (ks ts:List Nat) (fr1:List aJ) (Qf:PV->List aJ->List Nat->Prop),s.ms=[some t]/\s.tm.get t=some (.fn aa l m) /\
 dZ 0 s.fr.length ks=true/\dZ 0 s.tk.length ts=true/\cr (PV.to (fL ks) (fL ts) 4) (l++m)=some eb/\iG s.fr ks ts ks fr1/\PB P O aa eb fr1 (bY s.tk ts) Qf/\vb s ks ts Qf (λ _ fr tk=>wm P fn Q x ⟨s.tm,s.n,fr,tk,s.r0,s.t0,[]⟩))
theorem PF.Mr {f:FuncId} {fn:Func} {c:Code} {args:List PV} {fr:List aJ} {tk:List Nat} {Q:PV->List aJ->List Nat->Prop} (hf:P.funcs[f]? = some fn) (hc:fn.body=some c) (hn:Nat.ble args.length fn.ntmps=true) (hm:Nat.ble args.length 1000000=true)
  (Y:(fn.name == "runtime.NumGoroutine")=false) (hk:nv O f args=none) (h:PC P O none c (PS.start fn.ntmps args fr tk) (yZ P O fn Q)):PF P O f args fr tk Q:=by
 intro e H vs hI hX ha;rw[Nat.ble_eq] at hn hm;refine uP.X0 (mL hf hc (by rw[<- ha.1]; exact hn) (by rw[<- ha.1]; exact hm) Y) ?_ ?_
 ·exact vx hk ha.1
 ·refine(h (je e tk H) e (cO fn.ntmps vs) H (BY hn hm hI hX ha) (λ l hl=>by cases hl)).mono λ x a' H' ⟨e',s',B,D⟩=>?_;rcases D with D | ⟨t,aa,l,m,eb,ks,ts,fr1,Qf,tc,hg,hks,N1,Oj,jj,hB,hK⟩
  ·obtain⟨k1,k2,v,k3,k4⟩:=C4 B D;exact⟨k1,H',⟨0,λ n _=>by rw[k2]; rfl⟩,v,k3,k4⟩
  ·obtain⟨fv,q1,q2⟩:=B.tm t _ hg;have B6:=B.bn;rw[tc] at B6;have wh:L2 (tA (je e tk H).H0.next a' H') [some t] a'.bn:=B6.fc;obtain⟨d,rest,hd,YW,YX⟩:=wh.dE;have By:=YX.fE;subst By;cases d with
   | mark m=>exact YW.elim
   | call f' sI=>
    obtain⟨first,cap,b1,b2⟩:=YW;rw[q1] at b1;cases q2 with
    | @fn _ _ _ _ us ws hl hh AF FT=>
     cases b1;have hv:L2 (RV e' s'.tk H' true) (l++m) sI:=by
      rw[b2];have q3:L2 (RV e' s'.tk H' true) (l++m) (us++ws):=L2.append ⟨hl,hh⟩ ⟨AF,FT⟩;simpa using q3
     obtain⟨v0,H2,n0,c1,e2,p2,Dv,tk2,c2,c3,c4⟩:=J8 (Hl B hv hks N1 Oj jj hB hK);have Fy:cm (je e tk H) e2 (s'.mem Dv tk2) a' H2:=B.dF (d:=none) rfl c2 c3;have NV:cm (je e tk H) e2 ⟨s'.tm,s'.n,Dv,tk2,s'.r0,s'.t0,[]⟩ ⟨a'.tm,a'.n,[]⟩ H2:=⟨Fy.h,Fy.n,.nil rfl,Fy.r0,Fy.t0,Fy.tm⟩
     obtain⟨k1,k2,v,k3,k4⟩:=C4 NV c4;exact⟨k1,H2,⟨n0,λ n hn=>by rw[hd]; exact c1 n hn⟩,v,k3,k4⟩
theorem yZ.tv {s:PS} {fn:Func} {Q:PV->List aJ->List Nat->Prop} {x:AX} (h:wm P fn Q x s):yZ P O fn Q x s:=.inl h
theorem yZ.off {s:PS} {fn:Func} {Q:PV->List aJ->List Nat->Prop} {x:AX} {t:Tmp} {aa:FuncId} {l m eb:List PV} {ks ts:List Nat} {fr1:List aJ} {Qf:PV->List aJ->List Nat->Prop} (tc:s.ms=[some t]) (hg:s.tm.get t=some (.fn aa l m))
  (hks:dZ 0 s.fr.length ks=true) (N1:dZ 0 s.tk.length ts=true) (ha:cr (PV.to (fL ks) (fL ts) 4) (l++m)=some eb) (jj:iG s.fr ks ts ks fr1) (hB:PB P O aa eb fr1 (bY s.tk ts) Qf)
  (hK:vb s ks ts Qf (λ _ fr tk=>wm P fn Q x ⟨s.tm,s.n,fr,tk,s.r0,s.t0,[]⟩)):yZ P O fn Q x s:=.inr ⟨t,aa,l,m,eb,ks,ts,fr1,Qf,tc,hg,hks,N1,ha,jj,hB,hK⟩
section ops
variable {rnd:Option Nat} {all os:List Oper} {s:PS} {Q:PS->Prop} {d:Option Tmp} {ty:TypeId} {pst:String} {af:Array Edge} {gu:Option (Nat×Bool)}
end ops
end
end Go.cy
namespace Go.cy
noncomputable section
@[reducible] def g (x:Int):PV:=.val (.int .i64 x)
@[reducible] def vB (b:Bool):PV:=.val (.bool b)
@[reducible] def E (k:Nat):PV:=.ptr k 0
section aN
variable {P:Program} {O:ia} {rnd:Option Nat} {all os:List Oper} {s:PS} {Q:PS->Prop}
end aN
end
end Go.cy
namespace Go.cy
noncomputable section
def cJ {α:Type} (c:α->List PV):List α->List PV
 | []=>[]
 | y :: l=>c y++cJ c l
section flat
variable {α:Type} {c:α->List PV} {sz:Nat} (hc:∀ y,(c y).length=sz)
include hc
theorem pD:∀ (S:List α),(cJ c S).length=S.length * sz
 | []=>by simp[cJ]
 | y :: l=>by simp only[cJ,List.length_append,hc,pD l,List.length_cons,Nat.add_mul,Nat.one_mul]; omega
theorem uA:∀ (S:List α) (i:Nat) (y:α),S[i]? = some y->(cJ c S).drop (i * sz)=c y++cJ c (S.drop (i+1))
 | [],i,y,h=>by simp at h
 | z :: l,0,y,h=>by
  simp at h; subst h;simp[cJ]
 | z :: l,i+1,y,h=>by
  have h':l[i]? = some y:=by simpa using h
  have:=uA l i y h';show(c z++cJ c l).drop ((i+1) * sz)=_;rw[List.drop_append,show(i+1) * sz=sz+i * sz by rw[Nat.add_mul,Nat.one_mul]; omega,List.drop_eq_nil_of_le (by rw[hc]; omega),List.nil_append,hc,show sz+i * sz - sz=i * sz by omega,this];rfl
theorem BZ {S:List α} {i o:Nat} {y:α} (h:S[i]? = some y) (ho:o < sz):(cJ c S)[i * sz+o]? = (c y)[o]?:=by
 rw[<- List.getElem?_drop,uA hc S i y h,List.getElem?_append_left (by rw[hc]; exact ho)]
theorem Hm {S:List α} {i o n:Nat} {y:α} (h:S[i]? = some y) (ho:o+n<=sz):((cJ c S).drop (i * sz+o)).take n=((c y).drop o).take n:=by
 rw[<- List.drop_drop,uA hc S i y h,List.drop_append_of_le_length (by rw[hc]; omega),List.take_append_of_le_length (by rw[List.length_drop,hc]; omega)]
theorem J9 {S:List α} {i:Nat} {y z:α} (h:S[i]? = some y):iw (cJ c S) (i * sz) (c z)=cJ c (S.set i z):=by
 unfold iw;have key:∀ (S:List α) (i:Nat) (y:α),S[i]? = some y->(cJ c S).take (i * sz)++c z++(cJ c S).drop (i * sz+sz)=cJ c (S.set i z):=by
  intro S
  induction S with
  | nil=>intro i y h; simp at h
  | cons w l ih=>
   intro i y h;cases i with
   | zero=>
    simp only[Nat.zero_mul,List.take_zero,List.nil_append,Nat.zero_add,cJ,List.set_cons_zero];rw[List.drop_append,hc,List.drop_eq_nil_of_le (by rw[hc]; omega),Nat.sub_self,List.drop_zero,List.nil_append]
   | succ i=>
    have:=ih i y (by simpa using h);simp only[cJ,List.set_cons_succ];rw[<- this,show(i+1) * sz=sz+i * sz by rw[Nat.add_mul,Nat.one_mul]; omega,List.take_append,List.take_of_length_le (by rw[hc]; omega),hc,show sz+i * sz - sz=i * sz by omega];rw[List.drop_append,hc,List.drop_eq_nil_of_le (by rw[hc]; omega),show sz+i * sz+sz - sz=i * sz+sz by omega];simp[List.append_assoc]
 have:=key S i y h;rw[hc];exact this
end flat
def cN (l k sz:Nat):Option (Option Nat)->Nat->PV
 | none,_=>.val (.pointer none)
 | some none,o=>.ptr l o
 | some (some i),o=>.ptr k (i * sz+o)
theorem Te {k sz:Nat} (l l':Nat) (o:Option Nat) (x:Nat):cN l k sz (o.map some) x=cN l' k sz (o.map some) x:=by cases o <;> rfl
def tV {α:Type} (z:α) (S:List α):Option (Option Nat)->Option α
 | none=>none
 | some none=>some z
 | some (some i)=>S[i]?
theorem bG {α:Type} {z y:α} {S:List α} {p:Option (Option Nat)} (h:tV z S p=some y):p≠none:=by rintro rfl; cases h
def ir {α β:Type} (z:α) (S:List α) (p:Option (Option Nat)) (f:α->Option β):Option β:=(tV z S p).bind f
theorem iH {α β:Type} {z:α} {S:List α} {p:Option (Option Nat)} {f:α->Option β} {r:β} {q:Prop} (h:ir z S p f=some r) (k:∀ y,tV z S p=some y->f y=some r->q):q:=by
 unfold ir at h;obtain⟨y,B,D⟩:=Option.bind_eq_some_iff.1 h;exact k y B D
def eZ {β:Type} (i:Int) (n:Nat) (f:Option β):Option β:=if 0<=i/\i < n then f else none
theorem ic {β:Type} {i:Int} {n:Nat} {f:Option β} {r:β} {q:Prop} (h:eZ i n f=some r) (k:0<=i->i < n->f=some r->q):q:=by
 unfold eZ at h;split at h
 ·rename_i N; exact k N.1 N.2 h
 ·cases h
def Et {α β:Type} (S:List α) (f:Option β):Option β:=bif S.isEmpty then none else f
theorem T0 {α β:Type} {S:List α} {f:Option β} {r:β} {q:Prop} (h:Et S f=some r) (k:S.isEmpty=false->f=some r->q):q:=by
 unfold Et at h;cases hs:S.isEmpty with
 | true=>rw[hs] at h; cases h
 | false=>rw[hs] at h; exact k hs h
section ops
variable {P:Program} {O:ia} {s:PS} {d:Option Tmp} {ty:TypeId} {pst:String} {af:Array Edge} {gu:Option (Nat×Bool)} {α:Type} {c:α->List PV} {sz l k o e1 e2:Nat} {z y:α} {S:List α} {p:Option (Option Nat)} {x:Operand}
theorem At (hc:∀ y,(c y).length=sz) {i:Nat} (h:S[i]? = some y) {t:TypeId} {q:PV} (hq:qU P t (c y) o=some q):qU P t (cJ c S) (i * sz+o)=some q:=by
 unfold qU at hq ⊢;cases ha:rm P t with
 | error n=>rw[ha] at hq; cases hq
 | ok b=>
  rw[ha] at hq;cases b with
  | true=>
   cases hn:bD P t with
   | error n=>rw[hn] at hq; cases hq
   | ok n=>
    rw[hn] at hq;obtain⟨hle,hq⟩:=bm hq;rw[Nat.ble_eq,hc] at hle;have N:i < S.length:=ax h;have hlen:i * sz+o+n<=(cJ c S).length:=by
     rw[pD hc];have:=Nat.mul_le_mul_right sz (Nat.succ_le_of_lt N);rw[Nat.succ_mul] at this;omega
    have hb:Nat.ble (i * sz+o+n) (cJ c S).length=true:=by rw[Nat.ble_eq]; exact hlen
    simp only[Hm hc h hle,hb];exact hq
  | false=>
   have ho:o < sz:=by
    rcases Nat.lt_or_ge o sz with h' | h'
    ·exact h'
    ·have gT:(c y)[o]? = some q:=hq;rw[List.getElem?_eq_none (by rw[hc]; exact h')] at gT; cases gT
   show(cJ c S)[i * sz+o]? = _;rw[BZ hc h ho]; exact hq
theorem wW {k o e:Nat} {cs:List PV} (G:s.fr[k]? = some ⟨e,cs⟩) {t:TypeId} {q:PV} (hq:qU P t cs o=some q) (hz:Nat.beq e kY=false):nT P s.fr t (.ptr k o)=some q:=by
 unfold qU at hq;unfold nT;simp only[G,hz];exact hq
theorem fZ (hc:∀ y,(c y).length=sz) (hl:s.fr[l]? = some ⟨e1,c z⟩) (hk:s.fr[k]? = some ⟨e2,cJ c S⟩) (hg:tV z S p=some y) {t:TypeId} {q:PV} (hq:qU P t (c y) o=some q) (hz1:Nat.beq e1 kY=false:=by rfl) (Og:Nat.beq e2 kY=false:=by rfl):nT P s.fr t (cN l k sz p o)=some q:=by
 cases p with
 | none=>cases hg
 | some p=>
  cases p with
  | none=>
   have e:z=y:=Option.some.inj hg;subst e;exact wW hl hq hz1
  | some i=>exact wW hk (At hc hg hq) Og
theorem dX {t:TypeId} {q v:PV} (Y:s.ev x=some v) (hq:nT P s.fr t v=some q):cX P O s ⟨d,.load t x,ty,pst,af,gu⟩ q:=
 ⟨rfl,λ C e a H G=>by
  obtain⟨u,B,D⟩:=G.ev Y;obtain⟨id,off,w,V,h4,h5⟩:=G.load D hq;refine⟨0,w,?_,h5⟩;simp only[b9,az.aL B,bind,Except.bind,V,h4]⟩
theorem dC (Y:s.ev x=some (cN l k sz p o)) (U:p≠none):cX P O s ⟨d,.nilCheck x,ty,pst,af,gu⟩ (cN l k sz p o):=
 ⟨rfl,λ C e a H G=>by
  obtain⟨u,B,D⟩:=G.ev Y;refine⟨0,u,?_,D⟩;cases p with
  | none=>exact absurd rfl U
  | some p=>
   cases p with
   | none=>cases D with | ptr hk=>simp only[b9,az.aL B,bind,Except.bind]
   | some i=>cases D with | ptr hk=>simp only[b9,az.aL B,bind,Except.bind]⟩
theorem bX {t:TypeId} {f:Nat} (Y:s.ev x=some (cN l k sz p o)) (U:p≠none) {o':Nat} (B:∀ kk oo,iq P ⟨T.put AH.top (T.oP 10) 0 (.ptr kk oo),1,[],[],0,0,[]⟩ (.fieldAddr t (.tmp 0) f)=some (.ptr kk (oo+o'))):cX P O s ⟨d,.fieldAddr t x f,ty,pst,af,gu⟩ (cN l k sz p (o+o')):=by
 have key:∀ kk oo,s.ev x=some (.ptr kk oo)->cX P O s ⟨d,.fieldAddr t x f,ty,pst,af,gu⟩ (.ptr kk (oo+o')):=λ kk oo Y=>by
  have D:=B kk oo;have e0:(PS.ev ⟨T.put AH.top (T.oP 10) 0 (.ptr kk oo),1,[],[],0,0,[]⟩ (.tmp 0))=some (.ptr kk oo):=rfl;have:iq P s (.fieldAddr t x f)=some (.ptr kk (oo+o')):=by
   rw[<- D];simp only[iq,Y,e0]
  have:=qx (O:=O) (o:=⟨d,.fieldAddr t x f,ty,pst,af,gu⟩) this;exact⟨this.1,λ C e a H G=>let ⟨v,k1,k2⟩:=this.2 C e a H G; ⟨0,v,k1,k2⟩⟩
 cases p with
 | none=>exact absurd rfl U
 | some p=>
  cases p with
  | none=>exact key l o Y
  | some i=>
   have:=key k (i * sz+o) Y;rw[Nat.add_assoc] at this;exact this
theorem Ms {t t2:TypeId} {el:TypeId} {w:Operand} {op:BinOp} {q:PV} {b f:Bool} (s9:op=.eql\/op=.neq) (ht:P.underlying t=some (.pointer el)) (Y:s.ev x=some q) (hw:s.ev w=some (.val (.pointer none))) (hq:(∃ k o,q=.ptr k o)/\f=false\/q=.val (.pointer none)/\f=true) (hb:b=match op with | .eql=>f | _=>!f) (hn:f=true->iA P op t x w (.pointer none) (.pointer none)=.ok (.bool b)) :
  cX P O s ⟨d,.binOp op t x w t2,ty,pst,af,gu⟩ (vB b):=by
 refine⟨rfl,λ C e a H G=>?_⟩;obtain⟨u,B,D⟩:=G.ev Y;obtain⟨v,V,h4⟩:=G.ev hw;have e1:=h4.bA; subst e1;refine⟨0,.bool b,?_,.val rfl⟩;rcases hq with⟨⟨k,o,rfl⟩,rfl⟩ | ⟨rfl,rfl⟩
 ·cases D with
  | @ptr _ _ id hk=>
   rcases s9 with rfl | rfl <;> subst hb <;> simp[b9,az.aL B,az.aL V,bind,Except.bind,dq,iA,iL,dh,dB,ht]
 ·have e2:=D.bA; subst e2;simp only[b9,az.aL B,az.aL V,bind,Except.bind,dq,Bool.false_eq_true,if_false,hn rfl]
theorem wX {t t2:TypeId} {el:TypeId} {w:Operand} (ht:P.underlying t=some (.pointer el)) (Y:s.ev x=some (cN l k sz p o)) (hw:s.ev w=some (.val (.pointer none))) (hn:iA P .eql t x w (.pointer none) (.pointer none)=.ok (.bool true)):cX P O s ⟨d,.binOp .eql t x w t2,ty,pst,af,gu⟩ (vB p.isNone):=by
 refine Ms (f:=p.isNone) (.inl rfl) ht Y hw ?_ rfl (λ h=>by rw[h]; exact hn);rcases p with _ | _ | i
 ·exact .inr ⟨rfl,rfl⟩
 ·exact .inl ⟨⟨_,_,rfl⟩,rfl⟩
 ·exact .inl ⟨⟨_,_,rfl⟩,rfl⟩
theorem Ka {t t2:TypeId} {el:TypeId} {w:Operand} (ht:P.underlying t=some (.pointer el)) (Y:s.ev x=some (cN l k sz p o)) (hw:s.ev w=some (.val (.pointer none))) (hn:iA P .neq t x w (.pointer none) (.pointer none)=.ok (.bool false)):cX P O s ⟨d,.binOp .neq t x w t2,ty,pst,af,gu⟩ (vB (!p.isNone)):=by
 refine Ms (f:=p.isNone) (.inr rfl) ht Y hw ?_ rfl (λ h=>by rw[h]; exact hn);rcases p with _ | _ | i
 ·exact .inr ⟨rfl,rfl⟩
 ·exact .inl ⟨⟨_,_,rfl⟩,rfl⟩
 ·exact .inl ⟨⟨_,_,rfl⟩,rfl⟩
theorem T1 {t t2 el:TypeId} {w:Operand} {q:Option (Option Nat)} {n:Nat} {cs:List PV} (ht:P.underlying t=some (.pointer el)) (htz:bD P el=.ok n) (xg:n≠0) (gK:0 < sz) (hc:∀ y,(c y).length=sz) (Y:s.ev x=some (cN l k sz p 0)) (hw:s.ev w=some (cN l k sz q 0)) (hlk:l≠k)
  (hl:s.fr[l]? = some ⟨e1,cs⟩) (Bl:cs.isEmpty=false) (hk:s.fr[k]? = some ⟨e2,cJ c S⟩) (NU:Nat.ble 2 e2=true) (hS:S.isEmpty=false) (IE:iA P .neq t x w (.pointer none) (.pointer none)=.ok (.bool false)) (hz1:Nat.beq e1 kY=false:=by rfl) (Og:Nat.beq e2 kY=false:=by rfl):cX P O s ⟨d,.binOp .neq t x w t2,ty,pst,af,gu⟩ (vB (p != q)):=by
 refine⟨rfl,λ C e a H G=>?_⟩;obtain⟨u,B,D⟩:=G.ev Y;obtain⟨v,V,h4⟩:=G.ev hw;refine⟨0,.bool (p != q),?_,.val rfl⟩;have hI:=G.h.dz;obtain⟨il,FR⟩:=aP (l:=e.aY) (i:=l) (by rw[hI.dY]; exact ax hl);obtain⟨ik,VO⟩:=aP (l:=e.aY) (i:=k) (by rw[hI.dY]; exact ax hk);have ee:il≠ik:=λ h=>hlk (hI.rnd l k il FR (by rw[h]; exact VO));obtain⟨rl,vl,a1,Z,a3,a4,a5,a6,a7⟩:=(hI.row l il _ FR hl).row hz1;obtain⟨rk,vk,b1,b2,b3,b4,b5,b6,b7⟩:=(hI.row k ik _ VO hk).row Og;have el0:rl.cells.isEmpty=false:=by
  rw[a6];have:vl.length=cs.length:=a7.1.symm;cases vl with
  | nil=>cases cs with
   | nil=>cases Bl
   | cons _ _=>simp at this
  | cons _ _=>rfl
 have ek0:rk.cells.isEmpty=false:=by
  rw[b6];have h7:vk.length=(cJ c S).length:=b7.1.symm;rw[pD hc] at h7;cases vk with
  | nil=>
   cases S with
   | nil=>cases hS
   | cons _ _=>simp[Nat.add_mul] at h7; omega
  | cons _ _=>rfl
 have es:Nat.ble 2 rk.esz=true:=by rw[b4]; exact NU
 have one:∀ o1 o2:Nat,∀ i j:Nat,i=j->rn P H .neq t (.pointer (some ⟨i,o1,none⟩)) (.pointer (some ⟨j,o2,none⟩))=.ok (.bool (!(o1 == o2))):=λ o1 o2 i j rC=>by
  simp only[rn,ht,htz,bind,Except.bind,xg,if_false,rC,if_true]
 have lk:∀ o1 o2:Nat,rn P H .neq t (.pointer (some ⟨il,o1,none⟩)) (.pointer (some ⟨ik,o2,none⟩))=.ok (.bool true):=λ o1 o2=>by
  simp only[rn,ht,htz,bind,Except.bind,xg,if_false,ee,a1,b1,el0,ek0,Bool.or_self,Bool.false_eq_true,Z,b2,es,Bool.true_and,if_true];split <;> rfl
 have kl:∀ o1 o2:Nat,rn P H .neq t (.pointer (some ⟨ik,o1,none⟩)) (.pointer (some ⟨il,o2,none⟩))=.ok (.bool true):=λ o1 o2=>by
  simp only[rn,ht,htz,bind,Except.bind,xg,if_false,ee.symm,a1,b1,el0,ek0,Bool.or_self,Bool.false_eq_true,Z,b2,es,Bool.true_and,if_true]
 have np:∀ ad,iA P .neq t x w (.pointer none) (.pointer (some ad))=.ok (.bool true):=λ ad=>by
  obtain⟨b,o,sp⟩:=ad;simp[iA,iL,dh,dB,ht]
 have pn:∀ ad,iA P .neq t x w (.pointer (some ad)) (.pointer none)=.ok (.bool true):=λ ad=>by
  obtain⟨b,o,sp⟩:=ad;simp[iA,iL,dh,dB,ht]
 simp only[b9,az.aL B,az.aL V,bind,Except.bind];rcases p with _ | _ | i <;> rcases q with _ | _ | j
 ·have e1:=D.bA; subst e1; have e3:=h4.bA; subst e3;simp only[dq,Bool.false_eq_true,if_false,IE]; rfl
 ·have e1:=D.bA; subst e1;cases h4 with | @ptr _ _ id RY=>simp only[dq,Bool.false_eq_true,if_false,np]; rfl
 ·have e1:=D.bA; subst e1;cases h4 with | @ptr _ _ id RY=>simp only[dq,Bool.false_eq_true,if_false,np]; rfl
 ·have e1:=h4.bA; subst e1;cases D with | @ptr _ _ id RY=>simp only[dq,Bool.false_eq_true,if_false,pn]; rfl
 ·cases D with | @ptr _ _ id FV=>cases h4 with | @ptr _ _ id2 rD=>
   rw[FR] at FV rD; cases FV; cases rD;simp only[dq,if_true,one 0 0 il il rfl]; rfl
 ·cases D with | @ptr _ _ id FV=>cases h4 with | @ptr _ _ id2 rD=>
   rw[FR] at FV; rw[VO] at rD; cases FV; cases rD;simp only[dq,if_true,lk]; rfl
 ·have e1:=h4.bA; subst e1;cases D with | @ptr _ _ id RY=>simp only[dq,Bool.false_eq_true,if_false,pn]; rfl
 ·cases D with | @ptr _ _ id FV=>cases h4 with | @ptr _ _ id2 rD=>
   rw[VO] at FV; rw[FR] at rD; cases FV; cases rD;simp only[dq,if_true,kl]; rfl
 ·cases D with | @ptr _ _ id FV=>cases h4 with | @ptr _ _ id2 rD=>
   rw[VO] at FV rD; cases FV; cases rD;have eij:(!(i * sz+0 == j * sz+0))=(some (some i) != some (some j)):=by
    by_cases rC:i=j
    ·subst rC; simp
    ·have:i * sz≠j * sz:=λ h=>rC (Nat.eq_of_mul_eq_mul_right gK h);have e1:(i * sz+0 == j * sz+0)=false:=by rw[beq_eq_false_iff_ne]; omega
     have e2:(some (some i) == some (some j))=false:=by rw[beq_eq_false_iff_ne]; intro h; exact rC (Option.some.inj (Option.some.inj h))
     rw[e1]; show true = !(some (some i) == some (some j)); rw[e2]; rfl
   simp only[dq,if_true,one _ _ ik ik rfl,eij]
end ops
section arr
variable {P:Program} {O:ia} {s:PS} {d:Option Tmp} {ty:TypeId} {pst:String} {af:Array Edge} {gu:Option (Nat×Bool)}
theorem mE {t el sz k off n c:Nat} {x y:Operand} {i:Int} (ht:P.underlying t=some (.slice el)) (hs:bD P el=.ok sz) (Y:s.ev x=some (.sl k off n c)) (N:s.ev y=some (g i)) (h0:0<=i) (hN:i < n):cX P O s ⟨d,.indexAddr t x y,ty,pst,af,gu⟩ (.ptr k (off+i.toNat * sz)):=
 NH (i:=i.toNat) (kd:=.i64) ht hs Y (by rw[N,Int.toNat_of_nonneg h0]) (by rw[Nat.ble_eq]; omega)
theorem ku {t el sz ak k off:Nat} {x y:Operand} {i:Int} (ht:P.underlying t=some (.array ak el)) (hs:bD P el=.ok sz) (Y:s.ev x=some (.ptr k off)) (N:s.ev y=some (g i)) (h0:0<=i) (hN:i < ak) {l j:Nat} (X:off+i.toNat * sz=j * sz):cX P O s ⟨d,.indexAddr t x y,ty,pst,af,gu⟩ (cN l k sz (some (some j)) 0):=by
 have:=Hk (O:=O) (s:=s) (d:=d) (ty:=ty) (pst:=pst) (af:=af) (gu:=gu) (i:=i.toNat) (kd:=.i64) ht hs Y (by rw[N,Int.toNat_of_nonneg h0]) (by rw[Nat.ble_eq]; omega);show cX P O s _ (.ptr k (j * sz+0));rw[Nat.add_zero,<- X];exact this
theorem Kb {α:Type} {c:α->List PV} {sz l k i e:Nat} {S:List α} {y y':α} {t:TypeId} {x w:Operand} (hc:∀ y,(c y).length=sz) (U:∀ y,(c y).all PV.plain=true) (hn:bD P t=.ok sz) (Y:s.ev x=some (cN l k sz (some (some i)) 0)) (hw:s.ev w=some (.agg (c y'))) (G:s.fr[k]? = some ⟨e,cJ c S⟩) (hy:S[i]? = some y) (hz:Nat.beq e kY=false:=by rfl) :
  uX P O s ⟨d,.store t x w,ty,pst,af,gu⟩ (.fX []) (s.fr.set k ⟨e,cJ c (S.set i y')⟩) s.tk:=by
 have cG:=ax hy;have D:=EO (O:=O) (d:=d) (ty:=ty) (pst:=pst) (af:=af) (gu:=gu) (t:=t) (x:=x) (y:=w) (k:=k) (off:=i * sz) (p:=.agg (c y')) (R:=⟨e,cJ c S⟩) (s:=s) (P:=P) Y hw hn (by show Nat.beq (c y').length sz=true; rw[hc]; exact Nat.beq_refl _) G (U y') (by
  unfold QQ;show(match Nat.beq e kY with | true=>false | false=>Nat.ble (i * sz+(c y').length) (cJ c S).length)=true;rw[hz];show Nat.ble (i * sz+(c y').length) (cJ c S).length=true;rw[Nat.ble_eq,hc,pD hc];have:=Nat.mul_le_mul_right sz (Nat.succ_le_of_lt cG);rw[Nat.succ_mul] at this;exact this)
 have e3:iw (cJ c S) (i * sz) (c y')=cJ c (S.set i y'):=J9 hc hy;rw[<- e3];exact D
def rZ {β:Type} (n:Int) (N2:Nat) (f:Option β):Option β:=if 0<=n/\n<=281474976710656/\N2 * n.toNat<=281474976710656 then f else none
theorem C5 {β:Type} {n:Int} {N2:Nat} {f:Option β} {r:β} {q:Prop} (h:rZ n N2 f=some r) (k:0<=n->n<=281474976710656->N2 * n.toNat<=281474976710656->f=some r->q):q:=by
 unfold rZ at h;split at h
 ·rename_i N; exact k N.1 N.2.1 N.2.2 h
 ·cases h
theorem EX {α:Type} {c:α->List PV} {zs:List Value} {m:Nat} {z:α} (h:zs.map .val=cJ c (List.replicate m z)):∀ n,(ba zs n).map PV.val=cJ c (List.replicate (n * m) z)
 | 0=>by simp[ba,cJ]
 | n+1=>by
  have ih:=EX h n;have ap:∀ (a b:Nat),cJ c (List.replicate (a+b) z)=cJ c (List.replicate a z)++cJ c (List.replicate b z):=by
   intro a b
   induction a with
   | zero=>simp[cJ]
   | succ a iha=>rw[Nat.succ_add,List.replicate_succ,List.replicate_succ,cJ,cJ,iha,List.append_assoc]
  rw[Nat.add_mul,Nat.one_mul,Nat.add_comm (n * m),ap,<- ih,<- h];simp[ba,List.replicate_succ]
theorem NI {α:Type} {c:α->List PV} {z:α} {m:Nat} {t el sz N2:Nat} {x y:Operand} {n:Int} {zs:List Value} (ht:P.underlying t=some (.slice el)) (hb:jJ P el=.ok N2) (hs:bD P el=.ok sz) (hz:eB P el=.ok zs) (uN:zs.map .val=cJ c (List.replicate m z)) (U:zs.all bu=true)
  (Y:s.ev x=some (g n)) (hy:s.ev y=some (g n)) (h0:0<=n) (B:n<=281474976710656) (D:N2 * n.toNat<=281474976710656) (gK:Nat.beq sz kY=false:=by rfl):uX P O s ⟨d,.makeSlice t x y,ty,pst,af,gu⟩ (.sl s.fr.length 0 n.toNat n.toNat) (s.fr++[⟨sz,cJ c (List.replicate (n.toNat * m) z)⟩]) s.tk:=by
 refine⟨rfl,λ C e a H G=>?_⟩;obtain⟨u,k1,k2⟩:=G.ev Y;obtain⟨v,k3,k4⟩:=G.ev hy;have e1:=k2.bA; subst e1;have e2:=k4.bA; subst e2;have hn:((n.toNat:Nat):Int)=n:=Int.toNat_of_nonneg h0;have YU:L2 (RV e s.tk H true) ((ba zs n.toNat).map PV.val) (ba zs n.toNat):=qj (by
  have:∀ k,(ba zs k).all bu=true:=by
   intro k
   induction k with
   | zero=>rfl
   | succ k ih=>rw[show ba zs (k+1)=zs++ba zs k from rfl,List.all_append,U,ih]; rfl
  exact this _)
 rw[EX uN] at YU;have st:=vw G.h.dz YU el sz (λ e1=>by rw[e1] at gK; exact absurd gK (by decide));refine⟨0,.slice (some ⟨H.next,0,none⟩) n.toNat n.toNat,H.push (jG el H.next sz (ba zs n.toNat)),e.row H.next,?_,st,?_⟩
 ·have Tf:gH (.int .i64 n) 281474976710656=.ok n.toNat:=kr (n:=n.toNat) rfl (by omega) (by omega);have LP:gH (.int .i64 n) n.toNat=.ok n.toNat:=kr (n:=n.toNat) rfl (by omega) (Nat.le_refl _);simp only[b9,az.aL k1,az.aL k3,bind,Except.bind,ht,Tf,LP,hb,hs,hz];rw[if_neg (by omega)];simp only[newRow,AH.jv];rfl
 ·refine .sl ?_;show(e.aY++[H.next])[s.fr.length]? = some H.next;rw[<- G.h.dz.dY];exact da
end arr
end
end Go.cy
namespace Go.cy
noncomputable section
variable {P:Program} {O:ia}
theorem eD {f aa:Nat->Option Nat} {l l' k k' sz o:Nat} {p:Option (Option Nat)} (hl:f l=some l') (hk:f k=some k'):PV.to f aa 4 (cN l k sz p o)=some (cN l' k' sz p o):=by
 rcases p with _ | _ | i
 ·rfl
 ·show(match f l with | some i=>some (PV.ptr i o) | none=>none)=_;rw[hl]; rfl
 ·show(match f k with | some j=>some (PV.ptr j (i * sz+o)) | none=>none)=_;rw[hk]; rfl
theorem xP {α β:Type} {f:α->Option β} : ∀ {l m:List α} {l' m':List β},cr f l=some l'->cr f m=some m'->cr f (l++m)=some (l'++m')
 | [],m,l',m',h,h'=>by cases h; exact h'
 | x :: l,m,l',m',h,h'=>by
  simp only[cr] at h;cases Y:f x with
  | none=>rw[Y] at h; cases h
  | some y=>
   rw[Y] at h;cases hl:cr f l with
   | none=>rw[hl] at h; cases h
   | some ys=>
    rw[hl] at h; cases h;show cr f (x :: (l++m))=some (y :: (ys++m'));simp only[cr,Y,xP hl h']
theorem Ik {α:Type} {c c':α->List PV} {f aa:Nat->Option Nat} (h:∀ y,cr (PV.to f aa 4) (c y)=some (c' y)):∀ S:List α,cr (PV.to f aa 4) (cJ c S)=some (cJ c' S)
 | []=>rfl
 | y :: l=>xP (h y) (Ik h l)
def zm (s:PS):List (Nat×PV)->Option (List PV)
 | []=>some []
 | (t,_) :: l=>match s.tm.get t with
  | some p=>match zm s l with
   | some ps=>some (p :: ps)
   | none=>none
  | none=>none
theorem EY {s:PS} : ∀ {es:List (Nat×PV)},zm s es=some (es.map Prod.snd)->∀ t q,(t,q)∈es->s.tm.get t=some q
 | [],_,t,q,h=>by cases h
 | (u,r) :: l,h,t,q,hm=>by
  simp only[zm] at h;cases B:s.tm.get u with
  | none=>rw[B] at h; cases h
  | some p=>
   rw[B] at h;cases D:zm s l with
   | none=>rw[D] at h; cases h
   | some ps=>
    rw[D] at h;simp only[List.map_cons,Option.some.injEq,List.cons.injEq] at h;obtain⟨rfl,rfl⟩:=h;rcases List.mem_cons.1 hm with e | hm
    ·cases e; exact B
    ·exact EY D t q hm
theorem bc.Rq {s:PS} {es:List (Nat×PV)} (h:zm s es=some (es.map Prod.snd)):bc s (PS.mS s.ms s.n es s.fr s.tk s.r0 s.t0):=λ C e a H G=>by
 refine⟨e,⟨G.h,G.n,G.bn,G.r0,G.t0,λ t q hq=>?_⟩⟩;have hm:=ni es t q hq;exact G.tm t q (EY h t q hm)
def Pp (P:Program) (all:List Oper) (n:Nat) (os:List Oper) (s:PS) (es:List (Nat×PV)):Option (List aJ×List Nat×Option (List PV)):=
 match oy P all n os s with
 | some (_,s1)=>some (s1.fr,s1.tk,zm s1 es)
 | none=>none
theorem oT {rnd:Option Nat} {all os:List Oper} {s:PS} {Q:PS->Prop} (n:Nat) (es:List (Nat×PV)) (fr':List aJ) (tk':List Nat) (h:Pp P all n os s es=some (fr',tk',some (es.map Prod.snd))) (hq:PO P O rnd all (os.drop n) (PS.mS s.ms s.n es fr' tk' s.r0 s.t0) Q):PO P O rnd all os s Q:=by
 unfold Pp at h;cases hr:oy P all n os s with
 | none=>rw[hr] at h; cases h
 | some x=>
  obtain⟨yo,s1⟩:=x;rw[hr] at h;simp only[Option.some.injEq,Prod.mk.injEq] at h;obtain⟨B,D,V⟩:=h;obtain⟨e1,e2,e3,e4⟩:=Al n hr;have hw:=bc.Rq (s:=s1) V;rw[e1,e2,e3,e4,B,D] at hw;have hd:=BT n hr;subst hd;exact PO.run n hr (PO.gb hw hq)
theorem nm {α β:Type} {f:α->Option β} : cr f []=some []:=rfl
theorem bT {α β:Type} {f:α->Option β} {x:α} {y:β} {l:List α} {m:List β} (h:f x=some y) (hl:cr f l=some m):cr f (x :: l)=some (y :: m):=by simp only[cr,h,hl]
theorem ki {f aa:Nat->Option Nat} : cr (lC f aa) []=some []:=rfl
theorem cF {f aa:Nat->Option Nat} {x y:aJ} {l m:List aJ} (h:lC f aa x=some y) (hl:cr (lC f aa) l=some m):cr (lC f aa) (x :: l)=some (y :: m):=by simp only[cr,h,hl]
theorem oQ {f aa:Nat->Option Nat} {e:Nat} {cs cs':List PV} (h:cr (PV.to f aa 4) cs=some cs'):lC f aa ⟨e,cs⟩=some ⟨e,cs'⟩:=by unfold lC; simp only[h]
theorem PD.Rr {os:List Oper} {cl:List Nat} {base:Nat} {σ:DC} {s:PS} {rnd:Option Nat} {z:Code} {Q:AX->PS->Prop} (es:List (Nat×PV)) (fr':List aJ) (tk':List Nat) (hd:σ.done=2 ^ os.length - 1) (h:(s.fr,s.tk,zm s es)=(fr',tk',some (es.map Prod.snd)))
  (hq:PC P O rnd z (PS.mS s.ms s.n es fr' tk' s.r0 s.t0) Q):PD P O os cl base [] σ s (λ s1=>PC P O rnd z s1 Q):=by
 simp only[Prod.mk.injEq] at h;refine PD.nil hd (PC.gb (bc.Rq h.2.2) ?_);rw[h.1,h.2.1];exact hq
theorem wY {s:PS} {ks ts:List Nat} : ∀ {l:List Nat} {fr':List aJ},iG s.fr ks ts l fr'->cr (nK s ks ts) l=some fr'
 | [],[],_=>rfl
 | k :: l,R :: fr',h=>by
  obtain⟨⟨R0,B,D,V⟩,h4⟩:=h;have:=wY h4;have h5:nK s ks ts k=some R:=by
   unfold nK;simp only[B,V];rw[<- D]
  simp only[cr,h5,this]
 | [],_ :: _,h=>h.elim
 | _ :: _,[],h=>h.elim
theorem q9 {s:PS} {fn:Func} {Qf:PV->List aJ->List Nat->Prop} (ks ts:List Nat) {p1 p':PV} {fr':List aJ} (h:(D3 P s fn.results.toList ks ts,dZ s.r0 s.fr.length ks,dZ s.t0 s.tk.length ts,s.ms)=(some p1,true,true,[])) (hf:iG s.fr ks ts ks fr') (hl:gX 0 0 p1 p') (hq:Qf p' fr' (bY s.tk ts)):wm P fn Qf .ret s:=by
 simp only[Prod.mk.injEq] at h;exact oZ ks ts (by rw[h.1,h.2.1,h.2.2.1,h.2.2.2,wY hf]) hl hq
theorem X1 {s:PS} {fn:Func} {Qf:PV->List aJ->List Nat->Prop} (ks ts:List Nat) {p1 p':PV} {fr':List aJ} (h:(D3 P s fn.results.toList ks ts,dZ s.r0 s.fr.length ks,dZ s.t0 s.tk.length ts,s.ms)=(some p1,true,true,[])) (hf:iG s.fr ks ts ks fr') (hl:gX 0 0 p1 p') (hq:Qf p' fr' (bY s.tk ts)):wm P fn Qf .normal s:=by
 simp only[Prod.mk.injEq] at h;exact HN ks ts (by rw[h.1,h.2.1,h.2.2.1,h.2.2.2,wY hf]) hl hq
def Jj {α:Type} (S:List α) (e:Option Nat):Option α:=e.bind λ i=>S[i]?
theorem cV {α:Type} {y:α} {S:List α} {e:Option Nat} (h:Jj S e=some y):e.map some≠none:=by
 cases e with
 | none=>cases h
 | some i=>intro h; cases h
def nW {α β:Type} (S:List α) (e:Option Nat) (f:α->Option β):Option β:=(Jj S e).bind f
theorem sc {α β:Type} {S:List α} {e:Option Nat} {f:α->Option β} {r:β} {q:Prop} (h:nW S e f=some r) (k:∀ y,Jj S e=some y->f y=some r->q):q:=by
 unfold nW at h;obtain⟨y,B,D⟩:=Option.bind_eq_some_iff.1 h;exact k y B D
section
variable {s:PS} {d:Option Tmp} {ty:TypeId} {pst:String} {af:Array Edge} {gu:Option (Nat×Bool)} {α:Type} {c:α->List PV} {sz l k o e1 e2:Nat} {z y:α} {S:List α} {e:Option Nat} {x:Operand}
theorem og (hc:∀ y,(c y).length=sz) (hk:s.fr[k]? = some ⟨e2,cJ c S⟩) (hg:Jj S e=some y) {t:TypeId} {q:PV} (hq:qU P t (c y) o=some q) (Og:Nat.beq e2 kY=false:=by rfl):nT P s.fr t (cN l k sz (e.map some) o)=some q:=by
 cases e with
 | none=>cases hg
 | some i=>exact wW hk (At hc hg hq) Og
theorem rdO {base cl:Nat} {ed:List (Nat×List Nat×Bool)} {nl:Bool} (U:e.map some≠none) (D:Pk base cl (.ptr k 0) ed nl=true):Pk base cl (cN l k sz (e.map some) o) ed nl=true:=by
 cases e with
 | none=>exact absurd rfl U
 | some p=>exact D
end
end
end Go.cy
namespace Go.cy
noncomputable section
variable {P:Program} {O:ia}
theorem Au {H:AH} {id o:Nat} {r:Row} {v:Value} (hr:H.get id=some (.row r)) (gG:r.ro=false) (U:bu v=true) (hl:o < r.cells.length) :
  ∃ H1,H.gf id o [v]=.ok H1/\kh r.aU H H1/\∃ r1,H1.get id=some (.row r1)/\Meta r r1/\∀ j,r1.cells[j]? = if j=o then some (some v) else r.cells[j]?:=by
 obtain⟨H1,B,D⟩:=BX (off:=o) (vs:=[v]) hr gG (by simp[U]) (by simp; omega);refine⟨H1,B,D,?_⟩;obtain⟨r1,k1,k2,_⟩:=D.aU id r hr rfl;refine⟨r1,k1,k2,λ j=>?_⟩;have eH:H.row id=.ok r:=by unfold AH.row; rw[hr]
 unfold AH.gf at B;simp only[eH,bind,Except.bind,gG,List.all_cons,U,List.all_nil,Bool.and_self,Bool.false_eq_true,if_false,Bool.not_true,List.length_singleton] at B;rw[if_pos (by omega)] at B;have V:=Except.ok.inj B;rw[<- V,AH.bS,if_pos rfl] at k1;have h4:=AO.row.inj (Option.some.inj k1);rw[<- h4];show(cY r.cells o (List.map some [v]))[j]? = _;exact J7 hl j
def yD {β:Type} (L:List Int) (f:List Int->Option β):Option β:=if L.length+2<=9223372036854775808 then f L.reverse else none
theorem NJ {β:Type} {L:List Int} {f:List Int->Option β} {r:β} {p:Prop} (h:yD L f=some r) (k:L.length+2<=9223372036854775808->f L.reverse=some r->p):p:=by
 unfold yD at h;split at h
 ·rename_i B; exact k B h
 ·cases h
theorem PO.Pe {rnd:Option Nat} {all os:List Oper} {s:PS} {Q:PS->Prop} {d0 d1 x:Nat} {aa:FuncId} {ty t1 t2:TypeId} {p1 p2:String} {f1 f2:Array Edge} {L L2:List Int} {t:Nat} {tk':List Nat} (es:List (Nat×PV)) (hL:L.reverse=L2)
  (Y:s.tm.get x=some (.aS 1 (L.map λ i=>[.val (.int .i64 i)]) (some t))) (Sa:s.can (some d0)=true) (Oe:s.can (some d1)=true) (hlen:s.tk[t]? = some L.length) (N3:Nat.ble s.t0 t=true) (tc:s.ms=[])
  (hxd:Nat.beq x d0=false/\Nat.beq x d1=false)
  (acC:∀ (H:AH) (id off n c:Nat) (r:Row) (wv:Nat->Int),H.get id=some (.row r)->r.ro=false->r.esz=1->off+n<=r.cells.length->n+2<=9223372036854775808->(∀ i,i < n->r.cells[off+i]? = some (some (.int .i64 (wv i)))) ->
   uP P O aa [.slice (some ⟨id,off,none⟩) n c] H (λ v H'=>kh r.aU H H'/\∃ r',H'.get id=some (.row r')/\∀ i,i < n->r'.cells[off+i]? = some (some (.int .i64 (wv (n - 1 - i)))))) (hg:L.length+2<=9223372036854775808)
  (K8:∀ H:AH,uP P O aa [.slice none 0 0] H (λ v H'=>H'=H))
  (yM:∀ y∈es,s.tm.get y.1=some y.2/\Ap 1 y.2/\Nat.beq y.1 d0=false/\Nat.beq y.1 d1=false) (jj:∀ R∈s.fr,∀ p∈R.cells,Ap 1 p)
  (xi:s.tk.set t L2.length=tk')
  (h:PO P O rnd all os (PS.mS s.ms s.n ((x,.aS 1 (L2.map λ i=>[.val (.int .i64 i)]) (some t)) :: es) s.fr tk' s.r0 s.t0) Q) :
  PO P O rnd all (⟨some d0,.move (.tmp x),t1,p1,f1,none⟩ :: ⟨some d1,.call ⟨.value (.func aa),#[.tmp d0],#[ty]⟩,t2,p2,f2,none⟩ :: os) s Q:=λ C e a H G=>by
 subst hL;have acD:tk'=s.tk:=by
  rw[<- xi,List.length_reverse];apply List.ext_getElem?;intro i;rw[List.getElem?_set];split
  ·rename_i e1; subst e1;split
   ·exact hlen.symm
   ·rename_i D; exact absurd (ax hlen) D
  ·rfl
 subst acD;clear xi;obtain⟨v,Yu,hv⟩:=G.tm x _ Y;have ajW:s.t0<=t:=Nat.le_of_ble_eq_true N3;have xj:a.n=s.n:=G.n;have hcan:∀ d,s.can (some d)=true->a.can (some d)=true /\ @LT.lt Nat _ d 281474976710654:=λ d hc=>by
  have N4:=G.can hc;refine⟨N4,?_⟩;obtain⟨tm,n,ms⟩:=a;have AA:pick (Nat.ble (Nat.succ d) n) (Nat.ble n 281474976710654) false=true:=N4;cases hb:Nat.ble (Nat.succ d) n with
  | false=>rw[hb] at AA; cases AA
  | true=>
   rw[hb] at AA;have Sb:Nat.ble n 281474976710654=true:=AA;rw[Nat.ble_eq] at hb Sb;omega
 obtain⟨hq0,YY⟩:=hcan d0 Sa;obtain⟨Vp,YW⟩:=hcan d1 Oe;have eM:∀ (b:az) (d:Nat) (u:Value) (k:Nat),@LT.lt Nat _ d 281474976710654->(b.dF (some d) u).tm.get k=if k=d then some u else b.tm.get k:=λ b d u k hd=>by
  obtain⟨tm,n,ms⟩:=b;show(T.put AH.top tm d u).get k=_;exact T.jB 48 _ _ _ _ (by have:2 ^ 48=281474976710656:=rfl; omega)
 have nb:∀ {m n:Nat},Nat.beq m n=false->m≠n:=λ h e1=>by subst e1; rw[Nat.beq_refl] at h; cases h
 have KO:a.ev (.tmp x)=some v:=Yu;refine WO.move (jP rfl) KO hq0 ?_;have xu:∀ (R1:Value->AH->Prop),uP P O aa [v] H R1->(∀ w H',R1 w H'->WO P O rnd all os ((a.dF (some d0) v).dF (some d1) w) H' (QS C Q))->WO P O rnd all (⟨some d1,.call ⟨.value (.func aa),#[.tmp d0],#[ty]⟩,t2,p2,f2,none⟩ :: os) (a.dF (some d0) v) H (QS C Q):=λ R1 IK hk=>
  WO.call rfl (jP rfl) (by
   have D:(a.dF (some d0) v).tm.get d0=some v:=by rw[eM _ _ _ _ YY,if_pos rfl]
   have V:(a.dF (some d0) v).ev (.tmp d0)=some v:=D;show eU _ [Operand.tmp d0]=_;simp only[eU,az.aL V]; rfl) (by obtain⟨tm,n,ms⟩:=a; exact Vp) IK hk
 have gz:∀ (w:Value) (H':AH),df C e s.fr s.tk H'->(∀ y∈es,∀ u,RV e s.tk H true y.2 u->RV e s.tk H' true y.2 u)->RV e s.tk H' true (.aS 1 (L.reverse.map λ i=>[.val (.int .i64 i)]) (some t)) v->WO P O rnd all os ((a.dF (some d0) v).dF (some d1) w) H' (QS C Q):=λ w H' hRH Om jT=>by
  have Xi:∀ k,k≠d0->k≠d1->((a.dF (some d0) v).dF (some d1) w).tm.get k=a.tm.get k:=λ k h0 B=>by
   rw[eM _ _ _ _ YW,if_neg B,eM _ _ _ _ YY,if_neg h0]
  refine h C e _ H' ⟨hRH,xj,?_,G.r0,G.t0,λ k p U=>?_⟩
  ·have hm:=G.bn;show fk C.H0.next s.ms _ H';rw[tc] at hm ⊢;exact fk.nil hm.none
  ·have lH:=ni ((x,.aS 1 (L.reverse.map λ i=>[.val (.int .i64 i)]) (some t)) :: es) k p (by have AD:=U; simp only[PS.mS] at AD; exact AD);rcases List.mem_cons.mp lH with e1 | lH
   ·cases e1;exact⟨v,by rw[Xi _ (nb hxd.1) (nb hxd.2)]; exact Yu,jT⟩
   ·obtain⟨k1,_,k3,k4⟩:=yM _ lH;obtain⟨u,q1,q2⟩:=G.tm k p k1;exact⟨u,by rw[Xi k (nb k3) (nb k4)]; exact q1,Om _ lH u q2⟩
 have hlm:(L.map λ i=>[PV.val (.int .i64 i)]).length=L.length:=List.length_map _;generalize hl:(L.map λ i=>[PV.val (.int .i64 i)])=l at hv hlm;cases hv with
 | fU ht=>
  refine xu _ (K8 H) λ w H1 e1=>?_;subst e1;refine gz w H1 G.h (λ _ _ _ h=>h) ?_;have:L=[]:=List.map_eq_nil_iff.mp hl;subst this;exact .fU ht
 | @aS _ _ _ _ id off c n' r w0 hr sJ hs he Ux KF uN U uO hh ht=>
  rw[hlm] at *;obtain⟨hb,n0,q1,q2,q3⟩:=ht t rfl;have Vl:=q1;rw[hlen] at q1;have Bm:=Option.some.inj q1;obtain⟨τ,k1,k2,k3,k4,k5,k6⟩:=q3 Bm;have I:C.H0.next<=r.aU:=by
   rw[k2];rcases G.h.ext.tok t τ k1 with h4 | h4
   ·have:=ax h4; have:=G.t0; omega
   ·exact h4
  have Bn:r.aU ∉ e.aY:=by rw[k2]; exact G.h.dz.tq t τ k1
  have gZ:∀ i,i < L.length->r.cells[off+i]? = some (some (.int .i64 (L.getD i 0))):=λ i N=>by
   have V:L[i]? = some (L.getD i 0):=by rw[List.getD_eq_getElem?_getD,List.getElem?_eq_getElem N]; rfl
   have h4:l[i]? = some [PV.val (.int .i64 (L.getD i 0))]:=by rw[<- hl,List.getElem?_map,V]; rfl
   have h5:=uO i _ 0 _ h4 rfl;have h6:=hh i _ 0 _ h4 rfl;rw[show off+i * 1+0=off+i by omega] at h5;rw[h5];generalize w0 i 0=u at h6;cases h6; rfl
  refine xu _ (acC H id off L.length c r (λ i=>L.getD i 0) hr k5 he (by omega) hg gZ) λ w H' hv=>?_;obtain⟨hv,r',ga,T2⟩:=hv;refine gz w H' (G.h.HS I Bn hr rfl k5 he (by decide) jj hv) (λ y hy u hu=>hu.HS G.h.dz.wf hr rfl k5 he (by decide) hv (yM y hy).2.1) ?_;obtain⟨r2,m1,m2,_⟩:=hv.aU id r hr rfl;rw[ga] at m1;cases m1;have Gl:(L.reverse.map λ i=>[PV.val (.int .i64 i)]).length=L.length:=by rw[List.length_map,List.length_reverse]
  have Ot:∀ i cs j p,(L.reverse.map λ i=>[PV.val (.int .i64 i)])[i]? = some cs->cs[j]? = some p->i < L.length/\j=0/\p=PV.val (.int .i64 (L.getD (L.length - 1 - i) 0)):=λ i cs j p N X=>by
   have cG:i < L.length:=by have:=ax N; rw[Gl] at this; exact this
   rw[List.getElem?_map,List.getElem?_reverse cG,Option.map_eq_some_iff] at N;obtain⟨y,hy,rfl⟩:=N;have YZ:j=0:=by have:=ax X; simp at this; omega
   subst YZ;have U:PV.val (.int .i64 y)=p:=Option.some.inj X;refine⟨cG,rfl,?_⟩;rw[<- U,List.getD_eq_getElem?_getD,hy]; rfl
  have main:=RV.aS (e:=e) (tk:=s.tk) (H:=H') (b:=true) (sz:=1) (l:=L.reverse.map λ i=>[PV.val (.int .i64 i)]) (t:=some t) (id:=id) (off:=off) (c:=c) (n:=n') (r:=r')
   (λ i _=>.int .i64 (L.getD (L.length - 1 - i) 0)) ga (by rw[Gl]; exact sJ) ⟨by rw[hv.next]; exact hs.lt,by rw[hv.next,m2.aU]; exact hs.we,by rw[m2.aU,m2.bJ]; exact hs.x,hs.row,λ t' fG n2 e1 e2 e3=>by rw[m2.bJ]; exact hs.tok t' fG n2 e1 e2 (m2.aU ▸ e3)⟩ (m2.esz.trans he)
   (by rw[Gl]; exact Ux) (by rw[Gl,m2.len]; omega) (λ i cs N=>by
    rw[List.getElem?_map,Option.map_eq_some_iff] at N;obtain⟨y,hy,rfl⟩:=N;rfl)
   (λ i cs j p N X=>by obtain⟨_,_,rfl⟩:=Ot i cs j p N X; rfl)
   (λ i cs j p N X=>by
    obtain⟨cG,rfl,rfl⟩:=Ot i cs j p N X;rw[show off+i * 1+0=off+i by omega];exact T2 i cG)
   (λ i cs j p N X=>by obtain⟨_,_,rfl⟩:=Ot i cs j p N X; exact RV.val rfl)
   (λ k hk=>by
    cases hk;exact⟨rfl,n0,Vl,by rw[Gl]; exact q2,λ _=>⟨τ,k1,m2.aU.trans k2,by rw[m2.bJ]; exact k3,k4,m2.ro.trans k5,by rw[Gl]; exact k6⟩⟩)
  rw[Gl] at main;exact main
theorem Rt {z l k sz o:Nat} {p:Option (Option Nat)} : Ap z (cN l k sz p o):=by
 rcases p with _ | _ | i
 ·exact .val _
 ·exact .ptr _ _
 ·exact .ptr _ _
theorem Ql {α:Type} {z:Nat} {c:α->List PV} (h:∀ y,∀ p∈c y,Ap z p) (S:List α):∀ p∈cJ c S,Ap z p:=by
 induction S with
 | nil=>intro p U; cases U
 | cons y l ih=>
  intro p U;rcases List.mem_append.mp U with hy | hy
  ·exact h y p hy
  ·exact ih p hy
end
end Go.cy
namespace Go.cy
noncomputable section
variable {P:Program} {O:ia} {e:cz} {fr:List aJ} {tk:List Nat} {H:AH}
inductive VV:PV->Value->Prop
 | val {v:Value} (h:bu v=true):VV (.val v) v
 | unit:VV (.agg []) (.agg #[])
structure MC {α:Type} (c:α->List PV) (kf:α->Int) (vf:α->PV):Prop where
 QU:∀ a,(∃ v,vf a=.val v/\bu v=true/\c a=[.val (.int .i64 (kf a)),.val v])\/vf a=.agg []/\c a=[.val (.int .i64 (kf a))]
inductive EM {α:Type} (kf:α->Int) (vf:α->PV):List α->List kX->Prop
 | nil:EM kf vf [] []
 | cons {a:α} {l:List α} {x:kX} {es:List kX} (h:x.key=.int .i64 (kf a)) (hv:VV (vf a) x.val) (hl:EM kf vf l es):EM kf vf (a :: l) (x :: es)
def lk {α:Type} (kf:α->Int) (n:Int):List α->Option α
 | []=>none
 | a :: l=>bif n == kf a then some a else lk kf n l
section find
variable {α:Type} {kf:α->Int} {vf:α->PV}
end find
section ops
variable {s:PS} {d:Option Tmp} {ty:TypeId} {pst:String} {af:Array Edge} {gu:Option (Nat×Bool)}
end ops
end
end Go.cy
namespace Go.cy
noncomputable section
variable {P:Program} {O:ia}
end
end Go.cy
namespace Go.cy
noncomputable section
variable {P:Program} {O:ia}
def Ou (k:Nat) (cs:List PV):PV->Option PV
 | .val v=>some (.val v)
 | .aS sz l t=>some (.aS sz l t)
 | .dN c o=>some (.dN c o)
 | .ptr j o=>(match Nat.beq j k with
  | true=>some (.dN cs o)
  | false=>some (.ptr j o))
 | .sl j o n c=>(match Nat.beq j k with
  | true=>none
  | false=>some (.sl j o n c))
 | .mp j=>(match Nat.beq j k with
  | true=>none
  | false=>some (.mp j))
 | _=>none
def Ru (k:Nat) (cs:List PV) (R:aJ):Option aJ:=match cr (Ou k cs) R.cells with
 | some m=>some ⟨R.esz,m⟩
 | none=>none
def Pq (s:PS) (k:Nat) (cs:List PV) (y:Nat×PV):Option PV:=match s.tm.get y.1 with
 | some p=>Ou k cs p
 | none=>none
def cz.cut (e:cz) (k:Nat):cz:=⟨e.aY.take k,e.toks,e.an⟩
section
variable {e:cz} {fr:List aJ} {tk:List Nat} {H:AH} {k:Nat}
theorem sD {id aU en:Nat} (h:lJ e tk H id aU en):lJ (e.cut k) tk H id aU en:=
 ⟨h.lt,h.we,h.x,λ hm=>h.row (List.mem_of_mem_take hm),h.tok⟩
theorem GM {j id:Nat} (h:e.aY[j]? = some id) (X:j < k):(e.cut k).aY[j]? = some id:=by
 show(e.aY.take k)[j]? = _;rw[List.getElem?_take,if_pos X]; exact h
theorem CN {j id:Nat} (h:(e.cut k).aY[j]? = some id):e.aY[j]? = some id/\j < k:=by
 have h':(e.aY.take k)[j]? = some id:=h;rw[List.getElem?_take] at h';split at h'
 ·exact⟨h',by assumption⟩
 ·cases h'
theorem X2 {R:aJ} {cs:List PV} (hI:gN e fr tk H) (hlen:fr.length=k+1) (G:fr[k]? = some R) (hz:Nat.beq R.esz kY=false) (hl:A6 R.cells=some cs) (hX:∀ id en,e.aY[k]? = some id->e.an id id en) {p q:PV} {v:Value} (h:RV e tk H true p v) (hq:Ou k cs p=some q):RV (e.cut k) tk H true q v:=by
 have cG:∀ {j id:Nat},e.aY[j]? = some id->Nat.beq j k=false->j < k:=λ {j id} X hb=>by
  have B:=ax X;rw[hI.dY,hlen] at B;have:j≠k:=λ e1=>by subst e1; rw[Nat.beq_refl] at hb; cases hb
  omega
 cases p with
 | val u=>cases hq; cases h with | val hv=>exact .val hv
 | aS sz l t=>
  cases hq;cases h with
  | fU ht=>exact .fU λ k' hk=>ht k' hk
  | aS w hr hn fW he hc hw Oh U hv hh ht=>exact .aS w hr hn (sD fW) he hc hw Oh U hv (λ i c j p N X=>(hh i c j p N X).Kl λ _ _ _=>sD) λ k' hk=>ht k' hk
 | dN c o=>cases hq; cases h with | dN w hr hn fW hv hh=>exact .dN w hr hn (sD fW) hv λ j p X=>(hh j p X).Kl λ _ _ _=>sD
 | sl j o n c=>
  cases h with
  | sl hk=>
   simp only[Ou] at hq;cases hb:Nat.beq j k with
   | true=>rw[hb] at hq; cases hq
   | false=>rw[hb] at hq; cases hq; exact .sl (GM hk (cG hk hb))
 | mp j=>
  cases h with
  | mp hk=>
   simp only[Ou] at hq;cases hb:Nat.beq j k with
   | true=>rw[hb] at hq; cases hq
   | false=>rw[hb] at hq; cases hq; exact .mp (GM hk (cG hk hb))
 | ptr j o=>
  cases h with
  | @ptr _ _ id hk=>
   simp only[Ou] at hq;cases hb:Nat.beq j k with
   | false=>rw[hb] at hq; cases hq; exact .ptr (GM hk (cG hk hb))
   | true=>
    rw[hb] at hq; cases hq;have e1:j=k:=Nat.eq_of_beq_eq_true hb;subst e1;obtain⟨r,vs,D,V,h4,h5,h6,h7,h8⟩:=(hI.row j id R hk G).row hz;obtain⟨h9,_⟩:=sR h8 hl;have main:RV (e.cut j) tk H true (.dN cs o) (.pointer (some ⟨id,0+o,none⟩)):=by
     refine .dN (n:=cs.length) (λ i=>vs.getD i default) D (by omega) ⟨hI.wf.lt _ _ D,by rw[h6]; exact hI.wf.lt _ _ D,by rw[h6]; exact hX id _ hk,λ hm=>?_,λ t τ n a1 Z a3=>?_⟩ (λ i p N=>?_) (λ i p N=>?_)
     ·obtain⟨i,N,kD⟩:=List.mem_iff_getElem.1 hm;have AP:=List.getElem?_eq_getElem N;rw[kD] at AP;obtain⟨QF,Oi⟩:=CN AP;have:=hI.rnd i j id QF hk;omega
     ·exact absurd (by rw[<- a3,h6]; exact List.mem_of_getElem? hk) (hI.tq t τ a1)
     ·obtain⟨v,hv⟩:=aP (l:=vs) (i:=i) (by rw[<- h9.1]; exact ax N);rw[h7,Nat.zero_add,List.getElem?_map,List.getD_eq_getElem?_getD,hv]; rfl
     ·obtain⟨v,hv⟩:=aP (l:=vs) (i:=i) (by rw[<- h9.1]; exact ax N);show RV _ _ _ _ _ (vs.getD i default);rw[List.getD_eq_getElem?_getD,hv];exact(h9.2 i p v N hv).Kl λ _ _ _=>sD
    rw[Nat.zero_add] at main;exact main
 | aW sz l k=>cases hq
 | gW sz l k i o=>cases hq
 | agg l=>cases hq
 | fX l=>cases hq
 | fn f l m=>cases hq
 | iface t p=>cases hq
end
theorem bc.freeze {s:PS} (k:Nat) {R:aJ} {cs:List PV} {es:List (Nat×PV)} {fr':List aJ} (yP:s.fr[k]? = some R)
  (h:(Nat.beq s.fr.length (k+1),Nat.ble s.r0 k,Nat.beq R.esz kY,A6 R.cells,cr (Ru k cs) (s.fr.take k),cr (Pq s k cs) es)=(true,true,false,some cs,some fr',some (es.map Prod.snd))):bc s (PS.mS s.ms s.n es fr' s.tk s.r0 s.t0):=λ C e a H G=>by
 simp only[Prod.mk.injEq] at h;obtain⟨q1,q2,q3,q4,q5,q6⟩:=h;have q1:=Nat.eq_of_beq_eq_true q1;have q2:=Nat.le_of_ble_eq_true q2;have hI:=G.h.dz;obtain⟨m1,m2⟩:=iU q5;obtain⟨t1,t2⟩:=iU q6;obtain⟨new,n1,n2⟩:=G.h.ext.aY;have KD:=G.r0;have KJ:k < e.aY.length:=by rw[hI.dY,q1]; omega
 have hX:∀ id en,e.aY[k]? = some id->e.an id id en:=λ id en hk=>by
  have hn:C.H0.next<=id:=by
   rw[n1,List.getElem?_append_right (by omega)] at hk;exact n2 id (List.mem_of_getElem? hk)
  exact G.h.x.new id id en hn hn
 have fz:∀ {p q:PV} {v:Value},RV e s.tk H true p v->Ou k cs p=some q->RV (e.cut k) s.tk H true q v:=λ U hq=>X2 hI q1 yP q3 q4 hX U hq;have Fw:(s.fr.take k).length=k:=by rw[List.length_take,q1]; omega
 refine⟨e.cut k,⟨⟨hI.wf,?_,λ i j id N X=>hI.rnd i j id (CN N).1 (CN X).1,λ j id R' X ma=>?_,hI.dD,hI.iy,hI.oI,λ t τ ht hm=>hI.tq t τ ht (List.mem_of_mem_take hm)⟩,⟨⟨new.take (k - C.yO.length),?_,λ id cI=>n2 id (List.mem_of_mem_take cI)⟩,G.h.ext.tok,G.h.ext.old,G.h.ext.Hy⟩,G.h.bC,G.h.cw,⟨G.h.x.new,G.h.x.tok⟩,G.h.x0⟩,G.n,G.bn,G.r0,G.t0,λ t q hq=>?_⟩
 ·show(e.aY.take k).length=fr'.length;rw[<- m1,Fw,List.length_take]; omega
 ·obtain⟨B,D⟩:=CN X;obtain⟨R1,xT⟩:=aP (l:=s.fr) (i:=j) (by omega);have V:=m2 j R1 R' (by rw[List.getElem?_take,if_pos D]; exact xT) ma;unfold Ru at V;cases hm:cr (Ou k cs) R1.cells with
  | none=>rw[hm] at V; cases V
  | some m=>
   rw[hm] at V; cases V;obtain⟨c1,c2⟩:=iU hm;refine(hI.row j id R1 B xT).eR rfl rfl (λ us h8=>⟨c1.symm.trans h8.1,λ i q v N hv=>?_⟩) (λ sz l hl=>?_)
   ·obtain⟨p,U⟩:=aP (l:=R1.cells) (i:=i) (by rw[c1]; exact ax N);exact fz (h8.2 i p v U hv) (c2 i p q U N)
   ·show m=R1.cells;rw[hl] at hm ⊢; cases hm; rfl
 ·show e.aY.take k=_;rw[n1,List.take_append,List.take_of_length_le (by omega)]
 ·have hm:=ni es t q hq;obtain⟨i,N,kD⟩:=List.mem_iff_getElem.1 hm;have B:es[i]? = some (t,q):=by rw[List.getElem?_eq_getElem N,kD]
  have D:=t2 i (t,q) q B (by rw[List.getElem?_map,B]; rfl);unfold Pq at D;cases hg:s.tm.get t with
  | none=>simp only[hg] at D; cases D
  | some p=>
   simp only[hg] at D;obtain⟨v,k4,k5⟩:=G.tm t p hg;exact⟨v,k4,fz k5 D⟩
def FzL (s:PS) (k:Nat) (cs:List PV):List (Nat×PV)->Prop
 | []=>True
 | (t,q) :: l=>(∃ p,s.tm.get t=some p/\Ou k cs p=some q)/\FzL s k cs l
theorem FzL.ok {s:PS} {k:Nat} {cs:List PV} : ∀ {es:List (Nat×PV)},FzL s k cs es->cr (Pq s k cs) es=some (es.map Prod.snd)
 | [],_=>rfl
 | (t,q) :: l,h=>by
  obtain⟨⟨p,B,D⟩,V⟩:=h;simp only[cr,List.map_cons,Pq,B,D,V.ok]
section ops
variable {s:PS} {d:Option Tmp} {ty:TypeId} {pst:String} {af:Array Edge} {gu:Option (Nat×Bool)} {α:Type} {c:α->List PV} {o:Option α} {t t2 tu:TypeId} {x w:Operand}
end ops
end
end Go.cy
