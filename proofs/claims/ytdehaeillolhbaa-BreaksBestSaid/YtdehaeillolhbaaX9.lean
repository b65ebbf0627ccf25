/- aX9 -/
import Derived.Test.YtdehaeillolhbaaG3
import Derived.Test.YtdehaeillolhbaaProg
import Derived.KernelRfl
set_option linter.unusedVariables false
set_option linter.unusedSimpArgs false
set_option maxRecDepth 100000
set_option maxHeartbeats 4000000
namespace Go.cy.jV
open Go.Proofs
noncomputable section
theorem gM:type_of% Try.underlying22:=Try.underlying22
theorem UB:type_of% Try.underlying24:=Try.underlying24
theorem Y3:type_of% Try.underlying28:=Try.underlying28
theorem kF:type_of% Try.underlying34:=Try.underlying34
theorem N5:type_of% Try.underlying68:=Try.underlying68
theorem VU:type_of% Try.underlying73:=Try.underlying73
theorem Ow:type_of% Try.underlying78:=Try.underlying78
theorem Dx:type_of% Try.underlying85:=Try.underlying85
def fK:ia:=⟨λ f=>pick (Nat.beq f 7) (some (.bool true)) (none),λ _=>false⟩
theorem K7:PF Try.prog fK 7 [] [] [] (λ p fr tk=>p=.val (.bool true)/\fr=[]/\tk=[]):=PF.fR rfl rfl rfl ⟨rfl,rfl,rfl⟩
structure au where
  aM:Int
  cP:ByteArray
  size:Int
  dc:Int
  aB:Int
  aD:Int
  depth:Int
  aw:Int
  aF:Int
  value:Int
  cR:Bool
  bM:Int
  to_:Int
def dn (x:au):List PV:=[g x.aM,.val (.string x.cP),g x.size,g x.dc,g x.aB,g x.aD,g x.depth,g x.aw,g x.aF,g x.value,vB x.cR,g x.bM,g x.to_]
structure aE where
  bb:Int
  cL:Int
  aV:Int
  bq:Int
  bK:Int
  bo:Int
  dM:Int
def Qq (x:aE):List PV:=[g x.bb,g x.cL,g x.aV,g x.bq,g x.bK,g x.bo,g x.dM]
structure aH where
  bz:Int
  bZ:Int
  done:Int
  tv:Int
  gF:Int
  Bq:Int
def NL (x:aH):List PV:=[g x.bz,g x.bZ,g x.done,g x.tv,g x.gF,g x.Bq]
def br (x:Int):List PV:=[.val (.int .i64 x)]
structure cD where
  fA:Int
  kT:Int
  kU:Int
def sf (x:cD):List PV:=[g x.fA,g x.kT,g x.kU]
structure cA where
  aM:Int
  QU:Int
def yH (x:cA):List PV:=[g x.aM,g x.QU]
structure ay where
  gE:Bool
  bj:Int
  aR:Int
  aO:Int
  lq:Int
  mP:Int
  bw:Int
  ja:Int
  jb:Int
  jQ:Int
  lr:Int
  ph:Int
  lu:Int
  mQ:Bool
  jR:Bool
  pk:Bool
  jS:Int
  ly:Int
  ahead:Option Nat
def aK (K:Nat) (x:ay):List PV:=[vB x.gE,g x.bj,g x.aR,g x.aO,g x.lq,g x.mP,g x.bw,g x.ja,g x.jb,g x.jQ,g x.lr,g x.ph,g x.lu,vB x.mQ,vB x.jR,vB x.pk,g x.jS,g x.ly,cN K K 19 (Option.map some x.ahead) 0]
structure bI where
  first:Int
  bL:Int
  bf:Int
  bt:Int
  aw:Int
  aF:Int
  aN:Int
  fA:Int
  aI:Int
  bB:Bool
  bx:Bool
  c7:Bool
  aD:Int
  depth:Int
def gP (x:bI):List PV:=[g x.first,g x.bL,g x.bf,g x.bt,g x.aw,g x.aF,g x.aN,g x.fA,g x.aI,vB x.bB,vB x.bx,vB x.c7,g x.aD,g x.depth]
structure cg where
  gE:Bool
  eX:List Int
  bj:Int
  aR:Int
  aO:Int
  eo:Int
  fh:Int
  er:Int
  dj:Int
  dk:Int
  dH:Int
  eu:Int
  gn:Int
  bN:Int
  fi:Bool
  dI:Bool
  gp:Bool
  dJ:Int
  ey:Int
def de (x:cg):List PV:=[vB x.gE,.aS 1 (List.map br x.eX) none,g x.bj,g x.aR,g x.aO,g x.eo,g x.fh,g x.er,g x.dj,g x.dk,g x.dH,g x.eu,g x.gn,g x.bN,vB x.fi,vB x.dI,vB x.gp,g x.dJ,g x.ey]
def dp (x:List cg):List PV:=[.aS 19 (x.map de) none]
theorem uAp {K:Nat} (y:ay):∀ p∈aK K y,Ap 1 p:=(cc (.val _) (cc (.val _) (cc (.val _) (cc (.val _) (cc (.val _) (cc (.val _) (cc (.val _) (cc (.val _) (cc (.val _) (cc (.val _) (cc (.val _) (cc (.val _) (cc (.val _) (cc (.val _) (cc (.val _) (cc (.val _) (cc (.val _) (cc (.val _) (cc Rt tU)))))))))))))))))))
theorem cU {K:Nat} (y:ay):(aK K y).length=19:=rfl
theorem NM {l k sz o:Nat} {p:Option (Option Nat)} : (cN l k sz p o).plain=true:=by rcases p with _ | _ | i <;> rfl
theorem cUp {K:Nat} (y:ay):(aK K y).all PV.plain=true:=by
  unfold aK;simp only[List.all_cons,List.all_nil,NM,Bool.and_true];rfl
theorem ef (y:ay) {f aa:Nat->Option Nat} {K K1:Nat} (h:f K=some K1):cr (PV.to f aa 4) (aK K y)=some (aK K1 y):=(bT rfl (bT rfl (bT rfl (bT rfl (bT rfl (bT rfl (bT rfl (bT rfl (bT rfl (bT rfl (bT rfl (bT rfl (bT rfl (bT rfl (bT rfl (bT rfl (bT rfl (bT rfl (bT (eD h h) nm)))))))))))))))))))
theorem eT {S:List ay} {f aa:Nat->Option Nat} {K K1:Nat} (h:f K=some K1):cr (PV.to f aa 4) (cJ (aK K) S)=some (cJ (aK K1) S):=Ik (λ y=>ef y h) S
/-! reverse (33): a walk by hand -/
theorem C8 (x:Int) (B : -9223372036854775808<=x) (D:x < 9223372036854775808):w x=x:=by
  show(if (true && decide (x % 18446744073709551616>=9223372036854775808))=true then x % 18446744073709551616 - 18446744073709551616 else x % 18446744073709551616)=x;rw[Bool.true_and];by_cases h:x % 18446744073709551616>=9223372036854775808
  · rw[if_pos (by rw[decide_eq_true_eq]; exact h)]; omega
  · rw[if_neg (by rw[decide_eq_true_eq]; exact h)]; omega
theorem E3 {H:AH} {p:Option Addr} {n c:Nat} {J:Nat->AH->Prop} (hg:n+2<=9223372036854775808) (hJ:J 0 H)
    (fW:∀ i,2 * i+1 < n->∀ H',J i H'->∃ id off x y H1 H2,p=some ⟨id,off,none⟩/\(∃ r,H'.row id=.ok r/\r.cells[off+i]? = some (some x)/\r.cells[off+(n - 1 - i)]? = some (some y))/\bu x=true/\bu y=true/\Value.cells x=#[x]/\Value.cells y=#[y]/\H'.gf id (off+i) [y]=.ok H1/\H1.gf id (off+(n - 1 - i)) [x]=.ok H2/\J (i+1) H2) :
    uP Try.prog fK 33 [.slice p n c] H (λ v H'=>∃ i,n<=2 * i+1/\2 * i<=n+1/\J i H'):=by
  refine uP.call (mL Try.func33 rfl (by show 1<=28; omega) (by show 1<=1000000; omega) (by kernel_rfl)) rfl ?_;have K0:KA (cO Try.f33.ntmps [.slice p n c]) 28 (λ t=>if t=0 then some (.slice p n c) else none):=⟨rfl,rfl,λ t v h=>by
    split at h
    · rename_i e1; subst e1; cases h; rfl
    · cases h⟩
  have IK:w ((n:Int) - 1)=(n:Int) - 1:=C8 _ (by omega) (by omega);refine WC.region ?_;refine WO.ka K0 (d:=4) (v:=.slice p n c) (by simp only[b9,bind,Except.bind,K0.eval (t:=0) (v:=.slice p n c) rfl] <;> rfl) rfl rfl rfl λ a K=>?_;refine WO.ka K (d:=5) (v:=.int .i64 (n:Int)) (by simp only[b9,eU,bind,Except.bind,DX,kF,K.eval (t:=4) (v:=.slice p n c) rfl] <;> rfl) rfl rfl rfl λ a K=>?_;refine WO.ka K (d:=6) (v:=.int .i64 (w ((n:Int) - 1))) (by simp only[b9,bind,Except.bind,K.eval (t:=5) (v:=.int .i64 (n:Int)) rfl] <;> rfl) rfl rfl rfl λ a K=>?_;refine WO.ka K (d:=2) (v:=.int .i64 0) (by simp only[b9] <;> rfl) rfl rfl rfl λ a K=>?_;refine WO.ka K (d:=3) (v:=.int .i64 (w ((n:Int) - 1))) (by simp only[b9,bind,Except.bind,K.eval (t:=6) (v:=.int .i64 (w ((n:Int) - 1))) rfl] <;> rfl) rfl rfl rfl λ a K=>?_;rw[IK] at K;refine WO.nil ?_;refine WC.lone (WC.block ?_);refine WC.XM (λ k a H'=>∃ i:Nat,2 * i<=n+1/\k=n - i/\KA a 28 (λ t=>if t=2 then some (.int .i64 (i:Int)) else if t=3 then some (.int .i64 ((n:Int) - 1 - i)) else if t=0 then some (.slice p n c) else none)/\J i H') ?_ ⟨n - 0,0,Nat.zero_le _,rfl,⟨K.n,K.ms,λ t v h=>?_⟩,hJ⟩
  rotate_left
  · split at h
    · rename_i e1; subst e1; cases h; exact K.tm 2 _ rfl
    · split at h
      · rename_i e1; subst e1; cases h;rw[show(n:Int) - 1 - ((0:Nat):Int)=(n:Int) - 1 by omega];exact K.tm 3 _ rfl
      · split at h
        · rename_i e1; subst e1; cases h; exact K.tm 0 _ rfl
        · cases h
  rintro k a H' ⟨i,N,rfl,K,hJ'⟩;refine WC.eP (WC.region ?_);refine WO.ka K (d:=7) (v:=.int .i64 (i:Int)) (by simp only[b9,bind,Except.bind,K.eval (t:=2) (v:=.int .i64 (i:Int)) rfl] <;> rfl) rfl rfl rfl λ a K=>?_;refine WO.ka K (d:=8) (v:=.int .i64 ((n:Int) - 1 - i)) (by simp only[b9,bind,Except.bind,K.eval (t:=3) (v:=.int .i64 ((n:Int) - 1 - i)) rfl] <;> rfl) rfl rfl rfl λ a K=>?_;refine WO.ka K (d:=9) (v:=.bool (decide ((i:Int) < (n:Int) - 1 - i))) (by simp only[b9,bind,Except.bind,K.eval (t:=7) (v:=.int .i64 (i:Int)) rfl,K.eval (t:=8) (v:=.int .i64 ((n:Int) - 1 - i)) rfl] <;> rfl) rfl rfl rfl λ a K=>?_;refine WO.nil ?_;refine WC.cond (b:=decide ((i:Int) < (n:Int) - 1 - i)) (K.tm 9 _ rfl) (λ ht=>?_) (λ hf=>?_)
  · have cG:2 * i+1 < n:=by have:=of_decide_eq_true ht; omega
    obtain⟨id,off,x,y,H1,H2,rfl,⟨r,eH,Y,hy⟩,hpx,hpy,hcx,hcy,IK,VS,hJ2⟩:=fW i cG H' hJ';have Ry:H'.row id=.ok r:=eH;have xj:gH (.int .i64 (i:Int)) (n - 1)=.ok i:=by
      unfold gH;show(if 0<=(i:Int)/\(i:Int)<=((n - 1:Nat):Int) then(Except.ok (i:Int).toNat:R Nat) else .error 18)=_;rw[if_pos (by omega)]; rfl
    have Hq:gH (.int .i64 ((n:Int) - 1 - i)) (n - 1)=.ok (n - 1 - i):=by
      unfold gH;show(if 0<=(n:Int) - 1 - i/\(n:Int) - 1 - i<=((n - 1:Nat):Int) then(Except.ok ((n:Int) - 1 - i).toNat:R Nat) else .error 18)=_;rw[if_pos (by omega)];congr 1; omega
    have hi1:i < n:=by omega
    have uH:n - 1 - i < n:=by omega
    have gK:bD Try.prog 3=.ok 1:=by kernel_rfl
    have Vx:rm Try.prog 3=.ok false:=by kernel_rfl
    refine WC.aZ ?_;refine WC.block ?_;refine WC.lone (WC.drawn (order:=[0,1,4,5,6,7,8,9,10,11,12,13,2,3,14,15]) (by kernel_rfl) ?_);refine WO.ka K (d:=14) (v:=.slice (some ⟨id,off,none⟩) n c) (by simp only[b9,bind,Except.bind,K.eval (t:=0) (v:=.slice (some ⟨id,off,none⟩) n c) rfl] <;> rfl) rfl rfl rfl λ a K=>?_;refine WO.ka K (d:=15) (v:=.int .i64 (i:Int)) (by simp only[b9,bind,Except.bind,K.eval (t:=2) (v:=.int .i64 (i:Int)) rfl] <;> rfl) rfl rfl rfl λ a K=>?_;refine WO.ka K (d:=18) (v:=.slice (some ⟨id,off,none⟩) n c) (by simp only[b9,bind,Except.bind,K.eval (t:=0) (v:=.slice (some ⟨id,off,none⟩) n c) rfl] <;> rfl) rfl rfl rfl λ a K=>?_;refine WO.ka K (d:=19) (v:=.int .i64 ((n:Int) - 1 - i)) (by simp only[b9,bind,Except.bind,K.eval (t:=3) (v:=.int .i64 ((n:Int) - 1 - i)) rfl] <;> rfl) rfl rfl rfl λ a K=>?_;refine WO.ka K (d:=20) (v:=.pointer (some ⟨id,off+(n - 1 - i),none⟩)) (by simp only[b9,bind,Except.bind,kF,gK,Hq,if_pos uH,Nat.mul_one,K.eval (t:=18) (v:=.slice (some ⟨id,off,none⟩) n c) rfl,K.eval (t:=19) (v:=.int .i64 ((n:Int) - 1 - i)) rfl] <;> rfl) rfl rfl rfl λ a K=>?_;refine WO.ka K (d:=21) (v:=y) (by simp only[b9,bind,Except.bind,eg,jq,Ry,Vx,K.eval (t:=20) (v:=.pointer (some ⟨id,off+(n - 1 - i),none⟩)) rfl,hy] <;> rfl) rfl rfl rfl λ a K=>?_;refine WO.ka K (d:=22) (v:=.slice (some ⟨id,off,none⟩) n c) (by simp only[b9,bind,Except.bind,K.eval (t:=0) (v:=.slice (some ⟨id,off,none⟩) n c) rfl] <;> rfl) rfl rfl rfl λ a K=>?_;refine WO.ka K (d:=23) (v:=.int .i64 (i:Int)) (by simp only[b9,bind,Except.bind,K.eval (t:=2) (v:=.int .i64 (i:Int)) rfl] <;> rfl) rfl rfl rfl λ a K=>?_;refine WO.ka K (d:=24) (v:=.pointer (some ⟨id,off+i,none⟩)) (by simp only[b9,bind,Except.bind,kF,gK,xj,if_pos hi1,Nat.mul_one,K.eval (t:=22) (v:=.slice (some ⟨id,off,none⟩) n c) rfl,K.eval (t:=23) (v:=.int .i64 (i:Int)) rfl] <;> rfl) rfl rfl rfl λ a K=>?_;refine WO.ka K (d:=25) (v:=x) (by simp only[b9,bind,Except.bind,eg,jq,Ry,Vx,K.eval (t:=24) (v:=.pointer (some ⟨id,off+i,none⟩)) rfl,Y] <;> rfl) rfl rfl rfl λ a K=>?_;refine WO.ka K (d:=26) (v:=.pointer (some ⟨id,off+i,none⟩)) (by simp only[b9,bind,Except.bind,kF,gK,xj,if_pos hi1,Nat.mul_one,K.eval (t:=14) (v:=.slice (some ⟨id,off,none⟩) n c) rfl,K.eval (t:=15) (v:=.int .i64 (i:Int)) rfl] <;> rfl) rfl rfl rfl λ a K=>?_;refine WO.one (jP rfl) rfl (v:=undef) (H1:=H1) ⟨0,by simp only[b9,bind,Except.bind,eg,gK,K.eval (t:=26) (v:=.pointer (some ⟨id,off+i,none⟩)) rfl,K.eval (t:=21) (v:=y) rfl,hcy]; rw[if_pos (show(#[y] : Array Value).size=1 from rfl)]; rw[IK]⟩ rfl ?_;replace K:KA (a.dF none undef) _ _:=K;refine WO.ka K (d:=16) (v:=.slice (some ⟨id,off,none⟩) n c) (by simp only[b9,bind,Except.bind,K.eval (t:=0) (v:=.slice (some ⟨id,off,none⟩) n c) rfl] <;> rfl) rfl rfl rfl λ a K=>?_;refine WO.ka K (d:=17) (v:=.int .i64 ((n:Int) - 1 - i)) (by simp only[b9,bind,Except.bind,K.eval (t:=3) (v:=.int .i64 ((n:Int) - 1 - i)) rfl] <;> rfl) rfl rfl rfl λ a K=>?_;refine WO.ka K (d:=27) (v:=.pointer (some ⟨id,off+(n - 1 - i),none⟩)) (by simp only[b9,bind,Except.bind,kF,gK,Hq,if_pos uH,Nat.mul_one,K.eval (t:=16) (v:=.slice (some ⟨id,off,none⟩) n c) rfl,K.eval (t:=17) (v:=.int .i64 ((n:Int) - 1 - i)) rfl] <;> rfl) rfl rfl rfl λ a K=>?_;refine WO.one (jP rfl) rfl (v:=undef) (H1:=H2) ⟨0,by simp only[b9,bind,Except.bind,eg,gK,K.eval (t:=27) (v:=.pointer (some ⟨id,off+(n - 1 - i),none⟩)) rfl,K.eval (t:=25) (v:=x) rfl,hcx]; rw[if_pos (show(#[x] : Array Value).size=1 from rfl)]; rw[VS]⟩ rfl ?_;replace K:KA (a.dF none undef) _ _:=K;refine WO.nil ?_;refine WC.skip ?_;refine WC.lone (WC.region ?_);refine WO.ka K (d:=10) (v:=.int .i64 (i:Int)) (by simp only[b9,bind,Except.bind,K.eval (t:=2) (v:=.int .i64 (i:Int)) rfl] <;> rfl) rfl rfl rfl λ a K=>?_;refine WO.ka K (d:=11) (v:=.int .i64 (w ((i:Int)+1))) (by simp only[b9,bind,Except.bind,K.eval (t:=10) (v:=.int .i64 (i:Int)) rfl] <;> rfl) rfl rfl rfl λ a K=>?_;refine WO.ka K (d:=12) (v:=.int .i64 ((n:Int) - 1 - i)) (by simp only[b9,bind,Except.bind,K.eval (t:=3) (v:=.int .i64 ((n:Int) - 1 - i)) rfl] <;> rfl) rfl rfl rfl λ a K=>?_;refine WO.ka K (d:=13) (v:=.int .i64 (w ((n:Int) - 1 - i - 1))) (by simp only[b9,bind,Except.bind,K.eval (t:=12) (v:=.int .i64 ((n:Int) - 1 - i)) rfl] <;> rfl) rfl rfl rfl λ a K=>?_;refine WO.ka K (d:=2) (v:=.int .i64 (w ((i:Int)+1))) (by simp only[b9,bind,Except.bind,K.eval (t:=11) (v:=.int .i64 (w ((i:Int)+1))) rfl] <;> rfl) rfl rfl rfl λ a K=>?_;refine WO.ka K (d:=3) (v:=.int .i64 (w ((n:Int) - 1 - i - 1))) (by simp only[b9,bind,Except.bind,K.eval (t:=13) (v:=.int .i64 (w ((n:Int) - 1 - i - 1))) rfl] <;> rfl) rfl rfl rfl λ a K=>?_;refine WO.nil ?_;refine WC.skip ?_;refine⟨n - (i+1),by omega,i+1,by omega,rfl,⟨K.n,K.ms,λ t v h=>?_⟩,hJ2⟩;split at h
    · rename_i e1; subst e1; cases h;have:=K.tm 2 _ rfl;rw[C8 _ (by omega) (by omega)] at this;exact this
    · split at h
      · rename_i e1; subst e1; cases h;have:=K.tm 3 _ rfl;rw[C8 _ (by omega) (by omega)] at this;rw[show(n:Int) - 1 - ((i+1:Nat):Int)=(n:Int) - 1 - i - 1 by omega];exact this
      · split at h
        · rename_i e1; subst e1; cases h; exact K.tm 0 _ rfl
        · cases h
  · refine WC.exit ?_;have Ur:n<=2 * i+1:=by have:=of_decide_eq_false hf; omega
    have acH:WC Try.prog fK none .skip a H' (λ e a1 H1=>(e=.normal\/e=.ret)/\a1.bn=[]/\∃ v,c9 Try.prog H1 a1 Try.f33.results.toList=.ok v/\∃ i,n<=2 * i+1/\2 * i<=n+1/\J i H1):=WC.skip ⟨.inl rfl,K.ms,_,rfl,i,Ur,N,hJ'⟩;exact acH
theorem Qr (H:AH) (id off n c:Nat) (r:Row) (wv:Nat->Int) (hr:H.get id=some (.row r)) (gG:r.ro=false) (he:r.esz=1) (hl:off+n<=r.cells.length) (hg:n+2<=9223372036854775808) (hc:∀ i,i < n->r.cells[off+i]? = some (some (.int .i64 (wv i)))) :
    uP Try.prog fK 33 [.slice (some ⟨id,off,none⟩) n c] H (λ v H'=>kh r.aU H H'/\∃ r',H'.get id=some (.row r')/\∀ i,i < n->r'.cells[off+i]? = some (some (.int .i64 (wv (n - 1 - i))))):=by
  have main:=E3 (H:=H) (p:=some ⟨id,off,none⟩) (n:=n) (c:=c) (J:=λ i H'=>kh r.aU H H'/\∃ r',H'.get id=some (.row r')/\Meta r r'/\∀ k,k < n->r'.cells[off+k]? = some (some (.int .i64 (if k < i\/n - 1 - k < i then wv (n - 1 - k) else wv k)))) hg
    ⟨kh.refl _ _,r,hr,Meta.refl r,λ k hk=>by rw[if_neg (by omega)]; exact hc k hk⟩ (λ i N H' hJ=>by
      obtain⟨hv,r',ga,hm,hk⟩:=hJ;have Y:=hk i (by omega);have hy:=hk (n - 1 - i) (by omega);rw[if_neg (by omega)] at Y hy;have Xq:r'.ro=false:=hm.ro.trans gG;obtain⟨H1,B,D,r1,V,h4,h5⟩:=Au (o:=off+i) (v:=.int .i64 (wv (n - 1 - i))) ga Xq rfl (by rw[hm.len]; omega);obtain⟨H2,k1,k2,r2,k3,k4,k5⟩:=Au (o:=off+(n - 1 - i)) (v:=.int .i64 (wv i)) V (h4.ro.trans Xq) rfl (by rw[h4.len,hm.len]; omega);refine⟨id,off,.int .i64 (wv i),.int .i64 (wv (n - 1 - i)),H1,H2,rfl,⟨r',by unfold AH.row; rw[ga],Y,hy⟩,rfl,rfl,rfl,rfl,B,k1,?_,r2,k3,hm.trans (h4.trans k4),λ k Se=>?_⟩
      · rw[hm.aU] at D;rw[h4.aU,hm.aU] at k2;exact hv.trans (D.trans k2)
      · rw[k5,h5];by_cases e1:k=i
        · subst e1;rw[if_neg (by omega),if_pos rfl,if_pos (by omega)]
        · by_cases e2:k=n - 1 - i
          · subst e2;rw[if_pos rfl,if_pos (by omega),show n - 1 - (n - 1 - i)=i by omega]
          · rw[if_neg (by omega),if_neg (by omega),hk k Se];by_cases e3:k < i\/n - 1 - k < i
            · rw[if_pos e3,if_pos (by omega)]
            · rw[if_neg e3,if_neg (by omega)])
  refine main.mono λ v H' h=>?_;obtain⟨i,B,D,hv,r',ga,_,hk⟩:=h;refine⟨hv,r',ga,λ k Se=>?_⟩;rw[hk k Se];by_cases e1:k < i\/n - 1 - k < i
  · rw[if_pos e1]
  · rw[if_neg e1,show n - 1 - k=k by omega]
theorem Qs (H:AH):uP Try.prog fK 33 [.slice none 0 0] H (λ v H'=>H'=H):=(E3 (J:=λ _ H'=>H'=H) (by omega) rfl λ i N=>by omega).mono λ v H' ⟨_,_,_,h⟩=>h
@[reducible] def lI (x:List au):PV:=.aS 13 (List.map dn x) none
@[reducible] def lN (x:List Int):PV:=.aS 1 (List.map br x) none
@[reducible] def lW (x:List cg):PV:=.aS 19 (List.map de x) none
@[reducible] def lM (x:List Int) (k:Nat):PV:=.aS 1 (List.map br x) (some k)
@[reducible] def v0:PV:=.val (.slice none 0 0)
@[reducible] def R0 (x0:aE):aJ:=⟨0,Qq x0⟩
@[reducible] def R1:aJ:=⟨0,[g 0,g 0,g 0]⟩
@[reducible] def R2:aJ:=⟨0,[g 0,g 0]⟩
@[reducible] def R3 (x0:aH):aJ:=⟨0,NL x0⟩
@[reducible] def R4 (x0:au):aJ:=⟨0,dn x0⟩
@[reducible] def R5 (x0:bI):aJ:=⟨0,gP x0⟩
@[reducible] def R6:aJ:=⟨0,[g 0,g 0,g 0,g 0,g 0,g 0,g 0,g 0,g 0,vB false,vB false,vB false,g 0,g 0]⟩
@[reducible] def R7 (x0:List ay):aJ:=⟨76,cJ (aK 2) x0⟩
@[reducible] def R8 (x0:List au) (x1:Int) (x2:Int) (x3:List Int) (x4:Nat):aJ:=⟨0,[E 0,lI x0,g x1,g x2,lN x3,.sl 2 0 x4 x4]⟩
@[reducible] def R9 (x0:Int):aJ:=⟨0,[g x0]⟩
@[reducible] def oK:aJ:=⟨0,[E 0]⟩
@[reducible] def jX (x0:List au) (x1:Int) (x2:Int) (x3:List Int) (x4:PV):aJ:=⟨0,[E 0,lI x0,g x1,g x2,lN x3,x4]⟩
@[reducible] def jZ (x0:List ay):aJ:=⟨76,cJ (aK 4) x0⟩
@[reducible] def mq (x0:cg):aJ:=⟨0,de x0⟩
@[reducible] def uI (x0:PV):aJ:=⟨0,[x0]⟩
@[reducible] def uQ (x0:Int) (x1:Int) (x2:Int) (x3:Int) (x4:Int) (x5:Int) (x6:Int) (x7:Int):aJ:=⟨0,[g x0,g x1,g x2,g x3,g x4,g x5,g 0,g 0,g 0,vB false,vB false,vB false,g x6,g x7]⟩
@[reducible] def xn:aJ:=⟨0,[vB true,v0,g 0,g 0,g 0,g (-1),g 0,g 0,g 0,g 0,g 0,g 0,g 0,g 0,vB false,vB false,vB false,g 0,g 0]⟩
@[reducible] def Kq (x0:Bool):aJ:=⟨0,[vB x0]⟩
@[reducible] def AJ (x0:List ay):aJ:=⟨76,cJ (aK 0) x0⟩
@[reducible] def AK:aJ:=⟨0,[vB false,v0,g 0,g 0,g 0,g 0,g 0,g 0,g 0,g 0,g 0,g 0,g 0,g 0,vB false,vB false,vB false,g 0,g 0]⟩
@[reducible] def AU (x0:List Int):aJ:=⟨0,[lN x0]⟩
@[reducible] def Bs (x0:cD):aJ:=⟨0,sf x0⟩
@[reducible] def Dy (x0:Int) (x1:Int) (x2:Int):aJ:=⟨0,[g x0,g x1,g x2,g 0,g 0,g 0,g 0,g 0,g 0,vB false,vB false,vB false,g 0,g 0]⟩
@[reducible] def Ox (x0:Int) (x1:Int) (x2:Int) (x3:Int) (x4:Int) (x5:Int) (x6:Int):aJ:=⟨0,[g x0,g x1,g x2,g x3,g x4,g x5,g x6]⟩
@[reducible] def FC (x0:Bool) (x1:List Int) (x2:Int) (x3:Int) (x4:Int) (x5:Int) (x6:Int) (x7:Int) (x8:Int) (x9:Int) (KP:Int) (Dz:Int) (DN:Int) (xV:Int) (x14:Bool) (Oy:Bool) (Sf:Bool) (FD:Int) (VW:Int):aJ:=⟨0,[vB x0,lN x1,g x2,g x3,g x4,g x5,g x6,g x7,g x8,g x9,g KP,g Dz,g DN,g xV,vB x14,vB Oy,vB Sf,g FD,g VW]⟩
@[reducible] def Hz:aJ:=⟨0,[vB false]⟩
@[reducible] def HA:aJ:=⟨0,[g (-1),g 0,g 0,g 0,g 0,g 0,g 0,g 0,g 0,vB false,vB false,vB false,g 0,g 0]⟩
@[reducible] def IL (x0:Int) (x1:Int) (x2:Int) (x3:Int) (x4:Int) (x5:Int) (x6:Bool) (x7:Bool) (x8:Int) (x9:Int):aJ:=⟨0,[g x0,g x1,g x2,g x3,g x4,g x5,g 0,g 0,g 0,vB false,vB x6,vB x7,g x8,g x9]⟩
@[reducible] def Kr (x0:List ay):aJ:=⟨76,cJ (aK 3) x0⟩
@[reducible] def KQ:aJ:=⟨0,[vB false,g 0,g 0,g 0,g 0,g 0,g 0,g 0,g 0,g 0,g 0,g 0,g 0,vB false,vB false,vB false,g 0,g 0,.val (.pointer none)]⟩
@[reducible] def N6 (x0:cA):aJ:=⟨0,yH x0⟩
@[reducible] def N7 (x0:PV) (x1:Int) (x2:Int) (x3:Int) (x4:Int) (x5:Int) (x6:Int) (x7:Int) (x8:Int) (x9:Int) (KP:Int) (Dz:Int) (DN:Int) (xV:Bool) (x14:Bool) (Oy:Bool) (Sf:Int) (FD:Int):aJ:=⟨0,[vB true,x0,g x1,g x2,g x3,g x4,g x5,g x6,g x7,g x8,g x9,g KP,g Dz,g DN,vB xV,vB x14,vB Oy,g Sf,g FD]⟩
@[reducible] def Oz (x0:List au):aJ:=⟨0,[lI x0]⟩
@[reducible] def QW (x0:Int) (x1:Int) (x2:Int) (x3:Int) (x4:Int) (x5:Int):aJ:=⟨0,[g x0,g x1,g x2,g x3,g x4,g x5]⟩
@[reducible] def UC (x0:Int) (x1:Int) (x2:Int) (x3:Int) (x4:Int) (x5:Int) (x6:Int) (x7:Int) (x8:Int) (x9:Bool) (KP:Bool) (Dz:Bool) (DN:Int) (xV:Int):aJ:=⟨0,[g x0,g x1,g x2,g x3,g x4,g x5,g x6,g x7,g x8,vB x9,vB KP,vB Dz,g DN,g xV]⟩
@[reducible] def VX (x0:Int) (x1:ByteArray) (x2:Int) (x3:Int) (x4:Int) (x5:Int) (x6:Int) (x7:Int) (x8:Int) (x9:Int) (KP:Bool) (Dz:Int) (DN:Int):aJ:=⟨0,[g x0,.val (.string x1),g x2,g x3,g x4,g x5,g x6,g x7,g x8,g x9,vB KP,g Dz,g DN]⟩
@[reducible] def VY (x0:Int) (x1:ByteArray) (x2:Int) (x3:Int) (x4:Int) (x5:Int) (x6:Int) (x7:Int):aJ:=⟨0,[g x0,.val (.string x1),g x2,g 0,g x3,g 0,g 0,g x4,g x5,g 0,vB false,g x6,g x7]⟩
@[reducible] def VZ (x0:Int) (x1:ByteArray) (x2:Int) (x3:Int) (x4:Int) (x5:Int) (x6:Int) (x7:Int) (x8:Int) (x9:Int):aJ:=⟨0,[g x0,.val (.string x1),g x2,g x3,g x4,g x5,g x6,g 0,g 0,g x7,vB true,g x8,g x9]⟩
@[reducible] def V0 (x0:List au) (x1:Int) (x2:Int) (x3:List Int):aJ:=⟨0,[E 0,lI x0,g x1,g x2,lN x3,v0]⟩
@[reducible] def Y4 (x0:Int) (x1:ByteArray) (x2:Int):aJ:=⟨0,[g x0,.val (.string x1),g 0,g 0,g x2,g 0,g 0,g 0,g 0,g 0,vB false,g 0,g 0]⟩
@[reducible] def Y5 (x0:ByteArray):aJ:=⟨0,[g 0,.val (.string x0),g 0,g 0,g 0,g 0,g 0,g 0,g 0,g 0,vB false,g 0,g 0]⟩
@[reducible] def R41 (x0:Int) (x1:ByteArray) (x2:Int) (x3:Int):aJ:=⟨0,[g x0,.val (.string x1),g 0,g 0,g 0,g 0,g 0,g 0,g 0,g 0,vB false,g x2,g x3]⟩
def DO (k:Nat) (A:List au) (a1:Int):Option Bool:=
bp A a1 λ y1=>
bif y1.aM == 3 then(Option.bind (α:=Bool) (bif decide (a1 > 0) then(bp A (w (a1 - 1)) λ y3=>
some (y3.aM == 1)) else(some false)) λ(v2:Bool)=>
some v2) else(bif y1.aM == 4 then(bp A a1 λ y4=>
some (decide (y4.value < 10000))) else(some false))
theorem L71 (k:Nat) (A:List au) (a1:Int) (r:Bool) (I:DO k A a1=some r):PF Try.prog fK 71 [lI A,g a1] [] [] (λ p fr tk=>p=vB r/\fr=[]/\tk=[]):=by
 unfold DO at I;refine qP Try.func71 ?_;refine qr 2 ?_;refine qM 2 ?_;refine qI gM I λ y1 I=>?_;refine qN 2 ?_;refine PC.block ?_;refine qr 3 ?_;refine .lone (qD I (λ I=>?_) λ I=>?_)
 ·refine qM 3 ?_;refine aq I λ x4 e5 I=>PO.cut 8 (cu (λ v2=>PS.of 31 [(4,vB false),(22,vB v2)] [] [] 0 0) x4) ?_ ?_
  ·refine qC 14 e5 (λ e5=>?_) λ e5=>?_
   ·refine qR 3 ?_;refine qI gM e5 λ y3 e5=>?_;refine qN 4 ?_;exact⟨y3.aM == 1,qw [] [],qs e5⟩
   exact qW 8 false [] [] e5
  rintro _ ⟨v2,w9,rfl⟩;refine w9.o (qN 1 ?_);cases I;exact .ret (bk.ct (qf [] []))
 refine qK 3 ?_;refine qD I (λ I=>?_) λ I=>?_
 ·refine qM 2 ?_;refine qI gM I λ y4 I=>?_;refine qN 4 ?_;cases I;exact .ret (bk.ct (qf [] []))
 refine .aZ (PC.skip (bk.end ?_));refine qr 2 ?_;cases I;exact .cS (qf [] [])
theorem I66 (ab:List Int) (hA:(ab.length:Int) < 9223372036854775807) (k0:Nat):LN Try.prog fK 47 [] [.ptr k0 0] (λ fr=>∃ t e,fr[k0]? = some ⟨e,[.aS 1 (ab.map br) t]⟩/\Nat.beq e kY=false) (ab.map br):=by
  intro l r C hC hr J ag hJ hY e fr tk H vs G h0 hv;obtain⟨b1,b2,t,e1,b3,b4⟩:=hJ 0 fr tk h0;refine fu.enter (K:=λ p fr' tk'=>match p with | none=>J (ab.map br).length fr' tk' | some c=>ag c fr' tk') Try.func47 rfl rfl rfl (by kernel_rfl) rfl b1 b2 G hv ?_;refine fu.region (tr.of ?_);refine PO.aX rfl (zV rfl b3 (by kernel_rfl) rfl b4) rfl ?_;refine qS kF ?_;refine qN 1 ?_;show fu _ _ _ _ _ _ _ _;refine fu.lone ?_;refine fu.block ?_;have hlen:(ab.map br).length=ab.length:=List.length_map _;refine fu.loop (λ j s=>∃ (i:Nat) (fr':List aJ) (tk':List Nat),j+i=ab.length/\J i fr' tk'/\bc s (PS.of 16 [(0,.val (.func (.yield l) #[] #[])),(5,.aS 1 (ab.map br) none),(6,.val (.int .i64 (ab.length:Int))),(7,.val (.int .i64 (i:Int)))] fr' tk' fr.length tk.length)) ?_ ab.length ⟨0,fr,tk,rfl,h0,bc.FQ ⟨⟨_,rfl,.refl _⟩,⟨_,rfl,.tok _ _ _⟩,⟨_,rfl,.refl _⟩,⟨_,rfl,.refl _⟩,trivial⟩⟩;rintro j s ⟨i,fr',tk',oL,X,hw⟩;refine fu.gb hw ?_;refine fu.region (tr.of ?_);refine qN 1 ?_;show fu _ _ _ _ _ _ _ _;refine fu.cond rfl (λ hb=>?_) (λ hb=>?_)
  · refine fu.aZ ?_;refine fu.block ?_;have N:(i:Int) < ab.length:=of_decide_eq_true hb;obtain⟨y,hy⟩:∃ y,ab[(i:Int).toNat]? = some y:=⟨_,List.getElem?_eq_getElem (by omega)⟩
    refine fu.region (tr.of ?_);refine PO.aX rfl (iY kF rfl rfl rfl (Int.natCast_nonneg i) (nj hy)) rfl ?_;refine qN 2 ?_;show fu _ _ _ _ _ _ _ _;refine fu.region ?_;refine tr.cut 2 (λ s1=>bc s1 (PS.of 16 [(0,.val (.func (.yield l) #[] #[])),(5,.aS 1 (ab.map br) none),(6,.val (.int .i64 (ab.length:Int))),(7,.val (.int .i64 (i:Int))),(11,.val (.func (.yield l) #[] #[])),(12,.val (.int .i64 y))] fr' tk' fr.length tk.length)) (PO.run 2 rfl (PO.nil (bc.FQ ⟨⟨_,rfl,.refl _⟩,⟨_,rfl,.refl _⟩,⟨_,rfl,.refl _⟩,⟨_,rfl,.refl _⟩,⟨_,rfl,.refl _⟩,⟨_,rfl,.refl _⟩,trivial⟩))) ?_;intro s1 IK;refine tr.gb IK ?_;have Y:(ab.map br)[i]? = some (br y):=by rw[show(i:Int).toNat=i by omega] at hy; rw[List.getElem?_map,hy]; rfl
    refine tr.yield hC hr rfl rfl rfl rfl rfl rfl (hY i _ fr' tk' Y X) ?_;intro p Dv tk2 hk;have wi:IntKind.i64.wrap ((i:Int)+1)=((i+1:Nat):Int):=by
      rw[IntKind.wrap_i64]; omega
    cases p with
    | none=>
      refine tr.of ?_;refine qN 1 ?_;show fu _ _ _ _ _ _ _ _;refine fu.lone ?_;refine fu.cond rfl (λ hb=>by cases hb) (λ _=>?_);refine fu.aZ ?_;refine fu.of (PC.skip ?_);show fu _ _ _ _ _ _ _ _;refine fu.lone ?_;refine fu.region (tr.of ?_);refine qN 2 ?_;show fu _ _ _ _ _ _ _ _;refine fu.of (PC.skip ?_);refine⟨j - 1,by omega,i+1,Dv,tk2,by omega,hk,?_⟩;rw[<- wi];exact bc.FQ ⟨⟨_,rfl,.refl _⟩,⟨_,rfl,.refl _⟩,⟨_,rfl,.refl _⟩,⟨_,rfl,.refl _⟩,trivial⟩
    | some c=>
      show PO _ _ _ _ _ _ _;refine qN 1 ?_;show PC _ _ _ _ _ _;refine .lone (PC.cond rfl (λ _=>?_) (λ hb=>by cases hb));exact .ret ⟨trivial,rfl,⟨_,rfl⟩,hk⟩
  · have N:¬ (i:Int) < ab.length:=of_decide_eq_false hb;refine fu.of (PC.exit ?_);refine zE.exit (ql.eF ?_);show fu _ _ _ _ _ _ _ _;have e2:(ab.map br).length=i:=by omega
    refine fu.of (PC.skip ⟨trivial,rfl,⟨_,rfl⟩,?_⟩);show J (ab.map br).length _ _;rw[e2];exact X
def o4 (k:Nat) (L:List au):Nat->Int->Option (List Int)
  | 0,_=>none
  | j+1,i=>bif decide (i < (L.length:Int)) then(DO k L i).bind λ b=>(o4 k L j (w (i+1))).bind λ r=>some (bif b then i :: r else r) else some []
theorem I93 (k:Nat) (L:List au) (j0:Nat) (ab:List Int) (hA:o4 k L j0 0=some ab) (k0:Nat):LN Try.prog fK 70 [] [.ptr k0 0] (λ fr=>∃ t e,fr[k0]? = some ⟨e,[.aS 13 (L.map dn) t]⟩/\Nat.beq e kY=false) (ab.map br):=by
  intro l r C hC hr J ag hJ hY e fr tk H vs G h0 hv;obtain⟨b1,b2,t,e1,b3,b4⟩:=hJ 0 fr tk h0;refine fu.enter (K:=λ p fr' tk'=>match p with | none=>J (ab.map br).length fr' tk' | some c=>ag c fr' tk') Try.func70 rfl rfl rfl (by kernel_rfl) rfl b1 b2 G hv ?_;refine fu.region (tr.of ?_);refine PO.aX rfl (zV rfl b3 (by kernel_rfl) rfl b4) rfl ?_;refine qS gM ?_;refine qN 1 ?_;show fu _ _ _ _ _ _ _ _;refine fu.lone ?_;refine fu.block ?_;have hlen:(ab.map br).length=ab.length:=List.length_map _;refine fu.loop (λ j s=>∃ (i:Int) (n:Nat) (fr':List aJ) (tk':List Nat),o4 k L j i=some (ab.drop n)/\n<=ab.length/\J n fr' tk'/\bc s (PS.of 19 [(0,.val (.func (.yield l) #[] #[])),(1,.ptr k0 0),(5,.val (.int .i64 (L.length:Int))),(6,.val (.int .i64 i))] fr' tk' fr.length tk.length)) ?_ j0 ⟨0,0,fr,tk,by rw[hA]; rfl,Nat.zero_le _,h0,bc.FQ ⟨⟨_,rfl,.refl _⟩,⟨_,rfl,.refl _⟩,⟨_,rfl,.refl _⟩,⟨_,rfl,.refl _⟩,trivial⟩⟩;rintro j s ⟨i,n,fr',tk',hW,hn,X,hw⟩;refine fu.gb hw ?_;cases j with
  | zero=>cases hW
  | succ j=>
  unfold o4 at hW;refine fu.region (tr.of ?_);refine qN 1 ?_;show fu _ _ _ _ _ _ _ _;refine fu.cond rfl (λ hb=>?_) (λ hb=>?_)
  · rw[hb,cond_true] at hW;refine Exists.elim (bind_some hW) (λ b hq=>?_);have e2:=hq.1;refine Exists.elim (bind_some hq.2) (λ r3 Us=>?_);have e3:=Us.1;have e4:=qs Us.2;clear hq Us hW;refine fu.aZ ?_;refine fu.block ?_;refine fu.region (tr.of ?_);refine qN 2 ?_;show fu _ _ _ _ _ _ _ _;obtain⟨_,_,t',Um,Kp,b4'⟩:=hJ n fr' tk' X;refine fu.region ?_;refine tr.cut 4 (λ s1=>bc s1 (PS.of 19 [(0,.val (.func (.yield l) #[] #[])),(1,.ptr k0 0),(3,.val (.int .i64 i)),(5,.val (.int .i64 (L.length:Int))),(6,.val (.int .i64 i)),(12,.val (.bool b))] fr' tk' fr.length tk.length)) ?_ ?_
    · refine PO.aX rfl (zV rfl Kp (by kernel_rfl) rfl b4') rfl ?_;refine qR 1 ?_;refine PO.gb (bc.FQ (es:=[(0,.val (.func (.yield l) #[] #[])),(1,.ptr k0 0),(3,.val (.int .i64 i)),(5,.val (.int .i64 (L.length:Int))),(6,.val (.int .i64 i)),(9,.aS 13 (L.map dn) none),(10,.val (.int .i64 i))]) ⟨⟨_,rfl,.refl _⟩,⟨_,rfl,.refl _⟩,⟨_,rfl,.refl _⟩,⟨_,rfl,.refl _⟩,⟨_,rfl,.refl _⟩,⟨_,rfl,.tok _ _ _⟩,⟨_,rfl,.refl _⟩,trivial⟩) ?_;refine qG [] [] (L71 k L i _ e2) trivial ?_;refine qN 1 ?_;exact bc.acB ⟨⟨_,rfl,.refl _⟩,⟨_,rfl,.refl _⟩,⟨_,rfl,.refl _⟩,⟨_,rfl,.refl _⟩,⟨_,rfl,.refl _⟩,⟨_,rfl,.refl _⟩,trivial⟩ (BW fr') (BW tk')
    · intro s1 IK;refine tr.gb IK ?_;cases b with
      | false=>
        have e5:r3=ab.drop n:=e4;refine tr.of ?_;refine qN 5 ?_;show fu _ _ _ _ _ _ _ _;refine fu.lone ?_;refine fu.cond rfl (λ hb=>by cases hb) (λ _=>?_);refine fu.aZ ?_;refine fu.of (PC.skip ?_);show fu _ _ _ _ _ _ _ _;refine fu.lone ?_;refine fu.region (tr.of ?_);refine qN 2 ?_;show fu _ _ _ _ _ _ _ _;refine fu.of (PC.skip ?_);refine⟨j,Nat.lt_succ_self _,w (i+1),n,fr',tk',by rw[<- e5]; exact e3,hn,X,?_⟩;exact bc.FQ ⟨⟨_,rfl,.refl _⟩,⟨_,rfl,.refl _⟩,⟨_,rfl,.refl _⟩,⟨_,rfl,.refl _⟩,trivial⟩
      | true=>
        have e5:i :: r3=ab.drop n:=e4;have cG:n < ab.length:=by
          rcases Nat.lt_or_ge n ab.length with h | h
          · exact h
          · rw[List.drop_eq_nil_of_le h] at e5; cases e5
        have hAn:ab[n]? = some i/\ab.drop (n+1)=r3:=by
          rw[List.drop_eq_getElem_cons cG] at e5;simp only[List.cons.injEq] at e5;exact⟨by rw[List.getElem?_eq_getElem cG,<- e5.1],e5.2.symm⟩
        have Y:(ab.map br)[n]? = some (br i):=by rw[List.getElem?_map,hAn.1]; rfl
        refine tr.cut 2 (λ s1=>bc s1 (PS.of 19 [(0,.val (.func (.yield l) #[] #[])),(1,.ptr k0 0),(3,.val (.int .i64 i)),(5,.val (.int .i64 (L.length:Int))),(6,.val (.int .i64 i)),(12,.val (.bool true)),(13,.val (.func (.yield l) #[] #[])),(14,.val (.int .i64 i))] fr' tk' fr.length tk.length)) (PO.run 2 rfl (PO.nil (bc.FQ ⟨⟨_,rfl,.refl _⟩,⟨_,rfl,.refl _⟩,⟨_,rfl,.refl _⟩,⟨_,rfl,.refl _⟩,⟨_,rfl,.refl _⟩,⟨_,rfl,.refl _⟩,⟨_,rfl,.refl _⟩,⟨_,rfl,.refl _⟩,trivial⟩))) ?_;intro s2 VS;refine tr.gb VS ?_;refine tr.yield hC hr rfl rfl rfl rfl rfl rfl (hY n _ fr' tk' Y X) ?_;intro p Dv tk2 hk;cases p with
        | none=>
          refine tr.of ?_;refine qN 2 ?_;show fu _ _ _ _ _ _ _ _;refine fu.lone ?_;refine fu.cond rfl (λ hb=>by cases hb) (λ _=>?_);refine fu.aZ ?_;refine fu.of (PC.skip ?_);show fu _ _ _ _ _ _ _ _;refine fu.lone ?_;refine fu.region (tr.of ?_);refine qN 2 ?_;show fu _ _ _ _ _ _ _ _;refine fu.of (PC.skip ?_);refine⟨j,Nat.lt_succ_self _,w (i+1),n+1,Dv,tk2,by rw[hAn.2]; exact e3,cG,hk,?_⟩;exact bc.FQ ⟨⟨_,rfl,.refl _⟩,⟨_,rfl,.refl _⟩,⟨_,rfl,.refl _⟩,⟨_,rfl,.refl _⟩,trivial⟩
        | some c=>
          show PO _ _ _ _ _ _ _;refine qN 2 ?_;show PC _ _ _ _ _ _;refine .lone (PC.cond rfl (λ _=>?_) (λ hb=>by cases hb));exact .ret ⟨trivial,rfl,⟨_,rfl⟩,hk⟩
  · rw[hb,cond_false] at hW;have e5:ab.drop n=[]:=(qs hW).symm;have NX:(ab.map br).length=n:=by
      have:=congrArg List.length e5;simp at this;omega
    refine fu.of (PC.exit ?_);refine zE.exit (ql.eF ?_);show fu _ _ _ _ _ _ _ _;refine fu.of (PC.skip ⟨trivial,rfl,⟨_,rfl⟩,?_⟩);show J (ab.map br).length _ _;rw[NX];exact X
def F8 (k:Nat) (A:Int) (a1:Int):Option ((Option aE)×Int):=
Option.bind (α:=Bool) (bif decide (A < 0) then(some true) else(some (decide (a1 < 0)))) λ(v1:Bool)=>
bif v1 then(some (none,1)) else(some (some (aE.mk 0 0 A 0 0 a1 0),0))
theorem L8 (k:Nat) (A:Int) (a1:Int) (r:(Option aE)×Int) (I:F8 k A a1=some r):PF Try.prog fK 8 [g A,g a1] [] [] (λ p fr tk=>(r.1=none->p=.fX [.val (.pointer none),g r.2]/\fr=[]/\tk=[])/\∀ m,r.1=some m->p=.fX [E 0,g r.2]/\fr=[R0 m]/\tk=[]):=by
 unfold F8 at I;refine qP Try.func8 ?_;refine qr 3 ?_;refine qM 3 ?_;refine aq I λ x1 e2 I=>PO.cut 3 (cu (λ v1=>PS.of 18 [(0,g A),(1,g a1),(4,.val (.pointer none)),(5,g 0),(11,vB v1)] [] [] 0 0) x1) ?_ ?_
 ·refine qC 8 e2 (λ e2=>?_) λ e2=>?_
  ·exact qW 3 true [] [] e2
  exact qW 3 (decide (a1 < 0)) [] [] e2
 rintro _ ⟨v1,w4,rfl⟩;refine w4.on (qD I (λ I=>?_) λ I=>?_)
 ·refine qK 3 ?_;cases I;exact .ret (oZ [] [] (by kernel_rfl) (.refl _) ⟨λ _=>⟨rfl,rfl,rfl⟩,λ _ h=>(by cases h)⟩)
 refine .aZ (.region (qX 8 [0] [] [(4,E 0),(5,g 0)] [⟨0,[g 0,g 0,g A,g 0,g 0,g a1,g 0]⟩] [] ?_));cases I;exact .cS (oZ [0] [] (by kernel_rfl) (.refl _) ⟨λ h=>(by cases h),λ _ h=>(by cases h; exact⟨rfl,rfl,rfl⟩)⟩)
def F9 (k:Nat) (A:Int) (a1:Int):Option ((Option aH)×Int):=
Option.bind (α:=Bool) (bif decide (A < 0) then(some true) else(some (decide (a1 < 0)))) λ(v1:Bool)=>
bif v1 then(some (none,1)) else(some (some (aH.mk A a1 0 0 0 0),0))
theorem L9 (k:Nat) (A:Int) (a1:Int) (r:(Option aH)×Int) (I:F9 k A a1=some r):PF Try.prog fK 9 [g A,g a1] [] [] (λ p fr tk=>(r.1=none->p=.fX [.val (.pointer none),g r.2]/\fr=[]/\tk=[])/\∀ m,r.1=some m->p=.fX [E 0,g r.2]/\fr=[R3 m]/\tk=[]):=by
 unfold F9 at I;refine qP Try.func9 ?_;refine qr 3 ?_;refine qM 3 ?_;refine aq I λ x1 e2 I=>PO.cut 3 (cu (λ v1=>PS.of 16 [(0,g A),(1,g a1),(4,.val (.pointer none)),(5,g 0),(11,vB v1)] [] [] 0 0) x1) ?_ ?_
 ·refine qC 8 e2 (λ e2=>?_) λ e2=>?_
  ·exact qW 3 true [] [] e2
  exact qW 3 (decide (a1 < 0)) [] [] e2
 rintro _ ⟨v1,w4,rfl⟩;refine w4.on (qD I (λ I=>?_) λ I=>?_)
 ·refine qK 3 ?_;cases I;exact .ret (oZ [] [] (by kernel_rfl) (.refl _) ⟨λ _=>⟨rfl,rfl,rfl⟩,λ _ h=>(by cases h)⟩)
 refine .aZ (.region (qX 6 [0] [] [(4,E 0),(5,g 0)] [⟨0,[g A,g a1,g 0,g 0,g 0,g 0]⟩] [] ?_));cases I;exact .cS (oZ [0] [] (by kernel_rfl) (.refl _) ⟨λ h=>(by cases h),λ _ h=>(by cases h; exact⟨rfl,rfl,rfl⟩)⟩)
def FW (k:Nat) (A:Int) (a1:Int) (Z:Int):Option Bool:=
Option.bind (α:=Bool) (bif decide (a1<=A) then(some (decide (A<=Z))) else(some false)) λ(v1:Bool)=>
some v1
theorem KR (k:Nat) (A:Int) (a1:Int) (Z:Int) (r:Bool) (I:FW k A a1 Z=some r):PF Try.prog fK 49 [g A,g a1,g Z] [] [] (λ p fr tk=>p=vB r/\fr=[]/\tk=[]):=by
 unfold FW at I;refine qP Try.func49 ?_;refine qr 2 ?_;refine qL 4 ?_;refine aq I λ x1 e2 I=>PO.cut 4 (cu (λ v1=>PS.of 15 [(6,vB false),(14,vB v1)] [] [] 0 0) x1) ?_ ?_
 ·refine qC 10 e2 (λ e2=>?_) λ e2=>?_
  ·exact qW 4 (decide (A<=Z)) [] [] e2
  exact qW 4 false [] [] e2
 rintro _ ⟨v1,w4,rfl⟩;refine w4.o (qN 1 ?_);cases I;exact .cS (qf [] [])
def QY (k:Nat) (A:au):Option Bool:=
(FW k A.size 1 67108864).bind λ r1=>
Option.bind (α:=Bool) (bif r1 then((FW k A.aB 0 1099511627776).bind λ r6=>
Option.bind (α:=Bool) (bif r6 then((FW k A.aD 0 1099511627776).bind λ KS=>
Option.bind (α:=Bool) (bif KS then((FW k A.depth 0 1099511627776).bind λ Sg=>
some Sg) else(some false)) λ(v3:Bool)=>
some v3) else(some false)) λ(v2:Bool)=>
some v2) else(some false)) λ(v1:Bool)=>
some v1
theorem L72 (k:Nat) (A:au) (r:Bool) (I:QY k A=some r):PF Try.prog fK 72 [.agg (dn A)] [] [] (λ p fr tk=>p=vB r/\fr=[]/\tk=[]):=by
 unfold QY at I;refine qP Try.func72 ?_;refine .region (qX 2 [0] [] [(1,E 0),(2,vB false)] [R4 A] [] ?_);refine qL 2 ?_;refine aq I λ r1 e2 I=>qG [] [] (KR k A.size 1 67108864 _ e2) trivial ?_;refine qR 1 ?_;refine aq I λ x3 e4 I=>PO.cut 14 (cu (λ v1=>PS.of 21 [(2,vB false),(20,vB v1)] [] [] 0 0) x3) ?_ ?_
 ·refine qC 6 e4 (λ e4=>?_) λ e4=>?_
  ·refine qR 2 ?_;refine aq e4 λ r6 e7 e4=>qG [] [] (KR k A.aB 0 1099511627776 _ e7) trivial ?_;refine qR 2 ?_;refine aq e4 λ x8 e9 e4=>PO.cut 9 (cu (λ v2=>PS.of 21 [(2,vB false),(20,vB v2)] [] [] 0 0) x8) ?_ ?_
   ·refine qC 11 e9 (λ e9=>?_) λ e9=>?_
    ·refine qR 2 ?_;refine aq e9 λ KS nM e9=>qG [] [] (KR k A.aD 0 1099511627776 _ nM) trivial ?_;refine qR 2 ?_;refine aq e9 λ xV fB e9=>PO.cut 4 (cu (λ v3=>PS.of 21 [(2,vB false),(20,vB v3)] [] [] 0 0) xV) ?_ ?_
     ·refine qC 16 fB (λ fB=>?_) λ fB=>?_
      ·refine qR 2 ?_;refine aq fB λ Sg re fB=>qG [] [] (KR k A.depth 0 1099511627776 _ re) trivial ?_;exact qW 1 Sg [] [] fB
      exact qW 4 false [] [] fB
     rintro _ ⟨v3,FX,rfl⟩;refine FX.on ?_;exact⟨v3,qw [] [],qs e9⟩
    exact qW 9 false [] [] e9
   rintro _ ⟨v2,w19,rfl⟩;refine w19.on ?_;exact⟨v2,qw [] [],qs e4⟩
  exact qW 14 false [] [] e4
 rintro _ ⟨v1,OA,rfl⟩;refine OA.o (qN 1 ?_);cases I;exact .cS (qf [] [])
def Sh (k:Nat) (A:Int):Option Int:=
bif decide (A < 0) then(some (-1)) else(bif decide (A<=127) then(some 1) else(bif decide (A<=2047) then(some 2) else(Option.bind (α:=Bool) (bif decide (55296<=A) then(some (decide (A<=57343))) else(some false)) λ(v1:Bool)=>
bif v1 then(some (-1)) else(bif decide (A<=65535) then(some 3) else(bif decide (A<=1114111) then(some 4) else(some (-1)))))))
theorem L89 (k:Nat) (A:Int) (r:Int) (I:Sh k A=some r):PF Try.prog fK 89 [.val (.int .i32 A)] [] [] (λ p fr tk=>p=g r/\fr=[]/\tk=[]):=by
 unfold Sh at I;refine qP Try.func89 ?_;refine qr 2 ?_;refine PC.block ?_;refine qr 4 ?_;refine .lone (qD I (λ I=>?_) λ I=>?_)
 ·refine qK 2 ?_;cases I;exact .ret (bk.ct (qf [] []))
 refine qK 4 ?_;refine qD I (λ I=>?_) λ I=>?_
 ·refine qK 2 ?_;cases I;exact .ret (bk.ct (qf [] []))
 refine qK 4 ?_;refine qD I (λ I=>?_) λ I=>?_
 ·refine qK 2 ?_;cases I;exact .ret (bk.ct (qf [] []))
 refine qM 3 ?_;refine aq I λ x4 e5 I=>PO.cut 3 (cu (λ v1=>PS.of 25 [(0,.val (.int .i32 A)),(2,g 0),(18,vB v1)] [] [] 0 0) x4) ?_ ?_
 ·refine qC 15 e5 (λ e5=>?_) λ e5=>?_
  ·exact qW 3 (decide (A<=57343)) [] [] e5
  exact qW 3 false [] [] e5
 rintro _ ⟨v1,w7,rfl⟩;refine w7.o (qN 1 ?_);refine qD I (λ I=>?_) λ I=>?_
 ·refine qK 2 ?_;cases I;exact .ret (bk.ct (qf [] []))
 refine qK 4 ?_;refine qD I (λ I=>?_) λ I=>?_
 ·refine qK 2 ?_;cases I;exact .ret (bk.ct (qf [] []))
 refine qK 4 ?_;refine qD I (λ I=>?_) λ I=>?_
 ·refine qK 2 ?_;cases I;exact .ret (bk.ct (qf [] []))
 refine .aZ (PC.skip (bk.end ?_));refine qr 2 ?_;cases I;exact .cS (qf [] [])
def Si (k:Nat) (A:Int):Option Int:=
Option.bind (α:=Bool) (bif decide (A < 0) then(some true) else(Option.bind (α:=Bool) (bif decide (A > 1114111) then(some true) else(Option.bind (α:=Bool) (bif decide (A>=55296) then(some (decide (A<=57343))) else(some false)) λ(v3:Bool)=>
some v3)) λ(v2:Bool)=>
some v2)) λ(v1:Bool)=>
bif v1 then(some 0) else((Sh k (Bz (A))).bind λ Sj=>
some Sj)
theorem L73 (k:Nat) (A:Int) (r:Int) (I:Si k A=some r):PF Try.prog fK 73 [g A] [] [] (λ p fr tk=>p=g r/\fr=[]/\tk=[]):=by
 unfold Si at I;refine qP Try.func73 ?_;refine qr 2 ?_;refine qM 3 ?_;refine aq I λ x1 e2 I=>PO.cut 11 (cu (λ v1=>PS.of 20 [(0,g A),(2,g 0),(16,vB v1)] [] [] 0 0) x1) ?_ ?_
 ·refine qC 5 e2 (λ e2=>?_) λ e2=>?_
  ·exact qW 11 true [] [] e2
  refine qR 4 ?_;refine aq e2 λ x4 e5 e2=>PO.cut 7 (cu (λ v2=>PS.of 20 [(0,g A),(2,g 0),(16,vB v2)] [] [] 0 0) x4) ?_ ?_
  ·refine qC 9 e5 (λ e5=>?_) λ e5=>?_
   ·exact qW 7 true [] [] e5
   refine qR 3 ?_;refine aq e5 λ x7 e8 e5=>PO.cut 4 (cu (λ v3=>PS.of 20 [(0,g A),(2,g 0),(16,vB v3)] [] [] 0 0) x7) ?_ ?_
   ·refine qC 12 e8 (λ e8=>?_) λ e8=>?_
    ·exact qW 4 (decide (A<=57343)) [] [] e8
    exact qW 4 false [] [] e8
   rintro _ ⟨v3,OB,rfl⟩;refine OB.on ?_;exact⟨v3,qw [] [],qs e5⟩
  rintro _ ⟨v2,FY,rfl⟩;refine FY.on ?_;exact⟨v2,qw [] [],qs e2⟩
 rintro _ ⟨v1,FZ,rfl⟩;refine FZ.on (qD I (λ I=>?_) λ I=>?_)
 ·refine qK 2 ?_;cases I;exact .ret (qf [] [])
 refine .aZ (qL 2 ?_);refine aq I λ Sj e15 I=>qG [] [] (L89 k (Bz (A)) _ e15) trivial ?_;refine qN 1 ?_;cases I;exact .cS (qf [] [])
def OC (k:Nat) (A:au) (a1:au) (Z:au):Option Bool:=
Option.bind (α:=Bool×ByteArray×Int×Int×Int×Int×Int×Int×Int×Int×Bool×Int×Int) (bif A.aM == 1 then((QY k A).bind λ r4=>
Option.bind (α:=Bool) (bif r4 then((Si k A.dc).bind λ r9=>
some (decide (r9 > 0))) else(some false)) λ(gU:Bool)=>
some (gU,A.cP,A.size,A.dc,A.aB,A.aD,A.depth,0,0,0,false,A.bM,A.to_)) else(bif A.aM == 2 then(Option.bind (α:=Bool) (bif a1.aM == 1 then(Option.bind (α:=Bool) (bif Z.aM == 1 then(Option.bind (α:=Bool) (bif A.aB != 0 then((FW k A.aB (w (0 - (if Z.aB < a1.aB then Z.aB else a1.aB))) 1099511627776).bind λ F0=>
some F0) else(some false)) λ(gV:Bool)=>
some gV) else(some false)) λ(iM:Bool)=>
some iM) else(some false)) λ(iP:Bool)=>
some (iP,ByteArray.empty,0,0,A.aB,0,0,0,0,0,false,0,0)) else(bif A.aM == 3 then((FW k A.size 1 67108864).bind λ r28=>
Option.bind (α:=Bool) (bif r28 then((FW k A.aB 0 67108864).bind λ V1=>
Option.bind (α:=Bool) (bif V1 then((FW k A.aw 0 67108864).bind λ V2=>
Option.bind (α:=Bool) (bif V2 then((FW k A.aF 0 A.aB).bind λ Ks=>
some Ks) else(some false)) λ(v20:Bool)=>
some v20) else(some false)) λ(HB:Bool)=>
some HB) else(some false)) λ(nH:Bool)=>
some (nH,A.cP,A.size,0,A.aB,0,0,A.aw,A.aF,0,false,A.bM,A.to_)) else(bif A.aM == 4 then((FW k A.value (-10000) 10000).bind λ uR=>
bif A.cR then(Option.bind (α:=Bool) (bif uR then((QY k A).bind λ OD=>
Option.bind (α:=Bool) (bif OD then(Option.bind (α:=Bool) (bif A.dc == 45 then(some (decide (A.value > (-10000)))) else(some false)) λ(fT:Bool)=>
some fT) else(some false)) λ(DP:Bool)=>
some DP) else(some false)) λ(HC:Bool)=>
some (HC,A.cP,A.size,A.dc,A.aB,A.aD,A.depth,0,0,A.value,true,A.bM,A.to_)) else(some (uR,ByteArray.empty,0,0,0,0,0,0,0,A.value,false,A.bM,A.to_))) else(some (false,ByteArray.empty,0,0,0,0,0,0,0,0,false,A.bM,A.to_)))))) λ(v1,v2,v3,v4,v5,v6,v7,v8,v9,v10,v11,mT,hH)=>
Option.bind (α:=Bool) (bif v1 then(some (A.aM == A.aM && (A.cP == v2 && (A.size == v3 && (A.dc == v4 && (A.aB == v5 && (A.aD == v6 && (A.depth == v7 && (A.aw == v8 && (A.aF == v9 && (A.value == v10 && (A.cR == v11 && (A.bM == mT && (A.to_ == hH && true)))))))))))))) else(some false)) λ(ig:Bool)=>
some ig
theorem L48 (k:Nat) (A:au) (a1:au) (Z:au) (r:Bool) (I:OC k A a1 Z=some r):PF Try.prog fK 48 [.agg (dn A),.agg (dn a1),.agg (dn Z)] [] [] (λ p fr tk=>p=vB r/\fr=[]/\tk=[]):=by
 unfold OC at I;refine qP Try.func48 ?_;refine .region (qX 4 [0,1,2] [] [(3,E 0),(4,E 1),(5,E 2),(6,vB false)] [R4 A,R4 a1,R4 Z] [] ?_);refine .region (qX 9 [0,1,2,3] [] [(3,E 0),(4,E 1),(5,E 2),(6,vB false),(7,E 3)] [R4 A,R4 a1,R4 Z,R41 A.aM ByteArray.empty A.bM A.to_] [] ?_);refine qr 2 ?_;refine qK 3 ?_;refine aq I λ x1 e2 I=>PC.bQ (λ s=>∃ (v1:Bool) (v2:ByteArray) (v3:Int) (v4:Int) (v5:Int) (v6:Int) (v7:Int) (v8:Int) (v9:Int) (v10:Int) (v11:Bool) (mT:Int) (hH:Int),bc s (PS.of 164 [(3,E 0),(6,vB false),(7,E 1),(8,vB v1)] [R4 A,VX A.aM v2 v3 v4 v5 v6 v7 v8 v9 v10 v11 mT hH] [] 0 0)/\(v1,v2,v3,v4,v5,v6,v7,v8,v9,v10,v11,mT,hH)=x1) ?_ ?_
 ·refine qr 3 ?_;refine .lone (qD e2 (λ e2=>?_) λ e2=>?_)
  ·refine .eP (PC.pK [0,1,12,13,2,3,14,15,4,5,16,17,6,7,18,19,8,9,20,21,10,11,22,23] (by kernel_rfl) ?_);refine qd 4 [2,3,14,15,4,5,16,17,6,7,18,19,8,9,20,21,10,11,22,23] ⟨12291,12291,4099,[(13,[3],false)]⟩ [(3,E 0),(6,vB false),(7,E 3),(8,vB false)] [R4 A,R4 a1,R4 Z,R41 A.aM A.cP A.bM A.to_] [] ?_;refine qd 4 [4,5,16,17,6,7,18,19,8,9,20,21,10,11,22,23] ⟨61455,61455,28687,[(15,[3],false),(13,[3,3],false)]⟩ [(3,E 0),(6,vB false),(7,E 3),(8,vB false)] [R4 A,R4 a1,R4 Z,⟨0,[g A.aM,.val (.string A.cP),g A.size,g 0,g 0,g 0,g 0,g 0,g 0,g 0,vB false,g A.bM,g A.to_]⟩] [] ?_;refine qd 4 [6,7,18,19,8,9,20,21,10,11,22,23] ⟨258111,258111,127039,[(17,[3],false),(15,[3,3],false),(13,[3,3,3],false)]⟩ [(3,E 0),(6,vB false),(7,E 3),(8,vB false)] [R4 A,R4 a1,R4 Z,⟨0,[g A.aM,.val (.string A.cP),g A.size,g A.dc,g 0,g 0,g 0,g 0,g 0,g 0,vB false,g A.bM,g A.to_]⟩] [] ?_;refine qd 4 [8,9,20,21,10,11,22,23] ⟨1044735,1044735,520447,[(19,[3],false),(17,[3,3],false),(15,[3,3,3],false),(13,[3,3,3,3],false)]⟩ [(3,E 0),(6,vB false),(7,E 3),(8,vB false)] [R4 A,R4 a1,R4 Z,⟨0,[g A.aM,.val (.string A.cP),g A.size,g A.dc,g A.aB,g 0,g 0,g 0,g 0,g 0,vB false,g A.bM,g A.to_]⟩] [] ?_;refine qd 4 [10,11,22,23] ⟨4191231,4191231,2094079,[(21,[3],false),(19,[3,3],false),(17,[3,3,3],false),(15,[3,3,3,3],false),(13,[3,3,3,3,3],false)]⟩ [(3,E 0),(6,vB false),(7,E 3),(8,vB false)] [R4 A,R4 a1,R4 Z,⟨0,[g A.aM,.val (.string A.cP),g A.size,g A.dc,g A.aB,g A.aD,g 0,g 0,g 0,g 0,vB false,g A.bM,g A.to_]⟩] [] ?_;refine qd 4 [] ⟨16777215,16777215,8388607,[(23,[3],false),(21,[3,3],false),(19,[3,3,3],false),(17,[3,3,3,3],false),(15,[3,3,3,3,3],false),(13,[3,3,3,3,3,3],false)]⟩ [(3,E 0),(6,vB false),(7,E 3),(8,vB false)] [R4 A,R4 a1,R4 Z,⟨0,[g A.aM,.val (.string A.cP),g A.size,g A.dc,g A.aB,g A.aD,g A.depth,g 0,g 0,g 0,vB false,g A.bM,g A.to_]⟩] [] ?_;refine PD.done [0,3] [] (es:=[(3,E 0),(6,vB false),(7,E 1),(8,vB false)]) (fr':=[R4 A,⟨0,[g A.aM,.val (.string A.cP),g A.size,g A.dc,g A.aB,g A.aD,g A.depth,g 0,g 0,g 0,vB false,g A.bM,g A.to_]⟩]) (tk':=[]) (by kernel_rfl) (by kernel_rfl) ?_;refine qL 1 ?_;refine aq e2 λ r4 e5 e2=>qG [] [] (L72 k A _ e5) trivial ?_;refine qR 1 ?_;refine aq e2 λ x6 e7 e2=>PO.cut 5 (cu (λ gU=>PS.of 164 [(3,E 0),(6,vB false),(7,E 1),(8,vB false),(45,vB gU)] [R4 A,⟨0,[g A.aM,.val (.string A.cP),g A.size,g A.dc,g A.aB,g A.aD,g A.depth,g 0,g 0,g 0,vB false,g A.bM,g A.to_]⟩] [] 0 0) x6) ?_ ?_
   ·refine qC 40 e7 (λ e7=>?_) λ e7=>?_
    ·refine qR 2 ?_;refine aq e7 λ r9 jf e7=>qG [] [] (L73 k A.dc _ jf) trivial ?_;exact qW 2 (decide (r9 > 0)) [0,1] [] e7
    exact qW 5 false [0,1] [] e7
   rintro _ ⟨gU,FY,rfl⟩;refine FY.o (qN 1 ?_);exact .skip (aC.end ⟨gU,A.cP,A.size,A.dc,A.aB,A.aD,A.depth,0,0,0,false,A.bM,A.to_,qw [0,1] [],qs e2⟩)
  refine qK 3 ?_;refine qD e2 (λ e2=>?_) λ e2=>?_
  ·refine qJ ?_;refine qX 6 [0,1,2,3] [] [(3,E 0),(4,E 1),(5,E 2),(6,vB false),(7,E 3),(8,vB false)] [R4 A,R4 a1,R4 Z,Y4 A.aM ByteArray.empty A.aB] [] ?_;refine qL 4 ?_;refine aq e2 λ xV fB e2=>PO.cut 20 (cu (λ iP=>PS.of 164 [(3,E 0),(6,vB false),(7,E 1),(8,vB false),(76,vB iP)] [R4 A,Y4 A.aM ByteArray.empty A.aB] [] 0 0) xV) ?_ ?_
   ·refine qC 56 fB (λ fB=>?_) λ fB=>?_
    ·refine qR 5 ?_;refine aq fB λ Sf re fB=>PO.cut 15 (cu (λ iM=>PS.of 164 [(3,E 0),(6,vB false),(7,E 1),(8,vB false),(76,vB iM)] [R4 A,Y4 A.aM ByteArray.empty A.aB] [] 0 0) Sf) ?_ ?_
     ·refine qC 61 re (λ re=>?_) λ re=>?_
      ·refine qR 5 ?_;refine aq re λ V3 tM re=>PO.cut 10 (cu (λ gV=>PS.of 164 [(3,E 0),(6,vB false),(7,E 1),(8,vB false),(76,vB gV)] [R4 A,Y4 A.aM ByteArray.empty A.aB] [] 0 0) V3) ?_ ?_
       ·refine qC 66 tM (λ tM=>?_) λ tM=>?_
        ·refine qR 8 ?_;refine aq tM λ F0 AV tM=>qG [] [] (KR k A.aB (w (0 - (if Z.aB < a1.aB then Z.aB else a1.aB))) 1099511627776 _ AV) trivial ?_;exact qW 1 F0 [0,3] [] tM
        exact qW 10 false [0,3] [] tM
       rintro _ ⟨gV,Sk,rfl⟩;refine Sk.on ?_;exact⟨gV,qw [0,1] [],qs re⟩
      exact qW 15 false [0,3] [] re
     rintro _ ⟨iM,w25,rfl⟩;refine w25.on ?_;exact⟨iM,qw [0,1] [],qs fB⟩
    exact qW 20 false [0,3] [] fB
   rintro _ ⟨iP,V4,rfl⟩;refine V4.o (qN 1 ?_);exact .skip (aC.end ⟨iP,ByteArray.empty,0,0,A.aB,0,0,0,0,0,false,0,0,qw [0,1] [],qs e2⟩)
  refine qK 3 ?_;refine qD e2 (λ e2=>?_) λ e2=>?_
  ·refine .eP (PC.pK [0,1,10,11,2,3,12,13,4,5,14,15,6,7,16,17,8,9,18,19] (by kernel_rfl) ?_);refine qd 4 [2,3,12,13,4,5,14,15,6,7,16,17,8,9,18,19] ⟨3075,3075,1027,[(11,[3],false)]⟩ [(3,E 0),(6,vB false),(7,E 3),(8,vB false)] [R4 A,R4 a1,R4 Z,R41 A.aM A.cP A.bM A.to_] [] ?_;refine qd 4 [4,5,14,15,6,7,16,17,8,9,18,19] ⟨15375,15375,7183,[(13,[3],false),(11,[3,3],false)]⟩ [(3,E 0),(6,vB false),(7,E 3),(8,vB false)] [R4 A,R4 a1,R4 Z,⟨0,[g A.aM,.val (.string A.cP),g A.size,g 0,g 0,g 0,g 0,g 0,g 0,g 0,vB false,g A.bM,g A.to_]⟩] [] ?_;refine qd 4 [6,7,16,17,8,9,18,19] ⟨64575,64575,31807,[(15,[3],false),(13,[3,3],false),(11,[3,3,3],false)]⟩ [(3,E 0),(6,vB false),(7,E 3),(8,vB false)] [R4 A,R4 a1,R4 Z,⟨0,[g A.aM,.val (.string A.cP),g A.size,g 0,g A.aB,g 0,g 0,g 0,g 0,g 0,vB false,g A.bM,g A.to_]⟩] [] ?_;refine qd 4 [8,9,18,19] ⟨261375,261375,130303,[(17,[3],false),(15,[3,3],false),(13,[3,3,3],false),(11,[3,3,3,3],false)]⟩ [(3,E 0),(6,vB false),(7,E 3),(8,vB false)] [R4 A,R4 a1,R4 Z,⟨0,[g A.aM,.val (.string A.cP),g A.size,g 0,g A.aB,g 0,g 0,g A.aw,g 0,g 0,vB false,g A.bM,g A.to_]⟩] [] ?_;refine qd 4 [] ⟨1048575,1048575,524287,[(19,[3],false),(17,[3,3],false),(15,[3,3,3],false),(13,[3,3,3,3],false),(11,[3,3,3,3,3],false)]⟩ [(3,E 0),(6,vB false),(7,E 3),(8,vB false)] [R4 A,R4 a1,R4 Z,VY A.aM A.cP A.size A.aB A.aw A.aF A.bM A.to_] [] ?_;refine PD.done [0,3] [] (es:=[(3,E 0),(6,vB false),(7,E 1),(8,vB false)]) (fr':=[R4 A,VY A.aM A.cP A.size A.aB A.aw A.aF A.bM A.to_]) (tk':=[]) (by kernel_rfl) (by kernel_rfl) ?_;refine qL 2 ?_;refine aq e2 λ r28 j7 e2=>qG [] [] (KR k A.size 1 67108864 _ j7) trivial ?_;refine qR 1 ?_;refine aq e2 λ x30 KT e2=>PO.cut 16 (cu (λ nH=>PS.of 164 [(3,E 0),(6,vB false),(7,E 1),(8,vB false),(113,vB nH)] [R4 A,VY A.aM A.cP A.size A.aB A.aw A.aF A.bM A.to_] [] 0 0) x30) ?_ ?_
   ·refine qC 97 KT (λ KT=>?_) λ KT=>?_
    ·refine qR 2 ?_;refine aq KT λ V1 td KT=>qG [] [] (KR k A.aB 0 67108864 _ td) trivial ?_;refine qR 2 ?_;refine aq KT λ V5 te KT=>PO.cut 11 (cu (λ HB=>PS.of 164 [(3,E 0),(6,vB false),(7,E 1),(8,vB false),(113,vB HB)] [R4 A,VY A.aM A.cP A.size A.aB A.aw A.aF A.bM A.to_] [] 0 0) V5) ?_ ?_
     ·refine qC 102 te (λ te=>?_) λ te=>?_
      ·refine qR 2 ?_;refine aq te λ V2 KU te=>qG [] [] (KR k A.aw 0 67108864 _ KU) trivial ?_;refine qR 2 ?_;refine aq te λ V6 yR te=>PO.cut 6 (cu (λ v20=>PS.of 164 [(3,E 0),(6,vB false),(7,E 1),(8,vB false),(113,vB v20)] [R4 A,VY A.aM A.cP A.size A.aB A.aw A.aF A.bM A.to_] [] 0 0) V6) ?_ ?_
       ·refine qC 107 yR (λ yR=>?_) λ yR=>?_
        ·refine qR 4 ?_;refine aq yR λ Ks B9 yR=>qG [] [] (KR k A.aF 0 A.aB _ B9) trivial ?_;exact qW 1 Ks [0,1] [] yR
        exact qW 6 false [0,1] [] yR
       rintro _ ⟨v20,w45,rfl⟩;refine w45.on ?_;exact⟨v20,qw [0,1] [],qs te⟩
      exact qW 11 false [0,1] [] te
     rintro _ ⟨HB,Sl,rfl⟩;refine Sl.on ?_;exact⟨HB,qw [0,1] [],qs KT⟩
    exact qW 16 false [0,1] [] KT
   rintro _ ⟨nH,V7,rfl⟩;refine V7.o (qN 1 ?_);exact .skip (aC.end ⟨nH,A.cP,A.size,0,A.aB,0,0,A.aw,A.aF,0,false,A.bM,A.to_,qw [0,1] [],qs e2⟩)
  refine qK 3 ?_;refine qD e2 (λ e2=>?_) λ e2=>?_
  ·refine qJ ?_;refine qX 4 [0,3] [] [(3,E 0),(6,vB false),(7,E 1),(8,vB false)] [R4 A,⟨0,[g A.aM,.val (.string ByteArray.empty),g 0,g 0,g 0,g 0,g 0,g 0,g 0,g A.value,vB false,g A.bM,g A.to_]⟩] [] ?_;refine qM 2 ?_;refine aq e2 λ uR OE e2=>qG [] [] (KR k A.value (-10000) 10000 _ OE) trivial ?_;refine qN 1 ?_;refine qK 3 ?_;refine qD e2 (λ e2=>?_) λ e2=>?_
   ·refine .eP (PC.pK [12,13,0,1,14,15,2,3,16,17,4,5,18,19,6,7,20,21,8,9,22,23,10,11,24,25] (by kernel_rfl) ?_);refine qd 2 [0,1,14,15,2,3,16,17,4,5,18,19,6,7,20,21,8,9,22,23,10,11,24,25] ⟨12288,12288,4096,[(13,[1],false)]⟩ [(3,E 0),(6,vB false),(7,E 1),(8,vB uR)] [R4 A,⟨0,[g A.aM,.val (.string ByteArray.empty),g 0,g 0,g 0,g 0,g 0,g 0,g 0,g A.value,vB true,g A.bM,g A.to_]⟩] [] ?_;refine qd 4 [2,3,16,17,4,5,18,19,6,7,20,21,8,9,22,23,10,11,24,25] ⟨61443,61443,28675,[(15,[1],false),(13,[1,1],false)]⟩ [(3,E 0),(6,vB false),(7,E 1),(8,vB uR)] [R4 A,⟨0,[g A.aM,.val (.string A.cP),g 0,g 0,g 0,g 0,g 0,g 0,g 0,g A.value,vB true,g A.bM,g A.to_]⟩] [] ?_;refine qd 4 [4,5,18,19,6,7,20,21,8,9,22,23,10,11,24,25] ⟨258063,258063,126991,[(17,[1],false),(15,[1,1],false),(13,[1,1,1],false)]⟩ [(3,E 0),(6,vB false),(7,E 1),(8,vB uR)] [R4 A,⟨0,[g A.aM,.val (.string A.cP),g A.size,g 0,g 0,g 0,g 0,g 0,g 0,g A.value,vB true,g A.bM,g A.to_]⟩] [] ?_;refine qd 4 [6,7,20,21,8,9,22,23,10,11,24,25] ⟨1044543,1044543,520255,[(19,[1],false),(17,[1,1],false),(15,[1,1,1],false),(13,[1,1,1,1],false)]⟩ [(3,E 0),(6,vB false),(7,E 1),(8,vB uR)] [R4 A,⟨0,[g A.aM,.val (.string A.cP),g A.size,g A.dc,g 0,g 0,g 0,g 0,g 0,g A.value,vB true,g A.bM,g A.to_]⟩] [] ?_;refine qd 4 [8,9,22,23,10,11,24,25] ⟨4190463,4190463,2093311,[(21,[1],false),(19,[1,1],false),(17,[1,1,1],false),(15,[1,1,1,1],false),(13,[1,1,1,1,1],false)]⟩ [(3,E 0),(6,vB false),(7,E 1),(8,vB uR)] [R4 A,⟨0,[g A.aM,.val (.string A.cP),g A.size,g A.dc,g A.aB,g 0,g 0,g 0,g 0,g A.value,vB true,g A.bM,g A.to_]⟩] [] ?_;refine qd 4 [10,11,24,25] ⟨16774143,16774143,8385535,[(23,[1],false),(21,[1,1],false),(19,[1,1,1],false),(17,[1,1,1,1],false),(15,[1,1,1,1,1],false),(13,[1,1,1,1,1,1],false)]⟩ [(3,E 0),(6,vB false),(7,E 1),(8,vB uR)] [R4 A,⟨0,[g A.aM,.val (.string A.cP),g A.size,g A.dc,g A.aB,g A.aD,g 0,g 0,g 0,g A.value,vB true,g A.bM,g A.to_]⟩] [] ?_;refine qd 4 [] ⟨67108863,67108863,33554431,[(25,[1],false),(23,[1,1],false),(21,[1,1,1],false),(19,[1,1,1,1],false),(17,[1,1,1,1,1],false),(15,[1,1,1,1,1,1],false),(13,[1,1,1,1,1,1,1],false)]⟩ [(3,E 0),(6,vB false),(7,E 1),(8,vB uR)] [R4 A,VZ A.aM A.cP A.size A.dc A.aB A.aD A.depth A.value A.bM A.to_] [] ?_;refine PD.done [0,1] [] (es:=[(3,E 0),(6,vB false),(7,E 1),(8,vB uR)]) (fr':=[R4 A,VZ A.aM A.cP A.size A.dc A.aB A.aD A.depth A.value A.bM A.to_]) (tk':=[]) (by kernel_rfl) (by kernel_rfl) ?_;refine qL 2 ?_;refine aq e2 λ x52 OF e2=>PO.cut 13 (cu (λ HC=>PS.of 164 [(3,E 0),(6,vB false),(7,E 1),(8,vB uR),(157,vB HC)] [R4 A,VZ A.aM A.cP A.size A.dc A.aB A.aD A.depth A.value A.bM A.to_] [] 0 0) x52) ?_ ?_
    ·refine qC 144 OF (λ OF=>?_) λ OF=>?_
     ·refine qR 1 ?_;refine aq OF λ OD e56 OF=>qG [] [] (L72 k A _ e56) trivial ?_;refine qR 2 ?_;refine aq OF λ V8 xW OF=>PO.cut 9 (cu (λ DP=>PS.of 164 [(3,E 0),(6,vB false),(7,E 1),(8,vB uR),(157,vB DP)] [R4 A,VZ A.aM A.cP A.size A.dc A.aB A.aD A.depth A.value A.bM A.to_] [] 0 0) V8) ?_ ?_
      ·refine qC 148 xW (λ xW=>?_) λ xW=>?_
       ·refine qR 5 ?_;refine aq xW λ x60 V9 xW=>PO.cut 4 (cu (λ fT=>PS.of 164 [(3,E 0),(6,vB false),(7,E 1),(8,vB uR),(157,vB fT)] [R4 A,VZ A.aM A.cP A.size A.dc A.aB A.aD A.depth A.value A.bM A.to_] [] 0 0) x60) ?_ ?_
        ·refine qC 153 V9 (λ V9=>?_) λ V9=>?_
         ·refine qN 4 ?_;exact⟨decide (A.value > (-10000)),qw [0,1] [],qs V9⟩
         exact qW 4 false [0,1] [] V9
        rintro _ ⟨fT,w63,rfl⟩;refine w63.on ?_;exact⟨fT,qw [0,1] [],qs xW⟩
       exact qW 9 false [0,1] [] xW
      rintro _ ⟨DP,w64,rfl⟩;refine w64.on ?_;exact⟨DP,qw [0,1] [],qs OF⟩
     exact qW 13 false [0,1] [] OF
    rintro _ ⟨HC,w65,rfl⟩;refine w65.o (qN 1 ?_);exact .skip (aC.end ⟨HC,A.cP,A.size,A.dc,A.aB,A.aD,A.depth,0,0,A.value,true,A.bM,A.to_,qw [0,1] [],qs e2⟩)
   exact .aZ (PC.skip (aC.end ⟨uR,ByteArray.empty,0,0,0,0,0,0,0,A.value,false,A.bM,A.to_,qw [0,1] [],qs e2⟩))
  exact .aZ (PC.skip (aC.end ⟨false,ByteArray.empty,0,0,0,0,0,0,0,0,false,A.bM,A.to_,qw [0,3] [],qs e2⟩))
 rintro _ ⟨v1,v2,v3,v4,v5,v6,v7,v8,v9,v10,v11,mT,hH,w66,rfl⟩;refine w66.c (qL 2 ?_);refine aq I λ x67 OG I=>PO.cut 4 (cu (λ ig=>PS.of 164 [(6,vB false),(163,vB ig)] [] [] 0 0) x67) ?_ ?_
 ·refine qC 159 OG (λ OG=>?_) λ OG=>?_
  ·refine qR 2 ?_;refine PO.aX rfl (jz (v:=.bool (A.aM == A.aM && (A.cP == v2 && (A.size == v3 && (A.dc == v4 && (A.aB == v5 && (A.aD == v6 && (A.depth == v7 && (A.aw == v8 && (A.aF == v9 && (A.value == v10 && (A.cR == v11 && (A.bM == mT && (A.to_ == hH && true)))))))))))))) rfl rfl rfl rfl rfl rfl rfl (by kernel_rfl)) rfl ?_;refine qN 1 ?_;exact⟨(A.aM == A.aM && (A.cP == v2 && (A.size == v3 && (A.dc == v4 && (A.aB == v5 && (A.aD == v6 && (A.depth == v7 && (A.aw == v8 && (A.aF == v9 && (A.value == v10 && (A.cR == v11 && (A.bM == mT && (A.to_ == hH && true))))))))))))),qw [] [],qs OG⟩
  exact qW 4 false [] [] OG
 rintro _ ⟨ig,w70,rfl⟩;refine w70.o (qN 1 ?_);cases I;exact .cS (qf [] [])
def jn (k:Nat) (A:List au):Nat->Int->Int->Option ((Unit) ⊕ (Int))
  | 0,_,_=>none
  | j4+1,v3,v4=>
    bif decide (v4 < (A.length:Int)) then(Option.bind (α:=(Int) ⊕ ((Unit) ⊕ (Int))) (bp A v4 λ y8=>
    Option.bind (α:=Int×ByteArray×Int×Int×Int×Int×Int×Int×Int×Int×Bool×Int×Int) (bif decide (v4 > 0) then(bp A (w (v4 - 1)) λ fY=>
    some (fY.aM,fY.cP,fY.size,fY.dc,fY.aB,fY.aD,fY.depth,fY.aw,fY.aF,fY.value,fY.cR,fY.bM,fY.to_)) else(some (0,ByteArray.empty,0,0,0,0,0,0,0,0,false,0,0))) λ(v9,v10,v11,mT,hH,gU,iP,iM,gV,nH,HB,v20,HC)=>
    Option.bind (α:=Int×ByteArray×Int×Int×Int×Int×Int×Int×Int×Int×Bool×Int×Int) (bif decide ((w (v4+1)) < (A.length:Int)) then(bp A (w (v4+1)) λ iN=>
    some (iN.aM,iN.cP,iN.size,iN.dc,iN.aB,iN.aD,iN.depth,iN.aw,iN.aF,iN.value,iN.cR,iN.bM,iN.to_)) else(some (0,ByteArray.empty,0,0,0,0,0,0,0,0,false,0,0))) λ(fT,ig,iz,iQ,kO,cQ,j8,v30,yq,DA,IM,UD,UE)=>
    (OC k y8 (au.mk v9 v10 v11 mT hH gU iP iM gV nH HB v20 HC) (au.mk fT ig iz iQ kO cQ j8 v30 yq DA IM UD UE)).bind λ QZ=>
    bif !QZ then(some (.inr (.inr 1))) else(bif y8.aM == 2 then(some (.inl v3)) else(Option.bind (α:=Bool) (bif decide (y8.bM < v3) then(some true) else((FW k y8.to_ y8.bM 65536).bind λ Q0=>
    some (!Q0))) λ(kW:Bool)=>
    bif kW then(some (.inr (.inr 1))) else(some (.inl y8.to_))))) (Sum.elim (λ(v7:Int)=>
    jn k A j4 v7 (w (v4+1))) some)) else(some (.inl ()))
def DQ (k:Nat) (A:List au):Option Int:=
bif decide ((A.length:Int) > 4096) then(some 130) else(Option.bind (α:=(Unit) ⊕ (Int)) (jn k A k 0 0) (Sum.elim (λ(_:Unit)=>
Option.bind (α:=Bool) (bif decide ((A.length:Int) > 0) then(bp A (w ((A.length:Int) - 1)) λ y39=>
Option.bind (α:=Bool) (bif y39.aM != 4 then(some true) else(bp A (w ((A.length:Int) - 1)) λ y41=>
some (y41.value != (-10000)))) λ(jE:Bool)=>
some jE) else(some false)) λ(jM:Bool)=>
bif jM then(some 1) else(some 0)) some))
theorem L21 (k:Nat) (A:List au) (r:Int) (I:DQ k A=some r):PF Try.prog fK 21 [lI A] [] [] (λ p fr tk=>p=g r/\fr=[]/\tk=[]):=by
 unfold DQ at I;refine qP Try.func21 ?_;refine qr 2 ?_;refine qM 1 ?_;refine qS gM ?_;refine qN 1 ?_;refine qD I (λ I=>?_) λ I=>?_
 ·refine qK 2 ?_;cases I;exact .ret (qf [] [])
 refine .aZ (qr 2 ?_);refine qM 1 ?_;refine qS gM ?_;refine qN 1 ?_;refine aq I λ x2 e3 I=>PC.bQ (λ s=>bc s (PS.of 81 [(0,lI A),(2,g 0)] [] [] 0 0)/\.inl ()=x2) ?_ ?_
 ·refine PC.loop (λ j4 s=>∃ (v3:Int) (v4:Int),bc s (PS.of 81 [(0,lI A),(2,g 0),(3,g v3),(12,lI A),(13,g (A.length:Int)),(14,g v4)] [] [] 0 0)/\jn k A j4 v3 v4=some x2) (λ j4 s=>?_) k ⟨0,0,qw [] [],e3⟩;rintro⟨v3,v4,w5,e3⟩;refine w5.c ?_;obtain _ | j4:=j4
  · rw[jn] at e3; cases e3
  rw[jn] at e3;refine qr 2 ?_;refine qD e3 (λ e3=>?_) λ e3=>?_
  ·refine .aZ (aq e3 λ x7 e8 e3=>PC.bQ (λ s=>∃ (v7:Int),bc s (PS.of 81 [(0,lI A),(2,g 0),(3,g v7),(12,lI A),(13,g (A.length:Int)),(14,g v4)] [] [] 0 0)/\.inl v7=x7) ?_ ?_)
   ·refine qL 1 ?_;refine qI gM e8 λ y8 e8=>?_;refine qX 4 [0] [] [(0,lI A),(2,g 0),(3,g v3),(4,g v4),(5,E 0),(12,lI A),(13,g (A.length:Int)),(14,g v4)] [R4 y8] [] ?_;refine .region (qX 2 [0,1,2] [] [(0,lI A),(2,g 0),(3,g v3),(4,g v4),(5,E 0),(6,E 1),(7,E 2),(12,lI A),(13,g (A.length:Int)),(14,g v4)] [R4 y8,Y5 ByteArray.empty,Y5 ByteArray.empty] [] ?_);refine qK 3 ?_;refine aq e8 λ Dz nM e8=>PC.mh (λ s=>∃ (v9:Int) (v10:ByteArray) (v11:Int) (mT:Int) (hH:Int) (gU:Int) (iP:Int) (iM:Int) (gV:Int) (nH:Int) (HB:Bool) (v20:Int) (HC:Int),bc s (PS.of 81 [(0,lI A),(2,g 0),(3,g v3),(4,g v4),(5,E 0),(6,E 1),(7,E 2),(12,lI A),(13,g (A.length:Int)),(14,g v4)] [R4 y8,VX v9 v10 v11 mT hH gU iP iM gV nH HB v20 HC,Y5 ByteArray.empty] [] 0 0)/\(v9,v10,v11,mT,hH,gU,iP,iM,gV,nH,HB,v20,HC)=Dz) ?_ ?_
    ·refine qD nM (λ nM=>?_) λ nM=>?_
     ·refine qL 3 ?_;refine qI gM nM λ fY nM=>?_;refine qX 2 [0,1,2] [] [(0,lI A),(2,g 0),(3,g v3),(4,g v4),(5,E 0),(6,E 1),(7,E 2),(12,lI A),(13,g (A.length:Int)),(14,g v4)] [R4 y8,R4 fY,Y5 ByteArray.empty] [] ?_;exact .skip (bR.end ⟨fY.aM,fY.cP,fY.size,fY.dc,fY.aB,fY.aD,fY.depth,fY.aw,fY.aF,fY.value,fY.cR,fY.bM,fY.to_,qw [0,1,2] [],qs nM⟩)
     exact .aZ (PC.skip (bR.end ⟨0,ByteArray.empty,0,0,0,0,0,0,0,0,false,0,0,qw [0,1,2] [],qs nM⟩))
    rintro _ ⟨v9,v10,v11,mT,hH,gU,iP,iM,gV,nH,HB,v20,HC,Ca,rfl⟩;refine Ca.c (qM 3 ?_);refine qS gM ?_;refine qN 1 ?_;refine aq e8 λ FD kG e8=>PC.mh (λ s=>∃ (fT:Int) (ig:ByteArray) (iz:Int) (iQ:Int) (kO:Int) (cQ:Int) (j8:Int) (v30:Int) (yq:Int) (DA:Int) (IM:Bool) (UD:Int) (UE:Int),bc s (PS.of 81 [(0,lI A),(2,g 0),(3,g v3),(5,E 0),(6,E 1),(7,E 2),(12,lI A),(13,g (A.length:Int)),(14,g v4)] [R4 y8,VX v9 v10 v11 mT hH gU iP iM gV nH HB v20 HC,VX fT ig iz iQ kO cQ j8 v30 yq DA IM UD UE] [] 0 0)/\(fT,ig,iz,iQ,kO,cQ,j8,v30,yq,DA,IM,UD,UE)=FD) ?_ ?_
    ·refine qD kG (λ kG=>?_) λ kG=>?_
     ·refine qL 3 ?_;refine qI gM kG λ iN kG=>?_;refine qX 2 [0,1,2] [] [(0,lI A),(2,g 0),(3,g v3),(5,E 0),(6,E 1),(7,E 2),(12,lI A),(13,g (A.length:Int)),(14,g v4)] [R4 y8,VX v9 v10 v11 mT hH gU iP iM gV nH HB v20 HC,R4 iN] [] ?_;exact .skip (bR.end ⟨iN.aM,iN.cP,iN.size,iN.dc,iN.aB,iN.aD,iN.depth,iN.aw,iN.aF,iN.value,iN.cR,iN.bM,iN.to_,qw [0,1,2] [],qs kG⟩)
     exact .aZ (PC.skip (bR.end ⟨0,ByteArray.empty,0,0,0,0,0,0,0,0,false,0,0,qw [0,1,2] [],qs kG⟩))
    rintro _ ⟨fT,ig,iz,iQ,kO,cQ,j8,v30,yq,DA,IM,UD,UE,OH,rfl⟩;refine OH.c (qM 3 ?_);refine aq e8 λ QZ xo e8=>qG [] [] (L48 k y8 (au.mk v9 v10 v11 mT hH gU iP iM gV nH HB v20 HC) (au.mk fT ig iz iQ kO cQ j8 v30 yq DA IM UD UE) _ xo) trivial ?_;refine qN 1 ?_;refine qD e8 (λ e8=>?_) λ e8=>?_
    ·refine qK 2 ?_;cases e8;cases e3;cases I;exact .ret (aC.ct (bh.ret (aC.ct (qf [] []))))
    refine .aZ (qK 4 ?_);refine qD e8 (λ e8=>?_) λ e8=>?_
    ·exact .exit (aC.eF ⟨v3,qw [] [],qs e8⟩)
    refine .aZ (qM 5 ?_);refine aq e8 λ Wa yS e8=>PO.cut 7 (cu (λ kW=>PS.of 81 [(0,lI A),(2,g 0),(3,g v3),(5,E 0),(12,lI A),(13,g (A.length:Int)),(14,g v4),(55,vB kW)] [R4 y8] [] 0 0) Wa) ?_ ?_
    ·refine qC 48 yS (λ yS=>?_) λ yS=>?_
     ·exact qW 7 true [0] [] yS
     refine qR 4 ?_;refine aq yS λ Q0 KT yS=>qG [] [] (KR k y8.to_ y8.bM 65536 _ KT) trivial ?_;exact qW 2 (!Q0) [0] [] yS
    rintro _ ⟨kW,Wb,rfl⟩;refine Wb.on (qD e8 (λ e8=>?_) λ e8=>?_)
    ·refine qK 2 ?_;cases e8;cases e3;cases I;exact .ret (aC.ct (bh.ret (aC.ct (qf [] []))))
    refine .aZ (.lone (qr 4 ?_));exact .skip (aC.end ⟨y8.to_,qw [] [],qs e8⟩)
   rintro _ ⟨v7,Sm,rfl⟩;refine Sm.c ?_;have e3:=fD e3;refine .lone (qr 3 ?_);exact .skip (bh.mk (Nat.lt_succ_self _) ⟨v7,w (v4+1),qw [] [],e3⟩)
  exact .exit (bh.exit (aC.eF ⟨qw [] [],qs e3⟩))
 rintro _ ⟨Sn,rfl⟩;refine Sn.c ?_;have I:=fD I;refine qM 1 ?_;refine qS gM ?_;refine qN 1 ?_;refine qM 3 ?_;refine aq I λ Wc tN I=>PO.cut 17 (cu (λ jM=>PS.of 81 [(2,g 0),(80,vB jM)] [] [] 0 0) Wc) ?_ ?_
 ·refine qC 63 tN (λ tN=>?_) λ tN=>?_
  ·refine qR 3 ?_;refine qI gM tN λ y39 tN=>?_;refine qR 4 ?_;refine aq tN λ So rh tN=>PO.cut 9 (cu (λ jE=>PS.of 81 [(2,g 0),(80,vB jE)] [] [] 0 0) So) ?_ ?_
   ·refine qC 71 rh (λ rh=>?_) λ rh=>?_
    ·exact qW 9 true [] [] rh
    refine qR 3 ?_;refine qI gM rh λ y41 rh=>?_;refine qN 5 ?_;exact⟨y41.value != (-10000),qw [] [],qs rh⟩
   rintro _ ⟨jE,Sl,rfl⟩;refine Sl.on ?_;exact⟨jE,qw [] [],qs tN⟩
  exact qW 17 false [] [] tN
 rintro _ ⟨jM,V7,rfl⟩;refine V7.on (qD I (λ I=>?_) λ I=>?_)
 ·refine qK 2 ?_;cases I;exact .ret (qf [] [])
 refine .aZ (qr 2 ?_);cases I;exact .cS (qf [] [])
def UF (k:Nat) (A:List au):Option (List au):=
some A
theorem L46 (k:Nat) (A:List au) (r:List au) (I:UF k A=some r):PF Try.prog fK 46 [lI A] [] [] (λ p fr tk=>p=.fn 70 [] [E 0]/\fr=[Oz r]/\tk=[]):=by
 unfold UF at I;refine qP Try.func46 ?_;refine .region (qX 2 [0] [] [(1,E 0),(2,.val .nilFunc)] [Oz A] [] ?_);refine qr 3 ?_;cases I;exact .cS (qf [0] [])
def sg (k:Nat):List Int->(List Int)->Option ((List Int))
  | [],v5=>some v5
  | y4 :: l7,v5=>
    mw 8 v5 ([y4]) λ l8=>
    sg k l7 l8
def HD (k:Nat) (A:List au):Option (List Int):=
(DQ k A).bind λ r1=>
Option.bind (α:=List Int) (bif r1 == 0 then((UF k A).bind λ r6=>
Option.bind (α:=List Int) ((o4 k r6 k 0).bind λ l3=>
Option.bind (α:=(List Int)) (sg k l3 ([] : List Int)) (λ(v5:List Int)=>
some v5)) λ(v2:List Int)=>
some v2) else(some ([]))) λ(v1:List Int)=>
some v1
theorem L18 (k:Nat) (A:List au) (r:List Int) (I:HD k A=some r):PF Try.prog fK 18 [lI A] [] [] (λ p fr tk=>p=.fn 47 [] [E 0]/\fr=[AU r]/\tk=[]):=by
 unfold HD at I;refine PF.GL Try.func18 rfl rfl rfl (by kernel_rfl) rfl ?_;refine qr 2 ?_;refine .region (qX 1 [0] [] [(0,lI A),(2,.val .nilFunc),(3,E 0)] [⟨0,[v0]⟩] [] ?_);refine qM 1 ?_;refine aq I λ r1 e2 I=>qG [] [] (L21 k A _ e2) trivial ?_;refine qN 1 ?_;refine aq I λ x3 e4 I=>PC.mh (λ s=>∃ (v1:List Int),bc s (PS.mS [none] 16 [(2,.val .nilFunc),(3,E 0)] [AU v1] [] 0 0)/\v1=x3) ?_ ?_
 ·refine qD e4 (λ e4=>?_) λ e4=>?_
  ·refine qM 1 ?_;refine aq e4 λ r6 e7 e4=>qG [] [] (L46 k A _ e7) trivial ?_;refine .nil (aq e4 λ x8 e9 e4=>PC.bQ (λ s=>∃ (v2:List Int),bc s (PS.mS [none] 16 [(2,.val .nilFunc),(3,E 0)] [uI (lM v2 0)] [v2.length] 0 0)/\v2=x8) ?_ ?_)
   ·refine .lone (aq e9 λ l3 jf e9=>PC.gb (s':=PS.mS [none] 16 [(2,.val .nilFunc),(3,E 0),(9,.fn 70 [] [E 1])] [uI (.aS 1 (List.map br ([] : List Int)) (some 0)),Oz r6] [0] 0 0) (qm [0,1] [] 1 ⟨⟨_,_,rfl,rfl,rfl,(aT.cons (.Ja 1 0 rfl rfl) (aT.refl _))⟩,aA.z.c⟩ aG.z.c.c.c) ?_);refine aq e9 λ Dz nM e9=>PC.rangeFunc (f:=70) rfl (I93 k r6 k l3 jf 1) (by intro i x Y; obtain⟨_,_,rfl⟩:=sS Y; rfl) (by intro h; first | rfl | cases h) (λ i fr tk=>∃ (v5:List Int),fr=[uI (lM v5 0),Oz r6]/\tk=[v5.length]/\sg k (List.drop i l3) v5=some Dz) (λ y fr tk=>False) ?_ ?_ ?_ ?_ ?_
    · rintro i fr tk ⟨v5,rfl,rfl,_⟩;exact⟨rfl,rfl,⟨_,_,rfl,rfl⟩⟩
    · exact⟨([] : List Int),rfl,rfl,nM⟩
    ·intro i x fr tk l Y X;refine Exists.elim (sS Y) (λ y4 hq=>?_);have ha:=hq.1;obtain rfl:=hq.2;clear hq;obtain⟨v5,rfl,rfl,lz⟩:=X;rw[C3 ha,sg] at lz;clear Y ha;refine⟨_,rfl,?_⟩;refine PC.gb (s':=PS.of 16 [(3,E 0),(10,g y4)] [uI (lM v5 0),Oz r6] [v5.length] 2 1) (qw [0,1] [0]) ?_;refine .lone (qr 2 ?_);refine .skip ⟨rfl,?_⟩;refine .lone (PC.block ?_);refine .lone (.region (qk 3 [0,1] [0,1] [(3,E 0),(11,lM v5 0),(13,.aS 1 (List.map br ([y4])) (some 1))] [uI (lM v5 0),Oz r6] [v5.length,1] ?_));refine pZ lz λ Wd lz=>?_;generalize acI:v5++([y4])=l8 at lz;refine PO.one rfl (iZ (L:=v5) (M:=[y4]) (f:=br) (sz:=1) (bytes:=8) kF rfl rfl rfl rfl rfl rfl rfl rfl rfl rfl rfl rfl Wd acI) rfl ?_;refine qX 1 [0,1] [0] [] [uI (lM l8 0),Oz r6] [l8.length] ?_;refine .skip (bk.end ?_);refine PC.gb (s':=PS.of 16 [] [uI (lM l8 0),Oz r6] [l8.length] 2 1) (qw [0,1] [0]) ?_;exact .skip (⟨l8,rfl,rfl,lz⟩)
    ·rintro fr tk ⟨v5,rfl,rfl,lz⟩;rw[List.length_map,List.drop_length,sg] at lz;obtain rfl:=qs lz;have e9:=e9;refine PC.gb (s':=PS.mS [none] 16 [(2,.val .nilFunc),(3,E 0),(9,.fn 70 [] [E 1])] [uI (lM v5 0),Oz r6] [v5.length] 0 0) (qw [0,1] [0]) ?_;exact .skip (aC.end ⟨v5,qw [0] [0],qs e9⟩)
    ·intro y fr tk hd hy;exact hd.elim
   rintro _ ⟨v2,FX,rfl⟩;exact FX.c (PC.skip (bR.end ⟨v2,qw [0] [],qs e4⟩))
  exact .aZ (PC.skip (bR.end ⟨[],qm [0] [] 0 ⟨⟨_,_,rfl,rfl,rfl,(aT.cons (.nil 1) (aT.refl _))⟩,aA.z⟩ aG.z.c.c,qs e4⟩))
 rintro _ ⟨v1,w19,rfl⟩;refine w19.c (qr 3 ?_);cases I;exact .cS (LO [0] [] (by kernel_rfl) (.refl _) ⟨rfl,rfl,rfl⟩)
def wG (k:Nat):List Int->Int->Option ((Int))
  | [],v3=>some v3
  | y2 :: l5,v3=>
    wG k l5 (w (v3+1))
def We (k:Nat) (A:List au):Option Bool:=
(HD k A).bind λ r1=>
Option.bind (α:=Int) (uc r1.length (Option.bind (α:=(Int)) (wG k r1 0) (λ(v3:Int)=>
some v3))) λ(v1:Int)=>
Option.bind (α:=Bool) (bif decide (v1 > 60) then(some (decide (v1<=1024))) else(some false)) λ(v6:Bool)=>
some v6
theorem L10 (k:Nat) (A:List au) (r:Bool) (I:We k A=some r):PF Try.prog fK 10 [lI A] [] [] (λ p fr tk=>p=vB r/\fr=[]/\tk=[]):=by
 unfold We at I;refine PF.GL Try.func10 rfl rfl rfl (by kernel_rfl) rfl ?_;refine qr 2 ?_;refine .region (qX 2 [0] [] [(0,lI A),(2,vB false),(3,E 0)] [⟨0,[g 0]⟩] [] ?_);refine qM 1 ?_;refine aq I λ r1 e2 I=>qG [] [] (L18 k A _ e2) trivial ?_;refine .nil (aq I λ x3 e4 I=>PC.bQ (λ s=>∃ (v1:Int),bc s (PS.mS [none] 15 [(2,vB false),(3,E 0)] [R9 v1] [] 0 0)/\v1=x3) ?_ ?_)
 ·refine .lone ?_;have hq:=xO e4;have h5:=hq.1;have e4:=hq.2;clear hq;refine PC.gb (s':=PS.mS [none] 15 [(2,vB false),(3,E 0),(5,.fn 47 [] [E 1])] [⟨0,[g 0]⟩,AU r1] [] 0 0) (qw [0,1] []) ?_;refine aq e4 λ x6 e7 e4=>PC.rangeFunc (f:=47) rfl (I66 r1 h5 1) (by intro i x Y; obtain⟨_,_,rfl⟩:=sS Y; rfl) (by intro h; first | rfl | cases h) (λ i fr tk=>∃ (v3:Int),fr=[R9 v3,AU r1]/\tk=[]/\wG k (List.drop i r1) v3=some x6) (λ y fr tk=>False) ?_ ?_ ?_ ?_ ?_
  · rintro i fr tk ⟨v3,rfl,rfl,_⟩;exact⟨rfl,rfl,⟨_,_,rfl,rfl⟩⟩
  · exact⟨0,rfl,rfl,e7⟩
  ·intro i x fr tk l Y X;refine Exists.elim (sS Y) (λ y2 hq=>?_);have ha:=hq.1;obtain rfl:=hq.2;clear hq;obtain⟨v3,rfl,rfl,e8⟩:=X;rw[C3 ha,wG] at e8;clear Y ha;refine⟨_,rfl,?_⟩;refine PC.gb (s':=PS.of 15 [(3,E 0)] [R9 v3,AU r1] [] 2 0) (qw [0,1] []) ?_;refine .skip ⟨rfl,?_⟩;refine .lone (PC.block ?_);refine .lone (.region (qX 3 [0,1] [] [] [R9 (w (v3+1)),AU r1] [] ?_));refine .skip (bk.end ?_);refine PC.gb (s':=PS.of 15 [] [R9 (w (v3+1)),AU r1] [] 2 0) (qw [0,1] []) ?_;exact .skip (⟨w (v3+1),rfl,rfl,e8⟩)
  ·rintro fr tk ⟨v3,rfl,rfl,e8⟩;rw[List.length_map,List.drop_length,wG] at e8;obtain rfl:=qs e8;have e4:=e4;refine PC.gb (s':=PS.mS [none] 15 [(2,vB false),(3,E 0),(5,.fn 47 [] [E 1])] [R9 v3,AU r1] [] 0 0) (qw [0,1] []) ?_;exact .skip (aC.end ⟨v3,qw [0] [],qs e4⟩)
  ·intro y fr tk hd hy;exact hd.elim
 rintro _ ⟨v1,FZ,rfl⟩;refine FZ.c (qL 3 ?_);refine aq I λ xV fB I=>PO.cut 3 (λ s=>∃ (v6:Bool),bc s (PS.mS [none] 15 [(2,vB false),(14,vB v6)] [] [] 0 0)/\v6=xV) ?_ ?_
 ·refine qC 11 fB (λ fB=>?_) λ fB=>?_
  ·exact qW 3 (decide (v1<=1024)) [] [] fB
  exact qW 3 false [] [] fB
 rintro _ ⟨v6,Ca,rfl⟩;refine Ca.o (qN 1 ?_);cases I;exact .cS (LO [] [] (by kernel_rfl) (.refl _) ⟨rfl,rfl,rfl⟩)
def OI (k:Nat) (A:Int) (a1:Int):Option ((List Int)×cD×cA):=
some (([] : List Int),(cD.mk 0 0 0),(cA.mk A a1))
theorem Wf (k:Nat) (A:Int) (a1:Int) (r:(List Int)×cD×cA) (I:OI k A a1=some r):PF Try.prog fK 26 [g A,g a1] [] [] (λ p fr tk=>p=.fX [lM r.1 0,.agg (sf r.2.1),.agg (yH r.2.2)]/\fr=[]/\tk=[r.1.length]):=by
 unfold OI at I;refine qP Try.func26 ?_;refine .region (qX 3 [0,1] [] [(0,g A),(1,g a1),(4,v0),(5,E 0),(6,E 1)] [R1,R2] [] ?_);refine .region (qX 7 [0,1] [] [(4,v0),(5,E 0),(6,E 1)] [R1,⟨0,[g A,g a1]⟩] [] ?_);refine PC.gb (s':=PS.of 11 [(4,.aS 1 (List.map br ([] : List Int)) (some 0)),(5,E 0),(6,E 1)] [R1,⟨0,[g A,g a1]⟩] [0] 0 0) (qm [0,1] [] 1 aA.z.c.c ⟨⟨_,_,rfl,rfl,.Ja 1 0 rfl rfl⟩,aG.z.c.c⟩) ?_;cases I;exact .cS (qf [] [0])
def po (k:Nat):List Int->(List Int)->Option ((List Int))
  | [],v3=>some v3
  | y2 :: l5,v3=>
    mw 8 v3 ([y2]) λ l6=>
    po k l5 l6
def Ev (k:Nat) (A:List Int):Option ((List Int)×(List Int)):=
Option.bind (α:=List Int) (uc A.length (Option.bind (α:=(List Int)) (po k A ([] : List Int)) (λ(v3:List Int)=>
some v3))) λ(v1:List Int)=>
some (v1,A)
theorem X5 (k:Nat) (A:List Int) (r:(List Int)×(List Int)) (I:Ev k A=some r):PF Try.prog fK 55 [v0,.fn 47 [] [E 0]] [AU A] [] (λ p fr tk=>p=lN r.1/\fr=[AU r.2]/\tk=[]):=by
 unfold Ev at I;refine PF.GL Try.func55 rfl rfl rfl (by kernel_rfl) rfl ?_;refine .region (qX 2 [0,1] [] [(1,.fn 47 [] [E 0]),(2,E 1),(4,v0)] [AU A,⟨0,[v0]⟩] [] ?_);refine qK 2 ?_;refine aq I λ x1 e2 I=>PC.bQ (λ s=>∃ (v1:List Int),bc s (PS.mS [none] 13 [(2,E 1),(4,v0)] [AU A,uI (lM v1 0)] [v1.length] 1 0)/\v1=x1) ?_ ?_
 ·refine .lone ?_;have hq:=xO e2;have V:=hq.1;have e2:=hq.2;clear hq;refine PC.gb (s':=PS.mS [none] 13 [(2,E 1),(4,v0),(6,.fn 47 [] [E 0])] [AU A,uI (.aS 1 (List.map br ([] : List Int)) (some 0))] [0] 1 0) (qm [0,1] [] 1 (aA.c ⟨⟨_,_,rfl,rfl,rfl,(aT.cons (.Ja 1 0 rfl rfl) (aT.refl _))⟩,aA.z⟩) aG.z.c.c.c) ?_;refine aq e2 λ x4 e5 e2=>PC.rangeFunc (f:=47) rfl (I66 A V 0) (by intro i x Y; obtain⟨_,_,rfl⟩:=sS Y; rfl) (by intro h; first | rfl | cases h) (λ i fr tk=>∃ (v3:List Int),fr=[AU A,uI (lM v3 0)]/\tk=[v3.length]/\po k (List.drop i A) v3=some x4) (λ y fr tk=>False) ?_ ?_ ?_ ?_ ?_
  · rintro i fr tk ⟨v3,rfl,rfl,_⟩;exact⟨rfl,rfl,⟨_,_,rfl,rfl⟩⟩
  · exact⟨([] : List Int),rfl,rfl,e5⟩
  ·intro i x fr tk l Y X;refine Exists.elim (sS Y) (λ y2 hq=>?_);have ha:=hq.1;obtain rfl:=hq.2;clear hq;obtain⟨v3,rfl,rfl,e6⟩:=X;rw[C3 ha,po] at e6;clear Y ha;refine⟨_,rfl,?_⟩;refine PC.gb (s':=PS.of 13 [(2,E 1),(7,g y2)] [AU A,uI (lM v3 0)] [v3.length] 2 1) (qw [0,1] [0]) ?_;refine .lone (qr 2 ?_);refine .skip ⟨rfl,?_⟩;refine .lone (PC.block ?_);refine .lone (.region (qk 3 [0,1] [0,1] [(2,E 1),(8,lM v3 0),(10,.aS 1 (List.map br ([y2])) (some 1))] [AU A,uI (lM v3 0)] [v3.length,1] ?_));refine pZ e6 λ AP e6=>?_;generalize acJ:v3++([y2])=l6 at e6;refine PO.one rfl (iZ (L:=v3) (M:=[y2]) (f:=br) (sz:=1) (bytes:=8) kF rfl rfl rfl rfl rfl rfl rfl rfl rfl rfl rfl rfl AP acJ) rfl ?_;refine qX 1 [0,1] [0] [] [AU A,uI (lM l6 0)] [l6.length] ?_;refine .skip (bk.end ?_);refine PC.gb (s':=PS.of 13 [] [AU A,uI (lM l6 0)] [l6.length] 2 1) (qw [0,1] [0]) ?_;exact .skip (⟨l6,rfl,rfl,e6⟩)
  ·rintro fr tk ⟨v3,rfl,rfl,e6⟩;rw[List.length_map,List.drop_length,po] at e6;obtain rfl:=qs e6;have e2:=e2;refine PC.gb (s':=PS.mS [none] 13 [(2,E 1),(4,v0),(6,.fn 47 [] [E 0])] [AU A,uI (lM v3 0)] [v3.length] 1 0) (qw [0,1] [0]) ?_;exact .skip (aC.end ⟨v3,qw [0,1] [0],qs e2⟩)
  ·intro y fr tk hd hy;exact hd.elim
 rintro _ ⟨v1,FY,rfl⟩;refine FY.c (qr 3 ?_);cases I;exact .cS (LO [0] [] (by kernel_rfl) (.refl _) ⟨rfl,rfl,rfl⟩)
def zo (k:Nat) (A:List Int):Option ((List Int)×(List Int)):=
(Ev k A).bind λ r1=>
some (r1.1,r1.2)
theorem X6 (k:Nat) (A:List Int) (r:(List Int)×(List Int)) (I:zo k A=some r):PF Try.prog fK 27 [.fn 47 [] [E 0]] [AU A] [] (λ p fr tk=>p=lN r.1/\fr=[AU r.2]/\tk=[]):=by
 unfold zo at I;refine qP Try.func27 ?_;refine qr 2 ?_;refine qL 1 ?_;refine aq I λ r1 e2 I=>qG [0] [] (X5 k A _ e2) ⟨⟨_,rfl,rfl,rfl⟩,trivial⟩ ?_;refine qN 1 ?_;cases I;exact .cS (qf [0] [])
def Ew (k:Nat) (A:aE) (a1:Int) (Z:Bool) (a3:Int):Option (aE×Int×Bool×Int):=
Option.bind (α:=Int) (bif !Z then(some a1) else(some A.dM)) λ(v1:Int)=>
some ((aE.mk A.bb A.cL A.aV (w (A.bq+a3)) (if w (A.bq+a3) > A.bK then w (A.bq+a3) else A.bK) A.bo v1),a1,Z,a3)
theorem Rz (k:Nat) (A:aE) (a1:Int) (Z:Bool) (a3:Int) (r:aE×Int×Bool×Int) (I:Ew k A a1 Z a3=some r):PB Try.prog fK 78 [E 2,E 5,E 4,E 3,E 1] [R0 A,oK,uI (.ptr 0 3),R9 a1,Kq Z,R9 a3] [] (λ p fr tk=>p=.fX []/\fr=[R0 r.1,oK,uI (.ptr 0 3),R9 r.2.1,Kq r.2.2.1,R9 r.2.2.2]/\tk=[]):=by
 unfold Ew at I;refine PB.CI Try.func78 rfl rfl rfl (by kernel_rfl) ?_;refine qo [0,1,2,3,4,5,6,7,8] ?_;refine qX 9 [0,1,2,3,4,5] [] [(0,E 2),(2,E 4),(3,E 3),(4,E 1)] [Ox A.bb A.cL A.aV (w (A.bq+a3)) A.bK A.bo A.dM,oK,uI (.ptr 0 3),R9 a1,Kq Z,R9 a3] [] ?_;refine qo [0,1,2,3,4,5,6,7,8,9,10,11,12] ?_;refine qX 13 [0,1,2,3,4,5] [] [(2,E 4),(3,E 3),(4,E 1)] [Ox A.bb A.cL A.aV (w (A.bq+a3)) (if w (A.bq+a3) > A.bK then w (A.bq+a3) else A.bK) A.bo A.dM,oK,uI (.ptr 0 3),R9 a1,Kq Z,R9 a3] [] ?_;refine qr 3 ?_;refine .lone (aq I λ x1 e2 I=>PC.mh (λ s=>∃ (v1:Int),bc s (PS.of 31 [] [Ox A.bb A.cL A.aV (w (A.bq+a3)) (if w (A.bq+a3) > A.bK then w (A.bq+a3) else A.bK) A.bo v1,oK,uI (.ptr 0 3),R9 a1,Kq Z,R9 a3] [] 6 0)/\v1=x1) ?_ ?_)
 ·refine qD e2 (λ e2=>?_) λ e2=>?_
  ·refine .region (qX 5 [0,1,2,3,4,5] [] [] [Ox A.bb A.cL A.aV (w (A.bq+a3)) (if w (A.bq+a3) > A.bK then w (A.bq+a3) else A.bK) A.bo a1,oK,uI (.ptr 0 3),R9 a1,Kq Z,R9 a3] [] ?_);exact .skip (bR.end ⟨a1,qw [0,1,2,3,4,5] [],qs e2⟩)
  exact .aZ (PC.skip (bR.end ⟨A.dM,qw [0,1,2,3,4,5] [],qs e2⟩))
 rintro _ ⟨v1,w4,rfl⟩;refine w4.c ?_;cases I;exact .skip (HN [0,1,2,3,4,5] [] (by kernel_rfl) (.refl _) ⟨rfl,rfl,rfl⟩)
def HT (k:Nat) (A:Int) (a1:Int) (Z:aE):Option (Bool×aE):=
Option.bind (α:=Bool) (bif decide (A < 0) then(some true) else(some (Z.dM != 0))) λ(v1:Bool)=>
bif v1 then(some (false,Z)) else(bif decide (A > (w (Z.bo - Z.bq))) then((Ew k Z a1 false (w (Z.bo - Z.bq))).bind λ r7=>
some (r7.2.2.1,r7.1)) else((Ew k Z a1 true A).bind λ r9=>
some (r9.2.2.1,r9.1)))
theorem X7 (k:Nat) (A:Int) (a1:Int) (Z:aE) (r:Bool×aE) (I:HT k A a1 Z=some r):PF Try.prog fK 56 [E 0,.ptr 0 3,g A,g a1] [R0 Z] [] (λ p fr tk=>p=vB r.1/\fr=[R0 r.2]/\tk=[]):=by
 unfold HT at I;refine PF.Mr Try.func56 rfl rfl rfl (by kernel_rfl) rfl ?_;refine .region (qX 4 [0,1,2,3,4] [] [(2,g A),(4,E 1),(5,E 2),(7,E 3),(8,E 4)] [R0 Z,oK,uI (.ptr 0 3),R9 a1,Hz] [] ?_);refine qM 3 ?_;refine aq I λ x1 e2 I=>PO.cut 6 (cu (λ v1=>PS.of 35 [(2,g A),(4,E 1),(5,E 2),(7,E 3),(8,E 4),(19,vB v1)] [R0 Z,oK,uI (.ptr 0 3),R9 a1,Hz] [] 1 0) x1) ?_ ?_
 ·refine qC 13 e2 (λ e2=>?_) λ e2=>?_
  ·exact qW 6 true [0,1,2,3,4] [] e2
  refine qN 6 ?_;exact⟨Z.dM != 0,qw [0,1,2,3,4] [],qs e2⟩
 rintro _ ⟨v1,w4,rfl⟩;refine w4.on (qD I (λ I=>?_) λ I=>?_)
 ·refine qJ ?_;refine qX 1 [0,4] [] [(8,E 1)] [R0 Z,Hz] [] ?_;cases I;exact .ret (yZ.tv (qf [0] []))
 refine .aZ (.region (qX 3 [0,1,2,3,4,5] [] [(2,g A),(4,E 1),(5,E 2),(7,E 3),(8,E 4),(9,E 5)] [R0 Z,oK,uI (.ptr 0 3),R9 a1,Hz,R9 A] [] ?_));refine qL 1 ?_;refine PO.defer rfl rfl rfl rfl rfl ?_;refine .nil (.eP (qo [0,1,2,3,4,5,6,7,8,9] ?_));refine qN 10 ?_;refine qK 4 ?_;refine qD I (λ I=>?_) λ I=>?_
 ·refine qJ ?_;refine qX 2 [0,1,2,3,4,5] [] [(8,E 4),(21,.fn 78 [] [E 2,E 5,E 4,E 3,E 1])] [R0 Z,oK,uI (.ptr 0 3),R9 a1,Hz,R9 (w (Z.bo - Z.bq))] [] ?_;refine qJ ?_;refine qX 1 [0,1,2,3,4,5] [] [(8,E 4),(21,.fn 78 [] [E 2,E 5,E 4,E 3,E 1])] [R0 Z,oK,uI (.ptr 0 3),R9 a1,Hz,R9 (w (Z.bo - Z.bq))] [] ?_;refine aq I λ r7 e8 I=>PC.ret (yZ.off (ks:=[0,1,2,3,4,5]) (ts:=[]) (fr1:=[R0 Z,oK,uI (.ptr 0 3),R9 a1,Hz,R9 (w (Z.bo - Z.bq))]) rfl rfl rfl rfl rfl ⟨⟨_,rfl,rfl,rfl⟩,⟨⟨_,rfl,rfl,rfl⟩,⟨⟨_,rfl,rfl,rfl⟩,⟨⟨_,rfl,rfl,rfl⟩,⟨⟨_,rfl,rfl,rfl⟩,⟨⟨_,rfl,rfl,rfl⟩,trivial⟩⟩⟩⟩⟩⟩ (Rz k Z a1 false (w (Z.bo - Z.bq)) _ e8) ?_);rintro _ _ _ ⟨rfl,rfl,rfl⟩;refine⟨_,_,rfl,rfl,?_⟩;cases I;exact qf [0] []
 refine .aZ (.region (qX 1 [0,1,2,3,4,5] [] [(8,E 4),(21,.fn 78 [] [E 2,E 5,E 4,E 3,E 1])] [R0 Z,oK,uI (.ptr 0 3),R9 a1,⟨0,[vB true]⟩,R9 A] [] ?_));refine aq I λ r9 jf I=>PC.cS (yZ.off (ks:=[0,1,2,3,4,5]) (ts:=[]) (fr1:=[R0 Z,oK,uI (.ptr 0 3),R9 a1,⟨0,[vB true]⟩,R9 A]) rfl rfl rfl rfl rfl ⟨⟨_,rfl,rfl,rfl⟩,⟨⟨_,rfl,rfl,rfl⟩,⟨⟨_,rfl,rfl,rfl⟩,⟨⟨_,rfl,rfl,rfl⟩,⟨⟨_,rfl,rfl,rfl⟩,⟨⟨_,rfl,rfl,rfl⟩,trivial⟩⟩⟩⟩⟩⟩ (Rz k Z a1 true A _ jf) ?_);rintro _ _ _ ⟨rfl,rfl,rfl⟩;refine⟨_,_,rfl,rfl,?_⟩;cases I;exact qf [0] []
def Sp (k:Nat) (A:aE) (a1:Int):Option (Bool×aE):=
(HT k a1 21 A).bind λ r1=>
some (r1.1,r1.2)
theorem L28 (k:Nat) (A:aE) (a1:Int) (r:Bool×aE) (I:Sp k A a1=some r):PF Try.prog fK 28 [E 0,g a1] [R0 A] [] (λ p fr tk=>p=vB r.1/\fr=[R0 r.2]/\tk=[]):=by
 unfold Sp at I;refine qP Try.func28 ?_;refine qr 2 ?_;refine qL 5 ?_;refine aq I λ r1 e2 I=>qG [0] [] (X7 k a1 21 A _ e2) ⟨⟨_,rfl,rfl,rfl⟩,trivial⟩ ?_;refine qN 1 ?_;cases I;exact .cS (qf [0] [])
def OJ (k:Nat) (A:aE):Option (Int×aE):=
some (A.dM,A)
theorem Y6 (k:Nat) (A:aE) (r:Int×aE) (I:OJ k A=some r):PF Try.prog fK 29 [E 0] [R0 A] [] (λ p fr tk=>p=g r.1/\fr=[R0 r.2]/\tk=[]):=by
 unfold OJ at I;refine qP Try.func29 ?_;refine qr 2 ?_;refine qr 6 ?_;cases I;exact .cS (qf [0] [])
def Ex (k:Nat) (A:Int) (a1:aE) (Z:List au) (a3:Int) (a4:Int) (a5:List Int) (a6:Nat) (a7:List ay):Option (Bool×aE×(List au)×Int×Int×(List Int)×(List ay)):=
bp Z A λ y1=>
Option.bind (α:=Bool) (bif y1.aM == 4 then(bp Z A λ y3=>
some (y3.value == (-10000))) else(some false)) λ(v2:Bool)=>
some (v2,a1,Z,a3,a4,a5,a7)
theorem X8 (k:Nat) (A:Int) (a1:aE) (Z:List au) (a3:Int) (a4:Int) (a5:List Int) (a6:Nat) (a7:List ay) (r:Bool×aE×(List au)×Int×Int×(List Int)×(List ay)) (I:Ex k A a1 Z a3 a4 a5 a6 a7=some r):PF Try.prog fK 79 [E 1,g A] [R0 a1,R8 Z a3 a4 a5 a6,R7 a7] [] (λ p fr tk=>p=vB r.1/\fr=[R0 r.2.1,R8 r.2.2.1 r.2.2.2.1 r.2.2.2.2.1 r.2.2.2.2.2.1 a6,R7 r.2.2.2.2.2.2]/\tk=[]):=by
 unfold Ex at I;refine qP Try.func79 ?_;refine qr 2 ?_;refine qL 5 ?_;refine qI gM I λ y1 I=>?_;refine qR 4 ?_;refine aq I λ x3 e4 I=>PO.cut 10 (cu (λ v2=>PS.of 25 [(4,vB false),(24,vB v2)] [R0 a1,R8 Z a3 a4 a5 a6,R7 a7] [] 3 0) x3) ?_ ?_
 ·refine qC 14 e4 (λ e4=>?_) λ e4=>?_
  ·refine qR 5 ?_;refine qI gM e4 λ y3 e4=>?_;refine qN 4 ?_;exact⟨y3.value == (-10000),qm [0,1,2] [] 0 (aA.c (aA.c ⟨⟨_,_,rfl,rfl,eT rfl,aT.refl _⟩,aA.z⟩)) aG.z.c.c,qs e4⟩
  refine qN 10 ?_;exact⟨false,qm [0,1,2] [] 0 (aA.c (aA.c ⟨⟨_,_,rfl,rfl,eT rfl,aT.refl _⟩,aA.z⟩)) aG.z.c.c,qs e4⟩
 rintro _ ⟨v2,w8,rfl⟩;refine w8.o (qN 1 ?_);cases I;exact .cS (q9 [0,1,2] [] (fr':=[R0 a1,R8 Z a3 a4 a5 a6,R7 a7]) (by kernel_rfl) ⟨⟨_,rfl,rfl,rfl⟩,⟨⟨_,rfl,rfl,rfl⟩,⟨⟨_,rfl,rfl,eT rfl⟩,trivial⟩⟩⟩ (.refl _) ⟨rfl,rfl,rfl⟩)
def kx (k:Nat) (a6:Nat):Nat->Int->aE->(List au)->Int->Int->(List Int)->(List ay)->Option ((aE×(List au)×Int×Int×(List Int)×(List ay)) ⊕ (Int×aE×(List au)×Int×Int×(List Int)×(List ay)))
  | 0,_,_,_,_,_,_,_=>none
  | j3+1,cQ,DB,kW,jM,lG,jE,iR=>
    bif decide (cQ>=0) then(bp jE cQ λ y56=>
    (Ex k y56 DB kW jM lG jE a6 iR).bind λ r8=>
    bif r8.1 then(some (.inr (cQ,r8.2.1,r8.2.2.1,r8.2.2.2.1,r8.2.2.2.2.1,r8.2.2.2.2.2.1,r8.2.2.2.2.2.2))) else(kx k a6 j3 (w (cQ - 1)) r8.2.1 r8.2.2.1 r8.2.2.2.1 r8.2.2.2.2.1 r8.2.2.2.2.2.1 r8.2.2.2.2.2.2)) else(some (.inl (DB,kW,jM,lG,jE,iR)))
def Ey (k:Nat) (A:Int) (a1:aE) (Z:List au) (a3:Int) (a4:Int) (a5:List Int) (a6:Nat) (a7:List ay):Option (Int×aE×(List au)×Int×Int×(List Int)×(List ay)):=
Option.bind (α:=(aE×(List au)×Int×Int×(List Int)×(List ay)) ⊕ (Int×aE×(List au)×Int×Int×(List Int)×(List ay))) (kx k a6 k (w (A - 1)) a1 Z a3 a4 a5 a7) (Sum.elim (λ(v8,v9,v10,v11,mT,hH)=>
some ((-1),v8,v9,v10,v11,mT,hH)) some)
theorem X9 (k:Nat) (A:Int) (a1:aE) (Z:List au) (a3:Int) (a4:Int) (a5:List Int) (a6:Nat) (a7:List ay) (r:Int×aE×(List au)×Int×Int×(List Int)×(List ay)) (I:Ey k A a1 Z a3 a4 a5 a6 a7=some r):PF Try.prog fK 57 [E 1,g A] [R0 a1,R8 Z a3 a4 a5 a6,R7 a7] [] (λ p fr tk=>p=g r.1/\fr=[R0 r.2.1,R8 r.2.2.1 r.2.2.2.1 r.2.2.2.2.1 r.2.2.2.2.2.1 a6,R7 r.2.2.2.2.2.2]/\tk=[]):=by
 unfold Ey at I;refine qP Try.func57 ?_;refine qr 2 ?_;refine qK 4 ?_;refine aq I λ x1 e2 I=>PC.bQ (λ s=>∃ (v8:aE) (v9:List au) (v10:Int) (v11:Int) (mT:List Int) (hH:List ay),bc s (PS.of 22 [(4,g 0)] [R0 v8,R8 v9 v10 v11 mT a6,R7 hH] [] 3 0)/\.inl (v8,v9,v10,v11,mT,hH)=x1) ?_ ?_
 ·refine PC.loop (λ j3 s=>∃ (cQ:Int) (DB:aE) (kW:List au) (jM:Int) (lG:Int) (jE:List Int) (iR:List ay),bc s (PS.of 22 [(0,E 1),(4,g 0),(5,g cQ)] [R0 DB,R8 kW jM lG jE a6,R7 iR] [] 3 0)/\kx k a6 j3 cQ DB kW jM lG jE iR=some x1) (λ j3 s=>?_) k ⟨w (A - 1),a1,Z,a3,a4,a5,a7,qm [0,1,2] [] 0 (aA.c (aA.c ⟨⟨_,_,rfl,rfl,eT rfl,aT.refl _⟩,aA.z⟩)) aG.z.c.c.c,e2⟩;rintro⟨cQ,DB,kW,jM,lG,jE,iR,w4,e2⟩;refine w4.c ?_;obtain _ | j3:=j3
  · rw[kx] at e2; cases e2
  rw[kx] at e2;refine qK 3 ?_;refine qD e2 (λ e2=>?_) λ e2=>?_
  ·refine .aZ (PC.block ?_);refine qL 6 ?_;refine qI kF e2 λ y56 e2=>?_;refine qR 1 ?_;refine aq e2 λ r8 e9 e2=>?_;refine PO.call rfl rfl rfl rfl (ks:=[0,1,2]) (ts:=[]) (fr1:=[R0 DB,R8 kW jM lG jE a6,R7 iR]) rfl rfl rfl ⟨⟨_,rfl,rfl,rfl⟩,⟨⟨_,rfl,rfl,rfl⟩,⟨⟨_,rfl,rfl,eT rfl⟩,trivial⟩⟩⟩ (X8 k y56 DB kW jM lG jE a6 iR _ e9) ?_;rintro _ _ _ ⟨rfl,rfl,rfl⟩;refine⟨_,_,rfl,(cF rfl (cF rfl (cF (oQ (eT rfl)) ki))),?_⟩;refine .nil (.lone (qD e2 (λ e2=>?_) λ e2=>?_))
   ·refine qK 3 ?_;cases e2;cases I;exact .ret (bk.ct (bh.ret (aC.ct (q9 [0,1,2] [] (fr':=[R0 r8.2.1,R8 r8.2.2.1 r8.2.2.2.1 r8.2.2.2.2.1 r8.2.2.2.2.2.1 a6,R7 r8.2.2.2.2.2.2]) (by kernel_rfl) ⟨⟨_,rfl,rfl,rfl⟩,⟨⟨_,rfl,rfl,rfl⟩,⟨⟨_,rfl,rfl,eT rfl⟩,trivial⟩⟩⟩ (.refl _) ⟨rfl,rfl,rfl⟩))))
   refine .aZ (PC.skip (bk.end ?_));refine .lone (qr 4 ?_);exact .skip (bh.mk (Nat.lt_succ_self _) ⟨w (cQ - 1),r8.2.1,r8.2.2.1,r8.2.2.2.1,r8.2.2.2.2.1,r8.2.2.2.2.2.1,r8.2.2.2.2.2.2,qm [0,1,2] [] 0 (aA.c (aA.c ⟨⟨_,_,rfl,rfl,eT rfl,aT.refl _⟩,aA.z⟩)) aG.z.c.c.c,e2⟩)
  exact .exit (bh.exit (aC.eF ⟨DB,kW,jM,lG,jE,iR,qm [0,1,2] [] 0 (aA.c (aA.c ⟨⟨_,_,rfl,rfl,eT rfl,aT.refl _⟩,aA.z⟩)) aG.z.c,qs e2⟩))
 rintro _ ⟨v8,v9,v10,v11,mT,hH,FY,rfl⟩;refine FY.c ?_;have I:=fD I;refine qr 2 ?_;cases I;exact .cS (q9 [0,1,2] [] (fr':=[R0 v8,R8 v9 v10 v11 mT a6,R7 hH]) (by kernel_rfl) ⟨⟨_,rfl,rfl,rfl⟩,⟨⟨_,rfl,rfl,rfl⟩,⟨⟨_,rfl,rfl,eT rfl⟩,trivial⟩⟩⟩ (.refl _) ⟨rfl,rfl,rfl⟩)
def zF (k:Nat) (A:aE) (a1:Int) (Z:Bool) (a3:Int):Option (aE×Int×Bool×Int):=
Option.bind (α:=Int) (bif !Z then(some a1) else(some A.dM)) λ(v1:Int)=>
some ((aE.mk (w (A.bb+a3)) (if w (A.bb+a3) > A.cL then w (A.bb+a3) else A.cL) A.aV A.bq A.bK A.bo v1),a1,Z,a3)
theorem Mu (k:Nat) (A:aE) (a1:Int) (Z:Bool) (a3:Int) (r:aE×Int×Bool×Int) (I:zF k A a1 Z a3=some r):PB Try.prog fK 78 [E 2,E 5,E 4,E 3,E 1] [R0 A,oK,oK,R9 a1,Kq Z,R9 a3] [] (λ p fr tk=>p=.fX []/\fr=[R0 r.1,oK,oK,R9 r.2.1,Kq r.2.2.1,R9 r.2.2.2]/\tk=[]):=by
 unfold zF at I;refine PB.CI Try.func78 rfl rfl rfl (by kernel_rfl) ?_;refine qo [0,1,2,3,4,5,6,7,8] ?_;refine qX 9 [0,1,2,3,4,5] [] [(0,E 2),(2,E 4),(3,E 3),(4,E 1)] [Ox (w (A.bb+a3)) A.cL A.aV A.bq A.bK A.bo A.dM,oK,oK,R9 a1,Kq Z,R9 a3] [] ?_;refine qo [0,1,2,3,4,5,6,7,8,9,10,11,12] ?_;refine qX 13 [0,1,2,3,4,5] [] [(2,E 4),(3,E 3),(4,E 1)] [Ox (w (A.bb+a3)) (if w (A.bb+a3) > A.cL then w (A.bb+a3) else A.cL) A.aV A.bq A.bK A.bo A.dM,oK,oK,R9 a1,Kq Z,R9 a3] [] ?_;refine qr 3 ?_;refine .lone (aq I λ x1 e2 I=>PC.mh (λ s=>∃ (v1:Int),bc s (PS.of 31 [] [Ox (w (A.bb+a3)) (if w (A.bb+a3) > A.cL then w (A.bb+a3) else A.cL) A.aV A.bq A.bK A.bo v1,oK,oK,R9 a1,Kq Z,R9 a3] [] 6 0)/\v1=x1) ?_ ?_)
 ·refine qD e2 (λ e2=>?_) λ e2=>?_
  ·refine .region (qX 5 [0,1,2,3,4,5] [] [] [Ox (w (A.bb+a3)) (if w (A.bb+a3) > A.cL then w (A.bb+a3) else A.cL) A.aV A.bq A.bK A.bo a1,oK,oK,R9 a1,Kq Z,R9 a3] [] ?_);exact .skip (bR.end ⟨a1,qw [0,1,2,3,4,5] [],qs e2⟩)
  exact .aZ (PC.skip (bR.end ⟨A.dM,qw [0,1,2,3,4,5] [],qs e2⟩))
 rintro _ ⟨v1,w4,rfl⟩;refine w4.c ?_;cases I;exact .skip (HN [0,1,2,3,4,5] [] (by kernel_rfl) (.refl _) ⟨rfl,rfl,rfl⟩)
def CO (k:Nat) (A:Int) (a1:Int) (Z:aE):Option (Bool×aE):=
Option.bind (α:=Bool) (bif decide (A < 0) then(some true) else(some (Z.dM != 0))) λ(v1:Bool)=>
bif v1 then(some (false,Z)) else(bif decide (A > (w (Z.aV - Z.bb))) then((zF k Z a1 false (w (Z.aV - Z.bb))).bind λ r7=>
some (r7.2.2.1,r7.1)) else((zF k Z a1 true A).bind λ r9=>
some (r9.2.2.1,r9.1)))
theorem T7 (k:Nat) (A:Int) (a1:Int) (Z:aE) (r:Bool×aE) (I:CO k A a1 Z=some r):PF Try.prog fK 56 [E 0,E 0,g A,g a1] [R0 Z] [] (λ p fr tk=>p=vB r.1/\fr=[R0 r.2]/\tk=[]):=by
 unfold CO at I;refine PF.Mr Try.func56 rfl rfl rfl (by kernel_rfl) rfl ?_;refine .region (qX 4 [0,1,2,3,4] [] [(2,g A),(4,E 1),(5,E 2),(7,E 3),(8,E 4)] [R0 Z,oK,oK,R9 a1,Hz] [] ?_);refine qM 3 ?_;refine aq I λ x1 e2 I=>PO.cut 6 (cu (λ v1=>PS.of 35 [(2,g A),(4,E 1),(5,E 2),(7,E 3),(8,E 4),(19,vB v1)] [R0 Z,oK,oK,R9 a1,Hz] [] 1 0) x1) ?_ ?_
 ·refine qC 13 e2 (λ e2=>?_) λ e2=>?_
  ·exact qW 6 true [0,1,2,3,4] [] e2
  refine qN 6 ?_;exact⟨Z.dM != 0,qw [0,1,2,3,4] [],qs e2⟩
 rintro _ ⟨v1,w4,rfl⟩;refine w4.on (qD I (λ I=>?_) λ I=>?_)
 ·refine qJ ?_;refine qX 1 [0,4] [] [(8,E 1)] [R0 Z,Hz] [] ?_;cases I;exact .ret (yZ.tv (qf [0] []))
 refine .aZ (.region (qX 3 [0,1,2,3,4,5] [] [(2,g A),(4,E 1),(5,E 2),(7,E 3),(8,E 4),(9,E 5)] [R0 Z,oK,oK,R9 a1,Hz,R9 A] [] ?_));refine qL 1 ?_;refine PO.defer rfl rfl rfl rfl rfl ?_;refine .nil (.eP (qo [0,1,2,3,4,5,6,7,8,9] ?_));refine qN 10 ?_;refine qK 4 ?_;refine qD I (λ I=>?_) λ I=>?_
 ·refine qJ ?_;refine qX 2 [0,1,2,3,4,5] [] [(8,E 4),(21,.fn 78 [] [E 2,E 5,E 4,E 3,E 1])] [R0 Z,oK,oK,R9 a1,Hz,R9 (w (Z.aV - Z.bb))] [] ?_;refine qJ ?_;refine qX 1 [0,1,2,3,4,5] [] [(8,E 4),(21,.fn 78 [] [E 2,E 5,E 4,E 3,E 1])] [R0 Z,oK,oK,R9 a1,Hz,R9 (w (Z.aV - Z.bb))] [] ?_;refine aq I λ r7 e8 I=>PC.ret (yZ.off (ks:=[0,1,2,3,4,5]) (ts:=[]) (fr1:=[R0 Z,oK,oK,R9 a1,Hz,R9 (w (Z.aV - Z.bb))]) rfl rfl rfl rfl rfl ⟨⟨_,rfl,rfl,rfl⟩,⟨⟨_,rfl,rfl,rfl⟩,⟨⟨_,rfl,rfl,rfl⟩,⟨⟨_,rfl,rfl,rfl⟩,⟨⟨_,rfl,rfl,rfl⟩,⟨⟨_,rfl,rfl,rfl⟩,trivial⟩⟩⟩⟩⟩⟩ (Mu k Z a1 false (w (Z.aV - Z.bb)) _ e8) ?_);rintro _ _ _ ⟨rfl,rfl,rfl⟩;refine⟨_,_,rfl,rfl,?_⟩;cases I;exact qf [0] []
 refine .aZ (.region (qX 1 [0,1,2,3,4,5] [] [(8,E 4),(21,.fn 78 [] [E 2,E 5,E 4,E 3,E 1])] [R0 Z,oK,oK,R9 a1,⟨0,[vB true]⟩,R9 A] [] ?_));refine aq I λ r9 jf I=>PC.cS (yZ.off (ks:=[0,1,2,3,4,5]) (ts:=[]) (fr1:=[R0 Z,oK,oK,R9 a1,⟨0,[vB true]⟩,R9 A]) rfl rfl rfl rfl rfl ⟨⟨_,rfl,rfl,rfl⟩,⟨⟨_,rfl,rfl,rfl⟩,⟨⟨_,rfl,rfl,rfl⟩,⟨⟨_,rfl,rfl,rfl⟩,⟨⟨_,rfl,rfl,rfl⟩,⟨⟨_,rfl,rfl,rfl⟩,trivial⟩⟩⟩⟩⟩⟩ (Mu k Z a1 true A _ jf) ?_);rintro _ _ _ ⟨rfl,rfl,rfl⟩;refine⟨_,_,rfl,rfl,?_⟩;cases I;exact qf [0] []
def UG (k:Nat) (A:aE) (a1:Int):Option (Bool×aE):=
(CO k a1 20 A).bind λ r1=>
some (r1.1,r1.2)
theorem L58 (k:Nat) (A:aE) (a1:Int) (r:Bool×aE) (I:UG k A a1=some r):PF Try.prog fK 58 [E 0,g a1] [R0 A] [] (λ p fr tk=>p=vB r.1/\fr=[R0 r.2]/\tk=[]):=by
 unfold UG at I;refine qP Try.func58 ?_;refine qr 2 ?_;refine qL 5 ?_;refine aq I λ r1 e2 I=>qG [0] [] (T7 k a1 20 A _ e2) ⟨⟨_,rfl,rfl,rfl⟩,trivial⟩ ?_;refine qN 1 ?_;cases I;exact .cS (qf [0] [])
def Q1 (k:Nat) (A:au):Option Bool:=
Option.bind (α:=Bool) (bif A.aM == 4 then(some (decide (A.value<=(-10000)))) else(some false)) λ(v1:Bool)=>
some v1
theorem L75 (k:Nat) (A:au) (r:Bool) (I:Q1 k A=some r):PF Try.prog fK 75 [.agg (dn A)] [] [] (λ p fr tk=>p=vB r/\fr=[]/\tk=[]):=by
 unfold Q1 at I;refine qP Try.func75 ?_;refine .region (qX 2 [0] [] [(1,E 0),(2,vB false)] [R4 A] [] ?_);refine qL 4 ?_;refine aq I λ x1 e2 I=>PO.cut 4 (cu (λ v1=>PS.of 11 [(2,vB false),(10,vB v1)] [] [] 0 0) x1) ?_ ?_
 ·refine qC 6 e2 (λ e2=>?_) λ e2=>?_
  ·refine qN 4 ?_;exact⟨decide (A.value<=(-10000)),qw [] [],qs e2⟩
  exact qW 4 false [] [] e2
 rintro _ ⟨v1,w4,rfl⟩;refine w4.o (qN 1 ?_);cases I;exact .cS (qf [] [])
def dU (k:Nat) (A:List au):Nat->Int->Option ((Unit) ⊕ (Int))
  | 0,_=>none
  | j3+1,v2=>
    bif decide (v2 < (A.length:Int)) then(bp A v2 λ y4=>
    (Q1 k y4).bind λ r8=>
    bif r8 then(some (.inr v2)) else(dU k A j3 (w (v2+1)))) else(some (.inl ()))
def wH (k:Nat) (A:List au):Option Int:=
Option.bind (α:=(Unit) ⊕ (Int)) (dU k A k 0) (Sum.elim (λ(_:Unit)=>
some (-1)) some)
theorem T8 (k:Nat) (A:List au) (r:Int) (I:wH k A=some r):PF Try.prog fK 90 [lI A,.fn 75 [] []] [] [] (λ p fr tk=>p=g r/\fr=[]/\tk=[]):=by
 unfold wH at I;refine qP Try.func90 ?_;refine qr 2 ?_;refine qM 1 ?_;refine qS gM ?_;refine qN 1 ?_;refine aq I λ x1 e2 I=>PC.bQ (λ s=>bc s (PS.of 19 [(4,g 0)] [] [] 0 0)/\.inl ()=x1) ?_ ?_
 ·refine PC.loop (λ j3 s=>∃ (v2:Int),bc s (PS.of 19 [(0,lI A),(1,.fn 75 [] []),(4,g 0),(7,g (A.length:Int)),(8,g v2)] [] [] 0 0)/\dU k A j3 v2=some x1) (λ j3 s=>?_) k ⟨0,qw [] [],e2⟩;rintro⟨v2,w4,e2⟩;refine w4.c ?_;obtain _ | j3:=j3
  · rw[dU] at e2; cases e2
  rw[dU] at e2;refine qr 2 ?_;refine qD e2 (λ e2=>?_) λ e2=>?_
  ·refine .aZ (PC.block ?_);refine qr 3 ?_;refine qL 3 ?_;refine qI gM e2 λ y4 e2=>?_;refine qR 1 ?_;refine aq e2 λ r8 e9 e2=>?_;refine PO.xw rfl rfl rfl rfl rfl (ks:=[]) (ts:=[]) (fr1:=[]) rfl rfl rfl trivial (L75 k y4 _ e9) ?_;rintro _ _ _ ⟨rfl,rfl,rfl⟩;refine⟨_,_,rfl,rfl,?_⟩;refine .nil (.lone (qD e2 (λ e2=>?_) λ e2=>?_))
   ·refine qK 3 ?_;cases e2;cases I;exact .ret (bk.ct (bh.ret (aC.ct (qf [] []))))
   refine .aZ (PC.skip (bk.end ?_));refine .lone (qr 3 ?_);exact .skip (bh.mk (Nat.lt_succ_self _) ⟨w (v2+1),qw [] [],e2⟩)
  exact .exit (bh.exit (aC.eF ⟨qw [] [],qs e2⟩))
 rintro _ ⟨FY,rfl⟩;refine FY.c ?_;have I:=fD I;refine qr 2 ?_;cases I;exact .cS (qf [] [])
def nq (k:Nat) (A:List au):Option Bool:=
(wH k A).bind λ r1=>
some (decide (r1>=0))
theorem T9 (k:Nat) (A:List au) (r:Bool) (I:nq k A=some r):PF Try.prog fK 74 [lI A,.fn 75 [] []] [] [] (λ p fr tk=>p=vB r/\fr=[]/\tk=[]):=by
 unfold nq at I;refine qP Try.func74 ?_;refine qr 2 ?_;refine qL 2 ?_;refine aq I λ r1 e2 I=>qG [] [] (T8 k A _ e2) trivial ?_;refine qN 2 ?_;cases I;exact .cS (qf [] [])
def Kt (k:Nat) (A:Int):Option Int:=
some (if 10000 < w (Int.tdiv (w ((w (A * A)) * A)) 10000) then 10000 else w (Int.tdiv (w ((w (A * A)) * A)) 10000))
theorem L91 (k:Nat) (A:Int) (r:Int) (I:Kt k A=some r):PF Try.prog fK 91 [g A] [] [] (λ p fr tk=>p=g r/\fr=[]/\tk=[]):=by
 unfold Kt at I;refine qP Try.func91 ?_;refine qr 2 ?_;refine qr 9 ?_;cases I;exact .cS (qf [] [])
def F1 (k:Nat) (A:bI):Option bI:=
Option.bind (α:=Int×Int×Bool) (Option.bind (α:=Bool) (bif decide (A.aN < 0) then(some (decide (A.aN < (w (0 - A.aF))))) else(some false)) λ(v4:Bool)=>
bif v4 then(some (10000,0,true)) else(Option.bind (α:=Bool) (bif A.aN == 0 then(some true) else(Option.bind (α:=Bool) (bif decide (A.aN > 0) then(some A.c7) else(some false)) λ(v6:Bool)=>
some v6)) λ(v5:Bool)=>
bif v5 then(some (0,1,A.bB)) else(bif decide (A.aN < 0) then(rT A.aF ((Kt k (w (Int.tdiv (w (100 * (w (0 - A.aN)))) A.aF))).bind λ AL=>
bif decide ((w (Int.tdiv (w (100 * (w (0 - A.aN)))) A.aF)) > 50) then(some (AL,0,A.bB)) else(some (AL,1,A.bB)))) else(bif A.aw == 0 then(some (10000,3,A.bB)) else(rT A.aw ((Kt k (if 1000 < w (Int.tdiv (w (100 * A.aN)) A.aw) then 1000 else w (Int.tdiv (w (100 * A.aN)) A.aw))).bind λ bV=>
bif decide ((if 1000 < w (Int.tdiv (w (100 * A.aN)) A.aw) then 1000 else w (Int.tdiv (w (100 * A.aN)) A.aw))<=50) then(some (bV,1,A.bB)) else(bif decide ((if 1000 < w (Int.tdiv (w (100 * A.aN)) A.aw) then 1000 else w (Int.tdiv (w (100 * A.aN)) A.aw))<=100) then(some (bV,2,A.bB)) else(some (bV,3,A.bB))))))))) λ(v1,v2,v3)=>
some (bI.mk A.first A.bL A.bf A.bt A.aw A.aF A.aN v1 v2 v3 A.bx A.c7 A.aD A.depth)
theorem L76 (k:Nat) (A:bI) (r:bI) (I:F1 k A=some r):PF Try.prog fK 76 [E 0] [R5 A] [] (λ p fr tk=>p=.fX []/\fr=[R5 r]/\tk=[]):=by
 unfold F1 at I;refine qP Try.func76 ?_;refine qr 2 ?_;refine .lone (aq I λ x1 e2 I=>PC.bQ (λ s=>∃ (v1:Int) (v2:Int) (v3:Bool),bc s (PS.of 130 [] [UC A.first A.bL A.bf A.bt A.aw A.aF A.aN v1 v2 v3 A.bx A.c7 A.aD A.depth] [] 1 0)/\(v1,v2,v3)=x1) ?_ ?_)
 ·refine qo [0,1,2,3,4,5,6,7,8,9,10,11,12,13,14,15,16,17] ?_;refine qR 6 ?_;refine aq e2 λ x3 e4 e2=>PO.cut 11 (cu (λ v4=>PS.of 130 [(0,E 0),(2,.fn 91 [] []),(52,vB v4)] [R5 A] [] 1 0) x3) ?_ ?_
  ·refine qC 41 e4 (λ e4=>?_) λ e4=>?_
   ·refine qN 11 ?_;exact⟨decide (A.aN < (w (0 - A.aF))),qw [0] [],qs e4⟩
   exact qW 11 false [0] [] e4
  rintro _ ⟨v4,w6,rfl⟩;refine w6.o (qN 1 ?_);refine .lone (qD e2 (λ e2=>?_) λ e2=>?_)
  ·refine .region (qX 12 [0] [] [] [⟨0,[g A.first,g A.bL,g A.bf,g A.bt,g A.aw,g A.aF,g A.aN,g 10000,g 0,vB true,vB A.bx,vB A.c7,g A.aD,g A.depth]⟩] [] ?_);exact .skip (aC.end ⟨10000,0,true,qw [0] [],qs e2⟩)
  refine qM 6 ?_;refine aq e2 λ x8 e9 e2=>PO.cut 12 (cu (λ v5=>PS.of 130 [(0,E 0),(2,.fn 91 [] []),(80,vB v5)] [R5 A] [] 1 0) x8) ?_ ?_
  ·refine qC 68 e9 (λ e9=>?_) λ e9=>?_
   ·exact qW 12 true [0] [] e9
   refine qR 6 ?_;refine aq e9 λ Dz nM e9=>PO.cut 6 (cu (λ v6=>PS.of 130 [(0,E 0),(2,.fn 91 [] []),(80,vB v6)] [R5 A] [] 1 0) Dz) ?_ ?_
   ·refine qC 74 nM (λ nM=>?_) λ nM=>?_
    ·exact qW 6 A.c7 [0] [] nM
    exact qW 6 false [0] [] nM
   rintro _ ⟨v6,OK,rfl⟩;refine OK.on ?_;exact⟨v6,qw [0] [],qs e9⟩
  rintro _ ⟨v5,KV,rfl⟩;refine KV.o (qN 1 ?_);refine qD e2 (λ e2=>?_) λ e2=>?_
  ·refine .region (qX 8 [0] [] [] [⟨0,[g A.first,g A.bL,g A.bf,g A.bt,g A.aw,g A.aF,g A.aN,g 0,g 1,vB A.bB,vB A.bx,vB A.c7,g A.aD,g A.depth]⟩] [] ?_);exact .skip (aC.end ⟨0,1,A.bB,qw [0] [],qs e2⟩)
  refine qK 7 ?_;refine qD e2 (λ e2=>?_) λ e2=>?_
  ·refine .eP (qo [0,1,2,3,4,5,6,7,8,9,10,11] ?_);refine qR 10 ?_;refine CM e2 λ h18 e2=>PO.aX rfl (CH rfl rfl h18) rfl ?_;refine qN 1 ?_;refine qM 4 ?_;refine aq e2 λ AL tM e2=>?_;refine PO.xw rfl rfl rfl rfl rfl (ks:=[]) (ts:=[]) (fr1:=[]) rfl rfl rfl trivial (L91 k (w (Int.tdiv (w (100 * (w (0 - A.aN)))) A.aF)) _ tM) ?_;rintro _ _ _ ⟨rfl,rfl,rfl⟩;refine⟨_,_,rfl,rfl,?_⟩;refine qX 6 [0] [] [(0,E 0),(3,g (w (Int.tdiv (w (100 * (w (0 - A.aN)))) A.aF)))] [⟨0,[g A.first,g A.bL,g A.bf,g A.bt,g A.aw,g A.aF,g A.aN,g AL,g 1,vB A.bB,vB A.bx,vB A.c7,g A.aD,g A.depth]⟩] [] ?_;refine qK 3 ?_;refine qD e2 (λ e2=>?_) λ e2=>?_
   ·refine .region (qX 4 [0] [] [] [⟨0,[g A.first,g A.bL,g A.bf,g A.bt,g A.aw,g A.aF,g A.aN,g AL,g 0,vB A.bB,vB A.bx,vB A.c7,g A.aD,g A.depth]⟩] [] ?_);exact .skip (aC.end ⟨AL,0,A.bB,qw [0] [],qs e2⟩)
   exact .aZ (PC.skip (aC.end ⟨AL,1,A.bB,qw [0] [],qs e2⟩))
  refine qK 7 ?_;refine qD e2 (λ e2=>?_) λ e2=>?_
  ·refine .region (qX 8 [0] [] [] [⟨0,[g A.first,g A.bL,g A.bf,g A.bt,g A.aw,g A.aF,g A.aN,g 10000,g 3,vB A.bB,vB A.bx,vB A.c7,g A.aD,g A.depth]⟩] [] ?_);exact .skip (aC.end ⟨10000,3,A.bB,qw [0] [],qs e2⟩)
  refine .eP (qo [0,1,2,3,4,5,6,7,8,9,10,11] ?_);refine qR 9 ?_;refine CM e2 λ Wg e2=>PO.aX rfl (CH rfl rfl Wg) rfl ?_;refine qN 2 ?_;refine qM 4 ?_;refine aq e2 λ bV yT e2=>?_;refine PO.xw rfl rfl rfl rfl rfl (ks:=[]) (ts:=[]) (fr1:=[]) rfl rfl rfl trivial (L91 k (if 1000 < w (Int.tdiv (w (100 * A.aN)) A.aw) then 1000 else w (Int.tdiv (w (100 * A.aN)) A.aw)) _ yT) ?_;rintro _ _ _ ⟨rfl,rfl,rfl⟩;refine⟨_,_,rfl,rfl,?_⟩;refine qX 6 [0] [] [(0,E 0),(4,g (if 1000 < w (Int.tdiv (w (100 * A.aN)) A.aw) then 1000 else w (Int.tdiv (w (100 * A.aN)) A.aw)))] [⟨0,[g A.first,g A.bL,g A.bf,g A.bt,g A.aw,g A.aF,g A.aN,g bV,g 3,vB A.bB,vB A.bx,vB A.c7,g A.aD,g A.depth]⟩] [] ?_;refine qK 3 ?_;refine qD e2 (λ e2=>?_) λ e2=>?_
  ·refine .region (qX 4 [0] [] [] [⟨0,[g A.first,g A.bL,g A.bf,g A.bt,g A.aw,g A.aF,g A.aN,g bV,g 1,vB A.bB,vB A.bx,vB A.c7,g A.aD,g A.depth]⟩] [] ?_);exact .skip (aC.end ⟨bV,1,A.bB,qw [0] [],qs e2⟩)
  refine qK 3 ?_;refine qD e2 (λ e2=>?_) λ e2=>?_
  ·refine .region (qX 4 [0] [] [] [⟨0,[g A.first,g A.bL,g A.bf,g A.bt,g A.aw,g A.aF,g A.aN,g bV,g 2,vB A.bB,vB A.bx,vB A.c7,g A.aD,g A.depth]⟩] [] ?_);exact .skip (aC.end ⟨bV,2,A.bB,qw [0] [],qs e2⟩)
  exact .aZ (PC.skip (aC.end ⟨bV,3,A.bB,qw [0] [],qs e2⟩))
 rintro _ ⟨v1,v2,v3,Sq,rfl⟩;refine Sq.c ?_;cases I;exact .skip (HN [0] [] (by kernel_rfl) (.refl _) ⟨rfl,rfl,rfl⟩)
def ns (k:Nat) (A:List au) (a3:Int):Nat->Int->Option Int
  | 0,_=>none
  | j3+1,v3=>
    Option.bind (α:=Bool) (bif decide (v3 < a3) then(bp A v3 λ y6=>
    some (y6.aM != 1)) else(some false)) λ(v5:Bool)=>
    bif v5 then(ns k A a3 j3 (w (v3+1))) else(some v3)
def nt (k:Nat) (A:List au) (v1:Int):Nat->Int->Option Int
  | 0,_=>none
  | IN+1,v9=>
    Option.bind (α:=Bool) (bif decide (v9 > v1) then(bp A (w (v9 - 1)) λ AW=>
    some (AW.aM != 1)) else(some false)) λ(v11:Bool)=>
    bif v11 then(nt k A v1 IN (w (v9 - 1))) else(some v9)
def kj (k:Nat) (uJ:List au):Nat->Int->Int->Int->Int->Int->Int->Option (Int×Int×Int×Int×Int)
  | 0,_,_,_,_,_,_=>none
  | IP+1,iz,iQ,kO,cQ,j8,v30=>
    bif decide (iz < (uJ.length:Int)) then(bp uJ iz λ mz=>
    Option.bind (α:=Int×Int×Int×Int×Int) (bif mz.aM == 1 then(some (w (iQ+mz.aB),kO,cQ,(if mz.aD > j8 then mz.aD else j8),(if mz.depth > v30 then mz.depth else v30))) else(bif mz.aM == 2 then(some (w (iQ+mz.aB),kO,cQ,j8,v30)) else(bif mz.aM == 3 then(some (w (iQ+mz.aB),w (kO+mz.aw),w (cQ+mz.aF),j8,v30)) else(some (iQ,kO,cQ,j8,v30))))) λ(jM,lG,jE,iR,FE)=>
    kj k uJ IP (w (iz+1)) jM lG jE iR FE) else(some (iQ,kO,cQ,j8,v30))
def DD (k:Nat) (A:List au) (a1:Int) (Z:Int) (a3:Int):Option bI:=
Option.bind (α:=Int) (ns k A a3 k (w (Z+1))) λ(v1:Int)=>
Option.bind (α:=Int) (nt k A v1 k a3) λ(v7:Int)=>
lS A v1 v7 λ uJ=>
Option.bind (α:=Int×Int×Int×Int×Int) (kj k uJ k 0 0 0 0 0 0) λ(gU,iP,iM,gV,nH)=>
bp A a3 λ eA=>
Option.bind (α:=Int×Bool×Bool×Int×Int) (bif eA.aM == 4 then((Q1 k eA).bind λ KW=>
bif eA.cR then(some (w (gU+eA.aB),eA.cR,KW,(if eA.aD > gV then eA.aD else gV),(if eA.depth > nH then eA.depth else nH))) else(some (w (gU+eA.aB),eA.cR,KW,gV,nH))) else(some (gU,false,false,gV,nH))) λ(AY,F4,F5,F6,rA)=>
(F1 k (bI.mk v1 v7 a3 AY iP iM (w (a1 - AY)) 0 0 false F4 F5 F6 rA)).bind λ nI=>
some nI
theorem L51 (k:Nat) (A:List au) (a1:Int) (Z:Int) (a3:Int) (r:bI) (I:DD k A a1 Z a3=some r):PF Try.prog fK 51 [lI A,g a1,g Z,g a3] [] [] (λ p fr tk=>p=.agg (gP r)/\fr=[]/\tk=[]):=by
 unfold DD at I;refine qP Try.func51 ?_;refine .region (qX 1 [0] [] [(0,lI A),(1,g a1),(2,g Z),(3,g a3),(8,E 0)] [R6] [] ?_);refine .region (qX 7 [0,1] [] [(0,lI A),(1,g a1),(3,g a3),(8,E 0),(9,E 1)] [R6,Dy (w (Z+1)) a3 a3] [] ?_);refine aq I λ x1 e2 I=>PC.bQ (λ s=>∃ (v1:Int),bc s (PS.of 156 [(0,lI A),(1,g a1),(3,g a3),(8,E 0),(9,E 1)] [R6,Dy v1 a3 a3] [] 0 0)/\v1=x1) ?_ ?_
 ·refine PC.loop (λ j3 s=>∃ (v3:Int),bc s (PS.of 156 [(0,lI A),(1,g a1),(3,g a3),(8,E 0),(9,E 1)] [R6,Dy v3 a3 a3] [] 0 0)/\ns k A a3 j3 v3=some x1) (λ j3 s=>?_) k ⟨w (Z+1),qw [0,1] [],e2⟩;rintro⟨v3,w4,e2⟩;refine w4.c ?_;obtain _ | j3:=j3
  · rw[ns] at e2; cases e2
  rw[ns] at e2;refine qM 5 ?_;refine aq e2 λ x5 e6 e2=>PO.cut 8 (cu (λ v5=>PS.of 156 [(0,lI A),(1,g a1),(3,g a3),(8,E 0),(9,E 1),(30,vB v5)] [R6,Dy v3 a3 a3] [] 0 0) x5) ?_ ?_
  ·refine qC 22 e6 (λ e6=>?_) λ e6=>?_
   ·refine qR 3 ?_;refine qI gM e6 λ y6 e6=>?_;refine qN 4 ?_;exact⟨y6.aM != 1,qw [0,1] [],qs e6⟩
   exact qW 8 false [0,1] [] e6
  rintro _ ⟨v5,OB,rfl⟩;refine OB.on (qD e2 (λ e2=>?_) λ e2=>?_)
  ·refine .aZ (.lone (PC.block ?_));refine .lone (.region (qX 5 [0,1] [] [(0,lI A),(1,g a1),(3,g a3),(8,E 0),(9,E 1)] [R6,Dy (w (v3+1)) a3 a3] [] ?_));refine .skip (bk.end ?_);exact .skip (bh.mk (Nat.lt_succ_self _) ⟨w (v3+1),qw [0,1] [],e2⟩)
  exact .exit (bh.exit (aC.eF ⟨v3,qw [0,1] [],qs e2⟩))
 rintro _ ⟨v1,FZ,rfl⟩;refine FZ.c (aq I λ xV fB I=>PC.bQ (λ s=>∃ (v7:Int),bc s (PS.of 156 [(0,lI A),(1,g a1),(3,g a3),(8,E 0),(9,E 1)] [R6,Dy v1 v7 a3] [] 0 0)/\v7=xV) ?_ ?_)
 ·refine PC.loop (λ IN s=>∃ (v9:Int),bc s (PS.of 156 [(0,lI A),(1,g a1),(3,g a3),(8,E 0),(9,E 1)] [R6,Dy v1 v9 a3] [] 0 0)/\nt k A v1 IN v9=some xV) (λ IN s=>?_) k ⟨a3,qw [0,1] [],fB⟩;rintro⟨v9,Ca,fB⟩;refine Ca.c ?_;obtain _ | IN:=IN
  · rw[nt] at fB; cases fB
  rw[nt] at fB;refine qM 6 ?_;refine aq fB λ FD kG fB=>PO.cut 9 (cu (λ v11=>PS.of 156 [(0,lI A),(1,g a1),(3,g a3),(8,E 0),(9,E 1),(49,vB v11)] [R6,Dy v1 v9 a3] [] 0 0) FD) ?_ ?_
  ·refine qC 40 kG (λ kG=>?_) λ kG=>?_
   ·refine qR 4 ?_;refine qI gM kG λ AW kG=>?_;refine qN 4 ?_;exact⟨AW.aM != 1,qw [0,1] [],qs kG⟩
   exact qW 9 false [0,1] [] kG
  rintro _ ⟨v11,OH,rfl⟩;refine OH.on (qD fB (λ fB=>?_) λ fB=>?_)
  ·refine .aZ (.lone (PC.block ?_));refine .lone (.region (qX 5 [0,1] [] [(0,lI A),(1,g a1),(3,g a3),(8,E 0),(9,E 1)] [R6,Dy v1 (w (v9 - 1)) a3] [] ?_));refine .skip (bk.end ?_);exact .skip (bh.mk (Nat.lt_succ_self _) ⟨w (v9 - 1),qw [0,1] [],fB⟩)
  exact .exit (bh.exit (aC.eF ⟨v9,qw [0,1] [],qs fB⟩))
 rintro _ ⟨v7,Sk,rfl⟩;refine Sk.c (qM 5 ?_);refine CL I λ h25 Y7 Y8 I=>?_;generalize Ya:(List.take (Int.toNat v7) A).drop (Int.toNat v1)=uJ at I;refine PO.aX rfl (vy (l2:=List.map dn uJ) gM rfl rfl (.some rfl h25 rfl) (.some rfl (Int.le_trans h25 Y7) rfl) (Int.toNat_le_toNat Y7) (sZ Y8) (by rw[<- Ya,List.map_drop,List.map_take] <;> first | rfl | simp[w])) rfl ?_;refine qS gM ?_;refine qN 1 ?_;refine aq I λ KX j7 I=>PC.bQ (λ s=>∃ (gU:Int) (iP:Int) (iM:Int) (gV:Int) (nH:Int),bc s (PS.of 156 [(0,lI A),(1,g a1),(3,g a3),(8,E 0),(9,E 1)] [R6,uQ v1 v7 a3 gU iP iM gV nH] [] 0 0)/\(gU,iP,iM,gV,nH)=KX) ?_ ?_
 ·refine PC.loop (λ IP s=>∃ (iz:Int) (iQ:Int) (kO:Int) (cQ:Int) (j8:Int) (v30:Int),bc s (PS.of 156 [(0,lI A),(1,g a1),(3,g a3),(8,E 0),(9,E 1),(59,lI uJ),(60,g (uJ.length:Int)),(61,g iz)] [R6,uQ v1 v7 a3 iQ kO cQ j8 v30] [] 0 0)/\kj k uJ IP iz iQ kO cQ j8 v30=some KX) (λ IP s=>?_) k ⟨0,0,0,0,0,0,qw [0,1] [],j7⟩;rintro⟨iz,iQ,kO,cQ,j8,v30,IQ,j7⟩;refine IQ.c ?_;obtain _ | IP:=IP
  · rw[kj] at j7; cases j7
  rw[kj] at j7;refine qr 2 ?_;refine qD j7 (λ j7=>?_) λ j7=>?_
  ·refine .aZ (PC.block ?_);refine .region (qI gM j7 λ mz j7=>?_);refine qX 3 [0,1,2] [] [(0,lI A),(1,g a1),(3,g a3),(8,E 0),(9,E 1),(11,E 2),(59,lI uJ),(60,g (uJ.length:Int)),(61,g iz)] [R6,uQ v1 v7 a3 iQ kO cQ j8 v30,R4 mz] [] ?_;refine qr 3 ?_;refine .lone (aq j7 λ V5 te j7=>PC.bQ (λ s=>∃ (jM:Int) (lG:Int) (jE:Int) (iR:Int) (FE:Int),bc s (PS.of 156 [(0,lI A),(1,g a1),(3,g a3),(8,E 0),(9,E 1),(59,lI uJ),(60,g (uJ.length:Int)),(61,g iz)] [R6,uQ v1 v7 a3 jM lG jE iR FE] [] 0 0)/\(jM,lG,jE,iR,FE)=V5) ?_ ?_)
   ·refine qr 3 ?_;refine .lone (qD te (λ te=>?_) λ te=>?_)
    ·refine qJ ?_;refine qX 7 [0,1,2] [] [(0,lI A),(1,g a1),(3,g a3),(8,E 0),(9,E 1),(11,E 2),(59,lI uJ),(60,g (uJ.length:Int)),(61,g iz)] [R6,uQ v1 v7 a3 (w (iQ+mz.aB)) kO cQ j8 v30,R4 mz] [] ?_;refine PC.pK [0,1,2,3,4,5,6,10,11,7,8,9,12,13] (by kernel_rfl) ?_;refine qd 9 [7,8,9,12,13] ⟨3199,3199,1151,[(11,[1],false)]⟩ [(0,lI A),(1,g a1),(3,g a3),(8,E 0),(9,E 1),(11,E 2),(59,lI uJ),(60,g (uJ.length:Int)),(61,g iz),(81,g v30)] [R6,uQ v1 v7 a3 (w (iQ+mz.aB)) kO cQ (if mz.aD > j8 then mz.aD else j8) v30,R4 mz] [] ?_;refine qd 5 [] ⟨16383,16383,8191,[(13,[1],false),(11,[1,1],false)]⟩ [(0,lI A),(1,g a1),(3,g a3),(8,E 0),(9,E 1),(59,lI uJ),(60,g (uJ.length:Int)),(61,g iz)] [R6,uQ v1 v7 a3 (w (iQ+mz.aB)) kO cQ (if mz.aD > j8 then mz.aD else j8) (if mz.depth > v30 then mz.depth else v30),R4 mz] [] ?_;refine PD.done [0,1] [] (es:=[(0,lI A),(1,g a1),(3,g a3),(8,E 0),(9,E 1),(59,lI uJ),(60,g (uJ.length:Int)),(61,g iz)]) (fr':=[R6,uQ v1 v7 a3 (w (iQ+mz.aB)) kO cQ (if mz.aD > j8 then mz.aD else j8) (if mz.depth > v30 then mz.depth else v30)]) (tk':=[]) (by kernel_rfl) (by kernel_rfl) ?_;exact .skip (aC.end ⟨w (iQ+mz.aB),kO,cQ,(if mz.aD > j8 then mz.aD else j8),(if mz.depth > v30 then mz.depth else v30),qw [0,1] [],qs te⟩)
    refine qK 3 ?_;refine qD te (λ te=>?_) λ te=>?_
    ·refine .region (qX 7 [0,1] [] [(0,lI A),(1,g a1),(3,g a3),(8,E 0),(9,E 1),(59,lI uJ),(60,g (uJ.length:Int)),(61,g iz)] [R6,uQ v1 v7 a3 (w (iQ+mz.aB)) kO cQ j8 v30] [] ?_);exact .skip (aC.end ⟨w (iQ+mz.aB),kO,cQ,j8,v30,qw [0,1] [],qs te⟩)
    refine qK 3 ?_;refine qD te (λ te=>?_) λ te=>?_
    ·refine qJ ?_;refine qX 7 [0,1,2] [] [(0,lI A),(1,g a1),(3,g a3),(8,E 0),(9,E 1),(11,E 2),(59,lI uJ),(60,g (uJ.length:Int)),(61,g iz)] [R6,uQ v1 v7 a3 (w (iQ+mz.aB)) kO cQ j8 v30,R4 mz] [] ?_;refine qJ ?_;refine qX 7 [0,1,2] [] [(0,lI A),(1,g a1),(3,g a3),(8,E 0),(9,E 1),(11,E 2),(59,lI uJ),(60,g (uJ.length:Int)),(61,g iz)] [R6,uQ v1 v7 a3 (w (iQ+mz.aB)) (w (kO+mz.aw)) cQ j8 v30,R4 mz] [] ?_;refine .region (qX 7 [0,1] [] [(0,lI A),(1,g a1),(3,g a3),(8,E 0),(9,E 1),(59,lI uJ),(60,g (uJ.length:Int)),(61,g iz)] [R6,uQ v1 v7 a3 (w (iQ+mz.aB)) (w (kO+mz.aw)) (w (cQ+mz.aF)) j8 v30] [] ?_);exact .skip (aC.end ⟨w (iQ+mz.aB),w (kO+mz.aw),w (cQ+mz.aF),j8,v30,qw [0,1] [],qs te⟩)
    exact .aZ (PC.skip (aC.end ⟨iQ,kO,cQ,j8,v30,qw [0,1] [],qs te⟩))
   rintro _ ⟨jM,lG,jE,iR,FE,w40,rfl⟩;refine w40.c (PC.skip (bk.end ?_));refine .lone (qr 3 ?_);exact .skip (bh.mk (Nat.lt_succ_self _) ⟨w (iz+1),jM,lG,jE,iR,FE,qw [0,1] [],j7⟩)
  exact .exit (bh.exit (aC.eF ⟨iQ,kO,cQ,j8,v30,qw [0,1] [],qs j7⟩))
 rintro _ ⟨gU,iP,iM,gV,nH,w41,rfl⟩;refine w41.c (qM 2 ?_);refine qI gM I λ eA I=>?_;refine qX 3 [0,1,2] [] [(1,g a1),(8,E 0),(9,E 1),(12,E 2)] [R6,uQ v1 v7 a3 gU iP iM gV nH,R4 eA] [] ?_;refine qK 4 ?_;refine aq I λ x44 Cb I=>PC.mh (λ s=>∃ (AY:Int) (F4:Bool) (F5:Bool) (F6:Int) (rA:Int),bc s (PS.of 156 [(1,g a1),(8,E 0),(9,E 1)] [R6,IL v1 v7 a3 AY iP iM F4 F5 F6 rA] [] 0 0)/\(AY,F4,F5,F6,rA)=x44) ?_ ?_
 ·refine qD Cb (λ Cb=>?_) λ Cb=>?_
  ·refine qJ ?_;refine qX 7 [0,1,2] [] [(1,g a1),(8,E 0),(9,E 1),(12,E 2)] [R6,uQ v1 v7 a3 (w (gU+eA.aB)) iP iM gV nH,R4 eA] [] ?_;refine .eP (PC.pK [2,3,0,1,4,5,6,7] (by kernel_rfl) ?_);refine qd 1 [3,0,1,4,5,6,7] ⟨4,0,0,[]⟩ [(1,g a1),(8,E 0),(9,E 1),(12,E 2),(131,.agg (dn eA))] [R6,uQ v1 v7 a3 (w (gU+eA.aB)) iP iM gV nH,R4 eA] [] ?_;refine aq Cb λ KW OL Cb=>?_;refine PD.call rfl rfl (by kernel_rfl) rfl rfl rfl (ks:=[]) (ts:=[]) (fr1:=[]) rfl rfl rfl trivial (L75 k eA _ OL) ?_;rintro _ _ _ ⟨rfl,rfl,rfl⟩;refine⟨_,_,rfl,rfl,?_⟩;refine qd 4 [6,7] ⟨63,63,31,[(5,[1],false),(3,[1],true)]⟩ [(1,g a1),(8,E 0),(9,E 1),(12,E 2),(132,vB KW)] [R6,⟨0,[g v1,g v7,g a3,g (w (gU+eA.aB)),g iP,g iM,g 0,g 0,g 0,vB false,vB eA.cR,vB false,g gV,g nH]⟩,R4 eA] [] ?_;refine qd 2 [] ⟨255,255,127,[(7,[1],false),(5,[1,1],false),(3,[1,1],true)]⟩ [(1,g a1),(8,E 0),(9,E 1),(12,E 2)] [R6,IL v1 v7 a3 (w (gU+eA.aB)) iP iM eA.cR KW gV nH,R4 eA] [] ?_;refine PD.done [0,1,2] [] (es:=[(1,g a1),(8,E 0),(9,E 1),(12,E 2)]) (fr':=[R6,IL v1 v7 a3 (w (gU+eA.aB)) iP iM eA.cR KW gV nH,R4 eA]) (tk':=[]) (by kernel_rfl) (by kernel_rfl) ?_;refine qK 3 ?_;refine qD Cb (λ Cb=>?_) λ Cb=>?_
   ·refine PC.pK [0,1,2,3,4,5,6,10,11,7,8,9,12,13] (by kernel_rfl) ?_;refine qd 9 [7,8,9,12,13] ⟨3199,3199,1151,[(11,[1],false)]⟩ [(1,g a1),(8,E 0),(9,E 1),(12,E 2),(143,g nH)] [R6,IL v1 v7 a3 (w (gU+eA.aB)) iP iM eA.cR KW (if eA.aD > gV then eA.aD else gV) nH,R4 eA] [] ?_;refine qd 5 [] ⟨16383,16383,8191,[(13,[1],false),(11,[1,1],false)]⟩ [(1,g a1),(8,E 0),(9,E 1)] [R6,IL v1 v7 a3 (w (gU+eA.aB)) iP iM eA.cR KW (if eA.aD > gV then eA.aD else gV) (if eA.depth > nH then eA.depth else nH),R4 eA] [] ?_;refine PD.done [0,1] [] (es:=[(1,g a1),(8,E 0),(9,E 1)]) (fr':=[R6,IL v1 v7 a3 (w (gU+eA.aB)) iP iM eA.cR KW (if eA.aD > gV then eA.aD else gV) (if eA.depth > nH then eA.depth else nH)]) (tk':=[]) (by kernel_rfl) (by kernel_rfl) ?_;exact .skip (bR.end ⟨w (gU+eA.aB),eA.cR,KW,(if eA.aD > gV then eA.aD else gV),(if eA.depth > nH then eA.depth else nH),qw [0,1] [],qs Cb⟩)
   exact .aZ (PC.skip (bR.end ⟨w (gU+eA.aB),eA.cR,KW,gV,nH,qw [0,1] [],qs Cb⟩))
  exact .aZ (PC.skip (bR.end ⟨gU,false,false,gV,nH,qw [0,1] [],qs Cb⟩))
 rintro _ ⟨AY,F4,F5,F6,rA,w50,rfl⟩;refine w50.c (.region (qX 6 [0,1] [] [(8,E 0),(9,E 1)] [R6,⟨0,[g v1,g v7,g a3,g AY,g iP,g iM,g (w (a1 - AY)),g 0,g 0,vB false,vB F4,vB F5,g F6,g rA]⟩] [] ?_));refine .region (aq I λ nI e52 I=>qG [1] [] (L76 k (bI.mk v1 v7 a3 AY iP iM (w (a1 - AY)) 0 0 false F4 F5 F6 rA) _ e52) ⟨⟨_,rfl,rfl,rfl⟩,trivial⟩ ?_);refine .nil (.region (qX 2 [0] [] [(8,E 0)] [R5 nI] [] ?_));cases I;exact .cS (qf [] [])
def AZ (k:Nat) (A:List au) (a1:Int) (Z:Int) (a3:Int):Option (bI×Int):=
(DQ k A).bind λ r1=>
Option.bind (α:=Bool) (bif r1 != 0 then(some true) else(Option.bind (α:=Bool) (bif decide (a1 < 1) then(some true) else(Option.bind (α:=Bool) (bif decide (a1 > 536870912) then(some true) else(Option.bind (α:=Bool) (bif decide (Z < (-1)) then(some true) else(Option.bind (α:=Bool) (bif decide (Z>=a3) then(some true) else(Option.bind (α:=Bool) (bif decide (a3>=(A.length:Int)) then(some true) else((DO k A a3).bind λ jk=>
Option.bind (α:=Bool) (bif !jk then(some true) else(Option.bind (α:=Bool) (bif decide (Z>=0) then((DO k A Z).bind λ DE=>
some (!DE)) else(some false)) λ(v8:Bool)=>
some v8)) λ(v7:Bool)=>
some v7)) λ(v6:Bool)=>
some v6)) λ(v5:Bool)=>
some v5)) λ(v4:Bool)=>
some v4)) λ(v3:Bool)=>
some v3)) λ(v2:Bool)=>
some v2)) λ(v1:Bool)=>
bif v1 then(some ((bI.mk 0 0 0 0 0 0 0 0 0 false false false 0 0),1)) else(lS A (w (Z+1)) a3 λ l9=>
(nq k l9).bind λ Ks=>
bif Ks then(some ((bI.mk 0 0 0 0 0 0 0 0 0 false false false 0 0),1)) else((DD k A a1 Z a3).bind λ OM=>
some (OM,0)))
theorem L59 (k:Nat) (A:List au) (a1:Int) (Z:Int) (a3:Int) (r:bI×Int) (I:AZ k A a1 Z a3=some r):PF Try.prog fK 59 [lI A,g a1,g Z,g a3] [] [] (λ p fr tk=>p=.fX [.agg (gP r.1),g r.2]/\fr=[]/\tk=[]):=by
 unfold AZ at I;refine qP Try.func59 ?_;refine .region (qX 2 [0] [] [(0,lI A),(1,g a1),(2,g Z),(3,g a3),(8,E 0),(9,g 0)] [R6] [] ?_);refine qM 1 ?_;refine aq I λ r1 e2 I=>qG [] [] (L21 k A _ e2) trivial ?_;refine qR 2 ?_;refine aq I λ x3 e4 I=>PO.cut 38 (cu (λ v1=>PS.of 65 [(0,lI A),(1,g a1),(2,g Z),(3,g a3),(8,E 0),(9,g 0),(51,vB v1)] [R6] [] 0 0) x3) ?_ ?_
 ·refine qC 13 e4 (λ e4=>?_) λ e4=>?_
  ·exact qW 38 true [0] [] e4
  refine qR 4 ?_;refine aq e4 λ x6 e7 e4=>PO.cut 34 (cu (λ v2=>PS.of 65 [(0,lI A),(1,g a1),(2,g Z),(3,g a3),(8,E 0),(9,g 0),(51,vB v2)] [R6] [] 0 0) x6) ?_ ?_
  ·refine qC 17 e7 (λ e7=>?_) λ e7=>?_
   ·exact qW 34 true [0] [] e7
   refine qR 4 ?_;refine aq e7 λ x9 jf e7=>PO.cut 30 (cu (λ v3=>PS.of 65 [(0,lI A),(1,g a1),(2,g Z),(3,g a3),(8,E 0),(9,g 0),(51,vB v3)] [R6] [] 0 0) x9) ?_ ?_
   ·refine qC 21 jf (λ jf=>?_) λ jf=>?_
    ·exact qW 30 true [0] [] jf
    refine qR 4 ?_;refine aq jf λ DN lz jf=>PO.cut 26 (cu (λ v4=>PS.of 65 [(0,lI A),(1,g a1),(2,g Z),(3,g a3),(8,E 0),(9,g 0),(51,vB v4)] [R6] [] 0 0) DN) ?_ ?_
    ·refine qC 25 lz (λ lz=>?_) λ lz=>?_
     ·exact qW 26 true [0] [] lz
     refine qR 5 ?_;refine aq lz λ Oy xX lz=>PO.cut 21 (cu (λ v5=>PS.of 65 [(0,lI A),(1,g a1),(2,g Z),(3,g a3),(8,E 0),(9,g 0),(51,vB v5)] [R6] [] 0 0) Oy) ?_ ?_
     ·refine qC 30 xX (λ xX=>?_) λ xX=>?_
      ·exact qW 21 true [0] [] xX
      refine qR 2 ?_;refine qS gM ?_;refine qR 3 ?_;refine aq xX λ VW A0 xX=>PO.cut 15 (cu (λ v6=>PS.of 65 [(0,lI A),(1,g a1),(2,g Z),(3,g a3),(8,E 0),(9,g 0),(51,vB v6)] [R6] [] 0 0) VW) ?_ ?_
      ·refine qC 36 A0 (λ A0=>?_) λ A0=>?_
       ·exact qW 15 true [0] [] A0
       refine qR 2 ?_;refine aq A0 λ jk Sr A0=>qG [] [] (L71 k A a3 _ Sr) trivial ?_;refine qR 3 ?_;refine aq A0 λ x23 xo A0=>PO.cut 9 (cu (λ v7=>PS.of 65 [(0,lI A),(1,g a1),(2,g Z),(3,g a3),(8,E 0),(9,g 0),(51,vB v7)] [R6] [] 0 0) x23) ?_ ?_
       ·refine qC 42 xo (λ xo=>?_) λ xo=>?_
        ·exact qW 9 true [0] [] xo
        refine qR 3 ?_;refine aq xo λ Wh uS xo=>PO.cut 6 (cu (λ v8=>PS.of 65 [(0,lI A),(1,g a1),(2,g Z),(3,g a3),(8,E 0),(9,g 0),(51,vB v8)] [R6] [] 0 0) Wh) ?_ ?_
        ·refine qC 45 uS (λ uS=>?_) λ uS=>?_
         ·refine qR 2 ?_;refine aq uS λ DE xY uS=>qG [] [] (L71 k A Z _ xY) trivial ?_;exact qW 3 (!DE) [0] [] uS
         exact qW 6 false [0] [] uS
        rintro _ ⟨v8,IQ,rfl⟩;refine IQ.on ?_;exact⟨v8,qw [0] [],qs xo⟩
       rintro _ ⟨v7,Wb,rfl⟩;refine Wb.on ?_;exact⟨v7,qw [0] [],qs A0⟩
      rintro _ ⟨v6,w33,rfl⟩;refine w33.on ?_;exact⟨v6,qw [0] [],qs xX⟩
     rintro _ ⟨v5,Sm,rfl⟩;refine Sm.on ?_;exact⟨v5,qw [0] [],qs lz⟩
    rintro _ ⟨v4,Sn,rfl⟩;refine Sn.on ?_;exact⟨v4,qw [0] [],qs jf⟩
   rintro _ ⟨v3,Ss,rfl⟩;refine Ss.on ?_;exact⟨v3,qw [0] [],qs e7⟩
  rintro _ ⟨v2,w37,rfl⟩;refine w37.on ?_;exact⟨v2,qw [0] [],qs e4⟩
 rintro _ ⟨v1,w38,rfl⟩;refine w38.on (qD I (λ I=>?_) λ I=>?_)
 ·refine qJ ?_;refine qX 3 [0] [] [(8,E 0),(9,g 1)] [R6] [] ?_;cases I;exact .ret (qf [] [])
 refine .aZ (qM 4 ?_);refine CL I λ UH Y9 Wi I=>?_;generalize Lf:(List.take (Int.toNat a3) A).drop (Int.toNat (w (Z+1)))=l9 at I;refine PO.aX rfl (vy (l2:=List.map dn l9) gM rfl rfl (.some rfl UH rfl) (.some rfl (Int.le_trans UH Y9) rfl) (Int.toNat_le_toNat Y9) (sZ Wi) (by rw[<- Lf,List.map_drop,List.map_take] <;> first | rfl | simp[w])) rfl ?_;refine aq I λ Ks B9 I=>qG [] [] (T9 k l9 _ B9) trivial ?_;refine .nil (qD I (λ I=>?_) λ I=>?_)
 ·refine qJ ?_;refine qX 3 [0] [] [(8,E 0),(9,g 1)] [R6] [] ?_;cases I;exact .ret (qf [] [])
 refine .aZ (qL 4 ?_);refine aq I λ OM DR I=>qG [] [] (L51 k A a1 Z a3 _ DR) trivial ?_;refine qX 2 [0] [] [(8,E 0),(9,g 0)] [R5 OM] [] ?_;cases I;exact .cS (qf [] [])
def ON (k:Nat) (A:Int) (a1:Int) (Z:Int):Option Int:=
some (if (if Z < A then Z else A) > a1 then(if Z < A then Z else A) else a1)
theorem L77 (k:Nat) (A:Int) (a1:Int) (Z:Int) (r:Int) (I:ON k A a1 Z=some r):PF Try.prog fK 77 [g A,g a1,g Z] [] [] (λ p fr tk=>p=g r/\fr=[]/\tk=[]):=by
 unfold ON at I;refine qP Try.func77 ?_;refine qr 2 ?_;refine qr 7 ?_;cases I;exact .cS (qf [] [])
def IS (k:Nat) (A:List au) (a1:bI) (Z:bI):Option Int:=
(ON k Z.fA 0 10000).bind λ r1=>
Option.bind (α:=Bool) (bif decide (Z.bf>=0) then(Option.bind (α:=Bool) (bif decide (Z.bf < (A.length:Int)) then(bp A Z.bf λ y3=>
some (y3.aM == 4)) else(some false)) λ(v2:Bool)=>
some v2) else(some false)) λ(v1:Bool)=>
Option.bind (α:=Int) (bif v1 then(bp A Z.bf λ y5=>
Option.bind (α:=Int) (bif decide (y5.value>=0) then(some (w ((w ((w (10+r1)) * (w (10+r1))))+(w ((if 10000 < y5.value then 10000 else y5.value) * (if 10000 < y5.value then 10000 else y5.value)))))) else(bif decide (y5.value > (-10000)) then(some (w ((w ((w (10+r1)) * (w (10+r1)))) - (w (y5.value * y5.value))))) else(some (w ((w (10+r1)) * (w (10+r1))))))) λ(v6:Int)=>
some v6) else(some (w ((w (10+r1)) * (w (10+r1)))))) λ(v4:Int)=>
Option.bind (α:=Int×Int) (bif decide (a1.first>=0) then((ON k a1.aI 0 3).bind λ Su=>
Option.bind (α:=Bool) (bif a1.bx then(some Z.bx) else(some false)) λ(v9:Bool)=>
bif v9 then(some (w (v4+3000),Su)) else(some (v4,Su))) else(some (v4,1))) λ(v7,v8)=>
(ON k Z.aI 0 3).bind λ Wj=>
Option.bind (α:=Bool) (bif decide ((w (v8 - Wj)) > 1) then(some true) else(some (decide ((w (v8 - Wj)) < (-1))))) λ(v10:Bool)=>
Option.bind (α:=Int) (bif v10 then(some (w (v7+3000))) else(some v7)) λ(v11:Int)=>
some v11
theorem L52 (k:Nat) (A:List au) (a1:bI) (Z:bI) (r:Int) (I:IS k A a1 Z=some r):PF Try.prog fK 52 [lI A,.agg (gP a1),.agg (gP Z)] [] [] (λ p fr tk=>p=g r/\fr=[]/\tk=[]):=by
 unfold IS at I;refine qP Try.func52 ?_;refine .region (qX 3 [0,1] [] [(0,lI A),(4,E 0),(5,E 1),(6,g 0)] [R5 a1,R5 Z] [] ?_);refine qL 2 ?_;refine aq I λ r1 e2 I=>qG [] [] (L77 k Z.fA 0 10000 _ e2) trivial ?_;refine qN 2 ?_;refine qr 5 ?_;refine qK 4 ?_;refine qM 3 ?_;refine aq I λ x3 e4 I=>PO.cut 13 (cu (λ v1=>PS.of 89 [(0,lI A),(4,E 0),(5,E 1),(6,g 0),(8,g (w ((w (10+r1)) * (w (10+r1))))),(9,g Z.bf),(37,vB v1)] [R5 a1,R5 Z] [] 0 0) x3) ?_ ?_
 ·refine qC 24 e4 (λ e4=>?_) λ e4=>?_
  ·refine qR 2 ?_;refine qS gM ?_;refine qR 3 ?_;refine aq e4 λ x6 e7 e4=>PO.cut 7 (cu (λ v2=>PS.of 89 [(0,lI A),(4,E 0),(5,E 1),(6,g 0),(8,g (w ((w (10+r1)) * (w (10+r1))))),(9,g Z.bf),(37,vB v2)] [R5 a1,R5 Z] [] 0 0) x6) ?_ ?_
   ·refine qC 30 e7 (λ e7=>?_) λ e7=>?_
    ·refine qR 2 ?_;refine qI gM e7 λ y3 e7=>?_;refine qN 4 ?_;exact⟨y3.aM == 4,qw [0,1] [],qs e7⟩
    exact qW 7 false [0,1] [] e7
   rintro _ ⟨v2,FY,rfl⟩;refine FY.on ?_;exact⟨v2,qw [0,1] [],qs e4⟩
  exact qW 13 false [0,1] [] e4
 rintro _ ⟨v1,FZ,rfl⟩;refine FZ.on (aq I λ xV fB I=>PC.mh (λ s=>∃ (v4:Int),bc s (PS.of 89 [(4,E 0),(5,E 1),(6,g 0),(8,g v4)] [R5 a1,R5 Z] [] 0 0)/\v4=xV) ?_ ?_)
 ·refine qD fB (λ fB=>?_) λ fB=>?_
  ·refine qM 2 ?_;refine qI gM fB λ y5 fB=>?_;refine qN 3 ?_;refine aq fB λ VW A0 fB=>PC.bQ (λ s=>∃ (v6:Int),bc s (PS.of 89 [(4,E 0),(5,E 1),(6,g 0),(8,g v6)] [R5 a1,R5 Z] [] 0 0)/\v6=VW) ?_ ?_
   ·refine qr 4 ?_;refine .lone (qD A0 (λ A0=>?_) λ A0=>?_)
    ·refine qK 4 ?_;refine qr 7 ?_;exact .skip (aC.end ⟨w ((w ((w (10+r1)) * (w (10+r1))))+(w ((if 10000 < y5.value then 10000 else y5.value) * (if 10000 < y5.value then 10000 else y5.value)))),qw [0,1] [],qs A0⟩)
    refine qK 4 ?_;refine qD A0 (λ A0=>?_) λ A0=>?_
    ·refine qr 7 ?_;exact .skip (aC.end ⟨w ((w ((w (10+r1)) * (w (10+r1)))) - (w (y5.value * y5.value))),qw [0,1] [],qs A0⟩)
    exact .aZ (PC.skip (aC.end ⟨w ((w (10+r1)) * (w (10+r1))),qw [0,1] [],qs A0⟩))
   rintro _ ⟨v6,OH,rfl⟩;exact OH.c (PC.skip (bR.end ⟨v6,qw [0,1] [],qs fB⟩))
  exact .aZ (PC.skip (bR.end ⟨w ((w (10+r1)) * (w (10+r1))),qw [0,1] [],qs fB⟩))
 rintro _ ⟨v4,Sv,rfl⟩;refine Sv.c (qr 2 ?_);refine qK 4 ?_;refine aq I λ x24 yT I=>PC.mh (λ s=>∃ (v7:Int) (v8:Int),bc s (PS.of 89 [(5,E 0),(6,g 0),(8,g v7),(11,g v8)] [R5 Z] [] 0 0)/\(v7,v8)=x24) ?_ ?_
 ·refine qD yT (λ yT=>?_) λ yT=>?_
  ·refine qM 2 ?_;refine aq yT λ Su yS yT=>qG [] [] (L77 k a1.aI 0 3 _ yS) trivial ?_;refine qN 1 ?_;refine qM 3 ?_;refine aq yT λ x29 xY yT=>PO.cut 3 (cu (λ v9=>PS.of 89 [(5,E 0),(6,g 0),(8,g v4),(11,g Su),(72,vB v9)] [R5 Z] [] 0 0) x29) ?_ ?_
   ·refine qC 69 xY (λ xY=>?_) λ xY=>?_
    ·exact qW 3 Z.bx [1] [] xY
    exact qW 3 false [1] [] xY
   rintro _ ⟨v9,Wb,rfl⟩;refine Wb.on (qD yT (λ yT=>?_) λ yT=>?_)
   ·refine qr 4 ?_;exact .skip (bR.end ⟨w (v4+3000),Su,qw [0] [],qs yT⟩)
   exact .aZ (PC.skip (bR.end ⟨v4,Su,qw [0] [],qs yT⟩))
  exact .aZ (PC.skip (bR.end ⟨v4,1,qw [1] [],qs yT⟩))
 rintro _ ⟨v7,v8,Sm,rfl⟩;refine Sm.c (qM 3 ?_);refine aq I λ Wj te I=>qG [] [] (L77 k Z.aI 0 3 _ te) trivial ?_;refine qN 2 ?_;refine qM 3 ?_;refine aq I λ x37 OO I=>PO.cut 3 (cu (λ v10=>PS.of 89 [(6,g 0),(8,g v7),(85,vB v10)] [] [] 0 0) x37) ?_ ?_
 ·refine qC 82 OO (λ OO=>?_) λ OO=>?_
  ·exact qW 3 true [] [] OO
  refine qN 3 ?_;exact⟨decide ((w (v8 - Wj)) < (-1)),qw [] [],qs OO⟩
 rintro _ ⟨v10,w40,rfl⟩;refine w40.on (aq I λ So rh I=>PC.mh (λ s=>∃ (v11:Int),bc s (PS.of 89 [(6,g 0),(8,g v11)] [] [] 0 0)/\v11=So) ?_ ?_)
 ·refine qD rh (λ rh=>?_) λ rh=>?_
  ·refine qr 4 ?_;exact .skip (bR.end ⟨w (v7+3000),qw [] [],qs rh⟩)
  exact .aZ (PC.skip (bR.end ⟨v7,qw [] [],qs rh⟩))
 rintro _ ⟨v11,w44,rfl⟩;refine w44.c (qr 3 ?_);cases I;exact .cS (qf [] [])
def UI (k:Nat) (A:Int):Option Bool:=
some (A != A)
theorem L92 (k:Nat) (A:Int) (r:Bool) (I:UI k A=some r):PF Try.prog fK 92 [g A] [] [] (λ p fr tk=>p=vB r/\fr=[]/\tk=[]):=by
 unfold UI at I;refine qP Try.func92 ?_;refine qr 2 ?_;refine qr 5 ?_;cases I;exact .cS (qf [] [])
def N8 (k:Nat) (A:Int) (a1:Int):Option Int:=
(UI k A).bind λ r1=>
(UI k a1).bind λ r3=>
bif r1 then(bif r3 then(some 0) else(some (-1))) else(bif r3 then(some 1) else(bif decide (A < a1) then(some (-1)) else(bif decide (A > a1) then(some 1) else(some 0))))
theorem Za (k:Nat) (A:Int) (a1:Int) (r:Int) (I:N8 k A a1=some r):PF Try.prog fK 81 [g A,g a1] [] [] (λ p fr tk=>p=g r/\fr=[]/\tk=[]):=by
 unfold N8 at I;refine qP Try.func81 ?_;refine qr 2 ?_;refine qL 1 ?_;refine aq I λ r1 e2 I=>qG [] [] (L92 k A _ e2) trivial ?_;refine qN 1 ?_;refine qL 1 ?_;refine aq I λ r3 e4 I=>qG [] [] (L92 k a1 _ e4) trivial ?_;refine qN 1 ?_;refine qK 2 ?_;refine qD I (λ I=>?_) λ I=>?_
 ·refine .eP (qK 2 ?_);refine qD I (λ I=>?_) λ I=>?_
  ·refine qK 2 ?_;cases I;exact .ret (qf [] [])
  refine .aZ (qK 2 ?_);cases I;exact .ret (qf [] [])
 refine .aZ (qK 2 ?_);refine qD I (λ I=>?_) λ I=>?_
 ·refine qK 2 ?_;cases I;exact .ret (qf [] [])
 refine .aZ (qK 4 ?_);refine qD I (λ I=>?_) λ I=>?_
 ·refine qK 2 ?_;cases I;exact .ret (qf [] [])
 refine .aZ (qK 4 ?_);refine qD I (λ I=>?_) λ I=>?_
 ·refine qK 2 ?_;cases I;exact .ret (qf [] [])
 refine .aZ (qr 2 ?_);cases I;exact .cS (qf [] [])
def km (k:Nat) (A:List Int):Nat->Int->Option ((Unit) ⊕ (Int))
  | 0,_=>none
  | j3+1,v2=>
    bif decide (v2 < (A.length:Int)) then(bp A v2 λ y4=>
    bif y4 != 0 then(some (.inr y4)) else(km k A j3 (w (v2+1)))) else(some (.inl ()))
def Sw (k:Nat) (A:List Int):Option Int:=
Option.bind (α:=(Unit) ⊕ (Int)) (km k A k 0) (Sum.elim (λ(_:Unit)=>
some 0) some)
theorem L80 (k:Nat) (A:List Int) (r:Int) (I:Sw k A=some r):PF Try.prog fK 80 [lN A] [] [] (λ p fr tk=>p=g r/\fr=[]/\tk=[]):=by
 unfold Sw at I;refine qP Try.func80 ?_;refine qr 2 ?_;refine qr 2 ?_;refine qM 1 ?_;refine qS kF ?_;refine qN 1 ?_;refine aq I λ x1 e2 I=>PC.bQ (λ s=>bc s (PS.of 18 [(2,g 0),(3,g 0)] [] [] 0 0)/\.inl ()=x1) ?_ ?_
 ·refine PC.loop (λ j3 s=>∃ (v2:Int),bc s (PS.of 18 [(2,g 0),(3,g 0),(6,lN A),(7,g (A.length:Int)),(8,g v2)] [] [] 0 0)/\km k A j3 v2=some x1) (λ j3 s=>?_) k ⟨0,qw [] [],e2⟩;rintro⟨v2,w4,e2⟩;refine w4.c ?_;obtain _ | j3:=j3
  · rw[km] at e2; cases e2
  rw[km] at e2;refine qr 2 ?_;refine qD e2 (λ e2=>?_) λ e2=>?_
  ·refine .aZ (PC.block ?_);refine .region (qI kF e2 λ y4 e2=>?_);refine qN 2 ?_;refine qr 4 ?_;refine .lone (qD e2 (λ e2=>?_) λ e2=>?_)
   ·refine qK 3 ?_;cases e2;cases I;exact .ret (bk.ct (bh.ret (aC.ct (qf [] []))))
   refine .aZ (PC.skip (bk.end ?_));refine .lone (qr 3 ?_);exact .skip (bh.mk (Nat.lt_succ_self _) ⟨w (v2+1),qw [] [],e2⟩)
  exact .exit (bh.exit (aC.eF ⟨qw [] [],qs e2⟩))
 rintro _ ⟨w9,rfl⟩;refine w9.c ?_;have I:=fD I;refine qr 3 ?_;cases I;exact .cS (qf [] [])
def Sx (k:Nat) (A:cD) (a1:cD):Option Int:=
bif (A.fA == a1.fA && (A.kT == a1.kT && (A.kU == a1.kU && true))) then(some 0) else((N8 k A.fA a1.fA).bind λ r2=>
(N8 k A.kT a1.kT).bind λ r4=>
(N8 k A.kU a1.kU).bind λ r6=>
(Sw k ([r2,r4,r6])).bind λ r8=>
some r8)
theorem L61 (k:Nat) (A:cD) (a1:cD) (r:Int) (I:Sx k A a1=some r):PF Try.prog fK 61 [.agg (sf A),.agg (sf a1)] [] [] (λ p fr tk=>p=g r/\fr=[]/\tk=[]):=by
 unfold Sx at I;refine qP Try.func61 ?_;refine .region (qX 3 [0,1] [] [(2,E 0),(3,E 1),(4,g 0)] [Bs A,Bs a1] [] ?_);refine qM 2 ?_;refine PO.aX rfl (jz (v:=.bool (A.fA == a1.fA && (A.kT == a1.kT && (A.kU == a1.kU && true)))) rfl rfl rfl rfl rfl rfl rfl (by kernel_rfl)) rfl ?_;refine .nil (qD I (λ I=>?_) λ I=>?_)
 ·refine qK 2 ?_;cases I;exact .ret (qf [] [])
 refine .aZ (PC.pK [0,1,2,3,4,5,6,7,8,9,10,11,12,13,14,15,16,17] (by kernel_rfl) ?_);refine qd 4 [4,5,6,7,8,9,10,11,12,13,14,15,16,17] ⟨15,0,0,[]⟩ [(2,E 0),(3,E 1),(4,g 0),(9,g A.fA),(11,g a1.fA)] [Bs A,Bs a1] [] ?_;refine aq I λ r2 e3 I=>?_;refine PD.call rfl rfl (by kernel_rfl) rfl rfl rfl (ks:=[]) (ts:=[]) (fr1:=[]) rfl rfl rfl trivial (Za k A.fA a1.fA _ e3) ?_;rintro _ _ _ ⟨rfl,rfl,rfl⟩;refine⟨_,_,rfl,rfl,?_⟩;refine qd 4 [9,10,11,12,13,14,15,16,17] ⟨511,31,15,[(4,[],true)]⟩ [(2,E 0),(3,E 1),(4,g 0),(12,g r2),(14,g A.kT),(16,g a1.kT)] [Bs A,Bs a1] [] ?_;refine aq I λ r4 e5 I=>?_;refine PD.call rfl rfl (by kernel_rfl) rfl rfl rfl (ks:=[]) (ts:=[]) (fr1:=[]) rfl rfl rfl trivial (Za k A.kT a1.kT _ e5) ?_;rintro _ _ _ ⟨rfl,rfl,rfl⟩;refine⟨_,_,rfl,rfl,?_⟩;refine qd 4 [14,15,16,17] ⟨16383,1023,511,[(9,[],true),(4,[],true)]⟩ [(4,g 0),(12,g r2),(17,g r4),(19,g A.kU),(21,g a1.kU)] [Bs A,Bs a1] [] ?_;refine aq I λ r6 e7 I=>?_;refine PD.call rfl rfl (by kernel_rfl) rfl rfl rfl (ks:=[]) (ts:=[]) (fr1:=[]) rfl rfl rfl trivial (Za k A.kU a1.kU _ e7) ?_;rintro _ _ _ ⟨rfl,rfl,rfl⟩;refine⟨_,_,rfl,rfl,?_⟩;refine qd 1 [16,17] ⟨65535,32767,16383,[(14,[],true),(9,[],true),(4,[],true)]⟩ [(4,g 0),(23,.aS 1 (List.map br ([r2,r4,r6])) (some 0))] [Bs A,Bs a1] [3] ?_;refine aq I λ r8 e9 I=>?_;refine PD.call rfl rfl (by kernel_rfl) rfl rfl rfl (ks:=[]) (ts:=[]) (fr1:=[]) rfl rfl rfl trivial (L80 k ([r2,r4,r6]) _ e9) ?_;rintro _ _ _ ⟨rfl,rfl,rfl⟩;refine⟨_,_,rfl,rfl,?_⟩;refine qd 1 [] ⟨262143,131071,65535,[(16,[],true),(14,[],true),(9,[],true),(4,[],true)]⟩ [(4,g r8)] [Bs A,Bs a1] [3] ?_;refine PD.done [] [] (es:=[(4,g r8)]) (fr':=[]) (tk':=[]) (by kernel_rfl) (by kernel_rfl) ?_;cases I;exact .cS (qf [] [])
def jA (k:Nat) (Z:List ay) (a3:ay):Nat->(Option (Option Nat))->(Option (Option Nat))->Option ((Unit) ⊕ (Int×(List ay)×ay))
  | 0,_,_=>none
  | j3+1,v3,v4=>
    Et Z (bif v3 != v4 then(bif Option.isNone v3 then(some (.inr ((-1),Z,a3))) else(bif Option.isNone v4 then(some (.inr (1,Z,a3))) else(ir a3 Z v3 λ y7=>
    ir a3 Z v4 λ y8=>
    bif y7.bw != y8.bw then(ir a3 Z v3 λ y9=>
    ir a3 Z v4 λ Cc=>
    (N8 k y9.bw Cc.bw).bind λ Sj=>
    some (.inr (Sj,Z,a3))) else(ir a3 Z v3 λ HE=>
    ir a3 Z v4 λ AW=>
    jA k Z a3 j3 (Option.map some HE.ahead) (Option.map some AW.ahead))))) else(some (.inl ())))
def zp (k:Nat) (A:Option (Option Nat)) (a1:Option (Option Nat)) (Z:List ay) (a3:ay):Option (Int×(List ay)×ay):=
Option.bind (α:=(Unit) ⊕ (Int×(List ay)×ay)) (jA k Z a3 k A a1) (Sum.elim (λ(_:Unit)=>
some (0,Z,a3)) some)
theorem Yb (k:Nat) (A:Option (Option Nat)) (a1:Option (Option Nat)) (Z:List ay) (a3:ay) (r:Int×(List ay)×ay) (I:zp k A a1 Z a3=some r):PF Try.prog fK 62 [cN 1 0 19 A 0,cN 1 0 19 a1 0] [AJ Z,⟨0,(aK 0 a3)⟩] [] (λ p fr tk=>p=g r.1/\fr=[AJ r.2.1,⟨0,(aK 0 r.2.2)⟩]/\tk=[]):=by
 unfold zp at I;refine qP Try.func62 ?_;refine qr 2 ?_;refine aq I λ x1 e2 I=>PC.bQ (λ s=>bc s (PS.of 45 [(4,g 0)] [AJ Z,⟨0,(aK 0 a3)⟩] [] 2 0)/\.inl ()=x1) ?_ ?_
 ·refine PC.loop (λ j3 s=>∃ (v3:Option (Option Nat)) (v4:Option (Option Nat)),bc s (PS.of 45 [(0,cN 1 0 19 v3 0),(1,cN 1 0 19 v4 0),(4,g 0)] [AJ Z,⟨0,(aK 0 a3)⟩] [] 2 0)/\jA k Z a3 j3 v3 v4=some x1) (λ j3 s=>?_) k ⟨A,a1,qm [0,1] [] 0 ⟨⟨_,_,rfl,rfl,eT rfl,aT.refl _⟩,⟨⟨_,_,rfl,rfl,ef a3 rfl,(aT.refl _)⟩,aA.z⟩⟩ ⟨⟨_,_,rfl,eD rfl rfl,.refl _⟩,⟨⟨_,_,rfl,eD rfl rfl,.refl _⟩,aG.z.c⟩⟩,e2⟩;rintro⟨v3,v4,w4,e2⟩;refine w4.c ?_;obtain _ | j3:=j3
  · rw[jA] at e2; cases e2
  rw[jA] at e2;refine qM 2 ?_;refine T0 e2 λ h5 e2=>PO.aX rfl (T1 VU rfl (by decide) (by decide) cU rfl rfl (by decide) rfl rfl rfl rfl h5 (by kernel_rfl)) rfl ?_;refine .nil (qD e2 (λ e2=>?_) λ e2=>?_)
  ·refine .aZ (.lone (PC.block ?_));refine PC.block ?_;refine qL 1 ?_;refine PO.aX rfl (wX VU rfl rfl (by kernel_rfl)) rfl ?_;refine qN 1 ?_;refine .lone (qD e2 (λ e2=>?_) λ e2=>?_)
   ·refine qK 2 ?_;cases e2;cases I;exact .ret (bk.ct (bk.ct (bh.ret (aC.ct (q9 [0,1] [] (fr':=[AJ Z,⟨0,(aK 0 a3)⟩]) (by kernel_rfl) ⟨⟨_,rfl,rfl,eT rfl⟩,⟨⟨_,rfl,rfl,ef a3 rfl⟩,trivial⟩⟩ (.refl _) ⟨rfl,rfl,rfl⟩)))))
   refine qM 1 ?_;refine PO.aX rfl (wX VU rfl rfl (by kernel_rfl)) rfl ?_;refine qN 1 ?_;refine qD e2 (λ e2=>?_) λ e2=>?_
   ·refine qK 2 ?_;cases e2;cases I;exact .ret (bk.ct (bk.ct (bh.ret (aC.ct (q9 [0,1] [] (fr':=[AJ Z,⟨0,(aK 0 a3)⟩]) (by kernel_rfl) ⟨⟨_,rfl,rfl,eT rfl⟩,⟨⟨_,rfl,rfl,ef a3 rfl⟩,trivial⟩⟩ (.refl _) ⟨rfl,rfl,rfl⟩)))))
   refine .eP (qo [0,1,2,3,4,5,6,7,8,9,10,11] ?_);refine qR 1 ?_;refine iH e2 λ y7 h9 e2=>PO.aX rfl (dC rfl (bG h9)) rfl ?_;refine PO.aX rfl (bX (o':=4) rfl (bG h9) (λ _ _=>rfl)) rfl ?_;refine PO.aX rfl (bX (o':=2) rfl (bG h9) (λ _ _=>rfl)) rfl ?_;refine PO.aX rfl (dX rfl (fZ (q:=g y7.bw) (z:=a3) cU rfl rfl h9 rfl)) rfl ?_;refine qR 1 ?_;refine iH e2 λ y8 AP e2=>PO.aX rfl (dC rfl (bG AP)) rfl ?_;refine qt 0 [(0,cN 1 0 19 v3 0),(1,cN 1 0 19 v4 0),(4,g 0),(19,g y7.bw),(21,cN 1 0 19 v4 0)] [AJ Z,⟨0,(aK 0 a3)⟩] [] ?_;refine PO.aX rfl (bX (o':=4) rfl (bG AP) (λ _ _=>rfl)) rfl ?_;refine PO.aX rfl (bX (o':=2) rfl (bG AP) (λ _ _=>rfl)) rfl ?_;refine PO.aX rfl (dX rfl (fZ (q:=g y8.bw) (z:=a3) cU rfl rfl AP rfl)) rfl ?_;refine qN 2 ?_;refine qD e2 (λ e2=>?_) λ e2=>?_
   ·refine .eP (qo [0,1,2,3,4,5,6,7,8,9,10,11] ?_);refine qR 1 ?_;refine iH e2 λ y9 Oi e2=>PO.aX rfl (dC rfl (bG Oi)) rfl ?_;refine PO.aX rfl (bX (o':=4) rfl (bG Oi) (λ _ _=>rfl)) rfl ?_;refine PO.aX rfl (bX (o':=2) rfl (bG Oi) (λ _ _=>rfl)) rfl ?_;refine PO.aX rfl (dX rfl (fZ (q:=g y9.bw) (z:=a3) cU rfl rfl Oi rfl)) rfl ?_;refine qR 1 ?_;refine iH e2 λ Cc Ul e2=>PO.aX rfl (dC rfl (bG Ul)) rfl ?_;refine PO.aX rfl (bX (o':=4) rfl (bG Ul) (λ _ _=>rfl)) rfl ?_;refine PO.aX rfl (bX (o':=2) rfl (bG Ul) (λ _ _=>rfl)) rfl ?_;refine qt 0 [(0,cN 1 0 19 v3 0),(1,cN 1 0 19 v4 0),(4,g 0),(30,g y9.bw),(34,cN 1 0 19 v4 6)] [AJ Z,⟨0,(aK 0 a3)⟩] [] ?_;refine PO.aX rfl (dX rfl (fZ (q:=g Cc.bw) (z:=a3) cU rfl rfl Ul rfl)) rfl ?_;refine aq e2 λ Sj e15 e2=>qG [] [] (Za k y9.bw Cc.bw _ e15) trivial ?_;refine qN 1 ?_;cases e2;cases I;exact .ret (bk.ct (bk.ct (bh.ret (aC.ct (q9 [0,1] [] (fr':=[AJ Z,⟨0,(aK 0 a3)⟩]) (by kernel_rfl) ⟨⟨_,rfl,rfl,eT rfl⟩,⟨⟨_,rfl,rfl,ef a3 rfl⟩,trivial⟩⟩ (.refl _) ⟨rfl,rfl,rfl⟩)))))
   refine .aZ (PC.skip (bk.end ?_));refine .lone (qo [0,1,2,3,4,5,6,7,8,9] ?_);refine qR 1 ?_;refine iH e2 λ HE Kf e2=>PO.aX rfl (dC rfl (bG Kf)) rfl ?_;refine PO.aX rfl (bX (o':=18) rfl (bG Kf) (λ _ _=>rfl)) rfl ?_;refine PO.aX rfl (dX rfl (fZ (q:=cN 1 0 19 (Option.map some HE.ahead) 0) (z:=a3) cU rfl rfl Kf (by rw[Te 1 0]; rfl))) rfl ?_;refine qR 1 ?_;refine iH e2 λ AW Wd e2=>PO.aX rfl (dC rfl (bG Wd)) rfl ?_;refine PO.aX rfl (bX (o':=18) rfl (bG Wd) (λ _ _=>rfl)) rfl ?_;refine PO.aX rfl (dX rfl (fZ (q:=cN 1 0 19 (Option.map some AW.ahead) 0) (z:=a3) cU rfl rfl Wd (by rw[Te 1 0]; rfl))) rfl ?_;refine qN 2 ?_;refine .skip (bk.end ?_);exact .skip (bh.mk (Nat.lt_succ_self _) ⟨Option.map some HE.ahead,Option.map some AW.ahead,qm [0,1] [] 0 ⟨⟨_,_,rfl,rfl,eT rfl,aT.refl _⟩,⟨⟨_,_,rfl,rfl,ef a3 rfl,(aT.refl _)⟩,aA.z⟩⟩ ⟨⟨_,_,rfl,eD rfl rfl,.refl _⟩,⟨⟨_,_,rfl,eD rfl rfl,.refl _⟩,aG.z.c⟩⟩,e2⟩)
  exact .exit (bh.exit (aC.eF ⟨qm [0,1] [] 0 ⟨⟨_,_,rfl,rfl,eT rfl,aT.refl _⟩,⟨⟨_,_,rfl,rfl,ef a3 rfl,(aT.refl _)⟩,aA.z⟩⟩ aG.z.c,qs e2⟩))
 rintro _ ⟨FX,rfl⟩;refine FX.c ?_;have I:=fD I;refine qr 2 ?_;cases I;exact .cS (q9 [0,1] [] (fr':=[AJ Z,⟨0,(aK 0 a3)⟩]) (by kernel_rfl) ⟨⟨_,rfl,rfl,eT rfl⟩,⟨⟨_,rfl,rfl,ef a3 rfl⟩,trivial⟩⟩ (.refl _) ⟨rfl,rfl,rfl⟩)
def nX (k:Nat) (A:Option (Option Nat)) (a1:Option (Option Nat)) (Z:List ay) (a3:ay):Option (Bool×(List ay)×ay):=
ir a3 Z a1 λ y1=>
bif !y1.gE then(some (true,Z,a3)) else(ir a3 Z A λ y2=>
ir a3 Z a1 λ y3=>
(Sx k (cD.mk y2.bj y2.aR y2.aO) (cD.mk y3.bj y3.aR y3.aO)).bind λ r5=>
bif r5 != 0 then(some (decide (r5 < 0),Z,a3)) else((zp k A a1 Z a3).bind λ r8=>
some (decide (r8.1 < 0),r8.2.1,r8.2.2)))
theorem Ez (k:Nat) (A:Option (Option Nat)) (a1:Option (Option Nat)) (Z:List ay) (a3:ay) (r:Bool×(List ay)×ay) (I:nX k A a1 Z a3=some r):PF Try.prog fK 32 [cN 1 0 19 A 0,cN 1 0 19 a1 0] [AJ Z,⟨0,(aK 0 a3)⟩] [] (λ p fr tk=>p=vB r.1/\fr=[AJ r.2.1,⟨0,(aK 0 r.2.2)⟩]/\tk=[]):=by
 unfold nX at I;refine qP Try.func32 ?_;refine qr 2 ?_;refine qM 1 ?_;refine iH I λ y1 B I=>PO.aX rfl (dC rfl (bG B)) rfl ?_;refine PO.aX rfl (bX (o':=0) rfl (bG B) (λ _ _=>rfl)) rfl ?_;refine PO.aX rfl (dX rfl (fZ (q:=vB y1.gE) (z:=a3) cU rfl rfl B rfl)) rfl ?_;refine qN 1 ?_;refine qD I (λ I=>?_) λ I=>?_
 ·refine qK 2 ?_;cases I;exact .ret (q9 [0,1] [] (fr':=[AJ Z,⟨0,(aK 0 a3)⟩]) (by kernel_rfl) ⟨⟨_,rfl,rfl,eT rfl⟩,⟨⟨_,rfl,rfl,ef a3 rfl⟩,trivial⟩⟩ (.refl _) ⟨rfl,rfl,rfl⟩)
 refine .aZ (.eP (qo [0,1,2,3,4,5,6,7,8,9] ?_));refine qR 1 ?_;refine iH I λ y2 V I=>PO.aX rfl (dC rfl (bG V)) rfl ?_;refine PO.aX rfl (bX (o':=1) rfl (bG V) (λ _ _=>rfl)) rfl ?_;refine PO.aX rfl (dX rfl (fZ (q:=.agg [g y2.bj,g y2.aR,g y2.aO]) (z:=a3) cU rfl rfl V rfl)) rfl ?_;refine qR 1 ?_;refine iH I λ y3 h4 I=>PO.aX rfl (dC rfl (bG h4)) rfl ?_;refine PO.aX rfl (bX (o':=1) rfl (bG h4) (λ _ _=>rfl)) rfl ?_;refine PO.aX rfl (dX rfl (fZ (q:=.agg [g y3.bj,g y3.aR,g y3.aO]) (z:=a3) cU rfl rfl h4 rfl)) rfl ?_;refine qt 0 [(0,cN 1 0 19 A 0),(1,cN 1 0 19 a1 0),(4,vB false),(14,.agg [g y2.bj,g y2.aR,g y2.aO]),(18,.agg [g y3.bj,g y3.aR,g y3.aO])] [AJ Z,⟨0,(aK 0 a3)⟩] [] ?_;refine aq I λ r5 e6 I=>qG [] [] (L61 k (cD.mk y2.bj y2.aR y2.aO) (cD.mk y3.bj y3.aR y3.aO) _ e6) trivial ?_;refine qN 1 ?_;refine qK 3 ?_;refine qD I (λ I=>?_) λ I=>?_
 ·refine qK 4 ?_;cases I;exact .ret (q9 [0,1] [] (fr':=[AJ Z,⟨0,(aK 0 a3)⟩]) (by kernel_rfl) ⟨⟨_,rfl,rfl,eT rfl⟩,⟨⟨_,rfl,rfl,ef a3 rfl⟩,trivial⟩⟩ (.refl _) ⟨rfl,rfl,rfl⟩)
 refine .aZ (qL 2 ?_);refine aq I λ r8 e9 I=>?_;refine PO.call rfl rfl rfl rfl (ks:=[0,1]) (ts:=[]) (fr1:=[AJ Z,⟨0,(aK 0 a3)⟩]) rfl rfl (bT (eD rfl rfl) (bT (eD rfl rfl) nm)) ⟨⟨_,rfl,rfl,eT rfl⟩,⟨⟨_,rfl,rfl,ef a3 rfl⟩,trivial⟩⟩ (Yb k A a1 Z a3 _ e9) ?_;rintro _ _ _ ⟨rfl,rfl,rfl⟩;refine⟨_,_,rfl,(cF (oQ (eT rfl)) (cF (oQ (ef r8.2.2 rfl)) ki)),?_⟩;refine qN 2 ?_;cases I;exact .cS (q9 [0,1] [] (fr':=[AJ r8.2.1,⟨0,(aK 0 r8.2.2)⟩]) (by kernel_rfl) ⟨⟨_,rfl,rfl,eT rfl⟩,⟨⟨_,rfl,rfl,ef r8.2.2 rfl⟩,trivial⟩⟩ (.refl _) ⟨rfl,rfl,rfl⟩)
def tE (k:Nat) (A:Int) (a1:bI) (Z:Option Nat) (a3:aE) (a4:List au) (a5:Int) (a6:Int) (a7:List Int) (a8:Nat) (a9:List ay):Option (aE×(List au)×Int×Int×(List Int)×(List ay)):=
Option.bind (α:=Bool) (bif a1.bB then(some true) else(some (decide (a1.fA > a6)))) λ(v1:Bool)=>
Option.bind (α:=Int) (bif v1 then(some 1) else(some 0)) λ(v2:Int)=>
Option.bind (α:=ay) (bif Option.isNone (Option.map some Z) then((IS k a4 (bI.mk (-1) 0 0 0 0 0 0 0 0 false false false 0 0) a1).bind λ Q2=>
some (ay.mk true v2 Q2 1 a1.first a1.bL a1.bf a1.bt a1.aw a1.aF a1.aN a1.fA a1.aI a1.bB a1.bx a1.c7 a1.aD a1.depth Z)) else(nW a9 Z λ y7=>
nW a9 Z λ y8=>
nW a9 Z λ y9=>
(IS k a4 (bI.mk y9.lq y9.mP y9.bw y9.ja y9.jb y9.jQ y9.lr y9.ph y9.lu y9.mQ y9.jR y9.pk y9.jS y9.ly) a1).bind λ FF=>
nW a9 Z λ Cc=>
some (ay.mk true (w (v2+y7.bj)) (w (Cc.aR+FF)) (w (1+y8.aO)) a1.first a1.bL a1.bf a1.bt a1.aw a1.aF a1.aN a1.fA a1.aI a1.bB a1.bx a1.c7 a1.aD a1.depth Z))) λ(v6:ay)=>
eZ A a8 (eZ a1.aI 4 ((nX k (some none) (some (some (4 * Int.toNat A+Int.toNat a1.aI))) a9 v6).bind λ uT=>
Option.bind (α:=List ay) (bif uT.1 then(ir uT.2.2 uT.2.1 (some (some (4 * Int.toNat A+Int.toNat a1.aI))) λ AW=>
some (List.set uT.2.1 (4 * Int.toNat A+Int.toNat a1.aI) uT.2.2)) else(some uT.2.1)) λ(v11:List ay)=>
some (a3,a4,a5,a6,a7,v11)))
theorem EA (k:Nat) (A:Int) (a1:bI) (Z:Option Nat) (a3:aE) (a4:List au) (a5:Int) (a6:Int) (a7:List Int) (a8:Nat) (a9:List ay) (r:aE×(List au)×Int×Int×(List Int)×(List ay)) (I:tE k A a1 Z a3 a4 a5 a6 a7 a8 a9=some r):PF Try.prog fK 60 [E 1,g A,.agg (gP a1),cN 2 2 19 (Option.map some Z) 0] [R0 a3,R8 a4 a5 a6 a7 a8,R7 a9] [] (λ p fr tk=>p=.fX []/\fr=[R0 r.1,R8 r.2.1 r.2.2.1 r.2.2.2.1 r.2.2.2.2.1 a8,R7 r.2.2.2.2.2]/\tk=[]):=by
 unfold tE at I;refine qP Try.func60 ?_;refine .region (qY 1 [(0,E 1),(1,g A),(3,cN 2 2 19 (Option.map some Z) 0),(6,E 3)] [R0 a3,R8 a4 a5 a6 a7 a8,R7 a9,R5 a1] [] ?_);refine .region (qY 3 [(0,E 1),(1,g A),(3,cN 2 2 19 (Option.map some Z) 0),(6,E 3),(8,E 4)] [R0 a3,R8 a4 a5 a6 a7 a8,R7 a9,R5 a1,HA] [] ?_);refine .region (oT 6 [(0,E 1),(1,g A),(3,cN 2 2 19 (Option.map some Z) 0),(6,E 3),(8,E 4),(9,E 5)] [R0 a3,R8 a4 a5 a6 a7 a8,R7 a9,R5 a1,HA,⟨0,[vB true,g 0,g 0,g 1,g a1.first,g a1.bL,g a1.bf,g a1.bt,g a1.aw,g a1.aF,g a1.aN,g a1.fA,g a1.aI,vB a1.bB,vB a1.bx,vB a1.c7,g a1.aD,g a1.depth,cN 2 2 19 (Option.map some Z) 0]⟩] [] (by cases Z <;> kernel_rfl) ?_);refine .nil (.eP (qo [0,1,2,3,4,5,6,7,8,9,10] ?_));refine qR 3 ?_;refine aq I λ x1 e2 I=>PO.cut 8 (cu (λ v1=>PS.of 94 [(0,E 1),(1,g A),(3,cN 2 2 19 (Option.map some Z) 0),(6,E 3),(8,E 4),(9,E 5),(26,vB v1)] [R0 a3,R8 a4 a5 a6 a7 a8,R7 a9,R5 a1,HA,⟨0,[vB true,g 0,g 0,g 1,g a1.first,g a1.bL,g a1.bf,g a1.bt,g a1.aw,g a1.aF,g a1.aN,g a1.fA,g a1.aI,vB a1.bB,vB a1.bx,vB a1.c7,g a1.aD,g a1.depth,cN 2 2 19 (Option.map some Z) 0]⟩] [] 3 0) x1) ?_ ?_
 ·refine qC 18 e2 (λ e2=>?_) λ e2=>?_
  ·refine qN 8 ?_;exact⟨true,qm [0,1,2,3,4,5] [] 0 (aA.c (aA.c ⟨⟨_,_,rfl,rfl,eT rfl,aT.refl _⟩,(aA.c (aA.c ⟨⟨_,_,rfl,rfl,ef (ay.mk true 0 0 1 a1.first a1.bL a1.bf a1.bt a1.aw a1.aF a1.aN a1.fA a1.aI a1.bB a1.bx a1.c7 a1.aD a1.depth Z) rfl,(aT.refl _)⟩,aA.z⟩))⟩)) (aG.c (aG.c ⟨⟨_,_,rfl,eD rfl rfl,.refl _⟩,aG.z.c.c.c.c⟩)),qs e2⟩
  refine qN 8 ?_;exact⟨decide (a1.fA > a6),qm [0,1,2,3,4,5] [] 0 (aA.c (aA.c ⟨⟨_,_,rfl,rfl,eT rfl,aT.refl _⟩,(aA.c (aA.c ⟨⟨_,_,rfl,rfl,ef (ay.mk true 0 0 1 a1.first a1.bL a1.bf a1.bt a1.aw a1.aF a1.aN a1.fA a1.aI a1.bB a1.bx a1.c7 a1.aD a1.depth Z) rfl,(aT.refl _)⟩,aA.z⟩))⟩)) (aG.c (aG.c ⟨⟨_,_,rfl,eD rfl rfl,.refl _⟩,aG.z.c.c.c.c⟩)),qs e2⟩
 rintro _ ⟨v1,w4,rfl⟩;refine w4.on (aq I λ x5 e6 I=>PC.mh (λ s=>∃ (v2:Int),bc s (PS.of 94 [(0,E 1),(1,g A),(3,cN 2 2 19 (Option.map some Z) 0),(6,E 3),(8,E 4),(9,E 5)] [R0 a3,R8 a4 a5 a6 a7 a8,R7 a9,R5 a1,HA,⟨0,[vB true,g v2,g 0,g 1,g a1.first,g a1.bL,g a1.bf,g a1.bt,g a1.aw,g a1.aF,g a1.aN,g a1.fA,g a1.aI,vB a1.bB,vB a1.bx,vB a1.c7,g a1.aD,g a1.depth,cN 2 2 19 (Option.map some Z) 0]⟩] [] 3 0)/\v2=x5) ?_ ?_)
 ·refine qD e6 (λ e6=>?_) λ e6=>?_
  ·refine .region (qY 3 [(0,E 1),(1,g A),(3,cN 2 2 19 (Option.map some Z) 0),(6,E 3),(8,E 4),(9,E 5)] [R0 a3,R8 a4 a5 a6 a7 a8,R7 a9,R5 a1,HA,⟨0,[vB true,g 1,g 0,g 1,g a1.first,g a1.bL,g a1.bf,g a1.bt,g a1.aw,g a1.aF,g a1.aN,g a1.fA,g a1.aI,vB a1.bB,vB a1.bx,vB a1.c7,g a1.aD,g a1.depth,cN 2 2 19 (Option.map some Z) 0]⟩] [] ?_);exact .skip (bR.end ⟨1,qm [0,1,2,3,4,5] [] 0 (aA.c (aA.c ⟨⟨_,_,rfl,rfl,eT rfl,aT.refl _⟩,(aA.c (aA.c ⟨⟨_,_,rfl,rfl,ef (ay.mk true 1 0 1 a1.first a1.bL a1.bf a1.bt a1.aw a1.aF a1.aN a1.fA a1.aI a1.bB a1.bx a1.c7 a1.aD a1.depth Z) rfl,(aT.refl _)⟩,aA.z⟩))⟩)) (aG.c (aG.c ⟨⟨_,_,rfl,eD rfl rfl,.refl _⟩,aG.z.c.c.c⟩)),qs e6⟩)
  exact .aZ (PC.skip (bR.end ⟨0,qm [0,1,2,3,4,5] [] 0 (aA.c (aA.c ⟨⟨_,_,rfl,rfl,eT rfl,aT.refl _⟩,(aA.c (aA.c ⟨⟨_,_,rfl,rfl,ef (ay.mk true 0 0 1 a1.first a1.bL a1.bf a1.bt a1.aw a1.aF a1.aN a1.fA a1.aI a1.bB a1.bx a1.c7 a1.aD a1.depth Z) rfl,(aT.refl _)⟩,aA.z⟩))⟩)) (aG.c (aG.c ⟨⟨_,_,rfl,eD rfl rfl,.refl _⟩,aG.z.c.c.c⟩)),qs e6⟩))
 rintro _ ⟨v2,w8,rfl⟩;refine w8.c (qM 1 ?_);refine PO.aX rfl (wX VU rfl rfl (by kernel_rfl)) rfl ?_;refine .nil (aq I λ x9 jf I=>PC.mh (λ s=>∃ (v6:ay),bc s (PS.of 94 [(0,E 1),(1,g A),(6,E 3),(9,E 4)] [R0 a3,R8 a4 a5 a6 a7 a8,R7 a9,R5 a1,⟨0,(aK 2 v6)⟩] [] 3 0)/\v6=x9) ?_ ?_)
 ·refine qD jf (λ jf=>?_) λ jf=>?_
  ·refine qo [0,1,2,3,4,5,6,7,8,9] ?_;refine qR 6 ?_;refine aq jf λ Q2 lz jf=>qG [] [] (L52 k a4 (bI.mk (-1) 0 0 0 0 0 0 0 0 false false false 0 0) a1 _ lz) trivial ?_;refine qY 3 [(0,E 1),(1,g A),(6,E 3),(9,E 5)] [R0 a3,R8 a4 a5 a6 a7 a8,R7 a9,R5 a1,HA,⟨0,[vB true,g v2,g Q2,g 1,g a1.first,g a1.bL,g a1.bf,g a1.bt,g a1.aw,g a1.aF,g a1.aN,g a1.fA,g a1.aI,vB a1.bB,vB a1.bx,vB a1.c7,g a1.aD,g a1.depth,cN 2 2 19 (Option.map some Z) 0]⟩] [] ?_;exact .skip (bR.end ⟨(ay.mk true v2 Q2 1 a1.first a1.bL a1.bf a1.bt a1.aw a1.aF a1.aN a1.fA a1.aI a1.bB a1.bx a1.c7 a1.aD a1.depth Z),qm [0,1,2,3,5] [] 0 (aA.c (aA.c ⟨⟨_,_,rfl,rfl,eT rfl,aT.refl _⟩,(aA.c ⟨⟨_,_,rfl,rfl,ef (ay.mk true v2 Q2 1 a1.first a1.bL a1.bf a1.bt a1.aw a1.aF a1.aN a1.fA a1.aI a1.bB a1.bx a1.c7 a1.aD a1.depth Z) rfl,(aT.refl _)⟩,aA.z⟩)⟩)) aG.z.c.c.c.c,qs jf⟩)
  refine .eP (qo [0,1,2,3,4,5,6,7,8,9,10,11] ?_);refine qR 4 ?_;refine sc jf λ y7 QG jf=>PO.aX rfl (dC rfl (cV QG)) rfl ?_;refine PO.aX rfl (bX (o':=1) rfl (cV QG) (λ _ _=>rfl)) rfl ?_;refine PO.aX rfl (bX (o':=0) rfl (cV QG) (λ _ _=>rfl)) rfl ?_;refine PO.aX rfl (dX rfl (og (q:=g y7.bj) cU rfl QG rfl)) rfl ?_;refine qY 4 [(0,E 1),(1,g A),(3,cN 2 2 19 (Option.map some Z) 0),(6,E 3),(9,E 5)] [R0 a3,R8 a4 a5 a6 a7 a8,R7 a9,R5 a1,HA,⟨0,[vB true,g (w (v2+y7.bj)),g 0,g 1,g a1.first,g a1.bL,g a1.bf,g a1.bt,g a1.aw,g a1.aF,g a1.aN,g a1.fA,g a1.aI,vB a1.bB,vB a1.bx,vB a1.c7,g a1.aD,g a1.depth,cN 2 2 19 (Option.map some Z) 0]⟩] [] ?_;refine .eP (qo [0,1,2,3,4,5,6,7,8,9,10,11] ?_);refine qR 4 ?_;refine sc jf λ y8 QH jf=>PO.aX rfl (dC rfl (cV QH)) rfl ?_;refine qt 0 [(0,E 1),(1,g A),(3,cN 2 2 19 (Option.map some Z) 0),(6,E 3),(9,E 5),(53,g 1),(55,cN 2 2 19 (Option.map some Z) 0)] [R0 a3,R8 a4 a5 a6 a7 a8,R7 a9,R5 a1,HA,⟨0,[vB true,g (w (v2+y7.bj)),g 0,g 1,g a1.first,g a1.bL,g a1.bf,g a1.bt,g a1.aw,g a1.aF,g a1.aN,g a1.fA,g a1.aI,vB a1.bB,vB a1.bx,vB a1.c7,g a1.aD,g a1.depth,cN 2 2 19 (Option.map some Z) 0]⟩] [] ?_;refine PO.aX rfl (bX (o':=1) rfl (cV QH) (λ _ _=>rfl)) rfl ?_;refine PO.aX rfl (bX (o':=2) rfl (cV QH) (λ _ _=>rfl)) rfl ?_;refine PO.aX rfl (dX rfl (og (q:=g y8.aO) cU rfl QH rfl)) rfl ?_;refine qY 4 [(0,E 1),(1,g A),(3,cN 2 2 19 (Option.map some Z) 0),(6,E 3),(9,E 5)] [R0 a3,R8 a4 a5 a6 a7 a8,R7 a9,R5 a1,HA,⟨0,[vB true,g (w (v2+y7.bj)),g 0,g (w (1+y8.aO)),g a1.first,g a1.bL,g a1.bf,g a1.bt,g a1.aw,g a1.aF,g a1.aN,g a1.fA,g a1.aI,vB a1.bB,vB a1.bx,vB a1.c7,g a1.aD,g a1.depth,cN 2 2 19 (Option.map some Z) 0]⟩] [] ?_;refine PC.pK [5,6,7,8,9,10,11,12,13,14,0,1,2,3,4,15,16,17,18] (by kernel_rfl) ?_;refine qd 5 [10,11,12,13,14,0,1,2,3,4,15,16,17,18] ⟨992,0,0,[]⟩ [(0,E 1),(1,g A),(3,cN 2 2 19 (Option.map some Z) 0),(6,E 3),(9,E 5),(70,lI a4),(71,cN 2 2 19 (Option.map some Z) 0)] [R0 a3,R8 a4 a5 a6 a7 a8,R7 a9,R5 a1,HA,⟨0,[vB true,g (w (v2+y7.bj)),g 0,g (w (1+y8.aO)),g a1.first,g a1.bL,g a1.bf,g a1.bt,g a1.aw,g a1.aF,g a1.aN,g a1.fA,g a1.aI,vB a1.bB,vB a1.bx,vB a1.c7,g a1.aD,g a1.depth,cN 2 2 19 (Option.map some Z) 0]⟩] [] ?_;refine sc jf λ y9 Kf jf=>PD.tD rfl (by kernel_rfl) rfl (dC rfl (cV Kf)) rfl ?_;refine PD.tD rfl (by kernel_rfl) rfl (bX (o':=4) rfl (cV Kf) (λ _ _=>rfl)) rfl ?_;refine PD.load rfl rfl (by kernel_rfl) (by kernel_rfl) (by kernel_rfl) rfl rfl (og (q:=.agg [g y9.lq,g y9.mP,g y9.bw,g y9.ja,g y9.jb,g y9.jQ,g y9.lr,g y9.ph,g y9.lu,vB y9.mQ,vB y9.jR,vB y9.pk,g y9.jS,g y9.ly]) cU rfl Kf rfl) (rdO (cV Kf) (by kernel_rfl)) rfl rfl ?_;refine qd 1 [14,0,1,2,3,4,15,16,17,18] ⟨16352,0,0,[]⟩ [(0,E 1),(1,g A),(3,cN 2 2 19 (Option.map some Z) 0),(6,E 3),(9,E 5),(70,lI a4),(74,.agg [g y9.lq,g y9.mP,g y9.bw,g y9.ja,g y9.jb,g y9.jQ,g y9.lr,g y9.ph,g y9.lu,vB y9.mQ,vB y9.jR,vB y9.pk,g y9.jS,g y9.ly]),(75,.agg (gP a1))] [R0 a3,R8 a4 a5 a6 a7 a8,R7 a9,R5 a1,HA,⟨0,[vB true,g (w (v2+y7.bj)),g 0,g (w (1+y8.aO)),g a1.first,g a1.bL,g a1.bf,g a1.bt,g a1.aw,g a1.aF,g a1.aN,g a1.fA,g a1.aI,vB a1.bB,vB a1.bx,vB a1.c7,g a1.aD,g a1.depth,cN 2 2 19 (Option.map some Z) 0]⟩] [] ?_;refine aq jf λ FF kG jf=>?_;refine PD.call rfl rfl (by kernel_rfl) rfl rfl rfl (ks:=[]) (ts:=[]) (fr1:=[]) rfl rfl rfl trivial (L52 k a4 (bI.mk y9.lq y9.mP y9.bw y9.ja y9.jb y9.jQ y9.lr y9.ph y9.lu y9.mQ y9.jR y9.pk y9.jS y9.ly) a1 _ kG) ?_;rintro _ _ _ ⟨rfl,rfl,rfl⟩;refine⟨_,_,rfl,rfl,?_⟩;refine qd 1 [1,2,3,4,15,16,17,18] ⟨32737,32736,16352,[(14,[],true)]⟩ [(0,E 1),(1,g A),(6,E 3),(9,E 5),(62,cN 2 2 19 (Option.map some Z) 0),(76,g FF)] [R0 a3,R8 a4 a5 a6 a7 a8,R7 a9,R5 a1,HA,⟨0,[vB true,g (w (v2+y7.bj)),g 0,g (w (1+y8.aO)),g a1.first,g a1.bL,g a1.bf,g a1.bt,g a1.aw,g a1.aF,g a1.aN,g a1.fA,g a1.aI,vB a1.bB,vB a1.bx,vB a1.c7,g a1.aD,g a1.depth,cN 2 2 19 (Option.map some Z) 0]⟩] [] ?_;refine sc jf λ Cc Sy jf=>PD.tD rfl (by kernel_rfl) rfl (dC rfl (cV Sy)) rfl ?_;refine PD.tD rfl (by kernel_rfl) rfl (bX (o':=1) rfl (cV Sy) (λ _ _=>rfl)) rfl ?_;refine PD.tD rfl (by kernel_rfl) rfl (bX (o':=1) rfl (cV Sy) (λ _ _=>rfl)) rfl ?_;refine PD.load rfl rfl (by kernel_rfl) (by kernel_rfl) (by kernel_rfl) rfl rfl (og (q:=g Cc.aR) cU rfl Sy rfl) (rdO (cV Sy) (by kernel_rfl)) rfl rfl ?_;refine qd 4 [] ⟨524287,524287,262143,[(18,[5],false),(14,[5],true)]⟩ [(0,E 1),(1,g A),(6,E 3),(9,E 5)] [R0 a3,R8 a4 a5 a6 a7 a8,R7 a9,R5 a1,HA,⟨0,[vB true,g (w (v2+y7.bj)),g (w (Cc.aR+FF)),g (w (1+y8.aO)),g a1.first,g a1.bL,g a1.bf,g a1.bt,g a1.aw,g a1.aF,g a1.aN,g a1.fA,g a1.aI,vB a1.bB,vB a1.bx,vB a1.c7,g a1.aD,g a1.depth,cN 2 2 19 (Option.map some Z) 0]⟩] [] ?_;refine PD.Rr [(0,E 1),(1,g A),(6,E 3),(9,E 5)] [R0 a3,R8 a4 a5 a6 a7 a8,R7 a9,R5 a1,HA,⟨0,[vB true,g (w (v2+y7.bj)),g (w (Cc.aR+FF)),g (w (1+y8.aO)),g a1.first,g a1.bL,g a1.bf,g a1.bt,g a1.aw,g a1.aF,g a1.aN,g a1.fA,g a1.aI,vB a1.bB,vB a1.bx,vB a1.c7,g a1.aD,g a1.depth,cN 2 2 19 (Option.map some Z) 0]⟩] [] (by kernel_rfl) (by kernel_rfl) ?_;exact .skip (bR.end ⟨(ay.mk true (w (v2+y7.bj)) (w (Cc.aR+FF)) (w (1+y8.aO)) a1.first a1.bL a1.bf a1.bt a1.aw a1.aF a1.aN a1.fA a1.aI a1.bB a1.bx a1.c7 a1.aD a1.depth Z),qm [0,1,2,3,5] [] 0 (aA.c (aA.c ⟨⟨_,_,rfl,rfl,eT rfl,aT.refl _⟩,(aA.c ⟨⟨_,_,rfl,rfl,ef (ay.mk true (w (v2+y7.bj)) (w (Cc.aR+FF)) (w (1+y8.aO)) a1.first a1.bL a1.bf a1.bt a1.aw a1.aF a1.aN a1.fA a1.aI a1.bB a1.bx a1.c7 a1.aD a1.depth Z) rfl,(aT.refl _)⟩,aA.z⟩)⟩)) aG.z.c.c.c.c,qs jf⟩)
 rintro _ ⟨v6,OA,rfl⟩;refine OA.c (qo [0,1,2,3,4,5,6,7,8,9] ?_);refine qR 7 ?_;refine ic I λ h21 Sz I=>PO.aX rfl (mE N5 rfl rfl rfl h21 Sz) rfl ?_;refine qt 0 [(9,E 4),(86,g a1.aI),(87,.ptr 2 (0+Int.toNat A * 76))] [R0 a3,R8 a4 a5 a6 a7 a8,R7 a9,R5 a1,⟨0,(aK 2 v6)⟩] [] ?_;refine ic I λ Wg h24 I=>PO.aX rfl (ku (l:=4) (j:=4 * Int.toNat A+Int.toNat a1.aI) (sz:=19) Ow rfl rfl rfl Wg h24 (by omega)) rfl ?_;refine qN 1 ?_;refine qL 1 ?_;refine aq I λ uT xp I=>?_;refine PO.call rfl rfl rfl rfl (ks:=[2,4]) (ts:=[]) (fr1:=[AJ a9,⟨0,(aK 0 v6)⟩]) rfl rfl (bT rfl (bT rfl nm)) ⟨⟨_,rfl,rfl,eT rfl⟩,⟨⟨_,rfl,rfl,ef v6 rfl⟩,trivial⟩⟩ (Ez k (some none) (some (some (4 * Int.toNat A+Int.toNat a1.aI))) a9 v6 _ xp) ?_;rintro _ _ _ ⟨rfl,rfl,rfl⟩;refine⟨_,_,rfl,(cF (oQ (eT rfl)) (cF (oQ (ef uT.2.2 rfl)) ki)),?_⟩;refine .nil (.lone (aq I λ Wa yS I=>PC.mh (λ s=>∃ (v11:List ay),bc s (PS.of 94 [] [R0 a3,R8 a4 a5 a6 a7 a8,R7 v11,⟨0,(aK 2 uT.2.2)⟩] [] 3 0)/\v11=Wa) ?_ ?_))
 ·refine qD yS (λ yS=>?_) λ yS=>?_
  ·refine qL 2 ?_;refine iH yS λ AW h30 yS=>PO.aX rfl (dC rfl (bG h30)) rfl ?_;refine qt 0 [(92,.agg (aK 2 uT.2.2)),(93,cN 4 2 19 (some (some (4 * Int.toNat A+Int.toNat a1.aI))) 0)] [R0 a3,R8 a4 a5 a6 a7 a8,R7 uT.2.1,R5 a1,⟨0,(aK 2 uT.2.2)⟩] [] ?_;refine PO.one rfl (Kb (y':=uT.2.2) cU cUp rfl rfl rfl rfl h30) rfl ?_;exact .nil (PC.skip (bR.end ⟨List.set uT.2.1 (4 * Int.toNat A+Int.toNat a1.aI) uT.2.2,qm [0,1,2,4] [] 0 (aA.c (aA.c ⟨⟨_,_,rfl,rfl,eT rfl,aT.refl _⟩,⟨⟨_,_,rfl,rfl,ef uT.2.2 rfl,(aT.refl _)⟩,aA.z⟩⟩)) aG.z,qs yS⟩))
  exact .aZ (PC.skip (bR.end ⟨uT.2.1,qm [0,1,2,4] [] 0 (aA.c (aA.c ⟨⟨_,_,rfl,rfl,eT rfl,aT.refl _⟩,⟨⟨_,_,rfl,rfl,ef uT.2.2 rfl,(aT.refl _)⟩,aA.z⟩⟩)) aG.z,qs yS⟩))
 rintro _ ⟨v11,IQ,rfl⟩;refine IQ.c ?_;cases I;exact .skip (X1 [0,1,2] [] (fr':=[R0 a3,R8 a4 a5 a6 a7 a8,R7 v11]) (by kernel_rfl) ⟨⟨_,rfl,rfl,rfl⟩,⟨⟨_,rfl,rfl,rfl⟩,⟨⟨_,rfl,rfl,eT rfl⟩,trivial⟩⟩⟩ (.refl _) ⟨rfl,rfl,rfl⟩)
def lX (k:Nat) (A:Int) (a6:Nat):Nat->Int->aE->(List au)->Int->Int->(List Int)->(List ay)->Option ((aE×(List au)×Int×Int×(List Int)×(List ay)) ⊕ (Bool×aE×(List au)×Int×Int×(List Int)×(List ay)))
  | 0,_,_,_,_,_,_,_=>none
  | j5+1,cQ,DB,kW,jM,lG,jE,iR=>
    bif decide (cQ < A) then(Option.bind (α:=(aE×(List au)×Int×Int×(List Int)×(List ay)) ⊕ ((aE×(List au)×Int×Int×(List Int)×(List ay)) ⊕ (Bool×aE×(List au)×Int×Int×(List Int)×(List ay)))) ((UG k DB 1).bind λ nD=>
    bif !nD.1 then(some (.inr (.inr (false,nD.2,kW,jM,lG,jE,iR)))) else(Option.bind (α:=Int) (bif decide (cQ>=0) then(bp jE cQ λ y70=>
    some y70) else(some (-1))) λ(Q3:Int)=>
    bp jE A λ Zb=>
    (AZ k kW jM Q3 Zb).bind λ jk=>
    bif decide (cQ < 0) then((tE k A jk.1 none nD.2 kW jM lG jE a6 iR).bind λ bV=>
    some (.inl (bV.1,bV.2.1,bV.2.2.1,bV.2.2.2.1,bV.2.2.2.2.1,bV.2.2.2.2.2))) else(Option.bind (α:=aE×(List au)×Int×Int×(List Int)×(List ay)) (Option.bind (α:=aE×(List au)×Int×Int×(List Int)×(List ay)) (eZ cQ a6 (eZ 0 4 (nW iR (some (4 * Int.toNat cQ+Int.toNat 0)) λ Wl=>
    bif Wl.gE then((tE k A jk.1 (some (4 * Int.toNat cQ+Int.toNat 0)) nD.2 kW jM lG jE a6 iR).bind λ wg=>
    some (wg.1,wg.2.1,wg.2.2.1,wg.2.2.2.1,wg.2.2.2.2.1,wg.2.2.2.2.2)) else(some (nD.2,kW,jM,lG,jE,iR))))) λ(DT,oN,DU,DV,nN,oO)=>
    Option.bind (α:=aE×(List au)×Int×Int×(List Int)×(List ay)) (eZ cQ a6 (eZ 1 4 (nW oO (some (4 * Int.toNat cQ+Int.toNat 1)) λ Th=>
    bif Th.gE then((tE k A jk.1 (some (4 * Int.toNat cQ+Int.toNat 1)) DT oN DU DV nN a6 oO).bind λ uR=>
    some (uR.1,uR.2.1,uR.2.2.1,uR.2.2.2.1,uR.2.2.2.2.1,uR.2.2.2.2.2)) else(some (DT,oN,DU,DV,nN,oO))))) λ(rI,rJ,lK,rK,rL,rq)=>
    Option.bind (α:=aE×(List au)×Int×Int×(List Int)×(List ay)) (eZ cQ a6 (eZ 2 4 (nW rq (some (4 * Int.toNat cQ+Int.toNat 2)) λ Ti=>
    bif Ti.gE then((tE k A jk.1 (some (4 * Int.toNat cQ+Int.toNat 2)) rI rJ lK rK rL a6 rq).bind λ gS=>
    some (gS.1,gS.2.1,gS.2.2.1,gS.2.2.2.1,gS.2.2.2.2.1,gS.2.2.2.2.2)) else(some (rI,rJ,lK,rK,rL,rq))))) λ(lL,lO,lP,lQ,lR,kZ)=>
    Option.bind (α:=aE×(List au)×Int×Int×(List Int)×(List ay)) (eZ cQ a6 (eZ 3 4 (nW kZ (some (4 * Int.toNat cQ+Int.toNat 3)) λ yh=>
    bif yh.gE then((tE k A jk.1 (some (4 * Int.toNat cQ+Int.toNat 3)) lL lO lP lQ lR a6 kZ).bind λ IT=>
    some (IT.1,IT.2.1,IT.2.2.1,IT.2.2.2.1,IT.2.2.2.2.1,IT.2.2.2.2.2)) else(some (lL,lO,lP,lQ,lR,kZ))))) λ(kH,kI,kJ,kK,kL,eN)=>
    some (kH,kI,kJ,kK,kL,eN)) λ(FG,FH,FI,UJ,UK,IU)=>
    some (.inl (FG,FH,FI,UJ,UK,IU))))) (Sum.elim (λ(UL,UM,UN,A1,rE,DF)=>
    lX k A a6 j5 (w (cQ+1)) UL UM UN A1 rE DF) some)) else(some (.inl (DB,kW,jM,lG,jE,iR)))
def BB (k:Nat) (A:Int) (a1:aE) (Z:List au) (a3:Int) (a4:Int) (a5:List Int) (a6:Nat) (a7:List ay):Option (Bool×aE×(List au)×Int×Int×(List Int)×(List ay)):=
(Ey k A a1 Z a3 a4 a5 a6 a7).bind λ r1=>
Option.bind (α:=(aE×(List au)×Int×Int×(List Int)×(List ay)) ⊕ (Bool×aE×(List au)×Int×Int×(List Int)×(List ay))) (lX k A a6 k r1.1 r1.2.1 r1.2.2.1 r1.2.2.2.1 r1.2.2.2.2.1 r1.2.2.2.2.2.1 r1.2.2.2.2.2.2) (Sum.elim (λ(v8,v9,v10,v11,mT,hH)=>
some (true,v8,v9,v10,v11,mT,hH)) some)
theorem Yc (k:Nat) (A:Int) (a1:aE) (Z:List au) (a3:Int) (a4:Int) (a5:List Int) (a6:Nat) (a7:List ay) (r:Bool×aE×(List au)×Int×Int×(List Int)×(List ay)) (I:BB k A a1 Z a3 a4 a5 a6 a7=some r):PF Try.prog fK 30 [E 1,g A] [R0 a1,R8 Z a3 a4 a5 a6,R7 a7] [] (λ p fr tk=>p=vB r.1/\fr=[R0 r.2.1,R8 r.2.2.1 r.2.2.2.1 r.2.2.2.2.1 r.2.2.2.2.2.1 a6,R7 r.2.2.2.2.2.2]/\tk=[]):=by
 unfold BB at I;refine qP Try.func30 ?_;refine qr 2 ?_;refine qM 2 ?_;refine aq I λ r1 e2 I=>?_;refine PO.call rfl rfl rfl rfl (ks:=[0,1,2]) (ts:=[]) (fr1:=[R0 a1,R8 Z a3 a4 a5 a6,R7 a7]) rfl rfl rfl ⟨⟨_,rfl,rfl,rfl⟩,⟨⟨_,rfl,rfl,rfl⟩,⟨⟨_,rfl,rfl,eT rfl⟩,trivial⟩⟩⟩ (X9 k A a1 Z a3 a4 a5 a6 a7 _ e2) ?_;rintro _ _ _ ⟨rfl,rfl,rfl⟩;refine⟨_,_,rfl,(cF rfl (cF rfl (cF (oQ (eT rfl)) ki))),?_⟩;refine qN 1 ?_;refine aq I λ x3 e4 I=>PC.bQ (λ s=>∃ (v8:aE) (v9:List au) (v10:Int) (v11:Int) (mT:List Int) (hH:List ay),bc s (PS.of 81 [(4,vB false)] [R0 v8,R8 v9 v10 v11 mT a6,R7 hH] [] 3 0)/\.inl (v8,v9,v10,v11,mT,hH)=x3) ?_ ?_
 ·refine PC.loop (λ j5 s=>∃ (cQ:Int) (DB:aE) (kW:List au) (jM:Int) (lG:Int) (jE:List Int) (iR:List ay),bc s (PS.of 81 [(0,E 1),(1,g A),(4,vB false),(5,g cQ)] [R0 DB,R8 kW jM lG jE a6,R7 iR] [] 3 0)/\lX k A a6 j5 cQ DB kW jM lG jE iR=some x3) (λ j5 s=>?_) k ⟨r1.1,r1.2.1,r1.2.2.1,r1.2.2.2.1,r1.2.2.2.2.1,r1.2.2.2.2.2.1,r1.2.2.2.2.2.2,qm [0,1,2] [] 0 (aA.c (aA.c ⟨⟨_,_,rfl,rfl,eT rfl,aT.refl _⟩,aA.z⟩)) aG.z.c.c.c.c,e4⟩;rintro⟨cQ,DB,kW,jM,lG,jE,iR,w6,e4⟩;refine w6.c ?_;obtain _ | j5:=j5
  · rw[lX] at e4; cases e4
  rw[lX] at e4;refine qK 4 ?_;refine qD e4 (λ e4=>?_) λ e4=>?_
  ·refine .aZ (aq e4 λ x8 e9 e4=>PC.bQ (λ s=>∃ (UL:aE) (UM:List au) (UN:Int) (A1:Int) (rE:List Int) (DF:List ay),bc s (PS.of 81 [(0,E 1),(1,g A),(4,vB false),(5,g cQ)] [R0 UL,R8 UM UN A1 rE a6,R7 DF] [] 3 0)/\.inl (UL,UM,UN,A1,rE,DF)=x8) ?_ ?_)
   ·refine qM 4 ?_;refine aq e9 λ nD xZ e9=>qG [0] [] (L58 k DB 1 _ xZ) ⟨⟨_,rfl,rfl,rfl⟩,trivial⟩ ?_;refine qN 1 ?_;refine qD e9 (λ e9=>?_) λ e9=>?_
    ·refine qK 2 ?_;cases e9;cases e4;cases I;exact .ret (aC.ct (bh.ret (aC.ct (q9 [0,1,2] [] (fr':=[R0 nD.2,R8 kW jM lG jE a6,R7 iR]) (by kernel_rfl) ⟨⟨_,rfl,rfl,rfl⟩,⟨⟨_,rfl,rfl,rfl⟩,⟨⟨_,rfl,rfl,eT rfl⟩,trivial⟩⟩⟩ (.refl _) ⟨rfl,rfl,rfl⟩))))
    refine .aZ (qr 2 ?_);refine qK 3 ?_;refine aq e9 λ xV fB e9=>PC.mh (λ s=>∃ (Q3:Int),bc s (PS.of 81 [(0,E 1),(1,g A),(4,vB false),(5,g cQ),(6,g Q3)] [R0 nD.2,R8 kW jM lG jE a6,R7 iR] [] 3 0)/\Q3=xV) ?_ ?_
    ·refine qD fB (λ fB=>?_) λ fB=>?_
     ·refine qL 5 ?_;refine qI kF fB λ y70 fB=>?_;refine qN 2 ?_;exact .skip (bR.end ⟨y70,qm [0,1,2] [] 0 (aA.c (aA.c ⟨⟨_,_,rfl,rfl,eT rfl,aT.refl _⟩,aA.z⟩)) aG.z.c.c.c.c.c,qs fB⟩)
     exact .aZ (PC.skip (bR.end ⟨(-1),qm [0,1,2] [] 0 (aA.c (aA.c ⟨⟨_,_,rfl,rfl,eT rfl,aT.refl _⟩,aA.z⟩)) aG.z.c.c.c.c.c,qs fB⟩))
    rintro _ ⟨Q3,FX,rfl⟩;refine FX.c (PC.pK [0,1,2,3,4,5,6,7,8,9,10,11,12,13,14,15,16,17,18,20,21,19,22] (by kernel_rfl) ?_);refine qd 14 [14,15,16,17,18,20,21,19,22] ⟨16383,0,0,[]⟩ [(0,E 1),(1,g A),(4,vB false),(5,g cQ),(38,lI kW),(42,g jM),(43,g Q3),(47,lN jE),(48,g A)] [R0 nD.2,R8 kW jM lG jE a6,R7 iR] [] ?_;refine oE e9 λ Zb Sy h20 e9=>PD.tD rfl (by kernel_rfl) rfl (iY kF rfl rfl rfl Sy (nj h20)) rfl ?_;refine qd 1 [16,17,18,20,21,19,22] ⟨65535,0,0,[]⟩ [(0,E 1),(1,g A),(4,vB false),(5,g cQ),(38,lI kW),(42,g jM),(43,g Q3),(50,g Zb)] [R0 nD.2,R8 kW jM lG jE a6,R7 iR] [] ?_;refine aq e9 λ jk Sr e9=>?_;refine PD.call rfl rfl (by kernel_rfl) rfl rfl rfl (ks:=[]) (ts:=[]) (fr1:=[]) rfl rfl rfl trivial (L59 k kW jM Q3 Zb _ Sr) ?_;rintro _ _ _ ⟨rfl,rfl,rfl⟩;refine⟨_,_,rfl,rfl,?_⟩;refine qd 4 [19,22] ⟨3670015,3670015,1572863,[(21,[3],false),(16,[3],true)]⟩ [(0,E 1),(1,g A),(4,vB false),(5,g cQ),(7,E 3),(34,.fX [.agg (gP jk.1),g jk.2])] [R0 nD.2,R8 kW jM lG jE a6,R7 iR,R5 jk.1] [] ?_;refine qd 2 [] ⟨8388607,3670015,1572863,[(21,[3],false),(16,[3],true)]⟩ [(0,E 1),(1,g A),(4,vB false),(5,g cQ),(7,E 3)] [R0 nD.2,R8 kW jM lG jE a6,R7 iR,R5 jk.1] [] ?_;refine PD.Rr [(0,E 1),(1,g A),(4,vB false),(5,g cQ),(7,E 3)] [R0 nD.2,R8 kW jM lG jE a6,R7 iR,R5 jk.1] [] (by kernel_rfl) (by kernel_rfl) ?_;refine qK 3 ?_;refine qD e9 (λ e9=>?_) λ e9=>?_
    ·refine qM 3 ?_;refine aq e9 λ bV yT e9=>?_;refine PO.call rfl rfl rfl rfl (ks:=[0,1,2]) (ts:=[]) (fr1:=[R0 nD.2,R8 kW jM lG jE a6,R7 iR]) rfl rfl rfl ⟨⟨_,rfl,rfl,rfl⟩,⟨⟨_,rfl,rfl,rfl⟩,⟨⟨_,rfl,rfl,eT rfl⟩,trivial⟩⟩⟩ (EA k A jk.1 none nD.2 kW jM lG jE a6 iR _ yT) ?_;rintro _ _ _ ⟨rfl,rfl,rfl⟩;refine⟨_,_,rfl,(cF rfl (cF rfl (cF (oQ (eT rfl)) ki))),?_⟩;exact .nil (PC.exit (aC.eF ⟨bV.1,bV.2.1,bV.2.2.1,bV.2.2.2.1,bV.2.2.2.2.1,bV.2.2.2.2.2,qm [0,1,2] [] 0 (aA.c (aA.c ⟨⟨_,_,rfl,rfl,eT rfl,aT.refl _⟩,aA.z⟩)) aG.z.c.c.c.c,qs e9⟩))
    refine .aZ (qr 2 ?_);refine .lone (aq e9 λ Wh uS e9=>PC.bQ (λ s=>∃ (FG:aE) (FH:List au) (FI:Int) (UJ:Int) (UK:List Int) (IU:List ay),bc s (PS.of 81 [(0,E 1),(1,g A),(4,vB false),(5,g cQ)] [R0 FG,R8 FH FI UJ UK a6,R7 IU] [] 3 0)/\(FG,FH,FI,UJ,UK,IU)=Wh) ?_ ?_)
    ·refine PC.m8 ?_;refine .region (qY 1 [(0,E 1),(1,g A),(4,vB false),(5,g cQ),(7,E 3),(60,g 0),(61,vB true)] [R0 nD.2,R8 kW jM lG jE a6,R7 iR,R5 jk.1] [] ?_);refine PC.cond rfl (λ _=>?_) (λ h28=>Bool.noConfusion h28);refine .aZ (aq uS λ x29 xY uS=>PC.bQ (λ s=>∃ (DT:aE) (oN:List au) (DU:Int) (DV:Int) (nN:List Int) (oO:List ay),bc s (PS.of 81 [(0,E 1),(1,g A),(4,vB false),(5,g cQ),(7,E 3),(60,g 0)] [R0 DT,R8 oN DU DV nN a6,R7 oO,R5 jk.1] [] 3 0)/\(DT,oN,DU,DV,nN,oO)=x29) ?_ ?_)
     ·refine .region (qY 2 [(0,E 1),(1,g A),(4,vB false),(5,g cQ),(7,E 3),(9,g 0),(60,g 0)] [R0 nD.2,R8 kW jM lG jE a6,R7 iR,R5 jk.1] [] ?_);refine .region (qt 6 [(0,E 1),(1,g A),(4,vB false),(5,g cQ),(7,E 3),(60,g 0),(66,.sl 2 0 a6 a6),(67,g cQ),(68,g 0)] [R0 nD.2,R8 kW jM lG jE a6,R7 iR,R5 jk.1] [] ?_);refine ic xY λ h31 h32 xY=>PO.aX rfl (mE N5 rfl rfl rfl h31 h32) rfl ?_;refine qt 0 [(0,E 1),(1,g A),(4,vB false),(5,g cQ),(7,E 3),(60,g 0),(68,g 0),(69,.ptr 2 (0+Int.toNat cQ * 76))] [R0 nD.2,R8 kW jM lG jE a6,R7 iR,R5 jk.1] [] ?_;refine ic xY λ h33 h34 xY=>PO.aX rfl (ku (l:=2) (j:=4 * Int.toNat cQ+Int.toNat 0) (sz:=19) Ow rfl rfl rfl h33 h34 (by omega)) rfl ?_;refine qY 1 [(0,E 1),(1,g A),(4,vB false),(5,g cQ),(7,E 3),(10,cN 2 2 19 (some (some (4 * Int.toNat cQ+Int.toNat 0))) 0),(60,g 0)] [R0 nD.2,R8 kW jM lG jE a6,R7 iR,R5 jk.1] [] ?_;refine .region (qt 1 [(0,E 1),(1,g A),(4,vB false),(5,g cQ),(7,E 3),(10,cN 2 2 19 (some (some (4 * Int.toNat cQ+Int.toNat 0))) 0),(60,g 0),(71,cN 2 2 19 (some (some (4 * Int.toNat cQ+Int.toNat 0))) 0)] [R0 nD.2,R8 kW jM lG jE a6,R7 iR,R5 jk.1] [] ?_);refine sc xY λ Wl Zc xY=>PO.aX rfl (dC rfl (cV Zc)) rfl ?_;refine PO.aX rfl (bX (o':=0) rfl (cV Zc) (λ _ _=>rfl)) rfl ?_;refine PO.aX rfl (dX rfl (og (q:=vB Wl.gE) cU rfl Zc rfl)) rfl ?_;refine .nil (.lone (qD xY (λ xY=>?_) λ xY=>?_))
      ·refine .region (qt 4 [(0,E 1),(1,g A),(4,vB false),(5,g cQ),(7,E 3),(60,g 0),(75,E 1),(76,g A),(77,.agg (gP jk.1)),(78,cN 2 2 19 (some (some (4 * Int.toNat cQ+Int.toNat 0))) 0)] [R0 nD.2,R8 kW jM lG jE a6,R7 iR,R5 jk.1] [] ?_);refine aq xY λ wg OO xY=>?_;refine PO.call rfl rfl rfl rfl (ks:=[0,1,2]) (ts:=[]) (fr1:=[R0 nD.2,R8 kW jM lG jE a6,R7 iR]) rfl rfl (bT rfl (bT rfl (bT rfl (bT rfl nm)))) ⟨⟨_,rfl,rfl,rfl⟩,⟨⟨_,rfl,rfl,rfl⟩,⟨⟨_,rfl,rfl,eT rfl⟩,trivial⟩⟩⟩ (EA k A jk.1 (some (4 * Int.toNat cQ+Int.toNat 0)) nD.2 kW jM lG jE a6 iR _ OO) ?_;rintro _ _ _ ⟨rfl,rfl,rfl⟩;refine⟨_,_,rfl,(cF rfl (cF rfl (cF (oQ (eT rfl)) ki))),?_⟩;exact .nil (PC.skip (aC.end ⟨wg.1,wg.2.1,wg.2.2.1,wg.2.2.2.1,wg.2.2.2.2.1,wg.2.2.2.2.2,qm [0,1,2,3] [] 0 (aA.c (aA.c ⟨⟨_,_,rfl,rfl,eT rfl,aT.refl _⟩,aA.z.c⟩)) aG.z.c.c.c.c.c.c,qs xY⟩))
      exact .aZ (PC.skip (aC.end ⟨nD.2,kW,jM,lG,jE,iR,qm [0,1,2,3] [] 0 (aA.c (aA.c ⟨⟨_,_,rfl,rfl,eT rfl,aT.refl _⟩,aA.z.c⟩)) aG.z.c.c.c.c.c.c,qs xY⟩))
     rintro _ ⟨DT,oN,DU,DV,nN,oO,w39,rfl⟩;refine w39.c (.lone (.region (qY 2 [(0,E 1),(1,g A),(4,vB false),(5,g cQ),(7,E 3),(60,g 1)] [R0 DT,R8 oN DU DV nN a6,R7 oO,R5 jk.1] [] ?_)));refine .skip (gi.end ?_);refine PC.m8 ?_;refine .region (qY 1 [(0,E 1),(1,g A),(4,vB false),(5,g cQ),(7,E 3),(60,g 1),(61,vB true)] [R0 DT,R8 oN DU DV nN a6,R7 oO,R5 jk.1] [] ?_);refine PC.cond rfl (λ _=>?_) (λ UH=>Bool.noConfusion UH);refine .aZ (aq uS λ So rh uS=>PC.bQ (λ s=>∃ (rI:aE) (rJ:List au) (lK:Int) (rK:Int) (rL:List Int) (rq:List ay),bc s (PS.of 81 [(0,E 1),(1,g A),(4,vB false),(5,g cQ),(7,E 3),(60,g 1)] [R0 rI,R8 rJ lK rK rL a6,R7 rq,R5 jk.1] [] 3 0)/\(rI,rJ,lK,rK,rL,rq)=So) ?_ ?_)
     ·refine .region (qY 2 [(0,E 1),(1,g A),(4,vB false),(5,g cQ),(7,E 3),(9,g 1),(60,g 1)] [R0 DT,R8 oN DU DV nN a6,R7 oO,R5 jk.1] [] ?_);refine .region (qt 6 [(0,E 1),(1,g A),(4,vB false),(5,g cQ),(7,E 3),(60,g 1),(66,.sl 2 0 a6 a6),(67,g cQ),(68,g 1)] [R0 DT,R8 oN DU DV nN a6,R7 oO,R5 jk.1] [] ?_);refine ic rh λ h43 h44 rh=>PO.aX rfl (mE N5 rfl rfl rfl h43 h44) rfl ?_;refine qt 0 [(0,E 1),(1,g A),(4,vB false),(5,g cQ),(7,E 3),(60,g 1),(68,g 1),(69,.ptr 2 (0+Int.toNat cQ * 76))] [R0 DT,R8 oN DU DV nN a6,R7 oO,R5 jk.1] [] ?_;refine ic rh λ Wm UO rh=>PO.aX rfl (ku (l:=2) (j:=4 * Int.toNat cQ+Int.toNat 1) (sz:=19) Ow rfl rfl rfl Wm UO (by omega)) rfl ?_;refine qY 1 [(0,E 1),(1,g A),(4,vB false),(5,g cQ),(7,E 3),(10,cN 2 2 19 (some (some (4 * Int.toNat cQ+Int.toNat 1))) 0),(60,g 1)] [R0 DT,R8 oN DU DV nN a6,R7 oO,R5 jk.1] [] ?_;refine .region (qt 1 [(0,E 1),(1,g A),(4,vB false),(5,g cQ),(7,E 3),(10,cN 2 2 19 (some (some (4 * Int.toNat cQ+Int.toNat 1))) 0),(60,g 1),(71,cN 2 2 19 (some (some (4 * Int.toNat cQ+Int.toNat 1))) 0)] [R0 DT,R8 oN DU DV nN a6,R7 oO,R5 jk.1] [] ?_);refine sc rh λ Th SA rh=>PO.aX rfl (dC rfl (cV SA)) rfl ?_;refine PO.aX rfl (bX (o':=0) rfl (cV SA) (λ _ _=>rfl)) rfl ?_;refine PO.aX rfl (dX rfl (og (q:=vB Th.gE) cU rfl SA rfl)) rfl ?_;refine .nil (.lone (qD rh (λ rh=>?_) λ rh=>?_))
      ·refine .region (qt 4 [(0,E 1),(1,g A),(4,vB false),(5,g cQ),(7,E 3),(60,g 1),(75,E 1),(76,g A),(77,.agg (gP jk.1)),(78,cN 2 2 19 (some (some (4 * Int.toNat cQ+Int.toNat 1))) 0)] [R0 DT,R8 oN DU DV nN a6,R7 oO,R5 jk.1] [] ?_);refine aq rh λ uR OE rh=>?_;refine PO.call rfl rfl rfl rfl (ks:=[0,1,2]) (ts:=[]) (fr1:=[R0 DT,R8 oN DU DV nN a6,R7 oO]) rfl rfl (bT rfl (bT rfl (bT rfl (bT rfl nm)))) ⟨⟨_,rfl,rfl,rfl⟩,⟨⟨_,rfl,rfl,rfl⟩,⟨⟨_,rfl,rfl,eT rfl⟩,trivial⟩⟩⟩ (EA k A jk.1 (some (4 * Int.toNat cQ+Int.toNat 1)) DT oN DU DV nN a6 oO _ OE) ?_;rintro _ _ _ ⟨rfl,rfl,rfl⟩;refine⟨_,_,rfl,(cF rfl (cF rfl (cF (oQ (eT rfl)) ki))),?_⟩;exact .nil (PC.skip (aC.end ⟨uR.1,uR.2.1,uR.2.2.1,uR.2.2.2.1,uR.2.2.2.2.1,uR.2.2.2.2.2,qm [0,1,2,3] [] 0 (aA.c (aA.c ⟨⟨_,_,rfl,rfl,eT rfl,aT.refl _⟩,aA.z.c⟩)) aG.z.c.c.c.c.c.c,qs rh⟩))
      exact .aZ (PC.skip (aC.end ⟨DT,oN,DU,DV,nN,oO,qm [0,1,2,3] [] 0 (aA.c (aA.c ⟨⟨_,_,rfl,rfl,eT rfl,aT.refl _⟩,aA.z.c⟩)) aG.z.c.c.c.c.c.c,qs rh⟩))
     rintro _ ⟨rI,rJ,lK,rK,rL,rq,Wn,rfl⟩;refine Wn.c (.lone (.region (qY 2 [(0,E 1),(1,g A),(4,vB false),(5,g cQ),(7,E 3),(60,g 2)] [R0 rI,R8 rJ lK rK rL a6,R7 rq,R5 jk.1] [] ?_)));refine .skip (gi.end ?_);refine PC.m8 ?_;refine .region (qY 1 [(0,E 1),(1,g A),(4,vB false),(5,g cQ),(7,E 3),(60,g 2),(61,vB true)] [R0 rI,R8 rJ lK rK rL a6,R7 rq,R5 jk.1] [] ?_);refine PC.cond rfl (λ _=>?_) (λ h52=>Bool.noConfusion h52);refine .aZ (aq uS λ Wo tO uS=>PC.bQ (λ s=>∃ (lL:aE) (lO:List au) (lP:Int) (lQ:Int) (lR:List Int) (kZ:List ay),bc s (PS.of 81 [(0,E 1),(1,g A),(4,vB false),(5,g cQ),(7,E 3),(60,g 2)] [R0 lL,R8 lO lP lQ lR a6,R7 kZ,R5 jk.1] [] 3 0)/\(lL,lO,lP,lQ,lR,kZ)=Wo) ?_ ?_)
     ·refine .region (qY 2 [(0,E 1),(1,g A),(4,vB false),(5,g cQ),(7,E 3),(9,g 2),(60,g 2)] [R0 rI,R8 rJ lK rK rL a6,R7 rq,R5 jk.1] [] ?_);refine .region (qt 6 [(0,E 1),(1,g A),(4,vB false),(5,g cQ),(7,E 3),(60,g 2),(66,.sl 2 0 a6 a6),(67,g cQ),(68,g 2)] [R0 rI,R8 rJ lK rK rL a6,R7 rq,R5 jk.1] [] ?_);refine ic tO λ h55 h56 tO=>PO.aX rfl (mE N5 rfl rfl rfl h55 h56) rfl ?_;refine qt 0 [(0,E 1),(1,g A),(4,vB false),(5,g cQ),(7,E 3),(60,g 2),(68,g 2),(69,.ptr 2 (0+Int.toNat cQ * 76))] [R0 rI,R8 rJ lK rK rL a6,R7 rq,R5 jk.1] [] ?_;refine ic tO λ h57 h58 tO=>PO.aX rfl (ku (l:=2) (j:=4 * Int.toNat cQ+Int.toNat 2) (sz:=19) Ow rfl rfl rfl h57 h58 (by omega)) rfl ?_;refine qY 1 [(0,E 1),(1,g A),(4,vB false),(5,g cQ),(7,E 3),(10,cN 2 2 19 (some (some (4 * Int.toNat cQ+Int.toNat 2))) 0),(60,g 2)] [R0 rI,R8 rJ lK rK rL a6,R7 rq,R5 jk.1] [] ?_;refine .region (qt 1 [(0,E 1),(1,g A),(4,vB false),(5,g cQ),(7,E 3),(10,cN 2 2 19 (some (some (4 * Int.toNat cQ+Int.toNat 2))) 0),(60,g 2),(71,cN 2 2 19 (some (some (4 * Int.toNat cQ+Int.toNat 2))) 0)] [R0 rI,R8 rJ lK rK rL a6,R7 rq,R5 jk.1] [] ?_);refine sc tO λ Ti UP tO=>PO.aX rfl (dC rfl (cV UP)) rfl ?_;refine PO.aX rfl (bX (o':=0) rfl (cV UP) (λ _ _=>rfl)) rfl ?_;refine PO.aX rfl (dX rfl (og (q:=vB Ti.gE) cU rfl UP rfl)) rfl ?_;refine .nil (.lone (qD tO (λ tO=>?_) λ tO=>?_))
      ·refine .region (qt 4 [(0,E 1),(1,g A),(4,vB false),(5,g cQ),(7,E 3),(60,g 2),(75,E 1),(76,g A),(77,.agg (gP jk.1)),(78,cN 2 2 19 (some (some (4 * Int.toNat cQ+Int.toNat 2))) 0)] [R0 rI,R8 rJ lK rK rL a6,R7 rq,R5 jk.1] [] ?_);refine aq tO λ gS e62 tO=>?_;refine PO.call rfl rfl rfl rfl (ks:=[0,1,2]) (ts:=[]) (fr1:=[R0 rI,R8 rJ lK rK rL a6,R7 rq]) rfl rfl (bT rfl (bT rfl (bT rfl (bT rfl nm)))) ⟨⟨_,rfl,rfl,rfl⟩,⟨⟨_,rfl,rfl,rfl⟩,⟨⟨_,rfl,rfl,eT rfl⟩,trivial⟩⟩⟩ (EA k A jk.1 (some (4 * Int.toNat cQ+Int.toNat 2)) rI rJ lK rK rL a6 rq _ e62) ?_;rintro _ _ _ ⟨rfl,rfl,rfl⟩;refine⟨_,_,rfl,(cF rfl (cF rfl (cF (oQ (eT rfl)) ki))),?_⟩;exact .nil (PC.skip (aC.end ⟨gS.1,gS.2.1,gS.2.2.1,gS.2.2.2.1,gS.2.2.2.2.1,gS.2.2.2.2.2,qm [0,1,2,3] [] 0 (aA.c (aA.c ⟨⟨_,_,rfl,rfl,eT rfl,aT.refl _⟩,aA.z.c⟩)) aG.z.c.c.c.c.c.c,qs tO⟩))
      exact .aZ (PC.skip (aC.end ⟨rI,rJ,lK,rK,rL,rq,qm [0,1,2,3] [] 0 (aA.c (aA.c ⟨⟨_,_,rfl,rfl,eT rfl,aT.refl _⟩,aA.z.c⟩)) aG.z.c.c.c.c.c.c,qs tO⟩))
     rintro _ ⟨lL,lO,lP,lQ,lR,kZ,w63,rfl⟩;refine w63.c (.lone (.region (qY 2 [(0,E 1),(1,g A),(4,vB false),(5,g cQ),(7,E 3),(60,g 3)] [R0 lL,R8 lO lP lQ lR a6,R7 kZ,R5 jk.1] [] ?_)));refine .skip (gi.end ?_);refine PC.m8 ?_;refine .region (qY 1 [(0,E 1),(1,g A),(4,vB false),(5,g cQ),(7,E 3),(60,g 3),(61,vB true)] [R0 lL,R8 lO lP lQ lR a6,R7 kZ,R5 jk.1] [] ?_);refine PC.cond rfl (λ _=>?_) (λ h64=>Bool.noConfusion h64);refine .aZ (aq uS λ UQ sL uS=>PC.bQ (λ s=>∃ (kH:aE) (kI:List au) (kJ:Int) (kK:Int) (kL:List Int) (eN:List ay),bc s (PS.of 81 [(0,E 1),(1,g A),(4,vB false),(5,g cQ),(7,E 3),(60,g 3)] [R0 kH,R8 kI kJ kK kL a6,R7 eN,R5 jk.1] [] 3 0)/\(kH,kI,kJ,kK,kL,eN)=UQ) ?_ ?_)
     ·refine .region (qY 2 [(0,E 1),(1,g A),(4,vB false),(5,g cQ),(7,E 3),(9,g 3),(60,g 3)] [R0 lL,R8 lO lP lQ lR a6,R7 kZ,R5 jk.1] [] ?_);refine .region (qt 6 [(0,E 1),(1,g A),(4,vB false),(5,g cQ),(7,E 3),(60,g 3),(66,.sl 2 0 a6 a6),(67,g cQ),(68,g 3)] [R0 lL,R8 lO lP lQ lR a6,R7 kZ,R5 jk.1] [] ?_);refine ic sL λ h67 h68 sL=>PO.aX rfl (mE N5 rfl rfl rfl h67 h68) rfl ?_;refine qt 0 [(0,E 1),(1,g A),(4,vB false),(5,g cQ),(7,E 3),(60,g 3),(68,g 3),(69,.ptr 2 (0+Int.toNat cQ * 76))] [R0 lL,R8 lO lP lQ lR a6,R7 kZ,R5 jk.1] [] ?_;refine ic sL λ h69 h70 sL=>PO.aX rfl (ku (l:=2) (j:=4 * Int.toNat cQ+Int.toNat 3) (sz:=19) Ow rfl rfl rfl h69 h70 (by omega)) rfl ?_;refine qY 1 [(0,E 1),(1,g A),(4,vB false),(5,g cQ),(7,E 3),(10,cN 2 2 19 (some (some (4 * Int.toNat cQ+Int.toNat 3))) 0),(60,g 3)] [R0 lL,R8 lO lP lQ lR a6,R7 kZ,R5 jk.1] [] ?_;refine .region (qt 1 [(0,E 1),(1,g A),(4,vB false),(5,g cQ),(7,E 3),(10,cN 2 2 19 (some (some (4 * Int.toNat cQ+Int.toNat 3))) 0),(60,g 3),(71,cN 2 2 19 (some (some (4 * Int.toNat cQ+Int.toNat 3))) 0)] [R0 lL,R8 lO lP lQ lR a6,R7 kZ,R5 jk.1] [] ?_);refine sc sL λ yh Wp sL=>PO.aX rfl (dC rfl (cV Wp)) rfl ?_;refine PO.aX rfl (bX (o':=0) rfl (cV Wp) (λ _ _=>rfl)) rfl ?_;refine PO.aX rfl (dX rfl (og (q:=vB yh.gE) cU rfl Wp rfl)) rfl ?_;refine .nil (.lone (qD sL (λ sL=>?_) λ sL=>?_))
      ·refine .region (qt 4 [(0,E 1),(1,g A),(4,vB false),(5,g cQ),(7,E 3),(60,g 3),(75,E 1),(76,g A),(77,.agg (gP jk.1)),(78,cN 2 2 19 (some (some (4 * Int.toNat cQ+Int.toNat 3))) 0)] [R0 lL,R8 lO lP lQ lR a6,R7 kZ,R5 jk.1] [] ?_);refine aq sL λ IT A2 sL=>?_;refine PO.call rfl rfl rfl rfl (ks:=[0,1,2]) (ts:=[]) (fr1:=[R0 lL,R8 lO lP lQ lR a6,R7 kZ]) rfl rfl (bT rfl (bT rfl (bT rfl (bT rfl nm)))) ⟨⟨_,rfl,rfl,rfl⟩,⟨⟨_,rfl,rfl,rfl⟩,⟨⟨_,rfl,rfl,eT rfl⟩,trivial⟩⟩⟩ (EA k A jk.1 (some (4 * Int.toNat cQ+Int.toNat 3)) lL lO lP lQ lR a6 kZ _ A2) ?_;rintro _ _ _ ⟨rfl,rfl,rfl⟩;refine⟨_,_,rfl,(cF rfl (cF rfl (cF (oQ (eT rfl)) ki))),?_⟩;exact .nil (PC.skip (aC.end ⟨IT.1,IT.2.1,IT.2.2.1,IT.2.2.2.1,IT.2.2.2.2.1,IT.2.2.2.2.2,qm [0,1,2,3] [] 0 (aA.c (aA.c ⟨⟨_,_,rfl,rfl,eT rfl,aT.refl _⟩,aA.z.c⟩)) aG.z.c.c.c.c.c.c,qs sL⟩))
      exact .aZ (PC.skip (aC.end ⟨lL,lO,lP,lQ,lR,kZ,qm [0,1,2,3] [] 0 (aA.c (aA.c ⟨⟨_,_,rfl,rfl,eT rfl,aT.refl _⟩,aA.z.c⟩)) aG.z.c.c.c.c.c.c,qs sL⟩))
     rintro _ ⟨kH,kI,kJ,kK,kL,eN,w75,rfl⟩;refine w75.c (.lone (.region (qY 2 [(0,E 1),(1,g A),(4,vB false),(5,g cQ),(7,E 3),(60,g 4)] [R0 kH,R8 kI kJ kK kL a6,R7 eN,R5 jk.1] [] ?_)));refine .skip (gi.end ?_);refine PC.m8 ?_;refine .region (qY 1 [(0,E 1),(1,g A),(4,vB false),(5,g cQ),(7,E 3),(60,g 4),(61,vB false)] [R0 kH,R8 kI kJ kK kL a6,R7 eN,R5 jk.1] [] ?_);refine PC.cond rfl (λ h76=>Bool.noConfusion h76) (λ _=>?_);exact .exit (gi.exit (aC.eF ⟨kH,kI,kJ,kK,kL,eN,qm [0,1,2] [] 0 (aA.c (aA.c ⟨⟨_,_,rfl,rfl,eT rfl,aT.refl _⟩,aA.z⟩)) aG.z.c.c.c.c,qs uS⟩))
    rintro _ ⟨FG,FH,FI,UJ,UK,IU,w77,rfl⟩;exact w77.c (PC.skip (aC.end ⟨FG,FH,FI,UJ,UK,IU,qm [0,1,2] [] 0 (aA.c (aA.c ⟨⟨_,_,rfl,rfl,eT rfl,aT.refl _⟩,aA.z⟩)) aG.z.c.c.c.c,qs e9⟩))
   rintro _ ⟨UL,UM,UN,A1,rE,DF,w78,rfl⟩;refine w78.c ?_;have e4:=fD e4;refine .lone (qr 4 ?_);exact .skip (bh.mk (Nat.lt_succ_self _) ⟨w (cQ+1),UL,UM,UN,A1,rE,DF,qm [0,1,2] [] 0 (aA.c (aA.c ⟨⟨_,_,rfl,rfl,eT rfl,aT.refl _⟩,aA.z⟩)) aG.z.c.c.c.c,e4⟩)
  exact .exit (bh.exit (aC.eF ⟨DB,kW,jM,lG,jE,iR,qm [0,1,2] [] 0 (aA.c (aA.c ⟨⟨_,_,rfl,rfl,eT rfl,aT.refl _⟩,aA.z⟩)) aG.z.c,qs e4⟩))
 rintro _ ⟨v8,v9,v10,v11,mT,hH,w79,rfl⟩;refine w79.c ?_;have I:=fD I;refine qr 2 ?_;cases I;exact .cS (q9 [0,1,2] [] (fr':=[R0 v8,R8 v9 v10 v11 mT a6,R7 hH]) (by kernel_rfl) ⟨⟨_,rfl,rfl,rfl⟩,⟨⟨_,rfl,rfl,rfl⟩,⟨⟨_,rfl,rfl,eT rfl⟩,trivial⟩⟩⟩ (.refl _) ⟨rfl,rfl,rfl⟩)
def Wq (k:Nat) (A:aE) (a1:Int):Option (Bool×aE):=
Option.bind (α:=Bool) (bif decide (a1 < 0) then(some true) else(some (decide (a1 > A.bq)))) λ(v1:Bool)=>
bif v1 then(some (false,A)) else(some (true,(aE.mk A.bb A.cL A.aV (w (A.bq - a1)) A.bK A.bo A.dM)))
theorem L31 (k:Nat) (A:aE) (a1:Int) (r:Bool×aE) (I:Wq k A a1=some r):PF Try.prog fK 31 [E 0,g a1] [R0 A] [] (λ p fr tk=>p=vB r.1/\fr=[R0 r.2]/\tk=[]):=by
 unfold Wq at I;refine qP Try.func31 ?_;refine qr 2 ?_;refine qM 3 ?_;refine aq I λ x1 e2 I=>PO.cut 8 (cu (λ v1=>PS.of 26 [(0,E 0),(1,g a1),(4,vB false),(15,vB v1)] [R0 A] [] 1 0) x1) ?_ ?_
 ·refine qC 7 e2 (λ e2=>?_) λ e2=>?_
  ·exact qW 8 true [0] [] e2
  exact qW 8 (decide (a1 > A.bq)) [0] [] e2
 rintro _ ⟨v1,w4,rfl⟩;refine w4.on (qD I (λ I=>?_) λ I=>?_)
 ·refine qK 2 ?_;cases I;exact .ret (qf [0] [])
 refine .aZ (.region (qX 11 [0] [] [(4,vB false)] [Ox A.bb A.cL A.aV (w (A.bq - a1)) A.bK A.bo A.dM] [] ?_));refine qr 2 ?_;cases I;exact .cS (qf [0] [])
def sh (k:Nat) (bV:(List Int)×(List Int)):Nat->Int->aE->Option ((aE) ⊕ ((List Int)×cD×cA×aE))
  | 0,_,_=>none
  | UR+1,fT,yq=>
    bif decide (fT < (w (4 * (bV.1.length:Int)))) then((Sp k yq 1).bind λ wg=>
    bif !wg.1 then((OJ k wg.2).bind λ SB=>
    (OI k SB.1 0).bind λ Q4=>
    some (.inr (Q4.1,Q4.2.1,Q4.2.2,SB.2))) else(sh k bV UR (w (fT+1)) wg.2)) else(some (.inl yq))
def oF (k:Nat) (bV:(List Int)×(List Int)):Nat->Int->aE->(List au)->Int->Int->(List Int)->(List ay)->Option ((aE×(List au)×Int×Int×(List Int)×(List ay)) ⊕ ((List Int)×cD×cA×aE))
  | 0,_,_,_,_,_,_,_=>none
  | US+1,DF,OP,OQ,OS,FG,FH,FI=>
    bif decide (DF < (bV.1.length:Int)) then((BB k DF OP OQ OS FG FH (Int.toNat (bV.1.length:Int)) FI).bind λ ij=>
    bif !ij.1 then((OJ k ij.2.1).bind λ SC=>
    (OI k SC.1 0).bind λ Q5=>
    some (.inr (Q5.1,Q5.2.1,Q5.2.2,SC.2))) else(oF k bV US (w (DF+1)) ij.2.1 ij.2.2.1 ij.2.2.2.1 ij.2.2.2.2.1 ij.2.2.2.2.2.1 ij.2.2.2.2.2.2)) else(some (.inl (OP,OQ,OS,FG,FH,FI)))
def ud (k:Nat) (oO:List ay) (fq:ay):Nat->(List Int)->(Option (Option Nat))->Option (List Int)
  | 0,_,_=>none
  | Jn+1,wq,D4=>
    bif !(Option.isNone D4) then(ir fq oO D4 λ Jo=>
    mw 8 wq ([Jo.bw]) λ Tj=>
    ir fq oO D4 λ Pt=>
    ud k oO fq Jn Tj (Option.map some Pt.ahead)) else(some wq)
def sj (k:Nat) (mW:List Int):Nat->Int->aE->Option ((aE) ⊕ ((List Int)×cD×cA×aE))
  | 0,_,_=>none
  | Jp+1,Ck,D5=>
    bif decide (Ck < (mW.length:Int)) then((Sp k D5 1).bind λ Jq=>
    bif !Jq.1 then((OJ k Jq.2).bind λ Gn=>
    (OI k Gn.1 0).bind λ D6=>
    some (.inr (D6.1,D6.2.1,D6.2.2,Gn.2))) else(sj k mW Jp (w (Ck+1)) Jq.2)) else(some (.inl D5))
def UT (k:Nat) (A:aE) (a1:List au) (Z:Int) (a3:Int):Option ((List Int)×cD×cA×aE):=
(DQ k a1).bind λ r1=>
Option.bind (α:=Bool) (bif r1 != 0 then(some true) else(Option.bind (α:=Bool) (bif decide (Z < 1) then(some true) else(Option.bind (α:=Bool) (bif decide (Z > 536870912) then(some true) else(Option.bind (α:=Bool) (bif decide (a3 < 0) then(some true) else(some (decide (a3 > 10000)))) λ(v4:Bool)=>
some v4)) λ(v3:Bool)=>
some v3)) λ(v2:Bool)=>
some v2)) λ(v1:Bool)=>
bif v1 then((OI k 1 0).bind λ jl=>
some (jl.1,jl.2.1,jl.2.2,A)) else((HD k a1).bind λ F0=>
(zo k F0).bind λ bV=>
bif decide ((bV.1.length:Int) > 1024) then(bp a1 0 λ y5=>
(OI k 150 y5.bM).bind λ DE=>
some (DE.1,DE.2.1,DE.2.2,A)) else(bif (a1.length:Int) == 0 then(some (([] : List Int),(cD.mk 0 0 0),(cA.mk 0 0),A)) else(Option.bind (α:=(aE) ⊕ ((List Int)×cD×cA×aE)) (sh k bV k 0 A) (Sum.elim (λ(hH:aE)=>
rZ (bV.1.length:Int) 544 (Option.bind (α:=(aE×(List au)×Int×Int×(List Int)×(List ay)) ⊕ ((List Int)×cD×cA×aE)) (oF k bV k 0 hH a1 Z a3 bV.1 (List.replicate (Int.toNat (bV.1.length:Int) * 4) (ay.mk false 0 0 0 0 0 0 0 0 0 0 0 0 false false false 0 0 none))) (Sum.elim (λ(rA,im,iS,jF,dx,Bt)=>
(Wq k rA (w (4 * (bV.1.length:Int)))).bind λ gS=>
Option.bind (α:=(Option (Option Nat))×(List ay)×ay) (Option.bind (α:=(Option (Option Nat))×(List ay)×ay) (eZ (w ((dx.length:Int) - 1)) (Int.toNat (bV.1.length:Int)) (eZ 0 4 (ir (ay.mk false 0 0 0 0 0 0 0 0 0 0 0 0 false false false 0 0 none) Bt (some (some (4 * Int.toNat (w ((dx.length:Int) - 1))+Int.toNat 0))) λ yh=>
Option.bind (α:=Bool×(List ay)×ay) (bif yh.gE then((nX k (some (some (4 * Int.toNat (w ((dx.length:Int) - 1))+Int.toNat 0))) (some none) Bt (ay.mk false 0 0 0 0 0 0 0 0 0 0 0 0 false false false 0 0 none)).bind λ Bu=>
some (Bu.1,Bu.2.1,Bu.2.2)) else(some (false,Bt,(ay.mk false 0 0 0 0 0 0 0 0 0 0 0 0 false false false 0 0 none)))) λ(j9,iB,rM)=>
bif j9 then(some (some (some (4 * Int.toNat (w ((dx.length:Int) - 1))+Int.toNat 0)),iB,rM)) else(some (some none,iB,rM))))) λ(jH,kb,eN)=>
Option.bind (α:=(Option (Option Nat))×(List ay)×ay) (eZ (w ((dx.length:Int) - 1)) (Int.toNat (bV.1.length:Int)) (eZ 1 4 (ir eN kb (some (some (4 * Int.toNat (w ((dx.length:Int) - 1))+Int.toNat 1))) λ Pu=>
Option.bind (α:=Bool×(List ay)×ay) (bif Pu.gE then((nX k (some (some (4 * Int.toNat (w ((dx.length:Int) - 1))+Int.toNat 1))) jH kb eN).bind λ OT=>
some (OT.1,OT.2.1,OT.2.2)) else(some (false,kb,eN))) λ(Lg,Cl,za)=>
bif Lg then(some (some (some (4 * Int.toNat (w ((dx.length:Int) - 1))+Int.toNat 1)),Cl,za)) else(some (jH,Cl,za))))) λ(oR,oS,mX)=>
Option.bind (α:=(Option (Option Nat))×(List ay)×ay) (eZ (w ((dx.length:Int) - 1)) (Int.toNat (bV.1.length:Int)) (eZ 2 4 (ir mX oS (some (some (4 * Int.toNat (w ((dx.length:Int) - 1))+Int.toNat 2))) λ Pv=>
Option.bind (α:=Bool×(List ay)×ay) (bif Pv.gE then((nX k (some (some (4 * Int.toNat (w ((dx.length:Int) - 1))+Int.toNat 2))) oR oS mX).bind λ yi=>
some (yi.1,yi.2.1,yi.2.2)) else(some (false,oS,mX))) λ(Lh,Cm,oU)=>
bif Lh then(some (some (some (4 * Int.toNat (w ((dx.length:Int) - 1))+Int.toNat 2)),Cm,oU)) else(some (oR,Cm,oU))))) λ(oV,oW,mY)=>
Option.bind (α:=(Option (Option Nat))×(List ay)×ay) (eZ (w ((dx.length:Int) - 1)) (Int.toNat (bV.1.length:Int)) (eZ 3 4 (ir mY oW (some (some (4 * Int.toNat (w ((dx.length:Int) - 1))+Int.toNat 3))) λ Pw=>
Option.bind (α:=Bool×(List ay)×ay) (bif Pw.gE then((nX k (some (some (4 * Int.toNat (w ((dx.length:Int) - 1))+Int.toNat 3))) oV oW mY).bind λ Cn=>
some (Cn.1,Cn.2.1,Cn.2.2)) else(some (false,oW,mY))) λ(Li,Co,zb)=>
bif Li then(some (some (some (4 * Int.toNat (w ((dx.length:Int) - 1))+Int.toNat 3)),Co,zb)) else(some (oV,Co,zb))))) λ(D7,D8,Cq)=>
some (D7,D8,Cq)) λ(nN,oO,fq)=>
Option.bind (α:=List Int) (ud k oO fq k ([] : List Int) nN) λ(A9:List Int)=>
yD A9 λ mW=>
Option.bind (α:=(aE) ⊕ ((List Int)×cD×cA×aE)) (sj k mW k 0 gS.2) (Sum.elim (λ(Jr:aE)=>
ir fq oO nN λ Ba=>
some (mW,(cD.mk Ba.bj Ba.aR Ba.aO),(cA.mk 0 0),Jr)) some)) some))) some))))
end
end Go.cy.jV
