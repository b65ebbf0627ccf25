import Derived.Test.YtdehaeillolhbaaM30
import Derived.Test.YtdehaeillolhbaaProg
import Derived.KernelRfl
set_option maxRecDepth 100000
set_option maxHeartbeats 4000000
namespace Go.Eng.Lift
open Go.Proofs
noncomputable section
def orc:FuncId->Option Value:=λ f=>pick (Nat.beq f 7) (some (.bool true)) (none)
theorem K7:PF Try.prog orc 7 [] [] [] (λ p fr tk=>p=.val (.bool true)/\fr=[]/\tk=[]):=PF.known rfl rfl ⟨rfl,rfl,rfl⟩
structure GItem where
  kind:Int
  font:ByteArray
  size:Int
  rune:Int
  width:Int
  height:Int
  depth:Int
  stretch:Int
  shrink:Int
  value:Int
  flag:Bool
  from_:Int
  to_:Int
def cGItem (x:GItem):List PV:=[vI x.kind,.val (.string x.font),vI x.size,vI x.rune,vI x.width,vI x.height,vI x.depth,vI x.stretch,vI x.shrink,vI x.value,vB x.flag,vI x.from_,vI x.to_]
def cI_i64 (x:Int):List PV:=[.val (.int .i64 x)]
structure GMeter where
  steps_now:Int
  steps_peak:Int
  steps_budget:Int
  cells_now:Int
  cells_peak:Int
  cells_budget:Int
  refused:Int
def cGMeter (x:GMeter):List PV:=[vI x.steps_now,vI x.steps_peak,vI x.steps_budget,vI x.cells_now,vI x.cells_peak,vI x.cells_budget,vI x.refused]
structure GCost where
  bad:Int
  total:Int
  lines:Int
def cGCost (x:GCost):List PV:=[vI x.bad,vI x.total,vI x.lines]
structure GFault where
  kind:Int
  at_:Int
def cGFault (x:GFault):List PV:=[vI x.kind,vI x.at_]
structure Gstate where
  is_:Bool
  cost_Bad:Int
  cost_Total:Int
  cost_Lines:Int
  line_First:Int
  line_Last:Int
  line_Break:Int
  line_Natural:Int
  line_Stretch:Int
  line_Shrink:Int
  line_Short:Int
  line_Bad:Int
  line_Class:Int
  line_Over:Bool
  line_Hyphen:Bool
  line_End:Bool
  line_Height:Int
  line_Depth:Int
  ahead:Option Nat
def cGstate (K:Nat) (x:Gstate):List PV:=[vB x.is_,vI x.cost_Bad,vI x.cost_Total,vI x.cost_Lines,vI x.line_First,vI x.line_Last,vI x.line_Break,vI x.line_Natural,vI x.line_Stretch,vI x.line_Shrink,vI x.line_Short,vI x.line_Bad,vI x.line_Class,vB x.line_Over,vB x.line_Hyphen,vB x.line_End,vI x.line_Height,vI x.line_Depth,gpO K K 19 (Option.map some x.ahead) 0]
structure GLine where
  first:Int
  last:Int
  break_:Int
  natural:Int
  stretch:Int
  shrink:Int
  short:Int
  bad:Int
  class_:Int
  over_:Bool
  hyphen:Bool
  end_:Bool
  height:Int
  depth:Int
def cGLine (x:GLine):List PV:=[vI x.first,vI x.last,vI x.break_,vI x.natural,vI x.stretch,vI x.shrink,vI x.short,vI x.bad,vI x.class_,vB x.over_,vB x.hyphen,vB x.end_,vI x.height,vI x.depth]
theorem uAp {K:Nat} (y:Gstate):∀ p∈cGstate K y,Ap 1 p:=(all2 (.val _) (all2 (.val _) (all2 (.val _) (all2 (.val _) (all2 (.val _) (all2 (.val _) (all2 (.val _) (all2 (.val _) (all2 (.val _) (all2 (.val _) (all2 (.val _) (all2 (.val _) (all2 (.val _) (all2 (.val _) (all2 (.val _) (all2 (.val _) (all2 (.val _) (all2 (.val _) (all2 ap_gp all1)))))))))))))))))))
theorem cU {K:Nat} (y:Gstate):(cGstate K y).length=19:=rfl
theorem gp_plain {l k sz o:Nat} {p:Option (Option Nat)} : (gpO l k sz p o).plain=true:=by rcases p with _ | _ | i <;> rfl
theorem cUp {K:Nat} (y:Gstate):(cGstate K y).all PV.plain=true:=by
  unfold cGstate
  simp only[List.all_cons,List.all_nil,gp_plain,Bool.and_true]
  rfl
theorem uTo1 (y:Gstate) {f g:Nat->Option Nat} {K K1:Nat} (h:f K=some K1):mapO (PV.to f g 4) (cGstate K y)=some (cGstate K1 y):=(mo_cons rfl (mo_cons rfl (mo_cons rfl (mo_cons rfl (mo_cons rfl (mo_cons rfl (mo_cons rfl (mo_cons rfl (mo_cons rfl (mo_cons rfl (mo_cons rfl (mo_cons rfl (mo_cons rfl (mo_cons rfl (mo_cons rfl (mo_cons rfl (mo_cons rfl (mo_cons rfl (mo_cons (gp_to h h) mo_nil)))))))))))))))))))
theorem uTo {S:List Gstate} {f g:Nat->Option Nat} {K K1:Nat} (h:f K=some K1):mapO (PV.to f g 4) (flatU (cGstate K) S)=some (flatU (cGstate K1) S):=flat_to (λ y=>uTo1 y h) S
/-! reverse (33): a walk by hand -/
theorem w_small (x:Int) (h1 : -9223372036854775808<=x) (h2:x < 9223372036854775808):w x=x:=by
  show(if (true && decide (x % 18446744073709551616>=9223372036854775808))=true then x % 18446744073709551616 - 18446744073709551616 else x % 18446744073709551616)=x
  rw[Bool.true_and]
  by_cases h:x % 18446744073709551616>=9223372036854775808
  · rw[if_pos (by rw[decide_eq_true_eq]; exact h)]; omega
  · rw[if_neg (by rw[decide_eq_true_eq]; exact h)]; omega
theorem rev_walk {H:AH} {p:Option Addr} {n c:Nat} {J:Nat->AH->Prop} (hg:n+2<=9223372036854775808) (hJ:J 0 H)
    (hst:∀ i,2 * i+1 < n->∀ H',J i H'->∃ id off x y H1 H2,p=some ⟨id,off,none⟩/\(∃ r,H'.row id=.ok r/\r.cells[off+i]? = some (some x)/\r.cells[off+(n - 1 - i)]? = some (some y))/\plainCell x=true/\plainCell y=true/\Value.cells x=#[x]/\Value.cells y=#[y]/\H'.write id (off+i) [y]=.ok H1/\H1.write id (off+(n - 1 - i)) [x]=.ok H2/\J (i+1) H2) :
    WF1 Try.prog orc 33 [.slice p n c] H (λ v H'=>∃ i,n<=2 * i+1/\2 * i<=n+1/\J i H'):=by
  refine WF1.call (bodyOf_mk Try.func33 rfl (by show 1<=28; omega) (by show 1<=1000000; omega) (by kernel_rfl)) rfl ?_
  have K0:KA (startAct Try.f33.ntmps [.slice p n c]) 28 (λ t=>if t=0 then some (.slice p n c) else none):=⟨rfl,rfl,λ t v h=>by
    split at h
    · rename_i e1; subst e1; cases h; rfl
    · cases h⟩
  have hw1:w ((n:Int) - 1)=(n:Int) - 1:=w_small _ (by omega) (by omega)
  refine WC.region ?_
  refine WO.ka K0 (d:=4) (v:=.slice p n c) (by simp only[aOp,bind,Except.bind,K0.eval (t:=0) (v:=.slice p n c) rfl] <;> rfl) rfl rfl rfl λ a K=>?_
  refine WO.ka K (d:=5) (v:=.int .i64 (n:Int)) (by simp only[aOp,allR,bind,Except.bind,aLen,Try.underlying34,K.eval (t:=4) (v:=.slice p n c) rfl] <;> rfl) rfl rfl rfl λ a K=>?_
  refine WO.ka K (d:=6) (v:=.int .i64 (w ((n:Int) - 1))) (by simp only[aOp,bind,Except.bind,K.eval (t:=5) (v:=.int .i64 (n:Int)) rfl] <;> rfl) rfl rfl rfl λ a K=>?_
  refine WO.ka K (d:=2) (v:=.int .i64 0) (by simp only[aOp] <;> rfl) rfl rfl rfl λ a K=>?_
  refine WO.ka K (d:=3) (v:=.int .i64 (w ((n:Int) - 1))) (by simp only[aOp,bind,Except.bind,K.eval (t:=6) (v:=.int .i64 (w ((n:Int) - 1))) rfl] <;> rfl) rfl rfl rfl λ a K=>?_
  rw[hw1] at K
  refine WO.nil ?_
  refine WC.lone (WC.block ?_)
  refine WC.loopE (λ k a H'=>∃ i:Nat,2 * i<=n+1/\k=n - i/\KA a 28 (λ t=>if t=2 then some (.int .i64 (i:Int)) else if t=3 then some (.int .i64 ((n:Int) - 1 - i)) else if t=0 then some (.slice p n c) else none)/\J i H') ?_ ⟨n - 0,0,Nat.zero_le _,rfl,⟨K.n,K.ms,λ t v h=>?_⟩,hJ⟩
  rotate_left
  · split at h
    · rename_i e1; subst e1; cases h; exact K.tm 2 _ rfl
    · split at h
      · rename_i e1; subst e1; cases h
        rw[show(n:Int) - 1 - ((0:Nat):Int)=(n:Int) - 1 by omega]
        exact K.tm 3 _ rfl
      · split at h
        · rename_i e1; subst e1; cases h; exact K.tm 0 _ rfl
        · cases h
  rintro k a H' ⟨i,hi,rfl,K,hJ'⟩
  refine WC.assoc (WC.region ?_)
  refine WO.ka K (d:=7) (v:=.int .i64 (i:Int)) (by simp only[aOp,bind,Except.bind,K.eval (t:=2) (v:=.int .i64 (i:Int)) rfl] <;> rfl) rfl rfl rfl λ a K=>?_
  refine WO.ka K (d:=8) (v:=.int .i64 ((n:Int) - 1 - i)) (by simp only[aOp,bind,Except.bind,K.eval (t:=3) (v:=.int .i64 ((n:Int) - 1 - i)) rfl] <;> rfl) rfl rfl rfl λ a K=>?_
  refine WO.ka K (d:=9) (v:=.bool (decide ((i:Int) < (n:Int) - 1 - i))) (by simp only[aOp,bind,Except.bind,K.eval (t:=7) (v:=.int .i64 (i:Int)) rfl,K.eval (t:=8) (v:=.int .i64 ((n:Int) - 1 - i)) rfl] <;> rfl) rfl rfl rfl λ a K=>?_
  refine WO.nil ?_
  refine WC.cond (b:=decide ((i:Int) < (n:Int) - 1 - i)) (K.tm 9 _ rfl) (λ ht=>?_) (λ hf=>?_)
  · have hlt:2 * i+1 < n:=by have:=of_decide_eq_true ht; omega
    obtain⟨id,off,x,y,H1,H2,rfl,⟨r,hrow,hx,hy⟩,hpx,hpy,hcx,hcy,hw1,hw2,hJ2⟩:=hst i hlt H' hJ'
    have hrow1:H'.row id=.ok r:=hrow
    have hn1:natIn (.int .i64 (i:Int)) (n - 1)=.ok i:=by
      unfold natIn
      show(if 0<=(i:Int)/\(i:Int)<=((n - 1:Nat):Int) then(Except.ok (i:Int).toNat:R Nat) else .error 18)=_
      rw[if_pos (by omega)]; rfl
    have hn2:natIn (.int .i64 ((n:Int) - 1 - i)) (n - 1)=.ok (n - 1 - i):=by
      unfold natIn
      show(if 0<=(n:Int) - 1 - i/\(n:Int) - 1 - i<=((n - 1:Nat):Int) then(Except.ok ((n:Int) - 1 - i).toNat:R Nat) else .error 18)=_
      rw[if_pos (by omega)]
      congr 1; omega
    have hi1:i < n:=by omega
    have hi2:n - 1 - i < n:=by omega
    have hsz:tSize Try.prog 3=.ok 1:=by kernel_rfl
    have hag:tAgg Try.prog 3=.ok false:=by kernel_rfl
    refine WC.noop ?_
    refine WC.block ?_
    refine WC.lone (WC.drawn (order:=[0,1,4,5,6,7,8,9,10,11,12,13,2,3,14,15]) (by kernel_rfl) ?_)
    refine WO.ka K (d:=14) (v:=.slice (some ⟨id,off,none⟩) n c) (by simp only[aOp,bind,Except.bind,K.eval (t:=0) (v:=.slice (some ⟨id,off,none⟩) n c) rfl] <;> rfl) rfl rfl rfl λ a K=>?_
    refine WO.ka K (d:=15) (v:=.int .i64 (i:Int)) (by simp only[aOp,bind,Except.bind,K.eval (t:=2) (v:=.int .i64 (i:Int)) rfl] <;> rfl) rfl rfl rfl λ a K=>?_
    refine WO.ka K (d:=18) (v:=.slice (some ⟨id,off,none⟩) n c) (by simp only[aOp,bind,Except.bind,K.eval (t:=0) (v:=.slice (some ⟨id,off,none⟩) n c) rfl] <;> rfl) rfl rfl rfl λ a K=>?_
    refine WO.ka K (d:=19) (v:=.int .i64 ((n:Int) - 1 - i)) (by simp only[aOp,bind,Except.bind,K.eval (t:=3) (v:=.int .i64 ((n:Int) - 1 - i)) rfl] <;> rfl) rfl rfl rfl λ a K=>?_
    refine WO.ka K (d:=20) (v:=.pointer (some ⟨id,off+(n - 1 - i),none⟩)) (by simp only[aOp,bind,Except.bind,Try.underlying34,hsz,hn2,if_pos hi2,Nat.mul_one,K.eval (t:=18) (v:=.slice (some ⟨id,off,none⟩) n c) rfl,K.eval (t:=19) (v:=.int .i64 ((n:Int) - 1 - i)) rfl] <;> rfl) rfl rfl rfl λ a K=>?_
    refine WO.ka K (d:=21) (v:=y) (by simp only[aOp,bind,Except.bind,addrOf,aLoad,hrow1,hag,K.eval (t:=20) (v:=.pointer (some ⟨id,off+(n - 1 - i),none⟩)) rfl,hy] <;> rfl) rfl rfl rfl λ a K=>?_
    refine WO.ka K (d:=22) (v:=.slice (some ⟨id,off,none⟩) n c) (by simp only[aOp,bind,Except.bind,K.eval (t:=0) (v:=.slice (some ⟨id,off,none⟩) n c) rfl] <;> rfl) rfl rfl rfl λ a K=>?_
    refine WO.ka K (d:=23) (v:=.int .i64 (i:Int)) (by simp only[aOp,bind,Except.bind,K.eval (t:=2) (v:=.int .i64 (i:Int)) rfl] <;> rfl) rfl rfl rfl λ a K=>?_
    refine WO.ka K (d:=24) (v:=.pointer (some ⟨id,off+i,none⟩)) (by simp only[aOp,bind,Except.bind,Try.underlying34,hsz,hn1,if_pos hi1,Nat.mul_one,K.eval (t:=22) (v:=.slice (some ⟨id,off,none⟩) n c) rfl,K.eval (t:=23) (v:=.int .i64 (i:Int)) rfl] <;> rfl) rfl rfl rfl λ a K=>?_
    refine WO.ka K (d:=25) (v:=x) (by simp only[aOp,bind,Except.bind,addrOf,aLoad,hrow1,hag,K.eval (t:=24) (v:=.pointer (some ⟨id,off+i,none⟩)) rfl,hx] <;> rfl) rfl rfl rfl λ a K=>?_
    refine WO.ka K (d:=26) (v:=.pointer (some ⟨id,off+i,none⟩)) (by simp only[aOp,bind,Except.bind,Try.underlying34,hsz,hn1,if_pos hi1,Nat.mul_one,K.eval (t:=14) (v:=.slice (some ⟨id,off,none⟩) n c) rfl,K.eval (t:=15) (v:=.int .i64 (i:Int)) rfl] <;> rfl) rfl rfl rfl λ a K=>?_
    refine WO.one (wanted_free rfl) rfl (v:=undef) (H1:=H1) ⟨0,by simp only[aOp,bind,Except.bind,addrOf,hsz,K.eval (t:=26) (v:=.pointer (some ⟨id,off+i,none⟩)) rfl,K.eval (t:=21) (v:=y) rfl,hcy]; rw[if_pos (show(#[y] : Array Value).size=1 from rfl)]; rw[hw1]⟩ rfl ?_
    replace K:KA (a.upd none undef) _ _:=K
    refine WO.ka K (d:=16) (v:=.slice (some ⟨id,off,none⟩) n c) (by simp only[aOp,bind,Except.bind,K.eval (t:=0) (v:=.slice (some ⟨id,off,none⟩) n c) rfl] <;> rfl) rfl rfl rfl λ a K=>?_
    refine WO.ka K (d:=17) (v:=.int .i64 ((n:Int) - 1 - i)) (by simp only[aOp,bind,Except.bind,K.eval (t:=3) (v:=.int .i64 ((n:Int) - 1 - i)) rfl] <;> rfl) rfl rfl rfl λ a K=>?_
    refine WO.ka K (d:=27) (v:=.pointer (some ⟨id,off+(n - 1 - i),none⟩)) (by simp only[aOp,bind,Except.bind,Try.underlying34,hsz,hn2,if_pos hi2,Nat.mul_one,K.eval (t:=16) (v:=.slice (some ⟨id,off,none⟩) n c) rfl,K.eval (t:=17) (v:=.int .i64 ((n:Int) - 1 - i)) rfl] <;> rfl) rfl rfl rfl λ a K=>?_
    refine WO.one (wanted_free rfl) rfl (v:=undef) (H1:=H2) ⟨0,by simp only[aOp,bind,Except.bind,addrOf,hsz,K.eval (t:=27) (v:=.pointer (some ⟨id,off+(n - 1 - i),none⟩)) rfl,K.eval (t:=25) (v:=x) rfl,hcx]; rw[if_pos (show(#[x] : Array Value).size=1 from rfl)]; rw[hw2]⟩ rfl ?_
    replace K:KA (a.upd none undef) _ _:=K
    refine WO.nil ?_
    refine WC.skip ?_
    refine WC.lone (WC.region ?_)
    refine WO.ka K (d:=10) (v:=.int .i64 (i:Int)) (by simp only[aOp,bind,Except.bind,K.eval (t:=2) (v:=.int .i64 (i:Int)) rfl] <;> rfl) rfl rfl rfl λ a K=>?_
    refine WO.ka K (d:=11) (v:=.int .i64 (w ((i:Int)+1))) (by simp only[aOp,bind,Except.bind,K.eval (t:=10) (v:=.int .i64 (i:Int)) rfl] <;> rfl) rfl rfl rfl λ a K=>?_
    refine WO.ka K (d:=12) (v:=.int .i64 ((n:Int) - 1 - i)) (by simp only[aOp,bind,Except.bind,K.eval (t:=3) (v:=.int .i64 ((n:Int) - 1 - i)) rfl] <;> rfl) rfl rfl rfl λ a K=>?_
    refine WO.ka K (d:=13) (v:=.int .i64 (w ((n:Int) - 1 - i - 1))) (by simp only[aOp,bind,Except.bind,K.eval (t:=12) (v:=.int .i64 ((n:Int) - 1 - i)) rfl] <;> rfl) rfl rfl rfl λ a K=>?_
    refine WO.ka K (d:=2) (v:=.int .i64 (w ((i:Int)+1))) (by simp only[aOp,bind,Except.bind,K.eval (t:=11) (v:=.int .i64 (w ((i:Int)+1))) rfl] <;> rfl) rfl rfl rfl λ a K=>?_
    refine WO.ka K (d:=3) (v:=.int .i64 (w ((n:Int) - 1 - i - 1))) (by simp only[aOp,bind,Except.bind,K.eval (t:=13) (v:=.int .i64 (w ((n:Int) - 1 - i - 1))) rfl] <;> rfl) rfl rfl rfl λ a K=>?_
    refine WO.nil ?_
    refine WC.skip ?_
    refine⟨n - (i+1),by omega,i+1,by omega,rfl,⟨K.n,K.ms,λ t v h=>?_⟩,hJ2⟩
    split at h
    · rename_i e1; subst e1; cases h
      have:=K.tm 2 _ rfl
      rw[w_small _ (by omega) (by omega)] at this
      exact this
    · split at h
      · rename_i e1; subst e1; cases h
        have:=K.tm 3 _ rfl
        rw[w_small _ (by omega) (by omega)] at this
        rw[show(n:Int) - 1 - ((i+1:Nat):Int)=(n:Int) - 1 - i - 1 by omega]
        exact this
      · split at h
        · rename_i e1; subst e1; cases h; exact K.tm 0 _ rfl
        · cases h
  · refine WC.exit ?_
    have hge:n<=2 * i+1:=by have:=of_decide_eq_false hf; omega
    have hfin:WC Try.prog orc none .skip a H' (λ e a1 H1=>(e=.normal\/e=.ret)/\a1.marks=[]/\∃ v,aResults Try.prog H1 a1 Try.f33.results.toList=.ok v/\∃ i,n<=2 * i+1/\2 * i<=n+1/\J i H1):=WC.skip ⟨.inl rfl,K.ms,_,rfl,i,hge,hi,hJ'⟩
    exact hfin
theorem rev_own (H:AH) (id off n c:Nat) (r:Row) (wv:Nat->Int) (hr:H.get id=some (.row r)) (hro:r.ro=false) (he:r.esz=1) (hl:off+n<=r.cells.length) (hg:n+2<=9223372036854775808) (hc:∀ i,i < n->r.cells[off+i]? = some (some (.int .i64 (wv i)))) :
    WF1 Try.prog orc 33 [.slice (some ⟨id,off,none⟩) n c] H (λ v H'=>Havoc r.fam H H'/\∃ r',H'.get id=some (.row r')/\∀ i,i < n->r'.cells[off+i]? = some (some (.int .i64 (wv (n - 1 - i))))):=by
  have main:=rev_walk (H:=H) (p:=some ⟨id,off,none⟩) (n:=n) (c:=c) (J:=λ i H'=>Havoc r.fam H H'/\∃ r',H'.get id=some (.row r')/\Meta r r'/\∀ k,k < n->r'.cells[off+k]? = some (some (.int .i64 (if k < i\/n - 1 - k < i then wv (n - 1 - k) else wv k)))) hg
    ⟨Havoc.refl _ _,r,hr,Meta.refl r,λ k hk=>by rw[if_neg (by omega)]; exact hc k hk⟩ (λ i hi H' hJ=>by
      obtain⟨hv,r',hr',hm,hk⟩:=hJ
      have hx:=hk i (by omega)
      have hy:=hk (n - 1 - i) (by omega)
      rw[if_neg (by omega)] at hx hy
      have hro1:r'.ro=false:=hm.ro.trans hro
      obtain⟨H1,h1,h2,r1,h3,h4,h5⟩:=write_cell (o:=off+i) (v:=.int .i64 (wv (n - 1 - i))) hr' hro1 rfl (by rw[hm.len]; omega)
      obtain⟨H2,k1,k2,r2,k3,k4,k5⟩:=write_cell (o:=off+(n - 1 - i)) (v:=.int .i64 (wv i)) h3 (h4.ro.trans hro1) rfl (by rw[h4.len,hm.len]; omega)
      refine⟨id,off,.int .i64 (wv i),.int .i64 (wv (n - 1 - i)),H1,H2,rfl,⟨r',by unfold AH.row; rw[hr'],hx,hy⟩,rfl,rfl,rfl,rfl,h1,k1,?_,r2,k3,hm.trans (h4.trans k4),λ k hkn=>?_⟩
      · rw[hm.fam] at h2
        rw[h4.fam,hm.fam] at k2
        exact hv.trans (h2.trans k2)
      · rw[k5,h5]
        by_cases e1:k=i
        · subst e1
          rw[if_neg (by omega),if_pos rfl,if_pos (by omega)]
        · by_cases e2:k=n - 1 - i
          · subst e2
            rw[if_pos rfl,if_pos (by omega),show n - 1 - (n - 1 - i)=i by omega]
          · rw[if_neg (by omega),if_neg (by omega),hk k hkn]
            by_cases e3:k < i\/n - 1 - k < i
            · rw[if_pos e3,if_pos (by omega)]
            · rw[if_neg e3,if_neg (by omega)])
  refine main.mono λ v H' h=>?_
  obtain⟨i,h1,h2,hv,r',hr',_,hk⟩:=h
  refine⟨hv,r',hr',λ k hkn=>?_⟩
  rw[hk k hkn]
  by_cases e1:k < i\/n - 1 - k < i
  · rw[if_pos e1]
  · rw[if_neg e1,show n - 1 - k=k by omega]
theorem rev_nil (H:AH):WF1 Try.prog orc 33 [.slice none 0 0] H (λ v H'=>H'=H):=(rev_walk (J:=λ _ H'=>H'=H) (by omega) rfl λ i hi=>by omega).mono λ v H' ⟨_,_,_,h⟩=>h
def F71 (k:Nat) (a0:List GItem) (a1:Int):Option Bool:=
bindI a0 a1 λ y1=>
bif y1.kind == 3 then(Option.bind (α:=Bool) (bif decide (a1 > 0) then(bindI a0 (w (a1 - 1)) λ y3=>
some (y3.kind == 1)) else(some false)) λ(v2:Bool)=>
some v2) else(bif y1.kind == 4 then(bindI a0 a1 λ y4=>
some (decide (y4.value < 10000))) else(some false))
theorem L71 (k:Nat) (a0:List GItem) (a1:Int) (r:Bool) (hF:F71 k a0 a1=some r):PF Try.prog orc 71 [.list 13 (List.map cGItem a0) none,vI a1] [] [] (λ p fr tk=>p=vB r/\fr=[]/\tk=[]):=by
 unfold F71 at hF
 refine PF.enterS Try.func71 rfl rfl rfl (by kernel_rfl) rfl ?_
 refine PC.run (n:=2) rfl ?_
 refine PC.assoc ?_
 refine PC.region ?_
 refine PO.run 2 rfl ?_
 refine bindIK hF (λ y1 h1 h2 hF=>?_)
 refine PO.same rfl (indexAddr_ok Try.underlying22 rfl rfl rfl h1 (map_at h2)) rfl ?_
 refine PO.run 2 rfl ?_
 refine PO.nil ?_
 refine PC.block ?_
 refine PC.run (n:=3) rfl ?_
 refine PC.lone ?_
 refine PC.cond rfl (λ h3=>?_) (λ h3=>?_)
 ·have hF:=bif_t h3 hF
  refine PC.assoc ?_
  refine PC.region ?_
  refine PO.run 3 rfl ?_
  refine bindK hF (λ x4 e5 hF=>?_)
  refine PO.cut 8 (λ s=>∃ (v2:Bool),Weak s (PS.of 31 [(4,vB false),(22,vB v2)] [] [] 0 0)/\v2=x4) ?_ ?_
  ·refine PO.case (t:=14) rfl rfl (λ h6=>?_) (λ h6=>?_)
   ·have e5:=bif_t h6 e5
    refine PO.run 3 rfl ?_
    refine bindIK e5 (λ y3 h7 h8 e5=>?_)
    refine PO.same rfl (indexAddr_ok Try.underlying22 rfl rfl rfl h7 (map_at h8)) rfl ?_
    refine PO.run 3 rfl ?_
    refine PO.same rfl (pickT_ok rfl rfl rfl) rfl ?_
    refine PO.nil ?_
    exact⟨y3.kind == 1,Weak.one [] [] (by kernel_rfl),Option.some.inj e5⟩
   have e5:=bif_f h6 e5
   refine PO.run 7 rfl ?_
   refine PO.same rfl (pickF_ok rfl rfl rfl) rfl ?_
   refine PO.nil ?_
   exact⟨false,Weak.one [] [] (by kernel_rfl),Option.some.inj e5⟩
  rintro _ ⟨v2,w9,rfl⟩
  refine PO.weak w9 ?_
  refine PO.run 1 rfl ?_
  refine PO.nil ?_
  have hq:=Option.some.inj hF
  subst hq
  exact PC.ret (blockKP.back (retSK [] [] (by kernel_rfl) (.refl _) ⟨rfl,rfl,rfl⟩))
 have hF:=bif_f h3 hF
 refine PC.assoc ?_
 refine PC.run (n:=3) rfl ?_
 refine PC.cond rfl (λ h10=>?_) (λ h10=>?_)
 ·have hF:=bif_t h10 hF
  refine PC.assoc ?_
  refine PC.region ?_
  refine PO.run 2 rfl ?_
  refine bindIK hF (λ y4 h11 h12 hF=>?_)
  refine PO.same rfl (indexAddr_ok Try.underlying22 rfl rfl rfl h11 (map_at h12)) rfl ?_
  refine PO.run 4 rfl ?_
  refine PO.nil ?_
  have hq:=Option.some.inj hF
  subst hq
  exact PC.ret (blockKP.back (retSK [] [] (by kernel_rfl) (.refl _) ⟨rfl,rfl,rfl⟩))
 have hF:=bif_f h10 hF
 refine PC.noop ?_
 refine PC.skip (blockKP.end ?_)
 refine PC.run (n:=2) rfl ?_
 have hq:=Option.some.inj hF
 subst hq
 exact PC.ret' (retSK [] [] (by kernel_rfl) (.refl _) ⟨rfl,rfl,rfl⟩)
theorem I66 (A:List Int) (hA:(A.length:Int) < 9223372036854775807) (k0:Nat):ISpec Try.prog orc 47 [] [.ptr k0 0] (λ fr=>∃ t e,fr[k0]? = some ⟨e,[.list 1 (A.map cI_i64) t]⟩) (A.map cI_i64):=by
  intro l r C hC hr J D hJ hY e fr tk H vs hR h0 hv
  obtain⟨b1,b2,t,e1,b3⟩:=hJ 0 fr tk h0
  refine PCY.enter (K:=λ p fr' tk'=>match p with | none=>J (A.map cI_i64).length fr' tk' | some c=>D c fr' tk') Try.func47 rfl rfl rfl (by kernel_rfl) (by simp) b1 b2 hR hv ?_
  refine PCY.region (POY.of ?_)
  refine PO.same rfl (load_row rfl b3 (by kernel_rfl) rfl) rfl ?_
  refine PO.same rfl (len_ok Try.underlying34 rfl (List.length_map _)) rfl ?_
  refine PO.run 1 rfl ?_
  refine PO.nil ?_
  show PCY _ _ _ _ _ _ _ _
  refine PCY.lone ?_
  refine PCY.block ?_
  have hlen:(A.map cI_i64).length=A.length:=List.length_map _
  refine PCY.loop (λ j s=>∃ (i:Nat) (fr':List PRow) (tk':List Nat),j+i=A.length/\J i fr' tk'/\Weak s (PS.of 16 [(0,.val (.func (.yield l) #[] #[])),(5,.list 1 (A.map cI_i64) none),(6,.val (.int .i64 (A.length:Int))),(7,.val (.int .i64 (i:Int)))] fr' tk' fr.length tk.length)) ?_ A.length ⟨0,fr,tk,rfl,h0,Weak.tms ⟨⟨_,rfl,.refl _⟩,⟨_,rfl,.tok _ _ _⟩,⟨_,rfl,.refl _⟩,⟨_,rfl,.refl _⟩,trivial⟩⟩
  rintro j s ⟨i,fr',tk',hji,hj,hw⟩
  refine PCY.weak hw ?_
  refine PCY.region (POY.of ?_)
  refine PO.run 1 rfl ?_
  refine PO.nil ?_
  show PCY _ _ _ _ _ _ _ _
  refine PCY.cond rfl (λ hb=>?_) (λ hb=>?_)
  · refine PCY.noop ?_
    refine PCY.block ?_
    have hi:(i:Int) < A.length:=of_decide_eq_true hb
    obtain⟨y,hy⟩:∃ y,A[(i:Int).toNat]? = some y:=⟨_,List.getElem?_eq_getElem (by omega)⟩
    refine PCY.region (POY.of ?_)
    refine PO.same rfl (indexAddr_ok Try.underlying34 rfl rfl rfl (Int.natCast_nonneg i) (map_at hy)) rfl ?_
    refine PO.run 2 rfl ?_
    refine PO.nil ?_
    show PCY _ _ _ _ _ _ _ _
    refine PCY.region ?_
    refine POY.cut 2 (λ s1=>Weak s1 (PS.of 16 [(0,.val (.func (.yield l) #[] #[])),(5,.list 1 (A.map cI_i64) none),(6,.val (.int .i64 (A.length:Int))),(7,.val (.int .i64 (i:Int))),(11,.val (.func (.yield l) #[] #[])),(12,.val (.int .i64 y))] fr' tk' fr.length tk.length)) (PO.run 2 rfl (PO.nil (Weak.tms ⟨⟨_,rfl,.refl _⟩,⟨_,rfl,.refl _⟩,⟨_,rfl,.refl _⟩,⟨_,rfl,.refl _⟩,⟨_,rfl,.refl _⟩,⟨_,rfl,.refl _⟩,trivial⟩))) ?_
    intro s1 hw1
    refine POY.weak hw1 ?_
    have hx:(A.map cI_i64)[i]? = some (cI_i64 y):=by rw[show(i:Int).toNat=i by omega] at hy; rw[List.getElem?_map,hy]; rfl
    refine POY.yield hC hr rfl rfl rfl rfl rfl rfl (hY i _ fr' tk' hx hj) ?_
    intro p fr2 tk2 hk
    have wi:IntKind.i64.wrap ((i:Int)+1)=((i+1:Nat):Int):=by
      rw[IntKind.wrap_i64]; omega
    cases p with
    | none=>
      refine POY.of ?_
      refine PO.run 1 rfl ?_
      refine PO.nil ?_
      show PCY _ _ _ _ _ _ _ _
      refine PCY.lone ?_
      refine PCY.cond rfl (λ hb=>by cases hb) (λ _=>?_)
      refine PCY.noop ?_
      refine PCY.of (PC.skip ?_)
      show PCY _ _ _ _ _ _ _ _
      refine PCY.lone ?_
      refine PCY.region (POY.of ?_)
      refine PO.run 2 rfl ?_
      refine PO.nil ?_
      show PCY _ _ _ _ _ _ _ _
      refine PCY.of (PC.skip ?_)
      refine⟨j - 1,by omega,i+1,fr2,tk2,by omega,hk,?_⟩
      rw[<- wi]
      exact Weak.tms ⟨⟨_,rfl,.refl _⟩,⟨_,rfl,.refl _⟩,⟨_,rfl,.refl _⟩,⟨_,rfl,.refl _⟩,trivial⟩
    | some c=>
      show PO _ _ _ _ _ _ _
      refine PO.run 1 rfl ?_
      refine PO.nil ?_
      show PC _ _ _ _ _ _
      refine PC.lone ?_
      refine PC.cond rfl (λ _=>?_) (λ hb=>by cases hb)
      exact PC.ret ⟨trivial,rfl,⟨_,rfl⟩,hk⟩
  · have hi:¬ (i:Int) < A.length:=of_decide_eq_false hb
    refine PCY.of (PC.exit ?_)
    refine loopKY.exit (blockKY.here ?_)
    show PCY _ _ _ _ _ _ _ _
    have e2:(A.map cI_i64).length=i:=by omega
    refine PCY.of (PC.skip ⟨trivial,rfl,⟨_,rfl⟩,?_⟩)
    show J (A.map cI_i64).length _ _
    rw[e2]
    exact hj
def walkL (k:Nat) (L:List GItem):Nat->Int->Option (List Int)
  | 0,_=>none
  | j+1,i=>bif decide (i < (L.length:Int)) then(F71 k L i).bind λ b=>(walkL k L j (w (i+1))).bind λ r=>some (bif b then i :: r else r) else some []
theorem I93 (k:Nat) (L:List GItem) (j0:Nat) (A:List Int) (hA:walkL k L j0 0=some A) (k0:Nat):ISpec Try.prog orc 70 [] [.ptr k0 0] (λ fr=>∃ t e,fr[k0]? = some ⟨e,[.list 13 (L.map cGItem) t]⟩) (A.map cI_i64):=by
  intro l r C hC hr J D hJ hY e fr tk H vs hR h0 hv
  obtain⟨b1,b2,t,e1,b3⟩:=hJ 0 fr tk h0
  refine PCY.enter (K:=λ p fr' tk'=>match p with | none=>J (A.map cI_i64).length fr' tk' | some c=>D c fr' tk') Try.func70 rfl rfl rfl (by kernel_rfl) (by simp) b1 b2 hR hv ?_
  refine PCY.region (POY.of ?_)
  refine PO.same rfl (load_row rfl b3 (by kernel_rfl) rfl) rfl ?_
  refine PO.same rfl (len_ok Try.underlying22 rfl (List.length_map _)) rfl ?_
  refine PO.run 1 rfl ?_
  refine PO.nil ?_
  show PCY _ _ _ _ _ _ _ _
  refine PCY.lone ?_
  refine PCY.block ?_
  have hlen:(A.map cI_i64).length=A.length:=List.length_map _
  refine PCY.loop (λ j s=>∃ (i:Int) (n:Nat) (fr':List PRow) (tk':List Nat),walkL k L j i=some (A.drop n)/\n<=A.length/\J n fr' tk'/\Weak s (PS.of 19 [(0,.val (.func (.yield l) #[] #[])),(1,.ptr k0 0),(5,.val (.int .i64 (L.length:Int))),(6,.val (.int .i64 i))] fr' tk' fr.length tk.length)) ?_ j0 ⟨0,0,fr,tk,by rw[hA]; rfl,Nat.zero_le _,h0,Weak.tms ⟨⟨_,rfl,.refl _⟩,⟨_,rfl,.refl _⟩,⟨_,rfl,.refl _⟩,⟨_,rfl,.refl _⟩,trivial⟩⟩
  rintro j s ⟨i,n,fr',tk',hW,hn,hj,hw⟩
  refine PCY.weak hw ?_
  cases j with
  | zero=>cases hW
  | succ j=>
  unfold walkL at hW
  refine PCY.region (POY.of ?_)
  refine PO.run 1 rfl ?_
  refine PO.nil ?_
  show PCY _ _ _ _ _ _ _ _
  refine PCY.cond rfl (λ hb=>?_) (λ hb=>?_)
  · rw[hb,cond_true] at hW
    refine Exists.elim (bind_some hW) (λ b hq=>?_)
    have e2:=hq.1
    refine Exists.elim (bind_some hq.2) (λ r3 hq3=>?_)
    have e3:=hq3.1
    have e4:=Option.some.inj hq3.2
    clear hq hq3 hW
    refine PCY.noop ?_
    refine PCY.block ?_
    refine PCY.region (POY.of ?_)
    refine PO.run 2 rfl ?_
    refine PO.nil ?_
    show PCY _ _ _ _ _ _ _ _
    obtain⟨_,_,t',e1',b3'⟩:=hJ n fr' tk' hj
    refine PCY.region ?_
    refine POY.cut 4 (λ s1=>Weak s1 (PS.of 19 [(0,.val (.func (.yield l) #[] #[])),(1,.ptr k0 0),(3,.val (.int .i64 i)),(5,.val (.int .i64 (L.length:Int))),(6,.val (.int .i64 i)),(12,.val (.bool b))] fr' tk' fr.length tk.length)) ?_ ?_
    · refine PO.same rfl (load_row rfl b3' (by kernel_rfl) rfl) rfl ?_
      refine PO.run 1 rfl ?_
      refine PO.weak (Weak.tms (es:=[(0,.val (.func (.yield l) #[] #[])),(1,.ptr k0 0),(3,.val (.int .i64 i)),(5,.val (.int .i64 (L.length:Int))),(6,.val (.int .i64 i)),(9,.list 13 (L.map cGItem) none),(10,.val (.int .i64 i))]) ⟨⟨_,rfl,.refl _⟩,⟨_,rfl,.refl _⟩,⟨_,rfl,.refl _⟩,⟨_,rfl,.refl _⟩,⟨_,rfl,.refl _⟩,⟨_,rfl,.tok _ _ _⟩,⟨_,rfl,.refl _⟩,trivial⟩) ?_
      refine PO.call rfl rfl rfl rfl (ks:=[]) (ts:=[]) (fr1:=[]) rfl rfl rfl trivial (L71 k L i _ e2) ?_
      rintro _ _ _ ⟨rfl,rfl,rfl⟩
      refine⟨_,_,rfl,rfl,?_⟩
      refine PO.run 1 rfl ?_
      refine PO.nil ?_
      exact Weak.tms' ⟨⟨_,rfl,.refl _⟩,⟨_,rfl,.refl _⟩,⟨_,rfl,.refl _⟩,⟨_,rfl,.refl _⟩,⟨_,rfl,.refl _⟩,⟨_,rfl,.refl _⟩,trivial⟩ (merge_nil fr') (merge_nil tk')
    · intro s1 hw1
      refine POY.weak hw1 ?_
      cases b with
      | false=>
        have e5:r3=A.drop n:=e4
        refine POY.of ?_
        refine PO.run 4 rfl ?_
        refine PO.same rfl (pickF_ok rfl rfl rfl) rfl ?_
        refine PO.nil ?_
        show PCY _ _ _ _ _ _ _ _
        refine PCY.lone ?_
        refine PCY.cond rfl (λ hb=>by cases hb) (λ _=>?_)
        refine PCY.noop ?_
        refine PCY.of (PC.skip ?_)
        show PCY _ _ _ _ _ _ _ _
        refine PCY.lone ?_
        refine PCY.region (POY.of ?_)
        refine PO.run 2 rfl ?_
        refine PO.nil ?_
        show PCY _ _ _ _ _ _ _ _
        refine PCY.of (PC.skip ?_)
        refine⟨j,Nat.lt_succ_self _,w (i+1),n,fr',tk',by rw[<- e5]; exact e3,hn,hj,?_⟩
        exact Weak.tms ⟨⟨_,rfl,.refl _⟩,⟨_,rfl,.refl _⟩,⟨_,rfl,.refl _⟩,⟨_,rfl,.refl _⟩,trivial⟩
      | true=>
        have e5:i :: r3=A.drop n:=e4
        have hlt:n < A.length:=by
          rcases Nat.lt_or_ge n A.length with h | h
          · exact h
          · rw[List.drop_eq_nil_of_le h] at e5; cases e5
        have hAn:A[n]? = some i/\A.drop (n+1)=r3:=by
          rw[List.drop_eq_getElem_cons hlt] at e5
          simp only[List.cons.injEq] at e5
          exact⟨by rw[List.getElem?_eq_getElem hlt,<- e5.1],e5.2.symm⟩
        have hx:(A.map cI_i64)[n]? = some (cI_i64 i):=by rw[List.getElem?_map,hAn.1]; rfl
        refine POY.cut 2 (λ s1=>Weak s1 (PS.of 19 [(0,.val (.func (.yield l) #[] #[])),(1,.ptr k0 0),(3,.val (.int .i64 i)),(5,.val (.int .i64 (L.length:Int))),(6,.val (.int .i64 i)),(12,.val (.bool true)),(13,.val (.func (.yield l) #[] #[])),(14,.val (.int .i64 i))] fr' tk' fr.length tk.length)) (PO.run 2 rfl (PO.nil (Weak.tms ⟨⟨_,rfl,.refl _⟩,⟨_,rfl,.refl _⟩,⟨_,rfl,.refl _⟩,⟨_,rfl,.refl _⟩,⟨_,rfl,.refl _⟩,⟨_,rfl,.refl _⟩,⟨_,rfl,.refl _⟩,⟨_,rfl,.refl _⟩,trivial⟩))) ?_
        intro s2 hw2
        refine POY.weak hw2 ?_
        refine POY.yield hC hr rfl rfl rfl rfl rfl rfl (hY n _ fr' tk' hx hj) ?_
        intro p fr2 tk2 hk
        cases p with
        | none=>
          refine POY.of ?_
          refine PO.run 1 rfl ?_
          refine PO.same rfl (pickT_ok rfl rfl rfl) rfl ?_
          refine PO.nil ?_
          show PCY _ _ _ _ _ _ _ _
          refine PCY.lone ?_
          refine PCY.cond rfl (λ hb=>by cases hb) (λ _=>?_)
          refine PCY.noop ?_
          refine PCY.of (PC.skip ?_)
          show PCY _ _ _ _ _ _ _ _
          refine PCY.lone ?_
          refine PCY.region (POY.of ?_)
          refine PO.run 2 rfl ?_
          refine PO.nil ?_
          show PCY _ _ _ _ _ _ _ _
          refine PCY.of (PC.skip ?_)
          refine⟨j,Nat.lt_succ_self _,w (i+1),n+1,fr2,tk2,by rw[hAn.2]; exact e3,hlt,hk,?_⟩
          exact Weak.tms ⟨⟨_,rfl,.refl _⟩,⟨_,rfl,.refl _⟩,⟨_,rfl,.refl _⟩,⟨_,rfl,.refl _⟩,trivial⟩
        | some c=>
          show PO _ _ _ _ _ _ _
          refine PO.run 1 rfl ?_
          refine PO.same rfl (pickT_ok rfl rfl rfl) rfl ?_
          refine PO.nil ?_
          show PC _ _ _ _ _ _
          refine PC.lone ?_
          refine PC.cond rfl (λ _=>?_) (λ hb=>by cases hb)
          exact PC.ret ⟨trivial,rfl,⟨_,rfl⟩,hk⟩
  · rw[hb,cond_false] at hW
    have e5:A.drop n=[]:=(Option.some.inj hW).symm
    have hnl:(A.map cI_i64).length=n:=by
      have:=congrArg List.length e5
      simp at this
      omega
    refine PCY.of (PC.exit ?_)
    refine loopKY.exit (blockKY.here ?_)
    show PCY _ _ _ _ _ _ _ _
    refine PCY.of (PC.skip ⟨trivial,rfl,⟨_,rfl⟩,?_⟩)
    show J (A.map cI_i64).length _ _
    rw[hnl]
    exact hj
def F49 (k:Nat) (a0:Int) (a1:Int) (a2:Int):Option Bool:=
Option.bind (α:=Bool) (bif decide (a1<=a0) then(some (decide (a0<=a2))) else(some false)) λ(v1:Bool)=>
some v1
theorem L49 (k:Nat) (a0:Int) (a1:Int) (a2:Int) (r:Bool) (hF:F49 k a0 a1 a2=some r):PF Try.prog orc 49 [vI a0,vI a1,vI a2] [] [] (λ p fr tk=>p=vB r/\fr=[]/\tk=[]):=by
 unfold F49 at hF
 refine PF.enterS Try.func49 rfl rfl rfl (by kernel_rfl) rfl ?_
 refine PC.run (n:=2) rfl ?_
 refine PC.region ?_
 refine PO.run 4 rfl ?_
 refine bindK hF (λ x1 e2 hF=>?_)
 refine PO.cut 4 (λ s=>∃ (v1:Bool),Weak s (PS.of 15 [(6,vB false),(14,vB v1)] [] [] 0 0)/\v1=x1) ?_ ?_
 ·refine PO.case (t:=10) rfl rfl (λ h3=>?_) (λ h3=>?_)
  ·have e2:=bif_t h3 e2
   refine PO.run 3 rfl ?_
   refine PO.same rfl (pickT_ok rfl rfl rfl) rfl ?_
   refine PO.nil ?_
   exact⟨decide (a0<=a2),Weak.one [] [] (by kernel_rfl),Option.some.inj e2⟩
  have e2:=bif_f h3 e2
  refine PO.run 3 rfl ?_
  refine PO.same rfl (pickF_ok rfl rfl rfl) rfl ?_
  refine PO.nil ?_
  exact⟨false,Weak.one [] [] (by kernel_rfl),Option.some.inj e2⟩
 rintro _ ⟨v1,w4,rfl⟩
 refine PO.weak w4 ?_
 refine PO.run 1 rfl ?_
 refine PO.nil ?_
 have hq:=Option.some.inj hF
 subst hq
 exact PC.ret' (retSK [] [] (by kernel_rfl) (.refl _) ⟨rfl,rfl,rfl⟩)
def F72 (k:Nat) (a0:GItem):Option Bool:=
(F49 k a0.size 1 67108864).bind λ r1=>
Option.bind (α:=Bool) (bif r1 then((F49 k a0.width 0 1099511627776).bind λ r6=>
Option.bind (α:=Bool) (bif r6 then((F49 k a0.height 0 1099511627776).bind λ r11=>
Option.bind (α:=Bool) (bif r11 then((F49 k a0.depth 0 1099511627776).bind λ r16=>
some r16) else(some false)) λ(v3:Bool)=>
some v3) else(some false)) λ(v2:Bool)=>
some v2) else(some false)) λ(v1:Bool)=>
some v1
theorem L72 (k:Nat) (a0:GItem) (r:Bool) (hF:F72 k a0=some r):PF Try.prog orc 72 [.agg (cGItem a0)] [] [] (λ p fr tk=>p=vB r/\fr=[]/\tk=[]):=by
 unfold F72 at hF
 refine PF.enterS Try.func72 rfl rfl rfl (by kernel_rfl) rfl ?_
 refine PC.region ?_
 refine oK 2 [0] [] [(1,vP 0),(2,vB false)] [⟨0,(cGItem a0)⟩] [] (by kernel_rfl) ?_
 refine PO.nil ?_
 refine PC.region ?_
 refine PO.run 2 rfl ?_
 refine bindK hF (λ r1 e2 hF=>?_)
 refine PO.call rfl rfl rfl rfl (ks:=[]) (ts:=[]) (fr1:=[]) rfl rfl rfl trivial (L49 k a0.size 1 67108864 _ e2) ?_
 rintro _ _ _ ⟨rfl,rfl,rfl⟩
 refine⟨_,_,rfl,rfl,?_⟩
 refine PO.run 1 rfl ?_
 refine bindK hF (λ x3 e4 hF=>?_)
 refine PO.cut 14 (λ s=>∃ (v1:Bool),Weak s (PS.of 21 [(2,vB false),(20,vB v1)] [] [] 0 0)/\v1=x3) ?_ ?_
 ·refine PO.case (t:=6) rfl rfl (λ h5=>?_) (λ h5=>?_)
  ·have e4:=bif_t h5 e4
   refine PO.run 2 rfl ?_
   refine bindK e4 (λ r6 e7 e4=>?_)
   refine PO.call rfl rfl rfl rfl (ks:=[]) (ts:=[]) (fr1:=[]) rfl rfl rfl trivial (L49 k a0.width 0 1099511627776 _ e7) ?_
   rintro _ _ _ ⟨rfl,rfl,rfl⟩
   refine⟨_,_,rfl,rfl,?_⟩
   refine PO.same rfl (pickT_ok rfl rfl rfl) rfl ?_
   refine PO.run 1 rfl ?_
   refine bindK e4 (λ x8 e9 e4=>?_)
   refine PO.cut 9 (λ s=>∃ (v2:Bool),Weak s (PS.of 21 [(2,vB false),(20,vB v2)] [] [] 0 0)/\v2=x8) ?_ ?_
   ·refine PO.case (t:=11) rfl rfl (λ h10=>?_) (λ h10=>?_)
    ·have e9:=bif_t h10 e9
     refine PO.run 2 rfl ?_
     refine bindK e9 (λ r11 e12 e9=>?_)
     refine PO.call rfl rfl rfl rfl (ks:=[]) (ts:=[]) (fr1:=[]) rfl rfl rfl trivial (L49 k a0.height 0 1099511627776 _ e12) ?_
     rintro _ _ _ ⟨rfl,rfl,rfl⟩
     refine⟨_,_,rfl,rfl,?_⟩
     refine PO.same rfl (pickT_ok rfl rfl rfl) rfl ?_
     refine PO.run 1 rfl ?_
     refine bindK e9 (λ x13 e14 e9=>?_)
     refine PO.cut 4 (λ s=>∃ (v3:Bool),Weak s (PS.of 21 [(2,vB false),(20,vB v3)] [] [] 0 0)/\v3=x13) ?_ ?_
     ·refine PO.case (t:=16) rfl rfl (λ h15=>?_) (λ h15=>?_)
      ·have e14:=bif_t h15 e14
       refine PO.run 2 rfl ?_
       refine bindK e14 (λ r16 e17 e14=>?_)
       refine PO.call rfl rfl rfl rfl (ks:=[]) (ts:=[]) (fr1:=[]) rfl rfl rfl trivial (L49 k a0.depth 0 1099511627776 _ e17) ?_
       rintro _ _ _ ⟨rfl,rfl,rfl⟩
       refine⟨_,_,rfl,rfl,?_⟩
       refine PO.same rfl (pickT_ok rfl rfl rfl) rfl ?_
       refine PO.nil ?_
       exact⟨r16,Weak.one [] [] (by kernel_rfl),Option.some.inj e14⟩
      have e14:=bif_f h15 e14
      refine PO.run 3 rfl ?_
      refine PO.same rfl (pickF_ok rfl rfl rfl) rfl ?_
      refine PO.nil ?_
      exact⟨false,Weak.one [] [] (by kernel_rfl),Option.some.inj e14⟩
     rintro _ ⟨v3,w18,rfl⟩
     refine PO.weak w18 ?_
     refine PO.nil ?_
     exact⟨v3,Weak.one [] [] (by kernel_rfl),Option.some.inj e9⟩
    have e9:=bif_f h10 e9
    refine PO.run 3 rfl ?_
    refine PO.same rfl (pickF_ok rfl rfl rfl) rfl ?_
    refine PO.run 4 rfl ?_
    refine PO.same rfl (pickF_ok rfl rfl rfl) rfl ?_
    refine PO.nil ?_
    exact⟨false,Weak.one [] [] (by kernel_rfl),Option.some.inj e9⟩
   rintro _ ⟨v2,w19,rfl⟩
   refine PO.weak w19 ?_
   refine PO.nil ?_
   exact⟨v2,Weak.one [] [] (by kernel_rfl),Option.some.inj e4⟩
  have e4:=bif_f h5 e4
  refine PO.run 3 rfl ?_
  refine PO.same rfl (pickF_ok rfl rfl rfl) rfl ?_
  refine PO.run 4 rfl ?_
  refine PO.same rfl (pickF_ok rfl rfl rfl) rfl ?_
  refine PO.run 4 rfl ?_
  refine PO.same rfl (pickF_ok rfl rfl rfl) rfl ?_
  refine PO.nil ?_
  exact⟨false,Weak.one [] [] (by kernel_rfl),Option.some.inj e4⟩
 rintro _ ⟨v1,w20,rfl⟩
 refine PO.weak w20 ?_
 refine PO.run 1 rfl ?_
 refine PO.nil ?_
 have hq:=Option.some.inj hF
 subst hq
 exact PC.ret' (retSK [] [] (by kernel_rfl) (.refl _) ⟨rfl,rfl,rfl⟩)
def F89 (k:Nat) (a0:Int):Option Int:=
bif decide (a0 < 0) then(some (-1)) else(bif decide (a0<=127) then(some 1) else(bif decide (a0<=2047) then(some 2) else(Option.bind (α:=Bool) (bif decide (55296<=a0) then(some (decide (a0<=57343))) else(some false)) λ(v1:Bool)=>
bif v1 then(some (-1)) else(bif decide (a0<=65535) then(some 3) else(bif decide (a0<=1114111) then(some 4) else(some (-1)))))))
theorem L89 (k:Nat) (a0:Int) (r:Int) (hF:F89 k a0=some r):PF Try.prog orc 89 [.val (.int .i32 a0)] [] [] (λ p fr tk=>p=vI r/\fr=[]/\tk=[]):=by
 unfold F89 at hF
 refine PF.enterS Try.func89 rfl rfl rfl (by kernel_rfl) rfl ?_
 refine PC.run (n:=2) rfl ?_
 refine PC.block ?_
 refine PC.run (n:=4) rfl ?_
 refine PC.lone ?_
 refine PC.cond rfl (λ h1=>?_) (λ h1=>?_)
 ·have hF:=bif_t h1 hF
  refine PC.assoc ?_
  refine PC.run (n:=2) rfl ?_
  have hq:=Option.some.inj hF
  subst hq
  exact PC.ret (blockKP.back (retSK [] [] (by kernel_rfl) (.refl _) ⟨rfl,rfl,rfl⟩))
 have hF:=bif_f h1 hF
 refine PC.assoc ?_
 refine PC.run (n:=4) rfl ?_
 refine PC.cond rfl (λ h2=>?_) (λ h2=>?_)
 ·have hF:=bif_t h2 hF
  refine PC.assoc ?_
  refine PC.run (n:=2) rfl ?_
  have hq:=Option.some.inj hF
  subst hq
  exact PC.ret (blockKP.back (retSK [] [] (by kernel_rfl) (.refl _) ⟨rfl,rfl,rfl⟩))
 have hF:=bif_f h2 hF
 refine PC.assoc ?_
 refine PC.run (n:=4) rfl ?_
 refine PC.cond rfl (λ h3=>?_) (λ h3=>?_)
 ·have hF:=bif_t h3 hF
  refine PC.assoc ?_
  refine PC.run (n:=2) rfl ?_
  have hq:=Option.some.inj hF
  subst hq
  exact PC.ret (blockKP.back (retSK [] [] (by kernel_rfl) (.refl _) ⟨rfl,rfl,rfl⟩))
 have hF:=bif_f h3 hF
 refine PC.assoc ?_
 refine PC.region ?_
 refine PO.run 3 rfl ?_
 refine bindK hF (λ x4 e5 hF=>?_)
 refine PO.cut 3 (λ s=>∃ (v1:Bool),Weak s (PS.of 25 [(0,.val (.int .i32 a0)),(2,vI 0),(18,vB v1)] [] [] 0 0)/\v1=x4) ?_ ?_
 ·refine PO.case (t:=15) rfl rfl (λ h6=>?_) (λ h6=>?_)
  ·have e5:=bif_t h6 e5
   refine PO.run 2 rfl ?_
   refine PO.same rfl (pickT_ok rfl rfl rfl) rfl ?_
   refine PO.nil ?_
   exact⟨decide (a0<=57343),Weak.one [] [] (by kernel_rfl),Option.some.inj e5⟩
  have e5:=bif_f h6 e5
  refine PO.run 2 rfl ?_
  refine PO.same rfl (pickF_ok rfl rfl rfl) rfl ?_
  refine PO.nil ?_
  exact⟨false,Weak.one [] [] (by kernel_rfl),Option.some.inj e5⟩
 rintro _ ⟨v1,w7,rfl⟩
 refine PO.weak w7 ?_
 refine PO.run 1 rfl ?_
 refine PO.nil ?_
 refine PC.cond rfl (λ h8=>?_) (λ h8=>?_)
 ·have hF:=bif_t h8 hF
  refine PC.assoc ?_
  refine PC.run (n:=2) rfl ?_
  have hq:=Option.some.inj hF
  subst hq
  exact PC.ret (blockKP.back (retSK [] [] (by kernel_rfl) (.refl _) ⟨rfl,rfl,rfl⟩))
 have hF:=bif_f h8 hF
 refine PC.assoc ?_
 refine PC.run (n:=4) rfl ?_
 refine PC.cond rfl (λ h9=>?_) (λ h9=>?_)
 ·have hF:=bif_t h9 hF
  refine PC.assoc ?_
  refine PC.run (n:=2) rfl ?_
  have hq:=Option.some.inj hF
  subst hq
  exact PC.ret (blockKP.back (retSK [] [] (by kernel_rfl) (.refl _) ⟨rfl,rfl,rfl⟩))
 have hF:=bif_f h9 hF
 refine PC.assoc ?_
 refine PC.run (n:=4) rfl ?_
 refine PC.cond rfl (λ h10=>?_) (λ h10=>?_)
 ·have hF:=bif_t h10 hF
  refine PC.assoc ?_
  refine PC.run (n:=2) rfl ?_
  have hq:=Option.some.inj hF
  subst hq
  exact PC.ret (blockKP.back (retSK [] [] (by kernel_rfl) (.refl _) ⟨rfl,rfl,rfl⟩))
 have hF:=bif_f h10 hF
 refine PC.noop ?_
 refine PC.skip (blockKP.end ?_)
 refine PC.run (n:=2) rfl ?_
 have hq:=Option.some.inj hF
 subst hq
 exact PC.ret' (retSK [] [] (by kernel_rfl) (.refl _) ⟨rfl,rfl,rfl⟩)
def F73 (k:Nat) (a0:Int):Option Int:=
Option.bind (α:=Bool) (bif decide (a0 < 0) then(some true) else(Option.bind (α:=Bool) (bif decide (a0 > 1114111) then(some true) else(Option.bind (α:=Bool) (bif decide (a0>=55296) then(some (decide (a0<=57343))) else(some false)) λ(v3:Bool)=>
some v3)) λ(v2:Bool)=>
some v2)) λ(v1:Bool)=>
bif v1 then(some 0) else((F89 k (w_i32 (a0))).bind λ r14=>
some r14)
theorem L73 (k:Nat) (a0:Int) (r:Int) (hF:F73 k a0=some r):PF Try.prog orc 73 [vI a0] [] [] (λ p fr tk=>p=vI r/\fr=[]/\tk=[]):=by
 unfold F73 at hF
 refine PF.enterS Try.func73 rfl rfl rfl (by kernel_rfl) rfl ?_
 refine PC.run (n:=2) rfl ?_
 refine PC.assoc ?_
 refine PC.region ?_
 refine PO.run 3 rfl ?_
 refine bindK hF (λ x1 e2 hF=>?_)
 refine PO.cut 11 (λ s=>∃ (v1:Bool),Weak s (PS.of 20 [(0,vI a0),(2,vI 0),(16,vB v1)] [] [] 0 0)/\v1=x1) ?_ ?_
 ·refine PO.case (t:=5) rfl rfl (λ h3=>?_) (λ h3=>?_)
  ·have e2:=bif_t h3 e2
   refine PO.run 2 rfl ?_
   refine PO.same rfl (pickT_ok rfl rfl rfl) rfl ?_
   refine PO.run 7 rfl ?_
   refine PO.same rfl (pickT_ok rfl rfl rfl) rfl ?_
   refine PO.nil ?_
   exact⟨true,Weak.one [] [] (by kernel_rfl),Option.some.inj e2⟩
  have e2:=bif_f h3 e2
  refine PO.run 2 rfl ?_
  refine PO.same rfl (pickF_ok rfl rfl rfl) rfl ?_
  refine PO.run 1 rfl ?_
  refine bindK e2 (λ x4 e5 e2=>?_)
  refine PO.cut 7 (λ s=>∃ (v2:Bool),Weak s (PS.of 20 [(0,vI a0),(2,vI 0),(16,vB v2)] [] [] 0 0)/\v2=x4) ?_ ?_
  ·refine PO.case (t:=9) rfl rfl (λ h6=>?_) (λ h6=>?_)
   ·have e5:=bif_t h6 e5
    refine PO.run 6 rfl ?_
    refine PO.same rfl (pickT_ok rfl rfl rfl) rfl ?_
    refine PO.nil ?_
    exact⟨true,Weak.one [] [] (by kernel_rfl),Option.some.inj e5⟩
   have e5:=bif_f h6 e5
   refine PO.run 3 rfl ?_
   refine bindK e5 (λ x7 e8 e5=>?_)
   refine PO.cut 4 (λ s=>∃ (v3:Bool),Weak s (PS.of 20 [(0,vI a0),(2,vI 0),(16,vB v3)] [] [] 0 0)/\v3=x7) ?_ ?_
   ·refine PO.case (t:=12) rfl rfl (λ h9=>?_) (λ h9=>?_)
    ·have e8:=bif_t h9 e8
     refine PO.run 2 rfl ?_
     refine PO.same rfl (pickT_ok rfl rfl rfl) rfl ?_
     refine PO.same rfl (pickF_ok rfl rfl rfl) rfl ?_
     refine PO.nil ?_
     exact⟨decide (a0<=57343),Weak.one [] [] (by kernel_rfl),Option.some.inj e8⟩
    have e8:=bif_f h9 e8
    refine PO.run 2 rfl ?_
    refine PO.same rfl (pickF_ok rfl rfl rfl) rfl ?_
    refine PO.same rfl (pickF_ok rfl rfl rfl) rfl ?_
    refine PO.nil ?_
    exact⟨false,Weak.one [] [] (by kernel_rfl),Option.some.inj e8⟩
   rintro _ ⟨v3,w10,rfl⟩
   refine PO.weak w10 ?_
   refine PO.nil ?_
   exact⟨v3,Weak.one [] [] (by kernel_rfl),Option.some.inj e5⟩
  rintro _ ⟨v2,w11,rfl⟩
  refine PO.weak w11 ?_
  refine PO.nil ?_
  exact⟨v2,Weak.one [] [] (by kernel_rfl),Option.some.inj e2⟩
 rintro _ ⟨v1,w12,rfl⟩
 refine PO.weak w12 ?_
 refine PO.nil ?_
 refine PC.cond rfl (λ h13=>?_) (λ h13=>?_)
 ·have hF:=bif_t h13 hF
  refine PC.assoc ?_
  refine PC.run (n:=2) rfl ?_
  have hq:=Option.some.inj hF
  subst hq
  exact PC.ret (retSK [] [] (by kernel_rfl) (.refl _) ⟨rfl,rfl,rfl⟩)
 have hF:=bif_f h13 hF
 refine PC.noop ?_
 refine PC.region ?_
 refine PO.run 2 rfl ?_
 refine bindK hF (λ r14 e15 hF=>?_)
 refine PO.call rfl rfl rfl rfl (ks:=[]) (ts:=[]) (fr1:=[]) rfl rfl rfl trivial (L89 k (w_i32 (a0)) _ e15) ?_
 rintro _ _ _ ⟨rfl,rfl,rfl⟩
 refine⟨_,_,rfl,rfl,?_⟩
 refine PO.run 1 rfl ?_
 refine PO.nil ?_
 have hq:=Option.some.inj hF
 subst hq
 exact PC.ret' (retSK [] [] (by kernel_rfl) (.refl _) ⟨rfl,rfl,rfl⟩)
def F48 (k:Nat) (a0:GItem) (a1:GItem) (a2:GItem):Option Bool:=
Option.bind (α:=Bool×ByteArray×Int×Int×Int×Int×Int×Int×Int×Int×Bool×Int×Int) (bif a0.kind == 1 then((F72 k a0).bind λ r4=>
Option.bind (α:=Bool) (bif r4 then((F73 k a0.rune).bind λ r9=>
some (decide (r9 > 0))) else(some false)) λ(v14:Bool)=>
some (v14,a0.font,a0.size,a0.rune,a0.width,a0.height,a0.depth,0,0,0,false,a0.from_,a0.to_)) else(bif a0.kind == 2 then(Option.bind (α:=Bool) (bif a1.kind == 1 then(Option.bind (α:=Bool) (bif a2.kind == 1 then(Option.bind (α:=Bool) (bif a0.width != 0 then((F49 k a0.width (w (0 - (if a2.width < a1.width then a2.width else a1.width))) 1099511627776).bind λ r22=>
some r22) else(some false)) λ(v17:Bool)=>
some v17) else(some false)) λ(v16:Bool)=>
some v16) else(some false)) λ(v15:Bool)=>
some (v15,ByteArray.empty,0,0,a0.width,0,0,0,0,0,false,0,0)) else(bif a0.kind == 3 then((F49 k a0.size 1 67108864).bind λ r28=>
Option.bind (α:=Bool) (bif r28 then((F49 k a0.width 0 67108864).bind λ r33=>
Option.bind (α:=Bool) (bif r33 then((F49 k a0.stretch 0 67108864).bind λ r38=>
Option.bind (α:=Bool) (bif r38 then((F49 k a0.shrink 0 a0.width).bind λ r43=>
some r43) else(some false)) λ(v20:Bool)=>
some v20) else(some false)) λ(v19:Bool)=>
some v19) else(some false)) λ(v18:Bool)=>
some (v18,a0.font,a0.size,0,a0.width,0,0,a0.stretch,a0.shrink,0,false,a0.from_,a0.to_)) else(bif a0.kind == 4 then((F49 k a0.value (-10000) 10000).bind λ r49=>
bif a0.flag then(Option.bind (α:=Bool) (bif r49 then((F72 k a0).bind λ r55=>
Option.bind (α:=Bool) (bif r55 then(Option.bind (α:=Bool) (bif a0.rune == 45 then(some (decide (a0.value > (-10000)))) else(some false)) λ(v23:Bool)=>
some v23) else(some false)) λ(v22:Bool)=>
some v22) else(some false)) λ(v21:Bool)=>
some (v21,a0.font,a0.size,a0.rune,a0.width,a0.height,a0.depth,0,0,a0.value,true,a0.from_,a0.to_)) else(some (r49,ByteArray.empty,0,0,0,0,0,0,0,a0.value,false,a0.from_,a0.to_))) else(some (false,ByteArray.empty,0,0,0,0,0,0,0,0,false,a0.from_,a0.to_)))))) λ(v1,v2,v3,v4,v5,v6,v7,v8,v9,v10,v11,v12,v13)=>
Option.bind (α:=Bool) (bif v1 then(some (a0.kind == a0.kind && (a0.font == v2 && (a0.size == v3 && (a0.rune == v4 && (a0.width == v5 && (a0.height == v6 && (a0.depth == v7 && (a0.stretch == v8 && (a0.shrink == v9 && (a0.value == v10 && (a0.flag == v11 && (a0.from_ == v12 && (a0.to_ == v13 && true)))))))))))))) else(some false)) λ(v24:Bool)=>
some v24
theorem L48 (k:Nat) (a0:GItem) (a1:GItem) (a2:GItem) (r:Bool) (hF:F48 k a0 a1 a2=some r):PF Try.prog orc 48 [.agg (cGItem a0),.agg (cGItem a1),.agg (cGItem a2)] [] [] (λ p fr tk=>p=vB r/\fr=[]/\tk=[]):=by
 unfold F48 at hF
 refine PF.enterS Try.func48 rfl rfl rfl (by kernel_rfl) rfl ?_
 refine PC.region ?_
 refine oK 4 [0,1,2] [] [(3,vP 0),(4,vP 1),(5,vP 2),(6,vB false)] [⟨0,(cGItem a0)⟩,⟨0,(cGItem a1)⟩,⟨0,(cGItem a2)⟩] [] (by kernel_rfl) ?_
 refine PO.nil ?_
 refine PC.region ?_
 refine oK 9 [0,1,2,3] [] [(3,vP 0),(4,vP 1),(5,vP 2),(6,vB false),(7,vP 3)] [⟨0,(cGItem a0)⟩,⟨0,(cGItem a1)⟩,⟨0,(cGItem a2)⟩,⟨0,[vI a0.kind,.val (.string ByteArray.empty),vI 0,vI 0,vI 0,vI 0,vI 0,vI 0,vI 0,vI 0,vB false,vI a0.from_,vI a0.to_]⟩] [] (by kernel_rfl) ?_
 refine PO.nil ?_
 refine PC.run (n:=2) rfl ?_
 refine PC.assoc ?_
 refine PC.run (n:=3) rfl ?_
 refine bindK hF (λ x1 e2 hF=>?_)
 refine PC.blockJ (λ s=>∃ (v1:Bool) (v2:ByteArray) (v3:Int) (v4:Int) (v5:Int) (v6:Int) (v7:Int) (v8:Int) (v9:Int) (v10:Int) (v11:Bool) (v12:Int) (v13:Int),Weak s (PS.of 164 [(3,vP 0),(6,vB false),(7,vP 1),(8,vB v1)] [⟨0,(cGItem a0)⟩,⟨0,[vI a0.kind,.val (.string v2),vI v3,vI v4,vI v5,vI v6,vI v7,vI v8,vI v9,vI v10,vB v11,vI v12,vI v13]⟩] [] 0 0)/\(v1,v2,v3,v4,v5,v6,v7,v8,v9,v10,v11,v12,v13)=x1) ?_ ?_
 ·refine PC.run (n:=3) rfl ?_
  refine PC.lone ?_
  refine PC.cond rfl (λ h3=>?_) (λ h3=>?_)
  ·have e2:=bif_t h3 e2
   refine PC.assoc ?_
   refine PC.draw [0,1,12,13,2,3,14,15,4,5,16,17,6,7,18,19,8,9,20,21,10,11,22,23] (by kernel_rfl) ?_
   refine oD 4 [2,3,14,15,4,5,16,17,6,7,18,19,8,9,20,21,10,11,22,23] ⟨12291,12291,4099,[(13,[3],false)]⟩ [(3,vP 0),(6,vB false),(7,vP 3),(8,vB false)] [⟨0,(cGItem a0)⟩,⟨0,(cGItem a1)⟩,⟨0,(cGItem a2)⟩,⟨0,[vI a0.kind,.val (.string a0.font),vI 0,vI 0,vI 0,vI 0,vI 0,vI 0,vI 0,vI 0,vB false,vI a0.from_,vI a0.to_]⟩] [] (by kernel_rfl) ?_
   refine oD 4 [4,5,16,17,6,7,18,19,8,9,20,21,10,11,22,23] ⟨61455,61455,28687,[(15,[3],false),(13,[3,3],false)]⟩ [(3,vP 0),(6,vB false),(7,vP 3),(8,vB false)] [⟨0,(cGItem a0)⟩,⟨0,(cGItem a1)⟩,⟨0,(cGItem a2)⟩,⟨0,[vI a0.kind,.val (.string a0.font),vI a0.size,vI 0,vI 0,vI 0,vI 0,vI 0,vI 0,vI 0,vB false,vI a0.from_,vI a0.to_]⟩] [] (by kernel_rfl) ?_
   refine oD 4 [6,7,18,19,8,9,20,21,10,11,22,23] ⟨258111,258111,127039,[(17,[3],false),(15,[3,3],false),(13,[3,3,3],false)]⟩ [(3,vP 0),(6,vB false),(7,vP 3),(8,vB false)] [⟨0,(cGItem a0)⟩,⟨0,(cGItem a1)⟩,⟨0,(cGItem a2)⟩,⟨0,[vI a0.kind,.val (.string a0.font),vI a0.size,vI a0.rune,vI 0,vI 0,vI 0,vI 0,vI 0,vI 0,vB false,vI a0.from_,vI a0.to_]⟩] [] (by kernel_rfl) ?_
   refine oD 4 [8,9,20,21,10,11,22,23] ⟨1044735,1044735,520447,[(19,[3],false),(17,[3,3],false),(15,[3,3,3],false),(13,[3,3,3,3],false)]⟩ [(3,vP 0),(6,vB false),(7,vP 3),(8,vB false)] [⟨0,(cGItem a0)⟩,⟨0,(cGItem a1)⟩,⟨0,(cGItem a2)⟩,⟨0,[vI a0.kind,.val (.string a0.font),vI a0.size,vI a0.rune,vI a0.width,vI 0,vI 0,vI 0,vI 0,vI 0,vB false,vI a0.from_,vI a0.to_]⟩] [] (by kernel_rfl) ?_
   refine oD 4 [10,11,22,23] ⟨4191231,4191231,2094079,[(21,[3],false),(19,[3,3],false),(17,[3,3,3],false),(15,[3,3,3,3],false),(13,[3,3,3,3,3],false)]⟩ [(3,vP 0),(6,vB false),(7,vP 3),(8,vB false)] [⟨0,(cGItem a0)⟩,⟨0,(cGItem a1)⟩,⟨0,(cGItem a2)⟩,⟨0,[vI a0.kind,.val (.string a0.font),vI a0.size,vI a0.rune,vI a0.width,vI a0.height,vI 0,vI 0,vI 0,vI 0,vB false,vI a0.from_,vI a0.to_]⟩] [] (by kernel_rfl) ?_
   refine oD 4 [] ⟨16777215,16777215,8388607,[(23,[3],false),(21,[3,3],false),(19,[3,3,3],false),(17,[3,3,3,3],false),(15,[3,3,3,3,3],false),(13,[3,3,3,3,3,3],false)]⟩ [(3,vP 0),(6,vB false),(7,vP 3),(8,vB false)] [⟨0,(cGItem a0)⟩,⟨0,(cGItem a1)⟩,⟨0,(cGItem a2)⟩,⟨0,[vI a0.kind,.val (.string a0.font),vI a0.size,vI a0.rune,vI a0.width,vI a0.height,vI a0.depth,vI 0,vI 0,vI 0,vB false,vI a0.from_,vI a0.to_]⟩] [] (by kernel_rfl) ?_
   refine PD.done [0,3] [] (es:=[(3,vP 0),(6,vB false),(7,vP 1),(8,vB false)]) (fr':=[⟨0,(cGItem a0)⟩,⟨0,[vI a0.kind,.val (.string a0.font),vI a0.size,vI a0.rune,vI a0.width,vI a0.height,vI a0.depth,vI 0,vI 0,vI 0,vB false,vI a0.from_,vI a0.to_]⟩]) (tk':=[]) (by kernel_rfl) (by kernel_rfl) ?_
   refine PC.region ?_
   refine PO.run 1 rfl ?_
   refine bindK e2 (λ r4 e5 e2=>?_)
   refine PO.call rfl rfl rfl rfl (ks:=[]) (ts:=[]) (fr1:=[]) rfl rfl rfl trivial (L72 k a0 _ e5) ?_
   rintro _ _ _ ⟨rfl,rfl,rfl⟩
   refine⟨_,_,rfl,rfl,?_⟩
   refine PO.run 1 rfl ?_
   refine bindK e2 (λ x6 e7 e2=>?_)
   refine PO.cut 5 (λ s=>∃ (v14:Bool),Weak s (PS.of 164 [(3,vP 0),(6,vB false),(7,vP 1),(8,vB false),(45,vB v14)] [⟨0,(cGItem a0)⟩,⟨0,[vI a0.kind,.val (.string a0.font),vI a0.size,vI a0.rune,vI a0.width,vI a0.height,vI a0.depth,vI 0,vI 0,vI 0,vB false,vI a0.from_,vI a0.to_]⟩] [] 0 0)/\v14=x6) ?_ ?_
   ·refine PO.case (t:=40) rfl rfl (λ h8=>?_) (λ h8=>?_)
    ·have e7:=bif_t h8 e7
     refine PO.run 2 rfl ?_
     refine bindK e7 (λ r9 e10 e7=>?_)
     refine PO.call rfl rfl rfl rfl (ks:=[]) (ts:=[]) (fr1:=[]) rfl rfl rfl trivial (L73 k a0.rune _ e10) ?_
     rintro _ _ _ ⟨rfl,rfl,rfl⟩
     refine⟨_,_,rfl,rfl,?_⟩
     refine PO.run 1 rfl ?_
     refine PO.same rfl (pickT_ok rfl rfl rfl) rfl ?_
     refine PO.nil ?_
     exact⟨decide (r9 > 0),Weak.one [0,1] [] (by kernel_rfl),Option.some.inj e7⟩
    have e7:=bif_f h8 e7
    refine PO.run 4 rfl ?_
    refine PO.same rfl (pickF_ok rfl rfl rfl) rfl ?_
    refine PO.nil ?_
    exact⟨false,Weak.one [0,1] [] (by kernel_rfl),Option.some.inj e7⟩
   rintro _ ⟨v14,w11,rfl⟩
   refine PO.weak w11 ?_
   refine PO.run 1 rfl ?_
   refine PO.nil ?_
   exact PC.skip (blockJK.end ⟨v14,a0.font,a0.size,a0.rune,a0.width,a0.height,a0.depth,0,0,0,false,a0.from_,a0.to_,Weak.one [0,1] [] (by kernel_rfl),Option.some.inj e2⟩)
  have e2:=bif_f h3 e2
  refine PC.assoc ?_
  refine PC.run (n:=3) rfl ?_
  refine PC.cond rfl (λ h12=>?_) (λ h12=>?_)
  ·have e2:=bif_t h12 e2
   refine PC.assoc ?_
   refine PC.region ?_
   refine oK 6 [0,1,2,3] [] [(3,vP 0),(4,vP 1),(5,vP 2),(6,vB false),(7,vP 3),(8,vB false)] [⟨0,(cGItem a0)⟩,⟨0,(cGItem a1)⟩,⟨0,(cGItem a2)⟩,⟨0,[vI a0.kind,.val (.string ByteArray.empty),vI 0,vI 0,vI a0.width,vI 0,vI 0,vI 0,vI 0,vI 0,vB false,vI 0,vI 0]⟩] [] (by kernel_rfl) ?_
   refine PO.nil ?_
   refine PC.region ?_
   refine PO.run 4 rfl ?_
   refine bindK e2 (λ x13 e14 e2=>?_)
   refine PO.cut 20 (λ s=>∃ (v15:Bool),Weak s (PS.of 164 [(3,vP 0),(6,vB false),(7,vP 1),(8,vB false),(76,vB v15)] [⟨0,(cGItem a0)⟩,⟨0,[vI a0.kind,.val (.string ByteArray.empty),vI 0,vI 0,vI a0.width,vI 0,vI 0,vI 0,vI 0,vI 0,vB false,vI 0,vI 0]⟩] [] 0 0)/\v15=x13) ?_ ?_
   ·refine PO.case (t:=56) rfl rfl (λ h15=>?_) (λ h15=>?_)
    ·have e14:=bif_t h15 e14
     refine PO.run 3 rfl ?_
     refine PO.same rfl (pickT_ok rfl rfl rfl) rfl ?_
     refine PO.run 1 rfl ?_
     refine bindK e14 (λ x16 e17 e14=>?_)
     refine PO.cut 15 (λ s=>∃ (v16:Bool),Weak s (PS.of 164 [(3,vP 0),(6,vB false),(7,vP 1),(8,vB false),(76,vB v16)] [⟨0,(cGItem a0)⟩,⟨0,[vI a0.kind,.val (.string ByteArray.empty),vI 0,vI 0,vI a0.width,vI 0,vI 0,vI 0,vI 0,vI 0,vB false,vI 0,vI 0]⟩] [] 0 0)/\v16=x16) ?_ ?_
     ·refine PO.case (t:=61) rfl rfl (λ h18=>?_) (λ h18=>?_)
      ·have e17:=bif_t h18 e17
       refine PO.run 3 rfl ?_
       refine PO.same rfl (pickT_ok rfl rfl rfl) rfl ?_
       refine PO.run 1 rfl ?_
       refine bindK e17 (λ x19 e20 e17=>?_)
       refine PO.cut 10 (λ s=>∃ (v17:Bool),Weak s (PS.of 164 [(3,vP 0),(6,vB false),(7,vP 1),(8,vB false),(76,vB v17)] [⟨0,(cGItem a0)⟩,⟨0,[vI a0.kind,.val (.string ByteArray.empty),vI 0,vI 0,vI a0.width,vI 0,vI 0,vI 0,vI 0,vI 0,vB false,vI 0,vI 0]⟩] [] 0 0)/\v17=x19) ?_ ?_
       ·refine PO.case (t:=66) rfl rfl (λ h21=>?_) (λ h21=>?_)
        ·have e20:=bif_t h21 e20
         refine PO.run 8 rfl ?_
         refine bindK e20 (λ r22 e23 e20=>?_)
         refine PO.call rfl rfl rfl rfl (ks:=[]) (ts:=[]) (fr1:=[]) rfl rfl rfl trivial (L49 k a0.width (w (0 - (if a2.width < a1.width then a2.width else a1.width))) 1099511627776 _ e23) ?_
         rintro _ _ _ ⟨rfl,rfl,rfl⟩
         refine⟨_,_,rfl,rfl,?_⟩
         refine PO.same rfl (pickT_ok rfl rfl rfl) rfl ?_
         refine PO.nil ?_
         exact⟨r22,Weak.one [0,3] [] (by kernel_rfl),Option.some.inj e20⟩
        have e20:=bif_f h21 e20
        refine PO.run 9 rfl ?_
        refine PO.same rfl (pickF_ok rfl rfl rfl) rfl ?_
        refine PO.nil ?_
        exact⟨false,Weak.one [0,3] [] (by kernel_rfl),Option.some.inj e20⟩
       rintro _ ⟨v17,w24,rfl⟩
       refine PO.weak w24 ?_
       refine PO.nil ?_
       exact⟨v17,Weak.one [0,1] [] (by kernel_rfl),Option.some.inj e17⟩
      have e17:=bif_f h18 e17
      refine PO.run 3 rfl ?_
      refine PO.same rfl (pickF_ok rfl rfl rfl) rfl ?_
      refine PO.run 10 rfl ?_
      refine PO.same rfl (pickF_ok rfl rfl rfl) rfl ?_
      refine PO.nil ?_
      exact⟨false,Weak.one [0,3] [] (by kernel_rfl),Option.some.inj e17⟩
     rintro _ ⟨v16,w25,rfl⟩
     refine PO.weak w25 ?_
     refine PO.nil ?_
     exact⟨v16,Weak.one [0,1] [] (by kernel_rfl),Option.some.inj e14⟩
    have e14:=bif_f h15 e14
    refine PO.run 3 rfl ?_
    refine PO.same rfl (pickF_ok rfl rfl rfl) rfl ?_
    refine PO.run 4 rfl ?_
    refine PO.same rfl (pickF_ok rfl rfl rfl) rfl ?_
    refine PO.run 10 rfl ?_
    refine PO.same rfl (pickF_ok rfl rfl rfl) rfl ?_
    refine PO.nil ?_
    exact⟨false,Weak.one [0,3] [] (by kernel_rfl),Option.some.inj e14⟩
   rintro _ ⟨v15,w26,rfl⟩
   refine PO.weak w26 ?_
   refine PO.run 1 rfl ?_
   refine PO.nil ?_
   exact PC.skip (blockJK.end ⟨v15,ByteArray.empty,0,0,a0.width,0,0,0,0,0,false,0,0,Weak.one [0,1] [] (by kernel_rfl),Option.some.inj e2⟩)
  have e2:=bif_f h12 e2
  refine PC.assoc ?_
  refine PC.run (n:=3) rfl ?_
  refine PC.cond rfl (λ h27=>?_) (λ h27=>?_)
  ·have e2:=bif_t h27 e2
   refine PC.assoc ?_
   refine PC.draw [0,1,10,11,2,3,12,13,4,5,14,15,6,7,16,17,8,9,18,19] (by kernel_rfl) ?_
   refine oD 4 [2,3,12,13,4,5,14,15,6,7,16,17,8,9,18,19] ⟨3075,3075,1027,[(11,[3],false)]⟩ [(3,vP 0),(6,vB false),(7,vP 3),(8,vB false)] [⟨0,(cGItem a0)⟩,⟨0,(cGItem a1)⟩,⟨0,(cGItem a2)⟩,⟨0,[vI a0.kind,.val (.string a0.font),vI 0,vI 0,vI 0,vI 0,vI 0,vI 0,vI 0,vI 0,vB false,vI a0.from_,vI a0.to_]⟩] [] (by kernel_rfl) ?_
   refine oD 4 [4,5,14,15,6,7,16,17,8,9,18,19] ⟨15375,15375,7183,[(13,[3],false),(11,[3,3],false)]⟩ [(3,vP 0),(6,vB false),(7,vP 3),(8,vB false)] [⟨0,(cGItem a0)⟩,⟨0,(cGItem a1)⟩,⟨0,(cGItem a2)⟩,⟨0,[vI a0.kind,.val (.string a0.font),vI a0.size,vI 0,vI 0,vI 0,vI 0,vI 0,vI 0,vI 0,vB false,vI a0.from_,vI a0.to_]⟩] [] (by kernel_rfl) ?_
   refine oD 4 [6,7,16,17,8,9,18,19] ⟨64575,64575,31807,[(15,[3],false),(13,[3,3],false),(11,[3,3,3],false)]⟩ [(3,vP 0),(6,vB false),(7,vP 3),(8,vB false)] [⟨0,(cGItem a0)⟩,⟨0,(cGItem a1)⟩,⟨0,(cGItem a2)⟩,⟨0,[vI a0.kind,.val (.string a0.font),vI a0.size,vI 0,vI a0.width,vI 0,vI 0,vI 0,vI 0,vI 0,vB false,vI a0.from_,vI a0.to_]⟩] [] (by kernel_rfl) ?_
   refine oD 4 [8,9,18,19] ⟨261375,261375,130303,[(17,[3],false),(15,[3,3],false),(13,[3,3,3],false),(11,[3,3,3,3],false)]⟩ [(3,vP 0),(6,vB false),(7,vP 3),(8,vB false)] [⟨0,(cGItem a0)⟩,⟨0,(cGItem a1)⟩,⟨0,(cGItem a2)⟩,⟨0,[vI a0.kind,.val (.string a0.font),vI a0.size,vI 0,vI a0.width,vI 0,vI 0,vI a0.stretch,vI 0,vI 0,vB false,vI a0.from_,vI a0.to_]⟩] [] (by kernel_rfl) ?_
   refine oD 4 [] ⟨1048575,1048575,524287,[(19,[3],false),(17,[3,3],false),(15,[3,3,3],false),(13,[3,3,3,3],false),(11,[3,3,3,3,3],false)]⟩ [(3,vP 0),(6,vB false),(7,vP 3),(8,vB false)] [⟨0,(cGItem a0)⟩,⟨0,(cGItem a1)⟩,⟨0,(cGItem a2)⟩,⟨0,[vI a0.kind,.val (.string a0.font),vI a0.size,vI 0,vI a0.width,vI 0,vI 0,vI a0.stretch,vI a0.shrink,vI 0,vB false,vI a0.from_,vI a0.to_]⟩] [] (by kernel_rfl) ?_
   refine PD.done [0,3] [] (es:=[(3,vP 0),(6,vB false),(7,vP 1),(8,vB false)]) (fr':=[⟨0,(cGItem a0)⟩,⟨0,[vI a0.kind,.val (.string a0.font),vI a0.size,vI 0,vI a0.width,vI 0,vI 0,vI a0.stretch,vI a0.shrink,vI 0,vB false,vI a0.from_,vI a0.to_]⟩]) (tk':=[]) (by kernel_rfl) (by kernel_rfl) ?_
   refine PC.region ?_
   refine PO.run 2 rfl ?_
   refine bindK e2 (λ r28 e29 e2=>?_)
   refine PO.call rfl rfl rfl rfl (ks:=[]) (ts:=[]) (fr1:=[]) rfl rfl rfl trivial (L49 k a0.size 1 67108864 _ e29) ?_
   rintro _ _ _ ⟨rfl,rfl,rfl⟩
   refine⟨_,_,rfl,rfl,?_⟩
   refine PO.run 1 rfl ?_
   refine bindK e2 (λ x30 e31 e2=>?_)
   refine PO.cut 16 (λ s=>∃ (v18:Bool),Weak s (PS.of 164 [(3,vP 0),(6,vB false),(7,vP 1),(8,vB false),(113,vB v18)] [⟨0,(cGItem a0)⟩,⟨0,[vI a0.kind,.val (.string a0.font),vI a0.size,vI 0,vI a0.width,vI 0,vI 0,vI a0.stretch,vI a0.shrink,vI 0,vB false,vI a0.from_,vI a0.to_]⟩] [] 0 0)/\v18=x30) ?_ ?_
   ·refine PO.case (t:=97) rfl rfl (λ h32=>?_) (λ h32=>?_)
    ·have e31:=bif_t h32 e31
     refine PO.run 2 rfl ?_
     refine bindK e31 (λ r33 e34 e31=>?_)
     refine PO.call rfl rfl rfl rfl (ks:=[]) (ts:=[]) (fr1:=[]) rfl rfl rfl trivial (L49 k a0.width 0 67108864 _ e34) ?_
     rintro _ _ _ ⟨rfl,rfl,rfl⟩
     refine⟨_,_,rfl,rfl,?_⟩
     refine PO.same rfl (pickT_ok rfl rfl rfl) rfl ?_
     refine PO.run 1 rfl ?_
     refine bindK e31 (λ x35 e36 e31=>?_)
     refine PO.cut 11 (λ s=>∃ (v19:Bool),Weak s (PS.of 164 [(3,vP 0),(6,vB false),(7,vP 1),(8,vB false),(113,vB v19)] [⟨0,(cGItem a0)⟩,⟨0,[vI a0.kind,.val (.string a0.font),vI a0.size,vI 0,vI a0.width,vI 0,vI 0,vI a0.stretch,vI a0.shrink,vI 0,vB false,vI a0.from_,vI a0.to_]⟩] [] 0 0)/\v19=x35) ?_ ?_
     ·refine PO.case (t:=102) rfl rfl (λ h37=>?_) (λ h37=>?_)
      ·have e36:=bif_t h37 e36
       refine PO.run 2 rfl ?_
       refine bindK e36 (λ r38 e39 e36=>?_)
       refine PO.call rfl rfl rfl rfl (ks:=[]) (ts:=[]) (fr1:=[]) rfl rfl rfl trivial (L49 k a0.stretch 0 67108864 _ e39) ?_
       rintro _ _ _ ⟨rfl,rfl,rfl⟩
       refine⟨_,_,rfl,rfl,?_⟩
       refine PO.same rfl (pickT_ok rfl rfl rfl) rfl ?_
       refine PO.run 1 rfl ?_
       refine bindK e36 (λ x40 e41 e36=>?_)
       refine PO.cut 6 (λ s=>∃ (v20:Bool),Weak s (PS.of 164 [(3,vP 0),(6,vB false),(7,vP 1),(8,vB false),(113,vB v20)] [⟨0,(cGItem a0)⟩,⟨0,[vI a0.kind,.val (.string a0.font),vI a0.size,vI 0,vI a0.width,vI 0,vI 0,vI a0.stretch,vI a0.shrink,vI 0,vB false,vI a0.from_,vI a0.to_]⟩] [] 0 0)/\v20=x40) ?_ ?_
       ·refine PO.case (t:=107) rfl rfl (λ h42=>?_) (λ h42=>?_)
        ·have e41:=bif_t h42 e41
         refine PO.run 4 rfl ?_
         refine bindK e41 (λ r43 e44 e41=>?_)
         refine PO.call rfl rfl rfl rfl (ks:=[]) (ts:=[]) (fr1:=[]) rfl rfl rfl trivial (L49 k a0.shrink 0 a0.width _ e44) ?_
         rintro _ _ _ ⟨rfl,rfl,rfl⟩
         refine⟨_,_,rfl,rfl,?_⟩
         refine PO.same rfl (pickT_ok rfl rfl rfl) rfl ?_
         refine PO.nil ?_
         exact⟨r43,Weak.one [0,1] [] (by kernel_rfl),Option.some.inj e41⟩
        have e41:=bif_f h42 e41
        refine PO.run 5 rfl ?_
        refine PO.same rfl (pickF_ok rfl rfl rfl) rfl ?_
        refine PO.nil ?_
        exact⟨false,Weak.one [0,1] [] (by kernel_rfl),Option.some.inj e41⟩
       rintro _ ⟨v20,w45,rfl⟩
       refine PO.weak w45 ?_
       refine PO.nil ?_
       exact⟨v20,Weak.one [0,1] [] (by kernel_rfl),Option.some.inj e36⟩
      have e36:=bif_f h37 e36
      refine PO.run 3 rfl ?_
      refine PO.same rfl (pickF_ok rfl rfl rfl) rfl ?_
      refine PO.run 6 rfl ?_
      refine PO.same rfl (pickF_ok rfl rfl rfl) rfl ?_
      refine PO.nil ?_
      exact⟨false,Weak.one [0,1] [] (by kernel_rfl),Option.some.inj e36⟩
     rintro _ ⟨v19,w46,rfl⟩
     refine PO.weak w46 ?_
     refine PO.nil ?_
     exact⟨v19,Weak.one [0,1] [] (by kernel_rfl),Option.some.inj e31⟩
    have e31:=bif_f h32 e31
    refine PO.run 3 rfl ?_
    refine PO.same rfl (pickF_ok rfl rfl rfl) rfl ?_
    refine PO.run 4 rfl ?_
    refine PO.same rfl (pickF_ok rfl rfl rfl) rfl ?_
    refine PO.run 6 rfl ?_
    refine PO.same rfl (pickF_ok rfl rfl rfl) rfl ?_
    refine PO.nil ?_
    exact⟨false,Weak.one [0,1] [] (by kernel_rfl),Option.some.inj e31⟩
   rintro _ ⟨v18,w47,rfl⟩
   refine PO.weak w47 ?_
   refine PO.run 1 rfl ?_
   refine PO.nil ?_
   exact PC.skip (blockJK.end ⟨v18,a0.font,a0.size,0,a0.width,0,0,a0.stretch,a0.shrink,0,false,a0.from_,a0.to_,Weak.one [0,1] [] (by kernel_rfl),Option.some.inj e2⟩)
  have e2:=bif_f h27 e2
  refine PC.assoc ?_
  refine PC.run (n:=3) rfl ?_
  refine PC.cond rfl (λ h48=>?_) (λ h48=>?_)
  ·have e2:=bif_t h48 e2
   refine PC.assoc ?_
   refine PC.region ?_
   refine oK 4 [0,3] [] [(3,vP 0),(6,vB false),(7,vP 1),(8,vB false)] [⟨0,(cGItem a0)⟩,⟨0,[vI a0.kind,.val (.string ByteArray.empty),vI 0,vI 0,vI 0,vI 0,vI 0,vI 0,vI 0,vI a0.value,vB false,vI a0.from_,vI a0.to_]⟩] [] (by kernel_rfl) ?_
   refine PO.nil ?_
   refine PC.assoc ?_
   refine PC.region ?_
   refine PO.run 2 rfl ?_
   refine bindK e2 (λ r49 e50 e2=>?_)
   refine PO.call rfl rfl rfl rfl (ks:=[]) (ts:=[]) (fr1:=[]) rfl rfl rfl trivial (L49 k a0.value (-10000) 10000 _ e50) ?_
   rintro _ _ _ ⟨rfl,rfl,rfl⟩
   refine⟨_,_,rfl,rfl,?_⟩
   refine PO.run 1 rfl ?_
   refine PO.nil ?_
   refine PC.assoc ?_
   refine PC.run (n:=3) rfl ?_
   refine PC.cond rfl (λ h51=>?_) (λ h51=>?_)
   ·have e2:=bif_t h51 e2
    refine PC.assoc ?_
    refine PC.draw [12,13,0,1,14,15,2,3,16,17,4,5,18,19,6,7,20,21,8,9,22,23,10,11,24,25] (by kernel_rfl) ?_
    refine oD 2 [0,1,14,15,2,3,16,17,4,5,18,19,6,7,20,21,8,9,22,23,10,11,24,25] ⟨12288,12288,4096,[(13,[1],false)]⟩ [(3,vP 0),(6,vB false),(7,vP 1),(8,vB r49)] [⟨0,(cGItem a0)⟩,⟨0,[vI a0.kind,.val (.string ByteArray.empty),vI 0,vI 0,vI 0,vI 0,vI 0,vI 0,vI 0,vI a0.value,vB true,vI a0.from_,vI a0.to_]⟩] [] (by kernel_rfl) ?_
    refine oD 4 [2,3,16,17,4,5,18,19,6,7,20,21,8,9,22,23,10,11,24,25] ⟨61443,61443,28675,[(15,[1],false),(13,[1,1],false)]⟩ [(3,vP 0),(6,vB false),(7,vP 1),(8,vB r49)] [⟨0,(cGItem a0)⟩,⟨0,[vI a0.kind,.val (.string a0.font),vI 0,vI 0,vI 0,vI 0,vI 0,vI 0,vI 0,vI a0.value,vB true,vI a0.from_,vI a0.to_]⟩] [] (by kernel_rfl) ?_
    refine oD 4 [4,5,18,19,6,7,20,21,8,9,22,23,10,11,24,25] ⟨258063,258063,126991,[(17,[1],false),(15,[1,1],false),(13,[1,1,1],false)]⟩ [(3,vP 0),(6,vB false),(7,vP 1),(8,vB r49)] [⟨0,(cGItem a0)⟩,⟨0,[vI a0.kind,.val (.string a0.font),vI a0.size,vI 0,vI 0,vI 0,vI 0,vI 0,vI 0,vI a0.value,vB true,vI a0.from_,vI a0.to_]⟩] [] (by kernel_rfl) ?_
    refine oD 4 [6,7,20,21,8,9,22,23,10,11,24,25] ⟨1044543,1044543,520255,[(19,[1],false),(17,[1,1],false),(15,[1,1,1],false),(13,[1,1,1,1],false)]⟩ [(3,vP 0),(6,vB false),(7,vP 1),(8,vB r49)] [⟨0,(cGItem a0)⟩,⟨0,[vI a0.kind,.val (.string a0.font),vI a0.size,vI a0.rune,vI 0,vI 0,vI 0,vI 0,vI 0,vI a0.value,vB true,vI a0.from_,vI a0.to_]⟩] [] (by kernel_rfl) ?_
    refine oD 4 [8,9,22,23,10,11,24,25] ⟨4190463,4190463,2093311,[(21,[1],false),(19,[1,1],false),(17,[1,1,1],false),(15,[1,1,1,1],false),(13,[1,1,1,1,1],false)]⟩ [(3,vP 0),(6,vB false),(7,vP 1),(8,vB r49)] [⟨0,(cGItem a0)⟩,⟨0,[vI a0.kind,.val (.string a0.font),vI a0.size,vI a0.rune,vI a0.width,vI 0,vI 0,vI 0,vI 0,vI a0.value,vB true,vI a0.from_,vI a0.to_]⟩] [] (by kernel_rfl) ?_
    refine oD 4 [10,11,24,25] ⟨16774143,16774143,8385535,[(23,[1],false),(21,[1,1],false),(19,[1,1,1],false),(17,[1,1,1,1],false),(15,[1,1,1,1,1],false),(13,[1,1,1,1,1,1],false)]⟩ [(3,vP 0),(6,vB false),(7,vP 1),(8,vB r49)] [⟨0,(cGItem a0)⟩,⟨0,[vI a0.kind,.val (.string a0.font),vI a0.size,vI a0.rune,vI a0.width,vI a0.height,vI 0,vI 0,vI 0,vI a0.value,vB true,vI a0.from_,vI a0.to_]⟩] [] (by kernel_rfl) ?_
    refine oD 4 [] ⟨67108863,67108863,33554431,[(25,[1],false),(23,[1,1],false),(21,[1,1,1],false),(19,[1,1,1,1],false),(17,[1,1,1,1,1],false),(15,[1,1,1,1,1,1],false),(13,[1,1,1,1,1,1,1],false)]⟩ [(3,vP 0),(6,vB false),(7,vP 1),(8,vB r49)] [⟨0,(cGItem a0)⟩,⟨0,[vI a0.kind,.val (.string a0.font),vI a0.size,vI a0.rune,vI a0.width,vI a0.height,vI a0.depth,vI 0,vI 0,vI a0.value,vB true,vI a0.from_,vI a0.to_]⟩] [] (by kernel_rfl) ?_
    refine PD.done [0,1] [] (es:=[(3,vP 0),(6,vB false),(7,vP 1),(8,vB r49)]) (fr':=[⟨0,(cGItem a0)⟩,⟨0,[vI a0.kind,.val (.string a0.font),vI a0.size,vI a0.rune,vI a0.width,vI a0.height,vI a0.depth,vI 0,vI 0,vI a0.value,vB true,vI a0.from_,vI a0.to_]⟩]) (tk':=[]) (by kernel_rfl) (by kernel_rfl) ?_
    refine PC.region ?_
    refine PO.run 2 rfl ?_
    refine bindK e2 (λ x52 e53 e2=>?_)
    refine PO.cut 13 (λ s=>∃ (v21:Bool),Weak s (PS.of 164 [(3,vP 0),(6,vB false),(7,vP 1),(8,vB r49),(157,vB v21)] [⟨0,(cGItem a0)⟩,⟨0,[vI a0.kind,.val (.string a0.font),vI a0.size,vI a0.rune,vI a0.width,vI a0.height,vI a0.depth,vI 0,vI 0,vI a0.value,vB true,vI a0.from_,vI a0.to_]⟩] [] 0 0)/\v21=x52) ?_ ?_
    ·refine PO.case (t:=144) rfl rfl (λ h54=>?_) (λ h54=>?_)
     ·have e53:=bif_t h54 e53
      refine PO.run 1 rfl ?_
      refine bindK e53 (λ r55 e56 e53=>?_)
      refine PO.call rfl rfl rfl rfl (ks:=[]) (ts:=[]) (fr1:=[]) rfl rfl rfl trivial (L72 k a0 _ e56) ?_
      rintro _ _ _ ⟨rfl,rfl,rfl⟩
      refine⟨_,_,rfl,rfl,?_⟩
      refine PO.same rfl (pickT_ok rfl rfl rfl) rfl ?_
      refine PO.run 1 rfl ?_
      refine bindK e53 (λ x57 e58 e53=>?_)
      refine PO.cut 9 (λ s=>∃ (v22:Bool),Weak s (PS.of 164 [(3,vP 0),(6,vB false),(7,vP 1),(8,vB r49),(157,vB v22)] [⟨0,(cGItem a0)⟩,⟨0,[vI a0.kind,.val (.string a0.font),vI a0.size,vI a0.rune,vI a0.width,vI a0.height,vI a0.depth,vI 0,vI 0,vI a0.value,vB true,vI a0.from_,vI a0.to_]⟩] [] 0 0)/\v22=x57) ?_ ?_
      ·refine PO.case (t:=148) rfl rfl (λ h59=>?_) (λ h59=>?_)
       ·have e58:=bif_t h59 e58
        refine PO.run 3 rfl ?_
        refine PO.same rfl (pickT_ok rfl rfl rfl) rfl ?_
        refine PO.run 1 rfl ?_
        refine bindK e58 (λ x60 e61 e58=>?_)
        refine PO.cut 4 (λ s=>∃ (v23:Bool),Weak s (PS.of 164 [(3,vP 0),(6,vB false),(7,vP 1),(8,vB r49),(157,vB v23)] [⟨0,(cGItem a0)⟩,⟨0,[vI a0.kind,.val (.string a0.font),vI a0.size,vI a0.rune,vI a0.width,vI a0.height,vI a0.depth,vI 0,vI 0,vI a0.value,vB true,vI a0.from_,vI a0.to_]⟩] [] 0 0)/\v23=x60) ?_ ?_
        ·refine PO.case (t:=153) rfl rfl (λ h62=>?_) (λ h62=>?_)
         ·have e61:=bif_t h62 e61
          refine PO.run 3 rfl ?_
          refine PO.same rfl (pickT_ok rfl rfl rfl) rfl ?_
          refine PO.nil ?_
          exact⟨decide (a0.value > (-10000)),Weak.one [0,1] [] (by kernel_rfl),Option.some.inj e61⟩
         have e61:=bif_f h62 e61
         refine PO.run 3 rfl ?_
         refine PO.same rfl (pickF_ok rfl rfl rfl) rfl ?_
         refine PO.nil ?_
         exact⟨false,Weak.one [0,1] [] (by kernel_rfl),Option.some.inj e61⟩
        rintro _ ⟨v23,w63,rfl⟩
        refine PO.weak w63 ?_
        refine PO.nil ?_
        exact⟨v23,Weak.one [0,1] [] (by kernel_rfl),Option.some.inj e58⟩
       have e58:=bif_f h59 e58
       refine PO.run 3 rfl ?_
       refine PO.same rfl (pickF_ok rfl rfl rfl) rfl ?_
       refine PO.run 4 rfl ?_
       refine PO.same rfl (pickF_ok rfl rfl rfl) rfl ?_
       refine PO.nil ?_
       exact⟨false,Weak.one [0,1] [] (by kernel_rfl),Option.some.inj e58⟩
      rintro _ ⟨v22,w64,rfl⟩
      refine PO.weak w64 ?_
      refine PO.nil ?_
      exact⟨v22,Weak.one [0,1] [] (by kernel_rfl),Option.some.inj e53⟩
     have e53:=bif_f h54 e53
     refine PO.run 2 rfl ?_
     refine PO.same rfl (pickF_ok rfl rfl rfl) rfl ?_
     refine PO.run 4 rfl ?_
     refine PO.same rfl (pickF_ok rfl rfl rfl) rfl ?_
     refine PO.run 4 rfl ?_
     refine PO.same rfl (pickF_ok rfl rfl rfl) rfl ?_
     refine PO.nil ?_
     exact⟨false,Weak.one [0,1] [] (by kernel_rfl),Option.some.inj e53⟩
    rintro _ ⟨v21,w65,rfl⟩
    refine PO.weak w65 ?_
    refine PO.run 1 rfl ?_
    refine PO.nil ?_
    exact PC.skip (blockJK.end ⟨v21,a0.font,a0.size,a0.rune,a0.width,a0.height,a0.depth,0,0,a0.value,true,a0.from_,a0.to_,Weak.one [0,1] [] (by kernel_rfl),Option.some.inj e2⟩)
   have e2:=bif_f h51 e2
   refine PC.noop ?_
   exact PC.skip (blockJK.end ⟨r49,ByteArray.empty,0,0,0,0,0,0,0,a0.value,false,a0.from_,a0.to_,Weak.one [0,1] [] (by kernel_rfl),Option.some.inj e2⟩)
  have e2:=bif_f h48 e2
  refine PC.noop ?_
  exact PC.skip (blockJK.end ⟨false,ByteArray.empty,0,0,0,0,0,0,0,0,false,a0.from_,a0.to_,Weak.one [0,3] [] (by kernel_rfl),Option.some.inj e2⟩)
 rintro _ ⟨v1,v2,v3,v4,v5,v6,v7,v8,v9,v10,v11,v12,v13,w66,rfl⟩
 refine PC.weak w66 ?_
 refine PC.region ?_
 refine PO.run 2 rfl ?_
 refine bindK hF (λ x67 e68 hF=>?_)
 refine PO.cut 4 (λ s=>∃ (v24:Bool),Weak s (PS.of 164 [(6,vB false),(163,vB v24)] [] [] 0 0)/\v24=x67) ?_ ?_
 ·refine PO.case (t:=159) rfl rfl (λ h69=>?_) (λ h69=>?_)
  ·have e68:=bif_t h69 e68
   refine PO.run 2 rfl ?_
   refine PO.same rfl (aggEq_ok (v:=.bool (a0.kind == a0.kind && (a0.font == v2 && (a0.size == v3 && (a0.rune == v4 && (a0.width == v5 && (a0.height == v6 && (a0.depth == v7 && (a0.stretch == v8 && (a0.shrink == v9 && (a0.value == v10 && (a0.flag == v11 && (a0.from_ == v12 && (a0.to_ == v13 && true)))))))))))))) rfl rfl rfl rfl rfl rfl rfl (by kernel_rfl)) rfl ?_
   refine PO.same rfl (pickT_ok rfl rfl rfl) rfl ?_
   refine PO.nil ?_
   exact⟨(a0.kind == a0.kind && (a0.font == v2 && (a0.size == v3 && (a0.rune == v4 && (a0.width == v5 && (a0.height == v6 && (a0.depth == v7 && (a0.stretch == v8 && (a0.shrink == v9 && (a0.value == v10 && (a0.flag == v11 && (a0.from_ == v12 && (a0.to_ == v13 && true))))))))))))),Weak.one [] [] (by kernel_rfl),Option.some.inj e68⟩
  have e68:=bif_f h69 e68
  refine PO.run 3 rfl ?_
  refine PO.same rfl (pickF_ok rfl rfl rfl) rfl ?_
  refine PO.nil ?_
  exact⟨false,Weak.one [] [] (by kernel_rfl),Option.some.inj e68⟩
 rintro _ ⟨v24,w70,rfl⟩
 refine PO.weak w70 ?_
 refine PO.run 1 rfl ?_
 refine PO.nil ?_
 have hq:=Option.some.inj hF
 subst hq
 exact PC.ret' (retSK [] [] (by kernel_rfl) (.refl _) ⟨rfl,rfl,rfl⟩)
def F21_l1 (k:Nat) (a0:List GItem):Nat->Int->Int->Option ((Unit) ⊕ (Int))
  | 0,_,_=>none
  | j4+1,v3,v4=>
    bif decide (v4 < (a0.length:Int)) then(Option.bind (α:=(Int) ⊕ ((Unit) ⊕ (Int))) (bindI a0 v4 λ y8=>
    Option.bind (α:=Int×ByteArray×Int×Int×Int×Int×Int×Int×Int×Int×Bool×Int×Int) (bif decide (v4 > 0) then(bindI a0 (w (v4 - 1)) λ y22=>
    some (y22.kind,y22.font,y22.size,y22.rune,y22.width,y22.height,y22.depth,y22.stretch,y22.shrink,y22.value,y22.flag,y22.from_,y22.to_)) else(some (0,ByteArray.empty,0,0,0,0,0,0,0,0,false,0,0))) λ(v9,v10,v11,v12,v13,v14,v15,v16,v17,v18,v19,v20,v21)=>
    Option.bind (α:=Int×ByteArray×Int×Int×Int×Int×Int×Int×Int×Int×Bool×Int×Int) (bif decide ((w (v4+1)) < (a0.length:Int)) then(bindI a0 (w (v4+1)) λ y36=>
    some (y36.kind,y36.font,y36.size,y36.rune,y36.width,y36.height,y36.depth,y36.stretch,y36.shrink,y36.value,y36.flag,y36.from_,y36.to_)) else(some (0,ByteArray.empty,0,0,0,0,0,0,0,0,false,0,0))) λ(v23,v24,v25,v26,v27,v28,v29,v30,v31,v32,v33,v34,v35)=>
    (F48 k y8 (GItem.mk v9 v10 v11 v12 v13 v14 v15 v16 v17 v18 v19 v20 v21) (GItem.mk v23 v24 v25 v26 v27 v28 v29 v30 v31 v32 v33 v34 v35)).bind λ r23=>
    bif !r23 then(some (.inr (.inr 1))) else(bif y8.kind == 2 then(some (.inl v3)) else(Option.bind (α:=Bool) (bif decide (y8.from_ < v3) then(some true) else((F49 k y8.to_ y8.from_ 65536).bind λ r30=>
    some (!r30))) λ(v37:Bool)=>
    bif v37 then(some (.inr (.inr 1))) else(some (.inl y8.to_))))) (Sum.elim (λ(v7:Int)=>
    F21_l1 k a0 j4 v7 (w (v4+1))) some)) else(some (.inl ()))
def F21 (k:Nat) (a0:List GItem):Option Int:=
bif decide ((a0.length:Int) > 4096) then(some 130) else(Option.bind (α:=(Unit) ⊕ (Int)) (F21_l1 k a0 k 0 0) (Sum.elim (λ(_:Unit)=>
Option.bind (α:=Bool) (bif decide ((a0.length:Int) > 0) then(bindI a0 (w ((a0.length:Int) - 1)) λ y39=>
Option.bind (α:=Bool) (bif y39.kind != 4 then(some true) else(bindI a0 (w ((a0.length:Int) - 1)) λ y41=>
some (y41.value != (-10000)))) λ(v40:Bool)=>
some v40) else(some false)) λ(v38:Bool)=>
bif v38 then(some 1) else(some 0)) some))
theorem L21 (k:Nat) (a0:List GItem) (r:Int) (hF:F21 k a0=some r):PF Try.prog orc 21 [.list 13 (List.map cGItem a0) none] [] [] (λ p fr tk=>p=vI r/\fr=[]/\tk=[]):=by
 unfold F21 at hF
 refine PF.enterS Try.func21 rfl rfl rfl (by kernel_rfl) rfl ?_
 refine PC.run (n:=2) rfl ?_
 refine PC.assoc ?_
 refine PC.region ?_
 refine PO.run 1 rfl ?_
 refine PO.same rfl (len_ok Try.underlying22 rfl (List.length_map _)) rfl ?_
 refine PO.run 1 rfl ?_
 refine PO.nil ?_
 refine PC.cond rfl (λ h1=>?_) (λ h1=>?_)
 ·have hF:=bif_t h1 hF
  refine PC.assoc ?_
  refine PC.run (n:=2) rfl ?_
  have hq:=Option.some.inj hF
  subst hq
  exact PC.ret (retSK [] [] (by kernel_rfl) (.refl _) ⟨rfl,rfl,rfl⟩)
 have hF:=bif_f h1 hF
 refine PC.noop ?_
 refine PC.run (n:=2) rfl ?_
 refine PC.assoc ?_
 refine PC.region ?_
 refine PO.run 1 rfl ?_
 refine PO.same rfl (len_ok Try.underlying22 rfl (List.length_map _)) rfl ?_
 refine PO.run 1 rfl ?_
 refine PO.nil ?_
 refine bindK hF (λ x2 e3 hF=>?_)
 refine PC.blockJ (λ s=>Weak s (PS.of 81 [(0,.list 13 (List.map cGItem a0) none),(2,vI 0)] [] [] 0 0)/\.inl ()=x2) ?_ ?_
 ·refine PC.loop (λ j4 s=>∃ (v3:Int) (v4:Int),Weak s (PS.of 81 [(0,.list 13 (List.map cGItem a0) none),(2,vI 0),(3,vI v3),(12,.list 13 (List.map cGItem a0) none),(13,vI (a0.length:Int)),(14,vI v4)] [] [] 0 0)/\F21_l1 k a0 j4 v3 v4=some x2) (λ j4 s=>?_) k ⟨0,0,Weak.one [] [] (by kernel_rfl),e3⟩
  rintro⟨v3,v4,w5,e3⟩
  refine PC.weak w5 ?_
  obtain _ | j4:=j4
  · rw[F21_l1] at e3; cases e3
  rw[F21_l1] at e3
  refine PC.run (n:=2) rfl ?_
  refine PC.cond rfl (λ h6=>?_) (λ h6=>?_)
  ·have e3:=bif_t h6 e3
   refine PC.noop ?_
   refine bindK e3 (λ x7 e8 e3=>?_)
   refine PC.blockJ (λ s=>∃ (v7:Int),Weak s (PS.of 81 [(0,.list 13 (List.map cGItem a0) none),(2,vI 0),(3,vI v7),(12,.list 13 (List.map cGItem a0) none),(13,vI (a0.length:Int)),(14,vI v4)] [] [] 0 0)/\.inl v7=x7) ?_ ?_
   ·refine PC.region ?_
    refine PO.run 1 rfl ?_
    refine bindIK e8 (λ y8 h9 h10 e8=>?_)
    refine PO.same rfl (indexAddr_ok Try.underlying22 rfl rfl rfl h9 (map_at h10)) rfl ?_
    refine oK 4 [0] [] [(0,.list 13 (List.map cGItem a0) none),(2,vI 0),(3,vI v3),(4,vI v4),(5,vP 0),(12,.list 13 (List.map cGItem a0) none),(13,vI (a0.length:Int)),(14,vI v4)] [⟨0,(cGItem y8)⟩] [] (by kernel_rfl) ?_
    refine PO.nil ?_
    refine PC.region ?_
    refine oK 2 [0,1,2] [] [(0,.list 13 (List.map cGItem a0) none),(2,vI 0),(3,vI v3),(4,vI v4),(5,vP 0),(6,vP 1),(7,vP 2),(12,.list 13 (List.map cGItem a0) none),(13,vI (a0.length:Int)),(14,vI v4)] [⟨0,(cGItem y8)⟩,⟨0,[vI 0,.val (.string ByteArray.empty),vI 0,vI 0,vI 0,vI 0,vI 0,vI 0,vI 0,vI 0,vB false,vI 0,vI 0]⟩,⟨0,[vI 0,.val (.string ByteArray.empty),vI 0,vI 0,vI 0,vI 0,vI 0,vI 0,vI 0,vI 0,vB false,vI 0,vI 0]⟩] [] (by kernel_rfl) ?_
    refine PO.nil ?_
    refine PC.assoc ?_
    refine PC.run (n:=3) rfl ?_
    refine bindK e8 (λ x11 e12 e8=>?_)
    refine PC.join (λ s=>∃ (v9:Int) (v10:ByteArray) (v11:Int) (v12:Int) (v13:Int) (v14:Int) (v15:Int) (v16:Int) (v17:Int) (v18:Int) (v19:Bool) (v20:Int) (v21:Int),Weak s (PS.of 81 [(0,.list 13 (List.map cGItem a0) none),(2,vI 0),(3,vI v3),(4,vI v4),(5,vP 0),(6,vP 1),(7,vP 2),(12,.list 13 (List.map cGItem a0) none),(13,vI (a0.length:Int)),(14,vI v4)] [⟨0,(cGItem y8)⟩,⟨0,[vI v9,.val (.string v10),vI v11,vI v12,vI v13,vI v14,vI v15,vI v16,vI v17,vI v18,vB v19,vI v20,vI v21]⟩,⟨0,[vI 0,.val (.string ByteArray.empty),vI 0,vI 0,vI 0,vI 0,vI 0,vI 0,vI 0,vI 0,vB false,vI 0,vI 0]⟩] [] 0 0)/\(v9,v10,v11,v12,v13,v14,v15,v16,v17,v18,v19,v20,v21)=x11) ?_ ?_
    ·refine PC.cond rfl (λ h13=>?_) (λ h13=>?_)
     ·have e12:=bif_t h13 e12
      refine PC.region ?_
      refine PO.run 3 rfl ?_
      refine bindIK e12 (λ y22 h14 h15 e12=>?_)
      refine PO.same rfl (indexAddr_ok Try.underlying22 rfl rfl rfl h14 (map_at h15)) rfl ?_
      refine oK 2 [0,1,2] [] [(0,.list 13 (List.map cGItem a0) none),(2,vI 0),(3,vI v3),(4,vI v4),(5,vP 0),(6,vP 1),(7,vP 2),(12,.list 13 (List.map cGItem a0) none),(13,vI (a0.length:Int)),(14,vI v4)] [⟨0,(cGItem y8)⟩,⟨0,(cGItem y22)⟩,⟨0,[vI 0,.val (.string ByteArray.empty),vI 0,vI 0,vI 0,vI 0,vI 0,vI 0,vI 0,vI 0,vB false,vI 0,vI 0]⟩] [] (by kernel_rfl) ?_
      refine PO.nil ?_
      exact PC.skip (joinKP.end ⟨y22.kind,y22.font,y22.size,y22.rune,y22.width,y22.height,y22.depth,y22.stretch,y22.shrink,y22.value,y22.flag,y22.from_,y22.to_,Weak.one [0,1,2] [] (by kernel_rfl),Option.some.inj e12⟩)
     have e12:=bif_f h13 e12
     refine PC.noop ?_
     exact PC.skip (joinKP.end ⟨0,ByteArray.empty,0,0,0,0,0,0,0,0,false,0,0,Weak.one [0,1,2] [] (by kernel_rfl),Option.some.inj e12⟩)
    rintro _ ⟨v9,v10,v11,v12,v13,v14,v15,v16,v17,v18,v19,v20,v21,w16,rfl⟩
    refine PC.weak w16 ?_
    refine PC.assoc ?_
    refine PC.region ?_
    refine PO.run 3 rfl ?_
    refine PO.same rfl (len_ok Try.underlying22 rfl (List.length_map _)) rfl ?_
    refine PO.run 1 rfl ?_
    refine PO.nil ?_
    refine bindK e8 (λ x17 e18 e8=>?_)
    refine PC.join (λ s=>∃ (v23:Int) (v24:ByteArray) (v25:Int) (v26:Int) (v27:Int) (v28:Int) (v29:Int) (v30:Int) (v31:Int) (v32:Int) (v33:Bool) (v34:Int) (v35:Int),Weak s (PS.of 81 [(0,.list 13 (List.map cGItem a0) none),(2,vI 0),(3,vI v3),(5,vP 0),(6,vP 1),(7,vP 2),(12,.list 13 (List.map cGItem a0) none),(13,vI (a0.length:Int)),(14,vI v4)] [⟨0,(cGItem y8)⟩,⟨0,[vI v9,.val (.string v10),vI v11,vI v12,vI v13,vI v14,vI v15,vI v16,vI v17,vI v18,vB v19,vI v20,vI v21]⟩,⟨0,[vI v23,.val (.string v24),vI v25,vI v26,vI v27,vI v28,vI v29,vI v30,vI v31,vI v32,vB v33,vI v34,vI v35]⟩] [] 0 0)/\(v23,v24,v25,v26,v27,v28,v29,v30,v31,v32,v33,v34,v35)=x17) ?_ ?_
    ·refine PC.cond rfl (λ h19=>?_) (λ h19=>?_)
     ·have e18:=bif_t h19 e18
      refine PC.region ?_
      refine PO.run 3 rfl ?_
      refine bindIK e18 (λ y36 h20 h21 e18=>?_)
      refine PO.same rfl (indexAddr_ok Try.underlying22 rfl rfl rfl h20 (map_at h21)) rfl ?_
      refine oK 2 [0,1,2] [] [(0,.list 13 (List.map cGItem a0) none),(2,vI 0),(3,vI v3),(5,vP 0),(6,vP 1),(7,vP 2),(12,.list 13 (List.map cGItem a0) none),(13,vI (a0.length:Int)),(14,vI v4)] [⟨0,(cGItem y8)⟩,⟨0,[vI v9,.val (.string v10),vI v11,vI v12,vI v13,vI v14,vI v15,vI v16,vI v17,vI v18,vB v19,vI v20,vI v21]⟩,⟨0,(cGItem y36)⟩] [] (by kernel_rfl) ?_
      refine PO.nil ?_
      exact PC.skip (joinKP.end ⟨y36.kind,y36.font,y36.size,y36.rune,y36.width,y36.height,y36.depth,y36.stretch,y36.shrink,y36.value,y36.flag,y36.from_,y36.to_,Weak.one [0,1,2] [] (by kernel_rfl),Option.some.inj e18⟩)
     have e18:=bif_f h19 e18
     refine PC.noop ?_
     exact PC.skip (joinKP.end ⟨0,ByteArray.empty,0,0,0,0,0,0,0,0,false,0,0,Weak.one [0,1,2] [] (by kernel_rfl),Option.some.inj e18⟩)
    rintro _ ⟨v23,v24,v25,v26,v27,v28,v29,v30,v31,v32,v33,v34,v35,w22,rfl⟩
    refine PC.weak w22 ?_
    refine PC.assoc ?_
    refine PC.region ?_
    refine PO.run 3 rfl ?_
    refine bindK e8 (λ r23 e24 e8=>?_)
    refine PO.call rfl rfl rfl rfl (ks:=[]) (ts:=[]) (fr1:=[]) rfl rfl rfl trivial (L48 k y8 (GItem.mk v9 v10 v11 v12 v13 v14 v15 v16 v17 v18 v19 v20 v21) (GItem.mk v23 v24 v25 v26 v27 v28 v29 v30 v31 v32 v33 v34 v35) _ e24) ?_
    rintro _ _ _ ⟨rfl,rfl,rfl⟩
    refine⟨_,_,rfl,rfl,?_⟩
    refine PO.run 1 rfl ?_
    refine PO.nil ?_
    refine PC.cond rfl (λ h25=>?_) (λ h25=>?_)
    ·have e8:=bif_t h25 e8
     refine PC.assoc ?_
     refine PC.run (n:=2) rfl ?_
     have hq:=Option.some.inj e8
     subst hq
     have hq:=Option.some.inj e3
     subst hq
     have hq:=Option.some.inj hF
     subst hq
     exact PC.ret (blockJK.back (loopKP.ret (blockJK.back (retSK [] [] (by kernel_rfl) (.refl _) ⟨rfl,rfl,rfl⟩))))
    have e8:=bif_f h25 e8
    refine PC.noop ?_
    refine PC.assoc ?_
    refine PC.run (n:=4) rfl ?_
    refine PC.cond rfl (λ h26=>?_) (λ h26=>?_)
    ·have e8:=bif_t h26 e8
     exact PC.exit (blockJK.here ⟨v3,Weak.one [] [] (by kernel_rfl),Option.some.inj e8⟩)
    have e8:=bif_f h26 e8
    refine PC.noop ?_
    refine PC.assoc ?_
    refine PC.region ?_
    refine PO.run 5 rfl ?_
    refine bindK e8 (λ x27 e28 e8=>?_)
    refine PO.cut 7 (λ s=>∃ (v37:Bool),Weak s (PS.of 81 [(0,.list 13 (List.map cGItem a0) none),(2,vI 0),(3,vI v3),(5,vP 0),(12,.list 13 (List.map cGItem a0) none),(13,vI (a0.length:Int)),(14,vI v4),(55,vB v37)] [⟨0,(cGItem y8)⟩] [] 0 0)/\v37=x27) ?_ ?_
    ·refine PO.case (t:=48) rfl rfl (λ h29=>?_) (λ h29=>?_)
     ·have e28:=bif_t h29 e28
      refine PO.run 6 rfl ?_
      refine PO.same rfl (pickT_ok rfl rfl rfl) rfl ?_
      refine PO.nil ?_
      exact⟨true,Weak.one [0] [] (by kernel_rfl),Option.some.inj e28⟩
     have e28:=bif_f h29 e28
     refine PO.run 4 rfl ?_
     refine bindK e28 (λ r30 e31 e28=>?_)
     refine PO.call rfl rfl rfl rfl (ks:=[]) (ts:=[]) (fr1:=[]) rfl rfl rfl trivial (L49 k y8.to_ y8.from_ 65536 _ e31) ?_
     rintro _ _ _ ⟨rfl,rfl,rfl⟩
     refine⟨_,_,rfl,rfl,?_⟩
     refine PO.run 1 rfl ?_
     refine PO.same rfl (pickF_ok rfl rfl rfl) rfl ?_
     refine PO.nil ?_
     exact⟨!r30,Weak.one [0] [] (by kernel_rfl),Option.some.inj e28⟩
    rintro _ ⟨v37,w32,rfl⟩
    refine PO.weak w32 ?_
    refine PO.nil ?_
    refine PC.cond rfl (λ h33=>?_) (λ h33=>?_)
    ·have e8:=bif_t h33 e8
     refine PC.assoc ?_
     refine PC.run (n:=2) rfl ?_
     have hq:=Option.some.inj e8
     subst hq
     have hq:=Option.some.inj e3
     subst hq
     have hq:=Option.some.inj hF
     subst hq
     exact PC.ret (blockJK.back (loopKP.ret (blockJK.back (retSK [] [] (by kernel_rfl) (.refl _) ⟨rfl,rfl,rfl⟩))))
    have e8:=bif_f h33 e8
    refine PC.noop ?_
    refine PC.lone ?_
    refine PC.run (n:=4) rfl ?_
    exact PC.skip (blockJK.end ⟨y8.to_,Weak.one [] [] (by kernel_rfl),Option.some.inj e8⟩)
   rintro _ ⟨v7,w34,rfl⟩
   refine PC.weak w34 ?_
   have e3:=elim_l e3
   refine PC.lone ?_
   refine PC.run (n:=3) rfl ?_
   exact PC.skip (loopKP.mk (Nat.lt_succ_self _) ⟨v7,w (v4+1),Weak.one [] [] (by kernel_rfl),e3⟩)
  have e3:=bif_f h6 e3
  exact PC.exit (loopKP.exit (blockJK.here ⟨Weak.one [] [] (by kernel_rfl),Option.some.inj e3⟩))
 rintro _ ⟨w35,rfl⟩
 refine PC.weak w35 ?_
 have hF:=elim_l hF
 refine PC.assoc ?_
 refine PC.region ?_
 refine PO.run 1 rfl ?_
 refine PO.same rfl (len_ok Try.underlying22 rfl (List.length_map _)) rfl ?_
 refine PO.run 1 rfl ?_
 refine PO.nil ?_
 refine PC.assoc ?_
 refine PC.region ?_
 refine PO.run 3 rfl ?_
 refine bindK hF (λ x36 e37 hF=>?_)
 refine PO.cut 17 (λ s=>∃ (v38:Bool),Weak s (PS.of 81 [(2,vI 0),(80,vB v38)] [] [] 0 0)/\v38=x36) ?_ ?_
 ·refine PO.case (t:=63) rfl rfl (λ h38=>?_) (λ h38=>?_)
  ·have e37:=bif_t h38 e37
   refine PO.run 3 rfl ?_
   refine bindIK e37 (λ y39 h39 h40 e37=>?_)
   refine PO.same rfl (indexAddr_ok Try.underlying22 rfl rfl rfl h39 (map_at h40)) rfl ?_
   refine PO.run 4 rfl ?_
   refine bindK e37 (λ x41 e42 e37=>?_)
   refine PO.cut 9 (λ s=>∃ (v40:Bool),Weak s (PS.of 81 [(2,vI 0),(80,vB v40)] [] [] 0 0)/\v40=x41) ?_ ?_
   ·refine PO.case (t:=71) rfl rfl (λ h43=>?_) (λ h43=>?_)
    ·have e42:=bif_t h43 e42
     refine PO.run 7 rfl ?_
     refine PO.same rfl (pickT_ok rfl rfl rfl) rfl ?_
     refine PO.same rfl (pickT_ok rfl rfl rfl) rfl ?_
     refine PO.nil ?_
     exact⟨true,Weak.one [] [] (by kernel_rfl),Option.some.inj e42⟩
    have e42:=bif_f h43 e42
    refine PO.run 3 rfl ?_
    refine bindIK e42 (λ y41 h44 h45 e42=>?_)
    refine PO.same rfl (indexAddr_ok Try.underlying22 rfl rfl rfl h44 (map_at h45)) rfl ?_
    refine PO.run 3 rfl ?_
    refine PO.same rfl (pickF_ok rfl rfl rfl) rfl ?_
    refine PO.same rfl (pickT_ok rfl rfl rfl) rfl ?_
    refine PO.nil ?_
    exact⟨y41.value != (-10000),Weak.one [] [] (by kernel_rfl),Option.some.inj e42⟩
   rintro _ ⟨v40,w46,rfl⟩
   refine PO.weak w46 ?_
   refine PO.nil ?_
   exact⟨v40,Weak.one [] [] (by kernel_rfl),Option.some.inj e37⟩
  have e37:=bif_f h38 e37
  refine PO.run 16 rfl ?_
  refine PO.same rfl (pickF_ok rfl rfl rfl) rfl ?_
  refine PO.nil ?_
  exact⟨false,Weak.one [] [] (by kernel_rfl),Option.some.inj e37⟩
 rintro _ ⟨v38,w47,rfl⟩
 refine PO.weak w47 ?_
 refine PO.nil ?_
 refine PC.cond rfl (λ h48=>?_) (λ h48=>?_)
 ·have hF:=bif_t h48 hF
  refine PC.assoc ?_
  refine PC.run (n:=2) rfl ?_
  have hq:=Option.some.inj hF
  subst hq
  exact PC.ret (retSK [] [] (by kernel_rfl) (.refl _) ⟨rfl,rfl,rfl⟩)
 have hF:=bif_f h48 hF
 refine PC.noop ?_
 refine PC.run (n:=2) rfl ?_
 have hq:=Option.some.inj hF
 subst hq
 exact PC.ret' (retSK [] [] (by kernel_rfl) (.refl _) ⟨rfl,rfl,rfl⟩)
def F46 (k:Nat) (a0:List GItem):Option (List GItem):=
some a0
theorem L46 (k:Nat) (a0:List GItem) (r:List GItem) (hF:F46 k a0=some r):PF Try.prog orc 46 [.list 13 (List.map cGItem a0) none] [] [] (λ p fr tk=>p=.fn 70 [] [vP 0]/\fr=[⟨0,[.list 13 (List.map cGItem r) none]⟩]/\tk=[]):=by
 unfold F46 at hF
 refine PF.enterS Try.func46 rfl rfl rfl (by kernel_rfl) rfl ?_
 refine PC.region ?_
 refine oK 2 [0] [] [(1,vP 0),(2,.val .nilFunc)] [⟨0,[.list 13 (List.map cGItem a0) none]⟩] [] (by kernel_rfl) ?_
 refine PO.nil ?_
 refine PC.run (n:=3) rfl ?_
 have hq:=Option.some.inj hF
 subst hq
 exact PC.ret' (retSK [0] [] (by kernel_rfl) (.refl _) ⟨rfl,rfl,rfl⟩)
def F18_r1 (k:Nat):List Int->(List Int)->Option ((List Int))
  | [],v5=>some v5
  | y4 :: l7,v5=>
    bindA 8 v5 ([y4]) λ l8=>
    F18_r1 k l7 l8
def F18 (k:Nat) (a0:List GItem):Option (List Int):=
(F21 k a0).bind λ r1=>
Option.bind (α:=List Int) (bif r1 == 0 then((F46 k a0).bind λ r6=>
Option.bind (α:=List Int) ((walkL k r6 k 0).bind λ l3=>
Option.bind (α:=(List Int)) (F18_r1 k l3 ([] : List Int)) (λ(v5:List Int)=>
some v5)) λ(v2:List Int)=>
some v2) else(some ([]))) λ(v1:List Int)=>
some v1
theorem L18 (k:Nat) (a0:List GItem) (r:List Int) (hF:F18 k a0=some r):PF Try.prog orc 18 [.list 13 (List.map cGItem a0) none] [] [] (λ p fr tk=>p=.fn 47 [] [vP 0]/\fr=[⟨0,[.list 1 (List.map cI_i64 r) none]⟩]/\tk=[]):=by
 unfold F18 at hF
 refine PF.enterM Try.func18 rfl rfl rfl (by kernel_rfl) rfl ?_
 refine PC.run (n:=2) rfl ?_
 refine PC.region ?_
 refine oK 1 [0] [] [(0,.list 13 (List.map cGItem a0) none),(2,.val .nilFunc),(3,vP 0)] [⟨0,[.val (.slice none 0 0)]⟩] [] (by kernel_rfl) ?_
 refine PO.nil ?_
 refine PC.assoc ?_
 refine PC.region ?_
 refine PO.run 1 rfl ?_
 refine bindK hF (λ r1 e2 hF=>?_)
 refine PO.call rfl rfl rfl rfl (ks:=[]) (ts:=[]) (fr1:=[]) rfl rfl rfl trivial (L21 k a0 _ e2) ?_
 rintro _ _ _ ⟨rfl,rfl,rfl⟩
 refine⟨_,_,rfl,rfl,?_⟩
 refine PO.run 1 rfl ?_
 refine PO.nil ?_
 refine bindK hF (λ x3 e4 hF=>?_)
 refine PC.join (λ s=>∃ (v1:List Int),Weak s (PS.ofm [none] 16 [(2,.val .nilFunc),(3,vP 0)] [⟨0,[.list 1 (List.map cI_i64 v1) none]⟩] [] 0 0)/\v1=x3) ?_ ?_
 ·refine PC.cond rfl (λ h5=>?_) (λ h5=>?_)
  ·have e4:=bif_t h5 e4
   refine PC.assoc ?_
   refine PC.region ?_
   refine PO.run 1 rfl ?_
   refine bindK e4 (λ r6 e7 e4=>?_)
   refine PO.call rfl rfl rfl rfl (ks:=[]) (ts:=[]) (fr1:=[]) rfl rfl rfl trivial (L46 k a0 _ e7) ?_
   rintro _ _ _ ⟨rfl,rfl,rfl⟩
   refine⟨_,_,rfl,rfl,?_⟩
   refine PO.nil ?_
   refine bindK e4 (λ x8 e9 e4=>?_)
   refine PC.blockJ (λ s=>∃ (v2:List Int),Weak s (PS.ofm [none] 16 [(2,.val .nilFunc),(3,vP 0)] [⟨0,[.list 1 (List.map cI_i64 v2) (some 0)]⟩] [v2.length] 0 0)/\v2=x8) ?_ ?_
   ·refine PC.lone ?_
    refine bindK e9 (λ l3 e10 e9=>?_)
    refine PC.weak (s':=PS.ofm [none] 16 [(2,.val .nilFunc),(3,vP 0),(9,.fn 70 [] [vP 1])] [⟨0,[.list 1 (List.map cI_i64 ([] : List Int)) (some 0)]⟩,⟨0,[.list 13 (List.map cGItem r6) none]⟩] [0] 0 0) (Weak.mk [0,1] [] 1 rfl rfl rfl ⟨⟨_,_,rfl,rfl,rfl,(LessL.cons (.nilt 1 0 rfl rfl) (LessL.refl _))⟩,⟨⟨_,_,rfl,rfl,rfl,(LessL.refl _)⟩,trivial⟩⟩ ⟨⟨_,_,rfl,rfl,.refl _⟩,⟨⟨_,_,rfl,rfl,.refl _⟩,⟨⟨_,_,rfl,rfl,.refl _⟩,trivial⟩⟩⟩) ?_
    refine bindK e9 (λ x11 e12 e9=>?_)
    refine PC.rangeFunc (f:=70) rfl (I93 k r6 k l3 e10 1) (by intro i x hx; obtain⟨_,_,rfl⟩:=map_inv hx; rfl) (by intro h; first | rfl | cases h) (λ i fr tk=>∃ (v5:List Int),fr=[⟨0,[.list 1 (List.map cI_i64 v5) (some 0)]⟩,⟨0,[.list 13 (List.map cGItem r6) none]⟩]/\tk=[v5.length]/\F18_r1 k (List.drop i l3) v5=some x11) (λ y fr tk=>False) ?_ ?_ ?_ ?_ ?_
    · rintro i fr tk ⟨v5,rfl,rfl,_⟩
      exact⟨rfl,rfl,⟨_,_,rfl⟩⟩
    · exact⟨([] : List Int),rfl,rfl,e12⟩
    ·intro i x fr tk l hx hj
     refine Exists.elim (map_inv hx) (λ y4 hq=>?_)
     have ha:=hq.1
     obtain rfl:=hq.2
     clear hq
     obtain⟨v5,rfl,rfl,e13⟩:=hj
     rw[drop_at ha,F18_r1] at e13
     clear hx ha
     refine⟨_,rfl,?_⟩
     refine PC.weak (s':=PS.of 16 [(3,vP 0),(10,vI y4)] [⟨0,[.list 1 (List.map cI_i64 v5) (some 0)]⟩,⟨0,[.list 13 (List.map cGItem r6) none]⟩] [v5.length] 2 1) (Weak.one [0,1] [0] (by kernel_rfl)) ?_
     refine PC.lone ?_
     refine PC.run (n:=2) rfl ?_
     refine PC.skip ⟨rfl,?_⟩
     refine PC.lone ?_
     refine PC.block ?_
     refine PC.lone ?_
     refine PC.region ?_
     refine oK 3 [0,1] [0,1] [(3,vP 0),(11,.list 1 (List.map cI_i64 v5) (some 0)),(13,.list 1 (List.map cI_i64 ([y4])) (some 1))] [⟨0,[.list 1 (List.map cI_i64 v5) (some 0)]⟩,⟨0,[.list 13 (List.map cGItem r6) none]⟩] [v5.length,1] (by kernel_rfl) ?_
     refine bindAK e13 (λ h17 e13=>?_)
     generalize hgl8:v5++([y4])=l8 at e13
     refine PO.one rfl (append_typed (L:=v5) (M:=[y4]) (f:=cI_i64) (sz:=1) (bytes:=8) Try.underlying34 rfl rfl rfl rfl rfl rfl rfl rfl rfl rfl rfl rfl h17 hgl8) rfl ?_
     refine oK 1 [0,1] [0] [] [⟨0,[.list 1 (List.map cI_i64 l8) (some 0)]⟩,⟨0,[.list 13 (List.map cGItem r6) none]⟩] [l8.length] (by kernel_rfl) ?_
     refine PO.nil ?_
     refine PC.skip (blockKP.end ?_)
     refine PC.weak (s':=PS.of 16 [] [⟨0,[.list 1 (List.map cI_i64 l8) (some 0)]⟩,⟨0,[.list 13 (List.map cGItem r6) none]⟩] [l8.length] 2 1) (Weak.one [0,1] [0] (by kernel_rfl)) ?_
     exact PC.skip (⟨l8,rfl,rfl,e13⟩)
    ·rintro fr tk ⟨v5,rfl,rfl,e13⟩
     rw[List.length_map,List.drop_length,F18_r1] at e13
     obtain rfl:=Option.some.inj e13
     have e9:=e9
     refine PC.weak (s':=PS.ofm [none] 16 [(2,.val .nilFunc),(3,vP 0),(9,.fn 70 [] [vP 1])] [⟨0,[.list 1 (List.map cI_i64 v5) (some 0)]⟩,⟨0,[.list 13 (List.map cGItem r6) none]⟩] [v5.length] 0 0) (Weak.one [0,1] [0] (by kernel_rfl)) ?_
     exact PC.skip (blockJK.end ⟨v5,Weak.one [0] [0] (by kernel_rfl),Option.some.inj e9⟩)
    ·intro y fr tk hd hy
     exact hd.elim
   rintro _ ⟨v2,w18,rfl⟩
   refine PC.weak w18 ?_
   exact PC.skip (joinKP.end ⟨v2,Weak.one [0] [] (by kernel_rfl),Option.some.inj e4⟩)
  have e4:=bif_f h5 e4
  refine PC.noop ?_
  exact PC.skip (joinKP.end ⟨[],Weak.mk [0] [] 0 rfl rfl rfl ⟨⟨_,_,rfl,rfl,rfl,(LessL.cons (.nil 1) (LessL.refl _))⟩,trivial⟩ ⟨⟨_,_,rfl,rfl,.refl _⟩,⟨⟨_,_,rfl,rfl,.refl _⟩,trivial⟩⟩,Option.some.inj e4⟩)
 rintro _ ⟨v1,w19,rfl⟩
 refine PC.weak w19 ?_
 refine PC.run (n:=3) rfl ?_
 have hq:=Option.some.inj hF
 subst hq
 exact PC.ret' (retMK [0] [] (by kernel_rfl) (.refl _) ⟨rfl,rfl,rfl⟩)
def F8_s (k:Nat):Option (GMeter×Int):=
some ((GMeter.mk 0 0 1152921504606846976 0 0 1152921504606846976 0),0)
theorem L8_s (k:Nat) (r:GMeter×Int) (hF:F8_s k=some r):PF Try.prog orc 8 [vI 1152921504606846976,vI 1152921504606846976] [] [] (λ p fr tk=>p=.tup [vP 0,vI r.2]/\fr=[⟨0,(cGMeter r.1)⟩]/\tk=[]):=by
 unfold F8_s at hF
 refine PF.enterS Try.func8 rfl rfl rfl (by kernel_rfl) rfl ?_
 refine PC.region ?_
 refine oK 2 [] [] [(0,vI 1152921504606846976),(1,vI 1152921504606846976),(4,.val (.pointer none)),(5,vI 0)] [] [] (by kernel_rfl) ?_
 refine PO.nil ?_
 refine PC.assoc ?_
 refine PC.region ?_
 refine oK 5 [] [] [(0,vI 1152921504606846976),(1,vI 1152921504606846976),(4,.val (.pointer none)),(5,vI 0),(8,vB false),(10,vB false)] [] [] (by kernel_rfl) ?_
 refine PO.same rfl (pickF_ok rfl rfl rfl) rfl ?_
 refine PO.nil ?_
 refine PC.cond rfl (λ h1=>Bool.noConfusion h1) (λ _=>?_)
 refine PC.noop ?_
 refine PC.region ?_
 refine oK 8 [0] [] [(4,vP 0),(5,vI 0)] [⟨0,[vI 0,vI 0,vI 1152921504606846976,vI 0,vI 0,vI 1152921504606846976,vI 0]⟩] [] (by kernel_rfl) ?_
 refine PO.nil ?_
 have hq:=Option.some.inj hF
 subst hq
 exact PC.ret' (retSK [0] [] (by kernel_rfl) (.refl _) ⟨rfl,rfl,rfl⟩)
def F15 (k:Nat):Option GMeter:=
(F8_s k).bind λ r1=>
some r1.1
theorem L15 (k:Nat) (r:GMeter) (hF:F15 k=some r):PF Try.prog orc 15 [] [] [] (λ p fr tk=>p=vP 0/\fr=[⟨0,(cGMeter r)⟩]/\tk=[]):=by
 unfold F15 at hF
 refine PF.enterS Try.func15 rfl rfl rfl (by kernel_rfl) rfl ?_
 refine PC.run (n:=2) rfl ?_
 refine PC.region ?_
 refine bindK hF (λ r1 e2 hF=>?_)
 refine PO.call rfl rfl rfl rfl (ks:=[]) (ts:=[]) (fr1:=[]) rfl rfl rfl trivial (L8_s k _ e2) ?_
 rintro _ _ _ ⟨rfl,rfl,rfl⟩
 refine⟨_,_,rfl,rfl,?_⟩
 refine PO.run 5 rfl ?_
 refine PO.nil ?_
 refine PC.run (n:=3) rfl ?_
 have hq:=Option.some.inj hF
 subst hq
 exact PC.ret' (retSK [0] [] (by kernel_rfl) (.refl _) ⟨rfl,rfl,rfl⟩)
def F26 (k:Nat) (a0:Int) (a1:Int):Option ((List Int)×GCost×GFault):=
some ([],(GCost.mk 0 0 0),(GFault.mk a0 a1))
theorem L26 (k:Nat) (a0:Int) (a1:Int) (r:(List Int)×GCost×GFault) (hF:F26 k a0 a1=some r):PF Try.prog orc 26 [vI a0,vI a1] [] [] (λ p fr tk=>p=.tup [.list 1 (List.map cI_i64 r.1) none,.agg (cGCost r.2.1),.agg (cGFault r.2.2)]/\fr=[]/\tk=[]):=by
 unfold F26 at hF
 refine PF.enterS Try.func26 rfl rfl rfl (by kernel_rfl) rfl ?_
 refine PC.region ?_
 refine oK 3 [0,1] [] [(0,vI a0),(1,vI a1),(4,.val (.slice none 0 0)),(5,vP 0),(6,vP 1)] [⟨0,[vI 0,vI 0,vI 0]⟩,⟨0,[vI 0,vI 0]⟩] [] (by kernel_rfl) ?_
 refine PO.nil ?_
 refine PC.region ?_
 refine oK 7 [0,1] [] [(4,.val (.slice none 0 0)),(5,vP 0),(6,vP 1)] [⟨0,[vI 0,vI 0,vI 0]⟩,⟨0,[vI a0,vI a1]⟩] [] (by kernel_rfl) ?_
 refine PO.nil ?_
 have hq:=Option.some.inj hF
 subst hq
 exact PC.ret' (retSK [] [] (by kernel_rfl) (Less.tupL (LessL.cons (.nil 1) (LessL.refl _))) ⟨rfl,rfl,rfl⟩)
def F55_s_r1 (k:Nat):List Int->(List Int)->Option ((List Int))
  | [],v3=>some v3
  | y2 :: l5,v3=>
    bindA 8 v3 ([y2]) λ l6=>
    F55_s_r1 k l5 l6
def F55_s (k:Nat) (a0:List Int):Option ((List Int)×(List Int)):=
Option.bind (α:=List Int) (guardL a0.length (Option.bind (α:=(List Int)) (F55_s_r1 k a0 ([] : List Int)) (λ(v3:List Int)=>
some v3))) λ(v1:List Int)=>
some (v1,a0)
theorem L55_s (k:Nat) (a0:List Int) (r:(List Int)×(List Int)) (hF:F55_s k a0=some r):PF Try.prog orc 55 [.val (.slice none 0 0),.fn 47 [] [vP 0]] [⟨0,[.list 1 (List.map cI_i64 a0) none]⟩] [] (λ p fr tk=>p=.list 1 (List.map cI_i64 r.1) none/\fr=[⟨0,[.list 1 (List.map cI_i64 r.2) none]⟩]/\tk=[]):=by
 unfold F55_s at hF
 refine PF.enterM Try.func55 rfl rfl rfl (by kernel_rfl) rfl ?_
 refine PC.region ?_
 refine oK 2 [0,1] [] [(1,.fn 47 [] [vP 0]),(2,vP 1),(4,.val (.slice none 0 0))] [⟨0,[.list 1 (List.map cI_i64 a0) none]⟩,⟨0,[.val (.slice none 0 0)]⟩] [] (by kernel_rfl) ?_
 refine PO.nil ?_
 refine PC.assoc ?_
 refine PC.run (n:=2) rfl ?_
 refine bindK hF (λ x1 e2 hF=>?_)
 refine PC.blockJ (λ s=>∃ (v1:List Int),Weak s (PS.ofm [none] 13 [(2,vP 1),(4,.val (.slice none 0 0))] [⟨0,[.list 1 (List.map cI_i64 a0) none]⟩,⟨0,[.list 1 (List.map cI_i64 v1) (some 0)]⟩] [v1.length] 1 0)/\v1=x1) ?_ ?_
 ·refine PC.lone ?_
  have hq:=guardL_some e2
  have h3:=hq.1
  have e2:=hq.2
  clear hq
  refine PC.weak (s':=PS.ofm [none] 13 [(2,vP 1),(4,.val (.slice none 0 0)),(6,.fn 47 [] [vP 0])] [⟨0,[.list 1 (List.map cI_i64 a0) none]⟩,⟨0,[.list 1 (List.map cI_i64 ([] : List Int)) (some 0)]⟩] [0] 1 0) (Weak.mk [0,1] [] 1 rfl rfl rfl ⟨⟨_,_,rfl,rfl,rfl,(LessL.refl _)⟩,⟨⟨_,_,rfl,rfl,rfl,(LessL.cons (.nilt 1 0 rfl rfl) (LessL.refl _))⟩,trivial⟩⟩ ⟨⟨_,_,rfl,rfl,.refl _⟩,⟨⟨_,_,rfl,rfl,.refl _⟩,⟨⟨_,_,rfl,rfl,.refl _⟩,trivial⟩⟩⟩) ?_
  refine bindK e2 (λ x4 e5 e2=>?_)
  refine PC.rangeFunc (f:=47) rfl (I66 a0 h3 0) (by intro i x hx; obtain⟨_,_,rfl⟩:=map_inv hx; rfl) (by intro h; first | rfl | cases h) (λ i fr tk=>∃ (v3:List Int),fr=[⟨0,[.list 1 (List.map cI_i64 a0) none]⟩,⟨0,[.list 1 (List.map cI_i64 v3) (some 0)]⟩]/\tk=[v3.length]/\F55_s_r1 k (List.drop i a0) v3=some x4) (λ y fr tk=>False) ?_ ?_ ?_ ?_ ?_
  · rintro i fr tk ⟨v3,rfl,rfl,_⟩
    exact⟨rfl,rfl,⟨_,_,rfl⟩⟩
  · exact⟨([] : List Int),rfl,rfl,e5⟩
  ·intro i x fr tk l hx hj
   refine Exists.elim (map_inv hx) (λ y2 hq=>?_)
   have ha:=hq.1
   obtain rfl:=hq.2
   clear hq
   obtain⟨v3,rfl,rfl,e6⟩:=hj
   rw[drop_at ha,F55_s_r1] at e6
   clear hx ha
   refine⟨_,rfl,?_⟩
   refine PC.weak (s':=PS.of 13 [(2,vP 1),(7,vI y2)] [⟨0,[.list 1 (List.map cI_i64 a0) none]⟩,⟨0,[.list 1 (List.map cI_i64 v3) (some 0)]⟩] [v3.length] 2 1) (Weak.one [0,1] [0] (by kernel_rfl)) ?_
   refine PC.lone ?_
   refine PC.run (n:=2) rfl ?_
   refine PC.skip ⟨rfl,?_⟩
   refine PC.lone ?_
   refine PC.block ?_
   refine PC.lone ?_
   refine PC.region ?_
   refine oK 3 [0,1] [0,1] [(2,vP 1),(8,.list 1 (List.map cI_i64 v3) (some 0)),(10,.list 1 (List.map cI_i64 ([y2])) (some 1))] [⟨0,[.list 1 (List.map cI_i64 a0) none]⟩,⟨0,[.list 1 (List.map cI_i64 v3) (some 0)]⟩] [v3.length,1] (by kernel_rfl) ?_
   refine bindAK e6 (λ h10 e6=>?_)
   generalize hgl6:v3++([y2])=l6 at e6
   refine PO.one rfl (append_typed (L:=v3) (M:=[y2]) (f:=cI_i64) (sz:=1) (bytes:=8) Try.underlying34 rfl rfl rfl rfl rfl rfl rfl rfl rfl rfl rfl rfl h10 hgl6) rfl ?_
   refine oK 1 [0,1] [0] [] [⟨0,[.list 1 (List.map cI_i64 a0) none]⟩,⟨0,[.list 1 (List.map cI_i64 l6) (some 0)]⟩] [l6.length] (by kernel_rfl) ?_
   refine PO.nil ?_
   refine PC.skip (blockKP.end ?_)
   refine PC.weak (s':=PS.of 13 [] [⟨0,[.list 1 (List.map cI_i64 a0) none]⟩,⟨0,[.list 1 (List.map cI_i64 l6) (some 0)]⟩] [l6.length] 2 1) (Weak.one [0,1] [0] (by kernel_rfl)) ?_
   exact PC.skip (⟨l6,rfl,rfl,e6⟩)
  ·rintro fr tk ⟨v3,rfl,rfl,e6⟩
   rw[List.length_map,List.drop_length,F55_s_r1] at e6
   obtain rfl:=Option.some.inj e6
   have e2:=e2
   refine PC.weak (s':=PS.ofm [none] 13 [(2,vP 1),(4,.val (.slice none 0 0)),(6,.fn 47 [] [vP 0])] [⟨0,[.list 1 (List.map cI_i64 a0) none]⟩,⟨0,[.list 1 (List.map cI_i64 v3) (some 0)]⟩] [v3.length] 1 0) (Weak.one [0,1] [0] (by kernel_rfl)) ?_
   exact PC.skip (blockJK.end ⟨v3,Weak.one [0,1] [0] (by kernel_rfl),Option.some.inj e2⟩)
  ·intro y fr tk hd hy
   exact hd.elim
 rintro _ ⟨v1,w11,rfl⟩
 refine PC.weak w11 ?_
 refine PC.run (n:=3) rfl ?_
 have hq:=Option.some.inj hF
 subst hq
 exact PC.ret' (retMK [0] [] (by kernel_rfl) (.refl _) ⟨rfl,rfl,rfl⟩)
def F27_s (k:Nat) (a0:List Int):Option ((List Int)×(List Int)):=
(F55_s k a0).bind λ r1=>
some (r1.1,r1.2)
theorem L27_s (k:Nat) (a0:List Int) (r:(List Int)×(List Int)) (hF:F27_s k a0=some r):PF Try.prog orc 27 [.fn 47 [] [vP 0]] [⟨0,[.list 1 (List.map cI_i64 a0) none]⟩] [] (λ p fr tk=>p=.list 1 (List.map cI_i64 r.1) none/\fr=[⟨0,[.list 1 (List.map cI_i64 r.2) none]⟩]/\tk=[]):=by
 unfold F27_s at hF
 refine PF.enterS Try.func27 rfl rfl rfl (by kernel_rfl) rfl ?_
 refine PC.run (n:=2) rfl ?_
 refine PC.region ?_
 refine PO.run 1 rfl ?_
 refine bindK hF (λ r1 e2 hF=>?_)
 refine PO.call rfl rfl rfl rfl (ks:=[0]) (ts:=[]) (fr1:=[⟨0,[.list 1 (List.map cI_i64 a0) none]⟩]) rfl rfl rfl ⟨⟨_,rfl,rfl,rfl⟩,trivial⟩ (L55_s k a0 _ e2) ?_
 rintro _ _ _ ⟨rfl,rfl,rfl⟩
 refine⟨_,_,rfl,rfl,?_⟩
 refine PO.run 1 rfl ?_
 refine PO.nil ?_
 have hq:=Option.some.inj hF
 subst hq
 exact PC.ret' (retSK [0] [] (by kernel_rfl) (.refl _) ⟨rfl,rfl,rfl⟩)
def F78_s (k:Nat) (a0:GMeter) (a1:Int) (a2:Bool) (a3:Int):Option (GMeter×Int×Bool×Int):=
Option.bind (α:=Int) (bif !a2 then(some a1) else(some a0.refused)) λ(v1:Int)=>
some ((GMeter.mk a0.steps_now a0.steps_peak a0.steps_budget (w (a0.cells_now+a3)) (if w (a0.cells_now+a3) > a0.cells_peak then w (a0.cells_now+a3) else a0.cells_peak) a0.cells_budget v1),a1,a2,a3)
theorem B78_s (k:Nat) (a0:GMeter) (a1:Int) (a2:Bool) (a3:Int) (r:GMeter×Int×Bool×Int) (hF:F78_s k a0 a1 a2 a3=some r):PB Try.prog orc 78 [vP 2,vP 5,vP 4,vP 3,vP 1] [⟨0,(cGMeter a0)⟩,⟨0,[vP 0]⟩,⟨0,[.ptr 0 3]⟩,⟨0,[vI a1]⟩,⟨0,[vB a2]⟩,⟨0,[vI a3]⟩] [] (λ p fr tk=>p=.tup []/\fr=[⟨0,(cGMeter r.1)⟩,⟨0,[vP 0]⟩,⟨0,[.ptr 0 3]⟩,⟨0,[vI r.2.1]⟩,⟨0,[vB r.2.2.1]⟩,⟨0,[vI r.2.2.2]⟩]/\tk=[]):=by
 unfold F78_s at hF
 refine PB.enterS Try.func78 rfl rfl rfl (by kernel_rfl) ?_
 refine PC.drawn (order:=[0,1,2,3,4,5,6,7,8]) (by kernel_rfl) ?_
 refine oK 9 [0,1,2,3,4,5] [] [(0,vP 2),(2,vP 4),(3,vP 3),(4,vP 1)] [⟨0,[vI a0.steps_now,vI a0.steps_peak,vI a0.steps_budget,vI (w (a0.cells_now+a3)),vI a0.cells_peak,vI a0.cells_budget,vI a0.refused]⟩,⟨0,[vP 0]⟩,⟨0,[.ptr 0 3]⟩,⟨0,[vI a1]⟩,⟨0,[vB a2]⟩,⟨0,[vI a3]⟩] [] (by kernel_rfl) ?_
 refine PO.nil ?_
 refine PC.drawn (order:=[0,1,2,3,4,5,6,7,8,9,10,11,12]) (by kernel_rfl) ?_
 refine oK 13 [0,1,2,3,4,5] [] [(2,vP 4),(3,vP 3),(4,vP 1)] [⟨0,[vI a0.steps_now,vI a0.steps_peak,vI a0.steps_budget,vI (w (a0.cells_now+a3)),vI (if w (a0.cells_now+a3) > a0.cells_peak then w (a0.cells_now+a3) else a0.cells_peak),vI a0.cells_budget,vI a0.refused]⟩,⟨0,[vP 0]⟩,⟨0,[.ptr 0 3]⟩,⟨0,[vI a1]⟩,⟨0,[vB a2]⟩,⟨0,[vI a3]⟩] [] (by kernel_rfl) ?_
 refine PO.nil ?_
 refine PC.run (n:=3) rfl ?_
 refine PC.lone ?_
 refine bindK hF (λ x1 e2 hF=>?_)
 refine PC.join (λ s=>∃ (v1:Int),Weak s (PS.of 31 [] [⟨0,[vI a0.steps_now,vI a0.steps_peak,vI a0.steps_budget,vI (w (a0.cells_now+a3)),vI (if w (a0.cells_now+a3) > a0.cells_peak then w (a0.cells_now+a3) else a0.cells_peak),vI a0.cells_budget,vI v1]⟩,⟨0,[vP 0]⟩,⟨0,[.ptr 0 3]⟩,⟨0,[vI a1]⟩,⟨0,[vB a2]⟩,⟨0,[vI a3]⟩] [] 6 0)/\v1=x1) ?_ ?_
 ·refine PC.cond rfl (λ h3=>?_) (λ h3=>?_)
  ·have e2:=bif_t h3 e2
   refine PC.region ?_
   refine oK 5 [0,1,2,3,4,5] [] [] [⟨0,[vI a0.steps_now,vI a0.steps_peak,vI a0.steps_budget,vI (w (a0.cells_now+a3)),vI (if w (a0.cells_now+a3) > a0.cells_peak then w (a0.cells_now+a3) else a0.cells_peak),vI a0.cells_budget,vI a1]⟩,⟨0,[vP 0]⟩,⟨0,[.ptr 0 3]⟩,⟨0,[vI a1]⟩,⟨0,[vB a2]⟩,⟨0,[vI a3]⟩] [] (by kernel_rfl) ?_
   refine PO.nil ?_
   exact PC.skip (joinKP.end ⟨a1,Weak.one [0,1,2,3,4,5] [] (by kernel_rfl),Option.some.inj e2⟩)
  have e2:=bif_f h3 e2
  refine PC.noop ?_
  exact PC.skip (joinKP.end ⟨a0.refused,Weak.one [0,1,2,3,4,5] [] (by kernel_rfl),Option.some.inj e2⟩)
 rintro _ ⟨v1,w4,rfl⟩
 refine PC.weak w4 ?_
 have hq:=Option.some.inj hF
 subst hq
 exact PC.skip (retSN [0,1,2,3,4,5] [] (by kernel_rfl) (.refl _) ⟨rfl,rfl,rfl⟩)
def F56_s (k:Nat) (a0:Int) (a1:Int) (a2:GMeter):Option (Bool×GMeter):=
Option.bind (α:=Bool) (bif decide (a0 < 0) then(some true) else(some (a2.refused != 0))) λ(v1:Bool)=>
bif v1 then(some (false,a2)) else(bif decide (a0 > (w (a2.cells_budget - a2.cells_now))) then((F78_s k a2 a1 false (w (a2.cells_budget - a2.cells_now))).bind λ r7=>
some (r7.2.2.1,r7.1)) else((F78_s k a2 a1 true a0).bind λ r9=>
some (r9.2.2.1,r9.1)))
theorem L56_s (k:Nat) (a0:Int) (a1:Int) (a2:GMeter) (r:Bool×GMeter) (hF:F56_s k a0 a1 a2=some r):PF Try.prog orc 56 [vP 0,.ptr 0 3,vI a0,vI a1] [⟨0,(cGMeter a2)⟩] [] (λ p fr tk=>p=vB r.1/\fr=[⟨0,(cGMeter r.2)⟩]/\tk=[]):=by
 unfold F56_s at hF
 refine PF.enterD Try.func56 rfl rfl rfl (by kernel_rfl) rfl ?_
 refine PC.region ?_
 refine oK 4 [0,1,2,3,4] [] [(2,vI a0),(4,vP 1),(5,vP 2),(7,vP 3),(8,vP 4)] [⟨0,(cGMeter a2)⟩,⟨0,[vP 0]⟩,⟨0,[.ptr 0 3]⟩,⟨0,[vI a1]⟩,⟨0,[vB false]⟩] [] (by kernel_rfl) ?_
 refine PO.nil ?_
 refine PC.assoc ?_
 refine PC.region ?_
 refine PO.run 3 rfl ?_
 refine bindK hF (λ x1 e2 hF=>?_)
 refine PO.cut 6 (λ s=>∃ (v1:Bool),Weak s (PS.of 35 [(2,vI a0),(4,vP 1),(5,vP 2),(7,vP 3),(8,vP 4),(19,vB v1)] [⟨0,(cGMeter a2)⟩,⟨0,[vP 0]⟩,⟨0,[.ptr 0 3]⟩,⟨0,[vI a1]⟩,⟨0,[vB false]⟩] [] 1 0)/\v1=x1) ?_ ?_
 ·refine PO.case (t:=13) rfl rfl (λ h3=>?_) (λ h3=>?_)
  ·have e2:=bif_t h3 e2
   refine PO.run 5 rfl ?_
   refine PO.same rfl (pickT_ok rfl rfl rfl) rfl ?_
   refine PO.nil ?_
   exact⟨true,Weak.one [0,1,2,3,4] [] (by kernel_rfl),Option.some.inj e2⟩
  have e2:=bif_f h3 e2
  refine PO.run 5 rfl ?_
  refine PO.same rfl (pickF_ok rfl rfl rfl) rfl ?_
  refine PO.nil ?_
  exact⟨a2.refused != 0,Weak.one [0,1,2,3,4] [] (by kernel_rfl),Option.some.inj e2⟩
 rintro _ ⟨v1,w4,rfl⟩
 refine PO.weak w4 ?_
 refine PO.nil ?_
 refine PC.cond rfl (λ h5=>?_) (λ h5=>?_)
 ·have hF:=bif_t h5 hF
  refine PC.assoc ?_
  refine PC.region ?_
  refine oK 1 [0,4] [] [(8,vP 1)] [⟨0,(cGMeter a2)⟩,⟨0,[vB false]⟩] [] (by kernel_rfl) ?_
  refine PO.nil ?_
  have hq:=Option.some.inj hF
  subst hq
  exact PC.ret (retD.now (retSK [0] [] (by kernel_rfl) (.refl _) ⟨rfl,rfl,rfl⟩))
 have hF:=bif_f h5 hF
 refine PC.noop ?_
 refine PC.region ?_
 refine oK 3 [0,1,2,3,4,5] [] [(2,vI a0),(4,vP 1),(5,vP 2),(7,vP 3),(8,vP 4),(9,vP 5)] [⟨0,(cGMeter a2)⟩,⟨0,[vP 0]⟩,⟨0,[.ptr 0 3]⟩,⟨0,[vI a1]⟩,⟨0,[vB false]⟩,⟨0,[vI a0]⟩] [] (by kernel_rfl) ?_
 refine PO.nil ?_
 refine PC.region ?_
 refine PO.run 1 rfl ?_
 refine PO.defer rfl rfl rfl rfl rfl ?_
 refine PO.nil ?_
 refine PC.assoc ?_
 refine PC.drawn (order:=[0,1,2,3,4,5,6,7,8,9]) (by kernel_rfl) ?_
 refine PO.run 10 rfl ?_
 refine PO.nil ?_
 refine PC.assoc ?_
 refine PC.run (n:=4) rfl ?_
 refine PC.cond rfl (λ h6=>?_) (λ h6=>?_)
 ·have hF:=bif_t h6 hF
  refine PC.assoc ?_
  refine PC.region ?_
  refine oK 2 [0,1,2,3,4,5] [] [(8,vP 4),(21,.fn 78 [] [vP 2,vP 5,vP 4,vP 3,vP 1])] [⟨0,(cGMeter a2)⟩,⟨0,[vP 0]⟩,⟨0,[.ptr 0 3]⟩,⟨0,[vI a1]⟩,⟨0,[vB false]⟩,⟨0,[vI (w (a2.cells_budget - a2.cells_now))]⟩] [] (by kernel_rfl) ?_
  refine PO.nil ?_
  refine PC.assoc ?_
  refine PC.region ?_
  refine oK 1 [0,1,2,3,4,5] [] [(8,vP 4),(21,.fn 78 [] [vP 2,vP 5,vP 4,vP 3,vP 1])] [⟨0,(cGMeter a2)⟩,⟨0,[vP 0]⟩,⟨0,[.ptr 0 3]⟩,⟨0,[vI a1]⟩,⟨0,[vB false]⟩,⟨0,[vI (w (a2.cells_budget - a2.cells_now))]⟩] [] (by kernel_rfl) ?_
  refine PO.nil ?_
  refine bindK hF (λ r7 e8 hF=>?_)
  refine PC.ret (retD.off (ks:=[0,1,2,3,4,5]) (ts:=[]) (fr1:=[⟨0,(cGMeter a2)⟩,⟨0,[vP 0]⟩,⟨0,[.ptr 0 3]⟩,⟨0,[vI a1]⟩,⟨0,[vB false]⟩,⟨0,[vI (w (a2.cells_budget - a2.cells_now))]⟩]) rfl rfl rfl rfl rfl ⟨⟨_,rfl,rfl,rfl⟩,⟨⟨_,rfl,rfl,rfl⟩,⟨⟨_,rfl,rfl,rfl⟩,⟨⟨_,rfl,rfl,rfl⟩,⟨⟨_,rfl,rfl,rfl⟩,⟨⟨_,rfl,rfl,rfl⟩,trivial⟩⟩⟩⟩⟩⟩ (B78_s k a2 a1 false (w (a2.cells_budget - a2.cells_now)) _ e8) ?_)
  rintro _ _ _ ⟨rfl,rfl,rfl⟩
  refine⟨_,_,rfl,rfl,?_⟩
  have hq:=Option.some.inj hF
  subst hq
  exact retSK [0] [] (by kernel_rfl) (.refl _) ⟨rfl,rfl,rfl⟩
 have hF:=bif_f h6 hF
 refine PC.noop ?_
 refine PC.region ?_
 refine oK 1 [0,1,2,3,4,5] [] [(8,vP 4),(21,.fn 78 [] [vP 2,vP 5,vP 4,vP 3,vP 1])] [⟨0,(cGMeter a2)⟩,⟨0,[vP 0]⟩,⟨0,[.ptr 0 3]⟩,⟨0,[vI a1]⟩,⟨0,[vB true]⟩,⟨0,[vI a0]⟩] [] (by kernel_rfl) ?_
 refine PO.nil ?_
 refine bindK hF (λ r9 e10 hF=>?_)
 refine PC.ret' (retD.off (ks:=[0,1,2,3,4,5]) (ts:=[]) (fr1:=[⟨0,(cGMeter a2)⟩,⟨0,[vP 0]⟩,⟨0,[.ptr 0 3]⟩,⟨0,[vI a1]⟩,⟨0,[vB true]⟩,⟨0,[vI a0]⟩]) rfl rfl rfl rfl rfl ⟨⟨_,rfl,rfl,rfl⟩,⟨⟨_,rfl,rfl,rfl⟩,⟨⟨_,rfl,rfl,rfl⟩,⟨⟨_,rfl,rfl,rfl⟩,⟨⟨_,rfl,rfl,rfl⟩,⟨⟨_,rfl,rfl,rfl⟩,trivial⟩⟩⟩⟩⟩⟩ (B78_s k a2 a1 true a0 _ e10) ?_)
 rintro _ _ _ ⟨rfl,rfl,rfl⟩
 refine⟨_,_,rfl,rfl,?_⟩
 have hq:=Option.some.inj hF
 subst hq
 exact retSK [0] [] (by kernel_rfl) (.refl _) ⟨rfl,rfl,rfl⟩
def F28 (k:Nat) (a0:GMeter) (a1:Int):Option (Bool×GMeter):=
(F56_s k a1 21 a0).bind λ r1=>
some (r1.1,r1.2)
theorem L28 (k:Nat) (a0:GMeter) (a1:Int) (r:Bool×GMeter) (hF:F28 k a0 a1=some r):PF Try.prog orc 28 [vP 0,vI a1] [⟨0,(cGMeter a0)⟩] [] (λ p fr tk=>p=vB r.1/\fr=[⟨0,(cGMeter r.2)⟩]/\tk=[]):=by
 unfold F28 at hF
 refine PF.enterS Try.func28 rfl rfl rfl (by kernel_rfl) rfl ?_
 refine PC.run (n:=2) rfl ?_
 refine PC.region ?_
 refine PO.run 5 rfl ?_
 refine bindK hF (λ r1 e2 hF=>?_)
 refine PO.call rfl rfl rfl rfl (ks:=[0]) (ts:=[]) (fr1:=[⟨0,(cGMeter a0)⟩]) rfl rfl rfl ⟨⟨_,rfl,rfl,rfl⟩,trivial⟩ (L56_s k a1 21 a0 _ e2) ?_
 rintro _ _ _ ⟨rfl,rfl,rfl⟩
 refine⟨_,_,rfl,rfl,?_⟩
 refine PO.run 1 rfl ?_
 refine PO.nil ?_
 have hq:=Option.some.inj hF
 subst hq
 exact PC.ret' (retSK [0] [] (by kernel_rfl) (.refl _) ⟨rfl,rfl,rfl⟩)
def F29 (k:Nat) (a0:GMeter):Option (Int×GMeter):=
some (a0.refused,a0)
theorem L29 (k:Nat) (a0:GMeter) (r:Int×GMeter) (hF:F29 k a0=some r):PF Try.prog orc 29 [vP 0] [⟨0,(cGMeter a0)⟩] [] (λ p fr tk=>p=vI r.1/\fr=[⟨0,(cGMeter r.2)⟩]/\tk=[]):=by
 unfold F29 at hF
 refine PF.enterS Try.func29 rfl rfl rfl (by kernel_rfl) rfl ?_
 refine PC.run (n:=2) rfl ?_
 refine PC.run (n:=6) rfl ?_
 have hq:=Option.some.inj hF
 subst hq
 exact PC.ret' (retSK [0] [] (by kernel_rfl) (.refl _) ⟨rfl,rfl,rfl⟩)
def F79_s (k:Nat) (a0:Int) (a1:GMeter) (a2:List GItem) (a3:Int) (a4:Int) (a5:List Int) (a6:Nat) (a7:List Gstate):Option (Bool×GMeter×(List GItem)×Int×Int×(List Int)×(List Gstate)):=
bindI a2 a0 λ y1=>
Option.bind (α:=Bool) (bif y1.kind == 4 then(bindI a2 a0 λ y3=>
some (y3.value == (-10000))) else(some false)) λ(v2:Bool)=>
some (v2,a1,a2,a3,a4,a5,a7)
theorem L79_s (k:Nat) (a0:Int) (a1:GMeter) (a2:List GItem) (a3:Int) (a4:Int) (a5:List Int) (a6:Nat) (a7:List Gstate) (r:Bool×GMeter×(List GItem)×Int×Int×(List Int)×(List Gstate)) (hF:F79_s k a0 a1 a2 a3 a4 a5 a6 a7=some r):PF Try.prog orc 79 [vP 1,vI a0] [⟨0,(cGMeter a1)⟩,⟨0,[vP 0,.list 13 (List.map cGItem a2) none,vI a3,vI a4,.list 1 (List.map cI_i64 a5) none,.sl 2 0 a6 a6]⟩,⟨76,(flatU (cGstate 2) a7)⟩] [] (λ p fr tk=>p=vB r.1/\fr=[⟨0,(cGMeter r.2.1)⟩,⟨0,[vP 0,.list 13 (List.map cGItem r.2.2.1) none,vI r.2.2.2.1,vI r.2.2.2.2.1,.list 1 (List.map cI_i64 r.2.2.2.2.2.1) none,.sl 2 0 a6 a6]⟩,⟨76,(flatU (cGstate 2) r.2.2.2.2.2.2)⟩]/\tk=[]):=by
 unfold F79_s at hF
 refine PF.enterS Try.func79 rfl rfl rfl (by kernel_rfl) rfl ?_
 refine PC.run (n:=2) rfl ?_
 refine PC.region ?_
 refine PO.run 5 rfl ?_
 refine bindIK hF (λ y1 h1 h2 hF=>?_)
 refine PO.same rfl (indexAddr_ok Try.underlying22 rfl rfl rfl h1 (map_at h2)) rfl ?_
 refine PO.run 4 rfl ?_
 refine bindK hF (λ x3 e4 hF=>?_)
 refine PO.cut 10 (λ s=>∃ (v2:Bool),Weak s (PS.of 25 [(4,vB false),(24,vB v2)] [⟨0,(cGMeter a1)⟩,⟨0,[vP 0,.list 13 (List.map cGItem a2) none,vI a3,vI a4,.list 1 (List.map cI_i64 a5) none,.sl 2 0 a6 a6]⟩,⟨76,(flatU (cGstate 2) a7)⟩] [] 3 0)/\v2=x3) ?_ ?_
 ·refine PO.case (t:=14) rfl rfl (λ h5=>?_) (λ h5=>?_)
  ·have e4:=bif_t h5 e4
   refine PO.run 5 rfl ?_
   refine bindIK e4 (λ y3 h6 h7 e4=>?_)
   refine PO.same rfl (indexAddr_ok Try.underlying22 rfl rfl rfl h6 (map_at h7)) rfl ?_
   refine PO.run 3 rfl ?_
   refine PO.same rfl (pickT_ok rfl rfl rfl) rfl ?_
   refine PO.nil ?_
   exact⟨y3.value == (-10000),Weak.mk [0,1,2] [] 0 rfl rfl rfl ⟨⟨_,_,rfl,rfl,rfl,(LessL.refl _)⟩,⟨⟨_,_,rfl,rfl,rfl,(LessL.refl _)⟩,⟨⟨_,_,rfl,rfl,uTo rfl,LessL.refl _⟩,trivial⟩⟩⟩ ⟨⟨_,_,rfl,rfl,.refl _⟩,⟨⟨_,_,rfl,rfl,.refl _⟩,trivial⟩⟩,Option.some.inj e4⟩
  have e4:=bif_f h5 e4
  refine PO.run 9 rfl ?_
  refine PO.same rfl (pickF_ok rfl rfl rfl) rfl ?_
  refine PO.nil ?_
  exact⟨false,Weak.mk [0,1,2] [] 0 rfl rfl rfl ⟨⟨_,_,rfl,rfl,rfl,(LessL.refl _)⟩,⟨⟨_,_,rfl,rfl,rfl,(LessL.refl _)⟩,⟨⟨_,_,rfl,rfl,uTo rfl,LessL.refl _⟩,trivial⟩⟩⟩ ⟨⟨_,_,rfl,rfl,.refl _⟩,⟨⟨_,_,rfl,rfl,.refl _⟩,trivial⟩⟩,Option.some.inj e4⟩
 rintro _ ⟨v2,w8,rfl⟩
 refine PO.weak w8 ?_
 refine PO.run 1 rfl ?_
 refine PO.nil ?_
 have hq:=Option.some.inj hF
 subst hq
 exact PC.ret' (retUK [0,1,2] [] (fr':=[⟨0,(cGMeter a1)⟩,⟨0,[vP 0,.list 13 (List.map cGItem a2) none,vI a3,vI a4,.list 1 (List.map cI_i64 a5) none,.sl 2 0 a6 a6]⟩,⟨76,(flatU (cGstate 2) a7)⟩]) (by kernel_rfl) ⟨⟨_,rfl,rfl,rfl⟩,⟨⟨_,rfl,rfl,rfl⟩,⟨⟨_,rfl,rfl,uTo rfl⟩,trivial⟩⟩⟩ (.refl _) ⟨rfl,rfl,rfl⟩)
def F57_s_l1 (k:Nat) (a6:Nat):Nat->Int->GMeter->(List GItem)->Int->Int->(List Int)->(List Gstate)->Option ((GMeter×(List GItem)×Int×Int×(List Int)×(List Gstate)) ⊕ (Int×GMeter×(List GItem)×Int×Int×(List Int)×(List Gstate)))
  | 0,_,_,_,_,_,_,_=>none
  | j3+1,v28,v36,v37,v38,v39,v40,v41=>
    bif decide (v28>=0) then(bindI v40 v28 λ y56=>
    (F79_s k y56 v36 v37 v38 v39 v40 a6 v41).bind λ r8=>
    bif r8.1 then(some (.inr (v28,r8.2.1,r8.2.2.1,r8.2.2.2.1,r8.2.2.2.2.1,r8.2.2.2.2.2.1,r8.2.2.2.2.2.2))) else(F57_s_l1 k a6 j3 (w (v28 - 1)) r8.2.1 r8.2.2.1 r8.2.2.2.1 r8.2.2.2.2.1 r8.2.2.2.2.2.1 r8.2.2.2.2.2.2)) else(some (.inl (v36,v37,v38,v39,v40,v41)))
def F57_s (k:Nat) (a0:Int) (a1:GMeter) (a2:List GItem) (a3:Int) (a4:Int) (a5:List Int) (a6:Nat) (a7:List Gstate):Option (Int×GMeter×(List GItem)×Int×Int×(List Int)×(List Gstate)):=
Option.bind (α:=(GMeter×(List GItem)×Int×Int×(List Int)×(List Gstate)) ⊕ (Int×GMeter×(List GItem)×Int×Int×(List Int)×(List Gstate))) (F57_s_l1 k a6 k (w (a0 - 1)) a1 a2 a3 a4 a5 a7) (Sum.elim (λ(v8,v9,v10,v11,v12,v13)=>
some ((-1),v8,v9,v10,v11,v12,v13)) some)
theorem L57_s (k:Nat) (a0:Int) (a1:GMeter) (a2:List GItem) (a3:Int) (a4:Int) (a5:List Int) (a6:Nat) (a7:List Gstate) (r:Int×GMeter×(List GItem)×Int×Int×(List Int)×(List Gstate)) (hF:F57_s k a0 a1 a2 a3 a4 a5 a6 a7=some r):PF Try.prog orc 57 [vP 1,vI a0] [⟨0,(cGMeter a1)⟩,⟨0,[vP 0,.list 13 (List.map cGItem a2) none,vI a3,vI a4,.list 1 (List.map cI_i64 a5) none,.sl 2 0 a6 a6]⟩,⟨76,(flatU (cGstate 2) a7)⟩] [] (λ p fr tk=>p=vI r.1/\fr=[⟨0,(cGMeter r.2.1)⟩,⟨0,[vP 0,.list 13 (List.map cGItem r.2.2.1) none,vI r.2.2.2.1,vI r.2.2.2.2.1,.list 1 (List.map cI_i64 r.2.2.2.2.2.1) none,.sl 2 0 a6 a6]⟩,⟨76,(flatU (cGstate 2) r.2.2.2.2.2.2)⟩]/\tk=[]):=by
 unfold F57_s at hF
 refine PF.enterS Try.func57 rfl rfl rfl (by kernel_rfl) rfl ?_
 refine PC.run (n:=2) rfl ?_
 refine PC.assoc ?_
 refine PC.run (n:=4) rfl ?_
 refine bindK hF (λ x1 e2 hF=>?_)
 refine PC.blockJ (λ s=>∃ (v8:GMeter) (v9:List GItem) (v10:Int) (v11:Int) (v12:List Int) (v13:List Gstate),Weak s (PS.of 22 [(4,vI 0)] [⟨0,(cGMeter v8)⟩,⟨0,[vP 0,.list 13 (List.map cGItem v9) none,vI v10,vI v11,.list 1 (List.map cI_i64 v12) none,.sl 2 0 a6 a6]⟩,⟨76,(flatU (cGstate 2) v13)⟩] [] 3 0)/\.inl (v8,v9,v10,v11,v12,v13)=x1) ?_ ?_
 ·refine PC.loop (λ j3 s=>∃ (v28:Int) (v36:GMeter) (v37:List GItem) (v38:Int) (v39:Int) (v40:List Int) (v41:List Gstate),Weak s (PS.of 22 [(0,vP 1),(4,vI 0),(5,vI v28)] [⟨0,(cGMeter v36)⟩,⟨0,[vP 0,.list 13 (List.map cGItem v37) none,vI v38,vI v39,.list 1 (List.map cI_i64 v40) none,.sl 2 0 a6 a6]⟩,⟨76,(flatU (cGstate 2) v41)⟩] [] 3 0)/\F57_s_l1 k a6 j3 v28 v36 v37 v38 v39 v40 v41=some x1) (λ j3 s=>?_) k ⟨w (a0 - 1),a1,a2,a3,a4,a5,a7,Weak.mk [0,1,2] [] 0 rfl rfl rfl ⟨⟨_,_,rfl,rfl,rfl,(LessL.refl _)⟩,⟨⟨_,_,rfl,rfl,rfl,(LessL.refl _)⟩,⟨⟨_,_,rfl,rfl,uTo rfl,LessL.refl _⟩,trivial⟩⟩⟩ ⟨⟨_,_,rfl,rfl,.refl _⟩,⟨⟨_,_,rfl,rfl,.refl _⟩,⟨⟨_,_,rfl,rfl,.refl _⟩,trivial⟩⟩⟩,e2⟩
  rintro⟨v28,v36,v37,v38,v39,v40,v41,w4,e2⟩
  refine PC.weak w4 ?_
  obtain _ | j3:=j3
  · rw[F57_s_l1] at e2; cases e2
  rw[F57_s_l1] at e2
  refine PC.assoc ?_
  refine PC.run (n:=3) rfl ?_
  refine PC.cond rfl (λ h5=>?_) (λ h5=>?_)
  ·have e2:=bif_t h5 e2
   refine PC.noop ?_
   refine PC.block ?_
   refine PC.region ?_
   refine PO.run 6 rfl ?_
   refine bindIK e2 (λ y56 h6 h7 e2=>?_)
   refine PO.same rfl (indexAddr_ok Try.underlying34 rfl rfl rfl h6 (map_at h7)) rfl ?_
   refine PO.run 1 rfl ?_
   refine bindK e2 (λ r8 e9 e2=>?_)
   refine PO.call rfl rfl rfl rfl (ks:=[0,1,2]) (ts:=[]) (fr1:=[⟨0,(cGMeter v36)⟩,⟨0,[vP 0,.list 13 (List.map cGItem v37) none,vI v38,vI v39,.list 1 (List.map cI_i64 v40) none,.sl 2 0 a6 a6]⟩,⟨76,(flatU (cGstate 2) v41)⟩]) rfl rfl rfl ⟨⟨_,rfl,rfl,rfl⟩,⟨⟨_,rfl,rfl,rfl⟩,⟨⟨_,rfl,rfl,uTo rfl⟩,trivial⟩⟩⟩ (L79_s k y56 v36 v37 v38 v39 v40 a6 v41 _ e9) ?_
   rintro _ _ _ ⟨rfl,rfl,rfl⟩
   refine⟨_,_,rfl,(bk_cons rfl (bk_cons rfl (bk_cons (bk_u (uTo rfl)) bk_nil))),?_⟩
   refine PO.nil ?_
   refine PC.lone ?_
   refine PC.cond rfl (λ h10=>?_) (λ h10=>?_)
   ·have e2:=bif_t h10 e2
    refine PC.assoc ?_
    refine PC.run (n:=3) rfl ?_
    have hq:=Option.some.inj e2
    subst hq
    have hq:=Option.some.inj hF
    subst hq
    exact PC.ret (blockKP.back (loopKP.ret (blockJK.back (retUK [0,1,2] [] (fr':=[⟨0,(cGMeter r8.2.1)⟩,⟨0,[vP 0,.list 13 (List.map cGItem r8.2.2.1) none,vI r8.2.2.2.1,vI r8.2.2.2.2.1,.list 1 (List.map cI_i64 r8.2.2.2.2.2.1) none,.sl 2 0 a6 a6]⟩,⟨76,(flatU (cGstate 2) r8.2.2.2.2.2.2)⟩]) (by kernel_rfl) ⟨⟨_,rfl,rfl,rfl⟩,⟨⟨_,rfl,rfl,rfl⟩,⟨⟨_,rfl,rfl,uTo rfl⟩,trivial⟩⟩⟩ (.refl _) ⟨rfl,rfl,rfl⟩))))
   have e2:=bif_f h10 e2
   refine PC.noop ?_
   refine PC.skip (blockKP.end ?_)
   refine PC.lone ?_
   refine PC.run (n:=4) rfl ?_
   exact PC.skip (loopKP.mk (Nat.lt_succ_self _) ⟨w (v28 - 1),r8.2.1,r8.2.2.1,r8.2.2.2.1,r8.2.2.2.2.1,r8.2.2.2.2.2.1,r8.2.2.2.2.2.2,Weak.mk [0,1,2] [] 0 rfl rfl rfl ⟨⟨_,_,rfl,rfl,rfl,(LessL.refl _)⟩,⟨⟨_,_,rfl,rfl,rfl,(LessL.refl _)⟩,⟨⟨_,_,rfl,rfl,uTo rfl,LessL.refl _⟩,trivial⟩⟩⟩ ⟨⟨_,_,rfl,rfl,.refl _⟩,⟨⟨_,_,rfl,rfl,.refl _⟩,⟨⟨_,_,rfl,rfl,.refl _⟩,trivial⟩⟩⟩,e2⟩)
  have e2:=bif_f h5 e2
  exact PC.exit (loopKP.exit (blockJK.here ⟨v36,v37,v38,v39,v40,v41,Weak.mk [0,1,2] [] 0 rfl rfl rfl ⟨⟨_,_,rfl,rfl,rfl,(LessL.refl _)⟩,⟨⟨_,_,rfl,rfl,rfl,(LessL.refl _)⟩,⟨⟨_,_,rfl,rfl,uTo rfl,LessL.refl _⟩,trivial⟩⟩⟩ ⟨⟨_,_,rfl,rfl,.refl _⟩,trivial⟩,Option.some.inj e2⟩))
 rintro _ ⟨v8,v9,v10,v11,v12,v13,w11,rfl⟩
 refine PC.weak w11 ?_
 have hF:=elim_l hF
 refine PC.run (n:=2) rfl ?_
 have hq:=Option.some.inj hF
 subst hq
 exact PC.ret' (retUK [0,1,2] [] (fr':=[⟨0,(cGMeter v8)⟩,⟨0,[vP 0,.list 13 (List.map cGItem v9) none,vI v10,vI v11,.list 1 (List.map cI_i64 v12) none,.sl 2 0 a6 a6]⟩,⟨76,(flatU (cGstate 2) v13)⟩]) (by kernel_rfl) ⟨⟨_,rfl,rfl,rfl⟩,⟨⟨_,rfl,rfl,rfl⟩,⟨⟨_,rfl,rfl,uTo rfl⟩,trivial⟩⟩⟩ (.refl _) ⟨rfl,rfl,rfl⟩)
def F78_s2 (k:Nat) (a0:GMeter) (a1:Int) (a2:Bool) (a3:Int):Option (GMeter×Int×Bool×Int):=
Option.bind (α:=Int) (bif !a2 then(some a1) else(some a0.refused)) λ(v1:Int)=>
some ((GMeter.mk (w (a0.steps_now+a3)) (if w (a0.steps_now+a3) > a0.steps_peak then w (a0.steps_now+a3) else a0.steps_peak) a0.steps_budget a0.cells_now a0.cells_peak a0.cells_budget v1),a1,a2,a3)
theorem B78_s2 (k:Nat) (a0:GMeter) (a1:Int) (a2:Bool) (a3:Int) (r:GMeter×Int×Bool×Int) (hF:F78_s2 k a0 a1 a2 a3=some r):PB Try.prog orc 78 [vP 2,vP 5,vP 4,vP 3,vP 1] [⟨0,(cGMeter a0)⟩,⟨0,[vP 0]⟩,⟨0,[vP 0]⟩,⟨0,[vI a1]⟩,⟨0,[vB a2]⟩,⟨0,[vI a3]⟩] [] (λ p fr tk=>p=.tup []/\fr=[⟨0,(cGMeter r.1)⟩,⟨0,[vP 0]⟩,⟨0,[vP 0]⟩,⟨0,[vI r.2.1]⟩,⟨0,[vB r.2.2.1]⟩,⟨0,[vI r.2.2.2]⟩]/\tk=[]):=by
 unfold F78_s2 at hF
 refine PB.enterS Try.func78 rfl rfl rfl (by kernel_rfl) ?_
 refine PC.drawn (order:=[0,1,2,3,4,5,6,7,8]) (by kernel_rfl) ?_
 refine oK 9 [0,1,2,3,4,5] [] [(0,vP 2),(2,vP 4),(3,vP 3),(4,vP 1)] [⟨0,[vI (w (a0.steps_now+a3)),vI a0.steps_peak,vI a0.steps_budget,vI a0.cells_now,vI a0.cells_peak,vI a0.cells_budget,vI a0.refused]⟩,⟨0,[vP 0]⟩,⟨0,[vP 0]⟩,⟨0,[vI a1]⟩,⟨0,[vB a2]⟩,⟨0,[vI a3]⟩] [] (by kernel_rfl) ?_
 refine PO.nil ?_
 refine PC.drawn (order:=[0,1,2,3,4,5,6,7,8,9,10,11,12]) (by kernel_rfl) ?_
 refine oK 13 [0,1,2,3,4,5] [] [(2,vP 4),(3,vP 3),(4,vP 1)] [⟨0,[vI (w (a0.steps_now+a3)),vI (if w (a0.steps_now+a3) > a0.steps_peak then w (a0.steps_now+a3) else a0.steps_peak),vI a0.steps_budget,vI a0.cells_now,vI a0.cells_peak,vI a0.cells_budget,vI a0.refused]⟩,⟨0,[vP 0]⟩,⟨0,[vP 0]⟩,⟨0,[vI a1]⟩,⟨0,[vB a2]⟩,⟨0,[vI a3]⟩] [] (by kernel_rfl) ?_
 refine PO.nil ?_
 refine PC.run (n:=3) rfl ?_
 refine PC.lone ?_
 refine bindK hF (λ x1 e2 hF=>?_)
 refine PC.join (λ s=>∃ (v1:Int),Weak s (PS.of 31 [] [⟨0,[vI (w (a0.steps_now+a3)),vI (if w (a0.steps_now+a3) > a0.steps_peak then w (a0.steps_now+a3) else a0.steps_peak),vI a0.steps_budget,vI a0.cells_now,vI a0.cells_peak,vI a0.cells_budget,vI v1]⟩,⟨0,[vP 0]⟩,⟨0,[vP 0]⟩,⟨0,[vI a1]⟩,⟨0,[vB a2]⟩,⟨0,[vI a3]⟩] [] 6 0)/\v1=x1) ?_ ?_
 ·refine PC.cond rfl (λ h3=>?_) (λ h3=>?_)
  ·have e2:=bif_t h3 e2
   refine PC.region ?_
   refine oK 5 [0,1,2,3,4,5] [] [] [⟨0,[vI (w (a0.steps_now+a3)),vI (if w (a0.steps_now+a3) > a0.steps_peak then w (a0.steps_now+a3) else a0.steps_peak),vI a0.steps_budget,vI a0.cells_now,vI a0.cells_peak,vI a0.cells_budget,vI a1]⟩,⟨0,[vP 0]⟩,⟨0,[vP 0]⟩,⟨0,[vI a1]⟩,⟨0,[vB a2]⟩,⟨0,[vI a3]⟩] [] (by kernel_rfl) ?_
   refine PO.nil ?_
   exact PC.skip (joinKP.end ⟨a1,Weak.one [0,1,2,3,4,5] [] (by kernel_rfl),Option.some.inj e2⟩)
  have e2:=bif_f h3 e2
  refine PC.noop ?_
  exact PC.skip (joinKP.end ⟨a0.refused,Weak.one [0,1,2,3,4,5] [] (by kernel_rfl),Option.some.inj e2⟩)
 rintro _ ⟨v1,w4,rfl⟩
 refine PC.weak w4 ?_
 have hq:=Option.some.inj hF
 subst hq
 exact PC.skip (retSN [0,1,2,3,4,5] [] (by kernel_rfl) (.refl _) ⟨rfl,rfl,rfl⟩)
def F56_s2 (k:Nat) (a0:Int) (a1:Int) (a2:GMeter):Option (Bool×GMeter):=
Option.bind (α:=Bool) (bif decide (a0 < 0) then(some true) else(some (a2.refused != 0))) λ(v1:Bool)=>
bif v1 then(some (false,a2)) else(bif decide (a0 > (w (a2.steps_budget - a2.steps_now))) then((F78_s2 k a2 a1 false (w (a2.steps_budget - a2.steps_now))).bind λ r7=>
some (r7.2.2.1,r7.1)) else((F78_s2 k a2 a1 true a0).bind λ r9=>
some (r9.2.2.1,r9.1)))
theorem L56_s2 (k:Nat) (a0:Int) (a1:Int) (a2:GMeter) (r:Bool×GMeter) (hF:F56_s2 k a0 a1 a2=some r):PF Try.prog orc 56 [vP 0,vP 0,vI a0,vI a1] [⟨0,(cGMeter a2)⟩] [] (λ p fr tk=>p=vB r.1/\fr=[⟨0,(cGMeter r.2)⟩]/\tk=[]):=by
 unfold F56_s2 at hF
 refine PF.enterD Try.func56 rfl rfl rfl (by kernel_rfl) rfl ?_
 refine PC.region ?_
 refine oK 4 [0,1,2,3,4] [] [(2,vI a0),(4,vP 1),(5,vP 2),(7,vP 3),(8,vP 4)] [⟨0,(cGMeter a2)⟩,⟨0,[vP 0]⟩,⟨0,[vP 0]⟩,⟨0,[vI a1]⟩,⟨0,[vB false]⟩] [] (by kernel_rfl) ?_
 refine PO.nil ?_
 refine PC.assoc ?_
 refine PC.region ?_
 refine PO.run 3 rfl ?_
 refine bindK hF (λ x1 e2 hF=>?_)
 refine PO.cut 6 (λ s=>∃ (v1:Bool),Weak s (PS.of 35 [(2,vI a0),(4,vP 1),(5,vP 2),(7,vP 3),(8,vP 4),(19,vB v1)] [⟨0,(cGMeter a2)⟩,⟨0,[vP 0]⟩,⟨0,[vP 0]⟩,⟨0,[vI a1]⟩,⟨0,[vB false]⟩] [] 1 0)/\v1=x1) ?_ ?_
 ·refine PO.case (t:=13) rfl rfl (λ h3=>?_) (λ h3=>?_)
  ·have e2:=bif_t h3 e2
   refine PO.run 5 rfl ?_
   refine PO.same rfl (pickT_ok rfl rfl rfl) rfl ?_
   refine PO.nil ?_
   exact⟨true,Weak.one [0,1,2,3,4] [] (by kernel_rfl),Option.some.inj e2⟩
  have e2:=bif_f h3 e2
  refine PO.run 5 rfl ?_
  refine PO.same rfl (pickF_ok rfl rfl rfl) rfl ?_
  refine PO.nil ?_
  exact⟨a2.refused != 0,Weak.one [0,1,2,3,4] [] (by kernel_rfl),Option.some.inj e2⟩
 rintro _ ⟨v1,w4,rfl⟩
 refine PO.weak w4 ?_
 refine PO.nil ?_
 refine PC.cond rfl (λ h5=>?_) (λ h5=>?_)
 ·have hF:=bif_t h5 hF
  refine PC.assoc ?_
  refine PC.region ?_
  refine oK 1 [0,4] [] [(8,vP 1)] [⟨0,(cGMeter a2)⟩,⟨0,[vB false]⟩] [] (by kernel_rfl) ?_
  refine PO.nil ?_
  have hq:=Option.some.inj hF
  subst hq
  exact PC.ret (retD.now (retSK [0] [] (by kernel_rfl) (.refl _) ⟨rfl,rfl,rfl⟩))
 have hF:=bif_f h5 hF
 refine PC.noop ?_
 refine PC.region ?_
 refine oK 3 [0,1,2,3,4,5] [] [(2,vI a0),(4,vP 1),(5,vP 2),(7,vP 3),(8,vP 4),(9,vP 5)] [⟨0,(cGMeter a2)⟩,⟨0,[vP 0]⟩,⟨0,[vP 0]⟩,⟨0,[vI a1]⟩,⟨0,[vB false]⟩,⟨0,[vI a0]⟩] [] (by kernel_rfl) ?_
 refine PO.nil ?_
 refine PC.region ?_
 refine PO.run 1 rfl ?_
 refine PO.defer rfl rfl rfl rfl rfl ?_
 refine PO.nil ?_
 refine PC.assoc ?_
 refine PC.drawn (order:=[0,1,2,3,4,5,6,7,8,9]) (by kernel_rfl) ?_
 refine PO.run 10 rfl ?_
 refine PO.nil ?_
 refine PC.assoc ?_
 refine PC.run (n:=4) rfl ?_
 refine PC.cond rfl (λ h6=>?_) (λ h6=>?_)
 ·have hF:=bif_t h6 hF
  refine PC.assoc ?_
  refine PC.region ?_
  refine oK 2 [0,1,2,3,4,5] [] [(8,vP 4),(21,.fn 78 [] [vP 2,vP 5,vP 4,vP 3,vP 1])] [⟨0,(cGMeter a2)⟩,⟨0,[vP 0]⟩,⟨0,[vP 0]⟩,⟨0,[vI a1]⟩,⟨0,[vB false]⟩,⟨0,[vI (w (a2.steps_budget - a2.steps_now))]⟩] [] (by kernel_rfl) ?_
  refine PO.nil ?_
  refine PC.assoc ?_
  refine PC.region ?_
  refine oK 1 [0,1,2,3,4,5] [] [(8,vP 4),(21,.fn 78 [] [vP 2,vP 5,vP 4,vP 3,vP 1])] [⟨0,(cGMeter a2)⟩,⟨0,[vP 0]⟩,⟨0,[vP 0]⟩,⟨0,[vI a1]⟩,⟨0,[vB false]⟩,⟨0,[vI (w (a2.steps_budget - a2.steps_now))]⟩] [] (by kernel_rfl) ?_
  refine PO.nil ?_
  refine bindK hF (λ r7 e8 hF=>?_)
  refine PC.ret (retD.off (ks:=[0,1,2,3,4,5]) (ts:=[]) (fr1:=[⟨0,(cGMeter a2)⟩,⟨0,[vP 0]⟩,⟨0,[vP 0]⟩,⟨0,[vI a1]⟩,⟨0,[vB false]⟩,⟨0,[vI (w (a2.steps_budget - a2.steps_now))]⟩]) rfl rfl rfl rfl rfl ⟨⟨_,rfl,rfl,rfl⟩,⟨⟨_,rfl,rfl,rfl⟩,⟨⟨_,rfl,rfl,rfl⟩,⟨⟨_,rfl,rfl,rfl⟩,⟨⟨_,rfl,rfl,rfl⟩,⟨⟨_,rfl,rfl,rfl⟩,trivial⟩⟩⟩⟩⟩⟩ (B78_s2 k a2 a1 false (w (a2.steps_budget - a2.steps_now)) _ e8) ?_)
  rintro _ _ _ ⟨rfl,rfl,rfl⟩
  refine⟨_,_,rfl,rfl,?_⟩
  have hq:=Option.some.inj hF
  subst hq
  exact retSK [0] [] (by kernel_rfl) (.refl _) ⟨rfl,rfl,rfl⟩
 have hF:=bif_f h6 hF
 refine PC.noop ?_
 refine PC.region ?_
 refine oK 1 [0,1,2,3,4,5] [] [(8,vP 4),(21,.fn 78 [] [vP 2,vP 5,vP 4,vP 3,vP 1])] [⟨0,(cGMeter a2)⟩,⟨0,[vP 0]⟩,⟨0,[vP 0]⟩,⟨0,[vI a1]⟩,⟨0,[vB true]⟩,⟨0,[vI a0]⟩] [] (by kernel_rfl) ?_
 refine PO.nil ?_
 refine bindK hF (λ r9 e10 hF=>?_)
 refine PC.ret' (retD.off (ks:=[0,1,2,3,4,5]) (ts:=[]) (fr1:=[⟨0,(cGMeter a2)⟩,⟨0,[vP 0]⟩,⟨0,[vP 0]⟩,⟨0,[vI a1]⟩,⟨0,[vB true]⟩,⟨0,[vI a0]⟩]) rfl rfl rfl rfl rfl ⟨⟨_,rfl,rfl,rfl⟩,⟨⟨_,rfl,rfl,rfl⟩,⟨⟨_,rfl,rfl,rfl⟩,⟨⟨_,rfl,rfl,rfl⟩,⟨⟨_,rfl,rfl,rfl⟩,⟨⟨_,rfl,rfl,rfl⟩,trivial⟩⟩⟩⟩⟩⟩ (B78_s2 k a2 a1 true a0 _ e10) ?_)
 rintro _ _ _ ⟨rfl,rfl,rfl⟩
 refine⟨_,_,rfl,rfl,?_⟩
 have hq:=Option.some.inj hF
 subst hq
 exact retSK [0] [] (by kernel_rfl) (.refl _) ⟨rfl,rfl,rfl⟩
def F58 (k:Nat) (a0:GMeter) (a1:Int):Option (Bool×GMeter):=
(F56_s2 k a1 20 a0).bind λ r1=>
some (r1.1,r1.2)
theorem L58 (k:Nat) (a0:GMeter) (a1:Int) (r:Bool×GMeter) (hF:F58 k a0 a1=some r):PF Try.prog orc 58 [vP 0,vI a1] [⟨0,(cGMeter a0)⟩] [] (λ p fr tk=>p=vB r.1/\fr=[⟨0,(cGMeter r.2)⟩]/\tk=[]):=by
 unfold F58 at hF
 refine PF.enterS Try.func58 rfl rfl rfl (by kernel_rfl) rfl ?_
 refine PC.run (n:=2) rfl ?_
 refine PC.region ?_
 refine PO.run 5 rfl ?_
 refine bindK hF (λ r1 e2 hF=>?_)
 refine PO.call rfl rfl rfl rfl (ks:=[0]) (ts:=[]) (fr1:=[⟨0,(cGMeter a0)⟩]) rfl rfl rfl ⟨⟨_,rfl,rfl,rfl⟩,trivial⟩ (L56_s2 k a1 20 a0 _ e2) ?_
 rintro _ _ _ ⟨rfl,rfl,rfl⟩
 refine⟨_,_,rfl,rfl,?_⟩
 refine PO.run 1 rfl ?_
 refine PO.nil ?_
 have hq:=Option.some.inj hF
 subst hq
 exact PC.ret' (retSK [0] [] (by kernel_rfl) (.refl _) ⟨rfl,rfl,rfl⟩)
def F75 (k:Nat) (a0:GItem):Option Bool:=
Option.bind (α:=Bool) (bif a0.kind == 4 then(some (decide (a0.value<=(-10000)))) else(some false)) λ(v1:Bool)=>
some v1
theorem L75 (k:Nat) (a0:GItem) (r:Bool) (hF:F75 k a0=some r):PF Try.prog orc 75 [.agg (cGItem a0)] [] [] (λ p fr tk=>p=vB r/\fr=[]/\tk=[]):=by
 unfold F75 at hF
 refine PF.enterS Try.func75 rfl rfl rfl (by kernel_rfl) rfl ?_
 refine PC.region ?_
 refine oK 2 [0] [] [(1,vP 0),(2,vB false)] [⟨0,(cGItem a0)⟩] [] (by kernel_rfl) ?_
 refine PO.nil ?_
 refine PC.region ?_
 refine PO.run 4 rfl ?_
 refine bindK hF (λ x1 e2 hF=>?_)
 refine PO.cut 4 (λ s=>∃ (v1:Bool),Weak s (PS.of 11 [(2,vB false),(10,vB v1)] [] [] 0 0)/\v1=x1) ?_ ?_
 ·refine PO.case (t:=6) rfl rfl (λ h3=>?_) (λ h3=>?_)
  ·have e2:=bif_t h3 e2
   refine PO.run 3 rfl ?_
   refine PO.same rfl (pickT_ok rfl rfl rfl) rfl ?_
   refine PO.nil ?_
   exact⟨decide (a0.value<=(-10000)),Weak.one [] [] (by kernel_rfl),Option.some.inj e2⟩
  have e2:=bif_f h3 e2
  refine PO.run 3 rfl ?_
  refine PO.same rfl (pickF_ok rfl rfl rfl) rfl ?_
  refine PO.nil ?_
  exact⟨false,Weak.one [] [] (by kernel_rfl),Option.some.inj e2⟩
 rintro _ ⟨v1,w4,rfl⟩
 refine PO.weak w4 ?_
 refine PO.run 1 rfl ?_
 refine PO.nil ?_
 have hq:=Option.some.inj hF
 subst hq
 exact PC.ret' (retSK [] [] (by kernel_rfl) (.refl _) ⟨rfl,rfl,rfl⟩)
def F90_75_l1 (k:Nat) (a0:List GItem):Nat->Int->Option ((Unit) ⊕ (Int))
  | 0,_=>none
  | j3+1,v2=>
    bif decide (v2 < (a0.length:Int)) then(bindI a0 v2 λ y4=>
    (F75 k y4).bind λ r8=>
    bif r8 then(some (.inr v2)) else(F90_75_l1 k a0 j3 (w (v2+1)))) else(some (.inl ()))
def F90_75 (k:Nat) (a0:List GItem):Option Int:=
Option.bind (α:=(Unit) ⊕ (Int)) (F90_75_l1 k a0 k 0) (Sum.elim (λ(_:Unit)=>
some (-1)) some)
theorem L90_75 (k:Nat) (a0:List GItem) (r:Int) (hF:F90_75 k a0=some r):PF Try.prog orc 90 [.list 13 (List.map cGItem a0) none,.fn 75 [] []] [] [] (λ p fr tk=>p=vI r/\fr=[]/\tk=[]):=by
 unfold F90_75 at hF
 refine PF.enterS Try.func90 rfl rfl rfl (by kernel_rfl) rfl ?_
 refine PC.run (n:=2) rfl ?_
 refine PC.assoc ?_
 refine PC.region ?_
 refine PO.run 1 rfl ?_
 refine PO.same rfl (len_ok Try.underlying22 rfl (List.length_map _)) rfl ?_
 refine PO.run 1 rfl ?_
 refine PO.nil ?_
 refine bindK hF (λ x1 e2 hF=>?_)
 refine PC.blockJ (λ s=>Weak s (PS.of 19 [(4,vI 0)] [] [] 0 0)/\.inl ()=x1) ?_ ?_
 ·refine PC.loop (λ j3 s=>∃ (v2:Int),Weak s (PS.of 19 [(0,.list 13 (List.map cGItem a0) none),(1,.fn 75 [] []),(4,vI 0),(7,vI (a0.length:Int)),(8,vI v2)] [] [] 0 0)/\F90_75_l1 k a0 j3 v2=some x1) (λ j3 s=>?_) k ⟨0,Weak.one [] [] (by kernel_rfl),e2⟩
  rintro⟨v2,w4,e2⟩
  refine PC.weak w4 ?_
  obtain _ | j3:=j3
  · rw[F90_75_l1] at e2; cases e2
  rw[F90_75_l1] at e2
  refine PC.run (n:=2) rfl ?_
  refine PC.cond rfl (λ h5=>?_) (λ h5=>?_)
  ·have e2:=bif_t h5 e2
   refine PC.noop ?_
   refine PC.block ?_
   refine PC.run (n:=3) rfl ?_
   refine PC.region ?_
   refine PO.run 3 rfl ?_
   refine bindIK e2 (λ y4 h6 h7 e2=>?_)
   refine PO.same rfl (indexAddr_ok Try.underlying22 rfl rfl rfl h6 (map_at h7)) rfl ?_
   refine PO.run 1 rfl ?_
   refine bindK e2 (λ r8 e9 e2=>?_)
   refine PO.callv rfl rfl rfl rfl rfl (ks:=[]) (ts:=[]) (fr1:=[]) rfl rfl rfl trivial (L75 k y4 _ e9) ?_
   rintro _ _ _ ⟨rfl,rfl,rfl⟩
   refine⟨_,_,rfl,rfl,?_⟩
   refine PO.nil ?_
   refine PC.lone ?_
   refine PC.cond rfl (λ h10=>?_) (λ h10=>?_)
   ·have e2:=bif_t h10 e2
    refine PC.assoc ?_
    refine PC.run (n:=3) rfl ?_
    have hq:=Option.some.inj e2
    subst hq
    have hq:=Option.some.inj hF
    subst hq
    exact PC.ret (blockKP.back (loopKP.ret (blockJK.back (retSK [] [] (by kernel_rfl) (.refl _) ⟨rfl,rfl,rfl⟩))))
   have e2:=bif_f h10 e2
   refine PC.noop ?_
   refine PC.skip (blockKP.end ?_)
   refine PC.lone ?_
   refine PC.run (n:=3) rfl ?_
   exact PC.skip (loopKP.mk (Nat.lt_succ_self _) ⟨w (v2+1),Weak.one [] [] (by kernel_rfl),e2⟩)
  have e2:=bif_f h5 e2
  exact PC.exit (loopKP.exit (blockJK.here ⟨Weak.one [] [] (by kernel_rfl),Option.some.inj e2⟩))
 rintro _ ⟨w11,rfl⟩
 refine PC.weak w11 ?_
 have hF:=elim_l hF
 refine PC.run (n:=2) rfl ?_
 have hq:=Option.some.inj hF
 subst hq
 exact PC.ret' (retSK [] [] (by kernel_rfl) (.refl _) ⟨rfl,rfl,rfl⟩)
def F74_75 (k:Nat) (a0:List GItem):Option Bool:=
(F90_75 k a0).bind λ r1=>
some (decide (r1>=0))
theorem L74_75 (k:Nat) (a0:List GItem) (r:Bool) (hF:F74_75 k a0=some r):PF Try.prog orc 74 [.list 13 (List.map cGItem a0) none,.fn 75 [] []] [] [] (λ p fr tk=>p=vB r/\fr=[]/\tk=[]):=by
 unfold F74_75 at hF
 refine PF.enterS Try.func74 rfl rfl rfl (by kernel_rfl) rfl ?_
 refine PC.run (n:=2) rfl ?_
 refine PC.region ?_
 refine PO.run 2 rfl ?_
 refine bindK hF (λ r1 e2 hF=>?_)
 refine PO.call rfl rfl rfl rfl (ks:=[]) (ts:=[]) (fr1:=[]) rfl rfl rfl trivial (L90_75 k a0 _ e2) ?_
 rintro _ _ _ ⟨rfl,rfl,rfl⟩
 refine⟨_,_,rfl,rfl,?_⟩
 refine PO.run 2 rfl ?_
 refine PO.nil ?_
 have hq:=Option.some.inj hF
 subst hq
 exact PC.ret' (retSK [] [] (by kernel_rfl) (.refl _) ⟨rfl,rfl,rfl⟩)
def F91 (k:Nat) (a0:Int):Option Int:=
some (if 10000 < w (Int.tdiv (w ((w (a0 * a0)) * a0)) 10000) then 10000 else w (Int.tdiv (w ((w (a0 * a0)) * a0)) 10000))
theorem L91 (k:Nat) (a0:Int) (r:Int) (hF:F91 k a0=some r):PF Try.prog orc 91 [vI a0] [] [] (λ p fr tk=>p=vI r/\fr=[]/\tk=[]):=by
 unfold F91 at hF
 refine PF.enterS Try.func91 rfl rfl rfl (by kernel_rfl) rfl ?_
 refine PC.run (n:=2) rfl ?_
 refine PC.run (n:=9) rfl ?_
 have hq:=Option.some.inj hF
 subst hq
 exact PC.ret' (retSK [] [] (by kernel_rfl) (.refl _) ⟨rfl,rfl,rfl⟩)
def F76 (k:Nat) (a0:GLine):Option GLine:=
Option.bind (α:=Int×Int×Bool) (Option.bind (α:=Bool) (bif decide (a0.short < 0) then(some (decide (a0.short < (w (0 - a0.shrink))))) else(some false)) λ(v4:Bool)=>
bif v4 then(some (10000,0,true)) else(Option.bind (α:=Bool) (bif a0.short == 0 then(some true) else(Option.bind (α:=Bool) (bif decide (a0.short > 0) then(some a0.end_) else(some false)) λ(v6:Bool)=>
some v6)) λ(v5:Bool)=>
bif v5 then(some (0,1,a0.over_)) else(bif decide (a0.short < 0) then(bindD a0.shrink ((F91 k (w (Int.tdiv (w (100 * (w (0 - a0.short)))) a0.shrink))).bind λ r19=>
bif decide ((w (Int.tdiv (w (100 * (w (0 - a0.short)))) a0.shrink)) > 50) then(some (r19,0,a0.over_)) else(some (r19,1,a0.over_)))) else(bif a0.stretch == 0 then(some (10000,3,a0.over_)) else(bindD a0.stretch ((F91 k (if 1000 < w (Int.tdiv (w (100 * a0.short)) a0.stretch) then 1000 else w (Int.tdiv (w (100 * a0.short)) a0.stretch))).bind λ r24=>
bif decide ((if 1000 < w (Int.tdiv (w (100 * a0.short)) a0.stretch) then 1000 else w (Int.tdiv (w (100 * a0.short)) a0.stretch))<=50) then(some (r24,1,a0.over_)) else(bif decide ((if 1000 < w (Int.tdiv (w (100 * a0.short)) a0.stretch) then 1000 else w (Int.tdiv (w (100 * a0.short)) a0.stretch))<=100) then(some (r24,2,a0.over_)) else(some (r24,3,a0.over_))))))))) λ(v1,v2,v3)=>
some (GLine.mk a0.first a0.last a0.break_ a0.natural a0.stretch a0.shrink a0.short v1 v2 v3 a0.hyphen a0.end_ a0.height a0.depth)
theorem L76 (k:Nat) (a0:GLine) (r:GLine) (hF:F76 k a0=some r):PF Try.prog orc 76 [vP 0] [⟨0,(cGLine a0)⟩] [] (λ p fr tk=>p=.tup []/\fr=[⟨0,(cGLine r)⟩]/\tk=[]):=by
 unfold F76 at hF
 refine PF.enterS Try.func76 rfl rfl rfl (by kernel_rfl) rfl ?_
 refine PC.run (n:=2) rfl ?_
 refine PC.lone ?_
 refine bindK hF (λ x1 e2 hF=>?_)
 refine PC.blockJ (λ s=>∃ (v1:Int) (v2:Int) (v3:Bool),Weak s (PS.of 130 [] [⟨0,[vI a0.first,vI a0.last,vI a0.break_,vI a0.natural,vI a0.stretch,vI a0.shrink,vI a0.short,vI v1,vI v2,vB v3,vB a0.hyphen,vB a0.end_,vI a0.height,vI a0.depth]⟩] [] 1 0)/\(v1,v2,v3)=x1) ?_ ?_
 ·refine PC.drawn (order:=[0,1,2,3,4,5,6,7,8,9,10,11,12,13,14,15,16,17]) (by kernel_rfl) ?_
  refine PO.run 6 rfl ?_
  refine bindK e2 (λ x3 e4 e2=>?_)
  refine PO.cut 11 (λ s=>∃ (v4:Bool),Weak s (PS.of 130 [(0,vP 0),(2,.fn 91 [] []),(52,vB v4)] [⟨0,(cGLine a0)⟩] [] 1 0)/\v4=x3) ?_ ?_
  ·refine PO.case (t:=41) rfl rfl (λ h5=>?_) (λ h5=>?_)
   ·have e4:=bif_t h5 e4
    refine PO.run 10 rfl ?_
    refine PO.same rfl (pickT_ok rfl rfl rfl) rfl ?_
    refine PO.nil ?_
    exact⟨decide (a0.short < (w (0 - a0.shrink))),Weak.one [0] [] (by kernel_rfl),Option.some.inj e4⟩
   have e4:=bif_f h5 e4
   refine PO.run 10 rfl ?_
   refine PO.same rfl (pickF_ok rfl rfl rfl) rfl ?_
   refine PO.nil ?_
   exact⟨false,Weak.one [0] [] (by kernel_rfl),Option.some.inj e4⟩
  rintro _ ⟨v4,w6,rfl⟩
  refine PO.weak w6 ?_
  refine PO.run 1 rfl ?_
  refine PO.nil ?_
  refine PC.lone ?_
  refine PC.cond rfl (λ h7=>?_) (λ h7=>?_)
  ·have e2:=bif_t h7 e2
   refine PC.region ?_
   refine oK 12 [0] [] [] [⟨0,[vI a0.first,vI a0.last,vI a0.break_,vI a0.natural,vI a0.stretch,vI a0.shrink,vI a0.short,vI 10000,vI 0,vB true,vB a0.hyphen,vB a0.end_,vI a0.height,vI a0.depth]⟩] [] (by kernel_rfl) ?_
   refine PO.nil ?_
   exact PC.skip (blockJK.end ⟨10000,0,true,Weak.one [0] [] (by kernel_rfl),Option.some.inj e2⟩)
  have e2:=bif_f h7 e2
  refine PC.assoc ?_
  refine PC.region ?_
  refine PO.run 6 rfl ?_
  refine bindK e2 (λ x8 e9 e2=>?_)
  refine PO.cut 12 (λ s=>∃ (v5:Bool),Weak s (PS.of 130 [(0,vP 0),(2,.fn 91 [] []),(80,vB v5)] [⟨0,(cGLine a0)⟩] [] 1 0)/\v5=x8) ?_ ?_
  ·refine PO.case (t:=68) rfl rfl (λ h10=>?_) (λ h10=>?_)
   ·have e9:=bif_t h10 e9
    refine PO.run 11 rfl ?_
    refine PO.same rfl (pickT_ok rfl rfl rfl) rfl ?_
    refine PO.nil ?_
    exact⟨true,Weak.one [0] [] (by kernel_rfl),Option.some.inj e9⟩
   have e9:=bif_f h10 e9
   refine PO.run 6 rfl ?_
   refine bindK e9 (λ x11 e12 e9=>?_)
   refine PO.cut 6 (λ s=>∃ (v6:Bool),Weak s (PS.of 130 [(0,vP 0),(2,.fn 91 [] []),(80,vB v6)] [⟨0,(cGLine a0)⟩] [] 1 0)/\v6=x11) ?_ ?_
   ·refine PO.case (t:=74) rfl rfl (λ h13=>?_) (λ h13=>?_)
    ·have e12:=bif_t h13 e12
     refine PO.run 4 rfl ?_
     refine PO.same rfl (pickT_ok rfl rfl rfl) rfl ?_
     refine PO.same rfl (pickF_ok rfl rfl rfl) rfl ?_
     refine PO.nil ?_
     exact⟨a0.end_,Weak.one [0] [] (by kernel_rfl),Option.some.inj e12⟩
    have e12:=bif_f h13 e12
    refine PO.run 4 rfl ?_
    refine PO.same rfl (pickF_ok rfl rfl rfl) rfl ?_
    refine PO.same rfl (pickF_ok rfl rfl rfl) rfl ?_
    refine PO.nil ?_
    exact⟨false,Weak.one [0] [] (by kernel_rfl),Option.some.inj e12⟩
   rintro _ ⟨v6,w14,rfl⟩
   refine PO.weak w14 ?_
   refine PO.nil ?_
   exact⟨v6,Weak.one [0] [] (by kernel_rfl),Option.some.inj e9⟩
  rintro _ ⟨v5,w15,rfl⟩
  refine PO.weak w15 ?_
  refine PO.run 1 rfl ?_
  refine PO.nil ?_
  refine PC.cond rfl (λ h16=>?_) (λ h16=>?_)
  ·have e2:=bif_t h16 e2
   refine PC.region ?_
   refine oK 8 [0] [] [] [⟨0,[vI a0.first,vI a0.last,vI a0.break_,vI a0.natural,vI a0.stretch,vI a0.shrink,vI a0.short,vI 0,vI 1,vB a0.over_,vB a0.hyphen,vB a0.end_,vI a0.height,vI a0.depth]⟩] [] (by kernel_rfl) ?_
   refine PO.nil ?_
   exact PC.skip (blockJK.end ⟨0,1,a0.over_,Weak.one [0] [] (by kernel_rfl),Option.some.inj e2⟩)
  have e2:=bif_f h16 e2
  refine PC.assoc ?_
  refine PC.run (n:=7) rfl ?_
  refine PC.cond rfl (λ h17=>?_) (λ h17=>?_)
  ·have e2:=bif_t h17 e2
   refine PC.assoc ?_
   refine PC.drawn (order:=[0,1,2,3,4,5,6,7,8,9,10,11]) (by kernel_rfl) ?_
   refine PO.run 10 rfl ?_
   refine bindDK e2 (λ h18 e2=>?_)
   refine PO.same rfl (quo_ok rfl rfl h18) rfl ?_
   refine PO.run 1 rfl ?_
   refine PO.nil ?_
   refine PC.assoc ?_
   refine PC.region ?_
   refine PO.run 4 rfl ?_
   refine bindK e2 (λ r19 e20 e2=>?_)
   refine PO.callv rfl rfl rfl rfl rfl (ks:=[]) (ts:=[]) (fr1:=[]) rfl rfl rfl trivial (L91 k (w (Int.tdiv (w (100 * (w (0 - a0.short)))) a0.shrink)) _ e20) ?_
   rintro _ _ _ ⟨rfl,rfl,rfl⟩
   refine⟨_,_,rfl,rfl,?_⟩
   refine oK 6 [0] [] [(0,vP 0),(3,vI (w (Int.tdiv (w (100 * (w (0 - a0.short)))) a0.shrink)))] [⟨0,[vI a0.first,vI a0.last,vI a0.break_,vI a0.natural,vI a0.stretch,vI a0.shrink,vI a0.short,vI r19,vI 1,vB a0.over_,vB a0.hyphen,vB a0.end_,vI a0.height,vI a0.depth]⟩] [] (by kernel_rfl) ?_
   refine PO.nil ?_
   refine PC.assoc ?_
   refine PC.run (n:=3) rfl ?_
   refine PC.cond rfl (λ h21=>?_) (λ h21=>?_)
   ·have e2:=bif_t h21 e2
    refine PC.region ?_
    refine oK 4 [0] [] [] [⟨0,[vI a0.first,vI a0.last,vI a0.break_,vI a0.natural,vI a0.stretch,vI a0.shrink,vI a0.short,vI r19,vI 0,vB a0.over_,vB a0.hyphen,vB a0.end_,vI a0.height,vI a0.depth]⟩] [] (by kernel_rfl) ?_
    refine PO.nil ?_
    exact PC.skip (blockJK.end ⟨r19,0,a0.over_,Weak.one [0] [] (by kernel_rfl),Option.some.inj e2⟩)
   have e2:=bif_f h21 e2
   refine PC.noop ?_
   exact PC.skip (blockJK.end ⟨r19,1,a0.over_,Weak.one [0] [] (by kernel_rfl),Option.some.inj e2⟩)
  have e2:=bif_f h17 e2
  refine PC.assoc ?_
  refine PC.run (n:=7) rfl ?_
  refine PC.cond rfl (λ h22=>?_) (λ h22=>?_)
  ·have e2:=bif_t h22 e2
   refine PC.region ?_
   refine oK 8 [0] [] [] [⟨0,[vI a0.first,vI a0.last,vI a0.break_,vI a0.natural,vI a0.stretch,vI a0.shrink,vI a0.short,vI 10000,vI 3,vB a0.over_,vB a0.hyphen,vB a0.end_,vI a0.height,vI a0.depth]⟩] [] (by kernel_rfl) ?_
   refine PO.nil ?_
   exact PC.skip (blockJK.end ⟨10000,3,a0.over_,Weak.one [0] [] (by kernel_rfl),Option.some.inj e2⟩)
  have e2:=bif_f h22 e2
  refine PC.assoc ?_
  refine PC.drawn (order:=[0,1,2,3,4,5,6,7,8,9,10,11]) (by kernel_rfl) ?_
  refine PO.run 9 rfl ?_
  refine bindDK e2 (λ h23 e2=>?_)
  refine PO.same rfl (quo_ok rfl rfl h23) rfl ?_
  refine PO.run 2 rfl ?_
  refine PO.nil ?_
  refine PC.assoc ?_
  refine PC.region ?_
  refine PO.run 4 rfl ?_
  refine bindK e2 (λ r24 e25 e2=>?_)
  refine PO.callv rfl rfl rfl rfl rfl (ks:=[]) (ts:=[]) (fr1:=[]) rfl rfl rfl trivial (L91 k (if 1000 < w (Int.tdiv (w (100 * a0.short)) a0.stretch) then 1000 else w (Int.tdiv (w (100 * a0.short)) a0.stretch)) _ e25) ?_
  rintro _ _ _ ⟨rfl,rfl,rfl⟩
  refine⟨_,_,rfl,rfl,?_⟩
  refine oK 6 [0] [] [(0,vP 0),(4,vI (if 1000 < w (Int.tdiv (w (100 * a0.short)) a0.stretch) then 1000 else w (Int.tdiv (w (100 * a0.short)) a0.stretch)))] [⟨0,[vI a0.first,vI a0.last,vI a0.break_,vI a0.natural,vI a0.stretch,vI a0.shrink,vI a0.short,vI r24,vI 3,vB a0.over_,vB a0.hyphen,vB a0.end_,vI a0.height,vI a0.depth]⟩] [] (by kernel_rfl) ?_
  refine PO.nil ?_
  refine PC.assoc ?_
  refine PC.run (n:=3) rfl ?_
  refine PC.cond rfl (λ h26=>?_) (λ h26=>?_)
  ·have e2:=bif_t h26 e2
   refine PC.region ?_
   refine oK 4 [0] [] [] [⟨0,[vI a0.first,vI a0.last,vI a0.break_,vI a0.natural,vI a0.stretch,vI a0.shrink,vI a0.short,vI r24,vI 1,vB a0.over_,vB a0.hyphen,vB a0.end_,vI a0.height,vI a0.depth]⟩] [] (by kernel_rfl) ?_
   refine PO.nil ?_
   exact PC.skip (blockJK.end ⟨r24,1,a0.over_,Weak.one [0] [] (by kernel_rfl),Option.some.inj e2⟩)
  have e2:=bif_f h26 e2
  refine PC.assoc ?_
  refine PC.run (n:=3) rfl ?_
  refine PC.cond rfl (λ h27=>?_) (λ h27=>?_)
  ·have e2:=bif_t h27 e2
   refine PC.region ?_
   refine oK 4 [0] [] [] [⟨0,[vI a0.first,vI a0.last,vI a0.break_,vI a0.natural,vI a0.stretch,vI a0.shrink,vI a0.short,vI r24,vI 2,vB a0.over_,vB a0.hyphen,vB a0.end_,vI a0.height,vI a0.depth]⟩] [] (by kernel_rfl) ?_
   refine PO.nil ?_
   exact PC.skip (blockJK.end ⟨r24,2,a0.over_,Weak.one [0] [] (by kernel_rfl),Option.some.inj e2⟩)
  have e2:=bif_f h27 e2
  refine PC.noop ?_
  exact PC.skip (blockJK.end ⟨r24,3,a0.over_,Weak.one [0] [] (by kernel_rfl),Option.some.inj e2⟩)
 rintro _ ⟨v1,v2,v3,w28,rfl⟩
 refine PC.weak w28 ?_
 have hq:=Option.some.inj hF
 subst hq
 exact PC.skip (retSN [0] [] (by kernel_rfl) (.refl _) ⟨rfl,rfl,rfl⟩)
def F51_l1 (k:Nat) (a0:List GItem) (a3:Int):Nat->Int->Option Int
  | 0,_=>none
  | j3+1,v3=>
    Option.bind (α:=Bool) (bif decide (v3 < a3) then(bindI a0 v3 λ y6=>
    some (y6.kind != 1)) else(some false)) λ(v5:Bool)=>
    bif v5 then(F51_l1 k a0 a3 j3 (w (v3+1))) else(some v3)
def F51_l2 (k:Nat) (a0:List GItem) (v1:Int):Nat->Int->Option Int
  | 0,_=>none
  | j15+1,v9=>
    Option.bind (α:=Bool) (bif decide (v9 > v1) then(bindI a0 (w (v9 - 1)) λ y12=>
    some (y12.kind != 1)) else(some false)) λ(v11:Bool)=>
    bif v11 then(F51_l2 k a0 v1 j15 (w (v9 - 1))) else(some v9)
def F51_l3 (k:Nat) (l13:List GItem):Nat->Int->Int->Int->Int->Int->Int->Option (Int×Int×Int×Int×Int)
  | 0,_,_,_,_,_,_=>none
  | j30+1,v25,v26,v27,v28,v29,v30=>
    bif decide (v25 < (l13.length:Int)) then(bindI l13 v25 λ y37=>
    Option.bind (α:=Int×Int×Int×Int×Int) (bif y37.kind == 1 then(some (w (v26+y37.width),v27,v28,(if y37.height > v29 then y37.height else v29),(if y37.depth > v30 then y37.depth else v30))) else(bif y37.kind == 2 then(some (w (v26+y37.width),v27,v28,v29,v30)) else(bif y37.kind == 3 then(some (w (v26+y37.width),w (v27+y37.stretch),w (v28+y37.shrink),v29,v30)) else(some (v26,v27,v28,v29,v30))))) λ(v38,v39,v40,v41,v42)=>
    F51_l3 k l13 j30 (w (v25+1)) v38 v39 v40 v41 v42) else(some (v26,v27,v28,v29,v30))
def F51 (k:Nat) (a0:List GItem) (a1:Int) (a2:Int) (a3:Int):Option GLine:=
Option.bind (α:=Int) (F51_l1 k a0 a3 k (w (a2+1))) λ(v1:Int)=>
Option.bind (α:=Int) (F51_l2 k a0 v1 k a3) λ(v7:Int)=>
bindS a0 v1 v7 λ l13=>
Option.bind (α:=Int×Int×Int×Int×Int) (F51_l3 k l13 k 0 0 0 0 0 0) λ(v14,v15,v16,v17,v18)=>
bindI a0 a3 λ y43=>
Option.bind (α:=Int×Bool×Bool×Int×Int) (bif y43.kind == 4 then((F75 k y43).bind λ r47=>
bif y43.flag then(some (w (v14+y43.width),y43.flag,r47,(if y43.height > v17 then y43.height else v17),(if y43.depth > v18 then y43.depth else v18))) else(some (w (v14+y43.width),y43.flag,r47,v17,v18))) else(some (v14,false,false,v17,v18))) λ(v44,v45,v46,v47,v48)=>
(F76 k (GLine.mk v1 v7 a3 v44 v15 v16 (w (a1 - v44)) 0 0 false v45 v46 v47 v48)).bind λ r51=>
some r51
theorem L51 (k:Nat) (a0:List GItem) (a1:Int) (a2:Int) (a3:Int) (r:GLine) (hF:F51 k a0 a1 a2 a3=some r):PF Try.prog orc 51 [.list 13 (List.map cGItem a0) none,vI a1,vI a2,vI a3] [] [] (λ p fr tk=>p=.agg (cGLine r)/\fr=[]/\tk=[]):=by
 unfold F51 at hF
 refine PF.enterS Try.func51 rfl rfl rfl (by kernel_rfl) rfl ?_
 refine PC.region ?_
 refine oK 1 [0] [] [(0,.list 13 (List.map cGItem a0) none),(1,vI a1),(2,vI a2),(3,vI a3),(8,vP 0)] [⟨0,[vI 0,vI 0,vI 0,vI 0,vI 0,vI 0,vI 0,vI 0,vI 0,vB false,vB false,vB false,vI 0,vI 0]⟩] [] (by kernel_rfl) ?_
 refine PO.nil ?_
 refine PC.region ?_
 refine oK 7 [0,1] [] [(0,.list 13 (List.map cGItem a0) none),(1,vI a1),(3,vI a3),(8,vP 0),(9,vP 1)] [⟨0,[vI 0,vI 0,vI 0,vI 0,vI 0,vI 0,vI 0,vI 0,vI 0,vB false,vB false,vB false,vI 0,vI 0]⟩,⟨0,[vI (w (a2+1)),vI a3,vI a3,vI 0,vI 0,vI 0,vI 0,vI 0,vI 0,vB false,vB false,vB false,vI 0,vI 0]⟩] [] (by kernel_rfl) ?_
 refine PO.nil ?_
 refine bindK hF (λ x1 e2 hF=>?_)
 refine PC.blockJ (λ s=>∃ (v1:Int),Weak s (PS.of 156 [(0,.list 13 (List.map cGItem a0) none),(1,vI a1),(3,vI a3),(8,vP 0),(9,vP 1)] [⟨0,[vI 0,vI 0,vI 0,vI 0,vI 0,vI 0,vI 0,vI 0,vI 0,vB false,vB false,vB false,vI 0,vI 0]⟩,⟨0,[vI v1,vI a3,vI a3,vI 0,vI 0,vI 0,vI 0,vI 0,vI 0,vB false,vB false,vB false,vI 0,vI 0]⟩] [] 0 0)/\v1=x1) ?_ ?_
 ·refine PC.loop (λ j3 s=>∃ (v3:Int),Weak s (PS.of 156 [(0,.list 13 (List.map cGItem a0) none),(1,vI a1),(3,vI a3),(8,vP 0),(9,vP 1)] [⟨0,[vI 0,vI 0,vI 0,vI 0,vI 0,vI 0,vI 0,vI 0,vI 0,vB false,vB false,vB false,vI 0,vI 0]⟩,⟨0,[vI v3,vI a3,vI a3,vI 0,vI 0,vI 0,vI 0,vI 0,vI 0,vB false,vB false,vB false,vI 0,vI 0]⟩] [] 0 0)/\F51_l1 k a0 a3 j3 v3=some x1) (λ j3 s=>?_) k ⟨w (a2+1),Weak.one [0,1] [] (by kernel_rfl),e2⟩
  rintro⟨v3,w4,e2⟩
  refine PC.weak w4 ?_
  obtain _ | j3:=j3
  · rw[F51_l1] at e2; cases e2
  rw[F51_l1] at e2
  refine PC.assoc ?_
  refine PC.region ?_
  refine PO.run 5 rfl ?_
  refine bindK e2 (λ x5 e6 e2=>?_)
  refine PO.cut 8 (λ s=>∃ (v5:Bool),Weak s (PS.of 156 [(0,.list 13 (List.map cGItem a0) none),(1,vI a1),(3,vI a3),(8,vP 0),(9,vP 1),(30,vB v5)] [⟨0,[vI 0,vI 0,vI 0,vI 0,vI 0,vI 0,vI 0,vI 0,vI 0,vB false,vB false,vB false,vI 0,vI 0]⟩,⟨0,[vI v3,vI a3,vI a3,vI 0,vI 0,vI 0,vI 0,vI 0,vI 0,vB false,vB false,vB false,vI 0,vI 0]⟩] [] 0 0)/\v5=x5) ?_ ?_
  ·refine PO.case (t:=22) rfl rfl (λ h7=>?_) (λ h7=>?_)
   ·have e6:=bif_t h7 e6
    refine PO.run 3 rfl ?_
    refine bindIK e6 (λ y6 h8 h9 e6=>?_)
    refine PO.same rfl (indexAddr_ok Try.underlying22 rfl rfl rfl h8 (map_at h9)) rfl ?_
    refine PO.run 3 rfl ?_
    refine PO.same rfl (pickT_ok rfl rfl rfl) rfl ?_
    refine PO.nil ?_
    exact⟨y6.kind != 1,Weak.one [0,1] [] (by kernel_rfl),Option.some.inj e6⟩
   have e6:=bif_f h7 e6
   refine PO.run 7 rfl ?_
   refine PO.same rfl (pickF_ok rfl rfl rfl) rfl ?_
   refine PO.nil ?_
   exact⟨false,Weak.one [0,1] [] (by kernel_rfl),Option.some.inj e6⟩
  rintro _ ⟨v5,w10,rfl⟩
  refine PO.weak w10 ?_
  refine PO.nil ?_
  refine PC.cond rfl (λ h11=>?_) (λ h11=>?_)
  ·have e2:=bif_t h11 e2
   refine PC.noop ?_
   refine PC.lone ?_
   refine PC.block ?_
   refine PC.lone ?_
   refine PC.region ?_
   refine oK 5 [0,1] [] [(0,.list 13 (List.map cGItem a0) none),(1,vI a1),(3,vI a3),(8,vP 0),(9,vP 1)] [⟨0,[vI 0,vI 0,vI 0,vI 0,vI 0,vI 0,vI 0,vI 0,vI 0,vB false,vB false,vB false,vI 0,vI 0]⟩,⟨0,[vI (w (v3+1)),vI a3,vI a3,vI 0,vI 0,vI 0,vI 0,vI 0,vI 0,vB false,vB false,vB false,vI 0,vI 0]⟩] [] (by kernel_rfl) ?_
   refine PO.nil ?_
   refine PC.skip (blockKP.end ?_)
   exact PC.skip (loopKP.mk (Nat.lt_succ_self _) ⟨w (v3+1),Weak.one [0,1] [] (by kernel_rfl),e2⟩)
  have e2:=bif_f h11 e2
  exact PC.exit (loopKP.exit (blockJK.here ⟨v3,Weak.one [0,1] [] (by kernel_rfl),Option.some.inj e2⟩))
 rintro _ ⟨v1,w12,rfl⟩
 refine PC.weak w12 ?_
 refine bindK hF (λ x13 e14 hF=>?_)
 refine PC.blockJ (λ s=>∃ (v7:Int),Weak s (PS.of 156 [(0,.list 13 (List.map cGItem a0) none),(1,vI a1),(3,vI a3),(8,vP 0),(9,vP 1)] [⟨0,[vI 0,vI 0,vI 0,vI 0,vI 0,vI 0,vI 0,vI 0,vI 0,vB false,vB false,vB false,vI 0,vI 0]⟩,⟨0,[vI v1,vI v7,vI a3,vI 0,vI 0,vI 0,vI 0,vI 0,vI 0,vB false,vB false,vB false,vI 0,vI 0]⟩] [] 0 0)/\v7=x13) ?_ ?_
 ·refine PC.loop (λ j15 s=>∃ (v9:Int),Weak s (PS.of 156 [(0,.list 13 (List.map cGItem a0) none),(1,vI a1),(3,vI a3),(8,vP 0),(9,vP 1)] [⟨0,[vI 0,vI 0,vI 0,vI 0,vI 0,vI 0,vI 0,vI 0,vI 0,vB false,vB false,vB false,vI 0,vI 0]⟩,⟨0,[vI v1,vI v9,vI a3,vI 0,vI 0,vI 0,vI 0,vI 0,vI 0,vB false,vB false,vB false,vI 0,vI 0]⟩] [] 0 0)/\F51_l2 k a0 v1 j15 v9=some x13) (λ j15 s=>?_) k ⟨a3,Weak.one [0,1] [] (by kernel_rfl),e14⟩
  rintro⟨v9,w16,e14⟩
  refine PC.weak w16 ?_
  obtain _ | j15:=j15
  · rw[F51_l2] at e14; cases e14
  rw[F51_l2] at e14
  refine PC.assoc ?_
  refine PC.region ?_
  refine PO.run 6 rfl ?_
  refine bindK e14 (λ x17 e18 e14=>?_)
  refine PO.cut 9 (λ s=>∃ (v11:Bool),Weak s (PS.of 156 [(0,.list 13 (List.map cGItem a0) none),(1,vI a1),(3,vI a3),(8,vP 0),(9,vP 1),(49,vB v11)] [⟨0,[vI 0,vI 0,vI 0,vI 0,vI 0,vI 0,vI 0,vI 0,vI 0,vB false,vB false,vB false,vI 0,vI 0]⟩,⟨0,[vI v1,vI v9,vI a3,vI 0,vI 0,vI 0,vI 0,vI 0,vI 0,vB false,vB false,vB false,vI 0,vI 0]⟩] [] 0 0)/\v11=x17) ?_ ?_
  ·refine PO.case (t:=40) rfl rfl (λ h19=>?_) (λ h19=>?_)
   ·have e18:=bif_t h19 e18
    refine PO.run 4 rfl ?_
    refine bindIK e18 (λ y12 h20 h21 e18=>?_)
    refine PO.same rfl (indexAddr_ok Try.underlying22 rfl rfl rfl h20 (map_at h21)) rfl ?_
    refine PO.run 3 rfl ?_
    refine PO.same rfl (pickT_ok rfl rfl rfl) rfl ?_
    refine PO.nil ?_
    exact⟨y12.kind != 1,Weak.one [0,1] [] (by kernel_rfl),Option.some.inj e18⟩
   have e18:=bif_f h19 e18
   refine PO.run 8 rfl ?_
   refine PO.same rfl (pickF_ok rfl rfl rfl) rfl ?_
   refine PO.nil ?_
   exact⟨false,Weak.one [0,1] [] (by kernel_rfl),Option.some.inj e18⟩
  rintro _ ⟨v11,w22,rfl⟩
  refine PO.weak w22 ?_
  refine PO.nil ?_
  refine PC.cond rfl (λ h23=>?_) (λ h23=>?_)
  ·have e14:=bif_t h23 e14
   refine PC.noop ?_
   refine PC.lone ?_
   refine PC.block ?_
   refine PC.lone ?_
   refine PC.region ?_
   refine oK 5 [0,1] [] [(0,.list 13 (List.map cGItem a0) none),(1,vI a1),(3,vI a3),(8,vP 0),(9,vP 1)] [⟨0,[vI 0,vI 0,vI 0,vI 0,vI 0,vI 0,vI 0,vI 0,vI 0,vB false,vB false,vB false,vI 0,vI 0]⟩,⟨0,[vI v1,vI (w (v9 - 1)),vI a3,vI 0,vI 0,vI 0,vI 0,vI 0,vI 0,vB false,vB false,vB false,vI 0,vI 0]⟩] [] (by kernel_rfl) ?_
   refine PO.nil ?_
   refine PC.skip (blockKP.end ?_)
   exact PC.skip (loopKP.mk (Nat.lt_succ_self _) ⟨w (v9 - 1),Weak.one [0,1] [] (by kernel_rfl),e14⟩)
  have e14:=bif_f h23 e14
  exact PC.exit (loopKP.exit (blockJK.here ⟨v9,Weak.one [0,1] [] (by kernel_rfl),Option.some.inj e14⟩))
 rintro _ ⟨v7,w24,rfl⟩
 refine PC.weak w24 ?_
 refine PC.assoc ?_
 refine PC.region ?_
 refine PO.run 5 rfl ?_
 refine bindSK hF (λ h25 h26 h27 hF=>?_)
 generalize hgl13:(List.take (Int.toNat v7) a0).drop (Int.toNat v1)=l13 at hF
 refine PO.same rfl (slice_ok (l2:=List.map cGItem l13) Try.underlying22 rfl rfl (.some rfl h25 rfl) (.some rfl (Int.le_trans h25 h26) rfl) (Int.toNat_le_toNat h26) (toNat_le1 h27) (by rw[<- hgl13,List.map_drop,List.map_take] <;> first | rfl | simp[w])) rfl ?_
 refine PO.same rfl (len_ok Try.underlying22 rfl (List.length_map _)) rfl ?_
 refine PO.run 1 rfl ?_
 refine PO.nil ?_
 refine bindK hF (λ x28 e29 hF=>?_)
 refine PC.blockJ (λ s=>∃ (v14:Int) (v15:Int) (v16:Int) (v17:Int) (v18:Int),Weak s (PS.of 156 [(0,.list 13 (List.map cGItem a0) none),(1,vI a1),(3,vI a3),(8,vP 0),(9,vP 1)] [⟨0,[vI 0,vI 0,vI 0,vI 0,vI 0,vI 0,vI 0,vI 0,vI 0,vB false,vB false,vB false,vI 0,vI 0]⟩,⟨0,[vI v1,vI v7,vI a3,vI v14,vI v15,vI v16,vI 0,vI 0,vI 0,vB false,vB false,vB false,vI v17,vI v18]⟩] [] 0 0)/\(v14,v15,v16,v17,v18)=x28) ?_ ?_
 ·refine PC.loop (λ j30 s=>∃ (v25:Int) (v26:Int) (v27:Int) (v28:Int) (v29:Int) (v30:Int),Weak s (PS.of 156 [(0,.list 13 (List.map cGItem a0) none),(1,vI a1),(3,vI a3),(8,vP 0),(9,vP 1),(59,.list 13 (List.map cGItem l13) none),(60,vI (l13.length:Int)),(61,vI v25)] [⟨0,[vI 0,vI 0,vI 0,vI 0,vI 0,vI 0,vI 0,vI 0,vI 0,vB false,vB false,vB false,vI 0,vI 0]⟩,⟨0,[vI v1,vI v7,vI a3,vI v26,vI v27,vI v28,vI 0,vI 0,vI 0,vB false,vB false,vB false,vI v29,vI v30]⟩] [] 0 0)/\F51_l3 k l13 j30 v25 v26 v27 v28 v29 v30=some x28) (λ j30 s=>?_) k ⟨0,0,0,0,0,0,Weak.one [0,1] [] (by kernel_rfl),e29⟩
  rintro⟨v25,v26,v27,v28,v29,v30,w31,e29⟩
  refine PC.weak w31 ?_
  obtain _ | j30:=j30
  · rw[F51_l3] at e29; cases e29
  rw[F51_l3] at e29
  refine PC.run (n:=2) rfl ?_
  refine PC.cond rfl (λ h32=>?_) (λ h32=>?_)
  ·have e29:=bif_t h32 e29
   refine PC.noop ?_
   refine PC.block ?_
   refine PC.region ?_
   refine bindIK e29 (λ y37 h33 h34 e29=>?_)
   refine PO.same rfl (indexAddr_ok Try.underlying22 rfl rfl rfl h33 (map_at h34)) rfl ?_
   refine oK 3 [0,1,2] [] [(0,.list 13 (List.map cGItem a0) none),(1,vI a1),(3,vI a3),(8,vP 0),(9,vP 1),(11,vP 2),(59,.list 13 (List.map cGItem l13) none),(60,vI (l13.length:Int)),(61,vI v25)] [⟨0,[vI 0,vI 0,vI 0,vI 0,vI 0,vI 0,vI 0,vI 0,vI 0,vB false,vB false,vB false,vI 0,vI 0]⟩,⟨0,[vI v1,vI v7,vI a3,vI v26,vI v27,vI v28,vI 0,vI 0,vI 0,vB false,vB false,vB false,vI v29,vI v30]⟩,⟨0,(cGItem y37)⟩] [] (by kernel_rfl) ?_
   refine PO.nil ?_
   refine PC.run (n:=3) rfl ?_
   refine PC.lone ?_
   refine bindK e29 (λ x35 e36 e29=>?_)
   refine PC.blockJ (λ s=>∃ (v38:Int) (v39:Int) (v40:Int) (v41:Int) (v42:Int),Weak s (PS.of 156 [(0,.list 13 (List.map cGItem a0) none),(1,vI a1),(3,vI a3),(8,vP 0),(9,vP 1),(59,.list 13 (List.map cGItem l13) none),(60,vI (l13.length:Int)),(61,vI v25)] [⟨0,[vI 0,vI 0,vI 0,vI 0,vI 0,vI 0,vI 0,vI 0,vI 0,vB false,vB false,vB false,vI 0,vI 0]⟩,⟨0,[vI v1,vI v7,vI a3,vI v38,vI v39,vI v40,vI 0,vI 0,vI 0,vB false,vB false,vB false,vI v41,vI v42]⟩] [] 0 0)/\(v38,v39,v40,v41,v42)=x35) ?_ ?_
   ·refine PC.run (n:=3) rfl ?_
    refine PC.lone ?_
    refine PC.cond rfl (λ h37=>?_) (λ h37=>?_)
    ·have e36:=bif_t h37 e36
     refine PC.assoc ?_
     refine PC.region ?_
     refine oK 7 [0,1,2] [] [(0,.list 13 (List.map cGItem a0) none),(1,vI a1),(3,vI a3),(8,vP 0),(9,vP 1),(11,vP 2),(59,.list 13 (List.map cGItem l13) none),(60,vI (l13.length:Int)),(61,vI v25)] [⟨0,[vI 0,vI 0,vI 0,vI 0,vI 0,vI 0,vI 0,vI 0,vI 0,vB false,vB false,vB false,vI 0,vI 0]⟩,⟨0,[vI v1,vI v7,vI a3,vI (w (v26+y37.width)),vI v27,vI v28,vI 0,vI 0,vI 0,vB false,vB false,vB false,vI v29,vI v30]⟩,⟨0,(cGItem y37)⟩] [] (by kernel_rfl) ?_
     refine PO.nil ?_
     refine PC.draw [0,1,2,3,4,5,6,10,11,7,8,9,12,13] (by kernel_rfl) ?_
     refine oD 9 [7,8,9,12,13] ⟨3199,3199,1151,[(11,[1],false)]⟩ [(0,.list 13 (List.map cGItem a0) none),(1,vI a1),(3,vI a3),(8,vP 0),(9,vP 1),(11,vP 2),(59,.list 13 (List.map cGItem l13) none),(60,vI (l13.length:Int)),(61,vI v25),(81,vI v30)] [⟨0,[vI 0,vI 0,vI 0,vI 0,vI 0,vI 0,vI 0,vI 0,vI 0,vB false,vB false,vB false,vI 0,vI 0]⟩,⟨0,[vI v1,vI v7,vI a3,vI (w (v26+y37.width)),vI v27,vI v28,vI 0,vI 0,vI 0,vB false,vB false,vB false,vI (if y37.height > v29 then y37.height else v29),vI v30]⟩,⟨0,(cGItem y37)⟩] [] (by kernel_rfl) ?_
     refine oD 5 [] ⟨16383,16383,8191,[(13,[1],false),(11,[1,1],false)]⟩ [(0,.list 13 (List.map cGItem a0) none),(1,vI a1),(3,vI a3),(8,vP 0),(9,vP 1),(59,.list 13 (List.map cGItem l13) none),(60,vI (l13.length:Int)),(61,vI v25)] [⟨0,[vI 0,vI 0,vI 0,vI 0,vI 0,vI 0,vI 0,vI 0,vI 0,vB false,vB false,vB false,vI 0,vI 0]⟩,⟨0,[vI v1,vI v7,vI a3,vI (w (v26+y37.width)),vI v27,vI v28,vI 0,vI 0,vI 0,vB false,vB false,vB false,vI (if y37.height > v29 then y37.height else v29),vI (if y37.depth > v30 then y37.depth else v30)]⟩,⟨0,(cGItem y37)⟩] [] (by kernel_rfl) ?_
     refine PD.done [0,1] [] (es:=[(0,.list 13 (List.map cGItem a0) none),(1,vI a1),(3,vI a3),(8,vP 0),(9,vP 1),(59,.list 13 (List.map cGItem l13) none),(60,vI (l13.length:Int)),(61,vI v25)]) (fr':=[⟨0,[vI 0,vI 0,vI 0,vI 0,vI 0,vI 0,vI 0,vI 0,vI 0,vB false,vB false,vB false,vI 0,vI 0]⟩,⟨0,[vI v1,vI v7,vI a3,vI (w (v26+y37.width)),vI v27,vI v28,vI 0,vI 0,vI 0,vB false,vB false,vB false,vI (if y37.height > v29 then y37.height else v29),vI (if y37.depth > v30 then y37.depth else v30)]⟩]) (tk':=[]) (by kernel_rfl) (by kernel_rfl) ?_
     exact PC.skip (blockJK.end ⟨w (v26+y37.width),v27,v28,(if y37.height > v29 then y37.height else v29),(if y37.depth > v30 then y37.depth else v30),Weak.one [0,1] [] (by kernel_rfl),Option.some.inj e36⟩)
    have e36:=bif_f h37 e36
    refine PC.assoc ?_
    refine PC.run (n:=3) rfl ?_
    refine PC.cond rfl (λ h38=>?_) (λ h38=>?_)
    ·have e36:=bif_t h38 e36
     refine PC.region ?_
     refine oK 7 [0,1] [] [(0,.list 13 (List.map cGItem a0) none),(1,vI a1),(3,vI a3),(8,vP 0),(9,vP 1),(59,.list 13 (List.map cGItem l13) none),(60,vI (l13.length:Int)),(61,vI v25)] [⟨0,[vI 0,vI 0,vI 0,vI 0,vI 0,vI 0,vI 0,vI 0,vI 0,vB false,vB false,vB false,vI 0,vI 0]⟩,⟨0,[vI v1,vI v7,vI a3,vI (w (v26+y37.width)),vI v27,vI v28,vI 0,vI 0,vI 0,vB false,vB false,vB false,vI v29,vI v30]⟩] [] (by kernel_rfl) ?_
     refine PO.nil ?_
     exact PC.skip (blockJK.end ⟨w (v26+y37.width),v27,v28,v29,v30,Weak.one [0,1] [] (by kernel_rfl),Option.some.inj e36⟩)
    have e36:=bif_f h38 e36
    refine PC.assoc ?_
    refine PC.run (n:=3) rfl ?_
    refine PC.cond rfl (λ h39=>?_) (λ h39=>?_)
    ·have e36:=bif_t h39 e36
     refine PC.assoc ?_
     refine PC.region ?_
     refine oK 7 [0,1,2] [] [(0,.list 13 (List.map cGItem a0) none),(1,vI a1),(3,vI a3),(8,vP 0),(9,vP 1),(11,vP 2),(59,.list 13 (List.map cGItem l13) none),(60,vI (l13.length:Int)),(61,vI v25)] [⟨0,[vI 0,vI 0,vI 0,vI 0,vI 0,vI 0,vI 0,vI 0,vI 0,vB false,vB false,vB false,vI 0,vI 0]⟩,⟨0,[vI v1,vI v7,vI a3,vI (w (v26+y37.width)),vI v27,vI v28,vI 0,vI 0,vI 0,vB false,vB false,vB false,vI v29,vI v30]⟩,⟨0,(cGItem y37)⟩] [] (by kernel_rfl) ?_
     refine PO.nil ?_
     refine PC.assoc ?_
     refine PC.region ?_
     refine oK 7 [0,1,2] [] [(0,.list 13 (List.map cGItem a0) none),(1,vI a1),(3,vI a3),(8,vP 0),(9,vP 1),(11,vP 2),(59,.list 13 (List.map cGItem l13) none),(60,vI (l13.length:Int)),(61,vI v25)] [⟨0,[vI 0,vI 0,vI 0,vI 0,vI 0,vI 0,vI 0,vI 0,vI 0,vB false,vB false,vB false,vI 0,vI 0]⟩,⟨0,[vI v1,vI v7,vI a3,vI (w (v26+y37.width)),vI (w (v27+y37.stretch)),vI v28,vI 0,vI 0,vI 0,vB false,vB false,vB false,vI v29,vI v30]⟩,⟨0,(cGItem y37)⟩] [] (by kernel_rfl) ?_
     refine PO.nil ?_
     refine PC.region ?_
     refine oK 7 [0,1] [] [(0,.list 13 (List.map cGItem a0) none),(1,vI a1),(3,vI a3),(8,vP 0),(9,vP 1),(59,.list 13 (List.map cGItem l13) none),(60,vI (l13.length:Int)),(61,vI v25)] [⟨0,[vI 0,vI 0,vI 0,vI 0,vI 0,vI 0,vI 0,vI 0,vI 0,vB false,vB false,vB false,vI 0,vI 0]⟩,⟨0,[vI v1,vI v7,vI a3,vI (w (v26+y37.width)),vI (w (v27+y37.stretch)),vI (w (v28+y37.shrink)),vI 0,vI 0,vI 0,vB false,vB false,vB false,vI v29,vI v30]⟩] [] (by kernel_rfl) ?_
     refine PO.nil ?_
     exact PC.skip (blockJK.end ⟨w (v26+y37.width),w (v27+y37.stretch),w (v28+y37.shrink),v29,v30,Weak.one [0,1] [] (by kernel_rfl),Option.some.inj e36⟩)
    have e36:=bif_f h39 e36
    refine PC.noop ?_
    exact PC.skip (blockJK.end ⟨v26,v27,v28,v29,v30,Weak.one [0,1] [] (by kernel_rfl),Option.some.inj e36⟩)
   rintro _ ⟨v38,v39,v40,v41,v42,w40,rfl⟩
   refine PC.weak w40 ?_
   refine PC.skip (blockKP.end ?_)
   refine PC.lone ?_
   refine PC.run (n:=3) rfl ?_
   exact PC.skip (loopKP.mk (Nat.lt_succ_self _) ⟨w (v25+1),v38,v39,v40,v41,v42,Weak.one [0,1] [] (by kernel_rfl),e29⟩)
  have e29:=bif_f h32 e29
  exact PC.exit (loopKP.exit (blockJK.here ⟨v26,v27,v28,v29,v30,Weak.one [0,1] [] (by kernel_rfl),Option.some.inj e29⟩))
 rintro _ ⟨v14,v15,v16,v17,v18,w41,rfl⟩
 refine PC.weak w41 ?_
 refine PC.assoc ?_
 refine PC.region ?_
 refine PO.run 2 rfl ?_
 refine bindIK hF (λ y43 h42 h43 hF=>?_)
 refine PO.same rfl (indexAddr_ok Try.underlying22 rfl rfl rfl h42 (map_at h43)) rfl ?_
 refine oK 3 [0,1,2] [] [(1,vI a1),(8,vP 0),(9,vP 1),(12,vP 2)] [⟨0,[vI 0,vI 0,vI 0,vI 0,vI 0,vI 0,vI 0,vI 0,vI 0,vB false,vB false,vB false,vI 0,vI 0]⟩,⟨0,[vI v1,vI v7,vI a3,vI v14,vI v15,vI v16,vI 0,vI 0,vI 0,vB false,vB false,vB false,vI v17,vI v18]⟩,⟨0,(cGItem y43)⟩] [] (by kernel_rfl) ?_
 refine PO.nil ?_
 refine PC.assoc ?_
 refine PC.run (n:=4) rfl ?_
 refine bindK hF (λ x44 e45 hF=>?_)
 refine PC.join (λ s=>∃ (v44:Int) (v45:Bool) (v46:Bool) (v47:Int) (v48:Int),Weak s (PS.of 156 [(1,vI a1),(8,vP 0),(9,vP 1)] [⟨0,[vI 0,vI 0,vI 0,vI 0,vI 0,vI 0,vI 0,vI 0,vI 0,vB false,vB false,vB false,vI 0,vI 0]⟩,⟨0,[vI v1,vI v7,vI a3,vI v44,vI v15,vI v16,vI 0,vI 0,vI 0,vB false,vB v45,vB v46,vI v47,vI v48]⟩] [] 0 0)/\(v44,v45,v46,v47,v48)=x44) ?_ ?_
 ·refine PC.cond rfl (λ h46=>?_) (λ h46=>?_)
  ·have e45:=bif_t h46 e45
   refine PC.assoc ?_
   refine PC.region ?_
   refine oK 7 [0,1,2] [] [(1,vI a1),(8,vP 0),(9,vP 1),(12,vP 2)] [⟨0,[vI 0,vI 0,vI 0,vI 0,vI 0,vI 0,vI 0,vI 0,vI 0,vB false,vB false,vB false,vI 0,vI 0]⟩,⟨0,[vI v1,vI v7,vI a3,vI (w (v14+y43.width)),vI v15,vI v16,vI 0,vI 0,vI 0,vB false,vB false,vB false,vI v17,vI v18]⟩,⟨0,(cGItem y43)⟩] [] (by kernel_rfl) ?_
   refine PO.nil ?_
   refine PC.assoc ?_
   refine PC.draw [2,3,0,1,4,5,6,7] (by kernel_rfl) ?_
   refine oD 1 [3,0,1,4,5,6,7] ⟨4,0,0,[]⟩ [(1,vI a1),(8,vP 0),(9,vP 1),(12,vP 2),(131,.agg (cGItem y43))] [⟨0,[vI 0,vI 0,vI 0,vI 0,vI 0,vI 0,vI 0,vI 0,vI 0,vB false,vB false,vB false,vI 0,vI 0]⟩,⟨0,[vI v1,vI v7,vI a3,vI (w (v14+y43.width)),vI v15,vI v16,vI 0,vI 0,vI 0,vB false,vB false,vB false,vI v17,vI v18]⟩,⟨0,(cGItem y43)⟩] [] (by kernel_rfl) ?_
   refine bindK e45 (λ r47 e48 e45=>?_)
   refine PD.call rfl rfl (by kernel_rfl) rfl rfl rfl (ks:=[]) (ts:=[]) (fr1:=[]) rfl rfl rfl trivial (L75 k y43 _ e48) ?_
   rintro _ _ _ ⟨rfl,rfl,rfl⟩
   refine⟨_,_,rfl,rfl,?_⟩
   refine oD 4 [6,7] ⟨63,63,31,[(5,[1],false),(3,[1],true)]⟩ [(1,vI a1),(8,vP 0),(9,vP 1),(12,vP 2),(132,vB r47)] [⟨0,[vI 0,vI 0,vI 0,vI 0,vI 0,vI 0,vI 0,vI 0,vI 0,vB false,vB false,vB false,vI 0,vI 0]⟩,⟨0,[vI v1,vI v7,vI a3,vI (w (v14+y43.width)),vI v15,vI v16,vI 0,vI 0,vI 0,vB false,vB y43.flag,vB false,vI v17,vI v18]⟩,⟨0,(cGItem y43)⟩] [] (by kernel_rfl) ?_
   refine oD 2 [] ⟨255,255,127,[(7,[1],false),(5,[1,1],false),(3,[1,1],true)]⟩ [(1,vI a1),(8,vP 0),(9,vP 1),(12,vP 2)] [⟨0,[vI 0,vI 0,vI 0,vI 0,vI 0,vI 0,vI 0,vI 0,vI 0,vB false,vB false,vB false,vI 0,vI 0]⟩,⟨0,[vI v1,vI v7,vI a3,vI (w (v14+y43.width)),vI v15,vI v16,vI 0,vI 0,vI 0,vB false,vB y43.flag,vB r47,vI v17,vI v18]⟩,⟨0,(cGItem y43)⟩] [] (by kernel_rfl) ?_
   refine PD.done [0,1,2] [] (es:=[(1,vI a1),(8,vP 0),(9,vP 1),(12,vP 2)]) (fr':=[⟨0,[vI 0,vI 0,vI 0,vI 0,vI 0,vI 0,vI 0,vI 0,vI 0,vB false,vB false,vB false,vI 0,vI 0]⟩,⟨0,[vI v1,vI v7,vI a3,vI (w (v14+y43.width)),vI v15,vI v16,vI 0,vI 0,vI 0,vB false,vB y43.flag,vB r47,vI v17,vI v18]⟩,⟨0,(cGItem y43)⟩]) (tk':=[]) (by kernel_rfl) (by kernel_rfl) ?_
   refine PC.assoc ?_
   refine PC.run (n:=3) rfl ?_
   refine PC.cond rfl (λ h49=>?_) (λ h49=>?_)
   ·have e45:=bif_t h49 e45
    refine PC.draw [0,1,2,3,4,5,6,10,11,7,8,9,12,13] (by kernel_rfl) ?_
    refine oD 9 [7,8,9,12,13] ⟨3199,3199,1151,[(11,[1],false)]⟩ [(1,vI a1),(8,vP 0),(9,vP 1),(12,vP 2),(143,vI v18)] [⟨0,[vI 0,vI 0,vI 0,vI 0,vI 0,vI 0,vI 0,vI 0,vI 0,vB false,vB false,vB false,vI 0,vI 0]⟩,⟨0,[vI v1,vI v7,vI a3,vI (w (v14+y43.width)),vI v15,vI v16,vI 0,vI 0,vI 0,vB false,vB y43.flag,vB r47,vI (if y43.height > v17 then y43.height else v17),vI v18]⟩,⟨0,(cGItem y43)⟩] [] (by kernel_rfl) ?_
    refine oD 5 [] ⟨16383,16383,8191,[(13,[1],false),(11,[1,1],false)]⟩ [(1,vI a1),(8,vP 0),(9,vP 1)] [⟨0,[vI 0,vI 0,vI 0,vI 0,vI 0,vI 0,vI 0,vI 0,vI 0,vB false,vB false,vB false,vI 0,vI 0]⟩,⟨0,[vI v1,vI v7,vI a3,vI (w (v14+y43.width)),vI v15,vI v16,vI 0,vI 0,vI 0,vB false,vB y43.flag,vB r47,vI (if y43.height > v17 then y43.height else v17),vI (if y43.depth > v18 then y43.depth else v18)]⟩,⟨0,(cGItem y43)⟩] [] (by kernel_rfl) ?_
    refine PD.done [0,1] [] (es:=[(1,vI a1),(8,vP 0),(9,vP 1)]) (fr':=[⟨0,[vI 0,vI 0,vI 0,vI 0,vI 0,vI 0,vI 0,vI 0,vI 0,vB false,vB false,vB false,vI 0,vI 0]⟩,⟨0,[vI v1,vI v7,vI a3,vI (w (v14+y43.width)),vI v15,vI v16,vI 0,vI 0,vI 0,vB false,vB y43.flag,vB r47,vI (if y43.height > v17 then y43.height else v17),vI (if y43.depth > v18 then y43.depth else v18)]⟩]) (tk':=[]) (by kernel_rfl) (by kernel_rfl) ?_
    exact PC.skip (joinKP.end ⟨w (v14+y43.width),y43.flag,r47,(if y43.height > v17 then y43.height else v17),(if y43.depth > v18 then y43.depth else v18),Weak.one [0,1] [] (by kernel_rfl),Option.some.inj e45⟩)
   have e45:=bif_f h49 e45
   refine PC.noop ?_
   exact PC.skip (joinKP.end ⟨w (v14+y43.width),y43.flag,r47,v17,v18,Weak.one [0,1] [] (by kernel_rfl),Option.some.inj e45⟩)
  have e45:=bif_f h46 e45
  refine PC.noop ?_
  exact PC.skip (joinKP.end ⟨v14,false,false,v17,v18,Weak.one [0,1] [] (by kernel_rfl),Option.some.inj e45⟩)
 rintro _ ⟨v44,v45,v46,v47,v48,w50,rfl⟩
 refine PC.weak w50 ?_
 refine PC.region ?_
 refine oK 6 [0,1] [] [(8,vP 0),(9,vP 1)] [⟨0,[vI 0,vI 0,vI 0,vI 0,vI 0,vI 0,vI 0,vI 0,vI 0,vB false,vB false,vB false,vI 0,vI 0]⟩,⟨0,[vI v1,vI v7,vI a3,vI v44,vI v15,vI v16,vI (w (a1 - v44)),vI 0,vI 0,vB false,vB v45,vB v46,vI v47,vI v48]⟩] [] (by kernel_rfl) ?_
 refine PO.nil ?_
 refine PC.region ?_
 refine bindK hF (λ r51 e52 hF=>?_)
 refine PO.call rfl rfl rfl rfl (ks:=[1]) (ts:=[]) (fr1:=[⟨0,[vI v1,vI v7,vI a3,vI v44,vI v15,vI v16,vI (w (a1 - v44)),vI 0,vI 0,vB false,vB v45,vB v46,vI v47,vI v48]⟩]) rfl rfl rfl ⟨⟨_,rfl,rfl,rfl⟩,trivial⟩ (L76 k (GLine.mk v1 v7 a3 v44 v15 v16 (w (a1 - v44)) 0 0 false v45 v46 v47 v48) _ e52) ?_
 rintro _ _ _ ⟨rfl,rfl,rfl⟩
 refine⟨_,_,rfl,rfl,?_⟩
 refine PO.nil ?_
 refine PC.region ?_
 refine oK 2 [0] [] [(8,vP 0)] [⟨0,(cGLine r51)⟩] [] (by kernel_rfl) ?_
 refine PO.nil ?_
 have hq:=Option.some.inj hF
 subst hq
 exact PC.ret' (retSK [] [] (by kernel_rfl) (.refl _) ⟨rfl,rfl,rfl⟩)
def F59 (k:Nat) (a0:List GItem) (a1:Int) (a2:Int) (a3:Int):Option (GLine×Int):=
(F21 k a0).bind λ r1=>
Option.bind (α:=Bool) (bif r1 != 0 then(some true) else(Option.bind (α:=Bool) (bif decide (a1 < 1) then(some true) else(Option.bind (α:=Bool) (bif decide (a1 > 536870912) then(some true) else(Option.bind (α:=Bool) (bif decide (a2 < (-1)) then(some true) else(Option.bind (α:=Bool) (bif decide (a2>=a3) then(some true) else(Option.bind (α:=Bool) (bif decide (a3>=(a0.length:Int)) then(some true) else((F71 k a0 a3).bind λ r21=>
Option.bind (α:=Bool) (bif !r21 then(some true) else(Option.bind (α:=Bool) (bif decide (a2>=0) then((F71 k a0 a2).bind λ r29=>
some (!r29)) else(some false)) λ(v8:Bool)=>
some v8)) λ(v7:Bool)=>
some v7)) λ(v6:Bool)=>
some v6)) λ(v5:Bool)=>
some v5)) λ(v4:Bool)=>
some v4)) λ(v3:Bool)=>
some v3)) λ(v2:Bool)=>
some v2)) λ(v1:Bool)=>
bif v1 then(some ((GLine.mk 0 0 0 0 0 0 0 0 0 false false false 0 0),1)) else(bindS a0 (w (a2+1)) a3 λ l9=>
(F74_75 k l9).bind λ r43=>
bif r43 then(some ((GLine.mk 0 0 0 0 0 0 0 0 0 false false false 0 0),1)) else((F51 k a0 a1 a2 a3).bind λ r46=>
some (r46,0)))
theorem L59 (k:Nat) (a0:List GItem) (a1:Int) (a2:Int) (a3:Int) (r:GLine×Int) (hF:F59 k a0 a1 a2 a3=some r):PF Try.prog orc 59 [.list 13 (List.map cGItem a0) none,vI a1,vI a2,vI a3] [] [] (λ p fr tk=>p=.tup [.agg (cGLine r.1),vI r.2]/\fr=[]/\tk=[]):=by
 unfold F59 at hF
 refine PF.enterS Try.func59 rfl rfl rfl (by kernel_rfl) rfl ?_
 refine PC.region ?_
 refine oK 2 [0] [] [(0,.list 13 (List.map cGItem a0) none),(1,vI a1),(2,vI a2),(3,vI a3),(8,vP 0),(9,vI 0)] [⟨0,[vI 0,vI 0,vI 0,vI 0,vI 0,vI 0,vI 0,vI 0,vI 0,vB false,vB false,vB false,vI 0,vI 0]⟩] [] (by kernel_rfl) ?_
 refine PO.nil ?_
 refine PC.assoc ?_
 refine PC.region ?_
 refine PO.run 1 rfl ?_
 refine bindK hF (λ r1 e2 hF=>?_)
 refine PO.call rfl rfl rfl rfl (ks:=[]) (ts:=[]) (fr1:=[]) rfl rfl rfl trivial (L21 k a0 _ e2) ?_
 rintro _ _ _ ⟨rfl,rfl,rfl⟩
 refine⟨_,_,rfl,rfl,?_⟩
 refine PO.run 2 rfl ?_
 refine bindK hF (λ x3 e4 hF=>?_)
 refine PO.cut 38 (λ s=>∃ (v1:Bool),Weak s (PS.of 65 [(0,.list 13 (List.map cGItem a0) none),(1,vI a1),(2,vI a2),(3,vI a3),(8,vP 0),(9,vI 0),(51,vB v1)] [⟨0,[vI 0,vI 0,vI 0,vI 0,vI 0,vI 0,vI 0,vI 0,vI 0,vB false,vB false,vB false,vI 0,vI 0]⟩] [] 0 0)/\v1=x3) ?_ ?_
 ·refine PO.case (t:=13) rfl rfl (λ h5=>?_) (λ h5=>?_)
  ·have e4:=bif_t h5 e4
   refine PO.run 2 rfl ?_
   refine PO.same rfl (pickT_ok rfl rfl rfl) rfl ?_
   refine PO.run 3 rfl ?_
   refine PO.same rfl (pickT_ok rfl rfl rfl) rfl ?_
   refine PO.run 3 rfl ?_
   refine PO.same rfl (pickT_ok rfl rfl rfl) rfl ?_
   refine PO.run 4 rfl ?_
   refine PO.same rfl (pickT_ok rfl rfl rfl) rfl ?_
   refine PO.run 5 rfl ?_
   refine PO.same rfl (pickT_ok rfl rfl rfl) rfl ?_
   refine PO.run 5 rfl ?_
   refine PO.same rfl (pickT_ok rfl rfl rfl) rfl ?_
   refine PO.run 9 rfl ?_
   refine PO.same rfl (pickT_ok rfl rfl rfl) rfl ?_
   refine PO.nil ?_
   exact⟨true,Weak.one [0] [] (by kernel_rfl),Option.some.inj e4⟩
  have e4:=bif_f h5 e4
  refine PO.run 2 rfl ?_
  refine PO.same rfl (pickF_ok rfl rfl rfl) rfl ?_
  refine PO.run 1 rfl ?_
  refine bindK e4 (λ x6 e7 e4=>?_)
  refine PO.cut 34 (λ s=>∃ (v2:Bool),Weak s (PS.of 65 [(0,.list 13 (List.map cGItem a0) none),(1,vI a1),(2,vI a2),(3,vI a3),(8,vP 0),(9,vI 0),(51,vB v2)] [⟨0,[vI 0,vI 0,vI 0,vI 0,vI 0,vI 0,vI 0,vI 0,vI 0,vB false,vB false,vB false,vI 0,vI 0]⟩] [] 0 0)/\v2=x6) ?_ ?_
  ·refine PO.case (t:=17) rfl rfl (λ h8=>?_) (λ h8=>?_)
   ·have e7:=bif_t h8 e7
    refine PO.run 2 rfl ?_
    refine PO.same rfl (pickT_ok rfl rfl rfl) rfl ?_
    refine PO.run 3 rfl ?_
    refine PO.same rfl (pickT_ok rfl rfl rfl) rfl ?_
    refine PO.run 4 rfl ?_
    refine PO.same rfl (pickT_ok rfl rfl rfl) rfl ?_
    refine PO.run 5 rfl ?_
    refine PO.same rfl (pickT_ok rfl rfl rfl) rfl ?_
    refine PO.run 5 rfl ?_
    refine PO.same rfl (pickT_ok rfl rfl rfl) rfl ?_
    refine PO.run 9 rfl ?_
    refine PO.same rfl (pickT_ok rfl rfl rfl) rfl ?_
    refine PO.nil ?_
    exact⟨true,Weak.one [0] [] (by kernel_rfl),Option.some.inj e7⟩
   have e7:=bif_f h8 e7
   refine PO.run 2 rfl ?_
   refine PO.same rfl (pickF_ok rfl rfl rfl) rfl ?_
   refine PO.run 1 rfl ?_
   refine bindK e7 (λ x9 e10 e7=>?_)
   refine PO.cut 30 (λ s=>∃ (v3:Bool),Weak s (PS.of 65 [(0,.list 13 (List.map cGItem a0) none),(1,vI a1),(2,vI a2),(3,vI a3),(8,vP 0),(9,vI 0),(51,vB v3)] [⟨0,[vI 0,vI 0,vI 0,vI 0,vI 0,vI 0,vI 0,vI 0,vI 0,vB false,vB false,vB false,vI 0,vI 0]⟩] [] 0 0)/\v3=x9) ?_ ?_
   ·refine PO.case (t:=21) rfl rfl (λ h11=>?_) (λ h11=>?_)
    ·have e10:=bif_t h11 e10
     refine PO.run 2 rfl ?_
     refine PO.same rfl (pickT_ok rfl rfl rfl) rfl ?_
     refine PO.run 4 rfl ?_
     refine PO.same rfl (pickT_ok rfl rfl rfl) rfl ?_
     refine PO.run 5 rfl ?_
     refine PO.same rfl (pickT_ok rfl rfl rfl) rfl ?_
     refine PO.run 5 rfl ?_
     refine PO.same rfl (pickT_ok rfl rfl rfl) rfl ?_
     refine PO.run 9 rfl ?_
     refine PO.same rfl (pickT_ok rfl rfl rfl) rfl ?_
     refine PO.nil ?_
     exact⟨true,Weak.one [0] [] (by kernel_rfl),Option.some.inj e10⟩
    have e10:=bif_f h11 e10
    refine PO.run 2 rfl ?_
    refine PO.same rfl (pickF_ok rfl rfl rfl) rfl ?_
    refine PO.run 1 rfl ?_
    refine bindK e10 (λ x12 e13 e10=>?_)
    refine PO.cut 26 (λ s=>∃ (v4:Bool),Weak s (PS.of 65 [(0,.list 13 (List.map cGItem a0) none),(1,vI a1),(2,vI a2),(3,vI a3),(8,vP 0),(9,vI 0),(51,vB v4)] [⟨0,[vI 0,vI 0,vI 0,vI 0,vI 0,vI 0,vI 0,vI 0,vI 0,vB false,vB false,vB false,vI 0,vI 0]⟩] [] 0 0)/\v4=x12) ?_ ?_
    ·refine PO.case (t:=25) rfl rfl (λ h14=>?_) (λ h14=>?_)
     ·have e13:=bif_t h14 e13
      refine PO.run 3 rfl ?_
      refine PO.same rfl (pickT_ok rfl rfl rfl) rfl ?_
      refine PO.run 5 rfl ?_
      refine PO.same rfl (pickT_ok rfl rfl rfl) rfl ?_
      refine PO.run 5 rfl ?_
      refine PO.same rfl (pickT_ok rfl rfl rfl) rfl ?_
      refine PO.run 9 rfl ?_
      refine PO.same rfl (pickT_ok rfl rfl rfl) rfl ?_
      refine PO.nil ?_
      exact⟨true,Weak.one [0] [] (by kernel_rfl),Option.some.inj e13⟩
     have e13:=bif_f h14 e13
     refine PO.run 3 rfl ?_
     refine PO.same rfl (pickF_ok rfl rfl rfl) rfl ?_
     refine PO.run 1 rfl ?_
     refine bindK e13 (λ x15 e16 e13=>?_)
     refine PO.cut 21 (λ s=>∃ (v5:Bool),Weak s (PS.of 65 [(0,.list 13 (List.map cGItem a0) none),(1,vI a1),(2,vI a2),(3,vI a3),(8,vP 0),(9,vI 0),(51,vB v5)] [⟨0,[vI 0,vI 0,vI 0,vI 0,vI 0,vI 0,vI 0,vI 0,vI 0,vB false,vB false,vB false,vI 0,vI 0]⟩] [] 0 0)/\v5=x15) ?_ ?_
     ·refine PO.case (t:=30) rfl rfl (λ h17=>?_) (λ h17=>?_)
      ·have e16:=bif_t h17 e16
       refine PO.run 4 rfl ?_
       refine PO.same rfl (pickT_ok rfl rfl rfl) rfl ?_
       refine PO.run 5 rfl ?_
       refine PO.same rfl (pickT_ok rfl rfl rfl) rfl ?_
       refine PO.run 9 rfl ?_
       refine PO.same rfl (pickT_ok rfl rfl rfl) rfl ?_
       refine PO.nil ?_
       exact⟨true,Weak.one [0] [] (by kernel_rfl),Option.some.inj e16⟩
      have e16:=bif_f h17 e16
      refine PO.run 2 rfl ?_
      refine PO.same rfl (len_ok Try.underlying22 rfl (List.length_map _)) rfl ?_
      refine PO.run 1 rfl ?_
      refine PO.same rfl (pickF_ok rfl rfl rfl) rfl ?_
      refine PO.run 1 rfl ?_
      refine bindK e16 (λ x18 e19 e16=>?_)
      refine PO.cut 15 (λ s=>∃ (v6:Bool),Weak s (PS.of 65 [(0,.list 13 (List.map cGItem a0) none),(1,vI a1),(2,vI a2),(3,vI a3),(8,vP 0),(9,vI 0),(51,vB v6)] [⟨0,[vI 0,vI 0,vI 0,vI 0,vI 0,vI 0,vI 0,vI 0,vI 0,vB false,vB false,vB false,vI 0,vI 0]⟩] [] 0 0)/\v6=x18) ?_ ?_
      ·refine PO.case (t:=36) rfl rfl (λ h20=>?_) (λ h20=>?_)
       ·have e19:=bif_t h20 e19
        refine PO.run 4 rfl ?_
        refine PO.same rfl (pickT_ok rfl rfl rfl) rfl ?_
        refine PO.run 9 rfl ?_
        refine PO.same rfl (pickT_ok rfl rfl rfl) rfl ?_
        refine PO.nil ?_
        exact⟨true,Weak.one [0] [] (by kernel_rfl),Option.some.inj e19⟩
       have e19:=bif_f h20 e19
       refine PO.run 2 rfl ?_
       refine bindK e19 (λ r21 e22 e19=>?_)
       refine PO.call rfl rfl rfl rfl (ks:=[]) (ts:=[]) (fr1:=[]) rfl rfl rfl trivial (L71 k a0 a3 _ e22) ?_
       rintro _ _ _ ⟨rfl,rfl,rfl⟩
       refine⟨_,_,rfl,rfl,?_⟩
       refine PO.run 1 rfl ?_
       refine PO.same rfl (pickF_ok rfl rfl rfl) rfl ?_
       refine PO.run 1 rfl ?_
       refine bindK e19 (λ x23 e24 e19=>?_)
       refine PO.cut 9 (λ s=>∃ (v7:Bool),Weak s (PS.of 65 [(0,.list 13 (List.map cGItem a0) none),(1,vI a1),(2,vI a2),(3,vI a3),(8,vP 0),(9,vI 0),(51,vB v7)] [⟨0,[vI 0,vI 0,vI 0,vI 0,vI 0,vI 0,vI 0,vI 0,vI 0,vB false,vB false,vB false,vI 0,vI 0]⟩] [] 0 0)/\v7=x23) ?_ ?_
       ·refine PO.case (t:=42) rfl rfl (λ h25=>?_) (λ h25=>?_)
        ·have e24:=bif_t h25 e24
         refine PO.run 8 rfl ?_
         refine PO.same rfl (pickT_ok rfl rfl rfl) rfl ?_
         refine PO.nil ?_
         exact⟨true,Weak.one [0] [] (by kernel_rfl),Option.some.inj e24⟩
        have e24:=bif_f h25 e24
        refine PO.run 3 rfl ?_
        refine bindK e24 (λ x26 e27 e24=>?_)
        refine PO.cut 6 (λ s=>∃ (v8:Bool),Weak s (PS.of 65 [(0,.list 13 (List.map cGItem a0) none),(1,vI a1),(2,vI a2),(3,vI a3),(8,vP 0),(9,vI 0),(51,vB v8)] [⟨0,[vI 0,vI 0,vI 0,vI 0,vI 0,vI 0,vI 0,vI 0,vI 0,vB false,vB false,vB false,vI 0,vI 0]⟩] [] 0 0)/\v8=x26) ?_ ?_
        ·refine PO.case (t:=45) rfl rfl (λ h28=>?_) (λ h28=>?_)
         ·have e27:=bif_t h28 e27
          refine PO.run 2 rfl ?_
          refine bindK e27 (λ r29 e30 e27=>?_)
          refine PO.call rfl rfl rfl rfl (ks:=[]) (ts:=[]) (fr1:=[]) rfl rfl rfl trivial (L71 k a0 a2 _ e30) ?_
          rintro _ _ _ ⟨rfl,rfl,rfl⟩
          refine⟨_,_,rfl,rfl,?_⟩
          refine PO.run 1 rfl ?_
          refine PO.same rfl (pickT_ok rfl rfl rfl) rfl ?_
          refine PO.same rfl (pickF_ok rfl rfl rfl) rfl ?_
          refine PO.nil ?_
          exact⟨!r29,Weak.one [0] [] (by kernel_rfl),Option.some.inj e27⟩
         have e27:=bif_f h28 e27
         refine PO.run 4 rfl ?_
         refine PO.same rfl (pickF_ok rfl rfl rfl) rfl ?_
         refine PO.same rfl (pickF_ok rfl rfl rfl) rfl ?_
         refine PO.nil ?_
         exact⟨false,Weak.one [0] [] (by kernel_rfl),Option.some.inj e27⟩
        rintro _ ⟨v8,w31,rfl⟩
        refine PO.weak w31 ?_
        refine PO.nil ?_
        exact⟨v8,Weak.one [0] [] (by kernel_rfl),Option.some.inj e24⟩
       rintro _ ⟨v7,w32,rfl⟩
       refine PO.weak w32 ?_
       refine PO.nil ?_
       exact⟨v7,Weak.one [0] [] (by kernel_rfl),Option.some.inj e19⟩
      rintro _ ⟨v6,w33,rfl⟩
      refine PO.weak w33 ?_
      refine PO.nil ?_
      exact⟨v6,Weak.one [0] [] (by kernel_rfl),Option.some.inj e16⟩
     rintro _ ⟨v5,w34,rfl⟩
     refine PO.weak w34 ?_
     refine PO.nil ?_
     exact⟨v5,Weak.one [0] [] (by kernel_rfl),Option.some.inj e13⟩
    rintro _ ⟨v4,w35,rfl⟩
    refine PO.weak w35 ?_
    refine PO.nil ?_
    exact⟨v4,Weak.one [0] [] (by kernel_rfl),Option.some.inj e10⟩
   rintro _ ⟨v3,w36,rfl⟩
   refine PO.weak w36 ?_
   refine PO.nil ?_
   exact⟨v3,Weak.one [0] [] (by kernel_rfl),Option.some.inj e7⟩
  rintro _ ⟨v2,w37,rfl⟩
  refine PO.weak w37 ?_
  refine PO.nil ?_
  exact⟨v2,Weak.one [0] [] (by kernel_rfl),Option.some.inj e4⟩
 rintro _ ⟨v1,w38,rfl⟩
 refine PO.weak w38 ?_
 refine PO.nil ?_
 refine PC.cond rfl (λ h39=>?_) (λ h39=>?_)
 ·have hF:=bif_t h39 hF
  refine PC.assoc ?_
  refine PC.region ?_
  refine oK 3 [0] [] [(8,vP 0),(9,vI 1)] [⟨0,[vI 0,vI 0,vI 0,vI 0,vI 0,vI 0,vI 0,vI 0,vI 0,vB false,vB false,vB false,vI 0,vI 0]⟩] [] (by kernel_rfl) ?_
  refine PO.nil ?_
  have hq:=Option.some.inj hF
  subst hq
  exact PC.ret (retSK [] [] (by kernel_rfl) (.refl _) ⟨rfl,rfl,rfl⟩)
 have hF:=bif_f h39 hF
 refine PC.noop ?_
 refine PC.assoc ?_
 refine PC.region ?_
 refine PO.run 4 rfl ?_
 refine bindSK hF (λ h40 h41 h42 hF=>?_)
 generalize hgl9:(List.take (Int.toNat a3) a0).drop (Int.toNat (w (a2+1)))=l9 at hF
 refine PO.same rfl (slice_ok (l2:=List.map cGItem l9) Try.underlying22 rfl rfl (.some rfl h40 rfl) (.some rfl (Int.le_trans h40 h41) rfl) (Int.toNat_le_toNat h41) (toNat_le1 h42) (by rw[<- hgl9,List.map_drop,List.map_take] <;> first | rfl | simp[w])) rfl ?_
 refine bindK hF (λ r43 e44 hF=>?_)
 refine PO.call rfl rfl rfl rfl (ks:=[]) (ts:=[]) (fr1:=[]) rfl rfl rfl trivial (L74_75 k l9 _ e44) ?_
 rintro _ _ _ ⟨rfl,rfl,rfl⟩
 refine⟨_,_,rfl,rfl,?_⟩
 refine PO.nil ?_
 refine PC.cond rfl (λ h45=>?_) (λ h45=>?_)
 ·have hF:=bif_t h45 hF
  refine PC.assoc ?_
  refine PC.region ?_
  refine oK 3 [0] [] [(8,vP 0),(9,vI 1)] [⟨0,[vI 0,vI 0,vI 0,vI 0,vI 0,vI 0,vI 0,vI 0,vI 0,vB false,vB false,vB false,vI 0,vI 0]⟩] [] (by kernel_rfl) ?_
  refine PO.nil ?_
  have hq:=Option.some.inj hF
  subst hq
  exact PC.ret (retSK [] [] (by kernel_rfl) (.refl _) ⟨rfl,rfl,rfl⟩)
 have hF:=bif_f h45 hF
 refine PC.noop ?_
 refine PC.region ?_
 refine PO.run 4 rfl ?_
 refine bindK hF (λ r46 e47 hF=>?_)
 refine PO.call rfl rfl rfl rfl (ks:=[]) (ts:=[]) (fr1:=[]) rfl rfl rfl trivial (L51 k a0 a1 a2 a3 _ e47) ?_
 rintro _ _ _ ⟨rfl,rfl,rfl⟩
 refine⟨_,_,rfl,rfl,?_⟩
 refine oK 2 [0] [] [(8,vP 0),(9,vI 0)] [⟨0,(cGLine r46)⟩] [] (by kernel_rfl) ?_
 refine PO.nil ?_
 have hq:=Option.some.inj hF
 subst hq
 exact PC.ret' (retSK [] [] (by kernel_rfl) (.refl _) ⟨rfl,rfl,rfl⟩)
def F77 (k:Nat) (a0:Int) (a1:Int) (a2:Int):Option Int:=
some (if (if a2 < a0 then a2 else a0) > a1 then(if a2 < a0 then a2 else a0) else a1)
theorem L77 (k:Nat) (a0:Int) (a1:Int) (a2:Int) (r:Int) (hF:F77 k a0 a1 a2=some r):PF Try.prog orc 77 [vI a0,vI a1,vI a2] [] [] (λ p fr tk=>p=vI r/\fr=[]/\tk=[]):=by
 unfold F77 at hF
 refine PF.enterS Try.func77 rfl rfl rfl (by kernel_rfl) rfl ?_
 refine PC.run (n:=2) rfl ?_
 refine PC.run (n:=7) rfl ?_
 have hq:=Option.some.inj hF
 subst hq
 exact PC.ret' (retSK [] [] (by kernel_rfl) (.refl _) ⟨rfl,rfl,rfl⟩)
def F52 (k:Nat) (a0:List GItem) (a1:GLine) (a2:GLine):Option Int:=
(F77 k a2.bad 0 10000).bind λ r1=>
Option.bind (α:=Bool) (bif decide (a2.break_>=0) then(Option.bind (α:=Bool) (bif decide (a2.break_ < (a0.length:Int)) then(bindI a0 a2.break_ λ y3=>
some (y3.kind == 4)) else(some false)) λ(v2:Bool)=>
some v2) else(some false)) λ(v1:Bool)=>
Option.bind (α:=Int) (bif v1 then(bindI a0 a2.break_ λ y5=>
Option.bind (α:=Int) (bif decide (y5.value>=0) then(some (w ((w ((w (10+r1)) * (w (10+r1))))+(w ((if 10000 < y5.value then 10000 else y5.value) * (if 10000 < y5.value then 10000 else y5.value)))))) else(bif decide (y5.value > (-10000)) then(some (w ((w ((w (10+r1)) * (w (10+r1)))) - (w (y5.value * y5.value))))) else(some (w ((w (10+r1)) * (w (10+r1))))))) λ(v6:Int)=>
some v6) else(some (w ((w (10+r1)) * (w (10+r1)))))) λ(v4:Int)=>
Option.bind (α:=Int×Int) (bif decide (a1.first>=0) then((F77 k a1.class_ 0 3).bind λ r27=>
Option.bind (α:=Bool) (bif a1.hyphen then(some a2.hyphen) else(some false)) λ(v9:Bool)=>
bif v9 then(some (w (v4+3000),r27)) else(some (v4,r27))) else(some (v4,1))) λ(v7,v8)=>
(F77 k a2.class_ 0 3).bind λ r35=>
Option.bind (α:=Bool) (bif decide ((w (v8 - r35)) > 1) then(some true) else(some (decide ((w (v8 - r35)) < (-1))))) λ(v10:Bool)=>
Option.bind (α:=Int) (bif v10 then(some (w (v7+3000))) else(some v7)) λ(v11:Int)=>
some v11
theorem L52 (k:Nat) (a0:List GItem) (a1:GLine) (a2:GLine) (r:Int) (hF:F52 k a0 a1 a2=some r):PF Try.prog orc 52 [.list 13 (List.map cGItem a0) none,.agg (cGLine a1),.agg (cGLine a2)] [] [] (λ p fr tk=>p=vI r/\fr=[]/\tk=[]):=by
 unfold F52 at hF
 refine PF.enterS Try.func52 rfl rfl rfl (by kernel_rfl) rfl ?_
 refine PC.region ?_
 refine oK 3 [0,1] [] [(0,.list 13 (List.map cGItem a0) none),(4,vP 0),(5,vP 1),(6,vI 0)] [⟨0,(cGLine a1)⟩,⟨0,(cGLine a2)⟩] [] (by kernel_rfl) ?_
 refine PO.nil ?_
 refine PC.region ?_
 refine PO.run 2 rfl ?_
 refine bindK hF (λ r1 e2 hF=>?_)
 refine PO.call rfl rfl rfl rfl (ks:=[]) (ts:=[]) (fr1:=[]) rfl rfl rfl trivial (L77 k a2.bad 0 10000 _ e2) ?_
 rintro _ _ _ ⟨rfl,rfl,rfl⟩
 refine⟨_,_,rfl,rfl,?_⟩
 refine PO.run 2 rfl ?_
 refine PO.nil ?_
 refine PC.run (n:=5) rfl ?_
 refine PC.assoc ?_
 refine PC.run (n:=4) rfl ?_
 refine PC.assoc ?_
 refine PC.region ?_
 refine PO.run 3 rfl ?_
 refine bindK hF (λ x3 e4 hF=>?_)
 refine PO.cut 13 (λ s=>∃ (v1:Bool),Weak s (PS.of 89 [(0,.list 13 (List.map cGItem a0) none),(4,vP 0),(5,vP 1),(6,vI 0),(8,vI (w ((w (10+r1)) * (w (10+r1))))),(9,vI a2.break_),(37,vB v1)] [⟨0,(cGLine a1)⟩,⟨0,(cGLine a2)⟩] [] 0 0)/\v1=x3) ?_ ?_
 ·refine PO.case (t:=24) rfl rfl (λ h5=>?_) (λ h5=>?_)
  ·have e4:=bif_t h5 e4
   refine PO.run 2 rfl ?_
   refine PO.same rfl (len_ok Try.underlying22 rfl (List.length_map _)) rfl ?_
   refine PO.run 1 rfl ?_
   refine PO.same rfl (pickT_ok rfl rfl rfl) rfl ?_
   refine PO.run 1 rfl ?_
   refine bindK e4 (λ x6 e7 e4=>?_)
   refine PO.cut 7 (λ s=>∃ (v2:Bool),Weak s (PS.of 89 [(0,.list 13 (List.map cGItem a0) none),(4,vP 0),(5,vP 1),(6,vI 0),(8,vI (w ((w (10+r1)) * (w (10+r1))))),(9,vI a2.break_),(37,vB v2)] [⟨0,(cGLine a1)⟩,⟨0,(cGLine a2)⟩] [] 0 0)/\v2=x6) ?_ ?_
   ·refine PO.case (t:=30) rfl rfl (λ h8=>?_) (λ h8=>?_)
    ·have e7:=bif_t h8 e7
     refine PO.run 2 rfl ?_
     refine bindIK e7 (λ y3 h9 h10 e7=>?_)
     refine PO.same rfl (indexAddr_ok Try.underlying22 rfl rfl rfl h9 (map_at h10)) rfl ?_
     refine PO.run 3 rfl ?_
     refine PO.same rfl (pickT_ok rfl rfl rfl) rfl ?_
     refine PO.nil ?_
     exact⟨y3.kind == 4,Weak.one [0,1] [] (by kernel_rfl),Option.some.inj e7⟩
    have e7:=bif_f h8 e7
    refine PO.run 6 rfl ?_
    refine PO.same rfl (pickF_ok rfl rfl rfl) rfl ?_
    refine PO.nil ?_
    exact⟨false,Weak.one [0,1] [] (by kernel_rfl),Option.some.inj e7⟩
   rintro _ ⟨v2,w11,rfl⟩
   refine PO.weak w11 ?_
   refine PO.nil ?_
   exact⟨v2,Weak.one [0,1] [] (by kernel_rfl),Option.some.inj e4⟩
  have e4:=bif_f h5 e4
  refine PO.run 4 rfl ?_
  refine PO.same rfl (pickF_ok rfl rfl rfl) rfl ?_
  refine PO.run 7 rfl ?_
  refine PO.same rfl (pickF_ok rfl rfl rfl) rfl ?_
  refine PO.nil ?_
  exact⟨false,Weak.one [0,1] [] (by kernel_rfl),Option.some.inj e4⟩
 rintro _ ⟨v1,w12,rfl⟩
 refine PO.weak w12 ?_
 refine PO.nil ?_
 refine bindK hF (λ x13 e14 hF=>?_)
 refine PC.join (λ s=>∃ (v4:Int),Weak s (PS.of 89 [(4,vP 0),(5,vP 1),(6,vI 0),(8,vI v4)] [⟨0,(cGLine a1)⟩,⟨0,(cGLine a2)⟩] [] 0 0)/\v4=x13) ?_ ?_
 ·refine PC.cond rfl (λ h15=>?_) (λ h15=>?_)
  ·have e14:=bif_t h15 e14
   refine PC.assoc ?_
   refine PC.region ?_
   refine PO.run 2 rfl ?_
   refine bindIK e14 (λ y5 h16 h17 e14=>?_)
   refine PO.same rfl (indexAddr_ok Try.underlying22 rfl rfl rfl h16 (map_at h17)) rfl ?_
   refine PO.run 3 rfl ?_
   refine PO.nil ?_
   refine bindK e14 (λ x18 e19 e14=>?_)
   refine PC.blockJ (λ s=>∃ (v6:Int),Weak s (PS.of 89 [(4,vP 0),(5,vP 1),(6,vI 0),(8,vI v6)] [⟨0,(cGLine a1)⟩,⟨0,(cGLine a2)⟩] [] 0 0)/\v6=x18) ?_ ?_
   ·refine PC.run (n:=4) rfl ?_
    refine PC.lone ?_
    refine PC.cond rfl (λ h20=>?_) (λ h20=>?_)
    ·have e19:=bif_t h20 e19
     refine PC.assoc ?_
     refine PC.run (n:=4) rfl ?_
     refine PC.run (n:=7) rfl ?_
     exact PC.skip (blockJK.end ⟨w ((w ((w (10+r1)) * (w (10+r1))))+(w ((if 10000 < y5.value then 10000 else y5.value) * (if 10000 < y5.value then 10000 else y5.value)))),Weak.one [0,1] [] (by kernel_rfl),Option.some.inj e19⟩)
    have e19:=bif_f h20 e19
    refine PC.assoc ?_
    refine PC.run (n:=4) rfl ?_
    refine PC.cond rfl (λ h21=>?_) (λ h21=>?_)
    ·have e19:=bif_t h21 e19
     refine PC.run (n:=7) rfl ?_
     exact PC.skip (blockJK.end ⟨w ((w ((w (10+r1)) * (w (10+r1)))) - (w (y5.value * y5.value))),Weak.one [0,1] [] (by kernel_rfl),Option.some.inj e19⟩)
    have e19:=bif_f h21 e19
    refine PC.noop ?_
    exact PC.skip (blockJK.end ⟨w ((w (10+r1)) * (w (10+r1))),Weak.one [0,1] [] (by kernel_rfl),Option.some.inj e19⟩)
   rintro _ ⟨v6,w22,rfl⟩
   refine PC.weak w22 ?_
   exact PC.skip (joinKP.end ⟨v6,Weak.one [0,1] [] (by kernel_rfl),Option.some.inj e14⟩)
  have e14:=bif_f h15 e14
  refine PC.noop ?_
  exact PC.skip (joinKP.end ⟨w ((w (10+r1)) * (w (10+r1))),Weak.one [0,1] [] (by kernel_rfl),Option.some.inj e14⟩)
 rintro _ ⟨v4,w23,rfl⟩
 refine PC.weak w23 ?_
 refine PC.run (n:=2) rfl ?_
 refine PC.assoc ?_
 refine PC.run (n:=4) rfl ?_
 refine bindK hF (λ x24 e25 hF=>?_)
 refine PC.join (λ s=>∃ (v7:Int) (v8:Int),Weak s (PS.of 89 [(5,vP 0),(6,vI 0),(8,vI v7),(11,vI v8)] [⟨0,(cGLine a2)⟩] [] 0 0)/\(v7,v8)=x24) ?_ ?_
 ·refine PC.cond rfl (λ h26=>?_) (λ h26=>?_)
  ·have e25:=bif_t h26 e25
   refine PC.assoc ?_
   refine PC.region ?_
   refine PO.run 2 rfl ?_
   refine bindK e25 (λ r27 e28 e25=>?_)
   refine PO.call rfl rfl rfl rfl (ks:=[]) (ts:=[]) (fr1:=[]) rfl rfl rfl trivial (L77 k a1.class_ 0 3 _ e28) ?_
   rintro _ _ _ ⟨rfl,rfl,rfl⟩
   refine⟨_,_,rfl,rfl,?_⟩
   refine PO.run 1 rfl ?_
   refine PO.nil ?_
   refine PC.assoc ?_
   refine PC.region ?_
   refine PO.run 3 rfl ?_
   refine bindK e25 (λ x29 e30 e25=>?_)
   refine PO.cut 3 (λ s=>∃ (v9:Bool),Weak s (PS.of 89 [(5,vP 0),(6,vI 0),(8,vI v4),(11,vI r27),(72,vB v9)] [⟨0,(cGLine a2)⟩] [] 0 0)/\v9=x29) ?_ ?_
   ·refine PO.case (t:=69) rfl rfl (λ h31=>?_) (λ h31=>?_)
    ·have e30:=bif_t h31 e30
     refine PO.run 2 rfl ?_
     refine PO.same rfl (pickT_ok rfl rfl rfl) rfl ?_
     refine PO.nil ?_
     exact⟨a2.hyphen,Weak.one [1] [] (by kernel_rfl),Option.some.inj e30⟩
    have e30:=bif_f h31 e30
    refine PO.run 2 rfl ?_
    refine PO.same rfl (pickF_ok rfl rfl rfl) rfl ?_
    refine PO.nil ?_
    exact⟨false,Weak.one [1] [] (by kernel_rfl),Option.some.inj e30⟩
   rintro _ ⟨v9,w32,rfl⟩
   refine PO.weak w32 ?_
   refine PO.nil ?_
   refine PC.cond rfl (λ h33=>?_) (λ h33=>?_)
   ·have e25:=bif_t h33 e25
    refine PC.run (n:=4) rfl ?_
    exact PC.skip (joinKP.end ⟨w (v4+3000),r27,Weak.one [0] [] (by kernel_rfl),Option.some.inj e25⟩)
   have e25:=bif_f h33 e25
   refine PC.noop ?_
   exact PC.skip (joinKP.end ⟨v4,r27,Weak.one [0] [] (by kernel_rfl),Option.some.inj e25⟩)
  have e25:=bif_f h26 e25
  refine PC.noop ?_
  exact PC.skip (joinKP.end ⟨v4,1,Weak.one [1] [] (by kernel_rfl),Option.some.inj e25⟩)
 rintro _ ⟨v7,v8,w34,rfl⟩
 refine PC.weak w34 ?_
 refine PC.assoc ?_
 refine PC.region ?_
 refine PO.run 3 rfl ?_
 refine bindK hF (λ r35 e36 hF=>?_)
 refine PO.call rfl rfl rfl rfl (ks:=[]) (ts:=[]) (fr1:=[]) rfl rfl rfl trivial (L77 k a2.class_ 0 3 _ e36) ?_
 rintro _ _ _ ⟨rfl,rfl,rfl⟩
 refine⟨_,_,rfl,rfl,?_⟩
 refine PO.run 2 rfl ?_
 refine PO.nil ?_
 refine PC.assoc ?_
 refine PC.region ?_
 refine PO.run 3 rfl ?_
 refine bindK hF (λ x37 e38 hF=>?_)
 refine PO.cut 3 (λ s=>∃ (v10:Bool),Weak s (PS.of 89 [(6,vI 0),(8,vI v7),(85,vB v10)] [] [] 0 0)/\v10=x37) ?_ ?_
 ·refine PO.case (t:=82) rfl rfl (λ h39=>?_) (λ h39=>?_)
  ·have e38:=bif_t h39 e38
   refine PO.run 2 rfl ?_
   refine PO.same rfl (pickT_ok rfl rfl rfl) rfl ?_
   refine PO.nil ?_
   exact⟨true,Weak.one [] [] (by kernel_rfl),Option.some.inj e38⟩
  have e38:=bif_f h39 e38
  refine PO.run 2 rfl ?_
  refine PO.same rfl (pickF_ok rfl rfl rfl) rfl ?_
  refine PO.nil ?_
  exact⟨decide ((w (v8 - r35)) < (-1)),Weak.one [] [] (by kernel_rfl),Option.some.inj e38⟩
 rintro _ ⟨v10,w40,rfl⟩
 refine PO.weak w40 ?_
 refine PO.nil ?_
 refine bindK hF (λ x41 e42 hF=>?_)
 refine PC.join (λ s=>∃ (v11:Int),Weak s (PS.of 89 [(6,vI 0),(8,vI v11)] [] [] 0 0)/\v11=x41) ?_ ?_
 ·refine PC.cond rfl (λ h43=>?_) (λ h43=>?_)
  ·have e42:=bif_t h43 e42
   refine PC.run (n:=4) rfl ?_
   exact PC.skip (joinKP.end ⟨w (v7+3000),Weak.one [] [] (by kernel_rfl),Option.some.inj e42⟩)
  have e42:=bif_f h43 e42
  refine PC.noop ?_
  exact PC.skip (joinKP.end ⟨v7,Weak.one [] [] (by kernel_rfl),Option.some.inj e42⟩)
 rintro _ ⟨v11,w44,rfl⟩
 refine PC.weak w44 ?_
 refine PC.run (n:=3) rfl ?_
 have hq:=Option.some.inj hF
 subst hq
 exact PC.ret' (retSK [] [] (by kernel_rfl) (.refl _) ⟨rfl,rfl,rfl⟩)
def F92 (k:Nat) (a0:Int):Option Bool:=
some (a0 != a0)
theorem L92 (k:Nat) (a0:Int) (r:Bool) (hF:F92 k a0=some r):PF Try.prog orc 92 [vI a0] [] [] (λ p fr tk=>p=vB r/\fr=[]/\tk=[]):=by
 unfold F92 at hF
 refine PF.enterS Try.func92 rfl rfl rfl (by kernel_rfl) rfl ?_
 refine PC.run (n:=2) rfl ?_
 refine PC.run (n:=5) rfl ?_
 have hq:=Option.some.inj hF
 subst hq
 exact PC.ret' (retSK [] [] (by kernel_rfl) (.refl _) ⟨rfl,rfl,rfl⟩)
def F81 (k:Nat) (a0:Int) (a1:Int):Option Int:=
(F92 k a0).bind λ r1=>
(F92 k a1).bind λ r3=>
bif r1 then(bif r3 then(some 0) else(some (-1))) else(bif r3 then(some 1) else(bif decide (a0 < a1) then(some (-1)) else(bif decide (a0 > a1) then(some 1) else(some 0))))
theorem L81 (k:Nat) (a0:Int) (a1:Int) (r:Int) (hF:F81 k a0 a1=some r):PF Try.prog orc 81 [vI a0,vI a1] [] [] (λ p fr tk=>p=vI r/\fr=[]/\tk=[]):=by
 unfold F81 at hF
 refine PF.enterS Try.func81 rfl rfl rfl (by kernel_rfl) rfl ?_
 refine PC.run (n:=2) rfl ?_
 refine PC.region ?_
 refine PO.run 1 rfl ?_
 refine bindK hF (λ r1 e2 hF=>?_)
 refine PO.call rfl rfl rfl rfl (ks:=[]) (ts:=[]) (fr1:=[]) rfl rfl rfl trivial (L92 k a0 _ e2) ?_
 rintro _ _ _ ⟨rfl,rfl,rfl⟩
 refine⟨_,_,rfl,rfl,?_⟩
 refine PO.run 1 rfl ?_
 refine PO.nil ?_
 refine PC.region ?_
 refine PO.run 1 rfl ?_
 refine bindK hF (λ r3 e4 hF=>?_)
 refine PO.call rfl rfl rfl rfl (ks:=[]) (ts:=[]) (fr1:=[]) rfl rfl rfl trivial (L92 k a1 _ e4) ?_
 rintro _ _ _ ⟨rfl,rfl,rfl⟩
 refine⟨_,_,rfl,rfl,?_⟩
 refine PO.run 1 rfl ?_
 refine PO.nil ?_
 refine PC.assoc ?_
 refine PC.run (n:=2) rfl ?_
 refine PC.cond rfl (λ h5=>?_) (λ h5=>?_)
 ·have hF:=bif_t h5 hF
  refine PC.assoc ?_
  refine PC.assoc ?_
  refine PC.run (n:=2) rfl ?_
  refine PC.cond rfl (λ h6=>?_) (λ h6=>?_)
  ·have hF:=bif_t h6 hF
   refine PC.assoc ?_
   refine PC.run (n:=2) rfl ?_
   have hq:=Option.some.inj hF
   subst hq
   exact PC.ret (retSK [] [] (by kernel_rfl) (.refl _) ⟨rfl,rfl,rfl⟩)
  have hF:=bif_f h6 hF
  refine PC.noop ?_
  refine PC.assoc ?_
  refine PC.run (n:=2) rfl ?_
  have hq:=Option.some.inj hF
  subst hq
  exact PC.ret (retSK [] [] (by kernel_rfl) (.refl _) ⟨rfl,rfl,rfl⟩)
 have hF:=bif_f h5 hF
 refine PC.noop ?_
 refine PC.assoc ?_
 refine PC.run (n:=2) rfl ?_
 refine PC.cond rfl (λ h7=>?_) (λ h7=>?_)
 ·have hF:=bif_t h7 hF
  refine PC.assoc ?_
  refine PC.run (n:=2) rfl ?_
  have hq:=Option.some.inj hF
  subst hq
  exact PC.ret (retSK [] [] (by kernel_rfl) (.refl _) ⟨rfl,rfl,rfl⟩)
 have hF:=bif_f h7 hF
 refine PC.noop ?_
 refine PC.assoc ?_
 refine PC.run (n:=4) rfl ?_
 refine PC.cond rfl (λ h8=>?_) (λ h8=>?_)
 ·have hF:=bif_t h8 hF
  refine PC.assoc ?_
  refine PC.run (n:=2) rfl ?_
  have hq:=Option.some.inj hF
  subst hq
  exact PC.ret (retSK [] [] (by kernel_rfl) (.refl _) ⟨rfl,rfl,rfl⟩)
 have hF:=bif_f h8 hF
 refine PC.noop ?_
 refine PC.assoc ?_
 refine PC.run (n:=4) rfl ?_
 refine PC.cond rfl (λ h9=>?_) (λ h9=>?_)
 ·have hF:=bif_t h9 hF
  refine PC.assoc ?_
  refine PC.run (n:=2) rfl ?_
  have hq:=Option.some.inj hF
  subst hq
  exact PC.ret (retSK [] [] (by kernel_rfl) (.refl _) ⟨rfl,rfl,rfl⟩)
 have hF:=bif_f h9 hF
 refine PC.noop ?_
 refine PC.run (n:=2) rfl ?_
 have hq:=Option.some.inj hF
 subst hq
 exact PC.ret' (retSK [] [] (by kernel_rfl) (.refl _) ⟨rfl,rfl,rfl⟩)
def F80_l1 (k:Nat) (a0:List Int):Nat->Int->Option ((Unit) ⊕ (Int))
  | 0,_=>none
  | j3+1,v2=>
    bif decide (v2 < (a0.length:Int)) then(bindI a0 v2 λ y4=>
    bif y4 != 0 then(some (.inr y4)) else(F80_l1 k a0 j3 (w (v2+1)))) else(some (.inl ()))
def F80 (k:Nat) (a0:List Int):Option Int:=
Option.bind (α:=(Unit) ⊕ (Int)) (F80_l1 k a0 k 0) (Sum.elim (λ(_:Unit)=>
some 0) some)
theorem L80 (k:Nat) (a0:List Int) (r:Int) (hF:F80 k a0=some r):PF Try.prog orc 80 [.list 1 (List.map cI_i64 a0) none] [] [] (λ p fr tk=>p=vI r/\fr=[]/\tk=[]):=by
 unfold F80 at hF
 refine PF.enterS Try.func80 rfl rfl rfl (by kernel_rfl) rfl ?_
 refine PC.run (n:=2) rfl ?_
 refine PC.run (n:=2) rfl ?_
 refine PC.assoc ?_
 refine PC.region ?_
 refine PO.run 1 rfl ?_
 refine PO.same rfl (len_ok Try.underlying34 rfl (List.length_map _)) rfl ?_
 refine PO.run 1 rfl ?_
 refine PO.nil ?_
 refine bindK hF (λ x1 e2 hF=>?_)
 refine PC.blockJ (λ s=>Weak s (PS.of 18 [(2,vI 0),(3,vI 0)] [] [] 0 0)/\.inl ()=x1) ?_ ?_
 ·refine PC.loop (λ j3 s=>∃ (v2:Int),Weak s (PS.of 18 [(2,vI 0),(3,vI 0),(6,.list 1 (List.map cI_i64 a0) none),(7,vI (a0.length:Int)),(8,vI v2)] [] [] 0 0)/\F80_l1 k a0 j3 v2=some x1) (λ j3 s=>?_) k ⟨0,Weak.one [] [] (by kernel_rfl),e2⟩
  rintro⟨v2,w4,e2⟩
  refine PC.weak w4 ?_
  obtain _ | j3:=j3
  · rw[F80_l1] at e2; cases e2
  rw[F80_l1] at e2
  refine PC.run (n:=2) rfl ?_
  refine PC.cond rfl (λ h5=>?_) (λ h5=>?_)
  ·have e2:=bif_t h5 e2
   refine PC.noop ?_
   refine PC.block ?_
   refine PC.region ?_
   refine bindIK e2 (λ y4 h6 h7 e2=>?_)
   refine PO.same rfl (indexAddr_ok Try.underlying34 rfl rfl rfl h6 (map_at h7)) rfl ?_
   refine PO.run 2 rfl ?_
   refine PO.nil ?_
   refine PC.run (n:=4) rfl ?_
   refine PC.lone ?_
   refine PC.cond rfl (λ h8=>?_) (λ h8=>?_)
   ·have e2:=bif_t h8 e2
    refine PC.assoc ?_
    refine PC.run (n:=3) rfl ?_
    have hq:=Option.some.inj e2
    subst hq
    have hq:=Option.some.inj hF
    subst hq
    exact PC.ret (blockKP.back (loopKP.ret (blockJK.back (retSK [] [] (by kernel_rfl) (.refl _) ⟨rfl,rfl,rfl⟩))))
   have e2:=bif_f h8 e2
   refine PC.noop ?_
   refine PC.skip (blockKP.end ?_)
   refine PC.lone ?_
   refine PC.run (n:=3) rfl ?_
   exact PC.skip (loopKP.mk (Nat.lt_succ_self _) ⟨w (v2+1),Weak.one [] [] (by kernel_rfl),e2⟩)
  have e2:=bif_f h5 e2
  exact PC.exit (loopKP.exit (blockJK.here ⟨Weak.one [] [] (by kernel_rfl),Option.some.inj e2⟩))
 rintro _ ⟨w9,rfl⟩
 refine PC.weak w9 ?_
 have hF:=elim_l hF
 refine PC.run (n:=3) rfl ?_
 have hq:=Option.some.inj hF
 subst hq
 exact PC.ret' (retSK [] [] (by kernel_rfl) (.refl _) ⟨rfl,rfl,rfl⟩)
def F61 (k:Nat) (a0:GCost) (a1:GCost):Option Int:=
bif (a0.bad == a1.bad && (a0.total == a1.total && (a0.lines == a1.lines && true))) then(some 0) else((F81 k a0.bad a1.bad).bind λ r2=>
(F81 k a0.total a1.total).bind λ r4=>
(F81 k a0.lines a1.lines).bind λ r6=>
(F80 k ([r2,r4,r6])).bind λ r8=>
some r8)
theorem L61 (k:Nat) (a0:GCost) (a1:GCost) (r:Int) (hF:F61 k a0 a1=some r):PF Try.prog orc 61 [.agg (cGCost a0),.agg (cGCost a1)] [] [] (λ p fr tk=>p=vI r/\fr=[]/\tk=[]):=by
 unfold F61 at hF
 refine PF.enterS Try.func61 rfl rfl rfl (by kernel_rfl) rfl ?_
 refine PC.region ?_
 refine oK 3 [0,1] [] [(2,vP 0),(3,vP 1),(4,vI 0)] [⟨0,(cGCost a0)⟩,⟨0,(cGCost a1)⟩] [] (by kernel_rfl) ?_
 refine PO.nil ?_
 refine PC.assoc ?_
 refine PC.region ?_
 refine PO.run 2 rfl ?_
 refine PO.same rfl (aggEq_ok (v:=.bool (a0.bad == a1.bad && (a0.total == a1.total && (a0.lines == a1.lines && true)))) rfl rfl rfl rfl rfl rfl rfl (by kernel_rfl)) rfl ?_
 refine PO.nil ?_
 refine PC.cond rfl (λ h1=>?_) (λ h1=>?_)
 ·have hF:=bif_t h1 hF
  refine PC.assoc ?_
  refine PC.run (n:=2) rfl ?_
  have hq:=Option.some.inj hF
  subst hq
  exact PC.ret (retSK [] [] (by kernel_rfl) (.refl _) ⟨rfl,rfl,rfl⟩)
 have hF:=bif_f h1 hF
 refine PC.noop ?_
 refine PC.draw [0,1,2,3,4,5,6,7,8,9,10,11,12,13,14,15,16,17] (by kernel_rfl) ?_
 refine oD 4 [4,5,6,7,8,9,10,11,12,13,14,15,16,17] ⟨15,0,0,[]⟩ [(2,vP 0),(3,vP 1),(4,vI 0),(9,vI a0.bad),(11,vI a1.bad)] [⟨0,(cGCost a0)⟩,⟨0,(cGCost a1)⟩] [] (by kernel_rfl) ?_
 refine bindK hF (λ r2 e3 hF=>?_)
 refine PD.call rfl rfl (by kernel_rfl) rfl rfl rfl (ks:=[]) (ts:=[]) (fr1:=[]) rfl rfl rfl trivial (L81 k a0.bad a1.bad _ e3) ?_
 rintro _ _ _ ⟨rfl,rfl,rfl⟩
 refine⟨_,_,rfl,rfl,?_⟩
 refine oD 4 [9,10,11,12,13,14,15,16,17] ⟨511,31,15,[(4,[],true)]⟩ [(2,vP 0),(3,vP 1),(4,vI 0),(12,vI r2),(14,vI a0.total),(16,vI a1.total)] [⟨0,(cGCost a0)⟩,⟨0,(cGCost a1)⟩] [] (by kernel_rfl) ?_
 refine bindK hF (λ r4 e5 hF=>?_)
 refine PD.call rfl rfl (by kernel_rfl) rfl rfl rfl (ks:=[]) (ts:=[]) (fr1:=[]) rfl rfl rfl trivial (L81 k a0.total a1.total _ e5) ?_
 rintro _ _ _ ⟨rfl,rfl,rfl⟩
 refine⟨_,_,rfl,rfl,?_⟩
 refine oD 4 [14,15,16,17] ⟨16383,1023,511,[(9,[],true),(4,[],true)]⟩ [(4,vI 0),(12,vI r2),(17,vI r4),(19,vI a0.lines),(21,vI a1.lines)] [⟨0,(cGCost a0)⟩,⟨0,(cGCost a1)⟩] [] (by kernel_rfl) ?_
 refine bindK hF (λ r6 e7 hF=>?_)
 refine PD.call rfl rfl (by kernel_rfl) rfl rfl rfl (ks:=[]) (ts:=[]) (fr1:=[]) rfl rfl rfl trivial (L81 k a0.lines a1.lines _ e7) ?_
 rintro _ _ _ ⟨rfl,rfl,rfl⟩
 refine⟨_,_,rfl,rfl,?_⟩
 refine oD 1 [16,17] ⟨65535,32767,16383,[(14,[],true),(9,[],true),(4,[],true)]⟩ [(4,vI 0),(23,.list 1 (List.map cI_i64 ([r2,r4,r6])) none)] [⟨0,(cGCost a0)⟩,⟨0,(cGCost a1)⟩] [] (by kernel_rfl) ?_
 refine bindK hF (λ r8 e9 hF=>?_)
 refine PD.call rfl rfl (by kernel_rfl) rfl rfl rfl (ks:=[]) (ts:=[]) (fr1:=[]) rfl rfl rfl trivial (L80 k ([r2,r4,r6]) _ e9) ?_
 rintro _ _ _ ⟨rfl,rfl,rfl⟩
 refine⟨_,_,rfl,rfl,?_⟩
 refine oD 1 [] ⟨262143,131071,65535,[(16,[],true),(14,[],true),(9,[],true),(4,[],true)]⟩ [(4,vI r8)] [⟨0,(cGCost a0)⟩,⟨0,(cGCost a1)⟩] [] (by kernel_rfl) ?_
 refine PD.done [] [] (es:=[(4,vI r8)]) (fr':=[]) (tk':=[]) (by kernel_rfl) (by kernel_rfl) ?_
 have hq:=Option.some.inj hF
 subst hq
 exact PC.ret' (retSK [] [] (by kernel_rfl) (.refl _) ⟨rfl,rfl,rfl⟩)
end
end Go.Eng.Lift
