/- aB7 -/
import Derived.Test.YtdehaeillolhbaaG2
import Derived.Test.YtdehaeillolhbaaG6
import Derived.Test.YtdehaeillolhbaaT4s
import Derived.SizedLaws
set_option linter.unusedVariables false
set_option linter.unusedSimpArgs false
namespace Go.cy.jV
open Go.Proofs Go.cy.Br
theorem Qy {n:Nat} {x:ZJ} (h:T3.TD (Lu Try.prog n x AH.empty)=some true):∃ n H',A5 Try.prog n x AH.empty=.ok (.val (.bool true),H'):=by
 rw[IA] at h;unfold T3.TD at h;split at h
 ·rename_i b H' e;cases h;exact⟨n,H',e⟩
 ·cases h
theorem told:I4 Try.prog fK:=by
 refine⟨λ f v hf=>?_,λ f hf=>by cases hf⟩;have h:f=7/\v=.bool true:=by
  simp only[fK] at hf;cases hb:Nat.beq f 7 with
  | false=>rw[hb] at hf; cases hf
  | true=>
   rw[hb] at hf;cases hf;exact⟨Nat.eq_of_beq_eq_true hb,rfl⟩
 obtain⟨rfl,rfl⟩:=h;exact⟨rfl,Qy T3.Uf⟩
def I64 (n:Int):Prop:=-9223372036854775808<=n/\n<=9223372036854775807
theorem Ug {n:Int} (h:(Lit.int .i64 n).wf=true):I64 n:=by
 have h':(decide (-9223372036854775808<=n) && decide (n<=9223372036854775807))=true:=h;rw[Bool.and_eq_true] at h';exact⟨of_decide_eq_true h'.1,of_decide_eq_true h'.2⟩
theorem aed {t:TypeId} (ht:Try.prog.underlying t=some (.int .i64)):xk Try.prog t (λ n:Int=>[.val (.int .i64 n)]) I64:=
 (xk.int ht).map id (λ _=>rfl) λ _ h=>Ug h
theorem d3:xk Try.prog 3 (λ n:Int=>[.val (.int .i64 n)]) I64:=aed Try.underlying3
theorem d4:xk Try.prog 4 (λ b:Bool=>[.val (.bool b)]) (λ _=>True):=xk.bool Try.underlying4
theorem d9:xk Try.prog 9 (λ s:ByteArray=>[.val (.string s)]) (λ s=>s.size<=maxLen):=xk.str Try.underlying9
theorem c33:Try.prog.cellsOf 33=13:=by kernel_rfl
theorem Yp:xk Try.prog 33 dn (λ _=>True):=
 (xk.struct Try.underlying33 (by kernel_rfl) (.cons d3 (.cons d9 (.cons d3 (.cons d3 (.cons d3 (.cons d3 (.cons d3 (.cons d3 (.cons d3 (.cons d3 (.cons d4 (.cons d3 (.cons d3 .nil)))))))))))))).map
  (λ p=>au.mk p.1 p.2.1 p.2.2.1 p.2.2.2.1 p.2.2.2.2.1 p.2.2.2.2.2.1 p.2.2.2.2.2.2.1 p.2.2.2.2.2.2.2.1 p.2.2.2.2.2.2.2.2.1 p.2.2.2.2.2.2.2.2.2.1 p.2.2.2.2.2.2.2.2.2.2.1 p.2.2.2.2.2.2.2.2.2.2.2.1 p.2.2.2.2.2.2.2.2.2.2.2.2.1)
  (λ _=>rfl) (λ _ _=>trivial)
theorem Uh:xk Try.prog 22 (λ L:List au=>[.aS 13 (L.map dn) none]) (λ L=>L.length<=maxLen):=
 (xk.slice Try.underlying22 c33 (by decide) Yp).map id (λ _=>rfl) (λ p h=>h.1)
theorem Kd {W:World} {sz:Nat} {vs:List (List PV)} {v:Value} (h:Go.cy.Br.sK W [] [.aS sz vs none] [v]):(v=.slice none 0 0/\vs.length=0)\/∃ a c,v=.slice (some a) vs.length c:=by
 obtain⟨m,us,_,D,V⟩:=h;obtain⟨u,hu⟩:∃ u,us[0]? = some u:=⟨_,List.getElem?_eq_getElem (by rw[<- V.1]; exact Nat.zero_lt_one)⟩
 have h4:=V.2 0 _ _ rfl hu;obtain⟨ad,c,rfl⟩:=wS h4;have h6:=D.2 0 _ _ hu rfl;generalize hn:vs.length=n at h6;cases h6 with
 | fl=>exact .inl ⟨rfl,rfl⟩
 | slice _ _=>exact .inr ⟨_,_,rfl⟩
 | dG=>exact .inr ⟨_,_,rfl⟩
theorem Ui {H:Type} {enc:TypeId×Value->H} {W:World} {ts t:TypeId} {fuel len cap:Nat} {a:Addr} {x:DataW H×List MemPlace} (N1:Try.prog.underlying ts=some (.slice t)) {b:Nat} (hb:Try.prog.bytesOf t=b)
  (h:DataW.trod enc Try.prog W 0 (λ _=>true) true fuel ts [.slice (some a) len cap]=some x) (hw:∀ n∈x.1.weights Try.prog ts,n<=reachBytes):len * b<=reachBytes:=by
 rcases DataW.trod_slice N1 h with⟨h0,_⟩ | ⟨a',ajZ,rp,elems,rest,n,_,Bl,Y,_,_,_,hlen,_⟩
 ·cases h0
 ·cases Bl;subst Y;have:=hw ((elems.length+rest.length) * Try.prog.bytesOf t) (by simp[DataW.weights,N1]);rw[hb] at this;have e:len<=elems.length+rest.length:=by omega
  exact Nat.le_trans (Nat.mul_le_mul_right b e) this
set_option maxRecDepth 100000 in
theorem Uj {H:Type} {enc:TypeId×Value->H} {W:World} {base:Nat} {args:Array Value} {ds:List (DataW H)} {ps:List MemPlace} (hA:DataW.TrodAll enc Try.prog W 0 (λ _=>true) true [22,3,3,3,3] args.toList ds ps)
  (tj:∀ (j:Nat) t v,([22,3,3,3,3] : List TypeId)[j]? = some t->args.toList[j]? = some v->Value.okWide Try.prog W .any base t v) (gK:(DataW.weightsEach Try.prog [22,3,3,3,3] ds).all (· <= reachBytes)=true):Calls Try.prog 3 args W (λ e w'=>e=.returned (.bool true)/\yc W w'):=by
 rcases nQ:args.toList with _ | ⟨v1,_ | ⟨v2,_ | ⟨v3,_ | ⟨v4,_ | ⟨v5,_ | ⟨v6,l⟩⟩⟩⟩⟩⟩ <;> rw[nQ] at hA <;> (rcases ds with _ | ⟨d1,_ | ⟨d2,_ | ⟨d3,_ | ⟨d4,_ | ⟨d5,_ | ⟨d6,ds⟩⟩⟩⟩⟩⟩ <;> first | (simp[DataW.TrodAll] at hA; done) | skip)
 rw[nQ] at tj;obtain⟨p1,q1,⟨n1,t1⟩,⟨p2,q2,⟨n2,t2⟩,⟨p3,q3,⟨n3,t3⟩,⟨p4,q4,⟨n4,t4⟩,⟨p5,q5,⟨n5,t5⟩,_,_⟩,_⟩,_⟩,_⟩,_⟩:=hA;obtain⟨e1,s1⟩:=vo (tj 0 22 v1 rfl rfl) (by rw[Try.underlying22]);obtain⟨e2,s2⟩:=vo (tj 1 3 v2 rfl rfl) (by rw[Try.underlying3]);obtain⟨e3,s3⟩:=vo (tj 2 3 v3 rfl rfl) (by rw[Try.underlying3]);obtain⟨e4,s4⟩:=vo (tj 3 3 v4 rfl rfl) (by rw[Try.underlying3]);obtain⟨e5,s5⟩:=vo (tj 4 3 v5 rfl rfl) (by rw[Try.underlying3]);rw[e1] at t1;rw[e2] at t2;rw[e3] at t3;rw[e4] at t4;rw[e5] at t5;obtain⟨L,hL,_,gL⟩:=Go.cy.jV.Uh.get enc W n1 [v1] _ t1 s1;obtain⟨ab,hA,_,gA⟩:=Go.cy.jV.d3.get enc W n2 [v2] _ t2 s2;obtain⟨ae,hB,_,gB⟩:=Go.cy.jV.d3.get enc W n3 [v3] _ t3 s3;obtain⟨C,hC,_,gC⟩:=Go.cy.jV.d3.get enc W n4 [v4] _ t4 s4;obtain⟨ag,hD,_,gD⟩:=Go.cy.jV.d3.get enc W n5 [v5] _ t5 s5;have aj0:maxLen=9223372036854775807:=by decide
 have hr:reachBytes=140737488351232:=rfl;have IK:∀ n∈d1.weights Try.prog 22,n<=reachBytes:=λ n hn=>by
  have:=List.all_eq_true.1 gK n (DataW.weights_mem_each (j:=0) rfl rfl n hn);simpa using this
 have hlen:L.length * 112<=140737488351232:=by
  rcases Kd (gL [] uK.nil) with⟨_,h0⟩ | ⟨a,c,rfl⟩
  ·rw[List.length_map] at h0; omega
  ·have:=Ui Try.underlying22 (b:=112) (by kernel_rfl) t1 IK;rw[List.length_map,hr] at this;exact this
 have hC1:=hC.2;have hD1:=hD.2;refine uZ.XX told (ps:=[.aS 13 (L.map dn) none,.val (.int .i64 ab),.val (.int .i64 ae),.val (.int .i64 C),.val (.int .i64 ag)]) ?_ (L3 (4 * L.length+100011) L ab ae C ag true (Go.cy.jV.t3 _ L ab ae C ag hlen (by omega) (by omega) (by omega)));rw[nQ];exact uZ.cons (sK.one (gL [] uK.nil)) λ l hl=>uZ.cons (sK.one (gA l hl)) λ l hl=>uZ.cons (sK.one (gB l hl)) λ l hl=>uZ.cons (sK.one (gC l hl)) λ l hl=>uZ.cons (sK.one (gD l hl)) λ l hl=>uZ.nil hl
end Go.cy.jV
