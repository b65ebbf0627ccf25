/-
  Short names for what printed walks use.
-/
import Derived.Test.YtbcgpjfjfnnlcaaM26
set_option linter.unusedSimpArgs false
set_option linter.unusedVariables false
namespace Go.Eng
noncomputable section
@[reducible] def vI (x : Int) : PV := .val (.int .i64 x)
@[reducible] def vB (b : Bool) : PV := .val (.bool b)
@[reducible] def vP (k : Nat) : PV := .ptr k 0
section short
variable {P : Program} {O : Orc} {rnd : Option Nat} {all os : List Oper} {s : PS} {Q : PS → Prop}
theorem oK (n : Nat) (ks ts : List Nat) (es : List (Nat × PV)) (fr' : List PRow) (tk' : List Nat) (h : runW P all n os s ks ts es = some (true, true, tk', some fr', some (es.map Prod.snd))) (hq : PO P O rnd all (os.drop n) (PS.ofm s.ms s.n es fr' tk' s.r0 s.t0) Q) : PO P O rnd all os s Q := PO.runK n ks ts h hq
theorem oD {cl : List Nat} {base : Nat} {js : List Nat} {σ : DC} (m : Nat) (js' : List Nat) (σ' : DC) (es : List (Nat × PV)) (fr' : List PRow) (tk' : List Nat) (h : runD P os cl base m js σ s es = some (js', σ', s.n, s.r0, s.t0, s.ms, some (es.map Prod.snd), fr', tk')) (hq : PD P O os cl base js' σ' (PS.ofm s.ms s.n es fr' tk' s.r0 s.t0) Q) : PD P O os cl base js σ s Q := PD.runK m h hq
end short
end
end Go.Eng
