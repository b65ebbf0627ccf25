import Derived.Test.YtfgccgoeiedbnaaM26
import Derived.Test.YtfgccgoeiedbnaaProg
import Derived.KernelRfl
set_option linter.unusedVariables false
set_option linter.unusedSimpArgs false
set_option maxRecDepth 100000
set_option maxHeartbeats 4000000
namespace Go.Eng.Lift
open Go.Proofs
noncomputable section
def orc : FuncId → Option Value := fun f => pick (Nat.beq f 4) (some (.bool true)) (none)
theorem K4 : PF Try.prog orc 4 [] [] [] (fun p fr tk => p = .val (.bool true) ∧ fr = [] ∧ tk = []) := PF.known rfl rfl ⟨rfl, rfl, rfl⟩
structure GItem where
  kind : Int
  font : ByteArray
  size : Int
  rune : Int
  width : Int
  height : Int
  depth : Int
  stretch : Int
  shrink : Int
  value : Int
  flag : Bool
  from_ : Int
  to_ : Int
def cGItem (x : GItem) : List PV := [.val (.int .i64 x.kind), .val (.string x.font), .val (.int .i64 x.size), .val (.int .i64 x.rune), .val (.int .i64 x.width), .val (.int .i64 x.height), .val (.int .i64 x.depth), .val (.int .i64 x.stretch), .val (.int .i64 x.shrink), .val (.int .i64 x.value), .val (.bool x.flag), .val (.int .i64 x.from_), .val (.int .i64 x.to_)]
structure GLine where
  first : Int
  last : Int
  break_ : Int
  natural : Int
  stretch : Int
  shrink : Int
  short : Int
  bad : Int
  class_ : Int
  over_ : Bool
  hyphen : Bool
  end_ : Bool
  height : Int
  depth : Int
def cGLine (x : GLine) : List PV := [.val (.int .i64 x.first), .val (.int .i64 x.last), .val (.int .i64 x.break_), .val (.int .i64 x.natural), .val (.int .i64 x.stretch), .val (.int .i64 x.shrink), .val (.int .i64 x.short), .val (.int .i64 x.bad), .val (.int .i64 x.class_), .val (.bool x.over_), .val (.bool x.hyphen), .val (.bool x.end_), .val (.int .i64 x.height), .val (.int .i64 x.depth)]
structure GMeter where
  steps_now : Int
  steps_peak : Int
  steps_budget : Int
  cells_now : Int
  cells_peak : Int
  cells_budget : Int
  refused : Int
def cGMeter (x : GMeter) : List PV := [.val (.int .i64 x.steps_now), .val (.int .i64 x.steps_peak), .val (.int .i64 x.steps_budget), .val (.int .i64 x.cells_now), .val (.int .i64 x.cells_peak), .val (.int .i64 x.cells_budget), .val (.int .i64 x.refused)]
structure GFault where
  kind : Int
  at_ : Int
def cGFault (x : GFault) : List PV := [.val (.int .i64 x.kind), .val (.int .i64 x.at_)]
def cI_i64 (x : Int) : List PV := [.val (.int .i64 x)]
structure Gsetting where
  much : Int
  all : Int
  stretch : Bool
  before : Int
def cGsetting (x : Gsetting) : List PV := [.val (.int .i64 x.much), .val (.int .i64 x.all), .val (.bool x.stretch), .val (.int .i64 x.before)]

/-! 28 platen/items.within -/
def F28 (k : Nat) (a0 : Int) (a1 : Int) (a2 : Int) : Option Bool :=
Option.bind (α := Bool) (bif decide (a1 ≤ a0) then (some (decide (a0 ≤ a2))) else (some false)) fun (v1 : Bool) =>
some v1
theorem L28 (k : Nat) (a0 : Int) (a1 : Int) (a2 : Int) (r : Bool) (hF : F28 k a0 a1 a2 = some r) : PF Try.prog orc 28 [.val (.int .i64 a0), .val (.int .i64 a1), .val (.int .i64 a2)] [] [] (fun p fr tk => p = .val (.bool r) ∧ fr = [] ∧ tk = []) := by
  unfold F28 at hF
  refine PF.enterS Try.func28 rfl rfl rfl (by kernel_rfl) rfl ?_
  refine PC.run (n := 2) rfl ?_
  refine PC.region ?_
  refine PO.run 4 rfl ?_
  refine bindK hF (fun x1 e2 hF => ?_)
  refine PO.cut 4 (fun s => ∃ (v1 : Bool), Weak s (PS.of 15 [(6, .val (.bool false)), (14, .val (.bool v1))] [] [] 0 0) ∧ v1 = x1) ?_ ?_
  · refine PO.case (t := 10) rfl rfl (fun h3 => ?_) (fun h3 => ?_)
    · have e2 := bif_t h3 e2
      refine PO.run 3 rfl ?_
      refine PO.same rfl (pickT_ok rfl rfl rfl) rfl ?_
      refine PO.nil ?_
      exact ⟨decide (a0 ≤ a2), Weak.one [] [] (by kernel_rfl), Option.some.inj e2⟩
    · have e2 := bif_f h3 e2
      refine PO.run 3 rfl ?_
      refine PO.same rfl (pickF_ok rfl rfl rfl) rfl ?_
      refine PO.nil ?_
      exact ⟨false, Weak.one [] [] (by kernel_rfl), Option.some.inj e2⟩
  · rintro _ ⟨v1, w4, rfl⟩
    refine PO.weak w4 ?_
    refine PO.run 1 rfl ?_
    refine PO.nil ?_
    have hq := Option.some.inj hF
    subst hq
    exact PC.ret' (retSK [] [] (by kernel_rfl) (.refl _) ⟨rfl, rfl, rfl⟩)

/-! 33 platen/items.measured -/
def F33 (k : Nat) (a0 : GItem) : Option Bool :=
(F28 k a0.size 1 67108864).bind fun r1 =>
Option.bind (α := Bool) (bif r1 then ((F28 k a0.width 0 1099511627776).bind fun r6 =>
Option.bind (α := Bool) (bif r6 then ((F28 k a0.height 0 1099511627776).bind fun r11 =>
Option.bind (α := Bool) (bif r11 then ((F28 k a0.depth 0 1099511627776).bind fun r16 =>
some r16) else (some false)) fun (v3 : Bool) =>
some v3) else (some false)) fun (v2 : Bool) =>
some v2) else (some false)) fun (v1 : Bool) =>
some v1
theorem L33 (k : Nat) (a0 : GItem) (r : Bool) (hF : F33 k a0 = some r) : PF Try.prog orc 33 [.agg (cGItem a0)] [] [] (fun p fr tk => p = .val (.bool r) ∧ fr = [] ∧ tk = []) := by
  unfold F33 at hF
  refine PF.enterS Try.func33 rfl rfl rfl (by kernel_rfl) rfl ?_
  refine PC.region ?_
  refine PO.runK 2 [0] [] (es := [(1, .ptr 0 0), (2, .val (.bool false))]) (fr' := [⟨0, (cGItem a0)⟩]) (tk' := []) (by kernel_rfl) ?_
  refine PO.nil ?_
  refine PC.region ?_
  refine PO.run 2 rfl ?_
  refine bindK hF (fun r1 e2 hF => ?_)
  refine PO.call rfl rfl rfl rfl (ks := []) (ts := []) (fr1 := []) rfl rfl rfl trivial (L28 k a0.size 1 67108864 _ e2) ?_
  rintro _ _ _ ⟨rfl, rfl, rfl⟩
  refine ⟨_, _, rfl, rfl, ?_⟩
  refine PO.run 1 rfl ?_
  refine bindK hF (fun x3 e4 hF => ?_)
  refine PO.cut 14 (fun s => ∃ (v1 : Bool), Weak s (PS.of 21 [(2, .val (.bool false)), (20, .val (.bool v1))] [] [] 0 0) ∧ v1 = x3) ?_ ?_
  · refine PO.case (t := 6) rfl rfl (fun h5 => ?_) (fun h5 => ?_)
    · have e4 := bif_t h5 e4
      refine PO.runK 2 [0] [] (es := [(1, .ptr 0 0), (2, .val (.bool false)), (6, .val (.bool true)), (8, .val (.int .i64 a0.width))]) (fr' := [⟨0, (cGItem a0)⟩]) (tk' := []) (by kernel_rfl) ?_
      refine bindK e4 (fun r6 e7 e4 => ?_)
      refine PO.call rfl rfl rfl rfl (ks := []) (ts := []) (fr1 := []) rfl rfl rfl trivial (L28 k a0.width 0 1099511627776 _ e7) ?_
      rintro _ _ _ ⟨rfl, rfl, rfl⟩
      refine ⟨_, _, rfl, rfl, ?_⟩
      refine PO.same rfl (pickT_ok rfl rfl rfl) rfl ?_
      refine PO.run 1 rfl ?_
      refine bindK e4 (fun x8 e9 e4 => ?_)
      refine PO.cut 9 (fun s => ∃ (v2 : Bool), Weak s (PS.of 21 [(2, .val (.bool false)), (20, .val (.bool v2))] [] [] 0 0) ∧ v2 = x8) ?_ ?_
      · refine PO.case (t := 11) rfl rfl (fun h10 => ?_) (fun h10 => ?_)
        · have e9 := bif_t h10 e9
          refine PO.runK 2 [0] [] (es := [(1, .ptr 0 0), (2, .val (.bool false)), (11, .val (.bool true)), (13, .val (.int .i64 a0.height))]) (fr' := [⟨0, (cGItem a0)⟩]) (tk' := []) (by kernel_rfl) ?_
          refine bindK e9 (fun r11 e12 e9 => ?_)
          refine PO.call rfl rfl rfl rfl (ks := []) (ts := []) (fr1 := []) rfl rfl rfl trivial (L28 k a0.height 0 1099511627776 _ e12) ?_
          rintro _ _ _ ⟨rfl, rfl, rfl⟩
          refine ⟨_, _, rfl, rfl, ?_⟩
          refine PO.same rfl (pickT_ok rfl rfl rfl) rfl ?_
          refine PO.run 1 rfl ?_
          refine bindK e9 (fun x13 e14 e9 => ?_)
          refine PO.cut 4 (fun s => ∃ (v3 : Bool), Weak s (PS.of 21 [(2, .val (.bool false)), (20, .val (.bool v3))] [] [] 0 0) ∧ v3 = x13) ?_ ?_
          · refine PO.case (t := 16) rfl rfl (fun h15 => ?_) (fun h15 => ?_)
            · have e14 := bif_t h15 e14
              refine PO.runK 2 [] [] (es := [(2, .val (.bool false)), (16, .val (.bool true)), (18, .val (.int .i64 a0.depth))]) (fr' := []) (tk' := []) (by kernel_rfl) ?_
              refine bindK e14 (fun r16 e17 e14 => ?_)
              refine PO.call rfl rfl rfl rfl (ks := []) (ts := []) (fr1 := []) rfl rfl rfl trivial (L28 k a0.depth 0 1099511627776 _ e17) ?_
              rintro _ _ _ ⟨rfl, rfl, rfl⟩
              refine ⟨_, _, rfl, rfl, ?_⟩
              refine PO.same rfl (pickT_ok rfl rfl rfl) rfl ?_
              refine PO.nil ?_
              exact ⟨r16, Weak.one [] [] (by kernel_rfl), Option.some.inj e14⟩
            · have e14 := bif_f h15 e14
              refine PO.run 3 rfl ?_
              refine PO.same rfl (pickF_ok rfl rfl rfl) rfl ?_
              refine PO.nil ?_
              exact ⟨false, Weak.one [] [] (by kernel_rfl), Option.some.inj e14⟩
          · rintro _ ⟨v3, w18, rfl⟩
            refine PO.weak w18 ?_
            refine PO.nil ?_
            exact ⟨v3, Weak.one [] [] (by kernel_rfl), Option.some.inj e9⟩
        · have e9 := bif_f h10 e9
          refine PO.run 3 rfl ?_
          refine PO.same rfl (pickF_ok rfl rfl rfl) rfl ?_
          refine PO.run 4 rfl ?_
          refine PO.same rfl (pickF_ok rfl rfl rfl) rfl ?_
          refine PO.nil ?_
          exact ⟨false, Weak.one [] [] (by kernel_rfl), Option.some.inj e9⟩
      · rintro _ ⟨v2, w19, rfl⟩
        refine PO.weak w19 ?_
        refine PO.nil ?_
        exact ⟨v2, Weak.one [] [] (by kernel_rfl), Option.some.inj e4⟩
    · have e4 := bif_f h5 e4
      refine PO.run 3 rfl ?_
      refine PO.same rfl (pickF_ok rfl rfl rfl) rfl ?_
      refine PO.run 4 rfl ?_
      refine PO.same rfl (pickF_ok rfl rfl rfl) rfl ?_
      refine PO.run 4 rfl ?_
      refine PO.same rfl (pickF_ok rfl rfl rfl) rfl ?_
      refine PO.nil ?_
      exact ⟨false, Weak.one [] [] (by kernel_rfl), Option.some.inj e4⟩
  · rintro _ ⟨v1, w20, rfl⟩
    refine PO.weak w20 ?_
    refine PO.run 1 rfl ?_
    refine PO.nil ?_
    have hq := Option.some.inj hF
    subst hq
    exact PC.ret' (retSK [] [] (by kernel_rfl) (.refl _) ⟨rfl, rfl, rfl⟩)

/-! 39 unicode/utf8.RuneLen -/
def F39 (k : Nat) (a0 : Int) : Option Int :=
bif decide (a0 < 0) then (some (-1)) else (bif decide (a0 ≤ 127) then (some 1) else (bif decide (a0 ≤ 2047) then (some 2) else (Option.bind (α := Bool) (bif decide (55296 ≤ a0) then (some (decide (a0 ≤ 57343))) else (some false)) fun (v1 : Bool) =>
bif v1 then (some (-1)) else (bif decide (a0 ≤ 65535) then (some 3) else (bif decide (a0 ≤ 1114111) then (some 4) else (some (-1)))))))
theorem L39 (k : Nat) (a0 : Int) (r : Int) (hF : F39 k a0 = some r) : PF Try.prog orc 39 [.val (.int .i32 a0)] [] [] (fun p fr tk => p = .val (.int .i64 r) ∧ fr = [] ∧ tk = []) := by
  unfold F39 at hF
  refine PF.enterS Try.func39 rfl rfl rfl (by kernel_rfl) rfl ?_
  refine PC.run (n := 2) rfl ?_
  refine PC.block ?_
  refine PC.run (n := 4) rfl ?_
  refine PC.lone ?_
  refine PC.cond rfl (fun h1 => ?_) (fun h1 => ?_)
  · have hF := bif_t h1 hF
    refine PC.assoc ?_
    refine PC.run (n := 2) rfl ?_
    have hq := Option.some.inj hF
    subst hq
    exact PC.ret (blockKP.back (retSK [] [] (by kernel_rfl) (.refl _) ⟨rfl, rfl, rfl⟩))
  · have hF := bif_f h1 hF
    refine PC.assoc ?_
    refine PC.run (n := 4) rfl ?_
    refine PC.cond rfl (fun h2 => ?_) (fun h2 => ?_)
    · have hF := bif_t h2 hF
      refine PC.assoc ?_
      refine PC.run (n := 2) rfl ?_
      have hq := Option.some.inj hF
      subst hq
      exact PC.ret (blockKP.back (retSK [] [] (by kernel_rfl) (.refl _) ⟨rfl, rfl, rfl⟩))
    · have hF := bif_f h2 hF
      refine PC.assoc ?_
      refine PC.run (n := 4) rfl ?_
      refine PC.cond rfl (fun h3 => ?_) (fun h3 => ?_)
      · have hF := bif_t h3 hF
        refine PC.assoc ?_
        refine PC.run (n := 2) rfl ?_
        have hq := Option.some.inj hF
        subst hq
        exact PC.ret (blockKP.back (retSK [] [] (by kernel_rfl) (.refl _) ⟨rfl, rfl, rfl⟩))
      · have hF := bif_f h3 hF
        refine PC.assoc ?_
        refine PC.region ?_
        refine PO.run 3 rfl ?_
        refine bindK hF (fun x4 e5 hF => ?_)
        refine PO.cut 3 (fun s => ∃ (v1 : Bool), Weak s (PS.of 25 [(0, .val (.int .i32 a0)), (2, .val (.int .i64 0)), (18, .val (.bool v1))] [] [] 0 0) ∧ v1 = x4) ?_ ?_
        · refine PO.case (t := 15) rfl rfl (fun h6 => ?_) (fun h6 => ?_)
          · have e5 := bif_t h6 e5
            refine PO.run 2 rfl ?_
            refine PO.same rfl (pickT_ok rfl rfl rfl) rfl ?_
            refine PO.nil ?_
            exact ⟨decide (a0 ≤ 57343), Weak.one [] [] (by kernel_rfl), Option.some.inj e5⟩
          · have e5 := bif_f h6 e5
            refine PO.run 2 rfl ?_
            refine PO.same rfl (pickF_ok rfl rfl rfl) rfl ?_
            refine PO.nil ?_
            exact ⟨false, Weak.one [] [] (by kernel_rfl), Option.some.inj e5⟩
        · rintro _ ⟨v1, w7, rfl⟩
          refine PO.weak w7 ?_
          refine PO.run 1 rfl ?_
          refine PO.nil ?_
          refine PC.cond rfl (fun h8 => ?_) (fun h8 => ?_)
          · have hF := bif_t h8 hF
            refine PC.assoc ?_
            refine PC.run (n := 2) rfl ?_
            have hq := Option.some.inj hF
            subst hq
            exact PC.ret (blockKP.back (retSK [] [] (by kernel_rfl) (.refl _) ⟨rfl, rfl, rfl⟩))
          · have hF := bif_f h8 hF
            refine PC.assoc ?_
            refine PC.run (n := 4) rfl ?_
            refine PC.cond rfl (fun h9 => ?_) (fun h9 => ?_)
            · have hF := bif_t h9 hF
              refine PC.assoc ?_
              refine PC.run (n := 2) rfl ?_
              have hq := Option.some.inj hF
              subst hq
              exact PC.ret (blockKP.back (retSK [] [] (by kernel_rfl) (.refl _) ⟨rfl, rfl, rfl⟩))
            · have hF := bif_f h9 hF
              refine PC.assoc ?_
              refine PC.run (n := 4) rfl ?_
              refine PC.cond rfl (fun h10 => ?_) (fun h10 => ?_)
              · have hF := bif_t h10 hF
                refine PC.assoc ?_
                refine PC.run (n := 2) rfl ?_
                have hq := Option.some.inj hF
                subst hq
                exact PC.ret (blockKP.back (retSK [] [] (by kernel_rfl) (.refl _) ⟨rfl, rfl, rfl⟩))
              · have hF := bif_f h10 hF
                refine PC.noop ?_
                refine PC.skip (blockKP.end ?_)
                refine PC.run (n := 2) rfl ?_
                have hq := Option.some.inj hF
                subst hq
                exact PC.ret' (retSK [] [] (by kernel_rfl) (.refl _) ⟨rfl, rfl, rfl⟩)

/-! 34 platen/runes.Width -/
def F34 (k : Nat) (a0 : Int) : Option Int :=
Option.bind (α := Bool) (bif decide (a0 < 0) then (some true) else (Option.bind (α := Bool) (bif decide (a0 > 1114111) then (some true) else (Option.bind (α := Bool) (bif decide (a0 ≥ 55296) then (some (decide (a0 ≤ 57343))) else (some false)) fun (v3 : Bool) =>
some v3)) fun (v2 : Bool) =>
some v2)) fun (v1 : Bool) =>
bif v1 then (some 0) else ((F39 k (w_i32 (a0))).bind fun r14 =>
some r14)
theorem L34 (k : Nat) (a0 : Int) (r : Int) (hF : F34 k a0 = some r) : PF Try.prog orc 34 [.val (.int .i64 a0)] [] [] (fun p fr tk => p = .val (.int .i64 r) ∧ fr = [] ∧ tk = []) := by
  unfold F34 at hF
  refine PF.enterS Try.func34 rfl rfl rfl (by kernel_rfl) rfl ?_
  refine PC.run (n := 2) rfl ?_
  refine PC.assoc ?_
  refine PC.region ?_
  refine PO.run 3 rfl ?_
  refine bindK hF (fun x1 e2 hF => ?_)
  refine PO.cut 11 (fun s => ∃ (v1 : Bool), Weak s (PS.of 20 [(0, .val (.int .i64 a0)), (2, .val (.int .i64 0)), (16, .val (.bool v1))] [] [] 0 0) ∧ v1 = x1) ?_ ?_
  · refine PO.case (t := 5) rfl rfl (fun h3 => ?_) (fun h3 => ?_)
    · have e2 := bif_t h3 e2
      refine PO.run 2 rfl ?_
      refine PO.same rfl (pickT_ok rfl rfl rfl) rfl ?_
      refine PO.run 7 rfl ?_
      refine PO.same rfl (pickT_ok rfl rfl rfl) rfl ?_
      refine PO.nil ?_
      exact ⟨true, Weak.one [] [] (by kernel_rfl), Option.some.inj e2⟩
    · have e2 := bif_f h3 e2
      refine PO.run 2 rfl ?_
      refine PO.same rfl (pickF_ok rfl rfl rfl) rfl ?_
      refine PO.run 1 rfl ?_
      refine bindK e2 (fun x4 e5 e2 => ?_)
      refine PO.cut 7 (fun s => ∃ (v2 : Bool), Weak s (PS.of 20 [(0, .val (.int .i64 a0)), (2, .val (.int .i64 0)), (16, .val (.bool v2))] [] [] 0 0) ∧ v2 = x4) ?_ ?_
      · refine PO.case (t := 9) rfl rfl (fun h6 => ?_) (fun h6 => ?_)
        · have e5 := bif_t h6 e5
          refine PO.run 6 rfl ?_
          refine PO.same rfl (pickT_ok rfl rfl rfl) rfl ?_
          refine PO.nil ?_
          exact ⟨true, Weak.one [] [] (by kernel_rfl), Option.some.inj e5⟩
        · have e5 := bif_f h6 e5
          refine PO.run 3 rfl ?_
          refine bindK e5 (fun x7 e8 e5 => ?_)
          refine PO.cut 4 (fun s => ∃ (v3 : Bool), Weak s (PS.of 20 [(0, .val (.int .i64 a0)), (2, .val (.int .i64 0)), (16, .val (.bool v3))] [] [] 0 0) ∧ v3 = x7) ?_ ?_
          · refine PO.case (t := 12) rfl rfl (fun h9 => ?_) (fun h9 => ?_)
            · have e8 := bif_t h9 e8
              refine PO.run 2 rfl ?_
              refine PO.same rfl (pickT_ok rfl rfl rfl) rfl ?_
              refine PO.same rfl (pickF_ok rfl rfl rfl) rfl ?_
              refine PO.nil ?_
              exact ⟨decide (a0 ≤ 57343), Weak.one [] [] (by kernel_rfl), Option.some.inj e8⟩
            · have e8 := bif_f h9 e8
              refine PO.run 2 rfl ?_
              refine PO.same rfl (pickF_ok rfl rfl rfl) rfl ?_
              refine PO.same rfl (pickF_ok rfl rfl rfl) rfl ?_
              refine PO.nil ?_
              exact ⟨false, Weak.one [] [] (by kernel_rfl), Option.some.inj e8⟩
          · rintro _ ⟨v3, w10, rfl⟩
            refine PO.weak w10 ?_
            refine PO.nil ?_
            exact ⟨v3, Weak.one [] [] (by kernel_rfl), Option.some.inj e5⟩
      · rintro _ ⟨v2, w11, rfl⟩
        refine PO.weak w11 ?_
        refine PO.nil ?_
        exact ⟨v2, Weak.one [] [] (by kernel_rfl), Option.some.inj e2⟩
  · rintro _ ⟨v1, w12, rfl⟩
    refine PO.weak w12 ?_
    refine PO.nil ?_
    refine PC.cond rfl (fun h13 => ?_) (fun h13 => ?_)
    · have hF := bif_t h13 hF
      refine PC.assoc ?_
      refine PC.run (n := 2) rfl ?_
      have hq := Option.some.inj hF
      subst hq
      exact PC.ret (retSK [] [] (by kernel_rfl) (.refl _) ⟨rfl, rfl, rfl⟩)
    · have hF := bif_f h13 hF
      refine PC.noop ?_
      refine PC.region ?_
      refine PO.run 2 rfl ?_
      refine bindK hF (fun r14 e15 hF => ?_)
      refine PO.call rfl rfl rfl rfl (ks := []) (ts := []) (fr1 := []) rfl rfl rfl trivial (L39 k (w_i32 (a0)) _ e15) ?_
      rintro _ _ _ ⟨rfl, rfl, rfl⟩
      refine ⟨_, _, rfl, rfl, ?_⟩
      refine PO.run 1 rfl ?_
      refine PO.nil ?_
      have hq := Option.some.inj hF
      subst hq
      exact PC.ret' (retSK [] [] (by kernel_rfl) (.refl _) ⟨rfl, rfl, rfl⟩)

/-! 27 platen/items.right -/
def F27 (k : Nat) (a0 : GItem) (a1 : GItem) (a2 : GItem) : Option Bool :=
Option.bind (α := Bool × ByteArray × Int × Int × Int × Int × Int × Int × Int × Int × Bool × Int × Int) (bif a0.kind == 1 then ((F33 k a0).bind fun r4 =>
Option.bind (α := Bool) (bif r4 then ((F34 k a0.rune).bind fun r9 =>
some (decide (r9 > 0))) else (some false)) fun (v14 : Bool) =>
some (v14, a0.font, a0.size, a0.rune, a0.width, a0.height, a0.depth, 0, 0, 0, false, a0.from_, a0.to_)) else (bif a0.kind == 2 then (Option.bind (α := Bool) (bif a1.kind == 1 then (Option.bind (α := Bool) (bif a2.kind == 1 then (Option.bind (α := Bool) (bif a0.width != 0 then ((F28 k a0.width (w (0 - (if a2.width < a1.width then a2.width else a1.width))) 1099511627776).bind fun r22 =>
some r22) else (some false)) fun (v17 : Bool) =>
some v17) else (some false)) fun (v16 : Bool) =>
some v16) else (some false)) fun (v15 : Bool) =>
some (v15, ByteArray.empty, 0, 0, a0.width, 0, 0, 0, 0, 0, false, 0, 0)) else (bif a0.kind == 3 then ((F28 k a0.size 1 67108864).bind fun r28 =>
Option.bind (α := Bool) (bif r28 then ((F28 k a0.width 0 67108864).bind fun r33 =>
Option.bind (α := Bool) (bif r33 then ((F28 k a0.stretch 0 67108864).bind fun r38 =>
Option.bind (α := Bool) (bif r38 then ((F28 k a0.shrink 0 a0.width).bind fun r43 =>
some r43) else (some false)) fun (v20 : Bool) =>
some v20) else (some false)) fun (v19 : Bool) =>
some v19) else (some false)) fun (v18 : Bool) =>
some (v18, a0.font, a0.size, 0, a0.width, 0, 0, a0.stretch, a0.shrink, 0, false, a0.from_, a0.to_)) else (bif a0.kind == 4 then ((F28 k a0.value (-10000) 10000).bind fun r49 =>
bif a0.flag then (Option.bind (α := Bool) (bif r49 then ((F33 k a0).bind fun r55 =>
Option.bind (α := Bool) (bif r55 then (Option.bind (α := Bool) (bif a0.rune == 45 then (some (decide (a0.value > (-10000)))) else (some false)) fun (v23 : Bool) =>
some v23) else (some false)) fun (v22 : Bool) =>
some v22) else (some false)) fun (v21 : Bool) =>
some (v21, a0.font, a0.size, a0.rune, a0.width, a0.height, a0.depth, 0, 0, a0.value, true, a0.from_, a0.to_)) else (some (r49, ByteArray.empty, 0, 0, 0, 0, 0, 0, 0, a0.value, false, a0.from_, a0.to_))) else (some (false, ByteArray.empty, 0, 0, 0, 0, 0, 0, 0, 0, false, a0.from_, a0.to_)))))) fun (v1, v2, v3, v4, v5, v6, v7, v8, v9, v10, v11, v12, v13) =>
Option.bind (α := Bool) (bif v1 then (some (a0.kind == a0.kind && (a0.font == v2 && (a0.size == v3 && (a0.rune == v4 && (a0.width == v5 && (a0.height == v6 && (a0.depth == v7 && (a0.stretch == v8 && (a0.shrink == v9 && (a0.value == v10 && (a0.flag == v11 && (a0.from_ == v12 && (a0.to_ == v13 && true)))))))))))))) else (some false)) fun (v24 : Bool) =>
some v24
theorem L27 (k : Nat) (a0 : GItem) (a1 : GItem) (a2 : GItem) (r : Bool) (hF : F27 k a0 a1 a2 = some r) : PF Try.prog orc 27 [.agg (cGItem a0), .agg (cGItem a1), .agg (cGItem a2)] [] [] (fun p fr tk => p = .val (.bool r) ∧ fr = [] ∧ tk = []) := by
  unfold F27 at hF
  refine PF.enterS Try.func27 rfl rfl rfl (by kernel_rfl) rfl ?_
  refine PC.region ?_
  refine PO.runK 4 [0, 1, 2] [] (es := [(3, .ptr 0 0), (4, .ptr 1 0), (5, .ptr 2 0), (6, .val (.bool false))]) (fr' := [⟨0, (cGItem a0)⟩, ⟨0, (cGItem a1)⟩, ⟨0, (cGItem a2)⟩]) (tk' := []) (by kernel_rfl) ?_
  refine PO.nil ?_
  refine PC.region ?_
  refine PO.runK 9 [0, 1, 2, 3] [] (es := [(3, .ptr 0 0), (4, .ptr 1 0), (5, .ptr 2 0), (6, .val (.bool false)), (7, .ptr 3 0)]) (fr' := [⟨0, (cGItem a0)⟩, ⟨0, (cGItem a1)⟩, ⟨0, (cGItem a2)⟩, ⟨0, [.val (.int .i64 a0.kind), .val (.string ByteArray.empty), .val (.int .i64 0), .val (.int .i64 0), .val (.int .i64 0), .val (.int .i64 0), .val (.int .i64 0), .val (.int .i64 0), .val (.int .i64 0), .val (.int .i64 0), .val (.bool false), .val (.int .i64 a0.from_), .val (.int .i64 a0.to_)]⟩]) (tk' := []) (by kernel_rfl) ?_
  refine PO.nil ?_
  refine PC.run (n := 2) rfl ?_
  refine PC.assoc ?_
  refine PC.run (n := 3) rfl ?_
  refine bindK hF (fun x1 e2 hF => ?_)
  refine PC.blockJ (fun s => ∃ (v1 : Bool) (v2 : ByteArray) (v3 : Int) (v4 : Int) (v5 : Int) (v6 : Int) (v7 : Int) (v8 : Int) (v9 : Int) (v10 : Int) (v11 : Bool) (v12 : Int) (v13 : Int), Weak s (PS.of 164 [(3, .ptr 0 0), (6, .val (.bool false)), (7, .ptr 1 0), (8, .val (.bool v1))] [⟨0, (cGItem a0)⟩, ⟨0, [.val (.int .i64 a0.kind), .val (.string v2), .val (.int .i64 v3), .val (.int .i64 v4), .val (.int .i64 v5), .val (.int .i64 v6), .val (.int .i64 v7), .val (.int .i64 v8), .val (.int .i64 v9), .val (.int .i64 v10), .val (.bool v11), .val (.int .i64 v12), .val (.int .i64 v13)]⟩] [] 0 0) ∧ (v1, v2, v3, v4, v5, v6, v7, v8, v9, v10, v11, v12, v13) = x1) ?_ ?_
  · refine PC.run (n := 3) rfl ?_
    refine PC.lone ?_
    refine PC.cond rfl (fun h3 => ?_) (fun h3 => ?_)
    · have e2 := bif_t h3 e2
      refine PC.assoc ?_
      refine PC.draw [0, 1, 12, 13, 2, 3, 14, 15, 4, 5, 16, 17, 6, 7, 18, 19, 8, 9, 20, 21, 10, 11, 22, 23] (by kernel_rfl) ?_
      refine PD.runK 24 (js' := []) (σ' := ⟨16777215, 16777215, 8388607, [(23, [3], false), (21, [3, 3], false), (19, [3, 3, 3], false), (17, [3, 3, 3, 3], false), (15, [3, 3, 3, 3, 3], false), (13, [3, 3, 3, 3, 3, 3], false)]⟩) (es := [(3, .ptr 0 0), (6, .val (.bool false)), (7, .ptr 3 0), (8, .val (.bool false))]) (fr' := [⟨0, (cGItem a0)⟩, ⟨0, (cGItem a1)⟩, ⟨0, (cGItem a2)⟩, ⟨0, [.val (.int .i64 a0.kind), .val (.string a0.font), .val (.int .i64 a0.size), .val (.int .i64 a0.rune), .val (.int .i64 a0.width), .val (.int .i64 a0.height), .val (.int .i64 a0.depth), .val (.int .i64 0), .val (.int .i64 0), .val (.int .i64 0), .val (.bool false), .val (.int .i64 a0.from_), .val (.int .i64 a0.to_)]⟩]) (tk' := []) (by kernel_rfl) ?_
      refine PD.done [0, 3] [] (es := [(3, .ptr 0 0), (6, .val (.bool false)), (7, .ptr 1 0), (8, .val (.bool false))]) (fr' := [⟨0, (cGItem a0)⟩, ⟨0, [.val (.int .i64 a0.kind), .val (.string a0.font), .val (.int .i64 a0.size), .val (.int .i64 a0.rune), .val (.int .i64 a0.width), .val (.int .i64 a0.height), .val (.int .i64 a0.depth), .val (.int .i64 0), .val (.int .i64 0), .val (.int .i64 0), .val (.bool false), .val (.int .i64 a0.from_), .val (.int .i64 a0.to_)]⟩]) (tk' := []) (by kernel_rfl) (by kernel_rfl) ?_
      refine PC.region ?_
      refine PO.run 1 rfl ?_
      refine bindK e2 (fun r4 e5 e2 => ?_)
      refine PO.call rfl rfl rfl rfl (ks := []) (ts := []) (fr1 := []) rfl rfl rfl trivial (L33 k a0 _ e5) ?_
      rintro _ _ _ ⟨rfl, rfl, rfl⟩
      refine ⟨_, _, rfl, rfl, ?_⟩
      refine PO.run 1 rfl ?_
      refine bindK e2 (fun x6 e7 e2 => ?_)
      refine PO.cut 5 (fun s => ∃ (v14 : Bool), Weak s (PS.of 164 [(3, .ptr 0 0), (6, .val (.bool false)), (7, .ptr 1 0), (8, .val (.bool false)), (45, .val (.bool v14))] [⟨0, (cGItem a0)⟩, ⟨0, [.val (.int .i64 a0.kind), .val (.string a0.font), .val (.int .i64 a0.size), .val (.int .i64 a0.rune), .val (.int .i64 a0.width), .val (.int .i64 a0.height), .val (.int .i64 a0.depth), .val (.int .i64 0), .val (.int .i64 0), .val (.int .i64 0), .val (.bool false), .val (.int .i64 a0.from_), .val (.int .i64 a0.to_)]⟩] [] 0 0) ∧ v14 = x6) ?_ ?_
      · refine PO.case (t := 40) rfl rfl (fun h8 => ?_) (fun h8 => ?_)
        · have e7 := bif_t h8 e7
          refine PO.runK 2 [0, 1] [] (es := [(3, .ptr 0 0), (6, .val (.bool false)), (7, .ptr 1 0), (8, .val (.bool false)), (40, .val (.bool true)), (42, .val (.int .i64 a0.rune))]) (fr' := [⟨0, (cGItem a0)⟩, ⟨0, [.val (.int .i64 a0.kind), .val (.string a0.font), .val (.int .i64 a0.size), .val (.int .i64 a0.rune), .val (.int .i64 a0.width), .val (.int .i64 a0.height), .val (.int .i64 a0.depth), .val (.int .i64 0), .val (.int .i64 0), .val (.int .i64 0), .val (.bool false), .val (.int .i64 a0.from_), .val (.int .i64 a0.to_)]⟩]) (tk' := []) (by kernel_rfl) ?_
          refine bindK e7 (fun r9 e10 e7 => ?_)
          refine PO.call rfl rfl rfl rfl (ks := []) (ts := []) (fr1 := []) rfl rfl rfl trivial (L34 k a0.rune _ e10) ?_
          rintro _ _ _ ⟨rfl, rfl, rfl⟩
          refine ⟨_, _, rfl, rfl, ?_⟩
          refine PO.run 1 rfl ?_
          refine PO.same rfl (pickT_ok rfl rfl rfl) rfl ?_
          refine PO.nil ?_
          exact ⟨decide (r9 > 0), Weak.one [0, 1] [] (by kernel_rfl), Option.some.inj e7⟩
        · have e7 := bif_f h8 e7
          refine PO.run 4 rfl ?_
          refine PO.same rfl (pickF_ok rfl rfl rfl) rfl ?_
          refine PO.nil ?_
          exact ⟨false, Weak.one [0, 1] [] (by kernel_rfl), Option.some.inj e7⟩
      · rintro _ ⟨v14, w11, rfl⟩
        refine PO.weak w11 ?_
        refine PO.run 1 rfl ?_
        refine PO.nil ?_
        exact PC.skip (blockJK.end ⟨v14, a0.font, a0.size, a0.rune, a0.width, a0.height, a0.depth, 0, 0, 0, false, a0.from_, a0.to_, Weak.one [0, 1] [] (by kernel_rfl), Option.some.inj e2⟩)
    · have e2 := bif_f h3 e2
      refine PC.assoc ?_
      refine PC.run (n := 3) rfl ?_
      refine PC.cond rfl (fun h12 => ?_) (fun h12 => ?_)
      · have e2 := bif_t h12 e2
        refine PC.assoc ?_
        refine PC.region ?_
        refine PO.runK 6 [0, 1, 2, 3] [] (es := [(3, .ptr 0 0), (4, .ptr 1 0), (5, .ptr 2 0), (6, .val (.bool false)), (7, .ptr 3 0), (8, .val (.bool false))]) (fr' := [⟨0, (cGItem a0)⟩, ⟨0, (cGItem a1)⟩, ⟨0, (cGItem a2)⟩, ⟨0, [.val (.int .i64 a0.kind), .val (.string ByteArray.empty), .val (.int .i64 0), .val (.int .i64 0), .val (.int .i64 a0.width), .val (.int .i64 0), .val (.int .i64 0), .val (.int .i64 0), .val (.int .i64 0), .val (.int .i64 0), .val (.bool false), .val (.int .i64 0), .val (.int .i64 0)]⟩]) (tk' := []) (by kernel_rfl) ?_
        refine PO.nil ?_
        refine PC.region ?_
        refine PO.run 4 rfl ?_
        refine bindK e2 (fun x13 e14 e2 => ?_)
        refine PO.cut 20 (fun s => ∃ (v15 : Bool), Weak s (PS.of 164 [(3, .ptr 0 0), (6, .val (.bool false)), (7, .ptr 1 0), (8, .val (.bool false)), (76, .val (.bool v15))] [⟨0, (cGItem a0)⟩, ⟨0, [.val (.int .i64 a0.kind), .val (.string ByteArray.empty), .val (.int .i64 0), .val (.int .i64 0), .val (.int .i64 a0.width), .val (.int .i64 0), .val (.int .i64 0), .val (.int .i64 0), .val (.int .i64 0), .val (.int .i64 0), .val (.bool false), .val (.int .i64 0), .val (.int .i64 0)]⟩] [] 0 0) ∧ v15 = x13) ?_ ?_
        · refine PO.case (t := 56) rfl rfl (fun h15 => ?_) (fun h15 => ?_)
          · have e14 := bif_t h15 e14
            refine PO.run 3 rfl ?_
            refine PO.same rfl (pickT_ok rfl rfl rfl) rfl ?_
            refine PO.run 1 rfl ?_
            refine bindK e14 (fun x16 e17 e14 => ?_)
            refine PO.cut 15 (fun s => ∃ (v16 : Bool), Weak s (PS.of 164 [(3, .ptr 0 0), (6, .val (.bool false)), (7, .ptr 1 0), (8, .val (.bool false)), (76, .val (.bool v16))] [⟨0, (cGItem a0)⟩, ⟨0, [.val (.int .i64 a0.kind), .val (.string ByteArray.empty), .val (.int .i64 0), .val (.int .i64 0), .val (.int .i64 a0.width), .val (.int .i64 0), .val (.int .i64 0), .val (.int .i64 0), .val (.int .i64 0), .val (.int .i64 0), .val (.bool false), .val (.int .i64 0), .val (.int .i64 0)]⟩] [] 0 0) ∧ v16 = x16) ?_ ?_
            · refine PO.case (t := 61) rfl rfl (fun h18 => ?_) (fun h18 => ?_)
              · have e17 := bif_t h18 e17
                refine PO.run 3 rfl ?_
                refine PO.same rfl (pickT_ok rfl rfl rfl) rfl ?_
                refine PO.run 1 rfl ?_
                refine bindK e17 (fun x19 e20 e17 => ?_)
                refine PO.cut 10 (fun s => ∃ (v17 : Bool), Weak s (PS.of 164 [(3, .ptr 0 0), (6, .val (.bool false)), (7, .ptr 1 0), (8, .val (.bool false)), (76, .val (.bool v17))] [⟨0, (cGItem a0)⟩, ⟨0, [.val (.int .i64 a0.kind), .val (.string ByteArray.empty), .val (.int .i64 0), .val (.int .i64 0), .val (.int .i64 a0.width), .val (.int .i64 0), .val (.int .i64 0), .val (.int .i64 0), .val (.int .i64 0), .val (.int .i64 0), .val (.bool false), .val (.int .i64 0), .val (.int .i64 0)]⟩] [] 0 0) ∧ v17 = x19) ?_ ?_
                · refine PO.case (t := 66) rfl rfl (fun h21 => ?_) (fun h21 => ?_)
                  · have e20 := bif_t h21 e20
                    refine PO.runK 8 [0, 3] [] (es := [(3, .ptr 0 0), (6, .val (.bool false)), (7, .ptr 1 0), (8, .val (.bool false)), (66, .val (.bool true)), (68, .val (.int .i64 a0.width)), (74, .val (.int .i64 (w (0 - (if a2.width < a1.width then a2.width else a1.width)))))]) (fr' := [⟨0, (cGItem a0)⟩, ⟨0, [.val (.int .i64 a0.kind), .val (.string ByteArray.empty), .val (.int .i64 0), .val (.int .i64 0), .val (.int .i64 a0.width), .val (.int .i64 0), .val (.int .i64 0), .val (.int .i64 0), .val (.int .i64 0), .val (.int .i64 0), .val (.bool false), .val (.int .i64 0), .val (.int .i64 0)]⟩]) (tk' := []) (by kernel_rfl) ?_
                    refine bindK e20 (fun r22 e23 e20 => ?_)
                    refine PO.call rfl rfl rfl rfl (ks := []) (ts := []) (fr1 := []) rfl rfl rfl trivial (L28 k a0.width (w (0 - (if a2.width < a1.width then a2.width else a1.width))) 1099511627776 _ e23) ?_
                    rintro _ _ _ ⟨rfl, rfl, rfl⟩
                    refine ⟨_, _, rfl, rfl, ?_⟩
                    refine PO.same rfl (pickT_ok rfl rfl rfl) rfl ?_
                    refine PO.nil ?_
                    exact ⟨r22, Weak.one [0, 1] [] (by kernel_rfl), Option.some.inj e20⟩
                  · have e20 := bif_f h21 e20
                    refine PO.run 9 rfl ?_
                    refine PO.same rfl (pickF_ok rfl rfl rfl) rfl ?_
                    refine PO.nil ?_
                    exact ⟨false, Weak.one [0, 3] [] (by kernel_rfl), Option.some.inj e20⟩
                · rintro _ ⟨v17, w24, rfl⟩
                  refine PO.weak w24 ?_
                  refine PO.nil ?_
                  exact ⟨v17, Weak.one [0, 1] [] (by kernel_rfl), Option.some.inj e17⟩
              · have e17 := bif_f h18 e17
                refine PO.run 3 rfl ?_
                refine PO.same rfl (pickF_ok rfl rfl rfl) rfl ?_
                refine PO.run 10 rfl ?_
                refine PO.same rfl (pickF_ok rfl rfl rfl) rfl ?_
                refine PO.nil ?_
                exact ⟨false, Weak.one [0, 3] [] (by kernel_rfl), Option.some.inj e17⟩
            · rintro _ ⟨v16, w25, rfl⟩
              refine PO.weak w25 ?_
              refine PO.nil ?_
              exact ⟨v16, Weak.one [0, 1] [] (by kernel_rfl), Option.some.inj e14⟩
          · have e14 := bif_f h15 e14
            refine PO.run 3 rfl ?_
            refine PO.same rfl (pickF_ok rfl rfl rfl) rfl ?_
            refine PO.run 4 rfl ?_
            refine PO.same rfl (pickF_ok rfl rfl rfl) rfl ?_
            refine PO.run 10 rfl ?_
            refine PO.same rfl (pickF_ok rfl rfl rfl) rfl ?_
            refine PO.nil ?_
            exact ⟨false, Weak.one [0, 3] [] (by kernel_rfl), Option.some.inj e14⟩
        · rintro _ ⟨v15, w26, rfl⟩
          refine PO.weak w26 ?_
          refine PO.run 1 rfl ?_
          refine PO.nil ?_
          exact PC.skip (blockJK.end ⟨v15, ByteArray.empty, 0, 0, a0.width, 0, 0, 0, 0, 0, false, 0, 0, Weak.one [0, 1] [] (by kernel_rfl), Option.some.inj e2⟩)
      · have e2 := bif_f h12 e2
        refine PC.assoc ?_
        refine PC.run (n := 3) rfl ?_
        refine PC.cond rfl (fun h27 => ?_) (fun h27 => ?_)
        · have e2 := bif_t h27 e2
          refine PC.assoc ?_
          refine PC.draw [0, 1, 10, 11, 2, 3, 12, 13, 4, 5, 14, 15, 6, 7, 16, 17, 8, 9, 18, 19] (by kernel_rfl) ?_
          refine PD.runK 20 (js' := []) (σ' := ⟨1048575, 1048575, 524287, [(19, [3], false), (17, [3, 3], false), (15, [3, 3, 3], false), (13, [3, 3, 3, 3], false), (11, [3, 3, 3, 3, 3], false)]⟩) (es := [(3, .ptr 0 0), (6, .val (.bool false)), (7, .ptr 3 0), (8, .val (.bool false))]) (fr' := [⟨0, (cGItem a0)⟩, ⟨0, (cGItem a1)⟩, ⟨0, (cGItem a2)⟩, ⟨0, [.val (.int .i64 a0.kind), .val (.string a0.font), .val (.int .i64 a0.size), .val (.int .i64 0), .val (.int .i64 a0.width), .val (.int .i64 0), .val (.int .i64 0), .val (.int .i64 a0.stretch), .val (.int .i64 a0.shrink), .val (.int .i64 0), .val (.bool false), .val (.int .i64 a0.from_), .val (.int .i64 a0.to_)]⟩]) (tk' := []) (by kernel_rfl) ?_
          refine PD.done [0, 3] [] (es := [(3, .ptr 0 0), (6, .val (.bool false)), (7, .ptr 1 0), (8, .val (.bool false))]) (fr' := [⟨0, (cGItem a0)⟩, ⟨0, [.val (.int .i64 a0.kind), .val (.string a0.font), .val (.int .i64 a0.size), .val (.int .i64 0), .val (.int .i64 a0.width), .val (.int .i64 0), .val (.int .i64 0), .val (.int .i64 a0.stretch), .val (.int .i64 a0.shrink), .val (.int .i64 0), .val (.bool false), .val (.int .i64 a0.from_), .val (.int .i64 a0.to_)]⟩]) (tk' := []) (by kernel_rfl) (by kernel_rfl) ?_
          refine PC.region ?_
          refine PO.run 2 rfl ?_
          refine bindK e2 (fun r28 e29 e2 => ?_)
          refine PO.call rfl rfl rfl rfl (ks := []) (ts := []) (fr1 := []) rfl rfl rfl trivial (L28 k a0.size 1 67108864 _ e29) ?_
          rintro _ _ _ ⟨rfl, rfl, rfl⟩
          refine ⟨_, _, rfl, rfl, ?_⟩
          refine PO.run 1 rfl ?_
          refine bindK e2 (fun x30 e31 e2 => ?_)
          refine PO.cut 16 (fun s => ∃ (v18 : Bool), Weak s (PS.of 164 [(3, .ptr 0 0), (6, .val (.bool false)), (7, .ptr 1 0), (8, .val (.bool false)), (113, .val (.bool v18))] [⟨0, (cGItem a0)⟩, ⟨0, [.val (.int .i64 a0.kind), .val (.string a0.font), .val (.int .i64 a0.size), .val (.int .i64 0), .val (.int .i64 a0.width), .val (.int .i64 0), .val (.int .i64 0), .val (.int .i64 a0.stretch), .val (.int .i64 a0.shrink), .val (.int .i64 0), .val (.bool false), .val (.int .i64 a0.from_), .val (.int .i64 a0.to_)]⟩] [] 0 0) ∧ v18 = x30) ?_ ?_
          · refine PO.case (t := 97) rfl rfl (fun h32 => ?_) (fun h32 => ?_)
            · have e31 := bif_t h32 e31
              refine PO.runK 2 [0, 1] [] (es := [(3, .ptr 0 0), (6, .val (.bool false)), (7, .ptr 1 0), (8, .val (.bool false)), (97, .val (.bool true)), (99, .val (.int .i64 a0.width))]) (fr' := [⟨0, (cGItem a0)⟩, ⟨0, [.val (.int .i64 a0.kind), .val (.string a0.font), .val (.int .i64 a0.size), .val (.int .i64 0), .val (.int .i64 a0.width), .val (.int .i64 0), .val (.int .i64 0), .val (.int .i64 a0.stretch), .val (.int .i64 a0.shrink), .val (.int .i64 0), .val (.bool false), .val (.int .i64 a0.from_), .val (.int .i64 a0.to_)]⟩]) (tk' := []) (by kernel_rfl) ?_
              refine bindK e31 (fun r33 e34 e31 => ?_)
              refine PO.call rfl rfl rfl rfl (ks := []) (ts := []) (fr1 := []) rfl rfl rfl trivial (L28 k a0.width 0 67108864 _ e34) ?_
              rintro _ _ _ ⟨rfl, rfl, rfl⟩
              refine ⟨_, _, rfl, rfl, ?_⟩
              refine PO.same rfl (pickT_ok rfl rfl rfl) rfl ?_
              refine PO.run 1 rfl ?_
              refine bindK e31 (fun x35 e36 e31 => ?_)
              refine PO.cut 11 (fun s => ∃ (v19 : Bool), Weak s (PS.of 164 [(3, .ptr 0 0), (6, .val (.bool false)), (7, .ptr 1 0), (8, .val (.bool false)), (113, .val (.bool v19))] [⟨0, (cGItem a0)⟩, ⟨0, [.val (.int .i64 a0.kind), .val (.string a0.font), .val (.int .i64 a0.size), .val (.int .i64 0), .val (.int .i64 a0.width), .val (.int .i64 0), .val (.int .i64 0), .val (.int .i64 a0.stretch), .val (.int .i64 a0.shrink), .val (.int .i64 0), .val (.bool false), .val (.int .i64 a0.from_), .val (.int .i64 a0.to_)]⟩] [] 0 0) ∧ v19 = x35) ?_ ?_
              · refine PO.case (t := 102) rfl rfl (fun h37 => ?_) (fun h37 => ?_)
                · have e36 := bif_t h37 e36
                  refine PO.runK 2 [0, 1] [] (es := [(3, .ptr 0 0), (6, .val (.bool false)), (7, .ptr 1 0), (8, .val (.bool false)), (102, .val (.bool true)), (104, .val (.int .i64 a0.stretch))]) (fr' := [⟨0, (cGItem a0)⟩, ⟨0, [.val (.int .i64 a0.kind), .val (.string a0.font), .val (.int .i64 a0.size), .val (.int .i64 0), .val (.int .i64 a0.width), .val (.int .i64 0), .val (.int .i64 0), .val (.int .i64 a0.stretch), .val (.int .i64 a0.shrink), .val (.int .i64 0), .val (.bool false), .val (.int .i64 a0.from_), .val (.int .i64 a0.to_)]⟩]) (tk' := []) (by kernel_rfl) ?_
                  refine bindK e36 (fun r38 e39 e36 => ?_)
                  refine PO.call rfl rfl rfl rfl (ks := []) (ts := []) (fr1 := []) rfl rfl rfl trivial (L28 k a0.stretch 0 67108864 _ e39) ?_
                  rintro _ _ _ ⟨rfl, rfl, rfl⟩
                  refine ⟨_, _, rfl, rfl, ?_⟩
                  refine PO.same rfl (pickT_ok rfl rfl rfl) rfl ?_
                  refine PO.run 1 rfl ?_
                  refine bindK e36 (fun x40 e41 e36 => ?_)
                  refine PO.cut 6 (fun s => ∃ (v20 : Bool), Weak s (PS.of 164 [(3, .ptr 0 0), (6, .val (.bool false)), (7, .ptr 1 0), (8, .val (.bool false)), (113, .val (.bool v20))] [⟨0, (cGItem a0)⟩, ⟨0, [.val (.int .i64 a0.kind), .val (.string a0.font), .val (.int .i64 a0.size), .val (.int .i64 0), .val (.int .i64 a0.width), .val (.int .i64 0), .val (.int .i64 0), .val (.int .i64 a0.stretch), .val (.int .i64 a0.shrink), .val (.int .i64 0), .val (.bool false), .val (.int .i64 a0.from_), .val (.int .i64 a0.to_)]⟩] [] 0 0) ∧ v20 = x40) ?_ ?_
                  · refine PO.case (t := 107) rfl rfl (fun h42 => ?_) (fun h42 => ?_)
                    · have e41 := bif_t h42 e41
                      refine PO.runK 4 [0, 1] [] (es := [(3, .ptr 0 0), (6, .val (.bool false)), (7, .ptr 1 0), (8, .val (.bool false)), (107, .val (.bool true)), (109, .val (.int .i64 a0.shrink)), (111, .val (.int .i64 a0.width))]) (fr' := [⟨0, (cGItem a0)⟩, ⟨0, [.val (.int .i64 a0.kind), .val (.string a0.font), .val (.int .i64 a0.size), .val (.int .i64 0), .val (.int .i64 a0.width), .val (.int .i64 0), .val (.int .i64 0), .val (.int .i64 a0.stretch), .val (.int .i64 a0.shrink), .val (.int .i64 0), .val (.bool false), .val (.int .i64 a0.from_), .val (.int .i64 a0.to_)]⟩]) (tk' := []) (by kernel_rfl) ?_
                      refine bindK e41 (fun r43 e44 e41 => ?_)
                      refine PO.call rfl rfl rfl rfl (ks := []) (ts := []) (fr1 := []) rfl rfl rfl trivial (L28 k a0.shrink 0 a0.width _ e44) ?_
                      rintro _ _ _ ⟨rfl, rfl, rfl⟩
                      refine ⟨_, _, rfl, rfl, ?_⟩
                      refine PO.same rfl (pickT_ok rfl rfl rfl) rfl ?_
                      refine PO.nil ?_
                      exact ⟨r43, Weak.one [0, 1] [] (by kernel_rfl), Option.some.inj e41⟩
                    · have e41 := bif_f h42 e41
                      refine PO.run 5 rfl ?_
                      refine PO.same rfl (pickF_ok rfl rfl rfl) rfl ?_
                      refine PO.nil ?_
                      exact ⟨false, Weak.one [0, 1] [] (by kernel_rfl), Option.some.inj e41⟩
                  · rintro _ ⟨v20, w45, rfl⟩
                    refine PO.weak w45 ?_
                    refine PO.nil ?_
                    exact ⟨v20, Weak.one [0, 1] [] (by kernel_rfl), Option.some.inj e36⟩
                · have e36 := bif_f h37 e36
                  refine PO.run 3 rfl ?_
                  refine PO.same rfl (pickF_ok rfl rfl rfl) rfl ?_
                  refine PO.run 6 rfl ?_
                  refine PO.same rfl (pickF_ok rfl rfl rfl) rfl ?_
                  refine PO.nil ?_
                  exact ⟨false, Weak.one [0, 1] [] (by kernel_rfl), Option.some.inj e36⟩
              · rintro _ ⟨v19, w46, rfl⟩
                refine PO.weak w46 ?_
                refine PO.nil ?_
                exact ⟨v19, Weak.one [0, 1] [] (by kernel_rfl), Option.some.inj e31⟩
            · have e31 := bif_f h32 e31
              refine PO.run 3 rfl ?_
              refine PO.same rfl (pickF_ok rfl rfl rfl) rfl ?_
              refine PO.run 4 rfl ?_
              refine PO.same rfl (pickF_ok rfl rfl rfl) rfl ?_
              refine PO.run 6 rfl ?_
              refine PO.same rfl (pickF_ok rfl rfl rfl) rfl ?_
              refine PO.nil ?_
              exact ⟨false, Weak.one [0, 1] [] (by kernel_rfl), Option.some.inj e31⟩
          · rintro _ ⟨v18, w47, rfl⟩
            refine PO.weak w47 ?_
            refine PO.run 1 rfl ?_
            refine PO.nil ?_
            exact PC.skip (blockJK.end ⟨v18, a0.font, a0.size, 0, a0.width, 0, 0, a0.stretch, a0.shrink, 0, false, a0.from_, a0.to_, Weak.one [0, 1] [] (by kernel_rfl), Option.some.inj e2⟩)
        · have e2 := bif_f h27 e2
          refine PC.assoc ?_
          refine PC.run (n := 3) rfl ?_
          refine PC.cond rfl (fun h48 => ?_) (fun h48 => ?_)
          · have e2 := bif_t h48 e2
            refine PC.assoc ?_
            refine PC.region ?_
            refine PO.runK 4 [0, 3] [] (es := [(3, .ptr 0 0), (6, .val (.bool false)), (7, .ptr 1 0), (8, .val (.bool false))]) (fr' := [⟨0, (cGItem a0)⟩, ⟨0, [.val (.int .i64 a0.kind), .val (.string ByteArray.empty), .val (.int .i64 0), .val (.int .i64 0), .val (.int .i64 0), .val (.int .i64 0), .val (.int .i64 0), .val (.int .i64 0), .val (.int .i64 0), .val (.int .i64 a0.value), .val (.bool false), .val (.int .i64 a0.from_), .val (.int .i64 a0.to_)]⟩]) (tk' := []) (by kernel_rfl) ?_
            refine PO.nil ?_
            refine PC.assoc ?_
            refine PC.region ?_
            refine PO.run 2 rfl ?_
            refine bindK e2 (fun r49 e50 e2 => ?_)
            refine PO.call rfl rfl rfl rfl (ks := []) (ts := []) (fr1 := []) rfl rfl rfl trivial (L28 k a0.value (-10000) 10000 _ e50) ?_
            rintro _ _ _ ⟨rfl, rfl, rfl⟩
            refine ⟨_, _, rfl, rfl, ?_⟩
            refine PO.run 1 rfl ?_
            refine PO.nil ?_
            refine PC.assoc ?_
            refine PC.run (n := 3) rfl ?_
            refine PC.cond rfl (fun h51 => ?_) (fun h51 => ?_)
            · have e2 := bif_t h51 e2
              refine PC.assoc ?_
              refine PC.draw [12, 13, 0, 1, 14, 15, 2, 3, 16, 17, 4, 5, 18, 19, 6, 7, 20, 21, 8, 9, 22, 23, 10, 11, 24, 25] (by kernel_rfl) ?_
              refine PD.runK 26 (js' := []) (σ' := ⟨67108863, 67108863, 33554431, [(25, [1], false), (23, [1, 1], false), (21, [1, 1, 1], false), (19, [1, 1, 1, 1], false), (17, [1, 1, 1, 1, 1], false), (15, [1, 1, 1, 1, 1, 1], false), (13, [1, 1, 1, 1, 1, 1, 1], false)]⟩) (es := [(3, .ptr 0 0), (6, .val (.bool false)), (7, .ptr 1 0), (8, .val (.bool r49))]) (fr' := [⟨0, (cGItem a0)⟩, ⟨0, [.val (.int .i64 a0.kind), .val (.string a0.font), .val (.int .i64 a0.size), .val (.int .i64 a0.rune), .val (.int .i64 a0.width), .val (.int .i64 a0.height), .val (.int .i64 a0.depth), .val (.int .i64 0), .val (.int .i64 0), .val (.int .i64 a0.value), .val (.bool true), .val (.int .i64 a0.from_), .val (.int .i64 a0.to_)]⟩]) (tk' := []) (by kernel_rfl) ?_
              refine PD.done [0, 1] [] (es := [(3, .ptr 0 0), (6, .val (.bool false)), (7, .ptr 1 0), (8, .val (.bool r49))]) (fr' := [⟨0, (cGItem a0)⟩, ⟨0, [.val (.int .i64 a0.kind), .val (.string a0.font), .val (.int .i64 a0.size), .val (.int .i64 a0.rune), .val (.int .i64 a0.width), .val (.int .i64 a0.height), .val (.int .i64 a0.depth), .val (.int .i64 0), .val (.int .i64 0), .val (.int .i64 a0.value), .val (.bool true), .val (.int .i64 a0.from_), .val (.int .i64 a0.to_)]⟩]) (tk' := []) (by kernel_rfl) (by kernel_rfl) ?_
              refine PC.region ?_
              refine PO.run 2 rfl ?_
              refine bindK e2 (fun x52 e53 e2 => ?_)
              refine PO.cut 13 (fun s => ∃ (v21 : Bool), Weak s (PS.of 164 [(3, .ptr 0 0), (6, .val (.bool false)), (7, .ptr 1 0), (8, .val (.bool r49)), (157, .val (.bool v21))] [⟨0, (cGItem a0)⟩, ⟨0, [.val (.int .i64 a0.kind), .val (.string a0.font), .val (.int .i64 a0.size), .val (.int .i64 a0.rune), .val (.int .i64 a0.width), .val (.int .i64 a0.height), .val (.int .i64 a0.depth), .val (.int .i64 0), .val (.int .i64 0), .val (.int .i64 a0.value), .val (.bool true), .val (.int .i64 a0.from_), .val (.int .i64 a0.to_)]⟩] [] 0 0) ∧ v21 = x52) ?_ ?_
              · refine PO.case (t := 144) rfl rfl (fun h54 => ?_) (fun h54 => ?_)
                · have e53 := bif_t h54 e53
                  refine PO.runK 1 [0, 1] [] (es := [(3, .ptr 0 0), (6, .val (.bool false)), (7, .ptr 1 0), (8, .val (.bool r49)), (144, .val (.bool true)), (145, .agg (cGItem a0))]) (fr' := [⟨0, (cGItem a0)⟩, ⟨0, [.val (.int .i64 a0.kind), .val (.string a0.font), .val (.int .i64 a0.size), .val (.int .i64 a0.rune), .val (.int .i64 a0.width), .val (.int .i64 a0.height), .val (.int .i64 a0.depth), .val (.int .i64 0), .val (.int .i64 0), .val (.int .i64 a0.value), .val (.bool true), .val (.int .i64 a0.from_), .val (.int .i64 a0.to_)]⟩]) (tk' := []) (by kernel_rfl) ?_
                  refine bindK e53 (fun r55 e56 e53 => ?_)
                  refine PO.call rfl rfl rfl rfl (ks := []) (ts := []) (fr1 := []) rfl rfl rfl trivial (L33 k a0 _ e56) ?_
                  rintro _ _ _ ⟨rfl, rfl, rfl⟩
                  refine ⟨_, _, rfl, rfl, ?_⟩
                  refine PO.same rfl (pickT_ok rfl rfl rfl) rfl ?_
                  refine PO.run 1 rfl ?_
                  refine bindK e53 (fun x57 e58 e53 => ?_)
                  refine PO.cut 9 (fun s => ∃ (v22 : Bool), Weak s (PS.of 164 [(3, .ptr 0 0), (6, .val (.bool false)), (7, .ptr 1 0), (8, .val (.bool r49)), (157, .val (.bool v22))] [⟨0, (cGItem a0)⟩, ⟨0, [.val (.int .i64 a0.kind), .val (.string a0.font), .val (.int .i64 a0.size), .val (.int .i64 a0.rune), .val (.int .i64 a0.width), .val (.int .i64 a0.height), .val (.int .i64 a0.depth), .val (.int .i64 0), .val (.int .i64 0), .val (.int .i64 a0.value), .val (.bool true), .val (.int .i64 a0.from_), .val (.int .i64 a0.to_)]⟩] [] 0 0) ∧ v22 = x57) ?_ ?_
                  · refine PO.case (t := 148) rfl rfl (fun h59 => ?_) (fun h59 => ?_)
                    · have e58 := bif_t h59 e58
                      refine PO.run 3 rfl ?_
                      refine PO.same rfl (pickT_ok rfl rfl rfl) rfl ?_
                      refine PO.run 1 rfl ?_
                      refine bindK e58 (fun x60 e61 e58 => ?_)
                      refine PO.cut 4 (fun s => ∃ (v23 : Bool), Weak s (PS.of 164 [(3, .ptr 0 0), (6, .val (.bool false)), (7, .ptr 1 0), (8, .val (.bool r49)), (157, .val (.bool v23))] [⟨0, (cGItem a0)⟩, ⟨0, [.val (.int .i64 a0.kind), .val (.string a0.font), .val (.int .i64 a0.size), .val (.int .i64 a0.rune), .val (.int .i64 a0.width), .val (.int .i64 a0.height), .val (.int .i64 a0.depth), .val (.int .i64 0), .val (.int .i64 0), .val (.int .i64 a0.value), .val (.bool true), .val (.int .i64 a0.from_), .val (.int .i64 a0.to_)]⟩] [] 0 0) ∧ v23 = x60) ?_ ?_
                      · refine PO.case (t := 153) rfl rfl (fun h62 => ?_) (fun h62 => ?_)
                        · have e61 := bif_t h62 e61
                          refine PO.run 3 rfl ?_
                          refine PO.same rfl (pickT_ok rfl rfl rfl) rfl ?_
                          refine PO.nil ?_
                          exact ⟨decide (a0.value > (-10000)), Weak.one [0, 1] [] (by kernel_rfl), Option.some.inj e61⟩
                        · have e61 := bif_f h62 e61
                          refine PO.run 3 rfl ?_
                          refine PO.same rfl (pickF_ok rfl rfl rfl) rfl ?_
                          refine PO.nil ?_
                          exact ⟨false, Weak.one [0, 1] [] (by kernel_rfl), Option.some.inj e61⟩
                      · rintro _ ⟨v23, w63, rfl⟩
                        refine PO.weak w63 ?_
                        refine PO.nil ?_
                        exact ⟨v23, Weak.one [0, 1] [] (by kernel_rfl), Option.some.inj e58⟩
                    · have e58 := bif_f h59 e58
                      refine PO.run 3 rfl ?_
                      refine PO.same rfl (pickF_ok rfl rfl rfl) rfl ?_
                      refine PO.run 4 rfl ?_
                      refine PO.same rfl (pickF_ok rfl rfl rfl) rfl ?_
                      refine PO.nil ?_
                      exact ⟨false, Weak.one [0, 1] [] (by kernel_rfl), Option.some.inj e58⟩
                  · rintro _ ⟨v22, w64, rfl⟩
                    refine PO.weak w64 ?_
                    refine PO.nil ?_
                    exact ⟨v22, Weak.one [0, 1] [] (by kernel_rfl), Option.some.inj e53⟩
                · have e53 := bif_f h54 e53
                  refine PO.run 2 rfl ?_
                  refine PO.same rfl (pickF_ok rfl rfl rfl) rfl ?_
                  refine PO.run 4 rfl ?_
                  refine PO.same rfl (pickF_ok rfl rfl rfl) rfl ?_
                  refine PO.run 4 rfl ?_
                  refine PO.same rfl (pickF_ok rfl rfl rfl) rfl ?_
                  refine PO.nil ?_
                  exact ⟨false, Weak.one [0, 1] [] (by kernel_rfl), Option.some.inj e53⟩
              · rintro _ ⟨v21, w65, rfl⟩
                refine PO.weak w65 ?_
                refine PO.run 1 rfl ?_
                refine PO.nil ?_
                exact PC.skip (blockJK.end ⟨v21, a0.font, a0.size, a0.rune, a0.width, a0.height, a0.depth, 0, 0, a0.value, true, a0.from_, a0.to_, Weak.one [0, 1] [] (by kernel_rfl), Option.some.inj e2⟩)
            · have e2 := bif_f h51 e2
              refine PC.noop ?_
              exact PC.skip (blockJK.end ⟨r49, ByteArray.empty, 0, 0, 0, 0, 0, 0, 0, a0.value, false, a0.from_, a0.to_, Weak.one [0, 1] [] (by kernel_rfl), Option.some.inj e2⟩)
          · have e2 := bif_f h48 e2
            refine PC.noop ?_
            exact PC.skip (blockJK.end ⟨false, ByteArray.empty, 0, 0, 0, 0, 0, 0, 0, 0, false, a0.from_, a0.to_, Weak.one [0, 3] [] (by kernel_rfl), Option.some.inj e2⟩)
  · rintro _ ⟨v1, v2, v3, v4, v5, v6, v7, v8, v9, v10, v11, v12, v13, w66, rfl⟩
    refine PC.weak w66 ?_
    refine PC.region ?_
    refine PO.run 2 rfl ?_
    refine bindK hF (fun x67 e68 hF => ?_)
    refine PO.cut 4 (fun s => ∃ (v24 : Bool), Weak s (PS.of 164 [(6, .val (.bool false)), (163, .val (.bool v24))] [] [] 0 0) ∧ v24 = x67) ?_ ?_
    · refine PO.case (t := 159) rfl rfl (fun h69 => ?_) (fun h69 => ?_)
      · have e68 := bif_t h69 e68
        refine PO.runK 2 [] [] (es := [(6, .val (.bool false)), (159, .val (.bool true)), (160, .agg (cGItem a0)), (161, .agg [.val (.int .i64 a0.kind), .val (.string v2), .val (.int .i64 v3), .val (.int .i64 v4), .val (.int .i64 v5), .val (.int .i64 v6), .val (.int .i64 v7), .val (.int .i64 v8), .val (.int .i64 v9), .val (.int .i64 v10), .val (.bool v11), .val (.int .i64 v12), .val (.int .i64 v13)])]) (fr' := []) (tk' := []) (by kernel_rfl) ?_
        refine PO.same rfl (aggEq_ok (v := .bool (a0.kind == a0.kind && (a0.font == v2 && (a0.size == v3 && (a0.rune == v4 && (a0.width == v5 && (a0.height == v6 && (a0.depth == v7 && (a0.stretch == v8 && (a0.shrink == v9 && (a0.value == v10 && (a0.flag == v11 && (a0.from_ == v12 && (a0.to_ == v13 && true)))))))))))))) rfl rfl rfl rfl rfl rfl rfl (by kernel_rfl)) rfl ?_
        refine PO.same rfl (pickT_ok rfl rfl rfl) rfl ?_
        refine PO.nil ?_
        exact ⟨(a0.kind == a0.kind && (a0.font == v2 && (a0.size == v3 && (a0.rune == v4 && (a0.width == v5 && (a0.height == v6 && (a0.depth == v7 && (a0.stretch == v8 && (a0.shrink == v9 && (a0.value == v10 && (a0.flag == v11 && (a0.from_ == v12 && (a0.to_ == v13 && true))))))))))))), Weak.one [] [] (by kernel_rfl), Option.some.inj e68⟩
      · have e68 := bif_f h69 e68
        refine PO.run 3 rfl ?_
        refine PO.same rfl (pickF_ok rfl rfl rfl) rfl ?_
        refine PO.nil ?_
        exact ⟨false, Weak.one [] [] (by kernel_rfl), Option.some.inj e68⟩
    · rintro _ ⟨v24, w70, rfl⟩
      refine PO.weak w70 ?_
      refine PO.run 1 rfl ?_
      refine PO.nil ?_
      have hq := Option.some.inj hF
      subst hq
      exact PC.ret' (retSK [] [] (by kernel_rfl) (.refl _) ⟨rfl, rfl, rfl⟩)

/-! 14 platen/items.Check -/
def F14_l1 (k : Nat) (a0 : List GItem) : Nat → Int → Int → Option ((Unit) ⊕ (Int))
  | 0, _, _ => none
  | j4 + 1, v3, v4 =>
    bif decide (v4 < (a0.length : Int)) then (Option.bind (α := (Int) ⊕ ((Unit) ⊕ (Int))) (bindI a0 v4 fun y8 =>
    Option.bind (α := Int × ByteArray × Int × Int × Int × Int × Int × Int × Int × Int × Bool × Int × Int) (bif decide (v4 > 0) then (bindI a0 (w (v4 - 1)) fun y22 =>
    some (y22.kind, y22.font, y22.size, y22.rune, y22.width, y22.height, y22.depth, y22.stretch, y22.shrink, y22.value, y22.flag, y22.from_, y22.to_)) else (some (0, ByteArray.empty, 0, 0, 0, 0, 0, 0, 0, 0, false, 0, 0))) fun (v9, v10, v11, v12, v13, v14, v15, v16, v17, v18, v19, v20, v21) =>
    Option.bind (α := Int × ByteArray × Int × Int × Int × Int × Int × Int × Int × Int × Bool × Int × Int) (bif decide ((w (v4 + 1)) < (a0.length : Int)) then (bindI a0 (w (v4 + 1)) fun y36 =>
    some (y36.kind, y36.font, y36.size, y36.rune, y36.width, y36.height, y36.depth, y36.stretch, y36.shrink, y36.value, y36.flag, y36.from_, y36.to_)) else (some (0, ByteArray.empty, 0, 0, 0, 0, 0, 0, 0, 0, false, 0, 0))) fun (v23, v24, v25, v26, v27, v28, v29, v30, v31, v32, v33, v34, v35) =>
    (F27 k y8 (GItem.mk v9 v10 v11 v12 v13 v14 v15 v16 v17 v18 v19 v20 v21) (GItem.mk v23 v24 v25 v26 v27 v28 v29 v30 v31 v32 v33 v34 v35)).bind fun r23 =>
    bif !r23 then (some (.inr (.inr 1))) else (bif y8.kind == 2 then (some (.inl v3)) else (Option.bind (α := Bool) (bif decide (y8.from_ < v3) then (some true) else ((F28 k y8.to_ y8.from_ 65536).bind fun r30 =>
    some (!r30))) fun (v37 : Bool) =>
    bif v37 then (some (.inr (.inr 1))) else (some (.inl y8.to_))))) (Sum.elim (fun (v7 : Int) =>
    F14_l1 k a0 j4 v7 (w (v4 + 1))) some)) else (some (.inl ()))
def F14 (k : Nat) (a0 : List GItem) : Option Int :=
bif decide ((a0.length : Int) > 4096) then (some 130) else (Option.bind (α := (Unit) ⊕ (Int)) (F14_l1 k a0 k 0 0) (Sum.elim (fun (_ : Unit) =>
Option.bind (α := Bool) (bif decide ((a0.length : Int) > 0) then (bindI a0 (w ((a0.length : Int) - 1)) fun y39 =>
Option.bind (α := Bool) (bif y39.kind != 4 then (some true) else (bindI a0 (w ((a0.length : Int) - 1)) fun y41 =>
some (y41.value != (-10000)))) fun (v40 : Bool) =>
some v40) else (some false)) fun (v38 : Bool) =>
bif v38 then (some 1) else (some 0)) some))
theorem L14 (k : Nat) (a0 : List GItem) (r : Int) (hF : F14 k a0 = some r) : PF Try.prog orc 14 [.list 13 (List.map cGItem a0) none] [] [] (fun p fr tk => p = .val (.int .i64 r) ∧ fr = [] ∧ tk = []) := by
  unfold F14 at hF
  refine PF.enterS Try.func14 rfl rfl rfl (by kernel_rfl) rfl ?_
  refine PC.run (n := 2) rfl ?_
  refine PC.assoc ?_
  refine PC.region ?_
  refine PO.run 1 rfl ?_
  refine PO.same rfl (len_ok Try.underlying22 rfl (List.length_map _)) rfl ?_
  refine PO.run 1 rfl ?_
  refine PO.nil ?_
  refine PC.cond rfl (fun h1 => ?_) (fun h1 => ?_)
  · have hF := bif_t h1 hF
    refine PC.assoc ?_
    refine PC.run (n := 2) rfl ?_
    have hq := Option.some.inj hF
    subst hq
    exact PC.ret (retSK [] [] (by kernel_rfl) (.refl _) ⟨rfl, rfl, rfl⟩)
  · have hF := bif_f h1 hF
    refine PC.noop ?_
    refine PC.run (n := 2) rfl ?_
    refine PC.assoc ?_
    refine PC.region ?_
    refine PO.run 1 rfl ?_
    refine PO.same rfl (len_ok Try.underlying22 rfl (List.length_map _)) rfl ?_
    refine PO.run 1 rfl ?_
    refine PO.nil ?_
    refine bindK hF (fun x2 e3 hF => ?_)
    refine PC.blockJ (fun s => Weak s (PS.of 81 [(0, .list 13 (List.map cGItem a0) none), (2, .val (.int .i64 0))] [] [] 0 0) ∧ .inl () = x2) ?_ ?_
    · refine PC.loop (fun j4 s => ∃ (v3 : Int) (v4 : Int), Weak s (PS.of 81 [(0, .list 13 (List.map cGItem a0) none), (2, .val (.int .i64 0)), (3, .val (.int .i64 v3)), (12, .list 13 (List.map cGItem a0) none), (13, .val (.int .i64 (a0.length : Int))), (14, .val (.int .i64 v4))] [] [] 0 0) ∧ F14_l1 k a0 j4 v3 v4 = some x2) (fun j4 s => ?_) k ⟨0, 0, Weak.one [] [] (by kernel_rfl), e3⟩
      rintro ⟨v3, v4, w5, e3⟩
      refine PC.weak w5 ?_
      cases j4 with
      | zero => rw [F14_l1] at e3; cases e3
      | succ j4 =>
        rw [F14_l1] at e3
        refine PC.run (n := 2) rfl ?_
        refine PC.cond rfl (fun h6 => ?_) (fun h6 => ?_)
        · have e3 := bif_t h6 e3
          refine PC.noop ?_
          refine bindK e3 (fun x7 e8 e3 => ?_)
          refine PC.blockJ (fun s => ∃ (v7 : Int), Weak s (PS.of 81 [(0, .list 13 (List.map cGItem a0) none), (2, .val (.int .i64 0)), (3, .val (.int .i64 v7)), (12, .list 13 (List.map cGItem a0) none), (13, .val (.int .i64 (a0.length : Int))), (14, .val (.int .i64 v4))] [] [] 0 0) ∧ .inl v7 = x7) ?_ ?_
          · refine PC.region ?_
            refine PO.run 1 rfl ?_
            refine bindIK e8 (fun y8 h9 h10 e8 => ?_)
            refine PO.same rfl (indexAddr_ok Try.underlying22 rfl rfl rfl h9 (map_at h10)) rfl ?_
            refine PO.runK 4 [0] [] (es := [(0, .list 13 (List.map cGItem a0) none), (2, .val (.int .i64 0)), (3, .val (.int .i64 v3)), (4, .val (.int .i64 v4)), (5, .ptr 0 0), (12, .list 13 (List.map cGItem a0) none), (13, .val (.int .i64 (a0.length : Int))), (14, .val (.int .i64 v4))]) (fr' := [⟨0, (cGItem y8)⟩]) (tk' := []) (by kernel_rfl) ?_
            refine PO.nil ?_
            refine PC.region ?_
            refine PO.runK 2 [0, 1, 2] [] (es := [(0, .list 13 (List.map cGItem a0) none), (2, .val (.int .i64 0)), (3, .val (.int .i64 v3)), (4, .val (.int .i64 v4)), (5, .ptr 0 0), (6, .ptr 1 0), (7, .ptr 2 0), (12, .list 13 (List.map cGItem a0) none), (13, .val (.int .i64 (a0.length : Int))), (14, .val (.int .i64 v4))]) (fr' := [⟨0, (cGItem y8)⟩, ⟨0, [.val (.int .i64 0), .val (.string ByteArray.empty), .val (.int .i64 0), .val (.int .i64 0), .val (.int .i64 0), .val (.int .i64 0), .val (.int .i64 0), .val (.int .i64 0), .val (.int .i64 0), .val (.int .i64 0), .val (.bool false), .val (.int .i64 0), .val (.int .i64 0)]⟩, ⟨0, [.val (.int .i64 0), .val (.string ByteArray.empty), .val (.int .i64 0), .val (.int .i64 0), .val (.int .i64 0), .val (.int .i64 0), .val (.int .i64 0), .val (.int .i64 0), .val (.int .i64 0), .val (.int .i64 0), .val (.bool false), .val (.int .i64 0), .val (.int .i64 0)]⟩]) (tk' := []) (by kernel_rfl) ?_
            refine PO.nil ?_
            refine PC.assoc ?_
            refine PC.run (n := 3) rfl ?_
            refine bindK e8 (fun x11 e12 e8 => ?_)
            refine PC.join (fun s => ∃ (v9 : Int) (v10 : ByteArray) (v11 : Int) (v12 : Int) (v13 : Int) (v14 : Int) (v15 : Int) (v16 : Int) (v17 : Int) (v18 : Int) (v19 : Bool) (v20 : Int) (v21 : Int), Weak s (PS.of 81 [(0, .list 13 (List.map cGItem a0) none), (2, .val (.int .i64 0)), (3, .val (.int .i64 v3)), (4, .val (.int .i64 v4)), (5, .ptr 0 0), (6, .ptr 1 0), (7, .ptr 2 0), (12, .list 13 (List.map cGItem a0) none), (13, .val (.int .i64 (a0.length : Int))), (14, .val (.int .i64 v4))] [⟨0, (cGItem y8)⟩, ⟨0, [.val (.int .i64 v9), .val (.string v10), .val (.int .i64 v11), .val (.int .i64 v12), .val (.int .i64 v13), .val (.int .i64 v14), .val (.int .i64 v15), .val (.int .i64 v16), .val (.int .i64 v17), .val (.int .i64 v18), .val (.bool v19), .val (.int .i64 v20), .val (.int .i64 v21)]⟩, ⟨0, [.val (.int .i64 0), .val (.string ByteArray.empty), .val (.int .i64 0), .val (.int .i64 0), .val (.int .i64 0), .val (.int .i64 0), .val (.int .i64 0), .val (.int .i64 0), .val (.int .i64 0), .val (.int .i64 0), .val (.bool false), .val (.int .i64 0), .val (.int .i64 0)]⟩] [] 0 0) ∧ (v9, v10, v11, v12, v13, v14, v15, v16, v17, v18, v19, v20, v21) = x11) ?_ ?_
            · refine PC.cond rfl (fun h13 => ?_) (fun h13 => ?_)
              · have e12 := bif_t h13 e12
                refine PC.region ?_
                refine PO.run 3 rfl ?_
                refine bindIK e12 (fun y22 h14 h15 e12 => ?_)
                refine PO.same rfl (indexAddr_ok Try.underlying22 rfl rfl rfl h14 (map_at h15)) rfl ?_
                refine PO.runK 2 [0, 1, 2] [] (es := [(0, .list 13 (List.map cGItem a0) none), (2, .val (.int .i64 0)), (3, .val (.int .i64 v3)), (4, .val (.int .i64 v4)), (5, .ptr 0 0), (6, .ptr 1 0), (7, .ptr 2 0), (12, .list 13 (List.map cGItem a0) none), (13, .val (.int .i64 (a0.length : Int))), (14, .val (.int .i64 v4))]) (fr' := [⟨0, (cGItem y8)⟩, ⟨0, (cGItem y22)⟩, ⟨0, [.val (.int .i64 0), .val (.string ByteArray.empty), .val (.int .i64 0), .val (.int .i64 0), .val (.int .i64 0), .val (.int .i64 0), .val (.int .i64 0), .val (.int .i64 0), .val (.int .i64 0), .val (.int .i64 0), .val (.bool false), .val (.int .i64 0), .val (.int .i64 0)]⟩]) (tk' := []) (by kernel_rfl) ?_
                refine PO.nil ?_
                exact PC.skip (joinKP.end ⟨y22.kind, y22.font, y22.size, y22.rune, y22.width, y22.height, y22.depth, y22.stretch, y22.shrink, y22.value, y22.flag, y22.from_, y22.to_, Weak.one [0, 1, 2] [] (by kernel_rfl), Option.some.inj e12⟩)
              · have e12 := bif_f h13 e12
                refine PC.noop ?_
                exact PC.skip (joinKP.end ⟨0, ByteArray.empty, 0, 0, 0, 0, 0, 0, 0, 0, false, 0, 0, Weak.one [0, 1, 2] [] (by kernel_rfl), Option.some.inj e12⟩)
            · rintro _ ⟨v9, v10, v11, v12, v13, v14, v15, v16, v17, v18, v19, v20, v21, w16, rfl⟩
              refine PC.weak w16 ?_
              refine PC.assoc ?_
              refine PC.region ?_
              refine PO.run 3 rfl ?_
              refine PO.same rfl (len_ok Try.underlying22 rfl (List.length_map _)) rfl ?_
              refine PO.run 1 rfl ?_
              refine PO.nil ?_
              refine bindK e8 (fun x17 e18 e8 => ?_)
              refine PC.join (fun s => ∃ (v23 : Int) (v24 : ByteArray) (v25 : Int) (v26 : Int) (v27 : Int) (v28 : Int) (v29 : Int) (v30 : Int) (v31 : Int) (v32 : Int) (v33 : Bool) (v34 : Int) (v35 : Int), Weak s (PS.of 81 [(0, .list 13 (List.map cGItem a0) none), (2, .val (.int .i64 0)), (3, .val (.int .i64 v3)), (5, .ptr 0 0), (6, .ptr 1 0), (7, .ptr 2 0), (12, .list 13 (List.map cGItem a0) none), (13, .val (.int .i64 (a0.length : Int))), (14, .val (.int .i64 v4))] [⟨0, (cGItem y8)⟩, ⟨0, [.val (.int .i64 v9), .val (.string v10), .val (.int .i64 v11), .val (.int .i64 v12), .val (.int .i64 v13), .val (.int .i64 v14), .val (.int .i64 v15), .val (.int .i64 v16), .val (.int .i64 v17), .val (.int .i64 v18), .val (.bool v19), .val (.int .i64 v20), .val (.int .i64 v21)]⟩, ⟨0, [.val (.int .i64 v23), .val (.string v24), .val (.int .i64 v25), .val (.int .i64 v26), .val (.int .i64 v27), .val (.int .i64 v28), .val (.int .i64 v29), .val (.int .i64 v30), .val (.int .i64 v31), .val (.int .i64 v32), .val (.bool v33), .val (.int .i64 v34), .val (.int .i64 v35)]⟩] [] 0 0) ∧ (v23, v24, v25, v26, v27, v28, v29, v30, v31, v32, v33, v34, v35) = x17) ?_ ?_
              · refine PC.cond rfl (fun h19 => ?_) (fun h19 => ?_)
                · have e18 := bif_t h19 e18
                  refine PC.region ?_
                  refine PO.run 3 rfl ?_
                  refine bindIK e18 (fun y36 h20 h21 e18 => ?_)
                  refine PO.same rfl (indexAddr_ok Try.underlying22 rfl rfl rfl h20 (map_at h21)) rfl ?_
                  refine PO.runK 2 [0, 1, 2] [] (es := [(0, .list 13 (List.map cGItem a0) none), (2, .val (.int .i64 0)), (3, .val (.int .i64 v3)), (5, .ptr 0 0), (6, .ptr 1 0), (7, .ptr 2 0), (12, .list 13 (List.map cGItem a0) none), (13, .val (.int .i64 (a0.length : Int))), (14, .val (.int .i64 v4))]) (fr' := [⟨0, (cGItem y8)⟩, ⟨0, [.val (.int .i64 v9), .val (.string v10), .val (.int .i64 v11), .val (.int .i64 v12), .val (.int .i64 v13), .val (.int .i64 v14), .val (.int .i64 v15), .val (.int .i64 v16), .val (.int .i64 v17), .val (.int .i64 v18), .val (.bool v19), .val (.int .i64 v20), .val (.int .i64 v21)]⟩, ⟨0, (cGItem y36)⟩]) (tk' := []) (by kernel_rfl) ?_
                  refine PO.nil ?_
                  exact PC.skip (joinKP.end ⟨y36.kind, y36.font, y36.size, y36.rune, y36.width, y36.height, y36.depth, y36.stretch, y36.shrink, y36.value, y36.flag, y36.from_, y36.to_, Weak.one [0, 1, 2] [] (by kernel_rfl), Option.some.inj e18⟩)
                · have e18 := bif_f h19 e18
                  refine PC.noop ?_
                  exact PC.skip (joinKP.end ⟨0, ByteArray.empty, 0, 0, 0, 0, 0, 0, 0, 0, false, 0, 0, Weak.one [0, 1, 2] [] (by kernel_rfl), Option.some.inj e18⟩)
              · rintro _ ⟨v23, v24, v25, v26, v27, v28, v29, v30, v31, v32, v33, v34, v35, w22, rfl⟩
                refine PC.weak w22 ?_
                refine PC.assoc ?_
                refine PC.region ?_
                refine PO.run 3 rfl ?_
                refine bindK e8 (fun r23 e24 e8 => ?_)
                refine PO.call rfl rfl rfl rfl (ks := []) (ts := []) (fr1 := []) rfl rfl rfl trivial (L27 k y8 (GItem.mk v9 v10 v11 v12 v13 v14 v15 v16 v17 v18 v19 v20 v21) (GItem.mk v23 v24 v25 v26 v27 v28 v29 v30 v31 v32 v33 v34 v35) _ e24) ?_
                rintro _ _ _ ⟨rfl, rfl, rfl⟩
                refine ⟨_, _, rfl, rfl, ?_⟩
                refine PO.run 1 rfl ?_
                refine PO.nil ?_
                refine PC.cond rfl (fun h25 => ?_) (fun h25 => ?_)
                · have e8 := bif_t h25 e8
                  refine PC.assoc ?_
                  refine PC.run (n := 2) rfl ?_
                  have hq := Option.some.inj e8
                  subst hq
                  have hq := Option.some.inj e3
                  subst hq
                  have hq := Option.some.inj hF
                  subst hq
                  exact PC.ret (blockJK.back (loopKP.ret (blockJK.back (retSK [] [] (by kernel_rfl) (.refl _) ⟨rfl, rfl, rfl⟩))))
                · have e8 := bif_f h25 e8
                  refine PC.noop ?_
                  refine PC.assoc ?_
                  refine PC.run (n := 4) rfl ?_
                  refine PC.cond rfl (fun h26 => ?_) (fun h26 => ?_)
                  · have e8 := bif_t h26 e8
                    exact PC.exit (blockJK.here ⟨v3, Weak.one [] [] (by kernel_rfl), Option.some.inj e8⟩)
                  · have e8 := bif_f h26 e8
                    refine PC.noop ?_
                    refine PC.assoc ?_
                    refine PC.region ?_
                    refine PO.run 5 rfl ?_
                    refine bindK e8 (fun x27 e28 e8 => ?_)
                    refine PO.cut 7 (fun s => ∃ (v37 : Bool), Weak s (PS.of 81 [(0, .list 13 (List.map cGItem a0) none), (2, .val (.int .i64 0)), (3, .val (.int .i64 v3)), (5, .ptr 0 0), (12, .list 13 (List.map cGItem a0) none), (13, .val (.int .i64 (a0.length : Int))), (14, .val (.int .i64 v4)), (55, .val (.bool v37))] [⟨0, (cGItem y8)⟩] [] 0 0) ∧ v37 = x27) ?_ ?_
                    · refine PO.case (t := 48) rfl rfl (fun h29 => ?_) (fun h29 => ?_)
                      · have e28 := bif_t h29 e28
                        refine PO.run 6 rfl ?_
                        refine PO.same rfl (pickT_ok rfl rfl rfl) rfl ?_
                        refine PO.nil ?_
                        exact ⟨true, Weak.one [0] [] (by kernel_rfl), Option.some.inj e28⟩
                      · have e28 := bif_f h29 e28
                        refine PO.runK 4 [0] [] (es := [(0, .list 13 (List.map cGItem a0) none), (2, .val (.int .i64 0)), (3, .val (.int .i64 v3)), (5, .ptr 0 0), (12, .list 13 (List.map cGItem a0) none), (13, .val (.int .i64 (a0.length : Int))), (14, .val (.int .i64 v4)), (48, .val (.bool false)), (50, .val (.int .i64 y8.to_)), (52, .val (.int .i64 y8.from_))]) (fr' := [⟨0, (cGItem y8)⟩]) (tk' := []) (by kernel_rfl) ?_
                        refine bindK e28 (fun r30 e31 e28 => ?_)
                        refine PO.call rfl rfl rfl rfl (ks := []) (ts := []) (fr1 := []) rfl rfl rfl trivial (L28 k y8.to_ y8.from_ 65536 _ e31) ?_
                        rintro _ _ _ ⟨rfl, rfl, rfl⟩
                        refine ⟨_, _, rfl, rfl, ?_⟩
                        refine PO.run 1 rfl ?_
                        refine PO.same rfl (pickF_ok rfl rfl rfl) rfl ?_
                        refine PO.nil ?_
                        exact ⟨!r30, Weak.one [0] [] (by kernel_rfl), Option.some.inj e28⟩
                    · rintro _ ⟨v37, w32, rfl⟩
                      refine PO.weak w32 ?_
                      refine PO.nil ?_
                      refine PC.cond rfl (fun h33 => ?_) (fun h33 => ?_)
                      · have e8 := bif_t h33 e8
                        refine PC.assoc ?_
                        refine PC.run (n := 2) rfl ?_
                        have hq := Option.some.inj e8
                        subst hq
                        have hq := Option.some.inj e3
                        subst hq
                        have hq := Option.some.inj hF
                        subst hq
                        exact PC.ret (blockJK.back (loopKP.ret (blockJK.back (retSK [] [] (by kernel_rfl) (.refl _) ⟨rfl, rfl, rfl⟩))))
                      · have e8 := bif_f h33 e8
                        refine PC.noop ?_
                        refine PC.lone ?_
                        refine PC.run (n := 4) rfl ?_
                        exact PC.skip (blockJK.end ⟨y8.to_, Weak.one [] [] (by kernel_rfl), Option.some.inj e8⟩)
          · rintro _ ⟨v7, w34, rfl⟩
            refine PC.weak w34 ?_
            have e3 := elim_l e3
            refine PC.lone ?_
            refine PC.run (n := 3) rfl ?_
            exact PC.skip (loopKP.mk (Nat.lt_succ_self _) ⟨v7, w (v4 + 1), Weak.one [] [] (by kernel_rfl), e3⟩)
        · have e3 := bif_f h6 e3
          exact PC.exit (loopKP.exit (blockJK.here ⟨Weak.one [] [] (by kernel_rfl), Option.some.inj e3⟩))
    · rintro _ ⟨w35, rfl⟩
      refine PC.weak w35 ?_
      have hF := elim_l hF
      refine PC.assoc ?_
      refine PC.region ?_
      refine PO.run 1 rfl ?_
      refine PO.same rfl (len_ok Try.underlying22 rfl (List.length_map _)) rfl ?_
      refine PO.run 1 rfl ?_
      refine PO.nil ?_
      refine PC.assoc ?_
      refine PC.region ?_
      refine PO.run 3 rfl ?_
      refine bindK hF (fun x36 e37 hF => ?_)
      refine PO.cut 17 (fun s => ∃ (v38 : Bool), Weak s (PS.of 81 [(2, .val (.int .i64 0)), (80, .val (.bool v38))] [] [] 0 0) ∧ v38 = x36) ?_ ?_
      · refine PO.case (t := 63) rfl rfl (fun h38 => ?_) (fun h38 => ?_)
        · have e37 := bif_t h38 e37
          refine PO.run 3 rfl ?_
          refine bindIK e37 (fun y39 h39 h40 e37 => ?_)
          refine PO.same rfl (indexAddr_ok Try.underlying22 rfl rfl rfl h39 (map_at h40)) rfl ?_
          refine PO.run 4 rfl ?_
          refine bindK e37 (fun x41 e42 e37 => ?_)
          refine PO.cut 9 (fun s => ∃ (v40 : Bool), Weak s (PS.of 81 [(2, .val (.int .i64 0)), (80, .val (.bool v40))] [] [] 0 0) ∧ v40 = x41) ?_ ?_
          · refine PO.case (t := 71) rfl rfl (fun h43 => ?_) (fun h43 => ?_)
            · have e42 := bif_t h43 e42
              refine PO.run 7 rfl ?_
              refine PO.same rfl (pickT_ok rfl rfl rfl) rfl ?_
              refine PO.same rfl (pickT_ok rfl rfl rfl) rfl ?_
              refine PO.nil ?_
              exact ⟨true, Weak.one [] [] (by kernel_rfl), Option.some.inj e42⟩
            · have e42 := bif_f h43 e42
              refine PO.run 3 rfl ?_
              refine bindIK e42 (fun y41 h44 h45 e42 => ?_)
              refine PO.same rfl (indexAddr_ok Try.underlying22 rfl rfl rfl h44 (map_at h45)) rfl ?_
              refine PO.run 3 rfl ?_
              refine PO.same rfl (pickF_ok rfl rfl rfl) rfl ?_
              refine PO.same rfl (pickT_ok rfl rfl rfl) rfl ?_
              refine PO.nil ?_
              exact ⟨y41.value != (-10000), Weak.one [] [] (by kernel_rfl), Option.some.inj e42⟩
          · rintro _ ⟨v40, w46, rfl⟩
            refine PO.weak w46 ?_
            refine PO.nil ?_
            exact ⟨v40, Weak.one [] [] (by kernel_rfl), Option.some.inj e37⟩
        · have e37 := bif_f h38 e37
          refine PO.run 16 rfl ?_
          refine PO.same rfl (pickF_ok rfl rfl rfl) rfl ?_
          refine PO.nil ?_
          exact ⟨false, Weak.one [] [] (by kernel_rfl), Option.some.inj e37⟩
      · rintro _ ⟨v38, w47, rfl⟩
        refine PO.weak w47 ?_
        refine PO.nil ?_
        refine PC.cond rfl (fun h48 => ?_) (fun h48 => ?_)
        · have hF := bif_t h48 hF
          refine PC.assoc ?_
          refine PC.run (n := 2) rfl ?_
          have hq := Option.some.inj hF
          subst hq
          exact PC.ret (retSK [] [] (by kernel_rfl) (.refl _) ⟨rfl, rfl, rfl⟩)
        · have hF := bif_f h48 hF
          refine PC.noop ?_
          refine PC.run (n := 2) rfl ?_
          have hq := Option.some.inj hF
          subst hq
          exact PC.ret' (retSK [] [] (by kernel_rfl) (.refl _) ⟨rfl, rfl, rfl⟩)

/-! 15 platen/line.legal -/
def F15 (k : Nat) (a0 : List GItem) (a1 : Int) : Option Bool :=
bindI a0 a1 fun y1 =>
bif y1.kind == 3 then (Option.bind (α := Bool) (bif decide (a1 > 0) then (bindI a0 (w (a1 - 1)) fun y3 =>
some (y3.kind == 1)) else (some false)) fun (v2 : Bool) =>
some v2) else (bif y1.kind == 4 then (bindI a0 a1 fun y4 =>
some (decide (y4.value < 10000))) else (some false))
theorem L15 (k : Nat) (a0 : List GItem) (a1 : Int) (r : Bool) (hF : F15 k a0 a1 = some r) : PF Try.prog orc 15 [.list 13 (List.map cGItem a0) none, .val (.int .i64 a1)] [] [] (fun p fr tk => p = .val (.bool r) ∧ fr = [] ∧ tk = []) := by
  unfold F15 at hF
  refine PF.enterS Try.func15 rfl rfl rfl (by kernel_rfl) rfl ?_
  refine PC.run (n := 2) rfl ?_
  refine PC.assoc ?_
  refine PC.region ?_
  refine PO.run 2 rfl ?_
  refine bindIK hF (fun y1 h1 h2 hF => ?_)
  refine PO.same rfl (indexAddr_ok Try.underlying22 rfl rfl rfl h1 (map_at h2)) rfl ?_
  refine PO.run 2 rfl ?_
  refine PO.nil ?_
  refine PC.block ?_
  refine PC.run (n := 3) rfl ?_
  refine PC.lone ?_
  refine PC.cond rfl (fun h3 => ?_) (fun h3 => ?_)
  · have hF := bif_t h3 hF
    refine PC.assoc ?_
    refine PC.region ?_
    refine PO.run 3 rfl ?_
    refine bindK hF (fun x4 e5 hF => ?_)
    refine PO.cut 8 (fun s => ∃ (v2 : Bool), Weak s (PS.of 31 [(4, .val (.bool false)), (22, .val (.bool v2))] [] [] 0 0) ∧ v2 = x4) ?_ ?_
    · refine PO.case (t := 14) rfl rfl (fun h6 => ?_) (fun h6 => ?_)
      · have e5 := bif_t h6 e5
        refine PO.run 3 rfl ?_
        refine bindIK e5 (fun y3 h7 h8 e5 => ?_)
        refine PO.same rfl (indexAddr_ok Try.underlying22 rfl rfl rfl h7 (map_at h8)) rfl ?_
        refine PO.run 3 rfl ?_
        refine PO.same rfl (pickT_ok rfl rfl rfl) rfl ?_
        refine PO.nil ?_
        exact ⟨y3.kind == 1, Weak.one [] [] (by kernel_rfl), Option.some.inj e5⟩
      · have e5 := bif_f h6 e5
        refine PO.run 7 rfl ?_
        refine PO.same rfl (pickF_ok rfl rfl rfl) rfl ?_
        refine PO.nil ?_
        exact ⟨false, Weak.one [] [] (by kernel_rfl), Option.some.inj e5⟩
    · rintro _ ⟨v2, w9, rfl⟩
      refine PO.weak w9 ?_
      refine PO.run 1 rfl ?_
      refine PO.nil ?_
      have hq := Option.some.inj hF
      subst hq
      exact PC.ret (blockKP.back (retSK [] [] (by kernel_rfl) (.refl _) ⟨rfl, rfl, rfl⟩))
  · have hF := bif_f h3 hF
    refine PC.assoc ?_
    refine PC.run (n := 3) rfl ?_
    refine PC.cond rfl (fun h10 => ?_) (fun h10 => ?_)
    · have hF := bif_t h10 hF
      refine PC.assoc ?_
      refine PC.region ?_
      refine PO.run 2 rfl ?_
      refine bindIK hF (fun y4 h11 h12 hF => ?_)
      refine PO.same rfl (indexAddr_ok Try.underlying22 rfl rfl rfl h11 (map_at h12)) rfl ?_
      refine PO.run 4 rfl ?_
      refine PO.nil ?_
      have hq := Option.some.inj hF
      subst hq
      exact PC.ret (blockKP.back (retSK [] [] (by kernel_rfl) (.refl _) ⟨rfl, rfl, rfl⟩))
    · have hF := bif_f h10 hF
      refine PC.noop ?_
      refine PC.skip (blockKP.end ?_)
      refine PC.run (n := 2) rfl ?_
      have hq := Option.some.inj hF
      subst hq
      exact PC.ret' (retSK [] [] (by kernel_rfl) (.refl _) ⟨rfl, rfl, rfl⟩)

/-! 17 platen/line.forced -/
def F17 (k : Nat) (a0 : GItem) : Option Bool :=
Option.bind (α := Bool) (bif a0.kind == 4 then (some (decide (a0.value ≤ (-10000)))) else (some false)) fun (v1 : Bool) =>
some v1
theorem L17 (k : Nat) (a0 : GItem) (r : Bool) (hF : F17 k a0 = some r) : PF Try.prog orc 17 [.agg (cGItem a0)] [] [] (fun p fr tk => p = .val (.bool r) ∧ fr = [] ∧ tk = []) := by
  unfold F17 at hF
  refine PF.enterS Try.func17 rfl rfl rfl (by kernel_rfl) rfl ?_
  refine PC.region ?_
  refine PO.runK 2 [0] [] (es := [(1, .ptr 0 0), (2, .val (.bool false))]) (fr' := [⟨0, (cGItem a0)⟩]) (tk' := []) (by kernel_rfl) ?_
  refine PO.nil ?_
  refine PC.region ?_
  refine PO.run 4 rfl ?_
  refine bindK hF (fun x1 e2 hF => ?_)
  refine PO.cut 4 (fun s => ∃ (v1 : Bool), Weak s (PS.of 11 [(2, .val (.bool false)), (10, .val (.bool v1))] [] [] 0 0) ∧ v1 = x1) ?_ ?_
  · refine PO.case (t := 6) rfl rfl (fun h3 => ?_) (fun h3 => ?_)
    · have e2 := bif_t h3 e2
      refine PO.run 3 rfl ?_
      refine PO.same rfl (pickT_ok rfl rfl rfl) rfl ?_
      refine PO.nil ?_
      exact ⟨decide (a0.value ≤ (-10000)), Weak.one [] [] (by kernel_rfl), Option.some.inj e2⟩
    · have e2 := bif_f h3 e2
      refine PO.run 3 rfl ?_
      refine PO.same rfl (pickF_ok rfl rfl rfl) rfl ?_
      refine PO.nil ?_
      exact ⟨false, Weak.one [] [] (by kernel_rfl), Option.some.inj e2⟩
  · rintro _ ⟨v1, w4, rfl⟩
    refine PO.weak w4 ?_
    refine PO.run 1 rfl ?_
    refine PO.nil ?_
    have hq := Option.some.inj hF
    subst hq
    exact PC.ret' (retSK [] [] (by kernel_rfl) (.refl _) ⟨rfl, rfl, rfl⟩)

/-! 29_17 slices.IndexFunc[[]platen/api.Item,platen/api.Item] -/
def F29_17_l1 (k : Nat) (a0 : List GItem) : Nat → Int → Option ((Unit) ⊕ (Int))
  | 0, _ => none
  | j3 + 1, v2 =>
    bif decide (v2 < (a0.length : Int)) then (bindI a0 v2 fun y4 =>
    (F17 k y4).bind fun r8 =>
    bif r8 then (some (.inr v2)) else (F29_17_l1 k a0 j3 (w (v2 + 1)))) else (some (.inl ()))
def F29_17 (k : Nat) (a0 : List GItem) : Option Int :=
Option.bind (α := (Unit) ⊕ (Int)) (F29_17_l1 k a0 k 0) (Sum.elim (fun (_ : Unit) =>
some (-1)) some)
theorem L29_17 (k : Nat) (a0 : List GItem) (r : Int) (hF : F29_17 k a0 = some r) : PF Try.prog orc 29 [.list 13 (List.map cGItem a0) none, .fn 17 [] []] [] [] (fun p fr tk => p = .val (.int .i64 r) ∧ fr = [] ∧ tk = []) := by
  unfold F29_17 at hF
  refine PF.enterS Try.func29 rfl rfl rfl (by kernel_rfl) rfl ?_
  refine PC.run (n := 2) rfl ?_
  refine PC.assoc ?_
  refine PC.region ?_
  refine PO.run 1 rfl ?_
  refine PO.same rfl (len_ok Try.underlying22 rfl (List.length_map _)) rfl ?_
  refine PO.run 1 rfl ?_
  refine PO.nil ?_
  refine bindK hF (fun x1 e2 hF => ?_)
  refine PC.blockJ (fun s => Weak s (PS.of 19 [(4, .val (.int .i64 0))] [] [] 0 0) ∧ .inl () = x1) ?_ ?_
  · refine PC.loop (fun j3 s => ∃ (v2 : Int), Weak s (PS.of 19 [(0, .list 13 (List.map cGItem a0) none), (1, .fn 17 [] []), (4, .val (.int .i64 0)), (7, .val (.int .i64 (a0.length : Int))), (8, .val (.int .i64 v2))] [] [] 0 0) ∧ F29_17_l1 k a0 j3 v2 = some x1) (fun j3 s => ?_) k ⟨0, Weak.one [] [] (by kernel_rfl), e2⟩
    rintro ⟨v2, w4, e2⟩
    refine PC.weak w4 ?_
    cases j3 with
    | zero => rw [F29_17_l1] at e2; cases e2
    | succ j3 =>
      rw [F29_17_l1] at e2
      refine PC.run (n := 2) rfl ?_
      refine PC.cond rfl (fun h5 => ?_) (fun h5 => ?_)
      · have e2 := bif_t h5 e2
        refine PC.noop ?_
        refine PC.block ?_
        refine PC.run (n := 3) rfl ?_
        refine PC.region ?_
        refine PO.run 3 rfl ?_
        refine bindIK e2 (fun y4 h6 h7 e2 => ?_)
        refine PO.same rfl (indexAddr_ok Try.underlying22 rfl rfl rfl h6 (map_at h7)) rfl ?_
        refine PO.run 1 rfl ?_
        refine bindK e2 (fun r8 e9 e2 => ?_)
        refine PO.callv rfl rfl rfl rfl rfl (ks := []) (ts := []) (fr1 := []) rfl rfl rfl trivial (L17 k y4 _ e9) ?_
        rintro _ _ _ ⟨rfl, rfl, rfl⟩
        refine ⟨_, _, rfl, rfl, ?_⟩
        refine PO.nil ?_
        refine PC.lone ?_
        refine PC.cond rfl (fun h10 => ?_) (fun h10 => ?_)
        · have e2 := bif_t h10 e2
          refine PC.assoc ?_
          refine PC.run (n := 3) rfl ?_
          have hq := Option.some.inj e2
          subst hq
          have hq := Option.some.inj hF
          subst hq
          exact PC.ret (blockKP.back (loopKP.ret (blockJK.back (retSK [] [] (by kernel_rfl) (.refl _) ⟨rfl, rfl, rfl⟩))))
        · have e2 := bif_f h10 e2
          refine PC.noop ?_
          refine PC.skip (blockKP.end ?_)
          refine PC.lone ?_
          refine PC.run (n := 3) rfl ?_
          exact PC.skip (loopKP.mk (Nat.lt_succ_self _) ⟨w (v2 + 1), Weak.one [] [] (by kernel_rfl), e2⟩)
      · have e2 := bif_f h5 e2
        exact PC.exit (loopKP.exit (blockJK.here ⟨Weak.one [] [] (by kernel_rfl), Option.some.inj e2⟩))
  · rintro _ ⟨w11, rfl⟩
    refine PC.weak w11 ?_
    have hF := elim_l hF
    refine PC.run (n := 2) rfl ?_
    have hq := Option.some.inj hF
    subst hq
    exact PC.ret' (retSK [] [] (by kernel_rfl) (.refl _) ⟨rfl, rfl, rfl⟩)

/-! 16_17 slices.ContainsFunc[[]platen/api.Item,platen/api.Item] -/
def F16_17 (k : Nat) (a0 : List GItem) : Option Bool :=
(F29_17 k a0).bind fun r1 =>
some (decide (r1 ≥ 0))
theorem L16_17 (k : Nat) (a0 : List GItem) (r : Bool) (hF : F16_17 k a0 = some r) : PF Try.prog orc 16 [.list 13 (List.map cGItem a0) none, .fn 17 [] []] [] [] (fun p fr tk => p = .val (.bool r) ∧ fr = [] ∧ tk = []) := by
  unfold F16_17 at hF
  refine PF.enterS Try.func16 rfl rfl rfl (by kernel_rfl) rfl ?_
  refine PC.run (n := 2) rfl ?_
  refine PC.region ?_
  refine PO.run 2 rfl ?_
  refine bindK hF (fun r1 e2 hF => ?_)
  refine PO.call rfl rfl rfl rfl (ks := []) (ts := []) (fr1 := []) rfl rfl rfl trivial (L29_17 k a0 _ e2) ?_
  rintro _ _ _ ⟨rfl, rfl, rfl⟩
  refine ⟨_, _, rfl, rfl, ?_⟩
  refine PO.run 2 rfl ?_
  refine PO.nil ?_
  have hq := Option.some.inj hF
  subst hq
  exact PC.ret' (retSK [] [] (by kernel_rfl) (.refl _) ⟨rfl, rfl, rfl⟩)

/-! 35 platen/line.rate$1 -/
def F35 (k : Nat) (a0 : Int) : Option Int :=
some (if 10000 < w (Int.tdiv (w ((w (a0 * a0)) * a0)) 10000) then 10000 else w (Int.tdiv (w ((w (a0 * a0)) * a0)) 10000))
theorem L35 (k : Nat) (a0 : Int) (r : Int) (hF : F35 k a0 = some r) : PF Try.prog orc 35 [.val (.int .i64 a0)] [] [] (fun p fr tk => p = .val (.int .i64 r) ∧ fr = [] ∧ tk = []) := by
  unfold F35 at hF
  refine PF.enterS Try.func35 rfl rfl rfl (by kernel_rfl) rfl ?_
  refine PC.run (n := 2) rfl ?_
  refine PC.run (n := 9) rfl ?_
  have hq := Option.some.inj hF
  subst hq
  exact PC.ret' (retSK [] [] (by kernel_rfl) (.refl _) ⟨rfl, rfl, rfl⟩)

/-! 30 platen/line.rate -/
def F30 (k : Nat) (a0 : GLine) : Option GLine :=
Option.bind (α := Int × Int × Bool) (Option.bind (α := Bool) (bif decide (a0.short < 0) then (some (decide (a0.short < (w (0 - a0.shrink))))) else (some false)) fun (v4 : Bool) =>
bif v4 then (some (10000, 0, true)) else (Option.bind (α := Bool) (bif a0.short == 0 then (some true) else (Option.bind (α := Bool) (bif decide (a0.short > 0) then (some a0.end_) else (some false)) fun (v6 : Bool) =>
some v6)) fun (v5 : Bool) =>
bif v5 then (some (0, 1, a0.over_)) else (bif decide (a0.short < 0) then (bindD a0.shrink ((F35 k (w (Int.tdiv (w (100 * (w (0 - a0.short)))) a0.shrink))).bind fun r19 =>
bif decide ((w (Int.tdiv (w (100 * (w (0 - a0.short)))) a0.shrink)) > 50) then (some (r19, 0, a0.over_)) else (some (r19, 1, a0.over_)))) else (bif a0.stretch == 0 then (some (10000, 3, a0.over_)) else (bindD a0.stretch ((F35 k (if 1000 < w (Int.tdiv (w (100 * a0.short)) a0.stretch) then 1000 else w (Int.tdiv (w (100 * a0.short)) a0.stretch))).bind fun r24 =>
bif decide ((if 1000 < w (Int.tdiv (w (100 * a0.short)) a0.stretch) then 1000 else w (Int.tdiv (w (100 * a0.short)) a0.stretch)) ≤ 50) then (some (r24, 1, a0.over_)) else (bif decide ((if 1000 < w (Int.tdiv (w (100 * a0.short)) a0.stretch) then 1000 else w (Int.tdiv (w (100 * a0.short)) a0.stretch)) ≤ 100) then (some (r24, 2, a0.over_)) else (some (r24, 3, a0.over_))))))))) fun (v1, v2, v3) =>
some (GLine.mk a0.first a0.last a0.break_ a0.natural a0.stretch a0.shrink a0.short v1 v2 v3 a0.hyphen a0.end_ a0.height a0.depth)
theorem L30 (k : Nat) (a0 : GLine) (r : GLine) (hF : F30 k a0 = some r) : PF Try.prog orc 30 [.ptr 0 0] [⟨0, (cGLine a0)⟩] [] (fun p fr tk => p = .tup [] ∧ fr = [⟨0, (cGLine r)⟩] ∧ tk = []) := by
  unfold F30 at hF
  refine PF.enterS Try.func30 rfl rfl rfl (by kernel_rfl) rfl ?_
  refine PC.run (n := 2) rfl ?_
  refine PC.lone ?_
  refine bindK hF (fun x1 e2 hF => ?_)
  refine PC.blockJ (fun s => ∃ (v1 : Int) (v2 : Int) (v3 : Bool), Weak s (PS.of 130 [] [⟨0, [.val (.int .i64 a0.first), .val (.int .i64 a0.last), .val (.int .i64 a0.break_), .val (.int .i64 a0.natural), .val (.int .i64 a0.stretch), .val (.int .i64 a0.shrink), .val (.int .i64 a0.short), .val (.int .i64 v1), .val (.int .i64 v2), .val (.bool v3), .val (.bool a0.hyphen), .val (.bool a0.end_), .val (.int .i64 a0.height), .val (.int .i64 a0.depth)]⟩] [] 1 0) ∧ (v1, v2, v3) = x1) ?_ ?_
  · refine PC.drawn (order := [0, 1, 2, 3, 4, 5, 6, 7, 8, 9, 10, 11, 12, 13, 14, 15, 16, 17]) (by kernel_rfl) ?_
    refine PO.run 6 rfl ?_
    refine bindK e2 (fun x3 e4 e2 => ?_)
    refine PO.cut 11 (fun s => ∃ (v4 : Bool), Weak s (PS.of 130 [(0, .ptr 0 0), (2, .fn 35 [] []), (52, .val (.bool v4))] [⟨0, (cGLine a0)⟩] [] 1 0) ∧ v4 = x3) ?_ ?_
    · refine PO.case (t := 41) rfl rfl (fun h5 => ?_) (fun h5 => ?_)
      · have e4 := bif_t h5 e4
        refine PO.run 10 rfl ?_
        refine PO.same rfl (pickT_ok rfl rfl rfl) rfl ?_
        refine PO.nil ?_
        exact ⟨decide (a0.short < (w (0 - a0.shrink))), Weak.one [0] [] (by kernel_rfl), Option.some.inj e4⟩
      · have e4 := bif_f h5 e4
        refine PO.run 10 rfl ?_
        refine PO.same rfl (pickF_ok rfl rfl rfl) rfl ?_
        refine PO.nil ?_
        exact ⟨false, Weak.one [0] [] (by kernel_rfl), Option.some.inj e4⟩
    · rintro _ ⟨v4, w6, rfl⟩
      refine PO.weak w6 ?_
      refine PO.run 1 rfl ?_
      refine PO.nil ?_
      refine PC.lone ?_
      refine PC.cond rfl (fun h7 => ?_) (fun h7 => ?_)
      · have e2 := bif_t h7 e2
        refine PC.region ?_
        refine PO.runK 12 [0] [] (es := []) (fr' := [⟨0, [.val (.int .i64 a0.first), .val (.int .i64 a0.last), .val (.int .i64 a0.break_), .val (.int .i64 a0.natural), .val (.int .i64 a0.stretch), .val (.int .i64 a0.shrink), .val (.int .i64 a0.short), .val (.int .i64 10000), .val (.int .i64 0), .val (.bool true), .val (.bool a0.hyphen), .val (.bool a0.end_), .val (.int .i64 a0.height), .val (.int .i64 a0.depth)]⟩]) (tk' := []) (by kernel_rfl) ?_
        refine PO.nil ?_
        exact PC.skip (blockJK.end ⟨10000, 0, true, Weak.one [0] [] (by kernel_rfl), Option.some.inj e2⟩)
      · have e2 := bif_f h7 e2
        refine PC.assoc ?_
        refine PC.region ?_
        refine PO.run 6 rfl ?_
        refine bindK e2 (fun x8 e9 e2 => ?_)
        refine PO.cut 12 (fun s => ∃ (v5 : Bool), Weak s (PS.of 130 [(0, .ptr 0 0), (2, .fn 35 [] []), (80, .val (.bool v5))] [⟨0, (cGLine a0)⟩] [] 1 0) ∧ v5 = x8) ?_ ?_
        · refine PO.case (t := 68) rfl rfl (fun h10 => ?_) (fun h10 => ?_)
          · have e9 := bif_t h10 e9
            refine PO.run 11 rfl ?_
            refine PO.same rfl (pickT_ok rfl rfl rfl) rfl ?_
            refine PO.nil ?_
            exact ⟨true, Weak.one [0] [] (by kernel_rfl), Option.some.inj e9⟩
          · have e9 := bif_f h10 e9
            refine PO.run 6 rfl ?_
            refine bindK e9 (fun x11 e12 e9 => ?_)
            refine PO.cut 6 (fun s => ∃ (v6 : Bool), Weak s (PS.of 130 [(0, .ptr 0 0), (2, .fn 35 [] []), (80, .val (.bool v6))] [⟨0, (cGLine a0)⟩] [] 1 0) ∧ v6 = x11) ?_ ?_
            · refine PO.case (t := 74) rfl rfl (fun h13 => ?_) (fun h13 => ?_)
              · have e12 := bif_t h13 e12
                refine PO.run 4 rfl ?_
                refine PO.same rfl (pickT_ok rfl rfl rfl) rfl ?_
                refine PO.same rfl (pickF_ok rfl rfl rfl) rfl ?_
                refine PO.nil ?_
                exact ⟨a0.end_, Weak.one [0] [] (by kernel_rfl), Option.some.inj e12⟩
              · have e12 := bif_f h13 e12
                refine PO.run 4 rfl ?_
                refine PO.same rfl (pickF_ok rfl rfl rfl) rfl ?_
                refine PO.same rfl (pickF_ok rfl rfl rfl) rfl ?_
                refine PO.nil ?_
                exact ⟨false, Weak.one [0] [] (by kernel_rfl), Option.some.inj e12⟩
            · rintro _ ⟨v6, w14, rfl⟩
              refine PO.weak w14 ?_
              refine PO.nil ?_
              exact ⟨v6, Weak.one [0] [] (by kernel_rfl), Option.some.inj e9⟩
        · rintro _ ⟨v5, w15, rfl⟩
          refine PO.weak w15 ?_
          refine PO.run 1 rfl ?_
          refine PO.nil ?_
          refine PC.cond rfl (fun h16 => ?_) (fun h16 => ?_)
          · have e2 := bif_t h16 e2
            refine PC.region ?_
            refine PO.runK 8 [0] [] (es := []) (fr' := [⟨0, [.val (.int .i64 a0.first), .val (.int .i64 a0.last), .val (.int .i64 a0.break_), .val (.int .i64 a0.natural), .val (.int .i64 a0.stretch), .val (.int .i64 a0.shrink), .val (.int .i64 a0.short), .val (.int .i64 0), .val (.int .i64 1), .val (.bool a0.over_), .val (.bool a0.hyphen), .val (.bool a0.end_), .val (.int .i64 a0.height), .val (.int .i64 a0.depth)]⟩]) (tk' := []) (by kernel_rfl) ?_
            refine PO.nil ?_
            exact PC.skip (blockJK.end ⟨0, 1, a0.over_, Weak.one [0] [] (by kernel_rfl), Option.some.inj e2⟩)
          · have e2 := bif_f h16 e2
            refine PC.assoc ?_
            refine PC.run (n := 7) rfl ?_
            refine PC.cond rfl (fun h17 => ?_) (fun h17 => ?_)
            · have e2 := bif_t h17 e2
              refine PC.assoc ?_
              refine PC.drawn (order := [0, 1, 2, 3, 4, 5, 6, 7, 8, 9, 10, 11]) (by kernel_rfl) ?_
              refine PO.run 10 rfl ?_
              refine bindDK e2 (fun h18 e2 => ?_)
              refine PO.same rfl (quo_ok rfl rfl h18) rfl ?_
              refine PO.run 1 rfl ?_
              refine PO.nil ?_
              refine PC.assoc ?_
              refine PC.region ?_
              refine PO.run 4 rfl ?_
              refine bindK e2 (fun r19 e20 e2 => ?_)
              refine PO.callv rfl rfl rfl rfl rfl (ks := []) (ts := []) (fr1 := []) rfl rfl rfl trivial (L35 k (w (Int.tdiv (w (100 * (w (0 - a0.short)))) a0.shrink)) _ e20) ?_
              rintro _ _ _ ⟨rfl, rfl, rfl⟩
              refine ⟨_, _, rfl, rfl, ?_⟩
              refine PO.runK 6 [0] [] (es := [(0, .ptr 0 0), (3, .val (.int .i64 (w (Int.tdiv (w (100 * (w (0 - a0.short)))) a0.shrink))))]) (fr' := [⟨0, [.val (.int .i64 a0.first), .val (.int .i64 a0.last), .val (.int .i64 a0.break_), .val (.int .i64 a0.natural), .val (.int .i64 a0.stretch), .val (.int .i64 a0.shrink), .val (.int .i64 a0.short), .val (.int .i64 r19), .val (.int .i64 1), .val (.bool a0.over_), .val (.bool a0.hyphen), .val (.bool a0.end_), .val (.int .i64 a0.height), .val (.int .i64 a0.depth)]⟩]) (tk' := []) (by kernel_rfl) ?_
              refine PO.nil ?_
              refine PC.assoc ?_
              refine PC.run (n := 3) rfl ?_
              refine PC.cond rfl (fun h21 => ?_) (fun h21 => ?_)
              · have e2 := bif_t h21 e2
                refine PC.region ?_
                refine PO.runK 4 [0] [] (es := []) (fr' := [⟨0, [.val (.int .i64 a0.first), .val (.int .i64 a0.last), .val (.int .i64 a0.break_), .val (.int .i64 a0.natural), .val (.int .i64 a0.stretch), .val (.int .i64 a0.shrink), .val (.int .i64 a0.short), .val (.int .i64 r19), .val (.int .i64 0), .val (.bool a0.over_), .val (.bool a0.hyphen), .val (.bool a0.end_), .val (.int .i64 a0.height), .val (.int .i64 a0.depth)]⟩]) (tk' := []) (by kernel_rfl) ?_
                refine PO.nil ?_
                exact PC.skip (blockJK.end ⟨r19, 0, a0.over_, Weak.one [0] [] (by kernel_rfl), Option.some.inj e2⟩)
              · have e2 := bif_f h21 e2
                refine PC.noop ?_
                exact PC.skip (blockJK.end ⟨r19, 1, a0.over_, Weak.one [0] [] (by kernel_rfl), Option.some.inj e2⟩)
            · have e2 := bif_f h17 e2
              refine PC.assoc ?_
              refine PC.run (n := 7) rfl ?_
              refine PC.cond rfl (fun h22 => ?_) (fun h22 => ?_)
              · have e2 := bif_t h22 e2
                refine PC.region ?_
                refine PO.runK 8 [0] [] (es := []) (fr' := [⟨0, [.val (.int .i64 a0.first), .val (.int .i64 a0.last), .val (.int .i64 a0.break_), .val (.int .i64 a0.natural), .val (.int .i64 a0.stretch), .val (.int .i64 a0.shrink), .val (.int .i64 a0.short), .val (.int .i64 10000), .val (.int .i64 3), .val (.bool a0.over_), .val (.bool a0.hyphen), .val (.bool a0.end_), .val (.int .i64 a0.height), .val (.int .i64 a0.depth)]⟩]) (tk' := []) (by kernel_rfl) ?_
                refine PO.nil ?_
                exact PC.skip (blockJK.end ⟨10000, 3, a0.over_, Weak.one [0] [] (by kernel_rfl), Option.some.inj e2⟩)
              · have e2 := bif_f h22 e2
                refine PC.assoc ?_
                refine PC.drawn (order := [0, 1, 2, 3, 4, 5, 6, 7, 8, 9, 10, 11]) (by kernel_rfl) ?_
                refine PO.run 9 rfl ?_
                refine bindDK e2 (fun h23 e2 => ?_)
                refine PO.same rfl (quo_ok rfl rfl h23) rfl ?_
                refine PO.run 2 rfl ?_
                refine PO.nil ?_
                refine PC.assoc ?_
                refine PC.region ?_
                refine PO.run 4 rfl ?_
                refine bindK e2 (fun r24 e25 e2 => ?_)
                refine PO.callv rfl rfl rfl rfl rfl (ks := []) (ts := []) (fr1 := []) rfl rfl rfl trivial (L35 k (if 1000 < w (Int.tdiv (w (100 * a0.short)) a0.stretch) then 1000 else w (Int.tdiv (w (100 * a0.short)) a0.stretch)) _ e25) ?_
                rintro _ _ _ ⟨rfl, rfl, rfl⟩
                refine ⟨_, _, rfl, rfl, ?_⟩
                refine PO.runK 6 [0] [] (es := [(0, .ptr 0 0), (4, .val (.int .i64 (if 1000 < w (Int.tdiv (w (100 * a0.short)) a0.stretch) then 1000 else w (Int.tdiv (w (100 * a0.short)) a0.stretch))))]) (fr' := [⟨0, [.val (.int .i64 a0.first), .val (.int .i64 a0.last), .val (.int .i64 a0.break_), .val (.int .i64 a0.natural), .val (.int .i64 a0.stretch), .val (.int .i64 a0.shrink), .val (.int .i64 a0.short), .val (.int .i64 r24), .val (.int .i64 3), .val (.bool a0.over_), .val (.bool a0.hyphen), .val (.bool a0.end_), .val (.int .i64 a0.height), .val (.int .i64 a0.depth)]⟩]) (tk' := []) (by kernel_rfl) ?_
                refine PO.nil ?_
                refine PC.assoc ?_
                refine PC.run (n := 3) rfl ?_
                refine PC.cond rfl (fun h26 => ?_) (fun h26 => ?_)
                · have e2 := bif_t h26 e2
                  refine PC.region ?_
                  refine PO.runK 4 [0] [] (es := []) (fr' := [⟨0, [.val (.int .i64 a0.first), .val (.int .i64 a0.last), .val (.int .i64 a0.break_), .val (.int .i64 a0.natural), .val (.int .i64 a0.stretch), .val (.int .i64 a0.shrink), .val (.int .i64 a0.short), .val (.int .i64 r24), .val (.int .i64 1), .val (.bool a0.over_), .val (.bool a0.hyphen), .val (.bool a0.end_), .val (.int .i64 a0.height), .val (.int .i64 a0.depth)]⟩]) (tk' := []) (by kernel_rfl) ?_
                  refine PO.nil ?_
                  exact PC.skip (blockJK.end ⟨r24, 1, a0.over_, Weak.one [0] [] (by kernel_rfl), Option.some.inj e2⟩)
                · have e2 := bif_f h26 e2
                  refine PC.assoc ?_
                  refine PC.run (n := 3) rfl ?_
                  refine PC.cond rfl (fun h27 => ?_) (fun h27 => ?_)
                  · have e2 := bif_t h27 e2
                    refine PC.region ?_
                    refine PO.runK 4 [0] [] (es := []) (fr' := [⟨0, [.val (.int .i64 a0.first), .val (.int .i64 a0.last), .val (.int .i64 a0.break_), .val (.int .i64 a0.natural), .val (.int .i64 a0.stretch), .val (.int .i64 a0.shrink), .val (.int .i64 a0.short), .val (.int .i64 r24), .val (.int .i64 2), .val (.bool a0.over_), .val (.bool a0.hyphen), .val (.bool a0.end_), .val (.int .i64 a0.height), .val (.int .i64 a0.depth)]⟩]) (tk' := []) (by kernel_rfl) ?_
                    refine PO.nil ?_
                    exact PC.skip (blockJK.end ⟨r24, 2, a0.over_, Weak.one [0] [] (by kernel_rfl), Option.some.inj e2⟩)
                  · have e2 := bif_f h27 e2
                    refine PC.noop ?_
                    exact PC.skip (blockJK.end ⟨r24, 3, a0.over_, Weak.one [0] [] (by kernel_rfl), Option.some.inj e2⟩)
  · rintro _ ⟨v1, v2, v3, w28, rfl⟩
    refine PC.weak w28 ?_
    have hq := Option.some.inj hF
    subst hq
    exact PC.skip (retSN [0] [] (by kernel_rfl) (.refl _) ⟨rfl, rfl, rfl⟩)

/-! 18 platen/line.measured -/
def F18_l1 (k : Nat) (a0 : List GItem) (a3 : Int) : Nat → Int → Option Int
  | 0, _ => none
  | j3 + 1, v3 =>
    Option.bind (α := Bool) (bif decide (v3 < a3) then (bindI a0 v3 fun y6 =>
    some (y6.kind != 1)) else (some false)) fun (v5 : Bool) =>
    bif v5 then (F18_l1 k a0 a3 j3 (w (v3 + 1))) else (some v3)
def F18_l2 (k : Nat) (a0 : List GItem) (v1 : Int) : Nat → Int → Option Int
  | 0, _ => none
  | j15 + 1, v9 =>
    Option.bind (α := Bool) (bif decide (v9 > v1) then (bindI a0 (w (v9 - 1)) fun y12 =>
    some (y12.kind != 1)) else (some false)) fun (v11 : Bool) =>
    bif v11 then (F18_l2 k a0 v1 j15 (w (v9 - 1))) else (some v9)
def F18_l3 (k : Nat) (l13 : List GItem) : Nat → Int → Int → Int → Int → Int → Int → Option (Int × Int × Int × Int × Int)
  | 0, _, _, _, _, _, _ => none
  | j30 + 1, v25, v26, v27, v28, v29, v30 =>
    bif decide (v25 < (l13.length : Int)) then (bindI l13 v25 fun y37 =>
    Option.bind (α := Int × Int × Int × Int × Int) (bif y37.kind == 1 then (some (w (v26 + y37.width), v27, v28, (if y37.height > v29 then y37.height else v29), (if y37.depth > v30 then y37.depth else v30))) else (bif y37.kind == 2 then (some (w (v26 + y37.width), v27, v28, v29, v30)) else (bif y37.kind == 3 then (some (w (v26 + y37.width), w (v27 + y37.stretch), w (v28 + y37.shrink), v29, v30)) else (some (v26, v27, v28, v29, v30))))) fun (v38, v39, v40, v41, v42) =>
    F18_l3 k l13 j30 (w (v25 + 1)) v38 v39 v40 v41 v42) else (some (v26, v27, v28, v29, v30))
def F18 (k : Nat) (a0 : List GItem) (a1 : Int) (a2 : Int) (a3 : Int) : Option GLine :=
Option.bind (α := Int) (F18_l1 k a0 a3 k (w (a2 + 1))) fun (v1 : Int) =>
Option.bind (α := Int) (F18_l2 k a0 v1 k a3) fun (v7 : Int) =>
bindS a0 v1 v7 fun l13 =>
Option.bind (α := Int × Int × Int × Int × Int) (F18_l3 k l13 k 0 0 0 0 0 0) fun (v14, v15, v16, v17, v18) =>
bindI a0 a3 fun y43 =>
Option.bind (α := Int × Bool × Bool × Int × Int) (bif y43.kind == 4 then ((F17 k y43).bind fun r47 =>
bif y43.flag then (some (w (v14 + y43.width), y43.flag, r47, (if y43.height > v17 then y43.height else v17), (if y43.depth > v18 then y43.depth else v18))) else (some (w (v14 + y43.width), y43.flag, r47, v17, v18))) else (some (v14, false, false, v17, v18))) fun (v44, v45, v46, v47, v48) =>
(F30 k (GLine.mk v1 v7 a3 v44 v15 v16 (w (a1 - v44)) 0 0 false v45 v46 v47 v48)).bind fun r51 =>
some r51
theorem L18 (k : Nat) (a0 : List GItem) (a1 : Int) (a2 : Int) (a3 : Int) (r : GLine) (hF : F18 k a0 a1 a2 a3 = some r) : PF Try.prog orc 18 [.list 13 (List.map cGItem a0) none, .val (.int .i64 a1), .val (.int .i64 a2), .val (.int .i64 a3)] [] [] (fun p fr tk => p = .agg (cGLine r) ∧ fr = [] ∧ tk = []) := by
  unfold F18 at hF
  refine PF.enterS Try.func18 rfl rfl rfl (by kernel_rfl) rfl ?_
  refine PC.region ?_
  refine PO.runK 1 [0] [] (es := [(0, .list 13 (List.map cGItem a0) none), (1, .val (.int .i64 a1)), (2, .val (.int .i64 a2)), (3, .val (.int .i64 a3)), (8, .ptr 0 0)]) (fr' := [⟨0, [.val (.int .i64 0), .val (.int .i64 0), .val (.int .i64 0), .val (.int .i64 0), .val (.int .i64 0), .val (.int .i64 0), .val (.int .i64 0), .val (.int .i64 0), .val (.int .i64 0), .val (.bool false), .val (.bool false), .val (.bool false), .val (.int .i64 0), .val (.int .i64 0)]⟩]) (tk' := []) (by kernel_rfl) ?_
  refine PO.nil ?_
  refine PC.region ?_
  refine PO.runK 7 [0, 1] [] (es := [(0, .list 13 (List.map cGItem a0) none), (1, .val (.int .i64 a1)), (3, .val (.int .i64 a3)), (8, .ptr 0 0), (9, .ptr 1 0)]) (fr' := [⟨0, [.val (.int .i64 0), .val (.int .i64 0), .val (.int .i64 0), .val (.int .i64 0), .val (.int .i64 0), .val (.int .i64 0), .val (.int .i64 0), .val (.int .i64 0), .val (.int .i64 0), .val (.bool false), .val (.bool false), .val (.bool false), .val (.int .i64 0), .val (.int .i64 0)]⟩, ⟨0, [.val (.int .i64 (w (a2 + 1))), .val (.int .i64 a3), .val (.int .i64 a3), .val (.int .i64 0), .val (.int .i64 0), .val (.int .i64 0), .val (.int .i64 0), .val (.int .i64 0), .val (.int .i64 0), .val (.bool false), .val (.bool false), .val (.bool false), .val (.int .i64 0), .val (.int .i64 0)]⟩]) (tk' := []) (by kernel_rfl) ?_
  refine PO.nil ?_
  refine bindK hF (fun x1 e2 hF => ?_)
  refine PC.blockJ (fun s => ∃ (v1 : Int), Weak s (PS.of 156 [(0, .list 13 (List.map cGItem a0) none), (1, .val (.int .i64 a1)), (3, .val (.int .i64 a3)), (8, .ptr 0 0), (9, .ptr 1 0)] [⟨0, [.val (.int .i64 0), .val (.int .i64 0), .val (.int .i64 0), .val (.int .i64 0), .val (.int .i64 0), .val (.int .i64 0), .val (.int .i64 0), .val (.int .i64 0), .val (.int .i64 0), .val (.bool false), .val (.bool false), .val (.bool false), .val (.int .i64 0), .val (.int .i64 0)]⟩, ⟨0, [.val (.int .i64 v1), .val (.int .i64 a3), .val (.int .i64 a3), .val (.int .i64 0), .val (.int .i64 0), .val (.int .i64 0), .val (.int .i64 0), .val (.int .i64 0), .val (.int .i64 0), .val (.bool false), .val (.bool false), .val (.bool false), .val (.int .i64 0), .val (.int .i64 0)]⟩] [] 0 0) ∧ v1 = x1) ?_ ?_
  · refine PC.loop (fun j3 s => ∃ (v3 : Int), Weak s (PS.of 156 [(0, .list 13 (List.map cGItem a0) none), (1, .val (.int .i64 a1)), (3, .val (.int .i64 a3)), (8, .ptr 0 0), (9, .ptr 1 0)] [⟨0, [.val (.int .i64 0), .val (.int .i64 0), .val (.int .i64 0), .val (.int .i64 0), .val (.int .i64 0), .val (.int .i64 0), .val (.int .i64 0), .val (.int .i64 0), .val (.int .i64 0), .val (.bool false), .val (.bool false), .val (.bool false), .val (.int .i64 0), .val (.int .i64 0)]⟩, ⟨0, [.val (.int .i64 v3), .val (.int .i64 a3), .val (.int .i64 a3), .val (.int .i64 0), .val (.int .i64 0), .val (.int .i64 0), .val (.int .i64 0), .val (.int .i64 0), .val (.int .i64 0), .val (.bool false), .val (.bool false), .val (.bool false), .val (.int .i64 0), .val (.int .i64 0)]⟩] [] 0 0) ∧ F18_l1 k a0 a3 j3 v3 = some x1) (fun j3 s => ?_) k ⟨w (a2 + 1), Weak.one [0, 1] [] (by kernel_rfl), e2⟩
    rintro ⟨v3, w4, e2⟩
    refine PC.weak w4 ?_
    cases j3 with
    | zero => rw [F18_l1] at e2; cases e2
    | succ j3 =>
      rw [F18_l1] at e2
      refine PC.assoc ?_
      refine PC.region ?_
      refine PO.run 5 rfl ?_
      refine bindK e2 (fun x5 e6 e2 => ?_)
      refine PO.cut 8 (fun s => ∃ (v5 : Bool), Weak s (PS.of 156 [(0, .list 13 (List.map cGItem a0) none), (1, .val (.int .i64 a1)), (3, .val (.int .i64 a3)), (8, .ptr 0 0), (9, .ptr 1 0), (30, .val (.bool v5))] [⟨0, [.val (.int .i64 0), .val (.int .i64 0), .val (.int .i64 0), .val (.int .i64 0), .val (.int .i64 0), .val (.int .i64 0), .val (.int .i64 0), .val (.int .i64 0), .val (.int .i64 0), .val (.bool false), .val (.bool false), .val (.bool false), .val (.int .i64 0), .val (.int .i64 0)]⟩, ⟨0, [.val (.int .i64 v3), .val (.int .i64 a3), .val (.int .i64 a3), .val (.int .i64 0), .val (.int .i64 0), .val (.int .i64 0), .val (.int .i64 0), .val (.int .i64 0), .val (.int .i64 0), .val (.bool false), .val (.bool false), .val (.bool false), .val (.int .i64 0), .val (.int .i64 0)]⟩] [] 0 0) ∧ v5 = x5) ?_ ?_
      · refine PO.case (t := 22) rfl rfl (fun h7 => ?_) (fun h7 => ?_)
        · have e6 := bif_t h7 e6
          refine PO.runK 3 [0, 1] [] (es := [(0, .list 13 (List.map cGItem a0) none), (1, .val (.int .i64 a1)), (3, .val (.int .i64 a3)), (8, .ptr 0 0), (9, .ptr 1 0), (22, .val (.bool true)), (23, .list 13 (List.map cGItem a0) none), (25, .val (.int .i64 v3))]) (fr' := [⟨0, [.val (.int .i64 0), .val (.int .i64 0), .val (.int .i64 0), .val (.int .i64 0), .val (.int .i64 0), .val (.int .i64 0), .val (.int .i64 0), .val (.int .i64 0), .val (.int .i64 0), .val (.bool false), .val (.bool false), .val (.bool false), .val (.int .i64 0), .val (.int .i64 0)]⟩, ⟨0, [.val (.int .i64 v3), .val (.int .i64 a3), .val (.int .i64 a3), .val (.int .i64 0), .val (.int .i64 0), .val (.int .i64 0), .val (.int .i64 0), .val (.int .i64 0), .val (.int .i64 0), .val (.bool false), .val (.bool false), .val (.bool false), .val (.int .i64 0), .val (.int .i64 0)]⟩]) (tk' := []) (by kernel_rfl) ?_
          refine bindIK e6 (fun y6 h8 h9 e6 => ?_)
          refine PO.same rfl (indexAddr_ok Try.underlying22 rfl rfl rfl h8 (map_at h9)) rfl ?_
          refine PO.run 3 rfl ?_
          refine PO.same rfl (pickT_ok rfl rfl rfl) rfl ?_
          refine PO.nil ?_
          exact ⟨y6.kind != 1, Weak.one [0, 1] [] (by kernel_rfl), Option.some.inj e6⟩
        · have e6 := bif_f h7 e6
          refine PO.run 7 rfl ?_
          refine PO.same rfl (pickF_ok rfl rfl rfl) rfl ?_
          refine PO.nil ?_
          exact ⟨false, Weak.one [0, 1] [] (by kernel_rfl), Option.some.inj e6⟩
      · rintro _ ⟨v5, w10, rfl⟩
        refine PO.weak w10 ?_
        refine PO.nil ?_
        refine PC.cond rfl (fun h11 => ?_) (fun h11 => ?_)
        · have e2 := bif_t h11 e2
          refine PC.noop ?_
          refine PC.lone ?_
          refine PC.block ?_
          refine PC.lone ?_
          refine PC.region ?_
          refine PO.runK 5 [0, 1] [] (es := [(0, .list 13 (List.map cGItem a0) none), (1, .val (.int .i64 a1)), (3, .val (.int .i64 a3)), (8, .ptr 0 0), (9, .ptr 1 0)]) (fr' := [⟨0, [.val (.int .i64 0), .val (.int .i64 0), .val (.int .i64 0), .val (.int .i64 0), .val (.int .i64 0), .val (.int .i64 0), .val (.int .i64 0), .val (.int .i64 0), .val (.int .i64 0), .val (.bool false), .val (.bool false), .val (.bool false), .val (.int .i64 0), .val (.int .i64 0)]⟩, ⟨0, [.val (.int .i64 (w (v3 + 1))), .val (.int .i64 a3), .val (.int .i64 a3), .val (.int .i64 0), .val (.int .i64 0), .val (.int .i64 0), .val (.int .i64 0), .val (.int .i64 0), .val (.int .i64 0), .val (.bool false), .val (.bool false), .val (.bool false), .val (.int .i64 0), .val (.int .i64 0)]⟩]) (tk' := []) (by kernel_rfl) ?_
          refine PO.nil ?_
          refine PC.skip (blockKP.end ?_)
          exact PC.skip (loopKP.mk (Nat.lt_succ_self _) ⟨w (v3 + 1), Weak.one [0, 1] [] (by kernel_rfl), e2⟩)
        · have e2 := bif_f h11 e2
          exact PC.exit (loopKP.exit (blockJK.here ⟨v3, Weak.one [0, 1] [] (by kernel_rfl), Option.some.inj e2⟩))
  · rintro _ ⟨v1, w12, rfl⟩
    refine PC.weak w12 ?_
    refine bindK hF (fun x13 e14 hF => ?_)
    refine PC.blockJ (fun s => ∃ (v7 : Int), Weak s (PS.of 156 [(0, .list 13 (List.map cGItem a0) none), (1, .val (.int .i64 a1)), (3, .val (.int .i64 a3)), (8, .ptr 0 0), (9, .ptr 1 0)] [⟨0, [.val (.int .i64 0), .val (.int .i64 0), .val (.int .i64 0), .val (.int .i64 0), .val (.int .i64 0), .val (.int .i64 0), .val (.int .i64 0), .val (.int .i64 0), .val (.int .i64 0), .val (.bool false), .val (.bool false), .val (.bool false), .val (.int .i64 0), .val (.int .i64 0)]⟩, ⟨0, [.val (.int .i64 v1), .val (.int .i64 v7), .val (.int .i64 a3), .val (.int .i64 0), .val (.int .i64 0), .val (.int .i64 0), .val (.int .i64 0), .val (.int .i64 0), .val (.int .i64 0), .val (.bool false), .val (.bool false), .val (.bool false), .val (.int .i64 0), .val (.int .i64 0)]⟩] [] 0 0) ∧ v7 = x13) ?_ ?_
    · refine PC.loop (fun j15 s => ∃ (v9 : Int), Weak s (PS.of 156 [(0, .list 13 (List.map cGItem a0) none), (1, .val (.int .i64 a1)), (3, .val (.int .i64 a3)), (8, .ptr 0 0), (9, .ptr 1 0)] [⟨0, [.val (.int .i64 0), .val (.int .i64 0), .val (.int .i64 0), .val (.int .i64 0), .val (.int .i64 0), .val (.int .i64 0), .val (.int .i64 0), .val (.int .i64 0), .val (.int .i64 0), .val (.bool false), .val (.bool false), .val (.bool false), .val (.int .i64 0), .val (.int .i64 0)]⟩, ⟨0, [.val (.int .i64 v1), .val (.int .i64 v9), .val (.int .i64 a3), .val (.int .i64 0), .val (.int .i64 0), .val (.int .i64 0), .val (.int .i64 0), .val (.int .i64 0), .val (.int .i64 0), .val (.bool false), .val (.bool false), .val (.bool false), .val (.int .i64 0), .val (.int .i64 0)]⟩] [] 0 0) ∧ F18_l2 k a0 v1 j15 v9 = some x13) (fun j15 s => ?_) k ⟨a3, Weak.one [0, 1] [] (by kernel_rfl), e14⟩
      rintro ⟨v9, w16, e14⟩
      refine PC.weak w16 ?_
      cases j15 with
      | zero => rw [F18_l2] at e14; cases e14
      | succ j15 =>
        rw [F18_l2] at e14
        refine PC.assoc ?_
        refine PC.region ?_
        refine PO.run 6 rfl ?_
        refine bindK e14 (fun x17 e18 e14 => ?_)
        refine PO.cut 9 (fun s => ∃ (v11 : Bool), Weak s (PS.of 156 [(0, .list 13 (List.map cGItem a0) none), (1, .val (.int .i64 a1)), (3, .val (.int .i64 a3)), (8, .ptr 0 0), (9, .ptr 1 0), (49, .val (.bool v11))] [⟨0, [.val (.int .i64 0), .val (.int .i64 0), .val (.int .i64 0), .val (.int .i64 0), .val (.int .i64 0), .val (.int .i64 0), .val (.int .i64 0), .val (.int .i64 0), .val (.int .i64 0), .val (.bool false), .val (.bool false), .val (.bool false), .val (.int .i64 0), .val (.int .i64 0)]⟩, ⟨0, [.val (.int .i64 v1), .val (.int .i64 v9), .val (.int .i64 a3), .val (.int .i64 0), .val (.int .i64 0), .val (.int .i64 0), .val (.int .i64 0), .val (.int .i64 0), .val (.int .i64 0), .val (.bool false), .val (.bool false), .val (.bool false), .val (.int .i64 0), .val (.int .i64 0)]⟩] [] 0 0) ∧ v11 = x17) ?_ ?_
        · refine PO.case (t := 40) rfl rfl (fun h19 => ?_) (fun h19 => ?_)
          · have e18 := bif_t h19 e18
            refine PO.runK 4 [0, 1] [] (es := [(0, .list 13 (List.map cGItem a0) none), (1, .val (.int .i64 a1)), (3, .val (.int .i64 a3)), (8, .ptr 0 0), (9, .ptr 1 0), (40, .val (.bool true)), (41, .list 13 (List.map cGItem a0) none), (44, .val (.int .i64 (w (v9 - 1))))]) (fr' := [⟨0, [.val (.int .i64 0), .val (.int .i64 0), .val (.int .i64 0), .val (.int .i64 0), .val (.int .i64 0), .val (.int .i64 0), .val (.int .i64 0), .val (.int .i64 0), .val (.int .i64 0), .val (.bool false), .val (.bool false), .val (.bool false), .val (.int .i64 0), .val (.int .i64 0)]⟩, ⟨0, [.val (.int .i64 v1), .val (.int .i64 v9), .val (.int .i64 a3), .val (.int .i64 0), .val (.int .i64 0), .val (.int .i64 0), .val (.int .i64 0), .val (.int .i64 0), .val (.int .i64 0), .val (.bool false), .val (.bool false), .val (.bool false), .val (.int .i64 0), .val (.int .i64 0)]⟩]) (tk' := []) (by kernel_rfl) ?_
            refine bindIK e18 (fun y12 h20 h21 e18 => ?_)
            refine PO.same rfl (indexAddr_ok Try.underlying22 rfl rfl rfl h20 (map_at h21)) rfl ?_
            refine PO.run 3 rfl ?_
            refine PO.same rfl (pickT_ok rfl rfl rfl) rfl ?_
            refine PO.nil ?_
            exact ⟨y12.kind != 1, Weak.one [0, 1] [] (by kernel_rfl), Option.some.inj e18⟩
          · have e18 := bif_f h19 e18
            refine PO.run 8 rfl ?_
            refine PO.same rfl (pickF_ok rfl rfl rfl) rfl ?_
            refine PO.nil ?_
            exact ⟨false, Weak.one [0, 1] [] (by kernel_rfl), Option.some.inj e18⟩
        · rintro _ ⟨v11, w22, rfl⟩
          refine PO.weak w22 ?_
          refine PO.nil ?_
          refine PC.cond rfl (fun h23 => ?_) (fun h23 => ?_)
          · have e14 := bif_t h23 e14
            refine PC.noop ?_
            refine PC.lone ?_
            refine PC.block ?_
            refine PC.lone ?_
            refine PC.region ?_
            refine PO.runK 5 [0, 1] [] (es := [(0, .list 13 (List.map cGItem a0) none), (1, .val (.int .i64 a1)), (3, .val (.int .i64 a3)), (8, .ptr 0 0), (9, .ptr 1 0)]) (fr' := [⟨0, [.val (.int .i64 0), .val (.int .i64 0), .val (.int .i64 0), .val (.int .i64 0), .val (.int .i64 0), .val (.int .i64 0), .val (.int .i64 0), .val (.int .i64 0), .val (.int .i64 0), .val (.bool false), .val (.bool false), .val (.bool false), .val (.int .i64 0), .val (.int .i64 0)]⟩, ⟨0, [.val (.int .i64 v1), .val (.int .i64 (w (v9 - 1))), .val (.int .i64 a3), .val (.int .i64 0), .val (.int .i64 0), .val (.int .i64 0), .val (.int .i64 0), .val (.int .i64 0), .val (.int .i64 0), .val (.bool false), .val (.bool false), .val (.bool false), .val (.int .i64 0), .val (.int .i64 0)]⟩]) (tk' := []) (by kernel_rfl) ?_
            refine PO.nil ?_
            refine PC.skip (blockKP.end ?_)
            exact PC.skip (loopKP.mk (Nat.lt_succ_self _) ⟨w (v9 - 1), Weak.one [0, 1] [] (by kernel_rfl), e14⟩)
          · have e14 := bif_f h23 e14
            exact PC.exit (loopKP.exit (blockJK.here ⟨v9, Weak.one [0, 1] [] (by kernel_rfl), Option.some.inj e14⟩))
    · rintro _ ⟨v7, w24, rfl⟩
      refine PC.weak w24 ?_
      refine PC.assoc ?_
      refine PC.region ?_
      refine PO.run 5 rfl ?_
      refine bindSK hF (fun h25 h26 h27 hF => ?_)
      generalize hgl13 : (List.take (Int.toNat v7) a0).drop (Int.toNat v1) = l13 at hF
      refine PO.same rfl (slice_ok (l2 := List.map cGItem l13) Try.underlying22 rfl rfl (.some rfl h25 rfl) (.some rfl (Int.le_trans h25 h26) rfl) (Int.toNat_le_toNat h26) (toNat_le1 h27) (by rw [← hgl13, List.map_drop, List.map_take] <;> first | rfl | simp [w])) rfl ?_
      refine PO.runK 0 [0, 1] [] (es := [(0, .list 13 (List.map cGItem a0) none), (1, .val (.int .i64 a1)), (3, .val (.int .i64 a3)), (8, .ptr 0 0), (9, .ptr 1 0), (59, .list 13 (List.map cGItem l13) none)]) (fr' := [⟨0, [.val (.int .i64 0), .val (.int .i64 0), .val (.int .i64 0), .val (.int .i64 0), .val (.int .i64 0), .val (.int .i64 0), .val (.int .i64 0), .val (.int .i64 0), .val (.int .i64 0), .val (.bool false), .val (.bool false), .val (.bool false), .val (.int .i64 0), .val (.int .i64 0)]⟩, ⟨0, [.val (.int .i64 v1), .val (.int .i64 v7), .val (.int .i64 a3), .val (.int .i64 0), .val (.int .i64 0), .val (.int .i64 0), .val (.int .i64 0), .val (.int .i64 0), .val (.int .i64 0), .val (.bool false), .val (.bool false), .val (.bool false), .val (.int .i64 0), .val (.int .i64 0)]⟩]) (tk' := []) (by kernel_rfl) ?_
      refine PO.same rfl (len_ok Try.underlying22 rfl (List.length_map _)) rfl ?_
      refine PO.run 1 rfl ?_
      refine PO.nil ?_
      refine bindK hF (fun x28 e29 hF => ?_)
      refine PC.blockJ (fun s => ∃ (v14 : Int) (v15 : Int) (v16 : Int) (v17 : Int) (v18 : Int), Weak s (PS.of 156 [(0, .list 13 (List.map cGItem a0) none), (1, .val (.int .i64 a1)), (3, .val (.int .i64 a3)), (8, .ptr 0 0), (9, .ptr 1 0)] [⟨0, [.val (.int .i64 0), .val (.int .i64 0), .val (.int .i64 0), .val (.int .i64 0), .val (.int .i64 0), .val (.int .i64 0), .val (.int .i64 0), .val (.int .i64 0), .val (.int .i64 0), .val (.bool false), .val (.bool false), .val (.bool false), .val (.int .i64 0), .val (.int .i64 0)]⟩, ⟨0, [.val (.int .i64 v1), .val (.int .i64 v7), .val (.int .i64 a3), .val (.int .i64 v14), .val (.int .i64 v15), .val (.int .i64 v16), .val (.int .i64 0), .val (.int .i64 0), .val (.int .i64 0), .val (.bool false), .val (.bool false), .val (.bool false), .val (.int .i64 v17), .val (.int .i64 v18)]⟩] [] 0 0) ∧ (v14, v15, v16, v17, v18) = x28) ?_ ?_
      · refine PC.loop (fun j30 s => ∃ (v25 : Int) (v26 : Int) (v27 : Int) (v28 : Int) (v29 : Int) (v30 : Int), Weak s (PS.of 156 [(0, .list 13 (List.map cGItem a0) none), (1, .val (.int .i64 a1)), (3, .val (.int .i64 a3)), (8, .ptr 0 0), (9, .ptr 1 0), (59, .list 13 (List.map cGItem l13) none), (60, .val (.int .i64 (l13.length : Int))), (61, .val (.int .i64 v25))] [⟨0, [.val (.int .i64 0), .val (.int .i64 0), .val (.int .i64 0), .val (.int .i64 0), .val (.int .i64 0), .val (.int .i64 0), .val (.int .i64 0), .val (.int .i64 0), .val (.int .i64 0), .val (.bool false), .val (.bool false), .val (.bool false), .val (.int .i64 0), .val (.int .i64 0)]⟩, ⟨0, [.val (.int .i64 v1), .val (.int .i64 v7), .val (.int .i64 a3), .val (.int .i64 v26), .val (.int .i64 v27), .val (.int .i64 v28), .val (.int .i64 0), .val (.int .i64 0), .val (.int .i64 0), .val (.bool false), .val (.bool false), .val (.bool false), .val (.int .i64 v29), .val (.int .i64 v30)]⟩] [] 0 0) ∧ F18_l3 k l13 j30 v25 v26 v27 v28 v29 v30 = some x28) (fun j30 s => ?_) k ⟨0, 0, 0, 0, 0, 0, Weak.one [0, 1] [] (by kernel_rfl), e29⟩
        rintro ⟨v25, v26, v27, v28, v29, v30, w31, e29⟩
        refine PC.weak w31 ?_
        cases j30 with
        | zero => rw [F18_l3] at e29; cases e29
        | succ j30 =>
          rw [F18_l3] at e29
          refine PC.run (n := 2) rfl ?_
          refine PC.cond rfl (fun h32 => ?_) (fun h32 => ?_)
          · have e29 := bif_t h32 e29
            refine PC.noop ?_
            refine PC.block ?_
            refine PC.region ?_
            refine bindIK e29 (fun y37 h33 h34 e29 => ?_)
            refine PO.same rfl (indexAddr_ok Try.underlying22 rfl rfl rfl h33 (map_at h34)) rfl ?_
            refine PO.runK 3 [0, 1, 2] [] (es := [(0, .list 13 (List.map cGItem a0) none), (1, .val (.int .i64 a1)), (3, .val (.int .i64 a3)), (8, .ptr 0 0), (9, .ptr 1 0), (11, .ptr 2 0), (59, .list 13 (List.map cGItem l13) none), (60, .val (.int .i64 (l13.length : Int))), (61, .val (.int .i64 v25))]) (fr' := [⟨0, [.val (.int .i64 0), .val (.int .i64 0), .val (.int .i64 0), .val (.int .i64 0), .val (.int .i64 0), .val (.int .i64 0), .val (.int .i64 0), .val (.int .i64 0), .val (.int .i64 0), .val (.bool false), .val (.bool false), .val (.bool false), .val (.int .i64 0), .val (.int .i64 0)]⟩, ⟨0, [.val (.int .i64 v1), .val (.int .i64 v7), .val (.int .i64 a3), .val (.int .i64 v26), .val (.int .i64 v27), .val (.int .i64 v28), .val (.int .i64 0), .val (.int .i64 0), .val (.int .i64 0), .val (.bool false), .val (.bool false), .val (.bool false), .val (.int .i64 v29), .val (.int .i64 v30)]⟩, ⟨0, (cGItem y37)⟩]) (tk' := []) (by kernel_rfl) ?_
            refine PO.nil ?_
            refine PC.run (n := 3) rfl ?_
            refine PC.lone ?_
            refine bindK e29 (fun x35 e36 e29 => ?_)
            refine PC.blockJ (fun s => ∃ (v38 : Int) (v39 : Int) (v40 : Int) (v41 : Int) (v42 : Int), Weak s (PS.of 156 [(0, .list 13 (List.map cGItem a0) none), (1, .val (.int .i64 a1)), (3, .val (.int .i64 a3)), (8, .ptr 0 0), (9, .ptr 1 0), (59, .list 13 (List.map cGItem l13) none), (60, .val (.int .i64 (l13.length : Int))), (61, .val (.int .i64 v25))] [⟨0, [.val (.int .i64 0), .val (.int .i64 0), .val (.int .i64 0), .val (.int .i64 0), .val (.int .i64 0), .val (.int .i64 0), .val (.int .i64 0), .val (.int .i64 0), .val (.int .i64 0), .val (.bool false), .val (.bool false), .val (.bool false), .val (.int .i64 0), .val (.int .i64 0)]⟩, ⟨0, [.val (.int .i64 v1), .val (.int .i64 v7), .val (.int .i64 a3), .val (.int .i64 v38), .val (.int .i64 v39), .val (.int .i64 v40), .val (.int .i64 0), .val (.int .i64 0), .val (.int .i64 0), .val (.bool false), .val (.bool false), .val (.bool false), .val (.int .i64 v41), .val (.int .i64 v42)]⟩] [] 0 0) ∧ (v38, v39, v40, v41, v42) = x35) ?_ ?_
            · refine PC.run (n := 3) rfl ?_
              refine PC.lone ?_
              refine PC.cond rfl (fun h37 => ?_) (fun h37 => ?_)
              · have e36 := bif_t h37 e36
                refine PC.assoc ?_
                refine PC.region ?_
                refine PO.runK 7 [0, 1, 2] [] (es := [(0, .list 13 (List.map cGItem a0) none), (1, .val (.int .i64 a1)), (3, .val (.int .i64 a3)), (8, .ptr 0 0), (9, .ptr 1 0), (11, .ptr 2 0), (59, .list 13 (List.map cGItem l13) none), (60, .val (.int .i64 (l13.length : Int))), (61, .val (.int .i64 v25))]) (fr' := [⟨0, [.val (.int .i64 0), .val (.int .i64 0), .val (.int .i64 0), .val (.int .i64 0), .val (.int .i64 0), .val (.int .i64 0), .val (.int .i64 0), .val (.int .i64 0), .val (.int .i64 0), .val (.bool false), .val (.bool false), .val (.bool false), .val (.int .i64 0), .val (.int .i64 0)]⟩, ⟨0, [.val (.int .i64 v1), .val (.int .i64 v7), .val (.int .i64 a3), .val (.int .i64 (w (v26 + y37.width))), .val (.int .i64 v27), .val (.int .i64 v28), .val (.int .i64 0), .val (.int .i64 0), .val (.int .i64 0), .val (.bool false), .val (.bool false), .val (.bool false), .val (.int .i64 v29), .val (.int .i64 v30)]⟩, ⟨0, (cGItem y37)⟩]) (tk' := []) (by kernel_rfl) ?_
                refine PO.nil ?_
                refine PC.draw [0, 1, 2, 3, 4, 5, 6, 10, 11, 7, 8, 9, 12, 13] (by kernel_rfl) ?_
                refine PD.runK 14 (js' := []) (σ' := ⟨16383, 16383, 8191, [(13, [1], false), (11, [1, 1], false)]⟩) (es := [(0, .list 13 (List.map cGItem a0) none), (1, .val (.int .i64 a1)), (3, .val (.int .i64 a3)), (8, .ptr 0 0), (9, .ptr 1 0), (59, .list 13 (List.map cGItem l13) none), (60, .val (.int .i64 (l13.length : Int))), (61, .val (.int .i64 v25))]) (fr' := [⟨0, [.val (.int .i64 0), .val (.int .i64 0), .val (.int .i64 0), .val (.int .i64 0), .val (.int .i64 0), .val (.int .i64 0), .val (.int .i64 0), .val (.int .i64 0), .val (.int .i64 0), .val (.bool false), .val (.bool false), .val (.bool false), .val (.int .i64 0), .val (.int .i64 0)]⟩, ⟨0, [.val (.int .i64 v1), .val (.int .i64 v7), .val (.int .i64 a3), .val (.int .i64 (w (v26 + y37.width))), .val (.int .i64 v27), .val (.int .i64 v28), .val (.int .i64 0), .val (.int .i64 0), .val (.int .i64 0), .val (.bool false), .val (.bool false), .val (.bool false), .val (.int .i64 (if y37.height > v29 then y37.height else v29)), .val (.int .i64 (if y37.depth > v30 then y37.depth else v30))]⟩, ⟨0, (cGItem y37)⟩]) (tk' := []) (by kernel_rfl) ?_
                refine PD.done [0, 1] [] (es := [(0, .list 13 (List.map cGItem a0) none), (1, .val (.int .i64 a1)), (3, .val (.int .i64 a3)), (8, .ptr 0 0), (9, .ptr 1 0), (59, .list 13 (List.map cGItem l13) none), (60, .val (.int .i64 (l13.length : Int))), (61, .val (.int .i64 v25))]) (fr' := [⟨0, [.val (.int .i64 0), .val (.int .i64 0), .val (.int .i64 0), .val (.int .i64 0), .val (.int .i64 0), .val (.int .i64 0), .val (.int .i64 0), .val (.int .i64 0), .val (.int .i64 0), .val (.bool false), .val (.bool false), .val (.bool false), .val (.int .i64 0), .val (.int .i64 0)]⟩, ⟨0, [.val (.int .i64 v1), .val (.int .i64 v7), .val (.int .i64 a3), .val (.int .i64 (w (v26 + y37.width))), .val (.int .i64 v27), .val (.int .i64 v28), .val (.int .i64 0), .val (.int .i64 0), .val (.int .i64 0), .val (.bool false), .val (.bool false), .val (.bool false), .val (.int .i64 (if y37.height > v29 then y37.height else v29)), .val (.int .i64 (if y37.depth > v30 then y37.depth else v30))]⟩]) (tk' := []) (by kernel_rfl) (by kernel_rfl) ?_
                exact PC.skip (blockJK.end ⟨w (v26 + y37.width), v27, v28, (if y37.height > v29 then y37.height else v29), (if y37.depth > v30 then y37.depth else v30), Weak.one [0, 1] [] (by kernel_rfl), Option.some.inj e36⟩)
              · have e36 := bif_f h37 e36
                refine PC.assoc ?_
                refine PC.run (n := 3) rfl ?_
                refine PC.cond rfl (fun h38 => ?_) (fun h38 => ?_)
                · have e36 := bif_t h38 e36
                  refine PC.region ?_
                  refine PO.runK 7 [0, 1] [] (es := [(0, .list 13 (List.map cGItem a0) none), (1, .val (.int .i64 a1)), (3, .val (.int .i64 a3)), (8, .ptr 0 0), (9, .ptr 1 0), (59, .list 13 (List.map cGItem l13) none), (60, .val (.int .i64 (l13.length : Int))), (61, .val (.int .i64 v25))]) (fr' := [⟨0, [.val (.int .i64 0), .val (.int .i64 0), .val (.int .i64 0), .val (.int .i64 0), .val (.int .i64 0), .val (.int .i64 0), .val (.int .i64 0), .val (.int .i64 0), .val (.int .i64 0), .val (.bool false), .val (.bool false), .val (.bool false), .val (.int .i64 0), .val (.int .i64 0)]⟩, ⟨0, [.val (.int .i64 v1), .val (.int .i64 v7), .val (.int .i64 a3), .val (.int .i64 (w (v26 + y37.width))), .val (.int .i64 v27), .val (.int .i64 v28), .val (.int .i64 0), .val (.int .i64 0), .val (.int .i64 0), .val (.bool false), .val (.bool false), .val (.bool false), .val (.int .i64 v29), .val (.int .i64 v30)]⟩]) (tk' := []) (by kernel_rfl) ?_
                  refine PO.nil ?_
                  exact PC.skip (blockJK.end ⟨w (v26 + y37.width), v27, v28, v29, v30, Weak.one [0, 1] [] (by kernel_rfl), Option.some.inj e36⟩)
                · have e36 := bif_f h38 e36
                  refine PC.assoc ?_
                  refine PC.run (n := 3) rfl ?_
                  refine PC.cond rfl (fun h39 => ?_) (fun h39 => ?_)
                  · have e36 := bif_t h39 e36
                    refine PC.assoc ?_
                    refine PC.region ?_
                    refine PO.runK 7 [0, 1, 2] [] (es := [(0, .list 13 (List.map cGItem a0) none), (1, .val (.int .i64 a1)), (3, .val (.int .i64 a3)), (8, .ptr 0 0), (9, .ptr 1 0), (11, .ptr 2 0), (59, .list 13 (List.map cGItem l13) none), (60, .val (.int .i64 (l13.length : Int))), (61, .val (.int .i64 v25))]) (fr' := [⟨0, [.val (.int .i64 0), .val (.int .i64 0), .val (.int .i64 0), .val (.int .i64 0), .val (.int .i64 0), .val (.int .i64 0), .val (.int .i64 0), .val (.int .i64 0), .val (.int .i64 0), .val (.bool false), .val (.bool false), .val (.bool false), .val (.int .i64 0), .val (.int .i64 0)]⟩, ⟨0, [.val (.int .i64 v1), .val (.int .i64 v7), .val (.int .i64 a3), .val (.int .i64 (w (v26 + y37.width))), .val (.int .i64 v27), .val (.int .i64 v28), .val (.int .i64 0), .val (.int .i64 0), .val (.int .i64 0), .val (.bool false), .val (.bool false), .val (.bool false), .val (.int .i64 v29), .val (.int .i64 v30)]⟩, ⟨0, (cGItem y37)⟩]) (tk' := []) (by kernel_rfl) ?_
                    refine PO.nil ?_
                    refine PC.assoc ?_
                    refine PC.region ?_
                    refine PO.runK 7 [0, 1, 2] [] (es := [(0, .list 13 (List.map cGItem a0) none), (1, .val (.int .i64 a1)), (3, .val (.int .i64 a3)), (8, .ptr 0 0), (9, .ptr 1 0), (11, .ptr 2 0), (59, .list 13 (List.map cGItem l13) none), (60, .val (.int .i64 (l13.length : Int))), (61, .val (.int .i64 v25))]) (fr' := [⟨0, [.val (.int .i64 0), .val (.int .i64 0), .val (.int .i64 0), .val (.int .i64 0), .val (.int .i64 0), .val (.int .i64 0), .val (.int .i64 0), .val (.int .i64 0), .val (.int .i64 0), .val (.bool false), .val (.bool false), .val (.bool false), .val (.int .i64 0), .val (.int .i64 0)]⟩, ⟨0, [.val (.int .i64 v1), .val (.int .i64 v7), .val (.int .i64 a3), .val (.int .i64 (w (v26 + y37.width))), .val (.int .i64 (w (v27 + y37.stretch))), .val (.int .i64 v28), .val (.int .i64 0), .val (.int .i64 0), .val (.int .i64 0), .val (.bool false), .val (.bool false), .val (.bool false), .val (.int .i64 v29), .val (.int .i64 v30)]⟩, ⟨0, (cGItem y37)⟩]) (tk' := []) (by kernel_rfl) ?_
                    refine PO.nil ?_
                    refine PC.region ?_
                    refine PO.runK 7 [0, 1] [] (es := [(0, .list 13 (List.map cGItem a0) none), (1, .val (.int .i64 a1)), (3, .val (.int .i64 a3)), (8, .ptr 0 0), (9, .ptr 1 0), (59, .list 13 (List.map cGItem l13) none), (60, .val (.int .i64 (l13.length : Int))), (61, .val (.int .i64 v25))]) (fr' := [⟨0, [.val (.int .i64 0), .val (.int .i64 0), .val (.int .i64 0), .val (.int .i64 0), .val (.int .i64 0), .val (.int .i64 0), .val (.int .i64 0), .val (.int .i64 0), .val (.int .i64 0), .val (.bool false), .val (.bool false), .val (.bool false), .val (.int .i64 0), .val (.int .i64 0)]⟩, ⟨0, [.val (.int .i64 v1), .val (.int .i64 v7), .val (.int .i64 a3), .val (.int .i64 (w (v26 + y37.width))), .val (.int .i64 (w (v27 + y37.stretch))), .val (.int .i64 (w (v28 + y37.shrink))), .val (.int .i64 0), .val (.int .i64 0), .val (.int .i64 0), .val (.bool false), .val (.bool false), .val (.bool false), .val (.int .i64 v29), .val (.int .i64 v30)]⟩]) (tk' := []) (by kernel_rfl) ?_
                    refine PO.nil ?_
                    exact PC.skip (blockJK.end ⟨w (v26 + y37.width), w (v27 + y37.stretch), w (v28 + y37.shrink), v29, v30, Weak.one [0, 1] [] (by kernel_rfl), Option.some.inj e36⟩)
                  · have e36 := bif_f h39 e36
                    refine PC.noop ?_
                    exact PC.skip (blockJK.end ⟨v26, v27, v28, v29, v30, Weak.one [0, 1] [] (by kernel_rfl), Option.some.inj e36⟩)
            · rintro _ ⟨v38, v39, v40, v41, v42, w40, rfl⟩
              refine PC.weak w40 ?_
              refine PC.skip (blockKP.end ?_)
              refine PC.lone ?_
              refine PC.run (n := 3) rfl ?_
              exact PC.skip (loopKP.mk (Nat.lt_succ_self _) ⟨w (v25 + 1), v38, v39, v40, v41, v42, Weak.one [0, 1] [] (by kernel_rfl), e29⟩)
          · have e29 := bif_f h32 e29
            exact PC.exit (loopKP.exit (blockJK.here ⟨v26, v27, v28, v29, v30, Weak.one [0, 1] [] (by kernel_rfl), Option.some.inj e29⟩))
      · rintro _ ⟨v14, v15, v16, v17, v18, w41, rfl⟩
        refine PC.weak w41 ?_
        refine PC.assoc ?_
        refine PC.region ?_
        refine PO.run 2 rfl ?_
        refine bindIK hF (fun y43 h42 h43 hF => ?_)
        refine PO.same rfl (indexAddr_ok Try.underlying22 rfl rfl rfl h42 (map_at h43)) rfl ?_
        refine PO.runK 3 [0, 1, 2] [] (es := [(1, .val (.int .i64 a1)), (8, .ptr 0 0), (9, .ptr 1 0), (12, .ptr 2 0)]) (fr' := [⟨0, [.val (.int .i64 0), .val (.int .i64 0), .val (.int .i64 0), .val (.int .i64 0), .val (.int .i64 0), .val (.int .i64 0), .val (.int .i64 0), .val (.int .i64 0), .val (.int .i64 0), .val (.bool false), .val (.bool false), .val (.bool false), .val (.int .i64 0), .val (.int .i64 0)]⟩, ⟨0, [.val (.int .i64 v1), .val (.int .i64 v7), .val (.int .i64 a3), .val (.int .i64 v14), .val (.int .i64 v15), .val (.int .i64 v16), .val (.int .i64 0), .val (.int .i64 0), .val (.int .i64 0), .val (.bool false), .val (.bool false), .val (.bool false), .val (.int .i64 v17), .val (.int .i64 v18)]⟩, ⟨0, (cGItem y43)⟩]) (tk' := []) (by kernel_rfl) ?_
        refine PO.nil ?_
        refine PC.assoc ?_
        refine PC.run (n := 4) rfl ?_
        refine bindK hF (fun x44 e45 hF => ?_)
        refine PC.join (fun s => ∃ (v44 : Int) (v45 : Bool) (v46 : Bool) (v47 : Int) (v48 : Int), Weak s (PS.of 156 [(1, .val (.int .i64 a1)), (8, .ptr 0 0), (9, .ptr 1 0)] [⟨0, [.val (.int .i64 0), .val (.int .i64 0), .val (.int .i64 0), .val (.int .i64 0), .val (.int .i64 0), .val (.int .i64 0), .val (.int .i64 0), .val (.int .i64 0), .val (.int .i64 0), .val (.bool false), .val (.bool false), .val (.bool false), .val (.int .i64 0), .val (.int .i64 0)]⟩, ⟨0, [.val (.int .i64 v1), .val (.int .i64 v7), .val (.int .i64 a3), .val (.int .i64 v44), .val (.int .i64 v15), .val (.int .i64 v16), .val (.int .i64 0), .val (.int .i64 0), .val (.int .i64 0), .val (.bool false), .val (.bool v45), .val (.bool v46), .val (.int .i64 v47), .val (.int .i64 v48)]⟩] [] 0 0) ∧ (v44, v45, v46, v47, v48) = x44) ?_ ?_
        · refine PC.cond rfl (fun h46 => ?_) (fun h46 => ?_)
          · have e45 := bif_t h46 e45
            refine PC.assoc ?_
            refine PC.region ?_
            refine PO.runK 7 [0, 1, 2] [] (es := [(1, .val (.int .i64 a1)), (8, .ptr 0 0), (9, .ptr 1 0), (12, .ptr 2 0)]) (fr' := [⟨0, [.val (.int .i64 0), .val (.int .i64 0), .val (.int .i64 0), .val (.int .i64 0), .val (.int .i64 0), .val (.int .i64 0), .val (.int .i64 0), .val (.int .i64 0), .val (.int .i64 0), .val (.bool false), .val (.bool false), .val (.bool false), .val (.int .i64 0), .val (.int .i64 0)]⟩, ⟨0, [.val (.int .i64 v1), .val (.int .i64 v7), .val (.int .i64 a3), .val (.int .i64 (w (v14 + y43.width))), .val (.int .i64 v15), .val (.int .i64 v16), .val (.int .i64 0), .val (.int .i64 0), .val (.int .i64 0), .val (.bool false), .val (.bool false), .val (.bool false), .val (.int .i64 v17), .val (.int .i64 v18)]⟩, ⟨0, (cGItem y43)⟩]) (tk' := []) (by kernel_rfl) ?_
            refine PO.nil ?_
            refine PC.assoc ?_
            refine PC.draw [2, 3, 0, 1, 4, 5, 6, 7] (by kernel_rfl) ?_
            refine PD.runK 1 (js' := [3, 0, 1, 4, 5, 6, 7]) (σ' := ⟨4, 0, 0, []⟩) (es := [(1, .val (.int .i64 a1)), (8, .ptr 0 0), (9, .ptr 1 0), (12, .ptr 2 0), (131, .agg (cGItem y43))]) (fr' := [⟨0, [.val (.int .i64 0), .val (.int .i64 0), .val (.int .i64 0), .val (.int .i64 0), .val (.int .i64 0), .val (.int .i64 0), .val (.int .i64 0), .val (.int .i64 0), .val (.int .i64 0), .val (.bool false), .val (.bool false), .val (.bool false), .val (.int .i64 0), .val (.int .i64 0)]⟩, ⟨0, [.val (.int .i64 v1), .val (.int .i64 v7), .val (.int .i64 a3), .val (.int .i64 (w (v14 + y43.width))), .val (.int .i64 v15), .val (.int .i64 v16), .val (.int .i64 0), .val (.int .i64 0), .val (.int .i64 0), .val (.bool false), .val (.bool false), .val (.bool false), .val (.int .i64 v17), .val (.int .i64 v18)]⟩, ⟨0, (cGItem y43)⟩]) (tk' := []) (by kernel_rfl) ?_
            refine bindK e45 (fun r47 e48 e45 => ?_)
            refine PD.call rfl rfl (by kernel_rfl) rfl rfl rfl (ks := []) (ts := []) (fr1 := []) rfl rfl rfl trivial (L17 k y43 _ e48) ?_
            rintro _ _ _ ⟨rfl, rfl, rfl⟩
            refine ⟨_, _, rfl, rfl, ?_⟩
            refine PD.runK 6 (js' := []) (σ' := ⟨255, 255, 127, [(7, [1], false), (5, [1, 1], false), (3, [1, 1], true)]⟩) (es := [(1, .val (.int .i64 a1)), (8, .ptr 0 0), (9, .ptr 1 0), (12, .ptr 2 0)]) (fr' := [⟨0, [.val (.int .i64 0), .val (.int .i64 0), .val (.int .i64 0), .val (.int .i64 0), .val (.int .i64 0), .val (.int .i64 0), .val (.int .i64 0), .val (.int .i64 0), .val (.int .i64 0), .val (.bool false), .val (.bool false), .val (.bool false), .val (.int .i64 0), .val (.int .i64 0)]⟩, ⟨0, [.val (.int .i64 v1), .val (.int .i64 v7), .val (.int .i64 a3), .val (.int .i64 (w (v14 + y43.width))), .val (.int .i64 v15), .val (.int .i64 v16), .val (.int .i64 0), .val (.int .i64 0), .val (.int .i64 0), .val (.bool false), .val (.bool y43.flag), .val (.bool r47), .val (.int .i64 v17), .val (.int .i64 v18)]⟩, ⟨0, (cGItem y43)⟩]) (tk' := []) (by kernel_rfl) ?_
            refine PD.done [0, 1, 2] [] (es := [(1, .val (.int .i64 a1)), (8, .ptr 0 0), (9, .ptr 1 0), (12, .ptr 2 0)]) (fr' := [⟨0, [.val (.int .i64 0), .val (.int .i64 0), .val (.int .i64 0), .val (.int .i64 0), .val (.int .i64 0), .val (.int .i64 0), .val (.int .i64 0), .val (.int .i64 0), .val (.int .i64 0), .val (.bool false), .val (.bool false), .val (.bool false), .val (.int .i64 0), .val (.int .i64 0)]⟩, ⟨0, [.val (.int .i64 v1), .val (.int .i64 v7), .val (.int .i64 a3), .val (.int .i64 (w (v14 + y43.width))), .val (.int .i64 v15), .val (.int .i64 v16), .val (.int .i64 0), .val (.int .i64 0), .val (.int .i64 0), .val (.bool false), .val (.bool y43.flag), .val (.bool r47), .val (.int .i64 v17), .val (.int .i64 v18)]⟩, ⟨0, (cGItem y43)⟩]) (tk' := []) (by kernel_rfl) (by kernel_rfl) ?_
            refine PC.assoc ?_
            refine PC.run (n := 3) rfl ?_
            refine PC.cond rfl (fun h49 => ?_) (fun h49 => ?_)
            · have e45 := bif_t h49 e45
              refine PC.draw [0, 1, 2, 3, 4, 5, 6, 10, 11, 7, 8, 9, 12, 13] (by kernel_rfl) ?_
              refine PD.runK 14 (js' := []) (σ' := ⟨16383, 16383, 8191, [(13, [1], false), (11, [1, 1], false)]⟩) (es := [(1, .val (.int .i64 a1)), (8, .ptr 0 0), (9, .ptr 1 0)]) (fr' := [⟨0, [.val (.int .i64 0), .val (.int .i64 0), .val (.int .i64 0), .val (.int .i64 0), .val (.int .i64 0), .val (.int .i64 0), .val (.int .i64 0), .val (.int .i64 0), .val (.int .i64 0), .val (.bool false), .val (.bool false), .val (.bool false), .val (.int .i64 0), .val (.int .i64 0)]⟩, ⟨0, [.val (.int .i64 v1), .val (.int .i64 v7), .val (.int .i64 a3), .val (.int .i64 (w (v14 + y43.width))), .val (.int .i64 v15), .val (.int .i64 v16), .val (.int .i64 0), .val (.int .i64 0), .val (.int .i64 0), .val (.bool false), .val (.bool y43.flag), .val (.bool r47), .val (.int .i64 (if y43.height > v17 then y43.height else v17)), .val (.int .i64 (if y43.depth > v18 then y43.depth else v18))]⟩, ⟨0, (cGItem y43)⟩]) (tk' := []) (by kernel_rfl) ?_
              refine PD.done [0, 1] [] (es := [(1, .val (.int .i64 a1)), (8, .ptr 0 0), (9, .ptr 1 0)]) (fr' := [⟨0, [.val (.int .i64 0), .val (.int .i64 0), .val (.int .i64 0), .val (.int .i64 0), .val (.int .i64 0), .val (.int .i64 0), .val (.int .i64 0), .val (.int .i64 0), .val (.int .i64 0), .val (.bool false), .val (.bool false), .val (.bool false), .val (.int .i64 0), .val (.int .i64 0)]⟩, ⟨0, [.val (.int .i64 v1), .val (.int .i64 v7), .val (.int .i64 a3), .val (.int .i64 (w (v14 + y43.width))), .val (.int .i64 v15), .val (.int .i64 v16), .val (.int .i64 0), .val (.int .i64 0), .val (.int .i64 0), .val (.bool false), .val (.bool y43.flag), .val (.bool r47), .val (.int .i64 (if y43.height > v17 then y43.height else v17)), .val (.int .i64 (if y43.depth > v18 then y43.depth else v18))]⟩]) (tk' := []) (by kernel_rfl) (by kernel_rfl) ?_
              exact PC.skip (joinKP.end ⟨w (v14 + y43.width), y43.flag, r47, (if y43.height > v17 then y43.height else v17), (if y43.depth > v18 then y43.depth else v18), Weak.one [0, 1] [] (by kernel_rfl), Option.some.inj e45⟩)
            · have e45 := bif_f h49 e45
              refine PC.noop ?_
              exact PC.skip (joinKP.end ⟨w (v14 + y43.width), y43.flag, r47, v17, v18, Weak.one [0, 1] [] (by kernel_rfl), Option.some.inj e45⟩)
          · have e45 := bif_f h46 e45
            refine PC.noop ?_
            exact PC.skip (joinKP.end ⟨v14, false, false, v17, v18, Weak.one [0, 1] [] (by kernel_rfl), Option.some.inj e45⟩)
        · rintro _ ⟨v44, v45, v46, v47, v48, w50, rfl⟩
          refine PC.weak w50 ?_
          refine PC.region ?_
          refine PO.runK 6 [0, 1] [] (es := [(8, .ptr 0 0), (9, .ptr 1 0)]) (fr' := [⟨0, [.val (.int .i64 0), .val (.int .i64 0), .val (.int .i64 0), .val (.int .i64 0), .val (.int .i64 0), .val (.int .i64 0), .val (.int .i64 0), .val (.int .i64 0), .val (.int .i64 0), .val (.bool false), .val (.bool false), .val (.bool false), .val (.int .i64 0), .val (.int .i64 0)]⟩, ⟨0, [.val (.int .i64 v1), .val (.int .i64 v7), .val (.int .i64 a3), .val (.int .i64 v44), .val (.int .i64 v15), .val (.int .i64 v16), .val (.int .i64 (w (a1 - v44))), .val (.int .i64 0), .val (.int .i64 0), .val (.bool false), .val (.bool v45), .val (.bool v46), .val (.int .i64 v47), .val (.int .i64 v48)]⟩]) (tk' := []) (by kernel_rfl) ?_
          refine PO.nil ?_
          refine PC.region ?_
          refine bindK hF (fun r51 e52 hF => ?_)
          refine PO.call rfl rfl rfl rfl (ks := [1]) (ts := []) (fr1 := [⟨0, [.val (.int .i64 v1), .val (.int .i64 v7), .val (.int .i64 a3), .val (.int .i64 v44), .val (.int .i64 v15), .val (.int .i64 v16), .val (.int .i64 (w (a1 - v44))), .val (.int .i64 0), .val (.int .i64 0), .val (.bool false), .val (.bool v45), .val (.bool v46), .val (.int .i64 v47), .val (.int .i64 v48)]⟩]) rfl rfl rfl ⟨⟨_, rfl, rfl, rfl⟩, trivial⟩ (L30 k (GLine.mk v1 v7 a3 v44 v15 v16 (w (a1 - v44)) 0 0 false v45 v46 v47 v48) _ e52) ?_
          rintro _ _ _ ⟨rfl, rfl, rfl⟩
          refine ⟨_, _, rfl, rfl, ?_⟩
          refine PO.nil ?_
          refine PC.region ?_
          refine PO.runK 2 [0] [] (es := [(8, .ptr 0 0)]) (fr' := [⟨0, (cGLine r51)⟩]) (tk' := []) (by kernel_rfl) ?_
          refine PO.nil ?_
          have hq := Option.some.inj hF
          subst hq
          exact PC.ret' (retSK [] [] (by kernel_rfl) (.refl _) ⟨rfl, rfl, rfl⟩)

/-! 5 platen/line.Line -/
def F5 (k : Nat) (a0 : List GItem) (a1 : Int) (a2 : Int) (a3 : Int) : Option (GLine × Int) :=
(F14 k a0).bind fun r1 =>
Option.bind (α := Bool) (bif r1 != 0 then (some true) else (Option.bind (α := Bool) (bif decide (a1 < 1) then (some true) else (Option.bind (α := Bool) (bif decide (a1 > 536870912) then (some true) else (Option.bind (α := Bool) (bif decide (a2 < (-1)) then (some true) else (Option.bind (α := Bool) (bif decide (a2 ≥ a3) then (some true) else (Option.bind (α := Bool) (bif decide (a3 ≥ (a0.length : Int)) then (some true) else ((F15 k a0 a3).bind fun r21 =>
Option.bind (α := Bool) (bif !r21 then (some true) else (Option.bind (α := Bool) (bif decide (a2 ≥ 0) then ((F15 k a0 a2).bind fun r29 =>
some (!r29)) else (some false)) fun (v8 : Bool) =>
some v8)) fun (v7 : Bool) =>
some v7)) fun (v6 : Bool) =>
some v6)) fun (v5 : Bool) =>
some v5)) fun (v4 : Bool) =>
some v4)) fun (v3 : Bool) =>
some v3)) fun (v2 : Bool) =>
some v2)) fun (v1 : Bool) =>
bif v1 then (some ((GLine.mk 0 0 0 0 0 0 0 0 0 false false false 0 0), 1)) else (bindS a0 (w (a2 + 1)) a3 fun l9 =>
(F16_17 k l9).bind fun r43 =>
bif r43 then (some ((GLine.mk 0 0 0 0 0 0 0 0 0 false false false 0 0), 1)) else ((F18 k a0 a1 a2 a3).bind fun r46 =>
some (r46, 0)))
theorem L5 (k : Nat) (a0 : List GItem) (a1 : Int) (a2 : Int) (a3 : Int) (r : GLine × Int) (hF : F5 k a0 a1 a2 a3 = some r) : PF Try.prog orc 5 [.list 13 (List.map cGItem a0) none, .val (.int .i64 a1), .val (.int .i64 a2), .val (.int .i64 a3)] [] [] (fun p fr tk => p = .tup [.agg (cGLine r.1), .val (.int .i64 r.2)] ∧ fr = [] ∧ tk = []) := by
  unfold F5 at hF
  refine PF.enterS Try.func5 rfl rfl rfl (by kernel_rfl) rfl ?_
  refine PC.region ?_
  refine PO.runK 2 [0] [] (es := [(0, .list 13 (List.map cGItem a0) none), (1, .val (.int .i64 a1)), (2, .val (.int .i64 a2)), (3, .val (.int .i64 a3)), (8, .ptr 0 0), (9, .val (.int .i64 0))]) (fr' := [⟨0, [.val (.int .i64 0), .val (.int .i64 0), .val (.int .i64 0), .val (.int .i64 0), .val (.int .i64 0), .val (.int .i64 0), .val (.int .i64 0), .val (.int .i64 0), .val (.int .i64 0), .val (.bool false), .val (.bool false), .val (.bool false), .val (.int .i64 0), .val (.int .i64 0)]⟩]) (tk' := []) (by kernel_rfl) ?_
  refine PO.nil ?_
  refine PC.assoc ?_
  refine PC.region ?_
  refine PO.run 1 rfl ?_
  refine bindK hF (fun r1 e2 hF => ?_)
  refine PO.call rfl rfl rfl rfl (ks := []) (ts := []) (fr1 := []) rfl rfl rfl trivial (L14 k a0 _ e2) ?_
  rintro _ _ _ ⟨rfl, rfl, rfl⟩
  refine ⟨_, _, rfl, rfl, ?_⟩
  refine PO.run 2 rfl ?_
  refine bindK hF (fun x3 e4 hF => ?_)
  refine PO.cut 38 (fun s => ∃ (v1 : Bool), Weak s (PS.of 65 [(0, .list 13 (List.map cGItem a0) none), (1, .val (.int .i64 a1)), (2, .val (.int .i64 a2)), (3, .val (.int .i64 a3)), (8, .ptr 0 0), (9, .val (.int .i64 0)), (51, .val (.bool v1))] [⟨0, [.val (.int .i64 0), .val (.int .i64 0), .val (.int .i64 0), .val (.int .i64 0), .val (.int .i64 0), .val (.int .i64 0), .val (.int .i64 0), .val (.int .i64 0), .val (.int .i64 0), .val (.bool false), .val (.bool false), .val (.bool false), .val (.int .i64 0), .val (.int .i64 0)]⟩] [] 0 0) ∧ v1 = x3) ?_ ?_
  · refine PO.case (t := 13) rfl rfl (fun h5 => ?_) (fun h5 => ?_)
    · have e4 := bif_t h5 e4
      refine PO.run 2 rfl ?_
      refine PO.same rfl (pickT_ok rfl rfl rfl) rfl ?_
      refine PO.run 3 rfl ?_
      refine PO.same rfl (pickT_ok rfl rfl rfl) rfl ?_
      refine PO.run 3 rfl ?_
      refine PO.same rfl (pickT_ok rfl rfl rfl) rfl ?_
      refine PO.run 4 rfl ?_
      refine PO.same rfl (pickT_ok rfl rfl rfl) rfl ?_
      refine PO.run 5 rfl ?_
      refine PO.same rfl (pickT_ok rfl rfl rfl) rfl ?_
      refine PO.run 5 rfl ?_
      refine PO.same rfl (pickT_ok rfl rfl rfl) rfl ?_
      refine PO.run 9 rfl ?_
      refine PO.same rfl (pickT_ok rfl rfl rfl) rfl ?_
      refine PO.nil ?_
      exact ⟨true, Weak.one [0] [] (by kernel_rfl), Option.some.inj e4⟩
    · have e4 := bif_f h5 e4
      refine PO.run 2 rfl ?_
      refine PO.same rfl (pickF_ok rfl rfl rfl) rfl ?_
      refine PO.run 1 rfl ?_
      refine bindK e4 (fun x6 e7 e4 => ?_)
      refine PO.cut 34 (fun s => ∃ (v2 : Bool), Weak s (PS.of 65 [(0, .list 13 (List.map cGItem a0) none), (1, .val (.int .i64 a1)), (2, .val (.int .i64 a2)), (3, .val (.int .i64 a3)), (8, .ptr 0 0), (9, .val (.int .i64 0)), (51, .val (.bool v2))] [⟨0, [.val (.int .i64 0), .val (.int .i64 0), .val (.int .i64 0), .val (.int .i64 0), .val (.int .i64 0), .val (.int .i64 0), .val (.int .i64 0), .val (.int .i64 0), .val (.int .i64 0), .val (.bool false), .val (.bool false), .val (.bool false), .val (.int .i64 0), .val (.int .i64 0)]⟩] [] 0 0) ∧ v2 = x6) ?_ ?_
      · refine PO.case (t := 17) rfl rfl (fun h8 => ?_) (fun h8 => ?_)
        · have e7 := bif_t h8 e7
          refine PO.run 2 rfl ?_
          refine PO.same rfl (pickT_ok rfl rfl rfl) rfl ?_
          refine PO.run 3 rfl ?_
          refine PO.same rfl (pickT_ok rfl rfl rfl) rfl ?_
          refine PO.run 4 rfl ?_
          refine PO.same rfl (pickT_ok rfl rfl rfl) rfl ?_
          refine PO.run 5 rfl ?_
          refine PO.same rfl (pickT_ok rfl rfl rfl) rfl ?_
          refine PO.run 5 rfl ?_
          refine PO.same rfl (pickT_ok rfl rfl rfl) rfl ?_
          refine PO.run 9 rfl ?_
          refine PO.same rfl (pickT_ok rfl rfl rfl) rfl ?_
          refine PO.nil ?_
          exact ⟨true, Weak.one [0] [] (by kernel_rfl), Option.some.inj e7⟩
        · have e7 := bif_f h8 e7
          refine PO.run 2 rfl ?_
          refine PO.same rfl (pickF_ok rfl rfl rfl) rfl ?_
          refine PO.run 1 rfl ?_
          refine bindK e7 (fun x9 e10 e7 => ?_)
          refine PO.cut 30 (fun s => ∃ (v3 : Bool), Weak s (PS.of 65 [(0, .list 13 (List.map cGItem a0) none), (1, .val (.int .i64 a1)), (2, .val (.int .i64 a2)), (3, .val (.int .i64 a3)), (8, .ptr 0 0), (9, .val (.int .i64 0)), (51, .val (.bool v3))] [⟨0, [.val (.int .i64 0), .val (.int .i64 0), .val (.int .i64 0), .val (.int .i64 0), .val (.int .i64 0), .val (.int .i64 0), .val (.int .i64 0), .val (.int .i64 0), .val (.int .i64 0), .val (.bool false), .val (.bool false), .val (.bool false), .val (.int .i64 0), .val (.int .i64 0)]⟩] [] 0 0) ∧ v3 = x9) ?_ ?_
          · refine PO.case (t := 21) rfl rfl (fun h11 => ?_) (fun h11 => ?_)
            · have e10 := bif_t h11 e10
              refine PO.run 2 rfl ?_
              refine PO.same rfl (pickT_ok rfl rfl rfl) rfl ?_
              refine PO.run 4 rfl ?_
              refine PO.same rfl (pickT_ok rfl rfl rfl) rfl ?_
              refine PO.run 5 rfl ?_
              refine PO.same rfl (pickT_ok rfl rfl rfl) rfl ?_
              refine PO.run 5 rfl ?_
              refine PO.same rfl (pickT_ok rfl rfl rfl) rfl ?_
              refine PO.run 9 rfl ?_
              refine PO.same rfl (pickT_ok rfl rfl rfl) rfl ?_
              refine PO.nil ?_
              exact ⟨true, Weak.one [0] [] (by kernel_rfl), Option.some.inj e10⟩
            · have e10 := bif_f h11 e10
              refine PO.run 2 rfl ?_
              refine PO.same rfl (pickF_ok rfl rfl rfl) rfl ?_
              refine PO.run 1 rfl ?_
              refine bindK e10 (fun x12 e13 e10 => ?_)
              refine PO.cut 26 (fun s => ∃ (v4 : Bool), Weak s (PS.of 65 [(0, .list 13 (List.map cGItem a0) none), (1, .val (.int .i64 a1)), (2, .val (.int .i64 a2)), (3, .val (.int .i64 a3)), (8, .ptr 0 0), (9, .val (.int .i64 0)), (51, .val (.bool v4))] [⟨0, [.val (.int .i64 0), .val (.int .i64 0), .val (.int .i64 0), .val (.int .i64 0), .val (.int .i64 0), .val (.int .i64 0), .val (.int .i64 0), .val (.int .i64 0), .val (.int .i64 0), .val (.bool false), .val (.bool false), .val (.bool false), .val (.int .i64 0), .val (.int .i64 0)]⟩] [] 0 0) ∧ v4 = x12) ?_ ?_
              · refine PO.case (t := 25) rfl rfl (fun h14 => ?_) (fun h14 => ?_)
                · have e13 := bif_t h14 e13
                  refine PO.run 3 rfl ?_
                  refine PO.same rfl (pickT_ok rfl rfl rfl) rfl ?_
                  refine PO.run 5 rfl ?_
                  refine PO.same rfl (pickT_ok rfl rfl rfl) rfl ?_
                  refine PO.run 5 rfl ?_
                  refine PO.same rfl (pickT_ok rfl rfl rfl) rfl ?_
                  refine PO.run 9 rfl ?_
                  refine PO.same rfl (pickT_ok rfl rfl rfl) rfl ?_
                  refine PO.nil ?_
                  exact ⟨true, Weak.one [0] [] (by kernel_rfl), Option.some.inj e13⟩
                · have e13 := bif_f h14 e13
                  refine PO.run 3 rfl ?_
                  refine PO.same rfl (pickF_ok rfl rfl rfl) rfl ?_
                  refine PO.run 1 rfl ?_
                  refine bindK e13 (fun x15 e16 e13 => ?_)
                  refine PO.cut 21 (fun s => ∃ (v5 : Bool), Weak s (PS.of 65 [(0, .list 13 (List.map cGItem a0) none), (1, .val (.int .i64 a1)), (2, .val (.int .i64 a2)), (3, .val (.int .i64 a3)), (8, .ptr 0 0), (9, .val (.int .i64 0)), (51, .val (.bool v5))] [⟨0, [.val (.int .i64 0), .val (.int .i64 0), .val (.int .i64 0), .val (.int .i64 0), .val (.int .i64 0), .val (.int .i64 0), .val (.int .i64 0), .val (.int .i64 0), .val (.int .i64 0), .val (.bool false), .val (.bool false), .val (.bool false), .val (.int .i64 0), .val (.int .i64 0)]⟩] [] 0 0) ∧ v5 = x15) ?_ ?_
                  · refine PO.case (t := 30) rfl rfl (fun h17 => ?_) (fun h17 => ?_)
                    · have e16 := bif_t h17 e16
                      refine PO.run 4 rfl ?_
                      refine PO.same rfl (pickT_ok rfl rfl rfl) rfl ?_
                      refine PO.run 5 rfl ?_
                      refine PO.same rfl (pickT_ok rfl rfl rfl) rfl ?_
                      refine PO.run 9 rfl ?_
                      refine PO.same rfl (pickT_ok rfl rfl rfl) rfl ?_
                      refine PO.nil ?_
                      exact ⟨true, Weak.one [0] [] (by kernel_rfl), Option.some.inj e16⟩
                    · have e16 := bif_f h17 e16
                      refine PO.runK 2 [0] [] (es := [(0, .list 13 (List.map cGItem a0) none), (1, .val (.int .i64 a1)), (2, .val (.int .i64 a2)), (3, .val (.int .i64 a3)), (8, .ptr 0 0), (9, .val (.int .i64 0)), (30, .val (.bool false)), (31, .val (.int .i64 a3)), (32, .list 13 (List.map cGItem a0) none)]) (fr' := [⟨0, [.val (.int .i64 0), .val (.int .i64 0), .val (.int .i64 0), .val (.int .i64 0), .val (.int .i64 0), .val (.int .i64 0), .val (.int .i64 0), .val (.int .i64 0), .val (.int .i64 0), .val (.bool false), .val (.bool false), .val (.bool false), .val (.int .i64 0), .val (.int .i64 0)]⟩]) (tk' := []) (by kernel_rfl) ?_
                      refine PO.same rfl (len_ok Try.underlying22 rfl (List.length_map _)) rfl ?_
                      refine PO.run 1 rfl ?_
                      refine PO.same rfl (pickF_ok rfl rfl rfl) rfl ?_
                      refine PO.run 1 rfl ?_
                      refine bindK e16 (fun x18 e19 e16 => ?_)
                      refine PO.cut 15 (fun s => ∃ (v6 : Bool), Weak s (PS.of 65 [(0, .list 13 (List.map cGItem a0) none), (1, .val (.int .i64 a1)), (2, .val (.int .i64 a2)), (3, .val (.int .i64 a3)), (8, .ptr 0 0), (9, .val (.int .i64 0)), (51, .val (.bool v6))] [⟨0, [.val (.int .i64 0), .val (.int .i64 0), .val (.int .i64 0), .val (.int .i64 0), .val (.int .i64 0), .val (.int .i64 0), .val (.int .i64 0), .val (.int .i64 0), .val (.int .i64 0), .val (.bool false), .val (.bool false), .val (.bool false), .val (.int .i64 0), .val (.int .i64 0)]⟩] [] 0 0) ∧ v6 = x18) ?_ ?_
                      · refine PO.case (t := 36) rfl rfl (fun h20 => ?_) (fun h20 => ?_)
                        · have e19 := bif_t h20 e19
                          refine PO.run 4 rfl ?_
                          refine PO.same rfl (pickT_ok rfl rfl rfl) rfl ?_
                          refine PO.run 9 rfl ?_
                          refine PO.same rfl (pickT_ok rfl rfl rfl) rfl ?_
                          refine PO.nil ?_
                          exact ⟨true, Weak.one [0] [] (by kernel_rfl), Option.some.inj e19⟩
                        · have e19 := bif_f h20 e19
                          refine PO.runK 2 [0] [] (es := [(0, .list 13 (List.map cGItem a0) none), (1, .val (.int .i64 a1)), (2, .val (.int .i64 a2)), (3, .val (.int .i64 a3)), (8, .ptr 0 0), (9, .val (.int .i64 0)), (36, .val (.bool false)), (37, .list 13 (List.map cGItem a0) none), (38, .val (.int .i64 a3))]) (fr' := [⟨0, [.val (.int .i64 0), .val (.int .i64 0), .val (.int .i64 0), .val (.int .i64 0), .val (.int .i64 0), .val (.int .i64 0), .val (.int .i64 0), .val (.int .i64 0), .val (.int .i64 0), .val (.bool false), .val (.bool false), .val (.bool false), .val (.int .i64 0), .val (.int .i64 0)]⟩]) (tk' := []) (by kernel_rfl) ?_
                          refine bindK e19 (fun r21 e22 e19 => ?_)
                          refine PO.call rfl rfl rfl rfl (ks := []) (ts := []) (fr1 := []) rfl rfl rfl trivial (L15 k a0 a3 _ e22) ?_
                          rintro _ _ _ ⟨rfl, rfl, rfl⟩
                          refine ⟨_, _, rfl, rfl, ?_⟩
                          refine PO.run 1 rfl ?_
                          refine PO.same rfl (pickF_ok rfl rfl rfl) rfl ?_
                          refine PO.run 1 rfl ?_
                          refine bindK e19 (fun x23 e24 e19 => ?_)
                          refine PO.cut 9 (fun s => ∃ (v7 : Bool), Weak s (PS.of 65 [(0, .list 13 (List.map cGItem a0) none), (1, .val (.int .i64 a1)), (2, .val (.int .i64 a2)), (3, .val (.int .i64 a3)), (8, .ptr 0 0), (9, .val (.int .i64 0)), (51, .val (.bool v7))] [⟨0, [.val (.int .i64 0), .val (.int .i64 0), .val (.int .i64 0), .val (.int .i64 0), .val (.int .i64 0), .val (.int .i64 0), .val (.int .i64 0), .val (.int .i64 0), .val (.int .i64 0), .val (.bool false), .val (.bool false), .val (.bool false), .val (.int .i64 0), .val (.int .i64 0)]⟩] [] 0 0) ∧ v7 = x23) ?_ ?_
                          · refine PO.case (t := 42) rfl rfl (fun h25 => ?_) (fun h25 => ?_)
                            · have e24 := bif_t h25 e24
                              refine PO.run 8 rfl ?_
                              refine PO.same rfl (pickT_ok rfl rfl rfl) rfl ?_
                              refine PO.nil ?_
                              exact ⟨true, Weak.one [0] [] (by kernel_rfl), Option.some.inj e24⟩
                            · have e24 := bif_f h25 e24
                              refine PO.run 3 rfl ?_
                              refine bindK e24 (fun x26 e27 e24 => ?_)
                              refine PO.cut 6 (fun s => ∃ (v8 : Bool), Weak s (PS.of 65 [(0, .list 13 (List.map cGItem a0) none), (1, .val (.int .i64 a1)), (2, .val (.int .i64 a2)), (3, .val (.int .i64 a3)), (8, .ptr 0 0), (9, .val (.int .i64 0)), (51, .val (.bool v8))] [⟨0, [.val (.int .i64 0), .val (.int .i64 0), .val (.int .i64 0), .val (.int .i64 0), .val (.int .i64 0), .val (.int .i64 0), .val (.int .i64 0), .val (.int .i64 0), .val (.int .i64 0), .val (.bool false), .val (.bool false), .val (.bool false), .val (.int .i64 0), .val (.int .i64 0)]⟩] [] 0 0) ∧ v8 = x26) ?_ ?_
                              · refine PO.case (t := 45) rfl rfl (fun h28 => ?_) (fun h28 => ?_)
                                · have e27 := bif_t h28 e27
                                  refine PO.runK 2 [0] [] (es := [(0, .list 13 (List.map cGItem a0) none), (1, .val (.int .i64 a1)), (2, .val (.int .i64 a2)), (3, .val (.int .i64 a3)), (8, .ptr 0 0), (9, .val (.int .i64 0)), (42, .val (.bool false)), (45, .val (.bool true)), (46, .list 13 (List.map cGItem a0) none), (47, .val (.int .i64 a2))]) (fr' := [⟨0, [.val (.int .i64 0), .val (.int .i64 0), .val (.int .i64 0), .val (.int .i64 0), .val (.int .i64 0), .val (.int .i64 0), .val (.int .i64 0), .val (.int .i64 0), .val (.int .i64 0), .val (.bool false), .val (.bool false), .val (.bool false), .val (.int .i64 0), .val (.int .i64 0)]⟩]) (tk' := []) (by kernel_rfl) ?_
                                  refine bindK e27 (fun r29 e30 e27 => ?_)
                                  refine PO.call rfl rfl rfl rfl (ks := []) (ts := []) (fr1 := []) rfl rfl rfl trivial (L15 k a0 a2 _ e30) ?_
                                  rintro _ _ _ ⟨rfl, rfl, rfl⟩
                                  refine ⟨_, _, rfl, rfl, ?_⟩
                                  refine PO.run 1 rfl ?_
                                  refine PO.same rfl (pickT_ok rfl rfl rfl) rfl ?_
                                  refine PO.same rfl (pickF_ok rfl rfl rfl) rfl ?_
                                  refine PO.nil ?_
                                  exact ⟨!r29, Weak.one [0] [] (by kernel_rfl), Option.some.inj e27⟩
                                · have e27 := bif_f h28 e27
                                  refine PO.run 4 rfl ?_
                                  refine PO.same rfl (pickF_ok rfl rfl rfl) rfl ?_
                                  refine PO.same rfl (pickF_ok rfl rfl rfl) rfl ?_
                                  refine PO.nil ?_
                                  exact ⟨false, Weak.one [0] [] (by kernel_rfl), Option.some.inj e27⟩
                              · rintro _ ⟨v8, w31, rfl⟩
                                refine PO.weak w31 ?_
                                refine PO.nil ?_
                                exact ⟨v8, Weak.one [0] [] (by kernel_rfl), Option.some.inj e24⟩
                          · rintro _ ⟨v7, w32, rfl⟩
                            refine PO.weak w32 ?_
                            refine PO.nil ?_
                            exact ⟨v7, Weak.one [0] [] (by kernel_rfl), Option.some.inj e19⟩
                      · rintro _ ⟨v6, w33, rfl⟩
                        refine PO.weak w33 ?_
                        refine PO.nil ?_
                        exact ⟨v6, Weak.one [0] [] (by kernel_rfl), Option.some.inj e16⟩
                  · rintro _ ⟨v5, w34, rfl⟩
                    refine PO.weak w34 ?_
                    refine PO.nil ?_
                    exact ⟨v5, Weak.one [0] [] (by kernel_rfl), Option.some.inj e13⟩
              · rintro _ ⟨v4, w35, rfl⟩
                refine PO.weak w35 ?_
                refine PO.nil ?_
                exact ⟨v4, Weak.one [0] [] (by kernel_rfl), Option.some.inj e10⟩
          · rintro _ ⟨v3, w36, rfl⟩
            refine PO.weak w36 ?_
            refine PO.nil ?_
            exact ⟨v3, Weak.one [0] [] (by kernel_rfl), Option.some.inj e7⟩
      · rintro _ ⟨v2, w37, rfl⟩
        refine PO.weak w37 ?_
        refine PO.nil ?_
        exact ⟨v2, Weak.one [0] [] (by kernel_rfl), Option.some.inj e4⟩
  · rintro _ ⟨v1, w38, rfl⟩
    refine PO.weak w38 ?_
    refine PO.nil ?_
    refine PC.cond rfl (fun h39 => ?_) (fun h39 => ?_)
    · have hF := bif_t h39 hF
      refine PC.assoc ?_
      refine PC.region ?_
      refine PO.runK 3 [0] [] (es := [(8, .ptr 0 0), (9, .val (.int .i64 1))]) (fr' := [⟨0, [.val (.int .i64 0), .val (.int .i64 0), .val (.int .i64 0), .val (.int .i64 0), .val (.int .i64 0), .val (.int .i64 0), .val (.int .i64 0), .val (.int .i64 0), .val (.int .i64 0), .val (.bool false), .val (.bool false), .val (.bool false), .val (.int .i64 0), .val (.int .i64 0)]⟩]) (tk' := []) (by kernel_rfl) ?_
      refine PO.nil ?_
      have hq := Option.some.inj hF
      subst hq
      exact PC.ret (retSK [] [] (by kernel_rfl) (.refl _) ⟨rfl, rfl, rfl⟩)
    · have hF := bif_f h39 hF
      refine PC.noop ?_
      refine PC.assoc ?_
      refine PC.region ?_
      refine PO.run 4 rfl ?_
      refine bindSK hF (fun h40 h41 h42 hF => ?_)
      generalize hgl9 : (List.take (Int.toNat a3) a0).drop (Int.toNat (w (a2 + 1))) = l9 at hF
      refine PO.same rfl (slice_ok (l2 := List.map cGItem l9) Try.underlying22 rfl rfl (.some rfl h40 rfl) (.some rfl (Int.le_trans h40 h41) rfl) (Int.toNat_le_toNat h41) (toNat_le1 h42) (by rw [← hgl9, List.map_drop, List.map_take] <;> first | rfl | simp [w])) rfl ?_
      refine PO.runK 0 [0] [] (es := [(0, .list 13 (List.map cGItem a0) none), (1, .val (.int .i64 a1)), (2, .val (.int .i64 a2)), (3, .val (.int .i64 a3)), (8, .ptr 0 0), (9, .val (.int .i64 0)), (57, .list 13 (List.map cGItem l9) none)]) (fr' := [⟨0, [.val (.int .i64 0), .val (.int .i64 0), .val (.int .i64 0), .val (.int .i64 0), .val (.int .i64 0), .val (.int .i64 0), .val (.int .i64 0), .val (.int .i64 0), .val (.int .i64 0), .val (.bool false), .val (.bool false), .val (.bool false), .val (.int .i64 0), .val (.int .i64 0)]⟩]) (tk' := []) (by kernel_rfl) ?_
      refine bindK hF (fun r43 e44 hF => ?_)
      refine PO.call rfl rfl rfl rfl (ks := []) (ts := []) (fr1 := []) rfl rfl rfl trivial (L16_17 k l9 _ e44) ?_
      rintro _ _ _ ⟨rfl, rfl, rfl⟩
      refine ⟨_, _, rfl, rfl, ?_⟩
      refine PO.nil ?_
      refine PC.cond rfl (fun h45 => ?_) (fun h45 => ?_)
      · have hF := bif_t h45 hF
        refine PC.assoc ?_
        refine PC.region ?_
        refine PO.runK 3 [0] [] (es := [(8, .ptr 0 0), (9, .val (.int .i64 1))]) (fr' := [⟨0, [.val (.int .i64 0), .val (.int .i64 0), .val (.int .i64 0), .val (.int .i64 0), .val (.int .i64 0), .val (.int .i64 0), .val (.int .i64 0), .val (.int .i64 0), .val (.int .i64 0), .val (.bool false), .val (.bool false), .val (.bool false), .val (.int .i64 0), .val (.int .i64 0)]⟩]) (tk' := []) (by kernel_rfl) ?_
        refine PO.nil ?_
        have hq := Option.some.inj hF
        subst hq
        exact PC.ret (retSK [] [] (by kernel_rfl) (.refl _) ⟨rfl, rfl, rfl⟩)
      · have hF := bif_f h45 hF
        refine PC.noop ?_
        refine PC.region ?_
        refine PO.run 4 rfl ?_
        refine bindK hF (fun r46 e47 hF => ?_)
        refine PO.call rfl rfl rfl rfl (ks := []) (ts := []) (fr1 := []) rfl rfl rfl trivial (L18 k a0 a1 a2 a3 _ e47) ?_
        rintro _ _ _ ⟨rfl, rfl, rfl⟩
        refine ⟨_, _, rfl, rfl, ?_⟩
        refine PO.runK 2 [0] [] (es := [(8, .ptr 0 0), (9, .val (.int .i64 0))]) (fr' := [⟨0, (cGLine r46)⟩]) (tk' := []) (by kernel_rfl) ?_
        refine PO.nil ?_
        have hq := Option.some.inj hF
        subst hq
        exact PC.ret' (retSK [] [] (by kernel_rfl) (.refl _) ⟨rfl, rfl, rfl⟩)

/-! 19_s platen/meter.New -/
def F19_s (k : Nat) : Option (GMeter × Int) :=
some ((GMeter.mk 0 0 4611686018427387904 0 0 4611686018427387904 0), 0)
theorem L19_s (k : Nat) (r : GMeter × Int) (hF : F19_s k = some r) : PF Try.prog orc 19 [.val (.int .i64 4611686018427387904), .val (.int .i64 4611686018427387904)] [] [] (fun p fr tk => p = .tup [.ptr 0 0, .val (.int .i64 r.2)] ∧ fr = [⟨0, (cGMeter r.1)⟩] ∧ tk = []) := by
  unfold F19_s at hF
  refine PF.enterS Try.func19 rfl rfl rfl (by kernel_rfl) rfl ?_
  refine PC.region ?_
  refine PO.runK 2 [] [] (es := [(0, .val (.int .i64 4611686018427387904)), (1, .val (.int .i64 4611686018427387904)), (4, .val (.pointer none)), (5, .val (.int .i64 0))]) (fr' := []) (tk' := []) (by kernel_rfl) ?_
  refine PO.nil ?_
  refine PC.assoc ?_
  refine PC.region ?_
  refine PO.runK 5 [] [] (es := [(0, .val (.int .i64 4611686018427387904)), (1, .val (.int .i64 4611686018427387904)), (4, .val (.pointer none)), (5, .val (.int .i64 0)), (8, .val (.bool false)), (10, .val (.bool false))]) (fr' := []) (tk' := []) (by kernel_rfl) ?_
  refine PO.same rfl (pickF_ok rfl rfl rfl) rfl ?_
  refine PO.nil ?_
  refine PC.cond rfl (fun h1 => Bool.noConfusion h1) (fun _ => ?_)
  refine PC.noop ?_
  refine PC.region ?_
  refine PO.runK 8 [0] [] (es := [(4, .ptr 0 0), (5, .val (.int .i64 0))]) (fr' := [⟨0, [.val (.int .i64 0), .val (.int .i64 0), .val (.int .i64 4611686018427387904), .val (.int .i64 0), .val (.int .i64 0), .val (.int .i64 4611686018427387904), .val (.int .i64 0)]⟩]) (tk' := []) (by kernel_rfl) ?_
  refine PO.nil ?_
  have hq := Option.some.inj hF
  subst hq
  exact PC.ret' (retSK [0] [] (by kernel_rfl) (.refl _) ⟨rfl, rfl, rfl⟩)

/-! 6 platen/platenlaw16.great -/
def F6 (k : Nat) : Option GMeter :=
(F19_s k).bind fun r1 =>
some r1.1
theorem L6 (k : Nat) (r : GMeter) (hF : F6 k = some r) : PF Try.prog orc 6 [] [] [] (fun p fr tk => p = .ptr 0 0 ∧ fr = [⟨0, (cGMeter r)⟩] ∧ tk = []) := by
  unfold F6 at hF
  refine PF.enterS Try.func6 rfl rfl rfl (by kernel_rfl) rfl ?_
  refine PC.run (n := 2) rfl ?_
  refine PC.region ?_
  refine bindK hF (fun r1 e2 hF => ?_)
  refine PO.call rfl rfl rfl rfl (ks := []) (ts := []) (fr1 := []) rfl rfl rfl trivial (L19_s k  _ e2) ?_
  rintro _ _ _ ⟨rfl, rfl, rfl⟩
  refine ⟨_, _, rfl, rfl, ?_⟩
  refine PO.run 5 rfl ?_
  refine PO.nil ?_
  refine PC.run (n := 3) rfl ?_
  have hq := Option.some.inj hF
  subst hq
  exact PC.ret' (retSK [0] [] (by kernel_rfl) (.refl _) ⟨rfl, rfl, rfl⟩)

/-! 20 platen/glue.of -/
def F20 (k : Nat) (a0 : List GItem) (a1 : GLine) : Option ((List GItem) × Int × Bool) :=
(F14 k a0).bind fun r1 =>
Option.bind (α := Bool) (bif r1 != 0 then (some true) else (Option.bind (α := Bool) (bif decide (a1.first < 0) then (some true) else (Option.bind (α := Bool) (bif decide (a1.first > a1.last) then (some true) else (some (decide (a1.last > (a0.length : Int))))) fun (v3 : Bool) =>
some v3)) fun (v2 : Bool) =>
some v2)) fun (v1 : Bool) =>
bif v1 then (some ([], 0, false)) else (bindS3 a0 a1.first a1.last a1.last fun l4 =>
bif !a1.hyphen then (some (l4, (-1), true)) else (Option.bind (α := Bool) (bif decide (a1.break_ < 0) then (some true) else (Option.bind (α := Bool) (bif decide (a1.break_ ≥ (a0.length : Int)) then (some true) else (bindI a0 a1.break_ fun y7 =>
Option.bind (α := Bool) (bif y7.kind != 4 then (some true) else (bindI a0 a1.break_ fun y9 =>
some (!y9.flag))) fun (v8 : Bool) =>
some v8)) fun (v6 : Bool) =>
some v6)) fun (v5 : Bool) =>
bif v5 then (some ([], 0, false)) else (some (l4, a1.break_, true))))
theorem L20 (k : Nat) (a0 : List GItem) (a1 : GLine) (r : (List GItem) × Int × Bool) (hF : F20 k a0 a1 = some r) : PF Try.prog orc 20 [.list 13 (List.map cGItem a0) none, .agg (cGLine a1)] [] [] (fun p fr tk => p = .tup [.list 13 (List.map cGItem r.1) none, .val (.int .i64 r.2.1), .val (.bool r.2.2)] ∧ fr = [] ∧ tk = []) := by
  unfold F20 at hF
  refine PF.enterS Try.func20 rfl rfl rfl (by kernel_rfl) rfl ?_
  refine PC.region ?_
  refine PO.runK 4 [0] [] (es := [(0, .list 13 (List.map cGItem a0) none), (3, .ptr 0 0), (4, .val (.slice none 0 0)), (5, .val (.int .i64 0)), (6, .val (.bool false))]) (fr' := [⟨0, (cGLine a1)⟩]) (tk' := []) (by kernel_rfl) ?_
  refine PO.nil ?_
  refine PC.assoc ?_
  refine PC.region ?_
  refine PO.run 1 rfl ?_
  refine bindK hF (fun r1 e2 hF => ?_)
  refine PO.call rfl rfl rfl rfl (ks := []) (ts := []) (fr1 := []) rfl rfl rfl trivial (L14 k a0 _ e2) ?_
  rintro _ _ _ ⟨rfl, rfl, rfl⟩
  refine ⟨_, _, rfl, rfl, ?_⟩
  refine PO.run 2 rfl ?_
  refine bindK hF (fun x3 e4 hF => ?_)
  refine PO.cut 18 (fun s => ∃ (v1 : Bool), Weak s (PS.of 73 [(0, .list 13 (List.map cGItem a0) none), (3, .ptr 0 0), (4, .val (.slice none 0 0)), (5, .val (.int .i64 0)), (6, .val (.bool false)), (29, .val (.bool v1))] [⟨0, (cGLine a1)⟩] [] 0 0) ∧ v1 = x3) ?_ ?_
  · refine PO.case (t := 11) rfl rfl (fun h5 => ?_) (fun h5 => ?_)
    · have e4 := bif_t h5 e4
      refine PO.run 3 rfl ?_
      refine PO.same rfl (pickT_ok rfl rfl rfl) rfl ?_
      refine PO.run 6 rfl ?_
      refine PO.same rfl (pickT_ok rfl rfl rfl) rfl ?_
      refine PO.run 6 rfl ?_
      refine PO.same rfl (pickT_ok rfl rfl rfl) rfl ?_
      refine PO.nil ?_
      exact ⟨true, Weak.one [0] [] (by kernel_rfl), Option.some.inj e4⟩
    · have e4 := bif_f h5 e4
      refine PO.run 3 rfl ?_
      refine PO.same rfl (pickF_ok rfl rfl rfl) rfl ?_
      refine PO.run 1 rfl ?_
      refine bindK e4 (fun x6 e7 e4 => ?_)
      refine PO.cut 13 (fun s => ∃ (v2 : Bool), Weak s (PS.of 73 [(0, .list 13 (List.map cGItem a0) none), (3, .ptr 0 0), (4, .val (.slice none 0 0)), (5, .val (.int .i64 0)), (6, .val (.bool false)), (29, .val (.bool v2))] [⟨0, (cGLine a1)⟩] [] 0 0) ∧ v2 = x6) ?_ ?_
      · refine PO.case (t := 16) rfl rfl (fun h8 => ?_) (fun h8 => ?_)
        · have e7 := bif_t h8 e7
          refine PO.run 5 rfl ?_
          refine PO.same rfl (pickT_ok rfl rfl rfl) rfl ?_
          refine PO.run 6 rfl ?_
          refine PO.same rfl (pickT_ok rfl rfl rfl) rfl ?_
          refine PO.nil ?_
          exact ⟨true, Weak.one [0] [] (by kernel_rfl), Option.some.inj e7⟩
        · have e7 := bif_f h8 e7
          refine PO.run 5 rfl ?_
          refine PO.same rfl (pickF_ok rfl rfl rfl) rfl ?_
          refine PO.run 1 rfl ?_
          refine bindK e7 (fun x9 e10 e7 => ?_)
          refine PO.cut 6 (fun s => ∃ (v3 : Bool), Weak s (PS.of 73 [(0, .list 13 (List.map cGItem a0) none), (3, .ptr 0 0), (4, .val (.slice none 0 0)), (5, .val (.int .i64 0)), (6, .val (.bool false)), (29, .val (.bool v3))] [⟨0, (cGLine a1)⟩] [] 0 0) ∧ v3 = x9) ?_ ?_
          · refine PO.case (t := 23) rfl rfl (fun h11 => ?_) (fun h11 => ?_)
            · have e10 := bif_t h11 e10
              refine PO.run 5 rfl ?_
              refine PO.same rfl (pickT_ok rfl rfl rfl) rfl ?_
              refine PO.nil ?_
              exact ⟨true, Weak.one [0] [] (by kernel_rfl), Option.some.inj e10⟩
            · have e10 := bif_f h11 e10
              refine PO.runK 3 [0] [] (es := [(0, .list 13 (List.map cGItem a0) none), (3, .ptr 0 0), (4, .val (.slice none 0 0)), (5, .val (.int .i64 0)), (6, .val (.bool false)), (23, .val (.bool false)), (25, .val (.int .i64 a1.last)), (26, .list 13 (List.map cGItem a0) none)]) (fr' := [⟨0, (cGLine a1)⟩]) (tk' := []) (by kernel_rfl) ?_
              refine PO.same rfl (len_ok Try.underlying22 rfl (List.length_map _)) rfl ?_
              refine PO.run 1 rfl ?_
              refine PO.same rfl (pickF_ok rfl rfl rfl) rfl ?_
              refine PO.nil ?_
              exact ⟨decide (a1.last > (a0.length : Int)), Weak.one [0] [] (by kernel_rfl), Option.some.inj e10⟩
          · rintro _ ⟨v3, w12, rfl⟩
            refine PO.weak w12 ?_
            refine PO.nil ?_
            exact ⟨v3, Weak.one [0] [] (by kernel_rfl), Option.some.inj e7⟩
      · rintro _ ⟨v2, w13, rfl⟩
        refine PO.weak w13 ?_
        refine PO.nil ?_
        exact ⟨v2, Weak.one [0] [] (by kernel_rfl), Option.some.inj e4⟩
  · rintro _ ⟨v1, w14, rfl⟩
    refine PO.weak w14 ?_
    refine PO.nil ?_
    refine PC.cond rfl (fun h15 => ?_) (fun h15 => ?_)
    · have hF := bif_t h15 hF
      refine PC.assoc ?_
      refine PC.run (n := 4) rfl ?_
      have hq := Option.some.inj hF
      subst hq
      exact PC.ret (retSK [] [] (by kernel_rfl) (Less.tupL (LessL.cons (.nil 13) (LessL.refl _))) ⟨rfl, rfl, rfl⟩)
    · have hF := bif_f h15 hF
      refine PC.noop ?_
      refine PC.region ?_
      refine PO.run 7 rfl ?_
      obtain ⟨h16, h17, h18, h19, hF⟩ := bindS3_some hF
      generalize hgl4 : (List.take (Int.toNat a1.last) a0).drop (Int.toNat a1.first) = l4 at hF
      refine PO.same rfl (slice3_ok (l2 := List.map cGItem l4) Try.underlying22 rfl rfl (.some rfl h16 rfl) (.some rfl (Int.le_trans h16 h17) rfl) (.some rfl (Int.le_trans h16 (Int.le_trans h17 h18)) rfl) (Int.toNat_le_toNat h17) (Int.toNat_le_toNat h18) (toNat_le1 h19) (by rw [← hgl4, List.map_drop, List.map_take] <;> first | rfl | simp [w])) rfl ?_
      refine PO.run 1 rfl ?_
      refine PO.nil ?_
      refine PC.assoc ?_
      refine PC.run (n := 4) rfl ?_
      refine PC.cond rfl (fun h20 => ?_) (fun h20 => ?_)
      · have hF := bif_t h20 hF
        refine PC.assoc ?_
        refine PC.run (n := 5) rfl ?_
        have hq := Option.some.inj hF
        subst hq
        exact PC.ret (retSK [] [] (by kernel_rfl) (.refl _) ⟨rfl, rfl, rfl⟩)
      · have hF := bif_f h20 hF
        refine PC.noop ?_
        refine PC.assoc ?_
        refine PC.region ?_
        refine PO.run 4 rfl ?_
        refine bindK hF (fun x21 e22 hF => ?_)
        refine PO.cut 24 (fun s => ∃ (v5 : Bool), Weak s (PS.of 73 [(3, .ptr 0 0), (4, .val (.slice none 0 0)), (5, .val (.int .i64 0)), (6, .val (.bool false)), (7, .list 13 (List.map cGItem l4) none), (69, .val (.bool v5))] [⟨0, (cGLine a1)⟩] [] 0 0) ∧ v5 = x21) ?_ ?_
        · refine PO.case (t := 45) rfl rfl (fun h23 => ?_) (fun h23 => ?_)
          · have e22 := bif_t h23 e22
            refine PO.run 5 rfl ?_
            refine PO.same rfl (pickT_ok rfl rfl rfl) rfl ?_
            refine PO.run 8 rfl ?_
            refine PO.same rfl (pickT_ok rfl rfl rfl) rfl ?_
            refine PO.run 8 rfl ?_
            refine PO.same rfl (pickT_ok rfl rfl rfl) rfl ?_
            refine PO.nil ?_
            exact ⟨true, Weak.one [0] [] (by kernel_rfl), Option.some.inj e22⟩
          · have e22 := bif_f h23 e22
            refine PO.runK 3 [0] [] (es := [(0, .list 13 (List.map cGItem a0) none), (3, .ptr 0 0), (4, .val (.slice none 0 0)), (5, .val (.int .i64 0)), (6, .val (.bool false)), (7, .list 13 (List.map cGItem l4) none), (45, .val (.bool false)), (47, .val (.int .i64 a1.break_)), (48, .list 13 (List.map cGItem a0) none)]) (fr' := [⟨0, (cGLine a1)⟩]) (tk' := []) (by kernel_rfl) ?_
            refine PO.same rfl (len_ok Try.underlying22 rfl (List.length_map _)) rfl ?_
            refine PO.run 1 rfl ?_
            refine PO.same rfl (pickF_ok rfl rfl rfl) rfl ?_
            refine PO.run 1 rfl ?_
            refine bindK e22 (fun x24 e25 e22 => ?_)
            refine PO.cut 17 (fun s => ∃ (v6 : Bool), Weak s (PS.of 73 [(3, .ptr 0 0), (4, .val (.slice none 0 0)), (5, .val (.int .i64 0)), (6, .val (.bool false)), (7, .list 13 (List.map cGItem l4) none), (69, .val (.bool v6))] [⟨0, (cGLine a1)⟩] [] 0 0) ∧ v6 = x24) ?_ ?_
            · refine PO.case (t := 52) rfl rfl (fun h26 => ?_) (fun h26 => ?_)
              · have e25 := bif_t h26 e25
                refine PO.run 7 rfl ?_
                refine PO.same rfl (pickT_ok rfl rfl rfl) rfl ?_
                refine PO.run 8 rfl ?_
                refine PO.same rfl (pickT_ok rfl rfl rfl) rfl ?_
                refine PO.nil ?_
                exact ⟨true, Weak.one [0] [] (by kernel_rfl), Option.some.inj e25⟩
              · have e25 := bif_f h26 e25
                refine PO.runK 3 [0] [] (es := [(0, .list 13 (List.map cGItem a0) none), (3, .ptr 0 0), (4, .val (.slice none 0 0)), (5, .val (.int .i64 0)), (6, .val (.bool false)), (7, .list 13 (List.map cGItem l4) none), (52, .val (.bool false)), (53, .list 13 (List.map cGItem a0) none), (55, .val (.int .i64 a1.break_))]) (fr' := [⟨0, (cGLine a1)⟩]) (tk' := []) (by kernel_rfl) ?_
                refine bindIK e25 (fun y7 h27 h28 e25 => ?_)
                refine PO.same rfl (indexAddr_ok Try.underlying22 rfl rfl rfl h27 (map_at h28)) rfl ?_
                refine PO.run 3 rfl ?_
                refine PO.same rfl (pickF_ok rfl rfl rfl) rfl ?_
                refine PO.run 1 rfl ?_
                refine bindK e25 (fun x29 e30 e25 => ?_)
                refine PO.cut 8 (fun s => ∃ (v8 : Bool), Weak s (PS.of 73 [(3, .ptr 0 0), (4, .val (.slice none 0 0)), (5, .val (.int .i64 0)), (6, .val (.bool false)), (7, .list 13 (List.map cGItem l4) none), (69, .val (.bool v8))] [⟨0, (cGLine a1)⟩] [] 0 0) ∧ v8 = x29) ?_ ?_
                · refine PO.case (t := 61) rfl rfl (fun h31 => ?_) (fun h31 => ?_)
                  · have e30 := bif_t h31 e30
                    refine PO.run 7 rfl ?_
                    refine PO.same rfl (pickT_ok rfl rfl rfl) rfl ?_
                    refine PO.nil ?_
                    exact ⟨true, Weak.one [0] [] (by kernel_rfl), Option.some.inj e30⟩
                  · have e30 := bif_f h31 e30
                    refine PO.runK 3 [0] [] (es := [(3, .ptr 0 0), (4, .val (.slice none 0 0)), (5, .val (.int .i64 0)), (6, .val (.bool false)), (7, .list 13 (List.map cGItem l4) none), (61, .val (.bool false)), (62, .list 13 (List.map cGItem a0) none), (64, .val (.int .i64 a1.break_))]) (fr' := [⟨0, (cGLine a1)⟩]) (tk' := []) (by kernel_rfl) ?_
                    refine bindIK e30 (fun y9 h32 h33 e30 => ?_)
                    refine PO.same rfl (indexAddr_ok Try.underlying22 rfl rfl rfl h32 (map_at h33)) rfl ?_
                    refine PO.run 3 rfl ?_
                    refine PO.same rfl (pickF_ok rfl rfl rfl) rfl ?_
                    refine PO.nil ?_
                    exact ⟨!y9.flag, Weak.one [0] [] (by kernel_rfl), Option.some.inj e30⟩
                · rintro _ ⟨v8, w34, rfl⟩
                  refine PO.weak w34 ?_
                  refine PO.nil ?_
                  exact ⟨v8, Weak.one [0] [] (by kernel_rfl), Option.some.inj e25⟩
            · rintro _ ⟨v6, w35, rfl⟩
              refine PO.weak w35 ?_
              refine PO.nil ?_
              exact ⟨v6, Weak.one [0] [] (by kernel_rfl), Option.some.inj e22⟩
        · rintro _ ⟨v5, w36, rfl⟩
          refine PO.weak w36 ?_
          refine PO.nil ?_
          refine PC.cond rfl (fun h37 => ?_) (fun h37 => ?_)
          · have hF := bif_t h37 hF
            refine PC.assoc ?_
            refine PC.run (n := 4) rfl ?_
            have hq := Option.some.inj hF
            subst hq
            exact PC.ret (retSK [] [] (by kernel_rfl) (Less.tupL (LessL.cons (.nil 13) (LessL.refl _))) ⟨rfl, rfl, rfl⟩)
          · have hF := bif_f h37 hF
            refine PC.noop ?_
            refine PC.drawn (order := [0, 1, 2, 3, 4, 5]) (by kernel_rfl) ?_
            refine PO.run 6 rfl ?_
            refine PO.nil ?_
            have hq := Option.some.inj hF
            subst hq
            exact PC.ret' (retSK [] [] (by kernel_rfl) (.refl _) ⟨rfl, rfl, rfl⟩)

end
end Go.Eng.Lift
