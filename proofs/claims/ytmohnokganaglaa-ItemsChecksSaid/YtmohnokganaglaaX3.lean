import Derived.Test.YtmohnokganaglaaM21
import Derived.Test.YtmohnokganaglaaProg
import Derived.KernelRfl
set_option linter.unusedVariables false
set_option linter.unusedSimpArgs false
set_option maxRecDepth 100000
set_option maxHeartbeats 4000000
namespace Go.Eng.Lift
open Go.Proofs
noncomputable section
def orc : FuncId → Option Value := fun f => pick (Nat.beq f 4) (some (.bool true)) (none)
theorem K4 : PF Try.prog orc 4 [] [] [] (fun p fr tk => p = .val (.bool true) ∧ fr = [] ∧ tk = []) := PF.known rfl rfl ⟨rfl, rfl, rfl⟩
structure GItem where
  kind : Int
  font : ByteArray
  size : Int
  rune : Int
  width : Int
  height : Int
  depth : Int
  stretch : Int
  shrink : Int
  value : Int
  flag : Bool
  from_ : Int
  to_ : Int
def cGItem (x : GItem) : List PV := [.val (.int .i64 x.kind), .val (.string x.font), .val (.int .i64 x.size), .val (.int .i64 x.rune), .val (.int .i64 x.width), .val (.int .i64 x.height), .val (.int .i64 x.depth), .val (.int .i64 x.stretch), .val (.int .i64 x.shrink), .val (.int .i64 x.value), .val (.bool x.flag), .val (.int .i64 x.from_), .val (.int .i64 x.to_)]

/-! 15 platen/items.within -/
def F15 (k : Nat) (a0 : Int) (a1 : Int) (a2 : Int) : Option Bool :=
Option.bind (α := Bool) (bif decide (a1 ≤ a0) then (some (decide (a0 ≤ a2))) else (some false)) fun (v1 : Bool) =>
some v1
theorem L15 (k : Nat) (a0 : Int) (a1 : Int) (a2 : Int) (r : Bool) (hF : F15 k a0 a1 a2 = some r) : PF Try.prog orc 15 [.val (.int .i64 a0), .val (.int .i64 a1), .val (.int .i64 a2)] [] [] (fun p fr tk => p = .val (.bool r) ∧ fr = [] ∧ tk = []) := by
  unfold F15 at hF
  refine PF.enterS Try.func15 rfl rfl rfl (by kernel_rfl) rfl ?_
  refine PC.run (n := 2) rfl ?_
  refine PC.region ?_
  refine PO.run 4 rfl ?_
  refine Exists.elim (bind_some hF) (fun x1 hq => ?_)
  have e2 := hq.1
  have hF := hq.2
  clear hq
  refine PO.cut 4 (fun s => ∃ (v1 : Bool), Weak s (PS.of 15 [(6, .val (.bool false)), (14, .val (.bool v1))] [] [] 0 0) ∧ v1 = x1) ?_ ?_
  · refine PO.case (t := 10) rfl rfl (fun h3 => ?_) (fun h3 => ?_)
    · have e2 := bif_t h3 e2
      refine PO.run 3 rfl ?_
      refine PO.same rfl (pickT_ok rfl rfl rfl) rfl ?_
      refine PO.nil ?_
      obtain rfl := Option.some.inj e2
      exact ⟨decide (a0 ≤ a2), Weak.one [] [] (by kernel_rfl), rfl⟩
    · have e2 := bif_f h3 e2
      refine PO.run 3 rfl ?_
      refine PO.same rfl (pickF_ok rfl rfl rfl) rfl ?_
      refine PO.nil ?_
      obtain rfl := Option.some.inj e2
      exact ⟨false, Weak.one [] [] (by kernel_rfl), rfl⟩
  · rintro _ ⟨v1, w4, rfl⟩
    refine PO.weak w4 ?_
    refine PO.run 1 rfl ?_
    refine PO.nil ?_
    obtain rfl := Option.some.inj hF
    exact PC.ret' (retSK [] [] (by kernel_rfl) (.refl _) ⟨rfl, rfl, rfl⟩)

/-! 27 platen/items.measured -/
def F27 (k : Nat) (a0 : GItem) : Option Bool :=
(F15 k a0.size 1 67108864).bind fun r1 =>
Option.bind (α := Bool) (bif r1 then ((F15 k a0.width 0 1099511627776).bind fun r6 =>
Option.bind (α := Bool) (bif r6 then ((F15 k a0.height 0 1099511627776).bind fun r11 =>
Option.bind (α := Bool) (bif r11 then ((F15 k a0.depth 0 1099511627776).bind fun r16 =>
some r16) else (some false)) fun (v3 : Bool) =>
some v3) else (some false)) fun (v2 : Bool) =>
some v2) else (some false)) fun (v1 : Bool) =>
some v1
theorem L27 (k : Nat) (a0 : GItem) (r : Bool) (hF : F27 k a0 = some r) : PF Try.prog orc 27 [.agg (cGItem a0)] [] [] (fun p fr tk => p = .val (.bool r) ∧ fr = [] ∧ tk = []) := by
  unfold F27 at hF
  refine PF.enterS Try.func27 rfl rfl rfl (by kernel_rfl) rfl ?_
  refine PC.region ?_
  refine PO.runK 2 [0] [] (es := [(1, .ptr 0 0), (2, .val (.bool false))]) (fr' := [⟨0, (cGItem a0)⟩]) (tk' := []) (by kernel_rfl) ?_
  refine PO.nil ?_
  refine PC.region ?_
  refine PO.run 2 rfl ?_
  refine Exists.elim (bind_some hF) (fun r1 hq => ?_)
  have e2 := hq.1
  have hF := hq.2
  clear hq
  refine PO.call rfl rfl rfl rfl (ks := []) (ts := []) (fr1 := []) rfl rfl rfl trivial (L15 k a0.size 1 67108864 _ e2) ?_
  rintro _ _ _ ⟨rfl, rfl, rfl⟩
  refine ⟨_, _, rfl, rfl, ?_⟩
  refine PO.run 1 rfl ?_
  refine Exists.elim (bind_some hF) (fun x3 hq => ?_)
  have e4 := hq.1
  have hF := hq.2
  clear hq
  refine PO.cut 14 (fun s => ∃ (v1 : Bool), Weak s (PS.of 21 [(2, .val (.bool false)), (20, .val (.bool v1))] [] [] 0 0) ∧ v1 = x3) ?_ ?_
  · refine PO.case (t := 6) rfl rfl (fun h5 => ?_) (fun h5 => ?_)
    · have e4 := bif_t h5 e4
      refine PO.run 2 rfl ?_
      refine Exists.elim (bind_some e4) (fun r6 hq => ?_)
      have e7 := hq.1
      have e4 := hq.2
      clear hq
      refine PO.call rfl rfl rfl rfl (ks := []) (ts := []) (fr1 := []) rfl rfl rfl trivial (L15 k a0.width 0 1099511627776 _ e7) ?_
      rintro _ _ _ ⟨rfl, rfl, rfl⟩
      refine ⟨_, _, rfl, rfl, ?_⟩
      refine PO.same rfl (pickT_ok rfl rfl rfl) rfl ?_
      refine PO.run 1 rfl ?_
      refine Exists.elim (bind_some e4) (fun x8 hq => ?_)
      have e9 := hq.1
      have e4 := hq.2
      clear hq
      refine PO.cut 9 (fun s => ∃ (v2 : Bool), Weak s (PS.of 21 [(2, .val (.bool false)), (20, .val (.bool v2))] [] [] 0 0) ∧ v2 = x8) ?_ ?_
      · refine PO.case (t := 11) rfl rfl (fun h10 => ?_) (fun h10 => ?_)
        · have e9 := bif_t h10 e9
          refine PO.run 2 rfl ?_
          refine Exists.elim (bind_some e9) (fun r11 hq => ?_)
          have e12 := hq.1
          have e9 := hq.2
          clear hq
          refine PO.call rfl rfl rfl rfl (ks := []) (ts := []) (fr1 := []) rfl rfl rfl trivial (L15 k a0.height 0 1099511627776 _ e12) ?_
          rintro _ _ _ ⟨rfl, rfl, rfl⟩
          refine ⟨_, _, rfl, rfl, ?_⟩
          refine PO.same rfl (pickT_ok rfl rfl rfl) rfl ?_
          refine PO.run 1 rfl ?_
          refine Exists.elim (bind_some e9) (fun x13 hq => ?_)
          have e14 := hq.1
          have e9 := hq.2
          clear hq
          refine PO.cut 4 (fun s => ∃ (v3 : Bool), Weak s (PS.of 21 [(2, .val (.bool false)), (20, .val (.bool v3))] [] [] 0 0) ∧ v3 = x13) ?_ ?_
          · refine PO.case (t := 16) rfl rfl (fun h15 => ?_) (fun h15 => ?_)
            · have e14 := bif_t h15 e14
              refine PO.run 2 rfl ?_
              refine Exists.elim (bind_some e14) (fun r16 hq => ?_)
              have e17 := hq.1
              have e14 := hq.2
              clear hq
              refine PO.call rfl rfl rfl rfl (ks := []) (ts := []) (fr1 := []) rfl rfl rfl trivial (L15 k a0.depth 0 1099511627776 _ e17) ?_
              rintro _ _ _ ⟨rfl, rfl, rfl⟩
              refine ⟨_, _, rfl, rfl, ?_⟩
              refine PO.same rfl (pickT_ok rfl rfl rfl) rfl ?_
              refine PO.nil ?_
              obtain rfl := Option.some.inj e14
              exact ⟨r16, Weak.one [] [] (by kernel_rfl), rfl⟩
            · have e14 := bif_f h15 e14
              refine PO.run 3 rfl ?_
              refine PO.same rfl (pickF_ok rfl rfl rfl) rfl ?_
              refine PO.nil ?_
              obtain rfl := Option.some.inj e14
              exact ⟨false, Weak.one [] [] (by kernel_rfl), rfl⟩
          · rintro _ ⟨v3, w18, rfl⟩
            refine PO.weak w18 ?_
            refine PO.nil ?_
            obtain rfl := Option.some.inj e9
            exact ⟨v3, Weak.one [] [] (by kernel_rfl), rfl⟩
        · have e9 := bif_f h10 e9
          refine PO.run 3 rfl ?_
          refine PO.same rfl (pickF_ok rfl rfl rfl) rfl ?_
          refine PO.run 4 rfl ?_
          refine PO.same rfl (pickF_ok rfl rfl rfl) rfl ?_
          refine PO.nil ?_
          obtain rfl := Option.some.inj e9
          exact ⟨false, Weak.one [] [] (by kernel_rfl), rfl⟩
      · rintro _ ⟨v2, w19, rfl⟩
        refine PO.weak w19 ?_
        refine PO.nil ?_
        obtain rfl := Option.some.inj e4
        exact ⟨v2, Weak.one [] [] (by kernel_rfl), rfl⟩
    · have e4 := bif_f h5 e4
      refine PO.run 3 rfl ?_
      refine PO.same rfl (pickF_ok rfl rfl rfl) rfl ?_
      refine PO.run 4 rfl ?_
      refine PO.same rfl (pickF_ok rfl rfl rfl) rfl ?_
      refine PO.run 4 rfl ?_
      refine PO.same rfl (pickF_ok rfl rfl rfl) rfl ?_
      refine PO.nil ?_
      obtain rfl := Option.some.inj e4
      exact ⟨false, Weak.one [] [] (by kernel_rfl), rfl⟩
  · rintro _ ⟨v1, w20, rfl⟩
    refine PO.weak w20 ?_
    refine PO.run 1 rfl ?_
    refine PO.nil ?_
    obtain rfl := Option.some.inj hF
    exact PC.ret' (retSK [] [] (by kernel_rfl) (.refl _) ⟨rfl, rfl, rfl⟩)

/-! 38 unicode/utf8.RuneLen -/
def F38 (k : Nat) (a0 : Int) : Option Int :=
bif decide (a0 < 0) then (some (-1)) else (bif decide (a0 ≤ 127) then (some 1) else (bif decide (a0 ≤ 2047) then (some 2) else (Option.bind (α := Bool) (bif decide (55296 ≤ a0) then (some (decide (a0 ≤ 57343))) else (some false)) fun (v1 : Bool) =>
bif v1 then (some (-1)) else (bif decide (a0 ≤ 65535) then (some 3) else (bif decide (a0 ≤ 1114111) then (some 4) else (some (-1)))))))
theorem L38 (k : Nat) (a0 : Int) (r : Int) (hF : F38 k a0 = some r) : PF Try.prog orc 38 [.val (.int .i32 a0)] [] [] (fun p fr tk => p = .val (.int .i64 r) ∧ fr = [] ∧ tk = []) := by
  unfold F38 at hF
  refine PF.enterS Try.func38 rfl rfl rfl (by kernel_rfl) rfl ?_
  refine PC.run (n := 2) rfl ?_
  refine PC.block ?_
  refine PC.run (n := 4) rfl ?_
  refine PC.lone ?_
  refine PC.cond rfl (fun h1 => ?_) (fun h1 => ?_)
  · have hF := bif_t h1 hF
    refine PC.assoc ?_
    refine PC.run (n := 2) rfl ?_
    obtain rfl := Option.some.inj hF
    exact PC.ret (blockKP.back (retSK [] [] (by kernel_rfl) (.refl _) ⟨rfl, rfl, rfl⟩))
  · have hF := bif_f h1 hF
    refine PC.assoc ?_
    refine PC.run (n := 4) rfl ?_
    refine PC.cond rfl (fun h2 => ?_) (fun h2 => ?_)
    · have hF := bif_t h2 hF
      refine PC.assoc ?_
      refine PC.run (n := 2) rfl ?_
      obtain rfl := Option.some.inj hF
      exact PC.ret (blockKP.back (retSK [] [] (by kernel_rfl) (.refl _) ⟨rfl, rfl, rfl⟩))
    · have hF := bif_f h2 hF
      refine PC.assoc ?_
      refine PC.run (n := 4) rfl ?_
      refine PC.cond rfl (fun h3 => ?_) (fun h3 => ?_)
      · have hF := bif_t h3 hF
        refine PC.assoc ?_
        refine PC.run (n := 2) rfl ?_
        obtain rfl := Option.some.inj hF
        exact PC.ret (blockKP.back (retSK [] [] (by kernel_rfl) (.refl _) ⟨rfl, rfl, rfl⟩))
      · have hF := bif_f h3 hF
        refine PC.assoc ?_
        refine PC.region ?_
        refine PO.run 3 rfl ?_
        refine Exists.elim (bind_some hF) (fun x4 hq => ?_)
        have e5 := hq.1
        have hF := hq.2
        clear hq
        refine PO.cut 3 (fun s => ∃ (v1 : Bool), Weak s (PS.of 25 [(0, .val (.int .i32 a0)), (2, .val (.int .i64 0)), (18, .val (.bool v1))] [] [] 0 0) ∧ v1 = x4) ?_ ?_
        · refine PO.case (t := 15) rfl rfl (fun h6 => ?_) (fun h6 => ?_)
          · have e5 := bif_t h6 e5
            refine PO.run 2 rfl ?_
            refine PO.same rfl (pickT_ok rfl rfl rfl) rfl ?_
            refine PO.nil ?_
            obtain rfl := Option.some.inj e5
            exact ⟨decide (a0 ≤ 57343), Weak.one [] [] (by kernel_rfl), rfl⟩
          · have e5 := bif_f h6 e5
            refine PO.run 2 rfl ?_
            refine PO.same rfl (pickF_ok rfl rfl rfl) rfl ?_
            refine PO.nil ?_
            obtain rfl := Option.some.inj e5
            exact ⟨false, Weak.one [] [] (by kernel_rfl), rfl⟩
        · rintro _ ⟨v1, w7, rfl⟩
          refine PO.weak w7 ?_
          refine PO.run 1 rfl ?_
          refine PO.nil ?_
          refine PC.cond rfl (fun h8 => ?_) (fun h8 => ?_)
          · have hF := bif_t h8 hF
            refine PC.assoc ?_
            refine PC.run (n := 2) rfl ?_
            obtain rfl := Option.some.inj hF
            exact PC.ret (blockKP.back (retSK [] [] (by kernel_rfl) (.refl _) ⟨rfl, rfl, rfl⟩))
          · have hF := bif_f h8 hF
            refine PC.assoc ?_
            refine PC.run (n := 4) rfl ?_
            refine PC.cond rfl (fun h9 => ?_) (fun h9 => ?_)
            · have hF := bif_t h9 hF
              refine PC.assoc ?_
              refine PC.run (n := 2) rfl ?_
              obtain rfl := Option.some.inj hF
              exact PC.ret (blockKP.back (retSK [] [] (by kernel_rfl) (.refl _) ⟨rfl, rfl, rfl⟩))
            · have hF := bif_f h9 hF
              refine PC.assoc ?_
              refine PC.run (n := 4) rfl ?_
              refine PC.cond rfl (fun h10 => ?_) (fun h10 => ?_)
              · have hF := bif_t h10 hF
                refine PC.assoc ?_
                refine PC.run (n := 2) rfl ?_
                obtain rfl := Option.some.inj hF
                exact PC.ret (blockKP.back (retSK [] [] (by kernel_rfl) (.refl _) ⟨rfl, rfl, rfl⟩))
              · have hF := bif_f h10 hF
                refine PC.noop ?_
                refine PC.skip (blockKP.end ?_)
                refine PC.run (n := 2) rfl ?_
                obtain rfl := Option.some.inj hF
                exact PC.ret' (retSK [] [] (by kernel_rfl) (.refl _) ⟨rfl, rfl, rfl⟩)

/-! 28 platen/runes.Width -/
def F28 (k : Nat) (a0 : Int) : Option Int :=
Option.bind (α := Bool) (bif decide (a0 < 0) then (some true) else (Option.bind (α := Bool) (bif decide (a0 > 1114111) then (some true) else (Option.bind (α := Bool) (bif decide (a0 ≥ 55296) then (some (decide (a0 ≤ 57343))) else (some false)) fun (v3 : Bool) =>
some v3)) fun (v2 : Bool) =>
some v2)) fun (v1 : Bool) =>
bif v1 then (some 0) else ((F38 k (w_i32 (a0))).bind fun r14 =>
some r14)
theorem L28 (k : Nat) (a0 : Int) (r : Int) (hF : F28 k a0 = some r) : PF Try.prog orc 28 [.val (.int .i64 a0)] [] [] (fun p fr tk => p = .val (.int .i64 r) ∧ fr = [] ∧ tk = []) := by
  unfold F28 at hF
  refine PF.enterS Try.func28 rfl rfl rfl (by kernel_rfl) rfl ?_
  refine PC.run (n := 2) rfl ?_
  refine PC.assoc ?_
  refine PC.region ?_
  refine PO.run 3 rfl ?_
  refine Exists.elim (bind_some hF) (fun x1 hq => ?_)
  have e2 := hq.1
  have hF := hq.2
  clear hq
  refine PO.cut 11 (fun s => ∃ (v1 : Bool), Weak s (PS.of 20 [(0, .val (.int .i64 a0)), (2, .val (.int .i64 0)), (16, .val (.bool v1))] [] [] 0 0) ∧ v1 = x1) ?_ ?_
  · refine PO.case (t := 5) rfl rfl (fun h3 => ?_) (fun h3 => ?_)
    · have e2 := bif_t h3 e2
      refine PO.run 2 rfl ?_
      refine PO.same rfl (pickT_ok rfl rfl rfl) rfl ?_
      refine PO.run 7 rfl ?_
      refine PO.same rfl (pickT_ok rfl rfl rfl) rfl ?_
      refine PO.nil ?_
      obtain rfl := Option.some.inj e2
      exact ⟨true, Weak.one [] [] (by kernel_rfl), rfl⟩
    · have e2 := bif_f h3 e2
      refine PO.run 2 rfl ?_
      refine PO.same rfl (pickF_ok rfl rfl rfl) rfl ?_
      refine PO.run 1 rfl ?_
      refine Exists.elim (bind_some e2) (fun x4 hq => ?_)
      have e5 := hq.1
      have e2 := hq.2
      clear hq
      refine PO.cut 7 (fun s => ∃ (v2 : Bool), Weak s (PS.of 20 [(0, .val (.int .i64 a0)), (2, .val (.int .i64 0)), (16, .val (.bool v2))] [] [] 0 0) ∧ v2 = x4) ?_ ?_
      · refine PO.case (t := 9) rfl rfl (fun h6 => ?_) (fun h6 => ?_)
        · have e5 := bif_t h6 e5
          refine PO.run 6 rfl ?_
          refine PO.same rfl (pickT_ok rfl rfl rfl) rfl ?_
          refine PO.nil ?_
          obtain rfl := Option.some.inj e5
          exact ⟨true, Weak.one [] [] (by kernel_rfl), rfl⟩
        · have e5 := bif_f h6 e5
          refine PO.run 3 rfl ?_
          refine Exists.elim (bind_some e5) (fun x7 hq => ?_)
          have e8 := hq.1
          have e5 := hq.2
          clear hq
          refine PO.cut 4 (fun s => ∃ (v3 : Bool), Weak s (PS.of 20 [(0, .val (.int .i64 a0)), (2, .val (.int .i64 0)), (16, .val (.bool v3))] [] [] 0 0) ∧ v3 = x7) ?_ ?_
          · refine PO.case (t := 12) rfl rfl (fun h9 => ?_) (fun h9 => ?_)
            · have e8 := bif_t h9 e8
              refine PO.run 2 rfl ?_
              refine PO.same rfl (pickT_ok rfl rfl rfl) rfl ?_
              refine PO.same rfl (pickF_ok rfl rfl rfl) rfl ?_
              refine PO.nil ?_
              obtain rfl := Option.some.inj e8
              exact ⟨decide (a0 ≤ 57343), Weak.one [] [] (by kernel_rfl), rfl⟩
            · have e8 := bif_f h9 e8
              refine PO.run 2 rfl ?_
              refine PO.same rfl (pickF_ok rfl rfl rfl) rfl ?_
              refine PO.same rfl (pickF_ok rfl rfl rfl) rfl ?_
              refine PO.nil ?_
              obtain rfl := Option.some.inj e8
              exact ⟨false, Weak.one [] [] (by kernel_rfl), rfl⟩
          · rintro _ ⟨v3, w10, rfl⟩
            refine PO.weak w10 ?_
            refine PO.nil ?_
            obtain rfl := Option.some.inj e5
            exact ⟨v3, Weak.one [] [] (by kernel_rfl), rfl⟩
      · rintro _ ⟨v2, w11, rfl⟩
        refine PO.weak w11 ?_
        refine PO.nil ?_
        obtain rfl := Option.some.inj e2
        exact ⟨v2, Weak.one [] [] (by kernel_rfl), rfl⟩
  · rintro _ ⟨v1, w12, rfl⟩
    refine PO.weak w12 ?_
    refine PO.nil ?_
    refine PC.cond rfl (fun h13 => ?_) (fun h13 => ?_)
    · have hF := bif_t h13 hF
      refine PC.assoc ?_
      refine PC.run (n := 2) rfl ?_
      obtain rfl := Option.some.inj hF
      exact PC.ret (retSK [] [] (by kernel_rfl) (.refl _) ⟨rfl, rfl, rfl⟩)
    · have hF := bif_f h13 hF
      refine PC.noop ?_
      refine PC.region ?_
      refine PO.run 2 rfl ?_
      refine Exists.elim (bind_some hF) (fun r14 hq => ?_)
      have e15 := hq.1
      have hF := hq.2
      clear hq
      refine PO.call rfl rfl rfl rfl (ks := []) (ts := []) (fr1 := []) rfl rfl rfl trivial (L38 k (w_i32 (a0)) _ e15) ?_
      rintro _ _ _ ⟨rfl, rfl, rfl⟩
      refine ⟨_, _, rfl, rfl, ?_⟩
      refine PO.run 1 rfl ?_
      refine PO.nil ?_
      obtain rfl := Option.some.inj hF
      exact PC.ret' (retSK [] [] (by kernel_rfl) (.refl _) ⟨rfl, rfl, rfl⟩)

/-! 14 platen/items.right -/
def F14 (k : Nat) (a0 : GItem) (a1 : GItem) (a2 : GItem) : Option Bool :=
Option.bind (α := Bool × ByteArray × Int × Int × Int × Int × Int × Int × Int × Int × Bool × Int × Int) (bif a0.kind == 1 then ((F27 k a0).bind fun r4 =>
Option.bind (α := Bool) (bif r4 then ((F28 k a0.rune).bind fun r9 =>
some (decide (r9 > 0))) else (some false)) fun (v14 : Bool) =>
some (v14, a0.font, a0.size, a0.rune, a0.width, a0.height, a0.depth, 0, 0, 0, false, a0.from_, a0.to_)) else (bif a0.kind == 2 then (Option.bind (α := Bool) (bif a1.kind == 1 then (Option.bind (α := Bool) (bif a2.kind == 1 then (Option.bind (α := Bool) (bif a0.width != 0 then ((F15 k a0.width (w (0 - (if a2.width < a1.width then a2.width else a1.width))) 1099511627776).bind fun r22 =>
some r22) else (some false)) fun (v17 : Bool) =>
some v17) else (some false)) fun (v16 : Bool) =>
some v16) else (some false)) fun (v15 : Bool) =>
some (v15, ByteArray.empty, 0, 0, a0.width, 0, 0, 0, 0, 0, false, 0, 0)) else (bif a0.kind == 3 then ((F15 k a0.size 1 67108864).bind fun r28 =>
Option.bind (α := Bool) (bif r28 then ((F15 k a0.width 0 67108864).bind fun r33 =>
Option.bind (α := Bool) (bif r33 then ((F15 k a0.stretch 0 67108864).bind fun r38 =>
Option.bind (α := Bool) (bif r38 then ((F15 k a0.shrink 0 a0.width).bind fun r43 =>
some r43) else (some false)) fun (v20 : Bool) =>
some v20) else (some false)) fun (v19 : Bool) =>
some v19) else (some false)) fun (v18 : Bool) =>
some (v18, a0.font, a0.size, 0, a0.width, 0, 0, a0.stretch, a0.shrink, 0, false, a0.from_, a0.to_)) else (bif a0.kind == 4 then ((F15 k a0.value (-10000) 10000).bind fun r49 =>
bif a0.flag then (Option.bind (α := Bool) (bif r49 then ((F27 k a0).bind fun r55 =>
Option.bind (α := Bool) (bif r55 then (Option.bind (α := Bool) (bif a0.rune == 45 then (some (decide (a0.value > (-10000)))) else (some false)) fun (v23 : Bool) =>
some v23) else (some false)) fun (v22 : Bool) =>
some v22) else (some false)) fun (v21 : Bool) =>
some (v21, a0.font, a0.size, a0.rune, a0.width, a0.height, a0.depth, 0, 0, a0.value, true, a0.from_, a0.to_)) else (some (r49, ByteArray.empty, 0, 0, 0, 0, 0, 0, 0, a0.value, false, a0.from_, a0.to_))) else (some (false, ByteArray.empty, 0, 0, 0, 0, 0, 0, 0, 0, false, a0.from_, a0.to_)))))) fun (v1, v2, v3, v4, v5, v6, v7, v8, v9, v10, v11, v12, v13) =>
Option.bind (α := Bool) (bif v1 then (some (a0.kind == a0.kind && (a0.font == v2 && (a0.size == v3 && (a0.rune == v4 && (a0.width == v5 && (a0.height == v6 && (a0.depth == v7 && (a0.stretch == v8 && (a0.shrink == v9 && (a0.value == v10 && (a0.flag == v11 && (a0.from_ == v12 && (a0.to_ == v13 && true)))))))))))))) else (some false)) fun (v24 : Bool) =>
some v24
theorem L14 (k : Nat) (a0 : GItem) (a1 : GItem) (a2 : GItem) (r : Bool) (hF : F14 k a0 a1 a2 = some r) : PF Try.prog orc 14 [.agg (cGItem a0), .agg (cGItem a1), .agg (cGItem a2)] [] [] (fun p fr tk => p = .val (.bool r) ∧ fr = [] ∧ tk = []) := by
  unfold F14 at hF
  refine PF.enterS Try.func14 rfl rfl rfl (by kernel_rfl) rfl ?_
  refine PC.region ?_
  refine PO.runK 4 [0, 1, 2] [] (es := [(3, .ptr 0 0), (4, .ptr 1 0), (5, .ptr 2 0), (6, .val (.bool false))]) (fr' := [⟨0, (cGItem a0)⟩, ⟨0, (cGItem a1)⟩, ⟨0, (cGItem a2)⟩]) (tk' := []) (by kernel_rfl) ?_
  refine PO.nil ?_
  refine PC.region ?_
  refine PO.runK 9 [0, 1, 2, 3] [] (es := [(3, .ptr 0 0), (4, .ptr 1 0), (5, .ptr 2 0), (6, .val (.bool false)), (7, .ptr 3 0)]) (fr' := [⟨0, (cGItem a0)⟩, ⟨0, (cGItem a1)⟩, ⟨0, (cGItem a2)⟩, ⟨0, [.val (.int .i64 a0.kind), .val (.string ByteArray.empty), .val (.int .i64 0), .val (.int .i64 0), .val (.int .i64 0), .val (.int .i64 0), .val (.int .i64 0), .val (.int .i64 0), .val (.int .i64 0), .val (.int .i64 0), .val (.bool false), .val (.int .i64 a0.from_), .val (.int .i64 a0.to_)]⟩]) (tk' := []) (by kernel_rfl) ?_
  refine PO.nil ?_
  refine PC.run (n := 2) rfl ?_
  refine PC.assoc ?_
  refine PC.run (n := 3) rfl ?_
  refine Exists.elim (bind_some hF) (fun x1 hq => ?_)
  have e2 := hq.1
  have hF := hq.2
  clear hq
  refine PC.blockJ (fun s => ∃ (v1 : Bool) (v2 : ByteArray) (v3 : Int) (v4 : Int) (v5 : Int) (v6 : Int) (v7 : Int) (v8 : Int) (v9 : Int) (v10 : Int) (v11 : Bool) (v12 : Int) (v13 : Int), Weak s (PS.of 164 [(3, .ptr 0 0), (6, .val (.bool false)), (7, .ptr 1 0), (8, .val (.bool v1))] [⟨0, (cGItem a0)⟩, ⟨0, [.val (.int .i64 a0.kind), .val (.string v2), .val (.int .i64 v3), .val (.int .i64 v4), .val (.int .i64 v5), .val (.int .i64 v6), .val (.int .i64 v7), .val (.int .i64 v8), .val (.int .i64 v9), .val (.int .i64 v10), .val (.bool v11), .val (.int .i64 v12), .val (.int .i64 v13)]⟩] [] 0 0) ∧ (v1, v2, v3, v4, v5, v6, v7, v8, v9, v10, v11, v12, v13) = x1) ?_ ?_
  · refine PC.run (n := 3) rfl ?_
    refine PC.lone ?_
    refine PC.cond rfl (fun h3 => ?_) (fun h3 => ?_)
    · have e2 := bif_t h3 e2
      refine PC.assoc ?_
      refine PC.draw [0, 1, 12, 13, 2, 3, 14, 15, 4, 5, 16, 17, 6, 7, 18, 19, 8, 9, 20, 21, 10, 11, 22, 23] (by kernel_rfl) ?_
      refine PD.runK 24 (js' := []) (σ' := ⟨16777215, 16777215, 8388607, [(23, [3], false), (21, [3, 3], false), (19, [3, 3, 3], false), (17, [3, 3, 3, 3], false), (15, [3, 3, 3, 3, 3], false), (13, [3, 3, 3, 3, 3, 3], false)]⟩) (es := [(3, .ptr 0 0), (6, .val (.bool false)), (7, .ptr 3 0), (8, .val (.bool false))]) (fr' := [⟨0, (cGItem a0)⟩, ⟨0, (cGItem a1)⟩, ⟨0, (cGItem a2)⟩, ⟨0, [.val (.int .i64 a0.kind), .val (.string a0.font), .val (.int .i64 a0.size), .val (.int .i64 a0.rune), .val (.int .i64 a0.width), .val (.int .i64 a0.height), .val (.int .i64 a0.depth), .val (.int .i64 0), .val (.int .i64 0), .val (.int .i64 0), .val (.bool false), .val (.int .i64 a0.from_), .val (.int .i64 a0.to_)]⟩]) (tk' := []) (by kernel_rfl) ?_
      refine PD.done [0, 3] [] (es := [(3, .ptr 0 0), (6, .val (.bool false)), (7, .ptr 1 0), (8, .val (.bool false))]) (fr' := [⟨0, (cGItem a0)⟩, ⟨0, [.val (.int .i64 a0.kind), .val (.string a0.font), .val (.int .i64 a0.size), .val (.int .i64 a0.rune), .val (.int .i64 a0.width), .val (.int .i64 a0.height), .val (.int .i64 a0.depth), .val (.int .i64 0), .val (.int .i64 0), .val (.int .i64 0), .val (.bool false), .val (.int .i64 a0.from_), .val (.int .i64 a0.to_)]⟩]) (tk' := []) (by kernel_rfl) (by kernel_rfl) ?_
      refine PC.region ?_
      refine PO.run 1 rfl ?_
      refine Exists.elim (bind_some e2) (fun r4 hq => ?_)
      have e5 := hq.1
      have e2 := hq.2
      clear hq
      refine PO.call rfl rfl rfl rfl (ks := []) (ts := []) (fr1 := []) rfl rfl rfl trivial (L27 k a0 _ e5) ?_
      rintro _ _ _ ⟨rfl, rfl, rfl⟩
      refine ⟨_, _, rfl, rfl, ?_⟩
      refine PO.run 1 rfl ?_
      refine Exists.elim (bind_some e2) (fun x6 hq => ?_)
      have e7 := hq.1
      have e2 := hq.2
      clear hq
      refine PO.cut 5 (fun s => ∃ (v14 : Bool), Weak s (PS.of 164 [(3, .ptr 0 0), (6, .val (.bool false)), (7, .ptr 1 0), (8, .val (.bool false)), (45, .val (.bool v14))] [⟨0, (cGItem a0)⟩, ⟨0, [.val (.int .i64 a0.kind), .val (.string a0.font), .val (.int .i64 a0.size), .val (.int .i64 a0.rune), .val (.int .i64 a0.width), .val (.int .i64 a0.height), .val (.int .i64 a0.depth), .val (.int .i64 0), .val (.int .i64 0), .val (.int .i64 0), .val (.bool false), .val (.int .i64 a0.from_), .val (.int .i64 a0.to_)]⟩] [] 0 0) ∧ v14 = x6) ?_ ?_
      · refine PO.case (t := 40) rfl rfl (fun h8 => ?_) (fun h8 => ?_)
        · have e7 := bif_t h8 e7
          refine PO.run 2 rfl ?_
          refine Exists.elim (bind_some e7) (fun r9 hq => ?_)
          have e10 := hq.1
          have e7 := hq.2
          clear hq
          refine PO.call rfl rfl rfl rfl (ks := []) (ts := []) (fr1 := []) rfl rfl rfl trivial (L28 k a0.rune _ e10) ?_
          rintro _ _ _ ⟨rfl, rfl, rfl⟩
          refine ⟨_, _, rfl, rfl, ?_⟩
          refine PO.run 1 rfl ?_
          refine PO.same rfl (pickT_ok rfl rfl rfl) rfl ?_
          refine PO.nil ?_
          obtain rfl := Option.some.inj e7
          exact ⟨decide (r9 > 0), Weak.one [0, 1] [] (by kernel_rfl), rfl⟩
        · have e7 := bif_f h8 e7
          refine PO.run 4 rfl ?_
          refine PO.same rfl (pickF_ok rfl rfl rfl) rfl ?_
          refine PO.nil ?_
          obtain rfl := Option.some.inj e7
          exact ⟨false, Weak.one [0, 1] [] (by kernel_rfl), rfl⟩
      · rintro _ ⟨v14, w11, rfl⟩
        refine PO.weak w11 ?_
        refine PO.run 1 rfl ?_
        refine PO.nil ?_
        obtain rfl := Option.some.inj e2
        exact PC.skip (blockJK.end ⟨v14, a0.font, a0.size, a0.rune, a0.width, a0.height, a0.depth, 0, 0, 0, false, a0.from_, a0.to_, Weak.one [0, 1] [] (by kernel_rfl), rfl⟩)
    · have e2 := bif_f h3 e2
      refine PC.assoc ?_
      refine PC.run (n := 3) rfl ?_
      refine PC.cond rfl (fun h12 => ?_) (fun h12 => ?_)
      · have e2 := bif_t h12 e2
        refine PC.assoc ?_
        refine PC.region ?_
        refine PO.runK 6 [0, 1, 2, 3] [] (es := [(3, .ptr 0 0), (4, .ptr 1 0), (5, .ptr 2 0), (6, .val (.bool false)), (7, .ptr 3 0), (8, .val (.bool false))]) (fr' := [⟨0, (cGItem a0)⟩, ⟨0, (cGItem a1)⟩, ⟨0, (cGItem a2)⟩, ⟨0, [.val (.int .i64 a0.kind), .val (.string ByteArray.empty), .val (.int .i64 0), .val (.int .i64 0), .val (.int .i64 a0.width), .val (.int .i64 0), .val (.int .i64 0), .val (.int .i64 0), .val (.int .i64 0), .val (.int .i64 0), .val (.bool false), .val (.int .i64 0), .val (.int .i64 0)]⟩]) (tk' := []) (by kernel_rfl) ?_
        refine PO.nil ?_
        refine PC.region ?_
        refine PO.run 4 rfl ?_
        refine Exists.elim (bind_some e2) (fun x13 hq => ?_)
        have e14 := hq.1
        have e2 := hq.2
        clear hq
        refine PO.cut 20 (fun s => ∃ (v15 : Bool), Weak s (PS.of 164 [(3, .ptr 0 0), (6, .val (.bool false)), (7, .ptr 1 0), (8, .val (.bool false)), (76, .val (.bool v15))] [⟨0, (cGItem a0)⟩, ⟨0, [.val (.int .i64 a0.kind), .val (.string ByteArray.empty), .val (.int .i64 0), .val (.int .i64 0), .val (.int .i64 a0.width), .val (.int .i64 0), .val (.int .i64 0), .val (.int .i64 0), .val (.int .i64 0), .val (.int .i64 0), .val (.bool false), .val (.int .i64 0), .val (.int .i64 0)]⟩] [] 0 0) ∧ v15 = x13) ?_ ?_
        · refine PO.case (t := 56) rfl rfl (fun h15 => ?_) (fun h15 => ?_)
          · have e14 := bif_t h15 e14
            refine PO.run 3 rfl ?_
            refine PO.same rfl (pickT_ok rfl rfl rfl) rfl ?_
            refine PO.run 1 rfl ?_
            refine Exists.elim (bind_some e14) (fun x16 hq => ?_)
            have e17 := hq.1
            have e14 := hq.2
            clear hq
            refine PO.cut 15 (fun s => ∃ (v16 : Bool), Weak s (PS.of 164 [(3, .ptr 0 0), (6, .val (.bool false)), (7, .ptr 1 0), (8, .val (.bool false)), (76, .val (.bool v16))] [⟨0, (cGItem a0)⟩, ⟨0, [.val (.int .i64 a0.kind), .val (.string ByteArray.empty), .val (.int .i64 0), .val (.int .i64 0), .val (.int .i64 a0.width), .val (.int .i64 0), .val (.int .i64 0), .val (.int .i64 0), .val (.int .i64 0), .val (.int .i64 0), .val (.bool false), .val (.int .i64 0), .val (.int .i64 0)]⟩] [] 0 0) ∧ v16 = x16) ?_ ?_
            · refine PO.case (t := 61) rfl rfl (fun h18 => ?_) (fun h18 => ?_)
              · have e17 := bif_t h18 e17
                refine PO.run 3 rfl ?_
                refine PO.same rfl (pickT_ok rfl rfl rfl) rfl ?_
                refine PO.run 1 rfl ?_
                refine Exists.elim (bind_some e17) (fun x19 hq => ?_)
                have e20 := hq.1
                have e17 := hq.2
                clear hq
                refine PO.cut 10 (fun s => ∃ (v17 : Bool), Weak s (PS.of 164 [(3, .ptr 0 0), (6, .val (.bool false)), (7, .ptr 1 0), (8, .val (.bool false)), (76, .val (.bool v17))] [⟨0, (cGItem a0)⟩, ⟨0, [.val (.int .i64 a0.kind), .val (.string ByteArray.empty), .val (.int .i64 0), .val (.int .i64 0), .val (.int .i64 a0.width), .val (.int .i64 0), .val (.int .i64 0), .val (.int .i64 0), .val (.int .i64 0), .val (.int .i64 0), .val (.bool false), .val (.int .i64 0), .val (.int .i64 0)]⟩] [] 0 0) ∧ v17 = x19) ?_ ?_
                · refine PO.case (t := 66) rfl rfl (fun h21 => ?_) (fun h21 => ?_)
                  · have e20 := bif_t h21 e20
                    refine PO.run 8 rfl ?_
                    refine Exists.elim (bind_some e20) (fun r22 hq => ?_)
                    have e23 := hq.1
                    have e20 := hq.2
                    clear hq
                    refine PO.call rfl rfl rfl rfl (ks := []) (ts := []) (fr1 := []) rfl rfl rfl trivial (L15 k a0.width (w (0 - (if a2.width < a1.width then a2.width else a1.width))) 1099511627776 _ e23) ?_
                    rintro _ _ _ ⟨rfl, rfl, rfl⟩
                    refine ⟨_, _, rfl, rfl, ?_⟩
                    refine PO.same rfl (pickT_ok rfl rfl rfl) rfl ?_
                    refine PO.nil ?_
                    obtain rfl := Option.some.inj e20
                    exact ⟨r22, Weak.one [0, 3] [] (by kernel_rfl), rfl⟩
                  · have e20 := bif_f h21 e20
                    refine PO.run 9 rfl ?_
                    refine PO.same rfl (pickF_ok rfl rfl rfl) rfl ?_
                    refine PO.nil ?_
                    obtain rfl := Option.some.inj e20
                    exact ⟨false, Weak.one [0, 3] [] (by kernel_rfl), rfl⟩
                · rintro _ ⟨v17, w24, rfl⟩
                  refine PO.weak w24 ?_
                  refine PO.nil ?_
                  obtain rfl := Option.some.inj e17
                  exact ⟨v17, Weak.one [0, 1] [] (by kernel_rfl), rfl⟩
              · have e17 := bif_f h18 e17
                refine PO.run 3 rfl ?_
                refine PO.same rfl (pickF_ok rfl rfl rfl) rfl ?_
                refine PO.run 10 rfl ?_
                refine PO.same rfl (pickF_ok rfl rfl rfl) rfl ?_
                refine PO.nil ?_
                obtain rfl := Option.some.inj e17
                exact ⟨false, Weak.one [0, 3] [] (by kernel_rfl), rfl⟩
            · rintro _ ⟨v16, w25, rfl⟩
              refine PO.weak w25 ?_
              refine PO.nil ?_
              obtain rfl := Option.some.inj e14
              exact ⟨v16, Weak.one [0, 1] [] (by kernel_rfl), rfl⟩
          · have e14 := bif_f h15 e14
            refine PO.run 3 rfl ?_
            refine PO.same rfl (pickF_ok rfl rfl rfl) rfl ?_
            refine PO.run 4 rfl ?_
            refine PO.same rfl (pickF_ok rfl rfl rfl) rfl ?_
            refine PO.run 10 rfl ?_
            refine PO.same rfl (pickF_ok rfl rfl rfl) rfl ?_
            refine PO.nil ?_
            obtain rfl := Option.some.inj e14
            exact ⟨false, Weak.one [0, 3] [] (by kernel_rfl), rfl⟩
        · rintro _ ⟨v15, w26, rfl⟩
          refine PO.weak w26 ?_
          refine PO.run 1 rfl ?_
          refine PO.nil ?_
          obtain rfl := Option.some.inj e2
          exact PC.skip (blockJK.end ⟨v15, ByteArray.empty, 0, 0, a0.width, 0, 0, 0, 0, 0, false, 0, 0, Weak.one [0, 1] [] (by kernel_rfl), rfl⟩)
      · have e2 := bif_f h12 e2
        refine PC.assoc ?_
        refine PC.run (n := 3) rfl ?_
        refine PC.cond rfl (fun h27 => ?_) (fun h27 => ?_)
        · have e2 := bif_t h27 e2
          refine PC.assoc ?_
          refine PC.draw [0, 1, 10, 11, 2, 3, 12, 13, 4, 5, 14, 15, 6, 7, 16, 17, 8, 9, 18, 19] (by kernel_rfl) ?_
          refine PD.runK 20 (js' := []) (σ' := ⟨1048575, 1048575, 524287, [(19, [3], false), (17, [3, 3], false), (15, [3, 3, 3], false), (13, [3, 3, 3, 3], false), (11, [3, 3, 3, 3, 3], false)]⟩) (es := [(3, .ptr 0 0), (6, .val (.bool false)), (7, .ptr 3 0), (8, .val (.bool false))]) (fr' := [⟨0, (cGItem a0)⟩, ⟨0, (cGItem a1)⟩, ⟨0, (cGItem a2)⟩, ⟨0, [.val (.int .i64 a0.kind), .val (.string a0.font), .val (.int .i64 a0.size), .val (.int .i64 0), .val (.int .i64 a0.width), .val (.int .i64 0), .val (.int .i64 0), .val (.int .i64 a0.stretch), .val (.int .i64 a0.shrink), .val (.int .i64 0), .val (.bool false), .val (.int .i64 a0.from_), .val (.int .i64 a0.to_)]⟩]) (tk' := []) (by kernel_rfl) ?_
          refine PD.done [0, 3] [] (es := [(3, .ptr 0 0), (6, .val (.bool false)), (7, .ptr 1 0), (8, .val (.bool false))]) (fr' := [⟨0, (cGItem a0)⟩, ⟨0, [.val (.int .i64 a0.kind), .val (.string a0.font), .val (.int .i64 a0.size), .val (.int .i64 0), .val (.int .i64 a0.width), .val (.int .i64 0), .val (.int .i64 0), .val (.int .i64 a0.stretch), .val (.int .i64 a0.shrink), .val (.int .i64 0), .val (.bool false), .val (.int .i64 a0.from_), .val (.int .i64 a0.to_)]⟩]) (tk' := []) (by kernel_rfl) (by kernel_rfl) ?_
          refine PC.region ?_
          refine PO.run 2 rfl ?_
          refine Exists.elim (bind_some e2) (fun r28 hq => ?_)
          have e29 := hq.1
          have e2 := hq.2
          clear hq
          refine PO.call rfl rfl rfl rfl (ks := []) (ts := []) (fr1 := []) rfl rfl rfl trivial (L15 k a0.size 1 67108864 _ e29) ?_
          rintro _ _ _ ⟨rfl, rfl, rfl⟩
          refine ⟨_, _, rfl, rfl, ?_⟩
          refine PO.run 1 rfl ?_
          refine Exists.elim (bind_some e2) (fun x30 hq => ?_)
          have e31 := hq.1
          have e2 := hq.2
          clear hq
          refine PO.cut 16 (fun s => ∃ (v18 : Bool), Weak s (PS.of 164 [(3, .ptr 0 0), (6, .val (.bool false)), (7, .ptr 1 0), (8, .val (.bool false)), (113, .val (.bool v18))] [⟨0, (cGItem a0)⟩, ⟨0, [.val (.int .i64 a0.kind), .val (.string a0.font), .val (.int .i64 a0.size), .val (.int .i64 0), .val (.int .i64 a0.width), .val (.int .i64 0), .val (.int .i64 0), .val (.int .i64 a0.stretch), .val (.int .i64 a0.shrink), .val (.int .i64 0), .val (.bool false), .val (.int .i64 a0.from_), .val (.int .i64 a0.to_)]⟩] [] 0 0) ∧ v18 = x30) ?_ ?_
          · refine PO.case (t := 97) rfl rfl (fun h32 => ?_) (fun h32 => ?_)
            · have e31 := bif_t h32 e31
              refine PO.run 2 rfl ?_
              refine Exists.elim (bind_some e31) (fun r33 hq => ?_)
              have e34 := hq.1
              have e31 := hq.2
              clear hq
              refine PO.call rfl rfl rfl rfl (ks := []) (ts := []) (fr1 := []) rfl rfl rfl trivial (L15 k a0.width 0 67108864 _ e34) ?_
              rintro _ _ _ ⟨rfl, rfl, rfl⟩
              refine ⟨_, _, rfl, rfl, ?_⟩
              refine PO.same rfl (pickT_ok rfl rfl rfl) rfl ?_
              refine PO.run 1 rfl ?_
              refine Exists.elim (bind_some e31) (fun x35 hq => ?_)
              have e36 := hq.1
              have e31 := hq.2
              clear hq
              refine PO.cut 11 (fun s => ∃ (v19 : Bool), Weak s (PS.of 164 [(3, .ptr 0 0), (6, .val (.bool false)), (7, .ptr 1 0), (8, .val (.bool false)), (113, .val (.bool v19))] [⟨0, (cGItem a0)⟩, ⟨0, [.val (.int .i64 a0.kind), .val (.string a0.font), .val (.int .i64 a0.size), .val (.int .i64 0), .val (.int .i64 a0.width), .val (.int .i64 0), .val (.int .i64 0), .val (.int .i64 a0.stretch), .val (.int .i64 a0.shrink), .val (.int .i64 0), .val (.bool false), .val (.int .i64 a0.from_), .val (.int .i64 a0.to_)]⟩] [] 0 0) ∧ v19 = x35) ?_ ?_
              · refine PO.case (t := 102) rfl rfl (fun h37 => ?_) (fun h37 => ?_)
                · have e36 := bif_t h37 e36
                  refine PO.run 2 rfl ?_
                  refine Exists.elim (bind_some e36) (fun r38 hq => ?_)
                  have e39 := hq.1
                  have e36 := hq.2
                  clear hq
                  refine PO.call rfl rfl rfl rfl (ks := []) (ts := []) (fr1 := []) rfl rfl rfl trivial (L15 k a0.stretch 0 67108864 _ e39) ?_
                  rintro _ _ _ ⟨rfl, rfl, rfl⟩
                  refine ⟨_, _, rfl, rfl, ?_⟩
                  refine PO.same rfl (pickT_ok rfl rfl rfl) rfl ?_
                  refine PO.run 1 rfl ?_
                  refine Exists.elim (bind_some e36) (fun x40 hq => ?_)
                  have e41 := hq.1
                  have e36 := hq.2
                  clear hq
                  refine PO.cut 6 (fun s => ∃ (v20 : Bool), Weak s (PS.of 164 [(3, .ptr 0 0), (6, .val (.bool false)), (7, .ptr 1 0), (8, .val (.bool false)), (113, .val (.bool v20))] [⟨0, (cGItem a0)⟩, ⟨0, [.val (.int .i64 a0.kind), .val (.string a0.font), .val (.int .i64 a0.size), .val (.int .i64 0), .val (.int .i64 a0.width), .val (.int .i64 0), .val (.int .i64 0), .val (.int .i64 a0.stretch), .val (.int .i64 a0.shrink), .val (.int .i64 0), .val (.bool false), .val (.int .i64 a0.from_), .val (.int .i64 a0.to_)]⟩] [] 0 0) ∧ v20 = x40) ?_ ?_
                  · refine PO.case (t := 107) rfl rfl (fun h42 => ?_) (fun h42 => ?_)
                    · have e41 := bif_t h42 e41
                      refine PO.run 4 rfl ?_
                      refine Exists.elim (bind_some e41) (fun r43 hq => ?_)
                      have e44 := hq.1
                      have e41 := hq.2
                      clear hq
                      refine PO.call rfl rfl rfl rfl (ks := []) (ts := []) (fr1 := []) rfl rfl rfl trivial (L15 k a0.shrink 0 a0.width _ e44) ?_
                      rintro _ _ _ ⟨rfl, rfl, rfl⟩
                      refine ⟨_, _, rfl, rfl, ?_⟩
                      refine PO.same rfl (pickT_ok rfl rfl rfl) rfl ?_
                      refine PO.nil ?_
                      obtain rfl := Option.some.inj e41
                      exact ⟨r43, Weak.one [0, 1] [] (by kernel_rfl), rfl⟩
                    · have e41 := bif_f h42 e41
                      refine PO.run 5 rfl ?_
                      refine PO.same rfl (pickF_ok rfl rfl rfl) rfl ?_
                      refine PO.nil ?_
                      obtain rfl := Option.some.inj e41
                      exact ⟨false, Weak.one [0, 1] [] (by kernel_rfl), rfl⟩
                  · rintro _ ⟨v20, w45, rfl⟩
                    refine PO.weak w45 ?_
                    refine PO.nil ?_
                    obtain rfl := Option.some.inj e36
                    exact ⟨v20, Weak.one [0, 1] [] (by kernel_rfl), rfl⟩
                · have e36 := bif_f h37 e36
                  refine PO.run 3 rfl ?_
                  refine PO.same rfl (pickF_ok rfl rfl rfl) rfl ?_
                  refine PO.run 6 rfl ?_
                  refine PO.same rfl (pickF_ok rfl rfl rfl) rfl ?_
                  refine PO.nil ?_
                  obtain rfl := Option.some.inj e36
                  exact ⟨false, Weak.one [0, 1] [] (by kernel_rfl), rfl⟩
              · rintro _ ⟨v19, w46, rfl⟩
                refine PO.weak w46 ?_
                refine PO.nil ?_
                obtain rfl := Option.some.inj e31
                exact ⟨v19, Weak.one [0, 1] [] (by kernel_rfl), rfl⟩
            · have e31 := bif_f h32 e31
              refine PO.run 3 rfl ?_
              refine PO.same rfl (pickF_ok rfl rfl rfl) rfl ?_
              refine PO.run 4 rfl ?_
              refine PO.same rfl (pickF_ok rfl rfl rfl) rfl ?_
              refine PO.run 6 rfl ?_
              refine PO.same rfl (pickF_ok rfl rfl rfl) rfl ?_
              refine PO.nil ?_
              obtain rfl := Option.some.inj e31
              exact ⟨false, Weak.one [0, 1] [] (by kernel_rfl), rfl⟩
          · rintro _ ⟨v18, w47, rfl⟩
            refine PO.weak w47 ?_
            refine PO.run 1 rfl ?_
            refine PO.nil ?_
            obtain rfl := Option.some.inj e2
            exact PC.skip (blockJK.end ⟨v18, a0.font, a0.size, 0, a0.width, 0, 0, a0.stretch, a0.shrink, 0, false, a0.from_, a0.to_, Weak.one [0, 1] [] (by kernel_rfl), rfl⟩)
        · have e2 := bif_f h27 e2
          refine PC.assoc ?_
          refine PC.run (n := 3) rfl ?_
          refine PC.cond rfl (fun h48 => ?_) (fun h48 => ?_)
          · have e2 := bif_t h48 e2
            refine PC.assoc ?_
            refine PC.region ?_
            refine PO.runK 4 [0, 3] [] (es := [(3, .ptr 0 0), (6, .val (.bool false)), (7, .ptr 1 0), (8, .val (.bool false))]) (fr' := [⟨0, (cGItem a0)⟩, ⟨0, [.val (.int .i64 a0.kind), .val (.string ByteArray.empty), .val (.int .i64 0), .val (.int .i64 0), .val (.int .i64 0), .val (.int .i64 0), .val (.int .i64 0), .val (.int .i64 0), .val (.int .i64 0), .val (.int .i64 a0.value), .val (.bool false), .val (.int .i64 a0.from_), .val (.int .i64 a0.to_)]⟩]) (tk' := []) (by kernel_rfl) ?_
            refine PO.nil ?_
            refine PC.assoc ?_
            refine PC.region ?_
            refine PO.run 2 rfl ?_
            refine Exists.elim (bind_some e2) (fun r49 hq => ?_)
            have e50 := hq.1
            have e2 := hq.2
            clear hq
            refine PO.call rfl rfl rfl rfl (ks := []) (ts := []) (fr1 := []) rfl rfl rfl trivial (L15 k a0.value (-10000) 10000 _ e50) ?_
            rintro _ _ _ ⟨rfl, rfl, rfl⟩
            refine ⟨_, _, rfl, rfl, ?_⟩
            refine PO.run 1 rfl ?_
            refine PO.nil ?_
            refine PC.assoc ?_
            refine PC.run (n := 3) rfl ?_
            refine PC.cond rfl (fun h51 => ?_) (fun h51 => ?_)
            · have e2 := bif_t h51 e2
              refine PC.assoc ?_
              refine PC.draw [12, 13, 0, 1, 14, 15, 2, 3, 16, 17, 4, 5, 18, 19, 6, 7, 20, 21, 8, 9, 22, 23, 10, 11, 24, 25] (by kernel_rfl) ?_
              refine PD.runK 26 (js' := []) (σ' := ⟨67108863, 67108863, 33554431, [(25, [1], false), (23, [1, 1], false), (21, [1, 1, 1], false), (19, [1, 1, 1, 1], false), (17, [1, 1, 1, 1, 1], false), (15, [1, 1, 1, 1, 1, 1], false), (13, [1, 1, 1, 1, 1, 1, 1], false)]⟩) (es := [(3, .ptr 0 0), (6, .val (.bool false)), (7, .ptr 1 0), (8, .val (.bool r49))]) (fr' := [⟨0, (cGItem a0)⟩, ⟨0, [.val (.int .i64 a0.kind), .val (.string a0.font), .val (.int .i64 a0.size), .val (.int .i64 a0.rune), .val (.int .i64 a0.width), .val (.int .i64 a0.height), .val (.int .i64 a0.depth), .val (.int .i64 0), .val (.int .i64 0), .val (.int .i64 a0.value), .val (.bool true), .val (.int .i64 a0.from_), .val (.int .i64 a0.to_)]⟩]) (tk' := []) (by kernel_rfl) ?_
              refine PD.done [0, 1] [] (es := [(3, .ptr 0 0), (6, .val (.bool false)), (7, .ptr 1 0), (8, .val (.bool r49))]) (fr' := [⟨0, (cGItem a0)⟩, ⟨0, [.val (.int .i64 a0.kind), .val (.string a0.font), .val (.int .i64 a0.size), .val (.int .i64 a0.rune), .val (.int .i64 a0.width), .val (.int .i64 a0.height), .val (.int .i64 a0.depth), .val (.int .i64 0), .val (.int .i64 0), .val (.int .i64 a0.value), .val (.bool true), .val (.int .i64 a0.from_), .val (.int .i64 a0.to_)]⟩]) (tk' := []) (by kernel_rfl) (by kernel_rfl) ?_
              refine PC.region ?_
              refine PO.run 2 rfl ?_
              refine Exists.elim (bind_some e2) (fun x52 hq => ?_)
              have e53 := hq.1
              have e2 := hq.2
              clear hq
              refine PO.cut 13 (fun s => ∃ (v21 : Bool), Weak s (PS.of 164 [(3, .ptr 0 0), (6, .val (.bool false)), (7, .ptr 1 0), (8, .val (.bool r49)), (157, .val (.bool v21))] [⟨0, (cGItem a0)⟩, ⟨0, [.val (.int .i64 a0.kind), .val (.string a0.font), .val (.int .i64 a0.size), .val (.int .i64 a0.rune), .val (.int .i64 a0.width), .val (.int .i64 a0.height), .val (.int .i64 a0.depth), .val (.int .i64 0), .val (.int .i64 0), .val (.int .i64 a0.value), .val (.bool true), .val (.int .i64 a0.from_), .val (.int .i64 a0.to_)]⟩] [] 0 0) ∧ v21 = x52) ?_ ?_
              · refine PO.case (t := 144) rfl rfl (fun h54 => ?_) (fun h54 => ?_)
                · have e53 := bif_t h54 e53
                  refine PO.run 1 rfl ?_
                  refine Exists.elim (bind_some e53) (fun r55 hq => ?_)
                  have e56 := hq.1
                  have e53 := hq.2
                  clear hq
                  refine PO.call rfl rfl rfl rfl (ks := []) (ts := []) (fr1 := []) rfl rfl rfl trivial (L27 k a0 _ e56) ?_
                  rintro _ _ _ ⟨rfl, rfl, rfl⟩
                  refine ⟨_, _, rfl, rfl, ?_⟩
                  refine PO.same rfl (pickT_ok rfl rfl rfl) rfl ?_
                  refine PO.run 1 rfl ?_
                  refine Exists.elim (bind_some e53) (fun x57 hq => ?_)
                  have e58 := hq.1
                  have e53 := hq.2
                  clear hq
                  refine PO.cut 9 (fun s => ∃ (v22 : Bool), Weak s (PS.of 164 [(3, .ptr 0 0), (6, .val (.bool false)), (7, .ptr 1 0), (8, .val (.bool r49)), (157, .val (.bool v22))] [⟨0, (cGItem a0)⟩, ⟨0, [.val (.int .i64 a0.kind), .val (.string a0.font), .val (.int .i64 a0.size), .val (.int .i64 a0.rune), .val (.int .i64 a0.width), .val (.int .i64 a0.height), .val (.int .i64 a0.depth), .val (.int .i64 0), .val (.int .i64 0), .val (.int .i64 a0.value), .val (.bool true), .val (.int .i64 a0.from_), .val (.int .i64 a0.to_)]⟩] [] 0 0) ∧ v22 = x57) ?_ ?_
                  · refine PO.case (t := 148) rfl rfl (fun h59 => ?_) (fun h59 => ?_)
                    · have e58 := bif_t h59 e58
                      refine PO.run 3 rfl ?_
                      refine PO.same rfl (pickT_ok rfl rfl rfl) rfl ?_
                      refine PO.run 1 rfl ?_
                      refine Exists.elim (bind_some e58) (fun x60 hq => ?_)
                      have e61 := hq.1
                      have e58 := hq.2
                      clear hq
                      refine PO.cut 4 (fun s => ∃ (v23 : Bool), Weak s (PS.of 164 [(3, .ptr 0 0), (6, .val (.bool false)), (7, .ptr 1 0), (8, .val (.bool r49)), (157, .val (.bool v23))] [⟨0, (cGItem a0)⟩, ⟨0, [.val (.int .i64 a0.kind), .val (.string a0.font), .val (.int .i64 a0.size), .val (.int .i64 a0.rune), .val (.int .i64 a0.width), .val (.int .i64 a0.height), .val (.int .i64 a0.depth), .val (.int .i64 0), .val (.int .i64 0), .val (.int .i64 a0.value), .val (.bool true), .val (.int .i64 a0.from_), .val (.int .i64 a0.to_)]⟩] [] 0 0) ∧ v23 = x60) ?_ ?_
                      · refine PO.case (t := 153) rfl rfl (fun h62 => ?_) (fun h62 => ?_)
                        · have e61 := bif_t h62 e61
                          refine PO.run 3 rfl ?_
                          refine PO.same rfl (pickT_ok rfl rfl rfl) rfl ?_
                          refine PO.nil ?_
                          obtain rfl := Option.some.inj e61
                          exact ⟨decide (a0.value > (-10000)), Weak.one [0, 1] [] (by kernel_rfl), rfl⟩
                        · have e61 := bif_f h62 e61
                          refine PO.run 3 rfl ?_
                          refine PO.same rfl (pickF_ok rfl rfl rfl) rfl ?_
                          refine PO.nil ?_
                          obtain rfl := Option.some.inj e61
                          exact ⟨false, Weak.one [0, 1] [] (by kernel_rfl), rfl⟩
                      · rintro _ ⟨v23, w63, rfl⟩
                        refine PO.weak w63 ?_
                        refine PO.nil ?_
                        obtain rfl := Option.some.inj e58
                        exact ⟨v23, Weak.one [0, 1] [] (by kernel_rfl), rfl⟩
                    · have e58 := bif_f h59 e58
                      refine PO.run 3 rfl ?_
                      refine PO.same rfl (pickF_ok rfl rfl rfl) rfl ?_
                      refine PO.run 4 rfl ?_
                      refine PO.same rfl (pickF_ok rfl rfl rfl) rfl ?_
                      refine PO.nil ?_
                      obtain rfl := Option.some.inj e58
                      exact ⟨false, Weak.one [0, 1] [] (by kernel_rfl), rfl⟩
                  · rintro _ ⟨v22, w64, rfl⟩
                    refine PO.weak w64 ?_
                    refine PO.nil ?_
                    obtain rfl := Option.some.inj e53
                    exact ⟨v22, Weak.one [0, 1] [] (by kernel_rfl), rfl⟩
                · have e53 := bif_f h54 e53
                  refine PO.run 2 rfl ?_
                  refine PO.same rfl (pickF_ok rfl rfl rfl) rfl ?_
                  refine PO.run 4 rfl ?_
                  refine PO.same rfl (pickF_ok rfl rfl rfl) rfl ?_
                  refine PO.run 4 rfl ?_
                  refine PO.same rfl (pickF_ok rfl rfl rfl) rfl ?_
                  refine PO.nil ?_
                  obtain rfl := Option.some.inj e53
                  exact ⟨false, Weak.one [0, 1] [] (by kernel_rfl), rfl⟩
              · rintro _ ⟨v21, w65, rfl⟩
                refine PO.weak w65 ?_
                refine PO.run 1 rfl ?_
                refine PO.nil ?_
                obtain rfl := Option.some.inj e2
                exact PC.skip (blockJK.end ⟨v21, a0.font, a0.size, a0.rune, a0.width, a0.height, a0.depth, 0, 0, a0.value, true, a0.from_, a0.to_, Weak.one [0, 1] [] (by kernel_rfl), rfl⟩)
            · have e2 := bif_f h51 e2
              refine PC.noop ?_
              obtain rfl := Option.some.inj e2
              exact PC.skip (blockJK.end ⟨r49, ByteArray.empty, 0, 0, 0, 0, 0, 0, 0, a0.value, false, a0.from_, a0.to_, Weak.one [0, 1] [] (by kernel_rfl), rfl⟩)
          · have e2 := bif_f h48 e2
            refine PC.noop ?_
            obtain rfl := Option.some.inj e2
            exact PC.skip (blockJK.end ⟨false, ByteArray.empty, 0, 0, 0, 0, 0, 0, 0, 0, false, a0.from_, a0.to_, Weak.one [0, 3] [] (by kernel_rfl), rfl⟩)
  · rintro _ ⟨v1, v2, v3, v4, v5, v6, v7, v8, v9, v10, v11, v12, v13, w66, rfl⟩
    refine PC.weak w66 ?_
    refine PC.region ?_
    refine PO.run 2 rfl ?_
    refine Exists.elim (bind_some hF) (fun x67 hq => ?_)
    have e68 := hq.1
    have hF := hq.2
    clear hq
    refine PO.cut 4 (fun s => ∃ (v24 : Bool), Weak s (PS.of 164 [(6, .val (.bool false)), (163, .val (.bool v24))] [] [] 0 0) ∧ v24 = x67) ?_ ?_
    · refine PO.case (t := 159) rfl rfl (fun h69 => ?_) (fun h69 => ?_)
      · have e68 := bif_t h69 e68
        refine PO.run 2 rfl ?_
        refine PO.same rfl (aggEq_ok (v := .bool (a0.kind == a0.kind && (a0.font == v2 && (a0.size == v3 && (a0.rune == v4 && (a0.width == v5 && (a0.height == v6 && (a0.depth == v7 && (a0.stretch == v8 && (a0.shrink == v9 && (a0.value == v10 && (a0.flag == v11 && (a0.from_ == v12 && (a0.to_ == v13 && true)))))))))))))) rfl rfl rfl rfl rfl rfl rfl (by kernel_rfl)) rfl ?_
        refine PO.same rfl (pickT_ok rfl rfl rfl) rfl ?_
        refine PO.nil ?_
        obtain rfl := Option.some.inj e68
        exact ⟨(a0.kind == a0.kind && (a0.font == v2 && (a0.size == v3 && (a0.rune == v4 && (a0.width == v5 && (a0.height == v6 && (a0.depth == v7 && (a0.stretch == v8 && (a0.shrink == v9 && (a0.value == v10 && (a0.flag == v11 && (a0.from_ == v12 && (a0.to_ == v13 && true))))))))))))), Weak.one [] [] (by kernel_rfl), rfl⟩
      · have e68 := bif_f h69 e68
        refine PO.run 3 rfl ?_
        refine PO.same rfl (pickF_ok rfl rfl rfl) rfl ?_
        refine PO.nil ?_
        obtain rfl := Option.some.inj e68
        exact ⟨false, Weak.one [] [] (by kernel_rfl), rfl⟩
    · rintro _ ⟨v24, w70, rfl⟩
      refine PO.weak w70 ?_
      refine PO.run 1 rfl ?_
      refine PO.nil ?_
      obtain rfl := Option.some.inj hF
      exact PC.ret' (retSK [] [] (by kernel_rfl) (.refl _) ⟨rfl, rfl, rfl⟩)

/-! 5 platen/items.Check -/
def F5_l1 (k : Nat) (a0 : List GItem) : Nat → Int → Int → Option ((Unit) ⊕ (Int))
  | 0, _, _ => none
  | j4 + 1, v3, v4 =>
    bif decide (v4 < (a0.length : Int)) then (Option.bind (α := (Int) ⊕ ((Unit) ⊕ (Int))) (bindI a0 v4 fun y8 =>
    Option.bind (α := Int × ByteArray × Int × Int × Int × Int × Int × Int × Int × Int × Bool × Int × Int) (bif decide (v4 > 0) then (bindI a0 (w (v4 - 1)) fun y22 =>
    some (y22.kind, y22.font, y22.size, y22.rune, y22.width, y22.height, y22.depth, y22.stretch, y22.shrink, y22.value, y22.flag, y22.from_, y22.to_)) else (some (0, ByteArray.empty, 0, 0, 0, 0, 0, 0, 0, 0, false, 0, 0))) fun (v9, v10, v11, v12, v13, v14, v15, v16, v17, v18, v19, v20, v21) =>
    Option.bind (α := Int × ByteArray × Int × Int × Int × Int × Int × Int × Int × Int × Bool × Int × Int) (bif decide ((w (v4 + 1)) < (a0.length : Int)) then (bindI a0 (w (v4 + 1)) fun y36 =>
    some (y36.kind, y36.font, y36.size, y36.rune, y36.width, y36.height, y36.depth, y36.stretch, y36.shrink, y36.value, y36.flag, y36.from_, y36.to_)) else (some (0, ByteArray.empty, 0, 0, 0, 0, 0, 0, 0, 0, false, 0, 0))) fun (v23, v24, v25, v26, v27, v28, v29, v30, v31, v32, v33, v34, v35) =>
    (F14 k y8 (GItem.mk v9 v10 v11 v12 v13 v14 v15 v16 v17 v18 v19 v20 v21) (GItem.mk v23 v24 v25 v26 v27 v28 v29 v30 v31 v32 v33 v34 v35)).bind fun r23 =>
    bif !r23 then (some (.inr (.inr 1))) else (bif y8.kind == 2 then (some (.inl v3)) else (Option.bind (α := Bool) (bif decide (y8.from_ < v3) then (some true) else ((F15 k y8.to_ y8.from_ 65536).bind fun r30 =>
    some (!r30))) fun (v37 : Bool) =>
    bif v37 then (some (.inr (.inr 1))) else (some (.inl y8.to_))))) (Sum.elim (fun (v7 : Int) =>
    F5_l1 k a0 j4 v7 (w (v4 + 1))) some)) else (some (.inl ()))
def F5 (k : Nat) (a0 : List GItem) : Option Int :=
bif decide ((a0.length : Int) > 4096) then (some 130) else (Option.bind (α := (Unit) ⊕ (Int)) (F5_l1 k a0 k 0 0) (Sum.elim (fun (_ : Unit) =>
Option.bind (α := Bool) (bif decide ((a0.length : Int) > 0) then (bindI a0 (w ((a0.length : Int) - 1)) fun y39 =>
Option.bind (α := Bool) (bif y39.kind != 4 then (some true) else (bindI a0 (w ((a0.length : Int) - 1)) fun y41 =>
some (y41.value != (-10000)))) fun (v40 : Bool) =>
some v40) else (some false)) fun (v38 : Bool) =>
bif v38 then (some 1) else (some 0)) some))
theorem L5 (k : Nat) (a0 : List GItem) (r : Int) (hF : F5 k a0 = some r) : PF Try.prog orc 5 [.list 13 (List.map cGItem a0) none] [] [] (fun p fr tk => p = .val (.int .i64 r) ∧ fr = [] ∧ tk = []) := by
  unfold F5 at hF
  refine PF.enterS Try.func5 rfl rfl rfl (by kernel_rfl) rfl ?_
  refine PC.run (n := 2) rfl ?_
  refine PC.assoc ?_
  refine PC.region ?_
  refine PO.run 1 rfl ?_
  refine PO.same rfl (len_ok Try.underlying22 rfl (List.length_map _)) rfl ?_
  refine PO.run 1 rfl ?_
  refine PO.nil ?_
  refine PC.cond rfl (fun h1 => ?_) (fun h1 => ?_)
  · have hF := bif_t h1 hF
    refine PC.assoc ?_
    refine PC.run (n := 2) rfl ?_
    obtain rfl := Option.some.inj hF
    exact PC.ret (retSK [] [] (by kernel_rfl) (.refl _) ⟨rfl, rfl, rfl⟩)
  · have hF := bif_f h1 hF
    refine PC.noop ?_
    refine PC.run (n := 2) rfl ?_
    refine PC.assoc ?_
    refine PC.region ?_
    refine PO.run 1 rfl ?_
    refine PO.same rfl (len_ok Try.underlying22 rfl (List.length_map _)) rfl ?_
    refine PO.run 1 rfl ?_
    refine PO.nil ?_
    refine Exists.elim (bind_some hF) (fun x2 hq => ?_)
    have e3 := hq.1
    have hF := hq.2
    clear hq
    refine PC.blockJ (fun s => Weak s (PS.of 81 [(0, .list 13 (List.map cGItem a0) none), (2, .val (.int .i64 0))] [] [] 0 0) ∧ .inl () = x2) ?_ ?_
    · refine PC.loop (fun j4 s => ∃ (v3 : Int) (v4 : Int), Weak s (PS.of 81 [(0, .list 13 (List.map cGItem a0) none), (2, .val (.int .i64 0)), (3, .val (.int .i64 v3)), (12, .list 13 (List.map cGItem a0) none), (13, .val (.int .i64 (a0.length : Int))), (14, .val (.int .i64 v4))] [] [] 0 0) ∧ F5_l1 k a0 j4 v3 v4 = some x2) (fun j4 s => ?_) k ⟨0, 0, Weak.one [] [] (by kernel_rfl), e3⟩
      rintro ⟨v3, v4, w5, e3⟩
      refine PC.weak w5 ?_
      cases j4 with
      | zero => rw [F5_l1] at e3; cases e3
      | succ j4 =>
        rw [F5_l1] at e3
        refine PC.run (n := 2) rfl ?_
        refine PC.cond rfl (fun h6 => ?_) (fun h6 => ?_)
        · have e3 := bif_t h6 e3
          refine PC.noop ?_
          refine Exists.elim (bind_some e3) (fun x7 hq => ?_)
          have e8 := hq.1
          have e3 := hq.2
          clear hq
          refine PC.blockJ (fun s => ∃ (v7 : Int), Weak s (PS.of 81 [(0, .list 13 (List.map cGItem a0) none), (2, .val (.int .i64 0)), (3, .val (.int .i64 v7)), (12, .list 13 (List.map cGItem a0) none), (13, .val (.int .i64 (a0.length : Int))), (14, .val (.int .i64 v4))] [] [] 0 0) ∧ .inl v7 = x7) ?_ ?_
          · refine PC.region ?_
            refine PO.run 1 rfl ?_
            refine Exists.elim (bindI_some e8) (fun y8 hq => ?_)
            have h9 := hq.1
            have h10 := hq.2.1
            have e8 := hq.2.2
            clear hq
            refine PO.same rfl (indexAddr_ok Try.underlying22 rfl rfl rfl h9 (map_at h10)) rfl ?_
            refine PO.runK 4 [0] [] (es := [(0, .list 13 (List.map cGItem a0) none), (2, .val (.int .i64 0)), (3, .val (.int .i64 v3)), (4, .val (.int .i64 v4)), (5, .ptr 0 0), (12, .list 13 (List.map cGItem a0) none), (13, .val (.int .i64 (a0.length : Int))), (14, .val (.int .i64 v4))]) (fr' := [⟨0, (cGItem y8)⟩]) (tk' := []) (by kernel_rfl) ?_
            refine PO.nil ?_
            refine PC.region ?_
            refine PO.runK 2 [0, 1, 2] [] (es := [(0, .list 13 (List.map cGItem a0) none), (2, .val (.int .i64 0)), (3, .val (.int .i64 v3)), (4, .val (.int .i64 v4)), (5, .ptr 0 0), (6, .ptr 1 0), (7, .ptr 2 0), (12, .list 13 (List.map cGItem a0) none), (13, .val (.int .i64 (a0.length : Int))), (14, .val (.int .i64 v4))]) (fr' := [⟨0, (cGItem y8)⟩, ⟨0, [.val (.int .i64 0), .val (.string ByteArray.empty), .val (.int .i64 0), .val (.int .i64 0), .val (.int .i64 0), .val (.int .i64 0), .val (.int .i64 0), .val (.int .i64 0), .val (.int .i64 0), .val (.int .i64 0), .val (.bool false), .val (.int .i64 0), .val (.int .i64 0)]⟩, ⟨0, [.val (.int .i64 0), .val (.string ByteArray.empty), .val (.int .i64 0), .val (.int .i64 0), .val (.int .i64 0), .val (.int .i64 0), .val (.int .i64 0), .val (.int .i64 0), .val (.int .i64 0), .val (.int .i64 0), .val (.bool false), .val (.int .i64 0), .val (.int .i64 0)]⟩]) (tk' := []) (by kernel_rfl) ?_
            refine PO.nil ?_
            refine PC.assoc ?_
            refine PC.run (n := 3) rfl ?_
            refine Exists.elim (bind_some e8) (fun x11 hq => ?_)
            have e12 := hq.1
            have e8 := hq.2
            clear hq
            refine PC.join (fun s => ∃ (v9 : Int) (v10 : ByteArray) (v11 : Int) (v12 : Int) (v13 : Int) (v14 : Int) (v15 : Int) (v16 : Int) (v17 : Int) (v18 : Int) (v19 : Bool) (v20 : Int) (v21 : Int), Weak s (PS.of 81 [(0, .list 13 (List.map cGItem a0) none), (2, .val (.int .i64 0)), (3, .val (.int .i64 v3)), (4, .val (.int .i64 v4)), (5, .ptr 0 0), (6, .ptr 1 0), (7, .ptr 2 0), (12, .list 13 (List.map cGItem a0) none), (13, .val (.int .i64 (a0.length : Int))), (14, .val (.int .i64 v4))] [⟨0, (cGItem y8)⟩, ⟨0, [.val (.int .i64 v9), .val (.string v10), .val (.int .i64 v11), .val (.int .i64 v12), .val (.int .i64 v13), .val (.int .i64 v14), .val (.int .i64 v15), .val (.int .i64 v16), .val (.int .i64 v17), .val (.int .i64 v18), .val (.bool v19), .val (.int .i64 v20), .val (.int .i64 v21)]⟩, ⟨0, [.val (.int .i64 0), .val (.string ByteArray.empty), .val (.int .i64 0), .val (.int .i64 0), .val (.int .i64 0), .val (.int .i64 0), .val (.int .i64 0), .val (.int .i64 0), .val (.int .i64 0), .val (.int .i64 0), .val (.bool false), .val (.int .i64 0), .val (.int .i64 0)]⟩] [] 0 0) ∧ (v9, v10, v11, v12, v13, v14, v15, v16, v17, v18, v19, v20, v21) = x11) ?_ ?_
            · refine PC.cond rfl (fun h13 => ?_) (fun h13 => ?_)
              · have e12 := bif_t h13 e12
                refine PC.region ?_
                refine PO.run 3 rfl ?_
                refine Exists.elim (bindI_some e12) (fun y22 hq => ?_)
                have h14 := hq.1
                have h15 := hq.2.1
                have e12 := hq.2.2
                clear hq
                refine PO.same rfl (indexAddr_ok Try.underlying22 rfl rfl rfl h14 (map_at h15)) rfl ?_
                refine PO.runK 2 [0, 1, 2] [] (es := [(0, .list 13 (List.map cGItem a0) none), (2, .val (.int .i64 0)), (3, .val (.int .i64 v3)), (4, .val (.int .i64 v4)), (5, .ptr 0 0), (6, .ptr 1 0), (7, .ptr 2 0), (12, .list 13 (List.map cGItem a0) none), (13, .val (.int .i64 (a0.length : Int))), (14, .val (.int .i64 v4))]) (fr' := [⟨0, (cGItem y8)⟩, ⟨0, (cGItem y22)⟩, ⟨0, [.val (.int .i64 0), .val (.string ByteArray.empty), .val (.int .i64 0), .val (.int .i64 0), .val (.int .i64 0), .val (.int .i64 0), .val (.int .i64 0), .val (.int .i64 0), .val (.int .i64 0), .val (.int .i64 0), .val (.bool false), .val (.int .i64 0), .val (.int .i64 0)]⟩]) (tk' := []) (by kernel_rfl) ?_
                refine PO.nil ?_
                obtain rfl := Option.some.inj e12
                exact PC.skip (joinKP.end ⟨y22.kind, y22.font, y22.size, y22.rune, y22.width, y22.height, y22.depth, y22.stretch, y22.shrink, y22.value, y22.flag, y22.from_, y22.to_, Weak.one [0, 1, 2] [] (by kernel_rfl), rfl⟩)
              · have e12 := bif_f h13 e12
                refine PC.noop ?_
                obtain rfl := Option.some.inj e12
                exact PC.skip (joinKP.end ⟨0, ByteArray.empty, 0, 0, 0, 0, 0, 0, 0, 0, false, 0, 0, Weak.one [0, 1, 2] [] (by kernel_rfl), rfl⟩)
            · rintro _ ⟨v9, v10, v11, v12, v13, v14, v15, v16, v17, v18, v19, v20, v21, w16, rfl⟩
              refine PC.weak w16 ?_
              refine PC.assoc ?_
              refine PC.region ?_
              refine PO.run 3 rfl ?_
              refine PO.same rfl (len_ok Try.underlying22 rfl (List.length_map _)) rfl ?_
              refine PO.run 1 rfl ?_
              refine PO.nil ?_
              refine Exists.elim (bind_some e8) (fun x17 hq => ?_)
              have e18 := hq.1
              have e8 := hq.2
              clear hq
              refine PC.join (fun s => ∃ (v23 : Int) (v24 : ByteArray) (v25 : Int) (v26 : Int) (v27 : Int) (v28 : Int) (v29 : Int) (v30 : Int) (v31 : Int) (v32 : Int) (v33 : Bool) (v34 : Int) (v35 : Int), Weak s (PS.of 81 [(0, .list 13 (List.map cGItem a0) none), (2, .val (.int .i64 0)), (3, .val (.int .i64 v3)), (5, .ptr 0 0), (6, .ptr 1 0), (7, .ptr 2 0), (12, .list 13 (List.map cGItem a0) none), (13, .val (.int .i64 (a0.length : Int))), (14, .val (.int .i64 v4))] [⟨0, (cGItem y8)⟩, ⟨0, [.val (.int .i64 v9), .val (.string v10), .val (.int .i64 v11), .val (.int .i64 v12), .val (.int .i64 v13), .val (.int .i64 v14), .val (.int .i64 v15), .val (.int .i64 v16), .val (.int .i64 v17), .val (.int .i64 v18), .val (.bool v19), .val (.int .i64 v20), .val (.int .i64 v21)]⟩, ⟨0, [.val (.int .i64 v23), .val (.string v24), .val (.int .i64 v25), .val (.int .i64 v26), .val (.int .i64 v27), .val (.int .i64 v28), .val (.int .i64 v29), .val (.int .i64 v30), .val (.int .i64 v31), .val (.int .i64 v32), .val (.bool v33), .val (.int .i64 v34), .val (.int .i64 v35)]⟩] [] 0 0) ∧ (v23, v24, v25, v26, v27, v28, v29, v30, v31, v32, v33, v34, v35) = x17) ?_ ?_
              · refine PC.cond rfl (fun h19 => ?_) (fun h19 => ?_)
                · have e18 := bif_t h19 e18
                  refine PC.region ?_
                  refine PO.run 3 rfl ?_
                  refine Exists.elim (bindI_some e18) (fun y36 hq => ?_)
                  have h20 := hq.1
                  have h21 := hq.2.1
                  have e18 := hq.2.2
                  clear hq
                  refine PO.same rfl (indexAddr_ok Try.underlying22 rfl rfl rfl h20 (map_at h21)) rfl ?_
                  refine PO.runK 2 [0, 1, 2] [] (es := [(0, .list 13 (List.map cGItem a0) none), (2, .val (.int .i64 0)), (3, .val (.int .i64 v3)), (5, .ptr 0 0), (6, .ptr 1 0), (7, .ptr 2 0), (12, .list 13 (List.map cGItem a0) none), (13, .val (.int .i64 (a0.length : Int))), (14, .val (.int .i64 v4))]) (fr' := [⟨0, (cGItem y8)⟩, ⟨0, [.val (.int .i64 v9), .val (.string v10), .val (.int .i64 v11), .val (.int .i64 v12), .val (.int .i64 v13), .val (.int .i64 v14), .val (.int .i64 v15), .val (.int .i64 v16), .val (.int .i64 v17), .val (.int .i64 v18), .val (.bool v19), .val (.int .i64 v20), .val (.int .i64 v21)]⟩, ⟨0, (cGItem y36)⟩]) (tk' := []) (by kernel_rfl) ?_
                  refine PO.nil ?_
                  obtain rfl := Option.some.inj e18
                  exact PC.skip (joinKP.end ⟨y36.kind, y36.font, y36.size, y36.rune, y36.width, y36.height, y36.depth, y36.stretch, y36.shrink, y36.value, y36.flag, y36.from_, y36.to_, Weak.one [0, 1, 2] [] (by kernel_rfl), rfl⟩)
                · have e18 := bif_f h19 e18
                  refine PC.noop ?_
                  obtain rfl := Option.some.inj e18
                  exact PC.skip (joinKP.end ⟨0, ByteArray.empty, 0, 0, 0, 0, 0, 0, 0, 0, false, 0, 0, Weak.one [0, 1, 2] [] (by kernel_rfl), rfl⟩)
              · rintro _ ⟨v23, v24, v25, v26, v27, v28, v29, v30, v31, v32, v33, v34, v35, w22, rfl⟩
                refine PC.weak w22 ?_
                refine PC.assoc ?_
                refine PC.region ?_
                refine PO.run 3 rfl ?_
                refine Exists.elim (bind_some e8) (fun r23 hq => ?_)
                have e24 := hq.1
                have e8 := hq.2
                clear hq
                refine PO.call rfl rfl rfl rfl (ks := []) (ts := []) (fr1 := []) rfl rfl rfl trivial (L14 k y8 (GItem.mk v9 v10 v11 v12 v13 v14 v15 v16 v17 v18 v19 v20 v21) (GItem.mk v23 v24 v25 v26 v27 v28 v29 v30 v31 v32 v33 v34 v35) _ e24) ?_
                rintro _ _ _ ⟨rfl, rfl, rfl⟩
                refine ⟨_, _, rfl, rfl, ?_⟩
                refine PO.run 1 rfl ?_
                refine PO.nil ?_
                refine PC.cond rfl (fun h25 => ?_) (fun h25 => ?_)
                · have e8 := bif_t h25 e8
                  refine PC.assoc ?_
                  refine PC.run (n := 2) rfl ?_
                  obtain rfl := Option.some.inj e8
                  obtain rfl := Option.some.inj e3
                  obtain rfl := Option.some.inj hF
                  exact PC.ret (blockJK.back (loopKP.ret (blockJK.back (retSK [] [] (by kernel_rfl) (.refl _) ⟨rfl, rfl, rfl⟩))))
                · have e8 := bif_f h25 e8
                  refine PC.noop ?_
                  refine PC.assoc ?_
                  refine PC.run (n := 4) rfl ?_
                  refine PC.cond rfl (fun h26 => ?_) (fun h26 => ?_)
                  · have e8 := bif_t h26 e8
                    obtain rfl := Option.some.inj e8
                    exact PC.exit (blockJK.here ⟨v3, Weak.one [] [] (by kernel_rfl), rfl⟩)
                  · have e8 := bif_f h26 e8
                    refine PC.noop ?_
                    refine PC.assoc ?_
                    refine PC.region ?_
                    refine PO.run 5 rfl ?_
                    refine Exists.elim (bind_some e8) (fun x27 hq => ?_)
                    have e28 := hq.1
                    have e8 := hq.2
                    clear hq
                    refine PO.cut 7 (fun s => ∃ (v37 : Bool), Weak s (PS.of 81 [(0, .list 13 (List.map cGItem a0) none), (2, .val (.int .i64 0)), (3, .val (.int .i64 v3)), (5, .ptr 0 0), (12, .list 13 (List.map cGItem a0) none), (13, .val (.int .i64 (a0.length : Int))), (14, .val (.int .i64 v4)), (55, .val (.bool v37))] [⟨0, (cGItem y8)⟩] [] 0 0) ∧ v37 = x27) ?_ ?_
                    · refine PO.case (t := 48) rfl rfl (fun h29 => ?_) (fun h29 => ?_)
                      · have e28 := bif_t h29 e28
                        refine PO.run 6 rfl ?_
                        refine PO.same rfl (pickT_ok rfl rfl rfl) rfl ?_
                        refine PO.nil ?_
                        obtain rfl := Option.some.inj e28
                        exact ⟨true, Weak.one [0] [] (by kernel_rfl), rfl⟩
                      · have e28 := bif_f h29 e28
                        refine PO.run 4 rfl ?_
                        refine Exists.elim (bind_some e28) (fun r30 hq => ?_)
                        have e31 := hq.1
                        have e28 := hq.2
                        clear hq
                        refine PO.call rfl rfl rfl rfl (ks := []) (ts := []) (fr1 := []) rfl rfl rfl trivial (L15 k y8.to_ y8.from_ 65536 _ e31) ?_
                        rintro _ _ _ ⟨rfl, rfl, rfl⟩
                        refine ⟨_, _, rfl, rfl, ?_⟩
                        refine PO.run 1 rfl ?_
                        refine PO.same rfl (pickF_ok rfl rfl rfl) rfl ?_
                        refine PO.nil ?_
                        obtain rfl := Option.some.inj e28
                        exact ⟨!r30, Weak.one [0] [] (by kernel_rfl), rfl⟩
                    · rintro _ ⟨v37, w32, rfl⟩
                      refine PO.weak w32 ?_
                      refine PO.nil ?_
                      refine PC.cond rfl (fun h33 => ?_) (fun h33 => ?_)
                      · have e8 := bif_t h33 e8
                        refine PC.assoc ?_
                        refine PC.run (n := 2) rfl ?_
                        obtain rfl := Option.some.inj e8
                        obtain rfl := Option.some.inj e3
                        obtain rfl := Option.some.inj hF
                        exact PC.ret (blockJK.back (loopKP.ret (blockJK.back (retSK [] [] (by kernel_rfl) (.refl _) ⟨rfl, rfl, rfl⟩))))
                      · have e8 := bif_f h33 e8
                        refine PC.noop ?_
                        refine PC.lone ?_
                        refine PC.run (n := 4) rfl ?_
                        obtain rfl := Option.some.inj e8
                        exact PC.skip (blockJK.end ⟨y8.to_, Weak.one [] [] (by kernel_rfl), rfl⟩)
          · rintro _ ⟨v7, w34, rfl⟩
            refine PC.weak w34 ?_
            have e3 := elim_l e3
            refine PC.lone ?_
            refine PC.run (n := 3) rfl ?_
            exact PC.skip (loopKP.mk (Nat.lt_succ_self _) ⟨v7, w (v4 + 1), Weak.one [] [] (by kernel_rfl), e3⟩)
        · have e3 := bif_f h6 e3
          obtain rfl := Option.some.inj e3
          exact PC.exit (loopKP.exit (blockJK.here ⟨Weak.one [] [] (by kernel_rfl), rfl⟩))
    · rintro _ ⟨w35, rfl⟩
      refine PC.weak w35 ?_
      have hF := elim_l hF
      refine PC.assoc ?_
      refine PC.region ?_
      refine PO.run 1 rfl ?_
      refine PO.same rfl (len_ok Try.underlying22 rfl (List.length_map _)) rfl ?_
      refine PO.run 1 rfl ?_
      refine PO.nil ?_
      refine PC.assoc ?_
      refine PC.region ?_
      refine PO.run 3 rfl ?_
      refine Exists.elim (bind_some hF) (fun x36 hq => ?_)
      have e37 := hq.1
      have hF := hq.2
      clear hq
      refine PO.cut 17 (fun s => ∃ (v38 : Bool), Weak s (PS.of 81 [(2, .val (.int .i64 0)), (80, .val (.bool v38))] [] [] 0 0) ∧ v38 = x36) ?_ ?_
      · refine PO.case (t := 63) rfl rfl (fun h38 => ?_) (fun h38 => ?_)
        · have e37 := bif_t h38 e37
          refine PO.run 3 rfl ?_
          refine Exists.elim (bindI_some e37) (fun y39 hq => ?_)
          have h39 := hq.1
          have h40 := hq.2.1
          have e37 := hq.2.2
          clear hq
          refine PO.same rfl (indexAddr_ok Try.underlying22 rfl rfl rfl h39 (map_at h40)) rfl ?_
          refine PO.run 4 rfl ?_
          refine Exists.elim (bind_some e37) (fun x41 hq => ?_)
          have e42 := hq.1
          have e37 := hq.2
          clear hq
          refine PO.cut 9 (fun s => ∃ (v40 : Bool), Weak s (PS.of 81 [(2, .val (.int .i64 0)), (80, .val (.bool v40))] [] [] 0 0) ∧ v40 = x41) ?_ ?_
          · refine PO.case (t := 71) rfl rfl (fun h43 => ?_) (fun h43 => ?_)
            · have e42 := bif_t h43 e42
              refine PO.run 7 rfl ?_
              refine PO.same rfl (pickT_ok rfl rfl rfl) rfl ?_
              refine PO.same rfl (pickT_ok rfl rfl rfl) rfl ?_
              refine PO.nil ?_
              obtain rfl := Option.some.inj e42
              exact ⟨true, Weak.one [] [] (by kernel_rfl), rfl⟩
            · have e42 := bif_f h43 e42
              refine PO.run 3 rfl ?_
              refine Exists.elim (bindI_some e42) (fun y41 hq => ?_)
              have h44 := hq.1
              have h45 := hq.2.1
              have e42 := hq.2.2
              clear hq
              refine PO.same rfl (indexAddr_ok Try.underlying22 rfl rfl rfl h44 (map_at h45)) rfl ?_
              refine PO.run 3 rfl ?_
              refine PO.same rfl (pickF_ok rfl rfl rfl) rfl ?_
              refine PO.same rfl (pickT_ok rfl rfl rfl) rfl ?_
              refine PO.nil ?_
              obtain rfl := Option.some.inj e42
              exact ⟨y41.value != (-10000), Weak.one [] [] (by kernel_rfl), rfl⟩
          · rintro _ ⟨v40, w46, rfl⟩
            refine PO.weak w46 ?_
            refine PO.nil ?_
            obtain rfl := Option.some.inj e37
            exact ⟨v40, Weak.one [] [] (by kernel_rfl), rfl⟩
        · have e37 := bif_f h38 e37
          refine PO.run 16 rfl ?_
          refine PO.same rfl (pickF_ok rfl rfl rfl) rfl ?_
          refine PO.nil ?_
          obtain rfl := Option.some.inj e37
          exact ⟨false, Weak.one [] [] (by kernel_rfl), rfl⟩
      · rintro _ ⟨v38, w47, rfl⟩
        refine PO.weak w47 ?_
        refine PO.nil ?_
        refine PC.cond rfl (fun h48 => ?_) (fun h48 => ?_)
        · have hF := bif_t h48 hF
          refine PC.assoc ?_
          refine PC.run (n := 2) rfl ?_
          obtain rfl := Option.some.inj hF
          exact PC.ret (retSK [] [] (by kernel_rfl) (.refl _) ⟨rfl, rfl, rfl⟩)
        · have hF := bif_f h48 hF
          refine PC.noop ?_
          refine PC.run (n := 2) rfl ?_
          obtain rfl := Option.some.inj hF
          exact PC.ret' (retSK [] [] (by kernel_rfl) (.refl _) ⟨rfl, rfl, rfl⟩)

/-! 16 platen/platenref13.Forced -/
def F16 (k : Nat) (a0 : GItem) : Option Bool :=
Option.bind (α := Bool) (bif a0.kind == 4 then (some (decide (a0.value ≤ (-10000)))) else (some false)) fun (v1 : Bool) =>
some v1
theorem L16 (k : Nat) (a0 : GItem) (r : Bool) (hF : F16 k a0 = some r) : PF Try.prog orc 16 [.agg (cGItem a0)] [] [] (fun p fr tk => p = .val (.bool r) ∧ fr = [] ∧ tk = []) := by
  unfold F16 at hF
  refine PF.enterS Try.func16 rfl rfl rfl (by kernel_rfl) rfl ?_
  refine PC.region ?_
  refine PO.runK 2 [0] [] (es := [(1, .ptr 0 0), (2, .val (.bool false))]) (fr' := [⟨0, (cGItem a0)⟩]) (tk' := []) (by kernel_rfl) ?_
  refine PO.nil ?_
  refine PC.region ?_
  refine PO.run 4 rfl ?_
  refine Exists.elim (bind_some hF) (fun x1 hq => ?_)
  have e2 := hq.1
  have hF := hq.2
  clear hq
  refine PO.cut 4 (fun s => ∃ (v1 : Bool), Weak s (PS.of 11 [(2, .val (.bool false)), (10, .val (.bool v1))] [] [] 0 0) ∧ v1 = x1) ?_ ?_
  · refine PO.case (t := 6) rfl rfl (fun h3 => ?_) (fun h3 => ?_)
    · have e2 := bif_t h3 e2
      refine PO.run 3 rfl ?_
      refine PO.same rfl (pickT_ok rfl rfl rfl) rfl ?_
      refine PO.nil ?_
      obtain rfl := Option.some.inj e2
      exact ⟨decide (a0.value ≤ (-10000)), Weak.one [] [] (by kernel_rfl), rfl⟩
    · have e2 := bif_f h3 e2
      refine PO.run 3 rfl ?_
      refine PO.same rfl (pickF_ok rfl rfl rfl) rfl ?_
      refine PO.nil ?_
      obtain rfl := Option.some.inj e2
      exact ⟨false, Weak.one [] [] (by kernel_rfl), rfl⟩
  · rintro _ ⟨v1, w4, rfl⟩
    refine PO.weak w4 ?_
    refine PO.run 1 rfl ?_
    refine PO.nil ?_
    obtain rfl := Option.some.inj hF
    exact PC.ret' (retSK [] [] (by kernel_rfl) (.refl _) ⟨rfl, rfl, rfl⟩)

/-! 17 platen/platenref13.kern -/
def F17 (k : Nat) (a0 : List GItem) (a1 : Int) : Option Bool :=
Option.bind (α := Bool) (bif a1 == 0 then (some true) else (Option.bind (α := Bool) (bif decide ((w (a1 + 1)) ≥ (a0.length : Int)) then (some true) else (bindI a0 (w (a1 - 1)) fun y3 =>
Option.bind (α := Bool) (bif y3.kind != 1 then (some true) else (bindI a0 (w (a1 + 1)) fun y5 =>
some (y5.kind != 1))) fun (v4 : Bool) =>
some v4)) fun (v2 : Bool) =>
some v2)) fun (v1 : Bool) =>
bif v1 then (some false) else (bindI a0 a1 fun y6 =>
bindI a0 a1 fun y7 =>
Option.bind (α := Bool) (bif (y7.kind == 2 && (y7.font == ByteArray.empty && (y7.size == 0 && (y7.rune == 0 && (y7.width == y6.width && (y7.height == 0 && (y7.depth == 0 && (y7.stretch == 0 && (y7.shrink == 0 && (y7.value == 0 && (y7.flag == false && (y7.from_ == 0 && (y7.to_ == 0 && true))))))))))))) then (Option.bind (α := Bool) (bif y6.width != 0 then (Option.bind (α := Bool) (bif decide (y6.width ≤ 1099511627776) then (bindI a0 (w (a1 - 1)) fun y11 =>
bindI a0 (w (a1 + 1)) fun y12 =>
some (decide (y6.width ≥ (w (0 - (if y12.width < y11.width then y12.width else y11.width)))))) else (some false)) fun (v10 : Bool) =>
some v10) else (some false)) fun (v9 : Bool) =>
some v9) else (some false)) fun (v8 : Bool) =>
some v8)
theorem L17 (k : Nat) (a0 : List GItem) (a1 : Int) (r : Bool) (hF : F17 k a0 a1 = some r) : PF Try.prog orc 17 [.list 13 (List.map cGItem a0) none, .val (.int .i64 a1)] [] [] (fun p fr tk => p = .val (.bool r) ∧ fr = [] ∧ tk = []) := by
  unfold F17 at hF
  refine PF.enterS Try.func17 rfl rfl rfl (by kernel_rfl) rfl ?_
  refine PC.run (n := 2) rfl ?_
  refine PC.assoc ?_
  refine PC.region ?_
  refine PO.run 3 rfl ?_
  refine Exists.elim (bind_some hF) (fun x1 hq => ?_)
  have e2 := hq.1
  have hF := hq.2
  clear hq
  refine PO.cut 24 (fun s => ∃ (v1 : Bool), Weak s (PS.of 71 [(0, .list 13 (List.map cGItem a0) none), (1, .val (.int .i64 a1)), (4, .val (.bool false)), (32, .val (.bool v1))] [] [] 0 0) ∧ v1 = x1) ?_ ?_
  · refine PO.case (t := 8) rfl rfl (fun h3 => ?_) (fun h3 => ?_)
    · have e2 := bif_t h3 e2
      refine PO.run 5 rfl ?_
      refine PO.same rfl (pickT_ok rfl rfl rfl) rfl ?_
      refine PO.run 8 rfl ?_
      refine PO.same rfl (pickT_ok rfl rfl rfl) rfl ?_
      refine PO.run 8 rfl ?_
      refine PO.same rfl (pickT_ok rfl rfl rfl) rfl ?_
      refine PO.nil ?_
      obtain rfl := Option.some.inj e2
      exact ⟨true, Weak.one [] [] (by kernel_rfl), rfl⟩
    · have e2 := bif_f h3 e2
      refine PO.run 3 rfl ?_
      refine PO.same rfl (len_ok Try.underlying22 rfl (List.length_map _)) rfl ?_
      refine PO.run 1 rfl ?_
      refine PO.same rfl (pickF_ok rfl rfl rfl) rfl ?_
      refine PO.run 1 rfl ?_
      refine Exists.elim (bind_some e2) (fun x4 hq => ?_)
      have e5 := hq.1
      have e2 := hq.2
      clear hq
      refine PO.cut 17 (fun s => ∃ (v2 : Bool), Weak s (PS.of 71 [(0, .list 13 (List.map cGItem a0) none), (1, .val (.int .i64 a1)), (4, .val (.bool false)), (32, .val (.bool v2))] [] [] 0 0) ∧ v2 = x4) ?_ ?_
      · refine PO.case (t := 15) rfl rfl (fun h6 => ?_) (fun h6 => ?_)
        · have e5 := bif_t h6 e5
          refine PO.run 7 rfl ?_
          refine PO.same rfl (pickT_ok rfl rfl rfl) rfl ?_
          refine PO.run 8 rfl ?_
          refine PO.same rfl (pickT_ok rfl rfl rfl) rfl ?_
          refine PO.nil ?_
          obtain rfl := Option.some.inj e5
          exact ⟨true, Weak.one [] [] (by kernel_rfl), rfl⟩
        · have e5 := bif_f h6 e5
          refine PO.run 3 rfl ?_
          refine Exists.elim (bindI_some e5) (fun y3 hq => ?_)
          have h7 := hq.1
          have h8 := hq.2.1
          have e5 := hq.2.2
          clear hq
          refine PO.same rfl (indexAddr_ok Try.underlying22 rfl rfl rfl h7 (map_at h8)) rfl ?_
          refine PO.run 3 rfl ?_
          refine PO.same rfl (pickF_ok rfl rfl rfl) rfl ?_
          refine PO.run 1 rfl ?_
          refine Exists.elim (bind_some e5) (fun x9 hq => ?_)
          have e10 := hq.1
          have e5 := hq.2
          clear hq
          refine PO.cut 8 (fun s => ∃ (v4 : Bool), Weak s (PS.of 71 [(0, .list 13 (List.map cGItem a0) none), (1, .val (.int .i64 a1)), (4, .val (.bool false)), (32, .val (.bool v4))] [] [] 0 0) ∧ v4 = x9) ?_ ?_
          · refine PO.case (t := 24) rfl rfl (fun h11 => ?_) (fun h11 => ?_)
            · have e10 := bif_t h11 e10
              refine PO.run 7 rfl ?_
              refine PO.same rfl (pickT_ok rfl rfl rfl) rfl ?_
              refine PO.nil ?_
              obtain rfl := Option.some.inj e10
              exact ⟨true, Weak.one [] [] (by kernel_rfl), rfl⟩
            · have e10 := bif_f h11 e10
              refine PO.run 3 rfl ?_
              refine Exists.elim (bindI_some e10) (fun y5 hq => ?_)
              have h12 := hq.1
              have h13 := hq.2.1
              have e10 := hq.2.2
              clear hq
              refine PO.same rfl (indexAddr_ok Try.underlying22 rfl rfl rfl h12 (map_at h13)) rfl ?_
              refine PO.run 3 rfl ?_
              refine PO.same rfl (pickF_ok rfl rfl rfl) rfl ?_
              refine PO.nil ?_
              obtain rfl := Option.some.inj e10
              exact ⟨y5.kind != 1, Weak.one [] [] (by kernel_rfl), rfl⟩
          · rintro _ ⟨v4, w14, rfl⟩
            refine PO.weak w14 ?_
            refine PO.nil ?_
            obtain rfl := Option.some.inj e5
            exact ⟨v4, Weak.one [] [] (by kernel_rfl), rfl⟩
      · rintro _ ⟨v2, w15, rfl⟩
        refine PO.weak w15 ?_
        refine PO.nil ?_
        obtain rfl := Option.some.inj e2
        exact ⟨v2, Weak.one [] [] (by kernel_rfl), rfl⟩
  · rintro _ ⟨v1, w16, rfl⟩
    refine PO.weak w16 ?_
    refine PO.nil ?_
    refine PC.cond rfl (fun h17 => ?_) (fun h17 => ?_)
    · have hF := bif_t h17 hF
      refine PC.assoc ?_
      refine PC.run (n := 2) rfl ?_
      obtain rfl := Option.some.inj hF
      exact PC.ret (retSK [] [] (by kernel_rfl) (.refl _) ⟨rfl, rfl, rfl⟩)
    · have hF := bif_f h17 hF
      refine PC.noop ?_
      refine PC.region ?_
      refine PO.run 2 rfl ?_
      refine Exists.elim (bindI_some hF) (fun y6 hq => ?_)
      have h18 := hq.1
      have h19 := hq.2.1
      have hF := hq.2.2
      clear hq
      refine PO.same rfl (indexAddr_ok Try.underlying22 rfl rfl rfl h18 (map_at h19)) rfl ?_
      refine PO.run 3 rfl ?_
      refine PO.nil ?_
      refine PC.drawn (order := [0, 1, 2, 3, 4, 5, 6, 7, 8, 9, 10, 11, 12, 13, 14, 15, 16, 17, 18, 19, 20, 21, 22, 23, 24, 25, 26, 27, 28, 29, 30, 31, 32, 33]) (by kernel_rfl) ?_
      refine PO.run 2 rfl ?_
      refine Exists.elim (bindI_some hF) (fun y7 hq => ?_)
      have h20 := hq.1
      have h21 := hq.2.1
      have hF := hq.2.2
      clear hq
      refine PO.same rfl (indexAddr_ok Try.underlying22 rfl rfl rfl h20 (map_at h21)) rfl ?_
      refine PO.runK 3 [] [] (es := [(0, .list 13 (List.map cGItem a0) none), (1, .val (.int .i64 a1)), (4, .val (.bool false)), (5, .val (.int .i64 y6.width)), (41, .agg (cGItem y7)), (43, .agg [.val (.int .i64 2), .val (.string ByteArray.empty), .val (.int .i64 0), .val (.int .i64 0), .val (.int .i64 y6.width), .val (.int .i64 0), .val (.int .i64 0), .val (.int .i64 0), .val (.int .i64 0), .val (.int .i64 0), .val (.bool false), .val (.int .i64 0), .val (.int .i64 0)])]) (fr' := []) (tk' := []) (by kernel_rfl) ?_
      refine PO.same rfl (aggEq_ok (v := .bool (y7.kind == 2 && (y7.font == ByteArray.empty && (y7.size == 0 && (y7.rune == 0 && (y7.width == y6.width && (y7.height == 0 && (y7.depth == 0 && (y7.stretch == 0 && (y7.shrink == 0 && (y7.value == 0 && (y7.flag == false && (y7.from_ == 0 && (y7.to_ == 0 && true)))))))))))))) rfl rfl rfl rfl rfl rfl rfl (by kernel_rfl)) rfl ?_
      refine PO.run 1 rfl ?_
      refine Exists.elim (bind_some hF) (fun x22 hq => ?_)
      have e23 := hq.1
      have hF := hq.2
      clear hq
      refine PO.cut 25 (fun s => ∃ (v8 : Bool), Weak s (PS.of 71 [(4, .val (.bool false)), (70, .val (.bool v8))] [] [] 0 0) ∧ v8 = x22) ?_ ?_
      · refine PO.case (t := 45) rfl rfl (fun h24 => ?_) (fun h24 => ?_)
        · have e23 := bif_t h24 e23
          refine PO.run 2 rfl ?_
          refine PO.same rfl (pickT_ok rfl rfl rfl) rfl ?_
          refine PO.run 1 rfl ?_
          refine Exists.elim (bind_some e23) (fun x25 hq => ?_)
          have e26 := hq.1
          have e23 := hq.2
          clear hq
          refine PO.cut 21 (fun s => ∃ (v9 : Bool), Weak s (PS.of 71 [(4, .val (.bool false)), (70, .val (.bool v9))] [] [] 0 0) ∧ v9 = x25) ?_ ?_
          · refine PO.case (t := 49) rfl rfl (fun h27 => ?_) (fun h27 => ?_)
            · have e26 := bif_t h27 e26
              refine PO.run 2 rfl ?_
              refine PO.same rfl (pickT_ok rfl rfl rfl) rfl ?_
              refine PO.run 1 rfl ?_
              refine Exists.elim (bind_some e26) (fun x28 hq => ?_)
              have e29 := hq.1
              have e26 := hq.2
              clear hq
              refine PO.cut 17 (fun s => ∃ (v10 : Bool), Weak s (PS.of 71 [(4, .val (.bool false)), (70, .val (.bool v10))] [] [] 0 0) ∧ v10 = x28) ?_ ?_
              · refine PO.case (t := 53) rfl rfl (fun h30 => ?_) (fun h30 => ?_)
                · have e29 := bif_t h30 e29
                  refine PO.run 4 rfl ?_
                  refine Exists.elim (bindI_some e29) (fun y11 hq => ?_)
                  have h31 := hq.1
                  have h32 := hq.2.1
                  have e29 := hq.2.2
                  clear hq
                  refine PO.same rfl (indexAddr_ok Try.underlying22 rfl rfl rfl h31 (map_at h32)) rfl ?_
                  refine PO.run 5 rfl ?_
                  refine Exists.elim (bindI_some e29) (fun y12 hq => ?_)
                  have h33 := hq.1
                  have h34 := hq.2.1
                  have e29 := hq.2.2
                  clear hq
                  refine PO.same rfl (indexAddr_ok Try.underlying22 rfl rfl rfl h33 (map_at h34)) rfl ?_
                  refine PO.run 5 rfl ?_
                  refine PO.same rfl (pickT_ok rfl rfl rfl) rfl ?_
                  refine PO.nil ?_
                  obtain rfl := Option.some.inj e29
                  exact ⟨decide (y6.width ≥ (w (0 - (if y12.width < y11.width then y12.width else y11.width)))), Weak.one [] [] (by kernel_rfl), rfl⟩
                · have e29 := bif_f h30 e29
                  refine PO.run 16 rfl ?_
                  refine PO.same rfl (pickF_ok rfl rfl rfl) rfl ?_
                  refine PO.nil ?_
                  obtain rfl := Option.some.inj e29
                  exact ⟨false, Weak.one [] [] (by kernel_rfl), rfl⟩
              · rintro _ ⟨v10, w35, rfl⟩
                refine PO.weak w35 ?_
                refine PO.nil ?_
                obtain rfl := Option.some.inj e26
                exact ⟨v10, Weak.one [] [] (by kernel_rfl), rfl⟩
            · have e26 := bif_f h27 e26
              refine PO.run 2 rfl ?_
              refine PO.same rfl (pickF_ok rfl rfl rfl) rfl ?_
              refine PO.run 17 rfl ?_
              refine PO.same rfl (pickF_ok rfl rfl rfl) rfl ?_
              refine PO.nil ?_
              obtain rfl := Option.some.inj e26
              exact ⟨false, Weak.one [] [] (by kernel_rfl), rfl⟩
          · rintro _ ⟨v9, w36, rfl⟩
            refine PO.weak w36 ?_
            refine PO.nil ?_
            obtain rfl := Option.some.inj e23
            exact ⟨v9, Weak.one [] [] (by kernel_rfl), rfl⟩
        · have e23 := bif_f h24 e23
          refine PO.run 2 rfl ?_
          refine PO.same rfl (pickF_ok rfl rfl rfl) rfl ?_
          refine PO.run 3 rfl ?_
          refine PO.same rfl (pickF_ok rfl rfl rfl) rfl ?_
          refine PO.run 17 rfl ?_
          refine PO.same rfl (pickF_ok rfl rfl rfl) rfl ?_
          refine PO.nil ?_
          obtain rfl := Option.some.inj e23
          exact ⟨false, Weak.one [] [] (by kernel_rfl), rfl⟩
      · rintro _ ⟨v8, w37, rfl⟩
        refine PO.weak w37 ?_
        refine PO.run 1 rfl ?_
        refine PO.nil ?_
        obtain rfl := Option.some.inj hF
        exact PC.ret' (retSK [] [] (by kernel_rfl) (.refl _) ⟨rfl, rfl, rfl⟩)

/-! 29 platen/platenref04.Width -/
def F29 (k : Nat) (a0 : Int) : Option Int :=
Option.bind (α := Bool) (bif decide (a0 < 0) then (some true) else (Option.bind (α := Bool) (bif decide (a0 > 1114111) then (some true) else (Option.bind (α := Bool) (bif decide (a0 ≥ 55296) then (some (decide (a0 ≤ 57343))) else (some false)) fun (v3 : Bool) =>
some v3)) fun (v2 : Bool) =>
some v2)) fun (v1 : Bool) =>
bif v1 then (some 0) else (bif decide (a0 < 128) then (some 1) else (bif decide (a0 < 2048) then (some 2) else (bif decide (a0 < 65536) then (some 3) else (some 4))))
theorem L29 (k : Nat) (a0 : Int) (r : Int) (hF : F29 k a0 = some r) : PF Try.prog orc 29 [.val (.int .i64 a0)] [] [] (fun p fr tk => p = .val (.int .i64 r) ∧ fr = [] ∧ tk = []) := by
  unfold F29 at hF
  refine PF.enterS Try.func29 rfl rfl rfl (by kernel_rfl) rfl ?_
  refine PC.run (n := 2) rfl ?_
  refine PC.assoc ?_
  refine PC.region ?_
  refine PO.run 3 rfl ?_
  refine Exists.elim (bind_some hF) (fun x1 hq => ?_)
  have e2 := hq.1
  have hF := hq.2
  clear hq
  refine PO.cut 11 (fun s => ∃ (v1 : Bool), Weak s (PS.of 23 [(0, .val (.int .i64 a0)), (2, .val (.int .i64 0)), (16, .val (.bool v1))] [] [] 0 0) ∧ v1 = x1) ?_ ?_
  · refine PO.case (t := 5) rfl rfl (fun h3 => ?_) (fun h3 => ?_)
    · have e2 := bif_t h3 e2
      refine PO.run 2 rfl ?_
      refine PO.same rfl (pickT_ok rfl rfl rfl) rfl ?_
      refine PO.run 7 rfl ?_
      refine PO.same rfl (pickT_ok rfl rfl rfl) rfl ?_
      refine PO.nil ?_
      obtain rfl := Option.some.inj e2
      exact ⟨true, Weak.one [] [] (by kernel_rfl), rfl⟩
    · have e2 := bif_f h3 e2
      refine PO.run 2 rfl ?_
      refine PO.same rfl (pickF_ok rfl rfl rfl) rfl ?_
      refine PO.run 1 rfl ?_
      refine Exists.elim (bind_some e2) (fun x4 hq => ?_)
      have e5 := hq.1
      have e2 := hq.2
      clear hq
      refine PO.cut 7 (fun s => ∃ (v2 : Bool), Weak s (PS.of 23 [(0, .val (.int .i64 a0)), (2, .val (.int .i64 0)), (16, .val (.bool v2))] [] [] 0 0) ∧ v2 = x4) ?_ ?_
      · refine PO.case (t := 9) rfl rfl (fun h6 => ?_) (fun h6 => ?_)
        · have e5 := bif_t h6 e5
          refine PO.run 6 rfl ?_
          refine PO.same rfl (pickT_ok rfl rfl rfl) rfl ?_
          refine PO.nil ?_
          obtain rfl := Option.some.inj e5
          exact ⟨true, Weak.one [] [] (by kernel_rfl), rfl⟩
        · have e5 := bif_f h6 e5
          refine PO.run 3 rfl ?_
          refine Exists.elim (bind_some e5) (fun x7 hq => ?_)
          have e8 := hq.1
          have e5 := hq.2
          clear hq
          refine PO.cut 4 (fun s => ∃ (v3 : Bool), Weak s (PS.of 23 [(0, .val (.int .i64 a0)), (2, .val (.int .i64 0)), (16, .val (.bool v3))] [] [] 0 0) ∧ v3 = x7) ?_ ?_
          · refine PO.case (t := 12) rfl rfl (fun h9 => ?_) (fun h9 => ?_)
            · have e8 := bif_t h9 e8
              refine PO.run 2 rfl ?_
              refine PO.same rfl (pickT_ok rfl rfl rfl) rfl ?_
              refine PO.same rfl (pickF_ok rfl rfl rfl) rfl ?_
              refine PO.nil ?_
              obtain rfl := Option.some.inj e8
              exact ⟨decide (a0 ≤ 57343), Weak.one [] [] (by kernel_rfl), rfl⟩
            · have e8 := bif_f h9 e8
              refine PO.run 2 rfl ?_
              refine PO.same rfl (pickF_ok rfl rfl rfl) rfl ?_
              refine PO.same rfl (pickF_ok rfl rfl rfl) rfl ?_
              refine PO.nil ?_
              obtain rfl := Option.some.inj e8
              exact ⟨false, Weak.one [] [] (by kernel_rfl), rfl⟩
          · rintro _ ⟨v3, w10, rfl⟩
            refine PO.weak w10 ?_
            refine PO.nil ?_
            obtain rfl := Option.some.inj e5
            exact ⟨v3, Weak.one [] [] (by kernel_rfl), rfl⟩
      · rintro _ ⟨v2, w11, rfl⟩
        refine PO.weak w11 ?_
        refine PO.nil ?_
        obtain rfl := Option.some.inj e2
        exact ⟨v2, Weak.one [] [] (by kernel_rfl), rfl⟩
  · rintro _ ⟨v1, w12, rfl⟩
    refine PO.weak w12 ?_
    refine PO.nil ?_
    refine PC.cond rfl (fun h13 => ?_) (fun h13 => ?_)
    · have hF := bif_t h13 hF
      refine PC.assoc ?_
      refine PC.run (n := 2) rfl ?_
      obtain rfl := Option.some.inj hF
      exact PC.ret (retSK [] [] (by kernel_rfl) (.refl _) ⟨rfl, rfl, rfl⟩)
    · have hF := bif_f h13 hF
      refine PC.noop ?_
      refine PC.assoc ?_
      refine PC.run (n := 3) rfl ?_
      refine PC.cond rfl (fun h14 => ?_) (fun h14 => ?_)
      · have hF := bif_t h14 hF
        refine PC.assoc ?_
        refine PC.run (n := 2) rfl ?_
        obtain rfl := Option.some.inj hF
        exact PC.ret (retSK [] [] (by kernel_rfl) (.refl _) ⟨rfl, rfl, rfl⟩)
      · have hF := bif_f h14 hF
        refine PC.noop ?_
        refine PC.assoc ?_
        refine PC.run (n := 3) rfl ?_
        refine PC.cond rfl (fun h15 => ?_) (fun h15 => ?_)
        · have hF := bif_t h15 hF
          refine PC.assoc ?_
          refine PC.run (n := 2) rfl ?_
          obtain rfl := Option.some.inj hF
          exact PC.ret (retSK [] [] (by kernel_rfl) (.refl _) ⟨rfl, rfl, rfl⟩)
        · have hF := bif_f h15 hF
          refine PC.noop ?_
          refine PC.assoc ?_
          refine PC.run (n := 3) rfl ?_
          refine PC.cond rfl (fun h16 => ?_) (fun h16 => ?_)
          · have hF := bif_t h16 hF
            refine PC.assoc ?_
            refine PC.run (n := 2) rfl ?_
            obtain rfl := Option.some.inj hF
            exact PC.ret (retSK [] [] (by kernel_rfl) (.refl _) ⟨rfl, rfl, rfl⟩)
          · have hF := bif_f h16 hF
            refine PC.noop ?_
            refine PC.run (n := 2) rfl ?_
            obtain rfl := Option.some.inj hF
            exact PC.ret' (retSK [] [] (by kernel_rfl) (.refl _) ⟨rfl, rfl, rfl⟩)

/-! 30 platen/platenref13.sized -/
def F30 (k : Nat) (a0 : Int) : Option Bool :=
Option.bind (α := Bool) (bif decide (a0 ≥ 1) then (some (decide (a0 ≤ 67108864))) else (some false)) fun (v1 : Bool) =>
some v1
theorem L30 (k : Nat) (a0 : Int) (r : Bool) (hF : F30 k a0 = some r) : PF Try.prog orc 30 [.val (.int .i64 a0)] [] [] (fun p fr tk => p = .val (.bool r) ∧ fr = [] ∧ tk = []) := by
  unfold F30 at hF
  refine PF.enterS Try.func30 rfl rfl rfl (by kernel_rfl) rfl ?_
  refine PC.run (n := 2) rfl ?_
  refine PC.region ?_
  refine PO.run 3 rfl ?_
  refine Exists.elim (bind_some hF) (fun x1 hq => ?_)
  have e2 := hq.1
  have hF := hq.2
  clear hq
  refine PO.cut 3 (fun s => ∃ (v1 : Bool), Weak s (PS.of 9 [(2, .val (.bool false)), (8, .val (.bool v1))] [] [] 0 0) ∧ v1 = x1) ?_ ?_
  · refine PO.case (t := 5) rfl rfl (fun h3 => ?_) (fun h3 => ?_)
    · have e2 := bif_t h3 e2
      refine PO.run 2 rfl ?_
      refine PO.same rfl (pickT_ok rfl rfl rfl) rfl ?_
      refine PO.nil ?_
      obtain rfl := Option.some.inj e2
      exact ⟨decide (a0 ≤ 67108864), Weak.one [] [] (by kernel_rfl), rfl⟩
    · have e2 := bif_f h3 e2
      refine PO.run 2 rfl ?_
      refine PO.same rfl (pickF_ok rfl rfl rfl) rfl ?_
      refine PO.nil ?_
      obtain rfl := Option.some.inj e2
      exact ⟨false, Weak.one [] [] (by kernel_rfl), rfl⟩
  · rintro _ ⟨v1, w4, rfl⟩
    refine PO.weak w4 ?_
    refine PO.run 1 rfl ?_
    refine PO.nil ?_
    obtain rfl := Option.some.inj hF
    exact PC.ret' (retSK [] [] (by kernel_rfl) (.refl _) ⟨rfl, rfl, rfl⟩)

/-! 31 platen/platenref13.wide -/
def F31 (k : Nat) (a0 : Int) : Option Bool :=
Option.bind (α := Bool) (bif decide (a0 ≥ 0) then (some (decide (a0 ≤ 1099511627776))) else (some false)) fun (v1 : Bool) =>
some v1
theorem L31 (k : Nat) (a0 : Int) (r : Bool) (hF : F31 k a0 = some r) : PF Try.prog orc 31 [.val (.int .i64 a0)] [] [] (fun p fr tk => p = .val (.bool r) ∧ fr = [] ∧ tk = []) := by
  unfold F31 at hF
  refine PF.enterS Try.func31 rfl rfl rfl (by kernel_rfl) rfl ?_
  refine PC.run (n := 2) rfl ?_
  refine PC.region ?_
  refine PO.run 3 rfl ?_
  refine Exists.elim (bind_some hF) (fun x1 hq => ?_)
  have e2 := hq.1
  have hF := hq.2
  clear hq
  refine PO.cut 3 (fun s => ∃ (v1 : Bool), Weak s (PS.of 9 [(2, .val (.bool false)), (8, .val (.bool v1))] [] [] 0 0) ∧ v1 = x1) ?_ ?_
  · refine PO.case (t := 5) rfl rfl (fun h3 => ?_) (fun h3 => ?_)
    · have e2 := bif_t h3 e2
      refine PO.run 2 rfl ?_
      refine PO.same rfl (pickT_ok rfl rfl rfl) rfl ?_
      refine PO.nil ?_
      obtain rfl := Option.some.inj e2
      exact ⟨decide (a0 ≤ 1099511627776), Weak.one [] [] (by kernel_rfl), rfl⟩
    · have e2 := bif_f h3 e2
      refine PO.run 2 rfl ?_
      refine PO.same rfl (pickF_ok rfl rfl rfl) rfl ?_
      refine PO.nil ?_
      obtain rfl := Option.some.inj e2
      exact ⟨false, Weak.one [] [] (by kernel_rfl), rfl⟩
  · rintro _ ⟨v1, w4, rfl⟩
    refine PO.weak w4 ?_
    refine PO.run 1 rfl ?_
    refine PO.nil ?_
    obtain rfl := Option.some.inj hF
    exact PC.ret' (retSK [] [] (by kernel_rfl) (.refl _) ⟨rfl, rfl, rfl⟩)

/-! 18 platen/platenref13.good -/
def F18 (k : Nat) (a0 : GItem) : Option Bool :=
bif a0.kind == 1 then (Option.bind (α := Bool) (bif (a0.kind == 1 && (a0.font == a0.font && (a0.size == a0.size && (a0.rune == a0.rune && (a0.width == a0.width && (a0.height == a0.height && (a0.depth == a0.depth && (a0.stretch == 0 && (a0.shrink == 0 && (a0.value == 0 && (a0.flag == false && (0 == 0 && (0 == 0 && true))))))))))))) then ((F29 k a0.rune).bind fun r5 =>
Option.bind (α := Bool) (bif decide (r5 > 0) then ((F30 k a0.size).bind fun r10 =>
Option.bind (α := Bool) (bif r10 then ((F31 k a0.width).bind fun r15 =>
Option.bind (α := Bool) (bif r15 then ((F31 k a0.height).bind fun r20 =>
Option.bind (α := Bool) (bif r20 then ((F31 k a0.depth).bind fun r25 =>
some r25) else (some false)) fun (v5 : Bool) =>
some v5) else (some false)) fun (v4 : Bool) =>
some v4) else (some false)) fun (v3 : Bool) =>
some v3) else (some false)) fun (v2 : Bool) =>
some v2) else (some false)) fun (v1 : Bool) =>
some v1) else (bif a0.kind == 3 then (Option.bind (α := Bool) (bif (a0.kind == 3 && (a0.font == a0.font && (a0.size == a0.size && (a0.rune == 0 && (a0.width == a0.width && (a0.height == 0 && (a0.depth == 0 && (a0.stretch == a0.stretch && (a0.shrink == a0.shrink && (a0.value == 0 && (a0.flag == false && (0 == 0 && (0 == 0 && true))))))))))))) then ((F30 k a0.size).bind fun r36 =>
Option.bind (α := Bool) (bif r36 then (Option.bind (α := Bool) (bif decide (a0.width ≥ 0) then (Option.bind (α := Bool) (bif decide (a0.width ≤ 67108864) then (Option.bind (α := Bool) (bif decide (a0.stretch ≥ 0) then (Option.bind (α := Bool) (bif decide (a0.stretch ≤ 67108864) then (Option.bind (α := Bool) (bif decide (a0.shrink ≥ 0) then (some (decide (a0.shrink ≤ a0.width))) else (some false)) fun (v12 : Bool) =>
some v12) else (some false)) fun (v11 : Bool) =>
some v11) else (some false)) fun (v10 : Bool) =>
some v10) else (some false)) fun (v9 : Bool) =>
some v9) else (some false)) fun (v8 : Bool) =>
some v8) else (some false)) fun (v7 : Bool) =>
some v7) else (some false)) fun (v6 : Bool) =>
some v6) else (bif a0.kind == 4 then (Option.bind (α := Bool) (bif decide (a0.value < (-10000)) then (some true) else (some (decide (a0.value > 10000)))) fun (v13 : Bool) =>
bif v13 then (some false) else (bif !a0.flag then (some (a0.kind == 4 && (a0.font == ByteArray.empty && (a0.size == 0 && (a0.rune == 0 && (a0.width == 0 && (a0.height == 0 && (a0.depth == 0 && (a0.stretch == 0 && (a0.shrink == 0 && (a0.value == a0.value && (a0.flag == false && (0 == 0 && (0 == 0 && true)))))))))))))) else (Option.bind (α := Bool) (bif (a0.kind == 4 && (a0.font == a0.font && (a0.size == a0.size && (a0.rune == 45 && (a0.width == a0.width && (a0.height == a0.height && (a0.depth == a0.depth && (a0.stretch == 0 && (a0.shrink == 0 && (a0.value == a0.value && (a0.flag == true && (0 == 0 && (0 == 0 && true))))))))))))) then (Option.bind (α := Bool) (bif decide (a0.value > (-10000)) then ((F30 k a0.size).bind fun r76 =>
Option.bind (α := Bool) (bif r76 then ((F31 k a0.width).bind fun r81 =>
Option.bind (α := Bool) (bif r81 then ((F31 k a0.height).bind fun r86 =>
Option.bind (α := Bool) (bif r86 then ((F31 k a0.depth).bind fun r91 =>
some r91) else (some false)) fun (v18 : Bool) =>
some v18) else (some false)) fun (v17 : Bool) =>
some v17) else (some false)) fun (v16 : Bool) =>
some v16) else (some false)) fun (v15 : Bool) =>
some v15) else (some false)) fun (v14 : Bool) =>
some v14))) else (some false)))
theorem L18 (k : Nat) (a0 : GItem) (r : Bool) (hF : F18 k a0 = some r) : PF Try.prog orc 18 [.agg (cGItem a0)] [] [] (fun p fr tk => p = .val (.bool r) ∧ fr = [] ∧ tk = []) := by
  unfold F18 at hF
  refine PF.enterS Try.func18 rfl rfl rfl (by kernel_rfl) rfl ?_
  refine PC.region ?_
  refine PO.runK 2 [0] [] (es := [(1, .ptr 0 0), (2, .val (.bool false))]) (fr' := [⟨0, (cGItem a0)⟩]) (tk' := []) (by kernel_rfl) ?_
  refine PO.nil ?_
  refine PC.region ?_
  refine PO.runK 3 [0, 1] [] (es := [(1, .ptr 0 0), (2, .val (.bool false)), (3, .ptr 1 0)]) (fr' := [⟨0, (cGItem a0)⟩, ⟨0, (cGItem a0)⟩]) (tk' := []) (by kernel_rfl) ?_
  refine PO.nil ?_
  refine PC.region ?_
  refine PO.runK 2 [0, 1] [] (es := [(1, .ptr 0 0), (2, .val (.bool false)), (3, .ptr 1 0)]) (fr' := [⟨0, (cGItem a0)⟩, ⟨0, [.val (.int .i64 a0.kind), .val (.string a0.font), .val (.int .i64 a0.size), .val (.int .i64 a0.rune), .val (.int .i64 a0.width), .val (.int .i64 a0.height), .val (.int .i64 a0.depth), .val (.int .i64 a0.stretch), .val (.int .i64 a0.shrink), .val (.int .i64 a0.value), .val (.bool a0.flag), .val (.int .i64 0), .val (.int .i64 a0.to_)]⟩]) (tk' := []) (by kernel_rfl) ?_
  refine PO.nil ?_
  refine PC.region ?_
  refine PO.runK 2 [0, 1] [] (es := [(1, .ptr 0 0), (2, .val (.bool false)), (3, .ptr 1 0)]) (fr' := [⟨0, (cGItem a0)⟩, ⟨0, [.val (.int .i64 a0.kind), .val (.string a0.font), .val (.int .i64 a0.size), .val (.int .i64 a0.rune), .val (.int .i64 a0.width), .val (.int .i64 a0.height), .val (.int .i64 a0.depth), .val (.int .i64 a0.stretch), .val (.int .i64 a0.shrink), .val (.int .i64 a0.value), .val (.bool a0.flag), .val (.int .i64 0), .val (.int .i64 0)]⟩]) (tk' := []) (by kernel_rfl) ?_
  refine PO.nil ?_
  refine PC.assoc ?_
  refine PC.run (n := 3) rfl ?_
  refine PC.block ?_
  refine PC.run (n := 3) rfl ?_
  refine PC.lone ?_
  refine PC.cond rfl (fun h1 => ?_) (fun h1 => ?_)
  · have hF := bif_t h1 hF
    refine PC.assoc ?_
    refine PC.region ?_
    refine PO.runK 14 [0] [] (es := [(1, .ptr 0 0), (2, .val (.bool false)), (11, .agg [.val (.int .i64 a0.kind), .val (.string a0.font), .val (.int .i64 a0.size), .val (.int .i64 a0.rune), .val (.int .i64 a0.width), .val (.int .i64 a0.height), .val (.int .i64 a0.depth), .val (.int .i64 a0.stretch), .val (.int .i64 a0.shrink), .val (.int .i64 a0.value), .val (.bool a0.flag), .val (.int .i64 0), .val (.int .i64 0)]), (24, .agg [.val (.int .i64 1), .val (.string a0.font), .val (.int .i64 a0.size), .val (.int .i64 a0.rune), .val (.int .i64 a0.width), .val (.int .i64 a0.height), .val (.int .i64 a0.depth), .val (.int .i64 0), .val (.int .i64 0), .val (.int .i64 0), .val (.bool false), .val (.int .i64 0), .val (.int .i64 0)])]) (fr' := [⟨0, (cGItem a0)⟩]) (tk' := []) (by kernel_rfl) ?_
    refine PO.same rfl (aggEq_ok (v := .bool (a0.kind == 1 && (a0.font == a0.font && (a0.size == a0.size && (a0.rune == a0.rune && (a0.width == a0.width && (a0.height == a0.height && (a0.depth == a0.depth && (a0.stretch == 0 && (a0.shrink == 0 && (a0.value == 0 && (a0.flag == false && (0 == 0 && (0 == 0 && true)))))))))))))) rfl rfl rfl rfl rfl rfl rfl (by kernel_rfl)) rfl ?_
    refine PO.run 1 rfl ?_
    refine Exists.elim (bind_some hF) (fun x2 hq => ?_)
    have e3 := hq.1
    have hF := hq.2
    clear hq
    refine PO.cut 25 (fun s => ∃ (v1 : Bool), Weak s (PS.of 162 [(2, .val (.bool false)), (51, .val (.bool v1))] [] [] 0 0) ∧ v1 = x2) ?_ ?_
    · refine PO.case (t := 26) rfl rfl (fun h4 => ?_) (fun h4 => ?_)
      · have e3 := bif_t h4 e3
        refine PO.run 2 rfl ?_
        refine Exists.elim (bind_some e3) (fun r5 hq => ?_)
        have e6 := hq.1
        have e3 := hq.2
        clear hq
        refine PO.call rfl rfl rfl rfl (ks := []) (ts := []) (fr1 := []) rfl rfl rfl trivial (L29 k a0.rune _ e6) ?_
        rintro _ _ _ ⟨rfl, rfl, rfl⟩
        refine ⟨_, _, rfl, rfl, ?_⟩
        refine PO.run 1 rfl ?_
        refine PO.same rfl (pickT_ok rfl rfl rfl) rfl ?_
        refine PO.run 1 rfl ?_
        refine Exists.elim (bind_some e3) (fun x7 hq => ?_)
        have e8 := hq.1
        have e3 := hq.2
        clear hq
        refine PO.cut 19 (fun s => ∃ (v2 : Bool), Weak s (PS.of 162 [(2, .val (.bool false)), (51, .val (.bool v2))] [] [] 0 0) ∧ v2 = x7) ?_ ?_
        · refine PO.case (t := 32) rfl rfl (fun h9 => ?_) (fun h9 => ?_)
          · have e8 := bif_t h9 e8
            refine PO.run 2 rfl ?_
            refine Exists.elim (bind_some e8) (fun r10 hq => ?_)
            have e11 := hq.1
            have e8 := hq.2
            clear hq
            refine PO.call rfl rfl rfl rfl (ks := []) (ts := []) (fr1 := []) rfl rfl rfl trivial (L30 k a0.size _ e11) ?_
            rintro _ _ _ ⟨rfl, rfl, rfl⟩
            refine ⟨_, _, rfl, rfl, ?_⟩
            refine PO.same rfl (pickT_ok rfl rfl rfl) rfl ?_
            refine PO.run 1 rfl ?_
            refine Exists.elim (bind_some e8) (fun x12 hq => ?_)
            have e13 := hq.1
            have e8 := hq.2
            clear hq
            refine PO.cut 14 (fun s => ∃ (v3 : Bool), Weak s (PS.of 162 [(2, .val (.bool false)), (51, .val (.bool v3))] [] [] 0 0) ∧ v3 = x12) ?_ ?_
            · refine PO.case (t := 37) rfl rfl (fun h14 => ?_) (fun h14 => ?_)
              · have e13 := bif_t h14 e13
                refine PO.run 2 rfl ?_
                refine Exists.elim (bind_some e13) (fun r15 hq => ?_)
                have e16 := hq.1
                have e13 := hq.2
                clear hq
                refine PO.call rfl rfl rfl rfl (ks := []) (ts := []) (fr1 := []) rfl rfl rfl trivial (L31 k a0.width _ e16) ?_
                rintro _ _ _ ⟨rfl, rfl, rfl⟩
                refine ⟨_, _, rfl, rfl, ?_⟩
                refine PO.same rfl (pickT_ok rfl rfl rfl) rfl ?_
                refine PO.run 1 rfl ?_
                refine Exists.elim (bind_some e13) (fun x17 hq => ?_)
                have e18 := hq.1
                have e13 := hq.2
                clear hq
                refine PO.cut 9 (fun s => ∃ (v4 : Bool), Weak s (PS.of 162 [(2, .val (.bool false)), (51, .val (.bool v4))] [] [] 0 0) ∧ v4 = x17) ?_ ?_
                · refine PO.case (t := 42) rfl rfl (fun h19 => ?_) (fun h19 => ?_)
                  · have e18 := bif_t h19 e18
                    refine PO.run 2 rfl ?_
                    refine Exists.elim (bind_some e18) (fun r20 hq => ?_)
                    have e21 := hq.1
                    have e18 := hq.2
                    clear hq
                    refine PO.call rfl rfl rfl rfl (ks := []) (ts := []) (fr1 := []) rfl rfl rfl trivial (L31 k a0.height _ e21) ?_
                    rintro _ _ _ ⟨rfl, rfl, rfl⟩
                    refine ⟨_, _, rfl, rfl, ?_⟩
                    refine PO.same rfl (pickT_ok rfl rfl rfl) rfl ?_
                    refine PO.run 1 rfl ?_
                    refine Exists.elim (bind_some e18) (fun x22 hq => ?_)
                    have e23 := hq.1
                    have e18 := hq.2
                    clear hq
                    refine PO.cut 4 (fun s => ∃ (v5 : Bool), Weak s (PS.of 162 [(2, .val (.bool false)), (51, .val (.bool v5))] [] [] 0 0) ∧ v5 = x22) ?_ ?_
                    · refine PO.case (t := 47) rfl rfl (fun h24 => ?_) (fun h24 => ?_)
                      · have e23 := bif_t h24 e23
                        refine PO.run 2 rfl ?_
                        refine Exists.elim (bind_some e23) (fun r25 hq => ?_)
                        have e26 := hq.1
                        have e23 := hq.2
                        clear hq
                        refine PO.call rfl rfl rfl rfl (ks := []) (ts := []) (fr1 := []) rfl rfl rfl trivial (L31 k a0.depth _ e26) ?_
                        rintro _ _ _ ⟨rfl, rfl, rfl⟩
                        refine ⟨_, _, rfl, rfl, ?_⟩
                        refine PO.same rfl (pickT_ok rfl rfl rfl) rfl ?_
                        refine PO.nil ?_
                        obtain rfl := Option.some.inj e23
                        exact ⟨r25, Weak.one [] [] (by kernel_rfl), rfl⟩
                      · have e23 := bif_f h24 e23
                        refine PO.run 3 rfl ?_
                        refine PO.same rfl (pickF_ok rfl rfl rfl) rfl ?_
                        refine PO.nil ?_
                        obtain rfl := Option.some.inj e23
                        exact ⟨false, Weak.one [] [] (by kernel_rfl), rfl⟩
                    · rintro _ ⟨v5, w27, rfl⟩
                      refine PO.weak w27 ?_
                      refine PO.nil ?_
                      obtain rfl := Option.some.inj e18
                      exact ⟨v5, Weak.one [] [] (by kernel_rfl), rfl⟩
                  · have e18 := bif_f h19 e18
                    refine PO.run 3 rfl ?_
                    refine PO.same rfl (pickF_ok rfl rfl rfl) rfl ?_
                    refine PO.run 4 rfl ?_
                    refine PO.same rfl (pickF_ok rfl rfl rfl) rfl ?_
                    refine PO.nil ?_
                    obtain rfl := Option.some.inj e18
                    exact ⟨false, Weak.one [] [] (by kernel_rfl), rfl⟩
                · rintro _ ⟨v4, w28, rfl⟩
                  refine PO.weak w28 ?_
                  refine PO.nil ?_
                  obtain rfl := Option.some.inj e13
                  exact ⟨v4, Weak.one [] [] (by kernel_rfl), rfl⟩
              · have e13 := bif_f h14 e13
                refine PO.run 3 rfl ?_
                refine PO.same rfl (pickF_ok rfl rfl rfl) rfl ?_
                refine PO.run 4 rfl ?_
                refine PO.same rfl (pickF_ok rfl rfl rfl) rfl ?_
                refine PO.run 4 rfl ?_
                refine PO.same rfl (pickF_ok rfl rfl rfl) rfl ?_
                refine PO.nil ?_
                obtain rfl := Option.some.inj e13
                exact ⟨false, Weak.one [] [] (by kernel_rfl), rfl⟩
            · rintro _ ⟨v3, w29, rfl⟩
              refine PO.weak w29 ?_
              refine PO.nil ?_
              obtain rfl := Option.some.inj e8
              exact ⟨v3, Weak.one [] [] (by kernel_rfl), rfl⟩
          · have e8 := bif_f h9 e8
            refine PO.run 3 rfl ?_
            refine PO.same rfl (pickF_ok rfl rfl rfl) rfl ?_
            refine PO.run 4 rfl ?_
            refine PO.same rfl (pickF_ok rfl rfl rfl) rfl ?_
            refine PO.run 4 rfl ?_
            refine PO.same rfl (pickF_ok rfl rfl rfl) rfl ?_
            refine PO.run 4 rfl ?_
            refine PO.same rfl (pickF_ok rfl rfl rfl) rfl ?_
            refine PO.nil ?_
            obtain rfl := Option.some.inj e8
            exact ⟨false, Weak.one [] [] (by kernel_rfl), rfl⟩
        · rintro _ ⟨v2, w30, rfl⟩
          refine PO.weak w30 ?_
          refine PO.nil ?_
          obtain rfl := Option.some.inj e3
          exact ⟨v2, Weak.one [] [] (by kernel_rfl), rfl⟩
      · have e3 := bif_f h4 e3
        refine PO.run 4 rfl ?_
        refine PO.same rfl (pickF_ok rfl rfl rfl) rfl ?_
        refine PO.run 4 rfl ?_
        refine PO.same rfl (pickF_ok rfl rfl rfl) rfl ?_
        refine PO.run 4 rfl ?_
        refine PO.same rfl (pickF_ok rfl rfl rfl) rfl ?_
        refine PO.run 4 rfl ?_
        refine PO.same rfl (pickF_ok rfl rfl rfl) rfl ?_
        refine PO.run 4 rfl ?_
        refine PO.same rfl (pickF_ok rfl rfl rfl) rfl ?_
        refine PO.nil ?_
        obtain rfl := Option.some.inj e3
        exact ⟨false, Weak.one [] [] (by kernel_rfl), rfl⟩
    · rintro _ ⟨v1, w31, rfl⟩
      refine PO.weak w31 ?_
      refine PO.run 1 rfl ?_
      refine PO.nil ?_
      obtain rfl := Option.some.inj hF
      exact PC.ret (blockKP.back (retSK [] [] (by kernel_rfl) (.refl _) ⟨rfl, rfl, rfl⟩))
  · have hF := bif_f h1 hF
    refine PC.assoc ?_
    refine PC.run (n := 3) rfl ?_
    refine PC.cond rfl (fun h32 => ?_) (fun h32 => ?_)
    · have hF := bif_t h32 hF
      refine PC.assoc ?_
      refine PC.region ?_
      refine PO.runK 12 [0] [] (es := [(1, .ptr 0 0), (2, .val (.bool false)), (54, .agg [.val (.int .i64 a0.kind), .val (.string a0.font), .val (.int .i64 a0.size), .val (.int .i64 a0.rune), .val (.int .i64 a0.width), .val (.int .i64 a0.height), .val (.int .i64 a0.depth), .val (.int .i64 a0.stretch), .val (.int .i64 a0.shrink), .val (.int .i64 a0.value), .val (.bool a0.flag), .val (.int .i64 0), .val (.int .i64 0)]), (65, .agg [.val (.int .i64 3), .val (.string a0.font), .val (.int .i64 a0.size), .val (.int .i64 0), .val (.int .i64 a0.width), .val (.int .i64 0), .val (.int .i64 0), .val (.int .i64 a0.stretch), .val (.int .i64 a0.shrink), .val (.int .i64 0), .val (.bool false), .val (.int .i64 0), .val (.int .i64 0)])]) (fr' := [⟨0, (cGItem a0)⟩]) (tk' := []) (by kernel_rfl) ?_
      refine PO.same rfl (aggEq_ok (v := .bool (a0.kind == 3 && (a0.font == a0.font && (a0.size == a0.size && (a0.rune == 0 && (a0.width == a0.width && (a0.height == 0 && (a0.depth == 0 && (a0.stretch == a0.stretch && (a0.shrink == a0.shrink && (a0.value == 0 && (a0.flag == false && (0 == 0 && (0 == 0 && true)))))))))))))) rfl rfl rfl rfl rfl rfl rfl (by kernel_rfl)) rfl ?_
      refine PO.run 1 rfl ?_
      refine Exists.elim (bind_some hF) (fun x33 hq => ?_)
      have e34 := hq.1
      have hF := hq.2
      clear hq
      refine PO.cut 36 (fun s => ∃ (v6 : Bool), Weak s (PS.of 162 [(2, .val (.bool false)), (103, .val (.bool v6))] [] [] 0 0) ∧ v6 = x33) ?_ ?_
      · refine PO.case (t := 67) rfl rfl (fun h35 => ?_) (fun h35 => ?_)
        · have e34 := bif_t h35 e34
          refine PO.run 2 rfl ?_
          refine Exists.elim (bind_some e34) (fun r36 hq => ?_)
          have e37 := hq.1
          have e34 := hq.2
          clear hq
          refine PO.call rfl rfl rfl rfl (ks := []) (ts := []) (fr1 := []) rfl rfl rfl trivial (L30 k a0.size _ e37) ?_
          rintro _ _ _ ⟨rfl, rfl, rfl⟩
          refine ⟨_, _, rfl, rfl, ?_⟩
          refine PO.same rfl (pickT_ok rfl rfl rfl) rfl ?_
          refine PO.run 1 rfl ?_
          refine Exists.elim (bind_some e34) (fun x38 hq => ?_)
          have e39 := hq.1
          have e34 := hq.2
          clear hq
          refine PO.cut 31 (fun s => ∃ (v7 : Bool), Weak s (PS.of 162 [(2, .val (.bool false)), (103, .val (.bool v7))] [] [] 0 0) ∧ v7 = x38) ?_ ?_
          · refine PO.case (t := 72) rfl rfl (fun h40 => ?_) (fun h40 => ?_)
            · have e39 := bif_t h40 e39
              refine PO.run 3 rfl ?_
              refine PO.same rfl (pickT_ok rfl rfl rfl) rfl ?_
              refine PO.run 1 rfl ?_
              refine Exists.elim (bind_some e39) (fun x41 hq => ?_)
              have e42 := hq.1
              have e39 := hq.2
              clear hq
              refine PO.cut 26 (fun s => ∃ (v8 : Bool), Weak s (PS.of 162 [(2, .val (.bool false)), (103, .val (.bool v8))] [] [] 0 0) ∧ v8 = x41) ?_ ?_
              · refine PO.case (t := 77) rfl rfl (fun h43 => ?_) (fun h43 => ?_)
                · have e42 := bif_t h43 e42
                  refine PO.run 3 rfl ?_
                  refine PO.same rfl (pickT_ok rfl rfl rfl) rfl ?_
                  refine PO.run 1 rfl ?_
                  refine Exists.elim (bind_some e42) (fun x44 hq => ?_)
                  have e45 := hq.1
                  have e42 := hq.2
                  clear hq
                  refine PO.cut 21 (fun s => ∃ (v9 : Bool), Weak s (PS.of 162 [(2, .val (.bool false)), (103, .val (.bool v9))] [] [] 0 0) ∧ v9 = x44) ?_ ?_
                  · refine PO.case (t := 82) rfl rfl (fun h46 => ?_) (fun h46 => ?_)
                    · have e45 := bif_t h46 e45
                      refine PO.run 3 rfl ?_
                      refine PO.same rfl (pickT_ok rfl rfl rfl) rfl ?_
                      refine PO.run 1 rfl ?_
                      refine Exists.elim (bind_some e45) (fun x47 hq => ?_)
                      have e48 := hq.1
                      have e45 := hq.2
                      clear hq
                      refine PO.cut 16 (fun s => ∃ (v10 : Bool), Weak s (PS.of 162 [(2, .val (.bool false)), (103, .val (.bool v10))] [] [] 0 0) ∧ v10 = x47) ?_ ?_
                      · refine PO.case (t := 87) rfl rfl (fun h49 => ?_) (fun h49 => ?_)
                        · have e48 := bif_t h49 e48
                          refine PO.run 3 rfl ?_
                          refine PO.same rfl (pickT_ok rfl rfl rfl) rfl ?_
                          refine PO.run 1 rfl ?_
                          refine Exists.elim (bind_some e48) (fun x50 hq => ?_)
                          have e51 := hq.1
                          have e48 := hq.2
                          clear hq
                          refine PO.cut 11 (fun s => ∃ (v11 : Bool), Weak s (PS.of 162 [(2, .val (.bool false)), (103, .val (.bool v11))] [] [] 0 0) ∧ v11 = x50) ?_ ?_
                          · refine PO.case (t := 92) rfl rfl (fun h52 => ?_) (fun h52 => ?_)
                            · have e51 := bif_t h52 e51
                              refine PO.run 3 rfl ?_
                              refine PO.same rfl (pickT_ok rfl rfl rfl) rfl ?_
                              refine PO.run 1 rfl ?_
                              refine Exists.elim (bind_some e51) (fun x53 hq => ?_)
                              have e54 := hq.1
                              have e51 := hq.2
                              clear hq
                              refine PO.cut 6 (fun s => ∃ (v12 : Bool), Weak s (PS.of 162 [(2, .val (.bool false)), (103, .val (.bool v12))] [] [] 0 0) ∧ v12 = x53) ?_ ?_
                              · refine PO.case (t := 97) rfl rfl (fun h55 => ?_) (fun h55 => ?_)
                                · have e54 := bif_t h55 e54
                                  refine PO.run 5 rfl ?_
                                  refine PO.same rfl (pickT_ok rfl rfl rfl) rfl ?_
                                  refine PO.nil ?_
                                  obtain rfl := Option.some.inj e54
                                  exact ⟨decide (a0.shrink ≤ a0.width), Weak.one [] [] (by kernel_rfl), rfl⟩
                                · have e54 := bif_f h55 e54
                                  refine PO.run 5 rfl ?_
                                  refine PO.same rfl (pickF_ok rfl rfl rfl) rfl ?_
                                  refine PO.nil ?_
                                  obtain rfl := Option.some.inj e54
                                  exact ⟨false, Weak.one [] [] (by kernel_rfl), rfl⟩
                              · rintro _ ⟨v12, w56, rfl⟩
                                refine PO.weak w56 ?_
                                refine PO.nil ?_
                                obtain rfl := Option.some.inj e51
                                exact ⟨v12, Weak.one [] [] (by kernel_rfl), rfl⟩
                            · have e51 := bif_f h52 e51
                              refine PO.run 3 rfl ?_
                              refine PO.same rfl (pickF_ok rfl rfl rfl) rfl ?_
                              refine PO.run 6 rfl ?_
                              refine PO.same rfl (pickF_ok rfl rfl rfl) rfl ?_
                              refine PO.nil ?_
                              obtain rfl := Option.some.inj e51
                              exact ⟨false, Weak.one [] [] (by kernel_rfl), rfl⟩
                          · rintro _ ⟨v11, w57, rfl⟩
                            refine PO.weak w57 ?_
                            refine PO.nil ?_
                            obtain rfl := Option.some.inj e48
                            exact ⟨v11, Weak.one [] [] (by kernel_rfl), rfl⟩
                        · have e48 := bif_f h49 e48
                          refine PO.run 3 rfl ?_
                          refine PO.same rfl (pickF_ok rfl rfl rfl) rfl ?_
                          refine PO.run 4 rfl ?_
                          refine PO.same rfl (pickF_ok rfl rfl rfl) rfl ?_
                          refine PO.run 6 rfl ?_
                          refine PO.same rfl (pickF_ok rfl rfl rfl) rfl ?_
                          refine PO.nil ?_
                          obtain rfl := Option.some.inj e48
                          exact ⟨false, Weak.one [] [] (by kernel_rfl), rfl⟩
                      · rintro _ ⟨v10, w58, rfl⟩
                        refine PO.weak w58 ?_
                        refine PO.nil ?_
                        obtain rfl := Option.some.inj e45
                        exact ⟨v10, Weak.one [] [] (by kernel_rfl), rfl⟩
                    · have e45 := bif_f h46 e45
                      refine PO.run 3 rfl ?_
                      refine PO.same rfl (pickF_ok rfl rfl rfl) rfl ?_
                      refine PO.run 4 rfl ?_
                      refine PO.same rfl (pickF_ok rfl rfl rfl) rfl ?_
                      refine PO.run 4 rfl ?_
                      refine PO.same rfl (pickF_ok rfl rfl rfl) rfl ?_
                      refine PO.run 6 rfl ?_
                      refine PO.same rfl (pickF_ok rfl rfl rfl) rfl ?_
                      refine PO.nil ?_
                      obtain rfl := Option.some.inj e45
                      exact ⟨false, Weak.one [] [] (by kernel_rfl), rfl⟩
                  · rintro _ ⟨v9, w59, rfl⟩
                    refine PO.weak w59 ?_
                    refine PO.nil ?_
                    obtain rfl := Option.some.inj e42
                    exact ⟨v9, Weak.one [] [] (by kernel_rfl), rfl⟩
                · have e42 := bif_f h43 e42
                  refine PO.run 3 rfl ?_
                  refine PO.same rfl (pickF_ok rfl rfl rfl) rfl ?_
                  refine PO.run 4 rfl ?_
                  refine PO.same rfl (pickF_ok rfl rfl rfl) rfl ?_
                  refine PO.run 4 rfl ?_
                  refine PO.same rfl (pickF_ok rfl rfl rfl) rfl ?_
                  refine PO.run 4 rfl ?_
                  refine PO.same rfl (pickF_ok rfl rfl rfl) rfl ?_
                  refine PO.run 6 rfl ?_
                  refine PO.same rfl (pickF_ok rfl rfl rfl) rfl ?_
                  refine PO.nil ?_
                  obtain rfl := Option.some.inj e42
                  exact ⟨false, Weak.one [] [] (by kernel_rfl), rfl⟩
              · rintro _ ⟨v8, w60, rfl⟩
                refine PO.weak w60 ?_
                refine PO.nil ?_
                obtain rfl := Option.some.inj e39
                exact ⟨v8, Weak.one [] [] (by kernel_rfl), rfl⟩
            · have e39 := bif_f h40 e39
              refine PO.run 3 rfl ?_
              refine PO.same rfl (pickF_ok rfl rfl rfl) rfl ?_
              refine PO.run 4 rfl ?_
              refine PO.same rfl (pickF_ok rfl rfl rfl) rfl ?_
              refine PO.run 4 rfl ?_
              refine PO.same rfl (pickF_ok rfl rfl rfl) rfl ?_
              refine PO.run 4 rfl ?_
              refine PO.same rfl (pickF_ok rfl rfl rfl) rfl ?_
              refine PO.run 4 rfl ?_
              refine PO.same rfl (pickF_ok rfl rfl rfl) rfl ?_
              refine PO.run 6 rfl ?_
              refine PO.same rfl (pickF_ok rfl rfl rfl) rfl ?_
              refine PO.nil ?_
              obtain rfl := Option.some.inj e39
              exact ⟨false, Weak.one [] [] (by kernel_rfl), rfl⟩
          · rintro _ ⟨v7, w61, rfl⟩
            refine PO.weak w61 ?_
            refine PO.nil ?_
            obtain rfl := Option.some.inj e34
            exact ⟨v7, Weak.one [] [] (by kernel_rfl), rfl⟩
        · have e34 := bif_f h35 e34
          refine PO.run 3 rfl ?_
          refine PO.same rfl (pickF_ok rfl rfl rfl) rfl ?_
          refine PO.run 4 rfl ?_
          refine PO.same rfl (pickF_ok rfl rfl rfl) rfl ?_
          refine PO.run 4 rfl ?_
          refine PO.same rfl (pickF_ok rfl rfl rfl) rfl ?_
          refine PO.run 4 rfl ?_
          refine PO.same rfl (pickF_ok rfl rfl rfl) rfl ?_
          refine PO.run 4 rfl ?_
          refine PO.same rfl (pickF_ok rfl rfl rfl) rfl ?_
          refine PO.run 4 rfl ?_
          refine PO.same rfl (pickF_ok rfl rfl rfl) rfl ?_
          refine PO.run 6 rfl ?_
          refine PO.same rfl (pickF_ok rfl rfl rfl) rfl ?_
          refine PO.nil ?_
          obtain rfl := Option.some.inj e34
          exact ⟨false, Weak.one [] [] (by kernel_rfl), rfl⟩
      · rintro _ ⟨v6, w62, rfl⟩
        refine PO.weak w62 ?_
        refine PO.run 1 rfl ?_
        refine PO.nil ?_
        obtain rfl := Option.some.inj hF
        exact PC.ret (blockKP.back (retSK [] [] (by kernel_rfl) (.refl _) ⟨rfl, rfl, rfl⟩))
    · have hF := bif_f h32 hF
      refine PC.assoc ?_
      refine PC.run (n := 3) rfl ?_
      refine PC.cond rfl (fun h63 => ?_) (fun h63 => ?_)
      · have hF := bif_t h63 hF
        refine PC.assoc ?_
        refine PC.assoc ?_
        refine PC.region ?_
        refine PO.run 4 rfl ?_
        refine Exists.elim (bind_some hF) (fun x64 hq => ?_)
        have e65 := hq.1
        have hF := hq.2
        clear hq
        refine PO.cut 4 (fun s => ∃ (v13 : Bool), Weak s (PS.of 162 [(1, .ptr 0 0), (2, .val (.bool false)), (3, .ptr 1 0), (113, .val (.bool v13))] [⟨0, (cGItem a0)⟩, ⟨0, [.val (.int .i64 a0.kind), .val (.string a0.font), .val (.int .i64 a0.size), .val (.int .i64 a0.rune), .val (.int .i64 a0.width), .val (.int .i64 a0.height), .val (.int .i64 a0.depth), .val (.int .i64 a0.stretch), .val (.int .i64 a0.shrink), .val (.int .i64 a0.value), .val (.bool a0.flag), .val (.int .i64 0), .val (.int .i64 0)]⟩] [] 0 0) ∧ v13 = x64) ?_ ?_
        · refine PO.case (t := 109) rfl rfl (fun h66 => ?_) (fun h66 => ?_)
          · have e65 := bif_t h66 e65
            refine PO.run 3 rfl ?_
            refine PO.same rfl (pickT_ok rfl rfl rfl) rfl ?_
            refine PO.nil ?_
            obtain rfl := Option.some.inj e65
            exact ⟨true, Weak.one [0, 1] [] (by kernel_rfl), rfl⟩
          · have e65 := bif_f h66 e65
            refine PO.run 3 rfl ?_
            refine PO.same rfl (pickF_ok rfl rfl rfl) rfl ?_
            refine PO.nil ?_
            obtain rfl := Option.some.inj e65
            exact ⟨decide (a0.value > 10000), Weak.one [0, 1] [] (by kernel_rfl), rfl⟩
        · rintro _ ⟨v13, w67, rfl⟩
          refine PO.weak w67 ?_
          refine PO.nil ?_
          refine PC.cond rfl (fun h68 => ?_) (fun h68 => ?_)
          · have hF := bif_t h68 hF
            refine PC.assoc ?_
            refine PC.run (n := 2) rfl ?_
            obtain rfl := Option.some.inj hF
            exact PC.ret (blockKP.back (retSK [] [] (by kernel_rfl) (.refl _) ⟨rfl, rfl, rfl⟩))
          · have hF := bif_f h68 hF
            refine PC.noop ?_
            refine PC.assoc ?_
            refine PC.assoc ?_
            refine PC.run (n := 4) rfl ?_
            refine PC.cond rfl (fun h69 => ?_) (fun h69 => ?_)
            · have hF := bif_t h69 hF
              refine PC.assoc ?_
              refine PC.region ?_
              refine PO.runK 4 [] [] (es := [(2, .val (.bool false)), (117, .agg [.val (.int .i64 a0.kind), .val (.string a0.font), .val (.int .i64 a0.size), .val (.int .i64 a0.rune), .val (.int .i64 a0.width), .val (.int .i64 a0.height), .val (.int .i64 a0.depth), .val (.int .i64 a0.stretch), .val (.int .i64 a0.shrink), .val (.int .i64 a0.value), .val (.bool a0.flag), .val (.int .i64 0), .val (.int .i64 0)]), (120, .agg [.val (.int .i64 4), .val (.string ByteArray.empty), .val (.int .i64 0), .val (.int .i64 0), .val (.int .i64 0), .val (.int .i64 0), .val (.int .i64 0), .val (.int .i64 0), .val (.int .i64 0), .val (.int .i64 a0.value), .val (.bool false), .val (.int .i64 0), .val (.int .i64 0)])]) (fr' := []) (tk' := []) (by kernel_rfl) ?_
              refine PO.same rfl (aggEq_ok (v := .bool (a0.kind == 4 && (a0.font == ByteArray.empty && (a0.size == 0 && (a0.rune == 0 && (a0.width == 0 && (a0.height == 0 && (a0.depth == 0 && (a0.stretch == 0 && (a0.shrink == 0 && (a0.value == a0.value && (a0.flag == false && (0 == 0 && (0 == 0 && true)))))))))))))) rfl rfl rfl rfl rfl rfl rfl (by kernel_rfl)) rfl ?_
              refine PO.run 1 rfl ?_
              refine PO.nil ?_
              obtain rfl := Option.some.inj hF
              exact PC.ret (blockKP.back (retSK [] [] (by kernel_rfl) (.refl _) ⟨rfl, rfl, rfl⟩))
            · have hF := bif_f h69 hF
              refine PC.noop ?_
              refine PC.assoc ?_
              refine PC.region ?_
              refine PO.runK 14 [0] [] (es := [(1, .ptr 0 0), (2, .val (.bool false)), (122, .agg [.val (.int .i64 a0.kind), .val (.string a0.font), .val (.int .i64 a0.size), .val (.int .i64 a0.rune), .val (.int .i64 a0.width), .val (.int .i64 a0.height), .val (.int .i64 a0.depth), .val (.int .i64 a0.stretch), .val (.int .i64 a0.shrink), .val (.int .i64 a0.value), .val (.bool a0.flag), .val (.int .i64 0), .val (.int .i64 0)]), (135, .agg [.val (.int .i64 4), .val (.string a0.font), .val (.int .i64 a0.size), .val (.int .i64 45), .val (.int .i64 a0.width), .val (.int .i64 a0.height), .val (.int .i64 a0.depth), .val (.int .i64 0), .val (.int .i64 0), .val (.int .i64 a0.value), .val (.bool true), .val (.int .i64 0), .val (.int .i64 0)])]) (fr' := [⟨0, (cGItem a0)⟩]) (tk' := []) (by kernel_rfl) ?_
              refine PO.same rfl (aggEq_ok (v := .bool (a0.kind == 4 && (a0.font == a0.font && (a0.size == a0.size && (a0.rune == 45 && (a0.width == a0.width && (a0.height == a0.height && (a0.depth == a0.depth && (a0.stretch == 0 && (a0.shrink == 0 && (a0.value == a0.value && (a0.flag == true && (0 == 0 && (0 == 0 && true)))))))))))))) rfl rfl rfl rfl rfl rfl rfl (by kernel_rfl)) rfl ?_
              refine PO.run 1 rfl ?_
              refine Exists.elim (bind_some hF) (fun x70 hq => ?_)
              have e71 := hq.1
              have hF := hq.2
              clear hq
              refine PO.cut 24 (fun s => ∃ (v14 : Bool), Weak s (PS.of 162 [(2, .val (.bool false)), (161, .val (.bool v14))] [] [] 0 0) ∧ v14 = x70) ?_ ?_
              · refine PO.case (t := 137) rfl rfl (fun h72 => ?_) (fun h72 => ?_)
                · have e71 := bif_t h72 e71
                  refine PO.run 3 rfl ?_
                  refine PO.same rfl (pickT_ok rfl rfl rfl) rfl ?_
                  refine PO.run 1 rfl ?_
                  refine Exists.elim (bind_some e71) (fun x73 hq => ?_)
                  have e74 := hq.1
                  have e71 := hq.2
                  clear hq
                  refine PO.cut 19 (fun s => ∃ (v15 : Bool), Weak s (PS.of 162 [(2, .val (.bool false)), (161, .val (.bool v15))] [] [] 0 0) ∧ v15 = x73) ?_ ?_
                  · refine PO.case (t := 142) rfl rfl (fun h75 => ?_) (fun h75 => ?_)
                    · have e74 := bif_t h75 e74
                      refine PO.run 2 rfl ?_
                      refine Exists.elim (bind_some e74) (fun r76 hq => ?_)
                      have e77 := hq.1
                      have e74 := hq.2
                      clear hq
                      refine PO.call rfl rfl rfl rfl (ks := []) (ts := []) (fr1 := []) rfl rfl rfl trivial (L30 k a0.size _ e77) ?_
                      rintro _ _ _ ⟨rfl, rfl, rfl⟩
                      refine ⟨_, _, rfl, rfl, ?_⟩
                      refine PO.same rfl (pickT_ok rfl rfl rfl) rfl ?_
                      refine PO.run 1 rfl ?_
                      refine Exists.elim (bind_some e74) (fun x78 hq => ?_)
                      have e79 := hq.1
                      have e74 := hq.2
                      clear hq
                      refine PO.cut 14 (fun s => ∃ (v16 : Bool), Weak s (PS.of 162 [(2, .val (.bool false)), (161, .val (.bool v16))] [] [] 0 0) ∧ v16 = x78) ?_ ?_
                      · refine PO.case (t := 147) rfl rfl (fun h80 => ?_) (fun h80 => ?_)
                        · have e79 := bif_t h80 e79
                          refine PO.run 2 rfl ?_
                          refine Exists.elim (bind_some e79) (fun r81 hq => ?_)
                          have e82 := hq.1
                          have e79 := hq.2
                          clear hq
                          refine PO.call rfl rfl rfl rfl (ks := []) (ts := []) (fr1 := []) rfl rfl rfl trivial (L31 k a0.width _ e82) ?_
                          rintro _ _ _ ⟨rfl, rfl, rfl⟩
                          refine ⟨_, _, rfl, rfl, ?_⟩
                          refine PO.same rfl (pickT_ok rfl rfl rfl) rfl ?_
                          refine PO.run 1 rfl ?_
                          refine Exists.elim (bind_some e79) (fun x83 hq => ?_)
                          have e84 := hq.1
                          have e79 := hq.2
                          clear hq
                          refine PO.cut 9 (fun s => ∃ (v17 : Bool), Weak s (PS.of 162 [(2, .val (.bool false)), (161, .val (.bool v17))] [] [] 0 0) ∧ v17 = x83) ?_ ?_
                          · refine PO.case (t := 152) rfl rfl (fun h85 => ?_) (fun h85 => ?_)
                            · have e84 := bif_t h85 e84
                              refine PO.run 2 rfl ?_
                              refine Exists.elim (bind_some e84) (fun r86 hq => ?_)
                              have e87 := hq.1
                              have e84 := hq.2
                              clear hq
                              refine PO.call rfl rfl rfl rfl (ks := []) (ts := []) (fr1 := []) rfl rfl rfl trivial (L31 k a0.height _ e87) ?_
                              rintro _ _ _ ⟨rfl, rfl, rfl⟩
                              refine ⟨_, _, rfl, rfl, ?_⟩
                              refine PO.same rfl (pickT_ok rfl rfl rfl) rfl ?_
                              refine PO.run 1 rfl ?_
                              refine Exists.elim (bind_some e84) (fun x88 hq => ?_)
                              have e89 := hq.1
                              have e84 := hq.2
                              clear hq
                              refine PO.cut 4 (fun s => ∃ (v18 : Bool), Weak s (PS.of 162 [(2, .val (.bool false)), (161, .val (.bool v18))] [] [] 0 0) ∧ v18 = x88) ?_ ?_
                              · refine PO.case (t := 157) rfl rfl (fun h90 => ?_) (fun h90 => ?_)
                                · have e89 := bif_t h90 e89
                                  refine PO.run 2 rfl ?_
                                  refine Exists.elim (bind_some e89) (fun r91 hq => ?_)
                                  have e92 := hq.1
                                  have e89 := hq.2
                                  clear hq
                                  refine PO.call rfl rfl rfl rfl (ks := []) (ts := []) (fr1 := []) rfl rfl rfl trivial (L31 k a0.depth _ e92) ?_
                                  rintro _ _ _ ⟨rfl, rfl, rfl⟩
                                  refine ⟨_, _, rfl, rfl, ?_⟩
                                  refine PO.same rfl (pickT_ok rfl rfl rfl) rfl ?_
                                  refine PO.nil ?_
                                  obtain rfl := Option.some.inj e89
                                  exact ⟨r91, Weak.one [] [] (by kernel_rfl), rfl⟩
                                · have e89 := bif_f h90 e89
                                  refine PO.run 3 rfl ?_
                                  refine PO.same rfl (pickF_ok rfl rfl rfl) rfl ?_
                                  refine PO.nil ?_
                                  obtain rfl := Option.some.inj e89
                                  exact ⟨false, Weak.one [] [] (by kernel_rfl), rfl⟩
                              · rintro _ ⟨v18, w93, rfl⟩
                                refine PO.weak w93 ?_
                                refine PO.nil ?_
                                obtain rfl := Option.some.inj e84
                                exact ⟨v18, Weak.one [] [] (by kernel_rfl), rfl⟩
                            · have e84 := bif_f h85 e84
                              refine PO.run 3 rfl ?_
                              refine PO.same rfl (pickF_ok rfl rfl rfl) rfl ?_
                              refine PO.run 4 rfl ?_
                              refine PO.same rfl (pickF_ok rfl rfl rfl) rfl ?_
                              refine PO.nil ?_
                              obtain rfl := Option.some.inj e84
                              exact ⟨false, Weak.one [] [] (by kernel_rfl), rfl⟩
                          · rintro _ ⟨v17, w94, rfl⟩
                            refine PO.weak w94 ?_
                            refine PO.nil ?_
                            obtain rfl := Option.some.inj e79
                            exact ⟨v17, Weak.one [] [] (by kernel_rfl), rfl⟩
                        · have e79 := bif_f h80 e79
                          refine PO.run 3 rfl ?_
                          refine PO.same rfl (pickF_ok rfl rfl rfl) rfl ?_
                          refine PO.run 4 rfl ?_
                          refine PO.same rfl (pickF_ok rfl rfl rfl) rfl ?_
                          refine PO.run 4 rfl ?_
                          refine PO.same rfl (pickF_ok rfl rfl rfl) rfl ?_
                          refine PO.nil ?_
                          obtain rfl := Option.some.inj e79
                          exact ⟨false, Weak.one [] [] (by kernel_rfl), rfl⟩
                      · rintro _ ⟨v16, w95, rfl⟩
                        refine PO.weak w95 ?_
                        refine PO.nil ?_
                        obtain rfl := Option.some.inj e74
                        exact ⟨v16, Weak.one [] [] (by kernel_rfl), rfl⟩
                    · have e74 := bif_f h75 e74
                      refine PO.run 3 rfl ?_
                      refine PO.same rfl (pickF_ok rfl rfl rfl) rfl ?_
                      refine PO.run 4 rfl ?_
                      refine PO.same rfl (pickF_ok rfl rfl rfl) rfl ?_
                      refine PO.run 4 rfl ?_
                      refine PO.same rfl (pickF_ok rfl rfl rfl) rfl ?_
                      refine PO.run 4 rfl ?_
                      refine PO.same rfl (pickF_ok rfl rfl rfl) rfl ?_
                      refine PO.nil ?_
                      obtain rfl := Option.some.inj e74
                      exact ⟨false, Weak.one [] [] (by kernel_rfl), rfl⟩
                  · rintro _ ⟨v15, w96, rfl⟩
                    refine PO.weak w96 ?_
                    refine PO.nil ?_
                    obtain rfl := Option.some.inj e71
                    exact ⟨v15, Weak.one [] [] (by kernel_rfl), rfl⟩
                · have e71 := bif_f h72 e71
                  refine PO.run 3 rfl ?_
                  refine PO.same rfl (pickF_ok rfl rfl rfl) rfl ?_
                  refine PO.run 4 rfl ?_
                  refine PO.same rfl (pickF_ok rfl rfl rfl) rfl ?_
                  refine PO.run 4 rfl ?_
                  refine PO.same rfl (pickF_ok rfl rfl rfl) rfl ?_
                  refine PO.run 4 rfl ?_
                  refine PO.same rfl (pickF_ok rfl rfl rfl) rfl ?_
                  refine PO.run 4 rfl ?_
                  refine PO.same rfl (pickF_ok rfl rfl rfl) rfl ?_
                  refine PO.nil ?_
                  obtain rfl := Option.some.inj e71
                  exact ⟨false, Weak.one [] [] (by kernel_rfl), rfl⟩
              · rintro _ ⟨v14, w97, rfl⟩
                refine PO.weak w97 ?_
                refine PO.run 1 rfl ?_
                refine PO.nil ?_
                obtain rfl := Option.some.inj hF
                exact PC.ret (blockKP.back (retSK [] [] (by kernel_rfl) (.refl _) ⟨rfl, rfl, rfl⟩))
      · have hF := bif_f h63 hF
        refine PC.noop ?_
        refine PC.skip (blockKP.end ?_)
        refine PC.run (n := 2) rfl ?_
        obtain rfl := Option.some.inj hF
        exact PC.ret' (retSK [] [] (by kernel_rfl) (.refl _) ⟨rfl, rfl, rfl⟩)

/-! 6 platen/platenref13.Check -/
def F6_l1 (k : Nat) (a0 : List GItem) : Nat → Int → Int → Option ((Unit) ⊕ (Int))
  | 0, _, _ => none
  | j13 + 1, v5, v6 =>
    bif decide (v6 < (a0.length : Int)) then (Option.bind (α := (Int) ⊕ ((Unit) ⊕ (Int))) (bindI a0 v6 fun y10 =>
    bif y10.kind == 2 then ((F17 k a0 v6).bind fun r21 =>
    bif !r21 then (some (.inr (.inr 1))) else (some (.inl v5))) else (bindI a0 v6 fun y11 =>
    (F18 k y11).bind fun r26 =>
    Option.bind (α := Bool) (bif !r26 then (some true) else (bindI a0 v6 fun y13 =>
    Option.bind (α := Bool) (bif decide (y13.from_ < v5) then (some true) else (bindI a0 v6 fun y15 =>
    bindI a0 v6 fun y16 =>
    Option.bind (α := Bool) (bif decide (y15.to_ < y16.from_) then (some true) else (bindI a0 v6 fun y18 =>
    some (decide (y18.to_ > 65536)))) fun (v17 : Bool) =>
    some v17)) fun (v14 : Bool) =>
    some v14)) fun (v12 : Bool) =>
    bif v12 then (some (.inr (.inr 1))) else (bindI a0 v6 fun y19 =>
    some (.inl y19.to_)))) (Sum.elim (fun (v9 : Int) =>
    F6_l1 k a0 j13 v9 (w (v6 + 1))) some)) else (some (.inl ()))
def F6 (k : Nat) (a0 : List GItem) : Option Int :=
bif decide ((a0.length : Int) > 4096) then (some 130) else (Option.bind (α := Bool) (bif decide ((a0.length : Int) > 0) then (bindI a0 (w ((a0.length : Int) - 1)) fun y2 =>
(F16 k y2).bind fun r7 =>
some (!r7)) else (some false)) fun (v1 : Bool) =>
bif v1 then (some 1) else (Option.bind (α := (Unit) ⊕ (Int)) (F6_l1 k a0 k 0 0) (Sum.elim (fun (_ : Unit) =>
some 0) some)))
theorem L6 (k : Nat) (a0 : List GItem) (r : Int) (hF : F6 k a0 = some r) : PF Try.prog orc 6 [.list 13 (List.map cGItem a0) none] [] [] (fun p fr tk => p = .val (.int .i64 r) ∧ fr = [] ∧ tk = []) := by
  unfold F6 at hF
  refine PF.enterS Try.func6 rfl rfl rfl (by kernel_rfl) rfl ?_
  refine PC.run (n := 2) rfl ?_
  refine PC.assoc ?_
  refine PC.region ?_
  refine PO.run 1 rfl ?_
  refine PO.same rfl (len_ok Try.underlying22 rfl (List.length_map _)) rfl ?_
  refine PO.run 1 rfl ?_
  refine PO.nil ?_
  refine PC.cond rfl (fun h1 => ?_) (fun h1 => ?_)
  · have hF := bif_t h1 hF
    refine PC.assoc ?_
    refine PC.run (n := 2) rfl ?_
    obtain rfl := Option.some.inj hF
    exact PC.ret (retSK [] [] (by kernel_rfl) (.refl _) ⟨rfl, rfl, rfl⟩)
  · have hF := bif_f h1 hF
    refine PC.noop ?_
    refine PC.assoc ?_
    refine PC.region ?_
    refine PO.run 1 rfl ?_
    refine PO.same rfl (len_ok Try.underlying22 rfl (List.length_map _)) rfl ?_
    refine PO.run 2 rfl ?_
    refine Exists.elim (bind_some hF) (fun x2 hq => ?_)
    have e3 := hq.1
    have hF := hq.2
    clear hq
    refine PO.cut 9 (fun s => ∃ (v1 : Bool), Weak s (PS.of 78 [(0, .list 13 (List.map cGItem a0) none), (2, .val (.int .i64 0)), (20, .val (.bool v1))] [] [] 0 0) ∧ v1 = x2) ?_ ?_
    · refine PO.case (t := 11) rfl rfl (fun h4 => ?_) (fun h4 => ?_)
      · have e3 := bif_t h4 e3
        refine PO.run 2 rfl ?_
        refine PO.same rfl (len_ok Try.underlying22 rfl (List.length_map _)) rfl ?_
        refine PO.run 1 rfl ?_
        refine Exists.elim (bindI_some e3) (fun y2 hq => ?_)
        have h5 := hq.1
        have h6 := hq.2.1
        have e3 := hq.2.2
        clear hq
        refine PO.same rfl (indexAddr_ok Try.underlying22 rfl rfl rfl h5 (map_at h6)) rfl ?_
        refine PO.run 1 rfl ?_
        refine Exists.elim (bind_some e3) (fun r7 hq => ?_)
        have e8 := hq.1
        have e3 := hq.2
        clear hq
        refine PO.call rfl rfl rfl rfl (ks := []) (ts := []) (fr1 := []) rfl rfl rfl trivial (L16 k y2 _ e8) ?_
        rintro _ _ _ ⟨rfl, rfl, rfl⟩
        refine ⟨_, _, rfl, rfl, ?_⟩
        refine PO.run 1 rfl ?_
        refine PO.same rfl (pickT_ok rfl rfl rfl) rfl ?_
        refine PO.nil ?_
        obtain rfl := Option.some.inj e3
        exact ⟨!r7, Weak.one [] [] (by kernel_rfl), rfl⟩
      · have e3 := bif_f h4 e3
        refine PO.run 8 rfl ?_
        refine PO.same rfl (pickF_ok rfl rfl rfl) rfl ?_
        refine PO.nil ?_
        obtain rfl := Option.some.inj e3
        exact ⟨false, Weak.one [] [] (by kernel_rfl), rfl⟩
    · rintro _ ⟨v1, w9, rfl⟩
      refine PO.weak w9 ?_
      refine PO.nil ?_
      refine PC.cond rfl (fun h10 => ?_) (fun h10 => ?_)
      · have hF := bif_t h10 hF
        refine PC.assoc ?_
        refine PC.run (n := 2) rfl ?_
        obtain rfl := Option.some.inj hF
        exact PC.ret (retSK [] [] (by kernel_rfl) (.refl _) ⟨rfl, rfl, rfl⟩)
      · have hF := bif_f h10 hF
        refine PC.noop ?_
        refine PC.run (n := 2) rfl ?_
        refine PC.assoc ?_
        refine PC.run (n := 2) rfl ?_
        refine Exists.elim (bind_some hF) (fun x11 hq => ?_)
        have e12 := hq.1
        have hF := hq.2
        clear hq
        refine PC.blockJ (fun s => Weak s (PS.of 78 [(2, .val (.int .i64 0))] [] [] 0 0) ∧ .inl () = x11) ?_ ?_
        · refine PC.loop (fun j13 s => ∃ (v5 : Int) (v6 : Int), Weak s (PS.of 78 [(0, .list 13 (List.map cGItem a0) none), (2, .val (.int .i64 0)), (3, .val (.int .i64 v5)), (4, .val (.int .i64 v6))] [] [] 0 0) ∧ F6_l1 k a0 j13 v5 v6 = some x11) (fun j13 s => ?_) k ⟨0, 0, Weak.one [] [] (by kernel_rfl), e12⟩
          rintro ⟨v5, v6, w14, e12⟩
          refine PC.weak w14 ?_
          cases j13 with
          | zero => rw [F6_l1] at e12; cases e12
          | succ j13 =>
            rw [F6_l1] at e12
            refine PC.assoc ?_
            refine PC.region ?_
            refine PO.run 2 rfl ?_
            refine PO.same rfl (len_ok Try.underlying22 rfl (List.length_map _)) rfl ?_
            refine PO.run 1 rfl ?_
            refine PO.nil ?_
            refine PC.cond rfl (fun h15 => ?_) (fun h15 => ?_)
            · have e12 := bif_t h15 e12
              refine PC.noop ?_
              refine Exists.elim (bind_some e12) (fun x16 hq => ?_)
              have e17 := hq.1
              have e12 := hq.2
              clear hq
              refine PC.blockJ (fun s => ∃ (v9 : Int), Weak s (PS.of 78 [(0, .list 13 (List.map cGItem a0) none), (2, .val (.int .i64 0)), (3, .val (.int .i64 v9)), (4, .val (.int .i64 v6))] [] [] 0 0) ∧ .inl v9 = x16) ?_ ?_
              · refine PC.assoc ?_
                refine PC.region ?_
                refine PO.run 2 rfl ?_
                refine Exists.elim (bindI_some e17) (fun y10 hq => ?_)
                have h18 := hq.1
                have h19 := hq.2.1
                have e17 := hq.2.2
                clear hq
                refine PO.same rfl (indexAddr_ok Try.underlying22 rfl rfl rfl h18 (map_at h19)) rfl ?_
                refine PO.run 3 rfl ?_
                refine PO.nil ?_
                refine PC.cond rfl (fun h20 => ?_) (fun h20 => ?_)
                · have e17 := bif_t h20 e17
                  refine PC.assoc ?_
                  refine PC.assoc ?_
                  refine PC.region ?_
                  refine PO.run 2 rfl ?_
                  refine Exists.elim (bind_some e17) (fun r21 hq => ?_)
                  have e22 := hq.1
                  have e17 := hq.2
                  clear hq
                  refine PO.call rfl rfl rfl rfl (ks := []) (ts := []) (fr1 := []) rfl rfl rfl trivial (L17 k a0 v6 _ e22) ?_
                  rintro _ _ _ ⟨rfl, rfl, rfl⟩
                  refine ⟨_, _, rfl, rfl, ?_⟩
                  refine PO.run 1 rfl ?_
                  refine PO.nil ?_
                  refine PC.cond rfl (fun h23 => ?_) (fun h23 => ?_)
                  · have e17 := bif_t h23 e17
                    refine PC.assoc ?_
                    refine PC.run (n := 2) rfl ?_
                    obtain rfl := Option.some.inj e17
                    obtain rfl := Option.some.inj e12
                    obtain rfl := Option.some.inj hF
                    exact PC.ret (blockJK.back (loopKP.ret (blockJK.back (retSK [] [] (by kernel_rfl) (.refl _) ⟨rfl, rfl, rfl⟩))))
                  · have e17 := bif_f h23 e17
                    refine PC.noop ?_
                    obtain rfl := Option.some.inj e17
                    exact PC.exit (blockJK.here ⟨v5, Weak.one [] [] (by kernel_rfl), rfl⟩)
                · have e17 := bif_f h20 e17
                  refine PC.noop ?_
                  refine PC.assoc ?_
                  refine PC.drawn (order := [0, 1, 2, 3, 4, 5, 6, 7, 8, 9, 10, 11, 12, 13, 14, 15, 16, 17, 18, 19, 20, 21, 22, 23, 24, 25, 26, 27, 28, 29, 30, 31, 32, 33, 34, 35]) (by kernel_rfl) ?_
                  refine PO.run 2 rfl ?_
                  refine Exists.elim (bindI_some e17) (fun y11 hq => ?_)
                  have h24 := hq.1
                  have h25 := hq.2.1
                  have e17 := hq.2.2
                  clear hq
                  refine PO.same rfl (indexAddr_ok Try.underlying22 rfl rfl rfl h24 (map_at h25)) rfl ?_
                  refine PO.run 1 rfl ?_
                  refine Exists.elim (bind_some e17) (fun r26 hq => ?_)
                  have e27 := hq.1
                  have e17 := hq.2
                  clear hq
                  refine PO.call rfl rfl rfl rfl (ks := []) (ts := []) (fr1 := []) rfl rfl rfl trivial (L18 k y11 _ e27) ?_
                  rintro _ _ _ ⟨rfl, rfl, rfl⟩
                  refine ⟨_, _, rfl, rfl, ?_⟩
                  refine PO.run 2 rfl ?_
                  refine Exists.elim (bind_some e17) (fun x28 hq => ?_)
                  have e29 := hq.1
                  have e17 := hq.2
                  clear hq
                  refine PO.cut 29 (fun s => ∃ (v12 : Bool), Weak s (PS.of 78 [(0, .list 13 (List.map cGItem a0) none), (2, .val (.int .i64 0)), (3, .val (.int .i64 v5)), (4, .val (.int .i64 v6)), (72, .val (.bool v12))] [] [] 0 0) ∧ v12 = x28) ?_ ?_
                  · refine PO.case (t := 43) rfl rfl (fun h30 => ?_) (fun h30 => ?_)
                    · have e29 := bif_t h30 e29
                      refine PO.run 7 rfl ?_
                      refine PO.same rfl (pickT_ok rfl rfl rfl) rfl ?_
                      refine PO.run 12 rfl ?_
                      refine PO.same rfl (pickT_ok rfl rfl rfl) rfl ?_
                      refine PO.run 7 rfl ?_
                      refine PO.same rfl (pickT_ok rfl rfl rfl) rfl ?_
                      refine PO.nil ?_
                      obtain rfl := Option.some.inj e29
                      exact ⟨true, Weak.one [] [] (by kernel_rfl), rfl⟩
                    · have e29 := bif_f h30 e29
                      refine PO.run 2 rfl ?_
                      refine Exists.elim (bindI_some e29) (fun y13 hq => ?_)
                      have h31 := hq.1
                      have h32 := hq.2.1
                      have e29 := hq.2.2
                      clear hq
                      refine PO.same rfl (indexAddr_ok Try.underlying22 rfl rfl rfl h31 (map_at h32)) rfl ?_
                      refine PO.run 4 rfl ?_
                      refine PO.same rfl (pickF_ok rfl rfl rfl) rfl ?_
                      refine PO.run 1 rfl ?_
                      refine Exists.elim (bind_some e29) (fun x33 hq => ?_)
                      have e34 := hq.1
                      have e29 := hq.2
                      clear hq
                      refine PO.cut 20 (fun s => ∃ (v14 : Bool), Weak s (PS.of 78 [(0, .list 13 (List.map cGItem a0) none), (2, .val (.int .i64 0)), (3, .val (.int .i64 v5)), (4, .val (.int .i64 v6)), (72, .val (.bool v14))] [] [] 0 0) ∧ v14 = x33) ?_ ?_
                      · refine PO.case (t := 52) rfl rfl (fun h35 => ?_) (fun h35 => ?_)
                        · have e34 := bif_t h35 e34
                          refine PO.run 11 rfl ?_
                          refine PO.same rfl (pickT_ok rfl rfl rfl) rfl ?_
                          refine PO.run 7 rfl ?_
                          refine PO.same rfl (pickT_ok rfl rfl rfl) rfl ?_
                          refine PO.nil ?_
                          obtain rfl := Option.some.inj e34
                          exact ⟨true, Weak.one [] [] (by kernel_rfl), rfl⟩
                        · have e34 := bif_f h35 e34
                          refine PO.run 2 rfl ?_
                          refine Exists.elim (bindI_some e34) (fun y15 hq => ?_)
                          have h36 := hq.1
                          have h37 := hq.2.1
                          have e34 := hq.2.2
                          clear hq
                          refine PO.same rfl (indexAddr_ok Try.underlying22 rfl rfl rfl h36 (map_at h37)) rfl ?_
                          refine PO.run 4 rfl ?_
                          refine Exists.elim (bindI_some e34) (fun y16 hq => ?_)
                          have h38 := hq.1
                          have h39 := hq.2.1
                          have e34 := hq.2.2
                          clear hq
                          refine PO.same rfl (indexAddr_ok Try.underlying22 rfl rfl rfl h38 (map_at h39)) rfl ?_
                          refine PO.run 3 rfl ?_
                          refine PO.same rfl (pickF_ok rfl rfl rfl) rfl ?_
                          refine PO.run 1 rfl ?_
                          refine Exists.elim (bind_some e34) (fun x40 hq => ?_)
                          have e41 := hq.1
                          have e34 := hq.2
                          clear hq
                          refine PO.cut 7 (fun s => ∃ (v17 : Bool), Weak s (PS.of 78 [(0, .list 13 (List.map cGItem a0) none), (2, .val (.int .i64 0)), (3, .val (.int .i64 v5)), (4, .val (.int .i64 v6)), (72, .val (.bool v17))] [] [] 0 0) ∧ v17 = x40) ?_ ?_
                          · refine PO.case (t := 65) rfl rfl (fun h42 => ?_) (fun h42 => ?_)
                            · have e41 := bif_t h42 e41
                              refine PO.run 6 rfl ?_
                              refine PO.same rfl (pickT_ok rfl rfl rfl) rfl ?_
                              refine PO.nil ?_
                              obtain rfl := Option.some.inj e41
                              exact ⟨true, Weak.one [] [] (by kernel_rfl), rfl⟩
                            · have e41 := bif_f h42 e41
                              refine PO.run 2 rfl ?_
                              refine Exists.elim (bindI_some e41) (fun y18 hq => ?_)
                              have h43 := hq.1
                              have h44 := hq.2.1
                              have e41 := hq.2.2
                              clear hq
                              refine PO.same rfl (indexAddr_ok Try.underlying22 rfl rfl rfl h43 (map_at h44)) rfl ?_
                              refine PO.run 3 rfl ?_
                              refine PO.same rfl (pickF_ok rfl rfl rfl) rfl ?_
                              refine PO.nil ?_
                              obtain rfl := Option.some.inj e41
                              exact ⟨decide (y18.to_ > 65536), Weak.one [] [] (by kernel_rfl), rfl⟩
                          · rintro _ ⟨v17, w45, rfl⟩
                            refine PO.weak w45 ?_
                            refine PO.nil ?_
                            obtain rfl := Option.some.inj e34
                            exact ⟨v17, Weak.one [] [] (by kernel_rfl), rfl⟩
                      · rintro _ ⟨v14, w46, rfl⟩
                        refine PO.weak w46 ?_
                        refine PO.nil ?_
                        obtain rfl := Option.some.inj e29
                        exact ⟨v14, Weak.one [] [] (by kernel_rfl), rfl⟩
                  · rintro _ ⟨v12, w47, rfl⟩
                    refine PO.weak w47 ?_
                    refine PO.nil ?_
                    refine PC.cond rfl (fun h48 => ?_) (fun h48 => ?_)
                    · have e17 := bif_t h48 e17
                      refine PC.assoc ?_
                      refine PC.run (n := 2) rfl ?_
                      obtain rfl := Option.some.inj e17
                      obtain rfl := Option.some.inj e12
                      obtain rfl := Option.some.inj hF
                      exact PC.ret (blockJK.back (loopKP.ret (blockJK.back (retSK [] [] (by kernel_rfl) (.refl _) ⟨rfl, rfl, rfl⟩))))
                    · have e17 := bif_f h48 e17
                      refine PC.noop ?_
                      refine PC.lone ?_
                      refine PC.region ?_
                      refine PO.run 2 rfl ?_
                      refine Exists.elim (bindI_some e17) (fun y19 hq => ?_)
                      have h49 := hq.1
                      have h50 := hq.2.1
                      have e17 := hq.2.2
                      clear hq
                      refine PO.same rfl (indexAddr_ok Try.underlying22 rfl rfl rfl h49 (map_at h50)) rfl ?_
                      refine PO.run 3 rfl ?_
                      refine PO.nil ?_
                      obtain rfl := Option.some.inj e17
                      exact PC.skip (blockJK.end ⟨y19.to_, Weak.one [] [] (by kernel_rfl), rfl⟩)
              · rintro _ ⟨v9, w51, rfl⟩
                refine PC.weak w51 ?_
                have e12 := elim_l e12
                refine PC.lone ?_
                refine PC.run (n := 4) rfl ?_
                exact PC.skip (loopKP.mk (Nat.lt_succ_self _) ⟨v9, w (v6 + 1), Weak.one [] [] (by kernel_rfl), e12⟩)
            · have e12 := bif_f h15 e12
              obtain rfl := Option.some.inj e12
              exact PC.exit (loopKP.exit (blockJK.here ⟨Weak.one [] [] (by kernel_rfl), rfl⟩))
        · rintro _ ⟨w52, rfl⟩
          refine PC.weak w52 ?_
          have hF := elim_l hF
          refine PC.run (n := 2) rfl ?_
          obtain rfl := Option.some.inj hF
          exact PC.ret' (retSK [] [] (by kernel_rfl) (.refl _) ⟨rfl, rfl, rfl⟩)

/-! 7 platen/platenlaw13.same -/
def F7_l1 (k : Nat) (a0 : List GItem) (a1 : List GItem) : Nat → Int → Option ((Unit) ⊕ (Bool))
  | 0, _ => none
  | j4 + 1, v2 =>
    bif decide (v2 < (a0.length : Int)) then (bindI a0 v2 fun y4 =>
    bindI a1 v2 fun y5 =>
    bif !(y4.kind == y5.kind && (y4.font == y5.font && (y4.size == y5.size && (y4.rune == y5.rune && (y4.width == y5.width && (y4.height == y5.height && (y4.depth == y5.depth && (y4.stretch == y5.stretch && (y4.shrink == y5.shrink && (y4.value == y5.value && (y4.flag == y5.flag && (y4.from_ == y5.from_ && (y4.to_ == y5.to_ && true))))))))))))) then (some (.inr false)) else (F7_l1 k a0 a1 j4 (w (v2 + 1)))) else (some (.inl ()))
def F7 (k : Nat) (a0 : List GItem) (a1 : List GItem) : Option Bool :=
bif (a0.length : Int) != (a1.length : Int) then (some false) else (Option.bind (α := (Unit) ⊕ (Bool)) (F7_l1 k a0 a1 k 0) (Sum.elim (fun (_ : Unit) =>
some true) some))
theorem L7 (k : Nat) (a0 : List GItem) (a1 : List GItem) (r : Bool) (hF : F7 k a0 a1 = some r) : PF Try.prog orc 7 [.list 13 (List.map cGItem a0) none, .list 13 (List.map cGItem a1) none] [] [] (fun p fr tk => p = .val (.bool r) ∧ fr = [] ∧ tk = []) := by
  unfold F7 at hF
  refine PF.enterS Try.func7 rfl rfl rfl (by kernel_rfl) rfl ?_
  refine PC.run (n := 2) rfl ?_
  refine PC.assoc ?_
  refine PC.region ?_
  refine PO.run 1 rfl ?_
  refine PO.same rfl (len_ok Try.underlying22 rfl (List.length_map _)) rfl ?_
  refine PO.run 1 rfl ?_
  refine PO.same rfl (len_ok Try.underlying22 rfl (List.length_map _)) rfl ?_
  refine PO.run 1 rfl ?_
  refine PO.nil ?_
  refine PC.cond rfl (fun h1 => ?_) (fun h1 => ?_)
  · have hF := bif_t h1 hF
    refine PC.assoc ?_
    refine PC.run (n := 2) rfl ?_
    obtain rfl := Option.some.inj hF
    exact PC.ret (retSK [] [] (by kernel_rfl) (.refl _) ⟨rfl, rfl, rfl⟩)
  · have hF := bif_f h1 hF
    refine PC.noop ?_
    refine PC.assoc ?_
    refine PC.region ?_
    refine PO.run 1 rfl ?_
    refine PO.same rfl (len_ok Try.underlying22 rfl (List.length_map _)) rfl ?_
    refine PO.run 1 rfl ?_
    refine PO.nil ?_
    refine Exists.elim (bind_some hF) (fun x2 hq => ?_)
    have e3 := hq.1
    have hF := hq.2
    clear hq
    refine PC.blockJ (fun s => Weak s (PS.of 26 [(4, .val (.bool false))] [] [] 0 0) ∧ .inl () = x2) ?_ ?_
    · refine PC.loop (fun j4 s => ∃ (v2 : Int), Weak s (PS.of 26 [(0, .list 13 (List.map cGItem a0) none), (1, .list 13 (List.map cGItem a1) none), (4, .val (.bool false)), (12, .val (.int .i64 (a0.length : Int))), (13, .val (.int .i64 v2))] [] [] 0 0) ∧ F7_l1 k a0 a1 j4 v2 = some x2) (fun j4 s => ?_) k ⟨0, Weak.one [] [] (by kernel_rfl), e3⟩
      rintro ⟨v2, w5, e3⟩
      refine PC.weak w5 ?_
      cases j4 with
      | zero => rw [F7_l1] at e3; cases e3
      | succ j4 =>
        rw [F7_l1] at e3
        refine PC.run (n := 2) rfl ?_
        refine PC.cond rfl (fun h6 => ?_) (fun h6 => ?_)
        · have e3 := bif_t h6 e3
          refine PC.noop ?_
          refine PC.block ?_
          refine PC.run (n := 3) rfl ?_
          refine PC.drawn (order := [0, 1, 2, 3, 4, 5, 6, 7, 8]) (by kernel_rfl) ?_
          refine PO.run 2 rfl ?_
          refine Exists.elim (bindI_some e3) (fun y4 hq => ?_)
          have h7 := hq.1
          have h8 := hq.2.1
          have e3 := hq.2.2
          clear hq
          refine PO.same rfl (indexAddr_ok Try.underlying22 rfl rfl rfl h7 (map_at h8)) rfl ?_
          refine PO.run 3 rfl ?_
          refine Exists.elim (bindI_some e3) (fun y5 hq => ?_)
          have h9 := hq.1
          have h10 := hq.2.1
          have e3 := hq.2.2
          clear hq
          refine PO.same rfl (indexAddr_ok Try.underlying22 rfl rfl rfl h9 (map_at h10)) rfl ?_
          refine PO.run 1 rfl ?_
          refine PO.same rfl (aggEq_ok (v := .bool (!(y4.kind == y5.kind && (y4.font == y5.font && (y4.size == y5.size && (y4.rune == y5.rune && (y4.width == y5.width && (y4.height == y5.height && (y4.depth == y5.depth && (y4.stretch == y5.stretch && (y4.shrink == y5.shrink && (y4.value == y5.value && (y4.flag == y5.flag && (y4.from_ == y5.from_ && (y4.to_ == y5.to_ && true))))))))))))))) rfl rfl rfl rfl rfl rfl rfl (by kernel_rfl)) rfl ?_
          refine PO.nil ?_
          refine PC.lone ?_
          refine PC.cond rfl (fun h11 => ?_) (fun h11 => ?_)
          · have e3 := bif_t h11 e3
            refine PC.assoc ?_
            refine PC.run (n := 2) rfl ?_
            obtain rfl := Option.some.inj e3
            obtain rfl := Option.some.inj hF
            exact PC.ret (blockKP.back (loopKP.ret (blockJK.back (retSK [] [] (by kernel_rfl) (.refl _) ⟨rfl, rfl, rfl⟩))))
          · have e3 := bif_f h11 e3
            refine PC.noop ?_
            refine PC.skip (blockKP.end ?_)
            refine PC.lone ?_
            refine PC.run (n := 3) rfl ?_
            exact PC.skip (loopKP.mk (Nat.lt_succ_self _) ⟨w (v2 + 1), Weak.one [] [] (by kernel_rfl), e3⟩)
        · have e3 := bif_f h6 e3
          obtain rfl := Option.some.inj e3
          exact PC.exit (loopKP.exit (blockJK.here ⟨Weak.one [] [] (by kernel_rfl), rfl⟩))
    · rintro _ ⟨w12, rfl⟩
      refine PC.weak w12 ?_
      have hF := elim_l hF
      refine PC.run (n := 2) rfl ?_
      obtain rfl := Option.some.inj hF
      exact PC.ret' (retSK [] [] (by kernel_rfl) (.refl _) ⟨rfl, rfl, rfl⟩)

/-! 3 platen/platenlaw13.ItemsChecks -/
def F3_l1 (k : Nat) (a0 : List GItem) (l2 : List GItem) : Nat → Int → Option ((Unit) ⊕ (Bool))
  | 0, _ => none
  | j6 + 1, v4 =>
    bif decide (v4 < 2) then (bindS l2 0 (a0.length : Int) fun l6 =>
    (F5 k l6).bind fun r12 =>
    (F6 k a0).bind fun r14 =>
    bif r12 != r14 then (some (.inr false)) else (F3_l1 k a0 l2 j6 (w (v4 + 1)))) else (some (.inl ()))
def F3 (k : Nat) (a0 : List GItem) : Option Bool :=
bindA 112 ([] : List GItem) a0 fun l1 =>
bindA 112 l1 ([(GItem.mk (-7) ByteArray.empty 0 0 0 0 0 0 0 0 false 0 0)]) fun l2 =>
Option.bind (α := (Unit) ⊕ (Bool)) (F3_l1 k a0 l2 k 0) (Sum.elim (fun (_ : Unit) =>
bindS l2 0 (a0.length : Int) fun l7 =>
(F7 k l7 a0).bind fun r21 =>
Option.bind (α := Bool) (bif r21 then (bindI l2 (a0.length : Int) fun y9 =>
some (y9.kind == (-7) && (y9.font == ByteArray.empty && (y9.size == 0 && (y9.rune == 0 && (y9.width == 0 && (y9.height == 0 && (y9.depth == 0 && (y9.stretch == 0 && (y9.shrink == 0 && (y9.value == 0 && (y9.flag == false && (y9.from_ == 0 && (y9.to_ == 0 && true)))))))))))))) else (some false)) fun (v8 : Bool) =>
some v8) some)
theorem L3 (k : Nat) (a0 : List GItem) (r : Bool) (hF : F3 k a0 = some r) : PF Try.prog orc 3 [.list 13 (List.map cGItem a0) none] [] [] (fun p fr tk => p = .val (.bool r) ∧ fr = [] ∧ tk = []) := by
  unfold F3 at hF
  refine PF.enterS Try.func3 rfl rfl rfl (by kernel_rfl) rfl ?_
  refine PC.run (n := 2) rfl ?_
  refine PC.assoc ?_
  refine PC.region ?_
  refine PO.call rfl rfl rfl rfl (ks := []) (ts := []) (fr1 := []) rfl rfl rfl trivial K4 ?_
  rintro _ _ _ ⟨rfl, rfl, rfl⟩
  refine ⟨_, _, rfl, rfl, ?_⟩
  refine PO.run 1 rfl ?_
  refine PO.nil ?_
  refine PC.cond rfl (fun h1 => Bool.noConfusion h1) (fun _ => ?_)
  refine PC.noop ?_
  refine PC.region ?_
  refine PO.runK 2 [] [0] (es := [(0, .list 13 (List.map cGItem a0) none), (2, .val (.bool false)), (6, .list 13 (List.map cGItem ([] : List GItem)) (some 0)), (7, .list 13 (List.map cGItem a0) none)]) (fr' := []) (tk' := [0]) (by kernel_rfl) ?_
  have hq := bindA_some hF
  have h2 := hq.1
  have hF := hq.2
  clear hq
  generalize hgl1 : ([] : List GItem) ++ a0 = l1 at hF
  refine PO.one rfl (append_typed (L := ([] : List GItem)) (M := a0) (f := cGItem) (sz := 13) (bytes := 112) Try.underlying22 rfl rfl rfl rfl rfl rfl rfl rfl rfl rfl rfl rfl h2 hgl1) rfl ?_
  refine PO.runK 2 [] [0, 1] (es := [(0, .list 13 (List.map cGItem a0) none), (2, .val (.bool false)), (8, .list 13 (List.map cGItem l1) (some 0)), (10, .list 13 (List.map cGItem ([(GItem.mk (-7) ByteArray.empty 0 0 0 0 0 0 0 0 false 0 0)])) (some 1))]) (fr' := []) (tk' := [l1.length, 1]) (by kernel_rfl) ?_
  have hq := bindA_some hF
  have h3 := hq.1
  have hF := hq.2
  clear hq
  generalize hgl2 : l1 ++ ([(GItem.mk (-7) ByteArray.empty 0 0 0 0 0 0 0 0 false 0 0)]) = l2 at hF
  refine PO.one rfl (append_typed (L := l1) (M := [(GItem.mk (-7) ByteArray.empty 0 0 0 0 0 0 0 0 false 0 0)]) (f := cGItem) (sz := 13) (bytes := 112) Try.underlying22 rfl rfl rfl rfl rfl rfl rfl rfl rfl rfl rfl rfl h3 hgl2) rfl ?_
  refine PO.run 1 rfl ?_
  refine PO.nil ?_
  refine PC.assoc ?_
  refine PC.run (n := 2) rfl ?_
  refine Exists.elim (bind_some hF) (fun x4 hq => ?_)
  have e5 := hq.1
  have hF := hq.2
  clear hq
  refine PC.blockJ (fun s => Weak s (PS.of 38 [(0, .list 13 (List.map cGItem a0) none), (2, .val (.bool false)), (3, .list 13 (List.map cGItem l2) (some 0))] [] [l2.length] 0 0) ∧ .inl () = x4) ?_ ?_
  · refine PC.loop (fun j6 s => ∃ (v4 : Int), Weak s (PS.of 38 [(0, .list 13 (List.map cGItem a0) none), (2, .val (.bool false)), (3, .list 13 (List.map cGItem l2) (some 0)), (12, .val (.int .i64 v4))] [] [l2.length] 0 0) ∧ F3_l1 k a0 l2 j6 v4 = some x4) (fun j6 s => ?_) k ⟨0, Weak.one [] [0] (by kernel_rfl), e5⟩
    rintro ⟨v4, w7, e5⟩
    refine PC.weak w7 ?_
    cases j6 with
    | zero => rw [F3_l1] at e5; cases e5
    | succ j6 =>
      rw [F3_l1] at e5
      refine PC.run (n := 2) rfl ?_
      refine PC.cond rfl (fun h8 => ?_) (fun h8 => ?_)
      · have e5 := bif_t h8 e5
        refine PC.noop ?_
        refine PC.block ?_
        refine PC.region ?_
        refine PO.run 2 rfl ?_
        refine PO.same rfl (len_ok Try.underlying22 rfl (List.length_map _)) rfl ?_
        have hq := bindS_some e5
        have h9 := hq.1
        have h10 := hq.2.1
        have h11 := hq.2.2.1
        have e5 := hq.2.2.2
        clear hq
        generalize hgl6 : (List.take (Int.toNat (a0.length : Int)) l2).drop (Int.toNat 0) = l6 at e5
        refine PO.same rfl (slice_ok (l2 := List.map cGItem l6) Try.underlying22 rfl rfl .none (.some rfl (Int.le_trans h9 h10) rfl) (Int.toNat_le_toNat h10) (toNat_le1 h11) (by rw [← hgl6, List.map_drop, List.map_take] <;> first | rfl | simp [w])) rfl ?_
        refine Exists.elim (bind_some e5) (fun r12 hq => ?_)
        have e13 := hq.1
        have e5 := hq.2
        clear hq
        refine PO.call rfl rfl rfl rfl (ks := []) (ts := []) (fr1 := []) rfl rfl rfl trivial (L5 k l6 _ e13) ?_
        rintro _ _ _ ⟨rfl, rfl, rfl⟩
        refine ⟨_, _, rfl, rfl, ?_⟩
        refine PO.run 1 rfl ?_
        refine Exists.elim (bind_some e5) (fun r14 hq => ?_)
        have e15 := hq.1
        have e5 := hq.2
        clear hq
        refine PO.call rfl rfl rfl rfl (ks := []) (ts := []) (fr1 := []) rfl rfl rfl trivial (L6 k a0 _ e15) ?_
        rintro _ _ _ ⟨rfl, rfl, rfl⟩
        refine ⟨_, _, rfl, rfl, ?_⟩
        refine PO.run 1 rfl ?_
        refine PO.nil ?_
        refine PC.lone ?_
        refine PC.cond rfl (fun h16 => ?_) (fun h16 => ?_)
        · have e5 := bif_t h16 e5
          refine PC.assoc ?_
          refine PC.run (n := 2) rfl ?_
          obtain rfl := Option.some.inj e5
          obtain rfl := Option.some.inj hF
          exact PC.ret (blockKP.back (loopKP.ret (blockJK.back (retSK [] [] (by kernel_rfl) (.refl _) ⟨rfl, rfl, rfl⟩))))
        · have e5 := bif_f h16 e5
          refine PC.noop ?_
          refine PC.skip (blockKP.end ?_)
          refine PC.lone ?_
          refine PC.run (n := 3) rfl ?_
          exact PC.skip (loopKP.mk (Nat.lt_succ_self _) ⟨w (v4 + 1), Weak.one [] [0] (by kernel_rfl), e5⟩)
      · have e5 := bif_f h8 e5
        obtain rfl := Option.some.inj e5
        exact PC.exit (loopKP.exit (blockJK.here ⟨Weak.one [] [0] (by kernel_rfl), rfl⟩))
  · rintro _ ⟨w17, rfl⟩
    refine PC.weak w17 ?_
    have hF := elim_l hF
    refine PC.region ?_
    refine PO.run 2 rfl ?_
    refine PO.same rfl (len_ok Try.underlying22 rfl (List.length_map _)) rfl ?_
    have hq := bindS_some hF
    have h18 := hq.1
    have h19 := hq.2.1
    have h20 := hq.2.2.1
    have hF := hq.2.2.2
    clear hq
    generalize hgl7 : (List.take (Int.toNat (a0.length : Int)) l2).drop (Int.toNat 0) = l7 at hF
    refine PO.same rfl (slice_ok (l2 := List.map cGItem l7) Try.underlying22 rfl rfl .none (.some rfl (Int.le_trans h18 h19) rfl) (Int.toNat_le_toNat h19) (toNat_le1 h20) (by rw [← hgl7, List.map_drop, List.map_take] <;> first | rfl | simp [w])) rfl ?_
    refine PO.run 1 rfl ?_
    refine Exists.elim (bind_some hF) (fun r21 hq => ?_)
    have e22 := hq.1
    have hF := hq.2
    clear hq
    refine PO.call rfl rfl rfl rfl (ks := []) (ts := []) (fr1 := []) rfl rfl rfl trivial (L7 k l7 a0 _ e22) ?_
    rintro _ _ _ ⟨rfl, rfl, rfl⟩
    refine ⟨_, _, rfl, rfl, ?_⟩
    refine PO.run 1 rfl ?_
    refine Exists.elim (bind_some hF) (fun x23 hq => ?_)
    have e24 := hq.1
    have hF := hq.2
    clear hq
    refine PO.cut 8 (fun s => ∃ (v8 : Bool), Weak s (PS.of 38 [(2, .val (.bool false)), (37, .val (.bool v8))] [] [] 0 0) ∧ v8 = x23) ?_ ?_
    · refine PO.case (t := 29) rfl rfl (fun h25 => ?_) (fun h25 => ?_)
      · have e24 := bif_t h25 e24
        refine PO.run 2 rfl ?_
        refine PO.same rfl (len_ok Try.underlying22 rfl (List.length_map _)) rfl ?_
        refine Exists.elim (bindI_some e24) (fun y9 hq => ?_)
        have h26 := hq.1
        have h27 := hq.2.1
        have e24 := hq.2.2
        clear hq
        refine PO.same rfl (indexAddr_ok Try.underlying22 rfl rfl rfl h26 (map_at h27)) rfl ?_
        refine PO.runK 2 [] [] (es := [(2, .val (.bool false)), (29, .val (.bool true)), (34, .agg (cGItem y9)), (35, .agg [.val (.int .i64 (-7)), .val (.string ByteArray.empty), .val (.int .i64 0), .val (.int .i64 0), .val (.int .i64 0), .val (.int .i64 0), .val (.int .i64 0), .val (.int .i64 0), .val (.int .i64 0), .val (.int .i64 0), .val (.bool false), .val (.int .i64 0), .val (.int .i64 0)])]) (fr' := []) (tk' := []) (by kernel_rfl) ?_
        refine PO.same rfl (aggEq_ok (v := .bool (y9.kind == (-7) && (y9.font == ByteArray.empty && (y9.size == 0 && (y9.rune == 0 && (y9.width == 0 && (y9.height == 0 && (y9.depth == 0 && (y9.stretch == 0 && (y9.shrink == 0 && (y9.value == 0 && (y9.flag == false && (y9.from_ == 0 && (y9.to_ == 0 && true)))))))))))))) rfl rfl rfl rfl rfl rfl rfl (by kernel_rfl)) rfl ?_
        refine PO.same rfl (pickT_ok rfl rfl rfl) rfl ?_
        refine PO.nil ?_
        obtain rfl := Option.some.inj e24
        exact ⟨(y9.kind == (-7) && (y9.font == ByteArray.empty && (y9.size == 0 && (y9.rune == 0 && (y9.width == 0 && (y9.height == 0 && (y9.depth == 0 && (y9.stretch == 0 && (y9.shrink == 0 && (y9.value == 0 && (y9.flag == false && (y9.from_ == 0 && (y9.to_ == 0 && true))))))))))))), Weak.one [] [] (by kernel_rfl), rfl⟩
      · have e24 := bif_f h25 e24
        refine PO.run 7 rfl ?_
        refine PO.same rfl (pickF_ok rfl rfl rfl) rfl ?_
        refine PO.nil ?_
        obtain rfl := Option.some.inj e24
        exact ⟨false, Weak.one [] [] (by kernel_rfl), rfl⟩
    · rintro _ ⟨v8, w28, rfl⟩
      refine PO.weak w28 ?_
      refine PO.run 1 rfl ?_
      refine PO.nil ?_
      obtain rfl := Option.some.inj hF
      exact PC.ret' (retSK [] [] (by kernel_rfl) (.refl _) ⟨rfl, rfl, rfl⟩)

end
end Go.Eng.Lift
