import Derived.Test.YtfgccgoeiedbnaaX3a
import Derived.Test.YtfgccgoeiedbnaaProg
import Derived.KernelRfl
set_option linter.unusedVariables false
set_option linter.unusedSimpArgs false
set_option maxRecDepth 100000
set_option maxHeartbeats 4000000
namespace Go.Eng.Lift
open Go.Proofs
noncomputable section
/-! 21 platen/glue.how -/
def F21_l1 (k : Nat) (a0 : List GItem) : Nat → Int → Int → Int → Option (Int × Int)
  | 0, _, _, _ => none
  | j3 + 1, v6, v7, v8 =>
    bif decide (v8 < (a0.length : Int)) then (Option.bind (α := Int × Int) (bindI a0 v8 fun y14 =>
    bif y14.kind == 3 then (some (w (v6 + y14.stretch), w (v7 + y14.shrink))) else (some (v6, v7))) fun (v12, v13) =>
    F21_l1 k a0 j3 v12 v13 (w (v8 + 1))) else (some (v6, v7))
def F21 (k : Nat) (a0 : List GItem) (a1 : GLine) : Option Gsetting :=
Option.bind (α := Int × Int) (F21_l1 k a0 k 0 0 0) fun (v1, v2) =>
Option.bind (α := Bool) (bif decide (a1.short > 0) then (Option.bind (α := Bool) (bif decide (v1 > 0) then (some (!a1.end_)) else (some false)) fun (v16 : Bool) =>
some v16) else (some false)) fun (v15 : Bool) =>
bif v15 then (some (Gsetting.mk a1.short v1 true 0)) else (Option.bind (α := Bool) (bif decide (a1.short < 0) then (some (decide (v2 > 0))) else (some false)) fun (v17 : Bool) =>
bif v17 then (Option.bind (α := Int) (bif decide (a1.short > (w (0 - v2))) then (some (w (0 - a1.short))) else (some v2)) fun (v18 : Int) =>
some (Gsetting.mk v18 v2 false 0)) else (some (Gsetting.mk 0 0 false 0)))
theorem L21 (k : Nat) (a0 : List GItem) (a1 : GLine) (r : Gsetting) (hF : F21 k a0 a1 = some r) : PF Try.prog orc 21 [.list 13 (List.map cGItem a0) none, .agg (cGLine a1)] [] [] (fun p fr tk => p = .agg (cGsetting r) ∧ fr = [] ∧ tk = []) := by
  unfold F21 at hF
  refine PF.enterS Try.func21 rfl rfl rfl (by kernel_rfl) rfl ?_
  refine PC.region ?_
  refine PO.runK 2 [0, 1] [] (es := [(0, .list 13 (List.map cGItem a0) none), (3, .ptr 0 0), (4, .ptr 1 0)]) (fr' := [⟨0, (cGLine a1)⟩, ⟨0, [.val (.int .i64 0), .val (.int .i64 0), .val (.bool false), .val (.int .i64 0)]⟩]) (tk' := []) (by kernel_rfl) ?_
  refine PO.nil ?_
  refine PC.run (n := 3) rfl ?_
  refine PC.assoc ?_
  refine PC.region ?_
  refine PO.run 1 rfl ?_
  refine PO.same rfl (len_ok Try.underlying22 rfl (List.length_map _)) rfl ?_
  refine PO.run 1 rfl ?_
  refine PO.nil ?_
  refine bindK hF (fun x1 e2 hF => ?_)
  refine PC.blockJ (fun s => ∃ (v1 : Int) (v2 : Int), Weak s (PS.of 66 [(3, .ptr 0 0), (4, .ptr 1 0), (5, .val (.int .i64 v1)), (6, .val (.int .i64 v2))] [⟨0, (cGLine a1)⟩, ⟨0, [.val (.int .i64 0), .val (.int .i64 0), .val (.bool false), .val (.int .i64 0)]⟩] [] 0 0) ∧ (v1, v2) = x1) ?_ ?_
  · refine PC.loop (fun j3 s => ∃ (v6 : Int) (v7 : Int) (v8 : Int), Weak s (PS.of 66 [(3, .ptr 0 0), (4, .ptr 1 0), (5, .val (.int .i64 v6)), (6, .val (.int .i64 v7)), (10, .list 13 (List.map cGItem a0) none), (11, .val (.int .i64 (a0.length : Int))), (12, .val (.int .i64 v8))] [⟨0, (cGLine a1)⟩, ⟨0, [.val (.int .i64 0), .val (.int .i64 0), .val (.bool false), .val (.int .i64 0)]⟩] [] 0 0) ∧ F21_l1 k a0 j3 v6 v7 v8 = some x1) (fun j3 s => ?_) k ⟨0, 0, 0, Weak.one [0, 1] [] (by kernel_rfl), e2⟩
    rintro ⟨v6, v7, v8, w4, e2⟩
    refine PC.weak w4 ?_
    cases j3 with
    | zero => rw [F21_l1] at e2; cases e2
    | succ j3 =>
      rw [F21_l1] at e2
      refine PC.run (n := 2) rfl ?_
      refine PC.cond rfl (fun h5 => ?_) (fun h5 => ?_)
      · have e2 := bif_t h5 e2
        refine PC.noop ?_
        refine bindK e2 (fun x6 e7 e2 => ?_)
        refine PC.blockJ (fun s => ∃ (v12 : Int) (v13 : Int), Weak s (PS.of 66 [(3, .ptr 0 0), (4, .ptr 1 0), (5, .val (.int .i64 v12)), (6, .val (.int .i64 v13)), (10, .list 13 (List.map cGItem a0) none), (11, .val (.int .i64 (a0.length : Int))), (12, .val (.int .i64 v8))] [⟨0, (cGLine a1)⟩, ⟨0, [.val (.int .i64 0), .val (.int .i64 0), .val (.bool false), .val (.int .i64 0)]⟩] [] 0 0) ∧ (v12, v13) = x6) ?_ ?_
        · refine PC.region ?_
          refine bindIK e7 (fun y14 h8 h9 e7 => ?_)
          refine PO.same rfl (indexAddr_ok Try.underlying22 rfl rfl rfl h8 (map_at h9)) rfl ?_
          refine PO.runK 3 [0, 1, 2] [] (es := [(3, .ptr 0 0), (4, .ptr 1 0), (5, .val (.int .i64 v6)), (6, .val (.int .i64 v7)), (8, .ptr 2 0), (10, .list 13 (List.map cGItem a0) none), (11, .val (.int .i64 (a0.length : Int))), (12, .val (.int .i64 v8))]) (fr' := [⟨0, (cGLine a1)⟩, ⟨0, [.val (.int .i64 0), .val (.int .i64 0), .val (.bool false), .val (.int .i64 0)]⟩, ⟨0, (cGItem y14)⟩]) (tk' := []) (by kernel_rfl) ?_
          refine PO.nil ?_
          refine PC.run (n := 4) rfl ?_
          refine PC.lone ?_
          refine PC.cond rfl (fun h10 => ?_) (fun h10 => ?_)
          · have e7 := bif_t h10 e7
            refine PC.assoc ?_
            refine PC.run (n := 6) rfl ?_
            refine PC.run (n := 6) rfl ?_
            exact PC.skip (blockJK.end ⟨w (v6 + y14.stretch), w (v7 + y14.shrink), Weak.one [0, 1] [] (by kernel_rfl), Option.some.inj e7⟩)
          · have e7 := bif_f h10 e7
            refine PC.noop ?_
            exact PC.skip (blockJK.end ⟨v6, v7, Weak.one [0, 1] [] (by kernel_rfl), Option.some.inj e7⟩)
        · rintro _ ⟨v12, v13, w11, rfl⟩
          refine PC.weak w11 ?_
          refine PC.lone ?_
          refine PC.run (n := 3) rfl ?_
          exact PC.skip (loopKP.mk (Nat.lt_succ_self _) ⟨v12, v13, w (v8 + 1), Weak.one [0, 1] [] (by kernel_rfl), e2⟩)
      · have e2 := bif_f h5 e2
        exact PC.exit (loopKP.exit (blockJK.here ⟨v6, v7, Weak.one [0, 1] [] (by kernel_rfl), Option.some.inj e2⟩))
  · rintro _ ⟨v1, v2, w12, rfl⟩
    refine PC.weak w12 ?_
    refine PC.block ?_
    refine PC.region ?_
    refine PO.run 4 rfl ?_
    refine bindK hF (fun x13 e14 hF => ?_)
    refine PO.cut 8 (fun s => ∃ (v15 : Bool), Weak s (PS.of 66 [(3, .ptr 0 0), (4, .ptr 1 0), (5, .val (.int .i64 v1)), (6, .val (.int .i64 v2)), (40, .val (.bool v15))] [⟨0, (cGLine a1)⟩, ⟨0, [.val (.int .i64 0), .val (.int .i64 0), .val (.bool false), .val (.int .i64 0)]⟩] [] 0 0) ∧ v15 = x13) ?_ ?_
    · refine PO.case (t := 32) rfl rfl (fun h15 => ?_) (fun h15 => ?_)
      · have e14 := bif_t h15 e14
        refine PO.run 2 rfl ?_
        refine PO.same rfl (pickT_ok rfl rfl rfl) rfl ?_
        refine PO.run 1 rfl ?_
        refine bindK e14 (fun x16 e17 e14 => ?_)
        refine PO.cut 4 (fun s => ∃ (v16 : Bool), Weak s (PS.of 66 [(3, .ptr 0 0), (4, .ptr 1 0), (5, .val (.int .i64 v1)), (6, .val (.int .i64 v2)), (40, .val (.bool v16))] [⟨0, (cGLine a1)⟩, ⟨0, [.val (.int .i64 0), .val (.int .i64 0), .val (.bool false), .val (.int .i64 0)]⟩] [] 0 0) ∧ v16 = x16) ?_ ?_
        · refine PO.case (t := 36) rfl rfl (fun h18 => ?_) (fun h18 => ?_)
          · have e17 := bif_t h18 e17
            refine PO.run 3 rfl ?_
            refine PO.same rfl (pickT_ok rfl rfl rfl) rfl ?_
            refine PO.nil ?_
            exact ⟨!a1.end_, Weak.one [0, 1] [] (by kernel_rfl), Option.some.inj e17⟩
          · have e17 := bif_f h18 e17
            refine PO.run 3 rfl ?_
            refine PO.same rfl (pickF_ok rfl rfl rfl) rfl ?_
            refine PO.nil ?_
            exact ⟨false, Weak.one [0, 1] [] (by kernel_rfl), Option.some.inj e17⟩
        · rintro _ ⟨v16, w19, rfl⟩
          refine PO.weak w19 ?_
          refine PO.nil ?_
          exact ⟨v16, Weak.one [0, 1] [] (by kernel_rfl), Option.some.inj e14⟩
      · have e14 := bif_f h15 e14
        refine PO.run 2 rfl ?_
        refine PO.same rfl (pickF_ok rfl rfl rfl) rfl ?_
        refine PO.run 4 rfl ?_
        refine PO.same rfl (pickF_ok rfl rfl rfl) rfl ?_
        refine PO.nil ?_
        exact ⟨false, Weak.one [0, 1] [] (by kernel_rfl), Option.some.inj e14⟩
    · rintro _ ⟨v15, w20, rfl⟩
      refine PO.weak w20 ?_
      refine PO.run 1 rfl ?_
      refine PO.nil ?_
      refine PC.lone ?_
      refine PC.cond rfl (fun h21 => ?_) (fun h21 => ?_)
      · have hF := bif_t h21 hF
        refine PC.assoc ?_
        refine PC.region ?_
        refine PO.runK 5 [1] [] (es := [(4, .ptr 0 0)]) (fr' := [⟨0, [.val (.int .i64 a1.short), .val (.int .i64 v1), .val (.bool true), .val (.int .i64 0)]⟩]) (tk' := []) (by kernel_rfl) ?_
        refine PO.nil ?_
        have hq := Option.some.inj hF
        subst hq
        exact PC.ret (blockKP.back (retSK [] [] (by kernel_rfl) (.refl _) ⟨rfl, rfl, rfl⟩))
      · have hF := bif_f h21 hF
        refine PC.assoc ?_
        refine PC.region ?_
        refine PO.run 4 rfl ?_
        refine bindK hF (fun x22 e23 hF => ?_)
        refine PO.cut 3 (fun s => ∃ (v17 : Bool), Weak s (PS.of 66 [(3, .ptr 0 0), (4, .ptr 1 0), (6, .val (.int .i64 v2)), (52, .val (.bool v17))] [⟨0, (cGLine a1)⟩, ⟨0, [.val (.int .i64 0), .val (.int .i64 0), .val (.bool false), .val (.int .i64 0)]⟩] [] 0 0) ∧ v17 = x22) ?_ ?_
        · refine PO.case (t := 49) rfl rfl (fun h24 => ?_) (fun h24 => ?_)
          · have e23 := bif_t h24 e23
            refine PO.run 2 rfl ?_
            refine PO.same rfl (pickT_ok rfl rfl rfl) rfl ?_
            refine PO.nil ?_
            exact ⟨decide (v2 > 0), Weak.one [0, 1] [] (by kernel_rfl), Option.some.inj e23⟩
          · have e23 := bif_f h24 e23
            refine PO.run 2 rfl ?_
            refine PO.same rfl (pickF_ok rfl rfl rfl) rfl ?_
            refine PO.nil ?_
            exact ⟨false, Weak.one [0, 1] [] (by kernel_rfl), Option.some.inj e23⟩
        · rintro _ ⟨v17, w25, rfl⟩
          refine PO.weak w25 ?_
          refine PO.run 1 rfl ?_
          refine PO.nil ?_
          refine PC.cond rfl (fun h26 => ?_) (fun h26 => ?_)
          · have hF := bif_t h26 hF
            refine PC.assoc ?_
            refine PC.run (n := 3) rfl ?_
            refine PC.assoc ?_
            refine PC.assoc ?_
            refine PC.run (n := 6) rfl ?_
            refine bindK hF (fun x27 e28 hF => ?_)
            refine PC.join (fun s => ∃ (v18 : Int), Weak s (PS.of 66 [(4, .ptr 0 0), (6, .val (.int .i64 v2)), (9, .val (.int .i64 v18))] [⟨0, [.val (.int .i64 0), .val (.int .i64 0), .val (.bool false), .val (.int .i64 0)]⟩] [] 0 0) ∧ v18 = x27) ?_ ?_
            · refine PC.cond rfl (fun h29 => ?_) (fun h29 => ?_)
              · have e28 := bif_t h29 e28
                refine PC.run (n := 5) rfl ?_
                exact PC.skip (joinKP.end ⟨w (0 - a1.short), Weak.one [1] [] (by kernel_rfl), Option.some.inj e28⟩)
              · have e28 := bif_f h29 e28
                refine PC.noop ?_
                exact PC.skip (joinKP.end ⟨v2, Weak.one [1] [] (by kernel_rfl), Option.some.inj e28⟩)
            · rintro _ ⟨v18, w30, rfl⟩
              refine PC.weak w30 ?_
              refine PC.assoc ?_
              refine PC.region ?_
              refine PO.runK 4 [0] [] (es := [(4, .ptr 0 0)]) (fr' := [⟨0, [.val (.int .i64 v18), .val (.int .i64 v2), .val (.bool false), .val (.int .i64 0)]⟩]) (tk' := []) (by kernel_rfl) ?_
              refine PO.nil ?_
              have hq := Option.some.inj hF
              subst hq
              exact PC.ret (blockKP.back (retSK [] [] (by kernel_rfl) (.refl _) ⟨rfl, rfl, rfl⟩))
          · have hF := bif_f h26 hF
            refine PC.noop ?_
            refine PC.skip (blockKP.end ?_)
            refine PC.region ?_
            refine PO.runK 2 [1] [] (es := [(4, .ptr 0 0)]) (fr' := [⟨0, [.val (.int .i64 0), .val (.int .i64 0), .val (.bool false), .val (.int .i64 0)]⟩]) (tk' := []) (by kernel_rfl) ?_
            refine PO.nil ?_
            have hq := Option.some.inj hF
            subst hq
            exact PC.ret' (retSK [] [] (by kernel_rfl) (.refl _) ⟨rfl, rfl, rfl⟩)

/-! 36_s (*platen/meter.Meter).charge$1 -/
def F36_s (k : Nat) (a0 : GMeter) (a1 : Int) (a2 : Bool) (a3 : Int) : Option (GMeter × Int × Bool × Int) :=
Option.bind (α := Int) (bif !a2 then (some a1) else (some a0.refused)) fun (v1 : Int) =>
some ((GMeter.mk (w (a0.steps_now + a3)) (if w (a0.steps_now + a3) > a0.steps_peak then w (a0.steps_now + a3) else a0.steps_peak) a0.steps_budget a0.cells_now a0.cells_peak a0.cells_budget v1), a1, a2, a3)
theorem B36_s (k : Nat) (a0 : GMeter) (a1 : Int) (a2 : Bool) (a3 : Int) (r : GMeter × Int × Bool × Int) (hF : F36_s k a0 a1 a2 a3 = some r) : PB Try.prog orc 36 [.ptr 2 0, .ptr 5 0, .ptr 4 0, .ptr 3 0, .ptr 1 0] [⟨0, (cGMeter a0)⟩, ⟨0, [.ptr 0 0]⟩, ⟨0, [.ptr 0 0]⟩, ⟨0, [.val (.int .i64 a1)]⟩, ⟨0, [.val (.bool a2)]⟩, ⟨0, [.val (.int .i64 a3)]⟩] [] (fun p fr tk => p = .tup [] ∧ fr = [⟨0, (cGMeter r.1)⟩, ⟨0, [.ptr 0 0]⟩, ⟨0, [.ptr 0 0]⟩, ⟨0, [.val (.int .i64 r.2.1)]⟩, ⟨0, [.val (.bool r.2.2.1)]⟩, ⟨0, [.val (.int .i64 r.2.2.2)]⟩] ∧ tk = []) := by
  unfold F36_s at hF
  refine PB.enterS Try.func36 rfl rfl rfl (by kernel_rfl) ?_
  refine PC.drawn (order := [0, 1, 2, 3, 4, 5, 6, 7, 8]) (by kernel_rfl) ?_
  refine PO.runK 9 [0, 1, 2, 3, 4, 5] [] (es := [(0, .ptr 2 0), (2, .ptr 4 0), (3, .ptr 3 0), (4, .ptr 1 0)]) (fr' := [⟨0, [.val (.int .i64 (w (a0.steps_now + a3))), .val (.int .i64 a0.steps_peak), .val (.int .i64 a0.steps_budget), .val (.int .i64 a0.cells_now), .val (.int .i64 a0.cells_peak), .val (.int .i64 a0.cells_budget), .val (.int .i64 a0.refused)]⟩, ⟨0, [.ptr 0 0]⟩, ⟨0, [.ptr 0 0]⟩, ⟨0, [.val (.int .i64 a1)]⟩, ⟨0, [.val (.bool a2)]⟩, ⟨0, [.val (.int .i64 a3)]⟩]) (tk' := []) (by kernel_rfl) ?_
  refine PO.nil ?_
  refine PC.drawn (order := [0, 1, 2, 3, 4, 5, 6, 7, 8, 9, 10, 11, 12]) (by kernel_rfl) ?_
  refine PO.runK 13 [0, 1, 2, 3, 4, 5] [] (es := [(2, .ptr 4 0), (3, .ptr 3 0), (4, .ptr 1 0)]) (fr' := [⟨0, [.val (.int .i64 (w (a0.steps_now + a3))), .val (.int .i64 (if w (a0.steps_now + a3) > a0.steps_peak then w (a0.steps_now + a3) else a0.steps_peak)), .val (.int .i64 a0.steps_budget), .val (.int .i64 a0.cells_now), .val (.int .i64 a0.cells_peak), .val (.int .i64 a0.cells_budget), .val (.int .i64 a0.refused)]⟩, ⟨0, [.ptr 0 0]⟩, ⟨0, [.ptr 0 0]⟩, ⟨0, [.val (.int .i64 a1)]⟩, ⟨0, [.val (.bool a2)]⟩, ⟨0, [.val (.int .i64 a3)]⟩]) (tk' := []) (by kernel_rfl) ?_
  refine PO.nil ?_
  refine PC.run (n := 3) rfl ?_
  refine PC.lone ?_
  refine bindK hF (fun x1 e2 hF => ?_)
  refine PC.join (fun s => ∃ (v1 : Int), Weak s (PS.of 31 [] [⟨0, [.val (.int .i64 (w (a0.steps_now + a3))), .val (.int .i64 (if w (a0.steps_now + a3) > a0.steps_peak then w (a0.steps_now + a3) else a0.steps_peak)), .val (.int .i64 a0.steps_budget), .val (.int .i64 a0.cells_now), .val (.int .i64 a0.cells_peak), .val (.int .i64 a0.cells_budget), .val (.int .i64 v1)]⟩, ⟨0, [.ptr 0 0]⟩, ⟨0, [.ptr 0 0]⟩, ⟨0, [.val (.int .i64 a1)]⟩, ⟨0, [.val (.bool a2)]⟩, ⟨0, [.val (.int .i64 a3)]⟩] [] 6 0) ∧ v1 = x1) ?_ ?_
  · refine PC.cond rfl (fun h3 => ?_) (fun h3 => ?_)
    · have e2 := bif_t h3 e2
      refine PC.region ?_
      refine PO.runK 5 [0, 1, 2, 3, 4, 5] [] (es := []) (fr' := [⟨0, [.val (.int .i64 (w (a0.steps_now + a3))), .val (.int .i64 (if w (a0.steps_now + a3) > a0.steps_peak then w (a0.steps_now + a3) else a0.steps_peak)), .val (.int .i64 a0.steps_budget), .val (.int .i64 a0.cells_now), .val (.int .i64 a0.cells_peak), .val (.int .i64 a0.cells_budget), .val (.int .i64 a1)]⟩, ⟨0, [.ptr 0 0]⟩, ⟨0, [.ptr 0 0]⟩, ⟨0, [.val (.int .i64 a1)]⟩, ⟨0, [.val (.bool a2)]⟩, ⟨0, [.val (.int .i64 a3)]⟩]) (tk' := []) (by kernel_rfl) ?_
      refine PO.nil ?_
      exact PC.skip (joinKP.end ⟨a1, Weak.one [0, 1, 2, 3, 4, 5] [] (by kernel_rfl), Option.some.inj e2⟩)
    · have e2 := bif_f h3 e2
      refine PC.noop ?_
      exact PC.skip (joinKP.end ⟨a0.refused, Weak.one [0, 1, 2, 3, 4, 5] [] (by kernel_rfl), Option.some.inj e2⟩)
  · rintro _ ⟨v1, w4, rfl⟩
    refine PC.weak w4 ?_
    have hq := Option.some.inj hF
    subst hq
    exact PC.skip (retSN [0, 1, 2, 3, 4, 5] [] (by kernel_rfl) (.refl _) ⟨rfl, rfl, rfl⟩)

/-! 31_s (*platen/meter.Meter).charge -/
def F31_s (k : Nat) (a0 : Int) (a1 : Int) (a2 : GMeter) : Option (Bool × GMeter) :=
Option.bind (α := Bool) (bif decide (a0 < 0) then (some true) else (some (a2.refused != 0))) fun (v1 : Bool) =>
bif v1 then (some (false, a2)) else (bif decide (a0 > (w (a2.steps_budget - a2.steps_now))) then ((F36_s k a2 a1 false (w (a2.steps_budget - a2.steps_now))).bind fun r7 =>
some (r7.2.2.1, r7.1)) else ((F36_s k a2 a1 true a0).bind fun r9 =>
some (r9.2.2.1, r9.1)))
theorem L31_s (k : Nat) (a0 : Int) (a1 : Int) (a2 : GMeter) (r : Bool × GMeter) (hF : F31_s k a0 a1 a2 = some r) : PF Try.prog orc 31 [.ptr 0 0, .ptr 0 0, .val (.int .i64 a0), .val (.int .i64 a1)] [⟨0, (cGMeter a2)⟩] [] (fun p fr tk => p = .val (.bool r.1) ∧ fr = [⟨0, (cGMeter r.2)⟩] ∧ tk = []) := by
  unfold F31_s at hF
  refine PF.enterD Try.func31 rfl rfl rfl (by kernel_rfl) rfl ?_
  refine PC.region ?_
  refine PO.runK 4 [0, 1, 2, 3, 4] [] (es := [(2, .val (.int .i64 a0)), (4, .ptr 1 0), (5, .ptr 2 0), (7, .ptr 3 0), (8, .ptr 4 0)]) (fr' := [⟨0, (cGMeter a2)⟩, ⟨0, [.ptr 0 0]⟩, ⟨0, [.ptr 0 0]⟩, ⟨0, [.val (.int .i64 a1)]⟩, ⟨0, [.val (.bool false)]⟩]) (tk' := []) (by kernel_rfl) ?_
  refine PO.nil ?_
  refine PC.assoc ?_
  refine PC.region ?_
  refine PO.run 3 rfl ?_
  refine bindK hF (fun x1 e2 hF => ?_)
  refine PO.cut 6 (fun s => ∃ (v1 : Bool), Weak s (PS.of 35 [(2, .val (.int .i64 a0)), (4, .ptr 1 0), (5, .ptr 2 0), (7, .ptr 3 0), (8, .ptr 4 0), (19, .val (.bool v1))] [⟨0, (cGMeter a2)⟩, ⟨0, [.ptr 0 0]⟩, ⟨0, [.ptr 0 0]⟩, ⟨0, [.val (.int .i64 a1)]⟩, ⟨0, [.val (.bool false)]⟩] [] 1 0) ∧ v1 = x1) ?_ ?_
  · refine PO.case (t := 13) rfl rfl (fun h3 => ?_) (fun h3 => ?_)
    · have e2 := bif_t h3 e2
      refine PO.run 5 rfl ?_
      refine PO.same rfl (pickT_ok rfl rfl rfl) rfl ?_
      refine PO.nil ?_
      exact ⟨true, Weak.one [0, 1, 2, 3, 4] [] (by kernel_rfl), Option.some.inj e2⟩
    · have e2 := bif_f h3 e2
      refine PO.run 5 rfl ?_
      refine PO.same rfl (pickF_ok rfl rfl rfl) rfl ?_
      refine PO.nil ?_
      exact ⟨a2.refused != 0, Weak.one [0, 1, 2, 3, 4] [] (by kernel_rfl), Option.some.inj e2⟩
  · rintro _ ⟨v1, w4, rfl⟩
    refine PO.weak w4 ?_
    refine PO.nil ?_
    refine PC.cond rfl (fun h5 => ?_) (fun h5 => ?_)
    · have hF := bif_t h5 hF
      refine PC.assoc ?_
      refine PC.region ?_
      refine PO.runK 1 [0, 4] [] (es := [(8, .ptr 1 0)]) (fr' := [⟨0, (cGMeter a2)⟩, ⟨0, [.val (.bool false)]⟩]) (tk' := []) (by kernel_rfl) ?_
      refine PO.nil ?_
      have hq := Option.some.inj hF
      subst hq
      exact PC.ret (retD.now (retSK [0] [] (by kernel_rfl) (.refl _) ⟨rfl, rfl, rfl⟩))
    · have hF := bif_f h5 hF
      refine PC.noop ?_
      refine PC.region ?_
      refine PO.runK 3 [0, 1, 2, 3, 4, 5] [] (es := [(2, .val (.int .i64 a0)), (4, .ptr 1 0), (5, .ptr 2 0), (7, .ptr 3 0), (8, .ptr 4 0), (9, .ptr 5 0)]) (fr' := [⟨0, (cGMeter a2)⟩, ⟨0, [.ptr 0 0]⟩, ⟨0, [.ptr 0 0]⟩, ⟨0, [.val (.int .i64 a1)]⟩, ⟨0, [.val (.bool false)]⟩, ⟨0, [.val (.int .i64 a0)]⟩]) (tk' := []) (by kernel_rfl) ?_
      refine PO.nil ?_
      refine PC.region ?_
      refine PO.run 1 rfl ?_
      refine PO.defer rfl rfl rfl rfl rfl ?_
      refine PO.nil ?_
      refine PC.assoc ?_
      refine PC.drawn (order := [0, 1, 2, 3, 4, 5, 6, 7, 8, 9]) (by kernel_rfl) ?_
      refine PO.run 10 rfl ?_
      refine PO.nil ?_
      refine PC.assoc ?_
      refine PC.run (n := 4) rfl ?_
      refine PC.cond rfl (fun h6 => ?_) (fun h6 => ?_)
      · have hF := bif_t h6 hF
        refine PC.assoc ?_
        refine PC.region ?_
        refine PO.runK 2 [0, 1, 2, 3, 4, 5] [] (es := [(8, .ptr 4 0), (21, .fn 36 [] [.ptr 2 0, .ptr 5 0, .ptr 4 0, .ptr 3 0, .ptr 1 0])]) (fr' := [⟨0, (cGMeter a2)⟩, ⟨0, [.ptr 0 0]⟩, ⟨0, [.ptr 0 0]⟩, ⟨0, [.val (.int .i64 a1)]⟩, ⟨0, [.val (.bool false)]⟩, ⟨0, [.val (.int .i64 (w (a2.steps_budget - a2.steps_now)))]⟩]) (tk' := []) (by kernel_rfl) ?_
        refine PO.nil ?_
        refine PC.assoc ?_
        refine PC.region ?_
        refine PO.runK 1 [0, 1, 2, 3, 4, 5] [] (es := [(8, .ptr 4 0), (21, .fn 36 [] [.ptr 2 0, .ptr 5 0, .ptr 4 0, .ptr 3 0, .ptr 1 0])]) (fr' := [⟨0, (cGMeter a2)⟩, ⟨0, [.ptr 0 0]⟩, ⟨0, [.ptr 0 0]⟩, ⟨0, [.val (.int .i64 a1)]⟩, ⟨0, [.val (.bool false)]⟩, ⟨0, [.val (.int .i64 (w (a2.steps_budget - a2.steps_now)))]⟩]) (tk' := []) (by kernel_rfl) ?_
        refine PO.nil ?_
        refine bindK hF (fun r7 e8 hF => ?_)
        refine PC.ret (retD.off (ks := [0, 1, 2, 3, 4, 5]) (ts := []) (fr1 := [⟨0, (cGMeter a2)⟩, ⟨0, [.ptr 0 0]⟩, ⟨0, [.ptr 0 0]⟩, ⟨0, [.val (.int .i64 a1)]⟩, ⟨0, [.val (.bool false)]⟩, ⟨0, [.val (.int .i64 (w (a2.steps_budget - a2.steps_now)))]⟩]) rfl rfl rfl rfl rfl ⟨⟨_, rfl, rfl, rfl⟩, ⟨⟨_, rfl, rfl, rfl⟩, ⟨⟨_, rfl, rfl, rfl⟩, ⟨⟨_, rfl, rfl, rfl⟩, ⟨⟨_, rfl, rfl, rfl⟩, ⟨⟨_, rfl, rfl, rfl⟩, trivial⟩⟩⟩⟩⟩⟩ (B36_s k a2 a1 false (w (a2.steps_budget - a2.steps_now)) _ e8) ?_)
        rintro _ _ _ ⟨rfl, rfl, rfl⟩
        refine ⟨_, _, rfl, rfl, ?_⟩
        have hq := Option.some.inj hF
        subst hq
        exact retSK [0] [] (by kernel_rfl) (.refl _) ⟨rfl, rfl, rfl⟩
      · have hF := bif_f h6 hF
        refine PC.noop ?_
        refine PC.region ?_
        refine PO.runK 1 [0, 1, 2, 3, 4, 5] [] (es := [(8, .ptr 4 0), (21, .fn 36 [] [.ptr 2 0, .ptr 5 0, .ptr 4 0, .ptr 3 0, .ptr 1 0])]) (fr' := [⟨0, (cGMeter a2)⟩, ⟨0, [.ptr 0 0]⟩, ⟨0, [.ptr 0 0]⟩, ⟨0, [.val (.int .i64 a1)]⟩, ⟨0, [.val (.bool true)]⟩, ⟨0, [.val (.int .i64 a0)]⟩]) (tk' := []) (by kernel_rfl) ?_
        refine PO.nil ?_
        refine bindK hF (fun r9 e10 hF => ?_)
        refine PC.ret' (retD.off (ks := [0, 1, 2, 3, 4, 5]) (ts := []) (fr1 := [⟨0, (cGMeter a2)⟩, ⟨0, [.ptr 0 0]⟩, ⟨0, [.ptr 0 0]⟩, ⟨0, [.val (.int .i64 a1)]⟩, ⟨0, [.val (.bool true)]⟩, ⟨0, [.val (.int .i64 a0)]⟩]) rfl rfl rfl rfl rfl ⟨⟨_, rfl, rfl, rfl⟩, ⟨⟨_, rfl, rfl, rfl⟩, ⟨⟨_, rfl, rfl, rfl⟩, ⟨⟨_, rfl, rfl, rfl⟩, ⟨⟨_, rfl, rfl, rfl⟩, ⟨⟨_, rfl, rfl, rfl⟩, trivial⟩⟩⟩⟩⟩⟩ (B36_s k a2 a1 true a0 _ e10) ?_)
        rintro _ _ _ ⟨rfl, rfl, rfl⟩
        refine ⟨_, _, rfl, rfl, ?_⟩
        have hq := Option.some.inj hF
        subst hq
        exact retSK [0] [] (by kernel_rfl) (.refl _) ⟨rfl, rfl, rfl⟩

/-! 23 (*platen/meter.Meter).Step -/
def F23 (k : Nat) (a0 : GMeter) (a1 : Int) : Option (Bool × GMeter) :=
(F31_s k a1 20 a0).bind fun r1 =>
some (r1.1, r1.2)
theorem L23 (k : Nat) (a0 : GMeter) (a1 : Int) (r : Bool × GMeter) (hF : F23 k a0 a1 = some r) : PF Try.prog orc 23 [.ptr 0 0, .val (.int .i64 a1)] [⟨0, (cGMeter a0)⟩] [] (fun p fr tk => p = .val (.bool r.1) ∧ fr = [⟨0, (cGMeter r.2)⟩] ∧ tk = []) := by
  unfold F23 at hF
  refine PF.enterS Try.func23 rfl rfl rfl (by kernel_rfl) rfl ?_
  refine PC.run (n := 2) rfl ?_
  refine PC.region ?_
  refine PO.run 5 rfl ?_
  refine bindK hF (fun r1 e2 hF => ?_)
  refine PO.call rfl rfl rfl rfl (ks := [0]) (ts := []) (fr1 := [⟨0, (cGMeter a0)⟩]) rfl rfl rfl ⟨⟨_, rfl, rfl, rfl⟩, trivial⟩ (L31_s k a1 20 a0 _ e2) ?_
  rintro _ _ _ ⟨rfl, rfl, rfl⟩
  refine ⟨_, _, rfl, rfl, ?_⟩
  refine PO.run 1 rfl ?_
  refine PO.nil ?_
  have hq := Option.some.inj hF
  subst hq
  exact PC.ret' (retSK [0] [] (by kernel_rfl) (.refl _) ⟨rfl, rfl, rfl⟩)

/-! 36_s2 (*platen/meter.Meter).charge$1 -/
def F36_s2 (k : Nat) (a0 : GMeter) (a1 : Int) (a2 : Bool) (a3 : Int) : Option (GMeter × Int × Bool × Int) :=
Option.bind (α := Int) (bif !a2 then (some a1) else (some a0.refused)) fun (v1 : Int) =>
some ((GMeter.mk a0.steps_now a0.steps_peak a0.steps_budget (w (a0.cells_now + a3)) (if w (a0.cells_now + a3) > a0.cells_peak then w (a0.cells_now + a3) else a0.cells_peak) a0.cells_budget v1), a1, a2, a3)
theorem B36_s2 (k : Nat) (a0 : GMeter) (a1 : Int) (a2 : Bool) (a3 : Int) (r : GMeter × Int × Bool × Int) (hF : F36_s2 k a0 a1 a2 a3 = some r) : PB Try.prog orc 36 [.ptr 2 0, .ptr 5 0, .ptr 4 0, .ptr 3 0, .ptr 1 0] [⟨0, (cGMeter a0)⟩, ⟨0, [.ptr 0 0]⟩, ⟨0, [.ptr 0 3]⟩, ⟨0, [.val (.int .i64 a1)]⟩, ⟨0, [.val (.bool a2)]⟩, ⟨0, [.val (.int .i64 a3)]⟩] [] (fun p fr tk => p = .tup [] ∧ fr = [⟨0, (cGMeter r.1)⟩, ⟨0, [.ptr 0 0]⟩, ⟨0, [.ptr 0 3]⟩, ⟨0, [.val (.int .i64 r.2.1)]⟩, ⟨0, [.val (.bool r.2.2.1)]⟩, ⟨0, [.val (.int .i64 r.2.2.2)]⟩] ∧ tk = []) := by
  unfold F36_s2 at hF
  refine PB.enterS Try.func36 rfl rfl rfl (by kernel_rfl) ?_
  refine PC.drawn (order := [0, 1, 2, 3, 4, 5, 6, 7, 8]) (by kernel_rfl) ?_
  refine PO.runK 9 [0, 1, 2, 3, 4, 5] [] (es := [(0, .ptr 2 0), (2, .ptr 4 0), (3, .ptr 3 0), (4, .ptr 1 0)]) (fr' := [⟨0, [.val (.int .i64 a0.steps_now), .val (.int .i64 a0.steps_peak), .val (.int .i64 a0.steps_budget), .val (.int .i64 (w (a0.cells_now + a3))), .val (.int .i64 a0.cells_peak), .val (.int .i64 a0.cells_budget), .val (.int .i64 a0.refused)]⟩, ⟨0, [.ptr 0 0]⟩, ⟨0, [.ptr 0 3]⟩, ⟨0, [.val (.int .i64 a1)]⟩, ⟨0, [.val (.bool a2)]⟩, ⟨0, [.val (.int .i64 a3)]⟩]) (tk' := []) (by kernel_rfl) ?_
  refine PO.nil ?_
  refine PC.drawn (order := [0, 1, 2, 3, 4, 5, 6, 7, 8, 9, 10, 11, 12]) (by kernel_rfl) ?_
  refine PO.runK 13 [0, 1, 2, 3, 4, 5] [] (es := [(2, .ptr 4 0), (3, .ptr 3 0), (4, .ptr 1 0)]) (fr' := [⟨0, [.val (.int .i64 a0.steps_now), .val (.int .i64 a0.steps_peak), .val (.int .i64 a0.steps_budget), .val (.int .i64 (w (a0.cells_now + a3))), .val (.int .i64 (if w (a0.cells_now + a3) > a0.cells_peak then w (a0.cells_now + a3) else a0.cells_peak)), .val (.int .i64 a0.cells_budget), .val (.int .i64 a0.refused)]⟩, ⟨0, [.ptr 0 0]⟩, ⟨0, [.ptr 0 3]⟩, ⟨0, [.val (.int .i64 a1)]⟩, ⟨0, [.val (.bool a2)]⟩, ⟨0, [.val (.int .i64 a3)]⟩]) (tk' := []) (by kernel_rfl) ?_
  refine PO.nil ?_
  refine PC.run (n := 3) rfl ?_
  refine PC.lone ?_
  refine bindK hF (fun x1 e2 hF => ?_)
  refine PC.join (fun s => ∃ (v1 : Int), Weak s (PS.of 31 [] [⟨0, [.val (.int .i64 a0.steps_now), .val (.int .i64 a0.steps_peak), .val (.int .i64 a0.steps_budget), .val (.int .i64 (w (a0.cells_now + a3))), .val (.int .i64 (if w (a0.cells_now + a3) > a0.cells_peak then w (a0.cells_now + a3) else a0.cells_peak)), .val (.int .i64 a0.cells_budget), .val (.int .i64 v1)]⟩, ⟨0, [.ptr 0 0]⟩, ⟨0, [.ptr 0 3]⟩, ⟨0, [.val (.int .i64 a1)]⟩, ⟨0, [.val (.bool a2)]⟩, ⟨0, [.val (.int .i64 a3)]⟩] [] 6 0) ∧ v1 = x1) ?_ ?_
  · refine PC.cond rfl (fun h3 => ?_) (fun h3 => ?_)
    · have e2 := bif_t h3 e2
      refine PC.region ?_
      refine PO.runK 5 [0, 1, 2, 3, 4, 5] [] (es := []) (fr' := [⟨0, [.val (.int .i64 a0.steps_now), .val (.int .i64 a0.steps_peak), .val (.int .i64 a0.steps_budget), .val (.int .i64 (w (a0.cells_now + a3))), .val (.int .i64 (if w (a0.cells_now + a3) > a0.cells_peak then w (a0.cells_now + a3) else a0.cells_peak)), .val (.int .i64 a0.cells_budget), .val (.int .i64 a1)]⟩, ⟨0, [.ptr 0 0]⟩, ⟨0, [.ptr 0 3]⟩, ⟨0, [.val (.int .i64 a1)]⟩, ⟨0, [.val (.bool a2)]⟩, ⟨0, [.val (.int .i64 a3)]⟩]) (tk' := []) (by kernel_rfl) ?_
      refine PO.nil ?_
      exact PC.skip (joinKP.end ⟨a1, Weak.one [0, 1, 2, 3, 4, 5] [] (by kernel_rfl), Option.some.inj e2⟩)
    · have e2 := bif_f h3 e2
      refine PC.noop ?_
      exact PC.skip (joinKP.end ⟨a0.refused, Weak.one [0, 1, 2, 3, 4, 5] [] (by kernel_rfl), Option.some.inj e2⟩)
  · rintro _ ⟨v1, w4, rfl⟩
    refine PC.weak w4 ?_
    have hq := Option.some.inj hF
    subst hq
    exact PC.skip (retSN [0, 1, 2, 3, 4, 5] [] (by kernel_rfl) (.refl _) ⟨rfl, rfl, rfl⟩)

/-! 31_s2 (*platen/meter.Meter).charge -/
def F31_s2 (k : Nat) (a0 : Int) (a1 : Int) (a2 : GMeter) : Option (Bool × GMeter) :=
Option.bind (α := Bool) (bif decide (a0 < 0) then (some true) else (some (a2.refused != 0))) fun (v1 : Bool) =>
bif v1 then (some (false, a2)) else (bif decide (a0 > (w (a2.cells_budget - a2.cells_now))) then ((F36_s2 k a2 a1 false (w (a2.cells_budget - a2.cells_now))).bind fun r7 =>
some (r7.2.2.1, r7.1)) else ((F36_s2 k a2 a1 true a0).bind fun r9 =>
some (r9.2.2.1, r9.1)))
theorem L31_s2 (k : Nat) (a0 : Int) (a1 : Int) (a2 : GMeter) (r : Bool × GMeter) (hF : F31_s2 k a0 a1 a2 = some r) : PF Try.prog orc 31 [.ptr 0 0, .ptr 0 3, .val (.int .i64 a0), .val (.int .i64 a1)] [⟨0, (cGMeter a2)⟩] [] (fun p fr tk => p = .val (.bool r.1) ∧ fr = [⟨0, (cGMeter r.2)⟩] ∧ tk = []) := by
  unfold F31_s2 at hF
  refine PF.enterD Try.func31 rfl rfl rfl (by kernel_rfl) rfl ?_
  refine PC.region ?_
  refine PO.runK 4 [0, 1, 2, 3, 4] [] (es := [(2, .val (.int .i64 a0)), (4, .ptr 1 0), (5, .ptr 2 0), (7, .ptr 3 0), (8, .ptr 4 0)]) (fr' := [⟨0, (cGMeter a2)⟩, ⟨0, [.ptr 0 0]⟩, ⟨0, [.ptr 0 3]⟩, ⟨0, [.val (.int .i64 a1)]⟩, ⟨0, [.val (.bool false)]⟩]) (tk' := []) (by kernel_rfl) ?_
  refine PO.nil ?_
  refine PC.assoc ?_
  refine PC.region ?_
  refine PO.run 3 rfl ?_
  refine bindK hF (fun x1 e2 hF => ?_)
  refine PO.cut 6 (fun s => ∃ (v1 : Bool), Weak s (PS.of 35 [(2, .val (.int .i64 a0)), (4, .ptr 1 0), (5, .ptr 2 0), (7, .ptr 3 0), (8, .ptr 4 0), (19, .val (.bool v1))] [⟨0, (cGMeter a2)⟩, ⟨0, [.ptr 0 0]⟩, ⟨0, [.ptr 0 3]⟩, ⟨0, [.val (.int .i64 a1)]⟩, ⟨0, [.val (.bool false)]⟩] [] 1 0) ∧ v1 = x1) ?_ ?_
  · refine PO.case (t := 13) rfl rfl (fun h3 => ?_) (fun h3 => ?_)
    · have e2 := bif_t h3 e2
      refine PO.run 5 rfl ?_
      refine PO.same rfl (pickT_ok rfl rfl rfl) rfl ?_
      refine PO.nil ?_
      exact ⟨true, Weak.one [0, 1, 2, 3, 4] [] (by kernel_rfl), Option.some.inj e2⟩
    · have e2 := bif_f h3 e2
      refine PO.run 5 rfl ?_
      refine PO.same rfl (pickF_ok rfl rfl rfl) rfl ?_
      refine PO.nil ?_
      exact ⟨a2.refused != 0, Weak.one [0, 1, 2, 3, 4] [] (by kernel_rfl), Option.some.inj e2⟩
  · rintro _ ⟨v1, w4, rfl⟩
    refine PO.weak w4 ?_
    refine PO.nil ?_
    refine PC.cond rfl (fun h5 => ?_) (fun h5 => ?_)
    · have hF := bif_t h5 hF
      refine PC.assoc ?_
      refine PC.region ?_
      refine PO.runK 1 [0, 4] [] (es := [(8, .ptr 1 0)]) (fr' := [⟨0, (cGMeter a2)⟩, ⟨0, [.val (.bool false)]⟩]) (tk' := []) (by kernel_rfl) ?_
      refine PO.nil ?_
      have hq := Option.some.inj hF
      subst hq
      exact PC.ret (retD.now (retSK [0] [] (by kernel_rfl) (.refl _) ⟨rfl, rfl, rfl⟩))
    · have hF := bif_f h5 hF
      refine PC.noop ?_
      refine PC.region ?_
      refine PO.runK 3 [0, 1, 2, 3, 4, 5] [] (es := [(2, .val (.int .i64 a0)), (4, .ptr 1 0), (5, .ptr 2 0), (7, .ptr 3 0), (8, .ptr 4 0), (9, .ptr 5 0)]) (fr' := [⟨0, (cGMeter a2)⟩, ⟨0, [.ptr 0 0]⟩, ⟨0, [.ptr 0 3]⟩, ⟨0, [.val (.int .i64 a1)]⟩, ⟨0, [.val (.bool false)]⟩, ⟨0, [.val (.int .i64 a0)]⟩]) (tk' := []) (by kernel_rfl) ?_
      refine PO.nil ?_
      refine PC.region ?_
      refine PO.run 1 rfl ?_
      refine PO.defer rfl rfl rfl rfl rfl ?_
      refine PO.nil ?_
      refine PC.assoc ?_
      refine PC.drawn (order := [0, 1, 2, 3, 4, 5, 6, 7, 8, 9]) (by kernel_rfl) ?_
      refine PO.run 10 rfl ?_
      refine PO.nil ?_
      refine PC.assoc ?_
      refine PC.run (n := 4) rfl ?_
      refine PC.cond rfl (fun h6 => ?_) (fun h6 => ?_)
      · have hF := bif_t h6 hF
        refine PC.assoc ?_
        refine PC.region ?_
        refine PO.runK 2 [0, 1, 2, 3, 4, 5] [] (es := [(8, .ptr 4 0), (21, .fn 36 [] [.ptr 2 0, .ptr 5 0, .ptr 4 0, .ptr 3 0, .ptr 1 0])]) (fr' := [⟨0, (cGMeter a2)⟩, ⟨0, [.ptr 0 0]⟩, ⟨0, [.ptr 0 3]⟩, ⟨0, [.val (.int .i64 a1)]⟩, ⟨0, [.val (.bool false)]⟩, ⟨0, [.val (.int .i64 (w (a2.cells_budget - a2.cells_now)))]⟩]) (tk' := []) (by kernel_rfl) ?_
        refine PO.nil ?_
        refine PC.assoc ?_
        refine PC.region ?_
        refine PO.runK 1 [0, 1, 2, 3, 4, 5] [] (es := [(8, .ptr 4 0), (21, .fn 36 [] [.ptr 2 0, .ptr 5 0, .ptr 4 0, .ptr 3 0, .ptr 1 0])]) (fr' := [⟨0, (cGMeter a2)⟩, ⟨0, [.ptr 0 0]⟩, ⟨0, [.ptr 0 3]⟩, ⟨0, [.val (.int .i64 a1)]⟩, ⟨0, [.val (.bool false)]⟩, ⟨0, [.val (.int .i64 (w (a2.cells_budget - a2.cells_now)))]⟩]) (tk' := []) (by kernel_rfl) ?_
        refine PO.nil ?_
        refine bindK hF (fun r7 e8 hF => ?_)
        refine PC.ret (retD.off (ks := [0, 1, 2, 3, 4, 5]) (ts := []) (fr1 := [⟨0, (cGMeter a2)⟩, ⟨0, [.ptr 0 0]⟩, ⟨0, [.ptr 0 3]⟩, ⟨0, [.val (.int .i64 a1)]⟩, ⟨0, [.val (.bool false)]⟩, ⟨0, [.val (.int .i64 (w (a2.cells_budget - a2.cells_now)))]⟩]) rfl rfl rfl rfl rfl ⟨⟨_, rfl, rfl, rfl⟩, ⟨⟨_, rfl, rfl, rfl⟩, ⟨⟨_, rfl, rfl, rfl⟩, ⟨⟨_, rfl, rfl, rfl⟩, ⟨⟨_, rfl, rfl, rfl⟩, ⟨⟨_, rfl, rfl, rfl⟩, trivial⟩⟩⟩⟩⟩⟩ (B36_s2 k a2 a1 false (w (a2.cells_budget - a2.cells_now)) _ e8) ?_)
        rintro _ _ _ ⟨rfl, rfl, rfl⟩
        refine ⟨_, _, rfl, rfl, ?_⟩
        have hq := Option.some.inj hF
        subst hq
        exact retSK [0] [] (by kernel_rfl) (.refl _) ⟨rfl, rfl, rfl⟩
      · have hF := bif_f h6 hF
        refine PC.noop ?_
        refine PC.region ?_
        refine PO.runK 1 [0, 1, 2, 3, 4, 5] [] (es := [(8, .ptr 4 0), (21, .fn 36 [] [.ptr 2 0, .ptr 5 0, .ptr 4 0, .ptr 3 0, .ptr 1 0])]) (fr' := [⟨0, (cGMeter a2)⟩, ⟨0, [.ptr 0 0]⟩, ⟨0, [.ptr 0 3]⟩, ⟨0, [.val (.int .i64 a1)]⟩, ⟨0, [.val (.bool true)]⟩, ⟨0, [.val (.int .i64 a0)]⟩]) (tk' := []) (by kernel_rfl) ?_
        refine PO.nil ?_
        refine bindK hF (fun r9 e10 hF => ?_)
        refine PC.ret' (retD.off (ks := [0, 1, 2, 3, 4, 5]) (ts := []) (fr1 := [⟨0, (cGMeter a2)⟩, ⟨0, [.ptr 0 0]⟩, ⟨0, [.ptr 0 3]⟩, ⟨0, [.val (.int .i64 a1)]⟩, ⟨0, [.val (.bool true)]⟩, ⟨0, [.val (.int .i64 a0)]⟩]) rfl rfl rfl rfl rfl ⟨⟨_, rfl, rfl, rfl⟩, ⟨⟨_, rfl, rfl, rfl⟩, ⟨⟨_, rfl, rfl, rfl⟩, ⟨⟨_, rfl, rfl, rfl⟩, ⟨⟨_, rfl, rfl, rfl⟩, ⟨⟨_, rfl, rfl, rfl⟩, trivial⟩⟩⟩⟩⟩⟩ (B36_s2 k a2 a1 true a0 _ e10) ?_)
        rintro _ _ _ ⟨rfl, rfl, rfl⟩
        refine ⟨_, _, rfl, rfl, ?_⟩
        have hq := Option.some.inj hF
        subst hq
        exact retSK [0] [] (by kernel_rfl) (.refl _) ⟨rfl, rfl, rfl⟩

/-! 24 (*platen/meter.Meter).Hold -/
def F24 (k : Nat) (a0 : GMeter) (a1 : Int) : Option (Bool × GMeter) :=
(F31_s2 k a1 21 a0).bind fun r1 =>
some (r1.1, r1.2)
theorem L24 (k : Nat) (a0 : GMeter) (a1 : Int) (r : Bool × GMeter) (hF : F24 k a0 a1 = some r) : PF Try.prog orc 24 [.ptr 0 0, .val (.int .i64 a1)] [⟨0, (cGMeter a0)⟩] [] (fun p fr tk => p = .val (.bool r.1) ∧ fr = [⟨0, (cGMeter r.2)⟩] ∧ tk = []) := by
  unfold F24 at hF
  refine PF.enterS Try.func24 rfl rfl rfl (by kernel_rfl) rfl ?_
  refine PC.run (n := 2) rfl ?_
  refine PC.region ?_
  refine PO.run 5 rfl ?_
  refine bindK hF (fun r1 e2 hF => ?_)
  refine PO.call rfl rfl rfl rfl (ks := [0]) (ts := []) (fr1 := [⟨0, (cGMeter a0)⟩]) rfl rfl rfl ⟨⟨_, rfl, rfl, rfl⟩, trivial⟩ (L31_s2 k a1 21 a0 _ e2) ?_
  rintro _ _ _ ⟨rfl, rfl, rfl⟩
  refine ⟨_, _, rfl, rfl, ?_⟩
  refine PO.run 1 rfl ?_
  refine PO.nil ?_
  have hq := Option.some.inj hF
  subst hq
  exact PC.ret' (retSK [0] [] (by kernel_rfl) (.refl _) ⟨rfl, rfl, rfl⟩)

/-! 22_s platen/glue.Set$1 -/
def F22_s (k : Nat) (a0 : Int) (a1 : Bool) (a2 : GMeter) (a3 : List Int) (a4 : List Int) (a5 : Int) : Option (Bool × GMeter × (List Int) × (List Int) × Int) :=
(F23 k a2 1).bind fun r1 =>
Option.bind (α := Bool × Int × Int × Int × Int × Int × Int × Int) (bif !r1.1 then (some (true, r1.2.steps_now, r1.2.steps_peak, r1.2.steps_budget, r1.2.cells_now, r1.2.cells_peak, r1.2.cells_budget, r1.2.refused)) else (Option.bind (α := Bool × Int × Int × Int × Int × Int × Int × Int) (bif a1 then ((F24 k r1.2 1).bind fun r9 =>
some (!r9.1, r9.2.steps_now, r9.2.steps_peak, r9.2.steps_budget, r9.2.cells_now, r9.2.cells_peak, r9.2.cells_budget, r9.2.refused)) else (some (false, r1.2.steps_now, r1.2.steps_peak, r1.2.steps_budget, r1.2.cells_now, r1.2.cells_peak, r1.2.cells_budget, r1.2.refused))) fun (v9, v10, v11, v12, v13, v14, v15, v16) =>
some (v9, v10, v11, v12, v13, v14, v15, v16))) fun (v1, v2, v3, v4, v5, v6, v7, v8) =>
bif v1 then (some (false, (GMeter.mk v2 v3 v4 v5 v6 v7 v8), a3, a4, a5)) else (Option.bind (α := (List Int) × (List Int)) (bif a1 then (bindA 8 a3 ([a0]) fun l19 =>
bindA 8 a4 ([a5]) fun l20 =>
some (l19, l20)) else (some (a3, a4))) fun (v17, v18) =>
some (true, (GMeter.mk v2 v3 v4 v5 v6 v7 v8), v17, v18, a5))
theorem L22_s (k : Nat) (a0 : Int) (a1 : Bool) (a2 : GMeter) (a3 : List Int) (a4 : List Int) (a5 : Int) (r : Bool × GMeter × (List Int) × (List Int) × Int) (hF : F22_s k a0 a1 a2 a3 a4 a5 = some r) : PF Try.prog orc 22 [.val (.int .i64 a0), .val (.bool a1), .ptr 1 0, .ptr 2 0, .ptr 3 0, .ptr 4 0] [⟨0, (cGMeter a2)⟩, ⟨0, [.ptr 0 0]⟩, ⟨0, [.list 1 (List.map cI_i64 a3) (some 0)]⟩, ⟨0, [.list 1 (List.map cI_i64 a4) (some 1)]⟩, ⟨0, [.val (.int .i64 a5)]⟩] [a3.length, a4.length] (fun p fr tk => p = .val (.bool r.1) ∧ fr = [⟨0, (cGMeter r.2.1)⟩, ⟨0, [.ptr 0 0]⟩, ⟨0, [.list 1 (List.map cI_i64 r.2.2.1) (some 0)]⟩, ⟨0, [.list 1 (List.map cI_i64 r.2.2.2.1) (some 1)]⟩, ⟨0, [.val (.int .i64 r.2.2.2.2)]⟩] ∧ tk = [r.2.2.1.length, r.2.2.2.1.length]) := by
  unfold F22_s at hF
  refine PF.enterS Try.func22 rfl rfl rfl (by kernel_rfl) rfl ?_
  refine PC.run (n := 2) rfl ?_
  refine PC.assoc ?_
  refine PC.region ?_
  refine PO.run 1 rfl ?_
  refine bindK hF (fun r1 e2 hF => ?_)
  refine PO.call rfl rfl rfl rfl (ks := [0]) (ts := []) (fr1 := [⟨0, (cGMeter a2)⟩]) rfl rfl rfl ⟨⟨_, rfl, rfl, rfl⟩, trivial⟩ (L23 k a2 1 _ e2) ?_
  rintro _ _ _ ⟨rfl, rfl, rfl⟩
  refine ⟨_, _, rfl, rfl, ?_⟩
  refine PO.run 2 rfl ?_
  refine bindK hF (fun x3 e4 hF => ?_)
  refine PO.cut 7 (fun s => ∃ (v1 : Bool) (v2 : Int) (v3 : Int) (v4 : Int) (v5 : Int) (v6 : Int) (v7 : Int) (v8 : Int), Weak s (PS.of 29 [(0, .val (.int .i64 a0)), (1, .val (.bool a1)), (3, .ptr 2 0), (4, .ptr 3 0), (5, .ptr 4 0), (8, .val (.bool false)), (19, .val (.bool v1))] [⟨0, [.val (.int .i64 v2), .val (.int .i64 v3), .val (.int .i64 v4), .val (.int .i64 v5), .val (.int .i64 v6), .val (.int .i64 v7), .val (.int .i64 v8)]⟩, ⟨0, [.ptr 0 0]⟩, ⟨0, [.list 1 (List.map cI_i64 a3) (some 0)]⟩, ⟨0, [.list 1 (List.map cI_i64 a4) (some 1)]⟩, ⟨0, [.val (.int .i64 a5)]⟩] [a3.length, a4.length] 5 2) ∧ (v1, v2, v3, v4, v5, v6, v7, v8) = x3) ?_ ?_
  · refine PO.case (t := 12) rfl rfl (fun h5 => ?_) (fun h5 => ?_)
    · have e4 := bif_t h5 e4
      refine PO.run 6 rfl ?_
      refine PO.same rfl (pickT_ok rfl rfl rfl) rfl ?_
      refine PO.nil ?_
      exact ⟨true, r1.2.steps_now, r1.2.steps_peak, r1.2.steps_budget, r1.2.cells_now, r1.2.cells_peak, r1.2.cells_budget, r1.2.refused, Weak.one [0, 1, 2, 3, 4] [0, 1] (by kernel_rfl), Option.some.inj e4⟩
    · have e4 := bif_f h5 e4
      refine PO.run 2 rfl ?_
      refine bindK e4 (fun x6 e7 e4 => ?_)
      refine PO.cut 5 (fun s => ∃ (v9 : Bool) (v10 : Int) (v11 : Int) (v12 : Int) (v13 : Int) (v14 : Int) (v15 : Int) (v16 : Int), Weak s (PS.of 29 [(0, .val (.int .i64 a0)), (1, .val (.bool a1)), (3, .ptr 2 0), (4, .ptr 3 0), (5, .ptr 4 0), (8, .val (.bool false)), (19, .val (.bool v9))] [⟨0, [.val (.int .i64 v10), .val (.int .i64 v11), .val (.int .i64 v12), .val (.int .i64 v13), .val (.int .i64 v14), .val (.int .i64 v15), .val (.int .i64 v16)]⟩, ⟨0, [.ptr 0 0]⟩, ⟨0, [.list 1 (List.map cI_i64 a3) (some 0)]⟩, ⟨0, [.list 1 (List.map cI_i64 a4) (some 1)]⟩, ⟨0, [.val (.int .i64 a5)]⟩] [a3.length, a4.length] 5 2) ∧ (v9, v10, v11, v12, v13, v14, v15, v16) = x6) ?_ ?_
      · refine PO.case (t := 14) rfl rfl (fun h8 => ?_) (fun h8 => ?_)
        · have e7 := bif_t h8 e7
          refine PO.runK 1 [0, 1, 2, 3, 4] [0, 1] (es := [(0, .val (.int .i64 a0)), (1, .val (.bool a1)), (3, .ptr 2 0), (4, .ptr 3 0), (5, .ptr 4 0), (8, .val (.bool false)), (12, .val (.bool false)), (14, .val (.bool true)), (15, .ptr 0 0)]) (fr' := [⟨0, (cGMeter r1.2)⟩, ⟨0, [.ptr 0 0]⟩, ⟨0, [.list 1 (List.map cI_i64 a3) (some 0)]⟩, ⟨0, [.list 1 (List.map cI_i64 a4) (some 1)]⟩, ⟨0, [.val (.int .i64 a5)]⟩]) (tk' := [a3.length, a4.length]) (by kernel_rfl) ?_
          refine bindK e7 (fun r9 e10 e7 => ?_)
          refine PO.call rfl rfl rfl rfl (ks := [0]) (ts := []) (fr1 := [⟨0, (cGMeter r1.2)⟩]) rfl rfl rfl ⟨⟨_, rfl, rfl, rfl⟩, trivial⟩ (L24 k r1.2 1 _ e10) ?_
          rintro _ _ _ ⟨rfl, rfl, rfl⟩
          refine ⟨_, _, rfl, rfl, ?_⟩
          refine PO.run 1 rfl ?_
          refine PO.same rfl (pickT_ok rfl rfl rfl) rfl ?_
          refine PO.same rfl (pickF_ok rfl rfl rfl) rfl ?_
          refine PO.nil ?_
          exact ⟨!r9.1, r9.2.steps_now, r9.2.steps_peak, r9.2.steps_budget, r9.2.cells_now, r9.2.cells_peak, r9.2.cells_budget, r9.2.refused, Weak.one [0, 1, 2, 3, 4] [0, 1] (by kernel_rfl), Option.some.inj e7⟩
        · have e7 := bif_f h8 e7
          refine PO.run 3 rfl ?_
          refine PO.same rfl (pickF_ok rfl rfl rfl) rfl ?_
          refine PO.same rfl (pickF_ok rfl rfl rfl) rfl ?_
          refine PO.nil ?_
          exact ⟨false, r1.2.steps_now, r1.2.steps_peak, r1.2.steps_budget, r1.2.cells_now, r1.2.cells_peak, r1.2.cells_budget, r1.2.refused, Weak.one [0, 1, 2, 3, 4] [0, 1] (by kernel_rfl), Option.some.inj e7⟩
      · rintro _ ⟨v9, v10, v11, v12, v13, v14, v15, v16, w11, rfl⟩
        refine PO.weak w11 ?_
        refine PO.nil ?_
        exact ⟨v9, v10, v11, v12, v13, v14, v15, v16, Weak.one [0, 1, 2, 3, 4] [0, 1] (by kernel_rfl), Option.some.inj e4⟩
  · rintro _ ⟨v1, v2, v3, v4, v5, v6, v7, v8, w12, rfl⟩
    refine PO.weak w12 ?_
    refine PO.nil ?_
    refine PC.cond rfl (fun h13 => ?_) (fun h13 => ?_)
    · have hF := bif_t h13 hF
      refine PC.assoc ?_
      refine PC.run (n := 2) rfl ?_
      have hq := Option.some.inj hF
      subst hq
      exact PC.ret (retSK [0, 1, 2, 3, 4] [0, 1] (by kernel_rfl) (.refl _) ⟨rfl, rfl, rfl⟩)
    · have hF := bif_f h13 hF
      refine PC.noop ?_
      refine PC.assoc ?_
      refine PC.run (n := 2) rfl ?_
      refine bindK hF (fun x14 e15 hF => ?_)
      refine PC.join (fun s => ∃ (v17 : List Int) (v18 : List Int), Weak s (PS.of 29 [(8, .val (.bool false))] [⟨0, [.val (.int .i64 v2), .val (.int .i64 v3), .val (.int .i64 v4), .val (.int .i64 v5), .val (.int .i64 v6), .val (.int .i64 v7), .val (.int .i64 v8)]⟩, ⟨0, [.ptr 0 0]⟩, ⟨0, [.list 1 (List.map cI_i64 v17) (some 0)]⟩, ⟨0, [.list 1 (List.map cI_i64 v18) (some 1)]⟩, ⟨0, [.val (.int .i64 a5)]⟩] [v17.length, v18.length] 5 2) ∧ (v17, v18) = x14) ?_ ?_
      · refine PC.cond rfl (fun h16 => ?_) (fun h16 => ?_)
        · have e15 := bif_t h16 e15
          refine PC.draw [0, 1, 2, 3, 4, 5, 6, 7, 8, 9] (by kernel_rfl) ?_
          refine PD.runK 3 (js' := [3, 4, 5, 6, 7, 8, 9]) (σ' := ⟨7, 0, 0, []⟩) (es := [(3, .ptr 2 0), (4, .ptr 3 0), (5, .ptr 4 0), (8, .val (.bool false)), (21, .list 1 (List.map cI_i64 a3) (some 0)), (23, .list 1 (List.map cI_i64 ([a0])) none)]) (fr' := [⟨0, [.val (.int .i64 v2), .val (.int .i64 v3), .val (.int .i64 v4), .val (.int .i64 v5), .val (.int .i64 v6), .val (.int .i64 v7), .val (.int .i64 v8)]⟩, ⟨0, [.ptr 0 0]⟩, ⟨0, [.list 1 (List.map cI_i64 a3) (some 0)]⟩, ⟨0, [.list 1 (List.map cI_i64 a4) (some 1)]⟩, ⟨0, [.val (.int .i64 a5)]⟩]) (tk' := [a3.length, a4.length]) (by kernel_rfl) ?_
          refine bindAK e15 (fun h17 e15 => ?_)
          generalize hgl19 : a3 ++ ([a0]) = l19 at e15
          refine PD.chiefS rfl (by kernel_rfl) rfl (append_effect (L := a3) (M := [a0]) (f := cI_i64) (sz := 1) (bytes := 8) Try.underlying31 rfl rfl rfl rfl rfl rfl rfl rfl rfl rfl rfl rfl h17 hgl19) rfl ?_
          refine PD.runK 3 (js' := [7, 8, 9]) (σ' := ⟨127, 15, 7, [(3, [], true)]⟩) (es := [(3, .ptr 2 0), (4, .ptr 3 0), (8, .val (.bool false)), (24, .list 1 (List.map cI_i64 l19) (some 0)), (25, .list 1 (List.map cI_i64 a4) (some 1)), (27, .list 1 (List.map cI_i64 ([a5])) none)]) (fr' := [⟨0, [.val (.int .i64 v2), .val (.int .i64 v3), .val (.int .i64 v4), .val (.int .i64 v5), .val (.int .i64 v6), .val (.int .i64 v7), .val (.int .i64 v8)]⟩, ⟨0, [.ptr 0 0]⟩, ⟨0, [.list 1 (List.map cI_i64 a3) (some 0)]⟩, ⟨0, [.list 1 (List.map cI_i64 a4) (some 1)]⟩, ⟨0, [.val (.int .i64 a5)]⟩]) (tk' := [l19.length, a4.length]) (by kernel_rfl) ?_
          refine bindAK e15 (fun h18 e15 => ?_)
          generalize hgl20 : a4 ++ ([a5]) = l20 at e15
          refine PD.chiefS rfl (by kernel_rfl) rfl (append_effect (L := a4) (M := [a5]) (f := cI_i64) (sz := 1) (bytes := 8) Try.underlying31 rfl rfl rfl rfl rfl rfl rfl rfl rfl rfl rfl rfl h18 hgl20) rfl ?_
          refine PD.runK 2 (js' := []) (σ' := ⟨1023, 1023, 511, [(9, [3], false), (8, [3, 2], false), (7, [3, 2], true), (3, [3, 2], true)]⟩) (es := [(8, .val (.bool false))]) (fr' := [⟨0, [.val (.int .i64 v2), .val (.int .i64 v3), .val (.int .i64 v4), .val (.int .i64 v5), .val (.int .i64 v6), .val (.int .i64 v7), .val (.int .i64 v8)]⟩, ⟨0, [.ptr 0 0]⟩, ⟨0, [.list 1 (List.map cI_i64 l19) (some 0)]⟩, ⟨0, [.list 1 (List.map cI_i64 l20) (some 1)]⟩, ⟨0, [.val (.int .i64 a5)]⟩]) (tk' := [l19.length, l20.length]) (by kernel_rfl) ?_
          refine PD.done [0, 1, 2, 3, 4] [0, 1] (es := [(8, .val (.bool false))]) (fr' := [⟨0, [.val (.int .i64 v2), .val (.int .i64 v3), .val (.int .i64 v4), .val (.int .i64 v5), .val (.int .i64 v6), .val (.int .i64 v7), .val (.int .i64 v8)]⟩, ⟨0, [.ptr 0 0]⟩, ⟨0, [.list 1 (List.map cI_i64 l19) (some 0)]⟩, ⟨0, [.list 1 (List.map cI_i64 l20) (some 1)]⟩, ⟨0, [.val (.int .i64 a5)]⟩]) (tk' := [l19.length, l20.length]) (by kernel_rfl) (by kernel_rfl) ?_
          exact PC.skip (joinKP.end ⟨l19, l20, Weak.one [0, 1, 2, 3, 4] [0, 1] (by kernel_rfl), Option.some.inj e15⟩)
        · have e15 := bif_f h16 e15
          refine PC.noop ?_
          exact PC.skip (joinKP.end ⟨a3, a4, Weak.one [0, 1, 2, 3, 4] [0, 1] (by kernel_rfl), Option.some.inj e15⟩)
      · rintro _ ⟨v17, v18, w19, rfl⟩
        refine PC.weak w19 ?_
        refine PC.run (n := 2) rfl ?_
        have hq := Option.some.inj hF
        subst hq
        exact PC.ret' (retSK [0, 1, 2, 3, 4] [0, 1] (by kernel_rfl) (.refl _) ⟨rfl, rfl, rfl⟩)

/-! 25 (*platen/meter.Meter).Refused -/
def F25 (k : Nat) (a0 : GMeter) : Option (Int × GMeter) :=
some (a0.refused, a0)
theorem L25 (k : Nat) (a0 : GMeter) (r : Int × GMeter) (hF : F25 k a0 = some r) : PF Try.prog orc 25 [.ptr 0 0] [⟨0, (cGMeter a0)⟩] [] (fun p fr tk => p = .val (.int .i64 r.1) ∧ fr = [⟨0, (cGMeter r.2)⟩] ∧ tk = []) := by
  unfold F25 at hF
  refine PF.enterS Try.func25 rfl rfl rfl (by kernel_rfl) rfl ?_
  refine PC.run (n := 2) rfl ?_
  refine PC.run (n := 6) rfl ?_
  have hq := Option.some.inj hF
  subst hq
  exact PC.ret' (retSK [0] [] (by kernel_rfl) (.refl _) ⟨rfl, rfl, rfl⟩)

/-! 37 platen/fix.length -/
def F37 (k : Nat) (a0 : Int) : Option Bool :=
Option.bind (α := Bool) (bif decide (a0 ≥ (-70368744177664)) then (some (decide (a0 ≤ 70368744177664))) else (some false)) fun (v1 : Bool) =>
some v1
theorem L37 (k : Nat) (a0 : Int) (r : Bool) (hF : F37 k a0 = some r) : PF Try.prog orc 37 [.val (.int .i64 a0)] [] [] (fun p fr tk => p = .val (.bool r) ∧ fr = [] ∧ tk = []) := by
  unfold F37 at hF
  refine PF.enterS Try.func37 rfl rfl rfl (by kernel_rfl) rfl ?_
  refine PC.run (n := 2) rfl ?_
  refine PC.region ?_
  refine PO.run 3 rfl ?_
  refine bindK hF (fun x1 e2 hF => ?_)
  refine PO.cut 3 (fun s => ∃ (v1 : Bool), Weak s (PS.of 9 [(2, .val (.bool false)), (8, .val (.bool v1))] [] [] 0 0) ∧ v1 = x1) ?_ ?_
  · refine PO.case (t := 5) rfl rfl (fun h3 => ?_) (fun h3 => ?_)
    · have e2 := bif_t h3 e2
      refine PO.run 2 rfl ?_
      refine PO.same rfl (pickT_ok rfl rfl rfl) rfl ?_
      refine PO.nil ?_
      exact ⟨decide (a0 ≤ 70368744177664), Weak.one [] [] (by kernel_rfl), Option.some.inj e2⟩
    · have e2 := bif_f h3 e2
      refine PO.run 2 rfl ?_
      refine PO.same rfl (pickF_ok rfl rfl rfl) rfl ?_
      refine PO.nil ?_
      exact ⟨false, Weak.one [] [] (by kernel_rfl), Option.some.inj e2⟩
  · rintro _ ⟨v1, w4, rfl⟩
    refine PO.weak w4 ?_
    refine PO.run 1 rfl ?_
    refine PO.nil ?_
    have hq := Option.some.inj hF
    subst hq
    exact PC.ret' (retSK [] [] (by kernel_rfl) (.refl _) ⟨rfl, rfl, rfl⟩)

/-! 41 platen/fix.bare -/
def F41 (k : Nat) (a0 : Int) : Option Int :=
bif decide (a0 < 0) then (some (w_u64 (0 - (w_u64 (a0))))) else (some (w_u64 (a0)))
theorem L41 (k : Nat) (a0 : Int) (r : Int) (hF : F41 k a0 = some r) : PF Try.prog orc 41 [.val (.int .i64 a0)] [] [] (fun p fr tk => p = .val (.int .u64 r) ∧ fr = [] ∧ tk = []) := by
  unfold F41 at hF
  refine PF.enterS Try.func41 rfl rfl rfl (by kernel_rfl) rfl ?_
  refine PC.run (n := 2) rfl ?_
  refine PC.assoc ?_
  refine PC.run (n := 3) rfl ?_
  refine PC.cond rfl (fun h1 => ?_) (fun h1 => ?_)
  · have hF := bif_t h1 hF
    refine PC.assoc ?_
    refine PC.run (n := 5) rfl ?_
    have hq := Option.some.inj hF
    subst hq
    exact PC.ret (retSK [] [] (by kernel_rfl) (.refl _) ⟨rfl, rfl, rfl⟩)
  · have hF := bif_f h1 hF
    refine PC.noop ?_
    refine PC.run (n := 4) rfl ?_
    have hq := Option.some.inj hF
    subst hq
    exact PC.ret' (retSK [] [] (by kernel_rfl) (.refl _) ⟨rfl, rfl, rfl⟩)

/-! 40 math/bits.Mul64 -/
def F40 (k : Nat) (a0 : Int) (a1 : Int) : Option (Int × Int) :=
some (w_u64 ((w_u64 ((w_u64 ((Int.fdiv a0 (2 ^ 32)) * (Int.fdiv a1 (2 ^ 32)))) + (Int.fdiv (w_u64 ((w_u64 ((Int.fdiv a0 (2 ^ 32)) * (band_u64 a1 4294967295))) + (Int.fdiv (w_u64 ((band_u64 a0 4294967295) * (band_u64 a1 4294967295))) (2 ^ 32)))) (2 ^ 32)))) + (Int.fdiv (w_u64 ((band_u64 (w_u64 ((w_u64 ((Int.fdiv a0 (2 ^ 32)) * (band_u64 a1 4294967295))) + (Int.fdiv (w_u64 ((band_u64 a0 4294967295) * (band_u64 a1 4294967295))) (2 ^ 32)))) 4294967295) + (w_u64 ((band_u64 a0 4294967295) * (Int.fdiv a1 (2 ^ 32)))))) (2 ^ 32))), w_u64 (a0 * a1))
theorem L40 (k : Nat) (a0 : Int) (a1 : Int) (r : Int × Int) (hF : F40 k a0 a1 = some r) : PF Try.prog orc 40 [.val (.int .u64 a0), .val (.int .u64 a1)] [] [] (fun p fr tk => p = .tup [.val (.int .u64 r.1), .val (.int .u64 r.2)] ∧ fr = [] ∧ tk = []) := by
  unfold F40 at hF
  refine PF.enterS Try.func40 rfl rfl rfl (by kernel_rfl) rfl ?_
  refine PC.run (n := 3) rfl ?_
  refine PC.run (n := 4) rfl ?_
  refine PC.run (n := 4) rfl ?_
  refine PC.run (n := 4) rfl ?_
  refine PC.run (n := 4) rfl ?_
  refine PC.run (n := 5) rfl ?_
  refine PC.run (n := 8) rfl ?_
  refine PC.run (n := 4) rfl ?_
  refine PC.run (n := 4) rfl ?_
  refine PC.run (n := 7) rfl ?_
  refine PC.run (n := 10) rfl ?_
  refine PC.run (n := 5) rfl ?_
  have hq := Option.some.inj hF
  subst hq
  exact PC.ret' (retSK [] [] (by kernel_rfl) (.refl _) ⟨rfl, rfl, rfl⟩)

/-! 44 math/bits.Len64 -/
def F44 (k : Nat) (a0 : Int) : Option Int :=
Option.bind (α := Int × Int) (bif decide (a0 ≥ 4294967296) then (some (Int.fdiv a0 (2 ^ 32), 32)) else (some (a0, 0))) fun (v1, v2) =>
Option.bind (α := Int × Int) (bif decide (v1 ≥ 65536) then (some (Int.fdiv v1 (2 ^ 16), w (v2 + 16))) else (some (v1, v2))) fun (v3, v4) =>
Option.bind (α := Int × Int) (bif decide (v3 ≥ 256) then (some (Int.fdiv v3 (2 ^ 8), w (v4 + 8))) else (some (v3, v4))) fun (v5, v6) =>
bindC (ByteArray.mk #[0, 1, 2, 2, 3, 3, 3, 3, 4, 4, 4, 4, 4, 4, 4, 4, 5, 5, 5, 5, 5, 5, 5, 5, 5, 5, 5, 5, 5, 5, 5, 5, 6, 6, 6, 6, 6, 6, 6, 6, 6, 6, 6, 6, 6, 6, 6, 6, 6, 6, 6, 6, 6, 6, 6, 6, 6, 6, 6, 6, 6, 6, 6, 6, 7, 7, 7, 7, 7, 7, 7, 7, 7, 7, 7, 7, 7, 7, 7, 7, 7, 7, 7, 7, 7, 7, 7, 7, 7, 7, 7, 7, 7, 7, 7, 7, 7, 7, 7, 7, 7, 7, 7, 7, 7, 7, 7, 7, 7, 7, 7, 7, 7, 7, 7, 7, 7, 7, 7, 7, 7, 7, 7, 7, 7, 7, 7, 7, 8, 8, 8, 8, 8, 8, 8, 8, 8, 8, 8, 8, 8, 8, 8, 8, 8, 8, 8, 8, 8, 8, 8, 8, 8, 8, 8, 8, 8, 8, 8, 8, 8, 8, 8, 8, 8, 8, 8, 8, 8, 8, 8, 8, 8, 8, 8, 8, 8, 8, 8, 8, 8, 8, 8, 8, 8, 8, 8, 8, 8, 8, 8, 8, 8, 8, 8, 8, 8, 8, 8, 8, 8, 8, 8, 8, 8, 8, 8, 8, 8, 8, 8, 8, 8, 8, 8, 8, 8, 8, 8, 8, 8, 8, 8, 8, 8, 8, 8, 8, 8, 8, 8, 8, 8, 8, 8, 8, 8, 8, 8, 8, 8, 8, 8, 8, 8, 8, 8, 8, 8, 8, 8, 8, 8, 8, 8, 8]) (w_u8 (v5)) fun v8 =>
some (w (v6 + (w (v8))))
theorem L44 (k : Nat) (a0 : Int) (r : Int) (hF : F44 k a0 = some r) : PF Try.prog orc 44 [.val (.int .u64 a0)] [] [] (fun p fr tk => p = .val (.int .i64 r) ∧ fr = [] ∧ tk = []) := by
  unfold F44 at hF
  refine PF.enterS Try.func44 rfl rfl rfl (by kernel_rfl) rfl ?_
  refine PC.run (n := 2) rfl ?_
  refine PC.assoc ?_
  refine PC.run (n := 3) rfl ?_
  refine bindK hF (fun x1 e2 hF => ?_)
  refine PC.join (fun s => ∃ (v1 : Int) (v2 : Int), Weak s (PS.of 25 [(0, .val (.int .u64 v1)), (2, .val (.int .i64 v2))] [] [] 0 0) ∧ (v1, v2) = x1) ?_ ?_
  · refine PC.cond rfl (fun h3 => ?_) (fun h3 => ?_)
    · have e2 := bif_t h3 e2
      refine PC.assoc ?_
      refine PC.run (n := 4) rfl ?_
      refine PC.run (n := 2) rfl ?_
      exact PC.skip (joinKP.end ⟨Int.fdiv a0 (2 ^ 32), 32, Weak.one [] [] (by kernel_rfl), Option.some.inj e2⟩)
    · have e2 := bif_f h3 e2
      refine PC.noop ?_
      exact PC.skip (joinKP.end ⟨a0, 0, Weak.one [] [] (by kernel_rfl), Option.some.inj e2⟩)
  · rintro _ ⟨v1, v2, w4, rfl⟩
    refine PC.weak w4 ?_
    refine PC.assoc ?_
    refine PC.run (n := 3) rfl ?_
    refine bindK hF (fun x5 e6 hF => ?_)
    refine PC.join (fun s => ∃ (v3 : Int) (v4 : Int), Weak s (PS.of 25 [(0, .val (.int .u64 v3)), (2, .val (.int .i64 v4))] [] [] 0 0) ∧ (v3, v4) = x5) ?_ ?_
    · refine PC.cond rfl (fun h7 => ?_) (fun h7 => ?_)
      · have e6 := bif_t h7 e6
        refine PC.assoc ?_
        refine PC.run (n := 4) rfl ?_
        refine PC.run (n := 4) rfl ?_
        exact PC.skip (joinKP.end ⟨Int.fdiv v1 (2 ^ 16), w (v2 + 16), Weak.one [] [] (by kernel_rfl), Option.some.inj e6⟩)
      · have e6 := bif_f h7 e6
        refine PC.noop ?_
        exact PC.skip (joinKP.end ⟨v1, v2, Weak.one [] [] (by kernel_rfl), Option.some.inj e6⟩)
    · rintro _ ⟨v3, v4, w8, rfl⟩
      refine PC.weak w8 ?_
      refine PC.assoc ?_
      refine PC.run (n := 3) rfl ?_
      refine bindK hF (fun x9 e10 hF => ?_)
      refine PC.join (fun s => ∃ (v5 : Int) (v6 : Int), Weak s (PS.of 25 [(0, .val (.int .u64 v5)), (2, .val (.int .i64 v6))] [] [] 0 0) ∧ (v5, v6) = x9) ?_ ?_
      · refine PC.cond rfl (fun h11 => ?_) (fun h11 => ?_)
        · have e10 := bif_t h11 e10
          refine PC.assoc ?_
          refine PC.run (n := 4) rfl ?_
          refine PC.run (n := 4) rfl ?_
          exact PC.skip (joinKP.end ⟨Int.fdiv v3 (2 ^ 8), w (v4 + 8), Weak.one [] [] (by kernel_rfl), Option.some.inj e10⟩)
        · have e10 := bif_f h11 e10
          refine PC.noop ?_
          exact PC.skip (joinKP.end ⟨v3, v4, Weak.one [] [] (by kernel_rfl), Option.some.inj e10⟩)
      · rintro _ ⟨v5, v6, w12, rfl⟩
        refine PC.weak w12 ?_
        refine PC.region ?_
        refine PO.run 3 rfl ?_
        obtain ⟨y7, h13, h14, hF⟩ := bindC_some hF
        refine PO.same rfl (strIdx_ok Try.underlying9 rfl rfl h13 h14) rfl ?_
        generalize hgv8 : ((UInt8.toNat y7 : Nat) : Int) = v8 at hF
        try rw [hgv8]
        refine PO.run 3 rfl ?_
        refine PO.nil ?_
        have hq := Option.some.inj hF
        subst hq
        exact PC.ret' (retSK [] [] (by kernel_rfl) (.refl _) ⟨rfl, rfl, rfl⟩)

/-! 43 math/bits.LeadingZeros64 -/
def F43 (k : Nat) (a0 : Int) : Option Int :=
(F44 k a0).bind fun r1 =>
some (w (64 - r1))
theorem L43 (k : Nat) (a0 : Int) (r : Int) (hF : F43 k a0 = some r) : PF Try.prog orc 43 [.val (.int .u64 a0)] [] [] (fun p fr tk => p = .val (.int .i64 r) ∧ fr = [] ∧ tk = []) := by
  unfold F43 at hF
  refine PF.enterS Try.func43 rfl rfl rfl (by kernel_rfl) rfl ?_
  refine PC.run (n := 2) rfl ?_
  refine PC.region ?_
  refine PO.run 1 rfl ?_
  refine bindK hF (fun r1 e2 hF => ?_)
  refine PO.call rfl rfl rfl rfl (ks := []) (ts := []) (fr1 := []) rfl rfl rfl trivial (L44 k a0 _ e2) ?_
  rintro _ _ _ ⟨rfl, rfl, rfl⟩
  refine ⟨_, _, rfl, rfl, ?_⟩
  refine PO.run 2 rfl ?_
  refine PO.nil ?_
  have hq := Option.some.inj hF
  subst hq
  exact PC.ret' (retSK [] [] (by kernel_rfl) (.refl _) ⟨rfl, rfl, rfl⟩)

/-! 42 math/bits.Div64 -/
def F42_l1 (k : Nat) (a1 : Int) (a2 : Int) (r6 : Int) : Nat → Int → Int → Option Int
  | 0, _, _ => none
  | j15 + 1, v4, v5 =>
    Option.bind (α := Bool) (bif decide (v4 ≥ 4294967296) then (some true) else (some (decide ((w_u64 (v4 * (band_u64 (w_u64 (a2 * 2 ^ (min (Int.toNat (w_u64 (r6))) 64))) 4294967295))) > (w_u64 ((w_u64 (4294967296 * v5)) + (Int.fdiv (w_u64 (a1 * 2 ^ (min (Int.toNat (w_u64 (r6))) 64))) (2 ^ 32)))))))) fun (v8 : Bool) =>
    bif v8 then (bif decide ((w_u64 (v5 + (Int.fdiv (w_u64 (a2 * 2 ^ (min (Int.toNat (w_u64 (r6))) 64))) (2 ^ 32)))) ≥ 4294967296) then (some (w_u64 (v4 - 1))) else (F42_l1 k a1 a2 r6 j15 (w_u64 (v4 - 1)) (w_u64 (v5 + (Int.fdiv (w_u64 (a2 * 2 ^ (min (Int.toNat (w_u64 (r6))) 64))) (2 ^ 32)))))) else (some v4)
def F42_l2 (k : Nat) (a1 : Int) (a2 : Int) (r6 : Int) : Nat → Int → Int → Option Int
  | 0, _, _ => none
  | j27 + 1, v12, v13 =>
    Option.bind (α := Bool) (bif decide (v13 ≥ 4294967296) then (some true) else (some (decide ((w_u64 (v13 * (band_u64 (w_u64 (a2 * 2 ^ (min (Int.toNat (w_u64 (r6))) 64))) 4294967295))) > (w_u64 ((w_u64 (4294967296 * v12)) + (band_u64 (w_u64 (a1 * 2 ^ (min (Int.toNat (w_u64 (r6))) 64))) 4294967295))))))) fun (v16 : Bool) =>
    bif v16 then (bif decide ((w_u64 (v12 + (Int.fdiv (w_u64 (a2 * 2 ^ (min (Int.toNat (w_u64 (r6))) 64))) (2 ^ 32)))) ≥ 4294967296) then (some (w_u64 (v13 - 1))) else (F42_l2 k a1 a2 r6 j27 (w_u64 (v12 + (Int.fdiv (w_u64 (a2 * 2 ^ (min (Int.toNat (w_u64 (r6))) 64))) (2 ^ 32)))) (w_u64 (v13 - 1)))) else (some v13)
def F42 (k : Nat) (a0 : Int) (a1 : Int) (a2 : Int) : Option (Int × Int) :=
bif a2 == 0 then (none) else (bif decide (a2 ≤ a0) then (none) else (bif a0 == 0 then (bindD a2 (bindD a2 (some (w_u64 (Int.tdiv a1 a2), Int.tmod a1 a2)))) else ((F43 k a2).bind fun r6 =>
bindP (w_u64 (r6)) (bindP (w_u64 (r6)) (bindP (w_u64 (64 - (w_u64 (r6)))) (bindP (w_u64 (r6)) (bindD (Int.fdiv (w_u64 (a2 * 2 ^ (min (Int.toNat (w_u64 (r6))) 64))) (2 ^ 32)) (Option.bind (α := Int) (F42_l1 k a1 a2 r6 k (w_u64 (Int.tdiv (bor_u64 (w_u64 (a0 * 2 ^ (min (Int.toNat (w_u64 (r6))) 64))) (Int.fdiv a1 (2 ^ (min (Int.toNat (w_u64 (64 - (w_u64 (r6))))) 64)))) (Int.fdiv (w_u64 (a2 * 2 ^ (min (Int.toNat (w_u64 (r6))) 64))) (2 ^ 32)))) (w_u64 ((bor_u64 (w_u64 (a0 * 2 ^ (min (Int.toNat (w_u64 (r6))) 64))) (Int.fdiv a1 (2 ^ (min (Int.toNat (w_u64 (64 - (w_u64 (r6))))) 64)))) - (w_u64 ((w_u64 (Int.tdiv (bor_u64 (w_u64 (a0 * 2 ^ (min (Int.toNat (w_u64 (r6))) 64))) (Int.fdiv a1 (2 ^ (min (Int.toNat (w_u64 (64 - (w_u64 (r6))))) 64)))) (Int.fdiv (w_u64 (a2 * 2 ^ (min (Int.toNat (w_u64 (r6))) 64))) (2 ^ 32)))) * (Int.fdiv (w_u64 (a2 * 2 ^ (min (Int.toNat (w_u64 (r6))) 64))) (2 ^ 32))))))) fun (v1 : Int) =>
bindD (Int.fdiv (w_u64 (a2 * 2 ^ (min (Int.toNat (w_u64 (r6))) 64))) (2 ^ 32)) (Option.bind (α := Int) (F42_l2 k a1 a2 r6 k (w_u64 ((w_u64 ((w_u64 ((w_u64 ((bor_u64 (w_u64 (a0 * 2 ^ (min (Int.toNat (w_u64 (r6))) 64))) (Int.fdiv a1 (2 ^ (min (Int.toNat (w_u64 (64 - (w_u64 (r6))))) 64)))) * 4294967296)) + (Int.fdiv (w_u64 (a1 * 2 ^ (min (Int.toNat (w_u64 (r6))) 64))) (2 ^ 32)))) - (w_u64 (v1 * (w_u64 (a2 * 2 ^ (min (Int.toNat (w_u64 (r6))) 64))))))) - (w_u64 ((w_u64 (Int.tdiv (w_u64 ((w_u64 ((w_u64 ((bor_u64 (w_u64 (a0 * 2 ^ (min (Int.toNat (w_u64 (r6))) 64))) (Int.fdiv a1 (2 ^ (min (Int.toNat (w_u64 (64 - (w_u64 (r6))))) 64)))) * 4294967296)) + (Int.fdiv (w_u64 (a1 * 2 ^ (min (Int.toNat (w_u64 (r6))) 64))) (2 ^ 32)))) - (w_u64 (v1 * (w_u64 (a2 * 2 ^ (min (Int.toNat (w_u64 (r6))) 64))))))) (Int.fdiv (w_u64 (a2 * 2 ^ (min (Int.toNat (w_u64 (r6))) 64))) (2 ^ 32)))) * (Int.fdiv (w_u64 (a2 * 2 ^ (min (Int.toNat (w_u64 (r6))) 64))) (2 ^ 32)))))) (w_u64 (Int.tdiv (w_u64 ((w_u64 ((w_u64 ((bor_u64 (w_u64 (a0 * 2 ^ (min (Int.toNat (w_u64 (r6))) 64))) (Int.fdiv a1 (2 ^ (min (Int.toNat (w_u64 (64 - (w_u64 (r6))))) 64)))) * 4294967296)) + (Int.fdiv (w_u64 (a1 * 2 ^ (min (Int.toNat (w_u64 (r6))) 64))) (2 ^ 32)))) - (w_u64 (v1 * (w_u64 (a2 * 2 ^ (min (Int.toNat (w_u64 (r6))) 64))))))) (Int.fdiv (w_u64 (a2 * 2 ^ (min (Int.toNat (w_u64 (r6))) 64))) (2 ^ 32))))) fun (v9 : Int) =>
bindP (w_u64 (r6)) (some (w_u64 ((w_u64 (v1 * 4294967296)) + v9), Int.fdiv (w_u64 ((w_u64 ((w_u64 ((w_u64 ((w_u64 ((w_u64 ((bor_u64 (w_u64 (a0 * 2 ^ (min (Int.toNat (w_u64 (r6))) 64))) (Int.fdiv a1 (2 ^ (min (Int.toNat (w_u64 (64 - (w_u64 (r6))))) 64)))) * 4294967296)) + (Int.fdiv (w_u64 (a1 * 2 ^ (min (Int.toNat (w_u64 (r6))) 64))) (2 ^ 32)))) - (w_u64 (v1 * (w_u64 (a2 * 2 ^ (min (Int.toNat (w_u64 (r6))) 64))))))) * 4294967296)) + (band_u64 (w_u64 (a1 * 2 ^ (min (Int.toNat (w_u64 (r6))) 64))) 4294967295))) - (w_u64 (v9 * (w_u64 (a2 * 2 ^ (min (Int.toNat (w_u64 (r6))) 64))))))) (2 ^ (min (Int.toNat (w_u64 (r6))) 64)))))))))))))
theorem L42 (k : Nat) (a0 : Int) (a1 : Int) (a2 : Int) (r : Int × Int) (hF : F42 k a0 a1 a2 = some r) : PF Try.prog orc 42 [.val (.int .u64 a0), .val (.int .u64 a1), .val (.int .u64 a2)] [] [] (fun p fr tk => p = .tup [.val (.int .u64 r.1), .val (.int .u64 r.2)] ∧ fr = [] ∧ tk = []) := by
  unfold F42 at hF
  refine PF.enterS Try.func42 rfl rfl rfl (by kernel_rfl) rfl ?_
  refine PC.run (n := 3) rfl ?_
  refine PC.assoc ?_
  refine PC.run (n := 3) rfl ?_
  refine PC.cond rfl (fun h1 => ?_) (fun h1 => ?_)
  · have hF := bif_t h1 hF
    cases hF
  · have hF := bif_f h1 hF
    refine PC.noop ?_
    refine PC.assoc ?_
    refine PC.run (n := 4) rfl ?_
    refine PC.cond rfl (fun h2 => ?_) (fun h2 => ?_)
    · have hF := bif_t h2 hF
      cases hF
    · have hF := bif_f h2 hF
      refine PC.noop ?_
      refine PC.assoc ?_
      refine PC.run (n := 3) rfl ?_
      refine PC.cond rfl (fun h3 => ?_) (fun h3 => ?_)
      · have hF := bif_t h3 hF
        refine PC.assoc ?_
        refine PC.drawn (order := [0, 1, 2, 3, 4, 5, 6, 7]) (by kernel_rfl) ?_
        refine PO.run 2 rfl ?_
        refine bindDK hF (fun h4 hF => ?_)
        refine PO.same rfl (quo_ok rfl rfl h4) rfl ?_
        refine PO.run 2 rfl ?_
        refine bindDK hF (fun h5 hF => ?_)
        refine PO.same rfl (rem_ok rfl rfl h5) rfl ?_
        refine PO.run 2 rfl ?_
        refine PO.nil ?_
        have hq := Option.some.inj hF
        subst hq
        exact PC.ret (retSK [] [] (by kernel_rfl) (.refl _) ⟨rfl, rfl, rfl⟩)
      · have hF := bif_f h3 hF
        refine PC.noop ?_
        refine PC.region ?_
        refine PO.run 1 rfl ?_
        refine bindK hF (fun r6 e7 hF => ?_)
        refine PO.call rfl rfl rfl rfl (ks := []) (ts := []) (fr1 := []) rfl rfl rfl trivial (L43 k a2 _ e7) ?_
        rintro _ _ _ ⟨rfl, rfl, rfl⟩
        refine ⟨_, _, rfl, rfl, ?_⟩
        refine PO.run 2 rfl ?_
        refine PO.nil ?_
        refine PC.region ?_
        refine PO.run 2 rfl ?_
        obtain ⟨h8, hF⟩ := bindP_some hF
        refine PO.same rfl (shl_ok rfl rfl h8) rfl ?_
        refine PO.run 1 rfl ?_
        refine PO.nil ?_
        refine PC.run (n := 4) rfl ?_
        refine PC.run (n := 4) rfl ?_
        refine PC.region ?_
        refine PO.run 2 rfl ?_
        obtain ⟨h9, hF⟩ := bindP_some hF
        refine PO.same rfl (shl_ok rfl rfl h9) rfl ?_
        refine PO.run 3 rfl ?_
        obtain ⟨h10, hF⟩ := bindP_some hF
        refine PO.same rfl (shr_ok rfl rfl h10) rfl ?_
        refine PO.run 2 rfl ?_
        refine PO.nil ?_
        refine PC.region ?_
        refine PO.run 2 rfl ?_
        obtain ⟨h11, hF⟩ := bindP_some hF
        refine PO.same rfl (shl_ok rfl rfl h11) rfl ?_
        refine PO.run 1 rfl ?_
        refine PO.nil ?_
        refine PC.run (n := 4) rfl ?_
        refine PC.run (n := 4) rfl ?_
        refine PC.region ?_
        refine PO.run 2 rfl ?_
        refine bindDK hF (fun h12 hF => ?_)
        refine PO.same rfl (quo_ok rfl rfl h12) rfl ?_
        refine PO.run 1 rfl ?_
        refine PO.nil ?_
        refine PC.run (n := 7) rfl ?_
        refine bindK hF (fun x13 e14 hF => ?_)
        refine PC.blockJ (fun s => ∃ (v1 : Int), Weak s (PS.of 135 [(2, .val (.int .u64 (w_u64 (a2 * 2 ^ (min (Int.toNat (w_u64 (r6))) 64))))), (6, .val (.int .u64 0)), (7, .val (.int .u64 0)), (8, .val (.int .u64 (w_u64 (r6)))), (9, .val (.int .u64 (Int.fdiv (w_u64 (a2 * 2 ^ (min (Int.toNat (w_u64 (r6))) 64))) (2 ^ 32)))), (10, .val (.int .u64 (band_u64 (w_u64 (a2 * 2 ^ (min (Int.toNat (w_u64 (r6))) 64))) 4294967295))), (11, .val (.int .u64 (bor_u64 (w_u64 (a0 * 2 ^ (min (Int.toNat (w_u64 (r6))) 64))) (Int.fdiv a1 (2 ^ (min (Int.toNat (w_u64 (64 - (w_u64 (r6))))) 64)))))), (13, .val (.int .u64 (Int.fdiv (w_u64 (a1 * 2 ^ (min (Int.toNat (w_u64 (r6))) 64))) (2 ^ 32)))), (14, .val (.int .u64 (band_u64 (w_u64 (a1 * 2 ^ (min (Int.toNat (w_u64 (r6))) 64))) 4294967295))), (15, .val (.int .u64 v1))] [] [] 0 0) ∧ v1 = x13) ?_ ?_
        · refine PC.loop (fun j15 s => ∃ (v4 : Int) (v5 : Int), Weak s (PS.of 135 [(2, .val (.int .u64 (w_u64 (a2 * 2 ^ (min (Int.toNat (w_u64 (r6))) 64))))), (6, .val (.int .u64 0)), (7, .val (.int .u64 0)), (8, .val (.int .u64 (w_u64 (r6)))), (9, .val (.int .u64 (Int.fdiv (w_u64 (a2 * 2 ^ (min (Int.toNat (w_u64 (r6))) 64))) (2 ^ 32)))), (10, .val (.int .u64 (band_u64 (w_u64 (a2 * 2 ^ (min (Int.toNat (w_u64 (r6))) 64))) 4294967295))), (11, .val (.int .u64 (bor_u64 (w_u64 (a0 * 2 ^ (min (Int.toNat (w_u64 (r6))) 64))) (Int.fdiv a1 (2 ^ (min (Int.toNat (w_u64 (64 - (w_u64 (r6))))) 64)))))), (13, .val (.int .u64 (Int.fdiv (w_u64 (a1 * 2 ^ (min (Int.toNat (w_u64 (r6))) 64))) (2 ^ 32)))), (14, .val (.int .u64 (band_u64 (w_u64 (a1 * 2 ^ (min (Int.toNat (w_u64 (r6))) 64))) 4294967295))), (15, .val (.int .u64 v4)), (16, .val (.int .u64 v5))] [] [] 0 0) ∧ F42_l1 k a1 a2 r6 j15 v4 v5 = some x13) (fun j15 s => ?_) k ⟨w_u64 (Int.tdiv (bor_u64 (w_u64 (a0 * 2 ^ (min (Int.toNat (w_u64 (r6))) 64))) (Int.fdiv a1 (2 ^ (min (Int.toNat (w_u64 (64 - (w_u64 (r6))))) 64)))) (Int.fdiv (w_u64 (a2 * 2 ^ (min (Int.toNat (w_u64 (r6))) 64))) (2 ^ 32))), w_u64 ((bor_u64 (w_u64 (a0 * 2 ^ (min (Int.toNat (w_u64 (r6))) 64))) (Int.fdiv a1 (2 ^ (min (Int.toNat (w_u64 (64 - (w_u64 (r6))))) 64)))) - (w_u64 ((w_u64 (Int.tdiv (bor_u64 (w_u64 (a0 * 2 ^ (min (Int.toNat (w_u64 (r6))) 64))) (Int.fdiv a1 (2 ^ (min (Int.toNat (w_u64 (64 - (w_u64 (r6))))) 64)))) (Int.fdiv (w_u64 (a2 * 2 ^ (min (Int.toNat (w_u64 (r6))) 64))) (2 ^ 32)))) * (Int.fdiv (w_u64 (a2 * 2 ^ (min (Int.toNat (w_u64 (r6))) 64))) (2 ^ 32))))), Weak.one [] [] (by kernel_rfl), e14⟩
          rintro ⟨v4, v5, w16, e14⟩
          refine PC.weak w16 ?_
          cases j15 with
          | zero => rw [F42_l1] at e14; cases e14
          | succ j15 =>
            rw [F42_l1] at e14
            refine PC.assoc ?_
            refine PC.region ?_
            refine PO.run 3 rfl ?_
            refine bindK e14 (fun x17 e18 e14 => ?_)
            refine PO.cut 9 (fun s => ∃ (v8 : Bool), Weak s (PS.of 135 [(2, .val (.int .u64 (w_u64 (a2 * 2 ^ (min (Int.toNat (w_u64 (r6))) 64))))), (6, .val (.int .u64 0)), (7, .val (.int .u64 0)), (8, .val (.int .u64 (w_u64 (r6)))), (9, .val (.int .u64 (Int.fdiv (w_u64 (a2 * 2 ^ (min (Int.toNat (w_u64 (r6))) 64))) (2 ^ 32)))), (10, .val (.int .u64 (band_u64 (w_u64 (a2 * 2 ^ (min (Int.toNat (w_u64 (r6))) 64))) 4294967295))), (11, .val (.int .u64 (bor_u64 (w_u64 (a0 * 2 ^ (min (Int.toNat (w_u64 (r6))) 64))) (Int.fdiv a1 (2 ^ (min (Int.toNat (w_u64 (64 - (w_u64 (r6))))) 64)))))), (13, .val (.int .u64 (Int.fdiv (w_u64 (a1 * 2 ^ (min (Int.toNat (w_u64 (r6))) 64))) (2 ^ 32)))), (14, .val (.int .u64 (band_u64 (w_u64 (a1 * 2 ^ (min (Int.toNat (w_u64 (r6))) 64))) 4294967295))), (15, .val (.int .u64 v4)), (16, .val (.int .u64 v5)), (78, .val (.bool v8))] [] [] 0 0) ∧ v8 = x17) ?_ ?_
            · refine PO.case (t := 69) rfl rfl (fun h19 => ?_) (fun h19 => ?_)
              · have e18 := bif_t h19 e18
                refine PO.run 8 rfl ?_
                refine PO.same rfl (pickT_ok rfl rfl rfl) rfl ?_
                refine PO.nil ?_
                exact ⟨true, Weak.one [] [] (by kernel_rfl), Option.some.inj e18⟩
              · have e18 := bif_f h19 e18
                refine PO.run 8 rfl ?_
                refine PO.same rfl (pickF_ok rfl rfl rfl) rfl ?_
                refine PO.nil ?_
                exact ⟨decide ((w_u64 (v4 * (band_u64 (w_u64 (a2 * 2 ^ (min (Int.toNat (w_u64 (r6))) 64))) 4294967295))) > (w_u64 ((w_u64 (4294967296 * v5)) + (Int.fdiv (w_u64 (a1 * 2 ^ (min (Int.toNat (w_u64 (r6))) 64))) (2 ^ 32))))), Weak.one [] [] (by kernel_rfl), Option.some.inj e18⟩
            · rintro _ ⟨v8, w20, rfl⟩
              refine PO.weak w20 ?_
              refine PO.nil ?_
              refine PC.cond rfl (fun h21 => ?_) (fun h21 => ?_)
              · have e14 := bif_t h21 e14
                refine PC.noop ?_
                refine PC.lone ?_
                refine PC.block ?_
                refine PC.run (n := 4) rfl ?_
                refine PC.run (n := 5) rfl ?_
                refine PC.run (n := 3) rfl ?_
                refine PC.lone ?_
                refine PC.cond rfl (fun h22 => ?_) (fun h22 => ?_)
                · have e14 := bif_t h22 e14
                  exact PC.exit (blockKP.out (by decide) (loopKP.exit (blockJK.here ⟨w_u64 (v4 - 1), Weak.one [] [] (by kernel_rfl), Option.some.inj e14⟩)))
                · have e14 := bif_f h22 e14
                  refine PC.noop ?_
                  refine PC.skip (blockKP.end ?_)
                  exact PC.skip (loopKP.mk (Nat.lt_succ_self _) ⟨w_u64 (v4 - 1), w_u64 (v5 + (Int.fdiv (w_u64 (a2 * 2 ^ (min (Int.toNat (w_u64 (r6))) 64))) (2 ^ 32))), Weak.one [] [] (by kernel_rfl), e14⟩)
              · have e14 := bif_f h21 e14
                exact PC.exit (loopKP.exit (blockJK.here ⟨v4, Weak.one [] [] (by kernel_rfl), Option.some.inj e14⟩))
        · rintro _ ⟨v1, w23, rfl⟩
          refine PC.weak w23 ?_
          refine PC.run (n := 10) rfl ?_
          refine PC.region ?_
          refine PO.run 2 rfl ?_
          refine bindDK hF (fun h24 hF => ?_)
          refine PO.same rfl (quo_ok rfl rfl h24) rfl ?_
          refine PO.run 1 rfl ?_
          refine PO.nil ?_
          refine PC.run (n := 7) rfl ?_
          refine bindK hF (fun x25 e26 hF => ?_)
          refine PC.blockJ (fun s => ∃ (v9 : Int), Weak s (PS.of 135 [(2, .val (.int .u64 (w_u64 (a2 * 2 ^ (min (Int.toNat (w_u64 (r6))) 64))))), (6, .val (.int .u64 0)), (7, .val (.int .u64 0)), (8, .val (.int .u64 (w_u64 (r6)))), (14, .val (.int .u64 (band_u64 (w_u64 (a1 * 2 ^ (min (Int.toNat (w_u64 (r6))) 64))) 4294967295))), (15, .val (.int .u64 v1)), (17, .val (.int .u64 (w_u64 ((w_u64 ((w_u64 ((bor_u64 (w_u64 (a0 * 2 ^ (min (Int.toNat (w_u64 (r6))) 64))) (Int.fdiv a1 (2 ^ (min (Int.toNat (w_u64 (64 - (w_u64 (r6))))) 64)))) * 4294967296)) + (Int.fdiv (w_u64 (a1 * 2 ^ (min (Int.toNat (w_u64 (r6))) 64))) (2 ^ 32)))) - (w_u64 (v1 * (w_u64 (a2 * 2 ^ (min (Int.toNat (w_u64 (r6))) 64))))))))), (18, .val (.int .u64 v9))] [] [] 0 0) ∧ v9 = x25) ?_ ?_
          · refine PC.loop (fun j27 s => ∃ (v12 : Int) (v13 : Int), Weak s (PS.of 135 [(2, .val (.int .u64 (w_u64 (a2 * 2 ^ (min (Int.toNat (w_u64 (r6))) 64))))), (6, .val (.int .u64 0)), (7, .val (.int .u64 0)), (8, .val (.int .u64 (w_u64 (r6)))), (9, .val (.int .u64 (Int.fdiv (w_u64 (a2 * 2 ^ (min (Int.toNat (w_u64 (r6))) 64))) (2 ^ 32)))), (10, .val (.int .u64 (band_u64 (w_u64 (a2 * 2 ^ (min (Int.toNat (w_u64 (r6))) 64))) 4294967295))), (14, .val (.int .u64 (band_u64 (w_u64 (a1 * 2 ^ (min (Int.toNat (w_u64 (r6))) 64))) 4294967295))), (15, .val (.int .u64 v1)), (16, .val (.int .u64 v12)), (17, .val (.int .u64 (w_u64 ((w_u64 ((w_u64 ((bor_u64 (w_u64 (a0 * 2 ^ (min (Int.toNat (w_u64 (r6))) 64))) (Int.fdiv a1 (2 ^ (min (Int.toNat (w_u64 (64 - (w_u64 (r6))))) 64)))) * 4294967296)) + (Int.fdiv (w_u64 (a1 * 2 ^ (min (Int.toNat (w_u64 (r6))) 64))) (2 ^ 32)))) - (w_u64 (v1 * (w_u64 (a2 * 2 ^ (min (Int.toNat (w_u64 (r6))) 64))))))))), (18, .val (.int .u64 v13))] [] [] 0 0) ∧ F42_l2 k a1 a2 r6 j27 v12 v13 = some x25) (fun j27 s => ?_) k ⟨w_u64 ((w_u64 ((w_u64 ((w_u64 ((bor_u64 (w_u64 (a0 * 2 ^ (min (Int.toNat (w_u64 (r6))) 64))) (Int.fdiv a1 (2 ^ (min (Int.toNat (w_u64 (64 - (w_u64 (r6))))) 64)))) * 4294967296)) + (Int.fdiv (w_u64 (a1 * 2 ^ (min (Int.toNat (w_u64 (r6))) 64))) (2 ^ 32)))) - (w_u64 (v1 * (w_u64 (a2 * 2 ^ (min (Int.toNat (w_u64 (r6))) 64))))))) - (w_u64 ((w_u64 (Int.tdiv (w_u64 ((w_u64 ((w_u64 ((bor_u64 (w_u64 (a0 * 2 ^ (min (Int.toNat (w_u64 (r6))) 64))) (Int.fdiv a1 (2 ^ (min (Int.toNat (w_u64 (64 - (w_u64 (r6))))) 64)))) * 4294967296)) + (Int.fdiv (w_u64 (a1 * 2 ^ (min (Int.toNat (w_u64 (r6))) 64))) (2 ^ 32)))) - (w_u64 (v1 * (w_u64 (a2 * 2 ^ (min (Int.toNat (w_u64 (r6))) 64))))))) (Int.fdiv (w_u64 (a2 * 2 ^ (min (Int.toNat (w_u64 (r6))) 64))) (2 ^ 32)))) * (Int.fdiv (w_u64 (a2 * 2 ^ (min (Int.toNat (w_u64 (r6))) 64))) (2 ^ 32))))), w_u64 (Int.tdiv (w_u64 ((w_u64 ((w_u64 ((bor_u64 (w_u64 (a0 * 2 ^ (min (Int.toNat (w_u64 (r6))) 64))) (Int.fdiv a1 (2 ^ (min (Int.toNat (w_u64 (64 - (w_u64 (r6))))) 64)))) * 4294967296)) + (Int.fdiv (w_u64 (a1 * 2 ^ (min (Int.toNat (w_u64 (r6))) 64))) (2 ^ 32)))) - (w_u64 (v1 * (w_u64 (a2 * 2 ^ (min (Int.toNat (w_u64 (r6))) 64))))))) (Int.fdiv (w_u64 (a2 * 2 ^ (min (Int.toNat (w_u64 (r6))) 64))) (2 ^ 32))), Weak.one [] [] (by kernel_rfl), e26⟩
            rintro ⟨v12, v13, w28, e26⟩
            refine PC.weak w28 ?_
            cases j27 with
            | zero => rw [F42_l2] at e26; cases e26
            | succ j27 =>
              rw [F42_l2] at e26
              refine PC.assoc ?_
              refine PC.region ?_
              refine PO.run 3 rfl ?_
              refine bindK e26 (fun x29 e30 e26 => ?_)
              refine PO.cut 9 (fun s => ∃ (v16 : Bool), Weak s (PS.of 135 [(2, .val (.int .u64 (w_u64 (a2 * 2 ^ (min (Int.toNat (w_u64 (r6))) 64))))), (6, .val (.int .u64 0)), (7, .val (.int .u64 0)), (8, .val (.int .u64 (w_u64 (r6)))), (9, .val (.int .u64 (Int.fdiv (w_u64 (a2 * 2 ^ (min (Int.toNat (w_u64 (r6))) 64))) (2 ^ 32)))), (10, .val (.int .u64 (band_u64 (w_u64 (a2 * 2 ^ (min (Int.toNat (w_u64 (r6))) 64))) 4294967295))), (14, .val (.int .u64 (band_u64 (w_u64 (a1 * 2 ^ (min (Int.toNat (w_u64 (r6))) 64))) 4294967295))), (15, .val (.int .u64 v1)), (16, .val (.int .u64 v12)), (17, .val (.int .u64 (w_u64 ((w_u64 ((w_u64 ((bor_u64 (w_u64 (a0 * 2 ^ (min (Int.toNat (w_u64 (r6))) 64))) (Int.fdiv a1 (2 ^ (min (Int.toNat (w_u64 (64 - (w_u64 (r6))))) 64)))) * 4294967296)) + (Int.fdiv (w_u64 (a1 * 2 ^ (min (Int.toNat (w_u64 (r6))) 64))) (2 ^ 32)))) - (w_u64 (v1 * (w_u64 (a2 * 2 ^ (min (Int.toNat (w_u64 (r6))) 64))))))))), (18, .val (.int .u64 v13)), (113, .val (.bool v16))] [] [] 0 0) ∧ v16 = x29) ?_ ?_
              · refine PO.case (t := 104) rfl rfl (fun h31 => ?_) (fun h31 => ?_)
                · have e30 := bif_t h31 e30
                  refine PO.run 8 rfl ?_
                  refine PO.same rfl (pickT_ok rfl rfl rfl) rfl ?_
                  refine PO.nil ?_
                  exact ⟨true, Weak.one [] [] (by kernel_rfl), Option.some.inj e30⟩
                · have e30 := bif_f h31 e30
                  refine PO.run 8 rfl ?_
                  refine PO.same rfl (pickF_ok rfl rfl rfl) rfl ?_
                  refine PO.nil ?_
                  exact ⟨decide ((w_u64 (v13 * (band_u64 (w_u64 (a2 * 2 ^ (min (Int.toNat (w_u64 (r6))) 64))) 4294967295))) > (w_u64 ((w_u64 (4294967296 * v12)) + (band_u64 (w_u64 (a1 * 2 ^ (min (Int.toNat (w_u64 (r6))) 64))) 4294967295)))), Weak.one [] [] (by kernel_rfl), Option.some.inj e30⟩
              · rintro _ ⟨v16, w32, rfl⟩
                refine PO.weak w32 ?_
                refine PO.nil ?_
                refine PC.cond rfl (fun h33 => ?_) (fun h33 => ?_)
                · have e26 := bif_t h33 e26
                  refine PC.noop ?_
                  refine PC.lone ?_
                  refine PC.block ?_
                  refine PC.run (n := 4) rfl ?_
                  refine PC.run (n := 5) rfl ?_
                  refine PC.run (n := 3) rfl ?_
                  refine PC.lone ?_
                  refine PC.cond rfl (fun h34 => ?_) (fun h34 => ?_)
                  · have e26 := bif_t h34 e26
                    exact PC.exit (blockKP.out (by decide) (loopKP.exit (blockJK.here ⟨w_u64 (v13 - 1), Weak.one [] [] (by kernel_rfl), Option.some.inj e26⟩)))
                  · have e26 := bif_f h34 e26
                    refine PC.noop ?_
                    refine PC.skip (blockKP.end ?_)
                    exact PC.skip (loopKP.mk (Nat.lt_succ_self _) ⟨w_u64 (v12 + (Int.fdiv (w_u64 (a2 * 2 ^ (min (Int.toNat (w_u64 (r6))) 64))) (2 ^ 32))), w_u64 (v13 - 1), Weak.one [] [] (by kernel_rfl), e26⟩)
                · have e26 := bif_f h33 e26
                  exact PC.exit (loopKP.exit (blockJK.here ⟨v13, Weak.one [] [] (by kernel_rfl), Option.some.inj e26⟩))
          · rintro _ ⟨v9, w35, rfl⟩
            refine PC.weak w35 ?_
            refine PC.region ?_
            refine PO.run 13 rfl ?_
            obtain ⟨h36, hF⟩ := bindP_some hF
            refine PO.same rfl (shr_ok rfl rfl h36) rfl ?_
            refine PO.run 2 rfl ?_
            refine PO.nil ?_
            have hq := Option.some.inj hF
            subst hq
            exact PC.ret' (retSK [] [] (by kernel_rfl) (.refl _) ⟨rfl, rfl, rfl⟩)

/-! 38 platen/fix.floor -/
def F38 (k : Nat) (a0 : Int) (a1 : Int) (a2 : Int) : Option Int :=
(F41 k a0).bind fun r1 =>
(F40 k r1 (w_u64 (a1))).bind fun r3 =>
(F42 k r3.1 r3.2 (w_u64 (a2))).bind fun r5 =>
bif decide (a0 ≥ 0) then (some (w (r5.1))) else (Option.bind (α := Int) (bif decide (r5.2 > 0) then (some (w_u64 (r5.1 + 1))) else (some r5.1)) fun (v1 : Int) =>
some (w (0 - (w (v1)))))
theorem L38 (k : Nat) (a0 : Int) (a1 : Int) (a2 : Int) (r : Int) (hF : F38 k a0 a1 a2 = some r) : PF Try.prog orc 38 [.val (.int .i64 a0), .val (.int .i64 a1), .val (.int .i64 a2)] [] [] (fun p fr tk => p = .val (.int .i64 r) ∧ fr = [] ∧ tk = []) := by
  unfold F38 at hF
  refine PF.enterS Try.func38 rfl rfl rfl (by kernel_rfl) rfl ?_
  refine PC.run (n := 2) rfl ?_
  refine PC.region ?_
  refine PO.run 1 rfl ?_
  refine bindK hF (fun r1 e2 hF => ?_)
  refine PO.call rfl rfl rfl rfl (ks := []) (ts := []) (fr1 := []) rfl rfl rfl trivial (L41 k a0 _ e2) ?_
  rintro _ _ _ ⟨rfl, rfl, rfl⟩
  refine ⟨_, _, rfl, rfl, ?_⟩
  refine PO.run 2 rfl ?_
  refine bindK hF (fun r3 e4 hF => ?_)
  refine PO.call rfl rfl rfl rfl (ks := []) (ts := []) (fr1 := []) rfl rfl rfl trivial (L40 k r1 (w_u64 (a1)) _ e4) ?_
  rintro _ _ _ ⟨rfl, rfl, rfl⟩
  refine ⟨_, _, rfl, rfl, ?_⟩
  refine PO.run 5 rfl ?_
  refine PO.nil ?_
  refine PC.region ?_
  refine PO.run 4 rfl ?_
  refine bindK hF (fun r5 e6 hF => ?_)
  refine PO.call rfl rfl rfl rfl (ks := []) (ts := []) (fr1 := []) rfl rfl rfl trivial (L42 k r3.1 r3.2 (w_u64 (a2)) _ e6) ?_
  rintro _ _ _ ⟨rfl, rfl, rfl⟩
  refine ⟨_, _, rfl, rfl, ?_⟩
  refine PO.run 5 rfl ?_
  refine PO.nil ?_
  refine PC.assoc ?_
  refine PC.run (n := 3) rfl ?_
  refine PC.cond rfl (fun h7 => ?_) (fun h7 => ?_)
  · have hF := bif_t h7 hF
    refine PC.assoc ?_
    refine PC.run (n := 4) rfl ?_
    have hq := Option.some.inj hF
    subst hq
    exact PC.ret (retSK [] [] (by kernel_rfl) (.refl _) ⟨rfl, rfl, rfl⟩)
  · have hF := bif_f h7 hF
    refine PC.noop ?_
    refine PC.assoc ?_
    refine PC.run (n := 3) rfl ?_
    refine bindK hF (fun x8 e9 hF => ?_)
    refine PC.join (fun s => ∃ (v1 : Int), Weak s (PS.of 38 [(6, .val (.int .i64 0)), (9, .val (.int .u64 v1))] [] [] 0 0) ∧ v1 = x8) ?_ ?_
    · refine PC.cond rfl (fun h10 => ?_) (fun h10 => ?_)
      · have e9 := bif_t h10 e9
        refine PC.run (n := 4) rfl ?_
        exact PC.skip (joinKP.end ⟨w_u64 (r5.1 + 1), Weak.one [] [] (by kernel_rfl), Option.some.inj e9⟩)
      · have e9 := bif_f h10 e9
        refine PC.noop ?_
        exact PC.skip (joinKP.end ⟨r5.1, Weak.one [] [] (by kernel_rfl), Option.some.inj e9⟩)
    · rintro _ ⟨v1, w11, rfl⟩
      refine PC.weak w11 ?_
      refine PC.run (n := 5) rfl ?_
      have hq := Option.some.inj hF
      subst hq
      exact PC.ret' (retSK [] [] (by kernel_rfl) (.refl _) ⟨rfl, rfl, rfl⟩)

/-! 32 platen/fix.Share -/
def F32 (k : Nat) (a0 : Int) (a1 : Int) (a2 : Int) (a3 : Int) : Option Int :=
(F37 k a0).bind fun r1 =>
Option.bind (α := Bool) (bif !r1 then (some true) else (Option.bind (α := Bool) (bif decide (a1 < 0) then (some true) else (Option.bind (α := Bool) (bif decide (a1 > a2) then (some true) else (Option.bind (α := Bool) (bif decide (a2 > a3) then (some true) else (Option.bind (α := Bool) (bif decide (a3 > 70368744177664) then (some true) else (some (decide (a3 < 1)))) fun (v5 : Bool) =>
some v5)) fun (v4 : Bool) =>
some v4)) fun (v3 : Bool) =>
some v3)) fun (v2 : Bool) =>
some v2)) fun (v1 : Bool) =>
bif v1 then (some 0) else ((F38 k a0 a2 a3).bind fun r24 =>
(F38 k a0 a1 a3).bind fun r26 =>
some (w (r24 - r26)))
theorem L32 (k : Nat) (a0 : Int) (a1 : Int) (a2 : Int) (a3 : Int) (r : Int) (hF : F32 k a0 a1 a2 a3 = some r) : PF Try.prog orc 32 [.val (.int .i64 a0), .val (.int .i64 a1), .val (.int .i64 a2), .val (.int .i64 a3)] [] [] (fun p fr tk => p = .val (.int .i64 r) ∧ fr = [] ∧ tk = []) := by
  unfold F32 at hF
  refine PF.enterS Try.func32 rfl rfl rfl (by kernel_rfl) rfl ?_
  refine PC.run (n := 2) rfl ?_
  refine PC.assoc ?_
  refine PC.region ?_
  refine PO.run 1 rfl ?_
  refine bindK hF (fun r1 e2 hF => ?_)
  refine PO.call rfl rfl rfl rfl (ks := []) (ts := []) (fr1 := []) rfl rfl rfl trivial (L37 k a0 _ e2) ?_
  rintro _ _ _ ⟨rfl, rfl, rfl⟩
  refine ⟨_, _, rfl, rfl, ?_⟩
  refine PO.run 2 rfl ?_
  refine bindK hF (fun x3 e4 hF => ?_)
  refine PO.cut 21 (fun s => ∃ (v1 : Bool), Weak s (PS.of 43 [(0, .val (.int .i64 a0)), (1, .val (.int .i64 a1)), (2, .val (.int .i64 a2)), (3, .val (.int .i64 a3)), (8, .val (.int .i64 0)), (33, .val (.bool v1))] [] [] 0 0) ∧ v1 = x3) ?_ ?_
  · refine PO.case (t := 12) rfl rfl (fun h5 => ?_) (fun h5 => ?_)
    · have e4 := bif_t h5 e4
      refine PO.run 2 rfl ?_
      refine PO.same rfl (pickT_ok rfl rfl rfl) rfl ?_
      refine PO.run 4 rfl ?_
      refine PO.same rfl (pickT_ok rfl rfl rfl) rfl ?_
      refine PO.run 4 rfl ?_
      refine PO.same rfl (pickT_ok rfl rfl rfl) rfl ?_
      refine PO.run 3 rfl ?_
      refine PO.same rfl (pickT_ok rfl rfl rfl) rfl ?_
      refine PO.run 3 rfl ?_
      refine PO.same rfl (pickT_ok rfl rfl rfl) rfl ?_
      refine PO.nil ?_
      exact ⟨true, Weak.one [] [] (by kernel_rfl), Option.some.inj e4⟩
    · have e4 := bif_f h5 e4
      refine PO.run 2 rfl ?_
      refine PO.same rfl (pickF_ok rfl rfl rfl) rfl ?_
      refine PO.run 1 rfl ?_
      refine bindK e4 (fun x6 e7 e4 => ?_)
      refine PO.cut 17 (fun s => ∃ (v2 : Bool), Weak s (PS.of 43 [(0, .val (.int .i64 a0)), (1, .val (.int .i64 a1)), (2, .val (.int .i64 a2)), (3, .val (.int .i64 a3)), (8, .val (.int .i64 0)), (33, .val (.bool v2))] [] [] 0 0) ∧ v2 = x6) ?_ ?_
      · refine PO.case (t := 16) rfl rfl (fun h8 => ?_) (fun h8 => ?_)
        · have e7 := bif_t h8 e7
          refine PO.run 3 rfl ?_
          refine PO.same rfl (pickT_ok rfl rfl rfl) rfl ?_
          refine PO.run 4 rfl ?_
          refine PO.same rfl (pickT_ok rfl rfl rfl) rfl ?_
          refine PO.run 3 rfl ?_
          refine PO.same rfl (pickT_ok rfl rfl rfl) rfl ?_
          refine PO.run 3 rfl ?_
          refine PO.same rfl (pickT_ok rfl rfl rfl) rfl ?_
          refine PO.nil ?_
          exact ⟨true, Weak.one [] [] (by kernel_rfl), Option.some.inj e7⟩
        · have e7 := bif_f h8 e7
          refine PO.run 3 rfl ?_
          refine PO.same rfl (pickF_ok rfl rfl rfl) rfl ?_
          refine PO.run 1 rfl ?_
          refine bindK e7 (fun x9 e10 e7 => ?_)
          refine PO.cut 12 (fun s => ∃ (v3 : Bool), Weak s (PS.of 43 [(0, .val (.int .i64 a0)), (1, .val (.int .i64 a1)), (2, .val (.int .i64 a2)), (3, .val (.int .i64 a3)), (8, .val (.int .i64 0)), (33, .val (.bool v3))] [] [] 0 0) ∧ v3 = x9) ?_ ?_
          · refine PO.case (t := 21) rfl rfl (fun h11 => ?_) (fun h11 => ?_)
            · have e10 := bif_t h11 e10
              refine PO.run 3 rfl ?_
              refine PO.same rfl (pickT_ok rfl rfl rfl) rfl ?_
              refine PO.run 3 rfl ?_
              refine PO.same rfl (pickT_ok rfl rfl rfl) rfl ?_
              refine PO.run 3 rfl ?_
              refine PO.same rfl (pickT_ok rfl rfl rfl) rfl ?_
              refine PO.nil ?_
              exact ⟨true, Weak.one [] [] (by kernel_rfl), Option.some.inj e10⟩
            · have e10 := bif_f h11 e10
              refine PO.run 3 rfl ?_
              refine PO.same rfl (pickF_ok rfl rfl rfl) rfl ?_
              refine PO.run 1 rfl ?_
              refine bindK e10 (fun x12 e13 e10 => ?_)
              refine PO.cut 7 (fun s => ∃ (v4 : Bool), Weak s (PS.of 43 [(0, .val (.int .i64 a0)), (1, .val (.int .i64 a1)), (2, .val (.int .i64 a2)), (3, .val (.int .i64 a3)), (8, .val (.int .i64 0)), (33, .val (.bool v4))] [] [] 0 0) ∧ v4 = x12) ?_ ?_
              · refine PO.case (t := 26) rfl rfl (fun h14 => ?_) (fun h14 => ?_)
                · have e13 := bif_t h14 e13
                  refine PO.run 2 rfl ?_
                  refine PO.same rfl (pickT_ok rfl rfl rfl) rfl ?_
                  refine PO.run 3 rfl ?_
                  refine PO.same rfl (pickT_ok rfl rfl rfl) rfl ?_
                  refine PO.nil ?_
                  exact ⟨true, Weak.one [] [] (by kernel_rfl), Option.some.inj e13⟩
                · have e13 := bif_f h14 e13
                  refine PO.run 2 rfl ?_
                  refine PO.same rfl (pickF_ok rfl rfl rfl) rfl ?_
                  refine PO.run 1 rfl ?_
                  refine bindK e13 (fun x15 e16 e13 => ?_)
                  refine PO.cut 3 (fun s => ∃ (v5 : Bool), Weak s (PS.of 43 [(0, .val (.int .i64 a0)), (1, .val (.int .i64 a1)), (2, .val (.int .i64 a2)), (3, .val (.int .i64 a3)), (8, .val (.int .i64 0)), (33, .val (.bool v5))] [] [] 0 0) ∧ v5 = x15) ?_ ?_
                  · refine PO.case (t := 30) rfl rfl (fun h17 => ?_) (fun h17 => ?_)
                    · have e16 := bif_t h17 e16
                      refine PO.run 2 rfl ?_
                      refine PO.same rfl (pickT_ok rfl rfl rfl) rfl ?_
                      refine PO.nil ?_
                      exact ⟨true, Weak.one [] [] (by kernel_rfl), Option.some.inj e16⟩
                    · have e16 := bif_f h17 e16
                      refine PO.run 2 rfl ?_
                      refine PO.same rfl (pickF_ok rfl rfl rfl) rfl ?_
                      refine PO.nil ?_
                      exact ⟨decide (a3 < 1), Weak.one [] [] (by kernel_rfl), Option.some.inj e16⟩
                  · rintro _ ⟨v5, w18, rfl⟩
                    refine PO.weak w18 ?_
                    refine PO.nil ?_
                    exact ⟨v5, Weak.one [] [] (by kernel_rfl), Option.some.inj e13⟩
              · rintro _ ⟨v4, w19, rfl⟩
                refine PO.weak w19 ?_
                refine PO.nil ?_
                exact ⟨v4, Weak.one [] [] (by kernel_rfl), Option.some.inj e10⟩
          · rintro _ ⟨v3, w20, rfl⟩
            refine PO.weak w20 ?_
            refine PO.nil ?_
            exact ⟨v3, Weak.one [] [] (by kernel_rfl), Option.some.inj e7⟩
      · rintro _ ⟨v2, w21, rfl⟩
        refine PO.weak w21 ?_
        refine PO.nil ?_
        exact ⟨v2, Weak.one [] [] (by kernel_rfl), Option.some.inj e4⟩
  · rintro _ ⟨v1, w22, rfl⟩
    refine PO.weak w22 ?_
    refine PO.nil ?_
    refine PC.cond rfl (fun h23 => ?_) (fun h23 => ?_)
    · have hF := bif_t h23 hF
      refine PC.assoc ?_
      refine PC.run (n := 2) rfl ?_
      have hq := Option.some.inj hF
      subst hq
      exact PC.ret (retSK [] [] (by kernel_rfl) (.refl _) ⟨rfl, rfl, rfl⟩)
    · have hF := bif_f h23 hF
      refine PC.noop ?_
      refine PC.region ?_
      refine PO.run 3 rfl ?_
      refine bindK hF (fun r24 e25 hF => ?_)
      refine PO.call rfl rfl rfl rfl (ks := []) (ts := []) (fr1 := []) rfl rfl rfl trivial (L38 k a0 a2 a3 _ e25) ?_
      rintro _ _ _ ⟨rfl, rfl, rfl⟩
      refine ⟨_, _, rfl, rfl, ?_⟩
      refine PO.run 3 rfl ?_
      refine bindK hF (fun r26 e27 hF => ?_)
      refine PO.call rfl rfl rfl rfl (ks := []) (ts := []) (fr1 := []) rfl rfl rfl trivial (L38 k a0 a1 a3 _ e27) ?_
      rintro _ _ _ ⟨rfl, rfl, rfl⟩
      refine ⟨_, _, rfl, rfl, ?_⟩
      refine PO.run 2 rfl ?_
      refine PO.nil ?_
      have hq := Option.some.inj hF
      subst hq
      exact PC.ret' (retSK [] [] (by kernel_rfl) (.refl _) ⟨rfl, rfl, rfl⟩)

/-! 26 (*platen/glue.setting).width -/
def F26 (k : Nat) (a0 : Gsetting) (a1 : GItem) : Option (Int × Gsetting) :=
bif a0.all == 0 then (some (a1.width, a0)) else (Option.bind (α := Int) (bif a0.stretch then (some a1.stretch) else (some a1.shrink)) fun (v1 : Int) =>
(F32 k a0.much a0.before (w (a0.before + v1)) a0.all).bind fun r6 =>
bif a0.stretch then (some (w (a1.width + r6), (Gsetting.mk a0.much a0.all a0.stretch (w (a0.before + v1))))) else (some (w (a1.width - r6), (Gsetting.mk a0.much a0.all a0.stretch (w (a0.before + v1))))))
theorem L26 (k : Nat) (a0 : Gsetting) (a1 : GItem) (r : Int × Gsetting) (hF : F26 k a0 a1 = some r) : PF Try.prog orc 26 [.ptr 0 0, .agg (cGItem a1)] [⟨0, (cGsetting a0)⟩] [] (fun p fr tk => p = .val (.int .i64 r.1) ∧ fr = [⟨0, (cGsetting r.2)⟩] ∧ tk = []) := by
  unfold F26 at hF
  refine PF.enterS Try.func26 rfl rfl rfl (by kernel_rfl) rfl ?_
  refine PC.region ?_
  refine PO.runK 2 [0, 1] [] (es := [(0, .ptr 0 0), (3, .ptr 1 0), (4, .val (.int .i64 0))]) (fr' := [⟨0, (cGsetting a0)⟩, ⟨0, (cGItem a1)⟩]) (tk' := []) (by kernel_rfl) ?_
  refine PO.nil ?_
  refine PC.assoc ?_
  refine PC.run (n := 6) rfl ?_
  refine PC.cond rfl (fun h1 => ?_) (fun h1 => ?_)
  · have hF := bif_t h1 hF
    refine PC.assoc ?_
    refine PC.run (n := 4) rfl ?_
    have hq := Option.some.inj hF
    subst hq
    exact PC.ret (retSK [0] [] (by kernel_rfl) (.refl _) ⟨rfl, rfl, rfl⟩)
  · have hF := bif_f h1 hF
    refine PC.noop ?_
    refine PC.run (n := 4) rfl ?_
    refine PC.assoc ?_
    refine PC.run (n := 5) rfl ?_
    refine bindK hF (fun x2 e3 hF => ?_)
    refine PC.join (fun s => ∃ (v1 : Int), Weak s (PS.of 61 [(0, .ptr 0 0), (3, .ptr 1 0), (4, .val (.int .i64 0)), (5, .val (.int .i64 v1))] [⟨0, (cGsetting a0)⟩, ⟨0, (cGItem a1)⟩] [] 1 0) ∧ v1 = x2) ?_ ?_
    · refine PC.cond rfl (fun h4 => ?_) (fun h4 => ?_)
      · have e3 := bif_t h4 e3
        refine PC.run (n := 4) rfl ?_
        exact PC.skip (joinKP.end ⟨a1.stretch, Weak.one [0, 1] [] (by kernel_rfl), Option.some.inj e3⟩)
      · have e3 := bif_f h4 e3
        refine PC.noop ?_
        exact PC.skip (joinKP.end ⟨a1.shrink, Weak.one [0, 1] [] (by kernel_rfl), Option.some.inj e3⟩)
    · rintro _ ⟨v1, w5, rfl⟩
      refine PC.weak w5 ?_
      refine PC.drawn (order := [0, 1, 2, 3, 4, 5, 6, 7, 8, 9, 10, 11, 12, 13, 14, 15, 16, 17, 18, 19]) (by kernel_rfl) ?_
      refine PO.run 18 rfl ?_
      refine bindK hF (fun r6 e7 hF => ?_)
      refine PO.call rfl rfl rfl rfl (ks := []) (ts := []) (fr1 := []) rfl rfl rfl trivial (L32 k a0.much a0.before (w (a0.before + v1)) a0.all _ e7) ?_
      rintro _ _ _ ⟨rfl, rfl, rfl⟩
      refine ⟨_, _, rfl, rfl, ?_⟩
      refine PO.run 1 rfl ?_
      refine PO.nil ?_
      refine PC.region ?_
      refine PO.runK 9 [0, 1] [] (es := [(0, .ptr 0 0), (3, .ptr 1 0), (4, .val (.int .i64 0)), (6, .val (.int .i64 r6))]) (fr' := [⟨0, [.val (.int .i64 a0.much), .val (.int .i64 a0.all), .val (.bool a0.stretch), .val (.int .i64 (w (a0.before + v1)))]⟩, ⟨0, (cGItem a1)⟩]) (tk' := []) (by kernel_rfl) ?_
      refine PO.nil ?_
      refine PC.assoc ?_
      refine PC.run (n := 5) rfl ?_
      refine PC.cond rfl (fun h8 => ?_) (fun h8 => ?_)
      · have hF := bif_t h8 hF
        refine PC.assoc ?_
        refine PC.run (n := 6) rfl ?_
        have hq := Option.some.inj hF
        subst hq
        exact PC.ret (retSK [0] [] (by kernel_rfl) (.refl _) ⟨rfl, rfl, rfl⟩)
      · have hF := bif_f h8 hF
        refine PC.noop ?_
        refine PC.run (n := 6) rfl ?_
        have hq := Option.some.inj hF
        subst hq
        exact PC.ret' (retSK [0] [] (by kernel_rfl) (.refl _) ⟨rfl, rfl, rfl⟩)

/-! 7 platen/glue.Set -/
def F7_l1 (k : Nat) (a2 : GLine) (r1 : (List GItem) × Int × Bool) : Nat → Int → Int → Int → Int → Int → Int → Int → Int → (List Int) → (List Int) → Int → Int → Bool → Int → Int → Option ((Int × Int × Int × Int × Int × Int × Int × (List Int) × (List Int) × Int) ⊕ ((List Int) × (List Int) × GFault × GMeter))
  | 0, _, _, _, _, _, _, _, _, _, _, _, _, _, _, _ => none
  | j8 + 1, v26, v27, v28, v29, v30, v31, v32, v33, v34, v35, v36, v37, v38, v39, v40 =>
    bif decide (v26 < (r1.1.length : Int)) then (bindI r1.1 v26 fun y56 =>
    (F22_s k (w (a2.first + v26)) (y56.kind == 1) (GMeter.mk v27 v28 v29 v30 v31 v32 v33) v34 v35 v40).bind fun r13 =>
    bif !r13.1 then ((F25 k r13.2.1).bind fun r16 =>
    some (.inr ([], [], (GFault.mk r16.1 0), r16.2))) else (Option.bind (α := Int × Int × Bool × Int × Int) (Option.bind (α := Bool) (bif y56.kind == 1 then (some (y56.kind == 1)) else (some (y56.kind == 2))) fun (v62 : Bool) =>
    bif v62 then (some (v36, v37, v38, v39, w (r13.2.2.2.2 + y56.width))) else (bif y56.kind == 3 then ((F26 k (Gsetting.mk v36 v37 v38 v39) y56).bind fun r26 =>
    some (r26.2.much, r26.2.all, r26.2.stretch, r26.2.before, w (r13.2.2.2.2 + r26.1))) else (some (v36, v37, v38, v39, r13.2.2.2.2)))) fun (v57, v58, v59, v60, v61) =>
    F7_l1 k a2 r1 j8 (w (v26 + 1)) r13.2.1.steps_now r13.2.1.steps_peak r13.2.1.steps_budget r13.2.1.cells_now r13.2.1.cells_peak r13.2.1.cells_budget r13.2.1.refused r13.2.2.1 r13.2.2.2.1 v57 v58 v59 v60 v61)) else (some (.inl (v27, v28, v29, v30, v31, v32, v33, v34, v35, v40)))
def F7 (k : Nat) (a0 : GMeter) (a1 : List GItem) (a2 : GLine) : Option ((List Int) × (List Int) × GFault × GMeter) :=
(F20 k a1 a2).bind fun r1 =>
bif !r1.2.2 then (some ([], [], (GFault.mk 1 0), a0)) else ((F21 k r1.1 a2).bind fun r4 =>
Option.bind (α := (Int × Int × Int × Int × Int × Int × Int × (List Int) × (List Int) × Int) ⊕ ((List Int) × (List Int) × GFault × GMeter)) (F7_l1 k a2 r1 k 0 a0.steps_now a0.steps_peak a0.steps_budget a0.cells_now a0.cells_peak a0.cells_budget a0.refused ([] : List Int) ([] : List Int) r4.much r4.all r4.stretch r4.before 0) (Sum.elim (fun (v1, v2, v3, v4, v5, v6, v7, v8, v9, v10) =>
Option.bind (α := Bool × Int × Int × Int × Int × Int × Int × Int × (List Int) × (List Int)) (bif decide (r1.2.1 ≥ 0) then ((F22_s k r1.2.1 true (GMeter.mk v1 v2 v3 v4 v5 v6 v7) v8 v9 v10).bind fun r33 =>
some (!r33.1, r33.2.1.steps_now, r33.2.1.steps_peak, r33.2.1.steps_budget, r33.2.1.cells_now, r33.2.1.cells_peak, r33.2.1.cells_budget, r33.2.1.refused, r33.2.2.1, r33.2.2.2.1)) else (some (false, v1, v2, v3, v4, v5, v6, v7, v8, v9))) fun (v63, v64, v65, v66, v67, v68, v69, v70, v71, v72) =>
bif v63 then ((F25 k (GMeter.mk v64 v65 v66 v67 v68 v69 v70)).bind fun r37 =>
some ([], [], (GFault.mk r37.1 0), r37.2)) else (some (v71, v72, (GFault.mk 0 0), (GMeter.mk v64 v65 v66 v67 v68 v69 v70)))) some))
theorem L7 (k : Nat) (a0 : GMeter) (a1 : List GItem) (a2 : GLine) (r : (List Int) × (List Int) × GFault × GMeter) (hF : F7 k a0 a1 a2 = some r) : PF Try.prog orc 7 [.ptr 0 0, .list 13 (List.map cGItem a1) none, .agg (cGLine a2)] [⟨0, (cGMeter a0)⟩] [] (fun p fr tk => p = .tup [.list 1 (List.map cI_i64 r.1) none, .list 1 (List.map cI_i64 r.2.1) none, .agg (cGFault r.2.2.1)] ∧ fr = [⟨0, (cGMeter r.2.2.2)⟩] ∧ tk = []) := by
  unfold F7 at hF
  refine PF.enterS Try.func7 rfl rfl rfl (by kernel_rfl) rfl ?_
  refine PC.region ?_
  refine PO.runK 5 [0, 1, 2, 3] [] (es := [(1, .list 13 (List.map cGItem a1) none), (3, .ptr 1 0), (5, .ptr 2 0), (6, .val (.slice none 0 0)), (7, .val (.slice none 0 0)), (8, .ptr 3 0)]) (fr' := [⟨0, (cGMeter a0)⟩, ⟨0, [.ptr 0 0]⟩, ⟨0, (cGLine a2)⟩, ⟨0, [.val (.int .i64 0), .val (.int .i64 0)]⟩]) (tk' := []) (by kernel_rfl) ?_
  refine PO.nil ?_
  refine PC.region ?_
  refine PO.run 2 rfl ?_
  refine bindK hF (fun r1 e2 hF => ?_)
  refine PO.call rfl rfl rfl rfl (ks := []) (ts := []) (fr1 := []) rfl rfl rfl trivial (L20 k a1 a2 _ e2) ?_
  rintro _ _ _ ⟨rfl, rfl, rfl⟩
  refine ⟨_, _, rfl, rfl, ?_⟩
  refine PO.run 7 rfl ?_
  refine PO.nil ?_
  refine PC.assoc ?_
  refine PC.run (n := 3) rfl ?_
  refine PC.cond rfl (fun h3 => ?_) (fun h3 => ?_)
  · have hF := bif_t h3 hF
    refine PC.assoc ?_
    refine PC.region ?_
    refine PO.runK 4 [0, 3] [] (es := [(6, .val (.slice none 0 0)), (7, .val (.slice none 0 0)), (8, .ptr 1 0)]) (fr' := [⟨0, (cGMeter a0)⟩, ⟨0, [.val (.int .i64 1), .val (.int .i64 0)]⟩]) (tk' := []) (by kernel_rfl) ?_
    refine PO.nil ?_
    have hq := Option.some.inj hF
    subst hq
    exact PC.ret (retSK [0] [] (by kernel_rfl) (Less.tupL (LessL.cons (.nil 1) (LessL.cons (.nil 1) (LessL.refl _)))) ⟨rfl, rfl, rfl⟩)
  · have hF := bif_f h3 hF
    refine PC.noop ?_
    refine PC.region ?_
    refine PO.runK 2 [0, 1, 2, 3, 4, 5] [] (es := [(3, .ptr 1 0), (5, .ptr 2 0), (6, .val (.slice none 0 0)), (7, .val (.slice none 0 0)), (8, .ptr 3 0), (9, .list 13 (List.map cGItem r1.1) none), (10, .val (.int .i64 r1.2.1)), (12, .ptr 4 0), (13, .ptr 5 0)]) (fr' := [⟨0, (cGMeter a0)⟩, ⟨0, [.ptr 0 0]⟩, ⟨0, (cGLine a2)⟩, ⟨0, [.val (.int .i64 0), .val (.int .i64 0)]⟩, ⟨0, [.val (.slice none 0 0)]⟩, ⟨0, [.val (.slice none 0 0)]⟩]) (tk' := []) (by kernel_rfl) ?_
    refine PO.nil ?_
    refine PC.weak (s' := PS.of 83 [(3, .ptr 1 0), (5, .ptr 2 0), (6, .val (.slice none 0 0)), (7, .val (.slice none 0 0)), (8, .ptr 3 0), (9, .list 13 (List.map cGItem r1.1) none), (10, .val (.int .i64 r1.2.1)), (12, .ptr 4 0), (13, .ptr 5 0)] [⟨0, (cGMeter a0)⟩, ⟨0, [.ptr 0 0]⟩, ⟨0, (cGLine a2)⟩, ⟨0, [.val (.int .i64 0), .val (.int .i64 0)]⟩, ⟨0, [.list 1 (List.map cI_i64 ([] : List Int)) (some 0)]⟩, ⟨0, [.list 1 (List.map cI_i64 ([] : List Int)) (some 1)]⟩] [0, 0] 1 0) (Weak.mk [0, 1, 2, 3, 4, 5] [] 2 rfl rfl rfl ⟨⟨_, _, rfl, rfl, rfl, (LessL.refl _)⟩, ⟨⟨_, _, rfl, rfl, rfl, (LessL.refl _)⟩, ⟨⟨_, _, rfl, rfl, rfl, (LessL.refl _)⟩, ⟨⟨_, _, rfl, rfl, rfl, (LessL.refl _)⟩, ⟨⟨_, _, rfl, rfl, rfl, (LessL.cons (.nilt 1 0 rfl rfl) (LessL.refl _))⟩, ⟨⟨_, _, rfl, rfl, rfl, (LessL.cons (.nilt 1 1 rfl rfl) (LessL.refl _))⟩, trivial⟩⟩⟩⟩⟩⟩ ⟨⟨_, _, rfl, rfl, .refl _⟩, ⟨⟨_, _, rfl, rfl, .refl _⟩, ⟨⟨_, _, rfl, rfl, .refl _⟩, ⟨⟨_, _, rfl, rfl, .refl _⟩, ⟨⟨_, _, rfl, rfl, .refl _⟩, ⟨⟨_, _, rfl, rfl, .refl _⟩, ⟨⟨_, _, rfl, rfl, .refl _⟩, ⟨⟨_, _, rfl, rfl, .refl _⟩, ⟨⟨_, _, rfl, rfl, .refl _⟩, trivial⟩⟩⟩⟩⟩⟩⟩⟩⟩) ?_
    refine PC.region ?_
    refine PO.run 2 rfl ?_
    refine bindK hF (fun r4 e5 hF => ?_)
    refine PO.call rfl rfl rfl rfl (ks := []) (ts := []) (fr1 := []) rfl rfl rfl trivial (L21 k r1.1 a2 _ e5) ?_
    rintro _ _ _ ⟨rfl, rfl, rfl⟩
    refine ⟨_, _, rfl, rfl, ?_⟩
    refine PO.runK 2 [0, 1, 2, 3, 4, 5, 6] [0, 1] (es := [(3, .ptr 1 0), (5, .ptr 2 0), (6, .val (.slice none 0 0)), (7, .val (.slice none 0 0)), (8, .ptr 3 0), (9, .list 13 (List.map cGItem r1.1) none), (10, .val (.int .i64 r1.2.1)), (12, .ptr 4 0), (13, .ptr 5 0), (14, .ptr 6 0)]) (fr' := [⟨0, (cGMeter a0)⟩, ⟨0, [.ptr 0 0]⟩, ⟨0, (cGLine a2)⟩, ⟨0, [.val (.int .i64 0), .val (.int .i64 0)]⟩, ⟨0, [.list 1 (List.map cI_i64 ([] : List Int)) (some 0)]⟩, ⟨0, [.list 1 (List.map cI_i64 ([] : List Int)) (some 1)]⟩, ⟨0, (cGsetting r4)⟩]) (tk' := [0, 0]) (by kernel_rfl) ?_
    refine PO.nil ?_
    refine PC.region ?_
    refine PO.runK 2 [0, 1, 2, 3, 4, 5, 6, 7] [0, 1] (es := [(3, .ptr 1 0), (5, .ptr 2 0), (6, .val (.slice none 0 0)), (7, .val (.slice none 0 0)), (8, .ptr 3 0), (9, .list 13 (List.map cGItem r1.1) none), (10, .val (.int .i64 r1.2.1)), (12, .ptr 4 0), (13, .ptr 5 0), (14, .ptr 6 0), (15, .ptr 7 0)]) (fr' := [⟨0, (cGMeter a0)⟩, ⟨0, [.ptr 0 0]⟩, ⟨0, (cGLine a2)⟩, ⟨0, [.val (.int .i64 0), .val (.int .i64 0)]⟩, ⟨0, [.list 1 (List.map cI_i64 ([] : List Int)) (some 0)]⟩, ⟨0, [.list 1 (List.map cI_i64 ([] : List Int)) (some 1)]⟩, ⟨0, (cGsetting r4)⟩, ⟨0, [.val (.int .i64 0)]⟩]) (tk' := [0, 0]) (by kernel_rfl) ?_
    refine PO.nil ?_
    refine PC.run (n := 3) rfl ?_
    refine PC.assoc ?_
    refine PC.region ?_
    refine PO.run 1 rfl ?_
    refine PO.same rfl (len_ok Try.underlying22 rfl (List.length_map _)) rfl ?_
    refine PO.run 1 rfl ?_
    refine PO.nil ?_
    refine bindK hF (fun x6 e7 hF => ?_)
    refine PC.blockJ (fun s => ∃ (v1 : Int) (v2 : Int) (v3 : Int) (v4 : Int) (v5 : Int) (v6 : Int) (v7 : Int) (v8 : List Int) (v9 : List Int) (v10 : Int), Weak s (PS.of 83 [(3, .ptr 1 0), (6, .val (.slice none 0 0)), (7, .val (.slice none 0 0)), (8, .ptr 2 0), (10, .val (.int .i64 r1.2.1)), (12, .ptr 3 0), (13, .ptr 4 0), (16, .fn 22 [] [.ptr 1 0, .ptr 3 0, .ptr 4 0, .ptr 5 0])] [⟨0, [.val (.int .i64 v1), .val (.int .i64 v2), .val (.int .i64 v3), .val (.int .i64 v4), .val (.int .i64 v5), .val (.int .i64 v6), .val (.int .i64 v7)]⟩, ⟨0, [.ptr 0 0]⟩, ⟨0, [.val (.int .i64 0), .val (.int .i64 0)]⟩, ⟨0, [.list 1 (List.map cI_i64 v8) (some 0)]⟩, ⟨0, [.list 1 (List.map cI_i64 v9) (some 1)]⟩, ⟨0, [.val (.int .i64 v10)]⟩] [v8.length, v9.length] 1 0) ∧ .inl (v1, v2, v3, v4, v5, v6, v7, v8, v9, v10) = x6) ?_ ?_
    · refine PC.loop (fun j8 s => ∃ (v26 : Int) (v27 : Int) (v28 : Int) (v29 : Int) (v30 : Int) (v31 : Int) (v32 : Int) (v33 : Int) (v34 : List Int) (v35 : List Int) (v36 : Int) (v37 : Int) (v38 : Bool) (v39 : Int) (v40 : Int), Weak s (PS.of 83 [(3, .ptr 1 0), (5, .ptr 2 0), (6, .val (.slice none 0 0)), (7, .val (.slice none 0 0)), (8, .ptr 3 0), (10, .val (.int .i64 r1.2.1)), (12, .ptr 4 0), (13, .ptr 5 0), (14, .ptr 6 0), (15, .ptr 7 0), (16, .fn 22 [] [.ptr 1 0, .ptr 4 0, .ptr 5 0, .ptr 7 0]), (33, .list 13 (List.map cGItem r1.1) none), (34, .val (.int .i64 (r1.1.length : Int))), (35, .val (.int .i64 v26))] [⟨0, [.val (.int .i64 v27), .val (.int .i64 v28), .val (.int .i64 v29), .val (.int .i64 v30), .val (.int .i64 v31), .val (.int .i64 v32), .val (.int .i64 v33)]⟩, ⟨0, [.ptr 0 0]⟩, ⟨0, (cGLine a2)⟩, ⟨0, [.val (.int .i64 0), .val (.int .i64 0)]⟩, ⟨0, [.list 1 (List.map cI_i64 v34) (some 0)]⟩, ⟨0, [.list 1 (List.map cI_i64 v35) (some 1)]⟩, ⟨0, [.val (.int .i64 v36), .val (.int .i64 v37), .val (.bool v38), .val (.int .i64 v39)]⟩, ⟨0, [.val (.int .i64 v40)]⟩] [v34.length, v35.length] 1 0) ∧ F7_l1 k a2 r1 j8 v26 v27 v28 v29 v30 v31 v32 v33 v34 v35 v36 v37 v38 v39 v40 = some x6) (fun j8 s => ?_) k ⟨0, a0.steps_now, a0.steps_peak, a0.steps_budget, a0.cells_now, a0.cells_peak, a0.cells_budget, a0.refused, ([] : List Int), ([] : List Int), r4.much, r4.all, r4.stretch, r4.before, 0, Weak.one [0, 1, 2, 3, 4, 5, 6, 7] [0, 1] (by kernel_rfl), e7⟩
      rintro ⟨v26, v27, v28, v29, v30, v31, v32, v33, v34, v35, v36, v37, v38, v39, v40, w9, e7⟩
      refine PC.weak w9 ?_
      cases j8 with
      | zero => rw [F7_l1] at e7; cases e7
      | succ j8 =>
        rw [F7_l1] at e7
        refine PC.run (n := 2) rfl ?_
        refine PC.cond rfl (fun h10 => ?_) (fun h10 => ?_)
        · have e7 := bif_t h10 e7
          refine PC.noop ?_
          refine PC.block ?_
          refine PC.region ?_
          refine PO.run 1 rfl ?_
          refine bindIK e7 (fun y56 h11 h12 e7 => ?_)
          refine PO.same rfl (indexAddr_ok Try.underlying22 rfl rfl rfl h11 (map_at h12)) rfl ?_
          refine PO.runK 4 [0, 1, 2, 3, 4, 5, 6, 7, 8] [0, 1] (es := [(3, .ptr 1 0), (5, .ptr 2 0), (6, .val (.slice none 0 0)), (7, .val (.slice none 0 0)), (8, .ptr 3 0), (10, .val (.int .i64 r1.2.1)), (12, .ptr 4 0), (13, .ptr 5 0), (14, .ptr 6 0), (15, .ptr 7 0), (16, .fn 22 [] [.ptr 1 0, .ptr 4 0, .ptr 5 0, .ptr 7 0]), (17, .val (.int .i64 v26)), (18, .ptr 8 0), (33, .list 13 (List.map cGItem r1.1) none), (34, .val (.int .i64 (r1.1.length : Int))), (35, .val (.int .i64 v26))]) (fr' := [⟨0, [.val (.int .i64 v27), .val (.int .i64 v28), .val (.int .i64 v29), .val (.int .i64 v30), .val (.int .i64 v31), .val (.int .i64 v32), .val (.int .i64 v33)]⟩, ⟨0, [.ptr 0 0]⟩, ⟨0, (cGLine a2)⟩, ⟨0, [.val (.int .i64 0), .val (.int .i64 0)]⟩, ⟨0, [.list 1 (List.map cI_i64 v34) (some 0)]⟩, ⟨0, [.list 1 (List.map cI_i64 v35) (some 1)]⟩, ⟨0, [.val (.int .i64 v36), .val (.int .i64 v37), .val (.bool v38), .val (.int .i64 v39)]⟩, ⟨0, [.val (.int .i64 v40)]⟩, ⟨0, (cGItem y56)⟩]) (tk' := [v34.length, v35.length]) (by kernel_rfl) ?_
          refine PO.nil ?_
          refine PC.assoc ?_
          refine PC.region ?_
          refine PO.run 8 rfl ?_
          refine bindK e7 (fun r13 e14 e7 => ?_)
          refine PO.callv rfl rfl rfl rfl rfl (ks := [0, 1, 4, 5, 7]) (ts := [0, 1]) (fr1 := [⟨0, [.val (.int .i64 v27), .val (.int .i64 v28), .val (.int .i64 v29), .val (.int .i64 v30), .val (.int .i64 v31), .val (.int .i64 v32), .val (.int .i64 v33)]⟩, ⟨0, [.ptr 0 0]⟩, ⟨0, [.list 1 (List.map cI_i64 v34) (some 0)]⟩, ⟨0, [.list 1 (List.map cI_i64 v35) (some 1)]⟩, ⟨0, [.val (.int .i64 v40)]⟩]) rfl rfl rfl ⟨⟨_, rfl, rfl, rfl⟩, ⟨⟨_, rfl, rfl, rfl⟩, ⟨⟨_, rfl, rfl, rfl⟩, ⟨⟨_, rfl, rfl, rfl⟩, ⟨⟨_, rfl, rfl, rfl⟩, trivial⟩⟩⟩⟩⟩ (L22_s k (w (a2.first + v26)) (y56.kind == 1) (GMeter.mk v27 v28 v29 v30 v31 v32 v33) v34 v35 v40 _ e14) ?_
          rintro _ _ _ ⟨rfl, rfl, rfl⟩
          refine ⟨_, _, rfl, rfl, ?_⟩
          refine PO.run 1 rfl ?_
          refine PO.nil ?_
          refine PC.cond rfl (fun h15 => ?_) (fun h15 => ?_)
          · have e7 := bif_t h15 e7
            refine PC.assoc ?_
            refine PC.region ?_
            refine PO.run 1 rfl ?_
            refine bindK e7 (fun r16 e17 e7 => ?_)
            refine PO.call rfl rfl rfl rfl (ks := [0]) (ts := []) (fr1 := [⟨0, (cGMeter r13.2.1)⟩]) rfl rfl rfl ⟨⟨_, rfl, rfl, rfl⟩, trivial⟩ (L25 k r13.2.1 _ e17) ?_
            rintro _ _ _ ⟨rfl, rfl, rfl⟩
            refine ⟨_, _, rfl, rfl, ?_⟩
            refine PO.runK 4 [0, 1, 2, 3, 4, 5, 6, 7] [0, 1] (es := [(3, .ptr 1 0), (5, .ptr 2 0), (6, .val (.slice none 0 0)), (7, .val (.slice none 0 0)), (8, .ptr 3 0), (10, .val (.int .i64 r1.2.1)), (12, .ptr 4 0), (13, .ptr 5 0), (14, .ptr 6 0), (15, .ptr 7 0), (16, .fn 22 [] [.ptr 1 0, .ptr 4 0, .ptr 5 0, .ptr 7 0]), (33, .list 13 (List.map cGItem r1.1) none), (34, .val (.int .i64 (r1.1.length : Int))), (35, .val (.int .i64 v26))]) (fr' := [⟨0, (cGMeter r16.2)⟩, ⟨0, [.ptr 0 0]⟩, ⟨0, (cGLine a2)⟩, ⟨0, [.val (.int .i64 r16.1), .val (.int .i64 0)]⟩, ⟨0, [.list 1 (List.map cI_i64 r13.2.2.1) (some 0)]⟩, ⟨0, [.list 1 (List.map cI_i64 r13.2.2.2.1) (some 1)]⟩, ⟨0, [.val (.int .i64 v36), .val (.int .i64 v37), .val (.bool v38), .val (.int .i64 v39)]⟩, ⟨0, [.val (.int .i64 r13.2.2.2.2)]⟩]) (tk' := [r13.2.2.1.length, r13.2.2.2.1.length]) (by kernel_rfl) ?_
            refine PO.nil ?_
            have hq := Option.some.inj e7
            subst hq
            have hq := Option.some.inj hF
            subst hq
            exact PC.ret (blockKP.back (loopKP.ret (blockJK.back (retSK [0] [] (by kernel_rfl) (Less.tupL (LessL.cons (.nil 1) (LessL.cons (.nil 1) (LessL.refl _)))) ⟨rfl, rfl, rfl⟩))))
          · have e7 := bif_f h15 e7
            refine PC.noop ?_
            refine PC.run (n := 3) rfl ?_
            refine PC.lone ?_
            refine bindK e7 (fun x18 e19 e7 => ?_)
            refine PC.blockJ (fun s => ∃ (v57 : Int) (v58 : Int) (v59 : Bool) (v60 : Int) (v61 : Int), Weak s (PS.of 83 [(3, .ptr 1 0), (5, .ptr 2 0), (6, .val (.slice none 0 0)), (7, .val (.slice none 0 0)), (8, .ptr 3 0), (10, .val (.int .i64 r1.2.1)), (12, .ptr 4 0), (13, .ptr 5 0), (14, .ptr 6 0), (15, .ptr 7 0), (16, .fn 22 [] [.ptr 1 0, .ptr 4 0, .ptr 5 0, .ptr 7 0]), (33, .list 13 (List.map cGItem r1.1) none), (34, .val (.int .i64 (r1.1.length : Int))), (35, .val (.int .i64 v26))] [⟨0, (cGMeter r13.2.1)⟩, ⟨0, [.ptr 0 0]⟩, ⟨0, (cGLine a2)⟩, ⟨0, [.val (.int .i64 0), .val (.int .i64 0)]⟩, ⟨0, [.list 1 (List.map cI_i64 r13.2.2.1) (some 0)]⟩, ⟨0, [.list 1 (List.map cI_i64 r13.2.2.2.1) (some 1)]⟩, ⟨0, [.val (.int .i64 v57), .val (.int .i64 v58), .val (.bool v59), .val (.int .i64 v60)]⟩, ⟨0, [.val (.int .i64 v61)]⟩] [(r13.2.2.1).length, (r13.2.2.2.1).length] 1 0) ∧ (v57, v58, v59, v60, v61) = x18) ?_ ?_
            · refine PC.assoc ?_
              refine PC.run (n := 3) rfl ?_
              refine bindK e19 (fun x20 e21 e19 => ?_)
              refine PC.join (fun s => ∃ (v62 : Bool), Weak s (PS.of 83 [(3, .ptr 1 0), (5, .ptr 2 0), (6, .val (.slice none 0 0)), (7, .val (.slice none 0 0)), (8, .ptr 3 0), (10, .val (.int .i64 r1.2.1)), (12, .ptr 4 0), (13, .ptr 5 0), (14, .ptr 6 0), (15, .ptr 7 0), (16, .fn 22 [] [.ptr 1 0, .ptr 4 0, .ptr 5 0, .ptr 7 0]), (18, .ptr 8 0), (33, .list 13 (List.map cGItem r1.1) none), (34, .val (.int .i64 (r1.1.length : Int))), (35, .val (.int .i64 v26)), (54, .val (.int .i64 y56.kind)), (55, .val (.bool v62))] [⟨0, (cGMeter r13.2.1)⟩, ⟨0, [.ptr 0 0]⟩, ⟨0, (cGLine a2)⟩, ⟨0, [.val (.int .i64 0), .val (.int .i64 0)]⟩, ⟨0, [.list 1 (List.map cI_i64 r13.2.2.1) (some 0)]⟩, ⟨0, [.list 1 (List.map cI_i64 r13.2.2.2.1) (some 1)]⟩, ⟨0, [.val (.int .i64 v36), .val (.int .i64 v37), .val (.bool v38), .val (.int .i64 v39)]⟩, ⟨0, [.val (.int .i64 r13.2.2.2.2)]⟩, ⟨0, (cGItem y56)⟩] [(r13.2.2.1).length, (r13.2.2.2.1).length] 1 0) ∧ v62 = x20) ?_ ?_
              · refine PC.cond rfl (fun h22 => ?_) (fun h22 => ?_)
                · have e21 := bif_t h22 e21
                  refine PC.noop ?_
                  exact PC.skip (joinKP.end ⟨y56.kind == 1, Weak.one [0, 1, 2, 3, 4, 5, 6, 7, 8] [0, 1] (by kernel_rfl), Option.some.inj e21⟩)
                · have e21 := bif_f h22 e21
                  refine PC.run (n := 3) rfl ?_
                  exact PC.skip (joinKP.end ⟨y56.kind == 2, Weak.one [0, 1, 2, 3, 4, 5, 6, 7, 8] [0, 1] (by kernel_rfl), Option.some.inj e21⟩)
              · rintro _ ⟨v62, w23, rfl⟩
                refine PC.weak w23 ?_
                refine PC.lone ?_
                refine PC.cond rfl (fun h24 => ?_) (fun h24 => ?_)
                · have e19 := bif_t h24 e19
                  refine PC.region ?_
                  refine PO.runK 5 [0, 1, 2, 3, 4, 5, 6, 7] [0, 1] (es := [(3, .ptr 1 0), (5, .ptr 2 0), (6, .val (.slice none 0 0)), (7, .val (.slice none 0 0)), (8, .ptr 3 0), (10, .val (.int .i64 r1.2.1)), (12, .ptr 4 0), (13, .ptr 5 0), (14, .ptr 6 0), (15, .ptr 7 0), (16, .fn 22 [] [.ptr 1 0, .ptr 4 0, .ptr 5 0, .ptr 7 0]), (33, .list 13 (List.map cGItem r1.1) none), (34, .val (.int .i64 (r1.1.length : Int))), (35, .val (.int .i64 v26))]) (fr' := [⟨0, (cGMeter r13.2.1)⟩, ⟨0, [.ptr 0 0]⟩, ⟨0, (cGLine a2)⟩, ⟨0, [.val (.int .i64 0), .val (.int .i64 0)]⟩, ⟨0, [.list 1 (List.map cI_i64 r13.2.2.1) (some 0)]⟩, ⟨0, [.list 1 (List.map cI_i64 r13.2.2.2.1) (some 1)]⟩, ⟨0, [.val (.int .i64 v36), .val (.int .i64 v37), .val (.bool v38), .val (.int .i64 v39)]⟩, ⟨0, [.val (.int .i64 (w (r13.2.2.2.2 + y56.width)))]⟩]) (tk' := [(r13.2.2.1).length, (r13.2.2.2.1).length]) (by kernel_rfl) ?_
                  refine PO.nil ?_
                  exact PC.skip (blockJK.end ⟨v36, v37, v38, v39, w (r13.2.2.2.2 + y56.width), Weak.one [0, 1, 2, 3, 4, 5, 6, 7] [0, 1] (by kernel_rfl), Option.some.inj e19⟩)
                · have e19 := bif_f h24 e19
                  refine PC.assoc ?_
                  refine PC.run (n := 3) rfl ?_
                  refine PC.cond rfl (fun h25 => ?_) (fun h25 => ?_)
                  · have e19 := bif_t h25 e19
                    refine PC.draw [1, 2, 0, 3, 4] (by kernel_rfl) ?_
                    refine PD.runK 1 (js' := [2, 0, 3, 4]) (σ' := ⟨2, 0, 0, []⟩) (es := [(3, .ptr 1 0), (5, .ptr 2 0), (6, .val (.slice none 0 0)), (7, .val (.slice none 0 0)), (8, .ptr 3 0), (10, .val (.int .i64 r1.2.1)), (12, .ptr 4 0), (13, .ptr 5 0), (14, .ptr 6 0), (15, .ptr 7 0), (16, .fn 22 [] [.ptr 1 0, .ptr 4 0, .ptr 5 0, .ptr 7 0]), (33, .list 13 (List.map cGItem r1.1) none), (34, .val (.int .i64 (r1.1.length : Int))), (35, .val (.int .i64 v26)), (65, .agg (cGItem y56))]) (fr' := [⟨0, (cGMeter r13.2.1)⟩, ⟨0, [.ptr 0 0]⟩, ⟨0, (cGLine a2)⟩, ⟨0, [.val (.int .i64 0), .val (.int .i64 0)]⟩, ⟨0, [.list 1 (List.map cI_i64 r13.2.2.1) (some 0)]⟩, ⟨0, [.list 1 (List.map cI_i64 r13.2.2.2.1) (some 1)]⟩, ⟨0, [.val (.int .i64 v36), .val (.int .i64 v37), .val (.bool v38), .val (.int .i64 v39)]⟩, ⟨0, [.val (.int .i64 r13.2.2.2.2)]⟩, ⟨0, (cGItem y56)⟩]) (tk' := [(r13.2.2.1).length, (r13.2.2.2.1).length]) (by kernel_rfl) ?_
                    refine bindK e19 (fun r26 e27 e19 => ?_)
                    refine PD.call rfl rfl (by kernel_rfl) rfl rfl rfl (ks := [6]) (ts := []) (fr1 := [⟨0, [.val (.int .i64 v36), .val (.int .i64 v37), .val (.bool v38), .val (.int .i64 v39)]⟩]) rfl rfl rfl ⟨⟨_, rfl, rfl, rfl⟩, trivial⟩ (L26 k (Gsetting.mk v36 v37 v38 v39) y56 _ e27) ?_
                    rintro _ _ _ ⟨rfl, rfl, rfl⟩
                    refine ⟨_, _, rfl, rfl, ?_⟩
                    refine PD.runK 3 (js' := []) (σ' := ⟨31, 31, 15, [(4, [7], false), (2, [7, 6], true)]⟩) (es := [(3, .ptr 1 0), (5, .ptr 2 0), (6, .val (.slice none 0 0)), (7, .val (.slice none 0 0)), (8, .ptr 3 0), (10, .val (.int .i64 r1.2.1)), (12, .ptr 4 0), (13, .ptr 5 0), (14, .ptr 6 0), (15, .ptr 7 0), (16, .fn 22 [] [.ptr 1 0, .ptr 4 0, .ptr 5 0, .ptr 7 0]), (33, .list 13 (List.map cGItem r1.1) none), (34, .val (.int .i64 (r1.1.length : Int))), (35, .val (.int .i64 v26))]) (fr' := [⟨0, (cGMeter r13.2.1)⟩, ⟨0, [.ptr 0 0]⟩, ⟨0, (cGLine a2)⟩, ⟨0, [.val (.int .i64 0), .val (.int .i64 0)]⟩, ⟨0, [.list 1 (List.map cI_i64 r13.2.2.1) (some 0)]⟩, ⟨0, [.list 1 (List.map cI_i64 r13.2.2.2.1) (some 1)]⟩, ⟨0, (cGsetting r26.2)⟩, ⟨0, [.val (.int .i64 (w (r13.2.2.2.2 + r26.1)))]⟩, ⟨0, (cGItem y56)⟩]) (tk' := [(r13.2.2.1).length, (r13.2.2.2.1).length]) (by kernel_rfl) ?_
                    refine PD.done [0, 1, 2, 3, 4, 5, 6, 7] [0, 1] (es := [(3, .ptr 1 0), (5, .ptr 2 0), (6, .val (.slice none 0 0)), (7, .val (.slice none 0 0)), (8, .ptr 3 0), (10, .val (.int .i64 r1.2.1)), (12, .ptr 4 0), (13, .ptr 5 0), (14, .ptr 6 0), (15, .ptr 7 0), (16, .fn 22 [] [.ptr 1 0, .ptr 4 0, .ptr 5 0, .ptr 7 0]), (33, .list 13 (List.map cGItem r1.1) none), (34, .val (.int .i64 (r1.1.length : Int))), (35, .val (.int .i64 v26))]) (fr' := [⟨0, (cGMeter r13.2.1)⟩, ⟨0, [.ptr 0 0]⟩, ⟨0, (cGLine a2)⟩, ⟨0, [.val (.int .i64 0), .val (.int .i64 0)]⟩, ⟨0, [.list 1 (List.map cI_i64 r13.2.2.1) (some 0)]⟩, ⟨0, [.list 1 (List.map cI_i64 r13.2.2.2.1) (some 1)]⟩, ⟨0, (cGsetting r26.2)⟩, ⟨0, [.val (.int .i64 (w (r13.2.2.2.2 + r26.1)))]⟩]) (tk' := [(r13.2.2.1).length, (r13.2.2.2.1).length]) (by kernel_rfl) (by kernel_rfl) ?_
                    exact PC.skip (blockJK.end ⟨r26.2.much, r26.2.all, r26.2.stretch, r26.2.before, w (r13.2.2.2.2 + r26.1), Weak.one [0, 1, 2, 3, 4, 5, 6, 7] [0, 1] (by kernel_rfl), Option.some.inj e19⟩)
                  · have e19 := bif_f h25 e19
                    refine PC.noop ?_
                    exact PC.skip (blockJK.end ⟨v36, v37, v38, v39, r13.2.2.2.2, Weak.one [0, 1, 2, 3, 4, 5, 6, 7] [0, 1] (by kernel_rfl), Option.some.inj e19⟩)
            · rintro _ ⟨v57, v58, v59, v60, v61, w28, rfl⟩
              refine PC.weak w28 ?_
              refine PC.skip (blockKP.end ?_)
              refine PC.lone ?_
              refine PC.run (n := 3) rfl ?_
              exact PC.skip (loopKP.mk (Nat.lt_succ_self _) ⟨w (v26 + 1), r13.2.1.steps_now, r13.2.1.steps_peak, r13.2.1.steps_budget, r13.2.1.cells_now, r13.2.1.cells_peak, r13.2.1.cells_budget, r13.2.1.refused, r13.2.2.1, r13.2.2.2.1, v57, v58, v59, v60, v61, Weak.one [0, 1, 2, 3, 4, 5, 6, 7] [0, 1] (by kernel_rfl), e7⟩)
        · have e7 := bif_f h10 e7
          exact PC.exit (loopKP.exit (blockJK.here ⟨v27, v28, v29, v30, v31, v32, v33, v34, v35, v40, Weak.one [0, 1, 3, 4, 5, 7] [0, 1] (by kernel_rfl), Option.some.inj e7⟩))
    · rintro _ ⟨v1, v2, v3, v4, v5, v6, v7, v8, v9, v10, w29, rfl⟩
      refine PC.weak w29 ?_
      have hF := elim_l hF
      refine PC.assoc ?_
      refine PC.region ?_
      refine PO.run 3 rfl ?_
      refine bindK hF (fun x30 e31 hF => ?_)
      refine PO.cut 5 (fun s => ∃ (v63 : Bool) (v64 : Int) (v65 : Int) (v66 : Int) (v67 : Int) (v68 : Int) (v69 : Int) (v70 : Int) (v71 : List Int) (v72 : List Int), Weak s (PS.of 83 [(3, .ptr 1 0), (6, .val (.slice none 0 0)), (7, .val (.slice none 0 0)), (8, .ptr 2 0), (12, .ptr 3 0), (13, .ptr 4 0), (76, .val (.bool v63))] [⟨0, [.val (.int .i64 v64), .val (.int .i64 v65), .val (.int .i64 v66), .val (.int .i64 v67), .val (.int .i64 v68), .val (.int .i64 v69), .val (.int .i64 v70)]⟩, ⟨0, [.ptr 0 0]⟩, ⟨0, [.val (.int .i64 0), .val (.int .i64 0)]⟩, ⟨0, [.list 1 (List.map cI_i64 v71) (some 0)]⟩, ⟨0, [.list 1 (List.map cI_i64 v72) (some 1)]⟩] [v71.length, v72.length] 1 0) ∧ (v63, v64, v65, v66, v67, v68, v69, v70, v71, v72) = x30) ?_ ?_
      · refine PO.case (t := 71) rfl rfl (fun h32 => ?_) (fun h32 => ?_)
        · have e31 := bif_t h32 e31
          refine PO.runK 2 [0, 1, 2, 3, 4, 5] [0, 1] (es := [(3, .ptr 1 0), (6, .val (.slice none 0 0)), (7, .val (.slice none 0 0)), (8, .ptr 2 0), (12, .ptr 3 0), (13, .ptr 4 0), (71, .val (.bool true)), (72, .fn 22 [] [.ptr 1 0, .ptr 3 0, .ptr 4 0, .ptr 5 0]), (73, .val (.int .i64 r1.2.1))]) (fr' := [⟨0, [.val (.int .i64 v1), .val (.int .i64 v2), .val (.int .i64 v3), .val (.int .i64 v4), .val (.int .i64 v5), .val (.int .i64 v6), .val (.int .i64 v7)]⟩, ⟨0, [.ptr 0 0]⟩, ⟨0, [.val (.int .i64 0), .val (.int .i64 0)]⟩, ⟨0, [.list 1 (List.map cI_i64 v8) (some 0)]⟩, ⟨0, [.list 1 (List.map cI_i64 v9) (some 1)]⟩, ⟨0, [.val (.int .i64 v10)]⟩]) (tk' := [v8.length, v9.length]) (by kernel_rfl) ?_
          refine bindK e31 (fun r33 e34 e31 => ?_)
          refine PO.callv rfl rfl rfl rfl rfl (ks := [0, 1, 3, 4, 5]) (ts := [0, 1]) (fr1 := [⟨0, [.val (.int .i64 v1), .val (.int .i64 v2), .val (.int .i64 v3), .val (.int .i64 v4), .val (.int .i64 v5), .val (.int .i64 v6), .val (.int .i64 v7)]⟩, ⟨0, [.ptr 0 0]⟩, ⟨0, [.list 1 (List.map cI_i64 v8) (some 0)]⟩, ⟨0, [.list 1 (List.map cI_i64 v9) (some 1)]⟩, ⟨0, [.val (.int .i64 v10)]⟩]) rfl rfl rfl ⟨⟨_, rfl, rfl, rfl⟩, ⟨⟨_, rfl, rfl, rfl⟩, ⟨⟨_, rfl, rfl, rfl⟩, ⟨⟨_, rfl, rfl, rfl⟩, ⟨⟨_, rfl, rfl, rfl⟩, trivial⟩⟩⟩⟩⟩ (L22_s k r1.2.1 true (GMeter.mk v1 v2 v3 v4 v5 v6 v7) v8 v9 v10 _ e34) ?_
          rintro _ _ _ ⟨rfl, rfl, rfl⟩
          refine ⟨_, _, rfl, rfl, ?_⟩
          refine PO.run 1 rfl ?_
          refine PO.same rfl (pickT_ok rfl rfl rfl) rfl ?_
          refine PO.nil ?_
          exact ⟨!r33.1, r33.2.1.steps_now, r33.2.1.steps_peak, r33.2.1.steps_budget, r33.2.1.cells_now, r33.2.1.cells_peak, r33.2.1.cells_budget, r33.2.1.refused, r33.2.2.1, r33.2.2.2.1, Weak.one [0, 1, 2, 3, 4] [0, 1] (by kernel_rfl), Option.some.inj e31⟩
        · have e31 := bif_f h32 e31
          refine PO.run 4 rfl ?_
          refine PO.same rfl (pickF_ok rfl rfl rfl) rfl ?_
          refine PO.nil ?_
          exact ⟨false, v1, v2, v3, v4, v5, v6, v7, v8, v9, Weak.one [0, 1, 2, 3, 4] [0, 1] (by kernel_rfl), Option.some.inj e31⟩
      · rintro _ ⟨v63, v64, v65, v66, v67, v68, v69, v70, v71, v72, w35, rfl⟩
        refine PO.weak w35 ?_
        refine PO.nil ?_
        refine PC.cond rfl (fun h36 => ?_) (fun h36 => ?_)
        · have hF := bif_t h36 hF
          refine PC.assoc ?_
          refine PC.region ?_
          refine PO.run 1 rfl ?_
          refine bindK hF (fun r37 e38 hF => ?_)
          refine PO.call rfl rfl rfl rfl (ks := [0]) (ts := []) (fr1 := [⟨0, [.val (.int .i64 v64), .val (.int .i64 v65), .val (.int .i64 v66), .val (.int .i64 v67), .val (.int .i64 v68), .val (.int .i64 v69), .val (.int .i64 v70)]⟩]) rfl rfl rfl ⟨⟨_, rfl, rfl, rfl⟩, trivial⟩ (L25 k (GMeter.mk v64 v65 v66 v67 v68 v69 v70) _ e38) ?_
          rintro _ _ _ ⟨rfl, rfl, rfl⟩
          refine ⟨_, _, rfl, rfl, ?_⟩
          refine PO.runK 4 [0, 2] [] (es := [(6, .val (.slice none 0 0)), (7, .val (.slice none 0 0)), (8, .ptr 1 0)]) (fr' := [⟨0, (cGMeter r37.2)⟩, ⟨0, [.val (.int .i64 r37.1), .val (.int .i64 0)]⟩]) (tk' := []) (by kernel_rfl) ?_
          refine PO.nil ?_
          have hq := Option.some.inj hF
          subst hq
          exact PC.ret (retSK [0] [] (by kernel_rfl) (Less.tupL (LessL.cons (.nil 1) (LessL.cons (.nil 1) (LessL.refl _)))) ⟨rfl, rfl, rfl⟩)
        · have hF := bif_f h36 hF
          refine PC.noop ?_
          refine PC.drawn (order := [0, 1, 2, 3, 4, 5]) (by kernel_rfl) ?_
          refine PO.runK 6 [0, 2] [0, 1] (es := [(6, .list 1 (List.map cI_i64 v71) (some 0)), (7, .list 1 (List.map cI_i64 v72) (some 1)), (8, .ptr 1 0)]) (fr' := [⟨0, [.val (.int .i64 v64), .val (.int .i64 v65), .val (.int .i64 v66), .val (.int .i64 v67), .val (.int .i64 v68), .val (.int .i64 v69), .val (.int .i64 v70)]⟩, ⟨0, [.val (.int .i64 0), .val (.int .i64 0)]⟩]) (tk' := [v71.length, v72.length]) (by kernel_rfl) ?_
          refine PO.nil ?_
          have hq := Option.some.inj hF
          subst hq
          exact PC.ret' (retSK [0] [] (by kernel_rfl) (.refl _) ⟨rfl, rfl, rfl⟩)

/-! 8 (*platen/meter.Meter).Steps -/
def F8 (k : Nat) (a0 : GMeter) : Option (Int × GMeter) :=
some (a0.steps_now, a0)
theorem L8 (k : Nat) (a0 : GMeter) (r : Int × GMeter) (hF : F8 k a0 = some r) : PF Try.prog orc 8 [.ptr 0 0] [⟨0, (cGMeter a0)⟩] [] (fun p fr tk => p = .val (.int .i64 r.1) ∧ fr = [⟨0, (cGMeter r.2)⟩] ∧ tk = []) := by
  unfold F8 at hF
  refine PF.enterS Try.func8 rfl rfl rfl (by kernel_rfl) rfl ?_
  refine PC.run (n := 2) rfl ?_
  refine PC.run (n := 7) rfl ?_
  have hq := Option.some.inj hF
  subst hq
  exact PC.ret' (retSK [0] [] (by kernel_rfl) (.refl _) ⟨rfl, rfl, rfl⟩)

/-! 9 (*platen/meter.Meter).Peak -/
def F9 (k : Nat) (a0 : GMeter) : Option (Int × GMeter) :=
some (a0.cells_peak, a0)
theorem L9 (k : Nat) (a0 : GMeter) (r : Int × GMeter) (hF : F9 k a0 = some r) : PF Try.prog orc 9 [.ptr 0 0] [⟨0, (cGMeter a0)⟩] [] (fun p fr tk => p = .val (.int .i64 r.1) ∧ fr = [⟨0, (cGMeter r.2)⟩] ∧ tk = []) := by
  unfold F9 at hF
  refine PF.enterS Try.func9 rfl rfl rfl (by kernel_rfl) rfl ?_
  refine PC.run (n := 2) rfl ?_
  refine PC.run (n := 7) rfl ?_
  have hq := Option.some.inj hF
  subst hq
  exact PC.ret' (retSK [0] [] (by kernel_rfl) (.refl _) ⟨rfl, rfl, rfl⟩)

/-! 3 platen/platenlaw16.GlueInside -/
def F3_l1 (k : Nat) (a0 : List GItem) (r2 : GLine × Int) (r7 : (List Int) × (List Int) × GFault × GMeter) : Nat → Int → Int → Option ((Int) ⊕ (Bool))
  | 0, _, _ => none
  | j16 + 1, v5, v6 =>
    bif decide (v6 < r2.1.last) then (Option.bind (α := (Int) ⊕ ((Int) ⊕ (Bool))) (bindI a0 v6 fun y10 =>
    bif y10.kind == 1 then (Option.bind (α := Bool) (bif decide (v5 ≥ (r7.1.length : Int)) then (some true) else (bindI r7.1 v5 fun y12 =>
    some (y12 != v6))) fun (v11 : Bool) =>
    bif v11 then (some (.inr (.inr false))) else (some (.inl (w (v5 + 1))))) else (some (.inl v5))) (Sum.elim (fun (v9 : Int) =>
    F3_l1 k a0 r2 r7 j16 v9 (w (v6 + 1))) some)) else (some (.inl v5))
def F3_l2 (k : Nat) (a0 : List GItem) (a1 : Int) (r2 : GLine × Int) (r7 : (List Int) × (List Int) × GFault × GMeter) : Nat → Int → Int → Option ((Int) ⊕ (Bool))
  | 0, _, _ => none
  | j59 + 1, v22, v23 =>
    bif decide (v23 < (r7.1.length : Int)) then (bindI r7.1 v23 fun y26 =>
    Option.bind (α := Bool) (bif v23 == 0 then (bindI r7.2.1 v23 fun y28 =>
    Option.bind (α := Bool) (bif y28 != 0 then (some true) else (Option.bind (α := Bool) (bif decide (v23 > 0) then (bindI r7.2.1 v23 fun y31 =>
    bindI r7.2.1 (w (v23 - 1)) fun y32 =>
    some (decide (y31 < y32))) else (some false)) fun (v30 : Bool) =>
    some v30)) fun (v29 : Bool) =>
    some v29) else (Option.bind (α := Bool) (bif decide (v23 > 0) then (bindI r7.2.1 v23 fun y34 =>
    bindI r7.2.1 (w (v23 - 1)) fun y35 =>
    some (decide (y34 < y35))) else (some false)) fun (v33 : Bool) =>
    some v33)) fun (v27 : Bool) =>
    bif v27 then (some (.inr false)) else (bindI r7.2.1 v23 fun y36 =>
    bindI a0 y26 fun y37 =>
    Option.bind (α := Bool) (bif decide ((w (y36 + y37.width)) < v22) then (some true) else (Option.bind (α := Bool) (bif !r2.1.over_ then (some (decide ((w (y36 + y37.width)) > a1))) else (some false)) fun (v39 : Bool) =>
    some v39)) fun (v38 : Bool) =>
    bif v38 then (some (.inr false)) else (F3_l2 k a0 a1 r2 r7 j59 (w (y36 + y37.width)) (w (v23 + 1))))) else (some (.inl v22))
def F3 (k : Nat) (a0 : List GItem) (a1 : Int) (a2 : Int) (a3 : Int) : Option Bool :=
(F5 k a0 a1 a2 a3).bind fun r2 =>
bif r2.2 != 0 then (some true) else ((F6 k).bind fun r5 =>
(F7 k r5 a0 r2.1).bind fun r7 =>
Option.bind (α := Bool) (bif !(r7.2.2.1.kind == 0 && (r7.2.2.1.at_ == 0 && true)) then (some true) else (some ((r7.1.length : Int) != (r7.2.1.length : Int)))) fun (v1 : Bool) =>
bif v1 then (some false) else (Option.bind (α := (Int) ⊕ (Bool)) (F3_l1 k a0 r2 r7 k 0 r2.1.first) (Sum.elim (fun (v2 : Int) =>
Option.bind (α := (Int × Int) ⊕ (Bool)) (bif r2.1.hyphen then (Option.bind (α := Bool) (bif decide (v2 ≥ (r7.1.length : Int)) then (some true) else (bindI r7.1 v2 fun y16 =>
some (y16 != r2.1.break_))) fun (v15 : Bool) =>
bif v15 then (some (.inr false)) else (some (.inl (w (v2 + 1), w ((w (r2.1.last - r2.1.first)) + 1))))) else (some (.inl (v2, w (r2.1.last - r2.1.first))))) (Sum.elim (fun (v13, v14) =>
Option.bind (α := Bool) (bif (r7.1.length : Int) != v13 then (some true) else ((F8 k r7.2.2.2).bind fun r47 =>
Option.bind (α := Bool) (bif r47.1 != v14 then (some true) else ((F9 k r47.2).bind fun r52 =>
some (r52.1 != v13))) fun (v18 : Bool) =>
some v18)) fun (v17 : Bool) =>
bif v17 then (some false) else (Option.bind (α := (Int) ⊕ (Bool)) (F3_l2 k a0 a1 r2 r7 k 0 0) (Sum.elim (fun (v19 : Int) =>
Option.bind (α := Bool) (bif r2.1.hyphen then (some true) else (Option.bind (α := Bool) (bif decide (r2.1.last > r2.1.first) then (bindI a0 (w (r2.1.last - 1)) fun y42 =>
some (y42.kind == 1)) else (some false)) fun (v41 : Bool) =>
some v41)) fun (v40 : Bool) =>
bif r2.1.over_ then (Option.bind (α := Bool) (bif !v40 then (some true) else (some (decide (v19 > a1)))) fun (v43 : Bool) =>
some v43) else (Option.bind (α := Bool) (bif v40 then (Option.bind (α := Bool) (bif !r2.1.end_ then (Option.bind (α := Bool) (bif decide (r2.1.stretch > 0) then (some true) else (some (decide (r2.1.short ≤ 0)))) fun (v46 : Bool) =>
some v46) else (some false)) fun (v45 : Bool) =>
some v45) else (some false)) fun (v44 : Bool) =>
bif v44 then (some (v19 == a1)) else (some true))) some))) some)) some)))
theorem L3 (k : Nat) (a0 : List GItem) (a1 : Int) (a2 : Int) (a3 : Int) (r : Bool) (hF : F3 k a0 a1 a2 a3 = some r) : PF Try.prog orc 3 [.list 13 (List.map cGItem a0) none, .val (.int .i64 a1), .val (.int .i64 a2), .val (.int .i64 a3)] [] [] (fun p fr tk => p = .val (.bool r) ∧ fr = [] ∧ tk = []) := by
  unfold F3 at hF
  refine PF.enterS Try.func3 rfl rfl rfl (by kernel_rfl) rfl ?_
  refine PC.run (n := 2) rfl ?_
  refine PC.assoc ?_
  refine PC.region ?_
  refine PO.call rfl rfl rfl rfl (ks := []) (ts := []) (fr1 := []) rfl rfl rfl trivial K4 ?_
  rintro _ _ _ ⟨rfl, rfl, rfl⟩
  refine ⟨_, _, rfl, rfl, ?_⟩
  refine PO.run 1 rfl ?_
  refine PO.nil ?_
  refine PC.cond rfl (fun h1 => Bool.noConfusion h1) (fun _ => ?_)
  refine PC.noop ?_
  refine PC.region ?_
  refine PO.run 4 rfl ?_
  refine bindK hF (fun r2 e3 hF => ?_)
  refine PO.call rfl rfl rfl rfl (ks := []) (ts := []) (fr1 := []) rfl rfl rfl trivial (L5 k a0 a1 a2 a3 _ e3) ?_
  rintro _ _ _ ⟨rfl, rfl, rfl⟩
  refine ⟨_, _, rfl, rfl, ?_⟩
  refine PO.runK 6 [0] [] (es := [(0, .list 13 (List.map cGItem a0) none), (1, .val (.int .i64 a1)), (8, .val (.bool false)), (9, .ptr 0 0), (10, .val (.int .i64 r2.2))]) (fr' := [⟨0, (cGLine r2.1)⟩]) (tk' := []) (by kernel_rfl) ?_
  refine PO.nil ?_
  refine PC.assoc ?_
  refine PC.run (n := 3) rfl ?_
  refine PC.cond rfl (fun h4 => ?_) (fun h4 => ?_)
  · have hF := bif_t h4 hF
    refine PC.assoc ?_
    refine PC.run (n := 2) rfl ?_
    have hq := Option.some.inj hF
    subst hq
    exact PC.ret (retSK [] [] (by kernel_rfl) (.refl _) ⟨rfl, rfl, rfl⟩)
  · have hF := bif_f h4 hF
    refine PC.noop ?_
    refine PC.region ?_
    refine bindK hF (fun r5 e6 hF => ?_)
    refine PO.call rfl rfl rfl rfl (ks := []) (ts := []) (fr1 := []) rfl rfl rfl trivial (L6 k  _ e6) ?_
    rintro _ _ _ ⟨rfl, rfl, rfl⟩
    refine ⟨_, _, rfl, rfl, ?_⟩
    refine PO.run 1 rfl ?_
    refine PO.nil ?_
    refine PC.region ?_
    refine PO.run 3 rfl ?_
    refine bindK hF (fun r7 e8 hF => ?_)
    refine PO.call rfl rfl rfl rfl (ks := [1]) (ts := []) (fr1 := [⟨0, (cGMeter r5)⟩]) rfl rfl rfl ⟨⟨_, rfl, rfl, rfl⟩, trivial⟩ (L7 k r5 a0 r2.1 _ e8) ?_
    rintro _ _ _ ⟨rfl, rfl, rfl⟩
    refine ⟨_, _, rfl, rfl, ?_⟩
    refine PO.runK 8 [0, 1, 2] [] (es := [(0, .list 13 (List.map cGItem a0) none), (1, .val (.int .i64 a1)), (8, .val (.bool false)), (9, .ptr 0 0), (11, .ptr 1 0), (12, .list 1 (List.map cI_i64 r7.1) none), (13, .list 1 (List.map cI_i64 r7.2.1) none), (14, .ptr 2 0)]) (fr' := [⟨0, (cGLine r2.1)⟩, ⟨0, (cGMeter r7.2.2.2)⟩, ⟨0, (cGFault r7.2.2.1)⟩]) (tk' := []) (by kernel_rfl) ?_
    refine PO.nil ?_
    refine PC.assoc ?_
    refine PC.region ?_
    refine PO.runK 2 [0, 1] [] (es := [(0, .list 13 (List.map cGItem a0) none), (1, .val (.int .i64 a1)), (8, .val (.bool false)), (9, .ptr 0 0), (11, .ptr 1 0), (12, .list 1 (List.map cI_i64 r7.1) none), (13, .list 1 (List.map cI_i64 r7.2.1) none), (44, .agg (cGFault r7.2.2.1)), (45, .agg [.val (.int .i64 0), .val (.int .i64 0)])]) (fr' := [⟨0, (cGLine r2.1)⟩, ⟨0, (cGMeter r7.2.2.2)⟩]) (tk' := []) (by kernel_rfl) ?_
    refine PO.same rfl (aggEq_ok (v := .bool (!(r7.2.2.1.kind == 0 && (r7.2.2.1.at_ == 0 && true)))) rfl rfl rfl rfl rfl rfl rfl (by kernel_rfl)) rfl ?_
    refine PO.run 1 rfl ?_
    refine bindK hF (fun x9 e10 hF => ?_)
    refine PO.cut 6 (fun s => ∃ (v1 : Bool), Weak s (PS.of 226 [(0, .list 13 (List.map cGItem a0) none), (1, .val (.int .i64 a1)), (8, .val (.bool false)), (9, .ptr 0 0), (11, .ptr 1 0), (12, .list 1 (List.map cI_i64 r7.1) none), (13, .list 1 (List.map cI_i64 r7.2.1) none), (53, .val (.bool v1))] [⟨0, (cGLine r2.1)⟩, ⟨0, (cGMeter r7.2.2.2)⟩] [] 0 0) ∧ v1 = x9) ?_ ?_
    · refine PO.case (t := 47) rfl rfl (fun h11 => ?_) (fun h11 => ?_)
      · have e10 := bif_t h11 e10
        refine PO.run 5 rfl ?_
        refine PO.same rfl (pickT_ok rfl rfl rfl) rfl ?_
        refine PO.nil ?_
        exact ⟨true, Weak.one [0, 1] [] (by kernel_rfl), Option.some.inj e10⟩
      · have e10 := bif_f h11 e10
        refine PO.runK 1 [0, 1] [] (es := [(0, .list 13 (List.map cGItem a0) none), (1, .val (.int .i64 a1)), (8, .val (.bool false)), (9, .ptr 0 0), (11, .ptr 1 0), (12, .list 1 (List.map cI_i64 r7.1) none), (13, .list 1 (List.map cI_i64 r7.2.1) none), (47, .val (.bool false)), (48, .list 1 (List.map cI_i64 r7.1) none)]) (fr' := [⟨0, (cGLine r2.1)⟩, ⟨0, (cGMeter r7.2.2.2)⟩]) (tk' := []) (by kernel_rfl) ?_
        refine PO.same rfl (len_ok Try.underlying31 rfl (List.length_map _)) rfl ?_
        refine PO.runK 1 [0, 1] [] (es := [(0, .list 13 (List.map cGItem a0) none), (1, .val (.int .i64 a1)), (8, .val (.bool false)), (9, .ptr 0 0), (11, .ptr 1 0), (12, .list 1 (List.map cI_i64 r7.1) none), (13, .list 1 (List.map cI_i64 r7.2.1) none), (47, .val (.bool false)), (49, .val (.int .i64 (r7.1.length : Int))), (50, .list 1 (List.map cI_i64 r7.2.1) none)]) (fr' := [⟨0, (cGLine r2.1)⟩, ⟨0, (cGMeter r7.2.2.2)⟩]) (tk' := []) (by kernel_rfl) ?_
        refine PO.same rfl (len_ok Try.underlying31 rfl (List.length_map _)) rfl ?_
        refine PO.run 1 rfl ?_
        refine PO.same rfl (pickF_ok rfl rfl rfl) rfl ?_
        refine PO.nil ?_
        exact ⟨(r7.1.length : Int) != (r7.2.1.length : Int), Weak.one [0, 1] [] (by kernel_rfl), Option.some.inj e10⟩
    · rintro _ ⟨v1, w12, rfl⟩
      refine PO.weak w12 ?_
      refine PO.nil ?_
      refine PC.cond rfl (fun h13 => ?_) (fun h13 => ?_)
      · have hF := bif_t h13 hF
        refine PC.assoc ?_
        refine PC.run (n := 2) rfl ?_
        have hq := Option.some.inj hF
        subst hq
        exact PC.ret (retSK [] [] (by kernel_rfl) (.refl _) ⟨rfl, rfl, rfl⟩)
      · have hF := bif_f h13 hF
        refine PC.noop ?_
        refine PC.run (n := 2) rfl ?_
        refine PC.assoc ?_
        refine PC.run (n := 4) rfl ?_
        refine bindK hF (fun x14 e15 hF => ?_)
        refine PC.blockJ (fun s => ∃ (v2 : Int), Weak s (PS.of 226 [(0, .list 13 (List.map cGItem a0) none), (1, .val (.int .i64 a1)), (8, .val (.bool false)), (9, .ptr 0 0), (11, .ptr 1 0), (12, .list 1 (List.map cI_i64 r7.1) none), (13, .list 1 (List.map cI_i64 r7.2.1) none), (15, .val (.int .i64 v2))] [⟨0, (cGLine r2.1)⟩, ⟨0, (cGMeter r7.2.2.2)⟩] [] 0 0) ∧ .inl v2 = x14) ?_ ?_
        · refine PC.loop (fun j16 s => ∃ (v5 : Int) (v6 : Int), Weak s (PS.of 226 [(0, .list 13 (List.map cGItem a0) none), (1, .val (.int .i64 a1)), (8, .val (.bool false)), (9, .ptr 0 0), (11, .ptr 1 0), (12, .list 1 (List.map cI_i64 r7.1) none), (13, .list 1 (List.map cI_i64 r7.2.1) none), (15, .val (.int .i64 v5)), (16, .val (.int .i64 v6))] [⟨0, (cGLine r2.1)⟩, ⟨0, (cGMeter r7.2.2.2)⟩] [] 0 0) ∧ F3_l1 k a0 r2 r7 j16 v5 v6 = some x14) (fun j16 s => ?_) k ⟨0, r2.1.first, Weak.one [0, 1] [] (by kernel_rfl), e15⟩
          rintro ⟨v5, v6, w17, e15⟩
          refine PC.weak w17 ?_
          cases j16 with
          | zero => rw [F3_l1] at e15; cases e15
          | succ j16 =>
            rw [F3_l1] at e15
            refine PC.assoc ?_
            refine PC.run (n := 5) rfl ?_
            refine PC.cond rfl (fun h18 => ?_) (fun h18 => ?_)
            · have e15 := bif_t h18 e15
              refine PC.noop ?_
              refine bindK e15 (fun x19 e20 e15 => ?_)
              refine PC.blockJ (fun s => ∃ (v9 : Int), Weak s (PS.of 226 [(0, .list 13 (List.map cGItem a0) none), (1, .val (.int .i64 a1)), (8, .val (.bool false)), (9, .ptr 0 0), (11, .ptr 1 0), (12, .list 1 (List.map cI_i64 r7.1) none), (13, .list 1 (List.map cI_i64 r7.2.1) none), (15, .val (.int .i64 v9)), (16, .val (.int .i64 v6))] [⟨0, (cGLine r2.1)⟩, ⟨0, (cGMeter r7.2.2.2)⟩] [] 0 0) ∧ .inl v9 = x19) ?_ ?_
              · refine PC.region ?_
                refine PO.run 2 rfl ?_
                refine bindIK e20 (fun y10 h21 h22 e20 => ?_)
                refine PO.same rfl (indexAddr_ok Try.underlying22 rfl rfl rfl h21 (map_at h22)) rfl ?_
                refine PO.run 3 rfl ?_
                refine PO.nil ?_
                refine PC.lone ?_
                refine PC.cond rfl (fun h23 => ?_) (fun h23 => ?_)
                · have e20 := bif_t h23 e20
                  refine PC.assoc ?_
                  refine PC.assoc ?_
                  refine PC.region ?_
                  refine PO.run 2 rfl ?_
                  refine PO.same rfl (len_ok Try.underlying31 rfl (List.length_map _)) rfl ?_
                  refine PO.run 2 rfl ?_
                  refine bindK e20 (fun x24 e25 e20 => ?_)
                  refine PO.cut 7 (fun s => ∃ (v11 : Bool), Weak s (PS.of 226 [(0, .list 13 (List.map cGItem a0) none), (1, .val (.int .i64 a1)), (8, .val (.bool false)), (9, .ptr 0 0), (11, .ptr 1 0), (12, .list 1 (List.map cI_i64 r7.1) none), (13, .list 1 (List.map cI_i64 r7.2.1) none), (15, .val (.int .i64 v5)), (16, .val (.int .i64 v6)), (79, .val (.bool v11))] [⟨0, (cGLine r2.1)⟩, ⟨0, (cGMeter r7.2.2.2)⟩] [] 0 0) ∧ v11 = x24) ?_ ?_
                  · refine PO.case (t := 72) rfl rfl (fun h26 => ?_) (fun h26 => ?_)
                    · have e25 := bif_t h26 e25
                      refine PO.run 6 rfl ?_
                      refine PO.same rfl (pickT_ok rfl rfl rfl) rfl ?_
                      refine PO.nil ?_
                      exact ⟨true, Weak.one [0, 1] [] (by kernel_rfl), Option.some.inj e25⟩
                    · have e25 := bif_f h26 e25
                      refine PO.runK 2 [0, 1] [] (es := [(0, .list 13 (List.map cGItem a0) none), (1, .val (.int .i64 a1)), (8, .val (.bool false)), (9, .ptr 0 0), (11, .ptr 1 0), (12, .list 1 (List.map cI_i64 r7.1) none), (13, .list 1 (List.map cI_i64 r7.2.1) none), (15, .val (.int .i64 v5)), (16, .val (.int .i64 v6)), (72, .val (.bool false)), (73, .list 1 (List.map cI_i64 r7.1) none), (74, .val (.int .i64 v5))]) (fr' := [⟨0, (cGLine r2.1)⟩, ⟨0, (cGMeter r7.2.2.2)⟩]) (tk' := []) (by kernel_rfl) ?_
                      refine bindIK e25 (fun y12 h27 h28 e25 => ?_)
                      refine PO.same rfl (indexAddr_ok Try.underlying31 rfl rfl rfl h27 (map_at h28)) rfl ?_
                      refine PO.run 3 rfl ?_
                      refine PO.same rfl (pickF_ok rfl rfl rfl) rfl ?_
                      refine PO.nil ?_
                      exact ⟨y12 != v6, Weak.one [0, 1] [] (by kernel_rfl), Option.some.inj e25⟩
                  · rintro _ ⟨v11, w29, rfl⟩
                    refine PO.weak w29 ?_
                    refine PO.nil ?_
                    refine PC.cond rfl (fun h30 => ?_) (fun h30 => ?_)
                    · have e20 := bif_t h30 e20
                      refine PC.assoc ?_
                      refine PC.run (n := 2) rfl ?_
                      have hq := Option.some.inj e20
                      subst hq
                      have hq := Option.some.inj e15
                      subst hq
                      have hq := Option.some.inj hF
                      subst hq
                      exact PC.ret (blockJK.back (loopKP.ret (blockJK.back (retSK [] [] (by kernel_rfl) (.refl _) ⟨rfl, rfl, rfl⟩))))
                    · have e20 := bif_f h30 e20
                      refine PC.noop ?_
                      refine PC.run (n := 4) rfl ?_
                      exact PC.skip (blockJK.end ⟨w (v5 + 1), Weak.one [0, 1] [] (by kernel_rfl), Option.some.inj e20⟩)
                · have e20 := bif_f h23 e20
                  refine PC.noop ?_
                  exact PC.skip (blockJK.end ⟨v5, Weak.one [0, 1] [] (by kernel_rfl), Option.some.inj e20⟩)
              · rintro _ ⟨v9, w31, rfl⟩
                refine PC.weak w31 ?_
                have e15 := elim_l e15
                refine PC.lone ?_
                refine PC.run (n := 4) rfl ?_
                exact PC.skip (loopKP.mk (Nat.lt_succ_self _) ⟨v9, w (v6 + 1), Weak.one [0, 1] [] (by kernel_rfl), e15⟩)
            · have e15 := bif_f h18 e15
              exact PC.exit (loopKP.exit (blockJK.here ⟨v5, Weak.one [0, 1] [] (by kernel_rfl), Option.some.inj e15⟩))
        · rintro _ ⟨v2, w32, rfl⟩
          refine PC.weak w32 ?_
          have hF := elim_l hF
          refine PC.run (n := 7) rfl ?_
          refine PC.assoc ?_
          refine PC.run (n := 3) rfl ?_
          refine bindK hF (fun x33 e34 hF => ?_)
          refine PC.join (fun s => ∃ (v13 : Int) (v14 : Int), Weak s (PS.of 226 [(0, .list 13 (List.map cGItem a0) none), (1, .val (.int .i64 a1)), (8, .val (.bool false)), (9, .ptr 0 0), (11, .ptr 1 0), (12, .list 1 (List.map cI_i64 r7.1) none), (13, .list 1 (List.map cI_i64 r7.2.1) none), (15, .val (.int .i64 v13)), (17, .val (.int .i64 v14))] [⟨0, (cGLine r2.1)⟩, ⟨0, (cGMeter r7.2.2.2)⟩] [] 0 0) ∧ .inl (v13, v14) = x33) ?_ ?_
          · refine PC.cond rfl (fun h35 => ?_) (fun h35 => ?_)
            · have e34 := bif_t h35 e34
              refine PC.assoc ?_
              refine PC.assoc ?_
              refine PC.drawn (order := [0, 1, 2, 3, 4, 5, 6, 7, 8, 9, 10, 11, 12]) (by kernel_rfl) ?_
              refine PO.run 2 rfl ?_
              refine PO.same rfl (len_ok Try.underlying31 rfl (List.length_map _)) rfl ?_
              refine PO.run 2 rfl ?_
              refine bindK e34 (fun x36 e37 e34 => ?_)
              refine PO.cut 8 (fun s => ∃ (v15 : Bool), Weak s (PS.of 226 [(0, .list 13 (List.map cGItem a0) none), (1, .val (.int .i64 a1)), (8, .val (.bool false)), (9, .ptr 0 0), (11, .ptr 1 0), (12, .list 1 (List.map cI_i64 r7.1) none), (13, .list 1 (List.map cI_i64 r7.2.1) none), (15, .val (.int .i64 v2)), (17, .val (.int .i64 (w (r2.1.last - r2.1.first)))), (101, .val (.bool v15))] [⟨0, (cGLine r2.1)⟩, ⟨0, (cGMeter r7.2.2.2)⟩] [] 0 0) ∧ v15 = x36) ?_ ?_
              · refine PO.case (t := 93) rfl rfl (fun h38 => ?_) (fun h38 => ?_)
                · have e37 := bif_t h38 e37
                  refine PO.run 7 rfl ?_
                  refine PO.same rfl (pickT_ok rfl rfl rfl) rfl ?_
                  refine PO.nil ?_
                  exact ⟨true, Weak.one [0, 1] [] (by kernel_rfl), Option.some.inj e37⟩
                · have e37 := bif_f h38 e37
                  refine PO.runK 2 [0, 1] [] (es := [(0, .list 13 (List.map cGItem a0) none), (1, .val (.int .i64 a1)), (8, .val (.bool false)), (9, .ptr 0 0), (11, .ptr 1 0), (12, .list 1 (List.map cI_i64 r7.1) none), (13, .list 1 (List.map cI_i64 r7.2.1) none), (15, .val (.int .i64 v2)), (17, .val (.int .i64 (w (r2.1.last - r2.1.first)))), (93, .val (.bool false)), (94, .list 1 (List.map cI_i64 r7.1) none), (95, .val (.int .i64 v2))]) (fr' := [⟨0, (cGLine r2.1)⟩, ⟨0, (cGMeter r7.2.2.2)⟩]) (tk' := []) (by kernel_rfl) ?_
                  refine bindIK e37 (fun y16 h39 h40 e37 => ?_)
                  refine PO.same rfl (indexAddr_ok Try.underlying31 rfl rfl rfl h39 (map_at h40)) rfl ?_
                  refine PO.run 4 rfl ?_
                  refine PO.same rfl (pickF_ok rfl rfl rfl) rfl ?_
                  refine PO.nil ?_
                  exact ⟨y16 != r2.1.break_, Weak.one [0, 1] [] (by kernel_rfl), Option.some.inj e37⟩
              · rintro _ ⟨v15, w41, rfl⟩
                refine PO.weak w41 ?_
                refine PO.nil ?_
                refine PC.cond rfl (fun h42 => ?_) (fun h42 => ?_)
                · have e34 := bif_t h42 e34
                  refine PC.assoc ?_
                  refine PC.run (n := 2) rfl ?_
                  have hq := Option.some.inj e34
                  subst hq
                  have hq := Option.some.inj hF
                  subst hq
                  exact PC.ret (joinKP.ret (retSK [] [] (by kernel_rfl) (.refl _) ⟨rfl, rfl, rfl⟩))
                · have e34 := bif_f h42 e34
                  refine PC.noop ?_
                  refine PC.assoc ?_
                  refine PC.run (n := 4) rfl ?_
                  refine PC.run (n := 4) rfl ?_
                  exact PC.skip (joinKP.end ⟨w (v2 + 1), w ((w (r2.1.last - r2.1.first)) + 1), Weak.one [0, 1] [] (by kernel_rfl), Option.some.inj e34⟩)
            · have e34 := bif_f h35 e34
              refine PC.noop ?_
              exact PC.skip (joinKP.end ⟨v2, w (r2.1.last - r2.1.first), Weak.one [0, 1] [] (by kernel_rfl), Option.some.inj e34⟩)
          · rintro _ ⟨v13, v14, w43, rfl⟩
            refine PC.weak w43 ?_
            have hF := elim_l hF
            refine PC.assoc ?_
            refine PC.region ?_
            refine PO.run 1 rfl ?_
            refine PO.same rfl (len_ok Try.underlying31 rfl (List.length_map _)) rfl ?_
            refine PO.run 3 rfl ?_
            refine bindK hF (fun x44 e45 hF => ?_)
            refine PO.cut 11 (fun s => ∃ (v17 : Bool), Weak s (PS.of 226 [(0, .list 13 (List.map cGItem a0) none), (1, .val (.int .i64 a1)), (8, .val (.bool false)), (9, .ptr 0 0), (12, .list 1 (List.map cI_i64 r7.1) none), (13, .list 1 (List.map cI_i64 r7.2.1) none), (121, .val (.bool v17))] [⟨0, (cGLine r2.1)⟩] [] 0 0) ∧ v17 = x44) ?_ ?_
            · refine PO.case (t := 110) rfl rfl (fun h46 => ?_) (fun h46 => ?_)
              · have e45 := bif_t h46 e45
                refine PO.run 4 rfl ?_
                refine PO.same rfl (pickT_ok rfl rfl rfl) rfl ?_
                refine PO.run 5 rfl ?_
                refine PO.same rfl (pickT_ok rfl rfl rfl) rfl ?_
                refine PO.nil ?_
                exact ⟨true, Weak.one [0] [] (by kernel_rfl), Option.some.inj e45⟩
              · have e45 := bif_f h46 e45
                refine PO.runK 1 [0, 1] [] (es := [(0, .list 13 (List.map cGItem a0) none), (1, .val (.int .i64 a1)), (8, .val (.bool false)), (9, .ptr 0 0), (11, .ptr 1 0), (12, .list 1 (List.map cI_i64 r7.1) none), (13, .list 1 (List.map cI_i64 r7.2.1) none), (15, .val (.int .i64 v13)), (17, .val (.int .i64 v14)), (110, .val (.bool false)), (111, .ptr 1 0)]) (fr' := [⟨0, (cGLine r2.1)⟩, ⟨0, (cGMeter r7.2.2.2)⟩]) (tk' := []) (by kernel_rfl) ?_
                refine bindK e45 (fun r47 e48 e45 => ?_)
                refine PO.call rfl rfl rfl rfl (ks := [1]) (ts := []) (fr1 := [⟨0, (cGMeter r7.2.2.2)⟩]) rfl rfl rfl ⟨⟨_, rfl, rfl, rfl⟩, trivial⟩ (L8 k r7.2.2.2 _ e48) ?_
                rintro _ _ _ ⟨rfl, rfl, rfl⟩
                refine ⟨_, _, rfl, rfl, ?_⟩
                refine PO.run 2 rfl ?_
                refine PO.same rfl (pickF_ok rfl rfl rfl) rfl ?_
                refine PO.run 1 rfl ?_
                refine bindK e45 (fun x49 e50 e45 => ?_)
                refine PO.cut 5 (fun s => ∃ (v18 : Bool), Weak s (PS.of 226 [(0, .list 13 (List.map cGItem a0) none), (1, .val (.int .i64 a1)), (8, .val (.bool false)), (9, .ptr 0 0), (12, .list 1 (List.map cI_i64 r7.1) none), (13, .list 1 (List.map cI_i64 r7.2.1) none), (121, .val (.bool v18))] [⟨0, (cGLine r2.1)⟩] [] 0 0) ∧ v18 = x49) ?_ ?_
                · refine PO.case (t := 116) rfl rfl (fun h51 => ?_) (fun h51 => ?_)
                  · have e50 := bif_t h51 e50
                    refine PO.run 4 rfl ?_
                    refine PO.same rfl (pickT_ok rfl rfl rfl) rfl ?_
                    refine PO.nil ?_
                    exact ⟨true, Weak.one [0] [] (by kernel_rfl), Option.some.inj e50⟩
                  · have e50 := bif_f h51 e50
                    refine PO.runK 1 [0, 1] [] (es := [(0, .list 13 (List.map cGItem a0) none), (1, .val (.int .i64 a1)), (8, .val (.bool false)), (9, .ptr 0 0), (12, .list 1 (List.map cI_i64 r7.1) none), (13, .list 1 (List.map cI_i64 r7.2.1) none), (15, .val (.int .i64 v13)), (116, .val (.bool false)), (117, .ptr 1 0)]) (fr' := [⟨0, (cGLine r2.1)⟩, ⟨0, (cGMeter r47.2)⟩]) (tk' := []) (by kernel_rfl) ?_
                    refine bindK e50 (fun r52 e53 e50 => ?_)
                    refine PO.call rfl rfl rfl rfl (ks := [1]) (ts := []) (fr1 := [⟨0, (cGMeter r47.2)⟩]) rfl rfl rfl ⟨⟨_, rfl, rfl, rfl⟩, trivial⟩ (L9 k r47.2 _ e53) ?_
                    rintro _ _ _ ⟨rfl, rfl, rfl⟩
                    refine ⟨_, _, rfl, rfl, ?_⟩
                    refine PO.run 2 rfl ?_
                    refine PO.same rfl (pickF_ok rfl rfl rfl) rfl ?_
                    refine PO.nil ?_
                    exact ⟨r52.1 != v13, Weak.one [0] [] (by kernel_rfl), Option.some.inj e50⟩
                · rintro _ ⟨v18, w54, rfl⟩
                  refine PO.weak w54 ?_
                  refine PO.nil ?_
                  exact ⟨v18, Weak.one [0] [] (by kernel_rfl), Option.some.inj e45⟩
            · rintro _ ⟨v17, w55, rfl⟩
              refine PO.weak w55 ?_
              refine PO.nil ?_
              refine PC.cond rfl (fun h56 => ?_) (fun h56 => ?_)
              · have hF := bif_t h56 hF
                refine PC.assoc ?_
                refine PC.run (n := 2) rfl ?_
                have hq := Option.some.inj hF
                subst hq
                exact PC.ret (retSK [] [] (by kernel_rfl) (.refl _) ⟨rfl, rfl, rfl⟩)
              · have hF := bif_f h56 hF
                refine PC.noop ?_
                refine PC.run (n := 2) rfl ?_
                refine PC.assoc ?_
                refine PC.region ?_
                refine PO.run 1 rfl ?_
                refine PO.same rfl (len_ok Try.underlying31 rfl (List.length_map _)) rfl ?_
                refine PO.run 1 rfl ?_
                refine PO.nil ?_
                refine bindK hF (fun x57 e58 hF => ?_)
                refine PC.blockJ (fun s => ∃ (v19 : Int), Weak s (PS.of 226 [(0, .list 13 (List.map cGItem a0) none), (1, .val (.int .i64 a1)), (8, .val (.bool false)), (9, .ptr 0 0), (18, .val (.int .i64 v19))] [⟨0, (cGLine r2.1)⟩] [] 0 0) ∧ .inl v19 = x57) ?_ ?_
                · refine PC.loop (fun j59 s => ∃ (v22 : Int) (v23 : Int), Weak s (PS.of 226 [(0, .list 13 (List.map cGItem a0) none), (1, .val (.int .i64 a1)), (8, .val (.bool false)), (9, .ptr 0 0), (13, .list 1 (List.map cI_i64 r7.2.1) none), (18, .val (.int .i64 v22)), (122, .list 1 (List.map cI_i64 r7.1) none), (123, .val (.int .i64 (r7.1.length : Int))), (124, .val (.int .i64 v23))] [⟨0, (cGLine r2.1)⟩] [] 0 0) ∧ F3_l2 k a0 a1 r2 r7 j59 v22 v23 = some x57) (fun j59 s => ?_) k ⟨0, 0, Weak.one [0] [] (by kernel_rfl), e58⟩
                  rintro ⟨v22, v23, w60, e58⟩
                  refine PC.weak w60 ?_
                  cases j59 with
                  | zero => rw [F3_l2] at e58; cases e58
                  | succ j59 =>
                    rw [F3_l2] at e58
                    refine PC.run (n := 2) rfl ?_
                    refine PC.cond rfl (fun h61 => ?_) (fun h61 => ?_)
                    · have e58 := bif_t h61 e58
                      refine PC.noop ?_
                      refine PC.block ?_
                      refine PC.region ?_
                      refine PO.run 1 rfl ?_
                      refine bindIK e58 (fun y26 h62 h63 e58 => ?_)
                      refine PO.same rfl (indexAddr_ok Try.underlying31 rfl rfl rfl h62 (map_at h63)) rfl ?_
                      refine PO.run 3 rfl ?_
                      refine PO.nil ?_
                      refine PC.assoc ?_
                      refine PC.drawn (order := [0, 1, 2, 3, 4, 5, 6, 7, 8, 9, 10, 11, 12, 13, 14, 15, 16, 17, 18, 19, 20, 21, 22, 23, 24]) (by kernel_rfl) ?_
                      refine PO.run 3 rfl ?_
                      refine bindK e58 (fun x64 e65 e58 => ?_)
                      refine PO.cut 22 (fun s => ∃ (v27 : Bool), Weak s (PS.of 226 [(0, .list 13 (List.map cGItem a0) none), (1, .val (.int .i64 a1)), (8, .val (.bool false)), (9, .ptr 0 0), (13, .list 1 (List.map cI_i64 r7.2.1) none), (18, .val (.int .i64 v22)), (19, .val (.int .i64 v23)), (20, .val (.int .i64 y26)), (122, .list 1 (List.map cI_i64 r7.1) none), (123, .val (.int .i64 (r7.1.length : Int))), (124, .val (.int .i64 v23)), (153, .val (.bool v27))] [⟨0, (cGLine r2.1)⟩] [] 0 0) ∧ v27 = x64) ?_ ?_
                      · refine PO.case (t := 131) rfl rfl (fun h66 => ?_) (fun h66 => ?_)
                        · have e65 := bif_t h66 e65
                          refine PO.runK 2 [0] [] (es := [(0, .list 13 (List.map cGItem a0) none), (1, .val (.int .i64 a1)), (8, .val (.bool false)), (9, .ptr 0 0), (13, .list 1 (List.map cI_i64 r7.2.1) none), (18, .val (.int .i64 v22)), (19, .val (.int .i64 v23)), (20, .val (.int .i64 y26)), (122, .list 1 (List.map cI_i64 r7.1) none), (123, .val (.int .i64 (r7.1.length : Int))), (124, .val (.int .i64 v23)), (131, .val (.bool true)), (132, .list 1 (List.map cI_i64 r7.2.1) none), (133, .val (.int .i64 v23))]) (fr' := [⟨0, (cGLine r2.1)⟩]) (tk' := []) (by kernel_rfl) ?_
                          refine bindIK e65 (fun y28 h67 h68 e65 => ?_)
                          refine PO.same rfl (indexAddr_ok Try.underlying31 rfl rfl rfl h67 (map_at h68)) rfl ?_
                          refine PO.run 2 rfl ?_
                          refine PO.same rfl (pickT_ok rfl rfl rfl) rfl ?_
                          refine PO.run 1 rfl ?_
                          refine bindK e65 (fun x69 e70 e65 => ?_)
                          refine PO.cut 15 (fun s => ∃ (v29 : Bool), Weak s (PS.of 226 [(0, .list 13 (List.map cGItem a0) none), (1, .val (.int .i64 a1)), (8, .val (.bool false)), (9, .ptr 0 0), (13, .list 1 (List.map cI_i64 r7.2.1) none), (18, .val (.int .i64 v22)), (19, .val (.int .i64 v23)), (20, .val (.int .i64 y26)), (122, .list 1 (List.map cI_i64 r7.1) none), (123, .val (.int .i64 (r7.1.length : Int))), (124, .val (.int .i64 v23)), (153, .val (.bool v29))] [⟨0, (cGLine r2.1)⟩] [] 0 0) ∧ v29 = x69) ?_ ?_
                          · refine PO.case (t := 138) rfl rfl (fun h71 => ?_) (fun h71 => ?_)
                            · have e70 := bif_t h71 e70
                              refine PO.run 14 rfl ?_
                              refine PO.same rfl (pickT_ok rfl rfl rfl) rfl ?_
                              refine PO.nil ?_
                              exact ⟨true, Weak.one [0] [] (by kernel_rfl), Option.some.inj e70⟩
                            · have e70 := bif_f h71 e70
                              refine PO.run 3 rfl ?_
                              refine bindK e70 (fun x72 e73 e70 => ?_)
                              refine PO.cut 12 (fun s => ∃ (v30 : Bool), Weak s (PS.of 226 [(0, .list 13 (List.map cGItem a0) none), (1, .val (.int .i64 a1)), (8, .val (.bool false)), (9, .ptr 0 0), (13, .list 1 (List.map cI_i64 r7.2.1) none), (18, .val (.int .i64 v22)), (19, .val (.int .i64 v23)), (20, .val (.int .i64 y26)), (122, .list 1 (List.map cI_i64 r7.1) none), (123, .val (.int .i64 (r7.1.length : Int))), (124, .val (.int .i64 v23)), (153, .val (.bool v30))] [⟨0, (cGLine r2.1)⟩] [] 0 0) ∧ v30 = x72) ?_ ?_
                              · refine PO.case (t := 141) rfl rfl (fun h74 => ?_) (fun h74 => ?_)
                                · have e73 := bif_t h74 e73
                                  refine PO.runK 2 [0] [] (es := [(0, .list 13 (List.map cGItem a0) none), (1, .val (.int .i64 a1)), (8, .val (.bool false)), (9, .ptr 0 0), (13, .list 1 (List.map cI_i64 r7.2.1) none), (18, .val (.int .i64 v22)), (19, .val (.int .i64 v23)), (20, .val (.int .i64 y26)), (122, .list 1 (List.map cI_i64 r7.1) none), (123, .val (.int .i64 (r7.1.length : Int))), (124, .val (.int .i64 v23)), (138, .val (.bool false)), (141, .val (.bool true)), (142, .list 1 (List.map cI_i64 r7.2.1) none), (143, .val (.int .i64 v23))]) (fr' := [⟨0, (cGLine r2.1)⟩]) (tk' := []) (by kernel_rfl) ?_
                                  refine bindIK e73 (fun y31 h75 h76 e73 => ?_)
                                  refine PO.same rfl (indexAddr_ok Try.underlying31 rfl rfl rfl h75 (map_at h76)) rfl ?_
                                  refine PO.runK 4 [0] [] (es := [(0, .list 13 (List.map cGItem a0) none), (1, .val (.int .i64 a1)), (8, .val (.bool false)), (9, .ptr 0 0), (13, .list 1 (List.map cI_i64 r7.2.1) none), (18, .val (.int .i64 v22)), (19, .val (.int .i64 v23)), (20, .val (.int .i64 y26)), (122, .list 1 (List.map cI_i64 r7.1) none), (123, .val (.int .i64 (r7.1.length : Int))), (124, .val (.int .i64 v23)), (138, .val (.bool false)), (141, .val (.bool true)), (145, .val (.int .i64 y31)), (146, .list 1 (List.map cI_i64 r7.2.1) none), (148, .val (.int .i64 (w (v23 - 1))))]) (fr' := [⟨0, (cGLine r2.1)⟩]) (tk' := []) (by kernel_rfl) ?_
                                  refine bindIK e73 (fun y32 h77 h78 e73 => ?_)
                                  refine PO.same rfl (indexAddr_ok Try.underlying31 rfl rfl rfl h77 (map_at h78)) rfl ?_
                                  refine PO.run 2 rfl ?_
                                  refine PO.same rfl (pickT_ok rfl rfl rfl) rfl ?_
                                  refine PO.same rfl (pickF_ok rfl rfl rfl) rfl ?_
                                  refine PO.nil ?_
                                  exact ⟨decide (y31 < y32), Weak.one [0] [] (by kernel_rfl), Option.some.inj e73⟩
                                · have e73 := bif_f h74 e73
                                  refine PO.run 10 rfl ?_
                                  refine PO.same rfl (pickF_ok rfl rfl rfl) rfl ?_
                                  refine PO.same rfl (pickF_ok rfl rfl rfl) rfl ?_
                                  refine PO.nil ?_
                                  exact ⟨false, Weak.one [0] [] (by kernel_rfl), Option.some.inj e73⟩
                              · rintro _ ⟨v30, w79, rfl⟩
                                refine PO.weak w79 ?_
                                refine PO.nil ?_
                                exact ⟨v30, Weak.one [0] [] (by kernel_rfl), Option.some.inj e70⟩
                          · rintro _ ⟨v29, w80, rfl⟩
                            refine PO.weak w80 ?_
                            refine PO.nil ?_
                            exact ⟨v29, Weak.one [0] [] (by kernel_rfl), Option.some.inj e65⟩
                        · have e65 := bif_f h66 e65
                          refine PO.run 5 rfl ?_
                          refine PO.same rfl (pickF_ok rfl rfl rfl) rfl ?_
                          refine PO.run 4 rfl ?_
                          refine bindK e65 (fun x81 e82 e65 => ?_)
                          refine PO.cut 12 (fun s => ∃ (v33 : Bool), Weak s (PS.of 226 [(0, .list 13 (List.map cGItem a0) none), (1, .val (.int .i64 a1)), (8, .val (.bool false)), (9, .ptr 0 0), (13, .list 1 (List.map cI_i64 r7.2.1) none), (18, .val (.int .i64 v22)), (19, .val (.int .i64 v23)), (20, .val (.int .i64 y26)), (122, .list 1 (List.map cI_i64 r7.1) none), (123, .val (.int .i64 (r7.1.length : Int))), (124, .val (.int .i64 v23)), (153, .val (.bool v33))] [⟨0, (cGLine r2.1)⟩] [] 0 0) ∧ v33 = x81) ?_ ?_
                          · refine PO.case (t := 141) rfl rfl (fun h83 => ?_) (fun h83 => ?_)
                            · have e82 := bif_t h83 e82
                              refine PO.runK 2 [0] [] (es := [(0, .list 13 (List.map cGItem a0) none), (1, .val (.int .i64 a1)), (8, .val (.bool false)), (9, .ptr 0 0), (13, .list 1 (List.map cI_i64 r7.2.1) none), (18, .val (.int .i64 v22)), (19, .val (.int .i64 v23)), (20, .val (.int .i64 y26)), (122, .list 1 (List.map cI_i64 r7.1) none), (123, .val (.int .i64 (r7.1.length : Int))), (124, .val (.int .i64 v23)), (138, .val (.bool false)), (141, .val (.bool true)), (142, .list 1 (List.map cI_i64 r7.2.1) none), (143, .val (.int .i64 v23))]) (fr' := [⟨0, (cGLine r2.1)⟩]) (tk' := []) (by kernel_rfl) ?_
                              refine bindIK e82 (fun y34 h84 h85 e82 => ?_)
                              refine PO.same rfl (indexAddr_ok Try.underlying31 rfl rfl rfl h84 (map_at h85)) rfl ?_
                              refine PO.runK 4 [0] [] (es := [(0, .list 13 (List.map cGItem a0) none), (1, .val (.int .i64 a1)), (8, .val (.bool false)), (9, .ptr 0 0), (13, .list 1 (List.map cI_i64 r7.2.1) none), (18, .val (.int .i64 v22)), (19, .val (.int .i64 v23)), (20, .val (.int .i64 y26)), (122, .list 1 (List.map cI_i64 r7.1) none), (123, .val (.int .i64 (r7.1.length : Int))), (124, .val (.int .i64 v23)), (138, .val (.bool false)), (141, .val (.bool true)), (145, .val (.int .i64 y34)), (146, .list 1 (List.map cI_i64 r7.2.1) none), (148, .val (.int .i64 (w (v23 - 1))))]) (fr' := [⟨0, (cGLine r2.1)⟩]) (tk' := []) (by kernel_rfl) ?_
                              refine bindIK e82 (fun y35 h86 h87 e82 => ?_)
                              refine PO.same rfl (indexAddr_ok Try.underlying31 rfl rfl rfl h86 (map_at h87)) rfl ?_
                              refine PO.run 2 rfl ?_
                              refine PO.same rfl (pickT_ok rfl rfl rfl) rfl ?_
                              refine PO.same rfl (pickF_ok rfl rfl rfl) rfl ?_
                              refine PO.nil ?_
                              exact ⟨decide (y34 < y35), Weak.one [0] [] (by kernel_rfl), Option.some.inj e82⟩
                            · have e82 := bif_f h83 e82
                              refine PO.run 10 rfl ?_
                              refine PO.same rfl (pickF_ok rfl rfl rfl) rfl ?_
                              refine PO.same rfl (pickF_ok rfl rfl rfl) rfl ?_
                              refine PO.nil ?_
                              exact ⟨false, Weak.one [0] [] (by kernel_rfl), Option.some.inj e82⟩
                          · rintro _ ⟨v33, w88, rfl⟩
                            refine PO.weak w88 ?_
                            refine PO.nil ?_
                            exact ⟨v33, Weak.one [0] [] (by kernel_rfl), Option.some.inj e65⟩
                      · rintro _ ⟨v27, w89, rfl⟩
                        refine PO.weak w89 ?_
                        refine PO.nil ?_
                        refine PC.cond rfl (fun h90 => ?_) (fun h90 => ?_)
                        · have e58 := bif_t h90 e58
                          refine PC.assoc ?_
                          refine PC.run (n := 2) rfl ?_
                          have hq := Option.some.inj e58
                          subst hq
                          have hq := Option.some.inj hF
                          subst hq
                          exact PC.ret (blockKP.back (loopKP.ret (blockJK.back (retSK [] [] (by kernel_rfl) (.refl _) ⟨rfl, rfl, rfl⟩))))
                        · have e58 := bif_f h90 e58
                          refine PC.noop ?_
                          refine PC.drawn (order := [0, 1, 2, 3, 4, 5, 6, 7, 8, 9, 10]) (by kernel_rfl) ?_
                          refine PO.run 2 rfl ?_
                          refine bindIK e58 (fun y36 h91 h92 e58 => ?_)
                          refine PO.same rfl (indexAddr_ok Try.underlying31 rfl rfl rfl h91 (map_at h92)) rfl ?_
                          refine PO.runK 3 [0] [] (es := [(0, .list 13 (List.map cGItem a0) none), (1, .val (.int .i64 a1)), (8, .val (.bool false)), (9, .ptr 0 0), (13, .list 1 (List.map cI_i64 r7.2.1) none), (18, .val (.int .i64 v22)), (122, .list 1 (List.map cI_i64 r7.1) none), (123, .val (.int .i64 (r7.1.length : Int))), (124, .val (.int .i64 v23)), (157, .val (.int .i64 y36)), (158, .list 13 (List.map cGItem a0) none), (159, .val (.int .i64 y26))]) (fr' := [⟨0, (cGLine r2.1)⟩]) (tk' := []) (by kernel_rfl) ?_
                          refine bindIK e58 (fun y37 h93 h94 e58 => ?_)
                          refine PO.same rfl (indexAddr_ok Try.underlying22 rfl rfl rfl h93 (map_at h94)) rfl ?_
                          refine PO.run 4 rfl ?_
                          refine PO.nil ?_
                          refine PC.assoc ?_
                          refine PC.region ?_
                          refine PO.run 4 rfl ?_
                          refine bindK e58 (fun x95 e96 e58 => ?_)
                          refine PO.cut 9 (fun s => ∃ (v38 : Bool), Weak s (PS.of 226 [(0, .list 13 (List.map cGItem a0) none), (1, .val (.int .i64 a1)), (8, .val (.bool false)), (9, .ptr 0 0), (13, .list 1 (List.map cI_i64 r7.2.1) none), (18, .val (.int .i64 v22)), (21, .val (.int .i64 (w (y36 + y37.width)))), (122, .list 1 (List.map cI_i64 r7.1) none), (123, .val (.int .i64 (r7.1.length : Int))), (124, .val (.int .i64 v23)), (176, .val (.bool v38))] [⟨0, (cGLine r2.1)⟩] [] 0 0) ∧ v38 = x95) ?_ ?_
                          · refine PO.case (t := 167) rfl rfl (fun h97 => ?_) (fun h97 => ?_)
                            · have e96 := bif_t h97 e96
                              refine PO.run 8 rfl ?_
                              refine PO.same rfl (pickT_ok rfl rfl rfl) rfl ?_
                              refine PO.nil ?_
                              exact ⟨true, Weak.one [0] [] (by kernel_rfl), Option.some.inj e96⟩
                            · have e96 := bif_f h97 e96
                              refine PO.run 4 rfl ?_
                              refine bindK e96 (fun x98 e99 e96 => ?_)
                              refine PO.cut 5 (fun s => ∃ (v39 : Bool), Weak s (PS.of 226 [(0, .list 13 (List.map cGItem a0) none), (1, .val (.int .i64 a1)), (8, .val (.bool false)), (9, .ptr 0 0), (13, .list 1 (List.map cI_i64 r7.2.1) none), (18, .val (.int .i64 v22)), (21, .val (.int .i64 (w (y36 + y37.width)))), (122, .list 1 (List.map cI_i64 r7.1) none), (123, .val (.int .i64 (r7.1.length : Int))), (124, .val (.int .i64 v23)), (176, .val (.bool v39))] [⟨0, (cGLine r2.1)⟩] [] 0 0) ∧ v39 = x98) ?_ ?_
                              · refine PO.case (t := 171) rfl rfl (fun h100 => ?_) (fun h100 => ?_)
                                · have e99 := bif_t h100 e99
                                  refine PO.run 3 rfl ?_
                                  refine PO.same rfl (pickT_ok rfl rfl rfl) rfl ?_
                                  refine PO.same rfl (pickF_ok rfl rfl rfl) rfl ?_
                                  refine PO.nil ?_
                                  exact ⟨decide ((w (y36 + y37.width)) > a1), Weak.one [0] [] (by kernel_rfl), Option.some.inj e99⟩
                                · have e99 := bif_f h100 e99
                                  refine PO.run 3 rfl ?_
                                  refine PO.same rfl (pickF_ok rfl rfl rfl) rfl ?_
                                  refine PO.same rfl (pickF_ok rfl rfl rfl) rfl ?_
                                  refine PO.nil ?_
                                  exact ⟨false, Weak.one [0] [] (by kernel_rfl), Option.some.inj e99⟩
                              · rintro _ ⟨v39, w101, rfl⟩
                                refine PO.weak w101 ?_
                                refine PO.nil ?_
                                exact ⟨v39, Weak.one [0] [] (by kernel_rfl), Option.some.inj e96⟩
                          · rintro _ ⟨v38, w102, rfl⟩
                            refine PO.weak w102 ?_
                            refine PO.nil ?_
                            refine PC.cond rfl (fun h103 => ?_) (fun h103 => ?_)
                            · have e58 := bif_t h103 e58
                              refine PC.assoc ?_
                              refine PC.run (n := 2) rfl ?_
                              have hq := Option.some.inj e58
                              subst hq
                              have hq := Option.some.inj hF
                              subst hq
                              exact PC.ret (blockKP.back (loopKP.ret (blockJK.back (retSK [] [] (by kernel_rfl) (.refl _) ⟨rfl, rfl, rfl⟩))))
                            · have e58 := bif_f h103 e58
                              refine PC.noop ?_
                              refine PC.lone ?_
                              refine PC.run (n := 3) rfl ?_
                              refine PC.skip (blockKP.end ?_)
                              refine PC.lone ?_
                              refine PC.run (n := 3) rfl ?_
                              exact PC.skip (loopKP.mk (Nat.lt_succ_self _) ⟨w (y36 + y37.width), w (v23 + 1), Weak.one [0] [] (by kernel_rfl), e58⟩)
                    · have e58 := bif_f h61 e58
                      exact PC.exit (loopKP.exit (blockJK.here ⟨v22, Weak.one [0] [] (by kernel_rfl), Option.some.inj e58⟩))
                · rintro _ ⟨v19, w104, rfl⟩
                  refine PC.weak w104 ?_
                  have hF := elim_l hF
                  refine PC.region ?_
                  refine PO.run 3 rfl ?_
                  refine bindK hF (fun x105 e106 hF => ?_)
                  refine PO.cut 16 (fun s => ∃ (v40 : Bool), Weak s (PS.of 226 [(1, .val (.int .i64 a1)), (8, .val (.bool false)), (9, .ptr 0 0), (18, .val (.int .i64 v19)), (197, .val (.bool v40))] [⟨0, (cGLine r2.1)⟩] [] 0 0) ∧ v40 = x105) ?_ ?_
                  · refine PO.case (t := 181) rfl rfl (fun h107 => ?_) (fun h107 => ?_)
                    · have e106 := bif_t h107 e106
                      refine PO.run 15 rfl ?_
                      refine PO.same rfl (pickT_ok rfl rfl rfl) rfl ?_
                      refine PO.nil ?_
                      exact ⟨true, Weak.one [0] [] (by kernel_rfl), Option.some.inj e106⟩
                    · have e106 := bif_f h107 e106
                      refine PO.run 6 rfl ?_
                      refine bindK e106 (fun x108 e109 e106 => ?_)
                      refine PO.cut 10 (fun s => ∃ (v41 : Bool), Weak s (PS.of 226 [(1, .val (.int .i64 a1)), (8, .val (.bool false)), (9, .ptr 0 0), (18, .val (.int .i64 v19)), (197, .val (.bool v41))] [⟨0, (cGLine r2.1)⟩] [] 0 0) ∧ v41 = x108) ?_ ?_
                      · refine PO.case (t := 187) rfl rfl (fun h110 => ?_) (fun h110 => ?_)
                        · have e109 := bif_t h110 e109
                          refine PO.runK 4 [0] [] (es := [(1, .val (.int .i64 a1)), (8, .val (.bool false)), (9, .ptr 0 0), (18, .val (.int .i64 v19)), (181, .val (.bool false)), (187, .val (.bool true)), (188, .list 13 (List.map cGItem a0) none), (191, .val (.int .i64 (w (r2.1.last - 1))))]) (fr' := [⟨0, (cGLine r2.1)⟩]) (tk' := []) (by kernel_rfl) ?_
                          refine bindIK e109 (fun y42 h111 h112 e109 => ?_)
                          refine PO.same rfl (indexAddr_ok Try.underlying22 rfl rfl rfl h111 (map_at h112)) rfl ?_
                          refine PO.run 3 rfl ?_
                          refine PO.same rfl (pickT_ok rfl rfl rfl) rfl ?_
                          refine PO.same rfl (pickF_ok rfl rfl rfl) rfl ?_
                          refine PO.nil ?_
                          exact ⟨y42.kind == 1, Weak.one [0] [] (by kernel_rfl), Option.some.inj e109⟩
                        · have e109 := bif_f h110 e109
                          refine PO.run 8 rfl ?_
                          refine PO.same rfl (pickF_ok rfl rfl rfl) rfl ?_
                          refine PO.same rfl (pickF_ok rfl rfl rfl) rfl ?_
                          refine PO.nil ?_
                          exact ⟨false, Weak.one [0] [] (by kernel_rfl), Option.some.inj e109⟩
                      · rintro _ ⟨v41, w113, rfl⟩
                        refine PO.weak w113 ?_
                        refine PO.nil ?_
                        exact ⟨v41, Weak.one [0] [] (by kernel_rfl), Option.some.inj e106⟩
                  · rintro _ ⟨v40, w114, rfl⟩
                    refine PO.weak w114 ?_
                    refine PO.run 1 rfl ?_
                    refine PO.nil ?_
                    refine PC.assoc ?_
                    refine PC.run (n := 3) rfl ?_
                    refine PC.cond rfl (fun h115 => ?_) (fun h115 => ?_)
                    · have hF := bif_t h115 hF
                      refine PC.assoc ?_
                      refine PC.region ?_
                      refine PO.run 3 rfl ?_
                      refine bindK hF (fun x116 e117 hF => ?_)
                      refine PO.cut 4 (fun s => ∃ (v43 : Bool), Weak s (PS.of 226 [(8, .val (.bool false)), (206, .val (.bool v43))] [] [] 0 0) ∧ v43 = x116) ?_ ?_
                      · refine PO.case (t := 202) rfl rfl (fun h118 => ?_) (fun h118 => ?_)
                        · have e117 := bif_t h118 e117
                          refine PO.run 3 rfl ?_
                          refine PO.same rfl (pickT_ok rfl rfl rfl) rfl ?_
                          refine PO.nil ?_
                          exact ⟨true, Weak.one [] [] (by kernel_rfl), Option.some.inj e117⟩
                        · have e117 := bif_f h118 e117
                          refine PO.run 3 rfl ?_
                          refine PO.same rfl (pickF_ok rfl rfl rfl) rfl ?_
                          refine PO.nil ?_
                          exact ⟨decide (v19 > a1), Weak.one [] [] (by kernel_rfl), Option.some.inj e117⟩
                      · rintro _ ⟨v43, w119, rfl⟩
                        refine PO.weak w119 ?_
                        refine PO.run 1 rfl ?_
                        refine PO.nil ?_
                        have hq := Option.some.inj hF
                        subst hq
                        exact PC.ret (retSK [] [] (by kernel_rfl) (.refl _) ⟨rfl, rfl, rfl⟩)
                    · have hF := bif_f h115 hF
                      refine PC.noop ?_
                      refine PC.assoc ?_
                      refine PC.region ?_
                      refine PO.run 2 rfl ?_
                      refine bindK hF (fun x120 e121 hF => ?_)
                      refine PO.cut 14 (fun s => ∃ (v44 : Bool), Weak s (PS.of 226 [(1, .val (.int .i64 a1)), (8, .val (.bool false)), (18, .val (.int .i64 v19)), (222, .val (.bool v44))] [] [] 0 0) ∧ v44 = x120) ?_ ?_
                      · refine PO.case (t := 208) rfl rfl (fun h122 => ?_) (fun h122 => ?_)
                        · have e121 := bif_t h122 e121
                          refine PO.run 3 rfl ?_
                          refine PO.same rfl (pickT_ok rfl rfl rfl) rfl ?_
                          refine PO.run 1 rfl ?_
                          refine bindK e121 (fun x123 e124 e121 => ?_)
                          refine PO.cut 9 (fun s => ∃ (v45 : Bool), Weak s (PS.of 226 [(1, .val (.int .i64 a1)), (8, .val (.bool false)), (18, .val (.int .i64 v19)), (222, .val (.bool v45))] [] [] 0 0) ∧ v45 = x123) ?_ ?_
                          · refine PO.case (t := 213) rfl rfl (fun h125 => ?_) (fun h125 => ?_)
                            · have e124 := bif_t h125 e124
                              refine PO.run 4 rfl ?_
                              refine bindK e124 (fun x126 e127 e124 => ?_)
                              refine PO.cut 5 (fun s => ∃ (v46 : Bool), Weak s (PS.of 226 [(1, .val (.int .i64 a1)), (8, .val (.bool false)), (18, .val (.int .i64 v19)), (222, .val (.bool v46))] [] [] 0 0) ∧ v46 = x126) ?_ ?_
                              · refine PO.case (t := 217) rfl rfl (fun h128 => ?_) (fun h128 => ?_)
                                · have e127 := bif_t h128 e127
                                  refine PO.run 3 rfl ?_
                                  refine PO.same rfl (pickT_ok rfl rfl rfl) rfl ?_
                                  refine PO.same rfl (pickT_ok rfl rfl rfl) rfl ?_
                                  refine PO.nil ?_
                                  exact ⟨true, Weak.one [] [] (by kernel_rfl), Option.some.inj e127⟩
                                · have e127 := bif_f h128 e127
                                  refine PO.run 3 rfl ?_
                                  refine PO.same rfl (pickF_ok rfl rfl rfl) rfl ?_
                                  refine PO.same rfl (pickT_ok rfl rfl rfl) rfl ?_
                                  refine PO.nil ?_
                                  exact ⟨decide (r2.1.short ≤ 0), Weak.one [] [] (by kernel_rfl), Option.some.inj e127⟩
                              · rintro _ ⟨v46, w129, rfl⟩
                                refine PO.weak w129 ?_
                                refine PO.nil ?_
                                exact ⟨v46, Weak.one [] [] (by kernel_rfl), Option.some.inj e124⟩
                            · have e124 := bif_f h125 e124
                              refine PO.run 8 rfl ?_
                              refine PO.same rfl (pickF_ok rfl rfl rfl) rfl ?_
                              refine PO.nil ?_
                              exact ⟨false, Weak.one [] [] (by kernel_rfl), Option.some.inj e124⟩
                          · rintro _ ⟨v45, w130, rfl⟩
                            refine PO.weak w130 ?_
                            refine PO.nil ?_
                            exact ⟨v45, Weak.one [] [] (by kernel_rfl), Option.some.inj e121⟩
                        · have e121 := bif_f h122 e121
                          refine PO.run 3 rfl ?_
                          refine PO.same rfl (pickF_ok rfl rfl rfl) rfl ?_
                          refine PO.run 9 rfl ?_
                          refine PO.same rfl (pickF_ok rfl rfl rfl) rfl ?_
                          refine PO.nil ?_
                          exact ⟨false, Weak.one [] [] (by kernel_rfl), Option.some.inj e121⟩
                      · rintro _ ⟨v44, w131, rfl⟩
                        refine PO.weak w131 ?_
                        refine PO.nil ?_
                        refine PC.cond rfl (fun h132 => ?_) (fun h132 => ?_)
                        · have hF := bif_t h132 hF
                          refine PC.assoc ?_
                          refine PC.run (n := 5) rfl ?_
                          have hq := Option.some.inj hF
                          subst hq
                          exact PC.ret (retSK [] [] (by kernel_rfl) (.refl _) ⟨rfl, rfl, rfl⟩)
                        · have hF := bif_f h132 hF
                          refine PC.noop ?_
                          refine PC.run (n := 2) rfl ?_
                          have hq := Option.some.inj hF
                          subst hq
                          exact PC.ret' (retSK [] [] (by kernel_rfl) (.refl _) ⟨rfl, rfl, rfl⟩)

end
end Go.Eng.Lift
