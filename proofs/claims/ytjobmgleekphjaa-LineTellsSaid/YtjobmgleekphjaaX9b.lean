import Derived.Test.YtjobmgleekphjaaX9a
import Derived.Test.YtjobmgleekphjaaProg
import Derived.KernelRfl
set_option linter.unusedVariables false
set_option linter.unusedSimpArgs false
set_option maxRecDepth 100000
set_option maxHeartbeats 4000000
namespace Go.Eng.Lift
open Go.Proofs
noncomputable section
/-! 97 platen/platenref14.judged -/
def F97 (k : Nat) (a0 : GLine) : Option GLine :=
Option.bind (α := Int × Int × Bool) (Option.bind (α := Bool) (bif decide (a0.short < 0) then (some (decide (a0.short < (w (0 - a0.shrink))))) else (some false)) fun (v4 : Bool) =>
bif v4 then (some (10000, 0, true)) else (bif decide (a0.short < 0) then (bindD a0.shrink ((F107 k (w (Int.tdiv (w (100 * (w (0 - a0.short)))) a0.shrink))).bind fun r10 =>
bif decide ((w (Int.tdiv (w (100 * (w (0 - a0.short)))) a0.shrink)) > 50) then (some (r10, 0, a0.over_)) else (some (r10, 1, a0.over_)))) else (Option.bind (α := Bool) (bif a0.short == 0 then (some true) else (some a0.end_)) fun (v5 : Bool) =>
bif v5 then (some (0, 1, a0.over_)) else (bif a0.stretch == 0 then (some (10000, 3, a0.over_)) else (Option.bind (α := Int) (bif decide (a0.short < (w (10 * a0.stretch))) then (bindD a0.stretch (some (w (Int.tdiv (w (100 * a0.short)) a0.stretch)))) else (some 1000)) fun (v6 : Int) =>
(F107 k v6).bind fun r24 =>
Option.bind (α := Int) (bif decide (v6 ≤ 100) then (some 2) else (some 3)) fun (v7 : Int) =>
bif decide (v6 ≤ 50) then (some (r24, 1, a0.over_)) else (some (r24, v7, a0.over_))))))) fun (v1, v2, v3) =>
some (GLine.mk a0.first a0.last a0.break_ a0.natural a0.stretch a0.shrink a0.short v1 v2 v3 a0.hyphen a0.end_ a0.height a0.depth)
theorem L97 (k : Nat) (a0 : GLine) (r : GLine) (hF : F97 k a0 = some r) : PF Try.prog orc 97 [.agg (cGLine a0)] [] [] (fun p fr tk => p = .agg (cGLine r) ∧ fr = [] ∧ tk = []) := by
  unfold F97 at hF
  refine PF.enterS Try.func97 rfl rfl rfl (by kernel_rfl) rfl ?_
  refine PC.region ?_
  refine PO.runK 2 [0, 1] [] (es := [(1, .ptr 0 0), (2, .ptr 1 0)]) (fr' := [⟨0, (cGLine a0)⟩, ⟨0, [.val (.int .i64 0), .val (.int .i64 0), .val (.int .i64 0), .val (.int .i64 0), .val (.int .i64 0), .val (.int .i64 0), .val (.int .i64 0), .val (.int .i64 0), .val (.int .i64 0), .val (.bool false), .val (.bool false), .val (.bool false), .val (.int .i64 0), .val (.int .i64 0)]⟩]) (tk' := []) (by kernel_rfl) ?_
  refine PO.nil ?_
  obtain ⟨x1, e2, hF⟩ := bind_some hF
  refine PC.blockJ (fun s => ∃ (v1 : Int) (v2 : Int) (v3 : Bool), Weak s (PS.of 77 [(1, .ptr 0 0), (2, .ptr 1 0)] [⟨0, [.val (.int .i64 a0.first), .val (.int .i64 a0.last), .val (.int .i64 a0.break_), .val (.int .i64 a0.natural), .val (.int .i64 a0.stretch), .val (.int .i64 a0.shrink), .val (.int .i64 a0.short), .val (.int .i64 v1), .val (.int .i64 v2), .val (.bool v3), .val (.bool a0.hyphen), .val (.bool a0.end_), .val (.int .i64 a0.height), .val (.int .i64 a0.depth)]⟩, ⟨0, [.val (.int .i64 0), .val (.int .i64 0), .val (.int .i64 0), .val (.int .i64 0), .val (.int .i64 0), .val (.int .i64 0), .val (.int .i64 0), .val (.int .i64 0), .val (.int .i64 0), .val (.bool false), .val (.bool false), .val (.bool false), .val (.int .i64 0), .val (.int .i64 0)]⟩] [] 0 0) ∧ (v1, v2, v3) = x1) ?_ ?_
  · refine PC.region ?_
    refine PO.run 4 rfl ?_
    obtain ⟨x3, e4, e2⟩ := bind_some e2
    refine PO.cut 7 (fun s => ∃ (v4 : Bool), Weak s (PS.of 77 [(1, .ptr 0 0), (2, .ptr 1 0), (38, .val (.bool v4))] [⟨0, (cGLine a0)⟩, ⟨0, [.val (.int .i64 0), .val (.int .i64 0), .val (.int .i64 0), .val (.int .i64 0), .val (.int .i64 0), .val (.int .i64 0), .val (.int .i64 0), .val (.int .i64 0), .val (.int .i64 0), .val (.bool false), .val (.bool false), .val (.bool false), .val (.int .i64 0), .val (.int .i64 0)]⟩] [] 0 0) ∧ v4 = x3) ?_ ?_
    · refine PO.case (t := 31) rfl rfl (fun h5 => ?_) (fun h5 => ?_)
      · have e4 := bif_t h5 e4
        refine PO.run 6 rfl ?_
        refine PO.same rfl (pickT_ok rfl rfl rfl) rfl ?_
        refine PO.nil ?_
        obtain rfl := Option.some.inj e4
        exact ⟨decide (a0.short < (w (0 - a0.shrink))), Weak.one [0, 1] [] (by kernel_rfl), rfl⟩
      · have e4 := bif_f h5 e4
        refine PO.run 6 rfl ?_
        refine PO.same rfl (pickF_ok rfl rfl rfl) rfl ?_
        refine PO.nil ?_
        obtain rfl := Option.some.inj e4
        exact ⟨false, Weak.one [0, 1] [] (by kernel_rfl), rfl⟩
    · rintro _ ⟨v4, w6, rfl⟩
      refine PO.weak w6 ?_
      refine PO.run 1 rfl ?_
      refine PO.nil ?_
      refine PC.lone ?_
      refine PC.cond rfl (fun h7 => ?_) (fun h7 => ?_)
      · have e2 := bif_t h7 e2
        refine PC.assoc ?_
        refine PC.region ?_
        refine PO.runK 2 [0, 1] [] (es := [(1, .ptr 0 0), (2, .ptr 1 0)]) (fr' := [⟨0, [.val (.int .i64 a0.first), .val (.int .i64 a0.last), .val (.int .i64 a0.break_), .val (.int .i64 a0.natural), .val (.int .i64 a0.stretch), .val (.int .i64 a0.shrink), .val (.int .i64 a0.short), .val (.int .i64 a0.bad), .val (.int .i64 a0.class_), .val (.bool true), .val (.bool a0.hyphen), .val (.bool a0.end_), .val (.int .i64 a0.height), .val (.int .i64 a0.depth)]⟩, ⟨0, [.val (.int .i64 0), .val (.int .i64 0), .val (.int .i64 0), .val (.int .i64 0), .val (.int .i64 0), .val (.int .i64 0), .val (.int .i64 0), .val (.int .i64 0), .val (.int .i64 0), .val (.bool false), .val (.bool false), .val (.bool false), .val (.int .i64 0), .val (.int .i64 0)]⟩]) (tk' := []) (by kernel_rfl) ?_
        refine PO.nil ?_
        refine PC.assoc ?_
        refine PC.region ?_
        refine PO.runK 2 [0, 1] [] (es := [(1, .ptr 0 0), (2, .ptr 1 0)]) (fr' := [⟨0, [.val (.int .i64 a0.first), .val (.int .i64 a0.last), .val (.int .i64 a0.break_), .val (.int .i64 a0.natural), .val (.int .i64 a0.stretch), .val (.int .i64 a0.shrink), .val (.int .i64 a0.short), .val (.int .i64 10000), .val (.int .i64 a0.class_), .val (.bool true), .val (.bool a0.hyphen), .val (.bool a0.end_), .val (.int .i64 a0.height), .val (.int .i64 a0.depth)]⟩, ⟨0, [.val (.int .i64 0), .val (.int .i64 0), .val (.int .i64 0), .val (.int .i64 0), .val (.int .i64 0), .val (.int .i64 0), .val (.int .i64 0), .val (.int .i64 0), .val (.int .i64 0), .val (.bool false), .val (.bool false), .val (.bool false), .val (.int .i64 0), .val (.int .i64 0)]⟩]) (tk' := []) (by kernel_rfl) ?_
        refine PO.nil ?_
        refine PC.region ?_
        refine PO.runK 2 [0, 1] [] (es := [(1, .ptr 0 0), (2, .ptr 1 0)]) (fr' := [⟨0, [.val (.int .i64 a0.first), .val (.int .i64 a0.last), .val (.int .i64 a0.break_), .val (.int .i64 a0.natural), .val (.int .i64 a0.stretch), .val (.int .i64 a0.shrink), .val (.int .i64 a0.short), .val (.int .i64 10000), .val (.int .i64 0), .val (.bool true), .val (.bool a0.hyphen), .val (.bool a0.end_), .val (.int .i64 a0.height), .val (.int .i64 a0.depth)]⟩, ⟨0, [.val (.int .i64 0), .val (.int .i64 0), .val (.int .i64 0), .val (.int .i64 0), .val (.int .i64 0), .val (.int .i64 0), .val (.int .i64 0), .val (.int .i64 0), .val (.int .i64 0), .val (.bool false), .val (.bool false), .val (.bool false), .val (.int .i64 0), .val (.int .i64 0)]⟩]) (tk' := []) (by kernel_rfl) ?_
        refine PO.nil ?_
        obtain rfl := Option.some.inj e2
        exact PC.skip (blockJK.end ⟨10000, 0, true, Weak.one [0, 1] [] (by kernel_rfl), rfl⟩)
      · have e2 := bif_f h7 e2
        refine PC.assoc ?_
        refine PC.run (n := 5) rfl ?_
        refine PC.cond rfl (fun h8 => ?_) (fun h8 => ?_)
        · have e2 := bif_t h8 e2
          refine PC.assoc ?_
          refine PC.region ?_
          refine PO.run 6 rfl ?_
          obtain ⟨h9, e2⟩ := bindD_some e2
          refine PO.same rfl (quo_ok rfl rfl h9) rfl ?_
          refine PO.run 1 rfl ?_
          refine PO.nil ?_
          refine PC.assoc ?_
          refine PC.region ?_
          refine PO.run 1 rfl ?_
          obtain ⟨r10, e11, e2⟩ := bind_some e2
          refine PO.call rfl rfl rfl rfl (ks := []) (ts := []) (fr1 := []) rfl rfl rfl trivial (L107 k (w (Int.tdiv (w (100 * (w (0 - a0.short)))) a0.shrink)) _ e11) ?_
          rintro _ _ _ ⟨rfl, rfl, rfl⟩
          refine ⟨_, _, rfl, rfl, ?_⟩
          refine PO.runK 2 [0, 1] [] (es := [(1, .ptr 0 0), (2, .ptr 1 0), (3, .val (.int .i64 (w (Int.tdiv (w (100 * (w (0 - a0.short)))) a0.shrink))))]) (fr' := [⟨0, [.val (.int .i64 a0.first), .val (.int .i64 a0.last), .val (.int .i64 a0.break_), .val (.int .i64 a0.natural), .val (.int .i64 a0.stretch), .val (.int .i64 a0.shrink), .val (.int .i64 a0.short), .val (.int .i64 r10), .val (.int .i64 a0.class_), .val (.bool a0.over_), .val (.bool a0.hyphen), .val (.bool a0.end_), .val (.int .i64 a0.height), .val (.int .i64 a0.depth)]⟩, ⟨0, [.val (.int .i64 0), .val (.int .i64 0), .val (.int .i64 0), .val (.int .i64 0), .val (.int .i64 0), .val (.int .i64 0), .val (.int .i64 0), .val (.int .i64 0), .val (.int .i64 0), .val (.bool false), .val (.bool false), .val (.bool false), .val (.int .i64 0), .val (.int .i64 0)]⟩]) (tk' := []) (by kernel_rfl) ?_
          refine PO.nil ?_
          refine PC.assoc ?_
          refine PC.region ?_
          refine PO.runK 2 [0, 1] [] (es := [(1, .ptr 0 0), (2, .ptr 1 0), (3, .val (.int .i64 (w (Int.tdiv (w (100 * (w (0 - a0.short)))) a0.shrink))))]) (fr' := [⟨0, [.val (.int .i64 a0.first), .val (.int .i64 a0.last), .val (.int .i64 a0.break_), .val (.int .i64 a0.natural), .val (.int .i64 a0.stretch), .val (.int .i64 a0.shrink), .val (.int .i64 a0.short), .val (.int .i64 r10), .val (.int .i64 1), .val (.bool a0.over_), .val (.bool a0.hyphen), .val (.bool a0.end_), .val (.int .i64 a0.height), .val (.int .i64 a0.depth)]⟩, ⟨0, [.val (.int .i64 0), .val (.int .i64 0), .val (.int .i64 0), .val (.int .i64 0), .val (.int .i64 0), .val (.int .i64 0), .val (.int .i64 0), .val (.int .i64 0), .val (.int .i64 0), .val (.bool false), .val (.bool false), .val (.bool false), .val (.int .i64 0), .val (.int .i64 0)]⟩]) (tk' := []) (by kernel_rfl) ?_
          refine PO.nil ?_
          refine PC.assoc ?_
          refine PC.run (n := 3) rfl ?_
          refine PC.cond rfl (fun h12 => ?_) (fun h12 => ?_)
          · have e2 := bif_t h12 e2
            refine PC.region ?_
            refine PO.runK 2 [0, 1] [] (es := [(1, .ptr 0 0), (2, .ptr 1 0)]) (fr' := [⟨0, [.val (.int .i64 a0.first), .val (.int .i64 a0.last), .val (.int .i64 a0.break_), .val (.int .i64 a0.natural), .val (.int .i64 a0.stretch), .val (.int .i64 a0.shrink), .val (.int .i64 a0.short), .val (.int .i64 r10), .val (.int .i64 0), .val (.bool a0.over_), .val (.bool a0.hyphen), .val (.bool a0.end_), .val (.int .i64 a0.height), .val (.int .i64 a0.depth)]⟩, ⟨0, [.val (.int .i64 0), .val (.int .i64 0), .val (.int .i64 0), .val (.int .i64 0), .val (.int .i64 0), .val (.int .i64 0), .val (.int .i64 0), .val (.int .i64 0), .val (.int .i64 0), .val (.bool false), .val (.bool false), .val (.bool false), .val (.int .i64 0), .val (.int .i64 0)]⟩]) (tk' := []) (by kernel_rfl) ?_
            refine PO.nil ?_
            obtain rfl := Option.some.inj e2
            exact PC.skip (blockJK.end ⟨r10, 0, a0.over_, Weak.one [0, 1] [] (by kernel_rfl), rfl⟩)
          · have e2 := bif_f h12 e2
            refine PC.noop ?_
            obtain rfl := Option.some.inj e2
            exact PC.skip (blockJK.end ⟨r10, 1, a0.over_, Weak.one [0, 1] [] (by kernel_rfl), rfl⟩)
        · have e2 := bif_f h8 e2
          refine PC.assoc ?_
          refine PC.region ?_
          refine PO.run 4 rfl ?_
          obtain ⟨x13, e14, e2⟩ := bind_some e2
          refine PO.cut 3 (fun s => ∃ (v5 : Bool), Weak s (PS.of 77 [(1, .ptr 0 0), (2, .ptr 1 0), (67, .val (.bool v5))] [⟨0, (cGLine a0)⟩, ⟨0, [.val (.int .i64 0), .val (.int .i64 0), .val (.int .i64 0), .val (.int .i64 0), .val (.int .i64 0), .val (.int .i64 0), .val (.int .i64 0), .val (.int .i64 0), .val (.int .i64 0), .val (.bool false), .val (.bool false), .val (.bool false), .val (.int .i64 0), .val (.int .i64 0)]⟩] [] 0 0) ∧ v5 = x13) ?_ ?_
          · refine PO.case (t := 64) rfl rfl (fun h15 => ?_) (fun h15 => ?_)
            · have e14 := bif_t h15 e14
              refine PO.run 2 rfl ?_
              refine PO.same rfl (pickT_ok rfl rfl rfl) rfl ?_
              refine PO.nil ?_
              obtain rfl := Option.some.inj e14
              exact ⟨true, Weak.one [0, 1] [] (by kernel_rfl), rfl⟩
            · have e14 := bif_f h15 e14
              refine PO.run 2 rfl ?_
              refine PO.same rfl (pickF_ok rfl rfl rfl) rfl ?_
              refine PO.nil ?_
              obtain rfl := Option.some.inj e14
              exact ⟨a0.end_, Weak.one [0, 1] [] (by kernel_rfl), rfl⟩
          · rintro _ ⟨v5, w16, rfl⟩
            refine PO.weak w16 ?_
            refine PO.run 1 rfl ?_
            refine PO.nil ?_
            refine PC.cond rfl (fun h17 => ?_) (fun h17 => ?_)
            · have e2 := bif_t h17 e2
              refine PC.assoc ?_
              refine PC.region ?_
              refine PO.runK 2 [0, 1] [] (es := [(1, .ptr 0 0), (2, .ptr 1 0)]) (fr' := [⟨0, [.val (.int .i64 a0.first), .val (.int .i64 a0.last), .val (.int .i64 a0.break_), .val (.int .i64 a0.natural), .val (.int .i64 a0.stretch), .val (.int .i64 a0.shrink), .val (.int .i64 a0.short), .val (.int .i64 0), .val (.int .i64 a0.class_), .val (.bool a0.over_), .val (.bool a0.hyphen), .val (.bool a0.end_), .val (.int .i64 a0.height), .val (.int .i64 a0.depth)]⟩, ⟨0, [.val (.int .i64 0), .val (.int .i64 0), .val (.int .i64 0), .val (.int .i64 0), .val (.int .i64 0), .val (.int .i64 0), .val (.int .i64 0), .val (.int .i64 0), .val (.int .i64 0), .val (.bool false), .val (.bool false), .val (.bool false), .val (.int .i64 0), .val (.int .i64 0)]⟩]) (tk' := []) (by kernel_rfl) ?_
              refine PO.nil ?_
              refine PC.region ?_
              refine PO.runK 2 [0, 1] [] (es := [(1, .ptr 0 0), (2, .ptr 1 0)]) (fr' := [⟨0, [.val (.int .i64 a0.first), .val (.int .i64 a0.last), .val (.int .i64 a0.break_), .val (.int .i64 a0.natural), .val (.int .i64 a0.stretch), .val (.int .i64 a0.shrink), .val (.int .i64 a0.short), .val (.int .i64 0), .val (.int .i64 1), .val (.bool a0.over_), .val (.bool a0.hyphen), .val (.bool a0.end_), .val (.int .i64 a0.height), .val (.int .i64 a0.depth)]⟩, ⟨0, [.val (.int .i64 0), .val (.int .i64 0), .val (.int .i64 0), .val (.int .i64 0), .val (.int .i64 0), .val (.int .i64 0), .val (.int .i64 0), .val (.int .i64 0), .val (.int .i64 0), .val (.bool false), .val (.bool false), .val (.bool false), .val (.int .i64 0), .val (.int .i64 0)]⟩]) (tk' := []) (by kernel_rfl) ?_
              refine PO.nil ?_
              obtain rfl := Option.some.inj e2
              exact PC.skip (blockJK.end ⟨0, 1, a0.over_, Weak.one [0, 1] [] (by kernel_rfl), rfl⟩)
            · have e2 := bif_f h17 e2
              refine PC.assoc ?_
              refine PC.run (n := 5) rfl ?_
              refine PC.cond rfl (fun h18 => ?_) (fun h18 => ?_)
              · have e2 := bif_t h18 e2
                refine PC.assoc ?_
                refine PC.region ?_
                refine PO.runK 2 [0, 1] [] (es := [(1, .ptr 0 0), (2, .ptr 1 0)]) (fr' := [⟨0, [.val (.int .i64 a0.first), .val (.int .i64 a0.last), .val (.int .i64 a0.break_), .val (.int .i64 a0.natural), .val (.int .i64 a0.stretch), .val (.int .i64 a0.shrink), .val (.int .i64 a0.short), .val (.int .i64 10000), .val (.int .i64 a0.class_), .val (.bool a0.over_), .val (.bool a0.hyphen), .val (.bool a0.end_), .val (.int .i64 a0.height), .val (.int .i64 a0.depth)]⟩, ⟨0, [.val (.int .i64 0), .val (.int .i64 0), .val (.int .i64 0), .val (.int .i64 0), .val (.int .i64 0), .val (.int .i64 0), .val (.int .i64 0), .val (.int .i64 0), .val (.int .i64 0), .val (.bool false), .val (.bool false), .val (.bool false), .val (.int .i64 0), .val (.int .i64 0)]⟩]) (tk' := []) (by kernel_rfl) ?_
                refine PO.nil ?_
                refine PC.region ?_
                refine PO.runK 2 [0, 1] [] (es := [(1, .ptr 0 0), (2, .ptr 1 0)]) (fr' := [⟨0, [.val (.int .i64 a0.first), .val (.int .i64 a0.last), .val (.int .i64 a0.break_), .val (.int .i64 a0.natural), .val (.int .i64 a0.stretch), .val (.int .i64 a0.shrink), .val (.int .i64 a0.short), .val (.int .i64 10000), .val (.int .i64 3), .val (.bool a0.over_), .val (.bool a0.hyphen), .val (.bool a0.end_), .val (.int .i64 a0.height), .val (.int .i64 a0.depth)]⟩, ⟨0, [.val (.int .i64 0), .val (.int .i64 0), .val (.int .i64 0), .val (.int .i64 0), .val (.int .i64 0), .val (.int .i64 0), .val (.int .i64 0), .val (.int .i64 0), .val (.int .i64 0), .val (.bool false), .val (.bool false), .val (.bool false), .val (.int .i64 0), .val (.int .i64 0)]⟩]) (tk' := []) (by kernel_rfl) ?_
                refine PO.nil ?_
                obtain rfl := Option.some.inj e2
                exact PC.skip (blockJK.end ⟨10000, 3, a0.over_, Weak.one [0, 1] [] (by kernel_rfl), rfl⟩)
              · have e2 := bif_f h18 e2
                refine PC.assoc ?_
                refine PC.run (n := 2) rfl ?_
                refine PC.assoc ?_
                refine PC.assoc ?_
                refine PC.run (n := 7) rfl ?_
                obtain ⟨x19, e20, e2⟩ := bind_some e2
                refine PC.join (fun s => ∃ (v6 : Int), Weak s (PS.of 77 [(1, .ptr 0 0), (2, .ptr 1 0), (4, .val (.int .i64 v6))] [⟨0, (cGLine a0)⟩, ⟨0, [.val (.int .i64 0), .val (.int .i64 0), .val (.int .i64 0), .val (.int .i64 0), .val (.int .i64 0), .val (.int .i64 0), .val (.int .i64 0), .val (.int .i64 0), .val (.int .i64 0), .val (.bool false), .val (.bool false), .val (.bool false), .val (.int .i64 0), .val (.int .i64 0)]⟩] [] 0 0) ∧ v6 = x19) ?_ ?_
                · refine PC.cond rfl (fun h21 => ?_) (fun h21 => ?_)
                  · have e20 := bif_t h21 e20
                    refine PC.region ?_
                    refine PO.run 5 rfl ?_
                    obtain ⟨h22, e20⟩ := bindD_some e20
                    refine PO.same rfl (quo_ok rfl rfl h22) rfl ?_
                    refine PO.run 1 rfl ?_
                    refine PO.nil ?_
                    obtain rfl := Option.some.inj e20
                    exact PC.skip (joinKP.end ⟨w (Int.tdiv (w (100 * a0.short)) a0.stretch), Weak.one [0, 1] [] (by kernel_rfl), rfl⟩)
                  · have e20 := bif_f h21 e20
                    refine PC.noop ?_
                    obtain rfl := Option.some.inj e20
                    exact PC.skip (joinKP.end ⟨1000, Weak.one [0, 1] [] (by kernel_rfl), rfl⟩)
                · rintro _ ⟨v6, w23, rfl⟩
                  refine PC.weak w23 ?_
                  refine PC.assoc ?_
                  refine PC.region ?_
                  refine PO.run 1 rfl ?_
                  obtain ⟨r24, e25, e2⟩ := bind_some e2
                  refine PO.call rfl rfl rfl rfl (ks := []) (ts := []) (fr1 := []) rfl rfl rfl trivial (L107 k v6 _ e25) ?_
                  rintro _ _ _ ⟨rfl, rfl, rfl⟩
                  refine ⟨_, _, rfl, rfl, ?_⟩
                  refine PO.runK 2 [0, 1] [] (es := [(1, .ptr 0 0), (2, .ptr 1 0), (4, .val (.int .i64 v6))]) (fr' := [⟨0, [.val (.int .i64 a0.first), .val (.int .i64 a0.last), .val (.int .i64 a0.break_), .val (.int .i64 a0.natural), .val (.int .i64 a0.stretch), .val (.int .i64 a0.shrink), .val (.int .i64 a0.short), .val (.int .i64 r24), .val (.int .i64 a0.class_), .val (.bool a0.over_), .val (.bool a0.hyphen), .val (.bool a0.end_), .val (.int .i64 a0.height), .val (.int .i64 a0.depth)]⟩, ⟨0, [.val (.int .i64 0), .val (.int .i64 0), .val (.int .i64 0), .val (.int .i64 0), .val (.int .i64 0), .val (.int .i64 0), .val (.int .i64 0), .val (.int .i64 0), .val (.int .i64 0), .val (.bool false), .val (.bool false), .val (.bool false), .val (.int .i64 0), .val (.int .i64 0)]⟩]) (tk' := []) (by kernel_rfl) ?_
                  refine PO.nil ?_
                  refine PC.assoc ?_
                  refine PC.region ?_
                  refine PO.runK 2 [0, 1] [] (es := [(1, .ptr 0 0), (2, .ptr 1 0), (4, .val (.int .i64 v6))]) (fr' := [⟨0, [.val (.int .i64 a0.first), .val (.int .i64 a0.last), .val (.int .i64 a0.break_), .val (.int .i64 a0.natural), .val (.int .i64 a0.stretch), .val (.int .i64 a0.shrink), .val (.int .i64 a0.short), .val (.int .i64 r24), .val (.int .i64 3), .val (.bool a0.over_), .val (.bool a0.hyphen), .val (.bool a0.end_), .val (.int .i64 a0.height), .val (.int .i64 a0.depth)]⟩, ⟨0, [.val (.int .i64 0), .val (.int .i64 0), .val (.int .i64 0), .val (.int .i64 0), .val (.int .i64 0), .val (.int .i64 0), .val (.int .i64 0), .val (.int .i64 0), .val (.int .i64 0), .val (.bool false), .val (.bool false), .val (.bool false), .val (.int .i64 0), .val (.int .i64 0)]⟩]) (tk' := []) (by kernel_rfl) ?_
                  refine PO.nil ?_
                  refine PC.assoc ?_
                  refine PC.assoc ?_
                  refine PC.run (n := 3) rfl ?_
                  obtain ⟨x26, e27, e2⟩ := bind_some e2
                  refine PC.join (fun s => ∃ (v7 : Int), Weak s (PS.of 77 [(1, .ptr 0 0), (2, .ptr 1 0), (4, .val (.int .i64 v6))] [⟨0, [.val (.int .i64 a0.first), .val (.int .i64 a0.last), .val (.int .i64 a0.break_), .val (.int .i64 a0.natural), .val (.int .i64 a0.stretch), .val (.int .i64 a0.shrink), .val (.int .i64 a0.short), .val (.int .i64 r24), .val (.int .i64 v7), .val (.bool a0.over_), .val (.bool a0.hyphen), .val (.bool a0.end_), .val (.int .i64 a0.height), .val (.int .i64 a0.depth)]⟩, ⟨0, [.val (.int .i64 0), .val (.int .i64 0), .val (.int .i64 0), .val (.int .i64 0), .val (.int .i64 0), .val (.int .i64 0), .val (.int .i64 0), .val (.int .i64 0), .val (.int .i64 0), .val (.bool false), .val (.bool false), .val (.bool false), .val (.int .i64 0), .val (.int .i64 0)]⟩] [] 0 0) ∧ v7 = x26) ?_ ?_
                  · refine PC.cond rfl (fun h28 => ?_) (fun h28 => ?_)
                    · have e27 := bif_t h28 e27
                      refine PC.region ?_
                      refine PO.runK 2 [0, 1] [] (es := [(1, .ptr 0 0), (2, .ptr 1 0), (4, .val (.int .i64 v6))]) (fr' := [⟨0, [.val (.int .i64 a0.first), .val (.int .i64 a0.last), .val (.int .i64 a0.break_), .val (.int .i64 a0.natural), .val (.int .i64 a0.stretch), .val (.int .i64 a0.shrink), .val (.int .i64 a0.short), .val (.int .i64 r24), .val (.int .i64 2), .val (.bool a0.over_), .val (.bool a0.hyphen), .val (.bool a0.end_), .val (.int .i64 a0.height), .val (.int .i64 a0.depth)]⟩, ⟨0, [.val (.int .i64 0), .val (.int .i64 0), .val (.int .i64 0), .val (.int .i64 0), .val (.int .i64 0), .val (.int .i64 0), .val (.int .i64 0), .val (.int .i64 0), .val (.int .i64 0), .val (.bool false), .val (.bool false), .val (.bool false), .val (.int .i64 0), .val (.int .i64 0)]⟩]) (tk' := []) (by kernel_rfl) ?_
                      refine PO.nil ?_
                      obtain rfl := Option.some.inj e27
                      exact PC.skip (joinKP.end ⟨2, Weak.one [0, 1] [] (by kernel_rfl), rfl⟩)
                    · have e27 := bif_f h28 e27
                      refine PC.noop ?_
                      obtain rfl := Option.some.inj e27
                      exact PC.skip (joinKP.end ⟨3, Weak.one [0, 1] [] (by kernel_rfl), rfl⟩)
                  · rintro _ ⟨v7, w29, rfl⟩
                    refine PC.weak w29 ?_
                    refine PC.assoc ?_
                    refine PC.run (n := 3) rfl ?_
                    refine PC.cond rfl (fun h30 => ?_) (fun h30 => ?_)
                    · have e2 := bif_t h30 e2
                      refine PC.region ?_
                      refine PO.runK 2 [0, 1] [] (es := [(1, .ptr 0 0), (2, .ptr 1 0)]) (fr' := [⟨0, [.val (.int .i64 a0.first), .val (.int .i64 a0.last), .val (.int .i64 a0.break_), .val (.int .i64 a0.natural), .val (.int .i64 a0.stretch), .val (.int .i64 a0.shrink), .val (.int .i64 a0.short), .val (.int .i64 r24), .val (.int .i64 1), .val (.bool a0.over_), .val (.bool a0.hyphen), .val (.bool a0.end_), .val (.int .i64 a0.height), .val (.int .i64 a0.depth)]⟩, ⟨0, [.val (.int .i64 0), .val (.int .i64 0), .val (.int .i64 0), .val (.int .i64 0), .val (.int .i64 0), .val (.int .i64 0), .val (.int .i64 0), .val (.int .i64 0), .val (.int .i64 0), .val (.bool false), .val (.bool false), .val (.bool false), .val (.int .i64 0), .val (.int .i64 0)]⟩]) (tk' := []) (by kernel_rfl) ?_
                      refine PO.nil ?_
                      obtain rfl := Option.some.inj e2
                      exact PC.skip (blockJK.end ⟨r24, 1, a0.over_, Weak.one [0, 1] [] (by kernel_rfl), rfl⟩)
                    · have e2 := bif_f h30 e2
                      refine PC.noop ?_
                      obtain rfl := Option.some.inj e2
                      exact PC.skip (blockJK.end ⟨r24, v7, a0.over_, Weak.one [0, 1] [] (by kernel_rfl), rfl⟩)
  · rintro _ ⟨v1, v2, v3, w31, rfl⟩
    refine PC.weak w31 ?_
    refine PC.region ?_
    refine PO.runK 2 [1] [] (es := [(2, .ptr 0 0)]) (fr' := [⟨0, [.val (.int .i64 a0.first), .val (.int .i64 a0.last), .val (.int .i64 a0.break_), .val (.int .i64 a0.natural), .val (.int .i64 a0.stretch), .val (.int .i64 a0.shrink), .val (.int .i64 a0.short), .val (.int .i64 v1), .val (.int .i64 v2), .val (.bool v3), .val (.bool a0.hyphen), .val (.bool a0.end_), .val (.int .i64 a0.height), .val (.int .i64 a0.depth)]⟩]) (tk' := []) (by kernel_rfl) ?_
    refine PO.nil ?_
    obtain rfl := Option.some.inj hF
    exact PC.ret' (retSK [] [] (by kernel_rfl) (.refl _) ⟨rfl, rfl, rfl⟩)

/-! 74 platen/platenref14.Measure -/
def F74_l1 (k : Nat) (a0 : List GItem) (a3 : Int) : Nat → Int → Option Int
  | 0, _ => none
  | j3 + 1, v3 =>
    Option.bind (α := Bool) (bif decide (v3 < a3) then (bindI a0 v3 fun y6 =>
    some (y6.kind != 1)) else (some false)) fun (v5 : Bool) =>
    bif v5 then (F74_l1 k a0 a3 j3 (w (v3 + 1))) else (some v3)
def F74_l2 (k : Nat) (a0 : List GItem) (v1 : Int) : Nat → Int → Option Int
  | 0, _ => none
  | j15 + 1, v9 =>
    Option.bind (α := Bool) (bif decide (v9 > v1) then (bindI a0 (w (v9 - 1)) fun y12 =>
    some (y12.kind != 1)) else (some false)) fun (v11 : Bool) =>
    bif v11 then (F74_l2 k a0 v1 j15 (w (v9 - 1))) else (some v9)
def F74_l3 (k : Nat) (a0 : List GItem) (v7 : Int) : Nat → Int → Int → Int → Int → Int → Int → Option (Int × Int × Int × Int × Int)
  | 0, _, _, _, _, _, _ => none
  | j27 + 1, v24, v25, v26, v27, v28, v29 =>
    bif decide (v24 < v7) then (bindI a0 v24 fun y36 =>
    Option.bind (α := Int × Int × Int × Int × Int) (bif y36.kind == 1 then (Option.bind (α := Int) (bif decide (y36.height > v28) then (some y36.height) else (some v28)) fun (v42 : Int) =>
    bif decide (y36.depth > v29) then (some (w (v25 + y36.width), v26, v27, v42, y36.depth)) else (some (w (v25 + y36.width), v26, v27, v42, v29))) else (bif y36.kind == 2 then (some (w (v25 + y36.width), v26, v27, v28, v29)) else (bif y36.kind == 3 then (some (w (v25 + y36.width), w (v26 + y36.stretch), w (v27 + y36.shrink), v28, v29)) else (some (v25, v26, v27, v28, v29))))) fun (v37, v38, v39, v40, v41) =>
    F74_l3 k a0 v7 j27 (w (v24 + 1)) v37 v38 v39 v40 v41) else (some (v25, v26, v27, v28, v29))
def F74 (k : Nat) (a0 : List GItem) (a1 : Int) (a2 : Int) (a3 : Int) : Option GLine :=
Option.bind (α := Int) (F74_l1 k a0 a3 k (w (a2 + 1))) fun (v1 : Int) =>
Option.bind (α := Int) (F74_l2 k a0 v1 k a3) fun (v7 : Int) =>
Option.bind (α := Int × Int × Int × Int × Int) (F74_l3 k a0 v7 k v1 0 0 0 0 0) fun (v13, v14, v15, v16, v17) =>
bindI a0 a3 fun y43 =>
Option.bind (α := Int × Bool × Bool × Int × Int) (bif y43.kind == 4 then (Option.bind (α := Bool) (bif y43.flag then (some (decide (y43.height > v16))) else (some false)) fun (v49 : Bool) =>
Option.bind (α := Int) (bif v49 then (some y43.height) else (some v16)) fun (v50 : Int) =>
Option.bind (α := Bool) (bif y43.flag then (some (decide (y43.depth > v17))) else (some false)) fun (v51 : Bool) =>
bif v51 then (some (w (v13 + y43.width), y43.flag, y43.value == (-10000), v50, y43.depth)) else (some (w (v13 + y43.width), y43.flag, y43.value == (-10000), v50, v17))) else (some (v13, false, false, v16, v17))) fun (v44, v45, v46, v47, v48) =>
(F97 k (GLine.mk v1 v7 a3 v44 v14 v15 (w (a1 - v44)) 0 0 false v45 v46 v47 v48)).bind fun r63 =>
some r63
theorem L74 (k : Nat) (a0 : List GItem) (a1 : Int) (a2 : Int) (a3 : Int) (r : GLine) (hF : F74 k a0 a1 a2 a3 = some r) : PF Try.prog orc 74 [.list 13 (List.map cGItem a0) none, .val (.int .i64 a1), .val (.int .i64 a2), .val (.int .i64 a3)] [] [] (fun p fr tk => p = .agg (cGLine r) ∧ fr = [] ∧ tk = []) := by
  unfold F74 at hF
  refine PF.enterS Try.func74 rfl rfl rfl (by kernel_rfl) rfl ?_
  refine PC.region ?_
  refine PO.runK 1 [0] [] (es := [(0, .list 13 (List.map cGItem a0) none), (1, .val (.int .i64 a1)), (2, .val (.int .i64 a2)), (3, .val (.int .i64 a3)), (8, .ptr 0 0)]) (fr' := [⟨0, [.val (.int .i64 0), .val (.int .i64 0), .val (.int .i64 0), .val (.int .i64 0), .val (.int .i64 0), .val (.int .i64 0), .val (.int .i64 0), .val (.int .i64 0), .val (.int .i64 0), .val (.bool false), .val (.bool false), .val (.bool false), .val (.int .i64 0), .val (.int .i64 0)]⟩]) (tk' := []) (by kernel_rfl) ?_
  refine PO.nil ?_
  refine PC.region ?_
  refine PO.runK 7 [0, 1] [] (es := [(0, .list 13 (List.map cGItem a0) none), (1, .val (.int .i64 a1)), (3, .val (.int .i64 a3)), (8, .ptr 0 0), (9, .ptr 1 0)]) (fr' := [⟨0, [.val (.int .i64 0), .val (.int .i64 0), .val (.int .i64 0), .val (.int .i64 0), .val (.int .i64 0), .val (.int .i64 0), .val (.int .i64 0), .val (.int .i64 0), .val (.int .i64 0), .val (.bool false), .val (.bool false), .val (.bool false), .val (.int .i64 0), .val (.int .i64 0)]⟩, ⟨0, [.val (.int .i64 (w (a2 + 1))), .val (.int .i64 a3), .val (.int .i64 a3), .val (.int .i64 0), .val (.int .i64 0), .val (.int .i64 0), .val (.int .i64 0), .val (.int .i64 0), .val (.int .i64 0), .val (.bool false), .val (.bool false), .val (.bool false), .val (.int .i64 0), .val (.int .i64 0)]⟩]) (tk' := []) (by kernel_rfl) ?_
  refine PO.nil ?_
  obtain ⟨x1, e2, hF⟩ := bind_some hF
  refine PC.blockJ (fun s => ∃ (v1 : Int), Weak s (PS.of 171 [(0, .list 13 (List.map cGItem a0) none), (1, .val (.int .i64 a1)), (3, .val (.int .i64 a3)), (8, .ptr 0 0), (9, .ptr 1 0)] [⟨0, [.val (.int .i64 0), .val (.int .i64 0), .val (.int .i64 0), .val (.int .i64 0), .val (.int .i64 0), .val (.int .i64 0), .val (.int .i64 0), .val (.int .i64 0), .val (.int .i64 0), .val (.bool false), .val (.bool false), .val (.bool false), .val (.int .i64 0), .val (.int .i64 0)]⟩, ⟨0, [.val (.int .i64 v1), .val (.int .i64 a3), .val (.int .i64 a3), .val (.int .i64 0), .val (.int .i64 0), .val (.int .i64 0), .val (.int .i64 0), .val (.int .i64 0), .val (.int .i64 0), .val (.bool false), .val (.bool false), .val (.bool false), .val (.int .i64 0), .val (.int .i64 0)]⟩] [] 0 0) ∧ v1 = x1) ?_ ?_
  · refine PC.loop (fun j3 s => ∃ (v3 : Int), Weak s (PS.of 171 [(0, .list 13 (List.map cGItem a0) none), (1, .val (.int .i64 a1)), (3, .val (.int .i64 a3)), (8, .ptr 0 0), (9, .ptr 1 0)] [⟨0, [.val (.int .i64 0), .val (.int .i64 0), .val (.int .i64 0), .val (.int .i64 0), .val (.int .i64 0), .val (.int .i64 0), .val (.int .i64 0), .val (.int .i64 0), .val (.int .i64 0), .val (.bool false), .val (.bool false), .val (.bool false), .val (.int .i64 0), .val (.int .i64 0)]⟩, ⟨0, [.val (.int .i64 v3), .val (.int .i64 a3), .val (.int .i64 a3), .val (.int .i64 0), .val (.int .i64 0), .val (.int .i64 0), .val (.int .i64 0), .val (.int .i64 0), .val (.int .i64 0), .val (.bool false), .val (.bool false), .val (.bool false), .val (.int .i64 0), .val (.int .i64 0)]⟩] [] 0 0) ∧ F74_l1 k a0 a3 j3 v3 = some x1) (fun j3 s => ?_) k ⟨w (a2 + 1), Weak.one [0, 1] [] (by kernel_rfl), e2⟩
    rintro ⟨v3, w4, e2⟩
    refine PC.weak w4 ?_
    cases j3 with
    | zero => rw [F74_l1] at e2; cases e2
    | succ j3 =>
      rw [F74_l1] at e2
      refine PC.assoc ?_
      refine PC.region ?_
      refine PO.run 5 rfl ?_
      obtain ⟨x5, e6, e2⟩ := bind_some e2
      refine PO.cut 8 (fun s => ∃ (v5 : Bool), Weak s (PS.of 171 [(0, .list 13 (List.map cGItem a0) none), (1, .val (.int .i64 a1)), (3, .val (.int .i64 a3)), (8, .ptr 0 0), (9, .ptr 1 0), (30, .val (.bool v5))] [⟨0, [.val (.int .i64 0), .val (.int .i64 0), .val (.int .i64 0), .val (.int .i64 0), .val (.int .i64 0), .val (.int .i64 0), .val (.int .i64 0), .val (.int .i64 0), .val (.int .i64 0), .val (.bool false), .val (.bool false), .val (.bool false), .val (.int .i64 0), .val (.int .i64 0)]⟩, ⟨0, [.val (.int .i64 v3), .val (.int .i64 a3), .val (.int .i64 a3), .val (.int .i64 0), .val (.int .i64 0), .val (.int .i64 0), .val (.int .i64 0), .val (.int .i64 0), .val (.int .i64 0), .val (.bool false), .val (.bool false), .val (.bool false), .val (.int .i64 0), .val (.int .i64 0)]⟩] [] 0 0) ∧ v5 = x5) ?_ ?_
      · refine PO.case (t := 22) rfl rfl (fun h7 => ?_) (fun h7 => ?_)
        · have e6 := bif_t h7 e6
          refine PO.run 3 rfl ?_
          obtain ⟨y6, h8, h9, e6⟩ := bindI_some e6
          refine PO.same rfl (indexAddr_ok Try.underlying42 rfl rfl rfl h8 (map_at h9)) rfl ?_
          refine PO.run 3 rfl ?_
          refine PO.same rfl (pickT_ok rfl rfl rfl) rfl ?_
          refine PO.nil ?_
          obtain rfl := Option.some.inj e6
          exact ⟨y6.kind != 1, Weak.one [0, 1] [] (by kernel_rfl), rfl⟩
        · have e6 := bif_f h7 e6
          refine PO.run 7 rfl ?_
          refine PO.same rfl (pickF_ok rfl rfl rfl) rfl ?_
          refine PO.nil ?_
          obtain rfl := Option.some.inj e6
          exact ⟨false, Weak.one [0, 1] [] (by kernel_rfl), rfl⟩
      · rintro _ ⟨v5, w10, rfl⟩
        refine PO.weak w10 ?_
        refine PO.nil ?_
        refine PC.cond rfl (fun h11 => ?_) (fun h11 => ?_)
        · have e2 := bif_t h11 e2
          refine PC.noop ?_
          refine PC.lone ?_
          refine PC.block ?_
          refine PC.lone ?_
          refine PC.region ?_
          refine PO.runK 5 [0, 1] [] (es := [(0, .list 13 (List.map cGItem a0) none), (1, .val (.int .i64 a1)), (3, .val (.int .i64 a3)), (8, .ptr 0 0), (9, .ptr 1 0)]) (fr' := [⟨0, [.val (.int .i64 0), .val (.int .i64 0), .val (.int .i64 0), .val (.int .i64 0), .val (.int .i64 0), .val (.int .i64 0), .val (.int .i64 0), .val (.int .i64 0), .val (.int .i64 0), .val (.bool false), .val (.bool false), .val (.bool false), .val (.int .i64 0), .val (.int .i64 0)]⟩, ⟨0, [.val (.int .i64 (w (v3 + 1))), .val (.int .i64 a3), .val (.int .i64 a3), .val (.int .i64 0), .val (.int .i64 0), .val (.int .i64 0), .val (.int .i64 0), .val (.int .i64 0), .val (.int .i64 0), .val (.bool false), .val (.bool false), .val (.bool false), .val (.int .i64 0), .val (.int .i64 0)]⟩]) (tk' := []) (by kernel_rfl) ?_
          refine PO.nil ?_
          refine PC.skip (blockKP.end ?_)
          exact PC.skip (loopKP.mk (Nat.lt_succ_self _) ⟨w (v3 + 1), Weak.one [0, 1] [] (by kernel_rfl), e2⟩)
        · have e2 := bif_f h11 e2
          obtain rfl := Option.some.inj e2
          exact PC.exit (loopKP.exit (blockJK.here ⟨v3, Weak.one [0, 1] [] (by kernel_rfl), rfl⟩))
  · rintro _ ⟨v1, w12, rfl⟩
    refine PC.weak w12 ?_
    obtain ⟨x13, e14, hF⟩ := bind_some hF
    refine PC.blockJ (fun s => ∃ (v7 : Int), Weak s (PS.of 171 [(0, .list 13 (List.map cGItem a0) none), (1, .val (.int .i64 a1)), (3, .val (.int .i64 a3)), (8, .ptr 0 0), (9, .ptr 1 0)] [⟨0, [.val (.int .i64 0), .val (.int .i64 0), .val (.int .i64 0), .val (.int .i64 0), .val (.int .i64 0), .val (.int .i64 0), .val (.int .i64 0), .val (.int .i64 0), .val (.int .i64 0), .val (.bool false), .val (.bool false), .val (.bool false), .val (.int .i64 0), .val (.int .i64 0)]⟩, ⟨0, [.val (.int .i64 v1), .val (.int .i64 v7), .val (.int .i64 a3), .val (.int .i64 0), .val (.int .i64 0), .val (.int .i64 0), .val (.int .i64 0), .val (.int .i64 0), .val (.int .i64 0), .val (.bool false), .val (.bool false), .val (.bool false), .val (.int .i64 0), .val (.int .i64 0)]⟩] [] 0 0) ∧ v7 = x13) ?_ ?_
    · refine PC.loop (fun j15 s => ∃ (v9 : Int), Weak s (PS.of 171 [(0, .list 13 (List.map cGItem a0) none), (1, .val (.int .i64 a1)), (3, .val (.int .i64 a3)), (8, .ptr 0 0), (9, .ptr 1 0)] [⟨0, [.val (.int .i64 0), .val (.int .i64 0), .val (.int .i64 0), .val (.int .i64 0), .val (.int .i64 0), .val (.int .i64 0), .val (.int .i64 0), .val (.int .i64 0), .val (.int .i64 0), .val (.bool false), .val (.bool false), .val (.bool false), .val (.int .i64 0), .val (.int .i64 0)]⟩, ⟨0, [.val (.int .i64 v1), .val (.int .i64 v9), .val (.int .i64 a3), .val (.int .i64 0), .val (.int .i64 0), .val (.int .i64 0), .val (.int .i64 0), .val (.int .i64 0), .val (.int .i64 0), .val (.bool false), .val (.bool false), .val (.bool false), .val (.int .i64 0), .val (.int .i64 0)]⟩] [] 0 0) ∧ F74_l2 k a0 v1 j15 v9 = some x13) (fun j15 s => ?_) k ⟨a3, Weak.one [0, 1] [] (by kernel_rfl), e14⟩
      rintro ⟨v9, w16, e14⟩
      refine PC.weak w16 ?_
      cases j15 with
      | zero => rw [F74_l2] at e14; cases e14
      | succ j15 =>
        rw [F74_l2] at e14
        refine PC.assoc ?_
        refine PC.region ?_
        refine PO.run 6 rfl ?_
        obtain ⟨x17, e18, e14⟩ := bind_some e14
        refine PO.cut 9 (fun s => ∃ (v11 : Bool), Weak s (PS.of 171 [(0, .list 13 (List.map cGItem a0) none), (1, .val (.int .i64 a1)), (3, .val (.int .i64 a3)), (8, .ptr 0 0), (9, .ptr 1 0), (49, .val (.bool v11))] [⟨0, [.val (.int .i64 0), .val (.int .i64 0), .val (.int .i64 0), .val (.int .i64 0), .val (.int .i64 0), .val (.int .i64 0), .val (.int .i64 0), .val (.int .i64 0), .val (.int .i64 0), .val (.bool false), .val (.bool false), .val (.bool false), .val (.int .i64 0), .val (.int .i64 0)]⟩, ⟨0, [.val (.int .i64 v1), .val (.int .i64 v9), .val (.int .i64 a3), .val (.int .i64 0), .val (.int .i64 0), .val (.int .i64 0), .val (.int .i64 0), .val (.int .i64 0), .val (.int .i64 0), .val (.bool false), .val (.bool false), .val (.bool false), .val (.int .i64 0), .val (.int .i64 0)]⟩] [] 0 0) ∧ v11 = x17) ?_ ?_
        · refine PO.case (t := 40) rfl rfl (fun h19 => ?_) (fun h19 => ?_)
          · have e18 := bif_t h19 e18
            refine PO.run 4 rfl ?_
            obtain ⟨y12, h20, h21, e18⟩ := bindI_some e18
            refine PO.same rfl (indexAddr_ok Try.underlying42 rfl rfl rfl h20 (map_at h21)) rfl ?_
            refine PO.run 3 rfl ?_
            refine PO.same rfl (pickT_ok rfl rfl rfl) rfl ?_
            refine PO.nil ?_
            obtain rfl := Option.some.inj e18
            exact ⟨y12.kind != 1, Weak.one [0, 1] [] (by kernel_rfl), rfl⟩
          · have e18 := bif_f h19 e18
            refine PO.run 8 rfl ?_
            refine PO.same rfl (pickF_ok rfl rfl rfl) rfl ?_
            refine PO.nil ?_
            obtain rfl := Option.some.inj e18
            exact ⟨false, Weak.one [0, 1] [] (by kernel_rfl), rfl⟩
        · rintro _ ⟨v11, w22, rfl⟩
          refine PO.weak w22 ?_
          refine PO.nil ?_
          refine PC.cond rfl (fun h23 => ?_) (fun h23 => ?_)
          · have e14 := bif_t h23 e14
            refine PC.noop ?_
            refine PC.lone ?_
            refine PC.block ?_
            refine PC.lone ?_
            refine PC.region ?_
            refine PO.runK 5 [0, 1] [] (es := [(0, .list 13 (List.map cGItem a0) none), (1, .val (.int .i64 a1)), (3, .val (.int .i64 a3)), (8, .ptr 0 0), (9, .ptr 1 0)]) (fr' := [⟨0, [.val (.int .i64 0), .val (.int .i64 0), .val (.int .i64 0), .val (.int .i64 0), .val (.int .i64 0), .val (.int .i64 0), .val (.int .i64 0), .val (.int .i64 0), .val (.int .i64 0), .val (.bool false), .val (.bool false), .val (.bool false), .val (.int .i64 0), .val (.int .i64 0)]⟩, ⟨0, [.val (.int .i64 v1), .val (.int .i64 (w (v9 - 1))), .val (.int .i64 a3), .val (.int .i64 0), .val (.int .i64 0), .val (.int .i64 0), .val (.int .i64 0), .val (.int .i64 0), .val (.int .i64 0), .val (.bool false), .val (.bool false), .val (.bool false), .val (.int .i64 0), .val (.int .i64 0)]⟩]) (tk' := []) (by kernel_rfl) ?_
            refine PO.nil ?_
            refine PC.skip (blockKP.end ?_)
            exact PC.skip (loopKP.mk (Nat.lt_succ_self _) ⟨w (v9 - 1), Weak.one [0, 1] [] (by kernel_rfl), e14⟩)
          · have e14 := bif_f h23 e14
            obtain rfl := Option.some.inj e14
            exact PC.exit (loopKP.exit (blockJK.here ⟨v9, Weak.one [0, 1] [] (by kernel_rfl), rfl⟩))
    · rintro _ ⟨v7, w24, rfl⟩
      refine PC.weak w24 ?_
      refine PC.assoc ?_
      refine PC.run (n := 4) rfl ?_
      obtain ⟨x25, e26, hF⟩ := bind_some hF
      refine PC.blockJ (fun s => ∃ (v13 : Int) (v14 : Int) (v15 : Int) (v16 : Int) (v17 : Int), Weak s (PS.of 171 [(0, .list 13 (List.map cGItem a0) none), (1, .val (.int .i64 a1)), (3, .val (.int .i64 a3)), (8, .ptr 0 0), (9, .ptr 1 0)] [⟨0, [.val (.int .i64 0), .val (.int .i64 0), .val (.int .i64 0), .val (.int .i64 0), .val (.int .i64 0), .val (.int .i64 0), .val (.int .i64 0), .val (.int .i64 0), .val (.int .i64 0), .val (.bool false), .val (.bool false), .val (.bool false), .val (.int .i64 0), .val (.int .i64 0)]⟩, ⟨0, [.val (.int .i64 v1), .val (.int .i64 v7), .val (.int .i64 a3), .val (.int .i64 v13), .val (.int .i64 v14), .val (.int .i64 v15), .val (.int .i64 0), .val (.int .i64 0), .val (.int .i64 0), .val (.bool false), .val (.bool false), .val (.bool false), .val (.int .i64 v16), .val (.int .i64 v17)]⟩] [] 0 0) ∧ (v13, v14, v15, v16, v17) = x25) ?_ ?_
      · refine PC.loop (fun j27 s => ∃ (v24 : Int) (v25 : Int) (v26 : Int) (v27 : Int) (v28 : Int) (v29 : Int), Weak s (PS.of 171 [(0, .list 13 (List.map cGItem a0) none), (1, .val (.int .i64 a1)), (3, .val (.int .i64 a3)), (8, .ptr 0 0), (9, .ptr 1 0), (10, .val (.int .i64 v24))] [⟨0, [.val (.int .i64 0), .val (.int .i64 0), .val (.int .i64 0), .val (.int .i64 0), .val (.int .i64 0), .val (.int .i64 0), .val (.int .i64 0), .val (.int .i64 0), .val (.int .i64 0), .val (.bool false), .val (.bool false), .val (.bool false), .val (.int .i64 0), .val (.int .i64 0)]⟩, ⟨0, [.val (.int .i64 v1), .val (.int .i64 v7), .val (.int .i64 a3), .val (.int .i64 v25), .val (.int .i64 v26), .val (.int .i64 v27), .val (.int .i64 0), .val (.int .i64 0), .val (.int .i64 0), .val (.bool false), .val (.bool false), .val (.bool false), .val (.int .i64 v28), .val (.int .i64 v29)]⟩] [] 0 0) ∧ F74_l3 k a0 v7 j27 v24 v25 v26 v27 v28 v29 = some x25) (fun j27 s => ?_) k ⟨v1, 0, 0, 0, 0, 0, Weak.one [0, 1] [] (by kernel_rfl), e26⟩
        rintro ⟨v24, v25, v26, v27, v28, v29, w28, e26⟩
        refine PC.weak w28 ?_
        cases j27 with
        | zero => rw [F74_l3] at e26; cases e26
        | succ j27 =>
          rw [F74_l3] at e26
          refine PC.assoc ?_
          refine PC.run (n := 5) rfl ?_
          refine PC.cond rfl (fun h29 => ?_) (fun h29 => ?_)
          · have e26 := bif_t h29 e26
            refine PC.noop ?_
            refine PC.block ?_
            refine PC.region ?_
            refine PO.run 2 rfl ?_
            obtain ⟨y36, h30, h31, e26⟩ := bindI_some e26
            refine PO.same rfl (indexAddr_ok Try.underlying42 rfl rfl rfl h30 (map_at h31)) rfl ?_
            refine PO.runK 3 [0, 1, 2] [] (es := [(0, .list 13 (List.map cGItem a0) none), (1, .val (.int .i64 a1)), (3, .val (.int .i64 a3)), (8, .ptr 0 0), (9, .ptr 1 0), (10, .val (.int .i64 v24)), (11, .ptr 2 0)]) (fr' := [⟨0, [.val (.int .i64 0), .val (.int .i64 0), .val (.int .i64 0), .val (.int .i64 0), .val (.int .i64 0), .val (.int .i64 0), .val (.int .i64 0), .val (.int .i64 0), .val (.int .i64 0), .val (.bool false), .val (.bool false), .val (.bool false), .val (.int .i64 0), .val (.int .i64 0)]⟩, ⟨0, [.val (.int .i64 v1), .val (.int .i64 v7), .val (.int .i64 a3), .val (.int .i64 v25), .val (.int .i64 v26), .val (.int .i64 v27), .val (.int .i64 0), .val (.int .i64 0), .val (.int .i64 0), .val (.bool false), .val (.bool false), .val (.bool false), .val (.int .i64 v28), .val (.int .i64 v29)]⟩, ⟨0, (cGItem y36)⟩]) (tk' := []) (by kernel_rfl) ?_
            refine PO.nil ?_
            refine PC.run (n := 3) rfl ?_
            refine PC.lone ?_
            obtain ⟨x32, e33, e26⟩ := bind_some e26
            refine PC.blockJ (fun s => ∃ (v37 : Int) (v38 : Int) (v39 : Int) (v40 : Int) (v41 : Int), Weak s (PS.of 171 [(0, .list 13 (List.map cGItem a0) none), (1, .val (.int .i64 a1)), (3, .val (.int .i64 a3)), (8, .ptr 0 0), (9, .ptr 1 0), (10, .val (.int .i64 v24))] [⟨0, [.val (.int .i64 0), .val (.int .i64 0), .val (.int .i64 0), .val (.int .i64 0), .val (.int .i64 0), .val (.int .i64 0), .val (.int .i64 0), .val (.int .i64 0), .val (.int .i64 0), .val (.bool false), .val (.bool false), .val (.bool false), .val (.int .i64 0), .val (.int .i64 0)]⟩, ⟨0, [.val (.int .i64 v1), .val (.int .i64 v7), .val (.int .i64 a3), .val (.int .i64 v37), .val (.int .i64 v38), .val (.int .i64 v39), .val (.int .i64 0), .val (.int .i64 0), .val (.int .i64 0), .val (.bool false), .val (.bool false), .val (.bool false), .val (.int .i64 v40), .val (.int .i64 v41)]⟩] [] 0 0) ∧ (v37, v38, v39, v40, v41) = x32) ?_ ?_
            · refine PC.run (n := 3) rfl ?_
              refine PC.lone ?_
              refine PC.cond rfl (fun h34 => ?_) (fun h34 => ?_)
              · have e33 := bif_t h34 e33
                refine PC.assoc ?_
                refine PC.region ?_
                refine PO.runK 7 [0, 1, 2] [] (es := [(0, .list 13 (List.map cGItem a0) none), (1, .val (.int .i64 a1)), (3, .val (.int .i64 a3)), (8, .ptr 0 0), (9, .ptr 1 0), (10, .val (.int .i64 v24)), (11, .ptr 2 0)]) (fr' := [⟨0, [.val (.int .i64 0), .val (.int .i64 0), .val (.int .i64 0), .val (.int .i64 0), .val (.int .i64 0), .val (.int .i64 0), .val (.int .i64 0), .val (.int .i64 0), .val (.int .i64 0), .val (.bool false), .val (.bool false), .val (.bool false), .val (.int .i64 0), .val (.int .i64 0)]⟩, ⟨0, [.val (.int .i64 v1), .val (.int .i64 v7), .val (.int .i64 a3), .val (.int .i64 (w (v25 + y36.width))), .val (.int .i64 v26), .val (.int .i64 v27), .val (.int .i64 0), .val (.int .i64 0), .val (.int .i64 0), .val (.bool false), .val (.bool false), .val (.bool false), .val (.int .i64 v28), .val (.int .i64 v29)]⟩, ⟨0, (cGItem y36)⟩]) (tk' := []) (by kernel_rfl) ?_
                refine PO.nil ?_
                refine PC.assoc ?_
                refine PC.assoc ?_
                refine PC.run (n := 6) rfl ?_
                obtain ⟨x35, e36, e33⟩ := bind_some e33
                refine PC.join (fun s => ∃ (v42 : Int), Weak s (PS.of 171 [(0, .list 13 (List.map cGItem a0) none), (1, .val (.int .i64 a1)), (3, .val (.int .i64 a3)), (8, .ptr 0 0), (9, .ptr 1 0), (10, .val (.int .i64 v24)), (11, .ptr 2 0)] [⟨0, [.val (.int .i64 0), .val (.int .i64 0), .val (.int .i64 0), .val (.int .i64 0), .val (.int .i64 0), .val (.int .i64 0), .val (.int .i64 0), .val (.int .i64 0), .val (.int .i64 0), .val (.bool false), .val (.bool false), .val (.bool false), .val (.int .i64 0), .val (.int .i64 0)]⟩, ⟨0, [.val (.int .i64 v1), .val (.int .i64 v7), .val (.int .i64 a3), .val (.int .i64 (w (v25 + y36.width))), .val (.int .i64 v26), .val (.int .i64 v27), .val (.int .i64 0), .val (.int .i64 0), .val (.int .i64 0), .val (.bool false), .val (.bool false), .val (.bool false), .val (.int .i64 v42), .val (.int .i64 v29)]⟩, ⟨0, (cGItem y36)⟩] [] 0 0) ∧ v42 = x35) ?_ ?_
                · refine PC.cond rfl (fun h37 => ?_) (fun h37 => ?_)
                  · have e36 := bif_t h37 e36
                    refine PC.region ?_
                    refine PO.runK 4 [0, 1, 2] [] (es := [(0, .list 13 (List.map cGItem a0) none), (1, .val (.int .i64 a1)), (3, .val (.int .i64 a3)), (8, .ptr 0 0), (9, .ptr 1 0), (10, .val (.int .i64 v24)), (11, .ptr 2 0)]) (fr' := [⟨0, [.val (.int .i64 0), .val (.int .i64 0), .val (.int .i64 0), .val (.int .i64 0), .val (.int .i64 0), .val (.int .i64 0), .val (.int .i64 0), .val (.int .i64 0), .val (.int .i64 0), .val (.bool false), .val (.bool false), .val (.bool false), .val (.int .i64 0), .val (.int .i64 0)]⟩, ⟨0, [.val (.int .i64 v1), .val (.int .i64 v7), .val (.int .i64 a3), .val (.int .i64 (w (v25 + y36.width))), .val (.int .i64 v26), .val (.int .i64 v27), .val (.int .i64 0), .val (.int .i64 0), .val (.int .i64 0), .val (.bool false), .val (.bool false), .val (.bool false), .val (.int .i64 y36.height), .val (.int .i64 v29)]⟩, ⟨0, (cGItem y36)⟩]) (tk' := []) (by kernel_rfl) ?_
                    refine PO.nil ?_
                    obtain rfl := Option.some.inj e36
                    exact PC.skip (joinKP.end ⟨y36.height, Weak.one [0, 1, 2] [] (by kernel_rfl), rfl⟩)
                  · have e36 := bif_f h37 e36
                    refine PC.noop ?_
                    obtain rfl := Option.some.inj e36
                    exact PC.skip (joinKP.end ⟨v28, Weak.one [0, 1, 2] [] (by kernel_rfl), rfl⟩)
                · rintro _ ⟨v42, w38, rfl⟩
                  refine PC.weak w38 ?_
                  refine PC.assoc ?_
                  refine PC.run (n := 6) rfl ?_
                  refine PC.cond rfl (fun h39 => ?_) (fun h39 => ?_)
                  · have e33 := bif_t h39 e33
                    refine PC.region ?_
                    refine PO.runK 4 [0, 1] [] (es := [(0, .list 13 (List.map cGItem a0) none), (1, .val (.int .i64 a1)), (3, .val (.int .i64 a3)), (8, .ptr 0 0), (9, .ptr 1 0), (10, .val (.int .i64 v24))]) (fr' := [⟨0, [.val (.int .i64 0), .val (.int .i64 0), .val (.int .i64 0), .val (.int .i64 0), .val (.int .i64 0), .val (.int .i64 0), .val (.int .i64 0), .val (.int .i64 0), .val (.int .i64 0), .val (.bool false), .val (.bool false), .val (.bool false), .val (.int .i64 0), .val (.int .i64 0)]⟩, ⟨0, [.val (.int .i64 v1), .val (.int .i64 v7), .val (.int .i64 a3), .val (.int .i64 (w (v25 + y36.width))), .val (.int .i64 v26), .val (.int .i64 v27), .val (.int .i64 0), .val (.int .i64 0), .val (.int .i64 0), .val (.bool false), .val (.bool false), .val (.bool false), .val (.int .i64 v42), .val (.int .i64 y36.depth)]⟩]) (tk' := []) (by kernel_rfl) ?_
                    refine PO.nil ?_
                    obtain rfl := Option.some.inj e33
                    exact PC.skip (blockJK.end ⟨w (v25 + y36.width), v26, v27, v42, y36.depth, Weak.one [0, 1] [] (by kernel_rfl), rfl⟩)
                  · have e33 := bif_f h39 e33
                    refine PC.noop ?_
                    obtain rfl := Option.some.inj e33
                    exact PC.skip (blockJK.end ⟨w (v25 + y36.width), v26, v27, v42, v29, Weak.one [0, 1] [] (by kernel_rfl), rfl⟩)
              · have e33 := bif_f h34 e33
                refine PC.assoc ?_
                refine PC.run (n := 3) rfl ?_
                refine PC.cond rfl (fun h40 => ?_) (fun h40 => ?_)
                · have e33 := bif_t h40 e33
                  refine PC.region ?_
                  refine PO.runK 7 [0, 1] [] (es := [(0, .list 13 (List.map cGItem a0) none), (1, .val (.int .i64 a1)), (3, .val (.int .i64 a3)), (8, .ptr 0 0), (9, .ptr 1 0), (10, .val (.int .i64 v24))]) (fr' := [⟨0, [.val (.int .i64 0), .val (.int .i64 0), .val (.int .i64 0), .val (.int .i64 0), .val (.int .i64 0), .val (.int .i64 0), .val (.int .i64 0), .val (.int .i64 0), .val (.int .i64 0), .val (.bool false), .val (.bool false), .val (.bool false), .val (.int .i64 0), .val (.int .i64 0)]⟩, ⟨0, [.val (.int .i64 v1), .val (.int .i64 v7), .val (.int .i64 a3), .val (.int .i64 (w (v25 + y36.width))), .val (.int .i64 v26), .val (.int .i64 v27), .val (.int .i64 0), .val (.int .i64 0), .val (.int .i64 0), .val (.bool false), .val (.bool false), .val (.bool false), .val (.int .i64 v28), .val (.int .i64 v29)]⟩]) (tk' := []) (by kernel_rfl) ?_
                  refine PO.nil ?_
                  obtain rfl := Option.some.inj e33
                  exact PC.skip (blockJK.end ⟨w (v25 + y36.width), v26, v27, v28, v29, Weak.one [0, 1] [] (by kernel_rfl), rfl⟩)
                · have e33 := bif_f h40 e33
                  refine PC.assoc ?_
                  refine PC.run (n := 3) rfl ?_
                  refine PC.cond rfl (fun h41 => ?_) (fun h41 => ?_)
                  · have e33 := bif_t h41 e33
                    refine PC.assoc ?_
                    refine PC.region ?_
                    refine PO.runK 7 [0, 1, 2] [] (es := [(0, .list 13 (List.map cGItem a0) none), (1, .val (.int .i64 a1)), (3, .val (.int .i64 a3)), (8, .ptr 0 0), (9, .ptr 1 0), (10, .val (.int .i64 v24)), (11, .ptr 2 0)]) (fr' := [⟨0, [.val (.int .i64 0), .val (.int .i64 0), .val (.int .i64 0), .val (.int .i64 0), .val (.int .i64 0), .val (.int .i64 0), .val (.int .i64 0), .val (.int .i64 0), .val (.int .i64 0), .val (.bool false), .val (.bool false), .val (.bool false), .val (.int .i64 0), .val (.int .i64 0)]⟩, ⟨0, [.val (.int .i64 v1), .val (.int .i64 v7), .val (.int .i64 a3), .val (.int .i64 (w (v25 + y36.width))), .val (.int .i64 v26), .val (.int .i64 v27), .val (.int .i64 0), .val (.int .i64 0), .val (.int .i64 0), .val (.bool false), .val (.bool false), .val (.bool false), .val (.int .i64 v28), .val (.int .i64 v29)]⟩, ⟨0, (cGItem y36)⟩]) (tk' := []) (by kernel_rfl) ?_
                    refine PO.nil ?_
                    refine PC.assoc ?_
                    refine PC.region ?_
                    refine PO.runK 7 [0, 1, 2] [] (es := [(0, .list 13 (List.map cGItem a0) none), (1, .val (.int .i64 a1)), (3, .val (.int .i64 a3)), (8, .ptr 0 0), (9, .ptr 1 0), (10, .val (.int .i64 v24)), (11, .ptr 2 0)]) (fr' := [⟨0, [.val (.int .i64 0), .val (.int .i64 0), .val (.int .i64 0), .val (.int .i64 0), .val (.int .i64 0), .val (.int .i64 0), .val (.int .i64 0), .val (.int .i64 0), .val (.int .i64 0), .val (.bool false), .val (.bool false), .val (.bool false), .val (.int .i64 0), .val (.int .i64 0)]⟩, ⟨0, [.val (.int .i64 v1), .val (.int .i64 v7), .val (.int .i64 a3), .val (.int .i64 (w (v25 + y36.width))), .val (.int .i64 (w (v26 + y36.stretch))), .val (.int .i64 v27), .val (.int .i64 0), .val (.int .i64 0), .val (.int .i64 0), .val (.bool false), .val (.bool false), .val (.bool false), .val (.int .i64 v28), .val (.int .i64 v29)]⟩, ⟨0, (cGItem y36)⟩]) (tk' := []) (by kernel_rfl) ?_
                    refine PO.nil ?_
                    refine PC.region ?_
                    refine PO.runK 7 [0, 1] [] (es := [(0, .list 13 (List.map cGItem a0) none), (1, .val (.int .i64 a1)), (3, .val (.int .i64 a3)), (8, .ptr 0 0), (9, .ptr 1 0), (10, .val (.int .i64 v24))]) (fr' := [⟨0, [.val (.int .i64 0), .val (.int .i64 0), .val (.int .i64 0), .val (.int .i64 0), .val (.int .i64 0), .val (.int .i64 0), .val (.int .i64 0), .val (.int .i64 0), .val (.int .i64 0), .val (.bool false), .val (.bool false), .val (.bool false), .val (.int .i64 0), .val (.int .i64 0)]⟩, ⟨0, [.val (.int .i64 v1), .val (.int .i64 v7), .val (.int .i64 a3), .val (.int .i64 (w (v25 + y36.width))), .val (.int .i64 (w (v26 + y36.stretch))), .val (.int .i64 (w (v27 + y36.shrink))), .val (.int .i64 0), .val (.int .i64 0), .val (.int .i64 0), .val (.bool false), .val (.bool false), .val (.bool false), .val (.int .i64 v28), .val (.int .i64 v29)]⟩]) (tk' := []) (by kernel_rfl) ?_
                    refine PO.nil ?_
                    obtain rfl := Option.some.inj e33
                    exact PC.skip (blockJK.end ⟨w (v25 + y36.width), w (v26 + y36.stretch), w (v27 + y36.shrink), v28, v29, Weak.one [0, 1] [] (by kernel_rfl), rfl⟩)
                  · have e33 := bif_f h41 e33
                    refine PC.noop ?_
                    obtain rfl := Option.some.inj e33
                    exact PC.skip (blockJK.end ⟨v25, v26, v27, v28, v29, Weak.one [0, 1] [] (by kernel_rfl), rfl⟩)
            · rintro _ ⟨v37, v38, v39, v40, v41, w42, rfl⟩
              refine PC.weak w42 ?_
              refine PC.skip (blockKP.end ?_)
              refine PC.lone ?_
              refine PC.run (n := 4) rfl ?_
              exact PC.skip (loopKP.mk (Nat.lt_succ_self _) ⟨w (v24 + 1), v37, v38, v39, v40, v41, Weak.one [0, 1] [] (by kernel_rfl), e26⟩)
          · have e26 := bif_f h29 e26
            obtain rfl := Option.some.inj e26
            exact PC.exit (loopKP.exit (blockJK.here ⟨v25, v26, v27, v28, v29, Weak.one [0, 1] [] (by kernel_rfl), rfl⟩))
      · rintro _ ⟨v13, v14, v15, v16, v17, w43, rfl⟩
        refine PC.weak w43 ?_
        refine PC.region ?_
        refine PO.run 2 rfl ?_
        obtain ⟨y43, h44, h45, hF⟩ := bindI_some hF
        refine PO.same rfl (indexAddr_ok Try.underlying42 rfl rfl rfl h44 (map_at h45)) rfl ?_
        refine PO.runK 3 [0, 1, 2] [] (es := [(1, .val (.int .i64 a1)), (8, .ptr 0 0), (9, .ptr 1 0), (12, .ptr 2 0)]) (fr' := [⟨0, [.val (.int .i64 0), .val (.int .i64 0), .val (.int .i64 0), .val (.int .i64 0), .val (.int .i64 0), .val (.int .i64 0), .val (.int .i64 0), .val (.int .i64 0), .val (.int .i64 0), .val (.bool false), .val (.bool false), .val (.bool false), .val (.int .i64 0), .val (.int .i64 0)]⟩, ⟨0, [.val (.int .i64 v1), .val (.int .i64 v7), .val (.int .i64 a3), .val (.int .i64 v13), .val (.int .i64 v14), .val (.int .i64 v15), .val (.int .i64 0), .val (.int .i64 0), .val (.int .i64 0), .val (.bool false), .val (.bool false), .val (.bool false), .val (.int .i64 v16), .val (.int .i64 v17)]⟩, ⟨0, (cGItem y43)⟩]) (tk' := []) (by kernel_rfl) ?_
        refine PO.nil ?_
        refine PC.assoc ?_
        refine PC.run (n := 4) rfl ?_
        obtain ⟨x46, e47, hF⟩ := bind_some hF
        refine PC.join (fun s => ∃ (v44 : Int) (v45 : Bool) (v46 : Bool) (v47 : Int) (v48 : Int), Weak s (PS.of 171 [(1, .val (.int .i64 a1)), (8, .ptr 0 0), (9, .ptr 1 0)] [⟨0, [.val (.int .i64 0), .val (.int .i64 0), .val (.int .i64 0), .val (.int .i64 0), .val (.int .i64 0), .val (.int .i64 0), .val (.int .i64 0), .val (.int .i64 0), .val (.int .i64 0), .val (.bool false), .val (.bool false), .val (.bool false), .val (.int .i64 0), .val (.int .i64 0)]⟩, ⟨0, [.val (.int .i64 v1), .val (.int .i64 v7), .val (.int .i64 a3), .val (.int .i64 v44), .val (.int .i64 v14), .val (.int .i64 v15), .val (.int .i64 0), .val (.int .i64 0), .val (.int .i64 0), .val (.bool false), .val (.bool v45), .val (.bool v46), .val (.int .i64 v47), .val (.int .i64 v48)]⟩] [] 0 0) ∧ (v44, v45, v46, v47, v48) = x46) ?_ ?_
        · refine PC.cond rfl (fun h48 => ?_) (fun h48 => ?_)
          · have e47 := bif_t h48 e47
            refine PC.assoc ?_
            refine PC.region ?_
            refine PO.runK 7 [0, 1, 2] [] (es := [(1, .val (.int .i64 a1)), (8, .ptr 0 0), (9, .ptr 1 0), (12, .ptr 2 0)]) (fr' := [⟨0, [.val (.int .i64 0), .val (.int .i64 0), .val (.int .i64 0), .val (.int .i64 0), .val (.int .i64 0), .val (.int .i64 0), .val (.int .i64 0), .val (.int .i64 0), .val (.int .i64 0), .val (.bool false), .val (.bool false), .val (.bool false), .val (.int .i64 0), .val (.int .i64 0)]⟩, ⟨0, [.val (.int .i64 v1), .val (.int .i64 v7), .val (.int .i64 a3), .val (.int .i64 (w (v13 + y43.width))), .val (.int .i64 v14), .val (.int .i64 v15), .val (.int .i64 0), .val (.int .i64 0), .val (.int .i64 0), .val (.bool false), .val (.bool false), .val (.bool false), .val (.int .i64 v16), .val (.int .i64 v17)]⟩, ⟨0, (cGItem y43)⟩]) (tk' := []) (by kernel_rfl) ?_
            refine PO.nil ?_
            refine PC.assoc ?_
            refine PC.region ?_
            refine PO.runK 4 [0, 1, 2] [] (es := [(1, .val (.int .i64 a1)), (8, .ptr 0 0), (9, .ptr 1 0), (12, .ptr 2 0)]) (fr' := [⟨0, [.val (.int .i64 0), .val (.int .i64 0), .val (.int .i64 0), .val (.int .i64 0), .val (.int .i64 0), .val (.int .i64 0), .val (.int .i64 0), .val (.int .i64 0), .val (.int .i64 0), .val (.bool false), .val (.bool false), .val (.bool false), .val (.int .i64 0), .val (.int .i64 0)]⟩, ⟨0, [.val (.int .i64 v1), .val (.int .i64 v7), .val (.int .i64 a3), .val (.int .i64 (w (v13 + y43.width))), .val (.int .i64 v14), .val (.int .i64 v15), .val (.int .i64 0), .val (.int .i64 0), .val (.int .i64 0), .val (.bool false), .val (.bool y43.flag), .val (.bool false), .val (.int .i64 v16), .val (.int .i64 v17)]⟩, ⟨0, (cGItem y43)⟩]) (tk' := []) (by kernel_rfl) ?_
            refine PO.nil ?_
            refine PC.assoc ?_
            refine PC.region ?_
            refine PO.runK 5 [0, 1, 2] [] (es := [(1, .val (.int .i64 a1)), (8, .ptr 0 0), (9, .ptr 1 0), (12, .ptr 2 0)]) (fr' := [⟨0, [.val (.int .i64 0), .val (.int .i64 0), .val (.int .i64 0), .val (.int .i64 0), .val (.int .i64 0), .val (.int .i64 0), .val (.int .i64 0), .val (.int .i64 0), .val (.int .i64 0), .val (.bool false), .val (.bool false), .val (.bool false), .val (.int .i64 0), .val (.int .i64 0)]⟩, ⟨0, [.val (.int .i64 v1), .val (.int .i64 v7), .val (.int .i64 a3), .val (.int .i64 (w (v13 + y43.width))), .val (.int .i64 v14), .val (.int .i64 v15), .val (.int .i64 0), .val (.int .i64 0), .val (.int .i64 0), .val (.bool false), .val (.bool y43.flag), .val (.bool (y43.value == (-10000))), .val (.int .i64 v16), .val (.int .i64 v17)]⟩, ⟨0, (cGItem y43)⟩]) (tk' := []) (by kernel_rfl) ?_
            refine PO.nil ?_
            refine PC.assoc ?_
            refine PC.assoc ?_
            refine PC.region ?_
            refine PO.run 3 rfl ?_
            obtain ⟨x49, e50, e47⟩ := bind_some e47
            refine PO.cut 6 (fun s => ∃ (v49 : Bool), Weak s (PS.of 171 [(1, .val (.int .i64 a1)), (8, .ptr 0 0), (9, .ptr 1 0), (12, .ptr 2 0), (148, .val (.bool v49))] [⟨0, [.val (.int .i64 0), .val (.int .i64 0), .val (.int .i64 0), .val (.int .i64 0), .val (.int .i64 0), .val (.int .i64 0), .val (.int .i64 0), .val (.int .i64 0), .val (.int .i64 0), .val (.bool false), .val (.bool false), .val (.bool false), .val (.int .i64 0), .val (.int .i64 0)]⟩, ⟨0, [.val (.int .i64 v1), .val (.int .i64 v7), .val (.int .i64 a3), .val (.int .i64 (w (v13 + y43.width))), .val (.int .i64 v14), .val (.int .i64 v15), .val (.int .i64 0), .val (.int .i64 0), .val (.int .i64 0), .val (.bool false), .val (.bool y43.flag), .val (.bool (y43.value == (-10000))), .val (.int .i64 v16), .val (.int .i64 v17)]⟩, ⟨0, (cGItem y43)⟩] [] 0 0) ∧ v49 = x49) ?_ ?_
            · refine PO.case (t := 142) rfl rfl (fun h51 => ?_) (fun h51 => ?_)
              · have e50 := bif_t h51 e50
                refine PO.run 5 rfl ?_
                refine PO.same rfl (pickT_ok rfl rfl rfl) rfl ?_
                refine PO.nil ?_
                obtain rfl := Option.some.inj e50
                exact ⟨decide (y43.height > v16), Weak.one [0, 1, 2] [] (by kernel_rfl), rfl⟩
              · have e50 := bif_f h51 e50
                refine PO.run 5 rfl ?_
                refine PO.same rfl (pickF_ok rfl rfl rfl) rfl ?_
                refine PO.nil ?_
                obtain rfl := Option.some.inj e50
                exact ⟨false, Weak.one [0, 1, 2] [] (by kernel_rfl), rfl⟩
            · rintro _ ⟨v49, w52, rfl⟩
              refine PO.weak w52 ?_
              refine PO.nil ?_
              obtain ⟨x53, e54, e47⟩ := bind_some e47
              refine PC.join (fun s => ∃ (v50 : Int), Weak s (PS.of 171 [(1, .val (.int .i64 a1)), (8, .ptr 0 0), (9, .ptr 1 0), (12, .ptr 2 0)] [⟨0, [.val (.int .i64 0), .val (.int .i64 0), .val (.int .i64 0), .val (.int .i64 0), .val (.int .i64 0), .val (.int .i64 0), .val (.int .i64 0), .val (.int .i64 0), .val (.int .i64 0), .val (.bool false), .val (.bool false), .val (.bool false), .val (.int .i64 0), .val (.int .i64 0)]⟩, ⟨0, [.val (.int .i64 v1), .val (.int .i64 v7), .val (.int .i64 a3), .val (.int .i64 (w (v13 + y43.width))), .val (.int .i64 v14), .val (.int .i64 v15), .val (.int .i64 0), .val (.int .i64 0), .val (.int .i64 0), .val (.bool false), .val (.bool y43.flag), .val (.bool (y43.value == (-10000))), .val (.int .i64 v50), .val (.int .i64 v17)]⟩, ⟨0, (cGItem y43)⟩] [] 0 0) ∧ v50 = x53) ?_ ?_
              · refine PC.cond rfl (fun h55 => ?_) (fun h55 => ?_)
                · have e54 := bif_t h55 e54
                  refine PC.region ?_
                  refine PO.runK 4 [0, 1, 2] [] (es := [(1, .val (.int .i64 a1)), (8, .ptr 0 0), (9, .ptr 1 0), (12, .ptr 2 0)]) (fr' := [⟨0, [.val (.int .i64 0), .val (.int .i64 0), .val (.int .i64 0), .val (.int .i64 0), .val (.int .i64 0), .val (.int .i64 0), .val (.int .i64 0), .val (.int .i64 0), .val (.int .i64 0), .val (.bool false), .val (.bool false), .val (.bool false), .val (.int .i64 0), .val (.int .i64 0)]⟩, ⟨0, [.val (.int .i64 v1), .val (.int .i64 v7), .val (.int .i64 a3), .val (.int .i64 (w (v13 + y43.width))), .val (.int .i64 v14), .val (.int .i64 v15), .val (.int .i64 0), .val (.int .i64 0), .val (.int .i64 0), .val (.bool false), .val (.bool y43.flag), .val (.bool (y43.value == (-10000))), .val (.int .i64 y43.height), .val (.int .i64 v17)]⟩, ⟨0, (cGItem y43)⟩]) (tk' := []) (by kernel_rfl) ?_
                  refine PO.nil ?_
                  obtain rfl := Option.some.inj e54
                  exact PC.skip (joinKP.end ⟨y43.height, Weak.one [0, 1, 2] [] (by kernel_rfl), rfl⟩)
                · have e54 := bif_f h55 e54
                  refine PC.noop ?_
                  obtain rfl := Option.some.inj e54
                  exact PC.skip (joinKP.end ⟨v16, Weak.one [0, 1, 2] [] (by kernel_rfl), rfl⟩)
              · rintro _ ⟨v50, w56, rfl⟩
                refine PC.weak w56 ?_
                refine PC.assoc ?_
                refine PC.region ?_
                refine PO.run 3 rfl ?_
                obtain ⟨x57, e58, e47⟩ := bind_some e47
                refine PO.cut 6 (fun s => ∃ (v51 : Bool), Weak s (PS.of 171 [(1, .val (.int .i64 a1)), (8, .ptr 0 0), (9, .ptr 1 0), (12, .ptr 2 0), (160, .val (.bool v51))] [⟨0, [.val (.int .i64 0), .val (.int .i64 0), .val (.int .i64 0), .val (.int .i64 0), .val (.int .i64 0), .val (.int .i64 0), .val (.int .i64 0), .val (.int .i64 0), .val (.int .i64 0), .val (.bool false), .val (.bool false), .val (.bool false), .val (.int .i64 0), .val (.int .i64 0)]⟩, ⟨0, [.val (.int .i64 v1), .val (.int .i64 v7), .val (.int .i64 a3), .val (.int .i64 (w (v13 + y43.width))), .val (.int .i64 v14), .val (.int .i64 v15), .val (.int .i64 0), .val (.int .i64 0), .val (.int .i64 0), .val (.bool false), .val (.bool y43.flag), .val (.bool (y43.value == (-10000))), .val (.int .i64 v50), .val (.int .i64 v17)]⟩, ⟨0, (cGItem y43)⟩] [] 0 0) ∧ v51 = x57) ?_ ?_
                · refine PO.case (t := 154) rfl rfl (fun h59 => ?_) (fun h59 => ?_)
                  · have e58 := bif_t h59 e58
                    refine PO.run 5 rfl ?_
                    refine PO.same rfl (pickT_ok rfl rfl rfl) rfl ?_
                    refine PO.nil ?_
                    obtain rfl := Option.some.inj e58
                    exact ⟨decide (y43.depth > v17), Weak.one [0, 1, 2] [] (by kernel_rfl), rfl⟩
                  · have e58 := bif_f h59 e58
                    refine PO.run 5 rfl ?_
                    refine PO.same rfl (pickF_ok rfl rfl rfl) rfl ?_
                    refine PO.nil ?_
                    obtain rfl := Option.some.inj e58
                    exact ⟨false, Weak.one [0, 1, 2] [] (by kernel_rfl), rfl⟩
                · rintro _ ⟨v51, w60, rfl⟩
                  refine PO.weak w60 ?_
                  refine PO.nil ?_
                  refine PC.cond rfl (fun h61 => ?_) (fun h61 => ?_)
                  · have e47 := bif_t h61 e47
                    refine PC.region ?_
                    refine PO.runK 4 [0, 1] [] (es := [(1, .val (.int .i64 a1)), (8, .ptr 0 0), (9, .ptr 1 0)]) (fr' := [⟨0, [.val (.int .i64 0), .val (.int .i64 0), .val (.int .i64 0), .val (.int .i64 0), .val (.int .i64 0), .val (.int .i64 0), .val (.int .i64 0), .val (.int .i64 0), .val (.int .i64 0), .val (.bool false), .val (.bool false), .val (.bool false), .val (.int .i64 0), .val (.int .i64 0)]⟩, ⟨0, [.val (.int .i64 v1), .val (.int .i64 v7), .val (.int .i64 a3), .val (.int .i64 (w (v13 + y43.width))), .val (.int .i64 v14), .val (.int .i64 v15), .val (.int .i64 0), .val (.int .i64 0), .val (.int .i64 0), .val (.bool false), .val (.bool y43.flag), .val (.bool (y43.value == (-10000))), .val (.int .i64 v50), .val (.int .i64 y43.depth)]⟩]) (tk' := []) (by kernel_rfl) ?_
                    refine PO.nil ?_
                    obtain rfl := Option.some.inj e47
                    exact PC.skip (joinKP.end ⟨w (v13 + y43.width), y43.flag, y43.value == (-10000), v50, y43.depth, Weak.one [0, 1] [] (by kernel_rfl), rfl⟩)
                  · have e47 := bif_f h61 e47
                    refine PC.noop ?_
                    obtain rfl := Option.some.inj e47
                    exact PC.skip (joinKP.end ⟨w (v13 + y43.width), y43.flag, y43.value == (-10000), v50, v17, Weak.one [0, 1] [] (by kernel_rfl), rfl⟩)
          · have e47 := bif_f h48 e47
            refine PC.noop ?_
            obtain rfl := Option.some.inj e47
            exact PC.skip (joinKP.end ⟨v13, false, false, v16, v17, Weak.one [0, 1] [] (by kernel_rfl), rfl⟩)
        · rintro _ ⟨v44, v45, v46, v47, v48, w62, rfl⟩
          refine PC.weak w62 ?_
          refine PC.region ?_
          refine PO.runK 6 [0, 1] [] (es := [(8, .ptr 0 0), (9, .ptr 1 0)]) (fr' := [⟨0, [.val (.int .i64 0), .val (.int .i64 0), .val (.int .i64 0), .val (.int .i64 0), .val (.int .i64 0), .val (.int .i64 0), .val (.int .i64 0), .val (.int .i64 0), .val (.int .i64 0), .val (.bool false), .val (.bool false), .val (.bool false), .val (.int .i64 0), .val (.int .i64 0)]⟩, ⟨0, [.val (.int .i64 v1), .val (.int .i64 v7), .val (.int .i64 a3), .val (.int .i64 v44), .val (.int .i64 v14), .val (.int .i64 v15), .val (.int .i64 (w (a1 - v44))), .val (.int .i64 0), .val (.int .i64 0), .val (.bool false), .val (.bool v45), .val (.bool v46), .val (.int .i64 v47), .val (.int .i64 v48)]⟩]) (tk' := []) (by kernel_rfl) ?_
          refine PO.nil ?_
          refine PC.region ?_
          refine PO.run 1 rfl ?_
          obtain ⟨r63, e64, hF⟩ := bind_some hF
          refine PO.call rfl rfl rfl rfl (ks := []) (ts := []) (fr1 := []) rfl rfl rfl trivial (L97 k (GLine.mk v1 v7 a3 v44 v14 v15 (w (a1 - v44)) 0 0 false v45 v46 v47 v48) _ e64) ?_
          rintro _ _ _ ⟨rfl, rfl, rfl⟩
          refine ⟨_, _, rfl, rfl, ?_⟩
          refine PO.runK 1 [0] [] (es := [(8, .ptr 0 0)]) (fr' := [⟨0, (cGLine r63)⟩]) (tk' := []) (by kernel_rfl) ?_
          refine PO.nil ?_
          obtain rfl := Option.some.inj hF
          exact PC.ret' (retSK [] [] (by kernel_rfl) (.refl _) ⟨rfl, rfl, rfl⟩)

/-! 35 platen/platenref14.Line -/
def F35 (k : Nat) (a0 : List GItem) (a1 : Int) (a2 : Int) (a3 : Int) : Option (GLine × Int) :=
(F40 k a0).bind fun r1 =>
Option.bind (α := Bool) (bif r1 != 0 then (some true) else ((F72 k a1).bind fun r6 =>
Option.bind (α := Bool) (bif !r6 then (some true) else ((F73 k a0 a2 a3).bind fun r11 =>
some (!r11))) fun (v2 : Bool) =>
some v2)) fun (v1 : Bool) =>
bif v1 then (some ((GLine.mk 0 0 0 0 0 0 0 0 0 false false false 0 0), 1)) else ((F74 k a0 a1 a2 a3).bind fun r16 =>
some (r16, 0))
theorem L35 (k : Nat) (a0 : List GItem) (a1 : Int) (a2 : Int) (a3 : Int) (r : GLine × Int) (hF : F35 k a0 a1 a2 a3 = some r) : PF Try.prog orc 35 [.list 13 (List.map cGItem a0) none, .val (.int .i64 a1), .val (.int .i64 a2), .val (.int .i64 a3)] [] [] (fun p fr tk => p = .tup [.agg (cGLine r.1), .val (.int .i64 r.2)] ∧ fr = [] ∧ tk = []) := by
  unfold F35 at hF
  refine PF.enterS Try.func35 rfl rfl rfl (by kernel_rfl) rfl ?_
  refine PC.region ?_
  refine PO.runK 2 [0] [] (es := [(0, .list 13 (List.map cGItem a0) none), (1, .val (.int .i64 a1)), (2, .val (.int .i64 a2)), (3, .val (.int .i64 a3)), (8, .ptr 0 0), (9, .val (.int .i64 0))]) (fr' := [⟨0, [.val (.int .i64 0), .val (.int .i64 0), .val (.int .i64 0), .val (.int .i64 0), .val (.int .i64 0), .val (.int .i64 0), .val (.int .i64 0), .val (.int .i64 0), .val (.int .i64 0), .val (.bool false), .val (.bool false), .val (.bool false), .val (.int .i64 0), .val (.int .i64 0)]⟩]) (tk' := []) (by kernel_rfl) ?_
  refine PO.nil ?_
  refine PC.assoc ?_
  refine PC.region ?_
  refine PO.run 1 rfl ?_
  obtain ⟨r1, e2, hF⟩ := bind_some hF
  refine PO.call rfl rfl rfl rfl (ks := []) (ts := []) (fr1 := []) rfl rfl rfl trivial (L40 k a0 _ e2) ?_
  rintro _ _ _ ⟨rfl, rfl, rfl⟩
  refine ⟨_, _, rfl, rfl, ?_⟩
  refine PO.run 2 rfl ?_
  obtain ⟨x3, e4, hF⟩ := bind_some hF
  refine PO.cut 11 (fun s => ∃ (v1 : Bool), Weak s (PS.of 31 [(0, .list 13 (List.map cGItem a0) none), (1, .val (.int .i64 a1)), (2, .val (.int .i64 a2)), (3, .val (.int .i64 a3)), (8, .ptr 0 0), (9, .val (.int .i64 0)), (24, .val (.bool v1))] [⟨0, [.val (.int .i64 0), .val (.int .i64 0), .val (.int .i64 0), .val (.int .i64 0), .val (.int .i64 0), .val (.int .i64 0), .val (.int .i64 0), .val (.int .i64 0), .val (.int .i64 0), .val (.bool false), .val (.bool false), .val (.bool false), .val (.int .i64 0), .val (.int .i64 0)]⟩] [] 0 0) ∧ v1 = x3) ?_ ?_
  · refine PO.case (t := 13) rfl rfl (fun h5 => ?_) (fun h5 => ?_)
    · have e4 := bif_t h5 e4
      refine PO.run 3 rfl ?_
      refine PO.same rfl (pickT_ok rfl rfl rfl) rfl ?_
      refine PO.run 6 rfl ?_
      refine PO.same rfl (pickT_ok rfl rfl rfl) rfl ?_
      refine PO.nil ?_
      obtain rfl := Option.some.inj e4
      exact ⟨true, Weak.one [0] [] (by kernel_rfl), rfl⟩
    · have e4 := bif_f h5 e4
      refine PO.run 1 rfl ?_
      obtain ⟨r6, e7, e4⟩ := bind_some e4
      refine PO.call rfl rfl rfl rfl (ks := []) (ts := []) (fr1 := []) rfl rfl rfl trivial (L72 k a1 _ e7) ?_
      rintro _ _ _ ⟨rfl, rfl, rfl⟩
      refine ⟨_, _, rfl, rfl, ?_⟩
      refine PO.run 1 rfl ?_
      refine PO.same rfl (pickF_ok rfl rfl rfl) rfl ?_
      refine PO.run 1 rfl ?_
      obtain ⟨x8, e9, e4⟩ := bind_some e4
      refine PO.cut 6 (fun s => ∃ (v2 : Bool), Weak s (PS.of 31 [(0, .list 13 (List.map cGItem a0) none), (1, .val (.int .i64 a1)), (2, .val (.int .i64 a2)), (3, .val (.int .i64 a3)), (8, .ptr 0 0), (9, .val (.int .i64 0)), (24, .val (.bool v2))] [⟨0, [.val (.int .i64 0), .val (.int .i64 0), .val (.int .i64 0), .val (.int .i64 0), .val (.int .i64 0), .val (.int .i64 0), .val (.int .i64 0), .val (.int .i64 0), .val (.int .i64 0), .val (.bool false), .val (.bool false), .val (.bool false), .val (.int .i64 0), .val (.int .i64 0)]⟩] [] 0 0) ∧ v2 = x8) ?_ ?_
      · refine PO.case (t := 18) rfl rfl (fun h10 => ?_) (fun h10 => ?_)
        · have e9 := bif_t h10 e9
          refine PO.run 5 rfl ?_
          refine PO.same rfl (pickT_ok rfl rfl rfl) rfl ?_
          refine PO.nil ?_
          obtain rfl := Option.some.inj e9
          exact ⟨true, Weak.one [0] [] (by kernel_rfl), rfl⟩
        · have e9 := bif_f h10 e9
          refine PO.run 3 rfl ?_
          obtain ⟨r11, e12, e9⟩ := bind_some e9
          refine PO.call rfl rfl rfl rfl (ks := []) (ts := []) (fr1 := []) rfl rfl rfl trivial (L73 k a0 a2 a3 _ e12) ?_
          rintro _ _ _ ⟨rfl, rfl, rfl⟩
          refine ⟨_, _, rfl, rfl, ?_⟩
          refine PO.run 1 rfl ?_
          refine PO.same rfl (pickF_ok rfl rfl rfl) rfl ?_
          refine PO.nil ?_
          obtain rfl := Option.some.inj e9
          exact ⟨!r11, Weak.one [0] [] (by kernel_rfl), rfl⟩
      · rintro _ ⟨v2, w13, rfl⟩
        refine PO.weak w13 ?_
        refine PO.nil ?_
        obtain rfl := Option.some.inj e4
        exact ⟨v2, Weak.one [0] [] (by kernel_rfl), rfl⟩
  · rintro _ ⟨v1, w14, rfl⟩
    refine PO.weak w14 ?_
    refine PO.nil ?_
    refine PC.cond rfl (fun h15 => ?_) (fun h15 => ?_)
    · have hF := bif_t h15 hF
      refine PC.assoc ?_
      refine PC.region ?_
      refine PO.runK 3 [0] [] (es := [(8, .ptr 0 0), (9, .val (.int .i64 1))]) (fr' := [⟨0, [.val (.int .i64 0), .val (.int .i64 0), .val (.int .i64 0), .val (.int .i64 0), .val (.int .i64 0), .val (.int .i64 0), .val (.int .i64 0), .val (.int .i64 0), .val (.int .i64 0), .val (.bool false), .val (.bool false), .val (.bool false), .val (.int .i64 0), .val (.int .i64 0)]⟩]) (tk' := []) (by kernel_rfl) ?_
      refine PO.nil ?_
      obtain rfl := Option.some.inj hF
      exact PC.ret (retSK [] [] (by kernel_rfl) (.refl _) ⟨rfl, rfl, rfl⟩)
    · have hF := bif_f h15 hF
      refine PC.noop ?_
      refine PC.region ?_
      refine PO.run 4 rfl ?_
      obtain ⟨r16, e17, hF⟩ := bind_some hF
      refine PO.call rfl rfl rfl rfl (ks := []) (ts := []) (fr1 := []) rfl rfl rfl trivial (L74 k a0 a1 a2 a3 _ e17) ?_
      rintro _ _ _ ⟨rfl, rfl, rfl⟩
      refine ⟨_, _, rfl, rfl, ?_⟩
      refine PO.runK 2 [0] [] (es := [(8, .ptr 0 0), (9, .val (.int .i64 0))]) (fr' := [⟨0, (cGLine r16)⟩]) (tk' := []) (by kernel_rfl) ?_
      refine PO.nil ?_
      obtain rfl := Option.some.inj hF
      exact PC.ret' (retSK [] [] (by kernel_rfl) (.refl _) ⟨rfl, rfl, rfl⟩)

/-! 32 platen/platenlaw14.stays -/
def F32_l1 (k : Nat) (a0 : List GItem) (a1 : List GItem) : Nat → Int → Option ((Unit) ⊕ (Bool))
  | 0, _ => none
  | j10 + 1, v4 =>
    bif decide (v4 < (a1.length : Int)) then (bindI a0 v4 fun y6 =>
    bindI a1 v4 fun y7 =>
    bif !(y6.kind == y7.kind && (y6.font == y7.font && (y6.size == y7.size && (y6.rune == y7.rune && (y6.width == y7.width && (y6.height == y7.height && (y6.depth == y7.depth && (y6.stretch == y7.stretch && (y6.shrink == y7.shrink && (y6.value == y7.value && (y6.flag == y7.flag && (y6.from_ == y7.from_ && (y6.to_ == y7.to_ && true))))))))))))) then (some (.inr false)) else (F32_l1 k a0 a1 j10 (w (v4 + 1)))) else (some (.inl ()))
def F32 (k : Nat) (a0 : List GItem) (a1 : List GItem) : Option Bool :=
Option.bind (α := Bool) (bif (a0.length : Int) != (w ((a1.length : Int) + 1)) then (some true) else (bindI a0 (a1.length : Int) fun y2 =>
some (y2.kind != (-77)))) fun (v1 : Bool) =>
bif v1 then (some false) else (Option.bind (α := (Unit) ⊕ (Bool)) (F32_l1 k a0 a1 k 0) (Sum.elim (fun (_ : Unit) =>
some true) some))
theorem L32 (k : Nat) (a0 : List GItem) (a1 : List GItem) (r : Bool) (hF : F32 k a0 a1 = some r) : PF Try.prog orc 32 [.list 13 (List.map cGItem a0) none, .list 13 (List.map cGItem a1) none] [] [] (fun p fr tk => p = .val (.bool r) ∧ fr = [] ∧ tk = []) := by
  unfold F32 at hF
  refine PF.enterS Try.func32 rfl rfl rfl (by kernel_rfl) rfl ?_
  refine PC.run (n := 2) rfl ?_
  refine PC.assoc ?_
  refine PC.region ?_
  refine PO.run 1 rfl ?_
  refine PO.same rfl (len_ok Try.underlying42 rfl (List.length_map _)) rfl ?_
  refine PO.run 1 rfl ?_
  refine PO.same rfl (len_ok Try.underlying42 rfl (List.length_map _)) rfl ?_
  refine PO.run 3 rfl ?_
  obtain ⟨x1, e2, hF⟩ := bind_some hF
  refine PO.cut 8 (fun s => ∃ (v1 : Bool), Weak s (PS.of 36 [(0, .list 13 (List.map cGItem a0) none), (1, .list 13 (List.map cGItem a1) none), (4, .val (.bool false)), (20, .val (.bool v1))] [] [] 0 0) ∧ v1 = x1) ?_ ?_
  · refine PO.case (t := 12) rfl rfl (fun h3 => ?_) (fun h3 => ?_)
    · have e2 := bif_t h3 e2
      refine PO.run 7 rfl ?_
      refine PO.same rfl (pickT_ok rfl rfl rfl) rfl ?_
      refine PO.nil ?_
      obtain rfl := Option.some.inj e2
      exact ⟨true, Weak.one [] [] (by kernel_rfl), rfl⟩
    · have e2 := bif_f h3 e2
      refine PO.run 2 rfl ?_
      refine PO.same rfl (len_ok Try.underlying42 rfl (List.length_map _)) rfl ?_
      obtain ⟨y2, h4, h5, e2⟩ := bindI_some e2
      refine PO.same rfl (indexAddr_ok Try.underlying42 rfl rfl rfl h4 (map_at h5)) rfl ?_
      refine PO.run 3 rfl ?_
      refine PO.same rfl (pickF_ok rfl rfl rfl) rfl ?_
      refine PO.nil ?_
      obtain rfl := Option.some.inj e2
      exact ⟨y2.kind != (-77), Weak.one [] [] (by kernel_rfl), rfl⟩
  · rintro _ ⟨v1, w6, rfl⟩
    refine PO.weak w6 ?_
    refine PO.nil ?_
    refine PC.cond rfl (fun h7 => ?_) (fun h7 => ?_)
    · have hF := bif_t h7 hF
      refine PC.assoc ?_
      refine PC.run (n := 2) rfl ?_
      obtain rfl := Option.some.inj hF
      exact PC.ret (retSK [] [] (by kernel_rfl) (.refl _) ⟨rfl, rfl, rfl⟩)
    · have hF := bif_f h7 hF
      refine PC.noop ?_
      refine PC.assoc ?_
      refine PC.run (n := 2) rfl ?_
      obtain ⟨x8, e9, hF⟩ := bind_some hF
      refine PC.blockJ (fun s => Weak s (PS.of 36 [(4, .val (.bool false))] [] [] 0 0) ∧ .inl () = x8) ?_ ?_
      · refine PC.loop (fun j10 s => ∃ (v4 : Int), Weak s (PS.of 36 [(0, .list 13 (List.map cGItem a0) none), (1, .list 13 (List.map cGItem a1) none), (4, .val (.bool false)), (5, .val (.int .i64 v4))] [] [] 0 0) ∧ F32_l1 k a0 a1 j10 v4 = some x8) (fun j10 s => ?_) k ⟨0, Weak.one [] [] (by kernel_rfl), e9⟩
        rintro ⟨v4, w11, e9⟩
        refine PC.weak w11 ?_
        cases j10 with
        | zero => rw [F32_l1] at e9; cases e9
        | succ j10 =>
          rw [F32_l1] at e9
          refine PC.assoc ?_
          refine PC.region ?_
          refine PO.run 2 rfl ?_
          refine PO.same rfl (len_ok Try.underlying42 rfl (List.length_map _)) rfl ?_
          refine PO.run 1 rfl ?_
          refine PO.nil ?_
          refine PC.cond rfl (fun h12 => ?_) (fun h12 => ?_)
          · have e9 := bif_t h12 e9
            refine PC.noop ?_
            refine PC.block ?_
            refine PC.drawn (order := [0, 1, 2, 3, 4, 5, 6, 7, 8]) (by kernel_rfl) ?_
            refine PO.run 2 rfl ?_
            obtain ⟨y6, h13, h14, e9⟩ := bindI_some e9
            refine PO.same rfl (indexAddr_ok Try.underlying42 rfl rfl rfl h13 (map_at h14)) rfl ?_
            refine PO.run 3 rfl ?_
            obtain ⟨y7, h15, h16, e9⟩ := bindI_some e9
            refine PO.same rfl (indexAddr_ok Try.underlying42 rfl rfl rfl h15 (map_at h16)) rfl ?_
            refine PO.run 1 rfl ?_
            refine PO.same rfl (aggEq_ok (v := .bool (!(y6.kind == y7.kind && (y6.font == y7.font && (y6.size == y7.size && (y6.rune == y7.rune && (y6.width == y7.width && (y6.height == y7.height && (y6.depth == y7.depth && (y6.stretch == y7.stretch && (y6.shrink == y7.shrink && (y6.value == y7.value && (y6.flag == y7.flag && (y6.from_ == y7.from_ && (y6.to_ == y7.to_ && true))))))))))))))) rfl rfl rfl rfl rfl rfl rfl (by kernel_rfl)) rfl ?_
            refine PO.nil ?_
            refine PC.lone ?_
            refine PC.cond rfl (fun h17 => ?_) (fun h17 => ?_)
            · have e9 := bif_t h17 e9
              refine PC.assoc ?_
              refine PC.run (n := 2) rfl ?_
              obtain rfl := Option.some.inj e9
              obtain rfl := Option.some.inj hF
              exact PC.ret (blockKP.back (loopKP.ret (blockJK.back (retSK [] [] (by kernel_rfl) (.refl _) ⟨rfl, rfl, rfl⟩))))
            · have e9 := bif_f h17 e9
              refine PC.noop ?_
              refine PC.skip (blockKP.end ?_)
              refine PC.lone ?_
              refine PC.run (n := 4) rfl ?_
              exact PC.skip (loopKP.mk (Nat.lt_succ_self _) ⟨w (v4 + 1), Weak.one [] [] (by kernel_rfl), e9⟩)
          · have e9 := bif_f h12 e9
            obtain rfl := Option.some.inj e9
            exact PC.exit (loopKP.exit (blockJK.here ⟨Weak.one [] [] (by kernel_rfl), rfl⟩))
      · rintro _ ⟨w18, rfl⟩
        refine PC.weak w18 ?_
        have hF := elim_l hF
        refine PC.run (n := 2) rfl ?_
        obtain rfl := Option.some.inj hF
        exact PC.ret' (retSK [] [] (by kernel_rfl) (.refl _) ⟨rfl, rfl, rfl⟩)

/-! 9 platen/platenlaw14.LineTells -/
def F9_l1 (k : Nat) (a0 : List GItem) (a1 : List GAsk) (r5 : List GItem) : Nat → Int → Option ((Unit) ⊕ (Bool))
  | 0, _ => none
  | j9 + 1, v2 =>
    Option.bind (α := Bool) (bif decide (v2 < (a1.length : Int)) then (some (decide (v2 < 60))) else (some false)) fun (v4 : Bool) =>
    bif v4 then (bindI a1 v2 fun y5 =>
    bindS r5 0 (a0.length : Int) fun l6 =>
    (F34 k l6 y5.width y5.from_ y5.to_).bind fun r21 =>
    (F35 k a0 y5.width y5.from_ y5.to_).bind fun r23 =>
    Option.bind (α := Bool) (bif !(r21.1.first == r23.1.first && (r21.1.last == r23.1.last && (r21.1.break_ == r23.1.break_ && (r21.1.natural == r23.1.natural && (r21.1.stretch == r23.1.stretch && (r21.1.shrink == r23.1.shrink && (r21.1.short == r23.1.short && (r21.1.bad == r23.1.bad && (r21.1.class_ == r23.1.class_ && (r21.1.over_ == r23.1.over_ && (r21.1.hyphen == r23.1.hyphen && (r21.1.end_ == r23.1.end_ && (r21.1.height == r23.1.height && (r21.1.depth == r23.1.depth && true)))))))))))))) then (some true) else (some (r21.2 != r23.2))) fun (v7 : Bool) =>
    bif v7 then (some (.inr false)) else (F9_l1 k a0 a1 r5 j9 (w (v2 + 1)))) else (some (.inl ()))
def F9 (k : Nat) (a0 : List GItem) (a1 : List GAsk) : Option Bool :=
(F27 k a0).bind fun r1 =>
bif r1 then (some true) else ((F29 k a0).bind fun r5 =>
Option.bind (α := (Unit) ⊕ (Bool)) (F9_l1 k a0 a1 r5 k 0) (Sum.elim (fun (_ : Unit) =>
(F32 k r5 a0).bind fun r31 =>
some r31) some))
theorem L9 (k : Nat) (a0 : List GItem) (a1 : List GAsk) (r : Bool) (hF : F9 k a0 a1 = some r) : PF Try.prog orc 9 [.list 13 (List.map cGItem a0) none, .list 3 (List.map cGAsk a1) none] [] [] (fun p fr tk => p = .val (.bool r) ∧ fr = [] ∧ tk = []) := by
  unfold F9 at hF
  refine PF.enterS Try.func9 rfl rfl rfl (by kernel_rfl) rfl ?_
  refine PC.run (n := 2) rfl ?_
  refine PC.assoc ?_
  refine PC.region ?_
  refine PO.run 1 rfl ?_
  obtain ⟨r1, e2, hF⟩ := bind_some hF
  refine PO.call rfl rfl rfl rfl (ks := []) (ts := []) (fr1 := []) rfl rfl rfl trivial (L27 k a0 _ e2) ?_
  rintro _ _ _ ⟨rfl, rfl, rfl⟩
  refine ⟨_, _, rfl, rfl, ?_⟩
  refine PO.nil ?_
  refine PC.cond rfl (fun h3 => ?_) (fun h3 => ?_)
  · have hF := bif_t h3 hF
    refine PC.assoc ?_
    refine PC.run (n := 2) rfl ?_
    obtain rfl := Option.some.inj hF
    exact PC.ret (retSK [] [] (by kernel_rfl) (.refl _) ⟨rfl, rfl, rfl⟩)
  · have hF := bif_f h3 hF
    refine PC.noop ?_
    refine PC.assoc ?_
    refine PC.region ?_
    refine PO.call rfl rfl rfl rfl (ks := []) (ts := []) (fr1 := []) rfl rfl rfl trivial K28 ?_
    rintro _ _ _ ⟨rfl, rfl, rfl⟩
    refine ⟨_, _, rfl, rfl, ?_⟩
    refine PO.run 1 rfl ?_
    refine PO.nil ?_
    refine PC.cond rfl (fun h4 => Bool.noConfusion h4) (fun _ => ?_)
    refine PC.noop ?_
    refine PC.region ?_
    refine PO.run 1 rfl ?_
    obtain ⟨r5, e6, hF⟩ := bind_some hF
    refine PO.call rfl rfl rfl rfl (ks := []) (ts := []) (fr1 := []) rfl rfl rfl trivial (L29 k a0 _ e6) ?_
    rintro _ _ _ ⟨rfl, rfl, rfl⟩
    refine ⟨_, _, rfl, rfl, ?_⟩
    refine PO.run 1 rfl ?_
    refine PO.nil ?_
    refine PC.assoc ?_
    refine PC.run (n := 2) rfl ?_
    obtain ⟨x7, e8, hF⟩ := bind_some hF
    refine PC.blockJ (fun s => Weak s (PS.of 68 [(0, .list 13 (List.map cGItem a0) none), (4, .val (.bool false)), (5, .list 13 (List.map cGItem r5) none)] [] [] 0 0) ∧ .inl () = x7) ?_ ?_
    · refine PC.loop (fun j9 s => ∃ (v2 : Int), Weak s (PS.of 68 [(0, .list 13 (List.map cGItem a0) none), (1, .list 3 (List.map cGAsk a1) none), (4, .val (.bool false)), (5, .list 13 (List.map cGItem r5) none), (6, .val (.int .i64 v2))] [] [] 0 0) ∧ F9_l1 k a0 a1 r5 j9 v2 = some x7) (fun j9 s => ?_) k ⟨0, Weak.one [] [] (by kernel_rfl), e8⟩
      rintro ⟨v2, w10, e8⟩
      refine PC.weak w10 ?_
      cases j9 with
      | zero => rw [F9_l1] at e8; cases e8
      | succ j9 =>
        rw [F9_l1] at e8
        refine PC.assoc ?_
        refine PC.region ?_
        refine PO.run 2 rfl ?_
        refine PO.same rfl (len_ok Try.underlying53 rfl (List.length_map _)) rfl ?_
        refine PO.run 2 rfl ?_
        obtain ⟨x11, e12, e8⟩ := bind_some e8
        refine PO.cut 3 (fun s => ∃ (v4 : Bool), Weak s (PS.of 68 [(0, .list 13 (List.map cGItem a0) none), (1, .list 3 (List.map cGAsk a1) none), (4, .val (.bool false)), (5, .list 13 (List.map cGItem r5) none), (6, .val (.int .i64 v2)), (25, .val (.bool v4))] [] [] 0 0) ∧ v4 = x11) ?_ ?_
        · refine PO.case (t := 22) rfl rfl (fun h13 => ?_) (fun h13 => ?_)
          · have e12 := bif_t h13 e12
            refine PO.run 2 rfl ?_
            refine PO.same rfl (pickT_ok rfl rfl rfl) rfl ?_
            refine PO.nil ?_
            obtain rfl := Option.some.inj e12
            exact ⟨decide (v2 < 60), Weak.one [] [] (by kernel_rfl), rfl⟩
          · have e12 := bif_f h13 e12
            refine PO.run 2 rfl ?_
            refine PO.same rfl (pickF_ok rfl rfl rfl) rfl ?_
            refine PO.nil ?_
            obtain rfl := Option.some.inj e12
            exact ⟨false, Weak.one [] [] (by kernel_rfl), rfl⟩
        · rintro _ ⟨v4, w14, rfl⟩
          refine PO.weak w14 ?_
          refine PO.nil ?_
          refine PC.cond rfl (fun h15 => ?_) (fun h15 => ?_)
          · have e8 := bif_t h15 e8
            refine PC.noop ?_
            refine PC.block ?_
            refine PC.region ?_
            refine PO.run 2 rfl ?_
            obtain ⟨y5, h16, h17, e8⟩ := bindI_some e8
            refine PO.same rfl (indexAddr_ok Try.underlying53 rfl rfl rfl h16 (map_at h17)) rfl ?_
            refine PO.runK 3 [0] [] (es := [(0, .list 13 (List.map cGItem a0) none), (1, .list 3 (List.map cGAsk a1) none), (4, .val (.bool false)), (5, .list 13 (List.map cGItem r5) none), (6, .val (.int .i64 v2)), (7, .ptr 0 0)]) (fr' := [⟨0, (cGAsk y5)⟩]) (tk' := []) (by kernel_rfl) ?_
            refine PO.nil ?_
            refine PC.draw [0, 1, 2, 3, 4, 5, 6, 7, 8, 9, 10, 11, 12, 14, 15, 13, 16] (by kernel_rfl) ?_
            refine PD.runK 2 (js' := [2, 3, 4, 5, 6, 7, 8, 9, 10, 11, 12, 14, 15, 13, 16]) (σ' := ⟨3, 0, 0, []⟩) (es := [(0, .list 13 (List.map cGItem a0) none), (1, .list 3 (List.map cGAsk a1) none), (4, .val (.bool false)), (5, .list 13 (List.map cGItem r5) none), (6, .val (.int .i64 v2)), (7, .ptr 0 0), (33, .list 13 (List.map cGItem r5) none), (34, .list 13 (List.map cGItem a0) none)]) (fr' := [⟨0, (cGAsk y5)⟩]) (tk' := []) (by kernel_rfl) ?_
            refine PD.pureS rfl (by kernel_rfl) rfl (len_ok Try.underlying42 rfl (List.length_map _)) rfl ?_
            obtain ⟨h18, h19, h20, e8⟩ := bindS_some e8
            generalize hgl6 : (List.take (Int.toNat (a0.length : Int)) r5).drop (Int.toNat 0) = l6 at e8
            refine PD.readS rfl (by kernel_rfl) rfl (slice_ok (l2 := List.map cGItem l6) Try.underlying42 rfl rfl .none (.some rfl (Int.le_trans h18 h19) rfl) (Int.toNat_le_toNat h19) (toNat_le1 h20) (by rw [← hgl6, List.map_drop, List.map_take] <;> first | rfl | simp [w])) rfl ?_
            refine PD.runK 6 (js' := [10, 11, 12, 14, 15, 13, 16]) (σ' := ⟨1023, 0, 0, []⟩) (es := [(0, .list 13 (List.map cGItem a0) none), (1, .list 3 (List.map cGAsk a1) none), (4, .val (.bool false)), (5, .list 13 (List.map cGItem r5) none), (6, .val (.int .i64 v2)), (7, .ptr 0 0), (36, .list 13 (List.map cGItem l6) none), (38, .val (.int .i64 y5.width)), (40, .val (.int .i64 y5.from_)), (42, .val (.int .i64 y5.to_))]) (fr' := [⟨0, (cGAsk y5)⟩]) (tk' := []) (by kernel_rfl) ?_
            obtain ⟨r21, e22, e8⟩ := bind_some e8
            refine PD.call rfl rfl (by kernel_rfl) rfl rfl rfl (ks := []) (ts := []) (fr1 := []) rfl rfl rfl trivial (L34 k l6 y5.width y5.from_ y5.to_ _ e22) ?_
            rintro _ _ _ ⟨rfl, rfl, rfl⟩
            refine ⟨_, _, rfl, rfl, ?_⟩
            refine PD.runK 6 (js' := []) (σ' := ⟨131071, 57343, 24575, [(15, [1], false), (10, [1], true)]⟩) (es := [(0, .list 13 (List.map cGItem a0) none), (1, .list 3 (List.map cGAsk a1) none), (4, .val (.bool false)), (5, .list 13 (List.map cGItem r5) none), (6, .val (.int .i64 v2)), (7, .ptr 0 0), (8, .ptr 1 0), (9, .val (.int .i64 r21.2))]) (fr' := [⟨0, (cGAsk y5)⟩, ⟨0, (cGLine r21.1)⟩]) (tk' := []) (by kernel_rfl) ?_
            refine PD.done [0, 1] [] (es := [(0, .list 13 (List.map cGItem a0) none), (1, .list 3 (List.map cGAsk a1) none), (4, .val (.bool false)), (5, .list 13 (List.map cGItem r5) none), (6, .val (.int .i64 v2)), (7, .ptr 0 0), (8, .ptr 1 0), (9, .val (.int .i64 r21.2))]) (fr' := [⟨0, (cGAsk y5)⟩, ⟨0, (cGLine r21.1)⟩]) (tk' := []) (by kernel_rfl) (by kernel_rfl) ?_
            refine PC.region ?_
            refine PO.run 7 rfl ?_
            obtain ⟨r23, e24, e8⟩ := bind_some e8
            refine PO.call rfl rfl rfl rfl (ks := []) (ts := []) (fr1 := []) rfl rfl rfl trivial (L35 k a0 y5.width y5.from_ y5.to_ _ e24) ?_
            rintro _ _ _ ⟨rfl, rfl, rfl⟩
            refine ⟨_, _, rfl, rfl, ?_⟩
            refine PO.runK 6 [1, 2] [] (es := [(0, .list 13 (List.map cGItem a0) none), (1, .list 3 (List.map cGAsk a1) none), (4, .val (.bool false)), (5, .list 13 (List.map cGItem r5) none), (6, .val (.int .i64 v2)), (8, .ptr 0 0), (9, .val (.int .i64 r21.2)), (10, .ptr 1 0), (11, .val (.int .i64 r23.2))]) (fr' := [⟨0, (cGLine r21.1)⟩, ⟨0, (cGLine r23.1)⟩]) (tk' := []) (by kernel_rfl) ?_
            refine PO.nil ?_
            refine PC.region ?_
            refine PO.run 2 rfl ?_
            refine PO.same rfl (aggEq_ok (v := .bool (!(r21.1.first == r23.1.first && (r21.1.last == r23.1.last && (r21.1.break_ == r23.1.break_ && (r21.1.natural == r23.1.natural && (r21.1.stretch == r23.1.stretch && (r21.1.shrink == r23.1.shrink && (r21.1.short == r23.1.short && (r21.1.bad == r23.1.bad && (r21.1.class_ == r23.1.class_ && (r21.1.over_ == r23.1.over_ && (r21.1.hyphen == r23.1.hyphen && (r21.1.end_ == r23.1.end_ && (r21.1.height == r23.1.height && (r21.1.depth == r23.1.depth && true)))))))))))))))) rfl rfl rfl rfl rfl rfl rfl (by kernel_rfl)) rfl ?_
            refine PO.run 1 rfl ?_
            obtain ⟨x25, e26, e8⟩ := bind_some e8
            refine PO.cut 4 (fun s => ∃ (v7 : Bool), Weak s (PS.of 68 [(0, .list 13 (List.map cGItem a0) none), (1, .list 3 (List.map cGAsk a1) none), (4, .val (.bool false)), (5, .list 13 (List.map cGItem r5) none), (6, .val (.int .i64 v2)), (64, .val (.bool v7))] [] [] 0 0) ∧ v7 = x25) ?_ ?_
            · refine PO.case (t := 60) rfl rfl (fun h27 => ?_) (fun h27 => ?_)
              · have e26 := bif_t h27 e26
                refine PO.run 3 rfl ?_
                refine PO.same rfl (pickT_ok rfl rfl rfl) rfl ?_
                refine PO.nil ?_
                obtain rfl := Option.some.inj e26
                exact ⟨true, Weak.one [] [] (by kernel_rfl), rfl⟩
              · have e26 := bif_f h27 e26
                refine PO.run 3 rfl ?_
                refine PO.same rfl (pickF_ok rfl rfl rfl) rfl ?_
                refine PO.nil ?_
                obtain rfl := Option.some.inj e26
                exact ⟨r21.2 != r23.2, Weak.one [] [] (by kernel_rfl), rfl⟩
            · rintro _ ⟨v7, w28, rfl⟩
              refine PO.weak w28 ?_
              refine PO.nil ?_
              refine PC.lone ?_
              refine PC.cond rfl (fun h29 => ?_) (fun h29 => ?_)
              · have e8 := bif_t h29 e8
                refine PC.assoc ?_
                refine PC.run (n := 2) rfl ?_
                obtain rfl := Option.some.inj e8
                obtain rfl := Option.some.inj hF
                exact PC.ret (blockKP.back (loopKP.ret (blockJK.back (retSK [] [] (by kernel_rfl) (.refl _) ⟨rfl, rfl, rfl⟩))))
              · have e8 := bif_f h29 e8
                refine PC.noop ?_
                refine PC.skip (blockKP.end ?_)
                refine PC.lone ?_
                refine PC.run (n := 4) rfl ?_
                exact PC.skip (loopKP.mk (Nat.lt_succ_self _) ⟨w (v2 + 1), Weak.one [] [] (by kernel_rfl), e8⟩)
          · have e8 := bif_f h15 e8
            obtain rfl := Option.some.inj e8
            exact PC.exit (loopKP.exit (blockJK.here ⟨Weak.one [] [] (by kernel_rfl), rfl⟩))
    · rintro _ ⟨w30, rfl⟩
      refine PC.weak w30 ?_
      have hF := elim_l hF
      refine PC.region ?_
      refine PO.run 2 rfl ?_
      obtain ⟨r31, e32, hF⟩ := bind_some hF
      refine PO.call rfl rfl rfl rfl (ks := []) (ts := []) (fr1 := []) rfl rfl rfl trivial (L32 k r5 a0 _ e32) ?_
      rintro _ _ _ ⟨rfl, rfl, rfl⟩
      refine ⟨_, _, rfl, rfl, ?_⟩
      refine PO.run 1 rfl ?_
      refine PO.nil ?_
      obtain rfl := Option.some.inj hF
      exact PC.ret' (retSK [] [] (by kernel_rfl) (.refl _) ⟨rfl, rfl, rfl⟩)

end
end Go.Eng.Lift
