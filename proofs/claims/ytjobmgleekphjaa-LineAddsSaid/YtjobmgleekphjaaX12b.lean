import Derived.Test.YtjobmgleekphjaaX12a
import Derived.Test.YtjobmgleekphjaaProg
import Derived.KernelRfl
set_option linter.unusedVariables false
set_option linter.unusedSimpArgs false
set_option maxRecDepth 100000
set_option maxHeartbeats 4000000
namespace Go.Eng.Lift
open Go.Proofs
noncomputable section
/-! 38 platen/line.Cost -/
def F38_l1 (k : Nat) (a0 : List GItem) (a1 : Int) (a2 : Int) (a3 : List Int) : Nat → Int → Int → Int → Int → Int → Int → Int → Int → Int → Int → Int → Int → Int → Bool → Bool → Bool → Int → Int → Option (Int × Int)
  | 0, _, _, _, _, _, _, _, _, _, _, _, _, _, _, _, _, _, _ => none
  | j28 + 1, v26, v27, v28, v29, v30, v31, v32, v33, v34, v35, v36, v37, v38, v39, v40, v41, v42, v43 =>
    bif decide (v27 < (a3.length : Int)) then (bindI a3 v27 fun y62 =>
    (F71 k a0 a1 v26 y62).bind fun r33 =>
    Option.bind (α := Bool) (bif r33.over_ then (some true) else (some (decide (r33.bad > a2)))) fun (v63 : Bool) =>
    Option.bind (α := Int) (bif v63 then (some (w (v28 + 1))) else (some v28)) fun (v64 : Int) =>
    (F36 k a0 (GLine.mk v30 v31 v32 v33 v34 v35 v36 v37 v38 v39 v40 v41 v42 v43) r33).bind fun r43 =>
    F38_l1 k a0 a1 a2 a3 j28 y62 (w (v27 + 1)) v64 (w (v29 + r43)) r33.first r33.last r33.break_ r33.natural r33.stretch r33.shrink r33.short r33.bad r33.class_ r33.over_ r33.hyphen r33.end_ r33.height r33.depth) else (some (v28, v29))
def F38 (k : Nat) (a0 : List GItem) (a1 : Int) (a2 : Int) (a3 : List Int) : Option (GCost × Int) :=
(F64 k a0).bind fun r1 =>
Option.bind (α := Bool) (bif r1 != 0 then (some true) else (Option.bind (α := Bool) (bif decide (a1 < 1) then (some true) else (Option.bind (α := Bool) (bif decide (a1 > 536870912) then (some true) else (Option.bind (α := Bool) (bif decide (a2 < 0) then (some true) else (Option.bind (α := Bool) (bif decide (a2 > 10000) then (some true) else ((F77 k a0 a3).bind fun r18 =>
some (!r18))) fun (v5 : Bool) =>
some v5)) fun (v4 : Bool) =>
some v4)) fun (v3 : Bool) =>
some v3)) fun (v2 : Bool) =>
some v2)) fun (v1 : Bool) =>
bif v1 then (some ((GCost.mk 0 0 0), 1)) else (Option.bind (α := Int × Int) (F38_l1 k a0 a1 a2 a3 k (-1) 0 0 0 (-1) 0 0 0 0 0 0 0 0 false false false 0 0) fun (v6, v7) =>
some ((GCost.mk v6 v7 (a3.length : Int)), 0))
theorem L38 (k : Nat) (a0 : List GItem) (a1 : Int) (a2 : Int) (a3 : List Int) (r : GCost × Int) (hF : F38 k a0 a1 a2 a3 = some r) : PF Try.prog orc 38 [.list 13 (List.map cGItem a0) none, .val (.int .i64 a1), .val (.int .i64 a2), .list 1 (List.map cI_i64 a3) none] [] [] (fun p fr tk => p = .tup [.agg (cGCost r.1), .val (.int .i64 r.2)] ∧ fr = [] ∧ tk = []) := by
  unfold F38 at hF
  refine PF.enterS Try.func38 rfl rfl rfl (by kernel_rfl) rfl ?_
  refine PC.region ?_
  refine PO.runK 2 [0] [] (es := [(0, .list 13 (List.map cGItem a0) none), (1, .val (.int .i64 a1)), (2, .val (.int .i64 a2)), (3, .list 1 (List.map cI_i64 a3) none), (8, .ptr 0 0), (9, .val (.int .i64 0))]) (fr' := [⟨0, [.val (.int .i64 0), .val (.int .i64 0), .val (.int .i64 0)]⟩]) (tk' := []) (by kernel_rfl) ?_
  refine PO.nil ?_
  refine PC.assoc ?_
  refine PC.region ?_
  refine PO.run 1 rfl ?_
  refine bindK hF (fun r1 e2 hF => ?_)
  refine PO.call rfl rfl rfl rfl (ks := []) (ts := []) (fr1 := []) rfl rfl rfl trivial (L64 k a0 _ e2) ?_
  rintro _ _ _ ⟨rfl, rfl, rfl⟩
  refine ⟨_, _, rfl, rfl, ?_⟩
  refine PO.run 2 rfl ?_
  refine bindK hF (fun x3 e4 hF => ?_)
  refine PO.cut 21 (fun s => ∃ (v1 : Bool), Weak s (PS.of 81 [(0, .list 13 (List.map cGItem a0) none), (1, .val (.int .i64 a1)), (2, .val (.int .i64 a2)), (3, .list 1 (List.map cI_i64 a3) none), (8, .ptr 0 0), (9, .val (.int .i64 0)), (40, .val (.bool v1))] [⟨0, [.val (.int .i64 0), .val (.int .i64 0), .val (.int .i64 0)]⟩] [] 0 0) ∧ v1 = x3) ?_ ?_
  · refine PO.case (t := 19) rfl rfl (fun h5 => ?_) (fun h5 => ?_)
    · have e4 := bif_t h5 e4
      refine PO.run 2 rfl ?_
      refine PO.same rfl (pickT_ok rfl rfl rfl) rfl ?_
      refine PO.run 3 rfl ?_
      refine PO.same rfl (pickT_ok rfl rfl rfl) rfl ?_
      refine PO.run 3 rfl ?_
      refine PO.same rfl (pickT_ok rfl rfl rfl) rfl ?_
      refine PO.run 3 rfl ?_
      refine PO.same rfl (pickT_ok rfl rfl rfl) rfl ?_
      refine PO.run 5 rfl ?_
      refine PO.same rfl (pickT_ok rfl rfl rfl) rfl ?_
      refine PO.nil ?_
      obtain rfl := Option.some.inj e4
      exact ⟨true, Weak.one [0] [] (by kernel_rfl), rfl⟩
    · have e4 := bif_f h5 e4
      refine PO.run 2 rfl ?_
      refine PO.same rfl (pickF_ok rfl rfl rfl) rfl ?_
      refine PO.run 1 rfl ?_
      refine bindK e4 (fun x6 e7 e4 => ?_)
      refine PO.cut 17 (fun s => ∃ (v2 : Bool), Weak s (PS.of 81 [(0, .list 13 (List.map cGItem a0) none), (1, .val (.int .i64 a1)), (2, .val (.int .i64 a2)), (3, .list 1 (List.map cI_i64 a3) none), (8, .ptr 0 0), (9, .val (.int .i64 0)), (40, .val (.bool v2))] [⟨0, [.val (.int .i64 0), .val (.int .i64 0), .val (.int .i64 0)]⟩] [] 0 0) ∧ v2 = x6) ?_ ?_
      · refine PO.case (t := 23) rfl rfl (fun h8 => ?_) (fun h8 => ?_)
        · have e7 := bif_t h8 e7
          refine PO.run 2 rfl ?_
          refine PO.same rfl (pickT_ok rfl rfl rfl) rfl ?_
          refine PO.run 3 rfl ?_
          refine PO.same rfl (pickT_ok rfl rfl rfl) rfl ?_
          refine PO.run 3 rfl ?_
          refine PO.same rfl (pickT_ok rfl rfl rfl) rfl ?_
          refine PO.run 5 rfl ?_
          refine PO.same rfl (pickT_ok rfl rfl rfl) rfl ?_
          refine PO.nil ?_
          obtain rfl := Option.some.inj e7
          exact ⟨true, Weak.one [0] [] (by kernel_rfl), rfl⟩
        · have e7 := bif_f h8 e7
          refine PO.run 2 rfl ?_
          refine PO.same rfl (pickF_ok rfl rfl rfl) rfl ?_
          refine PO.run 1 rfl ?_
          refine bindK e7 (fun x9 e10 e7 => ?_)
          refine PO.cut 13 (fun s => ∃ (v3 : Bool), Weak s (PS.of 81 [(0, .list 13 (List.map cGItem a0) none), (1, .val (.int .i64 a1)), (2, .val (.int .i64 a2)), (3, .list 1 (List.map cI_i64 a3) none), (8, .ptr 0 0), (9, .val (.int .i64 0)), (40, .val (.bool v3))] [⟨0, [.val (.int .i64 0), .val (.int .i64 0), .val (.int .i64 0)]⟩] [] 0 0) ∧ v3 = x9) ?_ ?_
          · refine PO.case (t := 27) rfl rfl (fun h11 => ?_) (fun h11 => ?_)
            · have e10 := bif_t h11 e10
              refine PO.run 2 rfl ?_
              refine PO.same rfl (pickT_ok rfl rfl rfl) rfl ?_
              refine PO.run 3 rfl ?_
              refine PO.same rfl (pickT_ok rfl rfl rfl) rfl ?_
              refine PO.run 5 rfl ?_
              refine PO.same rfl (pickT_ok rfl rfl rfl) rfl ?_
              refine PO.nil ?_
              obtain rfl := Option.some.inj e10
              exact ⟨true, Weak.one [0] [] (by kernel_rfl), rfl⟩
            · have e10 := bif_f h11 e10
              refine PO.run 2 rfl ?_
              refine PO.same rfl (pickF_ok rfl rfl rfl) rfl ?_
              refine PO.run 1 rfl ?_
              refine bindK e10 (fun x12 e13 e10 => ?_)
              refine PO.cut 9 (fun s => ∃ (v4 : Bool), Weak s (PS.of 81 [(0, .list 13 (List.map cGItem a0) none), (1, .val (.int .i64 a1)), (2, .val (.int .i64 a2)), (3, .list 1 (List.map cI_i64 a3) none), (8, .ptr 0 0), (9, .val (.int .i64 0)), (40, .val (.bool v4))] [⟨0, [.val (.int .i64 0), .val (.int .i64 0), .val (.int .i64 0)]⟩] [] 0 0) ∧ v4 = x12) ?_ ?_
              · refine PO.case (t := 31) rfl rfl (fun h14 => ?_) (fun h14 => ?_)
                · have e13 := bif_t h14 e13
                  refine PO.run 2 rfl ?_
                  refine PO.same rfl (pickT_ok rfl rfl rfl) rfl ?_
                  refine PO.run 5 rfl ?_
                  refine PO.same rfl (pickT_ok rfl rfl rfl) rfl ?_
                  refine PO.nil ?_
                  obtain rfl := Option.some.inj e13
                  exact ⟨true, Weak.one [0] [] (by kernel_rfl), rfl⟩
                · have e13 := bif_f h14 e13
                  refine PO.run 2 rfl ?_
                  refine PO.same rfl (pickF_ok rfl rfl rfl) rfl ?_
                  refine PO.run 1 rfl ?_
                  refine bindK e13 (fun x15 e16 e13 => ?_)
                  refine PO.cut 5 (fun s => ∃ (v5 : Bool), Weak s (PS.of 81 [(0, .list 13 (List.map cGItem a0) none), (1, .val (.int .i64 a1)), (2, .val (.int .i64 a2)), (3, .list 1 (List.map cI_i64 a3) none), (8, .ptr 0 0), (9, .val (.int .i64 0)), (40, .val (.bool v5))] [⟨0, [.val (.int .i64 0), .val (.int .i64 0), .val (.int .i64 0)]⟩] [] 0 0) ∧ v5 = x15) ?_ ?_
                  · refine PO.case (t := 35) rfl rfl (fun h17 => ?_) (fun h17 => ?_)
                    · have e16 := bif_t h17 e16
                      refine PO.run 4 rfl ?_
                      refine PO.same rfl (pickT_ok rfl rfl rfl) rfl ?_
                      refine PO.nil ?_
                      obtain rfl := Option.some.inj e16
                      exact ⟨true, Weak.one [0] [] (by kernel_rfl), rfl⟩
                    · have e16 := bif_f h17 e16
                      refine PO.run 2 rfl ?_
                      refine bindK e16 (fun r18 e19 e16 => ?_)
                      refine PO.call rfl rfl rfl rfl (ks := []) (ts := []) (fr1 := []) rfl rfl rfl trivial (L77 k a0 a3 _ e19) ?_
                      rintro _ _ _ ⟨rfl, rfl, rfl⟩
                      refine ⟨_, _, rfl, rfl, ?_⟩
                      refine PO.run 1 rfl ?_
                      refine PO.same rfl (pickF_ok rfl rfl rfl) rfl ?_
                      refine PO.nil ?_
                      obtain rfl := Option.some.inj e16
                      exact ⟨!r18, Weak.one [0] [] (by kernel_rfl), rfl⟩
                  · rintro _ ⟨v5, w20, rfl⟩
                    refine PO.weak w20 ?_
                    refine PO.nil ?_
                    obtain rfl := Option.some.inj e13
                    exact ⟨v5, Weak.one [0] [] (by kernel_rfl), rfl⟩
              · rintro _ ⟨v4, w21, rfl⟩
                refine PO.weak w21 ?_
                refine PO.nil ?_
                obtain rfl := Option.some.inj e10
                exact ⟨v4, Weak.one [0] [] (by kernel_rfl), rfl⟩
          · rintro _ ⟨v3, w22, rfl⟩
            refine PO.weak w22 ?_
            refine PO.nil ?_
            obtain rfl := Option.some.inj e7
            exact ⟨v3, Weak.one [0] [] (by kernel_rfl), rfl⟩
      · rintro _ ⟨v2, w23, rfl⟩
        refine PO.weak w23 ?_
        refine PO.nil ?_
        obtain rfl := Option.some.inj e4
        exact ⟨v2, Weak.one [0] [] (by kernel_rfl), rfl⟩
  · rintro _ ⟨v1, w24, rfl⟩
    refine PO.weak w24 ?_
    refine PO.nil ?_
    refine PC.cond rfl (fun h25 => ?_) (fun h25 => ?_)
    · have hF := bif_t h25 hF
      refine PC.assoc ?_
      refine PC.region ?_
      refine PO.runK 3 [0] [] (es := [(8, .ptr 0 0), (9, .val (.int .i64 1))]) (fr' := [⟨0, [.val (.int .i64 0), .val (.int .i64 0), .val (.int .i64 0)]⟩]) (tk' := []) (by kernel_rfl) ?_
      refine PO.nil ?_
      obtain rfl := Option.some.inj hF
      exact PC.ret (retSK [] [] (by kernel_rfl) (.refl _) ⟨rfl, rfl, rfl⟩)
    · have hF := bif_f h25 hF
      refine PC.noop ?_
      refine PC.region ?_
      refine PO.run 1 rfl ?_
      refine PO.same rfl (len_ok Try.underlying43 rfl (List.length_map _)) rfl ?_
      refine PO.runK 3 [0, 1] [] (es := [(0, .list 13 (List.map cGItem a0) none), (1, .val (.int .i64 a1)), (2, .val (.int .i64 a2)), (3, .list 1 (List.map cI_i64 a3) none), (8, .ptr 0 0), (9, .val (.int .i64 0)), (10, .ptr 1 0)]) (fr' := [⟨0, [.val (.int .i64 0), .val (.int .i64 0), .val (.int .i64 0)]⟩, ⟨0, [.val (.int .i64 0), .val (.int .i64 0), .val (.int .i64 (a3.length : Int))]⟩]) (tk' := []) (by kernel_rfl) ?_
      refine PO.nil ?_
      refine PC.region ?_
      refine PO.runK 4 [0, 1, 2] [] (es := [(0, .list 13 (List.map cGItem a0) none), (1, .val (.int .i64 a1)), (2, .val (.int .i64 a2)), (3, .list 1 (List.map cI_i64 a3) none), (8, .ptr 0 0), (9, .val (.int .i64 0)), (10, .ptr 1 0), (11, .ptr 2 0), (12, .val (.int .i64 (-1)))]) (fr' := [⟨0, [.val (.int .i64 0), .val (.int .i64 0), .val (.int .i64 0)]⟩, ⟨0, [.val (.int .i64 0), .val (.int .i64 0), .val (.int .i64 (a3.length : Int))]⟩, ⟨0, [.val (.int .i64 (-1)), .val (.int .i64 0), .val (.int .i64 0), .val (.int .i64 0), .val (.int .i64 0), .val (.int .i64 0), .val (.int .i64 0), .val (.int .i64 0), .val (.int .i64 0), .val (.bool false), .val (.bool false), .val (.bool false), .val (.int .i64 0), .val (.int .i64 0)]⟩]) (tk' := []) (by kernel_rfl) ?_
      refine PO.nil ?_
      refine PC.assoc ?_
      refine PC.region ?_
      refine PO.run 1 rfl ?_
      refine PO.same rfl (len_ok Try.underlying43 rfl (List.length_map _)) rfl ?_
      refine PO.run 1 rfl ?_
      refine PO.nil ?_
      refine bindK hF (fun x26 e27 hF => ?_)
      refine PC.blockJ (fun s => ∃ (v6 : Int) (v7 : Int), Weak s (PS.of 81 [(8, .ptr 0 0), (9, .val (.int .i64 0)), (10, .ptr 1 0)] [⟨0, [.val (.int .i64 0), .val (.int .i64 0), .val (.int .i64 0)]⟩, ⟨0, [.val (.int .i64 v6), .val (.int .i64 v7), .val (.int .i64 (a3.length : Int))]⟩] [] 0 0) ∧ (v6, v7) = x26) ?_ ?_
      · refine PC.loop (fun j28 s => ∃ (v26 : Int) (v27 : Int) (v28 : Int) (v29 : Int) (v30 : Int) (v31 : Int) (v32 : Int) (v33 : Int) (v34 : Int) (v35 : Int) (v36 : Int) (v37 : Int) (v38 : Int) (v39 : Bool) (v40 : Bool) (v41 : Bool) (v42 : Int) (v43 : Int), Weak s (PS.of 81 [(0, .list 13 (List.map cGItem a0) none), (1, .val (.int .i64 a1)), (2, .val (.int .i64 a2)), (8, .ptr 0 0), (9, .val (.int .i64 0)), (10, .ptr 1 0), (11, .ptr 2 0), (12, .val (.int .i64 v26)), (46, .list 1 (List.map cI_i64 a3) none), (47, .val (.int .i64 (a3.length : Int))), (48, .val (.int .i64 v27))] [⟨0, [.val (.int .i64 0), .val (.int .i64 0), .val (.int .i64 0)]⟩, ⟨0, [.val (.int .i64 v28), .val (.int .i64 v29), .val (.int .i64 (a3.length : Int))]⟩, ⟨0, [.val (.int .i64 v30), .val (.int .i64 v31), .val (.int .i64 v32), .val (.int .i64 v33), .val (.int .i64 v34), .val (.int .i64 v35), .val (.int .i64 v36), .val (.int .i64 v37), .val (.int .i64 v38), .val (.bool v39), .val (.bool v40), .val (.bool v41), .val (.int .i64 v42), .val (.int .i64 v43)]⟩] [] 0 0) ∧ F38_l1 k a0 a1 a2 a3 j28 v26 v27 v28 v29 v30 v31 v32 v33 v34 v35 v36 v37 v38 v39 v40 v41 v42 v43 = some x26) (fun j28 s => ?_) k ⟨(-1), 0, 0, 0, (-1), 0, 0, 0, 0, 0, 0, 0, 0, false, false, false, 0, 0, Weak.one [0, 1, 2] [] (by kernel_rfl), e27⟩
        rintro ⟨v26, v27, v28, v29, v30, v31, v32, v33, v34, v35, v36, v37, v38, v39, v40, v41, v42, v43, w29, e27⟩
        refine PC.weak w29 ?_
        cases j28 with
        | zero => rw [F38_l1] at e27; cases e27
        | succ j28 =>
          rw [F38_l1] at e27
          refine PC.run (n := 2) rfl ?_
          refine PC.cond rfl (fun h30 => ?_) (fun h30 => ?_)
          · have e27 := bif_t h30 e27
            refine PC.noop ?_
            refine PC.block ?_
            refine PC.region ?_
            refine bindIK e27 (fun y62 h31 h32 e27 => ?_)
            refine PO.same rfl (indexAddr_ok Try.underlying43 rfl rfl rfl h31 (map_at h32)) rfl ?_
            refine PO.run 2 rfl ?_
            refine PO.nil ?_
            refine PC.region ?_
            refine PO.run 4 rfl ?_
            refine bindK e27 (fun r33 e34 e27 => ?_)
            refine PO.call rfl rfl rfl rfl (ks := []) (ts := []) (fr1 := []) rfl rfl rfl trivial (L71 k a0 a1 v26 y62 _ e34) ?_
            rintro _ _ _ ⟨rfl, rfl, rfl⟩
            refine ⟨_, _, rfl, rfl, ?_⟩
            refine PO.runK 2 [0, 1, 2, 3] [] (es := [(0, .list 13 (List.map cGItem a0) none), (1, .val (.int .i64 a1)), (2, .val (.int .i64 a2)), (8, .ptr 0 0), (9, .val (.int .i64 0)), (10, .ptr 1 0), (11, .ptr 2 0), (12, .val (.int .i64 v26)), (14, .val (.int .i64 y62)), (15, .ptr 3 0), (46, .list 1 (List.map cI_i64 a3) none), (47, .val (.int .i64 (a3.length : Int))), (48, .val (.int .i64 v27))]) (fr' := [⟨0, [.val (.int .i64 0), .val (.int .i64 0), .val (.int .i64 0)]⟩, ⟨0, [.val (.int .i64 v28), .val (.int .i64 v29), .val (.int .i64 (a3.length : Int))]⟩, ⟨0, [.val (.int .i64 v30), .val (.int .i64 v31), .val (.int .i64 v32), .val (.int .i64 v33), .val (.int .i64 v34), .val (.int .i64 v35), .val (.int .i64 v36), .val (.int .i64 v37), .val (.int .i64 v38), .val (.bool v39), .val (.bool v40), .val (.bool v41), .val (.int .i64 v42), .val (.int .i64 v43)]⟩, ⟨0, (cGLine r33)⟩]) (tk' := []) (by kernel_rfl) ?_
            refine PO.nil ?_
            refine PC.assoc ?_
            refine PC.region ?_
            refine PO.run 3 rfl ?_
            refine bindK e27 (fun x35 e36 e27 => ?_)
            refine PO.cut 5 (fun s => ∃ (v63 : Bool), Weak s (PS.of 81 [(0, .list 13 (List.map cGItem a0) none), (1, .val (.int .i64 a1)), (2, .val (.int .i64 a2)), (8, .ptr 0 0), (9, .val (.int .i64 0)), (10, .ptr 1 0), (11, .ptr 2 0), (12, .val (.int .i64 v26)), (14, .val (.int .i64 y62)), (15, .ptr 3 0), (46, .list 1 (List.map cI_i64 a3) none), (47, .val (.int .i64 (a3.length : Int))), (48, .val (.int .i64 v27)), (64, .val (.bool v63))] [⟨0, [.val (.int .i64 0), .val (.int .i64 0), .val (.int .i64 0)]⟩, ⟨0, [.val (.int .i64 v28), .val (.int .i64 v29), .val (.int .i64 (a3.length : Int))]⟩, ⟨0, [.val (.int .i64 v30), .val (.int .i64 v31), .val (.int .i64 v32), .val (.int .i64 v33), .val (.int .i64 v34), .val (.int .i64 v35), .val (.int .i64 v36), .val (.int .i64 v37), .val (.int .i64 v38), .val (.bool v39), .val (.bool v40), .val (.bool v41), .val (.int .i64 v42), .val (.int .i64 v43)]⟩, ⟨0, (cGLine r33)⟩] [] 0 0) ∧ v63 = x35) ?_ ?_
            · refine PO.case (t := 59) rfl rfl (fun h37 => ?_) (fun h37 => ?_)
              · have e36 := bif_t h37 e36
                refine PO.run 4 rfl ?_
                refine PO.same rfl (pickT_ok rfl rfl rfl) rfl ?_
                refine PO.nil ?_
                obtain rfl := Option.some.inj e36
                exact ⟨true, Weak.one [0, 1, 2, 3] [] (by kernel_rfl), rfl⟩
              · have e36 := bif_f h37 e36
                refine PO.run 4 rfl ?_
                refine PO.same rfl (pickF_ok rfl rfl rfl) rfl ?_
                refine PO.nil ?_
                obtain rfl := Option.some.inj e36
                exact ⟨decide (r33.bad > a2), Weak.one [0, 1, 2, 3] [] (by kernel_rfl), rfl⟩
            · rintro _ ⟨v63, w38, rfl⟩
              refine PO.weak w38 ?_
              refine PO.nil ?_
              refine bindK e27 (fun x39 e40 e27 => ?_)
              refine PC.join (fun s => ∃ (v64 : Int), Weak s (PS.of 81 [(0, .list 13 (List.map cGItem a0) none), (1, .val (.int .i64 a1)), (2, .val (.int .i64 a2)), (8, .ptr 0 0), (9, .val (.int .i64 0)), (10, .ptr 1 0), (11, .ptr 2 0), (12, .val (.int .i64 v26)), (14, .val (.int .i64 y62)), (15, .ptr 3 0), (46, .list 1 (List.map cI_i64 a3) none), (47, .val (.int .i64 (a3.length : Int))), (48, .val (.int .i64 v27))] [⟨0, [.val (.int .i64 0), .val (.int .i64 0), .val (.int .i64 0)]⟩, ⟨0, [.val (.int .i64 v64), .val (.int .i64 v29), .val (.int .i64 (a3.length : Int))]⟩, ⟨0, [.val (.int .i64 v30), .val (.int .i64 v31), .val (.int .i64 v32), .val (.int .i64 v33), .val (.int .i64 v34), .val (.int .i64 v35), .val (.int .i64 v36), .val (.int .i64 v37), .val (.int .i64 v38), .val (.bool v39), .val (.bool v40), .val (.bool v41), .val (.int .i64 v42), .val (.int .i64 v43)]⟩, ⟨0, (cGLine r33)⟩] [] 0 0) ∧ v64 = x39) ?_ ?_
              · refine PC.cond rfl (fun h41 => ?_) (fun h41 => ?_)
                · have e40 := bif_t h41 e40
                  refine PC.region ?_
                  refine PO.runK 5 [0, 1, 2, 3] [] (es := [(0, .list 13 (List.map cGItem a0) none), (1, .val (.int .i64 a1)), (2, .val (.int .i64 a2)), (8, .ptr 0 0), (9, .val (.int .i64 0)), (10, .ptr 1 0), (11, .ptr 2 0), (12, .val (.int .i64 v26)), (14, .val (.int .i64 y62)), (15, .ptr 3 0), (46, .list 1 (List.map cI_i64 a3) none), (47, .val (.int .i64 (a3.length : Int))), (48, .val (.int .i64 v27))]) (fr' := [⟨0, [.val (.int .i64 0), .val (.int .i64 0), .val (.int .i64 0)]⟩, ⟨0, [.val (.int .i64 (w (v28 + 1))), .val (.int .i64 v29), .val (.int .i64 (a3.length : Int))]⟩, ⟨0, [.val (.int .i64 v30), .val (.int .i64 v31), .val (.int .i64 v32), .val (.int .i64 v33), .val (.int .i64 v34), .val (.int .i64 v35), .val (.int .i64 v36), .val (.int .i64 v37), .val (.int .i64 v38), .val (.bool v39), .val (.bool v40), .val (.bool v41), .val (.int .i64 v42), .val (.int .i64 v43)]⟩, ⟨0, (cGLine r33)⟩]) (tk' := []) (by kernel_rfl) ?_
                  refine PO.nil ?_
                  obtain rfl := Option.some.inj e40
                  exact PC.skip (joinKP.end ⟨w (v28 + 1), Weak.one [0, 1, 2, 3] [] (by kernel_rfl), rfl⟩)
                · have e40 := bif_f h41 e40
                  refine PC.noop ?_
                  obtain rfl := Option.some.inj e40
                  exact PC.skip (joinKP.end ⟨v28, Weak.one [0, 1, 2, 3] [] (by kernel_rfl), rfl⟩)
              · rintro _ ⟨v64, w42, rfl⟩
                refine PC.weak w42 ?_
                refine PC.draw [2, 3, 4, 5, 0, 1, 6, 7, 8] (by kernel_rfl) ?_
                refine PD.runK 3 (js' := [5, 0, 1, 6, 7, 8]) (σ' := ⟨28, 0, 0, []⟩) (es := [(0, .list 13 (List.map cGItem a0) none), (1, .val (.int .i64 a1)), (2, .val (.int .i64 a2)), (8, .ptr 0 0), (9, .val (.int .i64 0)), (10, .ptr 1 0), (11, .ptr 2 0), (12, .val (.int .i64 v26)), (14, .val (.int .i64 y62)), (15, .ptr 3 0), (46, .list 1 (List.map cI_i64 a3) none), (47, .val (.int .i64 (a3.length : Int))), (48, .val (.int .i64 v27)), (71, .list 13 (List.map cGItem a0) none), (72, .agg [.val (.int .i64 v30), .val (.int .i64 v31), .val (.int .i64 v32), .val (.int .i64 v33), .val (.int .i64 v34), .val (.int .i64 v35), .val (.int .i64 v36), .val (.int .i64 v37), .val (.int .i64 v38), .val (.bool v39), .val (.bool v40), .val (.bool v41), .val (.int .i64 v42), .val (.int .i64 v43)]), (73, .agg (cGLine r33))]) (fr' := [⟨0, [.val (.int .i64 0), .val (.int .i64 0), .val (.int .i64 0)]⟩, ⟨0, [.val (.int .i64 v64), .val (.int .i64 v29), .val (.int .i64 (a3.length : Int))]⟩, ⟨0, [.val (.int .i64 v30), .val (.int .i64 v31), .val (.int .i64 v32), .val (.int .i64 v33), .val (.int .i64 v34), .val (.int .i64 v35), .val (.int .i64 v36), .val (.int .i64 v37), .val (.int .i64 v38), .val (.bool v39), .val (.bool v40), .val (.bool v41), .val (.int .i64 v42), .val (.int .i64 v43)]⟩, ⟨0, (cGLine r33)⟩]) (tk' := []) (by kernel_rfl) ?_
                refine bindK e27 (fun r43 e44 e27 => ?_)
                refine PD.call rfl rfl (by kernel_rfl) rfl rfl rfl (ks := []) (ts := []) (fr1 := []) rfl rfl rfl trivial (L36 k a0 (GLine.mk v30 v31 v32 v33 v34 v35 v36 v37 v38 v39 v40 v41 v42 v43) r33 _ e44) ?_
                rintro _ _ _ ⟨rfl, rfl, rfl⟩
                refine ⟨_, _, rfl, rfl, ?_⟩
                refine PD.runK 5 (js' := []) (σ' := ⟨511, 511, 255, [(8, [1], false), (5, [1], true)]⟩) (es := [(0, .list 13 (List.map cGItem a0) none), (1, .val (.int .i64 a1)), (2, .val (.int .i64 a2)), (8, .ptr 0 0), (9, .val (.int .i64 0)), (10, .ptr 1 0), (11, .ptr 2 0), (12, .val (.int .i64 v26)), (14, .val (.int .i64 y62)), (15, .ptr 3 0), (46, .list 1 (List.map cI_i64 a3) none), (47, .val (.int .i64 (a3.length : Int))), (48, .val (.int .i64 v27))]) (fr' := [⟨0, [.val (.int .i64 0), .val (.int .i64 0), .val (.int .i64 0)]⟩, ⟨0, [.val (.int .i64 v64), .val (.int .i64 (w (v29 + r43))), .val (.int .i64 (a3.length : Int))]⟩, ⟨0, [.val (.int .i64 v30), .val (.int .i64 v31), .val (.int .i64 v32), .val (.int .i64 v33), .val (.int .i64 v34), .val (.int .i64 v35), .val (.int .i64 v36), .val (.int .i64 v37), .val (.int .i64 v38), .val (.bool v39), .val (.bool v40), .val (.bool v41), .val (.int .i64 v42), .val (.int .i64 v43)]⟩, ⟨0, (cGLine r33)⟩]) (tk' := []) (by kernel_rfl) ?_
                refine PD.done [0, 1, 2, 3] [] (es := [(0, .list 13 (List.map cGItem a0) none), (1, .val (.int .i64 a1)), (2, .val (.int .i64 a2)), (8, .ptr 0 0), (9, .val (.int .i64 0)), (10, .ptr 1 0), (11, .ptr 2 0), (12, .val (.int .i64 v26)), (14, .val (.int .i64 y62)), (15, .ptr 3 0), (46, .list 1 (List.map cI_i64 a3) none), (47, .val (.int .i64 (a3.length : Int))), (48, .val (.int .i64 v27))]) (fr' := [⟨0, [.val (.int .i64 0), .val (.int .i64 0), .val (.int .i64 0)]⟩, ⟨0, [.val (.int .i64 v64), .val (.int .i64 (w (v29 + r43))), .val (.int .i64 (a3.length : Int))]⟩, ⟨0, [.val (.int .i64 v30), .val (.int .i64 v31), .val (.int .i64 v32), .val (.int .i64 v33), .val (.int .i64 v34), .val (.int .i64 v35), .val (.int .i64 v36), .val (.int .i64 v37), .val (.int .i64 v38), .val (.bool v39), .val (.bool v40), .val (.bool v41), .val (.int .i64 v42), .val (.int .i64 v43)]⟩, ⟨0, (cGLine r33)⟩]) (tk' := []) (by kernel_rfl) (by kernel_rfl) ?_
                refine PC.lone ?_
                refine PC.region ?_
                refine PO.runK 4 [0, 1, 2] [] (es := [(0, .list 13 (List.map cGItem a0) none), (1, .val (.int .i64 a1)), (2, .val (.int .i64 a2)), (8, .ptr 0 0), (9, .val (.int .i64 0)), (10, .ptr 1 0), (11, .ptr 2 0), (12, .val (.int .i64 y62)), (46, .list 1 (List.map cI_i64 a3) none), (47, .val (.int .i64 (a3.length : Int))), (48, .val (.int .i64 v27))]) (fr' := [⟨0, [.val (.int .i64 0), .val (.int .i64 0), .val (.int .i64 0)]⟩, ⟨0, [.val (.int .i64 v64), .val (.int .i64 (w (v29 + r43))), .val (.int .i64 (a3.length : Int))]⟩, ⟨0, (cGLine r33)⟩]) (tk' := []) (by kernel_rfl) ?_
                refine PO.nil ?_
                refine PC.skip (blockKP.end ?_)
                refine PC.lone ?_
                refine PC.run (n := 3) rfl ?_
                exact PC.skip (loopKP.mk (Nat.lt_succ_self _) ⟨y62, w (v27 + 1), v64, w (v29 + r43), r33.first, r33.last, r33.break_, r33.natural, r33.stretch, r33.shrink, r33.short, r33.bad, r33.class_, r33.over_, r33.hyphen, r33.end_, r33.height, r33.depth, Weak.one [0, 1, 2] [] (by kernel_rfl), e27⟩)
          · have e27 := bif_f h30 e27
            obtain rfl := Option.some.inj e27
            exact PC.exit (loopKP.exit (blockJK.here ⟨v28, v29, Weak.one [0, 1] [] (by kernel_rfl), rfl⟩))
      · rintro _ ⟨v6, v7, w45, rfl⟩
        refine PC.weak w45 ?_
        refine PC.region ?_
        refine PO.runK 3 [0] [] (es := [(8, .ptr 0 0), (9, .val (.int .i64 0))]) (fr' := [⟨0, [.val (.int .i64 v6), .val (.int .i64 v7), .val (.int .i64 (a3.length : Int))]⟩]) (tk' := []) (by kernel_rfl) ?_
        refine PO.nil ?_
        obtain rfl := Option.some.inj hF
        exact PC.ret' (retSK [] [] (by kernel_rfl) (.refl _) ⟨rfl, rfl, rfl⟩)

/-! 34 platen/line.Line -/
def F34 (k : Nat) (a0 : List GItem) (a1 : Int) (a2 : Int) (a3 : Int) : Option (GLine × Int) :=
(F64 k a0).bind fun r1 =>
Option.bind (α := Bool) (bif r1 != 0 then (some true) else (Option.bind (α := Bool) (bif decide (a1 < 1) then (some true) else (Option.bind (α := Bool) (bif decide (a1 > 536870912) then (some true) else (Option.bind (α := Bool) (bif decide (a2 < (-1)) then (some true) else (Option.bind (α := Bool) (bif decide (a2 ≥ a3) then (some true) else (Option.bind (α := Bool) (bif decide (a3 ≥ (a0.length : Int)) then (some true) else ((F68 k a0 a3).bind fun r21 =>
Option.bind (α := Bool) (bif !r21 then (some true) else (Option.bind (α := Bool) (bif decide (a2 ≥ 0) then ((F68 k a0 a2).bind fun r29 =>
some (!r29)) else (some false)) fun (v8 : Bool) =>
some v8)) fun (v7 : Bool) =>
some v7)) fun (v6 : Bool) =>
some v6)) fun (v5 : Bool) =>
some v5)) fun (v4 : Bool) =>
some v4)) fun (v3 : Bool) =>
some v3)) fun (v2 : Bool) =>
some v2)) fun (v1 : Bool) =>
bif v1 then (some ((GLine.mk 0 0 0 0 0 0 0 0 0 false false false 0 0), 1)) else (bindS a0 (w (a2 + 1)) a3 fun l9 =>
(F69_70 k l9).bind fun r43 =>
bif r43 then (some ((GLine.mk 0 0 0 0 0 0 0 0 0 false false false 0 0), 1)) else ((F71 k a0 a1 a2 a3).bind fun r46 =>
some (r46, 0)))
theorem L34 (k : Nat) (a0 : List GItem) (a1 : Int) (a2 : Int) (a3 : Int) (r : GLine × Int) (hF : F34 k a0 a1 a2 a3 = some r) : PF Try.prog orc 34 [.list 13 (List.map cGItem a0) none, .val (.int .i64 a1), .val (.int .i64 a2), .val (.int .i64 a3)] [] [] (fun p fr tk => p = .tup [.agg (cGLine r.1), .val (.int .i64 r.2)] ∧ fr = [] ∧ tk = []) := by
  unfold F34 at hF
  refine PF.enterS Try.func34 rfl rfl rfl (by kernel_rfl) rfl ?_
  refine PC.region ?_
  refine PO.runK 2 [0] [] (es := [(0, .list 13 (List.map cGItem a0) none), (1, .val (.int .i64 a1)), (2, .val (.int .i64 a2)), (3, .val (.int .i64 a3)), (8, .ptr 0 0), (9, .val (.int .i64 0))]) (fr' := [⟨0, [.val (.int .i64 0), .val (.int .i64 0), .val (.int .i64 0), .val (.int .i64 0), .val (.int .i64 0), .val (.int .i64 0), .val (.int .i64 0), .val (.int .i64 0), .val (.int .i64 0), .val (.bool false), .val (.bool false), .val (.bool false), .val (.int .i64 0), .val (.int .i64 0)]⟩]) (tk' := []) (by kernel_rfl) ?_
  refine PO.nil ?_
  refine PC.assoc ?_
  refine PC.region ?_
  refine PO.run 1 rfl ?_
  refine bindK hF (fun r1 e2 hF => ?_)
  refine PO.call rfl rfl rfl rfl (ks := []) (ts := []) (fr1 := []) rfl rfl rfl trivial (L64 k a0 _ e2) ?_
  rintro _ _ _ ⟨rfl, rfl, rfl⟩
  refine ⟨_, _, rfl, rfl, ?_⟩
  refine PO.run 2 rfl ?_
  refine bindK hF (fun x3 e4 hF => ?_)
  refine PO.cut 38 (fun s => ∃ (v1 : Bool), Weak s (PS.of 65 [(0, .list 13 (List.map cGItem a0) none), (1, .val (.int .i64 a1)), (2, .val (.int .i64 a2)), (3, .val (.int .i64 a3)), (8, .ptr 0 0), (9, .val (.int .i64 0)), (51, .val (.bool v1))] [⟨0, [.val (.int .i64 0), .val (.int .i64 0), .val (.int .i64 0), .val (.int .i64 0), .val (.int .i64 0), .val (.int .i64 0), .val (.int .i64 0), .val (.int .i64 0), .val (.int .i64 0), .val (.bool false), .val (.bool false), .val (.bool false), .val (.int .i64 0), .val (.int .i64 0)]⟩] [] 0 0) ∧ v1 = x3) ?_ ?_
  · refine PO.case (t := 13) rfl rfl (fun h5 => ?_) (fun h5 => ?_)
    · have e4 := bif_t h5 e4
      refine PO.run 2 rfl ?_
      refine PO.same rfl (pickT_ok rfl rfl rfl) rfl ?_
      refine PO.run 3 rfl ?_
      refine PO.same rfl (pickT_ok rfl rfl rfl) rfl ?_
      refine PO.run 3 rfl ?_
      refine PO.same rfl (pickT_ok rfl rfl rfl) rfl ?_
      refine PO.run 4 rfl ?_
      refine PO.same rfl (pickT_ok rfl rfl rfl) rfl ?_
      refine PO.run 5 rfl ?_
      refine PO.same rfl (pickT_ok rfl rfl rfl) rfl ?_
      refine PO.run 5 rfl ?_
      refine PO.same rfl (pickT_ok rfl rfl rfl) rfl ?_
      refine PO.run 9 rfl ?_
      refine PO.same rfl (pickT_ok rfl rfl rfl) rfl ?_
      refine PO.nil ?_
      obtain rfl := Option.some.inj e4
      exact ⟨true, Weak.one [0] [] (by kernel_rfl), rfl⟩
    · have e4 := bif_f h5 e4
      refine PO.run 2 rfl ?_
      refine PO.same rfl (pickF_ok rfl rfl rfl) rfl ?_
      refine PO.run 1 rfl ?_
      refine bindK e4 (fun x6 e7 e4 => ?_)
      refine PO.cut 34 (fun s => ∃ (v2 : Bool), Weak s (PS.of 65 [(0, .list 13 (List.map cGItem a0) none), (1, .val (.int .i64 a1)), (2, .val (.int .i64 a2)), (3, .val (.int .i64 a3)), (8, .ptr 0 0), (9, .val (.int .i64 0)), (51, .val (.bool v2))] [⟨0, [.val (.int .i64 0), .val (.int .i64 0), .val (.int .i64 0), .val (.int .i64 0), .val (.int .i64 0), .val (.int .i64 0), .val (.int .i64 0), .val (.int .i64 0), .val (.int .i64 0), .val (.bool false), .val (.bool false), .val (.bool false), .val (.int .i64 0), .val (.int .i64 0)]⟩] [] 0 0) ∧ v2 = x6) ?_ ?_
      · refine PO.case (t := 17) rfl rfl (fun h8 => ?_) (fun h8 => ?_)
        · have e7 := bif_t h8 e7
          refine PO.run 2 rfl ?_
          refine PO.same rfl (pickT_ok rfl rfl rfl) rfl ?_
          refine PO.run 3 rfl ?_
          refine PO.same rfl (pickT_ok rfl rfl rfl) rfl ?_
          refine PO.run 4 rfl ?_
          refine PO.same rfl (pickT_ok rfl rfl rfl) rfl ?_
          refine PO.run 5 rfl ?_
          refine PO.same rfl (pickT_ok rfl rfl rfl) rfl ?_
          refine PO.run 5 rfl ?_
          refine PO.same rfl (pickT_ok rfl rfl rfl) rfl ?_
          refine PO.run 9 rfl ?_
          refine PO.same rfl (pickT_ok rfl rfl rfl) rfl ?_
          refine PO.nil ?_
          obtain rfl := Option.some.inj e7
          exact ⟨true, Weak.one [0] [] (by kernel_rfl), rfl⟩
        · have e7 := bif_f h8 e7
          refine PO.run 2 rfl ?_
          refine PO.same rfl (pickF_ok rfl rfl rfl) rfl ?_
          refine PO.run 1 rfl ?_
          refine bindK e7 (fun x9 e10 e7 => ?_)
          refine PO.cut 30 (fun s => ∃ (v3 : Bool), Weak s (PS.of 65 [(0, .list 13 (List.map cGItem a0) none), (1, .val (.int .i64 a1)), (2, .val (.int .i64 a2)), (3, .val (.int .i64 a3)), (8, .ptr 0 0), (9, .val (.int .i64 0)), (51, .val (.bool v3))] [⟨0, [.val (.int .i64 0), .val (.int .i64 0), .val (.int .i64 0), .val (.int .i64 0), .val (.int .i64 0), .val (.int .i64 0), .val (.int .i64 0), .val (.int .i64 0), .val (.int .i64 0), .val (.bool false), .val (.bool false), .val (.bool false), .val (.int .i64 0), .val (.int .i64 0)]⟩] [] 0 0) ∧ v3 = x9) ?_ ?_
          · refine PO.case (t := 21) rfl rfl (fun h11 => ?_) (fun h11 => ?_)
            · have e10 := bif_t h11 e10
              refine PO.run 2 rfl ?_
              refine PO.same rfl (pickT_ok rfl rfl rfl) rfl ?_
              refine PO.run 4 rfl ?_
              refine PO.same rfl (pickT_ok rfl rfl rfl) rfl ?_
              refine PO.run 5 rfl ?_
              refine PO.same rfl (pickT_ok rfl rfl rfl) rfl ?_
              refine PO.run 5 rfl ?_
              refine PO.same rfl (pickT_ok rfl rfl rfl) rfl ?_
              refine PO.run 9 rfl ?_
              refine PO.same rfl (pickT_ok rfl rfl rfl) rfl ?_
              refine PO.nil ?_
              obtain rfl := Option.some.inj e10
              exact ⟨true, Weak.one [0] [] (by kernel_rfl), rfl⟩
            · have e10 := bif_f h11 e10
              refine PO.run 2 rfl ?_
              refine PO.same rfl (pickF_ok rfl rfl rfl) rfl ?_
              refine PO.run 1 rfl ?_
              refine bindK e10 (fun x12 e13 e10 => ?_)
              refine PO.cut 26 (fun s => ∃ (v4 : Bool), Weak s (PS.of 65 [(0, .list 13 (List.map cGItem a0) none), (1, .val (.int .i64 a1)), (2, .val (.int .i64 a2)), (3, .val (.int .i64 a3)), (8, .ptr 0 0), (9, .val (.int .i64 0)), (51, .val (.bool v4))] [⟨0, [.val (.int .i64 0), .val (.int .i64 0), .val (.int .i64 0), .val (.int .i64 0), .val (.int .i64 0), .val (.int .i64 0), .val (.int .i64 0), .val (.int .i64 0), .val (.int .i64 0), .val (.bool false), .val (.bool false), .val (.bool false), .val (.int .i64 0), .val (.int .i64 0)]⟩] [] 0 0) ∧ v4 = x12) ?_ ?_
              · refine PO.case (t := 25) rfl rfl (fun h14 => ?_) (fun h14 => ?_)
                · have e13 := bif_t h14 e13
                  refine PO.run 3 rfl ?_
                  refine PO.same rfl (pickT_ok rfl rfl rfl) rfl ?_
                  refine PO.run 5 rfl ?_
                  refine PO.same rfl (pickT_ok rfl rfl rfl) rfl ?_
                  refine PO.run 5 rfl ?_
                  refine PO.same rfl (pickT_ok rfl rfl rfl) rfl ?_
                  refine PO.run 9 rfl ?_
                  refine PO.same rfl (pickT_ok rfl rfl rfl) rfl ?_
                  refine PO.nil ?_
                  obtain rfl := Option.some.inj e13
                  exact ⟨true, Weak.one [0] [] (by kernel_rfl), rfl⟩
                · have e13 := bif_f h14 e13
                  refine PO.run 3 rfl ?_
                  refine PO.same rfl (pickF_ok rfl rfl rfl) rfl ?_
                  refine PO.run 1 rfl ?_
                  refine bindK e13 (fun x15 e16 e13 => ?_)
                  refine PO.cut 21 (fun s => ∃ (v5 : Bool), Weak s (PS.of 65 [(0, .list 13 (List.map cGItem a0) none), (1, .val (.int .i64 a1)), (2, .val (.int .i64 a2)), (3, .val (.int .i64 a3)), (8, .ptr 0 0), (9, .val (.int .i64 0)), (51, .val (.bool v5))] [⟨0, [.val (.int .i64 0), .val (.int .i64 0), .val (.int .i64 0), .val (.int .i64 0), .val (.int .i64 0), .val (.int .i64 0), .val (.int .i64 0), .val (.int .i64 0), .val (.int .i64 0), .val (.bool false), .val (.bool false), .val (.bool false), .val (.int .i64 0), .val (.int .i64 0)]⟩] [] 0 0) ∧ v5 = x15) ?_ ?_
                  · refine PO.case (t := 30) rfl rfl (fun h17 => ?_) (fun h17 => ?_)
                    · have e16 := bif_t h17 e16
                      refine PO.run 4 rfl ?_
                      refine PO.same rfl (pickT_ok rfl rfl rfl) rfl ?_
                      refine PO.run 5 rfl ?_
                      refine PO.same rfl (pickT_ok rfl rfl rfl) rfl ?_
                      refine PO.run 9 rfl ?_
                      refine PO.same rfl (pickT_ok rfl rfl rfl) rfl ?_
                      refine PO.nil ?_
                      obtain rfl := Option.some.inj e16
                      exact ⟨true, Weak.one [0] [] (by kernel_rfl), rfl⟩
                    · have e16 := bif_f h17 e16
                      refine PO.run 2 rfl ?_
                      refine PO.same rfl (len_ok Try.underlying42 rfl (List.length_map _)) rfl ?_
                      refine PO.run 1 rfl ?_
                      refine PO.same rfl (pickF_ok rfl rfl rfl) rfl ?_
                      refine PO.run 1 rfl ?_
                      refine bindK e16 (fun x18 e19 e16 => ?_)
                      refine PO.cut 15 (fun s => ∃ (v6 : Bool), Weak s (PS.of 65 [(0, .list 13 (List.map cGItem a0) none), (1, .val (.int .i64 a1)), (2, .val (.int .i64 a2)), (3, .val (.int .i64 a3)), (8, .ptr 0 0), (9, .val (.int .i64 0)), (51, .val (.bool v6))] [⟨0, [.val (.int .i64 0), .val (.int .i64 0), .val (.int .i64 0), .val (.int .i64 0), .val (.int .i64 0), .val (.int .i64 0), .val (.int .i64 0), .val (.int .i64 0), .val (.int .i64 0), .val (.bool false), .val (.bool false), .val (.bool false), .val (.int .i64 0), .val (.int .i64 0)]⟩] [] 0 0) ∧ v6 = x18) ?_ ?_
                      · refine PO.case (t := 36) rfl rfl (fun h20 => ?_) (fun h20 => ?_)
                        · have e19 := bif_t h20 e19
                          refine PO.run 4 rfl ?_
                          refine PO.same rfl (pickT_ok rfl rfl rfl) rfl ?_
                          refine PO.run 9 rfl ?_
                          refine PO.same rfl (pickT_ok rfl rfl rfl) rfl ?_
                          refine PO.nil ?_
                          obtain rfl := Option.some.inj e19
                          exact ⟨true, Weak.one [0] [] (by kernel_rfl), rfl⟩
                        · have e19 := bif_f h20 e19
                          refine PO.run 2 rfl ?_
                          refine bindK e19 (fun r21 e22 e19 => ?_)
                          refine PO.call rfl rfl rfl rfl (ks := []) (ts := []) (fr1 := []) rfl rfl rfl trivial (L68 k a0 a3 _ e22) ?_
                          rintro _ _ _ ⟨rfl, rfl, rfl⟩
                          refine ⟨_, _, rfl, rfl, ?_⟩
                          refine PO.run 1 rfl ?_
                          refine PO.same rfl (pickF_ok rfl rfl rfl) rfl ?_
                          refine PO.run 1 rfl ?_
                          refine bindK e19 (fun x23 e24 e19 => ?_)
                          refine PO.cut 9 (fun s => ∃ (v7 : Bool), Weak s (PS.of 65 [(0, .list 13 (List.map cGItem a0) none), (1, .val (.int .i64 a1)), (2, .val (.int .i64 a2)), (3, .val (.int .i64 a3)), (8, .ptr 0 0), (9, .val (.int .i64 0)), (51, .val (.bool v7))] [⟨0, [.val (.int .i64 0), .val (.int .i64 0), .val (.int .i64 0), .val (.int .i64 0), .val (.int .i64 0), .val (.int .i64 0), .val (.int .i64 0), .val (.int .i64 0), .val (.int .i64 0), .val (.bool false), .val (.bool false), .val (.bool false), .val (.int .i64 0), .val (.int .i64 0)]⟩] [] 0 0) ∧ v7 = x23) ?_ ?_
                          · refine PO.case (t := 42) rfl rfl (fun h25 => ?_) (fun h25 => ?_)
                            · have e24 := bif_t h25 e24
                              refine PO.run 8 rfl ?_
                              refine PO.same rfl (pickT_ok rfl rfl rfl) rfl ?_
                              refine PO.nil ?_
                              obtain rfl := Option.some.inj e24
                              exact ⟨true, Weak.one [0] [] (by kernel_rfl), rfl⟩
                            · have e24 := bif_f h25 e24
                              refine PO.run 3 rfl ?_
                              refine bindK e24 (fun x26 e27 e24 => ?_)
                              refine PO.cut 6 (fun s => ∃ (v8 : Bool), Weak s (PS.of 65 [(0, .list 13 (List.map cGItem a0) none), (1, .val (.int .i64 a1)), (2, .val (.int .i64 a2)), (3, .val (.int .i64 a3)), (8, .ptr 0 0), (9, .val (.int .i64 0)), (51, .val (.bool v8))] [⟨0, [.val (.int .i64 0), .val (.int .i64 0), .val (.int .i64 0), .val (.int .i64 0), .val (.int .i64 0), .val (.int .i64 0), .val (.int .i64 0), .val (.int .i64 0), .val (.int .i64 0), .val (.bool false), .val (.bool false), .val (.bool false), .val (.int .i64 0), .val (.int .i64 0)]⟩] [] 0 0) ∧ v8 = x26) ?_ ?_
                              · refine PO.case (t := 45) rfl rfl (fun h28 => ?_) (fun h28 => ?_)
                                · have e27 := bif_t h28 e27
                                  refine PO.run 2 rfl ?_
                                  refine bindK e27 (fun r29 e30 e27 => ?_)
                                  refine PO.call rfl rfl rfl rfl (ks := []) (ts := []) (fr1 := []) rfl rfl rfl trivial (L68 k a0 a2 _ e30) ?_
                                  rintro _ _ _ ⟨rfl, rfl, rfl⟩
                                  refine ⟨_, _, rfl, rfl, ?_⟩
                                  refine PO.run 1 rfl ?_
                                  refine PO.same rfl (pickT_ok rfl rfl rfl) rfl ?_
                                  refine PO.same rfl (pickF_ok rfl rfl rfl) rfl ?_
                                  refine PO.nil ?_
                                  obtain rfl := Option.some.inj e27
                                  exact ⟨!r29, Weak.one [0] [] (by kernel_rfl), rfl⟩
                                · have e27 := bif_f h28 e27
                                  refine PO.run 4 rfl ?_
                                  refine PO.same rfl (pickF_ok rfl rfl rfl) rfl ?_
                                  refine PO.same rfl (pickF_ok rfl rfl rfl) rfl ?_
                                  refine PO.nil ?_
                                  obtain rfl := Option.some.inj e27
                                  exact ⟨false, Weak.one [0] [] (by kernel_rfl), rfl⟩
                              · rintro _ ⟨v8, w31, rfl⟩
                                refine PO.weak w31 ?_
                                refine PO.nil ?_
                                obtain rfl := Option.some.inj e24
                                exact ⟨v8, Weak.one [0] [] (by kernel_rfl), rfl⟩
                          · rintro _ ⟨v7, w32, rfl⟩
                            refine PO.weak w32 ?_
                            refine PO.nil ?_
                            obtain rfl := Option.some.inj e19
                            exact ⟨v7, Weak.one [0] [] (by kernel_rfl), rfl⟩
                      · rintro _ ⟨v6, w33, rfl⟩
                        refine PO.weak w33 ?_
                        refine PO.nil ?_
                        obtain rfl := Option.some.inj e16
                        exact ⟨v6, Weak.one [0] [] (by kernel_rfl), rfl⟩
                  · rintro _ ⟨v5, w34, rfl⟩
                    refine PO.weak w34 ?_
                    refine PO.nil ?_
                    obtain rfl := Option.some.inj e13
                    exact ⟨v5, Weak.one [0] [] (by kernel_rfl), rfl⟩
              · rintro _ ⟨v4, w35, rfl⟩
                refine PO.weak w35 ?_
                refine PO.nil ?_
                obtain rfl := Option.some.inj e10
                exact ⟨v4, Weak.one [0] [] (by kernel_rfl), rfl⟩
          · rintro _ ⟨v3, w36, rfl⟩
            refine PO.weak w36 ?_
            refine PO.nil ?_
            obtain rfl := Option.some.inj e7
            exact ⟨v3, Weak.one [0] [] (by kernel_rfl), rfl⟩
      · rintro _ ⟨v2, w37, rfl⟩
        refine PO.weak w37 ?_
        refine PO.nil ?_
        obtain rfl := Option.some.inj e4
        exact ⟨v2, Weak.one [0] [] (by kernel_rfl), rfl⟩
  · rintro _ ⟨v1, w38, rfl⟩
    refine PO.weak w38 ?_
    refine PO.nil ?_
    refine PC.cond rfl (fun h39 => ?_) (fun h39 => ?_)
    · have hF := bif_t h39 hF
      refine PC.assoc ?_
      refine PC.region ?_
      refine PO.runK 3 [0] [] (es := [(8, .ptr 0 0), (9, .val (.int .i64 1))]) (fr' := [⟨0, [.val (.int .i64 0), .val (.int .i64 0), .val (.int .i64 0), .val (.int .i64 0), .val (.int .i64 0), .val (.int .i64 0), .val (.int .i64 0), .val (.int .i64 0), .val (.int .i64 0), .val (.bool false), .val (.bool false), .val (.bool false), .val (.int .i64 0), .val (.int .i64 0)]⟩]) (tk' := []) (by kernel_rfl) ?_
      refine PO.nil ?_
      obtain rfl := Option.some.inj hF
      exact PC.ret (retSK [] [] (by kernel_rfl) (.refl _) ⟨rfl, rfl, rfl⟩)
    · have hF := bif_f h39 hF
      refine PC.noop ?_
      refine PC.assoc ?_
      refine PC.region ?_
      refine PO.run 4 rfl ?_
      refine bindSK hF (fun h40 h41 h42 hF => ?_)
      generalize hgl9 : (List.take (Int.toNat a3) a0).drop (Int.toNat (w (a2 + 1))) = l9 at hF
      refine PO.same rfl (slice_ok (l2 := List.map cGItem l9) Try.underlying42 rfl rfl (.some rfl h40 rfl) (.some rfl (Int.le_trans h40 h41) rfl) (Int.toNat_le_toNat h41) (toNat_le1 h42) (by rw [← hgl9, List.map_drop, List.map_take] <;> first | rfl | simp [w])) rfl ?_
      refine bindK hF (fun r43 e44 hF => ?_)
      refine PO.call rfl rfl rfl rfl (ks := []) (ts := []) (fr1 := []) rfl rfl rfl trivial (L69_70 k l9 _ e44) ?_
      rintro _ _ _ ⟨rfl, rfl, rfl⟩
      refine ⟨_, _, rfl, rfl, ?_⟩
      refine PO.nil ?_
      refine PC.cond rfl (fun h45 => ?_) (fun h45 => ?_)
      · have hF := bif_t h45 hF
        refine PC.assoc ?_
        refine PC.region ?_
        refine PO.runK 3 [0] [] (es := [(8, .ptr 0 0), (9, .val (.int .i64 1))]) (fr' := [⟨0, [.val (.int .i64 0), .val (.int .i64 0), .val (.int .i64 0), .val (.int .i64 0), .val (.int .i64 0), .val (.int .i64 0), .val (.int .i64 0), .val (.int .i64 0), .val (.int .i64 0), .val (.bool false), .val (.bool false), .val (.bool false), .val (.int .i64 0), .val (.int .i64 0)]⟩]) (tk' := []) (by kernel_rfl) ?_
        refine PO.nil ?_
        obtain rfl := Option.some.inj hF
        exact PC.ret (retSK [] [] (by kernel_rfl) (.refl _) ⟨rfl, rfl, rfl⟩)
      · have hF := bif_f h45 hF
        refine PC.noop ?_
        refine PC.region ?_
        refine PO.run 4 rfl ?_
        refine bindK hF (fun r46 e47 hF => ?_)
        refine PO.call rfl rfl rfl rfl (ks := []) (ts := []) (fr1 := []) rfl rfl rfl trivial (L71 k a0 a1 a2 a3 _ e47) ?_
        rintro _ _ _ ⟨rfl, rfl, rfl⟩
        refine ⟨_, _, rfl, rfl, ?_⟩
        refine PO.runK 2 [0] [] (es := [(8, .ptr 0 0), (9, .val (.int .i64 0))]) (fr' := [⟨0, (cGLine r46)⟩]) (tk' := []) (by kernel_rfl) ?_
        refine PO.nil ?_
        obtain rfl := Option.some.inj hF
        exact PC.ret' (retSK [] [] (by kernel_rfl) (.refl _) ⟨rfl, rfl, rfl⟩)

/-! 12 platen/platenlaw14.LineAdds -/
def F12_r1 (k : Nat) : List Int → Option ((Unit) ⊕ (Unit))
  | [] => some (.inl ())
  | y1 :: l2 =>
    some (.inr ())
def F12_r2 (k : Nat) (a0 : List GItem) (a3 : List Bool) : List Int → (List Int) → Int → Option (((List Int) × Int) ⊕ ((List Int) × Int))
  | [], v5, v6 => some (.inl (v5, v6))
  | y4 :: l11, v5, v6 =>
    Option.bind (α := Bool) (bif decide (y4 < 0) then (some true) else (some (decide (y4 ≥ (a0.length : Int))))) fun (v12 : Bool) =>
    bif v12 then (some (.inr (v5, v6))) else (bindI a0 y4 fun y13 =>
    Option.bind (α := Bool) (bif y13.kind == 4 then (bindI a0 y4 fun y15 =>
    some (y15.value == (-10000))) else (some false)) fun (v14 : Bool) =>
    Option.bind (α := Bool) (bif v14 then (some true) else (Option.bind (α := Bool) (bif decide (v6 < (a3.length : Int)) then (bindI a3 v6 fun y18 =>
    some y18) else (some false)) fun (v17 : Bool) =>
    some v17)) fun (v16 : Bool) =>
    Option.bind (α := List Int) (bif v16 then (bindA 8 v5 ([y4]) fun l20 =>
    some l20) else (some v5)) fun (v19 : List Int) =>
    F12_r2 k a0 a3 l11 v19 (w (v6 + 1)))
def F12_l4 (k : Nat) (a0 : List GItem) (v3 : List Int) (v50 : Int) : Nat → Int → Option ((Unit) ⊕ ((Int × Int × Int × Int × Int × Int × Int × Int × Int × Int × Int × Bool × Bool × Bool × Int × Int × Int × Int) ⊕ ((Int × Int × Int) ⊕ (Bool))))
  | 0, _ => none
  | j152 + 1, v123 =>
    bindI v3 v50 fun y125 =>
    bif decide (v123 < y125) then (bindI a0 v123 fun y126 =>
    bif y126.kind == 1 then (some (.inr (.inr (.inr false)))) else (F12_l4 k a0 v3 v50 j152 (w (v123 + 1)))) else (some (.inl ()))
def F12_l5 (k : Nat) (a0 : List GItem) (r92 : GLine × Int) : Nat → Int → Option ((Unit) ⊕ ((Int × Int × Int × Int × Int × Int × Int × Int × Int × Int × Int × Bool × Bool × Bool × Int × Int × Int × Int) ⊕ ((Int × Int × Int) ⊕ (Bool))))
  | 0, _ => none
  | j163 + 1, v128 =>
    bif decide (v128 < r92.1.first) then (bindI a0 v128 fun y130 =>
    bif y130.kind == 1 then (some (.inr (.inr (.inr false)))) else (F12_l5 k a0 r92 j163 (w (v128 + 1)))) else (some (.inl ()))
def F12_l6 (k : Nat) (a0 : List GItem) (r92 : GLine × Int) : Nat → Int → Int → Option Int
  | 0, _, _ => none
  | j172 + 1, v134, v135 =>
    bif decide (v135 < r92.1.last) then (Option.bind (α := Int) (bindI a0 v135 fun y139 =>
    bif y139.kind == 1 then (some (w (v134 + 1))) else (some v134)) fun (v138 : Int) =>
    F12_l6 k a0 r92 j172 v138 (w (v135 + 1))) else (some v134)
def F12_l3 (k : Nat) (a0 : List GItem) (a1 : Int) (a2 : Int) (v3 : List Int) : Nat → Int → Int → Int → Int → Int → Int → Int → Int → Int → Int → Int → Int → Bool → Bool → Bool → Int → Int → Int → Int → Option ((Int × Int × Int) ⊕ (Bool))
  | 0, _, _, _, _, _, _, _, _, _, _, _, _, _, _, _, _, _, _, _ => none
  | j85 + 1, v48, v49, v50, v51, v52, v53, v54, v55, v56, v57, v58, v59, v60, v61, v62, v63, v64, v65, v66 =>
    bif decide (v50 < (v3.length : Int)) then (Option.bind (α := (Int × Int × Int × Int × Int × Int × Int × Int × Int × Int × Int × Bool × Bool × Bool × Int × Int × Int × Int) ⊕ ((Int × Int × Int) ⊕ (Bool))) (bindI v3 v50 fun y104 =>
    (F34 k a0 a1 v48 y104).bind fun r92 =>
    Option.bind (α := Bool) (bif r92.2 != 0 then (some true) else (bindI v3 v50 fun y106 =>
    Option.bind (α := Bool) (bif r92.1.break_ != y106 then (some true) else (bindI v3 v50 fun y108 =>
    Option.bind (α := Bool) (bif decide (r92.1.last > y108) then (some true) else (Option.bind (α := Bool) (bif decide (r92.1.first ≤ v48) then (some true) else (some (decide (r92.1.first > r92.1.last)))) fun (v110 : Bool) =>
    some v110)) fun (v109 : Bool) =>
    some v109)) fun (v107 : Bool) =>
    some v107)) fun (v105 : Bool) =>
    bif v105 then (some (.inr (.inr false))) else (Option.bind (α := Bool) (bif r92.1.first == r92.1.last then (bindI v3 v50 fun y112 =>
    Option.bind (α := Bool) (bif r92.1.first != y112 then (some true) else (Option.bind (α := Bool) (bif decide (r92.1.first < r92.1.last) then (bindI a0 r92.1.first fun y115 =>
    Option.bind (α := Bool) (bif y115.kind != 1 then (some true) else (bindI a0 (w (r92.1.last - 1)) fun y117 =>
    some (y117.kind != 1))) fun (v116 : Bool) =>
    some v116) else (some false)) fun (v114 : Bool) =>
    some v114)) fun (v113 : Bool) =>
    some v113) else (Option.bind (α := Bool) (bif decide (r92.1.first < r92.1.last) then (bindI a0 r92.1.first fun y119 =>
    Option.bind (α := Bool) (bif y119.kind != 1 then (some true) else (bindI a0 (w (r92.1.last - 1)) fun y121 =>
    some (y121.kind != 1))) fun (v120 : Bool) =>
    some v120) else (some false)) fun (v118 : Bool) =>
    some v118)) fun (v111 : Bool) =>
    bif v111 then (some (.inr (.inr false))) else (Option.bind (α := (Unit) ⊕ ((Int × Int × Int × Int × Int × Int × Int × Int × Int × Int × Int × Bool × Bool × Bool × Int × Int × Int × Int) ⊕ ((Int × Int × Int) ⊕ (Bool)))) (F12_l4 k a0 v3 v50 k r92.1.last) (Sum.elim (fun (_ : Unit) =>
    Option.bind (α := (Unit) ⊕ ((Int × Int × Int × Int × Int × Int × Int × Int × Int × Int × Int × Bool × Bool × Bool × Int × Int × Int × Int) ⊕ ((Int × Int × Int) ⊕ (Bool)))) (F12_l5 k a0 r92 k (w (v48 + 1))) (Sum.elim (fun (_ : Unit) =>
    Option.bind (α := Int) (F12_l6 k a0 r92 k v49 r92.1.first) fun (v131 : Int) =>
    Option.bind (α := Bool) (bif r92.1.over_ then (some true) else (some (decide (r92.1.bad > a2)))) fun (v140 : Bool) =>
    Option.bind (α := Int) (bif v140 then (some (w (v65 + 1))) else (some v65)) fun (v141 : Int) =>
    (F36 k a0 (GLine.mk v51 v52 v53 v54 v55 v56 v57 v58 v59 v60 v61 v62 v63 v64) r92.1).bind fun r190 =>
    bindI v3 v50 fun y142 =>
    some (.inl (y142, v131, r92.1.first, r92.1.last, r92.1.break_, r92.1.natural, r92.1.stretch, r92.1.shrink, r92.1.short, r92.1.bad, r92.1.class_, r92.1.over_, r92.1.hyphen, r92.1.end_, r92.1.height, r92.1.depth, v141, w (v66 + r190)))) some)) some)))) (Sum.elim (fun (v86, v87, v88, v89, v90, v91, v92, v93, v94, v95, v96, v97, v98, v99, v100, v101, v102, v103) =>
    F12_l3 k a0 a1 a2 v3 j85 v86 v87 (w (v50 + 1)) v88 v89 v90 v91 v92 v93 v94 v95 v96 v97 v98 v99 v100 v101 v102 v103) some)) else (some (.inl (v49, v65, v66)))
def F12_l7 (k : Nat) (a0 : List GItem) : Nat → Int → Int → Option Int
  | 0, _, _ => none
  | j198 + 1, v146, v147 =>
    bif decide (v147 < (a0.length : Int)) then (Option.bind (α := Int) (bindI a0 v147 fun y151 =>
    bif y151.kind == 1 then (some (w (v146 - 1))) else (some v146)) fun (v150 : Int) =>
    F12_l7 k a0 j198 v150 (w (v147 + 1))) else (some v146)
def F12 (k : Nat) (a0 : List GItem) (a1 : Int) (a2 : Int) (a3 : List Bool) : Option Bool :=
(F27 k a0).bind fun r1 =>
bif r1 then (some true) else ((F30 k a0).bind fun r5 =>
(F40 k a0).bind fun r8 =>
bif r8 != 0 then (Option.bind (α := (Unit) ⊕ (Bool)) (guardL r5.length (Option.bind (α := (Unit) ⊕ (Unit)) (F12_r1 k r5) (Sum.elim (fun (_ : Unit) =>
some (.inl ())) (fun (_ : Unit) =>
some (.inr false))))) (Sum.elim (fun (_ : Unit) =>
some true) some)) else (Option.bind (α := (List Int) ⊕ (Bool)) (guardL r5.length (Option.bind (α := ((List Int) × Int) ⊕ ((List Int) × Int)) (F12_r2 k a0 a3 r5 ([] : List Int) 0) (Sum.elim (fun (v5, v6) =>
some (.inl v5)) (fun (v9, v10) =>
some (.inr false))))) (Sum.elim (fun (v3 : List Int) =>
(F38 k a0 a1 a2 v3).bind fun r59 =>
Option.bind (α := Bool) (bif decide (a1 < 1) then (some true) else (Option.bind (α := Bool) (bif decide (a1 > 536870912) then (some true) else (Option.bind (α := Bool) (bif decide (a2 < 0) then (some true) else (some (decide (a2 > 10000)))) fun (v23 : Bool) =>
some v23)) fun (v22 : Bool) =>
some v22)) fun (v21 : Bool) =>
bif v21 then (Option.bind (α := Bool) (bif r59.2 == 1 then (some (r59.1.bad == 0 && (r59.1.total == 0 && (r59.1.lines == 0 && true)))) else (some false)) fun (v24 : Bool) =>
some v24) else (Option.bind (α := Bool) (bif r59.2 != 0 then (some true) else (some (r59.1.lines != (v3.length : Int)))) fun (v25 : Bool) =>
bif v25 then (some false) else (Option.bind (α := (Int × Int × Int) ⊕ (Bool)) (F12_l3 k a0 a1 a2 v3 k (-1) 0 0 (-1) 0 0 0 0 0 0 0 0 false false false 0 0 0 0) (Sum.elim (fun (v26, v27, v28) =>
Option.bind (α := Int) (F12_l7 k a0 k v26 0) fun (v143 : Int) =>
Option.bind (α := Bool) (bif (v27 == r59.1.bad && (v28 == r59.1.total && ((v3.length : Int) == r59.1.lines && true))) then (some (v143 == 0)) else (some false)) fun (v152 : Bool) =>
some v152) some)))) some)))
theorem L12 (k : Nat) (a0 : List GItem) (a1 : Int) (a2 : Int) (a3 : List Bool) (r : Bool) (hF : F12 k a0 a1 a2 a3 = some r) : PF Try.prog orc 12 [.list 13 (List.map cGItem a0) none, .val (.int .i64 a1), .val (.int .i64 a2), .list 1 (List.map cB a3) none] [] [] (fun p fr tk => p = .val (.bool r) ∧ fr = [] ∧ tk = []) := by
  unfold F12 at hF
  refine PF.enterM Try.func12 rfl rfl rfl (by kernel_rfl) rfl ?_
  refine PC.region ?_
  refine PO.runK 3 [0, 1, 2] [] (es := [(1, .val (.int .i64 a1)), (2, .val (.int .i64 a2)), (4, .ptr 0 0), (7, .ptr 1 0), (8, .ptr 2 0)]) (fr' := [⟨0, [.list 13 (List.map cGItem a0) none]⟩, ⟨0, [.list 1 (List.map cB a3) none]⟩, ⟨0, [.val (.bool false)]⟩]) (tk' := []) (by kernel_rfl) ?_
  refine PO.nil ?_
  refine PC.assoc ?_
  refine PC.region ?_
  refine PO.run 1 rfl ?_
  refine bindK hF (fun r1 e2 hF => ?_)
  refine PO.call rfl rfl rfl rfl (ks := []) (ts := []) (fr1 := []) rfl rfl rfl trivial (L27 k a0 _ e2) ?_
  rintro _ _ _ ⟨rfl, rfl, rfl⟩
  refine ⟨_, _, rfl, rfl, ?_⟩
  refine PO.nil ?_
  refine PC.cond rfl (fun h3 => ?_) (fun h3 => ?_)
  · have hF := bif_t h3 hF
    refine PC.assoc ?_
    refine PC.region ?_
    refine PO.runK 1 [2] [] (es := [(8, .ptr 0 0)]) (fr' := [⟨0, [.val (.bool true)]⟩]) (tk' := []) (by kernel_rfl) ?_
    refine PO.nil ?_
    obtain rfl := Option.some.inj hF
    exact PC.ret (retMK [] [] (by kernel_rfl) (.refl _) ⟨rfl, rfl, rfl⟩)
  · have hF := bif_f h3 hF
    refine PC.noop ?_
    refine PC.assoc ?_
    refine PC.region ?_
    refine PO.call rfl rfl rfl rfl (ks := []) (ts := []) (fr1 := []) rfl rfl rfl trivial K28 ?_
    rintro _ _ _ ⟨rfl, rfl, rfl⟩
    refine ⟨_, _, rfl, rfl, ?_⟩
    refine PO.run 1 rfl ?_
    refine PO.nil ?_
    refine PC.cond rfl (fun h4 => Bool.noConfusion h4) (fun _ => ?_)
    refine PC.noop ?_
    refine PC.region ?_
    refine PO.run 1 rfl ?_
    refine bindK hF (fun r5 e6 hF => ?_)
    refine PO.call rfl rfl rfl rfl (ks := []) (ts := []) (fr1 := []) rfl rfl rfl trivial (L30 k a0 _ e6) ?_
    rintro _ _ _ ⟨rfl, rfl, rfl⟩
    refine ⟨_, _, rfl, rfl, ?_⟩
    refine PO.run 1 rfl ?_
    refine PO.nil ?_
    refine PC.assoc ?_
    refine PC.region ?_
    refine PO.run 1 rfl ?_
    refine PO.same rfl (nilFn_ok Try.underlying47 rfl rfl rfl rfl) rfl ?_
    refine PO.nil ?_
    refine PC.cond rfl (fun h7 => Bool.noConfusion h7) (fun _ => ?_)
    refine PC.noop ?_
    refine PC.assoc ?_
    refine PC.region ?_
    refine PO.run 1 rfl ?_
    refine bindK hF (fun r8 e9 hF => ?_)
    refine PO.call rfl rfl rfl rfl (ks := []) (ts := []) (fr1 := []) rfl rfl rfl trivial (L40 k a0 _ e9) ?_
    rintro _ _ _ ⟨rfl, rfl, rfl⟩
    refine ⟨_, _, rfl, rfl, ?_⟩
    refine PO.run 1 rfl ?_
    refine PO.nil ?_
    refine PC.cond rfl (fun h10 => ?_) (fun h10 => ?_)
    · have hF := bif_t h10 hF
      refine PC.assoc ?_
      refine PC.assoc ?_
      refine PC.run (n := 2) rfl ?_
      refine bindK hF (fun x11 e12 hF => ?_)
      refine PC.blockJ (fun s => Weak s (PS.ofm [none] 308 [(8, .ptr 0 0)] [⟨0, [.val (.bool false)]⟩] [] 0 0) ∧ .inl () = x11) ?_ ?_
      · refine PC.lone ?_
        have hq := guardL_some e12
        have h13 := hq.1
        have e12 := hq.2
        clear hq
        refine PC.weak (s' := PS.ofm [none] 308 [(8, .ptr 0 0), (38, .fn 66 [] [.ptr 1 0])] [⟨0, [.val (.bool false)]⟩, ⟨0, [.list 1 (List.map cI_i64 r5) none]⟩] [] 0 0) (Weak.one [2, 3] [] (by kernel_rfl)) ?_
        refine bindK e12 (fun x14 e15 e12 => ?_)
        refine PC.rangeFunc (f := 66) rfl (I66 r5 h13 1) (by intro i x hx; obtain ⟨_, _, rfl⟩ := map_inv hx; rfl) (by intro h; first | rfl | cases h) (fun i fr tk => fr = [⟨0, [.val (.bool false)]⟩, ⟨0, [.list 1 (List.map cI_i64 r5) none]⟩] ∧ tk = [] ∧ F12_r1 k (List.drop i r5) = some x14) (fun y fr tk => (y = .ret ∧ fr = [⟨0, [.val (.bool false)]⟩, ⟨0, [.list 1 (List.map cI_i64 r5) none]⟩] ∧ tk = [] ∧ (.inr ()) = x14)) ?_ ?_ ?_ ?_ ?_
        · rintro i fr tk ⟨rfl, rfl, _⟩
          exact ⟨rfl, rfl, ⟨_, _, rfl⟩⟩
        · exact ⟨rfl, rfl, e15⟩
        · intro i x fr tk l hx hj
          refine Exists.elim (map_inv hx) (fun y1 hq => ?_)
          have ha := hq.1
          obtain rfl := hq.2
          clear hq
          obtain ⟨rfl, rfl, e16⟩ := hj
          rw [drop_at ha, F12_r1] at e16
          clear hx ha
          refine ⟨_, rfl, ?_⟩
          refine PC.weak (s' := PS.of 308 [(8, .ptr 0 0)] [⟨0, [.val (.bool false)]⟩, ⟨0, [.list 1 (List.map cI_i64 r5) none]⟩] [] 2 0) (Weak.one [0, 1] [] (by kernel_rfl)) ?_
          refine PC.skip ⟨rfl, ?_⟩
          refine PC.lone ?_
          refine PC.block ?_
          refine PC.region ?_
          refine PO.runK 1 [0, 1] [] (es := [(8, .ptr 0 0)]) (fr' := [⟨0, [.val (.bool false)]⟩, ⟨0, [.list 1 (List.map cI_i64 r5) none]⟩]) (tk' := []) (by kernel_rfl) ?_
          refine PO.nil ?_
          refine PC.weak (s' := PS.of 308 [] [⟨0, [.val (.bool false)]⟩, ⟨0, [.list 1 (List.map cI_i64 r5) none]⟩] [] 2 0) (Weak.one [0, 1] [] (by kernel_rfl)) ?_
          obtain rfl := Option.some.inj e16
          exact PC.ret' (blockKP.back ((⟨rfl, rfl, rfl, rfl⟩)))
        · rintro fr tk ⟨rfl, rfl, e16⟩
          rw [List.length_map, List.drop_length, F12_r1] at e16
          obtain rfl := Option.some.inj e16
          have e12 := (elim_l e12)
          refine PC.weak (s' := PS.ofm [none] 308 [(8, .ptr 0 0), (38, .fn 66 [] [.ptr 1 0])] [⟨0, [.val (.bool false)]⟩, ⟨0, [.list 1 (List.map cI_i64 r5) none]⟩] [] 0 0) (Weak.one [0, 1] [] (by kernel_rfl)) ?_
          obtain rfl := Option.some.inj e12
          exact PC.skip (blockJK.end ⟨Weak.one [0] [] (by kernel_rfl), rfl⟩)
        · rintro y fr tk hd hy
          rcases hd with ⟨rfl, rfl, rfl, rfl⟩
          · have e12 := (elim_r e12)
            obtain rfl := Option.some.inj e12
            obtain rfl := Option.some.inj hF
            exact id (blockJK.back (retMK [] [] (by kernel_rfl) (.refl _) ⟨rfl, rfl, rfl⟩))
      · rintro _ ⟨w20, rfl⟩
        refine PC.weak w20 ?_
        have hF := elim_l hF
        refine PC.assoc ?_
        refine PC.region ?_
        refine PO.runK 1 [0] [] (es := [(8, .ptr 0 0)]) (fr' := [⟨0, [.val (.bool true)]⟩]) (tk' := []) (by kernel_rfl) ?_
        refine PO.nil ?_
        obtain rfl := Option.some.inj hF
        exact PC.ret (retMK [] [] (by kernel_rfl) (.refl _) ⟨rfl, rfl, rfl⟩)
    · have hF := bif_f h10 hF
      refine PC.noop ?_
      refine PC.region ?_
      refine PO.runK 3 [0, 1, 2, 3, 4] [0] (es := [(1, .val (.int .i64 a1)), (2, .val (.int .i64 a2)), (4, .ptr 0 0), (7, .ptr 1 0), (8, .ptr 2 0), (9, .fn 66 [] [.ptr 3 0]), (10, .ptr 4 0)]) (fr' := [⟨0, [.list 13 (List.map cGItem a0) none]⟩, ⟨0, [.list 1 (List.map cB a3) none]⟩, ⟨0, [.val (.bool false)]⟩, ⟨0, [.list 1 (List.map cI_i64 r5) none]⟩, ⟨0, [.list 1 (List.map cI_i64 ([] : List Int)) (some 0)]⟩]) (tk' := [0]) (by kernel_rfl) ?_
      refine PO.nil ?_
      refine PC.region ?_
      refine PO.runK 2 [0, 1, 2, 3, 4, 5] [0] (es := [(1, .val (.int .i64 a1)), (2, .val (.int .i64 a2)), (4, .ptr 0 0), (7, .ptr 1 0), (8, .ptr 2 0), (9, .fn 66 [] [.ptr 3 0]), (10, .ptr 4 0), (11, .ptr 5 0)]) (fr' := [⟨0, [.list 13 (List.map cGItem a0) none]⟩, ⟨0, [.list 1 (List.map cB a3) none]⟩, ⟨0, [.val (.bool false)]⟩, ⟨0, [.list 1 (List.map cI_i64 r5) none]⟩, ⟨0, [.list 1 (List.map cI_i64 ([] : List Int)) (some 0)]⟩, ⟨0, [.val (.int .i64 0)]⟩]) (tk' := [0]) (by kernel_rfl) ?_
      refine PO.nil ?_
      refine PC.assoc ?_
      refine PC.run (n := 2) rfl ?_
      refine bindK hF (fun x21 e22 hF => ?_)
      refine PC.blockJ (fun s => ∃ (v3 : List Int), Weak s (PS.ofm [none] 308 [(1, .val (.int .i64 a1)), (2, .val (.int .i64 a2)), (4, .ptr 0 0), (8, .ptr 1 0), (10, .ptr 2 0)] [⟨0, [.list 13 (List.map cGItem a0) none]⟩, ⟨0, [.val (.bool false)]⟩, ⟨0, [.list 1 (List.map cI_i64 v3) (some 0)]⟩] [v3.length] 0 0) ∧ .inl v3 = x21) ?_ ?_
      · refine PC.lone ?_
        have hq := guardL_some e22
        have h23 := hq.1
        have e22 := hq.2
        clear hq
        refine PC.weak (s' := PS.ofm [none] 308 [(1, .val (.int .i64 a1)), (2, .val (.int .i64 a2)), (4, .ptr 0 0), (7, .ptr 1 0), (8, .ptr 2 0), (10, .ptr 4 0), (11, .ptr 5 0), (41, .fn 66 [] [.ptr 3 0])] [⟨0, [.list 13 (List.map cGItem a0) none]⟩, ⟨0, [.list 1 (List.map cB a3) none]⟩, ⟨0, [.val (.bool false)]⟩, ⟨0, [.list 1 (List.map cI_i64 r5) none]⟩, ⟨0, [.list 1 (List.map cI_i64 ([] : List Int)) (some 0)]⟩, ⟨0, [.val (.int .i64 0)]⟩] [0] 0 0) (Weak.one [0, 1, 2, 3, 4, 5] [0] (by kernel_rfl)) ?_
        refine bindK e22 (fun x24 e25 e22 => ?_)
        refine PC.rangeFunc (f := 66) rfl (I66 r5 h23 3) (by intro i x hx; obtain ⟨_, _, rfl⟩ := map_inv hx; rfl) (by intro h; first | rfl | cases h) (fun i fr tk => ∃ (v5 : List Int) (v6 : Int), fr = [⟨0, [.list 13 (List.map cGItem a0) none]⟩, ⟨0, [.list 1 (List.map cB a3) none]⟩, ⟨0, [.val (.bool false)]⟩, ⟨0, [.list 1 (List.map cI_i64 r5) none]⟩, ⟨0, [.list 1 (List.map cI_i64 v5) (some 0)]⟩, ⟨0, [.val (.int .i64 v6)]⟩] ∧ tk = [v5.length] ∧ F12_r2 k a0 a3 (List.drop i r5) v5 v6 = some x24) (fun y fr tk => (y = .ret ∧ ∃ (v9 : List Int) (v10 : Int), fr = [⟨0, [.list 13 (List.map cGItem a0) none]⟩, ⟨0, [.list 1 (List.map cB a3) none]⟩, ⟨0, [.val (.bool false)]⟩, ⟨0, [.list 1 (List.map cI_i64 r5) none]⟩, ⟨0, [.list 1 (List.map cI_i64 v9) (some 0)]⟩, ⟨0, [.val (.int .i64 v10)]⟩] ∧ tk = [v9.length] ∧ (.inr (v9, v10)) = x24)) ?_ ?_ ?_ ?_ ?_
        · rintro i fr tk ⟨v5, v6, rfl, rfl, _⟩
          exact ⟨rfl, rfl, ⟨_, _, rfl⟩⟩
        · exact ⟨([] : List Int), 0, rfl, rfl, e25⟩
        · intro i x fr tk l hx hj
          refine Exists.elim (map_inv hx) (fun y4 hq => ?_)
          have ha := hq.1
          obtain rfl := hq.2
          clear hq
          obtain ⟨v5, v6, rfl, rfl, e26⟩ := hj
          rw [drop_at ha, F12_r2] at e26
          clear hx ha
          refine ⟨_, rfl, ?_⟩
          refine PC.weak (s' := PS.of 308 [(4, .ptr 0 0), (7, .ptr 1 0), (8, .ptr 2 0), (10, .ptr 4 0), (11, .ptr 5 0), (42, .val (.int .i64 y4))] [⟨0, [.list 13 (List.map cGItem a0) none]⟩, ⟨0, [.list 1 (List.map cB a3) none]⟩, ⟨0, [.val (.bool false)]⟩, ⟨0, [.list 1 (List.map cI_i64 r5) none]⟩, ⟨0, [.list 1 (List.map cI_i64 v5) (some 0)]⟩, ⟨0, [.val (.int .i64 v6)]⟩] [v5.length] 6 1) (Weak.one [0, 1, 2, 3, 4, 5] [0] (by kernel_rfl)) ?_
          refine PC.lone ?_
          refine PC.run (n := 2) rfl ?_
          refine PC.skip ⟨rfl, ?_⟩
          refine PC.lone ?_
          refine PC.block ?_
          refine PC.assoc ?_
          refine PC.region ?_
          refine PO.run 3 rfl ?_
          refine bindK e26 (fun x30 e31 e26 => ?_)
          refine PO.cut 5 (fun s => ∃ (v12 : Bool), Weak s (PS.of 308 [(4, .ptr 0 0), (7, .ptr 1 0), (8, .ptr 2 0), (10, .ptr 4 0), (11, .ptr 5 0), (12, .val (.int .i64 y4)), (50, .val (.bool v12))] [⟨0, [.list 13 (List.map cGItem a0) none]⟩, ⟨0, [.list 1 (List.map cB a3) none]⟩, ⟨0, [.val (.bool false)]⟩, ⟨0, [.list 1 (List.map cI_i64 r5) none]⟩, ⟨0, [.list 1 (List.map cI_i64 v5) (some 0)]⟩, ⟨0, [.val (.int .i64 v6)]⟩] [v5.length] 6 1) ∧ v12 = x30) ?_ ?_
          · refine PO.case (t := 45) rfl rfl (fun h32 => ?_) (fun h32 => ?_)
            · have e31 := bif_t h32 e31
              refine PO.run 4 rfl ?_
              refine PO.same rfl (pickT_ok rfl rfl rfl) rfl ?_
              refine PO.nil ?_
              obtain rfl := Option.some.inj e31
              exact ⟨true, Weak.one [0, 1, 2, 3, 4, 5] [0] (by kernel_rfl), rfl⟩
            · have e31 := bif_f h32 e31
              refine PO.runK 2 [0, 1, 2, 3, 4, 5] [0] (es := [(4, .ptr 0 0), (7, .ptr 1 0), (8, .ptr 2 0), (10, .ptr 4 0), (11, .ptr 5 0), (12, .val (.int .i64 y4)), (45, .val (.bool false)), (46, .val (.int .i64 y4)), (47, .list 13 (List.map cGItem a0) none)]) (fr' := [⟨0, [.list 13 (List.map cGItem a0) none]⟩, ⟨0, [.list 1 (List.map cB a3) none]⟩, ⟨0, [.val (.bool false)]⟩, ⟨0, [.list 1 (List.map cI_i64 r5) none]⟩, ⟨0, [.list 1 (List.map cI_i64 v5) (some 0)]⟩, ⟨0, [.val (.int .i64 v6)]⟩]) (tk' := [v5.length]) (by kernel_rfl) ?_
              refine PO.same rfl (len_ok Try.underlying42 rfl (List.length_map _)) rfl ?_
              refine PO.run 1 rfl ?_
              refine PO.same rfl (pickF_ok rfl rfl rfl) rfl ?_
              refine PO.nil ?_
              obtain rfl := Option.some.inj e31
              exact ⟨decide (y4 ≥ (a0.length : Int)), Weak.one [0, 1, 2, 3, 4, 5] [0] (by kernel_rfl), rfl⟩
          · rintro _ ⟨v12, w33, rfl⟩
            refine PO.weak w33 ?_
            refine PO.nil ?_
            refine PC.cond rfl (fun h34 => ?_) (fun h34 => ?_)
            · have e26 := bif_t h34 e26
              refine PC.assoc ?_
              refine PC.region ?_
              refine PO.runK 1 [0, 1, 2, 3, 4, 5] [0] (es := [(8, .ptr 2 0)]) (fr' := [⟨0, [.list 13 (List.map cGItem a0) none]⟩, ⟨0, [.list 1 (List.map cB a3) none]⟩, ⟨0, [.val (.bool false)]⟩, ⟨0, [.list 1 (List.map cI_i64 r5) none]⟩, ⟨0, [.list 1 (List.map cI_i64 v5) (some 0)]⟩, ⟨0, [.val (.int .i64 v6)]⟩]) (tk' := [v5.length]) (by kernel_rfl) ?_
              refine PO.nil ?_
              refine PC.weak (s' := PS.of 308 [] [⟨0, [.list 13 (List.map cGItem a0) none]⟩, ⟨0, [.list 1 (List.map cB a3) none]⟩, ⟨0, [.val (.bool false)]⟩, ⟨0, [.list 1 (List.map cI_i64 r5) none]⟩, ⟨0, [.list 1 (List.map cI_i64 v5) (some 0)]⟩, ⟨0, [.val (.int .i64 v6)]⟩] [v5.length] 6 1) (Weak.one [0, 1, 2, 3, 4, 5] [0] (by kernel_rfl)) ?_
              obtain rfl := Option.some.inj e26
              exact PC.ret (blockKP.back ((⟨rfl, v5, v6, rfl, rfl, rfl⟩)))
            · have e26 := bif_f h34 e26
              refine PC.noop ?_
              refine PC.region ?_
              refine PO.run 2 rfl ?_
              refine bindIK e26 (fun y13 h35 h36 e26 => ?_)
              refine PO.same rfl (indexAddr_ok Try.underlying42 rfl rfl rfl h35 (map_at h36)) rfl ?_
              refine PO.run 4 rfl ?_
              refine bindK e26 (fun x37 e38 e26 => ?_)
              refine PO.cut 7 (fun s => ∃ (v14 : Bool), Weak s (PS.of 308 [(7, .ptr 1 0), (10, .ptr 4 0), (11, .ptr 5 0), (12, .val (.int .i64 y4)), (64, .val (.bool v14))] [⟨0, [.list 13 (List.map cGItem a0) none]⟩, ⟨0, [.list 1 (List.map cB a3) none]⟩, ⟨0, [.val (.bool false)]⟩, ⟨0, [.list 1 (List.map cI_i64 r5) none]⟩, ⟨0, [.list 1 (List.map cI_i64 v5) (some 0)]⟩, ⟨0, [.val (.int .i64 v6)]⟩] [v5.length] 6 1) ∧ v14 = x37) ?_ ?_
              · refine PO.case (t := 57) rfl rfl (fun h39 => ?_) (fun h39 => ?_)
                · have e38 := bif_t h39 e38
                  refine PO.runK 2 [0, 1, 2, 3, 4, 5] [0] (es := [(7, .ptr 1 0), (10, .ptr 4 0), (11, .ptr 5 0), (12, .val (.int .i64 y4)), (57, .val (.bool true)), (58, .list 13 (List.map cGItem a0) none), (59, .val (.int .i64 y4))]) (fr' := [⟨0, [.list 13 (List.map cGItem a0) none]⟩, ⟨0, [.list 1 (List.map cB a3) none]⟩, ⟨0, [.val (.bool false)]⟩, ⟨0, [.list 1 (List.map cI_i64 r5) none]⟩, ⟨0, [.list 1 (List.map cI_i64 v5) (some 0)]⟩, ⟨0, [.val (.int .i64 v6)]⟩]) (tk' := [v5.length]) (by kernel_rfl) ?_
                  refine bindIK e38 (fun y15 h40 h41 e38 => ?_)
                  refine PO.same rfl (indexAddr_ok Try.underlying42 rfl rfl rfl h40 (map_at h41)) rfl ?_
                  refine PO.run 3 rfl ?_
                  refine PO.same rfl (pickT_ok rfl rfl rfl) rfl ?_
                  refine PO.nil ?_
                  obtain rfl := Option.some.inj e38
                  exact ⟨y15.value == (-10000), Weak.one [0, 1, 2, 3, 4, 5] [0] (by kernel_rfl), rfl⟩
                · have e38 := bif_f h39 e38
                  refine PO.run 6 rfl ?_
                  refine PO.same rfl (pickF_ok rfl rfl rfl) rfl ?_
                  refine PO.nil ?_
                  obtain rfl := Option.some.inj e38
                  exact ⟨false, Weak.one [0, 1, 2, 3, 4, 5] [0] (by kernel_rfl), rfl⟩
              · rintro _ ⟨v14, w42, rfl⟩
                refine PO.weak w42 ?_
                refine PO.run 1 rfl ?_
                refine PO.nil ?_
                refine PC.assoc ?_
                refine PC.region ?_
                refine PO.run 2 rfl ?_
                refine bindK e26 (fun x43 e44 e26 => ?_)
                refine PO.cut 11 (fun s => ∃ (v16 : Bool), Weak s (PS.of 308 [(10, .ptr 4 0), (11, .ptr 5 0), (12, .val (.int .i64 y4)), (77, .val (.bool v16))] [⟨0, [.list 13 (List.map cGItem a0) none]⟩, ⟨0, [.list 1 (List.map cB a3) none]⟩, ⟨0, [.val (.bool false)]⟩, ⟨0, [.list 1 (List.map cI_i64 r5) none]⟩, ⟨0, [.list 1 (List.map cI_i64 v5) (some 0)]⟩, ⟨0, [.val (.int .i64 v6)]⟩] [v5.length] 6 1) ∧ v16 = x43) ?_ ?_
                · refine PO.case (t := 66) rfl rfl (fun h45 => ?_) (fun h45 => ?_)
                  · have e44 := bif_t h45 e44
                    refine PO.run 10 rfl ?_
                    refine PO.same rfl (pickT_ok rfl rfl rfl) rfl ?_
                    refine PO.nil ?_
                    obtain rfl := Option.some.inj e44
                    exact ⟨true, Weak.one [0, 1, 2, 3, 4, 5] [0] (by kernel_rfl), rfl⟩
                  · have e44 := bif_f h45 e44
                    refine PO.runK 2 [0, 1, 2, 3, 4, 5] [0] (es := [(7, .ptr 1 0), (10, .ptr 4 0), (11, .ptr 5 0), (12, .val (.int .i64 y4)), (66, .val (.bool false)), (67, .val (.int .i64 v6)), (68, .list 1 (List.map cB a3) none)]) (fr' := [⟨0, [.list 13 (List.map cGItem a0) none]⟩, ⟨0, [.list 1 (List.map cB a3) none]⟩, ⟨0, [.val (.bool false)]⟩, ⟨0, [.list 1 (List.map cI_i64 r5) none]⟩, ⟨0, [.list 1 (List.map cI_i64 v5) (some 0)]⟩, ⟨0, [.val (.int .i64 v6)]⟩]) (tk' := [v5.length]) (by kernel_rfl) ?_
                    refine PO.same rfl (len_ok Try.underlying68 rfl (List.length_map _)) rfl ?_
                    refine PO.run 2 rfl ?_
                    refine bindK e44 (fun x46 e47 e44 => ?_)
                    refine PO.cut 6 (fun s => ∃ (v17 : Bool), Weak s (PS.of 308 [(10, .ptr 4 0), (11, .ptr 5 0), (12, .val (.int .i64 y4)), (77, .val (.bool v17))] [⟨0, [.list 13 (List.map cGItem a0) none]⟩, ⟨0, [.list 1 (List.map cB a3) none]⟩, ⟨0, [.val (.bool false)]⟩, ⟨0, [.list 1 (List.map cI_i64 r5) none]⟩, ⟨0, [.list 1 (List.map cI_i64 v5) (some 0)]⟩, ⟨0, [.val (.int .i64 v6)]⟩] [v5.length] 6 1) ∧ v17 = x46) ?_ ?_
                    · refine PO.case (t := 71) rfl rfl (fun h48 => ?_) (fun h48 => ?_)
                      · have e47 := bif_t h48 e47
                        refine PO.runK 2 [0, 1, 2, 3, 4, 5] [0] (es := [(10, .ptr 4 0), (11, .ptr 5 0), (12, .val (.int .i64 y4)), (66, .val (.bool false)), (71, .val (.bool true)), (72, .list 1 (List.map cB a3) none), (73, .val (.int .i64 v6))]) (fr' := [⟨0, [.list 13 (List.map cGItem a0) none]⟩, ⟨0, [.list 1 (List.map cB a3) none]⟩, ⟨0, [.val (.bool false)]⟩, ⟨0, [.list 1 (List.map cI_i64 r5) none]⟩, ⟨0, [.list 1 (List.map cI_i64 v5) (some 0)]⟩, ⟨0, [.val (.int .i64 v6)]⟩]) (tk' := [v5.length]) (by kernel_rfl) ?_
                        refine bindIK e47 (fun y18 h49 h50 e47 => ?_)
                        refine PO.same rfl (indexAddr_ok Try.underlying68 rfl rfl rfl h49 (map_at h50)) rfl ?_
                        refine PO.run 1 rfl ?_
                        refine PO.same rfl (pickT_ok rfl rfl rfl) rfl ?_
                        refine PO.same rfl (pickF_ok rfl rfl rfl) rfl ?_
                        refine PO.nil ?_
                        obtain rfl := Option.some.inj e47
                        exact ⟨y18, Weak.one [0, 1, 2, 3, 4, 5] [0] (by kernel_rfl), rfl⟩
                      · have e47 := bif_f h48 e47
                        refine PO.run 4 rfl ?_
                        refine PO.same rfl (pickF_ok rfl rfl rfl) rfl ?_
                        refine PO.same rfl (pickF_ok rfl rfl rfl) rfl ?_
                        refine PO.nil ?_
                        obtain rfl := Option.some.inj e47
                        exact ⟨false, Weak.one [0, 1, 2, 3, 4, 5] [0] (by kernel_rfl), rfl⟩
                    · rintro _ ⟨v17, w51, rfl⟩
                      refine PO.weak w51 ?_
                      refine PO.nil ?_
                      obtain rfl := Option.some.inj e44
                      exact ⟨v17, Weak.one [0, 1, 2, 3, 4, 5] [0] (by kernel_rfl), rfl⟩
                · rintro _ ⟨v16, w52, rfl⟩
                  refine PO.weak w52 ?_
                  refine PO.nil ?_
                  refine bindK e26 (fun x53 e54 e26 => ?_)
                  refine PC.join (fun s => ∃ (v19 : List Int), Weak s (PS.of 308 [(11, .ptr 5 0)] [⟨0, [.list 13 (List.map cGItem a0) none]⟩, ⟨0, [.list 1 (List.map cB a3) none]⟩, ⟨0, [.val (.bool false)]⟩, ⟨0, [.list 1 (List.map cI_i64 r5) none]⟩, ⟨0, [.list 1 (List.map cI_i64 v19) (some 0)]⟩, ⟨0, [.val (.int .i64 v6)]⟩] [v19.length] 6 1) ∧ v19 = x53) ?_ ?_
                  · refine PC.cond rfl (fun h55 => ?_) (fun h55 => ?_)
                    · have e54 := bif_t h55 e54
                      refine PC.region ?_
                      refine PO.runK 3 [0, 1, 2, 3, 4, 5] [0, 1] (es := [(10, .ptr 4 0), (11, .ptr 5 0), (78, .list 1 (List.map cI_i64 v5) (some 0)), (80, .list 1 (List.map cI_i64 ([y4])) (some 1))]) (fr' := [⟨0, [.list 13 (List.map cGItem a0) none]⟩, ⟨0, [.list 1 (List.map cB a3) none]⟩, ⟨0, [.val (.bool false)]⟩, ⟨0, [.list 1 (List.map cI_i64 r5) none]⟩, ⟨0, [.list 1 (List.map cI_i64 v5) (some 0)]⟩, ⟨0, [.val (.int .i64 v6)]⟩]) (tk' := [v5.length, 1]) (by kernel_rfl) ?_
                      refine bindAK e54 (fun h56 e54 => ?_)
                      generalize hgl20 : v5 ++ ([y4]) = l20 at e54
                      refine PO.one rfl (append_typed (L := v5) (M := [y4]) (f := cI_i64) (sz := 1) (bytes := 8) Try.underlying43 rfl rfl rfl rfl rfl rfl rfl rfl rfl rfl rfl rfl h56 hgl20) rfl ?_
                      refine PO.runK 1 [0, 1, 2, 3, 4, 5] [0] (es := [(11, .ptr 5 0)]) (fr' := [⟨0, [.list 13 (List.map cGItem a0) none]⟩, ⟨0, [.list 1 (List.map cB a3) none]⟩, ⟨0, [.val (.bool false)]⟩, ⟨0, [.list 1 (List.map cI_i64 r5) none]⟩, ⟨0, [.list 1 (List.map cI_i64 l20) (some 0)]⟩, ⟨0, [.val (.int .i64 v6)]⟩]) (tk' := [l20.length]) (by kernel_rfl) ?_
                      refine PO.nil ?_
                      obtain rfl := Option.some.inj e54
                      exact PC.skip (joinKP.end ⟨l20, Weak.one [0, 1, 2, 3, 4, 5] [0] (by kernel_rfl), rfl⟩)
                    · have e54 := bif_f h55 e54
                      refine PC.noop ?_
                      obtain rfl := Option.some.inj e54
                      exact PC.skip (joinKP.end ⟨v5, Weak.one [0, 1, 2, 3, 4, 5] [0] (by kernel_rfl), rfl⟩)
                  · rintro _ ⟨v19, w57, rfl⟩
                    refine PC.weak w57 ?_
                    refine PC.lone ?_
                    refine PC.region ?_
                    refine PO.runK 3 [0, 1, 2, 3, 4, 5] [0] (es := []) (fr' := [⟨0, [.list 13 (List.map cGItem a0) none]⟩, ⟨0, [.list 1 (List.map cB a3) none]⟩, ⟨0, [.val (.bool false)]⟩, ⟨0, [.list 1 (List.map cI_i64 r5) none]⟩, ⟨0, [.list 1 (List.map cI_i64 v19) (some 0)]⟩, ⟨0, [.val (.int .i64 (w (v6 + 1)))]⟩]) (tk' := [v19.length]) (by kernel_rfl) ?_
                    refine PO.nil ?_
                    refine PC.skip (blockKP.end ?_)
                    refine PC.weak (s' := PS.of 308 [] [⟨0, [.list 13 (List.map cGItem a0) none]⟩, ⟨0, [.list 1 (List.map cB a3) none]⟩, ⟨0, [.val (.bool false)]⟩, ⟨0, [.list 1 (List.map cI_i64 r5) none]⟩, ⟨0, [.list 1 (List.map cI_i64 v19) (some 0)]⟩, ⟨0, [.val (.int .i64 (w (v6 + 1)))]⟩] [v19.length] 6 1) (Weak.one [0, 1, 2, 3, 4, 5] [0] (by kernel_rfl)) ?_
                    exact PC.skip (⟨v19, w (v6 + 1), rfl, rfl, e26⟩)
        · rintro fr tk ⟨v5, v6, rfl, rfl, e26⟩
          rw [List.length_map, List.drop_length, F12_r2] at e26
          obtain rfl := Option.some.inj e26
          have e22 := (elim_l e22)
          refine PC.weak (s' := PS.ofm [none] 308 [(1, .val (.int .i64 a1)), (2, .val (.int .i64 a2)), (4, .ptr 0 0), (7, .ptr 1 0), (8, .ptr 2 0), (10, .ptr 4 0), (11, .ptr 5 0), (41, .fn 66 [] [.ptr 3 0])] [⟨0, [.list 13 (List.map cGItem a0) none]⟩, ⟨0, [.list 1 (List.map cB a3) none]⟩, ⟨0, [.val (.bool false)]⟩, ⟨0, [.list 1 (List.map cI_i64 r5) none]⟩, ⟨0, [.list 1 (List.map cI_i64 v5) (some 0)]⟩, ⟨0, [.val (.int .i64 v6)]⟩] [v5.length] 0 0) (Weak.one [0, 1, 2, 3, 4, 5] [0] (by kernel_rfl)) ?_
          obtain rfl := Option.some.inj e22
          exact PC.skip (blockJK.end ⟨v5, Weak.one [0, 2, 4] [0] (by kernel_rfl), rfl⟩)
        · rintro y fr tk hd hy
          rcases hd with ⟨rfl, v9, v10, rfl, rfl, rfl⟩
          · have e22 := (elim_r e22)
            obtain rfl := Option.some.inj e22
            obtain rfl := Option.some.inj hF
            exact id (blockJK.back (retMK [] [] (by kernel_rfl) (.refl _) ⟨rfl, rfl, rfl⟩))
      · rintro _ ⟨v3, w58, rfl⟩
        refine PC.weak w58 ?_
        have hF := elim_l hF
        refine PC.region ?_
        refine PO.run 4 rfl ?_
        refine bindK hF (fun r59 e60 hF => ?_)
        refine PO.call rfl rfl rfl rfl (ks := []) (ts := []) (fr1 := []) rfl rfl rfl trivial (L38 k a0 a1 a2 v3 _ e60) ?_
        rintro _ _ _ ⟨rfl, rfl, rfl⟩
        refine ⟨_, _, rfl, rfl, ?_⟩
        refine PO.runK 6 [0, 1, 2, 3] [0] (es := [(1, .val (.int .i64 a1)), (2, .val (.int .i64 a2)), (4, .ptr 0 0), (8, .ptr 1 0), (10, .ptr 2 0), (14, .ptr 3 0), (15, .val (.int .i64 r59.2))]) (fr' := [⟨0, [.list 13 (List.map cGItem a0) none]⟩, ⟨0, [.val (.bool false)]⟩, ⟨0, [.list 1 (List.map cI_i64 v3) (some 0)]⟩, ⟨0, (cGCost r59.1)⟩]) (tk' := [v3.length]) (by kernel_rfl) ?_
        refine PO.nil ?_
        refine PC.assoc ?_
        refine PC.region ?_
        refine PO.run 3 rfl ?_
        refine bindK hF (fun x61 e62 hF => ?_)
        refine PO.cut 11 (fun s => ∃ (v21 : Bool), Weak s (PS.ofm [none] 308 [(1, .val (.int .i64 a1)), (2, .val (.int .i64 a2)), (4, .ptr 0 0), (8, .ptr 1 0), (10, .ptr 2 0), (14, .ptr 3 0), (15, .val (.int .i64 r59.2)), (105, .val (.bool v21))] [⟨0, [.list 13 (List.map cGItem a0) none]⟩, ⟨0, [.val (.bool false)]⟩, ⟨0, [.list 1 (List.map cI_i64 v3) (some 0)]⟩, ⟨0, (cGCost r59.1)⟩] [v3.length] 0 0) ∧ v21 = x61) ?_ ?_
        · refine PO.case (t := 94) rfl rfl (fun h63 => ?_) (fun h63 => ?_)
          · have e62 := bif_t h63 e62
            refine PO.run 2 rfl ?_
            refine PO.same rfl (pickT_ok rfl rfl rfl) rfl ?_
            refine PO.run 3 rfl ?_
            refine PO.same rfl (pickT_ok rfl rfl rfl) rfl ?_
            refine PO.run 3 rfl ?_
            refine PO.same rfl (pickT_ok rfl rfl rfl) rfl ?_
            refine PO.nil ?_
            obtain rfl := Option.some.inj e62
            exact ⟨true, Weak.one [0, 1, 2, 3] [0] (by kernel_rfl), rfl⟩
          · have e62 := bif_f h63 e62
            refine PO.run 2 rfl ?_
            refine PO.same rfl (pickF_ok rfl rfl rfl) rfl ?_
            refine PO.run 1 rfl ?_
            refine bindK e62 (fun x64 e65 e62 => ?_)
            refine PO.cut 7 (fun s => ∃ (v22 : Bool), Weak s (PS.ofm [none] 308 [(1, .val (.int .i64 a1)), (2, .val (.int .i64 a2)), (4, .ptr 0 0), (8, .ptr 1 0), (10, .ptr 2 0), (14, .ptr 3 0), (15, .val (.int .i64 r59.2)), (105, .val (.bool v22))] [⟨0, [.list 13 (List.map cGItem a0) none]⟩, ⟨0, [.val (.bool false)]⟩, ⟨0, [.list 1 (List.map cI_i64 v3) (some 0)]⟩, ⟨0, (cGCost r59.1)⟩] [v3.length] 0 0) ∧ v22 = x64) ?_ ?_
            · refine PO.case (t := 98) rfl rfl (fun h66 => ?_) (fun h66 => ?_)
              · have e65 := bif_t h66 e65
                refine PO.run 2 rfl ?_
                refine PO.same rfl (pickT_ok rfl rfl rfl) rfl ?_
                refine PO.run 3 rfl ?_
                refine PO.same rfl (pickT_ok rfl rfl rfl) rfl ?_
                refine PO.nil ?_
                obtain rfl := Option.some.inj e65
                exact ⟨true, Weak.one [0, 1, 2, 3] [0] (by kernel_rfl), rfl⟩
              · have e65 := bif_f h66 e65
                refine PO.run 2 rfl ?_
                refine PO.same rfl (pickF_ok rfl rfl rfl) rfl ?_
                refine PO.run 1 rfl ?_
                refine bindK e65 (fun x67 e68 e65 => ?_)
                refine PO.cut 3 (fun s => ∃ (v23 : Bool), Weak s (PS.ofm [none] 308 [(1, .val (.int .i64 a1)), (2, .val (.int .i64 a2)), (4, .ptr 0 0), (8, .ptr 1 0), (10, .ptr 2 0), (14, .ptr 3 0), (15, .val (.int .i64 r59.2)), (105, .val (.bool v23))] [⟨0, [.list 13 (List.map cGItem a0) none]⟩, ⟨0, [.val (.bool false)]⟩, ⟨0, [.list 1 (List.map cI_i64 v3) (some 0)]⟩, ⟨0, (cGCost r59.1)⟩] [v3.length] 0 0) ∧ v23 = x67) ?_ ?_
                · refine PO.case (t := 102) rfl rfl (fun h69 => ?_) (fun h69 => ?_)
                  · have e68 := bif_t h69 e68
                    refine PO.run 2 rfl ?_
                    refine PO.same rfl (pickT_ok rfl rfl rfl) rfl ?_
                    refine PO.nil ?_
                    obtain rfl := Option.some.inj e68
                    exact ⟨true, Weak.one [0, 1, 2, 3] [0] (by kernel_rfl), rfl⟩
                  · have e68 := bif_f h69 e68
                    refine PO.run 2 rfl ?_
                    refine PO.same rfl (pickF_ok rfl rfl rfl) rfl ?_
                    refine PO.nil ?_
                    obtain rfl := Option.some.inj e68
                    exact ⟨decide (a2 > 10000), Weak.one [0, 1, 2, 3] [0] (by kernel_rfl), rfl⟩
                · rintro _ ⟨v23, w70, rfl⟩
                  refine PO.weak w70 ?_
                  refine PO.nil ?_
                  obtain rfl := Option.some.inj e65
                  exact ⟨v23, Weak.one [0, 1, 2, 3] [0] (by kernel_rfl), rfl⟩
            · rintro _ ⟨v22, w71, rfl⟩
              refine PO.weak w71 ?_
              refine PO.nil ?_
              obtain rfl := Option.some.inj e62
              exact ⟨v22, Weak.one [0, 1, 2, 3] [0] (by kernel_rfl), rfl⟩
        · rintro _ ⟨v21, w72, rfl⟩
          refine PO.weak w72 ?_
          refine PO.nil ?_
          refine PC.cond rfl (fun h73 => ?_) (fun h73 => ?_)
          · have hF := bif_t h73 hF
            refine PC.assoc ?_
            refine PC.region ?_
            refine PO.run 3 rfl ?_
            refine bindK hF (fun x74 e75 hF => ?_)
            refine PO.cut 4 (fun s => ∃ (v24 : Bool), Weak s (PS.ofm [none] 308 [(8, .ptr 0 0), (112, .val (.bool v24))] [⟨0, [.val (.bool false)]⟩] [] 0 0) ∧ v24 = x74) ?_ ?_
            · refine PO.case (t := 108) rfl rfl (fun h76 => ?_) (fun h76 => ?_)
              · have e75 := bif_t h76 e75
                refine PO.runK 2 [1] [] (es := [(8, .ptr 0 0), (108, .val (.bool true)), (109, .agg (cGCost r59.1)), (110, .agg [.val (.int .i64 0), .val (.int .i64 0), .val (.int .i64 0)])]) (fr' := [⟨0, [.val (.bool false)]⟩]) (tk' := []) (by kernel_rfl) ?_
                refine PO.same rfl (aggEq_ok (v := .bool (r59.1.bad == 0 && (r59.1.total == 0 && (r59.1.lines == 0 && true)))) rfl rfl rfl rfl rfl rfl rfl (by kernel_rfl)) rfl ?_
                refine PO.same rfl (pickT_ok rfl rfl rfl) rfl ?_
                refine PO.nil ?_
                obtain rfl := Option.some.inj e75
                exact ⟨(r59.1.bad == 0 && (r59.1.total == 0 && (r59.1.lines == 0 && true))), Weak.one [0] [] (by kernel_rfl), rfl⟩
              · have e75 := bif_f h76 e75
                refine PO.run 3 rfl ?_
                refine PO.same rfl (pickF_ok rfl rfl rfl) rfl ?_
                refine PO.nil ?_
                obtain rfl := Option.some.inj e75
                exact ⟨false, Weak.one [1] [] (by kernel_rfl), rfl⟩
            · rintro _ ⟨v24, w77, rfl⟩
              refine PO.weak w77 ?_
              refine PO.runK 1 [0] [] (es := [(8, .ptr 0 0)]) (fr' := [⟨0, [.val (.bool v24)]⟩]) (tk' := []) (by kernel_rfl) ?_
              refine PO.nil ?_
              obtain rfl := Option.some.inj hF
              exact PC.ret (retMK [] [] (by kernel_rfl) (.refl _) ⟨rfl, rfl, rfl⟩)
          · have hF := bif_f h73 hF
            refine PC.noop ?_
            refine PC.assoc ?_
            refine PC.region ?_
            refine PO.run 3 rfl ?_
            refine bindK hF (fun x78 e79 hF => ?_)
            refine PO.cut 6 (fun s => ∃ (v25 : Bool), Weak s (PS.ofm [none] 308 [(1, .val (.int .i64 a1)), (2, .val (.int .i64 a2)), (4, .ptr 0 0), (8, .ptr 1 0), (10, .ptr 2 0), (14, .ptr 3 0), (121, .val (.bool v25))] [⟨0, [.list 13 (List.map cGItem a0) none]⟩, ⟨0, [.val (.bool false)]⟩, ⟨0, [.list 1 (List.map cI_i64 v3) (some 0)]⟩, ⟨0, (cGCost r59.1)⟩] [v3.length] 0 0) ∧ v25 = x78) ?_ ?_
            · refine PO.case (t := 115) rfl rfl (fun h80 => ?_) (fun h80 => ?_)
              · have e79 := bif_t h80 e79
                refine PO.run 5 rfl ?_
                refine PO.same rfl (pickT_ok rfl rfl rfl) rfl ?_
                refine PO.nil ?_
                obtain rfl := Option.some.inj e79
                exact ⟨true, Weak.one [0, 1, 2, 3] [0] (by kernel_rfl), rfl⟩
              · have e79 := bif_f h80 e79
                refine PO.runK 3 [0, 1, 2, 3] [0] (es := [(1, .val (.int .i64 a1)), (2, .val (.int .i64 a2)), (4, .ptr 0 0), (8, .ptr 1 0), (10, .ptr 2 0), (14, .ptr 3 0), (115, .val (.bool false)), (117, .val (.int .i64 r59.1.lines)), (118, .list 1 (List.map cI_i64 v3) (some 0))]) (fr' := [⟨0, [.list 13 (List.map cGItem a0) none]⟩, ⟨0, [.val (.bool false)]⟩, ⟨0, [.list 1 (List.map cI_i64 v3) (some 0)]⟩, ⟨0, (cGCost r59.1)⟩]) (tk' := [v3.length]) (by kernel_rfl) ?_
                refine PO.same rfl (len_ok Try.underlying43 rfl (List.length_map _)) rfl ?_
                refine PO.run 1 rfl ?_
                refine PO.same rfl (pickF_ok rfl rfl rfl) rfl ?_
                refine PO.nil ?_
                obtain rfl := Option.some.inj e79
                exact ⟨r59.1.lines != (v3.length : Int), Weak.one [0, 1, 2, 3] [0] (by kernel_rfl), rfl⟩
            · rintro _ ⟨v25, w81, rfl⟩
              refine PO.weak w81 ?_
              refine PO.nil ?_
              refine PC.cond rfl (fun h82 => ?_) (fun h82 => ?_)
              · have hF := bif_t h82 hF
                refine PC.assoc ?_
                refine PC.region ?_
                refine PO.runK 1 [1] [] (es := [(8, .ptr 0 0)]) (fr' := [⟨0, [.val (.bool false)]⟩]) (tk' := []) (by kernel_rfl) ?_
                refine PO.nil ?_
                obtain rfl := Option.some.inj hF
                exact PC.ret (retMK [] [] (by kernel_rfl) (.refl _) ⟨rfl, rfl, rfl⟩)
              · have hF := bif_f h82 hF
                refine PC.noop ?_
                refine PC.region ?_
                refine PO.runK 3 [0, 1, 2, 3, 4] [0] (es := [(1, .val (.int .i64 a1)), (2, .val (.int .i64 a2)), (4, .ptr 0 0), (8, .ptr 1 0), (10, .ptr 2 0), (14, .ptr 3 0), (16, .ptr 4 0)]) (fr' := [⟨0, [.list 13 (List.map cGItem a0) none]⟩, ⟨0, [.val (.bool false)]⟩, ⟨0, [.list 1 (List.map cI_i64 v3) (some 0)]⟩, ⟨0, (cGCost r59.1)⟩, ⟨0, [.val (.int .i64 (-1)), .val (.int .i64 0), .val (.int .i64 0), .val (.int .i64 0), .val (.int .i64 0), .val (.int .i64 0), .val (.int .i64 0), .val (.int .i64 0), .val (.int .i64 0), .val (.bool false), .val (.bool false), .val (.bool false), .val (.int .i64 0), .val (.int .i64 0)]⟩]) (tk' := [v3.length]) (by kernel_rfl) ?_
                refine PO.nil ?_
                refine PC.run (n := 2) rfl ?_
                refine PC.region ?_
                refine PO.run 1 rfl ?_
                refine PO.same rfl (len_ok Try.underlying43 rfl (List.length_map _)) rfl ?_
                refine PO.runK 3 [0, 1, 2, 3, 4, 5] [0] (es := [(1, .val (.int .i64 a1)), (2, .val (.int .i64 a2)), (4, .ptr 0 0), (8, .ptr 1 0), (10, .ptr 2 0), (14, .ptr 3 0), (16, .ptr 4 0), (17, .val (.int .i64 (-1))), (18, .ptr 5 0)]) (fr' := [⟨0, [.list 13 (List.map cGItem a0) none]⟩, ⟨0, [.val (.bool false)]⟩, ⟨0, [.list 1 (List.map cI_i64 v3) (some 0)]⟩, ⟨0, (cGCost r59.1)⟩, ⟨0, [.val (.int .i64 (-1)), .val (.int .i64 0), .val (.int .i64 0), .val (.int .i64 0), .val (.int .i64 0), .val (.int .i64 0), .val (.int .i64 0), .val (.int .i64 0), .val (.int .i64 0), .val (.bool false), .val (.bool false), .val (.bool false), .val (.int .i64 0), .val (.int .i64 0)]⟩, ⟨0, [.val (.int .i64 0), .val (.int .i64 0), .val (.int .i64 (v3.length : Int))]⟩]) (tk' := [v3.length]) (by kernel_rfl) ?_
                refine PO.nil ?_
                refine PC.run (n := 2) rfl ?_
                refine PC.assoc ?_
                refine PC.run (n := 2) rfl ?_
                refine bindK hF (fun x83 e84 hF => ?_)
                refine PC.blockJ (fun s => ∃ (v26 : Int) (v27 : Int) (v28 : Int), Weak s (PS.ofm [none] 308 [(4, .ptr 0 0), (8, .ptr 1 0), (14, .ptr 2 0), (18, .ptr 3 0), (19, .val (.int .i64 v26))] [⟨0, [.list 13 (List.map cGItem a0) none]⟩, ⟨0, [.val (.bool false)]⟩, ⟨0, (cGCost r59.1)⟩, ⟨0, [.val (.int .i64 v27), .val (.int .i64 v28), .val (.int .i64 (v3.length : Int))]⟩] [] 0 0) ∧ .inl (v26, v27, v28) = x83) ?_ ?_
                · refine PC.loop (fun j85 s => ∃ (v48 : Int) (v49 : Int) (v50 : Int) (v51 : Int) (v52 : Int) (v53 : Int) (v54 : Int) (v55 : Int) (v56 : Int) (v57 : Int) (v58 : Int) (v59 : Int) (v60 : Bool) (v61 : Bool) (v62 : Bool) (v63 : Int) (v64 : Int) (v65 : Int) (v66 : Int), Weak s (PS.ofm [none] 308 [(1, .val (.int .i64 a1)), (2, .val (.int .i64 a2)), (4, .ptr 0 0), (8, .ptr 1 0), (10, .ptr 2 0), (14, .ptr 3 0), (16, .ptr 4 0), (17, .val (.int .i64 v48)), (18, .ptr 5 0), (19, .val (.int .i64 v49)), (20, .val (.int .i64 v50))] [⟨0, [.list 13 (List.map cGItem a0) none]⟩, ⟨0, [.val (.bool false)]⟩, ⟨0, [.list 1 (List.map cI_i64 v3) (some 0)]⟩, ⟨0, (cGCost r59.1)⟩, ⟨0, [.val (.int .i64 v51), .val (.int .i64 v52), .val (.int .i64 v53), .val (.int .i64 v54), .val (.int .i64 v55), .val (.int .i64 v56), .val (.int .i64 v57), .val (.int .i64 v58), .val (.int .i64 v59), .val (.bool v60), .val (.bool v61), .val (.bool v62), .val (.int .i64 v63), .val (.int .i64 v64)]⟩, ⟨0, [.val (.int .i64 v65), .val (.int .i64 v66), .val (.int .i64 (v3.length : Int))]⟩] [v3.length] 0 0) ∧ F12_l3 k a0 a1 a2 v3 j85 v48 v49 v50 v51 v52 v53 v54 v55 v56 v57 v58 v59 v60 v61 v62 v63 v64 v65 v66 = some x83) (fun j85 s => ?_) k ⟨(-1), 0, 0, (-1), 0, 0, 0, 0, 0, 0, 0, 0, false, false, false, 0, 0, 0, 0, Weak.one [0, 1, 2, 3, 4, 5] [0] (by kernel_rfl), e84⟩
                  rintro ⟨v48, v49, v50, v51, v52, v53, v54, v55, v56, v57, v58, v59, v60, v61, v62, v63, v64, v65, v66, w86, e84⟩
                  refine PC.weak w86 ?_
                  cases j85 with
                  | zero => rw [F12_l3] at e84; cases e84
                  | succ j85 =>
                    rw [F12_l3] at e84
                    refine PC.assoc ?_
                    refine PC.region ?_
                    refine PO.run 2 rfl ?_
                    refine PO.same rfl (len_ok Try.underlying43 rfl (List.length_map _)) rfl ?_
                    refine PO.run 1 rfl ?_
                    refine PO.nil ?_
                    refine PC.cond rfl (fun h87 => ?_) (fun h87 => ?_)
                    · have e84 := bif_t h87 e84
                      refine PC.noop ?_
                      refine bindK e84 (fun x88 e89 e84 => ?_)
                      refine PC.blockJ (fun s => ∃ (v86 : Int) (v87 : Int) (v88 : Int) (v89 : Int) (v90 : Int) (v91 : Int) (v92 : Int) (v93 : Int) (v94 : Int) (v95 : Int) (v96 : Int) (v97 : Bool) (v98 : Bool) (v99 : Bool) (v100 : Int) (v101 : Int) (v102 : Int) (v103 : Int), Weak s (PS.ofm [none] 308 [(1, .val (.int .i64 a1)), (2, .val (.int .i64 a2)), (4, .ptr 0 0), (8, .ptr 1 0), (10, .ptr 2 0), (14, .ptr 3 0), (16, .ptr 4 0), (17, .val (.int .i64 v86)), (18, .ptr 5 0), (19, .val (.int .i64 v87)), (20, .val (.int .i64 v50))] [⟨0, [.list 13 (List.map cGItem a0) none]⟩, ⟨0, [.val (.bool false)]⟩, ⟨0, [.list 1 (List.map cI_i64 v3) (some 0)]⟩, ⟨0, (cGCost r59.1)⟩, ⟨0, [.val (.int .i64 v88), .val (.int .i64 v89), .val (.int .i64 v90), .val (.int .i64 v91), .val (.int .i64 v92), .val (.int .i64 v93), .val (.int .i64 v94), .val (.int .i64 v95), .val (.int .i64 v96), .val (.bool v97), .val (.bool v98), .val (.bool v99), .val (.int .i64 v100), .val (.int .i64 v101)]⟩, ⟨0, [.val (.int .i64 v102), .val (.int .i64 v103), .val (.int .i64 (v3.length : Int))]⟩] [v3.length] 0 0) ∧ .inl (v86, v87, v88, v89, v90, v91, v92, v93, v94, v95, v96, v97, v98, v99, v100, v101, v102, v103) = x88) ?_ ?_
                      · refine PC.draw [0, 1, 2, 3, 4, 5, 6, 7, 8, 9, 11, 12, 10, 13] (by kernel_rfl) ?_
                        refine PD.runK 5 (js' := [5, 6, 7, 8, 9, 11, 12, 10, 13]) (σ' := ⟨31, 0, 0, []⟩) (es := [(1, .val (.int .i64 a1)), (2, .val (.int .i64 a2)), (4, .ptr 0 0), (8, .ptr 1 0), (10, .ptr 2 0), (14, .ptr 3 0), (16, .ptr 4 0), (17, .val (.int .i64 v48)), (18, .ptr 5 0), (19, .val (.int .i64 v49)), (20, .val (.int .i64 v50)), (133, .list 13 (List.map cGItem a0) none), (134, .val (.int .i64 a1)), (135, .val (.int .i64 v48)), (136, .list 1 (List.map cI_i64 v3) (some 0)), (137, .val (.int .i64 v50))]) (fr' := [⟨0, [.list 13 (List.map cGItem a0) none]⟩, ⟨0, [.val (.bool false)]⟩, ⟨0, [.list 1 (List.map cI_i64 v3) (some 0)]⟩, ⟨0, (cGCost r59.1)⟩, ⟨0, [.val (.int .i64 v51), .val (.int .i64 v52), .val (.int .i64 v53), .val (.int .i64 v54), .val (.int .i64 v55), .val (.int .i64 v56), .val (.int .i64 v57), .val (.int .i64 v58), .val (.int .i64 v59), .val (.bool v60), .val (.bool v61), .val (.bool v62), .val (.int .i64 v63), .val (.int .i64 v64)]⟩, ⟨0, [.val (.int .i64 v65), .val (.int .i64 v66), .val (.int .i64 (v3.length : Int))]⟩]) (tk' := [v3.length]) (by kernel_rfl) ?_
                        refine bindIK e89 (fun y104 h90 h91 e89 => ?_)
                        refine PD.pureS rfl (by kernel_rfl) rfl (indexAddr_ok Try.underlying43 rfl rfl rfl h90 (map_at h91)) rfl ?_
                        refine PD.runK 1 (js' := [7, 8, 9, 11, 12, 10, 13]) (σ' := ⟨127, 0, 0, []⟩) (es := [(1, .val (.int .i64 a1)), (2, .val (.int .i64 a2)), (4, .ptr 0 0), (8, .ptr 1 0), (10, .ptr 2 0), (14, .ptr 3 0), (16, .ptr 4 0), (17, .val (.int .i64 v48)), (18, .ptr 5 0), (19, .val (.int .i64 v49)), (20, .val (.int .i64 v50)), (133, .list 13 (List.map cGItem a0) none), (134, .val (.int .i64 a1)), (135, .val (.int .i64 v48)), (139, .val (.int .i64 y104))]) (fr' := [⟨0, [.list 13 (List.map cGItem a0) none]⟩, ⟨0, [.val (.bool false)]⟩, ⟨0, [.list 1 (List.map cI_i64 v3) (some 0)]⟩, ⟨0, (cGCost r59.1)⟩, ⟨0, [.val (.int .i64 v51), .val (.int .i64 v52), .val (.int .i64 v53), .val (.int .i64 v54), .val (.int .i64 v55), .val (.int .i64 v56), .val (.int .i64 v57), .val (.int .i64 v58), .val (.int .i64 v59), .val (.bool v60), .val (.bool v61), .val (.bool v62), .val (.int .i64 v63), .val (.int .i64 v64)]⟩, ⟨0, [.val (.int .i64 v65), .val (.int .i64 v66), .val (.int .i64 (v3.length : Int))]⟩]) (tk' := [v3.length]) (by kernel_rfl) ?_
                        refine bindK e89 (fun r92 e93 e89 => ?_)
                        refine PD.call rfl rfl (by kernel_rfl) rfl rfl rfl (ks := []) (ts := []) (fr1 := []) rfl rfl rfl trivial (L34 k a0 a1 v48 y104 _ e93) ?_
                        rintro _ _ _ ⟨rfl, rfl, rfl⟩
                        refine ⟨_, _, rfl, rfl, ?_⟩
                        refine PD.runK 6 (js' := []) (σ' := ⟨16383, 7167, 3071, [(12, [6], false), (7, [6], true)]⟩) (es := [(1, .val (.int .i64 a1)), (2, .val (.int .i64 a2)), (4, .ptr 0 0), (8, .ptr 1 0), (10, .ptr 2 0), (14, .ptr 3 0), (16, .ptr 4 0), (17, .val (.int .i64 v48)), (18, .ptr 5 0), (19, .val (.int .i64 v49)), (20, .val (.int .i64 v50)), (21, .ptr 6 0), (22, .val (.int .i64 r92.2))]) (fr' := [⟨0, [.list 13 (List.map cGItem a0) none]⟩, ⟨0, [.val (.bool false)]⟩, ⟨0, [.list 1 (List.map cI_i64 v3) (some 0)]⟩, ⟨0, (cGCost r59.1)⟩, ⟨0, [.val (.int .i64 v51), .val (.int .i64 v52), .val (.int .i64 v53), .val (.int .i64 v54), .val (.int .i64 v55), .val (.int .i64 v56), .val (.int .i64 v57), .val (.int .i64 v58), .val (.int .i64 v59), .val (.bool v60), .val (.bool v61), .val (.bool v62), .val (.int .i64 v63), .val (.int .i64 v64)]⟩, ⟨0, [.val (.int .i64 v65), .val (.int .i64 v66), .val (.int .i64 (v3.length : Int))]⟩, ⟨0, (cGLine r92.1)⟩]) (tk' := [v3.length]) (by kernel_rfl) ?_
                        refine PD.done [0, 1, 2, 3, 4, 5, 6] [0] (es := [(1, .val (.int .i64 a1)), (2, .val (.int .i64 a2)), (4, .ptr 0 0), (8, .ptr 1 0), (10, .ptr 2 0), (14, .ptr 3 0), (16, .ptr 4 0), (17, .val (.int .i64 v48)), (18, .ptr 5 0), (19, .val (.int .i64 v49)), (20, .val (.int .i64 v50)), (21, .ptr 6 0), (22, .val (.int .i64 r92.2))]) (fr' := [⟨0, [.list 13 (List.map cGItem a0) none]⟩, ⟨0, [.val (.bool false)]⟩, ⟨0, [.list 1 (List.map cI_i64 v3) (some 0)]⟩, ⟨0, (cGCost r59.1)⟩, ⟨0, [.val (.int .i64 v51), .val (.int .i64 v52), .val (.int .i64 v53), .val (.int .i64 v54), .val (.int .i64 v55), .val (.int .i64 v56), .val (.int .i64 v57), .val (.int .i64 v58), .val (.int .i64 v59), .val (.bool v60), .val (.bool v61), .val (.bool v62), .val (.int .i64 v63), .val (.int .i64 v64)]⟩, ⟨0, [.val (.int .i64 v65), .val (.int .i64 v66), .val (.int .i64 (v3.length : Int))]⟩, ⟨0, (cGLine r92.1)⟩]) (tk' := [v3.length]) (by kernel_rfl) (by kernel_rfl) ?_
                        refine PC.assoc ?_
                        refine PC.drawn (order := [0, 1, 2, 3, 4, 5, 6, 7, 8, 9, 10, 11, 12, 13, 14, 15, 16, 17, 18, 19, 20, 21, 22, 23, 24, 25, 26, 27, 28, 29, 30, 31, 32]) (by kernel_rfl) ?_
                        refine PO.run 3 rfl ?_
                        refine bindK e89 (fun x94 e95 e89 => ?_)
                        refine PO.cut 30 (fun s => ∃ (v105 : Bool), Weak s (PS.ofm [none] 308 [(1, .val (.int .i64 a1)), (2, .val (.int .i64 a2)), (4, .ptr 0 0), (8, .ptr 1 0), (10, .ptr 2 0), (14, .ptr 3 0), (16, .ptr 4 0), (17, .val (.int .i64 v48)), (18, .ptr 5 0), (19, .val (.int .i64 v49)), (20, .val (.int .i64 v50)), (21, .ptr 6 0), (175, .val (.bool v105))] [⟨0, [.list 13 (List.map cGItem a0) none]⟩, ⟨0, [.val (.bool false)]⟩, ⟨0, [.list 1 (List.map cI_i64 v3) (some 0)]⟩, ⟨0, (cGCost r59.1)⟩, ⟨0, [.val (.int .i64 v51), .val (.int .i64 v52), .val (.int .i64 v53), .val (.int .i64 v54), .val (.int .i64 v55), .val (.int .i64 v56), .val (.int .i64 v57), .val (.int .i64 v58), .val (.int .i64 v59), .val (.bool v60), .val (.bool v61), .val (.bool v62), .val (.int .i64 v63), .val (.int .i64 v64)]⟩, ⟨0, [.val (.int .i64 v65), .val (.int .i64 v66), .val (.int .i64 (v3.length : Int))]⟩, ⟨0, (cGLine r92.1)⟩] [v3.length] 0 0) ∧ v105 = x94) ?_ ?_
                        · refine PO.case (t := 145) rfl rfl (fun h96 => ?_) (fun h96 => ?_)
                          · have e95 := bif_t h96 e95
                            refine PO.run 7 rfl ?_
                            refine PO.same rfl (pickT_ok rfl rfl rfl) rfl ?_
                            refine PO.run 8 rfl ?_
                            refine PO.same rfl (pickT_ok rfl rfl rfl) rfl ?_
                            refine PO.run 5 rfl ?_
                            refine PO.same rfl (pickT_ok rfl rfl rfl) rfl ?_
                            refine PO.run 6 rfl ?_
                            refine PO.same rfl (pickT_ok rfl rfl rfl) rfl ?_
                            refine PO.nil ?_
                            obtain rfl := Option.some.inj e95
                            exact ⟨true, Weak.one [0, 1, 2, 3, 4, 5, 6] [0] (by kernel_rfl), rfl⟩
                          · have e95 := bif_f h96 e95
                            refine PO.runK 4 [0, 1, 2, 3, 4, 5, 6] [0] (es := [(1, .val (.int .i64 a1)), (2, .val (.int .i64 a2)), (4, .ptr 0 0), (8, .ptr 1 0), (10, .ptr 2 0), (14, .ptr 3 0), (16, .ptr 4 0), (17, .val (.int .i64 v48)), (18, .ptr 5 0), (19, .val (.int .i64 v49)), (20, .val (.int .i64 v50)), (21, .ptr 6 0), (145, .val (.bool false)), (147, .val (.int .i64 r92.1.break_)), (148, .list 1 (List.map cI_i64 v3) (some 0)), (149, .val (.int .i64 v50))]) (fr' := [⟨0, [.list 13 (List.map cGItem a0) none]⟩, ⟨0, [.val (.bool false)]⟩, ⟨0, [.list 1 (List.map cI_i64 v3) (some 0)]⟩, ⟨0, (cGCost r59.1)⟩, ⟨0, [.val (.int .i64 v51), .val (.int .i64 v52), .val (.int .i64 v53), .val (.int .i64 v54), .val (.int .i64 v55), .val (.int .i64 v56), .val (.int .i64 v57), .val (.int .i64 v58), .val (.int .i64 v59), .val (.bool v60), .val (.bool v61), .val (.bool v62), .val (.int .i64 v63), .val (.int .i64 v64)]⟩, ⟨0, [.val (.int .i64 v65), .val (.int .i64 v66), .val (.int .i64 (v3.length : Int))]⟩, ⟨0, (cGLine r92.1)⟩]) (tk' := [v3.length]) (by kernel_rfl) ?_
                            refine bindIK e95 (fun y106 h97 h98 e95 => ?_)
                            refine PO.same rfl (indexAddr_ok Try.underlying43 rfl rfl rfl h97 (map_at h98)) rfl ?_
                            refine PO.run 2 rfl ?_
                            refine PO.same rfl (pickF_ok rfl rfl rfl) rfl ?_
                            refine PO.run 1 rfl ?_
                            refine bindK e95 (fun x99 e100 e95 => ?_)
                            refine PO.cut 21 (fun s => ∃ (v107 : Bool), Weak s (PS.ofm [none] 308 [(1, .val (.int .i64 a1)), (2, .val (.int .i64 a2)), (4, .ptr 0 0), (8, .ptr 1 0), (10, .ptr 2 0), (14, .ptr 3 0), (16, .ptr 4 0), (17, .val (.int .i64 v48)), (18, .ptr 5 0), (19, .val (.int .i64 v49)), (20, .val (.int .i64 v50)), (21, .ptr 6 0), (175, .val (.bool v107))] [⟨0, [.list 13 (List.map cGItem a0) none]⟩, ⟨0, [.val (.bool false)]⟩, ⟨0, [.list 1 (List.map cI_i64 v3) (some 0)]⟩, ⟨0, (cGCost r59.1)⟩, ⟨0, [.val (.int .i64 v51), .val (.int .i64 v52), .val (.int .i64 v53), .val (.int .i64 v54), .val (.int .i64 v55), .val (.int .i64 v56), .val (.int .i64 v57), .val (.int .i64 v58), .val (.int .i64 v59), .val (.bool v60), .val (.bool v61), .val (.bool v62), .val (.int .i64 v63), .val (.int .i64 v64)]⟩, ⟨0, [.val (.int .i64 v65), .val (.int .i64 v66), .val (.int .i64 (v3.length : Int))]⟩, ⟨0, (cGLine r92.1)⟩] [v3.length] 0 0) ∧ v107 = x99) ?_ ?_
                            · refine PO.case (t := 154) rfl rfl (fun h101 => ?_) (fun h101 => ?_)
                              · have e100 := bif_t h101 e100
                                refine PO.run 7 rfl ?_
                                refine PO.same rfl (pickT_ok rfl rfl rfl) rfl ?_
                                refine PO.run 5 rfl ?_
                                refine PO.same rfl (pickT_ok rfl rfl rfl) rfl ?_
                                refine PO.run 6 rfl ?_
                                refine PO.same rfl (pickT_ok rfl rfl rfl) rfl ?_
                                refine PO.nil ?_
                                obtain rfl := Option.some.inj e100
                                exact ⟨true, Weak.one [0, 1, 2, 3, 4, 5, 6] [0] (by kernel_rfl), rfl⟩
                              · have e100 := bif_f h101 e100
                                refine PO.runK 4 [0, 1, 2, 3, 4, 5, 6] [0] (es := [(1, .val (.int .i64 a1)), (2, .val (.int .i64 a2)), (4, .ptr 0 0), (8, .ptr 1 0), (10, .ptr 2 0), (14, .ptr 3 0), (16, .ptr 4 0), (17, .val (.int .i64 v48)), (18, .ptr 5 0), (19, .val (.int .i64 v49)), (20, .val (.int .i64 v50)), (21, .ptr 6 0), (154, .val (.bool false)), (156, .val (.int .i64 r92.1.last)), (157, .list 1 (List.map cI_i64 v3) (some 0)), (158, .val (.int .i64 v50))]) (fr' := [⟨0, [.list 13 (List.map cGItem a0) none]⟩, ⟨0, [.val (.bool false)]⟩, ⟨0, [.list 1 (List.map cI_i64 v3) (some 0)]⟩, ⟨0, (cGCost r59.1)⟩, ⟨0, [.val (.int .i64 v51), .val (.int .i64 v52), .val (.int .i64 v53), .val (.int .i64 v54), .val (.int .i64 v55), .val (.int .i64 v56), .val (.int .i64 v57), .val (.int .i64 v58), .val (.int .i64 v59), .val (.bool v60), .val (.bool v61), .val (.bool v62), .val (.int .i64 v63), .val (.int .i64 v64)]⟩, ⟨0, [.val (.int .i64 v65), .val (.int .i64 v66), .val (.int .i64 (v3.length : Int))]⟩, ⟨0, (cGLine r92.1)⟩]) (tk' := [v3.length]) (by kernel_rfl) ?_
                                refine bindIK e100 (fun y108 h102 h103 e100 => ?_)
                                refine PO.same rfl (indexAddr_ok Try.underlying43 rfl rfl rfl h102 (map_at h103)) rfl ?_
                                refine PO.run 2 rfl ?_
                                refine PO.same rfl (pickF_ok rfl rfl rfl) rfl ?_
                                refine PO.run 1 rfl ?_
                                refine bindK e100 (fun x104 e105 e100 => ?_)
                                refine PO.cut 12 (fun s => ∃ (v109 : Bool), Weak s (PS.ofm [none] 308 [(1, .val (.int .i64 a1)), (2, .val (.int .i64 a2)), (4, .ptr 0 0), (8, .ptr 1 0), (10, .ptr 2 0), (14, .ptr 3 0), (16, .ptr 4 0), (17, .val (.int .i64 v48)), (18, .ptr 5 0), (19, .val (.int .i64 v49)), (20, .val (.int .i64 v50)), (21, .ptr 6 0), (175, .val (.bool v109))] [⟨0, [.list 13 (List.map cGItem a0) none]⟩, ⟨0, [.val (.bool false)]⟩, ⟨0, [.list 1 (List.map cI_i64 v3) (some 0)]⟩, ⟨0, (cGCost r59.1)⟩, ⟨0, [.val (.int .i64 v51), .val (.int .i64 v52), .val (.int .i64 v53), .val (.int .i64 v54), .val (.int .i64 v55), .val (.int .i64 v56), .val (.int .i64 v57), .val (.int .i64 v58), .val (.int .i64 v59), .val (.bool v60), .val (.bool v61), .val (.bool v62), .val (.int .i64 v63), .val (.int .i64 v64)]⟩, ⟨0, [.val (.int .i64 v65), .val (.int .i64 v66), .val (.int .i64 (v3.length : Int))]⟩, ⟨0, (cGLine r92.1)⟩] [v3.length] 0 0) ∧ v109 = x104) ?_ ?_
                                · refine PO.case (t := 163) rfl rfl (fun h106 => ?_) (fun h106 => ?_)
                                  · have e105 := bif_t h106 e105
                                    refine PO.run 4 rfl ?_
                                    refine PO.same rfl (pickT_ok rfl rfl rfl) rfl ?_
                                    refine PO.run 6 rfl ?_
                                    refine PO.same rfl (pickT_ok rfl rfl rfl) rfl ?_
                                    refine PO.nil ?_
                                    obtain rfl := Option.some.inj e105
                                    exact ⟨true, Weak.one [0, 1, 2, 3, 4, 5, 6] [0] (by kernel_rfl), rfl⟩
                                  · have e105 := bif_f h106 e105
                                    refine PO.run 4 rfl ?_
                                    refine PO.same rfl (pickF_ok rfl rfl rfl) rfl ?_
                                    refine PO.run 1 rfl ?_
                                    refine bindK e105 (fun x107 e108 e105 => ?_)
                                    refine PO.cut 6 (fun s => ∃ (v110 : Bool), Weak s (PS.ofm [none] 308 [(1, .val (.int .i64 a1)), (2, .val (.int .i64 a2)), (4, .ptr 0 0), (8, .ptr 1 0), (10, .ptr 2 0), (14, .ptr 3 0), (16, .ptr 4 0), (17, .val (.int .i64 v48)), (18, .ptr 5 0), (19, .val (.int .i64 v49)), (20, .val (.int .i64 v50)), (21, .ptr 6 0), (175, .val (.bool v110))] [⟨0, [.list 13 (List.map cGItem a0) none]⟩, ⟨0, [.val (.bool false)]⟩, ⟨0, [.list 1 (List.map cI_i64 v3) (some 0)]⟩, ⟨0, (cGCost r59.1)⟩, ⟨0, [.val (.int .i64 v51), .val (.int .i64 v52), .val (.int .i64 v53), .val (.int .i64 v54), .val (.int .i64 v55), .val (.int .i64 v56), .val (.int .i64 v57), .val (.int .i64 v58), .val (.int .i64 v59), .val (.bool v60), .val (.bool v61), .val (.bool v62), .val (.int .i64 v63), .val (.int .i64 v64)]⟩, ⟨0, [.val (.int .i64 v65), .val (.int .i64 v66), .val (.int .i64 (v3.length : Int))]⟩, ⟨0, (cGLine r92.1)⟩] [v3.length] 0 0) ∧ v110 = x107) ?_ ?_
                                    · refine PO.case (t := 169) rfl rfl (fun h109 => ?_) (fun h109 => ?_)
                                      · have e108 := bif_t h109 e108
                                        refine PO.run 5 rfl ?_
                                        refine PO.same rfl (pickT_ok rfl rfl rfl) rfl ?_
                                        refine PO.nil ?_
                                        obtain rfl := Option.some.inj e108
                                        exact ⟨true, Weak.one [0, 1, 2, 3, 4, 5, 6] [0] (by kernel_rfl), rfl⟩
                                      · have e108 := bif_f h109 e108
                                        refine PO.run 5 rfl ?_
                                        refine PO.same rfl (pickF_ok rfl rfl rfl) rfl ?_
                                        refine PO.nil ?_
                                        obtain rfl := Option.some.inj e108
                                        exact ⟨decide (r92.1.first > r92.1.last), Weak.one [0, 1, 2, 3, 4, 5, 6] [0] (by kernel_rfl), rfl⟩
                                    · rintro _ ⟨v110, w110, rfl⟩
                                      refine PO.weak w110 ?_
                                      refine PO.nil ?_
                                      obtain rfl := Option.some.inj e105
                                      exact ⟨v110, Weak.one [0, 1, 2, 3, 4, 5, 6] [0] (by kernel_rfl), rfl⟩
                                · rintro _ ⟨v109, w111, rfl⟩
                                  refine PO.weak w111 ?_
                                  refine PO.nil ?_
                                  obtain rfl := Option.some.inj e100
                                  exact ⟨v109, Weak.one [0, 1, 2, 3, 4, 5, 6] [0] (by kernel_rfl), rfl⟩
                            · rintro _ ⟨v107, w112, rfl⟩
                              refine PO.weak w112 ?_
                              refine PO.nil ?_
                              obtain rfl := Option.some.inj e95
                              exact ⟨v107, Weak.one [0, 1, 2, 3, 4, 5, 6] [0] (by kernel_rfl), rfl⟩
                        · rintro _ ⟨v105, w113, rfl⟩
                          refine PO.weak w113 ?_
                          refine PO.nil ?_
                          refine PC.cond rfl (fun h114 => ?_) (fun h114 => ?_)
                          · have e89 := bif_t h114 e89
                            refine PC.assoc ?_
                            refine PC.region ?_
                            refine PO.runK 1 [0, 1, 2, 3, 4, 5] [0] (es := [(1, .val (.int .i64 a1)), (2, .val (.int .i64 a2)), (4, .ptr 0 0), (8, .ptr 1 0), (10, .ptr 2 0), (14, .ptr 3 0), (16, .ptr 4 0), (17, .val (.int .i64 v48)), (18, .ptr 5 0), (19, .val (.int .i64 v49)), (20, .val (.int .i64 v50))]) (fr' := [⟨0, [.list 13 (List.map cGItem a0) none]⟩, ⟨0, [.val (.bool false)]⟩, ⟨0, [.list 1 (List.map cI_i64 v3) (some 0)]⟩, ⟨0, (cGCost r59.1)⟩, ⟨0, [.val (.int .i64 v51), .val (.int .i64 v52), .val (.int .i64 v53), .val (.int .i64 v54), .val (.int .i64 v55), .val (.int .i64 v56), .val (.int .i64 v57), .val (.int .i64 v58), .val (.int .i64 v59), .val (.bool v60), .val (.bool v61), .val (.bool v62), .val (.int .i64 v63), .val (.int .i64 v64)]⟩, ⟨0, [.val (.int .i64 v65), .val (.int .i64 v66), .val (.int .i64 (v3.length : Int))]⟩]) (tk' := [v3.length]) (by kernel_rfl) ?_
                            refine PO.nil ?_
                            obtain rfl := Option.some.inj e89
                            obtain rfl := Option.some.inj e84
                            obtain rfl := Option.some.inj hF
                            exact PC.ret (blockJK.back (loopKP.ret (blockJK.back (retMK [] [] (by kernel_rfl) (.refl _) ⟨rfl, rfl, rfl⟩))))
                          · have e89 := bif_f h114 e89
                            refine PC.noop ?_
                            refine PC.assoc ?_
                            refine PC.drawn (order := [0, 1, 2, 3, 4, 5, 6, 7, 8, 9, 10, 11, 12, 13, 14, 15, 16, 17, 18, 19, 20, 21, 22, 23, 24, 25, 26, 27, 28, 29, 30, 31, 32, 33, 34, 35, 36, 37, 38, 39]) (by kernel_rfl) ?_
                            refine PO.run 6 rfl ?_
                            refine bindK e89 (fun x115 e116 e89 => ?_)
                            refine PO.cut 34 (fun s => ∃ (v111 : Bool), Weak s (PS.ofm [none] 308 [(1, .val (.int .i64 a1)), (2, .val (.int .i64 a2)), (4, .ptr 0 0), (8, .ptr 1 0), (10, .ptr 2 0), (14, .ptr 3 0), (16, .ptr 4 0), (17, .val (.int .i64 v48)), (18, .ptr 5 0), (19, .val (.int .i64 v49)), (20, .val (.int .i64 v50)), (21, .ptr 6 0), (215, .val (.bool v111))] [⟨0, [.list 13 (List.map cGItem a0) none]⟩, ⟨0, [.val (.bool false)]⟩, ⟨0, [.list 1 (List.map cI_i64 v3) (some 0)]⟩, ⟨0, (cGCost r59.1)⟩, ⟨0, [.val (.int .i64 v51), .val (.int .i64 v52), .val (.int .i64 v53), .val (.int .i64 v54), .val (.int .i64 v55), .val (.int .i64 v56), .val (.int .i64 v57), .val (.int .i64 v58), .val (.int .i64 v59), .val (.bool v60), .val (.bool v61), .val (.bool v62), .val (.int .i64 v63), .val (.int .i64 v64)]⟩, ⟨0, [.val (.int .i64 v65), .val (.int .i64 v66), .val (.int .i64 (v3.length : Int))]⟩, ⟨0, (cGLine r92.1)⟩] [v3.length] 0 0) ∧ v111 = x115) ?_ ?_
                            · refine PO.case (t := 181) rfl rfl (fun h117 => ?_) (fun h117 => ?_)
                              · have e116 := bif_t h117 e116
                                refine PO.runK 4 [0, 1, 2, 3, 4, 5, 6] [0] (es := [(1, .val (.int .i64 a1)), (2, .val (.int .i64 a2)), (4, .ptr 0 0), (8, .ptr 1 0), (10, .ptr 2 0), (14, .ptr 3 0), (16, .ptr 4 0), (17, .val (.int .i64 v48)), (18, .ptr 5 0), (19, .val (.int .i64 v49)), (20, .val (.int .i64 v50)), (21, .ptr 6 0), (181, .val (.bool true)), (183, .val (.int .i64 r92.1.first)), (184, .list 1 (List.map cI_i64 v3) (some 0)), (185, .val (.int .i64 v50))]) (fr' := [⟨0, [.list 13 (List.map cGItem a0) none]⟩, ⟨0, [.val (.bool false)]⟩, ⟨0, [.list 1 (List.map cI_i64 v3) (some 0)]⟩, ⟨0, (cGCost r59.1)⟩, ⟨0, [.val (.int .i64 v51), .val (.int .i64 v52), .val (.int .i64 v53), .val (.int .i64 v54), .val (.int .i64 v55), .val (.int .i64 v56), .val (.int .i64 v57), .val (.int .i64 v58), .val (.int .i64 v59), .val (.bool v60), .val (.bool v61), .val (.bool v62), .val (.int .i64 v63), .val (.int .i64 v64)]⟩, ⟨0, [.val (.int .i64 v65), .val (.int .i64 v66), .val (.int .i64 (v3.length : Int))]⟩, ⟨0, (cGLine r92.1)⟩]) (tk' := [v3.length]) (by kernel_rfl) ?_
                                refine bindIK e116 (fun y112 h118 h119 e116 => ?_)
                                refine PO.same rfl (indexAddr_ok Try.underlying43 rfl rfl rfl h118 (map_at h119)) rfl ?_
                                refine PO.run 2 rfl ?_
                                refine PO.same rfl (pickT_ok rfl rfl rfl) rfl ?_
                                refine PO.run 1 rfl ?_
                                refine bindK e116 (fun x120 e121 e116 => ?_)
                                refine PO.cut 25 (fun s => ∃ (v113 : Bool), Weak s (PS.ofm [none] 308 [(1, .val (.int .i64 a1)), (2, .val (.int .i64 a2)), (4, .ptr 0 0), (8, .ptr 1 0), (10, .ptr 2 0), (14, .ptr 3 0), (16, .ptr 4 0), (17, .val (.int .i64 v48)), (18, .ptr 5 0), (19, .val (.int .i64 v49)), (20, .val (.int .i64 v50)), (21, .ptr 6 0), (215, .val (.bool v113))] [⟨0, [.list 13 (List.map cGItem a0) none]⟩, ⟨0, [.val (.bool false)]⟩, ⟨0, [.list 1 (List.map cI_i64 v3) (some 0)]⟩, ⟨0, (cGCost r59.1)⟩, ⟨0, [.val (.int .i64 v51), .val (.int .i64 v52), .val (.int .i64 v53), .val (.int .i64 v54), .val (.int .i64 v55), .val (.int .i64 v56), .val (.int .i64 v57), .val (.int .i64 v58), .val (.int .i64 v59), .val (.bool v60), .val (.bool v61), .val (.bool v62), .val (.int .i64 v63), .val (.int .i64 v64)]⟩, ⟨0, [.val (.int .i64 v65), .val (.int .i64 v66), .val (.int .i64 (v3.length : Int))]⟩, ⟨0, (cGLine r92.1)⟩] [v3.length] 0 0) ∧ v113 = x120) ?_ ?_
                                · refine PO.case (t := 190) rfl rfl (fun h122 => ?_) (fun h122 => ?_)
                                  · have e121 := bif_t h122 e121
                                    refine PO.run 24 rfl ?_
                                    refine PO.same rfl (pickT_ok rfl rfl rfl) rfl ?_
                                    refine PO.nil ?_
                                    obtain rfl := Option.some.inj e121
                                    exact ⟨true, Weak.one [0, 1, 2, 3, 4, 5, 6] [0] (by kernel_rfl), rfl⟩
                                  · have e121 := bif_f h122 e121
                                    refine PO.run 6 rfl ?_
                                    refine bindK e121 (fun x123 e124 e121 => ?_)
                                    refine PO.cut 19 (fun s => ∃ (v114 : Bool), Weak s (PS.ofm [none] 308 [(1, .val (.int .i64 a1)), (2, .val (.int .i64 a2)), (4, .ptr 0 0), (8, .ptr 1 0), (10, .ptr 2 0), (14, .ptr 3 0), (16, .ptr 4 0), (17, .val (.int .i64 v48)), (18, .ptr 5 0), (19, .val (.int .i64 v49)), (20, .val (.int .i64 v50)), (21, .ptr 6 0), (215, .val (.bool v114))] [⟨0, [.list 13 (List.map cGItem a0) none]⟩, ⟨0, [.val (.bool false)]⟩, ⟨0, [.list 1 (List.map cI_i64 v3) (some 0)]⟩, ⟨0, (cGCost r59.1)⟩, ⟨0, [.val (.int .i64 v51), .val (.int .i64 v52), .val (.int .i64 v53), .val (.int .i64 v54), .val (.int .i64 v55), .val (.int .i64 v56), .val (.int .i64 v57), .val (.int .i64 v58), .val (.int .i64 v59), .val (.bool v60), .val (.bool v61), .val (.bool v62), .val (.int .i64 v63), .val (.int .i64 v64)]⟩, ⟨0, [.val (.int .i64 v65), .val (.int .i64 v66), .val (.int .i64 (v3.length : Int))]⟩, ⟨0, (cGLine r92.1)⟩] [v3.length] 0 0) ∧ v114 = x123) ?_ ?_
                                    · refine PO.case (t := 196) rfl rfl (fun h125 => ?_) (fun h125 => ?_)
                                      · have e124 := bif_t h125 e124
                                        refine PO.runK 3 [0, 1, 2, 3, 4, 5, 6] [0] (es := [(1, .val (.int .i64 a1)), (2, .val (.int .i64 a2)), (4, .ptr 0 0), (8, .ptr 1 0), (10, .ptr 2 0), (14, .ptr 3 0), (16, .ptr 4 0), (17, .val (.int .i64 v48)), (18, .ptr 5 0), (19, .val (.int .i64 v49)), (20, .val (.int .i64 v50)), (21, .ptr 6 0), (190, .val (.bool false)), (196, .val (.bool true)), (197, .list 13 (List.map cGItem a0) none), (199, .val (.int .i64 r92.1.first))]) (fr' := [⟨0, [.list 13 (List.map cGItem a0) none]⟩, ⟨0, [.val (.bool false)]⟩, ⟨0, [.list 1 (List.map cI_i64 v3) (some 0)]⟩, ⟨0, (cGCost r59.1)⟩, ⟨0, [.val (.int .i64 v51), .val (.int .i64 v52), .val (.int .i64 v53), .val (.int .i64 v54), .val (.int .i64 v55), .val (.int .i64 v56), .val (.int .i64 v57), .val (.int .i64 v58), .val (.int .i64 v59), .val (.bool v60), .val (.bool v61), .val (.bool v62), .val (.int .i64 v63), .val (.int .i64 v64)]⟩, ⟨0, [.val (.int .i64 v65), .val (.int .i64 v66), .val (.int .i64 (v3.length : Int))]⟩, ⟨0, (cGLine r92.1)⟩]) (tk' := [v3.length]) (by kernel_rfl) ?_
                                        refine bindIK e124 (fun y115 h126 h127 e124 => ?_)
                                        refine PO.same rfl (indexAddr_ok Try.underlying42 rfl rfl rfl h126 (map_at h127)) rfl ?_
                                        refine PO.run 4 rfl ?_
                                        refine bindK e124 (fun x128 e129 e124 => ?_)
                                        refine PO.cut 11 (fun s => ∃ (v116 : Bool), Weak s (PS.ofm [none] 308 [(1, .val (.int .i64 a1)), (2, .val (.int .i64 a2)), (4, .ptr 0 0), (8, .ptr 1 0), (10, .ptr 2 0), (14, .ptr 3 0), (16, .ptr 4 0), (17, .val (.int .i64 v48)), (18, .ptr 5 0), (19, .val (.int .i64 v49)), (20, .val (.int .i64 v50)), (21, .ptr 6 0), (215, .val (.bool v116))] [⟨0, [.list 13 (List.map cGItem a0) none]⟩, ⟨0, [.val (.bool false)]⟩, ⟨0, [.list 1 (List.map cI_i64 v3) (some 0)]⟩, ⟨0, (cGCost r59.1)⟩, ⟨0, [.val (.int .i64 v51), .val (.int .i64 v52), .val (.int .i64 v53), .val (.int .i64 v54), .val (.int .i64 v55), .val (.int .i64 v56), .val (.int .i64 v57), .val (.int .i64 v58), .val (.int .i64 v59), .val (.bool v60), .val (.bool v61), .val (.bool v62), .val (.int .i64 v63), .val (.int .i64 v64)]⟩, ⟨0, [.val (.int .i64 v65), .val (.int .i64 v66), .val (.int .i64 (v3.length : Int))]⟩, ⟨0, (cGLine r92.1)⟩] [v3.length] 0 0) ∧ v116 = x128) ?_ ?_
                                        · refine PO.case (t := 204) rfl rfl (fun h130 => ?_) (fun h130 => ?_)
                                          · have e129 := bif_t h130 e129
                                            refine PO.run 8 rfl ?_
                                            refine PO.same rfl (pickT_ok rfl rfl rfl) rfl ?_
                                            refine PO.same rfl (pickT_ok rfl rfl rfl) rfl ?_
                                            refine PO.same rfl (pickF_ok rfl rfl rfl) rfl ?_
                                            refine PO.nil ?_
                                            obtain rfl := Option.some.inj e129
                                            exact ⟨true, Weak.one [0, 1, 2, 3, 4, 5, 6] [0] (by kernel_rfl), rfl⟩
                                          · have e129 := bif_f h130 e129
                                            refine PO.runK 4 [0, 1, 2, 3, 4, 5, 6] [0] (es := [(1, .val (.int .i64 a1)), (2, .val (.int .i64 a2)), (4, .ptr 0 0), (8, .ptr 1 0), (10, .ptr 2 0), (14, .ptr 3 0), (16, .ptr 4 0), (17, .val (.int .i64 v48)), (18, .ptr 5 0), (19, .val (.int .i64 v49)), (20, .val (.int .i64 v50)), (21, .ptr 6 0), (190, .val (.bool false)), (196, .val (.bool true)), (204, .val (.bool false)), (205, .list 13 (List.map cGItem a0) none), (208, .val (.int .i64 (w (r92.1.last - 1))))]) (fr' := [⟨0, [.list 13 (List.map cGItem a0) none]⟩, ⟨0, [.val (.bool false)]⟩, ⟨0, [.list 1 (List.map cI_i64 v3) (some 0)]⟩, ⟨0, (cGCost r59.1)⟩, ⟨0, [.val (.int .i64 v51), .val (.int .i64 v52), .val (.int .i64 v53), .val (.int .i64 v54), .val (.int .i64 v55), .val (.int .i64 v56), .val (.int .i64 v57), .val (.int .i64 v58), .val (.int .i64 v59), .val (.bool v60), .val (.bool v61), .val (.bool v62), .val (.int .i64 v63), .val (.int .i64 v64)]⟩, ⟨0, [.val (.int .i64 v65), .val (.int .i64 v66), .val (.int .i64 (v3.length : Int))]⟩, ⟨0, (cGLine r92.1)⟩]) (tk' := [v3.length]) (by kernel_rfl) ?_
                                            refine bindIK e129 (fun y117 h131 h132 e129 => ?_)
                                            refine PO.same rfl (indexAddr_ok Try.underlying42 rfl rfl rfl h131 (map_at h132)) rfl ?_
                                            refine PO.run 3 rfl ?_
                                            refine PO.same rfl (pickF_ok rfl rfl rfl) rfl ?_
                                            refine PO.same rfl (pickT_ok rfl rfl rfl) rfl ?_
                                            refine PO.same rfl (pickF_ok rfl rfl rfl) rfl ?_
                                            refine PO.nil ?_
                                            obtain rfl := Option.some.inj e129
                                            exact ⟨y117.kind != 1, Weak.one [0, 1, 2, 3, 4, 5, 6] [0] (by kernel_rfl), rfl⟩
                                        · rintro _ ⟨v116, w133, rfl⟩
                                          refine PO.weak w133 ?_
                                          refine PO.nil ?_
                                          obtain rfl := Option.some.inj e124
                                          exact ⟨v116, Weak.one [0, 1, 2, 3, 4, 5, 6] [0] (by kernel_rfl), rfl⟩
                                      · have e124 := bif_f h125 e124
                                        refine PO.run 17 rfl ?_
                                        refine PO.same rfl (pickF_ok rfl rfl rfl) rfl ?_
                                        refine PO.same rfl (pickF_ok rfl rfl rfl) rfl ?_
                                        refine PO.nil ?_
                                        obtain rfl := Option.some.inj e124
                                        exact ⟨false, Weak.one [0, 1, 2, 3, 4, 5, 6] [0] (by kernel_rfl), rfl⟩
                                    · rintro _ ⟨v114, w134, rfl⟩
                                      refine PO.weak w134 ?_
                                      refine PO.nil ?_
                                      obtain rfl := Option.some.inj e121
                                      exact ⟨v114, Weak.one [0, 1, 2, 3, 4, 5, 6] [0] (by kernel_rfl), rfl⟩
                                · rintro _ ⟨v113, w135, rfl⟩
                                  refine PO.weak w135 ?_
                                  refine PO.nil ?_
                                  obtain rfl := Option.some.inj e116
                                  exact ⟨v113, Weak.one [0, 1, 2, 3, 4, 5, 6] [0] (by kernel_rfl), rfl⟩
                              · have e116 := bif_f h117 e116
                                refine PO.run 7 rfl ?_
                                refine PO.same rfl (pickF_ok rfl rfl rfl) rfl ?_
                                refine PO.run 7 rfl ?_
                                refine bindK e116 (fun x136 e137 e116 => ?_)
                                refine PO.cut 19 (fun s => ∃ (v118 : Bool), Weak s (PS.ofm [none] 308 [(1, .val (.int .i64 a1)), (2, .val (.int .i64 a2)), (4, .ptr 0 0), (8, .ptr 1 0), (10, .ptr 2 0), (14, .ptr 3 0), (16, .ptr 4 0), (17, .val (.int .i64 v48)), (18, .ptr 5 0), (19, .val (.int .i64 v49)), (20, .val (.int .i64 v50)), (21, .ptr 6 0), (215, .val (.bool v118))] [⟨0, [.list 13 (List.map cGItem a0) none]⟩, ⟨0, [.val (.bool false)]⟩, ⟨0, [.list 1 (List.map cI_i64 v3) (some 0)]⟩, ⟨0, (cGCost r59.1)⟩, ⟨0, [.val (.int .i64 v51), .val (.int .i64 v52), .val (.int .i64 v53), .val (.int .i64 v54), .val (.int .i64 v55), .val (.int .i64 v56), .val (.int .i64 v57), .val (.int .i64 v58), .val (.int .i64 v59), .val (.bool v60), .val (.bool v61), .val (.bool v62), .val (.int .i64 v63), .val (.int .i64 v64)]⟩, ⟨0, [.val (.int .i64 v65), .val (.int .i64 v66), .val (.int .i64 (v3.length : Int))]⟩, ⟨0, (cGLine r92.1)⟩] [v3.length] 0 0) ∧ v118 = x136) ?_ ?_
                                · refine PO.case (t := 196) rfl rfl (fun h138 => ?_) (fun h138 => ?_)
                                  · have e137 := bif_t h138 e137
                                    refine PO.runK 3 [0, 1, 2, 3, 4, 5, 6] [0] (es := [(1, .val (.int .i64 a1)), (2, .val (.int .i64 a2)), (4, .ptr 0 0), (8, .ptr 1 0), (10, .ptr 2 0), (14, .ptr 3 0), (16, .ptr 4 0), (17, .val (.int .i64 v48)), (18, .ptr 5 0), (19, .val (.int .i64 v49)), (20, .val (.int .i64 v50)), (21, .ptr 6 0), (190, .val (.bool false)), (196, .val (.bool true)), (197, .list 13 (List.map cGItem a0) none), (199, .val (.int .i64 r92.1.first))]) (fr' := [⟨0, [.list 13 (List.map cGItem a0) none]⟩, ⟨0, [.val (.bool false)]⟩, ⟨0, [.list 1 (List.map cI_i64 v3) (some 0)]⟩, ⟨0, (cGCost r59.1)⟩, ⟨0, [.val (.int .i64 v51), .val (.int .i64 v52), .val (.int .i64 v53), .val (.int .i64 v54), .val (.int .i64 v55), .val (.int .i64 v56), .val (.int .i64 v57), .val (.int .i64 v58), .val (.int .i64 v59), .val (.bool v60), .val (.bool v61), .val (.bool v62), .val (.int .i64 v63), .val (.int .i64 v64)]⟩, ⟨0, [.val (.int .i64 v65), .val (.int .i64 v66), .val (.int .i64 (v3.length : Int))]⟩, ⟨0, (cGLine r92.1)⟩]) (tk' := [v3.length]) (by kernel_rfl) ?_
                                    refine bindIK e137 (fun y119 h139 h140 e137 => ?_)
                                    refine PO.same rfl (indexAddr_ok Try.underlying42 rfl rfl rfl h139 (map_at h140)) rfl ?_
                                    refine PO.run 4 rfl ?_
                                    refine bindK e137 (fun x141 e142 e137 => ?_)
                                    refine PO.cut 11 (fun s => ∃ (v120 : Bool), Weak s (PS.ofm [none] 308 [(1, .val (.int .i64 a1)), (2, .val (.int .i64 a2)), (4, .ptr 0 0), (8, .ptr 1 0), (10, .ptr 2 0), (14, .ptr 3 0), (16, .ptr 4 0), (17, .val (.int .i64 v48)), (18, .ptr 5 0), (19, .val (.int .i64 v49)), (20, .val (.int .i64 v50)), (21, .ptr 6 0), (215, .val (.bool v120))] [⟨0, [.list 13 (List.map cGItem a0) none]⟩, ⟨0, [.val (.bool false)]⟩, ⟨0, [.list 1 (List.map cI_i64 v3) (some 0)]⟩, ⟨0, (cGCost r59.1)⟩, ⟨0, [.val (.int .i64 v51), .val (.int .i64 v52), .val (.int .i64 v53), .val (.int .i64 v54), .val (.int .i64 v55), .val (.int .i64 v56), .val (.int .i64 v57), .val (.int .i64 v58), .val (.int .i64 v59), .val (.bool v60), .val (.bool v61), .val (.bool v62), .val (.int .i64 v63), .val (.int .i64 v64)]⟩, ⟨0, [.val (.int .i64 v65), .val (.int .i64 v66), .val (.int .i64 (v3.length : Int))]⟩, ⟨0, (cGLine r92.1)⟩] [v3.length] 0 0) ∧ v120 = x141) ?_ ?_
                                    · refine PO.case (t := 204) rfl rfl (fun h143 => ?_) (fun h143 => ?_)
                                      · have e142 := bif_t h143 e142
                                        refine PO.run 8 rfl ?_
                                        refine PO.same rfl (pickT_ok rfl rfl rfl) rfl ?_
                                        refine PO.same rfl (pickT_ok rfl rfl rfl) rfl ?_
                                        refine PO.same rfl (pickF_ok rfl rfl rfl) rfl ?_
                                        refine PO.nil ?_
                                        obtain rfl := Option.some.inj e142
                                        exact ⟨true, Weak.one [0, 1, 2, 3, 4, 5, 6] [0] (by kernel_rfl), rfl⟩
                                      · have e142 := bif_f h143 e142
                                        refine PO.runK 4 [0, 1, 2, 3, 4, 5, 6] [0] (es := [(1, .val (.int .i64 a1)), (2, .val (.int .i64 a2)), (4, .ptr 0 0), (8, .ptr 1 0), (10, .ptr 2 0), (14, .ptr 3 0), (16, .ptr 4 0), (17, .val (.int .i64 v48)), (18, .ptr 5 0), (19, .val (.int .i64 v49)), (20, .val (.int .i64 v50)), (21, .ptr 6 0), (190, .val (.bool false)), (196, .val (.bool true)), (204, .val (.bool false)), (205, .list 13 (List.map cGItem a0) none), (208, .val (.int .i64 (w (r92.1.last - 1))))]) (fr' := [⟨0, [.list 13 (List.map cGItem a0) none]⟩, ⟨0, [.val (.bool false)]⟩, ⟨0, [.list 1 (List.map cI_i64 v3) (some 0)]⟩, ⟨0, (cGCost r59.1)⟩, ⟨0, [.val (.int .i64 v51), .val (.int .i64 v52), .val (.int .i64 v53), .val (.int .i64 v54), .val (.int .i64 v55), .val (.int .i64 v56), .val (.int .i64 v57), .val (.int .i64 v58), .val (.int .i64 v59), .val (.bool v60), .val (.bool v61), .val (.bool v62), .val (.int .i64 v63), .val (.int .i64 v64)]⟩, ⟨0, [.val (.int .i64 v65), .val (.int .i64 v66), .val (.int .i64 (v3.length : Int))]⟩, ⟨0, (cGLine r92.1)⟩]) (tk' := [v3.length]) (by kernel_rfl) ?_
                                        refine bindIK e142 (fun y121 h144 h145 e142 => ?_)
                                        refine PO.same rfl (indexAddr_ok Try.underlying42 rfl rfl rfl h144 (map_at h145)) rfl ?_
                                        refine PO.run 3 rfl ?_
                                        refine PO.same rfl (pickF_ok rfl rfl rfl) rfl ?_
                                        refine PO.same rfl (pickT_ok rfl rfl rfl) rfl ?_
                                        refine PO.same rfl (pickF_ok rfl rfl rfl) rfl ?_
                                        refine PO.nil ?_
                                        obtain rfl := Option.some.inj e142
                                        exact ⟨y121.kind != 1, Weak.one [0, 1, 2, 3, 4, 5, 6] [0] (by kernel_rfl), rfl⟩
                                    · rintro _ ⟨v120, w146, rfl⟩
                                      refine PO.weak w146 ?_
                                      refine PO.nil ?_
                                      obtain rfl := Option.some.inj e137
                                      exact ⟨v120, Weak.one [0, 1, 2, 3, 4, 5, 6] [0] (by kernel_rfl), rfl⟩
                                  · have e137 := bif_f h138 e137
                                    refine PO.run 17 rfl ?_
                                    refine PO.same rfl (pickF_ok rfl rfl rfl) rfl ?_
                                    refine PO.same rfl (pickF_ok rfl rfl rfl) rfl ?_
                                    refine PO.nil ?_
                                    obtain rfl := Option.some.inj e137
                                    exact ⟨false, Weak.one [0, 1, 2, 3, 4, 5, 6] [0] (by kernel_rfl), rfl⟩
                                · rintro _ ⟨v118, w147, rfl⟩
                                  refine PO.weak w147 ?_
                                  refine PO.nil ?_
                                  obtain rfl := Option.some.inj e116
                                  exact ⟨v118, Weak.one [0, 1, 2, 3, 4, 5, 6] [0] (by kernel_rfl), rfl⟩
                            · rintro _ ⟨v111, w148, rfl⟩
                              refine PO.weak w148 ?_
                              refine PO.nil ?_
                              refine PC.cond rfl (fun h149 => ?_) (fun h149 => ?_)
                              · have e89 := bif_t h149 e89
                                refine PC.assoc ?_
                                refine PC.region ?_
                                refine PO.runK 1 [0, 1, 2, 3, 4, 5] [0] (es := [(1, .val (.int .i64 a1)), (2, .val (.int .i64 a2)), (4, .ptr 0 0), (8, .ptr 1 0), (10, .ptr 2 0), (14, .ptr 3 0), (16, .ptr 4 0), (17, .val (.int .i64 v48)), (18, .ptr 5 0), (19, .val (.int .i64 v49)), (20, .val (.int .i64 v50))]) (fr' := [⟨0, [.list 13 (List.map cGItem a0) none]⟩, ⟨0, [.val (.bool false)]⟩, ⟨0, [.list 1 (List.map cI_i64 v3) (some 0)]⟩, ⟨0, (cGCost r59.1)⟩, ⟨0, [.val (.int .i64 v51), .val (.int .i64 v52), .val (.int .i64 v53), .val (.int .i64 v54), .val (.int .i64 v55), .val (.int .i64 v56), .val (.int .i64 v57), .val (.int .i64 v58), .val (.int .i64 v59), .val (.bool v60), .val (.bool v61), .val (.bool v62), .val (.int .i64 v63), .val (.int .i64 v64)]⟩, ⟨0, [.val (.int .i64 v65), .val (.int .i64 v66), .val (.int .i64 (v3.length : Int))]⟩]) (tk' := [v3.length]) (by kernel_rfl) ?_
                                refine PO.nil ?_
                                obtain rfl := Option.some.inj e89
                                obtain rfl := Option.some.inj e84
                                obtain rfl := Option.some.inj hF
                                exact PC.ret (blockJK.back (loopKP.ret (blockJK.back (retMK [] [] (by kernel_rfl) (.refl _) ⟨rfl, rfl, rfl⟩))))
                              · have e89 := bif_f h149 e89
                                refine PC.noop ?_
                                refine PC.assoc ?_
                                refine PC.run (n := 4) rfl ?_
                                refine bindK e89 (fun x150 e151 e89 => ?_)
                                refine PC.blockJ (fun s => Weak s (PS.ofm [none] 308 [(1, .val (.int .i64 a1)), (2, .val (.int .i64 a2)), (4, .ptr 0 0), (8, .ptr 1 0), (10, .ptr 2 0), (14, .ptr 3 0), (16, .ptr 4 0), (17, .val (.int .i64 v48)), (18, .ptr 5 0), (19, .val (.int .i64 v49)), (20, .val (.int .i64 v50)), (21, .ptr 6 0)] [⟨0, [.list 13 (List.map cGItem a0) none]⟩, ⟨0, [.val (.bool false)]⟩, ⟨0, [.list 1 (List.map cI_i64 v3) (some 0)]⟩, ⟨0, (cGCost r59.1)⟩, ⟨0, [.val (.int .i64 v51), .val (.int .i64 v52), .val (.int .i64 v53), .val (.int .i64 v54), .val (.int .i64 v55), .val (.int .i64 v56), .val (.int .i64 v57), .val (.int .i64 v58), .val (.int .i64 v59), .val (.bool v60), .val (.bool v61), .val (.bool v62), .val (.int .i64 v63), .val (.int .i64 v64)]⟩, ⟨0, [.val (.int .i64 v65), .val (.int .i64 v66), .val (.int .i64 (v3.length : Int))]⟩, ⟨0, (cGLine r92.1)⟩] [v3.length] 0 0) ∧ .inl () = x150) ?_ ?_
                                · refine PC.loop (fun j152 s => ∃ (v123 : Int), Weak s (PS.ofm [none] 308 [(1, .val (.int .i64 a1)), (2, .val (.int .i64 a2)), (4, .ptr 0 0), (8, .ptr 1 0), (10, .ptr 2 0), (14, .ptr 3 0), (16, .ptr 4 0), (17, .val (.int .i64 v48)), (18, .ptr 5 0), (19, .val (.int .i64 v49)), (20, .val (.int .i64 v50)), (21, .ptr 6 0), (23, .val (.int .i64 v123))] [⟨0, [.list 13 (List.map cGItem a0) none]⟩, ⟨0, [.val (.bool false)]⟩, ⟨0, [.list 1 (List.map cI_i64 v3) (some 0)]⟩, ⟨0, (cGCost r59.1)⟩, ⟨0, [.val (.int .i64 v51), .val (.int .i64 v52), .val (.int .i64 v53), .val (.int .i64 v54), .val (.int .i64 v55), .val (.int .i64 v56), .val (.int .i64 v57), .val (.int .i64 v58), .val (.int .i64 v59), .val (.bool v60), .val (.bool v61), .val (.bool v62), .val (.int .i64 v63), .val (.int .i64 v64)]⟩, ⟨0, [.val (.int .i64 v65), .val (.int .i64 v66), .val (.int .i64 (v3.length : Int))]⟩, ⟨0, (cGLine r92.1)⟩] [v3.length] 0 0) ∧ F12_l4 k a0 v3 v50 j152 v123 = some x150) (fun j152 s => ?_) k ⟨r92.1.last, Weak.one [0, 1, 2, 3, 4, 5, 6] [0] (by kernel_rfl), e151⟩
                                  rintro ⟨v123, w153, e151⟩
                                  refine PC.weak w153 ?_
                                  cases j152 with
                                  | zero => rw [F12_l4] at e151; cases e151
                                  | succ j152 =>
                                    rw [F12_l4] at e151
                                    refine PC.assoc ?_
                                    refine PC.region ?_
                                    refine PO.run 3 rfl ?_
                                    refine bindIK e151 (fun y125 h154 h155 e151 => ?_)
                                    refine PO.same rfl (indexAddr_ok Try.underlying43 rfl rfl rfl h154 (map_at h155)) rfl ?_
                                    refine PO.run 2 rfl ?_
                                    refine PO.nil ?_
                                    refine PC.cond rfl (fun h156 => ?_) (fun h156 => ?_)
                                    · have e151 := bif_t h156 e151
                                      refine PC.noop ?_
                                      refine PC.block ?_
                                      refine PC.region ?_
                                      refine PO.run 2 rfl ?_
                                      refine bindIK e151 (fun y126 h157 h158 e151 => ?_)
                                      refine PO.same rfl (indexAddr_ok Try.underlying42 rfl rfl rfl h157 (map_at h158)) rfl ?_
                                      refine PO.run 3 rfl ?_
                                      refine PO.nil ?_
                                      refine PC.lone ?_
                                      refine PC.cond rfl (fun h159 => ?_) (fun h159 => ?_)
                                      · have e151 := bif_t h159 e151
                                        refine PC.assoc ?_
                                        refine PC.region ?_
                                        refine PO.runK 1 [0, 1, 2, 3, 4, 5, 6] [0] (es := [(1, .val (.int .i64 a1)), (2, .val (.int .i64 a2)), (4, .ptr 0 0), (8, .ptr 1 0), (10, .ptr 2 0), (14, .ptr 3 0), (16, .ptr 4 0), (17, .val (.int .i64 v48)), (18, .ptr 5 0), (19, .val (.int .i64 v49)), (20, .val (.int .i64 v50)), (21, .ptr 6 0), (23, .val (.int .i64 v123))]) (fr' := [⟨0, [.list 13 (List.map cGItem a0) none]⟩, ⟨0, [.val (.bool false)]⟩, ⟨0, [.list 1 (List.map cI_i64 v3) (some 0)]⟩, ⟨0, (cGCost r59.1)⟩, ⟨0, [.val (.int .i64 v51), .val (.int .i64 v52), .val (.int .i64 v53), .val (.int .i64 v54), .val (.int .i64 v55), .val (.int .i64 v56), .val (.int .i64 v57), .val (.int .i64 v58), .val (.int .i64 v59), .val (.bool v60), .val (.bool v61), .val (.bool v62), .val (.int .i64 v63), .val (.int .i64 v64)]⟩, ⟨0, [.val (.int .i64 v65), .val (.int .i64 v66), .val (.int .i64 (v3.length : Int))]⟩, ⟨0, (cGLine r92.1)⟩]) (tk' := [v3.length]) (by kernel_rfl) ?_
                                        refine PO.nil ?_
                                        obtain rfl := Option.some.inj e151
                                        obtain rfl := Option.some.inj e89
                                        obtain rfl := Option.some.inj e84
                                        obtain rfl := Option.some.inj hF
                                        exact PC.ret (blockKP.back (loopKP.ret (blockJK.back (blockJK.back (loopKP.ret (blockJK.back (retMK [] [] (by kernel_rfl) (.refl _) ⟨rfl, rfl, rfl⟩)))))))
                                      · have e151 := bif_f h159 e151
                                        refine PC.noop ?_
                                        refine PC.skip (blockKP.end ?_)
                                        refine PC.lone ?_
                                        refine PC.run (n := 4) rfl ?_
                                        exact PC.skip (loopKP.mk (Nat.lt_succ_self _) ⟨w (v123 + 1), Weak.one [0, 1, 2, 3, 4, 5, 6] [0] (by kernel_rfl), e151⟩)
                                    · have e151 := bif_f h156 e151
                                      obtain rfl := Option.some.inj e151
                                      exact PC.exit (loopKP.exit (blockJK.here ⟨Weak.one [0, 1, 2, 3, 4, 5, 6] [0] (by kernel_rfl), rfl⟩))
                                · rintro _ ⟨w160, rfl⟩
                                  refine PC.weak w160 ?_
                                  have e89 := elim_l e89
                                  refine PC.assoc ?_
                                  refine PC.run (n := 4) rfl ?_
                                  refine bindK e89 (fun x161 e162 e89 => ?_)
                                  refine PC.blockJ (fun s => Weak s (PS.ofm [none] 308 [(1, .val (.int .i64 a1)), (2, .val (.int .i64 a2)), (4, .ptr 0 0), (8, .ptr 1 0), (10, .ptr 2 0), (14, .ptr 3 0), (16, .ptr 4 0), (17, .val (.int .i64 v48)), (18, .ptr 5 0), (19, .val (.int .i64 v49)), (20, .val (.int .i64 v50)), (21, .ptr 6 0)] [⟨0, [.list 13 (List.map cGItem a0) none]⟩, ⟨0, [.val (.bool false)]⟩, ⟨0, [.list 1 (List.map cI_i64 v3) (some 0)]⟩, ⟨0, (cGCost r59.1)⟩, ⟨0, [.val (.int .i64 v51), .val (.int .i64 v52), .val (.int .i64 v53), .val (.int .i64 v54), .val (.int .i64 v55), .val (.int .i64 v56), .val (.int .i64 v57), .val (.int .i64 v58), .val (.int .i64 v59), .val (.bool v60), .val (.bool v61), .val (.bool v62), .val (.int .i64 v63), .val (.int .i64 v64)]⟩, ⟨0, [.val (.int .i64 v65), .val (.int .i64 v66), .val (.int .i64 (v3.length : Int))]⟩, ⟨0, (cGLine r92.1)⟩] [v3.length] 0 0) ∧ .inl () = x161) ?_ ?_
                                  · refine PC.loop (fun j163 s => ∃ (v128 : Int), Weak s (PS.ofm [none] 308 [(1, .val (.int .i64 a1)), (2, .val (.int .i64 a2)), (4, .ptr 0 0), (8, .ptr 1 0), (10, .ptr 2 0), (14, .ptr 3 0), (16, .ptr 4 0), (17, .val (.int .i64 v48)), (18, .ptr 5 0), (19, .val (.int .i64 v49)), (20, .val (.int .i64 v50)), (21, .ptr 6 0), (24, .val (.int .i64 v128))] [⟨0, [.list 13 (List.map cGItem a0) none]⟩, ⟨0, [.val (.bool false)]⟩, ⟨0, [.list 1 (List.map cI_i64 v3) (some 0)]⟩, ⟨0, (cGCost r59.1)⟩, ⟨0, [.val (.int .i64 v51), .val (.int .i64 v52), .val (.int .i64 v53), .val (.int .i64 v54), .val (.int .i64 v55), .val (.int .i64 v56), .val (.int .i64 v57), .val (.int .i64 v58), .val (.int .i64 v59), .val (.bool v60), .val (.bool v61), .val (.bool v62), .val (.int .i64 v63), .val (.int .i64 v64)]⟩, ⟨0, [.val (.int .i64 v65), .val (.int .i64 v66), .val (.int .i64 (v3.length : Int))]⟩, ⟨0, (cGLine r92.1)⟩] [v3.length] 0 0) ∧ F12_l5 k a0 r92 j163 v128 = some x161) (fun j163 s => ?_) k ⟨w (v48 + 1), Weak.one [0, 1, 2, 3, 4, 5, 6] [0] (by kernel_rfl), e162⟩
                                    rintro ⟨v128, w164, e162⟩
                                    refine PC.weak w164 ?_
                                    cases j163 with
                                    | zero => rw [F12_l5] at e162; cases e162
                                    | succ j163 =>
                                      rw [F12_l5] at e162
                                      refine PC.assoc ?_
                                      refine PC.run (n := 5) rfl ?_
                                      refine PC.cond rfl (fun h165 => ?_) (fun h165 => ?_)
                                      · have e162 := bif_t h165 e162
                                        refine PC.noop ?_
                                        refine PC.block ?_
                                        refine PC.region ?_
                                        refine PO.run 2 rfl ?_
                                        refine bindIK e162 (fun y130 h166 h167 e162 => ?_)
                                        refine PO.same rfl (indexAddr_ok Try.underlying42 rfl rfl rfl h166 (map_at h167)) rfl ?_
                                        refine PO.run 3 rfl ?_
                                        refine PO.nil ?_
                                        refine PC.lone ?_
                                        refine PC.cond rfl (fun h168 => ?_) (fun h168 => ?_)
                                        · have e162 := bif_t h168 e162
                                          refine PC.assoc ?_
                                          refine PC.region ?_
                                          refine PO.runK 1 [0, 1, 2, 3, 4, 5, 6] [0] (es := [(1, .val (.int .i64 a1)), (2, .val (.int .i64 a2)), (4, .ptr 0 0), (8, .ptr 1 0), (10, .ptr 2 0), (14, .ptr 3 0), (16, .ptr 4 0), (17, .val (.int .i64 v48)), (18, .ptr 5 0), (19, .val (.int .i64 v49)), (20, .val (.int .i64 v50)), (21, .ptr 6 0), (24, .val (.int .i64 v128))]) (fr' := [⟨0, [.list 13 (List.map cGItem a0) none]⟩, ⟨0, [.val (.bool false)]⟩, ⟨0, [.list 1 (List.map cI_i64 v3) (some 0)]⟩, ⟨0, (cGCost r59.1)⟩, ⟨0, [.val (.int .i64 v51), .val (.int .i64 v52), .val (.int .i64 v53), .val (.int .i64 v54), .val (.int .i64 v55), .val (.int .i64 v56), .val (.int .i64 v57), .val (.int .i64 v58), .val (.int .i64 v59), .val (.bool v60), .val (.bool v61), .val (.bool v62), .val (.int .i64 v63), .val (.int .i64 v64)]⟩, ⟨0, [.val (.int .i64 v65), .val (.int .i64 v66), .val (.int .i64 (v3.length : Int))]⟩, ⟨0, (cGLine r92.1)⟩]) (tk' := [v3.length]) (by kernel_rfl) ?_
                                          refine PO.nil ?_
                                          obtain rfl := Option.some.inj e162
                                          obtain rfl := Option.some.inj e89
                                          obtain rfl := Option.some.inj e84
                                          obtain rfl := Option.some.inj hF
                                          exact PC.ret (blockKP.back (loopKP.ret (blockJK.back (blockJK.back (loopKP.ret (blockJK.back (retMK [] [] (by kernel_rfl) (.refl _) ⟨rfl, rfl, rfl⟩)))))))
                                        · have e162 := bif_f h168 e162
                                          refine PC.noop ?_
                                          refine PC.skip (blockKP.end ?_)
                                          refine PC.lone ?_
                                          refine PC.run (n := 4) rfl ?_
                                          exact PC.skip (loopKP.mk (Nat.lt_succ_self _) ⟨w (v128 + 1), Weak.one [0, 1, 2, 3, 4, 5, 6] [0] (by kernel_rfl), e162⟩)
                                      · have e162 := bif_f h165 e162
                                        obtain rfl := Option.some.inj e162
                                        exact PC.exit (loopKP.exit (blockJK.here ⟨Weak.one [0, 1, 2, 3, 4, 5, 6] [0] (by kernel_rfl), rfl⟩))
                                  · rintro _ ⟨w169, rfl⟩
                                    refine PC.weak w169 ?_
                                    have e89 := elim_l e89
                                    refine PC.assoc ?_
                                    refine PC.run (n := 4) rfl ?_
                                    refine bindK e89 (fun x170 e171 e89 => ?_)
                                    refine PC.blockJ (fun s => ∃ (v131 : Int), Weak s (PS.ofm [none] 308 [(1, .val (.int .i64 a1)), (2, .val (.int .i64 a2)), (4, .ptr 0 0), (8, .ptr 1 0), (10, .ptr 2 0), (14, .ptr 3 0), (16, .ptr 4 0), (17, .val (.int .i64 v48)), (18, .ptr 5 0), (19, .val (.int .i64 v131)), (20, .val (.int .i64 v50)), (21, .ptr 6 0)] [⟨0, [.list 13 (List.map cGItem a0) none]⟩, ⟨0, [.val (.bool false)]⟩, ⟨0, [.list 1 (List.map cI_i64 v3) (some 0)]⟩, ⟨0, (cGCost r59.1)⟩, ⟨0, [.val (.int .i64 v51), .val (.int .i64 v52), .val (.int .i64 v53), .val (.int .i64 v54), .val (.int .i64 v55), .val (.int .i64 v56), .val (.int .i64 v57), .val (.int .i64 v58), .val (.int .i64 v59), .val (.bool v60), .val (.bool v61), .val (.bool v62), .val (.int .i64 v63), .val (.int .i64 v64)]⟩, ⟨0, [.val (.int .i64 v65), .val (.int .i64 v66), .val (.int .i64 (v3.length : Int))]⟩, ⟨0, (cGLine r92.1)⟩] [v3.length] 0 0) ∧ v131 = x170) ?_ ?_
                                    · refine PC.loop (fun j172 s => ∃ (v134 : Int) (v135 : Int), Weak s (PS.ofm [none] 308 [(1, .val (.int .i64 a1)), (2, .val (.int .i64 a2)), (4, .ptr 0 0), (8, .ptr 1 0), (10, .ptr 2 0), (14, .ptr 3 0), (16, .ptr 4 0), (17, .val (.int .i64 v48)), (18, .ptr 5 0), (19, .val (.int .i64 v134)), (20, .val (.int .i64 v50)), (21, .ptr 6 0), (25, .val (.int .i64 v135))] [⟨0, [.list 13 (List.map cGItem a0) none]⟩, ⟨0, [.val (.bool false)]⟩, ⟨0, [.list 1 (List.map cI_i64 v3) (some 0)]⟩, ⟨0, (cGCost r59.1)⟩, ⟨0, [.val (.int .i64 v51), .val (.int .i64 v52), .val (.int .i64 v53), .val (.int .i64 v54), .val (.int .i64 v55), .val (.int .i64 v56), .val (.int .i64 v57), .val (.int .i64 v58), .val (.int .i64 v59), .val (.bool v60), .val (.bool v61), .val (.bool v62), .val (.int .i64 v63), .val (.int .i64 v64)]⟩, ⟨0, [.val (.int .i64 v65), .val (.int .i64 v66), .val (.int .i64 (v3.length : Int))]⟩, ⟨0, (cGLine r92.1)⟩] [v3.length] 0 0) ∧ F12_l6 k a0 r92 j172 v134 v135 = some x170) (fun j172 s => ?_) k ⟨v49, r92.1.first, Weak.one [0, 1, 2, 3, 4, 5, 6] [0] (by kernel_rfl), e171⟩
                                      rintro ⟨v134, v135, w173, e171⟩
                                      refine PC.weak w173 ?_
                                      cases j172 with
                                      | zero => rw [F12_l6] at e171; cases e171
                                      | succ j172 =>
                                        rw [F12_l6] at e171
                                        refine PC.assoc ?_
                                        refine PC.run (n := 5) rfl ?_
                                        refine PC.cond rfl (fun h174 => ?_) (fun h174 => ?_)
                                        · have e171 := bif_t h174 e171
                                          refine PC.noop ?_
                                          refine bindK e171 (fun x175 e176 e171 => ?_)
                                          refine PC.blockJ (fun s => ∃ (v138 : Int), Weak s (PS.ofm [none] 308 [(1, .val (.int .i64 a1)), (2, .val (.int .i64 a2)), (4, .ptr 0 0), (8, .ptr 1 0), (10, .ptr 2 0), (14, .ptr 3 0), (16, .ptr 4 0), (17, .val (.int .i64 v48)), (18, .ptr 5 0), (19, .val (.int .i64 v138)), (20, .val (.int .i64 v50)), (21, .ptr 6 0), (25, .val (.int .i64 v135))] [⟨0, [.list 13 (List.map cGItem a0) none]⟩, ⟨0, [.val (.bool false)]⟩, ⟨0, [.list 1 (List.map cI_i64 v3) (some 0)]⟩, ⟨0, (cGCost r59.1)⟩, ⟨0, [.val (.int .i64 v51), .val (.int .i64 v52), .val (.int .i64 v53), .val (.int .i64 v54), .val (.int .i64 v55), .val (.int .i64 v56), .val (.int .i64 v57), .val (.int .i64 v58), .val (.int .i64 v59), .val (.bool v60), .val (.bool v61), .val (.bool v62), .val (.int .i64 v63), .val (.int .i64 v64)]⟩, ⟨0, [.val (.int .i64 v65), .val (.int .i64 v66), .val (.int .i64 (v3.length : Int))]⟩, ⟨0, (cGLine r92.1)⟩] [v3.length] 0 0) ∧ v138 = x175) ?_ ?_
                                          · refine PC.region ?_
                                            refine PO.run 2 rfl ?_
                                            refine bindIK e176 (fun y139 h177 h178 e176 => ?_)
                                            refine PO.same rfl (indexAddr_ok Try.underlying42 rfl rfl rfl h177 (map_at h178)) rfl ?_
                                            refine PO.run 3 rfl ?_
                                            refine PO.nil ?_
                                            refine PC.lone ?_
                                            refine PC.cond rfl (fun h179 => ?_) (fun h179 => ?_)
                                            · have e176 := bif_t h179 e176
                                              refine PC.run (n := 4) rfl ?_
                                              obtain rfl := Option.some.inj e176
                                              exact PC.skip (blockJK.end ⟨w (v134 + 1), Weak.one [0, 1, 2, 3, 4, 5, 6] [0] (by kernel_rfl), rfl⟩)
                                            · have e176 := bif_f h179 e176
                                              refine PC.noop ?_
                                              obtain rfl := Option.some.inj e176
                                              exact PC.skip (blockJK.end ⟨v134, Weak.one [0, 1, 2, 3, 4, 5, 6] [0] (by kernel_rfl), rfl⟩)
                                          · rintro _ ⟨v138, w180, rfl⟩
                                            refine PC.weak w180 ?_
                                            refine PC.lone ?_
                                            refine PC.run (n := 4) rfl ?_
                                            exact PC.skip (loopKP.mk (Nat.lt_succ_self _) ⟨v138, w (v135 + 1), Weak.one [0, 1, 2, 3, 4, 5, 6] [0] (by kernel_rfl), e171⟩)
                                        · have e171 := bif_f h174 e171
                                          obtain rfl := Option.some.inj e171
                                          exact PC.exit (loopKP.exit (blockJK.here ⟨v134, Weak.one [0, 1, 2, 3, 4, 5, 6] [0] (by kernel_rfl), rfl⟩))
                                    · rintro _ ⟨v131, w181, rfl⟩
                                      refine PC.weak w181 ?_
                                      refine PC.assoc ?_
                                      refine PC.region ?_
                                      refine PO.run 3 rfl ?_
                                      refine bindK e89 (fun x182 e183 e89 => ?_)
                                      refine PO.cut 5 (fun s => ∃ (v140 : Bool), Weak s (PS.ofm [none] 308 [(1, .val (.int .i64 a1)), (2, .val (.int .i64 a2)), (4, .ptr 0 0), (8, .ptr 1 0), (10, .ptr 2 0), (14, .ptr 3 0), (16, .ptr 4 0), (17, .val (.int .i64 v48)), (18, .ptr 5 0), (19, .val (.int .i64 v131)), (20, .val (.int .i64 v50)), (21, .ptr 6 0), (269, .val (.bool v140))] [⟨0, [.list 13 (List.map cGItem a0) none]⟩, ⟨0, [.val (.bool false)]⟩, ⟨0, [.list 1 (List.map cI_i64 v3) (some 0)]⟩, ⟨0, (cGCost r59.1)⟩, ⟨0, [.val (.int .i64 v51), .val (.int .i64 v52), .val (.int .i64 v53), .val (.int .i64 v54), .val (.int .i64 v55), .val (.int .i64 v56), .val (.int .i64 v57), .val (.int .i64 v58), .val (.int .i64 v59), .val (.bool v60), .val (.bool v61), .val (.bool v62), .val (.int .i64 v63), .val (.int .i64 v64)]⟩, ⟨0, [.val (.int .i64 v65), .val (.int .i64 v66), .val (.int .i64 (v3.length : Int))]⟩, ⟨0, (cGLine r92.1)⟩] [v3.length] 0 0) ∧ v140 = x182) ?_ ?_
                                      · refine PO.case (t := 264) rfl rfl (fun h184 => ?_) (fun h184 => ?_)
                                        · have e183 := bif_t h184 e183
                                          refine PO.run 4 rfl ?_
                                          refine PO.same rfl (pickT_ok rfl rfl rfl) rfl ?_
                                          refine PO.nil ?_
                                          obtain rfl := Option.some.inj e183
                                          exact ⟨true, Weak.one [0, 1, 2, 3, 4, 5, 6] [0] (by kernel_rfl), rfl⟩
                                        · have e183 := bif_f h184 e183
                                          refine PO.run 4 rfl ?_
                                          refine PO.same rfl (pickF_ok rfl rfl rfl) rfl ?_
                                          refine PO.nil ?_
                                          obtain rfl := Option.some.inj e183
                                          exact ⟨decide (r92.1.bad > a2), Weak.one [0, 1, 2, 3, 4, 5, 6] [0] (by kernel_rfl), rfl⟩
                                      · rintro _ ⟨v140, w185, rfl⟩
                                        refine PO.weak w185 ?_
                                        refine PO.nil ?_
                                        refine bindK e89 (fun x186 e187 e89 => ?_)
                                        refine PC.join (fun s => ∃ (v141 : Int), Weak s (PS.ofm [none] 308 [(1, .val (.int .i64 a1)), (2, .val (.int .i64 a2)), (4, .ptr 0 0), (8, .ptr 1 0), (10, .ptr 2 0), (14, .ptr 3 0), (16, .ptr 4 0), (17, .val (.int .i64 v48)), (18, .ptr 5 0), (19, .val (.int .i64 v131)), (20, .val (.int .i64 v50)), (21, .ptr 6 0)] [⟨0, [.list 13 (List.map cGItem a0) none]⟩, ⟨0, [.val (.bool false)]⟩, ⟨0, [.list 1 (List.map cI_i64 v3) (some 0)]⟩, ⟨0, (cGCost r59.1)⟩, ⟨0, [.val (.int .i64 v51), .val (.int .i64 v52), .val (.int .i64 v53), .val (.int .i64 v54), .val (.int .i64 v55), .val (.int .i64 v56), .val (.int .i64 v57), .val (.int .i64 v58), .val (.int .i64 v59), .val (.bool v60), .val (.bool v61), .val (.bool v62), .val (.int .i64 v63), .val (.int .i64 v64)]⟩, ⟨0, [.val (.int .i64 v141), .val (.int .i64 v66), .val (.int .i64 (v3.length : Int))]⟩, ⟨0, (cGLine r92.1)⟩] [v3.length] 0 0) ∧ v141 = x186) ?_ ?_
                                        · refine PC.cond rfl (fun h188 => ?_) (fun h188 => ?_)
                                          · have e187 := bif_t h188 e187
                                            refine PC.region ?_
                                            refine PO.runK 5 [0, 1, 2, 3, 4, 5, 6] [0] (es := [(1, .val (.int .i64 a1)), (2, .val (.int .i64 a2)), (4, .ptr 0 0), (8, .ptr 1 0), (10, .ptr 2 0), (14, .ptr 3 0), (16, .ptr 4 0), (17, .val (.int .i64 v48)), (18, .ptr 5 0), (19, .val (.int .i64 v131)), (20, .val (.int .i64 v50)), (21, .ptr 6 0)]) (fr' := [⟨0, [.list 13 (List.map cGItem a0) none]⟩, ⟨0, [.val (.bool false)]⟩, ⟨0, [.list 1 (List.map cI_i64 v3) (some 0)]⟩, ⟨0, (cGCost r59.1)⟩, ⟨0, [.val (.int .i64 v51), .val (.int .i64 v52), .val (.int .i64 v53), .val (.int .i64 v54), .val (.int .i64 v55), .val (.int .i64 v56), .val (.int .i64 v57), .val (.int .i64 v58), .val (.int .i64 v59), .val (.bool v60), .val (.bool v61), .val (.bool v62), .val (.int .i64 v63), .val (.int .i64 v64)]⟩, ⟨0, [.val (.int .i64 (w (v65 + 1))), .val (.int .i64 v66), .val (.int .i64 (v3.length : Int))]⟩, ⟨0, (cGLine r92.1)⟩]) (tk' := [v3.length]) (by kernel_rfl) ?_
                                            refine PO.nil ?_
                                            obtain rfl := Option.some.inj e187
                                            exact PC.skip (joinKP.end ⟨w (v65 + 1), Weak.one [0, 1, 2, 3, 4, 5, 6] [0] (by kernel_rfl), rfl⟩)
                                          · have e187 := bif_f h188 e187
                                            refine PC.noop ?_
                                            obtain rfl := Option.some.inj e187
                                            exact PC.skip (joinKP.end ⟨v65, Weak.one [0, 1, 2, 3, 4, 5, 6] [0] (by kernel_rfl), rfl⟩)
                                        · rintro _ ⟨v141, w189, rfl⟩
                                          refine PC.weak w189 ?_
                                          refine PC.draw [2, 3, 4, 5, 0, 1, 6, 7, 8] (by kernel_rfl) ?_
                                          refine PD.runK 3 (js' := [5, 0, 1, 6, 7, 8]) (σ' := ⟨28, 0, 0, []⟩) (es := [(1, .val (.int .i64 a1)), (2, .val (.int .i64 a2)), (4, .ptr 0 0), (8, .ptr 1 0), (10, .ptr 2 0), (14, .ptr 3 0), (16, .ptr 4 0), (17, .val (.int .i64 v48)), (18, .ptr 5 0), (19, .val (.int .i64 v131)), (20, .val (.int .i64 v50)), (21, .ptr 6 0), (276, .list 13 (List.map cGItem a0) none), (277, .agg [.val (.int .i64 v51), .val (.int .i64 v52), .val (.int .i64 v53), .val (.int .i64 v54), .val (.int .i64 v55), .val (.int .i64 v56), .val (.int .i64 v57), .val (.int .i64 v58), .val (.int .i64 v59), .val (.bool v60), .val (.bool v61), .val (.bool v62), .val (.int .i64 v63), .val (.int .i64 v64)]), (278, .agg (cGLine r92.1))]) (fr' := [⟨0, [.list 13 (List.map cGItem a0) none]⟩, ⟨0, [.val (.bool false)]⟩, ⟨0, [.list 1 (List.map cI_i64 v3) (some 0)]⟩, ⟨0, (cGCost r59.1)⟩, ⟨0, [.val (.int .i64 v51), .val (.int .i64 v52), .val (.int .i64 v53), .val (.int .i64 v54), .val (.int .i64 v55), .val (.int .i64 v56), .val (.int .i64 v57), .val (.int .i64 v58), .val (.int .i64 v59), .val (.bool v60), .val (.bool v61), .val (.bool v62), .val (.int .i64 v63), .val (.int .i64 v64)]⟩, ⟨0, [.val (.int .i64 v141), .val (.int .i64 v66), .val (.int .i64 (v3.length : Int))]⟩, ⟨0, (cGLine r92.1)⟩]) (tk' := [v3.length]) (by kernel_rfl) ?_
                                          refine bindK e89 (fun r190 e191 e89 => ?_)
                                          refine PD.call rfl rfl (by kernel_rfl) rfl rfl rfl (ks := []) (ts := []) (fr1 := []) rfl rfl rfl trivial (L36 k a0 (GLine.mk v51 v52 v53 v54 v55 v56 v57 v58 v59 v60 v61 v62 v63 v64) r92.1 _ e191) ?_
                                          rintro _ _ _ ⟨rfl, rfl, rfl⟩
                                          refine ⟨_, _, rfl, rfl, ?_⟩
                                          refine PD.runK 5 (js' := []) (σ' := ⟨511, 511, 255, [(8, [5], false), (5, [5], true)]⟩) (es := [(1, .val (.int .i64 a1)), (2, .val (.int .i64 a2)), (4, .ptr 0 0), (8, .ptr 1 0), (10, .ptr 2 0), (14, .ptr 3 0), (16, .ptr 4 0), (17, .val (.int .i64 v48)), (18, .ptr 5 0), (19, .val (.int .i64 v131)), (20, .val (.int .i64 v50)), (21, .ptr 6 0)]) (fr' := [⟨0, [.list 13 (List.map cGItem a0) none]⟩, ⟨0, [.val (.bool false)]⟩, ⟨0, [.list 1 (List.map cI_i64 v3) (some 0)]⟩, ⟨0, (cGCost r59.1)⟩, ⟨0, [.val (.int .i64 v51), .val (.int .i64 v52), .val (.int .i64 v53), .val (.int .i64 v54), .val (.int .i64 v55), .val (.int .i64 v56), .val (.int .i64 v57), .val (.int .i64 v58), .val (.int .i64 v59), .val (.bool v60), .val (.bool v61), .val (.bool v62), .val (.int .i64 v63), .val (.int .i64 v64)]⟩, ⟨0, [.val (.int .i64 v141), .val (.int .i64 (w (v66 + r190))), .val (.int .i64 (v3.length : Int))]⟩, ⟨0, (cGLine r92.1)⟩]) (tk' := [v3.length]) (by kernel_rfl) ?_
                                          refine PD.done [0, 1, 2, 3, 4, 5, 6] [0] (es := [(1, .val (.int .i64 a1)), (2, .val (.int .i64 a2)), (4, .ptr 0 0), (8, .ptr 1 0), (10, .ptr 2 0), (14, .ptr 3 0), (16, .ptr 4 0), (17, .val (.int .i64 v48)), (18, .ptr 5 0), (19, .val (.int .i64 v131)), (20, .val (.int .i64 v50)), (21, .ptr 6 0)]) (fr' := [⟨0, [.list 13 (List.map cGItem a0) none]⟩, ⟨0, [.val (.bool false)]⟩, ⟨0, [.list 1 (List.map cI_i64 v3) (some 0)]⟩, ⟨0, (cGCost r59.1)⟩, ⟨0, [.val (.int .i64 v51), .val (.int .i64 v52), .val (.int .i64 v53), .val (.int .i64 v54), .val (.int .i64 v55), .val (.int .i64 v56), .val (.int .i64 v57), .val (.int .i64 v58), .val (.int .i64 v59), .val (.bool v60), .val (.bool v61), .val (.bool v62), .val (.int .i64 v63), .val (.int .i64 v64)]⟩, ⟨0, [.val (.int .i64 v141), .val (.int .i64 (w (v66 + r190))), .val (.int .i64 (v3.length : Int))]⟩, ⟨0, (cGLine r92.1)⟩]) (tk' := [v3.length]) (by kernel_rfl) (by kernel_rfl) ?_
                                          refine PC.region ?_
                                          refine PO.runK 2 [0, 1, 2, 3, 4, 5] [0] (es := [(1, .val (.int .i64 a1)), (2, .val (.int .i64 a2)), (4, .ptr 0 0), (8, .ptr 1 0), (10, .ptr 2 0), (14, .ptr 3 0), (16, .ptr 4 0), (17, .val (.int .i64 v48)), (18, .ptr 5 0), (19, .val (.int .i64 v131)), (20, .val (.int .i64 v50))]) (fr' := [⟨0, [.list 13 (List.map cGItem a0) none]⟩, ⟨0, [.val (.bool false)]⟩, ⟨0, [.list 1 (List.map cI_i64 v3) (some 0)]⟩, ⟨0, (cGCost r59.1)⟩, ⟨0, (cGLine r92.1)⟩, ⟨0, [.val (.int .i64 v141), .val (.int .i64 (w (v66 + r190))), .val (.int .i64 (v3.length : Int))]⟩]) (tk' := [v3.length]) (by kernel_rfl) ?_
                                          refine PO.nil ?_
                                          refine PC.lone ?_
                                          refine PC.region ?_
                                          refine PO.run 2 rfl ?_
                                          refine bindIK e89 (fun y142 h192 h193 e89 => ?_)
                                          refine PO.same rfl (indexAddr_ok Try.underlying43 rfl rfl rfl h192 (map_at h193)) rfl ?_
                                          refine PO.run 2 rfl ?_
                                          refine PO.nil ?_
                                          obtain rfl := Option.some.inj e89
                                          exact PC.skip (blockJK.end ⟨y142, v131, r92.1.first, r92.1.last, r92.1.break_, r92.1.natural, r92.1.stretch, r92.1.shrink, r92.1.short, r92.1.bad, r92.1.class_, r92.1.over_, r92.1.hyphen, r92.1.end_, r92.1.height, r92.1.depth, v141, w (v66 + r190), Weak.one [0, 1, 2, 3, 4, 5] [0] (by kernel_rfl), rfl⟩)
                      · rintro _ ⟨v86, v87, v88, v89, v90, v91, v92, v93, v94, v95, v96, v97, v98, v99, v100, v101, v102, v103, w194, rfl⟩
                        refine PC.weak w194 ?_
                        have e84 := elim_l e84
                        refine PC.lone ?_
                        refine PC.run (n := 4) rfl ?_
                        exact PC.skip (loopKP.mk (Nat.lt_succ_self _) ⟨v86, v87, w (v50 + 1), v88, v89, v90, v91, v92, v93, v94, v95, v96, v97, v98, v99, v100, v101, v102, v103, Weak.one [0, 1, 2, 3, 4, 5] [0] (by kernel_rfl), e84⟩)
                    · have e84 := bif_f h87 e84
                      obtain rfl := Option.some.inj e84
                      exact PC.exit (loopKP.exit (blockJK.here ⟨v49, v65, v66, Weak.one [0, 1, 3, 5] [] (by kernel_rfl), rfl⟩))
                · rintro _ ⟨v26, v27, v28, w195, rfl⟩
                  refine PC.weak w195 ?_
                  have hF := elim_l hF
                  refine PC.assoc ?_
                  refine PC.run (n := 2) rfl ?_
                  refine bindK hF (fun x196 e197 hF => ?_)
                  refine PC.blockJ (fun s => ∃ (v143 : Int), Weak s (PS.ofm [none] 308 [(8, .ptr 0 0), (14, .ptr 1 0), (18, .ptr 2 0), (19, .val (.int .i64 v143))] [⟨0, [.val (.bool false)]⟩, ⟨0, (cGCost r59.1)⟩, ⟨0, [.val (.int .i64 v27), .val (.int .i64 v28), .val (.int .i64 (v3.length : Int))]⟩] [] 0 0) ∧ v143 = x196) ?_ ?_
                  · refine PC.loop (fun j198 s => ∃ (v146 : Int) (v147 : Int), Weak s (PS.ofm [none] 308 [(4, .ptr 0 0), (8, .ptr 1 0), (14, .ptr 2 0), (18, .ptr 3 0), (19, .val (.int .i64 v146)), (26, .val (.int .i64 v147))] [⟨0, [.list 13 (List.map cGItem a0) none]⟩, ⟨0, [.val (.bool false)]⟩, ⟨0, (cGCost r59.1)⟩, ⟨0, [.val (.int .i64 v27), .val (.int .i64 v28), .val (.int .i64 (v3.length : Int))]⟩] [] 0 0) ∧ F12_l7 k a0 j198 v146 v147 = some x196) (fun j198 s => ?_) k ⟨v26, 0, Weak.one [0, 1, 2, 3] [] (by kernel_rfl), e197⟩
                    rintro ⟨v146, v147, w199, e197⟩
                    refine PC.weak w199 ?_
                    cases j198 with
                    | zero => rw [F12_l7] at e197; cases e197
                    | succ j198 =>
                      rw [F12_l7] at e197
                      refine PC.assoc ?_
                      refine PC.region ?_
                      refine PO.run 2 rfl ?_
                      refine PO.same rfl (len_ok Try.underlying42 rfl (List.length_map _)) rfl ?_
                      refine PO.run 1 rfl ?_
                      refine PO.nil ?_
                      refine PC.cond rfl (fun h200 => ?_) (fun h200 => ?_)
                      · have e197 := bif_t h200 e197
                        refine PC.noop ?_
                        refine bindK e197 (fun x201 e202 e197 => ?_)
                        refine PC.blockJ (fun s => ∃ (v150 : Int), Weak s (PS.ofm [none] 308 [(4, .ptr 0 0), (8, .ptr 1 0), (14, .ptr 2 0), (18, .ptr 3 0), (19, .val (.int .i64 v150)), (26, .val (.int .i64 v147))] [⟨0, [.list 13 (List.map cGItem a0) none]⟩, ⟨0, [.val (.bool false)]⟩, ⟨0, (cGCost r59.1)⟩, ⟨0, [.val (.int .i64 v27), .val (.int .i64 v28), .val (.int .i64 (v3.length : Int))]⟩] [] 0 0) ∧ v150 = x201) ?_ ?_
                        · refine PC.region ?_
                          refine PO.run 2 rfl ?_
                          refine bindIK e202 (fun y151 h203 h204 e202 => ?_)
                          refine PO.same rfl (indexAddr_ok Try.underlying42 rfl rfl rfl h203 (map_at h204)) rfl ?_
                          refine PO.run 3 rfl ?_
                          refine PO.nil ?_
                          refine PC.lone ?_
                          refine PC.cond rfl (fun h205 => ?_) (fun h205 => ?_)
                          · have e202 := bif_t h205 e202
                            refine PC.run (n := 4) rfl ?_
                            obtain rfl := Option.some.inj e202
                            exact PC.skip (blockJK.end ⟨w (v146 - 1), Weak.one [0, 1, 2, 3] [] (by kernel_rfl), rfl⟩)
                          · have e202 := bif_f h205 e202
                            refine PC.noop ?_
                            obtain rfl := Option.some.inj e202
                            exact PC.skip (blockJK.end ⟨v146, Weak.one [0, 1, 2, 3] [] (by kernel_rfl), rfl⟩)
                        · rintro _ ⟨v150, w206, rfl⟩
                          refine PC.weak w206 ?_
                          refine PC.lone ?_
                          refine PC.run (n := 4) rfl ?_
                          exact PC.skip (loopKP.mk (Nat.lt_succ_self _) ⟨v150, w (v147 + 1), Weak.one [0, 1, 2, 3] [] (by kernel_rfl), e197⟩)
                      · have e197 := bif_f h200 e197
                        obtain rfl := Option.some.inj e197
                        exact PC.exit (loopKP.exit (blockJK.here ⟨v146, Weak.one [1, 2, 3] [] (by kernel_rfl), rfl⟩))
                  · rintro _ ⟨v143, w207, rfl⟩
                    refine PC.weak w207 ?_
                    refine PC.region ?_
                    refine PO.run 2 rfl ?_
                    refine PO.same rfl (aggEq_ok (v := .bool (v27 == r59.1.bad && (v28 == r59.1.total && ((v3.length : Int) == r59.1.lines && true)))) rfl rfl rfl rfl rfl rfl rfl (by kernel_rfl)) rfl ?_
                    refine PO.run 1 rfl ?_
                    refine bindK hF (fun x208 e209 hF => ?_)
                    refine PO.cut 3 (fun s => ∃ (v152 : Bool), Weak s (PS.ofm [none] 308 [(8, .ptr 0 0), (307, .val (.bool v152))] [⟨0, [.val (.bool false)]⟩] [] 0 0) ∧ v152 = x208) ?_ ?_
                    · refine PO.case (t := 304) rfl rfl (fun h210 => ?_) (fun h210 => ?_)
                      · have e209 := bif_t h210 e209
                        refine PO.run 2 rfl ?_
                        refine PO.same rfl (pickT_ok rfl rfl rfl) rfl ?_
                        refine PO.nil ?_
                        obtain rfl := Option.some.inj e209
                        exact ⟨v143 == 0, Weak.one [0] [] (by kernel_rfl), rfl⟩
                      · have e209 := bif_f h210 e209
                        refine PO.run 2 rfl ?_
                        refine PO.same rfl (pickF_ok rfl rfl rfl) rfl ?_
                        refine PO.nil ?_
                        obtain rfl := Option.some.inj e209
                        exact ⟨false, Weak.one [0] [] (by kernel_rfl), rfl⟩
                    · rintro _ ⟨v152, w211, rfl⟩
                      refine PO.weak w211 ?_
                      refine PO.runK 1 [0] [] (es := [(8, .ptr 0 0)]) (fr' := [⟨0, [.val (.bool v152)]⟩]) (tk' := []) (by kernel_rfl) ?_
                      refine PO.nil ?_
                      obtain rfl := Option.some.inj hF
                      exact PC.ret' (retMK [] [] (by kernel_rfl) (.refl _) ⟨rfl, rfl, rfl⟩)

end
end Go.Eng.Lift
