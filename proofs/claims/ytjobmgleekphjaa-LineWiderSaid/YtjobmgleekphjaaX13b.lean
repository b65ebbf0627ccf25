import Derived.Test.YtjobmgleekphjaaX13a
import Derived.Test.YtjobmgleekphjaaProg
import Derived.KernelRfl
set_option linter.unusedVariables false
set_option linter.unusedSimpArgs false
set_option maxRecDepth 100000
set_option maxHeartbeats 4000000
namespace Go.Eng.Lift
open Go.Proofs
noncomputable section
/-! 13 platen/platenlaw14.LineWider -/
def F13 (k : Nat) (a0 : List GItem) (a1 : Int) (a2 : Int) (a3 : Int) (a4 : Int) : Option Bool :=
(F27 k a0).bind fun r1 =>
bif r1 then (some true) else ((F34 k a0 a1 a3 a4).bind fun r5 =>
bif r5.2 != 0 then (some (r5.1.first == 0 && (r5.1.last == 0 && (r5.1.break_ == 0 && (r5.1.natural == 0 && (r5.1.stretch == 0 && (r5.1.shrink == 0 && (r5.1.short == 0 && (r5.1.bad == 0 && (r5.1.class_ == 0 && (r5.1.over_ == false && (r5.1.hyphen == false && (r5.1.end_ == false && (r5.1.height == 0 && (r5.1.depth == 0 && true))))))))))))))) else (Option.bind (α := Bool) (bif decide (a4 < 0) then (some true) else (Option.bind (α := Bool) (bif decide (a4 ≥ (a0.length : Int)) then (some true) else (Option.bind (α := Bool) (bif decide (r5.1.first < 0) then (some true) else (Option.bind (α := Bool) (bif decide (r5.1.first > r5.1.last) then (some true) else (some (decide (r5.1.last > a4)))) fun (v4 : Bool) =>
some v4)) fun (v3 : Bool) =>
some v3)) fun (v2 : Bool) =>
some v2)) fun (v1 : Bool) =>
bif v1 then (some false) else (Option.bind (α := Bool) (bif decide (a2 < 0) then (some true) else (Option.bind (α := Bool) (bif decide (a2 > 536870912) then (some true) else (some (decide ((w (a1 + a2)) > 536870912)))) fun (v6 : Bool) =>
some v6)) fun (v5 : Bool) =>
bif v5 then (some true) else ((F34 k a0 (w (a1 + a2)) a3 a4).bind fun r34 =>
Option.bind (α := Bool) (bif r34.2 != 0 then (some true) else (Option.bind (α := Bool) (bif r34.1.short != (w (r5.1.short + a2)) then (some true) else (Option.bind (α := Bool) (bif r34.1.natural != r5.1.natural then (some true) else (Option.bind (α := Bool) (bif r34.1.over_ then (Option.bind (α := Bool) (bif !r5.1.over_ then (some true) else (Option.bind (α := Bool) (bif r34.1.first != r5.1.first then (some true) else (Option.bind (α := Bool) (bif r34.1.hyphen != r5.1.hyphen then (some true) else (Option.bind (α := Bool) (bif r34.1.height != r5.1.height then (some true) else (some (r34.1.depth != r5.1.depth))) fun (v14 : Bool) =>
some v14)) fun (v13 : Bool) =>
some v13)) fun (v12 : Bool) =>
some v12)) fun (v11 : Bool) =>
some v11) else (Option.bind (α := Bool) (bif r34.1.first != r5.1.first then (some true) else (Option.bind (α := Bool) (bif r34.1.hyphen != r5.1.hyphen then (some true) else (Option.bind (α := Bool) (bif r34.1.height != r5.1.height then (some true) else (some (r34.1.depth != r5.1.depth))) fun (v17 : Bool) =>
some v17)) fun (v16 : Bool) =>
some v16)) fun (v15 : Bool) =>
some v15)) fun (v10 : Bool) =>
some v10)) fun (v9 : Bool) =>
some v9)) fun (v8 : Bool) =>
some v8)) fun (v7 : Bool) =>
bif v7 then (some false) else (Option.bind (α := Bool) (bif decide (r5.1.bad < 0) then (some true) else (Option.bind (α := Bool) (bif decide (r5.1.bad > 10000) then (some true) else (Option.bind (α := Bool) (bif decide (r5.1.class_ < 0) then (some true) else (Option.bind (α := Bool) (bif decide (r5.1.class_ > 3) then (some true) else (Option.bind (α := Bool) (bif r5.1.over_ then (Option.bind (α := Bool) (bif r5.1.bad != 10000 then (some true) else (some (r5.1.class_ != 0))) fun (v23 : Bool) =>
some v23) else (some false)) fun (v22 : Bool) =>
some v22)) fun (v21 : Bool) =>
some v21)) fun (v20 : Bool) =>
some v20)) fun (v19 : Bool) =>
some v19)) fun (v18 : Bool) =>
bif v18 then (some false) else (bindS a0 r5.1.first r5.1.last fun l24 =>
bindA 112 ([] : List GItem) l24 fun l25 =>
bindI a0 a4 fun y26 =>
Option.bind (α := Int × ByteArray × Int × Int × Int × Int × Int × Int × Int × Int × Bool) (bif y26.kind == 3 then (some (4, ByteArray.empty, 0, 0, 0, 0, 0, 0, 0, 0, false)) else (some (y26.kind, y26.font, y26.size, y26.rune, y26.width, y26.height, y26.depth, y26.stretch, y26.shrink, y26.value, y26.flag))) fun (v27, v28, v29, v30, v31, v32, v33, v34, v35, v36, v37) =>
bindA 112 l25 ([(GItem.mk v27 v28 v29 v30 v31 v32 v33 v34 v35 v36 v37 y26.from_ y26.to_)]) fun l38 =>
Option.bind (α := List GItem) (bif !r5.1.end_ then (bindA 112 l38 ([(GItem.mk 4 ByteArray.empty 0 0 0 0 0 0 0 (-10000) false y26.to_ y26.to_)]) fun l40 =>
some l40) else (some l38)) fun (v39 : List GItem) =>
(F34 k v39 a1 (-1) (w (r5.1.last - r5.1.first))).bind fun r122 =>
bif r122.2 != 0 then ((F40 k v39).bind fun r125 =>
some (r125 != 0)) else (Option.bind (α := Bool) (bif r122.1.natural == r5.1.natural then (Option.bind (α := Bool) (bif r122.1.short == r5.1.short then (Option.bind (α := Bool) (bif r122.1.bad == r5.1.bad then (Option.bind (α := Bool) (bif r122.1.class_ == r5.1.class_ then (Option.bind (α := Bool) (bif r122.1.over_ == r5.1.over_ then (Option.bind (α := Bool) (bif r122.1.hyphen == r5.1.hyphen then (Option.bind (α := Bool) (bif r122.1.end_ == r5.1.end_ then (Option.bind (α := Bool) (bif r122.1.height == r5.1.height then (some (r122.1.depth == r5.1.depth)) else (some false)) fun (v48 : Bool) =>
some v48) else (some false)) fun (v47 : Bool) =>
some v47) else (some false)) fun (v46 : Bool) =>
some v46) else (some false)) fun (v45 : Bool) =>
some v45) else (some false)) fun (v44 : Bool) =>
some v44) else (some false)) fun (v43 : Bool) =>
some v43) else (some false)) fun (v42 : Bool) =>
some v42) else (some false)) fun (v41 : Bool) =>
some v41)))))))
theorem L13 (k : Nat) (a0 : List GItem) (a1 : Int) (a2 : Int) (a3 : Int) (a4 : Int) (r : Bool) (hF : F13 k a0 a1 a2 a3 a4 = some r) : PF Try.prog orc 13 [.list 13 (List.map cGItem a0) none, .val (.int .i64 a1), .val (.int .i64 a2), .val (.int .i64 a3), .val (.int .i64 a4)] [] [] (fun p fr tk => p = .val (.bool r) ∧ fr = [] ∧ tk = []) := by
  unfold F13 at hF
  refine PF.enterS Try.func13 rfl rfl rfl (by kernel_rfl) rfl ?_
  refine PC.run (n := 2) rfl ?_
  refine PC.assoc ?_
  refine PC.region ?_
  refine PO.run 1 rfl ?_
  obtain ⟨r1, e2, hF⟩ := bind_some hF
  refine PO.call rfl rfl rfl rfl (ks := []) (ts := []) (fr1 := []) rfl rfl rfl trivial (L27 k a0 _ e2) ?_
  rintro _ _ _ ⟨rfl, rfl, rfl⟩
  refine ⟨_, _, rfl, rfl, ?_⟩
  refine PO.nil ?_
  refine PC.cond rfl (fun h3 => ?_) (fun h3 => ?_)
  · have hF := bif_t h3 hF
    refine PC.assoc ?_
    refine PC.run (n := 2) rfl ?_
    obtain rfl := Option.some.inj hF
    exact PC.ret (retSK [] [] (by kernel_rfl) (.refl _) ⟨rfl, rfl, rfl⟩)
  · have hF := bif_f h3 hF
    refine PC.noop ?_
    refine PC.assoc ?_
    refine PC.region ?_
    refine PO.call rfl rfl rfl rfl (ks := []) (ts := []) (fr1 := []) rfl rfl rfl trivial K28 ?_
    rintro _ _ _ ⟨rfl, rfl, rfl⟩
    refine ⟨_, _, rfl, rfl, ?_⟩
    refine PO.run 1 rfl ?_
    refine PO.nil ?_
    refine PC.cond rfl (fun h4 => Bool.noConfusion h4) (fun _ => ?_)
    refine PC.noop ?_
    refine PC.region ?_
    refine PO.run 4 rfl ?_
    obtain ⟨r5, e6, hF⟩ := bind_some hF
    refine PO.call rfl rfl rfl rfl (ks := []) (ts := []) (fr1 := []) rfl rfl rfl trivial (L34 k a0 a1 a3 a4 _ e6) ?_
    rintro _ _ _ ⟨rfl, rfl, rfl⟩
    refine ⟨_, _, rfl, rfl, ?_⟩
    refine PO.runK 6 [0] [] (es := [(0, .list 13 (List.map cGItem a0) none), (1, .val (.int .i64 a1)), (2, .val (.int .i64 a2)), (3, .val (.int .i64 a3)), (4, .val (.int .i64 a4)), (10, .val (.bool false)), (11, .ptr 0 0), (12, .val (.int .i64 r5.2))]) (fr' := [⟨0, (cGLine r5.1)⟩]) (tk' := []) (by kernel_rfl) ?_
    refine PO.nil ?_
    refine PC.assoc ?_
    refine PC.run (n := 3) rfl ?_
    refine PC.cond rfl (fun h7 => ?_) (fun h7 => ?_)
    · have hF := bif_t h7 hF
      refine PC.assoc ?_
      refine PC.region ?_
      refine PO.runK 2 [] [] (es := [(10, .val (.bool false)), (33, .agg (cGLine r5.1)), (34, .agg [.val (.int .i64 0), .val (.int .i64 0), .val (.int .i64 0), .val (.int .i64 0), .val (.int .i64 0), .val (.int .i64 0), .val (.int .i64 0), .val (.int .i64 0), .val (.int .i64 0), .val (.bool false), .val (.bool false), .val (.bool false), .val (.int .i64 0), .val (.int .i64 0)])]) (fr' := []) (tk' := []) (by kernel_rfl) ?_
      refine PO.same rfl (aggEq_ok (v := .bool (r5.1.first == 0 && (r5.1.last == 0 && (r5.1.break_ == 0 && (r5.1.natural == 0 && (r5.1.stretch == 0 && (r5.1.shrink == 0 && (r5.1.short == 0 && (r5.1.bad == 0 && (r5.1.class_ == 0 && (r5.1.over_ == false && (r5.1.hyphen == false && (r5.1.end_ == false && (r5.1.height == 0 && (r5.1.depth == 0 && true))))))))))))))) rfl rfl rfl rfl rfl rfl rfl (by kernel_rfl)) rfl ?_
      refine PO.run 1 rfl ?_
      refine PO.nil ?_
      obtain rfl := Option.some.inj hF
      exact PC.ret (retSK [] [] (by kernel_rfl) (.refl _) ⟨rfl, rfl, rfl⟩)
    · have hF := bif_f h7 hF
      refine PC.noop ?_
      refine PC.assoc ?_
      refine PC.region ?_
      refine PO.run 3 rfl ?_
      obtain ⟨x8, e9, hF⟩ := bind_some hF
      refine PO.cut 23 (fun s => ∃ (v1 : Bool), Weak s (PS.of 284 [(0, .list 13 (List.map cGItem a0) none), (1, .val (.int .i64 a1)), (2, .val (.int .i64 a2)), (3, .val (.int .i64 a3)), (4, .val (.int .i64 a4)), (10, .val (.bool false)), (11, .ptr 0 0), (61, .val (.bool v1))] [⟨0, (cGLine r5.1)⟩] [] 0 0) ∧ v1 = x8) ?_ ?_
      · refine PO.case (t := 38) rfl rfl (fun h10 => ?_) (fun h10 => ?_)
        · have e9 := bif_t h10 e9
          refine PO.run 4 rfl ?_
          refine PO.same rfl (pickT_ok rfl rfl rfl) rfl ?_
          refine PO.run 4 rfl ?_
          refine PO.same rfl (pickT_ok rfl rfl rfl) rfl ?_
          refine PO.run 6 rfl ?_
          refine PO.same rfl (pickT_ok rfl rfl rfl) rfl ?_
          refine PO.run 5 rfl ?_
          refine PO.same rfl (pickT_ok rfl rfl rfl) rfl ?_
          refine PO.nil ?_
          obtain rfl := Option.some.inj e9
          exact ⟨true, Weak.one [0] [] (by kernel_rfl), rfl⟩
        · have e9 := bif_f h10 e9
          refine PO.run 2 rfl ?_
          refine PO.same rfl (len_ok Try.underlying42 rfl (List.length_map _)) rfl ?_
          refine PO.run 1 rfl ?_
          refine PO.same rfl (pickF_ok rfl rfl rfl) rfl ?_
          refine PO.run 1 rfl ?_
          obtain ⟨x11, e12, e9⟩ := bind_some e9
          refine PO.cut 17 (fun s => ∃ (v2 : Bool), Weak s (PS.of 284 [(0, .list 13 (List.map cGItem a0) none), (1, .val (.int .i64 a1)), (2, .val (.int .i64 a2)), (3, .val (.int .i64 a3)), (4, .val (.int .i64 a4)), (10, .val (.bool false)), (11, .ptr 0 0), (61, .val (.bool v2))] [⟨0, (cGLine r5.1)⟩] [] 0 0) ∧ v2 = x11) ?_ ?_
          · refine PO.case (t := 44) rfl rfl (fun h13 => ?_) (fun h13 => ?_)
            · have e12 := bif_t h13 e12
              refine PO.run 3 rfl ?_
              refine PO.same rfl (pickT_ok rfl rfl rfl) rfl ?_
              refine PO.run 6 rfl ?_
              refine PO.same rfl (pickT_ok rfl rfl rfl) rfl ?_
              refine PO.run 5 rfl ?_
              refine PO.same rfl (pickT_ok rfl rfl rfl) rfl ?_
              refine PO.nil ?_
              obtain rfl := Option.some.inj e12
              exact ⟨true, Weak.one [0] [] (by kernel_rfl), rfl⟩
            · have e12 := bif_f h13 e12
              refine PO.run 3 rfl ?_
              refine PO.same rfl (pickF_ok rfl rfl rfl) rfl ?_
              refine PO.run 1 rfl ?_
              obtain ⟨x14, e15, e12⟩ := bind_some e12
              refine PO.cut 12 (fun s => ∃ (v3 : Bool), Weak s (PS.of 284 [(0, .list 13 (List.map cGItem a0) none), (1, .val (.int .i64 a1)), (2, .val (.int .i64 a2)), (3, .val (.int .i64 a3)), (4, .val (.int .i64 a4)), (10, .val (.bool false)), (11, .ptr 0 0), (61, .val (.bool v3))] [⟨0, (cGLine r5.1)⟩] [] 0 0) ∧ v3 = x14) ?_ ?_
              · refine PO.case (t := 49) rfl rfl (fun h16 => ?_) (fun h16 => ?_)
                · have e15 := bif_t h16 e15
                  refine PO.run 5 rfl ?_
                  refine PO.same rfl (pickT_ok rfl rfl rfl) rfl ?_
                  refine PO.run 5 rfl ?_
                  refine PO.same rfl (pickT_ok rfl rfl rfl) rfl ?_
                  refine PO.nil ?_
                  obtain rfl := Option.some.inj e15
                  exact ⟨true, Weak.one [0] [] (by kernel_rfl), rfl⟩
                · have e15 := bif_f h16 e15
                  refine PO.run 5 rfl ?_
                  refine PO.same rfl (pickF_ok rfl rfl rfl) rfl ?_
                  refine PO.run 1 rfl ?_
                  obtain ⟨x17, e18, e15⟩ := bind_some e15
                  refine PO.cut 5 (fun s => ∃ (v4 : Bool), Weak s (PS.of 284 [(0, .list 13 (List.map cGItem a0) none), (1, .val (.int .i64 a1)), (2, .val (.int .i64 a2)), (3, .val (.int .i64 a3)), (4, .val (.int .i64 a4)), (10, .val (.bool false)), (11, .ptr 0 0), (61, .val (.bool v4))] [⟨0, (cGLine r5.1)⟩] [] 0 0) ∧ v4 = x17) ?_ ?_
                  · refine PO.case (t := 56) rfl rfl (fun h19 => ?_) (fun h19 => ?_)
                    · have e18 := bif_t h19 e18
                      refine PO.run 4 rfl ?_
                      refine PO.same rfl (pickT_ok rfl rfl rfl) rfl ?_
                      refine PO.nil ?_
                      obtain rfl := Option.some.inj e18
                      exact ⟨true, Weak.one [0] [] (by kernel_rfl), rfl⟩
                    · have e18 := bif_f h19 e18
                      refine PO.run 4 rfl ?_
                      refine PO.same rfl (pickF_ok rfl rfl rfl) rfl ?_
                      refine PO.nil ?_
                      obtain rfl := Option.some.inj e18
                      exact ⟨decide (r5.1.last > a4), Weak.one [0] [] (by kernel_rfl), rfl⟩
                  · rintro _ ⟨v4, w20, rfl⟩
                    refine PO.weak w20 ?_
                    refine PO.nil ?_
                    obtain rfl := Option.some.inj e15
                    exact ⟨v4, Weak.one [0] [] (by kernel_rfl), rfl⟩
              · rintro _ ⟨v3, w21, rfl⟩
                refine PO.weak w21 ?_
                refine PO.nil ?_
                obtain rfl := Option.some.inj e12
                exact ⟨v3, Weak.one [0] [] (by kernel_rfl), rfl⟩
          · rintro _ ⟨v2, w22, rfl⟩
            refine PO.weak w22 ?_
            refine PO.nil ?_
            obtain rfl := Option.some.inj e9
            exact ⟨v2, Weak.one [0] [] (by kernel_rfl), rfl⟩
      · rintro _ ⟨v1, w23, rfl⟩
        refine PO.weak w23 ?_
        refine PO.nil ?_
        refine PC.cond rfl (fun h24 => ?_) (fun h24 => ?_)
        · have hF := bif_t h24 hF
          refine PC.assoc ?_
          refine PC.run (n := 2) rfl ?_
          obtain rfl := Option.some.inj hF
          exact PC.ret (retSK [] [] (by kernel_rfl) (.refl _) ⟨rfl, rfl, rfl⟩)
        · have hF := bif_f h24 hF
          refine PC.noop ?_
          refine PC.assoc ?_
          refine PC.region ?_
          refine PO.run 3 rfl ?_
          obtain ⟨x25, e26, hF⟩ := bind_some hF
          refine PO.cut 9 (fun s => ∃ (v5 : Bool), Weak s (PS.of 284 [(0, .list 13 (List.map cGItem a0) none), (1, .val (.int .i64 a1)), (2, .val (.int .i64 a2)), (3, .val (.int .i64 a3)), (4, .val (.int .i64 a4)), (10, .val (.bool false)), (11, .ptr 0 0), (73, .val (.bool v5))] [⟨0, (cGLine r5.1)⟩] [] 0 0) ∧ v5 = x25) ?_ ?_
          · refine PO.case (t := 64) rfl rfl (fun h27 => ?_) (fun h27 => ?_)
            · have e26 := bif_t h27 e26
              refine PO.run 2 rfl ?_
              refine PO.same rfl (pickT_ok rfl rfl rfl) rfl ?_
              refine PO.run 5 rfl ?_
              refine PO.same rfl (pickT_ok rfl rfl rfl) rfl ?_
              refine PO.nil ?_
              obtain rfl := Option.some.inj e26
              exact ⟨true, Weak.one [0] [] (by kernel_rfl), rfl⟩
            · have e26 := bif_f h27 e26
              refine PO.run 2 rfl ?_
              refine PO.same rfl (pickF_ok rfl rfl rfl) rfl ?_
              refine PO.run 1 rfl ?_
              obtain ⟨x28, e29, e26⟩ := bind_some e26
              refine PO.cut 5 (fun s => ∃ (v6 : Bool), Weak s (PS.of 284 [(0, .list 13 (List.map cGItem a0) none), (1, .val (.int .i64 a1)), (2, .val (.int .i64 a2)), (3, .val (.int .i64 a3)), (4, .val (.int .i64 a4)), (10, .val (.bool false)), (11, .ptr 0 0), (73, .val (.bool v6))] [⟨0, (cGLine r5.1)⟩] [] 0 0) ∧ v6 = x28) ?_ ?_
              · refine PO.case (t := 68) rfl rfl (fun h30 => ?_) (fun h30 => ?_)
                · have e29 := bif_t h30 e29
                  refine PO.run 4 rfl ?_
                  refine PO.same rfl (pickT_ok rfl rfl rfl) rfl ?_
                  refine PO.nil ?_
                  obtain rfl := Option.some.inj e29
                  exact ⟨true, Weak.one [0] [] (by kernel_rfl), rfl⟩
                · have e29 := bif_f h30 e29
                  refine PO.run 4 rfl ?_
                  refine PO.same rfl (pickF_ok rfl rfl rfl) rfl ?_
                  refine PO.nil ?_
                  obtain rfl := Option.some.inj e29
                  exact ⟨decide ((w (a1 + a2)) > 536870912), Weak.one [0] [] (by kernel_rfl), rfl⟩
              · rintro _ ⟨v6, w31, rfl⟩
                refine PO.weak w31 ?_
                refine PO.nil ?_
                obtain rfl := Option.some.inj e26
                exact ⟨v6, Weak.one [0] [] (by kernel_rfl), rfl⟩
          · rintro _ ⟨v5, w32, rfl⟩
            refine PO.weak w32 ?_
            refine PO.nil ?_
            refine PC.cond rfl (fun h33 => ?_) (fun h33 => ?_)
            · have hF := bif_t h33 hF
              refine PC.assoc ?_
              refine PC.run (n := 2) rfl ?_
              obtain rfl := Option.some.inj hF
              exact PC.ret (retSK [] [] (by kernel_rfl) (.refl _) ⟨rfl, rfl, rfl⟩)
            · have hF := bif_f h33 hF
              refine PC.noop ?_
              refine PC.region ?_
              refine PO.run 6 rfl ?_
              obtain ⟨r34, e35, hF⟩ := bind_some hF
              refine PO.call rfl rfl rfl rfl (ks := []) (ts := []) (fr1 := []) rfl rfl rfl trivial (L34 k a0 (w (a1 + a2)) a3 a4 _ e35) ?_
              rintro _ _ _ ⟨rfl, rfl, rfl⟩
              refine ⟨_, _, rfl, rfl, ?_⟩
              refine PO.runK 6 [0, 1] [] (es := [(0, .list 13 (List.map cGItem a0) none), (1, .val (.int .i64 a1)), (2, .val (.int .i64 a2)), (4, .val (.int .i64 a4)), (10, .val (.bool false)), (11, .ptr 0 0), (13, .ptr 1 0), (14, .val (.int .i64 r34.2))]) (fr' := [⟨0, (cGLine r5.1)⟩, ⟨0, (cGLine r34.1)⟩]) (tk' := []) (by kernel_rfl) ?_
              refine PO.nil ?_
              refine PC.assoc ?_
              refine PC.region ?_
              refine PO.run 3 rfl ?_
              obtain ⟨x36, e37, hF⟩ := bind_some hF
              refine PO.cut 52 (fun s => ∃ (v7 : Bool), Weak s (PS.of 284 [(0, .list 13 (List.map cGItem a0) none), (1, .val (.int .i64 a1)), (4, .val (.int .i64 a4)), (10, .val (.bool false)), (11, .ptr 0 0), (138, .val (.bool v7))] [⟨0, (cGLine r5.1)⟩] [] 0 0) ∧ v7 = x36) ?_ ?_
              · refine PO.case (t := 86) rfl rfl (fun h38 => ?_) (fun h38 => ?_)
                · have e37 := bif_t h38 e37
                  refine PO.run 7 rfl ?_
                  refine PO.same rfl (pickT_ok rfl rfl rfl) rfl ?_
                  refine PO.run 6 rfl ?_
                  refine PO.same rfl (pickT_ok rfl rfl rfl) rfl ?_
                  refine PO.run 8 rfl ?_
                  refine PO.same rfl (pickT_ok rfl rfl rfl) rfl ?_
                  refine PO.run 6 rfl ?_
                  refine PO.same rfl (pickT_ok rfl rfl rfl) rfl ?_
                  refine PO.run 6 rfl ?_
                  refine PO.same rfl (pickT_ok rfl rfl rfl) rfl ?_
                  refine PO.run 6 rfl ?_
                  refine PO.same rfl (pickT_ok rfl rfl rfl) rfl ?_
                  refine PO.run 6 rfl ?_
                  refine PO.same rfl (pickT_ok rfl rfl rfl) rfl ?_
                  refine PO.nil ?_
                  obtain rfl := Option.some.inj e37
                  exact ⟨true, Weak.one [0] [] (by kernel_rfl), rfl⟩
                · have e37 := bif_f h38 e37
                  refine PO.run 7 rfl ?_
                  refine PO.same rfl (pickF_ok rfl rfl rfl) rfl ?_
                  refine PO.run 1 rfl ?_
                  obtain ⟨x39, e40, e37⟩ := bind_some e37
                  refine PO.cut 43 (fun s => ∃ (v8 : Bool), Weak s (PS.of 284 [(0, .list 13 (List.map cGItem a0) none), (1, .val (.int .i64 a1)), (4, .val (.int .i64 a4)), (10, .val (.bool false)), (11, .ptr 0 0), (138, .val (.bool v8))] [⟨0, (cGLine r5.1)⟩] [] 0 0) ∧ v8 = x39) ?_ ?_
                  · refine PO.case (t := 95) rfl rfl (fun h41 => ?_) (fun h41 => ?_)
                    · have e40 := bif_t h41 e40
                      refine PO.run 5 rfl ?_
                      refine PO.same rfl (pickT_ok rfl rfl rfl) rfl ?_
                      refine PO.run 8 rfl ?_
                      refine PO.same rfl (pickT_ok rfl rfl rfl) rfl ?_
                      refine PO.run 6 rfl ?_
                      refine PO.same rfl (pickT_ok rfl rfl rfl) rfl ?_
                      refine PO.run 6 rfl ?_
                      refine PO.same rfl (pickT_ok rfl rfl rfl) rfl ?_
                      refine PO.run 6 rfl ?_
                      refine PO.same rfl (pickT_ok rfl rfl rfl) rfl ?_
                      refine PO.run 6 rfl ?_
                      refine PO.same rfl (pickT_ok rfl rfl rfl) rfl ?_
                      refine PO.nil ?_
                      obtain rfl := Option.some.inj e40
                      exact ⟨true, Weak.one [0] [] (by kernel_rfl), rfl⟩
                    · have e40 := bif_f h41 e40
                      refine PO.run 5 rfl ?_
                      refine PO.same rfl (pickF_ok rfl rfl rfl) rfl ?_
                      refine PO.run 1 rfl ?_
                      obtain ⟨x42, e43, e40⟩ := bind_some e40
                      refine PO.cut 36 (fun s => ∃ (v9 : Bool), Weak s (PS.of 284 [(0, .list 13 (List.map cGItem a0) none), (1, .val (.int .i64 a1)), (4, .val (.int .i64 a4)), (10, .val (.bool false)), (11, .ptr 0 0), (138, .val (.bool v9))] [⟨0, (cGLine r5.1)⟩] [] 0 0) ∧ v9 = x42) ?_ ?_
                      · refine PO.case (t := 102) rfl rfl (fun h44 => ?_) (fun h44 => ?_)
                        · have e43 := bif_t h44 e43
                          refine PO.run 7 rfl ?_
                          refine PO.same rfl (pickT_ok rfl rfl rfl) rfl ?_
                          refine PO.run 6 rfl ?_
                          refine PO.same rfl (pickT_ok rfl rfl rfl) rfl ?_
                          refine PO.run 6 rfl ?_
                          refine PO.same rfl (pickT_ok rfl rfl rfl) rfl ?_
                          refine PO.run 6 rfl ?_
                          refine PO.same rfl (pickT_ok rfl rfl rfl) rfl ?_
                          refine PO.run 6 rfl ?_
                          refine PO.same rfl (pickT_ok rfl rfl rfl) rfl ?_
                          refine PO.nil ?_
                          obtain rfl := Option.some.inj e43
                          exact ⟨true, Weak.one [0] [] (by kernel_rfl), rfl⟩
                        · have e43 := bif_f h44 e43
                          refine PO.run 3 rfl ?_
                          obtain ⟨x45, e46, e43⟩ := bind_some e43
                          refine PO.cut 33 (fun s => ∃ (v10 : Bool), Weak s (PS.of 284 [(0, .list 13 (List.map cGItem a0) none), (1, .val (.int .i64 a1)), (4, .val (.int .i64 a4)), (10, .val (.bool false)), (11, .ptr 0 0), (138, .val (.bool v10))] [⟨0, (cGLine r5.1)⟩] [] 0 0) ∧ v10 = x45) ?_ ?_
                          · refine PO.case (t := 105) rfl rfl (fun h47 => ?_) (fun h47 => ?_)
                            · have e46 := bif_t h47 e46
                              refine PO.run 3 rfl ?_
                              refine PO.same rfl (pickT_ok rfl rfl rfl) rfl ?_
                              refine PO.same rfl (pickF_ok rfl rfl rfl) rfl ?_
                              refine PO.run 1 rfl ?_
                              obtain ⟨x48, e49, e46⟩ := bind_some e46
                              refine PO.cut 27 (fun s => ∃ (v11 : Bool), Weak s (PS.of 284 [(0, .list 13 (List.map cGItem a0) none), (1, .val (.int .i64 a1)), (4, .val (.int .i64 a4)), (10, .val (.bool false)), (11, .ptr 0 0), (138, .val (.bool v11))] [⟨0, (cGLine r5.1)⟩] [] 0 0) ∧ v11 = x48) ?_ ?_
                              · refine PO.case (t := 111) rfl rfl (fun h50 => ?_) (fun h50 => ?_)
                                · have e49 := bif_t h50 e49
                                  refine PO.run 5 rfl ?_
                                  refine PO.same rfl (pickT_ok rfl rfl rfl) rfl ?_
                                  refine PO.run 6 rfl ?_
                                  refine PO.same rfl (pickT_ok rfl rfl rfl) rfl ?_
                                  refine PO.run 6 rfl ?_
                                  refine PO.same rfl (pickT_ok rfl rfl rfl) rfl ?_
                                  refine PO.run 6 rfl ?_
                                  refine PO.same rfl (pickT_ok rfl rfl rfl) rfl ?_
                                  refine PO.nil ?_
                                  obtain rfl := Option.some.inj e49
                                  exact ⟨true, Weak.one [0] [] (by kernel_rfl), rfl⟩
                                · have e49 := bif_f h50 e49
                                  refine PO.run 5 rfl ?_
                                  refine PO.same rfl (pickF_ok rfl rfl rfl) rfl ?_
                                  refine PO.run 1 rfl ?_
                                  obtain ⟨x51, e52, e49⟩ := bind_some e49
                                  refine PO.cut 20 (fun s => ∃ (v12 : Bool), Weak s (PS.of 284 [(0, .list 13 (List.map cGItem a0) none), (1, .val (.int .i64 a1)), (4, .val (.int .i64 a4)), (10, .val (.bool false)), (11, .ptr 0 0), (138, .val (.bool v12))] [⟨0, (cGLine r5.1)⟩] [] 0 0) ∧ v12 = x51) ?_ ?_
                                  · refine PO.case (t := 118) rfl rfl (fun h53 => ?_) (fun h53 => ?_)
                                    · have e52 := bif_t h53 e52
                                      refine PO.run 5 rfl ?_
                                      refine PO.same rfl (pickT_ok rfl rfl rfl) rfl ?_
                                      refine PO.run 6 rfl ?_
                                      refine PO.same rfl (pickT_ok rfl rfl rfl) rfl ?_
                                      refine PO.run 6 rfl ?_
                                      refine PO.same rfl (pickT_ok rfl rfl rfl) rfl ?_
                                      refine PO.nil ?_
                                      obtain rfl := Option.some.inj e52
                                      exact ⟨true, Weak.one [0] [] (by kernel_rfl), rfl⟩
                                    · have e52 := bif_f h53 e52
                                      refine PO.run 4 rfl ?_
                                      refine PO.same rfl (boolEq_ok (fun a b => a != b) rfl rfl (by kernel_rfl) (by kernel_rfl) (by kernel_rfl) (by kernel_rfl)) rfl ?_
                                      refine PO.same rfl (pickF_ok rfl rfl rfl) rfl ?_
                                      refine PO.run 1 rfl ?_
                                      obtain ⟨x54, e55, e52⟩ := bind_some e52
                                      refine PO.cut 13 (fun s => ∃ (v13 : Bool), Weak s (PS.of 284 [(0, .list 13 (List.map cGItem a0) none), (1, .val (.int .i64 a1)), (4, .val (.int .i64 a4)), (10, .val (.bool false)), (11, .ptr 0 0), (138, .val (.bool v13))] [⟨0, (cGLine r5.1)⟩] [] 0 0) ∧ v13 = x54) ?_ ?_
                                      · refine PO.case (t := 125) rfl rfl (fun h56 => ?_) (fun h56 => ?_)
                                        · have e55 := bif_t h56 e55
                                          refine PO.run 5 rfl ?_
                                          refine PO.same rfl (pickT_ok rfl rfl rfl) rfl ?_
                                          refine PO.run 6 rfl ?_
                                          refine PO.same rfl (pickT_ok rfl rfl rfl) rfl ?_
                                          refine PO.nil ?_
                                          obtain rfl := Option.some.inj e55
                                          exact ⟨true, Weak.one [0] [] (by kernel_rfl), rfl⟩
                                        · have e55 := bif_f h56 e55
                                          refine PO.run 5 rfl ?_
                                          refine PO.same rfl (pickF_ok rfl rfl rfl) rfl ?_
                                          refine PO.run 1 rfl ?_
                                          obtain ⟨x57, e58, e55⟩ := bind_some e55
                                          refine PO.cut 6 (fun s => ∃ (v14 : Bool), Weak s (PS.of 284 [(0, .list 13 (List.map cGItem a0) none), (1, .val (.int .i64 a1)), (4, .val (.int .i64 a4)), (10, .val (.bool false)), (11, .ptr 0 0), (138, .val (.bool v14))] [⟨0, (cGLine r5.1)⟩] [] 0 0) ∧ v14 = x57) ?_ ?_
                                          · refine PO.case (t := 132) rfl rfl (fun h59 => ?_) (fun h59 => ?_)
                                            · have e58 := bif_t h59 e58
                                              refine PO.run 5 rfl ?_
                                              refine PO.same rfl (pickT_ok rfl rfl rfl) rfl ?_
                                              refine PO.nil ?_
                                              obtain rfl := Option.some.inj e58
                                              exact ⟨true, Weak.one [0] [] (by kernel_rfl), rfl⟩
                                            · have e58 := bif_f h59 e58
                                              refine PO.run 5 rfl ?_
                                              refine PO.same rfl (pickF_ok rfl rfl rfl) rfl ?_
                                              refine PO.nil ?_
                                              obtain rfl := Option.some.inj e58
                                              exact ⟨r34.1.depth != r5.1.depth, Weak.one [0] [] (by kernel_rfl), rfl⟩
                                          · rintro _ ⟨v14, w60, rfl⟩
                                            refine PO.weak w60 ?_
                                            refine PO.nil ?_
                                            obtain rfl := Option.some.inj e55
                                            exact ⟨v14, Weak.one [0] [] (by kernel_rfl), rfl⟩
                                      · rintro _ ⟨v13, w61, rfl⟩
                                        refine PO.weak w61 ?_
                                        refine PO.nil ?_
                                        obtain rfl := Option.some.inj e52
                                        exact ⟨v13, Weak.one [0] [] (by kernel_rfl), rfl⟩
                                  · rintro _ ⟨v12, w62, rfl⟩
                                    refine PO.weak w62 ?_
                                    refine PO.nil ?_
                                    obtain rfl := Option.some.inj e49
                                    exact ⟨v12, Weak.one [0] [] (by kernel_rfl), rfl⟩
                              · rintro _ ⟨v11, w63, rfl⟩
                                refine PO.weak w63 ?_
                                refine PO.nil ?_
                                obtain rfl := Option.some.inj e46
                                exact ⟨v11, Weak.one [0] [] (by kernel_rfl), rfl⟩
                            · have e46 := bif_f h47 e46
                              refine PO.run 3 rfl ?_
                              refine PO.same rfl (pickF_ok rfl rfl rfl) rfl ?_
                              refine PO.same rfl (pickF_ok rfl rfl rfl) rfl ?_
                              refine PO.run 6 rfl ?_
                              refine PO.same rfl (pickF_ok rfl rfl rfl) rfl ?_
                              refine PO.run 1 rfl ?_
                              obtain ⟨x64, e65, e46⟩ := bind_some e46
                              refine PO.cut 20 (fun s => ∃ (v15 : Bool), Weak s (PS.of 284 [(0, .list 13 (List.map cGItem a0) none), (1, .val (.int .i64 a1)), (4, .val (.int .i64 a4)), (10, .val (.bool false)), (11, .ptr 0 0), (138, .val (.bool v15))] [⟨0, (cGLine r5.1)⟩] [] 0 0) ∧ v15 = x64) ?_ ?_
                              · refine PO.case (t := 118) rfl rfl (fun h66 => ?_) (fun h66 => ?_)
                                · have e65 := bif_t h66 e65
                                  refine PO.run 5 rfl ?_
                                  refine PO.same rfl (pickT_ok rfl rfl rfl) rfl ?_
                                  refine PO.run 6 rfl ?_
                                  refine PO.same rfl (pickT_ok rfl rfl rfl) rfl ?_
                                  refine PO.run 6 rfl ?_
                                  refine PO.same rfl (pickT_ok rfl rfl rfl) rfl ?_
                                  refine PO.nil ?_
                                  obtain rfl := Option.some.inj e65
                                  exact ⟨true, Weak.one [0] [] (by kernel_rfl), rfl⟩
                                · have e65 := bif_f h66 e65
                                  refine PO.run 4 rfl ?_
                                  refine PO.same rfl (boolEq_ok (fun a b => a != b) rfl rfl (by kernel_rfl) (by kernel_rfl) (by kernel_rfl) (by kernel_rfl)) rfl ?_
                                  refine PO.same rfl (pickF_ok rfl rfl rfl) rfl ?_
                                  refine PO.run 1 rfl ?_
                                  obtain ⟨x67, e68, e65⟩ := bind_some e65
                                  refine PO.cut 13 (fun s => ∃ (v16 : Bool), Weak s (PS.of 284 [(0, .list 13 (List.map cGItem a0) none), (1, .val (.int .i64 a1)), (4, .val (.int .i64 a4)), (10, .val (.bool false)), (11, .ptr 0 0), (138, .val (.bool v16))] [⟨0, (cGLine r5.1)⟩] [] 0 0) ∧ v16 = x67) ?_ ?_
                                  · refine PO.case (t := 125) rfl rfl (fun h69 => ?_) (fun h69 => ?_)
                                    · have e68 := bif_t h69 e68
                                      refine PO.run 5 rfl ?_
                                      refine PO.same rfl (pickT_ok rfl rfl rfl) rfl ?_
                                      refine PO.run 6 rfl ?_
                                      refine PO.same rfl (pickT_ok rfl rfl rfl) rfl ?_
                                      refine PO.nil ?_
                                      obtain rfl := Option.some.inj e68
                                      exact ⟨true, Weak.one [0] [] (by kernel_rfl), rfl⟩
                                    · have e68 := bif_f h69 e68
                                      refine PO.run 5 rfl ?_
                                      refine PO.same rfl (pickF_ok rfl rfl rfl) rfl ?_
                                      refine PO.run 1 rfl ?_
                                      obtain ⟨x70, e71, e68⟩ := bind_some e68
                                      refine PO.cut 6 (fun s => ∃ (v17 : Bool), Weak s (PS.of 284 [(0, .list 13 (List.map cGItem a0) none), (1, .val (.int .i64 a1)), (4, .val (.int .i64 a4)), (10, .val (.bool false)), (11, .ptr 0 0), (138, .val (.bool v17))] [⟨0, (cGLine r5.1)⟩] [] 0 0) ∧ v17 = x70) ?_ ?_
                                      · refine PO.case (t := 132) rfl rfl (fun h72 => ?_) (fun h72 => ?_)
                                        · have e71 := bif_t h72 e71
                                          refine PO.run 5 rfl ?_
                                          refine PO.same rfl (pickT_ok rfl rfl rfl) rfl ?_
                                          refine PO.nil ?_
                                          obtain rfl := Option.some.inj e71
                                          exact ⟨true, Weak.one [0] [] (by kernel_rfl), rfl⟩
                                        · have e71 := bif_f h72 e71
                                          refine PO.run 5 rfl ?_
                                          refine PO.same rfl (pickF_ok rfl rfl rfl) rfl ?_
                                          refine PO.nil ?_
                                          obtain rfl := Option.some.inj e71
                                          exact ⟨r34.1.depth != r5.1.depth, Weak.one [0] [] (by kernel_rfl), rfl⟩
                                      · rintro _ ⟨v17, w73, rfl⟩
                                        refine PO.weak w73 ?_
                                        refine PO.nil ?_
                                        obtain rfl := Option.some.inj e68
                                        exact ⟨v17, Weak.one [0] [] (by kernel_rfl), rfl⟩
                                  · rintro _ ⟨v16, w74, rfl⟩
                                    refine PO.weak w74 ?_
                                    refine PO.nil ?_
                                    obtain rfl := Option.some.inj e65
                                    exact ⟨v16, Weak.one [0] [] (by kernel_rfl), rfl⟩
                              · rintro _ ⟨v15, w75, rfl⟩
                                refine PO.weak w75 ?_
                                refine PO.nil ?_
                                obtain rfl := Option.some.inj e46
                                exact ⟨v15, Weak.one [0] [] (by kernel_rfl), rfl⟩
                          · rintro _ ⟨v10, w76, rfl⟩
                            refine PO.weak w76 ?_
                            refine PO.nil ?_
                            obtain rfl := Option.some.inj e43
                            exact ⟨v10, Weak.one [0] [] (by kernel_rfl), rfl⟩
                      · rintro _ ⟨v9, w77, rfl⟩
                        refine PO.weak w77 ?_
                        refine PO.nil ?_
                        obtain rfl := Option.some.inj e40
                        exact ⟨v9, Weak.one [0] [] (by kernel_rfl), rfl⟩
                  · rintro _ ⟨v8, w78, rfl⟩
                    refine PO.weak w78 ?_
                    refine PO.nil ?_
                    obtain rfl := Option.some.inj e37
                    exact ⟨v8, Weak.one [0] [] (by kernel_rfl), rfl⟩
              · rintro _ ⟨v7, w79, rfl⟩
                refine PO.weak w79 ?_
                refine PO.nil ?_
                refine PC.cond rfl (fun h80 => ?_) (fun h80 => ?_)
                · have hF := bif_t h80 hF
                  refine PC.assoc ?_
                  refine PC.run (n := 2) rfl ?_
                  obtain rfl := Option.some.inj hF
                  exact PC.ret (retSK [] [] (by kernel_rfl) (.refl _) ⟨rfl, rfl, rfl⟩)
                · have hF := bif_f h80 hF
                  refine PC.noop ?_
                  refine PC.assoc ?_
                  refine PC.region ?_
                  refine PO.run 4 rfl ?_
                  obtain ⟨x81, e82, hF⟩ := bind_some hF
                  refine PO.cut 28 (fun s => ∃ (v18 : Bool), Weak s (PS.of 284 [(0, .list 13 (List.map cGItem a0) none), (1, .val (.int .i64 a1)), (4, .val (.int .i64 a4)), (10, .val (.bool false)), (11, .ptr 0 0), (170, .val (.bool v18))] [⟨0, (cGLine r5.1)⟩] [] 0 0) ∧ v18 = x81) ?_ ?_
                  · refine PO.case (t := 142) rfl rfl (fun h83 => ?_) (fun h83 => ?_)
                    · have e82 := bif_t h83 e82
                      refine PO.run 3 rfl ?_
                      refine PO.same rfl (pickT_ok rfl rfl rfl) rfl ?_
                      refine PO.run 4 rfl ?_
                      refine PO.same rfl (pickT_ok rfl rfl rfl) rfl ?_
                      refine PO.run 4 rfl ?_
                      refine PO.same rfl (pickT_ok rfl rfl rfl) rfl ?_
                      refine PO.run 13 rfl ?_
                      refine PO.same rfl (pickT_ok rfl rfl rfl) rfl ?_
                      refine PO.nil ?_
                      obtain rfl := Option.some.inj e82
                      exact ⟨true, Weak.one [0] [] (by kernel_rfl), rfl⟩
                    · have e82 := bif_f h83 e82
                      refine PO.run 3 rfl ?_
                      refine PO.same rfl (pickF_ok rfl rfl rfl) rfl ?_
                      refine PO.run 1 rfl ?_
                      obtain ⟨x84, e85, e82⟩ := bind_some e82
                      refine PO.cut 23 (fun s => ∃ (v19 : Bool), Weak s (PS.of 284 [(0, .list 13 (List.map cGItem a0) none), (1, .val (.int .i64 a1)), (4, .val (.int .i64 a4)), (10, .val (.bool false)), (11, .ptr 0 0), (170, .val (.bool v19))] [⟨0, (cGLine r5.1)⟩] [] 0 0) ∧ v19 = x84) ?_ ?_
                      · refine PO.case (t := 147) rfl rfl (fun h86 => ?_) (fun h86 => ?_)
                        · have e85 := bif_t h86 e85
                          refine PO.run 3 rfl ?_
                          refine PO.same rfl (pickT_ok rfl rfl rfl) rfl ?_
                          refine PO.run 4 rfl ?_
                          refine PO.same rfl (pickT_ok rfl rfl rfl) rfl ?_
                          refine PO.run 13 rfl ?_
                          refine PO.same rfl (pickT_ok rfl rfl rfl) rfl ?_
                          refine PO.nil ?_
                          obtain rfl := Option.some.inj e85
                          exact ⟨true, Weak.one [0] [] (by kernel_rfl), rfl⟩
                        · have e85 := bif_f h86 e85
                          refine PO.run 3 rfl ?_
                          refine PO.same rfl (pickF_ok rfl rfl rfl) rfl ?_
                          refine PO.run 1 rfl ?_
                          obtain ⟨x87, e88, e85⟩ := bind_some e85
                          refine PO.cut 18 (fun s => ∃ (v20 : Bool), Weak s (PS.of 284 [(0, .list 13 (List.map cGItem a0) none), (1, .val (.int .i64 a1)), (4, .val (.int .i64 a4)), (10, .val (.bool false)), (11, .ptr 0 0), (170, .val (.bool v20))] [⟨0, (cGLine r5.1)⟩] [] 0 0) ∧ v20 = x87) ?_ ?_
                          · refine PO.case (t := 152) rfl rfl (fun h89 => ?_) (fun h89 => ?_)
                            · have e88 := bif_t h89 e88
                              refine PO.run 3 rfl ?_
                              refine PO.same rfl (pickT_ok rfl rfl rfl) rfl ?_
                              refine PO.run 13 rfl ?_
                              refine PO.same rfl (pickT_ok rfl rfl rfl) rfl ?_
                              refine PO.nil ?_
                              obtain rfl := Option.some.inj e88
                              exact ⟨true, Weak.one [0] [] (by kernel_rfl), rfl⟩
                            · have e88 := bif_f h89 e88
                              refine PO.run 3 rfl ?_
                              refine PO.same rfl (pickF_ok rfl rfl rfl) rfl ?_
                              refine PO.run 1 rfl ?_
                              obtain ⟨x90, e91, e88⟩ := bind_some e88
                              refine PO.cut 13 (fun s => ∃ (v21 : Bool), Weak s (PS.of 284 [(0, .list 13 (List.map cGItem a0) none), (1, .val (.int .i64 a1)), (4, .val (.int .i64 a4)), (10, .val (.bool false)), (11, .ptr 0 0), (170, .val (.bool v21))] [⟨0, (cGLine r5.1)⟩] [] 0 0) ∧ v21 = x90) ?_ ?_
                              · refine PO.case (t := 157) rfl rfl (fun h92 => ?_) (fun h92 => ?_)
                                · have e91 := bif_t h92 e91
                                  refine PO.run 12 rfl ?_
                                  refine PO.same rfl (pickT_ok rfl rfl rfl) rfl ?_
                                  refine PO.nil ?_
                                  obtain rfl := Option.some.inj e91
                                  exact ⟨true, Weak.one [0] [] (by kernel_rfl), rfl⟩
                                · have e91 := bif_f h92 e91
                                  refine PO.run 3 rfl ?_
                                  obtain ⟨x93, e94, e91⟩ := bind_some e91
                                  refine PO.cut 10 (fun s => ∃ (v22 : Bool), Weak s (PS.of 284 [(0, .list 13 (List.map cGItem a0) none), (1, .val (.int .i64 a1)), (4, .val (.int .i64 a4)), (10, .val (.bool false)), (11, .ptr 0 0), (170, .val (.bool v22))] [⟨0, (cGLine r5.1)⟩] [] 0 0) ∧ v22 = x93) ?_ ?_
                                  · refine PO.case (t := 160) rfl rfl (fun h95 => ?_) (fun h95 => ?_)
                                    · have e94 := bif_t h95 e94
                                      refine PO.run 4 rfl ?_
                                      obtain ⟨x96, e97, e94⟩ := bind_some e94
                                      refine PO.cut 6 (fun s => ∃ (v23 : Bool), Weak s (PS.of 284 [(0, .list 13 (List.map cGItem a0) none), (1, .val (.int .i64 a1)), (4, .val (.int .i64 a4)), (10, .val (.bool false)), (11, .ptr 0 0), (170, .val (.bool v23))] [⟨0, (cGLine r5.1)⟩] [] 0 0) ∧ v23 = x96) ?_ ?_
                                      · refine PO.case (t := 164) rfl rfl (fun h98 => ?_) (fun h98 => ?_)
                                        · have e97 := bif_t h98 e97
                                          refine PO.run 3 rfl ?_
                                          refine PO.same rfl (pickT_ok rfl rfl rfl) rfl ?_
                                          refine PO.same rfl (pickT_ok rfl rfl rfl) rfl ?_
                                          refine PO.same rfl (pickF_ok rfl rfl rfl) rfl ?_
                                          refine PO.nil ?_
                                          obtain rfl := Option.some.inj e97
                                          exact ⟨true, Weak.one [0] [] (by kernel_rfl), rfl⟩
                                        · have e97 := bif_f h98 e97
                                          refine PO.run 3 rfl ?_
                                          refine PO.same rfl (pickF_ok rfl rfl rfl) rfl ?_
                                          refine PO.same rfl (pickT_ok rfl rfl rfl) rfl ?_
                                          refine PO.same rfl (pickF_ok rfl rfl rfl) rfl ?_
                                          refine PO.nil ?_
                                          obtain rfl := Option.some.inj e97
                                          exact ⟨r5.1.class_ != 0, Weak.one [0] [] (by kernel_rfl), rfl⟩
                                      · rintro _ ⟨v23, w99, rfl⟩
                                        refine PO.weak w99 ?_
                                        refine PO.nil ?_
                                        obtain rfl := Option.some.inj e94
                                        exact ⟨v23, Weak.one [0] [] (by kernel_rfl), rfl⟩
                                    · have e94 := bif_f h95 e94
                                      refine PO.run 8 rfl ?_
                                      refine PO.same rfl (pickF_ok rfl rfl rfl) rfl ?_
                                      refine PO.same rfl (pickF_ok rfl rfl rfl) rfl ?_
                                      refine PO.nil ?_
                                      obtain rfl := Option.some.inj e94
                                      exact ⟨false, Weak.one [0] [] (by kernel_rfl), rfl⟩
                                  · rintro _ ⟨v22, w100, rfl⟩
                                    refine PO.weak w100 ?_
                                    refine PO.nil ?_
                                    obtain rfl := Option.some.inj e91
                                    exact ⟨v22, Weak.one [0] [] (by kernel_rfl), rfl⟩
                              · rintro _ ⟨v21, w101, rfl⟩
                                refine PO.weak w101 ?_
                                refine PO.nil ?_
                                obtain rfl := Option.some.inj e88
                                exact ⟨v21, Weak.one [0] [] (by kernel_rfl), rfl⟩
                          · rintro _ ⟨v20, w102, rfl⟩
                            refine PO.weak w102 ?_
                            refine PO.nil ?_
                            obtain rfl := Option.some.inj e85
                            exact ⟨v20, Weak.one [0] [] (by kernel_rfl), rfl⟩
                      · rintro _ ⟨v19, w103, rfl⟩
                        refine PO.weak w103 ?_
                        refine PO.nil ?_
                        obtain rfl := Option.some.inj e82
                        exact ⟨v19, Weak.one [0] [] (by kernel_rfl), rfl⟩
                  · rintro _ ⟨v18, w104, rfl⟩
                    refine PO.weak w104 ?_
                    refine PO.nil ?_
                    refine PC.cond rfl (fun h105 => ?_) (fun h105 => ?_)
                    · have hF := bif_t h105 hF
                      refine PC.assoc ?_
                      refine PC.run (n := 2) rfl ?_
                      obtain rfl := Option.some.inj hF
                      exact PC.ret (retSK [] [] (by kernel_rfl) (.refl _) ⟨rfl, rfl, rfl⟩)
                    · have hF := bif_f h105 hF
                      refine PC.noop ?_
                      refine PC.region ?_
                      refine PO.runK 2 [0] [0] (es := [(0, .list 13 (List.map cGItem a0) none), (1, .val (.int .i64 a1)), (4, .val (.int .i64 a4)), (10, .val (.bool false)), (11, .ptr 0 0), (15, .list 13 (List.map cGItem ([] : List GItem)) (some 0))]) (fr' := [⟨0, (cGLine r5.1)⟩]) (tk' := [0]) (by kernel_rfl) ?_
                      refine PO.nil ?_
                      refine PC.region ?_
                      refine PO.run 6 rfl ?_
                      obtain ⟨h106, h107, h108, hF⟩ := bindS_some hF
                      generalize hgl24 : (List.take (Int.toNat r5.1.last) a0).drop (Int.toNat r5.1.first) = l24 at hF
                      refine PO.same rfl (slice_ok (l2 := List.map cGItem l24) Try.underlying42 rfl rfl (.some rfl h106 rfl) (.some rfl (Int.le_trans h106 h107) rfl) (Int.toNat_le_toNat h107) (toNat_le1 h108) (by rw [← hgl24, List.map_drop, List.map_take] <;> first | rfl | simp [w])) rfl ?_
                      obtain ⟨h109, hF⟩ := bindA_some hF
                      generalize hgl25 : ([] : List GItem) ++ l24 = l25 at hF
                      refine PO.one rfl (append_typed (L := ([] : List GItem)) (M := l24) (f := cGItem) (sz := 13) (bytes := 112) Try.underlying42 rfl rfl rfl rfl rfl rfl rfl rfl rfl rfl rfl rfl h109 hgl25) rfl ?_
                      refine PO.run 1 rfl ?_
                      refine PO.nil ?_
                      refine PC.region ?_
                      refine PO.run 2 rfl ?_
                      obtain ⟨y26, h110, h111, hF⟩ := bindI_some hF
                      refine PO.same rfl (indexAddr_ok Try.underlying42 rfl rfl rfl h110 (map_at h111)) rfl ?_
                      refine PO.runK 3 [0, 1] [0] (es := [(1, .val (.int .i64 a1)), (10, .val (.bool false)), (11, .ptr 0 0), (15, .list 13 (List.map cGItem l25) (some 0)), (16, .ptr 1 0)]) (fr' := [⟨0, (cGLine r5.1)⟩, ⟨0, (cGItem y26)⟩]) (tk' := [l25.length]) (by kernel_rfl) ?_
                      refine PO.nil ?_
                      refine PC.assoc ?_
                      refine PC.run (n := 4) rfl ?_
                      obtain ⟨x112, e113, hF⟩ := bind_some hF
                      refine PC.join (fun s => ∃ (v27 : Int) (v28 : ByteArray) (v29 : Int) (v30 : Int) (v31 : Int) (v32 : Int) (v33 : Int) (v34 : Int) (v35 : Int) (v36 : Int) (v37 : Bool), Weak s (PS.of 284 [(1, .val (.int .i64 a1)), (10, .val (.bool false)), (11, .ptr 0 0), (15, .list 13 (List.map cGItem l25) (some 0)), (16, .ptr 1 0)] [⟨0, (cGLine r5.1)⟩, ⟨0, [.val (.int .i64 v27), .val (.string v28), .val (.int .i64 v29), .val (.int .i64 v30), .val (.int .i64 v31), .val (.int .i64 v32), .val (.int .i64 v33), .val (.int .i64 v34), .val (.int .i64 v35), .val (.int .i64 v36), .val (.bool v37), .val (.int .i64 y26.from_), .val (.int .i64 y26.to_)]⟩] [l25.length] 0 0) ∧ (v27, v28, v29, v30, v31, v32, v33, v34, v35, v36, v37) = x112) ?_ ?_
                      · refine PC.cond rfl (fun h114 => ?_) (fun h114 => ?_)
                        · have e113 := bif_t h114 e113
                          refine PC.region ?_
                          refine PO.runK 6 [0, 1] [0] (es := [(1, .val (.int .i64 a1)), (10, .val (.bool false)), (11, .ptr 0 0), (15, .list 13 (List.map cGItem l25) (some 0)), (16, .ptr 1 0)]) (fr' := [⟨0, (cGLine r5.1)⟩, ⟨0, [.val (.int .i64 4), .val (.string ByteArray.empty), .val (.int .i64 0), .val (.int .i64 0), .val (.int .i64 0), .val (.int .i64 0), .val (.int .i64 0), .val (.int .i64 0), .val (.int .i64 0), .val (.int .i64 0), .val (.bool false), .val (.int .i64 y26.from_), .val (.int .i64 y26.to_)]⟩]) (tk' := [l25.length]) (by kernel_rfl) ?_
                          refine PO.nil ?_
                          obtain rfl := Option.some.inj e113
                          exact PC.skip (joinKP.end ⟨4, ByteArray.empty, 0, 0, 0, 0, 0, 0, 0, 0, false, Weak.one [0, 1] [0] (by kernel_rfl), rfl⟩)
                        · have e113 := bif_f h114 e113
                          refine PC.noop ?_
                          obtain rfl := Option.some.inj e113
                          exact PC.skip (joinKP.end ⟨y26.kind, y26.font, y26.size, y26.rune, y26.width, y26.height, y26.depth, y26.stretch, y26.shrink, y26.value, y26.flag, Weak.one [0, 1] [0] (by kernel_rfl), rfl⟩)
                      · rintro _ ⟨v27, v28, v29, v30, v31, v32, v33, v34, v35, v36, v37, w115, rfl⟩
                        refine PC.weak w115 ?_
                        refine PC.region ?_
                        refine PO.runK 3 [0, 1] [0, 1] (es := [(1, .val (.int .i64 a1)), (10, .val (.bool false)), (11, .ptr 0 0), (15, .list 13 (List.map cGItem l25) (some 0)), (16, .ptr 1 0), (192, .list 13 (List.map cGItem l25) (some 0)), (194, .list 13 (List.map cGItem ([(GItem.mk v27 v28 v29 v30 v31 v32 v33 v34 v35 v36 v37 y26.from_ y26.to_)])) (some 1))]) (fr' := [⟨0, (cGLine r5.1)⟩, ⟨0, [.val (.int .i64 v27), .val (.string v28), .val (.int .i64 v29), .val (.int .i64 v30), .val (.int .i64 v31), .val (.int .i64 v32), .val (.int .i64 v33), .val (.int .i64 v34), .val (.int .i64 v35), .val (.int .i64 v36), .val (.bool v37), .val (.int .i64 y26.from_), .val (.int .i64 y26.to_)]⟩]) (tk' := [l25.length, 1]) (by kernel_rfl) ?_
                        obtain ⟨h116, hF⟩ := bindA_some hF
                        generalize hgl38 : l25 ++ ([(GItem.mk v27 v28 v29 v30 v31 v32 v33 v34 v35 v36 v37 y26.from_ y26.to_)]) = l38 at hF
                        refine PO.one rfl (append_typed (L := l25) (M := [(GItem.mk v27 v28 v29 v30 v31 v32 v33 v34 v35 v36 v37 y26.from_ y26.to_)]) (f := cGItem) (sz := 13) (bytes := 112) Try.underlying42 rfl rfl rfl rfl rfl rfl rfl rfl rfl rfl rfl rfl h116 hgl38) rfl ?_
                        refine PO.run 1 rfl ?_
                        refine PO.nil ?_
                        refine PC.assoc ?_
                        refine PC.run (n := 4) rfl ?_
                        obtain ⟨x117, e118, hF⟩ := bind_some hF
                        refine PC.join (fun s => ∃ (v39 : List GItem), Weak s (PS.of 284 [(1, .val (.int .i64 a1)), (10, .val (.bool false)), (11, .ptr 0 0), (15, .list 13 (List.map cGItem v39) (some 0))] [⟨0, (cGLine r5.1)⟩] [v39.length] 0 0) ∧ v39 = x117) ?_ ?_
                        · refine PC.cond rfl (fun h119 => ?_) (fun h119 => ?_)
                          · have e118 := bif_t h119 e118
                            refine PC.region ?_
                            refine PO.runK 7 [0] [0, 2] (es := [(1, .val (.int .i64 a1)), (10, .val (.bool false)), (11, .ptr 0 0), (15, .list 13 (List.map cGItem l38) (some 0)), (199, .list 13 (List.map cGItem l38) (some 0)), (205, .list 13 (List.map cGItem ([(GItem.mk 4 ByteArray.empty 0 0 0 0 0 0 0 (-10000) false y26.to_ y26.to_)])) (some 1))]) (fr' := [⟨0, (cGLine r5.1)⟩]) (tk' := [l38.length, 1]) (by kernel_rfl) ?_
                            obtain ⟨h120, e118⟩ := bindA_some e118
                            generalize hgl40 : l38 ++ ([(GItem.mk 4 ByteArray.empty 0 0 0 0 0 0 0 (-10000) false y26.to_ y26.to_)]) = l40 at e118
                            refine PO.one rfl (append_typed (L := l38) (M := [(GItem.mk 4 ByteArray.empty 0 0 0 0 0 0 0 (-10000) false y26.to_ y26.to_)]) (f := cGItem) (sz := 13) (bytes := 112) Try.underlying42 rfl rfl rfl rfl rfl rfl rfl rfl rfl rfl rfl rfl h120 hgl40) rfl ?_
                            refine PO.run 1 rfl ?_
                            refine PO.nil ?_
                            obtain rfl := Option.some.inj e118
                            exact PC.skip (joinKP.end ⟨l40, Weak.one [0] [0] (by kernel_rfl), rfl⟩)
                          · have e118 := bif_f h119 e118
                            refine PC.noop ?_
                            obtain rfl := Option.some.inj e118
                            exact PC.skip (joinKP.end ⟨l38, Weak.one [0] [0] (by kernel_rfl), rfl⟩)
                        · rintro _ ⟨v39, w121, rfl⟩
                          refine PC.weak w121 ?_
                          refine PC.region ?_
                          refine PO.run 7 rfl ?_
                          obtain ⟨r122, e123, hF⟩ := bind_some hF
                          refine PO.call rfl rfl rfl rfl (ks := []) (ts := []) (fr1 := []) rfl rfl rfl trivial (L34 k v39 a1 (-1) (w (r5.1.last - r5.1.first)) _ e123) ?_
                          rintro _ _ _ ⟨rfl, rfl, rfl⟩
                          refine ⟨_, _, rfl, rfl, ?_⟩
                          refine PO.runK 6 [0, 1] [0] (es := [(10, .val (.bool false)), (11, .ptr 0 0), (15, .list 13 (List.map cGItem v39) (some 0)), (17, .ptr 1 0), (18, .val (.int .i64 r122.2))]) (fr' := [⟨0, (cGLine r5.1)⟩, ⟨0, (cGLine r122.1)⟩]) (tk' := [v39.length]) (by kernel_rfl) ?_
                          refine PO.nil ?_
                          refine PC.assoc ?_
                          refine PC.run (n := 3) rfl ?_
                          refine PC.cond rfl (fun h124 => ?_) (fun h124 => ?_)
                          · have hF := bif_t h124 hF
                            refine PC.assoc ?_
                            refine PC.region ?_
                            refine PO.run 1 rfl ?_
                            obtain ⟨r125, e126, hF⟩ := bind_some hF
                            refine PO.call rfl rfl rfl rfl (ks := []) (ts := []) (fr1 := []) rfl rfl rfl trivial (L40 k v39 _ e126) ?_
                            rintro _ _ _ ⟨rfl, rfl, rfl⟩
                            refine ⟨_, _, rfl, rfl, ?_⟩
                            refine PO.run 2 rfl ?_
                            refine PO.nil ?_
                            obtain rfl := Option.some.inj hF
                            exact PC.ret (retSK [] [] (by kernel_rfl) (.refl _) ⟨rfl, rfl, rfl⟩)
                          · have hF := bif_f h124 hF
                            refine PC.noop ?_
                            refine PC.region ?_
                            refine PO.run 6 rfl ?_
                            obtain ⟨x127, e128, hF⟩ := bind_some hF
                            refine PO.cut 55 (fun s => ∃ (v41 : Bool), Weak s (PS.of 284 [(10, .val (.bool false)), (283, .val (.bool v41))] [] [] 0 0) ∧ v41 = x127) ?_ ?_
                            · refine PO.case (t := 228) rfl rfl (fun h129 => ?_) (fun h129 => ?_)
                              · have e128 := bif_t h129 e128
                                refine PO.run 5 rfl ?_
                                refine PO.same rfl (pickT_ok rfl rfl rfl) rfl ?_
                                refine PO.run 1 rfl ?_
                                obtain ⟨x130, e131, e128⟩ := bind_some e128
                                refine PO.cut 48 (fun s => ∃ (v42 : Bool), Weak s (PS.of 284 [(10, .val (.bool false)), (283, .val (.bool v42))] [] [] 0 0) ∧ v42 = x130) ?_ ?_
                                · refine PO.case (t := 235) rfl rfl (fun h132 => ?_) (fun h132 => ?_)
                                  · have e131 := bif_t h132 e131
                                    refine PO.run 5 rfl ?_
                                    refine PO.same rfl (pickT_ok rfl rfl rfl) rfl ?_
                                    refine PO.run 1 rfl ?_
                                    obtain ⟨x133, e134, e131⟩ := bind_some e131
                                    refine PO.cut 41 (fun s => ∃ (v43 : Bool), Weak s (PS.of 284 [(10, .val (.bool false)), (283, .val (.bool v43))] [] [] 0 0) ∧ v43 = x133) ?_ ?_
                                    · refine PO.case (t := 242) rfl rfl (fun h135 => ?_) (fun h135 => ?_)
                                      · have e134 := bif_t h135 e134
                                        refine PO.run 5 rfl ?_
                                        refine PO.same rfl (pickT_ok rfl rfl rfl) rfl ?_
                                        refine PO.run 1 rfl ?_
                                        obtain ⟨x136, e137, e134⟩ := bind_some e134
                                        refine PO.cut 34 (fun s => ∃ (v44 : Bool), Weak s (PS.of 284 [(10, .val (.bool false)), (283, .val (.bool v44))] [] [] 0 0) ∧ v44 = x136) ?_ ?_
                                        · refine PO.case (t := 249) rfl rfl (fun h138 => ?_) (fun h138 => ?_)
                                          · have e137 := bif_t h138 e137
                                            refine PO.run 4 rfl ?_
                                            refine PO.same rfl (boolEq_ok (fun a b => a == b) rfl rfl (by kernel_rfl) (by kernel_rfl) (by kernel_rfl) (by kernel_rfl)) rfl ?_
                                            refine PO.same rfl (pickT_ok rfl rfl rfl) rfl ?_
                                            refine PO.run 1 rfl ?_
                                            obtain ⟨x139, e140, e137⟩ := bind_some e137
                                            refine PO.cut 27 (fun s => ∃ (v45 : Bool), Weak s (PS.of 284 [(10, .val (.bool false)), (283, .val (.bool v45))] [] [] 0 0) ∧ v45 = x139) ?_ ?_
                                            · refine PO.case (t := 256) rfl rfl (fun h141 => ?_) (fun h141 => ?_)
                                              · have e140 := bif_t h141 e140
                                                refine PO.run 4 rfl ?_
                                                refine PO.same rfl (boolEq_ok (fun a b => a == b) rfl rfl (by kernel_rfl) (by kernel_rfl) (by kernel_rfl) (by kernel_rfl)) rfl ?_
                                                refine PO.same rfl (pickT_ok rfl rfl rfl) rfl ?_
                                                refine PO.run 1 rfl ?_
                                                obtain ⟨x142, e143, e140⟩ := bind_some e140
                                                refine PO.cut 20 (fun s => ∃ (v46 : Bool), Weak s (PS.of 284 [(10, .val (.bool false)), (283, .val (.bool v46))] [] [] 0 0) ∧ v46 = x142) ?_ ?_
                                                · refine PO.case (t := 263) rfl rfl (fun h144 => ?_) (fun h144 => ?_)
                                                  · have e143 := bif_t h144 e143
                                                    refine PO.run 4 rfl ?_
                                                    refine PO.same rfl (boolEq_ok (fun a b => a == b) rfl rfl (by kernel_rfl) (by kernel_rfl) (by kernel_rfl) (by kernel_rfl)) rfl ?_
                                                    refine PO.same rfl (pickT_ok rfl rfl rfl) rfl ?_
                                                    refine PO.run 1 rfl ?_
                                                    obtain ⟨x145, e146, e143⟩ := bind_some e143
                                                    refine PO.cut 13 (fun s => ∃ (v47 : Bool), Weak s (PS.of 284 [(10, .val (.bool false)), (283, .val (.bool v47))] [] [] 0 0) ∧ v47 = x145) ?_ ?_
                                                    · refine PO.case (t := 270) rfl rfl (fun h147 => ?_) (fun h147 => ?_)
                                                      · have e146 := bif_t h147 e146
                                                        refine PO.run 5 rfl ?_
                                                        refine PO.same rfl (pickT_ok rfl rfl rfl) rfl ?_
                                                        refine PO.run 1 rfl ?_
                                                        obtain ⟨x148, e149, e146⟩ := bind_some e146
                                                        refine PO.cut 6 (fun s => ∃ (v48 : Bool), Weak s (PS.of 284 [(10, .val (.bool false)), (283, .val (.bool v48))] [] [] 0 0) ∧ v48 = x148) ?_ ?_
                                                        · refine PO.case (t := 277) rfl rfl (fun h150 => ?_) (fun h150 => ?_)
                                                          · have e149 := bif_t h150 e149
                                                            refine PO.run 5 rfl ?_
                                                            refine PO.same rfl (pickT_ok rfl rfl rfl) rfl ?_
                                                            refine PO.nil ?_
                                                            obtain rfl := Option.some.inj e149
                                                            exact ⟨r122.1.depth == r5.1.depth, Weak.one [] [] (by kernel_rfl), rfl⟩
                                                          · have e149 := bif_f h150 e149
                                                            refine PO.run 5 rfl ?_
                                                            refine PO.same rfl (pickF_ok rfl rfl rfl) rfl ?_
                                                            refine PO.nil ?_
                                                            obtain rfl := Option.some.inj e149
                                                            exact ⟨false, Weak.one [] [] (by kernel_rfl), rfl⟩
                                                        · rintro _ ⟨v48, w151, rfl⟩
                                                          refine PO.weak w151 ?_
                                                          refine PO.nil ?_
                                                          obtain rfl := Option.some.inj e146
                                                          exact ⟨v48, Weak.one [] [] (by kernel_rfl), rfl⟩
                                                      · have e146 := bif_f h147 e146
                                                        refine PO.run 5 rfl ?_
                                                        refine PO.same rfl (pickF_ok rfl rfl rfl) rfl ?_
                                                        refine PO.run 6 rfl ?_
                                                        refine PO.same rfl (pickF_ok rfl rfl rfl) rfl ?_
                                                        refine PO.nil ?_
                                                        obtain rfl := Option.some.inj e146
                                                        exact ⟨false, Weak.one [] [] (by kernel_rfl), rfl⟩
                                                    · rintro _ ⟨v47, w152, rfl⟩
                                                      refine PO.weak w152 ?_
                                                      refine PO.nil ?_
                                                      obtain rfl := Option.some.inj e143
                                                      exact ⟨v47, Weak.one [] [] (by kernel_rfl), rfl⟩
                                                  · have e143 := bif_f h144 e143
                                                    refine PO.run 5 rfl ?_
                                                    refine PO.same rfl (pickF_ok rfl rfl rfl) rfl ?_
                                                    refine PO.run 6 rfl ?_
                                                    refine PO.same rfl (pickF_ok rfl rfl rfl) rfl ?_
                                                    refine PO.run 6 rfl ?_
                                                    refine PO.same rfl (pickF_ok rfl rfl rfl) rfl ?_
                                                    refine PO.nil ?_
                                                    obtain rfl := Option.some.inj e143
                                                    exact ⟨false, Weak.one [] [] (by kernel_rfl), rfl⟩
                                                · rintro _ ⟨v46, w153, rfl⟩
                                                  refine PO.weak w153 ?_
                                                  refine PO.nil ?_
                                                  obtain rfl := Option.some.inj e140
                                                  exact ⟨v46, Weak.one [] [] (by kernel_rfl), rfl⟩
                                              · have e140 := bif_f h141 e140
                                                refine PO.run 5 rfl ?_
                                                refine PO.same rfl (pickF_ok rfl rfl rfl) rfl ?_
                                                refine PO.run 6 rfl ?_
                                                refine PO.same rfl (pickF_ok rfl rfl rfl) rfl ?_
                                                refine PO.run 6 rfl ?_
                                                refine PO.same rfl (pickF_ok rfl rfl rfl) rfl ?_
                                                refine PO.run 6 rfl ?_
                                                refine PO.same rfl (pickF_ok rfl rfl rfl) rfl ?_
                                                refine PO.nil ?_
                                                obtain rfl := Option.some.inj e140
                                                exact ⟨false, Weak.one [] [] (by kernel_rfl), rfl⟩
                                            · rintro _ ⟨v45, w154, rfl⟩
                                              refine PO.weak w154 ?_
                                              refine PO.nil ?_
                                              obtain rfl := Option.some.inj e137
                                              exact ⟨v45, Weak.one [] [] (by kernel_rfl), rfl⟩
                                          · have e137 := bif_f h138 e137
                                            refine PO.run 5 rfl ?_
                                            refine PO.same rfl (pickF_ok rfl rfl rfl) rfl ?_
                                            refine PO.run 6 rfl ?_
                                            refine PO.same rfl (pickF_ok rfl rfl rfl) rfl ?_
                                            refine PO.run 6 rfl ?_
                                            refine PO.same rfl (pickF_ok rfl rfl rfl) rfl ?_
                                            refine PO.run 6 rfl ?_
                                            refine PO.same rfl (pickF_ok rfl rfl rfl) rfl ?_
                                            refine PO.run 6 rfl ?_
                                            refine PO.same rfl (pickF_ok rfl rfl rfl) rfl ?_
                                            refine PO.nil ?_
                                            obtain rfl := Option.some.inj e137
                                            exact ⟨false, Weak.one [] [] (by kernel_rfl), rfl⟩
                                        · rintro _ ⟨v44, w155, rfl⟩
                                          refine PO.weak w155 ?_
                                          refine PO.nil ?_
                                          obtain rfl := Option.some.inj e134
                                          exact ⟨v44, Weak.one [] [] (by kernel_rfl), rfl⟩
                                      · have e134 := bif_f h135 e134
                                        refine PO.run 5 rfl ?_
                                        refine PO.same rfl (pickF_ok rfl rfl rfl) rfl ?_
                                        refine PO.run 6 rfl ?_
                                        refine PO.same rfl (pickF_ok rfl rfl rfl) rfl ?_
                                        refine PO.run 6 rfl ?_
                                        refine PO.same rfl (pickF_ok rfl rfl rfl) rfl ?_
                                        refine PO.run 6 rfl ?_
                                        refine PO.same rfl (pickF_ok rfl rfl rfl) rfl ?_
                                        refine PO.run 6 rfl ?_
                                        refine PO.same rfl (pickF_ok rfl rfl rfl) rfl ?_
                                        refine PO.run 6 rfl ?_
                                        refine PO.same rfl (pickF_ok rfl rfl rfl) rfl ?_
                                        refine PO.nil ?_
                                        obtain rfl := Option.some.inj e134
                                        exact ⟨false, Weak.one [] [] (by kernel_rfl), rfl⟩
                                    · rintro _ ⟨v43, w156, rfl⟩
                                      refine PO.weak w156 ?_
                                      refine PO.nil ?_
                                      obtain rfl := Option.some.inj e131
                                      exact ⟨v43, Weak.one [] [] (by kernel_rfl), rfl⟩
                                  · have e131 := bif_f h132 e131
                                    refine PO.run 5 rfl ?_
                                    refine PO.same rfl (pickF_ok rfl rfl rfl) rfl ?_
                                    refine PO.run 6 rfl ?_
                                    refine PO.same rfl (pickF_ok rfl rfl rfl) rfl ?_
                                    refine PO.run 6 rfl ?_
                                    refine PO.same rfl (pickF_ok rfl rfl rfl) rfl ?_
                                    refine PO.run 6 rfl ?_
                                    refine PO.same rfl (pickF_ok rfl rfl rfl) rfl ?_
                                    refine PO.run 6 rfl ?_
                                    refine PO.same rfl (pickF_ok rfl rfl rfl) rfl ?_
                                    refine PO.run 6 rfl ?_
                                    refine PO.same rfl (pickF_ok rfl rfl rfl) rfl ?_
                                    refine PO.run 6 rfl ?_
                                    refine PO.same rfl (pickF_ok rfl rfl rfl) rfl ?_
                                    refine PO.nil ?_
                                    obtain rfl := Option.some.inj e131
                                    exact ⟨false, Weak.one [] [] (by kernel_rfl), rfl⟩
                                · rintro _ ⟨v42, w157, rfl⟩
                                  refine PO.weak w157 ?_
                                  refine PO.nil ?_
                                  obtain rfl := Option.some.inj e128
                                  exact ⟨v42, Weak.one [] [] (by kernel_rfl), rfl⟩
                              · have e128 := bif_f h129 e128
                                refine PO.run 5 rfl ?_
                                refine PO.same rfl (pickF_ok rfl rfl rfl) rfl ?_
                                refine PO.run 6 rfl ?_
                                refine PO.same rfl (pickF_ok rfl rfl rfl) rfl ?_
                                refine PO.run 6 rfl ?_
                                refine PO.same rfl (pickF_ok rfl rfl rfl) rfl ?_
                                refine PO.run 6 rfl ?_
                                refine PO.same rfl (pickF_ok rfl rfl rfl) rfl ?_
                                refine PO.run 6 rfl ?_
                                refine PO.same rfl (pickF_ok rfl rfl rfl) rfl ?_
                                refine PO.run 6 rfl ?_
                                refine PO.same rfl (pickF_ok rfl rfl rfl) rfl ?_
                                refine PO.run 6 rfl ?_
                                refine PO.same rfl (pickF_ok rfl rfl rfl) rfl ?_
                                refine PO.run 6 rfl ?_
                                refine PO.same rfl (pickF_ok rfl rfl rfl) rfl ?_
                                refine PO.nil ?_
                                obtain rfl := Option.some.inj e128
                                exact ⟨false, Weak.one [] [] (by kernel_rfl), rfl⟩
                            · rintro _ ⟨v41, w158, rfl⟩
                              refine PO.weak w158 ?_
                              refine PO.run 1 rfl ?_
                              refine PO.nil ?_
                              obtain rfl := Option.some.inj hF
                              exact PC.ret' (retSK [] [] (by kernel_rfl) (.refl _) ⟨rfl, rfl, rfl⟩)

end
end Go.Eng.Lift
