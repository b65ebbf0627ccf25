import Derived.Test.YtjobmgleekphjaaM24
import Derived.Test.YtjobmgleekphjaaProg
import Derived.KernelRfl
set_option linter.unusedVariables false
set_option linter.unusedSimpArgs false
set_option maxRecDepth 100000
set_option maxHeartbeats 4000000
namespace Go.Eng.Lift
open Go.Proofs
noncomputable section
def orc : FuncId → Option Value := fun f => pick (Nat.beq f 17) (some (.bool true)) none
theorem K17 : PF Try.prog orc 17 [] [] [] (fun p fr tk => p = .val (.bool true) ∧ fr = [] ∧ tk = []) := PF.known rfl rfl ⟨rfl, rfl, rfl⟩
theorem shl8k {x : R Value} (y : R Value) (h : x = y) : x = y := h
theorem shl8 {bit : Int} (h0 : 0 ≤ bit) (h1 : bit ≤ 7) : gOnly (pureRun Try.prog 0 (Go.binOp .shl 5 (.int .u8 1) (.int .i64 bit))) = .ok (.int .u8 (2 ^ bit.toNat)) := by
  obtain ⟨n, rfl⟩ := Int.eq_ofNat_of_zero_le h0
  have h : n ≤ 7 := by omega
  rcases (show n = 0 ∨ n = 1 ∨ n = 2 ∨ n = 3 ∨ n = 4 ∨ n = 5 ∨ n = 6 ∨ n = 7 by omega) with rfl | rfl | rfl | rfl | rfl | rfl | rfl | rfl <;> exact shl8k _ rfl
structure GBox where
  x : Int
  y : Int
  font : ByteArray
  size : Int
  rune : Int
  width : Int
  height : Int
  depth : Int
  from_ : Int
  to_ : Int
def cGBox (x : GBox) : List PV := [.val (.int .i64 x.x), .val (.int .i64 x.y), .val (.string x.font), .val (.int .i64 x.size), .val (.int .i64 x.rune), .val (.int .i64 x.width), .val (.int .i64 x.height), .val (.int .i64 x.depth), .val (.int .i64 x.from_), .val (.int .i64 x.to_)]
structure GRow where
  y : Int
  over_ : Bool
  loose : Bool
  boxes : List GBox
def cGRow (x : GRow) : List PV := [.val (.int .i64 x.y), .val (.bool x.over_), .val (.bool x.loose), .list 10 (List.map cGBox x.boxes) none]
structure GPage where
  width : Int
  height : Int
  over_ : Bool
  rows : List GRow
def cGPage (x : GPage) : List PV := [.val (.int .i64 x.width), .val (.int .i64 x.height), .val (.bool x.over_), .list 4 (List.map cGRow x.rows) none]
structure GAnswer where
  fault_Kind : Int
  fault_At : Int
  steps : Int
  cells : Int
  pages : List GPage
def cGAnswer (x : GAnswer) : List PV := [.val (.int .i64 x.fault_Kind), .val (.int .i64 x.fault_At), .val (.int .i64 x.steps), .val (.int .i64 x.cells), .list 4 (List.map cGPage x.pages) none]
structure Gwriter where
  b : List Int
def cGwriter (x : Gwriter) : List PV := [.list 1 (List.map cI_u8 x.b) none]
structure GT122 where
  x_0 : Int
  x_1 : Int
  x_2 : Int
  x_3 : Int
  x_4 : Int
  x_5 : Int
  x_6 : Int
  x_7 : Int
  x_8 : Int
def cGT122 (x : GT122) : List PV := [.val (.int .i64 x.x_0), .val (.int .i64 x.x_1), .val (.int .i64 x.x_2), .val (.int .i64 x.x_3), .val (.int .i64 x.x_4), .val (.int .i64 x.x_5), .val (.int .i64 x.x_6), .val (.int .i64 x.x_7), .val (.int .i64 x.x_8)]
structure Greader where
  b : List Int
  bad : Bool
def cGreader (x : Greader) : List PV := [.list 1 (List.map cI_u8 x.b) none, .val (.bool x.bad)]

/-! 41 platen/platenlaw20.more -/
def F41 (k : Nat) (a0 : Int) (a1 : Int) : Option Int :=
Option.bind (α := Bool) (bif decide (a0 > 2147483647) then (some true) else (some (decide (a1 > (w (2147483647 - a0)))))) fun (v1 : Bool) =>
bif v1 then (some 2147483648) else (some (w (a0 + a1)))
theorem L41 (k : Nat) (a0 : Int) (a1 : Int) (r : Int) (hF : F41 k a0 a1 = some r) : PF Try.prog orc 41 [.val (.int .i64 a0), .val (.int .i64 a1)] [] [] (fun p fr tk => p = .val (.int .i64 r) ∧ fr = [] ∧ tk = []) := by
  unfold F41 at hF
  refine PF.enterS Try.func41 rfl rfl rfl (by kernel_rfl) rfl ?_
  refine PC.run (n := 2) rfl ?_
  refine PC.assoc ?_
  refine PC.region ?_
  refine PO.run 3 rfl ?_
  refine bindK hF (fun x1 e2 hF => ?_)
  refine PO.cut 5 (fun s => ∃ (v1 : Bool), Weak s (PS.of 16 [(0, .val (.int .i64 a0)), (1, .val (.int .i64 a1)), (4, .val (.int .i64 0)), (12, .val (.bool v1))] [] [] 0 0) ∧ v1 = x1) ?_ ?_
  · refine PO.case (t := 7) rfl rfl (fun h3 => ?_) (fun h3 => ?_)
    · have e2 := bif_t h3 e2
      refine PO.run 4 rfl ?_
      refine PO.same rfl (pickT_ok rfl rfl rfl) rfl ?_
      refine PO.nil ?_
      exact ⟨true, Weak.one [] [] (by kernel_rfl), Option.some.inj e2⟩
    · have e2 := bif_f h3 e2
      refine PO.run 4 rfl ?_
      refine PO.same rfl (pickF_ok rfl rfl rfl) rfl ?_
      refine PO.nil ?_
      exact ⟨decide (a1 > (w (2147483647 - a0))), Weak.one [] [] (by kernel_rfl), Option.some.inj e2⟩
  · rintro _ ⟨v1, w4, rfl⟩
    refine PO.weak w4 ?_
    refine PO.nil ?_
    refine PC.cond rfl (fun h5 => ?_) (fun h5 => ?_)
    · have hF := bif_t h5 hF
      refine PC.assoc ?_
      refine PC.run (n := 2) rfl ?_
      have hq := Option.some.inj hF
      subst hq
      exact PC.ret (retSK [] [] (by kernel_rfl) (.refl _) ⟨rfl, rfl, rfl⟩)
    · have hF := bif_f h5 hF
      refine PC.noop ?_
      refine PC.run (n := 5) rfl ?_
      have hq := Option.some.inj hF
      subst hq
      exact PC.ret' (retSK [] [] (by kernel_rfl) (.refl _) ⟨rfl, rfl, rfl⟩)

/-! 16 platen/platenlaw20.beyond -/
def F16_l3 (k : Nat) (a0 : GAnswer) (v5 : Int) (v14 : Int) : Nat → Int → Int → Option Int
  | 0, _, _ => none
  | j33 + 1, v23, v24 =>
    bindI a0.pages v5 fun y27 =>
    bindI y27.rows v14 fun y28 =>
    Option.bind (α := Bool) (bif decide (v24 < (y28.boxes.length : Int)) then (some (decide (v23 ≤ 2147483647))) else (some false)) fun (v29 : Bool) =>
    bif v29 then ((F41 k v23 80).bind fun r44 =>
    bindI a0.pages v5 fun y30 =>
    bindI y30.rows v14 fun y31 =>
    bindI y31.boxes v24 fun y32 =>
    (F41 k r44 (y32.font.size : Int)).bind fun r52 =>
    F16_l3 k a0 v5 v14 j33 r52 (w (v24 + 1))) else (some v23)
def F16_l2 (k : Nat) (a0 : GAnswer) (v5 : Int) : Nat → Int → Int → Option Int
  | 0, _, _ => none
  | j18 + 1, v13, v14 =>
    bindI a0.pages v5 fun y17 =>
    Option.bind (α := Bool) (bif decide (v14 < (y17.rows.length : Int)) then (some (decide (v13 ≤ 2147483647))) else (some false)) fun (v18 : Bool) =>
    bif v18 then (Option.bind (α := Int) ((F41 k v13 32).bind fun r29 =>
    Option.bind (α := Int) (F16_l3 k a0 v5 v14 k r29 0) fun (v20 : Int) =>
    some v20) fun (v19 : Int) =>
    F16_l2 k a0 v5 j18 v19 (w (v14 + 1))) else (some v13)
def F16_l1 (k : Nat) (a0 : GAnswer) : Nat → Int → Int → Option Int
  | 0, _, _ => none
  | j5 + 1, v4, v5 =>
    Option.bind (α := Bool) (bif decide (v5 < (a0.pages.length : Int)) then (some (decide (v4 ≤ 2147483647))) else (some false)) fun (v8 : Bool) =>
    bif v8 then (Option.bind (α := Int) ((F41 k v4 32).bind fun r14 =>
    Option.bind (α := Int) (F16_l2 k a0 v5 k r14 0) fun (v10 : Int) =>
    some v10) fun (v9 : Int) =>
    F16_l1 k a0 j5 v9 (w (v5 + 1))) else (some v4)
def F16 (k : Nat) (a0 : GAnswer) : Option Bool :=
(F41 k 64 (a0.pages.length : Int)).bind fun r1 =>
Option.bind (α := Int) (F16_l1 k a0 k r1 0) fun (v1 : Int) =>
some (decide (v1 > 2147483647))
theorem L16 (k : Nat) (a0 : GAnswer) (r : Bool) (hF : F16 k a0 = some r) : PF Try.prog orc 16 [.agg (cGAnswer a0)] [] [] (fun p fr tk => p = .val (.bool r) ∧ fr = [] ∧ tk = []) := by
  unfold F16 at hF
  refine PF.enterS Try.func16 rfl rfl rfl (by kernel_rfl) rfl ?_
  refine PC.region ?_
  refine PO.runK 2 [0] [] (es := [(1, .ptr 0 0), (2, .val (.bool false))]) (fr' := [⟨0, (cGAnswer a0)⟩]) (tk' := []) (by kernel_rfl) ?_
  refine PO.nil ?_
  refine PC.region ?_
  refine PO.run 2 rfl ?_
  refine PO.same rfl (len_ok Try.underlying25 rfl (List.length_map _)) rfl ?_
  refine PO.runK 0 [0] [] (es := [(1, .ptr 0 0), (2, .val (.bool false)), (9, .val (.int .i64 (a0.pages.length : Int)))]) (fr' := [⟨0, (cGAnswer a0)⟩]) (tk' := []) (by kernel_rfl) ?_
  refine bindK hF (fun r1 e2 hF => ?_)
  refine PO.call rfl rfl rfl rfl (ks := []) (ts := []) (fr1 := []) rfl rfl rfl trivial (L41 k 64 (a0.pages.length : Int) _ e2) ?_
  rintro _ _ _ ⟨rfl, rfl, rfl⟩
  refine ⟨_, _, rfl, rfl, ?_⟩
  refine PO.run 1 rfl ?_
  refine PO.nil ?_
  refine PC.assoc ?_
  refine PC.run (n := 2) rfl ?_
  refine bindK hF (fun x3 e4 hF => ?_)
  refine PC.blockJ (fun s => ∃ (v1 : Int), Weak s (PS.of 81 [(2, .val (.bool false)), (3, .val (.int .i64 v1))] [] [] 0 0) ∧ v1 = x3) ?_ ?_
  · refine PC.loop (fun j5 s => ∃ (v4 : Int) (v5 : Int), Weak s (PS.of 81 [(1, .ptr 0 0), (2, .val (.bool false)), (3, .val (.int .i64 v4)), (4, .val (.int .i64 v5))] [⟨0, (cGAnswer a0)⟩] [] 0 0) ∧ F16_l1 k a0 j5 v4 v5 = some x3) (fun j5 s => ?_) k ⟨r1, 0, Weak.one [0] [] (by kernel_rfl), e4⟩
    rintro ⟨v4, v5, w6, e4⟩
    refine PC.weak w6 ?_
    cases j5 with
    | zero => rw [F16_l1] at e4; cases e4
    | succ j5 =>
      rw [F16_l1] at e4
      refine PC.assoc ?_
      refine PC.region ?_
      refine PO.run 3 rfl ?_
      refine PO.same rfl (len_ok Try.underlying25 rfl (List.length_map _)) rfl ?_
      refine PO.run 2 rfl ?_
      refine bindK e4 (fun x7 e8 e4 => ?_)
      refine PO.cut 3 (fun s => ∃ (v8 : Bool), Weak s (PS.of 81 [(1, .ptr 0 0), (2, .val (.bool false)), (3, .val (.int .i64 v4)), (4, .val (.int .i64 v5)), (19, .val (.bool v8))] [⟨0, (cGAnswer a0)⟩] [] 0 0) ∧ v8 = x7) ?_ ?_
      · refine PO.case (t := 16) rfl rfl (fun h9 => ?_) (fun h9 => ?_)
        · have e8 := bif_t h9 e8
          refine PO.run 2 rfl ?_
          refine PO.same rfl (pickT_ok rfl rfl rfl) rfl ?_
          refine PO.nil ?_
          exact ⟨decide (v4 ≤ 2147483647), Weak.one [0] [] (by kernel_rfl), Option.some.inj e8⟩
        · have e8 := bif_f h9 e8
          refine PO.run 2 rfl ?_
          refine PO.same rfl (pickF_ok rfl rfl rfl) rfl ?_
          refine PO.nil ?_
          exact ⟨false, Weak.one [0] [] (by kernel_rfl), Option.some.inj e8⟩
      · rintro _ ⟨v8, w10, rfl⟩
        refine PO.weak w10 ?_
        refine PO.nil ?_
        refine PC.cond rfl (fun h11 => ?_) (fun h11 => ?_)
        · have e4 := bif_t h11 e4
          refine PC.noop ?_
          refine bindK e4 (fun x12 e13 e4 => ?_)
          refine PC.blockJ (fun s => ∃ (v9 : Int), Weak s (PS.of 81 [(1, .ptr 0 0), (2, .val (.bool false)), (3, .val (.int .i64 v9)), (4, .val (.int .i64 v5))] [⟨0, (cGAnswer a0)⟩] [] 0 0) ∧ v9 = x12) ?_ ?_
          · refine PC.region ?_
            refine PO.run 1 rfl ?_
            refine bindK e13 (fun r14 e15 e13 => ?_)
            refine PO.call rfl rfl rfl rfl (ks := []) (ts := []) (fr1 := []) rfl rfl rfl trivial (L41 k v4 32 _ e15) ?_
            rintro _ _ _ ⟨rfl, rfl, rfl⟩
            refine ⟨_, _, rfl, rfl, ?_⟩
            refine PO.run 1 rfl ?_
            refine PO.nil ?_
            refine PC.run (n := 2) rfl ?_
            refine PC.lone ?_
            refine bindK e13 (fun x16 e17 e13 => ?_)
            refine PC.blockJ (fun s => ∃ (v10 : Int), Weak s (PS.of 81 [(1, .ptr 0 0), (2, .val (.bool false)), (3, .val (.int .i64 v10)), (4, .val (.int .i64 v5))] [⟨0, (cGAnswer a0)⟩] [] 0 0) ∧ v10 = x16) ?_ ?_
            · refine PC.loop (fun j18 s => ∃ (v13 : Int) (v14 : Int), Weak s (PS.of 81 [(1, .ptr 0 0), (2, .val (.bool false)), (3, .val (.int .i64 v13)), (4, .val (.int .i64 v5)), (5, .val (.int .i64 v14))] [⟨0, (cGAnswer a0)⟩] [] 0 0) ∧ F16_l2 k a0 v5 j18 v13 v14 = some x16) (fun j18 s => ?_) k ⟨r14, 0, Weak.one [0] [] (by kernel_rfl), e17⟩
              rintro ⟨v13, v14, w19, e17⟩
              refine PC.weak w19 ?_
              cases j18 with
              | zero => rw [F16_l2] at e17; cases e17
              | succ j18 =>
                rw [F16_l2] at e17
                refine PC.assoc ?_
                refine PC.region ?_
                refine PO.run 4 rfl ?_
                refine bindIK e17 (fun y17 h20 h21 e17 => ?_)
                refine PO.same rfl (indexAddr_ok Try.underlying25 rfl rfl rfl h20 (map_at h21)) rfl ?_
                refine PO.runK 2 [0] [] (es := [(1, .ptr 0 0), (2, .val (.bool false)), (3, .val (.int .i64 v13)), (4, .val (.int .i64 v5)), (5, .val (.int .i64 v14)), (24, .val (.int .i64 v14)), (30, .list 4 (List.map cGRow y17.rows) none)]) (fr' := [⟨0, (cGAnswer a0)⟩]) (tk' := []) (by kernel_rfl) ?_
                refine PO.same rfl (len_ok Try.underlying76 rfl (List.length_map _)) rfl ?_
                refine PO.run 2 rfl ?_
                refine bindK e17 (fun x22 e23 e17 => ?_)
                refine PO.cut 3 (fun s => ∃ (v18 : Bool), Weak s (PS.of 81 [(1, .ptr 0 0), (2, .val (.bool false)), (3, .val (.int .i64 v13)), (4, .val (.int .i64 v5)), (5, .val (.int .i64 v14)), (36, .val (.bool v18))] [⟨0, (cGAnswer a0)⟩] [] 0 0) ∧ v18 = x22) ?_ ?_
                · refine PO.case (t := 33) rfl rfl (fun h24 => ?_) (fun h24 => ?_)
                  · have e23 := bif_t h24 e23
                    refine PO.run 2 rfl ?_
                    refine PO.same rfl (pickT_ok rfl rfl rfl) rfl ?_
                    refine PO.nil ?_
                    exact ⟨decide (v13 ≤ 2147483647), Weak.one [0] [] (by kernel_rfl), Option.some.inj e23⟩
                  · have e23 := bif_f h24 e23
                    refine PO.run 2 rfl ?_
                    refine PO.same rfl (pickF_ok rfl rfl rfl) rfl ?_
                    refine PO.nil ?_
                    exact ⟨false, Weak.one [0] [] (by kernel_rfl), Option.some.inj e23⟩
                · rintro _ ⟨v18, w25, rfl⟩
                  refine PO.weak w25 ?_
                  refine PO.nil ?_
                  refine PC.cond rfl (fun h26 => ?_) (fun h26 => ?_)
                  · have e17 := bif_t h26 e17
                    refine PC.noop ?_
                    refine bindK e17 (fun x27 e28 e17 => ?_)
                    refine PC.blockJ (fun s => ∃ (v19 : Int), Weak s (PS.of 81 [(1, .ptr 0 0), (2, .val (.bool false)), (3, .val (.int .i64 v19)), (4, .val (.int .i64 v5)), (5, .val (.int .i64 v14))] [⟨0, (cGAnswer a0)⟩] [] 0 0) ∧ v19 = x27) ?_ ?_
                    · refine PC.region ?_
                      refine PO.run 1 rfl ?_
                      refine bindK e28 (fun r29 e30 e28 => ?_)
                      refine PO.call rfl rfl rfl rfl (ks := []) (ts := []) (fr1 := []) rfl rfl rfl trivial (L41 k v13 32 _ e30) ?_
                      rintro _ _ _ ⟨rfl, rfl, rfl⟩
                      refine ⟨_, _, rfl, rfl, ?_⟩
                      refine PO.run 1 rfl ?_
                      refine PO.nil ?_
                      refine PC.run (n := 2) rfl ?_
                      refine PC.lone ?_
                      refine bindK e28 (fun x31 e32 e28 => ?_)
                      refine PC.blockJ (fun s => ∃ (v20 : Int), Weak s (PS.of 81 [(1, .ptr 0 0), (2, .val (.bool false)), (3, .val (.int .i64 v20)), (4, .val (.int .i64 v5)), (5, .val (.int .i64 v14))] [⟨0, (cGAnswer a0)⟩] [] 0 0) ∧ v20 = x31) ?_ ?_
                      · refine PC.loop (fun j33 s => ∃ (v23 : Int) (v24 : Int), Weak s (PS.of 81 [(1, .ptr 0 0), (2, .val (.bool false)), (3, .val (.int .i64 v23)), (4, .val (.int .i64 v5)), (5, .val (.int .i64 v14)), (6, .val (.int .i64 v24))] [⟨0, (cGAnswer a0)⟩] [] 0 0) ∧ F16_l3 k a0 v5 v14 j33 v23 v24 = some x31) (fun j33 s => ?_) k ⟨r29, 0, Weak.one [0] [] (by kernel_rfl), e32⟩
                        rintro ⟨v23, v24, w34, e32⟩
                        refine PC.weak w34 ?_
                        cases j33 with
                        | zero => rw [F16_l3] at e32; cases e32
                        | succ j33 =>
                          rw [F16_l3] at e32
                          refine PC.assoc ?_
                          refine PC.region ?_
                          refine PO.run 4 rfl ?_
                          refine bindIK e32 (fun y27 h35 h36 e32 => ?_)
                          refine PO.same rfl (indexAddr_ok Try.underlying25 rfl rfl rfl h35 (map_at h36)) rfl ?_
                          refine PO.runK 3 [0] [] (es := [(1, .ptr 0 0), (2, .val (.bool false)), (3, .val (.int .i64 v23)), (4, .val (.int .i64 v5)), (5, .val (.int .i64 v14)), (6, .val (.int .i64 v24)), (41, .val (.int .i64 v24)), (47, .list 4 (List.map cGRow y27.rows) none), (48, .val (.int .i64 v14))]) (fr' := [⟨0, (cGAnswer a0)⟩]) (tk' := []) (by kernel_rfl) ?_
                          refine bindIK e32 (fun y28 h37 h38 e32 => ?_)
                          refine PO.same rfl (indexAddr_ok Try.underlying76 rfl rfl rfl h37 (map_at h38)) rfl ?_
                          refine PO.runK 2 [0] [] (es := [(1, .ptr 0 0), (2, .val (.bool false)), (3, .val (.int .i64 v23)), (4, .val (.int .i64 v5)), (5, .val (.int .i64 v14)), (6, .val (.int .i64 v24)), (41, .val (.int .i64 v24)), (51, .list 10 (List.map cGBox y28.boxes) none)]) (fr' := [⟨0, (cGAnswer a0)⟩]) (tk' := []) (by kernel_rfl) ?_
                          refine PO.same rfl (len_ok Try.underlying79 rfl (List.length_map _)) rfl ?_
                          refine PO.run 2 rfl ?_
                          refine bindK e32 (fun x39 e40 e32 => ?_)
                          refine PO.cut 3 (fun s => ∃ (v29 : Bool), Weak s (PS.of 81 [(1, .ptr 0 0), (2, .val (.bool false)), (3, .val (.int .i64 v23)), (4, .val (.int .i64 v5)), (5, .val (.int .i64 v14)), (6, .val (.int .i64 v24)), (57, .val (.bool v29))] [⟨0, (cGAnswer a0)⟩] [] 0 0) ∧ v29 = x39) ?_ ?_
                          · refine PO.case (t := 54) rfl rfl (fun h41 => ?_) (fun h41 => ?_)
                            · have e40 := bif_t h41 e40
                              refine PO.run 2 rfl ?_
                              refine PO.same rfl (pickT_ok rfl rfl rfl) rfl ?_
                              refine PO.nil ?_
                              exact ⟨decide (v23 ≤ 2147483647), Weak.one [0] [] (by kernel_rfl), Option.some.inj e40⟩
                            · have e40 := bif_f h41 e40
                              refine PO.run 2 rfl ?_
                              refine PO.same rfl (pickF_ok rfl rfl rfl) rfl ?_
                              refine PO.nil ?_
                              exact ⟨false, Weak.one [0] [] (by kernel_rfl), Option.some.inj e40⟩
                          · rintro _ ⟨v29, w42, rfl⟩
                            refine PO.weak w42 ?_
                            refine PO.nil ?_
                            refine PC.cond rfl (fun h43 => ?_) (fun h43 => ?_)
                            · have e32 := bif_t h43 e32
                              refine PC.noop ?_
                              refine PC.block ?_
                              refine PC.region ?_
                              refine PO.run 1 rfl ?_
                              refine bindK e32 (fun r44 e45 e32 => ?_)
                              refine PO.call rfl rfl rfl rfl (ks := []) (ts := []) (fr1 := []) rfl rfl rfl trivial (L41 k v23 80 _ e45) ?_
                              rintro _ _ _ ⟨rfl, rfl, rfl⟩
                              refine ⟨_, _, rfl, rfl, ?_⟩
                              refine PO.run 1 rfl ?_
                              refine PO.nil ?_
                              refine PC.lone ?_
                              refine PC.region ?_
                              refine PO.run 4 rfl ?_
                              refine bindIK e32 (fun y30 h46 h47 e32 => ?_)
                              refine PO.same rfl (indexAddr_ok Try.underlying25 rfl rfl rfl h46 (map_at h47)) rfl ?_
                              refine PO.runK 3 [0] [] (es := [(1, .ptr 0 0), (2, .val (.bool false)), (3, .val (.int .i64 r44)), (4, .val (.int .i64 v5)), (5, .val (.int .i64 v14)), (6, .val (.int .i64 v24)), (62, .val (.int .i64 r44)), (68, .list 4 (List.map cGRow y30.rows) none), (69, .val (.int .i64 v14))]) (fr' := [⟨0, (cGAnswer a0)⟩]) (tk' := []) (by kernel_rfl) ?_
                              refine bindIK e32 (fun y31 h48 h49 e32 => ?_)
                              refine PO.same rfl (indexAddr_ok Try.underlying76 rfl rfl rfl h48 (map_at h49)) rfl ?_
                              refine PO.runK 3 [0] [] (es := [(1, .ptr 0 0), (2, .val (.bool false)), (3, .val (.int .i64 r44)), (4, .val (.int .i64 v5)), (5, .val (.int .i64 v14)), (6, .val (.int .i64 v24)), (62, .val (.int .i64 r44)), (72, .list 10 (List.map cGBox y31.boxes) none), (73, .val (.int .i64 v24))]) (fr' := [⟨0, (cGAnswer a0)⟩]) (tk' := []) (by kernel_rfl) ?_
                              refine bindIK e32 (fun y32 h50 h51 e32 => ?_)
                              refine PO.same rfl (indexAddr_ok Try.underlying79 rfl rfl rfl h50 (map_at h51)) rfl ?_
                              refine PO.runK 2 [0] [] (es := [(1, .ptr 0 0), (2, .val (.bool false)), (3, .val (.int .i64 r44)), (4, .val (.int .i64 v5)), (5, .val (.int .i64 v14)), (6, .val (.int .i64 v24)), (62, .val (.int .i64 r44)), (76, .val (.string y32.font))]) (fr' := [⟨0, (cGAnswer a0)⟩]) (tk' := []) (by kernel_rfl) ?_
                              refine PO.same rfl (lenStr_ok Try.underlying9 rfl) rfl ?_
                              refine PO.runK 0 [0] [] (es := [(1, .ptr 0 0), (2, .val (.bool false)), (3, .val (.int .i64 r44)), (4, .val (.int .i64 v5)), (5, .val (.int .i64 v14)), (6, .val (.int .i64 v24)), (62, .val (.int .i64 r44)), (77, .val (.int .i64 (y32.font.size : Int)))]) (fr' := [⟨0, (cGAnswer a0)⟩]) (tk' := []) (by kernel_rfl) ?_
                              refine bindK e32 (fun r52 e53 e32 => ?_)
                              refine PO.call rfl rfl rfl rfl (ks := []) (ts := []) (fr1 := []) rfl rfl rfl trivial (L41 k r44 (y32.font.size : Int) _ e53) ?_
                              rintro _ _ _ ⟨rfl, rfl, rfl⟩
                              refine ⟨_, _, rfl, rfl, ?_⟩
                              refine PO.run 1 rfl ?_
                              refine PO.nil ?_
                              refine PC.skip (blockKP.end ?_)
                              refine PC.lone ?_
                              refine PC.run (n := 4) rfl ?_
                              exact PC.skip (loopKP.mk (Nat.lt_succ_self _) ⟨r52, w (v24 + 1), Weak.one [0] [] (by kernel_rfl), e32⟩)
                            · have e32 := bif_f h43 e32
                              exact PC.exit (loopKP.exit (blockJK.here ⟨v23, Weak.one [0] [] (by kernel_rfl), Option.some.inj e32⟩))
                      · rintro _ ⟨v20, w54, rfl⟩
                        refine PC.weak w54 ?_
                        exact PC.skip (blockJK.end ⟨v20, Weak.one [0] [] (by kernel_rfl), Option.some.inj e28⟩)
                    · rintro _ ⟨v19, w55, rfl⟩
                      refine PC.weak w55 ?_
                      refine PC.lone ?_
                      refine PC.run (n := 4) rfl ?_
                      exact PC.skip (loopKP.mk (Nat.lt_succ_self _) ⟨v19, w (v14 + 1), Weak.one [0] [] (by kernel_rfl), e17⟩)
                  · have e17 := bif_f h26 e17
                    exact PC.exit (loopKP.exit (blockJK.here ⟨v13, Weak.one [0] [] (by kernel_rfl), Option.some.inj e17⟩))
            · rintro _ ⟨v10, w56, rfl⟩
              refine PC.weak w56 ?_
              exact PC.skip (blockJK.end ⟨v10, Weak.one [0] [] (by kernel_rfl), Option.some.inj e13⟩)
          · rintro _ ⟨v9, w57, rfl⟩
            refine PC.weak w57 ?_
            refine PC.lone ?_
            refine PC.run (n := 4) rfl ?_
            exact PC.skip (loopKP.mk (Nat.lt_succ_self _) ⟨v9, w (v5 + 1), Weak.one [0] [] (by kernel_rfl), e4⟩)
        · have e4 := bif_f h11 e4
          exact PC.exit (loopKP.exit (blockJK.here ⟨v4, Weak.one [] [] (by kernel_rfl), Option.some.inj e4⟩))
  · rintro _ ⟨v1, w58, rfl⟩
    refine PC.weak w58 ?_
    refine PC.run (n := 4) rfl ?_
    have hq := Option.some.inj hF
    subst hq
    exact PC.ret' (retSK [] [] (by kernel_rfl) (.refl _) ⟨rfl, rfl, rfl⟩)

/-! 42 (*platen/answer.writer).lay -/
def F42 (k : Nat) (a0 : Gwriter) (a1 : ByteArray) : Option Gwriter :=
bindLay a0.b a1 fun l1 =>
some (Gwriter.mk l1)
theorem L42 (k : Nat) (a0 : Gwriter) (a1 : ByteArray) (r : Gwriter) (hF : F42 k a0 a1 = some r) : PF Try.prog orc 42 [.ptr 0 0, .val (.string a1)] [⟨0, [.list 1 (List.map cI_u8 a0.b) (some 0)]⟩] [a0.b.length] (fun p fr tk => p = .tup [] ∧ fr = [⟨0, [.list 1 (List.map cI_u8 r.b) (some 0)]⟩] ∧ tk = [r.b.length]) := by
  unfold F42 at hF
  refine PF.enterS Try.func42 rfl rfl rfl (by kernel_rfl) rfl ?_
  refine PC.region ?_
  refine PO.run 4 rfl ?_
  refine PO.same rfl (len_ok Try.underlying32 rfl (List.length_map _)) rfl ?_
  refine PO.run 1 rfl ?_
  refine PO.nil ?_
  refine PC.lone (PC.assoc ?_)
  refine bindLayK hF (fun h1 h2 hF => ?_)
  generalize hgl1 : a0.b ++ strBytes a1 = l1 at hF
  refine lay_typed hgl1 Try.underlying86 rfl rfl rfl Try.underlying32 rfl rfl Try.underlying9 rfl rfl rfl rfl rfl rfl rfl rfl rfl rfl rfl rfl h1 h2 ?_
  have hq := Option.some.inj hF
  subst hq
  exact PC.skip (retSN [0] [0] (by kernel_rfl) (.refl _) ⟨rfl, rfl, rfl⟩)

/-! 43 (*platen/answer.writer).number -/
def F43 (k : Nat) (a0 : Gwriter) (a1 : Int) : Option Gwriter :=
Option.bind (α := Unit) (some ()) fun (_ : Unit) =>
(F42 k a0 (strOf [w_u8 (Int.fdiv (w_u64 (a1)) (2 ^ 56)), w_u8 (Int.fdiv (w_u64 (a1)) (2 ^ 48)), w_u8 (Int.fdiv (w_u64 (a1)) (2 ^ 40)), w_u8 (Int.fdiv (w_u64 (a1)) (2 ^ 32)), w_u8 (Int.fdiv (w_u64 (a1)) (2 ^ 24)), w_u8 (Int.fdiv (w_u64 (a1)) (2 ^ 16)), w_u8 (Int.fdiv (w_u64 (a1)) (2 ^ 8)), w_u8 (Int.fdiv (w_u64 (a1)) (2 ^ 0))])).bind fun r13 =>
some r13
theorem L43 (k : Nat) (a0 : Gwriter) (a1 : Int) (r : Gwriter) (hF : F43 k a0 a1 = some r) : PF Try.prog orc 43 [.ptr 0 0, .val (.int .i64 a1)] [⟨0, [.list 1 (List.map cI_u8 a0.b) (some 0)]⟩] [a0.b.length] (fun p fr tk => p = .tup [] ∧ fr = [⟨0, [.list 1 (List.map cI_u8 r.b) (some 0)]⟩] ∧ tk = [r.b.length]) := by
  unfold F43 at hF
  refine PF.enterS Try.func43 rfl rfl rfl (by kernel_rfl) rfl ?_
  refine PC.region ?_
  refine PO.runK 1 [0, 1] [0] (es := [(0, .ptr 0 0), (1, .val (.int .i64 a1)), (4, .ptr 1 0)]) (fr' := [⟨0, [.list 1 (List.map cI_u8 a0.b) (some 0)]⟩, ⟨0, [.val (.int .u8 0), .val (.int .u8 0), .val (.int .u8 0), .val (.int .u8 0), .val (.int .u8 0), .val (.int .u8 0), .val (.int .u8 0), .val (.int .u8 0)]⟩]) (tk' := [a0.b.length]) (by kernel_rfl) ?_
  refine PO.nil ?_
  refine PC.assoc ?_
  refine PC.run (n := 2) rfl ?_
  refine bindK hF (fun x1 e2 hF => ?_)
  refine PC.blockJ (fun s => Weak s (PS.of 23 [(0, .ptr 0 0), (4, .ptr 1 0)] [⟨0, [.list 1 (List.map cI_u8 a0.b) (some 0)]⟩, ⟨0, [.val (.int .u8 (w_u8 (Int.fdiv (w_u64 (a1)) (2 ^ 56)))), .val (.int .u8 (w_u8 (Int.fdiv (w_u64 (a1)) (2 ^ 48)))), .val (.int .u8 (w_u8 (Int.fdiv (w_u64 (a1)) (2 ^ 40)))), .val (.int .u8 (w_u8 (Int.fdiv (w_u64 (a1)) (2 ^ 32)))), .val (.int .u8 (w_u8 (Int.fdiv (w_u64 (a1)) (2 ^ 24)))), .val (.int .u8 (w_u8 (Int.fdiv (w_u64 (a1)) (2 ^ 16)))), .val (.int .u8 (w_u8 (Int.fdiv (w_u64 (a1)) (2 ^ 8)))), .val (.int .u8 (w_u8 (Int.fdiv (w_u64 (a1)) (2 ^ 0))))]⟩] [(a0.b).length] 1 1) ∧ () = x1) ?_ ?_
  · refine PC.loop1 ?_
    refine PC.region ?_
    refine PO.runK 1 [0, 1] [0] (es := [(0, .ptr 0 0), (1, .val (.int .i64 a1)), (4, .ptr 1 0), (6, .val (.int .i64 0)), (7, .val (.bool true))]) (fr' := [⟨0, [.list 1 (List.map cI_u8 a0.b) (some 0)]⟩, ⟨0, [.val (.int .u8 0), .val (.int .u8 0), .val (.int .u8 0), .val (.int .u8 0), .val (.int .u8 0), .val (.int .u8 0), .val (.int .u8 0), .val (.int .u8 0)]⟩]) (tk' := [a0.b.length]) (by kernel_rfl) ?_
    refine PO.nil ?_
    refine PC.cond rfl (fun _ => ?_) (fun h3 => Bool.noConfusion h3)
    refine PC.noop ?_
    refine PC.block ?_
    refine PC.region ?_
    refine PO.runK 2 [0, 1] [0] (es := [(0, .ptr 0 0), (1, .val (.int .i64 a1)), (4, .ptr 1 0), (5, .val (.int .i64 0)), (6, .val (.int .i64 0))]) (fr' := [⟨0, [.list 1 (List.map cI_u8 a0.b) (some 0)]⟩, ⟨0, [.val (.int .u8 0), .val (.int .u8 0), .val (.int .u8 0), .val (.int .u8 0), .val (.int .u8 0), .val (.int .u8 0), .val (.int .u8 0), .val (.int .u8 0)]⟩]) (tk' := [a0.b.length]) (by kernel_rfl) ?_
    refine PO.nil ?_
    refine PC.lone ?_
    refine PC.region ?_
    refine PO.runK 8 [0, 1] [0] (es := [(0, .ptr 0 0), (1, .val (.int .i64 a1)), (4, .ptr 1 0), (6, .val (.int .i64 0)), (9, .val (.int .i64 0)), (16, .val (.int .u8 (w_u8 (Int.fdiv (w_u64 (a1)) (2 ^ 56)))))]) (fr' := [⟨0, [.list 1 (List.map cI_u8 a0.b) (some 0)]⟩, ⟨0, [.val (.int .u8 0), .val (.int .u8 0), .val (.int .u8 0), .val (.int .u8 0), .val (.int .u8 0), .val (.int .u8 0), .val (.int .u8 0), .val (.int .u8 0)]⟩]) (tk' := [a0.b.length]) (by kernel_rfl) ?_
    refine PO.same rfl (arrAddr_ok (i := 0) Try.underlying121 rfl rfl rfl rfl) rfl ?_
    refine PO.runK 1 [0, 1] [0] (es := [(0, .ptr 0 0), (1, .val (.int .i64 a1)), (4, .ptr 1 0), (6, .val (.int .i64 0))]) (fr' := [⟨0, [.list 1 (List.map cI_u8 a0.b) (some 0)]⟩, ⟨0, [.val (.int .u8 (w_u8 (Int.fdiv (w_u64 (a1)) (2 ^ 56)))), .val (.int .u8 0), .val (.int .u8 0), .val (.int .u8 0), .val (.int .u8 0), .val (.int .u8 0), .val (.int .u8 0), .val (.int .u8 0)]⟩]) (tk' := [a0.b.length]) (by kernel_rfl) ?_
    refine PO.nil ?_
    refine PC.skip (blockKP.end ?_)
    refine PC.lone ?_
    refine PC.region ?_
    refine PO.runK 2 [0, 1] [0] (es := [(0, .ptr 0 0), (1, .val (.int .i64 a1)), (4, .ptr 1 0), (6, .val (.int .i64 1))]) (fr' := [⟨0, [.list 1 (List.map cI_u8 a0.b) (some 0)]⟩, ⟨0, [.val (.int .u8 (w_u8 (Int.fdiv (w_u64 (a1)) (2 ^ 56)))), .val (.int .u8 0), .val (.int .u8 0), .val (.int .u8 0), .val (.int .u8 0), .val (.int .u8 0), .val (.int .u8 0), .val (.int .u8 0)]⟩]) (tk' := [a0.b.length]) (by kernel_rfl) ?_
    refine PO.nil ?_
    refine PC.skip (loop1P.end ?_)
    refine PC.loop1 ?_
    refine PC.region ?_
    refine PO.runK 1 [0, 1] [0] (es := [(0, .ptr 0 0), (1, .val (.int .i64 a1)), (4, .ptr 1 0), (6, .val (.int .i64 1)), (7, .val (.bool true))]) (fr' := [⟨0, [.list 1 (List.map cI_u8 a0.b) (some 0)]⟩, ⟨0, [.val (.int .u8 (w_u8 (Int.fdiv (w_u64 (a1)) (2 ^ 56)))), .val (.int .u8 0), .val (.int .u8 0), .val (.int .u8 0), .val (.int .u8 0), .val (.int .u8 0), .val (.int .u8 0), .val (.int .u8 0)]⟩]) (tk' := [a0.b.length]) (by kernel_rfl) ?_
    refine PO.nil ?_
    refine PC.cond rfl (fun _ => ?_) (fun h4 => Bool.noConfusion h4)
    refine PC.noop ?_
    refine PC.block ?_
    refine PC.region ?_
    refine PO.runK 2 [0, 1] [0] (es := [(0, .ptr 0 0), (1, .val (.int .i64 a1)), (4, .ptr 1 0), (5, .val (.int .i64 1)), (6, .val (.int .i64 1))]) (fr' := [⟨0, [.list 1 (List.map cI_u8 a0.b) (some 0)]⟩, ⟨0, [.val (.int .u8 (w_u8 (Int.fdiv (w_u64 (a1)) (2 ^ 56)))), .val (.int .u8 0), .val (.int .u8 0), .val (.int .u8 0), .val (.int .u8 0), .val (.int .u8 0), .val (.int .u8 0), .val (.int .u8 0)]⟩]) (tk' := [a0.b.length]) (by kernel_rfl) ?_
    refine PO.nil ?_
    refine PC.lone ?_
    refine PC.region ?_
    refine PO.runK 8 [0, 1] [0] (es := [(0, .ptr 0 0), (1, .val (.int .i64 a1)), (4, .ptr 1 0), (6, .val (.int .i64 1)), (9, .val (.int .i64 1)), (16, .val (.int .u8 (w_u8 (Int.fdiv (w_u64 (a1)) (2 ^ 48)))))]) (fr' := [⟨0, [.list 1 (List.map cI_u8 a0.b) (some 0)]⟩, ⟨0, [.val (.int .u8 (w_u8 (Int.fdiv (w_u64 (a1)) (2 ^ 56)))), .val (.int .u8 0), .val (.int .u8 0), .val (.int .u8 0), .val (.int .u8 0), .val (.int .u8 0), .val (.int .u8 0), .val (.int .u8 0)]⟩]) (tk' := [a0.b.length]) (by kernel_rfl) ?_
    refine PO.same rfl (arrAddr_ok (i := 1) Try.underlying121 rfl rfl rfl rfl) rfl ?_
    refine PO.runK 1 [0, 1] [0] (es := [(0, .ptr 0 0), (1, .val (.int .i64 a1)), (4, .ptr 1 0), (6, .val (.int .i64 1))]) (fr' := [⟨0, [.list 1 (List.map cI_u8 a0.b) (some 0)]⟩, ⟨0, [.val (.int .u8 (w_u8 (Int.fdiv (w_u64 (a1)) (2 ^ 56)))), .val (.int .u8 (w_u8 (Int.fdiv (w_u64 (a1)) (2 ^ 48)))), .val (.int .u8 0), .val (.int .u8 0), .val (.int .u8 0), .val (.int .u8 0), .val (.int .u8 0), .val (.int .u8 0)]⟩]) (tk' := [a0.b.length]) (by kernel_rfl) ?_
    refine PO.nil ?_
    refine PC.skip (blockKP.end ?_)
    refine PC.lone ?_
    refine PC.region ?_
    refine PO.runK 2 [0, 1] [0] (es := [(0, .ptr 0 0), (1, .val (.int .i64 a1)), (4, .ptr 1 0), (6, .val (.int .i64 2))]) (fr' := [⟨0, [.list 1 (List.map cI_u8 a0.b) (some 0)]⟩, ⟨0, [.val (.int .u8 (w_u8 (Int.fdiv (w_u64 (a1)) (2 ^ 56)))), .val (.int .u8 (w_u8 (Int.fdiv (w_u64 (a1)) (2 ^ 48)))), .val (.int .u8 0), .val (.int .u8 0), .val (.int .u8 0), .val (.int .u8 0), .val (.int .u8 0), .val (.int .u8 0)]⟩]) (tk' := [a0.b.length]) (by kernel_rfl) ?_
    refine PO.nil ?_
    refine PC.skip (loop1P.end ?_)
    refine PC.loop1 ?_
    refine PC.region ?_
    refine PO.runK 1 [0, 1] [0] (es := [(0, .ptr 0 0), (1, .val (.int .i64 a1)), (4, .ptr 1 0), (6, .val (.int .i64 2)), (7, .val (.bool true))]) (fr' := [⟨0, [.list 1 (List.map cI_u8 a0.b) (some 0)]⟩, ⟨0, [.val (.int .u8 (w_u8 (Int.fdiv (w_u64 (a1)) (2 ^ 56)))), .val (.int .u8 (w_u8 (Int.fdiv (w_u64 (a1)) (2 ^ 48)))), .val (.int .u8 0), .val (.int .u8 0), .val (.int .u8 0), .val (.int .u8 0), .val (.int .u8 0), .val (.int .u8 0)]⟩]) (tk' := [a0.b.length]) (by kernel_rfl) ?_
    refine PO.nil ?_
    refine PC.cond rfl (fun _ => ?_) (fun h5 => Bool.noConfusion h5)
    refine PC.noop ?_
    refine PC.block ?_
    refine PC.region ?_
    refine PO.runK 2 [0, 1] [0] (es := [(0, .ptr 0 0), (1, .val (.int .i64 a1)), (4, .ptr 1 0), (5, .val (.int .i64 2)), (6, .val (.int .i64 2))]) (fr' := [⟨0, [.list 1 (List.map cI_u8 a0.b) (some 0)]⟩, ⟨0, [.val (.int .u8 (w_u8 (Int.fdiv (w_u64 (a1)) (2 ^ 56)))), .val (.int .u8 (w_u8 (Int.fdiv (w_u64 (a1)) (2 ^ 48)))), .val (.int .u8 0), .val (.int .u8 0), .val (.int .u8 0), .val (.int .u8 0), .val (.int .u8 0), .val (.int .u8 0)]⟩]) (tk' := [a0.b.length]) (by kernel_rfl) ?_
    refine PO.nil ?_
    refine PC.lone ?_
    refine PC.region ?_
    refine PO.runK 8 [0, 1] [0] (es := [(0, .ptr 0 0), (1, .val (.int .i64 a1)), (4, .ptr 1 0), (6, .val (.int .i64 2)), (9, .val (.int .i64 2)), (16, .val (.int .u8 (w_u8 (Int.fdiv (w_u64 (a1)) (2 ^ 40)))))]) (fr' := [⟨0, [.list 1 (List.map cI_u8 a0.b) (some 0)]⟩, ⟨0, [.val (.int .u8 (w_u8 (Int.fdiv (w_u64 (a1)) (2 ^ 56)))), .val (.int .u8 (w_u8 (Int.fdiv (w_u64 (a1)) (2 ^ 48)))), .val (.int .u8 0), .val (.int .u8 0), .val (.int .u8 0), .val (.int .u8 0), .val (.int .u8 0), .val (.int .u8 0)]⟩]) (tk' := [a0.b.length]) (by kernel_rfl) ?_
    refine PO.same rfl (arrAddr_ok (i := 2) Try.underlying121 rfl rfl rfl rfl) rfl ?_
    refine PO.runK 1 [0, 1] [0] (es := [(0, .ptr 0 0), (1, .val (.int .i64 a1)), (4, .ptr 1 0), (6, .val (.int .i64 2))]) (fr' := [⟨0, [.list 1 (List.map cI_u8 a0.b) (some 0)]⟩, ⟨0, [.val (.int .u8 (w_u8 (Int.fdiv (w_u64 (a1)) (2 ^ 56)))), .val (.int .u8 (w_u8 (Int.fdiv (w_u64 (a1)) (2 ^ 48)))), .val (.int .u8 (w_u8 (Int.fdiv (w_u64 (a1)) (2 ^ 40)))), .val (.int .u8 0), .val (.int .u8 0), .val (.int .u8 0), .val (.int .u8 0), .val (.int .u8 0)]⟩]) (tk' := [a0.b.length]) (by kernel_rfl) ?_
    refine PO.nil ?_
    refine PC.skip (blockKP.end ?_)
    refine PC.lone ?_
    refine PC.region ?_
    refine PO.runK 2 [0, 1] [0] (es := [(0, .ptr 0 0), (1, .val (.int .i64 a1)), (4, .ptr 1 0), (6, .val (.int .i64 3))]) (fr' := [⟨0, [.list 1 (List.map cI_u8 a0.b) (some 0)]⟩, ⟨0, [.val (.int .u8 (w_u8 (Int.fdiv (w_u64 (a1)) (2 ^ 56)))), .val (.int .u8 (w_u8 (Int.fdiv (w_u64 (a1)) (2 ^ 48)))), .val (.int .u8 (w_u8 (Int.fdiv (w_u64 (a1)) (2 ^ 40)))), .val (.int .u8 0), .val (.int .u8 0), .val (.int .u8 0), .val (.int .u8 0), .val (.int .u8 0)]⟩]) (tk' := [a0.b.length]) (by kernel_rfl) ?_
    refine PO.nil ?_
    refine PC.skip (loop1P.end ?_)
    refine PC.loop1 ?_
    refine PC.region ?_
    refine PO.runK 1 [0, 1] [0] (es := [(0, .ptr 0 0), (1, .val (.int .i64 a1)), (4, .ptr 1 0), (6, .val (.int .i64 3)), (7, .val (.bool true))]) (fr' := [⟨0, [.list 1 (List.map cI_u8 a0.b) (some 0)]⟩, ⟨0, [.val (.int .u8 (w_u8 (Int.fdiv (w_u64 (a1)) (2 ^ 56)))), .val (.int .u8 (w_u8 (Int.fdiv (w_u64 (a1)) (2 ^ 48)))), .val (.int .u8 (w_u8 (Int.fdiv (w_u64 (a1)) (2 ^ 40)))), .val (.int .u8 0), .val (.int .u8 0), .val (.int .u8 0), .val (.int .u8 0), .val (.int .u8 0)]⟩]) (tk' := [a0.b.length]) (by kernel_rfl) ?_
    refine PO.nil ?_
    refine PC.cond rfl (fun _ => ?_) (fun h6 => Bool.noConfusion h6)
    refine PC.noop ?_
    refine PC.block ?_
    refine PC.region ?_
    refine PO.runK 2 [0, 1] [0] (es := [(0, .ptr 0 0), (1, .val (.int .i64 a1)), (4, .ptr 1 0), (5, .val (.int .i64 3)), (6, .val (.int .i64 3))]) (fr' := [⟨0, [.list 1 (List.map cI_u8 a0.b) (some 0)]⟩, ⟨0, [.val (.int .u8 (w_u8 (Int.fdiv (w_u64 (a1)) (2 ^ 56)))), .val (.int .u8 (w_u8 (Int.fdiv (w_u64 (a1)) (2 ^ 48)))), .val (.int .u8 (w_u8 (Int.fdiv (w_u64 (a1)) (2 ^ 40)))), .val (.int .u8 0), .val (.int .u8 0), .val (.int .u8 0), .val (.int .u8 0), .val (.int .u8 0)]⟩]) (tk' := [a0.b.length]) (by kernel_rfl) ?_
    refine PO.nil ?_
    refine PC.lone ?_
    refine PC.region ?_
    refine PO.runK 8 [0, 1] [0] (es := [(0, .ptr 0 0), (1, .val (.int .i64 a1)), (4, .ptr 1 0), (6, .val (.int .i64 3)), (9, .val (.int .i64 3)), (16, .val (.int .u8 (w_u8 (Int.fdiv (w_u64 (a1)) (2 ^ 32)))))]) (fr' := [⟨0, [.list 1 (List.map cI_u8 a0.b) (some 0)]⟩, ⟨0, [.val (.int .u8 (w_u8 (Int.fdiv (w_u64 (a1)) (2 ^ 56)))), .val (.int .u8 (w_u8 (Int.fdiv (w_u64 (a1)) (2 ^ 48)))), .val (.int .u8 (w_u8 (Int.fdiv (w_u64 (a1)) (2 ^ 40)))), .val (.int .u8 0), .val (.int .u8 0), .val (.int .u8 0), .val (.int .u8 0), .val (.int .u8 0)]⟩]) (tk' := [a0.b.length]) (by kernel_rfl) ?_
    refine PO.same rfl (arrAddr_ok (i := 3) Try.underlying121 rfl rfl rfl rfl) rfl ?_
    refine PO.runK 1 [0, 1] [0] (es := [(0, .ptr 0 0), (1, .val (.int .i64 a1)), (4, .ptr 1 0), (6, .val (.int .i64 3))]) (fr' := [⟨0, [.list 1 (List.map cI_u8 a0.b) (some 0)]⟩, ⟨0, [.val (.int .u8 (w_u8 (Int.fdiv (w_u64 (a1)) (2 ^ 56)))), .val (.int .u8 (w_u8 (Int.fdiv (w_u64 (a1)) (2 ^ 48)))), .val (.int .u8 (w_u8 (Int.fdiv (w_u64 (a1)) (2 ^ 40)))), .val (.int .u8 (w_u8 (Int.fdiv (w_u64 (a1)) (2 ^ 32)))), .val (.int .u8 0), .val (.int .u8 0), .val (.int .u8 0), .val (.int .u8 0)]⟩]) (tk' := [a0.b.length]) (by kernel_rfl) ?_
    refine PO.nil ?_
    refine PC.skip (blockKP.end ?_)
    refine PC.lone ?_
    refine PC.region ?_
    refine PO.runK 2 [0, 1] [0] (es := [(0, .ptr 0 0), (1, .val (.int .i64 a1)), (4, .ptr 1 0), (6, .val (.int .i64 4))]) (fr' := [⟨0, [.list 1 (List.map cI_u8 a0.b) (some 0)]⟩, ⟨0, [.val (.int .u8 (w_u8 (Int.fdiv (w_u64 (a1)) (2 ^ 56)))), .val (.int .u8 (w_u8 (Int.fdiv (w_u64 (a1)) (2 ^ 48)))), .val (.int .u8 (w_u8 (Int.fdiv (w_u64 (a1)) (2 ^ 40)))), .val (.int .u8 (w_u8 (Int.fdiv (w_u64 (a1)) (2 ^ 32)))), .val (.int .u8 0), .val (.int .u8 0), .val (.int .u8 0), .val (.int .u8 0)]⟩]) (tk' := [a0.b.length]) (by kernel_rfl) ?_
    refine PO.nil ?_
    refine PC.skip (loop1P.end ?_)
    refine PC.loop1 ?_
    refine PC.region ?_
    refine PO.runK 1 [0, 1] [0] (es := [(0, .ptr 0 0), (1, .val (.int .i64 a1)), (4, .ptr 1 0), (6, .val (.int .i64 4)), (7, .val (.bool true))]) (fr' := [⟨0, [.list 1 (List.map cI_u8 a0.b) (some 0)]⟩, ⟨0, [.val (.int .u8 (w_u8 (Int.fdiv (w_u64 (a1)) (2 ^ 56)))), .val (.int .u8 (w_u8 (Int.fdiv (w_u64 (a1)) (2 ^ 48)))), .val (.int .u8 (w_u8 (Int.fdiv (w_u64 (a1)) (2 ^ 40)))), .val (.int .u8 (w_u8 (Int.fdiv (w_u64 (a1)) (2 ^ 32)))), .val (.int .u8 0), .val (.int .u8 0), .val (.int .u8 0), .val (.int .u8 0)]⟩]) (tk' := [a0.b.length]) (by kernel_rfl) ?_
    refine PO.nil ?_
    refine PC.cond rfl (fun _ => ?_) (fun h7 => Bool.noConfusion h7)
    refine PC.noop ?_
    refine PC.block ?_
    refine PC.region ?_
    refine PO.runK 2 [0, 1] [0] (es := [(0, .ptr 0 0), (1, .val (.int .i64 a1)), (4, .ptr 1 0), (5, .val (.int .i64 4)), (6, .val (.int .i64 4))]) (fr' := [⟨0, [.list 1 (List.map cI_u8 a0.b) (some 0)]⟩, ⟨0, [.val (.int .u8 (w_u8 (Int.fdiv (w_u64 (a1)) (2 ^ 56)))), .val (.int .u8 (w_u8 (Int.fdiv (w_u64 (a1)) (2 ^ 48)))), .val (.int .u8 (w_u8 (Int.fdiv (w_u64 (a1)) (2 ^ 40)))), .val (.int .u8 (w_u8 (Int.fdiv (w_u64 (a1)) (2 ^ 32)))), .val (.int .u8 0), .val (.int .u8 0), .val (.int .u8 0), .val (.int .u8 0)]⟩]) (tk' := [a0.b.length]) (by kernel_rfl) ?_
    refine PO.nil ?_
    refine PC.lone ?_
    refine PC.region ?_
    refine PO.runK 8 [0, 1] [0] (es := [(0, .ptr 0 0), (1, .val (.int .i64 a1)), (4, .ptr 1 0), (6, .val (.int .i64 4)), (9, .val (.int .i64 4)), (16, .val (.int .u8 (w_u8 (Int.fdiv (w_u64 (a1)) (2 ^ 24)))))]) (fr' := [⟨0, [.list 1 (List.map cI_u8 a0.b) (some 0)]⟩, ⟨0, [.val (.int .u8 (w_u8 (Int.fdiv (w_u64 (a1)) (2 ^ 56)))), .val (.int .u8 (w_u8 (Int.fdiv (w_u64 (a1)) (2 ^ 48)))), .val (.int .u8 (w_u8 (Int.fdiv (w_u64 (a1)) (2 ^ 40)))), .val (.int .u8 (w_u8 (Int.fdiv (w_u64 (a1)) (2 ^ 32)))), .val (.int .u8 0), .val (.int .u8 0), .val (.int .u8 0), .val (.int .u8 0)]⟩]) (tk' := [a0.b.length]) (by kernel_rfl) ?_
    refine PO.same rfl (arrAddr_ok (i := 4) Try.underlying121 rfl rfl rfl rfl) rfl ?_
    refine PO.runK 1 [0, 1] [0] (es := [(0, .ptr 0 0), (1, .val (.int .i64 a1)), (4, .ptr 1 0), (6, .val (.int .i64 4))]) (fr' := [⟨0, [.list 1 (List.map cI_u8 a0.b) (some 0)]⟩, ⟨0, [.val (.int .u8 (w_u8 (Int.fdiv (w_u64 (a1)) (2 ^ 56)))), .val (.int .u8 (w_u8 (Int.fdiv (w_u64 (a1)) (2 ^ 48)))), .val (.int .u8 (w_u8 (Int.fdiv (w_u64 (a1)) (2 ^ 40)))), .val (.int .u8 (w_u8 (Int.fdiv (w_u64 (a1)) (2 ^ 32)))), .val (.int .u8 (w_u8 (Int.fdiv (w_u64 (a1)) (2 ^ 24)))), .val (.int .u8 0), .val (.int .u8 0), .val (.int .u8 0)]⟩]) (tk' := [a0.b.length]) (by kernel_rfl) ?_
    refine PO.nil ?_
    refine PC.skip (blockKP.end ?_)
    refine PC.lone ?_
    refine PC.region ?_
    refine PO.runK 2 [0, 1] [0] (es := [(0, .ptr 0 0), (1, .val (.int .i64 a1)), (4, .ptr 1 0), (6, .val (.int .i64 5))]) (fr' := [⟨0, [.list 1 (List.map cI_u8 a0.b) (some 0)]⟩, ⟨0, [.val (.int .u8 (w_u8 (Int.fdiv (w_u64 (a1)) (2 ^ 56)))), .val (.int .u8 (w_u8 (Int.fdiv (w_u64 (a1)) (2 ^ 48)))), .val (.int .u8 (w_u8 (Int.fdiv (w_u64 (a1)) (2 ^ 40)))), .val (.int .u8 (w_u8 (Int.fdiv (w_u64 (a1)) (2 ^ 32)))), .val (.int .u8 (w_u8 (Int.fdiv (w_u64 (a1)) (2 ^ 24)))), .val (.int .u8 0), .val (.int .u8 0), .val (.int .u8 0)]⟩]) (tk' := [a0.b.length]) (by kernel_rfl) ?_
    refine PO.nil ?_
    refine PC.skip (loop1P.end ?_)
    refine PC.loop1 ?_
    refine PC.region ?_
    refine PO.runK 1 [0, 1] [0] (es := [(0, .ptr 0 0), (1, .val (.int .i64 a1)), (4, .ptr 1 0), (6, .val (.int .i64 5)), (7, .val (.bool true))]) (fr' := [⟨0, [.list 1 (List.map cI_u8 a0.b) (some 0)]⟩, ⟨0, [.val (.int .u8 (w_u8 (Int.fdiv (w_u64 (a1)) (2 ^ 56)))), .val (.int .u8 (w_u8 (Int.fdiv (w_u64 (a1)) (2 ^ 48)))), .val (.int .u8 (w_u8 (Int.fdiv (w_u64 (a1)) (2 ^ 40)))), .val (.int .u8 (w_u8 (Int.fdiv (w_u64 (a1)) (2 ^ 32)))), .val (.int .u8 (w_u8 (Int.fdiv (w_u64 (a1)) (2 ^ 24)))), .val (.int .u8 0), .val (.int .u8 0), .val (.int .u8 0)]⟩]) (tk' := [a0.b.length]) (by kernel_rfl) ?_
    refine PO.nil ?_
    refine PC.cond rfl (fun _ => ?_) (fun h8 => Bool.noConfusion h8)
    refine PC.noop ?_
    refine PC.block ?_
    refine PC.region ?_
    refine PO.runK 2 [0, 1] [0] (es := [(0, .ptr 0 0), (1, .val (.int .i64 a1)), (4, .ptr 1 0), (5, .val (.int .i64 5)), (6, .val (.int .i64 5))]) (fr' := [⟨0, [.list 1 (List.map cI_u8 a0.b) (some 0)]⟩, ⟨0, [.val (.int .u8 (w_u8 (Int.fdiv (w_u64 (a1)) (2 ^ 56)))), .val (.int .u8 (w_u8 (Int.fdiv (w_u64 (a1)) (2 ^ 48)))), .val (.int .u8 (w_u8 (Int.fdiv (w_u64 (a1)) (2 ^ 40)))), .val (.int .u8 (w_u8 (Int.fdiv (w_u64 (a1)) (2 ^ 32)))), .val (.int .u8 (w_u8 (Int.fdiv (w_u64 (a1)) (2 ^ 24)))), .val (.int .u8 0), .val (.int .u8 0), .val (.int .u8 0)]⟩]) (tk' := [a0.b.length]) (by kernel_rfl) ?_
    refine PO.nil ?_
    refine PC.lone ?_
    refine PC.region ?_
    refine PO.runK 8 [0, 1] [0] (es := [(0, .ptr 0 0), (1, .val (.int .i64 a1)), (4, .ptr 1 0), (6, .val (.int .i64 5)), (9, .val (.int .i64 5)), (16, .val (.int .u8 (w_u8 (Int.fdiv (w_u64 (a1)) (2 ^ 16)))))]) (fr' := [⟨0, [.list 1 (List.map cI_u8 a0.b) (some 0)]⟩, ⟨0, [.val (.int .u8 (w_u8 (Int.fdiv (w_u64 (a1)) (2 ^ 56)))), .val (.int .u8 (w_u8 (Int.fdiv (w_u64 (a1)) (2 ^ 48)))), .val (.int .u8 (w_u8 (Int.fdiv (w_u64 (a1)) (2 ^ 40)))), .val (.int .u8 (w_u8 (Int.fdiv (w_u64 (a1)) (2 ^ 32)))), .val (.int .u8 (w_u8 (Int.fdiv (w_u64 (a1)) (2 ^ 24)))), .val (.int .u8 0), .val (.int .u8 0), .val (.int .u8 0)]⟩]) (tk' := [a0.b.length]) (by kernel_rfl) ?_
    refine PO.same rfl (arrAddr_ok (i := 5) Try.underlying121 rfl rfl rfl rfl) rfl ?_
    refine PO.runK 1 [0, 1] [0] (es := [(0, .ptr 0 0), (1, .val (.int .i64 a1)), (4, .ptr 1 0), (6, .val (.int .i64 5))]) (fr' := [⟨0, [.list 1 (List.map cI_u8 a0.b) (some 0)]⟩, ⟨0, [.val (.int .u8 (w_u8 (Int.fdiv (w_u64 (a1)) (2 ^ 56)))), .val (.int .u8 (w_u8 (Int.fdiv (w_u64 (a1)) (2 ^ 48)))), .val (.int .u8 (w_u8 (Int.fdiv (w_u64 (a1)) (2 ^ 40)))), .val (.int .u8 (w_u8 (Int.fdiv (w_u64 (a1)) (2 ^ 32)))), .val (.int .u8 (w_u8 (Int.fdiv (w_u64 (a1)) (2 ^ 24)))), .val (.int .u8 (w_u8 (Int.fdiv (w_u64 (a1)) (2 ^ 16)))), .val (.int .u8 0), .val (.int .u8 0)]⟩]) (tk' := [a0.b.length]) (by kernel_rfl) ?_
    refine PO.nil ?_
    refine PC.skip (blockKP.end ?_)
    refine PC.lone ?_
    refine PC.region ?_
    refine PO.runK 2 [0, 1] [0] (es := [(0, .ptr 0 0), (1, .val (.int .i64 a1)), (4, .ptr 1 0), (6, .val (.int .i64 6))]) (fr' := [⟨0, [.list 1 (List.map cI_u8 a0.b) (some 0)]⟩, ⟨0, [.val (.int .u8 (w_u8 (Int.fdiv (w_u64 (a1)) (2 ^ 56)))), .val (.int .u8 (w_u8 (Int.fdiv (w_u64 (a1)) (2 ^ 48)))), .val (.int .u8 (w_u8 (Int.fdiv (w_u64 (a1)) (2 ^ 40)))), .val (.int .u8 (w_u8 (Int.fdiv (w_u64 (a1)) (2 ^ 32)))), .val (.int .u8 (w_u8 (Int.fdiv (w_u64 (a1)) (2 ^ 24)))), .val (.int .u8 (w_u8 (Int.fdiv (w_u64 (a1)) (2 ^ 16)))), .val (.int .u8 0), .val (.int .u8 0)]⟩]) (tk' := [a0.b.length]) (by kernel_rfl) ?_
    refine PO.nil ?_
    refine PC.skip (loop1P.end ?_)
    refine PC.loop1 ?_
    refine PC.region ?_
    refine PO.runK 1 [0, 1] [0] (es := [(0, .ptr 0 0), (1, .val (.int .i64 a1)), (4, .ptr 1 0), (6, .val (.int .i64 6)), (7, .val (.bool true))]) (fr' := [⟨0, [.list 1 (List.map cI_u8 a0.b) (some 0)]⟩, ⟨0, [.val (.int .u8 (w_u8 (Int.fdiv (w_u64 (a1)) (2 ^ 56)))), .val (.int .u8 (w_u8 (Int.fdiv (w_u64 (a1)) (2 ^ 48)))), .val (.int .u8 (w_u8 (Int.fdiv (w_u64 (a1)) (2 ^ 40)))), .val (.int .u8 (w_u8 (Int.fdiv (w_u64 (a1)) (2 ^ 32)))), .val (.int .u8 (w_u8 (Int.fdiv (w_u64 (a1)) (2 ^ 24)))), .val (.int .u8 (w_u8 (Int.fdiv (w_u64 (a1)) (2 ^ 16)))), .val (.int .u8 0), .val (.int .u8 0)]⟩]) (tk' := [a0.b.length]) (by kernel_rfl) ?_
    refine PO.nil ?_
    refine PC.cond rfl (fun _ => ?_) (fun h9 => Bool.noConfusion h9)
    refine PC.noop ?_
    refine PC.block ?_
    refine PC.region ?_
    refine PO.runK 2 [0, 1] [0] (es := [(0, .ptr 0 0), (1, .val (.int .i64 a1)), (4, .ptr 1 0), (5, .val (.int .i64 6)), (6, .val (.int .i64 6))]) (fr' := [⟨0, [.list 1 (List.map cI_u8 a0.b) (some 0)]⟩, ⟨0, [.val (.int .u8 (w_u8 (Int.fdiv (w_u64 (a1)) (2 ^ 56)))), .val (.int .u8 (w_u8 (Int.fdiv (w_u64 (a1)) (2 ^ 48)))), .val (.int .u8 (w_u8 (Int.fdiv (w_u64 (a1)) (2 ^ 40)))), .val (.int .u8 (w_u8 (Int.fdiv (w_u64 (a1)) (2 ^ 32)))), .val (.int .u8 (w_u8 (Int.fdiv (w_u64 (a1)) (2 ^ 24)))), .val (.int .u8 (w_u8 (Int.fdiv (w_u64 (a1)) (2 ^ 16)))), .val (.int .u8 0), .val (.int .u8 0)]⟩]) (tk' := [a0.b.length]) (by kernel_rfl) ?_
    refine PO.nil ?_
    refine PC.lone ?_
    refine PC.region ?_
    refine PO.runK 8 [0, 1] [0] (es := [(0, .ptr 0 0), (1, .val (.int .i64 a1)), (4, .ptr 1 0), (6, .val (.int .i64 6)), (9, .val (.int .i64 6)), (16, .val (.int .u8 (w_u8 (Int.fdiv (w_u64 (a1)) (2 ^ 8)))))]) (fr' := [⟨0, [.list 1 (List.map cI_u8 a0.b) (some 0)]⟩, ⟨0, [.val (.int .u8 (w_u8 (Int.fdiv (w_u64 (a1)) (2 ^ 56)))), .val (.int .u8 (w_u8 (Int.fdiv (w_u64 (a1)) (2 ^ 48)))), .val (.int .u8 (w_u8 (Int.fdiv (w_u64 (a1)) (2 ^ 40)))), .val (.int .u8 (w_u8 (Int.fdiv (w_u64 (a1)) (2 ^ 32)))), .val (.int .u8 (w_u8 (Int.fdiv (w_u64 (a1)) (2 ^ 24)))), .val (.int .u8 (w_u8 (Int.fdiv (w_u64 (a1)) (2 ^ 16)))), .val (.int .u8 0), .val (.int .u8 0)]⟩]) (tk' := [a0.b.length]) (by kernel_rfl) ?_
    refine PO.same rfl (arrAddr_ok (i := 6) Try.underlying121 rfl rfl rfl rfl) rfl ?_
    refine PO.runK 1 [0, 1] [0] (es := [(0, .ptr 0 0), (1, .val (.int .i64 a1)), (4, .ptr 1 0), (6, .val (.int .i64 6))]) (fr' := [⟨0, [.list 1 (List.map cI_u8 a0.b) (some 0)]⟩, ⟨0, [.val (.int .u8 (w_u8 (Int.fdiv (w_u64 (a1)) (2 ^ 56)))), .val (.int .u8 (w_u8 (Int.fdiv (w_u64 (a1)) (2 ^ 48)))), .val (.int .u8 (w_u8 (Int.fdiv (w_u64 (a1)) (2 ^ 40)))), .val (.int .u8 (w_u8 (Int.fdiv (w_u64 (a1)) (2 ^ 32)))), .val (.int .u8 (w_u8 (Int.fdiv (w_u64 (a1)) (2 ^ 24)))), .val (.int .u8 (w_u8 (Int.fdiv (w_u64 (a1)) (2 ^ 16)))), .val (.int .u8 (w_u8 (Int.fdiv (w_u64 (a1)) (2 ^ 8)))), .val (.int .u8 0)]⟩]) (tk' := [a0.b.length]) (by kernel_rfl) ?_
    refine PO.nil ?_
    refine PC.skip (blockKP.end ?_)
    refine PC.lone ?_
    refine PC.region ?_
    refine PO.runK 2 [0, 1] [0] (es := [(0, .ptr 0 0), (1, .val (.int .i64 a1)), (4, .ptr 1 0), (6, .val (.int .i64 7))]) (fr' := [⟨0, [.list 1 (List.map cI_u8 a0.b) (some 0)]⟩, ⟨0, [.val (.int .u8 (w_u8 (Int.fdiv (w_u64 (a1)) (2 ^ 56)))), .val (.int .u8 (w_u8 (Int.fdiv (w_u64 (a1)) (2 ^ 48)))), .val (.int .u8 (w_u8 (Int.fdiv (w_u64 (a1)) (2 ^ 40)))), .val (.int .u8 (w_u8 (Int.fdiv (w_u64 (a1)) (2 ^ 32)))), .val (.int .u8 (w_u8 (Int.fdiv (w_u64 (a1)) (2 ^ 24)))), .val (.int .u8 (w_u8 (Int.fdiv (w_u64 (a1)) (2 ^ 16)))), .val (.int .u8 (w_u8 (Int.fdiv (w_u64 (a1)) (2 ^ 8)))), .val (.int .u8 0)]⟩]) (tk' := [a0.b.length]) (by kernel_rfl) ?_
    refine PO.nil ?_
    refine PC.skip (loop1P.end ?_)
    refine PC.loop1 ?_
    refine PC.region ?_
    refine PO.runK 1 [0, 1] [0] (es := [(0, .ptr 0 0), (1, .val (.int .i64 a1)), (4, .ptr 1 0), (6, .val (.int .i64 7)), (7, .val (.bool true))]) (fr' := [⟨0, [.list 1 (List.map cI_u8 a0.b) (some 0)]⟩, ⟨0, [.val (.int .u8 (w_u8 (Int.fdiv (w_u64 (a1)) (2 ^ 56)))), .val (.int .u8 (w_u8 (Int.fdiv (w_u64 (a1)) (2 ^ 48)))), .val (.int .u8 (w_u8 (Int.fdiv (w_u64 (a1)) (2 ^ 40)))), .val (.int .u8 (w_u8 (Int.fdiv (w_u64 (a1)) (2 ^ 32)))), .val (.int .u8 (w_u8 (Int.fdiv (w_u64 (a1)) (2 ^ 24)))), .val (.int .u8 (w_u8 (Int.fdiv (w_u64 (a1)) (2 ^ 16)))), .val (.int .u8 (w_u8 (Int.fdiv (w_u64 (a1)) (2 ^ 8)))), .val (.int .u8 0)]⟩]) (tk' := [a0.b.length]) (by kernel_rfl) ?_
    refine PO.nil ?_
    refine PC.cond rfl (fun _ => ?_) (fun h10 => Bool.noConfusion h10)
    refine PC.noop ?_
    refine PC.block ?_
    refine PC.region ?_
    refine PO.runK 2 [0, 1] [0] (es := [(0, .ptr 0 0), (1, .val (.int .i64 a1)), (4, .ptr 1 0), (5, .val (.int .i64 7)), (6, .val (.int .i64 7))]) (fr' := [⟨0, [.list 1 (List.map cI_u8 a0.b) (some 0)]⟩, ⟨0, [.val (.int .u8 (w_u8 (Int.fdiv (w_u64 (a1)) (2 ^ 56)))), .val (.int .u8 (w_u8 (Int.fdiv (w_u64 (a1)) (2 ^ 48)))), .val (.int .u8 (w_u8 (Int.fdiv (w_u64 (a1)) (2 ^ 40)))), .val (.int .u8 (w_u8 (Int.fdiv (w_u64 (a1)) (2 ^ 32)))), .val (.int .u8 (w_u8 (Int.fdiv (w_u64 (a1)) (2 ^ 24)))), .val (.int .u8 (w_u8 (Int.fdiv (w_u64 (a1)) (2 ^ 16)))), .val (.int .u8 (w_u8 (Int.fdiv (w_u64 (a1)) (2 ^ 8)))), .val (.int .u8 0)]⟩]) (tk' := [a0.b.length]) (by kernel_rfl) ?_
    refine PO.nil ?_
    refine PC.lone ?_
    refine PC.region ?_
    refine PO.runK 8 [0, 1] [0] (es := [(0, .ptr 0 0), (1, .val (.int .i64 a1)), (4, .ptr 1 0), (6, .val (.int .i64 7)), (9, .val (.int .i64 7)), (16, .val (.int .u8 (w_u8 (Int.fdiv (w_u64 (a1)) (2 ^ 0)))))]) (fr' := [⟨0, [.list 1 (List.map cI_u8 a0.b) (some 0)]⟩, ⟨0, [.val (.int .u8 (w_u8 (Int.fdiv (w_u64 (a1)) (2 ^ 56)))), .val (.int .u8 (w_u8 (Int.fdiv (w_u64 (a1)) (2 ^ 48)))), .val (.int .u8 (w_u8 (Int.fdiv (w_u64 (a1)) (2 ^ 40)))), .val (.int .u8 (w_u8 (Int.fdiv (w_u64 (a1)) (2 ^ 32)))), .val (.int .u8 (w_u8 (Int.fdiv (w_u64 (a1)) (2 ^ 24)))), .val (.int .u8 (w_u8 (Int.fdiv (w_u64 (a1)) (2 ^ 16)))), .val (.int .u8 (w_u8 (Int.fdiv (w_u64 (a1)) (2 ^ 8)))), .val (.int .u8 0)]⟩]) (tk' := [a0.b.length]) (by kernel_rfl) ?_
    refine PO.same rfl (arrAddr_ok (i := 7) Try.underlying121 rfl rfl rfl rfl) rfl ?_
    refine PO.runK 1 [0, 1] [0] (es := [(0, .ptr 0 0), (1, .val (.int .i64 a1)), (4, .ptr 1 0), (6, .val (.int .i64 7))]) (fr' := [⟨0, [.list 1 (List.map cI_u8 a0.b) (some 0)]⟩, ⟨0, [.val (.int .u8 (w_u8 (Int.fdiv (w_u64 (a1)) (2 ^ 56)))), .val (.int .u8 (w_u8 (Int.fdiv (w_u64 (a1)) (2 ^ 48)))), .val (.int .u8 (w_u8 (Int.fdiv (w_u64 (a1)) (2 ^ 40)))), .val (.int .u8 (w_u8 (Int.fdiv (w_u64 (a1)) (2 ^ 32)))), .val (.int .u8 (w_u8 (Int.fdiv (w_u64 (a1)) (2 ^ 24)))), .val (.int .u8 (w_u8 (Int.fdiv (w_u64 (a1)) (2 ^ 16)))), .val (.int .u8 (w_u8 (Int.fdiv (w_u64 (a1)) (2 ^ 8)))), .val (.int .u8 (w_u8 (Int.fdiv (w_u64 (a1)) (2 ^ 0))))]⟩]) (tk' := [a0.b.length]) (by kernel_rfl) ?_
    refine PO.nil ?_
    refine PC.skip (blockKP.end ?_)
    refine PC.lone ?_
    refine PC.region ?_
    refine PO.runK 2 [0, 1] [0] (es := [(0, .ptr 0 0), (1, .val (.int .i64 a1)), (4, .ptr 1 0), (6, .val (.int .i64 8))]) (fr' := [⟨0, [.list 1 (List.map cI_u8 a0.b) (some 0)]⟩, ⟨0, [.val (.int .u8 (w_u8 (Int.fdiv (w_u64 (a1)) (2 ^ 56)))), .val (.int .u8 (w_u8 (Int.fdiv (w_u64 (a1)) (2 ^ 48)))), .val (.int .u8 (w_u8 (Int.fdiv (w_u64 (a1)) (2 ^ 40)))), .val (.int .u8 (w_u8 (Int.fdiv (w_u64 (a1)) (2 ^ 32)))), .val (.int .u8 (w_u8 (Int.fdiv (w_u64 (a1)) (2 ^ 24)))), .val (.int .u8 (w_u8 (Int.fdiv (w_u64 (a1)) (2 ^ 16)))), .val (.int .u8 (w_u8 (Int.fdiv (w_u64 (a1)) (2 ^ 8)))), .val (.int .u8 (w_u8 (Int.fdiv (w_u64 (a1)) (2 ^ 0))))]⟩]) (tk' := [a0.b.length]) (by kernel_rfl) ?_
    refine PO.nil ?_
    refine PC.skip (loop1P.end ?_)
    refine PC.loop1 ?_
    refine PC.region ?_
    refine PO.runK 1 [0, 1] [0] (es := [(0, .ptr 0 0), (1, .val (.int .i64 a1)), (4, .ptr 1 0), (6, .val (.int .i64 8)), (7, .val (.bool false))]) (fr' := [⟨0, [.list 1 (List.map cI_u8 a0.b) (some 0)]⟩, ⟨0, [.val (.int .u8 (w_u8 (Int.fdiv (w_u64 (a1)) (2 ^ 56)))), .val (.int .u8 (w_u8 (Int.fdiv (w_u64 (a1)) (2 ^ 48)))), .val (.int .u8 (w_u8 (Int.fdiv (w_u64 (a1)) (2 ^ 40)))), .val (.int .u8 (w_u8 (Int.fdiv (w_u64 (a1)) (2 ^ 32)))), .val (.int .u8 (w_u8 (Int.fdiv (w_u64 (a1)) (2 ^ 24)))), .val (.int .u8 (w_u8 (Int.fdiv (w_u64 (a1)) (2 ^ 16)))), .val (.int .u8 (w_u8 (Int.fdiv (w_u64 (a1)) (2 ^ 8)))), .val (.int .u8 (w_u8 (Int.fdiv (w_u64 (a1)) (2 ^ 0))))]⟩]) (tk' := [a0.b.length]) (by kernel_rfl) ?_
    refine PO.nil ?_
    refine PC.cond rfl (fun h11 => Bool.noConfusion h11) (fun _ => ?_)
    exact PC.exit (loop1P.exit (blockJK.here ⟨Weak.one [0, 1] [0] (by kernel_rfl), Option.some.inj e2⟩))
  · rintro _ ⟨w12, rfl⟩
    refine PC.weak w12 ?_
    refine PC.lone ?_
    refine PC.region ?_
    refine PO.run 1 rfl ?_
    refine PO.same rfl (arrSlice0_ok Try.underlying121 rfl rfl) rfl ?_
    refine PO.runK 0 [0, 1] [0] (es := [(19, .ptr 0 0), (20, .sl 1 0 8 8)]) (fr' := [⟨0, [.list 1 (List.map cI_u8 a0.b) (some 0)]⟩, ⟨0, [.val (.int .u8 (w_u8 (Int.fdiv (w_u64 (a1)) (2 ^ 56)))), .val (.int .u8 (w_u8 (Int.fdiv (w_u64 (a1)) (2 ^ 48)))), .val (.int .u8 (w_u8 (Int.fdiv (w_u64 (a1)) (2 ^ 40)))), .val (.int .u8 (w_u8 (Int.fdiv (w_u64 (a1)) (2 ^ 32)))), .val (.int .u8 (w_u8 (Int.fdiv (w_u64 (a1)) (2 ^ 24)))), .val (.int .u8 (w_u8 (Int.fdiv (w_u64 (a1)) (2 ^ 16)))), .val (.int .u8 (w_u8 (Int.fdiv (w_u64 (a1)) (2 ^ 8)))), .val (.int .u8 (w_u8 (Int.fdiv (w_u64 (a1)) (2 ^ 0))))]⟩]) (tk' := [(a0.b).length]) (by kernel_rfl) ?_
    refine PO.same rfl (convSl_ok (l := [w_u8 (Int.fdiv (w_u64 (a1)) (2 ^ 56)), w_u8 (Int.fdiv (w_u64 (a1)) (2 ^ 48)), w_u8 (Int.fdiv (w_u64 (a1)) (2 ^ 40)), w_u8 (Int.fdiv (w_u64 (a1)) (2 ^ 32)), w_u8 (Int.fdiv (w_u64 (a1)) (2 ^ 24)), w_u8 (Int.fdiv (w_u64 (a1)) (2 ^ 16)), w_u8 (Int.fdiv (w_u64 (a1)) (2 ^ 8)), w_u8 (Int.fdiv (w_u64 (a1)) (2 ^ 0))]) Try.underlying32 Try.underlying9 Try.underlying5 rfl rfl rfl rfl) rfl ?_
    refine PO.runK 0 [0] [0] (es := [(19, .ptr 0 0), (21, .val (.string (strOf [w_u8 (Int.fdiv (w_u64 (a1)) (2 ^ 56)), w_u8 (Int.fdiv (w_u64 (a1)) (2 ^ 48)), w_u8 (Int.fdiv (w_u64 (a1)) (2 ^ 40)), w_u8 (Int.fdiv (w_u64 (a1)) (2 ^ 32)), w_u8 (Int.fdiv (w_u64 (a1)) (2 ^ 24)), w_u8 (Int.fdiv (w_u64 (a1)) (2 ^ 16)), w_u8 (Int.fdiv (w_u64 (a1)) (2 ^ 8)), w_u8 (Int.fdiv (w_u64 (a1)) (2 ^ 0))])))]) (fr' := [⟨0, [.list 1 (List.map cI_u8 a0.b) (some 0)]⟩]) (tk' := [(a0.b).length]) (by kernel_rfl) ?_
    refine bindK hF (fun r13 e14 hF => ?_)
    refine PO.call rfl rfl rfl rfl (ks := [0]) (ts := [0]) (fr1 := [⟨0, [.list 1 (List.map cI_u8 a0.b) (some 0)]⟩]) rfl rfl rfl ⟨⟨_, rfl, rfl, rfl⟩, trivial⟩ (L42 k a0 (strOf [w_u8 (Int.fdiv (w_u64 (a1)) (2 ^ 56)), w_u8 (Int.fdiv (w_u64 (a1)) (2 ^ 48)), w_u8 (Int.fdiv (w_u64 (a1)) (2 ^ 40)), w_u8 (Int.fdiv (w_u64 (a1)) (2 ^ 32)), w_u8 (Int.fdiv (w_u64 (a1)) (2 ^ 24)), w_u8 (Int.fdiv (w_u64 (a1)) (2 ^ 16)), w_u8 (Int.fdiv (w_u64 (a1)) (2 ^ 8)), w_u8 (Int.fdiv (w_u64 (a1)) (2 ^ 0))]) _ e14) ?_
    rintro _ _ _ ⟨rfl, rfl, rfl⟩
    refine ⟨_, _, rfl, rfl, ?_⟩
    refine PO.nil ?_
    have hq := Option.some.inj hF
    subst hq
    exact PC.skip (retSN [0] [0] (by kernel_rfl) (.refl _) ⟨rfl, rfl, rfl⟩)

/-! 44 (*platen/answer.writer).truth -/
def F44 (k : Nat) (a0 : Gwriter) (a1 : Bool) : Option Gwriter :=
bif a1 then ((F42 k a0 (ByteArray.mk #[1])).bind fun r2 =>
some r2) else ((F42 k a0 (ByteArray.mk #[0])).bind fun r4 =>
some r4)
theorem L44 (k : Nat) (a0 : Gwriter) (a1 : Bool) (r : Gwriter) (hF : F44 k a0 a1 = some r) : PF Try.prog orc 44 [.ptr 0 0, .val (.bool a1)] [⟨0, [.list 1 (List.map cI_u8 a0.b) (some 0)]⟩] [a0.b.length] (fun p fr tk => p = .tup [] ∧ fr = [⟨0, [.list 1 (List.map cI_u8 r.b) (some 0)]⟩] ∧ tk = [r.b.length]) := by
  unfold F44 at hF
  refine PF.enterS Try.func44 rfl rfl rfl (by kernel_rfl) rfl ?_
  refine PC.assoc ?_
  refine PC.run (n := 2) rfl ?_
  refine PC.cond rfl (fun h1 => ?_) (fun h1 => ?_)
  · have hF := bif_t h1 hF
    refine PC.assoc ?_
    refine PC.region ?_
    refine PO.run 1 rfl ?_
    refine bindK hF (fun r2 e3 hF => ?_)
    refine PO.call rfl rfl rfl rfl (ks := [0]) (ts := [0]) (fr1 := [⟨0, [.list 1 (List.map cI_u8 a0.b) (some 0)]⟩]) rfl rfl rfl ⟨⟨_, rfl, rfl, rfl⟩, trivial⟩ (L42 k a0 (ByteArray.mk #[1]) _ e3) ?_
    rintro _ _ _ ⟨rfl, rfl, rfl⟩
    refine ⟨_, _, rfl, rfl, ?_⟩
    refine PO.nil ?_
    have hq := Option.some.inj hF
    subst hq
    exact PC.ret (retSK [0] [0] (by kernel_rfl) (.refl _) ⟨rfl, rfl, rfl⟩)
  · have hF := bif_f h1 hF
    refine PC.noop ?_
    refine PC.lone ?_
    refine PC.region ?_
    refine PO.run 1 rfl ?_
    refine bindK hF (fun r4 e5 hF => ?_)
    refine PO.call rfl rfl rfl rfl (ks := [0]) (ts := [0]) (fr1 := [⟨0, [.list 1 (List.map cI_u8 a0.b) (some 0)]⟩]) rfl rfl rfl ⟨⟨_, rfl, rfl, rfl⟩, trivial⟩ (L42 k a0 (ByteArray.mk #[0]) _ e5) ?_
    rintro _ _ _ ⟨rfl, rfl, rfl⟩
    refine ⟨_, _, rfl, rfl, ?_⟩
    refine PO.nil ?_
    have hq := Option.some.inj hF
    subst hq
    exact PC.skip (retSN [0] [0] (by kernel_rfl) (.refl _) ⟨rfl, rfl, rfl⟩)

/-! 82 platen/answer.numbers -/
def F82 (k : Nat) (a0 : GBox) : Option GT122 :=
some (GT122.mk a0.x a0.y a0.size a0.rune a0.width a0.height a0.depth a0.from_ a0.to_)
theorem L82 (k : Nat) (a0 : GBox) (r : GT122) (hF : F82 k a0 = some r) : PF Try.prog orc 82 [.agg (cGBox a0)] [] [] (fun p fr tk => p = .agg (cGT122 r) ∧ fr = [] ∧ tk = []) := by
  unfold F82 at hF
  refine PF.enterS Try.func82 rfl rfl rfl (by kernel_rfl) rfl ?_
  refine PC.region ?_
  refine PO.runK 2 [0, 1] [] (es := [(1, .ptr 0 0), (2, .ptr 1 0)]) (fr' := [⟨0, (cGBox a0)⟩, ⟨0, [.val (.int .i64 0), .val (.int .i64 0), .val (.int .i64 0), .val (.int .i64 0), .val (.int .i64 0), .val (.int .i64 0), .val (.int .i64 0), .val (.int .i64 0), .val (.int .i64 0)]⟩]) (tk' := []) (by kernel_rfl) ?_
  refine PO.nil ?_
  refine PC.region ?_
  refine PO.runK 20 [1] [] (es := [(2, .ptr 0 0)]) (fr' := [⟨0, [.val (.int .i64 a0.x), .val (.int .i64 a0.y), .val (.int .i64 a0.size), .val (.int .i64 a0.rune), .val (.int .i64 a0.width), .val (.int .i64 a0.height), .val (.int .i64 a0.depth), .val (.int .i64 a0.from_), .val (.int .i64 a0.to_)]⟩]) (tk' := []) (by kernel_rfl) ?_
  refine PO.nil ?_
  have hq := Option.some.inj hF
  subst hq
  exact PC.ret' (retSK [] [] (by kernel_rfl) (.refl _) ⟨rfl, rfl, rfl⟩)

/-! 83 (*platen/answer.writer).text -/
def F83 (k : Nat) (a0 : Gwriter) (a1 : ByteArray) : Option Gwriter :=
(F43 k a0 (a1.size : Int)).bind fun r1 =>
(F42 k r1 a1).bind fun r3 =>
some r3
theorem L83 (k : Nat) (a0 : Gwriter) (a1 : ByteArray) (r : Gwriter) (hF : F83 k a0 a1 = some r) : PF Try.prog orc 83 [.ptr 0 0, .val (.string a1)] [⟨0, [.list 1 (List.map cI_u8 a0.b) (some 0)]⟩] [a0.b.length] (fun p fr tk => p = .tup [] ∧ fr = [⟨0, [.list 1 (List.map cI_u8 r.b) (some 0)]⟩] ∧ tk = [r.b.length]) := by
  unfold F83 at hF
  refine PF.enterS Try.func83 rfl rfl rfl (by kernel_rfl) rfl ?_
  refine PC.region ?_
  refine PO.run 2 rfl ?_
  refine PO.same rfl (lenStr_ok Try.underlying9 rfl) rfl ?_
  refine PO.runK 0 [0] [0] (es := [(0, .ptr 0 0), (1, .val (.string a1)), (4, .ptr 0 0), (6, .val (.int .i64 (a1.size : Int)))]) (fr' := [⟨0, [.list 1 (List.map cI_u8 a0.b) (some 0)]⟩]) (tk' := [a0.b.length]) (by kernel_rfl) ?_
  refine bindK hF (fun r1 e2 hF => ?_)
  refine PO.call rfl rfl rfl rfl (ks := [0]) (ts := [0]) (fr1 := [⟨0, [.list 1 (List.map cI_u8 a0.b) (some 0)]⟩]) rfl rfl rfl ⟨⟨_, rfl, rfl, rfl⟩, trivial⟩ (L43 k a0 (a1.size : Int) _ e2) ?_
  rintro _ _ _ ⟨rfl, rfl, rfl⟩
  refine ⟨_, _, rfl, rfl, ?_⟩
  refine PO.nil ?_
  refine PC.lone ?_
  refine PC.region ?_
  refine PO.run 2 rfl ?_
  refine bindK hF (fun r3 e4 hF => ?_)
  refine PO.call rfl rfl rfl rfl (ks := [0]) (ts := [0]) (fr1 := [⟨0, [.list 1 (List.map cI_u8 r1.b) (some 0)]⟩]) rfl rfl rfl ⟨⟨_, rfl, rfl, rfl⟩, trivial⟩ (L42 k r1 a1 _ e4) ?_
  rintro _ _ _ ⟨rfl, rfl, rfl⟩
  refine ⟨_, _, rfl, rfl, ?_⟩
  refine PO.nil ?_
  have hq := Option.some.inj hF
  subst hq
  exact PC.skip (retSN [0] [0] (by kernel_rfl) (.refl _) ⟨rfl, rfl, rfl⟩)

/-! 45 (*platen/answer.writer).box -/
def F45 (k : Nat) (a0 : Gwriter) (a1 : GBox) : Option Gwriter :=
(F82 k a1).bind fun r1 =>
(F43 k a0 r1.x_0).bind fun r3 =>
(F43 k r3 r1.x_1).bind fun r5 =>
(F83 k r5 a1.font).bind fun r7 =>
Option.bind (α := List Int) ((F43 k r7 r1.x_2).bind fun r12 =>
(F43 k r12 r1.x_3).bind fun r15 =>
(F43 k r15 r1.x_4).bind fun r18 =>
(F43 k r18 r1.x_5).bind fun r21 =>
(F43 k r21 r1.x_6).bind fun r24 =>
(F43 k r24 r1.x_7).bind fun r27 =>
(F43 k r27 r1.x_8).bind fun r30 =>
some r30.b) fun (v1 : List Int) =>
some (Gwriter.mk v1)
theorem L45 (k : Nat) (a0 : Gwriter) (a1 : GBox) (r : Gwriter) (hF : F45 k a0 a1 = some r) : PF Try.prog orc 45 [.ptr 0 0, .agg (cGBox a1)] [⟨0, [.list 1 (List.map cI_u8 a0.b) (some 0)]⟩] [a0.b.length] (fun p fr tk => p = .tup [] ∧ fr = [⟨0, [.list 1 (List.map cI_u8 r.b) (some 0)]⟩] ∧ tk = [r.b.length]) := by
  unfold F45 at hF
  refine PF.enterS Try.func45 rfl rfl rfl (by kernel_rfl) rfl ?_
  refine PC.region ?_
  refine PO.runK 1 [0, 1] [0] (es := [(0, .ptr 0 0), (3, .ptr 1 0)]) (fr' := [⟨0, [.list 1 (List.map cI_u8 a0.b) (some 0)]⟩, ⟨0, (cGBox a1)⟩]) (tk' := [a0.b.length]) (by kernel_rfl) ?_
  refine PO.nil ?_
  refine PC.region ?_
  refine PO.run 1 rfl ?_
  refine bindK hF (fun r1 e2 hF => ?_)
  refine PO.call rfl rfl rfl rfl (ks := []) (ts := []) (fr1 := []) rfl rfl rfl trivial (L82 k a1 _ e2) ?_
  rintro _ _ _ ⟨rfl, rfl, rfl⟩
  refine ⟨_, _, rfl, rfl, ?_⟩
  refine PO.runK 2 [0, 1, 2] [0] (es := [(0, .ptr 0 0), (3, .ptr 1 0), (4, .ptr 2 0)]) (fr' := [⟨0, [.list 1 (List.map cI_u8 a0.b) (some 0)]⟩, ⟨0, (cGBox a1)⟩, ⟨0, (cGT122 r1)⟩]) (tk' := [a0.b.length]) (by kernel_rfl) ?_
  refine PO.nil ?_
  refine PC.region ?_
  refine PO.run 1 rfl ?_
  refine PO.same rfl (arrAddr_ok (i := 0) Try.underlying122 rfl rfl rfl rfl) rfl ?_
  refine PO.runK 1 [0, 1, 2] [0] (es := [(0, .ptr 0 0), (3, .ptr 1 0), (4, .ptr 2 0), (9, .ptr 0 0), (11, .val (.int .i64 r1.x_0))]) (fr' := [⟨0, [.list 1 (List.map cI_u8 a0.b) (some 0)]⟩, ⟨0, (cGBox a1)⟩, ⟨0, (cGT122 r1)⟩]) (tk' := [a0.b.length]) (by kernel_rfl) ?_
  refine bindK hF (fun r3 e4 hF => ?_)
  refine PO.call rfl rfl rfl rfl (ks := [0]) (ts := [0]) (fr1 := [⟨0, [.list 1 (List.map cI_u8 a0.b) (some 0)]⟩]) rfl rfl rfl ⟨⟨_, rfl, rfl, rfl⟩, trivial⟩ (L43 k a0 r1.x_0 _ e4) ?_
  rintro _ _ _ ⟨rfl, rfl, rfl⟩
  refine ⟨_, _, rfl, rfl, ?_⟩
  refine PO.nil ?_
  refine PC.region ?_
  refine PO.run 1 rfl ?_
  refine PO.same rfl (arrAddr_ok (i := 1) Try.underlying122 rfl rfl rfl rfl) rfl ?_
  refine PO.runK 1 [0, 1, 2] [0] (es := [(0, .ptr 0 0), (3, .ptr 1 0), (4, .ptr 2 0), (13, .ptr 0 0), (15, .val (.int .i64 r1.x_1))]) (fr' := [⟨0, [.list 1 (List.map cI_u8 r3.b) (some 0)]⟩, ⟨0, (cGBox a1)⟩, ⟨0, (cGT122 r1)⟩]) (tk' := [r3.b.length]) (by kernel_rfl) ?_
  refine bindK hF (fun r5 e6 hF => ?_)
  refine PO.call rfl rfl rfl rfl (ks := [0]) (ts := [0]) (fr1 := [⟨0, [.list 1 (List.map cI_u8 r3.b) (some 0)]⟩]) rfl rfl rfl ⟨⟨_, rfl, rfl, rfl⟩, trivial⟩ (L43 k r3 r1.x_1 _ e6) ?_
  rintro _ _ _ ⟨rfl, rfl, rfl⟩
  refine ⟨_, _, rfl, rfl, ?_⟩
  refine PO.nil ?_
  refine PC.region ?_
  refine PO.run 3 rfl ?_
  refine bindK hF (fun r7 e8 hF => ?_)
  refine PO.call rfl rfl rfl rfl (ks := [0]) (ts := [0]) (fr1 := [⟨0, [.list 1 (List.map cI_u8 r5.b) (some 0)]⟩]) rfl rfl rfl ⟨⟨_, rfl, rfl, rfl⟩, trivial⟩ (L83 k r5 a1.font _ e8) ?_
  rintro _ _ _ ⟨rfl, rfl, rfl⟩
  refine ⟨_, _, rfl, rfl, ?_⟩
  refine PO.nil ?_
  refine PC.region ?_
  refine PO.same rfl (arrSlice_ok (l := 2) Try.underlying122 rfl rfl rfl rfl) rfl ?_
  refine PO.runK 0 [0, 2] [0] (es := [(0, .ptr 0 0), (21, .sl 1 2 7 7)]) (fr' := [⟨0, [.list 1 (List.map cI_u8 r7.b) (some 0)]⟩, ⟨0, (cGT122 r1)⟩]) (tk' := [r7.b.length]) (by kernel_rfl) ?_
  refine PO.same rfl (lenSl_ok Try.underlying43 rfl) rfl ?_
  refine PO.run 1 rfl ?_
  refine PO.nil ?_
  refine PC.lone ?_
  refine bindK hF (fun x9 e10 hF => ?_)
  refine PC.blockJ (fun s => ∃ (v1 : List Int), Weak s (PS.of 31 [] [⟨0, [.list 1 (List.map cI_u8 v1) (some 0)]⟩] [v1.length] 1 1) ∧ v1 = x9) ?_ ?_
  · refine PC.loop1 ?_
    refine PC.region ?_
    refine PO.runK 1 [0, 1] [0] (es := [(0, .ptr 0 0), (21, .sl 1 2 7 7), (22, .val (.int .i64 7)), (23, .val (.int .i64 0)), (24, .val (.bool true))]) (fr' := [⟨0, [.list 1 (List.map cI_u8 r7.b) (some 0)]⟩, ⟨0, (cGT122 r1)⟩]) (tk' := [r7.b.length]) (by kernel_rfl) ?_
    refine PO.nil ?_
    refine PC.cond rfl (fun _ => ?_) (fun h11 => Bool.noConfusion h11)
    refine PC.noop ?_
    refine PC.block ?_
    refine PC.region ?_
    refine PO.same rfl (idxSl_ok (i := 0) Try.underlying43 rfl rfl rfl rfl) rfl ?_
    refine PO.runK 2 [0, 1] [0] (es := [(0, .ptr 0 0), (6, .val (.int .i64 r1.x_2)), (21, .sl 1 2 7 7), (22, .val (.int .i64 7)), (23, .val (.int .i64 0))]) (fr' := [⟨0, [.list 1 (List.map cI_u8 r7.b) (some 0)]⟩, ⟨0, (cGT122 r1)⟩]) (tk' := [r7.b.length]) (by kernel_rfl) ?_
    refine PO.nil ?_
    refine PC.lone ?_
    refine PC.region ?_
    refine PO.runK 2 [0, 1] [0] (es := [(0, .ptr 0 0), (21, .sl 1 2 7 7), (22, .val (.int .i64 7)), (23, .val (.int .i64 0)), (27, .ptr 0 0), (28, .val (.int .i64 r1.x_2))]) (fr' := [⟨0, [.list 1 (List.map cI_u8 r7.b) (some 0)]⟩, ⟨0, (cGT122 r1)⟩]) (tk' := [r7.b.length]) (by kernel_rfl) ?_
    refine bindK e10 (fun r12 e13 e10 => ?_)
    refine PO.call rfl rfl rfl rfl (ks := [0]) (ts := [0]) (fr1 := [⟨0, [.list 1 (List.map cI_u8 r7.b) (some 0)]⟩]) rfl rfl rfl ⟨⟨_, rfl, rfl, rfl⟩, trivial⟩ (L43 k r7 r1.x_2 _ e13) ?_
    rintro _ _ _ ⟨rfl, rfl, rfl⟩
    refine ⟨_, _, rfl, rfl, ?_⟩
    refine PO.nil ?_
    refine PC.skip (blockKP.end ?_)
    refine PC.lone ?_
    refine PC.region ?_
    refine PO.runK 2 [0, 1] [0] (es := [(0, .ptr 0 0), (21, .sl 1 2 7 7), (22, .val (.int .i64 7)), (23, .val (.int .i64 1))]) (fr' := [⟨0, [.list 1 (List.map cI_u8 r12.b) (some 0)]⟩, ⟨0, (cGT122 r1)⟩]) (tk' := [r12.b.length]) (by kernel_rfl) ?_
    refine PO.nil ?_
    refine PC.skip (loop1P.end ?_)
    refine PC.loop1 ?_
    refine PC.region ?_
    refine PO.runK 1 [0, 1] [0] (es := [(0, .ptr 0 0), (21, .sl 1 2 7 7), (22, .val (.int .i64 7)), (23, .val (.int .i64 1)), (24, .val (.bool true))]) (fr' := [⟨0, [.list 1 (List.map cI_u8 r12.b) (some 0)]⟩, ⟨0, (cGT122 r1)⟩]) (tk' := [r12.b.length]) (by kernel_rfl) ?_
    refine PO.nil ?_
    refine PC.cond rfl (fun _ => ?_) (fun h14 => Bool.noConfusion h14)
    refine PC.noop ?_
    refine PC.block ?_
    refine PC.region ?_
    refine PO.same rfl (idxSl_ok (i := 1) Try.underlying43 rfl rfl rfl rfl) rfl ?_
    refine PO.runK 2 [0, 1] [0] (es := [(0, .ptr 0 0), (6, .val (.int .i64 r1.x_3)), (21, .sl 1 2 7 7), (22, .val (.int .i64 7)), (23, .val (.int .i64 1))]) (fr' := [⟨0, [.list 1 (List.map cI_u8 r12.b) (some 0)]⟩, ⟨0, (cGT122 r1)⟩]) (tk' := [r12.b.length]) (by kernel_rfl) ?_
    refine PO.nil ?_
    refine PC.lone ?_
    refine PC.region ?_
    refine PO.runK 2 [0, 1] [0] (es := [(0, .ptr 0 0), (21, .sl 1 2 7 7), (22, .val (.int .i64 7)), (23, .val (.int .i64 1)), (27, .ptr 0 0), (28, .val (.int .i64 r1.x_3))]) (fr' := [⟨0, [.list 1 (List.map cI_u8 r12.b) (some 0)]⟩, ⟨0, (cGT122 r1)⟩]) (tk' := [r12.b.length]) (by kernel_rfl) ?_
    refine bindK e10 (fun r15 e16 e10 => ?_)
    refine PO.call rfl rfl rfl rfl (ks := [0]) (ts := [0]) (fr1 := [⟨0, [.list 1 (List.map cI_u8 r12.b) (some 0)]⟩]) rfl rfl rfl ⟨⟨_, rfl, rfl, rfl⟩, trivial⟩ (L43 k r12 r1.x_3 _ e16) ?_
    rintro _ _ _ ⟨rfl, rfl, rfl⟩
    refine ⟨_, _, rfl, rfl, ?_⟩
    refine PO.nil ?_
    refine PC.skip (blockKP.end ?_)
    refine PC.lone ?_
    refine PC.region ?_
    refine PO.runK 2 [0, 1] [0] (es := [(0, .ptr 0 0), (21, .sl 1 2 7 7), (22, .val (.int .i64 7)), (23, .val (.int .i64 2))]) (fr' := [⟨0, [.list 1 (List.map cI_u8 r15.b) (some 0)]⟩, ⟨0, (cGT122 r1)⟩]) (tk' := [r15.b.length]) (by kernel_rfl) ?_
    refine PO.nil ?_
    refine PC.skip (loop1P.end ?_)
    refine PC.loop1 ?_
    refine PC.region ?_
    refine PO.runK 1 [0, 1] [0] (es := [(0, .ptr 0 0), (21, .sl 1 2 7 7), (22, .val (.int .i64 7)), (23, .val (.int .i64 2)), (24, .val (.bool true))]) (fr' := [⟨0, [.list 1 (List.map cI_u8 r15.b) (some 0)]⟩, ⟨0, (cGT122 r1)⟩]) (tk' := [r15.b.length]) (by kernel_rfl) ?_
    refine PO.nil ?_
    refine PC.cond rfl (fun _ => ?_) (fun h17 => Bool.noConfusion h17)
    refine PC.noop ?_
    refine PC.block ?_
    refine PC.region ?_
    refine PO.same rfl (idxSl_ok (i := 2) Try.underlying43 rfl rfl rfl rfl) rfl ?_
    refine PO.runK 2 [0, 1] [0] (es := [(0, .ptr 0 0), (6, .val (.int .i64 r1.x_4)), (21, .sl 1 2 7 7), (22, .val (.int .i64 7)), (23, .val (.int .i64 2))]) (fr' := [⟨0, [.list 1 (List.map cI_u8 r15.b) (some 0)]⟩, ⟨0, (cGT122 r1)⟩]) (tk' := [r15.b.length]) (by kernel_rfl) ?_
    refine PO.nil ?_
    refine PC.lone ?_
    refine PC.region ?_
    refine PO.runK 2 [0, 1] [0] (es := [(0, .ptr 0 0), (21, .sl 1 2 7 7), (22, .val (.int .i64 7)), (23, .val (.int .i64 2)), (27, .ptr 0 0), (28, .val (.int .i64 r1.x_4))]) (fr' := [⟨0, [.list 1 (List.map cI_u8 r15.b) (some 0)]⟩, ⟨0, (cGT122 r1)⟩]) (tk' := [r15.b.length]) (by kernel_rfl) ?_
    refine bindK e10 (fun r18 e19 e10 => ?_)
    refine PO.call rfl rfl rfl rfl (ks := [0]) (ts := [0]) (fr1 := [⟨0, [.list 1 (List.map cI_u8 r15.b) (some 0)]⟩]) rfl rfl rfl ⟨⟨_, rfl, rfl, rfl⟩, trivial⟩ (L43 k r15 r1.x_4 _ e19) ?_
    rintro _ _ _ ⟨rfl, rfl, rfl⟩
    refine ⟨_, _, rfl, rfl, ?_⟩
    refine PO.nil ?_
    refine PC.skip (blockKP.end ?_)
    refine PC.lone ?_
    refine PC.region ?_
    refine PO.runK 2 [0, 1] [0] (es := [(0, .ptr 0 0), (21, .sl 1 2 7 7), (22, .val (.int .i64 7)), (23, .val (.int .i64 3))]) (fr' := [⟨0, [.list 1 (List.map cI_u8 r18.b) (some 0)]⟩, ⟨0, (cGT122 r1)⟩]) (tk' := [r18.b.length]) (by kernel_rfl) ?_
    refine PO.nil ?_
    refine PC.skip (loop1P.end ?_)
    refine PC.loop1 ?_
    refine PC.region ?_
    refine PO.runK 1 [0, 1] [0] (es := [(0, .ptr 0 0), (21, .sl 1 2 7 7), (22, .val (.int .i64 7)), (23, .val (.int .i64 3)), (24, .val (.bool true))]) (fr' := [⟨0, [.list 1 (List.map cI_u8 r18.b) (some 0)]⟩, ⟨0, (cGT122 r1)⟩]) (tk' := [r18.b.length]) (by kernel_rfl) ?_
    refine PO.nil ?_
    refine PC.cond rfl (fun _ => ?_) (fun h20 => Bool.noConfusion h20)
    refine PC.noop ?_
    refine PC.block ?_
    refine PC.region ?_
    refine PO.same rfl (idxSl_ok (i := 3) Try.underlying43 rfl rfl rfl rfl) rfl ?_
    refine PO.runK 2 [0, 1] [0] (es := [(0, .ptr 0 0), (6, .val (.int .i64 r1.x_5)), (21, .sl 1 2 7 7), (22, .val (.int .i64 7)), (23, .val (.int .i64 3))]) (fr' := [⟨0, [.list 1 (List.map cI_u8 r18.b) (some 0)]⟩, ⟨0, (cGT122 r1)⟩]) (tk' := [r18.b.length]) (by kernel_rfl) ?_
    refine PO.nil ?_
    refine PC.lone ?_
    refine PC.region ?_
    refine PO.runK 2 [0, 1] [0] (es := [(0, .ptr 0 0), (21, .sl 1 2 7 7), (22, .val (.int .i64 7)), (23, .val (.int .i64 3)), (27, .ptr 0 0), (28, .val (.int .i64 r1.x_5))]) (fr' := [⟨0, [.list 1 (List.map cI_u8 r18.b) (some 0)]⟩, ⟨0, (cGT122 r1)⟩]) (tk' := [r18.b.length]) (by kernel_rfl) ?_
    refine bindK e10 (fun r21 e22 e10 => ?_)
    refine PO.call rfl rfl rfl rfl (ks := [0]) (ts := [0]) (fr1 := [⟨0, [.list 1 (List.map cI_u8 r18.b) (some 0)]⟩]) rfl rfl rfl ⟨⟨_, rfl, rfl, rfl⟩, trivial⟩ (L43 k r18 r1.x_5 _ e22) ?_
    rintro _ _ _ ⟨rfl, rfl, rfl⟩
    refine ⟨_, _, rfl, rfl, ?_⟩
    refine PO.nil ?_
    refine PC.skip (blockKP.end ?_)
    refine PC.lone ?_
    refine PC.region ?_
    refine PO.runK 2 [0, 1] [0] (es := [(0, .ptr 0 0), (21, .sl 1 2 7 7), (22, .val (.int .i64 7)), (23, .val (.int .i64 4))]) (fr' := [⟨0, [.list 1 (List.map cI_u8 r21.b) (some 0)]⟩, ⟨0, (cGT122 r1)⟩]) (tk' := [r21.b.length]) (by kernel_rfl) ?_
    refine PO.nil ?_
    refine PC.skip (loop1P.end ?_)
    refine PC.loop1 ?_
    refine PC.region ?_
    refine PO.runK 1 [0, 1] [0] (es := [(0, .ptr 0 0), (21, .sl 1 2 7 7), (22, .val (.int .i64 7)), (23, .val (.int .i64 4)), (24, .val (.bool true))]) (fr' := [⟨0, [.list 1 (List.map cI_u8 r21.b) (some 0)]⟩, ⟨0, (cGT122 r1)⟩]) (tk' := [r21.b.length]) (by kernel_rfl) ?_
    refine PO.nil ?_
    refine PC.cond rfl (fun _ => ?_) (fun h23 => Bool.noConfusion h23)
    refine PC.noop ?_
    refine PC.block ?_
    refine PC.region ?_
    refine PO.same rfl (idxSl_ok (i := 4) Try.underlying43 rfl rfl rfl rfl) rfl ?_
    refine PO.runK 2 [0, 1] [0] (es := [(0, .ptr 0 0), (6, .val (.int .i64 r1.x_6)), (21, .sl 1 2 7 7), (22, .val (.int .i64 7)), (23, .val (.int .i64 4))]) (fr' := [⟨0, [.list 1 (List.map cI_u8 r21.b) (some 0)]⟩, ⟨0, (cGT122 r1)⟩]) (tk' := [r21.b.length]) (by kernel_rfl) ?_
    refine PO.nil ?_
    refine PC.lone ?_
    refine PC.region ?_
    refine PO.runK 2 [0, 1] [0] (es := [(0, .ptr 0 0), (21, .sl 1 2 7 7), (22, .val (.int .i64 7)), (23, .val (.int .i64 4)), (27, .ptr 0 0), (28, .val (.int .i64 r1.x_6))]) (fr' := [⟨0, [.list 1 (List.map cI_u8 r21.b) (some 0)]⟩, ⟨0, (cGT122 r1)⟩]) (tk' := [r21.b.length]) (by kernel_rfl) ?_
    refine bindK e10 (fun r24 e25 e10 => ?_)
    refine PO.call rfl rfl rfl rfl (ks := [0]) (ts := [0]) (fr1 := [⟨0, [.list 1 (List.map cI_u8 r21.b) (some 0)]⟩]) rfl rfl rfl ⟨⟨_, rfl, rfl, rfl⟩, trivial⟩ (L43 k r21 r1.x_6 _ e25) ?_
    rintro _ _ _ ⟨rfl, rfl, rfl⟩
    refine ⟨_, _, rfl, rfl, ?_⟩
    refine PO.nil ?_
    refine PC.skip (blockKP.end ?_)
    refine PC.lone ?_
    refine PC.region ?_
    refine PO.runK 2 [0, 1] [0] (es := [(0, .ptr 0 0), (21, .sl 1 2 7 7), (22, .val (.int .i64 7)), (23, .val (.int .i64 5))]) (fr' := [⟨0, [.list 1 (List.map cI_u8 r24.b) (some 0)]⟩, ⟨0, (cGT122 r1)⟩]) (tk' := [r24.b.length]) (by kernel_rfl) ?_
    refine PO.nil ?_
    refine PC.skip (loop1P.end ?_)
    refine PC.loop1 ?_
    refine PC.region ?_
    refine PO.runK 1 [0, 1] [0] (es := [(0, .ptr 0 0), (21, .sl 1 2 7 7), (22, .val (.int .i64 7)), (23, .val (.int .i64 5)), (24, .val (.bool true))]) (fr' := [⟨0, [.list 1 (List.map cI_u8 r24.b) (some 0)]⟩, ⟨0, (cGT122 r1)⟩]) (tk' := [r24.b.length]) (by kernel_rfl) ?_
    refine PO.nil ?_
    refine PC.cond rfl (fun _ => ?_) (fun h26 => Bool.noConfusion h26)
    refine PC.noop ?_
    refine PC.block ?_
    refine PC.region ?_
    refine PO.same rfl (idxSl_ok (i := 5) Try.underlying43 rfl rfl rfl rfl) rfl ?_
    refine PO.runK 2 [0, 1] [0] (es := [(0, .ptr 0 0), (6, .val (.int .i64 r1.x_7)), (21, .sl 1 2 7 7), (22, .val (.int .i64 7)), (23, .val (.int .i64 5))]) (fr' := [⟨0, [.list 1 (List.map cI_u8 r24.b) (some 0)]⟩, ⟨0, (cGT122 r1)⟩]) (tk' := [r24.b.length]) (by kernel_rfl) ?_
    refine PO.nil ?_
    refine PC.lone ?_
    refine PC.region ?_
    refine PO.runK 2 [0, 1] [0] (es := [(0, .ptr 0 0), (21, .sl 1 2 7 7), (22, .val (.int .i64 7)), (23, .val (.int .i64 5)), (27, .ptr 0 0), (28, .val (.int .i64 r1.x_7))]) (fr' := [⟨0, [.list 1 (List.map cI_u8 r24.b) (some 0)]⟩, ⟨0, (cGT122 r1)⟩]) (tk' := [r24.b.length]) (by kernel_rfl) ?_
    refine bindK e10 (fun r27 e28 e10 => ?_)
    refine PO.call rfl rfl rfl rfl (ks := [0]) (ts := [0]) (fr1 := [⟨0, [.list 1 (List.map cI_u8 r24.b) (some 0)]⟩]) rfl rfl rfl ⟨⟨_, rfl, rfl, rfl⟩, trivial⟩ (L43 k r24 r1.x_7 _ e28) ?_
    rintro _ _ _ ⟨rfl, rfl, rfl⟩
    refine ⟨_, _, rfl, rfl, ?_⟩
    refine PO.nil ?_
    refine PC.skip (blockKP.end ?_)
    refine PC.lone ?_
    refine PC.region ?_
    refine PO.runK 2 [0, 1] [0] (es := [(0, .ptr 0 0), (21, .sl 1 2 7 7), (22, .val (.int .i64 7)), (23, .val (.int .i64 6))]) (fr' := [⟨0, [.list 1 (List.map cI_u8 r27.b) (some 0)]⟩, ⟨0, (cGT122 r1)⟩]) (tk' := [r27.b.length]) (by kernel_rfl) ?_
    refine PO.nil ?_
    refine PC.skip (loop1P.end ?_)
    refine PC.loop1 ?_
    refine PC.region ?_
    refine PO.runK 1 [0, 1] [0] (es := [(0, .ptr 0 0), (21, .sl 1 2 7 7), (22, .val (.int .i64 7)), (23, .val (.int .i64 6)), (24, .val (.bool true))]) (fr' := [⟨0, [.list 1 (List.map cI_u8 r27.b) (some 0)]⟩, ⟨0, (cGT122 r1)⟩]) (tk' := [r27.b.length]) (by kernel_rfl) ?_
    refine PO.nil ?_
    refine PC.cond rfl (fun _ => ?_) (fun h29 => Bool.noConfusion h29)
    refine PC.noop ?_
    refine PC.block ?_
    refine PC.region ?_
    refine PO.same rfl (idxSl_ok (i := 6) Try.underlying43 rfl rfl rfl rfl) rfl ?_
    refine PO.runK 2 [0, 1] [0] (es := [(0, .ptr 0 0), (6, .val (.int .i64 r1.x_8)), (21, .sl 1 2 7 7), (22, .val (.int .i64 7)), (23, .val (.int .i64 6))]) (fr' := [⟨0, [.list 1 (List.map cI_u8 r27.b) (some 0)]⟩, ⟨0, (cGT122 r1)⟩]) (tk' := [r27.b.length]) (by kernel_rfl) ?_
    refine PO.nil ?_
    refine PC.lone ?_
    refine PC.region ?_
    refine PO.runK 2 [0, 1] [0] (es := [(0, .ptr 0 0), (21, .sl 1 2 7 7), (22, .val (.int .i64 7)), (23, .val (.int .i64 6)), (27, .ptr 0 0), (28, .val (.int .i64 r1.x_8))]) (fr' := [⟨0, [.list 1 (List.map cI_u8 r27.b) (some 0)]⟩, ⟨0, (cGT122 r1)⟩]) (tk' := [r27.b.length]) (by kernel_rfl) ?_
    refine bindK e10 (fun r30 e31 e10 => ?_)
    refine PO.call rfl rfl rfl rfl (ks := [0]) (ts := [0]) (fr1 := [⟨0, [.list 1 (List.map cI_u8 r27.b) (some 0)]⟩]) rfl rfl rfl ⟨⟨_, rfl, rfl, rfl⟩, trivial⟩ (L43 k r27 r1.x_8 _ e31) ?_
    rintro _ _ _ ⟨rfl, rfl, rfl⟩
    refine ⟨_, _, rfl, rfl, ?_⟩
    refine PO.nil ?_
    refine PC.skip (blockKP.end ?_)
    refine PC.lone ?_
    refine PC.region ?_
    refine PO.runK 2 [0, 1] [0] (es := [(0, .ptr 0 0), (21, .sl 1 2 7 7), (22, .val (.int .i64 7)), (23, .val (.int .i64 7))]) (fr' := [⟨0, [.list 1 (List.map cI_u8 r30.b) (some 0)]⟩, ⟨0, (cGT122 r1)⟩]) (tk' := [r30.b.length]) (by kernel_rfl) ?_
    refine PO.nil ?_
    refine PC.skip (loop1P.end ?_)
    refine PC.loop1 ?_
    refine PC.region ?_
    refine PO.runK 1 [0, 1] [0] (es := [(0, .ptr 0 0), (21, .sl 1 2 7 7), (22, .val (.int .i64 7)), (23, .val (.int .i64 7)), (24, .val (.bool false))]) (fr' := [⟨0, [.list 1 (List.map cI_u8 r30.b) (some 0)]⟩, ⟨0, (cGT122 r1)⟩]) (tk' := [r30.b.length]) (by kernel_rfl) ?_
    refine PO.nil ?_
    refine PC.cond rfl (fun h32 => Bool.noConfusion h32) (fun _ => ?_)
    exact PC.exit (loop1P.exit (blockJK.here ⟨r30.b, Weak.one [0] [0] (by kernel_rfl), Option.some.inj e10⟩))
  · rintro _ ⟨v1, w33, rfl⟩
    refine PC.weak w33 ?_
    have hq := Option.some.inj hF
    subst hq
    exact PC.skip (retSN [0] [0] (by kernel_rfl) (.refl _) ⟨rfl, rfl, rfl⟩)

/-! 46 platen/answer.sum -/
def F46_l1 (k : Nat) (a0 : List Int) : Nat → Int → Int → Option Int
  | 0, _, _ => none
  | j3 + 1, v4, v5 =>
    bif decide (v5 < (a0.length : Int)) then (bindI a0 v5 fun y8 =>
    F46_l1 k a0 j3 (w_u64 ((bxor_u64 v4 (w_u64 (y8))) * 1099511628211)) (w (v5 + 1))) else (some v4)
def F46 (k : Nat) (a0 : List Int) : Option Int :=
Option.bind (α := Int) (F46_l1 k a0 k 14695981039346656037 0) fun (v1 : Int) =>
some (w (v1))
theorem L46 (k : Nat) (a0 : List Int) (r : Int) (hF : F46 k a0 = some r) : PF Try.prog orc 46 [.list 1 (List.map cI_u8 a0) none] [] [] (fun p fr tk => p = .val (.int .i64 r) ∧ fr = [] ∧ tk = []) := by
  unfold F46 at hF
  refine PF.enterS Try.func46 rfl rfl rfl (by kernel_rfl) rfl ?_
  refine PC.run (n := 2) rfl ?_
  refine PC.run (n := 2) rfl ?_
  refine PC.assoc ?_
  refine PC.region ?_
  refine PO.run 1 rfl ?_
  refine PO.same rfl (len_ok Try.underlying32 rfl (List.length_map _)) rfl ?_
  refine PO.run 1 rfl ?_
  refine PO.nil ?_
  refine bindK hF (fun x1 e2 hF => ?_)
  refine PC.blockJ (fun s => ∃ (v1 : Int), Weak s (PS.of 20 [(2, .val (.int .i64 0)), (3, .val (.int .u64 v1))] [] [] 0 0) ∧ v1 = x1) ?_ ?_
  · refine PC.loop (fun j3 s => ∃ (v4 : Int) (v5 : Int), Weak s (PS.of 20 [(2, .val (.int .i64 0)), (3, .val (.int .u64 v4)), (6, .list 1 (List.map cI_u8 a0) none), (7, .val (.int .i64 (a0.length : Int))), (8, .val (.int .i64 v5))] [] [] 0 0) ∧ F46_l1 k a0 j3 v4 v5 = some x1) (fun j3 s => ?_) k ⟨14695981039346656037, 0, Weak.one [] [] (by kernel_rfl), e2⟩
    rintro ⟨v4, v5, w4, e2⟩
    refine PC.weak w4 ?_
    cases j3 with
    | zero => rw [F46_l1] at e2; cases e2
    | succ j3 =>
      rw [F46_l1] at e2
      refine PC.run (n := 2) rfl ?_
      refine PC.cond rfl (fun h5 => ?_) (fun h5 => ?_)
      · have e2 := bif_t h5 e2
        refine PC.noop ?_
        refine PC.block ?_
        refine PC.region ?_
        refine bindIK e2 (fun y8 h6 h7 e2 => ?_)
        refine PO.same rfl (indexAddr_ok Try.underlying32 rfl rfl rfl h6 (map_at h7)) rfl ?_
        refine PO.run 2 rfl ?_
        refine PO.nil ?_
        refine PC.lone ?_
        refine PC.run (n := 7) rfl ?_
        refine PC.skip (blockKP.end ?_)
        refine PC.lone ?_
        refine PC.run (n := 3) rfl ?_
        exact PC.skip (loopKP.mk (Nat.lt_succ_self _) ⟨w_u64 ((bxor_u64 v4 (w_u64 (y8))) * 1099511628211), w (v5 + 1), Weak.one [] [] (by kernel_rfl), e2⟩)
      · have e2 := bif_f h5 e2
        exact PC.exit (loopKP.exit (blockJK.here ⟨v4, Weak.one [] [] (by kernel_rfl), Option.some.inj e2⟩))
  · rintro _ ⟨v1, w8, rfl⟩
    refine PC.weak w8 ?_
    refine PC.run (n := 4) rfl ?_
    have hq := Option.some.inj hF
    subst hq
    exact PC.ret' (retSK [] [] (by kernel_rfl) (.refl _) ⟨rfl, rfl, rfl⟩)

/-! 19 platen/answer.Put -/
def F19_l3 (k : Nat) (y22 : GRow) : Nat → Int → (List Int) → Option (List Int)
  | 0, _, _ => none
  | j71 + 1, v26, v27 =>
    bif decide (v26 < (y22.boxes.length : Int)) then (bindI y22.boxes v26 fun y30 =>
    (F45 k (Gwriter.mk v27) y30).bind fun r76 =>
    F19_l3 k y22 j71 (w (v26 + 1)) r76.b) else (some v27)
def F19_l2 (k : Nat) (y13 : GPage) : Nat → Int → (List Int) → Option (List Int)
  | 0, _, _ => none
  | j54 + 1, v17, v18 =>
    bif decide (v17 < (y13.rows.length : Int)) then (Option.bind (α := List Int) (bindI y13.rows v17 fun y22 =>
    (F43 k (Gwriter.mk v18) y22.y).bind fun r61 =>
    (F44 k r61 y22.over_).bind fun r63 =>
    (F44 k r63 y22.loose).bind fun r65 =>
    (F43 k r65 (y22.boxes.length : Int)).bind fun r67 =>
    Option.bind (α := List Int) (F19_l3 k y22 k 0 r67.b) fun (v23 : List Int) =>
    some v23) fun (v21 : List Int) =>
    F19_l2 k y13 j54 (w (v17 + 1)) v21) else (some v18)
def F19_l1 (k : Nat) (a0 : GAnswer) : Nat → Int → (List Int) → Option (List Int)
  | 0, _, _ => none
  | j37 + 1, v8, v9 =>
    bif decide (v8 < (a0.pages.length : Int)) then (Option.bind (α := List Int) (bindI a0.pages v8 fun y13 =>
    (F43 k (Gwriter.mk v9) y13.width).bind fun r44 =>
    (F43 k r44 y13.height).bind fun r46 =>
    (F44 k r46 y13.over_).bind fun r48 =>
    (F43 k r48 (y13.rows.length : Int)).bind fun r50 =>
    Option.bind (α := List Int) (F19_l2 k y13 k 0 r50.b) fun (v14 : List Int) =>
    some v14) fun (v12 : List Int) =>
    F19_l1 k a0 j37 (w (v8 + 1)) v12) else (some v9)
def F19 (k : Nat) (a0 : GAnswer) : Option ((List Int) × Int) :=
Option.bind (α := Bool) (bif decide (a0.steps < 0) then (some true) else (Option.bind (α := Bool) (bif decide (a0.cells < 0) then (some true) else (Option.bind (α := Bool) (bif a0.fault_Kind != 0 then (some (decide ((a0.pages.length : Int) > 0))) else (some false)) fun (v3 : Bool) =>
some v3)) fun (v2 : Bool) =>
some v2)) fun (v1 : Bool) =>
bif v1 then (some (([] : List Int), 200)) else ((F42 k (Gwriter.mk ([] : List Int)) (ByteArray.mk #[112, 108, 97, 116, 101, 110, 65, 49])).bind fun r14 =>
Option.bind (α := List Int) ((F43 k r14 a0.fault_Kind).bind fun r19 =>
(F43 k r19 a0.fault_At).bind fun r22 =>
(F43 k r22 a0.steps).bind fun r25 =>
(F43 k r25 a0.cells).bind fun r28 =>
(F43 k r28 (a0.pages.length : Int)).bind fun r31 =>
some r31.b) fun (v4 : List Int) =>
Option.bind (α := List Int) (F19_l1 k a0 k 0 v4) fun (v5 : List Int) =>
(F46 k v5).bind fun r83 =>
(F43 k (Gwriter.mk v5) r83).bind fun r85 =>
some (r85.b, 0))
theorem L19 (k : Nat) (a0 : GAnswer) (r : (List Int) × Int) (hF : F19 k a0 = some r) : PF Try.prog orc 19 [.agg (cGAnswer a0)] [] [] (fun p fr tk => p = .tup [.list 1 (List.map cI_u8 r.1) (some 0), .val (.int .i64 r.2)] ∧ fr = [] ∧ tk = [r.1.length]) := by
  unfold F19 at hF
  refine PF.enterS Try.func19 rfl rfl rfl (by kernel_rfl) rfl ?_
  refine PC.region ?_
  refine PO.runK 3 [0] [] (es := [(1, .ptr 0 0), (2, .val (.slice none 0 0)), (3, .val (.int .i64 0))]) (fr' := [⟨0, (cGAnswer a0)⟩]) (tk' := []) (by kernel_rfl) ?_
  refine PO.nil ?_
  refine PC.assoc ?_
  refine PC.region ?_
  refine PO.run 4 rfl ?_
  refine bindK hF (fun x1 e2 hF => ?_)
  refine PO.cut 16 (fun s => ∃ (v1 : Bool), Weak s (PS.of 130 [(1, .ptr 0 0), (2, .val (.slice none 0 0)), (3, .val (.int .i64 0)), (32, .val (.bool v1))] [⟨0, (cGAnswer a0)⟩] [] 0 0) ∧ v1 = x1) ?_ ?_
  · refine PO.case (t := 16) rfl rfl (fun h3 => ?_) (fun h3 => ?_)
    · have e2 := bif_t h3 e2
      refine PO.run 3 rfl ?_
      refine PO.same rfl (pickT_ok rfl rfl rfl) rfl ?_
      refine PO.run 11 rfl ?_
      refine PO.same rfl (pickT_ok rfl rfl rfl) rfl ?_
      refine PO.nil ?_
      exact ⟨true, Weak.one [0] [] (by kernel_rfl), Option.some.inj e2⟩
    · have e2 := bif_f h3 e2
      refine PO.run 3 rfl ?_
      refine PO.same rfl (pickF_ok rfl rfl rfl) rfl ?_
      refine PO.run 1 rfl ?_
      refine bindK e2 (fun x4 e5 e2 => ?_)
      refine PO.cut 11 (fun s => ∃ (v2 : Bool), Weak s (PS.of 130 [(1, .ptr 0 0), (2, .val (.slice none 0 0)), (3, .val (.int .i64 0)), (32, .val (.bool v2))] [⟨0, (cGAnswer a0)⟩] [] 0 0) ∧ v2 = x4) ?_ ?_
      · refine PO.case (t := 21) rfl rfl (fun h6 => ?_) (fun h6 => ?_)
        · have e5 := bif_t h6 e5
          refine PO.run 10 rfl ?_
          refine PO.same rfl (pickT_ok rfl rfl rfl) rfl ?_
          refine PO.nil ?_
          exact ⟨true, Weak.one [0] [] (by kernel_rfl), Option.some.inj e5⟩
        · have e5 := bif_f h6 e5
          refine PO.run 5 rfl ?_
          refine bindK e5 (fun x7 e8 e5 => ?_)
          refine PO.cut 6 (fun s => ∃ (v3 : Bool), Weak s (PS.of 130 [(1, .ptr 0 0), (2, .val (.slice none 0 0)), (3, .val (.int .i64 0)), (32, .val (.bool v3))] [⟨0, (cGAnswer a0)⟩] [] 0 0) ∧ v3 = x7) ?_ ?_
          · refine PO.case (t := 26) rfl rfl (fun h9 => ?_) (fun h9 => ?_)
            · have e8 := bif_t h9 e8
              refine PO.runK 2 [0] [] (es := [(1, .ptr 0 0), (2, .val (.slice none 0 0)), (3, .val (.int .i64 0)), (21, .val (.bool false)), (26, .val (.bool true)), (28, .list 4 (List.map cGPage a0.pages) none)]) (fr' := [⟨0, (cGAnswer a0)⟩]) (tk' := []) (by kernel_rfl) ?_
              refine PO.same rfl (len_ok Try.underlying25 rfl (List.length_map _)) rfl ?_
              refine PO.run 1 rfl ?_
              refine PO.same rfl (pickT_ok rfl rfl rfl) rfl ?_
              refine PO.same rfl (pickF_ok rfl rfl rfl) rfl ?_
              refine PO.nil ?_
              exact ⟨decide ((a0.pages.length : Int) > 0), Weak.one [0] [] (by kernel_rfl), Option.some.inj e8⟩
            · have e8 := bif_f h9 e8
              refine PO.run 4 rfl ?_
              refine PO.same rfl (pickF_ok rfl rfl rfl) rfl ?_
              refine PO.same rfl (pickF_ok rfl rfl rfl) rfl ?_
              refine PO.nil ?_
              exact ⟨false, Weak.one [0] [] (by kernel_rfl), Option.some.inj e8⟩
          · rintro _ ⟨v3, w10, rfl⟩
            refine PO.weak w10 ?_
            refine PO.nil ?_
            exact ⟨v3, Weak.one [0] [] (by kernel_rfl), Option.some.inj e5⟩
      · rintro _ ⟨v2, w11, rfl⟩
        refine PO.weak w11 ?_
        refine PO.nil ?_
        exact ⟨v2, Weak.one [0] [] (by kernel_rfl), Option.some.inj e2⟩
  · rintro _ ⟨v1, w12, rfl⟩
    refine PO.weak w12 ?_
    refine PO.nil ?_
    refine PC.cond rfl (fun h13 => ?_) (fun h13 => ?_)
    · have hF := bif_t h13 hF
      refine PC.assoc ?_
      refine PC.run (n := 3) rfl ?_
      refine PC.weak (s' := PS.of 130 [(2, .list 1 (List.map cI_u8 ([] : List Int)) (some 0)), (3, .val (.int .i64 200))] [] [0] 0 0) (Weak.mk [] [] 1 rfl rfl rfl trivial ⟨⟨_, _, rfl, rfl, .nilt 1 0 rfl rfl⟩, ⟨⟨_, _, rfl, rfl, .refl _⟩, trivial⟩⟩) ?_
      have hq := Option.some.inj hF
      subst hq
      exact PC.ret (retSK [] [0] (by kernel_rfl) (.refl _) ⟨rfl, rfl, rfl⟩)
    · have hF := bif_f h13 hF
      refine PC.noop ?_
      refine PC.region ?_
      refine PO.runK 3 [0, 1] [] (es := [(1, .ptr 0 0), (2, .val (.slice none 0 0)), (3, .val (.int .i64 0)), (4, .ptr 1 0)]) (fr' := [⟨0, (cGAnswer a0)⟩, ⟨0, [.val (.slice none 0 0)]⟩]) (tk' := []) (by kernel_rfl) ?_
      refine PO.nil ?_
      refine PC.weak (s' := PS.of 130 [(1, .ptr 0 0), (2, .val (.slice none 0 0)), (3, .val (.int .i64 0)), (4, .ptr 1 0)] [⟨0, (cGAnswer a0)⟩, ⟨0, [.list 1 (List.map cI_u8 ([] : List Int)) (some 0)]⟩] [0] 0 0) (Weak.mk [0, 1] [] 1 rfl rfl rfl ⟨⟨_, _, rfl, rfl, rfl, (LessL.refl _)⟩, ⟨⟨_, _, rfl, rfl, rfl, (LessL.cons (.nilt 1 0 rfl rfl) (LessL.refl _))⟩, trivial⟩⟩ ⟨⟨_, _, rfl, rfl, .refl _⟩, ⟨⟨_, _, rfl, rfl, .refl _⟩, ⟨⟨_, _, rfl, rfl, .refl _⟩, ⟨⟨_, _, rfl, rfl, .refl _⟩, trivial⟩⟩⟩⟩) ?_
      refine PC.region ?_
      refine PO.run 1 rfl ?_
      refine bindK hF (fun r14 e15 hF => ?_)
      refine PO.call rfl rfl rfl rfl (ks := [1]) (ts := [0]) (fr1 := [⟨0, [.list 1 (List.map cI_u8 ([] : List Int)) (some 0)]⟩]) rfl rfl rfl ⟨⟨_, rfl, rfl, rfl⟩, trivial⟩ (L42 k (Gwriter.mk ([] : List Int)) (ByteArray.mk #[112, 108, 97, 116, 101, 110, 65, 49]) _ e15) ?_
      rintro _ _ _ ⟨rfl, rfl, rfl⟩
      refine ⟨_, _, rfl, rfl, ?_⟩
      refine PO.nil ?_
      refine PC.assoc ?_
      refine PC.region ?_
      refine PO.run 12 rfl ?_
      refine PO.same rfl (len_ok Try.underlying25 rfl (List.length_map _)) rfl ?_
      refine PO.runK 2 [0, 1] [0] (es := [(1, .ptr 0 0), (2, .val (.slice none 0 0)), (3, .val (.int .i64 0)), (4, .ptr 1 0), (50, .agg [.val (.int .i64 a0.fault_Kind), .val (.int .i64 a0.fault_At), .val (.int .i64 a0.steps), .val (.int .i64 a0.cells), .val (.int .i64 (a0.pages.length : Int))]), (51, .val (.int .i64 0))]) (fr' := [⟨0, (cGAnswer a0)⟩, ⟨0, [.list 1 (List.map cI_u8 r14.b) (some 0)]⟩]) (tk' := [r14.b.length]) (by kernel_rfl) ?_
      refine PO.nil ?_
      refine bindK hF (fun x16 e17 hF => ?_)
      refine PC.blockJ (fun s => ∃ (v4 : List Int), Weak s (PS.of 130 [(1, .ptr 0 0), (2, .val (.slice none 0 0)), (3, .val (.int .i64 0)), (4, .ptr 1 0)] [⟨0, (cGAnswer a0)⟩, ⟨0, [.list 1 (List.map cI_u8 v4) (some 0)]⟩] [v4.length] 0 0) ∧ v4 = x16) ?_ ?_
      · refine PC.loop1 ?_
        refine PC.region ?_
        refine PO.runK 1 [0, 1] [0] (es := [(1, .ptr 0 0), (2, .val (.slice none 0 0)), (3, .val (.int .i64 0)), (4, .ptr 1 0), (50, .agg [.val (.int .i64 a0.fault_Kind), .val (.int .i64 a0.fault_At), .val (.int .i64 a0.steps), .val (.int .i64 a0.cells), .val (.int .i64 (a0.pages.length : Int))]), (51, .val (.int .i64 0)), (52, .val (.bool true))]) (fr' := [⟨0, (cGAnswer a0)⟩, ⟨0, [.list 1 (List.map cI_u8 r14.b) (some 0)]⟩]) (tk' := [r14.b.length]) (by kernel_rfl) ?_
        refine PO.nil ?_
        refine PC.cond rfl (fun _ => ?_) (fun h18 => Bool.noConfusion h18)
        refine PC.noop ?_
        refine PC.block ?_
        refine PC.region ?_
        refine PO.same rfl (idxAgg_ok (i := 0) Try.underlying88 rfl rfl rfl rfl rfl rfl) rfl ?_
        refine PO.runK 1 [0, 1] [0] (es := [(1, .ptr 0 0), (2, .val (.slice none 0 0)), (3, .val (.int .i64 0)), (4, .ptr 1 0), (6, .val (.int .i64 a0.fault_Kind)), (50, .agg [.val (.int .i64 a0.fault_Kind), .val (.int .i64 a0.fault_At), .val (.int .i64 a0.steps), .val (.int .i64 a0.cells), .val (.int .i64 (a0.pages.length : Int))]), (51, .val (.int .i64 0))]) (fr' := [⟨0, (cGAnswer a0)⟩, ⟨0, [.list 1 (List.map cI_u8 r14.b) (some 0)]⟩]) (tk' := [r14.b.length]) (by kernel_rfl) ?_
        refine PO.nil ?_
        refine PC.lone ?_
        refine PC.region ?_
        refine PO.runK 2 [0, 1] [0] (es := [(1, .ptr 0 0), (2, .val (.slice none 0 0)), (3, .val (.int .i64 0)), (4, .ptr 1 0), (50, .agg [.val (.int .i64 a0.fault_Kind), .val (.int .i64 a0.fault_At), .val (.int .i64 a0.steps), .val (.int .i64 a0.cells), .val (.int .i64 (a0.pages.length : Int))]), (51, .val (.int .i64 0)), (54, .ptr 1 0), (55, .val (.int .i64 a0.fault_Kind))]) (fr' := [⟨0, (cGAnswer a0)⟩, ⟨0, [.list 1 (List.map cI_u8 r14.b) (some 0)]⟩]) (tk' := [r14.b.length]) (by kernel_rfl) ?_
        refine bindK e17 (fun r19 e20 e17 => ?_)
        refine PO.call rfl rfl rfl rfl (ks := [1]) (ts := [0]) (fr1 := [⟨0, [.list 1 (List.map cI_u8 r14.b) (some 0)]⟩]) rfl rfl rfl ⟨⟨_, rfl, rfl, rfl⟩, trivial⟩ (L43 k r14 a0.fault_Kind _ e20) ?_
        rintro _ _ _ ⟨rfl, rfl, rfl⟩
        refine ⟨_, _, rfl, rfl, ?_⟩
        refine PO.nil ?_
        refine PC.skip (blockKP.end ?_)
        refine PC.lone ?_
        refine PC.region ?_
        refine PO.runK 2 [0, 1] [0] (es := [(1, .ptr 0 0), (2, .val (.slice none 0 0)), (3, .val (.int .i64 0)), (4, .ptr 1 0), (50, .agg [.val (.int .i64 a0.fault_Kind), .val (.int .i64 a0.fault_At), .val (.int .i64 a0.steps), .val (.int .i64 a0.cells), .val (.int .i64 (a0.pages.length : Int))]), (51, .val (.int .i64 1))]) (fr' := [⟨0, (cGAnswer a0)⟩, ⟨0, [.list 1 (List.map cI_u8 r19.b) (some 0)]⟩]) (tk' := [r19.b.length]) (by kernel_rfl) ?_
        refine PO.nil ?_
        refine PC.skip (loop1P.end ?_)
        refine PC.loop1 ?_
        refine PC.region ?_
        refine PO.runK 1 [0, 1] [0] (es := [(1, .ptr 0 0), (2, .val (.slice none 0 0)), (3, .val (.int .i64 0)), (4, .ptr 1 0), (50, .agg [.val (.int .i64 a0.fault_Kind), .val (.int .i64 a0.fault_At), .val (.int .i64 a0.steps), .val (.int .i64 a0.cells), .val (.int .i64 (a0.pages.length : Int))]), (51, .val (.int .i64 1)), (52, .val (.bool true))]) (fr' := [⟨0, (cGAnswer a0)⟩, ⟨0, [.list 1 (List.map cI_u8 r19.b) (some 0)]⟩]) (tk' := [r19.b.length]) (by kernel_rfl) ?_
        refine PO.nil ?_
        refine PC.cond rfl (fun _ => ?_) (fun h21 => Bool.noConfusion h21)
        refine PC.noop ?_
        refine PC.block ?_
        refine PC.region ?_
        refine PO.same rfl (idxAgg_ok (i := 1) Try.underlying88 rfl rfl rfl rfl rfl rfl) rfl ?_
        refine PO.runK 1 [0, 1] [0] (es := [(1, .ptr 0 0), (2, .val (.slice none 0 0)), (3, .val (.int .i64 0)), (4, .ptr 1 0), (6, .val (.int .i64 a0.fault_At)), (50, .agg [.val (.int .i64 a0.fault_Kind), .val (.int .i64 a0.fault_At), .val (.int .i64 a0.steps), .val (.int .i64 a0.cells), .val (.int .i64 (a0.pages.length : Int))]), (51, .val (.int .i64 1))]) (fr' := [⟨0, (cGAnswer a0)⟩, ⟨0, [.list 1 (List.map cI_u8 r19.b) (some 0)]⟩]) (tk' := [r19.b.length]) (by kernel_rfl) ?_
        refine PO.nil ?_
        refine PC.lone ?_
        refine PC.region ?_
        refine PO.runK 2 [0, 1] [0] (es := [(1, .ptr 0 0), (2, .val (.slice none 0 0)), (3, .val (.int .i64 0)), (4, .ptr 1 0), (50, .agg [.val (.int .i64 a0.fault_Kind), .val (.int .i64 a0.fault_At), .val (.int .i64 a0.steps), .val (.int .i64 a0.cells), .val (.int .i64 (a0.pages.length : Int))]), (51, .val (.int .i64 1)), (54, .ptr 1 0), (55, .val (.int .i64 a0.fault_At))]) (fr' := [⟨0, (cGAnswer a0)⟩, ⟨0, [.list 1 (List.map cI_u8 r19.b) (some 0)]⟩]) (tk' := [r19.b.length]) (by kernel_rfl) ?_
        refine bindK e17 (fun r22 e23 e17 => ?_)
        refine PO.call rfl rfl rfl rfl (ks := [1]) (ts := [0]) (fr1 := [⟨0, [.list 1 (List.map cI_u8 r19.b) (some 0)]⟩]) rfl rfl rfl ⟨⟨_, rfl, rfl, rfl⟩, trivial⟩ (L43 k r19 a0.fault_At _ e23) ?_
        rintro _ _ _ ⟨rfl, rfl, rfl⟩
        refine ⟨_, _, rfl, rfl, ?_⟩
        refine PO.nil ?_
        refine PC.skip (blockKP.end ?_)
        refine PC.lone ?_
        refine PC.region ?_
        refine PO.runK 2 [0, 1] [0] (es := [(1, .ptr 0 0), (2, .val (.slice none 0 0)), (3, .val (.int .i64 0)), (4, .ptr 1 0), (50, .agg [.val (.int .i64 a0.fault_Kind), .val (.int .i64 a0.fault_At), .val (.int .i64 a0.steps), .val (.int .i64 a0.cells), .val (.int .i64 (a0.pages.length : Int))]), (51, .val (.int .i64 2))]) (fr' := [⟨0, (cGAnswer a0)⟩, ⟨0, [.list 1 (List.map cI_u8 r22.b) (some 0)]⟩]) (tk' := [r22.b.length]) (by kernel_rfl) ?_
        refine PO.nil ?_
        refine PC.skip (loop1P.end ?_)
        refine PC.loop1 ?_
        refine PC.region ?_
        refine PO.runK 1 [0, 1] [0] (es := [(1, .ptr 0 0), (2, .val (.slice none 0 0)), (3, .val (.int .i64 0)), (4, .ptr 1 0), (50, .agg [.val (.int .i64 a0.fault_Kind), .val (.int .i64 a0.fault_At), .val (.int .i64 a0.steps), .val (.int .i64 a0.cells), .val (.int .i64 (a0.pages.length : Int))]), (51, .val (.int .i64 2)), (52, .val (.bool true))]) (fr' := [⟨0, (cGAnswer a0)⟩, ⟨0, [.list 1 (List.map cI_u8 r22.b) (some 0)]⟩]) (tk' := [r22.b.length]) (by kernel_rfl) ?_
        refine PO.nil ?_
        refine PC.cond rfl (fun _ => ?_) (fun h24 => Bool.noConfusion h24)
        refine PC.noop ?_
        refine PC.block ?_
        refine PC.region ?_
        refine PO.same rfl (idxAgg_ok (i := 2) Try.underlying88 rfl rfl rfl rfl rfl rfl) rfl ?_
        refine PO.runK 1 [0, 1] [0] (es := [(1, .ptr 0 0), (2, .val (.slice none 0 0)), (3, .val (.int .i64 0)), (4, .ptr 1 0), (6, .val (.int .i64 a0.steps)), (50, .agg [.val (.int .i64 a0.fault_Kind), .val (.int .i64 a0.fault_At), .val (.int .i64 a0.steps), .val (.int .i64 a0.cells), .val (.int .i64 (a0.pages.length : Int))]), (51, .val (.int .i64 2))]) (fr' := [⟨0, (cGAnswer a0)⟩, ⟨0, [.list 1 (List.map cI_u8 r22.b) (some 0)]⟩]) (tk' := [r22.b.length]) (by kernel_rfl) ?_
        refine PO.nil ?_
        refine PC.lone ?_
        refine PC.region ?_
        refine PO.runK 2 [0, 1] [0] (es := [(1, .ptr 0 0), (2, .val (.slice none 0 0)), (3, .val (.int .i64 0)), (4, .ptr 1 0), (50, .agg [.val (.int .i64 a0.fault_Kind), .val (.int .i64 a0.fault_At), .val (.int .i64 a0.steps), .val (.int .i64 a0.cells), .val (.int .i64 (a0.pages.length : Int))]), (51, .val (.int .i64 2)), (54, .ptr 1 0), (55, .val (.int .i64 a0.steps))]) (fr' := [⟨0, (cGAnswer a0)⟩, ⟨0, [.list 1 (List.map cI_u8 r22.b) (some 0)]⟩]) (tk' := [r22.b.length]) (by kernel_rfl) ?_
        refine bindK e17 (fun r25 e26 e17 => ?_)
        refine PO.call rfl rfl rfl rfl (ks := [1]) (ts := [0]) (fr1 := [⟨0, [.list 1 (List.map cI_u8 r22.b) (some 0)]⟩]) rfl rfl rfl ⟨⟨_, rfl, rfl, rfl⟩, trivial⟩ (L43 k r22 a0.steps _ e26) ?_
        rintro _ _ _ ⟨rfl, rfl, rfl⟩
        refine ⟨_, _, rfl, rfl, ?_⟩
        refine PO.nil ?_
        refine PC.skip (blockKP.end ?_)
        refine PC.lone ?_
        refine PC.region ?_
        refine PO.runK 2 [0, 1] [0] (es := [(1, .ptr 0 0), (2, .val (.slice none 0 0)), (3, .val (.int .i64 0)), (4, .ptr 1 0), (50, .agg [.val (.int .i64 a0.fault_Kind), .val (.int .i64 a0.fault_At), .val (.int .i64 a0.steps), .val (.int .i64 a0.cells), .val (.int .i64 (a0.pages.length : Int))]), (51, .val (.int .i64 3))]) (fr' := [⟨0, (cGAnswer a0)⟩, ⟨0, [.list 1 (List.map cI_u8 r25.b) (some 0)]⟩]) (tk' := [r25.b.length]) (by kernel_rfl) ?_
        refine PO.nil ?_
        refine PC.skip (loop1P.end ?_)
        refine PC.loop1 ?_
        refine PC.region ?_
        refine PO.runK 1 [0, 1] [0] (es := [(1, .ptr 0 0), (2, .val (.slice none 0 0)), (3, .val (.int .i64 0)), (4, .ptr 1 0), (50, .agg [.val (.int .i64 a0.fault_Kind), .val (.int .i64 a0.fault_At), .val (.int .i64 a0.steps), .val (.int .i64 a0.cells), .val (.int .i64 (a0.pages.length : Int))]), (51, .val (.int .i64 3)), (52, .val (.bool true))]) (fr' := [⟨0, (cGAnswer a0)⟩, ⟨0, [.list 1 (List.map cI_u8 r25.b) (some 0)]⟩]) (tk' := [r25.b.length]) (by kernel_rfl) ?_
        refine PO.nil ?_
        refine PC.cond rfl (fun _ => ?_) (fun h27 => Bool.noConfusion h27)
        refine PC.noop ?_
        refine PC.block ?_
        refine PC.region ?_
        refine PO.same rfl (idxAgg_ok (i := 3) Try.underlying88 rfl rfl rfl rfl rfl rfl) rfl ?_
        refine PO.runK 1 [0, 1] [0] (es := [(1, .ptr 0 0), (2, .val (.slice none 0 0)), (3, .val (.int .i64 0)), (4, .ptr 1 0), (6, .val (.int .i64 a0.cells)), (50, .agg [.val (.int .i64 a0.fault_Kind), .val (.int .i64 a0.fault_At), .val (.int .i64 a0.steps), .val (.int .i64 a0.cells), .val (.int .i64 (a0.pages.length : Int))]), (51, .val (.int .i64 3))]) (fr' := [⟨0, (cGAnswer a0)⟩, ⟨0, [.list 1 (List.map cI_u8 r25.b) (some 0)]⟩]) (tk' := [r25.b.length]) (by kernel_rfl) ?_
        refine PO.nil ?_
        refine PC.lone ?_
        refine PC.region ?_
        refine PO.runK 2 [0, 1] [0] (es := [(1, .ptr 0 0), (2, .val (.slice none 0 0)), (3, .val (.int .i64 0)), (4, .ptr 1 0), (50, .agg [.val (.int .i64 a0.fault_Kind), .val (.int .i64 a0.fault_At), .val (.int .i64 a0.steps), .val (.int .i64 a0.cells), .val (.int .i64 (a0.pages.length : Int))]), (51, .val (.int .i64 3)), (54, .ptr 1 0), (55, .val (.int .i64 a0.cells))]) (fr' := [⟨0, (cGAnswer a0)⟩, ⟨0, [.list 1 (List.map cI_u8 r25.b) (some 0)]⟩]) (tk' := [r25.b.length]) (by kernel_rfl) ?_
        refine bindK e17 (fun r28 e29 e17 => ?_)
        refine PO.call rfl rfl rfl rfl (ks := [1]) (ts := [0]) (fr1 := [⟨0, [.list 1 (List.map cI_u8 r25.b) (some 0)]⟩]) rfl rfl rfl ⟨⟨_, rfl, rfl, rfl⟩, trivial⟩ (L43 k r25 a0.cells _ e29) ?_
        rintro _ _ _ ⟨rfl, rfl, rfl⟩
        refine ⟨_, _, rfl, rfl, ?_⟩
        refine PO.nil ?_
        refine PC.skip (blockKP.end ?_)
        refine PC.lone ?_
        refine PC.region ?_
        refine PO.runK 2 [0, 1] [0] (es := [(1, .ptr 0 0), (2, .val (.slice none 0 0)), (3, .val (.int .i64 0)), (4, .ptr 1 0), (50, .agg [.val (.int .i64 a0.fault_Kind), .val (.int .i64 a0.fault_At), .val (.int .i64 a0.steps), .val (.int .i64 a0.cells), .val (.int .i64 (a0.pages.length : Int))]), (51, .val (.int .i64 4))]) (fr' := [⟨0, (cGAnswer a0)⟩, ⟨0, [.list 1 (List.map cI_u8 r28.b) (some 0)]⟩]) (tk' := [r28.b.length]) (by kernel_rfl) ?_
        refine PO.nil ?_
        refine PC.skip (loop1P.end ?_)
        refine PC.loop1 ?_
        refine PC.region ?_
        refine PO.runK 1 [0, 1] [0] (es := [(1, .ptr 0 0), (2, .val (.slice none 0 0)), (3, .val (.int .i64 0)), (4, .ptr 1 0), (50, .agg [.val (.int .i64 a0.fault_Kind), .val (.int .i64 a0.fault_At), .val (.int .i64 a0.steps), .val (.int .i64 a0.cells), .val (.int .i64 (a0.pages.length : Int))]), (51, .val (.int .i64 4)), (52, .val (.bool true))]) (fr' := [⟨0, (cGAnswer a0)⟩, ⟨0, [.list 1 (List.map cI_u8 r28.b) (some 0)]⟩]) (tk' := [r28.b.length]) (by kernel_rfl) ?_
        refine PO.nil ?_
        refine PC.cond rfl (fun _ => ?_) (fun h30 => Bool.noConfusion h30)
        refine PC.noop ?_
        refine PC.block ?_
        refine PC.region ?_
        refine PO.same rfl (idxAgg_ok (i := 4) Try.underlying88 rfl rfl rfl rfl rfl rfl) rfl ?_
        refine PO.runK 1 [0, 1] [0] (es := [(1, .ptr 0 0), (2, .val (.slice none 0 0)), (3, .val (.int .i64 0)), (4, .ptr 1 0), (6, .val (.int .i64 (a0.pages.length : Int))), (50, .agg [.val (.int .i64 a0.fault_Kind), .val (.int .i64 a0.fault_At), .val (.int .i64 a0.steps), .val (.int .i64 a0.cells), .val (.int .i64 (a0.pages.length : Int))]), (51, .val (.int .i64 4))]) (fr' := [⟨0, (cGAnswer a0)⟩, ⟨0, [.list 1 (List.map cI_u8 r28.b) (some 0)]⟩]) (tk' := [r28.b.length]) (by kernel_rfl) ?_
        refine PO.nil ?_
        refine PC.lone ?_
        refine PC.region ?_
        refine PO.runK 2 [0, 1] [0] (es := [(1, .ptr 0 0), (2, .val (.slice none 0 0)), (3, .val (.int .i64 0)), (4, .ptr 1 0), (50, .agg [.val (.int .i64 a0.fault_Kind), .val (.int .i64 a0.fault_At), .val (.int .i64 a0.steps), .val (.int .i64 a0.cells), .val (.int .i64 (a0.pages.length : Int))]), (51, .val (.int .i64 4)), (54, .ptr 1 0), (55, .val (.int .i64 (a0.pages.length : Int)))]) (fr' := [⟨0, (cGAnswer a0)⟩, ⟨0, [.list 1 (List.map cI_u8 r28.b) (some 0)]⟩]) (tk' := [r28.b.length]) (by kernel_rfl) ?_
        refine bindK e17 (fun r31 e32 e17 => ?_)
        refine PO.call rfl rfl rfl rfl (ks := [1]) (ts := [0]) (fr1 := [⟨0, [.list 1 (List.map cI_u8 r28.b) (some 0)]⟩]) rfl rfl rfl ⟨⟨_, rfl, rfl, rfl⟩, trivial⟩ (L43 k r28 (a0.pages.length : Int) _ e32) ?_
        rintro _ _ _ ⟨rfl, rfl, rfl⟩
        refine ⟨_, _, rfl, rfl, ?_⟩
        refine PO.nil ?_
        refine PC.skip (blockKP.end ?_)
        refine PC.lone ?_
        refine PC.region ?_
        refine PO.runK 2 [0, 1] [0] (es := [(1, .ptr 0 0), (2, .val (.slice none 0 0)), (3, .val (.int .i64 0)), (4, .ptr 1 0), (50, .agg [.val (.int .i64 a0.fault_Kind), .val (.int .i64 a0.fault_At), .val (.int .i64 a0.steps), .val (.int .i64 a0.cells), .val (.int .i64 (a0.pages.length : Int))]), (51, .val (.int .i64 5))]) (fr' := [⟨0, (cGAnswer a0)⟩, ⟨0, [.list 1 (List.map cI_u8 r31.b) (some 0)]⟩]) (tk' := [r31.b.length]) (by kernel_rfl) ?_
        refine PO.nil ?_
        refine PC.skip (loop1P.end ?_)
        refine PC.loop1 ?_
        refine PC.region ?_
        refine PO.runK 1 [0, 1] [0] (es := [(1, .ptr 0 0), (2, .val (.slice none 0 0)), (3, .val (.int .i64 0)), (4, .ptr 1 0), (50, .agg [.val (.int .i64 a0.fault_Kind), .val (.int .i64 a0.fault_At), .val (.int .i64 a0.steps), .val (.int .i64 a0.cells), .val (.int .i64 (a0.pages.length : Int))]), (51, .val (.int .i64 5)), (52, .val (.bool false))]) (fr' := [⟨0, (cGAnswer a0)⟩, ⟨0, [.list 1 (List.map cI_u8 r31.b) (some 0)]⟩]) (tk' := [r31.b.length]) (by kernel_rfl) ?_
        refine PO.nil ?_
        refine PC.cond rfl (fun h33 => Bool.noConfusion h33) (fun _ => ?_)
        exact PC.exit (loop1P.exit (blockJK.here ⟨r31.b, Weak.one [0, 1] [0] (by kernel_rfl), Option.some.inj e17⟩))
      · rintro _ ⟨v4, w34, rfl⟩
        refine PC.weak w34 ?_
        refine PC.assoc ?_
        refine PC.region ?_
        refine PO.run 2 rfl ?_
        refine PO.same rfl (len_ok Try.underlying25 rfl (List.length_map _)) rfl ?_
        refine PO.run 1 rfl ?_
        refine PO.nil ?_
        refine bindK hF (fun x35 e36 hF => ?_)
        refine PC.blockJ (fun s => ∃ (v5 : List Int), Weak s (PS.of 130 [(2, .val (.slice none 0 0)), (3, .val (.int .i64 0)), (4, .ptr 0 0)] [⟨0, [.list 1 (List.map cI_u8 v5) (some 0)]⟩] [v5.length] 0 0) ∧ v5 = x35) ?_ ?_
        · refine PC.loop (fun j37 s => ∃ (v8 : Int) (v9 : List Int), Weak s (PS.of 130 [(2, .val (.slice none 0 0)), (3, .val (.int .i64 0)), (4, .ptr 0 0), (59, .list 4 (List.map cGPage a0.pages) none), (60, .val (.int .i64 (a0.pages.length : Int))), (61, .val (.int .i64 v8))] [⟨0, [.list 1 (List.map cI_u8 v9) (some 0)]⟩] [v9.length] 0 0) ∧ F19_l1 k a0 j37 v8 v9 = some x35) (fun j37 s => ?_) k ⟨0, v4, Weak.one [1] [0] (by kernel_rfl), e36⟩
          rintro ⟨v8, v9, w38, e36⟩
          refine PC.weak w38 ?_
          cases j37 with
          | zero => rw [F19_l1] at e36; cases e36
          | succ j37 =>
            rw [F19_l1] at e36
            refine PC.run (n := 2) rfl ?_
            refine PC.cond rfl (fun h39 => ?_) (fun h39 => ?_)
            · have e36 := bif_t h39 e36
              refine PC.noop ?_
              refine bindK e36 (fun x40 e41 e36 => ?_)
              refine PC.blockJ (fun s => ∃ (v12 : List Int), Weak s (PS.of 130 [(2, .val (.slice none 0 0)), (3, .val (.int .i64 0)), (4, .ptr 0 0), (59, .list 4 (List.map cGPage a0.pages) none), (60, .val (.int .i64 (a0.pages.length : Int))), (61, .val (.int .i64 v8))] [⟨0, [.list 1 (List.map cI_u8 v12) (some 0)]⟩] [v12.length] 0 0) ∧ v12 = x40) ?_ ?_
              · refine PC.region ?_
                refine bindIK e41 (fun y13 h42 h43 e41 => ?_)
                refine PO.same rfl (indexAddr_ok Try.underlying25 rfl rfl rfl h42 (map_at h43)) rfl ?_
                refine PO.runK 3 [0, 1] [0] (es := [(2, .val (.slice none 0 0)), (3, .val (.int .i64 0)), (4, .ptr 0 0), (8, .ptr 1 0), (59, .list 4 (List.map cGPage a0.pages) none), (60, .val (.int .i64 (a0.pages.length : Int))), (61, .val (.int .i64 v8))]) (fr' := [⟨0, [.list 1 (List.map cI_u8 v9) (some 0)]⟩, ⟨0, (cGPage y13)⟩]) (tk' := [v9.length]) (by kernel_rfl) ?_
                refine PO.nil ?_
                refine PC.region ?_
                refine PO.run 3 rfl ?_
                refine bindK e41 (fun r44 e45 e41 => ?_)
                refine PO.call rfl rfl rfl rfl (ks := [0]) (ts := [0]) (fr1 := [⟨0, [.list 1 (List.map cI_u8 v9) (some 0)]⟩]) rfl rfl rfl ⟨⟨_, rfl, rfl, rfl⟩, trivial⟩ (L43 k (Gwriter.mk v9) y13.width _ e45) ?_
                rintro _ _ _ ⟨rfl, rfl, rfl⟩
                refine ⟨_, _, rfl, rfl, ?_⟩
                refine PO.nil ?_
                refine PC.region ?_
                refine PO.run 3 rfl ?_
                refine bindK e41 (fun r46 e47 e41 => ?_)
                refine PO.call rfl rfl rfl rfl (ks := [0]) (ts := [0]) (fr1 := [⟨0, [.list 1 (List.map cI_u8 r44.b) (some 0)]⟩]) rfl rfl rfl ⟨⟨_, rfl, rfl, rfl⟩, trivial⟩ (L43 k r44 y13.height _ e47) ?_
                rintro _ _ _ ⟨rfl, rfl, rfl⟩
                refine ⟨_, _, rfl, rfl, ?_⟩
                refine PO.nil ?_
                refine PC.region ?_
                refine PO.run 3 rfl ?_
                refine bindK e41 (fun r48 e49 e41 => ?_)
                refine PO.call rfl rfl rfl rfl (ks := [0]) (ts := [0]) (fr1 := [⟨0, [.list 1 (List.map cI_u8 r46.b) (some 0)]⟩]) rfl rfl rfl ⟨⟨_, rfl, rfl, rfl⟩, trivial⟩ (L44 k r46 y13.over_ _ e49) ?_
                rintro _ _ _ ⟨rfl, rfl, rfl⟩
                refine ⟨_, _, rfl, rfl, ?_⟩
                refine PO.nil ?_
                refine PC.region ?_
                refine PO.run 3 rfl ?_
                refine PO.same rfl (len_ok Try.underlying76 rfl (List.length_map _)) rfl ?_
                refine PO.runK 0 [0, 1] [0] (es := [(2, .val (.slice none 0 0)), (3, .val (.int .i64 0)), (4, .ptr 0 0), (8, .ptr 1 0), (59, .list 4 (List.map cGPage a0.pages) none), (60, .val (.int .i64 (a0.pages.length : Int))), (61, .val (.int .i64 v8)), (77, .ptr 0 0), (80, .val (.int .i64 (y13.rows.length : Int)))]) (fr' := [⟨0, [.list 1 (List.map cI_u8 r48.b) (some 0)]⟩, ⟨0, (cGPage y13)⟩]) (tk' := [r48.b.length]) (by kernel_rfl) ?_
                refine bindK e41 (fun r50 e51 e41 => ?_)
                refine PO.call rfl rfl rfl rfl (ks := [0]) (ts := [0]) (fr1 := [⟨0, [.list 1 (List.map cI_u8 r48.b) (some 0)]⟩]) rfl rfl rfl ⟨⟨_, rfl, rfl, rfl⟩, trivial⟩ (L43 k r48 (y13.rows.length : Int) _ e51) ?_
                rintro _ _ _ ⟨rfl, rfl, rfl⟩
                refine ⟨_, _, rfl, rfl, ?_⟩
                refine PO.nil ?_
                refine PC.region ?_
                refine PO.run 2 rfl ?_
                refine PO.same rfl (len_ok Try.underlying76 rfl (List.length_map _)) rfl ?_
                refine PO.run 1 rfl ?_
                refine PO.nil ?_
                refine PC.lone ?_
                refine bindK e41 (fun x52 e53 e41 => ?_)
                refine PC.blockJ (fun s => ∃ (v14 : List Int), Weak s (PS.of 130 [(2, .val (.slice none 0 0)), (3, .val (.int .i64 0)), (4, .ptr 0 0), (59, .list 4 (List.map cGPage a0.pages) none), (60, .val (.int .i64 (a0.pages.length : Int))), (61, .val (.int .i64 v8))] [⟨0, [.list 1 (List.map cI_u8 v14) (some 0)]⟩] [v14.length] 0 0) ∧ v14 = x52) ?_ ?_
                · refine PC.loop (fun j54 s => ∃ (v17 : Int) (v18 : List Int), Weak s (PS.of 130 [(2, .val (.slice none 0 0)), (3, .val (.int .i64 0)), (4, .ptr 0 0), (59, .list 4 (List.map cGPage a0.pages) none), (60, .val (.int .i64 (a0.pages.length : Int))), (61, .val (.int .i64 v8)), (83, .list 4 (List.map cGRow y13.rows) none), (84, .val (.int .i64 (y13.rows.length : Int))), (85, .val (.int .i64 v17))] [⟨0, [.list 1 (List.map cI_u8 v18) (some 0)]⟩] [v18.length] 0 0) ∧ F19_l2 k y13 j54 v17 v18 = some x52) (fun j54 s => ?_) k ⟨0, r50.b, Weak.one [0] [0] (by kernel_rfl), e53⟩
                  rintro ⟨v17, v18, w55, e53⟩
                  refine PC.weak w55 ?_
                  cases j54 with
                  | zero => rw [F19_l2] at e53; cases e53
                  | succ j54 =>
                    rw [F19_l2] at e53
                    refine PC.run (n := 2) rfl ?_
                    refine PC.cond rfl (fun h56 => ?_) (fun h56 => ?_)
                    · have e53 := bif_t h56 e53
                      refine PC.noop ?_
                      refine bindK e53 (fun x57 e58 e53 => ?_)
                      refine PC.blockJ (fun s => ∃ (v21 : List Int), Weak s (PS.of 130 [(2, .val (.slice none 0 0)), (3, .val (.int .i64 0)), (4, .ptr 0 0), (59, .list 4 (List.map cGPage a0.pages) none), (60, .val (.int .i64 (a0.pages.length : Int))), (61, .val (.int .i64 v8)), (83, .list 4 (List.map cGRow y13.rows) none), (84, .val (.int .i64 (y13.rows.length : Int))), (85, .val (.int .i64 v17))] [⟨0, [.list 1 (List.map cI_u8 v21) (some 0)]⟩] [v21.length] 0 0) ∧ v21 = x57) ?_ ?_
                      · refine PC.region ?_
                        refine bindIK e58 (fun y22 h59 h60 e58 => ?_)
                        refine PO.same rfl (indexAddr_ok Try.underlying76 rfl rfl rfl h59 (map_at h60)) rfl ?_
                        refine PO.runK 3 [0, 1] [0] (es := [(2, .val (.slice none 0 0)), (3, .val (.int .i64 0)), (4, .ptr 0 0), (10, .ptr 1 0), (59, .list 4 (List.map cGPage a0.pages) none), (60, .val (.int .i64 (a0.pages.length : Int))), (61, .val (.int .i64 v8)), (83, .list 4 (List.map cGRow y13.rows) none), (84, .val (.int .i64 (y13.rows.length : Int))), (85, .val (.int .i64 v17))]) (fr' := [⟨0, [.list 1 (List.map cI_u8 v18) (some 0)]⟩, ⟨0, (cGRow y22)⟩]) (tk' := [v18.length]) (by kernel_rfl) ?_
                        refine PO.nil ?_
                        refine PC.region ?_
                        refine PO.run 3 rfl ?_
                        refine bindK e58 (fun r61 e62 e58 => ?_)
                        refine PO.call rfl rfl rfl rfl (ks := [0]) (ts := [0]) (fr1 := [⟨0, [.list 1 (List.map cI_u8 v18) (some 0)]⟩]) rfl rfl rfl ⟨⟨_, rfl, rfl, rfl⟩, trivial⟩ (L43 k (Gwriter.mk v18) y22.y _ e62) ?_
                        rintro _ _ _ ⟨rfl, rfl, rfl⟩
                        refine ⟨_, _, rfl, rfl, ?_⟩
                        refine PO.nil ?_
                        refine PC.region ?_
                        refine PO.run 3 rfl ?_
                        refine bindK e58 (fun r63 e64 e58 => ?_)
                        refine PO.call rfl rfl rfl rfl (ks := [0]) (ts := [0]) (fr1 := [⟨0, [.list 1 (List.map cI_u8 r61.b) (some 0)]⟩]) rfl rfl rfl ⟨⟨_, rfl, rfl, rfl⟩, trivial⟩ (L44 k r61 y22.over_ _ e64) ?_
                        rintro _ _ _ ⟨rfl, rfl, rfl⟩
                        refine ⟨_, _, rfl, rfl, ?_⟩
                        refine PO.nil ?_
                        refine PC.region ?_
                        refine PO.run 3 rfl ?_
                        refine bindK e58 (fun r65 e66 e58 => ?_)
                        refine PO.call rfl rfl rfl rfl (ks := [0]) (ts := [0]) (fr1 := [⟨0, [.list 1 (List.map cI_u8 r63.b) (some 0)]⟩]) rfl rfl rfl ⟨⟨_, rfl, rfl, rfl⟩, trivial⟩ (L44 k r63 y22.loose _ e66) ?_
                        rintro _ _ _ ⟨rfl, rfl, rfl⟩
                        refine ⟨_, _, rfl, rfl, ?_⟩
                        refine PO.nil ?_
                        refine PC.region ?_
                        refine PO.run 3 rfl ?_
                        refine PO.same rfl (len_ok Try.underlying79 rfl (List.length_map _)) rfl ?_
                        refine PO.runK 0 [0, 1] [0] (es := [(2, .val (.slice none 0 0)), (3, .val (.int .i64 0)), (4, .ptr 0 0), (10, .ptr 1 0), (59, .list 4 (List.map cGPage a0.pages) none), (60, .val (.int .i64 (a0.pages.length : Int))), (61, .val (.int .i64 v8)), (83, .list 4 (List.map cGRow y13.rows) none), (84, .val (.int .i64 (y13.rows.length : Int))), (85, .val (.int .i64 v17)), (101, .ptr 0 0), (104, .val (.int .i64 (y22.boxes.length : Int)))]) (fr' := [⟨0, [.list 1 (List.map cI_u8 r65.b) (some 0)]⟩, ⟨0, (cGRow y22)⟩]) (tk' := [r65.b.length]) (by kernel_rfl) ?_
                        refine bindK e58 (fun r67 e68 e58 => ?_)
                        refine PO.call rfl rfl rfl rfl (ks := [0]) (ts := [0]) (fr1 := [⟨0, [.list 1 (List.map cI_u8 r65.b) (some 0)]⟩]) rfl rfl rfl ⟨⟨_, rfl, rfl, rfl⟩, trivial⟩ (L43 k r65 (y22.boxes.length : Int) _ e68) ?_
                        rintro _ _ _ ⟨rfl, rfl, rfl⟩
                        refine ⟨_, _, rfl, rfl, ?_⟩
                        refine PO.nil ?_
                        refine PC.region ?_
                        refine PO.run 2 rfl ?_
                        refine PO.same rfl (len_ok Try.underlying79 rfl (List.length_map _)) rfl ?_
                        refine PO.run 1 rfl ?_
                        refine PO.nil ?_
                        refine PC.lone ?_
                        refine bindK e58 (fun x69 e70 e58 => ?_)
                        refine PC.blockJ (fun s => ∃ (v23 : List Int), Weak s (PS.of 130 [(2, .val (.slice none 0 0)), (3, .val (.int .i64 0)), (4, .ptr 0 0), (59, .list 4 (List.map cGPage a0.pages) none), (60, .val (.int .i64 (a0.pages.length : Int))), (61, .val (.int .i64 v8)), (83, .list 4 (List.map cGRow y13.rows) none), (84, .val (.int .i64 (y13.rows.length : Int))), (85, .val (.int .i64 v17))] [⟨0, [.list 1 (List.map cI_u8 v23) (some 0)]⟩] [v23.length] 0 0) ∧ v23 = x69) ?_ ?_
                        · refine PC.loop (fun j71 s => ∃ (v26 : Int) (v27 : List Int), Weak s (PS.of 130 [(2, .val (.slice none 0 0)), (3, .val (.int .i64 0)), (4, .ptr 0 0), (59, .list 4 (List.map cGPage a0.pages) none), (60, .val (.int .i64 (a0.pages.length : Int))), (61, .val (.int .i64 v8)), (83, .list 4 (List.map cGRow y13.rows) none), (84, .val (.int .i64 (y13.rows.length : Int))), (85, .val (.int .i64 v17)), (107, .list 10 (List.map cGBox y22.boxes) none), (108, .val (.int .i64 (y22.boxes.length : Int))), (109, .val (.int .i64 v26))] [⟨0, [.list 1 (List.map cI_u8 v27) (some 0)]⟩] [v27.length] 0 0) ∧ F19_l3 k y22 j71 v26 v27 = some x69) (fun j71 s => ?_) k ⟨0, r67.b, Weak.one [0] [0] (by kernel_rfl), e70⟩
                          rintro ⟨v26, v27, w72, e70⟩
                          refine PC.weak w72 ?_
                          cases j71 with
                          | zero => rw [F19_l3] at e70; cases e70
                          | succ j71 =>
                            rw [F19_l3] at e70
                            refine PC.run (n := 2) rfl ?_
                            refine PC.cond rfl (fun h73 => ?_) (fun h73 => ?_)
                            · have e70 := bif_t h73 e70
                              refine PC.noop ?_
                              refine PC.block ?_
                              refine PC.region ?_
                              refine bindIK e70 (fun y30 h74 h75 e70 => ?_)
                              refine PO.same rfl (indexAddr_ok Try.underlying79 rfl rfl rfl h74 (map_at h75)) rfl ?_
                              refine PO.runK 3 [0, 1] [0] (es := [(2, .val (.slice none 0 0)), (3, .val (.int .i64 0)), (4, .ptr 0 0), (12, .ptr 1 0), (59, .list 4 (List.map cGPage a0.pages) none), (60, .val (.int .i64 (a0.pages.length : Int))), (61, .val (.int .i64 v8)), (83, .list 4 (List.map cGRow y13.rows) none), (84, .val (.int .i64 (y13.rows.length : Int))), (85, .val (.int .i64 v17)), (107, .list 10 (List.map cGBox y22.boxes) none), (108, .val (.int .i64 (y22.boxes.length : Int))), (109, .val (.int .i64 v26))]) (fr' := [⟨0, [.list 1 (List.map cI_u8 v27) (some 0)]⟩, ⟨0, (cGBox y30)⟩]) (tk' := [v27.length]) (by kernel_rfl) ?_
                              refine PO.nil ?_
                              refine PC.lone ?_
                              refine PC.region ?_
                              refine PO.run 2 rfl ?_
                              refine bindK e70 (fun r76 e77 e70 => ?_)
                              refine PO.call rfl rfl rfl rfl (ks := [0]) (ts := [0]) (fr1 := [⟨0, [.list 1 (List.map cI_u8 v27) (some 0)]⟩]) rfl rfl rfl ⟨⟨_, rfl, rfl, rfl⟩, trivial⟩ (L45 k (Gwriter.mk v27) y30 _ e77) ?_
                              rintro _ _ _ ⟨rfl, rfl, rfl⟩
                              refine ⟨_, _, rfl, rfl, ?_⟩
                              refine PO.nil ?_
                              refine PC.skip (blockKP.end ?_)
                              refine PC.lone ?_
                              refine PC.run (n := 3) rfl ?_
                              exact PC.skip (loopKP.mk (Nat.lt_succ_self _) ⟨w (v26 + 1), r76.b, Weak.one [0] [0] (by kernel_rfl), e70⟩)
                            · have e70 := bif_f h73 e70
                              exact PC.exit (loopKP.exit (blockJK.here ⟨v27, Weak.one [0] [0] (by kernel_rfl), Option.some.inj e70⟩))
                        · rintro _ ⟨v23, w78, rfl⟩
                          refine PC.weak w78 ?_
                          exact PC.skip (blockJK.end ⟨v23, Weak.one [0] [0] (by kernel_rfl), Option.some.inj e58⟩)
                      · rintro _ ⟨v21, w79, rfl⟩
                        refine PC.weak w79 ?_
                        refine PC.lone ?_
                        refine PC.run (n := 3) rfl ?_
                        exact PC.skip (loopKP.mk (Nat.lt_succ_self _) ⟨w (v17 + 1), v21, Weak.one [0] [0] (by kernel_rfl), e53⟩)
                    · have e53 := bif_f h56 e53
                      exact PC.exit (loopKP.exit (blockJK.here ⟨v18, Weak.one [0] [0] (by kernel_rfl), Option.some.inj e53⟩))
                · rintro _ ⟨v14, w80, rfl⟩
                  refine PC.weak w80 ?_
                  exact PC.skip (blockJK.end ⟨v14, Weak.one [0] [0] (by kernel_rfl), Option.some.inj e41⟩)
              · rintro _ ⟨v12, w81, rfl⟩
                refine PC.weak w81 ?_
                refine PC.lone ?_
                refine PC.run (n := 3) rfl ?_
                exact PC.skip (loopKP.mk (Nat.lt_succ_self _) ⟨w (v8 + 1), v12, Weak.one [0] [0] (by kernel_rfl), e36⟩)
            · have e36 := bif_f h39 e36
              exact PC.exit (loopKP.exit (blockJK.here ⟨v9, Weak.one [0] [0] (by kernel_rfl), Option.some.inj e36⟩))
        · rintro _ ⟨v5, w82, rfl⟩
          refine PC.weak w82 ?_
          refine PC.region ?_
          refine PO.run 5 rfl ?_
          refine bindK hF (fun r83 e84 hF => ?_)
          refine PO.call rfl rfl rfl rfl (ks := []) (ts := []) (fr1 := []) rfl rfl rfl trivial (L46 k v5 _ e84) ?_
          rintro _ _ _ ⟨rfl, rfl, rfl⟩
          refine ⟨_, _, rfl, rfl, ?_⟩
          refine PO.runK 0 [0] [0] (es := [(2, .val (.slice none 0 0)), (3, .val (.int .i64 0)), (4, .ptr 0 0), (119, .ptr 0 0), (124, .val (.int .i64 r83))]) (fr' := [⟨0, [.list 1 (List.map cI_u8 v5) (some 0)]⟩]) (tk' := [v5.length]) (by kernel_rfl) ?_
          refine bindK hF (fun r85 e86 hF => ?_)
          refine PO.call rfl rfl rfl rfl (ks := [0]) (ts := [0]) (fr1 := [⟨0, [.list 1 (List.map cI_u8 v5) (some 0)]⟩]) rfl rfl rfl ⟨⟨_, rfl, rfl, rfl⟩, trivial⟩ (L43 k (Gwriter.mk v5) r83 _ e86) ?_
          rintro _ _ _ ⟨rfl, rfl, rfl⟩
          refine ⟨_, _, rfl, rfl, ?_⟩
          refine PO.nil ?_
          refine PC.run (n := 7) rfl ?_
          have hq := Option.some.inj hF
          subst hq
          exact PC.ret' (retSK [] [0] (by kernel_rfl) (.refl _) ⟨rfl, rfl, rfl⟩)

/-! 85 (*platen/answer.reader).take -/
def F85 (k : Nat) (a0 : Greader) (a1 : Int) : Option ((List Int) × Greader) :=
Option.bind (α := Bool) (bif a0.bad then (some true) else (Option.bind (α := Bool) (bif decide (a1 < 0) then (some true) else (some (decide (a1 > (a0.b.length : Int))))) fun (v2 : Bool) =>
some v2)) fun (v1 : Bool) =>
bif v1 then (some ([], (Greader.mk a0.b true))) else (bindS a0.b 0 a1 fun l3 =>
bindS a0.b a1 (a0.b.length : Int) fun l4 =>
some (l3, (Greader.mk l4 a0.bad)))
theorem L85 (k : Nat) (a0 : Greader) (a1 : Int) (r : (List Int) × Greader) (hF : F85 k a0 a1 = some r) : PF Try.prog orc 85 [.ptr 0 0, .val (.int .i64 a1)] [⟨0, (cGreader a0)⟩] [] (fun p fr tk => p = .list 1 (List.map cI_u8 r.1) none ∧ fr = [⟨0, (cGreader r.2)⟩] ∧ tk = []) := by
  unfold F85 at hF
  refine PF.enterS Try.func85 rfl rfl rfl (by kernel_rfl) rfl ?_
  refine PC.run (n := 2) rfl ?_
  refine PC.assoc ?_
  refine PC.region ?_
  refine PO.run 5 rfl ?_
  refine bindK hF (fun x1 e2 hF => ?_)
  refine PO.cut 12 (fun s => ∃ (v1 : Bool), Weak s (PS.of 42 [(0, .ptr 0 0), (1, .val (.int .i64 a1)), (4, .val (.slice none 0 0)), (22, .val (.bool v1))] [⟨0, (cGreader a0)⟩] [] 1 0) ∧ v1 = x1) ?_ ?_
  · refine PO.case (t := 10) rfl rfl (fun h3 => ?_) (fun h3 => ?_)
    · have e2 := bif_t h3 e2
      refine PO.run 2 rfl ?_
      refine PO.same rfl (pickT_ok rfl rfl rfl) rfl ?_
      refine PO.run 8 rfl ?_
      refine PO.same rfl (pickT_ok rfl rfl rfl) rfl ?_
      refine PO.nil ?_
      exact ⟨true, Weak.one [0] [] (by kernel_rfl), Option.some.inj e2⟩
    · have e2 := bif_f h3 e2
      refine PO.run 2 rfl ?_
      refine PO.same rfl (pickF_ok rfl rfl rfl) rfl ?_
      refine PO.run 1 rfl ?_
      refine bindK e2 (fun x4 e5 e2 => ?_)
      refine PO.cut 8 (fun s => ∃ (v2 : Bool), Weak s (PS.of 42 [(0, .ptr 0 0), (1, .val (.int .i64 a1)), (4, .val (.slice none 0 0)), (22, .val (.bool v2))] [⟨0, (cGreader a0)⟩] [] 1 0) ∧ v2 = x4) ?_ ?_
      · refine PO.case (t := 14) rfl rfl (fun h6 => ?_) (fun h6 => ?_)
        · have e5 := bif_t h6 e5
          refine PO.run 7 rfl ?_
          refine PO.same rfl (pickT_ok rfl rfl rfl) rfl ?_
          refine PO.nil ?_
          exact ⟨true, Weak.one [0] [] (by kernel_rfl), Option.some.inj e5⟩
        · have e5 := bif_f h6 e5
          refine PO.runK 5 [0] [] (es := [(0, .ptr 0 0), (1, .val (.int .i64 a1)), (4, .val (.slice none 0 0)), (14, .val (.bool false)), (15, .val (.int .i64 a1)), (19, .list 1 (List.map cI_u8 a0.b) none)]) (fr' := [⟨0, (cGreader a0)⟩]) (tk' := []) (by kernel_rfl) ?_
          refine PO.same rfl (len_ok Try.underlying32 rfl (List.length_map _)) rfl ?_
          refine PO.run 1 rfl ?_
          refine PO.same rfl (pickF_ok rfl rfl rfl) rfl ?_
          refine PO.nil ?_
          exact ⟨decide (a1 > (a0.b.length : Int)), Weak.one [0] [] (by kernel_rfl), Option.some.inj e5⟩
      · rintro _ ⟨v2, w7, rfl⟩
        refine PO.weak w7 ?_
        refine PO.nil ?_
        exact ⟨v2, Weak.one [0] [] (by kernel_rfl), Option.some.inj e2⟩
  · rintro _ ⟨v1, w8, rfl⟩
    refine PO.weak w8 ?_
    refine PO.nil ?_
    refine PC.cond rfl (fun h9 => ?_) (fun h9 => ?_)
    · have hF := bif_t h9 hF
      refine PC.assoc ?_
      refine PC.region ?_
      refine PO.runK 4 [0] [] (es := [(4, .val (.slice none 0 0))]) (fr' := [⟨0, [.list 1 (List.map cI_u8 a0.b) none, .val (.bool true)]⟩]) (tk' := []) (by kernel_rfl) ?_
      refine PO.nil ?_
      refine PC.assoc ?_
      refine PC.run (n := 2) rfl ?_
      have hq := Option.some.inj hF
      subst hq
      exact PC.ret (retSK [0] [] (by kernel_rfl) (.nil 1) ⟨rfl, rfl, rfl⟩)
    · have hF := bif_f h9 hF
      refine PC.noop ?_
      refine PC.region ?_
      refine PO.run 5 rfl ?_
      refine bindSK hF (fun h10 h11 h12 hF => ?_)
      generalize hgl3 : (List.take (Int.toNat a1) a0.b).drop (Int.toNat 0) = l3 at hF
      refine PO.same rfl (slice_ok (l2 := List.map cI_u8 l3) Try.underlying32 rfl rfl .none (.some rfl (Int.le_trans h10 h11) rfl) (Int.toNat_le_toNat h11) (toNat_le1 h12) (by rw [← hgl3, List.map_drop, List.map_take] <;> first | rfl | simp [w])) rfl ?_
      refine PO.run 1 rfl ?_
      refine PO.nil ?_
      refine PC.region ?_
      refine PO.run 6 rfl ?_
      refine bindSK hF (fun h13 h14 h15 hF => ?_)
      generalize hgl4 : (List.take (Int.toNat (a0.b.length : Int)) a0.b).drop (Int.toNat a1) = l4 at hF
      refine PO.same rfl (slice_ok (l2 := List.map cI_u8 l4) Try.underlying32 rfl rfl (.some rfl h13 rfl) .none (toNat_le1 h14) (Nat.le_refl _) (by rw [← hgl4, List.map_drop, List.map_take] <;> first | rfl | simp [w])) rfl ?_
      refine PO.runK 3 [0] [] (es := [(4, .val (.slice none 0 0)), (5, .list 1 (List.map cI_u8 l3) none)]) (fr' := [⟨0, [.list 1 (List.map cI_u8 l4) none, .val (.bool a0.bad)]⟩]) (tk' := []) (by kernel_rfl) ?_
      refine PO.nil ?_
      refine PC.run (n := 3) rfl ?_
      have hq := Option.some.inj hF
      subst hq
      exact PC.ret' (retSK [0] [] (by kernel_rfl) (.refl _) ⟨rfl, rfl, rfl⟩)

/-! 53 (*platen/answer.reader).number -/
def F53_l1 (k : Nat) (r1 : (List Int) × Greader) : Nat → Int → Int → Option Int
  | 0, _, _ => none
  | j5 + 1, v4, v5 =>
    bif decide (v5 < (r1.1.length : Int)) then (bindI r1.1 v5 fun y8 =>
    F53_l1 k r1 j5 (bor_u64 (w_u64 (v4 * 2 ^ 8)) (w_u64 (y8))) (w (v5 + 1))) else (some v4)
def F53 (k : Nat) (a0 : Greader) : Option (Int × Greader) :=
(F85 k a0 8).bind fun r1 =>
Option.bind (α := Int) (F53_l1 k r1 k 0 0) fun (v1 : Int) =>
some (w (v1), r1.2)
theorem L53 (k : Nat) (a0 : Greader) (r : Int × Greader) (hF : F53 k a0 = some r) : PF Try.prog orc 53 [.ptr 0 0] [⟨0, (cGreader a0)⟩] [] (fun p fr tk => p = .val (.int .i64 r.1) ∧ fr = [⟨0, (cGreader r.2)⟩] ∧ tk = []) := by
  unfold F53 at hF
  refine PF.enterS Try.func53 rfl rfl rfl (by kernel_rfl) rfl ?_
  refine PC.run (n := 2) rfl ?_
  refine PC.run (n := 2) rfl ?_
  refine PC.assoc ?_
  refine PC.region ?_
  refine PO.run 1 rfl ?_
  refine bindK hF (fun r1 e2 hF => ?_)
  refine PO.call rfl rfl rfl rfl (ks := [0]) (ts := []) (fr1 := [⟨0, (cGreader a0)⟩]) rfl rfl rfl ⟨⟨_, rfl, rfl, rfl⟩, trivial⟩ (L85 k a0 8 _ e2) ?_
  rintro _ _ _ ⟨rfl, rfl, rfl⟩
  refine ⟨_, _, rfl, rfl, ?_⟩
  refine PO.runK 0 [0] [] (es := [(2, .val (.int .i64 0)), (3, .val (.int .u64 0)), (7, .list 1 (List.map cI_u8 r1.1) none)]) (fr' := [⟨0, (cGreader r1.2)⟩]) (tk' := []) (by kernel_rfl) ?_
  refine PO.same rfl (len_ok Try.underlying32 rfl (List.length_map _)) rfl ?_
  refine PO.run 1 rfl ?_
  refine PO.nil ?_
  refine bindK hF (fun x3 e4 hF => ?_)
  refine PC.blockJ (fun s => ∃ (v1 : Int), Weak s (PS.of 21 [(2, .val (.int .i64 0)), (3, .val (.int .u64 v1))] [⟨0, (cGreader r1.2)⟩] [] 1 0) ∧ v1 = x3) ?_ ?_
  · refine PC.loop (fun j5 s => ∃ (v4 : Int) (v5 : Int), Weak s (PS.of 21 [(2, .val (.int .i64 0)), (3, .val (.int .u64 v4)), (7, .list 1 (List.map cI_u8 r1.1) none), (8, .val (.int .i64 (r1.1.length : Int))), (9, .val (.int .i64 v5))] [⟨0, (cGreader r1.2)⟩] [] 1 0) ∧ F53_l1 k r1 j5 v4 v5 = some x3) (fun j5 s => ?_) k ⟨0, 0, Weak.one [0] [] (by kernel_rfl), e4⟩
    rintro ⟨v4, v5, w6, e4⟩
    refine PC.weak w6 ?_
    cases j5 with
    | zero => rw [F53_l1] at e4; cases e4
    | succ j5 =>
      rw [F53_l1] at e4
      refine PC.run (n := 2) rfl ?_
      refine PC.cond rfl (fun h7 => ?_) (fun h7 => ?_)
      · have e4 := bif_t h7 e4
        refine PC.noop ?_
        refine PC.block ?_
        refine PC.region ?_
        refine bindIK e4 (fun y8 h8 h9 e4 => ?_)
        refine PO.same rfl (indexAddr_ok Try.underlying32 rfl rfl rfl h8 (map_at h9)) rfl ?_
        refine PO.run 2 rfl ?_
        refine PO.nil ?_
        refine PC.lone ?_
        refine PC.run (n := 7) rfl ?_
        refine PC.skip (blockKP.end ?_)
        refine PC.lone ?_
        refine PC.run (n := 3) rfl ?_
        exact PC.skip (loopKP.mk (Nat.lt_succ_self _) ⟨bor_u64 (w_u64 (v4 * 2 ^ 8)) (w_u64 (y8)), w (v5 + 1), Weak.one [0] [] (by kernel_rfl), e4⟩)
      · have e4 := bif_f h7 e4
        exact PC.exit (loopKP.exit (blockJK.here ⟨v4, Weak.one [0] [] (by kernel_rfl), Option.some.inj e4⟩))
  · rintro _ ⟨v1, w10, rfl⟩
    refine PC.weak w10 ?_
    refine PC.run (n := 4) rfl ?_
    have hq := Option.some.inj hF
    subst hq
    exact PC.ret' (retSK [0] [] (by kernel_rfl) (.refl _) ⟨rfl, rfl, rfl⟩)

/-! 54 (*platen/answer.reader).many -/
def F54 (k : Nat) (a0 : Greader) (a1 : Int) : Option (Int × Greader) :=
(F53 k a0).bind fun r1 =>
Option.bind (α := Bool) (bif decide (r1.1 < 0) then (some true) else (bindD a1 (some (decide (r1.1 > (w (Int.tdiv (r1.2.b.length : Int) a1))))))) fun (v1 : Bool) =>
bif v1 then (some (0, (Greader.mk r1.2.b true))) else (some (r1.1, r1.2))
theorem L54 (k : Nat) (a0 : Greader) (a1 : Int) (r : Int × Greader) (hF : F54 k a0 a1 = some r) : PF Try.prog orc 54 [.ptr 0 0, .val (.int .i64 a1)] [⟨0, (cGreader a0)⟩] [] (fun p fr tk => p = .val (.int .i64 r.1) ∧ fr = [⟨0, (cGreader r.2)⟩] ∧ tk = []) := by
  unfold F54 at hF
  refine PF.enterS Try.func54 rfl rfl rfl (by kernel_rfl) rfl ?_
  refine PC.run (n := 2) rfl ?_
  refine PC.region ?_
  refine PO.run 1 rfl ?_
  refine bindK hF (fun r1 e2 hF => ?_)
  refine PO.call rfl rfl rfl rfl (ks := [0]) (ts := []) (fr1 := [⟨0, (cGreader a0)⟩]) rfl rfl rfl ⟨⟨_, rfl, rfl, rfl⟩, trivial⟩ (L53 k a0 _ e2) ?_
  rintro _ _ _ ⟨rfl, rfl, rfl⟩
  refine ⟨_, _, rfl, rfl, ?_⟩
  refine PO.run 1 rfl ?_
  refine PO.nil ?_
  refine PC.assoc ?_
  refine PC.region ?_
  refine PO.run 3 rfl ?_
  refine bindK hF (fun x3 e4 hF => ?_)
  refine PO.cut 10 (fun s => ∃ (v1 : Bool), Weak s (PS.of 25 [(0, .ptr 0 0), (4, .val (.int .i64 0)), (5, .val (.int .i64 r1.1)), (20, .val (.bool v1))] [⟨0, (cGreader r1.2)⟩] [] 1 0) ∧ v1 = x3) ?_ ?_
  · refine PO.case (t := 10) rfl rfl (fun h5 => ?_) (fun h5 => ?_)
    · have e4 := bif_t h5 e4
      refine PO.run 9 rfl ?_
      refine PO.same rfl (pickT_ok rfl rfl rfl) rfl ?_
      refine PO.nil ?_
      exact ⟨true, Weak.one [0] [] (by kernel_rfl), Option.some.inj e4⟩
    · have e4 := bif_f h5 e4
      refine PO.runK 5 [0] [] (es := [(0, .ptr 0 0), (1, .val (.int .i64 a1)), (4, .val (.int .i64 0)), (5, .val (.int .i64 r1.1)), (10, .val (.bool false)), (11, .val (.int .i64 r1.1)), (15, .list 1 (List.map cI_u8 r1.2.b) none)]) (fr' := [⟨0, (cGreader r1.2)⟩]) (tk' := []) (by kernel_rfl) ?_
      refine PO.same rfl (len_ok Try.underlying32 rfl (List.length_map _)) rfl ?_
      refine PO.runK 1 [0] [] (es := [(0, .ptr 0 0), (4, .val (.int .i64 0)), (5, .val (.int .i64 r1.1)), (10, .val (.bool false)), (11, .val (.int .i64 r1.1)), (16, .val (.int .i64 (r1.2.b.length : Int))), (17, .val (.int .i64 a1))]) (fr' := [⟨0, (cGreader r1.2)⟩]) (tk' := []) (by kernel_rfl) ?_
      refine bindDK e4 (fun h6 e4 => ?_)
      refine PO.same rfl (quo_ok rfl rfl h6) rfl ?_
      refine PO.run 1 rfl ?_
      refine PO.same rfl (pickF_ok rfl rfl rfl) rfl ?_
      refine PO.nil ?_
      exact ⟨decide (r1.1 > (w (Int.tdiv (r1.2.b.length : Int) a1))), Weak.one [0] [] (by kernel_rfl), Option.some.inj e4⟩
  · rintro _ ⟨v1, w7, rfl⟩
    refine PO.weak w7 ?_
    refine PO.nil ?_
    refine PC.cond rfl (fun h8 => ?_) (fun h8 => ?_)
    · have hF := bif_t h8 hF
      refine PC.assoc ?_
      refine PC.region ?_
      refine PO.runK 4 [0] [] (es := [(4, .val (.int .i64 0))]) (fr' := [⟨0, [.list 1 (List.map cI_u8 r1.2.b) none, .val (.bool true)]⟩]) (tk' := []) (by kernel_rfl) ?_
      refine PO.nil ?_
      refine PC.assoc ?_
      refine PC.run (n := 2) rfl ?_
      have hq := Option.some.inj hF
      subst hq
      exact PC.ret (retSK [0] [] (by kernel_rfl) (.refl _) ⟨rfl, rfl, rfl⟩)
    · have hF := bif_f h8 hF
      refine PC.noop ?_
      refine PC.run (n := 3) rfl ?_
      have hq := Option.some.inj hF
      subst hq
      exact PC.ret' (retSK [0] [] (by kernel_rfl) (.refl _) ⟨rfl, rfl, rfl⟩)

/-! 86 (*platen/answer.reader).truth -/
def F86 (k : Nat) (a0 : Greader) : Option (Bool × Greader) :=
(F85 k a0 1).bind fun r1 =>
bif (r1.1.length : Int) == 0 then (some (false, r1.2)) else (Option.bind (α := Bool) (bif r1.2.bad then (some true) else (bindI r1.1 0 fun y2 =>
some (decide (y2 > 1)))) fun (v1 : Bool) =>
bindI r1.1 0 fun y3 =>
some (y3 == 1, (Greader.mk r1.2.b v1)))
theorem L86 (k : Nat) (a0 : Greader) (r : Bool × Greader) (hF : F86 k a0 = some r) : PF Try.prog orc 86 [.ptr 0 0] [⟨0, (cGreader a0)⟩] [] (fun p fr tk => p = .val (.bool r.1) ∧ fr = [⟨0, (cGreader r.2)⟩] ∧ tk = []) := by
  unfold F86 at hF
  refine PF.enterS Try.func86 rfl rfl rfl (by kernel_rfl) rfl ?_
  refine PC.run (n := 2) rfl ?_
  refine PC.region ?_
  refine PO.run 1 rfl ?_
  refine bindK hF (fun r1 e2 hF => ?_)
  refine PO.call rfl rfl rfl rfl (ks := [0]) (ts := []) (fr1 := [⟨0, (cGreader a0)⟩]) rfl rfl rfl ⟨⟨_, rfl, rfl, rfl⟩, trivial⟩ (L85 k a0 1 _ e2) ?_
  rintro _ _ _ ⟨rfl, rfl, rfl⟩
  refine ⟨_, _, rfl, rfl, ?_⟩
  refine PO.run 1 rfl ?_
  refine PO.nil ?_
  refine PC.assoc ?_
  refine PC.region ?_
  refine PO.run 1 rfl ?_
  refine PO.same rfl (len_ok Try.underlying32 rfl (List.length_map _)) rfl ?_
  refine PO.run 1 rfl ?_
  refine PO.nil ?_
  refine PC.cond rfl (fun h3 => ?_) (fun h3 => ?_)
  · have hF := bif_t h3 hF
    refine PC.assoc ?_
    refine PC.run (n := 2) rfl ?_
    have hq := Option.some.inj hF
    subst hq
    exact PC.ret (retSK [0] [] (by kernel_rfl) (.refl _) ⟨rfl, rfl, rfl⟩)
  · have hF := bif_f h3 hF
    refine PC.noop ?_
    refine PC.region ?_
    refine PO.run 6 rfl ?_
    refine bindK hF (fun x4 e5 hF => ?_)
    refine PO.cut 5 (fun s => ∃ (v1 : Bool), Weak s (PS.of 26 [(2, .val (.bool false)), (3, .list 1 (List.map cI_u8 r1.1) none), (9, .ptr 0 0), (19, .val (.bool v1))] [⟨0, (cGreader r1.2)⟩] [] 1 0) ∧ v1 = x4) ?_ ?_
    · refine PO.case (t := 14) rfl rfl (fun h6 => ?_) (fun h6 => ?_)
      · have e5 := bif_t h6 e5
        refine PO.run 4 rfl ?_
        refine PO.same rfl (pickT_ok rfl rfl rfl) rfl ?_
        refine PO.nil ?_
        exact ⟨true, Weak.one [0] [] (by kernel_rfl), Option.some.inj e5⟩
      · have e5 := bif_f h6 e5
        refine PO.runK 1 [0] [] (es := [(2, .val (.bool false)), (3, .list 1 (List.map cI_u8 r1.1) none), (9, .ptr 0 0), (14, .val (.bool false)), (15, .list 1 (List.map cI_u8 r1.1) none)]) (fr' := [⟨0, (cGreader r1.2)⟩]) (tk' := []) (by kernel_rfl) ?_
        refine bindIK e5 (fun y2 h7 h8 e5 => ?_)
        refine PO.same rfl (indexAddr_ok Try.underlying32 rfl rfl rfl h7 (map_at h8)) rfl ?_
        refine PO.run 2 rfl ?_
        refine PO.same rfl (pickF_ok rfl rfl rfl) rfl ?_
        refine PO.nil ?_
        exact ⟨decide (y2 > 1), Weak.one [0] [] (by kernel_rfl), Option.some.inj e5⟩
    · rintro _ ⟨v1, w9, rfl⟩
      refine PO.weak w9 ?_
      refine PO.runK 3 [0] [] (es := [(2, .val (.bool false)), (3, .list 1 (List.map cI_u8 r1.1) none)]) (fr' := [⟨0, [.list 1 (List.map cI_u8 r1.2.b) none, .val (.bool v1)]⟩]) (tk' := []) (by kernel_rfl) ?_
      refine PO.nil ?_
      refine PC.region ?_
      refine PO.run 1 rfl ?_
      refine bindIK hF (fun y3 h10 h11 hF => ?_)
      refine PO.same rfl (indexAddr_ok Try.underlying32 rfl rfl rfl h10 (map_at h11)) rfl ?_
      refine PO.run 3 rfl ?_
      refine PO.nil ?_
      have hq := Option.some.inj hF
      subst hq
      exact PC.ret' (retSK [0] [] (by kernel_rfl) (.refl _) ⟨rfl, rfl, rfl⟩)

/-! 108 (*platen/answer.reader).text -/
def F108 (k : Nat) (a0 : Greader) : Option (ByteArray × Greader) :=
(F53 k a0).bind fun r1 =>
(F85 k r1.2 r1.1).bind fun r3 =>
some (strOf r3.1, r3.2)
theorem L108 (k : Nat) (a0 : Greader) (r : ByteArray × Greader) (hF : F108 k a0 = some r) : PF Try.prog orc 108 [.ptr 0 0] [⟨0, (cGreader a0)⟩] [] (fun p fr tk => p = .val (.string r.1) ∧ fr = [⟨0, (cGreader r.2)⟩] ∧ tk = []) := by
  unfold F108 at hF
  refine PF.enterS Try.func108 rfl rfl rfl (by kernel_rfl) rfl ?_
  refine PC.run (n := 2) rfl ?_
  refine PC.region ?_
  refine PO.run 2 rfl ?_
  refine bindK hF (fun r1 e2 hF => ?_)
  refine PO.call rfl rfl rfl rfl (ks := [0]) (ts := []) (fr1 := [⟨0, (cGreader a0)⟩]) rfl rfl rfl ⟨⟨_, rfl, rfl, rfl⟩, trivial⟩ (L53 k a0 _ e2) ?_
  rintro _ _ _ ⟨rfl, rfl, rfl⟩
  refine ⟨_, _, rfl, rfl, ?_⟩
  refine PO.runK 0 [0] [] (es := [(2, .val (.string ByteArray.empty)), (3, .ptr 0 0), (5, .val (.int .i64 r1.1))]) (fr' := [⟨0, (cGreader r1.2)⟩]) (tk' := []) (by kernel_rfl) ?_
  refine bindK hF (fun r3 e4 hF => ?_)
  refine PO.call rfl rfl rfl rfl (ks := [0]) (ts := []) (fr1 := [⟨0, (cGreader r1.2)⟩]) rfl rfl rfl ⟨⟨_, rfl, rfl, rfl⟩, trivial⟩ (L85 k r1.2 r1.1 _ e4) ?_
  rintro _ _ _ ⟨rfl, rfl, rfl⟩
  refine ⟨_, _, rfl, rfl, ?_⟩
  refine PO.runK 0 [0] [] (es := [(2, .val (.string ByteArray.empty)), (6, .list 1 (List.map cI_u8 r3.1) none)]) (fr' := [⟨0, (cGreader r3.2)⟩]) (tk' := []) (by kernel_rfl) ?_
  refine PO.same rfl (convList_ok Try.underlying32 Try.underlying9 Try.underlying5 rfl) rfl ?_
  refine PO.run 1 rfl ?_
  refine PO.nil ?_
  have hq := Option.some.inj hF
  subst hq
  exact PC.ret' (retSK [0] [] (by kernel_rfl) (.refl _) ⟨rfl, rfl, rfl⟩)

/-! 102 (*platen/answer.reader).box -/
def F102 (k : Nat) (a0 : Greader) : Option (GBox × Greader) :=
(F53 k a0).bind fun r1 =>
(F53 k r1.2).bind fun r3 =>
(F108 k r3.2).bind fun r5 =>
(F53 k r5.2).bind fun r7 =>
(F53 k r7.2).bind fun r9 =>
(F53 k r9.2).bind fun r11 =>
(F53 k r11.2).bind fun r13 =>
(F53 k r13.2).bind fun r15 =>
(F53 k r15.2).bind fun r17 =>
(F53 k r17.2).bind fun r19 =>
some ((GBox.mk r1.1 r3.1 r5.1 r7.1 r9.1 r11.1 r13.1 r15.1 r17.1 r19.1), r19.2)
theorem L102 (k : Nat) (a0 : Greader) (r : GBox × Greader) (hF : F102 k a0 = some r) : PF Try.prog orc 102 [.ptr 0 0] [⟨0, (cGreader a0)⟩] [] (fun p fr tk => p = .agg (cGBox r.1) ∧ fr = [⟨0, (cGreader r.2)⟩] ∧ tk = []) := by
  unfold F102 at hF
  refine PF.enterS Try.func102 rfl rfl rfl (by kernel_rfl) rfl ?_
  refine PC.region ?_
  refine PO.runK 1 [0, 1] [] (es := [(0, .ptr 0 0), (2, .ptr 1 0)]) (fr' := [⟨0, (cGreader a0)⟩, ⟨0, [.val (.int .i64 0), .val (.int .i64 0), .val (.string ByteArray.empty), .val (.int .i64 0), .val (.int .i64 0), .val (.int .i64 0), .val (.int .i64 0), .val (.int .i64 0), .val (.int .i64 0), .val (.int .i64 0)]⟩]) (tk' := []) (by kernel_rfl) ?_
  refine PO.nil ?_
  refine PC.region ?_
  refine PO.run 1 rfl ?_
  refine bindK hF (fun r1 e2 hF => ?_)
  refine PO.call rfl rfl rfl rfl (ks := [0]) (ts := []) (fr1 := [⟨0, (cGreader a0)⟩]) rfl rfl rfl ⟨⟨_, rfl, rfl, rfl⟩, trivial⟩ (L53 k a0 _ e2) ?_
  rintro _ _ _ ⟨rfl, rfl, rfl⟩
  refine ⟨_, _, rfl, rfl, ?_⟩
  refine PO.runK 1 [0, 1] [] (es := [(0, .ptr 0 0), (2, .ptr 1 0), (5, .val (.int .i64 r1.1)), (6, .ptr 0 0)]) (fr' := [⟨0, (cGreader r1.2)⟩, ⟨0, [.val (.int .i64 0), .val (.int .i64 0), .val (.string ByteArray.empty), .val (.int .i64 0), .val (.int .i64 0), .val (.int .i64 0), .val (.int .i64 0), .val (.int .i64 0), .val (.int .i64 0), .val (.int .i64 0)]⟩]) (tk' := []) (by kernel_rfl) ?_
  refine bindK hF (fun r3 e4 hF => ?_)
  refine PO.call rfl rfl rfl rfl (ks := [0]) (ts := []) (fr1 := [⟨0, (cGreader r1.2)⟩]) rfl rfl rfl ⟨⟨_, rfl, rfl, rfl⟩, trivial⟩ (L53 k r1.2 _ e4) ?_
  rintro _ _ _ ⟨rfl, rfl, rfl⟩
  refine ⟨_, _, rfl, rfl, ?_⟩
  refine PO.runK 1 [0, 1] [] (es := [(0, .ptr 0 0), (2, .ptr 1 0), (5, .val (.int .i64 r1.1)), (7, .val (.int .i64 r3.1)), (8, .ptr 0 0)]) (fr' := [⟨0, (cGreader r3.2)⟩, ⟨0, [.val (.int .i64 0), .val (.int .i64 0), .val (.string ByteArray.empty), .val (.int .i64 0), .val (.int .i64 0), .val (.int .i64 0), .val (.int .i64 0), .val (.int .i64 0), .val (.int .i64 0), .val (.int .i64 0)]⟩]) (tk' := []) (by kernel_rfl) ?_
  refine bindK hF (fun r5 e6 hF => ?_)
  refine PO.call rfl rfl rfl rfl (ks := [0]) (ts := []) (fr1 := [⟨0, (cGreader r3.2)⟩]) rfl rfl rfl ⟨⟨_, rfl, rfl, rfl⟩, trivial⟩ (L108 k r3.2 _ e6) ?_
  rintro _ _ _ ⟨rfl, rfl, rfl⟩
  refine ⟨_, _, rfl, rfl, ?_⟩
  refine PO.runK 3 [0, 1, 2] [] (es := [(0, .ptr 0 0), (2, .ptr 1 0), (3, .ptr 2 0)]) (fr' := [⟨0, (cGreader r5.2)⟩, ⟨0, [.val (.int .i64 0), .val (.int .i64 0), .val (.string ByteArray.empty), .val (.int .i64 0), .val (.int .i64 0), .val (.int .i64 0), .val (.int .i64 0), .val (.int .i64 0), .val (.int .i64 0), .val (.int .i64 0)]⟩, ⟨0, [.val (.int .i64 r1.1), .val (.int .i64 r3.1), .val (.string r5.1), .val (.int .i64 0), .val (.int .i64 0), .val (.int .i64 0), .val (.int .i64 0), .val (.int .i64 0), .val (.int .i64 0), .val (.int .i64 0)]⟩]) (tk' := []) (by kernel_rfl) ?_
  refine PO.nil ?_
  refine PC.region ?_
  refine PO.run 1 rfl ?_
  refine bindK hF (fun r7 e8 hF => ?_)
  refine PO.call rfl rfl rfl rfl (ks := [0]) (ts := []) (fr1 := [⟨0, (cGreader r5.2)⟩]) rfl rfl rfl ⟨⟨_, rfl, rfl, rfl⟩, trivial⟩ (L53 k r5.2 _ e8) ?_
  rintro _ _ _ ⟨rfl, rfl, rfl⟩
  refine ⟨_, _, rfl, rfl, ?_⟩
  refine PO.runK 1 [0, 1, 2] [] (es := [(0, .ptr 0 0), (2, .ptr 1 0), (3, .ptr 2 0), (12, .val (.int .i64 r7.1)), (13, .ptr 0 0)]) (fr' := [⟨0, (cGreader r7.2)⟩, ⟨0, [.val (.int .i64 0), .val (.int .i64 0), .val (.string ByteArray.empty), .val (.int .i64 0), .val (.int .i64 0), .val (.int .i64 0), .val (.int .i64 0), .val (.int .i64 0), .val (.int .i64 0), .val (.int .i64 0)]⟩, ⟨0, [.val (.int .i64 r1.1), .val (.int .i64 r3.1), .val (.string r5.1), .val (.int .i64 0), .val (.int .i64 0), .val (.int .i64 0), .val (.int .i64 0), .val (.int .i64 0), .val (.int .i64 0), .val (.int .i64 0)]⟩]) (tk' := []) (by kernel_rfl) ?_
  refine bindK hF (fun r9 e10 hF => ?_)
  refine PO.call rfl rfl rfl rfl (ks := [0]) (ts := []) (fr1 := [⟨0, (cGreader r7.2)⟩]) rfl rfl rfl ⟨⟨_, rfl, rfl, rfl⟩, trivial⟩ (L53 k r7.2 _ e10) ?_
  rintro _ _ _ ⟨rfl, rfl, rfl⟩
  refine ⟨_, _, rfl, rfl, ?_⟩
  refine PO.runK 1 [0, 1, 2] [] (es := [(0, .ptr 0 0), (2, .ptr 1 0), (3, .ptr 2 0), (12, .val (.int .i64 r7.1)), (14, .val (.int .i64 r9.1)), (15, .ptr 0 0)]) (fr' := [⟨0, (cGreader r9.2)⟩, ⟨0, [.val (.int .i64 0), .val (.int .i64 0), .val (.string ByteArray.empty), .val (.int .i64 0), .val (.int .i64 0), .val (.int .i64 0), .val (.int .i64 0), .val (.int .i64 0), .val (.int .i64 0), .val (.int .i64 0)]⟩, ⟨0, [.val (.int .i64 r1.1), .val (.int .i64 r3.1), .val (.string r5.1), .val (.int .i64 0), .val (.int .i64 0), .val (.int .i64 0), .val (.int .i64 0), .val (.int .i64 0), .val (.int .i64 0), .val (.int .i64 0)]⟩]) (tk' := []) (by kernel_rfl) ?_
  refine bindK hF (fun r11 e12 hF => ?_)
  refine PO.call rfl rfl rfl rfl (ks := [0]) (ts := []) (fr1 := [⟨0, (cGreader r9.2)⟩]) rfl rfl rfl ⟨⟨_, rfl, rfl, rfl⟩, trivial⟩ (L53 k r9.2 _ e12) ?_
  rintro _ _ _ ⟨rfl, rfl, rfl⟩
  refine ⟨_, _, rfl, rfl, ?_⟩
  refine PO.runK 6 [0, 1, 2] [] (es := [(0, .ptr 0 0), (2, .ptr 1 0), (3, .ptr 2 0)]) (fr' := [⟨0, (cGreader r11.2)⟩, ⟨0, [.val (.int .i64 0), .val (.int .i64 0), .val (.string ByteArray.empty), .val (.int .i64 0), .val (.int .i64 0), .val (.int .i64 0), .val (.int .i64 0), .val (.int .i64 0), .val (.int .i64 0), .val (.int .i64 0)]⟩, ⟨0, [.val (.int .i64 r1.1), .val (.int .i64 r3.1), .val (.string r5.1), .val (.int .i64 r7.1), .val (.int .i64 r9.1), .val (.int .i64 r11.1), .val (.int .i64 0), .val (.int .i64 0), .val (.int .i64 0), .val (.int .i64 0)]⟩]) (tk' := []) (by kernel_rfl) ?_
  refine PO.nil ?_
  refine PC.region ?_
  refine PO.run 1 rfl ?_
  refine bindK hF (fun r13 e14 hF => ?_)
  refine PO.call rfl rfl rfl rfl (ks := [0]) (ts := []) (fr1 := [⟨0, (cGreader r11.2)⟩]) rfl rfl rfl ⟨⟨_, rfl, rfl, rfl⟩, trivial⟩ (L53 k r11.2 _ e14) ?_
  rintro _ _ _ ⟨rfl, rfl, rfl⟩
  refine ⟨_, _, rfl, rfl, ?_⟩
  refine PO.runK 1 [0, 1, 2] [] (es := [(0, .ptr 0 0), (2, .ptr 1 0), (3, .ptr 2 0), (21, .val (.int .i64 r13.1)), (22, .ptr 0 0)]) (fr' := [⟨0, (cGreader r13.2)⟩, ⟨0, [.val (.int .i64 0), .val (.int .i64 0), .val (.string ByteArray.empty), .val (.int .i64 0), .val (.int .i64 0), .val (.int .i64 0), .val (.int .i64 0), .val (.int .i64 0), .val (.int .i64 0), .val (.int .i64 0)]⟩, ⟨0, [.val (.int .i64 r1.1), .val (.int .i64 r3.1), .val (.string r5.1), .val (.int .i64 r7.1), .val (.int .i64 r9.1), .val (.int .i64 r11.1), .val (.int .i64 0), .val (.int .i64 0), .val (.int .i64 0), .val (.int .i64 0)]⟩]) (tk' := []) (by kernel_rfl) ?_
  refine bindK hF (fun r15 e16 hF => ?_)
  refine PO.call rfl rfl rfl rfl (ks := [0]) (ts := []) (fr1 := [⟨0, (cGreader r13.2)⟩]) rfl rfl rfl ⟨⟨_, rfl, rfl, rfl⟩, trivial⟩ (L53 k r13.2 _ e16) ?_
  rintro _ _ _ ⟨rfl, rfl, rfl⟩
  refine ⟨_, _, rfl, rfl, ?_⟩
  refine PO.runK 4 [0, 1, 2] [] (es := [(0, .ptr 0 0), (2, .ptr 1 0), (3, .ptr 2 0)]) (fr' := [⟨0, (cGreader r15.2)⟩, ⟨0, [.val (.int .i64 0), .val (.int .i64 0), .val (.string ByteArray.empty), .val (.int .i64 0), .val (.int .i64 0), .val (.int .i64 0), .val (.int .i64 0), .val (.int .i64 0), .val (.int .i64 0), .val (.int .i64 0)]⟩, ⟨0, [.val (.int .i64 r1.1), .val (.int .i64 r3.1), .val (.string r5.1), .val (.int .i64 r7.1), .val (.int .i64 r9.1), .val (.int .i64 r11.1), .val (.int .i64 r13.1), .val (.int .i64 r15.1), .val (.int .i64 0), .val (.int .i64 0)]⟩]) (tk' := []) (by kernel_rfl) ?_
  refine PO.nil ?_
  refine PC.region ?_
  refine PO.run 1 rfl ?_
  refine bindK hF (fun r17 e18 hF => ?_)
  refine PO.call rfl rfl rfl rfl (ks := [0]) (ts := []) (fr1 := [⟨0, (cGreader r15.2)⟩]) rfl rfl rfl ⟨⟨_, rfl, rfl, rfl⟩, trivial⟩ (L53 k r15.2 _ e18) ?_
  rintro _ _ _ ⟨rfl, rfl, rfl⟩
  refine ⟨_, _, rfl, rfl, ?_⟩
  refine PO.runK 1 [0, 1, 2] [] (es := [(2, .ptr 1 0), (3, .ptr 2 0), (27, .val (.int .i64 r17.1)), (28, .ptr 0 0)]) (fr' := [⟨0, (cGreader r17.2)⟩, ⟨0, [.val (.int .i64 0), .val (.int .i64 0), .val (.string ByteArray.empty), .val (.int .i64 0), .val (.int .i64 0), .val (.int .i64 0), .val (.int .i64 0), .val (.int .i64 0), .val (.int .i64 0), .val (.int .i64 0)]⟩, ⟨0, [.val (.int .i64 r1.1), .val (.int .i64 r3.1), .val (.string r5.1), .val (.int .i64 r7.1), .val (.int .i64 r9.1), .val (.int .i64 r11.1), .val (.int .i64 r13.1), .val (.int .i64 r15.1), .val (.int .i64 0), .val (.int .i64 0)]⟩]) (tk' := []) (by kernel_rfl) ?_
  refine bindK hF (fun r19 e20 hF => ?_)
  refine PO.call rfl rfl rfl rfl (ks := [0]) (ts := []) (fr1 := [⟨0, (cGreader r17.2)⟩]) rfl rfl rfl ⟨⟨_, rfl, rfl, rfl⟩, trivial⟩ (L53 k r17.2 _ e20) ?_
  rintro _ _ _ ⟨rfl, rfl, rfl⟩
  refine ⟨_, _, rfl, rfl, ?_⟩
  refine PO.runK 4 [0, 1, 2] [] (es := [(2, .ptr 1 0), (3, .ptr 2 0)]) (fr' := [⟨0, (cGreader r19.2)⟩, ⟨0, [.val (.int .i64 0), .val (.int .i64 0), .val (.string ByteArray.empty), .val (.int .i64 0), .val (.int .i64 0), .val (.int .i64 0), .val (.int .i64 0), .val (.int .i64 0), .val (.int .i64 0), .val (.int .i64 0)]⟩, ⟨0, [.val (.int .i64 r1.1), .val (.int .i64 r3.1), .val (.string r5.1), .val (.int .i64 r7.1), .val (.int .i64 r9.1), .val (.int .i64 r11.1), .val (.int .i64 r13.1), .val (.int .i64 r15.1), .val (.int .i64 r17.1), .val (.int .i64 r19.1)]⟩]) (tk' := []) (by kernel_rfl) ?_
  refine PO.nil ?_
  refine PC.region ?_
  refine PO.runK 2 [0, 1] [] (es := [(2, .ptr 1 0)]) (fr' := [⟨0, (cGreader r19.2)⟩, ⟨0, [.val (.int .i64 r1.1), .val (.int .i64 r3.1), .val (.string r5.1), .val (.int .i64 r7.1), .val (.int .i64 r9.1), .val (.int .i64 r11.1), .val (.int .i64 r13.1), .val (.int .i64 r15.1), .val (.int .i64 r17.1), .val (.int .i64 r19.1)]⟩]) (tk' := []) (by kernel_rfl) ?_
  refine PO.nil ?_
  have hq := Option.some.inj hF
  subst hq
  exact PC.ret' (retSK [0] [] (by kernel_rfl) (.refl _) ⟨rfl, rfl, rfl⟩)

/-! 87 (*platen/answer.reader).row -/
def F87_l1 (k : Nat) : Nat → Int → (List Int) → Bool → (List GBox) → Option ((List Int) × Bool × (List GBox))
  | 0, _, _, _, _ => none
  | j11 + 1, v8, v9, v10, v11 =>
    Option.bind (α := Bool) (bif decide (v8 > 0) then (some (!v10)) else (some false)) fun (v16 : Bool) =>
    bif v16 then ((F102 k (Greader.mk v9 v10)).bind fun r18 =>
    bindA 88 v11 ([r18.1]) fun l17 =>
    F87_l1 k j11 (w (v8 - 1)) r18.2.b r18.2.bad l17) else (some (v9, v10, v11))
def F87 (k : Nat) (a0 : Greader) : Option (GRow × Greader) :=
(F53 k a0).bind fun r1 =>
(F86 k r1.2).bind fun r3 =>
(F86 k r3.2).bind fun r5 =>
(F54 k r5.2 72).bind fun r7 =>
Option.bind (α := (List Int) × Bool × (List GBox)) (F87_l1 k k r7.1 r7.2.b r7.2.bad ([] : List GBox)) fun (v1, v2, v3) =>
some ((GRow.mk r1.1 r3.1 r5.1 v3), (Greader.mk v1 v2))
theorem L87 (k : Nat) (a0 : Greader) (r : GRow × Greader) (hF : F87 k a0 = some r) : PF Try.prog orc 87 [.ptr 0 0] [⟨0, (cGreader a0)⟩] [] (fun p fr tk => p = .agg (cGRow r.1) ∧ fr = [⟨0, (cGreader r.2)⟩] ∧ tk = []) := by
  unfold F87 at hF
  refine PF.enterS Try.func87 rfl rfl rfl (by kernel_rfl) rfl ?_
  refine PC.region ?_
  refine PO.runK 1 [0, 1] [] (es := [(0, .ptr 0 0), (2, .ptr 1 0)]) (fr' := [⟨0, (cGreader a0)⟩, ⟨0, [.val (.int .i64 0), .val (.bool false), .val (.bool false), .val (.slice none 0 0)]⟩]) (tk' := []) (by kernel_rfl) ?_
  refine PO.nil ?_
  refine PC.region ?_
  refine PO.run 1 rfl ?_
  refine bindK hF (fun r1 e2 hF => ?_)
  refine PO.call rfl rfl rfl rfl (ks := [0]) (ts := []) (fr1 := [⟨0, (cGreader a0)⟩]) rfl rfl rfl ⟨⟨_, rfl, rfl, rfl⟩, trivial⟩ (L53 k a0 _ e2) ?_
  rintro _ _ _ ⟨rfl, rfl, rfl⟩
  refine ⟨_, _, rfl, rfl, ?_⟩
  refine PO.runK 1 [0, 1] [] (es := [(0, .ptr 0 0), (2, .ptr 1 0), (6, .val (.int .i64 r1.1)), (7, .ptr 0 0)]) (fr' := [⟨0, (cGreader r1.2)⟩, ⟨0, [.val (.int .i64 0), .val (.bool false), .val (.bool false), .val (.slice none 0 0)]⟩]) (tk' := []) (by kernel_rfl) ?_
  refine bindK hF (fun r3 e4 hF => ?_)
  refine PO.call rfl rfl rfl rfl (ks := [0]) (ts := []) (fr1 := [⟨0, (cGreader r1.2)⟩]) rfl rfl rfl ⟨⟨_, rfl, rfl, rfl⟩, trivial⟩ (L86 k r1.2 _ e4) ?_
  rintro _ _ _ ⟨rfl, rfl, rfl⟩
  refine ⟨_, _, rfl, rfl, ?_⟩
  refine PO.runK 1 [0, 1] [] (es := [(0, .ptr 0 0), (2, .ptr 1 0), (6, .val (.int .i64 r1.1)), (8, .val (.bool r3.1)), (9, .ptr 0 0)]) (fr' := [⟨0, (cGreader r3.2)⟩, ⟨0, [.val (.int .i64 0), .val (.bool false), .val (.bool false), .val (.slice none 0 0)]⟩]) (tk' := []) (by kernel_rfl) ?_
  refine bindK hF (fun r5 e6 hF => ?_)
  refine PO.call rfl rfl rfl rfl (ks := [0]) (ts := []) (fr1 := [⟨0, (cGreader r3.2)⟩]) rfl rfl rfl ⟨⟨_, rfl, rfl, rfl⟩, trivial⟩ (L86 k r3.2 _ e6) ?_
  rintro _ _ _ ⟨rfl, rfl, rfl⟩
  refine ⟨_, _, rfl, rfl, ?_⟩
  refine PO.runK 3 [0, 1, 2] [] (es := [(0, .ptr 0 0), (2, .ptr 1 0), (3, .ptr 2 0)]) (fr' := [⟨0, (cGreader r5.2)⟩, ⟨0, [.val (.int .i64 0), .val (.bool false), .val (.bool false), .val (.slice none 0 0)]⟩, ⟨0, [.val (.int .i64 r1.1), .val (.bool r3.1), .val (.bool r5.1), .val (.slice none 0 0)]⟩]) (tk' := []) (by kernel_rfl) ?_
  refine PO.nil ?_
  refine PC.assoc ?_
  refine PC.region ?_
  refine PO.run 1 rfl ?_
  refine bindK hF (fun r7 e8 hF => ?_)
  refine PO.call rfl rfl rfl rfl (ks := [0]) (ts := []) (fr1 := [⟨0, (cGreader r5.2)⟩]) rfl rfl rfl ⟨⟨_, rfl, rfl, rfl⟩, trivial⟩ (L54 k r5.2 72 _ e8) ?_
  rintro _ _ _ ⟨rfl, rfl, rfl⟩
  refine ⟨_, _, rfl, rfl, ?_⟩
  refine PO.run 1 rfl ?_
  refine PO.nil ?_
  refine bindK hF (fun x9 e10 hF => ?_)
  refine PC.blockJ (fun s => ∃ (v1 : List Int) (v2 : Bool) (v3 : List GBox), Weak s (PS.of 33 [(2, .ptr 1 0), (3, .ptr 2 0)] [⟨0, [.list 1 (List.map cI_u8 v1) none, .val (.bool v2)]⟩, ⟨0, [.val (.int .i64 0), .val (.bool false), .val (.bool false), .list 10 (List.map cGBox ([] : List GBox)) (some 0)]⟩, ⟨0, [.val (.int .i64 r1.1), .val (.bool r3.1), .val (.bool r5.1), .list 10 (List.map cGBox v3) (some 1)]⟩] [(([] : List GBox)).length, v3.length] 1 0) ∧ (v1, v2, v3) = x9) ?_ ?_
  · refine PC.weak (s' := PS.of 33 [(0, .ptr 0 0), (2, .ptr 1 0), (3, .ptr 2 0), (4, .val (.int .i64 r7.1))] [⟨0, (cGreader r7.2)⟩, ⟨0, [.val (.int .i64 0), .val (.bool false), .val (.bool false), .list 10 (List.map cGBox ([] : List GBox)) (some 0)]⟩, ⟨0, [.val (.int .i64 r1.1), .val (.bool r3.1), .val (.bool r5.1), .list 10 (List.map cGBox ([] : List GBox)) (some 1)]⟩] [0, 0] 1 0) (Weak.mk [0, 1, 2] [] 2 rfl rfl rfl ⟨⟨_, _, rfl, rfl, rfl, (LessL.refl _)⟩, ⟨⟨_, _, rfl, rfl, rfl, (LessL.cons (.refl _) (LessL.cons (.refl _) (LessL.cons (.refl _) (LessL.cons (.nilt 10 0 rfl rfl) (LessL.refl _)))))⟩, ⟨⟨_, _, rfl, rfl, rfl, (LessL.cons (.refl _) (LessL.cons (.refl _) (LessL.cons (.refl _) (LessL.cons (.nilt 10 1 rfl rfl) (LessL.refl _)))))⟩, trivial⟩⟩⟩ ⟨⟨_, _, rfl, rfl, .refl _⟩, ⟨⟨_, _, rfl, rfl, .refl _⟩, ⟨⟨_, _, rfl, rfl, .refl _⟩, ⟨⟨_, _, rfl, rfl, .refl _⟩, trivial⟩⟩⟩⟩) ?_
    refine PC.loop (fun j11 s => ∃ (v8 : Int) (v9 : List Int) (v10 : Bool) (v11 : List GBox), Weak s (PS.of 33 [(0, .ptr 0 0), (2, .ptr 1 0), (3, .ptr 2 0), (4, .val (.int .i64 v8))] [⟨0, [.list 1 (List.map cI_u8 v9) none, .val (.bool v10)]⟩, ⟨0, [.val (.int .i64 0), .val (.bool false), .val (.bool false), .list 10 (List.map cGBox ([] : List GBox)) (some 0)]⟩, ⟨0, [.val (.int .i64 r1.1), .val (.bool r3.1), .val (.bool r5.1), .list 10 (List.map cGBox v11) (some 1)]⟩] [(([] : List GBox)).length, v11.length] 1 0) ∧ F87_l1 k j11 v8 v9 v10 v11 = some x9) (fun j11 s => ?_) k ⟨r7.1, r7.2.b, r7.2.bad, ([] : List GBox), Weak.one [0, 1, 2] [0, 1] (by kernel_rfl), e10⟩
    rintro ⟨v8, v9, v10, v11, w12, e10⟩
    refine PC.weak w12 ?_
    cases j11 with
    | zero => rw [F87_l1] at e10; cases e10
    | succ j11 =>
      rw [F87_l1] at e10
      refine PC.assoc ?_
      refine PC.region ?_
      refine PO.run 3 rfl ?_
      refine bindK e10 (fun x13 e14 e10 => ?_)
      refine PO.cut 6 (fun s => ∃ (v16 : Bool), Weak s (PS.of 33 [(0, .ptr 0 0), (2, .ptr 1 0), (3, .ptr 2 0), (4, .val (.int .i64 v8)), (22, .val (.bool v16))] [⟨0, [.list 1 (List.map cI_u8 v9) none, .val (.bool v10)]⟩, ⟨0, [.val (.int .i64 0), .val (.bool false), .val (.bool false), .list 10 (List.map cGBox ([] : List GBox)) (some 0)]⟩, ⟨0, [.val (.int .i64 r1.1), .val (.bool r3.1), .val (.bool r5.1), .list 10 (List.map cGBox v11) (some 1)]⟩] [(([] : List GBox)).length, v11.length] 1 0) ∧ v16 = x13) ?_ ?_
      · refine PO.case (t := 16) rfl rfl (fun h15 => ?_) (fun h15 => ?_)
        · have e14 := bif_t h15 e14
          refine PO.run 5 rfl ?_
          refine PO.same rfl (pickT_ok rfl rfl rfl) rfl ?_
          refine PO.nil ?_
          exact ⟨!v10, Weak.one [0, 1, 2] [0, 1] (by kernel_rfl), Option.some.inj e14⟩
        · have e14 := bif_f h15 e14
          refine PO.run 5 rfl ?_
          refine PO.same rfl (pickF_ok rfl rfl rfl) rfl ?_
          refine PO.nil ?_
          exact ⟨false, Weak.one [0, 1, 2] [0, 1] (by kernel_rfl), Option.some.inj e14⟩
      · rintro _ ⟨v16, w16, rfl⟩
        refine PO.weak w16 ?_
        refine PO.nil ?_
        refine PC.cond rfl (fun h17 => ?_) (fun h17 => ?_)
        · have e10 := bif_t h17 e10
          refine PC.noop ?_
          refine PC.block ?_
          refine PC.lone ?_
          refine PC.draw [2, 3, 4, 0, 1, 5, 6, 7] (by kernel_rfl) ?_
          refine PD.runK 1 (js' := [3, 4, 0, 1, 5, 6, 7]) (σ' := ⟨4, 0, 0, []⟩) (es := [(0, .ptr 0 0), (2, .ptr 1 0), (3, .ptr 2 0), (4, .val (.int .i64 v8)), (27, .ptr 0 0)]) (fr' := [⟨0, [.list 1 (List.map cI_u8 v9) none, .val (.bool v10)]⟩, ⟨0, [.val (.int .i64 0), .val (.bool false), .val (.bool false), .list 10 (List.map cGBox ([] : List GBox)) (some 0)]⟩, ⟨0, [.val (.int .i64 r1.1), .val (.bool r3.1), .val (.bool r5.1), .list 10 (List.map cGBox v11) (some 1)]⟩]) (tk' := [(([] : List GBox)).length, v11.length]) (by kernel_rfl) ?_
          refine bindK e10 (fun r18 e19 e10 => ?_)
          refine PD.call rfl rfl (by kernel_rfl) rfl rfl rfl (ks := [0]) (ts := []) (fr1 := [⟨0, [.list 1 (List.map cI_u8 v9) none, .val (.bool v10)]⟩]) rfl rfl rfl ⟨⟨_, rfl, rfl, rfl⟩, trivial⟩ (L102 k (Greader.mk v9 v10) _ e19) ?_
          rintro _ _ _ ⟨rfl, rfl, rfl⟩
          refine ⟨_, _, rfl, rfl, ?_⟩
          refine PD.runK 3 (js' := [5, 6, 7]) (σ' := ⟨31, 28, 12, [(4, [], true), (3, [0], true)]⟩) (es := [(0, .ptr 0 0), (2, .ptr 1 0), (3, .ptr 2 0), (4, .val (.int .i64 v8)), (26, .list 10 (List.map cGBox v11) (some 1)), (29, .list 10 (List.map cGBox ([r18.1])) (some 2))]) (fr' := [⟨0, (cGreader r18.2)⟩, ⟨0, [.val (.int .i64 0), .val (.bool false), .val (.bool false), .list 10 (List.map cGBox ([] : List GBox)) (some 0)]⟩, ⟨0, [.val (.int .i64 r1.1), .val (.bool r3.1), .val (.bool r5.1), .list 10 (List.map cGBox v11) (some 1)]⟩]) (tk' := [(([] : List GBox)).length, v11.length, 1]) (by kernel_rfl) ?_
          refine bindAK e10 (fun h20 e10 => ?_)
          generalize hgl17 : v11 ++ ([r18.1]) = l17 at e10
          refine PD.chiefS rfl (by kernel_rfl) rfl (append_effect (L := v11) (M := [r18.1]) (f := cGBox) (sz := 10) (bytes := 88) Try.underlying79 rfl rfl rfl rfl rfl rfl rfl rfl rfl rfl rfl rfl h20 hgl17) rfl ?_
          refine PD.runK 2 (js' := []) (σ' := ⟨255, 255, 127, [(7, [2], false), (5, [2], true), (4, [2], true), (3, [2, 0], true)]⟩) (es := [(0, .ptr 0 0), (2, .ptr 1 0), (3, .ptr 2 0), (4, .val (.int .i64 v8))]) (fr' := [⟨0, (cGreader r18.2)⟩, ⟨0, [.val (.int .i64 0), .val (.bool false), .val (.bool false), .list 10 (List.map cGBox ([] : List GBox)) (some 0)]⟩, ⟨0, [.val (.int .i64 r1.1), .val (.bool r3.1), .val (.bool r5.1), .list 10 (List.map cGBox l17) (some 1)]⟩]) (tk' := [(([] : List GBox)).length, l17.length, 1]) (by kernel_rfl) ?_
          refine PD.done [0, 1, 2] [0, 1] (es := [(0, .ptr 0 0), (2, .ptr 1 0), (3, .ptr 2 0), (4, .val (.int .i64 v8))]) (fr' := [⟨0, (cGreader r18.2)⟩, ⟨0, [.val (.int .i64 0), .val (.bool false), .val (.bool false), .list 10 (List.map cGBox ([] : List GBox)) (some 0)]⟩, ⟨0, [.val (.int .i64 r1.1), .val (.bool r3.1), .val (.bool r5.1), .list 10 (List.map cGBox l17) (some 1)]⟩]) (tk' := [(([] : List GBox)).length, l17.length]) (by kernel_rfl) (by kernel_rfl) ?_
          refine PC.skip (blockKP.end ?_)
          refine PC.lone ?_
          refine PC.run (n := 4) rfl ?_
          exact PC.skip (loopKP.mk (Nat.lt_succ_self _) ⟨w (v8 - 1), r18.2.b, r18.2.bad, l17, Weak.one [0, 1, 2] [0, 1] (by kernel_rfl), e10⟩)
        · have e10 := bif_f h17 e10
          exact PC.exit (loopKP.exit (blockJK.here ⟨v9, v10, v11, Weak.one [0, 1, 2] [0, 1] (by kernel_rfl), Option.some.inj e10⟩))
  · rintro _ ⟨v1, v2, v3, w21, rfl⟩
    refine PC.weak w21 ?_
    refine PC.region ?_
    refine PO.runK 2 [0, 1] [1] (es := [(2, .ptr 1 0)]) (fr' := [⟨0, [.list 1 (List.map cI_u8 v1) none, .val (.bool v2)]⟩, ⟨0, [.val (.int .i64 r1.1), .val (.bool r3.1), .val (.bool r5.1), .list 10 (List.map cGBox v3) (some 0)]⟩]) (tk' := [v3.length]) (by kernel_rfl) ?_
    refine PO.nil ?_
    have hq := Option.some.inj hF
    subst hq
    exact PC.ret' (retSK [0] [] (by kernel_rfl) (.refl _) ⟨rfl, rfl, rfl⟩)

/-! 55 (*platen/answer.reader).page -/
def F55_l1 (k : Nat) : Nat → Int → (List Int) → Bool → (List GRow) → Option ((List Int) × Bool × (List GRow))
  | 0, _, _, _, _ => none
  | j11 + 1, v8, v9, v10, v11 =>
    Option.bind (α := Bool) (bif decide (v8 > 0) then (some (!v10)) else (some false)) fun (v16 : Bool) =>
    bif v16 then ((F87 k (Greader.mk v9 v10)).bind fun r18 =>
    bindA 40 v11 ([r18.1]) fun l17 =>
    F55_l1 k j11 (w (v8 - 1)) r18.2.b r18.2.bad l17) else (some (v9, v10, v11))
def F55 (k : Nat) (a0 : Greader) : Option (GPage × Greader) :=
(F53 k a0).bind fun r1 =>
(F53 k r1.2).bind fun r3 =>
(F86 k r3.2).bind fun r5 =>
(F54 k r5.2 18).bind fun r7 =>
Option.bind (α := (List Int) × Bool × (List GRow)) (F55_l1 k k r7.1 r7.2.b r7.2.bad ([] : List GRow)) fun (v1, v2, v3) =>
some ((GPage.mk r1.1 r3.1 r5.1 v3), (Greader.mk v1 v2))
theorem L55 (k : Nat) (a0 : Greader) (r : GPage × Greader) (hF : F55 k a0 = some r) : PF Try.prog orc 55 [.ptr 0 0] [⟨0, (cGreader a0)⟩] [] (fun p fr tk => p = .agg (cGPage r.1) ∧ fr = [⟨0, (cGreader r.2)⟩] ∧ tk = []) := by
  unfold F55 at hF
  refine PF.enterS Try.func55 rfl rfl rfl (by kernel_rfl) rfl ?_
  refine PC.region ?_
  refine PO.runK 1 [0, 1] [] (es := [(0, .ptr 0 0), (2, .ptr 1 0)]) (fr' := [⟨0, (cGreader a0)⟩, ⟨0, [.val (.int .i64 0), .val (.int .i64 0), .val (.bool false), .val (.slice none 0 0)]⟩]) (tk' := []) (by kernel_rfl) ?_
  refine PO.nil ?_
  refine PC.region ?_
  refine PO.run 1 rfl ?_
  refine bindK hF (fun r1 e2 hF => ?_)
  refine PO.call rfl rfl rfl rfl (ks := [0]) (ts := []) (fr1 := [⟨0, (cGreader a0)⟩]) rfl rfl rfl ⟨⟨_, rfl, rfl, rfl⟩, trivial⟩ (L53 k a0 _ e2) ?_
  rintro _ _ _ ⟨rfl, rfl, rfl⟩
  refine ⟨_, _, rfl, rfl, ?_⟩
  refine PO.runK 1 [0, 1] [] (es := [(0, .ptr 0 0), (2, .ptr 1 0), (6, .val (.int .i64 r1.1)), (7, .ptr 0 0)]) (fr' := [⟨0, (cGreader r1.2)⟩, ⟨0, [.val (.int .i64 0), .val (.int .i64 0), .val (.bool false), .val (.slice none 0 0)]⟩]) (tk' := []) (by kernel_rfl) ?_
  refine bindK hF (fun r3 e4 hF => ?_)
  refine PO.call rfl rfl rfl rfl (ks := [0]) (ts := []) (fr1 := [⟨0, (cGreader r1.2)⟩]) rfl rfl rfl ⟨⟨_, rfl, rfl, rfl⟩, trivial⟩ (L53 k r1.2 _ e4) ?_
  rintro _ _ _ ⟨rfl, rfl, rfl⟩
  refine ⟨_, _, rfl, rfl, ?_⟩
  refine PO.runK 1 [0, 1] [] (es := [(0, .ptr 0 0), (2, .ptr 1 0), (6, .val (.int .i64 r1.1)), (8, .val (.int .i64 r3.1)), (9, .ptr 0 0)]) (fr' := [⟨0, (cGreader r3.2)⟩, ⟨0, [.val (.int .i64 0), .val (.int .i64 0), .val (.bool false), .val (.slice none 0 0)]⟩]) (tk' := []) (by kernel_rfl) ?_
  refine bindK hF (fun r5 e6 hF => ?_)
  refine PO.call rfl rfl rfl rfl (ks := [0]) (ts := []) (fr1 := [⟨0, (cGreader r3.2)⟩]) rfl rfl rfl ⟨⟨_, rfl, rfl, rfl⟩, trivial⟩ (L86 k r3.2 _ e6) ?_
  rintro _ _ _ ⟨rfl, rfl, rfl⟩
  refine ⟨_, _, rfl, rfl, ?_⟩
  refine PO.runK 3 [0, 1, 2] [] (es := [(0, .ptr 0 0), (2, .ptr 1 0), (3, .ptr 2 0)]) (fr' := [⟨0, (cGreader r5.2)⟩, ⟨0, [.val (.int .i64 0), .val (.int .i64 0), .val (.bool false), .val (.slice none 0 0)]⟩, ⟨0, [.val (.int .i64 r1.1), .val (.int .i64 r3.1), .val (.bool r5.1), .val (.slice none 0 0)]⟩]) (tk' := []) (by kernel_rfl) ?_
  refine PO.nil ?_
  refine PC.assoc ?_
  refine PC.region ?_
  refine PO.run 1 rfl ?_
  refine bindK hF (fun r7 e8 hF => ?_)
  refine PO.call rfl rfl rfl rfl (ks := [0]) (ts := []) (fr1 := [⟨0, (cGreader r5.2)⟩]) rfl rfl rfl ⟨⟨_, rfl, rfl, rfl⟩, trivial⟩ (L54 k r5.2 18 _ e8) ?_
  rintro _ _ _ ⟨rfl, rfl, rfl⟩
  refine ⟨_, _, rfl, rfl, ?_⟩
  refine PO.run 1 rfl ?_
  refine PO.nil ?_
  refine bindK hF (fun x9 e10 hF => ?_)
  refine PC.blockJ (fun s => ∃ (v1 : List Int) (v2 : Bool) (v3 : List GRow), Weak s (PS.of 33 [(2, .ptr 1 0), (3, .ptr 2 0)] [⟨0, [.list 1 (List.map cI_u8 v1) none, .val (.bool v2)]⟩, ⟨0, [.val (.int .i64 0), .val (.int .i64 0), .val (.bool false), .list 4 (List.map cGRow ([] : List GRow)) (some 0)]⟩, ⟨0, [.val (.int .i64 r1.1), .val (.int .i64 r3.1), .val (.bool r5.1), .list 4 (List.map cGRow v3) (some 1)]⟩] [(([] : List GRow)).length, v3.length] 1 0) ∧ (v1, v2, v3) = x9) ?_ ?_
  · refine PC.weak (s' := PS.of 33 [(0, .ptr 0 0), (2, .ptr 1 0), (3, .ptr 2 0), (4, .val (.int .i64 r7.1))] [⟨0, (cGreader r7.2)⟩, ⟨0, [.val (.int .i64 0), .val (.int .i64 0), .val (.bool false), .list 4 (List.map cGRow ([] : List GRow)) (some 0)]⟩, ⟨0, [.val (.int .i64 r1.1), .val (.int .i64 r3.1), .val (.bool r5.1), .list 4 (List.map cGRow ([] : List GRow)) (some 1)]⟩] [0, 0] 1 0) (Weak.mk [0, 1, 2] [] 2 rfl rfl rfl ⟨⟨_, _, rfl, rfl, rfl, (LessL.refl _)⟩, ⟨⟨_, _, rfl, rfl, rfl, (LessL.cons (.refl _) (LessL.cons (.refl _) (LessL.cons (.refl _) (LessL.cons (.nilt 4 0 rfl rfl) (LessL.refl _)))))⟩, ⟨⟨_, _, rfl, rfl, rfl, (LessL.cons (.refl _) (LessL.cons (.refl _) (LessL.cons (.refl _) (LessL.cons (.nilt 4 1 rfl rfl) (LessL.refl _)))))⟩, trivial⟩⟩⟩ ⟨⟨_, _, rfl, rfl, .refl _⟩, ⟨⟨_, _, rfl, rfl, .refl _⟩, ⟨⟨_, _, rfl, rfl, .refl _⟩, ⟨⟨_, _, rfl, rfl, .refl _⟩, trivial⟩⟩⟩⟩) ?_
    refine PC.loop (fun j11 s => ∃ (v8 : Int) (v9 : List Int) (v10 : Bool) (v11 : List GRow), Weak s (PS.of 33 [(0, .ptr 0 0), (2, .ptr 1 0), (3, .ptr 2 0), (4, .val (.int .i64 v8))] [⟨0, [.list 1 (List.map cI_u8 v9) none, .val (.bool v10)]⟩, ⟨0, [.val (.int .i64 0), .val (.int .i64 0), .val (.bool false), .list 4 (List.map cGRow ([] : List GRow)) (some 0)]⟩, ⟨0, [.val (.int .i64 r1.1), .val (.int .i64 r3.1), .val (.bool r5.1), .list 4 (List.map cGRow v11) (some 1)]⟩] [(([] : List GRow)).length, v11.length] 1 0) ∧ F55_l1 k j11 v8 v9 v10 v11 = some x9) (fun j11 s => ?_) k ⟨r7.1, r7.2.b, r7.2.bad, ([] : List GRow), Weak.one [0, 1, 2] [0, 1] (by kernel_rfl), e10⟩
    rintro ⟨v8, v9, v10, v11, w12, e10⟩
    refine PC.weak w12 ?_
    cases j11 with
    | zero => rw [F55_l1] at e10; cases e10
    | succ j11 =>
      rw [F55_l1] at e10
      refine PC.assoc ?_
      refine PC.region ?_
      refine PO.run 3 rfl ?_
      refine bindK e10 (fun x13 e14 e10 => ?_)
      refine PO.cut 6 (fun s => ∃ (v16 : Bool), Weak s (PS.of 33 [(0, .ptr 0 0), (2, .ptr 1 0), (3, .ptr 2 0), (4, .val (.int .i64 v8)), (22, .val (.bool v16))] [⟨0, [.list 1 (List.map cI_u8 v9) none, .val (.bool v10)]⟩, ⟨0, [.val (.int .i64 0), .val (.int .i64 0), .val (.bool false), .list 4 (List.map cGRow ([] : List GRow)) (some 0)]⟩, ⟨0, [.val (.int .i64 r1.1), .val (.int .i64 r3.1), .val (.bool r5.1), .list 4 (List.map cGRow v11) (some 1)]⟩] [(([] : List GRow)).length, v11.length] 1 0) ∧ v16 = x13) ?_ ?_
      · refine PO.case (t := 16) rfl rfl (fun h15 => ?_) (fun h15 => ?_)
        · have e14 := bif_t h15 e14
          refine PO.run 5 rfl ?_
          refine PO.same rfl (pickT_ok rfl rfl rfl) rfl ?_
          refine PO.nil ?_
          exact ⟨!v10, Weak.one [0, 1, 2] [0, 1] (by kernel_rfl), Option.some.inj e14⟩
        · have e14 := bif_f h15 e14
          refine PO.run 5 rfl ?_
          refine PO.same rfl (pickF_ok rfl rfl rfl) rfl ?_
          refine PO.nil ?_
          exact ⟨false, Weak.one [0, 1, 2] [0, 1] (by kernel_rfl), Option.some.inj e14⟩
      · rintro _ ⟨v16, w16, rfl⟩
        refine PO.weak w16 ?_
        refine PO.nil ?_
        refine PC.cond rfl (fun h17 => ?_) (fun h17 => ?_)
        · have e10 := bif_t h17 e10
          refine PC.noop ?_
          refine PC.block ?_
          refine PC.lone ?_
          refine PC.draw [2, 3, 4, 0, 1, 5, 6, 7] (by kernel_rfl) ?_
          refine PD.runK 1 (js' := [3, 4, 0, 1, 5, 6, 7]) (σ' := ⟨4, 0, 0, []⟩) (es := [(0, .ptr 0 0), (2, .ptr 1 0), (3, .ptr 2 0), (4, .val (.int .i64 v8)), (27, .ptr 0 0)]) (fr' := [⟨0, [.list 1 (List.map cI_u8 v9) none, .val (.bool v10)]⟩, ⟨0, [.val (.int .i64 0), .val (.int .i64 0), .val (.bool false), .list 4 (List.map cGRow ([] : List GRow)) (some 0)]⟩, ⟨0, [.val (.int .i64 r1.1), .val (.int .i64 r3.1), .val (.bool r5.1), .list 4 (List.map cGRow v11) (some 1)]⟩]) (tk' := [(([] : List GRow)).length, v11.length]) (by kernel_rfl) ?_
          refine bindK e10 (fun r18 e19 e10 => ?_)
          refine PD.call rfl rfl (by kernel_rfl) rfl rfl rfl (ks := [0]) (ts := []) (fr1 := [⟨0, [.list 1 (List.map cI_u8 v9) none, .val (.bool v10)]⟩]) rfl rfl rfl ⟨⟨_, rfl, rfl, rfl⟩, trivial⟩ (L87 k (Greader.mk v9 v10) _ e19) ?_
          rintro _ _ _ ⟨rfl, rfl, rfl⟩
          refine ⟨_, _, rfl, rfl, ?_⟩
          refine PD.runK 3 (js' := [5, 6, 7]) (σ' := ⟨31, 28, 12, [(4, [], true), (3, [0], true)]⟩) (es := [(0, .ptr 0 0), (2, .ptr 1 0), (3, .ptr 2 0), (4, .val (.int .i64 v8)), (26, .list 4 (List.map cGRow v11) (some 1)), (29, .list 4 (List.map cGRow ([r18.1])) (some 2))]) (fr' := [⟨0, (cGreader r18.2)⟩, ⟨0, [.val (.int .i64 0), .val (.int .i64 0), .val (.bool false), .list 4 (List.map cGRow ([] : List GRow)) (some 0)]⟩, ⟨0, [.val (.int .i64 r1.1), .val (.int .i64 r3.1), .val (.bool r5.1), .list 4 (List.map cGRow v11) (some 1)]⟩]) (tk' := [(([] : List GRow)).length, v11.length, 1]) (by kernel_rfl) ?_
          refine bindAK e10 (fun h20 e10 => ?_)
          generalize hgl17 : v11 ++ ([r18.1]) = l17 at e10
          refine PD.chiefS rfl (by kernel_rfl) rfl (append_effect (L := v11) (M := [r18.1]) (f := cGRow) (sz := 4) (bytes := 40) Try.underlying76 rfl rfl rfl rfl rfl rfl rfl rfl rfl rfl rfl rfl h20 hgl17) rfl ?_
          refine PD.runK 2 (js' := []) (σ' := ⟨255, 255, 127, [(7, [2], false), (5, [2], true), (4, [2], true), (3, [2, 0], true)]⟩) (es := [(0, .ptr 0 0), (2, .ptr 1 0), (3, .ptr 2 0), (4, .val (.int .i64 v8))]) (fr' := [⟨0, (cGreader r18.2)⟩, ⟨0, [.val (.int .i64 0), .val (.int .i64 0), .val (.bool false), .list 4 (List.map cGRow ([] : List GRow)) (some 0)]⟩, ⟨0, [.val (.int .i64 r1.1), .val (.int .i64 r3.1), .val (.bool r5.1), .list 4 (List.map cGRow l17) (some 1)]⟩]) (tk' := [(([] : List GRow)).length, l17.length, 1]) (by kernel_rfl) ?_
          refine PD.done [0, 1, 2] [0, 1] (es := [(0, .ptr 0 0), (2, .ptr 1 0), (3, .ptr 2 0), (4, .val (.int .i64 v8))]) (fr' := [⟨0, (cGreader r18.2)⟩, ⟨0, [.val (.int .i64 0), .val (.int .i64 0), .val (.bool false), .list 4 (List.map cGRow ([] : List GRow)) (some 0)]⟩, ⟨0, [.val (.int .i64 r1.1), .val (.int .i64 r3.1), .val (.bool r5.1), .list 4 (List.map cGRow l17) (some 1)]⟩]) (tk' := [(([] : List GRow)).length, l17.length]) (by kernel_rfl) (by kernel_rfl) ?_
          refine PC.skip (blockKP.end ?_)
          refine PC.lone ?_
          refine PC.run (n := 4) rfl ?_
          exact PC.skip (loopKP.mk (Nat.lt_succ_self _) ⟨w (v8 - 1), r18.2.b, r18.2.bad, l17, Weak.one [0, 1, 2] [0, 1] (by kernel_rfl), e10⟩)
        · have e10 := bif_f h17 e10
          exact PC.exit (loopKP.exit (blockJK.here ⟨v9, v10, v11, Weak.one [0, 1, 2] [0, 1] (by kernel_rfl), Option.some.inj e10⟩))
  · rintro _ ⟨v1, v2, v3, w21, rfl⟩
    refine PC.weak w21 ?_
    refine PC.region ?_
    refine PO.runK 2 [0, 1] [1] (es := [(2, .ptr 1 0)]) (fr' := [⟨0, [.list 1 (List.map cI_u8 v1) none, .val (.bool v2)]⟩, ⟨0, [.val (.int .i64 r1.1), .val (.int .i64 r3.1), .val (.bool r5.1), .list 4 (List.map cGRow v3) (some 0)]⟩]) (tk' := [v3.length]) (by kernel_rfl) ?_
    refine PO.nil ?_
    have hq := Option.some.inj hF
    subst hq
    exact PC.ret' (retSK [0] [] (by kernel_rfl) (.refl _) ⟨rfl, rfl, rfl⟩)

/-! 24 platen/answer.Get -/
def F24_l1 (k : Nat) : Nat → Int → (List Int) → Bool → (List GPage) → Option ((List Int) × Bool × (List GPage))
  | 0, _, _, _, _ => none
  | j35 + 1, v13, v14, v15, v16 =>
    Option.bind (α := Bool) (bif decide (v13 > 0) then (some (!v15)) else (some false)) fun (v21 : Bool) =>
    bif v21 then ((F55 k (Greader.mk v14 v15)).bind fun r42 =>
    bindA 48 v16 ([r42.1]) fun l22 =>
    F24_l1 k j35 (w (v13 - 1)) r42.2.b r42.2.bad l22) else (some (v14, v15, v16))
def F24 (k : Nat) (a0 : List Int) : Option (GAnswer × Int) :=
Option.bind (α := Bool) (bif decide ((w ((a0.length : Int) - 8)) < 48) then (some true) else (bindS a0 0 8 fun l2 =>
some (!(strEq (strOf l2) (ByteArray.mk #[112, 108, 97, 116, 101, 110, 65, 49]))))) fun (v1 : Bool) =>
bif v1 then (some ((GAnswer.mk 0 0 0 0 ([])), 200)) else (bindS a0 (w ((a0.length : Int) - 8)) (a0.length : Int) fun l3 =>
(F53 k (Greader.mk l3 false)).bind fun r12 =>
bindS a0 0 (w ((a0.length : Int) - 8)) fun l4 =>
(F46 k l4).bind fun r17 =>
bif r12.1 != r17 then (some ((GAnswer.mk 0 0 0 0 ([])), 200)) else (bindS a0 8 (w ((a0.length : Int) - 8)) fun l5 =>
(F53 k (Greader.mk l5 false)).bind fun r23 =>
(F53 k r23.2).bind fun r25 =>
(F53 k r25.2).bind fun r27 =>
(F53 k r27.2).bind fun r29 =>
(F54 k r29.2 25).bind fun r31 =>
Option.bind (α := (List Int) × Bool × (List GPage)) (F24_l1 k k r31.1 r31.2.b r31.2.bad ([] : List GPage)) fun (v6, v7, v8) =>
Option.bind (α := Bool) (bif v7 then (some true) else (Option.bind (α := Bool) (bif decide ((v6.length : Int) > 0) then (some true) else (Option.bind (α := Bool) (bif decide (r27.1 < 0) then (some true) else (Option.bind (α := Bool) (bif decide (r29.1 < 0) then (some true) else (Option.bind (α := Bool) (bif r23.1 != 0 then (some (decide ((v8.length : Int) > 0))) else (some false)) fun (v27 : Bool) =>
some v27)) fun (v26 : Bool) =>
some v26)) fun (v25 : Bool) =>
some v25)) fun (v24 : Bool) =>
some v24)) fun (v23 : Bool) =>
bif v23 then (some ((GAnswer.mk 0 0 0 0 ([])), 200)) else (some ((GAnswer.mk r23.1 r25.1 r27.1 r29.1 v8), 0))))
theorem L24 (k : Nat) (a0 : List Int) (r : GAnswer × Int) (hF : F24 k a0 = some r) : PF Try.prog orc 24 [.list 1 (List.map cI_u8 a0) none] [] [] (fun p fr tk => p = .tup [.agg (cGAnswer r.1), .val (.int .i64 r.2)] ∧ fr = [] ∧ tk = []) := by
  unfold F24 at hF
  refine PF.enterS Try.func24 rfl rfl rfl (by kernel_rfl) rfl ?_
  refine PC.region ?_
  refine PO.runK 2 [0] [] (es := [(0, .list 1 (List.map cI_u8 a0) none), (2, .ptr 0 0), (3, .val (.int .i64 0))]) (fr' := [⟨0, [.val (.int .i64 0), .val (.int .i64 0), .val (.int .i64 0), .val (.int .i64 0), .val (.slice none 0 0)]⟩]) (tk' := []) (by kernel_rfl) ?_
  refine PO.nil ?_
  refine PC.region ?_
  refine PO.run 1 rfl ?_
  refine PO.same rfl (len_ok Try.underlying32 rfl (List.length_map _)) rfl ?_
  refine PO.run 2 rfl ?_
  refine PO.nil ?_
  refine PC.assoc ?_
  refine PC.region ?_
  refine PO.run 3 rfl ?_
  refine bindK hF (fun x1 e2 hF => ?_)
  refine PO.cut 5 (fun s => ∃ (v1 : Bool), Weak s (PS.of 105 [(0, .list 1 (List.map cI_u8 a0) none), (2, .ptr 0 0), (3, .val (.int .i64 0)), (4, .val (.int .i64 (w ((a0.length : Int) - 8)))), (19, .val (.bool v1))] [⟨0, [.val (.int .i64 0), .val (.int .i64 0), .val (.int .i64 0), .val (.int .i64 0), .val (.slice none 0 0)]⟩] [] 0 0) ∧ v1 = x1) ?_ ?_
  · refine PO.case (t := 14) rfl rfl (fun h3 => ?_) (fun h3 => ?_)
    · have e2 := bif_t h3 e2
      refine PO.run 4 rfl ?_
      refine PO.same rfl (pickT_ok rfl rfl rfl) rfl ?_
      refine PO.nil ?_
      exact ⟨true, Weak.one [0] [] (by kernel_rfl), Option.some.inj e2⟩
    · have e2 := bif_f h3 e2
      refine PO.runK 1 [0] [] (es := [(0, .list 1 (List.map cI_u8 a0) none), (2, .ptr 0 0), (3, .val (.int .i64 0)), (4, .val (.int .i64 (w ((a0.length : Int) - 8)))), (14, .val (.bool false)), (15, .list 1 (List.map cI_u8 a0) none)]) (fr' := [⟨0, [.val (.int .i64 0), .val (.int .i64 0), .val (.int .i64 0), .val (.int .i64 0), .val (.slice none 0 0)]⟩]) (tk' := []) (by kernel_rfl) ?_
      refine bindSK e2 (fun h4 h5 h6 e2 => ?_)
      generalize hgl2 : (List.take (Int.toNat 8) a0).drop (Int.toNat 0) = l2 at e2
      refine PO.same rfl (slice_ok (l2 := List.map cI_u8 l2) Try.underlying32 rfl rfl .none (.some rfl (Int.le_trans h4 h5) rfl) (Int.toNat_le_toNat h5) (toNat_le1 h6) (by rw [← hgl2, List.map_drop, List.map_take] <;> first | rfl | simp [w])) rfl ?_
      refine PO.runK 0 [0] [] (es := [(0, .list 1 (List.map cI_u8 a0) none), (2, .ptr 0 0), (3, .val (.int .i64 0)), (4, .val (.int .i64 (w ((a0.length : Int) - 8)))), (14, .val (.bool false)), (16, .list 1 (List.map cI_u8 l2) none)]) (fr' := [⟨0, [.val (.int .i64 0), .val (.int .i64 0), .val (.int .i64 0), .val (.int .i64 0), .val (.slice none 0 0)]⟩]) (tk' := []) (by kernel_rfl) ?_
      refine PO.same rfl (convList_ok Try.underlying32 Try.underlying9 Try.underlying5 rfl) rfl ?_
      refine PO.runK 0 [0] [] (es := [(0, .list 1 (List.map cI_u8 a0) none), (2, .ptr 0 0), (3, .val (.int .i64 0)), (4, .val (.int .i64 (w ((a0.length : Int) - 8)))), (14, .val (.bool false)), (17, .val (.string (strOf l2)))]) (fr' := [⟨0, [.val (.int .i64 0), .val (.int .i64 0), .val (.int .i64 0), .val (.int .i64 0), .val (.slice none 0 0)]⟩]) (tk' := []) (by kernel_rfl) ?_
      refine PO.same rfl (strNe_ok rfl rfl) rfl ?_
      refine PO.same rfl (pickF_ok rfl rfl rfl) rfl ?_
      refine PO.nil ?_
      exact ⟨!(strEq (strOf l2) (ByteArray.mk #[112, 108, 97, 116, 101, 110, 65, 49])), Weak.one [0] [] (by kernel_rfl), Option.some.inj e2⟩
  · rintro _ ⟨v1, w7, rfl⟩
    refine PO.weak w7 ?_
    refine PO.nil ?_
    refine PC.cond rfl (fun h8 => ?_) (fun h8 => ?_)
    · have hF := bif_t h8 hF
      refine PC.assoc ?_
      refine PC.region ?_
      refine PO.runK 3 [0] [] (es := [(2, .ptr 0 0), (3, .val (.int .i64 200))]) (fr' := [⟨0, [.val (.int .i64 0), .val (.int .i64 0), .val (.int .i64 0), .val (.int .i64 0), .val (.slice none 0 0)]⟩]) (tk' := []) (by kernel_rfl) ?_
      refine PO.nil ?_
      have hq := Option.some.inj hF
      subst hq
      exact PC.ret (retSK [] [] (by kernel_rfl) (Less.tupL (LessL.cons (Less.aggL (LessL.cons (.refl _) (LessL.cons (.refl _) (LessL.cons (.refl _) (LessL.cons (.refl _) (LessL.cons (.nil 4) (LessL.refl _))))))) (LessL.refl _))) ⟨rfl, rfl, rfl⟩)
    · have hF := bif_f h8 hF
      refine PC.noop ?_
      refine PC.assoc ?_
      refine PC.region ?_
      refine PO.run 2 rfl ?_
      refine bindSK hF (fun h9 h10 h11 hF => ?_)
      generalize hgl3 : (List.take (Int.toNat (a0.length : Int)) a0).drop (Int.toNat (w ((a0.length : Int) - 8))) = l3 at hF
      refine PO.same rfl (slice_ok (l2 := List.map cI_u8 l3) Try.underlying32 rfl rfl (.some rfl h9 rfl) .none (toNat_le1 h10) (Nat.le_refl _) (by rw [← hgl3, List.map_drop, List.map_take] <;> first | rfl | simp [w])) rfl ?_
      refine PO.runK 2 [0, 1] [] (es := [(0, .list 1 (List.map cI_u8 a0) none), (2, .ptr 0 0), (3, .val (.int .i64 0)), (4, .val (.int .i64 (w ((a0.length : Int) - 8)))), (25, .ptr 1 0)]) (fr' := [⟨0, [.val (.int .i64 0), .val (.int .i64 0), .val (.int .i64 0), .val (.int .i64 0), .val (.slice none 0 0)]⟩, ⟨0, [.list 1 (List.map cI_u8 l3) none, .val (.bool false)]⟩]) (tk' := []) (by kernel_rfl) ?_
      refine bindK hF (fun r12 e13 hF => ?_)
      refine PO.call rfl rfl rfl rfl (ks := [1]) (ts := []) (fr1 := [⟨0, [.list 1 (List.map cI_u8 l3) none, .val (.bool false)]⟩]) rfl rfl rfl ⟨⟨_, rfl, rfl, rfl⟩, trivial⟩ (L53 k (Greader.mk l3 false) _ e13) ?_
      rintro _ _ _ ⟨rfl, rfl, rfl⟩
      refine ⟨_, _, rfl, rfl, ?_⟩
      refine PO.run 1 rfl ?_
      refine PO.nil ?_
      refine PC.assoc ?_
      refine PC.region ?_
      refine PO.run 3 rfl ?_
      refine bindSK hF (fun h14 h15 h16 hF => ?_)
      generalize hgl4 : (List.take (Int.toNat (w ((a0.length : Int) - 8))) a0).drop (Int.toNat 0) = l4 at hF
      refine PO.same rfl (slice_ok (l2 := List.map cI_u8 l4) Try.underlying32 rfl rfl .none (.some rfl (Int.le_trans h14 h15) rfl) (Int.toNat_le_toNat h15) (toNat_le1 h16) (by rw [← hgl4, List.map_drop, List.map_take] <;> first | rfl | simp [w])) rfl ?_
      refine PO.runK 0 [0] [] (es := [(0, .list 1 (List.map cI_u8 a0) none), (2, .ptr 0 0), (3, .val (.int .i64 0)), (4, .val (.int .i64 (w ((a0.length : Int) - 8)))), (27, .val (.int .i64 r12.1)), (30, .list 1 (List.map cI_u8 l4) none)]) (fr' := [⟨0, [.val (.int .i64 0), .val (.int .i64 0), .val (.int .i64 0), .val (.int .i64 0), .val (.slice none 0 0)]⟩]) (tk' := []) (by kernel_rfl) ?_
      refine bindK hF (fun r17 e18 hF => ?_)
      refine PO.call rfl rfl rfl rfl (ks := []) (ts := []) (fr1 := []) rfl rfl rfl trivial (L46 k l4 _ e18) ?_
      rintro _ _ _ ⟨rfl, rfl, rfl⟩
      refine ⟨_, _, rfl, rfl, ?_⟩
      refine PO.run 1 rfl ?_
      refine PO.nil ?_
      refine PC.cond rfl (fun h19 => ?_) (fun h19 => ?_)
      · have hF := bif_t h19 hF
        refine PC.assoc ?_
        refine PC.region ?_
        refine PO.runK 3 [0] [] (es := [(2, .ptr 0 0), (3, .val (.int .i64 200))]) (fr' := [⟨0, [.val (.int .i64 0), .val (.int .i64 0), .val (.int .i64 0), .val (.int .i64 0), .val (.slice none 0 0)]⟩]) (tk' := []) (by kernel_rfl) ?_
        refine PO.nil ?_
        have hq := Option.some.inj hF
        subst hq
        exact PC.ret (retSK [] [] (by kernel_rfl) (Less.tupL (LessL.cons (Less.aggL (LessL.cons (.refl _) (LessL.cons (.refl _) (LessL.cons (.refl _) (LessL.cons (.refl _) (LessL.cons (.nil 4) (LessL.refl _))))))) (LessL.refl _))) ⟨rfl, rfl, rfl⟩)
      · have hF := bif_f h19 hF
        refine PC.noop ?_
        refine PC.region ?_
        refine PO.run 2 rfl ?_
        refine bindSK hF (fun h20 h21 h22 hF => ?_)
        generalize hgl5 : (List.take (Int.toNat (w ((a0.length : Int) - 8))) a0).drop (Int.toNat 8) = l5 at hF
        refine PO.same rfl (slice_ok (l2 := List.map cI_u8 l5) Try.underlying32 rfl rfl (.some rfl h20 rfl) (.some rfl (Int.le_trans h20 h21) rfl) (Int.toNat_le_toNat h21) (toNat_le1 h22) (by rw [← hgl5, List.map_drop, List.map_take] <;> first | rfl | simp [w])) rfl ?_
        refine PO.runK 3 [0, 1] [] (es := [(2, .ptr 0 0), (3, .val (.int .i64 0)), (6, .ptr 1 0)]) (fr' := [⟨0, [.val (.int .i64 0), .val (.int .i64 0), .val (.int .i64 0), .val (.int .i64 0), .val (.slice none 0 0)]⟩, ⟨0, [.list 1 (List.map cI_u8 l5) none, .val (.bool false)]⟩]) (tk' := []) (by kernel_rfl) ?_
        refine PO.nil ?_
        refine PC.region ?_
        refine PO.run 1 rfl ?_
        refine bindK hF (fun r23 e24 hF => ?_)
        refine PO.call rfl rfl rfl rfl (ks := [1]) (ts := []) (fr1 := [⟨0, [.list 1 (List.map cI_u8 l5) none, .val (.bool false)]⟩]) rfl rfl rfl ⟨⟨_, rfl, rfl, rfl⟩, trivial⟩ (L53 k (Greader.mk l5 false) _ e24) ?_
        rintro _ _ _ ⟨rfl, rfl, rfl⟩
        refine ⟨_, _, rfl, rfl, ?_⟩
        refine PO.runK 1 [0, 1] [] (es := [(2, .ptr 0 0), (3, .val (.int .i64 0)), (6, .ptr 1 0), (40, .val (.int .i64 r23.1)), (41, .ptr 1 0)]) (fr' := [⟨0, [.val (.int .i64 0), .val (.int .i64 0), .val (.int .i64 0), .val (.int .i64 0), .val (.slice none 0 0)]⟩, ⟨0, (cGreader r23.2)⟩]) (tk' := []) (by kernel_rfl) ?_
        refine bindK hF (fun r25 e26 hF => ?_)
        refine PO.call rfl rfl rfl rfl (ks := [1]) (ts := []) (fr1 := [⟨0, (cGreader r23.2)⟩]) rfl rfl rfl ⟨⟨_, rfl, rfl, rfl⟩, trivial⟩ (L53 k r23.2 _ e26) ?_
        rintro _ _ _ ⟨rfl, rfl, rfl⟩
        refine ⟨_, _, rfl, rfl, ?_⟩
        refine PO.runK 2 [0, 1] [] (es := [(2, .ptr 0 0), (3, .val (.int .i64 0)), (6, .ptr 1 0), (43, .agg [.val (.int .i64 r23.1), .val (.int .i64 r25.1)]), (44, .ptr 1 0)]) (fr' := [⟨0, [.val (.int .i64 0), .val (.int .i64 0), .val (.int .i64 0), .val (.int .i64 0), .val (.slice none 0 0)]⟩, ⟨0, (cGreader r25.2)⟩]) (tk' := []) (by kernel_rfl) ?_
        refine bindK hF (fun r27 e28 hF => ?_)
        refine PO.call rfl rfl rfl rfl (ks := [1]) (ts := []) (fr1 := [⟨0, (cGreader r25.2)⟩]) rfl rfl rfl ⟨⟨_, rfl, rfl, rfl⟩, trivial⟩ (L53 k r25.2 _ e28) ?_
        rintro _ _ _ ⟨rfl, rfl, rfl⟩
        refine ⟨_, _, rfl, rfl, ?_⟩
        refine PO.runK 1 [0, 1] [] (es := [(2, .ptr 0 0), (3, .val (.int .i64 0)), (6, .ptr 1 0), (43, .agg [.val (.int .i64 r23.1), .val (.int .i64 r25.1)]), (45, .val (.int .i64 r27.1)), (46, .ptr 1 0)]) (fr' := [⟨0, [.val (.int .i64 0), .val (.int .i64 0), .val (.int .i64 0), .val (.int .i64 0), .val (.slice none 0 0)]⟩, ⟨0, (cGreader r27.2)⟩]) (tk' := []) (by kernel_rfl) ?_
        refine bindK hF (fun r29 e30 hF => ?_)
        refine PO.call rfl rfl rfl rfl (ks := [1]) (ts := []) (fr1 := [⟨0, (cGreader r27.2)⟩]) rfl rfl rfl ⟨⟨_, rfl, rfl, rfl⟩, trivial⟩ (L53 k r27.2 _ e30) ?_
        rintro _ _ _ ⟨rfl, rfl, rfl⟩
        refine ⟨_, _, rfl, rfl, ?_⟩
        refine PO.runK 3 [0, 1, 2] [] (es := [(2, .ptr 0 0), (3, .val (.int .i64 0)), (6, .ptr 1 0), (7, .ptr 2 0)]) (fr' := [⟨0, [.val (.int .i64 0), .val (.int .i64 0), .val (.int .i64 0), .val (.int .i64 0), .val (.slice none 0 0)]⟩, ⟨0, (cGreader r29.2)⟩, ⟨0, [.val (.int .i64 r23.1), .val (.int .i64 r25.1), .val (.int .i64 r27.1), .val (.int .i64 r29.1), .val (.slice none 0 0)]⟩]) (tk' := []) (by kernel_rfl) ?_
        refine PO.nil ?_
        refine PC.assoc ?_
        refine PC.region ?_
        refine PO.run 1 rfl ?_
        refine bindK hF (fun r31 e32 hF => ?_)
        refine PO.call rfl rfl rfl rfl (ks := [1]) (ts := []) (fr1 := [⟨0, (cGreader r29.2)⟩]) rfl rfl rfl ⟨⟨_, rfl, rfl, rfl⟩, trivial⟩ (L54 k r29.2 25 _ e32) ?_
        rintro _ _ _ ⟨rfl, rfl, rfl⟩
        refine ⟨_, _, rfl, rfl, ?_⟩
        refine PO.run 1 rfl ?_
        refine PO.nil ?_
        refine bindK hF (fun x33 e34 hF => ?_)
        refine PC.blockJ (fun s => ∃ (v6 : List Int) (v7 : Bool) (v8 : List GPage), Weak s (PS.of 105 [(2, .ptr 0 0), (3, .val (.int .i64 0)), (6, .ptr 1 0), (7, .ptr 2 0)] [⟨0, [.val (.int .i64 0), .val (.int .i64 0), .val (.int .i64 0), .val (.int .i64 0), .list 4 (List.map cGPage ([] : List GPage)) (some 0)]⟩, ⟨0, [.list 1 (List.map cI_u8 v6) none, .val (.bool v7)]⟩, ⟨0, [.val (.int .i64 r23.1), .val (.int .i64 r25.1), .val (.int .i64 r27.1), .val (.int .i64 r29.1), .list 4 (List.map cGPage v8) (some 1)]⟩] [(([] : List GPage)).length, v8.length] 0 0) ∧ (v6, v7, v8) = x33) ?_ ?_
        · refine PC.weak (s' := PS.of 105 [(2, .ptr 0 0), (3, .val (.int .i64 0)), (6, .ptr 1 0), (7, .ptr 2 0), (8, .val (.int .i64 r31.1))] [⟨0, [.val (.int .i64 0), .val (.int .i64 0), .val (.int .i64 0), .val (.int .i64 0), .list 4 (List.map cGPage ([] : List GPage)) (some 0)]⟩, ⟨0, (cGreader r31.2)⟩, ⟨0, [.val (.int .i64 r23.1), .val (.int .i64 r25.1), .val (.int .i64 r27.1), .val (.int .i64 r29.1), .list 4 (List.map cGPage ([] : List GPage)) (some 1)]⟩] [0, 0] 0 0) (Weak.mk [0, 1, 2] [] 2 rfl rfl rfl ⟨⟨_, _, rfl, rfl, rfl, (LessL.cons (.refl _) (LessL.cons (.refl _) (LessL.cons (.refl _) (LessL.cons (.refl _) (LessL.cons (.nilt 4 0 rfl rfl) (LessL.refl _))))))⟩, ⟨⟨_, _, rfl, rfl, rfl, (LessL.refl _)⟩, ⟨⟨_, _, rfl, rfl, rfl, (LessL.cons (.refl _) (LessL.cons (.refl _) (LessL.cons (.refl _) (LessL.cons (.refl _) (LessL.cons (.nilt 4 1 rfl rfl) (LessL.refl _))))))⟩, trivial⟩⟩⟩ ⟨⟨_, _, rfl, rfl, .refl _⟩, ⟨⟨_, _, rfl, rfl, .refl _⟩, ⟨⟨_, _, rfl, rfl, .refl _⟩, ⟨⟨_, _, rfl, rfl, .refl _⟩, ⟨⟨_, _, rfl, rfl, .refl _⟩, trivial⟩⟩⟩⟩⟩) ?_
          refine PC.loop (fun j35 s => ∃ (v13 : Int) (v14 : List Int) (v15 : Bool) (v16 : List GPage), Weak s (PS.of 105 [(2, .ptr 0 0), (3, .val (.int .i64 0)), (6, .ptr 1 0), (7, .ptr 2 0), (8, .val (.int .i64 v13))] [⟨0, [.val (.int .i64 0), .val (.int .i64 0), .val (.int .i64 0), .val (.int .i64 0), .list 4 (List.map cGPage ([] : List GPage)) (some 0)]⟩, ⟨0, [.list 1 (List.map cI_u8 v14) none, .val (.bool v15)]⟩, ⟨0, [.val (.int .i64 r23.1), .val (.int .i64 r25.1), .val (.int .i64 r27.1), .val (.int .i64 r29.1), .list 4 (List.map cGPage v16) (some 1)]⟩] [(([] : List GPage)).length, v16.length] 0 0) ∧ F24_l1 k j35 v13 v14 v15 v16 = some x33) (fun j35 s => ?_) k ⟨r31.1, r31.2.b, r31.2.bad, ([] : List GPage), Weak.one [0, 1, 2] [0, 1] (by kernel_rfl), e34⟩
          rintro ⟨v13, v14, v15, v16, w36, e34⟩
          refine PC.weak w36 ?_
          cases j35 with
          | zero => rw [F24_l1] at e34; cases e34
          | succ j35 =>
            rw [F24_l1] at e34
            refine PC.assoc ?_
            refine PC.region ?_
            refine PO.run 3 rfl ?_
            refine bindK e34 (fun x37 e38 e34 => ?_)
            refine PO.cut 6 (fun s => ∃ (v21 : Bool), Weak s (PS.of 105 [(2, .ptr 0 0), (3, .val (.int .i64 0)), (6, .ptr 1 0), (7, .ptr 2 0), (8, .val (.int .i64 v13)), (59, .val (.bool v21))] [⟨0, [.val (.int .i64 0), .val (.int .i64 0), .val (.int .i64 0), .val (.int .i64 0), .list 4 (List.map cGPage ([] : List GPage)) (some 0)]⟩, ⟨0, [.list 1 (List.map cI_u8 v14) none, .val (.bool v15)]⟩, ⟨0, [.val (.int .i64 r23.1), .val (.int .i64 r25.1), .val (.int .i64 r27.1), .val (.int .i64 r29.1), .list 4 (List.map cGPage v16) (some 1)]⟩] [(([] : List GPage)).length, v16.length] 0 0) ∧ v21 = x37) ?_ ?_
            · refine PO.case (t := 53) rfl rfl (fun h39 => ?_) (fun h39 => ?_)
              · have e38 := bif_t h39 e38
                refine PO.run 5 rfl ?_
                refine PO.same rfl (pickT_ok rfl rfl rfl) rfl ?_
                refine PO.nil ?_
                exact ⟨!v15, Weak.one [0, 1, 2] [0, 1] (by kernel_rfl), Option.some.inj e38⟩
              · have e38 := bif_f h39 e38
                refine PO.run 5 rfl ?_
                refine PO.same rfl (pickF_ok rfl rfl rfl) rfl ?_
                refine PO.nil ?_
                exact ⟨false, Weak.one [0, 1, 2] [0, 1] (by kernel_rfl), Option.some.inj e38⟩
            · rintro _ ⟨v21, w40, rfl⟩
              refine PO.weak w40 ?_
              refine PO.nil ?_
              refine PC.cond rfl (fun h41 => ?_) (fun h41 => ?_)
              · have e34 := bif_t h41 e34
                refine PC.noop ?_
                refine PC.block ?_
                refine PC.lone ?_
                refine PC.draw [2, 3, 4, 0, 1, 5, 6, 7] (by kernel_rfl) ?_
                refine PD.runK 1 (js' := [3, 4, 0, 1, 5, 6, 7]) (σ' := ⟨4, 0, 0, []⟩) (es := [(2, .ptr 0 0), (3, .val (.int .i64 0)), (6, .ptr 1 0), (7, .ptr 2 0), (8, .val (.int .i64 v13)), (64, .ptr 1 0)]) (fr' := [⟨0, [.val (.int .i64 0), .val (.int .i64 0), .val (.int .i64 0), .val (.int .i64 0), .list 4 (List.map cGPage ([] : List GPage)) (some 0)]⟩, ⟨0, [.list 1 (List.map cI_u8 v14) none, .val (.bool v15)]⟩, ⟨0, [.val (.int .i64 r23.1), .val (.int .i64 r25.1), .val (.int .i64 r27.1), .val (.int .i64 r29.1), .list 4 (List.map cGPage v16) (some 1)]⟩]) (tk' := [(([] : List GPage)).length, v16.length]) (by kernel_rfl) ?_
                refine bindK e34 (fun r42 e43 e34 => ?_)
                refine PD.call rfl rfl (by kernel_rfl) rfl rfl rfl (ks := [1]) (ts := []) (fr1 := [⟨0, [.list 1 (List.map cI_u8 v14) none, .val (.bool v15)]⟩]) rfl rfl rfl ⟨⟨_, rfl, rfl, rfl⟩, trivial⟩ (L55 k (Greader.mk v14 v15) _ e43) ?_
                rintro _ _ _ ⟨rfl, rfl, rfl⟩
                refine ⟨_, _, rfl, rfl, ?_⟩
                refine PD.runK 3 (js' := [5, 6, 7]) (σ' := ⟨31, 28, 12, [(4, [], true), (3, [1], true)]⟩) (es := [(2, .ptr 0 0), (3, .val (.int .i64 0)), (6, .ptr 1 0), (7, .ptr 2 0), (8, .val (.int .i64 v13)), (63, .list 4 (List.map cGPage v16) (some 1)), (66, .list 4 (List.map cGPage ([r42.1])) (some 2))]) (fr' := [⟨0, [.val (.int .i64 0), .val (.int .i64 0), .val (.int .i64 0), .val (.int .i64 0), .list 4 (List.map cGPage ([] : List GPage)) (some 0)]⟩, ⟨0, (cGreader r42.2)⟩, ⟨0, [.val (.int .i64 r23.1), .val (.int .i64 r25.1), .val (.int .i64 r27.1), .val (.int .i64 r29.1), .list 4 (List.map cGPage v16) (some 1)]⟩]) (tk' := [(([] : List GPage)).length, v16.length, 1]) (by kernel_rfl) ?_
                refine bindAK e34 (fun h44 e34 => ?_)
                generalize hgl22 : v16 ++ ([r42.1]) = l22 at e34
                refine PD.chiefS rfl (by kernel_rfl) rfl (append_effect (L := v16) (M := [r42.1]) (f := cGPage) (sz := 4) (bytes := 48) Try.underlying25 rfl rfl rfl rfl rfl rfl rfl rfl rfl rfl rfl rfl h44 hgl22) rfl ?_
                refine PD.runK 2 (js' := []) (σ' := ⟨255, 255, 127, [(7, [2], false), (5, [2], true), (4, [2], true), (3, [2, 1], true)]⟩) (es := [(2, .ptr 0 0), (3, .val (.int .i64 0)), (6, .ptr 1 0), (7, .ptr 2 0), (8, .val (.int .i64 v13))]) (fr' := [⟨0, [.val (.int .i64 0), .val (.int .i64 0), .val (.int .i64 0), .val (.int .i64 0), .list 4 (List.map cGPage ([] : List GPage)) (some 0)]⟩, ⟨0, (cGreader r42.2)⟩, ⟨0, [.val (.int .i64 r23.1), .val (.int .i64 r25.1), .val (.int .i64 r27.1), .val (.int .i64 r29.1), .list 4 (List.map cGPage l22) (some 1)]⟩]) (tk' := [(([] : List GPage)).length, l22.length, 1]) (by kernel_rfl) ?_
                refine PD.done [0, 1, 2] [0, 1] (es := [(2, .ptr 0 0), (3, .val (.int .i64 0)), (6, .ptr 1 0), (7, .ptr 2 0), (8, .val (.int .i64 v13))]) (fr' := [⟨0, [.val (.int .i64 0), .val (.int .i64 0), .val (.int .i64 0), .val (.int .i64 0), .list 4 (List.map cGPage ([] : List GPage)) (some 0)]⟩, ⟨0, (cGreader r42.2)⟩, ⟨0, [.val (.int .i64 r23.1), .val (.int .i64 r25.1), .val (.int .i64 r27.1), .val (.int .i64 r29.1), .list 4 (List.map cGPage l22) (some 1)]⟩]) (tk' := [(([] : List GPage)).length, l22.length]) (by kernel_rfl) (by kernel_rfl) ?_
                refine PC.skip (blockKP.end ?_)
                refine PC.lone ?_
                refine PC.run (n := 4) rfl ?_
                exact PC.skip (loopKP.mk (Nat.lt_succ_self _) ⟨w (v13 - 1), r42.2.b, r42.2.bad, l22, Weak.one [0, 1, 2] [0, 1] (by kernel_rfl), e34⟩)
              · have e34 := bif_f h41 e34
                exact PC.exit (loopKP.exit (blockJK.here ⟨v14, v15, v16, Weak.one [0, 1, 2] [0, 1] (by kernel_rfl), Option.some.inj e34⟩))
        · rintro _ ⟨v6, v7, v8, w45, rfl⟩
          refine PC.weak w45 ?_
          refine PC.assoc ?_
          refine PC.region ?_
          refine PO.run 5 rfl ?_
          refine bindK hF (fun x46 e47 hF => ?_)
          refine PO.cut 29 (fun s => ∃ (v23 : Bool), Weak s (PS.of 105 [(2, .ptr 0 0), (3, .val (.int .i64 0)), (7, .ptr 1 0), (102, .val (.bool v23))] [⟨0, [.val (.int .i64 0), .val (.int .i64 0), .val (.int .i64 0), .val (.int .i64 0), .list 4 (List.map cGPage ([] : List GPage)) (some 0)]⟩, ⟨0, [.val (.int .i64 r23.1), .val (.int .i64 r25.1), .val (.int .i64 r27.1), .val (.int .i64 r29.1), .list 4 (List.map cGPage v8) (some 1)]⟩] [(([] : List GPage)).length, v8.length] 0 0) ∧ v23 = x46) ?_ ?_
          · refine PO.case (t := 73) rfl rfl (fun h48 => ?_) (fun h48 => ?_)
            · have e47 := bif_t h48 e47
              refine PO.run 6 rfl ?_
              refine PO.same rfl (pickT_ok rfl rfl rfl) rfl ?_
              refine PO.run 4 rfl ?_
              refine PO.same rfl (pickT_ok rfl rfl rfl) rfl ?_
              refine PO.run 4 rfl ?_
              refine PO.same rfl (pickT_ok rfl rfl rfl) rfl ?_
              refine PO.run 11 rfl ?_
              refine PO.same rfl (pickT_ok rfl rfl rfl) rfl ?_
              refine PO.nil ?_
              exact ⟨true, Weak.one [0, 2] [0, 1] (by kernel_rfl), Option.some.inj e47⟩
            · have e47 := bif_f h48 e47
              refine PO.runK 4 [0, 2] [0, 1] (es := [(2, .ptr 0 0), (3, .val (.int .i64 0)), (7, .ptr 1 0), (73, .val (.bool false)), (77, .list 1 (List.map cI_u8 v6) none)]) (fr' := [⟨0, [.val (.int .i64 0), .val (.int .i64 0), .val (.int .i64 0), .val (.int .i64 0), .list 4 (List.map cGPage ([] : List GPage)) (some 0)]⟩, ⟨0, [.val (.int .i64 r23.1), .val (.int .i64 r25.1), .val (.int .i64 r27.1), .val (.int .i64 r29.1), .list 4 (List.map cGPage v8) (some 1)]⟩]) (tk' := [(([] : List GPage)).length, v8.length]) (by kernel_rfl) ?_
              refine PO.same rfl (len_ok Try.underlying32 rfl (List.length_map _)) rfl ?_
              refine PO.run 1 rfl ?_
              refine PO.same rfl (pickF_ok rfl rfl rfl) rfl ?_
              refine PO.run 1 rfl ?_
              refine bindK e47 (fun x49 e50 e47 => ?_)
              refine PO.cut 21 (fun s => ∃ (v24 : Bool), Weak s (PS.of 105 [(2, .ptr 0 0), (3, .val (.int .i64 0)), (7, .ptr 1 0), (102, .val (.bool v24))] [⟨0, [.val (.int .i64 0), .val (.int .i64 0), .val (.int .i64 0), .val (.int .i64 0), .list 4 (List.map cGPage ([] : List GPage)) (some 0)]⟩, ⟨0, [.val (.int .i64 r23.1), .val (.int .i64 r25.1), .val (.int .i64 r27.1), .val (.int .i64 r29.1), .list 4 (List.map cGPage v8) (some 1)]⟩] [(([] : List GPage)).length, v8.length] 0 0) ∧ v24 = x49) ?_ ?_
              · refine PO.case (t := 81) rfl rfl (fun h51 => ?_) (fun h51 => ?_)
                · have e50 := bif_t h51 e50
                  refine PO.run 3 rfl ?_
                  refine PO.same rfl (pickT_ok rfl rfl rfl) rfl ?_
                  refine PO.run 4 rfl ?_
                  refine PO.same rfl (pickT_ok rfl rfl rfl) rfl ?_
                  refine PO.run 11 rfl ?_
                  refine PO.same rfl (pickT_ok rfl rfl rfl) rfl ?_
                  refine PO.nil ?_
                  exact ⟨true, Weak.one [0, 1] [0, 1] (by kernel_rfl), Option.some.inj e50⟩
                · have e50 := bif_f h51 e50
                  refine PO.run 3 rfl ?_
                  refine PO.same rfl (pickF_ok rfl rfl rfl) rfl ?_
                  refine PO.run 1 rfl ?_
                  refine bindK e50 (fun x52 e53 e50 => ?_)
                  refine PO.cut 16 (fun s => ∃ (v25 : Bool), Weak s (PS.of 105 [(2, .ptr 0 0), (3, .val (.int .i64 0)), (7, .ptr 1 0), (102, .val (.bool v25))] [⟨0, [.val (.int .i64 0), .val (.int .i64 0), .val (.int .i64 0), .val (.int .i64 0), .list 4 (List.map cGPage ([] : List GPage)) (some 0)]⟩, ⟨0, [.val (.int .i64 r23.1), .val (.int .i64 r25.1), .val (.int .i64 r27.1), .val (.int .i64 r29.1), .list 4 (List.map cGPage v8) (some 1)]⟩] [(([] : List GPage)).length, v8.length] 0 0) ∧ v25 = x52) ?_ ?_
                  · refine PO.case (t := 86) rfl rfl (fun h54 => ?_) (fun h54 => ?_)
                    · have e53 := bif_t h54 e53
                      refine PO.run 3 rfl ?_
                      refine PO.same rfl (pickT_ok rfl rfl rfl) rfl ?_
                      refine PO.run 11 rfl ?_
                      refine PO.same rfl (pickT_ok rfl rfl rfl) rfl ?_
                      refine PO.nil ?_
                      exact ⟨true, Weak.one [0, 1] [0, 1] (by kernel_rfl), Option.some.inj e53⟩
                    · have e53 := bif_f h54 e53
                      refine PO.run 3 rfl ?_
                      refine PO.same rfl (pickF_ok rfl rfl rfl) rfl ?_
                      refine PO.run 1 rfl ?_
                      refine bindK e53 (fun x55 e56 e53 => ?_)
                      refine PO.cut 11 (fun s => ∃ (v26 : Bool), Weak s (PS.of 105 [(2, .ptr 0 0), (3, .val (.int .i64 0)), (7, .ptr 1 0), (102, .val (.bool v26))] [⟨0, [.val (.int .i64 0), .val (.int .i64 0), .val (.int .i64 0), .val (.int .i64 0), .list 4 (List.map cGPage ([] : List GPage)) (some 0)]⟩, ⟨0, [.val (.int .i64 r23.1), .val (.int .i64 r25.1), .val (.int .i64 r27.1), .val (.int .i64 r29.1), .list 4 (List.map cGPage v8) (some 1)]⟩] [(([] : List GPage)).length, v8.length] 0 0) ∧ v26 = x55) ?_ ?_
                      · refine PO.case (t := 91) rfl rfl (fun h57 => ?_) (fun h57 => ?_)
                        · have e56 := bif_t h57 e56
                          refine PO.run 10 rfl ?_
                          refine PO.same rfl (pickT_ok rfl rfl rfl) rfl ?_
                          refine PO.nil ?_
                          exact ⟨true, Weak.one [0, 1] [0, 1] (by kernel_rfl), Option.some.inj e56⟩
                        · have e56 := bif_f h57 e56
                          refine PO.run 5 rfl ?_
                          refine bindK e56 (fun x58 e59 e56 => ?_)
                          refine PO.cut 6 (fun s => ∃ (v27 : Bool), Weak s (PS.of 105 [(2, .ptr 0 0), (3, .val (.int .i64 0)), (7, .ptr 1 0), (102, .val (.bool v27))] [⟨0, [.val (.int .i64 0), .val (.int .i64 0), .val (.int .i64 0), .val (.int .i64 0), .list 4 (List.map cGPage ([] : List GPage)) (some 0)]⟩, ⟨0, [.val (.int .i64 r23.1), .val (.int .i64 r25.1), .val (.int .i64 r27.1), .val (.int .i64 r29.1), .list 4 (List.map cGPage v8) (some 1)]⟩] [(([] : List GPage)).length, v8.length] 0 0) ∧ v27 = x58) ?_ ?_
                          · refine PO.case (t := 96) rfl rfl (fun h60 => ?_) (fun h60 => ?_)
                            · have e59 := bif_t h60 e59
                              refine PO.runK 2 [0, 1] [0, 1] (es := [(2, .ptr 0 0), (3, .val (.int .i64 0)), (7, .ptr 1 0), (91, .val (.bool false)), (96, .val (.bool true)), (98, .list 4 (List.map cGPage v8) (some 1))]) (fr' := [⟨0, [.val (.int .i64 0), .val (.int .i64 0), .val (.int .i64 0), .val (.int .i64 0), .list 4 (List.map cGPage ([] : List GPage)) (some 0)]⟩, ⟨0, [.val (.int .i64 r23.1), .val (.int .i64 r25.1), .val (.int .i64 r27.1), .val (.int .i64 r29.1), .list 4 (List.map cGPage v8) (some 1)]⟩]) (tk' := [(([] : List GPage)).length, v8.length]) (by kernel_rfl) ?_
                              refine PO.same rfl (len_ok Try.underlying25 rfl (List.length_map _)) rfl ?_
                              refine PO.run 1 rfl ?_
                              refine PO.same rfl (pickT_ok rfl rfl rfl) rfl ?_
                              refine PO.same rfl (pickF_ok rfl rfl rfl) rfl ?_
                              refine PO.nil ?_
                              exact ⟨decide ((v8.length : Int) > 0), Weak.one [0, 1] [0, 1] (by kernel_rfl), Option.some.inj e59⟩
                            · have e59 := bif_f h60 e59
                              refine PO.run 4 rfl ?_
                              refine PO.same rfl (pickF_ok rfl rfl rfl) rfl ?_
                              refine PO.same rfl (pickF_ok rfl rfl rfl) rfl ?_
                              refine PO.nil ?_
                              exact ⟨false, Weak.one [0, 1] [0, 1] (by kernel_rfl), Option.some.inj e59⟩
                          · rintro _ ⟨v27, w61, rfl⟩
                            refine PO.weak w61 ?_
                            refine PO.nil ?_
                            exact ⟨v27, Weak.one [0, 1] [0, 1] (by kernel_rfl), Option.some.inj e56⟩
                      · rintro _ ⟨v26, w62, rfl⟩
                        refine PO.weak w62 ?_
                        refine PO.nil ?_
                        exact ⟨v26, Weak.one [0, 1] [0, 1] (by kernel_rfl), Option.some.inj e53⟩
                  · rintro _ ⟨v25, w63, rfl⟩
                    refine PO.weak w63 ?_
                    refine PO.nil ?_
                    exact ⟨v25, Weak.one [0, 1] [0, 1] (by kernel_rfl), Option.some.inj e50⟩
              · rintro _ ⟨v24, w64, rfl⟩
                refine PO.weak w64 ?_
                refine PO.nil ?_
                exact ⟨v24, Weak.one [0, 1] [0, 1] (by kernel_rfl), Option.some.inj e47⟩
          · rintro _ ⟨v23, w65, rfl⟩
            refine PO.weak w65 ?_
            refine PO.nil ?_
            refine PC.cond rfl (fun h66 => ?_) (fun h66 => ?_)
            · have hF := bif_t h66 hF
              refine PC.assoc ?_
              refine PC.region ?_
              refine PO.runK 3 [0] [] (es := [(2, .ptr 0 0), (3, .val (.int .i64 200))]) (fr' := [⟨0, [.val (.int .i64 0), .val (.int .i64 0), .val (.int .i64 0), .val (.int .i64 0), .val (.slice none 0 0)]⟩]) (tk' := []) (by kernel_rfl) ?_
              refine PO.nil ?_
              have hq := Option.some.inj hF
              subst hq
              exact PC.ret (retSK [] [] (by kernel_rfl) (Less.tupL (LessL.cons (Less.aggL (LessL.cons (.refl _) (LessL.cons (.refl _) (LessL.cons (.refl _) (LessL.cons (.refl _) (LessL.cons (.nil 4) (LessL.refl _))))))) (LessL.refl _))) ⟨rfl, rfl, rfl⟩)
            · have hF := bif_f h66 hF
              refine PC.noop ?_
              refine PC.region ?_
              refine PO.runK 3 [0] [1] (es := [(2, .ptr 0 0), (3, .val (.int .i64 0))]) (fr' := [⟨0, [.val (.int .i64 r23.1), .val (.int .i64 r25.1), .val (.int .i64 r27.1), .val (.int .i64 r29.1), .list 4 (List.map cGPage v8) (some 0)]⟩]) (tk' := [v8.length]) (by kernel_rfl) ?_
              refine PO.nil ?_
              have hq := Option.some.inj hF
              subst hq
              exact PC.ret' (retSK [] [] (by kernel_rfl) (.refl _) ⟨rfl, rfl, rfl⟩)

/-! 6 platen/platenlaw20.AnswerTurned -/
def F6 (k : Nat) (a0 : GAnswer) (a1 : Int) (a2 : Int) (a3 : Int) : Option Bool :=
(F16 k a0).bind fun r1 =>
bif r1 then (some true) else ((F19 k a0).bind fun r5 =>
Option.bind (α := Bool) (bif r5.2 != 0 then (some true) else (Option.bind (α := Bool) (bif decide (a1 < 0) then (some true) else (Option.bind (α := Bool) (bif decide (a1 ≥ (r5.1.length : Int)) then (some true) else (Option.bind (α := Bool) (bif decide (a2 < 0) then (some true) else (some (decide (a2 > 7)))) fun (v4 : Bool) =>
some v4)) fun (v3 : Bool) =>
some v3)) fun (v2 : Bool) =>
some v2)) fun (v1 : Bool) =>
bif v1 then (some true) else (bindS r5.1 0 a1 fun l5 =>
(F24 k l5).bind fun r27 =>
bindA 1 ([] : List Int) r5.1 fun l6 =>
bindA 1 l6 ([a3]) fun l7 =>
(F24 k l7).bind fun r31 =>
bindFlip r5.1 a1 a2 fun l8 =>
(F24 k l8).bind fun r38 =>
Option.bind (α := Bool) (bif r27.2 == 200 then (Option.bind (α := Bool) (bif r31.2 == 200 then (some (r38.2 == 200)) else (some false)) fun (v10 : Bool) =>
some v10) else (some false)) fun (v9 : Bool) =>
some v9))
theorem L6 (k : Nat) (a0 : GAnswer) (a1 : Int) (a2 : Int) (a3 : Int) (r : Bool) (hF : F6 k a0 a1 a2 a3 = some r) : PF Try.prog orc 6 [.agg (cGAnswer a0), .val (.int .i64 a1), .val (.int .i64 a2), .val (.int .u8 a3)] [] [] (fun p fr tk => p = .val (.bool r) ∧ fr = [] ∧ tk = []) := by
  unfold F6 at hF
  refine PF.enterS Try.func6 rfl rfl rfl (by kernel_rfl) rfl ?_
  refine PC.region ?_
  refine PO.runK 2 [0] [] (es := [(1, .val (.int .i64 a1)), (2, .val (.int .i64 a2)), (3, .val (.int .u8 a3)), (4, .ptr 0 0), (8, .val (.bool false))]) (fr' := [⟨0, (cGAnswer a0)⟩]) (tk' := []) (by kernel_rfl) ?_
  refine PO.nil ?_
  refine PC.assoc ?_
  refine PC.region ?_
  refine PO.run 1 rfl ?_
  refine bindK hF (fun r1 e2 hF => ?_)
  refine PO.call rfl rfl rfl rfl (ks := []) (ts := []) (fr1 := []) rfl rfl rfl trivial (L16 k a0 _ e2) ?_
  rintro _ _ _ ⟨rfl, rfl, rfl⟩
  refine ⟨_, _, rfl, rfl, ?_⟩
  refine PO.nil ?_
  refine PC.cond rfl (fun h3 => ?_) (fun h3 => ?_)
  · have hF := bif_t h3 hF
    refine PC.assoc ?_
    refine PC.run (n := 2) rfl ?_
    have hq := Option.some.inj hF
    subst hq
    exact PC.ret (retSK [] [] (by kernel_rfl) (.refl _) ⟨rfl, rfl, rfl⟩)
  · have hF := bif_f h3 hF
    refine PC.noop ?_
    refine PC.assoc ?_
    refine PC.region ?_
    refine PO.call rfl rfl rfl rfl (ks := []) (ts := []) (fr1 := []) rfl rfl rfl trivial K17 ?_
    rintro _ _ _ ⟨rfl, rfl, rfl⟩
    refine ⟨_, _, rfl, rfl, ?_⟩
    refine PO.run 1 rfl ?_
    refine PO.nil ?_
    refine PC.cond rfl (fun h4 => Bool.noConfusion h4) (fun _ => ?_)
    refine PC.noop ?_
    refine PC.region ?_
    refine PO.run 1 rfl ?_
    refine bindK hF (fun r5 e6 hF => ?_)
    refine PO.call rfl rfl rfl rfl (ks := []) (ts := []) (fr1 := []) rfl rfl rfl trivial (L19 k a0 _ e6) ?_
    rintro _ _ _ ⟨rfl, rfl, rfl⟩
    refine ⟨_, _, rfl, rfl, ?_⟩
    refine PO.run 5 rfl ?_
    refine PO.nil ?_
    refine PC.assoc ?_
    refine PC.region ?_
    refine PO.run 3 rfl ?_
    refine bindK hF (fun x7 e8 hF => ?_)
    refine PO.cut 17 (fun s => ∃ (v1 : Bool), Weak s (PS.of 92 [(1, .val (.int .i64 a1)), (2, .val (.int .i64 a2)), (3, .val (.int .u8 a3)), (8, .val (.bool false)), (9, .list 1 (List.map cI_u8 r5.1) (some 0)), (46, .val (.bool v1))] [] [(r5.1).length] 0 0) ∧ v1 = x7) ?_ ?_
    · refine PO.case (t := 29) rfl rfl (fun h9 => ?_) (fun h9 => ?_)
      · have e8 := bif_t h9 e8
        refine PO.run 2 rfl ?_
        refine PO.same rfl (pickT_ok rfl rfl rfl) rfl ?_
        refine PO.run 5 rfl ?_
        refine PO.same rfl (pickT_ok rfl rfl rfl) rfl ?_
        refine PO.run 3 rfl ?_
        refine PO.same rfl (pickT_ok rfl rfl rfl) rfl ?_
        refine PO.run 3 rfl ?_
        refine PO.same rfl (pickT_ok rfl rfl rfl) rfl ?_
        refine PO.nil ?_
        exact ⟨true, Weak.one [] [0] (by kernel_rfl), Option.some.inj e8⟩
      · have e8 := bif_f h9 e8
        refine PO.run 2 rfl ?_
        refine PO.same rfl (pickF_ok rfl rfl rfl) rfl ?_
        refine PO.run 1 rfl ?_
        refine bindK e8 (fun x10 e11 e8 => ?_)
        refine PO.cut 13 (fun s => ∃ (v2 : Bool), Weak s (PS.of 92 [(1, .val (.int .i64 a1)), (2, .val (.int .i64 a2)), (3, .val (.int .u8 a3)), (8, .val (.bool false)), (9, .list 1 (List.map cI_u8 r5.1) (some 0)), (46, .val (.bool v2))] [] [(r5.1).length] 0 0) ∧ v2 = x10) ?_ ?_
        · refine PO.case (t := 33) rfl rfl (fun h12 => ?_) (fun h12 => ?_)
          · have e11 := bif_t h12 e11
            refine PO.run 4 rfl ?_
            refine PO.same rfl (pickT_ok rfl rfl rfl) rfl ?_
            refine PO.run 3 rfl ?_
            refine PO.same rfl (pickT_ok rfl rfl rfl) rfl ?_
            refine PO.run 3 rfl ?_
            refine PO.same rfl (pickT_ok rfl rfl rfl) rfl ?_
            refine PO.nil ?_
            exact ⟨true, Weak.one [] [0] (by kernel_rfl), Option.some.inj e11⟩
          · have e11 := bif_f h12 e11
            refine PO.runK 2 [] [0] (es := [(1, .val (.int .i64 a1)), (2, .val (.int .i64 a2)), (3, .val (.int .u8 a3)), (8, .val (.bool false)), (9, .list 1 (List.map cI_u8 r5.1) (some 0)), (33, .val (.bool false)), (34, .val (.int .i64 a1)), (35, .list 1 (List.map cI_u8 r5.1) (some 0))]) (fr' := []) (tk' := [r5.1.length]) (by kernel_rfl) ?_
            refine PO.same rfl (len_ok Try.underlying32 rfl (List.length_map _)) rfl ?_
            refine PO.run 1 rfl ?_
            refine PO.same rfl (pickF_ok rfl rfl rfl) rfl ?_
            refine PO.run 1 rfl ?_
            refine bindK e11 (fun x13 e14 e11 => ?_)
            refine PO.cut 7 (fun s => ∃ (v3 : Bool), Weak s (PS.of 92 [(1, .val (.int .i64 a1)), (2, .val (.int .i64 a2)), (3, .val (.int .u8 a3)), (8, .val (.bool false)), (9, .list 1 (List.map cI_u8 r5.1) (some 0)), (46, .val (.bool v3))] [] [(r5.1).length] 0 0) ∧ v3 = x13) ?_ ?_
            · refine PO.case (t := 39) rfl rfl (fun h15 => ?_) (fun h15 => ?_)
              · have e14 := bif_t h15 e14
                refine PO.run 2 rfl ?_
                refine PO.same rfl (pickT_ok rfl rfl rfl) rfl ?_
                refine PO.run 3 rfl ?_
                refine PO.same rfl (pickT_ok rfl rfl rfl) rfl ?_
                refine PO.nil ?_
                exact ⟨true, Weak.one [] [0] (by kernel_rfl), Option.some.inj e14⟩
              · have e14 := bif_f h15 e14
                refine PO.run 2 rfl ?_
                refine PO.same rfl (pickF_ok rfl rfl rfl) rfl ?_
                refine PO.run 1 rfl ?_
                refine bindK e14 (fun x16 e17 e14 => ?_)
                refine PO.cut 3 (fun s => ∃ (v4 : Bool), Weak s (PS.of 92 [(1, .val (.int .i64 a1)), (2, .val (.int .i64 a2)), (3, .val (.int .u8 a3)), (8, .val (.bool false)), (9, .list 1 (List.map cI_u8 r5.1) (some 0)), (46, .val (.bool v4))] [] [(r5.1).length] 0 0) ∧ v4 = x16) ?_ ?_
                · refine PO.case (t := 43) rfl rfl (fun h18 => ?_) (fun h18 => ?_)
                  · have e17 := bif_t h18 e17
                    refine PO.run 2 rfl ?_
                    refine PO.same rfl (pickT_ok rfl rfl rfl) rfl ?_
                    refine PO.nil ?_
                    exact ⟨true, Weak.one [] [0] (by kernel_rfl), Option.some.inj e17⟩
                  · have e17 := bif_f h18 e17
                    refine PO.run 2 rfl ?_
                    refine PO.same rfl (pickF_ok rfl rfl rfl) rfl ?_
                    refine PO.nil ?_
                    exact ⟨decide (a2 > 7), Weak.one [] [0] (by kernel_rfl), Option.some.inj e17⟩
                · rintro _ ⟨v4, w19, rfl⟩
                  refine PO.weak w19 ?_
                  refine PO.nil ?_
                  exact ⟨v4, Weak.one [] [0] (by kernel_rfl), Option.some.inj e14⟩
            · rintro _ ⟨v3, w20, rfl⟩
              refine PO.weak w20 ?_
              refine PO.nil ?_
              exact ⟨v3, Weak.one [] [0] (by kernel_rfl), Option.some.inj e11⟩
        · rintro _ ⟨v2, w21, rfl⟩
          refine PO.weak w21 ?_
          refine PO.nil ?_
          exact ⟨v2, Weak.one [] [0] (by kernel_rfl), Option.some.inj e8⟩
    · rintro _ ⟨v1, w22, rfl⟩
      refine PO.weak w22 ?_
      refine PO.nil ?_
      refine PC.cond rfl (fun h23 => ?_) (fun h23 => ?_)
      · have hF := bif_t h23 hF
        refine PC.assoc ?_
        refine PC.run (n := 2) rfl ?_
        have hq := Option.some.inj hF
        subst hq
        exact PC.ret (retSK [] [] (by kernel_rfl) (.refl _) ⟨rfl, rfl, rfl⟩)
      · have hF := bif_f h23 hF
        refine PC.noop ?_
        refine PC.region ?_
        refine PO.run 2 rfl ?_
        refine bindSK hF (fun h24 h25 h26 hF => ?_)
        generalize hgl5 : (List.take (Int.toNat a1) r5.1).drop (Int.toNat 0) = l5 at hF
        refine PO.same rfl (slice_ok (l2 := List.map cI_u8 l5) Try.underlying32 rfl rfl .none (.some rfl (Int.le_trans h24 h25) rfl) (Int.toNat_le_toNat h25) (toNat_le1 h26) (by rw [← hgl5, List.map_drop, List.map_take] <;> first | rfl | simp [w])) rfl ?_
        refine bindK hF (fun r27 e28 hF => ?_)
        refine PO.call rfl rfl rfl rfl (ks := []) (ts := []) (fr1 := []) rfl rfl rfl trivial (L24 k l5 _ e28) ?_
        rintro _ _ _ ⟨rfl, rfl, rfl⟩
        refine ⟨_, _, rfl, rfl, ?_⟩
        refine PO.runK 6 [] [0] (es := [(1, .val (.int .i64 a1)), (2, .val (.int .i64 a2)), (3, .val (.int .u8 a3)), (8, .val (.bool false)), (9, .list 1 (List.map cI_u8 r5.1) (some 0)), (12, .val (.int .i64 r27.2))]) (fr' := []) (tk' := [(r5.1).length]) (by kernel_rfl) ?_
        refine PO.nil ?_
        refine PC.region ?_
        refine PO.runK 2 [] [0, 1] (es := [(1, .val (.int .i64 a1)), (2, .val (.int .i64 a2)), (3, .val (.int .u8 a3)), (8, .val (.bool false)), (9, .list 1 (List.map cI_u8 r5.1) (some 0)), (12, .val (.int .i64 r27.2)), (13, .list 1 (List.map cI_u8 ([] : List Int)) (some 1))]) (fr' := []) (tk' := [(r5.1).length, 0]) (by kernel_rfl) ?_
        refine PO.nil ?_
        refine PC.region ?_
        refine PO.run 2 rfl ?_
        refine bindAK hF (fun h29 hF => ?_)
        generalize hgl6 : ([] : List Int) ++ r5.1 = l6 at hF
        refine PO.one rfl (append_typed (L := ([] : List Int)) (M := r5.1) (f := cI_u8) (sz := 1) (bytes := 1) Try.underlying32 rfl rfl rfl rfl rfl rfl rfl rfl rfl rfl rfl rfl h29 hgl6) rfl ?_
        refine PO.run 1 rfl ?_
        refine PO.nil ?_
        refine PC.region ?_
        refine PO.runK 3 [] [0, 1, 2] (es := [(1, .val (.int .i64 a1)), (2, .val (.int .i64 a2)), (8, .val (.bool false)), (9, .list 1 (List.map cI_u8 r5.1) (some 0)), (12, .val (.int .i64 r27.2)), (13, .list 1 (List.map cI_u8 l6) (some 1)), (58, .list 1 (List.map cI_u8 l6) (some 1)), (60, .list 1 (List.map cI_u8 ([a3])) (some 2))]) (fr' := []) (tk' := [(r5.1).length, l6.length, 1]) (by kernel_rfl) ?_
        refine bindAK hF (fun h30 hF => ?_)
        generalize hgl7 : l6 ++ ([a3]) = l7 at hF
        refine PO.one rfl (append_typed (L := l6) (M := [a3]) (f := cI_u8) (sz := 1) (bytes := 1) Try.underlying32 rfl rfl rfl rfl rfl rfl rfl rfl rfl rfl rfl rfl h30 hgl7) rfl ?_
        refine PO.run 1 rfl ?_
        refine PO.nil ?_
        refine PC.region ?_
        refine PO.run 1 rfl ?_
        refine bindK hF (fun r31 e32 hF => ?_)
        refine PO.call rfl rfl rfl rfl (ks := []) (ts := []) (fr1 := []) rfl rfl rfl trivial (L24 k l7 _ e32) ?_
        rintro _ _ _ ⟨rfl, rfl, rfl⟩
        refine ⟨_, _, rfl, rfl, ?_⟩
        refine PO.runK 6 [] [0] (es := [(1, .val (.int .i64 a1)), (2, .val (.int .i64 a2)), (8, .val (.bool false)), (9, .list 1 (List.map cI_u8 r5.1) (some 0)), (12, .val (.int .i64 r27.2)), (15, .val (.int .i64 r31.2))]) (fr' := []) (tk' := [(r5.1).length]) (by kernel_rfl) ?_
        refine PO.nil ?_
        refine PC.weak (s' := PS.of 92 [(1, .val (.int .i64 a1)), (2, .val (.int .i64 a2)), (9, .list 1 (List.map cI_u8 r5.1) (some 0)), (12, .val (.int .i64 r27.2)), (15, .val (.int .i64 r31.2))] [] [(r5.1).length] 0 0) (Weak.one [] [0] (by kernel_rfl)) ?_
        refine bindFlipK hF (fun h33 h34 h35 h36 h37 hF => ?_)
        generalize hgl8 : List.set r5.1 (Int.toNat a1) (bxor_u8 h33 (2 ^ Int.toNat a2)) = l8 at hF
        refine flip_typed (order := [0, 1, 2, 3, 4, 5, 6, 7, 8, 9, 10]) hgl8 (by kernel_rfl) rfl Try.underlying32 rfl rfl rfl (shl8 h36 h37) (by kernel_rfl) rfl rfl rfl rfl rfl rfl rfl rfl rfl rfl rfl h34 h35 ?_
        refine PC.weak (s' := PS.of 92 [(9, .list 1 (List.map cI_u8 l8) (some 0)), (12, .val (.int .i64 r27.2)), (15, .val (.int .i64 r31.2))] [] [l8.length] 0 0) (Weak.one [] [0] (by kernel_rfl)) ?_
        refine PC.region ?_
        refine PO.run 1 rfl ?_
        refine bindK hF (fun r38 e39 hF => ?_)
        refine PO.call rfl rfl rfl rfl (ks := []) (ts := []) (fr1 := []) rfl rfl rfl trivial (L24 k l8 _ e39) ?_
        rintro _ _ _ ⟨rfl, rfl, rfl⟩
        refine ⟨_, _, rfl, rfl, ?_⟩
        refine PO.runK 6 [] [] (es := [(12, .val (.int .i64 r27.2)), (15, .val (.int .i64 r31.2)), (17, .val (.int .i64 r38.2))]) (fr' := []) (tk' := []) (by kernel_rfl) ?_
        refine PO.nil ?_
        refine PC.region ?_
        refine PO.run 3 rfl ?_
        refine bindK hF (fun x40 e41 hF => ?_)
        refine PO.cut 7 (fun s => ∃ (v9 : Bool), Weak s (PS.of 92 [(91, .val (.bool v9))] [] [] 0 0) ∧ v9 = x40) ?_ ?_
        · refine PO.case (t := 84) rfl rfl (fun h42 => ?_) (fun h42 => ?_)
          · have e41 := bif_t h42 e41
            refine PO.run 2 rfl ?_
            refine PO.same rfl (pickT_ok rfl rfl rfl) rfl ?_
            refine PO.run 1 rfl ?_
            refine bindK e41 (fun x43 e44 e41 => ?_)
            refine PO.cut 3 (fun s => ∃ (v10 : Bool), Weak s (PS.of 92 [(91, .val (.bool v10))] [] [] 0 0) ∧ v10 = x43) ?_ ?_
            · refine PO.case (t := 88) rfl rfl (fun h45 => ?_) (fun h45 => ?_)
              · have e44 := bif_t h45 e44
                refine PO.run 2 rfl ?_
                refine PO.same rfl (pickT_ok rfl rfl rfl) rfl ?_
                refine PO.nil ?_
                exact ⟨r38.2 == 200, Weak.one [] [] (by kernel_rfl), Option.some.inj e44⟩
              · have e44 := bif_f h45 e44
                refine PO.run 2 rfl ?_
                refine PO.same rfl (pickF_ok rfl rfl rfl) rfl ?_
                refine PO.nil ?_
                exact ⟨false, Weak.one [] [] (by kernel_rfl), Option.some.inj e44⟩
            · rintro _ ⟨v10, w46, rfl⟩
              refine PO.weak w46 ?_
              refine PO.nil ?_
              exact ⟨v10, Weak.one [] [] (by kernel_rfl), Option.some.inj e41⟩
          · have e41 := bif_f h42 e41
            refine PO.run 2 rfl ?_
            refine PO.same rfl (pickF_ok rfl rfl rfl) rfl ?_
            refine PO.run 3 rfl ?_
            refine PO.same rfl (pickF_ok rfl rfl rfl) rfl ?_
            refine PO.nil ?_
            exact ⟨false, Weak.one [] [] (by kernel_rfl), Option.some.inj e41⟩
        · rintro _ ⟨v9, w47, rfl⟩
          refine PO.weak w47 ?_
          refine PO.run 1 rfl ?_
          refine PO.nil ?_
          have hq := Option.some.inj hF
          subst hq
          exact PC.ret' (retSK [] [] (by kernel_rfl) (.refl _) ⟨rfl, rfl, rfl⟩)

end
end Go.Eng.Lift
