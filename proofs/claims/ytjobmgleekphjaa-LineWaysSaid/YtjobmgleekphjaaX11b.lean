import Derived.Test.YtjobmgleekphjaaX11a
import Derived.Test.YtjobmgleekphjaaProg
import Derived.KernelRfl
set_option linter.unusedVariables false
set_option linter.unusedSimpArgs false
set_option maxRecDepth 100000
set_option maxHeartbeats 4000000
namespace Go.Eng.Lift
open Go.Proofs
noncomputable section
/-! 40 platen/platenref13.Check -/
def F40_l1 (k : Nat) (a0 : List GItem) : Nat → Int → Int → Option ((Unit) ⊕ (Int))
  | 0, _, _ => none
  | j13 + 1, v5, v6 =>
    bif decide (v6 < (a0.length : Int)) then (Option.bind (α := (Int) ⊕ ((Unit) ⊕ (Int))) (bindI a0 v6 fun y10 =>
    bif y10.kind == 2 then ((F80 k a0 v6).bind fun r21 =>
    bif !r21 then (some (.inr (.inr 1))) else (some (.inl v5))) else (bindI a0 v6 fun y11 =>
    (F81 k y11).bind fun r26 =>
    Option.bind (α := Bool) (bif !r26 then (some true) else (bindI a0 v6 fun y13 =>
    Option.bind (α := Bool) (bif decide (y13.from_ < v5) then (some true) else (bindI a0 v6 fun y15 =>
    bindI a0 v6 fun y16 =>
    Option.bind (α := Bool) (bif decide (y15.to_ < y16.from_) then (some true) else (bindI a0 v6 fun y18 =>
    some (decide (y18.to_ > 65536)))) fun (v17 : Bool) =>
    some v17)) fun (v14 : Bool) =>
    some v14)) fun (v12 : Bool) =>
    bif v12 then (some (.inr (.inr 1))) else (bindI a0 v6 fun y19 =>
    some (.inl y19.to_)))) (Sum.elim (fun (v9 : Int) =>
    F40_l1 k a0 j13 v9 (w (v6 + 1))) some)) else (some (.inl ()))
def F40 (k : Nat) (a0 : List GItem) : Option Int :=
bif decide ((a0.length : Int) > 4096) then (some 130) else (Option.bind (α := Bool) (bif decide ((a0.length : Int) > 0) then (bindI a0 (w ((a0.length : Int) - 1)) fun y2 =>
(F79 k y2).bind fun r7 =>
some (!r7)) else (some false)) fun (v1 : Bool) =>
bif v1 then (some 1) else (Option.bind (α := (Unit) ⊕ (Int)) (F40_l1 k a0 k 0 0) (Sum.elim (fun (_ : Unit) =>
some 0) some)))
theorem L40 (k : Nat) (a0 : List GItem) (r : Int) (hF : F40 k a0 = some r) : PF Try.prog orc 40 [.list 13 (List.map cGItem a0) none] [] [] (fun p fr tk => p = .val (.int .i64 r) ∧ fr = [] ∧ tk = []) := by
  unfold F40 at hF
  refine PF.enterS Try.func40 rfl rfl rfl (by kernel_rfl) rfl ?_
  refine PC.run (n := 2) rfl ?_
  refine PC.assoc ?_
  refine PC.region ?_
  refine PO.run 1 rfl ?_
  refine PO.same rfl (len_ok Try.underlying42 rfl (List.length_map _)) rfl ?_
  refine PO.run 1 rfl ?_
  refine PO.nil ?_
  refine PC.cond rfl (fun h1 => ?_) (fun h1 => ?_)
  · have hF := bif_t h1 hF
    refine PC.assoc ?_
    refine PC.run (n := 2) rfl ?_
    obtain rfl := Option.some.inj hF
    exact PC.ret (retSK [] [] (by kernel_rfl) (.refl _) ⟨rfl, rfl, rfl⟩)
  · have hF := bif_f h1 hF
    refine PC.noop ?_
    refine PC.assoc ?_
    refine PC.region ?_
    refine PO.run 1 rfl ?_
    refine PO.same rfl (len_ok Try.underlying42 rfl (List.length_map _)) rfl ?_
    refine PO.run 2 rfl ?_
    refine Exists.elim (bind_some hF) (fun x2 hq => ?_)
    have e3 := hq.1
    have hF := hq.2
    clear hq
    refine PO.cut 9 (fun s => ∃ (v1 : Bool), Weak s (PS.of 78 [(0, .list 13 (List.map cGItem a0) none), (2, .val (.int .i64 0)), (20, .val (.bool v1))] [] [] 0 0) ∧ v1 = x2) ?_ ?_
    · refine PO.case (t := 11) rfl rfl (fun h4 => ?_) (fun h4 => ?_)
      · have e3 := bif_t h4 e3
        refine PO.run 2 rfl ?_
        refine PO.same rfl (len_ok Try.underlying42 rfl (List.length_map _)) rfl ?_
        refine PO.run 1 rfl ?_
        refine Exists.elim (bindI_some e3) (fun y2 hq => ?_)
        have h5 := hq.1
        have h6 := hq.2.1
        have e3 := hq.2.2
        clear hq
        refine PO.same rfl (indexAddr_ok Try.underlying42 rfl rfl rfl h5 (map_at h6)) rfl ?_
        refine PO.run 1 rfl ?_
        refine Exists.elim (bind_some e3) (fun r7 hq => ?_)
        have e8 := hq.1
        have e3 := hq.2
        clear hq
        refine PO.call rfl rfl rfl rfl (ks := []) (ts := []) (fr1 := []) rfl rfl rfl trivial (L79 k y2 _ e8) ?_
        rintro _ _ _ ⟨rfl, rfl, rfl⟩
        refine ⟨_, _, rfl, rfl, ?_⟩
        refine PO.run 1 rfl ?_
        refine PO.same rfl (pickT_ok rfl rfl rfl) rfl ?_
        refine PO.nil ?_
        obtain rfl := Option.some.inj e3
        exact ⟨!r7, Weak.one [] [] (by kernel_rfl), rfl⟩
      · have e3 := bif_f h4 e3
        refine PO.run 8 rfl ?_
        refine PO.same rfl (pickF_ok rfl rfl rfl) rfl ?_
        refine PO.nil ?_
        obtain rfl := Option.some.inj e3
        exact ⟨false, Weak.one [] [] (by kernel_rfl), rfl⟩
    · rintro _ ⟨v1, w9, rfl⟩
      refine PO.weak w9 ?_
      refine PO.nil ?_
      refine PC.cond rfl (fun h10 => ?_) (fun h10 => ?_)
      · have hF := bif_t h10 hF
        refine PC.assoc ?_
        refine PC.run (n := 2) rfl ?_
        obtain rfl := Option.some.inj hF
        exact PC.ret (retSK [] [] (by kernel_rfl) (.refl _) ⟨rfl, rfl, rfl⟩)
      · have hF := bif_f h10 hF
        refine PC.noop ?_
        refine PC.run (n := 2) rfl ?_
        refine PC.assoc ?_
        refine PC.run (n := 2) rfl ?_
        refine Exists.elim (bind_some hF) (fun x11 hq => ?_)
        have e12 := hq.1
        have hF := hq.2
        clear hq
        refine PC.blockJ (fun s => Weak s (PS.of 78 [(2, .val (.int .i64 0))] [] [] 0 0) ∧ .inl () = x11) ?_ ?_
        · refine PC.loop (fun j13 s => ∃ (v5 : Int) (v6 : Int), Weak s (PS.of 78 [(0, .list 13 (List.map cGItem a0) none), (2, .val (.int .i64 0)), (3, .val (.int .i64 v5)), (4, .val (.int .i64 v6))] [] [] 0 0) ∧ F40_l1 k a0 j13 v5 v6 = some x11) (fun j13 s => ?_) k ⟨0, 0, Weak.one [] [] (by kernel_rfl), e12⟩
          rintro ⟨v5, v6, w14, e12⟩
          refine PC.weak w14 ?_
          cases j13 with
          | zero => rw [F40_l1] at e12; cases e12
          | succ j13 =>
            rw [F40_l1] at e12
            refine PC.assoc ?_
            refine PC.region ?_
            refine PO.run 2 rfl ?_
            refine PO.same rfl (len_ok Try.underlying42 rfl (List.length_map _)) rfl ?_
            refine PO.run 1 rfl ?_
            refine PO.nil ?_
            refine PC.cond rfl (fun h15 => ?_) (fun h15 => ?_)
            · have e12 := bif_t h15 e12
              refine PC.noop ?_
              refine Exists.elim (bind_some e12) (fun x16 hq => ?_)
              have e17 := hq.1
              have e12 := hq.2
              clear hq
              refine PC.blockJ (fun s => ∃ (v9 : Int), Weak s (PS.of 78 [(0, .list 13 (List.map cGItem a0) none), (2, .val (.int .i64 0)), (3, .val (.int .i64 v9)), (4, .val (.int .i64 v6))] [] [] 0 0) ∧ .inl v9 = x16) ?_ ?_
              · refine PC.assoc ?_
                refine PC.region ?_
                refine PO.run 2 rfl ?_
                refine Exists.elim (bindI_some e17) (fun y10 hq => ?_)
                have h18 := hq.1
                have h19 := hq.2.1
                have e17 := hq.2.2
                clear hq
                refine PO.same rfl (indexAddr_ok Try.underlying42 rfl rfl rfl h18 (map_at h19)) rfl ?_
                refine PO.run 3 rfl ?_
                refine PO.nil ?_
                refine PC.cond rfl (fun h20 => ?_) (fun h20 => ?_)
                · have e17 := bif_t h20 e17
                  refine PC.assoc ?_
                  refine PC.assoc ?_
                  refine PC.region ?_
                  refine PO.run 2 rfl ?_
                  refine Exists.elim (bind_some e17) (fun r21 hq => ?_)
                  have e22 := hq.1
                  have e17 := hq.2
                  clear hq
                  refine PO.call rfl rfl rfl rfl (ks := []) (ts := []) (fr1 := []) rfl rfl rfl trivial (L80 k a0 v6 _ e22) ?_
                  rintro _ _ _ ⟨rfl, rfl, rfl⟩
                  refine ⟨_, _, rfl, rfl, ?_⟩
                  refine PO.run 1 rfl ?_
                  refine PO.nil ?_
                  refine PC.cond rfl (fun h23 => ?_) (fun h23 => ?_)
                  · have e17 := bif_t h23 e17
                    refine PC.assoc ?_
                    refine PC.run (n := 2) rfl ?_
                    obtain rfl := Option.some.inj e17
                    obtain rfl := Option.some.inj e12
                    obtain rfl := Option.some.inj hF
                    exact PC.ret (blockJK.back (loopKP.ret (blockJK.back (retSK [] [] (by kernel_rfl) (.refl _) ⟨rfl, rfl, rfl⟩))))
                  · have e17 := bif_f h23 e17
                    refine PC.noop ?_
                    obtain rfl := Option.some.inj e17
                    exact PC.exit (blockJK.here ⟨v5, Weak.one [] [] (by kernel_rfl), rfl⟩)
                · have e17 := bif_f h20 e17
                  refine PC.noop ?_
                  refine PC.assoc ?_
                  refine PC.drawn (order := [0, 1, 2, 3, 4, 5, 6, 7, 8, 9, 10, 11, 12, 13, 14, 15, 16, 17, 18, 19, 20, 21, 22, 23, 24, 25, 26, 27, 28, 29, 30, 31, 32, 33, 34, 35]) (by kernel_rfl) ?_
                  refine PO.run 2 rfl ?_
                  refine Exists.elim (bindI_some e17) (fun y11 hq => ?_)
                  have h24 := hq.1
                  have h25 := hq.2.1
                  have e17 := hq.2.2
                  clear hq
                  refine PO.same rfl (indexAddr_ok Try.underlying42 rfl rfl rfl h24 (map_at h25)) rfl ?_
                  refine PO.run 1 rfl ?_
                  refine Exists.elim (bind_some e17) (fun r26 hq => ?_)
                  have e27 := hq.1
                  have e17 := hq.2
                  clear hq
                  refine PO.call rfl rfl rfl rfl (ks := []) (ts := []) (fr1 := []) rfl rfl rfl trivial (L81 k y11 _ e27) ?_
                  rintro _ _ _ ⟨rfl, rfl, rfl⟩
                  refine ⟨_, _, rfl, rfl, ?_⟩
                  refine PO.run 2 rfl ?_
                  refine Exists.elim (bind_some e17) (fun x28 hq => ?_)
                  have e29 := hq.1
                  have e17 := hq.2
                  clear hq
                  refine PO.cut 29 (fun s => ∃ (v12 : Bool), Weak s (PS.of 78 [(0, .list 13 (List.map cGItem a0) none), (2, .val (.int .i64 0)), (3, .val (.int .i64 v5)), (4, .val (.int .i64 v6)), (72, .val (.bool v12))] [] [] 0 0) ∧ v12 = x28) ?_ ?_
                  · refine PO.case (t := 43) rfl rfl (fun h30 => ?_) (fun h30 => ?_)
                    · have e29 := bif_t h30 e29
                      refine PO.run 7 rfl ?_
                      refine PO.same rfl (pickT_ok rfl rfl rfl) rfl ?_
                      refine PO.run 12 rfl ?_
                      refine PO.same rfl (pickT_ok rfl rfl rfl) rfl ?_
                      refine PO.run 7 rfl ?_
                      refine PO.same rfl (pickT_ok rfl rfl rfl) rfl ?_
                      refine PO.nil ?_
                      obtain rfl := Option.some.inj e29
                      exact ⟨true, Weak.one [] [] (by kernel_rfl), rfl⟩
                    · have e29 := bif_f h30 e29
                      refine PO.run 2 rfl ?_
                      refine Exists.elim (bindI_some e29) (fun y13 hq => ?_)
                      have h31 := hq.1
                      have h32 := hq.2.1
                      have e29 := hq.2.2
                      clear hq
                      refine PO.same rfl (indexAddr_ok Try.underlying42 rfl rfl rfl h31 (map_at h32)) rfl ?_
                      refine PO.run 4 rfl ?_
                      refine PO.same rfl (pickF_ok rfl rfl rfl) rfl ?_
                      refine PO.run 1 rfl ?_
                      refine Exists.elim (bind_some e29) (fun x33 hq => ?_)
                      have e34 := hq.1
                      have e29 := hq.2
                      clear hq
                      refine PO.cut 20 (fun s => ∃ (v14 : Bool), Weak s (PS.of 78 [(0, .list 13 (List.map cGItem a0) none), (2, .val (.int .i64 0)), (3, .val (.int .i64 v5)), (4, .val (.int .i64 v6)), (72, .val (.bool v14))] [] [] 0 0) ∧ v14 = x33) ?_ ?_
                      · refine PO.case (t := 52) rfl rfl (fun h35 => ?_) (fun h35 => ?_)
                        · have e34 := bif_t h35 e34
                          refine PO.run 11 rfl ?_
                          refine PO.same rfl (pickT_ok rfl rfl rfl) rfl ?_
                          refine PO.run 7 rfl ?_
                          refine PO.same rfl (pickT_ok rfl rfl rfl) rfl ?_
                          refine PO.nil ?_
                          obtain rfl := Option.some.inj e34
                          exact ⟨true, Weak.one [] [] (by kernel_rfl), rfl⟩
                        · have e34 := bif_f h35 e34
                          refine PO.run 2 rfl ?_
                          refine Exists.elim (bindI_some e34) (fun y15 hq => ?_)
                          have h36 := hq.1
                          have h37 := hq.2.1
                          have e34 := hq.2.2
                          clear hq
                          refine PO.same rfl (indexAddr_ok Try.underlying42 rfl rfl rfl h36 (map_at h37)) rfl ?_
                          refine PO.run 4 rfl ?_
                          refine Exists.elim (bindI_some e34) (fun y16 hq => ?_)
                          have h38 := hq.1
                          have h39 := hq.2.1
                          have e34 := hq.2.2
                          clear hq
                          refine PO.same rfl (indexAddr_ok Try.underlying42 rfl rfl rfl h38 (map_at h39)) rfl ?_
                          refine PO.run 3 rfl ?_
                          refine PO.same rfl (pickF_ok rfl rfl rfl) rfl ?_
                          refine PO.run 1 rfl ?_
                          refine Exists.elim (bind_some e34) (fun x40 hq => ?_)
                          have e41 := hq.1
                          have e34 := hq.2
                          clear hq
                          refine PO.cut 7 (fun s => ∃ (v17 : Bool), Weak s (PS.of 78 [(0, .list 13 (List.map cGItem a0) none), (2, .val (.int .i64 0)), (3, .val (.int .i64 v5)), (4, .val (.int .i64 v6)), (72, .val (.bool v17))] [] [] 0 0) ∧ v17 = x40) ?_ ?_
                          · refine PO.case (t := 65) rfl rfl (fun h42 => ?_) (fun h42 => ?_)
                            · have e41 := bif_t h42 e41
                              refine PO.run 6 rfl ?_
                              refine PO.same rfl (pickT_ok rfl rfl rfl) rfl ?_
                              refine PO.nil ?_
                              obtain rfl := Option.some.inj e41
                              exact ⟨true, Weak.one [] [] (by kernel_rfl), rfl⟩
                            · have e41 := bif_f h42 e41
                              refine PO.run 2 rfl ?_
                              refine Exists.elim (bindI_some e41) (fun y18 hq => ?_)
                              have h43 := hq.1
                              have h44 := hq.2.1
                              have e41 := hq.2.2
                              clear hq
                              refine PO.same rfl (indexAddr_ok Try.underlying42 rfl rfl rfl h43 (map_at h44)) rfl ?_
                              refine PO.run 3 rfl ?_
                              refine PO.same rfl (pickF_ok rfl rfl rfl) rfl ?_
                              refine PO.nil ?_
                              obtain rfl := Option.some.inj e41
                              exact ⟨decide (y18.to_ > 65536), Weak.one [] [] (by kernel_rfl), rfl⟩
                          · rintro _ ⟨v17, w45, rfl⟩
                            refine PO.weak w45 ?_
                            refine PO.nil ?_
                            obtain rfl := Option.some.inj e34
                            exact ⟨v17, Weak.one [] [] (by kernel_rfl), rfl⟩
                      · rintro _ ⟨v14, w46, rfl⟩
                        refine PO.weak w46 ?_
                        refine PO.nil ?_
                        obtain rfl := Option.some.inj e29
                        exact ⟨v14, Weak.one [] [] (by kernel_rfl), rfl⟩
                  · rintro _ ⟨v12, w47, rfl⟩
                    refine PO.weak w47 ?_
                    refine PO.nil ?_
                    refine PC.cond rfl (fun h48 => ?_) (fun h48 => ?_)
                    · have e17 := bif_t h48 e17
                      refine PC.assoc ?_
                      refine PC.run (n := 2) rfl ?_
                      obtain rfl := Option.some.inj e17
                      obtain rfl := Option.some.inj e12
                      obtain rfl := Option.some.inj hF
                      exact PC.ret (blockJK.back (loopKP.ret (blockJK.back (retSK [] [] (by kernel_rfl) (.refl _) ⟨rfl, rfl, rfl⟩))))
                    · have e17 := bif_f h48 e17
                      refine PC.noop ?_
                      refine PC.lone ?_
                      refine PC.region ?_
                      refine PO.run 2 rfl ?_
                      refine Exists.elim (bindI_some e17) (fun y19 hq => ?_)
                      have h49 := hq.1
                      have h50 := hq.2.1
                      have e17 := hq.2.2
                      clear hq
                      refine PO.same rfl (indexAddr_ok Try.underlying42 rfl rfl rfl h49 (map_at h50)) rfl ?_
                      refine PO.run 3 rfl ?_
                      refine PO.nil ?_
                      obtain rfl := Option.some.inj e17
                      exact PC.skip (blockJK.end ⟨y19.to_, Weak.one [] [] (by kernel_rfl), rfl⟩)
              · rintro _ ⟨v9, w51, rfl⟩
                refine PC.weak w51 ?_
                have e12 := elim_l e12
                refine PC.lone ?_
                refine PC.run (n := 4) rfl ?_
                exact PC.skip (loopKP.mk (Nat.lt_succ_self _) ⟨v9, w (v6 + 1), Weak.one [] [] (by kernel_rfl), e12⟩)
            · have e12 := bif_f h15 e12
              obtain rfl := Option.some.inj e12
              exact PC.exit (loopKP.exit (blockJK.here ⟨Weak.one [] [] (by kernel_rfl), rfl⟩))
        · rintro _ ⟨w52, rfl⟩
          refine PC.weak w52 ?_
          have hF := elim_l hF
          refine PC.run (n := 2) rfl ?_
          obtain rfl := Option.some.inj hF
          exact PC.ret' (retSK [] [] (by kernel_rfl) (.refl _) ⟨rfl, rfl, rfl⟩)

/-! 72 platen/platenref14.wide -/
def F72 (k : Nat) (a0 : Int) : Option Bool :=
Option.bind (α := Bool) (bif decide (a0 ≥ 1) then (some (decide (a0 ≤ 536870912))) else (some false)) fun (v1 : Bool) =>
some v1
theorem L72 (k : Nat) (a0 : Int) (r : Bool) (hF : F72 k a0 = some r) : PF Try.prog orc 72 [.val (.int .i64 a0)] [] [] (fun p fr tk => p = .val (.bool r) ∧ fr = [] ∧ tk = []) := by
  unfold F72 at hF
  refine PF.enterS Try.func72 rfl rfl rfl (by kernel_rfl) rfl ?_
  refine PC.run (n := 2) rfl ?_
  refine PC.region ?_
  refine PO.run 3 rfl ?_
  refine Exists.elim (bind_some hF) (fun x1 hq => ?_)
  have e2 := hq.1
  have hF := hq.2
  clear hq
  refine PO.cut 3 (fun s => ∃ (v1 : Bool), Weak s (PS.of 9 [(2, .val (.bool false)), (8, .val (.bool v1))] [] [] 0 0) ∧ v1 = x1) ?_ ?_
  · refine PO.case (t := 5) rfl rfl (fun h3 => ?_) (fun h3 => ?_)
    · have e2 := bif_t h3 e2
      refine PO.run 2 rfl ?_
      refine PO.same rfl (pickT_ok rfl rfl rfl) rfl ?_
      refine PO.nil ?_
      obtain rfl := Option.some.inj e2
      exact ⟨decide (a0 ≤ 536870912), Weak.one [] [] (by kernel_rfl), rfl⟩
    · have e2 := bif_f h3 e2
      refine PO.run 2 rfl ?_
      refine PO.same rfl (pickF_ok rfl rfl rfl) rfl ?_
      refine PO.nil ?_
      obtain rfl := Option.some.inj e2
      exact ⟨false, Weak.one [] [] (by kernel_rfl), rfl⟩
  · rintro _ ⟨v1, w4, rfl⟩
    refine PO.weak w4 ?_
    refine PO.run 1 rfl ?_
    refine PO.nil ?_
    obtain rfl := Option.some.inj hF
    exact PC.ret' (retSK [] [] (by kernel_rfl) (.refl _) ⟨rfl, rfl, rfl⟩)

/-! 67 platen/platenref14.legal -/
def F67 (k : Nat) (a0 : List GItem) (a1 : Int) : Option Bool :=
bindI a0 a1 fun y1 =>
bif y1.kind == 3 then (Option.bind (α := Bool) (bif decide (a1 > 0) then (bindI a0 (w (a1 - 1)) fun y3 =>
some (y3.kind == 1)) else (some false)) fun (v2 : Bool) =>
some v2) else (bif y1.kind == 4 then (bindI a0 a1 fun y4 =>
some (decide (y4.value < 10000))) else (some false))
theorem L67 (k : Nat) (a0 : List GItem) (a1 : Int) (r : Bool) (hF : F67 k a0 a1 = some r) : PF Try.prog orc 67 [.list 13 (List.map cGItem a0) none, .val (.int .i64 a1)] [] [] (fun p fr tk => p = .val (.bool r) ∧ fr = [] ∧ tk = []) := by
  unfold F67 at hF
  refine PF.enterS Try.func67 rfl rfl rfl (by kernel_rfl) rfl ?_
  refine PC.run (n := 2) rfl ?_
  refine PC.assoc ?_
  refine PC.region ?_
  refine PO.run 2 rfl ?_
  refine Exists.elim (bindI_some hF) (fun y1 hq => ?_)
  have h1 := hq.1
  have h2 := hq.2.1
  have hF := hq.2.2
  clear hq
  refine PO.same rfl (indexAddr_ok Try.underlying42 rfl rfl rfl h1 (map_at h2)) rfl ?_
  refine PO.run 2 rfl ?_
  refine PO.nil ?_
  refine PC.block ?_
  refine PC.run (n := 3) rfl ?_
  refine PC.lone ?_
  refine PC.cond rfl (fun h3 => ?_) (fun h3 => ?_)
  · have hF := bif_t h3 hF
    refine PC.assoc ?_
    refine PC.region ?_
    refine PO.run 3 rfl ?_
    refine Exists.elim (bind_some hF) (fun x4 hq => ?_)
    have e5 := hq.1
    have hF := hq.2
    clear hq
    refine PO.cut 8 (fun s => ∃ (v2 : Bool), Weak s (PS.of 31 [(4, .val (.bool false)), (22, .val (.bool v2))] [] [] 0 0) ∧ v2 = x4) ?_ ?_
    · refine PO.case (t := 14) rfl rfl (fun h6 => ?_) (fun h6 => ?_)
      · have e5 := bif_t h6 e5
        refine PO.run 3 rfl ?_
        refine Exists.elim (bindI_some e5) (fun y3 hq => ?_)
        have h7 := hq.1
        have h8 := hq.2.1
        have e5 := hq.2.2
        clear hq
        refine PO.same rfl (indexAddr_ok Try.underlying42 rfl rfl rfl h7 (map_at h8)) rfl ?_
        refine PO.run 3 rfl ?_
        refine PO.same rfl (pickT_ok rfl rfl rfl) rfl ?_
        refine PO.nil ?_
        obtain rfl := Option.some.inj e5
        exact ⟨y3.kind == 1, Weak.one [] [] (by kernel_rfl), rfl⟩
      · have e5 := bif_f h6 e5
        refine PO.run 7 rfl ?_
        refine PO.same rfl (pickF_ok rfl rfl rfl) rfl ?_
        refine PO.nil ?_
        obtain rfl := Option.some.inj e5
        exact ⟨false, Weak.one [] [] (by kernel_rfl), rfl⟩
    · rintro _ ⟨v2, w9, rfl⟩
      refine PO.weak w9 ?_
      refine PO.run 1 rfl ?_
      refine PO.nil ?_
      obtain rfl := Option.some.inj hF
      exact PC.ret (blockKP.back (retSK [] [] (by kernel_rfl) (.refl _) ⟨rfl, rfl, rfl⟩))
  · have hF := bif_f h3 hF
    refine PC.assoc ?_
    refine PC.run (n := 3) rfl ?_
    refine PC.cond rfl (fun h10 => ?_) (fun h10 => ?_)
    · have hF := bif_t h10 hF
      refine PC.assoc ?_
      refine PC.region ?_
      refine PO.run 2 rfl ?_
      refine Exists.elim (bindI_some hF) (fun y4 hq => ?_)
      have h11 := hq.1
      have h12 := hq.2.1
      have hF := hq.2.2
      clear hq
      refine PO.same rfl (indexAddr_ok Try.underlying42 rfl rfl rfl h11 (map_at h12)) rfl ?_
      refine PO.run 4 rfl ?_
      refine PO.nil ?_
      obtain rfl := Option.some.inj hF
      exact PC.ret (blockKP.back (retSK [] [] (by kernel_rfl) (.refl _) ⟨rfl, rfl, rfl⟩))
    · have hF := bif_f h10 hF
      refine PC.noop ?_
      refine PC.skip (blockKP.end ?_)
      refine PC.run (n := 2) rfl ?_
      obtain rfl := Option.some.inj hF
      exact PC.ret' (retSK [] [] (by kernel_rfl) (.refl _) ⟨rfl, rfl, rfl⟩)

/-! 96 platen/platenref14.forced -/
def F96 (k : Nat) (a0 : List GItem) (a1 : Int) : Option Bool :=
bindI a0 a1 fun y1 =>
Option.bind (α := Bool) (bif y1.kind == 4 then (bindI a0 a1 fun y3 =>
some (y3.value == (-10000))) else (some false)) fun (v2 : Bool) =>
some v2
theorem L96 (k : Nat) (a0 : List GItem) (a1 : Int) (r : Bool) (hF : F96 k a0 a1 = some r) : PF Try.prog orc 96 [.list 13 (List.map cGItem a0) none, .val (.int .i64 a1)] [] [] (fun p fr tk => p = .val (.bool r) ∧ fr = [] ∧ tk = []) := by
  unfold F96 at hF
  refine PF.enterS Try.func96 rfl rfl rfl (by kernel_rfl) rfl ?_
  refine PC.run (n := 2) rfl ?_
  refine PC.region ?_
  refine PO.run 2 rfl ?_
  refine Exists.elim (bindI_some hF) (fun y1 hq => ?_)
  have h1 := hq.1
  have h2 := hq.2.1
  have hF := hq.2.2
  clear hq
  refine PO.same rfl (indexAddr_ok Try.underlying42 rfl rfl rfl h1 (map_at h2)) rfl ?_
  refine PO.run 4 rfl ?_
  refine Exists.elim (bind_some hF) (fun x3 hq => ?_)
  have e4 := hq.1
  have hF := hq.2
  clear hq
  refine PO.cut 7 (fun s => ∃ (v2 : Bool), Weak s (PS.of 19 [(4, .val (.bool false)), (18, .val (.bool v2))] [] [] 0 0) ∧ v2 = x3) ?_ ?_
  · refine PO.case (t := 11) rfl rfl (fun h5 => ?_) (fun h5 => ?_)
    · have e4 := bif_t h5 e4
      refine PO.run 2 rfl ?_
      refine Exists.elim (bindI_some e4) (fun y3 hq => ?_)
      have h6 := hq.1
      have h7 := hq.2.1
      have e4 := hq.2.2
      clear hq
      refine PO.same rfl (indexAddr_ok Try.underlying42 rfl rfl rfl h6 (map_at h7)) rfl ?_
      refine PO.run 3 rfl ?_
      refine PO.same rfl (pickT_ok rfl rfl rfl) rfl ?_
      refine PO.nil ?_
      obtain rfl := Option.some.inj e4
      exact ⟨y3.value == (-10000), Weak.one [] [] (by kernel_rfl), rfl⟩
    · have e4 := bif_f h5 e4
      refine PO.run 6 rfl ?_
      refine PO.same rfl (pickF_ok rfl rfl rfl) rfl ?_
      refine PO.nil ?_
      obtain rfl := Option.some.inj e4
      exact ⟨false, Weak.one [] [] (by kernel_rfl), rfl⟩
  · rintro _ ⟨v2, w8, rfl⟩
    refine PO.weak w8 ?_
    refine PO.run 1 rfl ?_
    refine PO.nil ?_
    obtain rfl := Option.some.inj hF
    exact PC.ret' (retSK [] [] (by kernel_rfl) (.refl _) ⟨rfl, rfl, rfl⟩)

/-! 78 platen/platenref14.Way -/
def F78_l1 (k : Nat) (a0 : List GItem) (a1 : List Int) : Nat → Int → Int → Option ((Int) ⊕ (Bool))
  | 0, _, _ => none
  | j3 + 1, v4, v5 =>
    bif decide (v5 < (a0.length : Int)) then (Option.bind (α := (Int) ⊕ ((Int) ⊕ (Bool))) (Option.bind (α := Bool) (bif decide (v4 < (a1.length : Int)) then (bindI a1 v4 fun y10 =>
    some (y10 == v5)) else (some false)) fun (v9 : Bool) =>
    bif v9 then ((F67 k a0 v5).bind fun r15 =>
    bif !r15 then (some (.inr (.inr false))) else (some (.inl (w (v4 + 1))))) else ((F96 k a0 v5).bind fun r18 =>
    bif r18 then (some (.inr (.inr false))) else (some (.inl v4)))) (Sum.elim (fun (v8 : Int) =>
    F78_l1 k a0 a1 j3 v8 (w (v5 + 1))) some)) else (some (.inl v4))
def F78 (k : Nat) (a0 : List GItem) (a1 : List Int) : Option Bool :=
Option.bind (α := (Int) ⊕ (Bool)) (F78_l1 k a0 a1 k 0 0) (Sum.elim (fun (v1 : Int) =>
some (v1 == (a1.length : Int))) some)
theorem L78 (k : Nat) (a0 : List GItem) (a1 : List Int) (r : Bool) (hF : F78 k a0 a1 = some r) : PF Try.prog orc 78 [.list 13 (List.map cGItem a0) none, .list 1 (List.map cI_i64 a1) none] [] [] (fun p fr tk => p = .val (.bool r) ∧ fr = [] ∧ tk = []) := by
  unfold F78 at hF
  refine PF.enterS Try.func78 rfl rfl rfl (by kernel_rfl) rfl ?_
  refine PC.run (n := 2) rfl ?_
  refine PC.run (n := 2) rfl ?_
  refine PC.assoc ?_
  refine PC.run (n := 2) rfl ?_
  refine Exists.elim (bind_some hF) (fun x1 hq => ?_)
  have e2 := hq.1
  have hF := hq.2
  clear hq
  refine PC.blockJ (fun s => ∃ (v1 : Int), Weak s (PS.of 38 [(1, .list 1 (List.map cI_i64 a1) none), (4, .val (.bool false)), (5, .val (.int .i64 v1))] [] [] 0 0) ∧ .inl v1 = x1) ?_ ?_
  · refine PC.loop (fun j3 s => ∃ (v4 : Int) (v5 : Int), Weak s (PS.of 38 [(0, .list 13 (List.map cGItem a0) none), (1, .list 1 (List.map cI_i64 a1) none), (4, .val (.bool false)), (5, .val (.int .i64 v4)), (6, .val (.int .i64 v5))] [] [] 0 0) ∧ F78_l1 k a0 a1 j3 v4 v5 = some x1) (fun j3 s => ?_) k ⟨0, 0, Weak.one [] [] (by kernel_rfl), e2⟩
    rintro ⟨v4, v5, w4, e2⟩
    refine PC.weak w4 ?_
    cases j3 with
    | zero => rw [F78_l1] at e2; cases e2
    | succ j3 =>
      rw [F78_l1] at e2
      refine PC.assoc ?_
      refine PC.region ?_
      refine PO.run 2 rfl ?_
      refine PO.same rfl (len_ok Try.underlying42 rfl (List.length_map _)) rfl ?_
      refine PO.run 1 rfl ?_
      refine PO.nil ?_
      refine PC.cond rfl (fun h5 => ?_) (fun h5 => ?_)
      · have e2 := bif_t h5 e2
        refine PC.noop ?_
        refine Exists.elim (bind_some e2) (fun x6 hq => ?_)
        have e7 := hq.1
        have e2 := hq.2
        clear hq
        refine PC.blockJ (fun s => ∃ (v8 : Int), Weak s (PS.of 38 [(0, .list 13 (List.map cGItem a0) none), (1, .list 1 (List.map cI_i64 a1) none), (4, .val (.bool false)), (5, .val (.int .i64 v8)), (6, .val (.int .i64 v5))] [] [] 0 0) ∧ .inl v8 = x6) ?_ ?_
        · refine PC.region ?_
          refine PO.run 2 rfl ?_
          refine PO.same rfl (len_ok Try.underlying43 rfl (List.length_map _)) rfl ?_
          refine PO.run 2 rfl ?_
          refine Exists.elim (bind_some e7) (fun x8 hq => ?_)
          have e9 := hq.1
          have e7 := hq.2
          clear hq
          refine PO.cut 7 (fun s => ∃ (v9 : Bool), Weak s (PS.of 38 [(0, .list 13 (List.map cGItem a0) none), (1, .list 1 (List.map cI_i64 a1) none), (4, .val (.bool false)), (5, .val (.int .i64 v4)), (6, .val (.int .i64 v5)), (24, .val (.bool v9))] [] [] 0 0) ∧ v9 = x8) ?_ ?_
          · refine PO.case (t := 17) rfl rfl (fun h10 => ?_) (fun h10 => ?_)
            · have e9 := bif_t h10 e9
              refine PO.run 2 rfl ?_
              refine Exists.elim (bindI_some e9) (fun y10 hq => ?_)
              have h11 := hq.1
              have h12 := hq.2.1
              have e9 := hq.2.2
              clear hq
              refine PO.same rfl (indexAddr_ok Try.underlying43 rfl rfl rfl h11 (map_at h12)) rfl ?_
              refine PO.run 3 rfl ?_
              refine PO.same rfl (pickT_ok rfl rfl rfl) rfl ?_
              refine PO.nil ?_
              obtain rfl := Option.some.inj e9
              exact ⟨y10 == v5, Weak.one [] [] (by kernel_rfl), rfl⟩
            · have e9 := bif_f h10 e9
              refine PO.run 6 rfl ?_
              refine PO.same rfl (pickF_ok rfl rfl rfl) rfl ?_
              refine PO.nil ?_
              obtain rfl := Option.some.inj e9
              exact ⟨false, Weak.one [] [] (by kernel_rfl), rfl⟩
          · rintro _ ⟨v9, w13, rfl⟩
            refine PO.weak w13 ?_
            refine PO.nil ?_
            refine PC.lone ?_
            refine PC.cond rfl (fun h14 => ?_) (fun h14 => ?_)
            · have e7 := bif_t h14 e7
              refine PC.assoc ?_
              refine PC.assoc ?_
              refine PC.region ?_
              refine PO.run 2 rfl ?_
              refine Exists.elim (bind_some e7) (fun r15 hq => ?_)
              have e16 := hq.1
              have e7 := hq.2
              clear hq
              refine PO.call rfl rfl rfl rfl (ks := []) (ts := []) (fr1 := []) rfl rfl rfl trivial (L67 k a0 v5 _ e16) ?_
              rintro _ _ _ ⟨rfl, rfl, rfl⟩
              refine ⟨_, _, rfl, rfl, ?_⟩
              refine PO.run 1 rfl ?_
              refine PO.nil ?_
              refine PC.cond rfl (fun h17 => ?_) (fun h17 => ?_)
              · have e7 := bif_t h17 e7
                refine PC.assoc ?_
                refine PC.run (n := 2) rfl ?_
                obtain rfl := Option.some.inj e7
                obtain rfl := Option.some.inj e2
                obtain rfl := Option.some.inj hF
                exact PC.ret (blockJK.back (loopKP.ret (blockJK.back (retSK [] [] (by kernel_rfl) (.refl _) ⟨rfl, rfl, rfl⟩))))
              · have e7 := bif_f h17 e7
                refine PC.noop ?_
                refine PC.run (n := 4) rfl ?_
                obtain rfl := Option.some.inj e7
                exact PC.skip (blockJK.end ⟨w (v4 + 1), Weak.one [] [] (by kernel_rfl), rfl⟩)
            · have e7 := bif_f h14 e7
              refine PC.assoc ?_
              refine PC.region ?_
              refine PO.run 2 rfl ?_
              refine Exists.elim (bind_some e7) (fun r18 hq => ?_)
              have e19 := hq.1
              have e7 := hq.2
              clear hq
              refine PO.call rfl rfl rfl rfl (ks := []) (ts := []) (fr1 := []) rfl rfl rfl trivial (L96 k a0 v5 _ e19) ?_
              rintro _ _ _ ⟨rfl, rfl, rfl⟩
              refine ⟨_, _, rfl, rfl, ?_⟩
              refine PO.nil ?_
              refine PC.cond rfl (fun h20 => ?_) (fun h20 => ?_)
              · have e7 := bif_t h20 e7
                refine PC.assoc ?_
                refine PC.run (n := 2) rfl ?_
                obtain rfl := Option.some.inj e7
                obtain rfl := Option.some.inj e2
                obtain rfl := Option.some.inj hF
                exact PC.ret (blockJK.back (loopKP.ret (blockJK.back (retSK [] [] (by kernel_rfl) (.refl _) ⟨rfl, rfl, rfl⟩))))
              · have e7 := bif_f h20 e7
                refine PC.noop ?_
                obtain rfl := Option.some.inj e7
                exact PC.skip (blockJK.end ⟨v4, Weak.one [] [] (by kernel_rfl), rfl⟩)
        · rintro _ ⟨v8, w21, rfl⟩
          refine PC.weak w21 ?_
          have e2 := elim_l e2
          refine PC.lone ?_
          refine PC.run (n := 4) rfl ?_
          exact PC.skip (loopKP.mk (Nat.lt_succ_self _) ⟨v8, w (v5 + 1), Weak.one [] [] (by kernel_rfl), e2⟩)
      · have e2 := bif_f h5 e2
        obtain rfl := Option.some.inj e2
        exact PC.exit (loopKP.exit (blockJK.here ⟨v4, Weak.one [] [] (by kernel_rfl), rfl⟩))
  · rintro _ ⟨v1, w22, rfl⟩
    refine PC.weak w22 ?_
    have hF := elim_l hF
    refine PC.region ?_
    refine PO.run 2 rfl ?_
    refine PO.same rfl (len_ok Try.underlying43 rfl (List.length_map _)) rfl ?_
    refine PO.run 2 rfl ?_
    refine PO.nil ?_
    obtain rfl := Option.some.inj hF
    exact PC.ret' (retSK [] [] (by kernel_rfl) (.refl _) ⟨rfl, rfl, rfl⟩)

/-! 107 platen/platenref14.cube -/
def F107 (k : Nat) (a0 : Int) : Option Int :=
bif decide ((w (Int.tdiv (w ((w (a0 * a0)) * a0)) 10000)) > 10000) then (some 10000) else (some (w (Int.tdiv (w ((w (a0 * a0)) * a0)) 10000)))
theorem L107 (k : Nat) (a0 : Int) (r : Int) (hF : F107 k a0 = some r) : PF Try.prog orc 107 [.val (.int .i64 a0)] [] [] (fun p fr tk => p = .val (.int .i64 r) ∧ fr = [] ∧ tk = []) := by
  unfold F107 at hF
  refine PF.enterS Try.func107 rfl rfl rfl (by kernel_rfl) rfl ?_
  refine PC.run (n := 2) rfl ?_
  refine PC.run (n := 8) rfl ?_
  refine PC.assoc ?_
  refine PC.run (n := 3) rfl ?_
  refine PC.cond rfl (fun h1 => ?_) (fun h1 => ?_)
  · have hF := bif_t h1 hF
    refine PC.assoc ?_
    refine PC.run (n := 2) rfl ?_
    obtain rfl := Option.some.inj hF
    exact PC.ret (retSK [] [] (by kernel_rfl) (.refl _) ⟨rfl, rfl, rfl⟩)
  · have hF := bif_f h1 hF
    refine PC.noop ?_
    refine PC.run (n := 3) rfl ?_
    obtain rfl := Option.some.inj hF
    exact PC.ret' (retSK [] [] (by kernel_rfl) (.refl _) ⟨rfl, rfl, rfl⟩)

/-! 97 platen/platenref14.judged -/
def F97 (k : Nat) (a0 : GLine) : Option GLine :=
Option.bind (α := Int × Int × Bool) (Option.bind (α := Bool) (bif decide (a0.short < 0) then (some (decide (a0.short < (w (0 - a0.shrink))))) else (some false)) fun (v4 : Bool) =>
bif v4 then (some (10000, 0, true)) else (bif decide (a0.short < 0) then (bindD a0.shrink ((F107 k (w (Int.tdiv (w (100 * (w (0 - a0.short)))) a0.shrink))).bind fun r10 =>
bif decide ((w (Int.tdiv (w (100 * (w (0 - a0.short)))) a0.shrink)) > 50) then (some (r10, 0, a0.over_)) else (some (r10, 1, a0.over_)))) else (Option.bind (α := Bool) (bif a0.short == 0 then (some true) else (some a0.end_)) fun (v5 : Bool) =>
bif v5 then (some (0, 1, a0.over_)) else (bif a0.stretch == 0 then (some (10000, 3, a0.over_)) else (Option.bind (α := Int) (bif decide (a0.short < (w (10 * a0.stretch))) then (bindD a0.stretch (some (w (Int.tdiv (w (100 * a0.short)) a0.stretch)))) else (some 1000)) fun (v6 : Int) =>
(F107 k v6).bind fun r24 =>
Option.bind (α := Int) (bif decide (v6 ≤ 100) then (some 2) else (some 3)) fun (v7 : Int) =>
bif decide (v6 ≤ 50) then (some (r24, 1, a0.over_)) else (some (r24, v7, a0.over_))))))) fun (v1, v2, v3) =>
some (GLine.mk a0.first a0.last a0.break_ a0.natural a0.stretch a0.shrink a0.short v1 v2 v3 a0.hyphen a0.end_ a0.height a0.depth)
theorem L97 (k : Nat) (a0 : GLine) (r : GLine) (hF : F97 k a0 = some r) : PF Try.prog orc 97 [.agg (cGLine a0)] [] [] (fun p fr tk => p = .agg (cGLine r) ∧ fr = [] ∧ tk = []) := by
  unfold F97 at hF
  refine PF.enterS Try.func97 rfl rfl rfl (by kernel_rfl) rfl ?_
  refine PC.region ?_
  refine PO.runK 2 [0, 1] [] (es := [(1, .ptr 0 0), (2, .ptr 1 0)]) (fr' := [⟨0, (cGLine a0)⟩, ⟨0, [.val (.int .i64 0), .val (.int .i64 0), .val (.int .i64 0), .val (.int .i64 0), .val (.int .i64 0), .val (.int .i64 0), .val (.int .i64 0), .val (.int .i64 0), .val (.int .i64 0), .val (.bool false), .val (.bool false), .val (.bool false), .val (.int .i64 0), .val (.int .i64 0)]⟩]) (tk' := []) (by kernel_rfl) ?_
  refine PO.nil ?_
  refine Exists.elim (bind_some hF) (fun x1 hq => ?_)
  have e2 := hq.1
  have hF := hq.2
  clear hq
  refine PC.blockJ (fun s => ∃ (v1 : Int) (v2 : Int) (v3 : Bool), Weak s (PS.of 77 [(1, .ptr 0 0), (2, .ptr 1 0)] [⟨0, [.val (.int .i64 a0.first), .val (.int .i64 a0.last), .val (.int .i64 a0.break_), .val (.int .i64 a0.natural), .val (.int .i64 a0.stretch), .val (.int .i64 a0.shrink), .val (.int .i64 a0.short), .val (.int .i64 v1), .val (.int .i64 v2), .val (.bool v3), .val (.bool a0.hyphen), .val (.bool a0.end_), .val (.int .i64 a0.height), .val (.int .i64 a0.depth)]⟩, ⟨0, [.val (.int .i64 0), .val (.int .i64 0), .val (.int .i64 0), .val (.int .i64 0), .val (.int .i64 0), .val (.int .i64 0), .val (.int .i64 0), .val (.int .i64 0), .val (.int .i64 0), .val (.bool false), .val (.bool false), .val (.bool false), .val (.int .i64 0), .val (.int .i64 0)]⟩] [] 0 0) ∧ (v1, v2, v3) = x1) ?_ ?_
  · refine PC.region ?_
    refine PO.run 4 rfl ?_
    refine Exists.elim (bind_some e2) (fun x3 hq => ?_)
    have e4 := hq.1
    have e2 := hq.2
    clear hq
    refine PO.cut 7 (fun s => ∃ (v4 : Bool), Weak s (PS.of 77 [(1, .ptr 0 0), (2, .ptr 1 0), (38, .val (.bool v4))] [⟨0, (cGLine a0)⟩, ⟨0, [.val (.int .i64 0), .val (.int .i64 0), .val (.int .i64 0), .val (.int .i64 0), .val (.int .i64 0), .val (.int .i64 0), .val (.int .i64 0), .val (.int .i64 0), .val (.int .i64 0), .val (.bool false), .val (.bool false), .val (.bool false), .val (.int .i64 0), .val (.int .i64 0)]⟩] [] 0 0) ∧ v4 = x3) ?_ ?_
    · refine PO.case (t := 31) rfl rfl (fun h5 => ?_) (fun h5 => ?_)
      · have e4 := bif_t h5 e4
        refine PO.run 6 rfl ?_
        refine PO.same rfl (pickT_ok rfl rfl rfl) rfl ?_
        refine PO.nil ?_
        obtain rfl := Option.some.inj e4
        exact ⟨decide (a0.short < (w (0 - a0.shrink))), Weak.one [0, 1] [] (by kernel_rfl), rfl⟩
      · have e4 := bif_f h5 e4
        refine PO.run 6 rfl ?_
        refine PO.same rfl (pickF_ok rfl rfl rfl) rfl ?_
        refine PO.nil ?_
        obtain rfl := Option.some.inj e4
        exact ⟨false, Weak.one [0, 1] [] (by kernel_rfl), rfl⟩
    · rintro _ ⟨v4, w6, rfl⟩
      refine PO.weak w6 ?_
      refine PO.run 1 rfl ?_
      refine PO.nil ?_
      refine PC.lone ?_
      refine PC.cond rfl (fun h7 => ?_) (fun h7 => ?_)
      · have e2 := bif_t h7 e2
        refine PC.assoc ?_
        refine PC.region ?_
        refine PO.runK 2 [0, 1] [] (es := [(1, .ptr 0 0), (2, .ptr 1 0)]) (fr' := [⟨0, [.val (.int .i64 a0.first), .val (.int .i64 a0.last), .val (.int .i64 a0.break_), .val (.int .i64 a0.natural), .val (.int .i64 a0.stretch), .val (.int .i64 a0.shrink), .val (.int .i64 a0.short), .val (.int .i64 a0.bad), .val (.int .i64 a0.class_), .val (.bool true), .val (.bool a0.hyphen), .val (.bool a0.end_), .val (.int .i64 a0.height), .val (.int .i64 a0.depth)]⟩, ⟨0, [.val (.int .i64 0), .val (.int .i64 0), .val (.int .i64 0), .val (.int .i64 0), .val (.int .i64 0), .val (.int .i64 0), .val (.int .i64 0), .val (.int .i64 0), .val (.int .i64 0), .val (.bool false), .val (.bool false), .val (.bool false), .val (.int .i64 0), .val (.int .i64 0)]⟩]) (tk' := []) (by kernel_rfl) ?_
        refine PO.nil ?_
        refine PC.assoc ?_
        refine PC.region ?_
        refine PO.runK 2 [0, 1] [] (es := [(1, .ptr 0 0), (2, .ptr 1 0)]) (fr' := [⟨0, [.val (.int .i64 a0.first), .val (.int .i64 a0.last), .val (.int .i64 a0.break_), .val (.int .i64 a0.natural), .val (.int .i64 a0.stretch), .val (.int .i64 a0.shrink), .val (.int .i64 a0.short), .val (.int .i64 10000), .val (.int .i64 a0.class_), .val (.bool true), .val (.bool a0.hyphen), .val (.bool a0.end_), .val (.int .i64 a0.height), .val (.int .i64 a0.depth)]⟩, ⟨0, [.val (.int .i64 0), .val (.int .i64 0), .val (.int .i64 0), .val (.int .i64 0), .val (.int .i64 0), .val (.int .i64 0), .val (.int .i64 0), .val (.int .i64 0), .val (.int .i64 0), .val (.bool false), .val (.bool false), .val (.bool false), .val (.int .i64 0), .val (.int .i64 0)]⟩]) (tk' := []) (by kernel_rfl) ?_
        refine PO.nil ?_
        refine PC.region ?_
        refine PO.runK 2 [0, 1] [] (es := [(1, .ptr 0 0), (2, .ptr 1 0)]) (fr' := [⟨0, [.val (.int .i64 a0.first), .val (.int .i64 a0.last), .val (.int .i64 a0.break_), .val (.int .i64 a0.natural), .val (.int .i64 a0.stretch), .val (.int .i64 a0.shrink), .val (.int .i64 a0.short), .val (.int .i64 10000), .val (.int .i64 0), .val (.bool true), .val (.bool a0.hyphen), .val (.bool a0.end_), .val (.int .i64 a0.height), .val (.int .i64 a0.depth)]⟩, ⟨0, [.val (.int .i64 0), .val (.int .i64 0), .val (.int .i64 0), .val (.int .i64 0), .val (.int .i64 0), .val (.int .i64 0), .val (.int .i64 0), .val (.int .i64 0), .val (.int .i64 0), .val (.bool false), .val (.bool false), .val (.bool false), .val (.int .i64 0), .val (.int .i64 0)]⟩]) (tk' := []) (by kernel_rfl) ?_
        refine PO.nil ?_
        obtain rfl := Option.some.inj e2
        exact PC.skip (blockJK.end ⟨10000, 0, true, Weak.one [0, 1] [] (by kernel_rfl), rfl⟩)
      · have e2 := bif_f h7 e2
        refine PC.assoc ?_
        refine PC.run (n := 5) rfl ?_
        refine PC.cond rfl (fun h8 => ?_) (fun h8 => ?_)
        · have e2 := bif_t h8 e2
          refine PC.assoc ?_
          refine PC.region ?_
          refine PO.run 6 rfl ?_
          have hq := bindD_some e2
          have h9 := hq.1
          have e2 := hq.2
          clear hq
          refine PO.same rfl (quo_ok rfl rfl h9) rfl ?_
          refine PO.run 1 rfl ?_
          refine PO.nil ?_
          refine PC.assoc ?_
          refine PC.region ?_
          refine PO.run 1 rfl ?_
          refine Exists.elim (bind_some e2) (fun r10 hq => ?_)
          have e11 := hq.1
          have e2 := hq.2
          clear hq
          refine PO.call rfl rfl rfl rfl (ks := []) (ts := []) (fr1 := []) rfl rfl rfl trivial (L107 k (w (Int.tdiv (w (100 * (w (0 - a0.short)))) a0.shrink)) _ e11) ?_
          rintro _ _ _ ⟨rfl, rfl, rfl⟩
          refine ⟨_, _, rfl, rfl, ?_⟩
          refine PO.runK 2 [0, 1] [] (es := [(1, .ptr 0 0), (2, .ptr 1 0), (3, .val (.int .i64 (w (Int.tdiv (w (100 * (w (0 - a0.short)))) a0.shrink))))]) (fr' := [⟨0, [.val (.int .i64 a0.first), .val (.int .i64 a0.last), .val (.int .i64 a0.break_), .val (.int .i64 a0.natural), .val (.int .i64 a0.stretch), .val (.int .i64 a0.shrink), .val (.int .i64 a0.short), .val (.int .i64 r10), .val (.int .i64 a0.class_), .val (.bool a0.over_), .val (.bool a0.hyphen), .val (.bool a0.end_), .val (.int .i64 a0.height), .val (.int .i64 a0.depth)]⟩, ⟨0, [.val (.int .i64 0), .val (.int .i64 0), .val (.int .i64 0), .val (.int .i64 0), .val (.int .i64 0), .val (.int .i64 0), .val (.int .i64 0), .val (.int .i64 0), .val (.int .i64 0), .val (.bool false), .val (.bool false), .val (.bool false), .val (.int .i64 0), .val (.int .i64 0)]⟩]) (tk' := []) (by kernel_rfl) ?_
          refine PO.nil ?_
          refine PC.assoc ?_
          refine PC.region ?_
          refine PO.runK 2 [0, 1] [] (es := [(1, .ptr 0 0), (2, .ptr 1 0), (3, .val (.int .i64 (w (Int.tdiv (w (100 * (w (0 - a0.short)))) a0.shrink))))]) (fr' := [⟨0, [.val (.int .i64 a0.first), .val (.int .i64 a0.last), .val (.int .i64 a0.break_), .val (.int .i64 a0.natural), .val (.int .i64 a0.stretch), .val (.int .i64 a0.shrink), .val (.int .i64 a0.short), .val (.int .i64 r10), .val (.int .i64 1), .val (.bool a0.over_), .val (.bool a0.hyphen), .val (.bool a0.end_), .val (.int .i64 a0.height), .val (.int .i64 a0.depth)]⟩, ⟨0, [.val (.int .i64 0), .val (.int .i64 0), .val (.int .i64 0), .val (.int .i64 0), .val (.int .i64 0), .val (.int .i64 0), .val (.int .i64 0), .val (.int .i64 0), .val (.int .i64 0), .val (.bool false), .val (.bool false), .val (.bool false), .val (.int .i64 0), .val (.int .i64 0)]⟩]) (tk' := []) (by kernel_rfl) ?_
          refine PO.nil ?_
          refine PC.assoc ?_
          refine PC.run (n := 3) rfl ?_
          refine PC.cond rfl (fun h12 => ?_) (fun h12 => ?_)
          · have e2 := bif_t h12 e2
            refine PC.region ?_
            refine PO.runK 2 [0, 1] [] (es := [(1, .ptr 0 0), (2, .ptr 1 0)]) (fr' := [⟨0, [.val (.int .i64 a0.first), .val (.int .i64 a0.last), .val (.int .i64 a0.break_), .val (.int .i64 a0.natural), .val (.int .i64 a0.stretch), .val (.int .i64 a0.shrink), .val (.int .i64 a0.short), .val (.int .i64 r10), .val (.int .i64 0), .val (.bool a0.over_), .val (.bool a0.hyphen), .val (.bool a0.end_), .val (.int .i64 a0.height), .val (.int .i64 a0.depth)]⟩, ⟨0, [.val (.int .i64 0), .val (.int .i64 0), .val (.int .i64 0), .val (.int .i64 0), .val (.int .i64 0), .val (.int .i64 0), .val (.int .i64 0), .val (.int .i64 0), .val (.int .i64 0), .val (.bool false), .val (.bool false), .val (.bool false), .val (.int .i64 0), .val (.int .i64 0)]⟩]) (tk' := []) (by kernel_rfl) ?_
            refine PO.nil ?_
            obtain rfl := Option.some.inj e2
            exact PC.skip (blockJK.end ⟨r10, 0, a0.over_, Weak.one [0, 1] [] (by kernel_rfl), rfl⟩)
          · have e2 := bif_f h12 e2
            refine PC.noop ?_
            obtain rfl := Option.some.inj e2
            exact PC.skip (blockJK.end ⟨r10, 1, a0.over_, Weak.one [0, 1] [] (by kernel_rfl), rfl⟩)
        · have e2 := bif_f h8 e2
          refine PC.assoc ?_
          refine PC.region ?_
          refine PO.run 4 rfl ?_
          refine Exists.elim (bind_some e2) (fun x13 hq => ?_)
          have e14 := hq.1
          have e2 := hq.2
          clear hq
          refine PO.cut 3 (fun s => ∃ (v5 : Bool), Weak s (PS.of 77 [(1, .ptr 0 0), (2, .ptr 1 0), (67, .val (.bool v5))] [⟨0, (cGLine a0)⟩, ⟨0, [.val (.int .i64 0), .val (.int .i64 0), .val (.int .i64 0), .val (.int .i64 0), .val (.int .i64 0), .val (.int .i64 0), .val (.int .i64 0), .val (.int .i64 0), .val (.int .i64 0), .val (.bool false), .val (.bool false), .val (.bool false), .val (.int .i64 0), .val (.int .i64 0)]⟩] [] 0 0) ∧ v5 = x13) ?_ ?_
          · refine PO.case (t := 64) rfl rfl (fun h15 => ?_) (fun h15 => ?_)
            · have e14 := bif_t h15 e14
              refine PO.run 2 rfl ?_
              refine PO.same rfl (pickT_ok rfl rfl rfl) rfl ?_
              refine PO.nil ?_
              obtain rfl := Option.some.inj e14
              exact ⟨true, Weak.one [0, 1] [] (by kernel_rfl), rfl⟩
            · have e14 := bif_f h15 e14
              refine PO.run 2 rfl ?_
              refine PO.same rfl (pickF_ok rfl rfl rfl) rfl ?_
              refine PO.nil ?_
              obtain rfl := Option.some.inj e14
              exact ⟨a0.end_, Weak.one [0, 1] [] (by kernel_rfl), rfl⟩
          · rintro _ ⟨v5, w16, rfl⟩
            refine PO.weak w16 ?_
            refine PO.run 1 rfl ?_
            refine PO.nil ?_
            refine PC.cond rfl (fun h17 => ?_) (fun h17 => ?_)
            · have e2 := bif_t h17 e2
              refine PC.assoc ?_
              refine PC.region ?_
              refine PO.runK 2 [0, 1] [] (es := [(1, .ptr 0 0), (2, .ptr 1 0)]) (fr' := [⟨0, [.val (.int .i64 a0.first), .val (.int .i64 a0.last), .val (.int .i64 a0.break_), .val (.int .i64 a0.natural), .val (.int .i64 a0.stretch), .val (.int .i64 a0.shrink), .val (.int .i64 a0.short), .val (.int .i64 0), .val (.int .i64 a0.class_), .val (.bool a0.over_), .val (.bool a0.hyphen), .val (.bool a0.end_), .val (.int .i64 a0.height), .val (.int .i64 a0.depth)]⟩, ⟨0, [.val (.int .i64 0), .val (.int .i64 0), .val (.int .i64 0), .val (.int .i64 0), .val (.int .i64 0), .val (.int .i64 0), .val (.int .i64 0), .val (.int .i64 0), .val (.int .i64 0), .val (.bool false), .val (.bool false), .val (.bool false), .val (.int .i64 0), .val (.int .i64 0)]⟩]) (tk' := []) (by kernel_rfl) ?_
              refine PO.nil ?_
              refine PC.region ?_
              refine PO.runK 2 [0, 1] [] (es := [(1, .ptr 0 0), (2, .ptr 1 0)]) (fr' := [⟨0, [.val (.int .i64 a0.first), .val (.int .i64 a0.last), .val (.int .i64 a0.break_), .val (.int .i64 a0.natural), .val (.int .i64 a0.stretch), .val (.int .i64 a0.shrink), .val (.int .i64 a0.short), .val (.int .i64 0), .val (.int .i64 1), .val (.bool a0.over_), .val (.bool a0.hyphen), .val (.bool a0.end_), .val (.int .i64 a0.height), .val (.int .i64 a0.depth)]⟩, ⟨0, [.val (.int .i64 0), .val (.int .i64 0), .val (.int .i64 0), .val (.int .i64 0), .val (.int .i64 0), .val (.int .i64 0), .val (.int .i64 0), .val (.int .i64 0), .val (.int .i64 0), .val (.bool false), .val (.bool false), .val (.bool false), .val (.int .i64 0), .val (.int .i64 0)]⟩]) (tk' := []) (by kernel_rfl) ?_
              refine PO.nil ?_
              obtain rfl := Option.some.inj e2
              exact PC.skip (blockJK.end ⟨0, 1, a0.over_, Weak.one [0, 1] [] (by kernel_rfl), rfl⟩)
            · have e2 := bif_f h17 e2
              refine PC.assoc ?_
              refine PC.run (n := 5) rfl ?_
              refine PC.cond rfl (fun h18 => ?_) (fun h18 => ?_)
              · have e2 := bif_t h18 e2
                refine PC.assoc ?_
                refine PC.region ?_
                refine PO.runK 2 [0, 1] [] (es := [(1, .ptr 0 0), (2, .ptr 1 0)]) (fr' := [⟨0, [.val (.int .i64 a0.first), .val (.int .i64 a0.last), .val (.int .i64 a0.break_), .val (.int .i64 a0.natural), .val (.int .i64 a0.stretch), .val (.int .i64 a0.shrink), .val (.int .i64 a0.short), .val (.int .i64 10000), .val (.int .i64 a0.class_), .val (.bool a0.over_), .val (.bool a0.hyphen), .val (.bool a0.end_), .val (.int .i64 a0.height), .val (.int .i64 a0.depth)]⟩, ⟨0, [.val (.int .i64 0), .val (.int .i64 0), .val (.int .i64 0), .val (.int .i64 0), .val (.int .i64 0), .val (.int .i64 0), .val (.int .i64 0), .val (.int .i64 0), .val (.int .i64 0), .val (.bool false), .val (.bool false), .val (.bool false), .val (.int .i64 0), .val (.int .i64 0)]⟩]) (tk' := []) (by kernel_rfl) ?_
                refine PO.nil ?_
                refine PC.region ?_
                refine PO.runK 2 [0, 1] [] (es := [(1, .ptr 0 0), (2, .ptr 1 0)]) (fr' := [⟨0, [.val (.int .i64 a0.first), .val (.int .i64 a0.last), .val (.int .i64 a0.break_), .val (.int .i64 a0.natural), .val (.int .i64 a0.stretch), .val (.int .i64 a0.shrink), .val (.int .i64 a0.short), .val (.int .i64 10000), .val (.int .i64 3), .val (.bool a0.over_), .val (.bool a0.hyphen), .val (.bool a0.end_), .val (.int .i64 a0.height), .val (.int .i64 a0.depth)]⟩, ⟨0, [.val (.int .i64 0), .val (.int .i64 0), .val (.int .i64 0), .val (.int .i64 0), .val (.int .i64 0), .val (.int .i64 0), .val (.int .i64 0), .val (.int .i64 0), .val (.int .i64 0), .val (.bool false), .val (.bool false), .val (.bool false), .val (.int .i64 0), .val (.int .i64 0)]⟩]) (tk' := []) (by kernel_rfl) ?_
                refine PO.nil ?_
                obtain rfl := Option.some.inj e2
                exact PC.skip (blockJK.end ⟨10000, 3, a0.over_, Weak.one [0, 1] [] (by kernel_rfl), rfl⟩)
              · have e2 := bif_f h18 e2
                refine PC.assoc ?_
                refine PC.run (n := 2) rfl ?_
                refine PC.assoc ?_
                refine PC.assoc ?_
                refine PC.run (n := 7) rfl ?_
                refine Exists.elim (bind_some e2) (fun x19 hq => ?_)
                have e20 := hq.1
                have e2 := hq.2
                clear hq
                refine PC.join (fun s => ∃ (v6 : Int), Weak s (PS.of 77 [(1, .ptr 0 0), (2, .ptr 1 0), (4, .val (.int .i64 v6))] [⟨0, (cGLine a0)⟩, ⟨0, [.val (.int .i64 0), .val (.int .i64 0), .val (.int .i64 0), .val (.int .i64 0), .val (.int .i64 0), .val (.int .i64 0), .val (.int .i64 0), .val (.int .i64 0), .val (.int .i64 0), .val (.bool false), .val (.bool false), .val (.bool false), .val (.int .i64 0), .val (.int .i64 0)]⟩] [] 0 0) ∧ v6 = x19) ?_ ?_
                · refine PC.cond rfl (fun h21 => ?_) (fun h21 => ?_)
                  · have e20 := bif_t h21 e20
                    refine PC.region ?_
                    refine PO.run 5 rfl ?_
                    have hq := bindD_some e20
                    have h22 := hq.1
                    have e20 := hq.2
                    clear hq
                    refine PO.same rfl (quo_ok rfl rfl h22) rfl ?_
                    refine PO.run 1 rfl ?_
                    refine PO.nil ?_
                    obtain rfl := Option.some.inj e20
                    exact PC.skip (joinKP.end ⟨w (Int.tdiv (w (100 * a0.short)) a0.stretch), Weak.one [0, 1] [] (by kernel_rfl), rfl⟩)
                  · have e20 := bif_f h21 e20
                    refine PC.noop ?_
                    obtain rfl := Option.some.inj e20
                    exact PC.skip (joinKP.end ⟨1000, Weak.one [0, 1] [] (by kernel_rfl), rfl⟩)
                · rintro _ ⟨v6, w23, rfl⟩
                  refine PC.weak w23 ?_
                  refine PC.assoc ?_
                  refine PC.region ?_
                  refine PO.run 1 rfl ?_
                  refine Exists.elim (bind_some e2) (fun r24 hq => ?_)
                  have e25 := hq.1
                  have e2 := hq.2
                  clear hq
                  refine PO.call rfl rfl rfl rfl (ks := []) (ts := []) (fr1 := []) rfl rfl rfl trivial (L107 k v6 _ e25) ?_
                  rintro _ _ _ ⟨rfl, rfl, rfl⟩
                  refine ⟨_, _, rfl, rfl, ?_⟩
                  refine PO.runK 2 [0, 1] [] (es := [(1, .ptr 0 0), (2, .ptr 1 0), (4, .val (.int .i64 v6))]) (fr' := [⟨0, [.val (.int .i64 a0.first), .val (.int .i64 a0.last), .val (.int .i64 a0.break_), .val (.int .i64 a0.natural), .val (.int .i64 a0.stretch), .val (.int .i64 a0.shrink), .val (.int .i64 a0.short), .val (.int .i64 r24), .val (.int .i64 a0.class_), .val (.bool a0.over_), .val (.bool a0.hyphen), .val (.bool a0.end_), .val (.int .i64 a0.height), .val (.int .i64 a0.depth)]⟩, ⟨0, [.val (.int .i64 0), .val (.int .i64 0), .val (.int .i64 0), .val (.int .i64 0), .val (.int .i64 0), .val (.int .i64 0), .val (.int .i64 0), .val (.int .i64 0), .val (.int .i64 0), .val (.bool false), .val (.bool false), .val (.bool false), .val (.int .i64 0), .val (.int .i64 0)]⟩]) (tk' := []) (by kernel_rfl) ?_
                  refine PO.nil ?_
                  refine PC.assoc ?_
                  refine PC.region ?_
                  refine PO.runK 2 [0, 1] [] (es := [(1, .ptr 0 0), (2, .ptr 1 0), (4, .val (.int .i64 v6))]) (fr' := [⟨0, [.val (.int .i64 a0.first), .val (.int .i64 a0.last), .val (.int .i64 a0.break_), .val (.int .i64 a0.natural), .val (.int .i64 a0.stretch), .val (.int .i64 a0.shrink), .val (.int .i64 a0.short), .val (.int .i64 r24), .val (.int .i64 3), .val (.bool a0.over_), .val (.bool a0.hyphen), .val (.bool a0.end_), .val (.int .i64 a0.height), .val (.int .i64 a0.depth)]⟩, ⟨0, [.val (.int .i64 0), .val (.int .i64 0), .val (.int .i64 0), .val (.int .i64 0), .val (.int .i64 0), .val (.int .i64 0), .val (.int .i64 0), .val (.int .i64 0), .val (.int .i64 0), .val (.bool false), .val (.bool false), .val (.bool false), .val (.int .i64 0), .val (.int .i64 0)]⟩]) (tk' := []) (by kernel_rfl) ?_
                  refine PO.nil ?_
                  refine PC.assoc ?_
                  refine PC.assoc ?_
                  refine PC.run (n := 3) rfl ?_
                  refine Exists.elim (bind_some e2) (fun x26 hq => ?_)
                  have e27 := hq.1
                  have e2 := hq.2
                  clear hq
                  refine PC.join (fun s => ∃ (v7 : Int), Weak s (PS.of 77 [(1, .ptr 0 0), (2, .ptr 1 0), (4, .val (.int .i64 v6))] [⟨0, [.val (.int .i64 a0.first), .val (.int .i64 a0.last), .val (.int .i64 a0.break_), .val (.int .i64 a0.natural), .val (.int .i64 a0.stretch), .val (.int .i64 a0.shrink), .val (.int .i64 a0.short), .val (.int .i64 r24), .val (.int .i64 v7), .val (.bool a0.over_), .val (.bool a0.hyphen), .val (.bool a0.end_), .val (.int .i64 a0.height), .val (.int .i64 a0.depth)]⟩, ⟨0, [.val (.int .i64 0), .val (.int .i64 0), .val (.int .i64 0), .val (.int .i64 0), .val (.int .i64 0), .val (.int .i64 0), .val (.int .i64 0), .val (.int .i64 0), .val (.int .i64 0), .val (.bool false), .val (.bool false), .val (.bool false), .val (.int .i64 0), .val (.int .i64 0)]⟩] [] 0 0) ∧ v7 = x26) ?_ ?_
                  · refine PC.cond rfl (fun h28 => ?_) (fun h28 => ?_)
                    · have e27 := bif_t h28 e27
                      refine PC.region ?_
                      refine PO.runK 2 [0, 1] [] (es := [(1, .ptr 0 0), (2, .ptr 1 0), (4, .val (.int .i64 v6))]) (fr' := [⟨0, [.val (.int .i64 a0.first), .val (.int .i64 a0.last), .val (.int .i64 a0.break_), .val (.int .i64 a0.natural), .val (.int .i64 a0.stretch), .val (.int .i64 a0.shrink), .val (.int .i64 a0.short), .val (.int .i64 r24), .val (.int .i64 2), .val (.bool a0.over_), .val (.bool a0.hyphen), .val (.bool a0.end_), .val (.int .i64 a0.height), .val (.int .i64 a0.depth)]⟩, ⟨0, [.val (.int .i64 0), .val (.int .i64 0), .val (.int .i64 0), .val (.int .i64 0), .val (.int .i64 0), .val (.int .i64 0), .val (.int .i64 0), .val (.int .i64 0), .val (.int .i64 0), .val (.bool false), .val (.bool false), .val (.bool false), .val (.int .i64 0), .val (.int .i64 0)]⟩]) (tk' := []) (by kernel_rfl) ?_
                      refine PO.nil ?_
                      obtain rfl := Option.some.inj e27
                      exact PC.skip (joinKP.end ⟨2, Weak.one [0, 1] [] (by kernel_rfl), rfl⟩)
                    · have e27 := bif_f h28 e27
                      refine PC.noop ?_
                      obtain rfl := Option.some.inj e27
                      exact PC.skip (joinKP.end ⟨3, Weak.one [0, 1] [] (by kernel_rfl), rfl⟩)
                  · rintro _ ⟨v7, w29, rfl⟩
                    refine PC.weak w29 ?_
                    refine PC.assoc ?_
                    refine PC.run (n := 3) rfl ?_
                    refine PC.cond rfl (fun h30 => ?_) (fun h30 => ?_)
                    · have e2 := bif_t h30 e2
                      refine PC.region ?_
                      refine PO.runK 2 [0, 1] [] (es := [(1, .ptr 0 0), (2, .ptr 1 0)]) (fr' := [⟨0, [.val (.int .i64 a0.first), .val (.int .i64 a0.last), .val (.int .i64 a0.break_), .val (.int .i64 a0.natural), .val (.int .i64 a0.stretch), .val (.int .i64 a0.shrink), .val (.int .i64 a0.short), .val (.int .i64 r24), .val (.int .i64 1), .val (.bool a0.over_), .val (.bool a0.hyphen), .val (.bool a0.end_), .val (.int .i64 a0.height), .val (.int .i64 a0.depth)]⟩, ⟨0, [.val (.int .i64 0), .val (.int .i64 0), .val (.int .i64 0), .val (.int .i64 0), .val (.int .i64 0), .val (.int .i64 0), .val (.int .i64 0), .val (.int .i64 0), .val (.int .i64 0), .val (.bool false), .val (.bool false), .val (.bool false), .val (.int .i64 0), .val (.int .i64 0)]⟩]) (tk' := []) (by kernel_rfl) ?_
                      refine PO.nil ?_
                      obtain rfl := Option.some.inj e2
                      exact PC.skip (blockJK.end ⟨r24, 1, a0.over_, Weak.one [0, 1] [] (by kernel_rfl), rfl⟩)
                    · have e2 := bif_f h30 e2
                      refine PC.noop ?_
                      obtain rfl := Option.some.inj e2
                      exact PC.skip (blockJK.end ⟨r24, v7, a0.over_, Weak.one [0, 1] [] (by kernel_rfl), rfl⟩)
  · rintro _ ⟨v1, v2, v3, w31, rfl⟩
    refine PC.weak w31 ?_
    refine PC.region ?_
    refine PO.runK 2 [1] [] (es := [(2, .ptr 0 0)]) (fr' := [⟨0, [.val (.int .i64 a0.first), .val (.int .i64 a0.last), .val (.int .i64 a0.break_), .val (.int .i64 a0.natural), .val (.int .i64 a0.stretch), .val (.int .i64 a0.shrink), .val (.int .i64 a0.short), .val (.int .i64 v1), .val (.int .i64 v2), .val (.bool v3), .val (.bool a0.hyphen), .val (.bool a0.end_), .val (.int .i64 a0.height), .val (.int .i64 a0.depth)]⟩]) (tk' := []) (by kernel_rfl) ?_
    refine PO.nil ?_
    obtain rfl := Option.some.inj hF
    exact PC.ret' (retSK [] [] (by kernel_rfl) (.refl _) ⟨rfl, rfl, rfl⟩)

/-! 74 platen/platenref14.Measure -/
def F74_l1 (k : Nat) (a0 : List GItem) (a3 : Int) : Nat → Int → Option Int
  | 0, _ => none
  | j3 + 1, v3 =>
    Option.bind (α := Bool) (bif decide (v3 < a3) then (bindI a0 v3 fun y6 =>
    some (y6.kind != 1)) else (some false)) fun (v5 : Bool) =>
    bif v5 then (F74_l1 k a0 a3 j3 (w (v3 + 1))) else (some v3)
def F74_l2 (k : Nat) (a0 : List GItem) (v1 : Int) : Nat → Int → Option Int
  | 0, _ => none
  | j15 + 1, v9 =>
    Option.bind (α := Bool) (bif decide (v9 > v1) then (bindI a0 (w (v9 - 1)) fun y12 =>
    some (y12.kind != 1)) else (some false)) fun (v11 : Bool) =>
    bif v11 then (F74_l2 k a0 v1 j15 (w (v9 - 1))) else (some v9)
def F74_l3 (k : Nat) (a0 : List GItem) (v7 : Int) : Nat → Int → Int → Int → Int → Int → Int → Option (Int × Int × Int × Int × Int)
  | 0, _, _, _, _, _, _ => none
  | j27 + 1, v24, v25, v26, v27, v28, v29 =>
    bif decide (v24 < v7) then (bindI a0 v24 fun y36 =>
    Option.bind (α := Int × Int × Int × Int × Int) (bif y36.kind == 1 then (Option.bind (α := Int) (bif decide (y36.height > v28) then (some y36.height) else (some v28)) fun (v42 : Int) =>
    bif decide (y36.depth > v29) then (some (w (v25 + y36.width), v26, v27, v42, y36.depth)) else (some (w (v25 + y36.width), v26, v27, v42, v29))) else (bif y36.kind == 2 then (some (w (v25 + y36.width), v26, v27, v28, v29)) else (bif y36.kind == 3 then (some (w (v25 + y36.width), w (v26 + y36.stretch), w (v27 + y36.shrink), v28, v29)) else (some (v25, v26, v27, v28, v29))))) fun (v37, v38, v39, v40, v41) =>
    F74_l3 k a0 v7 j27 (w (v24 + 1)) v37 v38 v39 v40 v41) else (some (v25, v26, v27, v28, v29))
def F74 (k : Nat) (a0 : List GItem) (a1 : Int) (a2 : Int) (a3 : Int) : Option GLine :=
Option.bind (α := Int) (F74_l1 k a0 a3 k (w (a2 + 1))) fun (v1 : Int) =>
Option.bind (α := Int) (F74_l2 k a0 v1 k a3) fun (v7 : Int) =>
Option.bind (α := Int × Int × Int × Int × Int) (F74_l3 k a0 v7 k v1 0 0 0 0 0) fun (v13, v14, v15, v16, v17) =>
bindI a0 a3 fun y43 =>
Option.bind (α := Int × Bool × Bool × Int × Int) (bif y43.kind == 4 then (Option.bind (α := Bool) (bif y43.flag then (some (decide (y43.height > v16))) else (some false)) fun (v49 : Bool) =>
Option.bind (α := Int) (bif v49 then (some y43.height) else (some v16)) fun (v50 : Int) =>
Option.bind (α := Bool) (bif y43.flag then (some (decide (y43.depth > v17))) else (some false)) fun (v51 : Bool) =>
bif v51 then (some (w (v13 + y43.width), y43.flag, y43.value == (-10000), v50, y43.depth)) else (some (w (v13 + y43.width), y43.flag, y43.value == (-10000), v50, v17))) else (some (v13, false, false, v16, v17))) fun (v44, v45, v46, v47, v48) =>
(F97 k (GLine.mk v1 v7 a3 v44 v14 v15 (w (a1 - v44)) 0 0 false v45 v46 v47 v48)).bind fun r63 =>
some r63
theorem L74 (k : Nat) (a0 : List GItem) (a1 : Int) (a2 : Int) (a3 : Int) (r : GLine) (hF : F74 k a0 a1 a2 a3 = some r) : PF Try.prog orc 74 [.list 13 (List.map cGItem a0) none, .val (.int .i64 a1), .val (.int .i64 a2), .val (.int .i64 a3)] [] [] (fun p fr tk => p = .agg (cGLine r) ∧ fr = [] ∧ tk = []) := by
  unfold F74 at hF
  refine PF.enterS Try.func74 rfl rfl rfl (by kernel_rfl) rfl ?_
  refine PC.region ?_
  refine PO.runK 1 [0] [] (es := [(0, .list 13 (List.map cGItem a0) none), (1, .val (.int .i64 a1)), (2, .val (.int .i64 a2)), (3, .val (.int .i64 a3)), (8, .ptr 0 0)]) (fr' := [⟨0, [.val (.int .i64 0), .val (.int .i64 0), .val (.int .i64 0), .val (.int .i64 0), .val (.int .i64 0), .val (.int .i64 0), .val (.int .i64 0), .val (.int .i64 0), .val (.int .i64 0), .val (.bool false), .val (.bool false), .val (.bool false), .val (.int .i64 0), .val (.int .i64 0)]⟩]) (tk' := []) (by kernel_rfl) ?_
  refine PO.nil ?_
  refine PC.region ?_
  refine PO.runK 7 [0, 1] [] (es := [(0, .list 13 (List.map cGItem a0) none), (1, .val (.int .i64 a1)), (3, .val (.int .i64 a3)), (8, .ptr 0 0), (9, .ptr 1 0)]) (fr' := [⟨0, [.val (.int .i64 0), .val (.int .i64 0), .val (.int .i64 0), .val (.int .i64 0), .val (.int .i64 0), .val (.int .i64 0), .val (.int .i64 0), .val (.int .i64 0), .val (.int .i64 0), .val (.bool false), .val (.bool false), .val (.bool false), .val (.int .i64 0), .val (.int .i64 0)]⟩, ⟨0, [.val (.int .i64 (w (a2 + 1))), .val (.int .i64 a3), .val (.int .i64 a3), .val (.int .i64 0), .val (.int .i64 0), .val (.int .i64 0), .val (.int .i64 0), .val (.int .i64 0), .val (.int .i64 0), .val (.bool false), .val (.bool false), .val (.bool false), .val (.int .i64 0), .val (.int .i64 0)]⟩]) (tk' := []) (by kernel_rfl) ?_
  refine PO.nil ?_
  refine Exists.elim (bind_some hF) (fun x1 hq => ?_)
  have e2 := hq.1
  have hF := hq.2
  clear hq
  refine PC.blockJ (fun s => ∃ (v1 : Int), Weak s (PS.of 171 [(0, .list 13 (List.map cGItem a0) none), (1, .val (.int .i64 a1)), (3, .val (.int .i64 a3)), (8, .ptr 0 0), (9, .ptr 1 0)] [⟨0, [.val (.int .i64 0), .val (.int .i64 0), .val (.int .i64 0), .val (.int .i64 0), .val (.int .i64 0), .val (.int .i64 0), .val (.int .i64 0), .val (.int .i64 0), .val (.int .i64 0), .val (.bool false), .val (.bool false), .val (.bool false), .val (.int .i64 0), .val (.int .i64 0)]⟩, ⟨0, [.val (.int .i64 v1), .val (.int .i64 a3), .val (.int .i64 a3), .val (.int .i64 0), .val (.int .i64 0), .val (.int .i64 0), .val (.int .i64 0), .val (.int .i64 0), .val (.int .i64 0), .val (.bool false), .val (.bool false), .val (.bool false), .val (.int .i64 0), .val (.int .i64 0)]⟩] [] 0 0) ∧ v1 = x1) ?_ ?_
  · refine PC.loop (fun j3 s => ∃ (v3 : Int), Weak s (PS.of 171 [(0, .list 13 (List.map cGItem a0) none), (1, .val (.int .i64 a1)), (3, .val (.int .i64 a3)), (8, .ptr 0 0), (9, .ptr 1 0)] [⟨0, [.val (.int .i64 0), .val (.int .i64 0), .val (.int .i64 0), .val (.int .i64 0), .val (.int .i64 0), .val (.int .i64 0), .val (.int .i64 0), .val (.int .i64 0), .val (.int .i64 0), .val (.bool false), .val (.bool false), .val (.bool false), .val (.int .i64 0), .val (.int .i64 0)]⟩, ⟨0, [.val (.int .i64 v3), .val (.int .i64 a3), .val (.int .i64 a3), .val (.int .i64 0), .val (.int .i64 0), .val (.int .i64 0), .val (.int .i64 0), .val (.int .i64 0), .val (.int .i64 0), .val (.bool false), .val (.bool false), .val (.bool false), .val (.int .i64 0), .val (.int .i64 0)]⟩] [] 0 0) ∧ F74_l1 k a0 a3 j3 v3 = some x1) (fun j3 s => ?_) k ⟨w (a2 + 1), Weak.one [0, 1] [] (by kernel_rfl), e2⟩
    rintro ⟨v3, w4, e2⟩
    refine PC.weak w4 ?_
    cases j3 with
    | zero => rw [F74_l1] at e2; cases e2
    | succ j3 =>
      rw [F74_l1] at e2
      refine PC.assoc ?_
      refine PC.region ?_
      refine PO.run 5 rfl ?_
      refine Exists.elim (bind_some e2) (fun x5 hq => ?_)
      have e6 := hq.1
      have e2 := hq.2
      clear hq
      refine PO.cut 8 (fun s => ∃ (v5 : Bool), Weak s (PS.of 171 [(0, .list 13 (List.map cGItem a0) none), (1, .val (.int .i64 a1)), (3, .val (.int .i64 a3)), (8, .ptr 0 0), (9, .ptr 1 0), (30, .val (.bool v5))] [⟨0, [.val (.int .i64 0), .val (.int .i64 0), .val (.int .i64 0), .val (.int .i64 0), .val (.int .i64 0), .val (.int .i64 0), .val (.int .i64 0), .val (.int .i64 0), .val (.int .i64 0), .val (.bool false), .val (.bool false), .val (.bool false), .val (.int .i64 0), .val (.int .i64 0)]⟩, ⟨0, [.val (.int .i64 v3), .val (.int .i64 a3), .val (.int .i64 a3), .val (.int .i64 0), .val (.int .i64 0), .val (.int .i64 0), .val (.int .i64 0), .val (.int .i64 0), .val (.int .i64 0), .val (.bool false), .val (.bool false), .val (.bool false), .val (.int .i64 0), .val (.int .i64 0)]⟩] [] 0 0) ∧ v5 = x5) ?_ ?_
      · refine PO.case (t := 22) rfl rfl (fun h7 => ?_) (fun h7 => ?_)
        · have e6 := bif_t h7 e6
          refine PO.run 3 rfl ?_
          refine Exists.elim (bindI_some e6) (fun y6 hq => ?_)
          have h8 := hq.1
          have h9 := hq.2.1
          have e6 := hq.2.2
          clear hq
          refine PO.same rfl (indexAddr_ok Try.underlying42 rfl rfl rfl h8 (map_at h9)) rfl ?_
          refine PO.run 3 rfl ?_
          refine PO.same rfl (pickT_ok rfl rfl rfl) rfl ?_
          refine PO.nil ?_
          obtain rfl := Option.some.inj e6
          exact ⟨y6.kind != 1, Weak.one [0, 1] [] (by kernel_rfl), rfl⟩
        · have e6 := bif_f h7 e6
          refine PO.run 7 rfl ?_
          refine PO.same rfl (pickF_ok rfl rfl rfl) rfl ?_
          refine PO.nil ?_
          obtain rfl := Option.some.inj e6
          exact ⟨false, Weak.one [0, 1] [] (by kernel_rfl), rfl⟩
      · rintro _ ⟨v5, w10, rfl⟩
        refine PO.weak w10 ?_
        refine PO.nil ?_
        refine PC.cond rfl (fun h11 => ?_) (fun h11 => ?_)
        · have e2 := bif_t h11 e2
          refine PC.noop ?_
          refine PC.lone ?_
          refine PC.block ?_
          refine PC.lone ?_
          refine PC.region ?_
          refine PO.runK 5 [0, 1] [] (es := [(0, .list 13 (List.map cGItem a0) none), (1, .val (.int .i64 a1)), (3, .val (.int .i64 a3)), (8, .ptr 0 0), (9, .ptr 1 0)]) (fr' := [⟨0, [.val (.int .i64 0), .val (.int .i64 0), .val (.int .i64 0), .val (.int .i64 0), .val (.int .i64 0), .val (.int .i64 0), .val (.int .i64 0), .val (.int .i64 0), .val (.int .i64 0), .val (.bool false), .val (.bool false), .val (.bool false), .val (.int .i64 0), .val (.int .i64 0)]⟩, ⟨0, [.val (.int .i64 (w (v3 + 1))), .val (.int .i64 a3), .val (.int .i64 a3), .val (.int .i64 0), .val (.int .i64 0), .val (.int .i64 0), .val (.int .i64 0), .val (.int .i64 0), .val (.int .i64 0), .val (.bool false), .val (.bool false), .val (.bool false), .val (.int .i64 0), .val (.int .i64 0)]⟩]) (tk' := []) (by kernel_rfl) ?_
          refine PO.nil ?_
          refine PC.skip (blockKP.end ?_)
          exact PC.skip (loopKP.mk (Nat.lt_succ_self _) ⟨w (v3 + 1), Weak.one [0, 1] [] (by kernel_rfl), e2⟩)
        · have e2 := bif_f h11 e2
          obtain rfl := Option.some.inj e2
          exact PC.exit (loopKP.exit (blockJK.here ⟨v3, Weak.one [0, 1] [] (by kernel_rfl), rfl⟩))
  · rintro _ ⟨v1, w12, rfl⟩
    refine PC.weak w12 ?_
    refine Exists.elim (bind_some hF) (fun x13 hq => ?_)
    have e14 := hq.1
    have hF := hq.2
    clear hq
    refine PC.blockJ (fun s => ∃ (v7 : Int), Weak s (PS.of 171 [(0, .list 13 (List.map cGItem a0) none), (1, .val (.int .i64 a1)), (3, .val (.int .i64 a3)), (8, .ptr 0 0), (9, .ptr 1 0)] [⟨0, [.val (.int .i64 0), .val (.int .i64 0), .val (.int .i64 0), .val (.int .i64 0), .val (.int .i64 0), .val (.int .i64 0), .val (.int .i64 0), .val (.int .i64 0), .val (.int .i64 0), .val (.bool false), .val (.bool false), .val (.bool false), .val (.int .i64 0), .val (.int .i64 0)]⟩, ⟨0, [.val (.int .i64 v1), .val (.int .i64 v7), .val (.int .i64 a3), .val (.int .i64 0), .val (.int .i64 0), .val (.int .i64 0), .val (.int .i64 0), .val (.int .i64 0), .val (.int .i64 0), .val (.bool false), .val (.bool false), .val (.bool false), .val (.int .i64 0), .val (.int .i64 0)]⟩] [] 0 0) ∧ v7 = x13) ?_ ?_
    · refine PC.loop (fun j15 s => ∃ (v9 : Int), Weak s (PS.of 171 [(0, .list 13 (List.map cGItem a0) none), (1, .val (.int .i64 a1)), (3, .val (.int .i64 a3)), (8, .ptr 0 0), (9, .ptr 1 0)] [⟨0, [.val (.int .i64 0), .val (.int .i64 0), .val (.int .i64 0), .val (.int .i64 0), .val (.int .i64 0), .val (.int .i64 0), .val (.int .i64 0), .val (.int .i64 0), .val (.int .i64 0), .val (.bool false), .val (.bool false), .val (.bool false), .val (.int .i64 0), .val (.int .i64 0)]⟩, ⟨0, [.val (.int .i64 v1), .val (.int .i64 v9), .val (.int .i64 a3), .val (.int .i64 0), .val (.int .i64 0), .val (.int .i64 0), .val (.int .i64 0), .val (.int .i64 0), .val (.int .i64 0), .val (.bool false), .val (.bool false), .val (.bool false), .val (.int .i64 0), .val (.int .i64 0)]⟩] [] 0 0) ∧ F74_l2 k a0 v1 j15 v9 = some x13) (fun j15 s => ?_) k ⟨a3, Weak.one [0, 1] [] (by kernel_rfl), e14⟩
      rintro ⟨v9, w16, e14⟩
      refine PC.weak w16 ?_
      cases j15 with
      | zero => rw [F74_l2] at e14; cases e14
      | succ j15 =>
        rw [F74_l2] at e14
        refine PC.assoc ?_
        refine PC.region ?_
        refine PO.run 6 rfl ?_
        refine Exists.elim (bind_some e14) (fun x17 hq => ?_)
        have e18 := hq.1
        have e14 := hq.2
        clear hq
        refine PO.cut 9 (fun s => ∃ (v11 : Bool), Weak s (PS.of 171 [(0, .list 13 (List.map cGItem a0) none), (1, .val (.int .i64 a1)), (3, .val (.int .i64 a3)), (8, .ptr 0 0), (9, .ptr 1 0), (49, .val (.bool v11))] [⟨0, [.val (.int .i64 0), .val (.int .i64 0), .val (.int .i64 0), .val (.int .i64 0), .val (.int .i64 0), .val (.int .i64 0), .val (.int .i64 0), .val (.int .i64 0), .val (.int .i64 0), .val (.bool false), .val (.bool false), .val (.bool false), .val (.int .i64 0), .val (.int .i64 0)]⟩, ⟨0, [.val (.int .i64 v1), .val (.int .i64 v9), .val (.int .i64 a3), .val (.int .i64 0), .val (.int .i64 0), .val (.int .i64 0), .val (.int .i64 0), .val (.int .i64 0), .val (.int .i64 0), .val (.bool false), .val (.bool false), .val (.bool false), .val (.int .i64 0), .val (.int .i64 0)]⟩] [] 0 0) ∧ v11 = x17) ?_ ?_
        · refine PO.case (t := 40) rfl rfl (fun h19 => ?_) (fun h19 => ?_)
          · have e18 := bif_t h19 e18
            refine PO.run 4 rfl ?_
            refine Exists.elim (bindI_some e18) (fun y12 hq => ?_)
            have h20 := hq.1
            have h21 := hq.2.1
            have e18 := hq.2.2
            clear hq
            refine PO.same rfl (indexAddr_ok Try.underlying42 rfl rfl rfl h20 (map_at h21)) rfl ?_
            refine PO.run 3 rfl ?_
            refine PO.same rfl (pickT_ok rfl rfl rfl) rfl ?_
            refine PO.nil ?_
            obtain rfl := Option.some.inj e18
            exact ⟨y12.kind != 1, Weak.one [0, 1] [] (by kernel_rfl), rfl⟩
          · have e18 := bif_f h19 e18
            refine PO.run 8 rfl ?_
            refine PO.same rfl (pickF_ok rfl rfl rfl) rfl ?_
            refine PO.nil ?_
            obtain rfl := Option.some.inj e18
            exact ⟨false, Weak.one [0, 1] [] (by kernel_rfl), rfl⟩
        · rintro _ ⟨v11, w22, rfl⟩
          refine PO.weak w22 ?_
          refine PO.nil ?_
          refine PC.cond rfl (fun h23 => ?_) (fun h23 => ?_)
          · have e14 := bif_t h23 e14
            refine PC.noop ?_
            refine PC.lone ?_
            refine PC.block ?_
            refine PC.lone ?_
            refine PC.region ?_
            refine PO.runK 5 [0, 1] [] (es := [(0, .list 13 (List.map cGItem a0) none), (1, .val (.int .i64 a1)), (3, .val (.int .i64 a3)), (8, .ptr 0 0), (9, .ptr 1 0)]) (fr' := [⟨0, [.val (.int .i64 0), .val (.int .i64 0), .val (.int .i64 0), .val (.int .i64 0), .val (.int .i64 0), .val (.int .i64 0), .val (.int .i64 0), .val (.int .i64 0), .val (.int .i64 0), .val (.bool false), .val (.bool false), .val (.bool false), .val (.int .i64 0), .val (.int .i64 0)]⟩, ⟨0, [.val (.int .i64 v1), .val (.int .i64 (w (v9 - 1))), .val (.int .i64 a3), .val (.int .i64 0), .val (.int .i64 0), .val (.int .i64 0), .val (.int .i64 0), .val (.int .i64 0), .val (.int .i64 0), .val (.bool false), .val (.bool false), .val (.bool false), .val (.int .i64 0), .val (.int .i64 0)]⟩]) (tk' := []) (by kernel_rfl) ?_
            refine PO.nil ?_
            refine PC.skip (blockKP.end ?_)
            exact PC.skip (loopKP.mk (Nat.lt_succ_self _) ⟨w (v9 - 1), Weak.one [0, 1] [] (by kernel_rfl), e14⟩)
          · have e14 := bif_f h23 e14
            obtain rfl := Option.some.inj e14
            exact PC.exit (loopKP.exit (blockJK.here ⟨v9, Weak.one [0, 1] [] (by kernel_rfl), rfl⟩))
    · rintro _ ⟨v7, w24, rfl⟩
      refine PC.weak w24 ?_
      refine PC.assoc ?_
      refine PC.run (n := 4) rfl ?_
      refine Exists.elim (bind_some hF) (fun x25 hq => ?_)
      have e26 := hq.1
      have hF := hq.2
      clear hq
      refine PC.blockJ (fun s => ∃ (v13 : Int) (v14 : Int) (v15 : Int) (v16 : Int) (v17 : Int), Weak s (PS.of 171 [(0, .list 13 (List.map cGItem a0) none), (1, .val (.int .i64 a1)), (3, .val (.int .i64 a3)), (8, .ptr 0 0), (9, .ptr 1 0)] [⟨0, [.val (.int .i64 0), .val (.int .i64 0), .val (.int .i64 0), .val (.int .i64 0), .val (.int .i64 0), .val (.int .i64 0), .val (.int .i64 0), .val (.int .i64 0), .val (.int .i64 0), .val (.bool false), .val (.bool false), .val (.bool false), .val (.int .i64 0), .val (.int .i64 0)]⟩, ⟨0, [.val (.int .i64 v1), .val (.int .i64 v7), .val (.int .i64 a3), .val (.int .i64 v13), .val (.int .i64 v14), .val (.int .i64 v15), .val (.int .i64 0), .val (.int .i64 0), .val (.int .i64 0), .val (.bool false), .val (.bool false), .val (.bool false), .val (.int .i64 v16), .val (.int .i64 v17)]⟩] [] 0 0) ∧ (v13, v14, v15, v16, v17) = x25) ?_ ?_
      · refine PC.loop (fun j27 s => ∃ (v24 : Int) (v25 : Int) (v26 : Int) (v27 : Int) (v28 : Int) (v29 : Int), Weak s (PS.of 171 [(0, .list 13 (List.map cGItem a0) none), (1, .val (.int .i64 a1)), (3, .val (.int .i64 a3)), (8, .ptr 0 0), (9, .ptr 1 0), (10, .val (.int .i64 v24))] [⟨0, [.val (.int .i64 0), .val (.int .i64 0), .val (.int .i64 0), .val (.int .i64 0), .val (.int .i64 0), .val (.int .i64 0), .val (.int .i64 0), .val (.int .i64 0), .val (.int .i64 0), .val (.bool false), .val (.bool false), .val (.bool false), .val (.int .i64 0), .val (.int .i64 0)]⟩, ⟨0, [.val (.int .i64 v1), .val (.int .i64 v7), .val (.int .i64 a3), .val (.int .i64 v25), .val (.int .i64 v26), .val (.int .i64 v27), .val (.int .i64 0), .val (.int .i64 0), .val (.int .i64 0), .val (.bool false), .val (.bool false), .val (.bool false), .val (.int .i64 v28), .val (.int .i64 v29)]⟩] [] 0 0) ∧ F74_l3 k a0 v7 j27 v24 v25 v26 v27 v28 v29 = some x25) (fun j27 s => ?_) k ⟨v1, 0, 0, 0, 0, 0, Weak.one [0, 1] [] (by kernel_rfl), e26⟩
        rintro ⟨v24, v25, v26, v27, v28, v29, w28, e26⟩
        refine PC.weak w28 ?_
        cases j27 with
        | zero => rw [F74_l3] at e26; cases e26
        | succ j27 =>
          rw [F74_l3] at e26
          refine PC.assoc ?_
          refine PC.run (n := 5) rfl ?_
          refine PC.cond rfl (fun h29 => ?_) (fun h29 => ?_)
          · have e26 := bif_t h29 e26
            refine PC.noop ?_
            refine PC.block ?_
            refine PC.region ?_
            refine PO.run 2 rfl ?_
            refine Exists.elim (bindI_some e26) (fun y36 hq => ?_)
            have h30 := hq.1
            have h31 := hq.2.1
            have e26 := hq.2.2
            clear hq
            refine PO.same rfl (indexAddr_ok Try.underlying42 rfl rfl rfl h30 (map_at h31)) rfl ?_
            refine PO.runK 3 [0, 1, 2] [] (es := [(0, .list 13 (List.map cGItem a0) none), (1, .val (.int .i64 a1)), (3, .val (.int .i64 a3)), (8, .ptr 0 0), (9, .ptr 1 0), (10, .val (.int .i64 v24)), (11, .ptr 2 0)]) (fr' := [⟨0, [.val (.int .i64 0), .val (.int .i64 0), .val (.int .i64 0), .val (.int .i64 0), .val (.int .i64 0), .val (.int .i64 0), .val (.int .i64 0), .val (.int .i64 0), .val (.int .i64 0), .val (.bool false), .val (.bool false), .val (.bool false), .val (.int .i64 0), .val (.int .i64 0)]⟩, ⟨0, [.val (.int .i64 v1), .val (.int .i64 v7), .val (.int .i64 a3), .val (.int .i64 v25), .val (.int .i64 v26), .val (.int .i64 v27), .val (.int .i64 0), .val (.int .i64 0), .val (.int .i64 0), .val (.bool false), .val (.bool false), .val (.bool false), .val (.int .i64 v28), .val (.int .i64 v29)]⟩, ⟨0, (cGItem y36)⟩]) (tk' := []) (by kernel_rfl) ?_
            refine PO.nil ?_
            refine PC.run (n := 3) rfl ?_
            refine PC.lone ?_
            refine Exists.elim (bind_some e26) (fun x32 hq => ?_)
            have e33 := hq.1
            have e26 := hq.2
            clear hq
            refine PC.blockJ (fun s => ∃ (v37 : Int) (v38 : Int) (v39 : Int) (v40 : Int) (v41 : Int), Weak s (PS.of 171 [(0, .list 13 (List.map cGItem a0) none), (1, .val (.int .i64 a1)), (3, .val (.int .i64 a3)), (8, .ptr 0 0), (9, .ptr 1 0), (10, .val (.int .i64 v24))] [⟨0, [.val (.int .i64 0), .val (.int .i64 0), .val (.int .i64 0), .val (.int .i64 0), .val (.int .i64 0), .val (.int .i64 0), .val (.int .i64 0), .val (.int .i64 0), .val (.int .i64 0), .val (.bool false), .val (.bool false), .val (.bool false), .val (.int .i64 0), .val (.int .i64 0)]⟩, ⟨0, [.val (.int .i64 v1), .val (.int .i64 v7), .val (.int .i64 a3), .val (.int .i64 v37), .val (.int .i64 v38), .val (.int .i64 v39), .val (.int .i64 0), .val (.int .i64 0), .val (.int .i64 0), .val (.bool false), .val (.bool false), .val (.bool false), .val (.int .i64 v40), .val (.int .i64 v41)]⟩] [] 0 0) ∧ (v37, v38, v39, v40, v41) = x32) ?_ ?_
            · refine PC.run (n := 3) rfl ?_
              refine PC.lone ?_
              refine PC.cond rfl (fun h34 => ?_) (fun h34 => ?_)
              · have e33 := bif_t h34 e33
                refine PC.assoc ?_
                refine PC.region ?_
                refine PO.runK 7 [0, 1, 2] [] (es := [(0, .list 13 (List.map cGItem a0) none), (1, .val (.int .i64 a1)), (3, .val (.int .i64 a3)), (8, .ptr 0 0), (9, .ptr 1 0), (10, .val (.int .i64 v24)), (11, .ptr 2 0)]) (fr' := [⟨0, [.val (.int .i64 0), .val (.int .i64 0), .val (.int .i64 0), .val (.int .i64 0), .val (.int .i64 0), .val (.int .i64 0), .val (.int .i64 0), .val (.int .i64 0), .val (.int .i64 0), .val (.bool false), .val (.bool false), .val (.bool false), .val (.int .i64 0), .val (.int .i64 0)]⟩, ⟨0, [.val (.int .i64 v1), .val (.int .i64 v7), .val (.int .i64 a3), .val (.int .i64 (w (v25 + y36.width))), .val (.int .i64 v26), .val (.int .i64 v27), .val (.int .i64 0), .val (.int .i64 0), .val (.int .i64 0), .val (.bool false), .val (.bool false), .val (.bool false), .val (.int .i64 v28), .val (.int .i64 v29)]⟩, ⟨0, (cGItem y36)⟩]) (tk' := []) (by kernel_rfl) ?_
                refine PO.nil ?_
                refine PC.assoc ?_
                refine PC.assoc ?_
                refine PC.run (n := 6) rfl ?_
                refine Exists.elim (bind_some e33) (fun x35 hq => ?_)
                have e36 := hq.1
                have e33 := hq.2
                clear hq
                refine PC.join (fun s => ∃ (v42 : Int), Weak s (PS.of 171 [(0, .list 13 (List.map cGItem a0) none), (1, .val (.int .i64 a1)), (3, .val (.int .i64 a3)), (8, .ptr 0 0), (9, .ptr 1 0), (10, .val (.int .i64 v24)), (11, .ptr 2 0)] [⟨0, [.val (.int .i64 0), .val (.int .i64 0), .val (.int .i64 0), .val (.int .i64 0), .val (.int .i64 0), .val (.int .i64 0), .val (.int .i64 0), .val (.int .i64 0), .val (.int .i64 0), .val (.bool false), .val (.bool false), .val (.bool false), .val (.int .i64 0), .val (.int .i64 0)]⟩, ⟨0, [.val (.int .i64 v1), .val (.int .i64 v7), .val (.int .i64 a3), .val (.int .i64 (w (v25 + y36.width))), .val (.int .i64 v26), .val (.int .i64 v27), .val (.int .i64 0), .val (.int .i64 0), .val (.int .i64 0), .val (.bool false), .val (.bool false), .val (.bool false), .val (.int .i64 v42), .val (.int .i64 v29)]⟩, ⟨0, (cGItem y36)⟩] [] 0 0) ∧ v42 = x35) ?_ ?_
                · refine PC.cond rfl (fun h37 => ?_) (fun h37 => ?_)
                  · have e36 := bif_t h37 e36
                    refine PC.region ?_
                    refine PO.runK 4 [0, 1, 2] [] (es := [(0, .list 13 (List.map cGItem a0) none), (1, .val (.int .i64 a1)), (3, .val (.int .i64 a3)), (8, .ptr 0 0), (9, .ptr 1 0), (10, .val (.int .i64 v24)), (11, .ptr 2 0)]) (fr' := [⟨0, [.val (.int .i64 0), .val (.int .i64 0), .val (.int .i64 0), .val (.int .i64 0), .val (.int .i64 0), .val (.int .i64 0), .val (.int .i64 0), .val (.int .i64 0), .val (.int .i64 0), .val (.bool false), .val (.bool false), .val (.bool false), .val (.int .i64 0), .val (.int .i64 0)]⟩, ⟨0, [.val (.int .i64 v1), .val (.int .i64 v7), .val (.int .i64 a3), .val (.int .i64 (w (v25 + y36.width))), .val (.int .i64 v26), .val (.int .i64 v27), .val (.int .i64 0), .val (.int .i64 0), .val (.int .i64 0), .val (.bool false), .val (.bool false), .val (.bool false), .val (.int .i64 y36.height), .val (.int .i64 v29)]⟩, ⟨0, (cGItem y36)⟩]) (tk' := []) (by kernel_rfl) ?_
                    refine PO.nil ?_
                    obtain rfl := Option.some.inj e36
                    exact PC.skip (joinKP.end ⟨y36.height, Weak.one [0, 1, 2] [] (by kernel_rfl), rfl⟩)
                  · have e36 := bif_f h37 e36
                    refine PC.noop ?_
                    obtain rfl := Option.some.inj e36
                    exact PC.skip (joinKP.end ⟨v28, Weak.one [0, 1, 2] [] (by kernel_rfl), rfl⟩)
                · rintro _ ⟨v42, w38, rfl⟩
                  refine PC.weak w38 ?_
                  refine PC.assoc ?_
                  refine PC.run (n := 6) rfl ?_
                  refine PC.cond rfl (fun h39 => ?_) (fun h39 => ?_)
                  · have e33 := bif_t h39 e33
                    refine PC.region ?_
                    refine PO.runK 4 [0, 1] [] (es := [(0, .list 13 (List.map cGItem a0) none), (1, .val (.int .i64 a1)), (3, .val (.int .i64 a3)), (8, .ptr 0 0), (9, .ptr 1 0), (10, .val (.int .i64 v24))]) (fr' := [⟨0, [.val (.int .i64 0), .val (.int .i64 0), .val (.int .i64 0), .val (.int .i64 0), .val (.int .i64 0), .val (.int .i64 0), .val (.int .i64 0), .val (.int .i64 0), .val (.int .i64 0), .val (.bool false), .val (.bool false), .val (.bool false), .val (.int .i64 0), .val (.int .i64 0)]⟩, ⟨0, [.val (.int .i64 v1), .val (.int .i64 v7), .val (.int .i64 a3), .val (.int .i64 (w (v25 + y36.width))), .val (.int .i64 v26), .val (.int .i64 v27), .val (.int .i64 0), .val (.int .i64 0), .val (.int .i64 0), .val (.bool false), .val (.bool false), .val (.bool false), .val (.int .i64 v42), .val (.int .i64 y36.depth)]⟩]) (tk' := []) (by kernel_rfl) ?_
                    refine PO.nil ?_
                    obtain rfl := Option.some.inj e33
                    exact PC.skip (blockJK.end ⟨w (v25 + y36.width), v26, v27, v42, y36.depth, Weak.one [0, 1] [] (by kernel_rfl), rfl⟩)
                  · have e33 := bif_f h39 e33
                    refine PC.noop ?_
                    obtain rfl := Option.some.inj e33
                    exact PC.skip (blockJK.end ⟨w (v25 + y36.width), v26, v27, v42, v29, Weak.one [0, 1] [] (by kernel_rfl), rfl⟩)
              · have e33 := bif_f h34 e33
                refine PC.assoc ?_
                refine PC.run (n := 3) rfl ?_
                refine PC.cond rfl (fun h40 => ?_) (fun h40 => ?_)
                · have e33 := bif_t h40 e33
                  refine PC.region ?_
                  refine PO.runK 7 [0, 1] [] (es := [(0, .list 13 (List.map cGItem a0) none), (1, .val (.int .i64 a1)), (3, .val (.int .i64 a3)), (8, .ptr 0 0), (9, .ptr 1 0), (10, .val (.int .i64 v24))]) (fr' := [⟨0, [.val (.int .i64 0), .val (.int .i64 0), .val (.int .i64 0), .val (.int .i64 0), .val (.int .i64 0), .val (.int .i64 0), .val (.int .i64 0), .val (.int .i64 0), .val (.int .i64 0), .val (.bool false), .val (.bool false), .val (.bool false), .val (.int .i64 0), .val (.int .i64 0)]⟩, ⟨0, [.val (.int .i64 v1), .val (.int .i64 v7), .val (.int .i64 a3), .val (.int .i64 (w (v25 + y36.width))), .val (.int .i64 v26), .val (.int .i64 v27), .val (.int .i64 0), .val (.int .i64 0), .val (.int .i64 0), .val (.bool false), .val (.bool false), .val (.bool false), .val (.int .i64 v28), .val (.int .i64 v29)]⟩]) (tk' := []) (by kernel_rfl) ?_
                  refine PO.nil ?_
                  obtain rfl := Option.some.inj e33
                  exact PC.skip (blockJK.end ⟨w (v25 + y36.width), v26, v27, v28, v29, Weak.one [0, 1] [] (by kernel_rfl), rfl⟩)
                · have e33 := bif_f h40 e33
                  refine PC.assoc ?_
                  refine PC.run (n := 3) rfl ?_
                  refine PC.cond rfl (fun h41 => ?_) (fun h41 => ?_)
                  · have e33 := bif_t h41 e33
                    refine PC.assoc ?_
                    refine PC.region ?_
                    refine PO.runK 7 [0, 1, 2] [] (es := [(0, .list 13 (List.map cGItem a0) none), (1, .val (.int .i64 a1)), (3, .val (.int .i64 a3)), (8, .ptr 0 0), (9, .ptr 1 0), (10, .val (.int .i64 v24)), (11, .ptr 2 0)]) (fr' := [⟨0, [.val (.int .i64 0), .val (.int .i64 0), .val (.int .i64 0), .val (.int .i64 0), .val (.int .i64 0), .val (.int .i64 0), .val (.int .i64 0), .val (.int .i64 0), .val (.int .i64 0), .val (.bool false), .val (.bool false), .val (.bool false), .val (.int .i64 0), .val (.int .i64 0)]⟩, ⟨0, [.val (.int .i64 v1), .val (.int .i64 v7), .val (.int .i64 a3), .val (.int .i64 (w (v25 + y36.width))), .val (.int .i64 v26), .val (.int .i64 v27), .val (.int .i64 0), .val (.int .i64 0), .val (.int .i64 0), .val (.bool false), .val (.bool false), .val (.bool false), .val (.int .i64 v28), .val (.int .i64 v29)]⟩, ⟨0, (cGItem y36)⟩]) (tk' := []) (by kernel_rfl) ?_
                    refine PO.nil ?_
                    refine PC.assoc ?_
                    refine PC.region ?_
                    refine PO.runK 7 [0, 1, 2] [] (es := [(0, .list 13 (List.map cGItem a0) none), (1, .val (.int .i64 a1)), (3, .val (.int .i64 a3)), (8, .ptr 0 0), (9, .ptr 1 0), (10, .val (.int .i64 v24)), (11, .ptr 2 0)]) (fr' := [⟨0, [.val (.int .i64 0), .val (.int .i64 0), .val (.int .i64 0), .val (.int .i64 0), .val (.int .i64 0), .val (.int .i64 0), .val (.int .i64 0), .val (.int .i64 0), .val (.int .i64 0), .val (.bool false), .val (.bool false), .val (.bool false), .val (.int .i64 0), .val (.int .i64 0)]⟩, ⟨0, [.val (.int .i64 v1), .val (.int .i64 v7), .val (.int .i64 a3), .val (.int .i64 (w (v25 + y36.width))), .val (.int .i64 (w (v26 + y36.stretch))), .val (.int .i64 v27), .val (.int .i64 0), .val (.int .i64 0), .val (.int .i64 0), .val (.bool false), .val (.bool false), .val (.bool false), .val (.int .i64 v28), .val (.int .i64 v29)]⟩, ⟨0, (cGItem y36)⟩]) (tk' := []) (by kernel_rfl) ?_
                    refine PO.nil ?_
                    refine PC.region ?_
                    refine PO.runK 7 [0, 1] [] (es := [(0, .list 13 (List.map cGItem a0) none), (1, .val (.int .i64 a1)), (3, .val (.int .i64 a3)), (8, .ptr 0 0), (9, .ptr 1 0), (10, .val (.int .i64 v24))]) (fr' := [⟨0, [.val (.int .i64 0), .val (.int .i64 0), .val (.int .i64 0), .val (.int .i64 0), .val (.int .i64 0), .val (.int .i64 0), .val (.int .i64 0), .val (.int .i64 0), .val (.int .i64 0), .val (.bool false), .val (.bool false), .val (.bool false), .val (.int .i64 0), .val (.int .i64 0)]⟩, ⟨0, [.val (.int .i64 v1), .val (.int .i64 v7), .val (.int .i64 a3), .val (.int .i64 (w (v25 + y36.width))), .val (.int .i64 (w (v26 + y36.stretch))), .val (.int .i64 (w (v27 + y36.shrink))), .val (.int .i64 0), .val (.int .i64 0), .val (.int .i64 0), .val (.bool false), .val (.bool false), .val (.bool false), .val (.int .i64 v28), .val (.int .i64 v29)]⟩]) (tk' := []) (by kernel_rfl) ?_
                    refine PO.nil ?_
                    obtain rfl := Option.some.inj e33
                    exact PC.skip (blockJK.end ⟨w (v25 + y36.width), w (v26 + y36.stretch), w (v27 + y36.shrink), v28, v29, Weak.one [0, 1] [] (by kernel_rfl), rfl⟩)
                  · have e33 := bif_f h41 e33
                    refine PC.noop ?_
                    obtain rfl := Option.some.inj e33
                    exact PC.skip (blockJK.end ⟨v25, v26, v27, v28, v29, Weak.one [0, 1] [] (by kernel_rfl), rfl⟩)
            · rintro _ ⟨v37, v38, v39, v40, v41, w42, rfl⟩
              refine PC.weak w42 ?_
              refine PC.skip (blockKP.end ?_)
              refine PC.lone ?_
              refine PC.run (n := 4) rfl ?_
              exact PC.skip (loopKP.mk (Nat.lt_succ_self _) ⟨w (v24 + 1), v37, v38, v39, v40, v41, Weak.one [0, 1] [] (by kernel_rfl), e26⟩)
          · have e26 := bif_f h29 e26
            obtain rfl := Option.some.inj e26
            exact PC.exit (loopKP.exit (blockJK.here ⟨v25, v26, v27, v28, v29, Weak.one [0, 1] [] (by kernel_rfl), rfl⟩))
      · rintro _ ⟨v13, v14, v15, v16, v17, w43, rfl⟩
        refine PC.weak w43 ?_
        refine PC.region ?_
        refine PO.run 2 rfl ?_
        refine Exists.elim (bindI_some hF) (fun y43 hq => ?_)
        have h44 := hq.1
        have h45 := hq.2.1
        have hF := hq.2.2
        clear hq
        refine PO.same rfl (indexAddr_ok Try.underlying42 rfl rfl rfl h44 (map_at h45)) rfl ?_
        refine PO.runK 3 [0, 1, 2] [] (es := [(1, .val (.int .i64 a1)), (8, .ptr 0 0), (9, .ptr 1 0), (12, .ptr 2 0)]) (fr' := [⟨0, [.val (.int .i64 0), .val (.int .i64 0), .val (.int .i64 0), .val (.int .i64 0), .val (.int .i64 0), .val (.int .i64 0), .val (.int .i64 0), .val (.int .i64 0), .val (.int .i64 0), .val (.bool false), .val (.bool false), .val (.bool false), .val (.int .i64 0), .val (.int .i64 0)]⟩, ⟨0, [.val (.int .i64 v1), .val (.int .i64 v7), .val (.int .i64 a3), .val (.int .i64 v13), .val (.int .i64 v14), .val (.int .i64 v15), .val (.int .i64 0), .val (.int .i64 0), .val (.int .i64 0), .val (.bool false), .val (.bool false), .val (.bool false), .val (.int .i64 v16), .val (.int .i64 v17)]⟩, ⟨0, (cGItem y43)⟩]) (tk' := []) (by kernel_rfl) ?_
        refine PO.nil ?_
        refine PC.assoc ?_
        refine PC.run (n := 4) rfl ?_
        refine Exists.elim (bind_some hF) (fun x46 hq => ?_)
        have e47 := hq.1
        have hF := hq.2
        clear hq
        refine PC.join (fun s => ∃ (v44 : Int) (v45 : Bool) (v46 : Bool) (v47 : Int) (v48 : Int), Weak s (PS.of 171 [(1, .val (.int .i64 a1)), (8, .ptr 0 0), (9, .ptr 1 0)] [⟨0, [.val (.int .i64 0), .val (.int .i64 0), .val (.int .i64 0), .val (.int .i64 0), .val (.int .i64 0), .val (.int .i64 0), .val (.int .i64 0), .val (.int .i64 0), .val (.int .i64 0), .val (.bool false), .val (.bool false), .val (.bool false), .val (.int .i64 0), .val (.int .i64 0)]⟩, ⟨0, [.val (.int .i64 v1), .val (.int .i64 v7), .val (.int .i64 a3), .val (.int .i64 v44), .val (.int .i64 v14), .val (.int .i64 v15), .val (.int .i64 0), .val (.int .i64 0), .val (.int .i64 0), .val (.bool false), .val (.bool v45), .val (.bool v46), .val (.int .i64 v47), .val (.int .i64 v48)]⟩] [] 0 0) ∧ (v44, v45, v46, v47, v48) = x46) ?_ ?_
        · refine PC.cond rfl (fun h48 => ?_) (fun h48 => ?_)
          · have e47 := bif_t h48 e47
            refine PC.assoc ?_
            refine PC.region ?_
            refine PO.runK 7 [0, 1, 2] [] (es := [(1, .val (.int .i64 a1)), (8, .ptr 0 0), (9, .ptr 1 0), (12, .ptr 2 0)]) (fr' := [⟨0, [.val (.int .i64 0), .val (.int .i64 0), .val (.int .i64 0), .val (.int .i64 0), .val (.int .i64 0), .val (.int .i64 0), .val (.int .i64 0), .val (.int .i64 0), .val (.int .i64 0), .val (.bool false), .val (.bool false), .val (.bool false), .val (.int .i64 0), .val (.int .i64 0)]⟩, ⟨0, [.val (.int .i64 v1), .val (.int .i64 v7), .val (.int .i64 a3), .val (.int .i64 (w (v13 + y43.width))), .val (.int .i64 v14), .val (.int .i64 v15), .val (.int .i64 0), .val (.int .i64 0), .val (.int .i64 0), .val (.bool false), .val (.bool false), .val (.bool false), .val (.int .i64 v16), .val (.int .i64 v17)]⟩, ⟨0, (cGItem y43)⟩]) (tk' := []) (by kernel_rfl) ?_
            refine PO.nil ?_
            refine PC.assoc ?_
            refine PC.region ?_
            refine PO.runK 4 [0, 1, 2] [] (es := [(1, .val (.int .i64 a1)), (8, .ptr 0 0), (9, .ptr 1 0), (12, .ptr 2 0)]) (fr' := [⟨0, [.val (.int .i64 0), .val (.int .i64 0), .val (.int .i64 0), .val (.int .i64 0), .val (.int .i64 0), .val (.int .i64 0), .val (.int .i64 0), .val (.int .i64 0), .val (.int .i64 0), .val (.bool false), .val (.bool false), .val (.bool false), .val (.int .i64 0), .val (.int .i64 0)]⟩, ⟨0, [.val (.int .i64 v1), .val (.int .i64 v7), .val (.int .i64 a3), .val (.int .i64 (w (v13 + y43.width))), .val (.int .i64 v14), .val (.int .i64 v15), .val (.int .i64 0), .val (.int .i64 0), .val (.int .i64 0), .val (.bool false), .val (.bool y43.flag), .val (.bool false), .val (.int .i64 v16), .val (.int .i64 v17)]⟩, ⟨0, (cGItem y43)⟩]) (tk' := []) (by kernel_rfl) ?_
            refine PO.nil ?_
            refine PC.assoc ?_
            refine PC.region ?_
            refine PO.runK 5 [0, 1, 2] [] (es := [(1, .val (.int .i64 a1)), (8, .ptr 0 0), (9, .ptr 1 0), (12, .ptr 2 0)]) (fr' := [⟨0, [.val (.int .i64 0), .val (.int .i64 0), .val (.int .i64 0), .val (.int .i64 0), .val (.int .i64 0), .val (.int .i64 0), .val (.int .i64 0), .val (.int .i64 0), .val (.int .i64 0), .val (.bool false), .val (.bool false), .val (.bool false), .val (.int .i64 0), .val (.int .i64 0)]⟩, ⟨0, [.val (.int .i64 v1), .val (.int .i64 v7), .val (.int .i64 a3), .val (.int .i64 (w (v13 + y43.width))), .val (.int .i64 v14), .val (.int .i64 v15), .val (.int .i64 0), .val (.int .i64 0), .val (.int .i64 0), .val (.bool false), .val (.bool y43.flag), .val (.bool (y43.value == (-10000))), .val (.int .i64 v16), .val (.int .i64 v17)]⟩, ⟨0, (cGItem y43)⟩]) (tk' := []) (by kernel_rfl) ?_
            refine PO.nil ?_
            refine PC.assoc ?_
            refine PC.assoc ?_
            refine PC.region ?_
            refine PO.run 3 rfl ?_
            refine Exists.elim (bind_some e47) (fun x49 hq => ?_)
            have e50 := hq.1
            have e47 := hq.2
            clear hq
            refine PO.cut 6 (fun s => ∃ (v49 : Bool), Weak s (PS.of 171 [(1, .val (.int .i64 a1)), (8, .ptr 0 0), (9, .ptr 1 0), (12, .ptr 2 0), (148, .val (.bool v49))] [⟨0, [.val (.int .i64 0), .val (.int .i64 0), .val (.int .i64 0), .val (.int .i64 0), .val (.int .i64 0), .val (.int .i64 0), .val (.int .i64 0), .val (.int .i64 0), .val (.int .i64 0), .val (.bool false), .val (.bool false), .val (.bool false), .val (.int .i64 0), .val (.int .i64 0)]⟩, ⟨0, [.val (.int .i64 v1), .val (.int .i64 v7), .val (.int .i64 a3), .val (.int .i64 (w (v13 + y43.width))), .val (.int .i64 v14), .val (.int .i64 v15), .val (.int .i64 0), .val (.int .i64 0), .val (.int .i64 0), .val (.bool false), .val (.bool y43.flag), .val (.bool (y43.value == (-10000))), .val (.int .i64 v16), .val (.int .i64 v17)]⟩, ⟨0, (cGItem y43)⟩] [] 0 0) ∧ v49 = x49) ?_ ?_
            · refine PO.case (t := 142) rfl rfl (fun h51 => ?_) (fun h51 => ?_)
              · have e50 := bif_t h51 e50
                refine PO.run 5 rfl ?_
                refine PO.same rfl (pickT_ok rfl rfl rfl) rfl ?_
                refine PO.nil ?_
                obtain rfl := Option.some.inj e50
                exact ⟨decide (y43.height > v16), Weak.one [0, 1, 2] [] (by kernel_rfl), rfl⟩
              · have e50 := bif_f h51 e50
                refine PO.run 5 rfl ?_
                refine PO.same rfl (pickF_ok rfl rfl rfl) rfl ?_
                refine PO.nil ?_
                obtain rfl := Option.some.inj e50
                exact ⟨false, Weak.one [0, 1, 2] [] (by kernel_rfl), rfl⟩
            · rintro _ ⟨v49, w52, rfl⟩
              refine PO.weak w52 ?_
              refine PO.nil ?_
              refine Exists.elim (bind_some e47) (fun x53 hq => ?_)
              have e54 := hq.1
              have e47 := hq.2
              clear hq
              refine PC.join (fun s => ∃ (v50 : Int), Weak s (PS.of 171 [(1, .val (.int .i64 a1)), (8, .ptr 0 0), (9, .ptr 1 0), (12, .ptr 2 0)] [⟨0, [.val (.int .i64 0), .val (.int .i64 0), .val (.int .i64 0), .val (.int .i64 0), .val (.int .i64 0), .val (.int .i64 0), .val (.int .i64 0), .val (.int .i64 0), .val (.int .i64 0), .val (.bool false), .val (.bool false), .val (.bool false), .val (.int .i64 0), .val (.int .i64 0)]⟩, ⟨0, [.val (.int .i64 v1), .val (.int .i64 v7), .val (.int .i64 a3), .val (.int .i64 (w (v13 + y43.width))), .val (.int .i64 v14), .val (.int .i64 v15), .val (.int .i64 0), .val (.int .i64 0), .val (.int .i64 0), .val (.bool false), .val (.bool y43.flag), .val (.bool (y43.value == (-10000))), .val (.int .i64 v50), .val (.int .i64 v17)]⟩, ⟨0, (cGItem y43)⟩] [] 0 0) ∧ v50 = x53) ?_ ?_
              · refine PC.cond rfl (fun h55 => ?_) (fun h55 => ?_)
                · have e54 := bif_t h55 e54
                  refine PC.region ?_
                  refine PO.runK 4 [0, 1, 2] [] (es := [(1, .val (.int .i64 a1)), (8, .ptr 0 0), (9, .ptr 1 0), (12, .ptr 2 0)]) (fr' := [⟨0, [.val (.int .i64 0), .val (.int .i64 0), .val (.int .i64 0), .val (.int .i64 0), .val (.int .i64 0), .val (.int .i64 0), .val (.int .i64 0), .val (.int .i64 0), .val (.int .i64 0), .val (.bool false), .val (.bool false), .val (.bool false), .val (.int .i64 0), .val (.int .i64 0)]⟩, ⟨0, [.val (.int .i64 v1), .val (.int .i64 v7), .val (.int .i64 a3), .val (.int .i64 (w (v13 + y43.width))), .val (.int .i64 v14), .val (.int .i64 v15), .val (.int .i64 0), .val (.int .i64 0), .val (.int .i64 0), .val (.bool false), .val (.bool y43.flag), .val (.bool (y43.value == (-10000))), .val (.int .i64 y43.height), .val (.int .i64 v17)]⟩, ⟨0, (cGItem y43)⟩]) (tk' := []) (by kernel_rfl) ?_
                  refine PO.nil ?_
                  obtain rfl := Option.some.inj e54
                  exact PC.skip (joinKP.end ⟨y43.height, Weak.one [0, 1, 2] [] (by kernel_rfl), rfl⟩)
                · have e54 := bif_f h55 e54
                  refine PC.noop ?_
                  obtain rfl := Option.some.inj e54
                  exact PC.skip (joinKP.end ⟨v16, Weak.one [0, 1, 2] [] (by kernel_rfl), rfl⟩)
              · rintro _ ⟨v50, w56, rfl⟩
                refine PC.weak w56 ?_
                refine PC.assoc ?_
                refine PC.region ?_
                refine PO.run 3 rfl ?_
                refine Exists.elim (bind_some e47) (fun x57 hq => ?_)
                have e58 := hq.1
                have e47 := hq.2
                clear hq
                refine PO.cut 6 (fun s => ∃ (v51 : Bool), Weak s (PS.of 171 [(1, .val (.int .i64 a1)), (8, .ptr 0 0), (9, .ptr 1 0), (12, .ptr 2 0), (160, .val (.bool v51))] [⟨0, [.val (.int .i64 0), .val (.int .i64 0), .val (.int .i64 0), .val (.int .i64 0), .val (.int .i64 0), .val (.int .i64 0), .val (.int .i64 0), .val (.int .i64 0), .val (.int .i64 0), .val (.bool false), .val (.bool false), .val (.bool false), .val (.int .i64 0), .val (.int .i64 0)]⟩, ⟨0, [.val (.int .i64 v1), .val (.int .i64 v7), .val (.int .i64 a3), .val (.int .i64 (w (v13 + y43.width))), .val (.int .i64 v14), .val (.int .i64 v15), .val (.int .i64 0), .val (.int .i64 0), .val (.int .i64 0), .val (.bool false), .val (.bool y43.flag), .val (.bool (y43.value == (-10000))), .val (.int .i64 v50), .val (.int .i64 v17)]⟩, ⟨0, (cGItem y43)⟩] [] 0 0) ∧ v51 = x57) ?_ ?_
                · refine PO.case (t := 154) rfl rfl (fun h59 => ?_) (fun h59 => ?_)
                  · have e58 := bif_t h59 e58
                    refine PO.run 5 rfl ?_
                    refine PO.same rfl (pickT_ok rfl rfl rfl) rfl ?_
                    refine PO.nil ?_
                    obtain rfl := Option.some.inj e58
                    exact ⟨decide (y43.depth > v17), Weak.one [0, 1, 2] [] (by kernel_rfl), rfl⟩
                  · have e58 := bif_f h59 e58
                    refine PO.run 5 rfl ?_
                    refine PO.same rfl (pickF_ok rfl rfl rfl) rfl ?_
                    refine PO.nil ?_
                    obtain rfl := Option.some.inj e58
                    exact ⟨false, Weak.one [0, 1, 2] [] (by kernel_rfl), rfl⟩
                · rintro _ ⟨v51, w60, rfl⟩
                  refine PO.weak w60 ?_
                  refine PO.nil ?_
                  refine PC.cond rfl (fun h61 => ?_) (fun h61 => ?_)
                  · have e47 := bif_t h61 e47
                    refine PC.region ?_
                    refine PO.runK 4 [0, 1] [] (es := [(1, .val (.int .i64 a1)), (8, .ptr 0 0), (9, .ptr 1 0)]) (fr' := [⟨0, [.val (.int .i64 0), .val (.int .i64 0), .val (.int .i64 0), .val (.int .i64 0), .val (.int .i64 0), .val (.int .i64 0), .val (.int .i64 0), .val (.int .i64 0), .val (.int .i64 0), .val (.bool false), .val (.bool false), .val (.bool false), .val (.int .i64 0), .val (.int .i64 0)]⟩, ⟨0, [.val (.int .i64 v1), .val (.int .i64 v7), .val (.int .i64 a3), .val (.int .i64 (w (v13 + y43.width))), .val (.int .i64 v14), .val (.int .i64 v15), .val (.int .i64 0), .val (.int .i64 0), .val (.int .i64 0), .val (.bool false), .val (.bool y43.flag), .val (.bool (y43.value == (-10000))), .val (.int .i64 v50), .val (.int .i64 y43.depth)]⟩]) (tk' := []) (by kernel_rfl) ?_
                    refine PO.nil ?_
                    obtain rfl := Option.some.inj e47
                    exact PC.skip (joinKP.end ⟨w (v13 + y43.width), y43.flag, y43.value == (-10000), v50, y43.depth, Weak.one [0, 1] [] (by kernel_rfl), rfl⟩)
                  · have e47 := bif_f h61 e47
                    refine PC.noop ?_
                    obtain rfl := Option.some.inj e47
                    exact PC.skip (joinKP.end ⟨w (v13 + y43.width), y43.flag, y43.value == (-10000), v50, v17, Weak.one [0, 1] [] (by kernel_rfl), rfl⟩)
          · have e47 := bif_f h48 e47
            refine PC.noop ?_
            obtain rfl := Option.some.inj e47
            exact PC.skip (joinKP.end ⟨v13, false, false, v16, v17, Weak.one [0, 1] [] (by kernel_rfl), rfl⟩)
        · rintro _ ⟨v44, v45, v46, v47, v48, w62, rfl⟩
          refine PC.weak w62 ?_
          refine PC.region ?_
          refine PO.runK 6 [0, 1] [] (es := [(8, .ptr 0 0), (9, .ptr 1 0)]) (fr' := [⟨0, [.val (.int .i64 0), .val (.int .i64 0), .val (.int .i64 0), .val (.int .i64 0), .val (.int .i64 0), .val (.int .i64 0), .val (.int .i64 0), .val (.int .i64 0), .val (.int .i64 0), .val (.bool false), .val (.bool false), .val (.bool false), .val (.int .i64 0), .val (.int .i64 0)]⟩, ⟨0, [.val (.int .i64 v1), .val (.int .i64 v7), .val (.int .i64 a3), .val (.int .i64 v44), .val (.int .i64 v14), .val (.int .i64 v15), .val (.int .i64 (w (a1 - v44))), .val (.int .i64 0), .val (.int .i64 0), .val (.bool false), .val (.bool v45), .val (.bool v46), .val (.int .i64 v47), .val (.int .i64 v48)]⟩]) (tk' := []) (by kernel_rfl) ?_
          refine PO.nil ?_
          refine PC.region ?_
          refine PO.run 1 rfl ?_
          refine Exists.elim (bind_some hF) (fun r63 hq => ?_)
          have e64 := hq.1
          have hF := hq.2
          clear hq
          refine PO.call rfl rfl rfl rfl (ks := []) (ts := []) (fr1 := []) rfl rfl rfl trivial (L97 k (GLine.mk v1 v7 a3 v44 v14 v15 (w (a1 - v44)) 0 0 false v45 v46 v47 v48) _ e64) ?_
          rintro _ _ _ ⟨rfl, rfl, rfl⟩
          refine ⟨_, _, rfl, rfl, ?_⟩
          refine PO.runK 1 [0] [] (es := [(8, .ptr 0 0)]) (fr' := [⟨0, (cGLine r63)⟩]) (tk' := []) (by kernel_rfl) ?_
          refine PO.nil ?_
          obtain rfl := Option.some.inj hF
          exact PC.ret' (retSK [] [] (by kernel_rfl) (.refl _) ⟨rfl, rfl, rfl⟩)

/-! 76 platen/platenref14.between -/
def F76 (k : Nat) (a0 : Int) (a1 : Int) (a2 : Int) : Option Int :=
bif decide (a0 < a1) then (some a1) else (bif decide (a0 > a2) then (some a2) else (some a0))
theorem L76 (k : Nat) (a0 : Int) (a1 : Int) (a2 : Int) (r : Int) (hF : F76 k a0 a1 a2 = some r) : PF Try.prog orc 76 [.val (.int .i64 a0), .val (.int .i64 a1), .val (.int .i64 a2)] [] [] (fun p fr tk => p = .val (.int .i64 r) ∧ fr = [] ∧ tk = []) := by
  unfold F76 at hF
  refine PF.enterS Try.func76 rfl rfl rfl (by kernel_rfl) rfl ?_
  refine PC.run (n := 2) rfl ?_
  refine PC.assoc ?_
  refine PC.run (n := 4) rfl ?_
  refine PC.cond rfl (fun h1 => ?_) (fun h1 => ?_)
  · have hF := bif_t h1 hF
    refine PC.assoc ?_
    refine PC.run (n := 3) rfl ?_
    obtain rfl := Option.some.inj hF
    exact PC.ret (retSK [] [] (by kernel_rfl) (.refl _) ⟨rfl, rfl, rfl⟩)
  · have hF := bif_f h1 hF
    refine PC.noop ?_
    refine PC.assoc ?_
    refine PC.run (n := 4) rfl ?_
    refine PC.cond rfl (fun h2 => ?_) (fun h2 => ?_)
    · have hF := bif_t h2 hF
      refine PC.assoc ?_
      refine PC.run (n := 3) rfl ?_
      obtain rfl := Option.some.inj hF
      exact PC.ret (retSK [] [] (by kernel_rfl) (.refl _) ⟨rfl, rfl, rfl⟩)
    · have hF := bif_f h2 hF
      refine PC.noop ?_
      refine PC.run (n := 3) rfl ?_
      obtain rfl := Option.some.inj hF
      exact PC.ret' (retSK [] [] (by kernel_rfl) (.refl _) ⟨rfl, rfl, rfl⟩)

/-! 37 platen/platenref14.Demerits -/
def F37 (k : Nat) (a0 : List GItem) (a1 : GLine) (a2 : GLine) : Option Int :=
(F76 k a2.bad 0 10000).bind fun r1 =>
Option.bind (α := Bool) (bif decide (a2.break_ ≥ 0) then (Option.bind (α := Bool) (bif decide (a2.break_ < (a0.length : Int)) then (bindI a0 a2.break_ fun y3 =>
some (y3.kind == 4)) else (some false)) fun (v2 : Bool) =>
some v2) else (some false)) fun (v1 : Bool) =>
Option.bind (α := Int) (bif v1 then (bindI a0 a2.break_ fun y5 =>
bif decide (y5.value ≥ 0) then ((F76 k y5.value 0 10000).bind fun r19 =>
some (w ((w ((w (10 + r1)) * (w (10 + r1)))) + (w (r19 * r19))))) else (bif decide (y5.value > (-10000)) then (some (w ((w ((w (10 + r1)) * (w (10 + r1)))) - (w (y5.value * y5.value))))) else (some (w ((w (10 + r1)) * (w (10 + r1))))))) else (some (w ((w (10 + r1)) * (w (10 + r1)))))) fun (v4 : Int) =>
Option.bind (α := Int × Int) (bif decide (a1.first ≥ 0) then ((F76 k a1.class_ 0 3).bind fun r26 =>
Option.bind (α := Bool) (bif a1.hyphen then (some a2.hyphen) else (some false)) fun (v8 : Bool) =>
bif v8 then (some (w (v4 + 3000), r26)) else (some (v4, r26))) else (some (v4, 1))) fun (v6, v7) =>
(F76 k a2.class_ 0 3).bind fun r34 =>
Option.bind (α := Bool) (bif decide ((w (v7 - r34)) > 1) then (some true) else (some (decide ((w (v7 - r34)) < (-1))))) fun (v9 : Bool) =>
Option.bind (α := Int) (bif v9 then (some (w (v6 + 3000))) else (some v6)) fun (v10 : Int) =>
some v10
theorem L37 (k : Nat) (a0 : List GItem) (a1 : GLine) (a2 : GLine) (r : Int) (hF : F37 k a0 a1 a2 = some r) : PF Try.prog orc 37 [.list 13 (List.map cGItem a0) none, .agg (cGLine a1), .agg (cGLine a2)] [] [] (fun p fr tk => p = .val (.int .i64 r) ∧ fr = [] ∧ tk = []) := by
  unfold F37 at hF
  refine PF.enterS Try.func37 rfl rfl rfl (by kernel_rfl) rfl ?_
  refine PC.region ?_
  refine PO.runK 3 [0, 1] [] (es := [(0, .list 13 (List.map cGItem a0) none), (4, .ptr 0 0), (5, .ptr 1 0), (6, .val (.int .i64 0))]) (fr' := [⟨0, (cGLine a1)⟩, ⟨0, (cGLine a2)⟩]) (tk' := []) (by kernel_rfl) ?_
  refine PO.nil ?_
  refine PC.region ?_
  refine PO.run 2 rfl ?_
  refine Exists.elim (bind_some hF) (fun r1 hq => ?_)
  have e2 := hq.1
  have hF := hq.2
  clear hq
  refine PO.call rfl rfl rfl rfl (ks := []) (ts := []) (fr1 := []) rfl rfl rfl trivial (L76 k a2.bad 0 10000 _ e2) ?_
  rintro _ _ _ ⟨rfl, rfl, rfl⟩
  refine ⟨_, _, rfl, rfl, ?_⟩
  refine PO.run 1 rfl ?_
  refine PO.nil ?_
  refine PC.run (n := 7) rfl ?_
  refine PC.assoc ?_
  refine PC.region ?_
  refine PO.run 4 rfl ?_
  refine Exists.elim (bind_some hF) (fun x3 hq => ?_)
  have e4 := hq.1
  have hF := hq.2
  clear hq
  refine PO.cut 15 (fun s => ∃ (v1 : Bool), Weak s (PS.of 89 [(0, .list 13 (List.map cGItem a0) none), (4, .ptr 0 0), (5, .ptr 1 0), (6, .val (.int .i64 0)), (8, .val (.int .i64 (w ((w (10 + r1)) * (w (10 + r1)))))), (38, .val (.bool v1))] [⟨0, (cGLine a1)⟩, ⟨0, (cGLine a2)⟩] [] 0 0) ∧ v1 = x3) ?_ ?_
  · refine PO.case (t := 23) rfl rfl (fun h5 => ?_) (fun h5 => ?_)
    · have e4 := bif_t h5 e4
      refine PO.run 3 rfl ?_
      refine PO.same rfl (len_ok Try.underlying42 rfl (List.length_map _)) rfl ?_
      refine PO.run 1 rfl ?_
      refine PO.same rfl (pickT_ok rfl rfl rfl) rfl ?_
      refine PO.run 1 rfl ?_
      refine Exists.elim (bind_some e4) (fun x6 hq => ?_)
      have e7 := hq.1
      have e4 := hq.2
      clear hq
      refine PO.cut 8 (fun s => ∃ (v2 : Bool), Weak s (PS.of 89 [(0, .list 13 (List.map cGItem a0) none), (4, .ptr 0 0), (5, .ptr 1 0), (6, .val (.int .i64 0)), (8, .val (.int .i64 (w ((w (10 + r1)) * (w (10 + r1)))))), (38, .val (.bool v2))] [⟨0, (cGLine a1)⟩, ⟨0, (cGLine a2)⟩] [] 0 0) ∧ v2 = x6) ?_ ?_
      · refine PO.case (t := 30) rfl rfl (fun h8 => ?_) (fun h8 => ?_)
        · have e7 := bif_t h8 e7
          refine PO.run 3 rfl ?_
          refine Exists.elim (bindI_some e7) (fun y3 hq => ?_)
          have h9 := hq.1
          have h10 := hq.2.1
          have e7 := hq.2.2
          clear hq
          refine PO.same rfl (indexAddr_ok Try.underlying42 rfl rfl rfl h9 (map_at h10)) rfl ?_
          refine PO.run 3 rfl ?_
          refine PO.same rfl (pickT_ok rfl rfl rfl) rfl ?_
          refine PO.nil ?_
          obtain rfl := Option.some.inj e7
          exact ⟨y3.kind == 4, Weak.one [0, 1] [] (by kernel_rfl), rfl⟩
        · have e7 := bif_f h8 e7
          refine PO.run 7 rfl ?_
          refine PO.same rfl (pickF_ok rfl rfl rfl) rfl ?_
          refine PO.nil ?_
          obtain rfl := Option.some.inj e7
          exact ⟨false, Weak.one [0, 1] [] (by kernel_rfl), rfl⟩
      · rintro _ ⟨v2, w11, rfl⟩
        refine PO.weak w11 ?_
        refine PO.nil ?_
        obtain rfl := Option.some.inj e4
        exact ⟨v2, Weak.one [0, 1] [] (by kernel_rfl), rfl⟩
    · have e4 := bif_f h5 e4
      refine PO.run 5 rfl ?_
      refine PO.same rfl (pickF_ok rfl rfl rfl) rfl ?_
      refine PO.run 8 rfl ?_
      refine PO.same rfl (pickF_ok rfl rfl rfl) rfl ?_
      refine PO.nil ?_
      obtain rfl := Option.some.inj e4
      exact ⟨false, Weak.one [0, 1] [] (by kernel_rfl), rfl⟩
  · rintro _ ⟨v1, w12, rfl⟩
    refine PO.weak w12 ?_
    refine PO.nil ?_
    refine Exists.elim (bind_some hF) (fun x13 hq => ?_)
    have e14 := hq.1
    have hF := hq.2
    clear hq
    refine PC.join (fun s => ∃ (v4 : Int), Weak s (PS.of 89 [(4, .ptr 0 0), (5, .ptr 1 0), (6, .val (.int .i64 0)), (8, .val (.int .i64 v4))] [⟨0, (cGLine a1)⟩, ⟨0, (cGLine a2)⟩] [] 0 0) ∧ v4 = x13) ?_ ?_
    · refine PC.cond rfl (fun h15 => ?_) (fun h15 => ?_)
      · have e14 := bif_t h15 e14
        refine PC.assoc ?_
        refine PC.region ?_
        refine PO.run 3 rfl ?_
        refine Exists.elim (bindI_some e14) (fun y5 hq => ?_)
        have h16 := hq.1
        have h17 := hq.2.1
        have e14 := hq.2.2
        clear hq
        refine PO.same rfl (indexAddr_ok Try.underlying42 rfl rfl rfl h16 (map_at h17)) rfl ?_
        refine PO.run 3 rfl ?_
        refine PO.nil ?_
        refine PC.assoc ?_
        refine PC.run (n := 3) rfl ?_
        refine PC.cond rfl (fun h18 => ?_) (fun h18 => ?_)
        · have e14 := bif_t h18 e14
          refine PC.assoc ?_
          refine PC.region ?_
          refine PO.run 1 rfl ?_
          refine Exists.elim (bind_some e14) (fun r19 hq => ?_)
          have e20 := hq.1
          have e14 := hq.2
          clear hq
          refine PO.call rfl rfl rfl rfl (ks := []) (ts := []) (fr1 := []) rfl rfl rfl trivial (L76 k y5.value 0 10000 _ e20) ?_
          rintro _ _ _ ⟨rfl, rfl, rfl⟩
          refine ⟨_, _, rfl, rfl, ?_⟩
          refine PO.run 1 rfl ?_
          refine PO.nil ?_
          refine PC.run (n := 7) rfl ?_
          obtain rfl := Option.some.inj e14
          exact PC.skip (joinKP.end ⟨w ((w ((w (10 + r1)) * (w (10 + r1)))) + (w (r19 * r19))), Weak.one [0, 1] [] (by kernel_rfl), rfl⟩)
        · have e14 := bif_f h18 e14
          refine PC.assoc ?_
          refine PC.run (n := 3) rfl ?_
          refine PC.cond rfl (fun h21 => ?_) (fun h21 => ?_)
          · have e14 := bif_t h21 e14
            refine PC.run (n := 7) rfl ?_
            obtain rfl := Option.some.inj e14
            exact PC.skip (joinKP.end ⟨w ((w ((w (10 + r1)) * (w (10 + r1)))) - (w (y5.value * y5.value))), Weak.one [0, 1] [] (by kernel_rfl), rfl⟩)
          · have e14 := bif_f h21 e14
            refine PC.noop ?_
            obtain rfl := Option.some.inj e14
            exact PC.skip (joinKP.end ⟨w ((w (10 + r1)) * (w (10 + r1))), Weak.one [0, 1] [] (by kernel_rfl), rfl⟩)
      · have e14 := bif_f h15 e14
        refine PC.noop ?_
        obtain rfl := Option.some.inj e14
        exact PC.skip (joinKP.end ⟨w ((w (10 + r1)) * (w (10 + r1))), Weak.one [0, 1] [] (by kernel_rfl), rfl⟩)
    · rintro _ ⟨v4, w22, rfl⟩
      refine PC.weak w22 ?_
      refine PC.run (n := 2) rfl ?_
      refine PC.assoc ?_
      refine PC.run (n := 4) rfl ?_
      refine Exists.elim (bind_some hF) (fun x23 hq => ?_)
      have e24 := hq.1
      have hF := hq.2
      clear hq
      refine PC.join (fun s => ∃ (v6 : Int) (v7 : Int), Weak s (PS.of 89 [(5, .ptr 0 0), (6, .val (.int .i64 0)), (8, .val (.int .i64 v6)), (10, .val (.int .i64 v7))] [⟨0, (cGLine a2)⟩] [] 0 0) ∧ (v6, v7) = x23) ?_ ?_
      · refine PC.cond rfl (fun h25 => ?_) (fun h25 => ?_)
        · have e24 := bif_t h25 e24
          refine PC.assoc ?_
          refine PC.region ?_
          refine PO.run 2 rfl ?_
          refine Exists.elim (bind_some e24) (fun r26 hq => ?_)
          have e27 := hq.1
          have e24 := hq.2
          clear hq
          refine PO.call rfl rfl rfl rfl (ks := []) (ts := []) (fr1 := []) rfl rfl rfl trivial (L76 k a1.class_ 0 3 _ e27) ?_
          rintro _ _ _ ⟨rfl, rfl, rfl⟩
          refine ⟨_, _, rfl, rfl, ?_⟩
          refine PO.run 1 rfl ?_
          refine PO.nil ?_
          refine PC.assoc ?_
          refine PC.region ?_
          refine PO.run 3 rfl ?_
          refine Exists.elim (bind_some e24) (fun x28 hq => ?_)
          have e29 := hq.1
          have e24 := hq.2
          clear hq
          refine PO.cut 3 (fun s => ∃ (v8 : Bool), Weak s (PS.of 89 [(5, .ptr 0 0), (6, .val (.int .i64 0)), (8, .val (.int .i64 v4)), (10, .val (.int .i64 r26)), (72, .val (.bool v8))] [⟨0, (cGLine a2)⟩] [] 0 0) ∧ v8 = x28) ?_ ?_
          · refine PO.case (t := 69) rfl rfl (fun h30 => ?_) (fun h30 => ?_)
            · have e29 := bif_t h30 e29
              refine PO.run 2 rfl ?_
              refine PO.same rfl (pickT_ok rfl rfl rfl) rfl ?_
              refine PO.nil ?_
              obtain rfl := Option.some.inj e29
              exact ⟨a2.hyphen, Weak.one [1] [] (by kernel_rfl), rfl⟩
            · have e29 := bif_f h30 e29
              refine PO.run 2 rfl ?_
              refine PO.same rfl (pickF_ok rfl rfl rfl) rfl ?_
              refine PO.nil ?_
              obtain rfl := Option.some.inj e29
              exact ⟨false, Weak.one [1] [] (by kernel_rfl), rfl⟩
          · rintro _ ⟨v8, w31, rfl⟩
            refine PO.weak w31 ?_
            refine PO.nil ?_
            refine PC.cond rfl (fun h32 => ?_) (fun h32 => ?_)
            · have e24 := bif_t h32 e24
              refine PC.run (n := 4) rfl ?_
              obtain rfl := Option.some.inj e24
              exact PC.skip (joinKP.end ⟨w (v4 + 3000), r26, Weak.one [0] [] (by kernel_rfl), rfl⟩)
            · have e24 := bif_f h32 e24
              refine PC.noop ?_
              obtain rfl := Option.some.inj e24
              exact PC.skip (joinKP.end ⟨v4, r26, Weak.one [0] [] (by kernel_rfl), rfl⟩)
        · have e24 := bif_f h25 e24
          refine PC.noop ?_
          obtain rfl := Option.some.inj e24
          exact PC.skip (joinKP.end ⟨v4, 1, Weak.one [1] [] (by kernel_rfl), rfl⟩)
      · rintro _ ⟨v6, v7, w33, rfl⟩
        refine PC.weak w33 ?_
        refine PC.region ?_
        refine PO.run 3 rfl ?_
        refine Exists.elim (bind_some hF) (fun r34 hq => ?_)
        have e35 := hq.1
        have hF := hq.2
        clear hq
        refine PO.call rfl rfl rfl rfl (ks := []) (ts := []) (fr1 := []) rfl rfl rfl trivial (L76 k a2.class_ 0 3 _ e35) ?_
        rintro _ _ _ ⟨rfl, rfl, rfl⟩
        refine ⟨_, _, rfl, rfl, ?_⟩
        refine PO.run 2 rfl ?_
        refine PO.nil ?_
        refine PC.assoc ?_
        refine PC.region ?_
        refine PO.run 3 rfl ?_
        refine Exists.elim (bind_some hF) (fun x36 hq => ?_)
        have e37 := hq.1
        have hF := hq.2
        clear hq
        refine PO.cut 3 (fun s => ∃ (v9 : Bool), Weak s (PS.of 89 [(6, .val (.int .i64 0)), (8, .val (.int .i64 v6)), (85, .val (.bool v9))] [] [] 0 0) ∧ v9 = x36) ?_ ?_
        · refine PO.case (t := 82) rfl rfl (fun h38 => ?_) (fun h38 => ?_)
          · have e37 := bif_t h38 e37
            refine PO.run 2 rfl ?_
            refine PO.same rfl (pickT_ok rfl rfl rfl) rfl ?_
            refine PO.nil ?_
            obtain rfl := Option.some.inj e37
            exact ⟨true, Weak.one [] [] (by kernel_rfl), rfl⟩
          · have e37 := bif_f h38 e37
            refine PO.run 2 rfl ?_
            refine PO.same rfl (pickF_ok rfl rfl rfl) rfl ?_
            refine PO.nil ?_
            obtain rfl := Option.some.inj e37
            exact ⟨decide ((w (v7 - r34)) < (-1)), Weak.one [] [] (by kernel_rfl), rfl⟩
        · rintro _ ⟨v9, w39, rfl⟩
          refine PO.weak w39 ?_
          refine PO.nil ?_
          refine Exists.elim (bind_some hF) (fun x40 hq => ?_)
          have e41 := hq.1
          have hF := hq.2
          clear hq
          refine PC.join (fun s => ∃ (v10 : Int), Weak s (PS.of 89 [(6, .val (.int .i64 0)), (8, .val (.int .i64 v10))] [] [] 0 0) ∧ v10 = x40) ?_ ?_
          · refine PC.cond rfl (fun h42 => ?_) (fun h42 => ?_)
            · have e41 := bif_t h42 e41
              refine PC.run (n := 4) rfl ?_
              obtain rfl := Option.some.inj e41
              exact PC.skip (joinKP.end ⟨w (v6 + 3000), Weak.one [] [] (by kernel_rfl), rfl⟩)
            · have e41 := bif_f h42 e41
              refine PC.noop ?_
              obtain rfl := Option.some.inj e41
              exact PC.skip (joinKP.end ⟨v6, Weak.one [] [] (by kernel_rfl), rfl⟩)
          · rintro _ ⟨v10, w43, rfl⟩
            refine PC.weak w43 ?_
            refine PC.run (n := 3) rfl ?_
            obtain rfl := Option.some.inj hF
            exact PC.ret' (retSK [] [] (by kernel_rfl) (.refl _) ⟨rfl, rfl, rfl⟩)

/-! 39 platen/platenref14.Cost -/
def F39_l1 (k : Nat) (a0 : List GItem) (a1 : Int) (a2 : Int) (a3 : List Int) : Nat → Int → Int → Int → Int → Int → Int → Int → Int → Int → Int → Int → Int → Int → Bool → Bool → Bool → Int → Int → Option (Int × Int)
  | 0, _, _, _, _, _, _, _, _, _, _, _, _, _, _, _, _, _, _ => none
  | j26 + 1, v25, v26, v27, v28, v29, v30, v31, v32, v33, v34, v35, v36, v37, v38, v39, v40, v41, v42 =>
    bif decide (v26 < (a3.length : Int)) then (bindI a3 v26 fun y61 =>
    (F74 k a0 a1 v25 y61).bind fun r31 =>
    Option.bind (α := Bool) (bif r31.over_ then (some true) else (some (decide (r31.bad > a2)))) fun (v62 : Bool) =>
    Option.bind (α := Int) (bif v62 then (some (w (v27 + 1))) else (some v27)) fun (v63 : Int) =>
    (F37 k a0 (GLine.mk v29 v30 v31 v32 v33 v34 v35 v36 v37 v38 v39 v40 v41 v42) r31).bind fun r41 =>
    bindI a3 v26 fun y64 =>
    F39_l1 k a0 a1 a2 a3 j26 y64 (w (v26 + 1)) v63 (w (v28 + r41)) r31.first r31.last r31.break_ r31.natural r31.stretch r31.shrink r31.short r31.bad r31.class_ r31.over_ r31.hyphen r31.end_ r31.height r31.depth) else (some (v27, v28))
def F39 (k : Nat) (a0 : List GItem) (a1 : Int) (a2 : Int) (a3 : List Int) : Option (GCost × Int) :=
(F40 k a0).bind fun r1 =>
Option.bind (α := Bool) (bif r1 != 0 then (some true) else ((F72 k a1).bind fun r6 =>
Option.bind (α := Bool) (bif !r6 then (some true) else (Option.bind (α := Bool) (bif decide (a2 < 0) then (some true) else (Option.bind (α := Bool) (bif decide (a2 > 10000) then (some true) else ((F78 k a0 a3).bind fun r17 =>
some (!r17))) fun (v4 : Bool) =>
some v4)) fun (v3 : Bool) =>
some v3)) fun (v2 : Bool) =>
some v2)) fun (v1 : Bool) =>
bif v1 then (some ((GCost.mk 0 0 0), 1)) else (Option.bind (α := Int × Int) (F39_l1 k a0 a1 a2 a3 k (-1) 0 0 0 (-1) 0 0 0 0 0 0 0 0 false false false 0 0) fun (v5, v6) =>
some ((GCost.mk v5 v6 (a3.length : Int)), 0))
theorem L39 (k : Nat) (a0 : List GItem) (a1 : Int) (a2 : Int) (a3 : List Int) (r : GCost × Int) (hF : F39 k a0 a1 a2 a3 = some r) : PF Try.prog orc 39 [.list 13 (List.map cGItem a0) none, .val (.int .i64 a1), .val (.int .i64 a2), .list 1 (List.map cI_i64 a3) none] [] [] (fun p fr tk => p = .tup [.agg (cGCost r.1), .val (.int .i64 r.2)] ∧ fr = [] ∧ tk = []) := by
  unfold F39 at hF
  refine PF.enterS Try.func39 rfl rfl rfl (by kernel_rfl) rfl ?_
  refine PC.region ?_
  refine PO.runK 2 [0] [] (es := [(0, .list 13 (List.map cGItem a0) none), (1, .val (.int .i64 a1)), (2, .val (.int .i64 a2)), (3, .list 1 (List.map cI_i64 a3) none), (8, .ptr 0 0), (9, .val (.int .i64 0))]) (fr' := [⟨0, [.val (.int .i64 0), .val (.int .i64 0), .val (.int .i64 0)]⟩]) (tk' := []) (by kernel_rfl) ?_
  refine PO.nil ?_
  refine PC.assoc ?_
  refine PC.region ?_
  refine PO.run 1 rfl ?_
  refine Exists.elim (bind_some hF) (fun r1 hq => ?_)
  have e2 := hq.1
  have hF := hq.2
  clear hq
  refine PO.call rfl rfl rfl rfl (ks := []) (ts := []) (fr1 := []) rfl rfl rfl trivial (L40 k a0 _ e2) ?_
  rintro _ _ _ ⟨rfl, rfl, rfl⟩
  refine ⟨_, _, rfl, rfl, ?_⟩
  refine PO.run 2 rfl ?_
  refine Exists.elim (bind_some hF) (fun x3 hq => ?_)
  have e4 := hq.1
  have hF := hq.2
  clear hq
  refine PO.cut 18 (fun s => ∃ (v1 : Bool), Weak s (PS.of 82 [(0, .list 13 (List.map cGItem a0) none), (1, .val (.int .i64 a1)), (2, .val (.int .i64 a2)), (3, .list 1 (List.map cI_i64 a3) none), (8, .ptr 0 0), (9, .val (.int .i64 0)), (36, .val (.bool v1))] [⟨0, [.val (.int .i64 0), .val (.int .i64 0), .val (.int .i64 0)]⟩] [] 0 0) ∧ v1 = x3) ?_ ?_
  · refine PO.case (t := 18) rfl rfl (fun h5 => ?_) (fun h5 => ?_)
    · have e4 := bif_t h5 e4
      refine PO.run 3 rfl ?_
      refine PO.same rfl (pickT_ok rfl rfl rfl) rfl ?_
      refine PO.run 3 rfl ?_
      refine PO.same rfl (pickT_ok rfl rfl rfl) rfl ?_
      refine PO.run 3 rfl ?_
      refine PO.same rfl (pickT_ok rfl rfl rfl) rfl ?_
      refine PO.run 5 rfl ?_
      refine PO.same rfl (pickT_ok rfl rfl rfl) rfl ?_
      refine PO.nil ?_
      obtain rfl := Option.some.inj e4
      exact ⟨true, Weak.one [0] [] (by kernel_rfl), rfl⟩
    · have e4 := bif_f h5 e4
      refine PO.run 1 rfl ?_
      refine Exists.elim (bind_some e4) (fun r6 hq => ?_)
      have e7 := hq.1
      have e4 := hq.2
      clear hq
      refine PO.call rfl rfl rfl rfl (ks := []) (ts := []) (fr1 := []) rfl rfl rfl trivial (L72 k a1 _ e7) ?_
      rintro _ _ _ ⟨rfl, rfl, rfl⟩
      refine ⟨_, _, rfl, rfl, ?_⟩
      refine PO.run 1 rfl ?_
      refine PO.same rfl (pickF_ok rfl rfl rfl) rfl ?_
      refine PO.run 1 rfl ?_
      refine Exists.elim (bind_some e4) (fun x8 hq => ?_)
      have e9 := hq.1
      have e4 := hq.2
      clear hq
      refine PO.cut 13 (fun s => ∃ (v2 : Bool), Weak s (PS.of 82 [(0, .list 13 (List.map cGItem a0) none), (1, .val (.int .i64 a1)), (2, .val (.int .i64 a2)), (3, .list 1 (List.map cI_i64 a3) none), (8, .ptr 0 0), (9, .val (.int .i64 0)), (36, .val (.bool v2))] [⟨0, [.val (.int .i64 0), .val (.int .i64 0), .val (.int .i64 0)]⟩] [] 0 0) ∧ v2 = x8) ?_ ?_
      · refine PO.case (t := 23) rfl rfl (fun h10 => ?_) (fun h10 => ?_)
        · have e9 := bif_t h10 e9
          refine PO.run 2 rfl ?_
          refine PO.same rfl (pickT_ok rfl rfl rfl) rfl ?_
          refine PO.run 3 rfl ?_
          refine PO.same rfl (pickT_ok rfl rfl rfl) rfl ?_
          refine PO.run 5 rfl ?_
          refine PO.same rfl (pickT_ok rfl rfl rfl) rfl ?_
          refine PO.nil ?_
          obtain rfl := Option.some.inj e9
          exact ⟨true, Weak.one [0] [] (by kernel_rfl), rfl⟩
        · have e9 := bif_f h10 e9
          refine PO.run 2 rfl ?_
          refine PO.same rfl (pickF_ok rfl rfl rfl) rfl ?_
          refine PO.run 1 rfl ?_
          refine Exists.elim (bind_some e9) (fun x11 hq => ?_)
          have e12 := hq.1
          have e9 := hq.2
          clear hq
          refine PO.cut 9 (fun s => ∃ (v3 : Bool), Weak s (PS.of 82 [(0, .list 13 (List.map cGItem a0) none), (1, .val (.int .i64 a1)), (2, .val (.int .i64 a2)), (3, .list 1 (List.map cI_i64 a3) none), (8, .ptr 0 0), (9, .val (.int .i64 0)), (36, .val (.bool v3))] [⟨0, [.val (.int .i64 0), .val (.int .i64 0), .val (.int .i64 0)]⟩] [] 0 0) ∧ v3 = x11) ?_ ?_
          · refine PO.case (t := 27) rfl rfl (fun h13 => ?_) (fun h13 => ?_)
            · have e12 := bif_t h13 e12
              refine PO.run 2 rfl ?_
              refine PO.same rfl (pickT_ok rfl rfl rfl) rfl ?_
              refine PO.run 5 rfl ?_
              refine PO.same rfl (pickT_ok rfl rfl rfl) rfl ?_
              refine PO.nil ?_
              obtain rfl := Option.some.inj e12
              exact ⟨true, Weak.one [0] [] (by kernel_rfl), rfl⟩
            · have e12 := bif_f h13 e12
              refine PO.run 2 rfl ?_
              refine PO.same rfl (pickF_ok rfl rfl rfl) rfl ?_
              refine PO.run 1 rfl ?_
              refine Exists.elim (bind_some e12) (fun x14 hq => ?_)
              have e15 := hq.1
              have e12 := hq.2
              clear hq
              refine PO.cut 5 (fun s => ∃ (v4 : Bool), Weak s (PS.of 82 [(0, .list 13 (List.map cGItem a0) none), (1, .val (.int .i64 a1)), (2, .val (.int .i64 a2)), (3, .list 1 (List.map cI_i64 a3) none), (8, .ptr 0 0), (9, .val (.int .i64 0)), (36, .val (.bool v4))] [⟨0, [.val (.int .i64 0), .val (.int .i64 0), .val (.int .i64 0)]⟩] [] 0 0) ∧ v4 = x14) ?_ ?_
              · refine PO.case (t := 31) rfl rfl (fun h16 => ?_) (fun h16 => ?_)
                · have e15 := bif_t h16 e15
                  refine PO.run 4 rfl ?_
                  refine PO.same rfl (pickT_ok rfl rfl rfl) rfl ?_
                  refine PO.nil ?_
                  obtain rfl := Option.some.inj e15
                  exact ⟨true, Weak.one [0] [] (by kernel_rfl), rfl⟩
                · have e15 := bif_f h16 e15
                  refine PO.run 2 rfl ?_
                  refine Exists.elim (bind_some e15) (fun r17 hq => ?_)
                  have e18 := hq.1
                  have e15 := hq.2
                  clear hq
                  refine PO.call rfl rfl rfl rfl (ks := []) (ts := []) (fr1 := []) rfl rfl rfl trivial (L78 k a0 a3 _ e18) ?_
                  rintro _ _ _ ⟨rfl, rfl, rfl⟩
                  refine ⟨_, _, rfl, rfl, ?_⟩
                  refine PO.run 1 rfl ?_
                  refine PO.same rfl (pickF_ok rfl rfl rfl) rfl ?_
                  refine PO.nil ?_
                  obtain rfl := Option.some.inj e15
                  exact ⟨!r17, Weak.one [0] [] (by kernel_rfl), rfl⟩
              · rintro _ ⟨v4, w19, rfl⟩
                refine PO.weak w19 ?_
                refine PO.nil ?_
                obtain rfl := Option.some.inj e12
                exact ⟨v4, Weak.one [0] [] (by kernel_rfl), rfl⟩
          · rintro _ ⟨v3, w20, rfl⟩
            refine PO.weak w20 ?_
            refine PO.nil ?_
            obtain rfl := Option.some.inj e9
            exact ⟨v3, Weak.one [0] [] (by kernel_rfl), rfl⟩
      · rintro _ ⟨v2, w21, rfl⟩
        refine PO.weak w21 ?_
        refine PO.nil ?_
        obtain rfl := Option.some.inj e4
        exact ⟨v2, Weak.one [0] [] (by kernel_rfl), rfl⟩
  · rintro _ ⟨v1, w22, rfl⟩
    refine PO.weak w22 ?_
    refine PO.nil ?_
    refine PC.cond rfl (fun h23 => ?_) (fun h23 => ?_)
    · have hF := bif_t h23 hF
      refine PC.assoc ?_
      refine PC.region ?_
      refine PO.runK 3 [0] [] (es := [(8, .ptr 0 0), (9, .val (.int .i64 1))]) (fr' := [⟨0, [.val (.int .i64 0), .val (.int .i64 0), .val (.int .i64 0)]⟩]) (tk' := []) (by kernel_rfl) ?_
      refine PO.nil ?_
      obtain rfl := Option.some.inj hF
      exact PC.ret (retSK [] [] (by kernel_rfl) (.refl _) ⟨rfl, rfl, rfl⟩)
    · have hF := bif_f h23 hF
      refine PC.noop ?_
      refine PC.region ?_
      refine PO.run 1 rfl ?_
      refine PO.same rfl (len_ok Try.underlying43 rfl (List.length_map _)) rfl ?_
      refine PO.runK 3 [0, 1] [] (es := [(0, .list 13 (List.map cGItem a0) none), (1, .val (.int .i64 a1)), (2, .val (.int .i64 a2)), (3, .list 1 (List.map cI_i64 a3) none), (8, .ptr 0 0), (9, .val (.int .i64 0)), (10, .ptr 1 0)]) (fr' := [⟨0, [.val (.int .i64 0), .val (.int .i64 0), .val (.int .i64 0)]⟩, ⟨0, [.val (.int .i64 0), .val (.int .i64 0), .val (.int .i64 (a3.length : Int))]⟩]) (tk' := []) (by kernel_rfl) ?_
      refine PO.nil ?_
      refine PC.region ?_
      refine PO.runK 3 [0, 1, 2] [] (es := [(0, .list 13 (List.map cGItem a0) none), (1, .val (.int .i64 a1)), (2, .val (.int .i64 a2)), (3, .list 1 (List.map cI_i64 a3) none), (8, .ptr 0 0), (9, .val (.int .i64 0)), (10, .ptr 1 0), (11, .ptr 2 0)]) (fr' := [⟨0, [.val (.int .i64 0), .val (.int .i64 0), .val (.int .i64 0)]⟩, ⟨0, [.val (.int .i64 0), .val (.int .i64 0), .val (.int .i64 (a3.length : Int))]⟩, ⟨0, [.val (.int .i64 (-1)), .val (.int .i64 0), .val (.int .i64 0), .val (.int .i64 0), .val (.int .i64 0), .val (.int .i64 0), .val (.int .i64 0), .val (.int .i64 0), .val (.int .i64 0), .val (.bool false), .val (.bool false), .val (.bool false), .val (.int .i64 0), .val (.int .i64 0)]⟩]) (tk' := []) (by kernel_rfl) ?_
      refine PO.nil ?_
      refine PC.run (n := 2) rfl ?_
      refine PC.assoc ?_
      refine PC.run (n := 2) rfl ?_
      refine Exists.elim (bind_some hF) (fun x24 hq => ?_)
      have e25 := hq.1
      have hF := hq.2
      clear hq
      refine PC.blockJ (fun s => ∃ (v5 : Int) (v6 : Int), Weak s (PS.of 82 [(8, .ptr 0 0), (9, .val (.int .i64 0)), (10, .ptr 1 0)] [⟨0, [.val (.int .i64 0), .val (.int .i64 0), .val (.int .i64 0)]⟩, ⟨0, [.val (.int .i64 v5), .val (.int .i64 v6), .val (.int .i64 (a3.length : Int))]⟩] [] 0 0) ∧ (v5, v6) = x24) ?_ ?_
      · refine PC.loop (fun j26 s => ∃ (v25 : Int) (v26 : Int) (v27 : Int) (v28 : Int) (v29 : Int) (v30 : Int) (v31 : Int) (v32 : Int) (v33 : Int) (v34 : Int) (v35 : Int) (v36 : Int) (v37 : Int) (v38 : Bool) (v39 : Bool) (v40 : Bool) (v41 : Int) (v42 : Int), Weak s (PS.of 82 [(0, .list 13 (List.map cGItem a0) none), (1, .val (.int .i64 a1)), (2, .val (.int .i64 a2)), (3, .list 1 (List.map cI_i64 a3) none), (8, .ptr 0 0), (9, .val (.int .i64 0)), (10, .ptr 1 0), (11, .ptr 2 0), (12, .val (.int .i64 v25)), (13, .val (.int .i64 v26))] [⟨0, [.val (.int .i64 0), .val (.int .i64 0), .val (.int .i64 0)]⟩, ⟨0, [.val (.int .i64 v27), .val (.int .i64 v28), .val (.int .i64 (a3.length : Int))]⟩, ⟨0, [.val (.int .i64 v29), .val (.int .i64 v30), .val (.int .i64 v31), .val (.int .i64 v32), .val (.int .i64 v33), .val (.int .i64 v34), .val (.int .i64 v35), .val (.int .i64 v36), .val (.int .i64 v37), .val (.bool v38), .val (.bool v39), .val (.bool v40), .val (.int .i64 v41), .val (.int .i64 v42)]⟩] [] 0 0) ∧ F39_l1 k a0 a1 a2 a3 j26 v25 v26 v27 v28 v29 v30 v31 v32 v33 v34 v35 v36 v37 v38 v39 v40 v41 v42 = some x24) (fun j26 s => ?_) k ⟨(-1), 0, 0, 0, (-1), 0, 0, 0, 0, 0, 0, 0, 0, false, false, false, 0, 0, Weak.one [0, 1, 2] [] (by kernel_rfl), e25⟩
        rintro ⟨v25, v26, v27, v28, v29, v30, v31, v32, v33, v34, v35, v36, v37, v38, v39, v40, v41, v42, w27, e25⟩
        refine PC.weak w27 ?_
        cases j26 with
        | zero => rw [F39_l1] at e25; cases e25
        | succ j26 =>
          rw [F39_l1] at e25
          refine PC.assoc ?_
          refine PC.region ?_
          refine PO.run 2 rfl ?_
          refine PO.same rfl (len_ok Try.underlying43 rfl (List.length_map _)) rfl ?_
          refine PO.run 1 rfl ?_
          refine PO.nil ?_
          refine PC.cond rfl (fun h28 => ?_) (fun h28 => ?_)
          · have e25 := bif_t h28 e25
            refine PC.noop ?_
            refine PC.block ?_
            refine PC.region ?_
            refine PO.run 5 rfl ?_
            refine Exists.elim (bindI_some e25) (fun y61 hq => ?_)
            have h29 := hq.1
            have h30 := hq.2.1
            have e25 := hq.2.2
            clear hq
            refine PO.same rfl (indexAddr_ok Try.underlying43 rfl rfl rfl h29 (map_at h30)) rfl ?_
            refine PO.run 1 rfl ?_
            refine Exists.elim (bind_some e25) (fun r31 hq => ?_)
            have e32 := hq.1
            have e25 := hq.2
            clear hq
            refine PO.call rfl rfl rfl rfl (ks := []) (ts := []) (fr1 := []) rfl rfl rfl trivial (L74 k a0 a1 v25 y61 _ e32) ?_
            rintro _ _ _ ⟨rfl, rfl, rfl⟩
            refine ⟨_, _, rfl, rfl, ?_⟩
            refine PO.runK 2 [0, 1, 2, 3] [] (es := [(0, .list 13 (List.map cGItem a0) none), (1, .val (.int .i64 a1)), (2, .val (.int .i64 a2)), (3, .list 1 (List.map cI_i64 a3) none), (8, .ptr 0 0), (9, .val (.int .i64 0)), (10, .ptr 1 0), (11, .ptr 2 0), (12, .val (.int .i64 v25)), (13, .val (.int .i64 v26)), (14, .ptr 3 0)]) (fr' := [⟨0, [.val (.int .i64 0), .val (.int .i64 0), .val (.int .i64 0)]⟩, ⟨0, [.val (.int .i64 v27), .val (.int .i64 v28), .val (.int .i64 (a3.length : Int))]⟩, ⟨0, [.val (.int .i64 v29), .val (.int .i64 v30), .val (.int .i64 v31), .val (.int .i64 v32), .val (.int .i64 v33), .val (.int .i64 v34), .val (.int .i64 v35), .val (.int .i64 v36), .val (.int .i64 v37), .val (.bool v38), .val (.bool v39), .val (.bool v40), .val (.int .i64 v41), .val (.int .i64 v42)]⟩, ⟨0, (cGLine r31)⟩]) (tk' := []) (by kernel_rfl) ?_
            refine PO.nil ?_
            refine PC.assoc ?_
            refine PC.region ?_
            refine PO.run 3 rfl ?_
            refine Exists.elim (bind_some e25) (fun x33 hq => ?_)
            have e34 := hq.1
            have e25 := hq.2
            clear hq
            refine PO.cut 5 (fun s => ∃ (v62 : Bool), Weak s (PS.of 82 [(0, .list 13 (List.map cGItem a0) none), (1, .val (.int .i64 a1)), (2, .val (.int .i64 a2)), (3, .list 1 (List.map cI_i64 a3) none), (8, .ptr 0 0), (9, .val (.int .i64 0)), (10, .ptr 1 0), (11, .ptr 2 0), (12, .val (.int .i64 v25)), (13, .val (.int .i64 v26)), (14, .ptr 3 0), (63, .val (.bool v62))] [⟨0, [.val (.int .i64 0), .val (.int .i64 0), .val (.int .i64 0)]⟩, ⟨0, [.val (.int .i64 v27), .val (.int .i64 v28), .val (.int .i64 (a3.length : Int))]⟩, ⟨0, [.val (.int .i64 v29), .val (.int .i64 v30), .val (.int .i64 v31), .val (.int .i64 v32), .val (.int .i64 v33), .val (.int .i64 v34), .val (.int .i64 v35), .val (.int .i64 v36), .val (.int .i64 v37), .val (.bool v38), .val (.bool v39), .val (.bool v40), .val (.int .i64 v41), .val (.int .i64 v42)]⟩, ⟨0, (cGLine r31)⟩] [] 0 0) ∧ v62 = x33) ?_ ?_
            · refine PO.case (t := 58) rfl rfl (fun h35 => ?_) (fun h35 => ?_)
              · have e34 := bif_t h35 e34
                refine PO.run 4 rfl ?_
                refine PO.same rfl (pickT_ok rfl rfl rfl) rfl ?_
                refine PO.nil ?_
                obtain rfl := Option.some.inj e34
                exact ⟨true, Weak.one [0, 1, 2, 3] [] (by kernel_rfl), rfl⟩
              · have e34 := bif_f h35 e34
                refine PO.run 4 rfl ?_
                refine PO.same rfl (pickF_ok rfl rfl rfl) rfl ?_
                refine PO.nil ?_
                obtain rfl := Option.some.inj e34
                exact ⟨decide (r31.bad > a2), Weak.one [0, 1, 2, 3] [] (by kernel_rfl), rfl⟩
            · rintro _ ⟨v62, w36, rfl⟩
              refine PO.weak w36 ?_
              refine PO.nil ?_
              refine Exists.elim (bind_some e25) (fun x37 hq => ?_)
              have e38 := hq.1
              have e25 := hq.2
              clear hq
              refine PC.join (fun s => ∃ (v63 : Int), Weak s (PS.of 82 [(0, .list 13 (List.map cGItem a0) none), (1, .val (.int .i64 a1)), (2, .val (.int .i64 a2)), (3, .list 1 (List.map cI_i64 a3) none), (8, .ptr 0 0), (9, .val (.int .i64 0)), (10, .ptr 1 0), (11, .ptr 2 0), (12, .val (.int .i64 v25)), (13, .val (.int .i64 v26)), (14, .ptr 3 0)] [⟨0, [.val (.int .i64 0), .val (.int .i64 0), .val (.int .i64 0)]⟩, ⟨0, [.val (.int .i64 v63), .val (.int .i64 v28), .val (.int .i64 (a3.length : Int))]⟩, ⟨0, [.val (.int .i64 v29), .val (.int .i64 v30), .val (.int .i64 v31), .val (.int .i64 v32), .val (.int .i64 v33), .val (.int .i64 v34), .val (.int .i64 v35), .val (.int .i64 v36), .val (.int .i64 v37), .val (.bool v38), .val (.bool v39), .val (.bool v40), .val (.int .i64 v41), .val (.int .i64 v42)]⟩, ⟨0, (cGLine r31)⟩] [] 0 0) ∧ v63 = x37) ?_ ?_
              · refine PC.cond rfl (fun h39 => ?_) (fun h39 => ?_)
                · have e38 := bif_t h39 e38
                  refine PC.region ?_
                  refine PO.runK 5 [0, 1, 2, 3] [] (es := [(0, .list 13 (List.map cGItem a0) none), (1, .val (.int .i64 a1)), (2, .val (.int .i64 a2)), (3, .list 1 (List.map cI_i64 a3) none), (8, .ptr 0 0), (9, .val (.int .i64 0)), (10, .ptr 1 0), (11, .ptr 2 0), (12, .val (.int .i64 v25)), (13, .val (.int .i64 v26)), (14, .ptr 3 0)]) (fr' := [⟨0, [.val (.int .i64 0), .val (.int .i64 0), .val (.int .i64 0)]⟩, ⟨0, [.val (.int .i64 (w (v27 + 1))), .val (.int .i64 v28), .val (.int .i64 (a3.length : Int))]⟩, ⟨0, [.val (.int .i64 v29), .val (.int .i64 v30), .val (.int .i64 v31), .val (.int .i64 v32), .val (.int .i64 v33), .val (.int .i64 v34), .val (.int .i64 v35), .val (.int .i64 v36), .val (.int .i64 v37), .val (.bool v38), .val (.bool v39), .val (.bool v40), .val (.int .i64 v41), .val (.int .i64 v42)]⟩, ⟨0, (cGLine r31)⟩]) (tk' := []) (by kernel_rfl) ?_
                  refine PO.nil ?_
                  obtain rfl := Option.some.inj e38
                  exact PC.skip (joinKP.end ⟨w (v27 + 1), Weak.one [0, 1, 2, 3] [] (by kernel_rfl), rfl⟩)
                · have e38 := bif_f h39 e38
                  refine PC.noop ?_
                  obtain rfl := Option.some.inj e38
                  exact PC.skip (joinKP.end ⟨v27, Weak.one [0, 1, 2, 3] [] (by kernel_rfl), rfl⟩)
              · rintro _ ⟨v63, w40, rfl⟩
                refine PC.weak w40 ?_
                refine PC.draw [2, 3, 4, 5, 0, 1, 6, 7, 8] (by kernel_rfl) ?_
                refine PD.runK 3 (js' := [5, 0, 1, 6, 7, 8]) (σ' := ⟨28, 0, 0, []⟩) (es := [(0, .list 13 (List.map cGItem a0) none), (1, .val (.int .i64 a1)), (2, .val (.int .i64 a2)), (3, .list 1 (List.map cI_i64 a3) none), (8, .ptr 0 0), (9, .val (.int .i64 0)), (10, .ptr 1 0), (11, .ptr 2 0), (12, .val (.int .i64 v25)), (13, .val (.int .i64 v26)), (14, .ptr 3 0), (70, .list 13 (List.map cGItem a0) none), (71, .agg [.val (.int .i64 v29), .val (.int .i64 v30), .val (.int .i64 v31), .val (.int .i64 v32), .val (.int .i64 v33), .val (.int .i64 v34), .val (.int .i64 v35), .val (.int .i64 v36), .val (.int .i64 v37), .val (.bool v38), .val (.bool v39), .val (.bool v40), .val (.int .i64 v41), .val (.int .i64 v42)]), (72, .agg (cGLine r31))]) (fr' := [⟨0, [.val (.int .i64 0), .val (.int .i64 0), .val (.int .i64 0)]⟩, ⟨0, [.val (.int .i64 v63), .val (.int .i64 v28), .val (.int .i64 (a3.length : Int))]⟩, ⟨0, [.val (.int .i64 v29), .val (.int .i64 v30), .val (.int .i64 v31), .val (.int .i64 v32), .val (.int .i64 v33), .val (.int .i64 v34), .val (.int .i64 v35), .val (.int .i64 v36), .val (.int .i64 v37), .val (.bool v38), .val (.bool v39), .val (.bool v40), .val (.int .i64 v41), .val (.int .i64 v42)]⟩, ⟨0, (cGLine r31)⟩]) (tk' := []) (by kernel_rfl) ?_
                refine Exists.elim (bind_some e25) (fun r41 hq => ?_)
                have e42 := hq.1
                have e25 := hq.2
                clear hq
                refine PD.call rfl rfl (by kernel_rfl) rfl rfl rfl (ks := []) (ts := []) (fr1 := []) rfl rfl rfl trivial (L37 k a0 (GLine.mk v29 v30 v31 v32 v33 v34 v35 v36 v37 v38 v39 v40 v41 v42) r31 _ e42) ?_
                rintro _ _ _ ⟨rfl, rfl, rfl⟩
                refine ⟨_, _, rfl, rfl, ?_⟩
                refine PD.runK 5 (js' := []) (σ' := ⟨511, 511, 255, [(8, [1], false), (5, [1], true)]⟩) (es := [(0, .list 13 (List.map cGItem a0) none), (1, .val (.int .i64 a1)), (2, .val (.int .i64 a2)), (3, .list 1 (List.map cI_i64 a3) none), (8, .ptr 0 0), (9, .val (.int .i64 0)), (10, .ptr 1 0), (11, .ptr 2 0), (12, .val (.int .i64 v25)), (13, .val (.int .i64 v26)), (14, .ptr 3 0)]) (fr' := [⟨0, [.val (.int .i64 0), .val (.int .i64 0), .val (.int .i64 0)]⟩, ⟨0, [.val (.int .i64 v63), .val (.int .i64 (w (v28 + r41))), .val (.int .i64 (a3.length : Int))]⟩, ⟨0, [.val (.int .i64 v29), .val (.int .i64 v30), .val (.int .i64 v31), .val (.int .i64 v32), .val (.int .i64 v33), .val (.int .i64 v34), .val (.int .i64 v35), .val (.int .i64 v36), .val (.int .i64 v37), .val (.bool v38), .val (.bool v39), .val (.bool v40), .val (.int .i64 v41), .val (.int .i64 v42)]⟩, ⟨0, (cGLine r31)⟩]) (tk' := []) (by kernel_rfl) ?_
                refine PD.done [0, 1, 2, 3] [] (es := [(0, .list 13 (List.map cGItem a0) none), (1, .val (.int .i64 a1)), (2, .val (.int .i64 a2)), (3, .list 1 (List.map cI_i64 a3) none), (8, .ptr 0 0), (9, .val (.int .i64 0)), (10, .ptr 1 0), (11, .ptr 2 0), (12, .val (.int .i64 v25)), (13, .val (.int .i64 v26)), (14, .ptr 3 0)]) (fr' := [⟨0, [.val (.int .i64 0), .val (.int .i64 0), .val (.int .i64 0)]⟩, ⟨0, [.val (.int .i64 v63), .val (.int .i64 (w (v28 + r41))), .val (.int .i64 (a3.length : Int))]⟩, ⟨0, [.val (.int .i64 v29), .val (.int .i64 v30), .val (.int .i64 v31), .val (.int .i64 v32), .val (.int .i64 v33), .val (.int .i64 v34), .val (.int .i64 v35), .val (.int .i64 v36), .val (.int .i64 v37), .val (.bool v38), .val (.bool v39), .val (.bool v40), .val (.int .i64 v41), .val (.int .i64 v42)]⟩, ⟨0, (cGLine r31)⟩]) (tk' := []) (by kernel_rfl) (by kernel_rfl) ?_
                refine PC.region ?_
                refine PO.runK 2 [0, 1, 2] [] (es := [(0, .list 13 (List.map cGItem a0) none), (1, .val (.int .i64 a1)), (2, .val (.int .i64 a2)), (3, .list 1 (List.map cI_i64 a3) none), (8, .ptr 0 0), (9, .val (.int .i64 0)), (10, .ptr 1 0), (11, .ptr 2 0), (12, .val (.int .i64 v25)), (13, .val (.int .i64 v26))]) (fr' := [⟨0, [.val (.int .i64 0), .val (.int .i64 0), .val (.int .i64 0)]⟩, ⟨0, [.val (.int .i64 v63), .val (.int .i64 (w (v28 + r41))), .val (.int .i64 (a3.length : Int))]⟩, ⟨0, (cGLine r31)⟩]) (tk' := []) (by kernel_rfl) ?_
                refine PO.nil ?_
                refine PC.lone ?_
                refine PC.region ?_
                refine PO.run 2 rfl ?_
                refine Exists.elim (bindI_some e25) (fun y64 hq => ?_)
                have h43 := hq.1
                have h44 := hq.2.1
                have e25 := hq.2.2
                clear hq
                refine PO.same rfl (indexAddr_ok Try.underlying43 rfl rfl rfl h43 (map_at h44)) rfl ?_
                refine PO.run 2 rfl ?_
                refine PO.nil ?_
                refine PC.skip (blockKP.end ?_)
                refine PC.lone ?_
                refine PC.run (n := 4) rfl ?_
                exact PC.skip (loopKP.mk (Nat.lt_succ_self _) ⟨y64, w (v26 + 1), v63, w (v28 + r41), r31.first, r31.last, r31.break_, r31.natural, r31.stretch, r31.shrink, r31.short, r31.bad, r31.class_, r31.over_, r31.hyphen, r31.end_, r31.height, r31.depth, Weak.one [0, 1, 2] [] (by kernel_rfl), e25⟩)
          · have e25 := bif_f h28 e25
            obtain rfl := Option.some.inj e25
            exact PC.exit (loopKP.exit (blockJK.here ⟨v27, v28, Weak.one [0, 1] [] (by kernel_rfl), rfl⟩))
      · rintro _ ⟨v5, v6, w45, rfl⟩
        refine PC.weak w45 ?_
        refine PC.region ?_
        refine PO.runK 3 [0] [] (es := [(8, .ptr 0 0), (9, .val (.int .i64 0))]) (fr' := [⟨0, [.val (.int .i64 v5), .val (.int .i64 v6), .val (.int .i64 (a3.length : Int))]⟩]) (tk' := []) (by kernel_rfl) ?_
        refine PO.nil ?_
        obtain rfl := Option.some.inj hF
        exact PC.ret' (retSK [] [] (by kernel_rfl) (.refl _) ⟨rfl, rfl, rfl⟩)

/-! 32 platen/platenlaw14.stays -/
def F32_l1 (k : Nat) (a0 : List GItem) (a1 : List GItem) : Nat → Int → Option ((Unit) ⊕ (Bool))
  | 0, _ => none
  | j10 + 1, v4 =>
    bif decide (v4 < (a1.length : Int)) then (bindI a0 v4 fun y6 =>
    bindI a1 v4 fun y7 =>
    bif !(y6.kind == y7.kind && (y6.font == y7.font && (y6.size == y7.size && (y6.rune == y7.rune && (y6.width == y7.width && (y6.height == y7.height && (y6.depth == y7.depth && (y6.stretch == y7.stretch && (y6.shrink == y7.shrink && (y6.value == y7.value && (y6.flag == y7.flag && (y6.from_ == y7.from_ && (y6.to_ == y7.to_ && true))))))))))))) then (some (.inr false)) else (F32_l1 k a0 a1 j10 (w (v4 + 1)))) else (some (.inl ()))
def F32 (k : Nat) (a0 : List GItem) (a1 : List GItem) : Option Bool :=
Option.bind (α := Bool) (bif (a0.length : Int) != (w ((a1.length : Int) + 1)) then (some true) else (bindI a0 (a1.length : Int) fun y2 =>
some (y2.kind != (-77)))) fun (v1 : Bool) =>
bif v1 then (some false) else (Option.bind (α := (Unit) ⊕ (Bool)) (F32_l1 k a0 a1 k 0) (Sum.elim (fun (_ : Unit) =>
some true) some))
theorem L32 (k : Nat) (a0 : List GItem) (a1 : List GItem) (r : Bool) (hF : F32 k a0 a1 = some r) : PF Try.prog orc 32 [.list 13 (List.map cGItem a0) none, .list 13 (List.map cGItem a1) none] [] [] (fun p fr tk => p = .val (.bool r) ∧ fr = [] ∧ tk = []) := by
  unfold F32 at hF
  refine PF.enterS Try.func32 rfl rfl rfl (by kernel_rfl) rfl ?_
  refine PC.run (n := 2) rfl ?_
  refine PC.assoc ?_
  refine PC.region ?_
  refine PO.run 1 rfl ?_
  refine PO.same rfl (len_ok Try.underlying42 rfl (List.length_map _)) rfl ?_
  refine PO.run 1 rfl ?_
  refine PO.same rfl (len_ok Try.underlying42 rfl (List.length_map _)) rfl ?_
  refine PO.run 3 rfl ?_
  refine Exists.elim (bind_some hF) (fun x1 hq => ?_)
  have e2 := hq.1
  have hF := hq.2
  clear hq
  refine PO.cut 8 (fun s => ∃ (v1 : Bool), Weak s (PS.of 36 [(0, .list 13 (List.map cGItem a0) none), (1, .list 13 (List.map cGItem a1) none), (4, .val (.bool false)), (20, .val (.bool v1))] [] [] 0 0) ∧ v1 = x1) ?_ ?_
  · refine PO.case (t := 12) rfl rfl (fun h3 => ?_) (fun h3 => ?_)
    · have e2 := bif_t h3 e2
      refine PO.run 7 rfl ?_
      refine PO.same rfl (pickT_ok rfl rfl rfl) rfl ?_
      refine PO.nil ?_
      obtain rfl := Option.some.inj e2
      exact ⟨true, Weak.one [] [] (by kernel_rfl), rfl⟩
    · have e2 := bif_f h3 e2
      refine PO.run 2 rfl ?_
      refine PO.same rfl (len_ok Try.underlying42 rfl (List.length_map _)) rfl ?_
      refine Exists.elim (bindI_some e2) (fun y2 hq => ?_)
      have h4 := hq.1
      have h5 := hq.2.1
      have e2 := hq.2.2
      clear hq
      refine PO.same rfl (indexAddr_ok Try.underlying42 rfl rfl rfl h4 (map_at h5)) rfl ?_
      refine PO.run 3 rfl ?_
      refine PO.same rfl (pickF_ok rfl rfl rfl) rfl ?_
      refine PO.nil ?_
      obtain rfl := Option.some.inj e2
      exact ⟨y2.kind != (-77), Weak.one [] [] (by kernel_rfl), rfl⟩
  · rintro _ ⟨v1, w6, rfl⟩
    refine PO.weak w6 ?_
    refine PO.nil ?_
    refine PC.cond rfl (fun h7 => ?_) (fun h7 => ?_)
    · have hF := bif_t h7 hF
      refine PC.assoc ?_
      refine PC.run (n := 2) rfl ?_
      obtain rfl := Option.some.inj hF
      exact PC.ret (retSK [] [] (by kernel_rfl) (.refl _) ⟨rfl, rfl, rfl⟩)
    · have hF := bif_f h7 hF
      refine PC.noop ?_
      refine PC.assoc ?_
      refine PC.run (n := 2) rfl ?_
      refine Exists.elim (bind_some hF) (fun x8 hq => ?_)
      have e9 := hq.1
      have hF := hq.2
      clear hq
      refine PC.blockJ (fun s => Weak s (PS.of 36 [(4, .val (.bool false))] [] [] 0 0) ∧ .inl () = x8) ?_ ?_
      · refine PC.loop (fun j10 s => ∃ (v4 : Int), Weak s (PS.of 36 [(0, .list 13 (List.map cGItem a0) none), (1, .list 13 (List.map cGItem a1) none), (4, .val (.bool false)), (5, .val (.int .i64 v4))] [] [] 0 0) ∧ F32_l1 k a0 a1 j10 v4 = some x8) (fun j10 s => ?_) k ⟨0, Weak.one [] [] (by kernel_rfl), e9⟩
        rintro ⟨v4, w11, e9⟩
        refine PC.weak w11 ?_
        cases j10 with
        | zero => rw [F32_l1] at e9; cases e9
        | succ j10 =>
          rw [F32_l1] at e9
          refine PC.assoc ?_
          refine PC.region ?_
          refine PO.run 2 rfl ?_
          refine PO.same rfl (len_ok Try.underlying42 rfl (List.length_map _)) rfl ?_
          refine PO.run 1 rfl ?_
          refine PO.nil ?_
          refine PC.cond rfl (fun h12 => ?_) (fun h12 => ?_)
          · have e9 := bif_t h12 e9
            refine PC.noop ?_
            refine PC.block ?_
            refine PC.drawn (order := [0, 1, 2, 3, 4, 5, 6, 7, 8]) (by kernel_rfl) ?_
            refine PO.run 2 rfl ?_
            refine Exists.elim (bindI_some e9) (fun y6 hq => ?_)
            have h13 := hq.1
            have h14 := hq.2.1
            have e9 := hq.2.2
            clear hq
            refine PO.same rfl (indexAddr_ok Try.underlying42 rfl rfl rfl h13 (map_at h14)) rfl ?_
            refine PO.run 3 rfl ?_
            refine Exists.elim (bindI_some e9) (fun y7 hq => ?_)
            have h15 := hq.1
            have h16 := hq.2.1
            have e9 := hq.2.2
            clear hq
            refine PO.same rfl (indexAddr_ok Try.underlying42 rfl rfl rfl h15 (map_at h16)) rfl ?_
            refine PO.run 1 rfl ?_
            refine PO.same rfl (aggEq_ok (v := .bool (!(y6.kind == y7.kind && (y6.font == y7.font && (y6.size == y7.size && (y6.rune == y7.rune && (y6.width == y7.width && (y6.height == y7.height && (y6.depth == y7.depth && (y6.stretch == y7.stretch && (y6.shrink == y7.shrink && (y6.value == y7.value && (y6.flag == y7.flag && (y6.from_ == y7.from_ && (y6.to_ == y7.to_ && true))))))))))))))) rfl rfl rfl rfl rfl rfl rfl (by kernel_rfl)) rfl ?_
            refine PO.nil ?_
            refine PC.lone ?_
            refine PC.cond rfl (fun h17 => ?_) (fun h17 => ?_)
            · have e9 := bif_t h17 e9
              refine PC.assoc ?_
              refine PC.run (n := 2) rfl ?_
              obtain rfl := Option.some.inj e9
              obtain rfl := Option.some.inj hF
              exact PC.ret (blockKP.back (loopKP.ret (blockJK.back (retSK [] [] (by kernel_rfl) (.refl _) ⟨rfl, rfl, rfl⟩))))
            · have e9 := bif_f h17 e9
              refine PC.noop ?_
              refine PC.skip (blockKP.end ?_)
              refine PC.lone ?_
              refine PC.run (n := 4) rfl ?_
              exact PC.skip (loopKP.mk (Nat.lt_succ_self _) ⟨w (v4 + 1), Weak.one [] [] (by kernel_rfl), e9⟩)
          · have e9 := bif_f h12 e9
            obtain rfl := Option.some.inj e9
            exact PC.exit (loopKP.exit (blockJK.here ⟨Weak.one [] [] (by kernel_rfl), rfl⟩))
      · rintro _ ⟨w18, rfl⟩
        refine PC.weak w18 ?_
        have hF := elim_l hF
        refine PC.run (n := 2) rfl ?_
        obtain rfl := Option.some.inj hF
        exact PC.ret' (retSK [] [] (by kernel_rfl) (.refl _) ⟨rfl, rfl, rfl⟩)

/-! 11 platen/platenlaw14.LineWays -/
def F11_l1 (k : Nat) (a3 : List Int) (l2 : List Int) : Nat → Bool → Int → Option Bool
  | 0, _, _ => none
  | j23 + 1, v9, v10 =>
    bif decide (v10 < (a3.length : Int)) then (Option.bind (α := Bool) (bif v9 then (bindI l2 v10 fun y14 =>
    bindI a3 v10 fun y15 =>
    some (y14 == y15)) else (some false)) fun (v13 : Bool) =>
    F11_l1 k a3 l2 j23 v13 (w (v10 + 1))) else (some v9)
def F11 (k : Nat) (a0 : List GItem) (a1 : Int) (a2 : Int) (a3 : List Int) : Option Bool :=
(F27 k a0).bind fun r1 =>
bif r1 then (some true) else ((F29 k a0).bind fun r5 =>
bindA 8 ([] : List Int) a3 fun l1 =>
bindA 8 l1 ([(-77)]) fun l2 =>
bindS r5 0 (a0.length : Int) fun l3 =>
bindS l2 0 (a3.length : Int) fun l4 =>
(F38 k l3 a1 a2 l4).bind fun r15 =>
(F39 k a0 a1 a2 a3).bind fun r17 =>
bindI l2 (a3.length : Int) fun y5 =>
Option.bind (α := Bool) (F11_l1 k a3 l2 k (y5 == (-77)) 0) fun (v6 : Bool) =>
Option.bind (α := Bool) (bif v6 then (Option.bind (α := Bool) (bif (r15.1.bad == r17.1.bad && (r15.1.total == r17.1.total && (r15.1.lines == r17.1.lines && true))) then (Option.bind (α := Bool) (bif r15.2 == r17.2 then ((F32 k r5 a0).bind fun r44 =>
some r44) else (some false)) fun (v18 : Bool) =>
some v18) else (some false)) fun (v17 : Bool) =>
some v17) else (some false)) fun (v16 : Bool) =>
some v16)
theorem L11 (k : Nat) (a0 : List GItem) (a1 : Int) (a2 : Int) (a3 : List Int) (r : Bool) (hF : F11 k a0 a1 a2 a3 = some r) : PF Try.prog orc 11 [.list 13 (List.map cGItem a0) none, .val (.int .i64 a1), .val (.int .i64 a2), .list 1 (List.map cI_i64 a3) none] [] [] (fun p fr tk => p = .val (.bool r) ∧ fr = [] ∧ tk = []) := by
  unfold F11 at hF
  refine PF.enterS Try.func11 rfl rfl rfl (by kernel_rfl) rfl ?_
  refine PC.run (n := 2) rfl ?_
  refine PC.assoc ?_
  refine PC.region ?_
  refine PO.run 1 rfl ?_
  refine Exists.elim (bind_some hF) (fun r1 hq => ?_)
  have e2 := hq.1
  have hF := hq.2
  clear hq
  refine PO.call rfl rfl rfl rfl (ks := []) (ts := []) (fr1 := []) rfl rfl rfl trivial (L27 k a0 _ e2) ?_
  rintro _ _ _ ⟨rfl, rfl, rfl⟩
  refine ⟨_, _, rfl, rfl, ?_⟩
  refine PO.nil ?_
  refine PC.cond rfl (fun h3 => ?_) (fun h3 => ?_)
  · have hF := bif_t h3 hF
    refine PC.assoc ?_
    refine PC.run (n := 2) rfl ?_
    obtain rfl := Option.some.inj hF
    exact PC.ret (retSK [] [] (by kernel_rfl) (.refl _) ⟨rfl, rfl, rfl⟩)
  · have hF := bif_f h3 hF
    refine PC.noop ?_
    refine PC.assoc ?_
    refine PC.region ?_
    refine PO.call rfl rfl rfl rfl (ks := []) (ts := []) (fr1 := []) rfl rfl rfl trivial K28 ?_
    rintro _ _ _ ⟨rfl, rfl, rfl⟩
    refine ⟨_, _, rfl, rfl, ?_⟩
    refine PO.run 1 rfl ?_
    refine PO.nil ?_
    refine PC.cond rfl (fun h4 => Bool.noConfusion h4) (fun _ => ?_)
    refine PC.noop ?_
    refine PC.region ?_
    refine PO.run 1 rfl ?_
    refine Exists.elim (bind_some hF) (fun r5 hq => ?_)
    have e6 := hq.1
    have hF := hq.2
    clear hq
    refine PO.call rfl rfl rfl rfl (ks := []) (ts := []) (fr1 := []) rfl rfl rfl trivial (L29 k a0 _ e6) ?_
    rintro _ _ _ ⟨rfl, rfl, rfl⟩
    refine ⟨_, _, rfl, rfl, ?_⟩
    refine PO.run 1 rfl ?_
    refine PO.nil ?_
    refine PC.region ?_
    refine PO.runK 2 [] [0] (es := [(0, .list 13 (List.map cGItem a0) none), (1, .val (.int .i64 a1)), (2, .val (.int .i64 a2)), (3, .list 1 (List.map cI_i64 a3) none), (8, .val (.bool false)), (9, .list 13 (List.map cGItem r5) none), (10, .list 1 (List.map cI_i64 ([] : List Int)) (some 0))]) (fr' := []) (tk' := [0]) (by kernel_rfl) ?_
    refine PO.nil ?_
    refine PC.region ?_
    refine PO.run 2 rfl ?_
    have hq := bindA_some hF
    have h7 := hq.1
    have hF := hq.2
    clear hq
    generalize hgl1 : ([] : List Int) ++ a3 = l1 at hF
    refine PO.one rfl (append_typed (L := ([] : List Int)) (M := a3) (f := cI_i64) (sz := 1) (bytes := 8) Try.underlying43 rfl rfl rfl rfl rfl rfl rfl rfl rfl rfl rfl rfl h7 hgl1) rfl ?_
    refine PO.run 1 rfl ?_
    refine PO.nil ?_
    refine PC.region ?_
    refine PO.runK 2 [] [0, 1] (es := [(0, .list 13 (List.map cGItem a0) none), (1, .val (.int .i64 a1)), (2, .val (.int .i64 a2)), (3, .list 1 (List.map cI_i64 a3) none), (8, .val (.bool false)), (9, .list 13 (List.map cGItem r5) none), (10, .list 1 (List.map cI_i64 l1) (some 0)), (27, .list 1 (List.map cI_i64 l1) (some 0)), (28, .list 1 (List.map cI_i64 ([(-77)])) (some 1))]) (fr' := []) (tk' := [l1.length, 1]) (by kernel_rfl) ?_
    have hq := bindA_some hF
    have h8 := hq.1
    have hF := hq.2
    clear hq
    generalize hgl2 : l1 ++ ([(-77)]) = l2 at hF
    refine PO.one rfl (append_typed (L := l1) (M := [(-77)]) (f := cI_i64) (sz := 1) (bytes := 8) Try.underlying43 rfl rfl rfl rfl rfl rfl rfl rfl rfl rfl rfl rfl h8 hgl2) rfl ?_
    refine PO.run 1 rfl ?_
    refine PO.nil ?_
    refine PC.draw [0, 1, 2, 3, 4, 5, 6, 7, 8, 9, 10, 11, 12, 14, 15, 13, 16] (by kernel_rfl) ?_
    refine PD.runK 2 (js' := [2, 3, 4, 5, 6, 7, 8, 9, 10, 11, 12, 14, 15, 13, 16]) (σ' := ⟨3, 0, 0, []⟩) (es := [(0, .list 13 (List.map cGItem a0) none), (1, .val (.int .i64 a1)), (2, .val (.int .i64 a2)), (3, .list 1 (List.map cI_i64 a3) none), (8, .val (.bool false)), (9, .list 13 (List.map cGItem r5) none), (10, .list 1 (List.map cI_i64 l2) (some 0)), (31, .list 13 (List.map cGItem r5) none), (32, .list 13 (List.map cGItem a0) none)]) (fr' := []) (tk' := [l2.length, 1]) (by kernel_rfl) ?_
    refine PD.pureS rfl (by kernel_rfl) rfl (len_ok Try.underlying42 rfl (List.length_map _)) rfl ?_
    have hq := bindS_some hF
    have h9 := hq.1
    have h10 := hq.2.1
    have h11 := hq.2.2.1
    have hF := hq.2.2.2
    clear hq
    generalize hgl3 : (List.take (Int.toNat (a0.length : Int)) r5).drop (Int.toNat 0) = l3 at hF
    refine PD.readS rfl (by kernel_rfl) rfl (slice_ok (l2 := List.map cGItem l3) Try.underlying42 rfl rfl .none (.some rfl (Int.le_trans h9 h10) rfl) (Int.toNat_le_toNat h10) (toNat_le1 h11) (by rw [← hgl3, List.map_drop, List.map_take] <;> first | rfl | simp [w])) rfl ?_
    refine PD.runK 4 (js' := [8, 9, 10, 11, 12, 14, 15, 13, 16]) (σ' := ⟨255, 0, 0, []⟩) (es := [(0, .list 13 (List.map cGItem a0) none), (1, .val (.int .i64 a1)), (2, .val (.int .i64 a2)), (3, .list 1 (List.map cI_i64 a3) none), (8, .val (.bool false)), (9, .list 13 (List.map cGItem r5) none), (10, .list 1 (List.map cI_i64 l2) (some 0)), (34, .list 13 (List.map cGItem l3) none), (35, .val (.int .i64 a1)), (36, .val (.int .i64 a2)), (37, .list 1 (List.map cI_i64 l2) (some 0)), (38, .list 1 (List.map cI_i64 a3) none)]) (fr' := []) (tk' := [l2.length, 1]) (by kernel_rfl) ?_
    refine PD.pureS rfl (by kernel_rfl) rfl (len_ok Try.underlying43 rfl (List.length_map _)) rfl ?_
    have hq := bindS_some hF
    have h12 := hq.1
    have h13 := hq.2.1
    have h14 := hq.2.2.1
    have hF := hq.2.2.2
    clear hq
    generalize hgl4 : (List.take (Int.toNat (a3.length : Int)) l2).drop (Int.toNat 0) = l4 at hF
    refine PD.readS rfl (by kernel_rfl) rfl (slice_ok (l2 := List.map cI_i64 l4) Try.underlying43 rfl rfl .none (.some rfl (Int.le_trans h12 h13) rfl) (Int.toNat_le_toNat h13) (toNat_le1 h14) (by rw [← hgl4, List.map_drop, List.map_take] <;> first | rfl | simp [w])) rfl ?_
    refine Exists.elim (bind_some hF) (fun r15 hq => ?_)
    have e16 := hq.1
    have hF := hq.2
    clear hq
    refine PD.call rfl rfl (by kernel_rfl) rfl rfl rfl (ks := []) (ts := []) (fr1 := []) rfl rfl rfl trivial (L38 k l3 a1 a2 l4 _ e16) ?_
    rintro _ _ _ ⟨rfl, rfl, rfl⟩
    refine ⟨_, _, rfl, rfl, ?_⟩
    refine PD.runK 6 (js' := []) (σ' := ⟨131071, 57343, 24575, [(15, [0], false), (10, [0], true)]⟩) (es := [(0, .list 13 (List.map cGItem a0) none), (1, .val (.int .i64 a1)), (2, .val (.int .i64 a2)), (3, .list 1 (List.map cI_i64 a3) none), (8, .val (.bool false)), (9, .list 13 (List.map cGItem r5) none), (10, .list 1 (List.map cI_i64 l2) (some 0)), (11, .ptr 0 0), (12, .val (.int .i64 r15.2))]) (fr' := [⟨0, (cGCost r15.1)⟩]) (tk' := [l2.length, 1]) (by kernel_rfl) ?_
    refine PD.done [0] [0] (es := [(0, .list 13 (List.map cGItem a0) none), (1, .val (.int .i64 a1)), (2, .val (.int .i64 a2)), (3, .list 1 (List.map cI_i64 a3) none), (8, .val (.bool false)), (9, .list 13 (List.map cGItem r5) none), (10, .list 1 (List.map cI_i64 l2) (some 0)), (11, .ptr 0 0), (12, .val (.int .i64 r15.2))]) (fr' := [⟨0, (cGCost r15.1)⟩]) (tk' := [l2.length]) (by kernel_rfl) (by kernel_rfl) ?_
    refine PC.region ?_
    refine PO.run 4 rfl ?_
    refine Exists.elim (bind_some hF) (fun r17 hq => ?_)
    have e18 := hq.1
    have hF := hq.2
    clear hq
    refine PO.call rfl rfl rfl rfl (ks := []) (ts := []) (fr1 := []) rfl rfl rfl trivial (L39 k a0 a1 a2 a3 _ e18) ?_
    rintro _ _ _ ⟨rfl, rfl, rfl⟩
    refine ⟨_, _, rfl, rfl, ?_⟩
    refine PO.runK 6 [0, 1] [0] (es := [(0, .list 13 (List.map cGItem a0) none), (3, .list 1 (List.map cI_i64 a3) none), (8, .val (.bool false)), (9, .list 13 (List.map cGItem r5) none), (10, .list 1 (List.map cI_i64 l2) (some 0)), (11, .ptr 0 0), (12, .val (.int .i64 r15.2)), (13, .ptr 1 0), (14, .val (.int .i64 r17.2))]) (fr' := [⟨0, (cGCost r15.1)⟩, ⟨0, (cGCost r17.1)⟩]) (tk' := [l2.length]) (by kernel_rfl) ?_
    refine PO.nil ?_
    refine PC.region ?_
    refine PO.run 2 rfl ?_
    refine PO.same rfl (len_ok Try.underlying43 rfl (List.length_map _)) rfl ?_
    refine PO.runK 0 [0, 1] [0] (es := [(0, .list 13 (List.map cGItem a0) none), (3, .list 1 (List.map cI_i64 a3) none), (8, .val (.bool false)), (9, .list 13 (List.map cGItem r5) none), (10, .list 1 (List.map cI_i64 l2) (some 0)), (11, .ptr 0 0), (12, .val (.int .i64 r15.2)), (13, .ptr 1 0), (14, .val (.int .i64 r17.2)), (52, .list 1 (List.map cI_i64 l2) (some 0)), (54, .val (.int .i64 (a3.length : Int)))]) (fr' := [⟨0, (cGCost r15.1)⟩, ⟨0, (cGCost r17.1)⟩]) (tk' := [l2.length]) (by kernel_rfl) ?_
    refine Exists.elim (bindI_some hF) (fun y5 hq => ?_)
    have h19 := hq.1
    have h20 := hq.2.1
    have hF := hq.2.2
    clear hq
    refine PO.same rfl (indexAddr_ok Try.underlying43 rfl rfl rfl h19 (map_at h20)) rfl ?_
    refine PO.run 3 rfl ?_
    refine PO.nil ?_
    refine PC.assoc ?_
    refine PC.run (n := 2) rfl ?_
    refine Exists.elim (bind_some hF) (fun x21 hq => ?_)
    have e22 := hq.1
    have hF := hq.2
    clear hq
    refine PC.blockJ (fun s => ∃ (v6 : Bool), Weak s (PS.of 92 [(0, .list 13 (List.map cGItem a0) none), (8, .val (.bool false)), (9, .list 13 (List.map cGItem r5) none), (11, .ptr 0 0), (12, .val (.int .i64 r15.2)), (13, .ptr 1 0), (14, .val (.int .i64 r17.2)), (15, .val (.bool v6))] [⟨0, (cGCost r15.1)⟩, ⟨0, (cGCost r17.1)⟩] [] 0 0) ∧ v6 = x21) ?_ ?_
    · refine PC.loop (fun j23 s => ∃ (v9 : Bool) (v10 : Int), Weak s (PS.of 92 [(0, .list 13 (List.map cGItem a0) none), (3, .list 1 (List.map cI_i64 a3) none), (8, .val (.bool false)), (9, .list 13 (List.map cGItem r5) none), (10, .list 1 (List.map cI_i64 l2) (some 0)), (11, .ptr 0 0), (12, .val (.int .i64 r15.2)), (13, .ptr 1 0), (14, .val (.int .i64 r17.2)), (15, .val (.bool v9)), (16, .val (.int .i64 v10))] [⟨0, (cGCost r15.1)⟩, ⟨0, (cGCost r17.1)⟩] [l2.length] 0 0) ∧ F11_l1 k a3 l2 j23 v9 v10 = some x21) (fun j23 s => ?_) k ⟨y5 == (-77), 0, Weak.one [0, 1] [0] (by kernel_rfl), e22⟩
      rintro ⟨v9, v10, w24, e22⟩
      refine PC.weak w24 ?_
      cases j23 with
      | zero => rw [F11_l1] at e22; cases e22
      | succ j23 =>
        rw [F11_l1] at e22
        refine PC.assoc ?_
        refine PC.region ?_
        refine PO.run 2 rfl ?_
        refine PO.same rfl (len_ok Try.underlying43 rfl (List.length_map _)) rfl ?_
        refine PO.run 1 rfl ?_
        refine PO.nil ?_
        refine PC.cond rfl (fun h25 => ?_) (fun h25 => ?_)
        · have e22 := bif_t h25 e22
          refine PC.noop ?_
          refine PC.block ?_
          refine PC.lone ?_
          refine PC.drawn (order := [0, 1, 2, 3, 4, 5, 6, 7, 8, 9, 10, 11, 12]) (by kernel_rfl) ?_
          refine PO.run 2 rfl ?_
          refine Exists.elim (bind_some e22) (fun x26 hq => ?_)
          have e27 := hq.1
          have e22 := hq.2
          clear hq
          refine PO.cut 10 (fun s => ∃ (v13 : Bool), Weak s (PS.of 92 [(0, .list 13 (List.map cGItem a0) none), (3, .list 1 (List.map cI_i64 a3) none), (8, .val (.bool false)), (9, .list 13 (List.map cGItem r5) none), (10, .list 1 (List.map cI_i64 l2) (some 0)), (11, .ptr 0 0), (12, .val (.int .i64 r15.2)), (13, .ptr 1 0), (14, .val (.int .i64 r17.2)), (15, .val (.bool v9)), (16, .val (.int .i64 v10)), (75, .val (.bool v13))] [⟨0, (cGCost r15.1)⟩, ⟨0, (cGCost r17.1)⟩] [l2.length] 0 0) ∧ v13 = x26) ?_ ?_
          · refine PO.case (t := 65) rfl rfl (fun h28 => ?_) (fun h28 => ?_)
            · have e27 := bif_t h28 e27
              refine PO.runK 2 [0, 1] [0] (es := [(0, .list 13 (List.map cGItem a0) none), (3, .list 1 (List.map cI_i64 a3) none), (8, .val (.bool false)), (9, .list 13 (List.map cGItem r5) none), (10, .list 1 (List.map cI_i64 l2) (some 0)), (11, .ptr 0 0), (12, .val (.int .i64 r15.2)), (13, .ptr 1 0), (14, .val (.int .i64 r17.2)), (15, .val (.bool v9)), (16, .val (.int .i64 v10)), (65, .val (.bool true)), (66, .list 1 (List.map cI_i64 l2) (some 0)), (67, .val (.int .i64 v10))]) (fr' := [⟨0, (cGCost r15.1)⟩, ⟨0, (cGCost r17.1)⟩]) (tk' := [l2.length]) (by kernel_rfl) ?_
              refine Exists.elim (bindI_some e27) (fun y14 hq => ?_)
              have h29 := hq.1
              have h30 := hq.2.1
              have e27 := hq.2.2
              clear hq
              refine PO.same rfl (indexAddr_ok Try.underlying43 rfl rfl rfl h29 (map_at h30)) rfl ?_
              refine PO.runK 3 [0, 1] [0] (es := [(0, .list 13 (List.map cGItem a0) none), (3, .list 1 (List.map cI_i64 a3) none), (8, .val (.bool false)), (9, .list 13 (List.map cGItem r5) none), (10, .list 1 (List.map cI_i64 l2) (some 0)), (11, .ptr 0 0), (12, .val (.int .i64 r15.2)), (13, .ptr 1 0), (14, .val (.int .i64 r17.2)), (15, .val (.bool v9)), (16, .val (.int .i64 v10)), (65, .val (.bool true)), (69, .val (.int .i64 y14)), (70, .list 1 (List.map cI_i64 a3) none), (71, .val (.int .i64 v10))]) (fr' := [⟨0, (cGCost r15.1)⟩, ⟨0, (cGCost r17.1)⟩]) (tk' := [l2.length]) (by kernel_rfl) ?_
              refine Exists.elim (bindI_some e27) (fun y15 hq => ?_)
              have h31 := hq.1
              have h32 := hq.2.1
              have e27 := hq.2.2
              clear hq
              refine PO.same rfl (indexAddr_ok Try.underlying43 rfl rfl rfl h31 (map_at h32)) rfl ?_
              refine PO.run 2 rfl ?_
              refine PO.same rfl (pickT_ok rfl rfl rfl) rfl ?_
              refine PO.nil ?_
              obtain rfl := Option.some.inj e27
              exact ⟨y14 == y15, Weak.one [0, 1] [0] (by kernel_rfl), rfl⟩
            · have e27 := bif_f h28 e27
              refine PO.run 9 rfl ?_
              refine PO.same rfl (pickF_ok rfl rfl rfl) rfl ?_
              refine PO.nil ?_
              obtain rfl := Option.some.inj e27
              exact ⟨false, Weak.one [0, 1] [0] (by kernel_rfl), rfl⟩
          · rintro _ ⟨v13, w33, rfl⟩
            refine PO.weak w33 ?_
            refine PO.run 1 rfl ?_
            refine PO.nil ?_
            refine PC.skip (blockKP.end ?_)
            refine PC.lone ?_
            refine PC.run (n := 4) rfl ?_
            exact PC.skip (loopKP.mk (Nat.lt_succ_self _) ⟨v13, w (v10 + 1), Weak.one [0, 1] [0] (by kernel_rfl), e22⟩)
        · have e22 := bif_f h25 e22
          obtain rfl := Option.some.inj e22
          exact PC.exit (loopKP.exit (blockJK.here ⟨v9, Weak.one [0, 1] [] (by kernel_rfl), rfl⟩))
    · rintro _ ⟨v6, w34, rfl⟩
      refine PC.weak w34 ?_
      refine PC.region ?_
      refine PO.run 2 rfl ?_
      refine Exists.elim (bind_some hF) (fun x35 hq => ?_)
      have e36 := hq.1
      have hF := hq.2
      clear hq
      refine PO.cut 14 (fun s => ∃ (v16 : Bool), Weak s (PS.of 92 [(8, .val (.bool false)), (91, .val (.bool v16))] [] [] 0 0) ∧ v16 = x35) ?_ ?_
      · refine PO.case (t := 77) rfl rfl (fun h37 => ?_) (fun h37 => ?_)
        · have e36 := bif_t h37 e36
          refine PO.run 2 rfl ?_
          refine PO.same rfl (aggEq_ok (v := .bool (r15.1.bad == r17.1.bad && (r15.1.total == r17.1.total && (r15.1.lines == r17.1.lines && true)))) rfl rfl rfl rfl rfl rfl rfl (by kernel_rfl)) rfl ?_
          refine PO.same rfl (pickT_ok rfl rfl rfl) rfl ?_
          refine PO.run 1 rfl ?_
          refine Exists.elim (bind_some e36) (fun x38 hq => ?_)
          have e39 := hq.1
          have e36 := hq.2
          clear hq
          refine PO.cut 9 (fun s => ∃ (v17 : Bool), Weak s (PS.of 92 [(8, .val (.bool false)), (91, .val (.bool v17))] [] [] 0 0) ∧ v17 = x38) ?_ ?_
          · refine PO.case (t := 82) rfl rfl (fun h40 => ?_) (fun h40 => ?_)
            · have e39 := bif_t h40 e39
              refine PO.run 3 rfl ?_
              refine PO.same rfl (pickT_ok rfl rfl rfl) rfl ?_
              refine PO.run 1 rfl ?_
              refine Exists.elim (bind_some e39) (fun x41 hq => ?_)
              have e42 := hq.1
              have e39 := hq.2
              clear hq
              refine PO.cut 4 (fun s => ∃ (v18 : Bool), Weak s (PS.of 92 [(8, .val (.bool false)), (91, .val (.bool v18))] [] [] 0 0) ∧ v18 = x41) ?_ ?_
              · refine PO.case (t := 87) rfl rfl (fun h43 => ?_) (fun h43 => ?_)
                · have e42 := bif_t h43 e42
                  refine PO.run 2 rfl ?_
                  refine Exists.elim (bind_some e42) (fun r44 hq => ?_)
                  have e45 := hq.1
                  have e42 := hq.2
                  clear hq
                  refine PO.call rfl rfl rfl rfl (ks := []) (ts := []) (fr1 := []) rfl rfl rfl trivial (L32 k r5 a0 _ e45) ?_
                  rintro _ _ _ ⟨rfl, rfl, rfl⟩
                  refine ⟨_, _, rfl, rfl, ?_⟩
                  refine PO.same rfl (pickT_ok rfl rfl rfl) rfl ?_
                  refine PO.nil ?_
                  obtain rfl := Option.some.inj e42
                  exact ⟨r44, Weak.one [] [] (by kernel_rfl), rfl⟩
                · have e42 := bif_f h43 e42
                  refine PO.run 3 rfl ?_
                  refine PO.same rfl (pickF_ok rfl rfl rfl) rfl ?_
                  refine PO.nil ?_
                  obtain rfl := Option.some.inj e42
                  exact ⟨false, Weak.one [] [] (by kernel_rfl), rfl⟩
              · rintro _ ⟨v18, w46, rfl⟩
                refine PO.weak w46 ?_
                refine PO.nil ?_
                obtain rfl := Option.some.inj e39
                exact ⟨v18, Weak.one [] [] (by kernel_rfl), rfl⟩
            · have e39 := bif_f h40 e39
              refine PO.run 3 rfl ?_
              refine PO.same rfl (pickF_ok rfl rfl rfl) rfl ?_
              refine PO.run 4 rfl ?_
              refine PO.same rfl (pickF_ok rfl rfl rfl) rfl ?_
              refine PO.nil ?_
              obtain rfl := Option.some.inj e39
              exact ⟨false, Weak.one [] [] (by kernel_rfl), rfl⟩
          · rintro _ ⟨v17, w47, rfl⟩
            refine PO.weak w47 ?_
            refine PO.nil ?_
            obtain rfl := Option.some.inj e36
            exact ⟨v17, Weak.one [] [] (by kernel_rfl), rfl⟩
        · have e36 := bif_f h37 e36
          refine PO.run 3 rfl ?_
          refine PO.same rfl (pickF_ok rfl rfl rfl) rfl ?_
          refine PO.run 4 rfl ?_
          refine PO.same rfl (pickF_ok rfl rfl rfl) rfl ?_
          refine PO.run 4 rfl ?_
          refine PO.same rfl (pickF_ok rfl rfl rfl) rfl ?_
          refine PO.nil ?_
          obtain rfl := Option.some.inj e36
          exact ⟨false, Weak.one [] [] (by kernel_rfl), rfl⟩
      · rintro _ ⟨v16, w48, rfl⟩
        refine PO.weak w48 ?_
        refine PO.run 1 rfl ?_
        refine PO.nil ?_
        obtain rfl := Option.some.inj hF
        exact PC.ret' (retSK [] [] (by kernel_rfl) (.refl _) ⟨rfl, rfl, rfl⟩)

end
end Go.Eng.Lift
