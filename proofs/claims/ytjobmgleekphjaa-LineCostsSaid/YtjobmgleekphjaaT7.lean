/-
  Layer 14: the walk of the law LineCosts.
-/
import Derived.Test.YtjobmgleekphjaaT6
set_option linter.unusedVariables false
set_option linter.unusedSimpArgs false
namespace Go.Eng.T3
open Go.Proofs

theorem k28 (H : AH) : WF1 Try.prog orc 28 [] H (fun v H1 => v = .bool true ∧ H1 = H) := WF1.known rfl ⟨rfl, rfl⟩

theorem Items.cut {H : AH} {p : Option Addr} {L M : List ItemV} (h : Items H p (L ++ M)) : Items H p L := by
  rcases h with h | ⟨id, off, r, h1, h2, h3⟩
  · exact .inl (List.append_eq_nil_iff.1 h).1
  · refine .inr ⟨id, off, r, h1, h2, fun i x hx => h3 i x ?_⟩
    have hlt : i < L.length := by
      rcases Nat.lt_or_ge i L.length with h' | h'
      · exact h'
      · rw [List.getElem?_eq_none h'] at hx; cases hx
    rw [List.getElem?_append_left hlt]; exact hx

set_option maxRecDepth 100000 in
set_option maxHeartbeats 4000000 in
theorem w10 (H : AH) (L : List ItemV) (p : Option Addr) (c : Nat) (hL : Items H p L) (hp : Handed p c L) (hl0 : (L.length : Int) < 9223372036854775808) (hN : H.next + 100 ≤ 1099511627776) (ah ln : LineV) :
    WF1 Try.prog orc 10 [.slice p L.length c, lineV ah, lineV ln] H (fun v _ => v = .bool true) := by
  refine WF1.call (bodyOf_mk Try.func10 rfl (leN rfl) (leN rfl) (by kernel_rfl)) rfl ?_
  refine WC.region ?_
  refine WO.boxE rfl rfl (by omega) rfl (fun H1 E2 g3 => ?_)
  have bE2 := E2.2.1
  have cE2 := E2.1
  refine WO.boxE rfl rfl (by omega) rfl (fun H4 E5 g6 => ?_)
  have bE5 := E5.2.1
  have cE5 := E5.1
  refine WO.assign rfl rfl rfl ?_
  refine WO.nil ?_
  refine WC.assoc ?_
  refine WC.region ?_
  refine WO.move rfl rfl rfl ?_
  refine WO.call rfl rfl (evs_cons rfl evs_nil) rfl (w27 _ L p c (Items.ext (Items.ext hL E2) E5) hl0) ?_
  rintro _ HX11 ⟨b7, rfl, hb8, h9⟩
  rw [h9]
  clear h9 HX11
  refine WO.nil ?_
  refine WC.cond rfl (fun h12 => ?_) (fun h12 => ?_)
  · have f13 := h12
    try simp only [decide_eq_true_eq, decide_eq_false_iff_not, beq_iff_eq, bne_iff_ne, beq_eq_false_iff_ne, bne_eq_false_iff_eq, Bool.not_eq_true', Bool.not_eq_false', ne_eq, Decidable.not_not] at f13
    first
    | (exfalso; omega)
    | refine WC.assoc ?_
      refine WC.region ?_
      refine WO.assign rfl rfl rfl ?_
      refine WO.nil ?_
      refine WC.ret ?_
      refine ⟨.inr rfl, rfl, _, res1 rfl, ?_⟩
      exact congrArg Value.bool rfl
  · have f14 := h12
    try simp only [decide_eq_true_eq, decide_eq_false_iff_not, beq_iff_eq, bne_iff_ne, beq_eq_false_iff_ne, bne_eq_false_iff_eq, Bool.not_eq_true', Bool.not_eq_false', ne_eq, Decidable.not_not] at f14
    first
    | (exfalso; omega)
    | refine WC.noop ?_
      refine WC.assoc ?_
      refine WC.region ?_
      refine WO.call rfl rfl evs_nil rfl (k28 _) ?_
      rintro _ HX ⟨rfl, h15⟩
      rw [h15]
      clear h15 HX
      refine WO.not_ rfl rfl rfl ?_
      have hk16 : (!true) = false := by first | rfl | (rw [rfl]; rfl)
      refine WO.nil ?_
      refine WC.cond rfl (fun h => Bool.noConfusion ((hk16).symm.trans h)) (fun _ => ?_)
      refine WC.noop ?_
      refine WC.region ?_
      refine WO.move rfl rfl rfl ?_
      have hl17 := hb8 h12
      refine WO.call rfl rfl (evs_cons rfl evs_nil) rfl (w29 _ L p c (Items.ext (Items.ext hL E2) E5) hp (by omega) (by omega)) ?_
      rintro _ H24 ⟨id18, r19, rfl, hx20, he21, hX22, E23⟩
      have bE23 := E23.2.1
      have cE23 := E23.1
      refine WO.assign rfl rfl rfl ?_
      refine WO.nil ?_
      refine WC.drawn (order := [0, 1, 2, 3, 4, 5, 6, 7]) (by kernel_rfl) ?_
      refine WO.move rfl rfl rfl ?_
      refine WO.move rfl rfl rfl ?_
      refine WO.len rfl (Try.underlying42) rfl rfl ?_
      refine WO.sliceTo rfl (Try.underlying42) sz71 rfl rfl (by omega) hx20.get he21 rfl ?_
      refine WO.loadAgg rfl rfl rfl rfl (E23.has (E5.has g3)).get rfl rfl ?_
      refine WO.loadAgg rfl rfl rfl rfl (E23.has g6).get rfl rfl ?_
      refine WO.call rfl rfl (evs_cons rfl (evs_cons rfl (evs_cons rfl evs_nil))) rfl (d36 _ L _ _ (Items.cut hX22) (by omega) _ _) ?_
      rintro _ H25 ⟨rfl, E26⟩
      have bE26 := E26.2.1
      have cE26 := E26.1
      refine WO.assign rfl rfl rfl ?_
      refine WO.nil ?_
      refine WC.drawn (order := [0, 1, 2, 3, 4, 5, 6, 7]) (by kernel_rfl) ?_
      refine WO.move rfl rfl rfl ?_
      refine WO.move rfl rfl rfl ?_
      refine WO.len rfl (Try.underlying42) rfl rfl ?_
      refine WO.sliceTo rfl (Try.underlying42) sz71 rfl rfl (by omega) (E26.has hx20).get he21 rfl ?_
      refine WO.loadAgg rfl rfl rfl rfl (E26.has (E23.has g6)).get rfl rfl ?_
      refine WO.loadAgg rfl rfl rfl rfl (E26.has (E23.has (E5.has g3))).get rfl rfl ?_
      refine WO.call rfl rfl (evs_cons rfl (evs_cons rfl (evs_cons rfl evs_nil))) rfl (d36 _ L _ _ (Items.cut (Items.ext hX22 E26)) (by omega) _ _) ?_
      rintro _ H27 ⟨rfl, E28⟩
      have bE28 := E28.2.1
      have cE28 := E28.1
      refine WO.assign rfl rfl rfl ?_
      refine WO.nil ?_
      refine WC.region ?_
      refine WO.move rfl rfl rfl ?_
      refine WO.move rfl rfl rfl ?_
      refine WO.loadAgg rfl rfl rfl rfl (E28.has (E26.has (E23.has (E5.has g3)))).get rfl rfl ?_
      refine WO.loadAgg rfl rfl rfl rfl (E28.has (E26.has (E23.has g6))).get rfl rfl ?_
      refine WO.call rfl rfl (evs_cons rfl (evs_cons rfl (evs_cons rfl evs_nil))) rfl (d37 _ L _ _ (Items.ext (Items.ext (Items.ext (Items.ext (Items.ext hL E2) E5) E23) E26) E28) (by omega) _ _) ?_
      rintro _ H29 ⟨rfl, E30⟩
      have bE30 := E30.2.1
      have cE30 := E30.1
      refine WO.bin rfl rfl rfl rfl rfl ?_
      have hk31 : (((dem L ah ln)) == ((dem L ah ln))) = true := beq_self_eq_true _
      refine WO.move rfl rfl rfl ?_
      refine WO.move (wanted_yes rfl rfl rfl rfl hk31) rfl rfl ?_
      refine WO.move (wanted_yes rfl rfl rfl rfl hk31) rfl rfl ?_
      refine WO.loadAgg (wanted_yes rfl rfl rfl rfl hk31) rfl rfl rfl (E30.has (E28.has (E26.has (E23.has g6)))).get rfl rfl ?_
      refine WO.loadAgg (wanted_yes rfl rfl rfl rfl hk31) rfl rfl rfl (E30.has (E28.has (E26.has (E23.has (E5.has g3))))).get rfl rfl ?_
      refine WO.call rfl (wanted_yes rfl rfl rfl rfl hk31) (evs_cons rfl (evs_cons rfl (evs_cons rfl evs_nil))) rfl (d37 _ L _ _ (Items.ext (Items.ext (Items.ext (Items.ext (Items.ext (Items.ext hL E2) E5) E23) E26) E28) E30) (by omega) _ _) ?_
      rintro _ H32 ⟨rfl, E33⟩
      have bE33 := E33.2.1
      have cE33 := E33.1
      refine WO.bin (wanted_yes rfl rfl rfl rfl hk31) rfl rfl rfl rfl ?_
      have hk34 : (((dem L ln ah)) == ((dem L ln ah))) = true := beq_self_eq_true _
      refine WO.pickT rfl rfl hk31 rfl rfl ?_
      refine WO.move rfl rfl rfl ?_
      refine WO.move (wanted_yes rfl rfl rfl rfl hk34) rfl rfl ?_
      refine WO.move (wanted_yes rfl rfl rfl rfl hk34) rfl rfl ?_
      refine WO.call rfl (wanted_yes rfl rfl rfl rfl hk34) (evs_cons rfl (evs_cons rfl evs_nil)) rfl (w32 _ L markI rfl _ _ _ _ (Items.ext (Items.ext (Items.ext (Items.ext (Items.ext (Items.ext (Items.ext hL E2) E5) E23) E26) E28) E30) E33) (Items.ext (Items.ext (Items.ext (Items.ext hX22 E26) E28) E30) E33) (by omega)) ?_
      rintro _ HX ⟨rfl, h35⟩
      rw [h35]
      clear h35 HX
      refine WO.pickT rfl rfl hk34 rfl rfl ?_
      refine WO.assign rfl rfl rfl ?_
      refine WO.nil ?_
      refine WC.ret' ?_
      refine ⟨.inr rfl, rfl, _, res1 rfl, ?_⟩
      exact congrArg Value.bool rfl

end Go.Eng.T3
