/-
  'BreaksBest' returns true, and nothing of what the caller has is changed: for every world and every argument, with no condition.
-/
import Derived.Test.YtdehaeillolhbaaRows
import Derived.WalkKit
import Derived.ProofKit
import Derived.OpenShut
import Derived.ReadAgain
import Derived.Test.YtdehaeillolhbaaB7
namespace Go.Proofs.Ytdehaeillolhbaa.breaksBest
open Go.ChangeShapes Go.WideShapes Go.ChangeAt Go.RowKit
set_option linter.unusedVariables false

theorem YP : ownKnob Try.prog.godebug = none := by kernel_rfl
theorem Qz : laidOutB Try.prog = true := by kernel_rfl
theorem Yq : mapsRowed Try.prog = true := by kernel_rfl
theorem oP : ((List.range Try.prog.types.size).all fun t => match Try.prog.underlying t with | some (.slice e) => decide (0 < Try.prog.cellsOf e) | _ => true) = true := by kernel_rfl
theorem ZI : 3 < Try.prog.types.size := of_decide_eq_true (by kernel_rfl)
theorem aee : 22 < Try.prog.types.size := of_decide_eq_true (by kernel_rfl)

/-! ### The row's step -/
set_option maxRecDepth 100000 in
theorem Uk (os : Os) (started : os.Started) (H : Type) (enc : TypeId × Value → H) :
    ReturnsInHanded {} Try.checked os 3 .any (Rows.breaksBestSpec.pre6 enc Try.prog Try.f3 Rows.breaksBestRow.domain false) (Rows.breaksBestSpec.post enc Try.prog Try.f3 false true false false) := by
  refine returnsInHanded_of_change_sized (C := Try.checked) YP started (by kernel_rfl) Try.func3
    (ChangeSpec.witness6 (enc := enc) (C := Try.checked) false ⟨#[], #[.slice none 0 0, .int .i64 0, .int .i64 0, .int .i64 0, .int .i64 0], []⟩ 3 (by kernel_rfl) (by kernel_rfl) (by kernel_rfl) (by kernel_rfl)) ?_
  intro W base args ds gs before Yr hW aj1 gK _;have tj : ∀ (j : Nat) t v, Try.f3.params[j]? = some t → args[j]? = some v → Value.okWide Try.prog W .any base t v := Yr;have hW' := hW;obtain ⟨p, q, RW, hV, rfl, Ve, KB⟩ := hW;have hA : DataW.TrodAll enc Try.prog W 0 (fun _ => true) true Try.f3.params.toList args.toList ds p := RW;rw [Try.params3] at hA tj;obtain ⟨rfl, rfl⟩ := trodVars_none hV;have cG : ∀ x ∈ p, x.block < W.heap.size := fun x Y => hW'.lt x (by simpa using Y);obtain ⟨d1, d2, d3, d4, d5, rfl⟩ : ∃ d1 d2 d3 d4 d5, ds = [d1, d2, d3, d4, d5] := by
    rcases nQ : args.toList with _ | ⟨v1, _ | ⟨v2, _ | ⟨v3, _ | ⟨v4, _ | ⟨v5, l⟩⟩⟩⟩⟩ <;> rw [nQ] at hA <;> (rcases ds with _ | ⟨d1, _ | ⟨d2, _ | ⟨d3, _ | ⟨d4, _ | ⟨d5, ds⟩⟩⟩⟩⟩ <;> first | (simp [DataW.TrodAll] at hA; done) | skip)
    obtain ⟨p1, q1, _, ⟨p2, q2, _, ⟨p3, q3, _, ⟨p4, q4, _, ⟨p5, q5, _, h5, _⟩, _⟩, _⟩, _⟩, _⟩ := hA;rcases l with _ | ⟨v5, l⟩
    · rcases ds with _ | ⟨d5, ds⟩
      · exact ⟨d1, d2, d3, d4, d5, rfl⟩
      · exact h5.elim
    · rcases ds with _ | ⟨d5, ds⟩ <;> exact h5.elim
  have aef : (DataW.weightsEach Try.prog [22, 3, 3, 3, 3] [d1, d2, d3, d4, d5]).all (· ≤ reachBytes) = true := by
    rw [Try.params3] at gK;exact gK
  refine (Go.cy.jV.Uj hA (fun j t v X hv => tj j t v (by simpa using X) (by simpa using hv)) aef).mono fun e W' ⟨he, hg⟩ => ?_;subst he;refine ⟨_, rfl, Go.cy.Dq (pa := p) (pv := []) hW' (fun _ _ _ => (trodAll_cons_mk (shut_bool Try.underlying4 _) trodAll_mk0)) (fun sp UA => ?_) (fun _ _ => rfl) (by simp)
    hg (ok_one (by kernel_rfl) rfl (okWide_bool_mk Try.underlying4 _))⟩
  have B := Go.cy.vL hg hA cG;have D := DataW.TrodAll.respare (spare' := sp) (kids_rows Qz Yq) (slices_full_of Try.prog oP) (fun t ht => by
    simp only [List.mem_cons, List.not_mem_nil, or_false] at ht;rcases ht with rfl | rfl | rfl | rfl | rfl
    · exact aee
    · exact ZI
    · exact ZI
    · exact ZI
    · exact ZI) B (fun x Y => UA x (by simpa using Y))
  exact D

theorem Gi : Rows.breaksBestRow.holds Try.pinned (OpenSpec.ofChange Rows.breaksBestSpec) :=
  OpenClaim.holds_of_wide 3 Try.f3 rfl rfl rfl rfl rfl rfl rfl ⟨rfl, rfl, rfl, rfl, rfl⟩ rfl rfl rfl rfl rfl (by kernel_rfl) Try.func3 (by kernel_rfl)
    (of_decide_eq_true (by kernel_rfl)) (by unfold Func.isWrapper; first | (rw [if_pos (by decide +kernel)]; kernel_rfl) | (rw [if_neg (by decide +kernel)]; exact ⟨rfl, rfl⟩))
    (fun os started H enc _ => Uk os started H enc)

/-- ████ THE STATEMENT ████ -/
theorem proved : Rows.BreaksBestSaid :=
  Gi
#print axioms proved
end Go.Proofs.Ytdehaeillolhbaa.breaksBest
