/-
  'JudgeBegins' returns true, and nothing of what the caller has is changed: for every world and every argument up to the second form's bulk.
-/
import Derived.Test.YtbcgpjfjfnnlcaaRows
import Derived.WalkKit
import Derived.ProofKit
import Derived.OpenShut
import Derived.ReadAgain
import Derived.JoinedCond
import Derived.Test.YtbcgpjfjfnnlcaaB4
namespace Go.Proofs.Ytbcgpjfjfnnlcaa.judgeBegins
open Go.ChangeShapes Go.WideShapes Go.ChangeAt Go.RowKit
set_option linter.unusedVariables false

theorem own : ownKnob Try.prog.godebug = none := by kernel_rfl
theorem laidOut : laidOutB Try.prog = true := by kernel_rfl
theorem rowed : mapsRowed Try.prog = true := by kernel_rfl
theorem full : ((List.range Try.prog.types.size).all fun t => match Try.prog.underlying t with | some (.slice e) => decide (0 < Try.prog.cellsOf e) | _ => true) = true := by kernel_rfl
theorem lt3 : 3 < Try.prog.types.size := of_decide_eq_true (by kernel_rfl)
theorem lt22 : 22 < Try.prog.types.size := of_decide_eq_true (by kernel_rfl)
theorem lt23 : 23 < Try.prog.types.size := of_decide_eq_true (by kernel_rfl)

/-! ### The row's step -/
set_option maxRecDepth 100000 in
theorem lifted (os : Os) (started : os.Started) (H : Type) (enc : TypeId × Value → H) (F : Stop.Interp) :
    ReturnsInHanded {} Try.checked os 5 .any ((Rows.OpenSpec.upto Rows.judgeBeginsSpec).pre6 enc Try.prog Try.f5 Rows.judgeBeginsUptoRow.domain false) (((Rows.OpenSpec.upto Rows.judgeBeginsSpec).at F).post enc Try.prog Try.f5 false true false false) := by
  refine returnsInHanded_of_cond (C := Try.checked) (k := Rows.uptoSmall) rfl own started (by kernel_rfl) Try.func5
    (OpenSpec.witness (enc := enc) (C := Try.checked) (k := Rows.uptoSmall) rfl false ⟨#[], #[.slice none 0 0, .slice none 0 0, .int .i64 0], []⟩ 6 (by kernel_rfl) (by kernel_rfl) (by kernel_rfl) (x := ([.nil, .nil, .lit (.int .i64 0)], [], [])) (by kernel_rfl) (by kernel_rfl) (by kernel_rfl)) ?_
  intro W base args ds gs before hval0 hW hcnd hbk _
  have hval : ∀ (j : Nat) t v, Try.f5.params[j]? = some t → args[j]? = some v → Value.okWide Try.prog W .any base t v := hval0
  have hW' := hW
  obtain ⟨p, q, hA0, hV, rfl, hfz, hnd⟩ := hW
  have hA : DataW.TrodAll enc Try.prog W 0 (fun _ => true) true Try.f5.params.toList args.toList ds p := hA0
  rw [Try.params5] at hA hval
  obtain ⟨rfl, rfl⟩ := trodVars_none hV
  have hlt : ∀ x ∈ p, x.block < W.heap.size := fun x hx => hW'.lt x (by simpa using hx)
  rw [List.append_nil] at hbk
  have hbulk : Rows.uptoBulkAll ds ≤ 1048576 := of_decide_eq_true hbk
  obtain ⟨d1, d2, d3, rfl⟩ : ∃ d1 d2 d3, ds = [d1, d2, d3] := by
    rcases hargs : args.toList with _ | ⟨v1, _ | ⟨v2, _ | ⟨v3, l⟩⟩⟩ <;> rw [hargs] at hA <;> (rcases ds with _ | ⟨d1, _ | ⟨d2, _ | ⟨d3, ds⟩⟩⟩ <;> first | (simp [DataW.TrodAll] at hA; done) | skip)
    obtain ⟨p1, q1, _, ⟨p2, q2, _, ⟨p3, q3, _, h5, _⟩, _⟩, _⟩ := hA
    rcases l with _ | ⟨v5, l⟩
    · rcases ds with _ | ⟨d5, ds⟩
      · exact ⟨d1, d2, d3, rfl⟩
      · exact h5.elim
    · rcases ds with _ | ⟨d5, ds⟩ <;> exact h5.elim
  refine (Go.Eng.Lift.calls5 hA (fun j t v hj hv => hval j t v (by simpa using hj) (by simpa using hv)) hbulk).mono fun e W' ⟨he, hg⟩ => ?_
  subst he
  refine ⟨_, rfl, Go.Eng.post_of_kept (pa := p) (pv := []) hW' (fun _ _ _ => (trodAll_cons_mk (shut_bool Try.underlying4 _) trodAll_mk0)) (fun sp hsp => ?_) (fun _ _ => rfl) (by simp)
    hg (ok_one (by kernel_rfl) rfl (okWide_bool_mk Try.underlying4 _))⟩
  have h1 := Go.Eng.trodAll_kept hg hA hlt
  have h2 := DataW.TrodAll.respare (spare' := sp) (kids_rows laidOut rowed) (slices_full_of Try.prog full) (fun t ht => by
    simp only [List.mem_cons, List.not_mem_nil, or_false] at ht
    rcases ht with rfl | rfl | rfl
    · exact lt22
    · exact lt23
    · exact lt3) h1 (fun x hx => hsp x (by simpa using hx))
  exact h2

theorem over : Rows.judgeBeginsUptoRow.holds Try.pinned (Rows.OpenSpec.upto Rows.judgeBeginsSpec) :=
  OpenClaim.holds_of_cond 5 Try.f5 rfl rfl rfl rfl rfl rfl rfl ⟨rfl, rfl, rfl, rfl, rfl⟩ rfl rfl rfl rfl rfl (by kernel_rfl) Try.func5 (by kernel_rfl)
    (of_decide_eq_true (by kernel_rfl)) (by unfold Func.isWrapper; first | (rw [if_pos (by decide +kernel)]; kernel_rfl) | (rw [if_neg (by decide +kernel)]; exact ⟨rfl, rfl⟩))
    (fun os started H enc _ F => lifted os started H enc F)

/-- ████ THE STATEMENT ████ -/
theorem proved : Rows.JudgeBeginsUptoSaid :=
  over
#print axioms proved
end Go.Proofs.Ytbcgpjfjfnnlcaa.judgeBegins
