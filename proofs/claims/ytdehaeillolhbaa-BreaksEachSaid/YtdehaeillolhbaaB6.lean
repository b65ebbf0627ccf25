/-
  BreaksEach: what the caller hands in, and the call.
-/
import Derived.Test.YtdehaeillolhbaaB2
import Derived.Test.YtdehaeillolhbaaP4
import Derived.Test.YtdehaeillolhbaaT4s
set_option linter.unusedVariables false
set_option linter.unusedSimpArgs false
namespace Go.Eng.Lift
open Go.Proofs Go.Eng.Br

theorem told_of {n : Nat} {x : Req} (h : T3.resB (fRun Try.prog n x AH.empty) = some true) : ∃ n H', aRun Try.prog n x AH.empty = .ok (.val (.bool true), H') := by
  rw [fRun_eq] at h
  unfold T3.resB at h
  split at h
  · rename_i b H' e
    cases h
    exact ⟨n, H', e⟩
  · cases h

theorem told : Told Try.prog orc := by
  intro f v hf
  have h : f = 7 ∧ v = .bool true := by
    unfold orc at hf
    cases hb : Nat.beq f 7 with
    | false => rw [hb] at hf; cases hf
    | true =>
      rw [hb] at hf
      cases hf
      exact ⟨Nat.eq_of_beq_eq_true hb, rfl⟩
  obtain ⟨rfl, rfl⟩ := h
  exact ⟨rfl, told_of T3.shown7⟩

def I64 (n : Int) : Prop := -9223372036854775808 ≤ n ∧ n ≤ 9223372036854775807
theorem wf_i64 {n : Int} (h : (Lit.int .i64 n).wf = true) : I64 n := by
  have h' : (decide (-9223372036854775808 ≤ n) && decide (n ≤ 9223372036854775807)) = true := h
  rw [Bool.and_eq_true] at h'
  exact ⟨of_decide_eq_true h'.1, of_decide_eq_true h'.2⟩
theorem dInt {t : TypeId} (ht : Try.prog.underlying t = some (.int .i64)) : Dec Try.prog t (fun n : Int => [.val (.int .i64 n)]) I64 :=
  (Dec.int ht).map id (fun _ => rfl) fun _ h => wf_i64 h
theorem d3 : Dec Try.prog 3 (fun n : Int => [.val (.int .i64 n)]) I64 := dInt Try.underlying3
theorem d4 : Dec Try.prog 4 (fun b : Bool => [.val (.bool b)]) (fun _ => True) := Dec.bool Try.underlying4
theorem d9 : Dec Try.prog 9 (fun s : ByteArray => [.val (.string s)]) (fun s => s.size ≤ maxLen) := Dec.str Try.underlying9
theorem c33 : Try.prog.cellsOf 33 = 13 := by kernel_rfl
theorem dItem : Dec Try.prog 33 cGItem (fun _ => True) :=
  (Dec.struct Try.underlying33 (by kernel_rfl) (.cons d3 (.cons d9 (.cons d3 (.cons d3 (.cons d3 (.cons d3 (.cons d3 (.cons d3 (.cons d3 (.cons d3 (.cons d4 (.cons d3 (.cons d3 .nil)))))))))))))).map
    (fun p => GItem.mk p.1 p.2.1 p.2.2.1 p.2.2.2.1 p.2.2.2.2.1 p.2.2.2.2.2.1 p.2.2.2.2.2.2.1 p.2.2.2.2.2.2.2.1 p.2.2.2.2.2.2.2.2.1 p.2.2.2.2.2.2.2.2.2.1 p.2.2.2.2.2.2.2.2.2.2.1 p.2.2.2.2.2.2.2.2.2.2.2.1 p.2.2.2.2.2.2.2.2.2.2.2.2.1)
    (fun _ => rfl) (fun _ _ => trivial)
theorem dItems : Dec Try.prog 22 (fun L : List GItem => [.list 13 (L.map cGItem) none]) (fun L => L.length ≤ maxLen) :=
  (Dec.slice Try.underlying22 c33 (by decide) dItem).map id (fun _ => rfl) (fun p h => h.1)

set_option maxRecDepth 100000 in
theorem calls6 {H : Type} {enc : TypeId × Value → H} {W : World} {base : Nat} {args : Array Value} {ds : List (DataW H)} {ps : List MemPlace} (hA : DataW.TrodAll enc Try.prog W 0 (fun _ => true) true [22, 3, 3] args.toList ds ps)
    (hval : ∀ (j : Nat) t v, ([22, 3, 3] : List TypeId)[j]? = some t → args.toList[j]? = some v → Value.okWide Try.prog W .any base t v) : Calls Try.prog 6 args W (fun e w' => e = .returned (.bool true) ∧ Kept W w') := by
  rcases hargs : args.toList with _ | ⟨v1, _ | ⟨v2, _ | ⟨v3, _ | ⟨v4, l⟩⟩⟩⟩ <;> rw [hargs] at hA <;> (rcases ds with _ | ⟨d1, _ | ⟨d2, _ | ⟨d3, _ | ⟨d4, ds⟩⟩⟩⟩ <;> first | (simp [DataW.TrodAll] at hA; done) | skip)
  rw [hargs] at hval
  obtain ⟨p1, q1, ⟨n1, t1⟩, ⟨p2, q2, ⟨n2, t2⟩, ⟨p3, q3, ⟨n3, t3⟩, _, _⟩, _⟩, _⟩ := hA
  obtain ⟨e1, s1⟩ := arg_one (hval 0 22 v1 rfl rfl) (by rw [Try.underlying22])
  obtain ⟨e2, s2⟩ := arg_one (hval 1 3 v2 rfl rfl) (by rw [Try.underlying3])
  obtain ⟨e3, s3⟩ := arg_one (hval 2 3 v3 rfl rfl) (by rw [Try.underlying3])
  rw [e1] at t1
  rw [e2] at t2
  rw [e3] at t3
  obtain ⟨L, hL, _, gL⟩ := Go.Eng.Lift.dItems.get enc W n1 [v1] _ t1 s1
  obtain ⟨A, hA, _, gA⟩ := Go.Eng.Lift.d3.get enc W n2 [v2] _ t2 s2
  obtain ⟨B, hB, _, gB⟩ := Go.Eng.Lift.d3.get enc W n3 [v3] _ t3 s3
  have hmax : maxLen = 9223372036854775807 := by decide
  refine GotA.calls told (ps := [.list 13 (L.map cGItem) none, .val (.int .i64 A), .val (.int .i64 B)]) ?_ (L6 (4 * L.length + 100011) L A B true (Go.Eng.Lift.t6 _ L A B (by omega) (by omega) (fun h => by omega)))
  rw [hargs]
  exact GotA.cons (Got.one (gL [] Own.nil)) fun l hl => GotA.cons (Got.one (gA l hl)) fun l hl => GotA.cons (Got.one (gB l hl)) fun l hl => GotA.nil hl
end Go.Eng.Lift
