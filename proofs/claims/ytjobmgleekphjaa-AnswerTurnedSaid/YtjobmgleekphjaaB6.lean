/-
  Layer 20, AnswerTurned: what the caller hands in, and the call.
-/
import Derived.Test.YtjobmgleekphjaaB2
import Derived.Test.YtjobmgleekphjaaP6
import Derived.Test.YtjobmgleekphjaaT5s
set_option linter.unusedVariables false
set_option linter.unusedSimpArgs false
namespace Go.Eng.Lift
open Go.Proofs Go.Eng.Br

theorem told : Told Try.prog orc := by
  intro f v hf
  have h : f = 17 ∧ v = .bool true := by
    unfold orc at hf
    cases hb : Nat.beq f 17 with
    | false => rw [hb] at hf; cases hf
    | true =>
      rw [hb] at hf
      cases hf
      exact ⟨Nat.eq_of_beq_eq_true hb, rfl⟩
  obtain ⟨rfl, rfl⟩ := h
  refine ⟨rfl, 20000, ?_⟩
  have h := T3.shown17
  rw [fRun_eq] at h
  unfold T3.resB at h
  split at h
  · rename_i b H' e
    cases h
    exact ⟨H', e⟩
  · cases h

theorem wf_i64 {n : Int} (h : (Lit.int .i64 n).wf = true) : I64 n := by
  have h' : (decide (-9223372036854775808 ≤ n) && decide (n ≤ 9223372036854775807)) = true := h
  rw [Bool.and_eq_true] at h'
  exact ⟨of_decide_eq_true h'.1, of_decide_eq_true h'.2⟩
theorem wf_u8 {n : Int} (h : (Lit.int .u8 n).wf = true) : 0 ≤ n ∧ n < 256 := by
  have h' : (decide (0 ≤ n) && decide (n ≤ 255)) = true := h
  rw [Bool.and_eq_true] at h'
  have := of_decide_eq_true h'.1
  have := of_decide_eq_true h'.2
  omega
theorem dInt {t : TypeId} (ht : Try.prog.underlying t = some (.int .i64)) : Dec Try.prog t (fun n : Int => [.val (.int .i64 n)]) I64 :=
  (Dec.int ht).map id (fun _ => rfl) fun _ h => wf_i64 h
theorem dByte : Dec Try.prog 5 (fun n : Int => [.val (.int .u8 n)]) (fun n => 0 ≤ n ∧ n < 256) :=
  (Dec.int Try.underlying5).map id (fun _ => rfl) fun _ h => wf_u8 h
theorem d3 : Dec Try.prog 3 (fun n : Int => [.val (.int .i64 n)]) I64 := dInt Try.underlying3
theorem d4 : Dec Try.prog 4 (fun b : Bool => [.val (.bool b)]) (fun _ => True) := Dec.bool Try.underlying4
theorem d9 : Dec Try.prog 9 (fun s : ByteArray => [.val (.string s)]) (fun s => s.size ≤ maxLen) := Dec.str Try.underlying9
theorem c83 : Try.prog.cellsOf 83 = 10 := by kernel_rfl
theorem c81 : Try.prog.cellsOf 81 = 4 := by kernel_rfl
theorem c78 : Try.prog.cellsOf 78 = 4 := by kernel_rfl
theorem c5 : Try.prog.cellsOf 5 = 1 := by kernel_rfl

theorem dBox : Dec Try.prog 83 cGBox okBox :=
  (Dec.struct Try.underlying83 (by kernel_rfl) (.cons d3 (.cons d3 (.cons d9 (.cons d3 (.cons d3 (.cons d3 (.cons d3 (.cons d3 (.cons d3 (.cons d3 .nil))))))))))).map
    (fun p => GBox.mk p.1 p.2.1 p.2.2.1 p.2.2.2.1 p.2.2.2.2.1 p.2.2.2.2.2.1 p.2.2.2.2.2.2.1 p.2.2.2.2.2.2.2.1 p.2.2.2.2.2.2.2.2.1 p.2.2.2.2.2.2.2.2.2.1)
    (fun _ => rfl) (fun p ⟨h0, h1, h2, h3, h4, h5, h6, h7, h8, h9, _⟩ => ⟨h0, h1, Nat.lt_of_le_of_lt h2 (by decide), h3, h4, h5, h6, h7, h8, h9⟩)
theorem dRow : Dec Try.prog 81 cGRow okRow :=
  (Dec.struct Try.underlying81 (by kernel_rfl) (.cons d3 (.cons d4 (.cons d4 (.cons (Dec.slice Try.underlying79 c83 (by decide) dBox) .nil))))).map
    (fun p => GRow.mk p.1 p.2.1 p.2.2.1 p.2.2.2.1) (fun _ => rfl) (fun p ⟨h0, h1, h2, h3, _⟩ => ⟨h0, h3.2⟩)
theorem dPage : Dec Try.prog 78 cGPage okPage :=
  (Dec.struct Try.underlying78 (by kernel_rfl) (.cons d3 (.cons d3 (.cons d4 (.cons (Dec.slice Try.underlying76 c81 (by decide) dRow) .nil))))).map
    (fun p => GPage.mk p.1 p.2.1 p.2.2.1 p.2.2.2.1) (fun _ => rfl) (fun p ⟨h0, h1, h2, h3, _⟩ => ⟨h0, h1, h3.2⟩)
theorem dFault : Dec Try.prog 24 (fun p : Int × Int × Unit => [.val (.int .i64 p.1), .val (.int .i64 p.2.1)]) (fun p => I64 p.1 ∧ I64 p.2.1) :=
  (Dec.struct Try.underlying24 (by kernel_rfl) (.cons (dInt Try.underlying22) (.cons d3 .nil))).map id (fun _ => rfl) (fun p ⟨h0, h1, _⟩ => ⟨h0, h1⟩)
theorem dAnswer : Dec Try.prog 27 cGAnswer okA :=
  (Dec.struct Try.underlying27 (by kernel_rfl) (.cons dFault (.cons d3 (.cons d3 (.cons (Dec.slice Try.underlying25 c78 (by decide) dPage) .nil))))).map
    (fun p => GAnswer.mk p.1.1 p.1.2.1 p.2.1 p.2.2.1 p.2.2.2.1) (fun _ => rfl) (fun p ⟨⟨h0, h0'⟩, h1, h2, h3, _⟩ => ⟨h0, h0', h1, h2, h3.2⟩)
set_option maxRecDepth 100000 in
theorem calls6 {H : Type} {enc : TypeId × Value → H} {W : World} {base : Nat} {args : Array Value} {ds : List (DataW H)} {ps : List MemPlace} (hA : DataW.TrodAll enc Try.prog W 0 (fun _ => true) true [27, 3, 3, 5] args.toList ds ps)
    (hval : ∀ (j : Nat) t v, ([27, 3, 3, 5] : List TypeId)[j]? = some t → args.toList[j]? = some v → Value.okWide Try.prog W .any base t v) : Calls Try.prog 6 args W (fun e w' => e = .returned (.bool true) ∧ Kept W w') := by
  rcases hargs : args.toList with _ | ⟨v1, _ | ⟨v2, _ | ⟨v3, _ | ⟨v4, _ | ⟨v5, l⟩⟩⟩⟩⟩ <;> rw [hargs] at hA <;> (rcases ds with _ | ⟨d1, _ | ⟨d2, _ | ⟨d3, _ | ⟨d4, _ | ⟨d5, ds⟩⟩⟩⟩⟩ <;> first | (simp [DataW.TrodAll] at hA; done) | skip)
  rw [hargs] at hval
  obtain ⟨p1, q1, ⟨n1, t1⟩, ⟨p2, q2, ⟨n2, t2⟩, ⟨p3, q3, ⟨n3, t3⟩, ⟨p4, q4, ⟨n4, t4⟩, _, _⟩, _⟩, _⟩, _⟩ := hA
  obtain ⟨cs, rfl, s1⟩ := arg_agg (hval 0 27 v1 rfl rfl) (by rw [Try.underlying27])
  obtain ⟨e2, s2⟩ := arg_one (hval 1 3 v2 rfl rfl) (by rw [Try.underlying3])
  obtain ⟨e3, s3⟩ := arg_one (hval 2 3 v3 rfl rfl) (by rw [Try.underlying3])
  obtain ⟨e4, s4⟩ := arg_one (hval 3 5 v4 rfl rfl) (by rw [Try.underlying5])
  rw [e2] at t2
  rw [e3] at t3
  rw [e4] at t4
  obtain ⟨a, ha, _, ga⟩ := dAnswer.get enc W n1 cs.toList _ t1 s1
  obtain ⟨x, hx, _, gx⟩ := Go.Eng.Lift.d3.get enc W n2 [v2] _ t2 s2
  obtain ⟨y, hy, _, gy⟩ := Go.Eng.Lift.d3.get enc W n3 [v3] _ t3 s3
  obtain ⟨c, hc, _, gc⟩ := dByte.get enc W n4 [v4] _ t4 s4
  refine GotA.calls told (ps := [.agg (cGAnswer a), .val (.int .i64 x), .val (.int .i64 y), .val (.int .u8 c)]) ?_ (L6 4294967296 a x y c true (f6 (Nat.le_refl _) ha hc))
  rw [hargs]
  exact GotA.cons (Got.agg (ga [] Own.nil)) fun l hl => GotA.cons (Got.one (gx l hl)) fun l hl => GotA.cons (Got.one (gy l hl)) fun l hl => GotA.cons (Got.one (gc l hl)) fun l hl => GotA.nil hl
end Go.Eng.Lift
