/-
  A region whose order is open: its beginning, its end; several operations at once.
-/
import Derived.Test.YtjobmgleekphjaaM16
set_option linter.unusedSimpArgs false
set_option linter.unusedVariables false
namespace Go.Eng
noncomputable section
variable {P : Program} {O : FuncId → Option Value}

/-! ### The beginning -/
def fzB (P : Program) (os : List Oper) : Bool := os.all fun o => match o.op, o.guard with
  | .alloc t, none => (match tZero P t with
    | .ok _ => true
    | .error _ => false)
  | _, _ => true

theorem reserve_some : ∀ (os : List Oper) (i next : Nat), fzB P os = true → ∃ ps n, reserve P os i next = .ok (ps, n) ∧ ∀ (j : Nat) (o : Oper), os[j]? = some o → floatOp o = true → ∃ p ∈ ps, p.op = i + j
  | [], i, next, _ => ⟨[], next, rfl, fun j o h => by simp at h⟩
  | o :: os, i, next, h => by
    simp only [fzB, List.all_cons, Bool.and_eq_true] at h
    have hrest : fzB P os = true := h.2
    cases hf : floatOp o with
    | false =>
      obtain ⟨ps, n, h1, h2⟩ := reserve_some os (i + 1) next hrest
      refine ⟨ps, n, ?_, fun j o' hj ho' => ?_⟩
      · simp only [reserve]
        unfold floatOp at hf
        split
        · rename_i t g1 g2; rw [g1, g2] at hf; cases hf
        · exact h1
      · cases j with
        | zero => simp at hj; subst hj; rw [hf] at ho'; cases ho'
        | succ j =>
          obtain ⟨p, hp, hp'⟩ := h2 j o' (by simpa using hj) ho'
          exact ⟨p, hp, by omega⟩
    | true =>
      unfold floatOp at hf
      split at hf
      · rename_i t g1 g2
        have h0 := h.1
        rw [g1, g2] at h0
        simp only at h0
        cases hz : tZero P t with
        | error e => rw [hz] at h0; cases h0
        | ok zs =>
          obtain ⟨ps, n, h1, h2⟩ := reserve_some os (i + 1) (next + 1) hrest
          refine ⟨⟨i, next, { cells := zs.map some, ty := t, fam := next, disp := 0, esz := 0, ro := false, solo := true }⟩ :: ps, n, ?_, fun j o' hj ho' => ?_⟩
          · simp only [reserve, g1, g2, hz, bind, Except.bind, h1]
          · cases j with
            | zero => exact ⟨_, List.mem_cons_self, rfl⟩
            | succ j =>
              obtain ⟨p, hp, hp'⟩ := h2 j o' (by simpa using hj) ho'
              exact ⟨p, List.mem_cons_of_mem _ hp, by omega⟩
      · cases hf

theorem RelA.raise {C : Ctx} {e : Env} {s : PS} {a : AAct} {H : AH} (hR : RelA C e s a H) {n : Nat} (hn : H.next ≤ n) : RelA C e s a { H with next := n } := by
  have hI := hR.h.inv
  have hget : ∀ j, ({ H with next := n } : AH).get j = H.get j := fun j => rfl
  have g : Grow e s.tk H e s.tk { H with next := n } := ⟨hn, fun _ _ h => h, fun id fam en _ hs => ⟨Nat.lt_of_lt_of_le hs.lt hn, Nat.lt_of_lt_of_le hs.flt hn, hs.x, hs.row, hs.tok⟩, fun id r n hr _ => ⟨r, hr, Meta.refl r, fun _ _ => rfl⟩, fun k n hk => ⟨n, hk, Nat.le_refl _, fun _ => rfl⟩⟩
  refine ⟨⟨⟨⟨fun j o ho => Nat.lt_of_lt_of_le (hI.wf.lt j o ho) hn, fun j r hr => Nat.lt_of_lt_of_le (hI.wf.fam j r hr) hn⟩, hI.rlen, hI.rnd, fun k id R hk hRk => ?_, hI.tlen, hI.tsep, fun t τ ht => Nat.lt_of_lt_of_le (hI.tlt t τ ht) hn, hI.tfr⟩, hR.h.ext, ⟨Nat.le_trans hR.h.frame.next hn, hR.h.frame.row, hR.h.frame.oth, hR.h.frame.gone⟩, hR.h.cw, hR.h.x, hR.h.x0⟩, hR.n, hR.marks.step (fun _ h => h), hR.r0, hR.t0, fun t q ht => ?_⟩
  · obtain ⟨r, us, h2, h3, h4, h5, h6, h7, h8⟩ := hI.row k id R hk hRk
    exact ⟨r, us, h2, h3, h4, h5, h6, h7, h8.grow g⟩
  · obtain ⟨v, h1, h2⟩ := hR.tm t q ht
    exact ⟨v, h1, h2.grow g⟩

def drawB (P : Program) (os : List Oper) (order : List Nat) : Bool := P.follows .mixedOrders && (tmpsRight os (clos os) && (fzB P os && drawOrder P os (clos os) == order))

theorem PC.draw {rnd : Option Nat} {i : Nat} {ops : Array Oper} {z : Code} {s : PS} {Q : AX → PS → Prop} (order : List Nat) (hp : drawB P ops.toList order = true)
    (h : PD P O ops.toList (clos ops.toList) s.fr.length order ⟨0, 0, 0, []⟩ s (fun s1 => PC P O rnd z s1 Q)) : PC P O rnd (.seq (.region i ops true) z) s Q := fun C e a H hR hX => by
  unfold drawB at hp
  simp only [Bool.and_eq_true, beq_iff_eq] at hp
  obtain ⟨p1, p2, p3, p4⟩ := hp
  obtain ⟨ps, n, r1, r2⟩ := reserve_some ops.toList 0 H.next p3
  have pd := Pends.of r1
  have hI := hR.h.inv
  have hins0 : (PM.mk { H with next := n } 0).ins 0 ps = { H with next := n } := ins_none ps _ (fun p _ => by simp)
  have hR1 := hR.raise pd.le
  obtain ⟨N, hN⟩ := h H.next n ps C e a ⟨{ H with next := n }, 0⟩ [] (by
    refine ⟨by rw [show (DC.mk 0 0 0 []).done = 0 from rfl, hins0]; exact hR1, rfl, pd, (fun j o hj ho => by obtain ⟨p, a1, a2⟩ := r2 j o hj ho; exact ⟨p, a1, by omega⟩), hR.h.frame.next, Nat.le_refl _, fun p hp _ => ?_, fun p hp _ t τ ht e1 => ?_, fun p hp hg => by simp at hg, ⟨by rw [hI.rlen]; exact Nat.le_refl _, fun k id hk hid p hp e1 => ?_⟩, fun p hp hd => by simp at hd, rfl, fun i x y hx => by simp at hx⟩
    · rw [show (DC.mk 0 0 0 []).done = 0 from rfl, hins0]
      have h1 := (pd.mem p hp).1
      cases hg : H.get p.id with
      | none => exact hg
      | some o => have := hI.wf.lt _ _ hg; omega
    · have h1 := (pd.mem p hp).1
      have := hI.tlt t τ ht; omega
    · have h1 := (pd.mem p hp).1
      have := hI.rlt (List.mem_of_getElem? hid); omega)
  obtain ⟨D, d1, d2, e', s', d3, d4⟩ := hN N (Nat.le_refl _)
  refine WC.seq ⟨N + 1, .normal, D.a, D.m.ins D.done ps, ?_, d4 C e' D.a _ d3 hX⟩
  have hd : aDraw P (oRun P O N) ops.toList a H = .ok (D.a, D.m.ins D.done ps) := by
    unfold aDraw
    simp only [p2, if_true, r1, p4]
    show (order.foldlM (dStep P (oRun P O N) ops.toList (clos ops.toList) ps) { done := 0, last := 0, chs := [], a := a, m := ⟨{ H with next := n }, 0⟩ } >>= fun s => if s.done = 2 ^ ops.toList.length - 1 then .ok (s.a, s.m.ins s.done ps) else .error 121) = _
    rw [d1]
    show (if D.done = 2 ^ ops.toList.length - 1 then Except.ok (D.a, D.m.ins D.done ps) else .error 121) = _
    rw [if_pos d2]
  simp only [oRun, aStep, p1, Bool.not_true, Bool.false_eq_true, if_false, hd]
  rfl

end
end Go.Eng
