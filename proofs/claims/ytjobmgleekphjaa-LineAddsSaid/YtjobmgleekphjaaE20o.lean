/-
  The abstract machine with answers that are known beforehand: a function without arguments that was run at the empty memory answers the same at any other one.
-/
import Derived.Test.YtjobmgleekphjaaE18
import Derived.Test.YtjobmgleekphjaaE20
set_option linter.unusedSimpArgs false
namespace Go.Eng
noncomputable section
variable {P : Program}

/-- the answer known beforehand -/
def known (O : FuncId → Option Value) (f : FuncId) (args : List Value) : Option Value :=
  match args with
  | [] => O f
  | _ :: _ => none

def oRun (P : Program) (O : FuncId → Option Value) : Nat → Rec
  | 0, _, _ => .error 0
  | n + 1, .call f args, H =>
    match known O f args with
    | some v => .ok (.val v, H)
    | none => aStep P (oRun P O n) (.call f args) H
  | n + 1, .code r c a, H => aStep P (oRun P O n) (.code r c a) H

theorem oRun_mono {O : FuncId → Option Value} : ∀ n, RLe (oRun P O n) (oRun P O (n + 1))
  | 0 => fun q H x h => by simp only [oRun] at h; cases h
  | n + 1 => fun q H x h => by
    cases q with
    | call f args =>
      simp only [oRun] at h ⊢
      cases hk : known O f args with
      | some v => rw [hk] at h; exact h
      | none => rw [hk] at h; exact aStep_mono (oRun_mono n) _ _ _ h
    | code r c a => exact aStep_mono (oRun_mono n) _ _ _ h

theorem oRun_le {O : FuncId → Option Value} {n m : Nat} (h : n ≤ m) : RLe (oRun P O n) (oRun P O m) := by
  induction h with
  | refl => exact fun q H x h => h
  | step _ ih => exact fun q H x h => oRun_mono _ q H x (ih q H x h)

/-- an answer that a run at the empty memory tells -/
def Told (P : Program) (O : FuncId → Option Value) : Prop := ∀ f v, O f = some v → gnd gd v = true ∧ ∃ n H', aRun P n (.call f []) AH.empty = .ok (.val v, H')

theorem told_call {O : FuncId → Option Value} (hO : Told P O) {f : FuncId} {v : Value} (hf : O f = some v) :
    (∃ fn c, P.funcs[f]? = some fn ∧ fn.body = some c ∧ (fn.name == "runtime.NumGoroutine") = false) ∧
    ∀ (ρ : Ren) (H : AH) (W : World) (args' : List Value) (n : Nat), Rel ρ H W → LR ρ [] args' → CallsIn (WF none) n P f args'.toArray W (CallPost ρ H W v H) := by
  obtain ⟨hg, n0, H0, h0⟩ := hO f v hf
  obtain ⟨k1, k2⟩ := (aRun_ok (P := P) n0).call f [] AH.empty v H0 h0
  refine ⟨k1, fun ρ H W args' n hR hl => ?_⟩
  have he : args' = [] := by
    have := hl.1
    cases args' with
    | nil => rfl
    | cons x l => simp at this
  subst he
  refine CallsIn.mono (k2 (fun _ => none) W [] n (Rel.empty W) (LR.nil _)) (fun e W' hp => ?_)
  obtain ⟨ρ', v', rfl, st, hv⟩ := hp
  have hv' : v' = v := gnd_eq _ hg hv
  subst hv'
  have same : ∀ b, b < W.heap.size → W'.heap[b]? = W.heap[b]? := fun b hb => (st.keep b hb (fun ⟨id, o, pl, h, _⟩ => by cases h)).1
  refine ⟨ρ, v', rfl, ⟨Ren.le_refl ρ, ⟨hR.dom, hR.nxt, fun id o ho => ?_, hR.share⟩, Nat.le_refl _, st.size, fun b hb hn => ⟨same b hb, hn⟩, st.tape, st.os, st.output, fun _ _ => rfl, fun _ _ hb => hb⟩, gnd_refl _ hg⟩
  obtain ⟨pl, a, b, c⟩ := hR.obj id o ho
  exact ⟨pl, a, Nat.lt_of_lt_of_le b st.size, c.congr (Ren.le_refl ρ) (same _ b)⟩

theorem oRun_ok {O : FuncId → Option Value} (hO : Told P O) : ∀ n, RecOK2 P (oRun P O n)
  | 0 => ⟨⟨fun f args H v H' h => (by simp only [oRun] at h; cases h), fun r c a H x a' H' h => (by simp only [oRun] at h; cases h), fun f args H x a H' h => (by simp only [oRun] at h; cases h), fun r c a H v H' h => (by simp only [oRun] at h; cases h)⟩,
      fun r c a H x a' H' h => (by simp only [oRun] at h; cases h)⟩
  | n + 1 =>
    have ih := oRun_ok hO n
    ⟨⟨fun f args H v H' h => by
        simp only [oRun] at h
        cases hk : known O f args with
        | some u =>
          rw [hk] at h
          cases h
          cases args with
          | nil =>
            obtain ⟨k1, k2⟩ := told_call hO hk
            exact ⟨k1, fun ρ W args' n hR hl => k2 ρ H W args' n hR hl⟩
          | cons x l => cases hk
        | none => rw [hk] at h; exact step_call ih.toRecOK h,
      fun _ _ _ _ _ _ _ h => (step_code ih h).1,
      fun f args H x a H' h => by
        simp only [oRun] at h
        cases hk : known O f args with
        | some u => rw [hk] at h; cases h
        | none => rw [hk] at h; exact step_callVal h,
      fun _ _ _ _ _ _ h => step_codeOut ih.toRecOK h⟩,
      fun _ _ _ _ _ _ _ h => (step_code ih h).2 _ rfl⟩

/-- **What the abstract machine tells of a law's call holds; nothing that was there has turned.** -/
theorem law_first_o {O : FuncId → Option Value} (hO : Told P O) {W : World} {l : List (Row × Pl)} (h : ∀ x ∈ l, Lent (rhoOf l) W x.1 x.2) {vs : List Value} {args : Array Value} (ha : LR (rhoOf l) vs args.toList) {n : Nat} {f : FuncId} {b : Bool} {H' : AH}
    (hrun : oRun P O n (.call f vs) (firstOf l) = .ok (.val (.bool b), H')) : Calls P f args W (fun e w' => e = .returned (.bool b) ∧ Kept W w') := by
  obtain ⟨_, hc⟩ := (oRun_ok hO n).call f vs (firstOf l) _ H' hrun
  have := hc (rhoOf l) W args.toList 0 (rel_first h) ha
  rw [show args.toList.toArray = args by simp] at this
  have h3 : Calls P f args W (CallPost (rhoOf l) (firstOf l) W (.bool b) H') := callsIn_wide.1 this
  intro cs
  obtain ⟨e, w', fr, r, s, x⟩ := h3 cs
  obtain ⟨ρ', v', rfl, st, hv⟩ := r
  rw [hv.bool_inv] at s x
  refine ⟨_, w', fr, ⟨rfl, fun r hr => (st.keep r hr ?_).1, st.size, st.os, st.output⟩, s, x⟩
  rintro ⟨id, o, pl, h1, h2, _⟩
  rw [firstOf_get] at h1
  cases hx : l[id]? with
  | none => rw [hx] at h1; cases h1
  | some y =>
    rw [hx] at h1
    cases h1
    simp [AO.rw, (h y (List.mem_of_getElem? hx)).ro] at h2

end
end Go.Eng
