import Derived.Test.YtjobmgleekphjaaM21
import Derived.Test.YtjobmgleekphjaaProg
import Derived.KernelRfl
set_option linter.unusedVariables false
set_option linter.unusedSimpArgs false
set_option maxRecDepth 100000
set_option maxHeartbeats 4000000
namespace Go.Eng.Lift
open Go.Proofs
noncomputable section
def orc : FuncId → Option Value := fun f => pick (Nat.beq f 28) (some (.bool true)) none
theorem K28 : PF Try.prog orc 28 [] [] [] (fun p fr tk => p = .val (.bool true) ∧ fr = [] ∧ tk = []) := PF.known rfl rfl ⟨rfl, rfl, rfl⟩
structure GItem where
  kind : Int
  font : ByteArray
  size : Int
  rune : Int
  width : Int
  height : Int
  depth : Int
  stretch : Int
  shrink : Int
  value : Int
  flag : Bool
  from_ : Int
  to_ : Int
def cGItem (x : GItem) : List PV := [.val (.int .i64 x.kind), .val (.string x.font), .val (.int .i64 x.size), .val (.int .i64 x.rune), .val (.int .i64 x.width), .val (.int .i64 x.height), .val (.int .i64 x.depth), .val (.int .i64 x.stretch), .val (.int .i64 x.shrink), .val (.int .i64 x.value), .val (.bool x.flag), .val (.int .i64 x.from_), .val (.int .i64 x.to_)]
def cB (x : Bool) : List PV := [.val (.bool x)]
def cI_i64 (x : Int) : List PV := [.val (.int .i64 x)]
structure GCost where
  bad : Int
  total : Int
  lines : Int
def cGCost (x : GCost) : List PV := [.val (.int .i64 x.bad), .val (.int .i64 x.total), .val (.int .i64 x.lines)]
structure GLine where
  first : Int
  last : Int
  break_ : Int
  natural : Int
  stretch : Int
  shrink : Int
  short : Int
  bad : Int
  class_ : Int
  over_ : Bool
  hyphen : Bool
  end_ : Bool
  height : Int
  depth : Int
def cGLine (x : GLine) : List PV := [.val (.int .i64 x.first), .val (.int .i64 x.last), .val (.int .i64 x.break_), .val (.int .i64 x.natural), .val (.int .i64 x.stretch), .val (.int .i64 x.shrink), .val (.int .i64 x.short), .val (.int .i64 x.bad), .val (.int .i64 x.class_), .val (.bool x.over_), .val (.bool x.hyphen), .val (.bool x.end_), .val (.int .i64 x.height), .val (.int .i64 x.depth)]

/-! 68 platen/line.legal -/
def F68 (k : Nat) (a0 : List GItem) (a1 : Int) : Option Bool :=
bindI a0 a1 fun y1 =>
bif y1.kind == 3 then (Option.bind (α := Bool) (bif decide (a1 > 0) then (bindI a0 (w (a1 - 1)) fun y3 =>
some (y3.kind == 1)) else (some false)) fun (v2 : Bool) =>
some v2) else (bif y1.kind == 4 then (bindI a0 a1 fun y4 =>
some (decide (y4.value < 10000))) else (some false))
theorem L68 (k : Nat) (a0 : List GItem) (a1 : Int) (r : Bool) (hF : F68 k a0 a1 = some r) : PF Try.prog orc 68 [.list 13 (List.map cGItem a0) none, .val (.int .i64 a1)] [] [] (fun p fr tk => p = .val (.bool r) ∧ fr = [] ∧ tk = []) := by
  unfold F68 at hF
  refine PF.enterS Try.func68 rfl rfl rfl (by kernel_rfl) rfl ?_
  refine PC.run (n := 2) rfl ?_
  refine PC.assoc ?_
  refine PC.region ?_
  refine PO.run 2 rfl ?_
  refine bindIK hF (fun y1 h1 h2 hF => ?_)
  refine PO.same rfl (indexAddr_ok Try.underlying42 rfl rfl rfl h1 (map_at h2)) rfl ?_
  refine PO.run 2 rfl ?_
  refine PO.nil ?_
  refine PC.block ?_
  refine PC.run (n := 3) rfl ?_
  refine PC.lone ?_
  refine PC.cond rfl (fun h3 => ?_) (fun h3 => ?_)
  · have hF := bif_t h3 hF
    refine PC.assoc ?_
    refine PC.region ?_
    refine PO.run 3 rfl ?_
    refine bindK hF (fun x4 e5 hF => ?_)
    refine PO.cut 8 (fun s => ∃ (v2 : Bool), Weak s (PS.of 31 [(4, .val (.bool false)), (22, .val (.bool v2))] [] [] 0 0) ∧ v2 = x4) ?_ ?_
    · refine PO.case (t := 14) rfl rfl (fun h6 => ?_) (fun h6 => ?_)
      · have e5 := bif_t h6 e5
        refine PO.run 3 rfl ?_
        refine bindIK e5 (fun y3 h7 h8 e5 => ?_)
        refine PO.same rfl (indexAddr_ok Try.underlying42 rfl rfl rfl h7 (map_at h8)) rfl ?_
        refine PO.run 3 rfl ?_
        refine PO.same rfl (pickT_ok rfl rfl rfl) rfl ?_
        refine PO.nil ?_
        obtain rfl := Option.some.inj e5
        exact ⟨y3.kind == 1, Weak.one [] [] (by kernel_rfl), rfl⟩
      · have e5 := bif_f h6 e5
        refine PO.run 7 rfl ?_
        refine PO.same rfl (pickF_ok rfl rfl rfl) rfl ?_
        refine PO.nil ?_
        obtain rfl := Option.some.inj e5
        exact ⟨false, Weak.one [] [] (by kernel_rfl), rfl⟩
    · rintro _ ⟨v2, w9, rfl⟩
      refine PO.weak w9 ?_
      refine PO.run 1 rfl ?_
      refine PO.nil ?_
      obtain rfl := Option.some.inj hF
      exact PC.ret (blockKP.back (retSK [] [] (by kernel_rfl) (.refl _) ⟨rfl, rfl, rfl⟩))
  · have hF := bif_f h3 hF
    refine PC.assoc ?_
    refine PC.run (n := 3) rfl ?_
    refine PC.cond rfl (fun h10 => ?_) (fun h10 => ?_)
    · have hF := bif_t h10 hF
      refine PC.assoc ?_
      refine PC.region ?_
      refine PO.run 2 rfl ?_
      refine bindIK hF (fun y4 h11 h12 hF => ?_)
      refine PO.same rfl (indexAddr_ok Try.underlying42 rfl rfl rfl h11 (map_at h12)) rfl ?_
      refine PO.run 4 rfl ?_
      refine PO.nil ?_
      obtain rfl := Option.some.inj hF
      exact PC.ret (blockKP.back (retSK [] [] (by kernel_rfl) (.refl _) ⟨rfl, rfl, rfl⟩))
    · have hF := bif_f h10 hF
      refine PC.noop ?_
      refine PC.skip (blockKP.end ?_)
      refine PC.run (n := 2) rfl ?_
      obtain rfl := Option.some.inj hF
      exact PC.ret' (retSK [] [] (by kernel_rfl) (.refl _) ⟨rfl, rfl, rfl⟩)

/-! 66i what line.Legal answers, as a list -/
theorem I66 (A : List Int) (hA : (A.length : Int) < 9223372036854775807) (k0 : Nat) : ISpec Try.prog orc 66 [] [.ptr k0 0] (fun fr => ∃ t e, fr[k0]? = some ⟨e, [.list 1 (A.map cI_i64) t]⟩) (A.map cI_i64) := by
  intro l r C hC hr J D hJ hY e fr tk H vs hR h0 hv
  obtain ⟨b1, b2, t, e1, b3⟩ := hJ 0 fr tk h0
  refine PCY.enter (K := fun p fr' tk' => match p with | none => J (A.map cI_i64).length fr' tk' | some c => D c fr' tk') Try.func66 rfl rfl rfl (by kernel_rfl) (by simp) b1 b2 hR hv ?_
  refine PCY.region (POY.of ?_)
  refine PO.same rfl (load_row rfl b3 (by kernel_rfl) rfl) rfl ?_
  refine PO.same rfl (len_ok Try.underlying43 rfl (List.length_map _)) rfl ?_
  refine PO.run 1 rfl ?_
  refine PO.nil ?_
  show PCY _ _ _ _ _ _ _ _
  refine PCY.lone ?_
  refine PCY.block ?_
  have hlen : (A.map cI_i64).length = A.length := List.length_map _
  refine PCY.loop (fun j s => ∃ (i : Nat) (fr' : List PRow) (tk' : List Nat), j + i = A.length ∧ J i fr' tk' ∧ Weak s (PS.of 16 [(0, .val (.func (.yield l) #[] #[])), (5, .list 1 (A.map cI_i64) none), (6, .val (.int .i64 (A.length : Int))), (7, .val (.int .i64 (i : Int)))] fr' tk' fr.length tk.length)) ?_ A.length ⟨0, fr, tk, rfl, h0, Weak.tms ⟨⟨_, rfl, .refl _⟩, ⟨_, rfl, .tok _ _ _⟩, ⟨_, rfl, .refl _⟩, ⟨_, rfl, .refl _⟩, trivial⟩⟩
  rintro j s ⟨i, fr', tk', hji, hj, hw⟩
  refine PCY.weak hw ?_
  refine PCY.region (POY.of ?_)
  refine PO.run 1 rfl ?_
  refine PO.nil ?_
  show PCY _ _ _ _ _ _ _ _
  refine PCY.cond rfl (fun hb => ?_) (fun hb => ?_)
  · refine PCY.noop ?_
    refine PCY.block ?_
    have hi : (i : Int) < A.length := of_decide_eq_true hb
    obtain ⟨y, hy⟩ : ∃ y, A[(i : Int).toNat]? = some y := ⟨_, List.getElem?_eq_getElem (by omega)⟩
    refine PCY.region (POY.of ?_)
    refine PO.same rfl (indexAddr_ok Try.underlying43 rfl rfl rfl (Int.natCast_nonneg i) (map_at hy)) rfl ?_
    refine PO.run 2 rfl ?_
    refine PO.nil ?_
    show PCY _ _ _ _ _ _ _ _
    refine PCY.region ?_
    refine POY.cut 2 (fun s1 => Weak s1 (PS.of 16 [(0, .val (.func (.yield l) #[] #[])), (5, .list 1 (A.map cI_i64) none), (6, .val (.int .i64 (A.length : Int))), (7, .val (.int .i64 (i : Int))), (11, .val (.func (.yield l) #[] #[])), (12, .val (.int .i64 y))] fr' tk' fr.length tk.length)) (PO.run 2 rfl (PO.nil (Weak.tms ⟨⟨_, rfl, .refl _⟩, ⟨_, rfl, .refl _⟩, ⟨_, rfl, .refl _⟩, ⟨_, rfl, .refl _⟩, ⟨_, rfl, .refl _⟩, ⟨_, rfl, .refl _⟩, trivial⟩))) ?_
    intro s1 hw1
    refine POY.weak hw1 ?_
    have hx : (A.map cI_i64)[i]? = some (cI_i64 y) := by rw [show (i : Int).toNat = i by omega] at hy; rw [List.getElem?_map, hy]; rfl
    refine POY.yield hC hr rfl rfl rfl rfl rfl rfl (hY i _ fr' tk' hx hj) ?_
    intro p fr2 tk2 hk
    have wi : IntKind.i64.wrap ((i : Int) + 1) = ((i + 1 : Nat) : Int) := by
      rw [IntKind.wrap_i64]; omega
    cases p with
    | none =>
      refine POY.of ?_
      refine PO.run 1 rfl ?_
      refine PO.nil ?_
      show PCY _ _ _ _ _ _ _ _
      refine PCY.lone ?_
      refine PCY.cond rfl (fun hb => by cases hb) (fun _ => ?_)
      refine PCY.noop ?_
      refine PCY.of (PC.skip ?_)
      show PCY _ _ _ _ _ _ _ _
      refine PCY.lone ?_
      refine PCY.region (POY.of ?_)
      refine PO.run 2 rfl ?_
      refine PO.nil ?_
      show PCY _ _ _ _ _ _ _ _
      refine PCY.of (PC.skip ?_)
      refine ⟨j - 1, by omega, i + 1, fr2, tk2, by omega, hk, ?_⟩
      rw [← wi]
      exact Weak.tms ⟨⟨_, rfl, .refl _⟩, ⟨_, rfl, .refl _⟩, ⟨_, rfl, .refl _⟩, ⟨_, rfl, .refl _⟩, trivial⟩
    | some c =>
      show PO _ _ _ _ _ _ _
      refine PO.run 1 rfl ?_
      refine PO.nil ?_
      show PC _ _ _ _ _ _
      refine PC.lone ?_
      refine PC.cond rfl (fun _ => ?_) (fun hb => by cases hb)
      exact PC.ret ⟨trivial, rfl, ⟨_, rfl⟩, hk⟩
  · have hi : ¬ (i : Int) < A.length := of_decide_eq_false hb
    refine PCY.of (PC.exit ?_)
    refine loopKY.exit (blockKY.here ?_)
    show PCY _ _ _ _ _ _ _ _
    have e2 : (A.map cI_i64).length = i := by omega
    refine PCY.of (PC.skip ⟨trivial, rfl, ⟨_, rfl⟩, ?_⟩)
    show J (A.map cI_i64).length _ _
    rw [e2]
    exact hj


/-! 93i line.walk, as a list -/
def walkL (k : Nat) (L : List GItem) : Nat → Int → Option (List Int)
  | 0, _ => none
  | j + 1, i => bif decide (i < (L.length : Int)) then (F68 k L i).bind fun b => (walkL k L j (w (i + 1))).bind fun r => some (bif b then i :: r else r) else some []

theorem I93 (k : Nat) (L : List GItem) (j0 : Nat) (A : List Int) (hA : walkL k L j0 0 = some A) (k0 : Nat) : ISpec Try.prog orc 93 [] [.ptr k0 0] (fun fr => ∃ t e, fr[k0]? = some ⟨e, [.list 13 (L.map cGItem) t]⟩) (A.map cI_i64) := by
  intro l r C hC hr J D hJ hY e fr tk H vs hR h0 hv
  obtain ⟨b1, b2, t, e1, b3⟩ := hJ 0 fr tk h0
  refine PCY.enter (K := fun p fr' tk' => match p with | none => J (A.map cI_i64).length fr' tk' | some c => D c fr' tk') Try.func93 rfl rfl rfl (by kernel_rfl) (by simp) b1 b2 hR hv ?_
  refine PCY.region (POY.of ?_)
  refine PO.same rfl (load_row rfl b3 (by kernel_rfl) rfl) rfl ?_
  refine PO.same rfl (len_ok Try.underlying42 rfl (List.length_map _)) rfl ?_
  refine PO.run 1 rfl ?_
  refine PO.nil ?_
  show PCY _ _ _ _ _ _ _ _
  refine PCY.lone ?_
  refine PCY.block ?_
  have hlen : (A.map cI_i64).length = A.length := List.length_map _
  refine PCY.loop (fun j s => ∃ (i : Int) (n : Nat) (fr' : List PRow) (tk' : List Nat), walkL k L j i = some (A.drop n) ∧ n ≤ A.length ∧ J n fr' tk' ∧ Weak s (PS.of 19 [(0, .val (.func (.yield l) #[] #[])), (1, .ptr k0 0), (5, .val (.int .i64 (L.length : Int))), (6, .val (.int .i64 i))] fr' tk' fr.length tk.length)) ?_ j0 ⟨0, 0, fr, tk, by rw [hA]; rfl, Nat.zero_le _, h0, Weak.tms ⟨⟨_, rfl, .refl _⟩, ⟨_, rfl, .refl _⟩, ⟨_, rfl, .refl _⟩, ⟨_, rfl, .refl _⟩, trivial⟩⟩
  rintro j s ⟨i, n, fr', tk', hW, hn, hj, hw⟩
  refine PCY.weak hw ?_
  cases j with
  | zero => cases hW
  | succ j =>
  unfold walkL at hW
  refine PCY.region (POY.of ?_)
  refine PO.run 1 rfl ?_
  refine PO.nil ?_
  show PCY _ _ _ _ _ _ _ _
  refine PCY.cond rfl (fun hb => ?_) (fun hb => ?_)
  · rw [hb, cond_true] at hW
    refine Exists.elim (bind_some hW) (fun b hq => ?_)
    have e2 := hq.1
    refine Exists.elim (bind_some hq.2) (fun r3 hq3 => ?_)
    have e3 := hq3.1
    have e4 := Option.some.inj hq3.2
    clear hq hq3 hW
    refine PCY.noop ?_
    refine PCY.block ?_
    refine PCY.region (POY.of ?_)
    refine PO.run 2 rfl ?_
    refine PO.nil ?_
    show PCY _ _ _ _ _ _ _ _
    obtain ⟨_, _, t', e1', b3'⟩ := hJ n fr' tk' hj
    refine PCY.region ?_
    refine POY.cut 4 (fun s1 => Weak s1 (PS.of 19 [(0, .val (.func (.yield l) #[] #[])), (1, .ptr k0 0), (3, .val (.int .i64 i)), (5, .val (.int .i64 (L.length : Int))), (6, .val (.int .i64 i)), (12, .val (.bool b))] fr' tk' fr.length tk.length)) ?_ ?_
    · refine PO.same rfl (load_row rfl b3' (by kernel_rfl) rfl) rfl ?_
      refine PO.run 1 rfl ?_
      refine PO.weak (Weak.tms (es := [(0, .val (.func (.yield l) #[] #[])), (1, .ptr k0 0), (3, .val (.int .i64 i)), (5, .val (.int .i64 (L.length : Int))), (6, .val (.int .i64 i)), (9, .list 13 (L.map cGItem) none), (10, .val (.int .i64 i))]) ⟨⟨_, rfl, .refl _⟩, ⟨_, rfl, .refl _⟩, ⟨_, rfl, .refl _⟩, ⟨_, rfl, .refl _⟩, ⟨_, rfl, .refl _⟩, ⟨_, rfl, .tok _ _ _⟩, ⟨_, rfl, .refl _⟩, trivial⟩) ?_
      refine PO.call rfl rfl rfl rfl (ks := []) (ts := []) (fr1 := []) rfl rfl rfl trivial (L68 k L i _ e2) ?_
      rintro _ _ _ ⟨rfl, rfl, rfl⟩
      refine ⟨_, _, rfl, rfl, ?_⟩
      refine PO.run 1 rfl ?_
      refine PO.nil ?_
      exact Weak.tms' ⟨⟨_, rfl, .refl _⟩, ⟨_, rfl, .refl _⟩, ⟨_, rfl, .refl _⟩, ⟨_, rfl, .refl _⟩, ⟨_, rfl, .refl _⟩, ⟨_, rfl, .refl _⟩, trivial⟩ (merge_nil fr') (merge_nil tk')
    · intro s1 hw1
      refine POY.weak hw1 ?_
      cases b with
      | false =>
        have e5 : r3 = A.drop n := e4
        refine POY.of ?_
        refine PO.run 4 rfl ?_
        refine PO.same rfl (pickF_ok rfl rfl rfl) rfl ?_
        refine PO.nil ?_
        show PCY _ _ _ _ _ _ _ _
        refine PCY.lone ?_
        refine PCY.cond rfl (fun hb => by cases hb) (fun _ => ?_)
        refine PCY.noop ?_
        refine PCY.of (PC.skip ?_)
        show PCY _ _ _ _ _ _ _ _
        refine PCY.lone ?_
        refine PCY.region (POY.of ?_)
        refine PO.run 2 rfl ?_
        refine PO.nil ?_
        show PCY _ _ _ _ _ _ _ _
        refine PCY.of (PC.skip ?_)
        refine ⟨j, Nat.lt_succ_self _, w (i + 1), n, fr', tk', by rw [← e5]; exact e3, hn, hj, ?_⟩
        exact Weak.tms ⟨⟨_, rfl, .refl _⟩, ⟨_, rfl, .refl _⟩, ⟨_, rfl, .refl _⟩, ⟨_, rfl, .refl _⟩, trivial⟩
      | true =>
        have e5 : i :: r3 = A.drop n := e4
        have hlt : n < A.length := by
          rcases Nat.lt_or_ge n A.length with h | h
          · exact h
          · rw [List.drop_eq_nil_of_le h] at e5; cases e5
        have hAn : A[n]? = some i ∧ A.drop (n + 1) = r3 := by
          rw [List.drop_eq_getElem_cons hlt] at e5
          simp only [List.cons.injEq] at e5
          exact ⟨by rw [List.getElem?_eq_getElem hlt, ← e5.1], e5.2.symm⟩
        have hx : (A.map cI_i64)[n]? = some (cI_i64 i) := by rw [List.getElem?_map, hAn.1]; rfl
        refine POY.cut 2 (fun s1 => Weak s1 (PS.of 19 [(0, .val (.func (.yield l) #[] #[])), (1, .ptr k0 0), (3, .val (.int .i64 i)), (5, .val (.int .i64 (L.length : Int))), (6, .val (.int .i64 i)), (12, .val (.bool true)), (13, .val (.func (.yield l) #[] #[])), (14, .val (.int .i64 i))] fr' tk' fr.length tk.length)) (PO.run 2 rfl (PO.nil (Weak.tms ⟨⟨_, rfl, .refl _⟩, ⟨_, rfl, .refl _⟩, ⟨_, rfl, .refl _⟩, ⟨_, rfl, .refl _⟩, ⟨_, rfl, .refl _⟩, ⟨_, rfl, .refl _⟩, ⟨_, rfl, .refl _⟩, ⟨_, rfl, .refl _⟩, trivial⟩))) ?_
        intro s2 hw2
        refine POY.weak hw2 ?_
        refine POY.yield hC hr rfl rfl rfl rfl rfl rfl (hY n _ fr' tk' hx hj) ?_
        intro p fr2 tk2 hk
        cases p with
        | none =>
          refine POY.of ?_
          refine PO.run 1 rfl ?_
          refine PO.same rfl (pickT_ok rfl rfl rfl) rfl ?_
          refine PO.nil ?_
          show PCY _ _ _ _ _ _ _ _
          refine PCY.lone ?_
          refine PCY.cond rfl (fun hb => by cases hb) (fun _ => ?_)
          refine PCY.noop ?_
          refine PCY.of (PC.skip ?_)
          show PCY _ _ _ _ _ _ _ _
          refine PCY.lone ?_
          refine PCY.region (POY.of ?_)
          refine PO.run 2 rfl ?_
          refine PO.nil ?_
          show PCY _ _ _ _ _ _ _ _
          refine PCY.of (PC.skip ?_)
          refine ⟨j, Nat.lt_succ_self _, w (i + 1), n + 1, fr2, tk2, by rw [hAn.2]; exact e3, hlt, hk, ?_⟩
          exact Weak.tms ⟨⟨_, rfl, .refl _⟩, ⟨_, rfl, .refl _⟩, ⟨_, rfl, .refl _⟩, ⟨_, rfl, .refl _⟩, trivial⟩
        | some c =>
          show PO _ _ _ _ _ _ _
          refine PO.run 1 rfl ?_
          refine PO.same rfl (pickT_ok rfl rfl rfl) rfl ?_
          refine PO.nil ?_
          show PC _ _ _ _ _ _
          refine PC.lone ?_
          refine PC.cond rfl (fun _ => ?_) (fun hb => by cases hb)
          exact PC.ret ⟨trivial, rfl, ⟨_, rfl⟩, hk⟩
  · rw [hb, cond_false] at hW
    have e5 : A.drop n = [] := (Option.some.inj hW).symm
    have hnl : (A.map cI_i64).length = n := by
      have := congrArg List.length e5
      simp at this
      omega
    refine PCY.of (PC.exit ?_)
    refine loopKY.exit (blockKY.here ?_)
    show PCY _ _ _ _ _ _ _ _
    refine PCY.of (PC.skip ⟨trivial, rfl, ⟨_, rfl⟩, ?_⟩)
    show J (A.map cI_i64).length _ _
    rw [hnl]
    exact hj


/-! 60 platen/platenlaw14.more -/
def F60 (k : Nat) (a0 : Int) (a1 : Int) : Option Int :=
Option.bind (α := Bool) (bif decide (a0 > 2147483647) then (some true) else (some (decide (a1 > (w (2147483647 - a0)))))) fun (v1 : Bool) =>
bif v1 then (some 2147483648) else (some (w (a0 + a1)))
theorem L60 (k : Nat) (a0 : Int) (a1 : Int) (r : Int) (hF : F60 k a0 a1 = some r) : PF Try.prog orc 60 [.val (.int .i64 a0), .val (.int .i64 a1)] [] [] (fun p fr tk => p = .val (.int .i64 r) ∧ fr = [] ∧ tk = []) := by
  unfold F60 at hF
  refine PF.enterS Try.func60 rfl rfl rfl (by kernel_rfl) rfl ?_
  refine PC.run (n := 2) rfl ?_
  refine PC.assoc ?_
  refine PC.region ?_
  refine PO.run 3 rfl ?_
  refine bindK hF (fun x1 e2 hF => ?_)
  refine PO.cut 5 (fun s => ∃ (v1 : Bool), Weak s (PS.of 16 [(0, .val (.int .i64 a0)), (1, .val (.int .i64 a1)), (4, .val (.int .i64 0)), (12, .val (.bool v1))] [] [] 0 0) ∧ v1 = x1) ?_ ?_
  · refine PO.case (t := 7) rfl rfl (fun h3 => ?_) (fun h3 => ?_)
    · have e2 := bif_t h3 e2
      refine PO.run 4 rfl ?_
      refine PO.same rfl (pickT_ok rfl rfl rfl) rfl ?_
      refine PO.nil ?_
      obtain rfl := Option.some.inj e2
      exact ⟨true, Weak.one [] [] (by kernel_rfl), rfl⟩
    · have e2 := bif_f h3 e2
      refine PO.run 4 rfl ?_
      refine PO.same rfl (pickF_ok rfl rfl rfl) rfl ?_
      refine PO.nil ?_
      obtain rfl := Option.some.inj e2
      exact ⟨decide (a1 > (w (2147483647 - a0))), Weak.one [] [] (by kernel_rfl), rfl⟩
  · rintro _ ⟨v1, w4, rfl⟩
    refine PO.weak w4 ?_
    refine PO.nil ?_
    refine PC.cond rfl (fun h5 => ?_) (fun h5 => ?_)
    · have hF := bif_t h5 hF
      refine PC.assoc ?_
      refine PC.run (n := 2) rfl ?_
      obtain rfl := Option.some.inj hF
      exact PC.ret (retSK [] [] (by kernel_rfl) (.refl _) ⟨rfl, rfl, rfl⟩)
    · have hF := bif_f h5 hF
      refine PC.noop ?_
      refine PC.run (n := 5) rfl ?_
      obtain rfl := Option.some.inj hF
      exact PC.ret' (retSK [] [] (by kernel_rfl) (.refl _) ⟨rfl, rfl, rfl⟩)

/-! 27 platen/platenlaw14.beyond -/
def F27_l1 (k : Nat) (a0 : List GItem) : Nat → Int → Int → Option Int
  | 0, _, _ => none
  | j3 + 1, v4, v5 =>
    Option.bind (α := Bool) (bif decide (v5 < (a0.length : Int)) then (some (decide (v4 ≤ 2147483647))) else (some false)) fun (v8 : Bool) =>
    bif v8 then (bindI a0 v5 fun y9 =>
    (F60 k v4 (y9.font.size : Int)).bind fun r12 =>
    F27_l1 k a0 j3 r12 (w (v5 + 1))) else (some v4)
def F27 (k : Nat) (a0 : List GItem) : Option Bool :=
Option.bind (α := Int) (F27_l1 k a0 k (a0.length : Int) 0) fun (v1 : Int) =>
some (decide (v1 > 2147483647))
theorem L27 (k : Nat) (a0 : List GItem) (r : Bool) (hF : F27 k a0 = some r) : PF Try.prog orc 27 [.list 13 (List.map cGItem a0) none] [] [] (fun p fr tk => p = .val (.bool r) ∧ fr = [] ∧ tk = []) := by
  unfold F27 at hF
  refine PF.enterS Try.func27 rfl rfl rfl (by kernel_rfl) rfl ?_
  refine PC.run (n := 2) rfl ?_
  refine PC.region ?_
  refine PO.run 1 rfl ?_
  refine PO.same rfl (len_ok Try.underlying42 rfl (List.length_map _)) rfl ?_
  refine PO.run 1 rfl ?_
  refine PO.nil ?_
  refine PC.assoc ?_
  refine PC.run (n := 2) rfl ?_
  refine bindK hF (fun x1 e2 hF => ?_)
  refine PC.blockJ (fun s => ∃ (v1 : Int), Weak s (PS.of 27 [(2, .val (.bool false)), (3, .val (.int .i64 v1))] [] [] 0 0) ∧ v1 = x1) ?_ ?_
  · refine PC.loop (fun j3 s => ∃ (v4 : Int) (v5 : Int), Weak s (PS.of 27 [(0, .list 13 (List.map cGItem a0) none), (2, .val (.bool false)), (3, .val (.int .i64 v4)), (4, .val (.int .i64 v5))] [] [] 0 0) ∧ F27_l1 k a0 j3 v4 v5 = some x1) (fun j3 s => ?_) k ⟨(a0.length : Int), 0, Weak.one [] [] (by kernel_rfl), e2⟩
    rintro ⟨v4, v5, w4, e2⟩
    refine PC.weak w4 ?_
    cases j3 with
    | zero => rw [F27_l1] at e2; cases e2
    | succ j3 =>
      rw [F27_l1] at e2
      refine PC.assoc ?_
      refine PC.region ?_
      refine PO.run 2 rfl ?_
      refine PO.same rfl (len_ok Try.underlying42 rfl (List.length_map _)) rfl ?_
      refine PO.run 2 rfl ?_
      refine bindK e2 (fun x5 e6 e2 => ?_)
      refine PO.cut 3 (fun s => ∃ (v8 : Bool), Weak s (PS.of 27 [(0, .list 13 (List.map cGItem a0) none), (2, .val (.bool false)), (3, .val (.int .i64 v4)), (4, .val (.int .i64 v5)), (14, .val (.bool v8))] [] [] 0 0) ∧ v8 = x5) ?_ ?_
      · refine PO.case (t := 11) rfl rfl (fun h7 => ?_) (fun h7 => ?_)
        · have e6 := bif_t h7 e6
          refine PO.run 2 rfl ?_
          refine PO.same rfl (pickT_ok rfl rfl rfl) rfl ?_
          refine PO.nil ?_
          obtain rfl := Option.some.inj e6
          exact ⟨decide (v4 ≤ 2147483647), Weak.one [] [] (by kernel_rfl), rfl⟩
        · have e6 := bif_f h7 e6
          refine PO.run 2 rfl ?_
          refine PO.same rfl (pickF_ok rfl rfl rfl) rfl ?_
          refine PO.nil ?_
          obtain rfl := Option.some.inj e6
          exact ⟨false, Weak.one [] [] (by kernel_rfl), rfl⟩
      · rintro _ ⟨v8, w8, rfl⟩
        refine PO.weak w8 ?_
        refine PO.nil ?_
        refine PC.cond rfl (fun h9 => ?_) (fun h9 => ?_)
        · have e2 := bif_t h9 e2
          refine PC.noop ?_
          refine PC.block ?_
          refine PC.lone ?_
          refine PC.region ?_
          refine PO.run 3 rfl ?_
          refine bindIK e2 (fun y9 h10 h11 e2 => ?_)
          refine PO.same rfl (indexAddr_ok Try.underlying42 rfl rfl rfl h10 (map_at h11)) rfl ?_
          refine PO.run 2 rfl ?_
          refine PO.same rfl (lenStr_ok Try.underlying9 rfl) rfl ?_
          refine bindK e2 (fun r12 e13 e2 => ?_)
          refine PO.call rfl rfl rfl rfl (ks := []) (ts := []) (fr1 := []) rfl rfl rfl trivial (L60 k v4 (y9.font.size : Int) _ e13) ?_
          rintro _ _ _ ⟨rfl, rfl, rfl⟩
          refine ⟨_, _, rfl, rfl, ?_⟩
          refine PO.run 1 rfl ?_
          refine PO.nil ?_
          refine PC.skip (blockKP.end ?_)
          refine PC.lone ?_
          refine PC.run (n := 4) rfl ?_
          exact PC.skip (loopKP.mk (Nat.lt_succ_self _) ⟨r12, w (v5 + 1), Weak.one [] [] (by kernel_rfl), e2⟩)
        · have e2 := bif_f h9 e2
          obtain rfl := Option.some.inj e2
          exact PC.exit (loopKP.exit (blockJK.here ⟨v4, Weak.one [] [] (by kernel_rfl), rfl⟩))
  · rintro _ ⟨v1, w14, rfl⟩
    refine PC.weak w14 ?_
    refine PC.run (n := 4) rfl ?_
    obtain rfl := Option.some.inj hF
    exact PC.ret' (retSK [] [] (by kernel_rfl) (.refl _) ⟨rfl, rfl, rfl⟩)

/-! 92 platen/items.within -/
def F92 (k : Nat) (a0 : Int) (a1 : Int) (a2 : Int) : Option Bool :=
Option.bind (α := Bool) (bif decide (a1 ≤ a0) then (some (decide (a0 ≤ a2))) else (some false)) fun (v1 : Bool) =>
some v1
theorem L92 (k : Nat) (a0 : Int) (a1 : Int) (a2 : Int) (r : Bool) (hF : F92 k a0 a1 a2 = some r) : PF Try.prog orc 92 [.val (.int .i64 a0), .val (.int .i64 a1), .val (.int .i64 a2)] [] [] (fun p fr tk => p = .val (.bool r) ∧ fr = [] ∧ tk = []) := by
  unfold F92 at hF
  refine PF.enterS Try.func92 rfl rfl rfl (by kernel_rfl) rfl ?_
  refine PC.run (n := 2) rfl ?_
  refine PC.region ?_
  refine PO.run 4 rfl ?_
  refine bindK hF (fun x1 e2 hF => ?_)
  refine PO.cut 4 (fun s => ∃ (v1 : Bool), Weak s (PS.of 15 [(6, .val (.bool false)), (14, .val (.bool v1))] [] [] 0 0) ∧ v1 = x1) ?_ ?_
  · refine PO.case (t := 10) rfl rfl (fun h3 => ?_) (fun h3 => ?_)
    · have e2 := bif_t h3 e2
      refine PO.run 3 rfl ?_
      refine PO.same rfl (pickT_ok rfl rfl rfl) rfl ?_
      refine PO.nil ?_
      obtain rfl := Option.some.inj e2
      exact ⟨decide (a0 ≤ a2), Weak.one [] [] (by kernel_rfl), rfl⟩
    · have e2 := bif_f h3 e2
      refine PO.run 3 rfl ?_
      refine PO.same rfl (pickF_ok rfl rfl rfl) rfl ?_
      refine PO.nil ?_
      obtain rfl := Option.some.inj e2
      exact ⟨false, Weak.one [] [] (by kernel_rfl), rfl⟩
  · rintro _ ⟨v1, w4, rfl⟩
    refine PO.weak w4 ?_
    refine PO.run 1 rfl ?_
    refine PO.nil ?_
    obtain rfl := Option.some.inj hF
    exact PC.ret' (retSK [] [] (by kernel_rfl) (.refl _) ⟨rfl, rfl, rfl⟩)

/-! 104 platen/items.measured -/
def F104 (k : Nat) (a0 : GItem) : Option Bool :=
(F92 k a0.size 1 67108864).bind fun r1 =>
Option.bind (α := Bool) (bif r1 then ((F92 k a0.width 0 1099511627776).bind fun r6 =>
Option.bind (α := Bool) (bif r6 then ((F92 k a0.height 0 1099511627776).bind fun r11 =>
Option.bind (α := Bool) (bif r11 then ((F92 k a0.depth 0 1099511627776).bind fun r16 =>
some r16) else (some false)) fun (v3 : Bool) =>
some v3) else (some false)) fun (v2 : Bool) =>
some v2) else (some false)) fun (v1 : Bool) =>
some v1
theorem L104 (k : Nat) (a0 : GItem) (r : Bool) (hF : F104 k a0 = some r) : PF Try.prog orc 104 [.agg (cGItem a0)] [] [] (fun p fr tk => p = .val (.bool r) ∧ fr = [] ∧ tk = []) := by
  unfold F104 at hF
  refine PF.enterS Try.func104 rfl rfl rfl (by kernel_rfl) rfl ?_
  refine PC.region ?_
  refine PO.runK 2 [0] [] (es := [(1, .ptr 0 0), (2, .val (.bool false))]) (fr' := [⟨0, (cGItem a0)⟩]) (tk' := []) (by kernel_rfl) ?_
  refine PO.nil ?_
  refine PC.region ?_
  refine PO.run 2 rfl ?_
  refine bindK hF (fun r1 e2 hF => ?_)
  refine PO.call rfl rfl rfl rfl (ks := []) (ts := []) (fr1 := []) rfl rfl rfl trivial (L92 k a0.size 1 67108864 _ e2) ?_
  rintro _ _ _ ⟨rfl, rfl, rfl⟩
  refine ⟨_, _, rfl, rfl, ?_⟩
  refine PO.run 1 rfl ?_
  refine bindK hF (fun x3 e4 hF => ?_)
  refine PO.cut 14 (fun s => ∃ (v1 : Bool), Weak s (PS.of 21 [(2, .val (.bool false)), (20, .val (.bool v1))] [] [] 0 0) ∧ v1 = x3) ?_ ?_
  · refine PO.case (t := 6) rfl rfl (fun h5 => ?_) (fun h5 => ?_)
    · have e4 := bif_t h5 e4
      refine PO.run 2 rfl ?_
      refine bindK e4 (fun r6 e7 e4 => ?_)
      refine PO.call rfl rfl rfl rfl (ks := []) (ts := []) (fr1 := []) rfl rfl rfl trivial (L92 k a0.width 0 1099511627776 _ e7) ?_
      rintro _ _ _ ⟨rfl, rfl, rfl⟩
      refine ⟨_, _, rfl, rfl, ?_⟩
      refine PO.same rfl (pickT_ok rfl rfl rfl) rfl ?_
      refine PO.run 1 rfl ?_
      refine bindK e4 (fun x8 e9 e4 => ?_)
      refine PO.cut 9 (fun s => ∃ (v2 : Bool), Weak s (PS.of 21 [(2, .val (.bool false)), (20, .val (.bool v2))] [] [] 0 0) ∧ v2 = x8) ?_ ?_
      · refine PO.case (t := 11) rfl rfl (fun h10 => ?_) (fun h10 => ?_)
        · have e9 := bif_t h10 e9
          refine PO.run 2 rfl ?_
          refine bindK e9 (fun r11 e12 e9 => ?_)
          refine PO.call rfl rfl rfl rfl (ks := []) (ts := []) (fr1 := []) rfl rfl rfl trivial (L92 k a0.height 0 1099511627776 _ e12) ?_
          rintro _ _ _ ⟨rfl, rfl, rfl⟩
          refine ⟨_, _, rfl, rfl, ?_⟩
          refine PO.same rfl (pickT_ok rfl rfl rfl) rfl ?_
          refine PO.run 1 rfl ?_
          refine bindK e9 (fun x13 e14 e9 => ?_)
          refine PO.cut 4 (fun s => ∃ (v3 : Bool), Weak s (PS.of 21 [(2, .val (.bool false)), (20, .val (.bool v3))] [] [] 0 0) ∧ v3 = x13) ?_ ?_
          · refine PO.case (t := 16) rfl rfl (fun h15 => ?_) (fun h15 => ?_)
            · have e14 := bif_t h15 e14
              refine PO.run 2 rfl ?_
              refine bindK e14 (fun r16 e17 e14 => ?_)
              refine PO.call rfl rfl rfl rfl (ks := []) (ts := []) (fr1 := []) rfl rfl rfl trivial (L92 k a0.depth 0 1099511627776 _ e17) ?_
              rintro _ _ _ ⟨rfl, rfl, rfl⟩
              refine ⟨_, _, rfl, rfl, ?_⟩
              refine PO.same rfl (pickT_ok rfl rfl rfl) rfl ?_
              refine PO.nil ?_
              obtain rfl := Option.some.inj e14
              exact ⟨r16, Weak.one [] [] (by kernel_rfl), rfl⟩
            · have e14 := bif_f h15 e14
              refine PO.run 3 rfl ?_
              refine PO.same rfl (pickF_ok rfl rfl rfl) rfl ?_
              refine PO.nil ?_
              obtain rfl := Option.some.inj e14
              exact ⟨false, Weak.one [] [] (by kernel_rfl), rfl⟩
          · rintro _ ⟨v3, w18, rfl⟩
            refine PO.weak w18 ?_
            refine PO.nil ?_
            obtain rfl := Option.some.inj e9
            exact ⟨v3, Weak.one [] [] (by kernel_rfl), rfl⟩
        · have e9 := bif_f h10 e9
          refine PO.run 3 rfl ?_
          refine PO.same rfl (pickF_ok rfl rfl rfl) rfl ?_
          refine PO.run 4 rfl ?_
          refine PO.same rfl (pickF_ok rfl rfl rfl) rfl ?_
          refine PO.nil ?_
          obtain rfl := Option.some.inj e9
          exact ⟨false, Weak.one [] [] (by kernel_rfl), rfl⟩
      · rintro _ ⟨v2, w19, rfl⟩
        refine PO.weak w19 ?_
        refine PO.nil ?_
        obtain rfl := Option.some.inj e4
        exact ⟨v2, Weak.one [] [] (by kernel_rfl), rfl⟩
    · have e4 := bif_f h5 e4
      refine PO.run 3 rfl ?_
      refine PO.same rfl (pickF_ok rfl rfl rfl) rfl ?_
      refine PO.run 4 rfl ?_
      refine PO.same rfl (pickF_ok rfl rfl rfl) rfl ?_
      refine PO.run 4 rfl ?_
      refine PO.same rfl (pickF_ok rfl rfl rfl) rfl ?_
      refine PO.nil ?_
      obtain rfl := Option.some.inj e4
      exact ⟨false, Weak.one [] [] (by kernel_rfl), rfl⟩
  · rintro _ ⟨v1, w20, rfl⟩
    refine PO.weak w20 ?_
    refine PO.run 1 rfl ?_
    refine PO.nil ?_
    obtain rfl := Option.some.inj hF
    exact PC.ret' (retSK [] [] (by kernel_rfl) (.refl _) ⟨rfl, rfl, rfl⟩)

/-! 110 unicode/utf8.RuneLen -/
def F110 (k : Nat) (a0 : Int) : Option Int :=
bif decide (a0 < 0) then (some (-1)) else (bif decide (a0 ≤ 127) then (some 1) else (bif decide (a0 ≤ 2047) then (some 2) else (Option.bind (α := Bool) (bif decide (55296 ≤ a0) then (some (decide (a0 ≤ 57343))) else (some false)) fun (v1 : Bool) =>
bif v1 then (some (-1)) else (bif decide (a0 ≤ 65535) then (some 3) else (bif decide (a0 ≤ 1114111) then (some 4) else (some (-1)))))))
theorem L110 (k : Nat) (a0 : Int) (r : Int) (hF : F110 k a0 = some r) : PF Try.prog orc 110 [.val (.int .i32 a0)] [] [] (fun p fr tk => p = .val (.int .i64 r) ∧ fr = [] ∧ tk = []) := by
  unfold F110 at hF
  refine PF.enterS Try.func110 rfl rfl rfl (by kernel_rfl) rfl ?_
  refine PC.run (n := 2) rfl ?_
  refine PC.block ?_
  refine PC.run (n := 4) rfl ?_
  refine PC.lone ?_
  refine PC.cond rfl (fun h1 => ?_) (fun h1 => ?_)
  · have hF := bif_t h1 hF
    refine PC.assoc ?_
    refine PC.run (n := 2) rfl ?_
    obtain rfl := Option.some.inj hF
    exact PC.ret (blockKP.back (retSK [] [] (by kernel_rfl) (.refl _) ⟨rfl, rfl, rfl⟩))
  · have hF := bif_f h1 hF
    refine PC.assoc ?_
    refine PC.run (n := 4) rfl ?_
    refine PC.cond rfl (fun h2 => ?_) (fun h2 => ?_)
    · have hF := bif_t h2 hF
      refine PC.assoc ?_
      refine PC.run (n := 2) rfl ?_
      obtain rfl := Option.some.inj hF
      exact PC.ret (blockKP.back (retSK [] [] (by kernel_rfl) (.refl _) ⟨rfl, rfl, rfl⟩))
    · have hF := bif_f h2 hF
      refine PC.assoc ?_
      refine PC.run (n := 4) rfl ?_
      refine PC.cond rfl (fun h3 => ?_) (fun h3 => ?_)
      · have hF := bif_t h3 hF
        refine PC.assoc ?_
        refine PC.run (n := 2) rfl ?_
        obtain rfl := Option.some.inj hF
        exact PC.ret (blockKP.back (retSK [] [] (by kernel_rfl) (.refl _) ⟨rfl, rfl, rfl⟩))
      · have hF := bif_f h3 hF
        refine PC.assoc ?_
        refine PC.region ?_
        refine PO.run 3 rfl ?_
        refine bindK hF (fun x4 e5 hF => ?_)
        refine PO.cut 3 (fun s => ∃ (v1 : Bool), Weak s (PS.of 25 [(0, .val (.int .i32 a0)), (2, .val (.int .i64 0)), (18, .val (.bool v1))] [] [] 0 0) ∧ v1 = x4) ?_ ?_
        · refine PO.case (t := 15) rfl rfl (fun h6 => ?_) (fun h6 => ?_)
          · have e5 := bif_t h6 e5
            refine PO.run 2 rfl ?_
            refine PO.same rfl (pickT_ok rfl rfl rfl) rfl ?_
            refine PO.nil ?_
            obtain rfl := Option.some.inj e5
            exact ⟨decide (a0 ≤ 57343), Weak.one [] [] (by kernel_rfl), rfl⟩
          · have e5 := bif_f h6 e5
            refine PO.run 2 rfl ?_
            refine PO.same rfl (pickF_ok rfl rfl rfl) rfl ?_
            refine PO.nil ?_
            obtain rfl := Option.some.inj e5
            exact ⟨false, Weak.one [] [] (by kernel_rfl), rfl⟩
        · rintro _ ⟨v1, w7, rfl⟩
          refine PO.weak w7 ?_
          refine PO.run 1 rfl ?_
          refine PO.nil ?_
          refine PC.cond rfl (fun h8 => ?_) (fun h8 => ?_)
          · have hF := bif_t h8 hF
            refine PC.assoc ?_
            refine PC.run (n := 2) rfl ?_
            obtain rfl := Option.some.inj hF
            exact PC.ret (blockKP.back (retSK [] [] (by kernel_rfl) (.refl _) ⟨rfl, rfl, rfl⟩))
          · have hF := bif_f h8 hF
            refine PC.assoc ?_
            refine PC.run (n := 4) rfl ?_
            refine PC.cond rfl (fun h9 => ?_) (fun h9 => ?_)
            · have hF := bif_t h9 hF
              refine PC.assoc ?_
              refine PC.run (n := 2) rfl ?_
              obtain rfl := Option.some.inj hF
              exact PC.ret (blockKP.back (retSK [] [] (by kernel_rfl) (.refl _) ⟨rfl, rfl, rfl⟩))
            · have hF := bif_f h9 hF
              refine PC.assoc ?_
              refine PC.run (n := 4) rfl ?_
              refine PC.cond rfl (fun h10 => ?_) (fun h10 => ?_)
              · have hF := bif_t h10 hF
                refine PC.assoc ?_
                refine PC.run (n := 2) rfl ?_
                obtain rfl := Option.some.inj hF
                exact PC.ret (blockKP.back (retSK [] [] (by kernel_rfl) (.refl _) ⟨rfl, rfl, rfl⟩))
              · have hF := bif_f h10 hF
                refine PC.noop ?_
                refine PC.skip (blockKP.end ?_)
                refine PC.run (n := 2) rfl ?_
                obtain rfl := Option.some.inj hF
                exact PC.ret' (retSK [] [] (by kernel_rfl) (.refl _) ⟨rfl, rfl, rfl⟩)

/-! 105 platen/runes.Width -/
def F105 (k : Nat) (a0 : Int) : Option Int :=
Option.bind (α := Bool) (bif decide (a0 < 0) then (some true) else (Option.bind (α := Bool) (bif decide (a0 > 1114111) then (some true) else (Option.bind (α := Bool) (bif decide (a0 ≥ 55296) then (some (decide (a0 ≤ 57343))) else (some false)) fun (v3 : Bool) =>
some v3)) fun (v2 : Bool) =>
some v2)) fun (v1 : Bool) =>
bif v1 then (some 0) else ((F110 k (w_i32 (a0))).bind fun r14 =>
some r14)
theorem L105 (k : Nat) (a0 : Int) (r : Int) (hF : F105 k a0 = some r) : PF Try.prog orc 105 [.val (.int .i64 a0)] [] [] (fun p fr tk => p = .val (.int .i64 r) ∧ fr = [] ∧ tk = []) := by
  unfold F105 at hF
  refine PF.enterS Try.func105 rfl rfl rfl (by kernel_rfl) rfl ?_
  refine PC.run (n := 2) rfl ?_
  refine PC.assoc ?_
  refine PC.region ?_
  refine PO.run 3 rfl ?_
  refine bindK hF (fun x1 e2 hF => ?_)
  refine PO.cut 11 (fun s => ∃ (v1 : Bool), Weak s (PS.of 20 [(0, .val (.int .i64 a0)), (2, .val (.int .i64 0)), (16, .val (.bool v1))] [] [] 0 0) ∧ v1 = x1) ?_ ?_
  · refine PO.case (t := 5) rfl rfl (fun h3 => ?_) (fun h3 => ?_)
    · have e2 := bif_t h3 e2
      refine PO.run 2 rfl ?_
      refine PO.same rfl (pickT_ok rfl rfl rfl) rfl ?_
      refine PO.run 7 rfl ?_
      refine PO.same rfl (pickT_ok rfl rfl rfl) rfl ?_
      refine PO.nil ?_
      obtain rfl := Option.some.inj e2
      exact ⟨true, Weak.one [] [] (by kernel_rfl), rfl⟩
    · have e2 := bif_f h3 e2
      refine PO.run 2 rfl ?_
      refine PO.same rfl (pickF_ok rfl rfl rfl) rfl ?_
      refine PO.run 1 rfl ?_
      refine bindK e2 (fun x4 e5 e2 => ?_)
      refine PO.cut 7 (fun s => ∃ (v2 : Bool), Weak s (PS.of 20 [(0, .val (.int .i64 a0)), (2, .val (.int .i64 0)), (16, .val (.bool v2))] [] [] 0 0) ∧ v2 = x4) ?_ ?_
      · refine PO.case (t := 9) rfl rfl (fun h6 => ?_) (fun h6 => ?_)
        · have e5 := bif_t h6 e5
          refine PO.run 6 rfl ?_
          refine PO.same rfl (pickT_ok rfl rfl rfl) rfl ?_
          refine PO.nil ?_
          obtain rfl := Option.some.inj e5
          exact ⟨true, Weak.one [] [] (by kernel_rfl), rfl⟩
        · have e5 := bif_f h6 e5
          refine PO.run 3 rfl ?_
          refine bindK e5 (fun x7 e8 e5 => ?_)
          refine PO.cut 4 (fun s => ∃ (v3 : Bool), Weak s (PS.of 20 [(0, .val (.int .i64 a0)), (2, .val (.int .i64 0)), (16, .val (.bool v3))] [] [] 0 0) ∧ v3 = x7) ?_ ?_
          · refine PO.case (t := 12) rfl rfl (fun h9 => ?_) (fun h9 => ?_)
            · have e8 := bif_t h9 e8
              refine PO.run 2 rfl ?_
              refine PO.same rfl (pickT_ok rfl rfl rfl) rfl ?_
              refine PO.same rfl (pickF_ok rfl rfl rfl) rfl ?_
              refine PO.nil ?_
              obtain rfl := Option.some.inj e8
              exact ⟨decide (a0 ≤ 57343), Weak.one [] [] (by kernel_rfl), rfl⟩
            · have e8 := bif_f h9 e8
              refine PO.run 2 rfl ?_
              refine PO.same rfl (pickF_ok rfl rfl rfl) rfl ?_
              refine PO.same rfl (pickF_ok rfl rfl rfl) rfl ?_
              refine PO.nil ?_
              obtain rfl := Option.some.inj e8
              exact ⟨false, Weak.one [] [] (by kernel_rfl), rfl⟩
          · rintro _ ⟨v3, w10, rfl⟩
            refine PO.weak w10 ?_
            refine PO.nil ?_
            obtain rfl := Option.some.inj e5
            exact ⟨v3, Weak.one [] [] (by kernel_rfl), rfl⟩
      · rintro _ ⟨v2, w11, rfl⟩
        refine PO.weak w11 ?_
        refine PO.nil ?_
        obtain rfl := Option.some.inj e2
        exact ⟨v2, Weak.one [] [] (by kernel_rfl), rfl⟩
  · rintro _ ⟨v1, w12, rfl⟩
    refine PO.weak w12 ?_
    refine PO.nil ?_
    refine PC.cond rfl (fun h13 => ?_) (fun h13 => ?_)
    · have hF := bif_t h13 hF
      refine PC.assoc ?_
      refine PC.run (n := 2) rfl ?_
      obtain rfl := Option.some.inj hF
      exact PC.ret (retSK [] [] (by kernel_rfl) (.refl _) ⟨rfl, rfl, rfl⟩)
    · have hF := bif_f h13 hF
      refine PC.noop ?_
      refine PC.region ?_
      refine PO.run 2 rfl ?_
      refine bindK hF (fun r14 e15 hF => ?_)
      refine PO.call rfl rfl rfl rfl (ks := []) (ts := []) (fr1 := []) rfl rfl rfl trivial (L110 k (w_i32 (a0)) _ e15) ?_
      rintro _ _ _ ⟨rfl, rfl, rfl⟩
      refine ⟨_, _, rfl, rfl, ?_⟩
      refine PO.run 1 rfl ?_
      refine PO.nil ?_
      obtain rfl := Option.some.inj hF
      exact PC.ret' (retSK [] [] (by kernel_rfl) (.refl _) ⟨rfl, rfl, rfl⟩)

/-! 91 platen/items.right -/
def F91 (k : Nat) (a0 : GItem) (a1 : GItem) (a2 : GItem) : Option Bool :=
Option.bind (α := Bool × ByteArray × Int × Int × Int × Int × Int × Int × Int × Int × Bool × Int × Int) (bif a0.kind == 1 then ((F104 k a0).bind fun r4 =>
Option.bind (α := Bool) (bif r4 then ((F105 k a0.rune).bind fun r9 =>
some (decide (r9 > 0))) else (some false)) fun (v14 : Bool) =>
some (v14, a0.font, a0.size, a0.rune, a0.width, a0.height, a0.depth, 0, 0, 0, false, a0.from_, a0.to_)) else (bif a0.kind == 2 then (Option.bind (α := Bool) (bif a1.kind == 1 then (Option.bind (α := Bool) (bif a2.kind == 1 then (Option.bind (α := Bool) (bif a0.width != 0 then ((F92 k a0.width (w (0 - (if a2.width < a1.width then a2.width else a1.width))) 1099511627776).bind fun r22 =>
some r22) else (some false)) fun (v17 : Bool) =>
some v17) else (some false)) fun (v16 : Bool) =>
some v16) else (some false)) fun (v15 : Bool) =>
some (v15, ByteArray.empty, 0, 0, a0.width, 0, 0, 0, 0, 0, false, 0, 0)) else (bif a0.kind == 3 then ((F92 k a0.size 1 67108864).bind fun r28 =>
Option.bind (α := Bool) (bif r28 then ((F92 k a0.width 0 67108864).bind fun r33 =>
Option.bind (α := Bool) (bif r33 then ((F92 k a0.stretch 0 67108864).bind fun r38 =>
Option.bind (α := Bool) (bif r38 then ((F92 k a0.shrink 0 a0.width).bind fun r43 =>
some r43) else (some false)) fun (v20 : Bool) =>
some v20) else (some false)) fun (v19 : Bool) =>
some v19) else (some false)) fun (v18 : Bool) =>
some (v18, a0.font, a0.size, 0, a0.width, 0, 0, a0.stretch, a0.shrink, 0, false, a0.from_, a0.to_)) else (bif a0.kind == 4 then ((F92 k a0.value (-10000) 10000).bind fun r49 =>
bif a0.flag then (Option.bind (α := Bool) (bif r49 then ((F104 k a0).bind fun r55 =>
Option.bind (α := Bool) (bif r55 then (Option.bind (α := Bool) (bif a0.rune == 45 then (some (decide (a0.value > (-10000)))) else (some false)) fun (v23 : Bool) =>
some v23) else (some false)) fun (v22 : Bool) =>
some v22) else (some false)) fun (v21 : Bool) =>
some (v21, a0.font, a0.size, a0.rune, a0.width, a0.height, a0.depth, 0, 0, a0.value, true, a0.from_, a0.to_)) else (some (r49, ByteArray.empty, 0, 0, 0, 0, 0, 0, 0, a0.value, false, a0.from_, a0.to_))) else (some (false, ByteArray.empty, 0, 0, 0, 0, 0, 0, 0, 0, false, a0.from_, a0.to_)))))) fun (v1, v2, v3, v4, v5, v6, v7, v8, v9, v10, v11, v12, v13) =>
Option.bind (α := Bool) (bif v1 then (some (a0.kind == a0.kind && (a0.font == v2 && (a0.size == v3 && (a0.rune == v4 && (a0.width == v5 && (a0.height == v6 && (a0.depth == v7 && (a0.stretch == v8 && (a0.shrink == v9 && (a0.value == v10 && (a0.flag == v11 && (a0.from_ == v12 && (a0.to_ == v13 && true)))))))))))))) else (some false)) fun (v24 : Bool) =>
some v24
theorem L91 (k : Nat) (a0 : GItem) (a1 : GItem) (a2 : GItem) (r : Bool) (hF : F91 k a0 a1 a2 = some r) : PF Try.prog orc 91 [.agg (cGItem a0), .agg (cGItem a1), .agg (cGItem a2)] [] [] (fun p fr tk => p = .val (.bool r) ∧ fr = [] ∧ tk = []) := by
  unfold F91 at hF
  refine PF.enterS Try.func91 rfl rfl rfl (by kernel_rfl) rfl ?_
  refine PC.region ?_
  refine PO.runK 4 [0, 1, 2] [] (es := [(3, .ptr 0 0), (4, .ptr 1 0), (5, .ptr 2 0), (6, .val (.bool false))]) (fr' := [⟨0, (cGItem a0)⟩, ⟨0, (cGItem a1)⟩, ⟨0, (cGItem a2)⟩]) (tk' := []) (by kernel_rfl) ?_
  refine PO.nil ?_
  refine PC.region ?_
  refine PO.runK 9 [0, 1, 2, 3] [] (es := [(3, .ptr 0 0), (4, .ptr 1 0), (5, .ptr 2 0), (6, .val (.bool false)), (7, .ptr 3 0)]) (fr' := [⟨0, (cGItem a0)⟩, ⟨0, (cGItem a1)⟩, ⟨0, (cGItem a2)⟩, ⟨0, [.val (.int .i64 a0.kind), .val (.string ByteArray.empty), .val (.int .i64 0), .val (.int .i64 0), .val (.int .i64 0), .val (.int .i64 0), .val (.int .i64 0), .val (.int .i64 0), .val (.int .i64 0), .val (.int .i64 0), .val (.bool false), .val (.int .i64 a0.from_), .val (.int .i64 a0.to_)]⟩]) (tk' := []) (by kernel_rfl) ?_
  refine PO.nil ?_
  refine PC.run (n := 2) rfl ?_
  refine PC.assoc ?_
  refine PC.run (n := 3) rfl ?_
  refine bindK hF (fun x1 e2 hF => ?_)
  refine PC.blockJ (fun s => ∃ (v1 : Bool) (v2 : ByteArray) (v3 : Int) (v4 : Int) (v5 : Int) (v6 : Int) (v7 : Int) (v8 : Int) (v9 : Int) (v10 : Int) (v11 : Bool) (v12 : Int) (v13 : Int), Weak s (PS.of 164 [(3, .ptr 0 0), (6, .val (.bool false)), (7, .ptr 1 0), (8, .val (.bool v1))] [⟨0, (cGItem a0)⟩, ⟨0, [.val (.int .i64 a0.kind), .val (.string v2), .val (.int .i64 v3), .val (.int .i64 v4), .val (.int .i64 v5), .val (.int .i64 v6), .val (.int .i64 v7), .val (.int .i64 v8), .val (.int .i64 v9), .val (.int .i64 v10), .val (.bool v11), .val (.int .i64 v12), .val (.int .i64 v13)]⟩] [] 0 0) ∧ (v1, v2, v3, v4, v5, v6, v7, v8, v9, v10, v11, v12, v13) = x1) ?_ ?_
  · refine PC.run (n := 3) rfl ?_
    refine PC.lone ?_
    refine PC.cond rfl (fun h3 => ?_) (fun h3 => ?_)
    · have e2 := bif_t h3 e2
      refine PC.assoc ?_
      refine PC.draw [0, 1, 12, 13, 2, 3, 14, 15, 4, 5, 16, 17, 6, 7, 18, 19, 8, 9, 20, 21, 10, 11, 22, 23] (by kernel_rfl) ?_
      refine PD.runK 24 (js' := []) (σ' := ⟨16777215, 16777215, 8388607, [(23, [3], false), (21, [3, 3], false), (19, [3, 3, 3], false), (17, [3, 3, 3, 3], false), (15, [3, 3, 3, 3, 3], false), (13, [3, 3, 3, 3, 3, 3], false)]⟩) (es := [(3, .ptr 0 0), (6, .val (.bool false)), (7, .ptr 3 0), (8, .val (.bool false))]) (fr' := [⟨0, (cGItem a0)⟩, ⟨0, (cGItem a1)⟩, ⟨0, (cGItem a2)⟩, ⟨0, [.val (.int .i64 a0.kind), .val (.string a0.font), .val (.int .i64 a0.size), .val (.int .i64 a0.rune), .val (.int .i64 a0.width), .val (.int .i64 a0.height), .val (.int .i64 a0.depth), .val (.int .i64 0), .val (.int .i64 0), .val (.int .i64 0), .val (.bool false), .val (.int .i64 a0.from_), .val (.int .i64 a0.to_)]⟩]) (tk' := []) (by kernel_rfl) ?_
      refine PD.done [0, 3] [] (es := [(3, .ptr 0 0), (6, .val (.bool false)), (7, .ptr 1 0), (8, .val (.bool false))]) (fr' := [⟨0, (cGItem a0)⟩, ⟨0, [.val (.int .i64 a0.kind), .val (.string a0.font), .val (.int .i64 a0.size), .val (.int .i64 a0.rune), .val (.int .i64 a0.width), .val (.int .i64 a0.height), .val (.int .i64 a0.depth), .val (.int .i64 0), .val (.int .i64 0), .val (.int .i64 0), .val (.bool false), .val (.int .i64 a0.from_), .val (.int .i64 a0.to_)]⟩]) (tk' := []) (by kernel_rfl) (by kernel_rfl) ?_
      refine PC.region ?_
      refine PO.run 1 rfl ?_
      refine bindK e2 (fun r4 e5 e2 => ?_)
      refine PO.call rfl rfl rfl rfl (ks := []) (ts := []) (fr1 := []) rfl rfl rfl trivial (L104 k a0 _ e5) ?_
      rintro _ _ _ ⟨rfl, rfl, rfl⟩
      refine ⟨_, _, rfl, rfl, ?_⟩
      refine PO.run 1 rfl ?_
      refine bindK e2 (fun x6 e7 e2 => ?_)
      refine PO.cut 5 (fun s => ∃ (v14 : Bool), Weak s (PS.of 164 [(3, .ptr 0 0), (6, .val (.bool false)), (7, .ptr 1 0), (8, .val (.bool false)), (45, .val (.bool v14))] [⟨0, (cGItem a0)⟩, ⟨0, [.val (.int .i64 a0.kind), .val (.string a0.font), .val (.int .i64 a0.size), .val (.int .i64 a0.rune), .val (.int .i64 a0.width), .val (.int .i64 a0.height), .val (.int .i64 a0.depth), .val (.int .i64 0), .val (.int .i64 0), .val (.int .i64 0), .val (.bool false), .val (.int .i64 a0.from_), .val (.int .i64 a0.to_)]⟩] [] 0 0) ∧ v14 = x6) ?_ ?_
      · refine PO.case (t := 40) rfl rfl (fun h8 => ?_) (fun h8 => ?_)
        · have e7 := bif_t h8 e7
          refine PO.run 2 rfl ?_
          refine bindK e7 (fun r9 e10 e7 => ?_)
          refine PO.call rfl rfl rfl rfl (ks := []) (ts := []) (fr1 := []) rfl rfl rfl trivial (L105 k a0.rune _ e10) ?_
          rintro _ _ _ ⟨rfl, rfl, rfl⟩
          refine ⟨_, _, rfl, rfl, ?_⟩
          refine PO.run 1 rfl ?_
          refine PO.same rfl (pickT_ok rfl rfl rfl) rfl ?_
          refine PO.nil ?_
          obtain rfl := Option.some.inj e7
          exact ⟨decide (r9 > 0), Weak.one [0, 1] [] (by kernel_rfl), rfl⟩
        · have e7 := bif_f h8 e7
          refine PO.run 4 rfl ?_
          refine PO.same rfl (pickF_ok rfl rfl rfl) rfl ?_
          refine PO.nil ?_
          obtain rfl := Option.some.inj e7
          exact ⟨false, Weak.one [0, 1] [] (by kernel_rfl), rfl⟩
      · rintro _ ⟨v14, w11, rfl⟩
        refine PO.weak w11 ?_
        refine PO.run 1 rfl ?_
        refine PO.nil ?_
        obtain rfl := Option.some.inj e2
        exact PC.skip (blockJK.end ⟨v14, a0.font, a0.size, a0.rune, a0.width, a0.height, a0.depth, 0, 0, 0, false, a0.from_, a0.to_, Weak.one [0, 1] [] (by kernel_rfl), rfl⟩)
    · have e2 := bif_f h3 e2
      refine PC.assoc ?_
      refine PC.run (n := 3) rfl ?_
      refine PC.cond rfl (fun h12 => ?_) (fun h12 => ?_)
      · have e2 := bif_t h12 e2
        refine PC.assoc ?_
        refine PC.region ?_
        refine PO.runK 6 [0, 1, 2, 3] [] (es := [(3, .ptr 0 0), (4, .ptr 1 0), (5, .ptr 2 0), (6, .val (.bool false)), (7, .ptr 3 0), (8, .val (.bool false))]) (fr' := [⟨0, (cGItem a0)⟩, ⟨0, (cGItem a1)⟩, ⟨0, (cGItem a2)⟩, ⟨0, [.val (.int .i64 a0.kind), .val (.string ByteArray.empty), .val (.int .i64 0), .val (.int .i64 0), .val (.int .i64 a0.width), .val (.int .i64 0), .val (.int .i64 0), .val (.int .i64 0), .val (.int .i64 0), .val (.int .i64 0), .val (.bool false), .val (.int .i64 0), .val (.int .i64 0)]⟩]) (tk' := []) (by kernel_rfl) ?_
        refine PO.nil ?_
        refine PC.region ?_
        refine PO.run 4 rfl ?_
        refine bindK e2 (fun x13 e14 e2 => ?_)
        refine PO.cut 20 (fun s => ∃ (v15 : Bool), Weak s (PS.of 164 [(3, .ptr 0 0), (6, .val (.bool false)), (7, .ptr 1 0), (8, .val (.bool false)), (76, .val (.bool v15))] [⟨0, (cGItem a0)⟩, ⟨0, [.val (.int .i64 a0.kind), .val (.string ByteArray.empty), .val (.int .i64 0), .val (.int .i64 0), .val (.int .i64 a0.width), .val (.int .i64 0), .val (.int .i64 0), .val (.int .i64 0), .val (.int .i64 0), .val (.int .i64 0), .val (.bool false), .val (.int .i64 0), .val (.int .i64 0)]⟩] [] 0 0) ∧ v15 = x13) ?_ ?_
        · refine PO.case (t := 56) rfl rfl (fun h15 => ?_) (fun h15 => ?_)
          · have e14 := bif_t h15 e14
            refine PO.run 3 rfl ?_
            refine PO.same rfl (pickT_ok rfl rfl rfl) rfl ?_
            refine PO.run 1 rfl ?_
            refine bindK e14 (fun x16 e17 e14 => ?_)
            refine PO.cut 15 (fun s => ∃ (v16 : Bool), Weak s (PS.of 164 [(3, .ptr 0 0), (6, .val (.bool false)), (7, .ptr 1 0), (8, .val (.bool false)), (76, .val (.bool v16))] [⟨0, (cGItem a0)⟩, ⟨0, [.val (.int .i64 a0.kind), .val (.string ByteArray.empty), .val (.int .i64 0), .val (.int .i64 0), .val (.int .i64 a0.width), .val (.int .i64 0), .val (.int .i64 0), .val (.int .i64 0), .val (.int .i64 0), .val (.int .i64 0), .val (.bool false), .val (.int .i64 0), .val (.int .i64 0)]⟩] [] 0 0) ∧ v16 = x16) ?_ ?_
            · refine PO.case (t := 61) rfl rfl (fun h18 => ?_) (fun h18 => ?_)
              · have e17 := bif_t h18 e17
                refine PO.run 3 rfl ?_
                refine PO.same rfl (pickT_ok rfl rfl rfl) rfl ?_
                refine PO.run 1 rfl ?_
                refine bindK e17 (fun x19 e20 e17 => ?_)
                refine PO.cut 10 (fun s => ∃ (v17 : Bool), Weak s (PS.of 164 [(3, .ptr 0 0), (6, .val (.bool false)), (7, .ptr 1 0), (8, .val (.bool false)), (76, .val (.bool v17))] [⟨0, (cGItem a0)⟩, ⟨0, [.val (.int .i64 a0.kind), .val (.string ByteArray.empty), .val (.int .i64 0), .val (.int .i64 0), .val (.int .i64 a0.width), .val (.int .i64 0), .val (.int .i64 0), .val (.int .i64 0), .val (.int .i64 0), .val (.int .i64 0), .val (.bool false), .val (.int .i64 0), .val (.int .i64 0)]⟩] [] 0 0) ∧ v17 = x19) ?_ ?_
                · refine PO.case (t := 66) rfl rfl (fun h21 => ?_) (fun h21 => ?_)
                  · have e20 := bif_t h21 e20
                    refine PO.run 8 rfl ?_
                    refine bindK e20 (fun r22 e23 e20 => ?_)
                    refine PO.call rfl rfl rfl rfl (ks := []) (ts := []) (fr1 := []) rfl rfl rfl trivial (L92 k a0.width (w (0 - (if a2.width < a1.width then a2.width else a1.width))) 1099511627776 _ e23) ?_
                    rintro _ _ _ ⟨rfl, rfl, rfl⟩
                    refine ⟨_, _, rfl, rfl, ?_⟩
                    refine PO.same rfl (pickT_ok rfl rfl rfl) rfl ?_
                    refine PO.nil ?_
                    obtain rfl := Option.some.inj e20
                    exact ⟨r22, Weak.one [0, 3] [] (by kernel_rfl), rfl⟩
                  · have e20 := bif_f h21 e20
                    refine PO.run 9 rfl ?_
                    refine PO.same rfl (pickF_ok rfl rfl rfl) rfl ?_
                    refine PO.nil ?_
                    obtain rfl := Option.some.inj e20
                    exact ⟨false, Weak.one [0, 3] [] (by kernel_rfl), rfl⟩
                · rintro _ ⟨v17, w24, rfl⟩
                  refine PO.weak w24 ?_
                  refine PO.nil ?_
                  obtain rfl := Option.some.inj e17
                  exact ⟨v17, Weak.one [0, 1] [] (by kernel_rfl), rfl⟩
              · have e17 := bif_f h18 e17
                refine PO.run 3 rfl ?_
                refine PO.same rfl (pickF_ok rfl rfl rfl) rfl ?_
                refine PO.run 10 rfl ?_
                refine PO.same rfl (pickF_ok rfl rfl rfl) rfl ?_
                refine PO.nil ?_
                obtain rfl := Option.some.inj e17
                exact ⟨false, Weak.one [0, 3] [] (by kernel_rfl), rfl⟩
            · rintro _ ⟨v16, w25, rfl⟩
              refine PO.weak w25 ?_
              refine PO.nil ?_
              obtain rfl := Option.some.inj e14
              exact ⟨v16, Weak.one [0, 1] [] (by kernel_rfl), rfl⟩
          · have e14 := bif_f h15 e14
            refine PO.run 3 rfl ?_
            refine PO.same rfl (pickF_ok rfl rfl rfl) rfl ?_
            refine PO.run 4 rfl ?_
            refine PO.same rfl (pickF_ok rfl rfl rfl) rfl ?_
            refine PO.run 10 rfl ?_
            refine PO.same rfl (pickF_ok rfl rfl rfl) rfl ?_
            refine PO.nil ?_
            obtain rfl := Option.some.inj e14
            exact ⟨false, Weak.one [0, 3] [] (by kernel_rfl), rfl⟩
        · rintro _ ⟨v15, w26, rfl⟩
          refine PO.weak w26 ?_
          refine PO.run 1 rfl ?_
          refine PO.nil ?_
          obtain rfl := Option.some.inj e2
          exact PC.skip (blockJK.end ⟨v15, ByteArray.empty, 0, 0, a0.width, 0, 0, 0, 0, 0, false, 0, 0, Weak.one [0, 1] [] (by kernel_rfl), rfl⟩)
      · have e2 := bif_f h12 e2
        refine PC.assoc ?_
        refine PC.run (n := 3) rfl ?_
        refine PC.cond rfl (fun h27 => ?_) (fun h27 => ?_)
        · have e2 := bif_t h27 e2
          refine PC.assoc ?_
          refine PC.draw [0, 1, 10, 11, 2, 3, 12, 13, 4, 5, 14, 15, 6, 7, 16, 17, 8, 9, 18, 19] (by kernel_rfl) ?_
          refine PD.runK 20 (js' := []) (σ' := ⟨1048575, 1048575, 524287, [(19, [3], false), (17, [3, 3], false), (15, [3, 3, 3], false), (13, [3, 3, 3, 3], false), (11, [3, 3, 3, 3, 3], false)]⟩) (es := [(3, .ptr 0 0), (6, .val (.bool false)), (7, .ptr 3 0), (8, .val (.bool false))]) (fr' := [⟨0, (cGItem a0)⟩, ⟨0, (cGItem a1)⟩, ⟨0, (cGItem a2)⟩, ⟨0, [.val (.int .i64 a0.kind), .val (.string a0.font), .val (.int .i64 a0.size), .val (.int .i64 0), .val (.int .i64 a0.width), .val (.int .i64 0), .val (.int .i64 0), .val (.int .i64 a0.stretch), .val (.int .i64 a0.shrink), .val (.int .i64 0), .val (.bool false), .val (.int .i64 a0.from_), .val (.int .i64 a0.to_)]⟩]) (tk' := []) (by kernel_rfl) ?_
          refine PD.done [0, 3] [] (es := [(3, .ptr 0 0), (6, .val (.bool false)), (7, .ptr 1 0), (8, .val (.bool false))]) (fr' := [⟨0, (cGItem a0)⟩, ⟨0, [.val (.int .i64 a0.kind), .val (.string a0.font), .val (.int .i64 a0.size), .val (.int .i64 0), .val (.int .i64 a0.width), .val (.int .i64 0), .val (.int .i64 0), .val (.int .i64 a0.stretch), .val (.int .i64 a0.shrink), .val (.int .i64 0), .val (.bool false), .val (.int .i64 a0.from_), .val (.int .i64 a0.to_)]⟩]) (tk' := []) (by kernel_rfl) (by kernel_rfl) ?_
          refine PC.region ?_
          refine PO.run 2 rfl ?_
          refine bindK e2 (fun r28 e29 e2 => ?_)
          refine PO.call rfl rfl rfl rfl (ks := []) (ts := []) (fr1 := []) rfl rfl rfl trivial (L92 k a0.size 1 67108864 _ e29) ?_
          rintro _ _ _ ⟨rfl, rfl, rfl⟩
          refine ⟨_, _, rfl, rfl, ?_⟩
          refine PO.run 1 rfl ?_
          refine bindK e2 (fun x30 e31 e2 => ?_)
          refine PO.cut 16 (fun s => ∃ (v18 : Bool), Weak s (PS.of 164 [(3, .ptr 0 0), (6, .val (.bool false)), (7, .ptr 1 0), (8, .val (.bool false)), (113, .val (.bool v18))] [⟨0, (cGItem a0)⟩, ⟨0, [.val (.int .i64 a0.kind), .val (.string a0.font), .val (.int .i64 a0.size), .val (.int .i64 0), .val (.int .i64 a0.width), .val (.int .i64 0), .val (.int .i64 0), .val (.int .i64 a0.stretch), .val (.int .i64 a0.shrink), .val (.int .i64 0), .val (.bool false), .val (.int .i64 a0.from_), .val (.int .i64 a0.to_)]⟩] [] 0 0) ∧ v18 = x30) ?_ ?_
          · refine PO.case (t := 97) rfl rfl (fun h32 => ?_) (fun h32 => ?_)
            · have e31 := bif_t h32 e31
              refine PO.run 2 rfl ?_
              refine bindK e31 (fun r33 e34 e31 => ?_)
              refine PO.call rfl rfl rfl rfl (ks := []) (ts := []) (fr1 := []) rfl rfl rfl trivial (L92 k a0.width 0 67108864 _ e34) ?_
              rintro _ _ _ ⟨rfl, rfl, rfl⟩
              refine ⟨_, _, rfl, rfl, ?_⟩
              refine PO.same rfl (pickT_ok rfl rfl rfl) rfl ?_
              refine PO.run 1 rfl ?_
              refine bindK e31 (fun x35 e36 e31 => ?_)
              refine PO.cut 11 (fun s => ∃ (v19 : Bool), Weak s (PS.of 164 [(3, .ptr 0 0), (6, .val (.bool false)), (7, .ptr 1 0), (8, .val (.bool false)), (113, .val (.bool v19))] [⟨0, (cGItem a0)⟩, ⟨0, [.val (.int .i64 a0.kind), .val (.string a0.font), .val (.int .i64 a0.size), .val (.int .i64 0), .val (.int .i64 a0.width), .val (.int .i64 0), .val (.int .i64 0), .val (.int .i64 a0.stretch), .val (.int .i64 a0.shrink), .val (.int .i64 0), .val (.bool false), .val (.int .i64 a0.from_), .val (.int .i64 a0.to_)]⟩] [] 0 0) ∧ v19 = x35) ?_ ?_
              · refine PO.case (t := 102) rfl rfl (fun h37 => ?_) (fun h37 => ?_)
                · have e36 := bif_t h37 e36
                  refine PO.run 2 rfl ?_
                  refine bindK e36 (fun r38 e39 e36 => ?_)
                  refine PO.call rfl rfl rfl rfl (ks := []) (ts := []) (fr1 := []) rfl rfl rfl trivial (L92 k a0.stretch 0 67108864 _ e39) ?_
                  rintro _ _ _ ⟨rfl, rfl, rfl⟩
                  refine ⟨_, _, rfl, rfl, ?_⟩
                  refine PO.same rfl (pickT_ok rfl rfl rfl) rfl ?_
                  refine PO.run 1 rfl ?_
                  refine bindK e36 (fun x40 e41 e36 => ?_)
                  refine PO.cut 6 (fun s => ∃ (v20 : Bool), Weak s (PS.of 164 [(3, .ptr 0 0), (6, .val (.bool false)), (7, .ptr 1 0), (8, .val (.bool false)), (113, .val (.bool v20))] [⟨0, (cGItem a0)⟩, ⟨0, [.val (.int .i64 a0.kind), .val (.string a0.font), .val (.int .i64 a0.size), .val (.int .i64 0), .val (.int .i64 a0.width), .val (.int .i64 0), .val (.int .i64 0), .val (.int .i64 a0.stretch), .val (.int .i64 a0.shrink), .val (.int .i64 0), .val (.bool false), .val (.int .i64 a0.from_), .val (.int .i64 a0.to_)]⟩] [] 0 0) ∧ v20 = x40) ?_ ?_
                  · refine PO.case (t := 107) rfl rfl (fun h42 => ?_) (fun h42 => ?_)
                    · have e41 := bif_t h42 e41
                      refine PO.run 4 rfl ?_
                      refine bindK e41 (fun r43 e44 e41 => ?_)
                      refine PO.call rfl rfl rfl rfl (ks := []) (ts := []) (fr1 := []) rfl rfl rfl trivial (L92 k a0.shrink 0 a0.width _ e44) ?_
                      rintro _ _ _ ⟨rfl, rfl, rfl⟩
                      refine ⟨_, _, rfl, rfl, ?_⟩
                      refine PO.same rfl (pickT_ok rfl rfl rfl) rfl ?_
                      refine PO.nil ?_
                      obtain rfl := Option.some.inj e41
                      exact ⟨r43, Weak.one [0, 1] [] (by kernel_rfl), rfl⟩
                    · have e41 := bif_f h42 e41
                      refine PO.run 5 rfl ?_
                      refine PO.same rfl (pickF_ok rfl rfl rfl) rfl ?_
                      refine PO.nil ?_
                      obtain rfl := Option.some.inj e41
                      exact ⟨false, Weak.one [0, 1] [] (by kernel_rfl), rfl⟩
                  · rintro _ ⟨v20, w45, rfl⟩
                    refine PO.weak w45 ?_
                    refine PO.nil ?_
                    obtain rfl := Option.some.inj e36
                    exact ⟨v20, Weak.one [0, 1] [] (by kernel_rfl), rfl⟩
                · have e36 := bif_f h37 e36
                  refine PO.run 3 rfl ?_
                  refine PO.same rfl (pickF_ok rfl rfl rfl) rfl ?_
                  refine PO.run 6 rfl ?_
                  refine PO.same rfl (pickF_ok rfl rfl rfl) rfl ?_
                  refine PO.nil ?_
                  obtain rfl := Option.some.inj e36
                  exact ⟨false, Weak.one [0, 1] [] (by kernel_rfl), rfl⟩
              · rintro _ ⟨v19, w46, rfl⟩
                refine PO.weak w46 ?_
                refine PO.nil ?_
                obtain rfl := Option.some.inj e31
                exact ⟨v19, Weak.one [0, 1] [] (by kernel_rfl), rfl⟩
            · have e31 := bif_f h32 e31
              refine PO.run 3 rfl ?_
              refine PO.same rfl (pickF_ok rfl rfl rfl) rfl ?_
              refine PO.run 4 rfl ?_
              refine PO.same rfl (pickF_ok rfl rfl rfl) rfl ?_
              refine PO.run 6 rfl ?_
              refine PO.same rfl (pickF_ok rfl rfl rfl) rfl ?_
              refine PO.nil ?_
              obtain rfl := Option.some.inj e31
              exact ⟨false, Weak.one [0, 1] [] (by kernel_rfl), rfl⟩
          · rintro _ ⟨v18, w47, rfl⟩
            refine PO.weak w47 ?_
            refine PO.run 1 rfl ?_
            refine PO.nil ?_
            obtain rfl := Option.some.inj e2
            exact PC.skip (blockJK.end ⟨v18, a0.font, a0.size, 0, a0.width, 0, 0, a0.stretch, a0.shrink, 0, false, a0.from_, a0.to_, Weak.one [0, 1] [] (by kernel_rfl), rfl⟩)
        · have e2 := bif_f h27 e2
          refine PC.assoc ?_
          refine PC.run (n := 3) rfl ?_
          refine PC.cond rfl (fun h48 => ?_) (fun h48 => ?_)
          · have e2 := bif_t h48 e2
            refine PC.assoc ?_
            refine PC.region ?_
            refine PO.runK 4 [0, 3] [] (es := [(3, .ptr 0 0), (6, .val (.bool false)), (7, .ptr 1 0), (8, .val (.bool false))]) (fr' := [⟨0, (cGItem a0)⟩, ⟨0, [.val (.int .i64 a0.kind), .val (.string ByteArray.empty), .val (.int .i64 0), .val (.int .i64 0), .val (.int .i64 0), .val (.int .i64 0), .val (.int .i64 0), .val (.int .i64 0), .val (.int .i64 0), .val (.int .i64 a0.value), .val (.bool false), .val (.int .i64 a0.from_), .val (.int .i64 a0.to_)]⟩]) (tk' := []) (by kernel_rfl) ?_
            refine PO.nil ?_
            refine PC.assoc ?_
            refine PC.region ?_
            refine PO.run 2 rfl ?_
            refine bindK e2 (fun r49 e50 e2 => ?_)
            refine PO.call rfl rfl rfl rfl (ks := []) (ts := []) (fr1 := []) rfl rfl rfl trivial (L92 k a0.value (-10000) 10000 _ e50) ?_
            rintro _ _ _ ⟨rfl, rfl, rfl⟩
            refine ⟨_, _, rfl, rfl, ?_⟩
            refine PO.run 1 rfl ?_
            refine PO.nil ?_
            refine PC.assoc ?_
            refine PC.run (n := 3) rfl ?_
            refine PC.cond rfl (fun h51 => ?_) (fun h51 => ?_)
            · have e2 := bif_t h51 e2
              refine PC.assoc ?_
              refine PC.draw [12, 13, 0, 1, 14, 15, 2, 3, 16, 17, 4, 5, 18, 19, 6, 7, 20, 21, 8, 9, 22, 23, 10, 11, 24, 25] (by kernel_rfl) ?_
              refine PD.runK 26 (js' := []) (σ' := ⟨67108863, 67108863, 33554431, [(25, [1], false), (23, [1, 1], false), (21, [1, 1, 1], false), (19, [1, 1, 1, 1], false), (17, [1, 1, 1, 1, 1], false), (15, [1, 1, 1, 1, 1, 1], false), (13, [1, 1, 1, 1, 1, 1, 1], false)]⟩) (es := [(3, .ptr 0 0), (6, .val (.bool false)), (7, .ptr 1 0), (8, .val (.bool r49))]) (fr' := [⟨0, (cGItem a0)⟩, ⟨0, [.val (.int .i64 a0.kind), .val (.string a0.font), .val (.int .i64 a0.size), .val (.int .i64 a0.rune), .val (.int .i64 a0.width), .val (.int .i64 a0.height), .val (.int .i64 a0.depth), .val (.int .i64 0), .val (.int .i64 0), .val (.int .i64 a0.value), .val (.bool true), .val (.int .i64 a0.from_), .val (.int .i64 a0.to_)]⟩]) (tk' := []) (by kernel_rfl) ?_
              refine PD.done [0, 1] [] (es := [(3, .ptr 0 0), (6, .val (.bool false)), (7, .ptr 1 0), (8, .val (.bool r49))]) (fr' := [⟨0, (cGItem a0)⟩, ⟨0, [.val (.int .i64 a0.kind), .val (.string a0.font), .val (.int .i64 a0.size), .val (.int .i64 a0.rune), .val (.int .i64 a0.width), .val (.int .i64 a0.height), .val (.int .i64 a0.depth), .val (.int .i64 0), .val (.int .i64 0), .val (.int .i64 a0.value), .val (.bool true), .val (.int .i64 a0.from_), .val (.int .i64 a0.to_)]⟩]) (tk' := []) (by kernel_rfl) (by kernel_rfl) ?_
              refine PC.region ?_
              refine PO.run 2 rfl ?_
              refine bindK e2 (fun x52 e53 e2 => ?_)
              refine PO.cut 13 (fun s => ∃ (v21 : Bool), Weak s (PS.of 164 [(3, .ptr 0 0), (6, .val (.bool false)), (7, .ptr 1 0), (8, .val (.bool r49)), (157, .val (.bool v21))] [⟨0, (cGItem a0)⟩, ⟨0, [.val (.int .i64 a0.kind), .val (.string a0.font), .val (.int .i64 a0.size), .val (.int .i64 a0.rune), .val (.int .i64 a0.width), .val (.int .i64 a0.height), .val (.int .i64 a0.depth), .val (.int .i64 0), .val (.int .i64 0), .val (.int .i64 a0.value), .val (.bool true), .val (.int .i64 a0.from_), .val (.int .i64 a0.to_)]⟩] [] 0 0) ∧ v21 = x52) ?_ ?_
              · refine PO.case (t := 144) rfl rfl (fun h54 => ?_) (fun h54 => ?_)
                · have e53 := bif_t h54 e53
                  refine PO.run 1 rfl ?_
                  refine bindK e53 (fun r55 e56 e53 => ?_)
                  refine PO.call rfl rfl rfl rfl (ks := []) (ts := []) (fr1 := []) rfl rfl rfl trivial (L104 k a0 _ e56) ?_
                  rintro _ _ _ ⟨rfl, rfl, rfl⟩
                  refine ⟨_, _, rfl, rfl, ?_⟩
                  refine PO.same rfl (pickT_ok rfl rfl rfl) rfl ?_
                  refine PO.run 1 rfl ?_
                  refine bindK e53 (fun x57 e58 e53 => ?_)
                  refine PO.cut 9 (fun s => ∃ (v22 : Bool), Weak s (PS.of 164 [(3, .ptr 0 0), (6, .val (.bool false)), (7, .ptr 1 0), (8, .val (.bool r49)), (157, .val (.bool v22))] [⟨0, (cGItem a0)⟩, ⟨0, [.val (.int .i64 a0.kind), .val (.string a0.font), .val (.int .i64 a0.size), .val (.int .i64 a0.rune), .val (.int .i64 a0.width), .val (.int .i64 a0.height), .val (.int .i64 a0.depth), .val (.int .i64 0), .val (.int .i64 0), .val (.int .i64 a0.value), .val (.bool true), .val (.int .i64 a0.from_), .val (.int .i64 a0.to_)]⟩] [] 0 0) ∧ v22 = x57) ?_ ?_
                  · refine PO.case (t := 148) rfl rfl (fun h59 => ?_) (fun h59 => ?_)
                    · have e58 := bif_t h59 e58
                      refine PO.run 3 rfl ?_
                      refine PO.same rfl (pickT_ok rfl rfl rfl) rfl ?_
                      refine PO.run 1 rfl ?_
                      refine bindK e58 (fun x60 e61 e58 => ?_)
                      refine PO.cut 4 (fun s => ∃ (v23 : Bool), Weak s (PS.of 164 [(3, .ptr 0 0), (6, .val (.bool false)), (7, .ptr 1 0), (8, .val (.bool r49)), (157, .val (.bool v23))] [⟨0, (cGItem a0)⟩, ⟨0, [.val (.int .i64 a0.kind), .val (.string a0.font), .val (.int .i64 a0.size), .val (.int .i64 a0.rune), .val (.int .i64 a0.width), .val (.int .i64 a0.height), .val (.int .i64 a0.depth), .val (.int .i64 0), .val (.int .i64 0), .val (.int .i64 a0.value), .val (.bool true), .val (.int .i64 a0.from_), .val (.int .i64 a0.to_)]⟩] [] 0 0) ∧ v23 = x60) ?_ ?_
                      · refine PO.case (t := 153) rfl rfl (fun h62 => ?_) (fun h62 => ?_)
                        · have e61 := bif_t h62 e61
                          refine PO.run 3 rfl ?_
                          refine PO.same rfl (pickT_ok rfl rfl rfl) rfl ?_
                          refine PO.nil ?_
                          obtain rfl := Option.some.inj e61
                          exact ⟨decide (a0.value > (-10000)), Weak.one [0, 1] [] (by kernel_rfl), rfl⟩
                        · have e61 := bif_f h62 e61
                          refine PO.run 3 rfl ?_
                          refine PO.same rfl (pickF_ok rfl rfl rfl) rfl ?_
                          refine PO.nil ?_
                          obtain rfl := Option.some.inj e61
                          exact ⟨false, Weak.one [0, 1] [] (by kernel_rfl), rfl⟩
                      · rintro _ ⟨v23, w63, rfl⟩
                        refine PO.weak w63 ?_
                        refine PO.nil ?_
                        obtain rfl := Option.some.inj e58
                        exact ⟨v23, Weak.one [0, 1] [] (by kernel_rfl), rfl⟩
                    · have e58 := bif_f h59 e58
                      refine PO.run 3 rfl ?_
                      refine PO.same rfl (pickF_ok rfl rfl rfl) rfl ?_
                      refine PO.run 4 rfl ?_
                      refine PO.same rfl (pickF_ok rfl rfl rfl) rfl ?_
                      refine PO.nil ?_
                      obtain rfl := Option.some.inj e58
                      exact ⟨false, Weak.one [0, 1] [] (by kernel_rfl), rfl⟩
                  · rintro _ ⟨v22, w64, rfl⟩
                    refine PO.weak w64 ?_
                    refine PO.nil ?_
                    obtain rfl := Option.some.inj e53
                    exact ⟨v22, Weak.one [0, 1] [] (by kernel_rfl), rfl⟩
                · have e53 := bif_f h54 e53
                  refine PO.run 2 rfl ?_
                  refine PO.same rfl (pickF_ok rfl rfl rfl) rfl ?_
                  refine PO.run 4 rfl ?_
                  refine PO.same rfl (pickF_ok rfl rfl rfl) rfl ?_
                  refine PO.run 4 rfl ?_
                  refine PO.same rfl (pickF_ok rfl rfl rfl) rfl ?_
                  refine PO.nil ?_
                  obtain rfl := Option.some.inj e53
                  exact ⟨false, Weak.one [0, 1] [] (by kernel_rfl), rfl⟩
              · rintro _ ⟨v21, w65, rfl⟩
                refine PO.weak w65 ?_
                refine PO.run 1 rfl ?_
                refine PO.nil ?_
                obtain rfl := Option.some.inj e2
                exact PC.skip (blockJK.end ⟨v21, a0.font, a0.size, a0.rune, a0.width, a0.height, a0.depth, 0, 0, a0.value, true, a0.from_, a0.to_, Weak.one [0, 1] [] (by kernel_rfl), rfl⟩)
            · have e2 := bif_f h51 e2
              refine PC.noop ?_
              obtain rfl := Option.some.inj e2
              exact PC.skip (blockJK.end ⟨r49, ByteArray.empty, 0, 0, 0, 0, 0, 0, 0, a0.value, false, a0.from_, a0.to_, Weak.one [0, 1] [] (by kernel_rfl), rfl⟩)
          · have e2 := bif_f h48 e2
            refine PC.noop ?_
            obtain rfl := Option.some.inj e2
            exact PC.skip (blockJK.end ⟨false, ByteArray.empty, 0, 0, 0, 0, 0, 0, 0, 0, false, a0.from_, a0.to_, Weak.one [0, 3] [] (by kernel_rfl), rfl⟩)
  · rintro _ ⟨v1, v2, v3, v4, v5, v6, v7, v8, v9, v10, v11, v12, v13, w66, rfl⟩
    refine PC.weak w66 ?_
    refine PC.region ?_
    refine PO.run 2 rfl ?_
    refine bindK hF (fun x67 e68 hF => ?_)
    refine PO.cut 4 (fun s => ∃ (v24 : Bool), Weak s (PS.of 164 [(6, .val (.bool false)), (163, .val (.bool v24))] [] [] 0 0) ∧ v24 = x67) ?_ ?_
    · refine PO.case (t := 159) rfl rfl (fun h69 => ?_) (fun h69 => ?_)
      · have e68 := bif_t h69 e68
        refine PO.run 2 rfl ?_
        refine PO.same rfl (aggEq_ok (v := .bool (a0.kind == a0.kind && (a0.font == v2 && (a0.size == v3 && (a0.rune == v4 && (a0.width == v5 && (a0.height == v6 && (a0.depth == v7 && (a0.stretch == v8 && (a0.shrink == v9 && (a0.value == v10 && (a0.flag == v11 && (a0.from_ == v12 && (a0.to_ == v13 && true)))))))))))))) rfl rfl rfl rfl rfl rfl rfl (by kernel_rfl)) rfl ?_
        refine PO.same rfl (pickT_ok rfl rfl rfl) rfl ?_
        refine PO.nil ?_
        obtain rfl := Option.some.inj e68
        exact ⟨(a0.kind == a0.kind && (a0.font == v2 && (a0.size == v3 && (a0.rune == v4 && (a0.width == v5 && (a0.height == v6 && (a0.depth == v7 && (a0.stretch == v8 && (a0.shrink == v9 && (a0.value == v10 && (a0.flag == v11 && (a0.from_ == v12 && (a0.to_ == v13 && true))))))))))))), Weak.one [] [] (by kernel_rfl), rfl⟩
      · have e68 := bif_f h69 e68
        refine PO.run 3 rfl ?_
        refine PO.same rfl (pickF_ok rfl rfl rfl) rfl ?_
        refine PO.nil ?_
        obtain rfl := Option.some.inj e68
        exact ⟨false, Weak.one [] [] (by kernel_rfl), rfl⟩
    · rintro _ ⟨v24, w70, rfl⟩
      refine PO.weak w70 ?_
      refine PO.run 1 rfl ?_
      refine PO.nil ?_
      obtain rfl := Option.some.inj hF
      exact PC.ret' (retSK [] [] (by kernel_rfl) (.refl _) ⟨rfl, rfl, rfl⟩)

/-! 64 platen/items.Check -/
def F64_l1 (k : Nat) (a0 : List GItem) : Nat → Int → Int → Option ((Unit) ⊕ (Int))
  | 0, _, _ => none
  | j4 + 1, v3, v4 =>
    bif decide (v4 < (a0.length : Int)) then (Option.bind (α := (Int) ⊕ ((Unit) ⊕ (Int))) (bindI a0 v4 fun y8 =>
    Option.bind (α := Int × ByteArray × Int × Int × Int × Int × Int × Int × Int × Int × Bool × Int × Int) (bif decide (v4 > 0) then (bindI a0 (w (v4 - 1)) fun y22 =>
    some (y22.kind, y22.font, y22.size, y22.rune, y22.width, y22.height, y22.depth, y22.stretch, y22.shrink, y22.value, y22.flag, y22.from_, y22.to_)) else (some (0, ByteArray.empty, 0, 0, 0, 0, 0, 0, 0, 0, false, 0, 0))) fun (v9, v10, v11, v12, v13, v14, v15, v16, v17, v18, v19, v20, v21) =>
    Option.bind (α := Int × ByteArray × Int × Int × Int × Int × Int × Int × Int × Int × Bool × Int × Int) (bif decide ((w (v4 + 1)) < (a0.length : Int)) then (bindI a0 (w (v4 + 1)) fun y36 =>
    some (y36.kind, y36.font, y36.size, y36.rune, y36.width, y36.height, y36.depth, y36.stretch, y36.shrink, y36.value, y36.flag, y36.from_, y36.to_)) else (some (0, ByteArray.empty, 0, 0, 0, 0, 0, 0, 0, 0, false, 0, 0))) fun (v23, v24, v25, v26, v27, v28, v29, v30, v31, v32, v33, v34, v35) =>
    (F91 k y8 (GItem.mk v9 v10 v11 v12 v13 v14 v15 v16 v17 v18 v19 v20 v21) (GItem.mk v23 v24 v25 v26 v27 v28 v29 v30 v31 v32 v33 v34 v35)).bind fun r23 =>
    bif !r23 then (some (.inr (.inr 1))) else (bif y8.kind == 2 then (some (.inl v3)) else (Option.bind (α := Bool) (bif decide (y8.from_ < v3) then (some true) else ((F92 k y8.to_ y8.from_ 65536).bind fun r30 =>
    some (!r30))) fun (v37 : Bool) =>
    bif v37 then (some (.inr (.inr 1))) else (some (.inl y8.to_))))) (Sum.elim (fun (v7 : Int) =>
    F64_l1 k a0 j4 v7 (w (v4 + 1))) some)) else (some (.inl ()))
def F64 (k : Nat) (a0 : List GItem) : Option Int :=
bif decide ((a0.length : Int) > 4096) then (some 130) else (Option.bind (α := (Unit) ⊕ (Int)) (F64_l1 k a0 k 0 0) (Sum.elim (fun (_ : Unit) =>
Option.bind (α := Bool) (bif decide ((a0.length : Int) > 0) then (bindI a0 (w ((a0.length : Int) - 1)) fun y39 =>
Option.bind (α := Bool) (bif y39.kind != 4 then (some true) else (bindI a0 (w ((a0.length : Int) - 1)) fun y41 =>
some (y41.value != (-10000)))) fun (v40 : Bool) =>
some v40) else (some false)) fun (v38 : Bool) =>
bif v38 then (some 1) else (some 0)) some))
theorem L64 (k : Nat) (a0 : List GItem) (r : Int) (hF : F64 k a0 = some r) : PF Try.prog orc 64 [.list 13 (List.map cGItem a0) none] [] [] (fun p fr tk => p = .val (.int .i64 r) ∧ fr = [] ∧ tk = []) := by
  unfold F64 at hF
  refine PF.enterS Try.func64 rfl rfl rfl (by kernel_rfl) rfl ?_
  refine PC.run (n := 2) rfl ?_
  refine PC.assoc ?_
  refine PC.region ?_
  refine PO.run 1 rfl ?_
  refine PO.same rfl (len_ok Try.underlying42 rfl (List.length_map _)) rfl ?_
  refine PO.run 1 rfl ?_
  refine PO.nil ?_
  refine PC.cond rfl (fun h1 => ?_) (fun h1 => ?_)
  · have hF := bif_t h1 hF
    refine PC.assoc ?_
    refine PC.run (n := 2) rfl ?_
    obtain rfl := Option.some.inj hF
    exact PC.ret (retSK [] [] (by kernel_rfl) (.refl _) ⟨rfl, rfl, rfl⟩)
  · have hF := bif_f h1 hF
    refine PC.noop ?_
    refine PC.run (n := 2) rfl ?_
    refine PC.assoc ?_
    refine PC.region ?_
    refine PO.run 1 rfl ?_
    refine PO.same rfl (len_ok Try.underlying42 rfl (List.length_map _)) rfl ?_
    refine PO.run 1 rfl ?_
    refine PO.nil ?_
    refine bindK hF (fun x2 e3 hF => ?_)
    refine PC.blockJ (fun s => Weak s (PS.of 81 [(0, .list 13 (List.map cGItem a0) none), (2, .val (.int .i64 0))] [] [] 0 0) ∧ .inl () = x2) ?_ ?_
    · refine PC.loop (fun j4 s => ∃ (v3 : Int) (v4 : Int), Weak s (PS.of 81 [(0, .list 13 (List.map cGItem a0) none), (2, .val (.int .i64 0)), (3, .val (.int .i64 v3)), (12, .list 13 (List.map cGItem a0) none), (13, .val (.int .i64 (a0.length : Int))), (14, .val (.int .i64 v4))] [] [] 0 0) ∧ F64_l1 k a0 j4 v3 v4 = some x2) (fun j4 s => ?_) k ⟨0, 0, Weak.one [] [] (by kernel_rfl), e3⟩
      rintro ⟨v3, v4, w5, e3⟩
      refine PC.weak w5 ?_
      cases j4 with
      | zero => rw [F64_l1] at e3; cases e3
      | succ j4 =>
        rw [F64_l1] at e3
        refine PC.run (n := 2) rfl ?_
        refine PC.cond rfl (fun h6 => ?_) (fun h6 => ?_)
        · have e3 := bif_t h6 e3
          refine PC.noop ?_
          refine bindK e3 (fun x7 e8 e3 => ?_)
          refine PC.blockJ (fun s => ∃ (v7 : Int), Weak s (PS.of 81 [(0, .list 13 (List.map cGItem a0) none), (2, .val (.int .i64 0)), (3, .val (.int .i64 v7)), (12, .list 13 (List.map cGItem a0) none), (13, .val (.int .i64 (a0.length : Int))), (14, .val (.int .i64 v4))] [] [] 0 0) ∧ .inl v7 = x7) ?_ ?_
          · refine PC.region ?_
            refine PO.run 1 rfl ?_
            refine bindIK e8 (fun y8 h9 h10 e8 => ?_)
            refine PO.same rfl (indexAddr_ok Try.underlying42 rfl rfl rfl h9 (map_at h10)) rfl ?_
            refine PO.runK 4 [0] [] (es := [(0, .list 13 (List.map cGItem a0) none), (2, .val (.int .i64 0)), (3, .val (.int .i64 v3)), (4, .val (.int .i64 v4)), (5, .ptr 0 0), (12, .list 13 (List.map cGItem a0) none), (13, .val (.int .i64 (a0.length : Int))), (14, .val (.int .i64 v4))]) (fr' := [⟨0, (cGItem y8)⟩]) (tk' := []) (by kernel_rfl) ?_
            refine PO.nil ?_
            refine PC.region ?_
            refine PO.runK 2 [0, 1, 2] [] (es := [(0, .list 13 (List.map cGItem a0) none), (2, .val (.int .i64 0)), (3, .val (.int .i64 v3)), (4, .val (.int .i64 v4)), (5, .ptr 0 0), (6, .ptr 1 0), (7, .ptr 2 0), (12, .list 13 (List.map cGItem a0) none), (13, .val (.int .i64 (a0.length : Int))), (14, .val (.int .i64 v4))]) (fr' := [⟨0, (cGItem y8)⟩, ⟨0, [.val (.int .i64 0), .val (.string ByteArray.empty), .val (.int .i64 0), .val (.int .i64 0), .val (.int .i64 0), .val (.int .i64 0), .val (.int .i64 0), .val (.int .i64 0), .val (.int .i64 0), .val (.int .i64 0), .val (.bool false), .val (.int .i64 0), .val (.int .i64 0)]⟩, ⟨0, [.val (.int .i64 0), .val (.string ByteArray.empty), .val (.int .i64 0), .val (.int .i64 0), .val (.int .i64 0), .val (.int .i64 0), .val (.int .i64 0), .val (.int .i64 0), .val (.int .i64 0), .val (.int .i64 0), .val (.bool false), .val (.int .i64 0), .val (.int .i64 0)]⟩]) (tk' := []) (by kernel_rfl) ?_
            refine PO.nil ?_
            refine PC.assoc ?_
            refine PC.run (n := 3) rfl ?_
            refine bindK e8 (fun x11 e12 e8 => ?_)
            refine PC.join (fun s => ∃ (v9 : Int) (v10 : ByteArray) (v11 : Int) (v12 : Int) (v13 : Int) (v14 : Int) (v15 : Int) (v16 : Int) (v17 : Int) (v18 : Int) (v19 : Bool) (v20 : Int) (v21 : Int), Weak s (PS.of 81 [(0, .list 13 (List.map cGItem a0) none), (2, .val (.int .i64 0)), (3, .val (.int .i64 v3)), (4, .val (.int .i64 v4)), (5, .ptr 0 0), (6, .ptr 1 0), (7, .ptr 2 0), (12, .list 13 (List.map cGItem a0) none), (13, .val (.int .i64 (a0.length : Int))), (14, .val (.int .i64 v4))] [⟨0, (cGItem y8)⟩, ⟨0, [.val (.int .i64 v9), .val (.string v10), .val (.int .i64 v11), .val (.int .i64 v12), .val (.int .i64 v13), .val (.int .i64 v14), .val (.int .i64 v15), .val (.int .i64 v16), .val (.int .i64 v17), .val (.int .i64 v18), .val (.bool v19), .val (.int .i64 v20), .val (.int .i64 v21)]⟩, ⟨0, [.val (.int .i64 0), .val (.string ByteArray.empty), .val (.int .i64 0), .val (.int .i64 0), .val (.int .i64 0), .val (.int .i64 0), .val (.int .i64 0), .val (.int .i64 0), .val (.int .i64 0), .val (.int .i64 0), .val (.bool false), .val (.int .i64 0), .val (.int .i64 0)]⟩] [] 0 0) ∧ (v9, v10, v11, v12, v13, v14, v15, v16, v17, v18, v19, v20, v21) = x11) ?_ ?_
            · refine PC.cond rfl (fun h13 => ?_) (fun h13 => ?_)
              · have e12 := bif_t h13 e12
                refine PC.region ?_
                refine PO.run 3 rfl ?_
                refine bindIK e12 (fun y22 h14 h15 e12 => ?_)
                refine PO.same rfl (indexAddr_ok Try.underlying42 rfl rfl rfl h14 (map_at h15)) rfl ?_
                refine PO.runK 2 [0, 1, 2] [] (es := [(0, .list 13 (List.map cGItem a0) none), (2, .val (.int .i64 0)), (3, .val (.int .i64 v3)), (4, .val (.int .i64 v4)), (5, .ptr 0 0), (6, .ptr 1 0), (7, .ptr 2 0), (12, .list 13 (List.map cGItem a0) none), (13, .val (.int .i64 (a0.length : Int))), (14, .val (.int .i64 v4))]) (fr' := [⟨0, (cGItem y8)⟩, ⟨0, (cGItem y22)⟩, ⟨0, [.val (.int .i64 0), .val (.string ByteArray.empty), .val (.int .i64 0), .val (.int .i64 0), .val (.int .i64 0), .val (.int .i64 0), .val (.int .i64 0), .val (.int .i64 0), .val (.int .i64 0), .val (.int .i64 0), .val (.bool false), .val (.int .i64 0), .val (.int .i64 0)]⟩]) (tk' := []) (by kernel_rfl) ?_
                refine PO.nil ?_
                obtain rfl := Option.some.inj e12
                exact PC.skip (joinKP.end ⟨y22.kind, y22.font, y22.size, y22.rune, y22.width, y22.height, y22.depth, y22.stretch, y22.shrink, y22.value, y22.flag, y22.from_, y22.to_, Weak.one [0, 1, 2] [] (by kernel_rfl), rfl⟩)
              · have e12 := bif_f h13 e12
                refine PC.noop ?_
                obtain rfl := Option.some.inj e12
                exact PC.skip (joinKP.end ⟨0, ByteArray.empty, 0, 0, 0, 0, 0, 0, 0, 0, false, 0, 0, Weak.one [0, 1, 2] [] (by kernel_rfl), rfl⟩)
            · rintro _ ⟨v9, v10, v11, v12, v13, v14, v15, v16, v17, v18, v19, v20, v21, w16, rfl⟩
              refine PC.weak w16 ?_
              refine PC.assoc ?_
              refine PC.region ?_
              refine PO.run 3 rfl ?_
              refine PO.same rfl (len_ok Try.underlying42 rfl (List.length_map _)) rfl ?_
              refine PO.run 1 rfl ?_
              refine PO.nil ?_
              refine bindK e8 (fun x17 e18 e8 => ?_)
              refine PC.join (fun s => ∃ (v23 : Int) (v24 : ByteArray) (v25 : Int) (v26 : Int) (v27 : Int) (v28 : Int) (v29 : Int) (v30 : Int) (v31 : Int) (v32 : Int) (v33 : Bool) (v34 : Int) (v35 : Int), Weak s (PS.of 81 [(0, .list 13 (List.map cGItem a0) none), (2, .val (.int .i64 0)), (3, .val (.int .i64 v3)), (5, .ptr 0 0), (6, .ptr 1 0), (7, .ptr 2 0), (12, .list 13 (List.map cGItem a0) none), (13, .val (.int .i64 (a0.length : Int))), (14, .val (.int .i64 v4))] [⟨0, (cGItem y8)⟩, ⟨0, [.val (.int .i64 v9), .val (.string v10), .val (.int .i64 v11), .val (.int .i64 v12), .val (.int .i64 v13), .val (.int .i64 v14), .val (.int .i64 v15), .val (.int .i64 v16), .val (.int .i64 v17), .val (.int .i64 v18), .val (.bool v19), .val (.int .i64 v20), .val (.int .i64 v21)]⟩, ⟨0, [.val (.int .i64 v23), .val (.string v24), .val (.int .i64 v25), .val (.int .i64 v26), .val (.int .i64 v27), .val (.int .i64 v28), .val (.int .i64 v29), .val (.int .i64 v30), .val (.int .i64 v31), .val (.int .i64 v32), .val (.bool v33), .val (.int .i64 v34), .val (.int .i64 v35)]⟩] [] 0 0) ∧ (v23, v24, v25, v26, v27, v28, v29, v30, v31, v32, v33, v34, v35) = x17) ?_ ?_
              · refine PC.cond rfl (fun h19 => ?_) (fun h19 => ?_)
                · have e18 := bif_t h19 e18
                  refine PC.region ?_
                  refine PO.run 3 rfl ?_
                  refine bindIK e18 (fun y36 h20 h21 e18 => ?_)
                  refine PO.same rfl (indexAddr_ok Try.underlying42 rfl rfl rfl h20 (map_at h21)) rfl ?_
                  refine PO.runK 2 [0, 1, 2] [] (es := [(0, .list 13 (List.map cGItem a0) none), (2, .val (.int .i64 0)), (3, .val (.int .i64 v3)), (5, .ptr 0 0), (6, .ptr 1 0), (7, .ptr 2 0), (12, .list 13 (List.map cGItem a0) none), (13, .val (.int .i64 (a0.length : Int))), (14, .val (.int .i64 v4))]) (fr' := [⟨0, (cGItem y8)⟩, ⟨0, [.val (.int .i64 v9), .val (.string v10), .val (.int .i64 v11), .val (.int .i64 v12), .val (.int .i64 v13), .val (.int .i64 v14), .val (.int .i64 v15), .val (.int .i64 v16), .val (.int .i64 v17), .val (.int .i64 v18), .val (.bool v19), .val (.int .i64 v20), .val (.int .i64 v21)]⟩, ⟨0, (cGItem y36)⟩]) (tk' := []) (by kernel_rfl) ?_
                  refine PO.nil ?_
                  obtain rfl := Option.some.inj e18
                  exact PC.skip (joinKP.end ⟨y36.kind, y36.font, y36.size, y36.rune, y36.width, y36.height, y36.depth, y36.stretch, y36.shrink, y36.value, y36.flag, y36.from_, y36.to_, Weak.one [0, 1, 2] [] (by kernel_rfl), rfl⟩)
                · have e18 := bif_f h19 e18
                  refine PC.noop ?_
                  obtain rfl := Option.some.inj e18
                  exact PC.skip (joinKP.end ⟨0, ByteArray.empty, 0, 0, 0, 0, 0, 0, 0, 0, false, 0, 0, Weak.one [0, 1, 2] [] (by kernel_rfl), rfl⟩)
              · rintro _ ⟨v23, v24, v25, v26, v27, v28, v29, v30, v31, v32, v33, v34, v35, w22, rfl⟩
                refine PC.weak w22 ?_
                refine PC.assoc ?_
                refine PC.region ?_
                refine PO.run 3 rfl ?_
                refine bindK e8 (fun r23 e24 e8 => ?_)
                refine PO.call rfl rfl rfl rfl (ks := []) (ts := []) (fr1 := []) rfl rfl rfl trivial (L91 k y8 (GItem.mk v9 v10 v11 v12 v13 v14 v15 v16 v17 v18 v19 v20 v21) (GItem.mk v23 v24 v25 v26 v27 v28 v29 v30 v31 v32 v33 v34 v35) _ e24) ?_
                rintro _ _ _ ⟨rfl, rfl, rfl⟩
                refine ⟨_, _, rfl, rfl, ?_⟩
                refine PO.run 1 rfl ?_
                refine PO.nil ?_
                refine PC.cond rfl (fun h25 => ?_) (fun h25 => ?_)
                · have e8 := bif_t h25 e8
                  refine PC.assoc ?_
                  refine PC.run (n := 2) rfl ?_
                  obtain rfl := Option.some.inj e8
                  obtain rfl := Option.some.inj e3
                  obtain rfl := Option.some.inj hF
                  exact PC.ret (blockJK.back (loopKP.ret (blockJK.back (retSK [] [] (by kernel_rfl) (.refl _) ⟨rfl, rfl, rfl⟩))))
                · have e8 := bif_f h25 e8
                  refine PC.noop ?_
                  refine PC.assoc ?_
                  refine PC.run (n := 4) rfl ?_
                  refine PC.cond rfl (fun h26 => ?_) (fun h26 => ?_)
                  · have e8 := bif_t h26 e8
                    obtain rfl := Option.some.inj e8
                    exact PC.exit (blockJK.here ⟨v3, Weak.one [] [] (by kernel_rfl), rfl⟩)
                  · have e8 := bif_f h26 e8
                    refine PC.noop ?_
                    refine PC.assoc ?_
                    refine PC.region ?_
                    refine PO.run 5 rfl ?_
                    refine bindK e8 (fun x27 e28 e8 => ?_)
                    refine PO.cut 7 (fun s => ∃ (v37 : Bool), Weak s (PS.of 81 [(0, .list 13 (List.map cGItem a0) none), (2, .val (.int .i64 0)), (3, .val (.int .i64 v3)), (5, .ptr 0 0), (12, .list 13 (List.map cGItem a0) none), (13, .val (.int .i64 (a0.length : Int))), (14, .val (.int .i64 v4)), (55, .val (.bool v37))] [⟨0, (cGItem y8)⟩] [] 0 0) ∧ v37 = x27) ?_ ?_
                    · refine PO.case (t := 48) rfl rfl (fun h29 => ?_) (fun h29 => ?_)
                      · have e28 := bif_t h29 e28
                        refine PO.run 6 rfl ?_
                        refine PO.same rfl (pickT_ok rfl rfl rfl) rfl ?_
                        refine PO.nil ?_
                        obtain rfl := Option.some.inj e28
                        exact ⟨true, Weak.one [0] [] (by kernel_rfl), rfl⟩
                      · have e28 := bif_f h29 e28
                        refine PO.run 4 rfl ?_
                        refine bindK e28 (fun r30 e31 e28 => ?_)
                        refine PO.call rfl rfl rfl rfl (ks := []) (ts := []) (fr1 := []) rfl rfl rfl trivial (L92 k y8.to_ y8.from_ 65536 _ e31) ?_
                        rintro _ _ _ ⟨rfl, rfl, rfl⟩
                        refine ⟨_, _, rfl, rfl, ?_⟩
                        refine PO.run 1 rfl ?_
                        refine PO.same rfl (pickF_ok rfl rfl rfl) rfl ?_
                        refine PO.nil ?_
                        obtain rfl := Option.some.inj e28
                        exact ⟨!r30, Weak.one [0] [] (by kernel_rfl), rfl⟩
                    · rintro _ ⟨v37, w32, rfl⟩
                      refine PO.weak w32 ?_
                      refine PO.nil ?_
                      refine PC.cond rfl (fun h33 => ?_) (fun h33 => ?_)
                      · have e8 := bif_t h33 e8
                        refine PC.assoc ?_
                        refine PC.run (n := 2) rfl ?_
                        obtain rfl := Option.some.inj e8
                        obtain rfl := Option.some.inj e3
                        obtain rfl := Option.some.inj hF
                        exact PC.ret (blockJK.back (loopKP.ret (blockJK.back (retSK [] [] (by kernel_rfl) (.refl _) ⟨rfl, rfl, rfl⟩))))
                      · have e8 := bif_f h33 e8
                        refine PC.noop ?_
                        refine PC.lone ?_
                        refine PC.run (n := 4) rfl ?_
                        obtain rfl := Option.some.inj e8
                        exact PC.skip (blockJK.end ⟨y8.to_, Weak.one [] [] (by kernel_rfl), rfl⟩)
          · rintro _ ⟨v7, w34, rfl⟩
            refine PC.weak w34 ?_
            have e3 := elim_l e3
            refine PC.lone ?_
            refine PC.run (n := 3) rfl ?_
            exact PC.skip (loopKP.mk (Nat.lt_succ_self _) ⟨v7, w (v4 + 1), Weak.one [] [] (by kernel_rfl), e3⟩)
        · have e3 := bif_f h6 e3
          obtain rfl := Option.some.inj e3
          exact PC.exit (loopKP.exit (blockJK.here ⟨Weak.one [] [] (by kernel_rfl), rfl⟩))
    · rintro _ ⟨w35, rfl⟩
      refine PC.weak w35 ?_
      have hF := elim_l hF
      refine PC.assoc ?_
      refine PC.region ?_
      refine PO.run 1 rfl ?_
      refine PO.same rfl (len_ok Try.underlying42 rfl (List.length_map _)) rfl ?_
      refine PO.run 1 rfl ?_
      refine PO.nil ?_
      refine PC.assoc ?_
      refine PC.region ?_
      refine PO.run 3 rfl ?_
      refine bindK hF (fun x36 e37 hF => ?_)
      refine PO.cut 17 (fun s => ∃ (v38 : Bool), Weak s (PS.of 81 [(2, .val (.int .i64 0)), (80, .val (.bool v38))] [] [] 0 0) ∧ v38 = x36) ?_ ?_
      · refine PO.case (t := 63) rfl rfl (fun h38 => ?_) (fun h38 => ?_)
        · have e37 := bif_t h38 e37
          refine PO.run 3 rfl ?_
          refine bindIK e37 (fun y39 h39 h40 e37 => ?_)
          refine PO.same rfl (indexAddr_ok Try.underlying42 rfl rfl rfl h39 (map_at h40)) rfl ?_
          refine PO.run 4 rfl ?_
          refine bindK e37 (fun x41 e42 e37 => ?_)
          refine PO.cut 9 (fun s => ∃ (v40 : Bool), Weak s (PS.of 81 [(2, .val (.int .i64 0)), (80, .val (.bool v40))] [] [] 0 0) ∧ v40 = x41) ?_ ?_
          · refine PO.case (t := 71) rfl rfl (fun h43 => ?_) (fun h43 => ?_)
            · have e42 := bif_t h43 e42
              refine PO.run 7 rfl ?_
              refine PO.same rfl (pickT_ok rfl rfl rfl) rfl ?_
              refine PO.same rfl (pickT_ok rfl rfl rfl) rfl ?_
              refine PO.nil ?_
              obtain rfl := Option.some.inj e42
              exact ⟨true, Weak.one [] [] (by kernel_rfl), rfl⟩
            · have e42 := bif_f h43 e42
              refine PO.run 3 rfl ?_
              refine bindIK e42 (fun y41 h44 h45 e42 => ?_)
              refine PO.same rfl (indexAddr_ok Try.underlying42 rfl rfl rfl h44 (map_at h45)) rfl ?_
              refine PO.run 3 rfl ?_
              refine PO.same rfl (pickF_ok rfl rfl rfl) rfl ?_
              refine PO.same rfl (pickT_ok rfl rfl rfl) rfl ?_
              refine PO.nil ?_
              obtain rfl := Option.some.inj e42
              exact ⟨y41.value != (-10000), Weak.one [] [] (by kernel_rfl), rfl⟩
          · rintro _ ⟨v40, w46, rfl⟩
            refine PO.weak w46 ?_
            refine PO.nil ?_
            obtain rfl := Option.some.inj e37
            exact ⟨v40, Weak.one [] [] (by kernel_rfl), rfl⟩
        · have e37 := bif_f h38 e37
          refine PO.run 16 rfl ?_
          refine PO.same rfl (pickF_ok rfl rfl rfl) rfl ?_
          refine PO.nil ?_
          obtain rfl := Option.some.inj e37
          exact ⟨false, Weak.one [] [] (by kernel_rfl), rfl⟩
      · rintro _ ⟨v38, w47, rfl⟩
        refine PO.weak w47 ?_
        refine PO.nil ?_
        refine PC.cond rfl (fun h48 => ?_) (fun h48 => ?_)
        · have hF := bif_t h48 hF
          refine PC.assoc ?_
          refine PC.run (n := 2) rfl ?_
          obtain rfl := Option.some.inj hF
          exact PC.ret (retSK [] [] (by kernel_rfl) (.refl _) ⟨rfl, rfl, rfl⟩)
        · have hF := bif_f h48 hF
          refine PC.noop ?_
          refine PC.run (n := 2) rfl ?_
          obtain rfl := Option.some.inj hF
          exact PC.ret' (retSK [] [] (by kernel_rfl) (.refl _) ⟨rfl, rfl, rfl⟩)

/-! 65 platen/line.walk -/
def F65 (k : Nat) (a0 : List GItem) : Option (List GItem) :=
some a0
theorem L65 (k : Nat) (a0 : List GItem) (r : List GItem) (hF : F65 k a0 = some r) : PF Try.prog orc 65 [.list 13 (List.map cGItem a0) none] [] [] (fun p fr tk => p = .fn 93 [] [.ptr 0 0] ∧ fr = [⟨0, [.list 13 (List.map cGItem r) none]⟩] ∧ tk = []) := by
  unfold F65 at hF
  refine PF.enterS Try.func65 rfl rfl rfl (by kernel_rfl) rfl ?_
  refine PC.region ?_
  refine PO.runK 2 [0] [] (es := [(1, .ptr 0 0), (2, .val .nilFunc)]) (fr' := [⟨0, [.list 13 (List.map cGItem a0) none]⟩]) (tk' := []) (by kernel_rfl) ?_
  refine PO.nil ?_
  refine PC.run (n := 3) rfl ?_
  obtain rfl := Option.some.inj hF
  exact PC.ret' (retSK [0] [] (by kernel_rfl) (.refl _) ⟨rfl, rfl, rfl⟩)

/-! 30 platen/line.Legal -/
def F30_r1 (k : Nat) : List Int → (List Int) → Option ((List Int))
  | [], v5 => some v5
  | y4 :: l7, v5 =>
    bindA 8 v5 ([y4]) fun l8 =>
    F30_r1 k l7 l8
def F30 (k : Nat) (a0 : List GItem) : Option (List Int) :=
(F64 k a0).bind fun r1 =>
Option.bind (α := List Int) (bif r1 == 0 then ((F65 k a0).bind fun r6 =>
Option.bind (α := List Int) ((walkL k r6 k 0).bind fun l3 =>
Option.bind (α := (List Int)) (F30_r1 k l3 ([] : List Int)) (fun (v5 : List Int) =>
some v5)) fun (v2 : List Int) =>
some v2) else (some ([]))) fun (v1 : List Int) =>
some v1
theorem L30 (k : Nat) (a0 : List GItem) (r : List Int) (hF : F30 k a0 = some r) : PF Try.prog orc 30 [.list 13 (List.map cGItem a0) none] [] [] (fun p fr tk => p = .fn 66 [] [.ptr 0 0] ∧ fr = [⟨0, [.list 1 (List.map cI_i64 r) none]⟩] ∧ tk = []) := by
  unfold F30 at hF
  refine PF.enterM Try.func30 rfl rfl rfl (by kernel_rfl) rfl ?_
  refine PC.run (n := 2) rfl ?_
  refine PC.region ?_
  refine PO.runK 1 [0] [] (es := [(0, .list 13 (List.map cGItem a0) none), (2, .val .nilFunc), (3, .ptr 0 0)]) (fr' := [⟨0, [.val (.slice none 0 0)]⟩]) (tk' := []) (by kernel_rfl) ?_
  refine PO.nil ?_
  refine PC.assoc ?_
  refine PC.region ?_
  refine PO.run 1 rfl ?_
  refine bindK hF (fun r1 e2 hF => ?_)
  refine PO.call rfl rfl rfl rfl (ks := []) (ts := []) (fr1 := []) rfl rfl rfl trivial (L64 k a0 _ e2) ?_
  rintro _ _ _ ⟨rfl, rfl, rfl⟩
  refine ⟨_, _, rfl, rfl, ?_⟩
  refine PO.run 1 rfl ?_
  refine PO.nil ?_
  refine bindK hF (fun x3 e4 hF => ?_)
  refine PC.join (fun s => ∃ (v1 : List Int), Weak s (PS.ofm [none] 16 [(2, .val .nilFunc), (3, .ptr 0 0)] [⟨0, [.list 1 (List.map cI_i64 v1) none]⟩] [] 0 0) ∧ v1 = x3) ?_ ?_
  · refine PC.cond rfl (fun h5 => ?_) (fun h5 => ?_)
    · have e4 := bif_t h5 e4
      refine PC.assoc ?_
      refine PC.region ?_
      refine PO.run 1 rfl ?_
      refine bindK e4 (fun r6 e7 e4 => ?_)
      refine PO.call rfl rfl rfl rfl (ks := []) (ts := []) (fr1 := []) rfl rfl rfl trivial (L65 k a0 _ e7) ?_
      rintro _ _ _ ⟨rfl, rfl, rfl⟩
      refine ⟨_, _, rfl, rfl, ?_⟩
      refine PO.nil ?_
      refine bindK e4 (fun x8 e9 e4 => ?_)
      refine PC.blockJ (fun s => ∃ (v2 : List Int), Weak s (PS.ofm [none] 16 [(2, .val .nilFunc), (3, .ptr 0 0)] [⟨0, [.list 1 (List.map cI_i64 v2) (some 0)]⟩] [v2.length] 0 0) ∧ v2 = x8) ?_ ?_
      · refine PC.lone ?_
        refine bindK e9 (fun l3 e10 e9 => ?_)
        refine PC.weak (s' := PS.ofm [none] 16 [(2, .val .nilFunc), (3, .ptr 0 0), (9, .fn 93 [] [.ptr 1 0])] [⟨0, [.list 1 (List.map cI_i64 ([] : List Int)) (some 0)]⟩, ⟨0, [.list 13 (List.map cGItem r6) none]⟩] [0] 0 0) (Weak.mk [0, 1] [] 1 rfl rfl rfl ⟨⟨_, _, rfl, rfl, rfl, (LessL.cons (.nilt 1 0 rfl rfl) (LessL.refl _))⟩, ⟨⟨_, _, rfl, rfl, rfl, (LessL.refl _)⟩, trivial⟩⟩ ⟨⟨_, _, rfl, rfl, .refl _⟩, ⟨⟨_, _, rfl, rfl, .refl _⟩, ⟨⟨_, _, rfl, rfl, .refl _⟩, trivial⟩⟩⟩) ?_
        refine bindK e9 (fun x11 e12 e9 => ?_)
        refine PC.rangeFunc (f := 93) rfl (I93 k r6 k l3 e10 1) (by intro i x hx; obtain ⟨_, _, rfl⟩ := map_inv hx; rfl) (by intro h; first | rfl | cases h) (fun i fr tk => ∃ (v5 : List Int), fr = [⟨0, [.list 1 (List.map cI_i64 v5) (some 0)]⟩, ⟨0, [.list 13 (List.map cGItem r6) none]⟩] ∧ tk = [v5.length] ∧ F30_r1 k (List.drop i l3) v5 = some x11) (fun y fr tk => False) ?_ ?_ ?_ ?_ ?_
        · rintro i fr tk ⟨v5, rfl, rfl, _⟩
          exact ⟨rfl, rfl, ⟨_, _, rfl⟩⟩
        · exact ⟨([] : List Int), rfl, rfl, e12⟩
        · intro i x fr tk l hx hj
          refine Exists.elim (map_inv hx) (fun y4 hq => ?_)
          have ha := hq.1
          obtain rfl := hq.2
          clear hq
          obtain ⟨v5, rfl, rfl, e13⟩ := hj
          rw [drop_at ha, F30_r1] at e13
          clear hx ha
          refine ⟨_, rfl, ?_⟩
          refine PC.weak (s' := PS.of 16 [(3, .ptr 0 0), (10, .val (.int .i64 y4))] [⟨0, [.list 1 (List.map cI_i64 v5) (some 0)]⟩, ⟨0, [.list 13 (List.map cGItem r6) none]⟩] [v5.length] 2 1) (Weak.one [0, 1] [0] (by kernel_rfl)) ?_
          refine PC.lone ?_
          refine PC.run (n := 2) rfl ?_
          refine PC.skip ⟨rfl, ?_⟩
          refine PC.lone ?_
          refine PC.block ?_
          refine PC.lone ?_
          refine PC.region ?_
          refine PO.runK 3 [0, 1] [0, 1] (es := [(3, .ptr 0 0), (11, .list 1 (List.map cI_i64 v5) (some 0)), (13, .list 1 (List.map cI_i64 ([y4])) (some 1))]) (fr' := [⟨0, [.list 1 (List.map cI_i64 v5) (some 0)]⟩, ⟨0, [.list 13 (List.map cGItem r6) none]⟩]) (tk' := [v5.length, 1]) (by kernel_rfl) ?_
          refine bindAK e13 (fun h17 e13 => ?_)
          generalize hgl8 : v5 ++ ([y4]) = l8 at e13
          refine PO.one rfl (append_typed (L := v5) (M := [y4]) (f := cI_i64) (sz := 1) (bytes := 8) Try.underlying43 rfl rfl rfl rfl rfl rfl rfl rfl rfl rfl rfl rfl h17 hgl8) rfl ?_
          refine PO.runK 1 [0, 1] [0] (es := []) (fr' := [⟨0, [.list 1 (List.map cI_i64 l8) (some 0)]⟩, ⟨0, [.list 13 (List.map cGItem r6) none]⟩]) (tk' := [l8.length]) (by kernel_rfl) ?_
          refine PO.nil ?_
          refine PC.skip (blockKP.end ?_)
          refine PC.weak (s' := PS.of 16 [] [⟨0, [.list 1 (List.map cI_i64 l8) (some 0)]⟩, ⟨0, [.list 13 (List.map cGItem r6) none]⟩] [l8.length] 2 1) (Weak.one [0, 1] [0] (by kernel_rfl)) ?_
          exact PC.skip (⟨l8, rfl, rfl, e13⟩)
        · rintro fr tk ⟨v5, rfl, rfl, e13⟩
          rw [List.length_map, List.drop_length, F30_r1] at e13
          obtain rfl := Option.some.inj e13
          have e9 := e9
          refine PC.weak (s' := PS.ofm [none] 16 [(2, .val .nilFunc), (3, .ptr 0 0), (9, .fn 93 [] [.ptr 1 0])] [⟨0, [.list 1 (List.map cI_i64 v5) (some 0)]⟩, ⟨0, [.list 13 (List.map cGItem r6) none]⟩] [v5.length] 0 0) (Weak.one [0, 1] [0] (by kernel_rfl)) ?_
          obtain rfl := Option.some.inj e9
          exact PC.skip (blockJK.end ⟨v5, Weak.one [0] [0] (by kernel_rfl), rfl⟩)
        · intro y fr tk hd hy
          exact hd.elim
      · rintro _ ⟨v2, w18, rfl⟩
        refine PC.weak w18 ?_
        obtain rfl := Option.some.inj e4
        exact PC.skip (joinKP.end ⟨v2, Weak.one [0] [] (by kernel_rfl), rfl⟩)
    · have e4 := bif_f h5 e4
      refine PC.noop ?_
      obtain rfl := Option.some.inj e4
      exact PC.skip (joinKP.end ⟨[], Weak.mk [0] [] 0 rfl rfl rfl ⟨⟨_, _, rfl, rfl, rfl, (LessL.cons (.nil 1) (LessL.refl _))⟩, trivial⟩ ⟨⟨_, _, rfl, rfl, .refl _⟩, ⟨⟨_, _, rfl, rfl, .refl _⟩, trivial⟩⟩, rfl⟩)
  · rintro _ ⟨v1, w19, rfl⟩
    refine PC.weak w19 ?_
    refine PC.run (n := 3) rfl ?_
    obtain rfl := Option.some.inj hF
    exact PC.ret' (retMK [0] [] (by kernel_rfl) (.refl _) ⟨rfl, rfl, rfl⟩)

/-! 79 platen/platenref13.Forced -/
def F79 (k : Nat) (a0 : GItem) : Option Bool :=
Option.bind (α := Bool) (bif a0.kind == 4 then (some (decide (a0.value ≤ (-10000)))) else (some false)) fun (v1 : Bool) =>
some v1
theorem L79 (k : Nat) (a0 : GItem) (r : Bool) (hF : F79 k a0 = some r) : PF Try.prog orc 79 [.agg (cGItem a0)] [] [] (fun p fr tk => p = .val (.bool r) ∧ fr = [] ∧ tk = []) := by
  unfold F79 at hF
  refine PF.enterS Try.func79 rfl rfl rfl (by kernel_rfl) rfl ?_
  refine PC.region ?_
  refine PO.runK 2 [0] [] (es := [(1, .ptr 0 0), (2, .val (.bool false))]) (fr' := [⟨0, (cGItem a0)⟩]) (tk' := []) (by kernel_rfl) ?_
  refine PO.nil ?_
  refine PC.region ?_
  refine PO.run 4 rfl ?_
  refine bindK hF (fun x1 e2 hF => ?_)
  refine PO.cut 4 (fun s => ∃ (v1 : Bool), Weak s (PS.of 11 [(2, .val (.bool false)), (10, .val (.bool v1))] [] [] 0 0) ∧ v1 = x1) ?_ ?_
  · refine PO.case (t := 6) rfl rfl (fun h3 => ?_) (fun h3 => ?_)
    · have e2 := bif_t h3 e2
      refine PO.run 3 rfl ?_
      refine PO.same rfl (pickT_ok rfl rfl rfl) rfl ?_
      refine PO.nil ?_
      obtain rfl := Option.some.inj e2
      exact ⟨decide (a0.value ≤ (-10000)), Weak.one [] [] (by kernel_rfl), rfl⟩
    · have e2 := bif_f h3 e2
      refine PO.run 3 rfl ?_
      refine PO.same rfl (pickF_ok rfl rfl rfl) rfl ?_
      refine PO.nil ?_
      obtain rfl := Option.some.inj e2
      exact ⟨false, Weak.one [] [] (by kernel_rfl), rfl⟩
  · rintro _ ⟨v1, w4, rfl⟩
    refine PO.weak w4 ?_
    refine PO.run 1 rfl ?_
    refine PO.nil ?_
    obtain rfl := Option.some.inj hF
    exact PC.ret' (retSK [] [] (by kernel_rfl) (.refl _) ⟨rfl, rfl, rfl⟩)

/-! 80 platen/platenref13.kern -/
def F80 (k : Nat) (a0 : List GItem) (a1 : Int) : Option Bool :=
Option.bind (α := Bool) (bif a1 == 0 then (some true) else (Option.bind (α := Bool) (bif decide ((w (a1 + 1)) ≥ (a0.length : Int)) then (some true) else (bindI a0 (w (a1 - 1)) fun y3 =>
Option.bind (α := Bool) (bif y3.kind != 1 then (some true) else (bindI a0 (w (a1 + 1)) fun y5 =>
some (y5.kind != 1))) fun (v4 : Bool) =>
some v4)) fun (v2 : Bool) =>
some v2)) fun (v1 : Bool) =>
bif v1 then (some false) else (bindI a0 a1 fun y6 =>
bindI a0 a1 fun y7 =>
Option.bind (α := Bool) (bif (y7.kind == 2 && (y7.font == ByteArray.empty && (y7.size == 0 && (y7.rune == 0 && (y7.width == y6.width && (y7.height == 0 && (y7.depth == 0 && (y7.stretch == 0 && (y7.shrink == 0 && (y7.value == 0 && (y7.flag == false && (y7.from_ == 0 && (y7.to_ == 0 && true))))))))))))) then (Option.bind (α := Bool) (bif y6.width != 0 then (Option.bind (α := Bool) (bif decide (y6.width ≤ 1099511627776) then (bindI a0 (w (a1 - 1)) fun y11 =>
bindI a0 (w (a1 + 1)) fun y12 =>
some (decide (y6.width ≥ (w (0 - (if y12.width < y11.width then y12.width else y11.width)))))) else (some false)) fun (v10 : Bool) =>
some v10) else (some false)) fun (v9 : Bool) =>
some v9) else (some false)) fun (v8 : Bool) =>
some v8)
theorem L80 (k : Nat) (a0 : List GItem) (a1 : Int) (r : Bool) (hF : F80 k a0 a1 = some r) : PF Try.prog orc 80 [.list 13 (List.map cGItem a0) none, .val (.int .i64 a1)] [] [] (fun p fr tk => p = .val (.bool r) ∧ fr = [] ∧ tk = []) := by
  unfold F80 at hF
  refine PF.enterS Try.func80 rfl rfl rfl (by kernel_rfl) rfl ?_
  refine PC.run (n := 2) rfl ?_
  refine PC.assoc ?_
  refine PC.region ?_
  refine PO.run 3 rfl ?_
  refine bindK hF (fun x1 e2 hF => ?_)
  refine PO.cut 24 (fun s => ∃ (v1 : Bool), Weak s (PS.of 71 [(0, .list 13 (List.map cGItem a0) none), (1, .val (.int .i64 a1)), (4, .val (.bool false)), (32, .val (.bool v1))] [] [] 0 0) ∧ v1 = x1) ?_ ?_
  · refine PO.case (t := 8) rfl rfl (fun h3 => ?_) (fun h3 => ?_)
    · have e2 := bif_t h3 e2
      refine PO.run 5 rfl ?_
      refine PO.same rfl (pickT_ok rfl rfl rfl) rfl ?_
      refine PO.run 8 rfl ?_
      refine PO.same rfl (pickT_ok rfl rfl rfl) rfl ?_
      refine PO.run 8 rfl ?_
      refine PO.same rfl (pickT_ok rfl rfl rfl) rfl ?_
      refine PO.nil ?_
      obtain rfl := Option.some.inj e2
      exact ⟨true, Weak.one [] [] (by kernel_rfl), rfl⟩
    · have e2 := bif_f h3 e2
      refine PO.run 3 rfl ?_
      refine PO.same rfl (len_ok Try.underlying42 rfl (List.length_map _)) rfl ?_
      refine PO.run 1 rfl ?_
      refine PO.same rfl (pickF_ok rfl rfl rfl) rfl ?_
      refine PO.run 1 rfl ?_
      refine bindK e2 (fun x4 e5 e2 => ?_)
      refine PO.cut 17 (fun s => ∃ (v2 : Bool), Weak s (PS.of 71 [(0, .list 13 (List.map cGItem a0) none), (1, .val (.int .i64 a1)), (4, .val (.bool false)), (32, .val (.bool v2))] [] [] 0 0) ∧ v2 = x4) ?_ ?_
      · refine PO.case (t := 15) rfl rfl (fun h6 => ?_) (fun h6 => ?_)
        · have e5 := bif_t h6 e5
          refine PO.run 7 rfl ?_
          refine PO.same rfl (pickT_ok rfl rfl rfl) rfl ?_
          refine PO.run 8 rfl ?_
          refine PO.same rfl (pickT_ok rfl rfl rfl) rfl ?_
          refine PO.nil ?_
          obtain rfl := Option.some.inj e5
          exact ⟨true, Weak.one [] [] (by kernel_rfl), rfl⟩
        · have e5 := bif_f h6 e5
          refine PO.run 3 rfl ?_
          refine bindIK e5 (fun y3 h7 h8 e5 => ?_)
          refine PO.same rfl (indexAddr_ok Try.underlying42 rfl rfl rfl h7 (map_at h8)) rfl ?_
          refine PO.run 3 rfl ?_
          refine PO.same rfl (pickF_ok rfl rfl rfl) rfl ?_
          refine PO.run 1 rfl ?_
          refine bindK e5 (fun x9 e10 e5 => ?_)
          refine PO.cut 8 (fun s => ∃ (v4 : Bool), Weak s (PS.of 71 [(0, .list 13 (List.map cGItem a0) none), (1, .val (.int .i64 a1)), (4, .val (.bool false)), (32, .val (.bool v4))] [] [] 0 0) ∧ v4 = x9) ?_ ?_
          · refine PO.case (t := 24) rfl rfl (fun h11 => ?_) (fun h11 => ?_)
            · have e10 := bif_t h11 e10
              refine PO.run 7 rfl ?_
              refine PO.same rfl (pickT_ok rfl rfl rfl) rfl ?_
              refine PO.nil ?_
              obtain rfl := Option.some.inj e10
              exact ⟨true, Weak.one [] [] (by kernel_rfl), rfl⟩
            · have e10 := bif_f h11 e10
              refine PO.run 3 rfl ?_
              refine bindIK e10 (fun y5 h12 h13 e10 => ?_)
              refine PO.same rfl (indexAddr_ok Try.underlying42 rfl rfl rfl h12 (map_at h13)) rfl ?_
              refine PO.run 3 rfl ?_
              refine PO.same rfl (pickF_ok rfl rfl rfl) rfl ?_
              refine PO.nil ?_
              obtain rfl := Option.some.inj e10
              exact ⟨y5.kind != 1, Weak.one [] [] (by kernel_rfl), rfl⟩
          · rintro _ ⟨v4, w14, rfl⟩
            refine PO.weak w14 ?_
            refine PO.nil ?_
            obtain rfl := Option.some.inj e5
            exact ⟨v4, Weak.one [] [] (by kernel_rfl), rfl⟩
      · rintro _ ⟨v2, w15, rfl⟩
        refine PO.weak w15 ?_
        refine PO.nil ?_
        obtain rfl := Option.some.inj e2
        exact ⟨v2, Weak.one [] [] (by kernel_rfl), rfl⟩
  · rintro _ ⟨v1, w16, rfl⟩
    refine PO.weak w16 ?_
    refine PO.nil ?_
    refine PC.cond rfl (fun h17 => ?_) (fun h17 => ?_)
    · have hF := bif_t h17 hF
      refine PC.assoc ?_
      refine PC.run (n := 2) rfl ?_
      obtain rfl := Option.some.inj hF
      exact PC.ret (retSK [] [] (by kernel_rfl) (.refl _) ⟨rfl, rfl, rfl⟩)
    · have hF := bif_f h17 hF
      refine PC.noop ?_
      refine PC.region ?_
      refine PO.run 2 rfl ?_
      refine bindIK hF (fun y6 h18 h19 hF => ?_)
      refine PO.same rfl (indexAddr_ok Try.underlying42 rfl rfl rfl h18 (map_at h19)) rfl ?_
      refine PO.run 3 rfl ?_
      refine PO.nil ?_
      refine PC.drawn (order := [0, 1, 2, 3, 4, 5, 6, 7, 8, 9, 10, 11, 12, 13, 14, 15, 16, 17, 18, 19, 20, 21, 22, 23, 24, 25, 26, 27, 28, 29, 30, 31, 32, 33]) (by kernel_rfl) ?_
      refine PO.run 2 rfl ?_
      refine bindIK hF (fun y7 h20 h21 hF => ?_)
      refine PO.same rfl (indexAddr_ok Try.underlying42 rfl rfl rfl h20 (map_at h21)) rfl ?_
      refine PO.runK 3 [] [] (es := [(0, .list 13 (List.map cGItem a0) none), (1, .val (.int .i64 a1)), (4, .val (.bool false)), (5, .val (.int .i64 y6.width)), (41, .agg (cGItem y7)), (43, .agg [.val (.int .i64 2), .val (.string ByteArray.empty), .val (.int .i64 0), .val (.int .i64 0), .val (.int .i64 y6.width), .val (.int .i64 0), .val (.int .i64 0), .val (.int .i64 0), .val (.int .i64 0), .val (.int .i64 0), .val (.bool false), .val (.int .i64 0), .val (.int .i64 0)])]) (fr' := []) (tk' := []) (by kernel_rfl) ?_
      refine PO.same rfl (aggEq_ok (v := .bool (y7.kind == 2 && (y7.font == ByteArray.empty && (y7.size == 0 && (y7.rune == 0 && (y7.width == y6.width && (y7.height == 0 && (y7.depth == 0 && (y7.stretch == 0 && (y7.shrink == 0 && (y7.value == 0 && (y7.flag == false && (y7.from_ == 0 && (y7.to_ == 0 && true)))))))))))))) rfl rfl rfl rfl rfl rfl rfl (by kernel_rfl)) rfl ?_
      refine PO.run 1 rfl ?_
      refine bindK hF (fun x22 e23 hF => ?_)
      refine PO.cut 25 (fun s => ∃ (v8 : Bool), Weak s (PS.of 71 [(4, .val (.bool false)), (70, .val (.bool v8))] [] [] 0 0) ∧ v8 = x22) ?_ ?_
      · refine PO.case (t := 45) rfl rfl (fun h24 => ?_) (fun h24 => ?_)
        · have e23 := bif_t h24 e23
          refine PO.run 2 rfl ?_
          refine PO.same rfl (pickT_ok rfl rfl rfl) rfl ?_
          refine PO.run 1 rfl ?_
          refine bindK e23 (fun x25 e26 e23 => ?_)
          refine PO.cut 21 (fun s => ∃ (v9 : Bool), Weak s (PS.of 71 [(4, .val (.bool false)), (70, .val (.bool v9))] [] [] 0 0) ∧ v9 = x25) ?_ ?_
          · refine PO.case (t := 49) rfl rfl (fun h27 => ?_) (fun h27 => ?_)
            · have e26 := bif_t h27 e26
              refine PO.run 2 rfl ?_
              refine PO.same rfl (pickT_ok rfl rfl rfl) rfl ?_
              refine PO.run 1 rfl ?_
              refine bindK e26 (fun x28 e29 e26 => ?_)
              refine PO.cut 17 (fun s => ∃ (v10 : Bool), Weak s (PS.of 71 [(4, .val (.bool false)), (70, .val (.bool v10))] [] [] 0 0) ∧ v10 = x28) ?_ ?_
              · refine PO.case (t := 53) rfl rfl (fun h30 => ?_) (fun h30 => ?_)
                · have e29 := bif_t h30 e29
                  refine PO.run 4 rfl ?_
                  refine bindIK e29 (fun y11 h31 h32 e29 => ?_)
                  refine PO.same rfl (indexAddr_ok Try.underlying42 rfl rfl rfl h31 (map_at h32)) rfl ?_
                  refine PO.run 5 rfl ?_
                  refine bindIK e29 (fun y12 h33 h34 e29 => ?_)
                  refine PO.same rfl (indexAddr_ok Try.underlying42 rfl rfl rfl h33 (map_at h34)) rfl ?_
                  refine PO.run 5 rfl ?_
                  refine PO.same rfl (pickT_ok rfl rfl rfl) rfl ?_
                  refine PO.nil ?_
                  obtain rfl := Option.some.inj e29
                  exact ⟨decide (y6.width ≥ (w (0 - (if y12.width < y11.width then y12.width else y11.width)))), Weak.one [] [] (by kernel_rfl), rfl⟩
                · have e29 := bif_f h30 e29
                  refine PO.run 16 rfl ?_
                  refine PO.same rfl (pickF_ok rfl rfl rfl) rfl ?_
                  refine PO.nil ?_
                  obtain rfl := Option.some.inj e29
                  exact ⟨false, Weak.one [] [] (by kernel_rfl), rfl⟩
              · rintro _ ⟨v10, w35, rfl⟩
                refine PO.weak w35 ?_
                refine PO.nil ?_
                obtain rfl := Option.some.inj e26
                exact ⟨v10, Weak.one [] [] (by kernel_rfl), rfl⟩
            · have e26 := bif_f h27 e26
              refine PO.run 2 rfl ?_
              refine PO.same rfl (pickF_ok rfl rfl rfl) rfl ?_
              refine PO.run 17 rfl ?_
              refine PO.same rfl (pickF_ok rfl rfl rfl) rfl ?_
              refine PO.nil ?_
              obtain rfl := Option.some.inj e26
              exact ⟨false, Weak.one [] [] (by kernel_rfl), rfl⟩
          · rintro _ ⟨v9, w36, rfl⟩
            refine PO.weak w36 ?_
            refine PO.nil ?_
            obtain rfl := Option.some.inj e23
            exact ⟨v9, Weak.one [] [] (by kernel_rfl), rfl⟩
        · have e23 := bif_f h24 e23
          refine PO.run 2 rfl ?_
          refine PO.same rfl (pickF_ok rfl rfl rfl) rfl ?_
          refine PO.run 3 rfl ?_
          refine PO.same rfl (pickF_ok rfl rfl rfl) rfl ?_
          refine PO.run 17 rfl ?_
          refine PO.same rfl (pickF_ok rfl rfl rfl) rfl ?_
          refine PO.nil ?_
          obtain rfl := Option.some.inj e23
          exact ⟨false, Weak.one [] [] (by kernel_rfl), rfl⟩
      · rintro _ ⟨v8, w37, rfl⟩
        refine PO.weak w37 ?_
        refine PO.run 1 rfl ?_
        refine PO.nil ?_
        obtain rfl := Option.some.inj hF
        exact PC.ret' (retSK [] [] (by kernel_rfl) (.refl _) ⟨rfl, rfl, rfl⟩)

/-! 98 platen/platenref04.Width -/
def F98 (k : Nat) (a0 : Int) : Option Int :=
Option.bind (α := Bool) (bif decide (a0 < 0) then (some true) else (Option.bind (α := Bool) (bif decide (a0 > 1114111) then (some true) else (Option.bind (α := Bool) (bif decide (a0 ≥ 55296) then (some (decide (a0 ≤ 57343))) else (some false)) fun (v3 : Bool) =>
some v3)) fun (v2 : Bool) =>
some v2)) fun (v1 : Bool) =>
bif v1 then (some 0) else (bif decide (a0 < 128) then (some 1) else (bif decide (a0 < 2048) then (some 2) else (bif decide (a0 < 65536) then (some 3) else (some 4))))
theorem L98 (k : Nat) (a0 : Int) (r : Int) (hF : F98 k a0 = some r) : PF Try.prog orc 98 [.val (.int .i64 a0)] [] [] (fun p fr tk => p = .val (.int .i64 r) ∧ fr = [] ∧ tk = []) := by
  unfold F98 at hF
  refine PF.enterS Try.func98 rfl rfl rfl (by kernel_rfl) rfl ?_
  refine PC.run (n := 2) rfl ?_
  refine PC.assoc ?_
  refine PC.region ?_
  refine PO.run 3 rfl ?_
  refine bindK hF (fun x1 e2 hF => ?_)
  refine PO.cut 11 (fun s => ∃ (v1 : Bool), Weak s (PS.of 23 [(0, .val (.int .i64 a0)), (2, .val (.int .i64 0)), (16, .val (.bool v1))] [] [] 0 0) ∧ v1 = x1) ?_ ?_
  · refine PO.case (t := 5) rfl rfl (fun h3 => ?_) (fun h3 => ?_)
    · have e2 := bif_t h3 e2
      refine PO.run 2 rfl ?_
      refine PO.same rfl (pickT_ok rfl rfl rfl) rfl ?_
      refine PO.run 7 rfl ?_
      refine PO.same rfl (pickT_ok rfl rfl rfl) rfl ?_
      refine PO.nil ?_
      obtain rfl := Option.some.inj e2
      exact ⟨true, Weak.one [] [] (by kernel_rfl), rfl⟩
    · have e2 := bif_f h3 e2
      refine PO.run 2 rfl ?_
      refine PO.same rfl (pickF_ok rfl rfl rfl) rfl ?_
      refine PO.run 1 rfl ?_
      refine bindK e2 (fun x4 e5 e2 => ?_)
      refine PO.cut 7 (fun s => ∃ (v2 : Bool), Weak s (PS.of 23 [(0, .val (.int .i64 a0)), (2, .val (.int .i64 0)), (16, .val (.bool v2))] [] [] 0 0) ∧ v2 = x4) ?_ ?_
      · refine PO.case (t := 9) rfl rfl (fun h6 => ?_) (fun h6 => ?_)
        · have e5 := bif_t h6 e5
          refine PO.run 6 rfl ?_
          refine PO.same rfl (pickT_ok rfl rfl rfl) rfl ?_
          refine PO.nil ?_
          obtain rfl := Option.some.inj e5
          exact ⟨true, Weak.one [] [] (by kernel_rfl), rfl⟩
        · have e5 := bif_f h6 e5
          refine PO.run 3 rfl ?_
          refine bindK e5 (fun x7 e8 e5 => ?_)
          refine PO.cut 4 (fun s => ∃ (v3 : Bool), Weak s (PS.of 23 [(0, .val (.int .i64 a0)), (2, .val (.int .i64 0)), (16, .val (.bool v3))] [] [] 0 0) ∧ v3 = x7) ?_ ?_
          · refine PO.case (t := 12) rfl rfl (fun h9 => ?_) (fun h9 => ?_)
            · have e8 := bif_t h9 e8
              refine PO.run 2 rfl ?_
              refine PO.same rfl (pickT_ok rfl rfl rfl) rfl ?_
              refine PO.same rfl (pickF_ok rfl rfl rfl) rfl ?_
              refine PO.nil ?_
              obtain rfl := Option.some.inj e8
              exact ⟨decide (a0 ≤ 57343), Weak.one [] [] (by kernel_rfl), rfl⟩
            · have e8 := bif_f h9 e8
              refine PO.run 2 rfl ?_
              refine PO.same rfl (pickF_ok rfl rfl rfl) rfl ?_
              refine PO.same rfl (pickF_ok rfl rfl rfl) rfl ?_
              refine PO.nil ?_
              obtain rfl := Option.some.inj e8
              exact ⟨false, Weak.one [] [] (by kernel_rfl), rfl⟩
          · rintro _ ⟨v3, w10, rfl⟩
            refine PO.weak w10 ?_
            refine PO.nil ?_
            obtain rfl := Option.some.inj e5
            exact ⟨v3, Weak.one [] [] (by kernel_rfl), rfl⟩
      · rintro _ ⟨v2, w11, rfl⟩
        refine PO.weak w11 ?_
        refine PO.nil ?_
        obtain rfl := Option.some.inj e2
        exact ⟨v2, Weak.one [] [] (by kernel_rfl), rfl⟩
  · rintro _ ⟨v1, w12, rfl⟩
    refine PO.weak w12 ?_
    refine PO.nil ?_
    refine PC.cond rfl (fun h13 => ?_) (fun h13 => ?_)
    · have hF := bif_t h13 hF
      refine PC.assoc ?_
      refine PC.run (n := 2) rfl ?_
      obtain rfl := Option.some.inj hF
      exact PC.ret (retSK [] [] (by kernel_rfl) (.refl _) ⟨rfl, rfl, rfl⟩)
    · have hF := bif_f h13 hF
      refine PC.noop ?_
      refine PC.assoc ?_
      refine PC.run (n := 3) rfl ?_
      refine PC.cond rfl (fun h14 => ?_) (fun h14 => ?_)
      · have hF := bif_t h14 hF
        refine PC.assoc ?_
        refine PC.run (n := 2) rfl ?_
        obtain rfl := Option.some.inj hF
        exact PC.ret (retSK [] [] (by kernel_rfl) (.refl _) ⟨rfl, rfl, rfl⟩)
      · have hF := bif_f h14 hF
        refine PC.noop ?_
        refine PC.assoc ?_
        refine PC.run (n := 3) rfl ?_
        refine PC.cond rfl (fun h15 => ?_) (fun h15 => ?_)
        · have hF := bif_t h15 hF
          refine PC.assoc ?_
          refine PC.run (n := 2) rfl ?_
          obtain rfl := Option.some.inj hF
          exact PC.ret (retSK [] [] (by kernel_rfl) (.refl _) ⟨rfl, rfl, rfl⟩)
        · have hF := bif_f h15 hF
          refine PC.noop ?_
          refine PC.assoc ?_
          refine PC.run (n := 3) rfl ?_
          refine PC.cond rfl (fun h16 => ?_) (fun h16 => ?_)
          · have hF := bif_t h16 hF
            refine PC.assoc ?_
            refine PC.run (n := 2) rfl ?_
            obtain rfl := Option.some.inj hF
            exact PC.ret (retSK [] [] (by kernel_rfl) (.refl _) ⟨rfl, rfl, rfl⟩)
          · have hF := bif_f h16 hF
            refine PC.noop ?_
            refine PC.run (n := 2) rfl ?_
            obtain rfl := Option.some.inj hF
            exact PC.ret' (retSK [] [] (by kernel_rfl) (.refl _) ⟨rfl, rfl, rfl⟩)

/-! 99 platen/platenref13.sized -/
def F99 (k : Nat) (a0 : Int) : Option Bool :=
Option.bind (α := Bool) (bif decide (a0 ≥ 1) then (some (decide (a0 ≤ 67108864))) else (some false)) fun (v1 : Bool) =>
some v1
theorem L99 (k : Nat) (a0 : Int) (r : Bool) (hF : F99 k a0 = some r) : PF Try.prog orc 99 [.val (.int .i64 a0)] [] [] (fun p fr tk => p = .val (.bool r) ∧ fr = [] ∧ tk = []) := by
  unfold F99 at hF
  refine PF.enterS Try.func99 rfl rfl rfl (by kernel_rfl) rfl ?_
  refine PC.run (n := 2) rfl ?_
  refine PC.region ?_
  refine PO.run 3 rfl ?_
  refine bindK hF (fun x1 e2 hF => ?_)
  refine PO.cut 3 (fun s => ∃ (v1 : Bool), Weak s (PS.of 9 [(2, .val (.bool false)), (8, .val (.bool v1))] [] [] 0 0) ∧ v1 = x1) ?_ ?_
  · refine PO.case (t := 5) rfl rfl (fun h3 => ?_) (fun h3 => ?_)
    · have e2 := bif_t h3 e2
      refine PO.run 2 rfl ?_
      refine PO.same rfl (pickT_ok rfl rfl rfl) rfl ?_
      refine PO.nil ?_
      obtain rfl := Option.some.inj e2
      exact ⟨decide (a0 ≤ 67108864), Weak.one [] [] (by kernel_rfl), rfl⟩
    · have e2 := bif_f h3 e2
      refine PO.run 2 rfl ?_
      refine PO.same rfl (pickF_ok rfl rfl rfl) rfl ?_
      refine PO.nil ?_
      obtain rfl := Option.some.inj e2
      exact ⟨false, Weak.one [] [] (by kernel_rfl), rfl⟩
  · rintro _ ⟨v1, w4, rfl⟩
    refine PO.weak w4 ?_
    refine PO.run 1 rfl ?_
    refine PO.nil ?_
    obtain rfl := Option.some.inj hF
    exact PC.ret' (retSK [] [] (by kernel_rfl) (.refl _) ⟨rfl, rfl, rfl⟩)

/-! 100 platen/platenref13.wide -/
def F100 (k : Nat) (a0 : Int) : Option Bool :=
Option.bind (α := Bool) (bif decide (a0 ≥ 0) then (some (decide (a0 ≤ 1099511627776))) else (some false)) fun (v1 : Bool) =>
some v1
theorem L100 (k : Nat) (a0 : Int) (r : Bool) (hF : F100 k a0 = some r) : PF Try.prog orc 100 [.val (.int .i64 a0)] [] [] (fun p fr tk => p = .val (.bool r) ∧ fr = [] ∧ tk = []) := by
  unfold F100 at hF
  refine PF.enterS Try.func100 rfl rfl rfl (by kernel_rfl) rfl ?_
  refine PC.run (n := 2) rfl ?_
  refine PC.region ?_
  refine PO.run 3 rfl ?_
  refine bindK hF (fun x1 e2 hF => ?_)
  refine PO.cut 3 (fun s => ∃ (v1 : Bool), Weak s (PS.of 9 [(2, .val (.bool false)), (8, .val (.bool v1))] [] [] 0 0) ∧ v1 = x1) ?_ ?_
  · refine PO.case (t := 5) rfl rfl (fun h3 => ?_) (fun h3 => ?_)
    · have e2 := bif_t h3 e2
      refine PO.run 2 rfl ?_
      refine PO.same rfl (pickT_ok rfl rfl rfl) rfl ?_
      refine PO.nil ?_
      obtain rfl := Option.some.inj e2
      exact ⟨decide (a0 ≤ 1099511627776), Weak.one [] [] (by kernel_rfl), rfl⟩
    · have e2 := bif_f h3 e2
      refine PO.run 2 rfl ?_
      refine PO.same rfl (pickF_ok rfl rfl rfl) rfl ?_
      refine PO.nil ?_
      obtain rfl := Option.some.inj e2
      exact ⟨false, Weak.one [] [] (by kernel_rfl), rfl⟩
  · rintro _ ⟨v1, w4, rfl⟩
    refine PO.weak w4 ?_
    refine PO.run 1 rfl ?_
    refine PO.nil ?_
    obtain rfl := Option.some.inj hF
    exact PC.ret' (retSK [] [] (by kernel_rfl) (.refl _) ⟨rfl, rfl, rfl⟩)

/-! 81 platen/platenref13.good -/
def F81 (k : Nat) (a0 : GItem) : Option Bool :=
bif a0.kind == 1 then (Option.bind (α := Bool) (bif (a0.kind == 1 && (a0.font == a0.font && (a0.size == a0.size && (a0.rune == a0.rune && (a0.width == a0.width && (a0.height == a0.height && (a0.depth == a0.depth && (a0.stretch == 0 && (a0.shrink == 0 && (a0.value == 0 && (a0.flag == false && (0 == 0 && (0 == 0 && true))))))))))))) then ((F98 k a0.rune).bind fun r5 =>
Option.bind (α := Bool) (bif decide (r5 > 0) then ((F99 k a0.size).bind fun r10 =>
Option.bind (α := Bool) (bif r10 then ((F100 k a0.width).bind fun r15 =>
Option.bind (α := Bool) (bif r15 then ((F100 k a0.height).bind fun r20 =>
Option.bind (α := Bool) (bif r20 then ((F100 k a0.depth).bind fun r25 =>
some r25) else (some false)) fun (v5 : Bool) =>
some v5) else (some false)) fun (v4 : Bool) =>
some v4) else (some false)) fun (v3 : Bool) =>
some v3) else (some false)) fun (v2 : Bool) =>
some v2) else (some false)) fun (v1 : Bool) =>
some v1) else (bif a0.kind == 3 then (Option.bind (α := Bool) (bif (a0.kind == 3 && (a0.font == a0.font && (a0.size == a0.size && (a0.rune == 0 && (a0.width == a0.width && (a0.height == 0 && (a0.depth == 0 && (a0.stretch == a0.stretch && (a0.shrink == a0.shrink && (a0.value == 0 && (a0.flag == false && (0 == 0 && (0 == 0 && true))))))))))))) then ((F99 k a0.size).bind fun r36 =>
Option.bind (α := Bool) (bif r36 then (Option.bind (α := Bool) (bif decide (a0.width ≥ 0) then (Option.bind (α := Bool) (bif decide (a0.width ≤ 67108864) then (Option.bind (α := Bool) (bif decide (a0.stretch ≥ 0) then (Option.bind (α := Bool) (bif decide (a0.stretch ≤ 67108864) then (Option.bind (α := Bool) (bif decide (a0.shrink ≥ 0) then (some (decide (a0.shrink ≤ a0.width))) else (some false)) fun (v12 : Bool) =>
some v12) else (some false)) fun (v11 : Bool) =>
some v11) else (some false)) fun (v10 : Bool) =>
some v10) else (some false)) fun (v9 : Bool) =>
some v9) else (some false)) fun (v8 : Bool) =>
some v8) else (some false)) fun (v7 : Bool) =>
some v7) else (some false)) fun (v6 : Bool) =>
some v6) else (bif a0.kind == 4 then (Option.bind (α := Bool) (bif decide (a0.value < (-10000)) then (some true) else (some (decide (a0.value > 10000)))) fun (v13 : Bool) =>
bif v13 then (some false) else (bif !a0.flag then (some (a0.kind == 4 && (a0.font == ByteArray.empty && (a0.size == 0 && (a0.rune == 0 && (a0.width == 0 && (a0.height == 0 && (a0.depth == 0 && (a0.stretch == 0 && (a0.shrink == 0 && (a0.value == a0.value && (a0.flag == false && (0 == 0 && (0 == 0 && true)))))))))))))) else (Option.bind (α := Bool) (bif (a0.kind == 4 && (a0.font == a0.font && (a0.size == a0.size && (a0.rune == 45 && (a0.width == a0.width && (a0.height == a0.height && (a0.depth == a0.depth && (a0.stretch == 0 && (a0.shrink == 0 && (a0.value == a0.value && (a0.flag == true && (0 == 0 && (0 == 0 && true))))))))))))) then (Option.bind (α := Bool) (bif decide (a0.value > (-10000)) then ((F99 k a0.size).bind fun r76 =>
Option.bind (α := Bool) (bif r76 then ((F100 k a0.width).bind fun r81 =>
Option.bind (α := Bool) (bif r81 then ((F100 k a0.height).bind fun r86 =>
Option.bind (α := Bool) (bif r86 then ((F100 k a0.depth).bind fun r91 =>
some r91) else (some false)) fun (v18 : Bool) =>
some v18) else (some false)) fun (v17 : Bool) =>
some v17) else (some false)) fun (v16 : Bool) =>
some v16) else (some false)) fun (v15 : Bool) =>
some v15) else (some false)) fun (v14 : Bool) =>
some v14))) else (some false)))
theorem L81 (k : Nat) (a0 : GItem) (r : Bool) (hF : F81 k a0 = some r) : PF Try.prog orc 81 [.agg (cGItem a0)] [] [] (fun p fr tk => p = .val (.bool r) ∧ fr = [] ∧ tk = []) := by
  unfold F81 at hF
  refine PF.enterS Try.func81 rfl rfl rfl (by kernel_rfl) rfl ?_
  refine PC.region ?_
  refine PO.runK 2 [0] [] (es := [(1, .ptr 0 0), (2, .val (.bool false))]) (fr' := [⟨0, (cGItem a0)⟩]) (tk' := []) (by kernel_rfl) ?_
  refine PO.nil ?_
  refine PC.region ?_
  refine PO.runK 3 [0, 1] [] (es := [(1, .ptr 0 0), (2, .val (.bool false)), (3, .ptr 1 0)]) (fr' := [⟨0, (cGItem a0)⟩, ⟨0, (cGItem a0)⟩]) (tk' := []) (by kernel_rfl) ?_
  refine PO.nil ?_
  refine PC.region ?_
  refine PO.runK 2 [0, 1] [] (es := [(1, .ptr 0 0), (2, .val (.bool false)), (3, .ptr 1 0)]) (fr' := [⟨0, (cGItem a0)⟩, ⟨0, [.val (.int .i64 a0.kind), .val (.string a0.font), .val (.int .i64 a0.size), .val (.int .i64 a0.rune), .val (.int .i64 a0.width), .val (.int .i64 a0.height), .val (.int .i64 a0.depth), .val (.int .i64 a0.stretch), .val (.int .i64 a0.shrink), .val (.int .i64 a0.value), .val (.bool a0.flag), .val (.int .i64 0), .val (.int .i64 a0.to_)]⟩]) (tk' := []) (by kernel_rfl) ?_
  refine PO.nil ?_
  refine PC.region ?_
  refine PO.runK 2 [0, 1] [] (es := [(1, .ptr 0 0), (2, .val (.bool false)), (3, .ptr 1 0)]) (fr' := [⟨0, (cGItem a0)⟩, ⟨0, [.val (.int .i64 a0.kind), .val (.string a0.font), .val (.int .i64 a0.size), .val (.int .i64 a0.rune), .val (.int .i64 a0.width), .val (.int .i64 a0.height), .val (.int .i64 a0.depth), .val (.int .i64 a0.stretch), .val (.int .i64 a0.shrink), .val (.int .i64 a0.value), .val (.bool a0.flag), .val (.int .i64 0), .val (.int .i64 0)]⟩]) (tk' := []) (by kernel_rfl) ?_
  refine PO.nil ?_
  refine PC.assoc ?_
  refine PC.run (n := 3) rfl ?_
  refine PC.block ?_
  refine PC.run (n := 3) rfl ?_
  refine PC.lone ?_
  refine PC.cond rfl (fun h1 => ?_) (fun h1 => ?_)
  · have hF := bif_t h1 hF
    refine PC.assoc ?_
    refine PC.region ?_
    refine PO.runK 14 [0] [] (es := [(1, .ptr 0 0), (2, .val (.bool false)), (11, .agg [.val (.int .i64 a0.kind), .val (.string a0.font), .val (.int .i64 a0.size), .val (.int .i64 a0.rune), .val (.int .i64 a0.width), .val (.int .i64 a0.height), .val (.int .i64 a0.depth), .val (.int .i64 a0.stretch), .val (.int .i64 a0.shrink), .val (.int .i64 a0.value), .val (.bool a0.flag), .val (.int .i64 0), .val (.int .i64 0)]), (24, .agg [.val (.int .i64 1), .val (.string a0.font), .val (.int .i64 a0.size), .val (.int .i64 a0.rune), .val (.int .i64 a0.width), .val (.int .i64 a0.height), .val (.int .i64 a0.depth), .val (.int .i64 0), .val (.int .i64 0), .val (.int .i64 0), .val (.bool false), .val (.int .i64 0), .val (.int .i64 0)])]) (fr' := [⟨0, (cGItem a0)⟩]) (tk' := []) (by kernel_rfl) ?_
    refine PO.same rfl (aggEq_ok (v := .bool (a0.kind == 1 && (a0.font == a0.font && (a0.size == a0.size && (a0.rune == a0.rune && (a0.width == a0.width && (a0.height == a0.height && (a0.depth == a0.depth && (a0.stretch == 0 && (a0.shrink == 0 && (a0.value == 0 && (a0.flag == false && (0 == 0 && (0 == 0 && true)))))))))))))) rfl rfl rfl rfl rfl rfl rfl (by kernel_rfl)) rfl ?_
    refine PO.run 1 rfl ?_
    refine bindK hF (fun x2 e3 hF => ?_)
    refine PO.cut 25 (fun s => ∃ (v1 : Bool), Weak s (PS.of 162 [(2, .val (.bool false)), (51, .val (.bool v1))] [] [] 0 0) ∧ v1 = x2) ?_ ?_
    · refine PO.case (t := 26) rfl rfl (fun h4 => ?_) (fun h4 => ?_)
      · have e3 := bif_t h4 e3
        refine PO.run 2 rfl ?_
        refine bindK e3 (fun r5 e6 e3 => ?_)
        refine PO.call rfl rfl rfl rfl (ks := []) (ts := []) (fr1 := []) rfl rfl rfl trivial (L98 k a0.rune _ e6) ?_
        rintro _ _ _ ⟨rfl, rfl, rfl⟩
        refine ⟨_, _, rfl, rfl, ?_⟩
        refine PO.run 1 rfl ?_
        refine PO.same rfl (pickT_ok rfl rfl rfl) rfl ?_
        refine PO.run 1 rfl ?_
        refine bindK e3 (fun x7 e8 e3 => ?_)
        refine PO.cut 19 (fun s => ∃ (v2 : Bool), Weak s (PS.of 162 [(2, .val (.bool false)), (51, .val (.bool v2))] [] [] 0 0) ∧ v2 = x7) ?_ ?_
        · refine PO.case (t := 32) rfl rfl (fun h9 => ?_) (fun h9 => ?_)
          · have e8 := bif_t h9 e8
            refine PO.run 2 rfl ?_
            refine bindK e8 (fun r10 e11 e8 => ?_)
            refine PO.call rfl rfl rfl rfl (ks := []) (ts := []) (fr1 := []) rfl rfl rfl trivial (L99 k a0.size _ e11) ?_
            rintro _ _ _ ⟨rfl, rfl, rfl⟩
            refine ⟨_, _, rfl, rfl, ?_⟩
            refine PO.same rfl (pickT_ok rfl rfl rfl) rfl ?_
            refine PO.run 1 rfl ?_
            refine bindK e8 (fun x12 e13 e8 => ?_)
            refine PO.cut 14 (fun s => ∃ (v3 : Bool), Weak s (PS.of 162 [(2, .val (.bool false)), (51, .val (.bool v3))] [] [] 0 0) ∧ v3 = x12) ?_ ?_
            · refine PO.case (t := 37) rfl rfl (fun h14 => ?_) (fun h14 => ?_)
              · have e13 := bif_t h14 e13
                refine PO.run 2 rfl ?_
                refine bindK e13 (fun r15 e16 e13 => ?_)
                refine PO.call rfl rfl rfl rfl (ks := []) (ts := []) (fr1 := []) rfl rfl rfl trivial (L100 k a0.width _ e16) ?_
                rintro _ _ _ ⟨rfl, rfl, rfl⟩
                refine ⟨_, _, rfl, rfl, ?_⟩
                refine PO.same rfl (pickT_ok rfl rfl rfl) rfl ?_
                refine PO.run 1 rfl ?_
                refine bindK e13 (fun x17 e18 e13 => ?_)
                refine PO.cut 9 (fun s => ∃ (v4 : Bool), Weak s (PS.of 162 [(2, .val (.bool false)), (51, .val (.bool v4))] [] [] 0 0) ∧ v4 = x17) ?_ ?_
                · refine PO.case (t := 42) rfl rfl (fun h19 => ?_) (fun h19 => ?_)
                  · have e18 := bif_t h19 e18
                    refine PO.run 2 rfl ?_
                    refine bindK e18 (fun r20 e21 e18 => ?_)
                    refine PO.call rfl rfl rfl rfl (ks := []) (ts := []) (fr1 := []) rfl rfl rfl trivial (L100 k a0.height _ e21) ?_
                    rintro _ _ _ ⟨rfl, rfl, rfl⟩
                    refine ⟨_, _, rfl, rfl, ?_⟩
                    refine PO.same rfl (pickT_ok rfl rfl rfl) rfl ?_
                    refine PO.run 1 rfl ?_
                    refine bindK e18 (fun x22 e23 e18 => ?_)
                    refine PO.cut 4 (fun s => ∃ (v5 : Bool), Weak s (PS.of 162 [(2, .val (.bool false)), (51, .val (.bool v5))] [] [] 0 0) ∧ v5 = x22) ?_ ?_
                    · refine PO.case (t := 47) rfl rfl (fun h24 => ?_) (fun h24 => ?_)
                      · have e23 := bif_t h24 e23
                        refine PO.run 2 rfl ?_
                        refine bindK e23 (fun r25 e26 e23 => ?_)
                        refine PO.call rfl rfl rfl rfl (ks := []) (ts := []) (fr1 := []) rfl rfl rfl trivial (L100 k a0.depth _ e26) ?_
                        rintro _ _ _ ⟨rfl, rfl, rfl⟩
                        refine ⟨_, _, rfl, rfl, ?_⟩
                        refine PO.same rfl (pickT_ok rfl rfl rfl) rfl ?_
                        refine PO.nil ?_
                        obtain rfl := Option.some.inj e23
                        exact ⟨r25, Weak.one [] [] (by kernel_rfl), rfl⟩
                      · have e23 := bif_f h24 e23
                        refine PO.run 3 rfl ?_
                        refine PO.same rfl (pickF_ok rfl rfl rfl) rfl ?_
                        refine PO.nil ?_
                        obtain rfl := Option.some.inj e23
                        exact ⟨false, Weak.one [] [] (by kernel_rfl), rfl⟩
                    · rintro _ ⟨v5, w27, rfl⟩
                      refine PO.weak w27 ?_
                      refine PO.nil ?_
                      obtain rfl := Option.some.inj e18
                      exact ⟨v5, Weak.one [] [] (by kernel_rfl), rfl⟩
                  · have e18 := bif_f h19 e18
                    refine PO.run 3 rfl ?_
                    refine PO.same rfl (pickF_ok rfl rfl rfl) rfl ?_
                    refine PO.run 4 rfl ?_
                    refine PO.same rfl (pickF_ok rfl rfl rfl) rfl ?_
                    refine PO.nil ?_
                    obtain rfl := Option.some.inj e18
                    exact ⟨false, Weak.one [] [] (by kernel_rfl), rfl⟩
                · rintro _ ⟨v4, w28, rfl⟩
                  refine PO.weak w28 ?_
                  refine PO.nil ?_
                  obtain rfl := Option.some.inj e13
                  exact ⟨v4, Weak.one [] [] (by kernel_rfl), rfl⟩
              · have e13 := bif_f h14 e13
                refine PO.run 3 rfl ?_
                refine PO.same rfl (pickF_ok rfl rfl rfl) rfl ?_
                refine PO.run 4 rfl ?_
                refine PO.same rfl (pickF_ok rfl rfl rfl) rfl ?_
                refine PO.run 4 rfl ?_
                refine PO.same rfl (pickF_ok rfl rfl rfl) rfl ?_
                refine PO.nil ?_
                obtain rfl := Option.some.inj e13
                exact ⟨false, Weak.one [] [] (by kernel_rfl), rfl⟩
            · rintro _ ⟨v3, w29, rfl⟩
              refine PO.weak w29 ?_
              refine PO.nil ?_
              obtain rfl := Option.some.inj e8
              exact ⟨v3, Weak.one [] [] (by kernel_rfl), rfl⟩
          · have e8 := bif_f h9 e8
            refine PO.run 3 rfl ?_
            refine PO.same rfl (pickF_ok rfl rfl rfl) rfl ?_
            refine PO.run 4 rfl ?_
            refine PO.same rfl (pickF_ok rfl rfl rfl) rfl ?_
            refine PO.run 4 rfl ?_
            refine PO.same rfl (pickF_ok rfl rfl rfl) rfl ?_
            refine PO.run 4 rfl ?_
            refine PO.same rfl (pickF_ok rfl rfl rfl) rfl ?_
            refine PO.nil ?_
            obtain rfl := Option.some.inj e8
            exact ⟨false, Weak.one [] [] (by kernel_rfl), rfl⟩
        · rintro _ ⟨v2, w30, rfl⟩
          refine PO.weak w30 ?_
          refine PO.nil ?_
          obtain rfl := Option.some.inj e3
          exact ⟨v2, Weak.one [] [] (by kernel_rfl), rfl⟩
      · have e3 := bif_f h4 e3
        refine PO.run 4 rfl ?_
        refine PO.same rfl (pickF_ok rfl rfl rfl) rfl ?_
        refine PO.run 4 rfl ?_
        refine PO.same rfl (pickF_ok rfl rfl rfl) rfl ?_
        refine PO.run 4 rfl ?_
        refine PO.same rfl (pickF_ok rfl rfl rfl) rfl ?_
        refine PO.run 4 rfl ?_
        refine PO.same rfl (pickF_ok rfl rfl rfl) rfl ?_
        refine PO.run 4 rfl ?_
        refine PO.same rfl (pickF_ok rfl rfl rfl) rfl ?_
        refine PO.nil ?_
        obtain rfl := Option.some.inj e3
        exact ⟨false, Weak.one [] [] (by kernel_rfl), rfl⟩
    · rintro _ ⟨v1, w31, rfl⟩
      refine PO.weak w31 ?_
      refine PO.run 1 rfl ?_
      refine PO.nil ?_
      obtain rfl := Option.some.inj hF
      exact PC.ret (blockKP.back (retSK [] [] (by kernel_rfl) (.refl _) ⟨rfl, rfl, rfl⟩))
  · have hF := bif_f h1 hF
    refine PC.assoc ?_
    refine PC.run (n := 3) rfl ?_
    refine PC.cond rfl (fun h32 => ?_) (fun h32 => ?_)
    · have hF := bif_t h32 hF
      refine PC.assoc ?_
      refine PC.region ?_
      refine PO.runK 12 [0] [] (es := [(1, .ptr 0 0), (2, .val (.bool false)), (54, .agg [.val (.int .i64 a0.kind), .val (.string a0.font), .val (.int .i64 a0.size), .val (.int .i64 a0.rune), .val (.int .i64 a0.width), .val (.int .i64 a0.height), .val (.int .i64 a0.depth), .val (.int .i64 a0.stretch), .val (.int .i64 a0.shrink), .val (.int .i64 a0.value), .val (.bool a0.flag), .val (.int .i64 0), .val (.int .i64 0)]), (65, .agg [.val (.int .i64 3), .val (.string a0.font), .val (.int .i64 a0.size), .val (.int .i64 0), .val (.int .i64 a0.width), .val (.int .i64 0), .val (.int .i64 0), .val (.int .i64 a0.stretch), .val (.int .i64 a0.shrink), .val (.int .i64 0), .val (.bool false), .val (.int .i64 0), .val (.int .i64 0)])]) (fr' := [⟨0, (cGItem a0)⟩]) (tk' := []) (by kernel_rfl) ?_
      refine PO.same rfl (aggEq_ok (v := .bool (a0.kind == 3 && (a0.font == a0.font && (a0.size == a0.size && (a0.rune == 0 && (a0.width == a0.width && (a0.height == 0 && (a0.depth == 0 && (a0.stretch == a0.stretch && (a0.shrink == a0.shrink && (a0.value == 0 && (a0.flag == false && (0 == 0 && (0 == 0 && true)))))))))))))) rfl rfl rfl rfl rfl rfl rfl (by kernel_rfl)) rfl ?_
      refine PO.run 1 rfl ?_
      refine bindK hF (fun x33 e34 hF => ?_)
      refine PO.cut 36 (fun s => ∃ (v6 : Bool), Weak s (PS.of 162 [(2, .val (.bool false)), (103, .val (.bool v6))] [] [] 0 0) ∧ v6 = x33) ?_ ?_
      · refine PO.case (t := 67) rfl rfl (fun h35 => ?_) (fun h35 => ?_)
        · have e34 := bif_t h35 e34
          refine PO.run 2 rfl ?_
          refine bindK e34 (fun r36 e37 e34 => ?_)
          refine PO.call rfl rfl rfl rfl (ks := []) (ts := []) (fr1 := []) rfl rfl rfl trivial (L99 k a0.size _ e37) ?_
          rintro _ _ _ ⟨rfl, rfl, rfl⟩
          refine ⟨_, _, rfl, rfl, ?_⟩
          refine PO.same rfl (pickT_ok rfl rfl rfl) rfl ?_
          refine PO.run 1 rfl ?_
          refine bindK e34 (fun x38 e39 e34 => ?_)
          refine PO.cut 31 (fun s => ∃ (v7 : Bool), Weak s (PS.of 162 [(2, .val (.bool false)), (103, .val (.bool v7))] [] [] 0 0) ∧ v7 = x38) ?_ ?_
          · refine PO.case (t := 72) rfl rfl (fun h40 => ?_) (fun h40 => ?_)
            · have e39 := bif_t h40 e39
              refine PO.run 3 rfl ?_
              refine PO.same rfl (pickT_ok rfl rfl rfl) rfl ?_
              refine PO.run 1 rfl ?_
              refine bindK e39 (fun x41 e42 e39 => ?_)
              refine PO.cut 26 (fun s => ∃ (v8 : Bool), Weak s (PS.of 162 [(2, .val (.bool false)), (103, .val (.bool v8))] [] [] 0 0) ∧ v8 = x41) ?_ ?_
              · refine PO.case (t := 77) rfl rfl (fun h43 => ?_) (fun h43 => ?_)
                · have e42 := bif_t h43 e42
                  refine PO.run 3 rfl ?_
                  refine PO.same rfl (pickT_ok rfl rfl rfl) rfl ?_
                  refine PO.run 1 rfl ?_
                  refine bindK e42 (fun x44 e45 e42 => ?_)
                  refine PO.cut 21 (fun s => ∃ (v9 : Bool), Weak s (PS.of 162 [(2, .val (.bool false)), (103, .val (.bool v9))] [] [] 0 0) ∧ v9 = x44) ?_ ?_
                  · refine PO.case (t := 82) rfl rfl (fun h46 => ?_) (fun h46 => ?_)
                    · have e45 := bif_t h46 e45
                      refine PO.run 3 rfl ?_
                      refine PO.same rfl (pickT_ok rfl rfl rfl) rfl ?_
                      refine PO.run 1 rfl ?_
                      refine bindK e45 (fun x47 e48 e45 => ?_)
                      refine PO.cut 16 (fun s => ∃ (v10 : Bool), Weak s (PS.of 162 [(2, .val (.bool false)), (103, .val (.bool v10))] [] [] 0 0) ∧ v10 = x47) ?_ ?_
                      · refine PO.case (t := 87) rfl rfl (fun h49 => ?_) (fun h49 => ?_)
                        · have e48 := bif_t h49 e48
                          refine PO.run 3 rfl ?_
                          refine PO.same rfl (pickT_ok rfl rfl rfl) rfl ?_
                          refine PO.run 1 rfl ?_
                          refine bindK e48 (fun x50 e51 e48 => ?_)
                          refine PO.cut 11 (fun s => ∃ (v11 : Bool), Weak s (PS.of 162 [(2, .val (.bool false)), (103, .val (.bool v11))] [] [] 0 0) ∧ v11 = x50) ?_ ?_
                          · refine PO.case (t := 92) rfl rfl (fun h52 => ?_) (fun h52 => ?_)
                            · have e51 := bif_t h52 e51
                              refine PO.run 3 rfl ?_
                              refine PO.same rfl (pickT_ok rfl rfl rfl) rfl ?_
                              refine PO.run 1 rfl ?_
                              refine bindK e51 (fun x53 e54 e51 => ?_)
                              refine PO.cut 6 (fun s => ∃ (v12 : Bool), Weak s (PS.of 162 [(2, .val (.bool false)), (103, .val (.bool v12))] [] [] 0 0) ∧ v12 = x53) ?_ ?_
                              · refine PO.case (t := 97) rfl rfl (fun h55 => ?_) (fun h55 => ?_)
                                · have e54 := bif_t h55 e54
                                  refine PO.run 5 rfl ?_
                                  refine PO.same rfl (pickT_ok rfl rfl rfl) rfl ?_
                                  refine PO.nil ?_
                                  obtain rfl := Option.some.inj e54
                                  exact ⟨decide (a0.shrink ≤ a0.width), Weak.one [] [] (by kernel_rfl), rfl⟩
                                · have e54 := bif_f h55 e54
                                  refine PO.run 5 rfl ?_
                                  refine PO.same rfl (pickF_ok rfl rfl rfl) rfl ?_
                                  refine PO.nil ?_
                                  obtain rfl := Option.some.inj e54
                                  exact ⟨false, Weak.one [] [] (by kernel_rfl), rfl⟩
                              · rintro _ ⟨v12, w56, rfl⟩
                                refine PO.weak w56 ?_
                                refine PO.nil ?_
                                obtain rfl := Option.some.inj e51
                                exact ⟨v12, Weak.one [] [] (by kernel_rfl), rfl⟩
                            · have e51 := bif_f h52 e51
                              refine PO.run 3 rfl ?_
                              refine PO.same rfl (pickF_ok rfl rfl rfl) rfl ?_
                              refine PO.run 6 rfl ?_
                              refine PO.same rfl (pickF_ok rfl rfl rfl) rfl ?_
                              refine PO.nil ?_
                              obtain rfl := Option.some.inj e51
                              exact ⟨false, Weak.one [] [] (by kernel_rfl), rfl⟩
                          · rintro _ ⟨v11, w57, rfl⟩
                            refine PO.weak w57 ?_
                            refine PO.nil ?_
                            obtain rfl := Option.some.inj e48
                            exact ⟨v11, Weak.one [] [] (by kernel_rfl), rfl⟩
                        · have e48 := bif_f h49 e48
                          refine PO.run 3 rfl ?_
                          refine PO.same rfl (pickF_ok rfl rfl rfl) rfl ?_
                          refine PO.run 4 rfl ?_
                          refine PO.same rfl (pickF_ok rfl rfl rfl) rfl ?_
                          refine PO.run 6 rfl ?_
                          refine PO.same rfl (pickF_ok rfl rfl rfl) rfl ?_
                          refine PO.nil ?_
                          obtain rfl := Option.some.inj e48
                          exact ⟨false, Weak.one [] [] (by kernel_rfl), rfl⟩
                      · rintro _ ⟨v10, w58, rfl⟩
                        refine PO.weak w58 ?_
                        refine PO.nil ?_
                        obtain rfl := Option.some.inj e45
                        exact ⟨v10, Weak.one [] [] (by kernel_rfl), rfl⟩
                    · have e45 := bif_f h46 e45
                      refine PO.run 3 rfl ?_
                      refine PO.same rfl (pickF_ok rfl rfl rfl) rfl ?_
                      refine PO.run 4 rfl ?_
                      refine PO.same rfl (pickF_ok rfl rfl rfl) rfl ?_
                      refine PO.run 4 rfl ?_
                      refine PO.same rfl (pickF_ok rfl rfl rfl) rfl ?_
                      refine PO.run 6 rfl ?_
                      refine PO.same rfl (pickF_ok rfl rfl rfl) rfl ?_
                      refine PO.nil ?_
                      obtain rfl := Option.some.inj e45
                      exact ⟨false, Weak.one [] [] (by kernel_rfl), rfl⟩
                  · rintro _ ⟨v9, w59, rfl⟩
                    refine PO.weak w59 ?_
                    refine PO.nil ?_
                    obtain rfl := Option.some.inj e42
                    exact ⟨v9, Weak.one [] [] (by kernel_rfl), rfl⟩
                · have e42 := bif_f h43 e42
                  refine PO.run 3 rfl ?_
                  refine PO.same rfl (pickF_ok rfl rfl rfl) rfl ?_
                  refine PO.run 4 rfl ?_
                  refine PO.same rfl (pickF_ok rfl rfl rfl) rfl ?_
                  refine PO.run 4 rfl ?_
                  refine PO.same rfl (pickF_ok rfl rfl rfl) rfl ?_
                  refine PO.run 4 rfl ?_
                  refine PO.same rfl (pickF_ok rfl rfl rfl) rfl ?_
                  refine PO.run 6 rfl ?_
                  refine PO.same rfl (pickF_ok rfl rfl rfl) rfl ?_
                  refine PO.nil ?_
                  obtain rfl := Option.some.inj e42
                  exact ⟨false, Weak.one [] [] (by kernel_rfl), rfl⟩
              · rintro _ ⟨v8, w60, rfl⟩
                refine PO.weak w60 ?_
                refine PO.nil ?_
                obtain rfl := Option.some.inj e39
                exact ⟨v8, Weak.one [] [] (by kernel_rfl), rfl⟩
            · have e39 := bif_f h40 e39
              refine PO.run 3 rfl ?_
              refine PO.same rfl (pickF_ok rfl rfl rfl) rfl ?_
              refine PO.run 4 rfl ?_
              refine PO.same rfl (pickF_ok rfl rfl rfl) rfl ?_
              refine PO.run 4 rfl ?_
              refine PO.same rfl (pickF_ok rfl rfl rfl) rfl ?_
              refine PO.run 4 rfl ?_
              refine PO.same rfl (pickF_ok rfl rfl rfl) rfl ?_
              refine PO.run 4 rfl ?_
              refine PO.same rfl (pickF_ok rfl rfl rfl) rfl ?_
              refine PO.run 6 rfl ?_
              refine PO.same rfl (pickF_ok rfl rfl rfl) rfl ?_
              refine PO.nil ?_
              obtain rfl := Option.some.inj e39
              exact ⟨false, Weak.one [] [] (by kernel_rfl), rfl⟩
          · rintro _ ⟨v7, w61, rfl⟩
            refine PO.weak w61 ?_
            refine PO.nil ?_
            obtain rfl := Option.some.inj e34
            exact ⟨v7, Weak.one [] [] (by kernel_rfl), rfl⟩
        · have e34 := bif_f h35 e34
          refine PO.run 3 rfl ?_
          refine PO.same rfl (pickF_ok rfl rfl rfl) rfl ?_
          refine PO.run 4 rfl ?_
          refine PO.same rfl (pickF_ok rfl rfl rfl) rfl ?_
          refine PO.run 4 rfl ?_
          refine PO.same rfl (pickF_ok rfl rfl rfl) rfl ?_
          refine PO.run 4 rfl ?_
          refine PO.same rfl (pickF_ok rfl rfl rfl) rfl ?_
          refine PO.run 4 rfl ?_
          refine PO.same rfl (pickF_ok rfl rfl rfl) rfl ?_
          refine PO.run 4 rfl ?_
          refine PO.same rfl (pickF_ok rfl rfl rfl) rfl ?_
          refine PO.run 6 rfl ?_
          refine PO.same rfl (pickF_ok rfl rfl rfl) rfl ?_
          refine PO.nil ?_
          obtain rfl := Option.some.inj e34
          exact ⟨false, Weak.one [] [] (by kernel_rfl), rfl⟩
      · rintro _ ⟨v6, w62, rfl⟩
        refine PO.weak w62 ?_
        refine PO.run 1 rfl ?_
        refine PO.nil ?_
        obtain rfl := Option.some.inj hF
        exact PC.ret (blockKP.back (retSK [] [] (by kernel_rfl) (.refl _) ⟨rfl, rfl, rfl⟩))
    · have hF := bif_f h32 hF
      refine PC.assoc ?_
      refine PC.run (n := 3) rfl ?_
      refine PC.cond rfl (fun h63 => ?_) (fun h63 => ?_)
      · have hF := bif_t h63 hF
        refine PC.assoc ?_
        refine PC.assoc ?_
        refine PC.region ?_
        refine PO.run 4 rfl ?_
        refine bindK hF (fun x64 e65 hF => ?_)
        refine PO.cut 4 (fun s => ∃ (v13 : Bool), Weak s (PS.of 162 [(1, .ptr 0 0), (2, .val (.bool false)), (3, .ptr 1 0), (113, .val (.bool v13))] [⟨0, (cGItem a0)⟩, ⟨0, [.val (.int .i64 a0.kind), .val (.string a0.font), .val (.int .i64 a0.size), .val (.int .i64 a0.rune), .val (.int .i64 a0.width), .val (.int .i64 a0.height), .val (.int .i64 a0.depth), .val (.int .i64 a0.stretch), .val (.int .i64 a0.shrink), .val (.int .i64 a0.value), .val (.bool a0.flag), .val (.int .i64 0), .val (.int .i64 0)]⟩] [] 0 0) ∧ v13 = x64) ?_ ?_
        · refine PO.case (t := 109) rfl rfl (fun h66 => ?_) (fun h66 => ?_)
          · have e65 := bif_t h66 e65
            refine PO.run 3 rfl ?_
            refine PO.same rfl (pickT_ok rfl rfl rfl) rfl ?_
            refine PO.nil ?_
            obtain rfl := Option.some.inj e65
            exact ⟨true, Weak.one [0, 1] [] (by kernel_rfl), rfl⟩
          · have e65 := bif_f h66 e65
            refine PO.run 3 rfl ?_
            refine PO.same rfl (pickF_ok rfl rfl rfl) rfl ?_
            refine PO.nil ?_
            obtain rfl := Option.some.inj e65
            exact ⟨decide (a0.value > 10000), Weak.one [0, 1] [] (by kernel_rfl), rfl⟩
        · rintro _ ⟨v13, w67, rfl⟩
          refine PO.weak w67 ?_
          refine PO.nil ?_
          refine PC.cond rfl (fun h68 => ?_) (fun h68 => ?_)
          · have hF := bif_t h68 hF
            refine PC.assoc ?_
            refine PC.run (n := 2) rfl ?_
            obtain rfl := Option.some.inj hF
            exact PC.ret (blockKP.back (retSK [] [] (by kernel_rfl) (.refl _) ⟨rfl, rfl, rfl⟩))
          · have hF := bif_f h68 hF
            refine PC.noop ?_
            refine PC.assoc ?_
            refine PC.assoc ?_
            refine PC.run (n := 4) rfl ?_
            refine PC.cond rfl (fun h69 => ?_) (fun h69 => ?_)
            · have hF := bif_t h69 hF
              refine PC.assoc ?_
              refine PC.region ?_
              refine PO.runK 4 [] [] (es := [(2, .val (.bool false)), (117, .agg [.val (.int .i64 a0.kind), .val (.string a0.font), .val (.int .i64 a0.size), .val (.int .i64 a0.rune), .val (.int .i64 a0.width), .val (.int .i64 a0.height), .val (.int .i64 a0.depth), .val (.int .i64 a0.stretch), .val (.int .i64 a0.shrink), .val (.int .i64 a0.value), .val (.bool a0.flag), .val (.int .i64 0), .val (.int .i64 0)]), (120, .agg [.val (.int .i64 4), .val (.string ByteArray.empty), .val (.int .i64 0), .val (.int .i64 0), .val (.int .i64 0), .val (.int .i64 0), .val (.int .i64 0), .val (.int .i64 0), .val (.int .i64 0), .val (.int .i64 a0.value), .val (.bool false), .val (.int .i64 0), .val (.int .i64 0)])]) (fr' := []) (tk' := []) (by kernel_rfl) ?_
              refine PO.same rfl (aggEq_ok (v := .bool (a0.kind == 4 && (a0.font == ByteArray.empty && (a0.size == 0 && (a0.rune == 0 && (a0.width == 0 && (a0.height == 0 && (a0.depth == 0 && (a0.stretch == 0 && (a0.shrink == 0 && (a0.value == a0.value && (a0.flag == false && (0 == 0 && (0 == 0 && true)))))))))))))) rfl rfl rfl rfl rfl rfl rfl (by kernel_rfl)) rfl ?_
              refine PO.run 1 rfl ?_
              refine PO.nil ?_
              obtain rfl := Option.some.inj hF
              exact PC.ret (blockKP.back (retSK [] [] (by kernel_rfl) (.refl _) ⟨rfl, rfl, rfl⟩))
            · have hF := bif_f h69 hF
              refine PC.noop ?_
              refine PC.assoc ?_
              refine PC.region ?_
              refine PO.runK 14 [0] [] (es := [(1, .ptr 0 0), (2, .val (.bool false)), (122, .agg [.val (.int .i64 a0.kind), .val (.string a0.font), .val (.int .i64 a0.size), .val (.int .i64 a0.rune), .val (.int .i64 a0.width), .val (.int .i64 a0.height), .val (.int .i64 a0.depth), .val (.int .i64 a0.stretch), .val (.int .i64 a0.shrink), .val (.int .i64 a0.value), .val (.bool a0.flag), .val (.int .i64 0), .val (.int .i64 0)]), (135, .agg [.val (.int .i64 4), .val (.string a0.font), .val (.int .i64 a0.size), .val (.int .i64 45), .val (.int .i64 a0.width), .val (.int .i64 a0.height), .val (.int .i64 a0.depth), .val (.int .i64 0), .val (.int .i64 0), .val (.int .i64 a0.value), .val (.bool true), .val (.int .i64 0), .val (.int .i64 0)])]) (fr' := [⟨0, (cGItem a0)⟩]) (tk' := []) (by kernel_rfl) ?_
              refine PO.same rfl (aggEq_ok (v := .bool (a0.kind == 4 && (a0.font == a0.font && (a0.size == a0.size && (a0.rune == 45 && (a0.width == a0.width && (a0.height == a0.height && (a0.depth == a0.depth && (a0.stretch == 0 && (a0.shrink == 0 && (a0.value == a0.value && (a0.flag == true && (0 == 0 && (0 == 0 && true)))))))))))))) rfl rfl rfl rfl rfl rfl rfl (by kernel_rfl)) rfl ?_
              refine PO.run 1 rfl ?_
              refine bindK hF (fun x70 e71 hF => ?_)
              refine PO.cut 24 (fun s => ∃ (v14 : Bool), Weak s (PS.of 162 [(2, .val (.bool false)), (161, .val (.bool v14))] [] [] 0 0) ∧ v14 = x70) ?_ ?_
              · refine PO.case (t := 137) rfl rfl (fun h72 => ?_) (fun h72 => ?_)
                · have e71 := bif_t h72 e71
                  refine PO.run 3 rfl ?_
                  refine PO.same rfl (pickT_ok rfl rfl rfl) rfl ?_
                  refine PO.run 1 rfl ?_
                  refine bindK e71 (fun x73 e74 e71 => ?_)
                  refine PO.cut 19 (fun s => ∃ (v15 : Bool), Weak s (PS.of 162 [(2, .val (.bool false)), (161, .val (.bool v15))] [] [] 0 0) ∧ v15 = x73) ?_ ?_
                  · refine PO.case (t := 142) rfl rfl (fun h75 => ?_) (fun h75 => ?_)
                    · have e74 := bif_t h75 e74
                      refine PO.run 2 rfl ?_
                      refine bindK e74 (fun r76 e77 e74 => ?_)
                      refine PO.call rfl rfl rfl rfl (ks := []) (ts := []) (fr1 := []) rfl rfl rfl trivial (L99 k a0.size _ e77) ?_
                      rintro _ _ _ ⟨rfl, rfl, rfl⟩
                      refine ⟨_, _, rfl, rfl, ?_⟩
                      refine PO.same rfl (pickT_ok rfl rfl rfl) rfl ?_
                      refine PO.run 1 rfl ?_
                      refine bindK e74 (fun x78 e79 e74 => ?_)
                      refine PO.cut 14 (fun s => ∃ (v16 : Bool), Weak s (PS.of 162 [(2, .val (.bool false)), (161, .val (.bool v16))] [] [] 0 0) ∧ v16 = x78) ?_ ?_
                      · refine PO.case (t := 147) rfl rfl (fun h80 => ?_) (fun h80 => ?_)
                        · have e79 := bif_t h80 e79
                          refine PO.run 2 rfl ?_
                          refine bindK e79 (fun r81 e82 e79 => ?_)
                          refine PO.call rfl rfl rfl rfl (ks := []) (ts := []) (fr1 := []) rfl rfl rfl trivial (L100 k a0.width _ e82) ?_
                          rintro _ _ _ ⟨rfl, rfl, rfl⟩
                          refine ⟨_, _, rfl, rfl, ?_⟩
                          refine PO.same rfl (pickT_ok rfl rfl rfl) rfl ?_
                          refine PO.run 1 rfl ?_
                          refine bindK e79 (fun x83 e84 e79 => ?_)
                          refine PO.cut 9 (fun s => ∃ (v17 : Bool), Weak s (PS.of 162 [(2, .val (.bool false)), (161, .val (.bool v17))] [] [] 0 0) ∧ v17 = x83) ?_ ?_
                          · refine PO.case (t := 152) rfl rfl (fun h85 => ?_) (fun h85 => ?_)
                            · have e84 := bif_t h85 e84
                              refine PO.run 2 rfl ?_
                              refine bindK e84 (fun r86 e87 e84 => ?_)
                              refine PO.call rfl rfl rfl rfl (ks := []) (ts := []) (fr1 := []) rfl rfl rfl trivial (L100 k a0.height _ e87) ?_
                              rintro _ _ _ ⟨rfl, rfl, rfl⟩
                              refine ⟨_, _, rfl, rfl, ?_⟩
                              refine PO.same rfl (pickT_ok rfl rfl rfl) rfl ?_
                              refine PO.run 1 rfl ?_
                              refine bindK e84 (fun x88 e89 e84 => ?_)
                              refine PO.cut 4 (fun s => ∃ (v18 : Bool), Weak s (PS.of 162 [(2, .val (.bool false)), (161, .val (.bool v18))] [] [] 0 0) ∧ v18 = x88) ?_ ?_
                              · refine PO.case (t := 157) rfl rfl (fun h90 => ?_) (fun h90 => ?_)
                                · have e89 := bif_t h90 e89
                                  refine PO.run 2 rfl ?_
                                  refine bindK e89 (fun r91 e92 e89 => ?_)
                                  refine PO.call rfl rfl rfl rfl (ks := []) (ts := []) (fr1 := []) rfl rfl rfl trivial (L100 k a0.depth _ e92) ?_
                                  rintro _ _ _ ⟨rfl, rfl, rfl⟩
                                  refine ⟨_, _, rfl, rfl, ?_⟩
                                  refine PO.same rfl (pickT_ok rfl rfl rfl) rfl ?_
                                  refine PO.nil ?_
                                  obtain rfl := Option.some.inj e89
                                  exact ⟨r91, Weak.one [] [] (by kernel_rfl), rfl⟩
                                · have e89 := bif_f h90 e89
                                  refine PO.run 3 rfl ?_
                                  refine PO.same rfl (pickF_ok rfl rfl rfl) rfl ?_
                                  refine PO.nil ?_
                                  obtain rfl := Option.some.inj e89
                                  exact ⟨false, Weak.one [] [] (by kernel_rfl), rfl⟩
                              · rintro _ ⟨v18, w93, rfl⟩
                                refine PO.weak w93 ?_
                                refine PO.nil ?_
                                obtain rfl := Option.some.inj e84
                                exact ⟨v18, Weak.one [] [] (by kernel_rfl), rfl⟩
                            · have e84 := bif_f h85 e84
                              refine PO.run 3 rfl ?_
                              refine PO.same rfl (pickF_ok rfl rfl rfl) rfl ?_
                              refine PO.run 4 rfl ?_
                              refine PO.same rfl (pickF_ok rfl rfl rfl) rfl ?_
                              refine PO.nil ?_
                              obtain rfl := Option.some.inj e84
                              exact ⟨false, Weak.one [] [] (by kernel_rfl), rfl⟩
                          · rintro _ ⟨v17, w94, rfl⟩
                            refine PO.weak w94 ?_
                            refine PO.nil ?_
                            obtain rfl := Option.some.inj e79
                            exact ⟨v17, Weak.one [] [] (by kernel_rfl), rfl⟩
                        · have e79 := bif_f h80 e79
                          refine PO.run 3 rfl ?_
                          refine PO.same rfl (pickF_ok rfl rfl rfl) rfl ?_
                          refine PO.run 4 rfl ?_
                          refine PO.same rfl (pickF_ok rfl rfl rfl) rfl ?_
                          refine PO.run 4 rfl ?_
                          refine PO.same rfl (pickF_ok rfl rfl rfl) rfl ?_
                          refine PO.nil ?_
                          obtain rfl := Option.some.inj e79
                          exact ⟨false, Weak.one [] [] (by kernel_rfl), rfl⟩
                      · rintro _ ⟨v16, w95, rfl⟩
                        refine PO.weak w95 ?_
                        refine PO.nil ?_
                        obtain rfl := Option.some.inj e74
                        exact ⟨v16, Weak.one [] [] (by kernel_rfl), rfl⟩
                    · have e74 := bif_f h75 e74
                      refine PO.run 3 rfl ?_
                      refine PO.same rfl (pickF_ok rfl rfl rfl) rfl ?_
                      refine PO.run 4 rfl ?_
                      refine PO.same rfl (pickF_ok rfl rfl rfl) rfl ?_
                      refine PO.run 4 rfl ?_
                      refine PO.same rfl (pickF_ok rfl rfl rfl) rfl ?_
                      refine PO.run 4 rfl ?_
                      refine PO.same rfl (pickF_ok rfl rfl rfl) rfl ?_
                      refine PO.nil ?_
                      obtain rfl := Option.some.inj e74
                      exact ⟨false, Weak.one [] [] (by kernel_rfl), rfl⟩
                  · rintro _ ⟨v15, w96, rfl⟩
                    refine PO.weak w96 ?_
                    refine PO.nil ?_
                    obtain rfl := Option.some.inj e71
                    exact ⟨v15, Weak.one [] [] (by kernel_rfl), rfl⟩
                · have e71 := bif_f h72 e71
                  refine PO.run 3 rfl ?_
                  refine PO.same rfl (pickF_ok rfl rfl rfl) rfl ?_
                  refine PO.run 4 rfl ?_
                  refine PO.same rfl (pickF_ok rfl rfl rfl) rfl ?_
                  refine PO.run 4 rfl ?_
                  refine PO.same rfl (pickF_ok rfl rfl rfl) rfl ?_
                  refine PO.run 4 rfl ?_
                  refine PO.same rfl (pickF_ok rfl rfl rfl) rfl ?_
                  refine PO.run 4 rfl ?_
                  refine PO.same rfl (pickF_ok rfl rfl rfl) rfl ?_
                  refine PO.nil ?_
                  obtain rfl := Option.some.inj e71
                  exact ⟨false, Weak.one [] [] (by kernel_rfl), rfl⟩
              · rintro _ ⟨v14, w97, rfl⟩
                refine PO.weak w97 ?_
                refine PO.run 1 rfl ?_
                refine PO.nil ?_
                obtain rfl := Option.some.inj hF
                exact PC.ret (blockKP.back (retSK [] [] (by kernel_rfl) (.refl _) ⟨rfl, rfl, rfl⟩))
      · have hF := bif_f h63 hF
        refine PC.noop ?_
        refine PC.skip (blockKP.end ?_)
        refine PC.run (n := 2) rfl ?_
        obtain rfl := Option.some.inj hF
        exact PC.ret' (retSK [] [] (by kernel_rfl) (.refl _) ⟨rfl, rfl, rfl⟩)

/-! 40 platen/platenref13.Check -/
def F40_l1 (k : Nat) (a0 : List GItem) : Nat → Int → Int → Option ((Unit) ⊕ (Int))
  | 0, _, _ => none
  | j13 + 1, v5, v6 =>
    bif decide (v6 < (a0.length : Int)) then (Option.bind (α := (Int) ⊕ ((Unit) ⊕ (Int))) (bindI a0 v6 fun y10 =>
    bif y10.kind == 2 then ((F80 k a0 v6).bind fun r21 =>
    bif !r21 then (some (.inr (.inr 1))) else (some (.inl v5))) else (bindI a0 v6 fun y11 =>
    (F81 k y11).bind fun r26 =>
    Option.bind (α := Bool) (bif !r26 then (some true) else (bindI a0 v6 fun y13 =>
    Option.bind (α := Bool) (bif decide (y13.from_ < v5) then (some true) else (bindI a0 v6 fun y15 =>
    bindI a0 v6 fun y16 =>
    Option.bind (α := Bool) (bif decide (y15.to_ < y16.from_) then (some true) else (bindI a0 v6 fun y18 =>
    some (decide (y18.to_ > 65536)))) fun (v17 : Bool) =>
    some v17)) fun (v14 : Bool) =>
    some v14)) fun (v12 : Bool) =>
    bif v12 then (some (.inr (.inr 1))) else (bindI a0 v6 fun y19 =>
    some (.inl y19.to_)))) (Sum.elim (fun (v9 : Int) =>
    F40_l1 k a0 j13 v9 (w (v6 + 1))) some)) else (some (.inl ()))
def F40 (k : Nat) (a0 : List GItem) : Option Int :=
bif decide ((a0.length : Int) > 4096) then (some 130) else (Option.bind (α := Bool) (bif decide ((a0.length : Int) > 0) then (bindI a0 (w ((a0.length : Int) - 1)) fun y2 =>
(F79 k y2).bind fun r7 =>
some (!r7)) else (some false)) fun (v1 : Bool) =>
bif v1 then (some 1) else (Option.bind (α := (Unit) ⊕ (Int)) (F40_l1 k a0 k 0 0) (Sum.elim (fun (_ : Unit) =>
some 0) some)))
theorem L40 (k : Nat) (a0 : List GItem) (r : Int) (hF : F40 k a0 = some r) : PF Try.prog orc 40 [.list 13 (List.map cGItem a0) none] [] [] (fun p fr tk => p = .val (.int .i64 r) ∧ fr = [] ∧ tk = []) := by
  unfold F40 at hF
  refine PF.enterS Try.func40 rfl rfl rfl (by kernel_rfl) rfl ?_
  refine PC.run (n := 2) rfl ?_
  refine PC.assoc ?_
  refine PC.region ?_
  refine PO.run 1 rfl ?_
  refine PO.same rfl (len_ok Try.underlying42 rfl (List.length_map _)) rfl ?_
  refine PO.run 1 rfl ?_
  refine PO.nil ?_
  refine PC.cond rfl (fun h1 => ?_) (fun h1 => ?_)
  · have hF := bif_t h1 hF
    refine PC.assoc ?_
    refine PC.run (n := 2) rfl ?_
    obtain rfl := Option.some.inj hF
    exact PC.ret (retSK [] [] (by kernel_rfl) (.refl _) ⟨rfl, rfl, rfl⟩)
  · have hF := bif_f h1 hF
    refine PC.noop ?_
    refine PC.assoc ?_
    refine PC.region ?_
    refine PO.run 1 rfl ?_
    refine PO.same rfl (len_ok Try.underlying42 rfl (List.length_map _)) rfl ?_
    refine PO.run 2 rfl ?_
    refine bindK hF (fun x2 e3 hF => ?_)
    refine PO.cut 9 (fun s => ∃ (v1 : Bool), Weak s (PS.of 78 [(0, .list 13 (List.map cGItem a0) none), (2, .val (.int .i64 0)), (20, .val (.bool v1))] [] [] 0 0) ∧ v1 = x2) ?_ ?_
    · refine PO.case (t := 11) rfl rfl (fun h4 => ?_) (fun h4 => ?_)
      · have e3 := bif_t h4 e3
        refine PO.run 2 rfl ?_
        refine PO.same rfl (len_ok Try.underlying42 rfl (List.length_map _)) rfl ?_
        refine PO.run 1 rfl ?_
        refine bindIK e3 (fun y2 h5 h6 e3 => ?_)
        refine PO.same rfl (indexAddr_ok Try.underlying42 rfl rfl rfl h5 (map_at h6)) rfl ?_
        refine PO.run 1 rfl ?_
        refine bindK e3 (fun r7 e8 e3 => ?_)
        refine PO.call rfl rfl rfl rfl (ks := []) (ts := []) (fr1 := []) rfl rfl rfl trivial (L79 k y2 _ e8) ?_
        rintro _ _ _ ⟨rfl, rfl, rfl⟩
        refine ⟨_, _, rfl, rfl, ?_⟩
        refine PO.run 1 rfl ?_
        refine PO.same rfl (pickT_ok rfl rfl rfl) rfl ?_
        refine PO.nil ?_
        obtain rfl := Option.some.inj e3
        exact ⟨!r7, Weak.one [] [] (by kernel_rfl), rfl⟩
      · have e3 := bif_f h4 e3
        refine PO.run 8 rfl ?_
        refine PO.same rfl (pickF_ok rfl rfl rfl) rfl ?_
        refine PO.nil ?_
        obtain rfl := Option.some.inj e3
        exact ⟨false, Weak.one [] [] (by kernel_rfl), rfl⟩
    · rintro _ ⟨v1, w9, rfl⟩
      refine PO.weak w9 ?_
      refine PO.nil ?_
      refine PC.cond rfl (fun h10 => ?_) (fun h10 => ?_)
      · have hF := bif_t h10 hF
        refine PC.assoc ?_
        refine PC.run (n := 2) rfl ?_
        obtain rfl := Option.some.inj hF
        exact PC.ret (retSK [] [] (by kernel_rfl) (.refl _) ⟨rfl, rfl, rfl⟩)
      · have hF := bif_f h10 hF
        refine PC.noop ?_
        refine PC.run (n := 2) rfl ?_
        refine PC.assoc ?_
        refine PC.run (n := 2) rfl ?_
        refine bindK hF (fun x11 e12 hF => ?_)
        refine PC.blockJ (fun s => Weak s (PS.of 78 [(2, .val (.int .i64 0))] [] [] 0 0) ∧ .inl () = x11) ?_ ?_
        · refine PC.loop (fun j13 s => ∃ (v5 : Int) (v6 : Int), Weak s (PS.of 78 [(0, .list 13 (List.map cGItem a0) none), (2, .val (.int .i64 0)), (3, .val (.int .i64 v5)), (4, .val (.int .i64 v6))] [] [] 0 0) ∧ F40_l1 k a0 j13 v5 v6 = some x11) (fun j13 s => ?_) k ⟨0, 0, Weak.one [] [] (by kernel_rfl), e12⟩
          rintro ⟨v5, v6, w14, e12⟩
          refine PC.weak w14 ?_
          cases j13 with
          | zero => rw [F40_l1] at e12; cases e12
          | succ j13 =>
            rw [F40_l1] at e12
            refine PC.assoc ?_
            refine PC.region ?_
            refine PO.run 2 rfl ?_
            refine PO.same rfl (len_ok Try.underlying42 rfl (List.length_map _)) rfl ?_
            refine PO.run 1 rfl ?_
            refine PO.nil ?_
            refine PC.cond rfl (fun h15 => ?_) (fun h15 => ?_)
            · have e12 := bif_t h15 e12
              refine PC.noop ?_
              refine bindK e12 (fun x16 e17 e12 => ?_)
              refine PC.blockJ (fun s => ∃ (v9 : Int), Weak s (PS.of 78 [(0, .list 13 (List.map cGItem a0) none), (2, .val (.int .i64 0)), (3, .val (.int .i64 v9)), (4, .val (.int .i64 v6))] [] [] 0 0) ∧ .inl v9 = x16) ?_ ?_
              · refine PC.assoc ?_
                refine PC.region ?_
                refine PO.run 2 rfl ?_
                refine bindIK e17 (fun y10 h18 h19 e17 => ?_)
                refine PO.same rfl (indexAddr_ok Try.underlying42 rfl rfl rfl h18 (map_at h19)) rfl ?_
                refine PO.run 3 rfl ?_
                refine PO.nil ?_
                refine PC.cond rfl (fun h20 => ?_) (fun h20 => ?_)
                · have e17 := bif_t h20 e17
                  refine PC.assoc ?_
                  refine PC.assoc ?_
                  refine PC.region ?_
                  refine PO.run 2 rfl ?_
                  refine bindK e17 (fun r21 e22 e17 => ?_)
                  refine PO.call rfl rfl rfl rfl (ks := []) (ts := []) (fr1 := []) rfl rfl rfl trivial (L80 k a0 v6 _ e22) ?_
                  rintro _ _ _ ⟨rfl, rfl, rfl⟩
                  refine ⟨_, _, rfl, rfl, ?_⟩
                  refine PO.run 1 rfl ?_
                  refine PO.nil ?_
                  refine PC.cond rfl (fun h23 => ?_) (fun h23 => ?_)
                  · have e17 := bif_t h23 e17
                    refine PC.assoc ?_
                    refine PC.run (n := 2) rfl ?_
                    obtain rfl := Option.some.inj e17
                    obtain rfl := Option.some.inj e12
                    obtain rfl := Option.some.inj hF
                    exact PC.ret (blockJK.back (loopKP.ret (blockJK.back (retSK [] [] (by kernel_rfl) (.refl _) ⟨rfl, rfl, rfl⟩))))
                  · have e17 := bif_f h23 e17
                    refine PC.noop ?_
                    obtain rfl := Option.some.inj e17
                    exact PC.exit (blockJK.here ⟨v5, Weak.one [] [] (by kernel_rfl), rfl⟩)
                · have e17 := bif_f h20 e17
                  refine PC.noop ?_
                  refine PC.assoc ?_
                  refine PC.drawn (order := [0, 1, 2, 3, 4, 5, 6, 7, 8, 9, 10, 11, 12, 13, 14, 15, 16, 17, 18, 19, 20, 21, 22, 23, 24, 25, 26, 27, 28, 29, 30, 31, 32, 33, 34, 35]) (by kernel_rfl) ?_
                  refine PO.run 2 rfl ?_
                  refine bindIK e17 (fun y11 h24 h25 e17 => ?_)
                  refine PO.same rfl (indexAddr_ok Try.underlying42 rfl rfl rfl h24 (map_at h25)) rfl ?_
                  refine PO.run 1 rfl ?_
                  refine bindK e17 (fun r26 e27 e17 => ?_)
                  refine PO.call rfl rfl rfl rfl (ks := []) (ts := []) (fr1 := []) rfl rfl rfl trivial (L81 k y11 _ e27) ?_
                  rintro _ _ _ ⟨rfl, rfl, rfl⟩
                  refine ⟨_, _, rfl, rfl, ?_⟩
                  refine PO.run 2 rfl ?_
                  refine bindK e17 (fun x28 e29 e17 => ?_)
                  refine PO.cut 29 (fun s => ∃ (v12 : Bool), Weak s (PS.of 78 [(0, .list 13 (List.map cGItem a0) none), (2, .val (.int .i64 0)), (3, .val (.int .i64 v5)), (4, .val (.int .i64 v6)), (72, .val (.bool v12))] [] [] 0 0) ∧ v12 = x28) ?_ ?_
                  · refine PO.case (t := 43) rfl rfl (fun h30 => ?_) (fun h30 => ?_)
                    · have e29 := bif_t h30 e29
                      refine PO.run 7 rfl ?_
                      refine PO.same rfl (pickT_ok rfl rfl rfl) rfl ?_
                      refine PO.run 12 rfl ?_
                      refine PO.same rfl (pickT_ok rfl rfl rfl) rfl ?_
                      refine PO.run 7 rfl ?_
                      refine PO.same rfl (pickT_ok rfl rfl rfl) rfl ?_
                      refine PO.nil ?_
                      obtain rfl := Option.some.inj e29
                      exact ⟨true, Weak.one [] [] (by kernel_rfl), rfl⟩
                    · have e29 := bif_f h30 e29
                      refine PO.run 2 rfl ?_
                      refine bindIK e29 (fun y13 h31 h32 e29 => ?_)
                      refine PO.same rfl (indexAddr_ok Try.underlying42 rfl rfl rfl h31 (map_at h32)) rfl ?_
                      refine PO.run 4 rfl ?_
                      refine PO.same rfl (pickF_ok rfl rfl rfl) rfl ?_
                      refine PO.run 1 rfl ?_
                      refine bindK e29 (fun x33 e34 e29 => ?_)
                      refine PO.cut 20 (fun s => ∃ (v14 : Bool), Weak s (PS.of 78 [(0, .list 13 (List.map cGItem a0) none), (2, .val (.int .i64 0)), (3, .val (.int .i64 v5)), (4, .val (.int .i64 v6)), (72, .val (.bool v14))] [] [] 0 0) ∧ v14 = x33) ?_ ?_
                      · refine PO.case (t := 52) rfl rfl (fun h35 => ?_) (fun h35 => ?_)
                        · have e34 := bif_t h35 e34
                          refine PO.run 11 rfl ?_
                          refine PO.same rfl (pickT_ok rfl rfl rfl) rfl ?_
                          refine PO.run 7 rfl ?_
                          refine PO.same rfl (pickT_ok rfl rfl rfl) rfl ?_
                          refine PO.nil ?_
                          obtain rfl := Option.some.inj e34
                          exact ⟨true, Weak.one [] [] (by kernel_rfl), rfl⟩
                        · have e34 := bif_f h35 e34
                          refine PO.run 2 rfl ?_
                          refine bindIK e34 (fun y15 h36 h37 e34 => ?_)
                          refine PO.same rfl (indexAddr_ok Try.underlying42 rfl rfl rfl h36 (map_at h37)) rfl ?_
                          refine PO.run 4 rfl ?_
                          refine bindIK e34 (fun y16 h38 h39 e34 => ?_)
                          refine PO.same rfl (indexAddr_ok Try.underlying42 rfl rfl rfl h38 (map_at h39)) rfl ?_
                          refine PO.run 3 rfl ?_
                          refine PO.same rfl (pickF_ok rfl rfl rfl) rfl ?_
                          refine PO.run 1 rfl ?_
                          refine bindK e34 (fun x40 e41 e34 => ?_)
                          refine PO.cut 7 (fun s => ∃ (v17 : Bool), Weak s (PS.of 78 [(0, .list 13 (List.map cGItem a0) none), (2, .val (.int .i64 0)), (3, .val (.int .i64 v5)), (4, .val (.int .i64 v6)), (72, .val (.bool v17))] [] [] 0 0) ∧ v17 = x40) ?_ ?_
                          · refine PO.case (t := 65) rfl rfl (fun h42 => ?_) (fun h42 => ?_)
                            · have e41 := bif_t h42 e41
                              refine PO.run 6 rfl ?_
                              refine PO.same rfl (pickT_ok rfl rfl rfl) rfl ?_
                              refine PO.nil ?_
                              obtain rfl := Option.some.inj e41
                              exact ⟨true, Weak.one [] [] (by kernel_rfl), rfl⟩
                            · have e41 := bif_f h42 e41
                              refine PO.run 2 rfl ?_
                              refine bindIK e41 (fun y18 h43 h44 e41 => ?_)
                              refine PO.same rfl (indexAddr_ok Try.underlying42 rfl rfl rfl h43 (map_at h44)) rfl ?_
                              refine PO.run 3 rfl ?_
                              refine PO.same rfl (pickF_ok rfl rfl rfl) rfl ?_
                              refine PO.nil ?_
                              obtain rfl := Option.some.inj e41
                              exact ⟨decide (y18.to_ > 65536), Weak.one [] [] (by kernel_rfl), rfl⟩
                          · rintro _ ⟨v17, w45, rfl⟩
                            refine PO.weak w45 ?_
                            refine PO.nil ?_
                            obtain rfl := Option.some.inj e34
                            exact ⟨v17, Weak.one [] [] (by kernel_rfl), rfl⟩
                      · rintro _ ⟨v14, w46, rfl⟩
                        refine PO.weak w46 ?_
                        refine PO.nil ?_
                        obtain rfl := Option.some.inj e29
                        exact ⟨v14, Weak.one [] [] (by kernel_rfl), rfl⟩
                  · rintro _ ⟨v12, w47, rfl⟩
                    refine PO.weak w47 ?_
                    refine PO.nil ?_
                    refine PC.cond rfl (fun h48 => ?_) (fun h48 => ?_)
                    · have e17 := bif_t h48 e17
                      refine PC.assoc ?_
                      refine PC.run (n := 2) rfl ?_
                      obtain rfl := Option.some.inj e17
                      obtain rfl := Option.some.inj e12
                      obtain rfl := Option.some.inj hF
                      exact PC.ret (blockJK.back (loopKP.ret (blockJK.back (retSK [] [] (by kernel_rfl) (.refl _) ⟨rfl, rfl, rfl⟩))))
                    · have e17 := bif_f h48 e17
                      refine PC.noop ?_
                      refine PC.lone ?_
                      refine PC.region ?_
                      refine PO.run 2 rfl ?_
                      refine bindIK e17 (fun y19 h49 h50 e17 => ?_)
                      refine PO.same rfl (indexAddr_ok Try.underlying42 rfl rfl rfl h49 (map_at h50)) rfl ?_
                      refine PO.run 3 rfl ?_
                      refine PO.nil ?_
                      obtain rfl := Option.some.inj e17
                      exact PC.skip (blockJK.end ⟨y19.to_, Weak.one [] [] (by kernel_rfl), rfl⟩)
              · rintro _ ⟨v9, w51, rfl⟩
                refine PC.weak w51 ?_
                have e12 := elim_l e12
                refine PC.lone ?_
                refine PC.run (n := 4) rfl ?_
                exact PC.skip (loopKP.mk (Nat.lt_succ_self _) ⟨v9, w (v6 + 1), Weak.one [] [] (by kernel_rfl), e12⟩)
            · have e12 := bif_f h15 e12
              obtain rfl := Option.some.inj e12
              exact PC.exit (loopKP.exit (blockJK.here ⟨Weak.one [] [] (by kernel_rfl), rfl⟩))
        · rintro _ ⟨w52, rfl⟩
          refine PC.weak w52 ?_
          have hF := elim_l hF
          refine PC.run (n := 2) rfl ?_
          obtain rfl := Option.some.inj hF
          exact PC.ret' (retSK [] [] (by kernel_rfl) (.refl _) ⟨rfl, rfl, rfl⟩)

/-! 70 platen/line.forced -/
def F70 (k : Nat) (a0 : GItem) : Option Bool :=
Option.bind (α := Bool) (bif a0.kind == 4 then (some (decide (a0.value ≤ (-10000)))) else (some false)) fun (v1 : Bool) =>
some v1
theorem L70 (k : Nat) (a0 : GItem) (r : Bool) (hF : F70 k a0 = some r) : PF Try.prog orc 70 [.agg (cGItem a0)] [] [] (fun p fr tk => p = .val (.bool r) ∧ fr = [] ∧ tk = []) := by
  unfold F70 at hF
  refine PF.enterS Try.func70 rfl rfl rfl (by kernel_rfl) rfl ?_
  refine PC.region ?_
  refine PO.runK 2 [0] [] (es := [(1, .ptr 0 0), (2, .val (.bool false))]) (fr' := [⟨0, (cGItem a0)⟩]) (tk' := []) (by kernel_rfl) ?_
  refine PO.nil ?_
  refine PC.region ?_
  refine PO.run 4 rfl ?_
  refine bindK hF (fun x1 e2 hF => ?_)
  refine PO.cut 4 (fun s => ∃ (v1 : Bool), Weak s (PS.of 11 [(2, .val (.bool false)), (10, .val (.bool v1))] [] [] 0 0) ∧ v1 = x1) ?_ ?_
  · refine PO.case (t := 6) rfl rfl (fun h3 => ?_) (fun h3 => ?_)
    · have e2 := bif_t h3 e2
      refine PO.run 3 rfl ?_
      refine PO.same rfl (pickT_ok rfl rfl rfl) rfl ?_
      refine PO.nil ?_
      obtain rfl := Option.some.inj e2
      exact ⟨decide (a0.value ≤ (-10000)), Weak.one [] [] (by kernel_rfl), rfl⟩
    · have e2 := bif_f h3 e2
      refine PO.run 3 rfl ?_
      refine PO.same rfl (pickF_ok rfl rfl rfl) rfl ?_
      refine PO.nil ?_
      obtain rfl := Option.some.inj e2
      exact ⟨false, Weak.one [] [] (by kernel_rfl), rfl⟩
  · rintro _ ⟨v1, w4, rfl⟩
    refine PO.weak w4 ?_
    refine PO.run 1 rfl ?_
    refine PO.nil ?_
    obtain rfl := Option.some.inj hF
    exact PC.ret' (retSK [] [] (by kernel_rfl) (.refl _) ⟨rfl, rfl, rfl⟩)

/-! 94_70 slices.IndexFunc[[]platen/api.Item,platen/api.Item] -/
def F94_70_l1 (k : Nat) (a0 : List GItem) : Nat → Int → Option ((Unit) ⊕ (Int))
  | 0, _ => none
  | j3 + 1, v2 =>
    bif decide (v2 < (a0.length : Int)) then (bindI a0 v2 fun y4 =>
    (F70 k y4).bind fun r8 =>
    bif r8 then (some (.inr v2)) else (F94_70_l1 k a0 j3 (w (v2 + 1)))) else (some (.inl ()))
def F94_70 (k : Nat) (a0 : List GItem) : Option Int :=
Option.bind (α := (Unit) ⊕ (Int)) (F94_70_l1 k a0 k 0) (Sum.elim (fun (_ : Unit) =>
some (-1)) some)
theorem L94_70 (k : Nat) (a0 : List GItem) (r : Int) (hF : F94_70 k a0 = some r) : PF Try.prog orc 94 [.list 13 (List.map cGItem a0) none, .fn 70 [] []] [] [] (fun p fr tk => p = .val (.int .i64 r) ∧ fr = [] ∧ tk = []) := by
  unfold F94_70 at hF
  refine PF.enterS Try.func94 rfl rfl rfl (by kernel_rfl) rfl ?_
  refine PC.run (n := 2) rfl ?_
  refine PC.assoc ?_
  refine PC.region ?_
  refine PO.run 1 rfl ?_
  refine PO.same rfl (len_ok Try.underlying42 rfl (List.length_map _)) rfl ?_
  refine PO.run 1 rfl ?_
  refine PO.nil ?_
  refine bindK hF (fun x1 e2 hF => ?_)
  refine PC.blockJ (fun s => Weak s (PS.of 19 [(4, .val (.int .i64 0))] [] [] 0 0) ∧ .inl () = x1) ?_ ?_
  · refine PC.loop (fun j3 s => ∃ (v2 : Int), Weak s (PS.of 19 [(0, .list 13 (List.map cGItem a0) none), (1, .fn 70 [] []), (4, .val (.int .i64 0)), (7, .val (.int .i64 (a0.length : Int))), (8, .val (.int .i64 v2))] [] [] 0 0) ∧ F94_70_l1 k a0 j3 v2 = some x1) (fun j3 s => ?_) k ⟨0, Weak.one [] [] (by kernel_rfl), e2⟩
    rintro ⟨v2, w4, e2⟩
    refine PC.weak w4 ?_
    cases j3 with
    | zero => rw [F94_70_l1] at e2; cases e2
    | succ j3 =>
      rw [F94_70_l1] at e2
      refine PC.run (n := 2) rfl ?_
      refine PC.cond rfl (fun h5 => ?_) (fun h5 => ?_)
      · have e2 := bif_t h5 e2
        refine PC.noop ?_
        refine PC.block ?_
        refine PC.run (n := 3) rfl ?_
        refine PC.region ?_
        refine PO.run 3 rfl ?_
        refine bindIK e2 (fun y4 h6 h7 e2 => ?_)
        refine PO.same rfl (indexAddr_ok Try.underlying42 rfl rfl rfl h6 (map_at h7)) rfl ?_
        refine PO.run 1 rfl ?_
        refine bindK e2 (fun r8 e9 e2 => ?_)
        refine PO.callv rfl rfl rfl rfl rfl (ks := []) (ts := []) (fr1 := []) rfl rfl rfl trivial (L70 k y4 _ e9) ?_
        rintro _ _ _ ⟨rfl, rfl, rfl⟩
        refine ⟨_, _, rfl, rfl, ?_⟩
        refine PO.nil ?_
        refine PC.lone ?_
        refine PC.cond rfl (fun h10 => ?_) (fun h10 => ?_)
        · have e2 := bif_t h10 e2
          refine PC.assoc ?_
          refine PC.run (n := 3) rfl ?_
          obtain rfl := Option.some.inj e2
          obtain rfl := Option.some.inj hF
          exact PC.ret (blockKP.back (loopKP.ret (blockJK.back (retSK [] [] (by kernel_rfl) (.refl _) ⟨rfl, rfl, rfl⟩))))
        · have e2 := bif_f h10 e2
          refine PC.noop ?_
          refine PC.skip (blockKP.end ?_)
          refine PC.lone ?_
          refine PC.run (n := 3) rfl ?_
          exact PC.skip (loopKP.mk (Nat.lt_succ_self _) ⟨w (v2 + 1), Weak.one [] [] (by kernel_rfl), e2⟩)
      · have e2 := bif_f h5 e2
        obtain rfl := Option.some.inj e2
        exact PC.exit (loopKP.exit (blockJK.here ⟨Weak.one [] [] (by kernel_rfl), rfl⟩))
  · rintro _ ⟨w11, rfl⟩
    refine PC.weak w11 ?_
    have hF := elim_l hF
    refine PC.run (n := 2) rfl ?_
    obtain rfl := Option.some.inj hF
    exact PC.ret' (retSK [] [] (by kernel_rfl) (.refl _) ⟨rfl, rfl, rfl⟩)

/-! 69_70 slices.ContainsFunc[[]platen/api.Item,platen/api.Item] -/
def F69_70 (k : Nat) (a0 : List GItem) : Option Bool :=
(F94_70 k a0).bind fun r1 =>
some (decide (r1 ≥ 0))
theorem L69_70 (k : Nat) (a0 : List GItem) (r : Bool) (hF : F69_70 k a0 = some r) : PF Try.prog orc 69 [.list 13 (List.map cGItem a0) none, .fn 70 [] []] [] [] (fun p fr tk => p = .val (.bool r) ∧ fr = [] ∧ tk = []) := by
  unfold F69_70 at hF
  refine PF.enterS Try.func69 rfl rfl rfl (by kernel_rfl) rfl ?_
  refine PC.run (n := 2) rfl ?_
  refine PC.region ?_
  refine PO.run 2 rfl ?_
  refine bindK hF (fun r1 e2 hF => ?_)
  refine PO.call rfl rfl rfl rfl (ks := []) (ts := []) (fr1 := []) rfl rfl rfl trivial (L94_70 k a0 _ e2) ?_
  rintro _ _ _ ⟨rfl, rfl, rfl⟩
  refine ⟨_, _, rfl, rfl, ?_⟩
  refine PO.run 2 rfl ?_
  refine PO.nil ?_
  obtain rfl := Option.some.inj hF
  exact PC.ret' (retSK [] [] (by kernel_rfl) (.refl _) ⟨rfl, rfl, rfl⟩)

/-! 77 platen/line.way -/
def F77_l1 (k : Nat) (a0 : List GItem) (a1 : List Int) : Nat → Int → Int → Option ((Int) ⊕ (Bool))
  | 0, _, _ => none
  | j3 + 1, v4, v5 =>
    bif decide (v5 < (a1.length : Int)) then (bindI a1 v5 fun y8 =>
    Option.bind (α := Bool) (bif decide (y8 ≤ v4) then (some true) else (Option.bind (α := Bool) (bif decide (y8 ≥ (a0.length : Int)) then (some true) else ((F68 k a0 y8).bind fun r14 =>
    Option.bind (α := Bool) (bif !r14 then (some true) else (bindS a0 (w (v4 + 1)) y8 fun l12 =>
    (F69_70 k l12).bind fun r22 =>
    some r22)) fun (v11 : Bool) =>
    some v11)) fun (v10 : Bool) =>
    some v10)) fun (v9 : Bool) =>
    bif v9 then (some (.inr false)) else (F77_l1 k a0 a1 j3 y8 (w (v5 + 1)))) else (some (.inl v4))
def F77 (k : Nat) (a0 : List GItem) (a1 : List Int) : Option Bool :=
Option.bind (α := (Int) ⊕ (Bool)) (F77_l1 k a0 a1 k (-1) 0) (Sum.elim (fun (v1 : Int) =>
bindS a0 (w (v1 + 1)) (a0.length : Int) fun l13 =>
(F69_70 k l13).bind fun r32 =>
some (!r32)) some)
theorem L77 (k : Nat) (a0 : List GItem) (a1 : List Int) (r : Bool) (hF : F77 k a0 a1 = some r) : PF Try.prog orc 77 [.list 13 (List.map cGItem a0) none, .list 1 (List.map cI_i64 a1) none] [] [] (fun p fr tk => p = .val (.bool r) ∧ fr = [] ∧ tk = []) := by
  unfold F77 at hF
  refine PF.enterS Try.func77 rfl rfl rfl (by kernel_rfl) rfl ?_
  refine PC.run (n := 2) rfl ?_
  refine PC.run (n := 2) rfl ?_
  refine PC.assoc ?_
  refine PC.region ?_
  refine PO.run 1 rfl ?_
  refine PO.same rfl (len_ok Try.underlying43 rfl (List.length_map _)) rfl ?_
  refine PO.run 1 rfl ?_
  refine PO.nil ?_
  refine bindK hF (fun x1 e2 hF => ?_)
  refine PC.blockJ (fun s => ∃ (v1 : Int), Weak s (PS.of 45 [(0, .list 13 (List.map cGItem a0) none), (4, .val (.bool false)), (5, .val (.int .i64 v1))] [] [] 0 0) ∧ .inl v1 = x1) ?_ ?_
  · refine PC.loop (fun j3 s => ∃ (v4 : Int) (v5 : Int), Weak s (PS.of 45 [(0, .list 13 (List.map cGItem a0) none), (4, .val (.bool false)), (5, .val (.int .i64 v4)), (8, .list 1 (List.map cI_i64 a1) none), (9, .val (.int .i64 (a1.length : Int))), (10, .val (.int .i64 v5))] [] [] 0 0) ∧ F77_l1 k a0 a1 j3 v4 v5 = some x1) (fun j3 s => ?_) k ⟨(-1), 0, Weak.one [] [] (by kernel_rfl), e2⟩
    rintro ⟨v4, v5, w4, e2⟩
    refine PC.weak w4 ?_
    cases j3 with
    | zero => rw [F77_l1] at e2; cases e2
    | succ j3 =>
      rw [F77_l1] at e2
      refine PC.run (n := 2) rfl ?_
      refine PC.cond rfl (fun h5 => ?_) (fun h5 => ?_)
      · have e2 := bif_t h5 e2
        refine PC.noop ?_
        refine PC.block ?_
        refine PC.region ?_
        refine bindIK e2 (fun y8 h6 h7 e2 => ?_)
        refine PO.same rfl (indexAddr_ok Try.underlying43 rfl rfl rfl h6 (map_at h7)) rfl ?_
        refine PO.run 2 rfl ?_
        refine PO.nil ?_
        refine PC.assoc ?_
        refine PC.region ?_
        refine PO.run 4 rfl ?_
        refine bindK e2 (fun x8 e9 e2 => ?_)
        refine PO.cut 19 (fun s => ∃ (v9 : Bool), Weak s (PS.of 45 [(0, .list 13 (List.map cGItem a0) none), (4, .val (.bool false)), (5, .val (.int .i64 v4)), (7, .val (.int .i64 y8)), (8, .list 1 (List.map cI_i64 a1) none), (9, .val (.int .i64 (a1.length : Int))), (10, .val (.int .i64 v5)), (36, .val (.bool v9))] [] [] 0 0) ∧ v9 = x8) ?_ ?_
        · refine PO.case (t := 17) rfl rfl (fun h10 => ?_) (fun h10 => ?_)
          · have e9 := bif_t h10 e9
            refine PO.run 4 rfl ?_
            refine PO.same rfl (pickT_ok rfl rfl rfl) rfl ?_
            refine PO.run 5 rfl ?_
            refine PO.same rfl (pickT_ok rfl rfl rfl) rfl ?_
            refine PO.run 7 rfl ?_
            refine PO.same rfl (pickT_ok rfl rfl rfl) rfl ?_
            refine PO.nil ?_
            obtain rfl := Option.some.inj e9
            exact ⟨true, Weak.one [] [] (by kernel_rfl), rfl⟩
          · have e9 := bif_f h10 e9
            refine PO.run 2 rfl ?_
            refine PO.same rfl (len_ok Try.underlying42 rfl (List.length_map _)) rfl ?_
            refine PO.run 1 rfl ?_
            refine PO.same rfl (pickF_ok rfl rfl rfl) rfl ?_
            refine PO.run 1 rfl ?_
            refine bindK e9 (fun x11 e12 e9 => ?_)
            refine PO.cut 13 (fun s => ∃ (v10 : Bool), Weak s (PS.of 45 [(0, .list 13 (List.map cGItem a0) none), (4, .val (.bool false)), (5, .val (.int .i64 v4)), (7, .val (.int .i64 y8)), (8, .list 1 (List.map cI_i64 a1) none), (9, .val (.int .i64 (a1.length : Int))), (10, .val (.int .i64 v5)), (36, .val (.bool v10))] [] [] 0 0) ∧ v10 = x11) ?_ ?_
            · refine PO.case (t := 23) rfl rfl (fun h13 => ?_) (fun h13 => ?_)
              · have e12 := bif_t h13 e12
                refine PO.run 4 rfl ?_
                refine PO.same rfl (pickT_ok rfl rfl rfl) rfl ?_
                refine PO.run 7 rfl ?_
                refine PO.same rfl (pickT_ok rfl rfl rfl) rfl ?_
                refine PO.nil ?_
                obtain rfl := Option.some.inj e12
                exact ⟨true, Weak.one [] [] (by kernel_rfl), rfl⟩
              · have e12 := bif_f h13 e12
                refine PO.run 2 rfl ?_
                refine bindK e12 (fun r14 e15 e12 => ?_)
                refine PO.call rfl rfl rfl rfl (ks := []) (ts := []) (fr1 := []) rfl rfl rfl trivial (L68 k a0 y8 _ e15) ?_
                rintro _ _ _ ⟨rfl, rfl, rfl⟩
                refine ⟨_, _, rfl, rfl, ?_⟩
                refine PO.run 1 rfl ?_
                refine PO.same rfl (pickF_ok rfl rfl rfl) rfl ?_
                refine PO.run 1 rfl ?_
                refine bindK e12 (fun x16 e17 e12 => ?_)
                refine PO.cut 7 (fun s => ∃ (v11 : Bool), Weak s (PS.of 45 [(0, .list 13 (List.map cGItem a0) none), (4, .val (.bool false)), (5, .val (.int .i64 v4)), (7, .val (.int .i64 y8)), (8, .list 1 (List.map cI_i64 a1) none), (9, .val (.int .i64 (a1.length : Int))), (10, .val (.int .i64 v5)), (36, .val (.bool v11))] [] [] 0 0) ∧ v11 = x16) ?_ ?_
                · refine PO.case (t := 29) rfl rfl (fun h18 => ?_) (fun h18 => ?_)
                  · have e17 := bif_t h18 e17
                    refine PO.run 6 rfl ?_
                    refine PO.same rfl (pickT_ok rfl rfl rfl) rfl ?_
                    refine PO.nil ?_
                    obtain rfl := Option.some.inj e17
                    exact ⟨true, Weak.one [] [] (by kernel_rfl), rfl⟩
                  · have e17 := bif_f h18 e17
                    refine PO.run 4 rfl ?_
                    refine bindSK e17 (fun h19 h20 h21 e17 => ?_)
                    generalize hgl12 : (List.take (Int.toNat y8) a0).drop (Int.toNat (w (v4 + 1))) = l12 at e17
                    refine PO.same rfl (slice_ok (l2 := List.map cGItem l12) Try.underlying42 rfl rfl (.some rfl h19 rfl) (.some rfl (Int.le_trans h19 h20) rfl) (Int.toNat_le_toNat h20) (toNat_le1 h21) (by rw [← hgl12, List.map_drop, List.map_take] <;> first | rfl | simp [w])) rfl ?_
                    refine bindK e17 (fun r22 e23 e17 => ?_)
                    refine PO.call rfl rfl rfl rfl (ks := []) (ts := []) (fr1 := []) rfl rfl rfl trivial (L69_70 k l12 _ e23) ?_
                    rintro _ _ _ ⟨rfl, rfl, rfl⟩
                    refine ⟨_, _, rfl, rfl, ?_⟩
                    refine PO.same rfl (pickF_ok rfl rfl rfl) rfl ?_
                    refine PO.nil ?_
                    obtain rfl := Option.some.inj e17
                    exact ⟨r22, Weak.one [] [] (by kernel_rfl), rfl⟩
                · rintro _ ⟨v11, w24, rfl⟩
                  refine PO.weak w24 ?_
                  refine PO.nil ?_
                  obtain rfl := Option.some.inj e12
                  exact ⟨v11, Weak.one [] [] (by kernel_rfl), rfl⟩
            · rintro _ ⟨v10, w25, rfl⟩
              refine PO.weak w25 ?_
              refine PO.nil ?_
              obtain rfl := Option.some.inj e9
              exact ⟨v10, Weak.one [] [] (by kernel_rfl), rfl⟩
        · rintro _ ⟨v9, w26, rfl⟩
          refine PO.weak w26 ?_
          refine PO.nil ?_
          refine PC.cond rfl (fun h27 => ?_) (fun h27 => ?_)
          · have e2 := bif_t h27 e2
            refine PC.assoc ?_
            refine PC.run (n := 2) rfl ?_
            obtain rfl := Option.some.inj e2
            obtain rfl := Option.some.inj hF
            exact PC.ret (blockKP.back (loopKP.ret (blockJK.back (retSK [] [] (by kernel_rfl) (.refl _) ⟨rfl, rfl, rfl⟩))))
          · have e2 := bif_f h27 e2
            refine PC.noop ?_
            refine PC.lone ?_
            refine PC.run (n := 3) rfl ?_
            refine PC.skip (blockKP.end ?_)
            refine PC.lone ?_
            refine PC.run (n := 3) rfl ?_
            exact PC.skip (loopKP.mk (Nat.lt_succ_self _) ⟨y8, w (v5 + 1), Weak.one [] [] (by kernel_rfl), e2⟩)
      · have e2 := bif_f h5 e2
        obtain rfl := Option.some.inj e2
        exact PC.exit (loopKP.exit (blockJK.here ⟨v4, Weak.one [] [] (by kernel_rfl), rfl⟩))
  · rintro _ ⟨v1, w28, rfl⟩
    refine PC.weak w28 ?_
    have hF := elim_l hF
    refine PC.region ?_
    refine PO.run 3 rfl ?_
    refine bindSK hF (fun h29 h30 h31 hF => ?_)
    generalize hgl13 : (List.take (Int.toNat (a0.length : Int)) a0).drop (Int.toNat (w (v1 + 1))) = l13 at hF
    refine PO.same rfl (slice_ok (l2 := List.map cGItem l13) Try.underlying42 rfl rfl (.some rfl h29 rfl) .none (toNat_le1 h30) (Nat.le_refl _) (by rw [← hgl13, List.map_drop, List.map_take] <;> first | rfl | simp [w])) rfl ?_
    refine bindK hF (fun r32 e33 hF => ?_)
    refine PO.call rfl rfl rfl rfl (ks := []) (ts := []) (fr1 := []) rfl rfl rfl trivial (L69_70 k l13 _ e33) ?_
    rintro _ _ _ ⟨rfl, rfl, rfl⟩
    refine ⟨_, _, rfl, rfl, ?_⟩
    refine PO.run 2 rfl ?_
    refine PO.nil ?_
    obtain rfl := Option.some.inj hF
    exact PC.ret' (retSK [] [] (by kernel_rfl) (.refl _) ⟨rfl, rfl, rfl⟩)

/-! 106 platen/line.rate$1 -/
def F106 (k : Nat) (a0 : Int) : Option Int :=
some (if 10000 < w (Int.tdiv (w ((w (a0 * a0)) * a0)) 10000) then 10000 else w (Int.tdiv (w ((w (a0 * a0)) * a0)) 10000))
theorem L106 (k : Nat) (a0 : Int) (r : Int) (hF : F106 k a0 = some r) : PF Try.prog orc 106 [.val (.int .i64 a0)] [] [] (fun p fr tk => p = .val (.int .i64 r) ∧ fr = [] ∧ tk = []) := by
  unfold F106 at hF
  refine PF.enterS Try.func106 rfl rfl rfl (by kernel_rfl) rfl ?_
  refine PC.run (n := 2) rfl ?_
  refine PC.run (n := 9) rfl ?_
  obtain rfl := Option.some.inj hF
  exact PC.ret' (retSK [] [] (by kernel_rfl) (.refl _) ⟨rfl, rfl, rfl⟩)

/-! 95 platen/line.rate -/
def F95 (k : Nat) (a0 : GLine) : Option GLine :=
Option.bind (α := Int × Int × Bool) (Option.bind (α := Bool) (bif decide (a0.short < 0) then (some (decide (a0.short < (w (0 - a0.shrink))))) else (some false)) fun (v4 : Bool) =>
bif v4 then (some (10000, 0, true)) else (Option.bind (α := Bool) (bif a0.short == 0 then (some true) else (Option.bind (α := Bool) (bif decide (a0.short > 0) then (some a0.end_) else (some false)) fun (v6 : Bool) =>
some v6)) fun (v5 : Bool) =>
bif v5 then (some (0, 1, a0.over_)) else (bif decide (a0.short < 0) then (bindD a0.shrink ((F106 k (w (Int.tdiv (w (100 * (w (0 - a0.short)))) a0.shrink))).bind fun r19 =>
bif decide ((w (Int.tdiv (w (100 * (w (0 - a0.short)))) a0.shrink)) > 50) then (some (r19, 0, a0.over_)) else (some (r19, 1, a0.over_)))) else (bif a0.stretch == 0 then (some (10000, 3, a0.over_)) else (bindD a0.stretch ((F106 k (if 1000 < w (Int.tdiv (w (100 * a0.short)) a0.stretch) then 1000 else w (Int.tdiv (w (100 * a0.short)) a0.stretch))).bind fun r24 =>
bif decide ((if 1000 < w (Int.tdiv (w (100 * a0.short)) a0.stretch) then 1000 else w (Int.tdiv (w (100 * a0.short)) a0.stretch)) ≤ 50) then (some (r24, 1, a0.over_)) else (bif decide ((if 1000 < w (Int.tdiv (w (100 * a0.short)) a0.stretch) then 1000 else w (Int.tdiv (w (100 * a0.short)) a0.stretch)) ≤ 100) then (some (r24, 2, a0.over_)) else (some (r24, 3, a0.over_))))))))) fun (v1, v2, v3) =>
some (GLine.mk a0.first a0.last a0.break_ a0.natural a0.stretch a0.shrink a0.short v1 v2 v3 a0.hyphen a0.end_ a0.height a0.depth)
theorem L95 (k : Nat) (a0 : GLine) (r : GLine) (hF : F95 k a0 = some r) : PF Try.prog orc 95 [.ptr 0 0] [⟨0, (cGLine a0)⟩] [] (fun p fr tk => p = .tup [] ∧ fr = [⟨0, (cGLine r)⟩] ∧ tk = []) := by
  unfold F95 at hF
  refine PF.enterS Try.func95 rfl rfl rfl (by kernel_rfl) rfl ?_
  refine PC.run (n := 2) rfl ?_
  refine PC.lone ?_
  refine bindK hF (fun x1 e2 hF => ?_)
  refine PC.blockJ (fun s => ∃ (v1 : Int) (v2 : Int) (v3 : Bool), Weak s (PS.of 130 [] [⟨0, [.val (.int .i64 a0.first), .val (.int .i64 a0.last), .val (.int .i64 a0.break_), .val (.int .i64 a0.natural), .val (.int .i64 a0.stretch), .val (.int .i64 a0.shrink), .val (.int .i64 a0.short), .val (.int .i64 v1), .val (.int .i64 v2), .val (.bool v3), .val (.bool a0.hyphen), .val (.bool a0.end_), .val (.int .i64 a0.height), .val (.int .i64 a0.depth)]⟩] [] 1 0) ∧ (v1, v2, v3) = x1) ?_ ?_
  · refine PC.drawn (order := [0, 1, 2, 3, 4, 5, 6, 7, 8, 9, 10, 11, 12, 13, 14, 15, 16, 17]) (by kernel_rfl) ?_
    refine PO.run 6 rfl ?_
    refine bindK e2 (fun x3 e4 e2 => ?_)
    refine PO.cut 11 (fun s => ∃ (v4 : Bool), Weak s (PS.of 130 [(0, .ptr 0 0), (2, .fn 106 [] []), (52, .val (.bool v4))] [⟨0, (cGLine a0)⟩] [] 1 0) ∧ v4 = x3) ?_ ?_
    · refine PO.case (t := 41) rfl rfl (fun h5 => ?_) (fun h5 => ?_)
      · have e4 := bif_t h5 e4
        refine PO.run 10 rfl ?_
        refine PO.same rfl (pickT_ok rfl rfl rfl) rfl ?_
        refine PO.nil ?_
        obtain rfl := Option.some.inj e4
        exact ⟨decide (a0.short < (w (0 - a0.shrink))), Weak.one [0] [] (by kernel_rfl), rfl⟩
      · have e4 := bif_f h5 e4
        refine PO.run 10 rfl ?_
        refine PO.same rfl (pickF_ok rfl rfl rfl) rfl ?_
        refine PO.nil ?_
        obtain rfl := Option.some.inj e4
        exact ⟨false, Weak.one [0] [] (by kernel_rfl), rfl⟩
    · rintro _ ⟨v4, w6, rfl⟩
      refine PO.weak w6 ?_
      refine PO.run 1 rfl ?_
      refine PO.nil ?_
      refine PC.lone ?_
      refine PC.cond rfl (fun h7 => ?_) (fun h7 => ?_)
      · have e2 := bif_t h7 e2
        refine PC.region ?_
        refine PO.runK 12 [0] [] (es := []) (fr' := [⟨0, [.val (.int .i64 a0.first), .val (.int .i64 a0.last), .val (.int .i64 a0.break_), .val (.int .i64 a0.natural), .val (.int .i64 a0.stretch), .val (.int .i64 a0.shrink), .val (.int .i64 a0.short), .val (.int .i64 10000), .val (.int .i64 0), .val (.bool true), .val (.bool a0.hyphen), .val (.bool a0.end_), .val (.int .i64 a0.height), .val (.int .i64 a0.depth)]⟩]) (tk' := []) (by kernel_rfl) ?_
        refine PO.nil ?_
        obtain rfl := Option.some.inj e2
        exact PC.skip (blockJK.end ⟨10000, 0, true, Weak.one [0] [] (by kernel_rfl), rfl⟩)
      · have e2 := bif_f h7 e2
        refine PC.assoc ?_
        refine PC.region ?_
        refine PO.run 6 rfl ?_
        refine bindK e2 (fun x8 e9 e2 => ?_)
        refine PO.cut 12 (fun s => ∃ (v5 : Bool), Weak s (PS.of 130 [(0, .ptr 0 0), (2, .fn 106 [] []), (80, .val (.bool v5))] [⟨0, (cGLine a0)⟩] [] 1 0) ∧ v5 = x8) ?_ ?_
        · refine PO.case (t := 68) rfl rfl (fun h10 => ?_) (fun h10 => ?_)
          · have e9 := bif_t h10 e9
            refine PO.run 11 rfl ?_
            refine PO.same rfl (pickT_ok rfl rfl rfl) rfl ?_
            refine PO.nil ?_
            obtain rfl := Option.some.inj e9
            exact ⟨true, Weak.one [0] [] (by kernel_rfl), rfl⟩
          · have e9 := bif_f h10 e9
            refine PO.run 6 rfl ?_
            refine bindK e9 (fun x11 e12 e9 => ?_)
            refine PO.cut 6 (fun s => ∃ (v6 : Bool), Weak s (PS.of 130 [(0, .ptr 0 0), (2, .fn 106 [] []), (80, .val (.bool v6))] [⟨0, (cGLine a0)⟩] [] 1 0) ∧ v6 = x11) ?_ ?_
            · refine PO.case (t := 74) rfl rfl (fun h13 => ?_) (fun h13 => ?_)
              · have e12 := bif_t h13 e12
                refine PO.run 4 rfl ?_
                refine PO.same rfl (pickT_ok rfl rfl rfl) rfl ?_
                refine PO.same rfl (pickF_ok rfl rfl rfl) rfl ?_
                refine PO.nil ?_
                obtain rfl := Option.some.inj e12
                exact ⟨a0.end_, Weak.one [0] [] (by kernel_rfl), rfl⟩
              · have e12 := bif_f h13 e12
                refine PO.run 4 rfl ?_
                refine PO.same rfl (pickF_ok rfl rfl rfl) rfl ?_
                refine PO.same rfl (pickF_ok rfl rfl rfl) rfl ?_
                refine PO.nil ?_
                obtain rfl := Option.some.inj e12
                exact ⟨false, Weak.one [0] [] (by kernel_rfl), rfl⟩
            · rintro _ ⟨v6, w14, rfl⟩
              refine PO.weak w14 ?_
              refine PO.nil ?_
              obtain rfl := Option.some.inj e9
              exact ⟨v6, Weak.one [0] [] (by kernel_rfl), rfl⟩
        · rintro _ ⟨v5, w15, rfl⟩
          refine PO.weak w15 ?_
          refine PO.run 1 rfl ?_
          refine PO.nil ?_
          refine PC.cond rfl (fun h16 => ?_) (fun h16 => ?_)
          · have e2 := bif_t h16 e2
            refine PC.region ?_
            refine PO.runK 8 [0] [] (es := []) (fr' := [⟨0, [.val (.int .i64 a0.first), .val (.int .i64 a0.last), .val (.int .i64 a0.break_), .val (.int .i64 a0.natural), .val (.int .i64 a0.stretch), .val (.int .i64 a0.shrink), .val (.int .i64 a0.short), .val (.int .i64 0), .val (.int .i64 1), .val (.bool a0.over_), .val (.bool a0.hyphen), .val (.bool a0.end_), .val (.int .i64 a0.height), .val (.int .i64 a0.depth)]⟩]) (tk' := []) (by kernel_rfl) ?_
            refine PO.nil ?_
            obtain rfl := Option.some.inj e2
            exact PC.skip (blockJK.end ⟨0, 1, a0.over_, Weak.one [0] [] (by kernel_rfl), rfl⟩)
          · have e2 := bif_f h16 e2
            refine PC.assoc ?_
            refine PC.run (n := 7) rfl ?_
            refine PC.cond rfl (fun h17 => ?_) (fun h17 => ?_)
            · have e2 := bif_t h17 e2
              refine PC.assoc ?_
              refine PC.drawn (order := [0, 1, 2, 3, 4, 5, 6, 7, 8, 9, 10, 11]) (by kernel_rfl) ?_
              refine PO.run 10 rfl ?_
              refine bindDK e2 (fun h18 e2 => ?_)
              refine PO.same rfl (quo_ok rfl rfl h18) rfl ?_
              refine PO.run 1 rfl ?_
              refine PO.nil ?_
              refine PC.assoc ?_
              refine PC.region ?_
              refine PO.run 4 rfl ?_
              refine bindK e2 (fun r19 e20 e2 => ?_)
              refine PO.callv rfl rfl rfl rfl rfl (ks := []) (ts := []) (fr1 := []) rfl rfl rfl trivial (L106 k (w (Int.tdiv (w (100 * (w (0 - a0.short)))) a0.shrink)) _ e20) ?_
              rintro _ _ _ ⟨rfl, rfl, rfl⟩
              refine ⟨_, _, rfl, rfl, ?_⟩
              refine PO.runK 6 [0] [] (es := [(0, .ptr 0 0), (3, .val (.int .i64 (w (Int.tdiv (w (100 * (w (0 - a0.short)))) a0.shrink))))]) (fr' := [⟨0, [.val (.int .i64 a0.first), .val (.int .i64 a0.last), .val (.int .i64 a0.break_), .val (.int .i64 a0.natural), .val (.int .i64 a0.stretch), .val (.int .i64 a0.shrink), .val (.int .i64 a0.short), .val (.int .i64 r19), .val (.int .i64 1), .val (.bool a0.over_), .val (.bool a0.hyphen), .val (.bool a0.end_), .val (.int .i64 a0.height), .val (.int .i64 a0.depth)]⟩]) (tk' := []) (by kernel_rfl) ?_
              refine PO.nil ?_
              refine PC.assoc ?_
              refine PC.run (n := 3) rfl ?_
              refine PC.cond rfl (fun h21 => ?_) (fun h21 => ?_)
              · have e2 := bif_t h21 e2
                refine PC.region ?_
                refine PO.runK 4 [0] [] (es := []) (fr' := [⟨0, [.val (.int .i64 a0.first), .val (.int .i64 a0.last), .val (.int .i64 a0.break_), .val (.int .i64 a0.natural), .val (.int .i64 a0.stretch), .val (.int .i64 a0.shrink), .val (.int .i64 a0.short), .val (.int .i64 r19), .val (.int .i64 0), .val (.bool a0.over_), .val (.bool a0.hyphen), .val (.bool a0.end_), .val (.int .i64 a0.height), .val (.int .i64 a0.depth)]⟩]) (tk' := []) (by kernel_rfl) ?_
                refine PO.nil ?_
                obtain rfl := Option.some.inj e2
                exact PC.skip (blockJK.end ⟨r19, 0, a0.over_, Weak.one [0] [] (by kernel_rfl), rfl⟩)
              · have e2 := bif_f h21 e2
                refine PC.noop ?_
                obtain rfl := Option.some.inj e2
                exact PC.skip (blockJK.end ⟨r19, 1, a0.over_, Weak.one [0] [] (by kernel_rfl), rfl⟩)
            · have e2 := bif_f h17 e2
              refine PC.assoc ?_
              refine PC.run (n := 7) rfl ?_
              refine PC.cond rfl (fun h22 => ?_) (fun h22 => ?_)
              · have e2 := bif_t h22 e2
                refine PC.region ?_
                refine PO.runK 8 [0] [] (es := []) (fr' := [⟨0, [.val (.int .i64 a0.first), .val (.int .i64 a0.last), .val (.int .i64 a0.break_), .val (.int .i64 a0.natural), .val (.int .i64 a0.stretch), .val (.int .i64 a0.shrink), .val (.int .i64 a0.short), .val (.int .i64 10000), .val (.int .i64 3), .val (.bool a0.over_), .val (.bool a0.hyphen), .val (.bool a0.end_), .val (.int .i64 a0.height), .val (.int .i64 a0.depth)]⟩]) (tk' := []) (by kernel_rfl) ?_
                refine PO.nil ?_
                obtain rfl := Option.some.inj e2
                exact PC.skip (blockJK.end ⟨10000, 3, a0.over_, Weak.one [0] [] (by kernel_rfl), rfl⟩)
              · have e2 := bif_f h22 e2
                refine PC.assoc ?_
                refine PC.drawn (order := [0, 1, 2, 3, 4, 5, 6, 7, 8, 9, 10, 11]) (by kernel_rfl) ?_
                refine PO.run 9 rfl ?_
                refine bindDK e2 (fun h23 e2 => ?_)
                refine PO.same rfl (quo_ok rfl rfl h23) rfl ?_
                refine PO.run 2 rfl ?_
                refine PO.nil ?_
                refine PC.assoc ?_
                refine PC.region ?_
                refine PO.run 4 rfl ?_
                refine bindK e2 (fun r24 e25 e2 => ?_)
                refine PO.callv rfl rfl rfl rfl rfl (ks := []) (ts := []) (fr1 := []) rfl rfl rfl trivial (L106 k (if 1000 < w (Int.tdiv (w (100 * a0.short)) a0.stretch) then 1000 else w (Int.tdiv (w (100 * a0.short)) a0.stretch)) _ e25) ?_
                rintro _ _ _ ⟨rfl, rfl, rfl⟩
                refine ⟨_, _, rfl, rfl, ?_⟩
                refine PO.runK 6 [0] [] (es := [(0, .ptr 0 0), (4, .val (.int .i64 (if 1000 < w (Int.tdiv (w (100 * a0.short)) a0.stretch) then 1000 else w (Int.tdiv (w (100 * a0.short)) a0.stretch))))]) (fr' := [⟨0, [.val (.int .i64 a0.first), .val (.int .i64 a0.last), .val (.int .i64 a0.break_), .val (.int .i64 a0.natural), .val (.int .i64 a0.stretch), .val (.int .i64 a0.shrink), .val (.int .i64 a0.short), .val (.int .i64 r24), .val (.int .i64 3), .val (.bool a0.over_), .val (.bool a0.hyphen), .val (.bool a0.end_), .val (.int .i64 a0.height), .val (.int .i64 a0.depth)]⟩]) (tk' := []) (by kernel_rfl) ?_
                refine PO.nil ?_
                refine PC.assoc ?_
                refine PC.run (n := 3) rfl ?_
                refine PC.cond rfl (fun h26 => ?_) (fun h26 => ?_)
                · have e2 := bif_t h26 e2
                  refine PC.region ?_
                  refine PO.runK 4 [0] [] (es := []) (fr' := [⟨0, [.val (.int .i64 a0.first), .val (.int .i64 a0.last), .val (.int .i64 a0.break_), .val (.int .i64 a0.natural), .val (.int .i64 a0.stretch), .val (.int .i64 a0.shrink), .val (.int .i64 a0.short), .val (.int .i64 r24), .val (.int .i64 1), .val (.bool a0.over_), .val (.bool a0.hyphen), .val (.bool a0.end_), .val (.int .i64 a0.height), .val (.int .i64 a0.depth)]⟩]) (tk' := []) (by kernel_rfl) ?_
                  refine PO.nil ?_
                  obtain rfl := Option.some.inj e2
                  exact PC.skip (blockJK.end ⟨r24, 1, a0.over_, Weak.one [0] [] (by kernel_rfl), rfl⟩)
                · have e2 := bif_f h26 e2
                  refine PC.assoc ?_
                  refine PC.run (n := 3) rfl ?_
                  refine PC.cond rfl (fun h27 => ?_) (fun h27 => ?_)
                  · have e2 := bif_t h27 e2
                    refine PC.region ?_
                    refine PO.runK 4 [0] [] (es := []) (fr' := [⟨0, [.val (.int .i64 a0.first), .val (.int .i64 a0.last), .val (.int .i64 a0.break_), .val (.int .i64 a0.natural), .val (.int .i64 a0.stretch), .val (.int .i64 a0.shrink), .val (.int .i64 a0.short), .val (.int .i64 r24), .val (.int .i64 2), .val (.bool a0.over_), .val (.bool a0.hyphen), .val (.bool a0.end_), .val (.int .i64 a0.height), .val (.int .i64 a0.depth)]⟩]) (tk' := []) (by kernel_rfl) ?_
                    refine PO.nil ?_
                    obtain rfl := Option.some.inj e2
                    exact PC.skip (blockJK.end ⟨r24, 2, a0.over_, Weak.one [0] [] (by kernel_rfl), rfl⟩)
                  · have e2 := bif_f h27 e2
                    refine PC.noop ?_
                    obtain rfl := Option.some.inj e2
                    exact PC.skip (blockJK.end ⟨r24, 3, a0.over_, Weak.one [0] [] (by kernel_rfl), rfl⟩)
  · rintro _ ⟨v1, v2, v3, w28, rfl⟩
    refine PC.weak w28 ?_
    obtain rfl := Option.some.inj hF
    exact PC.skip (retSN [0] [] (by kernel_rfl) (.refl _) ⟨rfl, rfl, rfl⟩)

/-! 71 platen/line.measured -/
def F71_l1 (k : Nat) (a0 : List GItem) (a3 : Int) : Nat → Int → Option Int
  | 0, _ => none
  | j3 + 1, v3 =>
    Option.bind (α := Bool) (bif decide (v3 < a3) then (bindI a0 v3 fun y6 =>
    some (y6.kind != 1)) else (some false)) fun (v5 : Bool) =>
    bif v5 then (F71_l1 k a0 a3 j3 (w (v3 + 1))) else (some v3)
def F71_l2 (k : Nat) (a0 : List GItem) (v1 : Int) : Nat → Int → Option Int
  | 0, _ => none
  | j15 + 1, v9 =>
    Option.bind (α := Bool) (bif decide (v9 > v1) then (bindI a0 (w (v9 - 1)) fun y12 =>
    some (y12.kind != 1)) else (some false)) fun (v11 : Bool) =>
    bif v11 then (F71_l2 k a0 v1 j15 (w (v9 - 1))) else (some v9)
def F71_l3 (k : Nat) (l13 : List GItem) : Nat → Int → Int → Int → Int → Int → Int → Option (Int × Int × Int × Int × Int)
  | 0, _, _, _, _, _, _ => none
  | j30 + 1, v25, v26, v27, v28, v29, v30 =>
    bif decide (v25 < (l13.length : Int)) then (bindI l13 v25 fun y37 =>
    Option.bind (α := Int × Int × Int × Int × Int) (bif y37.kind == 1 then (some (w (v26 + y37.width), v27, v28, (if y37.height > v29 then y37.height else v29), (if y37.depth > v30 then y37.depth else v30))) else (bif y37.kind == 2 then (some (w (v26 + y37.width), v27, v28, v29, v30)) else (bif y37.kind == 3 then (some (w (v26 + y37.width), w (v27 + y37.stretch), w (v28 + y37.shrink), v29, v30)) else (some (v26, v27, v28, v29, v30))))) fun (v38, v39, v40, v41, v42) =>
    F71_l3 k l13 j30 (w (v25 + 1)) v38 v39 v40 v41 v42) else (some (v26, v27, v28, v29, v30))
def F71 (k : Nat) (a0 : List GItem) (a1 : Int) (a2 : Int) (a3 : Int) : Option GLine :=
Option.bind (α := Int) (F71_l1 k a0 a3 k (w (a2 + 1))) fun (v1 : Int) =>
Option.bind (α := Int) (F71_l2 k a0 v1 k a3) fun (v7 : Int) =>
bindS a0 v1 v7 fun l13 =>
Option.bind (α := Int × Int × Int × Int × Int) (F71_l3 k l13 k 0 0 0 0 0 0) fun (v14, v15, v16, v17, v18) =>
bindI a0 a3 fun y43 =>
Option.bind (α := Int × Bool × Bool × Int × Int) (bif y43.kind == 4 then ((F70 k y43).bind fun r47 =>
bif y43.flag then (some (w (v14 + y43.width), y43.flag, r47, (if y43.height > v17 then y43.height else v17), (if y43.depth > v18 then y43.depth else v18))) else (some (w (v14 + y43.width), y43.flag, r47, v17, v18))) else (some (v14, false, false, v17, v18))) fun (v44, v45, v46, v47, v48) =>
(F95 k (GLine.mk v1 v7 a3 v44 v15 v16 (w (a1 - v44)) 0 0 false v45 v46 v47 v48)).bind fun r51 =>
some r51
theorem L71 (k : Nat) (a0 : List GItem) (a1 : Int) (a2 : Int) (a3 : Int) (r : GLine) (hF : F71 k a0 a1 a2 a3 = some r) : PF Try.prog orc 71 [.list 13 (List.map cGItem a0) none, .val (.int .i64 a1), .val (.int .i64 a2), .val (.int .i64 a3)] [] [] (fun p fr tk => p = .agg (cGLine r) ∧ fr = [] ∧ tk = []) := by
  unfold F71 at hF
  refine PF.enterS Try.func71 rfl rfl rfl (by kernel_rfl) rfl ?_
  refine PC.region ?_
  refine PO.runK 1 [0] [] (es := [(0, .list 13 (List.map cGItem a0) none), (1, .val (.int .i64 a1)), (2, .val (.int .i64 a2)), (3, .val (.int .i64 a3)), (8, .ptr 0 0)]) (fr' := [⟨0, [.val (.int .i64 0), .val (.int .i64 0), .val (.int .i64 0), .val (.int .i64 0), .val (.int .i64 0), .val (.int .i64 0), .val (.int .i64 0), .val (.int .i64 0), .val (.int .i64 0), .val (.bool false), .val (.bool false), .val (.bool false), .val (.int .i64 0), .val (.int .i64 0)]⟩]) (tk' := []) (by kernel_rfl) ?_
  refine PO.nil ?_
  refine PC.region ?_
  refine PO.runK 7 [0, 1] [] (es := [(0, .list 13 (List.map cGItem a0) none), (1, .val (.int .i64 a1)), (3, .val (.int .i64 a3)), (8, .ptr 0 0), (9, .ptr 1 0)]) (fr' := [⟨0, [.val (.int .i64 0), .val (.int .i64 0), .val (.int .i64 0), .val (.int .i64 0), .val (.int .i64 0), .val (.int .i64 0), .val (.int .i64 0), .val (.int .i64 0), .val (.int .i64 0), .val (.bool false), .val (.bool false), .val (.bool false), .val (.int .i64 0), .val (.int .i64 0)]⟩, ⟨0, [.val (.int .i64 (w (a2 + 1))), .val (.int .i64 a3), .val (.int .i64 a3), .val (.int .i64 0), .val (.int .i64 0), .val (.int .i64 0), .val (.int .i64 0), .val (.int .i64 0), .val (.int .i64 0), .val (.bool false), .val (.bool false), .val (.bool false), .val (.int .i64 0), .val (.int .i64 0)]⟩]) (tk' := []) (by kernel_rfl) ?_
  refine PO.nil ?_
  refine bindK hF (fun x1 e2 hF => ?_)
  refine PC.blockJ (fun s => ∃ (v1 : Int), Weak s (PS.of 156 [(0, .list 13 (List.map cGItem a0) none), (1, .val (.int .i64 a1)), (3, .val (.int .i64 a3)), (8, .ptr 0 0), (9, .ptr 1 0)] [⟨0, [.val (.int .i64 0), .val (.int .i64 0), .val (.int .i64 0), .val (.int .i64 0), .val (.int .i64 0), .val (.int .i64 0), .val (.int .i64 0), .val (.int .i64 0), .val (.int .i64 0), .val (.bool false), .val (.bool false), .val (.bool false), .val (.int .i64 0), .val (.int .i64 0)]⟩, ⟨0, [.val (.int .i64 v1), .val (.int .i64 a3), .val (.int .i64 a3), .val (.int .i64 0), .val (.int .i64 0), .val (.int .i64 0), .val (.int .i64 0), .val (.int .i64 0), .val (.int .i64 0), .val (.bool false), .val (.bool false), .val (.bool false), .val (.int .i64 0), .val (.int .i64 0)]⟩] [] 0 0) ∧ v1 = x1) ?_ ?_
  · refine PC.loop (fun j3 s => ∃ (v3 : Int), Weak s (PS.of 156 [(0, .list 13 (List.map cGItem a0) none), (1, .val (.int .i64 a1)), (3, .val (.int .i64 a3)), (8, .ptr 0 0), (9, .ptr 1 0)] [⟨0, [.val (.int .i64 0), .val (.int .i64 0), .val (.int .i64 0), .val (.int .i64 0), .val (.int .i64 0), .val (.int .i64 0), .val (.int .i64 0), .val (.int .i64 0), .val (.int .i64 0), .val (.bool false), .val (.bool false), .val (.bool false), .val (.int .i64 0), .val (.int .i64 0)]⟩, ⟨0, [.val (.int .i64 v3), .val (.int .i64 a3), .val (.int .i64 a3), .val (.int .i64 0), .val (.int .i64 0), .val (.int .i64 0), .val (.int .i64 0), .val (.int .i64 0), .val (.int .i64 0), .val (.bool false), .val (.bool false), .val (.bool false), .val (.int .i64 0), .val (.int .i64 0)]⟩] [] 0 0) ∧ F71_l1 k a0 a3 j3 v3 = some x1) (fun j3 s => ?_) k ⟨w (a2 + 1), Weak.one [0, 1] [] (by kernel_rfl), e2⟩
    rintro ⟨v3, w4, e2⟩
    refine PC.weak w4 ?_
    cases j3 with
    | zero => rw [F71_l1] at e2; cases e2
    | succ j3 =>
      rw [F71_l1] at e2
      refine PC.assoc ?_
      refine PC.region ?_
      refine PO.run 5 rfl ?_
      refine bindK e2 (fun x5 e6 e2 => ?_)
      refine PO.cut 8 (fun s => ∃ (v5 : Bool), Weak s (PS.of 156 [(0, .list 13 (List.map cGItem a0) none), (1, .val (.int .i64 a1)), (3, .val (.int .i64 a3)), (8, .ptr 0 0), (9, .ptr 1 0), (30, .val (.bool v5))] [⟨0, [.val (.int .i64 0), .val (.int .i64 0), .val (.int .i64 0), .val (.int .i64 0), .val (.int .i64 0), .val (.int .i64 0), .val (.int .i64 0), .val (.int .i64 0), .val (.int .i64 0), .val (.bool false), .val (.bool false), .val (.bool false), .val (.int .i64 0), .val (.int .i64 0)]⟩, ⟨0, [.val (.int .i64 v3), .val (.int .i64 a3), .val (.int .i64 a3), .val (.int .i64 0), .val (.int .i64 0), .val (.int .i64 0), .val (.int .i64 0), .val (.int .i64 0), .val (.int .i64 0), .val (.bool false), .val (.bool false), .val (.bool false), .val (.int .i64 0), .val (.int .i64 0)]⟩] [] 0 0) ∧ v5 = x5) ?_ ?_
      · refine PO.case (t := 22) rfl rfl (fun h7 => ?_) (fun h7 => ?_)
        · have e6 := bif_t h7 e6
          refine PO.run 3 rfl ?_
          refine bindIK e6 (fun y6 h8 h9 e6 => ?_)
          refine PO.same rfl (indexAddr_ok Try.underlying42 rfl rfl rfl h8 (map_at h9)) rfl ?_
          refine PO.run 3 rfl ?_
          refine PO.same rfl (pickT_ok rfl rfl rfl) rfl ?_
          refine PO.nil ?_
          obtain rfl := Option.some.inj e6
          exact ⟨y6.kind != 1, Weak.one [0, 1] [] (by kernel_rfl), rfl⟩
        · have e6 := bif_f h7 e6
          refine PO.run 7 rfl ?_
          refine PO.same rfl (pickF_ok rfl rfl rfl) rfl ?_
          refine PO.nil ?_
          obtain rfl := Option.some.inj e6
          exact ⟨false, Weak.one [0, 1] [] (by kernel_rfl), rfl⟩
      · rintro _ ⟨v5, w10, rfl⟩
        refine PO.weak w10 ?_
        refine PO.nil ?_
        refine PC.cond rfl (fun h11 => ?_) (fun h11 => ?_)
        · have e2 := bif_t h11 e2
          refine PC.noop ?_
          refine PC.lone ?_
          refine PC.block ?_
          refine PC.lone ?_
          refine PC.region ?_
          refine PO.runK 5 [0, 1] [] (es := [(0, .list 13 (List.map cGItem a0) none), (1, .val (.int .i64 a1)), (3, .val (.int .i64 a3)), (8, .ptr 0 0), (9, .ptr 1 0)]) (fr' := [⟨0, [.val (.int .i64 0), .val (.int .i64 0), .val (.int .i64 0), .val (.int .i64 0), .val (.int .i64 0), .val (.int .i64 0), .val (.int .i64 0), .val (.int .i64 0), .val (.int .i64 0), .val (.bool false), .val (.bool false), .val (.bool false), .val (.int .i64 0), .val (.int .i64 0)]⟩, ⟨0, [.val (.int .i64 (w (v3 + 1))), .val (.int .i64 a3), .val (.int .i64 a3), .val (.int .i64 0), .val (.int .i64 0), .val (.int .i64 0), .val (.int .i64 0), .val (.int .i64 0), .val (.int .i64 0), .val (.bool false), .val (.bool false), .val (.bool false), .val (.int .i64 0), .val (.int .i64 0)]⟩]) (tk' := []) (by kernel_rfl) ?_
          refine PO.nil ?_
          refine PC.skip (blockKP.end ?_)
          exact PC.skip (loopKP.mk (Nat.lt_succ_self _) ⟨w (v3 + 1), Weak.one [0, 1] [] (by kernel_rfl), e2⟩)
        · have e2 := bif_f h11 e2
          obtain rfl := Option.some.inj e2
          exact PC.exit (loopKP.exit (blockJK.here ⟨v3, Weak.one [0, 1] [] (by kernel_rfl), rfl⟩))
  · rintro _ ⟨v1, w12, rfl⟩
    refine PC.weak w12 ?_
    refine bindK hF (fun x13 e14 hF => ?_)
    refine PC.blockJ (fun s => ∃ (v7 : Int), Weak s (PS.of 156 [(0, .list 13 (List.map cGItem a0) none), (1, .val (.int .i64 a1)), (3, .val (.int .i64 a3)), (8, .ptr 0 0), (9, .ptr 1 0)] [⟨0, [.val (.int .i64 0), .val (.int .i64 0), .val (.int .i64 0), .val (.int .i64 0), .val (.int .i64 0), .val (.int .i64 0), .val (.int .i64 0), .val (.int .i64 0), .val (.int .i64 0), .val (.bool false), .val (.bool false), .val (.bool false), .val (.int .i64 0), .val (.int .i64 0)]⟩, ⟨0, [.val (.int .i64 v1), .val (.int .i64 v7), .val (.int .i64 a3), .val (.int .i64 0), .val (.int .i64 0), .val (.int .i64 0), .val (.int .i64 0), .val (.int .i64 0), .val (.int .i64 0), .val (.bool false), .val (.bool false), .val (.bool false), .val (.int .i64 0), .val (.int .i64 0)]⟩] [] 0 0) ∧ v7 = x13) ?_ ?_
    · refine PC.loop (fun j15 s => ∃ (v9 : Int), Weak s (PS.of 156 [(0, .list 13 (List.map cGItem a0) none), (1, .val (.int .i64 a1)), (3, .val (.int .i64 a3)), (8, .ptr 0 0), (9, .ptr 1 0)] [⟨0, [.val (.int .i64 0), .val (.int .i64 0), .val (.int .i64 0), .val (.int .i64 0), .val (.int .i64 0), .val (.int .i64 0), .val (.int .i64 0), .val (.int .i64 0), .val (.int .i64 0), .val (.bool false), .val (.bool false), .val (.bool false), .val (.int .i64 0), .val (.int .i64 0)]⟩, ⟨0, [.val (.int .i64 v1), .val (.int .i64 v9), .val (.int .i64 a3), .val (.int .i64 0), .val (.int .i64 0), .val (.int .i64 0), .val (.int .i64 0), .val (.int .i64 0), .val (.int .i64 0), .val (.bool false), .val (.bool false), .val (.bool false), .val (.int .i64 0), .val (.int .i64 0)]⟩] [] 0 0) ∧ F71_l2 k a0 v1 j15 v9 = some x13) (fun j15 s => ?_) k ⟨a3, Weak.one [0, 1] [] (by kernel_rfl), e14⟩
      rintro ⟨v9, w16, e14⟩
      refine PC.weak w16 ?_
      cases j15 with
      | zero => rw [F71_l2] at e14; cases e14
      | succ j15 =>
        rw [F71_l2] at e14
        refine PC.assoc ?_
        refine PC.region ?_
        refine PO.run 6 rfl ?_
        refine bindK e14 (fun x17 e18 e14 => ?_)
        refine PO.cut 9 (fun s => ∃ (v11 : Bool), Weak s (PS.of 156 [(0, .list 13 (List.map cGItem a0) none), (1, .val (.int .i64 a1)), (3, .val (.int .i64 a3)), (8, .ptr 0 0), (9, .ptr 1 0), (49, .val (.bool v11))] [⟨0, [.val (.int .i64 0), .val (.int .i64 0), .val (.int .i64 0), .val (.int .i64 0), .val (.int .i64 0), .val (.int .i64 0), .val (.int .i64 0), .val (.int .i64 0), .val (.int .i64 0), .val (.bool false), .val (.bool false), .val (.bool false), .val (.int .i64 0), .val (.int .i64 0)]⟩, ⟨0, [.val (.int .i64 v1), .val (.int .i64 v9), .val (.int .i64 a3), .val (.int .i64 0), .val (.int .i64 0), .val (.int .i64 0), .val (.int .i64 0), .val (.int .i64 0), .val (.int .i64 0), .val (.bool false), .val (.bool false), .val (.bool false), .val (.int .i64 0), .val (.int .i64 0)]⟩] [] 0 0) ∧ v11 = x17) ?_ ?_
        · refine PO.case (t := 40) rfl rfl (fun h19 => ?_) (fun h19 => ?_)
          · have e18 := bif_t h19 e18
            refine PO.run 4 rfl ?_
            refine bindIK e18 (fun y12 h20 h21 e18 => ?_)
            refine PO.same rfl (indexAddr_ok Try.underlying42 rfl rfl rfl h20 (map_at h21)) rfl ?_
            refine PO.run 3 rfl ?_
            refine PO.same rfl (pickT_ok rfl rfl rfl) rfl ?_
            refine PO.nil ?_
            obtain rfl := Option.some.inj e18
            exact ⟨y12.kind != 1, Weak.one [0, 1] [] (by kernel_rfl), rfl⟩
          · have e18 := bif_f h19 e18
            refine PO.run 8 rfl ?_
            refine PO.same rfl (pickF_ok rfl rfl rfl) rfl ?_
            refine PO.nil ?_
            obtain rfl := Option.some.inj e18
            exact ⟨false, Weak.one [0, 1] [] (by kernel_rfl), rfl⟩
        · rintro _ ⟨v11, w22, rfl⟩
          refine PO.weak w22 ?_
          refine PO.nil ?_
          refine PC.cond rfl (fun h23 => ?_) (fun h23 => ?_)
          · have e14 := bif_t h23 e14
            refine PC.noop ?_
            refine PC.lone ?_
            refine PC.block ?_
            refine PC.lone ?_
            refine PC.region ?_
            refine PO.runK 5 [0, 1] [] (es := [(0, .list 13 (List.map cGItem a0) none), (1, .val (.int .i64 a1)), (3, .val (.int .i64 a3)), (8, .ptr 0 0), (9, .ptr 1 0)]) (fr' := [⟨0, [.val (.int .i64 0), .val (.int .i64 0), .val (.int .i64 0), .val (.int .i64 0), .val (.int .i64 0), .val (.int .i64 0), .val (.int .i64 0), .val (.int .i64 0), .val (.int .i64 0), .val (.bool false), .val (.bool false), .val (.bool false), .val (.int .i64 0), .val (.int .i64 0)]⟩, ⟨0, [.val (.int .i64 v1), .val (.int .i64 (w (v9 - 1))), .val (.int .i64 a3), .val (.int .i64 0), .val (.int .i64 0), .val (.int .i64 0), .val (.int .i64 0), .val (.int .i64 0), .val (.int .i64 0), .val (.bool false), .val (.bool false), .val (.bool false), .val (.int .i64 0), .val (.int .i64 0)]⟩]) (tk' := []) (by kernel_rfl) ?_
            refine PO.nil ?_
            refine PC.skip (blockKP.end ?_)
            exact PC.skip (loopKP.mk (Nat.lt_succ_self _) ⟨w (v9 - 1), Weak.one [0, 1] [] (by kernel_rfl), e14⟩)
          · have e14 := bif_f h23 e14
            obtain rfl := Option.some.inj e14
            exact PC.exit (loopKP.exit (blockJK.here ⟨v9, Weak.one [0, 1] [] (by kernel_rfl), rfl⟩))
    · rintro _ ⟨v7, w24, rfl⟩
      refine PC.weak w24 ?_
      refine PC.assoc ?_
      refine PC.region ?_
      refine PO.run 5 rfl ?_
      refine bindSK hF (fun h25 h26 h27 hF => ?_)
      generalize hgl13 : (List.take (Int.toNat v7) a0).drop (Int.toNat v1) = l13 at hF
      refine PO.same rfl (slice_ok (l2 := List.map cGItem l13) Try.underlying42 rfl rfl (.some rfl h25 rfl) (.some rfl (Int.le_trans h25 h26) rfl) (Int.toNat_le_toNat h26) (toNat_le1 h27) (by rw [← hgl13, List.map_drop, List.map_take] <;> first | rfl | simp [w])) rfl ?_
      refine PO.same rfl (len_ok Try.underlying42 rfl (List.length_map _)) rfl ?_
      refine PO.run 1 rfl ?_
      refine PO.nil ?_
      refine bindK hF (fun x28 e29 hF => ?_)
      refine PC.blockJ (fun s => ∃ (v14 : Int) (v15 : Int) (v16 : Int) (v17 : Int) (v18 : Int), Weak s (PS.of 156 [(0, .list 13 (List.map cGItem a0) none), (1, .val (.int .i64 a1)), (3, .val (.int .i64 a3)), (8, .ptr 0 0), (9, .ptr 1 0)] [⟨0, [.val (.int .i64 0), .val (.int .i64 0), .val (.int .i64 0), .val (.int .i64 0), .val (.int .i64 0), .val (.int .i64 0), .val (.int .i64 0), .val (.int .i64 0), .val (.int .i64 0), .val (.bool false), .val (.bool false), .val (.bool false), .val (.int .i64 0), .val (.int .i64 0)]⟩, ⟨0, [.val (.int .i64 v1), .val (.int .i64 v7), .val (.int .i64 a3), .val (.int .i64 v14), .val (.int .i64 v15), .val (.int .i64 v16), .val (.int .i64 0), .val (.int .i64 0), .val (.int .i64 0), .val (.bool false), .val (.bool false), .val (.bool false), .val (.int .i64 v17), .val (.int .i64 v18)]⟩] [] 0 0) ∧ (v14, v15, v16, v17, v18) = x28) ?_ ?_
      · refine PC.loop (fun j30 s => ∃ (v25 : Int) (v26 : Int) (v27 : Int) (v28 : Int) (v29 : Int) (v30 : Int), Weak s (PS.of 156 [(0, .list 13 (List.map cGItem a0) none), (1, .val (.int .i64 a1)), (3, .val (.int .i64 a3)), (8, .ptr 0 0), (9, .ptr 1 0), (59, .list 13 (List.map cGItem l13) none), (60, .val (.int .i64 (l13.length : Int))), (61, .val (.int .i64 v25))] [⟨0, [.val (.int .i64 0), .val (.int .i64 0), .val (.int .i64 0), .val (.int .i64 0), .val (.int .i64 0), .val (.int .i64 0), .val (.int .i64 0), .val (.int .i64 0), .val (.int .i64 0), .val (.bool false), .val (.bool false), .val (.bool false), .val (.int .i64 0), .val (.int .i64 0)]⟩, ⟨0, [.val (.int .i64 v1), .val (.int .i64 v7), .val (.int .i64 a3), .val (.int .i64 v26), .val (.int .i64 v27), .val (.int .i64 v28), .val (.int .i64 0), .val (.int .i64 0), .val (.int .i64 0), .val (.bool false), .val (.bool false), .val (.bool false), .val (.int .i64 v29), .val (.int .i64 v30)]⟩] [] 0 0) ∧ F71_l3 k l13 j30 v25 v26 v27 v28 v29 v30 = some x28) (fun j30 s => ?_) k ⟨0, 0, 0, 0, 0, 0, Weak.one [0, 1] [] (by kernel_rfl), e29⟩
        rintro ⟨v25, v26, v27, v28, v29, v30, w31, e29⟩
        refine PC.weak w31 ?_
        cases j30 with
        | zero => rw [F71_l3] at e29; cases e29
        | succ j30 =>
          rw [F71_l3] at e29
          refine PC.run (n := 2) rfl ?_
          refine PC.cond rfl (fun h32 => ?_) (fun h32 => ?_)
          · have e29 := bif_t h32 e29
            refine PC.noop ?_
            refine PC.block ?_
            refine PC.region ?_
            refine bindIK e29 (fun y37 h33 h34 e29 => ?_)
            refine PO.same rfl (indexAddr_ok Try.underlying42 rfl rfl rfl h33 (map_at h34)) rfl ?_
            refine PO.runK 3 [0, 1, 2] [] (es := [(0, .list 13 (List.map cGItem a0) none), (1, .val (.int .i64 a1)), (3, .val (.int .i64 a3)), (8, .ptr 0 0), (9, .ptr 1 0), (11, .ptr 2 0), (59, .list 13 (List.map cGItem l13) none), (60, .val (.int .i64 (l13.length : Int))), (61, .val (.int .i64 v25))]) (fr' := [⟨0, [.val (.int .i64 0), .val (.int .i64 0), .val (.int .i64 0), .val (.int .i64 0), .val (.int .i64 0), .val (.int .i64 0), .val (.int .i64 0), .val (.int .i64 0), .val (.int .i64 0), .val (.bool false), .val (.bool false), .val (.bool false), .val (.int .i64 0), .val (.int .i64 0)]⟩, ⟨0, [.val (.int .i64 v1), .val (.int .i64 v7), .val (.int .i64 a3), .val (.int .i64 v26), .val (.int .i64 v27), .val (.int .i64 v28), .val (.int .i64 0), .val (.int .i64 0), .val (.int .i64 0), .val (.bool false), .val (.bool false), .val (.bool false), .val (.int .i64 v29), .val (.int .i64 v30)]⟩, ⟨0, (cGItem y37)⟩]) (tk' := []) (by kernel_rfl) ?_
            refine PO.nil ?_
            refine PC.run (n := 3) rfl ?_
            refine PC.lone ?_
            refine bindK e29 (fun x35 e36 e29 => ?_)
            refine PC.blockJ (fun s => ∃ (v38 : Int) (v39 : Int) (v40 : Int) (v41 : Int) (v42 : Int), Weak s (PS.of 156 [(0, .list 13 (List.map cGItem a0) none), (1, .val (.int .i64 a1)), (3, .val (.int .i64 a3)), (8, .ptr 0 0), (9, .ptr 1 0), (59, .list 13 (List.map cGItem l13) none), (60, .val (.int .i64 (l13.length : Int))), (61, .val (.int .i64 v25))] [⟨0, [.val (.int .i64 0), .val (.int .i64 0), .val (.int .i64 0), .val (.int .i64 0), .val (.int .i64 0), .val (.int .i64 0), .val (.int .i64 0), .val (.int .i64 0), .val (.int .i64 0), .val (.bool false), .val (.bool false), .val (.bool false), .val (.int .i64 0), .val (.int .i64 0)]⟩, ⟨0, [.val (.int .i64 v1), .val (.int .i64 v7), .val (.int .i64 a3), .val (.int .i64 v38), .val (.int .i64 v39), .val (.int .i64 v40), .val (.int .i64 0), .val (.int .i64 0), .val (.int .i64 0), .val (.bool false), .val (.bool false), .val (.bool false), .val (.int .i64 v41), .val (.int .i64 v42)]⟩] [] 0 0) ∧ (v38, v39, v40, v41, v42) = x35) ?_ ?_
            · refine PC.run (n := 3) rfl ?_
              refine PC.lone ?_
              refine PC.cond rfl (fun h37 => ?_) (fun h37 => ?_)
              · have e36 := bif_t h37 e36
                refine PC.assoc ?_
                refine PC.region ?_
                refine PO.runK 7 [0, 1, 2] [] (es := [(0, .list 13 (List.map cGItem a0) none), (1, .val (.int .i64 a1)), (3, .val (.int .i64 a3)), (8, .ptr 0 0), (9, .ptr 1 0), (11, .ptr 2 0), (59, .list 13 (List.map cGItem l13) none), (60, .val (.int .i64 (l13.length : Int))), (61, .val (.int .i64 v25))]) (fr' := [⟨0, [.val (.int .i64 0), .val (.int .i64 0), .val (.int .i64 0), .val (.int .i64 0), .val (.int .i64 0), .val (.int .i64 0), .val (.int .i64 0), .val (.int .i64 0), .val (.int .i64 0), .val (.bool false), .val (.bool false), .val (.bool false), .val (.int .i64 0), .val (.int .i64 0)]⟩, ⟨0, [.val (.int .i64 v1), .val (.int .i64 v7), .val (.int .i64 a3), .val (.int .i64 (w (v26 + y37.width))), .val (.int .i64 v27), .val (.int .i64 v28), .val (.int .i64 0), .val (.int .i64 0), .val (.int .i64 0), .val (.bool false), .val (.bool false), .val (.bool false), .val (.int .i64 v29), .val (.int .i64 v30)]⟩, ⟨0, (cGItem y37)⟩]) (tk' := []) (by kernel_rfl) ?_
                refine PO.nil ?_
                refine PC.draw [0, 1, 2, 3, 4, 5, 6, 10, 11, 7, 8, 9, 12, 13] (by kernel_rfl) ?_
                refine PD.runK 14 (js' := []) (σ' := ⟨16383, 16383, 8191, [(13, [1], false), (11, [1, 1], false)]⟩) (es := [(0, .list 13 (List.map cGItem a0) none), (1, .val (.int .i64 a1)), (3, .val (.int .i64 a3)), (8, .ptr 0 0), (9, .ptr 1 0), (59, .list 13 (List.map cGItem l13) none), (60, .val (.int .i64 (l13.length : Int))), (61, .val (.int .i64 v25))]) (fr' := [⟨0, [.val (.int .i64 0), .val (.int .i64 0), .val (.int .i64 0), .val (.int .i64 0), .val (.int .i64 0), .val (.int .i64 0), .val (.int .i64 0), .val (.int .i64 0), .val (.int .i64 0), .val (.bool false), .val (.bool false), .val (.bool false), .val (.int .i64 0), .val (.int .i64 0)]⟩, ⟨0, [.val (.int .i64 v1), .val (.int .i64 v7), .val (.int .i64 a3), .val (.int .i64 (w (v26 + y37.width))), .val (.int .i64 v27), .val (.int .i64 v28), .val (.int .i64 0), .val (.int .i64 0), .val (.int .i64 0), .val (.bool false), .val (.bool false), .val (.bool false), .val (.int .i64 (if y37.height > v29 then y37.height else v29)), .val (.int .i64 (if y37.depth > v30 then y37.depth else v30))]⟩, ⟨0, (cGItem y37)⟩]) (tk' := []) (by kernel_rfl) ?_
                refine PD.done [0, 1] [] (es := [(0, .list 13 (List.map cGItem a0) none), (1, .val (.int .i64 a1)), (3, .val (.int .i64 a3)), (8, .ptr 0 0), (9, .ptr 1 0), (59, .list 13 (List.map cGItem l13) none), (60, .val (.int .i64 (l13.length : Int))), (61, .val (.int .i64 v25))]) (fr' := [⟨0, [.val (.int .i64 0), .val (.int .i64 0), .val (.int .i64 0), .val (.int .i64 0), .val (.int .i64 0), .val (.int .i64 0), .val (.int .i64 0), .val (.int .i64 0), .val (.int .i64 0), .val (.bool false), .val (.bool false), .val (.bool false), .val (.int .i64 0), .val (.int .i64 0)]⟩, ⟨0, [.val (.int .i64 v1), .val (.int .i64 v7), .val (.int .i64 a3), .val (.int .i64 (w (v26 + y37.width))), .val (.int .i64 v27), .val (.int .i64 v28), .val (.int .i64 0), .val (.int .i64 0), .val (.int .i64 0), .val (.bool false), .val (.bool false), .val (.bool false), .val (.int .i64 (if y37.height > v29 then y37.height else v29)), .val (.int .i64 (if y37.depth > v30 then y37.depth else v30))]⟩]) (tk' := []) (by kernel_rfl) (by kernel_rfl) ?_
                obtain rfl := Option.some.inj e36
                exact PC.skip (blockJK.end ⟨w (v26 + y37.width), v27, v28, (if y37.height > v29 then y37.height else v29), (if y37.depth > v30 then y37.depth else v30), Weak.one [0, 1] [] (by kernel_rfl), rfl⟩)
              · have e36 := bif_f h37 e36
                refine PC.assoc ?_
                refine PC.run (n := 3) rfl ?_
                refine PC.cond rfl (fun h38 => ?_) (fun h38 => ?_)
                · have e36 := bif_t h38 e36
                  refine PC.region ?_
                  refine PO.runK 7 [0, 1] [] (es := [(0, .list 13 (List.map cGItem a0) none), (1, .val (.int .i64 a1)), (3, .val (.int .i64 a3)), (8, .ptr 0 0), (9, .ptr 1 0), (59, .list 13 (List.map cGItem l13) none), (60, .val (.int .i64 (l13.length : Int))), (61, .val (.int .i64 v25))]) (fr' := [⟨0, [.val (.int .i64 0), .val (.int .i64 0), .val (.int .i64 0), .val (.int .i64 0), .val (.int .i64 0), .val (.int .i64 0), .val (.int .i64 0), .val (.int .i64 0), .val (.int .i64 0), .val (.bool false), .val (.bool false), .val (.bool false), .val (.int .i64 0), .val (.int .i64 0)]⟩, ⟨0, [.val (.int .i64 v1), .val (.int .i64 v7), .val (.int .i64 a3), .val (.int .i64 (w (v26 + y37.width))), .val (.int .i64 v27), .val (.int .i64 v28), .val (.int .i64 0), .val (.int .i64 0), .val (.int .i64 0), .val (.bool false), .val (.bool false), .val (.bool false), .val (.int .i64 v29), .val (.int .i64 v30)]⟩]) (tk' := []) (by kernel_rfl) ?_
                  refine PO.nil ?_
                  obtain rfl := Option.some.inj e36
                  exact PC.skip (blockJK.end ⟨w (v26 + y37.width), v27, v28, v29, v30, Weak.one [0, 1] [] (by kernel_rfl), rfl⟩)
                · have e36 := bif_f h38 e36
                  refine PC.assoc ?_
                  refine PC.run (n := 3) rfl ?_
                  refine PC.cond rfl (fun h39 => ?_) (fun h39 => ?_)
                  · have e36 := bif_t h39 e36
                    refine PC.assoc ?_
                    refine PC.region ?_
                    refine PO.runK 7 [0, 1, 2] [] (es := [(0, .list 13 (List.map cGItem a0) none), (1, .val (.int .i64 a1)), (3, .val (.int .i64 a3)), (8, .ptr 0 0), (9, .ptr 1 0), (11, .ptr 2 0), (59, .list 13 (List.map cGItem l13) none), (60, .val (.int .i64 (l13.length : Int))), (61, .val (.int .i64 v25))]) (fr' := [⟨0, [.val (.int .i64 0), .val (.int .i64 0), .val (.int .i64 0), .val (.int .i64 0), .val (.int .i64 0), .val (.int .i64 0), .val (.int .i64 0), .val (.int .i64 0), .val (.int .i64 0), .val (.bool false), .val (.bool false), .val (.bool false), .val (.int .i64 0), .val (.int .i64 0)]⟩, ⟨0, [.val (.int .i64 v1), .val (.int .i64 v7), .val (.int .i64 a3), .val (.int .i64 (w (v26 + y37.width))), .val (.int .i64 v27), .val (.int .i64 v28), .val (.int .i64 0), .val (.int .i64 0), .val (.int .i64 0), .val (.bool false), .val (.bool false), .val (.bool false), .val (.int .i64 v29), .val (.int .i64 v30)]⟩, ⟨0, (cGItem y37)⟩]) (tk' := []) (by kernel_rfl) ?_
                    refine PO.nil ?_
                    refine PC.assoc ?_
                    refine PC.region ?_
                    refine PO.runK 7 [0, 1, 2] [] (es := [(0, .list 13 (List.map cGItem a0) none), (1, .val (.int .i64 a1)), (3, .val (.int .i64 a3)), (8, .ptr 0 0), (9, .ptr 1 0), (11, .ptr 2 0), (59, .list 13 (List.map cGItem l13) none), (60, .val (.int .i64 (l13.length : Int))), (61, .val (.int .i64 v25))]) (fr' := [⟨0, [.val (.int .i64 0), .val (.int .i64 0), .val (.int .i64 0), .val (.int .i64 0), .val (.int .i64 0), .val (.int .i64 0), .val (.int .i64 0), .val (.int .i64 0), .val (.int .i64 0), .val (.bool false), .val (.bool false), .val (.bool false), .val (.int .i64 0), .val (.int .i64 0)]⟩, ⟨0, [.val (.int .i64 v1), .val (.int .i64 v7), .val (.int .i64 a3), .val (.int .i64 (w (v26 + y37.width))), .val (.int .i64 (w (v27 + y37.stretch))), .val (.int .i64 v28), .val (.int .i64 0), .val (.int .i64 0), .val (.int .i64 0), .val (.bool false), .val (.bool false), .val (.bool false), .val (.int .i64 v29), .val (.int .i64 v30)]⟩, ⟨0, (cGItem y37)⟩]) (tk' := []) (by kernel_rfl) ?_
                    refine PO.nil ?_
                    refine PC.region ?_
                    refine PO.runK 7 [0, 1] [] (es := [(0, .list 13 (List.map cGItem a0) none), (1, .val (.int .i64 a1)), (3, .val (.int .i64 a3)), (8, .ptr 0 0), (9, .ptr 1 0), (59, .list 13 (List.map cGItem l13) none), (60, .val (.int .i64 (l13.length : Int))), (61, .val (.int .i64 v25))]) (fr' := [⟨0, [.val (.int .i64 0), .val (.int .i64 0), .val (.int .i64 0), .val (.int .i64 0), .val (.int .i64 0), .val (.int .i64 0), .val (.int .i64 0), .val (.int .i64 0), .val (.int .i64 0), .val (.bool false), .val (.bool false), .val (.bool false), .val (.int .i64 0), .val (.int .i64 0)]⟩, ⟨0, [.val (.int .i64 v1), .val (.int .i64 v7), .val (.int .i64 a3), .val (.int .i64 (w (v26 + y37.width))), .val (.int .i64 (w (v27 + y37.stretch))), .val (.int .i64 (w (v28 + y37.shrink))), .val (.int .i64 0), .val (.int .i64 0), .val (.int .i64 0), .val (.bool false), .val (.bool false), .val (.bool false), .val (.int .i64 v29), .val (.int .i64 v30)]⟩]) (tk' := []) (by kernel_rfl) ?_
                    refine PO.nil ?_
                    obtain rfl := Option.some.inj e36
                    exact PC.skip (blockJK.end ⟨w (v26 + y37.width), w (v27 + y37.stretch), w (v28 + y37.shrink), v29, v30, Weak.one [0, 1] [] (by kernel_rfl), rfl⟩)
                  · have e36 := bif_f h39 e36
                    refine PC.noop ?_
                    obtain rfl := Option.some.inj e36
                    exact PC.skip (blockJK.end ⟨v26, v27, v28, v29, v30, Weak.one [0, 1] [] (by kernel_rfl), rfl⟩)
            · rintro _ ⟨v38, v39, v40, v41, v42, w40, rfl⟩
              refine PC.weak w40 ?_
              refine PC.skip (blockKP.end ?_)
              refine PC.lone ?_
              refine PC.run (n := 3) rfl ?_
              exact PC.skip (loopKP.mk (Nat.lt_succ_self _) ⟨w (v25 + 1), v38, v39, v40, v41, v42, Weak.one [0, 1] [] (by kernel_rfl), e29⟩)
          · have e29 := bif_f h32 e29
            obtain rfl := Option.some.inj e29
            exact PC.exit (loopKP.exit (blockJK.here ⟨v26, v27, v28, v29, v30, Weak.one [0, 1] [] (by kernel_rfl), rfl⟩))
      · rintro _ ⟨v14, v15, v16, v17, v18, w41, rfl⟩
        refine PC.weak w41 ?_
        refine PC.assoc ?_
        refine PC.region ?_
        refine PO.run 2 rfl ?_
        refine bindIK hF (fun y43 h42 h43 hF => ?_)
        refine PO.same rfl (indexAddr_ok Try.underlying42 rfl rfl rfl h42 (map_at h43)) rfl ?_
        refine PO.runK 3 [0, 1, 2] [] (es := [(1, .val (.int .i64 a1)), (8, .ptr 0 0), (9, .ptr 1 0), (12, .ptr 2 0)]) (fr' := [⟨0, [.val (.int .i64 0), .val (.int .i64 0), .val (.int .i64 0), .val (.int .i64 0), .val (.int .i64 0), .val (.int .i64 0), .val (.int .i64 0), .val (.int .i64 0), .val (.int .i64 0), .val (.bool false), .val (.bool false), .val (.bool false), .val (.int .i64 0), .val (.int .i64 0)]⟩, ⟨0, [.val (.int .i64 v1), .val (.int .i64 v7), .val (.int .i64 a3), .val (.int .i64 v14), .val (.int .i64 v15), .val (.int .i64 v16), .val (.int .i64 0), .val (.int .i64 0), .val (.int .i64 0), .val (.bool false), .val (.bool false), .val (.bool false), .val (.int .i64 v17), .val (.int .i64 v18)]⟩, ⟨0, (cGItem y43)⟩]) (tk' := []) (by kernel_rfl) ?_
        refine PO.nil ?_
        refine PC.assoc ?_
        refine PC.run (n := 4) rfl ?_
        refine bindK hF (fun x44 e45 hF => ?_)
        refine PC.join (fun s => ∃ (v44 : Int) (v45 : Bool) (v46 : Bool) (v47 : Int) (v48 : Int), Weak s (PS.of 156 [(1, .val (.int .i64 a1)), (8, .ptr 0 0), (9, .ptr 1 0)] [⟨0, [.val (.int .i64 0), .val (.int .i64 0), .val (.int .i64 0), .val (.int .i64 0), .val (.int .i64 0), .val (.int .i64 0), .val (.int .i64 0), .val (.int .i64 0), .val (.int .i64 0), .val (.bool false), .val (.bool false), .val (.bool false), .val (.int .i64 0), .val (.int .i64 0)]⟩, ⟨0, [.val (.int .i64 v1), .val (.int .i64 v7), .val (.int .i64 a3), .val (.int .i64 v44), .val (.int .i64 v15), .val (.int .i64 v16), .val (.int .i64 0), .val (.int .i64 0), .val (.int .i64 0), .val (.bool false), .val (.bool v45), .val (.bool v46), .val (.int .i64 v47), .val (.int .i64 v48)]⟩] [] 0 0) ∧ (v44, v45, v46, v47, v48) = x44) ?_ ?_
        · refine PC.cond rfl (fun h46 => ?_) (fun h46 => ?_)
          · have e45 := bif_t h46 e45
            refine PC.assoc ?_
            refine PC.region ?_
            refine PO.runK 7 [0, 1, 2] [] (es := [(1, .val (.int .i64 a1)), (8, .ptr 0 0), (9, .ptr 1 0), (12, .ptr 2 0)]) (fr' := [⟨0, [.val (.int .i64 0), .val (.int .i64 0), .val (.int .i64 0), .val (.int .i64 0), .val (.int .i64 0), .val (.int .i64 0), .val (.int .i64 0), .val (.int .i64 0), .val (.int .i64 0), .val (.bool false), .val (.bool false), .val (.bool false), .val (.int .i64 0), .val (.int .i64 0)]⟩, ⟨0, [.val (.int .i64 v1), .val (.int .i64 v7), .val (.int .i64 a3), .val (.int .i64 (w (v14 + y43.width))), .val (.int .i64 v15), .val (.int .i64 v16), .val (.int .i64 0), .val (.int .i64 0), .val (.int .i64 0), .val (.bool false), .val (.bool false), .val (.bool false), .val (.int .i64 v17), .val (.int .i64 v18)]⟩, ⟨0, (cGItem y43)⟩]) (tk' := []) (by kernel_rfl) ?_
            refine PO.nil ?_
            refine PC.assoc ?_
            refine PC.draw [2, 3, 0, 1, 4, 5, 6, 7] (by kernel_rfl) ?_
            refine PD.runK 1 (js' := [3, 0, 1, 4, 5, 6, 7]) (σ' := ⟨4, 0, 0, []⟩) (es := [(1, .val (.int .i64 a1)), (8, .ptr 0 0), (9, .ptr 1 0), (12, .ptr 2 0), (131, .agg (cGItem y43))]) (fr' := [⟨0, [.val (.int .i64 0), .val (.int .i64 0), .val (.int .i64 0), .val (.int .i64 0), .val (.int .i64 0), .val (.int .i64 0), .val (.int .i64 0), .val (.int .i64 0), .val (.int .i64 0), .val (.bool false), .val (.bool false), .val (.bool false), .val (.int .i64 0), .val (.int .i64 0)]⟩, ⟨0, [.val (.int .i64 v1), .val (.int .i64 v7), .val (.int .i64 a3), .val (.int .i64 (w (v14 + y43.width))), .val (.int .i64 v15), .val (.int .i64 v16), .val (.int .i64 0), .val (.int .i64 0), .val (.int .i64 0), .val (.bool false), .val (.bool false), .val (.bool false), .val (.int .i64 v17), .val (.int .i64 v18)]⟩, ⟨0, (cGItem y43)⟩]) (tk' := []) (by kernel_rfl) ?_
            refine bindK e45 (fun r47 e48 e45 => ?_)
            refine PD.call rfl rfl (by kernel_rfl) rfl rfl rfl (ks := []) (ts := []) (fr1 := []) rfl rfl rfl trivial (L70 k y43 _ e48) ?_
            rintro _ _ _ ⟨rfl, rfl, rfl⟩
            refine ⟨_, _, rfl, rfl, ?_⟩
            refine PD.runK 6 (js' := []) (σ' := ⟨255, 255, 127, [(7, [1], false), (5, [1, 1], false), (3, [1, 1], true)]⟩) (es := [(1, .val (.int .i64 a1)), (8, .ptr 0 0), (9, .ptr 1 0), (12, .ptr 2 0)]) (fr' := [⟨0, [.val (.int .i64 0), .val (.int .i64 0), .val (.int .i64 0), .val (.int .i64 0), .val (.int .i64 0), .val (.int .i64 0), .val (.int .i64 0), .val (.int .i64 0), .val (.int .i64 0), .val (.bool false), .val (.bool false), .val (.bool false), .val (.int .i64 0), .val (.int .i64 0)]⟩, ⟨0, [.val (.int .i64 v1), .val (.int .i64 v7), .val (.int .i64 a3), .val (.int .i64 (w (v14 + y43.width))), .val (.int .i64 v15), .val (.int .i64 v16), .val (.int .i64 0), .val (.int .i64 0), .val (.int .i64 0), .val (.bool false), .val (.bool y43.flag), .val (.bool r47), .val (.int .i64 v17), .val (.int .i64 v18)]⟩, ⟨0, (cGItem y43)⟩]) (tk' := []) (by kernel_rfl) ?_
            refine PD.done [0, 1, 2] [] (es := [(1, .val (.int .i64 a1)), (8, .ptr 0 0), (9, .ptr 1 0), (12, .ptr 2 0)]) (fr' := [⟨0, [.val (.int .i64 0), .val (.int .i64 0), .val (.int .i64 0), .val (.int .i64 0), .val (.int .i64 0), .val (.int .i64 0), .val (.int .i64 0), .val (.int .i64 0), .val (.int .i64 0), .val (.bool false), .val (.bool false), .val (.bool false), .val (.int .i64 0), .val (.int .i64 0)]⟩, ⟨0, [.val (.int .i64 v1), .val (.int .i64 v7), .val (.int .i64 a3), .val (.int .i64 (w (v14 + y43.width))), .val (.int .i64 v15), .val (.int .i64 v16), .val (.int .i64 0), .val (.int .i64 0), .val (.int .i64 0), .val (.bool false), .val (.bool y43.flag), .val (.bool r47), .val (.int .i64 v17), .val (.int .i64 v18)]⟩, ⟨0, (cGItem y43)⟩]) (tk' := []) (by kernel_rfl) (by kernel_rfl) ?_
            refine PC.assoc ?_
            refine PC.run (n := 3) rfl ?_
            refine PC.cond rfl (fun h49 => ?_) (fun h49 => ?_)
            · have e45 := bif_t h49 e45
              refine PC.draw [0, 1, 2, 3, 4, 5, 6, 10, 11, 7, 8, 9, 12, 13] (by kernel_rfl) ?_
              refine PD.runK 14 (js' := []) (σ' := ⟨16383, 16383, 8191, [(13, [1], false), (11, [1, 1], false)]⟩) (es := [(1, .val (.int .i64 a1)), (8, .ptr 0 0), (9, .ptr 1 0)]) (fr' := [⟨0, [.val (.int .i64 0), .val (.int .i64 0), .val (.int .i64 0), .val (.int .i64 0), .val (.int .i64 0), .val (.int .i64 0), .val (.int .i64 0), .val (.int .i64 0), .val (.int .i64 0), .val (.bool false), .val (.bool false), .val (.bool false), .val (.int .i64 0), .val (.int .i64 0)]⟩, ⟨0, [.val (.int .i64 v1), .val (.int .i64 v7), .val (.int .i64 a3), .val (.int .i64 (w (v14 + y43.width))), .val (.int .i64 v15), .val (.int .i64 v16), .val (.int .i64 0), .val (.int .i64 0), .val (.int .i64 0), .val (.bool false), .val (.bool y43.flag), .val (.bool r47), .val (.int .i64 (if y43.height > v17 then y43.height else v17)), .val (.int .i64 (if y43.depth > v18 then y43.depth else v18))]⟩, ⟨0, (cGItem y43)⟩]) (tk' := []) (by kernel_rfl) ?_
              refine PD.done [0, 1] [] (es := [(1, .val (.int .i64 a1)), (8, .ptr 0 0), (9, .ptr 1 0)]) (fr' := [⟨0, [.val (.int .i64 0), .val (.int .i64 0), .val (.int .i64 0), .val (.int .i64 0), .val (.int .i64 0), .val (.int .i64 0), .val (.int .i64 0), .val (.int .i64 0), .val (.int .i64 0), .val (.bool false), .val (.bool false), .val (.bool false), .val (.int .i64 0), .val (.int .i64 0)]⟩, ⟨0, [.val (.int .i64 v1), .val (.int .i64 v7), .val (.int .i64 a3), .val (.int .i64 (w (v14 + y43.width))), .val (.int .i64 v15), .val (.int .i64 v16), .val (.int .i64 0), .val (.int .i64 0), .val (.int .i64 0), .val (.bool false), .val (.bool y43.flag), .val (.bool r47), .val (.int .i64 (if y43.height > v17 then y43.height else v17)), .val (.int .i64 (if y43.depth > v18 then y43.depth else v18))]⟩]) (tk' := []) (by kernel_rfl) (by kernel_rfl) ?_
              obtain rfl := Option.some.inj e45
              exact PC.skip (joinKP.end ⟨w (v14 + y43.width), y43.flag, r47, (if y43.height > v17 then y43.height else v17), (if y43.depth > v18 then y43.depth else v18), Weak.one [0, 1] [] (by kernel_rfl), rfl⟩)
            · have e45 := bif_f h49 e45
              refine PC.noop ?_
              obtain rfl := Option.some.inj e45
              exact PC.skip (joinKP.end ⟨w (v14 + y43.width), y43.flag, r47, v17, v18, Weak.one [0, 1] [] (by kernel_rfl), rfl⟩)
          · have e45 := bif_f h46 e45
            refine PC.noop ?_
            obtain rfl := Option.some.inj e45
            exact PC.skip (joinKP.end ⟨v14, false, false, v17, v18, Weak.one [0, 1] [] (by kernel_rfl), rfl⟩)
        · rintro _ ⟨v44, v45, v46, v47, v48, w50, rfl⟩
          refine PC.weak w50 ?_
          refine PC.region ?_
          refine PO.runK 6 [0, 1] [] (es := [(8, .ptr 0 0), (9, .ptr 1 0)]) (fr' := [⟨0, [.val (.int .i64 0), .val (.int .i64 0), .val (.int .i64 0), .val (.int .i64 0), .val (.int .i64 0), .val (.int .i64 0), .val (.int .i64 0), .val (.int .i64 0), .val (.int .i64 0), .val (.bool false), .val (.bool false), .val (.bool false), .val (.int .i64 0), .val (.int .i64 0)]⟩, ⟨0, [.val (.int .i64 v1), .val (.int .i64 v7), .val (.int .i64 a3), .val (.int .i64 v44), .val (.int .i64 v15), .val (.int .i64 v16), .val (.int .i64 (w (a1 - v44))), .val (.int .i64 0), .val (.int .i64 0), .val (.bool false), .val (.bool v45), .val (.bool v46), .val (.int .i64 v47), .val (.int .i64 v48)]⟩]) (tk' := []) (by kernel_rfl) ?_
          refine PO.nil ?_
          refine PC.region ?_
          refine bindK hF (fun r51 e52 hF => ?_)
          refine PO.call rfl rfl rfl rfl (ks := [1]) (ts := []) (fr1 := [⟨0, [.val (.int .i64 v1), .val (.int .i64 v7), .val (.int .i64 a3), .val (.int .i64 v44), .val (.int .i64 v15), .val (.int .i64 v16), .val (.int .i64 (w (a1 - v44))), .val (.int .i64 0), .val (.int .i64 0), .val (.bool false), .val (.bool v45), .val (.bool v46), .val (.int .i64 v47), .val (.int .i64 v48)]⟩]) rfl rfl rfl ⟨⟨_, rfl, rfl, rfl⟩, trivial⟩ (L95 k (GLine.mk v1 v7 a3 v44 v15 v16 (w (a1 - v44)) 0 0 false v45 v46 v47 v48) _ e52) ?_
          rintro _ _ _ ⟨rfl, rfl, rfl⟩
          refine ⟨_, _, rfl, rfl, ?_⟩
          refine PO.nil ?_
          refine PC.region ?_
          refine PO.runK 2 [0] [] (es := [(8, .ptr 0 0)]) (fr' := [⟨0, (cGLine r51)⟩]) (tk' := []) (by kernel_rfl) ?_
          refine PO.nil ?_
          obtain rfl := Option.some.inj hF
          exact PC.ret' (retSK [] [] (by kernel_rfl) (.refl _) ⟨rfl, rfl, rfl⟩)

/-! 75 platen/line.within -/
def F75 (k : Nat) (a0 : Int) (a1 : Int) (a2 : Int) : Option Int :=
some (if (if a2 < a0 then a2 else a0) > a1 then (if a2 < a0 then a2 else a0) else a1)
theorem L75 (k : Nat) (a0 : Int) (a1 : Int) (a2 : Int) (r : Int) (hF : F75 k a0 a1 a2 = some r) : PF Try.prog orc 75 [.val (.int .i64 a0), .val (.int .i64 a1), .val (.int .i64 a2)] [] [] (fun p fr tk => p = .val (.int .i64 r) ∧ fr = [] ∧ tk = []) := by
  unfold F75 at hF
  refine PF.enterS Try.func75 rfl rfl rfl (by kernel_rfl) rfl ?_
  refine PC.run (n := 2) rfl ?_
  refine PC.run (n := 7) rfl ?_
  obtain rfl := Option.some.inj hF
  exact PC.ret' (retSK [] [] (by kernel_rfl) (.refl _) ⟨rfl, rfl, rfl⟩)

/-! 36 platen/line.Demerits -/
def F36 (k : Nat) (a0 : List GItem) (a1 : GLine) (a2 : GLine) : Option Int :=
(F75 k a2.bad 0 10000).bind fun r1 =>
Option.bind (α := Bool) (bif decide (a2.break_ ≥ 0) then (Option.bind (α := Bool) (bif decide (a2.break_ < (a0.length : Int)) then (bindI a0 a2.break_ fun y3 =>
some (y3.kind == 4)) else (some false)) fun (v2 : Bool) =>
some v2) else (some false)) fun (v1 : Bool) =>
Option.bind (α := Int) (bif v1 then (bindI a0 a2.break_ fun y5 =>
Option.bind (α := Int) (bif decide (y5.value ≥ 0) then (some (w ((w ((w (10 + r1)) * (w (10 + r1)))) + (w ((if 10000 < y5.value then 10000 else y5.value) * (if 10000 < y5.value then 10000 else y5.value)))))) else (bif decide (y5.value > (-10000)) then (some (w ((w ((w (10 + r1)) * (w (10 + r1)))) - (w (y5.value * y5.value))))) else (some (w ((w (10 + r1)) * (w (10 + r1))))))) fun (v6 : Int) =>
some v6) else (some (w ((w (10 + r1)) * (w (10 + r1)))))) fun (v4 : Int) =>
Option.bind (α := Int × Int) (bif decide (a1.first ≥ 0) then ((F75 k a1.class_ 0 3).bind fun r27 =>
Option.bind (α := Bool) (bif a1.hyphen then (some a2.hyphen) else (some false)) fun (v9 : Bool) =>
bif v9 then (some (w (v4 + 3000), r27)) else (some (v4, r27))) else (some (v4, 1))) fun (v7, v8) =>
(F75 k a2.class_ 0 3).bind fun r35 =>
Option.bind (α := Bool) (bif decide ((w (v8 - r35)) > 1) then (some true) else (some (decide ((w (v8 - r35)) < (-1))))) fun (v10 : Bool) =>
Option.bind (α := Int) (bif v10 then (some (w (v7 + 3000))) else (some v7)) fun (v11 : Int) =>
some v11
theorem L36 (k : Nat) (a0 : List GItem) (a1 : GLine) (a2 : GLine) (r : Int) (hF : F36 k a0 a1 a2 = some r) : PF Try.prog orc 36 [.list 13 (List.map cGItem a0) none, .agg (cGLine a1), .agg (cGLine a2)] [] [] (fun p fr tk => p = .val (.int .i64 r) ∧ fr = [] ∧ tk = []) := by
  unfold F36 at hF
  refine PF.enterS Try.func36 rfl rfl rfl (by kernel_rfl) rfl ?_
  refine PC.region ?_
  refine PO.runK 3 [0, 1] [] (es := [(0, .list 13 (List.map cGItem a0) none), (4, .ptr 0 0), (5, .ptr 1 0), (6, .val (.int .i64 0))]) (fr' := [⟨0, (cGLine a1)⟩, ⟨0, (cGLine a2)⟩]) (tk' := []) (by kernel_rfl) ?_
  refine PO.nil ?_
  refine PC.region ?_
  refine PO.run 2 rfl ?_
  refine bindK hF (fun r1 e2 hF => ?_)
  refine PO.call rfl rfl rfl rfl (ks := []) (ts := []) (fr1 := []) rfl rfl rfl trivial (L75 k a2.bad 0 10000 _ e2) ?_
  rintro _ _ _ ⟨rfl, rfl, rfl⟩
  refine ⟨_, _, rfl, rfl, ?_⟩
  refine PO.run 2 rfl ?_
  refine PO.nil ?_
  refine PC.run (n := 5) rfl ?_
  refine PC.assoc ?_
  refine PC.run (n := 4) rfl ?_
  refine PC.assoc ?_
  refine PC.region ?_
  refine PO.run 3 rfl ?_
  refine bindK hF (fun x3 e4 hF => ?_)
  refine PO.cut 13 (fun s => ∃ (v1 : Bool), Weak s (PS.of 89 [(0, .list 13 (List.map cGItem a0) none), (4, .ptr 0 0), (5, .ptr 1 0), (6, .val (.int .i64 0)), (8, .val (.int .i64 (w ((w (10 + r1)) * (w (10 + r1)))))), (9, .val (.int .i64 a2.break_)), (37, .val (.bool v1))] [⟨0, (cGLine a1)⟩, ⟨0, (cGLine a2)⟩] [] 0 0) ∧ v1 = x3) ?_ ?_
  · refine PO.case (t := 24) rfl rfl (fun h5 => ?_) (fun h5 => ?_)
    · have e4 := bif_t h5 e4
      refine PO.run 2 rfl ?_
      refine PO.same rfl (len_ok Try.underlying42 rfl (List.length_map _)) rfl ?_
      refine PO.run 1 rfl ?_
      refine PO.same rfl (pickT_ok rfl rfl rfl) rfl ?_
      refine PO.run 1 rfl ?_
      refine bindK e4 (fun x6 e7 e4 => ?_)
      refine PO.cut 7 (fun s => ∃ (v2 : Bool), Weak s (PS.of 89 [(0, .list 13 (List.map cGItem a0) none), (4, .ptr 0 0), (5, .ptr 1 0), (6, .val (.int .i64 0)), (8, .val (.int .i64 (w ((w (10 + r1)) * (w (10 + r1)))))), (9, .val (.int .i64 a2.break_)), (37, .val (.bool v2))] [⟨0, (cGLine a1)⟩, ⟨0, (cGLine a2)⟩] [] 0 0) ∧ v2 = x6) ?_ ?_
      · refine PO.case (t := 30) rfl rfl (fun h8 => ?_) (fun h8 => ?_)
        · have e7 := bif_t h8 e7
          refine PO.run 2 rfl ?_
          refine bindIK e7 (fun y3 h9 h10 e7 => ?_)
          refine PO.same rfl (indexAddr_ok Try.underlying42 rfl rfl rfl h9 (map_at h10)) rfl ?_
          refine PO.run 3 rfl ?_
          refine PO.same rfl (pickT_ok rfl rfl rfl) rfl ?_
          refine PO.nil ?_
          obtain rfl := Option.some.inj e7
          exact ⟨y3.kind == 4, Weak.one [0, 1] [] (by kernel_rfl), rfl⟩
        · have e7 := bif_f h8 e7
          refine PO.run 6 rfl ?_
          refine PO.same rfl (pickF_ok rfl rfl rfl) rfl ?_
          refine PO.nil ?_
          obtain rfl := Option.some.inj e7
          exact ⟨false, Weak.one [0, 1] [] (by kernel_rfl), rfl⟩
      · rintro _ ⟨v2, w11, rfl⟩
        refine PO.weak w11 ?_
        refine PO.nil ?_
        obtain rfl := Option.some.inj e4
        exact ⟨v2, Weak.one [0, 1] [] (by kernel_rfl), rfl⟩
    · have e4 := bif_f h5 e4
      refine PO.run 4 rfl ?_
      refine PO.same rfl (pickF_ok rfl rfl rfl) rfl ?_
      refine PO.run 7 rfl ?_
      refine PO.same rfl (pickF_ok rfl rfl rfl) rfl ?_
      refine PO.nil ?_
      obtain rfl := Option.some.inj e4
      exact ⟨false, Weak.one [0, 1] [] (by kernel_rfl), rfl⟩
  · rintro _ ⟨v1, w12, rfl⟩
    refine PO.weak w12 ?_
    refine PO.nil ?_
    refine bindK hF (fun x13 e14 hF => ?_)
    refine PC.join (fun s => ∃ (v4 : Int), Weak s (PS.of 89 [(4, .ptr 0 0), (5, .ptr 1 0), (6, .val (.int .i64 0)), (8, .val (.int .i64 v4))] [⟨0, (cGLine a1)⟩, ⟨0, (cGLine a2)⟩] [] 0 0) ∧ v4 = x13) ?_ ?_
    · refine PC.cond rfl (fun h15 => ?_) (fun h15 => ?_)
      · have e14 := bif_t h15 e14
        refine PC.assoc ?_
        refine PC.region ?_
        refine PO.run 2 rfl ?_
        refine bindIK e14 (fun y5 h16 h17 e14 => ?_)
        refine PO.same rfl (indexAddr_ok Try.underlying42 rfl rfl rfl h16 (map_at h17)) rfl ?_
        refine PO.run 3 rfl ?_
        refine PO.nil ?_
        refine bindK e14 (fun x18 e19 e14 => ?_)
        refine PC.blockJ (fun s => ∃ (v6 : Int), Weak s (PS.of 89 [(4, .ptr 0 0), (5, .ptr 1 0), (6, .val (.int .i64 0)), (8, .val (.int .i64 v6))] [⟨0, (cGLine a1)⟩, ⟨0, (cGLine a2)⟩] [] 0 0) ∧ v6 = x18) ?_ ?_
        · refine PC.run (n := 4) rfl ?_
          refine PC.lone ?_
          refine PC.cond rfl (fun h20 => ?_) (fun h20 => ?_)
          · have e19 := bif_t h20 e19
            refine PC.assoc ?_
            refine PC.run (n := 4) rfl ?_
            refine PC.run (n := 7) rfl ?_
            obtain rfl := Option.some.inj e19
            exact PC.skip (blockJK.end ⟨w ((w ((w (10 + r1)) * (w (10 + r1)))) + (w ((if 10000 < y5.value then 10000 else y5.value) * (if 10000 < y5.value then 10000 else y5.value)))), Weak.one [0, 1] [] (by kernel_rfl), rfl⟩)
          · have e19 := bif_f h20 e19
            refine PC.assoc ?_
            refine PC.run (n := 4) rfl ?_
            refine PC.cond rfl (fun h21 => ?_) (fun h21 => ?_)
            · have e19 := bif_t h21 e19
              refine PC.run (n := 7) rfl ?_
              obtain rfl := Option.some.inj e19
              exact PC.skip (blockJK.end ⟨w ((w ((w (10 + r1)) * (w (10 + r1)))) - (w (y5.value * y5.value))), Weak.one [0, 1] [] (by kernel_rfl), rfl⟩)
            · have e19 := bif_f h21 e19
              refine PC.noop ?_
              obtain rfl := Option.some.inj e19
              exact PC.skip (blockJK.end ⟨w ((w (10 + r1)) * (w (10 + r1))), Weak.one [0, 1] [] (by kernel_rfl), rfl⟩)
        · rintro _ ⟨v6, w22, rfl⟩
          refine PC.weak w22 ?_
          obtain rfl := Option.some.inj e14
          exact PC.skip (joinKP.end ⟨v6, Weak.one [0, 1] [] (by kernel_rfl), rfl⟩)
      · have e14 := bif_f h15 e14
        refine PC.noop ?_
        obtain rfl := Option.some.inj e14
        exact PC.skip (joinKP.end ⟨w ((w (10 + r1)) * (w (10 + r1))), Weak.one [0, 1] [] (by kernel_rfl), rfl⟩)
    · rintro _ ⟨v4, w23, rfl⟩
      refine PC.weak w23 ?_
      refine PC.run (n := 2) rfl ?_
      refine PC.assoc ?_
      refine PC.run (n := 4) rfl ?_
      refine bindK hF (fun x24 e25 hF => ?_)
      refine PC.join (fun s => ∃ (v7 : Int) (v8 : Int), Weak s (PS.of 89 [(5, .ptr 0 0), (6, .val (.int .i64 0)), (8, .val (.int .i64 v7)), (11, .val (.int .i64 v8))] [⟨0, (cGLine a2)⟩] [] 0 0) ∧ (v7, v8) = x24) ?_ ?_
      · refine PC.cond rfl (fun h26 => ?_) (fun h26 => ?_)
        · have e25 := bif_t h26 e25
          refine PC.assoc ?_
          refine PC.region ?_
          refine PO.run 2 rfl ?_
          refine bindK e25 (fun r27 e28 e25 => ?_)
          refine PO.call rfl rfl rfl rfl (ks := []) (ts := []) (fr1 := []) rfl rfl rfl trivial (L75 k a1.class_ 0 3 _ e28) ?_
          rintro _ _ _ ⟨rfl, rfl, rfl⟩
          refine ⟨_, _, rfl, rfl, ?_⟩
          refine PO.run 1 rfl ?_
          refine PO.nil ?_
          refine PC.assoc ?_
          refine PC.region ?_
          refine PO.run 3 rfl ?_
          refine bindK e25 (fun x29 e30 e25 => ?_)
          refine PO.cut 3 (fun s => ∃ (v9 : Bool), Weak s (PS.of 89 [(5, .ptr 0 0), (6, .val (.int .i64 0)), (8, .val (.int .i64 v4)), (11, .val (.int .i64 r27)), (72, .val (.bool v9))] [⟨0, (cGLine a2)⟩] [] 0 0) ∧ v9 = x29) ?_ ?_
          · refine PO.case (t := 69) rfl rfl (fun h31 => ?_) (fun h31 => ?_)
            · have e30 := bif_t h31 e30
              refine PO.run 2 rfl ?_
              refine PO.same rfl (pickT_ok rfl rfl rfl) rfl ?_
              refine PO.nil ?_
              obtain rfl := Option.some.inj e30
              exact ⟨a2.hyphen, Weak.one [1] [] (by kernel_rfl), rfl⟩
            · have e30 := bif_f h31 e30
              refine PO.run 2 rfl ?_
              refine PO.same rfl (pickF_ok rfl rfl rfl) rfl ?_
              refine PO.nil ?_
              obtain rfl := Option.some.inj e30
              exact ⟨false, Weak.one [1] [] (by kernel_rfl), rfl⟩
          · rintro _ ⟨v9, w32, rfl⟩
            refine PO.weak w32 ?_
            refine PO.nil ?_
            refine PC.cond rfl (fun h33 => ?_) (fun h33 => ?_)
            · have e25 := bif_t h33 e25
              refine PC.run (n := 4) rfl ?_
              obtain rfl := Option.some.inj e25
              exact PC.skip (joinKP.end ⟨w (v4 + 3000), r27, Weak.one [0] [] (by kernel_rfl), rfl⟩)
            · have e25 := bif_f h33 e25
              refine PC.noop ?_
              obtain rfl := Option.some.inj e25
              exact PC.skip (joinKP.end ⟨v4, r27, Weak.one [0] [] (by kernel_rfl), rfl⟩)
        · have e25 := bif_f h26 e25
          refine PC.noop ?_
          obtain rfl := Option.some.inj e25
          exact PC.skip (joinKP.end ⟨v4, 1, Weak.one [1] [] (by kernel_rfl), rfl⟩)
      · rintro _ ⟨v7, v8, w34, rfl⟩
        refine PC.weak w34 ?_
        refine PC.assoc ?_
        refine PC.region ?_
        refine PO.run 3 rfl ?_
        refine bindK hF (fun r35 e36 hF => ?_)
        refine PO.call rfl rfl rfl rfl (ks := []) (ts := []) (fr1 := []) rfl rfl rfl trivial (L75 k a2.class_ 0 3 _ e36) ?_
        rintro _ _ _ ⟨rfl, rfl, rfl⟩
        refine ⟨_, _, rfl, rfl, ?_⟩
        refine PO.run 2 rfl ?_
        refine PO.nil ?_
        refine PC.assoc ?_
        refine PC.region ?_
        refine PO.run 3 rfl ?_
        refine bindK hF (fun x37 e38 hF => ?_)
        refine PO.cut 3 (fun s => ∃ (v10 : Bool), Weak s (PS.of 89 [(6, .val (.int .i64 0)), (8, .val (.int .i64 v7)), (85, .val (.bool v10))] [] [] 0 0) ∧ v10 = x37) ?_ ?_
        · refine PO.case (t := 82) rfl rfl (fun h39 => ?_) (fun h39 => ?_)
          · have e38 := bif_t h39 e38
            refine PO.run 2 rfl ?_
            refine PO.same rfl (pickT_ok rfl rfl rfl) rfl ?_
            refine PO.nil ?_
            obtain rfl := Option.some.inj e38
            exact ⟨true, Weak.one [] [] (by kernel_rfl), rfl⟩
          · have e38 := bif_f h39 e38
            refine PO.run 2 rfl ?_
            refine PO.same rfl (pickF_ok rfl rfl rfl) rfl ?_
            refine PO.nil ?_
            obtain rfl := Option.some.inj e38
            exact ⟨decide ((w (v8 - r35)) < (-1)), Weak.one [] [] (by kernel_rfl), rfl⟩
        · rintro _ ⟨v10, w40, rfl⟩
          refine PO.weak w40 ?_
          refine PO.nil ?_
          refine bindK hF (fun x41 e42 hF => ?_)
          refine PC.join (fun s => ∃ (v11 : Int), Weak s (PS.of 89 [(6, .val (.int .i64 0)), (8, .val (.int .i64 v11))] [] [] 0 0) ∧ v11 = x41) ?_ ?_
          · refine PC.cond rfl (fun h43 => ?_) (fun h43 => ?_)
            · have e42 := bif_t h43 e42
              refine PC.run (n := 4) rfl ?_
              obtain rfl := Option.some.inj e42
              exact PC.skip (joinKP.end ⟨w (v7 + 3000), Weak.one [] [] (by kernel_rfl), rfl⟩)
            · have e42 := bif_f h43 e42
              refine PC.noop ?_
              obtain rfl := Option.some.inj e42
              exact PC.skip (joinKP.end ⟨v7, Weak.one [] [] (by kernel_rfl), rfl⟩)
          · rintro _ ⟨v11, w44, rfl⟩
            refine PC.weak w44 ?_
            refine PC.run (n := 3) rfl ?_
            obtain rfl := Option.some.inj hF
            exact PC.ret' (retSK [] [] (by kernel_rfl) (.refl _) ⟨rfl, rfl, rfl⟩)

end
end Go.Eng.Lift
