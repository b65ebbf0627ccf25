import Derived.Test.YtjobmgleekphjaaM25
import Derived.Test.YtjobmgleekphjaaProg
import Derived.KernelRfl
set_option linter.unusedVariables false
set_option linter.unusedSimpArgs false
set_option maxRecDepth 100000
set_option maxHeartbeats 4000000
namespace Go.Eng.Lift
open Go.Proofs
noncomputable section
def orc : FuncId → Option Value := fun f => pick (Nat.beq f 28) (some (.bool true)) none
theorem K28 : PF Try.prog orc 28 [] [] [] (fun p fr tk => p = .val (.bool true) ∧ fr = [] ∧ tk = []) := PF.known rfl rfl ⟨rfl, rfl, rfl⟩
structure GItem where
  kind : Int
  font : ByteArray
  size : Int
  rune : Int
  width : Int
  height : Int
  depth : Int
  stretch : Int
  shrink : Int
  value : Int
  flag : Bool
  from_ : Int
  to_ : Int
def cGItem (x : GItem) : List PV := [.val (.int .i64 x.kind), .val (.string x.font), .val (.int .i64 x.size), .val (.int .i64 x.rune), .val (.int .i64 x.width), .val (.int .i64 x.height), .val (.int .i64 x.depth), .val (.int .i64 x.stretch), .val (.int .i64 x.shrink), .val (.int .i64 x.value), .val (.bool x.flag), .val (.int .i64 x.from_), .val (.int .i64 x.to_)]
def cI_i64 (x : Int) : List PV := [.val (.int .i64 x)]
/-! wipe (33): a walk by hand -/
def wiped : List Value := [.int .i64 4, .string .empty, .int .i64 0, .int .i64 0, .int .i64 0, .int .i64 0, .int .i64 0, .int .i64 0, .int .i64 0, .int .i64 (-10000), .bool false, .int .i64 0, .int .i64 0]
theorem wipe_walk {H : AH} {p : Option Addr} {n c : Nat} {J : AH → Prop} (hg : n + 2 ≤ 9223372036854775808) (hJ : J H) (hst : ∀ i, i < n → ∃ id off, p = some ⟨id, off, none⟩ ∧ ∀ H', J H' → ∃ H1, H'.write id (off + i * 13) wiped = .ok H1 ∧ J H1) :
    WF1 Try.prog orc 33 [.slice p n c] H (fun v H' => J H') := by
  refine WF1.call (bodyOf_mk Try.func33 rfl (by show 1 ≤ 13; omega) (by show 1 ≤ 1000000; omega) (by kernel_rfl)) rfl ?_
  have K0 : KA (startAct Try.f33.ntmps [.slice p n c]) 13 (fun t => if t = 0 then some (.slice p n c) else none) := ⟨rfl, rfl, fun t v h => by
    split at h
    · rename_i e1; subst e1; cases h; rfl
    · cases h⟩
  refine WC.region ?_
  refine WO.ka K0 (d := 2) (v := .int .i64 0) (by simp only [aOp] <;> rfl) rfl rfl rfl fun a K => ?_
  refine WO.nil ?_
  refine WC.lone (WC.block ?_)
  refine WC.loopE (fun k a H' => ∃ i : Nat, i ≤ n ∧ k = n - i ∧ KA a 13 (fun t => if t = 2 then some (.int .i64 (i : Int)) else if t = 0 then some (.slice p n c) else none) ∧ J H') ?_ ⟨n - 0, 0, Nat.zero_le _, rfl, K, hJ⟩
  rintro k a H' ⟨i, hi, rfl, K, hJ'⟩
  refine WC.assoc (WC.region ?_)
  refine WO.ka K (d := 3) (v := .int .i64 (i : Int)) (by simp only [aOp, bind, Except.bind, K.eval (t := 2) (v := .int .i64 (i : Int)) rfl] <;> rfl) rfl rfl rfl fun a K => ?_
  refine WO.ka K (d := 4) (v := .slice p n c) (by simp only [aOp, bind, Except.bind, K.eval (t := 0) (v := .slice p n c) rfl] <;> rfl) rfl rfl rfl fun a K => ?_
  refine WO.ka K (d := 5) (v := .int .i64 (n : Int)) (by simp only [aOp, allR, bind, Except.bind, aLen, Try.underlying42, K.eval (t := 4) (v := .slice p n c) rfl] <;> rfl) rfl rfl rfl fun a K => ?_
  refine WO.ka K (d := 6) (v := .bool (decide ((i : Int) < (n : Int)))) (by simp only [aOp, bind, Except.bind, K.eval (t := 3) (v := .int .i64 (i : Int)) rfl, K.eval (t := 5) (v := .int .i64 (n : Int)) rfl] <;> rfl) rfl rfl rfl fun a K => ?_
  refine WO.nil ?_
  refine WC.cond (b := decide ((i : Int) < (n : Int))) (K.tm 6 _ rfl) (fun ht => ?_) (fun hf => ?_)
  · have hlt : i < n := by have := of_decide_eq_true ht; omega
    obtain ⟨id, off, rfl, hs⟩ := hst i hlt
    obtain ⟨H1, hw, hJ1⟩ := hs H' hJ'
    have hna : natIn (.int .i64 (i : Int)) (n - 1) = .ok i := by
      unfold natIn
      show (if 0 ≤ (i : Int) ∧ (i : Int) ≤ ((n - 1 : Nat) : Int) then (Except.ok (i : Int).toNat : R Nat) else .error 18) = _
      rw [if_pos (by omega)]; rfl
    refine WC.noop ?_
    refine WC.block ?_
    refine WC.lone (WC.region ?_)
    refine WO.ka K (d := 9) (v := .slice (some ⟨id, off, none⟩) n c) (by simp only [aOp, bind, Except.bind, K.eval (t := 0) (v := .slice (some ⟨id, off, none⟩) n c) rfl] <;> rfl) rfl rfl rfl fun a K => ?_
    refine WO.ka K (d := 10) (v := .int .i64 (i : Int)) (by simp only [aOp, bind, Except.bind, K.eval (t := 2) (v := .int .i64 (i : Int)) rfl] <;> rfl) rfl rfl rfl fun a K => ?_
    refine WO.ka K (d := 11) (H1 := H') (v := .agg wiped.toArray) (by kernel_rfl) rfl rfl rfl fun a K => ?_
    have hsz : tSize Try.prog 71 = .ok 13 := by kernel_rfl
    refine WO.ka K (d := 12) (v := .pointer (some ⟨id, off + i * 13, none⟩)) (by simp only [aOp, bind, Except.bind, Try.underlying42, hsz, hna, if_pos hlt, K.eval (t := 9) (v := .slice (some ⟨id, off, none⟩) n c) rfl, K.eval (t := 10) (v := .int .i64 (i : Int)) rfl] <;> rfl) rfl rfl rfl fun a K => ?_
    refine WO.one (wanted_free rfl) rfl (v := undef) (H1 := H1) ⟨0, by simp only [aOp, bind, Except.bind, addrOf, hsz, K.eval (t := 12) (v := .pointer (some ⟨id, off + i * 13, none⟩)) rfl, K.eval (t := 11) (v := .agg wiped.toArray) rfl]; rw [if_pos (show (Value.cells (.agg wiped.toArray)).size = 13 from rfl)]; rw [show (Value.cells (.agg wiped.toArray)).toList = wiped from rfl, hw]⟩ rfl ?_
    replace K : KA (a.upd none undef) _ _ := K
    refine WO.nil ?_
    refine WC.skip ?_
    refine WC.lone (WC.region ?_)
    refine WO.ka K (d := 7) (v := .int .i64 (i : Int)) (by simp only [aOp, bind, Except.bind, K.eval (t := 2) (v := .int .i64 (i : Int)) rfl] <;> rfl) rfl rfl rfl fun a K => ?_
    refine WO.ka K (d := 8) (v := .int .i64 (w ((i : Int) + 1))) (by simp only [aOp, bind, Except.bind, K.eval (t := 7) (v := .int .i64 (i : Int)) rfl] <;> rfl) rfl rfl rfl fun a K => ?_
    refine WO.ka K (d := 2) (v := .int .i64 (w ((i : Int) + 1))) (by simp only [aOp, bind, Except.bind, K.eval (t := 8) (v := .int .i64 (w ((i : Int) + 1))) rfl] <;> rfl) rfl rfl rfl fun a K => ?_
    refine WO.nil ?_
    refine WC.skip ?_
    refine ⟨n - (i + 1), by omega, i + 1, by omega, rfl, ⟨K.n, K.ms, fun t v h => ?_⟩, hJ1⟩
    have hwi : w ((i : Int) + 1) = ((i + 1 : Nat) : Int) := by
      show IntKind.i64.wrap _ = _
      have : ∀ x : Int, 0 ≤ x → x < 9223372036854775808 → IntKind.i64.wrap x = x := fun x h1 h2 => by
        show (if (true && decide (x % 18446744073709551616 ≥ 9223372036854775808)) = true then _ else _) = _
        rw [Bool.true_and, if_neg (by rw [decide_eq_true_eq]; omega)]
        show x % 18446744073709551616 = x
        omega
      rw [this _ (by omega) (by omega)]; omega
    split at h
    · rename_i e1; subst e1; cases h
      have := K.tm 2 _ rfl
      rw [hwi] at this
      exact this
    · split at h
      · rename_i e1; subst e1; cases h; exact K.tm 0 _ rfl
      · cases h
  · refine WC.exit ?_
    have hfin : WC Try.prog orc none .skip a H' (fun e a1 H1 => (e = .normal ∨ e = .ret) ∧ a1.marks = [] ∧ ∃ v, aResults Try.prog H1 a1 Try.f33.results.toList = .ok v ∧ J H1) := WC.skip ⟨.inl rfl, K.ms, _, rfl, hJ'⟩
    exact hfin
theorem wipe_own (H : AH) (id off n c : Nat) (r : Row) (hr : H.get id = some (.row r)) (hro : r.ro = false) (he : r.esz = 13) (hw : off + n * 13 ≤ r.cells.length) (hg : n + 2 ≤ 9223372036854775808) : WF1 Try.prog orc 33 [.slice (some ⟨id, off, none⟩) n c] H (fun v H' => Havoc r.fam H H') := by
  refine wipe_walk hg (Havoc.refl _ _) fun i hi => ⟨id, off, rfl, fun H' hv => ?_⟩
  obtain ⟨r', k1, k2, k3⟩ := hv.fam id r hr rfl
  have hl : wiped.length = 13 := rfl
  have hm : (i + 1) * 13 ≤ n * 13 := Nat.mul_le_mul_right _ hi
  obtain ⟨H1, m1, m2⟩ := write_any (off := off + i * 13) (vs := wiped) k1 (k2.ro.trans hro) rfl (by rw [k2.len, hl]; omega)
  rw [k2.fam] at m2
  exact ⟨H1, m1, hv.trans m2⟩
theorem wipe_nil (H : AH) : WF1 Try.prog orc 33 [.slice none 0 0] H (fun v H' => H' = H) := wipe_walk (by omega) rfl fun i hi => by omega

/-! 68 platen/line.legal -/
def F68 (k : Nat) (a0 : List GItem) (a1 : Int) : Option Bool :=
bindI a0 a1 fun y1 =>
bif y1.kind == 3 then (Option.bind (α := Bool) (bif decide (a1 > 0) then (bindI a0 (w (a1 - 1)) fun y3 =>
some (y3.kind == 1)) else (some false)) fun (v2 : Bool) =>
some v2) else (bif y1.kind == 4 then (bindI a0 a1 fun y4 =>
some (decide (y4.value < 10000))) else (some false))
theorem L68 (k : Nat) (a0 : List GItem) (a1 : Int) (r : Bool) (hF : F68 k a0 a1 = some r) : PF Try.prog orc 68 [.list 13 (List.map cGItem a0) none, .val (.int .i64 a1)] [] [] (fun p fr tk => p = .val (.bool r) ∧ fr = [] ∧ tk = []) := by
  unfold F68 at hF
  refine PF.enterS Try.func68 rfl rfl rfl (by kernel_rfl) rfl ?_
  refine PC.run (n := 2) rfl ?_
  refine PC.assoc ?_
  refine PC.region ?_
  refine PO.run 2 rfl ?_
  refine bindIK hF (fun y1 h1 h2 hF => ?_)
  refine PO.same rfl (indexAddr_ok Try.underlying42 rfl rfl rfl h1 (map_at h2)) rfl ?_
  refine PO.run 2 rfl ?_
  refine PO.nil ?_
  refine PC.block ?_
  refine PC.run (n := 3) rfl ?_
  refine PC.lone ?_
  refine PC.cond rfl (fun h3 => ?_) (fun h3 => ?_)
  · have hF := bif_t h3 hF
    refine PC.assoc ?_
    refine PC.region ?_
    refine PO.run 3 rfl ?_
    refine bindK hF (fun x4 e5 hF => ?_)
    refine PO.cut 8 (fun s => ∃ (v2 : Bool), Weak s (PS.of 31 [(4, .val (.bool false)), (22, .val (.bool v2))] [] [] 0 0) ∧ v2 = x4) ?_ ?_
    · refine PO.case (t := 14) rfl rfl (fun h6 => ?_) (fun h6 => ?_)
      · have e5 := bif_t h6 e5
        refine PO.run 3 rfl ?_
        refine bindIK e5 (fun y3 h7 h8 e5 => ?_)
        refine PO.same rfl (indexAddr_ok Try.underlying42 rfl rfl rfl h7 (map_at h8)) rfl ?_
        refine PO.run 3 rfl ?_
        refine PO.same rfl (pickT_ok rfl rfl rfl) rfl ?_
        refine PO.nil ?_
        exact ⟨y3.kind == 1, Weak.one [] [] (by kernel_rfl), Option.some.inj e5⟩
      · have e5 := bif_f h6 e5
        refine PO.run 7 rfl ?_
        refine PO.same rfl (pickF_ok rfl rfl rfl) rfl ?_
        refine PO.nil ?_
        exact ⟨false, Weak.one [] [] (by kernel_rfl), Option.some.inj e5⟩
    · rintro _ ⟨v2, w9, rfl⟩
      refine PO.weak w9 ?_
      refine PO.run 1 rfl ?_
      refine PO.nil ?_
      have hq := Option.some.inj hF
      subst hq
      exact PC.ret (blockKP.back (retSK [] [] (by kernel_rfl) (.refl _) ⟨rfl, rfl, rfl⟩))
  · have hF := bif_f h3 hF
    refine PC.assoc ?_
    refine PC.run (n := 3) rfl ?_
    refine PC.cond rfl (fun h10 => ?_) (fun h10 => ?_)
    · have hF := bif_t h10 hF
      refine PC.assoc ?_
      refine PC.region ?_
      refine PO.run 2 rfl ?_
      refine bindIK hF (fun y4 h11 h12 hF => ?_)
      refine PO.same rfl (indexAddr_ok Try.underlying42 rfl rfl rfl h11 (map_at h12)) rfl ?_
      refine PO.run 4 rfl ?_
      refine PO.nil ?_
      have hq := Option.some.inj hF
      subst hq
      exact PC.ret (blockKP.back (retSK [] [] (by kernel_rfl) (.refl _) ⟨rfl, rfl, rfl⟩))
    · have hF := bif_f h10 hF
      refine PC.noop ?_
      refine PC.skip (blockKP.end ?_)
      refine PC.run (n := 2) rfl ?_
      have hq := Option.some.inj hF
      subst hq
      exact PC.ret' (retSK [] [] (by kernel_rfl) (.refl _) ⟨rfl, rfl, rfl⟩)

/-! 66i what line.Legal answers, as a list -/
theorem I66 (A : List Int) (hA : (A.length : Int) < 9223372036854775807) (k0 : Nat) : ISpec Try.prog orc 66 [] [.ptr k0 0] (fun fr => ∃ t e, fr[k0]? = some ⟨e, [.list 1 (A.map cI_i64) t]⟩) (A.map cI_i64) := by
  intro l r C hC hr J D hJ hY e fr tk H vs hR h0 hv
  obtain ⟨b1, b2, t, e1, b3⟩ := hJ 0 fr tk h0
  refine PCY.enter (K := fun p fr' tk' => match p with | none => J (A.map cI_i64).length fr' tk' | some c => D c fr' tk') Try.func66 rfl rfl rfl (by kernel_rfl) (by simp) b1 b2 hR hv ?_
  refine PCY.region (POY.of ?_)
  refine PO.same rfl (load_row rfl b3 (by kernel_rfl) rfl) rfl ?_
  refine PO.same rfl (len_ok Try.underlying43 rfl (List.length_map _)) rfl ?_
  refine PO.run 1 rfl ?_
  refine PO.nil ?_
  show PCY _ _ _ _ _ _ _ _
  refine PCY.lone ?_
  refine PCY.block ?_
  have hlen : (A.map cI_i64).length = A.length := List.length_map _
  refine PCY.loop (fun j s => ∃ (i : Nat) (fr' : List PRow) (tk' : List Nat), j + i = A.length ∧ J i fr' tk' ∧ Weak s (PS.of 16 [(0, .val (.func (.yield l) #[] #[])), (5, .list 1 (A.map cI_i64) none), (6, .val (.int .i64 (A.length : Int))), (7, .val (.int .i64 (i : Int)))] fr' tk' fr.length tk.length)) ?_ A.length ⟨0, fr, tk, rfl, h0, Weak.tms ⟨⟨_, rfl, .refl _⟩, ⟨_, rfl, .tok _ _ _⟩, ⟨_, rfl, .refl _⟩, ⟨_, rfl, .refl _⟩, trivial⟩⟩
  rintro j s ⟨i, fr', tk', hji, hj, hw⟩
  refine PCY.weak hw ?_
  refine PCY.region (POY.of ?_)
  refine PO.run 1 rfl ?_
  refine PO.nil ?_
  show PCY _ _ _ _ _ _ _ _
  refine PCY.cond rfl (fun hb => ?_) (fun hb => ?_)
  · refine PCY.noop ?_
    refine PCY.block ?_
    have hi : (i : Int) < A.length := of_decide_eq_true hb
    obtain ⟨y, hy⟩ : ∃ y, A[(i : Int).toNat]? = some y := ⟨_, List.getElem?_eq_getElem (by omega)⟩
    refine PCY.region (POY.of ?_)
    refine PO.same rfl (indexAddr_ok Try.underlying43 rfl rfl rfl (Int.natCast_nonneg i) (map_at hy)) rfl ?_
    refine PO.run 2 rfl ?_
    refine PO.nil ?_
    show PCY _ _ _ _ _ _ _ _
    refine PCY.region ?_
    refine POY.cut 2 (fun s1 => Weak s1 (PS.of 16 [(0, .val (.func (.yield l) #[] #[])), (5, .list 1 (A.map cI_i64) none), (6, .val (.int .i64 (A.length : Int))), (7, .val (.int .i64 (i : Int))), (11, .val (.func (.yield l) #[] #[])), (12, .val (.int .i64 y))] fr' tk' fr.length tk.length)) (PO.run 2 rfl (PO.nil (Weak.tms ⟨⟨_, rfl, .refl _⟩, ⟨_, rfl, .refl _⟩, ⟨_, rfl, .refl _⟩, ⟨_, rfl, .refl _⟩, ⟨_, rfl, .refl _⟩, ⟨_, rfl, .refl _⟩, trivial⟩))) ?_
    intro s1 hw1
    refine POY.weak hw1 ?_
    have hx : (A.map cI_i64)[i]? = some (cI_i64 y) := by rw [show (i : Int).toNat = i by omega] at hy; rw [List.getElem?_map, hy]; rfl
    refine POY.yield hC hr rfl rfl rfl rfl rfl rfl (hY i _ fr' tk' hx hj) ?_
    intro p fr2 tk2 hk
    have wi : IntKind.i64.wrap ((i : Int) + 1) = ((i + 1 : Nat) : Int) := by
      rw [IntKind.wrap_i64]; omega
    cases p with
    | none =>
      refine POY.of ?_
      refine PO.run 1 rfl ?_
      refine PO.nil ?_
      show PCY _ _ _ _ _ _ _ _
      refine PCY.lone ?_
      refine PCY.cond rfl (fun hb => by cases hb) (fun _ => ?_)
      refine PCY.noop ?_
      refine PCY.of (PC.skip ?_)
      show PCY _ _ _ _ _ _ _ _
      refine PCY.lone ?_
      refine PCY.region (POY.of ?_)
      refine PO.run 2 rfl ?_
      refine PO.nil ?_
      show PCY _ _ _ _ _ _ _ _
      refine PCY.of (PC.skip ?_)
      refine ⟨j - 1, by omega, i + 1, fr2, tk2, by omega, hk, ?_⟩
      rw [← wi]
      exact Weak.tms ⟨⟨_, rfl, .refl _⟩, ⟨_, rfl, .refl _⟩, ⟨_, rfl, .refl _⟩, ⟨_, rfl, .refl _⟩, trivial⟩
    | some c =>
      show PO _ _ _ _ _ _ _
      refine PO.run 1 rfl ?_
      refine PO.nil ?_
      show PC _ _ _ _ _ _
      refine PC.lone ?_
      refine PC.cond rfl (fun _ => ?_) (fun hb => by cases hb)
      exact PC.ret ⟨trivial, rfl, ⟨_, rfl⟩, hk⟩
  · have hi : ¬ (i : Int) < A.length := of_decide_eq_false hb
    refine PCY.of (PC.exit ?_)
    refine loopKY.exit (blockKY.here ?_)
    show PCY _ _ _ _ _ _ _ _
    have e2 : (A.map cI_i64).length = i := by omega
    refine PCY.of (PC.skip ⟨trivial, rfl, ⟨_, rfl⟩, ?_⟩)
    show J (A.map cI_i64).length _ _
    rw [e2]
    exact hj


/-! 93i line.walk, as a list -/
def walkL (k : Nat) (L : List GItem) : Nat → Int → Option (List Int)
  | 0, _ => none
  | j + 1, i => bif decide (i < (L.length : Int)) then (F68 k L i).bind fun b => (walkL k L j (w (i + 1))).bind fun r => some (bif b then i :: r else r) else some []

theorem I93 (k : Nat) (L : List GItem) (j0 : Nat) (A : List Int) (hA : walkL k L j0 0 = some A) (k0 : Nat) : ISpec Try.prog orc 93 [] [.ptr k0 0] (fun fr => ∃ t e, fr[k0]? = some ⟨e, [.list 13 (L.map cGItem) t]⟩) (A.map cI_i64) := by
  intro l r C hC hr J D hJ hY e fr tk H vs hR h0 hv
  obtain ⟨b1, b2, t, e1, b3⟩ := hJ 0 fr tk h0
  refine PCY.enter (K := fun p fr' tk' => match p with | none => J (A.map cI_i64).length fr' tk' | some c => D c fr' tk') Try.func93 rfl rfl rfl (by kernel_rfl) (by simp) b1 b2 hR hv ?_
  refine PCY.region (POY.of ?_)
  refine PO.same rfl (load_row rfl b3 (by kernel_rfl) rfl) rfl ?_
  refine PO.same rfl (len_ok Try.underlying42 rfl (List.length_map _)) rfl ?_
  refine PO.run 1 rfl ?_
  refine PO.nil ?_
  show PCY _ _ _ _ _ _ _ _
  refine PCY.lone ?_
  refine PCY.block ?_
  have hlen : (A.map cI_i64).length = A.length := List.length_map _
  refine PCY.loop (fun j s => ∃ (i : Int) (n : Nat) (fr' : List PRow) (tk' : List Nat), walkL k L j i = some (A.drop n) ∧ n ≤ A.length ∧ J n fr' tk' ∧ Weak s (PS.of 19 [(0, .val (.func (.yield l) #[] #[])), (1, .ptr k0 0), (5, .val (.int .i64 (L.length : Int))), (6, .val (.int .i64 i))] fr' tk' fr.length tk.length)) ?_ j0 ⟨0, 0, fr, tk, by rw [hA]; rfl, Nat.zero_le _, h0, Weak.tms ⟨⟨_, rfl, .refl _⟩, ⟨_, rfl, .refl _⟩, ⟨_, rfl, .refl _⟩, ⟨_, rfl, .refl _⟩, trivial⟩⟩
  rintro j s ⟨i, n, fr', tk', hW, hn, hj, hw⟩
  refine PCY.weak hw ?_
  cases j with
  | zero => cases hW
  | succ j =>
  unfold walkL at hW
  refine PCY.region (POY.of ?_)
  refine PO.run 1 rfl ?_
  refine PO.nil ?_
  show PCY _ _ _ _ _ _ _ _
  refine PCY.cond rfl (fun hb => ?_) (fun hb => ?_)
  · rw [hb, cond_true] at hW
    refine Exists.elim (bind_some hW) (fun b hq => ?_)
    have e2 := hq.1
    refine Exists.elim (bind_some hq.2) (fun r3 hq3 => ?_)
    have e3 := hq3.1
    have e4 := Option.some.inj hq3.2
    clear hq hq3 hW
    refine PCY.noop ?_
    refine PCY.block ?_
    refine PCY.region (POY.of ?_)
    refine PO.run 2 rfl ?_
    refine PO.nil ?_
    show PCY _ _ _ _ _ _ _ _
    obtain ⟨_, _, t', e1', b3'⟩ := hJ n fr' tk' hj
    refine PCY.region ?_
    refine POY.cut 4 (fun s1 => Weak s1 (PS.of 19 [(0, .val (.func (.yield l) #[] #[])), (1, .ptr k0 0), (3, .val (.int .i64 i)), (5, .val (.int .i64 (L.length : Int))), (6, .val (.int .i64 i)), (12, .val (.bool b))] fr' tk' fr.length tk.length)) ?_ ?_
    · refine PO.same rfl (load_row rfl b3' (by kernel_rfl) rfl) rfl ?_
      refine PO.run 1 rfl ?_
      refine PO.weak (Weak.tms (es := [(0, .val (.func (.yield l) #[] #[])), (1, .ptr k0 0), (3, .val (.int .i64 i)), (5, .val (.int .i64 (L.length : Int))), (6, .val (.int .i64 i)), (9, .list 13 (L.map cGItem) none), (10, .val (.int .i64 i))]) ⟨⟨_, rfl, .refl _⟩, ⟨_, rfl, .refl _⟩, ⟨_, rfl, .refl _⟩, ⟨_, rfl, .refl _⟩, ⟨_, rfl, .refl _⟩, ⟨_, rfl, .tok _ _ _⟩, ⟨_, rfl, .refl _⟩, trivial⟩) ?_
      refine PO.call rfl rfl rfl rfl (ks := []) (ts := []) (fr1 := []) rfl rfl rfl trivial (L68 k L i _ e2) ?_
      rintro _ _ _ ⟨rfl, rfl, rfl⟩
      refine ⟨_, _, rfl, rfl, ?_⟩
      refine PO.run 1 rfl ?_
      refine PO.nil ?_
      exact Weak.tms' ⟨⟨_, rfl, .refl _⟩, ⟨_, rfl, .refl _⟩, ⟨_, rfl, .refl _⟩, ⟨_, rfl, .refl _⟩, ⟨_, rfl, .refl _⟩, ⟨_, rfl, .refl _⟩, trivial⟩ (merge_nil fr') (merge_nil tk')
    · intro s1 hw1
      refine POY.weak hw1 ?_
      cases b with
      | false =>
        have e5 : r3 = A.drop n := e4
        refine POY.of ?_
        refine PO.run 4 rfl ?_
        refine PO.same rfl (pickF_ok rfl rfl rfl) rfl ?_
        refine PO.nil ?_
        show PCY _ _ _ _ _ _ _ _
        refine PCY.lone ?_
        refine PCY.cond rfl (fun hb => by cases hb) (fun _ => ?_)
        refine PCY.noop ?_
        refine PCY.of (PC.skip ?_)
        show PCY _ _ _ _ _ _ _ _
        refine PCY.lone ?_
        refine PCY.region (POY.of ?_)
        refine PO.run 2 rfl ?_
        refine PO.nil ?_
        show PCY _ _ _ _ _ _ _ _
        refine PCY.of (PC.skip ?_)
        refine ⟨j, Nat.lt_succ_self _, w (i + 1), n, fr', tk', by rw [← e5]; exact e3, hn, hj, ?_⟩
        exact Weak.tms ⟨⟨_, rfl, .refl _⟩, ⟨_, rfl, .refl _⟩, ⟨_, rfl, .refl _⟩, ⟨_, rfl, .refl _⟩, trivial⟩
      | true =>
        have e5 : i :: r3 = A.drop n := e4
        have hlt : n < A.length := by
          rcases Nat.lt_or_ge n A.length with h | h
          · exact h
          · rw [List.drop_eq_nil_of_le h] at e5; cases e5
        have hAn : A[n]? = some i ∧ A.drop (n + 1) = r3 := by
          rw [List.drop_eq_getElem_cons hlt] at e5
          simp only [List.cons.injEq] at e5
          exact ⟨by rw [List.getElem?_eq_getElem hlt, ← e5.1], e5.2.symm⟩
        have hx : (A.map cI_i64)[n]? = some (cI_i64 i) := by rw [List.getElem?_map, hAn.1]; rfl
        refine POY.cut 2 (fun s1 => Weak s1 (PS.of 19 [(0, .val (.func (.yield l) #[] #[])), (1, .ptr k0 0), (3, .val (.int .i64 i)), (5, .val (.int .i64 (L.length : Int))), (6, .val (.int .i64 i)), (12, .val (.bool true)), (13, .val (.func (.yield l) #[] #[])), (14, .val (.int .i64 i))] fr' tk' fr.length tk.length)) (PO.run 2 rfl (PO.nil (Weak.tms ⟨⟨_, rfl, .refl _⟩, ⟨_, rfl, .refl _⟩, ⟨_, rfl, .refl _⟩, ⟨_, rfl, .refl _⟩, ⟨_, rfl, .refl _⟩, ⟨_, rfl, .refl _⟩, ⟨_, rfl, .refl _⟩, ⟨_, rfl, .refl _⟩, trivial⟩))) ?_
        intro s2 hw2
        refine POY.weak hw2 ?_
        refine POY.yield hC hr rfl rfl rfl rfl rfl rfl (hY n _ fr' tk' hx hj) ?_
        intro p fr2 tk2 hk
        cases p with
        | none =>
          refine POY.of ?_
          refine PO.run 1 rfl ?_
          refine PO.same rfl (pickT_ok rfl rfl rfl) rfl ?_
          refine PO.nil ?_
          show PCY _ _ _ _ _ _ _ _
          refine PCY.lone ?_
          refine PCY.cond rfl (fun hb => by cases hb) (fun _ => ?_)
          refine PCY.noop ?_
          refine PCY.of (PC.skip ?_)
          show PCY _ _ _ _ _ _ _ _
          refine PCY.lone ?_
          refine PCY.region (POY.of ?_)
          refine PO.run 2 rfl ?_
          refine PO.nil ?_
          show PCY _ _ _ _ _ _ _ _
          refine PCY.of (PC.skip ?_)
          refine ⟨j, Nat.lt_succ_self _, w (i + 1), n + 1, fr2, tk2, by rw [hAn.2]; exact e3, hlt, hk, ?_⟩
          exact Weak.tms ⟨⟨_, rfl, .refl _⟩, ⟨_, rfl, .refl _⟩, ⟨_, rfl, .refl _⟩, ⟨_, rfl, .refl _⟩, trivial⟩
        | some c =>
          show PO _ _ _ _ _ _ _
          refine PO.run 1 rfl ?_
          refine PO.same rfl (pickT_ok rfl rfl rfl) rfl ?_
          refine PO.nil ?_
          show PC _ _ _ _ _ _
          refine PC.lone ?_
          refine PC.cond rfl (fun _ => ?_) (fun hb => by cases hb)
          exact PC.ret ⟨trivial, rfl, ⟨_, rfl⟩, hk⟩
  · rw [hb, cond_false] at hW
    have e5 : A.drop n = [] := (Option.some.inj hW).symm
    have hnl : (A.map cI_i64).length = n := by
      have := congrArg List.length e5
      simp at this
      omega
    refine PCY.of (PC.exit ?_)
    refine loopKY.exit (blockKY.here ?_)
    show PCY _ _ _ _ _ _ _ _
    refine PCY.of (PC.skip ⟨trivial, rfl, ⟨_, rfl⟩, ?_⟩)
    show J (A.map cI_i64).length _ _
    rw [hnl]
    exact hj


/-! 60 platen/platenlaw14.more -/
def F60 (k : Nat) (a0 : Int) (a1 : Int) : Option Int :=
Option.bind (α := Bool) (bif decide (a0 > 2147483647) then (some true) else (some (decide (a1 > (w (2147483647 - a0)))))) fun (v1 : Bool) =>
bif v1 then (some 2147483648) else (some (w (a0 + a1)))
theorem L60 (k : Nat) (a0 : Int) (a1 : Int) (r : Int) (hF : F60 k a0 a1 = some r) : PF Try.prog orc 60 [.val (.int .i64 a0), .val (.int .i64 a1)] [] [] (fun p fr tk => p = .val (.int .i64 r) ∧ fr = [] ∧ tk = []) := by
  unfold F60 at hF
  refine PF.enterS Try.func60 rfl rfl rfl (by kernel_rfl) rfl ?_
  refine PC.run (n := 2) rfl ?_
  refine PC.assoc ?_
  refine PC.region ?_
  refine PO.run 3 rfl ?_
  refine bindK hF (fun x1 e2 hF => ?_)
  refine PO.cut 5 (fun s => ∃ (v1 : Bool), Weak s (PS.of 16 [(0, .val (.int .i64 a0)), (1, .val (.int .i64 a1)), (4, .val (.int .i64 0)), (12, .val (.bool v1))] [] [] 0 0) ∧ v1 = x1) ?_ ?_
  · refine PO.case (t := 7) rfl rfl (fun h3 => ?_) (fun h3 => ?_)
    · have e2 := bif_t h3 e2
      refine PO.run 4 rfl ?_
      refine PO.same rfl (pickT_ok rfl rfl rfl) rfl ?_
      refine PO.nil ?_
      exact ⟨true, Weak.one [] [] (by kernel_rfl), Option.some.inj e2⟩
    · have e2 := bif_f h3 e2
      refine PO.run 4 rfl ?_
      refine PO.same rfl (pickF_ok rfl rfl rfl) rfl ?_
      refine PO.nil ?_
      exact ⟨decide (a1 > (w (2147483647 - a0))), Weak.one [] [] (by kernel_rfl), Option.some.inj e2⟩
  · rintro _ ⟨v1, w4, rfl⟩
    refine PO.weak w4 ?_
    refine PO.nil ?_
    refine PC.cond rfl (fun h5 => ?_) (fun h5 => ?_)
    · have hF := bif_t h5 hF
      refine PC.assoc ?_
      refine PC.run (n := 2) rfl ?_
      have hq := Option.some.inj hF
      subst hq
      exact PC.ret (retSK [] [] (by kernel_rfl) (.refl _) ⟨rfl, rfl, rfl⟩)
    · have hF := bif_f h5 hF
      refine PC.noop ?_
      refine PC.run (n := 5) rfl ?_
      have hq := Option.some.inj hF
      subst hq
      exact PC.ret' (retSK [] [] (by kernel_rfl) (.refl _) ⟨rfl, rfl, rfl⟩)

/-! 27 platen/platenlaw14.beyond -/
def F27_l1 (k : Nat) (a0 : List GItem) : Nat → Int → Int → Option Int
  | 0, _, _ => none
  | j3 + 1, v4, v5 =>
    Option.bind (α := Bool) (bif decide (v5 < (a0.length : Int)) then (some (decide (v4 ≤ 2147483647))) else (some false)) fun (v8 : Bool) =>
    bif v8 then (bindI a0 v5 fun y9 =>
    (F60 k v4 (y9.font.size : Int)).bind fun r12 =>
    F27_l1 k a0 j3 r12 (w (v5 + 1))) else (some v4)
def F27 (k : Nat) (a0 : List GItem) : Option Bool :=
Option.bind (α := Int) (F27_l1 k a0 k (a0.length : Int) 0) fun (v1 : Int) =>
some (decide (v1 > 2147483647))
theorem L27 (k : Nat) (a0 : List GItem) (r : Bool) (hF : F27 k a0 = some r) : PF Try.prog orc 27 [.list 13 (List.map cGItem a0) none] [] [] (fun p fr tk => p = .val (.bool r) ∧ fr = [] ∧ tk = []) := by
  unfold F27 at hF
  refine PF.enterS Try.func27 rfl rfl rfl (by kernel_rfl) rfl ?_
  refine PC.run (n := 2) rfl ?_
  refine PC.region ?_
  refine PO.run 1 rfl ?_
  refine PO.same rfl (len_ok Try.underlying42 rfl (List.length_map _)) rfl ?_
  refine PO.run 1 rfl ?_
  refine PO.nil ?_
  refine PC.assoc ?_
  refine PC.run (n := 2) rfl ?_
  refine bindK hF (fun x1 e2 hF => ?_)
  refine PC.blockJ (fun s => ∃ (v1 : Int), Weak s (PS.of 27 [(2, .val (.bool false)), (3, .val (.int .i64 v1))] [] [] 0 0) ∧ v1 = x1) ?_ ?_
  · refine PC.loop (fun j3 s => ∃ (v4 : Int) (v5 : Int), Weak s (PS.of 27 [(0, .list 13 (List.map cGItem a0) none), (2, .val (.bool false)), (3, .val (.int .i64 v4)), (4, .val (.int .i64 v5))] [] [] 0 0) ∧ F27_l1 k a0 j3 v4 v5 = some x1) (fun j3 s => ?_) k ⟨(a0.length : Int), 0, Weak.one [] [] (by kernel_rfl), e2⟩
    rintro ⟨v4, v5, w4, e2⟩
    refine PC.weak w4 ?_
    cases j3 with
    | zero => rw [F27_l1] at e2; cases e2
    | succ j3 =>
      rw [F27_l1] at e2
      refine PC.assoc ?_
      refine PC.region ?_
      refine PO.run 2 rfl ?_
      refine PO.same rfl (len_ok Try.underlying42 rfl (List.length_map _)) rfl ?_
      refine PO.run 2 rfl ?_
      refine bindK e2 (fun x5 e6 e2 => ?_)
      refine PO.cut 3 (fun s => ∃ (v8 : Bool), Weak s (PS.of 27 [(0, .list 13 (List.map cGItem a0) none), (2, .val (.bool false)), (3, .val (.int .i64 v4)), (4, .val (.int .i64 v5)), (14, .val (.bool v8))] [] [] 0 0) ∧ v8 = x5) ?_ ?_
      · refine PO.case (t := 11) rfl rfl (fun h7 => ?_) (fun h7 => ?_)
        · have e6 := bif_t h7 e6
          refine PO.run 2 rfl ?_
          refine PO.same rfl (pickT_ok rfl rfl rfl) rfl ?_
          refine PO.nil ?_
          exact ⟨decide (v4 ≤ 2147483647), Weak.one [] [] (by kernel_rfl), Option.some.inj e6⟩
        · have e6 := bif_f h7 e6
          refine PO.run 2 rfl ?_
          refine PO.same rfl (pickF_ok rfl rfl rfl) rfl ?_
          refine PO.nil ?_
          exact ⟨false, Weak.one [] [] (by kernel_rfl), Option.some.inj e6⟩
      · rintro _ ⟨v8, w8, rfl⟩
        refine PO.weak w8 ?_
        refine PO.nil ?_
        refine PC.cond rfl (fun h9 => ?_) (fun h9 => ?_)
        · have e2 := bif_t h9 e2
          refine PC.noop ?_
          refine PC.block ?_
          refine PC.lone ?_
          refine PC.region ?_
          refine PO.run 3 rfl ?_
          refine bindIK e2 (fun y9 h10 h11 e2 => ?_)
          refine PO.same rfl (indexAddr_ok Try.underlying42 rfl rfl rfl h10 (map_at h11)) rfl ?_
          refine PO.run 2 rfl ?_
          refine PO.same rfl (lenStr_ok Try.underlying9 rfl) rfl ?_
          refine bindK e2 (fun r12 e13 e2 => ?_)
          refine PO.call rfl rfl rfl rfl (ks := []) (ts := []) (fr1 := []) rfl rfl rfl trivial (L60 k v4 (y9.font.size : Int) _ e13) ?_
          rintro _ _ _ ⟨rfl, rfl, rfl⟩
          refine ⟨_, _, rfl, rfl, ?_⟩
          refine PO.run 1 rfl ?_
          refine PO.nil ?_
          refine PC.skip (blockKP.end ?_)
          refine PC.lone ?_
          refine PC.run (n := 4) rfl ?_
          exact PC.skip (loopKP.mk (Nat.lt_succ_self _) ⟨r12, w (v5 + 1), Weak.one [] [] (by kernel_rfl), e2⟩)
        · have e2 := bif_f h9 e2
          exact PC.exit (loopKP.exit (blockJK.here ⟨v4, Weak.one [] [] (by kernel_rfl), Option.some.inj e2⟩))
  · rintro _ ⟨v1, w14, rfl⟩
    refine PC.weak w14 ?_
    refine PC.run (n := 4) rfl ?_
    have hq := Option.some.inj hF
    subst hq
    exact PC.ret' (retSK [] [] (by kernel_rfl) (.refl _) ⟨rfl, rfl, rfl⟩)

/-! 29 platen/platenlaw14.lent -/
def F29 (k : Nat) (a0 : List GItem) : Option (List GItem) :=
bindA 112 ([] : List GItem) a0 fun l1 =>
bindA 112 l1 ([(GItem.mk (-77) ByteArray.empty 0 0 0 0 0 0 0 0 false 0 0)]) fun l2 =>
some l2
theorem L29 (k : Nat) (a0 : List GItem) (r : List GItem) (hF : F29 k a0 = some r) : PF Try.prog orc 29 [.list 13 (List.map cGItem a0) none] [] [] (fun p fr tk => p = .list 13 (List.map cGItem r) (some 0) ∧ fr = [] ∧ tk = [r.length]) := by
  unfold F29 at hF
  refine PF.enterS Try.func29 rfl rfl rfl (by kernel_rfl) rfl ?_
  refine PC.run (n := 2) rfl ?_
  refine PC.region ?_
  refine PO.runK 2 [] [0] (es := [(0, .list 13 (List.map cGItem a0) none), (2, .val (.slice none 0 0)), (3, .list 13 (List.map cGItem ([] : List GItem)) (some 0))]) (fr' := []) (tk' := [0]) (by kernel_rfl) ?_
  refine PO.nil ?_
  refine PC.region ?_
  refine PO.run 2 rfl ?_
  refine bindAK hF (fun h1 hF => ?_)
  generalize hgl1 : ([] : List GItem) ++ a0 = l1 at hF
  refine PO.one rfl (append_typed (L := ([] : List GItem)) (M := a0) (f := cGItem) (sz := 13) (bytes := 112) Try.underlying42 rfl rfl rfl rfl rfl rfl rfl rfl rfl rfl rfl rfl h1 hgl1) rfl ?_
  refine PO.run 1 rfl ?_
  refine PO.nil ?_
  refine PC.region ?_
  refine PO.runK 3 [] [0, 1] (es := [(2, .val (.slice none 0 0)), (8, .list 13 (List.map cGItem l1) (some 0)), (10, .list 13 (List.map cGItem ([(GItem.mk (-77) ByteArray.empty 0 0 0 0 0 0 0 0 false 0 0)])) (some 1))]) (fr' := []) (tk' := [l1.length, 1]) (by kernel_rfl) ?_
  refine bindAK hF (fun h2 hF => ?_)
  generalize hgl2 : l1 ++ ([(GItem.mk (-77) ByteArray.empty 0 0 0 0 0 0 0 0 false 0 0)]) = l2 at hF
  refine PO.one rfl (append_typed (L := l1) (M := [(GItem.mk (-77) ByteArray.empty 0 0 0 0 0 0 0 0 false 0 0)]) (f := cGItem) (sz := 13) (bytes := 112) Try.underlying42 rfl rfl rfl rfl rfl rfl rfl rfl rfl rfl rfl rfl h2 hgl2) rfl ?_
  refine PO.run 1 rfl ?_
  refine PO.nil ?_
  have hq := Option.some.inj hF
  subst hq
  exact PC.ret' (retSK [] [0] (by kernel_rfl) (.refl _) ⟨rfl, rfl, rfl⟩)

/-! 92 platen/items.within -/
def F92 (k : Nat) (a0 : Int) (a1 : Int) (a2 : Int) : Option Bool :=
Option.bind (α := Bool) (bif decide (a1 ≤ a0) then (some (decide (a0 ≤ a2))) else (some false)) fun (v1 : Bool) =>
some v1
theorem L92 (k : Nat) (a0 : Int) (a1 : Int) (a2 : Int) (r : Bool) (hF : F92 k a0 a1 a2 = some r) : PF Try.prog orc 92 [.val (.int .i64 a0), .val (.int .i64 a1), .val (.int .i64 a2)] [] [] (fun p fr tk => p = .val (.bool r) ∧ fr = [] ∧ tk = []) := by
  unfold F92 at hF
  refine PF.enterS Try.func92 rfl rfl rfl (by kernel_rfl) rfl ?_
  refine PC.run (n := 2) rfl ?_
  refine PC.region ?_
  refine PO.run 4 rfl ?_
  refine bindK hF (fun x1 e2 hF => ?_)
  refine PO.cut 4 (fun s => ∃ (v1 : Bool), Weak s (PS.of 15 [(6, .val (.bool false)), (14, .val (.bool v1))] [] [] 0 0) ∧ v1 = x1) ?_ ?_
  · refine PO.case (t := 10) rfl rfl (fun h3 => ?_) (fun h3 => ?_)
    · have e2 := bif_t h3 e2
      refine PO.run 3 rfl ?_
      refine PO.same rfl (pickT_ok rfl rfl rfl) rfl ?_
      refine PO.nil ?_
      exact ⟨decide (a0 ≤ a2), Weak.one [] [] (by kernel_rfl), Option.some.inj e2⟩
    · have e2 := bif_f h3 e2
      refine PO.run 3 rfl ?_
      refine PO.same rfl (pickF_ok rfl rfl rfl) rfl ?_
      refine PO.nil ?_
      exact ⟨false, Weak.one [] [] (by kernel_rfl), Option.some.inj e2⟩
  · rintro _ ⟨v1, w4, rfl⟩
    refine PO.weak w4 ?_
    refine PO.run 1 rfl ?_
    refine PO.nil ?_
    have hq := Option.some.inj hF
    subst hq
    exact PC.ret' (retSK [] [] (by kernel_rfl) (.refl _) ⟨rfl, rfl, rfl⟩)

/-! 104 platen/items.measured -/
def F104 (k : Nat) (a0 : GItem) : Option Bool :=
(F92 k a0.size 1 67108864).bind fun r1 =>
Option.bind (α := Bool) (bif r1 then ((F92 k a0.width 0 1099511627776).bind fun r6 =>
Option.bind (α := Bool) (bif r6 then ((F92 k a0.height 0 1099511627776).bind fun r11 =>
Option.bind (α := Bool) (bif r11 then ((F92 k a0.depth 0 1099511627776).bind fun r16 =>
some r16) else (some false)) fun (v3 : Bool) =>
some v3) else (some false)) fun (v2 : Bool) =>
some v2) else (some false)) fun (v1 : Bool) =>
some v1
theorem L104 (k : Nat) (a0 : GItem) (r : Bool) (hF : F104 k a0 = some r) : PF Try.prog orc 104 [.agg (cGItem a0)] [] [] (fun p fr tk => p = .val (.bool r) ∧ fr = [] ∧ tk = []) := by
  unfold F104 at hF
  refine PF.enterS Try.func104 rfl rfl rfl (by kernel_rfl) rfl ?_
  refine PC.region ?_
  refine PO.runK 2 [0] [] (es := [(1, .ptr 0 0), (2, .val (.bool false))]) (fr' := [⟨0, (cGItem a0)⟩]) (tk' := []) (by kernel_rfl) ?_
  refine PO.nil ?_
  refine PC.region ?_
  refine PO.run 2 rfl ?_
  refine bindK hF (fun r1 e2 hF => ?_)
  refine PO.call rfl rfl rfl rfl (ks := []) (ts := []) (fr1 := []) rfl rfl rfl trivial (L92 k a0.size 1 67108864 _ e2) ?_
  rintro _ _ _ ⟨rfl, rfl, rfl⟩
  refine ⟨_, _, rfl, rfl, ?_⟩
  refine PO.run 1 rfl ?_
  refine bindK hF (fun x3 e4 hF => ?_)
  refine PO.cut 14 (fun s => ∃ (v1 : Bool), Weak s (PS.of 21 [(2, .val (.bool false)), (20, .val (.bool v1))] [] [] 0 0) ∧ v1 = x3) ?_ ?_
  · refine PO.case (t := 6) rfl rfl (fun h5 => ?_) (fun h5 => ?_)
    · have e4 := bif_t h5 e4
      refine PO.runK 2 [0] [] (es := [(1, .ptr 0 0), (2, .val (.bool false)), (6, .val (.bool true)), (8, .val (.int .i64 a0.width))]) (fr' := [⟨0, (cGItem a0)⟩]) (tk' := []) (by kernel_rfl) ?_
      refine bindK e4 (fun r6 e7 e4 => ?_)
      refine PO.call rfl rfl rfl rfl (ks := []) (ts := []) (fr1 := []) rfl rfl rfl trivial (L92 k a0.width 0 1099511627776 _ e7) ?_
      rintro _ _ _ ⟨rfl, rfl, rfl⟩
      refine ⟨_, _, rfl, rfl, ?_⟩
      refine PO.same rfl (pickT_ok rfl rfl rfl) rfl ?_
      refine PO.run 1 rfl ?_
      refine bindK e4 (fun x8 e9 e4 => ?_)
      refine PO.cut 9 (fun s => ∃ (v2 : Bool), Weak s (PS.of 21 [(2, .val (.bool false)), (20, .val (.bool v2))] [] [] 0 0) ∧ v2 = x8) ?_ ?_
      · refine PO.case (t := 11) rfl rfl (fun h10 => ?_) (fun h10 => ?_)
        · have e9 := bif_t h10 e9
          refine PO.runK 2 [0] [] (es := [(1, .ptr 0 0), (2, .val (.bool false)), (11, .val (.bool true)), (13, .val (.int .i64 a0.height))]) (fr' := [⟨0, (cGItem a0)⟩]) (tk' := []) (by kernel_rfl) ?_
          refine bindK e9 (fun r11 e12 e9 => ?_)
          refine PO.call rfl rfl rfl rfl (ks := []) (ts := []) (fr1 := []) rfl rfl rfl trivial (L92 k a0.height 0 1099511627776 _ e12) ?_
          rintro _ _ _ ⟨rfl, rfl, rfl⟩
          refine ⟨_, _, rfl, rfl, ?_⟩
          refine PO.same rfl (pickT_ok rfl rfl rfl) rfl ?_
          refine PO.run 1 rfl ?_
          refine bindK e9 (fun x13 e14 e9 => ?_)
          refine PO.cut 4 (fun s => ∃ (v3 : Bool), Weak s (PS.of 21 [(2, .val (.bool false)), (20, .val (.bool v3))] [] [] 0 0) ∧ v3 = x13) ?_ ?_
          · refine PO.case (t := 16) rfl rfl (fun h15 => ?_) (fun h15 => ?_)
            · have e14 := bif_t h15 e14
              refine PO.runK 2 [] [] (es := [(2, .val (.bool false)), (16, .val (.bool true)), (18, .val (.int .i64 a0.depth))]) (fr' := []) (tk' := []) (by kernel_rfl) ?_
              refine bindK e14 (fun r16 e17 e14 => ?_)
              refine PO.call rfl rfl rfl rfl (ks := []) (ts := []) (fr1 := []) rfl rfl rfl trivial (L92 k a0.depth 0 1099511627776 _ e17) ?_
              rintro _ _ _ ⟨rfl, rfl, rfl⟩
              refine ⟨_, _, rfl, rfl, ?_⟩
              refine PO.same rfl (pickT_ok rfl rfl rfl) rfl ?_
              refine PO.nil ?_
              exact ⟨r16, Weak.one [] [] (by kernel_rfl), Option.some.inj e14⟩
            · have e14 := bif_f h15 e14
              refine PO.run 3 rfl ?_
              refine PO.same rfl (pickF_ok rfl rfl rfl) rfl ?_
              refine PO.nil ?_
              exact ⟨false, Weak.one [] [] (by kernel_rfl), Option.some.inj e14⟩
          · rintro _ ⟨v3, w18, rfl⟩
            refine PO.weak w18 ?_
            refine PO.nil ?_
            exact ⟨v3, Weak.one [] [] (by kernel_rfl), Option.some.inj e9⟩
        · have e9 := bif_f h10 e9
          refine PO.run 3 rfl ?_
          refine PO.same rfl (pickF_ok rfl rfl rfl) rfl ?_
          refine PO.run 4 rfl ?_
          refine PO.same rfl (pickF_ok rfl rfl rfl) rfl ?_
          refine PO.nil ?_
          exact ⟨false, Weak.one [] [] (by kernel_rfl), Option.some.inj e9⟩
      · rintro _ ⟨v2, w19, rfl⟩
        refine PO.weak w19 ?_
        refine PO.nil ?_
        exact ⟨v2, Weak.one [] [] (by kernel_rfl), Option.some.inj e4⟩
    · have e4 := bif_f h5 e4
      refine PO.run 3 rfl ?_
      refine PO.same rfl (pickF_ok rfl rfl rfl) rfl ?_
      refine PO.run 4 rfl ?_
      refine PO.same rfl (pickF_ok rfl rfl rfl) rfl ?_
      refine PO.run 4 rfl ?_
      refine PO.same rfl (pickF_ok rfl rfl rfl) rfl ?_
      refine PO.nil ?_
      exact ⟨false, Weak.one [] [] (by kernel_rfl), Option.some.inj e4⟩
  · rintro _ ⟨v1, w20, rfl⟩
    refine PO.weak w20 ?_
    refine PO.run 1 rfl ?_
    refine PO.nil ?_
    have hq := Option.some.inj hF
    subst hq
    exact PC.ret' (retSK [] [] (by kernel_rfl) (.refl _) ⟨rfl, rfl, rfl⟩)

/-! 110 unicode/utf8.RuneLen -/
def F110 (k : Nat) (a0 : Int) : Option Int :=
bif decide (a0 < 0) then (some (-1)) else (bif decide (a0 ≤ 127) then (some 1) else (bif decide (a0 ≤ 2047) then (some 2) else (Option.bind (α := Bool) (bif decide (55296 ≤ a0) then (some (decide (a0 ≤ 57343))) else (some false)) fun (v1 : Bool) =>
bif v1 then (some (-1)) else (bif decide (a0 ≤ 65535) then (some 3) else (bif decide (a0 ≤ 1114111) then (some 4) else (some (-1)))))))
theorem L110 (k : Nat) (a0 : Int) (r : Int) (hF : F110 k a0 = some r) : PF Try.prog orc 110 [.val (.int .i32 a0)] [] [] (fun p fr tk => p = .val (.int .i64 r) ∧ fr = [] ∧ tk = []) := by
  unfold F110 at hF
  refine PF.enterS Try.func110 rfl rfl rfl (by kernel_rfl) rfl ?_
  refine PC.run (n := 2) rfl ?_
  refine PC.block ?_
  refine PC.run (n := 4) rfl ?_
  refine PC.lone ?_
  refine PC.cond rfl (fun h1 => ?_) (fun h1 => ?_)
  · have hF := bif_t h1 hF
    refine PC.assoc ?_
    refine PC.run (n := 2) rfl ?_
    have hq := Option.some.inj hF
    subst hq
    exact PC.ret (blockKP.back (retSK [] [] (by kernel_rfl) (.refl _) ⟨rfl, rfl, rfl⟩))
  · have hF := bif_f h1 hF
    refine PC.assoc ?_
    refine PC.run (n := 4) rfl ?_
    refine PC.cond rfl (fun h2 => ?_) (fun h2 => ?_)
    · have hF := bif_t h2 hF
      refine PC.assoc ?_
      refine PC.run (n := 2) rfl ?_
      have hq := Option.some.inj hF
      subst hq
      exact PC.ret (blockKP.back (retSK [] [] (by kernel_rfl) (.refl _) ⟨rfl, rfl, rfl⟩))
    · have hF := bif_f h2 hF
      refine PC.assoc ?_
      refine PC.run (n := 4) rfl ?_
      refine PC.cond rfl (fun h3 => ?_) (fun h3 => ?_)
      · have hF := bif_t h3 hF
        refine PC.assoc ?_
        refine PC.run (n := 2) rfl ?_
        have hq := Option.some.inj hF
        subst hq
        exact PC.ret (blockKP.back (retSK [] [] (by kernel_rfl) (.refl _) ⟨rfl, rfl, rfl⟩))
      · have hF := bif_f h3 hF
        refine PC.assoc ?_
        refine PC.region ?_
        refine PO.run 3 rfl ?_
        refine bindK hF (fun x4 e5 hF => ?_)
        refine PO.cut 3 (fun s => ∃ (v1 : Bool), Weak s (PS.of 25 [(0, .val (.int .i32 a0)), (2, .val (.int .i64 0)), (18, .val (.bool v1))] [] [] 0 0) ∧ v1 = x4) ?_ ?_
        · refine PO.case (t := 15) rfl rfl (fun h6 => ?_) (fun h6 => ?_)
          · have e5 := bif_t h6 e5
            refine PO.run 2 rfl ?_
            refine PO.same rfl (pickT_ok rfl rfl rfl) rfl ?_
            refine PO.nil ?_
            exact ⟨decide (a0 ≤ 57343), Weak.one [] [] (by kernel_rfl), Option.some.inj e5⟩
          · have e5 := bif_f h6 e5
            refine PO.run 2 rfl ?_
            refine PO.same rfl (pickF_ok rfl rfl rfl) rfl ?_
            refine PO.nil ?_
            exact ⟨false, Weak.one [] [] (by kernel_rfl), Option.some.inj e5⟩
        · rintro _ ⟨v1, w7, rfl⟩
          refine PO.weak w7 ?_
          refine PO.run 1 rfl ?_
          refine PO.nil ?_
          refine PC.cond rfl (fun h8 => ?_) (fun h8 => ?_)
          · have hF := bif_t h8 hF
            refine PC.assoc ?_
            refine PC.run (n := 2) rfl ?_
            have hq := Option.some.inj hF
            subst hq
            exact PC.ret (blockKP.back (retSK [] [] (by kernel_rfl) (.refl _) ⟨rfl, rfl, rfl⟩))
          · have hF := bif_f h8 hF
            refine PC.assoc ?_
            refine PC.run (n := 4) rfl ?_
            refine PC.cond rfl (fun h9 => ?_) (fun h9 => ?_)
            · have hF := bif_t h9 hF
              refine PC.assoc ?_
              refine PC.run (n := 2) rfl ?_
              have hq := Option.some.inj hF
              subst hq
              exact PC.ret (blockKP.back (retSK [] [] (by kernel_rfl) (.refl _) ⟨rfl, rfl, rfl⟩))
            · have hF := bif_f h9 hF
              refine PC.assoc ?_
              refine PC.run (n := 4) rfl ?_
              refine PC.cond rfl (fun h10 => ?_) (fun h10 => ?_)
              · have hF := bif_t h10 hF
                refine PC.assoc ?_
                refine PC.run (n := 2) rfl ?_
                have hq := Option.some.inj hF
                subst hq
                exact PC.ret (blockKP.back (retSK [] [] (by kernel_rfl) (.refl _) ⟨rfl, rfl, rfl⟩))
              · have hF := bif_f h10 hF
                refine PC.noop ?_
                refine PC.skip (blockKP.end ?_)
                refine PC.run (n := 2) rfl ?_
                have hq := Option.some.inj hF
                subst hq
                exact PC.ret' (retSK [] [] (by kernel_rfl) (.refl _) ⟨rfl, rfl, rfl⟩)

/-! 105 platen/runes.Width -/
def F105 (k : Nat) (a0 : Int) : Option Int :=
Option.bind (α := Bool) (bif decide (a0 < 0) then (some true) else (Option.bind (α := Bool) (bif decide (a0 > 1114111) then (some true) else (Option.bind (α := Bool) (bif decide (a0 ≥ 55296) then (some (decide (a0 ≤ 57343))) else (some false)) fun (v3 : Bool) =>
some v3)) fun (v2 : Bool) =>
some v2)) fun (v1 : Bool) =>
bif v1 then (some 0) else ((F110 k (w_i32 (a0))).bind fun r14 =>
some r14)
theorem L105 (k : Nat) (a0 : Int) (r : Int) (hF : F105 k a0 = some r) : PF Try.prog orc 105 [.val (.int .i64 a0)] [] [] (fun p fr tk => p = .val (.int .i64 r) ∧ fr = [] ∧ tk = []) := by
  unfold F105 at hF
  refine PF.enterS Try.func105 rfl rfl rfl (by kernel_rfl) rfl ?_
  refine PC.run (n := 2) rfl ?_
  refine PC.assoc ?_
  refine PC.region ?_
  refine PO.run 3 rfl ?_
  refine bindK hF (fun x1 e2 hF => ?_)
  refine PO.cut 11 (fun s => ∃ (v1 : Bool), Weak s (PS.of 20 [(0, .val (.int .i64 a0)), (2, .val (.int .i64 0)), (16, .val (.bool v1))] [] [] 0 0) ∧ v1 = x1) ?_ ?_
  · refine PO.case (t := 5) rfl rfl (fun h3 => ?_) (fun h3 => ?_)
    · have e2 := bif_t h3 e2
      refine PO.run 2 rfl ?_
      refine PO.same rfl (pickT_ok rfl rfl rfl) rfl ?_
      refine PO.run 7 rfl ?_
      refine PO.same rfl (pickT_ok rfl rfl rfl) rfl ?_
      refine PO.nil ?_
      exact ⟨true, Weak.one [] [] (by kernel_rfl), Option.some.inj e2⟩
    · have e2 := bif_f h3 e2
      refine PO.run 2 rfl ?_
      refine PO.same rfl (pickF_ok rfl rfl rfl) rfl ?_
      refine PO.run 1 rfl ?_
      refine bindK e2 (fun x4 e5 e2 => ?_)
      refine PO.cut 7 (fun s => ∃ (v2 : Bool), Weak s (PS.of 20 [(0, .val (.int .i64 a0)), (2, .val (.int .i64 0)), (16, .val (.bool v2))] [] [] 0 0) ∧ v2 = x4) ?_ ?_
      · refine PO.case (t := 9) rfl rfl (fun h6 => ?_) (fun h6 => ?_)
        · have e5 := bif_t h6 e5
          refine PO.run 6 rfl ?_
          refine PO.same rfl (pickT_ok rfl rfl rfl) rfl ?_
          refine PO.nil ?_
          exact ⟨true, Weak.one [] [] (by kernel_rfl), Option.some.inj e5⟩
        · have e5 := bif_f h6 e5
          refine PO.run 3 rfl ?_
          refine bindK e5 (fun x7 e8 e5 => ?_)
          refine PO.cut 4 (fun s => ∃ (v3 : Bool), Weak s (PS.of 20 [(0, .val (.int .i64 a0)), (2, .val (.int .i64 0)), (16, .val (.bool v3))] [] [] 0 0) ∧ v3 = x7) ?_ ?_
          · refine PO.case (t := 12) rfl rfl (fun h9 => ?_) (fun h9 => ?_)
            · have e8 := bif_t h9 e8
              refine PO.run 2 rfl ?_
              refine PO.same rfl (pickT_ok rfl rfl rfl) rfl ?_
              refine PO.same rfl (pickF_ok rfl rfl rfl) rfl ?_
              refine PO.nil ?_
              exact ⟨decide (a0 ≤ 57343), Weak.one [] [] (by kernel_rfl), Option.some.inj e8⟩
            · have e8 := bif_f h9 e8
              refine PO.run 2 rfl ?_
              refine PO.same rfl (pickF_ok rfl rfl rfl) rfl ?_
              refine PO.same rfl (pickF_ok rfl rfl rfl) rfl ?_
              refine PO.nil ?_
              exact ⟨false, Weak.one [] [] (by kernel_rfl), Option.some.inj e8⟩
          · rintro _ ⟨v3, w10, rfl⟩
            refine PO.weak w10 ?_
            refine PO.nil ?_
            exact ⟨v3, Weak.one [] [] (by kernel_rfl), Option.some.inj e5⟩
      · rintro _ ⟨v2, w11, rfl⟩
        refine PO.weak w11 ?_
        refine PO.nil ?_
        exact ⟨v2, Weak.one [] [] (by kernel_rfl), Option.some.inj e2⟩
  · rintro _ ⟨v1, w12, rfl⟩
    refine PO.weak w12 ?_
    refine PO.nil ?_
    refine PC.cond rfl (fun h13 => ?_) (fun h13 => ?_)
    · have hF := bif_t h13 hF
      refine PC.assoc ?_
      refine PC.run (n := 2) rfl ?_
      have hq := Option.some.inj hF
      subst hq
      exact PC.ret (retSK [] [] (by kernel_rfl) (.refl _) ⟨rfl, rfl, rfl⟩)
    · have hF := bif_f h13 hF
      refine PC.noop ?_
      refine PC.region ?_
      refine PO.run 2 rfl ?_
      refine bindK hF (fun r14 e15 hF => ?_)
      refine PO.call rfl rfl rfl rfl (ks := []) (ts := []) (fr1 := []) rfl rfl rfl trivial (L110 k (w_i32 (a0)) _ e15) ?_
      rintro _ _ _ ⟨rfl, rfl, rfl⟩
      refine ⟨_, _, rfl, rfl, ?_⟩
      refine PO.run 1 rfl ?_
      refine PO.nil ?_
      have hq := Option.some.inj hF
      subst hq
      exact PC.ret' (retSK [] [] (by kernel_rfl) (.refl _) ⟨rfl, rfl, rfl⟩)

/-! 91 platen/items.right -/
def F91 (k : Nat) (a0 : GItem) (a1 : GItem) (a2 : GItem) : Option Bool :=
Option.bind (α := Bool × ByteArray × Int × Int × Int × Int × Int × Int × Int × Int × Bool × Int × Int) (bif a0.kind == 1 then ((F104 k a0).bind fun r4 =>
Option.bind (α := Bool) (bif r4 then ((F105 k a0.rune).bind fun r9 =>
some (decide (r9 > 0))) else (some false)) fun (v14 : Bool) =>
some (v14, a0.font, a0.size, a0.rune, a0.width, a0.height, a0.depth, 0, 0, 0, false, a0.from_, a0.to_)) else (bif a0.kind == 2 then (Option.bind (α := Bool) (bif a1.kind == 1 then (Option.bind (α := Bool) (bif a2.kind == 1 then (Option.bind (α := Bool) (bif a0.width != 0 then ((F92 k a0.width (w (0 - (if a2.width < a1.width then a2.width else a1.width))) 1099511627776).bind fun r22 =>
some r22) else (some false)) fun (v17 : Bool) =>
some v17) else (some false)) fun (v16 : Bool) =>
some v16) else (some false)) fun (v15 : Bool) =>
some (v15, ByteArray.empty, 0, 0, a0.width, 0, 0, 0, 0, 0, false, 0, 0)) else (bif a0.kind == 3 then ((F92 k a0.size 1 67108864).bind fun r28 =>
Option.bind (α := Bool) (bif r28 then ((F92 k a0.width 0 67108864).bind fun r33 =>
Option.bind (α := Bool) (bif r33 then ((F92 k a0.stretch 0 67108864).bind fun r38 =>
Option.bind (α := Bool) (bif r38 then ((F92 k a0.shrink 0 a0.width).bind fun r43 =>
some r43) else (some false)) fun (v20 : Bool) =>
some v20) else (some false)) fun (v19 : Bool) =>
some v19) else (some false)) fun (v18 : Bool) =>
some (v18, a0.font, a0.size, 0, a0.width, 0, 0, a0.stretch, a0.shrink, 0, false, a0.from_, a0.to_)) else (bif a0.kind == 4 then ((F92 k a0.value (-10000) 10000).bind fun r49 =>
bif a0.flag then (Option.bind (α := Bool) (bif r49 then ((F104 k a0).bind fun r55 =>
Option.bind (α := Bool) (bif r55 then (Option.bind (α := Bool) (bif a0.rune == 45 then (some (decide (a0.value > (-10000)))) else (some false)) fun (v23 : Bool) =>
some v23) else (some false)) fun (v22 : Bool) =>
some v22) else (some false)) fun (v21 : Bool) =>
some (v21, a0.font, a0.size, a0.rune, a0.width, a0.height, a0.depth, 0, 0, a0.value, true, a0.from_, a0.to_)) else (some (r49, ByteArray.empty, 0, 0, 0, 0, 0, 0, 0, a0.value, false, a0.from_, a0.to_))) else (some (false, ByteArray.empty, 0, 0, 0, 0, 0, 0, 0, 0, false, a0.from_, a0.to_)))))) fun (v1, v2, v3, v4, v5, v6, v7, v8, v9, v10, v11, v12, v13) =>
Option.bind (α := Bool) (bif v1 then (some (a0.kind == a0.kind && (a0.font == v2 && (a0.size == v3 && (a0.rune == v4 && (a0.width == v5 && (a0.height == v6 && (a0.depth == v7 && (a0.stretch == v8 && (a0.shrink == v9 && (a0.value == v10 && (a0.flag == v11 && (a0.from_ == v12 && (a0.to_ == v13 && true)))))))))))))) else (some false)) fun (v24 : Bool) =>
some v24
theorem L91 (k : Nat) (a0 : GItem) (a1 : GItem) (a2 : GItem) (r : Bool) (hF : F91 k a0 a1 a2 = some r) : PF Try.prog orc 91 [.agg (cGItem a0), .agg (cGItem a1), .agg (cGItem a2)] [] [] (fun p fr tk => p = .val (.bool r) ∧ fr = [] ∧ tk = []) := by
  unfold F91 at hF
  refine PF.enterS Try.func91 rfl rfl rfl (by kernel_rfl) rfl ?_
  refine PC.region ?_
  refine PO.runK 4 [0, 1, 2] [] (es := [(3, .ptr 0 0), (4, .ptr 1 0), (5, .ptr 2 0), (6, .val (.bool false))]) (fr' := [⟨0, (cGItem a0)⟩, ⟨0, (cGItem a1)⟩, ⟨0, (cGItem a2)⟩]) (tk' := []) (by kernel_rfl) ?_
  refine PO.nil ?_
  refine PC.region ?_
  refine PO.runK 9 [0, 1, 2, 3] [] (es := [(3, .ptr 0 0), (4, .ptr 1 0), (5, .ptr 2 0), (6, .val (.bool false)), (7, .ptr 3 0)]) (fr' := [⟨0, (cGItem a0)⟩, ⟨0, (cGItem a1)⟩, ⟨0, (cGItem a2)⟩, ⟨0, [.val (.int .i64 a0.kind), .val (.string ByteArray.empty), .val (.int .i64 0), .val (.int .i64 0), .val (.int .i64 0), .val (.int .i64 0), .val (.int .i64 0), .val (.int .i64 0), .val (.int .i64 0), .val (.int .i64 0), .val (.bool false), .val (.int .i64 a0.from_), .val (.int .i64 a0.to_)]⟩]) (tk' := []) (by kernel_rfl) ?_
  refine PO.nil ?_
  refine PC.run (n := 2) rfl ?_
  refine PC.assoc ?_
  refine PC.run (n := 3) rfl ?_
  refine bindK hF (fun x1 e2 hF => ?_)
  refine PC.blockJ (fun s => ∃ (v1 : Bool) (v2 : ByteArray) (v3 : Int) (v4 : Int) (v5 : Int) (v6 : Int) (v7 : Int) (v8 : Int) (v9 : Int) (v10 : Int) (v11 : Bool) (v12 : Int) (v13 : Int), Weak s (PS.of 164 [(3, .ptr 0 0), (6, .val (.bool false)), (7, .ptr 1 0), (8, .val (.bool v1))] [⟨0, (cGItem a0)⟩, ⟨0, [.val (.int .i64 a0.kind), .val (.string v2), .val (.int .i64 v3), .val (.int .i64 v4), .val (.int .i64 v5), .val (.int .i64 v6), .val (.int .i64 v7), .val (.int .i64 v8), .val (.int .i64 v9), .val (.int .i64 v10), .val (.bool v11), .val (.int .i64 v12), .val (.int .i64 v13)]⟩] [] 0 0) ∧ (v1, v2, v3, v4, v5, v6, v7, v8, v9, v10, v11, v12, v13) = x1) ?_ ?_
  · refine PC.run (n := 3) rfl ?_
    refine PC.lone ?_
    refine PC.cond rfl (fun h3 => ?_) (fun h3 => ?_)
    · have e2 := bif_t h3 e2
      refine PC.assoc ?_
      refine PC.draw [0, 1, 12, 13, 2, 3, 14, 15, 4, 5, 16, 17, 6, 7, 18, 19, 8, 9, 20, 21, 10, 11, 22, 23] (by kernel_rfl) ?_
      refine PD.runK 24 (js' := []) (σ' := ⟨16777215, 16777215, 8388607, [(23, [3], false), (21, [3, 3], false), (19, [3, 3, 3], false), (17, [3, 3, 3, 3], false), (15, [3, 3, 3, 3, 3], false), (13, [3, 3, 3, 3, 3, 3], false)]⟩) (es := [(3, .ptr 0 0), (6, .val (.bool false)), (7, .ptr 3 0), (8, .val (.bool false))]) (fr' := [⟨0, (cGItem a0)⟩, ⟨0, (cGItem a1)⟩, ⟨0, (cGItem a2)⟩, ⟨0, [.val (.int .i64 a0.kind), .val (.string a0.font), .val (.int .i64 a0.size), .val (.int .i64 a0.rune), .val (.int .i64 a0.width), .val (.int .i64 a0.height), .val (.int .i64 a0.depth), .val (.int .i64 0), .val (.int .i64 0), .val (.int .i64 0), .val (.bool false), .val (.int .i64 a0.from_), .val (.int .i64 a0.to_)]⟩]) (tk' := []) (by kernel_rfl) ?_
      refine PD.done [0, 3] [] (es := [(3, .ptr 0 0), (6, .val (.bool false)), (7, .ptr 1 0), (8, .val (.bool false))]) (fr' := [⟨0, (cGItem a0)⟩, ⟨0, [.val (.int .i64 a0.kind), .val (.string a0.font), .val (.int .i64 a0.size), .val (.int .i64 a0.rune), .val (.int .i64 a0.width), .val (.int .i64 a0.height), .val (.int .i64 a0.depth), .val (.int .i64 0), .val (.int .i64 0), .val (.int .i64 0), .val (.bool false), .val (.int .i64 a0.from_), .val (.int .i64 a0.to_)]⟩]) (tk' := []) (by kernel_rfl) (by kernel_rfl) ?_
      refine PC.region ?_
      refine PO.run 1 rfl ?_
      refine bindK e2 (fun r4 e5 e2 => ?_)
      refine PO.call rfl rfl rfl rfl (ks := []) (ts := []) (fr1 := []) rfl rfl rfl trivial (L104 k a0 _ e5) ?_
      rintro _ _ _ ⟨rfl, rfl, rfl⟩
      refine ⟨_, _, rfl, rfl, ?_⟩
      refine PO.run 1 rfl ?_
      refine bindK e2 (fun x6 e7 e2 => ?_)
      refine PO.cut 5 (fun s => ∃ (v14 : Bool), Weak s (PS.of 164 [(3, .ptr 0 0), (6, .val (.bool false)), (7, .ptr 1 0), (8, .val (.bool false)), (45, .val (.bool v14))] [⟨0, (cGItem a0)⟩, ⟨0, [.val (.int .i64 a0.kind), .val (.string a0.font), .val (.int .i64 a0.size), .val (.int .i64 a0.rune), .val (.int .i64 a0.width), .val (.int .i64 a0.height), .val (.int .i64 a0.depth), .val (.int .i64 0), .val (.int .i64 0), .val (.int .i64 0), .val (.bool false), .val (.int .i64 a0.from_), .val (.int .i64 a0.to_)]⟩] [] 0 0) ∧ v14 = x6) ?_ ?_
      · refine PO.case (t := 40) rfl rfl (fun h8 => ?_) (fun h8 => ?_)
        · have e7 := bif_t h8 e7
          refine PO.runK 2 [0, 1] [] (es := [(3, .ptr 0 0), (6, .val (.bool false)), (7, .ptr 1 0), (8, .val (.bool false)), (40, .val (.bool true)), (42, .val (.int .i64 a0.rune))]) (fr' := [⟨0, (cGItem a0)⟩, ⟨0, [.val (.int .i64 a0.kind), .val (.string a0.font), .val (.int .i64 a0.size), .val (.int .i64 a0.rune), .val (.int .i64 a0.width), .val (.int .i64 a0.height), .val (.int .i64 a0.depth), .val (.int .i64 0), .val (.int .i64 0), .val (.int .i64 0), .val (.bool false), .val (.int .i64 a0.from_), .val (.int .i64 a0.to_)]⟩]) (tk' := []) (by kernel_rfl) ?_
          refine bindK e7 (fun r9 e10 e7 => ?_)
          refine PO.call rfl rfl rfl rfl (ks := []) (ts := []) (fr1 := []) rfl rfl rfl trivial (L105 k a0.rune _ e10) ?_
          rintro _ _ _ ⟨rfl, rfl, rfl⟩
          refine ⟨_, _, rfl, rfl, ?_⟩
          refine PO.run 1 rfl ?_
          refine PO.same rfl (pickT_ok rfl rfl rfl) rfl ?_
          refine PO.nil ?_
          exact ⟨decide (r9 > 0), Weak.one [0, 1] [] (by kernel_rfl), Option.some.inj e7⟩
        · have e7 := bif_f h8 e7
          refine PO.run 4 rfl ?_
          refine PO.same rfl (pickF_ok rfl rfl rfl) rfl ?_
          refine PO.nil ?_
          exact ⟨false, Weak.one [0, 1] [] (by kernel_rfl), Option.some.inj e7⟩
      · rintro _ ⟨v14, w11, rfl⟩
        refine PO.weak w11 ?_
        refine PO.run 1 rfl ?_
        refine PO.nil ?_
        exact PC.skip (blockJK.end ⟨v14, a0.font, a0.size, a0.rune, a0.width, a0.height, a0.depth, 0, 0, 0, false, a0.from_, a0.to_, Weak.one [0, 1] [] (by kernel_rfl), Option.some.inj e2⟩)
    · have e2 := bif_f h3 e2
      refine PC.assoc ?_
      refine PC.run (n := 3) rfl ?_
      refine PC.cond rfl (fun h12 => ?_) (fun h12 => ?_)
      · have e2 := bif_t h12 e2
        refine PC.assoc ?_
        refine PC.region ?_
        refine PO.runK 6 [0, 1, 2, 3] [] (es := [(3, .ptr 0 0), (4, .ptr 1 0), (5, .ptr 2 0), (6, .val (.bool false)), (7, .ptr 3 0), (8, .val (.bool false))]) (fr' := [⟨0, (cGItem a0)⟩, ⟨0, (cGItem a1)⟩, ⟨0, (cGItem a2)⟩, ⟨0, [.val (.int .i64 a0.kind), .val (.string ByteArray.empty), .val (.int .i64 0), .val (.int .i64 0), .val (.int .i64 a0.width), .val (.int .i64 0), .val (.int .i64 0), .val (.int .i64 0), .val (.int .i64 0), .val (.int .i64 0), .val (.bool false), .val (.int .i64 0), .val (.int .i64 0)]⟩]) (tk' := []) (by kernel_rfl) ?_
        refine PO.nil ?_
        refine PC.region ?_
        refine PO.run 4 rfl ?_
        refine bindK e2 (fun x13 e14 e2 => ?_)
        refine PO.cut 20 (fun s => ∃ (v15 : Bool), Weak s (PS.of 164 [(3, .ptr 0 0), (6, .val (.bool false)), (7, .ptr 1 0), (8, .val (.bool false)), (76, .val (.bool v15))] [⟨0, (cGItem a0)⟩, ⟨0, [.val (.int .i64 a0.kind), .val (.string ByteArray.empty), .val (.int .i64 0), .val (.int .i64 0), .val (.int .i64 a0.width), .val (.int .i64 0), .val (.int .i64 0), .val (.int .i64 0), .val (.int .i64 0), .val (.int .i64 0), .val (.bool false), .val (.int .i64 0), .val (.int .i64 0)]⟩] [] 0 0) ∧ v15 = x13) ?_ ?_
        · refine PO.case (t := 56) rfl rfl (fun h15 => ?_) (fun h15 => ?_)
          · have e14 := bif_t h15 e14
            refine PO.run 3 rfl ?_
            refine PO.same rfl (pickT_ok rfl rfl rfl) rfl ?_
            refine PO.run 1 rfl ?_
            refine bindK e14 (fun x16 e17 e14 => ?_)
            refine PO.cut 15 (fun s => ∃ (v16 : Bool), Weak s (PS.of 164 [(3, .ptr 0 0), (6, .val (.bool false)), (7, .ptr 1 0), (8, .val (.bool false)), (76, .val (.bool v16))] [⟨0, (cGItem a0)⟩, ⟨0, [.val (.int .i64 a0.kind), .val (.string ByteArray.empty), .val (.int .i64 0), .val (.int .i64 0), .val (.int .i64 a0.width), .val (.int .i64 0), .val (.int .i64 0), .val (.int .i64 0), .val (.int .i64 0), .val (.int .i64 0), .val (.bool false), .val (.int .i64 0), .val (.int .i64 0)]⟩] [] 0 0) ∧ v16 = x16) ?_ ?_
            · refine PO.case (t := 61) rfl rfl (fun h18 => ?_) (fun h18 => ?_)
              · have e17 := bif_t h18 e17
                refine PO.run 3 rfl ?_
                refine PO.same rfl (pickT_ok rfl rfl rfl) rfl ?_
                refine PO.run 1 rfl ?_
                refine bindK e17 (fun x19 e20 e17 => ?_)
                refine PO.cut 10 (fun s => ∃ (v17 : Bool), Weak s (PS.of 164 [(3, .ptr 0 0), (6, .val (.bool false)), (7, .ptr 1 0), (8, .val (.bool false)), (76, .val (.bool v17))] [⟨0, (cGItem a0)⟩, ⟨0, [.val (.int .i64 a0.kind), .val (.string ByteArray.empty), .val (.int .i64 0), .val (.int .i64 0), .val (.int .i64 a0.width), .val (.int .i64 0), .val (.int .i64 0), .val (.int .i64 0), .val (.int .i64 0), .val (.int .i64 0), .val (.bool false), .val (.int .i64 0), .val (.int .i64 0)]⟩] [] 0 0) ∧ v17 = x19) ?_ ?_
                · refine PO.case (t := 66) rfl rfl (fun h21 => ?_) (fun h21 => ?_)
                  · have e20 := bif_t h21 e20
                    refine PO.runK 8 [0, 3] [] (es := [(3, .ptr 0 0), (6, .val (.bool false)), (7, .ptr 1 0), (8, .val (.bool false)), (66, .val (.bool true)), (68, .val (.int .i64 a0.width)), (74, .val (.int .i64 (w (0 - (if a2.width < a1.width then a2.width else a1.width)))))]) (fr' := [⟨0, (cGItem a0)⟩, ⟨0, [.val (.int .i64 a0.kind), .val (.string ByteArray.empty), .val (.int .i64 0), .val (.int .i64 0), .val (.int .i64 a0.width), .val (.int .i64 0), .val (.int .i64 0), .val (.int .i64 0), .val (.int .i64 0), .val (.int .i64 0), .val (.bool false), .val (.int .i64 0), .val (.int .i64 0)]⟩]) (tk' := []) (by kernel_rfl) ?_
                    refine bindK e20 (fun r22 e23 e20 => ?_)
                    refine PO.call rfl rfl rfl rfl (ks := []) (ts := []) (fr1 := []) rfl rfl rfl trivial (L92 k a0.width (w (0 - (if a2.width < a1.width then a2.width else a1.width))) 1099511627776 _ e23) ?_
                    rintro _ _ _ ⟨rfl, rfl, rfl⟩
                    refine ⟨_, _, rfl, rfl, ?_⟩
                    refine PO.same rfl (pickT_ok rfl rfl rfl) rfl ?_
                    refine PO.nil ?_
                    exact ⟨r22, Weak.one [0, 1] [] (by kernel_rfl), Option.some.inj e20⟩
                  · have e20 := bif_f h21 e20
                    refine PO.run 9 rfl ?_
                    refine PO.same rfl (pickF_ok rfl rfl rfl) rfl ?_
                    refine PO.nil ?_
                    exact ⟨false, Weak.one [0, 3] [] (by kernel_rfl), Option.some.inj e20⟩
                · rintro _ ⟨v17, w24, rfl⟩
                  refine PO.weak w24 ?_
                  refine PO.nil ?_
                  exact ⟨v17, Weak.one [0, 1] [] (by kernel_rfl), Option.some.inj e17⟩
              · have e17 := bif_f h18 e17
                refine PO.run 3 rfl ?_
                refine PO.same rfl (pickF_ok rfl rfl rfl) rfl ?_
                refine PO.run 10 rfl ?_
                refine PO.same rfl (pickF_ok rfl rfl rfl) rfl ?_
                refine PO.nil ?_
                exact ⟨false, Weak.one [0, 3] [] (by kernel_rfl), Option.some.inj e17⟩
            · rintro _ ⟨v16, w25, rfl⟩
              refine PO.weak w25 ?_
              refine PO.nil ?_
              exact ⟨v16, Weak.one [0, 1] [] (by kernel_rfl), Option.some.inj e14⟩
          · have e14 := bif_f h15 e14
            refine PO.run 3 rfl ?_
            refine PO.same rfl (pickF_ok rfl rfl rfl) rfl ?_
            refine PO.run 4 rfl ?_
            refine PO.same rfl (pickF_ok rfl rfl rfl) rfl ?_
            refine PO.run 10 rfl ?_
            refine PO.same rfl (pickF_ok rfl rfl rfl) rfl ?_
            refine PO.nil ?_
            exact ⟨false, Weak.one [0, 3] [] (by kernel_rfl), Option.some.inj e14⟩
        · rintro _ ⟨v15, w26, rfl⟩
          refine PO.weak w26 ?_
          refine PO.run 1 rfl ?_
          refine PO.nil ?_
          exact PC.skip (blockJK.end ⟨v15, ByteArray.empty, 0, 0, a0.width, 0, 0, 0, 0, 0, false, 0, 0, Weak.one [0, 1] [] (by kernel_rfl), Option.some.inj e2⟩)
      · have e2 := bif_f h12 e2
        refine PC.assoc ?_
        refine PC.run (n := 3) rfl ?_
        refine PC.cond rfl (fun h27 => ?_) (fun h27 => ?_)
        · have e2 := bif_t h27 e2
          refine PC.assoc ?_
          refine PC.draw [0, 1, 10, 11, 2, 3, 12, 13, 4, 5, 14, 15, 6, 7, 16, 17, 8, 9, 18, 19] (by kernel_rfl) ?_
          refine PD.runK 20 (js' := []) (σ' := ⟨1048575, 1048575, 524287, [(19, [3], false), (17, [3, 3], false), (15, [3, 3, 3], false), (13, [3, 3, 3, 3], false), (11, [3, 3, 3, 3, 3], false)]⟩) (es := [(3, .ptr 0 0), (6, .val (.bool false)), (7, .ptr 3 0), (8, .val (.bool false))]) (fr' := [⟨0, (cGItem a0)⟩, ⟨0, (cGItem a1)⟩, ⟨0, (cGItem a2)⟩, ⟨0, [.val (.int .i64 a0.kind), .val (.string a0.font), .val (.int .i64 a0.size), .val (.int .i64 0), .val (.int .i64 a0.width), .val (.int .i64 0), .val (.int .i64 0), .val (.int .i64 a0.stretch), .val (.int .i64 a0.shrink), .val (.int .i64 0), .val (.bool false), .val (.int .i64 a0.from_), .val (.int .i64 a0.to_)]⟩]) (tk' := []) (by kernel_rfl) ?_
          refine PD.done [0, 3] [] (es := [(3, .ptr 0 0), (6, .val (.bool false)), (7, .ptr 1 0), (8, .val (.bool false))]) (fr' := [⟨0, (cGItem a0)⟩, ⟨0, [.val (.int .i64 a0.kind), .val (.string a0.font), .val (.int .i64 a0.size), .val (.int .i64 0), .val (.int .i64 a0.width), .val (.int .i64 0), .val (.int .i64 0), .val (.int .i64 a0.stretch), .val (.int .i64 a0.shrink), .val (.int .i64 0), .val (.bool false), .val (.int .i64 a0.from_), .val (.int .i64 a0.to_)]⟩]) (tk' := []) (by kernel_rfl) (by kernel_rfl) ?_
          refine PC.region ?_
          refine PO.run 2 rfl ?_
          refine bindK e2 (fun r28 e29 e2 => ?_)
          refine PO.call rfl rfl rfl rfl (ks := []) (ts := []) (fr1 := []) rfl rfl rfl trivial (L92 k a0.size 1 67108864 _ e29) ?_
          rintro _ _ _ ⟨rfl, rfl, rfl⟩
          refine ⟨_, _, rfl, rfl, ?_⟩
          refine PO.run 1 rfl ?_
          refine bindK e2 (fun x30 e31 e2 => ?_)
          refine PO.cut 16 (fun s => ∃ (v18 : Bool), Weak s (PS.of 164 [(3, .ptr 0 0), (6, .val (.bool false)), (7, .ptr 1 0), (8, .val (.bool false)), (113, .val (.bool v18))] [⟨0, (cGItem a0)⟩, ⟨0, [.val (.int .i64 a0.kind), .val (.string a0.font), .val (.int .i64 a0.size), .val (.int .i64 0), .val (.int .i64 a0.width), .val (.int .i64 0), .val (.int .i64 0), .val (.int .i64 a0.stretch), .val (.int .i64 a0.shrink), .val (.int .i64 0), .val (.bool false), .val (.int .i64 a0.from_), .val (.int .i64 a0.to_)]⟩] [] 0 0) ∧ v18 = x30) ?_ ?_
          · refine PO.case (t := 97) rfl rfl (fun h32 => ?_) (fun h32 => ?_)
            · have e31 := bif_t h32 e31
              refine PO.runK 2 [0, 1] [] (es := [(3, .ptr 0 0), (6, .val (.bool false)), (7, .ptr 1 0), (8, .val (.bool false)), (97, .val (.bool true)), (99, .val (.int .i64 a0.width))]) (fr' := [⟨0, (cGItem a0)⟩, ⟨0, [.val (.int .i64 a0.kind), .val (.string a0.font), .val (.int .i64 a0.size), .val (.int .i64 0), .val (.int .i64 a0.width), .val (.int .i64 0), .val (.int .i64 0), .val (.int .i64 a0.stretch), .val (.int .i64 a0.shrink), .val (.int .i64 0), .val (.bool false), .val (.int .i64 a0.from_), .val (.int .i64 a0.to_)]⟩]) (tk' := []) (by kernel_rfl) ?_
              refine bindK e31 (fun r33 e34 e31 => ?_)
              refine PO.call rfl rfl rfl rfl (ks := []) (ts := []) (fr1 := []) rfl rfl rfl trivial (L92 k a0.width 0 67108864 _ e34) ?_
              rintro _ _ _ ⟨rfl, rfl, rfl⟩
              refine ⟨_, _, rfl, rfl, ?_⟩
              refine PO.same rfl (pickT_ok rfl rfl rfl) rfl ?_
              refine PO.run 1 rfl ?_
              refine bindK e31 (fun x35 e36 e31 => ?_)
              refine PO.cut 11 (fun s => ∃ (v19 : Bool), Weak s (PS.of 164 [(3, .ptr 0 0), (6, .val (.bool false)), (7, .ptr 1 0), (8, .val (.bool false)), (113, .val (.bool v19))] [⟨0, (cGItem a0)⟩, ⟨0, [.val (.int .i64 a0.kind), .val (.string a0.font), .val (.int .i64 a0.size), .val (.int .i64 0), .val (.int .i64 a0.width), .val (.int .i64 0), .val (.int .i64 0), .val (.int .i64 a0.stretch), .val (.int .i64 a0.shrink), .val (.int .i64 0), .val (.bool false), .val (.int .i64 a0.from_), .val (.int .i64 a0.to_)]⟩] [] 0 0) ∧ v19 = x35) ?_ ?_
              · refine PO.case (t := 102) rfl rfl (fun h37 => ?_) (fun h37 => ?_)
                · have e36 := bif_t h37 e36
                  refine PO.runK 2 [0, 1] [] (es := [(3, .ptr 0 0), (6, .val (.bool false)), (7, .ptr 1 0), (8, .val (.bool false)), (102, .val (.bool true)), (104, .val (.int .i64 a0.stretch))]) (fr' := [⟨0, (cGItem a0)⟩, ⟨0, [.val (.int .i64 a0.kind), .val (.string a0.font), .val (.int .i64 a0.size), .val (.int .i64 0), .val (.int .i64 a0.width), .val (.int .i64 0), .val (.int .i64 0), .val (.int .i64 a0.stretch), .val (.int .i64 a0.shrink), .val (.int .i64 0), .val (.bool false), .val (.int .i64 a0.from_), .val (.int .i64 a0.to_)]⟩]) (tk' := []) (by kernel_rfl) ?_
                  refine bindK e36 (fun r38 e39 e36 => ?_)
                  refine PO.call rfl rfl rfl rfl (ks := []) (ts := []) (fr1 := []) rfl rfl rfl trivial (L92 k a0.stretch 0 67108864 _ e39) ?_
                  rintro _ _ _ ⟨rfl, rfl, rfl⟩
                  refine ⟨_, _, rfl, rfl, ?_⟩
                  refine PO.same rfl (pickT_ok rfl rfl rfl) rfl ?_
                  refine PO.run 1 rfl ?_
                  refine bindK e36 (fun x40 e41 e36 => ?_)
                  refine PO.cut 6 (fun s => ∃ (v20 : Bool), Weak s (PS.of 164 [(3, .ptr 0 0), (6, .val (.bool false)), (7, .ptr 1 0), (8, .val (.bool false)), (113, .val (.bool v20))] [⟨0, (cGItem a0)⟩, ⟨0, [.val (.int .i64 a0.kind), .val (.string a0.font), .val (.int .i64 a0.size), .val (.int .i64 0), .val (.int .i64 a0.width), .val (.int .i64 0), .val (.int .i64 0), .val (.int .i64 a0.stretch), .val (.int .i64 a0.shrink), .val (.int .i64 0), .val (.bool false), .val (.int .i64 a0.from_), .val (.int .i64 a0.to_)]⟩] [] 0 0) ∧ v20 = x40) ?_ ?_
                  · refine PO.case (t := 107) rfl rfl (fun h42 => ?_) (fun h42 => ?_)
                    · have e41 := bif_t h42 e41
                      refine PO.runK 4 [0, 1] [] (es := [(3, .ptr 0 0), (6, .val (.bool false)), (7, .ptr 1 0), (8, .val (.bool false)), (107, .val (.bool true)), (109, .val (.int .i64 a0.shrink)), (111, .val (.int .i64 a0.width))]) (fr' := [⟨0, (cGItem a0)⟩, ⟨0, [.val (.int .i64 a0.kind), .val (.string a0.font), .val (.int .i64 a0.size), .val (.int .i64 0), .val (.int .i64 a0.width), .val (.int .i64 0), .val (.int .i64 0), .val (.int .i64 a0.stretch), .val (.int .i64 a0.shrink), .val (.int .i64 0), .val (.bool false), .val (.int .i64 a0.from_), .val (.int .i64 a0.to_)]⟩]) (tk' := []) (by kernel_rfl) ?_
                      refine bindK e41 (fun r43 e44 e41 => ?_)
                      refine PO.call rfl rfl rfl rfl (ks := []) (ts := []) (fr1 := []) rfl rfl rfl trivial (L92 k a0.shrink 0 a0.width _ e44) ?_
                      rintro _ _ _ ⟨rfl, rfl, rfl⟩
                      refine ⟨_, _, rfl, rfl, ?_⟩
                      refine PO.same rfl (pickT_ok rfl rfl rfl) rfl ?_
                      refine PO.nil ?_
                      exact ⟨r43, Weak.one [0, 1] [] (by kernel_rfl), Option.some.inj e41⟩
                    · have e41 := bif_f h42 e41
                      refine PO.run 5 rfl ?_
                      refine PO.same rfl (pickF_ok rfl rfl rfl) rfl ?_
                      refine PO.nil ?_
                      exact ⟨false, Weak.one [0, 1] [] (by kernel_rfl), Option.some.inj e41⟩
                  · rintro _ ⟨v20, w45, rfl⟩
                    refine PO.weak w45 ?_
                    refine PO.nil ?_
                    exact ⟨v20, Weak.one [0, 1] [] (by kernel_rfl), Option.some.inj e36⟩
                · have e36 := bif_f h37 e36
                  refine PO.run 3 rfl ?_
                  refine PO.same rfl (pickF_ok rfl rfl rfl) rfl ?_
                  refine PO.run 6 rfl ?_
                  refine PO.same rfl (pickF_ok rfl rfl rfl) rfl ?_
                  refine PO.nil ?_
                  exact ⟨false, Weak.one [0, 1] [] (by kernel_rfl), Option.some.inj e36⟩
              · rintro _ ⟨v19, w46, rfl⟩
                refine PO.weak w46 ?_
                refine PO.nil ?_
                exact ⟨v19, Weak.one [0, 1] [] (by kernel_rfl), Option.some.inj e31⟩
            · have e31 := bif_f h32 e31
              refine PO.run 3 rfl ?_
              refine PO.same rfl (pickF_ok rfl rfl rfl) rfl ?_
              refine PO.run 4 rfl ?_
              refine PO.same rfl (pickF_ok rfl rfl rfl) rfl ?_
              refine PO.run 6 rfl ?_
              refine PO.same rfl (pickF_ok rfl rfl rfl) rfl ?_
              refine PO.nil ?_
              exact ⟨false, Weak.one [0, 1] [] (by kernel_rfl), Option.some.inj e31⟩
          · rintro _ ⟨v18, w47, rfl⟩
            refine PO.weak w47 ?_
            refine PO.run 1 rfl ?_
            refine PO.nil ?_
            exact PC.skip (blockJK.end ⟨v18, a0.font, a0.size, 0, a0.width, 0, 0, a0.stretch, a0.shrink, 0, false, a0.from_, a0.to_, Weak.one [0, 1] [] (by kernel_rfl), Option.some.inj e2⟩)
        · have e2 := bif_f h27 e2
          refine PC.assoc ?_
          refine PC.run (n := 3) rfl ?_
          refine PC.cond rfl (fun h48 => ?_) (fun h48 => ?_)
          · have e2 := bif_t h48 e2
            refine PC.assoc ?_
            refine PC.region ?_
            refine PO.runK 4 [0, 3] [] (es := [(3, .ptr 0 0), (6, .val (.bool false)), (7, .ptr 1 0), (8, .val (.bool false))]) (fr' := [⟨0, (cGItem a0)⟩, ⟨0, [.val (.int .i64 a0.kind), .val (.string ByteArray.empty), .val (.int .i64 0), .val (.int .i64 0), .val (.int .i64 0), .val (.int .i64 0), .val (.int .i64 0), .val (.int .i64 0), .val (.int .i64 0), .val (.int .i64 a0.value), .val (.bool false), .val (.int .i64 a0.from_), .val (.int .i64 a0.to_)]⟩]) (tk' := []) (by kernel_rfl) ?_
            refine PO.nil ?_
            refine PC.assoc ?_
            refine PC.region ?_
            refine PO.run 2 rfl ?_
            refine bindK e2 (fun r49 e50 e2 => ?_)
            refine PO.call rfl rfl rfl rfl (ks := []) (ts := []) (fr1 := []) rfl rfl rfl trivial (L92 k a0.value (-10000) 10000 _ e50) ?_
            rintro _ _ _ ⟨rfl, rfl, rfl⟩
            refine ⟨_, _, rfl, rfl, ?_⟩
            refine PO.run 1 rfl ?_
            refine PO.nil ?_
            refine PC.assoc ?_
            refine PC.run (n := 3) rfl ?_
            refine PC.cond rfl (fun h51 => ?_) (fun h51 => ?_)
            · have e2 := bif_t h51 e2
              refine PC.assoc ?_
              refine PC.draw [12, 13, 0, 1, 14, 15, 2, 3, 16, 17, 4, 5, 18, 19, 6, 7, 20, 21, 8, 9, 22, 23, 10, 11, 24, 25] (by kernel_rfl) ?_
              refine PD.runK 26 (js' := []) (σ' := ⟨67108863, 67108863, 33554431, [(25, [1], false), (23, [1, 1], false), (21, [1, 1, 1], false), (19, [1, 1, 1, 1], false), (17, [1, 1, 1, 1, 1], false), (15, [1, 1, 1, 1, 1, 1], false), (13, [1, 1, 1, 1, 1, 1, 1], false)]⟩) (es := [(3, .ptr 0 0), (6, .val (.bool false)), (7, .ptr 1 0), (8, .val (.bool r49))]) (fr' := [⟨0, (cGItem a0)⟩, ⟨0, [.val (.int .i64 a0.kind), .val (.string a0.font), .val (.int .i64 a0.size), .val (.int .i64 a0.rune), .val (.int .i64 a0.width), .val (.int .i64 a0.height), .val (.int .i64 a0.depth), .val (.int .i64 0), .val (.int .i64 0), .val (.int .i64 a0.value), .val (.bool true), .val (.int .i64 a0.from_), .val (.int .i64 a0.to_)]⟩]) (tk' := []) (by kernel_rfl) ?_
              refine PD.done [0, 1] [] (es := [(3, .ptr 0 0), (6, .val (.bool false)), (7, .ptr 1 0), (8, .val (.bool r49))]) (fr' := [⟨0, (cGItem a0)⟩, ⟨0, [.val (.int .i64 a0.kind), .val (.string a0.font), .val (.int .i64 a0.size), .val (.int .i64 a0.rune), .val (.int .i64 a0.width), .val (.int .i64 a0.height), .val (.int .i64 a0.depth), .val (.int .i64 0), .val (.int .i64 0), .val (.int .i64 a0.value), .val (.bool true), .val (.int .i64 a0.from_), .val (.int .i64 a0.to_)]⟩]) (tk' := []) (by kernel_rfl) (by kernel_rfl) ?_
              refine PC.region ?_
              refine PO.run 2 rfl ?_
              refine bindK e2 (fun x52 e53 e2 => ?_)
              refine PO.cut 13 (fun s => ∃ (v21 : Bool), Weak s (PS.of 164 [(3, .ptr 0 0), (6, .val (.bool false)), (7, .ptr 1 0), (8, .val (.bool r49)), (157, .val (.bool v21))] [⟨0, (cGItem a0)⟩, ⟨0, [.val (.int .i64 a0.kind), .val (.string a0.font), .val (.int .i64 a0.size), .val (.int .i64 a0.rune), .val (.int .i64 a0.width), .val (.int .i64 a0.height), .val (.int .i64 a0.depth), .val (.int .i64 0), .val (.int .i64 0), .val (.int .i64 a0.value), .val (.bool true), .val (.int .i64 a0.from_), .val (.int .i64 a0.to_)]⟩] [] 0 0) ∧ v21 = x52) ?_ ?_
              · refine PO.case (t := 144) rfl rfl (fun h54 => ?_) (fun h54 => ?_)
                · have e53 := bif_t h54 e53
                  refine PO.runK 1 [0, 1] [] (es := [(3, .ptr 0 0), (6, .val (.bool false)), (7, .ptr 1 0), (8, .val (.bool r49)), (144, .val (.bool true)), (145, .agg (cGItem a0))]) (fr' := [⟨0, (cGItem a0)⟩, ⟨0, [.val (.int .i64 a0.kind), .val (.string a0.font), .val (.int .i64 a0.size), .val (.int .i64 a0.rune), .val (.int .i64 a0.width), .val (.int .i64 a0.height), .val (.int .i64 a0.depth), .val (.int .i64 0), .val (.int .i64 0), .val (.int .i64 a0.value), .val (.bool true), .val (.int .i64 a0.from_), .val (.int .i64 a0.to_)]⟩]) (tk' := []) (by kernel_rfl) ?_
                  refine bindK e53 (fun r55 e56 e53 => ?_)
                  refine PO.call rfl rfl rfl rfl (ks := []) (ts := []) (fr1 := []) rfl rfl rfl trivial (L104 k a0 _ e56) ?_
                  rintro _ _ _ ⟨rfl, rfl, rfl⟩
                  refine ⟨_, _, rfl, rfl, ?_⟩
                  refine PO.same rfl (pickT_ok rfl rfl rfl) rfl ?_
                  refine PO.run 1 rfl ?_
                  refine bindK e53 (fun x57 e58 e53 => ?_)
                  refine PO.cut 9 (fun s => ∃ (v22 : Bool), Weak s (PS.of 164 [(3, .ptr 0 0), (6, .val (.bool false)), (7, .ptr 1 0), (8, .val (.bool r49)), (157, .val (.bool v22))] [⟨0, (cGItem a0)⟩, ⟨0, [.val (.int .i64 a0.kind), .val (.string a0.font), .val (.int .i64 a0.size), .val (.int .i64 a0.rune), .val (.int .i64 a0.width), .val (.int .i64 a0.height), .val (.int .i64 a0.depth), .val (.int .i64 0), .val (.int .i64 0), .val (.int .i64 a0.value), .val (.bool true), .val (.int .i64 a0.from_), .val (.int .i64 a0.to_)]⟩] [] 0 0) ∧ v22 = x57) ?_ ?_
                  · refine PO.case (t := 148) rfl rfl (fun h59 => ?_) (fun h59 => ?_)
                    · have e58 := bif_t h59 e58
                      refine PO.run 3 rfl ?_
                      refine PO.same rfl (pickT_ok rfl rfl rfl) rfl ?_
                      refine PO.run 1 rfl ?_
                      refine bindK e58 (fun x60 e61 e58 => ?_)
                      refine PO.cut 4 (fun s => ∃ (v23 : Bool), Weak s (PS.of 164 [(3, .ptr 0 0), (6, .val (.bool false)), (7, .ptr 1 0), (8, .val (.bool r49)), (157, .val (.bool v23))] [⟨0, (cGItem a0)⟩, ⟨0, [.val (.int .i64 a0.kind), .val (.string a0.font), .val (.int .i64 a0.size), .val (.int .i64 a0.rune), .val (.int .i64 a0.width), .val (.int .i64 a0.height), .val (.int .i64 a0.depth), .val (.int .i64 0), .val (.int .i64 0), .val (.int .i64 a0.value), .val (.bool true), .val (.int .i64 a0.from_), .val (.int .i64 a0.to_)]⟩] [] 0 0) ∧ v23 = x60) ?_ ?_
                      · refine PO.case (t := 153) rfl rfl (fun h62 => ?_) (fun h62 => ?_)
                        · have e61 := bif_t h62 e61
                          refine PO.run 3 rfl ?_
                          refine PO.same rfl (pickT_ok rfl rfl rfl) rfl ?_
                          refine PO.nil ?_
                          exact ⟨decide (a0.value > (-10000)), Weak.one [0, 1] [] (by kernel_rfl), Option.some.inj e61⟩
                        · have e61 := bif_f h62 e61
                          refine PO.run 3 rfl ?_
                          refine PO.same rfl (pickF_ok rfl rfl rfl) rfl ?_
                          refine PO.nil ?_
                          exact ⟨false, Weak.one [0, 1] [] (by kernel_rfl), Option.some.inj e61⟩
                      · rintro _ ⟨v23, w63, rfl⟩
                        refine PO.weak w63 ?_
                        refine PO.nil ?_
                        exact ⟨v23, Weak.one [0, 1] [] (by kernel_rfl), Option.some.inj e58⟩
                    · have e58 := bif_f h59 e58
                      refine PO.run 3 rfl ?_
                      refine PO.same rfl (pickF_ok rfl rfl rfl) rfl ?_
                      refine PO.run 4 rfl ?_
                      refine PO.same rfl (pickF_ok rfl rfl rfl) rfl ?_
                      refine PO.nil ?_
                      exact ⟨false, Weak.one [0, 1] [] (by kernel_rfl), Option.some.inj e58⟩
                  · rintro _ ⟨v22, w64, rfl⟩
                    refine PO.weak w64 ?_
                    refine PO.nil ?_
                    exact ⟨v22, Weak.one [0, 1] [] (by kernel_rfl), Option.some.inj e53⟩
                · have e53 := bif_f h54 e53
                  refine PO.run 2 rfl ?_
                  refine PO.same rfl (pickF_ok rfl rfl rfl) rfl ?_
                  refine PO.run 4 rfl ?_
                  refine PO.same rfl (pickF_ok rfl rfl rfl) rfl ?_
                  refine PO.run 4 rfl ?_
                  refine PO.same rfl (pickF_ok rfl rfl rfl) rfl ?_
                  refine PO.nil ?_
                  exact ⟨false, Weak.one [0, 1] [] (by kernel_rfl), Option.some.inj e53⟩
              · rintro _ ⟨v21, w65, rfl⟩
                refine PO.weak w65 ?_
                refine PO.run 1 rfl ?_
                refine PO.nil ?_
                exact PC.skip (blockJK.end ⟨v21, a0.font, a0.size, a0.rune, a0.width, a0.height, a0.depth, 0, 0, a0.value, true, a0.from_, a0.to_, Weak.one [0, 1] [] (by kernel_rfl), Option.some.inj e2⟩)
            · have e2 := bif_f h51 e2
              refine PC.noop ?_
              exact PC.skip (blockJK.end ⟨r49, ByteArray.empty, 0, 0, 0, 0, 0, 0, 0, a0.value, false, a0.from_, a0.to_, Weak.one [0, 1] [] (by kernel_rfl), Option.some.inj e2⟩)
          · have e2 := bif_f h48 e2
            refine PC.noop ?_
            exact PC.skip (blockJK.end ⟨false, ByteArray.empty, 0, 0, 0, 0, 0, 0, 0, 0, false, a0.from_, a0.to_, Weak.one [0, 3] [] (by kernel_rfl), Option.some.inj e2⟩)
  · rintro _ ⟨v1, v2, v3, v4, v5, v6, v7, v8, v9, v10, v11, v12, v13, w66, rfl⟩
    refine PC.weak w66 ?_
    refine PC.region ?_
    refine PO.run 2 rfl ?_
    refine bindK hF (fun x67 e68 hF => ?_)
    refine PO.cut 4 (fun s => ∃ (v24 : Bool), Weak s (PS.of 164 [(6, .val (.bool false)), (163, .val (.bool v24))] [] [] 0 0) ∧ v24 = x67) ?_ ?_
    · refine PO.case (t := 159) rfl rfl (fun h69 => ?_) (fun h69 => ?_)
      · have e68 := bif_t h69 e68
        refine PO.runK 2 [] [] (es := [(6, .val (.bool false)), (159, .val (.bool true)), (160, .agg (cGItem a0)), (161, .agg [.val (.int .i64 a0.kind), .val (.string v2), .val (.int .i64 v3), .val (.int .i64 v4), .val (.int .i64 v5), .val (.int .i64 v6), .val (.int .i64 v7), .val (.int .i64 v8), .val (.int .i64 v9), .val (.int .i64 v10), .val (.bool v11), .val (.int .i64 v12), .val (.int .i64 v13)])]) (fr' := []) (tk' := []) (by kernel_rfl) ?_
        refine PO.same rfl (aggEq_ok (v := .bool (a0.kind == a0.kind && (a0.font == v2 && (a0.size == v3 && (a0.rune == v4 && (a0.width == v5 && (a0.height == v6 && (a0.depth == v7 && (a0.stretch == v8 && (a0.shrink == v9 && (a0.value == v10 && (a0.flag == v11 && (a0.from_ == v12 && (a0.to_ == v13 && true)))))))))))))) rfl rfl rfl rfl rfl rfl rfl (by kernel_rfl)) rfl ?_
        refine PO.same rfl (pickT_ok rfl rfl rfl) rfl ?_
        refine PO.nil ?_
        exact ⟨(a0.kind == a0.kind && (a0.font == v2 && (a0.size == v3 && (a0.rune == v4 && (a0.width == v5 && (a0.height == v6 && (a0.depth == v7 && (a0.stretch == v8 && (a0.shrink == v9 && (a0.value == v10 && (a0.flag == v11 && (a0.from_ == v12 && (a0.to_ == v13 && true))))))))))))), Weak.one [] [] (by kernel_rfl), Option.some.inj e68⟩
      · have e68 := bif_f h69 e68
        refine PO.run 3 rfl ?_
        refine PO.same rfl (pickF_ok rfl rfl rfl) rfl ?_
        refine PO.nil ?_
        exact ⟨false, Weak.one [] [] (by kernel_rfl), Option.some.inj e68⟩
    · rintro _ ⟨v24, w70, rfl⟩
      refine PO.weak w70 ?_
      refine PO.run 1 rfl ?_
      refine PO.nil ?_
      have hq := Option.some.inj hF
      subst hq
      exact PC.ret' (retSK [] [] (by kernel_rfl) (.refl _) ⟨rfl, rfl, rfl⟩)

/-! 64 platen/items.Check -/
def F64_l1 (k : Nat) (a0 : List GItem) : Nat → Int → Int → Option ((Unit) ⊕ (Int))
  | 0, _, _ => none
  | j4 + 1, v3, v4 =>
    bif decide (v4 < (a0.length : Int)) then (Option.bind (α := (Int) ⊕ ((Unit) ⊕ (Int))) (bindI a0 v4 fun y8 =>
    Option.bind (α := Int × ByteArray × Int × Int × Int × Int × Int × Int × Int × Int × Bool × Int × Int) (bif decide (v4 > 0) then (bindI a0 (w (v4 - 1)) fun y22 =>
    some (y22.kind, y22.font, y22.size, y22.rune, y22.width, y22.height, y22.depth, y22.stretch, y22.shrink, y22.value, y22.flag, y22.from_, y22.to_)) else (some (0, ByteArray.empty, 0, 0, 0, 0, 0, 0, 0, 0, false, 0, 0))) fun (v9, v10, v11, v12, v13, v14, v15, v16, v17, v18, v19, v20, v21) =>
    Option.bind (α := Int × ByteArray × Int × Int × Int × Int × Int × Int × Int × Int × Bool × Int × Int) (bif decide ((w (v4 + 1)) < (a0.length : Int)) then (bindI a0 (w (v4 + 1)) fun y36 =>
    some (y36.kind, y36.font, y36.size, y36.rune, y36.width, y36.height, y36.depth, y36.stretch, y36.shrink, y36.value, y36.flag, y36.from_, y36.to_)) else (some (0, ByteArray.empty, 0, 0, 0, 0, 0, 0, 0, 0, false, 0, 0))) fun (v23, v24, v25, v26, v27, v28, v29, v30, v31, v32, v33, v34, v35) =>
    (F91 k y8 (GItem.mk v9 v10 v11 v12 v13 v14 v15 v16 v17 v18 v19 v20 v21) (GItem.mk v23 v24 v25 v26 v27 v28 v29 v30 v31 v32 v33 v34 v35)).bind fun r23 =>
    bif !r23 then (some (.inr (.inr 1))) else (bif y8.kind == 2 then (some (.inl v3)) else (Option.bind (α := Bool) (bif decide (y8.from_ < v3) then (some true) else ((F92 k y8.to_ y8.from_ 65536).bind fun r30 =>
    some (!r30))) fun (v37 : Bool) =>
    bif v37 then (some (.inr (.inr 1))) else (some (.inl y8.to_))))) (Sum.elim (fun (v7 : Int) =>
    F64_l1 k a0 j4 v7 (w (v4 + 1))) some)) else (some (.inl ()))
def F64 (k : Nat) (a0 : List GItem) : Option Int :=
bif decide ((a0.length : Int) > 4096) then (some 130) else (Option.bind (α := (Unit) ⊕ (Int)) (F64_l1 k a0 k 0 0) (Sum.elim (fun (_ : Unit) =>
Option.bind (α := Bool) (bif decide ((a0.length : Int) > 0) then (bindI a0 (w ((a0.length : Int) - 1)) fun y39 =>
Option.bind (α := Bool) (bif y39.kind != 4 then (some true) else (bindI a0 (w ((a0.length : Int) - 1)) fun y41 =>
some (y41.value != (-10000)))) fun (v40 : Bool) =>
some v40) else (some false)) fun (v38 : Bool) =>
bif v38 then (some 1) else (some 0)) some))
theorem L64 (k : Nat) (a0 : List GItem) (r : Int) (hF : F64 k a0 = some r) : PF Try.prog orc 64 [.list 13 (List.map cGItem a0) none] [] [] (fun p fr tk => p = .val (.int .i64 r) ∧ fr = [] ∧ tk = []) := by
  unfold F64 at hF
  refine PF.enterS Try.func64 rfl rfl rfl (by kernel_rfl) rfl ?_
  refine PC.run (n := 2) rfl ?_
  refine PC.assoc ?_
  refine PC.region ?_
  refine PO.run 1 rfl ?_
  refine PO.same rfl (len_ok Try.underlying42 rfl (List.length_map _)) rfl ?_
  refine PO.run 1 rfl ?_
  refine PO.nil ?_
  refine PC.cond rfl (fun h1 => ?_) (fun h1 => ?_)
  · have hF := bif_t h1 hF
    refine PC.assoc ?_
    refine PC.run (n := 2) rfl ?_
    have hq := Option.some.inj hF
    subst hq
    exact PC.ret (retSK [] [] (by kernel_rfl) (.refl _) ⟨rfl, rfl, rfl⟩)
  · have hF := bif_f h1 hF
    refine PC.noop ?_
    refine PC.run (n := 2) rfl ?_
    refine PC.assoc ?_
    refine PC.region ?_
    refine PO.run 1 rfl ?_
    refine PO.same rfl (len_ok Try.underlying42 rfl (List.length_map _)) rfl ?_
    refine PO.run 1 rfl ?_
    refine PO.nil ?_
    refine bindK hF (fun x2 e3 hF => ?_)
    refine PC.blockJ (fun s => Weak s (PS.of 81 [(0, .list 13 (List.map cGItem a0) none), (2, .val (.int .i64 0))] [] [] 0 0) ∧ .inl () = x2) ?_ ?_
    · refine PC.loop (fun j4 s => ∃ (v3 : Int) (v4 : Int), Weak s (PS.of 81 [(0, .list 13 (List.map cGItem a0) none), (2, .val (.int .i64 0)), (3, .val (.int .i64 v3)), (12, .list 13 (List.map cGItem a0) none), (13, .val (.int .i64 (a0.length : Int))), (14, .val (.int .i64 v4))] [] [] 0 0) ∧ F64_l1 k a0 j4 v3 v4 = some x2) (fun j4 s => ?_) k ⟨0, 0, Weak.one [] [] (by kernel_rfl), e3⟩
      rintro ⟨v3, v4, w5, e3⟩
      refine PC.weak w5 ?_
      cases j4 with
      | zero => rw [F64_l1] at e3; cases e3
      | succ j4 =>
        rw [F64_l1] at e3
        refine PC.run (n := 2) rfl ?_
        refine PC.cond rfl (fun h6 => ?_) (fun h6 => ?_)
        · have e3 := bif_t h6 e3
          refine PC.noop ?_
          refine bindK e3 (fun x7 e8 e3 => ?_)
          refine PC.blockJ (fun s => ∃ (v7 : Int), Weak s (PS.of 81 [(0, .list 13 (List.map cGItem a0) none), (2, .val (.int .i64 0)), (3, .val (.int .i64 v7)), (12, .list 13 (List.map cGItem a0) none), (13, .val (.int .i64 (a0.length : Int))), (14, .val (.int .i64 v4))] [] [] 0 0) ∧ .inl v7 = x7) ?_ ?_
          · refine PC.region ?_
            refine PO.run 1 rfl ?_
            refine bindIK e8 (fun y8 h9 h10 e8 => ?_)
            refine PO.same rfl (indexAddr_ok Try.underlying42 rfl rfl rfl h9 (map_at h10)) rfl ?_
            refine PO.runK 4 [0] [] (es := [(0, .list 13 (List.map cGItem a0) none), (2, .val (.int .i64 0)), (3, .val (.int .i64 v3)), (4, .val (.int .i64 v4)), (5, .ptr 0 0), (12, .list 13 (List.map cGItem a0) none), (13, .val (.int .i64 (a0.length : Int))), (14, .val (.int .i64 v4))]) (fr' := [⟨0, (cGItem y8)⟩]) (tk' := []) (by kernel_rfl) ?_
            refine PO.nil ?_
            refine PC.region ?_
            refine PO.runK 2 [0, 1, 2] [] (es := [(0, .list 13 (List.map cGItem a0) none), (2, .val (.int .i64 0)), (3, .val (.int .i64 v3)), (4, .val (.int .i64 v4)), (5, .ptr 0 0), (6, .ptr 1 0), (7, .ptr 2 0), (12, .list 13 (List.map cGItem a0) none), (13, .val (.int .i64 (a0.length : Int))), (14, .val (.int .i64 v4))]) (fr' := [⟨0, (cGItem y8)⟩, ⟨0, [.val (.int .i64 0), .val (.string ByteArray.empty), .val (.int .i64 0), .val (.int .i64 0), .val (.int .i64 0), .val (.int .i64 0), .val (.int .i64 0), .val (.int .i64 0), .val (.int .i64 0), .val (.int .i64 0), .val (.bool false), .val (.int .i64 0), .val (.int .i64 0)]⟩, ⟨0, [.val (.int .i64 0), .val (.string ByteArray.empty), .val (.int .i64 0), .val (.int .i64 0), .val (.int .i64 0), .val (.int .i64 0), .val (.int .i64 0), .val (.int .i64 0), .val (.int .i64 0), .val (.int .i64 0), .val (.bool false), .val (.int .i64 0), .val (.int .i64 0)]⟩]) (tk' := []) (by kernel_rfl) ?_
            refine PO.nil ?_
            refine PC.assoc ?_
            refine PC.run (n := 3) rfl ?_
            refine bindK e8 (fun x11 e12 e8 => ?_)
            refine PC.join (fun s => ∃ (v9 : Int) (v10 : ByteArray) (v11 : Int) (v12 : Int) (v13 : Int) (v14 : Int) (v15 : Int) (v16 : Int) (v17 : Int) (v18 : Int) (v19 : Bool) (v20 : Int) (v21 : Int), Weak s (PS.of 81 [(0, .list 13 (List.map cGItem a0) none), (2, .val (.int .i64 0)), (3, .val (.int .i64 v3)), (4, .val (.int .i64 v4)), (5, .ptr 0 0), (6, .ptr 1 0), (7, .ptr 2 0), (12, .list 13 (List.map cGItem a0) none), (13, .val (.int .i64 (a0.length : Int))), (14, .val (.int .i64 v4))] [⟨0, (cGItem y8)⟩, ⟨0, [.val (.int .i64 v9), .val (.string v10), .val (.int .i64 v11), .val (.int .i64 v12), .val (.int .i64 v13), .val (.int .i64 v14), .val (.int .i64 v15), .val (.int .i64 v16), .val (.int .i64 v17), .val (.int .i64 v18), .val (.bool v19), .val (.int .i64 v20), .val (.int .i64 v21)]⟩, ⟨0, [.val (.int .i64 0), .val (.string ByteArray.empty), .val (.int .i64 0), .val (.int .i64 0), .val (.int .i64 0), .val (.int .i64 0), .val (.int .i64 0), .val (.int .i64 0), .val (.int .i64 0), .val (.int .i64 0), .val (.bool false), .val (.int .i64 0), .val (.int .i64 0)]⟩] [] 0 0) ∧ (v9, v10, v11, v12, v13, v14, v15, v16, v17, v18, v19, v20, v21) = x11) ?_ ?_
            · refine PC.cond rfl (fun h13 => ?_) (fun h13 => ?_)
              · have e12 := bif_t h13 e12
                refine PC.region ?_
                refine PO.run 3 rfl ?_
                refine bindIK e12 (fun y22 h14 h15 e12 => ?_)
                refine PO.same rfl (indexAddr_ok Try.underlying42 rfl rfl rfl h14 (map_at h15)) rfl ?_
                refine PO.runK 2 [0, 1, 2] [] (es := [(0, .list 13 (List.map cGItem a0) none), (2, .val (.int .i64 0)), (3, .val (.int .i64 v3)), (4, .val (.int .i64 v4)), (5, .ptr 0 0), (6, .ptr 1 0), (7, .ptr 2 0), (12, .list 13 (List.map cGItem a0) none), (13, .val (.int .i64 (a0.length : Int))), (14, .val (.int .i64 v4))]) (fr' := [⟨0, (cGItem y8)⟩, ⟨0, (cGItem y22)⟩, ⟨0, [.val (.int .i64 0), .val (.string ByteArray.empty), .val (.int .i64 0), .val (.int .i64 0), .val (.int .i64 0), .val (.int .i64 0), .val (.int .i64 0), .val (.int .i64 0), .val (.int .i64 0), .val (.int .i64 0), .val (.bool false), .val (.int .i64 0), .val (.int .i64 0)]⟩]) (tk' := []) (by kernel_rfl) ?_
                refine PO.nil ?_
                exact PC.skip (joinKP.end ⟨y22.kind, y22.font, y22.size, y22.rune, y22.width, y22.height, y22.depth, y22.stretch, y22.shrink, y22.value, y22.flag, y22.from_, y22.to_, Weak.one [0, 1, 2] [] (by kernel_rfl), Option.some.inj e12⟩)
              · have e12 := bif_f h13 e12
                refine PC.noop ?_
                exact PC.skip (joinKP.end ⟨0, ByteArray.empty, 0, 0, 0, 0, 0, 0, 0, 0, false, 0, 0, Weak.one [0, 1, 2] [] (by kernel_rfl), Option.some.inj e12⟩)
            · rintro _ ⟨v9, v10, v11, v12, v13, v14, v15, v16, v17, v18, v19, v20, v21, w16, rfl⟩
              refine PC.weak w16 ?_
              refine PC.assoc ?_
              refine PC.region ?_
              refine PO.run 3 rfl ?_
              refine PO.same rfl (len_ok Try.underlying42 rfl (List.length_map _)) rfl ?_
              refine PO.run 1 rfl ?_
              refine PO.nil ?_
              refine bindK e8 (fun x17 e18 e8 => ?_)
              refine PC.join (fun s => ∃ (v23 : Int) (v24 : ByteArray) (v25 : Int) (v26 : Int) (v27 : Int) (v28 : Int) (v29 : Int) (v30 : Int) (v31 : Int) (v32 : Int) (v33 : Bool) (v34 : Int) (v35 : Int), Weak s (PS.of 81 [(0, .list 13 (List.map cGItem a0) none), (2, .val (.int .i64 0)), (3, .val (.int .i64 v3)), (5, .ptr 0 0), (6, .ptr 1 0), (7, .ptr 2 0), (12, .list 13 (List.map cGItem a0) none), (13, .val (.int .i64 (a0.length : Int))), (14, .val (.int .i64 v4))] [⟨0, (cGItem y8)⟩, ⟨0, [.val (.int .i64 v9), .val (.string v10), .val (.int .i64 v11), .val (.int .i64 v12), .val (.int .i64 v13), .val (.int .i64 v14), .val (.int .i64 v15), .val (.int .i64 v16), .val (.int .i64 v17), .val (.int .i64 v18), .val (.bool v19), .val (.int .i64 v20), .val (.int .i64 v21)]⟩, ⟨0, [.val (.int .i64 v23), .val (.string v24), .val (.int .i64 v25), .val (.int .i64 v26), .val (.int .i64 v27), .val (.int .i64 v28), .val (.int .i64 v29), .val (.int .i64 v30), .val (.int .i64 v31), .val (.int .i64 v32), .val (.bool v33), .val (.int .i64 v34), .val (.int .i64 v35)]⟩] [] 0 0) ∧ (v23, v24, v25, v26, v27, v28, v29, v30, v31, v32, v33, v34, v35) = x17) ?_ ?_
              · refine PC.cond rfl (fun h19 => ?_) (fun h19 => ?_)
                · have e18 := bif_t h19 e18
                  refine PC.region ?_
                  refine PO.run 3 rfl ?_
                  refine bindIK e18 (fun y36 h20 h21 e18 => ?_)
                  refine PO.same rfl (indexAddr_ok Try.underlying42 rfl rfl rfl h20 (map_at h21)) rfl ?_
                  refine PO.runK 2 [0, 1, 2] [] (es := [(0, .list 13 (List.map cGItem a0) none), (2, .val (.int .i64 0)), (3, .val (.int .i64 v3)), (5, .ptr 0 0), (6, .ptr 1 0), (7, .ptr 2 0), (12, .list 13 (List.map cGItem a0) none), (13, .val (.int .i64 (a0.length : Int))), (14, .val (.int .i64 v4))]) (fr' := [⟨0, (cGItem y8)⟩, ⟨0, [.val (.int .i64 v9), .val (.string v10), .val (.int .i64 v11), .val (.int .i64 v12), .val (.int .i64 v13), .val (.int .i64 v14), .val (.int .i64 v15), .val (.int .i64 v16), .val (.int .i64 v17), .val (.int .i64 v18), .val (.bool v19), .val (.int .i64 v20), .val (.int .i64 v21)]⟩, ⟨0, (cGItem y36)⟩]) (tk' := []) (by kernel_rfl) ?_
                  refine PO.nil ?_
                  exact PC.skip (joinKP.end ⟨y36.kind, y36.font, y36.size, y36.rune, y36.width, y36.height, y36.depth, y36.stretch, y36.shrink, y36.value, y36.flag, y36.from_, y36.to_, Weak.one [0, 1, 2] [] (by kernel_rfl), Option.some.inj e18⟩)
                · have e18 := bif_f h19 e18
                  refine PC.noop ?_
                  exact PC.skip (joinKP.end ⟨0, ByteArray.empty, 0, 0, 0, 0, 0, 0, 0, 0, false, 0, 0, Weak.one [0, 1, 2] [] (by kernel_rfl), Option.some.inj e18⟩)
              · rintro _ ⟨v23, v24, v25, v26, v27, v28, v29, v30, v31, v32, v33, v34, v35, w22, rfl⟩
                refine PC.weak w22 ?_
                refine PC.assoc ?_
                refine PC.region ?_
                refine PO.run 3 rfl ?_
                refine bindK e8 (fun r23 e24 e8 => ?_)
                refine PO.call rfl rfl rfl rfl (ks := []) (ts := []) (fr1 := []) rfl rfl rfl trivial (L91 k y8 (GItem.mk v9 v10 v11 v12 v13 v14 v15 v16 v17 v18 v19 v20 v21) (GItem.mk v23 v24 v25 v26 v27 v28 v29 v30 v31 v32 v33 v34 v35) _ e24) ?_
                rintro _ _ _ ⟨rfl, rfl, rfl⟩
                refine ⟨_, _, rfl, rfl, ?_⟩
                refine PO.run 1 rfl ?_
                refine PO.nil ?_
                refine PC.cond rfl (fun h25 => ?_) (fun h25 => ?_)
                · have e8 := bif_t h25 e8
                  refine PC.assoc ?_
                  refine PC.run (n := 2) rfl ?_
                  have hq := Option.some.inj e8
                  subst hq
                  have hq := Option.some.inj e3
                  subst hq
                  have hq := Option.some.inj hF
                  subst hq
                  exact PC.ret (blockJK.back (loopKP.ret (blockJK.back (retSK [] [] (by kernel_rfl) (.refl _) ⟨rfl, rfl, rfl⟩))))
                · have e8 := bif_f h25 e8
                  refine PC.noop ?_
                  refine PC.assoc ?_
                  refine PC.run (n := 4) rfl ?_
                  refine PC.cond rfl (fun h26 => ?_) (fun h26 => ?_)
                  · have e8 := bif_t h26 e8
                    exact PC.exit (blockJK.here ⟨v3, Weak.one [] [] (by kernel_rfl), Option.some.inj e8⟩)
                  · have e8 := bif_f h26 e8
                    refine PC.noop ?_
                    refine PC.assoc ?_
                    refine PC.region ?_
                    refine PO.run 5 rfl ?_
                    refine bindK e8 (fun x27 e28 e8 => ?_)
                    refine PO.cut 7 (fun s => ∃ (v37 : Bool), Weak s (PS.of 81 [(0, .list 13 (List.map cGItem a0) none), (2, .val (.int .i64 0)), (3, .val (.int .i64 v3)), (5, .ptr 0 0), (12, .list 13 (List.map cGItem a0) none), (13, .val (.int .i64 (a0.length : Int))), (14, .val (.int .i64 v4)), (55, .val (.bool v37))] [⟨0, (cGItem y8)⟩] [] 0 0) ∧ v37 = x27) ?_ ?_
                    · refine PO.case (t := 48) rfl rfl (fun h29 => ?_) (fun h29 => ?_)
                      · have e28 := bif_t h29 e28
                        refine PO.run 6 rfl ?_
                        refine PO.same rfl (pickT_ok rfl rfl rfl) rfl ?_
                        refine PO.nil ?_
                        exact ⟨true, Weak.one [0] [] (by kernel_rfl), Option.some.inj e28⟩
                      · have e28 := bif_f h29 e28
                        refine PO.runK 4 [0] [] (es := [(0, .list 13 (List.map cGItem a0) none), (2, .val (.int .i64 0)), (3, .val (.int .i64 v3)), (5, .ptr 0 0), (12, .list 13 (List.map cGItem a0) none), (13, .val (.int .i64 (a0.length : Int))), (14, .val (.int .i64 v4)), (48, .val (.bool false)), (50, .val (.int .i64 y8.to_)), (52, .val (.int .i64 y8.from_))]) (fr' := [⟨0, (cGItem y8)⟩]) (tk' := []) (by kernel_rfl) ?_
                        refine bindK e28 (fun r30 e31 e28 => ?_)
                        refine PO.call rfl rfl rfl rfl (ks := []) (ts := []) (fr1 := []) rfl rfl rfl trivial (L92 k y8.to_ y8.from_ 65536 _ e31) ?_
                        rintro _ _ _ ⟨rfl, rfl, rfl⟩
                        refine ⟨_, _, rfl, rfl, ?_⟩
                        refine PO.run 1 rfl ?_
                        refine PO.same rfl (pickF_ok rfl rfl rfl) rfl ?_
                        refine PO.nil ?_
                        exact ⟨!r30, Weak.one [0] [] (by kernel_rfl), Option.some.inj e28⟩
                    · rintro _ ⟨v37, w32, rfl⟩
                      refine PO.weak w32 ?_
                      refine PO.nil ?_
                      refine PC.cond rfl (fun h33 => ?_) (fun h33 => ?_)
                      · have e8 := bif_t h33 e8
                        refine PC.assoc ?_
                        refine PC.run (n := 2) rfl ?_
                        have hq := Option.some.inj e8
                        subst hq
                        have hq := Option.some.inj e3
                        subst hq
                        have hq := Option.some.inj hF
                        subst hq
                        exact PC.ret (blockJK.back (loopKP.ret (blockJK.back (retSK [] [] (by kernel_rfl) (.refl _) ⟨rfl, rfl, rfl⟩))))
                      · have e8 := bif_f h33 e8
                        refine PC.noop ?_
                        refine PC.lone ?_
                        refine PC.run (n := 4) rfl ?_
                        exact PC.skip (blockJK.end ⟨y8.to_, Weak.one [] [] (by kernel_rfl), Option.some.inj e8⟩)
          · rintro _ ⟨v7, w34, rfl⟩
            refine PC.weak w34 ?_
            have e3 := elim_l e3
            refine PC.lone ?_
            refine PC.run (n := 3) rfl ?_
            exact PC.skip (loopKP.mk (Nat.lt_succ_self _) ⟨v7, w (v4 + 1), Weak.one [] [] (by kernel_rfl), e3⟩)
        · have e3 := bif_f h6 e3
          exact PC.exit (loopKP.exit (blockJK.here ⟨Weak.one [] [] (by kernel_rfl), Option.some.inj e3⟩))
    · rintro _ ⟨w35, rfl⟩
      refine PC.weak w35 ?_
      have hF := elim_l hF
      refine PC.assoc ?_
      refine PC.region ?_
      refine PO.run 1 rfl ?_
      refine PO.same rfl (len_ok Try.underlying42 rfl (List.length_map _)) rfl ?_
      refine PO.run 1 rfl ?_
      refine PO.nil ?_
      refine PC.assoc ?_
      refine PC.region ?_
      refine PO.run 3 rfl ?_
      refine bindK hF (fun x36 e37 hF => ?_)
      refine PO.cut 17 (fun s => ∃ (v38 : Bool), Weak s (PS.of 81 [(2, .val (.int .i64 0)), (80, .val (.bool v38))] [] [] 0 0) ∧ v38 = x36) ?_ ?_
      · refine PO.case (t := 63) rfl rfl (fun h38 => ?_) (fun h38 => ?_)
        · have e37 := bif_t h38 e37
          refine PO.run 3 rfl ?_
          refine bindIK e37 (fun y39 h39 h40 e37 => ?_)
          refine PO.same rfl (indexAddr_ok Try.underlying42 rfl rfl rfl h39 (map_at h40)) rfl ?_
          refine PO.run 4 rfl ?_
          refine bindK e37 (fun x41 e42 e37 => ?_)
          refine PO.cut 9 (fun s => ∃ (v40 : Bool), Weak s (PS.of 81 [(2, .val (.int .i64 0)), (80, .val (.bool v40))] [] [] 0 0) ∧ v40 = x41) ?_ ?_
          · refine PO.case (t := 71) rfl rfl (fun h43 => ?_) (fun h43 => ?_)
            · have e42 := bif_t h43 e42
              refine PO.run 7 rfl ?_
              refine PO.same rfl (pickT_ok rfl rfl rfl) rfl ?_
              refine PO.same rfl (pickT_ok rfl rfl rfl) rfl ?_
              refine PO.nil ?_
              exact ⟨true, Weak.one [] [] (by kernel_rfl), Option.some.inj e42⟩
            · have e42 := bif_f h43 e42
              refine PO.run 3 rfl ?_
              refine bindIK e42 (fun y41 h44 h45 e42 => ?_)
              refine PO.same rfl (indexAddr_ok Try.underlying42 rfl rfl rfl h44 (map_at h45)) rfl ?_
              refine PO.run 3 rfl ?_
              refine PO.same rfl (pickF_ok rfl rfl rfl) rfl ?_
              refine PO.same rfl (pickT_ok rfl rfl rfl) rfl ?_
              refine PO.nil ?_
              exact ⟨y41.value != (-10000), Weak.one [] [] (by kernel_rfl), Option.some.inj e42⟩
          · rintro _ ⟨v40, w46, rfl⟩
            refine PO.weak w46 ?_
            refine PO.nil ?_
            exact ⟨v40, Weak.one [] [] (by kernel_rfl), Option.some.inj e37⟩
        · have e37 := bif_f h38 e37
          refine PO.run 16 rfl ?_
          refine PO.same rfl (pickF_ok rfl rfl rfl) rfl ?_
          refine PO.nil ?_
          exact ⟨false, Weak.one [] [] (by kernel_rfl), Option.some.inj e37⟩
      · rintro _ ⟨v38, w47, rfl⟩
        refine PO.weak w47 ?_
        refine PO.nil ?_
        refine PC.cond rfl (fun h48 => ?_) (fun h48 => ?_)
        · have hF := bif_t h48 hF
          refine PC.assoc ?_
          refine PC.run (n := 2) rfl ?_
          have hq := Option.some.inj hF
          subst hq
          exact PC.ret (retSK [] [] (by kernel_rfl) (.refl _) ⟨rfl, rfl, rfl⟩)
        · have hF := bif_f h48 hF
          refine PC.noop ?_
          refine PC.run (n := 2) rfl ?_
          have hq := Option.some.inj hF
          subst hq
          exact PC.ret' (retSK [] [] (by kernel_rfl) (.refl _) ⟨rfl, rfl, rfl⟩)

/-! 65 platen/line.walk -/
def F65 (k : Nat) (a0 : List GItem) : Option (List GItem) :=
some a0
theorem L65 (k : Nat) (a0 : List GItem) (r : List GItem) (hF : F65 k a0 = some r) : PF Try.prog orc 65 [.list 13 (List.map cGItem a0) none] [] [] (fun p fr tk => p = .fn 93 [] [.ptr 0 0] ∧ fr = [⟨0, [.list 13 (List.map cGItem r) none]⟩] ∧ tk = []) := by
  unfold F65 at hF
  refine PF.enterS Try.func65 rfl rfl rfl (by kernel_rfl) rfl ?_
  refine PC.region ?_
  refine PO.runK 2 [0] [] (es := [(1, .ptr 0 0), (2, .val .nilFunc)]) (fr' := [⟨0, [.list 13 (List.map cGItem a0) none]⟩]) (tk' := []) (by kernel_rfl) ?_
  refine PO.nil ?_
  refine PC.run (n := 3) rfl ?_
  have hq := Option.some.inj hF
  subst hq
  exact PC.ret' (retSK [0] [] (by kernel_rfl) (.refl _) ⟨rfl, rfl, rfl⟩)

/-! 30 platen/line.Legal -/
def F30_r1 (k : Nat) : List Int → (List Int) → Option ((List Int))
  | [], v5 => some v5
  | y4 :: l7, v5 =>
    bindA 8 v5 ([y4]) fun l8 =>
    F30_r1 k l7 l8
def F30 (k : Nat) (a0 : List GItem) : Option (List Int) :=
(F64 k a0).bind fun r1 =>
Option.bind (α := List Int) (bif r1 == 0 then ((F65 k a0).bind fun r6 =>
Option.bind (α := List Int) ((walkL k r6 k 0).bind fun l3 =>
Option.bind (α := (List Int)) (F30_r1 k l3 ([] : List Int)) (fun (v5 : List Int) =>
some v5)) fun (v2 : List Int) =>
some v2) else (some ([]))) fun (v1 : List Int) =>
some v1
theorem L30 (k : Nat) (a0 : List GItem) (r : List Int) (hF : F30 k a0 = some r) : PF Try.prog orc 30 [.list 13 (List.map cGItem a0) none] [] [] (fun p fr tk => p = .fn 66 [] [.ptr 0 0] ∧ fr = [⟨0, [.list 1 (List.map cI_i64 r) none]⟩] ∧ tk = []) := by
  unfold F30 at hF
  refine PF.enterM Try.func30 rfl rfl rfl (by kernel_rfl) rfl ?_
  refine PC.run (n := 2) rfl ?_
  refine PC.region ?_
  refine PO.runK 1 [0] [] (es := [(0, .list 13 (List.map cGItem a0) none), (2, .val .nilFunc), (3, .ptr 0 0)]) (fr' := [⟨0, [.val (.slice none 0 0)]⟩]) (tk' := []) (by kernel_rfl) ?_
  refine PO.nil ?_
  refine PC.assoc ?_
  refine PC.region ?_
  refine PO.run 1 rfl ?_
  refine bindK hF (fun r1 e2 hF => ?_)
  refine PO.call rfl rfl rfl rfl (ks := []) (ts := []) (fr1 := []) rfl rfl rfl trivial (L64 k a0 _ e2) ?_
  rintro _ _ _ ⟨rfl, rfl, rfl⟩
  refine ⟨_, _, rfl, rfl, ?_⟩
  refine PO.run 1 rfl ?_
  refine PO.nil ?_
  refine bindK hF (fun x3 e4 hF => ?_)
  refine PC.join (fun s => ∃ (v1 : List Int), Weak s (PS.ofm [none] 16 [(2, .val .nilFunc), (3, .ptr 0 0)] [⟨0, [.list 1 (List.map cI_i64 v1) none]⟩] [] 0 0) ∧ v1 = x3) ?_ ?_
  · refine PC.cond rfl (fun h5 => ?_) (fun h5 => ?_)
    · have e4 := bif_t h5 e4
      refine PC.assoc ?_
      refine PC.region ?_
      refine PO.run 1 rfl ?_
      refine bindK e4 (fun r6 e7 e4 => ?_)
      refine PO.call rfl rfl rfl rfl (ks := []) (ts := []) (fr1 := []) rfl rfl rfl trivial (L65 k a0 _ e7) ?_
      rintro _ _ _ ⟨rfl, rfl, rfl⟩
      refine ⟨_, _, rfl, rfl, ?_⟩
      refine PO.nil ?_
      refine bindK e4 (fun x8 e9 e4 => ?_)
      refine PC.blockJ (fun s => ∃ (v2 : List Int), Weak s (PS.ofm [none] 16 [(2, .val .nilFunc), (3, .ptr 0 0)] [⟨0, [.list 1 (List.map cI_i64 v2) (some 0)]⟩] [v2.length] 0 0) ∧ v2 = x8) ?_ ?_
      · refine PC.lone ?_
        refine bindK e9 (fun l3 e10 e9 => ?_)
        refine PC.weak (s' := PS.ofm [none] 16 [(2, .val .nilFunc), (3, .ptr 0 0), (9, .fn 93 [] [.ptr 1 0])] [⟨0, [.list 1 (List.map cI_i64 ([] : List Int)) (some 0)]⟩, ⟨0, [.list 13 (List.map cGItem r6) none]⟩] [0] 0 0) (Weak.mk [0, 1] [] 1 rfl rfl rfl ⟨⟨_, _, rfl, rfl, rfl, (LessL.cons (.nilt 1 0 rfl rfl) (LessL.refl _))⟩, ⟨⟨_, _, rfl, rfl, rfl, (LessL.refl _)⟩, trivial⟩⟩ ⟨⟨_, _, rfl, rfl, .refl _⟩, ⟨⟨_, _, rfl, rfl, .refl _⟩, ⟨⟨_, _, rfl, rfl, .refl _⟩, trivial⟩⟩⟩) ?_
        refine bindK e9 (fun x11 e12 e9 => ?_)
        refine PC.rangeFunc (f := 93) rfl (I93 k r6 k l3 e10 1) (by intro i x hx; obtain ⟨_, _, rfl⟩ := map_inv hx; rfl) (by intro h; first | rfl | cases h) (fun i fr tk => ∃ (v5 : List Int), fr = [⟨0, [.list 1 (List.map cI_i64 v5) (some 0)]⟩, ⟨0, [.list 13 (List.map cGItem r6) none]⟩] ∧ tk = [v5.length] ∧ F30_r1 k (List.drop i l3) v5 = some x11) (fun y fr tk => False) ?_ ?_ ?_ ?_ ?_
        · rintro i fr tk ⟨v5, rfl, rfl, _⟩
          exact ⟨rfl, rfl, ⟨_, _, rfl⟩⟩
        · exact ⟨([] : List Int), rfl, rfl, e12⟩
        · intro i x fr tk l hx hj
          refine Exists.elim (map_inv hx) (fun y4 hq => ?_)
          have ha := hq.1
          obtain rfl := hq.2
          clear hq
          obtain ⟨v5, rfl, rfl, e13⟩ := hj
          rw [drop_at ha, F30_r1] at e13
          clear hx ha
          refine ⟨_, rfl, ?_⟩
          refine PC.weak (s' := PS.of 16 [(3, .ptr 0 0), (10, .val (.int .i64 y4))] [⟨0, [.list 1 (List.map cI_i64 v5) (some 0)]⟩, ⟨0, [.list 13 (List.map cGItem r6) none]⟩] [v5.length] 2 1) (Weak.one [0, 1] [0] (by kernel_rfl)) ?_
          refine PC.lone ?_
          refine PC.run (n := 2) rfl ?_
          refine PC.skip ⟨rfl, ?_⟩
          refine PC.lone ?_
          refine PC.block ?_
          refine PC.lone ?_
          refine PC.region ?_
          refine PO.runK 3 [0, 1] [0, 1] (es := [(3, .ptr 0 0), (11, .list 1 (List.map cI_i64 v5) (some 0)), (13, .list 1 (List.map cI_i64 ([y4])) (some 1))]) (fr' := [⟨0, [.list 1 (List.map cI_i64 v5) (some 0)]⟩, ⟨0, [.list 13 (List.map cGItem r6) none]⟩]) (tk' := [v5.length, 1]) (by kernel_rfl) ?_
          refine bindAK e13 (fun h17 e13 => ?_)
          generalize hgl8 : v5 ++ ([y4]) = l8 at e13
          refine PO.one rfl (append_typed (L := v5) (M := [y4]) (f := cI_i64) (sz := 1) (bytes := 8) Try.underlying43 rfl rfl rfl rfl rfl rfl rfl rfl rfl rfl rfl rfl h17 hgl8) rfl ?_
          refine PO.runK 1 [0, 1] [0] (es := []) (fr' := [⟨0, [.list 1 (List.map cI_i64 l8) (some 0)]⟩, ⟨0, [.list 13 (List.map cGItem r6) none]⟩]) (tk' := [l8.length]) (by kernel_rfl) ?_
          refine PO.nil ?_
          refine PC.skip (blockKP.end ?_)
          refine PC.weak (s' := PS.of 16 [] [⟨0, [.list 1 (List.map cI_i64 l8) (some 0)]⟩, ⟨0, [.list 13 (List.map cGItem r6) none]⟩] [l8.length] 2 1) (Weak.one [0, 1] [0] (by kernel_rfl)) ?_
          exact PC.skip (⟨l8, rfl, rfl, e13⟩)
        · rintro fr tk ⟨v5, rfl, rfl, e13⟩
          rw [List.length_map, List.drop_length, F30_r1] at e13
          obtain rfl := Option.some.inj e13
          have e9 := e9
          refine PC.weak (s' := PS.ofm [none] 16 [(2, .val .nilFunc), (3, .ptr 0 0), (9, .fn 93 [] [.ptr 1 0])] [⟨0, [.list 1 (List.map cI_i64 v5) (some 0)]⟩, ⟨0, [.list 13 (List.map cGItem r6) none]⟩] [v5.length] 0 0) (Weak.one [0, 1] [0] (by kernel_rfl)) ?_
          exact PC.skip (blockJK.end ⟨v5, Weak.one [0] [0] (by kernel_rfl), Option.some.inj e9⟩)
        · intro y fr tk hd hy
          exact hd.elim
      · rintro _ ⟨v2, w18, rfl⟩
        refine PC.weak w18 ?_
        exact PC.skip (joinKP.end ⟨v2, Weak.one [0] [] (by kernel_rfl), Option.some.inj e4⟩)
    · have e4 := bif_f h5 e4
      refine PC.noop ?_
      exact PC.skip (joinKP.end ⟨[], Weak.mk [0] [] 0 rfl rfl rfl ⟨⟨_, _, rfl, rfl, rfl, (LessL.cons (.nil 1) (LessL.refl _))⟩, trivial⟩ ⟨⟨_, _, rfl, rfl, .refl _⟩, ⟨⟨_, _, rfl, rfl, .refl _⟩, trivial⟩⟩, Option.some.inj e4⟩)
  · rintro _ ⟨v1, w19, rfl⟩
    refine PC.weak w19 ?_
    refine PC.run (n := 3) rfl ?_
    have hq := Option.some.inj hF
    subst hq
    exact PC.ret' (retMK [0] [] (by kernel_rfl) (.refl _) ⟨rfl, rfl, rfl⟩)

/-! 79 platen/platenref13.Forced -/
def F79 (k : Nat) (a0 : GItem) : Option Bool :=
Option.bind (α := Bool) (bif a0.kind == 4 then (some (decide (a0.value ≤ (-10000)))) else (some false)) fun (v1 : Bool) =>
some v1
theorem L79 (k : Nat) (a0 : GItem) (r : Bool) (hF : F79 k a0 = some r) : PF Try.prog orc 79 [.agg (cGItem a0)] [] [] (fun p fr tk => p = .val (.bool r) ∧ fr = [] ∧ tk = []) := by
  unfold F79 at hF
  refine PF.enterS Try.func79 rfl rfl rfl (by kernel_rfl) rfl ?_
  refine PC.region ?_
  refine PO.runK 2 [0] [] (es := [(1, .ptr 0 0), (2, .val (.bool false))]) (fr' := [⟨0, (cGItem a0)⟩]) (tk' := []) (by kernel_rfl) ?_
  refine PO.nil ?_
  refine PC.region ?_
  refine PO.run 4 rfl ?_
  refine bindK hF (fun x1 e2 hF => ?_)
  refine PO.cut 4 (fun s => ∃ (v1 : Bool), Weak s (PS.of 11 [(2, .val (.bool false)), (10, .val (.bool v1))] [] [] 0 0) ∧ v1 = x1) ?_ ?_
  · refine PO.case (t := 6) rfl rfl (fun h3 => ?_) (fun h3 => ?_)
    · have e2 := bif_t h3 e2
      refine PO.run 3 rfl ?_
      refine PO.same rfl (pickT_ok rfl rfl rfl) rfl ?_
      refine PO.nil ?_
      exact ⟨decide (a0.value ≤ (-10000)), Weak.one [] [] (by kernel_rfl), Option.some.inj e2⟩
    · have e2 := bif_f h3 e2
      refine PO.run 3 rfl ?_
      refine PO.same rfl (pickF_ok rfl rfl rfl) rfl ?_
      refine PO.nil ?_
      exact ⟨false, Weak.one [] [] (by kernel_rfl), Option.some.inj e2⟩
  · rintro _ ⟨v1, w4, rfl⟩
    refine PO.weak w4 ?_
    refine PO.run 1 rfl ?_
    refine PO.nil ?_
    have hq := Option.some.inj hF
    subst hq
    exact PC.ret' (retSK [] [] (by kernel_rfl) (.refl _) ⟨rfl, rfl, rfl⟩)

/-! 80 platen/platenref13.kern -/
def F80 (k : Nat) (a0 : List GItem) (a1 : Int) : Option Bool :=
Option.bind (α := Bool) (bif a1 == 0 then (some true) else (Option.bind (α := Bool) (bif decide ((w (a1 + 1)) ≥ (a0.length : Int)) then (some true) else (bindI a0 (w (a1 - 1)) fun y3 =>
Option.bind (α := Bool) (bif y3.kind != 1 then (some true) else (bindI a0 (w (a1 + 1)) fun y5 =>
some (y5.kind != 1))) fun (v4 : Bool) =>
some v4)) fun (v2 : Bool) =>
some v2)) fun (v1 : Bool) =>
bif v1 then (some false) else (bindI a0 a1 fun y6 =>
bindI a0 a1 fun y7 =>
Option.bind (α := Bool) (bif (y7.kind == 2 && (y7.font == ByteArray.empty && (y7.size == 0 && (y7.rune == 0 && (y7.width == y6.width && (y7.height == 0 && (y7.depth == 0 && (y7.stretch == 0 && (y7.shrink == 0 && (y7.value == 0 && (y7.flag == false && (y7.from_ == 0 && (y7.to_ == 0 && true))))))))))))) then (Option.bind (α := Bool) (bif y6.width != 0 then (Option.bind (α := Bool) (bif decide (y6.width ≤ 1099511627776) then (bindI a0 (w (a1 - 1)) fun y11 =>
bindI a0 (w (a1 + 1)) fun y12 =>
some (decide (y6.width ≥ (w (0 - (if y12.width < y11.width then y12.width else y11.width)))))) else (some false)) fun (v10 : Bool) =>
some v10) else (some false)) fun (v9 : Bool) =>
some v9) else (some false)) fun (v8 : Bool) =>
some v8)
theorem L80 (k : Nat) (a0 : List GItem) (a1 : Int) (r : Bool) (hF : F80 k a0 a1 = some r) : PF Try.prog orc 80 [.list 13 (List.map cGItem a0) none, .val (.int .i64 a1)] [] [] (fun p fr tk => p = .val (.bool r) ∧ fr = [] ∧ tk = []) := by
  unfold F80 at hF
  refine PF.enterS Try.func80 rfl rfl rfl (by kernel_rfl) rfl ?_
  refine PC.run (n := 2) rfl ?_
  refine PC.assoc ?_
  refine PC.region ?_
  refine PO.run 3 rfl ?_
  refine bindK hF (fun x1 e2 hF => ?_)
  refine PO.cut 24 (fun s => ∃ (v1 : Bool), Weak s (PS.of 71 [(0, .list 13 (List.map cGItem a0) none), (1, .val (.int .i64 a1)), (4, .val (.bool false)), (32, .val (.bool v1))] [] [] 0 0) ∧ v1 = x1) ?_ ?_
  · refine PO.case (t := 8) rfl rfl (fun h3 => ?_) (fun h3 => ?_)
    · have e2 := bif_t h3 e2
      refine PO.run 5 rfl ?_
      refine PO.same rfl (pickT_ok rfl rfl rfl) rfl ?_
      refine PO.run 8 rfl ?_
      refine PO.same rfl (pickT_ok rfl rfl rfl) rfl ?_
      refine PO.run 8 rfl ?_
      refine PO.same rfl (pickT_ok rfl rfl rfl) rfl ?_
      refine PO.nil ?_
      exact ⟨true, Weak.one [] [] (by kernel_rfl), Option.some.inj e2⟩
    · have e2 := bif_f h3 e2
      refine PO.run 3 rfl ?_
      refine PO.same rfl (len_ok Try.underlying42 rfl (List.length_map _)) rfl ?_
      refine PO.run 1 rfl ?_
      refine PO.same rfl (pickF_ok rfl rfl rfl) rfl ?_
      refine PO.run 1 rfl ?_
      refine bindK e2 (fun x4 e5 e2 => ?_)
      refine PO.cut 17 (fun s => ∃ (v2 : Bool), Weak s (PS.of 71 [(0, .list 13 (List.map cGItem a0) none), (1, .val (.int .i64 a1)), (4, .val (.bool false)), (32, .val (.bool v2))] [] [] 0 0) ∧ v2 = x4) ?_ ?_
      · refine PO.case (t := 15) rfl rfl (fun h6 => ?_) (fun h6 => ?_)
        · have e5 := bif_t h6 e5
          refine PO.run 7 rfl ?_
          refine PO.same rfl (pickT_ok rfl rfl rfl) rfl ?_
          refine PO.run 8 rfl ?_
          refine PO.same rfl (pickT_ok rfl rfl rfl) rfl ?_
          refine PO.nil ?_
          exact ⟨true, Weak.one [] [] (by kernel_rfl), Option.some.inj e5⟩
        · have e5 := bif_f h6 e5
          refine PO.run 3 rfl ?_
          refine bindIK e5 (fun y3 h7 h8 e5 => ?_)
          refine PO.same rfl (indexAddr_ok Try.underlying42 rfl rfl rfl h7 (map_at h8)) rfl ?_
          refine PO.run 3 rfl ?_
          refine PO.same rfl (pickF_ok rfl rfl rfl) rfl ?_
          refine PO.run 1 rfl ?_
          refine bindK e5 (fun x9 e10 e5 => ?_)
          refine PO.cut 8 (fun s => ∃ (v4 : Bool), Weak s (PS.of 71 [(0, .list 13 (List.map cGItem a0) none), (1, .val (.int .i64 a1)), (4, .val (.bool false)), (32, .val (.bool v4))] [] [] 0 0) ∧ v4 = x9) ?_ ?_
          · refine PO.case (t := 24) rfl rfl (fun h11 => ?_) (fun h11 => ?_)
            · have e10 := bif_t h11 e10
              refine PO.run 7 rfl ?_
              refine PO.same rfl (pickT_ok rfl rfl rfl) rfl ?_
              refine PO.nil ?_
              exact ⟨true, Weak.one [] [] (by kernel_rfl), Option.some.inj e10⟩
            · have e10 := bif_f h11 e10
              refine PO.run 3 rfl ?_
              refine bindIK e10 (fun y5 h12 h13 e10 => ?_)
              refine PO.same rfl (indexAddr_ok Try.underlying42 rfl rfl rfl h12 (map_at h13)) rfl ?_
              refine PO.run 3 rfl ?_
              refine PO.same rfl (pickF_ok rfl rfl rfl) rfl ?_
              refine PO.nil ?_
              exact ⟨y5.kind != 1, Weak.one [] [] (by kernel_rfl), Option.some.inj e10⟩
          · rintro _ ⟨v4, w14, rfl⟩
            refine PO.weak w14 ?_
            refine PO.nil ?_
            exact ⟨v4, Weak.one [] [] (by kernel_rfl), Option.some.inj e5⟩
      · rintro _ ⟨v2, w15, rfl⟩
        refine PO.weak w15 ?_
        refine PO.nil ?_
        exact ⟨v2, Weak.one [] [] (by kernel_rfl), Option.some.inj e2⟩
  · rintro _ ⟨v1, w16, rfl⟩
    refine PO.weak w16 ?_
    refine PO.nil ?_
    refine PC.cond rfl (fun h17 => ?_) (fun h17 => ?_)
    · have hF := bif_t h17 hF
      refine PC.assoc ?_
      refine PC.run (n := 2) rfl ?_
      have hq := Option.some.inj hF
      subst hq
      exact PC.ret (retSK [] [] (by kernel_rfl) (.refl _) ⟨rfl, rfl, rfl⟩)
    · have hF := bif_f h17 hF
      refine PC.noop ?_
      refine PC.region ?_
      refine PO.run 2 rfl ?_
      refine bindIK hF (fun y6 h18 h19 hF => ?_)
      refine PO.same rfl (indexAddr_ok Try.underlying42 rfl rfl rfl h18 (map_at h19)) rfl ?_
      refine PO.run 3 rfl ?_
      refine PO.nil ?_
      refine PC.drawn (order := [0, 1, 2, 3, 4, 5, 6, 7, 8, 9, 10, 11, 12, 13, 14, 15, 16, 17, 18, 19, 20, 21, 22, 23, 24, 25, 26, 27, 28, 29, 30, 31, 32, 33]) (by kernel_rfl) ?_
      refine PO.run 2 rfl ?_
      refine bindIK hF (fun y7 h20 h21 hF => ?_)
      refine PO.same rfl (indexAddr_ok Try.underlying42 rfl rfl rfl h20 (map_at h21)) rfl ?_
      refine PO.runK 3 [] [] (es := [(0, .list 13 (List.map cGItem a0) none), (1, .val (.int .i64 a1)), (4, .val (.bool false)), (5, .val (.int .i64 y6.width)), (41, .agg (cGItem y7)), (43, .agg [.val (.int .i64 2), .val (.string ByteArray.empty), .val (.int .i64 0), .val (.int .i64 0), .val (.int .i64 y6.width), .val (.int .i64 0), .val (.int .i64 0), .val (.int .i64 0), .val (.int .i64 0), .val (.int .i64 0), .val (.bool false), .val (.int .i64 0), .val (.int .i64 0)])]) (fr' := []) (tk' := []) (by kernel_rfl) ?_
      refine PO.same rfl (aggEq_ok (v := .bool (y7.kind == 2 && (y7.font == ByteArray.empty && (y7.size == 0 && (y7.rune == 0 && (y7.width == y6.width && (y7.height == 0 && (y7.depth == 0 && (y7.stretch == 0 && (y7.shrink == 0 && (y7.value == 0 && (y7.flag == false && (y7.from_ == 0 && (y7.to_ == 0 && true)))))))))))))) rfl rfl rfl rfl rfl rfl rfl (by kernel_rfl)) rfl ?_
      refine PO.run 1 rfl ?_
      refine bindK hF (fun x22 e23 hF => ?_)
      refine PO.cut 25 (fun s => ∃ (v8 : Bool), Weak s (PS.of 71 [(4, .val (.bool false)), (70, .val (.bool v8))] [] [] 0 0) ∧ v8 = x22) ?_ ?_
      · refine PO.case (t := 45) rfl rfl (fun h24 => ?_) (fun h24 => ?_)
        · have e23 := bif_t h24 e23
          refine PO.run 2 rfl ?_
          refine PO.same rfl (pickT_ok rfl rfl rfl) rfl ?_
          refine PO.run 1 rfl ?_
          refine bindK e23 (fun x25 e26 e23 => ?_)
          refine PO.cut 21 (fun s => ∃ (v9 : Bool), Weak s (PS.of 71 [(4, .val (.bool false)), (70, .val (.bool v9))] [] [] 0 0) ∧ v9 = x25) ?_ ?_
          · refine PO.case (t := 49) rfl rfl (fun h27 => ?_) (fun h27 => ?_)
            · have e26 := bif_t h27 e26
              refine PO.run 2 rfl ?_
              refine PO.same rfl (pickT_ok rfl rfl rfl) rfl ?_
              refine PO.run 1 rfl ?_
              refine bindK e26 (fun x28 e29 e26 => ?_)
              refine PO.cut 17 (fun s => ∃ (v10 : Bool), Weak s (PS.of 71 [(4, .val (.bool false)), (70, .val (.bool v10))] [] [] 0 0) ∧ v10 = x28) ?_ ?_
              · refine PO.case (t := 53) rfl rfl (fun h30 => ?_) (fun h30 => ?_)
                · have e29 := bif_t h30 e29
                  refine PO.run 4 rfl ?_
                  refine bindIK e29 (fun y11 h31 h32 e29 => ?_)
                  refine PO.same rfl (indexAddr_ok Try.underlying42 rfl rfl rfl h31 (map_at h32)) rfl ?_
                  refine PO.run 5 rfl ?_
                  refine bindIK e29 (fun y12 h33 h34 e29 => ?_)
                  refine PO.same rfl (indexAddr_ok Try.underlying42 rfl rfl rfl h33 (map_at h34)) rfl ?_
                  refine PO.run 5 rfl ?_
                  refine PO.same rfl (pickT_ok rfl rfl rfl) rfl ?_
                  refine PO.nil ?_
                  exact ⟨decide (y6.width ≥ (w (0 - (if y12.width < y11.width then y12.width else y11.width)))), Weak.one [] [] (by kernel_rfl), Option.some.inj e29⟩
                · have e29 := bif_f h30 e29
                  refine PO.run 16 rfl ?_
                  refine PO.same rfl (pickF_ok rfl rfl rfl) rfl ?_
                  refine PO.nil ?_
                  exact ⟨false, Weak.one [] [] (by kernel_rfl), Option.some.inj e29⟩
              · rintro _ ⟨v10, w35, rfl⟩
                refine PO.weak w35 ?_
                refine PO.nil ?_
                exact ⟨v10, Weak.one [] [] (by kernel_rfl), Option.some.inj e26⟩
            · have e26 := bif_f h27 e26
              refine PO.run 2 rfl ?_
              refine PO.same rfl (pickF_ok rfl rfl rfl) rfl ?_
              refine PO.run 17 rfl ?_
              refine PO.same rfl (pickF_ok rfl rfl rfl) rfl ?_
              refine PO.nil ?_
              exact ⟨false, Weak.one [] [] (by kernel_rfl), Option.some.inj e26⟩
          · rintro _ ⟨v9, w36, rfl⟩
            refine PO.weak w36 ?_
            refine PO.nil ?_
            exact ⟨v9, Weak.one [] [] (by kernel_rfl), Option.some.inj e23⟩
        · have e23 := bif_f h24 e23
          refine PO.run 2 rfl ?_
          refine PO.same rfl (pickF_ok rfl rfl rfl) rfl ?_
          refine PO.run 3 rfl ?_
          refine PO.same rfl (pickF_ok rfl rfl rfl) rfl ?_
          refine PO.run 17 rfl ?_
          refine PO.same rfl (pickF_ok rfl rfl rfl) rfl ?_
          refine PO.nil ?_
          exact ⟨false, Weak.one [] [] (by kernel_rfl), Option.some.inj e23⟩
      · rintro _ ⟨v8, w37, rfl⟩
        refine PO.weak w37 ?_
        refine PO.run 1 rfl ?_
        refine PO.nil ?_
        have hq := Option.some.inj hF
        subst hq
        exact PC.ret' (retSK [] [] (by kernel_rfl) (.refl _) ⟨rfl, rfl, rfl⟩)

/-! 98 platen/platenref04.Width -/
def F98 (k : Nat) (a0 : Int) : Option Int :=
Option.bind (α := Bool) (bif decide (a0 < 0) then (some true) else (Option.bind (α := Bool) (bif decide (a0 > 1114111) then (some true) else (Option.bind (α := Bool) (bif decide (a0 ≥ 55296) then (some (decide (a0 ≤ 57343))) else (some false)) fun (v3 : Bool) =>
some v3)) fun (v2 : Bool) =>
some v2)) fun (v1 : Bool) =>
bif v1 then (some 0) else (bif decide (a0 < 128) then (some 1) else (bif decide (a0 < 2048) then (some 2) else (bif decide (a0 < 65536) then (some 3) else (some 4))))
theorem L98 (k : Nat) (a0 : Int) (r : Int) (hF : F98 k a0 = some r) : PF Try.prog orc 98 [.val (.int .i64 a0)] [] [] (fun p fr tk => p = .val (.int .i64 r) ∧ fr = [] ∧ tk = []) := by
  unfold F98 at hF
  refine PF.enterS Try.func98 rfl rfl rfl (by kernel_rfl) rfl ?_
  refine PC.run (n := 2) rfl ?_
  refine PC.assoc ?_
  refine PC.region ?_
  refine PO.run 3 rfl ?_
  refine bindK hF (fun x1 e2 hF => ?_)
  refine PO.cut 11 (fun s => ∃ (v1 : Bool), Weak s (PS.of 23 [(0, .val (.int .i64 a0)), (2, .val (.int .i64 0)), (16, .val (.bool v1))] [] [] 0 0) ∧ v1 = x1) ?_ ?_
  · refine PO.case (t := 5) rfl rfl (fun h3 => ?_) (fun h3 => ?_)
    · have e2 := bif_t h3 e2
      refine PO.run 2 rfl ?_
      refine PO.same rfl (pickT_ok rfl rfl rfl) rfl ?_
      refine PO.run 7 rfl ?_
      refine PO.same rfl (pickT_ok rfl rfl rfl) rfl ?_
      refine PO.nil ?_
      exact ⟨true, Weak.one [] [] (by kernel_rfl), Option.some.inj e2⟩
    · have e2 := bif_f h3 e2
      refine PO.run 2 rfl ?_
      refine PO.same rfl (pickF_ok rfl rfl rfl) rfl ?_
      refine PO.run 1 rfl ?_
      refine bindK e2 (fun x4 e5 e2 => ?_)
      refine PO.cut 7 (fun s => ∃ (v2 : Bool), Weak s (PS.of 23 [(0, .val (.int .i64 a0)), (2, .val (.int .i64 0)), (16, .val (.bool v2))] [] [] 0 0) ∧ v2 = x4) ?_ ?_
      · refine PO.case (t := 9) rfl rfl (fun h6 => ?_) (fun h6 => ?_)
        · have e5 := bif_t h6 e5
          refine PO.run 6 rfl ?_
          refine PO.same rfl (pickT_ok rfl rfl rfl) rfl ?_
          refine PO.nil ?_
          exact ⟨true, Weak.one [] [] (by kernel_rfl), Option.some.inj e5⟩
        · have e5 := bif_f h6 e5
          refine PO.run 3 rfl ?_
          refine bindK e5 (fun x7 e8 e5 => ?_)
          refine PO.cut 4 (fun s => ∃ (v3 : Bool), Weak s (PS.of 23 [(0, .val (.int .i64 a0)), (2, .val (.int .i64 0)), (16, .val (.bool v3))] [] [] 0 0) ∧ v3 = x7) ?_ ?_
          · refine PO.case (t := 12) rfl rfl (fun h9 => ?_) (fun h9 => ?_)
            · have e8 := bif_t h9 e8
              refine PO.run 2 rfl ?_
              refine PO.same rfl (pickT_ok rfl rfl rfl) rfl ?_
              refine PO.same rfl (pickF_ok rfl rfl rfl) rfl ?_
              refine PO.nil ?_
              exact ⟨decide (a0 ≤ 57343), Weak.one [] [] (by kernel_rfl), Option.some.inj e8⟩
            · have e8 := bif_f h9 e8
              refine PO.run 2 rfl ?_
              refine PO.same rfl (pickF_ok rfl rfl rfl) rfl ?_
              refine PO.same rfl (pickF_ok rfl rfl rfl) rfl ?_
              refine PO.nil ?_
              exact ⟨false, Weak.one [] [] (by kernel_rfl), Option.some.inj e8⟩
          · rintro _ ⟨v3, w10, rfl⟩
            refine PO.weak w10 ?_
            refine PO.nil ?_
            exact ⟨v3, Weak.one [] [] (by kernel_rfl), Option.some.inj e5⟩
      · rintro _ ⟨v2, w11, rfl⟩
        refine PO.weak w11 ?_
        refine PO.nil ?_
        exact ⟨v2, Weak.one [] [] (by kernel_rfl), Option.some.inj e2⟩
  · rintro _ ⟨v1, w12, rfl⟩
    refine PO.weak w12 ?_
    refine PO.nil ?_
    refine PC.cond rfl (fun h13 => ?_) (fun h13 => ?_)
    · have hF := bif_t h13 hF
      refine PC.assoc ?_
      refine PC.run (n := 2) rfl ?_
      have hq := Option.some.inj hF
      subst hq
      exact PC.ret (retSK [] [] (by kernel_rfl) (.refl _) ⟨rfl, rfl, rfl⟩)
    · have hF := bif_f h13 hF
      refine PC.noop ?_
      refine PC.assoc ?_
      refine PC.run (n := 3) rfl ?_
      refine PC.cond rfl (fun h14 => ?_) (fun h14 => ?_)
      · have hF := bif_t h14 hF
        refine PC.assoc ?_
        refine PC.run (n := 2) rfl ?_
        have hq := Option.some.inj hF
        subst hq
        exact PC.ret (retSK [] [] (by kernel_rfl) (.refl _) ⟨rfl, rfl, rfl⟩)
      · have hF := bif_f h14 hF
        refine PC.noop ?_
        refine PC.assoc ?_
        refine PC.run (n := 3) rfl ?_
        refine PC.cond rfl (fun h15 => ?_) (fun h15 => ?_)
        · have hF := bif_t h15 hF
          refine PC.assoc ?_
          refine PC.run (n := 2) rfl ?_
          have hq := Option.some.inj hF
          subst hq
          exact PC.ret (retSK [] [] (by kernel_rfl) (.refl _) ⟨rfl, rfl, rfl⟩)
        · have hF := bif_f h15 hF
          refine PC.noop ?_
          refine PC.assoc ?_
          refine PC.run (n := 3) rfl ?_
          refine PC.cond rfl (fun h16 => ?_) (fun h16 => ?_)
          · have hF := bif_t h16 hF
            refine PC.assoc ?_
            refine PC.run (n := 2) rfl ?_
            have hq := Option.some.inj hF
            subst hq
            exact PC.ret (retSK [] [] (by kernel_rfl) (.refl _) ⟨rfl, rfl, rfl⟩)
          · have hF := bif_f h16 hF
            refine PC.noop ?_
            refine PC.run (n := 2) rfl ?_
            have hq := Option.some.inj hF
            subst hq
            exact PC.ret' (retSK [] [] (by kernel_rfl) (.refl _) ⟨rfl, rfl, rfl⟩)

/-! 99 platen/platenref13.sized -/
def F99 (k : Nat) (a0 : Int) : Option Bool :=
Option.bind (α := Bool) (bif decide (a0 ≥ 1) then (some (decide (a0 ≤ 67108864))) else (some false)) fun (v1 : Bool) =>
some v1
theorem L99 (k : Nat) (a0 : Int) (r : Bool) (hF : F99 k a0 = some r) : PF Try.prog orc 99 [.val (.int .i64 a0)] [] [] (fun p fr tk => p = .val (.bool r) ∧ fr = [] ∧ tk = []) := by
  unfold F99 at hF
  refine PF.enterS Try.func99 rfl rfl rfl (by kernel_rfl) rfl ?_
  refine PC.run (n := 2) rfl ?_
  refine PC.region ?_
  refine PO.run 3 rfl ?_
  refine bindK hF (fun x1 e2 hF => ?_)
  refine PO.cut 3 (fun s => ∃ (v1 : Bool), Weak s (PS.of 9 [(2, .val (.bool false)), (8, .val (.bool v1))] [] [] 0 0) ∧ v1 = x1) ?_ ?_
  · refine PO.case (t := 5) rfl rfl (fun h3 => ?_) (fun h3 => ?_)
    · have e2 := bif_t h3 e2
      refine PO.run 2 rfl ?_
      refine PO.same rfl (pickT_ok rfl rfl rfl) rfl ?_
      refine PO.nil ?_
      exact ⟨decide (a0 ≤ 67108864), Weak.one [] [] (by kernel_rfl), Option.some.inj e2⟩
    · have e2 := bif_f h3 e2
      refine PO.run 2 rfl ?_
      refine PO.same rfl (pickF_ok rfl rfl rfl) rfl ?_
      refine PO.nil ?_
      exact ⟨false, Weak.one [] [] (by kernel_rfl), Option.some.inj e2⟩
  · rintro _ ⟨v1, w4, rfl⟩
    refine PO.weak w4 ?_
    refine PO.run 1 rfl ?_
    refine PO.nil ?_
    have hq := Option.some.inj hF
    subst hq
    exact PC.ret' (retSK [] [] (by kernel_rfl) (.refl _) ⟨rfl, rfl, rfl⟩)

/-! 100 platen/platenref13.wide -/
def F100 (k : Nat) (a0 : Int) : Option Bool :=
Option.bind (α := Bool) (bif decide (a0 ≥ 0) then (some (decide (a0 ≤ 1099511627776))) else (some false)) fun (v1 : Bool) =>
some v1
theorem L100 (k : Nat) (a0 : Int) (r : Bool) (hF : F100 k a0 = some r) : PF Try.prog orc 100 [.val (.int .i64 a0)] [] [] (fun p fr tk => p = .val (.bool r) ∧ fr = [] ∧ tk = []) := by
  unfold F100 at hF
  refine PF.enterS Try.func100 rfl rfl rfl (by kernel_rfl) rfl ?_
  refine PC.run (n := 2) rfl ?_
  refine PC.region ?_
  refine PO.run 3 rfl ?_
  refine bindK hF (fun x1 e2 hF => ?_)
  refine PO.cut 3 (fun s => ∃ (v1 : Bool), Weak s (PS.of 9 [(2, .val (.bool false)), (8, .val (.bool v1))] [] [] 0 0) ∧ v1 = x1) ?_ ?_
  · refine PO.case (t := 5) rfl rfl (fun h3 => ?_) (fun h3 => ?_)
    · have e2 := bif_t h3 e2
      refine PO.run 2 rfl ?_
      refine PO.same rfl (pickT_ok rfl rfl rfl) rfl ?_
      refine PO.nil ?_
      exact ⟨decide (a0 ≤ 1099511627776), Weak.one [] [] (by kernel_rfl), Option.some.inj e2⟩
    · have e2 := bif_f h3 e2
      refine PO.run 2 rfl ?_
      refine PO.same rfl (pickF_ok rfl rfl rfl) rfl ?_
      refine PO.nil ?_
      exact ⟨false, Weak.one [] [] (by kernel_rfl), Option.some.inj e2⟩
  · rintro _ ⟨v1, w4, rfl⟩
    refine PO.weak w4 ?_
    refine PO.run 1 rfl ?_
    refine PO.nil ?_
    have hq := Option.some.inj hF
    subst hq
    exact PC.ret' (retSK [] [] (by kernel_rfl) (.refl _) ⟨rfl, rfl, rfl⟩)

/-! 81 platen/platenref13.good -/
def F81 (k : Nat) (a0 : GItem) : Option Bool :=
bif a0.kind == 1 then (Option.bind (α := Bool) (bif (a0.kind == 1 && (a0.font == a0.font && (a0.size == a0.size && (a0.rune == a0.rune && (a0.width == a0.width && (a0.height == a0.height && (a0.depth == a0.depth && (a0.stretch == 0 && (a0.shrink == 0 && (a0.value == 0 && (a0.flag == false && (0 == 0 && (0 == 0 && true))))))))))))) then ((F98 k a0.rune).bind fun r5 =>
Option.bind (α := Bool) (bif decide (r5 > 0) then ((F99 k a0.size).bind fun r10 =>
Option.bind (α := Bool) (bif r10 then ((F100 k a0.width).bind fun r15 =>
Option.bind (α := Bool) (bif r15 then ((F100 k a0.height).bind fun r20 =>
Option.bind (α := Bool) (bif r20 then ((F100 k a0.depth).bind fun r25 =>
some r25) else (some false)) fun (v5 : Bool) =>
some v5) else (some false)) fun (v4 : Bool) =>
some v4) else (some false)) fun (v3 : Bool) =>
some v3) else (some false)) fun (v2 : Bool) =>
some v2) else (some false)) fun (v1 : Bool) =>
some v1) else (bif a0.kind == 3 then (Option.bind (α := Bool) (bif (a0.kind == 3 && (a0.font == a0.font && (a0.size == a0.size && (a0.rune == 0 && (a0.width == a0.width && (a0.height == 0 && (a0.depth == 0 && (a0.stretch == a0.stretch && (a0.shrink == a0.shrink && (a0.value == 0 && (a0.flag == false && (0 == 0 && (0 == 0 && true))))))))))))) then ((F99 k a0.size).bind fun r36 =>
Option.bind (α := Bool) (bif r36 then (Option.bind (α := Bool) (bif decide (a0.width ≥ 0) then (Option.bind (α := Bool) (bif decide (a0.width ≤ 67108864) then (Option.bind (α := Bool) (bif decide (a0.stretch ≥ 0) then (Option.bind (α := Bool) (bif decide (a0.stretch ≤ 67108864) then (Option.bind (α := Bool) (bif decide (a0.shrink ≥ 0) then (some (decide (a0.shrink ≤ a0.width))) else (some false)) fun (v12 : Bool) =>
some v12) else (some false)) fun (v11 : Bool) =>
some v11) else (some false)) fun (v10 : Bool) =>
some v10) else (some false)) fun (v9 : Bool) =>
some v9) else (some false)) fun (v8 : Bool) =>
some v8) else (some false)) fun (v7 : Bool) =>
some v7) else (some false)) fun (v6 : Bool) =>
some v6) else (bif a0.kind == 4 then (Option.bind (α := Bool) (bif decide (a0.value < (-10000)) then (some true) else (some (decide (a0.value > 10000)))) fun (v13 : Bool) =>
bif v13 then (some false) else (bif !a0.flag then (some (a0.kind == 4 && (a0.font == ByteArray.empty && (a0.size == 0 && (a0.rune == 0 && (a0.width == 0 && (a0.height == 0 && (a0.depth == 0 && (a0.stretch == 0 && (a0.shrink == 0 && (a0.value == a0.value && (a0.flag == false && (0 == 0 && (0 == 0 && true)))))))))))))) else (Option.bind (α := Bool) (bif (a0.kind == 4 && (a0.font == a0.font && (a0.size == a0.size && (a0.rune == 45 && (a0.width == a0.width && (a0.height == a0.height && (a0.depth == a0.depth && (a0.stretch == 0 && (a0.shrink == 0 && (a0.value == a0.value && (a0.flag == true && (0 == 0 && (0 == 0 && true))))))))))))) then (Option.bind (α := Bool) (bif decide (a0.value > (-10000)) then ((F99 k a0.size).bind fun r76 =>
Option.bind (α := Bool) (bif r76 then ((F100 k a0.width).bind fun r81 =>
Option.bind (α := Bool) (bif r81 then ((F100 k a0.height).bind fun r86 =>
Option.bind (α := Bool) (bif r86 then ((F100 k a0.depth).bind fun r91 =>
some r91) else (some false)) fun (v18 : Bool) =>
some v18) else (some false)) fun (v17 : Bool) =>
some v17) else (some false)) fun (v16 : Bool) =>
some v16) else (some false)) fun (v15 : Bool) =>
some v15) else (some false)) fun (v14 : Bool) =>
some v14))) else (some false)))
theorem L81 (k : Nat) (a0 : GItem) (r : Bool) (hF : F81 k a0 = some r) : PF Try.prog orc 81 [.agg (cGItem a0)] [] [] (fun p fr tk => p = .val (.bool r) ∧ fr = [] ∧ tk = []) := by
  unfold F81 at hF
  refine PF.enterS Try.func81 rfl rfl rfl (by kernel_rfl) rfl ?_
  refine PC.region ?_
  refine PO.runK 2 [0] [] (es := [(1, .ptr 0 0), (2, .val (.bool false))]) (fr' := [⟨0, (cGItem a0)⟩]) (tk' := []) (by kernel_rfl) ?_
  refine PO.nil ?_
  refine PC.region ?_
  refine PO.runK 3 [0, 1] [] (es := [(1, .ptr 0 0), (2, .val (.bool false)), (3, .ptr 1 0)]) (fr' := [⟨0, (cGItem a0)⟩, ⟨0, (cGItem a0)⟩]) (tk' := []) (by kernel_rfl) ?_
  refine PO.nil ?_
  refine PC.region ?_
  refine PO.runK 2 [0, 1] [] (es := [(1, .ptr 0 0), (2, .val (.bool false)), (3, .ptr 1 0)]) (fr' := [⟨0, (cGItem a0)⟩, ⟨0, [.val (.int .i64 a0.kind), .val (.string a0.font), .val (.int .i64 a0.size), .val (.int .i64 a0.rune), .val (.int .i64 a0.width), .val (.int .i64 a0.height), .val (.int .i64 a0.depth), .val (.int .i64 a0.stretch), .val (.int .i64 a0.shrink), .val (.int .i64 a0.value), .val (.bool a0.flag), .val (.int .i64 0), .val (.int .i64 a0.to_)]⟩]) (tk' := []) (by kernel_rfl) ?_
  refine PO.nil ?_
  refine PC.region ?_
  refine PO.runK 2 [0, 1] [] (es := [(1, .ptr 0 0), (2, .val (.bool false)), (3, .ptr 1 0)]) (fr' := [⟨0, (cGItem a0)⟩, ⟨0, [.val (.int .i64 a0.kind), .val (.string a0.font), .val (.int .i64 a0.size), .val (.int .i64 a0.rune), .val (.int .i64 a0.width), .val (.int .i64 a0.height), .val (.int .i64 a0.depth), .val (.int .i64 a0.stretch), .val (.int .i64 a0.shrink), .val (.int .i64 a0.value), .val (.bool a0.flag), .val (.int .i64 0), .val (.int .i64 0)]⟩]) (tk' := []) (by kernel_rfl) ?_
  refine PO.nil ?_
  refine PC.assoc ?_
  refine PC.run (n := 3) rfl ?_
  refine PC.block ?_
  refine PC.run (n := 3) rfl ?_
  refine PC.lone ?_
  refine PC.cond rfl (fun h1 => ?_) (fun h1 => ?_)
  · have hF := bif_t h1 hF
    refine PC.assoc ?_
    refine PC.region ?_
    refine PO.runK 14 [0] [] (es := [(1, .ptr 0 0), (2, .val (.bool false)), (11, .agg [.val (.int .i64 a0.kind), .val (.string a0.font), .val (.int .i64 a0.size), .val (.int .i64 a0.rune), .val (.int .i64 a0.width), .val (.int .i64 a0.height), .val (.int .i64 a0.depth), .val (.int .i64 a0.stretch), .val (.int .i64 a0.shrink), .val (.int .i64 a0.value), .val (.bool a0.flag), .val (.int .i64 0), .val (.int .i64 0)]), (24, .agg [.val (.int .i64 1), .val (.string a0.font), .val (.int .i64 a0.size), .val (.int .i64 a0.rune), .val (.int .i64 a0.width), .val (.int .i64 a0.height), .val (.int .i64 a0.depth), .val (.int .i64 0), .val (.int .i64 0), .val (.int .i64 0), .val (.bool false), .val (.int .i64 0), .val (.int .i64 0)])]) (fr' := [⟨0, (cGItem a0)⟩]) (tk' := []) (by kernel_rfl) ?_
    refine PO.same rfl (aggEq_ok (v := .bool (a0.kind == 1 && (a0.font == a0.font && (a0.size == a0.size && (a0.rune == a0.rune && (a0.width == a0.width && (a0.height == a0.height && (a0.depth == a0.depth && (a0.stretch == 0 && (a0.shrink == 0 && (a0.value == 0 && (a0.flag == false && (0 == 0 && (0 == 0 && true)))))))))))))) rfl rfl rfl rfl rfl rfl rfl (by kernel_rfl)) rfl ?_
    refine PO.run 1 rfl ?_
    refine bindK hF (fun x2 e3 hF => ?_)
    refine PO.cut 25 (fun s => ∃ (v1 : Bool), Weak s (PS.of 162 [(2, .val (.bool false)), (51, .val (.bool v1))] [] [] 0 0) ∧ v1 = x2) ?_ ?_
    · refine PO.case (t := 26) rfl rfl (fun h4 => ?_) (fun h4 => ?_)
      · have e3 := bif_t h4 e3
        refine PO.runK 2 [0] [] (es := [(1, .ptr 0 0), (2, .val (.bool false)), (26, .val (.bool true)), (28, .val (.int .i64 a0.rune))]) (fr' := [⟨0, (cGItem a0)⟩]) (tk' := []) (by kernel_rfl) ?_
        refine bindK e3 (fun r5 e6 e3 => ?_)
        refine PO.call rfl rfl rfl rfl (ks := []) (ts := []) (fr1 := []) rfl rfl rfl trivial (L98 k a0.rune _ e6) ?_
        rintro _ _ _ ⟨rfl, rfl, rfl⟩
        refine ⟨_, _, rfl, rfl, ?_⟩
        refine PO.run 1 rfl ?_
        refine PO.same rfl (pickT_ok rfl rfl rfl) rfl ?_
        refine PO.run 1 rfl ?_
        refine bindK e3 (fun x7 e8 e3 => ?_)
        refine PO.cut 19 (fun s => ∃ (v2 : Bool), Weak s (PS.of 162 [(2, .val (.bool false)), (51, .val (.bool v2))] [] [] 0 0) ∧ v2 = x7) ?_ ?_
        · refine PO.case (t := 32) rfl rfl (fun h9 => ?_) (fun h9 => ?_)
          · have e8 := bif_t h9 e8
            refine PO.runK 2 [0] [] (es := [(1, .ptr 0 0), (2, .val (.bool false)), (32, .val (.bool true)), (34, .val (.int .i64 a0.size))]) (fr' := [⟨0, (cGItem a0)⟩]) (tk' := []) (by kernel_rfl) ?_
            refine bindK e8 (fun r10 e11 e8 => ?_)
            refine PO.call rfl rfl rfl rfl (ks := []) (ts := []) (fr1 := []) rfl rfl rfl trivial (L99 k a0.size _ e11) ?_
            rintro _ _ _ ⟨rfl, rfl, rfl⟩
            refine ⟨_, _, rfl, rfl, ?_⟩
            refine PO.same rfl (pickT_ok rfl rfl rfl) rfl ?_
            refine PO.run 1 rfl ?_
            refine bindK e8 (fun x12 e13 e8 => ?_)
            refine PO.cut 14 (fun s => ∃ (v3 : Bool), Weak s (PS.of 162 [(2, .val (.bool false)), (51, .val (.bool v3))] [] [] 0 0) ∧ v3 = x12) ?_ ?_
            · refine PO.case (t := 37) rfl rfl (fun h14 => ?_) (fun h14 => ?_)
              · have e13 := bif_t h14 e13
                refine PO.runK 2 [0] [] (es := [(1, .ptr 0 0), (2, .val (.bool false)), (37, .val (.bool true)), (39, .val (.int .i64 a0.width))]) (fr' := [⟨0, (cGItem a0)⟩]) (tk' := []) (by kernel_rfl) ?_
                refine bindK e13 (fun r15 e16 e13 => ?_)
                refine PO.call rfl rfl rfl rfl (ks := []) (ts := []) (fr1 := []) rfl rfl rfl trivial (L100 k a0.width _ e16) ?_
                rintro _ _ _ ⟨rfl, rfl, rfl⟩
                refine ⟨_, _, rfl, rfl, ?_⟩
                refine PO.same rfl (pickT_ok rfl rfl rfl) rfl ?_
                refine PO.run 1 rfl ?_
                refine bindK e13 (fun x17 e18 e13 => ?_)
                refine PO.cut 9 (fun s => ∃ (v4 : Bool), Weak s (PS.of 162 [(2, .val (.bool false)), (51, .val (.bool v4))] [] [] 0 0) ∧ v4 = x17) ?_ ?_
                · refine PO.case (t := 42) rfl rfl (fun h19 => ?_) (fun h19 => ?_)
                  · have e18 := bif_t h19 e18
                    refine PO.runK 2 [0] [] (es := [(1, .ptr 0 0), (2, .val (.bool false)), (42, .val (.bool true)), (44, .val (.int .i64 a0.height))]) (fr' := [⟨0, (cGItem a0)⟩]) (tk' := []) (by kernel_rfl) ?_
                    refine bindK e18 (fun r20 e21 e18 => ?_)
                    refine PO.call rfl rfl rfl rfl (ks := []) (ts := []) (fr1 := []) rfl rfl rfl trivial (L100 k a0.height _ e21) ?_
                    rintro _ _ _ ⟨rfl, rfl, rfl⟩
                    refine ⟨_, _, rfl, rfl, ?_⟩
                    refine PO.same rfl (pickT_ok rfl rfl rfl) rfl ?_
                    refine PO.run 1 rfl ?_
                    refine bindK e18 (fun x22 e23 e18 => ?_)
                    refine PO.cut 4 (fun s => ∃ (v5 : Bool), Weak s (PS.of 162 [(2, .val (.bool false)), (51, .val (.bool v5))] [] [] 0 0) ∧ v5 = x22) ?_ ?_
                    · refine PO.case (t := 47) rfl rfl (fun h24 => ?_) (fun h24 => ?_)
                      · have e23 := bif_t h24 e23
                        refine PO.runK 2 [] [] (es := [(2, .val (.bool false)), (47, .val (.bool true)), (49, .val (.int .i64 a0.depth))]) (fr' := []) (tk' := []) (by kernel_rfl) ?_
                        refine bindK e23 (fun r25 e26 e23 => ?_)
                        refine PO.call rfl rfl rfl rfl (ks := []) (ts := []) (fr1 := []) rfl rfl rfl trivial (L100 k a0.depth _ e26) ?_
                        rintro _ _ _ ⟨rfl, rfl, rfl⟩
                        refine ⟨_, _, rfl, rfl, ?_⟩
                        refine PO.same rfl (pickT_ok rfl rfl rfl) rfl ?_
                        refine PO.nil ?_
                        exact ⟨r25, Weak.one [] [] (by kernel_rfl), Option.some.inj e23⟩
                      · have e23 := bif_f h24 e23
                        refine PO.run 3 rfl ?_
                        refine PO.same rfl (pickF_ok rfl rfl rfl) rfl ?_
                        refine PO.nil ?_
                        exact ⟨false, Weak.one [] [] (by kernel_rfl), Option.some.inj e23⟩
                    · rintro _ ⟨v5, w27, rfl⟩
                      refine PO.weak w27 ?_
                      refine PO.nil ?_
                      exact ⟨v5, Weak.one [] [] (by kernel_rfl), Option.some.inj e18⟩
                  · have e18 := bif_f h19 e18
                    refine PO.run 3 rfl ?_
                    refine PO.same rfl (pickF_ok rfl rfl rfl) rfl ?_
                    refine PO.run 4 rfl ?_
                    refine PO.same rfl (pickF_ok rfl rfl rfl) rfl ?_
                    refine PO.nil ?_
                    exact ⟨false, Weak.one [] [] (by kernel_rfl), Option.some.inj e18⟩
                · rintro _ ⟨v4, w28, rfl⟩
                  refine PO.weak w28 ?_
                  refine PO.nil ?_
                  exact ⟨v4, Weak.one [] [] (by kernel_rfl), Option.some.inj e13⟩
              · have e13 := bif_f h14 e13
                refine PO.run 3 rfl ?_
                refine PO.same rfl (pickF_ok rfl rfl rfl) rfl ?_
                refine PO.run 4 rfl ?_
                refine PO.same rfl (pickF_ok rfl rfl rfl) rfl ?_
                refine PO.run 4 rfl ?_
                refine PO.same rfl (pickF_ok rfl rfl rfl) rfl ?_
                refine PO.nil ?_
                exact ⟨false, Weak.one [] [] (by kernel_rfl), Option.some.inj e13⟩
            · rintro _ ⟨v3, w29, rfl⟩
              refine PO.weak w29 ?_
              refine PO.nil ?_
              exact ⟨v3, Weak.one [] [] (by kernel_rfl), Option.some.inj e8⟩
          · have e8 := bif_f h9 e8
            refine PO.run 3 rfl ?_
            refine PO.same rfl (pickF_ok rfl rfl rfl) rfl ?_
            refine PO.run 4 rfl ?_
            refine PO.same rfl (pickF_ok rfl rfl rfl) rfl ?_
            refine PO.run 4 rfl ?_
            refine PO.same rfl (pickF_ok rfl rfl rfl) rfl ?_
            refine PO.run 4 rfl ?_
            refine PO.same rfl (pickF_ok rfl rfl rfl) rfl ?_
            refine PO.nil ?_
            exact ⟨false, Weak.one [] [] (by kernel_rfl), Option.some.inj e8⟩
        · rintro _ ⟨v2, w30, rfl⟩
          refine PO.weak w30 ?_
          refine PO.nil ?_
          exact ⟨v2, Weak.one [] [] (by kernel_rfl), Option.some.inj e3⟩
      · have e3 := bif_f h4 e3
        refine PO.run 4 rfl ?_
        refine PO.same rfl (pickF_ok rfl rfl rfl) rfl ?_
        refine PO.run 4 rfl ?_
        refine PO.same rfl (pickF_ok rfl rfl rfl) rfl ?_
        refine PO.run 4 rfl ?_
        refine PO.same rfl (pickF_ok rfl rfl rfl) rfl ?_
        refine PO.run 4 rfl ?_
        refine PO.same rfl (pickF_ok rfl rfl rfl) rfl ?_
        refine PO.run 4 rfl ?_
        refine PO.same rfl (pickF_ok rfl rfl rfl) rfl ?_
        refine PO.nil ?_
        exact ⟨false, Weak.one [] [] (by kernel_rfl), Option.some.inj e3⟩
    · rintro _ ⟨v1, w31, rfl⟩
      refine PO.weak w31 ?_
      refine PO.run 1 rfl ?_
      refine PO.nil ?_
      have hq := Option.some.inj hF
      subst hq
      exact PC.ret (blockKP.back (retSK [] [] (by kernel_rfl) (.refl _) ⟨rfl, rfl, rfl⟩))
  · have hF := bif_f h1 hF
    refine PC.assoc ?_
    refine PC.run (n := 3) rfl ?_
    refine PC.cond rfl (fun h32 => ?_) (fun h32 => ?_)
    · have hF := bif_t h32 hF
      refine PC.assoc ?_
      refine PC.region ?_
      refine PO.runK 12 [0] [] (es := [(1, .ptr 0 0), (2, .val (.bool false)), (54, .agg [.val (.int .i64 a0.kind), .val (.string a0.font), .val (.int .i64 a0.size), .val (.int .i64 a0.rune), .val (.int .i64 a0.width), .val (.int .i64 a0.height), .val (.int .i64 a0.depth), .val (.int .i64 a0.stretch), .val (.int .i64 a0.shrink), .val (.int .i64 a0.value), .val (.bool a0.flag), .val (.int .i64 0), .val (.int .i64 0)]), (65, .agg [.val (.int .i64 3), .val (.string a0.font), .val (.int .i64 a0.size), .val (.int .i64 0), .val (.int .i64 a0.width), .val (.int .i64 0), .val (.int .i64 0), .val (.int .i64 a0.stretch), .val (.int .i64 a0.shrink), .val (.int .i64 0), .val (.bool false), .val (.int .i64 0), .val (.int .i64 0)])]) (fr' := [⟨0, (cGItem a0)⟩]) (tk' := []) (by kernel_rfl) ?_
      refine PO.same rfl (aggEq_ok (v := .bool (a0.kind == 3 && (a0.font == a0.font && (a0.size == a0.size && (a0.rune == 0 && (a0.width == a0.width && (a0.height == 0 && (a0.depth == 0 && (a0.stretch == a0.stretch && (a0.shrink == a0.shrink && (a0.value == 0 && (a0.flag == false && (0 == 0 && (0 == 0 && true)))))))))))))) rfl rfl rfl rfl rfl rfl rfl (by kernel_rfl)) rfl ?_
      refine PO.run 1 rfl ?_
      refine bindK hF (fun x33 e34 hF => ?_)
      refine PO.cut 36 (fun s => ∃ (v6 : Bool), Weak s (PS.of 162 [(2, .val (.bool false)), (103, .val (.bool v6))] [] [] 0 0) ∧ v6 = x33) ?_ ?_
      · refine PO.case (t := 67) rfl rfl (fun h35 => ?_) (fun h35 => ?_)
        · have e34 := bif_t h35 e34
          refine PO.runK 2 [0] [] (es := [(1, .ptr 0 0), (2, .val (.bool false)), (67, .val (.bool true)), (69, .val (.int .i64 a0.size))]) (fr' := [⟨0, (cGItem a0)⟩]) (tk' := []) (by kernel_rfl) ?_
          refine bindK e34 (fun r36 e37 e34 => ?_)
          refine PO.call rfl rfl rfl rfl (ks := []) (ts := []) (fr1 := []) rfl rfl rfl trivial (L99 k a0.size _ e37) ?_
          rintro _ _ _ ⟨rfl, rfl, rfl⟩
          refine ⟨_, _, rfl, rfl, ?_⟩
          refine PO.same rfl (pickT_ok rfl rfl rfl) rfl ?_
          refine PO.run 1 rfl ?_
          refine bindK e34 (fun x38 e39 e34 => ?_)
          refine PO.cut 31 (fun s => ∃ (v7 : Bool), Weak s (PS.of 162 [(2, .val (.bool false)), (103, .val (.bool v7))] [] [] 0 0) ∧ v7 = x38) ?_ ?_
          · refine PO.case (t := 72) rfl rfl (fun h40 => ?_) (fun h40 => ?_)
            · have e39 := bif_t h40 e39
              refine PO.run 3 rfl ?_
              refine PO.same rfl (pickT_ok rfl rfl rfl) rfl ?_
              refine PO.run 1 rfl ?_
              refine bindK e39 (fun x41 e42 e39 => ?_)
              refine PO.cut 26 (fun s => ∃ (v8 : Bool), Weak s (PS.of 162 [(2, .val (.bool false)), (103, .val (.bool v8))] [] [] 0 0) ∧ v8 = x41) ?_ ?_
              · refine PO.case (t := 77) rfl rfl (fun h43 => ?_) (fun h43 => ?_)
                · have e42 := bif_t h43 e42
                  refine PO.run 3 rfl ?_
                  refine PO.same rfl (pickT_ok rfl rfl rfl) rfl ?_
                  refine PO.run 1 rfl ?_
                  refine bindK e42 (fun x44 e45 e42 => ?_)
                  refine PO.cut 21 (fun s => ∃ (v9 : Bool), Weak s (PS.of 162 [(2, .val (.bool false)), (103, .val (.bool v9))] [] [] 0 0) ∧ v9 = x44) ?_ ?_
                  · refine PO.case (t := 82) rfl rfl (fun h46 => ?_) (fun h46 => ?_)
                    · have e45 := bif_t h46 e45
                      refine PO.run 3 rfl ?_
                      refine PO.same rfl (pickT_ok rfl rfl rfl) rfl ?_
                      refine PO.run 1 rfl ?_
                      refine bindK e45 (fun x47 e48 e45 => ?_)
                      refine PO.cut 16 (fun s => ∃ (v10 : Bool), Weak s (PS.of 162 [(2, .val (.bool false)), (103, .val (.bool v10))] [] [] 0 0) ∧ v10 = x47) ?_ ?_
                      · refine PO.case (t := 87) rfl rfl (fun h49 => ?_) (fun h49 => ?_)
                        · have e48 := bif_t h49 e48
                          refine PO.run 3 rfl ?_
                          refine PO.same rfl (pickT_ok rfl rfl rfl) rfl ?_
                          refine PO.run 1 rfl ?_
                          refine bindK e48 (fun x50 e51 e48 => ?_)
                          refine PO.cut 11 (fun s => ∃ (v11 : Bool), Weak s (PS.of 162 [(2, .val (.bool false)), (103, .val (.bool v11))] [] [] 0 0) ∧ v11 = x50) ?_ ?_
                          · refine PO.case (t := 92) rfl rfl (fun h52 => ?_) (fun h52 => ?_)
                            · have e51 := bif_t h52 e51
                              refine PO.run 3 rfl ?_
                              refine PO.same rfl (pickT_ok rfl rfl rfl) rfl ?_
                              refine PO.run 1 rfl ?_
                              refine bindK e51 (fun x53 e54 e51 => ?_)
                              refine PO.cut 6 (fun s => ∃ (v12 : Bool), Weak s (PS.of 162 [(2, .val (.bool false)), (103, .val (.bool v12))] [] [] 0 0) ∧ v12 = x53) ?_ ?_
                              · refine PO.case (t := 97) rfl rfl (fun h55 => ?_) (fun h55 => ?_)
                                · have e54 := bif_t h55 e54
                                  refine PO.run 5 rfl ?_
                                  refine PO.same rfl (pickT_ok rfl rfl rfl) rfl ?_
                                  refine PO.nil ?_
                                  exact ⟨decide (a0.shrink ≤ a0.width), Weak.one [] [] (by kernel_rfl), Option.some.inj e54⟩
                                · have e54 := bif_f h55 e54
                                  refine PO.run 5 rfl ?_
                                  refine PO.same rfl (pickF_ok rfl rfl rfl) rfl ?_
                                  refine PO.nil ?_
                                  exact ⟨false, Weak.one [] [] (by kernel_rfl), Option.some.inj e54⟩
                              · rintro _ ⟨v12, w56, rfl⟩
                                refine PO.weak w56 ?_
                                refine PO.nil ?_
                                exact ⟨v12, Weak.one [] [] (by kernel_rfl), Option.some.inj e51⟩
                            · have e51 := bif_f h52 e51
                              refine PO.run 3 rfl ?_
                              refine PO.same rfl (pickF_ok rfl rfl rfl) rfl ?_
                              refine PO.run 6 rfl ?_
                              refine PO.same rfl (pickF_ok rfl rfl rfl) rfl ?_
                              refine PO.nil ?_
                              exact ⟨false, Weak.one [] [] (by kernel_rfl), Option.some.inj e51⟩
                          · rintro _ ⟨v11, w57, rfl⟩
                            refine PO.weak w57 ?_
                            refine PO.nil ?_
                            exact ⟨v11, Weak.one [] [] (by kernel_rfl), Option.some.inj e48⟩
                        · have e48 := bif_f h49 e48
                          refine PO.run 3 rfl ?_
                          refine PO.same rfl (pickF_ok rfl rfl rfl) rfl ?_
                          refine PO.run 4 rfl ?_
                          refine PO.same rfl (pickF_ok rfl rfl rfl) rfl ?_
                          refine PO.run 6 rfl ?_
                          refine PO.same rfl (pickF_ok rfl rfl rfl) rfl ?_
                          refine PO.nil ?_
                          exact ⟨false, Weak.one [] [] (by kernel_rfl), Option.some.inj e48⟩
                      · rintro _ ⟨v10, w58, rfl⟩
                        refine PO.weak w58 ?_
                        refine PO.nil ?_
                        exact ⟨v10, Weak.one [] [] (by kernel_rfl), Option.some.inj e45⟩
                    · have e45 := bif_f h46 e45
                      refine PO.run 3 rfl ?_
                      refine PO.same rfl (pickF_ok rfl rfl rfl) rfl ?_
                      refine PO.run 4 rfl ?_
                      refine PO.same rfl (pickF_ok rfl rfl rfl) rfl ?_
                      refine PO.run 4 rfl ?_
                      refine PO.same rfl (pickF_ok rfl rfl rfl) rfl ?_
                      refine PO.run 6 rfl ?_
                      refine PO.same rfl (pickF_ok rfl rfl rfl) rfl ?_
                      refine PO.nil ?_
                      exact ⟨false, Weak.one [] [] (by kernel_rfl), Option.some.inj e45⟩
                  · rintro _ ⟨v9, w59, rfl⟩
                    refine PO.weak w59 ?_
                    refine PO.nil ?_
                    exact ⟨v9, Weak.one [] [] (by kernel_rfl), Option.some.inj e42⟩
                · have e42 := bif_f h43 e42
                  refine PO.run 3 rfl ?_
                  refine PO.same rfl (pickF_ok rfl rfl rfl) rfl ?_
                  refine PO.run 4 rfl ?_
                  refine PO.same rfl (pickF_ok rfl rfl rfl) rfl ?_
                  refine PO.run 4 rfl ?_
                  refine PO.same rfl (pickF_ok rfl rfl rfl) rfl ?_
                  refine PO.run 4 rfl ?_
                  refine PO.same rfl (pickF_ok rfl rfl rfl) rfl ?_
                  refine PO.run 6 rfl ?_
                  refine PO.same rfl (pickF_ok rfl rfl rfl) rfl ?_
                  refine PO.nil ?_
                  exact ⟨false, Weak.one [] [] (by kernel_rfl), Option.some.inj e42⟩
              · rintro _ ⟨v8, w60, rfl⟩
                refine PO.weak w60 ?_
                refine PO.nil ?_
                exact ⟨v8, Weak.one [] [] (by kernel_rfl), Option.some.inj e39⟩
            · have e39 := bif_f h40 e39
              refine PO.run 3 rfl ?_
              refine PO.same rfl (pickF_ok rfl rfl rfl) rfl ?_
              refine PO.run 4 rfl ?_
              refine PO.same rfl (pickF_ok rfl rfl rfl) rfl ?_
              refine PO.run 4 rfl ?_
              refine PO.same rfl (pickF_ok rfl rfl rfl) rfl ?_
              refine PO.run 4 rfl ?_
              refine PO.same rfl (pickF_ok rfl rfl rfl) rfl ?_
              refine PO.run 4 rfl ?_
              refine PO.same rfl (pickF_ok rfl rfl rfl) rfl ?_
              refine PO.run 6 rfl ?_
              refine PO.same rfl (pickF_ok rfl rfl rfl) rfl ?_
              refine PO.nil ?_
              exact ⟨false, Weak.one [] [] (by kernel_rfl), Option.some.inj e39⟩
          · rintro _ ⟨v7, w61, rfl⟩
            refine PO.weak w61 ?_
            refine PO.nil ?_
            exact ⟨v7, Weak.one [] [] (by kernel_rfl), Option.some.inj e34⟩
        · have e34 := bif_f h35 e34
          refine PO.run 3 rfl ?_
          refine PO.same rfl (pickF_ok rfl rfl rfl) rfl ?_
          refine PO.run 4 rfl ?_
          refine PO.same rfl (pickF_ok rfl rfl rfl) rfl ?_
          refine PO.run 4 rfl ?_
          refine PO.same rfl (pickF_ok rfl rfl rfl) rfl ?_
          refine PO.run 4 rfl ?_
          refine PO.same rfl (pickF_ok rfl rfl rfl) rfl ?_
          refine PO.run 4 rfl ?_
          refine PO.same rfl (pickF_ok rfl rfl rfl) rfl ?_
          refine PO.run 4 rfl ?_
          refine PO.same rfl (pickF_ok rfl rfl rfl) rfl ?_
          refine PO.run 6 rfl ?_
          refine PO.same rfl (pickF_ok rfl rfl rfl) rfl ?_
          refine PO.nil ?_
          exact ⟨false, Weak.one [] [] (by kernel_rfl), Option.some.inj e34⟩
      · rintro _ ⟨v6, w62, rfl⟩
        refine PO.weak w62 ?_
        refine PO.run 1 rfl ?_
        refine PO.nil ?_
        have hq := Option.some.inj hF
        subst hq
        exact PC.ret (blockKP.back (retSK [] [] (by kernel_rfl) (.refl _) ⟨rfl, rfl, rfl⟩))
    · have hF := bif_f h32 hF
      refine PC.assoc ?_
      refine PC.run (n := 3) rfl ?_
      refine PC.cond rfl (fun h63 => ?_) (fun h63 => ?_)
      · have hF := bif_t h63 hF
        refine PC.assoc ?_
        refine PC.assoc ?_
        refine PC.region ?_
        refine PO.run 4 rfl ?_
        refine bindK hF (fun x64 e65 hF => ?_)
        refine PO.cut 4 (fun s => ∃ (v13 : Bool), Weak s (PS.of 162 [(1, .ptr 0 0), (2, .val (.bool false)), (3, .ptr 1 0), (113, .val (.bool v13))] [⟨0, (cGItem a0)⟩, ⟨0, [.val (.int .i64 a0.kind), .val (.string a0.font), .val (.int .i64 a0.size), .val (.int .i64 a0.rune), .val (.int .i64 a0.width), .val (.int .i64 a0.height), .val (.int .i64 a0.depth), .val (.int .i64 a0.stretch), .val (.int .i64 a0.shrink), .val (.int .i64 a0.value), .val (.bool a0.flag), .val (.int .i64 0), .val (.int .i64 0)]⟩] [] 0 0) ∧ v13 = x64) ?_ ?_
        · refine PO.case (t := 109) rfl rfl (fun h66 => ?_) (fun h66 => ?_)
          · have e65 := bif_t h66 e65
            refine PO.run 3 rfl ?_
            refine PO.same rfl (pickT_ok rfl rfl rfl) rfl ?_
            refine PO.nil ?_
            exact ⟨true, Weak.one [0, 1] [] (by kernel_rfl), Option.some.inj e65⟩
          · have e65 := bif_f h66 e65
            refine PO.run 3 rfl ?_
            refine PO.same rfl (pickF_ok rfl rfl rfl) rfl ?_
            refine PO.nil ?_
            exact ⟨decide (a0.value > 10000), Weak.one [0, 1] [] (by kernel_rfl), Option.some.inj e65⟩
        · rintro _ ⟨v13, w67, rfl⟩
          refine PO.weak w67 ?_
          refine PO.nil ?_
          refine PC.cond rfl (fun h68 => ?_) (fun h68 => ?_)
          · have hF := bif_t h68 hF
            refine PC.assoc ?_
            refine PC.run (n := 2) rfl ?_
            have hq := Option.some.inj hF
            subst hq
            exact PC.ret (blockKP.back (retSK [] [] (by kernel_rfl) (.refl _) ⟨rfl, rfl, rfl⟩))
          · have hF := bif_f h68 hF
            refine PC.noop ?_
            refine PC.assoc ?_
            refine PC.assoc ?_
            refine PC.run (n := 4) rfl ?_
            refine PC.cond rfl (fun h69 => ?_) (fun h69 => ?_)
            · have hF := bif_t h69 hF
              refine PC.assoc ?_
              refine PC.region ?_
              refine PO.runK 4 [] [] (es := [(2, .val (.bool false)), (117, .agg [.val (.int .i64 a0.kind), .val (.string a0.font), .val (.int .i64 a0.size), .val (.int .i64 a0.rune), .val (.int .i64 a0.width), .val (.int .i64 a0.height), .val (.int .i64 a0.depth), .val (.int .i64 a0.stretch), .val (.int .i64 a0.shrink), .val (.int .i64 a0.value), .val (.bool a0.flag), .val (.int .i64 0), .val (.int .i64 0)]), (120, .agg [.val (.int .i64 4), .val (.string ByteArray.empty), .val (.int .i64 0), .val (.int .i64 0), .val (.int .i64 0), .val (.int .i64 0), .val (.int .i64 0), .val (.int .i64 0), .val (.int .i64 0), .val (.int .i64 a0.value), .val (.bool false), .val (.int .i64 0), .val (.int .i64 0)])]) (fr' := []) (tk' := []) (by kernel_rfl) ?_
              refine PO.same rfl (aggEq_ok (v := .bool (a0.kind == 4 && (a0.font == ByteArray.empty && (a0.size == 0 && (a0.rune == 0 && (a0.width == 0 && (a0.height == 0 && (a0.depth == 0 && (a0.stretch == 0 && (a0.shrink == 0 && (a0.value == a0.value && (a0.flag == false && (0 == 0 && (0 == 0 && true)))))))))))))) rfl rfl rfl rfl rfl rfl rfl (by kernel_rfl)) rfl ?_
              refine PO.run 1 rfl ?_
              refine PO.nil ?_
              have hq := Option.some.inj hF
              subst hq
              exact PC.ret (blockKP.back (retSK [] [] (by kernel_rfl) (.refl _) ⟨rfl, rfl, rfl⟩))
            · have hF := bif_f h69 hF
              refine PC.noop ?_
              refine PC.assoc ?_
              refine PC.region ?_
              refine PO.runK 14 [0] [] (es := [(1, .ptr 0 0), (2, .val (.bool false)), (122, .agg [.val (.int .i64 a0.kind), .val (.string a0.font), .val (.int .i64 a0.size), .val (.int .i64 a0.rune), .val (.int .i64 a0.width), .val (.int .i64 a0.height), .val (.int .i64 a0.depth), .val (.int .i64 a0.stretch), .val (.int .i64 a0.shrink), .val (.int .i64 a0.value), .val (.bool a0.flag), .val (.int .i64 0), .val (.int .i64 0)]), (135, .agg [.val (.int .i64 4), .val (.string a0.font), .val (.int .i64 a0.size), .val (.int .i64 45), .val (.int .i64 a0.width), .val (.int .i64 a0.height), .val (.int .i64 a0.depth), .val (.int .i64 0), .val (.int .i64 0), .val (.int .i64 a0.value), .val (.bool true), .val (.int .i64 0), .val (.int .i64 0)])]) (fr' := [⟨0, (cGItem a0)⟩]) (tk' := []) (by kernel_rfl) ?_
              refine PO.same rfl (aggEq_ok (v := .bool (a0.kind == 4 && (a0.font == a0.font && (a0.size == a0.size && (a0.rune == 45 && (a0.width == a0.width && (a0.height == a0.height && (a0.depth == a0.depth && (a0.stretch == 0 && (a0.shrink == 0 && (a0.value == a0.value && (a0.flag == true && (0 == 0 && (0 == 0 && true)))))))))))))) rfl rfl rfl rfl rfl rfl rfl (by kernel_rfl)) rfl ?_
              refine PO.run 1 rfl ?_
              refine bindK hF (fun x70 e71 hF => ?_)
              refine PO.cut 24 (fun s => ∃ (v14 : Bool), Weak s (PS.of 162 [(2, .val (.bool false)), (161, .val (.bool v14))] [] [] 0 0) ∧ v14 = x70) ?_ ?_
              · refine PO.case (t := 137) rfl rfl (fun h72 => ?_) (fun h72 => ?_)
                · have e71 := bif_t h72 e71
                  refine PO.run 3 rfl ?_
                  refine PO.same rfl (pickT_ok rfl rfl rfl) rfl ?_
                  refine PO.run 1 rfl ?_
                  refine bindK e71 (fun x73 e74 e71 => ?_)
                  refine PO.cut 19 (fun s => ∃ (v15 : Bool), Weak s (PS.of 162 [(2, .val (.bool false)), (161, .val (.bool v15))] [] [] 0 0) ∧ v15 = x73) ?_ ?_
                  · refine PO.case (t := 142) rfl rfl (fun h75 => ?_) (fun h75 => ?_)
                    · have e74 := bif_t h75 e74
                      refine PO.runK 2 [0] [] (es := [(1, .ptr 0 0), (2, .val (.bool false)), (142, .val (.bool true)), (144, .val (.int .i64 a0.size))]) (fr' := [⟨0, (cGItem a0)⟩]) (tk' := []) (by kernel_rfl) ?_
                      refine bindK e74 (fun r76 e77 e74 => ?_)
                      refine PO.call rfl rfl rfl rfl (ks := []) (ts := []) (fr1 := []) rfl rfl rfl trivial (L99 k a0.size _ e77) ?_
                      rintro _ _ _ ⟨rfl, rfl, rfl⟩
                      refine ⟨_, _, rfl, rfl, ?_⟩
                      refine PO.same rfl (pickT_ok rfl rfl rfl) rfl ?_
                      refine PO.run 1 rfl ?_
                      refine bindK e74 (fun x78 e79 e74 => ?_)
                      refine PO.cut 14 (fun s => ∃ (v16 : Bool), Weak s (PS.of 162 [(2, .val (.bool false)), (161, .val (.bool v16))] [] [] 0 0) ∧ v16 = x78) ?_ ?_
                      · refine PO.case (t := 147) rfl rfl (fun h80 => ?_) (fun h80 => ?_)
                        · have e79 := bif_t h80 e79
                          refine PO.runK 2 [0] [] (es := [(1, .ptr 0 0), (2, .val (.bool false)), (147, .val (.bool true)), (149, .val (.int .i64 a0.width))]) (fr' := [⟨0, (cGItem a0)⟩]) (tk' := []) (by kernel_rfl) ?_
                          refine bindK e79 (fun r81 e82 e79 => ?_)
                          refine PO.call rfl rfl rfl rfl (ks := []) (ts := []) (fr1 := []) rfl rfl rfl trivial (L100 k a0.width _ e82) ?_
                          rintro _ _ _ ⟨rfl, rfl, rfl⟩
                          refine ⟨_, _, rfl, rfl, ?_⟩
                          refine PO.same rfl (pickT_ok rfl rfl rfl) rfl ?_
                          refine PO.run 1 rfl ?_
                          refine bindK e79 (fun x83 e84 e79 => ?_)
                          refine PO.cut 9 (fun s => ∃ (v17 : Bool), Weak s (PS.of 162 [(2, .val (.bool false)), (161, .val (.bool v17))] [] [] 0 0) ∧ v17 = x83) ?_ ?_
                          · refine PO.case (t := 152) rfl rfl (fun h85 => ?_) (fun h85 => ?_)
                            · have e84 := bif_t h85 e84
                              refine PO.runK 2 [0] [] (es := [(1, .ptr 0 0), (2, .val (.bool false)), (152, .val (.bool true)), (154, .val (.int .i64 a0.height))]) (fr' := [⟨0, (cGItem a0)⟩]) (tk' := []) (by kernel_rfl) ?_
                              refine bindK e84 (fun r86 e87 e84 => ?_)
                              refine PO.call rfl rfl rfl rfl (ks := []) (ts := []) (fr1 := []) rfl rfl rfl trivial (L100 k a0.height _ e87) ?_
                              rintro _ _ _ ⟨rfl, rfl, rfl⟩
                              refine ⟨_, _, rfl, rfl, ?_⟩
                              refine PO.same rfl (pickT_ok rfl rfl rfl) rfl ?_
                              refine PO.run 1 rfl ?_
                              refine bindK e84 (fun x88 e89 e84 => ?_)
                              refine PO.cut 4 (fun s => ∃ (v18 : Bool), Weak s (PS.of 162 [(2, .val (.bool false)), (161, .val (.bool v18))] [] [] 0 0) ∧ v18 = x88) ?_ ?_
                              · refine PO.case (t := 157) rfl rfl (fun h90 => ?_) (fun h90 => ?_)
                                · have e89 := bif_t h90 e89
                                  refine PO.runK 2 [] [] (es := [(2, .val (.bool false)), (157, .val (.bool true)), (159, .val (.int .i64 a0.depth))]) (fr' := []) (tk' := []) (by kernel_rfl) ?_
                                  refine bindK e89 (fun r91 e92 e89 => ?_)
                                  refine PO.call rfl rfl rfl rfl (ks := []) (ts := []) (fr1 := []) rfl rfl rfl trivial (L100 k a0.depth _ e92) ?_
                                  rintro _ _ _ ⟨rfl, rfl, rfl⟩
                                  refine ⟨_, _, rfl, rfl, ?_⟩
                                  refine PO.same rfl (pickT_ok rfl rfl rfl) rfl ?_
                                  refine PO.nil ?_
                                  exact ⟨r91, Weak.one [] [] (by kernel_rfl), Option.some.inj e89⟩
                                · have e89 := bif_f h90 e89
                                  refine PO.run 3 rfl ?_
                                  refine PO.same rfl (pickF_ok rfl rfl rfl) rfl ?_
                                  refine PO.nil ?_
                                  exact ⟨false, Weak.one [] [] (by kernel_rfl), Option.some.inj e89⟩
                              · rintro _ ⟨v18, w93, rfl⟩
                                refine PO.weak w93 ?_
                                refine PO.nil ?_
                                exact ⟨v18, Weak.one [] [] (by kernel_rfl), Option.some.inj e84⟩
                            · have e84 := bif_f h85 e84
                              refine PO.run 3 rfl ?_
                              refine PO.same rfl (pickF_ok rfl rfl rfl) rfl ?_
                              refine PO.run 4 rfl ?_
                              refine PO.same rfl (pickF_ok rfl rfl rfl) rfl ?_
                              refine PO.nil ?_
                              exact ⟨false, Weak.one [] [] (by kernel_rfl), Option.some.inj e84⟩
                          · rintro _ ⟨v17, w94, rfl⟩
                            refine PO.weak w94 ?_
                            refine PO.nil ?_
                            exact ⟨v17, Weak.one [] [] (by kernel_rfl), Option.some.inj e79⟩
                        · have e79 := bif_f h80 e79
                          refine PO.run 3 rfl ?_
                          refine PO.same rfl (pickF_ok rfl rfl rfl) rfl ?_
                          refine PO.run 4 rfl ?_
                          refine PO.same rfl (pickF_ok rfl rfl rfl) rfl ?_
                          refine PO.run 4 rfl ?_
                          refine PO.same rfl (pickF_ok rfl rfl rfl) rfl ?_
                          refine PO.nil ?_
                          exact ⟨false, Weak.one [] [] (by kernel_rfl), Option.some.inj e79⟩
                      · rintro _ ⟨v16, w95, rfl⟩
                        refine PO.weak w95 ?_
                        refine PO.nil ?_
                        exact ⟨v16, Weak.one [] [] (by kernel_rfl), Option.some.inj e74⟩
                    · have e74 := bif_f h75 e74
                      refine PO.run 3 rfl ?_
                      refine PO.same rfl (pickF_ok rfl rfl rfl) rfl ?_
                      refine PO.run 4 rfl ?_
                      refine PO.same rfl (pickF_ok rfl rfl rfl) rfl ?_
                      refine PO.run 4 rfl ?_
                      refine PO.same rfl (pickF_ok rfl rfl rfl) rfl ?_
                      refine PO.run 4 rfl ?_
                      refine PO.same rfl (pickF_ok rfl rfl rfl) rfl ?_
                      refine PO.nil ?_
                      exact ⟨false, Weak.one [] [] (by kernel_rfl), Option.some.inj e74⟩
                  · rintro _ ⟨v15, w96, rfl⟩
                    refine PO.weak w96 ?_
                    refine PO.nil ?_
                    exact ⟨v15, Weak.one [] [] (by kernel_rfl), Option.some.inj e71⟩
                · have e71 := bif_f h72 e71
                  refine PO.run 3 rfl ?_
                  refine PO.same rfl (pickF_ok rfl rfl rfl) rfl ?_
                  refine PO.run 4 rfl ?_
                  refine PO.same rfl (pickF_ok rfl rfl rfl) rfl ?_
                  refine PO.run 4 rfl ?_
                  refine PO.same rfl (pickF_ok rfl rfl rfl) rfl ?_
                  refine PO.run 4 rfl ?_
                  refine PO.same rfl (pickF_ok rfl rfl rfl) rfl ?_
                  refine PO.run 4 rfl ?_
                  refine PO.same rfl (pickF_ok rfl rfl rfl) rfl ?_
                  refine PO.nil ?_
                  exact ⟨false, Weak.one [] [] (by kernel_rfl), Option.some.inj e71⟩
              · rintro _ ⟨v14, w97, rfl⟩
                refine PO.weak w97 ?_
                refine PO.run 1 rfl ?_
                refine PO.nil ?_
                have hq := Option.some.inj hF
                subst hq
                exact PC.ret (blockKP.back (retSK [] [] (by kernel_rfl) (.refl _) ⟨rfl, rfl, rfl⟩))
      · have hF := bif_f h63 hF
        refine PC.noop ?_
        refine PC.skip (blockKP.end ?_)
        refine PC.run (n := 2) rfl ?_
        have hq := Option.some.inj hF
        subst hq
        exact PC.ret' (retSK [] [] (by kernel_rfl) (.refl _) ⟨rfl, rfl, rfl⟩)

/-! 40 platen/platenref13.Check -/
def F40_l1 (k : Nat) (a0 : List GItem) : Nat → Int → Int → Option ((Unit) ⊕ (Int))
  | 0, _, _ => none
  | j13 + 1, v5, v6 =>
    bif decide (v6 < (a0.length : Int)) then (Option.bind (α := (Int) ⊕ ((Unit) ⊕ (Int))) (bindI a0 v6 fun y10 =>
    bif y10.kind == 2 then ((F80 k a0 v6).bind fun r21 =>
    bif !r21 then (some (.inr (.inr 1))) else (some (.inl v5))) else (bindI a0 v6 fun y11 =>
    (F81 k y11).bind fun r26 =>
    Option.bind (α := Bool) (bif !r26 then (some true) else (bindI a0 v6 fun y13 =>
    Option.bind (α := Bool) (bif decide (y13.from_ < v5) then (some true) else (bindI a0 v6 fun y15 =>
    bindI a0 v6 fun y16 =>
    Option.bind (α := Bool) (bif decide (y15.to_ < y16.from_) then (some true) else (bindI a0 v6 fun y18 =>
    some (decide (y18.to_ > 65536)))) fun (v17 : Bool) =>
    some v17)) fun (v14 : Bool) =>
    some v14)) fun (v12 : Bool) =>
    bif v12 then (some (.inr (.inr 1))) else (bindI a0 v6 fun y19 =>
    some (.inl y19.to_)))) (Sum.elim (fun (v9 : Int) =>
    F40_l1 k a0 j13 v9 (w (v6 + 1))) some)) else (some (.inl ()))
def F40 (k : Nat) (a0 : List GItem) : Option Int :=
bif decide ((a0.length : Int) > 4096) then (some 130) else (Option.bind (α := Bool) (bif decide ((a0.length : Int) > 0) then (bindI a0 (w ((a0.length : Int) - 1)) fun y2 =>
(F79 k y2).bind fun r7 =>
some (!r7)) else (some false)) fun (v1 : Bool) =>
bif v1 then (some 1) else (Option.bind (α := (Unit) ⊕ (Int)) (F40_l1 k a0 k 0 0) (Sum.elim (fun (_ : Unit) =>
some 0) some)))
theorem L40 (k : Nat) (a0 : List GItem) (r : Int) (hF : F40 k a0 = some r) : PF Try.prog orc 40 [.list 13 (List.map cGItem a0) none] [] [] (fun p fr tk => p = .val (.int .i64 r) ∧ fr = [] ∧ tk = []) := by
  unfold F40 at hF
  refine PF.enterS Try.func40 rfl rfl rfl (by kernel_rfl) rfl ?_
  refine PC.run (n := 2) rfl ?_
  refine PC.assoc ?_
  refine PC.region ?_
  refine PO.run 1 rfl ?_
  refine PO.same rfl (len_ok Try.underlying42 rfl (List.length_map _)) rfl ?_
  refine PO.run 1 rfl ?_
  refine PO.nil ?_
  refine PC.cond rfl (fun h1 => ?_) (fun h1 => ?_)
  · have hF := bif_t h1 hF
    refine PC.assoc ?_
    refine PC.run (n := 2) rfl ?_
    have hq := Option.some.inj hF
    subst hq
    exact PC.ret (retSK [] [] (by kernel_rfl) (.refl _) ⟨rfl, rfl, rfl⟩)
  · have hF := bif_f h1 hF
    refine PC.noop ?_
    refine PC.assoc ?_
    refine PC.region ?_
    refine PO.run 1 rfl ?_
    refine PO.same rfl (len_ok Try.underlying42 rfl (List.length_map _)) rfl ?_
    refine PO.run 2 rfl ?_
    refine bindK hF (fun x2 e3 hF => ?_)
    refine PO.cut 9 (fun s => ∃ (v1 : Bool), Weak s (PS.of 78 [(0, .list 13 (List.map cGItem a0) none), (2, .val (.int .i64 0)), (20, .val (.bool v1))] [] [] 0 0) ∧ v1 = x2) ?_ ?_
    · refine PO.case (t := 11) rfl rfl (fun h4 => ?_) (fun h4 => ?_)
      · have e3 := bif_t h4 e3
        refine PO.run 2 rfl ?_
        refine PO.same rfl (len_ok Try.underlying42 rfl (List.length_map _)) rfl ?_
        refine PO.run 1 rfl ?_
        refine bindIK e3 (fun y2 h5 h6 e3 => ?_)
        refine PO.same rfl (indexAddr_ok Try.underlying42 rfl rfl rfl h5 (map_at h6)) rfl ?_
        refine PO.run 1 rfl ?_
        refine bindK e3 (fun r7 e8 e3 => ?_)
        refine PO.call rfl rfl rfl rfl (ks := []) (ts := []) (fr1 := []) rfl rfl rfl trivial (L79 k y2 _ e8) ?_
        rintro _ _ _ ⟨rfl, rfl, rfl⟩
        refine ⟨_, _, rfl, rfl, ?_⟩
        refine PO.run 1 rfl ?_
        refine PO.same rfl (pickT_ok rfl rfl rfl) rfl ?_
        refine PO.nil ?_
        exact ⟨!r7, Weak.one [] [] (by kernel_rfl), Option.some.inj e3⟩
      · have e3 := bif_f h4 e3
        refine PO.run 8 rfl ?_
        refine PO.same rfl (pickF_ok rfl rfl rfl) rfl ?_
        refine PO.nil ?_
        exact ⟨false, Weak.one [] [] (by kernel_rfl), Option.some.inj e3⟩
    · rintro _ ⟨v1, w9, rfl⟩
      refine PO.weak w9 ?_
      refine PO.nil ?_
      refine PC.cond rfl (fun h10 => ?_) (fun h10 => ?_)
      · have hF := bif_t h10 hF
        refine PC.assoc ?_
        refine PC.run (n := 2) rfl ?_
        have hq := Option.some.inj hF
        subst hq
        exact PC.ret (retSK [] [] (by kernel_rfl) (.refl _) ⟨rfl, rfl, rfl⟩)
      · have hF := bif_f h10 hF
        refine PC.noop ?_
        refine PC.run (n := 2) rfl ?_
        refine PC.assoc ?_
        refine PC.run (n := 2) rfl ?_
        refine bindK hF (fun x11 e12 hF => ?_)
        refine PC.blockJ (fun s => Weak s (PS.of 78 [(2, .val (.int .i64 0))] [] [] 0 0) ∧ .inl () = x11) ?_ ?_
        · refine PC.loop (fun j13 s => ∃ (v5 : Int) (v6 : Int), Weak s (PS.of 78 [(0, .list 13 (List.map cGItem a0) none), (2, .val (.int .i64 0)), (3, .val (.int .i64 v5)), (4, .val (.int .i64 v6))] [] [] 0 0) ∧ F40_l1 k a0 j13 v5 v6 = some x11) (fun j13 s => ?_) k ⟨0, 0, Weak.one [] [] (by kernel_rfl), e12⟩
          rintro ⟨v5, v6, w14, e12⟩
          refine PC.weak w14 ?_
          cases j13 with
          | zero => rw [F40_l1] at e12; cases e12
          | succ j13 =>
            rw [F40_l1] at e12
            refine PC.assoc ?_
            refine PC.region ?_
            refine PO.run 2 rfl ?_
            refine PO.same rfl (len_ok Try.underlying42 rfl (List.length_map _)) rfl ?_
            refine PO.run 1 rfl ?_
            refine PO.nil ?_
            refine PC.cond rfl (fun h15 => ?_) (fun h15 => ?_)
            · have e12 := bif_t h15 e12
              refine PC.noop ?_
              refine bindK e12 (fun x16 e17 e12 => ?_)
              refine PC.blockJ (fun s => ∃ (v9 : Int), Weak s (PS.of 78 [(0, .list 13 (List.map cGItem a0) none), (2, .val (.int .i64 0)), (3, .val (.int .i64 v9)), (4, .val (.int .i64 v6))] [] [] 0 0) ∧ .inl v9 = x16) ?_ ?_
              · refine PC.assoc ?_
                refine PC.region ?_
                refine PO.run 2 rfl ?_
                refine bindIK e17 (fun y10 h18 h19 e17 => ?_)
                refine PO.same rfl (indexAddr_ok Try.underlying42 rfl rfl rfl h18 (map_at h19)) rfl ?_
                refine PO.run 3 rfl ?_
                refine PO.nil ?_
                refine PC.cond rfl (fun h20 => ?_) (fun h20 => ?_)
                · have e17 := bif_t h20 e17
                  refine PC.assoc ?_
                  refine PC.assoc ?_
                  refine PC.region ?_
                  refine PO.run 2 rfl ?_
                  refine bindK e17 (fun r21 e22 e17 => ?_)
                  refine PO.call rfl rfl rfl rfl (ks := []) (ts := []) (fr1 := []) rfl rfl rfl trivial (L80 k a0 v6 _ e22) ?_
                  rintro _ _ _ ⟨rfl, rfl, rfl⟩
                  refine ⟨_, _, rfl, rfl, ?_⟩
                  refine PO.run 1 rfl ?_
                  refine PO.nil ?_
                  refine PC.cond rfl (fun h23 => ?_) (fun h23 => ?_)
                  · have e17 := bif_t h23 e17
                    refine PC.assoc ?_
                    refine PC.run (n := 2) rfl ?_
                    have hq := Option.some.inj e17
                    subst hq
                    have hq := Option.some.inj e12
                    subst hq
                    have hq := Option.some.inj hF
                    subst hq
                    exact PC.ret (blockJK.back (loopKP.ret (blockJK.back (retSK [] [] (by kernel_rfl) (.refl _) ⟨rfl, rfl, rfl⟩))))
                  · have e17 := bif_f h23 e17
                    refine PC.noop ?_
                    exact PC.exit (blockJK.here ⟨v5, Weak.one [] [] (by kernel_rfl), Option.some.inj e17⟩)
                · have e17 := bif_f h20 e17
                  refine PC.noop ?_
                  refine PC.assoc ?_
                  refine PC.drawn (order := [0, 1, 2, 3, 4, 5, 6, 7, 8, 9, 10, 11, 12, 13, 14, 15, 16, 17, 18, 19, 20, 21, 22, 23, 24, 25, 26, 27, 28, 29, 30, 31, 32, 33, 34, 35]) (by kernel_rfl) ?_
                  refine PO.run 2 rfl ?_
                  refine bindIK e17 (fun y11 h24 h25 e17 => ?_)
                  refine PO.same rfl (indexAddr_ok Try.underlying42 rfl rfl rfl h24 (map_at h25)) rfl ?_
                  refine PO.run 1 rfl ?_
                  refine bindK e17 (fun r26 e27 e17 => ?_)
                  refine PO.call rfl rfl rfl rfl (ks := []) (ts := []) (fr1 := []) rfl rfl rfl trivial (L81 k y11 _ e27) ?_
                  rintro _ _ _ ⟨rfl, rfl, rfl⟩
                  refine ⟨_, _, rfl, rfl, ?_⟩
                  refine PO.run 2 rfl ?_
                  refine bindK e17 (fun x28 e29 e17 => ?_)
                  refine PO.cut 29 (fun s => ∃ (v12 : Bool), Weak s (PS.of 78 [(0, .list 13 (List.map cGItem a0) none), (2, .val (.int .i64 0)), (3, .val (.int .i64 v5)), (4, .val (.int .i64 v6)), (72, .val (.bool v12))] [] [] 0 0) ∧ v12 = x28) ?_ ?_
                  · refine PO.case (t := 43) rfl rfl (fun h30 => ?_) (fun h30 => ?_)
                    · have e29 := bif_t h30 e29
                      refine PO.run 7 rfl ?_
                      refine PO.same rfl (pickT_ok rfl rfl rfl) rfl ?_
                      refine PO.run 12 rfl ?_
                      refine PO.same rfl (pickT_ok rfl rfl rfl) rfl ?_
                      refine PO.run 7 rfl ?_
                      refine PO.same rfl (pickT_ok rfl rfl rfl) rfl ?_
                      refine PO.nil ?_
                      exact ⟨true, Weak.one [] [] (by kernel_rfl), Option.some.inj e29⟩
                    · have e29 := bif_f h30 e29
                      refine PO.run 2 rfl ?_
                      refine bindIK e29 (fun y13 h31 h32 e29 => ?_)
                      refine PO.same rfl (indexAddr_ok Try.underlying42 rfl rfl rfl h31 (map_at h32)) rfl ?_
                      refine PO.run 4 rfl ?_
                      refine PO.same rfl (pickF_ok rfl rfl rfl) rfl ?_
                      refine PO.run 1 rfl ?_
                      refine bindK e29 (fun x33 e34 e29 => ?_)
                      refine PO.cut 20 (fun s => ∃ (v14 : Bool), Weak s (PS.of 78 [(0, .list 13 (List.map cGItem a0) none), (2, .val (.int .i64 0)), (3, .val (.int .i64 v5)), (4, .val (.int .i64 v6)), (72, .val (.bool v14))] [] [] 0 0) ∧ v14 = x33) ?_ ?_
                      · refine PO.case (t := 52) rfl rfl (fun h35 => ?_) (fun h35 => ?_)
                        · have e34 := bif_t h35 e34
                          refine PO.run 11 rfl ?_
                          refine PO.same rfl (pickT_ok rfl rfl rfl) rfl ?_
                          refine PO.run 7 rfl ?_
                          refine PO.same rfl (pickT_ok rfl rfl rfl) rfl ?_
                          refine PO.nil ?_
                          exact ⟨true, Weak.one [] [] (by kernel_rfl), Option.some.inj e34⟩
                        · have e34 := bif_f h35 e34
                          refine PO.run 2 rfl ?_
                          refine bindIK e34 (fun y15 h36 h37 e34 => ?_)
                          refine PO.same rfl (indexAddr_ok Try.underlying42 rfl rfl rfl h36 (map_at h37)) rfl ?_
                          refine PO.run 4 rfl ?_
                          refine bindIK e34 (fun y16 h38 h39 e34 => ?_)
                          refine PO.same rfl (indexAddr_ok Try.underlying42 rfl rfl rfl h38 (map_at h39)) rfl ?_
                          refine PO.run 3 rfl ?_
                          refine PO.same rfl (pickF_ok rfl rfl rfl) rfl ?_
                          refine PO.run 1 rfl ?_
                          refine bindK e34 (fun x40 e41 e34 => ?_)
                          refine PO.cut 7 (fun s => ∃ (v17 : Bool), Weak s (PS.of 78 [(0, .list 13 (List.map cGItem a0) none), (2, .val (.int .i64 0)), (3, .val (.int .i64 v5)), (4, .val (.int .i64 v6)), (72, .val (.bool v17))] [] [] 0 0) ∧ v17 = x40) ?_ ?_
                          · refine PO.case (t := 65) rfl rfl (fun h42 => ?_) (fun h42 => ?_)
                            · have e41 := bif_t h42 e41
                              refine PO.run 6 rfl ?_
                              refine PO.same rfl (pickT_ok rfl rfl rfl) rfl ?_
                              refine PO.nil ?_
                              exact ⟨true, Weak.one [] [] (by kernel_rfl), Option.some.inj e41⟩
                            · have e41 := bif_f h42 e41
                              refine PO.run 2 rfl ?_
                              refine bindIK e41 (fun y18 h43 h44 e41 => ?_)
                              refine PO.same rfl (indexAddr_ok Try.underlying42 rfl rfl rfl h43 (map_at h44)) rfl ?_
                              refine PO.run 3 rfl ?_
                              refine PO.same rfl (pickF_ok rfl rfl rfl) rfl ?_
                              refine PO.nil ?_
                              exact ⟨decide (y18.to_ > 65536), Weak.one [] [] (by kernel_rfl), Option.some.inj e41⟩
                          · rintro _ ⟨v17, w45, rfl⟩
                            refine PO.weak w45 ?_
                            refine PO.nil ?_
                            exact ⟨v17, Weak.one [] [] (by kernel_rfl), Option.some.inj e34⟩
                      · rintro _ ⟨v14, w46, rfl⟩
                        refine PO.weak w46 ?_
                        refine PO.nil ?_
                        exact ⟨v14, Weak.one [] [] (by kernel_rfl), Option.some.inj e29⟩
                  · rintro _ ⟨v12, w47, rfl⟩
                    refine PO.weak w47 ?_
                    refine PO.nil ?_
                    refine PC.cond rfl (fun h48 => ?_) (fun h48 => ?_)
                    · have e17 := bif_t h48 e17
                      refine PC.assoc ?_
                      refine PC.run (n := 2) rfl ?_
                      have hq := Option.some.inj e17
                      subst hq
                      have hq := Option.some.inj e12
                      subst hq
                      have hq := Option.some.inj hF
                      subst hq
                      exact PC.ret (blockJK.back (loopKP.ret (blockJK.back (retSK [] [] (by kernel_rfl) (.refl _) ⟨rfl, rfl, rfl⟩))))
                    · have e17 := bif_f h48 e17
                      refine PC.noop ?_
                      refine PC.lone ?_
                      refine PC.region ?_
                      refine PO.run 2 rfl ?_
                      refine bindIK e17 (fun y19 h49 h50 e17 => ?_)
                      refine PO.same rfl (indexAddr_ok Try.underlying42 rfl rfl rfl h49 (map_at h50)) rfl ?_
                      refine PO.run 3 rfl ?_
                      refine PO.nil ?_
                      exact PC.skip (blockJK.end ⟨y19.to_, Weak.one [] [] (by kernel_rfl), Option.some.inj e17⟩)
              · rintro _ ⟨v9, w51, rfl⟩
                refine PC.weak w51 ?_
                have e12 := elim_l e12
                refine PC.lone ?_
                refine PC.run (n := 4) rfl ?_
                exact PC.skip (loopKP.mk (Nat.lt_succ_self _) ⟨v9, w (v6 + 1), Weak.one [] [] (by kernel_rfl), e12⟩)
            · have e12 := bif_f h15 e12
              exact PC.exit (loopKP.exit (blockJK.here ⟨Weak.one [] [] (by kernel_rfl), Option.some.inj e12⟩))
        · rintro _ ⟨w52, rfl⟩
          refine PC.weak w52 ?_
          have hF := elim_l hF
          refine PC.run (n := 2) rfl ?_
          have hq := Option.some.inj hF
          subst hq
          exact PC.ret' (retSK [] [] (by kernel_rfl) (.refl _) ⟨rfl, rfl, rfl⟩)

/-! 67 platen/platenref14.legal -/
def F67 (k : Nat) (a0 : List GItem) (a1 : Int) : Option Bool :=
bindI a0 a1 fun y1 =>
bif y1.kind == 3 then (Option.bind (α := Bool) (bif decide (a1 > 0) then (bindI a0 (w (a1 - 1)) fun y3 =>
some (y3.kind == 1)) else (some false)) fun (v2 : Bool) =>
some v2) else (bif y1.kind == 4 then (bindI a0 a1 fun y4 =>
some (decide (y4.value < 10000))) else (some false))
theorem L67 (k : Nat) (a0 : List GItem) (a1 : Int) (r : Bool) (hF : F67 k a0 a1 = some r) : PF Try.prog orc 67 [.list 13 (List.map cGItem a0) none, .val (.int .i64 a1)] [] [] (fun p fr tk => p = .val (.bool r) ∧ fr = [] ∧ tk = []) := by
  unfold F67 at hF
  refine PF.enterS Try.func67 rfl rfl rfl (by kernel_rfl) rfl ?_
  refine PC.run (n := 2) rfl ?_
  refine PC.assoc ?_
  refine PC.region ?_
  refine PO.run 2 rfl ?_
  refine bindIK hF (fun y1 h1 h2 hF => ?_)
  refine PO.same rfl (indexAddr_ok Try.underlying42 rfl rfl rfl h1 (map_at h2)) rfl ?_
  refine PO.run 2 rfl ?_
  refine PO.nil ?_
  refine PC.block ?_
  refine PC.run (n := 3) rfl ?_
  refine PC.lone ?_
  refine PC.cond rfl (fun h3 => ?_) (fun h3 => ?_)
  · have hF := bif_t h3 hF
    refine PC.assoc ?_
    refine PC.region ?_
    refine PO.run 3 rfl ?_
    refine bindK hF (fun x4 e5 hF => ?_)
    refine PO.cut 8 (fun s => ∃ (v2 : Bool), Weak s (PS.of 31 [(4, .val (.bool false)), (22, .val (.bool v2))] [] [] 0 0) ∧ v2 = x4) ?_ ?_
    · refine PO.case (t := 14) rfl rfl (fun h6 => ?_) (fun h6 => ?_)
      · have e5 := bif_t h6 e5
        refine PO.run 3 rfl ?_
        refine bindIK e5 (fun y3 h7 h8 e5 => ?_)
        refine PO.same rfl (indexAddr_ok Try.underlying42 rfl rfl rfl h7 (map_at h8)) rfl ?_
        refine PO.run 3 rfl ?_
        refine PO.same rfl (pickT_ok rfl rfl rfl) rfl ?_
        refine PO.nil ?_
        exact ⟨y3.kind == 1, Weak.one [] [] (by kernel_rfl), Option.some.inj e5⟩
      · have e5 := bif_f h6 e5
        refine PO.run 7 rfl ?_
        refine PO.same rfl (pickF_ok rfl rfl rfl) rfl ?_
        refine PO.nil ?_
        exact ⟨false, Weak.one [] [] (by kernel_rfl), Option.some.inj e5⟩
    · rintro _ ⟨v2, w9, rfl⟩
      refine PO.weak w9 ?_
      refine PO.run 1 rfl ?_
      refine PO.nil ?_
      have hq := Option.some.inj hF
      subst hq
      exact PC.ret (blockKP.back (retSK [] [] (by kernel_rfl) (.refl _) ⟨rfl, rfl, rfl⟩))
  · have hF := bif_f h3 hF
    refine PC.assoc ?_
    refine PC.run (n := 3) rfl ?_
    refine PC.cond rfl (fun h10 => ?_) (fun h10 => ?_)
    · have hF := bif_t h10 hF
      refine PC.assoc ?_
      refine PC.region ?_
      refine PO.run 2 rfl ?_
      refine bindIK hF (fun y4 h11 h12 hF => ?_)
      refine PO.same rfl (indexAddr_ok Try.underlying42 rfl rfl rfl h11 (map_at h12)) rfl ?_
      refine PO.run 4 rfl ?_
      refine PO.nil ?_
      have hq := Option.some.inj hF
      subst hq
      exact PC.ret (blockKP.back (retSK [] [] (by kernel_rfl) (.refl _) ⟨rfl, rfl, rfl⟩))
    · have hF := bif_f h10 hF
      refine PC.noop ?_
      refine PC.skip (blockKP.end ?_)
      refine PC.run (n := 2) rfl ?_
      have hq := Option.some.inj hF
      subst hq
      exact PC.ret' (retSK [] [] (by kernel_rfl) (.refl _) ⟨rfl, rfl, rfl⟩)

/-! 31 platen/platenref14.Legal -/
def F31_l1 (k : Nat) (a0 : List GItem) : Nat → (List Int) → Int → Option (List Int)
  | 0, _, _ => none
  | j6 + 1, v4, v5 =>
    bif decide (v5 < (a0.length : Int)) then (Option.bind (α := List Int) ((F67 k a0 v5).bind fun r11 =>
    bif r11 then (bindA 8 v4 ([v5]) fun l9 =>
    some l9) else (some v4)) fun (v8 : List Int) =>
    F31_l1 k a0 j6 v8 (w (v5 + 1))) else (some v4)
def F31 (k : Nat) (a0 : List GItem) : Option (List Int) :=
(F40 k a0).bind fun r1 =>
bif r1 != 0 then (some ([] : List Int)) else (Option.bind (α := List Int) (F31_l1 k a0 k ([] : List Int) 0) fun (v1 : List Int) =>
some v1)
theorem L31 (k : Nat) (a0 : List GItem) (r : List Int) (hF : F31 k a0 = some r) : PF Try.prog orc 31 [.list 13 (List.map cGItem a0) none] [] [] (fun p fr tk => p = .list 1 (List.map cI_i64 r) none ∧ fr = [] ∧ tk = []) := by
  unfold F31 at hF
  refine PF.enterS Try.func31 rfl rfl rfl (by kernel_rfl) rfl ?_
  refine PC.run (n := 2) rfl ?_
  refine PC.region ?_
  refine PO.runK 2 [] [0] (es := [(0, .list 13 (List.map cGItem a0) none), (2, .val (.slice none 0 0)), (3, .list 1 (List.map cI_i64 ([] : List Int)) (some 0))]) (fr' := []) (tk' := [0]) (by kernel_rfl) ?_
  refine PO.nil ?_
  refine PC.assoc ?_
  refine PC.region ?_
  refine PO.run 1 rfl ?_
  refine bindK hF (fun r1 e2 hF => ?_)
  refine PO.call rfl rfl rfl rfl (ks := []) (ts := []) (fr1 := []) rfl rfl rfl trivial (L40 k a0 _ e2) ?_
  rintro _ _ _ ⟨rfl, rfl, rfl⟩
  refine ⟨_, _, rfl, rfl, ?_⟩
  refine PO.run 1 rfl ?_
  refine PO.nil ?_
  refine PC.cond rfl (fun h3 => ?_) (fun h3 => ?_)
  · have hF := bif_t h3 hF
    refine PC.assoc ?_
    refine PC.run (n := 3) rfl ?_
    have hq := Option.some.inj hF
    subst hq
    exact PC.ret (retSK [] [] (by kernel_rfl) (.refl _) ⟨rfl, rfl, rfl⟩)
  · have hF := bif_f h3 hF
    refine PC.noop ?_
    refine PC.assoc ?_
    refine PC.run (n := 2) rfl ?_
    refine bindK hF (fun x4 e5 hF => ?_)
    refine PC.blockJ (fun s => ∃ (v1 : List Int), Weak s (PS.of 24 [(2, .val (.slice none 0 0)), (3, .list 1 (List.map cI_i64 v1) (some 0))] [] [v1.length] 0 0) ∧ v1 = x4) ?_ ?_
    · refine PC.loop (fun j6 s => ∃ (v4 : List Int) (v5 : Int), Weak s (PS.of 24 [(0, .list 13 (List.map cGItem a0) none), (2, .val (.slice none 0 0)), (3, .list 1 (List.map cI_i64 v4) (some 0)), (4, .val (.int .i64 v5))] [] [v4.length] 0 0) ∧ F31_l1 k a0 j6 v4 v5 = some x4) (fun j6 s => ?_) k ⟨([] : List Int), 0, Weak.one [] [0] (by kernel_rfl), e5⟩
      rintro ⟨v4, v5, w7, e5⟩
      refine PC.weak w7 ?_
      cases j6 with
      | zero => rw [F31_l1] at e5; cases e5
      | succ j6 =>
        rw [F31_l1] at e5
        refine PC.assoc ?_
        refine PC.region ?_
        refine PO.run 2 rfl ?_
        refine PO.same rfl (len_ok Try.underlying42 rfl (List.length_map _)) rfl ?_
        refine PO.run 1 rfl ?_
        refine PO.nil ?_
        refine PC.cond rfl (fun h8 => ?_) (fun h8 => ?_)
        · have e5 := bif_t h8 e5
          refine PC.noop ?_
          refine bindK e5 (fun x9 e10 e5 => ?_)
          refine PC.blockJ (fun s => ∃ (v8 : List Int), Weak s (PS.of 24 [(0, .list 13 (List.map cGItem a0) none), (2, .val (.slice none 0 0)), (3, .list 1 (List.map cI_i64 v8) (some 0)), (4, .val (.int .i64 v5))] [] [v8.length] 0 0) ∧ v8 = x9) ?_ ?_
          · refine PC.region ?_
            refine PO.run 2 rfl ?_
            refine bindK e10 (fun r11 e12 e10 => ?_)
            refine PO.call rfl rfl rfl rfl (ks := []) (ts := []) (fr1 := []) rfl rfl rfl trivial (L67 k a0 v5 _ e12) ?_
            rintro _ _ _ ⟨rfl, rfl, rfl⟩
            refine ⟨_, _, rfl, rfl, ?_⟩
            refine PO.nil ?_
            refine PC.lone ?_
            refine PC.cond rfl (fun h13 => ?_) (fun h13 => ?_)
            · have e10 := bif_t h13 e10
              refine PC.region ?_
              refine PO.runK 3 [] [0, 1] (es := [(0, .list 13 (List.map cGItem a0) none), (2, .val (.slice none 0 0)), (3, .list 1 (List.map cI_i64 v4) (some 0)), (4, .val (.int .i64 v5)), (19, .list 1 (List.map cI_i64 v4) (some 0)), (21, .list 1 (List.map cI_i64 ([v5])) (some 1))]) (fr' := []) (tk' := [v4.length, 1]) (by kernel_rfl) ?_
              refine bindAK e10 (fun h14 e10 => ?_)
              generalize hgl9 : v4 ++ ([v5]) = l9 at e10
              refine PO.one rfl (append_typed (L := v4) (M := [v5]) (f := cI_i64) (sz := 1) (bytes := 8) Try.underlying43 rfl rfl rfl rfl rfl rfl rfl rfl rfl rfl rfl rfl h14 hgl9) rfl ?_
              refine PO.run 1 rfl ?_
              refine PO.nil ?_
              exact PC.skip (blockJK.end ⟨l9, Weak.one [] [0] (by kernel_rfl), Option.some.inj e10⟩)
            · have e10 := bif_f h13 e10
              refine PC.noop ?_
              exact PC.skip (blockJK.end ⟨v4, Weak.one [] [0] (by kernel_rfl), Option.some.inj e10⟩)
          · rintro _ ⟨v8, w15, rfl⟩
            refine PC.weak w15 ?_
            refine PC.lone ?_
            refine PC.run (n := 4) rfl ?_
            exact PC.skip (loopKP.mk (Nat.lt_succ_self _) ⟨v8, w (v5 + 1), Weak.one [] [0] (by kernel_rfl), e5⟩)
        · have e5 := bif_f h8 e5
          exact PC.exit (loopKP.exit (blockJK.here ⟨v4, Weak.one [] [0] (by kernel_rfl), Option.some.inj e5⟩))
    · rintro _ ⟨v1, w16, rfl⟩
      refine PC.weak w16 ?_
      refine PC.run (n := 3) rfl ?_
      have hq := Option.some.inj hF
      subst hq
      exact PC.ret' (retSK [] [] (by kernel_rfl) (.refl _) ⟨rfl, rfl, rfl⟩)

/-! 32 platen/platenlaw14.stays -/
def F32_l1 (k : Nat) (a0 : List GItem) (a1 : List GItem) : Nat → Int → Option ((Unit) ⊕ (Bool))
  | 0, _ => none
  | j10 + 1, v4 =>
    bif decide (v4 < (a1.length : Int)) then (bindI a0 v4 fun y6 =>
    bindI a1 v4 fun y7 =>
    bif !(y6.kind == y7.kind && (y6.font == y7.font && (y6.size == y7.size && (y6.rune == y7.rune && (y6.width == y7.width && (y6.height == y7.height && (y6.depth == y7.depth && (y6.stretch == y7.stretch && (y6.shrink == y7.shrink && (y6.value == y7.value && (y6.flag == y7.flag && (y6.from_ == y7.from_ && (y6.to_ == y7.to_ && true))))))))))))) then (some (.inr false)) else (F32_l1 k a0 a1 j10 (w (v4 + 1)))) else (some (.inl ()))
def F32 (k : Nat) (a0 : List GItem) (a1 : List GItem) : Option Bool :=
Option.bind (α := Bool) (bif (a0.length : Int) != (w ((a1.length : Int) + 1)) then (some true) else (bindI a0 (a1.length : Int) fun y2 =>
some (y2.kind != (-77)))) fun (v1 : Bool) =>
bif v1 then (some false) else (Option.bind (α := (Unit) ⊕ (Bool)) (F32_l1 k a0 a1 k 0) (Sum.elim (fun (_ : Unit) =>
some true) some))
theorem L32 (k : Nat) (a0 : List GItem) (a1 : List GItem) (r : Bool) (hF : F32 k a0 a1 = some r) : PF Try.prog orc 32 [.list 13 (List.map cGItem a0) none, .list 13 (List.map cGItem a1) none] [] [] (fun p fr tk => p = .val (.bool r) ∧ fr = [] ∧ tk = []) := by
  unfold F32 at hF
  refine PF.enterS Try.func32 rfl rfl rfl (by kernel_rfl) rfl ?_
  refine PC.run (n := 2) rfl ?_
  refine PC.assoc ?_
  refine PC.region ?_
  refine PO.run 1 rfl ?_
  refine PO.same rfl (len_ok Try.underlying42 rfl (List.length_map _)) rfl ?_
  refine PO.run 1 rfl ?_
  refine PO.same rfl (len_ok Try.underlying42 rfl (List.length_map _)) rfl ?_
  refine PO.run 3 rfl ?_
  refine bindK hF (fun x1 e2 hF => ?_)
  refine PO.cut 8 (fun s => ∃ (v1 : Bool), Weak s (PS.of 36 [(0, .list 13 (List.map cGItem a0) none), (1, .list 13 (List.map cGItem a1) none), (4, .val (.bool false)), (20, .val (.bool v1))] [] [] 0 0) ∧ v1 = x1) ?_ ?_
  · refine PO.case (t := 12) rfl rfl (fun h3 => ?_) (fun h3 => ?_)
    · have e2 := bif_t h3 e2
      refine PO.run 7 rfl ?_
      refine PO.same rfl (pickT_ok rfl rfl rfl) rfl ?_
      refine PO.nil ?_
      exact ⟨true, Weak.one [] [] (by kernel_rfl), Option.some.inj e2⟩
    · have e2 := bif_f h3 e2
      refine PO.run 2 rfl ?_
      refine PO.same rfl (len_ok Try.underlying42 rfl (List.length_map _)) rfl ?_
      refine bindIK e2 (fun y2 h4 h5 e2 => ?_)
      refine PO.same rfl (indexAddr_ok Try.underlying42 rfl rfl rfl h4 (map_at h5)) rfl ?_
      refine PO.run 3 rfl ?_
      refine PO.same rfl (pickF_ok rfl rfl rfl) rfl ?_
      refine PO.nil ?_
      exact ⟨y2.kind != (-77), Weak.one [] [] (by kernel_rfl), Option.some.inj e2⟩
  · rintro _ ⟨v1, w6, rfl⟩
    refine PO.weak w6 ?_
    refine PO.nil ?_
    refine PC.cond rfl (fun h7 => ?_) (fun h7 => ?_)
    · have hF := bif_t h7 hF
      refine PC.assoc ?_
      refine PC.run (n := 2) rfl ?_
      have hq := Option.some.inj hF
      subst hq
      exact PC.ret (retSK [] [] (by kernel_rfl) (.refl _) ⟨rfl, rfl, rfl⟩)
    · have hF := bif_f h7 hF
      refine PC.noop ?_
      refine PC.assoc ?_
      refine PC.run (n := 2) rfl ?_
      refine bindK hF (fun x8 e9 hF => ?_)
      refine PC.blockJ (fun s => Weak s (PS.of 36 [(4, .val (.bool false))] [] [] 0 0) ∧ .inl () = x8) ?_ ?_
      · refine PC.loop (fun j10 s => ∃ (v4 : Int), Weak s (PS.of 36 [(0, .list 13 (List.map cGItem a0) none), (1, .list 13 (List.map cGItem a1) none), (4, .val (.bool false)), (5, .val (.int .i64 v4))] [] [] 0 0) ∧ F32_l1 k a0 a1 j10 v4 = some x8) (fun j10 s => ?_) k ⟨0, Weak.one [] [] (by kernel_rfl), e9⟩
        rintro ⟨v4, w11, e9⟩
        refine PC.weak w11 ?_
        cases j10 with
        | zero => rw [F32_l1] at e9; cases e9
        | succ j10 =>
          rw [F32_l1] at e9
          refine PC.assoc ?_
          refine PC.region ?_
          refine PO.run 2 rfl ?_
          refine PO.same rfl (len_ok Try.underlying42 rfl (List.length_map _)) rfl ?_
          refine PO.run 1 rfl ?_
          refine PO.nil ?_
          refine PC.cond rfl (fun h12 => ?_) (fun h12 => ?_)
          · have e9 := bif_t h12 e9
            refine PC.noop ?_
            refine PC.block ?_
            refine PC.drawn (order := [0, 1, 2, 3, 4, 5, 6, 7, 8]) (by kernel_rfl) ?_
            refine PO.run 2 rfl ?_
            refine bindIK e9 (fun y6 h13 h14 e9 => ?_)
            refine PO.same rfl (indexAddr_ok Try.underlying42 rfl rfl rfl h13 (map_at h14)) rfl ?_
            refine PO.run 3 rfl ?_
            refine bindIK e9 (fun y7 h15 h16 e9 => ?_)
            refine PO.same rfl (indexAddr_ok Try.underlying42 rfl rfl rfl h15 (map_at h16)) rfl ?_
            refine PO.run 1 rfl ?_
            refine PO.same rfl (aggEq_ok (v := .bool (!(y6.kind == y7.kind && (y6.font == y7.font && (y6.size == y7.size && (y6.rune == y7.rune && (y6.width == y7.width && (y6.height == y7.height && (y6.depth == y7.depth && (y6.stretch == y7.stretch && (y6.shrink == y7.shrink && (y6.value == y7.value && (y6.flag == y7.flag && (y6.from_ == y7.from_ && (y6.to_ == y7.to_ && true))))))))))))))) rfl rfl rfl rfl rfl rfl rfl (by kernel_rfl)) rfl ?_
            refine PO.nil ?_
            refine PC.lone ?_
            refine PC.cond rfl (fun h17 => ?_) (fun h17 => ?_)
            · have e9 := bif_t h17 e9
              refine PC.assoc ?_
              refine PC.run (n := 2) rfl ?_
              have hq := Option.some.inj e9
              subst hq
              have hq := Option.some.inj hF
              subst hq
              exact PC.ret (blockKP.back (loopKP.ret (blockJK.back (retSK [] [] (by kernel_rfl) (.refl _) ⟨rfl, rfl, rfl⟩))))
            · have e9 := bif_f h17 e9
              refine PC.noop ?_
              refine PC.skip (blockKP.end ?_)
              refine PC.lone ?_
              refine PC.run (n := 4) rfl ?_
              exact PC.skip (loopKP.mk (Nat.lt_succ_self _) ⟨w (v4 + 1), Weak.one [] [] (by kernel_rfl), e9⟩)
          · have e9 := bif_f h12 e9
            exact PC.exit (loopKP.exit (blockJK.here ⟨Weak.one [] [] (by kernel_rfl), Option.some.inj e9⟩))
      · rintro _ ⟨w18, rfl⟩
        refine PC.weak w18 ?_
        have hF := elim_l hF
        refine PC.run (n := 2) rfl ?_
        have hq := Option.some.inj hF
        subst hq
        exact PC.ret' (retSK [] [] (by kernel_rfl) (.refl _) ⟨rfl, rfl, rfl⟩)

/-! 8 platen/platenlaw14.LineLegal -/
def F8_r3 (k : Nat) (r12 : List Int) : List Int → Int → Option ((Int) ⊕ (Int))
  | [], v21 => some (.inl v21)
  | y20 :: l24, v21 =>
    Option.bind (α := Bool) (bif decide (v21 ≥ (r12.length : Int)) then (some true) else (bindI r12 v21 fun y26 =>
    some (y20 != y26))) fun (v25 : Bool) =>
    bif v25 then (some (.inr v21)) else (F8_r3 k r12 l24 (w (v21 + 1)))
def F8_r2 (k : Nat) (r10 : List Int) (r12 : List Int) (v3 : Int) (v6 : Int) : List Int → Int → Option ((Int) ⊕ ((Int) ⊕ ((Int))))
  | [], v11 => some (.inl v11)
  | y10 :: l15, v11 =>
    Option.bind (α := (Unit) ⊕ ((Int) ⊕ ((Int) ⊕ ((Int))))) (Option.bind (α := Bool) (bif decide (v11 ≥ (r12.length : Int)) then (some true) else (bindI r12 v11 fun y17 =>
    some (y10 != y17))) fun (v16 : Bool) =>
    bif v16 then (some (.inr (.inr (.inl v11)))) else (bif (w (v11 + 1)) == v6 then (some (.inr (.inr (.inr (w (v11 + 1)))))) else (Option.bind (α := Bool) (bif decide (v3 > 1) then (some true) else (some ((w (v11 + 1)) != 2))) fun (v18 : Bool) =>
    bif v18 then (some (.inl ())) else (Option.bind (α := (Int) ⊕ ((Unit) ⊕ ((Int) ⊕ ((Int) ⊕ ((Int)))))) (guardL r10.length (Option.bind (α := (Int) ⊕ (Int)) (F8_r3 k r12 r10 0) (Sum.elim (fun (v21 : Int) =>
    some (.inl v21)) (fun (v23 : Int) =>
    some (.inr (.inr (.inr (.inl (w (v11 + 1)))))))))) (Sum.elim (fun (v19 : Int) =>
    bif v19 != (r12.length : Int) then (some (.inr (.inr (.inl (w (v11 + 1)))))) else (some (.inl ()))) some))))) (Sum.elim (fun (_ : Unit) =>
    F8_r2 k r10 r12 v3 v6 l15 (w (v11 + 1))) some)
def F8_l1 (k : Nat) (a1 : List Int) (r10 : List Int) (r12 : List Int) : Nat → Int → Option ((Unit) ⊕ (Bool))
  | 0, _ => none
  | j20 + 1, v3 =>
    Option.bind (α := Bool) (bif decide (v3 ≤ (a1.length : Int)) then (some (decide (v3 < 20))) else (some false)) fun (v5 : Bool) =>
    bif v5 then (Option.bind (α := (Unit) ⊕ ((Unit) ⊕ (Bool))) (Option.bind (α := Int) (bif decide (v3 < (a1.length : Int)) then (bindI a1 v3 fun y7 =>
    some y7) else (some (-1))) fun (v6 : Int) =>
    Option.bind (α := (Int × Bool) ⊕ ((Unit) ⊕ ((Unit) ⊕ (Bool)))) (guardL r10.length (Option.bind (α := (Int) ⊕ ((Int) ⊕ ((Int)))) (F8_r2 k r10 r12 v3 v6 r10 0) (Sum.elim (fun (v11 : Int) =>
    some (.inl (v11, false))) (Sum.elim (fun (v13 : Int) =>
    some (.inr (.inr (.inr false)))) (fun (v14 : Int) =>
    some (.inl (v14, true))))))) (Sum.elim (fun (v8, v9) =>
    Option.bind (α := Bool) (bif !v9 then (some (v8 != (r12.length : Int))) else (some false)) fun (v27 : Bool) =>
    bif v27 then (some (.inr (.inr false))) else (some (.inl ()))) some)) (Sum.elim (fun (_ : Unit) =>
    F8_l1 k a1 r10 r12 j20 (w (v3 + 1))) some)) else (some (.inl ()))
def F8 (k : Nat) (a0 : List GItem) (a1 : List Int) : Option Bool :=
(F27 k a0).bind fun r1 =>
bif r1 then (some true) else ((F29 k a0).bind fun r5 =>
bindS r5 0 (a0.length : Int) fun l1 =>
(F30 k l1).bind fun r10 =>
(F31 k a0).bind fun r12 =>
(F32 k r5 a0).bind fun r14 =>
bif !r14 then (some false) else (guardL r5.length (Option.bind (α := (Unit) ⊕ (Bool)) (F8_l1 k a1 r10 r12 k 0) (Sum.elim (fun (_ : Unit) =>
some true) some))))
theorem L8 (k : Nat) (a0 : List GItem) (a1 : List Int) (r : Bool) (hF : F8 k a0 a1 = some r) : PF Try.prog orc 8 [.list 13 (List.map cGItem a0) none, .list 1 (List.map cI_i64 a1) none] [] [] (fun p fr tk => p = .val (.bool r) ∧ fr = [] ∧ tk = []) := by
  unfold F8 at hF
  refine PF.enterM Try.func8 rfl rfl rfl (by kernel_rfl) rfl ?_
  refine PC.region ?_
  refine PO.runK 1 [0] [] (es := [(0, .list 13 (List.map cGItem a0) none), (1, .list 1 (List.map cI_i64 a1) none), (4, .ptr 0 0)]) (fr' := [⟨0, [.val (.bool false)]⟩]) (tk' := []) (by kernel_rfl) ?_
  refine PO.nil ?_
  refine PC.assoc ?_
  refine PC.region ?_
  refine PO.run 1 rfl ?_
  refine bindK hF (fun r1 e2 hF => ?_)
  refine PO.call rfl rfl rfl rfl (ks := []) (ts := []) (fr1 := []) rfl rfl rfl trivial (L27 k a0 _ e2) ?_
  rintro _ _ _ ⟨rfl, rfl, rfl⟩
  refine ⟨_, _, rfl, rfl, ?_⟩
  refine PO.nil ?_
  refine PC.cond rfl (fun h3 => ?_) (fun h3 => ?_)
  · have hF := bif_t h3 hF
    refine PC.assoc ?_
    refine PC.region ?_
    refine PO.runK 1 [0] [] (es := [(4, .ptr 0 0)]) (fr' := [⟨0, [.val (.bool true)]⟩]) (tk' := []) (by kernel_rfl) ?_
    refine PO.nil ?_
    have hq := Option.some.inj hF
    subst hq
    exact PC.ret (retMK [] [] (by kernel_rfl) (.refl _) ⟨rfl, rfl, rfl⟩)
  · have hF := bif_f h3 hF
    refine PC.noop ?_
    refine PC.assoc ?_
    refine PC.region ?_
    refine PO.call rfl rfl rfl rfl (ks := []) (ts := []) (fr1 := []) rfl rfl rfl trivial K28 ?_
    rintro _ _ _ ⟨rfl, rfl, rfl⟩
    refine ⟨_, _, rfl, rfl, ?_⟩
    refine PO.run 1 rfl ?_
    refine PO.nil ?_
    refine PC.cond rfl (fun h4 => Bool.noConfusion h4) (fun _ => ?_)
    refine PC.noop ?_
    refine PC.region ?_
    refine PO.run 1 rfl ?_
    refine bindK hF (fun r5 e6 hF => ?_)
    refine PO.call rfl rfl rfl rfl (ks := []) (ts := []) (fr1 := []) rfl rfl rfl trivial (L29 k a0 _ e6) ?_
    rintro _ _ _ ⟨rfl, rfl, rfl⟩
    refine ⟨_, _, rfl, rfl, ?_⟩
    refine PO.run 1 rfl ?_
    refine PO.nil ?_
    refine PC.region ?_
    refine PO.run 2 rfl ?_
    refine PO.same rfl (len_ok Try.underlying42 rfl (List.length_map _)) rfl ?_
    refine PO.runK 0 [0] [0] (es := [(0, .list 13 (List.map cGItem a0) none), (1, .list 1 (List.map cI_i64 a1) none), (4, .ptr 0 0), (5, .list 13 (List.map cGItem r5) (some 0)), (21, .list 13 (List.map cGItem r5) (some 0)), (23, .val (.int .i64 (a0.length : Int)))]) (fr' := [⟨0, [.val (.bool false)]⟩]) (tk' := [r5.length]) (by kernel_rfl) ?_
    refine bindSK hF (fun h7 h8 h9 hF => ?_)
    generalize hgl1 : (List.take (Int.toNat (a0.length : Int)) r5).drop (Int.toNat 0) = l1 at hF
    refine PO.same rfl (slice_ok (l2 := List.map cGItem l1) Try.underlying42 rfl rfl .none (.some rfl (Int.le_trans h7 h8) rfl) (Int.toNat_le_toNat h8) (toNat_le1 h9) (by rw [← hgl1, List.map_drop, List.map_take] <;> first | rfl | simp [w])) rfl ?_
    refine PO.runK 0 [0] [0] (es := [(0, .list 13 (List.map cGItem a0) none), (1, .list 1 (List.map cI_i64 a1) none), (4, .ptr 0 0), (5, .list 13 (List.map cGItem r5) (some 0)), (24, .list 13 (List.map cGItem l1) none)]) (fr' := [⟨0, [.val (.bool false)]⟩]) (tk' := [r5.length]) (by kernel_rfl) ?_
    refine bindK hF (fun r10 e11 hF => ?_)
    refine PO.call rfl rfl rfl rfl (ks := []) (ts := []) (fr1 := []) rfl rfl rfl trivial (L30 k l1 _ e11) ?_
    rintro _ _ _ ⟨rfl, rfl, rfl⟩
    refine ⟨_, _, rfl, rfl, ?_⟩
    refine PO.runK 2 [0, 1, 2] [0] (es := [(0, .list 13 (List.map cGItem a0) none), (1, .list 1 (List.map cI_i64 a1) none), (4, .ptr 0 0), (5, .list 13 (List.map cGItem r5) (some 0)), (6, .ptr 2 0)]) (fr' := [⟨0, [.val (.bool false)]⟩, ⟨0, [.list 1 (List.map cI_i64 r10) none]⟩, ⟨0, [.fn 66 [] [.ptr 1 0]]⟩]) (tk' := [r5.length]) (by kernel_rfl) ?_
    refine PO.nil ?_
    refine PC.region ?_
    refine PO.run 1 rfl ?_
    refine bindK hF (fun r12 e13 hF => ?_)
    refine PO.call rfl rfl rfl rfl (ks := []) (ts := []) (fr1 := []) rfl rfl rfl trivial (L31 k a0 _ e13) ?_
    rintro _ _ _ ⟨rfl, rfl, rfl⟩
    refine ⟨_, _, rfl, rfl, ?_⟩
    refine PO.runK 2 [0, 1, 2, 3] [0] (es := [(0, .list 13 (List.map cGItem a0) none), (1, .list 1 (List.map cI_i64 a1) none), (4, .ptr 0 0), (5, .list 13 (List.map cGItem r5) (some 0)), (6, .ptr 2 0), (7, .ptr 3 0)]) (fr' := [⟨0, [.val (.bool false)]⟩, ⟨0, [.list 1 (List.map cI_i64 r10) none]⟩, ⟨0, [.fn 66 [] [.ptr 1 0]]⟩, ⟨0, [.list 1 (List.map cI_i64 r12) none]⟩]) (tk' := [r5.length]) (by kernel_rfl) ?_
    refine PO.nil ?_
    refine PC.assoc ?_
    refine PC.region ?_
    refine PO.run 1 rfl ?_
    refine PO.same rfl (nilFn_ok Try.underlying47 rfl rfl rfl rfl) rfl ?_
    refine PO.runK 3 [0, 1, 2, 3] [0] (es := [(1, .list 1 (List.map cI_i64 a1) none), (4, .ptr 0 0), (5, .list 13 (List.map cGItem r5) (some 0)), (6, .ptr 2 0), (7, .ptr 3 0), (30, .val (.bool false)), (31, .list 13 (List.map cGItem r5) (some 0)), (32, .list 13 (List.map cGItem a0) none)]) (fr' := [⟨0, [.val (.bool false)]⟩, ⟨0, [.list 1 (List.map cI_i64 r10) none]⟩, ⟨0, [.fn 66 [] [.ptr 1 0]]⟩, ⟨0, [.list 1 (List.map cI_i64 r12) none]⟩]) (tk' := [r5.length]) (by kernel_rfl) ?_
    refine bindK hF (fun r14 e15 hF => ?_)
    refine PO.call rfl rfl rfl rfl (ks := []) (ts := []) (fr1 := []) rfl rfl rfl trivial (L32 k r5 a0 _ e15) ?_
    rintro _ _ _ ⟨rfl, rfl, rfl⟩
    refine ⟨_, _, rfl, rfl, ?_⟩
    refine PO.run 1 rfl ?_
    refine PO.same rfl (pickF_ok rfl rfl rfl) rfl ?_
    refine PO.nil ?_
    refine PC.cond rfl (fun h16 => ?_) (fun h16 => ?_)
    · have hF := bif_t h16 hF
      refine PC.assoc ?_
      refine PC.region ?_
      refine PO.runK 1 [0] [] (es := [(4, .ptr 0 0)]) (fr' := [⟨0, [.val (.bool false)]⟩]) (tk' := []) (by kernel_rfl) ?_
      refine PO.nil ?_
      have hq := Option.some.inj hF
      subst hq
      exact PC.ret (retMK [] [] (by kernel_rfl) (.refl _) ⟨rfl, rfl, rfl⟩)
    · have hF := bif_f h16 hF
      refine PC.noop ?_
      refine PC.region ?_
      refine PO.run 1 rfl ?_
      refine PO.weak (s' := PS.ofm [none] 110 [(1, .list 1 (List.map cI_i64 a1) none), (4, .ptr 0 0), (6, .ptr 2 0), (7, .ptr 3 0), (36, .list 13 (List.map cGItem r5) (some 0))] [⟨0, [.val (.bool false)]⟩, ⟨0, [.list 1 (List.map cI_i64 r10) none]⟩, ⟨0, [.fn 66 [] [.ptr 1 0]]⟩, ⟨0, [.list 1 (List.map cI_i64 r12) none]⟩] [r5.length] 0 0) (Weak.one [0, 1, 2, 3] [0] (by kernel_rfl)) ?_
      have hq := guardL_some hF
      have h17 := hq.1
      have hF := hq.2
      clear hq
      refine PO.wipe (sz := 13) (t := 0) [(1, .list 1 (List.map cI_i64 a1) none), (4, .ptr 0 0), (6, .ptr 2 0), (7, .ptr 3 0)] rfl rfl rfl rfl (by rw [List.length_map]; rfl) rfl rfl (.inl rfl) wipe_own (by rw [List.length_map]; omega) wipe_nil (all2 (⟨by kernel_rfl, .list (by decide) (by decide) (ap_map (fun _ => all2 (.val _) all1)), show (some 37 : Option Nat) ≠ some 1 by decide⟩) (all2 (⟨by kernel_rfl, .ptr _ _, show (some 37 : Option Nat) ≠ some 4 by decide⟩) (all2 (⟨by kernel_rfl, .ptr _ _, show (some 37 : Option Nat) ≠ some 6 by decide⟩) (all2 (⟨by kernel_rfl, .ptr _ _, show (some 37 : Option Nat) ≠ some 7 by decide⟩) all1)))) (all2 ((all2 (.val _) all1)) (all2 ((all2 (.list (by decide) (by decide) (ap_map (fun _ => all2 (.val _) all1))) all1)) (all2 ((all2 (.fn all1 (all2 (.ptr _ _) all1)) all1)) (all2 ((all2 (.list (by decide) (by decide) (ap_map (fun _ => all2 (.val _) all1))) all1)) all1)))) ?_
      refine PO.weak (s' := PS.ofm [none] 110 [(1, .list 1 (List.map cI_i64 a1) none), (4, .ptr 0 0), (6, .ptr 2 0), (7, .ptr 3 0)] [⟨0, [.val (.bool false)]⟩, ⟨0, [.list 1 (List.map cI_i64 r10) none]⟩, ⟨0, [.fn 66 [] [.ptr 1 0]]⟩, ⟨0, [.list 1 (List.map cI_i64 r12) none]⟩] [r5.length] 0 0) (Weak.one [0, 1, 2, 3] [0] (by kernel_rfl)) ?_
      refine PO.nil ?_
      refine PC.assoc ?_
      refine PC.region ?_
      refine PO.runK 2 [0, 1, 2, 3, 4] [] (es := [(1, .list 1 (List.map cI_i64 a1) none), (4, .ptr 0 0), (6, .ptr 2 0), (7, .ptr 3 0), (8, .ptr 4 0)]) (fr' := [⟨0, [.val (.bool false)]⟩, ⟨0, [.list 1 (List.map cI_i64 r10) none]⟩, ⟨0, [.fn 66 [] [.ptr 1 0]]⟩, ⟨0, [.list 1 (List.map cI_i64 r12) none]⟩, ⟨0, [.val (.int .i64 0)]⟩]) (tk' := []) (by kernel_rfl) ?_
      refine PO.nil ?_
      refine bindK hF (fun x18 e19 hF => ?_)
      refine PC.blockJ (fun s => Weak s (PS.ofm [none] 110 [(4, .ptr 0 0)] [⟨0, [.val (.bool false)]⟩] [] 0 0) ∧ .inl () = x18) ?_ ?_
      · refine PC.loop (fun j20 s => ∃ (v3 : Int), Weak s (PS.ofm [none] 110 [(1, .list 1 (List.map cI_i64 a1) none), (4, .ptr 0 0), (6, .ptr 2 0), (7, .ptr 3 0), (8, .ptr 4 0)] [⟨0, [.val (.bool false)]⟩, ⟨0, [.list 1 (List.map cI_i64 r10) none]⟩, ⟨0, [.fn 66 [] [.ptr 1 0]]⟩, ⟨0, [.list 1 (List.map cI_i64 r12) none]⟩, ⟨0, [.val (.int .i64 v3)]⟩] [] 0 0) ∧ F8_l1 k a1 r10 r12 j20 v3 = some x18) (fun j20 s => ?_) k ⟨0, Weak.one [0, 1, 2, 3, 4] [] (by kernel_rfl), e19⟩
        rintro ⟨v3, w21, e19⟩
        refine PC.weak w21 ?_
        cases j20 with
        | zero => rw [F8_l1] at e19; cases e19
        | succ j20 =>
          rw [F8_l1] at e19
          refine PC.assoc ?_
          refine PC.region ?_
          refine PO.run 2 rfl ?_
          refine PO.same rfl (len_ok Try.underlying43 rfl (List.length_map _)) rfl ?_
          refine PO.run 2 rfl ?_
          refine bindK e19 (fun x22 e23 e19 => ?_)
          refine PO.cut 3 (fun s => ∃ (v5 : Bool), Weak s (PS.ofm [none] 110 [(1, .list 1 (List.map cI_i64 a1) none), (4, .ptr 0 0), (6, .ptr 2 0), (7, .ptr 3 0), (8, .ptr 4 0), (45, .val (.bool v5))] [⟨0, [.val (.bool false)]⟩, ⟨0, [.list 1 (List.map cI_i64 r10) none]⟩, ⟨0, [.fn 66 [] [.ptr 1 0]]⟩, ⟨0, [.list 1 (List.map cI_i64 r12) none]⟩, ⟨0, [.val (.int .i64 v3)]⟩] [] 0 0) ∧ v5 = x22) ?_ ?_
          · refine PO.case (t := 42) rfl rfl (fun h24 => ?_) (fun h24 => ?_)
            · have e23 := bif_t h24 e23
              refine PO.run 2 rfl ?_
              refine PO.same rfl (pickT_ok rfl rfl rfl) rfl ?_
              refine PO.nil ?_
              exact ⟨decide (v3 < 20), Weak.one [0, 1, 2, 3, 4] [] (by kernel_rfl), Option.some.inj e23⟩
            · have e23 := bif_f h24 e23
              refine PO.run 2 rfl ?_
              refine PO.same rfl (pickF_ok rfl rfl rfl) rfl ?_
              refine PO.nil ?_
              exact ⟨false, Weak.one [0, 1, 2, 3, 4] [] (by kernel_rfl), Option.some.inj e23⟩
          · rintro _ ⟨v5, w25, rfl⟩
            refine PO.weak w25 ?_
            refine PO.nil ?_
            refine PC.cond rfl (fun h26 => ?_) (fun h26 => ?_)
            · have e19 := bif_t h26 e19
              refine PC.noop ?_
              refine bindK e19 (fun x27 e28 e19 => ?_)
              refine PC.blockJ (fun s => Weak s (PS.ofm [none] 110 [(1, .list 1 (List.map cI_i64 a1) none), (4, .ptr 0 0), (6, .ptr 2 0), (7, .ptr 3 0), (8, .ptr 4 0)] [⟨0, [.val (.bool false)]⟩, ⟨0, [.list 1 (List.map cI_i64 r10) none]⟩, ⟨0, [.fn 66 [] [.ptr 1 0]]⟩, ⟨0, [.list 1 (List.map cI_i64 r12) none]⟩, ⟨0, [.val (.int .i64 v3)]⟩] [] 0 0) ∧ .inl () = x27) ?_ ?_
              · refine PC.region ?_
                refine PO.runK 2 [0, 1, 2, 3, 4, 5] [] (es := [(1, .list 1 (List.map cI_i64 a1) none), (4, .ptr 0 0), (6, .ptr 2 0), (7, .ptr 3 0), (8, .ptr 4 0), (9, .ptr 5 0)]) (fr' := [⟨0, [.val (.bool false)]⟩, ⟨0, [.list 1 (List.map cI_i64 r10) none]⟩, ⟨0, [.fn 66 [] [.ptr 1 0]]⟩, ⟨0, [.list 1 (List.map cI_i64 r12) none]⟩, ⟨0, [.val (.int .i64 v3)]⟩, ⟨0, [.val (.int .i64 (-1))]⟩]) (tk' := []) (by kernel_rfl) ?_
                refine PO.nil ?_
                refine PC.assoc ?_
                refine PC.region ?_
                refine PO.run 2 rfl ?_
                refine PO.same rfl (len_ok Try.underlying43 rfl (List.length_map _)) rfl ?_
                refine PO.run 1 rfl ?_
                refine PO.nil ?_
                refine bindK e28 (fun x29 e30 e28 => ?_)
                refine PC.join (fun s => ∃ (v6 : Int), Weak s (PS.ofm [none] 110 [(1, .list 1 (List.map cI_i64 a1) none), (4, .ptr 0 0), (6, .ptr 2 0), (7, .ptr 3 0), (8, .ptr 4 0), (9, .ptr 5 0)] [⟨0, [.val (.bool false)]⟩, ⟨0, [.list 1 (List.map cI_i64 r10) none]⟩, ⟨0, [.fn 66 [] [.ptr 1 0]]⟩, ⟨0, [.list 1 (List.map cI_i64 r12) none]⟩, ⟨0, [.val (.int .i64 v3)]⟩, ⟨0, [.val (.int .i64 v6)]⟩] [] 0 0) ∧ v6 = x29) ?_ ?_
                · refine PC.cond rfl (fun h31 => ?_) (fun h31 => ?_)
                  · have e30 := bif_t h31 e30
                    refine PC.region ?_
                    refine PO.run 2 rfl ?_
                    refine bindIK e30 (fun y7 h32 h33 e30 => ?_)
                    refine PO.same rfl (indexAddr_ok Try.underlying43 rfl rfl rfl h32 (map_at h33)) rfl ?_
                    refine PO.runK 2 [0, 1, 2, 3, 4, 5] [] (es := [(1, .list 1 (List.map cI_i64 a1) none), (4, .ptr 0 0), (6, .ptr 2 0), (7, .ptr 3 0), (8, .ptr 4 0), (9, .ptr 5 0)]) (fr' := [⟨0, [.val (.bool false)]⟩, ⟨0, [.list 1 (List.map cI_i64 r10) none]⟩, ⟨0, [.fn 66 [] [.ptr 1 0]]⟩, ⟨0, [.list 1 (List.map cI_i64 r12) none]⟩, ⟨0, [.val (.int .i64 v3)]⟩, ⟨0, [.val (.int .i64 y7)]⟩]) (tk' := []) (by kernel_rfl) ?_
                    refine PO.nil ?_
                    exact PC.skip (joinKP.end ⟨y7, Weak.one [0, 1, 2, 3, 4, 5] [] (by kernel_rfl), Option.some.inj e30⟩)
                  · have e30 := bif_f h31 e30
                    refine PC.noop ?_
                    exact PC.skip (joinKP.end ⟨(-1), Weak.one [0, 1, 2, 3, 4, 5] [] (by kernel_rfl), Option.some.inj e30⟩)
                · rintro _ ⟨v6, w34, rfl⟩
                  refine PC.weak w34 ?_
                  refine PC.region ?_
                  refine PO.runK 2 [0, 1, 2, 3, 4, 5, 6] [] (es := [(1, .list 1 (List.map cI_i64 a1) none), (4, .ptr 0 0), (6, .ptr 2 0), (7, .ptr 3 0), (8, .ptr 4 0), (9, .ptr 5 0), (10, .ptr 6 0)]) (fr' := [⟨0, [.val (.bool false)]⟩, ⟨0, [.list 1 (List.map cI_i64 r10) none]⟩, ⟨0, [.fn 66 [] [.ptr 1 0]]⟩, ⟨0, [.list 1 (List.map cI_i64 r12) none]⟩, ⟨0, [.val (.int .i64 v3)]⟩, ⟨0, [.val (.int .i64 v6)]⟩, ⟨0, [.val (.int .i64 0)]⟩]) (tk' := []) (by kernel_rfl) ?_
                  refine PO.nil ?_
                  refine PC.region ?_
                  refine PO.runK 2 [0, 1, 2, 3, 4, 5, 6, 7] [] (es := [(1, .list 1 (List.map cI_i64 a1) none), (4, .ptr 0 0), (6, .ptr 2 0), (7, .ptr 3 0), (8, .ptr 4 0), (9, .ptr 5 0), (10, .ptr 6 0), (11, .ptr 7 0)]) (fr' := [⟨0, [.val (.bool false)]⟩, ⟨0, [.list 1 (List.map cI_i64 r10) none]⟩, ⟨0, [.fn 66 [] [.ptr 1 0]]⟩, ⟨0, [.list 1 (List.map cI_i64 r12) none]⟩, ⟨0, [.val (.int .i64 v3)]⟩, ⟨0, [.val (.int .i64 v6)]⟩, ⟨0, [.val (.int .i64 0)]⟩, ⟨0, [.val (.bool false)]⟩]) (tk' := []) (by kernel_rfl) ?_
                  refine PO.nil ?_
                  refine PC.assoc ?_
                  refine PC.run (n := 2) rfl ?_
                  refine bindK e28 (fun x35 e36 e28 => ?_)
                  refine PC.blockJ (fun s => ∃ (v8 : Int) (v9 : Bool), Weak s (PS.ofm [none] 110 [(1, .list 1 (List.map cI_i64 a1) none), (4, .ptr 0 0), (6, .ptr 2 0), (7, .ptr 3 0), (8, .ptr 4 0), (10, .ptr 5 0), (11, .ptr 6 0)] [⟨0, [.val (.bool false)]⟩, ⟨0, [.list 1 (List.map cI_i64 r10) none]⟩, ⟨0, [.fn 66 [] [.ptr 1 0]]⟩, ⟨0, [.list 1 (List.map cI_i64 r12) none]⟩, ⟨0, [.val (.int .i64 v3)]⟩, ⟨0, [.val (.int .i64 v8)]⟩, ⟨0, [.val (.bool v9)]⟩] [] 0 0) ∧ .inl (v8, v9) = x35) ?_ ?_
                  · refine PC.lone ?_
                    have hq := guardL_some e36
                    have h37 := hq.1
                    have e36 := hq.2
                    clear hq
                    refine PC.weak (s' := PS.ofm [none] 110 [(1, .list 1 (List.map cI_i64 a1) none), (4, .ptr 0 0), (6, .ptr 2 0), (7, .ptr 3 0), (8, .ptr 4 0), (9, .ptr 5 0), (10, .ptr 6 0), (11, .ptr 7 0), (56, .fn 66 [] [.ptr 1 0])] [⟨0, [.val (.bool false)]⟩, ⟨0, [.list 1 (List.map cI_i64 r10) none]⟩, ⟨0, [.fn 66 [] [.ptr 1 0]]⟩, ⟨0, [.list 1 (List.map cI_i64 r12) none]⟩, ⟨0, [.val (.int .i64 v3)]⟩, ⟨0, [.val (.int .i64 v6)]⟩, ⟨0, [.val (.int .i64 0)]⟩, ⟨0, [.val (.bool false)]⟩] [] 0 0) (Weak.one [0, 1, 2, 3, 4, 5, 6, 7] [] (by kernel_rfl)) ?_
                    refine bindK e36 (fun x38 e39 e36 => ?_)
                    refine PC.rangeFunc (f := 66) rfl (I66 r10 h37 1) (by intro i x hx; obtain ⟨_, _, rfl⟩ := map_inv hx; rfl) (by intro h; first | rfl | cases h) (fun i fr tk => ∃ (v11 : Int), fr = [⟨0, [.val (.bool false)]⟩, ⟨0, [.list 1 (List.map cI_i64 r10) none]⟩, ⟨0, [.fn 66 [] [.ptr 1 0]]⟩, ⟨0, [.list 1 (List.map cI_i64 r12) none]⟩, ⟨0, [.val (.int .i64 v3)]⟩, ⟨0, [.val (.int .i64 v6)]⟩, ⟨0, [.val (.int .i64 v11)]⟩, ⟨0, [.val (.bool false)]⟩] ∧ tk = [] ∧ F8_r2 k r10 r12 v3 v6 (List.drop i r10) v11 = some x38) (fun y fr tk => (y = .ret ∧ ∃ (v13 : Int), fr = [⟨0, [.val (.bool false)]⟩, ⟨0, [.list 1 (List.map cI_i64 r10) none]⟩, ⟨0, [.fn 66 [] [.ptr 1 0]]⟩, ⟨0, [.list 1 (List.map cI_i64 r12) none]⟩, ⟨0, [.val (.int .i64 v3)]⟩, ⟨0, [.val (.int .i64 v6)]⟩, ⟨0, [.val (.int .i64 v13)]⟩, ⟨0, [.val (.bool false)]⟩] ∧ tk = [] ∧ (.inr (.inl v13)) = x38) ∨ (y = .exit 2 ∧ ∃ (v14 : Int), fr = [⟨0, [.val (.bool false)]⟩, ⟨0, [.list 1 (List.map cI_i64 r10) none]⟩, ⟨0, [.fn 66 [] [.ptr 1 0]]⟩, ⟨0, [.list 1 (List.map cI_i64 r12) none]⟩, ⟨0, [.val (.int .i64 v3)]⟩, ⟨0, [.val (.int .i64 v6)]⟩, ⟨0, [.val (.int .i64 v14)]⟩, ⟨0, [.val (.bool true)]⟩] ∧ tk = [] ∧ (.inr (.inr v14)) = x38)) ?_ ?_ ?_ ?_ ?_
                    · rintro i fr tk ⟨v11, rfl, rfl, _⟩
                      exact ⟨rfl, rfl, ⟨_, _, rfl⟩⟩
                    · exact ⟨0, rfl, rfl, e39⟩
                    · intro i x fr tk l hx hj
                      refine Exists.elim (map_inv hx) (fun y10 hq => ?_)
                      have ha := hq.1
                      obtain rfl := hq.2
                      clear hq
                      obtain ⟨v11, rfl, rfl, e40⟩ := hj
                      rw [drop_at ha, F8_r2] at e40
                      clear hx ha
                      refine ⟨_, rfl, ?_⟩
                      refine PC.weak (s' := PS.of 110 [(4, .ptr 0 0), (6, .ptr 2 0), (7, .ptr 3 0), (8, .ptr 4 0), (9, .ptr 5 0), (10, .ptr 6 0), (11, .ptr 7 0), (57, .val (.int .i64 y10))] [⟨0, [.val (.bool false)]⟩, ⟨0, [.list 1 (List.map cI_i64 r10) none]⟩, ⟨0, [.fn 66 [] [.ptr 1 0]]⟩, ⟨0, [.list 1 (List.map cI_i64 r12) none]⟩, ⟨0, [.val (.int .i64 v3)]⟩, ⟨0, [.val (.int .i64 v6)]⟩, ⟨0, [.val (.int .i64 v11)]⟩, ⟨0, [.val (.bool false)]⟩] [] 8 0) (Weak.one [0, 1, 2, 3, 4, 5, 6, 7] [] (by kernel_rfl)) ?_
                      refine PC.lone ?_
                      refine PC.run (n := 2) rfl ?_
                      refine PC.skip ⟨rfl, ?_⟩
                      refine PC.lone ?_
                      refine bindK e40 (fun x44 e45 e40 => ?_)
                      refine PC.blockJ (fun s => Weak s (PS.of 110 [] [⟨0, [.val (.bool false)]⟩, ⟨0, [.list 1 (List.map cI_i64 r10) none]⟩, ⟨0, [.fn 66 [] [.ptr 1 0]]⟩, ⟨0, [.list 1 (List.map cI_i64 r12) none]⟩, ⟨0, [.val (.int .i64 v3)]⟩, ⟨0, [.val (.int .i64 v6)]⟩, ⟨0, [.val (.int .i64 (w (v11 + 1)))]⟩, ⟨0, [.val (.bool false)]⟩] [] 8 0) ∧ .inl () = x44) ?_ ?_
                      · refine PC.assoc ?_
                        refine PC.region ?_
                        refine PO.run 2 rfl ?_
                        refine PO.same rfl (len_ok Try.underlying43 rfl (List.length_map _)) rfl ?_
                        refine PO.run 2 rfl ?_
                        refine bindK e45 (fun x46 e47 e45 => ?_)
                        refine PO.cut 7 (fun s => ∃ (v16 : Bool), Weak s (PS.of 110 [(4, .ptr 0 0), (6, .ptr 2 0), (7, .ptr 3 0), (8, .ptr 4 0), (9, .ptr 5 0), (10, .ptr 6 0), (11, .ptr 7 0), (69, .val (.bool v16))] [⟨0, [.val (.bool false)]⟩, ⟨0, [.list 1 (List.map cI_i64 r10) none]⟩, ⟨0, [.fn 66 [] [.ptr 1 0]]⟩, ⟨0, [.list 1 (List.map cI_i64 r12) none]⟩, ⟨0, [.val (.int .i64 v3)]⟩, ⟨0, [.val (.int .i64 v6)]⟩, ⟨0, [.val (.int .i64 v11)]⟩, ⟨0, [.val (.bool false)]⟩] [] 8 0) ∧ v16 = x46) ?_ ?_
                        · refine PO.case (t := 62) rfl rfl (fun h48 => ?_) (fun h48 => ?_)
                          · have e47 := bif_t h48 e47
                            refine PO.run 6 rfl ?_
                            refine PO.same rfl (pickT_ok rfl rfl rfl) rfl ?_
                            refine PO.nil ?_
                            exact ⟨true, Weak.one [0, 1, 2, 3, 4, 5, 6, 7] [] (by kernel_rfl), Option.some.inj e47⟩
                          · have e47 := bif_f h48 e47
                            refine PO.runK 3 [0, 1, 2, 3, 4, 5, 6, 7] [] (es := [(4, .ptr 0 0), (6, .ptr 2 0), (7, .ptr 3 0), (8, .ptr 4 0), (9, .ptr 5 0), (10, .ptr 6 0), (11, .ptr 7 0), (62, .val (.bool false)), (63, .val (.int .i64 y10)), (64, .list 1 (List.map cI_i64 r12) none), (65, .val (.int .i64 v11))]) (fr' := [⟨0, [.val (.bool false)]⟩, ⟨0, [.list 1 (List.map cI_i64 r10) none]⟩, ⟨0, [.fn 66 [] [.ptr 1 0]]⟩, ⟨0, [.list 1 (List.map cI_i64 r12) none]⟩, ⟨0, [.val (.int .i64 v3)]⟩, ⟨0, [.val (.int .i64 v6)]⟩, ⟨0, [.val (.int .i64 v11)]⟩, ⟨0, [.val (.bool false)]⟩]) (tk' := []) (by kernel_rfl) ?_
                            refine bindIK e47 (fun y17 h49 h50 e47 => ?_)
                            refine PO.same rfl (indexAddr_ok Try.underlying43 rfl rfl rfl h49 (map_at h50)) rfl ?_
                            refine PO.run 2 rfl ?_
                            refine PO.same rfl (pickF_ok rfl rfl rfl) rfl ?_
                            refine PO.nil ?_
                            exact ⟨y10 != y17, Weak.one [0, 1, 2, 3, 4, 5, 6, 7] [] (by kernel_rfl), Option.some.inj e47⟩
                        · rintro _ ⟨v16, w51, rfl⟩
                          refine PO.weak w51 ?_
                          refine PO.nil ?_
                          refine PC.cond rfl (fun h52 => ?_) (fun h52 => ?_)
                          · have e45 := bif_t h52 e45
                            refine PC.assoc ?_
                            refine PC.region ?_
                            refine PO.runK 1 [0, 1, 2, 3, 4, 5, 6, 7] [] (es := [(4, .ptr 0 0)]) (fr' := [⟨0, [.val (.bool false)]⟩, ⟨0, [.list 1 (List.map cI_i64 r10) none]⟩, ⟨0, [.fn 66 [] [.ptr 1 0]]⟩, ⟨0, [.list 1 (List.map cI_i64 r12) none]⟩, ⟨0, [.val (.int .i64 v3)]⟩, ⟨0, [.val (.int .i64 v6)]⟩, ⟨0, [.val (.int .i64 v11)]⟩, ⟨0, [.val (.bool false)]⟩]) (tk' := []) (by kernel_rfl) ?_
                            refine PO.nil ?_
                            refine PC.weak (s' := PS.of 110 [] [⟨0, [.val (.bool false)]⟩, ⟨0, [.list 1 (List.map cI_i64 r10) none]⟩, ⟨0, [.fn 66 [] [.ptr 1 0]]⟩, ⟨0, [.list 1 (List.map cI_i64 r12) none]⟩, ⟨0, [.val (.int .i64 v3)]⟩, ⟨0, [.val (.int .i64 v6)]⟩, ⟨0, [.val (.int .i64 v11)]⟩, ⟨0, [.val (.bool false)]⟩] [] 8 0) (Weak.one [0, 1, 2, 3, 4, 5, 6, 7] [] (by kernel_rfl)) ?_
                            have hq := Option.some.inj e45
                            subst hq
                            have hq := Option.some.inj e40
                            subst hq
                            exact PC.ret (blockJK.back ((Or.inl ⟨rfl, v11, rfl, rfl, rfl⟩)))
                          · have e45 := bif_f h52 e45
                            refine PC.noop ?_
                            refine PC.region ?_
                            refine PO.runK 3 [0, 1, 2, 3, 4, 5, 6, 7] [] (es := [(4, .ptr 0 0), (6, .ptr 2 0), (7, .ptr 3 0), (8, .ptr 4 0), (9, .ptr 5 0), (10, .ptr 6 0), (11, .ptr 7 0)]) (fr' := [⟨0, [.val (.bool false)]⟩, ⟨0, [.list 1 (List.map cI_i64 r10) none]⟩, ⟨0, [.fn 66 [] [.ptr 1 0]]⟩, ⟨0, [.list 1 (List.map cI_i64 r12) none]⟩, ⟨0, [.val (.int .i64 v3)]⟩, ⟨0, [.val (.int .i64 v6)]⟩, ⟨0, [.val (.int .i64 (w (v11 + 1)))]⟩, ⟨0, [.val (.bool false)]⟩]) (tk' := []) (by kernel_rfl) ?_
                            refine PO.nil ?_
                            refine PC.assoc ?_
                            refine PC.run (n := 4) rfl ?_
                            refine PC.cond rfl (fun h53 => ?_) (fun h53 => ?_)
                            · have e45 := bif_t h53 e45
                              refine PC.assoc ?_
                              refine PC.region ?_
                              refine PO.runK 1 [0, 1, 2, 3, 4, 5, 6, 7] [] (es := []) (fr' := [⟨0, [.val (.bool false)]⟩, ⟨0, [.list 1 (List.map cI_i64 r10) none]⟩, ⟨0, [.fn 66 [] [.ptr 1 0]]⟩, ⟨0, [.list 1 (List.map cI_i64 r12) none]⟩, ⟨0, [.val (.int .i64 v3)]⟩, ⟨0, [.val (.int .i64 v6)]⟩, ⟨0, [.val (.int .i64 (w (v11 + 1)))]⟩, ⟨0, [.val (.bool true)]⟩]) (tk' := []) (by kernel_rfl) ?_
                              refine PO.nil ?_
                              refine PC.weak (s' := PS.of 110 [] [⟨0, [.val (.bool false)]⟩, ⟨0, [.list 1 (List.map cI_i64 r10) none]⟩, ⟨0, [.fn 66 [] [.ptr 1 0]]⟩, ⟨0, [.list 1 (List.map cI_i64 r12) none]⟩, ⟨0, [.val (.int .i64 v3)]⟩, ⟨0, [.val (.int .i64 v6)]⟩, ⟨0, [.val (.int .i64 (w (v11 + 1)))]⟩, ⟨0, [.val (.bool true)]⟩] [] 8 0) (Weak.one [0, 1, 2, 3, 4, 5, 6, 7] [] (by kernel_rfl)) ?_
                              have hq := Option.some.inj e45
                              subst hq
                              have hq := Option.some.inj e40
                              subst hq
                              exact PC.exit (blockJK.out (by decide) ((Or.inr (⟨rfl, w (v11 + 1), rfl, rfl, rfl⟩))))
                            · have e45 := bif_f h53 e45
                              refine PC.noop ?_
                              refine PC.assoc ?_
                              refine PC.region ?_
                              refine PO.run 3 rfl ?_
                              refine bindK e45 (fun x54 e55 e45 => ?_)
                              refine PO.cut 3 (fun s => ∃ (v18 : Bool), Weak s (PS.of 110 [(4, .ptr 0 0), (6, .ptr 2 0), (7, .ptr 3 0), (80, .val (.bool v18))] [⟨0, [.val (.bool false)]⟩, ⟨0, [.list 1 (List.map cI_i64 r10) none]⟩, ⟨0, [.fn 66 [] [.ptr 1 0]]⟩, ⟨0, [.list 1 (List.map cI_i64 r12) none]⟩, ⟨0, [.val (.int .i64 v3)]⟩, ⟨0, [.val (.int .i64 v6)]⟩, ⟨0, [.val (.int .i64 (w (v11 + 1)))]⟩, ⟨0, [.val (.bool false)]⟩] [] 8 0) ∧ v18 = x54) ?_ ?_
                              · refine PO.case (t := 77) rfl rfl (fun h56 => ?_) (fun h56 => ?_)
                                · have e55 := bif_t h56 e55
                                  refine PO.run 2 rfl ?_
                                  refine PO.same rfl (pickT_ok rfl rfl rfl) rfl ?_
                                  refine PO.nil ?_
                                  exact ⟨true, Weak.one [0, 1, 2, 3, 4, 5, 6, 7] [] (by kernel_rfl), Option.some.inj e55⟩
                                · have e55 := bif_f h56 e55
                                  refine PO.run 2 rfl ?_
                                  refine PO.same rfl (pickF_ok rfl rfl rfl) rfl ?_
                                  refine PO.nil ?_
                                  exact ⟨(w (v11 + 1)) != 2, Weak.one [0, 1, 2, 3, 4, 5, 6, 7] [] (by kernel_rfl), Option.some.inj e55⟩
                              · rintro _ ⟨v18, w57, rfl⟩
                                refine PO.weak w57 ?_
                                refine PO.nil ?_
                                refine PC.cond rfl (fun h58 => ?_) (fun h58 => ?_)
                                · have e45 := bif_t h58 e45
                                  exact PC.exit (blockJK.here ⟨Weak.one [0, 1, 2, 3, 4, 5, 6, 7] [] (by kernel_rfl), Option.some.inj e45⟩)
                                · have e45 := bif_f h58 e45
                                  refine PC.noop ?_
                                  refine PC.region ?_
                                  refine PO.runK 2 [0, 1, 2, 3, 4, 5, 6, 7, 8] [] (es := [(4, .ptr 0 0), (6, .ptr 2 0), (7, .ptr 3 0), (13, .ptr 8 0)]) (fr' := [⟨0, [.val (.bool false)]⟩, ⟨0, [.list 1 (List.map cI_i64 r10) none]⟩, ⟨0, [.fn 66 [] [.ptr 1 0]]⟩, ⟨0, [.list 1 (List.map cI_i64 r12) none]⟩, ⟨0, [.val (.int .i64 v3)]⟩, ⟨0, [.val (.int .i64 v6)]⟩, ⟨0, [.val (.int .i64 (w (v11 + 1)))]⟩, ⟨0, [.val (.bool false)]⟩, ⟨0, [.val (.int .i64 0)]⟩]) (tk' := []) (by kernel_rfl) ?_
                                  refine PO.nil ?_
                                  refine PC.assoc ?_
                                  refine PC.run (n := 2) rfl ?_
                                  refine bindK e45 (fun x59 e60 e45 => ?_)
                                  refine PC.blockJ (fun s => ∃ (v19 : Int), Weak s (PS.of 110 [(4, .ptr 0 0), (7, .ptr 3 0), (13, .ptr 8 0)] [⟨0, [.val (.bool false)]⟩, ⟨0, [.list 1 (List.map cI_i64 r10) none]⟩, ⟨0, [.fn 66 [] [.ptr 1 0]]⟩, ⟨0, [.list 1 (List.map cI_i64 r12) none]⟩, ⟨0, [.val (.int .i64 v3)]⟩, ⟨0, [.val (.int .i64 v6)]⟩, ⟨0, [.val (.int .i64 (w (v11 + 1)))]⟩, ⟨0, [.val (.bool false)]⟩, ⟨0, [.val (.int .i64 v19)]⟩] [] 8 0) ∧ .inl v19 = x59) ?_ ?_
                                  · refine PC.lone ?_
                                    have hq := guardL_some e60
                                    have h61 := hq.1
                                    have e60 := hq.2
                                    clear hq
                                    refine PC.weak (s' := PS.of 110 [(4, .ptr 0 0), (7, .ptr 3 0), (13, .ptr 8 0), (81, .fn 66 [] [.ptr 1 0])] [⟨0, [.val (.bool false)]⟩, ⟨0, [.list 1 (List.map cI_i64 r10) none]⟩, ⟨0, [.fn 66 [] [.ptr 1 0]]⟩, ⟨0, [.list 1 (List.map cI_i64 r12) none]⟩, ⟨0, [.val (.int .i64 v3)]⟩, ⟨0, [.val (.int .i64 v6)]⟩, ⟨0, [.val (.int .i64 (w (v11 + 1)))]⟩, ⟨0, [.val (.bool false)]⟩, ⟨0, [.val (.int .i64 0)]⟩] [] 8 0) (Weak.one [0, 1, 2, 3, 4, 5, 6, 7, 8] [] (by kernel_rfl)) ?_
                                    refine bindK e60 (fun x62 e63 e60 => ?_)
                                    refine PC.rangeFunc (f := 66) rfl (I66 r10 h61 1) (by intro i x hx; obtain ⟨_, _, rfl⟩ := map_inv hx; rfl) (by intro h; first | rfl | cases h) (fun i fr tk => ∃ (v21 : Int), fr = [⟨0, [.val (.bool false)]⟩, ⟨0, [.list 1 (List.map cI_i64 r10) none]⟩, ⟨0, [.fn 66 [] [.ptr 1 0]]⟩, ⟨0, [.list 1 (List.map cI_i64 r12) none]⟩, ⟨0, [.val (.int .i64 v3)]⟩, ⟨0, [.val (.int .i64 v6)]⟩, ⟨0, [.val (.int .i64 (w (v11 + 1)))]⟩, ⟨0, [.val (.bool false)]⟩, ⟨0, [.val (.int .i64 v21)]⟩] ∧ tk = [] ∧ F8_r3 k r12 (List.drop i r10) v21 = some x62) (fun y fr tk => (y = .ret ∧ ∃ (v23 : Int), fr = [⟨0, [.val (.bool false)]⟩, ⟨0, [.list 1 (List.map cI_i64 r10) none]⟩, ⟨0, [.fn 66 [] [.ptr 1 0]]⟩, ⟨0, [.list 1 (List.map cI_i64 r12) none]⟩, ⟨0, [.val (.int .i64 v3)]⟩, ⟨0, [.val (.int .i64 v6)]⟩, ⟨0, [.val (.int .i64 (w (v11 + 1)))]⟩, ⟨0, [.val (.bool false)]⟩, ⟨0, [.val (.int .i64 v23)]⟩] ∧ tk = [] ∧ (.inr v23) = x62)) ?_ ?_ ?_ ?_ ?_
                                    · rintro i fr tk ⟨v21, rfl, rfl, _⟩
                                      exact ⟨rfl, rfl, ⟨_, _, rfl⟩⟩
                                    · exact ⟨0, rfl, rfl, e63⟩
                                    · intro i x fr tk l hx hj
                                      refine Exists.elim (map_inv hx) (fun y20 hq => ?_)
                                      have ha := hq.1
                                      obtain rfl := hq.2
                                      clear hq
                                      obtain ⟨v21, rfl, rfl, e64⟩ := hj
                                      rw [drop_at ha, F8_r3] at e64
                                      clear hx ha
                                      refine ⟨_, rfl, ?_⟩
                                      refine PC.weak (s' := PS.of 110 [(4, .ptr 0 0), (7, .ptr 3 0), (13, .ptr 8 0), (82, .val (.int .i64 y20))] [⟨0, [.val (.bool false)]⟩, ⟨0, [.list 1 (List.map cI_i64 r10) none]⟩, ⟨0, [.fn 66 [] [.ptr 1 0]]⟩, ⟨0, [.list 1 (List.map cI_i64 r12) none]⟩, ⟨0, [.val (.int .i64 v3)]⟩, ⟨0, [.val (.int .i64 v6)]⟩, ⟨0, [.val (.int .i64 (w (v11 + 1)))]⟩, ⟨0, [.val (.bool false)]⟩, ⟨0, [.val (.int .i64 v21)]⟩] [] 9 0) (Weak.one [0, 1, 2, 3, 4, 5, 6, 7, 8] [] (by kernel_rfl)) ?_
                                      refine PC.lone ?_
                                      refine PC.run (n := 2) rfl ?_
                                      refine PC.skip ⟨rfl, ?_⟩
                                      refine PC.lone ?_
                                      refine PC.block ?_
                                      refine PC.assoc ?_
                                      refine PC.region ?_
                                      refine PO.run 2 rfl ?_
                                      refine PO.same rfl (len_ok Try.underlying43 rfl (List.length_map _)) rfl ?_
                                      refine PO.run 2 rfl ?_
                                      refine bindK e64 (fun x68 e69 e64 => ?_)
                                      refine PO.cut 7 (fun s => ∃ (v25 : Bool), Weak s (PS.of 110 [(4, .ptr 0 0), (13, .ptr 8 0), (94, .val (.bool v25))] [⟨0, [.val (.bool false)]⟩, ⟨0, [.list 1 (List.map cI_i64 r10) none]⟩, ⟨0, [.fn 66 [] [.ptr 1 0]]⟩, ⟨0, [.list 1 (List.map cI_i64 r12) none]⟩, ⟨0, [.val (.int .i64 v3)]⟩, ⟨0, [.val (.int .i64 v6)]⟩, ⟨0, [.val (.int .i64 (w (v11 + 1)))]⟩, ⟨0, [.val (.bool false)]⟩, ⟨0, [.val (.int .i64 v21)]⟩] [] 9 0) ∧ v25 = x68) ?_ ?_
                                      · refine PO.case (t := 87) rfl rfl (fun h70 => ?_) (fun h70 => ?_)
                                        · have e69 := bif_t h70 e69
                                          refine PO.run 6 rfl ?_
                                          refine PO.same rfl (pickT_ok rfl rfl rfl) rfl ?_
                                          refine PO.nil ?_
                                          exact ⟨true, Weak.one [0, 1, 2, 3, 4, 5, 6, 7, 8] [] (by kernel_rfl), Option.some.inj e69⟩
                                        · have e69 := bif_f h70 e69
                                          refine PO.runK 3 [0, 1, 2, 3, 4, 5, 6, 7, 8] [] (es := [(4, .ptr 0 0), (13, .ptr 8 0), (87, .val (.bool false)), (88, .val (.int .i64 y20)), (89, .list 1 (List.map cI_i64 r12) none), (90, .val (.int .i64 v21))]) (fr' := [⟨0, [.val (.bool false)]⟩, ⟨0, [.list 1 (List.map cI_i64 r10) none]⟩, ⟨0, [.fn 66 [] [.ptr 1 0]]⟩, ⟨0, [.list 1 (List.map cI_i64 r12) none]⟩, ⟨0, [.val (.int .i64 v3)]⟩, ⟨0, [.val (.int .i64 v6)]⟩, ⟨0, [.val (.int .i64 (w (v11 + 1)))]⟩, ⟨0, [.val (.bool false)]⟩, ⟨0, [.val (.int .i64 v21)]⟩]) (tk' := []) (by kernel_rfl) ?_
                                          refine bindIK e69 (fun y26 h71 h72 e69 => ?_)
                                          refine PO.same rfl (indexAddr_ok Try.underlying43 rfl rfl rfl h71 (map_at h72)) rfl ?_
                                          refine PO.run 2 rfl ?_
                                          refine PO.same rfl (pickF_ok rfl rfl rfl) rfl ?_
                                          refine PO.nil ?_
                                          exact ⟨y20 != y26, Weak.one [0, 1, 2, 3, 4, 5, 6, 7, 8] [] (by kernel_rfl), Option.some.inj e69⟩
                                      · rintro _ ⟨v25, w73, rfl⟩
                                        refine PO.weak w73 ?_
                                        refine PO.nil ?_
                                        refine PC.cond rfl (fun h74 => ?_) (fun h74 => ?_)
                                        · have e64 := bif_t h74 e64
                                          refine PC.assoc ?_
                                          refine PC.region ?_
                                          refine PO.runK 1 [0, 1, 2, 3, 4, 5, 6, 7, 8] [] (es := [(4, .ptr 0 0)]) (fr' := [⟨0, [.val (.bool false)]⟩, ⟨0, [.list 1 (List.map cI_i64 r10) none]⟩, ⟨0, [.fn 66 [] [.ptr 1 0]]⟩, ⟨0, [.list 1 (List.map cI_i64 r12) none]⟩, ⟨0, [.val (.int .i64 v3)]⟩, ⟨0, [.val (.int .i64 v6)]⟩, ⟨0, [.val (.int .i64 (w (v11 + 1)))]⟩, ⟨0, [.val (.bool false)]⟩, ⟨0, [.val (.int .i64 v21)]⟩]) (tk' := []) (by kernel_rfl) ?_
                                          refine PO.nil ?_
                                          refine PC.weak (s' := PS.of 110 [] [⟨0, [.val (.bool false)]⟩, ⟨0, [.list 1 (List.map cI_i64 r10) none]⟩, ⟨0, [.fn 66 [] [.ptr 1 0]]⟩, ⟨0, [.list 1 (List.map cI_i64 r12) none]⟩, ⟨0, [.val (.int .i64 v3)]⟩, ⟨0, [.val (.int .i64 v6)]⟩, ⟨0, [.val (.int .i64 (w (v11 + 1)))]⟩, ⟨0, [.val (.bool false)]⟩, ⟨0, [.val (.int .i64 v21)]⟩] [] 9 0) (Weak.one [0, 1, 2, 3, 4, 5, 6, 7, 8] [] (by kernel_rfl)) ?_
                                          have hq := Option.some.inj e64
                                          subst hq
                                          exact PC.ret (blockKP.back ((⟨rfl, v21, rfl, rfl, rfl⟩)))
                                        · have e64 := bif_f h74 e64
                                          refine PC.noop ?_
                                          refine PC.lone ?_
                                          refine PC.region ?_
                                          refine PO.runK 3 [0, 1, 2, 3, 4, 5, 6, 7, 8] [] (es := []) (fr' := [⟨0, [.val (.bool false)]⟩, ⟨0, [.list 1 (List.map cI_i64 r10) none]⟩, ⟨0, [.fn 66 [] [.ptr 1 0]]⟩, ⟨0, [.list 1 (List.map cI_i64 r12) none]⟩, ⟨0, [.val (.int .i64 v3)]⟩, ⟨0, [.val (.int .i64 v6)]⟩, ⟨0, [.val (.int .i64 (w (v11 + 1)))]⟩, ⟨0, [.val (.bool false)]⟩, ⟨0, [.val (.int .i64 (w (v21 + 1)))]⟩]) (tk' := []) (by kernel_rfl) ?_
                                          refine PO.nil ?_
                                          refine PC.skip (blockKP.end ?_)
                                          refine PC.weak (s' := PS.of 110 [] [⟨0, [.val (.bool false)]⟩, ⟨0, [.list 1 (List.map cI_i64 r10) none]⟩, ⟨0, [.fn 66 [] [.ptr 1 0]]⟩, ⟨0, [.list 1 (List.map cI_i64 r12) none]⟩, ⟨0, [.val (.int .i64 v3)]⟩, ⟨0, [.val (.int .i64 v6)]⟩, ⟨0, [.val (.int .i64 (w (v11 + 1)))]⟩, ⟨0, [.val (.bool false)]⟩, ⟨0, [.val (.int .i64 (w (v21 + 1)))]⟩] [] 9 0) (Weak.one [0, 1, 2, 3, 4, 5, 6, 7, 8] [] (by kernel_rfl)) ?_
                                          exact PC.skip (⟨w (v21 + 1), rfl, rfl, e64⟩)
                                    · rintro fr tk ⟨v21, rfl, rfl, e64⟩
                                      rw [List.length_map, List.drop_length, F8_r3] at e64
                                      obtain rfl := Option.some.inj e64
                                      have e60 := (elim_l e60)
                                      refine PC.weak (s' := PS.of 110 [(4, .ptr 0 0), (7, .ptr 3 0), (13, .ptr 8 0), (81, .fn 66 [] [.ptr 1 0])] [⟨0, [.val (.bool false)]⟩, ⟨0, [.list 1 (List.map cI_i64 r10) none]⟩, ⟨0, [.fn 66 [] [.ptr 1 0]]⟩, ⟨0, [.list 1 (List.map cI_i64 r12) none]⟩, ⟨0, [.val (.int .i64 v3)]⟩, ⟨0, [.val (.int .i64 v6)]⟩, ⟨0, [.val (.int .i64 (w (v11 + 1)))]⟩, ⟨0, [.val (.bool false)]⟩, ⟨0, [.val (.int .i64 v21)]⟩] [] 8 0) (Weak.one [0, 1, 2, 3, 4, 5, 6, 7, 8] [] (by kernel_rfl)) ?_
                                      exact PC.skip (blockJK.end ⟨v21, Weak.one [0, 1, 2, 3, 4, 5, 6, 7, 8] [] (by kernel_rfl), Option.some.inj e60⟩)
                                    · rintro y fr tk hd hy
                                      rcases hd with ⟨rfl, v23, rfl, rfl, rfl⟩
                                      · have e60 := (elim_r e60)
                                        refine ⟨PS.of 110 [] [⟨0, [.val (.bool false)]⟩, ⟨0, [.list 1 (List.map cI_i64 r10) none]⟩, ⟨0, [.fn 66 [] [.ptr 1 0]]⟩, ⟨0, [.list 1 (List.map cI_i64 r12) none]⟩, ⟨0, [.val (.int .i64 v3)]⟩, ⟨0, [.val (.int .i64 v6)]⟩, ⟨0, [.val (.int .i64 (w (v11 + 1)))]⟩, ⟨0, [.val (.bool false)]⟩] [] 8 0, Weak.one [0, 1, 2, 3, 4, 5, 6, 7] [] (by kernel_rfl), ?_⟩
                                        have hq := Option.some.inj e60
                                        subst hq
                                        have hq := Option.some.inj e45
                                        subst hq
                                        have hq := Option.some.inj e40
                                        subst hq
                                        exact id (blockJK.back (blockJK.back ((Or.inl ⟨rfl, w (v11 + 1), rfl, rfl, rfl⟩))))
                                  · rintro _ ⟨v19, w75, rfl⟩
                                    refine PC.weak w75 ?_
                                    have e45 := elim_l e45
                                    refine PC.region ?_
                                    refine PO.run 2 rfl ?_
                                    refine PO.same rfl (len_ok Try.underlying43 rfl (List.length_map _)) rfl ?_
                                    refine PO.run 1 rfl ?_
                                    refine PO.nil ?_
                                    refine PC.lone ?_
                                    refine PC.cond rfl (fun h76 => ?_) (fun h76 => ?_)
                                    · have e45 := bif_t h76 e45
                                      refine PC.assoc ?_
                                      refine PC.region ?_
                                      refine PO.runK 1 [0, 1, 2, 3, 4, 5, 6, 7] [] (es := [(4, .ptr 0 0)]) (fr' := [⟨0, [.val (.bool false)]⟩, ⟨0, [.list 1 (List.map cI_i64 r10) none]⟩, ⟨0, [.fn 66 [] [.ptr 1 0]]⟩, ⟨0, [.list 1 (List.map cI_i64 r12) none]⟩, ⟨0, [.val (.int .i64 v3)]⟩, ⟨0, [.val (.int .i64 v6)]⟩, ⟨0, [.val (.int .i64 (w (v11 + 1)))]⟩, ⟨0, [.val (.bool false)]⟩]) (tk' := []) (by kernel_rfl) ?_
                                      refine PO.nil ?_
                                      refine PC.weak (s' := PS.of 110 [] [⟨0, [.val (.bool false)]⟩, ⟨0, [.list 1 (List.map cI_i64 r10) none]⟩, ⟨0, [.fn 66 [] [.ptr 1 0]]⟩, ⟨0, [.list 1 (List.map cI_i64 r12) none]⟩, ⟨0, [.val (.int .i64 v3)]⟩, ⟨0, [.val (.int .i64 v6)]⟩, ⟨0, [.val (.int .i64 (w (v11 + 1)))]⟩, ⟨0, [.val (.bool false)]⟩] [] 8 0) (Weak.one [0, 1, 2, 3, 4, 5, 6, 7] [] (by kernel_rfl)) ?_
                                      have hq := Option.some.inj e45
                                      subst hq
                                      have hq := Option.some.inj e40
                                      subst hq
                                      exact PC.ret (blockJK.back ((Or.inl ⟨rfl, w (v11 + 1), rfl, rfl, rfl⟩)))
                                    · have e45 := bif_f h76 e45
                                      refine PC.noop ?_
                                      exact PC.skip (blockJK.end ⟨Weak.one [0, 1, 2, 3, 4, 5, 6, 7] [] (by kernel_rfl), Option.some.inj e45⟩)
                      · rintro _ ⟨w77, rfl⟩
                        refine PC.weak w77 ?_
                        have e40 := elim_l e40
                        refine PC.weak (s' := PS.of 110 [] [⟨0, [.val (.bool false)]⟩, ⟨0, [.list 1 (List.map cI_i64 r10) none]⟩, ⟨0, [.fn 66 [] [.ptr 1 0]]⟩, ⟨0, [.list 1 (List.map cI_i64 r12) none]⟩, ⟨0, [.val (.int .i64 v3)]⟩, ⟨0, [.val (.int .i64 v6)]⟩, ⟨0, [.val (.int .i64 (w (v11 + 1)))]⟩, ⟨0, [.val (.bool false)]⟩] [] 8 0) (Weak.one [0, 1, 2, 3, 4, 5, 6, 7] [] (by kernel_rfl)) ?_
                        exact PC.skip (⟨w (v11 + 1), rfl, rfl, e40⟩)
                    · rintro fr tk ⟨v11, rfl, rfl, e40⟩
                      rw [List.length_map, List.drop_length, F8_r2] at e40
                      obtain rfl := Option.some.inj e40
                      have e36 := (elim_l e36)
                      refine PC.weak (s' := PS.ofm [none] 110 [(1, .list 1 (List.map cI_i64 a1) none), (4, .ptr 0 0), (6, .ptr 2 0), (7, .ptr 3 0), (8, .ptr 4 0), (9, .ptr 5 0), (10, .ptr 6 0), (11, .ptr 7 0), (56, .fn 66 [] [.ptr 1 0])] [⟨0, [.val (.bool false)]⟩, ⟨0, [.list 1 (List.map cI_i64 r10) none]⟩, ⟨0, [.fn 66 [] [.ptr 1 0]]⟩, ⟨0, [.list 1 (List.map cI_i64 r12) none]⟩, ⟨0, [.val (.int .i64 v3)]⟩, ⟨0, [.val (.int .i64 v6)]⟩, ⟨0, [.val (.int .i64 v11)]⟩, ⟨0, [.val (.bool false)]⟩] [] 0 0) (Weak.one [0, 1, 2, 3, 4, 5, 6, 7] [] (by kernel_rfl)) ?_
                      exact PC.skip (blockJK.end ⟨v11, false, Weak.one [0, 1, 2, 3, 4, 6, 7] [] (by kernel_rfl), Option.some.inj e36⟩)
                    · rintro y fr tk hd hy
                      rcases hd with ⟨rfl, v13, rfl, rfl, rfl⟩ | ⟨rfl, v14, rfl, rfl, rfl⟩
                      · have e36 := (elim_l (elim_r e36))
                        refine ⟨_, Weak.refl _, ?_⟩
                        have hq := Option.some.inj e36
                        subst hq
                        have hq := Option.some.inj e28
                        subst hq
                        have hq := Option.some.inj e19
                        subst hq
                        have hq := Option.some.inj hF
                        subst hq
                        exact id (blockJK.back (blockJK.back (loopKP.ret (blockJK.back (retMK [] [] (by kernel_rfl) (.refl _) ⟨rfl, rfl, rfl⟩)))))
                      · have e36 := (elim_r (elim_r e36))
                        refine ⟨_, Weak.refl _, ?_⟩
                        exact id (blockJK.here ⟨v14, true, Weak.one [0, 1, 2, 3, 4, 6, 7] [] (by kernel_rfl), Option.some.inj e36⟩)
                  · rintro _ ⟨v8, v9, w78, rfl⟩
                    refine PC.weak w78 ?_
                    have e28 := elim_l e28
                    refine PC.region ?_
                    refine PO.run 3 rfl ?_
                    refine bindK e28 (fun x79 e80 e28 => ?_)
                    refine PO.cut 5 (fun s => ∃ (v27 : Bool), Weak s (PS.ofm [none] 110 [(1, .list 1 (List.map cI_i64 a1) none), (4, .ptr 0 0), (6, .ptr 2 0), (7, .ptr 3 0), (8, .ptr 4 0), (108, .val (.bool v27))] [⟨0, [.val (.bool false)]⟩, ⟨0, [.list 1 (List.map cI_i64 r10) none]⟩, ⟨0, [.fn 66 [] [.ptr 1 0]]⟩, ⟨0, [.list 1 (List.map cI_i64 r12) none]⟩, ⟨0, [.val (.int .i64 v3)]⟩] [] 0 0) ∧ v27 = x79) ?_ ?_
                    · refine PO.case (t := 103) rfl rfl (fun h81 => ?_) (fun h81 => ?_)
                      · have e80 := bif_t h81 e80
                        refine PO.runK 2 [0, 1, 2, 3, 4] [] (es := [(1, .list 1 (List.map cI_i64 a1) none), (4, .ptr 0 0), (6, .ptr 2 0), (7, .ptr 3 0), (8, .ptr 4 0), (103, .val (.bool true)), (104, .val (.int .i64 v8)), (105, .list 1 (List.map cI_i64 r12) none)]) (fr' := [⟨0, [.val (.bool false)]⟩, ⟨0, [.list 1 (List.map cI_i64 r10) none]⟩, ⟨0, [.fn 66 [] [.ptr 1 0]]⟩, ⟨0, [.list 1 (List.map cI_i64 r12) none]⟩, ⟨0, [.val (.int .i64 v3)]⟩]) (tk' := []) (by kernel_rfl) ?_
                        refine PO.same rfl (len_ok Try.underlying43 rfl (List.length_map _)) rfl ?_
                        refine PO.run 1 rfl ?_
                        refine PO.same rfl (pickT_ok rfl rfl rfl) rfl ?_
                        refine PO.nil ?_
                        exact ⟨v8 != (r12.length : Int), Weak.one [0, 1, 2, 3, 4] [] (by kernel_rfl), Option.some.inj e80⟩
                      · have e80 := bif_f h81 e80
                        refine PO.run 4 rfl ?_
                        refine PO.same rfl (pickF_ok rfl rfl rfl) rfl ?_
                        refine PO.nil ?_
                        exact ⟨false, Weak.one [0, 1, 2, 3, 4] [] (by kernel_rfl), Option.some.inj e80⟩
                    · rintro _ ⟨v27, w82, rfl⟩
                      refine PO.weak w82 ?_
                      refine PO.nil ?_
                      refine PC.lone ?_
                      refine PC.cond rfl (fun h83 => ?_) (fun h83 => ?_)
                      · have e28 := bif_t h83 e28
                        refine PC.assoc ?_
                        refine PC.region ?_
                        refine PO.runK 1 [0, 1, 2, 3, 4] [] (es := [(1, .list 1 (List.map cI_i64 a1) none), (4, .ptr 0 0), (6, .ptr 2 0), (7, .ptr 3 0), (8, .ptr 4 0)]) (fr' := [⟨0, [.val (.bool false)]⟩, ⟨0, [.list 1 (List.map cI_i64 r10) none]⟩, ⟨0, [.fn 66 [] [.ptr 1 0]]⟩, ⟨0, [.list 1 (List.map cI_i64 r12) none]⟩, ⟨0, [.val (.int .i64 v3)]⟩]) (tk' := []) (by kernel_rfl) ?_
                        refine PO.nil ?_
                        have hq := Option.some.inj e28
                        subst hq
                        have hq := Option.some.inj e19
                        subst hq
                        have hq := Option.some.inj hF
                        subst hq
                        exact PC.ret (blockJK.back (loopKP.ret (blockJK.back (retMK [] [] (by kernel_rfl) (.refl _) ⟨rfl, rfl, rfl⟩))))
                      · have e28 := bif_f h83 e28
                        refine PC.noop ?_
                        exact PC.skip (blockJK.end ⟨Weak.one [0, 1, 2, 3, 4] [] (by kernel_rfl), Option.some.inj e28⟩)
              · rintro _ ⟨w84, rfl⟩
                refine PC.weak w84 ?_
                have e19 := elim_l e19
                refine PC.assoc ?_
                refine PC.run (n := 2) rfl ?_
                refine PC.region ?_
                refine PO.runK 2 [0, 1, 2, 3, 5] [] (es := [(1, .list 1 (List.map cI_i64 a1) none), (4, .ptr 0 0), (6, .ptr 2 0), (7, .ptr 3 0), (8, .ptr 4 0)]) (fr' := [⟨0, [.val (.bool false)]⟩, ⟨0, [.list 1 (List.map cI_i64 r10) none]⟩, ⟨0, [.fn 66 [] [.ptr 1 0]]⟩, ⟨0, [.list 1 (List.map cI_i64 r12) none]⟩, ⟨0, [.val (.int .i64 v3)]⟩]) (tk' := []) (by kernel_rfl) ?_
                refine PO.nil ?_
                refine PC.lone ?_
                refine PC.region ?_
                refine PO.runK 3 [0, 1, 2, 3, 4] [] (es := [(1, .list 1 (List.map cI_i64 a1) none), (4, .ptr 0 0), (6, .ptr 2 0), (7, .ptr 3 0), (8, .ptr 4 0)]) (fr' := [⟨0, [.val (.bool false)]⟩, ⟨0, [.list 1 (List.map cI_i64 r10) none]⟩, ⟨0, [.fn 66 [] [.ptr 1 0]]⟩, ⟨0, [.list 1 (List.map cI_i64 r12) none]⟩, ⟨0, [.val (.int .i64 (w (v3 + 1)))]⟩]) (tk' := []) (by kernel_rfl) ?_
                refine PO.nil ?_
                exact PC.skip (loopKP.mk (Nat.lt_succ_self _) ⟨w (v3 + 1), Weak.one [0, 1, 2, 3, 4] [] (by kernel_rfl), e19⟩)
            · have e19 := bif_f h26 e19
              exact PC.exit (loopKP.exit (blockJK.here ⟨Weak.one [0] [] (by kernel_rfl), Option.some.inj e19⟩))
      · rintro _ ⟨w85, rfl⟩
        refine PC.weak w85 ?_
        have hF := elim_l hF
        refine PC.region ?_
        refine PO.runK 1 [0] [] (es := [(4, .ptr 0 0)]) (fr' := [⟨0, [.val (.bool true)]⟩]) (tk' := []) (by kernel_rfl) ?_
        refine PO.nil ?_
        have hq := Option.some.inj hF
        subst hq
        exact PC.ret' (retMK [] [] (by kernel_rfl) (.refl _) ⟨rfl, rfl, rfl⟩)

end
end Go.Eng.Lift
