import Derived.Test.YtbcgpjfjfnnlcaaM33
import Derived.Test.YtbcgpjfjfnnlcaaProg
import Derived.KernelRfl
set_option linter.unusedVariables false
set_option linter.unusedSimpArgs false
set_option maxRecDepth 100000
set_option maxHeartbeats 4000000
namespace Go.Eng.Lift
open Go.Proofs
noncomputable section
def orc : Orc := ⟨fun f => pick (Nat.beq f 6) (some (.bool true)) (none), fun f => Nat.beq f 26⟩
theorem K6 : PF Try.prog orc 6 [] [] [] (fun p fr tk => p = .val (.bool true) ∧ fr = [] ∧ tk = []) := PF.known rfl rfl rfl ⟨rfl, rfl, rfl⟩
def cI_i64 (x : Int) : List PV := [.val (.int .i64 x)]
structure Gspot where
  page : Int
  row : Int
def cGspot (x : Gspot) : List PV := [vI x.page, vI x.row]
structure GBox where
  x : Int
  y : Int
  font : ByteArray
  size : Int
  rune : Int
  width : Int
  height : Int
  depth : Int
  from_ : Int
  to_ : Int
def cGBox (x : GBox) : List PV := [vI x.x, vI x.y, .val (.string x.font), vI x.size, vI x.rune, vI x.width, vI x.height, vI x.depth, vI x.from_, vI x.to_]
structure GRow where
  y : Int
  over_ : Bool
  loose : Bool
  boxes : List GBox
def cGRow (x : GRow) : List PV := [vI x.y, vB x.over_, vB x.loose, .list 10 (List.map cGBox x.boxes) none]
structure GPage where
  width : Int
  height : Int
  over_ : Bool
  rows : List GRow
def cGPage (x : GPage) : List PV := [vI x.width, vI x.height, vB x.over_, .list 4 (List.map cGRow x.rows) none]
structure GChar where
  rune : Int
  from_ : Int
  to_ : Int
def cGChar (x : GChar) : List PV := [vI x.rune, vI x.from_, vI x.to_]
structure GWrong where
  page : Int
  row : Int
  rule : Int
def cGWrong (x : GWrong) : List PV := [vI x.page, vI x.row, vI x.rule]
theorem mc62 : MC cGspot Gspot.page (fun a => vI (Gspot.row a)) := ⟨fun a => .inl ⟨_, rfl, rfl, rfl⟩⟩
theorem mc63 : MC cI_i64 idI (fun _ => .agg []) := ⟨fun a => .inr ⟨rfl, rfl⟩⟩
theorem ckInt : ∀ (b : Bool) (n : Int), pureRun Try.prog 4000 (Instr.checkKey b 10000 3 (.int .i64 n)) = .ok () := by intro b n; cases b <;> rfl
/-! judge.rows, as a list -/
def zRow : GRow := ⟨0, false, false, []⟩
def cSR (x : Gspot × GRow) : List PV := [.agg (cGspot x.1), .agg (cGRow x.2)]
def rowsR (i : Int) : Int → List GRow → List (Gspot × GRow) → List (Gspot × GRow)
  | _, [], t => t
  | j, r :: rs, t => (⟨i, j⟩, r) :: rowsR i (j + 1) rs t
def rowsP : Int → List GPage → List (Gspot × GRow)
  | _, [] => []
  | i, p :: ps => (⟨i, -1⟩, zRow) :: rowsR i 0 p.rows (rowsP (i + 1) ps)
def rowsL (k : Nat) (L : List GPage) (_ : Nat) (_ : Int) : Option (List (Gspot × GRow)) :=
  bif decide ((L.length : Int) < 9223372036854775807) && L.all (fun p => decide ((p.rows.length : Int) < 9223372036854775807)) then some (rowsP 0 L) else none

theorem drop_cons {α : Type} {A : List α} {n : Nat} {x : α} {r : List α} (h : A.drop n = x :: r) : n < A.length ∧ A[n]? = some x ∧ A.drop (n + 1) = r := by
  have hlt : n < A.length := by
    rcases Nat.lt_or_ge n A.length with h1 | h1
    · exact h1
    · rw [List.drop_eq_nil_of_le h1] at h; cases h
  rw [List.drop_eq_getElem_cons hlt] at h
  simp only [List.cons.injEq] at h
  exact ⟨hlt, by rw [List.getElem?_eq_getElem hlt, h.1], h.2⟩

theorem I40 (k : Nat) (L : List GPage) (j0 : Nat) (A : List (Gspot × GRow)) (hA : rowsL k L j0 0 = some A) (k0 : Nat) : ISpec Try.prog orc 40 [] [.ptr k0 0] (fun fr => ∃ t e, fr[k0]? = some ⟨e, [.list 4 (L.map cGPage) t]⟩ ∧ Nat.beq e mapE = false ∧ ∀ R ∈ fr, ∀ p ∈ R.cells, NoR fr.length p) (A.map cSR) := by
  intro l r C hC hr J D hJ hY e fr tk H vs hR h0 hv
  obtain ⟨b1, b2, t, e1, b3, b4, _⟩ := hJ 0 fr tk h0
  unfold rowsL at hA
  have hg : (decide ((L.length : Int) < 9223372036854775807) && L.all (fun p => decide ((p.rows.length : Int) < 9223372036854775807))) = true := by
    cases hb : (decide ((L.length : Int) < 9223372036854775807) && L.all (fun p => decide ((p.rows.length : Int) < 9223372036854775807))) with
    | true => rfl
    | false => rw [hb] at hA; cases hA
  rw [hg, cond_true] at hA
  have hA := Option.some.inj hA
  rw [Bool.and_eq_true] at hg
  have hL : (L.length : Int) < 9223372036854775807 := of_decide_eq_true hg.1
  have hrows : ∀ p ∈ L, (p.rows.length : Int) < 9223372036854775807 := fun p hp => of_decide_eq_true (List.all_eq_true.1 hg.2 p hp)
  refine PCY.enter (K := fun p fr' tk' => match p with | none => J (A.map cSR).length fr' tk' | some c => D c fr' tk') Try.func40 rfl rfl rfl (by kernel_rfl) rfl b1 b2 hR hv ?_
  refine PCY.region (POY.of ?_)
  refine PO.same rfl (load_row rfl b3 (by kernel_rfl) rfl b4) rfl ?_
  refine PO.same rfl (len_ok Try.underlying22 rfl (List.length_map _)) rfl ?_
  refine PO.run 1 rfl ?_
  refine PO.nil ?_
  show PCY _ _ _ _ _ _ _ _
  refine PCY.lone ?_
  refine PCY.block ?_
  have wi : ∀ (i : Nat), (i : Int) < 9223372036854775807 → IntKind.i64.wrap ((i : Int) + 1) = ((i + 1 : Nat) : Int) := fun i hi => by
    rw [IntKind.wrap_i64]; omega
  refine PCY.loop (fun j s => ∃ (i n : Nat) (fr' : List PRow) (tk' : List Nat), j + i = L.length ∧ A.drop n = rowsP i (L.drop i) ∧ n ≤ A.length ∧ J n fr' tk' ∧ Weak s (PS.of 37 [(0, .val (.func (.yield l) #[] #[])), (7, .list 4 (L.map cGPage) none), (8, .val (.int .i64 (L.length : Int))), (9, .val (.int .i64 (i : Int)))] fr' tk' fr.length tk.length)) ?_ L.length ⟨0, 0, fr, tk, rfl, by rw [← hA]; rfl, Nat.zero_le _, h0, Weak.tms ⟨⟨_, rfl, .refl _⟩, ⟨_, rfl, .tok _ _ _⟩, ⟨_, rfl, .refl _⟩, ⟨_, rfl, .refl _⟩, trivial⟩⟩
  rintro j s ⟨i, n, fr', tk', hji, hW, hn, hj, hw⟩
  refine PCY.weak hw ?_
  refine PCY.region (POY.of ?_)
  refine PO.run 1 rfl ?_
  refine PO.nil ?_
  show PCY _ _ _ _ _ _ _ _
  refine PCY.cond rfl (fun hb => ?_) (fun hb => ?_)
  · refine PCY.noop ?_
    have hi : (i : Int) < L.length := of_decide_eq_true hb
    obtain ⟨y, hy⟩ : ∃ y, L[i]? = some y := ⟨_, List.getElem?_eq_getElem (by omega)⟩
    have hy' : L[(i : Int).toNat]? = some y := by rw [show (i : Int).toNat = i by omega]; exact hy
    have hd : L.drop i = y :: L.drop (i + 1) := by
      rw [List.drop_eq_getElem_cons (by omega)]
      rw [List.getElem?_eq_getElem (by omega)] at hy
      rw [Option.some.inj hy]
    rw [hd] at hW
    obtain ⟨hlt, hAn, hW2⟩ := drop_cons hW
    have hyr := hrows y (List.mem_of_getElem? hy)
    refine PCY.block ?_
    obtain ⟨q1, q2, t', e1', b3', b4', q3⟩ := hJ n fr' tk' hj
    refine PCY.region (POY.of ?_)
    refine PO.run 1 rfl ?_
    refine PO.same rfl (indexAddr_ok Try.underlying22 rfl rfl rfl (Int.natCast_nonneg _) (map_at hy')) rfl ?_
    refine PO.run 1 rfl ?_
    refine PO.one rfl (alloc_ok (zs := [.int .i64 0, .int .i64 0, .bool false, .slice none 0 0]) rfl rfl) rfl ?_
    refine PO.run 1 rfl ?_
    refine PO.one rfl (store_ok (k := fr'.length) (off := 0) (R := ⟨0, List.map .val [.int .i64 0, .int .i64 0, .bool false, .slice none 0 0]⟩) rfl rfl rfl rfl get_app_new rfl rfl) rfl ?_
    refine PO.weak (Weak.keep (fr' := fr') (es := [(0, .val (.func (.yield l) #[] #[])), (3, .val (.int .i64 (i : Int))), (4, .eptr (cGPage y) 0), (7, .list 4 (L.map cGPage) none), (8, .val (.int .i64 (L.length : Int))), (9, .val (.int .i64 (i : Int)))]) set_new rfl rfl (by show fr.length ≤ fr'.length; rw [(hJ n fr' tk' hj).1, b1]; exact Nat.le_refl _) q3 ⟨⟨_, rfl, rfl⟩, ⟨_, rfl, rfl⟩, ⟨_, rfl, fz_ptr⟩, ⟨_, rfl, rfl⟩, ⟨_, rfl, rfl⟩, ⟨_, rfl, rfl⟩, trivial⟩) ?_
    refine PO.nil ?_
    show PCY _ _ _ _ _ _ _ _
    refine PCY.assoc ?_
    refine PCY.region ?_
    refine POY.cut 4 (fun s1 => Weak s1 (PS.of 37 [(0, .val (.func (.yield l) #[] #[])), (3, .val (.int .i64 (i : Int))), (4, .eptr (cGPage y) 0), (7, .list 4 (L.map cGPage) none), (8, .val (.int .i64 (L.length : Int))), (9, .val (.int .i64 (i : Int))), (14, .val (.func (.yield l) #[] #[])), (16, .agg (cGspot ⟨(i : Int), -1⟩)), (17, .agg (cGRow zRow))] fr' tk' fr.length tk.length)) (PO.run 4 rfl (PO.nil (Weak.tms ⟨⟨_, rfl, .refl _⟩, ⟨_, rfl, .refl _⟩, ⟨_, rfl, .refl _⟩, ⟨_, rfl, .refl _⟩, ⟨_, rfl, .refl _⟩, ⟨_, rfl, .refl _⟩, ⟨_, rfl, .refl _⟩, ⟨_, rfl, .refl _⟩, ⟨_, rfl, Less.aggL (LessL.cons (.refl _) (LessL.cons (.refl _) (LessL.cons (.refl _) (LessL.cons (.nil 10) (LessL.refl _)))))⟩, trivial⟩))) ?_
    intro s1 hw1
    refine POY.weak hw1 ?_
    have hx : (A.map cSR)[n]? = some (cSR (⟨i, -1⟩, zRow)) := by rw [List.getElem?_map, hAn]; rfl
    refine POY.yield hC hr rfl rfl rfl rfl rfl rfl (hY n _ fr' tk' hx hj) ?_
    intro p fr2 tk2 hk
    cases p with
    | some c =>
      show PO _ _ _ _ _ _ _
      refine PO.run 1 rfl ?_
      refine PO.nil ?_
      show PC _ _ _ _ _ _
      refine PC.cond rfl (fun _ => ?_) (fun hb => by cases hb)
      exact PC.ret ⟨trivial, rfl, ⟨_, rfl⟩, hk⟩
    | none =>
      refine POY.of ?_
      refine PO.run 1 rfl ?_
      refine PO.nil ?_
      show PCY _ _ _ _ _ _ _ _
      refine PCY.cond rfl (fun hb => by cases hb) (fun _ => ?_)
      refine PCY.noop ?_
      refine PCY.region (POY.of ?_)
      refine PO.run 2 rfl ?_
      refine PO.same rfl (len_ok Try.underlying36 rfl (List.length_map _)) rfl ?_
      refine PO.run 1 rfl ?_
      refine PO.nil ?_
      show PCY _ _ _ _ _ _ _ _
      refine PCY.lone ?_
      refine PCY.block ?_
      refine PCY.loop (fun j2 s => ∃ (q n2 : Nat) (fr2 : List PRow) (tk2 : List Nat), j2 + q = y.rows.length ∧ A.drop n2 = rowsR i q (y.rows.drop q) (rowsP ((i : Int) + 1) (L.drop (i + 1))) ∧ n2 ≤ A.length ∧ J n2 fr2 tk2 ∧ Weak s (PS.of 37 [(0, .val (.func (.yield l) #[] #[])), (3, .val (.int .i64 (i : Int))), (7, .list 4 (L.map cGPage) none), (8, .val (.int .i64 (L.length : Int))), (9, .val (.int .i64 (i : Int))), (21, .list 4 (y.rows.map cGRow) none), (22, .val (.int .i64 (y.rows.length : Int))), (23, .val (.int .i64 (q : Int)))] fr2 tk2 fr.length tk.length)) ?_ y.rows.length ⟨0, n + 1, fr2, tk2, rfl, hW2, hlt, hk, Weak.tms ⟨⟨_, rfl, .refl _⟩, ⟨_, rfl, .refl _⟩, ⟨_, rfl, .refl _⟩, ⟨_, rfl, .refl _⟩, ⟨_, rfl, .refl _⟩, ⟨_, rfl, .refl _⟩, ⟨_, rfl, .refl _⟩, ⟨_, rfl, .refl _⟩, trivial⟩⟩
      rintro j2 s ⟨q, n2, fr3, tk3, hjq, hV, hn2, hj3, hw3⟩
      refine PCY.weak hw3 ?_
      refine PCY.region (POY.of ?_)
      refine PO.run 1 rfl ?_
      refine PO.nil ?_
      show PCY _ _ _ _ _ _ _ _
      refine PCY.cond rfl (fun hb2 => ?_) (fun hb2 => ?_)
      · refine PCY.noop ?_
        have hq : (q : Int) < y.rows.length := of_decide_eq_true hb2
        obtain ⟨z, hz⟩ : ∃ z, y.rows[q]? = some z := ⟨_, List.getElem?_eq_getElem (by omega)⟩
        have hz' : y.rows[(q : Int).toNat]? = some z := by rw [show (q : Int).toNat = q by omega]; exact hz
        have hdz : y.rows.drop q = z :: y.rows.drop (q + 1) := by
          rw [List.drop_eq_getElem_cons (by omega)]
          rw [List.getElem?_eq_getElem (by omega)] at hz
          rw [Option.some.inj hz]
        rw [hdz] at hV
        obtain ⟨hlt2, hAn2, hV2⟩ := drop_cons hV
        obtain ⟨_, _, _, _, _, _, q6⟩ := hJ n2 fr3 tk3 hj3
        refine PCY.block ?_
        refine PCY.region (POY.of ?_)
        refine PO.run 1 rfl ?_
        refine PO.same rfl (indexAddr_ok Try.underlying36 rfl rfl rfl (Int.natCast_nonneg _) (map_at hz')) rfl ?_
        refine PO.run 1 rfl ?_
        refine PO.one rfl (alloc_ok (zs := [.int .i64 0, .bool false, .bool false, .slice none 0 0]) rfl rfl) rfl ?_
        refine PO.run 1 rfl ?_
        refine PO.one rfl (store_ok (k := fr3.length) (off := 0) (R := ⟨0, List.map .val [.int .i64 0, .bool false, .bool false, .slice none 0 0]⟩) rfl rfl rfl rfl get_app_new rfl rfl) rfl ?_
        refine PO.weak (Weak.keep (fr' := fr3) (es := [(0, .val (.func (.yield l) #[] #[])), (3, .val (.int .i64 (i : Int))), (5, .val (.int .i64 (q : Int))), (6, .eptr (cGRow z) 0), (7, .list 4 (L.map cGPage) none), (8, .val (.int .i64 (L.length : Int))), (9, .val (.int .i64 (i : Int))), (21, .list 4 (y.rows.map cGRow) none), (22, .val (.int .i64 (y.rows.length : Int))), (23, .val (.int .i64 (q : Int)))]) set_new rfl rfl (by show fr.length ≤ fr3.length; rw [(hJ n2 fr3 tk3 hj3).1, b1]; exact Nat.le_refl _) q6 ⟨⟨_, rfl, rfl⟩, ⟨_, rfl, rfl⟩, ⟨_, rfl, rfl⟩, ⟨_, rfl, fz_ptr⟩, ⟨_, rfl, rfl⟩, ⟨_, rfl, rfl⟩, ⟨_, rfl, rfl⟩, ⟨_, rfl, rfl⟩, ⟨_, rfl, rfl⟩, ⟨_, rfl, rfl⟩, trivial⟩) ?_
        refine PO.nil ?_
        show PCY _ _ _ _ _ _ _ _
        refine PCY.region ?_
        refine POY.cut 5 (fun s1 => Weak s1 (PS.of 37 [(0, .val (.func (.yield l) #[] #[])), (3, .val (.int .i64 (i : Int))), (5, .val (.int .i64 (q : Int))), (6, .eptr (cGRow z) 0), (7, .list 4 (L.map cGPage) none), (8, .val (.int .i64 (L.length : Int))), (9, .val (.int .i64 (i : Int))), (21, .list 4 (y.rows.map cGRow) none), (22, .val (.int .i64 (y.rows.length : Int))), (23, .val (.int .i64 (q : Int))), (28, .val (.func (.yield l) #[] #[])), (31, .agg (cGspot ⟨(i : Int), (q : Int)⟩)), (32, .agg (cGRow z))] fr3 tk3 fr.length tk.length)) (PO.run 5 rfl (PO.nil (Weak.tms ⟨⟨_, rfl, .refl _⟩, ⟨_, rfl, .refl _⟩, ⟨_, rfl, .refl _⟩, ⟨_, rfl, .refl _⟩, ⟨_, rfl, .refl _⟩, ⟨_, rfl, .refl _⟩, ⟨_, rfl, .refl _⟩, ⟨_, rfl, .refl _⟩, ⟨_, rfl, .refl _⟩, ⟨_, rfl, .refl _⟩, ⟨_, rfl, .refl _⟩, ⟨_, rfl, .refl _⟩, ⟨_, rfl, .refl _⟩, trivial⟩))) ?_
        intro s1 hw4
        refine POY.weak hw4 ?_
        have hx2 : (A.map cSR)[n2]? = some (cSR (⟨i, q⟩, z)) := by rw [List.getElem?_map, hAn2]; rfl
        refine POY.yield hC hr rfl rfl rfl rfl rfl rfl (hY n2 _ fr3 tk3 hx2 hj3) ?_
        intro p fr4 tk4 hk4
        cases p with
        | some c =>
          show PO _ _ _ _ _ _ _
          refine PO.run 1 rfl ?_
          refine PO.nil ?_
          show PC _ _ _ _ _ _
          refine PC.lone ?_
          refine PC.cond rfl (fun _ => ?_) (fun hb => by cases hb)
          exact PC.ret ⟨trivial, rfl, ⟨_, rfl⟩, hk4⟩
        | none =>
          refine POY.of ?_
          refine PO.run 1 rfl ?_
          refine PO.nil ?_
          show PCY _ _ _ _ _ _ _ _
          refine PCY.lone ?_
          refine PCY.cond rfl (fun hb => by cases hb) (fun _ => ?_)
          refine PCY.noop ?_
          refine PCY.of (PC.skip ?_)
          show PCY _ _ _ _ _ _ _ _
          refine PCY.lone ?_
          refine PCY.region (POY.of ?_)
          refine PO.run 2 rfl ?_
          refine PO.nil ?_
          show PCY _ _ _ _ _ _ _ _
          refine PCY.of (PC.skip ?_)
          refine ⟨j2 - 1, by omega, q + 1, n2 + 1, fr4, tk4, by omega, hV2, hlt2, hk4, ?_⟩
          rw [← wi q (by omega)]
          exact Weak.tms ⟨⟨_, rfl, .refl _⟩, ⟨_, rfl, .refl _⟩, ⟨_, rfl, .refl _⟩, ⟨_, rfl, .refl _⟩, ⟨_, rfl, .refl _⟩, ⟨_, rfl, .refl _⟩, ⟨_, rfl, .refl _⟩, ⟨_, rfl, .refl _⟩, trivial⟩
      · have hq : ¬ (q : Int) < y.rows.length := of_decide_eq_false hb2
        have e0 : y.rows.drop q = [] := List.drop_eq_nil_of_le (by omega)
        rw [e0] at hV
        refine PCY.of (PC.exit ?_)
        refine loopKY.exit (blockKY.here ?_)
        show PCY _ _ _ _ _ _ _ _
        refine PCY.of (PC.skip ?_)
        show PCY _ _ _ _ _ _ _ _
        refine PCY.lone ?_
        refine PCY.region (POY.of ?_)
        refine PO.run 2 rfl ?_
        refine PO.nil ?_
        show PCY _ _ _ _ _ _ _ _
        refine PCY.of (PC.skip ?_)
        refine ⟨j - 1, by omega, i + 1, n2, fr3, tk3, by omega, hV, hn2, hj3, ?_⟩
        rw [← wi i (by omega)]
        exact Weak.tms ⟨⟨_, rfl, .refl _⟩, ⟨_, rfl, .refl _⟩, ⟨_, rfl, .refl _⟩, ⟨_, rfl, .refl _⟩, trivial⟩
  · have hi : ¬ (i : Int) < L.length := of_decide_eq_false hb
    have e0 : L.drop i = [] := List.drop_eq_nil_of_le (by omega)
    rw [e0] at hW
    have hnl : (A.map cSR).length = n := by
      have := congrArg List.length hW
      simp [rowsP] at this
      rw [List.length_map]
      omega
    refine PCY.of (PC.exit ?_)
    refine loopKY.exit (blockKY.here ?_)
    show PCY _ _ _ _ _ _ _ _
    refine PCY.of (PC.skip ⟨trivial, rfl, ⟨_, rfl⟩, ?_⟩)
    show J (A.map cSR).length _ _
    rw [hnl]
    exact hj

/-! 37 platen/runes.Blank -/
def F37 (k : Nat) (a0 : Int) : Option Bool :=
Option.bind (α := Bool) (bif a0 == 32 then (some true) else (Option.bind (α := Bool) (bif a0 == 9 then (some true) else (Option.bind (α := Bool) (bif a0 == 10 then (some true) else (some (a0 == 13))) fun (v3 : Bool) =>
some v3)) fun (v2 : Bool) =>
some v2)) fun (v1 : Bool) =>
some v1
theorem L37 (k : Nat) (a0 : Int) (r : Bool) (hF : F37 k a0 = some r) : PF Try.prog orc 37 [vI a0] [] [] (fun p fr tk=>p = vB r ∧ fr = [] ∧ tk = []):=by
 unfold F37 at hF
 refine PF.enterS Try.func37 rfl rfl rfl (by kernel_rfl) rfl ?_
 refine PC.run (n:=2) rfl ?_
 refine PC.region ?_
 refine PO.run 3 rfl ?_
 refine bindK hF (fun x1 e2 hF=>?_)
 refine PO.cut 11 (fun s=>∃ (v1 : Bool),Weak s (PS.of 17 [(2,vB false),(16,vB v1)] [] [] 0 0) ∧ v1 = x1) ?_ ?_
 ·refine PO.case (t:=5) rfl rfl (fun h3=>?_) (fun h3=>?_)
  ·have e2:=bif_t h3 e2
   refine PO.run 2 rfl ?_
   refine PO.same rfl (pickT_ok rfl rfl rfl) rfl ?_
   refine PO.run 3 rfl ?_
   refine PO.same rfl (pickT_ok rfl rfl rfl) rfl ?_
   refine PO.run 3 rfl ?_
   refine PO.same rfl (pickT_ok rfl rfl rfl) rfl ?_
   refine PO.nil ?_
   exact ⟨true,Weak.one [] [] (by kernel_rfl),Option.some.inj e2⟩
  have e2:=bif_f h3 e2
  refine PO.run 2 rfl ?_
  refine PO.same rfl (pickF_ok rfl rfl rfl) rfl ?_
  refine PO.run 1 rfl ?_
  refine bindK e2 (fun x4 e5 e2=>?_)
  refine PO.cut 7 (fun s=>∃ (v2 : Bool),Weak s (PS.of 17 [(2,vB false),(16,vB v2)] [] [] 0 0) ∧ v2 = x4) ?_ ?_
  ·refine PO.case (t:=9) rfl rfl (fun h6=>?_) (fun h6=>?_)
   ·have e5:=bif_t h6 e5
    refine PO.run 2 rfl ?_
    refine PO.same rfl (pickT_ok rfl rfl rfl) rfl ?_
    refine PO.run 3 rfl ?_
    refine PO.same rfl (pickT_ok rfl rfl rfl) rfl ?_
    refine PO.nil ?_
    exact ⟨true,Weak.one [] [] (by kernel_rfl),Option.some.inj e5⟩
   have e5:=bif_f h6 e5
   refine PO.run 2 rfl ?_
   refine PO.same rfl (pickF_ok rfl rfl rfl) rfl ?_
   refine PO.run 1 rfl ?_
   refine bindK e5 (fun x7 e8 e5=>?_)
   refine PO.cut 3 (fun s=>∃ (v3 : Bool),Weak s (PS.of 17 [(2,vB false),(16,vB v3)] [] [] 0 0) ∧ v3 = x7) ?_ ?_
   ·refine PO.case (t:=13) rfl rfl (fun h9=>?_) (fun h9=>?_)
    ·have e8:=bif_t h9 e8
     refine PO.run 2 rfl ?_
     refine PO.same rfl (pickT_ok rfl rfl rfl) rfl ?_
     refine PO.nil ?_
     exact ⟨true,Weak.one [] [] (by kernel_rfl),Option.some.inj e8⟩
    have e8:=bif_f h9 e8
    refine PO.run 2 rfl ?_
    refine PO.same rfl (pickF_ok rfl rfl rfl) rfl ?_
    refine PO.nil ?_
    exact ⟨a0 == 13,Weak.one [] [] (by kernel_rfl),Option.some.inj e8⟩
   rintro _ ⟨v3,w10,rfl⟩
   refine PO.weak w10 ?_
   refine PO.nil ?_
   exact ⟨v3,Weak.one [] [] (by kernel_rfl),Option.some.inj e5⟩
  rintro _ ⟨v2,w11,rfl⟩
  refine PO.weak w11 ?_
  refine PO.nil ?_
  exact ⟨v2,Weak.one [] [] (by kernel_rfl),Option.some.inj e2⟩
 rintro _ ⟨v1,w12,rfl⟩
 refine PO.weak w12 ?_
 refine PO.run 1 rfl ?_
 refine PO.nil ?_
 have hq:=Option.some.inj hF
 subst hq
 exact PC.ret' (retSK [] [] (by kernel_rfl) (.refl _) ⟨rfl,rfl,rfl⟩)

/-! 25 platen/judge.quiet -/
def F25 (k : Nat) (a0 : GChar) : Option Bool :=
(F37 k a0.rune).bind fun r1 =>
Option.bind (α := Bool) (bif r1 then (some true) else (Option.bind (α := Bool) (bif a0.rune == 160 then (some true) else (some (a0.rune == 173))) fun (v2 : Bool) =>
some v2)) fun (v1 : Bool) =>
some v1
theorem L25 (k : Nat) (a0 : GChar) (r : Bool) (hF : F25 k a0 = some r) : PF Try.prog orc 25 [.agg (cGChar a0)] [] [] (fun p fr tk=>p = vB r ∧ fr = [] ∧ tk = []):=by
 unfold F25 at hF
 refine PF.enterS Try.func25 rfl rfl rfl (by kernel_rfl) rfl ?_
 refine PC.region ?_
 refine oK 2 [0] [] [(1,vP 0),(2,vB false)] [⟨0,(cGChar a0)⟩] [] (by kernel_rfl) ?_
 refine PO.nil ?_
 refine PC.region ?_
 refine PO.run 2 rfl ?_
 refine bindK hF (fun r1 e2 hF=>?_)
 refine PO.call rfl rfl rfl rfl (ks:=[]) (ts:=[]) (fr1:=[]) rfl rfl rfl trivial (L37 k a0.rune _ e2) ?_
 rintro _ _ _ ⟨rfl,rfl,rfl⟩
 refine ⟨_,_,rfl,rfl,?_⟩
 refine PO.run 1 rfl ?_
 refine bindK hF (fun x3 e4 hF=>?_)
 refine PO.cut 9 (fun s=>∃ (v1 : Bool),Weak s (PS.of 16 [(2,vB false),(15,vB v1)] [] [] 0 0) ∧ v1 = x3) ?_ ?_
 ·refine PO.case (t:=6) rfl rfl (fun h5=>?_) (fun h5=>?_)
  ·have e4:=bif_t h5 e4
   refine PO.run 3 rfl ?_
   refine PO.same rfl (pickT_ok rfl rfl rfl) rfl ?_
   refine PO.run 4 rfl ?_
   refine PO.same rfl (pickT_ok rfl rfl rfl) rfl ?_
   refine PO.nil ?_
   exact ⟨true,Weak.one [] [] (by kernel_rfl),Option.some.inj e4⟩
  have e4:=bif_f h5 e4
  refine PO.run 3 rfl ?_
  refine PO.same rfl (pickF_ok rfl rfl rfl) rfl ?_
  refine PO.run 1 rfl ?_
  refine bindK e4 (fun x6 e7 e4=>?_)
  refine PO.cut 4 (fun s=>∃ (v2 : Bool),Weak s (PS.of 16 [(2,vB false),(15,vB v2)] [] [] 0 0) ∧ v2 = x6) ?_ ?_
  ·refine PO.case (t:=11) rfl rfl (fun h8=>?_) (fun h8=>?_)
   ·have e7:=bif_t h8 e7
    refine PO.run 3 rfl ?_
    refine PO.same rfl (pickT_ok rfl rfl rfl) rfl ?_
    refine PO.nil ?_
    exact ⟨true,Weak.one [] [] (by kernel_rfl),Option.some.inj e7⟩
   have e7:=bif_f h8 e7
   refine PO.run 3 rfl ?_
   refine PO.same rfl (pickF_ok rfl rfl rfl) rfl ?_
   refine PO.nil ?_
   exact ⟨a0.rune == 173,Weak.one [] [] (by kernel_rfl),Option.some.inj e7⟩
  rintro _ ⟨v2,w9,rfl⟩
  refine PO.weak w9 ?_
  refine PO.nil ?_
  exact ⟨v2,Weak.one [] [] (by kernel_rfl),Option.some.inj e4⟩
 rintro _ ⟨v1,w10,rfl⟩
 refine PO.weak w10 ?_
 refine PO.run 1 rfl ?_
 refine PO.nil ?_
 have hq:=Option.some.inj hF
 subst hq
 exact PC.ret' (retSK [] [] (by kernel_rfl) (.refl _) ⟨rfl,rfl,rfl⟩)

/-! 27 platen/judge.rows -/
def F27 (k : Nat) (a0 : List GPage) : Option (List GPage) :=
some a0
theorem L27 (k : Nat) (a0 : List GPage) (r : List GPage) (hF : F27 k a0 = some r) : PF Try.prog orc 27 [.list 4 (List.map cGPage a0) none] [] [] (fun p fr tk=>p = .fn 40 [] [vP 0] ∧ fr = [⟨0,[.list 4 (List.map cGPage r) none]⟩] ∧ tk = []):=by
 unfold F27 at hF
 refine PF.enterS Try.func27 rfl rfl rfl (by kernel_rfl) rfl ?_
 refine PC.region ?_
 refine oK 2 [0] [] [(1,vP 0),(2,.val .nilFunc)] [⟨0,[.list 4 (List.map cGPage a0) none]⟩] [] (by kernel_rfl) ?_
 refine PO.nil ?_
 refine PC.run (n:=3) rfl ?_
 have hq:=Option.some.inj hF
 subst hq
 exact PC.ret' (retSK [0] [] (by kernel_rfl) (.refl _) ⟨rfl,rfl,rfl⟩)

/-! 60 platen/judge.below -/
def F60 (k : Nat) (a0 : Int) (a1 : Int) (a2 : Int) : Option Bool :=
Option.bind (α := Bool) (bif decide (a0 ≥ 0) then (Option.bind (α := Bool) (bif decide (a1 < 0) then (some (decide ((w (a0 - a1)) < 0))) else (some false)) fun (v2 : Bool) =>
some v2) else (some false)) fun (v1 : Bool) =>
bif v1 then (some false) else (Option.bind (α := Bool) (bif decide (a0 < 0) then (Option.bind (α := Bool) (bif decide (a1 > 0) then (some (decide ((w (a0 - a1)) ≥ 0))) else (some false)) fun (v4 : Bool) =>
some v4) else (some false)) fun (v3 : Bool) =>
bif v3 then (some true) else (some (decide ((w (a0 - a1)) < a2))))
theorem L60 (k : Nat) (a0 : Int) (a1 : Int) (a2 : Int) (r : Bool) (hF : F60 k a0 a1 a2 = some r) : PF Try.prog orc 60 [vI a0,vI a1,vI a2] [] [] (fun p fr tk=>p = vB r ∧ fr = [] ∧ tk = []):=by
 unfold F60 at hF
 refine PF.enterS Try.func60 rfl rfl rfl (by kernel_rfl) rfl ?_
 refine PC.run (n:=2) rfl ?_
 refine PC.run (n:=5) rfl ?_
 refine PC.block ?_
 refine PC.region ?_
 refine PO.run 3 rfl ?_
 refine bindK hF (fun x1 e2 hF=>?_)
 refine PO.cut 7 (fun s=>∃ (v1 : Bool),Weak s (PS.of 36 [(0,vI a0),(1,vI a1),(2,vI a2),(6,vB false),(7,vI (w (a0 - a1))),(21,vB v1)] [] [] 0 0) ∧ v1 = x1) ?_ ?_
 ·refine PO.case (t:=14) rfl rfl (fun h3=>?_) (fun h3=>?_)
  ·have e2:=bif_t h3 e2
   refine PO.run 2 rfl ?_
   refine PO.same rfl (pickT_ok rfl rfl rfl) rfl ?_
   refine PO.run 1 rfl ?_
   refine bindK e2 (fun x4 e5 e2=>?_)
   refine PO.cut 3 (fun s=>∃ (v2 : Bool),Weak s (PS.of 36 [(0,vI a0),(1,vI a1),(2,vI a2),(6,vB false),(7,vI (w (a0 - a1))),(21,vB v2)] [] [] 0 0) ∧ v2 = x4) ?_ ?_
   ·refine PO.case (t:=18) rfl rfl (fun h6=>?_) (fun h6=>?_)
    ·have e5:=bif_t h6 e5
     refine PO.run 2 rfl ?_
     refine PO.same rfl (pickT_ok rfl rfl rfl) rfl ?_
     refine PO.nil ?_
     exact ⟨decide ((w (a0 - a1)) < 0),Weak.one [] [] (by kernel_rfl),Option.some.inj e5⟩
    have e5:=bif_f h6 e5
    refine PO.run 2 rfl ?_
    refine PO.same rfl (pickF_ok rfl rfl rfl) rfl ?_
    refine PO.nil ?_
    exact ⟨false,Weak.one [] [] (by kernel_rfl),Option.some.inj e5⟩
   rintro _ ⟨v2,w7,rfl⟩
   refine PO.weak w7 ?_
   refine PO.nil ?_
   exact ⟨v2,Weak.one [] [] (by kernel_rfl),Option.some.inj e2⟩
  have e2:=bif_f h3 e2
  refine PO.run 2 rfl ?_
  refine PO.same rfl (pickF_ok rfl rfl rfl) rfl ?_
  refine PO.run 3 rfl ?_
  refine PO.same rfl (pickF_ok rfl rfl rfl) rfl ?_
  refine PO.nil ?_
  exact ⟨false,Weak.one [] [] (by kernel_rfl),Option.some.inj e2⟩
 rintro _ ⟨v1,w8,rfl⟩
 refine PO.weak w8 ?_
 refine PO.run 1 rfl ?_
 refine PO.nil ?_
 refine PC.lone ?_
 refine PC.cond rfl (fun h9=>?_) (fun h9=>?_)
 ·have hF:=bif_t h9 hF
  refine PC.assoc ?_
  refine PC.run (n:=2) rfl ?_
  have hq:=Option.some.inj hF
  subst hq
  exact PC.ret (blockKP.back (retSK [] [] (by kernel_rfl) (.refl _) ⟨rfl,rfl,rfl⟩))
 have hF:=bif_f h9 hF
 refine PC.assoc ?_
 refine PC.region ?_
 refine PO.run 3 rfl ?_
 refine bindK hF (fun x10 e11 hF=>?_)
 refine PO.cut 7 (fun s=>∃ (v3 : Bool),Weak s (PS.of 36 [(2,vI a2),(6,vB false),(7,vI (w (a0 - a1))),(32,vB v3)] [] [] 0 0) ∧ v3 = x10) ?_ ?_
 ·refine PO.case (t:=25) rfl rfl (fun h12=>?_) (fun h12=>?_)
  ·have e11:=bif_t h12 e11
   refine PO.run 2 rfl ?_
   refine PO.same rfl (pickT_ok rfl rfl rfl) rfl ?_
   refine PO.run 1 rfl ?_
   refine bindK e11 (fun x13 e14 e11=>?_)
   refine PO.cut 3 (fun s=>∃ (v4 : Bool),Weak s (PS.of 36 [(2,vI a2),(6,vB false),(7,vI (w (a0 - a1))),(32,vB v4)] [] [] 0 0) ∧ v4 = x13) ?_ ?_
   ·refine PO.case (t:=29) rfl rfl (fun h15=>?_) (fun h15=>?_)
    ·have e14:=bif_t h15 e14
     refine PO.run 2 rfl ?_
     refine PO.same rfl (pickT_ok rfl rfl rfl) rfl ?_
     refine PO.nil ?_
     exact ⟨decide ((w (a0 - a1)) ≥ 0),Weak.one [] [] (by kernel_rfl),Option.some.inj e14⟩
    have e14:=bif_f h15 e14
    refine PO.run 2 rfl ?_
    refine PO.same rfl (pickF_ok rfl rfl rfl) rfl ?_
    refine PO.nil ?_
    exact ⟨false,Weak.one [] [] (by kernel_rfl),Option.some.inj e14⟩
   rintro _ ⟨v4,w16,rfl⟩
   refine PO.weak w16 ?_
   refine PO.nil ?_
   exact ⟨v4,Weak.one [] [] (by kernel_rfl),Option.some.inj e11⟩
  have e11:=bif_f h12 e11
  refine PO.run 2 rfl ?_
  refine PO.same rfl (pickF_ok rfl rfl rfl) rfl ?_
  refine PO.run 3 rfl ?_
  refine PO.same rfl (pickF_ok rfl rfl rfl) rfl ?_
  refine PO.nil ?_
  exact ⟨false,Weak.one [] [] (by kernel_rfl),Option.some.inj e11⟩
 rintro _ ⟨v3,w17,rfl⟩
 refine PO.weak w17 ?_
 refine PO.run 1 rfl ?_
 refine PO.nil ?_
 refine PC.cond rfl (fun h18=>?_) (fun h18=>?_)
 ·have hF:=bif_t h18 hF
  refine PC.assoc ?_
  refine PC.run (n:=2) rfl ?_
  have hq:=Option.some.inj hF
  subst hq
  exact PC.ret (blockKP.back (retSK [] [] (by kernel_rfl) (.refl _) ⟨rfl,rfl,rfl⟩))
 have hF:=bif_f h18 hF
 refine PC.noop ?_
 refine PC.skip (blockKP.end ?_)
 refine PC.run (n:=5) rfl ?_
 have hq:=Option.some.inj hF
 subst hq
 exact PC.ret' (retSK [] [] (by kernel_rfl) (.refl _) ⟨rfl,rfl,rfl⟩)

/-! 42 platen/judge.above -/
def F42 (k : Nat) (a0 : Int) (a1 : Int) (a2 : Int) : Option Bool :=
Option.bind (α := Bool) (bif decide (a0 ≥ 0) then (Option.bind (α := Bool) (bif decide (a1 ≥ 0) then (some (decide ((w (a0 + a1)) < 0))) else (some false)) fun (v2 : Bool) =>
some v2) else (some false)) fun (v1 : Bool) =>
bif v1 then (some true) else (Option.bind (α := Bool) (bif decide (a0 < 0) then (Option.bind (α := Bool) (bif decide (a1 < 0) then (some (decide ((w (a0 + a1)) ≥ 0))) else (some false)) fun (v4 : Bool) =>
some v4) else (some false)) fun (v3 : Bool) =>
bif v3 then (some false) else (some (decide ((w (a0 + a1)) > a2))))
theorem L42 (k : Nat) (a0 : Int) (a1 : Int) (a2 : Int) (r : Bool) (hF : F42 k a0 a1 a2 = some r) : PF Try.prog orc 42 [vI a0,vI a1,vI a2] [] [] (fun p fr tk=>p = vB r ∧ fr = [] ∧ tk = []):=by
 unfold F42 at hF
 refine PF.enterS Try.func42 rfl rfl rfl (by kernel_rfl) rfl ?_
 refine PC.run (n:=2) rfl ?_
 refine PC.run (n:=5) rfl ?_
 refine PC.block ?_
 refine PC.region ?_
 refine PO.run 3 rfl ?_
 refine bindK hF (fun x1 e2 hF=>?_)
 refine PO.cut 7 (fun s=>∃ (v1 : Bool),Weak s (PS.of 36 [(0,vI a0),(1,vI a1),(2,vI a2),(6,vB false),(7,vI (w (a0 + a1))),(21,vB v1)] [] [] 0 0) ∧ v1 = x1) ?_ ?_
 ·refine PO.case (t:=14) rfl rfl (fun h3=>?_) (fun h3=>?_)
  ·have e2:=bif_t h3 e2
   refine PO.run 2 rfl ?_
   refine PO.same rfl (pickT_ok rfl rfl rfl) rfl ?_
   refine PO.run 1 rfl ?_
   refine bindK e2 (fun x4 e5 e2=>?_)
   refine PO.cut 3 (fun s=>∃ (v2 : Bool),Weak s (PS.of 36 [(0,vI a0),(1,vI a1),(2,vI a2),(6,vB false),(7,vI (w (a0 + a1))),(21,vB v2)] [] [] 0 0) ∧ v2 = x4) ?_ ?_
   ·refine PO.case (t:=18) rfl rfl (fun h6=>?_) (fun h6=>?_)
    ·have e5:=bif_t h6 e5
     refine PO.run 2 rfl ?_
     refine PO.same rfl (pickT_ok rfl rfl rfl) rfl ?_
     refine PO.nil ?_
     exact ⟨decide ((w (a0 + a1)) < 0),Weak.one [] [] (by kernel_rfl),Option.some.inj e5⟩
    have e5:=bif_f h6 e5
    refine PO.run 2 rfl ?_
    refine PO.same rfl (pickF_ok rfl rfl rfl) rfl ?_
    refine PO.nil ?_
    exact ⟨false,Weak.one [] [] (by kernel_rfl),Option.some.inj e5⟩
   rintro _ ⟨v2,w7,rfl⟩
   refine PO.weak w7 ?_
   refine PO.nil ?_
   exact ⟨v2,Weak.one [] [] (by kernel_rfl),Option.some.inj e2⟩
  have e2:=bif_f h3 e2
  refine PO.run 2 rfl ?_
  refine PO.same rfl (pickF_ok rfl rfl rfl) rfl ?_
  refine PO.run 3 rfl ?_
  refine PO.same rfl (pickF_ok rfl rfl rfl) rfl ?_
  refine PO.nil ?_
  exact ⟨false,Weak.one [] [] (by kernel_rfl),Option.some.inj e2⟩
 rintro _ ⟨v1,w8,rfl⟩
 refine PO.weak w8 ?_
 refine PO.run 1 rfl ?_
 refine PO.nil ?_
 refine PC.lone ?_
 refine PC.cond rfl (fun h9=>?_) (fun h9=>?_)
 ·have hF:=bif_t h9 hF
  refine PC.assoc ?_
  refine PC.run (n:=2) rfl ?_
  have hq:=Option.some.inj hF
  subst hq
  exact PC.ret (blockKP.back (retSK [] [] (by kernel_rfl) (.refl _) ⟨rfl,rfl,rfl⟩))
 have hF:=bif_f h9 hF
 refine PC.assoc ?_
 refine PC.region ?_
 refine PO.run 3 rfl ?_
 refine bindK hF (fun x10 e11 hF=>?_)
 refine PO.cut 7 (fun s=>∃ (v3 : Bool),Weak s (PS.of 36 [(2,vI a2),(6,vB false),(7,vI (w (a0 + a1))),(32,vB v3)] [] [] 0 0) ∧ v3 = x10) ?_ ?_
 ·refine PO.case (t:=25) rfl rfl (fun h12=>?_) (fun h12=>?_)
  ·have e11:=bif_t h12 e11
   refine PO.run 2 rfl ?_
   refine PO.same rfl (pickT_ok rfl rfl rfl) rfl ?_
   refine PO.run 1 rfl ?_
   refine bindK e11 (fun x13 e14 e11=>?_)
   refine PO.cut 3 (fun s=>∃ (v4 : Bool),Weak s (PS.of 36 [(2,vI a2),(6,vB false),(7,vI (w (a0 + a1))),(32,vB v4)] [] [] 0 0) ∧ v4 = x13) ?_ ?_
   ·refine PO.case (t:=29) rfl rfl (fun h15=>?_) (fun h15=>?_)
    ·have e14:=bif_t h15 e14
     refine PO.run 2 rfl ?_
     refine PO.same rfl (pickT_ok rfl rfl rfl) rfl ?_
     refine PO.nil ?_
     exact ⟨decide ((w (a0 + a1)) ≥ 0),Weak.one [] [] (by kernel_rfl),Option.some.inj e14⟩
    have e14:=bif_f h15 e14
    refine PO.run 2 rfl ?_
    refine PO.same rfl (pickF_ok rfl rfl rfl) rfl ?_
    refine PO.nil ?_
    exact ⟨false,Weak.one [] [] (by kernel_rfl),Option.some.inj e14⟩
   rintro _ ⟨v4,w16,rfl⟩
   refine PO.weak w16 ?_
   refine PO.nil ?_
   exact ⟨v4,Weak.one [] [] (by kernel_rfl),Option.some.inj e11⟩
  have e11:=bif_f h12 e11
  refine PO.run 2 rfl ?_
  refine PO.same rfl (pickF_ok rfl rfl rfl) rfl ?_
  refine PO.run 3 rfl ?_
  refine PO.same rfl (pickF_ok rfl rfl rfl) rfl ?_
  refine PO.nil ?_
  exact ⟨false,Weak.one [] [] (by kernel_rfl),Option.some.inj e11⟩
 rintro _ ⟨v3,w17,rfl⟩
 refine PO.weak w17 ?_
 refine PO.run 1 rfl ?_
 refine PO.nil ?_
 refine PC.cond rfl (fun h18=>?_) (fun h18=>?_)
 ·have hF:=bif_t h18 hF
  refine PC.assoc ?_
  refine PC.run (n:=2) rfl ?_
  have hq:=Option.some.inj hF
  subst hq
  exact PC.ret (blockKP.back (retSK [] [] (by kernel_rfl) (.refl _) ⟨rfl,rfl,rfl⟩))
 have hF:=bif_f h18 hF
 refine PC.noop ?_
 refine PC.skip (blockKP.end ?_)
 refine PC.run (n:=5) rfl ?_
 have hq:=Option.some.inj hF
 subst hq
 exact PC.ret' (retSK [] [] (by kernel_rfl) (.refl _) ⟨rfl,rfl,rfl⟩)

/-! 41 platen/judge.high -/
def F41 (k : Nat) (a0 : GBox) (a1 : GPage) : Option Bool :=
(F60 k a0.y a0.height 0).bind fun r1 =>
Option.bind (α := Bool) (bif r1 then (some true) else ((F42 k a0.y a0.depth a1.height).bind fun r6 =>
some r6)) fun (v1 : Bool) =>
some v1
theorem L41 (k : Nat) (a0 : GBox) (a1 : GPage) (r : Bool) (hF : F41 k a0 a1 = some r) : PF Try.prog orc 41 [.agg (cGBox a0),.agg (cGPage a1)] [] [] (fun p fr tk=>p = vB r ∧ fr = [] ∧ tk = []):=by
 unfold F41 at hF
 refine PF.enterS Try.func41 rfl rfl rfl (by kernel_rfl) rfl ?_
 refine PC.region ?_
 refine oK 3 [0,1] [] [(2,vP 0),(3,vP 1),(4,vB false)] [⟨0,(cGBox a0)⟩,⟨0,(cGPage a1)⟩] [] (by kernel_rfl) ?_
 refine PO.nil ?_
 refine PC.region ?_
 refine PO.run 4 rfl ?_
 refine bindK hF (fun r1 e2 hF=>?_)
 refine PO.call rfl rfl rfl rfl (ks:=[]) (ts:=[]) (fr1:=[]) rfl rfl rfl trivial (L60 k a0.y a0.height 0 _ e2) ?_
 rintro _ _ _ ⟨rfl,rfl,rfl⟩
 refine ⟨_,_,rfl,rfl,?_⟩
 refine PO.run 1 rfl ?_
 refine bindK hF (fun x3 e4 hF=>?_)
 refine PO.cut 8 (fun s=>∃ (v1 : Bool),Weak s (PS.of 19 [(4,vB false),(18,vB v1)] [] [] 0 0) ∧ v1 = x3) ?_ ?_
 ·refine PO.case (t:=10) rfl rfl (fun h5=>?_) (fun h5=>?_)
  ·have e4:=bif_t h5 e4
   refine PO.run 7 rfl ?_
   refine PO.same rfl (pickT_ok rfl rfl rfl) rfl ?_
   refine PO.nil ?_
   exact ⟨true,Weak.one [] [] (by kernel_rfl),Option.some.inj e4⟩
  have e4:=bif_f h5 e4
  refine PO.run 6 rfl ?_
  refine bindK e4 (fun r6 e7 e4=>?_)
  refine PO.call rfl rfl rfl rfl (ks:=[]) (ts:=[]) (fr1:=[]) rfl rfl rfl trivial (L42 k a0.y a0.depth a1.height _ e7) ?_
  rintro _ _ _ ⟨rfl,rfl,rfl⟩
  refine ⟨_,_,rfl,rfl,?_⟩
  refine PO.same rfl (pickF_ok rfl rfl rfl) rfl ?_
  refine PO.nil ?_
  exact ⟨r6,Weak.one [] [] (by kernel_rfl),Option.some.inj e4⟩
 rintro _ ⟨v1,w8,rfl⟩
 refine PO.weak w8 ?_
 refine PO.run 1 rfl ?_
 refine PO.nil ?_
 have hq:=Option.some.inj hF
 subst hq
 exact PC.ret' (retSK [] [] (by kernel_rfl) (.refl _) ⟨rfl,rfl,rfl⟩)

/-! 29 platen/judge.page -/
def F29_l2 (k : Nat) (a0 : GPage) (y4 : GRow) : Nat → Int → Option ((Unit) ⊕ ((Unit) ⊕ ((Unit) ⊕ (Bool))))
  | 0, _ => none
  | j12 + 1, v6 =>
    bif decide (v6 < (y4.boxes.length : Int)) then (bindI y4.boxes v6 fun y8 =>
    (F41 k y8 a0).bind fun r17 =>
    bif r17 then (some (.inr (.inr (.inr false)))) else (F29_l2 k a0 y4 j12 (w (v6 + 1)))) else (some (.inl ()))
def F29_l1 (k : Nat) (a0 : GPage) : Nat → Int → Option ((Unit) ⊕ (Bool))
  | 0, _ => none
  | j3 + 1, v2 =>
    bif decide (v2 < (a0.rows.length : Int)) then (Option.bind (α := (Unit) ⊕ ((Unit) ⊕ (Bool))) (bindI a0.rows v2 fun y4 =>
    Option.bind (α := (Unit) ⊕ ((Unit) ⊕ ((Unit) ⊕ (Bool)))) (F29_l2 k a0 y4 k 0) (Sum.elim (fun (_ : Unit) =>
    some (.inl ())) some)) (Sum.elim (fun (_ : Unit) =>
    F29_l1 k a0 j3 (w (v2 + 1))) some)) else (some (.inl ()))
def F29 (k : Nat) (a0 : GPage) : Option Bool :=
Option.bind (α := (Unit) ⊕ (Bool)) (F29_l1 k a0 k 0) (Sum.elim (fun (_ : Unit) =>
some a0.over_) some)
theorem L29 (k : Nat) (a0 : GPage) (r : Bool) (hF : F29 k a0 = some r) : PF Try.prog orc 29 [.agg (cGPage a0)] [] [] (fun p fr tk=>p = vB r ∧ fr = [] ∧ tk = []):=by
 unfold F29 at hF
 refine PF.enterS Try.func29 rfl rfl rfl (by kernel_rfl) rfl ?_
 refine PC.region ?_
 refine oK 2 [0] [] [(1,vP 0),(2,vB false)] [⟨0,(cGPage a0)⟩] [] (by kernel_rfl) ?_
 refine PO.nil ?_
 refine PC.assoc ?_
 refine PC.region ?_
 refine PO.run 2 rfl ?_
 refine PO.same rfl (len_ok Try.underlying36 rfl (List.length_map _)) rfl ?_
 refine PO.run 1 rfl ?_
 refine PO.nil ?_
 refine bindK hF (fun x1 e2 hF=>?_)
 refine PC.blockJ (fun s=>Weak s (PS.of 28 [(1,vP 0),(2,vB false)] [⟨0,(cGPage a0)⟩] [] 0 0) ∧ .inl () = x1) ?_ ?_
 ·refine PC.loop (fun j3 s=>∃ (v2 : Int),Weak s (PS.of 28 [(1,vP 0),(2,vB false),(8,.list 4 (List.map cGRow a0.rows) none),(9,vI (a0.rows.length : Int)),(10,vI v2)] [⟨0,(cGPage a0)⟩] [] 0 0) ∧ F29_l1 k a0 j3 v2 = some x1) (fun j3 s=>?_) k ⟨0,Weak.one [0] [] (by kernel_rfl),e2⟩
  rintro ⟨v2,w4,e2⟩
  refine PC.weak w4 ?_
  obtain _ | j3:=j3
  · rw [F29_l1] at e2; cases e2
  rw [F29_l1] at e2
  refine PC.run (n:=2) rfl ?_
  refine PC.cond rfl (fun h5=>?_) (fun h5=>?_)
  ·have e2:=bif_t h5 e2
   refine PC.noop ?_
   refine bindK e2 (fun x6 e7 e2=>?_)
   refine PC.blockJ (fun s=>Weak s (PS.of 28 [(1,vP 0),(2,vB false),(8,.list 4 (List.map cGRow a0.rows) none),(9,vI (a0.rows.length : Int)),(10,vI v2)] [⟨0,(cGPage a0)⟩] [] 0 0) ∧ .inl () = x6) ?_ ?_
   ·refine PC.region ?_
    refine bindIK e7 (fun y4 h8 h9 e7=>?_)
    refine PO.same rfl (indexAddr_ok Try.underlying36 rfl rfl rfl h8 (map_at h9)) rfl ?_
    refine oK 3 [0,1] [] [(1,vP 0),(2,vB false),(4,vP 1),(8,.list 4 (List.map cGRow a0.rows) none),(9,vI (a0.rows.length : Int)),(10,vI v2)] [⟨0,(cGPage a0)⟩,⟨0,(cGRow y4)⟩] [] (by kernel_rfl) ?_
    refine PO.nil ?_
    refine PC.region ?_
    refine PO.run 2 rfl ?_
    refine PO.same rfl (len_ok Try.underlying39 rfl (List.length_map _)) rfl ?_
    refine PO.run 1 rfl ?_
    refine PO.nil ?_
    refine PC.lone ?_
    refine bindK e7 (fun x10 e11 e7=>?_)
    refine PC.blockJ (fun s=>Weak s (PS.of 28 [(1,vP 0),(2,vB false),(8,.list 4 (List.map cGRow a0.rows) none),(9,vI (a0.rows.length : Int)),(10,vI v2)] [⟨0,(cGPage a0)⟩] [] 0 0) ∧ .inl () = x10) ?_ ?_
    ·refine PC.loop (fun j12 s=>∃ (v6 : Int),Weak s (PS.of 28 [(1,vP 0),(2,vB false),(8,.list 4 (List.map cGRow a0.rows) none),(9,vI (a0.rows.length : Int)),(10,vI v2),(15,.list 10 (List.map cGBox y4.boxes) none),(16,vI (y4.boxes.length : Int)),(17,vI v6)] [⟨0,(cGPage a0)⟩] [] 0 0) ∧ F29_l2 k a0 y4 j12 v6 = some x10) (fun j12 s=>?_) k ⟨0,Weak.one [0] [] (by kernel_rfl),e11⟩
     rintro ⟨v6,w13,e11⟩
     refine PC.weak w13 ?_
     obtain _ | j12:=j12
     · rw [F29_l2] at e11; cases e11
     rw [F29_l2] at e11
     refine PC.run (n:=2) rfl ?_
     refine PC.cond rfl (fun h14=>?_) (fun h14=>?_)
     ·have e11:=bif_t h14 e11
      refine PC.noop ?_
      refine PC.block ?_
      refine PC.region ?_
      refine bindIK e11 (fun y8 h15 h16 e11=>?_)
      refine PO.same rfl (indexAddr_ok Try.underlying39 rfl rfl rfl h15 (map_at h16)) rfl ?_
      refine oK 3 [0,1] [] [(1,vP 0),(2,vB false),(6,vP 1),(8,.list 4 (List.map cGRow a0.rows) none),(9,vI (a0.rows.length : Int)),(10,vI v2),(15,.list 10 (List.map cGBox y4.boxes) none),(16,vI (y4.boxes.length : Int)),(17,vI v6)] [⟨0,(cGPage a0)⟩,⟨0,(cGBox y8)⟩] [] (by kernel_rfl) ?_
      refine PO.nil ?_
      refine PC.region ?_
      refine PO.run 2 rfl ?_
      refine bindK e11 (fun r17 e18 e11=>?_)
      refine PO.call rfl rfl rfl rfl (ks:=[]) (ts:=[]) (fr1:=[]) rfl rfl rfl trivial (L41 k y8 a0 _ e18) ?_
      rintro _ _ _ ⟨rfl,rfl,rfl⟩
      refine ⟨_,_,rfl,rfl,?_⟩
      refine PO.nil ?_
      refine PC.lone ?_
      refine PC.cond rfl (fun h19=>?_) (fun h19=>?_)
      ·have e11:=bif_t h19 e11
       refine PC.assoc ?_
       refine PC.run (n:=2) rfl ?_
       have hq:=Option.some.inj e11
       subst hq
       have hq:=Option.some.inj e7
       subst hq
       have hq:=Option.some.inj e2
       subst hq
       have hq:=Option.some.inj hF
       subst hq
       exact PC.ret (blockKP.back (loopKP.ret (blockJK.back (blockJK.back (loopKP.ret (blockJK.back (retSK [] [] (by kernel_rfl) (.refl _) ⟨rfl,rfl,rfl⟩)))))))
      have e11:=bif_f h19 e11
      refine PC.noop ?_
      refine PC.skip (blockKP.end ?_)
      refine PC.lone ?_
      refine PC.run (n:=3) rfl ?_
      exact PC.skip (loopKP.mk (Nat.lt_succ_self _) ⟨w (v6 + 1),Weak.one [0] [] (by kernel_rfl),e11⟩)
     have e11:=bif_f h14 e11
     exact PC.exit (loopKP.exit (blockJK.here ⟨Weak.one [0] [] (by kernel_rfl),Option.some.inj e11⟩))
    rintro _ ⟨w20,rfl⟩
    refine PC.weak w20 ?_
    have e7:=elim_l e7
    exact PC.skip (blockJK.end ⟨Weak.one [0] [] (by kernel_rfl),Option.some.inj e7⟩)
   rintro _ ⟨w21,rfl⟩
   refine PC.weak w21 ?_
   have e2:=elim_l e2
   refine PC.lone ?_
   refine PC.run (n:=3) rfl ?_
   exact PC.skip (loopKP.mk (Nat.lt_succ_self _) ⟨w (v2 + 1),Weak.one [0] [] (by kernel_rfl),e2⟩)
  have e2:=bif_f h5 e2
  exact PC.exit (loopKP.exit (blockJK.here ⟨Weak.one [0] [] (by kernel_rfl),Option.some.inj e2⟩))
 rintro _ ⟨w22,rfl⟩
 refine PC.weak w22 ?_
 have hF:=elim_l hF
 refine PC.run (n:=4) rfl ?_
 have hq:=Option.some.inj hF
 subst hq
 exact PC.ret' (retSK [] [] (by kernel_rfl) (.refl _) ⟨rfl,rfl,rfl⟩)

/-! 28_s (*platen/judge.bench).found -/
def F28_s (k : Nat) (a0 : Gspot) (a1 : Bool) (a2 : Int) (a3 : List Gspot) (a4 : List Int) (a5 : List GChar) (a6 : List Int) (a7 : Int) (a8 : List GWrong) : Option ((List Gspot) × (List Int) × (List GChar) × (List Int) × Int × (List GWrong)) :=
Option.bind (α := List GWrong) (bif a1 then (bindA 24 a8 ([(GWrong.mk a0.page a0.row a2)]) fun l2 =>
some l2) else (some a8)) fun (v1 : List GWrong) =>
some (a3, a4, a5, a6, a7, v1)
theorem L28_s (k : Nat) (a0 : Gspot) (a1 : Bool) (a2 : Int) (a3 : List Gspot) (a4 : List Int) (a5 : List GChar) (a6 : List Int) (a7 : Int) (a8 : List GWrong) (r : (List Gspot) × (List Int) × (List GChar) × (List Int) × Int × (List GWrong)) (hF : F28_s k a0 a1 a2 a3 a4 a5 a6 a7 a8 = some r) : PF Try.prog orc 28 [vP 2,.agg (cGspot a0),vB a1,vI a2] [⟨4294967295,[.list 2 (List.map cGspot a3) none]⟩,⟨4294967295,[.list 7 (List.map cI_i64 a4) none]⟩,⟨0,[.list 3 (List.map cGChar a5) none,.mp 0,.mp 1,.list 1 (List.map cI_i64 a6) (some 0),vI a7,.list 3 (List.map cGWrong a8) (some 1)]⟩] [a6.length,a8.length] (fun p fr tk=>p = .tup [] ∧ fr = [⟨4294967295,[.list 2 (List.map cGspot r.1) none]⟩,⟨4294967295,[.list 7 (List.map cI_i64 r.2.1) none]⟩,⟨0,[.list 3 (List.map cGChar r.2.2.1) none,.mp 0,.mp 1,.list 1 (List.map cI_i64 r.2.2.2.1) (some 0),vI r.2.2.2.2.1,.list 3 (List.map cGWrong r.2.2.2.2.2) (some 1)]⟩] ∧ tk = [r.2.2.2.1.length,r.2.2.2.2.2.length]):=by
 unfold F28_s at hF
 refine PF.enterS Try.func28 rfl rfl rfl (by kernel_rfl) rfl ?_
 refine PC.region ?_
 refine oK 1 [0,1,2,3] [0,1] [(0,vP 2),(2,vB a1),(3,vI a2),(5,vP 3)] [⟨4294967295,[.list 2 (List.map cGspot a3) none]⟩,⟨4294967295,[.list 7 (List.map cI_i64 a4) none]⟩,⟨0,[.list 3 (List.map cGChar a5) none,.mp 0,.mp 1,.list 1 (List.map cI_i64 a6) (some 0),vI a7,.list 3 (List.map cGWrong a8) (some 1)]⟩,⟨0,(cGspot a0)⟩] [a6.length,a8.length] (by kernel_rfl) ?_
 refine PO.nil ?_
 refine PC.run (n:=2) rfl ?_
 refine PC.lone ?_
 refine bindK hF (fun x1 e2 hF=>?_)
 refine PC.join (fun s=>∃ (v1 : List GWrong),Weak s (PS.of 24 [] [⟨4294967295,[.list 2 (List.map cGspot a3) none]⟩,⟨4294967295,[.list 7 (List.map cI_i64 a4) none]⟩,⟨0,[.list 3 (List.map cGChar a5) none,.mp 0,.mp 1,.list 1 (List.map cI_i64 a6) (some 0),vI a7,.list 3 (List.map cGWrong v1) (some 1)]⟩] [a6.length,v1.length] 3 2) ∧ v1 = x1) ?_ ?_
 ·refine PC.cond rfl (fun h3=>?_) (fun h3=>?_)
  ·have e2:=bif_t h3 e2
   refine PC.draw [1,2,3,4,5,6,7,8,9,10,11,12,0,13,14,15] (by kernel_rfl) ?_
   refine oD 11 [12,0,13,14,15] ⟨4094,0,0,[]⟩ [(0,vP 2),(13,.list 3 (List.map cGWrong a8) (some 1)),(20,.list 3 (List.map cGWrong ([(GWrong.mk a0.page a0.row a2)])) none)] [⟨4294967295,[.list 2 (List.map cGspot a3) none]⟩,⟨4294967295,[.list 7 (List.map cI_i64 a4) none]⟩,⟨0,[.list 3 (List.map cGChar a5) none,.mp 0,.mp 1,.list 1 (List.map cI_i64 a6) (some 0),vI a7,.list 3 (List.map cGWrong a8) (some 1)]⟩,⟨0,(cGspot a0)⟩] [a6.length,a8.length] (by kernel_rfl) ?_
   refine bindAK e2 (fun h4 e2=>?_)
   generalize hgl2 : a8 ++ ([(GWrong.mk a0.page a0.row a2)]) = l2 at e2
   refine PD.chiefS rfl (by kernel_rfl) rfl (append_effect (L:=a8) (M:=[(GWrong.mk a0.page a0.row a2)]) (f:=cGWrong) (sz:=3) (bytes:=24) Try.underlying31 rfl rfl rfl rfl rfl rfl rfl rfl rfl rfl rfl rfl h4 hgl2) rfl ?_
   refine oD 4 [] ⟨65535,65535,32767,[(15,[2],false),(12,[2],true)]⟩ [] [⟨4294967295,[.list 2 (List.map cGspot a3) none]⟩,⟨4294967295,[.list 7 (List.map cI_i64 a4) none]⟩,⟨0,[.list 3 (List.map cGChar a5) none,.mp 0,.mp 1,.list 1 (List.map cI_i64 a6) (some 0),vI a7,.list 3 (List.map cGWrong l2) (some 1)]⟩,⟨0,(cGspot a0)⟩] [a6.length,l2.length] (by kernel_rfl) ?_
   refine PD.done [0,1,2] [0,1] (es:=[]) (fr':=[⟨4294967295,[.list 2 (List.map cGspot a3) none]⟩,⟨4294967295,[.list 7 (List.map cI_i64 a4) none]⟩,⟨0,[.list 3 (List.map cGChar a5) none,.mp 0,.mp 1,.list 1 (List.map cI_i64 a6) (some 0),vI a7,.list 3 (List.map cGWrong l2) (some 1)]⟩]) (tk':=[a6.length,l2.length]) (by kernel_rfl) (by kernel_rfl) ?_
   exact PC.skip (joinKP.end ⟨l2,Weak.one [0,1,2] [0,1] (by kernel_rfl),Option.some.inj e2⟩)
  have e2:=bif_f h3 e2
  refine PC.noop ?_
  exact PC.skip (joinKP.end ⟨a8,Weak.one [0,1,2] [0,1] (by kernel_rfl),Option.some.inj e2⟩)
 rintro _ ⟨v1,w5,rfl⟩
 refine PC.weak w5 ?_
 have hq:=Option.some.inj hF
 subst hq
 exact PC.skip (retSN [0,1,2] [0,1] (by kernel_rfl) (.refl _) ⟨rfl,rfl,rfl⟩)

/-! 43_s (*platen/judge.bench).wrong -/
def F43_s_l1 (k : Nat) (a0 : GBox) (a1 : List Gspot) (a2 : List Int) (a3 : List GChar) (a4 : List Int) (a5 : Int) (a6 : List GWrong) : Nat → Int → Option ((Unit) ⊕ (Bool × (List Gspot) × (List Int) × (List GChar) × (List Int) × Int × (List GWrong)))
  | 0, _ => none
  | j10 + 1, v3 =>
    bif decide (v3 < (a3.length : Int)) then (bindI a3 v3 fun y5 =>
    bif y5.to_ == a0.to_ then (Option.bind (α := Bool) (bif v3 == (lkI Gspot.page Gspot.row a0.from_ a1) then (bindI a3 v3 fun y7 =>
    some (y7.rune != a0.rune)) else (some false)) fun (v6 : Bool) =>
    some (.inr (v6, a1, a2, a3, a4, a5, a6))) else (F43_s_l1 k a0 a1 a2 a3 a4 a5 a6 j10 (w (v3 + 1)))) else (some (.inl ()))
def F43_s (k : Nat) (a0 : GBox) (a1 : List Gspot) (a2 : List Int) (a3 : List GChar) (a4 : List Int) (a5 : Int) (a6 : List GWrong) : Option (Bool × (List Gspot) × (List Int) × (List GChar) × (List Int) × Int × (List GWrong)) :=
bif a0.from_ == a0.to_ then (Option.bind (α := Bool) (bif a0.rune != 45 then (some true) else (some (!(lkB idI a0.from_ a2)))) fun (v1 : Bool) =>
some (v1, a1, a2, a3, a4, a5, a6)) else (bif decide (a0.from_ > a0.to_) then (some (false, a1, a2, a3, a4, a5, a6)) else (bif !(lkB Gspot.page a0.from_ a1) then (some (true, a1, a2, a3, a4, a5, a6)) else (Option.bind (α := (Unit) ⊕ (Bool × (List Gspot) × (List Int) × (List GChar) × (List Int) × Int × (List GWrong))) (F43_s_l1 k a0 a1 a2 a3 a4 a5 a6 k (lkI Gspot.page Gspot.row a0.from_ a1)) (Sum.elim (fun (_ : Unit) =>
some (true, a1, a2, a3, a4, a5, a6)) some))))
theorem L43_s (k : Nat) (a0 : GBox) (a1 : List Gspot) (a2 : List Int) (a3 : List GChar) (a4 : List Int) (a5 : Int) (a6 : List GWrong) (r : Bool × (List Gspot) × (List Int) × (List GChar) × (List Int) × Int × (List GWrong)) (hF : F43_s k a0 a1 a2 a3 a4 a5 a6 = some r) : PF Try.prog orc 43 [vP 2,.agg (cGBox a0)] [⟨4294967295,[.list 2 (List.map cGspot a1) none]⟩,⟨4294967295,[.list 7 (List.map cI_i64 a2) none]⟩,⟨0,[.list 3 (List.map cGChar a3) none,.mp 0,.mp 1,.list 1 (List.map cI_i64 a4) (some 0),vI a5,.list 3 (List.map cGWrong a6) (some 1)]⟩] [a4.length,a6.length] (fun p fr tk=>p = vB r.1 ∧ fr = [⟨4294967295,[.list 2 (List.map cGspot r.2.1) none]⟩,⟨4294967295,[.list 7 (List.map cI_i64 r.2.2.1) none]⟩,⟨0,[.list 3 (List.map cGChar r.2.2.2.1) none,.mp 0,.mp 1,.list 1 (List.map cI_i64 r.2.2.2.2.1) (some 0),vI r.2.2.2.2.2.1,.list 3 (List.map cGWrong r.2.2.2.2.2.2) (some 1)]⟩] ∧ tk = [r.2.2.2.2.1.length,r.2.2.2.2.2.2.length]):=by
 unfold F43_s at hF
 refine PF.enterS Try.func43 rfl rfl rfl (by kernel_rfl) rfl ?_
 refine PC.region ?_
 refine oK 2 [0,1,2,3] [0,1] [(0,vP 2),(3,vP 3),(4,vB false)] [⟨4294967295,[.list 2 (List.map cGspot a1) none]⟩,⟨4294967295,[.list 7 (List.map cI_i64 a2) none]⟩,⟨0,[.list 3 (List.map cGChar a3) none,.mp 0,.mp 1,.list 1 (List.map cI_i64 a4) (some 0),vI a5,.list 3 (List.map cGWrong a6) (some 1)]⟩,⟨0,(cGBox a0)⟩] [a4.length,a6.length] (by kernel_rfl) ?_
 refine PO.nil ?_
 refine PC.assoc ?_
 refine PC.run (n:=6) rfl ?_
 refine PC.cond rfl (fun h1=>?_) (fun h1=>?_)
 ·have hF:=bif_t h1 hF
  refine PC.assoc ?_
  refine PC.draw [0,1,2,3,4,5,6,7,8,10,11,9,12] (by kernel_rfl) ?_
  refine oD 6 [6,7,8,10,11,9,12] ⟨63,0,0,[]⟩ [(3,vP 3),(4,vB false),(19,.mp 1),(21,vI a0.from_)] [⟨4294967295,[.list 2 (List.map cGspot a1) none]⟩,⟨4294967295,[.list 7 (List.map cI_i64 a2) none]⟩,⟨0,[.list 3 (List.map cGChar a3) none,.mp 0,.mp 1,.list 1 (List.map cI_i64 a4) (some 0),vI a5,.list 3 (List.map cGWrong a6) (some 1)]⟩,⟨0,(cGBox a0)⟩] [a4.length,a6.length] (by kernel_rfl) ?_
  refine PD.readS rfl (by kernel_rfl) rfl (lookupU_ok mc63 Try.underlying63 Try.underlying3 ckInt rfl rfl rfl rfl) rfl ?_
  refine oD 6 [] ⟨8191,3583,1535,[(11,[4],false)]⟩ [(3,vP 3),(4,vB false),(6,vB (lkB idI a0.from_ a2))] [⟨4294967295,[.list 2 (List.map cGspot a1) none]⟩,⟨4294967295,[.list 7 (List.map cI_i64 a2) none]⟩,⟨0,[.list 3 (List.map cGChar a3) none,.mp 0,.mp 1,.list 1 (List.map cI_i64 a4) (some 0),vI a5,.list 3 (List.map cGWrong a6) (some 1)]⟩,⟨0,(cGBox a0)⟩,⟨0,[]⟩] [a4.length,a6.length] (by kernel_rfl) ?_
  refine PD.done [0,1,2,3] [0,1] (es:=[(3,vP 3),(4,vB false),(6,vB (lkB idI a0.from_ a2))]) (fr':=[⟨4294967295,[.list 2 (List.map cGspot a1) none]⟩,⟨4294967295,[.list 7 (List.map cI_i64 a2) none]⟩,⟨0,[.list 3 (List.map cGChar a3) none,.mp 0,.mp 1,.list 1 (List.map cI_i64 a4) (some 0),vI a5,.list 3 (List.map cGWrong a6) (some 1)]⟩,⟨0,(cGBox a0)⟩]) (tk':=[a4.length,a6.length]) (by kernel_rfl) (by kernel_rfl) ?_
  refine PC.assoc ?_
  refine PC.region ?_
  refine PO.run 4 rfl ?_
  refine bindK hF (fun x2 e3 hF=>?_)
  refine PO.cut 3 (fun s=>∃ (v1 : Bool),Weak s (PS.of 86 [(4,vB false),(31,vB v1)] [⟨4294967295,[.list 2 (List.map cGspot a1) none]⟩,⟨4294967295,[.list 7 (List.map cI_i64 a2) none]⟩,⟨0,[.list 3 (List.map cGChar a3) none,.mp 0,.mp 1,.list 1 (List.map cI_i64 a4) (some 0),vI a5,.list 3 (List.map cGWrong a6) (some 1)]⟩] [a4.length,a6.length] 3 2) ∧ v1 = x2) ?_ ?_
  ·refine PO.case (t:=28) rfl rfl (fun h4=>?_) (fun h4=>?_)
   ·have e3:=bif_t h4 e3
    refine PO.run 2 rfl ?_
    refine PO.same rfl (pickT_ok rfl rfl rfl) rfl ?_
    refine PO.nil ?_
    exact ⟨true,Weak.one [0,1,2] [0,1] (by kernel_rfl),Option.some.inj e3⟩
   have e3:=bif_f h4 e3
   refine PO.run 2 rfl ?_
   refine PO.same rfl (pickF_ok rfl rfl rfl) rfl ?_
   refine PO.nil ?_
   exact ⟨!(lkB idI a0.from_ a2),Weak.one [0,1,2] [0,1] (by kernel_rfl),Option.some.inj e3⟩
  rintro _ ⟨v1,w5,rfl⟩
  refine PO.weak w5 ?_
  refine PO.run 1 rfl ?_
  refine PO.nil ?_
  have hq:=Option.some.inj hF
  subst hq
  exact PC.ret (retSK [0,1,2] [0,1] (by kernel_rfl) (.refl _) ⟨rfl,rfl,rfl⟩)
 have hF:=bif_f h1 hF
 refine PC.noop ?_
 refine PC.assoc ?_
 refine PC.run (n:=6) rfl ?_
 refine PC.cond rfl (fun h6=>?_) (fun h6=>?_)
 ·have hF:=bif_t h6 hF
  refine PC.assoc ?_
  refine PC.run (n:=2) rfl ?_
  have hq:=Option.some.inj hF
  subst hq
  exact PC.ret (retSK [0,1,2] [0,1] (by kernel_rfl) (.refl _) ⟨rfl,rfl,rfl⟩)
 have hF:=bif_f h6 hF
 refine PC.noop ?_
 refine PC.drawn (order:=[0,1,2,3,4,5,6,7,8,9,10,11]) (by kernel_rfl) ?_
 refine PO.run 6 rfl ?_
 refine PO.same rfl (lookupI_ok mc62 Try.underlying62 Try.underlying3 ckInt rfl rfl rfl rfl) rfl ?_
 refine PO.run 5 rfl ?_
 refine PO.nil ?_
 refine PC.assoc ?_
 refine PC.run (n:=3) rfl ?_
 refine PC.cond rfl (fun h7=>?_) (fun h7=>?_)
 ·have hF:=bif_t h7 hF
  refine PC.assoc ?_
  refine PC.run (n:=2) rfl ?_
  have hq:=Option.some.inj hF
  subst hq
  exact PC.ret (retSK [0,1,2] [0,1] (by kernel_rfl) (.refl _) ⟨rfl,rfl,rfl⟩)
 have hF:=bif_f h7 hF
 refine PC.noop ?_
 refine PC.assoc ?_
 refine PC.run (n:=3) rfl ?_
 refine bindK hF (fun x8 e9 hF=>?_)
 refine PC.blockJ (fun s=>Weak s (PS.of 86 [(4,vB false)] [⟨4294967295,[.list 2 (List.map cGspot a1) none]⟩,⟨4294967295,[.list 7 (List.map cI_i64 a2) none]⟩,⟨0,[.list 3 (List.map cGChar a3) none,.mp 0,.mp 1,.list 1 (List.map cI_i64 a4) (some 0),vI a5,.list 3 (List.map cGWrong a6) (some 1)]⟩] [a4.length,a6.length] 3 2) ∧ .inl () = x8) ?_ ?_
 ·refine PC.loop (fun j10 s=>∃ (v3 : Int),Weak s (PS.of 86 [(0,vP 2),(3,vP 3),(4,vB false),(7,vI (lkI Gspot.page Gspot.row a0.from_ a1)),(9,vI v3)] [⟨4294967295,[.list 2 (List.map cGspot a1) none]⟩,⟨4294967295,[.list 7 (List.map cI_i64 a2) none]⟩,⟨0,[.list 3 (List.map cGChar a3) none,.mp 0,.mp 1,.list 1 (List.map cI_i64 a4) (some 0),vI a5,.list 3 (List.map cGWrong a6) (some 1)]⟩,⟨0,(cGBox a0)⟩] [a4.length,a6.length] 3 2) ∧ F43_s_l1 k a0 a1 a2 a3 a4 a5 a6 j10 v3 = some x8) (fun j10 s=>?_) k ⟨lkI Gspot.page Gspot.row a0.from_ a1,Weak.one [0,1,2,3] [0,1] (by kernel_rfl),e9⟩
  rintro ⟨v3,w11,e9⟩
  refine PC.weak w11 ?_
  obtain _ | j10:=j10
  · rw [F43_s_l1] at e9; cases e9
  rw [F43_s_l1] at e9
  refine PC.assoc ?_
  refine PC.region ?_
  refine PO.run 5 rfl ?_
  refine PO.same rfl (len_ok Try.underlying23 rfl (List.length_map _)) rfl ?_
  refine PO.run 1 rfl ?_
  refine PO.nil ?_
  refine PC.cond rfl (fun h12=>?_) (fun h12=>?_)
  ·have e9:=bif_t h12 e9
   refine PC.noop ?_
   refine PC.block ?_
   refine PC.drawn (order:=[0,1,2,3,4,5,6,7,8,9,10]) (by kernel_rfl) ?_
   refine PO.run 5 rfl ?_
   refine bindIK e9 (fun y5 h13 h14 e9=>?_)
   refine PO.same rfl (indexAddr_ok Try.underlying23 rfl rfl rfl h13 (map_at h14)) rfl ?_
   refine PO.run 5 rfl ?_
   refine PO.nil ?_
   refine PC.lone ?_
   refine PC.cond rfl (fun h15=>?_) (fun h15=>?_)
   ·have e9:=bif_t h15 e9
    refine PC.assoc ?_
    refine PC.drawn (order:=[0,1,2,3,4,5,6,7,8,9,10,11,12,13,14,15,16]) (by kernel_rfl) ?_
    refine PO.run 4 rfl ?_
    refine bindK e9 (fun x16 e17 e9=>?_)
    refine PO.cut 12 (fun s=>∃ (v6 : Bool),Weak s (PS.of 86 [(0,vP 2),(3,vP 3),(4,vB false),(7,vI (lkI Gspot.page Gspot.row a0.from_ a1)),(9,vI v3),(85,vB v6)] [⟨4294967295,[.list 2 (List.map cGspot a1) none]⟩,⟨4294967295,[.list 7 (List.map cI_i64 a2) none]⟩,⟨0,[.list 3 (List.map cGChar a3) none,.mp 0,.mp 1,.list 1 (List.map cI_i64 a4) (some 0),vI a5,.list 3 (List.map cGWrong a6) (some 1)]⟩,⟨0,(cGBox a0)⟩] [a4.length,a6.length] 3 2) ∧ v6 = x16) ?_ ?_
    ·refine PO.case (t:=73) rfl rfl (fun h18=>?_) (fun h18=>?_)
     ·have e17:=bif_t h18 e17
      refine PO.run 5 rfl ?_
      refine bindIK e17 (fun y7 h19 h20 e17=>?_)
      refine PO.same rfl (indexAddr_ok Try.underlying23 rfl rfl rfl h19 (map_at h20)) rfl ?_
      refine PO.run 5 rfl ?_
      refine PO.same rfl (pickT_ok rfl rfl rfl) rfl ?_
      refine PO.nil ?_
      exact ⟨y7.rune != a0.rune,Weak.one [0,1,2,3] [0,1] (by kernel_rfl),Option.some.inj e17⟩
     have e17:=bif_f h18 e17
     refine PO.run 11 rfl ?_
     refine PO.same rfl (pickF_ok rfl rfl rfl) rfl ?_
     refine PO.nil ?_
     exact ⟨false,Weak.one [0,1,2,3] [0,1] (by kernel_rfl),Option.some.inj e17⟩
    rintro _ ⟨v6,w21,rfl⟩
    refine PO.weak w21 ?_
    refine PO.run 1 rfl ?_
    refine PO.nil ?_
    have hq:=Option.some.inj e9
    subst hq
    have hq:=Option.some.inj hF
    subst hq
    exact PC.ret (blockKP.back (loopKP.ret (blockJK.back (retSK [0,1,2] [0,1] (by kernel_rfl) (.refl _) ⟨rfl,rfl,rfl⟩))))
   have e9:=bif_f h15 e9
   refine PC.noop ?_
   refine PC.skip (blockKP.end ?_)
   refine PC.lone ?_
   refine PC.run (n:=4) rfl ?_
   exact PC.skip (loopKP.mk (Nat.lt_succ_self _) ⟨w (v3 + 1),Weak.one [0,1,2,3] [0,1] (by kernel_rfl),e9⟩)
  have e9:=bif_f h12 e9
  exact PC.exit (loopKP.exit (blockJK.here ⟨Weak.one [0,1,2] [0,1] (by kernel_rfl),Option.some.inj e9⟩))
 rintro _ ⟨w22,rfl⟩
 refine PC.weak w22 ?_
 have hF:=elim_l hF
 refine PC.run (n:=2) rfl ?_
 have hq:=Option.some.inj hF
 subst hq
 exact PC.ret' (retSK [0,1,2] [0,1] (by kernel_rfl) (.refl _) ⟨rfl,rfl,rfl⟩)

/-! 70 cmp.isNaN[int] -/
def F70 (k : Nat) (a0 : Int) : Option Bool :=
some (a0 != a0)
theorem L70 (k : Nat) (a0 : Int) (r : Bool) (hF : F70 k a0 = some r) : PF Try.prog orc 70 [vI a0] [] [] (fun p fr tk=>p = vB r ∧ fr = [] ∧ tk = []):=by
 unfold F70 at hF
 refine PF.enterS Try.func70 rfl rfl rfl (by kernel_rfl) rfl ?_
 refine PC.run (n:=2) rfl ?_
 refine PC.run (n:=5) rfl ?_
 have hq:=Option.some.inj hF
 subst hq
 exact PC.ret' (retSK [] [] (by kernel_rfl) (.refl _) ⟨rfl,rfl,rfl⟩)

/-! 55 cmp.Less[int] -/
def F55 (k : Nat) (a0 : Int) (a1 : Int) : Option Bool :=
(F70 k a0).bind fun r1 =>
Option.bind (α := Bool) (bif r1 then ((F70 k a1).bind fun r6 =>
Option.bind (α := Bool) (bif !r6 then (some true) else (some (decide (a0 < a1)))) fun (v2 : Bool) =>
some v2) else (some (decide (a0 < a1)))) fun (v1 : Bool) =>
some v1
theorem L55 (k : Nat) (a0 : Int) (a1 : Int) (r : Bool) (hF : F55 k a0 a1 = some r) : PF Try.prog orc 55 [vI a0,vI a1] [] [] (fun p fr tk=>p = vB r ∧ fr = [] ∧ tk = []):=by
 unfold F55 at hF
 refine PF.enterS Try.func55 rfl rfl rfl (by kernel_rfl) rfl ?_
 refine PC.run (n:=2) rfl ?_
 refine PC.region ?_
 refine PO.run 1 rfl ?_
 refine bindK hF (fun r1 e2 hF=>?_)
 refine PO.call rfl rfl rfl rfl (ks:=[]) (ts:=[]) (fr1:=[]) rfl rfl rfl trivial (L70 k a0 _ e2) ?_
 rintro _ _ _ ⟨rfl,rfl,rfl⟩
 refine ⟨_,_,rfl,rfl,?_⟩
 refine PO.run 1 rfl ?_
 refine bindK hF (fun x3 e4 hF=>?_)
 refine PO.cut 9 (fun s=>∃ (v1 : Bool),Weak s (PS.of 17 [(4,vB false),(16,vB v1)] [] [] 0 0) ∧ v1 = x3) ?_ ?_
 ·refine PO.case (t:=7) rfl rfl (fun h5=>?_) (fun h5=>?_)
  ·have e4:=bif_t h5 e4
   refine PO.run 1 rfl ?_
   refine bindK e4 (fun r6 e7 e4=>?_)
   refine PO.call rfl rfl rfl rfl (ks:=[]) (ts:=[]) (fr1:=[]) rfl rfl rfl trivial (L70 k a1 _ e7) ?_
   rintro _ _ _ ⟨rfl,rfl,rfl⟩
   refine ⟨_,_,rfl,rfl,?_⟩
   refine PO.run 1 rfl ?_
   refine PO.same rfl (pickT_ok rfl rfl rfl) rfl ?_
   refine PO.run 1 rfl ?_
   refine bindK e4 (fun x8 e9 e4=>?_)
   refine PO.cut 4 (fun s=>∃ (v2 : Bool),Weak s (PS.of 17 [(4,vB false),(16,vB v2)] [] [] 0 0) ∧ v2 = x8) ?_ ?_
   ·refine PO.case (t:=12) rfl rfl (fun h10=>?_) (fun h10=>?_)
    ·have e9:=bif_t h10 e9
     refine PO.run 3 rfl ?_
     refine PO.same rfl (pickT_ok rfl rfl rfl) rfl ?_
     refine PO.nil ?_
     exact ⟨true,Weak.one [] [] (by kernel_rfl),Option.some.inj e9⟩
    have e9:=bif_f h10 e9
    refine PO.run 3 rfl ?_
    refine PO.same rfl (pickF_ok rfl rfl rfl) rfl ?_
    refine PO.nil ?_
    exact ⟨decide (a0 < a1),Weak.one [] [] (by kernel_rfl),Option.some.inj e9⟩
   rintro _ ⟨v2,w11,rfl⟩
   refine PO.weak w11 ?_
   refine PO.nil ?_
   exact ⟨v2,Weak.one [] [] (by kernel_rfl),Option.some.inj e4⟩
  have e4:=bif_f h5 e4
  refine PO.run 3 rfl ?_
  refine PO.same rfl (pickF_ok rfl rfl rfl) rfl ?_
  refine PO.run 4 rfl ?_
  refine PO.same rfl (pickF_ok rfl rfl rfl) rfl ?_
  refine PO.nil ?_
  exact ⟨decide (a0 < a1),Weak.one [] [] (by kernel_rfl),Option.some.inj e4⟩
 rintro _ ⟨v1,w12,rfl⟩
 refine PO.weak w12 ?_
 refine PO.run 1 rfl ?_
 refine PO.nil ?_
 have hq:=Option.some.inj hF
 subst hq
 exact PC.ret' (retSK [] [] (by kernel_rfl) (.refl _) ⟨rfl,rfl,rfl⟩)

/-! 61 slices.isNaN[int] -/
def F61 (k : Nat) (a0 : Int) : Option Bool :=
some (a0 != a0)
theorem L61 (k : Nat) (a0 : Int) (r : Bool) (hF : F61 k a0 = some r) : PF Try.prog orc 61 [vI a0] [] [] (fun p fr tk=>p = vB r ∧ fr = [] ∧ tk = []):=by
 unfold F61 at hF
 refine PF.enterS Try.func61 rfl rfl rfl (by kernel_rfl) rfl ?_
 refine PC.run (n:=2) rfl ?_
 refine PC.run (n:=5) rfl ?_
 have hq:=Option.some.inj hF
 subst hq
 exact PC.ret' (retSK [] [] (by kernel_rfl) (.refl _) ⟨rfl,rfl,rfl⟩)

/-! 44 slices.BinarySearch[[]int,int] -/
def F44_l1 (k : Nat) (a0 : List Int) (a1 : Int) : Nat → Int → Int → Option Int
  | 0, _, _ => none
  | j3 + 1, v4, v5 =>
    bif decide (v4 < v5) then (Option.bind (α := Int × Int) (bindI a0 (w (Int.fdiv (w_u64 (w (v4 + v5))) (2 ^ 1))) fun y10 =>
    (F55 k y10 a1).bind fun r10 =>
    bif r10 then (some (w ((w (Int.fdiv (w_u64 (w (v4 + v5))) (2 ^ 1))) + 1), v5)) else (some (v4, w (Int.fdiv (w_u64 (w (v4 + v5))) (2 ^ 1))))) fun (v8, v9) =>
    F44_l1 k a0 a1 j3 v8 v9) else (some v4)
def F44 (k : Nat) (a0 : List Int) (a1 : Int) : Option (Int × Bool) :=
Option.bind (α := Int) (F44_l1 k a0 a1 k 0 (a0.length : Int)) fun (v1 : Int) =>
Option.bind (α := Bool) (bif decide (v1 < (a0.length : Int)) then (bindI a0 v1 fun y12 =>
Option.bind (α := Bool) (bif y12 == a1 then (some true) else (bindI a0 v1 fun y14 =>
(F61 k y14).bind fun r25 =>
Option.bind (α := Bool) (bif r25 then ((F61 k a1).bind fun r30 =>
some r30) else (some false)) fun (v15 : Bool) =>
some v15)) fun (v13 : Bool) =>
some v13) else (some false)) fun (v11 : Bool) =>
some (v1, v11)
theorem L44 (k : Nat) (a0 : List Int) (a1 : Int) (r : Int × Bool) (hF : F44 k a0 a1 = some r) : PF Try.prog orc 44 [.list 1 (List.map cI_i64 a0) none,vI a1] [] [] (fun p fr tk=>p = .tup [vI r.1,vB r.2] ∧ fr = [] ∧ tk = []):=by
 unfold F44 at hF
 refine PF.enterS Try.func44 rfl rfl rfl (by kernel_rfl) rfl ?_
 refine PC.run (n:=3) rfl ?_
 refine PC.region ?_
 refine PO.run 1 rfl ?_
 refine PO.same rfl (len_ok Try.underlying64 rfl (List.length_map _)) rfl ?_
 refine PO.run 1 rfl ?_
 refine PO.nil ?_
 refine PC.run (n:=4) rfl ?_
 refine bindK hF (fun x1 e2 hF=>?_)
 refine PC.blockJ (fun s=>∃ (v1 : Int),Weak s (PS.of 54 [(0,.list 1 (List.map cI_i64 a0) none),(1,vI a1),(4,vI 0),(5,vB false),(6,vI (a0.length : Int)),(7,vI v1)] [] [] 0 0) ∧ v1 = x1) ?_ ?_
 ·refine PC.loop (fun j3 s=>∃ (v4 : Int) (v5 : Int),Weak s (PS.of 54 [(0,.list 1 (List.map cI_i64 a0) none),(1,vI a1),(4,vI 0),(5,vB false),(6,vI (a0.length : Int)),(7,vI v4),(8,vI v5)] [] [] 0 0) ∧ F44_l1 k a0 a1 j3 v4 v5 = some x1) (fun j3 s=>?_) k ⟨0,(a0.length : Int),Weak.one [] [] (by kernel_rfl),e2⟩
  rintro ⟨v4,v5,w4,e2⟩
  refine PC.weak w4 ?_
  obtain _ | j3:=j3
  · rw [F44_l1] at e2; cases e2
  rw [F44_l1] at e2
  refine PC.assoc ?_
  refine PC.run (n:=4) rfl ?_
  refine PC.cond rfl (fun h5=>?_) (fun h5=>?_)
  ·have e2:=bif_t h5 e2
   refine PC.noop ?_
   refine PC.lone ?_
   refine bindK e2 (fun x6 e7 e2=>?_)
   refine PC.blockJ (fun s=>∃ (v8 : Int) (v9 : Int),Weak s (PS.of 54 [(0,.list 1 (List.map cI_i64 a0) none),(1,vI a1),(4,vI 0),(5,vB false),(6,vI (a0.length : Int)),(7,vI v8),(8,vI v9)] [] [] 0 0) ∧ (v8,v9) = x6) ?_ ?_
   ·refine PC.run (n:=8) rfl ?_
    refine PC.region ?_
    refine PO.run 2 rfl ?_
    refine bindIK e7 (fun y10 h8 h9 e7=>?_)
    refine PO.same rfl (indexAddr_ok Try.underlying64 rfl rfl rfl h8 (map_at h9)) rfl ?_
    refine PO.run 2 rfl ?_
    refine bindK e7 (fun r10 e11 e7=>?_)
    refine PO.call rfl rfl rfl rfl (ks:=[]) (ts:=[]) (fr1:=[]) rfl rfl rfl trivial (L55 k y10 a1 _ e11) ?_
    rintro _ _ _ ⟨rfl,rfl,rfl⟩
    refine ⟨_,_,rfl,rfl,?_⟩
    refine PO.nil ?_
    refine PC.lone ?_
    refine PC.cond rfl (fun h12=>?_) (fun h12=>?_)
    ·have e7:=bif_t h12 e7
     refine PC.run (n:=4) rfl ?_
     exact PC.skip (blockJK.end ⟨w ((w (Int.fdiv (w_u64 (w (v4 + v5))) (2 ^ 1))) + 1),v5,Weak.one [] [] (by kernel_rfl),Option.some.inj e7⟩)
    have e7:=bif_f h12 e7
    refine PC.run (n:=3) rfl ?_
    exact PC.skip (blockJK.end ⟨v4,w (Int.fdiv (w_u64 (w (v4 + v5))) (2 ^ 1)),Weak.one [] [] (by kernel_rfl),Option.some.inj e7⟩)
   rintro _ ⟨v8,v9,w13,rfl⟩
   refine PC.weak w13 ?_
   exact PC.skip (loopKP.mk (Nat.lt_succ_self _) ⟨v8,v9,Weak.one [] [] (by kernel_rfl),e2⟩)
  have e2:=bif_f h5 e2
  exact PC.exit (loopKP.exit (blockJK.here ⟨v4,Weak.one [] [] (by kernel_rfl),Option.some.inj e2⟩))
 rintro _ ⟨v1,w14,rfl⟩
 refine PC.weak w14 ?_
 refine PC.region ?_
 refine PO.run 5 rfl ?_
 refine bindK hF (fun x15 e16 hF=>?_)
 refine PO.cut 18 (fun s=>∃ (v11 : Bool),Weak s (PS.of 54 [(4,vI 0),(5,vB false),(31,vI v1),(53,vB v11)] [] [] 0 0) ∧ v11 = x15) ?_ ?_
 ·refine PO.case (t:=35) rfl rfl (fun h17=>?_) (fun h17=>?_)
  ·have e16:=bif_t h17 e16
   refine PO.run 2 rfl ?_
   refine bindIK e16 (fun y12 h18 h19 e16=>?_)
   refine PO.same rfl (indexAddr_ok Try.underlying64 rfl rfl rfl h18 (map_at h19)) rfl ?_
   refine PO.run 4 rfl ?_
   refine bindK e16 (fun x20 e21 e16=>?_)
   refine PO.cut 11 (fun s=>∃ (v13 : Bool),Weak s (PS.of 54 [(4,vI 0),(5,vB false),(31,vI v1),(53,vB v13)] [] [] 0 0) ∧ v13 = x20) ?_ ?_
   ·refine PO.case (t:=42) rfl rfl (fun h22=>?_) (fun h22=>?_)
    ·have e21:=bif_t h22 e21
     refine PO.run 9 rfl ?_
     refine PO.same rfl (pickT_ok rfl rfl rfl) rfl ?_
     refine PO.same rfl (pickT_ok rfl rfl rfl) rfl ?_
     refine PO.nil ?_
     exact ⟨true,Weak.one [] [] (by kernel_rfl),Option.some.inj e21⟩
    have e21:=bif_f h22 e21
    refine PO.run 2 rfl ?_
    refine bindIK e21 (fun y14 h23 h24 e21=>?_)
    refine PO.same rfl (indexAddr_ok Try.underlying64 rfl rfl rfl h23 (map_at h24)) rfl ?_
    refine PO.run 1 rfl ?_
    refine bindK e21 (fun r25 e26 e21=>?_)
    refine PO.call rfl rfl rfl rfl (ks:=[]) (ts:=[]) (fr1:=[]) rfl rfl rfl trivial (L61 k y14 _ e26) ?_
    rintro _ _ _ ⟨rfl,rfl,rfl⟩
    refine ⟨_,_,rfl,rfl,?_⟩
    refine PO.run 1 rfl ?_
    refine bindK e21 (fun x27 e28 e21=>?_)
    refine PO.cut 5 (fun s=>∃ (v15 : Bool),Weak s (PS.of 54 [(4,vI 0),(5,vB false),(31,vI v1),(53,vB v15)] [] [] 0 0) ∧ v15 = x27) ?_ ?_
    ·refine PO.case (t:=48) rfl rfl (fun h29=>?_) (fun h29=>?_)
     ·have e28:=bif_t h29 e28
      refine PO.run 1 rfl ?_
      refine bindK e28 (fun r30 e31 e28=>?_)
      refine PO.call rfl rfl rfl rfl (ks:=[]) (ts:=[]) (fr1:=[]) rfl rfl rfl trivial (L61 k a1 _ e31) ?_
      rintro _ _ _ ⟨rfl,rfl,rfl⟩
      refine ⟨_,_,rfl,rfl,?_⟩
      refine PO.same rfl (pickT_ok rfl rfl rfl) rfl ?_
      refine PO.same rfl (pickF_ok rfl rfl rfl) rfl ?_
      refine PO.same rfl (pickT_ok rfl rfl rfl) rfl ?_
      refine PO.nil ?_
      exact ⟨r30,Weak.one [] [] (by kernel_rfl),Option.some.inj e28⟩
     have e28:=bif_f h29 e28
     refine PO.run 2 rfl ?_
     refine PO.same rfl (pickF_ok rfl rfl rfl) rfl ?_
     refine PO.same rfl (pickF_ok rfl rfl rfl) rfl ?_
     refine PO.same rfl (pickT_ok rfl rfl rfl) rfl ?_
     refine PO.nil ?_
     exact ⟨false,Weak.one [] [] (by kernel_rfl),Option.some.inj e28⟩
    rintro _ ⟨v15,w32,rfl⟩
    refine PO.weak w32 ?_
    refine PO.nil ?_
    exact ⟨v15,Weak.one [] [] (by kernel_rfl),Option.some.inj e21⟩
   rintro _ ⟨v13,w33,rfl⟩
   refine PO.weak w33 ?_
   refine PO.nil ?_
   exact ⟨v13,Weak.one [] [] (by kernel_rfl),Option.some.inj e16⟩
  have e16:=bif_f h17 e16
  refine PO.run 17 rfl ?_
  refine PO.same rfl (pickF_ok rfl rfl rfl) rfl ?_
  refine PO.nil ?_
  exact ⟨false,Weak.one [] [] (by kernel_rfl),Option.some.inj e16⟩
 rintro _ ⟨v11,w34,rfl⟩
 refine PO.weak w34 ?_
 refine PO.run 2 rfl ?_
 refine PO.nil ?_
 have hq:=Option.some.inj hF
 subst hq
 exact PC.ret' (retSK [] [] (by kernel_rfl) (.refl _) ⟨rfl,rfl,rfl⟩)

/-! 31_s (*platen/judge.bench).left -/
def F31_s (k : Nat) (a0 : Int) (a1 : Int) (a2 : Bool) (a3 : List Gspot) (a4 : List Int) (a5 : List GChar) (a6 : List Int) (a7 : Int) (a8 : List GWrong) : Option (Bool × (List Gspot) × (List Int) × (List GChar) × (List Int) × Int × (List GWrong)) :=
(F44 k a6 a0).bind fun r1 =>
Option.bind (α := Bool) (bif decide (r1.1 < (a6.length : Int)) then (Option.bind (α := Bool) (bif a2 then (some true) else (bindI a6 r1.1 fun y3 =>
some (decide (y3 < a1)))) fun (v2 : Bool) =>
some v2) else (some false)) fun (v1 : Bool) =>
some (v1, a3, a4, a5, a6, a7, a8)
theorem L31_s (k : Nat) (a0 : Int) (a1 : Int) (a2 : Bool) (a3 : List Gspot) (a4 : List Int) (a5 : List GChar) (a6 : List Int) (a7 : Int) (a8 : List GWrong) (r : Bool × (List Gspot) × (List Int) × (List GChar) × (List Int) × Int × (List GWrong)) (hF : F31_s k a0 a1 a2 a3 a4 a5 a6 a7 a8 = some r) : PF Try.prog orc 31 [vP 2,vI a0,vI a1,vB a2] [⟨4294967295,[.list 2 (List.map cGspot a3) none]⟩,⟨4294967295,[.list 7 (List.map cI_i64 a4) none]⟩,⟨0,[.list 3 (List.map cGChar a5) none,.mp 0,.mp 1,.list 1 (List.map cI_i64 a6) (some 0),vI a7,.list 3 (List.map cGWrong a8) (some 1)]⟩] [a6.length,a8.length] (fun p fr tk=>p = vB r.1 ∧ fr = [⟨4294967295,[.list 2 (List.map cGspot r.2.1) none]⟩,⟨4294967295,[.list 7 (List.map cI_i64 r.2.2.1) none]⟩,⟨0,[.list 3 (List.map cGChar r.2.2.2.1) none,.mp 0,.mp 1,.list 1 (List.map cI_i64 r.2.2.2.2.1) (some 0),vI r.2.2.2.2.2.1,.list 3 (List.map cGWrong r.2.2.2.2.2.2) (some 1)]⟩] ∧ tk = [r.2.2.2.2.1.length,r.2.2.2.2.2.2.length]):=by
 unfold F31_s at hF
 refine PF.enterS Try.func31 rfl rfl rfl (by kernel_rfl) rfl ?_
 refine PC.run (n:=2) rfl ?_
 refine PC.region ?_
 refine PO.run 5 rfl ?_
 refine bindK hF (fun r1 e2 hF=>?_)
 refine PO.call rfl rfl rfl rfl (ks:=[]) (ts:=[]) (fr1:=[]) rfl rfl rfl trivial (L44 k a6 a0 _ e2) ?_
 rintro _ _ _ ⟨rfl,rfl,rfl⟩
 refine ⟨_,_,rfl,rfl,?_⟩
 refine PO.run 5 rfl ?_
 refine PO.nil ?_
 refine PC.region ?_
 refine PO.run 5 rfl ?_
 refine PO.same rfl (len_ok Try.underlying64 rfl (List.length_map _)) rfl ?_
 refine PO.run 2 rfl ?_
 refine bindK hF (fun x3 e4 hF=>?_)
 refine PO.cut 13 (fun s=>∃ (v1 : Bool),Weak s (PS.of 41 [(8,vB false),(40,vB v1)] [⟨4294967295,[.list 2 (List.map cGspot a3) none]⟩,⟨4294967295,[.list 7 (List.map cI_i64 a4) none]⟩,⟨0,[.list 3 (List.map cGChar a5) none,.mp 0,.mp 1,.list 1 (List.map cI_i64 a6) (some 0),vI a7,.list 3 (List.map cGWrong a8) (some 1)]⟩] [a6.length,a8.length] 3 2) ∧ v1 = x3) ?_ ?_
 ·refine PO.case (t:=27) rfl rfl (fun h5=>?_) (fun h5=>?_)
  ·have e4:=bif_t h5 e4
   refine PO.run 2 rfl ?_
   refine bindK e4 (fun x6 e7 e4=>?_)
   refine PO.cut 11 (fun s=>∃ (v2 : Bool),Weak s (PS.of 41 [(8,vB false),(40,vB v2)] [⟨4294967295,[.list 2 (List.map cGspot a3) none]⟩,⟨4294967295,[.list 7 (List.map cI_i64 a4) none]⟩,⟨0,[.list 3 (List.map cGChar a5) none,.mp 0,.mp 1,.list 1 (List.map cI_i64 a6) (some 0),vI a7,.list 3 (List.map cGWrong a8) (some 1)]⟩] [a6.length,a8.length] 3 2) ∧ v2 = x6) ?_ ?_
   ·refine PO.case (t:=29) rfl rfl (fun h8=>?_) (fun h8=>?_)
    ·have e7:=bif_t h8 e7
     refine PO.run 9 rfl ?_
     refine PO.same rfl (pickT_ok rfl rfl rfl) rfl ?_
     refine PO.same rfl (pickT_ok rfl rfl rfl) rfl ?_
     refine PO.nil ?_
     exact ⟨true,Weak.one [0,1,2] [0,1] (by kernel_rfl),Option.some.inj e7⟩
    have e7:=bif_f h8 e7
    refine PO.run 5 rfl ?_
    refine bindIK e7 (fun y3 h9 h10 e7=>?_)
    refine PO.same rfl (indexAddr_ok Try.underlying64 rfl rfl rfl h9 (map_at h10)) rfl ?_
    refine PO.run 3 rfl ?_
    refine PO.same rfl (pickF_ok rfl rfl rfl) rfl ?_
    refine PO.same rfl (pickT_ok rfl rfl rfl) rfl ?_
    refine PO.nil ?_
    exact ⟨decide (y3 < a1),Weak.one [0,1,2] [0,1] (by kernel_rfl),Option.some.inj e7⟩
   rintro _ ⟨v2,w11,rfl⟩
   refine PO.weak w11 ?_
   refine PO.nil ?_
   exact ⟨v2,Weak.one [0,1,2] [0,1] (by kernel_rfl),Option.some.inj e4⟩
  have e4:=bif_f h5 e4
  refine PO.run 12 rfl ?_
  refine PO.same rfl (pickF_ok rfl rfl rfl) rfl ?_
  refine PO.nil ?_
  exact ⟨false,Weak.one [0,1,2] [0,1] (by kernel_rfl),Option.some.inj e4⟩
 rintro _ ⟨v1,w12,rfl⟩
 refine PO.weak w12 ?_
 refine PO.run 1 rfl ?_
 refine PO.nil ?_
 have hq:=Option.some.inj hF
 subst hq
 exact PC.ret' (retSK [0,1,2] [0,1] (by kernel_rfl) (.refl _) ⟨rfl,rfl,rfl⟩)

/-! 30_s (*platen/judge.bench).row -/
def F30_s_l1 (k : Nat) (a1 : GPage) (a2 : GRow) : Nat → Bool → Bool → Bool → Bool → Int → (List Gspot) → (List Int) → (List GChar) → (List Int) → Int → (List GWrong) → Option (Bool × Bool × Bool × Bool × (List Gspot) × (List Int) × (List GChar) × (List Int) × Int × (List GWrong))
  | 0, _, _, _, _, _, _, _, _, _, _, _ => none
  | j8 + 1, v24, v25, v26, v27, v28, v29, v30, v31, v32, v33, v34 =>
    bif decide (v28 < (a2.boxes.length : Int)) then (bindI a2.boxes v28 fun y46 =>
    Option.bind (α := Bool) (bif v24 then (some true) else (Option.bind (α := Bool) (bif decide (v28 > 0) then (bindI a2.boxes (w (v28 - 1)) fun y49 =>
    Option.bind (α := Bool) (bif decide (y46.x < y49.x) then (some true) else (Option.bind (α := Bool) (bif y46.y != a2.y then (some true) else (Option.bind (α := Bool) (bif decide (y46.from_ < v33) then (some true) else (some (decide (y46.to_ < y46.from_)))) fun (v52 : Bool) =>
    some v52)) fun (v51 : Bool) =>
    some v51)) fun (v50 : Bool) =>
    some v50) else (Option.bind (α := Bool) (bif y46.y != a2.y then (some true) else (Option.bind (α := Bool) (bif decide (y46.from_ < v33) then (some true) else (some (decide (y46.to_ < y46.from_)))) fun (v54 : Bool) =>
    some v54)) fun (v53 : Bool) =>
    some v53)) fun (v48 : Bool) =>
    some v48)) fun (v47 : Bool) =>
    Option.bind (α := Bool) (bif v25 then (some true) else (Option.bind (α := Bool) (bif decide (y46.x < 0) then (some true) else (Option.bind (α := Bool) (bif !a2.over_ then ((F42 k y46.x y46.width a1.width).bind fun r52 =>
    Option.bind (α := Bool) (bif r52 then (some true) else (Option.bind (α := Bool) (bif !a1.over_ then ((F41 k y46 a1).bind fun r60 =>
    some r60) else (some false)) fun (v59 : Bool) =>
    some v59)) fun (v58 : Bool) =>
    some v58) else (Option.bind (α := Bool) (bif !a1.over_ then ((F41 k y46 a1).bind fun r67 =>
    some r67) else (some false)) fun (v60 : Bool) =>
    some v60)) fun (v57 : Bool) =>
    some v57)) fun (v56 : Bool) =>
    some v56)) fun (v55 : Bool) =>
    Option.bind (α := Bool) (bif v27 then (some true) else ((F42 k y46.x y46.width a1.width).bind fun r76 =>
    some r76)) fun (v61 : Bool) =>
    Option.bind (α := Bool × (List Gspot) × (List Int) × (List GChar) × (List Int) × Int × (List GWrong)) (bif v26 then (some (true, v29, v30, v31, v32, v33, v34)) else ((F43_s k y46 v29 v30 v31 v32 v33 v34).bind fun r82 =>
    Option.bind (α := Bool × (List Gspot) × (List Int) × (List GChar) × (List Int) × Int × (List GWrong)) (bif r82.1 then (some (true, r82.2.1, r82.2.2.1, r82.2.2.2.1, r82.2.2.2.2.1, r82.2.2.2.2.2.1, r82.2.2.2.2.2.2)) else ((F31_s k r82.2.2.2.2.2.1 y46.from_ false r82.2.1 r82.2.2.1 r82.2.2.2.1 r82.2.2.2.2.1 r82.2.2.2.2.2.1 r82.2.2.2.2.2.2).bind fun r87 =>
    some (r87.1, r87.2.1, r87.2.2.1, r87.2.2.2.1, r87.2.2.2.2.1, r87.2.2.2.2.2.1, r87.2.2.2.2.2.2))) fun (v69, v70, v71, v72, v73, v74, v75) =>
    some (v69, v70, v71, v72, v73, v74, v75))) fun (v62, v63, v64, v65, v66, v67, v68) =>
    F30_s_l1 k a1 a2 j8 v47 v55 v62 v61 (w (v28 + 1)) v63 v64 v65 v66 (if y46.to_ > v67 then y46.to_ else v67) v68) else (some (v24, v25, v26, v27, v29, v30, v31, v32, v33, v34))
def F30_s (k : Nat) (a0 : Gspot) (a1 : GPage) (a2 : GRow) (a3 : Option GRow) (a4 : List Gspot) (a5 : List Int) (a6 : List GChar) (a7 : List Int) (a8 : Int) (a9 : List GWrong) : Option ((List Gspot) × (List Int) × (List GChar) × (List Int) × Int × (List GWrong)) :=
Option.bind (α := Bool) (bif (a3).isSome then ((a3).bind fun y2 =>
some (decide (a2.y < y2.y))) else (some false)) fun (v1 : Bool) =>
Option.bind (α := Bool × Bool × Bool × Bool × (List Gspot) × (List Int) × (List GChar) × (List Int) × Int × (List GWrong)) (F30_s_l1 k a1 a2 k v1 false false false 0 a4 a5 a6 a7 a8 a9) fun (v3, v4, v5, v6, v7, v8, v9, v10, v11, v12) =>
(F28_s k a0 v3 1 v7 v8 v9 v10 v11 v12).bind fun r92 =>
(F28_s k a0 v4 2 r92.1 r92.2.1 r92.2.2.1 r92.2.2.2.1 r92.2.2.2.2.1 r92.2.2.2.2.2).bind fun r94 =>
(F28_s k a0 v5 3 r94.1 r94.2.1 r94.2.2.1 r94.2.2.2.1 r94.2.2.2.2.1 r94.2.2.2.2.2).bind fun r96 =>
Option.bind (α := Bool) (bif a2.over_ then (Option.bind (α := Bool) (bif !v6 then (some true) else (some a2.loose)) fun (v77 : Bool) =>
some v77) else (some false)) fun (v76 : Bool) =>
(F28_s k a0 v76 4 r96.1 r96.2.1 r96.2.2.1 r96.2.2.2.1 r96.2.2.2.2.1 r96.2.2.2.2.2).bind fun r106 =>
some (r106.1, r106.2.1, r106.2.2.1, r106.2.2.2.1, r106.2.2.2.2.1, r106.2.2.2.2.2)
theorem L30_s (k : Nat) (a0 : Gspot) (a1 : GPage) (a2 : GRow) (a3 : Option GRow) (a4 : List Gspot) (a5 : List Int) (a6 : List GChar) (a7 : List Int) (a8 : Int) (a9 : List GWrong) (r : (List Gspot) × (List Int) × (List GChar) × (List Int) × Int × (List GWrong)) (hF : F30_s k a0 a1 a2 a3 a4 a5 a6 a7 a8 a9 = some r) : PF Try.prog orc 30 [vP 2,.agg (cGspot a0),.agg (cGPage a1),.agg (cGRow a2),optE cGRow a3] [⟨4294967295,[.list 2 (List.map cGspot a4) none]⟩,⟨4294967295,[.list 7 (List.map cI_i64 a5) none]⟩,⟨0,[.list 3 (List.map cGChar a6) none,.mp 0,.mp 1,.list 1 (List.map cI_i64 a7) (some 0),vI a8,.list 3 (List.map cGWrong a9) (some 1)]⟩] [a7.length,a9.length] (fun p fr tk=>p = .tup [] ∧ fr = [⟨4294967295,[.list 2 (List.map cGspot r.1) none]⟩,⟨4294967295,[.list 7 (List.map cI_i64 r.2.1) none]⟩,⟨0,[.list 3 (List.map cGChar r.2.2.1) none,.mp 0,.mp 1,.list 1 (List.map cI_i64 r.2.2.2.1) (some 0),vI r.2.2.2.2.1,.list 3 (List.map cGWrong r.2.2.2.2.2) (some 1)]⟩] ∧ tk = [r.2.2.2.1.length,r.2.2.2.2.2.length]):=by
 unfold F30_s at hF
 refine PF.enterS Try.func30 rfl rfl rfl (by kernel_rfl) rfl ?_
 refine PC.region ?_
 refine oK 3 [0,1,2,3,4,5] [0,1] [(0,vP 2),(4,optE cGRow a3),(6,vP 3),(7,vP 4),(8,vP 5)] [⟨4294967295,[.list 2 (List.map cGspot a4) none]⟩,⟨4294967295,[.list 7 (List.map cI_i64 a5) none]⟩,⟨0,[.list 3 (List.map cGChar a6) none,.mp 0,.mp 1,.list 1 (List.map cI_i64 a7) (some 0),vI a8,.list 3 (List.map cGWrong a9) (some 1)]⟩,⟨0,(cGspot a0)⟩,⟨0,(cGPage a1)⟩,⟨0,(cGRow a2)⟩] [a7.length,a9.length] (by cases a3 <;> kernel_rfl) ?_
 refine PO.nil ?_
 refine PC.drawn (order:=[0,1,2,3,4,5,6,7,8,9,10,11,12,13]) (by kernel_rfl) ?_
 refine PO.run 1 rfl ?_
 refine PO.same rfl (neO_ok Try.underlying73 rfl rfl (by kernel_rfl)) rfl ?_
 refine PO.run 1 rfl ?_
 refine bindK hF (fun x1 e2 hF=>?_)
 refine PO.cut 8 (fun s=>∃ (v1 : Bool),Weak s (PS.of 167 [(0,vP 2),(6,vP 3),(7,vP 4),(8,vP 5),(26,vB v1)] [⟨4294967295,[.list 2 (List.map cGspot a4) none]⟩,⟨4294967295,[.list 7 (List.map cI_i64 a5) none]⟩,⟨0,[.list 3 (List.map cGChar a6) none,.mp 0,.mp 1,.list 1 (List.map cI_i64 a7) (some 0),vI a8,.list 3 (List.map cGWrong a9) (some 1)]⟩,⟨0,(cGspot a0)⟩,⟨0,(cGPage a1)⟩,⟨0,(cGRow a2)⟩] [a7.length,a9.length] 3 2) ∧ v1 = x1) ?_ ?_
 ·refine PO.case (t:=18) rfl rfl (fun h3=>?_) (fun h3=>?_)
  ·have e2:=bif_t h3 e2
   refine PO.run 3 rfl ?_
   refine bindK e2 (fun y2 h4 e2=>?_)
   refine PO.same rfl (nilO_ok rfl h4) rfl ?_
   refine PO.run 3 rfl ?_
   refine PO.same rfl (pickT_ok rfl rfl rfl) rfl ?_
   refine PO.nil ?_
   exact ⟨decide (a2.y < y2.y),Weak.one [0,1,2,3,4,5] [0,1] (by kernel_rfl),Option.some.inj e2⟩
  have e2:=bif_f h3 e2
  refine PO.run 7 rfl ?_
  refine PO.same rfl (pickF_ok rfl rfl rfl) rfl ?_
  refine PO.nil ?_
  exact ⟨false,Weak.one [0,1,2,3,4,5] [0,1] (by kernel_rfl),Option.some.inj e2⟩
 rintro _ ⟨v1,w5,rfl⟩
 refine PO.weak w5 ?_
 refine PO.run 3 rfl ?_
 refine PO.nil ?_
 refine PC.run (n:=2) rfl ?_
 refine PC.assoc ?_
 refine PC.region ?_
 refine PO.run 2 rfl ?_
 refine PO.same rfl (len_ok Try.underlying39 rfl (List.length_map _)) rfl ?_
 refine PO.run 1 rfl ?_
 refine PO.nil ?_
 refine bindK hF (fun x6 e7 hF=>?_)
 refine PC.blockJ (fun s=>∃ (v3 : Bool) (v4 : Bool) (v5 : Bool) (v6 : Bool) (v7 : List Gspot) (v8 : List Int) (v9 : List GChar) (v10 : List Int) (v11 : Int) (v12 : List GWrong),Weak s (PS.of 167 [(0,vP 2),(6,vP 3),(8,vP 4),(10,vB v3),(11,vB v4),(12,vB v5),(13,vB v6)] [⟨4294967295,[.list 2 (List.map cGspot v7) none]⟩,⟨4294967295,[.list 7 (List.map cI_i64 v8) none]⟩,⟨0,[.list 3 (List.map cGChar v9) none,.mp 0,.mp 1,.list 1 (List.map cI_i64 v10) (some 0),vI v11,.list 3 (List.map cGWrong v12) (some 1)]⟩,⟨0,(cGspot a0)⟩,⟨0,(cGRow a2)⟩] [v10.length,v12.length] 3 2) ∧ (v3,v4,v5,v6,v7,v8,v9,v10,v11,v12) = x6) ?_ ?_
 ·refine PC.loop (fun j8 s=>∃ (v24 : Bool) (v25 : Bool) (v26 : Bool) (v27 : Bool) (v28 : Int) (v29 : List Gspot) (v30 : List Int) (v31 : List GChar) (v32 : List Int) (v33 : Int) (v34 : List GWrong),Weak s (PS.of 167 [(0,vP 2),(6,vP 3),(7,vP 4),(8,vP 5),(10,vB v24),(11,vB v25),(12,vB v26),(13,vB v27),(28,.list 10 (List.map cGBox a2.boxes) none),(29,vI (a2.boxes.length : Int)),(30,vI v28)] [⟨4294967295,[.list 2 (List.map cGspot v29) none]⟩,⟨4294967295,[.list 7 (List.map cI_i64 v30) none]⟩,⟨0,[.list 3 (List.map cGChar v31) none,.mp 0,.mp 1,.list 1 (List.map cI_i64 v32) (some 0),vI v33,.list 3 (List.map cGWrong v34) (some 1)]⟩,⟨0,(cGspot a0)⟩,⟨0,(cGPage a1)⟩,⟨0,(cGRow a2)⟩] [v32.length,v34.length] 3 2) ∧ F30_s_l1 k a1 a2 j8 v24 v25 v26 v27 v28 v29 v30 v31 v32 v33 v34 = some x6) (fun j8 s=>?_) k ⟨v1,false,false,false,0,a4,a5,a6,a7,a8,a9,Weak.one [0,1,2,3,4,5] [0,1] (by kernel_rfl),e7⟩
  rintro ⟨v24,v25,v26,v27,v28,v29,v30,v31,v32,v33,v34,w9,e7⟩
  refine PC.weak w9 ?_
  obtain _ | j8:=j8
  · rw [F30_s_l1] at e7; cases e7
  rw [F30_s_l1] at e7
  refine PC.run (n:=2) rfl ?_
  refine PC.cond rfl (fun h10=>?_) (fun h10=>?_)
  ·have e7:=bif_t h10 e7
   refine PC.noop ?_
   refine PC.block ?_
   refine PC.region ?_
   refine PO.run 1 rfl ?_
   refine bindIK e7 (fun y46 h11 h12 e7=>?_)
   refine PO.same rfl (indexAddr_ok Try.underlying39 rfl rfl rfl h11 (map_at h12)) rfl ?_
   refine oK 4 [0,1,2,3,4,5,6] [0,1] [(0,vP 2),(6,vP 3),(7,vP 4),(8,vP 5),(10,vB v24),(11,vB v25),(12,vB v26),(13,vB v27),(14,vI v28),(15,vP 6),(28,.list 10 (List.map cGBox a2.boxes) none),(29,vI (a2.boxes.length : Int)),(30,vI v28)] [⟨4294967295,[.list 2 (List.map cGspot v29) none]⟩,⟨4294967295,[.list 7 (List.map cI_i64 v30) none]⟩,⟨0,[.list 3 (List.map cGChar v31) none,.mp 0,.mp 1,.list 1 (List.map cI_i64 v32) (some 0),vI v33,.list 3 (List.map cGWrong v34) (some 1)]⟩,⟨0,(cGspot a0)⟩,⟨0,(cGPage a1)⟩,⟨0,(cGRow a2)⟩,⟨0,(cGBox y46)⟩] [v32.length,v34.length] (by kernel_rfl) ?_
   refine PO.nil ?_
   refine PC.drawn (order:=[0,1,2,3,4,5,6,7,8,9,10,11,12,13,14,15,16,17,18,19,20,21,22,23,24,25,26,27,28,29,30,31,32,33,34,35,36,37,38,39,40]) (by kernel_rfl) ?_
   refine PO.run 2 rfl ?_
   refine bindK e7 (fun x13 e14 e7=>?_)
   refine PO.cut 38 (fun s=>∃ (v47 : Bool),Weak s (PS.of 167 [(0,vP 2),(6,vP 3),(7,vP 4),(8,vP 5),(10,vB v24),(11,vB v25),(12,vB v26),(13,vB v27),(15,vP 6),(28,.list 10 (List.map cGBox a2.boxes) none),(29,vI (a2.boxes.length : Int)),(30,vI v28),(74,vB v47)] [⟨4294967295,[.list 2 (List.map cGspot v29) none]⟩,⟨4294967295,[.list 7 (List.map cI_i64 v30) none]⟩,⟨0,[.list 3 (List.map cGChar v31) none,.mp 0,.mp 1,.list 1 (List.map cI_i64 v32) (some 0),vI v33,.list 3 (List.map cGWrong v34) (some 1)]⟩,⟨0,(cGspot a0)⟩,⟨0,(cGPage a1)⟩,⟨0,(cGRow a2)⟩,⟨0,(cGBox y46)⟩] [v32.length,v34.length] 3 2) ∧ v47 = x13) ?_ ?_
   ·refine PO.case (t:=36) rfl rfl (fun h15=>?_) (fun h15=>?_)
    ·have e14:=bif_t h15 e14
     refine PO.run 14 rfl ?_
     refine PO.same rfl (pickT_ok rfl rfl rfl) rfl ?_
     refine PO.run 6 rfl ?_
     refine PO.same rfl (pickT_ok rfl rfl rfl) rfl ?_
     refine PO.run 8 rfl ?_
     refine PO.same rfl (pickT_ok rfl rfl rfl) rfl ?_
     refine PO.run 6 rfl ?_
     refine PO.same rfl (pickT_ok rfl rfl rfl) rfl ?_
     refine PO.nil ?_
     exact ⟨true,Weak.one [0,1,2,3,4,5,6] [0,1] (by kernel_rfl),Option.some.inj e14⟩
    have e14:=bif_f h15 e14
    refine PO.run 3 rfl ?_
    refine bindK e14 (fun x16 e17 e14=>?_)
    refine PO.cut 35 (fun s=>∃ (v48 : Bool),Weak s (PS.of 167 [(0,vP 2),(6,vP 3),(7,vP 4),(8,vP 5),(10,vB v24),(11,vB v25),(12,vB v26),(13,vB v27),(15,vP 6),(28,.list 10 (List.map cGBox a2.boxes) none),(29,vI (a2.boxes.length : Int)),(30,vI v28),(74,vB v48)] [⟨4294967295,[.list 2 (List.map cGspot v29) none]⟩,⟨4294967295,[.list 7 (List.map cI_i64 v30) none]⟩,⟨0,[.list 3 (List.map cGChar v31) none,.mp 0,.mp 1,.list 1 (List.map cI_i64 v32) (some 0),vI v33,.list 3 (List.map cGWrong v34) (some 1)]⟩,⟨0,(cGspot a0)⟩,⟨0,(cGPage a1)⟩,⟨0,(cGRow a2)⟩,⟨0,(cGBox y46)⟩] [v32.length,v34.length] 3 2) ∧ v48 = x16) ?_ ?_
    ·refine PO.case (t:=39) rfl rfl (fun h18=>?_) (fun h18=>?_)
     ·have e17:=bif_t h18 e17
      refine PO.run 6 rfl ?_
      refine bindIK e17 (fun y49 h19 h20 e17=>?_)
      refine PO.same rfl (indexAddr_ok Try.underlying39 rfl rfl rfl h19 (map_at h20)) rfl ?_
      refine PO.run 3 rfl ?_
      refine PO.same rfl (pickT_ok rfl rfl rfl) rfl ?_
      refine PO.same rfl (pickF_ok rfl rfl rfl) rfl ?_
      refine PO.run 1 rfl ?_
      refine bindK e17 (fun x21 e22 e17=>?_)
      refine PO.cut 22 (fun s=>∃ (v50 : Bool),Weak s (PS.of 167 [(0,vP 2),(6,vP 3),(7,vP 4),(8,vP 5),(10,vB v24),(11,vB v25),(12,vB v26),(13,vB v27),(15,vP 6),(28,.list 10 (List.map cGBox a2.boxes) none),(29,vI (a2.boxes.length : Int)),(30,vI v28),(74,vB v50)] [⟨4294967295,[.list 2 (List.map cGspot v29) none]⟩,⟨4294967295,[.list 7 (List.map cI_i64 v30) none]⟩,⟨0,[.list 3 (List.map cGChar v31) none,.mp 0,.mp 1,.list 1 (List.map cI_i64 v32) (some 0),vI v33,.list 3 (List.map cGWrong v34) (some 1)]⟩,⟨0,(cGspot a0)⟩,⟨0,(cGPage a1)⟩,⟨0,(cGRow a2)⟩,⟨0,(cGBox y46)⟩] [v32.length,v34.length] 3 2) ∧ v50 = x21) ?_ ?_
      ·refine PO.case (t:=52) rfl rfl (fun h23=>?_) (fun h23=>?_)
       ·have e22:=bif_t h23 e22
        refine PO.run 5 rfl ?_
        refine PO.same rfl (pickT_ok rfl rfl rfl) rfl ?_
        refine PO.run 8 rfl ?_
        refine PO.same rfl (pickT_ok rfl rfl rfl) rfl ?_
        refine PO.run 6 rfl ?_
        refine PO.same rfl (pickT_ok rfl rfl rfl) rfl ?_
        refine PO.nil ?_
        exact ⟨true,Weak.one [0,1,2,3,4,5,6] [0,1] (by kernel_rfl),Option.some.inj e22⟩
       have e22:=bif_f h23 e22
       refine PO.run 5 rfl ?_
       refine PO.same rfl (pickF_ok rfl rfl rfl) rfl ?_
       refine PO.run 1 rfl ?_
       refine bindK e22 (fun x24 e25 e22=>?_)
       refine PO.cut 15 (fun s=>∃ (v51 : Bool),Weak s (PS.of 167 [(0,vP 2),(6,vP 3),(7,vP 4),(8,vP 5),(10,vB v24),(11,vB v25),(12,vB v26),(13,vB v27),(15,vP 6),(28,.list 10 (List.map cGBox a2.boxes) none),(29,vI (a2.boxes.length : Int)),(30,vI v28),(74,vB v51)] [⟨4294967295,[.list 2 (List.map cGspot v29) none]⟩,⟨4294967295,[.list 7 (List.map cI_i64 v30) none]⟩,⟨0,[.list 3 (List.map cGChar v31) none,.mp 0,.mp 1,.list 1 (List.map cI_i64 v32) (some 0),vI v33,.list 3 (List.map cGWrong v34) (some 1)]⟩,⟨0,(cGspot a0)⟩,⟨0,(cGPage a1)⟩,⟨0,(cGRow a2)⟩,⟨0,(cGBox y46)⟩] [v32.length,v34.length] 3 2) ∧ v51 = x24) ?_ ?_
       ·refine PO.case (t:=59) rfl rfl (fun h26=>?_) (fun h26=>?_)
        ·have e25:=bif_t h26 e25
         refine PO.run 7 rfl ?_
         refine PO.same rfl (pickT_ok rfl rfl rfl) rfl ?_
         refine PO.run 6 rfl ?_
         refine PO.same rfl (pickT_ok rfl rfl rfl) rfl ?_
         refine PO.nil ?_
         exact ⟨true,Weak.one [0,1,2,3,4,5,6] [0,1] (by kernel_rfl),Option.some.inj e25⟩
        have e25:=bif_f h26 e25
        refine PO.run 7 rfl ?_
        refine PO.same rfl (pickF_ok rfl rfl rfl) rfl ?_
        refine PO.run 1 rfl ?_
        refine bindK e25 (fun x27 e28 e25=>?_)
        refine PO.cut 6 (fun s=>∃ (v52 : Bool),Weak s (PS.of 167 [(0,vP 2),(6,vP 3),(7,vP 4),(8,vP 5),(10,vB v24),(11,vB v25),(12,vB v26),(13,vB v27),(15,vP 6),(28,.list 10 (List.map cGBox a2.boxes) none),(29,vI (a2.boxes.length : Int)),(30,vI v28),(74,vB v52)] [⟨4294967295,[.list 2 (List.map cGspot v29) none]⟩,⟨4294967295,[.list 7 (List.map cI_i64 v30) none]⟩,⟨0,[.list 3 (List.map cGChar v31) none,.mp 0,.mp 1,.list 1 (List.map cI_i64 v32) (some 0),vI v33,.list 3 (List.map cGWrong v34) (some 1)]⟩,⟨0,(cGspot a0)⟩,⟨0,(cGPage a1)⟩,⟨0,(cGRow a2)⟩,⟨0,(cGBox y46)⟩] [v32.length,v34.length] 3 2) ∧ v52 = x27) ?_ ?_
        ·refine PO.case (t:=68) rfl rfl (fun h29=>?_) (fun h29=>?_)
         ·have e28:=bif_t h29 e28
          refine PO.run 5 rfl ?_
          refine PO.same rfl (pickT_ok rfl rfl rfl) rfl ?_
          refine PO.nil ?_
          exact ⟨true,Weak.one [0,1,2,3,4,5,6] [0,1] (by kernel_rfl),Option.some.inj e28⟩
         have e28:=bif_f h29 e28
         refine PO.run 5 rfl ?_
         refine PO.same rfl (pickF_ok rfl rfl rfl) rfl ?_
         refine PO.nil ?_
         exact ⟨decide (y46.to_ < y46.from_),Weak.one [0,1,2,3,4,5,6] [0,1] (by kernel_rfl),Option.some.inj e28⟩
        rintro _ ⟨v52,w30,rfl⟩
        refine PO.weak w30 ?_
        refine PO.nil ?_
        exact ⟨v52,Weak.one [0,1,2,3,4,5,6] [0,1] (by kernel_rfl),Option.some.inj e25⟩
       rintro _ ⟨v51,w31,rfl⟩
       refine PO.weak w31 ?_
       refine PO.nil ?_
       exact ⟨v51,Weak.one [0,1,2,3,4,5,6] [0,1] (by kernel_rfl),Option.some.inj e22⟩
      rintro _ ⟨v50,w32,rfl⟩
      refine PO.weak w32 ?_
      refine PO.nil ?_
      exact ⟨v50,Weak.one [0,1,2,3,4,5,6] [0,1] (by kernel_rfl),Option.some.inj e17⟩
     have e17:=bif_f h18 e17
     refine PO.run 10 rfl ?_
     refine PO.same rfl (pickF_ok rfl rfl rfl) rfl ?_
     refine PO.same rfl (pickF_ok rfl rfl rfl) rfl ?_
     refine PO.run 6 rfl ?_
     refine PO.same rfl (pickF_ok rfl rfl rfl) rfl ?_
     refine PO.run 1 rfl ?_
     refine bindK e17 (fun x33 e34 e17=>?_)
     refine PO.cut 15 (fun s=>∃ (v53 : Bool),Weak s (PS.of 167 [(0,vP 2),(6,vP 3),(7,vP 4),(8,vP 5),(10,vB v24),(11,vB v25),(12,vB v26),(13,vB v27),(15,vP 6),(28,.list 10 (List.map cGBox a2.boxes) none),(29,vI (a2.boxes.length : Int)),(30,vI v28),(74,vB v53)] [⟨4294967295,[.list 2 (List.map cGspot v29) none]⟩,⟨4294967295,[.list 7 (List.map cI_i64 v30) none]⟩,⟨0,[.list 3 (List.map cGChar v31) none,.mp 0,.mp 1,.list 1 (List.map cI_i64 v32) (some 0),vI v33,.list 3 (List.map cGWrong v34) (some 1)]⟩,⟨0,(cGspot a0)⟩,⟨0,(cGPage a1)⟩,⟨0,(cGRow a2)⟩,⟨0,(cGBox y46)⟩] [v32.length,v34.length] 3 2) ∧ v53 = x33) ?_ ?_
     ·refine PO.case (t:=59) rfl rfl (fun h35=>?_) (fun h35=>?_)
      ·have e34:=bif_t h35 e34
       refine PO.run 7 rfl ?_
       refine PO.same rfl (pickT_ok rfl rfl rfl) rfl ?_
       refine PO.run 6 rfl ?_
       refine PO.same rfl (pickT_ok rfl rfl rfl) rfl ?_
       refine PO.nil ?_
       exact ⟨true,Weak.one [0,1,2,3,4,5,6] [0,1] (by kernel_rfl),Option.some.inj e34⟩
      have e34:=bif_f h35 e34
      refine PO.run 7 rfl ?_
      refine PO.same rfl (pickF_ok rfl rfl rfl) rfl ?_
      refine PO.run 1 rfl ?_
      refine bindK e34 (fun x36 e37 e34=>?_)
      refine PO.cut 6 (fun s=>∃ (v54 : Bool),Weak s (PS.of 167 [(0,vP 2),(6,vP 3),(7,vP 4),(8,vP 5),(10,vB v24),(11,vB v25),(12,vB v26),(13,vB v27),(15,vP 6),(28,.list 10 (List.map cGBox a2.boxes) none),(29,vI (a2.boxes.length : Int)),(30,vI v28),(74,vB v54)] [⟨4294967295,[.list 2 (List.map cGspot v29) none]⟩,⟨4294967295,[.list 7 (List.map cI_i64 v30) none]⟩,⟨0,[.list 3 (List.map cGChar v31) none,.mp 0,.mp 1,.list 1 (List.map cI_i64 v32) (some 0),vI v33,.list 3 (List.map cGWrong v34) (some 1)]⟩,⟨0,(cGspot a0)⟩,⟨0,(cGPage a1)⟩,⟨0,(cGRow a2)⟩,⟨0,(cGBox y46)⟩] [v32.length,v34.length] 3 2) ∧ v54 = x36) ?_ ?_
      ·refine PO.case (t:=68) rfl rfl (fun h38=>?_) (fun h38=>?_)
       ·have e37:=bif_t h38 e37
        refine PO.run 5 rfl ?_
        refine PO.same rfl (pickT_ok rfl rfl rfl) rfl ?_
        refine PO.nil ?_
        exact ⟨true,Weak.one [0,1,2,3,4,5,6] [0,1] (by kernel_rfl),Option.some.inj e37⟩
       have e37:=bif_f h38 e37
       refine PO.run 5 rfl ?_
       refine PO.same rfl (pickF_ok rfl rfl rfl) rfl ?_
       refine PO.nil ?_
       exact ⟨decide (y46.to_ < y46.from_),Weak.one [0,1,2,3,4,5,6] [0,1] (by kernel_rfl),Option.some.inj e37⟩
      rintro _ ⟨v54,w39,rfl⟩
      refine PO.weak w39 ?_
      refine PO.nil ?_
      exact ⟨v54,Weak.one [0,1,2,3,4,5,6] [0,1] (by kernel_rfl),Option.some.inj e34⟩
     rintro _ ⟨v53,w40,rfl⟩
     refine PO.weak w40 ?_
     refine PO.nil ?_
     exact ⟨v53,Weak.one [0,1,2,3,4,5,6] [0,1] (by kernel_rfl),Option.some.inj e17⟩
    rintro _ ⟨v48,w41,rfl⟩
    refine PO.weak w41 ?_
    refine PO.nil ?_
    exact ⟨v48,Weak.one [0,1,2,3,4,5,6] [0,1] (by kernel_rfl),Option.some.inj e14⟩
   rintro _ ⟨v47,w42,rfl⟩
   refine PO.weak w42 ?_
   refine PO.run 1 rfl ?_
   refine PO.nil ?_
   refine PC.region ?_
   refine PO.run 2 rfl ?_
   refine bindK e7 (fun x43 e44 e7=>?_)
   refine PO.cut 28 (fun s=>∃ (v55 : Bool),Weak s (PS.of 167 [(0,vP 2),(6,vP 3),(7,vP 4),(8,vP 5),(10,vB v47),(11,vB v25),(12,vB v26),(13,vB v27),(15,vP 6),(28,.list 10 (List.map cGBox a2.boxes) none),(29,vI (a2.boxes.length : Int)),(30,vI v28),(104,vB v55)] [⟨4294967295,[.list 2 (List.map cGspot v29) none]⟩,⟨4294967295,[.list 7 (List.map cI_i64 v30) none]⟩,⟨0,[.list 3 (List.map cGChar v31) none,.mp 0,.mp 1,.list 1 (List.map cI_i64 v32) (some 0),vI v33,.list 3 (List.map cGWrong v34) (some 1)]⟩,⟨0,(cGspot a0)⟩,⟨0,(cGPage a1)⟩,⟨0,(cGRow a2)⟩,⟨0,(cGBox y46)⟩] [v32.length,v34.length] 3 2) ∧ v55 = x43) ?_ ?_
   ·refine PO.case (t:=76) rfl rfl (fun h45=>?_) (fun h45=>?_)
    ·have e44:=bif_t h45 e44
     refine PO.run 3 rfl ?_
     refine PO.same rfl (pickT_ok rfl rfl rfl) rfl ?_
     refine PO.run 13 rfl ?_
     refine PO.same rfl (pickT_ok rfl rfl rfl) rfl ?_
     refine PO.run 9 rfl ?_
     refine PO.same rfl (pickT_ok rfl rfl rfl) rfl ?_
     refine PO.nil ?_
     exact ⟨true,Weak.one [0,1,2,3,4,5,6] [0,1] (by kernel_rfl),Option.some.inj e44⟩
    have e44:=bif_f h45 e44
    refine PO.run 3 rfl ?_
    refine PO.same rfl (pickF_ok rfl rfl rfl) rfl ?_
    refine PO.run 1 rfl ?_
    refine bindK e44 (fun x46 e47 e44=>?_)
    refine PO.cut 23 (fun s=>∃ (v56 : Bool),Weak s (PS.of 167 [(0,vP 2),(6,vP 3),(7,vP 4),(8,vP 5),(10,vB v47),(11,vB v25),(12,vB v26),(13,vB v27),(15,vP 6),(28,.list 10 (List.map cGBox a2.boxes) none),(29,vI (a2.boxes.length : Int)),(30,vI v28),(104,vB v56)] [⟨4294967295,[.list 2 (List.map cGspot v29) none]⟩,⟨4294967295,[.list 7 (List.map cI_i64 v30) none]⟩,⟨0,[.list 3 (List.map cGChar v31) none,.mp 0,.mp 1,.list 1 (List.map cI_i64 v32) (some 0),vI v33,.list 3 (List.map cGWrong v34) (some 1)]⟩,⟨0,(cGspot a0)⟩,⟨0,(cGPage a1)⟩,⟨0,(cGRow a2)⟩,⟨0,(cGBox y46)⟩] [v32.length,v34.length] 3 2) ∧ v56 = x46) ?_ ?_
    ·refine PO.case (t:=81) rfl rfl (fun h48=>?_) (fun h48=>?_)
     ·have e47:=bif_t h48 e47
      refine PO.run 12 rfl ?_
      refine PO.same rfl (pickT_ok rfl rfl rfl) rfl ?_
      refine PO.run 9 rfl ?_
      refine PO.same rfl (pickT_ok rfl rfl rfl) rfl ?_
      refine PO.nil ?_
      exact ⟨true,Weak.one [0,1,2,3,4,5,6] [0,1] (by kernel_rfl),Option.some.inj e47⟩
     have e47:=bif_f h48 e47
     refine PO.run 4 rfl ?_
     refine bindK e47 (fun x49 e50 e47=>?_)
     refine PO.cut 19 (fun s=>∃ (v57 : Bool),Weak s (PS.of 167 [(0,vP 2),(6,vP 3),(7,vP 4),(8,vP 5),(10,vB v47),(11,vB v25),(12,vB v26),(13,vB v27),(15,vP 6),(28,.list 10 (List.map cGBox a2.boxes) none),(29,vI (a2.boxes.length : Int)),(30,vI v28),(104,vB v57)] [⟨4294967295,[.list 2 (List.map cGspot v29) none]⟩,⟨4294967295,[.list 7 (List.map cI_i64 v30) none]⟩,⟨0,[.list 3 (List.map cGChar v31) none,.mp 0,.mp 1,.list 1 (List.map cI_i64 v32) (some 0),vI v33,.list 3 (List.map cGWrong v34) (some 1)]⟩,⟨0,(cGspot a0)⟩,⟨0,(cGPage a1)⟩,⟨0,(cGRow a2)⟩,⟨0,(cGBox y46)⟩] [v32.length,v34.length] 3 2) ∧ v57 = x49) ?_ ?_
     ·refine PO.case (t:=85) rfl rfl (fun h51=>?_) (fun h51=>?_)
      ·have e50:=bif_t h51 e50
       refine PO.run 6 rfl ?_
       refine bindK e50 (fun r52 e53 e50=>?_)
       refine PO.call rfl rfl rfl rfl (ks:=[]) (ts:=[]) (fr1:=[]) rfl rfl rfl trivial (L42 k y46.x y46.width a1.width _ e53) ?_
       rintro _ _ _ ⟨rfl,rfl,rfl⟩
       refine ⟨_,_,rfl,rfl,?_⟩
       refine PO.same rfl (pickT_ok rfl rfl rfl) rfl ?_
       refine PO.same rfl (pickF_ok rfl rfl rfl) rfl ?_
       refine PO.run 1 rfl ?_
       refine bindK e50 (fun x54 e55 e50=>?_)
       refine PO.cut 9 (fun s=>∃ (v58 : Bool),Weak s (PS.of 167 [(0,vP 2),(6,vP 3),(7,vP 4),(8,vP 5),(10,vB v47),(11,vB v25),(12,vB v26),(13,vB v27),(15,vP 6),(28,.list 10 (List.map cGBox a2.boxes) none),(29,vI (a2.boxes.length : Int)),(30,vI v28),(104,vB v58)] [⟨4294967295,[.list 2 (List.map cGspot v29) none]⟩,⟨4294967295,[.list 7 (List.map cI_i64 v30) none]⟩,⟨0,[.list 3 (List.map cGChar v31) none,.mp 0,.mp 1,.list 1 (List.map cI_i64 v32) (some 0),vI v33,.list 3 (List.map cGWrong v34) (some 1)]⟩,⟨0,(cGspot a0)⟩,⟨0,(cGPage a1)⟩,⟨0,(cGRow a2)⟩,⟨0,(cGBox y46)⟩] [v32.length,v34.length] 3 2) ∧ v58 = x54) ?_ ?_
       ·refine PO.case (t:=95) rfl rfl (fun h56=>?_) (fun h56=>?_)
        ·have e55:=bif_t h56 e55
         refine PO.run 8 rfl ?_
         refine PO.same rfl (pickT_ok rfl rfl rfl) rfl ?_
         refine PO.nil ?_
         exact ⟨true,Weak.one [0,1,2,3,4,5,6] [0,1] (by kernel_rfl),Option.some.inj e55⟩
        have e55:=bif_f h56 e55
        refine PO.run 4 rfl ?_
        refine bindK e55 (fun x57 e58 e55=>?_)
        refine PO.cut 5 (fun s=>∃ (v59 : Bool),Weak s (PS.of 167 [(0,vP 2),(6,vP 3),(7,vP 4),(8,vP 5),(10,vB v47),(11,vB v25),(12,vB v26),(13,vB v27),(15,vP 6),(28,.list 10 (List.map cGBox a2.boxes) none),(29,vI (a2.boxes.length : Int)),(30,vI v28),(104,vB v59)] [⟨4294967295,[.list 2 (List.map cGspot v29) none]⟩,⟨4294967295,[.list 7 (List.map cI_i64 v30) none]⟩,⟨0,[.list 3 (List.map cGChar v31) none,.mp 0,.mp 1,.list 1 (List.map cI_i64 v32) (some 0),vI v33,.list 3 (List.map cGWrong v34) (some 1)]⟩,⟨0,(cGspot a0)⟩,⟨0,(cGPage a1)⟩,⟨0,(cGRow a2)⟩,⟨0,(cGBox y46)⟩] [v32.length,v34.length] 3 2) ∧ v59 = x57) ?_ ?_
        ·refine PO.case (t:=99) rfl rfl (fun h59=>?_) (fun h59=>?_)
         ·have e58:=bif_t h59 e58
          refine PO.run 2 rfl ?_
          refine bindK e58 (fun r60 e61 e58=>?_)
          refine PO.call rfl rfl rfl rfl (ks:=[]) (ts:=[]) (fr1:=[]) rfl rfl rfl trivial (L41 k y46 a1 _ e61) ?_
          rintro _ _ _ ⟨rfl,rfl,rfl⟩
          refine ⟨_,_,rfl,rfl,?_⟩
          refine PO.same rfl (pickT_ok rfl rfl rfl) rfl ?_
          refine PO.same rfl (pickF_ok rfl rfl rfl) rfl ?_
          refine PO.nil ?_
          exact ⟨r60,Weak.one [0,1,2,3,4,5,6] [0,1] (by kernel_rfl),Option.some.inj e58⟩
         have e58:=bif_f h59 e58
         refine PO.run 3 rfl ?_
         refine PO.same rfl (pickF_ok rfl rfl rfl) rfl ?_
         refine PO.same rfl (pickF_ok rfl rfl rfl) rfl ?_
         refine PO.nil ?_
         exact ⟨false,Weak.one [0,1,2,3,4,5,6] [0,1] (by kernel_rfl),Option.some.inj e58⟩
        rintro _ ⟨v59,w62,rfl⟩
        refine PO.weak w62 ?_
        refine PO.nil ?_
        exact ⟨v59,Weak.one [0,1,2,3,4,5,6] [0,1] (by kernel_rfl),Option.some.inj e55⟩
       rintro _ ⟨v58,w63,rfl⟩
       refine PO.weak w63 ?_
       refine PO.nil ?_
       exact ⟨v58,Weak.one [0,1,2,3,4,5,6] [0,1] (by kernel_rfl),Option.some.inj e50⟩
      have e50:=bif_f h51 e50
      refine PO.run 7 rfl ?_
      refine PO.same rfl (pickF_ok rfl rfl rfl) rfl ?_
      refine PO.same rfl (pickF_ok rfl rfl rfl) rfl ?_
      refine PO.run 5 rfl ?_
      refine bindK e50 (fun x64 e65 e50=>?_)
      refine PO.cut 5 (fun s=>∃ (v60 : Bool),Weak s (PS.of 167 [(0,vP 2),(6,vP 3),(7,vP 4),(8,vP 5),(10,vB v47),(11,vB v25),(12,vB v26),(13,vB v27),(15,vP 6),(28,.list 10 (List.map cGBox a2.boxes) none),(29,vI (a2.boxes.length : Int)),(30,vI v28),(104,vB v60)] [⟨4294967295,[.list 2 (List.map cGspot v29) none]⟩,⟨4294967295,[.list 7 (List.map cI_i64 v30) none]⟩,⟨0,[.list 3 (List.map cGChar v31) none,.mp 0,.mp 1,.list 1 (List.map cI_i64 v32) (some 0),vI v33,.list 3 (List.map cGWrong v34) (some 1)]⟩,⟨0,(cGspot a0)⟩,⟨0,(cGPage a1)⟩,⟨0,(cGRow a2)⟩,⟨0,(cGBox y46)⟩] [v32.length,v34.length] 3 2) ∧ v60 = x64) ?_ ?_
      ·refine PO.case (t:=99) rfl rfl (fun h66=>?_) (fun h66=>?_)
       ·have e65:=bif_t h66 e65
        refine PO.run 2 rfl ?_
        refine bindK e65 (fun r67 e68 e65=>?_)
        refine PO.call rfl rfl rfl rfl (ks:=[]) (ts:=[]) (fr1:=[]) rfl rfl rfl trivial (L41 k y46 a1 _ e68) ?_
        rintro _ _ _ ⟨rfl,rfl,rfl⟩
        refine ⟨_,_,rfl,rfl,?_⟩
        refine PO.same rfl (pickT_ok rfl rfl rfl) rfl ?_
        refine PO.same rfl (pickF_ok rfl rfl rfl) rfl ?_
        refine PO.nil ?_
        exact ⟨r67,Weak.one [0,1,2,3,4,5,6] [0,1] (by kernel_rfl),Option.some.inj e65⟩
       have e65:=bif_f h66 e65
       refine PO.run 3 rfl ?_
       refine PO.same rfl (pickF_ok rfl rfl rfl) rfl ?_
       refine PO.same rfl (pickF_ok rfl rfl rfl) rfl ?_
       refine PO.nil ?_
       exact ⟨false,Weak.one [0,1,2,3,4,5,6] [0,1] (by kernel_rfl),Option.some.inj e65⟩
      rintro _ ⟨v60,w69,rfl⟩
      refine PO.weak w69 ?_
      refine PO.nil ?_
      exact ⟨v60,Weak.one [0,1,2,3,4,5,6] [0,1] (by kernel_rfl),Option.some.inj e50⟩
     rintro _ ⟨v57,w70,rfl⟩
     refine PO.weak w70 ?_
     refine PO.nil ?_
     exact ⟨v57,Weak.one [0,1,2,3,4,5,6] [0,1] (by kernel_rfl),Option.some.inj e47⟩
    rintro _ ⟨v56,w71,rfl⟩
    refine PO.weak w71 ?_
    refine PO.nil ?_
    exact ⟨v56,Weak.one [0,1,2,3,4,5,6] [0,1] (by kernel_rfl),Option.some.inj e44⟩
   rintro _ ⟨v55,w72,rfl⟩
   refine PO.weak w72 ?_
   refine PO.run 1 rfl ?_
   refine PO.nil ?_
   refine PC.region ?_
   refine PO.run 2 rfl ?_
   refine bindK e7 (fun x73 e74 e7=>?_)
   refine PO.cut 8 (fun s=>∃ (v61 : Bool),Weak s (PS.of 167 [(0,vP 2),(6,vP 3),(7,vP 4),(8,vP 5),(10,vB v47),(11,vB v55),(12,vB v26),(13,vB v27),(15,vP 6),(28,.list 10 (List.map cGBox a2.boxes) none),(29,vI (a2.boxes.length : Int)),(30,vI v28),(114,vB v61)] [⟨4294967295,[.list 2 (List.map cGspot v29) none]⟩,⟨4294967295,[.list 7 (List.map cI_i64 v30) none]⟩,⟨0,[.list 3 (List.map cGChar v31) none,.mp 0,.mp 1,.list 1 (List.map cI_i64 v32) (some 0),vI v33,.list 3 (List.map cGWrong v34) (some 1)]⟩,⟨0,(cGspot a0)⟩,⟨0,(cGPage a1)⟩,⟨0,(cGRow a2)⟩,⟨0,(cGBox y46)⟩] [v32.length,v34.length] 3 2) ∧ v61 = x73) ?_ ?_
   ·refine PO.case (t:=106) rfl rfl (fun h75=>?_) (fun h75=>?_)
    ·have e74:=bif_t h75 e74
     refine PO.run 7 rfl ?_
     refine PO.same rfl (pickT_ok rfl rfl rfl) rfl ?_
     refine PO.nil ?_
     exact ⟨true,Weak.one [0,1,2,3,4,5,6] [0,1] (by kernel_rfl),Option.some.inj e74⟩
    have e74:=bif_f h75 e74
    refine PO.run 6 rfl ?_
    refine bindK e74 (fun r76 e77 e74=>?_)
    refine PO.call rfl rfl rfl rfl (ks:=[]) (ts:=[]) (fr1:=[]) rfl rfl rfl trivial (L42 k y46.x y46.width a1.width _ e77) ?_
    rintro _ _ _ ⟨rfl,rfl,rfl⟩
    refine ⟨_,_,rfl,rfl,?_⟩
    refine PO.same rfl (pickF_ok rfl rfl rfl) rfl ?_
    refine PO.nil ?_
    exact ⟨r76,Weak.one [0,1,2,3,4,5,6] [0,1] (by kernel_rfl),Option.some.inj e74⟩
   rintro _ ⟨v61,w78,rfl⟩
   refine PO.weak w78 ?_
   refine PO.run 1 rfl ?_
   refine PO.nil ?_
   refine PC.drawn (order:=[0,1,2,3,4,5,6,7,8,9,10,11,12,13,14,15,16]) (by kernel_rfl) ?_
   refine PO.run 2 rfl ?_
   refine bindK e7 (fun x79 e80 e7=>?_)
   refine PO.cut 14 (fun s=>∃ (v62 : Bool) (v63 : List Gspot) (v64 : List Int) (v65 : List GChar) (v66 : List Int) (v67 : Int) (v68 : List GWrong),Weak s (PS.of 167 [(0,vP 2),(6,vP 3),(7,vP 4),(8,vP 5),(10,vB v47),(11,vB v55),(12,vB v26),(13,vB v61),(15,vP 6),(28,.list 10 (List.map cGBox a2.boxes) none),(29,vI (a2.boxes.length : Int)),(30,vI v28),(130,vB v62)] [⟨4294967295,[.list 2 (List.map cGspot v63) none]⟩,⟨4294967295,[.list 7 (List.map cI_i64 v64) none]⟩,⟨0,[.list 3 (List.map cGChar v65) none,.mp 0,.mp 1,.list 1 (List.map cI_i64 v66) (some 0),vI v67,.list 3 (List.map cGWrong v68) (some 1)]⟩,⟨0,(cGspot a0)⟩,⟨0,(cGPage a1)⟩,⟨0,(cGRow a2)⟩,⟨0,(cGBox y46)⟩] [v66.length,v68.length] 3 2) ∧ (v62,v63,v64,v65,v66,v67,v68) = x79) ?_ ?_
   ·refine PO.case (t:=116) rfl rfl (fun h81=>?_) (fun h81=>?_)
    ·have e80:=bif_t h81 e80
     refine PO.run 3 rfl ?_
     refine PO.same rfl (pickT_ok rfl rfl rfl) rfl ?_
     refine PO.run 9 rfl ?_
     refine PO.same rfl (pickT_ok rfl rfl rfl) rfl ?_
     refine PO.nil ?_
     exact ⟨true,v29,v30,v31,v32,v33,v34,Weak.one [0,1,2,3,4,5,6] [0,1] (by kernel_rfl),Option.some.inj e80⟩
    have e80:=bif_f h81 e80
    refine PO.run 2 rfl ?_
    refine bindK e80 (fun r82 e83 e80=>?_)
    refine PO.call rfl rfl rfl rfl (ks:=[0,1,2]) (ts:=[0,1]) (fr1:=[⟨4294967295,[.list 2 (List.map cGspot v29) none]⟩,⟨4294967295,[.list 7 (List.map cI_i64 v30) none]⟩,⟨0,[.list 3 (List.map cGChar v31) none,.mp 0,.mp 1,.list 1 (List.map cI_i64 v32) (some 0),vI v33,.list 3 (List.map cGWrong v34) (some 1)]⟩]) rfl rfl rfl ⟨⟨_,rfl,rfl,rfl⟩,⟨⟨_,rfl,rfl,rfl⟩,⟨⟨_,rfl,rfl,rfl⟩,trivial⟩⟩⟩ (L43_s k y46 v29 v30 v31 v32 v33 v34 _ e83) ?_
    rintro _ _ _ ⟨rfl,rfl,rfl⟩
    refine ⟨_,_,rfl,rfl,?_⟩
    refine PO.same rfl (pickF_ok rfl rfl rfl) rfl ?_
    refine PO.run 1 rfl ?_
    refine bindK e80 (fun x84 e85 e80=>?_)
    refine PO.cut 9 (fun s=>∃ (v69 : Bool) (v70 : List Gspot) (v71 : List Int) (v72 : List GChar) (v73 : List Int) (v74 : Int) (v75 : List GWrong),Weak s (PS.of 167 [(0,vP 2),(6,vP 3),(7,vP 4),(8,vP 5),(10,vB v47),(11,vB v55),(12,vB v26),(13,vB v61),(15,vP 6),(28,.list 10 (List.map cGBox a2.boxes) none),(29,vI (a2.boxes.length : Int)),(30,vI v28),(130,vB v69)] [⟨4294967295,[.list 2 (List.map cGspot v70) none]⟩,⟨4294967295,[.list 7 (List.map cI_i64 v71) none]⟩,⟨0,[.list 3 (List.map cGChar v72) none,.mp 0,.mp 1,.list 1 (List.map cI_i64 v73) (some 0),vI v74,.list 3 (List.map cGWrong v75) (some 1)]⟩,⟨0,(cGspot a0)⟩,⟨0,(cGPage a1)⟩,⟨0,(cGRow a2)⟩,⟨0,(cGBox y46)⟩] [v73.length,v75.length] 3 2) ∧ (v69,v70,v71,v72,v73,v74,v75) = x84) ?_ ?_
    ·refine PO.case (t:=121) rfl rfl (fun h86=>?_) (fun h86=>?_)
     ·have e85:=bif_t h86 e85
      refine PO.run 8 rfl ?_
      refine PO.same rfl (pickT_ok rfl rfl rfl) rfl ?_
      refine PO.nil ?_
      exact ⟨true,r82.2.1,r82.2.2.1,r82.2.2.2.1,r82.2.2.2.2.1,r82.2.2.2.2.2.1,r82.2.2.2.2.2.2,Weak.one [0,1,2,3,4,5,6] [0,1] (by kernel_rfl),Option.some.inj e85⟩
     have e85:=bif_f h86 e85
     refine oK 7 [0,1,2,3,4,5,6] [0,1] [(0,vP 2),(6,vP 3),(7,vP 4),(8,vP 5),(10,vB v47),(11,vB v55),(12,vB v26),(13,vB v61),(15,vP 6),(28,.list 10 (List.map cGBox a2.boxes) none),(29,vI (a2.boxes.length : Int)),(30,vI v28),(121,vB false),(122,vP 2),(126,vI r82.2.2.2.2.2.1),(128,vI y46.from_)] [⟨4294967295,[.list 2 (List.map cGspot r82.2.1) none]⟩,⟨4294967295,[.list 7 (List.map cI_i64 r82.2.2.1) none]⟩,⟨0,[.list 3 (List.map cGChar r82.2.2.2.1) none,.mp 0,.mp 1,.list 1 (List.map cI_i64 r82.2.2.2.2.1) (some 0),vI r82.2.2.2.2.2.1,.list 3 (List.map cGWrong r82.2.2.2.2.2.2) (some 1)]⟩,⟨0,(cGspot a0)⟩,⟨0,(cGPage a1)⟩,⟨0,(cGRow a2)⟩,⟨0,(cGBox y46)⟩] [r82.2.2.2.2.1.length,r82.2.2.2.2.2.2.length] (by kernel_rfl) ?_
     refine bindK e85 (fun r87 e88 e85=>?_)
     refine PO.call rfl rfl rfl rfl (ks:=[0,1,2]) (ts:=[0,1]) (fr1:=[⟨4294967295,[.list 2 (List.map cGspot r82.2.1) none]⟩,⟨4294967295,[.list 7 (List.map cI_i64 r82.2.2.1) none]⟩,⟨0,[.list 3 (List.map cGChar r82.2.2.2.1) none,.mp 0,.mp 1,.list 1 (List.map cI_i64 r82.2.2.2.2.1) (some 0),vI r82.2.2.2.2.2.1,.list 3 (List.map cGWrong r82.2.2.2.2.2.2) (some 1)]⟩]) rfl rfl rfl ⟨⟨_,rfl,rfl,rfl⟩,⟨⟨_,rfl,rfl,rfl⟩,⟨⟨_,rfl,rfl,rfl⟩,trivial⟩⟩⟩ (L31_s k r82.2.2.2.2.2.1 y46.from_ false r82.2.1 r82.2.2.1 r82.2.2.2.1 r82.2.2.2.2.1 r82.2.2.2.2.2.1 r82.2.2.2.2.2.2 _ e88) ?_
     rintro _ _ _ ⟨rfl,rfl,rfl⟩
     refine ⟨_,_,rfl,rfl,?_⟩
     refine PO.same rfl (pickF_ok rfl rfl rfl) rfl ?_
     refine PO.nil ?_
     exact ⟨r87.1,r87.2.1,r87.2.2.1,r87.2.2.2.1,r87.2.2.2.2.1,r87.2.2.2.2.2.1,r87.2.2.2.2.2.2,Weak.one [0,1,2,3,4,5,6] [0,1] (by kernel_rfl),Option.some.inj e85⟩
    rintro _ ⟨v69,v70,v71,v72,v73,v74,v75,w89,rfl⟩
    refine PO.weak w89 ?_
    refine PO.nil ?_
    exact ⟨v69,v70,v71,v72,v73,v74,v75,Weak.one [0,1,2,3,4,5,6] [0,1] (by kernel_rfl),Option.some.inj e80⟩
   rintro _ ⟨v62,v63,v64,v65,v66,v67,v68,w90,rfl⟩
   refine PO.weak w90 ?_
   refine PO.run 1 rfl ?_
   refine PO.nil ?_
   refine PC.lone ?_
   refine PC.drawn (order:=[0,1,2,3,4,5,6,7,8,9,10]) (by kernel_rfl) ?_
   refine oK 11 [0,1,2,3,4,5] [0,1] [(0,vP 2),(6,vP 3),(7,vP 4),(8,vP 5),(10,vB v47),(11,vB v55),(12,vB v62),(13,vB v61),(28,.list 10 (List.map cGBox a2.boxes) none),(29,vI (a2.boxes.length : Int)),(30,vI v28)] [⟨4294967295,[.list 2 (List.map cGspot v63) none]⟩,⟨4294967295,[.list 7 (List.map cI_i64 v64) none]⟩,⟨0,[.list 3 (List.map cGChar v65) none,.mp 0,.mp 1,.list 1 (List.map cI_i64 v66) (some 0),vI (if y46.to_ > v67 then y46.to_ else v67),.list 3 (List.map cGWrong v68) (some 1)]⟩,⟨0,(cGspot a0)⟩,⟨0,(cGPage a1)⟩,⟨0,(cGRow a2)⟩] [v66.length,v68.length] (by kernel_rfl) ?_
   refine PO.nil ?_
   refine PC.skip (blockKP.end ?_)
   refine PC.lone ?_
   refine PC.run (n:=3) rfl ?_
   exact PC.skip (loopKP.mk (Nat.lt_succ_self _) ⟨v47,v55,v62,v61,w (v28 + 1),v63,v64,v65,v66,(if y46.to_ > v67 then y46.to_ else v67),v68,Weak.one [0,1,2,3,4,5] [0,1] (by kernel_rfl),e7⟩)
  have e7:=bif_f h10 e7
  exact PC.exit (loopKP.exit (blockJK.here ⟨v24,v25,v26,v27,v29,v30,v31,v32,v33,v34,Weak.one [0,1,2,3,5] [0,1] (by kernel_rfl),Option.some.inj e7⟩))
 rintro _ ⟨v3,v4,v5,v6,v7,v8,v9,v10,v11,v12,w91,rfl⟩
 refine PC.weak w91 ?_
 refine PC.region ?_
 refine PO.run 3 rfl ?_
 refine bindK hF (fun r92 e93 hF=>?_)
 refine PO.call rfl rfl rfl rfl (ks:=[0,1,2]) (ts:=[0,1]) (fr1:=[⟨4294967295,[.list 2 (List.map cGspot v7) none]⟩,⟨4294967295,[.list 7 (List.map cI_i64 v8) none]⟩,⟨0,[.list 3 (List.map cGChar v9) none,.mp 0,.mp 1,.list 1 (List.map cI_i64 v10) (some 0),vI v11,.list 3 (List.map cGWrong v12) (some 1)]⟩]) rfl rfl rfl ⟨⟨_,rfl,rfl,rfl⟩,⟨⟨_,rfl,rfl,rfl⟩,⟨⟨_,rfl,rfl,rfl⟩,trivial⟩⟩⟩ (L28_s k a0 v3 1 v7 v8 v9 v10 v11 v12 _ e93) ?_
 rintro _ _ _ ⟨rfl,rfl,rfl⟩
 refine ⟨_,_,rfl,rfl,?_⟩
 refine PO.nil ?_
 refine PC.region ?_
 refine PO.run 3 rfl ?_
 refine bindK hF (fun r94 e95 hF=>?_)
 refine PO.call rfl rfl rfl rfl (ks:=[0,1,2]) (ts:=[0,1]) (fr1:=[⟨4294967295,[.list 2 (List.map cGspot r92.1) none]⟩,⟨4294967295,[.list 7 (List.map cI_i64 r92.2.1) none]⟩,⟨0,[.list 3 (List.map cGChar r92.2.2.1) none,.mp 0,.mp 1,.list 1 (List.map cI_i64 r92.2.2.2.1) (some 0),vI r92.2.2.2.2.1,.list 3 (List.map cGWrong r92.2.2.2.2.2) (some 1)]⟩]) rfl rfl rfl ⟨⟨_,rfl,rfl,rfl⟩,⟨⟨_,rfl,rfl,rfl⟩,⟨⟨_,rfl,rfl,rfl⟩,trivial⟩⟩⟩ (L28_s k a0 v4 2 r92.1 r92.2.1 r92.2.2.1 r92.2.2.2.1 r92.2.2.2.2.1 r92.2.2.2.2.2 _ e95) ?_
 rintro _ _ _ ⟨rfl,rfl,rfl⟩
 refine ⟨_,_,rfl,rfl,?_⟩
 refine PO.nil ?_
 refine PC.region ?_
 refine PO.run 3 rfl ?_
 refine bindK hF (fun r96 e97 hF=>?_)
 refine PO.call rfl rfl rfl rfl (ks:=[0,1,2]) (ts:=[0,1]) (fr1:=[⟨4294967295,[.list 2 (List.map cGspot r94.1) none]⟩,⟨4294967295,[.list 7 (List.map cI_i64 r94.2.1) none]⟩,⟨0,[.list 3 (List.map cGChar r94.2.2.1) none,.mp 0,.mp 1,.list 1 (List.map cI_i64 r94.2.2.2.1) (some 0),vI r94.2.2.2.2.1,.list 3 (List.map cGWrong r94.2.2.2.2.2) (some 1)]⟩]) rfl rfl rfl ⟨⟨_,rfl,rfl,rfl⟩,⟨⟨_,rfl,rfl,rfl⟩,⟨⟨_,rfl,rfl,rfl⟩,trivial⟩⟩⟩ (L28_s k a0 v5 3 r94.1 r94.2.1 r94.2.2.1 r94.2.2.2.1 r94.2.2.2.2.1 r94.2.2.2.2.2 _ e97) ?_
 rintro _ _ _ ⟨rfl,rfl,rfl⟩
 refine ⟨_,_,rfl,rfl,?_⟩
 refine PO.nil ?_
 refine PC.lone ?_
 refine PC.region ?_
 refine PO.run 5 rfl ?_
 refine bindK hF (fun x98 e99 hF=>?_)
 refine PO.cut 7 (fun s=>∃ (v76 : Bool),Weak s (PS.of 167 [(154,vP 2),(155,.agg (cGspot a0)),(165,vB v76)] [⟨4294967295,[.list 2 (List.map cGspot r96.1) none]⟩,⟨4294967295,[.list 7 (List.map cI_i64 r96.2.1) none]⟩,⟨0,[.list 3 (List.map cGChar r96.2.2.1) none,.mp 0,.mp 1,.list 1 (List.map cI_i64 r96.2.2.2.1) (some 0),vI r96.2.2.2.2.1,.list 3 (List.map cGWrong r96.2.2.2.2.2) (some 1)]⟩] [(r96.2.2.2.1).length,(r96.2.2.2.2.2).length] 3 2) ∧ v76 = x98) ?_ ?_
 ·refine PO.case (t:=158) rfl rfl (fun h100=>?_) (fun h100=>?_)
  ·have e99:=bif_t h100 e99
   refine PO.run 3 rfl ?_
   refine bindK e99 (fun x101 e102 e99=>?_)
   refine PO.cut 4 (fun s=>∃ (v77 : Bool),Weak s (PS.of 167 [(154,vP 2),(155,.agg (cGspot a0)),(165,vB v77)] [⟨4294967295,[.list 2 (List.map cGspot r96.1) none]⟩,⟨4294967295,[.list 7 (List.map cI_i64 r96.2.1) none]⟩,⟨0,[.list 3 (List.map cGChar r96.2.2.1) none,.mp 0,.mp 1,.list 1 (List.map cI_i64 r96.2.2.2.1) (some 0),vI r96.2.2.2.2.1,.list 3 (List.map cGWrong r96.2.2.2.2.2) (some 1)]⟩] [(r96.2.2.2.1).length,(r96.2.2.2.2.2).length] 3 2) ∧ v77 = x101) ?_ ?_
   ·refine PO.case (t:=161) rfl rfl (fun h103=>?_) (fun h103=>?_)
    ·have e102:=bif_t h103 e102
     refine PO.run 2 rfl ?_
     refine PO.same rfl (pickT_ok rfl rfl rfl) rfl ?_
     refine PO.same rfl (pickT_ok rfl rfl rfl) rfl ?_
     refine PO.nil ?_
     exact ⟨true,Weak.one [0,1,2] [0,1] (by kernel_rfl),Option.some.inj e102⟩
    have e102:=bif_f h103 e102
    refine PO.run 2 rfl ?_
    refine PO.same rfl (pickF_ok rfl rfl rfl) rfl ?_
    refine PO.same rfl (pickT_ok rfl rfl rfl) rfl ?_
    refine PO.nil ?_
    exact ⟨a2.loose,Weak.one [0,1,2] [0,1] (by kernel_rfl),Option.some.inj e102⟩
   rintro _ ⟨v77,w104,rfl⟩
   refine PO.weak w104 ?_
   refine PO.nil ?_
   exact ⟨v77,Weak.one [0,1,2] [0,1] (by kernel_rfl),Option.some.inj e99⟩
  have e99:=bif_f h100 e99
  refine PO.run 6 rfl ?_
  refine PO.same rfl (pickF_ok rfl rfl rfl) rfl ?_
  refine PO.nil ?_
  exact ⟨false,Weak.one [0,1,2] [0,1] (by kernel_rfl),Option.some.inj e99⟩
 rintro _ ⟨v76,w105,rfl⟩
 refine PO.weak w105 ?_
 refine bindK hF (fun r106 e107 hF=>?_)
 refine PO.call rfl rfl rfl rfl (ks:=[0,1,2]) (ts:=[0,1]) (fr1:=[⟨4294967295,[.list 2 (List.map cGspot r96.1) none]⟩,⟨4294967295,[.list 7 (List.map cI_i64 r96.2.1) none]⟩,⟨0,[.list 3 (List.map cGChar r96.2.2.1) none,.mp 0,.mp 1,.list 1 (List.map cI_i64 r96.2.2.2.1) (some 0),vI r96.2.2.2.2.1,.list 3 (List.map cGWrong r96.2.2.2.2.2) (some 1)]⟩]) rfl rfl rfl ⟨⟨_,rfl,rfl,rfl⟩,⟨⟨_,rfl,rfl,rfl⟩,⟨⟨_,rfl,rfl,rfl⟩,trivial⟩⟩⟩ (L28_s k a0 v76 4 r96.1 r96.2.1 r96.2.2.1 r96.2.2.2.1 r96.2.2.2.2.1 r96.2.2.2.2.2 _ e107) ?_
 rintro _ _ _ ⟨rfl,rfl,rfl⟩
 refine ⟨_,_,rfl,rfl,?_⟩
 refine PO.nil ?_
 have hq:=Option.some.inj hF
 subst hq
 exact PC.skip (retSN [0,1,2] [0,1] (by kernel_rfl) (.refl _) ⟨rfl,rfl,rfl⟩)

/-! 32_s (*platen/judge.bench).end -/
def F32_s_l1 (k : Nat) (a0 : Gspot) (a1 : List Gspot) (a2 : List Int) (a3 : List GChar) (a4 : List Int) (a5 : Int) (a6 : List GWrong) : Nat → Int → Option ((Unit) ⊕ ((List Gspot) × (List Int) × (List GChar) × (List Int) × Int × (List GWrong)))
  | 0, _ => none
  | j3 + 1, v2 =>
    bif decide (v2 < (a6.length : Int)) then (bindI a6 v2 fun y4 =>
    Option.bind (α := Bool) (bif y4.page == a0.page then (some (y4.row == a0.row)) else (some false)) fun (v5 : Bool) =>
    Option.bind (α := Bool) (bif v5 then (some (y4.rule == 3)) else (some false)) fun (v6 : Bool) =>
    bif v6 then (some (.inr (a1, a2, a3, a4, a5, a6))) else (F32_s_l1 k a0 a1 a2 a3 a4 a5 a6 j3 (w (v2 + 1)))) else (some (.inl ()))
def F32_s_l2 (k : Nat) (a0 : Gspot) (a6 : List GWrong) : Nat → (List GWrong) → Bool → Int → Option ((List GWrong) × Bool)
  | 0, _, _, _ => none
  | j20 + 1, v12, v13, v14 =>
    bif decide (v14 < (a6.length : Int)) then (bindI a6 v14 fun y18 =>
    Option.bind (α := Bool) (bif !v13 then (Option.bind (α := Bool) (bif decide (y18.page > a0.page) then (some true) else (Option.bind (α := Bool) (bif y18.page == a0.page then (Option.bind (α := Bool) (bif decide (y18.row > a0.row) then (some true) else (Option.bind (α := Bool) (bif y18.row == a0.row then (some (decide (y18.rule > 3))) else (some false)) fun (v23 : Bool) =>
    some v23)) fun (v22 : Bool) =>
    some v22) else (some false)) fun (v21 : Bool) =>
    some v21)) fun (v20 : Bool) =>
    some v20) else (some false)) fun (v19 : Bool) =>
    Option.bind (α := (List GWrong) × Bool) (bif v19 then (bindA 24 v12 ([(GWrong.mk a0.page a0.row 3)]) fun l26 =>
    some (l26, true)) else (some (v12, v13))) fun (v24, v25) =>
    bindA 24 v24 ([y18]) fun l27 =>
    F32_s_l2 k a0 a6 j20 l27 v25 (w (v14 + 1))) else (some (v12, v13))
def F32_s (k : Nat) (a0 : Gspot) (a1 : List Gspot) (a2 : List Int) (a3 : List GChar) (a4 : List Int) (a5 : Int) (a6 : List GWrong) : Option ((List Gspot) × (List Int) × (List GChar) × (List Int) × Int × (List GWrong)) :=
Option.bind (α := (Unit) ⊕ ((List Gspot) × (List Int) × (List GChar) × (List Int) × Int × (List GWrong))) (F32_s_l1 k a0 a1 a2 a3 a4 a5 a6 k 0) (Sum.elim (fun (_ : Unit) =>
Option.bind (α := (List GWrong) × Bool) (F32_s_l2 k a0 a6 k ([] : List GWrong) false 0) fun (v7, v8) =>
Option.bind (α := List GWrong) (bif !v8 then (bindA 24 v7 ([(GWrong.mk a0.page a0.row 3)]) fun l29 =>
some l29) else (some v7)) fun (v28 : List GWrong) =>
some (a1, a2, a3, a4, a5, v28)) some)
theorem L32_s (k : Nat) (a0 : Gspot) (a1 : List Gspot) (a2 : List Int) (a3 : List GChar) (a4 : List Int) (a5 : Int) (a6 : List GWrong) (r : (List Gspot) × (List Int) × (List GChar) × (List Int) × Int × (List GWrong)) (hF : F32_s k a0 a1 a2 a3 a4 a5 a6 = some r) : PF Try.prog orc 32 [vP 2,.agg (cGspot a0)] [⟨4294967295,[.list 2 (List.map cGspot a1) none]⟩,⟨4294967295,[.list 7 (List.map cI_i64 a2) none]⟩,⟨0,[.list 3 (List.map cGChar a3) none,.mp 0,.mp 1,.list 1 (List.map cI_i64 a4) (some 0),vI a5,.list 3 (List.map cGWrong a6) (some 1)]⟩] [a4.length,a6.length] (fun p fr tk=>p = .tup [] ∧ fr = [⟨4294967295,[.list 2 (List.map cGspot r.1) none]⟩,⟨4294967295,[.list 7 (List.map cI_i64 r.2.1) none]⟩,⟨0,[.list 3 (List.map cGChar r.2.2.1) none,.mp 0,.mp 1,.list 1 (List.map cI_i64 r.2.2.2.1) none,vI r.2.2.2.2.1,.list 3 (List.map cGWrong r.2.2.2.2.2) none]⟩] ∧ tk = [a4.length,a6.length]):=by
 unfold F32_s at hF
 refine PF.enterS Try.func32 rfl rfl rfl (by kernel_rfl) rfl ?_
 refine PC.region ?_
 refine oK 1 [0,1,2,3] [0,1] [(0,vP 2),(3,vP 3)] [⟨4294967295,[.list 2 (List.map cGspot a1) none]⟩,⟨4294967295,[.list 7 (List.map cI_i64 a2) none]⟩,⟨0,[.list 3 (List.map cGChar a3) none,.mp 0,.mp 1,.list 1 (List.map cI_i64 a4) (some 0),vI a5,.list 3 (List.map cGWrong a6) (some 1)]⟩,⟨0,(cGspot a0)⟩] [a4.length,a6.length] (by kernel_rfl) ?_
 refine PO.nil ?_
 refine PC.region ?_
 refine oK 7 [0,1,2,4] [0,1] [(0,vP 2),(4,vP 3)] [⟨4294967295,[.list 2 (List.map cGspot a1) none]⟩,⟨4294967295,[.list 7 (List.map cI_i64 a2) none]⟩,⟨0,[.list 3 (List.map cGChar a3) none,.mp 0,.mp 1,.list 1 (List.map cI_i64 a4) (some 0),vI a5,.list 3 (List.map cGWrong a6) (some 1)]⟩,⟨0,[vI a0.page,vI a0.row,vI 3]⟩] [a4.length,a6.length] (by kernel_rfl) ?_
 refine PO.nil ?_
 refine PC.run (n:=2) rfl ?_
 refine PC.assoc ?_
 refine PC.region ?_
 refine PO.run 4 rfl ?_
 refine PO.same rfl (len_ok Try.underlying31 rfl (List.length_map _)) rfl ?_
 refine PO.run 1 rfl ?_
 refine PO.nil ?_
 refine bindK hF (fun x1 e2 hF=>?_)
 refine PC.blockJ (fun s=>Weak s (PS.of 112 [(0,vP 2),(4,vP 3),(5,.val (.slice none 0 0))] [⟨4294967295,[.list 2 (List.map cGspot a1) none]⟩,⟨4294967295,[.list 7 (List.map cI_i64 a2) none]⟩,⟨0,[.list 3 (List.map cGChar a3) none,.mp 0,.mp 1,.list 1 (List.map cI_i64 a4) (some 0),vI a5,.list 3 (List.map cGWrong a6) (some 1)]⟩,⟨0,[vI a0.page,vI a0.row,vI 3]⟩] [a4.length,a6.length] 3 2) ∧ .inl () = x1) ?_ ?_
 ·refine PC.loop (fun j3 s=>∃ (v2 : Int),Weak s (PS.of 112 [(0,vP 2),(4,vP 3),(5,.val (.slice none 0 0)),(20,.list 3 (List.map cGWrong a6) (some 1)),(21,vI (a6.length : Int)),(22,vI v2)] [⟨4294967295,[.list 2 (List.map cGspot a1) none]⟩,⟨4294967295,[.list 7 (List.map cI_i64 a2) none]⟩,⟨0,[.list 3 (List.map cGChar a3) none,.mp 0,.mp 1,.list 1 (List.map cI_i64 a4) (some 0),vI a5,.list 3 (List.map cGWrong a6) (some 1)]⟩,⟨0,[vI a0.page,vI a0.row,vI 3]⟩] [a4.length,a6.length] 3 2) ∧ F32_s_l1 k a0 a1 a2 a3 a4 a5 a6 j3 v2 = some x1) (fun j3 s=>?_) k ⟨0,Weak.one [0,1,2,3] [0,1] (by kernel_rfl),e2⟩
  rintro ⟨v2,w4,e2⟩
  refine PC.weak w4 ?_
  obtain _ | j3:=j3
  · rw [F32_s_l1] at e2; cases e2
  rw [F32_s_l1] at e2
  refine PC.run (n:=2) rfl ?_
  refine PC.cond rfl (fun h5=>?_) (fun h5=>?_)
  ·have e2:=bif_t h5 e2
   refine PC.noop ?_
   refine PC.block ?_
   refine PC.region ?_
   refine bindIK e2 (fun y4 h6 h7 e2=>?_)
   refine PO.same rfl (indexAddr_ok Try.underlying31 rfl rfl rfl h6 (map_at h7)) rfl ?_
   refine oK 3 [0,1,2,3,4] [0,1] [(0,vP 2),(4,vP 3),(5,.val (.slice none 0 0)),(7,vP 4),(20,.list 3 (List.map cGWrong a6) (some 1)),(21,vI (a6.length : Int)),(22,vI v2)] [⟨4294967295,[.list 2 (List.map cGspot a1) none]⟩,⟨4294967295,[.list 7 (List.map cI_i64 a2) none]⟩,⟨0,[.list 3 (List.map cGChar a3) none,.mp 0,.mp 1,.list 1 (List.map cI_i64 a4) (some 0),vI a5,.list 3 (List.map cGWrong a6) (some 1)]⟩,⟨0,[vI a0.page,vI a0.row,vI 3]⟩,⟨0,(cGWrong y4)⟩] [a4.length,a6.length] (by kernel_rfl) ?_
   refine PO.nil ?_
   refine PC.region ?_
   refine PO.run 6 rfl ?_
   refine bindK e2 (fun x8 e9 e2=>?_)
   refine PO.cut 6 (fun s=>∃ (v5 : Bool),Weak s (PS.of 112 [(0,vP 2),(4,vP 3),(5,.val (.slice none 0 0)),(7,vP 4),(20,.list 3 (List.map cGWrong a6) (some 1)),(21,vI (a6.length : Int)),(22,vI v2),(37,vB v5)] [⟨4294967295,[.list 2 (List.map cGspot a1) none]⟩,⟨4294967295,[.list 7 (List.map cI_i64 a2) none]⟩,⟨0,[.list 3 (List.map cGChar a3) none,.mp 0,.mp 1,.list 1 (List.map cI_i64 a4) (some 0),vI a5,.list 3 (List.map cGWrong a6) (some 1)]⟩,⟨0,[vI a0.page,vI a0.row,vI 3]⟩,⟨0,(cGWrong y4)⟩] [a4.length,a6.length] 3 2) ∧ v5 = x8) ?_ ?_
   ·refine PO.case (t:=31) rfl rfl (fun h10=>?_) (fun h10=>?_)
    ·have e9:=bif_t h10 e9
     refine PO.run 5 rfl ?_
     refine PO.same rfl (pickT_ok rfl rfl rfl) rfl ?_
     refine PO.nil ?_
     exact ⟨y4.row == a0.row,Weak.one [0,1,2,3,4] [0,1] (by kernel_rfl),Option.some.inj e9⟩
    have e9:=bif_f h10 e9
    refine PO.run 5 rfl ?_
    refine PO.same rfl (pickF_ok rfl rfl rfl) rfl ?_
    refine PO.nil ?_
    exact ⟨false,Weak.one [0,1,2,3,4] [0,1] (by kernel_rfl),Option.some.inj e9⟩
   rintro _ ⟨v5,w11,rfl⟩
   refine PO.weak w11 ?_
   refine PO.run 1 rfl ?_
   refine PO.nil ?_
   refine PC.region ?_
   refine PO.run 2 rfl ?_
   refine bindK e2 (fun x12 e13 e2=>?_)
   refine PO.cut 6 (fun s=>∃ (v6 : Bool),Weak s (PS.of 112 [(0,vP 2),(4,vP 3),(5,.val (.slice none 0 0)),(20,.list 3 (List.map cGWrong a6) (some 1)),(21,vI (a6.length : Int)),(22,vI v2),(45,vB v6)] [⟨4294967295,[.list 2 (List.map cGspot a1) none]⟩,⟨4294967295,[.list 7 (List.map cI_i64 a2) none]⟩,⟨0,[.list 3 (List.map cGChar a3) none,.mp 0,.mp 1,.list 1 (List.map cI_i64 a4) (some 0),vI a5,.list 3 (List.map cGWrong a6) (some 1)]⟩,⟨0,[vI a0.page,vI a0.row,vI 3]⟩] [a4.length,a6.length] 3 2) ∧ v6 = x12) ?_ ?_
   ·refine PO.case (t:=39) rfl rfl (fun h14=>?_) (fun h14=>?_)
    ·have e13:=bif_t h14 e13
     refine PO.run 5 rfl ?_
     refine PO.same rfl (pickT_ok rfl rfl rfl) rfl ?_
     refine PO.nil ?_
     exact ⟨y4.rule == 3,Weak.one [0,1,2,3] [0,1] (by kernel_rfl),Option.some.inj e13⟩
    have e13:=bif_f h14 e13
    refine PO.run 5 rfl ?_
    refine PO.same rfl (pickF_ok rfl rfl rfl) rfl ?_
    refine PO.nil ?_
    exact ⟨false,Weak.one [0,1,2,3] [0,1] (by kernel_rfl),Option.some.inj e13⟩
   rintro _ ⟨v6,w15,rfl⟩
   refine PO.weak w15 ?_
   refine PO.nil ?_
   refine PC.lone ?_
   refine PC.cond rfl (fun h16=>?_) (fun h16=>?_)
   ·have e2:=bif_t h16 e2
    refine PC.weak (s':=PS.of 112 [(0,vP 2),(4,vP 3),(5,.val (.slice none 0 0)),(20,.list 3 (List.map cGWrong a6) (some 1)),(21,vI (a6.length : Int)),(22,vI v2)] [⟨4294967295,[.list 2 (List.map cGspot a1) none]⟩,⟨4294967295,[.list 7 (List.map cI_i64 a2) none]⟩,⟨0,[.list 3 (List.map cGChar a3) none,.mp 0,.mp 1,.list 1 (List.map cI_i64 a4) none,vI a5,.list 3 (List.map cGWrong a6) none]⟩,⟨0,[vI a0.page,vI a0.row,vI 3]⟩] [a4.length,a6.length] 3 2) (Weak.mk [0,1,2,3] [0,1] 0 rfl rfl rfl ⟨⟨_,_,rfl,rfl,rfl,(LessL.refl _)⟩,⟨⟨_,_,rfl,rfl,rfl,(LessL.refl _)⟩,⟨⟨_,_,rfl,rfl,rfl,(LessL.cons (.refl _) (LessL.cons (.refl _) (LessL.cons (.refl _) (LessL.cons (.tok _ _ _) (LessL.cons (.refl _) (LessL.cons (.tok _ _ _) (LessL.refl _)))))))⟩,⟨⟨_,_,rfl,rfl,rfl,(LessL.refl _)⟩,trivial⟩⟩⟩⟩ ⟨⟨_,_,rfl,rfl,.refl _⟩,⟨⟨_,_,rfl,rfl,.refl _⟩,⟨⟨_,_,rfl,rfl,.refl _⟩,⟨⟨_,_,rfl,rfl,.refl _⟩,⟨⟨_,_,rfl,rfl,.refl _⟩,⟨⟨_,_,rfl,rfl,.refl _⟩,trivial⟩⟩⟩⟩⟩⟩) ?_
    have hq:=Option.some.inj e2
    subst hq
    have hq:=Option.some.inj hF
    subst hq
    exact PC.ret (blockKP.back (loopKP.ret (blockJK.back (retSK [0,1,2] [0,1] (by kernel_rfl) (.refl _) ⟨rfl,rfl,rfl⟩))))
   have e2:=bif_f h16 e2
   refine PC.noop ?_
   refine PC.skip (blockKP.end ?_)
   refine PC.lone ?_
   refine PC.run (n:=3) rfl ?_
   exact PC.skip (loopKP.mk (Nat.lt_succ_self _) ⟨w (v2 + 1),Weak.one [0,1,2,3] [0,1] (by kernel_rfl),e2⟩)
  have e2:=bif_f h5 e2
  exact PC.exit (loopKP.exit (blockJK.here ⟨Weak.one [0,1,2,3] [0,1] (by kernel_rfl),Option.some.inj e2⟩))
 rintro _ ⟨w17,rfl⟩
 refine PC.weak w17 ?_
 have hF:=elim_l hF
 refine PC.run (n:=2) rfl ?_
 refine PC.assoc ?_
 refine PC.region ?_
 refine PO.run 4 rfl ?_
 refine PO.same rfl (len_ok Try.underlying31 rfl (List.length_map _)) rfl ?_
 refine PO.run 1 rfl ?_
 refine PO.nil ?_
 refine bindK hF (fun x18 e19 hF=>?_)
 refine PC.blockJ (fun s=>∃ (v7 : List GWrong) (v8 : Bool),Weak s (PS.of 112 [(0,vP 2),(4,vP 3),(5,.list 3 (List.map cGWrong v7) (some 2)),(9,vB v8)] [⟨4294967295,[.list 2 (List.map cGspot a1) none]⟩,⟨4294967295,[.list 7 (List.map cI_i64 a2) none]⟩,⟨0,[.list 3 (List.map cGChar a3) none,.mp 0,.mp 1,.list 1 (List.map cI_i64 a4) (some 0),vI a5,.list 3 (List.map cGWrong a6) (some 1)]⟩,⟨0,[vI a0.page,vI a0.row,vI 3]⟩] [a4.length,a6.length,v7.length] 3 2) ∧ (v7,v8) = x18) ?_ ?_
 ·refine PC.weak (s':=PS.of 112 [(0,vP 2),(4,vP 3),(5,.list 3 (List.map cGWrong ([] : List GWrong)) (some 2)),(9,vB false),(50,.list 3 (List.map cGWrong a6) (some 1)),(51,vI (a6.length : Int)),(52,vI 0)] [⟨4294967295,[.list 2 (List.map cGspot a1) none]⟩,⟨4294967295,[.list 7 (List.map cI_i64 a2) none]⟩,⟨0,[.list 3 (List.map cGChar a3) none,.mp 0,.mp 1,.list 1 (List.map cI_i64 a4) (some 0),vI a5,.list 3 (List.map cGWrong a6) (some 1)]⟩,⟨0,[vI a0.page,vI a0.row,vI 3]⟩] [a4.length,a6.length,0] 3 2) (Weak.mk [0,1,2,3] [0,1] 1 rfl rfl rfl ⟨⟨_,_,rfl,rfl,rfl,(LessL.refl _)⟩,⟨⟨_,_,rfl,rfl,rfl,(LessL.refl _)⟩,⟨⟨_,_,rfl,rfl,rfl,(LessL.refl _)⟩,⟨⟨_,_,rfl,rfl,rfl,(LessL.refl _)⟩,trivial⟩⟩⟩⟩ ⟨⟨_,_,rfl,rfl,.refl _⟩,⟨⟨_,_,rfl,rfl,.refl _⟩,⟨⟨_,_,rfl,rfl,.nilt 3 2 rfl rfl⟩,⟨⟨_,_,rfl,rfl,.refl _⟩,⟨⟨_,_,rfl,rfl,.refl _⟩,⟨⟨_,_,rfl,rfl,.refl _⟩,⟨⟨_,_,rfl,rfl,.refl _⟩,trivial⟩⟩⟩⟩⟩⟩⟩) ?_
  refine PC.loop (fun j20 s=>∃ (v12 : List GWrong) (v13 : Bool) (v14 : Int),Weak s (PS.of 112 [(0,vP 2),(4,vP 3),(5,.list 3 (List.map cGWrong v12) (some 2)),(9,vB v13),(50,.list 3 (List.map cGWrong a6) (some 1)),(51,vI (a6.length : Int)),(52,vI v14)] [⟨4294967295,[.list 2 (List.map cGspot a1) none]⟩,⟨4294967295,[.list 7 (List.map cI_i64 a2) none]⟩,⟨0,[.list 3 (List.map cGChar a3) none,.mp 0,.mp 1,.list 1 (List.map cI_i64 a4) (some 0),vI a5,.list 3 (List.map cGWrong a6) (some 1)]⟩,⟨0,[vI a0.page,vI a0.row,vI 3]⟩] [a4.length,a6.length,v12.length] 3 2) ∧ F32_s_l2 k a0 a6 j20 v12 v13 v14 = some x18) (fun j20 s=>?_) k ⟨([] : List GWrong),false,0,Weak.one [0,1,2,3] [0,1,2] (by kernel_rfl),e19⟩
  rintro ⟨v12,v13,v14,w21,e19⟩
  refine PC.weak w21 ?_
  obtain _ | j20:=j20
  · rw [F32_s_l2] at e19; cases e19
  rw [F32_s_l2] at e19
  refine PC.run (n:=2) rfl ?_
  refine PC.cond rfl (fun h22=>?_) (fun h22=>?_)
  ·have e19:=bif_t h22 e19
   refine PC.noop ?_
   refine PC.block ?_
   refine PC.region ?_
   refine bindIK e19 (fun y18 h23 h24 e19=>?_)
   refine PO.same rfl (indexAddr_ok Try.underlying31 rfl rfl rfl h23 (map_at h24)) rfl ?_
   refine oK 3 [0,1,2,3,4] [0,1,2] [(0,vP 2),(4,vP 3),(5,.list 3 (List.map cGWrong v12) (some 2)),(9,vB v13),(11,vP 4),(50,.list 3 (List.map cGWrong a6) (some 1)),(51,vI (a6.length : Int)),(52,vI v14)] [⟨4294967295,[.list 2 (List.map cGspot a1) none]⟩,⟨4294967295,[.list 7 (List.map cI_i64 a2) none]⟩,⟨0,[.list 3 (List.map cGChar a3) none,.mp 0,.mp 1,.list 1 (List.map cI_i64 a4) (some 0),vI a5,.list 3 (List.map cGWrong a6) (some 1)]⟩,⟨0,[vI a0.page,vI a0.row,vI 3]⟩,⟨0,(cGWrong y18)⟩] [a4.length,a6.length,v12.length] (by kernel_rfl) ?_
   refine PO.nil ?_
   refine PC.assoc ?_
   refine PC.region ?_
   refine PO.run 3 rfl ?_
   refine bindK e19 (fun x25 e26 e19=>?_)
   refine PO.cut 34 (fun s=>∃ (v19 : Bool),Weak s (PS.of 112 [(0,vP 2),(4,vP 3),(5,.list 3 (List.map cGWrong v12) (some 2)),(9,vB v13),(11,vP 4),(50,.list 3 (List.map cGWrong a6) (some 1)),(51,vI (a6.length : Int)),(52,vI v14),(92,vB v19)] [⟨4294967295,[.list 2 (List.map cGspot a1) none]⟩,⟨4294967295,[.list 7 (List.map cI_i64 a2) none]⟩,⟨0,[.list 3 (List.map cGChar a3) none,.mp 0,.mp 1,.list 1 (List.map cI_i64 a4) (some 0),vI a5,.list 3 (List.map cGWrong a6) (some 1)]⟩,⟨0,[vI a0.page,vI a0.row,vI 3]⟩,⟨0,(cGWrong y18)⟩] [a4.length,a6.length,v12.length] 3 2) ∧ v19 = x25) ?_ ?_
   ·refine PO.case (t:=58) rfl rfl (fun h27=>?_) (fun h27=>?_)
    ·have e26:=bif_t h27 e26
     refine PO.run 6 rfl ?_
     refine bindK e26 (fun x28 e29 e26=>?_)
     refine PO.cut 28 (fun s=>∃ (v20 : Bool),Weak s (PS.of 112 [(0,vP 2),(4,vP 3),(5,.list 3 (List.map cGWrong v12) (some 2)),(9,vB v13),(11,vP 4),(50,.list 3 (List.map cGWrong a6) (some 1)),(51,vI (a6.length : Int)),(52,vI v14),(92,vB v20)] [⟨4294967295,[.list 2 (List.map cGspot a1) none]⟩,⟨4294967295,[.list 7 (List.map cI_i64 a2) none]⟩,⟨0,[.list 3 (List.map cGChar a3) none,.mp 0,.mp 1,.list 1 (List.map cI_i64 a4) (some 0),vI a5,.list 3 (List.map cGWrong a6) (some 1)]⟩,⟨0,[vI a0.page,vI a0.row,vI 3]⟩,⟨0,(cGWrong y18)⟩] [a4.length,a6.length,v12.length] 3 2) ∧ v20 = x28) ?_ ?_
     ·refine PO.case (t:=64) rfl rfl (fun h30=>?_) (fun h30=>?_)
      ·have e29:=bif_t h30 e29
       refine PO.run 26 rfl ?_
       refine PO.same rfl (pickT_ok rfl rfl rfl) rfl ?_
       refine PO.same rfl (pickT_ok rfl rfl rfl) rfl ?_
       refine PO.nil ?_
       exact ⟨true,Weak.one [0,1,2,3,4] [0,1,2] (by kernel_rfl),Option.some.inj e29⟩
      have e29:=bif_f h30 e29
      refine PO.run 6 rfl ?_
      refine bindK e29 (fun x31 e32 e29=>?_)
      refine PO.cut 22 (fun s=>∃ (v21 : Bool),Weak s (PS.of 112 [(0,vP 2),(4,vP 3),(5,.list 3 (List.map cGWrong v12) (some 2)),(9,vB v13),(11,vP 4),(50,.list 3 (List.map cGWrong a6) (some 1)),(51,vI (a6.length : Int)),(52,vI v14),(92,vB v21)] [⟨4294967295,[.list 2 (List.map cGspot a1) none]⟩,⟨4294967295,[.list 7 (List.map cI_i64 a2) none]⟩,⟨0,[.list 3 (List.map cGChar a3) none,.mp 0,.mp 1,.list 1 (List.map cI_i64 a4) (some 0),vI a5,.list 3 (List.map cGWrong a6) (some 1)]⟩,⟨0,[vI a0.page,vI a0.row,vI 3]⟩,⟨0,(cGWrong y18)⟩] [a4.length,a6.length,v12.length] 3 2) ∧ v21 = x31) ?_ ?_
      ·refine PO.case (t:=70) rfl rfl (fun h33=>?_) (fun h33=>?_)
       ·have e32:=bif_t h33 e32
        refine PO.run 6 rfl ?_
        refine bindK e32 (fun x34 e35 e32=>?_)
        refine PO.cut 16 (fun s=>∃ (v22 : Bool),Weak s (PS.of 112 [(0,vP 2),(4,vP 3),(5,.list 3 (List.map cGWrong v12) (some 2)),(9,vB v13),(11,vP 4),(50,.list 3 (List.map cGWrong a6) (some 1)),(51,vI (a6.length : Int)),(52,vI v14),(92,vB v22)] [⟨4294967295,[.list 2 (List.map cGspot a1) none]⟩,⟨4294967295,[.list 7 (List.map cI_i64 a2) none]⟩,⟨0,[.list 3 (List.map cGChar a3) none,.mp 0,.mp 1,.list 1 (List.map cI_i64 a4) (some 0),vI a5,.list 3 (List.map cGWrong a6) (some 1)]⟩,⟨0,[vI a0.page,vI a0.row,vI 3]⟩,⟨0,(cGWrong y18)⟩] [a4.length,a6.length,v12.length] 3 2) ∧ v22 = x34) ?_ ?_
        ·refine PO.case (t:=76) rfl rfl (fun h36=>?_) (fun h36=>?_)
         ·have e35:=bif_t h36 e35
          refine PO.run 12 rfl ?_
          refine PO.same rfl (pickT_ok rfl rfl rfl) rfl ?_
          refine PO.same rfl (pickT_ok rfl rfl rfl) rfl ?_
          refine PO.same rfl (pickF_ok rfl rfl rfl) rfl ?_
          refine PO.same rfl (pickT_ok rfl rfl rfl) rfl ?_
          refine PO.nil ?_
          exact ⟨true,Weak.one [0,1,2,3,4] [0,1,2] (by kernel_rfl),Option.some.inj e35⟩
         have e35:=bif_f h36 e35
         refine PO.run 6 rfl ?_
         refine bindK e35 (fun x37 e38 e35=>?_)
         refine PO.cut 10 (fun s=>∃ (v23 : Bool),Weak s (PS.of 112 [(0,vP 2),(4,vP 3),(5,.list 3 (List.map cGWrong v12) (some 2)),(9,vB v13),(11,vP 4),(50,.list 3 (List.map cGWrong a6) (some 1)),(51,vI (a6.length : Int)),(52,vI v14),(92,vB v23)] [⟨4294967295,[.list 2 (List.map cGspot a1) none]⟩,⟨4294967295,[.list 7 (List.map cI_i64 a2) none]⟩,⟨0,[.list 3 (List.map cGChar a3) none,.mp 0,.mp 1,.list 1 (List.map cI_i64 a4) (some 0),vI a5,.list 3 (List.map cGWrong a6) (some 1)]⟩,⟨0,[vI a0.page,vI a0.row,vI 3]⟩,⟨0,(cGWrong y18)⟩] [a4.length,a6.length,v12.length] 3 2) ∧ v23 = x37) ?_ ?_
         ·refine PO.case (t:=82) rfl rfl (fun h39=>?_) (fun h39=>?_)
          ·have e38:=bif_t h39 e38
           refine PO.run 5 rfl ?_
           refine PO.same rfl (pickT_ok rfl rfl rfl) rfl ?_
           refine PO.same rfl (pickF_ok rfl rfl rfl) rfl ?_
           refine PO.same rfl (pickT_ok rfl rfl rfl) rfl ?_
           refine PO.same rfl (pickF_ok rfl rfl rfl) rfl ?_
           refine PO.same rfl (pickT_ok rfl rfl rfl) rfl ?_
           refine PO.nil ?_
           exact ⟨decide (y18.rule > 3),Weak.one [0,1,2,3,4] [0,1,2] (by kernel_rfl),Option.some.inj e38⟩
          have e38:=bif_f h39 e38
          refine PO.run 5 rfl ?_
          refine PO.same rfl (pickF_ok rfl rfl rfl) rfl ?_
          refine PO.same rfl (pickF_ok rfl rfl rfl) rfl ?_
          refine PO.same rfl (pickT_ok rfl rfl rfl) rfl ?_
          refine PO.same rfl (pickF_ok rfl rfl rfl) rfl ?_
          refine PO.same rfl (pickT_ok rfl rfl rfl) rfl ?_
          refine PO.nil ?_
          exact ⟨false,Weak.one [0,1,2,3,4] [0,1,2] (by kernel_rfl),Option.some.inj e38⟩
         rintro _ ⟨v23,w40,rfl⟩
         refine PO.weak w40 ?_
         refine PO.nil ?_
         exact ⟨v23,Weak.one [0,1,2,3,4] [0,1,2] (by kernel_rfl),Option.some.inj e35⟩
        rintro _ ⟨v22,w41,rfl⟩
        refine PO.weak w41 ?_
        refine PO.nil ?_
        exact ⟨v22,Weak.one [0,1,2,3,4] [0,1,2] (by kernel_rfl),Option.some.inj e32⟩
       have e32:=bif_f h33 e32
       refine PO.run 19 rfl ?_
       refine PO.same rfl (pickF_ok rfl rfl rfl) rfl ?_
       refine PO.same rfl (pickF_ok rfl rfl rfl) rfl ?_
       refine PO.same rfl (pickT_ok rfl rfl rfl) rfl ?_
       refine PO.nil ?_
       exact ⟨false,Weak.one [0,1,2,3,4] [0,1,2] (by kernel_rfl),Option.some.inj e32⟩
      rintro _ ⟨v21,w42,rfl⟩
      refine PO.weak w42 ?_
      refine PO.nil ?_
      exact ⟨v21,Weak.one [0,1,2,3,4] [0,1,2] (by kernel_rfl),Option.some.inj e29⟩
     rintro _ ⟨v20,w43,rfl⟩
     refine PO.weak w43 ?_
     refine PO.nil ?_
     exact ⟨v20,Weak.one [0,1,2,3,4] [0,1,2] (by kernel_rfl),Option.some.inj e26⟩
    have e26:=bif_f h27 e26
    refine PO.run 33 rfl ?_
    refine PO.same rfl (pickF_ok rfl rfl rfl) rfl ?_
    refine PO.nil ?_
    exact ⟨false,Weak.one [0,1,2,3,4] [0,1,2] (by kernel_rfl),Option.some.inj e26⟩
   rintro _ ⟨v19,w44,rfl⟩
   refine PO.weak w44 ?_
   refine PO.nil ?_
   refine bindK e19 (fun x45 e46 e19=>?_)
   refine PC.join (fun s=>∃ (v24 : List GWrong) (v25 : Bool),Weak s (PS.of 112 [(0,vP 2),(4,vP 3),(5,.list 3 (List.map cGWrong v24) (some 2)),(9,vB v25),(11,vP 4),(50,.list 3 (List.map cGWrong a6) (some 1)),(51,vI (a6.length : Int)),(52,vI v14)] [⟨4294967295,[.list 2 (List.map cGspot a1) none]⟩,⟨4294967295,[.list 7 (List.map cI_i64 a2) none]⟩,⟨0,[.list 3 (List.map cGChar a3) none,.mp 0,.mp 1,.list 1 (List.map cI_i64 a4) (some 0),vI a5,.list 3 (List.map cGWrong a6) (some 1)]⟩,⟨0,[vI a0.page,vI a0.row,vI 3]⟩,⟨0,(cGWrong y18)⟩] [a4.length,a6.length,v24.length] 3 2) ∧ (v24,v25) = x45) ?_ ?_
   ·refine PC.cond rfl (fun h47=>?_) (fun h47=>?_)
    ·have e46:=bif_t h47 e46
     refine PC.assoc ?_
     refine PC.region ?_
     refine oK 3 [0,1,2,3,4] [0,1,2,3] [(0,vP 2),(4,vP 3),(5,.list 3 (List.map cGWrong v12) (some 2)),(9,vB v13),(11,vP 4),(50,.list 3 (List.map cGWrong a6) (some 1)),(51,vI (a6.length : Int)),(52,vI v14),(93,.list 3 (List.map cGWrong v12) (some 2)),(95,.list 3 (List.map cGWrong ([(GWrong.mk a0.page a0.row 3)])) (some 3))] [⟨4294967295,[.list 2 (List.map cGspot a1) none]⟩,⟨4294967295,[.list 7 (List.map cI_i64 a2) none]⟩,⟨0,[.list 3 (List.map cGChar a3) none,.mp 0,.mp 1,.list 1 (List.map cI_i64 a4) (some 0),vI a5,.list 3 (List.map cGWrong a6) (some 1)]⟩,⟨0,[vI a0.page,vI a0.row,vI 3]⟩,⟨0,(cGWrong y18)⟩] [a4.length,a6.length,v12.length,1] (by kernel_rfl) ?_
     refine bindAK e46 (fun h48 e46=>?_)
     generalize hgl26 : v12 ++ ([(GWrong.mk a0.page a0.row 3)]) = l26 at e46
     refine PO.one rfl (append_typed (L:=v12) (M:=[(GWrong.mk a0.page a0.row 3)]) (f:=cGWrong) (sz:=3) (bytes:=24) Try.underlying31 rfl rfl rfl rfl rfl rfl rfl rfl rfl rfl rfl rfl h48 hgl26) rfl ?_
     refine PO.run 1 rfl ?_
     refine PO.nil ?_
     refine PC.run (n:=2) rfl ?_
     exact PC.skip (joinKP.end ⟨l26,true,Weak.one [0,1,2,3,4] [0,1,2] (by kernel_rfl),Option.some.inj e46⟩)
    have e46:=bif_f h47 e46
    refine PC.noop ?_
    exact PC.skip (joinKP.end ⟨v12,v13,Weak.one [0,1,2,3,4] [0,1,2] (by kernel_rfl),Option.some.inj e46⟩)
   rintro _ ⟨v24,v25,w49,rfl⟩
   refine PC.weak w49 ?_
   refine PC.lone ?_
   refine PC.region ?_
   refine oK 3 [0,1,2,3] [0,1,2,3] [(0,vP 2),(4,vP 3),(5,.list 3 (List.map cGWrong v24) (some 2)),(9,vB v25),(50,.list 3 (List.map cGWrong a6) (some 1)),(51,vI (a6.length : Int)),(52,vI v14),(97,.list 3 (List.map cGWrong v24) (some 2)),(99,.list 3 (List.map cGWrong ([y18])) (some 3))] [⟨4294967295,[.list 2 (List.map cGspot a1) none]⟩,⟨4294967295,[.list 7 (List.map cI_i64 a2) none]⟩,⟨0,[.list 3 (List.map cGChar a3) none,.mp 0,.mp 1,.list 1 (List.map cI_i64 a4) (some 0),vI a5,.list 3 (List.map cGWrong a6) (some 1)]⟩,⟨0,[vI a0.page,vI a0.row,vI 3]⟩] [a4.length,a6.length,v24.length,1] (by kernel_rfl) ?_
   refine bindAK e19 (fun h50 e19=>?_)
   generalize hgl27 : v24 ++ ([y18]) = l27 at e19
   refine PO.one rfl (append_typed (L:=v24) (M:=[y18]) (f:=cGWrong) (sz:=3) (bytes:=24) Try.underlying31 rfl rfl rfl rfl rfl rfl rfl rfl rfl rfl rfl rfl h50 hgl27) rfl ?_
   refine PO.run 1 rfl ?_
   refine PO.nil ?_
   refine PC.skip (blockKP.end ?_)
   refine PC.lone ?_
   refine PC.run (n:=3) rfl ?_
   exact PC.skip (loopKP.mk (Nat.lt_succ_self _) ⟨l27,v25,w (v14 + 1),Weak.one [0,1,2,3] [0,1,2] (by kernel_rfl),e19⟩)
  have e19:=bif_f h22 e19
  exact PC.exit (loopKP.exit (blockJK.here ⟨v12,v13,Weak.one [0,1,2,3] [0,1,2] (by kernel_rfl),Option.some.inj e19⟩))
 rintro _ ⟨v7,v8,w51,rfl⟩
 refine PC.weak w51 ?_
 refine PC.assoc ?_
 refine PC.run (n:=3) rfl ?_
 refine bindK hF (fun x52 e53 hF=>?_)
 refine PC.join (fun s=>∃ (v28 : List GWrong),Weak s (PS.of 112 [(0,vP 2),(5,.list 3 (List.map cGWrong v28) (some 2))] [⟨4294967295,[.list 2 (List.map cGspot a1) none]⟩,⟨4294967295,[.list 7 (List.map cI_i64 a2) none]⟩,⟨0,[.list 3 (List.map cGChar a3) none,.mp 0,.mp 1,.list 1 (List.map cI_i64 a4) (some 0),vI a5,.list 3 (List.map cGWrong a6) (some 1)]⟩] [a4.length,a6.length,v28.length] 3 2) ∧ v28 = x52) ?_ ?_
 ·refine PC.cond rfl (fun h54=>?_) (fun h54=>?_)
  ·have e53:=bif_t h54 e53
   refine PC.region ?_
   refine oK 3 [0,1,2] [0,1,2,3] [(0,vP 2),(5,.list 3 (List.map cGWrong v7) (some 2)),(104,.list 3 (List.map cGWrong v7) (some 2)),(106,.list 3 (List.map cGWrong ([(GWrong.mk a0.page a0.row 3)])) (some 3))] [⟨4294967295,[.list 2 (List.map cGspot a1) none]⟩,⟨4294967295,[.list 7 (List.map cI_i64 a2) none]⟩,⟨0,[.list 3 (List.map cGChar a3) none,.mp 0,.mp 1,.list 1 (List.map cI_i64 a4) (some 0),vI a5,.list 3 (List.map cGWrong a6) (some 1)]⟩] [a4.length,a6.length,v7.length,1] (by kernel_rfl) ?_
   refine bindAK e53 (fun h55 e53=>?_)
   generalize hgl29 : v7 ++ ([(GWrong.mk a0.page a0.row 3)]) = l29 at e53
   refine PO.one rfl (append_typed (L:=v7) (M:=[(GWrong.mk a0.page a0.row 3)]) (f:=cGWrong) (sz:=3) (bytes:=24) Try.underlying31 rfl rfl rfl rfl rfl rfl rfl rfl rfl rfl rfl rfl h55 hgl29) rfl ?_
   refine PO.run 1 rfl ?_
   refine PO.nil ?_
   exact PC.skip (joinKP.end ⟨l29,Weak.one [0,1,2] [0,1,2] (by kernel_rfl),Option.some.inj e53⟩)
  have e53:=bif_f h54 e53
  refine PC.noop ?_
  exact PC.skip (joinKP.end ⟨v7,Weak.one [0,1,2] [0,1,2] (by kernel_rfl),Option.some.inj e53⟩)
 rintro _ ⟨v28,w56,rfl⟩
 refine PC.weak w56 ?_
 refine PC.lone ?_
 refine PC.region ?_
 refine oK 5 [0,1,2] [0,1,2] [] [⟨4294967295,[.list 2 (List.map cGspot a1) none]⟩,⟨4294967295,[.list 7 (List.map cI_i64 a2) none]⟩,⟨0,[.list 3 (List.map cGChar a3) none,.mp 0,.mp 1,.list 1 (List.map cI_i64 a4) (some 0),vI a5,.list 3 (List.map cGWrong v28) (some 2)]⟩] [a4.length,a6.length,v28.length] (by kernel_rfl) ?_
 refine PO.nil ?_
 refine PC.weak (s':=PS.of 112 [] [⟨4294967295,[.list 2 (List.map cGspot a1) none]⟩,⟨4294967295,[.list 7 (List.map cI_i64 a2) none]⟩,⟨0,[.list 3 (List.map cGChar a3) none,.mp 0,.mp 1,.list 1 (List.map cI_i64 a4) none,vI a5,.list 3 (List.map cGWrong v28) none]⟩] [a4.length,a6.length,v28.length] 3 2) (Weak.mk [0,1,2] [0,1,2] 0 rfl rfl rfl ⟨⟨_,_,rfl,rfl,rfl,(LessL.refl _)⟩,⟨⟨_,_,rfl,rfl,rfl,(LessL.refl _)⟩,⟨⟨_,_,rfl,rfl,rfl,(LessL.cons (.refl _) (LessL.cons (.refl _) (LessL.cons (.refl _) (LessL.cons (.tok _ _ _) (LessL.cons (.refl _) (LessL.cons (.tok _ _ _) (LessL.refl _)))))))⟩,trivial⟩⟩⟩ trivial) ?_
 have hq:=Option.some.inj hF
 subst hq
 exact PC.skip (retSN [0,1,2] [0,1] (by kernel_rfl) (.refl _) ⟨rfl,rfl,rfl⟩)

/-! 9 platen/judge.All -/
def F9_l1 (k : Nat) (a1 : List GChar) : Nat → Int → (List Gspot) → (List Int) → (List Int) → Option ((List Gspot) × (List Int) × (List Int))
  | 0, _, _, _, _ => none
  | j3 + 1, v8, v9, v10, v11 =>
    bif decide (v8 < (a1.length : Int)) then (Option.bind (α := (List Gspot) × (List Int) × (List Int)) (bindI a1 v8 fun y19 =>
    Option.bind (α := List Gspot) (bif !(lkB Gspot.page y19.from_ v9) then (some (up Gspot.page (Gspot.mk y19.from_ v8) v9)) else (some v9)) fun (v20 : List Gspot) =>
    Option.bind (α := List Int) (bif y19.rune == 173 then (some (up idI y19.from_ v10)) else (some v10)) fun (v21 : List Int) =>
    (F25 k y19).bind fun r18 =>
    bif !r18 then (bindA 8 v11 ([y19.from_]) fun l22 =>
    some (v20, v21, l22)) else (some (v20, v21, v11))) fun (v16, v17, v18) =>
    F9_l1 k a1 j3 (w (v8 + 1)) v16 v17 v18) else (some (v9, v10, v11))
def F9_r2 (k : Nat) (a0 : List GPage) : List (Gspot × GRow) → (List Gspot) → (List Int) → (List GChar) → (List Int) → Int → (List GWrong) → Gspot → (Option GRow) → Option (((List Gspot) × (List Int) × (List GChar) × (List Int) × Int × (List GWrong) × Gspot × (Option GRow)))
  | [], v34, v35, v36, v37, v38, v39, v42, v43 => some (v34, v35, v36, v37, v38, v39, v42, v43)
  | y33 :: l54, v34, v35, v36, v37, v38, v39, v42, v43 =>
    Option.bind (α := (List Gspot) × (List Int) × (List GChar) × (List Int) × Int × (List GWrong) × Gspot × (Option GRow)) (bif decide (y33.1.row < 0) then (bindI a0 y33.1.page fun y65 =>
    (F29 k y65).bind fun r41 =>
    (F28_s k y33.1 r41 4 v34 v35 v36 v37 v38 v39).bind fun r43 =>
    some (r43.1, r43.2.1, r43.2.2.1, r43.2.2.2.1, r43.2.2.2.2.1, r43.2.2.2.2.2, v42, none)) else (bindI a0 y33.1.page fun y66 =>
    (F30_s k y33.1 y66 y33.2 v43 v34 v35 v36 v37 v38 v39).bind fun r47 =>
    some (r47.1, r47.2.1, r47.2.2.1, r47.2.2.2.1, r47.2.2.2.2.1, r47.2.2.2.2.2, y33.1, (some y33.2)))) fun (v55, v56, v57, v58, v59, v60, v63, v64) =>
    F9_r2 k a0 l54 v55 v56 v57 v58 v59 v60 v63 v64
def F9 (k : Nat) (a0 : List GPage) (a1 : List GChar) : Option (List GWrong) :=
Option.bind (α := (List Gspot) × (List Int) × (List Int)) (F9_l1 k a1 k 0 ([] : List Gspot) ([] : List Int) ([] : List Int)) fun (v1, v2, v3) =>
guardS v3.length ((F27 k a0).bind fun r25 =>
Option.bind (α := (List Gspot) × (List Int) × (List GChar) × (List Int) × Int × (List GWrong) × Gspot) ((rowsL k r25 k 0).bind fun l32 =>
Option.bind (α := ((List Gspot) × (List Int) × (List GChar) × (List Int) × Int × (List GWrong) × Gspot × (Option GRow))) (F9_r2 k a0 l32 v1 v2 a1 (srt v3) 0 ([] : List GWrong) (Gspot.mk 0 0) none) (fun (v34, v35, v36, v37, v38, v39, v42, v43) =>
some (v34, v35, v36, v37, v38, v39, v42))) fun (v23, v24, v25, v26, v27, v28, v31) =>
(F31_s k v27 0 true v23 v24 v25 v26 v27 v28).bind fun r51 =>
Option.bind (α := (List Gspot) × (List Int) × (List GChar) × (List Int) × Int × (List GWrong)) (bif r51.1 then ((F32_s k v31 r51.2.1 r51.2.2.1 r51.2.2.2.1 r51.2.2.2.2.1 r51.2.2.2.2.2.1 r51.2.2.2.2.2.2).bind fun r56 =>
some (r56.1, r56.2.1, r56.2.2.1, r56.2.2.2.1, r56.2.2.2.2.1, r56.2.2.2.2.2)) else (some (r51.2.1, r51.2.2.1, r51.2.2.2.1, r51.2.2.2.2.1, r51.2.2.2.2.2.1, r51.2.2.2.2.2.2))) fun (v67, v68, v69, v70, v71, v72) =>
some v72)
theorem L9 (k : Nat) (a0 : List GPage) (a1 : List GChar) (r : List GWrong) (hF : F9 k a0 a1 = some r) : PF Try.prog orc 9 [.list 4 (List.map cGPage a0) none,.list 3 (List.map cGChar a1) none] [] [] (fun p fr tk=>p = .list 3 (List.map cGWrong r) none ∧ fr = [] ∧ tk = []):=by
 unfold F9 at hF
 refine PF.enterM Try.func9 rfl rfl rfl (by kernel_rfl) rfl ?_
 refine PC.region ?_
 refine oK 2 [0] [] [(1,.list 3 (List.map cGChar a1) none),(2,vP 0),(4,.val (.slice none 0 0))] [⟨0,[.list 4 (List.map cGPage a0) none]⟩] [] (by kernel_rfl) ?_
 refine PO.nil ?_
 refine PC.region ?_
 refine PO.run 1 rfl ?_
 refine PO.one rfl (makeMap_ok 2) rfl ?_
 refine oK 0 [0,1] [] [(1,.list 3 (List.map cGChar a1) none),(2,vP 0),(4,.val (.slice none 0 0)),(14,.list 3 (List.map cGChar a1) none),(15,.mp 1)] [⟨0,[.list 4 (List.map cGPage a0) none]⟩,⟨4294967295,[.list 2 (List.map cGspot ([] : List Gspot)) none]⟩] [] (by kernel_rfl) ?_
 refine PO.one rfl (makeMap_ok 7) rfl ?_
 refine oK 4 [0,1,2,3,4] [] [(1,.list 3 (List.map cGChar a1) none),(2,vP 0),(4,.val (.slice none 0 0)),(5,vP 4)] [⟨0,[.list 4 (List.map cGPage a0) none]⟩,⟨4294967295,[.list 2 (List.map cGspot ([] : List Gspot)) none]⟩,⟨4294967295,[.list 7 (List.map cI_i64 ([] : List Int)) none]⟩,⟨0,[.list 3 (List.map cGChar a1) none,.mp 1,.mp 2,.val (.slice none 0 0),vI 0,.val (.slice none 0 0)]⟩,⟨0,[vP 3]⟩] [] (by kernel_rfl) ?_
 refine PO.nil ?_
 refine PC.assoc ?_
 refine PC.region ?_
 refine PO.run 1 rfl ?_
 refine PO.same rfl (len_ok Try.underlying23 rfl (List.length_map _)) rfl ?_
 refine PO.run 1 rfl ?_
 refine PO.nil ?_
 refine bindK hF (fun x1 e2 hF=>?_)
 refine PC.blockJ (fun s=>∃ (v1 : List Gspot) (v2 : List Int) (v3 : List Int),Weak s (PS.ofm [none] 116 [(2,vP 0),(4,.val (.slice none 0 0)),(5,vP 4)] [⟨0,[.list 4 (List.map cGPage a0) none]⟩,⟨4294967295,[.list 2 (List.map cGspot v1) none]⟩,⟨4294967295,[.list 7 (List.map cI_i64 v2) none]⟩,⟨0,[.list 3 (List.map cGChar a1) none,.mp 1,.mp 2,.list 1 (List.map cI_i64 v3) (some 0),vI 0,.list 3 (List.map cGWrong ([] : List GWrong)) (some 1)]⟩,⟨0,[vP 3]⟩] [v3.length,(([] : List GWrong)).length] 0 0) ∧ (v1,v2,v3) = x1) ?_ ?_
 ·refine PC.weak (s':=PS.ofm [none] 116 [(2,vP 0),(4,.val (.slice none 0 0)),(5,vP 4),(19,.list 3 (List.map cGChar a1) none),(20,vI (a1.length : Int)),(21,vI 0)] [⟨0,[.list 4 (List.map cGPage a0) none]⟩,⟨4294967295,[.list 2 (List.map cGspot ([] : List Gspot)) none]⟩,⟨4294967295,[.list 7 (List.map cI_i64 ([] : List Int)) none]⟩,⟨0,[.list 3 (List.map cGChar a1) none,.mp 1,.mp 2,.list 1 (List.map cI_i64 ([] : List Int)) (some 0),vI 0,.list 3 (List.map cGWrong ([] : List GWrong)) (some 1)]⟩,⟨0,[vP 3]⟩] [0,0] 0 0) (Weak.mk [0,1,2,3,4] [] 2 rfl rfl rfl ⟨⟨_,_,rfl,rfl,rfl,(LessL.refl _)⟩,⟨⟨_,_,rfl,rfl,rfl,(LessL.refl _)⟩,⟨⟨_,_,rfl,rfl,rfl,(LessL.refl _)⟩,⟨⟨_,_,rfl,rfl,rfl,(LessL.cons (.refl _) (LessL.cons (.refl _) (LessL.cons (.refl _) (LessL.cons (.nilt 1 0 rfl rfl) (LessL.cons (.refl _) (LessL.cons (.nilt 3 1 rfl rfl) (LessL.refl _)))))))⟩,⟨⟨_,_,rfl,rfl,rfl,(LessL.refl _)⟩,trivial⟩⟩⟩⟩⟩ ⟨⟨_,_,rfl,rfl,.refl _⟩,⟨⟨_,_,rfl,rfl,.refl _⟩,⟨⟨_,_,rfl,rfl,.refl _⟩,⟨⟨_,_,rfl,rfl,.refl _⟩,⟨⟨_,_,rfl,rfl,.refl _⟩,⟨⟨_,_,rfl,rfl,.refl _⟩,trivial⟩⟩⟩⟩⟩⟩) ?_
  refine PC.loop (fun j3 s=>∃ (v8 : Int) (v9 : List Gspot) (v10 : List Int) (v11 : List Int),Weak s (PS.ofm [none] 116 [(2,vP 0),(4,.val (.slice none 0 0)),(5,vP 4),(19,.list 3 (List.map cGChar a1) none),(20,vI (a1.length : Int)),(21,vI v8)] [⟨0,[.list 4 (List.map cGPage a0) none]⟩,⟨4294967295,[.list 2 (List.map cGspot v9) none]⟩,⟨4294967295,[.list 7 (List.map cI_i64 v10) none]⟩,⟨0,[.list 3 (List.map cGChar a1) none,.mp 1,.mp 2,.list 1 (List.map cI_i64 v11) (some 0),vI 0,.list 3 (List.map cGWrong ([] : List GWrong)) (some 1)]⟩,⟨0,[vP 3]⟩] [v11.length,(([] : List GWrong)).length] 0 0) ∧ F9_l1 k a1 j3 v8 v9 v10 v11 = some x1) (fun j3 s=>?_) k ⟨0,([] : List Gspot),([] : List Int),([] : List Int),Weak.one [0,1,2,3,4] [0,1] (by kernel_rfl),e2⟩
  rintro ⟨v8,v9,v10,v11,w4,e2⟩
  refine PC.weak w4 ?_
  obtain _ | j3:=j3
  · rw [F9_l1] at e2; cases e2
  rw [F9_l1] at e2
  refine PC.run (n:=2) rfl ?_
  refine PC.cond rfl (fun h5=>?_) (fun h5=>?_)
  ·have e2:=bif_t h5 e2
   refine PC.noop ?_
   refine bindK e2 (fun x6 e7 e2=>?_)
   refine PC.blockJ (fun s=>∃ (v16 : List Gspot) (v17 : List Int) (v18 : List Int),Weak s (PS.ofm [none] 116 [(2,vP 0),(4,.val (.slice none 0 0)),(5,vP 4),(19,.list 3 (List.map cGChar a1) none),(20,vI (a1.length : Int)),(21,vI v8)] [⟨0,[.list 4 (List.map cGPage a0) none]⟩,⟨4294967295,[.list 2 (List.map cGspot v16) none]⟩,⟨4294967295,[.list 7 (List.map cI_i64 v17) none]⟩,⟨0,[.list 3 (List.map cGChar a1) none,.mp 1,.mp 2,.list 1 (List.map cI_i64 v18) (some 0),vI 0,.list 3 (List.map cGWrong ([] : List GWrong)) (some 1)]⟩,⟨0,[vP 3]⟩] [v18.length,(([] : List GWrong)).length] 0 0) ∧ (v16,v17,v18) = x6) ?_ ?_
   ·refine PC.region ?_
    refine PO.run 1 rfl ?_
    refine bindIK e7 (fun y19 h8 h9 e7=>?_)
    refine PO.same rfl (indexAddr_ok Try.underlying23 rfl rfl rfl h8 (map_at h9)) rfl ?_
    refine oK 4 [0,1,2,3,4,5] [0,1] [(2,vP 0),(4,.val (.slice none 0 0)),(5,vP 4),(6,vI v8),(7,vP 5),(19,.list 3 (List.map cGChar a1) none),(20,vI (a1.length : Int)),(21,vI v8)] [⟨0,[.list 4 (List.map cGPage a0) none]⟩,⟨4294967295,[.list 2 (List.map cGspot v9) none]⟩,⟨4294967295,[.list 7 (List.map cI_i64 v10) none]⟩,⟨0,[.list 3 (List.map cGChar a1) none,.mp 1,.mp 2,.list 1 (List.map cI_i64 v11) (some 0),vI 0,.list 3 (List.map cGWrong ([] : List GWrong)) (some 1)]⟩,⟨0,[vP 3]⟩,⟨0,(cGChar y19)⟩] [v11.length,(([] : List GWrong)).length] (by kernel_rfl) ?_
    refine PO.nil ?_
    refine PC.assoc ?_
    refine PC.drawn (order:=[0,1,2,3,4,5,6,7,8,9,10,11]) (by kernel_rfl) ?_
    refine PO.run 6 rfl ?_
    refine PO.same rfl (lookupI_ok mc62 Try.underlying62 Try.underlying3 ckInt rfl rfl rfl rfl) rfl ?_
    refine PO.run 5 rfl ?_
    refine PO.nil ?_
    refine PC.assoc ?_
    refine PC.run (n:=3) rfl ?_
    refine bindK e7 (fun x10 e11 e7=>?_)
    refine PC.join (fun s=>∃ (v20 : List Gspot),Weak s (PS.ofm [none] 116 [(2,vP 0),(4,.val (.slice none 0 0)),(5,vP 4),(7,vP 5),(19,.list 3 (List.map cGChar a1) none),(20,vI (a1.length : Int)),(21,vI v8)] [⟨0,[.list 4 (List.map cGPage a0) none]⟩,⟨4294967295,[.list 2 (List.map cGspot v20) none]⟩,⟨4294967295,[.list 7 (List.map cI_i64 v10) none]⟩,⟨0,[.list 3 (List.map cGChar a1) none,.mp 1,.mp 2,.list 1 (List.map cI_i64 v11) (some 0),vI 0,.list 3 (List.map cGWrong ([] : List GWrong)) (some 1)]⟩,⟨0,[vP 3]⟩,⟨0,(cGChar y19)⟩] [v11.length,(([] : List GWrong)).length] 0 0) ∧ v20 = x10) ?_ ?_
    ·refine PC.cond rfl (fun h12=>?_) (fun h12=>?_)
     ·have e11:=bif_t h12 e11
      refine PC.drawn (order:=[0,1,2,3,4,5,6,7]) (by kernel_rfl) ?_
      refine PO.run 7 rfl ?_
      refine PO.one rfl (mapUpdate_ok (w:=(Gspot.mk y19.from_ v8)) mc62 Try.underlying62 Try.underlying3 ckInt rfl rfl rfl rfl) rfl ?_
      refine PO.nil ?_
      exact PC.skip (joinKP.end ⟨up Gspot.page (Gspot.mk y19.from_ v8) v9,Weak.one [0,1,2,3,4,5] [0,1] (by kernel_rfl),Option.some.inj e11⟩)
     have e11:=bif_f h12 e11
     refine PC.noop ?_
     exact PC.skip (joinKP.end ⟨v9,Weak.one [0,1,2,3,4,5] [0,1] (by kernel_rfl),Option.some.inj e11⟩)
    rintro _ ⟨v20,w13,rfl⟩
    refine PC.weak w13 ?_
    refine PC.assoc ?_
    refine PC.run (n:=4) rfl ?_
    refine bindK e7 (fun x14 e15 e7=>?_)
    refine PC.join (fun s=>∃ (v21 : List Int),Weak s (PS.ofm [none] 116 [(2,vP 0),(4,.val (.slice none 0 0)),(5,vP 4),(7,vP 5),(19,.list 3 (List.map cGChar a1) none),(20,vI (a1.length : Int)),(21,vI v8)] [⟨0,[.list 4 (List.map cGPage a0) none]⟩,⟨4294967295,[.list 2 (List.map cGspot v20) none]⟩,⟨4294967295,[.list 7 (List.map cI_i64 v21) none]⟩,⟨0,[.list 3 (List.map cGChar a1) none,.mp 1,.mp 2,.list 1 (List.map cI_i64 v11) (some 0),vI 0,.list 3 (List.map cGWrong ([] : List GWrong)) (some 1)]⟩,⟨0,[vP 3]⟩,⟨0,(cGChar y19)⟩] [v11.length,(([] : List GWrong)).length] 0 0) ∧ v21 = x14) ?_ ?_
    ·refine PC.cond rfl (fun h16=>?_) (fun h16=>?_)
     ·have e15:=bif_t h16 e15
      refine PC.drawn (order:=[0,1,2,3,4,5,6,7]) (by kernel_rfl) ?_
      refine oK 7 [0,1,2,3,4,5] [0,1] [(2,vP 0),(4,.val (.slice none 0 0)),(5,vP 4),(7,vP 5),(19,.list 3 (List.map cGChar a1) none),(20,vI (a1.length : Int)),(21,vI v8),(51,.mp 2),(53,vI y19.from_),(54,.agg [])] [⟨0,[.list 4 (List.map cGPage a0) none]⟩,⟨4294967295,[.list 2 (List.map cGspot v20) none]⟩,⟨4294967295,[.list 7 (List.map cI_i64 v10) none]⟩,⟨0,[.list 3 (List.map cGChar a1) none,.mp 1,.mp 2,.list 1 (List.map cI_i64 v11) (some 0),vI 0,.list 3 (List.map cGWrong ([] : List GWrong)) (some 1)]⟩,⟨0,[vP 3]⟩,⟨0,(cGChar y19)⟩] [v11.length,(([] : List GWrong)).length] (by kernel_rfl) ?_
      refine PO.one rfl (mapUpdate_ok (w:=y19.from_) mc63 Try.underlying63 Try.underlying3 ckInt rfl rfl rfl rfl) rfl ?_
      refine PO.nil ?_
      exact PC.skip (joinKP.end ⟨up idI y19.from_ v10,Weak.one [0,1,2,3,4,5] [0,1] (by kernel_rfl),Option.some.inj e15⟩)
     have e15:=bif_f h16 e15
     refine PC.noop ?_
     exact PC.skip (joinKP.end ⟨v10,Weak.one [0,1,2,3,4,5] [0,1] (by kernel_rfl),Option.some.inj e15⟩)
    rintro _ ⟨v21,w17,rfl⟩
    refine PC.weak w17 ?_
    refine PC.region ?_
    refine PO.run 1 rfl ?_
    refine bindK e7 (fun r18 e19 e7=>?_)
    refine PO.call rfl rfl rfl rfl (ks:=[]) (ts:=[]) (fr1:=[]) rfl rfl rfl trivial (L25 k y19 _ e19) ?_
    rintro _ _ _ ⟨rfl,rfl,rfl⟩
    refine ⟨_,_,rfl,rfl,?_⟩
    refine PO.run 1 rfl ?_
    refine PO.nil ?_
    refine PC.lone ?_
    refine PC.cond rfl (fun h20=>?_) (fun h20=>?_)
    ·have e7:=bif_t h20 e7
     refine PC.draw [1,2,3,4,5,6,7,8,0,9,10,11] (by kernel_rfl) ?_
     refine oD 7 [8,0,9,10,11] ⟨254,0,0,[]⟩ [(2,vP 0),(4,.val (.slice none 0 0)),(5,vP 4),(19,.list 3 (List.map cGChar a1) none),(20,vI (a1.length : Int)),(21,vI v8),(62,.list 1 (List.map cI_i64 v11) (some 0)),(65,.list 1 (List.map cI_i64 ([y19.from_])) none)] [⟨0,[.list 4 (List.map cGPage a0) none]⟩,⟨4294967295,[.list 2 (List.map cGspot v20) none]⟩,⟨4294967295,[.list 7 (List.map cI_i64 v21) none]⟩,⟨0,[.list 3 (List.map cGChar a1) none,.mp 1,.mp 2,.list 1 (List.map cI_i64 v11) (some 0),vI 0,.list 3 (List.map cGWrong ([] : List GWrong)) (some 1)]⟩,⟨0,[vP 3]⟩,⟨0,(cGChar y19)⟩] [v11.length,(([] : List GWrong)).length] (by kernel_rfl) ?_
     refine bindAK e7 (fun h21 e7=>?_)
     generalize hgl22 : v11 ++ ([y19.from_]) = l22 at e7
     refine PD.chiefS rfl (by kernel_rfl) rfl (append_effect (L:=v11) (M:=[y19.from_]) (f:=cI_i64) (sz:=1) (bytes:=8) Try.underlying64 rfl rfl rfl rfl rfl rfl rfl rfl rfl rfl rfl rfl h21 hgl22) rfl ?_
     refine oD 4 [] ⟨4095,4095,2047,[(11,[3],false),(8,[3],true)]⟩ [(2,vP 0),(4,.val (.slice none 0 0)),(5,vP 4),(19,.list 3 (List.map cGChar a1) none),(20,vI (a1.length : Int)),(21,vI v8)] [⟨0,[.list 4 (List.map cGPage a0) none]⟩,⟨4294967295,[.list 2 (List.map cGspot v20) none]⟩,⟨4294967295,[.list 7 (List.map cI_i64 v21) none]⟩,⟨0,[.list 3 (List.map cGChar a1) none,.mp 1,.mp 2,.list 1 (List.map cI_i64 l22) (some 0),vI 0,.list 3 (List.map cGWrong ([] : List GWrong)) (some 1)]⟩,⟨0,[vP 3]⟩,⟨0,(cGChar y19)⟩] [l22.length,(([] : List GWrong)).length] (by kernel_rfl) ?_
     refine PD.done [0,1,2,3,4] [0,1] (es:=[(2,vP 0),(4,.val (.slice none 0 0)),(5,vP 4),(19,.list 3 (List.map cGChar a1) none),(20,vI (a1.length : Int)),(21,vI v8)]) (fr':=[⟨0,[.list 4 (List.map cGPage a0) none]⟩,⟨4294967295,[.list 2 (List.map cGspot v20) none]⟩,⟨4294967295,[.list 7 (List.map cI_i64 v21) none]⟩,⟨0,[.list 3 (List.map cGChar a1) none,.mp 1,.mp 2,.list 1 (List.map cI_i64 l22) (some 0),vI 0,.list 3 (List.map cGWrong ([] : List GWrong)) (some 1)]⟩,⟨0,[vP 3]⟩]) (tk':=[l22.length,(([] : List GWrong)).length]) (by kernel_rfl) (by kernel_rfl) ?_
     exact PC.skip (blockJK.end ⟨v20,v21,l22,Weak.one [0,1,2,3,4] [0,1] (by kernel_rfl),Option.some.inj e7⟩)
    have e7:=bif_f h20 e7
    refine PC.noop ?_
    exact PC.skip (blockJK.end ⟨v20,v21,v11,Weak.one [0,1,2,3,4] [0,1] (by kernel_rfl),Option.some.inj e7⟩)
   rintro _ ⟨v16,v17,v18,w22,rfl⟩
   refine PC.weak w22 ?_
   refine PC.lone ?_
   refine PC.run (n:=3) rfl ?_
   exact PC.skip (loopKP.mk (Nat.lt_succ_self _) ⟨w (v8 + 1),v16,v17,v18,Weak.one [0,1,2,3,4] [0,1] (by kernel_rfl),e2⟩)
  have e2:=bif_f h5 e2
  exact PC.exit (loopKP.exit (blockJK.here ⟨v9,v10,v11,Weak.one [0,1,2,3,4] [0,1] (by kernel_rfl),Option.some.inj e2⟩))
 rintro _ ⟨v1,v2,v3,w23,rfl⟩
 refine PC.weak w23 ?_
 refine PC.region ?_
 refine PO.run 3 rfl ?_
 refine PO.weak (s':=PS.ofm [none] 116 [(2,vP 0),(4,.val (.slice none 0 0)),(5,vP 4),(72,.ptr 3 3)] [⟨0,[.list 4 (List.map cGPage a0) none]⟩,⟨4294967295,[.list 2 (List.map cGspot v1) none]⟩,⟨4294967295,[.list 7 (List.map cI_i64 v2) none]⟩,⟨0,[.list 3 (List.map cGChar a1) none,.mp 1,.mp 2,.list 1 (List.map cI_i64 v3) (some 0),vI 0,.list 3 (List.map cGWrong ([] : List GWrong)) (some 1)]⟩,⟨0,[vP 3]⟩] [v3.length,(([] : List GWrong)).length] 0 0) (Weak.one [0,1,2,3,4] [0,1] (by kernel_rfl)) ?_
 have hq:=guardS_some hF
 have h24:=hq.1
 have hF:=hq.2
 clear hq
 refine PO.sort (L:=v3) (L2:=srt v3) (t:=0) (k:=3) (off:=3) [(2,vP 0),(4,.val (.slice none 0 0)),(5,vP 4),(72,.ptr 3 3)] rfl rfl (by kernel_rfl) rfl rfl rfl rfl rfl rfl rfl rfl (.inl rfl) h24 (all2 (⟨by kernel_rfl,.ptr _ _,rfl,by decide⟩) (all2 (⟨by kernel_rfl,.val _,rfl,by decide⟩) (all2 (⟨by kernel_rfl,.ptr _ _,rfl,by decide⟩) (all2 (⟨by kernel_rfl,.ptr _ _,rfl,by decide⟩) all1)))) (all2 ((all2 (.list (by decide) (by decide) (ap_map (fun _=>(all2 (.val _) (all2 (.val _) (all2 (.val _) (all2 (.list (by decide) (by decide) (ap_map (fun _=>(all2 (.val _) (all2 (.val _) (all2 (.val _) (all2 (.list (by decide) (by decide) (ap_map (fun _=>(all2 (.val _) (all2 (.val _) (all2 (.val _) (all2 (.val _) (all2 (.val _) (all2 (.val _) (all2 (.val _) (all2 (.val _) (all2 (.val _) (all2 (.val _) all1))))))))))))) all1))))))) all1))))))) all1)) (all2 ((all2 (.list (by decide) (by decide) (ap_map (fun _=>(all2 (.val _) (all2 (.val _) all1))))) all1)) (all2 ((all2 (.list (by decide) (by decide) (ap_map (fun _=>(all2 (.val _) all1)))) all1)) (all2 ((all2 (.list (by decide) (by decide) (ap_map (fun _=>(all2 (.val _) (all2 (.val _) (all2 (.val _) all1)))))) (all2 (.mp _) (all2 (.mp _) (all2 (.val _) (all2 (.val _) (all2 (.list (by decide) (by decide) (ap_map (fun _=>(all2 (.val _) (all2 (.val _) (all2 (.val _) all1)))))) all1))))))) (all2 ((all2 (.ptr _ _) all1)) all1))))) ?_
 refine PO.weak (s':=PS.ofm [none] 116 [(2,vP 0),(4,.val (.slice none 0 0)),(5,vP 4),(72,.ptr 3 3)] [⟨0,[.list 4 (List.map cGPage a0) none]⟩,⟨4294967295,[.list 2 (List.map cGspot v1) none]⟩,⟨4294967295,[.list 7 (List.map cI_i64 v2) none]⟩,⟨0,[.list 3 (List.map cGChar a1) none,.mp 1,.mp 2,.list 1 (List.map cI_i64 (srt v3)) (some 0),vI 0,.list 3 (List.map cGWrong ([] : List GWrong)) (some 1)]⟩,⟨0,[vP 3]⟩] [v3.length,(([] : List GWrong)).length] 0 0) (Weak.one [0,1,2,3,4] [0,1] (by kernel_rfl)) ?_
 rw [show v3.length = (srt v3).length from (srt_len _).symm]
 refine PO.nil ?_
 refine PC.region ?_
 refine oK 3 [0,1,2,3,4,5] [0,1] [(2,vP 0),(4,.val (.slice none 0 0)),(5,vP 4),(10,vP 5)] [⟨0,[.list 4 (List.map cGPage a0) none]⟩,⟨4294967295,[.list 2 (List.map cGspot v1) none]⟩,⟨4294967295,[.list 7 (List.map cI_i64 v2) none]⟩,⟨0,[.list 3 (List.map cGChar a1) none,.mp 1,.mp 2,.list 1 (List.map cI_i64 (srt v3)) (some 0),vI 0,.list 3 (List.map cGWrong ([] : List GWrong)) (some 1)]⟩,⟨0,[vP 3]⟩,⟨0,[vI 0,vI 0]⟩] [(srt v3).length,(([] : List GWrong)).length] (by kernel_rfl) ?_
 refine PO.nil ?_
 refine PC.region ?_
 refine oK 1 [0,1,2,3,4,5,6] [0,1] [(2,vP 0),(4,.val (.slice none 0 0)),(5,vP 4),(10,vP 5),(11,vP 6)] [⟨0,[.list 4 (List.map cGPage a0) none]⟩,⟨4294967295,[.list 2 (List.map cGspot v1) none]⟩,⟨4294967295,[.list 7 (List.map cI_i64 v2) none]⟩,⟨0,[.list 3 (List.map cGChar a1) none,.mp 1,.mp 2,.list 1 (List.map cI_i64 (srt v3)) (some 0),vI 0,.list 3 (List.map cGWrong ([] : List GWrong)) (some 1)]⟩,⟨0,[vP 3]⟩,⟨0,[vI 0,vI 0]⟩,⟨0,[.val (.pointer none)]⟩] [(srt v3).length,(([] : List GWrong)).length] (by kernel_rfl) ?_
 refine PO.nil ?_
 refine PC.assoc ?_
 refine PC.region ?_
 refine PO.run 1 rfl ?_
 refine bindK hF (fun r25 e26 hF=>?_)
 refine PO.call rfl rfl rfl rfl (ks:=[]) (ts:=[]) (fr1:=[]) rfl rfl rfl trivial (L27 k a0 _ e26) ?_
 rintro _ _ _ ⟨rfl,rfl,rfl⟩
 refine ⟨_,_,rfl,rfl,?_⟩
 refine PO.nil ?_
 refine bindK hF (fun x27 e28 hF=>?_)
 refine PC.blockJ (fun s=>∃ (v23 : List Gspot) (v24 : List Int) (v25 : List GChar) (v26 : List Int) (v27 : Int) (v28 : List GWrong) (v31 : Gspot),Weak s (PS.ofm [none] 116 [(4,.val (.slice none 0 0)),(5,vP 3),(10,vP 4)] [⟨4294967295,[.list 2 (List.map cGspot v23) none]⟩,⟨4294967295,[.list 7 (List.map cI_i64 v24) none]⟩,⟨0,[.list 3 (List.map cGChar v25) none,.mp 0,.mp 1,.list 1 (List.map cI_i64 v26) (some 0),vI v27,.list 3 (List.map cGWrong v28) (some 1)]⟩,⟨0,[vP 2]⟩,⟨0,(cGspot v31)⟩] [v26.length,v28.length] 0 0) ∧ (v23,v24,v25,v26,v27,v28,v31) = x27) ?_ ?_
 ·refine PC.lone ?_
  refine bindK e28 (fun l32 e29 e28=>?_)
  refine PC.weak (s':=PS.ofm [none] 116 [(2,vP 0),(4,.val (.slice none 0 0)),(5,vP 4),(10,vP 5),(11,vP 6),(77,.fn 40 [] [vP 7])] [⟨0,[.list 4 (List.map cGPage a0) none]⟩,⟨4294967295,[.list 2 (List.map cGspot v1) none]⟩,⟨4294967295,[.list 7 (List.map cI_i64 v2) none]⟩,⟨0,[.list 3 (List.map cGChar a1) none,.mp 1,.mp 2,.list 1 (List.map cI_i64 (srt v3)) (some 0),vI 0,.list 3 (List.map cGWrong ([] : List GWrong)) (some 1)]⟩,⟨0,[vP 3]⟩,⟨0,[vI 0,vI 0]⟩,⟨0,[.val (.pointer none)]⟩,⟨0,[.list 4 (List.map cGPage r25) none]⟩] [(srt v3).length,(([] : List GWrong)).length] 0 0) (Weak.one [0,1,2,3,4,5,6,7] [0,1] (by kernel_rfl)) ?_
  refine bindK e28 (fun x30 e31 e28=>?_)
  refine PC.rangeFunc (f:=40) rfl (I40 k r25 k l32 e29 7) (by intro i x hx; obtain ⟨_,_,rfl⟩:=map_inv hx; rfl) (by intro h; first | rfl | cases h) (fun i fr tk=>∃ (v34 : List Gspot) (v35 : List Int) (v36 : List GChar) (v37 : List Int) (v38 : Int) (v39 : List GWrong) (v42 : Gspot) (v43 : Option GRow),fr = [⟨0,[.list 4 (List.map cGPage a0) none]⟩,⟨4294967295,[.list 2 (List.map cGspot v34) none]⟩,⟨4294967295,[.list 7 (List.map cI_i64 v35) none]⟩,⟨0,[.list 3 (List.map cGChar v36) none,.mp 1,.mp 2,.list 1 (List.map cI_i64 v37) (some 0),vI v38,.list 3 (List.map cGWrong v39) (some 1)]⟩,⟨0,[vP 3]⟩,⟨0,(cGspot v42)⟩,⟨0,[optE cGRow v43]⟩,⟨0,[.list 4 (List.map cGPage r25) none]⟩] ∧ tk = [v37.length,v39.length] ∧ F9_r2 k a0 (List.drop i l32) v34 v35 v36 v37 v38 v39 v42 v43 = some x30) (fun y fr tk=>False) ?_ ?_ ?_ ?_ ?_
  · rintro i fr tk ⟨v34,v35,v36,v37,v38,v39,v42,v43,rfl,rfl,_⟩
    exact ⟨rfl,rfl,⟨_,_,rfl,rfl,(all2 ((all2 (noR_list) all1)) (all2 ((all2 (noR_list) all1)) (all2 ((all2 (noR_list) all1)) (all2 ((all2 (noR_list) (all2 (noR_mp rfl) (all2 (noR_mp rfl) (all2 (noR_list) (all2 (noR_val) (all2 (noR_list) all1))))))) (all2 ((all2 (noR_ptr rfl) all1)) (all2 ((all2 (noR_val) (all2 (noR_val) all1))) (all2 ((all2 (noR_oe) all1)) (all2 ((all2 (noR_list) all1)) all1))))))))⟩⟩
  · exact ⟨v1,v2,a1,srt v3,0,([] : List GWrong),(Gspot.mk 0 0),none,rfl,rfl,e31⟩
  ·intro i x fr tk l hx hj
   refine Exists.elim (map_inv hx) (fun y33 hq=>?_)
   have ha:=hq.1
   obtain rfl:=hq.2
   clear hq
   obtain ⟨v34,v35,v36,v37,v38,v39,v42,v43,rfl,rfl,e32⟩:=hj
   rw [drop_at ha,F9_r2] at e32
   clear hx ha
   refine ⟨_,rfl,?_⟩
   refine PC.weak (s':=PS.of 116 [(2,vP 0),(5,vP 4),(10,vP 5),(11,vP 6),(78,.agg (cGspot y33.1)),(79,.agg (cGRow y33.2))] [⟨0,[.list 4 (List.map cGPage a0) none]⟩,⟨4294967295,[.list 2 (List.map cGspot v34) none]⟩,⟨4294967295,[.list 7 (List.map cI_i64 v35) none]⟩,⟨0,[.list 3 (List.map cGChar v36) none,.mp 1,.mp 2,.list 1 (List.map cI_i64 v37) (some 0),vI v38,.list 3 (List.map cGWrong v39) (some 1)]⟩,⟨0,[vP 3]⟩,⟨0,(cGspot v42)⟩,⟨0,[optE cGRow v43]⟩,⟨0,[.list 4 (List.map cGPage r25) none]⟩] [v37.length,v39.length] 8 2) (Weak.one [0,1,2,3,4,5,6,7] [0,1] (by cases v43 <;> kernel_rfl)) ?_
   refine PC.region ?_
   refine oK 2 [0,1,2,3,4,5,6,7,8] [0,1] [(2,vP 0),(5,vP 4),(10,vP 5),(11,vP 6),(12,vP 8),(79,.agg (cGRow y33.2))] [⟨0,[.list 4 (List.map cGPage a0) none]⟩,⟨4294967295,[.list 2 (List.map cGspot v34) none]⟩,⟨4294967295,[.list 7 (List.map cI_i64 v35) none]⟩,⟨0,[.list 3 (List.map cGChar v36) none,.mp 1,.mp 2,.list 1 (List.map cI_i64 v37) (some 0),vI v38,.list 3 (List.map cGWrong v39) (some 1)]⟩,⟨0,[vP 3]⟩,⟨0,(cGspot v42)⟩,⟨0,[optE cGRow v43]⟩,⟨0,[.list 4 (List.map cGPage r25) none]⟩,⟨0,(cGspot y33.1)⟩] [v37.length,v39.length] (by cases v43 <;> kernel_rfl) ?_
   refine PO.nil ?_
   refine PC.lone ?_
   refine PC.region ?_
   refine oK 2 [0,1,2,3,4,5,6,7,8,9] [0,1] [(2,vP 0),(5,vP 4),(10,vP 5),(11,vP 6),(12,vP 8),(13,vP 9)] [⟨0,[.list 4 (List.map cGPage a0) none]⟩,⟨4294967295,[.list 2 (List.map cGspot v34) none]⟩,⟨4294967295,[.list 7 (List.map cI_i64 v35) none]⟩,⟨0,[.list 3 (List.map cGChar v36) none,.mp 1,.mp 2,.list 1 (List.map cI_i64 v37) (some 0),vI v38,.list 3 (List.map cGWrong v39) (some 1)]⟩,⟨0,[vP 3]⟩,⟨0,(cGspot v42)⟩,⟨0,[optE cGRow v43]⟩,⟨0,[.list 4 (List.map cGPage r25) none]⟩,⟨0,(cGspot y33.1)⟩,⟨0,(cGRow y33.2)⟩] [v37.length,v39.length] (by cases v43 <;> kernel_rfl) ?_
   refine PO.nil ?_
   refine PC.skip ⟨rfl,?_⟩
   refine PC.lone ?_
   refine bindK e32 (fun x36 e37 e32=>?_)
   refine PC.blockJ (fun s=>∃ (v55 : List Gspot) (v56 : List Int) (v57 : List GChar) (v58 : List Int) (v59 : Int) (v60 : List GWrong) (v63 : Gspot) (v64 : Option GRow),Weak s (PS.of 116 [] [⟨0,[.list 4 (List.map cGPage a0) none]⟩,⟨4294967295,[.list 2 (List.map cGspot v55) none]⟩,⟨4294967295,[.list 7 (List.map cI_i64 v56) none]⟩,⟨0,[.list 3 (List.map cGChar v57) none,.mp 1,.mp 2,.list 1 (List.map cI_i64 v58) (some 0),vI v59,.list 3 (List.map cGWrong v60) (some 1)]⟩,⟨0,[vP 3]⟩,⟨0,(cGspot v63)⟩,⟨0,[optE cGRow v64]⟩,⟨0,[.list 4 (List.map cGPage r25) none]⟩] [v58.length,v60.length] 8 2) ∧ (v55,v56,v57,v58,v59,v60,v63,v64) = x36) ?_ ?_
   ·refine PC.assoc ?_
    refine PC.run (n:=4) rfl ?_
    refine PC.cond rfl (fun h38=>?_) (fun h38=>?_)
    ·have e37:=bif_t h38 e37
     refine PC.assoc ?_
     refine PC.draw [2,3,4,5,6,7,0,1,8] (by kernel_rfl) ?_
     refine oD 3 [5,6,7,0,1,8] ⟨28,0,0,[]⟩ [(5,vP 4),(11,vP 6),(12,vP 8),(85,.list 4 (List.map cGPage a0) none),(87,vI y33.1.page)] [⟨0,[.list 4 (List.map cGPage a0) none]⟩,⟨4294967295,[.list 2 (List.map cGspot v34) none]⟩,⟨4294967295,[.list 7 (List.map cI_i64 v35) none]⟩,⟨0,[.list 3 (List.map cGChar v36) none,.mp 1,.mp 2,.list 1 (List.map cI_i64 v37) (some 0),vI v38,.list 3 (List.map cGWrong v39) (some 1)]⟩,⟨0,[vP 3]⟩,⟨0,(cGspot v42)⟩,⟨0,[optE cGRow v43]⟩,⟨0,[.list 4 (List.map cGPage r25) none]⟩,⟨0,(cGspot y33.1)⟩,⟨0,(cGRow y33.2)⟩] [v37.length,v39.length] (by cases v43 <;> kernel_rfl) ?_
     refine bindIK e37 (fun y65 h39 h40 e37=>?_)
     refine PD.pureS rfl (by kernel_rfl) rfl (indexAddr_ok Try.underlying22 rfl rfl rfl h39 (map_at h40)) rfl ?_
     refine oD 1 [7,0,1,8] ⟨124,0,0,[]⟩ [(5,vP 4),(11,vP 6),(12,vP 8),(89,.agg (cGPage y65))] [⟨0,[.list 4 (List.map cGPage a0) none]⟩,⟨4294967295,[.list 2 (List.map cGspot v34) none]⟩,⟨4294967295,[.list 7 (List.map cI_i64 v35) none]⟩,⟨0,[.list 3 (List.map cGChar v36) none,.mp 1,.mp 2,.list 1 (List.map cI_i64 v37) (some 0),vI v38,.list 3 (List.map cGWrong v39) (some 1)]⟩,⟨0,[vP 3]⟩,⟨0,(cGspot v42)⟩,⟨0,[optE cGRow v43]⟩,⟨0,[.list 4 (List.map cGPage r25) none]⟩,⟨0,(cGspot y33.1)⟩,⟨0,(cGRow y33.2)⟩] [v37.length,v39.length] (by cases v43 <;> kernel_rfl) ?_
     refine bindK e37 (fun r41 e42 e37=>?_)
     refine PD.call rfl rfl (by kernel_rfl) rfl rfl rfl (ks:=[]) (ts:=[]) (fr1:=[]) rfl rfl rfl trivial (L29 k y65 _ e42) ?_
     rintro _ _ _ ⟨rfl,rfl,rfl⟩
     refine ⟨_,_,rfl,rfl,?_⟩
     refine oD 2 [8] ⟨255,252,124,[(7,[],true)]⟩ [(11,vP 6),(83,vP 3),(84,.agg (cGspot y33.1)),(90,vB r41)] [⟨0,[.list 4 (List.map cGPage a0) none]⟩,⟨4294967295,[.list 2 (List.map cGspot v34) none]⟩,⟨4294967295,[.list 7 (List.map cI_i64 v35) none]⟩,⟨0,[.list 3 (List.map cGChar v36) none,.mp 1,.mp 2,.list 1 (List.map cI_i64 v37) (some 0),vI v38,.list 3 (List.map cGWrong v39) (some 1)]⟩,⟨0,[vP 3]⟩,⟨0,(cGspot v42)⟩,⟨0,[optE cGRow v43]⟩,⟨0,[.list 4 (List.map cGPage r25) none]⟩,⟨0,(cGspot y33.1)⟩,⟨0,(cGRow y33.2)⟩] [v37.length,v39.length] (by cases v43 <;> kernel_rfl) ?_
     refine bindK e37 (fun r43 e44 e37=>?_)
     refine PD.call rfl rfl (by kernel_rfl) rfl rfl rfl (ks:=[1,2,3]) (ts:=[0,1]) (fr1:=[⟨4294967295,[.list 2 (List.map cGspot v34) none]⟩,⟨4294967295,[.list 7 (List.map cI_i64 v35) none]⟩,⟨0,[.list 3 (List.map cGChar v36) none,.mp 0,.mp 1,.list 1 (List.map cI_i64 v37) (some 0),vI v38,.list 3 (List.map cGWrong v39) (some 1)]⟩]) rfl rfl rfl ⟨⟨_,rfl,rfl,rfl⟩,⟨⟨_,rfl,rfl,rfl⟩,⟨⟨_,rfl,rfl,rfl⟩,trivial⟩⟩⟩ (L28_s k y33.1 r41 4 v34 v35 v36 v37 v38 v39 _ e44) ?_
     rintro _ _ _ ⟨rfl,rfl,rfl⟩
     refine ⟨_,_,rfl,rfl,?_⟩
     refine PD.done [0,1,2,3,4,5,6,7] [0,1] (es:=[(11,vP 6)]) (fr':=[⟨0,[.list 4 (List.map cGPage a0) none]⟩,⟨4294967295,[.list 2 (List.map cGspot r43.1) none]⟩,⟨4294967295,[.list 7 (List.map cI_i64 r43.2.1) none]⟩,⟨0,[.list 3 (List.map cGChar r43.2.2.1) none,.mp 1,.mp 2,.list 1 (List.map cI_i64 r43.2.2.2.1) (some 0),vI r43.2.2.2.2.1,.list 3 (List.map cGWrong r43.2.2.2.2.2) (some 1)]⟩,⟨0,[vP 3]⟩,⟨0,(cGspot v42)⟩,⟨0,[optE cGRow v43]⟩,⟨0,[.list 4 (List.map cGPage r25) none]⟩]) (tk':=[r43.2.2.2.1.length,r43.2.2.2.2.2.length]) (by cases v43 <;> kernel_rfl) (by cases v43 <;> kernel_rfl) ?_
     refine PC.assoc ?_
     refine PC.region ?_
     refine oK 1 [0,1,2,3,4,5,6,7] [0,1] [] [⟨0,[.list 4 (List.map cGPage a0) none]⟩,⟨4294967295,[.list 2 (List.map cGspot r43.1) none]⟩,⟨4294967295,[.list 7 (List.map cI_i64 r43.2.1) none]⟩,⟨0,[.list 3 (List.map cGChar r43.2.2.1) none,.mp 1,.mp 2,.list 1 (List.map cI_i64 r43.2.2.2.1) (some 0),vI r43.2.2.2.2.1,.list 3 (List.map cGWrong r43.2.2.2.2.2) (some 1)]⟩,⟨0,[vP 3]⟩,⟨0,(cGspot v42)⟩,⟨0,[.val (.pointer none)]⟩,⟨0,[.list 4 (List.map cGPage r25) none]⟩] [r43.2.2.2.1.length,r43.2.2.2.2.2.length] (by kernel_rfl) ?_
     refine PO.nil ?_
     exact PC.exit (blockJK.here ⟨r43.1,r43.2.1,r43.2.2.1,r43.2.2.2.1,r43.2.2.2.2.1,r43.2.2.2.2.2,v42,none,Weak.one [0,1,2,3,4,5,6,7] [0,1] (by kernel_rfl),Option.some.inj e37⟩)
    have e37:=bif_f h38 e37
    refine PC.noop ?_
    refine PC.drawn (order:=[0,1,2,3,4,5,6,7,8,9]) (by kernel_rfl) ?_
    refine PO.run 5 rfl ?_
    refine bindIK e37 (fun y66 h45 h46 e37=>?_)
    refine PO.same rfl (indexAddr_ok Try.underlying22 rfl rfl rfl h45 (map_at h46)) rfl ?_
    refine PO.run 3 rfl ?_
    refine bindK e37 (fun r47 e48 e37=>?_)
    refine PO.call rfl rfl rfl rfl (ks:=[1,2,3]) (ts:=[0,1]) (fr1:=[⟨4294967295,[.list 2 (List.map cGspot v34) none]⟩,⟨4294967295,[.list 7 (List.map cI_i64 v35) none]⟩,⟨0,[.list 3 (List.map cGChar v36) none,.mp 0,.mp 1,.list 1 (List.map cI_i64 v37) (some 0),vI v38,.list 3 (List.map cGWrong v39) (some 1)]⟩]) rfl rfl (mo_cons rfl (mo_cons rfl (mo_cons rfl (mo_cons rfl (mo_cons oe_to mo_nil))))) ⟨⟨_,rfl,rfl,rfl⟩,⟨⟨_,rfl,rfl,rfl⟩,⟨⟨_,rfl,rfl,rfl⟩,trivial⟩⟩⟩ (L30_s k y33.1 y66 y33.2 v43 v34 v35 v36 v37 v38 v39 _ e48) ?_
    rintro _ _ _ ⟨rfl,rfl,rfl⟩
    refine ⟨_,_,rfl,rfl,?_⟩
    refine PO.nil ?_
    refine PC.lone ?_
    refine PC.draw [1,0,2] (by kernel_rfl) ?_
    refine oD 3 [] ⟨7,7,3,[(2,[5],false),(1,[5,6],false)]⟩ [] [⟨0,[.list 4 (List.map cGPage a0) none]⟩,⟨4294967295,[.list 2 (List.map cGspot r47.1) none]⟩,⟨4294967295,[.list 7 (List.map cI_i64 r47.2.1) none]⟩,⟨0,[.list 3 (List.map cGChar r47.2.2.1) none,.mp 1,.mp 2,.list 1 (List.map cI_i64 r47.2.2.2.1) (some 0),vI r47.2.2.2.2.1,.list 3 (List.map cGWrong r47.2.2.2.2.2) (some 1)]⟩,⟨0,[vP 3]⟩,⟨0,(cGspot y33.1)⟩,⟨0,[vP 9]⟩,⟨0,[.list 4 (List.map cGPage r25) none]⟩,⟨0,(cGspot y33.1)⟩,⟨0,(cGRow y33.2)⟩] [r47.2.2.2.1.length,r47.2.2.2.2.2.length] (by kernel_rfl) ?_
    refine PD.done [0,1,2,3,4,5,6,7,9] [0,1] (es:=[]) (fr':=[⟨0,[.list 4 (List.map cGPage a0) none]⟩,⟨4294967295,[.list 2 (List.map cGspot r47.1) none]⟩,⟨4294967295,[.list 7 (List.map cI_i64 r47.2.1) none]⟩,⟨0,[.list 3 (List.map cGChar r47.2.2.1) none,.mp 1,.mp 2,.list 1 (List.map cI_i64 r47.2.2.2.1) (some 0),vI r47.2.2.2.2.1,.list 3 (List.map cGWrong r47.2.2.2.2.2) (some 1)]⟩,⟨0,[vP 3]⟩,⟨0,(cGspot y33.1)⟩,⟨0,[vP 8]⟩,⟨0,[.list 4 (List.map cGPage r25) none]⟩,⟨0,(cGRow y33.2)⟩]) (tk':=[r47.2.2.2.1.length,r47.2.2.2.2.2.length]) (by kernel_rfl) (by kernel_rfl) ?_
    refine PC.weak (s':=PS.of 116 [] [⟨0,[.list 4 (List.map cGPage a0) none]⟩,⟨4294967295,[.list 2 (List.map cGspot r47.1) none]⟩,⟨4294967295,[.list 7 (List.map cI_i64 r47.2.1) none]⟩,⟨0,[.list 3 (List.map cGChar r47.2.2.1) none,.mp 1,.mp 2,.list 1 (List.map cI_i64 r47.2.2.2.1) (some 0),vI r47.2.2.2.2.1,.list 3 (List.map cGWrong r47.2.2.2.2.2) (some 1)]⟩,⟨0,[vP 3]⟩,⟨0,(cGspot y33.1)⟩,⟨0,[optE cGRow (some y33.2)]⟩,⟨0,[.list 4 (List.map cGPage r25) none]⟩] [r47.2.2.2.1.length,r47.2.2.2.2.2.length] 8 2) (Weak.freeze 8 (cs:=(cGRow y33.2)) rfl (by kernel_rfl)) ?_
    exact PC.skip (blockJK.end ⟨r47.1,r47.2.1,r47.2.2.1,r47.2.2.2.1,r47.2.2.2.2.1,r47.2.2.2.2.2,y33.1,(some y33.2),Weak.one [0,1,2,3,4,5,6,7] [0,1] (by kernel_rfl),Option.some.inj e37⟩)
   rintro _ ⟨v55,v56,v57,v58,v59,v60,v63,v64,w49,rfl⟩
   refine PC.weak w49 ?_
   refine PC.weak (s':=PS.of 116 [] [⟨0,[.list 4 (List.map cGPage a0) none]⟩,⟨4294967295,[.list 2 (List.map cGspot v55) none]⟩,⟨4294967295,[.list 7 (List.map cI_i64 v56) none]⟩,⟨0,[.list 3 (List.map cGChar v57) none,.mp 1,.mp 2,.list 1 (List.map cI_i64 v58) (some 0),vI v59,.list 3 (List.map cGWrong v60) (some 1)]⟩,⟨0,[vP 3]⟩,⟨0,(cGspot v63)⟩,⟨0,[optE cGRow v64]⟩,⟨0,[.list 4 (List.map cGPage r25) none]⟩] [v58.length,v60.length] 8 2) (Weak.one [0,1,2,3,4,5,6,7] [0,1] (by cases v64 <;> kernel_rfl)) ?_
   exact PC.skip (⟨v55,v56,v57,v58,v59,v60,v63,v64,rfl,rfl,e32⟩)
  ·rintro fr tk ⟨v34,v35,v36,v37,v38,v39,v42,v43,rfl,rfl,e32⟩
   rw [List.length_map,List.drop_length,F9_r2] at e32
   obtain rfl:=Option.some.inj e32
   have e28:=e28
   refine PC.weak (s':=PS.ofm [none] 116 [(2,vP 0),(4,.val (.slice none 0 0)),(5,vP 4),(10,vP 5),(11,vP 6),(77,.fn 40 [] [vP 7])] [⟨0,[.list 4 (List.map cGPage a0) none]⟩,⟨4294967295,[.list 2 (List.map cGspot v34) none]⟩,⟨4294967295,[.list 7 (List.map cI_i64 v35) none]⟩,⟨0,[.list 3 (List.map cGChar v36) none,.mp 1,.mp 2,.list 1 (List.map cI_i64 v37) (some 0),vI v38,.list 3 (List.map cGWrong v39) (some 1)]⟩,⟨0,[vP 3]⟩,⟨0,(cGspot v42)⟩,⟨0,[optE cGRow v43]⟩,⟨0,[.list 4 (List.map cGPage r25) none]⟩] [v37.length,v39.length] 0 0) (Weak.one [0,1,2,3,4,5,6,7] [0,1] (by cases v43 <;> kernel_rfl)) ?_
   exact PC.skip (blockJK.end ⟨v34,v35,v36,v37,v38,v39,v42,Weak.one [1,2,3,4,5] [0,1] (by kernel_rfl),Option.some.inj e28⟩)
  ·intro y fr tk hd hy
   exact hd.elim
 rintro _ ⟨v23,v24,v25,v26,v27,v28,v31,w50,rfl⟩
 refine PC.weak w50 ?_
 refine PC.assoc ?_
 refine PC.drawn (order:=[0,1,2,3,4,5]) (by kernel_rfl) ?_
 refine PO.run 5 rfl ?_
 refine bindK hF (fun r51 e52 hF=>?_)
 refine PO.call rfl rfl rfl rfl (ks:=[0,1,2]) (ts:=[0,1]) (fr1:=[⟨4294967295,[.list 2 (List.map cGspot v23) none]⟩,⟨4294967295,[.list 7 (List.map cI_i64 v24) none]⟩,⟨0,[.list 3 (List.map cGChar v25) none,.mp 0,.mp 1,.list 1 (List.map cI_i64 v26) (some 0),vI v27,.list 3 (List.map cGWrong v28) (some 1)]⟩]) rfl rfl rfl ⟨⟨_,rfl,rfl,rfl⟩,⟨⟨_,rfl,rfl,rfl⟩,⟨⟨_,rfl,rfl,rfl⟩,trivial⟩⟩⟩ (L31_s k v27 0 true v23 v24 v25 v26 v27 v28 _ e52) ?_
 rintro _ _ _ ⟨rfl,rfl,rfl⟩
 refine ⟨_,_,rfl,rfl,?_⟩
 refine PO.nil ?_
 refine bindK hF (fun x53 e54 hF=>?_)
 refine PC.join (fun s=>∃ (v67 : List Gspot) (v68 : List Int) (v69 : List GChar) (v70 : List Int) (v71 : Int) (v72 : List GWrong),Weak s (PS.ofm [none] 116 [(4,.val (.slice none 0 0)),(5,vP 3)] [⟨4294967295,[.list 2 (List.map cGspot v67) none]⟩,⟨4294967295,[.list 7 (List.map cI_i64 v68) none]⟩,⟨0,[.list 3 (List.map cGChar v69) none,.mp 0,.mp 1,.list 1 (List.map cI_i64 v70) none,vI v71,.list 3 (List.map cGWrong v72) none]⟩,⟨0,[vP 2]⟩] [] 0 0) ∧ (v67,v68,v69,v70,v71,v72) = x53) ?_ ?_
 ·refine PC.cond rfl (fun h55=>?_) (fun h55=>?_)
  ·have e54:=bif_t h55 e54
   refine PC.region ?_
   refine PO.run 2 rfl ?_
   refine bindK e54 (fun r56 e57 e54=>?_)
   refine PO.call rfl rfl rfl rfl (ks:=[0,1,2]) (ts:=[0,1]) (fr1:=[⟨4294967295,[.list 2 (List.map cGspot r51.2.1) none]⟩,⟨4294967295,[.list 7 (List.map cI_i64 r51.2.2.1) none]⟩,⟨0,[.list 3 (List.map cGChar r51.2.2.2.1) none,.mp 0,.mp 1,.list 1 (List.map cI_i64 r51.2.2.2.2.1) (some 0),vI r51.2.2.2.2.2.1,.list 3 (List.map cGWrong r51.2.2.2.2.2.2) (some 1)]⟩]) rfl rfl rfl ⟨⟨_,rfl,rfl,rfl⟩,⟨⟨_,rfl,rfl,rfl⟩,⟨⟨_,rfl,rfl,rfl⟩,trivial⟩⟩⟩ (L32_s k v31 r51.2.1 r51.2.2.1 r51.2.2.2.1 r51.2.2.2.2.1 r51.2.2.2.2.2.1 r51.2.2.2.2.2.2 _ e57) ?_
   rintro _ _ _ ⟨rfl,rfl,rfl⟩
   refine ⟨_,_,rfl,rfl,?_⟩
   refine PO.nil ?_
   exact PC.skip (joinKP.end ⟨r56.1,r56.2.1,r56.2.2.1,r56.2.2.2.1,r56.2.2.2.2.1,r56.2.2.2.2.2,Weak.one [0,1,2,3] [] (by kernel_rfl),Option.some.inj e54⟩)
  have e54:=bif_f h55 e54
  refine PC.noop ?_
  exact PC.skip (joinKP.end ⟨r51.2.1,r51.2.2.1,r51.2.2.2.1,r51.2.2.2.2.1,r51.2.2.2.2.2.1,r51.2.2.2.2.2.2,Weak.one [0,1,2,3] [] (by kernel_rfl),Option.some.inj e54⟩)
 rintro _ ⟨v67,v68,v69,v70,v71,v72,w58,rfl⟩
 refine PC.weak w58 ?_
 refine PC.run (n:=6) rfl ?_
 have hq:=Option.some.inj hF
 subst hq
 exact PC.ret' (retMK [] [] (by kernel_rfl) (.refl _) ⟨rfl,rfl,rfl⟩)

/-! 17 platen/platenlaw21.same -/
def F17_l1 (k : Nat) (a0 : List GWrong) (a1 : List GWrong) : Nat → Int → Option ((Unit) ⊕ (Bool))
  | 0, _ => none
  | j4 + 1, v2 =>
    bif decide (v2 < (a0.length : Int)) then (bindI a0 v2 fun y4 =>
    bindI a1 v2 fun y5 =>
    bif !(y4.page == y5.page && (y4.row == y5.row && (y4.rule == y5.rule && true))) then (some (.inr false)) else (F17_l1 k a0 a1 j4 (w (v2 + 1)))) else (some (.inl ()))
def F17 (k : Nat) (a0 : List GWrong) (a1 : List GWrong) : Option Bool :=
bif (a0.length : Int) != (a1.length : Int) then (some false) else (Option.bind (α := (Unit) ⊕ (Bool)) (F17_l1 k a0 a1 k 0) (Sum.elim (fun (_ : Unit) =>
some true) some))
theorem L17 (k : Nat) (a0 : List GWrong) (a1 : List GWrong) (r : Bool) (hF : F17 k a0 a1 = some r) : PF Try.prog orc 17 [.list 3 (List.map cGWrong a0) none,.list 3 (List.map cGWrong a1) none] [] [] (fun p fr tk=>p = vB r ∧ fr = [] ∧ tk = []):=by
 unfold F17 at hF
 refine PF.enterS Try.func17 rfl rfl rfl (by kernel_rfl) rfl ?_
 refine PC.run (n:=2) rfl ?_
 refine PC.assoc ?_
 refine PC.region ?_
 refine PO.run 1 rfl ?_
 refine PO.same rfl (len_ok Try.underlying31 rfl (List.length_map _)) rfl ?_
 refine PO.run 1 rfl ?_
 refine PO.same rfl (len_ok Try.underlying31 rfl (List.length_map _)) rfl ?_
 refine PO.run 1 rfl ?_
 refine PO.nil ?_
 refine PC.cond rfl (fun h1=>?_) (fun h1=>?_)
 ·have hF:=bif_t h1 hF
  refine PC.assoc ?_
  refine PC.run (n:=2) rfl ?_
  have hq:=Option.some.inj hF
  subst hq
  exact PC.ret (retSK [] [] (by kernel_rfl) (.refl _) ⟨rfl,rfl,rfl⟩)
 have hF:=bif_f h1 hF
 refine PC.noop ?_
 refine PC.assoc ?_
 refine PC.region ?_
 refine PO.run 1 rfl ?_
 refine PO.same rfl (len_ok Try.underlying31 rfl (List.length_map _)) rfl ?_
 refine PO.run 1 rfl ?_
 refine PO.nil ?_
 refine bindK hF (fun x2 e3 hF=>?_)
 refine PC.blockJ (fun s=>Weak s (PS.of 26 [(4,vB false)] [] [] 0 0) ∧ .inl () = x2) ?_ ?_
 ·refine PC.loop (fun j4 s=>∃ (v2 : Int),Weak s (PS.of 26 [(0,.list 3 (List.map cGWrong a0) none),(1,.list 3 (List.map cGWrong a1) none),(4,vB false),(12,vI (a0.length : Int)),(13,vI v2)] [] [] 0 0) ∧ F17_l1 k a0 a1 j4 v2 = some x2) (fun j4 s=>?_) k ⟨0,Weak.one [] [] (by kernel_rfl),e3⟩
  rintro ⟨v2,w5,e3⟩
  refine PC.weak w5 ?_
  obtain _ | j4:=j4
  · rw [F17_l1] at e3; cases e3
  rw [F17_l1] at e3
  refine PC.run (n:=2) rfl ?_
  refine PC.cond rfl (fun h6=>?_) (fun h6=>?_)
  ·have e3:=bif_t h6 e3
   refine PC.noop ?_
   refine PC.block ?_
   refine PC.run (n:=3) rfl ?_
   refine PC.drawn (order:=[0,1,2,3,4,5,6,7,8]) (by kernel_rfl) ?_
   refine PO.run 2 rfl ?_
   refine bindIK e3 (fun y4 h7 h8 e3=>?_)
   refine PO.same rfl (indexAddr_ok Try.underlying31 rfl rfl rfl h7 (map_at h8)) rfl ?_
   refine PO.run 3 rfl ?_
   refine bindIK e3 (fun y5 h9 h10 e3=>?_)
   refine PO.same rfl (indexAddr_ok Try.underlying31 rfl rfl rfl h9 (map_at h10)) rfl ?_
   refine PO.run 1 rfl ?_
   refine PO.same rfl (aggEq_ok (v:=.bool (!(y4.page == y5.page && (y4.row == y5.row && (y4.rule == y5.rule && true))))) rfl rfl rfl rfl rfl rfl rfl (by kernel_rfl)) rfl ?_
   refine PO.nil ?_
   refine PC.lone ?_
   refine PC.cond rfl (fun h11=>?_) (fun h11=>?_)
   ·have e3:=bif_t h11 e3
    refine PC.assoc ?_
    refine PC.run (n:=2) rfl ?_
    have hq:=Option.some.inj e3
    subst hq
    have hq:=Option.some.inj hF
    subst hq
    exact PC.ret (blockKP.back (loopKP.ret (blockJK.back (retSK [] [] (by kernel_rfl) (.refl _) ⟨rfl,rfl,rfl⟩))))
   have e3:=bif_f h11 e3
   refine PC.noop ?_
   refine PC.skip (blockKP.end ?_)
   refine PC.lone ?_
   refine PC.run (n:=3) rfl ?_
   exact PC.skip (loopKP.mk (Nat.lt_succ_self _) ⟨w (v2 + 1),Weak.one [] [] (by kernel_rfl),e3⟩)
  have e3:=bif_f h6 e3
  exact PC.exit (loopKP.exit (blockJK.here ⟨Weak.one [] [] (by kernel_rfl),Option.some.inj e3⟩))
 rintro _ ⟨w12,rfl⟩
 refine PC.weak w12 ?_
 have hF:=elim_l hF
 refine PC.run (n:=2) rfl ?_
 have hq:=Option.some.inj hF
 subst hq
 exact PC.ret' (retSK [] [] (by kernel_rfl) (.refl _) ⟨rfl,rfl,rfl⟩)

/-! 5 platen/platenlaw21.JudgeBegins -/
def F5_l1 (k : Nat) (a0 : List GPage) (v1 : Int) (r7 : List GWrong) : Nat → (List GWrong) → Int → Option (List GWrong)
  | 0, _, _ => none
  | j11 + 1, v5, v6 =>
    bif decide (v6 < (r7.length : Int)) then (Option.bind (α := List GWrong) (bindI r7 v6 fun y10 =>
    Option.bind (α := Bool) (bif decide (y10.page < (Int.tmod v1 (w ((a0.length : Int) + 1)))) then (some (y10.rule != 3)) else (some false)) fun (v11 : Bool) =>
    bif v11 then (bindA 24 v5 ([y10]) fun l12 =>
    some l12) else (some v5)) fun (v9 : List GWrong) =>
    F5_l1 k a0 v1 r7 j11 v9 (w (v6 + 1))) else (some v5)
def F5_l2 (k : Nat) (a0 : List GPage) (v1 : Int) (r29 : List GWrong) : Nat → (List GWrong) → Int → Option ((List GWrong) ⊕ (Bool))
  | 0, _, _ => none
  | j33 + 1, v17, v18 =>
    bif decide (v18 < (r29.length : Int)) then (Option.bind (α := (List GWrong) ⊕ ((List GWrong) ⊕ (Bool))) (bindI r29 v18 fun y22 =>
    bif decide (y22.page ≥ (if 1 > Int.tmod v1 (w ((a0.length : Int) + 1)) then 1 else Int.tmod v1 (w ((a0.length : Int) + 1)))) then (some (.inr (.inr false))) else (bif y22.rule != 3 then (bindA 24 v17 ([y22]) fun l23 =>
    some (.inl l23)) else (some (.inl v17)))) (Sum.elim (fun (v21 : List GWrong) =>
    F5_l2 k a0 v1 r29 j33 v21 (w (v18 + 1))) some)) else (some (.inl v17))
def F5 (k : Nat) (a0 : List GPage) (a1 : List GChar) (a2 : Int) : Option Bool :=
Option.bind (α := Int) (bif decide (a2 < 0) then (some (w (0 - (w (a2 + 1))))) else (some a2)) fun (v1 : Int) =>
bindD (w ((a0.length : Int) + 1)) ((F9 k a0 a1).bind fun r7 =>
Option.bind (α := List GWrong) (F5_l1 k a0 v1 r7 k ([] : List GWrong) 0) fun (v2 : List GWrong) =>
bindS a0 0 (Int.tmod v1 (w ((a0.length : Int) + 1))) fun l13 =>
(F9 k l13 a1).bind fun r29 =>
Option.bind (α := (List GWrong) ⊕ (Bool)) (F5_l2 k a0 v1 r29 k ([] : List GWrong) 0) (Sum.elim (fun (v14 : List GWrong) =>
(F17 k v2 v14).bind fun r45 =>
some r45) some))
theorem L5 (k : Nat) (a0 : List GPage) (a1 : List GChar) (a2 : Int) (r : Bool) (hF : F5 k a0 a1 a2 = some r) : PF Try.prog orc 5 [.list 4 (List.map cGPage a0) none,.list 3 (List.map cGChar a1) none,vI a2] [] [] (fun p fr tk=>p = vB r ∧ fr = [] ∧ tk = []):=by
 unfold F5 at hF
 refine PF.enterS Try.func5 rfl rfl rfl (by kernel_rfl) rfl ?_
 refine PC.run (n:=2) rfl ?_
 refine PC.assoc ?_
 refine PC.region ?_
 refine PO.call rfl rfl rfl rfl (ks:=[]) (ts:=[]) (fr1:=[]) rfl rfl rfl trivial K6 ?_
 rintro _ _ _ ⟨rfl,rfl,rfl⟩
 refine ⟨_,_,rfl,rfl,?_⟩
 refine PO.run 1 rfl ?_
 refine PO.nil ?_
 refine PC.cond rfl (fun h1=>Bool.noConfusion h1) (fun _=>?_)
 refine PC.noop ?_
 refine PC.assoc ?_
 refine PC.run (n:=3) rfl ?_
 refine bindK hF (fun x2 e3 hF=>?_)
 refine PC.join (fun s=>∃ (v1 : Int),Weak s (PS.of 74 [(0,.list 4 (List.map cGPage a0) none),(1,.list 3 (List.map cGChar a1) none),(2,vI v1),(6,vB false)] [] [] 0 0) ∧ v1 = x2) ?_ ?_
 ·refine PC.cond rfl (fun h4=>?_) (fun h4=>?_)
  ·have e3:=bif_t h4 e3
   refine PC.run (n:=5) rfl ?_
   exact PC.skip (joinKP.end ⟨w (0 - (w (a2 + 1))),Weak.one [] [] (by kernel_rfl),Option.some.inj e3⟩)
  have e3:=bif_f h4 e3
  refine PC.noop ?_
  exact PC.skip (joinKP.end ⟨a2,Weak.one [] [] (by kernel_rfl),Option.some.inj e3⟩)
 rintro _ ⟨v1,w5,rfl⟩
 refine PC.weak w5 ?_
 refine PC.region ?_
 refine PO.run 2 rfl ?_
 refine PO.same rfl (len_ok Try.underlying22 rfl (List.length_map _)) rfl ?_
 refine PO.run 1 rfl ?_
 refine bindDK hF (fun h6 hF=>?_)
 refine PO.same rfl (rem_ok rfl rfl h6) rfl ?_
 refine PO.run 1 rfl ?_
 refine PO.nil ?_
 refine PC.run (n:=3) rfl ?_
 refine PC.assoc ?_
 refine PC.region ?_
 refine PO.run 2 rfl ?_
 refine bindK hF (fun r7 e8 hF=>?_)
 refine PO.call rfl rfl rfl rfl (ks:=[]) (ts:=[]) (fr1:=[]) rfl rfl rfl trivial (L9 k a0 a1 _ e8) ?_
 rintro _ _ _ ⟨rfl,rfl,rfl⟩
 refine ⟨_,_,rfl,rfl,?_⟩
 refine PO.same rfl (len_ok Try.underlying31 rfl (List.length_map _)) rfl ?_
 refine PO.run 1 rfl ?_
 refine PO.nil ?_
 refine bindK hF (fun x9 e10 hF=>?_)
 refine PC.blockJ (fun s=>∃ (v2 : List GWrong),Weak s (PS.of 74 [(0,.list 4 (List.map cGPage a0) none),(1,.list 3 (List.map cGChar a1) none),(6,vB false),(7,vI (Int.tmod v1 (w ((a0.length : Int) + 1)))),(8,.list 3 (List.map cGWrong v2) (some 0)),(9,.val (.slice none 0 0))] [] [v2.length] 0 0) ∧ v2 = x9) ?_ ?_
 ·refine PC.weak (s':=PS.of 74 [(0,.list 4 (List.map cGPage a0) none),(1,.list 3 (List.map cGChar a1) none),(6,vB false),(7,vI (Int.tmod v1 (w ((a0.length : Int) + 1)))),(8,.list 3 (List.map cGWrong ([] : List GWrong)) (some 0)),(9,.val (.slice none 0 0)),(28,.list 3 (List.map cGWrong r7) none),(29,vI (r7.length : Int)),(30,vI 0)] [] [0] 0 0) (Weak.mk [] [] 1 rfl rfl rfl trivial ⟨⟨_,_,rfl,rfl,.refl _⟩,⟨⟨_,_,rfl,rfl,.refl _⟩,⟨⟨_,_,rfl,rfl,.refl _⟩,⟨⟨_,_,rfl,rfl,.refl _⟩,⟨⟨_,_,rfl,rfl,.nilt 3 0 rfl rfl⟩,⟨⟨_,_,rfl,rfl,.refl _⟩,⟨⟨_,_,rfl,rfl,.refl _⟩,⟨⟨_,_,rfl,rfl,.refl _⟩,⟨⟨_,_,rfl,rfl,.refl _⟩,trivial⟩⟩⟩⟩⟩⟩⟩⟩⟩) ?_
  refine PC.loop (fun j11 s=>∃ (v5 : List GWrong) (v6 : Int),Weak s (PS.of 74 [(0,.list 4 (List.map cGPage a0) none),(1,.list 3 (List.map cGChar a1) none),(6,vB false),(7,vI (Int.tmod v1 (w ((a0.length : Int) + 1)))),(8,.list 3 (List.map cGWrong v5) (some 0)),(9,.val (.slice none 0 0)),(28,.list 3 (List.map cGWrong r7) none),(29,vI (r7.length : Int)),(30,vI v6)] [] [v5.length] 0 0) ∧ F5_l1 k a0 v1 r7 j11 v5 v6 = some x9) (fun j11 s=>?_) k ⟨([] : List GWrong),0,Weak.one [] [0] (by kernel_rfl),e10⟩
  rintro ⟨v5,v6,w12,e10⟩
  refine PC.weak w12 ?_
  obtain _ | j11:=j11
  · rw [F5_l1] at e10; cases e10
  rw [F5_l1] at e10
  refine PC.run (n:=2) rfl ?_
  refine PC.cond rfl (fun h13=>?_) (fun h13=>?_)
  ·have e10:=bif_t h13 e10
   refine PC.noop ?_
   refine bindK e10 (fun x14 e15 e10=>?_)
   refine PC.blockJ (fun s=>∃ (v9 : List GWrong),Weak s (PS.of 74 [(0,.list 4 (List.map cGPage a0) none),(1,.list 3 (List.map cGChar a1) none),(6,vB false),(7,vI (Int.tmod v1 (w ((a0.length : Int) + 1)))),(8,.list 3 (List.map cGWrong v9) (some 0)),(9,.val (.slice none 0 0)),(28,.list 3 (List.map cGWrong r7) none),(29,vI (r7.length : Int)),(30,vI v6)] [] [v9.length] 0 0) ∧ v9 = x14) ?_ ?_
   ·refine PC.region ?_
    refine bindIK e15 (fun y10 h16 h17 e15=>?_)
    refine PO.same rfl (indexAddr_ok Try.underlying31 rfl rfl rfl h16 (map_at h17)) rfl ?_
    refine oK 3 [0] [0] [(0,.list 4 (List.map cGPage a0) none),(1,.list 3 (List.map cGChar a1) none),(6,vB false),(7,vI (Int.tmod v1 (w ((a0.length : Int) + 1)))),(8,.list 3 (List.map cGWrong v5) (some 0)),(9,.val (.slice none 0 0)),(11,vP 0),(28,.list 3 (List.map cGWrong r7) none),(29,vI (r7.length : Int)),(30,vI v6)] [⟨0,(cGWrong y10)⟩] [v5.length] (by kernel_rfl) ?_
    refine PO.nil ?_
    refine PC.region ?_
    refine PO.run 5 rfl ?_
    refine bindK e15 (fun x18 e19 e15=>?_)
    refine PO.cut 4 (fun s=>∃ (v11 : Bool),Weak s (PS.of 74 [(0,.list 4 (List.map cGPage a0) none),(1,.list 3 (List.map cGChar a1) none),(6,vB false),(7,vI (Int.tmod v1 (w ((a0.length : Int) + 1)))),(8,.list 3 (List.map cGWrong v5) (some 0)),(9,.val (.slice none 0 0)),(11,vP 0),(28,.list 3 (List.map cGWrong r7) none),(29,vI (r7.length : Int)),(30,vI v6),(42,vB v11)] [⟨0,(cGWrong y10)⟩] [v5.length] 0 0) ∧ v11 = x18) ?_ ?_
    ·refine PO.case (t:=38) rfl rfl (fun h20=>?_) (fun h20=>?_)
     ·have e19:=bif_t h20 e19
      refine PO.run 3 rfl ?_
      refine PO.same rfl (pickT_ok rfl rfl rfl) rfl ?_
      refine PO.nil ?_
      exact ⟨y10.rule != 3,Weak.one [0] [0] (by kernel_rfl),Option.some.inj e19⟩
     have e19:=bif_f h20 e19
     refine PO.run 3 rfl ?_
     refine PO.same rfl (pickF_ok rfl rfl rfl) rfl ?_
     refine PO.nil ?_
     exact ⟨false,Weak.one [0] [0] (by kernel_rfl),Option.some.inj e19⟩
    rintro _ ⟨v11,w21,rfl⟩
    refine PO.weak w21 ?_
    refine PO.nil ?_
    refine PC.lone ?_
    refine PC.cond rfl (fun h22=>?_) (fun h22=>?_)
    ·have e15:=bif_t h22 e15
     refine PC.region ?_
     refine oK 3 [] [0,1] [(0,.list 4 (List.map cGPage a0) none),(1,.list 3 (List.map cGChar a1) none),(6,vB false),(7,vI (Int.tmod v1 (w ((a0.length : Int) + 1)))),(8,.list 3 (List.map cGWrong v5) (some 0)),(9,.val (.slice none 0 0)),(28,.list 3 (List.map cGWrong r7) none),(29,vI (r7.length : Int)),(30,vI v6),(43,.list 3 (List.map cGWrong v5) (some 0)),(45,.list 3 (List.map cGWrong ([y10])) (some 1))] [] [v5.length,1] (by kernel_rfl) ?_
     refine bindAK e15 (fun h23 e15=>?_)
     generalize hgl12 : v5 ++ ([y10]) = l12 at e15
     refine PO.one rfl (append_typed (L:=v5) (M:=[y10]) (f:=cGWrong) (sz:=3) (bytes:=24) Try.underlying31 rfl rfl rfl rfl rfl rfl rfl rfl rfl rfl rfl rfl h23 hgl12) rfl ?_
     refine PO.run 1 rfl ?_
     refine PO.nil ?_
     exact PC.skip (blockJK.end ⟨l12,Weak.one [] [0] (by kernel_rfl),Option.some.inj e15⟩)
    have e15:=bif_f h22 e15
    refine PC.noop ?_
    exact PC.skip (blockJK.end ⟨v5,Weak.one [] [0] (by kernel_rfl),Option.some.inj e15⟩)
   rintro _ ⟨v9,w24,rfl⟩
   refine PC.weak w24 ?_
   refine PC.lone ?_
   refine PC.run (n:=3) rfl ?_
   exact PC.skip (loopKP.mk (Nat.lt_succ_self _) ⟨v9,w (v6 + 1),Weak.one [] [0] (by kernel_rfl),e10⟩)
  have e10:=bif_f h13 e10
  exact PC.exit (loopKP.exit (blockJK.here ⟨v5,Weak.one [] [0] (by kernel_rfl),Option.some.inj e10⟩))
 rintro _ ⟨v2,w25,rfl⟩
 refine PC.weak w25 ?_
 refine PC.assoc ?_
 refine PC.region ?_
 refine PO.run 2 rfl ?_
 refine bindSK hF (fun h26 h27 h28 hF=>?_)
 generalize hgl13 : (List.take (Int.toNat (Int.tmod v1 (w ((a0.length : Int) + 1)))) a0).drop (Int.toNat 0) = l13 at hF
 refine PO.same rfl (slice_ok (l2:=List.map cGPage l13) Try.underlying22 rfl rfl .none (.some rfl (Int.le_trans h26 h27) rfl) (Int.toNat_le_toNat h27) (toNat_le1 h28) (by rw [← hgl13,List.map_drop,List.map_take] <;> first | rfl | simp [w])) rfl ?_
 refine PO.run 1 rfl ?_
 refine bindK hF (fun r29 e30 hF=>?_)
 refine PO.call rfl rfl rfl rfl (ks:=[]) (ts:=[]) (fr1:=[]) rfl rfl rfl trivial (L9 k l13 a1 _ e30) ?_
 rintro _ _ _ ⟨rfl,rfl,rfl⟩
 refine ⟨_,_,rfl,rfl,?_⟩
 refine PO.same rfl (len_ok Try.underlying31 rfl (List.length_map _)) rfl ?_
 refine PO.run 1 rfl ?_
 refine PO.nil ?_
 refine bindK hF (fun x31 e32 hF=>?_)
 refine PC.blockJ (fun s=>∃ (v14 : List GWrong),Weak s (PS.of 74 [(6,vB false),(8,.list 3 (List.map cGWrong v2) (some 0)),(9,.list 3 (List.map cGWrong v14) (some 1))] [] [v2.length,v14.length] 0 0) ∧ .inl v14 = x31) ?_ ?_
 ·refine PC.weak (s':=PS.of 74 [(6,vB false),(7,vI (Int.tmod v1 (w ((a0.length : Int) + 1)))),(8,.list 3 (List.map cGWrong v2) (some 0)),(9,.list 3 (List.map cGWrong ([] : List GWrong)) (some 1)),(52,.list 3 (List.map cGWrong r29) none),(53,vI (r29.length : Int)),(54,vI 0)] [] [v2.length,0] 0 0) (Weak.mk [] [0] 1 rfl rfl rfl trivial ⟨⟨_,_,rfl,rfl,.refl _⟩,⟨⟨_,_,rfl,rfl,.refl _⟩,⟨⟨_,_,rfl,rfl,.refl _⟩,⟨⟨_,_,rfl,rfl,.nilt 3 1 rfl rfl⟩,⟨⟨_,_,rfl,rfl,.refl _⟩,⟨⟨_,_,rfl,rfl,.refl _⟩,⟨⟨_,_,rfl,rfl,.refl _⟩,trivial⟩⟩⟩⟩⟩⟩⟩) ?_
  refine PC.loop (fun j33 s=>∃ (v17 : List GWrong) (v18 : Int),Weak s (PS.of 74 [(6,vB false),(7,vI (Int.tmod v1 (w ((a0.length : Int) + 1)))),(8,.list 3 (List.map cGWrong v2) (some 0)),(9,.list 3 (List.map cGWrong v17) (some 1)),(52,.list 3 (List.map cGWrong r29) none),(53,vI (r29.length : Int)),(54,vI v18)] [] [v2.length,v17.length] 0 0) ∧ F5_l2 k a0 v1 r29 j33 v17 v18 = some x31) (fun j33 s=>?_) k ⟨([] : List GWrong),0,Weak.one [] [0,1] (by kernel_rfl),e32⟩
  rintro ⟨v17,v18,w34,e32⟩
  refine PC.weak w34 ?_
  obtain _ | j33:=j33
  · rw [F5_l2] at e32; cases e32
  rw [F5_l2] at e32
  refine PC.run (n:=2) rfl ?_
  refine PC.cond rfl (fun h35=>?_) (fun h35=>?_)
  ·have e32:=bif_t h35 e32
   refine PC.noop ?_
   refine bindK e32 (fun x36 e37 e32=>?_)
   refine PC.blockJ (fun s=>∃ (v21 : List GWrong),Weak s (PS.of 74 [(6,vB false),(7,vI (Int.tmod v1 (w ((a0.length : Int) + 1)))),(8,.list 3 (List.map cGWrong v2) (some 0)),(9,.list 3 (List.map cGWrong v21) (some 1)),(52,.list 3 (List.map cGWrong r29) none),(53,vI (r29.length : Int)),(54,vI v18)] [] [v2.length,v21.length] 0 0) ∧ .inl v21 = x36) ?_ ?_
   ·refine PC.region ?_
    refine bindIK e37 (fun y22 h38 h39 e37=>?_)
    refine PO.same rfl (indexAddr_ok Try.underlying31 rfl rfl rfl h38 (map_at h39)) rfl ?_
    refine oK 3 [0] [0,1] [(6,vB false),(7,vI (Int.tmod v1 (w ((a0.length : Int) + 1)))),(8,.list 3 (List.map cGWrong v2) (some 0)),(9,.list 3 (List.map cGWrong v17) (some 1)),(13,vP 0),(52,.list 3 (List.map cGWrong r29) none),(53,vI (r29.length : Int)),(54,vI v18)] [⟨0,(cGWrong y22)⟩] [v2.length,v17.length] (by kernel_rfl) ?_
    refine PO.nil ?_
    refine PC.assoc ?_
    refine PC.run (n:=6) rfl ?_
    refine PC.cond rfl (fun h40=>?_) (fun h40=>?_)
    ·have e37:=bif_t h40 e37
     refine PC.assoc ?_
     refine PC.run (n:=2) rfl ?_
     have hq:=Option.some.inj e37
     subst hq
     have hq:=Option.some.inj e32
     subst hq
     have hq:=Option.some.inj hF
     subst hq
     exact PC.ret (blockJK.back (loopKP.ret (blockJK.back (retSK [] [] (by kernel_rfl) (.refl _) ⟨rfl,rfl,rfl⟩))))
    have e37:=bif_f h40 e37
    refine PC.noop ?_
    refine PC.run (n:=4) rfl ?_
    refine PC.lone ?_
    refine PC.cond rfl (fun h41=>?_) (fun h41=>?_)
    ·have e37:=bif_t h41 e37
     refine PC.region ?_
     refine oK 3 [] [0,1,2] [(6,vB false),(7,vI (Int.tmod v1 (w ((a0.length : Int) + 1)))),(8,.list 3 (List.map cGWrong v2) (some 0)),(9,.list 3 (List.map cGWrong v17) (some 1)),(52,.list 3 (List.map cGWrong r29) none),(53,vI (r29.length : Int)),(54,vI v18),(66,.list 3 (List.map cGWrong v17) (some 1)),(68,.list 3 (List.map cGWrong ([y22])) (some 2))] [] [v2.length,v17.length,1] (by kernel_rfl) ?_
     refine bindAK e37 (fun h42 e37=>?_)
     generalize hgl23 : v17 ++ ([y22]) = l23 at e37
     refine PO.one rfl (append_typed (L:=v17) (M:=[y22]) (f:=cGWrong) (sz:=3) (bytes:=24) Try.underlying31 rfl rfl rfl rfl rfl rfl rfl rfl rfl rfl rfl rfl h42 hgl23) rfl ?_
     refine PO.run 1 rfl ?_
     refine PO.nil ?_
     exact PC.skip (blockJK.end ⟨l23,Weak.one [] [0,1] (by kernel_rfl),Option.some.inj e37⟩)
    have e37:=bif_f h41 e37
    refine PC.noop ?_
    exact PC.skip (blockJK.end ⟨v17,Weak.one [] [0,1] (by kernel_rfl),Option.some.inj e37⟩)
   rintro _ ⟨v21,w43,rfl⟩
   refine PC.weak w43 ?_
   have e32:=elim_l e32
   refine PC.lone ?_
   refine PC.run (n:=3) rfl ?_
   exact PC.skip (loopKP.mk (Nat.lt_succ_self _) ⟨v21,w (v18 + 1),Weak.one [] [0,1] (by kernel_rfl),e32⟩)
  have e32:=bif_f h35 e32
  exact PC.exit (loopKP.exit (blockJK.here ⟨v17,Weak.one [] [0,1] (by kernel_rfl),Option.some.inj e32⟩))
 rintro _ ⟨v14,w44,rfl⟩
 refine PC.weak w44 ?_
 have hF:=elim_l hF
 refine PC.region ?_
 refine PO.run 2 rfl ?_
 refine bindK hF (fun r45 e46 hF=>?_)
 refine PO.call rfl rfl rfl rfl (ks:=[]) (ts:=[]) (fr1:=[]) rfl rfl rfl trivial (L17 k v2 v14 _ e46) ?_
 rintro _ _ _ ⟨rfl,rfl,rfl⟩
 refine ⟨_,_,rfl,rfl,?_⟩
 refine PO.run 1 rfl ?_
 refine PO.nil ?_
 have hq:=Option.some.inj hF
 subst hq
 exact PC.ret' (retSK [] [] (by kernel_rfl) (.refl _) ⟨rfl,rfl,rfl⟩)

end
end Go.Eng.Lift
