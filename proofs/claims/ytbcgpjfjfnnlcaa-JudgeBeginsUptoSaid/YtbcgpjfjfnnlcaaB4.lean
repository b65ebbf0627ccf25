/-
  Judge: what the caller hands in, with its bulk.
-/
import Derived.Test.YtbcgpjfjfnnlcaaB3
import Derived.Test.YtbcgpjfjfnnlcaaPJ
import Derived.Test.YtbcgpjfjfnnlcaaT5s
import Derived.Test.YtbcgpjfjfnnlcaaRows
set_option linter.unusedVariables false
set_option linter.unusedSimpArgs false
namespace Go.Eng.Lift
open Go.Proofs Go.Eng.Br
noncomputable section

theorem told_of {n : Nat} {x : Req} (h : T3.resB (fRun Try.prog n x AH.empty) = some true) : ∃ n H', aRun Try.prog n x AH.empty = .ok (.val (.bool true), H') := by
  rw [fRun_eq] at h
  unfold T3.resB at h
  split at h
  · rename_i b H' e
    cases h
    exact ⟨n, H', e⟩
  · cases h

theorem told : Told Try.prog orc := by
  refine ⟨fun f v hf => ?_, fun f hf => ?_⟩
  · have h : f = 6 ∧ v = .bool true := by
      simp only [orc] at hf
      cases hb : Nat.beq f 6 with
      | false => rw [hb] at hf; cases hf
      | true =>
        rw [hb] at hf
        cases hf
        exact ⟨Nat.eq_of_beq_eq_true hb, rfl⟩
    obtain ⟨rfl, rfl⟩ := h
    exact ⟨rfl, told_of T3.shown6⟩
  · have h : f = 26 := Nat.eq_of_beq_eq_true hf
    subst h
    exact T3.sortOK

def bk (H : Type) (d : DataW H) : Nat := Ytbcgpjfjfnnlcaa.Rows.uptoBulk d
theorem bulkAll_sum {H : Type} : ∀ l : List (DataW H), Ytbcgpjfjfnnlcaa.Rows.uptoBulkAll l = (l.map (bk H)).sum
  | [] => by simp [Ytbcgpjfjfnnlcaa.Rows.uptoBulkAll]
  | d :: l => by rw [Ytbcgpjfjfnnlcaa.Rows.uptoBulkAll, bulkAll_sum l, List.map_cons, List.sum_cons]; rfl
theorem msr : Msr bk where
  pos := fun {H} d => by
    unfold bk
    cases d with
    | lit x => cases x <;> simp [Ytbcgpjfjfnnlcaa.Rows.uptoBulk]
    | _ => simp [Ytbcgpjfjfnnlcaa.Rows.uptoBulk]
  slice := fun {H} l m => by
    unfold bk
    rw [Ytbcgpjfjfnnlcaa.Rows.uptoBulk, bulkAll_sum l]
    show (l.map (bk H)).sum + 1 ≤ _
    omega
  agg := fun {H} l => by
    unfold bk
    rw [Ytbcgpjfjfnnlcaa.Rows.uptoBulk, bulkAll_sum l]
    exact Nat.le_refl _

def I64 (n : Int) : Prop := -9223372036854775808 ≤ n ∧ n ≤ 9223372036854775807
theorem wf_i64 {n : Int} (h : (Lit.int .i64 n).wf = true) : I64 n := by
  have h' : (decide (-9223372036854775808 ≤ n) && decide (n ≤ 9223372036854775807)) = true := h
  rw [Bool.and_eq_true] at h'
  exact ⟨of_decide_eq_true h'.1, of_decide_eq_true h'.2⟩
theorem d3 : DecM bk Try.prog 3 (fun n : Int => [.val (.int .i64 n)]) (fun n _ => I64 n) := ((Dec.int Try.underlying3).map id (fun _ => rfl) fun _ h => wf_i64 h).msr
theorem d4 : DecM bk Try.prog 4 (fun b : Bool => [.val (.bool b)]) (fun _ _ => True) := (Dec.bool Try.underlying4).msr
theorem d9 : DecM bk Try.prog 9 (fun s : ByteArray => [.val (.string s)]) (fun _ _ => True) := ((Dec.str Try.underlying9).map id (fun _ => rfl) fun _ _ => trivial).msr
theorem c43 : Try.prog.cellsOf 43 = 10 := by kernel_rfl
theorem c41 : Try.prog.cellsOf 41 = 4 := by kernel_rfl
theorem c38 : Try.prog.cellsOf 38 = 4 := by kernel_rfl
theorem c55 : Try.prog.cellsOf 55 = 3 := by kernel_rfl
theorem dBox : DecM bk Try.prog 43 cGBox (fun _ _ => True) :=
  (DecM.struct msr Try.underlying43 (by kernel_rfl) (.cons d3 (.cons d3 (.cons d9 (.cons d3 (.cons d3 (.cons d3 (.cons d3 (.cons d3 (.cons d3 (.cons d3 .nil))))))))))).map
    (fun p => GBox.mk p.1 p.2.1 p.2.2.1 p.2.2.2.1 p.2.2.2.2.1 p.2.2.2.2.2.1 p.2.2.2.2.2.2.1 p.2.2.2.2.2.2.2.1 p.2.2.2.2.2.2.2.2.1 p.2.2.2.2.2.2.2.2.2.1) (fun _ => rfl) (fun _ _ _ => trivial)
theorem dChar : DecM bk Try.prog 55 cGChar (fun _ _ => True) :=
  (DecM.struct msr Try.underlying55 (by kernel_rfl) (.cons d3 (.cons d3 (.cons d3 .nil)))).map (fun p => GChar.mk p.1 p.2.1 p.2.2.1) (fun _ => rfl) (fun _ _ _ => trivial)
theorem len_sum {α : Type} {ok : α → Nat → Prop} : ∀ {L : List α} {ms : List Nat}, ms.length = L.length → (∀ (i : Nat) (x : α) (k : Nat), L[i]? = some x → ms[i]? = some k → ok x k ∧ 1 ≤ k) → L.length ≤ ms.sum
  | [], _, _, _ => Nat.zero_le _
  | x :: L, [], h, _ => by cases h
  | x :: L, k :: ms, h, h2 => by
    have h3 := len_sum (L := L) (ms := ms) (by simpa using h) (fun i x k hx hk => h2 (i + 1) x k (by simpa using hx) (by simpa using hk))
    have h4 := (h2 0 x k rfl rfl).2
    rw [List.sum_cons, List.length_cons]; omega
theorem mem_sum {α : Type} {ok : α → Nat → Prop} {L : List α} {ms : List Nat} (h : ms.length = L.length) (h2 : ∀ (i : Nat) (x : α) (k : Nat), L[i]? = some x → ms[i]? = some k → ok x k ∧ 1 ≤ k) {x : α} (hx : x ∈ L) : ∃ k, ok x k ∧ k ≤ ms.sum := by
  obtain ⟨i, hi⟩ := List.getElem?_of_mem hx
  obtain ⟨k, hk⟩ := get_of_lt (l := ms) (i := i) (by rw [h]; exact lt_of_get hi)
  exact ⟨k, (h2 i x k hi hk).1, sum_mem (List.mem_of_getElem? hk)⟩
theorem dChars : DecM bk Try.prog 23 (fun L : List GChar => [.list 3 (L.map cGChar) none]) (fun L m => L.length ≤ m) :=
  (DecM.slice msr Try.underlying23 c55 (by decide) dChar).map id (fun _ => rfl) fun L m ⟨ms, h1, h2, h3⟩ => Nat.le_trans (len_sum h1 h2) (by omega)
theorem dBoxes : DecM bk Try.prog 39 (fun L : List GBox => [.list 10 (L.map cGBox) none]) (fun L m => L.length ≤ m) :=
  (DecM.slice msr Try.underlying39 c43 (by decide) dBox).map id (fun _ => rfl) fun L m ⟨ms, h1, h2, h3⟩ => Nat.le_trans (len_sum h1 h2) (by omega)
theorem dRow : DecM bk Try.prog 41 cGRow (fun r m => r.boxes.length ≤ m) :=
  (DecM.struct msr Try.underlying41 (by kernel_rfl) (.cons d3 (.cons d4 (.cons d4 (.cons dBoxes .nil))))).map (fun p => GRow.mk p.1 p.2.1 p.2.2.1 p.2.2.2.1) (fun _ => rfl) (fun p m ⟨m1, h1, _, _, _, h2, _⟩ => Nat.le_trans h2 (by omega))
theorem dRows : DecM bk Try.prog 36 (fun L : List GRow => [.list 4 (L.map cGRow) none]) (fun L m => L.length + 1 ≤ m ∧ ∀ r ∈ L, r.boxes.length ≤ m) :=
  (DecM.slice msr Try.underlying36 c41 (by decide) dRow).map id (fun _ => rfl) fun L m ⟨ms, h1, h2, h3⟩ => ⟨Nat.le_trans (Nat.succ_le_succ (len_sum h1 h2)) h3, fun r hr => by
    obtain ⟨k, h4, h5⟩ := mem_sum h1 h2 hr
    omega⟩
theorem dPage : DecM bk Try.prog 38 cGPage (fun p m => p.rows.length + 1 ≤ m ∧ ∀ r ∈ p.rows, r.boxes.length ≤ m) :=
  (DecM.struct msr Try.underlying38 (by kernel_rfl) (.cons d3 (.cons d3 (.cons d4 (.cons dRows .nil))))).map (fun p => GPage.mk p.1 p.2.1 p.2.2.1 p.2.2.2.1) (fun _ => rfl) (fun p m ⟨m1, h1, _, _, _, h2, _⟩ => ⟨Nat.le_trans h2.1 (by omega), fun r hr => Nat.le_trans (h2.2 r hr) (by omega)⟩)
theorem rowsR_len (i : Int) : ∀ (rs : List GRow) (j : Int), (rowsR i j rs []).length = rs.length
  | [], j => rfl
  | r :: rs, j => by show (rowsR i (j + 1) rs []).length + 1 = _; rw [rowsR_len i rs, List.length_cons]
theorem rowsP_sum : ∀ {L : List GPage} {ms : List Nat} (i : Int), ms.length = L.length → (∀ (i : Nat) (p : GPage) (k : Nat), L[i]? = some p → ms[i]? = some k → (p.rows.length + 1 ≤ k ∧ ∀ r ∈ p.rows, r.boxes.length ≤ k) ∧ 1 ≤ k) → (rowsP i L).length ≤ ms.sum
  | [], _, i, _, _ => Nat.zero_le _
  | x :: L, [], i, h, _ => by cases h
  | x :: L, k :: ms, i, h, h2 => by
    have h3 := rowsP_sum (L := L) (ms := ms) (i + 1) (by simpa using h) (fun i x k hx hk => h2 (i + 1) x k (by simpa using hx) (by simpa using hk))
    have h4 := (h2 0 x k rfl rfl).1.1
    rw [rowsP_cons, List.length_cons, List.length_append, rowsR_len, List.sum_cons]; omega
theorem dPages : DecM bk Try.prog 22 (fun L : List GPage => [.list 4 (L.map cGPage) none]) (fun L m => L.length ≤ m ∧ (rowsP 0 L).length ≤ m ∧ ∀ p ∈ L, p.rows.length ≤ m ∧ ∀ r ∈ p.rows, r.boxes.length ≤ m) :=
  (DecM.slice msr Try.underlying22 c38 (by decide) dPage).map id (fun _ => rfl) fun L m ⟨ms, h1, h2, h3⟩ => ⟨Nat.le_trans (len_sum h1 h2) (by omega), Nat.le_trans (rowsP_sum 0 h1 h2) (by omega), fun p hp => by
    obtain ⟨k, h4, h5⟩ := mem_sum h1 h2 hp
    exact ⟨by have := h4.1; omega, fun r hr => by have := h4.2 r hr; omega⟩⟩
theorem pages_ok {L : List GPage} (h : L.length ≤ 1048576 ∧ (rowsP 0 L).length ≤ 1048576 ∧ ∀ p ∈ L, p.rows.length ≤ 1048576 ∧ ∀ r ∈ p.rows, r.boxes.length ≤ 1048576) : PagesOK 4294967296 L :=
  ⟨by have := h.1; omega, fun p hp => ⟨by have := (h.2.2 p hp).1; unfold Big; omega, by have := (h.2.2 p hp).1; omega, fun y hy => ⟨by have := (h.2.2 p hp).2 y hy; unfold Big; omega, by have := (h.2.2 p hp).2 y hy; omega⟩⟩, by have := h.2.1; omega⟩

set_option maxRecDepth 100000 in
theorem calls5 {H : Type} {enc : TypeId × Value → H} {W : World} {base : Nat} {args : Array Value} {ds : List (DataW H)} {ps : List MemPlace} (hA : DataW.TrodAll enc Try.prog W 0 (fun _ => true) true [22, 23, 3] args.toList ds ps)
    (hval : ∀ (j : Nat) t v, ([22, 23, 3] : List TypeId)[j]? = some t → args.toList[j]? = some v → Value.okWide Try.prog W .any base t v) (hk : Ytbcgpjfjfnnlcaa.Rows.uptoBulkAll ds ≤ 1048576) : Calls Try.prog 5 args W (fun e w' => e = .returned (.bool true) ∧ Kept W w') := by
  rcases hargs : args.toList with _ | ⟨v1, _ | ⟨v2, _ | ⟨v3, _ | ⟨v4, l⟩⟩⟩⟩ <;> rw [hargs] at hA <;> (rcases ds with _ | ⟨d1, _ | ⟨d2, _ | ⟨d3, _ | ⟨d4, ds⟩⟩⟩⟩ <;> first | (simp [DataW.TrodAll] at hA; done) | skip)
  rw [hargs] at hval
  obtain ⟨p1, q1, ⟨n1, t1⟩, ⟨p2, q2, ⟨n2, t2⟩, ⟨p3, q3, ⟨n3, t3⟩, _, _⟩, _⟩, _⟩ := hA
  obtain ⟨e1, s1⟩ := arg_one (hval 0 22 v1 rfl rfl) (by rw [Try.underlying22])
  obtain ⟨e2, s2⟩ := arg_one (hval 1 23 v2 rfl rfl) (by rw [Try.underlying23])
  obtain ⟨e3, s3⟩ := arg_one (hval 2 3 v3 rfl rfl) (by rw [Try.underlying3])
  rw [e1] at t1
  rw [e2] at t2
  rw [e3] at t3
  obtain ⟨L, hL, _, gL⟩ := Go.Eng.Lift.dPages.get enc W n1 [v1] _ t1 s1
  obtain ⟨T, hT, _, gT⟩ := Go.Eng.Lift.dChars.get enc W n2 [v2] _ t2 s2
  obtain ⟨A, hA3, _, gA⟩ := Go.Eng.Lift.d3.get enc W n3 [v3] _ t3 s3
  rw [bulkAll_sum] at hk
  simp only [List.map_cons, List.map_nil, List.sum_cons, List.sum_nil] at hk
  have kL := hL 1048576 (by show bk H d1 ≤ _; omega)
  have kT := hT 1048576 (by show bk H d2 ≤ _; omega)
  have kA := hA3 1048576 (by show bk H d3 ≤ _; omega)
  have kA1 := kA.1
  have kA2 := kA.2
  refine GotA.calls told (ps := [.list 4 (L.map cGPage) none, .list 3 (T.map cGChar) none, .val (.int .i64 A)]) ?_ (L5 4294967296 L T A true (t5 4294967296 L T A kA1 (by omega) (pages_ok kL) (by omega) (by omega) (by omega)))
  rw [hargs]
  exact GotA.cons (Got.one (gL [] Own.nil)) fun l hl => GotA.cons (Got.one (gT l hl)) fun l hl => GotA.cons (Got.one (gA l hl)) fun l hl => GotA.nil hl
end
end Go.Eng.Lift
