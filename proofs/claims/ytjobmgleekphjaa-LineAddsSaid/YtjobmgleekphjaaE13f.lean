/-
  Allocations that float: what is laid in for those that wait for it keeps the two memories together.
-/
import Derived.Test.YtjobmgleekphjaaE13
set_option linter.unusedSimpArgs false
set_option linter.unusedVariables false
namespace Go.Eng
noncomputable section
variable {P : Program}

def floatRow (t : TypeId) (id : Nat) (zs : List Value) : Row := { cells := zs.map some, ty := t, fam := id, disp := 0, esz := 0, ro := false, solo := true }

structure Pends (P : Program) (os : List Oper) (lo n : Nat) (ps : List Pend) : Prop where
  mem : ∀ p ∈ ps, lo ≤ p.id ∧ p.id < n ∧ ∃ o t zs, os[p.op]? = some o ∧ o.op = .alloc t ∧ o.guard = none ∧ tZero P t = .ok zs ∧ p.row = floatRow t p.id zs
  le : lo ≤ n
  bound : True
  sep : ps.Pairwise (fun p q => p.op < q.op ∧ p.id < q.id)

theorem reserve_ok : ∀ (os : List Oper) (i next : Nat) (ps : List Pend) (n : Nat), reserve P os i next = .ok (ps, n) →
    (∀ p ∈ ps, i ≤ p.op ∧ next ≤ p.id ∧ p.id < n ∧ ∃ o t zs, os[p.op - i]? = some o ∧ o.op = .alloc t ∧ o.guard = none ∧ tZero P t = .ok zs ∧ p.row = floatRow t p.id zs) ∧ next ≤ n ∧ True ∧ ps.Pairwise (fun p q => p.op < q.op ∧ p.id < q.id)
  | [], i, next, ps, n, h => by
    simp only [reserve] at h
    cases h
    exact ⟨by simp, Nat.le_refl _, trivial, List.Pairwise.nil⟩
  | o :: os, i, next, ps, n, h => by
    simp only [reserve] at h
    split at h
    · rename_i t ho hg
      obtain ⟨zs, h1, h2⟩ := bok h
      obtain ⟨⟨l, m⟩, h3, h4⟩ := bok h2
      cases h4
      obtain ⟨r1, r2, r3, r4⟩ := reserve_ok os (i + 1) (next + 1) l m h3
      refine ⟨fun p hp => ?_, by omega, trivial, List.Pairwise.cons (fun q hq => ?_) r4⟩
      · rcases List.mem_cons.1 hp with rfl | hp
        · exact ⟨Nat.le_refl _, Nat.le_refl _, by show next < m; omega, o, t, zs, by simp, ho, hg, h1, rfl⟩
        · obtain ⟨a1, a2, a3, o', t', zs', b1, b2, b3, b4, b5⟩ := r1 p hp
          exact ⟨by omega, by omega, a3, o', t', zs', by rw [show p.op - i = (p.op - (i + 1)) + 1 by omega, List.getElem?_cons_succ]; exact b1, b2, b3, b4, b5⟩
      · obtain ⟨a1, a2, _⟩ := r1 q hq
        exact ⟨by show i < q.op; omega, by show next < q.id; omega⟩
    · obtain ⟨r1, r2, r3, r4⟩ := reserve_ok os (i + 1) next ps n h
      refine ⟨fun p hp => ?_, r2, r3, r4⟩
      obtain ⟨a1, a2, a3, o', t', zs', b1, b2, b3, b4, b5⟩ := r1 p hp
      exact ⟨by omega, a2, a3, o', t', zs', by rw [show p.op - i = (p.op - (i + 1)) + 1 by omega, List.getElem?_cons_succ]; exact b1, b2, b3, b4, b5⟩

theorem Pends.of {os : List Oper} {lo n : Nat} {ps : List Pend} (h : reserve P os 0 lo = .ok (ps, n)) : Pends P os lo n ps := by
  obtain ⟨r1, r2, r3, r4⟩ := reserve_ok os 0 lo ps n h
  exact ⟨fun p hp => let ⟨_, a, b, c⟩ := r1 p hp; ⟨a, b, by simpa using c⟩, r2, r3, r4⟩

section
variable {os : List Oper} {lo n : Nat} {ps : List Pend}

theorem Pends.float (h : Pends P os lo n ps) {p : Pend} (hp : p ∈ ps) : ∃ o, os[p.op]? = some o ∧ floatOp o = true := by
  obtain ⟨_, _, o, t, zs, h1, h2, h3, _⟩ := h.mem p hp
  refine ⟨o, h1, ?_⟩
  unfold floatOp
  rw [h2, h3]

theorem sep_of : ∀ {ps : List Pend}, ps.Pairwise (fun p q => p.op < q.op ∧ p.id < q.id) → ∀ p ∈ ps, ∀ q ∈ ps, p.op = q.op ∨ p.id = q.id → p = q
  | [], _, p, hp, _, _, _ => by cases hp
  | x :: l, h, p, hp, q, hq, e => by
    obtain ⟨h1, h2⟩ := List.pairwise_cons.1 h
    rcases List.mem_cons.1 hp with e1 | hp'
    · rcases List.mem_cons.1 hq with e2 | hq'
      · rw [e1, e2]
      · have := h1 q hq'; rw [e1] at e; omega
    · rcases List.mem_cons.1 hq with e2 | hq'
      · have := h1 p hp'; rw [e2] at e; omega
      · exact sep_of h2 p hp' q hq' e

theorem floatsOf_go : ∀ (ps : List Pend) (m i : Nat), (ps.foldl (fun m p => m ||| 2 ^ p.op) m).testBit i = true → m.testBit i = true ∨ ∃ p ∈ ps, p.op = i
  | [], m, i, h => .inl h
  | p :: ps, m, i, h => by
    rw [List.foldl_cons] at h
    rcases floatsOf_go ps _ i h with h1 | ⟨q, hq, e⟩
    · rw [Nat.testBit_or, Bool.or_eq_true, Nat.testBit_two_pow, decide_eq_true_eq] at h1
      rcases h1 with h1 | h1
      · exact .inl h1
      · exact .inr ⟨p, by simp, h1⟩
    · exact .inr ⟨q, by simp [hq], e⟩

theorem floatsOf_bit {i : Nat} (h : (floatsOf ps).testBit i = true) : ∃ p ∈ ps, p.op = i := by
  rcases floatsOf_go ps 0 i h with h | h
  · simp at h
  · exact h

theorem pendOf_ok {j : Nat} {p : Pend} (h : pendOf ps j = some p) : p ∈ ps ∧ p.op = j := by
  unfold pendOf at h
  exact ⟨List.mem_of_find?_eq_some h, by simpa using List.find?_some h⟩

theorem ins_next (c g : Nat) : ∀ (ps : List Pend) (M : AH), (ins c g ps M).next = M.next
  | [], M => rfl
  | p :: ps, M => by
    rw [ins, ins_next c g ps]
    split <;> rfl

theorem ins_not {c g j : Nat} : ∀ (ps : List Pend) (M : AH), (∀ p ∈ ps, p.id ≤ p.id) → (∀ p ∈ ps, c.testBit p.op = true → g.testBit p.op = false → p.id ≠ j) → (ins c g ps M).get j = M.get j
  | [], M, _, _ => rfl
  | p :: ps, M, hb, h => by
    rw [ins, ins_not ps _ (fun q hq => hb q (by simp [hq])) (fun q hq => h q (by simp [hq]))]
    split
    · rename_i hc
      simp only [Bool.and_eq_true, Bool.not_eq_true'] at hc
      rw [AH.get_set, if_neg (fun e => h p (by simp) hc.1 hc.2 e.symm)]
    · rfl

theorem ins_in {c g : Nat} : ∀ (ps : List Pend) (M : AH), (∀ p ∈ ps, p.id ≤ p.id) → ps.Pairwise (fun p q => p.op < q.op ∧ p.id < q.id) → ∀ p ∈ ps, c.testBit p.op = true → g.testBit p.op = false → (ins c g ps M).get p.id = some (.row p.row)
  | [], M, _, _, p, hp, _, _ => by cases hp
  | x :: ps, M, hb, hs, p, hp, h1, h2 => by
    obtain ⟨s1, s2⟩ := List.pairwise_cons.1 hs
    rw [ins]
    rcases List.mem_cons.1 hp with rfl | hp
    · rw [ins_not ps _ (fun q hq => hb q (by simp [hq])) (fun q hq _ _ => by have := s1 q hq; omega)]
      rw [if_pos (by simp [h1, h2]), AH.get_set, if_pos rfl]
    · exact ins_in ps _ (fun q hq => hb q (by simp [hq])) s2 p hp h1 h2

/-- what is known of the blocks of a region's allocations -/
structure PInv (ps : List Pend) (W0 : World) (ld : Array Bool) (ρ : Ren) (W : World) (m : PM) : Prop where
  on : ∀ p ∈ ps, ld.getD p.op false = true → ∃ pl, ρ p.id = some pl ∧ W0.heap.size ≤ pl.blk ∧ pl.blk < W.heap.size ∧ pl.base = 0 ∧ pl.esz = 0 ∧ (m.got.testBit p.op = false → OR ρ W pl (.row p.row) ∧ ¬ Touch ρ m.H pl.blk)
  off : ∀ p ∈ ps, ld.getD p.op false = false → ρ p.id = none
  lt : ∀ p ∈ ps, p.id < m.H.next
  got : ∀ p ∈ ps, m.got.testBit p.op = true → ld.getD p.op false = true
  inj : ∀ p ∈ ps, ∀ q ∈ ps, p.id ≠ q.id → ∀ pl pl', ρ p.id = some pl → ρ q.id = some pl' → pl.blk ≠ pl'.blk

variable {ρ0 ρ ρ' : Ren} {H : AH} {W0 W W' : World} {m : PM} {ld : Array Bool}

theorem PInv.absent (pi : PInv ps W0 ld ρ W m) (hR : Rel ρ m.H W) {p : Pend} (hp : p ∈ ps) (hg : m.got.testBit p.op = false) : m.H.get p.id = none := by
  cases hc : m.H.get p.id with
  | none => rfl
  | some o =>
    obtain ⟨pl, h1, _⟩ := hR.obj p.id o hc
    cases hl : ld.getD p.op false with
    | false => rw [pi.off p hp hl] at h1; cases h1
    | true =>
      obtain ⟨pl', h2, _, _, _, _, h3⟩ := pi.on p hp hl
      rw [h1] at h2; cases h2
      exact absurd ⟨p.id, o, pl, hc, h1, rfl⟩ (h3 hg).2

/-- what lies in the filled memory -/
theorem ins_cases (Pd : Pends P os lo n ps) (hlo : True) {c j : Nat} {o : AO} (h : (m.ins c ps).get j = some o) :
    (∃ p ∈ ps, p.id = j ∧ c.testBit p.op = true ∧ m.got.testBit p.op = false ∧ o = .row p.row) ∨ (m.H.get j = some o ∧ ∀ p ∈ ps, c.testBit p.op = true → m.got.testBit p.op = false → p.id ≠ j) := by
  have hb : ∀ p ∈ ps, p.id ≤ p.id := fun p hp => by
    have := (Pd.mem p hp).2.1
    have := Pd.bound
    omega
  by_cases hs : ∃ p ∈ ps, c.testBit p.op = true ∧ m.got.testBit p.op = false ∧ p.id = j
  · obtain ⟨p, hp, h1, h2, rfl⟩ := hs
    unfold PM.ins at h
    rw [ins_in ps _ hb Pd.sep p hp h1 h2] at h
    cases h
    exact .inl ⟨p, hp, rfl, h1, h2, rfl⟩
  · have hn : ∀ p ∈ ps, c.testBit p.op = true → m.got.testBit p.op = false → p.id ≠ j := fun p hp h1 h2 e => hs ⟨p, hp, h1, h2, e⟩
    unfold PM.ins at h
    rw [ins_not ps _ hb hn] at h
    exact .inr ⟨h, hn⟩

theorem ins_in' (Pd : Pends P os lo n ps) (hlo : True) {c : Nat} {p : Pend} (hp : p ∈ ps) (h1 : c.testBit p.op = true) (h2 : m.got.testBit p.op = false) : (m.ins c ps).get p.id = some (.row p.row) :=
  ins_in ps _ (fun p hp => by
    have := (Pd.mem p hp).2.1
    have := Pd.bound
    omega) Pd.sep p hp h1 h2

/-- **Filled in, the memories still go along.** -/
theorem insert_st (Pd : Pends P os lo n ps) (hlo : True) {c : Nat} (pi : PInv ps W0 ld ρ W m) (hsel : ∀ p ∈ ps, c.testBit p.op = true → ld.getD p.op false = true) (st : St ρ0 H W0 ρ m.H W) : St ρ0 H W0 ρ (m.ins c ps) W := by
  have hnext : (m.ins c ps).next = m.H.next := ins_next _ _ _ _
  have blk : ∀ p ∈ ps, c.testBit p.op = true → m.got.testBit p.op = false → ∀ pl, ρ p.id = some pl → W0.heap.size ≤ pl.blk ∧ pl.blk < W.heap.size ∧ OR ρ W pl (.row p.row) ∧ ¬ Touch ρ m.H pl.blk := fun p hp h1 h2 pl hpl => by
    obtain ⟨pl', a1, a2, a3, _, _, a4⟩ := pi.on p hp (hsel p hp h1)
    rw [hpl] at a1; cases a1
    exact ⟨a2, a3, (a4 h2).1, (a4 h2).2⟩
  refine ⟨st.le, ⟨fun i p hi => by rw [hnext]; exact st.rel.dom i p hi, trivial, fun j o hj => ?_, fun i j oi oj pi' pj hi hj hij hpi hpj hblk => ?_⟩, by rw [hnext]; exact st.next, st.size, fun b hb hnot => ⟨(st.keep b hb hnot).1, ?_⟩, st.tape, st.os, st.output, st.old, fun b hb hnot => ?_⟩
  · rcases ins_cases Pd hlo hj with ⟨p, hp, rfl, h1, h2, rfl⟩ | ⟨h1, _⟩
    · obtain ⟨pl, a1, _, _, _, _, _⟩ := pi.on p hp (hsel p hp h1)
      obtain ⟨b1, b2, b3, b4⟩ := blk p hp h1 h2 pl a1
      exact ⟨pl, a1, b2, b3⟩
    · exact st.rel.obj j o h1
  · rcases ins_cases Pd hlo hi with ⟨p, hp, rfl, h1, h2, rfl⟩ | ⟨h1, _⟩
    · rcases ins_cases Pd hlo hj with ⟨q, hq, rfl, k1, k2, rfl⟩ | ⟨k1, _⟩
      · exact absurd hblk (pi.inj p hp q hq hij _ _ hpi hpj)
      · exact absurd ⟨j, oj, pj, k1, hpj, hblk.symm⟩ (blk p hp h1 h2 pi' hpi).2.2.2
    · rcases ins_cases Pd hlo hj with ⟨q, hq, rfl, k1, k2, rfl⟩ | ⟨k1, _⟩
      · exact absurd ⟨i, oi, pi', h1, hpi, hblk⟩ (blk q hq k1 k2 pj hpj).2.2.2
      · exact st.rel.share i j oi oj pi' pj h1 k1 hij hpi hpj hblk
  · rintro ⟨j, o, pl, hj, hrw, hpl, hb'⟩
    rcases ins_cases Pd hlo hj with ⟨p, hp, rfl, h1, h2, rfl⟩ | ⟨h1, _⟩
    · have := (blk p hp h1 h2 pl hpl).1
      omega
    · exact (st.keep b hb hnot).2 ⟨j, o, pl, h1, hrw, hpl, hb'⟩
  · rintro ⟨j, o, pl, hj, hpl, hb'⟩
    rcases ins_cases Pd hlo hj with ⟨p, hp, rfl, h1, h2, rfl⟩ | ⟨h1, _⟩
    · have := (blk p hp h1 h2 pl hpl).1
      omega
    · exact st.apart b hb hnot ⟨j, o, pl, h1, hpl, hb'⟩

/-- a memory that knows of fewer objects -/
theorem drop_st {M M' : AH} (st : St ρ0 H W0 ρ M' W) (hn : M.next = M'.next) (hs : ∀ j o, M.get j = some o → M'.get j = some o) : St ρ0 H W0 ρ M W := by
  refine ⟨st.le, ⟨fun i p hi => by rw [hn]; exact st.rel.dom i p hi, trivial, fun j o hj => st.rel.obj j o (hs j o hj), fun i j oi oj pi pj hi hj => st.rel.share i j oi oj pi pj (hs _ _ hi) (hs _ _ hj)⟩, by rw [hn]; exact st.next, st.size, fun b hb hnot => ⟨(st.keep b hb hnot).1, ?_⟩, st.tape, st.os, st.output, st.old, fun b hb hnot => ?_⟩
  · rintro ⟨j, o, pl, hj, hrw, hpl, hb'⟩
    exact (st.keep b hb hnot).2 ⟨j, o, pl, hs _ _ hj, hrw, hpl, hb'⟩
  · rintro ⟨j, o, pl, hj, hpl, hb'⟩
    exact st.apart b hb hnot ⟨j, o, pl, hs _ _ hj, hpl, hb'⟩

theorem ins_sub (Pd : Pends P os lo n ps) (hlo : True) {c : Nat} (pi : PInv ps W0 ld ρ W m) (hR : Rel ρ m.H W) : ∀ j o, m.H.get j = some o → (m.ins c ps).get j = some o := fun j o hj => by
  unfold PM.ins
  rw [ins_not ps _ (fun p hp => by
    have := (Pd.mem p hp).2.1
    have := Pd.bound
    omega) (fun p hp _ h2 e => by
      rw [← e, pi.absent hR hp h2] at hj
      cases hj)]
  exact hj

theorem Own.touch {ρ : Ren} {H : AH} {b : Nat} (h : Own ρ H b) : Touch ρ H b := by
  obtain ⟨i, o, pl, a, _, b, c⟩ := h
  exact ⟨i, o, pl, a, b, c⟩

/-- over an operation that saw the filled memory -/
theorem PInv.step (Pd : Pends P os lo n ps) (hlo : True) {c : Nat} (pi : PInv ps W0 ld ρ W m) (hR : Rel ρ m.H W) (hsel : ∀ p ∈ ps, c.testBit p.op = true → ld.getD p.op false = true)
    {M' : AH} {m' : PM} (st : St ρ (m.ins c ps) W ρ' M' W') (hm : (m' = m ∧ M' = m.ins c ps) ∨ (m'.H = M' ∧ m'.got = m.got ||| c)) {ld' : Array Bool} (hld : ∀ p ∈ ps, ld'.getD p.op false = ld.getD p.op false) : PInv ps W0 ld' ρ' W' m' := by
  have hnext : (m.ins c ps).next = m.H.next := ins_next _ _ _ _
  have old : ∀ p ∈ ps, ρ' p.id = ρ p.id := fun p hp => st.old _ (by rw [hnext]; exact pi.lt p hp)
  have hsub : ∀ j o, m'.H.get j = some o → M'.get j = some o := fun j o hj => by
    rcases hm with ⟨rfl, rfl⟩ | ⟨e, _⟩
    · exact ins_sub Pd hlo pi hR j o hj
    · rw [← e]; exact hj
  refine ⟨fun p hp hl => ?_, fun p hp hl => ?_, fun p hp => ?_, fun p hp hg => ?_, fun p hp q hq hne pl pl' h1 h2 => ?_⟩
  · rw [hld p hp] at hl
    obtain ⟨pl, a1, a2, a3, a4, a5, a6⟩ := pi.on p hp hl
    refine ⟨pl, st.le _ _ a1, a2, Nat.lt_of_lt_of_le a3 st.size, a4, a5, fun hg => ?_⟩
    have hg0 : m.got.testBit p.op = false := by
      rcases hm with ⟨rfl, _⟩ | ⟨_, e⟩
      · exact hg
      · rw [e, Nat.testBit_or, Bool.or_eq_false_iff] at hg; exact hg.1
    obtain ⟨b1, b2⟩ := a6 hg0
    cases hc : c.testBit p.op with
    | true =>
      rcases hm with ⟨rfl, rfl⟩ | ⟨_, e⟩
      · have hin := ins_in' (m := m') Pd hlo hp hc hg0
        obtain ⟨pl2, c1, c2, c3⟩ := st.rel.obj _ _ hin
        rw [st.le _ _ a1] at c1; cases c1
        refine ⟨c3, ?_⟩
        rintro ⟨j, o, plj, hj, hpj, hb⟩
        have hji : j ≠ p.id := fun e => by
          rw [e, pi.absent hR hp hg0] at hj
          cases hj
        obtain ⟨r1, r2, e1, e2, _, _, s1, s2⟩ := st.rel.share j p.id o (.row p.row) plj pl (hsub j o hj) hin hji hpj (st.le _ _ a1) hb
        cases e2
        obtain ⟨_, _, _, t, zs, _, _, _, _, e⟩ := Pd.mem p hp
        rw [e] at s2
        cases s2
      · rw [e, Nat.testBit_or, hc, Bool.or_true] at hg
        cases hg
    | false =>
      have hnt : ¬ Touch ρ (m.ins c ps) pl.blk := by
        rintro ⟨j, o, plj, hj, hpj, hb⟩
        rcases ins_cases Pd hlo hj with ⟨q, hq, rfl, h1, h2, rfl⟩ | ⟨h1, _⟩
        · refine pi.inj q hq p hp (fun e => ?_) _ _ hpj a1 hb
          have := sep_of Pd.sep q hq p hp (.inr e)
          subst this
          rw [hc] at h1; cases h1
        · exact b2 ⟨j, o, plj, h1, hpj, hb⟩
      have k := st.keep pl.blk a3 (fun h => hnt h.touch)
      refine ⟨b1.congr st.le k.1, ?_⟩
      rintro ⟨j, o, plj, hj, hpj, hb⟩
      exact st.apart pl.blk a3 hnt ⟨j, o, plj, hsub j o hj, hpj, hb⟩
  · rw [hld p hp] at hl
    rw [old p hp]
    exact pi.off p hp hl
  · have h1 := pi.lt p hp
    have h2 := st.next
    rw [hnext] at h2
    rcases hm with ⟨rfl, _⟩ | ⟨e, _⟩
    · exact h1
    · rw [e]; omega
  · rw [hld p hp]
    rcases hm with ⟨rfl, _⟩ | ⟨_, e⟩
    · exact pi.got p hp hg
    · rw [e, Nat.testBit_or, Bool.or_eq_true] at hg
      rcases hg with hg | hg
      · exact pi.got p hp hg
      · exact hsel p hp hg
  · rw [old p hp] at h1
    rw [old q hq] at h2
    exact pi.inj p hp q hq hne _ _ h1 h2

/-- **An allocation of a drawn region, where it comes up.** -/
theorem PInv.float (Pd : Pends P os H.next n ps) (pi : PInv ps W0 ld ρ W m) (st : St ρ0 H W0 ρ m.H W) {p : Pend} (hp : p ∈ ps) (hl : ld.getD p.op false = false) {t : TypeId} {zs : List Value} (hr : p.row = floatRow t p.id zs) {cs : Array Value} (hz : LR ρ zs cs.toList)
    {ld' : Array Bool} (hld : ∀ j, ld'.getD j false = true ↔ (j = p.op ∨ ld.getD j false = true)) :
    ∃ pl, (ρ.with p.id pl) p.id = some pl ∧ pl.blk = W.heap.size ∧ pl.base = 0 ∧ pl.esz = 0 ∧ ρ.le (ρ.with p.id pl) ∧ St ρ0 H W0 (ρ.with p.id pl) m.H { W with heap := W.heap.push (.cells cs t) } ∧ PInv ps W0 ld' (ρ.with p.id pl) { W with heap := W.heap.push (.cells cs t) } m := by
  have hno := pi.off p hp hl
  have hg : m.got.testBit p.op = false := by
    cases hg : m.got.testBit p.op with
    | false => rfl
    | true => have := pi.got p hp hg; rw [hl] at this; cases this
  have hsame : ∀ b, b < W.heap.size → ({ W with heap := W.heap.push (.cells cs t) } : World).heap[b]? = W.heap[b]? := fun b hb' => by
    show (W.heap.push _)[b]? = _
    rw [Array.getElem?_push, if_neg (by omega)]
  have hsz : ({ W with heap := W.heap.push (.cells cs t) } : World).heap.size = W.heap.size + 1 := by simp
  refine ⟨⟨W.heap.size, 0, 0, cs.toList.length⟩, by simp [Ren.with], rfl, rfl, rfl, ?_⟩
  have hle : ρ.le (ρ.with p.id ⟨W.heap.size, 0, 0, cs.toList.length⟩) := fun i q hi => by
    simp only [Ren.with]
    rw [if_neg (fun e => by rw [e, hno] at hi; cases hi)]
    exact hi
  have hnone : m.H.get p.id = none := pi.absent st.rel hp hg
  have hother : ∀ j, j ≠ p.id → (ρ.with p.id ⟨W.heap.size, 0, 0, cs.toList.length⟩) j = ρ j := fun j hj => by simp [Ren.with, hj]
  have hself : (ρ.with p.id ⟨W.heap.size, 0, 0, cs.toList.length⟩) p.id = some ⟨W.heap.size, 0, 0, cs.toList.length⟩ := by simp [Ren.with]
  have hne : ∀ j o, m.H.get j = some o → j ≠ p.id := fun j o hj e => by rw [e, hnone] at hj; cases hj
  have hor : OR (ρ.with p.id ⟨W.heap.size, 0, 0, cs.toList.length⟩) { W with heap := W.heap.push (.cells cs t) } ⟨W.heap.size, 0, 0, cs.toList.length⟩ (.row p.row) := by
    rw [hr]
    have hl1 := hz.1
    refine new_row_or (esz := 0) (cs := zs) (cs' := cs.toList) (t := t) (n1 := p.id) (n2 := 0) ⟨(0, 0), by simp, fun j _ => by simp⟩ ?_ (by omega)
    have : List.take zs.length cs.toList = cs.toList := List.take_of_length_le (by omega)
    rw [this]
    exact hz.mono hle
  have hb0 : (⟨W.heap.size, 0, 0, cs.toList.length⟩ : Pl).blk = W.heap.size := rfl
  have hb1 : (⟨W.heap.size, 0, 0, cs.toList.length⟩ : Pl).base = 0 := rfl
  have hb2 : (⟨W.heap.size, 0, 0, cs.toList.length⟩ : Pl).esz = 0 := rfl
  generalize (⟨W.heap.size, 0, 0, cs.toList.length⟩ : Pl) = pl0 at *
  have hst := st.size
  have hmem := (Pd.mem p hp)
  refine ⟨hle, ⟨Ren.le_trans st.le hle, ⟨fun i q hi => ?_, st.rel.nxt, fun j o hj => ?_, fun i j oi oj pi' pj hi hj hij hpi hpj hblk => ?_⟩, st.next, by rw [hsz]; omega, fun b hb hnot => ⟨?_, ?_⟩, st.tape, st.os, st.output, fun i hi => ?_, fun b hb hnot => ?_⟩,
    ⟨fun q hq hlq => ?_, fun q hq hlq => ?_, pi.lt, fun q hq hgq => (hld _).2 (.inr (pi.got q hq hgq)), fun q hq r hr hqr pl pl' h1 h2 => ?_⟩⟩
  · by_cases e : i = p.id
    · subst e; exact pi.lt p hp
    · rw [hother i e] at hi; exact st.rel.dom i q hi
  · obtain ⟨pl, a1, a2, a3⟩ := st.rel.obj j o hj
    exact ⟨pl, hle _ _ a1, by rw [hsz]; omega, a3.congr hle (hsame _ a2)⟩
  · rw [hother i (hne i oi hi)] at hpi
    rw [hother j (hne j oj hj)] at hpj
    exact st.rel.share i j oi oj pi' pj hi hj hij hpi hpj hblk
  · rw [hsame b (by omega)]; exact (st.keep b hb hnot).1
  · rintro ⟨j, o, pl, hj, hrw, hpl, hb'⟩
    rw [hother j (hne j o hj)] at hpl
    exact (st.keep b hb hnot).2 ⟨j, o, pl, hj, hrw, hpl, hb'⟩
  · rw [hother i (by omega)]; exact st.old i hi
  · rintro ⟨j, o, pl, hj, hpl, hb'⟩
    rw [hother j (hne j o hj)] at hpl
    exact st.apart b hb hnot ⟨j, o, pl, hj, hpl, hb'⟩
  · by_cases e : q = p
    · subst e
      refine ⟨pl0, hself, by omega, by rw [hsz]; omega, hb1, hb2, fun _ => ⟨hor, ?_⟩⟩
      rintro ⟨j, o, pl, hj, hpl, hb'⟩
      rw [hother j (hne j o hj)] at hpl
      obtain ⟨pl2, c1, c2, _⟩ := st.rel.obj j o hj
      rw [hpl] at c1; cases c1
      omega
    · have hid : q.id ≠ p.id := fun h => e (sep_of Pd.sep q hq p hp (.inr h))
      have hop : q.op ≠ p.op := fun h => e (sep_of Pd.sep q hq p hp (.inl h))
      have hlq' : ld.getD q.op false = true := by
        rcases (hld q.op).1 hlq with h | h
        · exact absurd h hop
        · exact h
      obtain ⟨pl, a1, a2, a3, a4, a5, a6⟩ := pi.on q hq hlq'
      refine ⟨pl, hle _ _ a1, a2, by rw [hsz]; omega, a4, a5, fun hg' => ⟨(a6 hg').1.congr hle (hsame _ a3), ?_⟩⟩
      rintro ⟨j, o, plj, hj, hpj, hb'⟩
      rw [hother j (hne j o hj)] at hpj
      exact (a6 hg').2 ⟨j, o, plj, hj, hpj, hb'⟩
  · have hop : q.op ≠ p.op := fun h => by rw [(hld q.op).2 (.inl h)] at hlq; cases hlq
    have hid : q.id ≠ p.id := fun h => hop (by rw [sep_of Pd.sep q hq p hp (.inr h)])
    rw [hother _ hid]
    refine pi.off q hq ?_
    cases h : ld.getD q.op false with
    | false => rfl
    | true => rw [(hld q.op).2 (.inr h)] at hlq; cases hlq
  · have old : ∀ q ∈ ps, q.id ≠ p.id → ∀ pl, ρ q.id = some pl → pl.blk < W.heap.size := fun q hq _ pl h => by
      cases hl : ld.getD q.op false with
      | false => rw [pi.off q hq hl] at h; cases h
      | true =>
        obtain ⟨pl', a1, _, a3, _⟩ := pi.on q hq hl
        rw [h] at a1; cases a1; exact a3
    by_cases e1 : q.id = p.id
    · have e2 : r.id ≠ p.id := fun h => hqr (e1.trans h.symm)
      rw [e1, hself] at h1
      cases h1
      rw [hother _ e2] at h2
      have := old r hr e2 _ h2
      omega
    · rw [hother _ e1] at h1
      by_cases e2 : r.id = p.id
      · rw [e2, hself] at h2
        cases h2
        have := old q hq e1 _ h1
        omega
      · rw [hother _ e2] at h2
        exact pi.inj q hq r hr hqr _ _ h1 h2

end

end
end Go.Eng
