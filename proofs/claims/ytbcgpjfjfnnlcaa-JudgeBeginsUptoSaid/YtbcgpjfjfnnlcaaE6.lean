/-
  Operations of the abstract machine go along with those of the model: places, parts, slices.
-/
import Derived.Test.YtbcgpjfjfnnlcaaE5
namespace Go.Eng
noncomputable section
variable {P : Program}

theorem natIn_ok {v : Value} {most n : Nat} (h : natIn v most = .ok n) : ∃ k i, v = .int k i ∧ 0 ≤ i ∧ i ≤ (most : Int) ∧ n = i.toNat ∧ n ≤ most := by
  unfold natIn at h
  split at h
  · rename_i k i
    split at h
    · rename_i hc; cases h; exact ⟨k, i, rfl, hc.1, hc.2, rfl, by omega⟩
    · cases h
  · cases h

theorem tSize_info {t n : Nat} (h : tSize P t = .ok n) : ∃ i, P.info? t = some i ∧ i.size = n := by
  unfold tSize at h
  split at h
  · rename_i i hi; cases h; exact ⟨i, hi, rfl⟩
  · cases h

theorem tBytes_info {t n : Nat} (h : tBytes P t = .ok n) : ∃ i, P.info? t = some i ∧ i.bytes = n := by
  unfold tBytes at h
  split at h
  · rename_i i hi; cases h; exact ⟨i, hi, rfl⟩
  · cases h

section ops
variable {a : AAct} {ca : Act} {ρ : Ren} {H H' : AH} {W : World} {v : Value} {rec : Rec} {d : Option Tmp} {ty : TypeId} {ps : String} {af : Array Edge} {gu : Option (Nat × Bool)}

theorem sim_fieldAddr {t : TypeId} {x : Operand} {f : Nat} (h : Rel ρ H W) (hx : OpE a ca ρ x) (ho : aOp P rec a H ⟨d, .fieldAddr t x f, ty, ps, af, gu⟩ = .ok (v, H')) :
    Sim1 P ⟨d, .fieldAddr t x f, ty, ps, af, gu⟩ ρ H W ca v H' := by
  simp only [aOp] at ho
  split at ho
  · rename_i fields hu
    split at ho
    · rename_i fd hf
      obtain ⟨u, h1, h2⟩ := bok ho
      obtain ⟨⟨id, off⟩, h3, h4⟩ := bok h2
      obtain ⟨n, h5, h6⟩ := bok h4
      split at h6
      · cases h6
      · rename_i hn
        cases h6
        cases addrOf_ok h3
        obtain ⟨pl, hp, e⟩ := (hx _ h1).at
        refine .same h (v' := .pointer (some ⟨pl.blk, pl.base + off + fd.offset, none⟩)) ?_ (by rw [Nat.add_assoc]; exact .ptr hp)
        simp [execOp, Instr.fieldAt, run_underlying' hu, Result.andThen, hf, e, Instr.sureAddr, fieldPlace, run_sizeOf' h5, hn, addr_add]
    · cases ho
  · cases ho

theorem part_sim {t : TypeId} {cs cs' : List Value} {off : Nat} (h : partAt' P t cs off = .ok v) (hl : LR ρ cs cs') (w : World) : ∃ v', (part t cs'.toArray off).run P w = .ok v' w ∧ VR ρ v v' := by
  unfold partAt' at h
  obtain ⟨b, h1, h2⟩ := bok h
  have hagg := run_isAgg' h1 w
  cases b with
  | true =>
    simp only [if_true] at h2
    obtain ⟨n, h3, h4⟩ := bok h2
    split at h4
    · cases h4
      refine ⟨.agg ((cs'.drop off).take n).toArray, ?_, VR.agg' ((hl.drop off).take n)⟩
      simp [part, hagg, Result.andThen, run_sizeOf' h3, List.take_drop]
    · cases h4
  | false =>
    simp only [Bool.false_eq_true, if_false] at h2
    split at h2
    · rename_i u hu
      cases h2
      obtain ⟨v', k1, k2⟩ := hl.get hu
      refine ⟨v', ?_, k2⟩
      simp [part, hagg, Result.andThen, k1]
    · cases h2

theorem VR.agg_inv {ρ : Ren} {cs : Array Value} {v' : Value} (h : VR ρ (.agg cs) v') : ∃ cs' : List Value, v' = .agg cs'.toArray ∧ LR ρ cs.toList cs' := by
  cases h with
  | agg h1 h2 => rename_i c; exact ⟨c.toList, by simp, h1, h2⟩

theorem VR.tuple_inv {ρ : Ren} {cs : Array Value} {v' : Value} (h : VR ρ (.tuple cs) v') : ∃ cs' : List Value, v' = .tuple cs'.toArray ∧ LR ρ cs.toList cs' := by
  cases h with
  | tuple h1 h2 => rename_i c; exact ⟨c.toList, by simp, h1, h2⟩

theorem sim_field {t : TypeId} {x : Operand} {f : Nat} (h : Rel ρ H W) (hx : OpE a ca ρ x) (ho : aOp P rec a H ⟨d, .field t x f, ty, ps, af, gu⟩ = .ok (v, H')) :
    Sim1 P ⟨d, .field t x f, ty, ps, af, gu⟩ ρ H W ca v H' := by
  simp only [aOp] at ho
  obtain ⟨u, h1, h2⟩ := bok ho
  split at h2
  · rename_i fields cs hu
    split at h2
    · rename_i fd hf
      obtain ⟨r, h3, h4⟩ := bok h2
      cases h4
      obtain ⟨cs', e, hl⟩ := (hx _ h1).agg_inv
      obtain ⟨v', k1, k2⟩ := part_sim h3 hl W
      refine .same h (v' := v') ?_ k2
      simp [execOp, Instr.field, run_underlying' hu, Result.andThen, hf, e, asAgg, k1]
    · cases h2
  · cases h2

theorem sim_indexAddr {t : TypeId} {x i : Operand} (h : Rel ρ H W) (hx : OpE a ca ρ x) (hi : OpE a ca ρ i) (ho : aOp P rec a H ⟨d, .indexAddr t x i, ty, ps, af, gu⟩ = .ok (v, H')) :
    Sim1 P ⟨d, .indexAddr t x i, ty, ps, af, gu⟩ ρ H W ca v H' := by
  simp only [aOp] at ho
  obtain ⟨u, h1, h2⟩ := bok ho
  split at h2
  · rename_i n elem id off hu
    obtain ⟨iv, h3, h4⟩ := bok h2
    obtain ⟨j, h5, h6⟩ := bok h4
    split at h6
    · rename_i hlt
      obtain ⟨size, h7, h8⟩ := bok h6
      cases h8
      obtain ⟨pl, hp, e⟩ := (hx _ h1).at
      obtain ⟨k, m, rfl, m1, m2, rfl, _⟩ := natIn_ok h5
      have ei := (hi _ h3).int_inv
      refine .same h (v' := .pointer (some ⟨pl.blk, pl.base + (off + m.toNat * size), none⟩)) ?_ (.ptr hp)
      have hc : 0 ≤ m ∧ m < (n : Int) := ⟨m1, by omega⟩
      simp [execOp, Instr.indexAt, ei, e, asIntOf, run_underlying' hu, Result.andThen, Instr.sureAddr, hc, run_sizeOf' h7, addr_add, Nat.add_assoc]
    · cases h6
  · rename_i elem id off n c hu
    obtain ⟨iv, h3, h4⟩ := bok h2
    obtain ⟨j, h5, h6⟩ := bok h4
    split at h6
    · rename_i hlt
      obtain ⟨size, h7, h8⟩ := bok h6
      cases h8
      obtain ⟨k, m, rfl, m1, m2, rfl, _⟩ := natIn_ok h5
      have ei := (hi _ h3).int_inv
      have hc : 0 ≤ m ∧ m < (n : Int) := ⟨m1, by omega⟩
      obtain ⟨xv, hxv⟩ : ∃ xv, ca.eval x = xv := ⟨_, rfl⟩
      have hv := hx _ h1
      rw [hxv] at hv
      cases hv with
      | slice hp _ =>
        rename_i pl c'
        refine .same h (v' := .pointer (some ⟨pl.blk, pl.base + (off + m.toNat * size), none⟩)) ?_ (.ptr hp)
        simp [execOp, Instr.indexAt, ei, hxv, asIntOf, run_underlying' hu, Result.andThen, hc, run_sizeOf' h7, addr_add, Nat.add_assoc]
      | sliceEnd => omega
    · cases h6
  · cases h2

theorem sim_index {t : TypeId} {x i : Operand} (h : Rel ρ H W) (hx : OpE a ca ρ x) (hi : OpE a ca ρ i) (ho : aOp P rec a H ⟨d, .index t x i, ty, ps, af, gu⟩ = .ok (v, H')) :
    Sim1 P ⟨d, .index t x i, ty, ps, af, gu⟩ ρ H W ca v H' := by
  simp only [aOp] at ho
  obtain ⟨u, h1, h2⟩ := bok ho
  split at h2
  · rename_i s hu
    obtain ⟨iv, h3, h4⟩ := bok h2
    obtain ⟨j, h5, h6⟩ := bok h4
    split at h6
    · rename_i b hb
      cases h6
      obtain ⟨k, m, rfl, m1, m2, rfl, _⟩ := natIn_ok h5
      have ei := (hi _ h3).int_inv
      have ex := (hx _ h1).string_inv
      refine .same h (v' := .int .u8 b.toNat) ?_ (.int _ _)
      have hs : s[m.toNat]? = some b := by
        have hlt : m.toNat < s.data.toList.length := by
          rcases Nat.lt_or_ge m.toNat s.data.toList.length with h' | h'
          · exact h'
          · rw [List.getElem?_eq_none h'] at hb; cases hb
        rw [List.getElem?_eq_getElem hlt] at hb
        have hsz : m.toNat < s.size := by simpa using hlt
        rw [getElem?_pos s m.toNat hsz]
        exact hb
      simp [execOp, Instr.index, ei, ex, asIntOf, run_underlying' hu, Result.andThen, m1, hs]
    · cases h6
  · rename_i n elem cs hu
    obtain ⟨iv, h3, h4⟩ := bok h2
    obtain ⟨j, h5, h6⟩ := bok h4
    split at h6
    · rename_i hlt
      obtain ⟨size, h7, h8⟩ := bok h6
      obtain ⟨r, h9, h10⟩ := bok h8
      cases h10
      obtain ⟨k, m, rfl, m1, m2, rfl, _⟩ := natIn_ok h5
      have ei := (hi _ h3).int_inv
      obtain ⟨cs', e, hl⟩ := (hx _ h1).agg_inv
      have hc : 0 ≤ m ∧ m < (n : Int) := ⟨m1, by omega⟩
      obtain ⟨v', k1, k2⟩ := part_sim h9 hl W
      refine .same h (v' := v') ?_ k2
      simp [execOp, Instr.index, ei, e, asIntOf, run_underlying' hu, Result.andThen, hc, run_sizeOf' h7, k1]
    · cases h6
  · cases h2

theorem sim_extract {x : Operand} {i : Nat} (h : Rel ρ H W) (hx : OpE a ca ρ x) (ho : aOp P rec a H ⟨d, .extract x i, ty, ps, af, gu⟩ = .ok (v, H')) :
    Sim1 P ⟨d, .extract x i, ty, ps, af, gu⟩ ρ H W ca v H' := by
  simp only [aOp] at ho
  obtain ⟨u, h1, h2⟩ := bok ho
  split at h2
  · rename_i vs
    split at h2
    · rename_i w hw
      cases h2
      obtain ⟨vs', e, hl⟩ := (hx _ h1).tuple_inv
      obtain ⟨v', k1, k2⟩ := hl.get hw
      refine .same h (v' := v') ?_ k2
      simp [execOp, Instr.extract, e, k1]
    · cases h2
  · cases h2

/-! ### Parts into a whole -/
theorem LR.set {ρ : Ren} {l l' : List Value} (h : LR ρ l l') (i : Nat) {v v' : Value} (hv : VR ρ v v') : LR ρ (l.set i v) (l'.set i v') := by
  refine ⟨by simp [h.1], fun j u u' h1 h2 => ?_⟩
  rw [List.getElem?_set] at h1 h2
  by_cases e : i = j
  · subst e
    rw [if_pos rfl] at h1 h2
    split at h1
    · split at h2
      · cases h1; cases h2; exact hv
      · cases h2
    · cases h1
  · rw [if_neg e] at h1 h2
    exact h.2 j u u' h1 h2

theorem fold_rel {ρ : Ren} (off : Nat) : ∀ (l l' : List Value) (i : Nat) (cells cells' : Array Value), LR ρ l l' → LR ρ cells.toList cells'.toList →
    LR ρ ((l.zipIdx i).foldl (fun (cs : Array Value) (p : Value × Nat) => cs.setIfInBounds (off + p.2) p.1) cells).toList ((l'.zipIdx i).foldl (fun (cs : Array Value) (p : Value × Nat) => cs.setIfInBounds (off + p.2) p.1) cells').toList
  | [], l', i, cells, cells', hl, hc => by rw [hl.nil_inv]; exact hc
  | v :: l, l', i, cells, cells', hl, hc => by
    obtain ⟨v', m', rfl, hv, hm⟩ := hl.cons_inv
    simp only [List.zipIdx_cons, List.foldl_cons]
    refine fold_rel off l m' (i + 1) _ _ hm ?_
    simp only [Array.toList_setIfInBounds]
    exact hc.set _ hv

theorem fill_rel {ρ : Ren} (place : Nat → Option (Nat × Nat)) : ∀ (parts : List (Nat × Value)) (parts' : List (Nat × Value)) (cells cells' r : Array Value),
    parts.map (·.1) = parts'.map (·.1) → LR ρ (parts.map (·.2)) (parts'.map (·.2)) → LR ρ cells.toList cells'.toList → Instr.fill place cells parts = some r →
    ∃ r', Instr.fill place cells' parts' = some r' ∧ LR ρ r.toList r'.toList
  | [], parts', cells, cells', r, h1, _, hc, h => by
    cases parts' with
    | nil => simp [Instr.fill] at h; subst h; exact ⟨cells', rfl, hc⟩
    | cons _ _ => simp at h1
  | (i, v) :: parts, parts', cells, cells', r, h1, h2, hc, h => by
    cases parts' with
    | nil => simp at h1
    | cons p parts' =>
      obtain ⟨i', v'⟩ := p
      simp only [List.map_cons, List.cons.injEq] at h1
      obtain ⟨rfl, h1⟩ := h1
      have h2c : LR ρ (v :: parts.map (·.2)) (v' :: parts'.map (·.2)) := h2
      have hv : VR ρ v v' := h2c.head
      have h2' : LR ρ (parts.map (·.2)) (parts'.map (·.2)) := h2c.tail
      have hvc := hv.cells
      have hsz : v'.cells.size = v.cells.size := by have := hvc.1; simp at this; omega
      have hcs : cells'.size = cells.size := by have := hc.1; simp at this; omega
      simp only [Instr.fill] at h ⊢
      cases hp : place i with
      | none => rw [hp] at h; simp at h
      | some q =>
        obtain ⟨off, size⟩ := q
        rw [hp] at h
        simp only at h ⊢
        rw [hsz, hcs]
        split at h
        · cases h
        · rename_i hn
          rw [if_neg hn]
          refine fill_rel place parts parts' _ _ r h1 h2' ?_ h
          have := fold_rel off v.cells.toList v'.cells.toList 0 cells cells' hvc hc
          rw [← Array.foldl_toList, ← Array.foldl_toList, Array.toList_zipIdx, Array.toList_zipIdx]
          exact this

theorem run_listMapM {α β : Type} (f : α → Sem β) (g : α → β) (w : World) : ∀ (l : List α), (∀ x ∈ l, (f x).run P w = .ok (g x) w) → (l.mapM f).run P w = .ok (l.map g) w
  | [], _ => by simp
  | x :: l, h => by
    rw [List.mapM_cons]
    simp only [Sem.run_bind, h x (by simp), Result.andThen, run_listMapM f g w l (fun y hy => h y (by simp [hy])), Sem.run_pure]
    simp

theorem run_arrayMapM {α β : Type} (f : α → Sem β) (g : α → β) (w : World) (xs : Array α) (h : ∀ x ∈ xs.toList, (f x).run P w = .ok (g x) w) : (xs.mapM f).run P w = .ok (xs.toList.map g).toArray w := by
  rw [Array.mapM_eq_mapM_toList]
  simp only [Sem.run_map, run_listMapM f g w _ h, Result.andThen]

theorem allR_spec {α β : Type} {f : α → R β} : ∀ {l : List α} {ys : List β}, allR f l = .ok ys → ys.length = l.length ∧ ∀ (i : Nat) (x : α), l[i]? = some x → ∃ y, ys[i]? = some y ∧ f x = .ok y
  | [], ys, h => by simp [allR] at h; subst h; simp
  | x :: l, ys, h => by
    simp only [allR] at h
    obtain ⟨y, h1, h2⟩ := bok h
    obtain ⟨zs, h3, h4⟩ := bok h2
    cases h4
    obtain ⟨k1, k2⟩ := allR_spec h3
    refine ⟨by simp [k1], fun i u hu => ?_⟩
    cases i with
    | zero => simp at hu; subst hu; exact ⟨y, rfl, h1⟩
    | succ i => simpa using k2 i u (by simpa using hu)

theorem parts_eval {l : List (Nat × Operand)} {qs : List (Nat × Value)} (h : allR (fun (p : Nat × Operand) => do .ok (p.1, ← a.eval p.2)) l = .ok qs) (hx : ∀ p ∈ l, OpE a ca ρ p.2) :
    qs.map (·.1) = (l.map fun p => (p.1, ca.eval p.2)).map (·.1) ∧ LR ρ (qs.map (·.2)) ((l.map fun p => (p.1, ca.eval p.2)).map (·.2)) := by
  induction l generalizing qs with
  | nil => simp [allR] at h; subst h; exact ⟨rfl, LR.nil ρ⟩
  | cons x l ih =>
    simp only [allR] at h
    obtain ⟨u, h1, h2⟩ := bok h
    obtain ⟨ws, h3, h4⟩ := bok h2
    cases h4
    obtain ⟨w, h5, h6⟩ := bok h1
    cases h6
    obtain ⟨k1, k2⟩ := ih h3 fun y hy => hx y (by simp [hy])
    exact ⟨by simp [k1], (k2).cons (hx x (by simp) _ h5)⟩

theorem sim_build {t : TypeId} {parts : Array (Nat × Operand)} (h : Rel ρ H W) (hx : ∀ p ∈ parts.toList, OpE a ca ρ p.2) (ho : aOp P rec a H ⟨d, .build t parts, ty, ps, af, gu⟩ = .ok (v, H')) :
    Sim1 P ⟨d, .build t parts, ty, ps, af, gu⟩ ρ H W ca v H' := by
  simp only [aOp] at ho
  obtain ⟨qs, h1, h2⟩ := bok ho
  obtain ⟨zs, h3, h4⟩ := bok h2
  obtain ⟨z, z1, z2, z3, _⟩ := run_zeroValue' h3 W
  obtain ⟨k1, k2⟩ := parts_eval h1 hx
  have hzl : LR ρ zs.toArray.toList z.cells.toList := by rw [z2]; exact gnd_list z3
  split at h4
  · rename_i fields hu
    obtain ⟨places, h5, h6⟩ := bok h4
    split at h6
    · rename_i cells hf
      cases h6
      obtain ⟨r', f1, f2⟩ := fill_rel _ qs _ _ _ cells k1 k2 hzl hf
      refine .same h (v' := .agg r') ?_ (.agg f2.1 f2.2)
      obtain ⟨e1, e2⟩ := allR_spec h5
      have hm : (fields.mapM fun f => do pure (f.offset, ← sizeOf f.type) : Sem (Array (Nat × Nat))).run P W = .ok places.toArray W := by
        have hg : ∀ x ∈ fields.toList, ((do pure (x.offset, ← sizeOf x.type) : Sem (Nat × Nat))).run P W = .ok ((fun x : Field => (x.offset, match tSize P x.type with | .ok n => n | .error _ => 0)) x) W := fun x hx' => by
          obtain ⟨i, hi⟩ := List.getElem?_of_mem hx'
          obtain ⟨y, _, hy2⟩ := e2 i x hi
          obtain ⟨n, hn, hn2⟩ := bok hy2
          simp [run_sizeOf' hn W, Result.andThen, hn]
        rw [run_arrayMapM _ _ W fields hg]
        congr 2
        apply List.ext_getElem?
        intro i
        rw [List.getElem?_map]
        cases hi : fields.toList[i]? with
        | none =>
          have : fields.toList.length ≤ i := List.getElem?_eq_none_iff.1 hi
          rw [List.getElem?_eq_none (by omega)]
          rfl
        | some x =>
          obtain ⟨y, hy1, hy2⟩ := e2 i x hi
          obtain ⟨n, hn, hn2⟩ := bok hy2
          cases hn2
          rw [hy1]
          simp [hn]
      simp only [execOp, Instr.build, Sem.run_bind, z1, Result.andThen, run_underlying' hu, hm, Array.toList_map]
      have : (fun x : Nat => places.toArray[x]?) = fun i : Nat => places[i]? := by funext i; simp
      rw [this, f1]
      rfl
    · cases h6
  · rename_i n elem hu
    obtain ⟨size, h5, h6⟩ := bok h4
    split at h6
    · rename_i cells hf
      cases h6
      obtain ⟨r', f1, f2⟩ := fill_rel _ qs _ _ _ cells k1 k2 hzl hf
      refine .same h (v' := .agg r') ?_ (.agg f2.1 f2.2)
      simp only [execOp, Instr.build, Sem.run_bind, z1, Result.andThen, run_underlying' hu, run_sizeOf' h5, Array.toList_map]
      rw [f1]
      rfl
    · cases h6
  · cases h4

theorem repeated_length (z : List Value) : ∀ n, (repeated z n).length = n * z.length
  | 0 => by simp [repeated]
  | n + 1 => by rw [repeated, List.length_append, repeated_length z n, Nat.add_mul]; omega

theorem repeated_get (z : List Value) : ∀ (n i : Nat), i < n * z.length → (repeated z n)[i]? = z[i % z.length]?
  | 0, i, h => by simp at h
  | n + 1, i, h => by
    rw [repeated]
    by_cases hi : i < z.length
    · rw [List.getElem?_append_left hi, Nat.mod_eq_of_lt hi]
    · have hm : (n + 1) * z.length = n * z.length + z.length := by rw [Nat.add_mul]; omega
      rw [List.getElem?_append_right (by omega), repeated_get z n _ (by omega)]
      congr 1
      rw [← Nat.mod_eq_sub_mod (by omega)]

theorem zeros_eq (z : Array Value) (n : Nat) : ((Array.range (n * z.size)).map fun i => z[i % z.size]!).toList = repeated z.toList n := by
  apply List.ext_getElem?
  intro i
  by_cases hi : i < n * z.size
  · rw [repeated_get _ _ _ (by simpa using hi)]
    have hz : 0 < z.size := by
      rcases Nat.eq_zero_or_pos z.size with h | h
      · rw [h] at hi; simp at hi
      · exact h
    have hlt := Nat.mod_lt i hz
    simp [hi, hlt]
  · rw [List.getElem?_eq_none (by simp; omega), List.getElem?_eq_none (by rw [repeated_length]; simpa using hi)]

theorem sim_makeSlice {t : TypeId} {l c : Operand} (h : Rel ρ H W) (hl : OpE a ca ρ l) (hc : OpE a ca ρ c) (ho : aOp P rec a H ⟨d, .makeSlice t l c, ty, ps, af, gu⟩ = .ok (v, H')) :
    Sim1 P ⟨d, .makeSlice t l c, ty, ps, af, gu⟩ ρ H W ca v H' := by
  simp only [aOp] at ho
  split at ho
  · rename_i elem hu
    obtain ⟨cv, h1, h2⟩ := bok ho
    obtain ⟨cn, h3, h4⟩ := bok h2
    obtain ⟨lv, h5, h6⟩ := bok h4
    obtain ⟨ln, h7, h8⟩ := bok h6
    obtain ⟨bytes, h9, h10⟩ := bok h8
    split at h10
    · cases h10
    · rename_i hb
      obtain ⟨size, h11, h12⟩ := bok h10
      obtain ⟨zs, h13, h14⟩ := bok h12
      obtain ⟨⟨id, H1⟩, h15, h16⟩ := bok h14
      cases h16
      obtain ⟨k1, m1, rfl, a1, a2, rfl, a3⟩ := natIn_ok h3
      obtain ⟨k2, m2, rfl, b1, b2, rfl, b3⟩ := natIn_ok h7
      have e1 := (hc _ h1).int_inv
      have e2 := (hl _ h5).int_inv
      obtain ⟨z, z1, z2, z3, inf, z4, z5⟩ := run_zeroValue' h13 W
      have hbytes : bytes = inf.bytes := by obtain ⟨i2, q1, q2⟩ := tBytes_info h9; rw [z4] at q1; cases q1; exact q2.symm
      have hsize : size = inf.size := by obtain ⟨i2, q1, q2⟩ := tSize_info h11; rw [z4] at q1; cases q1; exact q2.symm
      have w1 : IntKind.i64.wrap m1 = m1 := by rw [IntKind.wrap_i64]; omega
      have w2 : IntKind.i64.wrap m2 = m2 := by rw [IntKind.wrap_i64]; omega
      have hz : z.cells.size = inf.size := by rw [← z5, ← z2]; simp
      have hcells : ((Array.range (m1.toNat * size)).map fun i => z.cells[i % z.cells.size]!).toList = repeated zs m1.toNat := by
        rw [hsize, ← hz, zeros_eq, z2]
      have hg : (repeated zs m1.toNat).all (gnd gd) = true := by
        have : ∀ n, (repeated zs n).all (gnd gd) = true := by
          intro n
          induction n with
          | zero => rfl
          | succ n ih => simp only [repeated, List.all_append, ih, z3, Bool.and_self]
        exact this _
      refine sim_row (cs' := repeated zs m1.toNat) (rest := []) (W1 := W) (W' := { W with heap := W.heap.push (.cells (repeated zs m1.toNat).toArray elem) }) (v' := .slice (some ⟨W.heap.size, 0, none⟩) m2.toNat m1.toNat) h h15 ?_ rfl (by simp) rfl rfl rfl (gnd_list hg) (fun ρ' _ hp => ?_)
      · have t1 : ¬ (inf.bytes * m1 > 2 ^ 48) := by
          rw [← hbytes]
          have : (bytes : Int) * m1 = ((bytes * m1.toNat : Nat) : Int) := by
            rw [Int.natCast_mul, Int.toNat_of_nonneg a1]
          rw [this]
          omega
        have hne : (decide (m1 < 0) || decide ((2 : Int) ^ 48 < inf.bytes * m1)) = false := by
          have hm : ¬ m1 < 0 := by omega
          have t1' : ¬ ((2 : Int) ^ 48 < inf.bytes * m1) := t1
          simp only [hm, t1', decide_false, Bool.or_self]
        simp only [execOp, Instr.makeSlice, Sem.run_bind, run_underlying' hu, Result.andThen, e1, e2, asInt, asIntOf, Sem.run_pure, run_typeInfo' z4, w1, w2, gt_iff_lt]
        simp only [hne, Bool.false_or]
        have hm2 : ¬ m2 < 0 := by omega
        have hm3 : ¬ m2 > m1 := by omega
        have hm4 : ¬ m1 < m2 := by omega
        simp only [hm2, hm4, decide_false, Bool.or_self, Bool.false_eq_true, if_false, Sem.run_bind, Result.andThen, run_askRoom, run_sizeOf' h11]
        by_cases hn : m1.toNat * size = 0
        · have hrep : repeated zs m1.toNat = [] := by
            apply List.eq_nil_of_length_eq_zero
            rw [repeated_length, z5, ← hsize]; exact hn
          simp only [hn, if_true, Sem.run_pure, Result.andThen, Sem.run_bind, run_newRow', hrep]
          have e0 : ((Array.range 0).map fun x => (#[] : Array Value)[x % (#[] : Array Value).size]!) = #[] := by apply Array.eq_empty_of_size_eq_zero; simp
          rw [e0]
        · simp only [hn, if_false, Sem.run_bind, z1, Result.andThen, Sem.run_pure, run_newRow']
          have : ((Array.range (m1.toNat * size)).map fun i => z.cells[i % z.cells.size]!) = (repeated zs m1.toNat).toArray := by
            apply Array.ext'; simpa using hcells
          rw [this]
      · exact .slice (pl := ⟨W.heap.size, 0, _, _⟩) hp (.inl rfl)
  · cases ho

end ops
end
end Go.Eng
