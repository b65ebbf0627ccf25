/-
  Operations of the abstract machine go along with those of the model: conversions, append, copy, len.
-/
import Derived.Test.YtjobmgleekphjaaE7
set_option linter.unusedSimpArgs false
namespace Go.Eng
noncomputable section
variable {P : Program}

theorem bytesOf_cons {v : Value} {l : List Value} {bs : List UInt8} (h : bytesOf (v :: l) = .ok bs) : ∃ n cs, v = .int .u8 n ∧ bytesOf l = .ok cs ∧ bs = UInt8.ofNat n.toNat :: cs := by
  unfold bytesOf at h
  split at h
  · rename_i e; cases e
  · rename_i n l' e
    cases e
    obtain ⟨cs, h1, h2⟩ := bok h
    cases h2
    exact ⟨n, cs, rfl, h1, rfl⟩
  · cases h

theorem bytesOf_ok (f : Value → ByteArray → Sem (ForInStep ByteArray)) (hf : ∀ n s w, (f (.int .u8 n) s).run P w = .ok (.yield (s.push (UInt8.ofNat n.toNat))) w) : ∀ {l : List Value} {bs : List UInt8}, bytesOf l = .ok bs → ∀ (acc : ByteArray) (w : World),
    (forIn l acc f : Sem ByteArray).run P w = .ok ⟨acc.data ++ bs.toArray⟩ w
  | [], bs, h, acc, w => by
    simp [bytesOf] at h; subst h
    simp
  | v :: l, bs, h, acc, w => by
    obtain ⟨n, cs, rfl, h1, rfl⟩ := bytesOf_cons h
    have := bytesOf_ok f hf h1 (acc.push (UInt8.ofNat n.toNat)) w
    simp only [List.forIn_cons, Sem.run_bind, hf, Result.andThen]
    rw [this]
    simp [ByteArray.push]

theorem bytes_rel {ρ : Ren} : ∀ {l l' : List Value} {bs : List UInt8}, bytesOf l = .ok bs → LR ρ l l' → l' = l
  | [], l', _, _, hl => hl.nil_inv
  | v :: l, l', bs, h, hl => by
    obtain ⟨v', m', rfl, hv, hm⟩ := hl.cons_inv
    obtain ⟨n, cs, rfl, h1, rfl⟩ := bytesOf_cons h
    rw [hv.int_inv, bytes_rel h1 hm]

theorem run_bytesToString {b o n : Nat} {c : Nat} {W : World} {vs : List Value} {bs : List UInt8} (hl : vs.length = n) (h : ∀ k, k < n → W.cell? ⟨b, o + k, none⟩ = vs[k]?) (hb : bytesOf vs = .ok bs) :
    (Conv.bytesToString (.slice (some ⟨b, o, none⟩) n c)).run P W = .ok (.string ⟨bs.toArray⟩) W := by
  unfold Conv.bytesToString
  simp only [Sem.run_bind, run_loadCells' hl h, Result.andThen]
  rw [← Array.forIn_toList]
  rw [bytesOf_ok _ (fun n s w => by rfl) hb]
  simp


theorem u8_all : ∀ l : List UInt8, (l.map u8v).all (gnd 0) = true
  | [] => rfl
  | b :: l => by simp only [List.map_cons, List.all_cons, u8_all l, Bool.and_true]; rfl

theorem run_markStringish (W : World) (cs : Array Value) (e : TypeId) :
    (markStringish ⟨W.heap.size, 0, none⟩).run P { W with heap := W.heap.push (.cells cs e) } = .ok () { W with heap := W.heap.push (.cells cs e (cs.size, cs.size + 1)) } := by
  have hs : ({ W with heap := W.heap.push (.cells cs e) } : World).shape? W.heap.size = some (e, cs.size) := by
    simp [World.shape?]
  unfold markStringish
  simp only [Sem.run_bind, run_shape, hs, Result.andThen, run_freeze]
  have : ({ W with heap := W.heap.push (.cells cs e) } : World).freeze ⟨W.heap.size, cs.size, none⟩ 1 = { W with heap := W.heap.push (.cells cs e (cs.size, cs.size + 1)) } := by
    unfold World.freeze
    rw [if_neg (by omega)]
    congr 1
    apply Array.ext
    · simp
    · intro i h1 h2
      rw [Array.getElem_modify]
      by_cases hi : W.heap.size = i
      · subst hi; simp
      · rw [if_neg hi]
        simp only [Array.size_modify, Array.size_push] at h1
        rw [Array.getElem_push_lt (by omega), Array.getElem_push_lt (by omega)]
  exact congrArg (Result.ok ()) this

theorem run_stringToBytes (e : TypeId) (s : ByteArray) (W : World) : ∃ cap, s.size ≤ cap ∧ (Conv.stringToBytes e s).run P W = .ok (.slice (some ⟨W.heap.size, 0, none⟩) s.size cap)
    { W with drawn := W.drawn + 1, heap := W.heap.push (.cells (s.data.toList.map u8v ++ List.replicate (cap - s.size) (Value.int .u8 0)).toArray e (cap, cap + 1)) } := by
  refine ⟨(Question.appendCap s.size 0 e).cut (W.tape W.drawn (.appendCap s.size 0 e)), by simp only [Question.cut]; omega, ?_⟩
  have hcl : s.size ≤ (Question.appendCap s.size 0 e).cut (W.tape W.drawn (.appendCap s.size 0 e)) := by simp only [Question.cut]; omega
  generalize hcap : (Question.appendCap s.size 0 e).cut (W.tape W.drawn (.appendCap s.size 0 e)) = cap at hcl ⊢
  have hsz : ((s.data.map u8v) ++ Array.replicate (cap - s.size) (Value.int .u8 0)) = ((s.data.toList.map u8v) ++ List.replicate (cap - s.size) (Value.int .u8 0)).toArray := by
    apply Array.ext'; simp
  have hlen : ((s.data.toList.map u8v) ++ List.replicate (cap - s.size) (Value.int .u8 0)).toArray.size = cap := by
    have : s.data.toList.length = s.size := by simp
    simp only [List.size_toArray, List.length_append, List.length_map, List.length_replicate, this]
    omega
  have hm := run_markStringish (P := P) { W with drawn := W.drawn + 1 } ((s.data.toList.map u8v) ++ List.replicate (cap - s.size) (Value.int .u8 0)).toArray e
  rw [hlen] at hm
  have hu : (fun b : UInt8 => Value.int .u8 b.toNat) = u8v := rfl
  simp only [Conv.stringToBytes, Sem.run_bind, run_choose, Question.forced, Bool.false_eq_true, if_false, hcap, Result.andThen, hu, hsz, run_newRow', hm, Sem.run_pure]

section ops
variable {a : AAct} {ca : Act} {ρ : Ren} {H H' : AH} {W : World} {v : Value} {rec : Rec} {d : Option Tmp} {ty : TypeId} {ps : String} {af : Array Edge} {gu : Option (Nat × Bool)}

theorem sim_convert {s t : TypeId} {x : Operand} (h : Rel ρ H W) (hx : OpE a ca ρ x) (ho : aOp P rec a H ⟨d, .convert s t x, ty, ps, af, gu⟩ = .ok (v, H')) : Sim1 P ⟨d, .convert s t x, ty, ps, af, gu⟩ ρ H W ca v H' := by
  simp only [aOp] at ho
  obtain ⟨u, k1, ho1⟩ := bok ho
  clear ho
  have hv := hx _ k1
  obtain ⟨xv, hxe⟩ : ∃ xv, ca.eval x = xv := ⟨_, rfl⟩
  rw [hxe] at hv
  have fin : ∀ v' W', (convert s t xv).run P W = .ok v' W' → (execOp ca.eval ⟨d, .convert s t x, ty, ps, af, gu⟩).run P W = .ok (.value v') W' := fun v' W' e => by
    simp only [execOp, hxe, Sem.run_bind, e, Result.andThen, Sem.run_pure]
  unfold aConvert at ho1
  split at ho1
  · split at ho1
    · rename_i e hs ht
      split at ho1
      · rename_i he
        cases ho1
        cases hv with
        | sliceNil =>
          refine .same h (v' := .string .empty) (fin _ _ ?_) (.string _)
          simp [convert, run_underlying' hs, run_underlying' ht, run_underlying' he, Result.andThen, Conv.bytesToString]
      · cases ho1
    · cases ho1
  · rename_i id off n c
    split at ho1
    · rename_i e hs ht
      split at ho1
      · rename_i he
        obtain ⟨cs, q1, ho2⟩ := bok ho1
        obtain ⟨bs, q2, ho3⟩ := bok ho2
        cases ho3
        have key : ∃ b o c', xv = .slice (some ⟨b, o, none⟩) n c' ∧ cs.length = n ∧ (∀ k, k < n → W.cell? ⟨b, o + k, none⟩ = cs[k]?) ∨ (n = 0 ∧ ∃ a', xv = .slice (some a') 0 0 ∧ cs = []) := by
          cases hv with
          | slice hp hc =>
            rename_i c' pl
            unfold readRow at q1
            by_cases hn : n = 0
            · rw [if_pos hn] at q1; cases q1
              exact ⟨_, _, _, .inl ⟨rfl, hn.symm, fun k hk => by omega⟩⟩
            · rw [if_neg hn] at q1
              obtain ⟨r, q3, q4⟩ := bok q1
              obtain ⟨vs', e1, e2, e3⟩ := read_row h (AH.row_ok q3) hp q4
              have := bytes_rel q2 e3
              subst this
              exact ⟨_, _, _, .inl ⟨rfl, e1, e2⟩⟩
          | sliceEnd =>
            unfold readRow at q1
            rw [if_pos rfl] at q1; cases q1
            exact ⟨0, 0, 0, .inr ⟨rfl, _, rfl, rfl⟩⟩
        obtain ⟨b, o, c', (⟨rfl, e1, e2⟩ | ⟨rfl, a', rfl, rfl⟩)⟩ := key
        · refine .same h (v' := .string ⟨bs.toArray⟩) (fin _ _ ?_) (.string _)
          simp [convert, run_underlying' hs, run_underlying' ht, run_underlying' he, Result.andThen, run_bytesToString e1 e2 q2]
        · refine .same h (v' := .string ⟨bs.toArray⟩) (fin _ _ ?_) (.string _)
          simp [bytesOf] at q2
          subst q2
          simp [convert, run_underlying' hs, run_underlying' ht, run_underlying' he, Result.andThen, Conv.bytesToString, loadCells, loadCellsFrom]
          rfl
      · cases ho1
    · cases ho1
  · rename_i str
    split at ho1
    · rename_i e hs ht
      split at ho1
      · rename_i he
        obtain ⟨⟨id, H1⟩, q1, ho2⟩ := bok ho1
        cases ho2
        rw [hv.string_inv] at hxe fin
        obtain ⟨cap, hcl, hrun⟩ := run_stringToBytes (P := P) e str W
        have hl0 : str.data.toList.length = str.size := by simp
        refine sim_row' (cs' := str.data.toList.map u8v) (rest := List.replicate (cap - str.size) (Value.int .u8 0)) (W1 := W) (W' := { W with drawn := W.drawn + 1, heap := W.heap.push (.cells (str.data.toList.map u8v ++ List.replicate (cap - str.size) (Value.int .u8 0)).toArray e (cap, cap + 1)) }) (v' := .slice (some ⟨W.heap.size, 0, none⟩) str.size cap) h q1 (fz := (cap, cap + 1)) ?_ (fin _ _ ?_) rfl rfl rfl rfl rfl (gnd_list (n := 0) (u8_all _)) (fun ρ' _ hp => ?_)
        · intro j hj
          simp only [List.length_append, List.length_map, List.length_replicate, hl0] at hj
          omega
        · simp only [convert, Sem.run_bind, run_underlying' hs, run_underlying' ht, run_underlying' he, Result.andThen]
          exact hrun
        · refine .slice (pl := ⟨W.heap.size, 0, 1, _⟩) hp (.inr ⟨by simp, hcl, ?_⟩)
          simp only [List.length_append, List.length_map, List.length_replicate, hl0]
          omega
      · cases ho1
    · obtain ⟨r, q1, ho2⟩ := bok ho1
      cases ho2
      obtain ⟨g1, g2⟩ := gOnly_ok q1
      rw [hv.string_inv] at fin
      exact .same h (v' := v) (fin _ _ (pureRun_ok _ g1 W)) (gnd_refl _ g2)
  · obtain ⟨r, q1, ho2⟩ := bok ho1
    cases ho2
    obtain ⟨g1, g2⟩ := gOnly_ok q1
    rw [hv.int_inv] at fin
    exact .same h (v' := v) (fin _ _ (pureRun_ok _ g1 W)) (gnd_refl _ g2)
  · cases ho1

theorem sim_buildSlice {t : TypeId} {n : Nat} {parts : Array (Nat × Operand)} (h : Rel ρ H W) (hx : ∀ p ∈ parts.toList, OpE a ca ρ p.2) (ho : aOp P rec a H ⟨d, .buildSlice t n parts, ty, ps, af, gu⟩ = .ok (v, H')) :
    Sim1 P ⟨d, .buildSlice t n parts, ty, ps, af, gu⟩ ρ H W ca v H' := by
  simp only [aOp] at ho
  split at ho
  · rename_i elem hu
    obtain ⟨qs, h1, ho1⟩ := bok ho
    clear ho
    obtain ⟨size, h2, ho2⟩ := bok ho1
    clear ho1
    split at ho2
    · cases ho2
    · rename_i hsm
      obtain ⟨zs, h3, ho3⟩ := bok ho2
      clear ho2
      split at ho3
      · rename_i cells hf
        obtain ⟨⟨id, H1⟩, h4, ho4⟩ := bok ho3
        cases ho4
        obtain ⟨z, z1, z2, z3, inf, z4, z5⟩ := run_zeroValue' h3 W
        have hsize : size = inf.size := by obtain ⟨i2, q1, q2⟩ := tSize_info h2; rw [z4] at q1; cases q1; exact q2.symm
        have hz : z.cells.size = size := by rw [hsize, ← z5, ← z2]; simp
        obtain ⟨k1, k2⟩ := parts_eval h1 hx
        have hg : ∀ m, (repeated zs m).all (gnd gd) = true := by
          intro m
          induction m with
          | zero => rfl
          | succ m ih => simp only [repeated, List.all_append, ih, z3, Bool.and_self]
        obtain ⟨r', f1, f2⟩ := fill_rel _ qs _ _ (repeated zs n).toArray cells k1 k2 (gnd_list (hg n)) hf
        refine sim_row (cs' := r'.toList) (rest := []) (W1 := W) (W' := { W with heap := W.heap.push (.cells r' elem) }) (v' := .slice (some ⟨W.heap.size, 0, none⟩) n n) h h4 ?_ rfl (by simp) rfl rfl rfl f2 (fun ρ' _ hp => ?_)
        · have hs1 : ¬ (n * size > 2 ^ 24) := hsm
          simp only [execOp, Instr.buildSlice, Sem.run_bind, run_underlying' hu, Result.andThen, run_sizeOf' h2, hs1, if_false]
          by_cases hn : n * size = 0
          · have e0 : ((Array.range 0).map fun x => (#[] : Array Value)[x % (#[] : Array Value).size]!) = (repeated zs n).toArray := by
              have : repeated zs n = [] := List.eq_nil_of_length_eq_zero (by rw [repeated_length, z5, ← hsize]; exact hn)
              rw [this]
              apply Array.eq_empty_of_size_eq_zero; simp
            simp only [hn, if_true, Sem.run_bind, Sem.run_pure, Result.andThen, e0, Array.toList_map, f1, run_newRow']
          · have e0 : ((Array.range (n * size)).map fun x => z.cells[x % z.cells.size]!) = (repeated zs n).toArray := by
              apply Array.ext'
              rw [← hz, zeros_eq, z2]
            simp only [hn, if_false, Sem.run_bind, Sem.run_pure, z1, Result.andThen, e0, Array.toList_map, f1, run_newRow']
        · exact .slice (pl := ⟨W.heap.size, 0, _, _⟩) hp (.inl rfl)
      · cases ho3
  · cases ho

end ops
end
end Go.Eng
