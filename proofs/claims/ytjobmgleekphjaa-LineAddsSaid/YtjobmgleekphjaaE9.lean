/-
  Operations of the abstract machine go along with those of the model: append, copy, len, max, min.
-/
import Derived.Test.YtjobmgleekphjaaE8
set_option linter.unusedSimpArgs false
namespace Go.Eng
noncomputable section
variable {P : Program}

theorem growBy_le (newLen : Nat) : ∀ (r c b : Nat), c ≤ b → newLen + (newLen + 768) / 4 ≤ b → Builtin.growBy newLen r c ≤ b
  | 0, c, b, h, _ => h
  | r + 1, c, b, h, hb => by
    unfold Builtin.growBy
    split
    · exact h
    · exact growBy_le newLen r _ b (by omega) hb

theorem nextcap_le (need old : Nat) (h : old < need) : 4 * Builtin.nextslicecap need old ≤ 5 * need + 768 := by
  suffices Builtin.nextslicecap need old ≤ need + (need + 768) / 4 by omega
  unfold Builtin.nextslicecap
  split
  · omega
  · split
    · omega
    · exact growBy_le need 4 old _ (by omega) (by omega)

section
variable {ρ : Ren} {H H' : AH} {W : World}

theorem zero_any {t : TypeId} {z : Value} {w : World} (h : (zeroValue t).run P w = .ok z w) (w' : World) : (zeroValue t).run P w' = .ok z w' := by
  unfold zeroValue at h ⊢
  simp only [Sem.run_bind, typeInfo, run_program, Result.andThen] at h ⊢
  cases hi : P.info? t with
  | none => rw [hi] at h; simp at h
  | some i =>
    rw [hi] at h
    simp only [Sem.run_pure] at h ⊢
    cases hz : i.zero with
    | none => rw [hz] at h; simp at h
    | some v => rw [hz] at h; simp at h ⊢; exact h

theorem appended_sim (h : Rel ρ H W) {elem size m : Nat} {zeros : Bool} {x x' : Value} {new : List Value} (ha : appended P H elem zeros x = .ok (new, m)) (hs : tSize P elem = .ok size) (hx : VR ρ x x') :
    ∃ new', LR ρ new new' ∧ new.length = m * size ∧
      ∀ w : World, w.heap = W.heap → (zeros = true → x' = .int .i64 m ∧ m < 17179869184 ∧ ∃ z, (zeroValue elem).run P w = .ok z w ∧ z.cells.size = size ∧ (Builtin.zeroCells z.cells m) = new'.toArray) ∧
      (zeros = false → (Builtin.lenOf x').run P w = .ok m w ∧ ∀ k, k ≤ m → (Builtin.firstCells size k x').run P w = .ok (new'.take (k * size)).toArray w) := by
  unfold appended at ha
  obtain ⟨size2, h1, ha2⟩ := bok ha
  clear ha
  rw [hs] at h1; cases h1
  cases zeros with
  | true =>
    simp only [if_true] at ha2
    split at ha2
    · split at ha2
      · rename_i n hc
        obtain ⟨zs, h3, h4⟩ := bok ha2
        cases h4
        have hzz := run_zeroValue' h3
        obtain ⟨z, z1, z2, z3, inf, z4, z5⟩ := hzz W
        have hsize : size = inf.size := by obtain ⟨i2, q1, q2⟩ := tSize_info hs; rw [z4] at q1; cases q1; exact q2.symm
        have hz : z.cells.size = size := by rw [hsize, ← z5, ← z2]; simp
        have hg : ∀ m, (repeated zs m).all (gnd gd) = true := by
          intro m
          induction m with
          | zero => rfl
          | succ m ih => simp only [repeated, List.all_append, ih, z3, Bool.and_self]
        refine ⟨repeated zs n.toNat, gnd_list (hg _), by rw [repeated_length, z5, hsize], fun w hw => ⟨fun _ => ⟨?_, by omega, z, ?_, hz, ?_⟩, fun e => by cases e⟩⟩
        · rw [hx.int_inv]; congr 1; omega
        · exact zero_any z1 w
        · apply Array.ext'
          unfold Builtin.zeroCells
          rw [zeros_eq, z2]
      · cases ha2
    · cases ha2
  | false =>
    simp only [Bool.false_eq_true, if_false] at ha2
    split at ha2
    · cases ha2
      cases hx with
      | sliceNil =>
        refine ⟨[], LR.nil ρ, by simp, fun w hw => ⟨fun e => (by cases e), fun _ => ⟨rfl, fun k hk => ?_⟩⟩⟩
        simp [Builtin.firstCells]
    · rename_i id off n c
      obtain ⟨vs, h3, h4⟩ := bok ha2
      cases h4
      unfold readRow at h3
      split at h3
      · rename_i hz
        cases h3
        refine ⟨[], LR.nil ρ, by simp [hz], fun w hw => ⟨fun e => (by cases e), fun _ => ?_⟩⟩
        have hk0 : ∀ k, k ≤ m → k * size = 0 := fun k hk => by
          have := Nat.mul_le_mul_right size hk
          omega
        cases hx with
        | slice hp hc =>
          refine ⟨rfl, fun k hk => ?_⟩
          simp only [Builtin.firstCells, hk0 k hk]
          simp [loadCells, loadCellsFrom]
        | sliceEnd =>
          refine ⟨rfl, fun k hk => ?_⟩
          simp only [Builtin.firstCells, hk0 k hk]
          simp [loadCells, loadCellsFrom]
      · rename_i hz
        obtain ⟨r, h5, h6⟩ := bok h3
        cases hx with
        | slice hp hc =>
          rename_i c' pl
          obtain ⟨vs', e1, e2, e3⟩ := read_row h (AH.row_ok h5) hp h6
          refine ⟨vs', e3, by rw [e3.1, e1], fun w hw => ⟨fun e => (by cases e), fun _ => ⟨rfl, fun k hk => ?_⟩⟩⟩
          have hle := Nat.mul_le_mul_right size hk
          simp only [Builtin.firstCells]
          refine run_loadCells' (by simp; omega) (fun j hj => ?_)
          rw [cell_congr (W := W) (by rw [hw]), e2 j (by omega), List.getElem?_take, if_pos hj]
        | sliceEnd => simp at hz
    · rename_i s
      split at ha2
      · rename_i h1
        cases ha2
        subst h1
        rw [hx.string_inv]
        refine ⟨s.data.toList.map u8v, gnd_list (n := 0) (u8_all _), by simp, fun w hw => ⟨fun e => (by cases e), fun _ => ⟨rfl, fun k hk => ?_⟩⟩⟩
        simp only [Builtin.firstCells, Sem.run_pure]
        congr 1
        apply Array.ext'
        have hu : (fun b : UInt8 => Value.int .u8 b.toNat) = u8v := rfl
        simp [hu, List.map_take]
      · cases ha2
    · cases ha2

/-- what is said of the thing that is appended: its cells -/
structure Apd (P : Program) (W : World) (elem size n bytes : Nat) (xType : Option TypeId) (x : Value) (new : Array Value) : Prop where
  kind : (∃ t k, xType = some t ∧ P.underlying t = some (.int k) ∧ x = .int .i64 n ∧ n < 17179869184 ∧ n * bytes ≤ 281474976710656 ∧ ∃ z, (zeroValue elem).run P W = .ok z W ∧ Builtin.zeroCells z.cells n = new ∧ (n * size = 0 → new = #[])) ∨
    ((∀ t, xType = some t → ∃ d, P.underlying t = some d ∧ ∀ k, d ≠ .int k) ∧ (Builtin.lenOf x).run P W = .ok n W ∧ (Builtin.firstCells size n x).run P W = .ok new W)

theorem append_in {argTypes : Array TypeId} {ty sType elem size n bytes : Nat} {xType : Option TypeId} {base : Option Addr} {sLen sCap : Nat} {x : Value} {inf : TypeInfo} {new : Array Value} {W' : World}
    (h0 : argTypes[0]? = some sType) (h1 : argTypes[1]? = xType) (hu : P.underlying sType = some (.slice elem)) (hs : tSize P elem = .ok size) (hi : P.info? elem = some inf) (hb : inf.bytes = bytes)
    (hap : Apd P W elem size n bytes xType x new) (hle : sLen + n ≤ sCap) (hst : ∀ a, base = some a → (storeCells (a.add (sLen * size)) new.toList).run P W = .ok () W') (hbn : base = none → W' = W) :
    (Builtin.append_ argTypes ty #[.slice base sLen sCap, x]).run P W = .ok (.slice base (sLen + n) sCap) W' := by
  rcases hap.kind with ⟨t, k, rfl, hd, rfl, e2, e3, z, z1, z2, z3⟩ | ⟨hx, hn, hf⟩
  · have w1 : IntKind.i64.wrap (n : Int) = n := by rw [IntKind.wrap_i64]; omega
    have w2 : ¬ ((n : Int) < 0) := by omega
    have w3 : ¬ ((n : Int) * (inf.bytes : Int) > 2 ^ 48) := by
      rw [hb]
      have : (n : Int) * (bytes : Int) = ((n * bytes : Nat) : Int) := by rw [Int.natCast_mul]
      rw [this]
      omega
    unfold Builtin.append_
    simp only [h0, h1, List.getElem?_toArray, List.getElem?_cons_zero, List.getElem?_cons_succ, Sem.run_bind, run_underlying' hu, run_underlying' hd, Result.andThen, run_sizeOf' hs, Sem.run_pure, if_true, asInt, asIntOf, w1, w2, if_false, run_typeInfo' hi, w3, Int.toNat_natCast, Bool.not_true, Bool.false_eq_true, hle]
    by_cases hn : n * size = 0
    · rw [z3 hn] at hst
      simp only [hn, if_true, Sem.run_bind, Sem.run_pure, Result.andThen]
      cases base with
      | none => rw [hbn rfl]; rfl
      | some a => have hst' := hst a rfl; simp only [Sem.run_bind, hst', Result.andThen, Sem.run_pure]
    · simp only [hn, if_false, Sem.run_bind, z1, Sem.run_pure, Result.andThen, z2]
      cases base with
      | none => rw [hbn rfl]; rfl
      | some a => have hst' := hst a rfl; simp only [Sem.run_bind, hst', Result.andThen, Sem.run_pure]
  · unfold Builtin.append_
    cases xType with
    | none =>
      simp only [h0, h1, List.getElem?_toArray, List.getElem?_cons_zero, List.getElem?_cons_succ, Sem.run_bind, run_underlying' hu, Result.andThen, run_sizeOf' hs, Sem.run_pure, Bool.false_eq_true, if_false, hn, Bool.not_false, if_true, hle, hf]
      cases base with
      | none => rw [hbn rfl]; rfl
      | some a => have hst' := hst a rfl; simp only [Sem.run_bind, hst', Result.andThen, Sem.run_pure]
    | some t =>
      obtain ⟨d, hd, hk⟩ := hx t rfl
      have hm : (match d with | .int _ => true | _ => false) = false := by cases d <;> first | rfl | exact absurd rfl (hk _)
      simp only [h0, h1, List.getElem?_toArray, List.getElem?_cons_zero, List.getElem?_cons_succ, Sem.run_bind, run_underlying' hu, run_underlying' hd, hm, Result.andThen, run_sizeOf' hs, Sem.run_pure, Bool.false_eq_true, if_false, hn, Bool.not_false, if_true, hle, hf]
      cases base with
      | none => rw [hbn rfl]; rfl
      | some a => have hst' := hst a rfl; simp only [Sem.run_bind, hst', Result.andThen, Sem.run_pure]

theorem append_new {argTypes : Array TypeId} {ty sType elem size n bytes : Nat} {xType : Option TypeId} {base : Option Addr} {sLen sCap : Nat} {x z : Value} {inf : TypeInfo} {new old : Array Value}
    (h0 : argTypes[0]? = some sType) (h1 : argTypes[1]? = xType) (hu : P.underlying sType = some (.slice elem)) (hs : tSize P elem = .ok size) (hi : P.info? elem = some inf) (hb : inf.bytes = bytes)
    (hap : ∀ w, w.heap = W.heap → Apd P w elem size n bytes xType x new) (hz : ∀ w, (zeroValue elem).run P w = .ok z w) (hlt : sCap < sLen + n) (hb0 : bytes ≠ 0) (hroom : (5 * (sLen + n) + 768) * bytes ≤ 1125899906842624)
    (hold : ∀ w, w.heap = W.heap → (Builtin.firstCells size sLen (.slice base sLen sCap)).run P w = .ok old w) :
    ∃ cap, sLen + n ≤ cap ∧ (Builtin.append_ argTypes ty #[.slice base sLen sCap, x]).run P W = .ok (.slice (some ⟨W.heap.size, 0, none⟩) (sLen + n) cap)
      { W with drawn := W.drawn + 1, heap := W.heap.push (.cells (old ++ new ++ Builtin.zeroCells z.cells (cap - (sLen + n))) elem) } := by
  refine ⟨(Question.appendCap (sLen + n) sCap elem).cut (W.tape W.drawn (.appendCap (sLen + n) sCap elem)), by simp only [Question.cut]; omega, ?_⟩
  generalize hcap : (Question.appendCap (sLen + n) sCap elem).cut (W.tape W.drawn (.appendCap (sLen + n) sCap elem)) = cap
  have hnle : ¬ (sLen + n ≤ sCap) := by omega
  have hpos : 1 ≤ bytes := by omega
  have hm1 : (5 * (sLen + n) + 768) * 1 ≤ (5 * (sLen + n) + 768) * bytes := Nat.mul_le_mul_left _ hpos
  have hg1 : ¬ (((sLen + n : Nat) : Int) > IntKind.i64.max) := by
    have : IntKind.i64.max = 9223372036854775807 := rfl
    rw [this]; omega
  have hg2 : ¬ (Builtin.nextslicecap (sLen + n) sCap * inf.bytes > 2 ^ 48) := by
    rw [hb]
    have := Nat.mul_le_mul_right bytes (nextcap_le (sLen + n) sCap hlt)
    rw [Nat.mul_assoc] at this
    omega
  have hold1' := hold { W with drawn := W.drawn + 1 } rfl
  rcases (hap W rfl).kind with ⟨t, k, rfl, hd, rfl, e2, e3, z', z1', z2, z3⟩ | ⟨hx, hn, _⟩
  · have ez : z' = z := by rw [hz W] at z1'; cases z1'; rfl
    subst ez
    have w1 : IntKind.i64.wrap (n : Int) = n := by rw [IntKind.wrap_i64]; omega
    have w2 : ¬ ((n : Int) < 0) := by omega
    have w3 : ¬ ((n : Int) * (inf.bytes : Int) > 2 ^ 48) := by
      rw [hb]
      have : (n : Int) * (bytes : Int) = ((n * bytes : Nat) : Int) := by rw [Int.natCast_mul]
      rw [this]
      omega
    unfold Builtin.append_
    simp only [h0, h1, List.getElem?_toArray, List.getElem?_cons_zero, List.getElem?_cons_succ, Sem.run_bind, run_underlying' hu, run_underlying' hd, Result.andThen, run_sizeOf' hs, Sem.run_pure, if_true, asInt, asIntOf, w1, w2, if_false, run_typeInfo' hi, w3, Int.toNat_natCast, Bool.not_true, Bool.false_eq_true, hnle, hg1, false_and, hg2, run_choose, Question.forced, hcap, run_askRoom]
    simp only [hold1']
    by_cases hn : n * size = 0
    · simp only [hn, if_true, Sem.run_bind, Sem.run_pure, Result.andThen, hz, run_newRow', z3 hn]
    · simp only [hn, if_false, Sem.run_bind, hz, Sem.run_pure, Result.andThen, z2, run_newRow']
  · have hf1' : (Builtin.firstCells size n x).run P { W with drawn := W.drawn + 1 } = .ok new { W with drawn := W.drawn + 1 } := by
      rcases (hap { W with drawn := W.drawn + 1 } rfl).kind with ⟨t, k, rfl, hd, rfl, _⟩ | ⟨_, _, hf⟩
      · cases hn
      · exact hf
    unfold Builtin.append_
    cases xType with
    | none =>
      simp only [h0, h1, List.getElem?_toArray, List.getElem?_cons_zero, List.getElem?_cons_succ, Sem.run_bind, run_underlying' hu, Result.andThen, run_sizeOf' hs, Sem.run_pure, Bool.false_eq_true, if_false, hn, Bool.not_false, if_true, hnle, hg1, false_and, run_typeInfo' hi, hg2, run_choose, Question.forced, hcap, run_askRoom, hold1', hf1', hz, run_newRow']
    | some t =>
      obtain ⟨d, hd, hk⟩ := hx t rfl
      have hm : (match d with | .int _ => true | _ => false) = false := by cases d <;> first | rfl | exact absurd rfl (hk _)
      simp only [h0, h1, List.getElem?_toArray, List.getElem?_cons_zero, List.getElem?_cons_succ, Sem.run_bind, run_underlying' hu, run_underlying' hd, hm, Result.andThen, run_sizeOf' hs, Sem.run_pure, Bool.false_eq_true, if_false, hn, Bool.not_false, if_true, hnle, hg1, false_and, run_typeInfo' hi, hg2, run_choose, Question.forced, hcap, run_askRoom, hold1', hf1', hz, run_newRow']

theorem apd_of {elem size m bytes : Nat} {zeros : Bool} {xType : Option TypeId} {x' : Value} {new' : List Value} {w : World} (hz : tZeros P xType = .ok zeros) (hlen : new'.length = m * size) (hb : m * bytes ≤ 281474976710656)
    (h : (zeros = true → x' = .int .i64 m ∧ m < 17179869184 ∧ ∃ z, (zeroValue elem).run P w = .ok z w ∧ z.cells.size = size ∧ (Builtin.zeroCells z.cells m) = new'.toArray) ∧
      (zeros = false → (Builtin.lenOf x').run P w = .ok m w ∧ ∀ k, k ≤ m → (Builtin.firstCells size k x').run P w = .ok (new'.take (k * size)).toArray w)) : Apd P w elem size m bytes xType x' new'.toArray := by
  have hno : zeros = false → (∀ t, xType = some t → ∃ d, P.underlying t = some d ∧ ∀ k, d ≠ .int k) → Apd P w elem size m bytes xType x' new'.toArray := fun e hx => by
    obtain ⟨h1, h2⟩ := h.2 e
    have := h2 m (Nat.le_refl _)
    rw [List.take_of_length_le (by omega)] at this
    exact ⟨.inr ⟨hx, h1, this⟩⟩
  unfold tZeros at hz
  cases xType with
  | none => cases hz; exact hno rfl (fun t e => by cases e)
  | some t =>
    simp only at hz
    split at hz
    · rename_i k hd
      cases hz
      obtain ⟨e1, e2, z, e3, e4, e5⟩ := h.1 rfl
      refine ⟨.inl ⟨t, k, rfl, hd, e1, e2, hb, z, e3, e5, fun e => ?_⟩⟩
      have : new' = [] := List.eq_nil_of_length_eq_zero (by omega)
      rw [this]
    · rename_i d hn hd
      cases hz
      exact hno rfl (fun t' e => by cases e; exact ⟨d, hd, fun k e => hn k e⟩)
    · cases hz

theorem append_sim {argTypes : Array TypeId} {ty sType : TypeId} {xType : Option TypeId} {s s' x x' v : Value} (h : Rel ρ H W) (ha : aAppend P H sType xType s x = .ok (v, H')) (hs : VR ρ s s') (hx : VR ρ x x')
    (h0 : argTypes[0]? = some sType) (h1 : argTypes[1]? = xType) : ∃ ρ' W' v', (Builtin.append_ argTypes ty #[s', x']).run P W = .ok v' W' ∧ St ρ H W ρ' H' W' ∧ VR ρ' v v' := by
  unfold aAppend at ha
  split at ha
  case h_2 => cases ha
  rename_i elem hu
  obtain ⟨zeros, hz, ha1⟩ := bok ha
  clear ha
  obtain ⟨size, hsz, ha2⟩ := bok ha1
  clear ha1
  obtain ⟨bytes, hby, ha3⟩ := bok ha2
  clear ha2
  obtain ⟨⟨new, m⟩, happ, ha4⟩ := bok ha3
  clear ha3
  simp only at ha4
  split at ha4
  · cases ha4
  rename_i hmb
  obtain ⟨inf, hi, hib⟩ := tBytes_info hby
  obtain ⟨new', hl, hlen, hall⟩ := appended_sim (W := W) h happ hsz hx
  have hlen' : new'.length = m * size := by rw [← hl.1]; exact hlen
  have hap : ∀ w : World, w.heap = W.heap → Apd P w elem size m bytes xType x' new'.toArray := fun w hw => apd_of hz hlen' (by omega) (hall w hw)
  split at ha4
  · rename_i hm0
    subst hm0
    have hnil : new' = [] := List.eq_nil_of_length_eq_zero (by omega)
    subst hnil
    have key : ∀ base n c, s' = .slice base n c → n ≤ c → (Builtin.append_ argTypes ty #[s', x']).run P W = .ok s' W := fun base n c e hle => by
      subst e
      have := append_in (ty := ty) (sLen := n) (sCap := c) (base := base) (W' := W) h0 h1 hu hsz hi hib (hap W rfl) (by omega) (fun a ha => rfl) (fun _ => rfl)
      exact this
    split at ha4
    · cases ha4
      cases hs with
      | sliceNil => exact ⟨ρ, W, _, key none 0 0 rfl (by omega), St.refl h, .sliceNil⟩
    · split at ha4
      · rename_i a n c hnc
        cases ha4
        cases hs with
        | slice hp hc =>
          rename_i c' pl
          refine ⟨ρ, W, _, key _ _ _ rfl ?_, St.refl h, .slice hp hc⟩
          rcases hc with rfl | ⟨_, hc, _⟩ <;> omega
        | sliceEnd => exact ⟨ρ, W, _, key _ _ _ rfl (by omega), St.refl h, .sliceEnd⟩
      · cases ha4
    · cases ha4
  · rename_i hm0
    split at ha4
    · cases ha4
    rename_i hne
    have hsize0 : size ≠ 0 := fun e => hne (.inl e)
    have hbytes0 : bytes ≠ 0 := fun e => hne (.inr e)
    obtain ⟨zs, hzs, ha5⟩ := bok ha4
    clear ha4
    obtain ⟨z, z1, z2, z3, inf', z4, z5⟩ := run_zeroValue' hzs W
    have hsize : size = inf'.size := by obtain ⟨i2, q1, q2⟩ := tSize_info hsz; rw [z4] at q1; cases q1; exact q2.symm
    have hzc : z.cells.size = size := by rw [hsize, ← z5, ← z2]; simp
    have hzall := zero_any z1
    have hzlen : ∀ k, (Builtin.zeroCells z.cells k).toList.length = k * size := fun k => by
      unfold Builtin.zeroCells
      rw [zeros_eq, repeated_length, ← hzc]
      simp
    split at ha5
    · split at ha5
      case isFalse => cases ha5
      rename_i hroom
      obtain ⟨⟨id, H1⟩, hn, ha6⟩ := bok ha5
      cases ha6
      cases hs with
      | sliceNil =>
        obtain ⟨cap, hcap, hrun⟩ := append_new (ty := ty) (base := none) (sLen := 0) (sCap := 0) (old := #[]) (W := W) h0 h1 hu hsz hi hib hap hzall (by omega) hbytes0 (by simpa using hroom) (fun w _ => by simp [Builtin.firstCells])
        simp only [Nat.zero_add] at hcap hrun
        have hcells : (#[] ++ new'.toArray ++ Builtin.zeroCells z.cells (cap - m)) = (new' ++ (Builtin.zeroCells z.cells (cap - m)).toList).toArray := by
          apply Array.ext'; simp
        have hlenc : (new' ++ (Builtin.zeroCells z.cells (cap - m)).toList).length = cap * size := by
          rw [List.length_append, hlen', hzlen, ← Nat.add_mul]; congr 1; omega
        unfold newRow at hn
        have hidn := (AH.new_ok hn).1
        have hle := Ren.le_with h (⟨W.heap.size, 0, size, (new' ++ (Builtin.zeroCells z.cells (cap - m)).toList).length⟩ : Pl)
        have st := St.new (pl := ⟨W.heap.size, 0, size, (new' ++ (Builtin.zeroCells z.cells (cap - m)).toList).length⟩)
          (W' := { W with drawn := W.drawn + 1, heap := W.heap.push (.cells (new' ++ (Builtin.zeroCells z.cells (cap - m)).toList).toArray elem) }) h hn _ rfl rfl rfl rfl rfl (by
            subst hidn
            refine new_row_or ⟨(0, 0), by simp, fun j _ => by simp⟩ ?_ (by simp [hl.1])
            have : List.take new.length (new' ++ (Builtin.zeroCells z.cells (cap - m)).toList) = new' := by rw [hl.1]; simp
            rw [this]
            exact hl.mono hle)
        refine ⟨_, _, _, by rw [hrun, hcells], st, ?_⟩
        refine .slice (pl := ⟨W.heap.size, 0, size, (new' ++ (Builtin.zeroCells z.cells (cap - m)).toList).length⟩) (by simp only [Ren.with, if_true]) (.inr ⟨hsize0, by omega, ?_⟩)
        show 0 + cap * size ≤ (new' ++ (Builtin.zeroCells z.cells (cap - m)).toList).length
        rw [hlenc]; omega
    · rename_i id off n c
      obtain ⟨r, hrow, ha6⟩ := bok ha5
      clear ha5
      have hr := AH.row_ok hrow
      obtain ⟨pl, hp, hltb, hor⟩ := h.obj id _ hr
      split at ha6
      · cases ha6
      rename_i hro
      have hro' : r.ro = false := by simpa using hro
      split at ha6
      · rename_i hnc
        obtain ⟨H1, hw, ha7⟩ := bok ha6
        cases ha7
        cases hs with
        | slice hp' hc =>
          rename_i c' pl'
          rw [hp] at hp'; cases hp'
          have hcc : c ≤ c' := by rcases hc with rfl | ⟨_, hc, _⟩ <;> omega
          obtain ⟨W', w1, w2⟩ := St.write (P := P) h hw hp hl
          refine ⟨ρ, W', _, append_in (ty := ty) (W' := W') h0 h1 hu hsz hi hib (hap W rfl) (by omega) (fun a ha => ?_) (fun e => by cases e), w2, .slice hp hc⟩
          cases ha
          rw [addr_add, Nat.add_assoc]
          exact w1
        | sliceEnd => omega
      · rename_i hnc
        split at ha6
        case isFalse => cases ha6
        rename_i hroom
        split at ha6
        · cases ha6
        rename_i hplain
        split at ha6
        · cases ha6
        rename_i hesz
        have hesz' : r.esz = size := by simpa using hesz
        obtain ⟨old, hold, ha7⟩ := bok ha6
        clear ha6
        obtain ⟨⟨id', H2⟩, hn, ha8⟩ := bok ha7
        cases ha8
        have hn' : (H.readied id r (r.disp + off + n * size) new.length).new (.row { cells := old ++ new.map some, ty := r.ty, fam := r.fam, disp := r.disp + off, esz := size, ro := false, solo := false }) = .ok (id', H2) := hn
        obtain ⟨ho1, ho2⟩ := takeU_ok hold
        have hdl : (List.drop off r.cells).length = r.cells.length - off := List.length_drop
        have hext := hor.2.1
        have fresh : ∀ (base : Option Addr) (c' : Nat), (∀ w : World, w.heap = W.heap → (Builtin.firstCells size n (.slice base n c')).run P w = .ok ((List.range (n * size)).map fun j => (W.cell? ⟨pl.blk, pl.base + off + j, none⟩).getD undef).toArray w) → c' < n + m →
            ∃ ρ' W' v', (Builtin.append_ argTypes ty #[.slice base n c', x']).run P W = .ok v' W' ∧ St ρ H W ρ' H2 W' ∧ VR ρ' (.slice (some ⟨id', 0, none⟩) (n + m) (n + m)) v' := fun base c' hfc hlt => by
          obtain ⟨cap, hcap, hrun⟩ := append_new (ty := ty) (W := W) h0 h1 hu hsz hi hib hap hzall hlt hbytes0 hroom hfc
          have hoc : ∀ j, j < n * size → ∃ v', W.cell? ⟨pl.blk, pl.base + off + j, none⟩ = some v' := fun j hj => by
            obtain ⟨v', q1, _⟩ := hor.2.2 (off + j) (by omega)
            exact ⟨v', by rw [Nat.add_assoc]; exact q1⟩
          have st := St.append_new (old' := (List.range (n * size)).map fun j => (W.cell? ⟨pl.blk, pl.base + off + j, none⟩).getD undef) (new' := new') (rest := (Builtin.zeroCells z.cells (cap - (n + m))).toList) (ty' := elem)
            (W' := { W with drawn := W.drawn + 1, heap := W.heap.push (.cells (((List.range (n * size)).map fun j => (W.cell? ⟨pl.blk, pl.base + off + j, none⟩).getD undef).toArray ++ new'.toArray ++ Builtin.zeroCells z.cells (cap - (n + m))) elem) })
            h hr hp hold hn' (by simp) (fun j hj => by
              obtain ⟨v', q⟩ := hoc j hj
              simp [List.getElem?_map, List.getElem?_range hj, q]) hl (by
              congr 2
              apply Array.ext'; simp) rfl rfl rfl
          refine ⟨_, _, _, hrun, st, .slice (pl := ⟨W.heap.size, 0, size, ((List.range (n * size)).map (fun j => (W.cell? ⟨pl.blk, pl.base + off + j, none⟩).getD undef) ++ new' ++ (Builtin.zeroCells z.cells (cap - (n + m))).toList).length⟩) (by simp only [Ren.with, if_true]) (.inr ⟨hsize0, hcap, ?_⟩)⟩
          simp only [List.length_append, List.length_map, List.length_range, hlen', hzlen, Nat.zero_add, ← Nat.add_mul]
          apply Nat.le_of_eq
          congr 1
          omega
        cases hs with
        | slice hp' hc =>
          rename_i c' pl'
          rw [hp] at hp'; cases hp'
          by_cases hin : n + m ≤ c'
          · rcases hc with rfl | ⟨c1, c2, c3⟩
            · omega
            · have hpe : pl.esz = size := by rw [← hor.1]; exact hesz'
              rw [hpe] at c3
              have hmul : (n + m) * size ≤ c' * size := Nat.mul_le_mul_right size hin
              rw [Nat.add_mul] at hmul
              obtain ⟨W', w1, w2⟩ := St.append_in (P := P) h hr hp hro' hold hn' hl (by simpa using hplain) (by rw [hlen]; omega)
              refine ⟨_, W', _, append_in (ty := ty) (W' := W') h0 h1 hu hsz hi hib (hap W rfl) hin (fun a ha => ?_) (fun e => by cases e), w2, ?_⟩
              · cases ha
                rw [addr_add]
                exact w1
              · have := VR.slice (ρ := ρ.with id' ⟨pl.blk, pl.base + off, size, pl.ext - off⟩) (id := id') (off := 0) (n := n + m) (c := n + m) (c' := c') (pl := ⟨pl.blk, pl.base + off, size, pl.ext - off⟩) (by simp [Ren.with]) (.inr ⟨hsize0, hin, by show 0 + c' * size ≤ pl.ext - off; omega⟩)
                exact this
          · exact fresh _ c' (fun w hw => by
              simp only [Builtin.firstCells]
              refine run_loadCells' (by simp) (fun k hk => ?_)
              obtain ⟨v', q1, _⟩ := hor.2.2 (off + k) (by omega)
              rw [cell_congr (W := W) (by rw [hw])]
              have q1' : W.cell? ⟨pl.blk, pl.base + off + k, none⟩ = some v' := by rw [Nat.add_assoc]; exact q1
              simp [List.getElem?_map, List.getElem?_range hk, q1']) (by omega)
        | sliceEnd =>
          exact fresh _ 0 (fun w hw => by
            simp [Builtin.firstCells, loadCells, loadCellsFrom]) (by omega)
    · cases ha5

end
end
end Go.Eng
