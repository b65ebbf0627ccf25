/-
  Operations of the abstract machine go along with those of the model: append, copy, len, max, min.
-/
import Derived.Test.YtbcgpjfjfnnlcaaE8
set_option linter.unusedSimpArgs false
namespace Go.Eng
noncomputable section
variable {P : Program}

theorem growBy_le (newLen : Nat) : ∀ (r c b : Nat), c ≤ b → newLen + (newLen + 768) / 4 ≤ b → Builtin.growBy newLen r c ≤ b
  | 0, c, b, h, _ => h
  | r + 1, c, b, h, hb => by
    unfold Builtin.growBy
    split
    · exact h
    · exact growBy_le newLen r _ b (by omega) hb

theorem nextcap_le (need old : Nat) (h : old < need) : 4 * Builtin.nextslicecap need old ≤ 5 * need + 768 := by
  suffices Builtin.nextslicecap need old ≤ need + (need + 768) / 4 by omega
  unfold Builtin.nextslicecap
  split
  · omega
  · split
    · omega
    · exact growBy_le need 4 old _ (by omega) (by omega)

section
variable {ρ : Ren} {H H' : AH} {W : World}

theorem zero_any {t : TypeId} {z : Value} {w : World} (h : (zeroValue t).run P w = .ok z w) (w' : World) : (zeroValue t).run P w' = .ok z w' := by
  unfold zeroValue at h ⊢
  simp only [Sem.run_bind, typeInfo, run_program, Result.andThen] at h ⊢
  cases hi : P.info? t with
  | none => rw [hi] at h; simp at h
  | some i =>
    rw [hi] at h
    simp only [Sem.run_pure] at h ⊢
    cases hz : i.zero with
    | none => rw [hz] at h; simp at h
    | some v => rw [hz] at h; simp at h ⊢; exact h

theorem appended_sim (h : Rel ρ H W) {elem size m : Nat} {zeros : Bool} {x x' : Value} {new : List Value} (ha : appended P H elem zeros x = .ok (new, m)) (hs : tSize P elem = .ok size) (hx : VR ρ x x') :
    ∃ new', LR ρ new new' ∧ new.length = m * size ∧
      ∀ w : World, w.heap = W.heap → (zeros = true → x' = .int .i64 m ∧ m < 17179869184 ∧ ∃ z, (zeroValue elem).run P w = .ok z w ∧ z.cells.size = size ∧ (Builtin.zeroCells z.cells m) = new'.toArray) ∧
      (zeros = false → (Builtin.lenOf x').run P w = .ok m w ∧ ∀ k, k ≤ m → (Builtin.firstCells size k x').run P w = .ok (new'.take (k * size)).toArray w) := by
  unfold appended at ha
  obtain ⟨size2, h1, ha2⟩ := bok ha
  clear ha
  rw [hs] at h1; cases h1
  cases zeros with
  | true =>
    simp only [if_true] at ha2
    split at ha2
    · split at ha2
      · rename_i n hc
        obtain ⟨zs, h3, h4⟩ := bok ha2
        cases h4
        have hzz := run_zeroValue' h3
        obtain ⟨z, z1, z2, z3, inf, z4, z5⟩ := hzz W
        have hsize : size = inf.size := by obtain ⟨i2, q1, q2⟩ := tSize_info hs; rw [z4] at q1; cases q1; exact q2.symm
        have hz : z.cells.size = size := by rw [hsize, ← z5, ← z2]; simp
        have hg : ∀ m, (repeated zs m).all (gnd gd) = true := by
          intro m
          induction m with
          | zero => rfl
          | succ m ih => simp only [repeated, List.all_append, ih, z3, Bool.and_self]
        refine ⟨repeated zs n.toNat, gnd_list (hg _), by rw [repeated_length, z5, hsize], fun w hw => ⟨fun _ => ⟨?_, by omega, z, ?_, hz, ?_⟩, fun e => by cases e⟩⟩
        · rw [hx.int_inv]; congr 1; omega
        · exact zero_any z1 w
        · apply Array.ext'
          unfold Builtin.zeroCells
          rw [zeros_eq, z2]
      · cases ha2
    · cases ha2
  | false =>
    simp only [Bool.false_eq_true, if_false] at ha2
    split at ha2
    · cases ha2
      cases hx with
      | sliceNil =>
        refine ⟨[], LR.nil ρ, by simp, fun w hw => ⟨fun e => (by cases e), fun _ => ⟨rfl, fun k hk => ?_⟩⟩⟩
        simp [Builtin.firstCells]
    · rename_i id off n c
      obtain ⟨vs, h3, h4⟩ := bok ha2
      cases h4
      unfold readRow at h3
      split at h3
      · rename_i hz
        cases h3
        refine ⟨[], LR.nil ρ, by simp [hz], fun w hw => ⟨fun e => (by cases e), fun _ => ?_⟩⟩
        have hk0 : ∀ k, k ≤ m → k * size = 0 := fun k hk => by
          have := Nat.mul_le_mul_right size hk
          omega
        cases hx with
        | slice hp hc =>
          refine ⟨rfl, fun k hk => ?_⟩
          simp only [Builtin.firstCells, hk0 k hk]
          simp [loadCells, loadCellsFrom]
        | sliceEnd =>
          refine ⟨rfl, fun k hk => ?_⟩
          simp only [Builtin.firstCells, hk0 k hk]
          simp [loadCells, loadCellsFrom]
      · rename_i hz
        obtain ⟨r, h5, h6⟩ := bok h3
        cases hx with
        | slice hp hc =>
          rename_i c' pl
          obtain ⟨vs', e1, e2, e3⟩ := read_row h (AH.row_ok h5) hp h6
          refine ⟨vs', e3, by rw [e3.1, e1], fun w hw => ⟨fun e => (by cases e), fun _ => ⟨rfl, fun k hk => ?_⟩⟩⟩
          have hle := Nat.mul_le_mul_right size hk
          simp only [Builtin.firstCells]
          refine run_loadCells' (by simp; omega) (fun j hj => ?_)
          rw [cell_congr (W := W) (by rw [hw]), e2 j (by omega), List.getElem?_take, if_pos hj]
        | sliceEnd => simp at hz
    · rename_i s
      split at ha2
      · rename_i h1
        cases ha2
        subst h1
        rw [hx.string_inv]
        refine ⟨s.data.toList.map u8v, gnd_list (n := 0) (u8_all _), by simp, fun w hw => ⟨fun e => (by cases e), fun _ => ⟨rfl, fun k hk => ?_⟩⟩⟩
        simp only [Builtin.firstCells, Sem.run_pure]
        congr 1
        apply Array.ext'
        have hu : (fun b : UInt8 => Value.int .u8 b.toNat) = u8v := rfl
        simp [hu, List.map_take]
      · cases ha2
    · cases ha2

/-- what is said of the thing that is appended: its cells -/
structure Apd (P : Program) (W : World) (elem size n bytes : Nat) (xType : Option TypeId) (x : Value) (new : Array Value) : Prop where
  kind : (∃ t k, xType = some t ∧ P.underlying t = some (.int k) ∧ x = .int .i64 n ∧ n < 17179869184 ∧ n * bytes ≤ 281474976710656 ∧ ∃ z, (zeroValue elem).run P W = .ok z W ∧ Builtin.zeroCells z.cells n = new ∧ (n * size = 0 → new = #[])) ∨
    ((∀ t, xType = some t → ∃ d, P.underlying t = some d ∧ ∀ k, d ≠ .int k) ∧ (Builtin.lenOf x).run P W = .ok n W ∧ (Builtin.firstCells size n x).run P W = .ok new W)

theorem append_in {argTypes : Array TypeId} {ty sType elem size n bytes : Nat} {xType : Option TypeId} {base : Option Addr} {sLen sCap : Nat} {x : Value} {inf : TypeInfo} {new : Array Value} {W' : World}
    (h0 : argTypes[0]? = some sType) (h1 : argTypes[1]? = xType) (hu : P.underlying sType = some (.slice elem)) (hs : tSize P elem = .ok size) (hi : P.info? elem = some inf) (hb : inf.bytes = bytes)
    (hap : Apd P W elem size n bytes xType x new) (hle : sLen + n ≤ sCap) (hst : ∀ a, base = some a → (storeCells (a.add (sLen * size)) new.toList).run P W = .ok () W') (hbn : base = none → W' = W) :
    (Builtin.append_ argTypes ty #[.slice base sLen sCap, x]).run P W = .ok (.slice base (sLen + n) sCap) W' := by
  rcases hap.kind with ⟨t, k, rfl, hd, rfl, e2, e3, z, z1, z2, z3⟩ | ⟨hx, hn, hf⟩
  · have w1 : IntKind.i64.wrap (n : Int) = n := by rw [IntKind.wrap_i64]; omega
    have w2 : ¬ ((n : Int) < 0) := by omega
    have w3 : ¬ ((n : Int) * (inf.bytes : Int) > 2 ^ 48) := by
      rw [hb]
      have : (n : Int) * (bytes : Int) = ((n * bytes : Nat) : Int) := by rw [Int.natCast_mul]
      rw [this]
      omega
    unfold Builtin.append_
    simp only [h0, h1, List.getElem?_toArray, List.getElem?_cons_zero, List.getElem?_cons_succ, Sem.run_bind, run_underlying' hu, run_underlying' hd, Result.andThen, run_sizeOf' hs, Sem.run_pure, if_true, asInt, asIntOf, w1, w2, if_false, run_typeInfo' hi, w3, Int.toNat_natCast, Bool.not_true, Bool.false_eq_true, hle]
    by_cases hn : n * size = 0
    · rw [z3 hn] at hst
      simp only [hn, if_true, Sem.run_bind, Sem.run_pure, Result.andThen]
      cases base with
      | none => rw [hbn rfl]; rfl
      | some a => have hst' := hst a rfl; simp only [Sem.run_bind, hst', Result.andThen, Sem.run_pure]
    · simp only [hn, if_false, Sem.run_bind, z1, Sem.run_pure, Result.andThen, z2]
      cases base with
      | none => rw [hbn rfl]; rfl
      | some a => have hst' := hst a rfl; simp only [Sem.run_bind, hst', Result.andThen, Sem.run_pure]
  · unfold Builtin.append_
    cases xType with
    | none =>
      simp only [h0, h1, List.getElem?_toArray, List.getElem?_cons_zero, List.getElem?_cons_succ, Sem.run_bind, run_underlying' hu, Result.andThen, run_sizeOf' hs, Sem.run_pure, Bool.false_eq_true, if_false, hn, Bool.not_false, if_true, hle, hf]
      cases base with
      | none => rw [hbn rfl]; rfl
      | some a => have hst' := hst a rfl; simp only [Sem.run_bind, hst', Result.andThen, Sem.run_pure]
    | some t =>
      obtain ⟨d, hd, hk⟩ := hx t rfl
      have hm : (match d with | .int _ => true | _ => false) = false := by cases d <;> first | rfl | exact absurd rfl (hk _)
      simp only [h0, h1, List.getElem?_toArray, List.getElem?_cons_zero, List.getElem?_cons_succ, Sem.run_bind, run_underlying' hu, run_underlying' hd, hm, Result.andThen, run_sizeOf' hs, Sem.run_pure, Bool.false_eq_true, if_false, hn, Bool.not_false, if_true, hle, hf]
      cases base with
      | none => rw [hbn rfl]; rfl
      | some a => have hst' := hst a rfl; simp only [Sem.run_bind, hst', Result.andThen, Sem.run_pure]

theorem append_new {argTypes : Array TypeId} {ty sType elem size n bytes : Nat} {xType : Option TypeId} {base : Option Addr} {sLen sCap : Nat} {x z : Value} {inf : TypeInfo} {new old : Array Value}
    (h0 : argTypes[0]? = some sType) (h1 : argTypes[1]? = xType) (hu : P.underlying sType = some (.slice elem)) (hs : tSize P elem = .ok size) (hi : P.info? elem = some inf) (hb : inf.bytes = bytes)
    (hap : ∀ w, w.heap = W.heap → Apd P w elem size n bytes xType x new) (hz : ∀ w, (zeroValue elem).run P w = .ok z w) (hlt : sCap < sLen + n) (hb0 : bytes ≠ 0) (hroom : (5 * (sLen + n) + 768) * bytes ≤ 1125899906842624)
    (hold : ∀ w, w.heap = W.heap → (Builtin.firstCells size sLen (.slice base sLen sCap)).run P w = .ok old w) :
    ∃ cap, sLen + n ≤ cap ∧ (Builtin.append_ argTypes ty #[.slice base sLen sCap, x]).run P W = .ok (.slice (some ⟨W.heap.size, 0, none⟩) (sLen + n) cap)
      { W with drawn := W.drawn + 1, heap := W.heap.push (.cells (old ++ new ++ Builtin.zeroCells z.cells (cap - (sLen + n))) elem) } := by
  refine ⟨(Question.appendCap (sLen + n) sCap elem).cut (W.tape W.drawn (.appendCap (sLen + n) sCap elem)), by simp only [Question.cut]; omega, ?_⟩
  generalize hcap : (Question.appendCap (sLen + n) sCap elem).cut (W.tape W.drawn (.appendCap (sLen + n) sCap elem)) = cap
  have hnle : ¬ (sLen + n ≤ sCap) := by omega
  have hpos : 1 ≤ bytes := by omega
  have hm1 : (5 * (sLen + n) + 768) * 1 ≤ (5 * (sLen + n) + 768) * bytes := Nat.mul_le_mul_left _ hpos
  have hg1 : ¬ (((sLen + n : Nat) : Int) > IntKind.i64.max) := by
    have : IntKind.i64.max = 9223372036854775807 := rfl
    rw [this]; omega
  have hg2 : ¬ (Builtin.nextslicecap (sLen + n) sCap * inf.bytes > 2 ^ 48) := by
    rw [hb]
    have := Nat.mul_le_mul_right bytes (nextcap_le (sLen + n) sCap hlt)
    rw [Nat.mul_assoc] at this
    omega
  have hold1' := hold { W with drawn := W.drawn + 1 } rfl
  rcases (hap W rfl).kind with ⟨t, k, rfl, hd, rfl, e2, e3, z', z1', z2, z3⟩ | ⟨hx, hn, _⟩
  · have ez : z' = z := by rw [hz W] at z1'; cases z1'; rfl
    subst ez
    have w1 : IntKind.i64.wrap (n : Int) = n := by rw [IntKind.wrap_i64]; omega
    have w2 : ¬ ((n : Int) < 0) := by omega
    have w3 : ¬ ((n : Int) * (inf.bytes : Int) > 2 ^ 48) := by
      rw [hb]
      have : (n : Int) * (bytes : Int) = ((n * bytes : Nat) : Int) := by rw [Int.natCast_mul]
      rw [this]
      omega
    unfold Builtin.append_
    simp only [h0, h1, List.getElem?_toArray, List.getElem?_cons_zero, List.getElem?_cons_succ, Sem.run_bind, run_underlying' hu, run_underlying' hd, Result.andThen, run_sizeOf' hs, Sem.run_pure, if_true, asInt, asIntOf, w1, w2, if_false, run_typeInfo' hi, w3, Int.toNat_natCast, Bool.not_true, Bool.false_eq_true, hnle, hg1, false_and, hg2, run_choose, Question.forced, hcap, run_askRoom]
    simp only [hold1']
    by_cases hn : n * size = 0
    · simp only [hn, if_true, Sem.run_bind, Sem.run_pure, Result.andThen, hz, run_newRow', z3 hn]
    · simp only [hn, if_false, Sem.run_bind, hz, Sem.run_pure, Result.andThen, z2, run_newRow']
  · have hf1' : (Builtin.firstCells size n x).run P { W with drawn := W.drawn + 1 } = .ok new { W with drawn := W.drawn + 1 } := by
      rcases (hap { W with drawn := W.drawn + 1 } rfl).kind with ⟨t, k, rfl, hd, rfl, _⟩ | ⟨_, _, hf⟩
      · cases hn
      · exact hf
    unfold Builtin.append_
    cases xType with
    | none =>
      simp only [h0, h1, List.getElem?_toArray, List.getElem?_cons_zero, List.getElem?_cons_succ, Sem.run_bind, run_underlying' hu, Result.andThen, run_sizeOf' hs, Sem.run_pure, Bool.false_eq_true, if_false, hn, Bool.not_false, if_true, hnle, hg1, false_and, run_typeInfo' hi, hg2, run_choose, Question.forced, hcap, run_askRoom, hold1', hf1', hz, run_newRow']
    | some t =>
      obtain ⟨d, hd, hk⟩ := hx t rfl
      have hm : (match d with | .int _ => true | _ => false) = false := by cases d <;> first | rfl | exact absurd rfl (hk _)
      simp only [h0, h1, List.getElem?_toArray, List.getElem?_cons_zero, List.getElem?_cons_succ, Sem.run_bind, run_underlying' hu, run_underlying' hd, hm, Result.andThen, run_sizeOf' hs, Sem.run_pure, Bool.false_eq_true, if_false, hn, Bool.not_false, if_true, hnle, hg1, false_and, run_typeInfo' hi, hg2, run_choose, Question.forced, hcap, run_askRoom, hold1', hf1', hz, run_newRow']

theorem apd_of {elem size m bytes : Nat} {zeros : Bool} {xType : Option TypeId} {x' : Value} {new' : List Value} {w : World} (hz : tZeros P xType = .ok zeros) (hlen : new'.length = m * size) (hb : m * bytes ≤ 281474976710656)
    (h : (zeros = true → x' = .int .i64 m ∧ m < 17179869184 ∧ ∃ z, (zeroValue elem).run P w = .ok z w ∧ z.cells.size = size ∧ (Builtin.zeroCells z.cells m) = new'.toArray) ∧
      (zeros = false → (Builtin.lenOf x').run P w = .ok m w ∧ ∀ k, k ≤ m → (Builtin.firstCells size k x').run P w = .ok (new'.take (k * size)).toArray w)) : Apd P w elem size m bytes xType x' new'.toArray := by
  have hno : zeros = false → (∀ t, xType = some t → ∃ d, P.underlying t = some d ∧ ∀ k, d ≠ .int k) → Apd P w elem size m bytes xType x' new'.toArray := fun e hx => by
    obtain ⟨h1, h2⟩ := h.2 e
    have := h2 m (Nat.le_refl _)
    rw [List.take_of_length_le (by omega)] at this
    exact ⟨.inr ⟨hx, h1, this⟩⟩
  unfold tZeros at hz
  cases xType with
  | none => cases hz; exact hno rfl (fun t e => by cases e)
  | some t =>
    simp only at hz
    split at hz
    · rename_i k hd
      cases hz
      obtain ⟨e1, e2, z, e3, e4, e5⟩ := h.1 rfl
      refine ⟨.inl ⟨t, k, rfl, hd, e1, e2, hb, z, e3, e5, fun e => ?_⟩⟩
      have : new' = [] := List.eq_nil_of_length_eq_zero (by omega)
      rw [this]
    · rename_i d hn hd
      cases hz
      exact hno rfl (fun t' e => by cases e; exact ⟨d, hd, fun k e => hn k e⟩)
    · cases hz

theorem append_sim {argTypes : Array TypeId} {ty sType : TypeId} {xType : Option TypeId} {s s' x x' v : Value} (h : Rel ρ H W) (ha : aAppend P H sType xType s x = .ok (v, H')) (hs : VR ρ s s') (hx : VR ρ x x')
    (h0 : argTypes[0]? = some sType) (h1 : argTypes[1]? = xType) : ∃ ρ' W' v', (Builtin.append_ argTypes ty #[s', x']).run P W = .ok v' W' ∧ St ρ H W ρ' H' W' ∧ VR ρ' v v' := by
  unfold aAppend at ha
  split at ha
  case h_2 => cases ha
  rename_i elem hu
  obtain ⟨zeros, hz, ha1⟩ := bok ha
  clear ha
  obtain ⟨size, hsz, ha2⟩ := bok ha1
  clear ha1
  obtain ⟨bytes, hby, ha3⟩ := bok ha2
  clear ha2
  obtain ⟨⟨new, m⟩, happ, ha4⟩ := bok ha3
  clear ha3
  simp only at ha4
  split at ha4
  · cases ha4
  rename_i hmb
  obtain ⟨inf, hi, hib⟩ := tBytes_info hby
  obtain ⟨new', hl, hlen, hall⟩ := appended_sim (W := W) h happ hsz hx
  have hlen' : new'.length = m * size := by rw [← hl.1]; exact hlen
  have hap : ∀ w : World, w.heap = W.heap → Apd P w elem size m bytes xType x' new'.toArray := fun w hw => apd_of hz hlen' (by omega) (hall w hw)
  split at ha4
  · rename_i hm0
    subst hm0
    have hnil : new' = [] := List.eq_nil_of_length_eq_zero (by omega)
    subst hnil
    have key : ∀ base n c, s' = .slice base n c → n ≤ c → (Builtin.append_ argTypes ty #[s', x']).run P W = .ok s' W := fun base n c e hle => by
      subst e
      have := append_in (ty := ty) (sLen := n) (sCap := c) (base := base) (W' := W) h0 h1 hu hsz hi hib (hap W rfl) (by omega) (fun a ha => rfl) (fun _ => rfl)
      exact this
    split at ha4
    · cases ha4
      cases hs with
      | sliceNil => exact ⟨ρ, W, _, key none 0 0 rfl (by omega), St.refl h, .sliceNil⟩
    · split at ha4
      · rename_i a n c hnc
        cases ha4
        cases hs with
        | slice hp hc =>
          rename_i c' pl
          refine ⟨ρ, W, _, key _ _ _ rfl ?_, St.refl h, .slice hp hc⟩
          rcases hc with rfl | ⟨_, hc, _⟩ <;> omega
        | sliceEnd => exact ⟨ρ, W, _, key _ _ _ rfl (by omega), St.refl h, .sliceEnd⟩
      · cases ha4
    · cases ha4
  · rename_i hm0
    split at ha4
    · cases ha4
    rename_i hne
    have hsize0 : size ≠ 0 := fun e => hne (.inl e)
    have hbytes0 : bytes ≠ 0 := fun e => hne (.inr e)
    obtain ⟨zs, hzs, ha5⟩ := bok ha4
    clear ha4
    obtain ⟨z, z1, z2, z3, inf', z4, z5⟩ := run_zeroValue' hzs W
    have hsize : size = inf'.size := by obtain ⟨i2, q1, q2⟩ := tSize_info hsz; rw [z4] at q1; cases q1; exact q2.symm
    have hzc : z.cells.size = size := by rw [hsize, ← z5, ← z2]; simp
    have hzall := zero_any z1
    have hzlen : ∀ k, (Builtin.zeroCells z.cells k).toList.length = k * size := fun k => by
      unfold Builtin.zeroCells
      rw [zeros_eq, repeated_length, ← hzc]
      simp
    split at ha5
    · split at ha5
      case isFalse => cases ha5
      rename_i hroom
      obtain ⟨⟨id, H1⟩, hn, ha6⟩ := bok ha5
      cases ha6
      cases hs with
      | sliceNil =>
        obtain ⟨cap, hcap, hrun⟩ := append_new (ty := ty) (base := none) (sLen := 0) (sCap := 0) (old := #[]) (W := W) h0 h1 hu hsz hi hib hap hzall (by omega) hbytes0 (by simpa using hroom) (fun w _ => by simp [Builtin.firstCells])
        simp only [Nat.zero_add] at hcap hrun
        have hcells : (#[] ++ new'.toArray ++ Builtin.zeroCells z.cells (cap - m)) = (new' ++ (Builtin.zeroCells z.cells (cap - m)).toList).toArray := by
          apply Array.ext'; simp
        have hlenc : (new' ++ (Builtin.zeroCells z.cells (cap - m)).toList).length = cap * size := by
          rw [List.length_append, hlen', hzlen, ← Nat.add_mul]; congr 1; omega
        unfold newRow at hn
        have hidn := (AH.new_ok hn).1
        have hle := Ren.le_with h (⟨W.heap.size, 0, size, (new' ++ (Builtin.zeroCells z.cells (cap - m)).toList).length⟩ : Pl)
        have st := St.new (pl := ⟨W.heap.size, 0, size, (new' ++ (Builtin.zeroCells z.cells (cap - m)).toList).length⟩)
          (W' := { W with drawn := W.drawn + 1, heap := W.heap.push (.cells (new' ++ (Builtin.zeroCells z.cells (cap - m)).toList).toArray elem) }) h hn _ rfl rfl rfl rfl rfl (by
            subst hidn
            refine new_row_or ⟨(0, 0), by simp, fun h => (h rfl).elim, fun _ => rfl⟩ ?_ (by simp [hl.1])
            have : List.take new.length (new' ++ (Builtin.zeroCells z.cells (cap - m)).toList) = new' := by rw [hl.1]; simp
            rw [this]
            exact hl.mono hle)
        refine ⟨_, _, _, by rw [hrun, hcells], st, ?_⟩
        refine .slice (pl := ⟨W.heap.size, 0, size, (new' ++ (Builtin.zeroCells z.cells (cap - m)).toList).length⟩) (by simp only [Ren.with, if_true]) (.inr ⟨hsize0, by omega, ?_⟩)
        show 0 + cap * size ≤ (new' ++ (Builtin.zeroCells z.cells (cap - m)).toList).length
        rw [hlenc]; omega
    · rename_i id off n c
      obtain ⟨r, hrow, ha6⟩ := bok ha5
      clear ha5
      have hr := AH.row_ok hrow
      obtain ⟨pl, hp, hltb, hor⟩ := h.obj id _ hr
      split at ha6
      · cases ha6
      rename_i hro
      have hro' : r.ro = false := by simpa using hro
      split at ha6
      · rename_i hnc
        obtain ⟨H1, hw, ha7⟩ := bok ha6
        cases ha7
        cases hs with
        | slice hp' hc =>
          rename_i c' pl'
          rw [hp] at hp'; cases hp'
          have hcc : c ≤ c' := by rcases hc with rfl | ⟨_, hc, _⟩ <;> omega
          obtain ⟨W', w1, w2⟩ := St.write (P := P) h hw hp hl
          refine ⟨ρ, W', _, append_in (ty := ty) (W' := W') h0 h1 hu hsz hi hib (hap W rfl) (by omega) (fun a ha => ?_) (fun e => by cases e), w2, .slice hp hc⟩
          cases ha
          rw [addr_add, Nat.add_assoc]
          exact w1
        | sliceEnd => omega
      · rename_i hnc
        split at ha6
        case isFalse => cases ha6
        rename_i hroom
        split at ha6
        · cases ha6
        rename_i hplain
        split at ha6
        · cases ha6
        rename_i hesz
        have hesz' : r.esz = size := by simpa using hesz
        obtain ⟨old, hold, ha7⟩ := bok ha6
        clear ha6
        obtain ⟨⟨id', H2⟩, hn, ha8⟩ := bok ha7
        cases ha8
        have hn' : (H.readied id r (r.disp + off + n * size) new.length).new (.row { cells := old ++ new.map some, ty := r.ty, fam := r.fam, disp := r.disp + off, esz := size, ro := false, solo := false }) = .ok (id', H2) := hn
        obtain ⟨ho1, ho2⟩ := takeU_ok hold
        have hdl : (List.drop off r.cells).length = r.cells.length - off := List.length_drop
        have hext := hor.2.1
        have fresh : ∀ (base : Option Addr) (c' : Nat), (∀ w : World, w.heap = W.heap → (Builtin.firstCells size n (.slice base n c')).run P w = .ok ((List.range (n * size)).map fun j => (W.cell? ⟨pl.blk, pl.base + off + j, none⟩).getD undef).toArray w) → c' < n + m →
            ∃ ρ' W' v', (Builtin.append_ argTypes ty #[.slice base n c', x']).run P W = .ok v' W' ∧ St ρ H W ρ' H2 W' ∧ VR ρ' (.slice (some ⟨id', 0, none⟩) (n + m) (n + m)) v' := fun base c' hfc hlt => by
          obtain ⟨cap, hcap, hrun⟩ := append_new (ty := ty) (W := W) h0 h1 hu hsz hi hib hap hzall hlt hbytes0 hroom hfc
          have hoc : ∀ j, j < n * size → ∃ v', W.cell? ⟨pl.blk, pl.base + off + j, none⟩ = some v' := fun j hj => by
            obtain ⟨v', q1, _⟩ := hor.2.2.1 (off + j) (by omega)
            exact ⟨v', by rw [Nat.add_assoc]; exact q1⟩
          have st := St.append_new (old' := (List.range (n * size)).map fun j => (W.cell? ⟨pl.blk, pl.base + off + j, none⟩).getD undef) (new' := new') (rest := (Builtin.zeroCells z.cells (cap - (n + m))).toList) (ty' := elem)
            (W' := { W with drawn := W.drawn + 1, heap := W.heap.push (.cells (((List.range (n * size)).map fun j => (W.cell? ⟨pl.blk, pl.base + off + j, none⟩).getD undef).toArray ++ new'.toArray ++ Builtin.zeroCells z.cells (cap - (n + m))) elem) })
            h hr hp hold hn' (by simp) (fun j hj => by
              obtain ⟨v', q⟩ := hoc j hj
              simp [List.getElem?_map, List.getElem?_range hj, q]) hl (by
              congr 2
              apply Array.ext'; simp) rfl rfl rfl
          refine ⟨_, _, _, hrun, st, .slice (pl := ⟨W.heap.size, 0, size, ((List.range (n * size)).map (fun j => (W.cell? ⟨pl.blk, pl.base + off + j, none⟩).getD undef) ++ new' ++ (Builtin.zeroCells z.cells (cap - (n + m))).toList).length⟩) (by simp only [Ren.with, if_true]) (.inr ⟨hsize0, hcap, ?_⟩)⟩
          simp only [List.length_append, List.length_map, List.length_range, hlen', hzlen, Nat.zero_add, ← Nat.add_mul]
          apply Nat.le_of_eq
          congr 1
          omega
        cases hs with
        | slice hp' hc =>
          rename_i c' pl'
          rw [hp] at hp'; cases hp'
          by_cases hin : n + m ≤ c'
          · rcases hc with rfl | ⟨c1, c2, c3⟩
            · omega
            · have hpe : pl.esz = size := by rw [← hor.1]; exact hesz'
              rw [hpe] at c3
              have hmul : (n + m) * size ≤ c' * size := Nat.mul_le_mul_right size hin
              rw [Nat.add_mul] at hmul
              obtain ⟨W', w1, w2⟩ := St.append_in (P := P) h hr hp hro' hold hn' hl (by simpa using hplain) (by rw [hlen]; omega)
              refine ⟨_, W', _, append_in (ty := ty) (W' := W') h0 h1 hu hsz hi hib (hap W rfl) hin (fun a ha => ?_) (fun e => by cases e), w2, ?_⟩
              · cases ha
                rw [addr_add]
                exact w1
              · have := VR.slice (ρ := ρ.with id' ⟨pl.blk, pl.base + off, size, pl.ext - off⟩) (id := id') (off := 0) (n := n + m) (c := n + m) (c' := c') (pl := ⟨pl.blk, pl.base + off, size, pl.ext - off⟩) (by simp [Ren.with]) (.inr ⟨hsize0, hin, by show 0 + c' * size ≤ pl.ext - off; omega⟩)
                exact this
          · exact fresh _ c' (fun w hw => by
              simp only [Builtin.firstCells]
              refine run_loadCells' (by simp) (fun k hk => ?_)
              obtain ⟨v', q1, _⟩ := hor.2.2.1 (off + k) (by omega)
              rw [cell_congr (W := W) (by rw [hw])]
              have q1' : W.cell? ⟨pl.blk, pl.base + off + k, none⟩ = some v' := by rw [Nat.add_assoc]; exact q1
              simp [List.getElem?_map, List.getElem?_range hk, q1']) (by omega)
        | sliceEnd =>
          exact fresh _ 0 (fun w hw => by
            simp [Builtin.firstCells, loadCells, loadCellsFrom]) (by omega)
    · cases ha5

end
end
end Go.Eng
/-
  Maps, type assertions: the abstract machine goes along with the model.
-/
namespace Go.Eng
noncomputable section
variable {P : Program}

/-! ### Objects that are no rows -/
def AO.isRow : AO → Bool
  | .row _ => true
  | _ => false

theorem St.setObj {ρ : Ren} {H : AH} {W : World} (h : Rel ρ H W) {id : Nat} {o o' : AO} {pl : Pl} (hid : H.get id = some o) (hr : o.isRow = false) (hp : ρ id = some pl) (ob : Obj)
    (ho' : OR ρ { W with heap := W.heap.setIfInBounds pl.blk ob } pl o') : St ρ H W ρ (H.set id o') { W with heap := W.heap.setIfInBounds pl.blk ob } := by
  have hlt := h.lt hid
  obtain ⟨p0, hp0, hblt, _⟩ := h.obj id o hid
  rw [hp] at hp0; cases hp0
  have hoth : ∀ b, b ≠ pl.blk → ({ W with heap := W.heap.setIfInBounds pl.blk ob } : World).heap[b]? = W.heap[b]? := fun b hb => by
    show (W.heap.setIfInBounds pl.blk ob)[b]? = _
    rw [Array.getElem?_setIfInBounds_ne (Ne.symm hb)]
  have hne : ∀ j oj pj, H.get j = some oj → j ≠ id → ρ j = some pj → pj.blk ≠ pl.blk := fun j oj pj hj hji hpj e => by
    obtain ⟨_, rj, _, e2, _⟩ := h.share j id oj o pj pl hj hid hji hpj hp e
    subst e2
    simp [AO.isRow] at hr
  have hold : ∀ j oj, (H.set id o').get j = some oj → j ≠ id → H.get j = some oj := fun j oj hj hji => by rw [AH.get_set, if_neg hji] at hj; exact hj
  have hnew : ∀ oj, (H.set id o').get id = some oj → oj = o' := fun oj hj => by rw [AH.get_set, if_pos rfl] at hj; cases hj; rfl
  refine ⟨Ren.le_refl ρ, ⟨h.dom, h.nxt, fun j oj hj => ?_, fun i j oi oj pi pj hi hj hij hpi hpj hb => ?_⟩, Nat.le_refl _, by simp, fun b hb hnot => ⟨hoth b fun e => hnot ⟨id, o, pl, hid, ?_, hp, e.symm⟩, ?_⟩, rfl, rfl, rfl, fun _ _ => rfl, fun b hb hnot => ?_⟩
  · by_cases hji : j = id
    · subst hji
      rw [hnew oj hj]
      exact ⟨pl, hp, by simpa using hblt, ho'⟩
    · obtain ⟨pj, a, b, c⟩ := h.obj j oj (hold j oj hj hji)
      exact ⟨pj, a, by simpa using b, c.congr (Ren.le_refl ρ) (hoth _ (hne j oj pj (hold j oj hj hji) hji a))⟩
  · by_cases hii : i = id
    · subst hii
      have hji : j ≠ i := Ne.symm hij
      rw [hp] at hpi; cases hpi
      exact absurd hb.symm (hne j oj pj (hold j oj hj hji) hji hpj)
    · by_cases hji : j = id
      · subst hji
        rw [hp] at hpj; cases hpj
        exact absurd hb (hne i oi pi (hold i oi hi hii) hii hpi)
      · exact h.share i j oi oj pi pj (hold i oi hi hii) (hold j oj hj hji) hij hpi hpj hb
  · cases o <;> simp [AO.isRow, AO.rw] at hr ⊢
  · rintro ⟨j, oj, pj, hj, hrw, hpj, hpb⟩
    by_cases hji : j = id
    · subst hji
      refine hnot ⟨j, o, pj, hid, ?_, hpj, hpb⟩
      cases o <;> simp [AO.isRow, AO.rw] at hr ⊢
    · exact hnot ⟨j, oj, pj, hold j oj hj hji, hrw, hpj, hpb⟩
  · rintro ⟨j, oj, pj, hj, hpj, hpb⟩
    by_cases hji : j = id
    · subst hji
      exact hnot ⟨j, o, pj, hid, hpj, hpb⟩
    · exact hnot ⟨j, oj, pj, hold j oj hj hji, hpj, hpb⟩

theorem run_getObj' {W : World} {b : Nat} {o : Obj} (h : W.heap[b]? = some o) (hc : ∀ c t f, o ≠ .cells c t f) : (getObj b).run P W = .ok o W := by
  unfold getObj Sem.run
  rw [h]
  cases o <;> first | rfl | exact absurd rfl (hc _ _ _)

theorem run_setObj' {W : World} {b : Nat} {o o' : Obj} (h : W.heap[b]? = some o) (hc : ∀ c t f, o ≠ .cells c t f) : (setObj b o').run P W = .ok () { W with heap := W.heap.setIfInBounds b o' } := by
  unfold setObj Sem.run
  rw [h]
  cases o <;> first | rfl | exact absurd rfl (hc _ _ _)

/-! ### Maps -/
def KE : List AEnt → List MapEntry → Prop
  | [], [] => True
  | e :: es, c :: cs => c.key = e.key ∧ KE es cs
  | _, _ => False

theorem KE.of : ∀ (es : List AEnt) (cs : List MapEntry), cs.length = es.length → (∀ (i : Nat) (e : AEnt) (c : MapEntry), es[i]? = some e → cs[i]? = some c → c.key = e.key) → KE es cs
  | [], [], _, _ => trivial
  | [], _ :: _, h, _ => by simp at h
  | _ :: _, [], h, _ => by simp at h
  | e :: es, c :: cs, h, hk => ⟨hk 0 e c rfl rfl, KE.of es cs (by simpa using h) (fun i e' c' h1 h2 => hk (i + 1) e' c' (by simpa using h1) (by simpa using h2))⟩

theorem lt_of_get' {α : Type} {l : List α} {i : Nat} {x : α} (h : l[i]? = some x) : i < l.length := by
  rcases Nat.lt_or_ge i l.length with h' | h'
  · exact h'
  · rw [List.getElem?_eq_none h'] at h; cases h

def valOf (cs : List MapEntry) (j : Nat) : Nat × Value := (j, ((cs[j]?).map (·.val)).getD undef)

theorem findNow_eq {d : TypeDesc} {k : Value} : ∀ (es : List AEnt) (cs all : List MapEntry) (i : Nat), KE es cs → (∀ j, all[i + j]? = cs[j]?) → Instr.findNow d k cs i = (aFindNow d k es i).map fun r => r.map (valOf all)
  | [], [], all, i, _, _ => rfl
  | e :: es, c :: cs, all, i, h, ha => by
    obtain ⟨h1, h2⟩ := h
    simp only [Instr.findNow, aFindNow, h1]
    cases Instr.sameNow d k e.key with
    | none => rfl
    | some b =>
      cases b with
      | true =>
        have := ha 0
        simp only [Nat.add_zero, List.getElem?_cons_zero] at this
        simp [valOf, this]
      | false => exact findNow_eq es cs all (i + 1) h2 (fun j => by have := ha (j + 1); rw [show i + 1 + j = i + (j + 1) by omega, this]; simp)
  | [], _ :: _, _, _, h, _ => h.elim
  | _ :: _, [], _, _, h, _ => h.elim

theorem findAsk_eq {t : TypeId} {k : Value} {W : World} : ∀ (es : List AEnt) (cs all : List MapEntry) (i : Nat) (r : Option Nat), KE es cs → (∀ j, all[i + j]? = cs[j]?) → aFindAsk P t k es i = .ok r → (Instr.findAsking t k cs i).run P W = .ok (r.map (valOf all)) W
  | [], [], all, i, r, _, _, h => by simp only [aFindAsk] at h; cases h; rfl
  | e :: es, c :: cs, all, i, r, h, ha, hr => by
    obtain ⟨h1, h2⟩ := h
    simp only [aFindAsk] at hr
    simp only [Instr.findAsking, h1, Sem.run_bind]
    split at hr
    · rename_i hp
      cases hr
      rw [pureRun_ok _ hp W]
      have := ha 0
      simp only [Nat.add_zero, List.getElem?_cons_zero] at this
      simp [Result.andThen, valOf, this]
    · rename_i hp
      rw [pureRun_ok _ hp W]
      simp only [Result.andThen, Bool.false_eq_true, if_false]
      exact findAsk_eq es cs all (i + 1) r h2 (fun j => by have := ha (j + 1); rw [show i + 1 + j = i + (j + 1) by omega, this]; simp) hr
    · cases hr
  | [], _ :: _, _, _, _, h, _, _ => h.elim
  | _ :: _, [], _, _, _, h, _, _ => h.elim

theorem find_eq {t : TypeId} {k : Value} {W : World} {es : List AEnt} {cs : List MapEntry} {r : Option Nat} (hk : KE es cs) (h : aFind P t k es = .ok r) : (Instr.findKey t k cs).run P W = .ok (r.map (valOf cs)) W := by
  unfold aFind at h
  split at h
  · rename_i d hd
    have e := findNow_eq (d := d) (k := k) es cs cs 0 hk (fun j => by rw [Nat.zero_add])
    unfold Instr.findKey
    simp only [Sem.run_bind, run_underlying' hd, Result.andThen, e]
    split at h
    · rename_i r' hr
      cases h
      simp only [hr, Option.map_some, Sem.run_pure]
    · rename_i hr
      simp only [hr, Option.map_none]
      exact findAsk_eq es cs cs 0 r hk (fun j => by rw [Nat.zero_add]) h
  · cases h

theorem tZeroV_ok {t : TypeId} {z : Value} (h : tZeroV P t = .ok z) (W : World) : (zeroValue t).run P W = .ok z W ∧ gnd gd z = true := by
  unfold tZeroV at h
  split at h
  · rename_i i hi
    split at h
    · rename_i v hz
      split at h
      · rename_i hg
        cases h
        exact ⟨by simp [zeroValue, run_typeInfo' hi, Result.andThen, hz], hg⟩
      · cases h
    · cases h
  · cases h

section
variable {a : AAct} {ca : Act} {ρ : Ren} {H H' : AH} {W : World} {v : Value} {rec : Rec} {d : Option Tmp} {ty : TypeId} {ps : String} {af : Array Edge} {gu : Option (Nat × Bool)}

theorem sim_makeMap {t : TypeId} {x : Option Operand} (h : Rel ρ H W) (hx : ∀ y, x = some y → OpE a ca ρ y) (ho : aOp P rec a H ⟨d, .makeMap t x, ty, ps, af, gu⟩ = .ok (v, H')) : Sim1 P ⟨d, .makeMap t x, ty, ps, af, gu⟩ ρ H W ca v H' := by
  have key : ∀ id H1, H.new (.map [] 0) = .ok (id, H1) → (execOp ca.eval ⟨d, .makeMap t x, ty, ps, af, gu⟩).run P W = .ok (.value (.map (some W.heap.size))) { W with heap := W.heap.push (.map #[] 0) } → Sim1 P ⟨d, .makeMap t x, ty, ps, af, gu⟩ ρ H W ca (.map (some id)) H1 := by
    intro id H1 hn hrun
    have st := St.new (pl := ⟨W.heap.size, 0, 0, 0⟩) (W' := { W with heap := W.heap.push (.map #[] 0) }) h hn _ rfl rfl rfl rfl rfl ⟨#[], by simp, rfl, fun i e ce h1 => by simp at h1⟩
    exact ⟨_, _, _, .inl hrun, st, .map (pl := ⟨W.heap.size, 0, 0, 0⟩) (by simp [Ren.with])⟩
  cases x with
  | none =>
    simp only [aOp] at ho
    obtain ⟨⟨id, H1⟩, h1, h2⟩ := bok ho
    cases h2
    refine key id _ h1 ?_
    simp only [execOp, Instr.makeMap, Option.map_none, Sem.run_bind, run_newObj, Result.andThen, Sem.run_pure]
  | some y =>
    simp only [aOp] at ho
    split at ho
    · rename_i k e hu
      obtain ⟨u, h1, h2⟩ := bok ho
      obtain ⟨n, h3, h4⟩ := bok h2
      obtain ⟨⟨id, H1⟩, h5, h6⟩ := bok h4
      cases h6
      have hv := hx y rfl _ h1
      have : ∃ k n, u = .int k n := by
        unfold intOf' at h3
        split at h3
        · exact ⟨_, _, rfl⟩
        · cases h3
      obtain ⟨k2, n2, rfl⟩ := this
      have e2 := hv.int_inv
      refine key id _ h5 ?_
      simp only [execOp, Instr.makeMap, Option.map_some, Sem.run_bind, run_underlying' hu, e2, asInt, run_newObj, Result.andThen, Sem.run_pure]
      rfl
    · cases ho

theorem entries_ok {m m' : Value} {es : List AEnt} (h : Rel ρ H W) (he : aEntries H m = .ok es) (hm : VR ρ m m') : ∃ ces : Array MapEntry,
    ((m' = .map none ∧ ces = #[]) ∨ (∃ b clock, m' = .map (some b) ∧ (getObj b).run P W = .ok (.map ces clock) W)) ∧ ces.toList.length = es.length ∧
    ∀ (i : Nat) (e : AEnt) (ce : MapEntry), es[i]? = some e → ces.toList[i]? = some ce → ce.key = e.key ∧ ce.born = e.born ∧ VR ρ e.val ce.val := by
  unfold aEntries at he
  split at he
  · cases he
    cases hm
    exact ⟨#[], .inl ⟨rfl, rfl⟩, rfl, fun i e ce h1 => by simp at h1⟩
  · rename_i id
    split at he
    · rename_i es' clock hg
      cases he
      cases hm with
      | map hp =>
        obtain ⟨p0, hp0, _, hor⟩ := h.obj _ _ hg
        rw [hp] at hp0; cases hp0
        obtain ⟨ces, h1, h2, h3⟩ := hor
        exact ⟨ces, .inr ⟨_, clock, rfl, run_getObj' h1 (by intro c t f e; cases e)⟩, h2, h3⟩
    · cases he
  · cases he

theorem sim_lookup {t : TypeId} {x i : Operand} {ok : Bool} (h : Rel ρ H W) (hx : OpE a ca ρ x) (hi : OpE a ca ρ i) (ho : aOp P rec a H ⟨d, .lookup t x i ok, ty, ps, af, gu⟩ = .ok (v, H')) : Sim1 P ⟨d, .lookup t x i ok, ty, ps, af, gu⟩ ρ H W ca v H' := by
  simp only [aOp] at ho
  obtain ⟨m, h1, ho⟩ := bok ho
  obtain ⟨k, h2, ho⟩ := bok ho
  obtain ⟨u, h3, ho⟩ := bok ho
  cases ho
  unfold aLookup at h3
  split at h3
  · rename_i kt et hu
    split at h3
    · cases h3
    rename_i hg
    have hg' : gnd gd k = true := by simpa using hg
    obtain ⟨es, h4, h3⟩ := bok h3
    obtain ⟨ck, h5, h3⟩ := bok h3
    obtain ⟨r, h6, h3⟩ := bok h3
    have ek := gnd_eq _ hg' (hi _ h2)
    obtain ⟨ces, c1, c2, c3⟩ := entries_ok (P := P) h h4 (hx _ h1)
    have hke := KE.of es ces.toList c2 (fun i e c a b => (c3 i e c a b).1)
    have hfind := find_eq (W := W) hke h6
    have hemp : ces.isEmpty = es.isEmpty := by
      have : ces.size = es.length := by simpa using c2
      cases es with
      | nil => simp at this; simp [this]
      | cons e es => simp [Array.isEmpty, this]
    have hck := pureRun_ok _ h5 W
    have fin : ∃ v', VR ρ v v' ∧ (Instr.lookup t (ca.eval x) (ca.eval i) ok).run P W = .ok v' W := by
      have key : ∀ v', (match r.map (valOf ces.toList) with
          | some (_, v) => do
            let __x ← pure (v, true)
            pure (if ok = true then Value.tuple #[__x.fst, Value.bool __x.snd] else __x.fst)
          | none => do
            let z ← zeroValue et
            let __x ← pure (z, false)
            pure (if ok = true then Value.tuple #[__x.fst, Value.bool __x.snd] else __x.fst) : Sem Value).run P W = .ok v' W → (Instr.lookup t (ca.eval x) (ca.eval i) ok).run P W = .ok v' W := by
        intro v' hr
        unfold Instr.lookup
        rcases c1 with ⟨e1, e2⟩ | ⟨b, clock, e1, e2⟩
        · subst e2
          rw [e1]
          simp only [Sem.run_bind, run_underlying' hu, Result.andThen, Sem.run_pure, ek, hemp, hck, hfind]
          exact hr
        · rw [e1]
          simp only [Sem.run_bind, run_underlying' hu, Result.andThen, e2, Sem.run_pure, ek, hemp, hck, hfind]
          exact hr
      cases r with
      | some j =>
        simp only at h3
        split at h3
        · rename_i e he
          cases h3
          have hlt : j < ces.toList.length := by rw [c2]; exact lt_of_get' he
          have hc := List.getElem?_eq_getElem hlt
          have hvr := (c3 j e _ he hc).2.2
          refine ⟨if ok = true then .tuple #[(ces.toList[j]).val, .bool true] else (ces.toList[j]).val, ?_, key _ ?_⟩
          · cases ok with
            | true => exact VR.tuple' ((LR.nil ρ).cons (.bool true) |>.cons hvr)
            | false => exact hvr
          · simp only [Option.map_some, valOf, hc, Option.getD_some, Sem.run_bind, Sem.run_pure, Result.andThen]
        · cases h3
      | none =>
        simp only at h3
        obtain ⟨z, h7, h8⟩ := bok h3
        cases h8
        obtain ⟨z1, z2⟩ := tZeroV_ok h7 W
        refine ⟨if ok = true then .tuple #[z, .bool false] else z, ?_, key _ ?_⟩
        · cases ok with
          | true => exact VR.tuple' ((LR.nil ρ).cons (.bool false) |>.cons (gnd_refl _ z2))
          | false => exact gnd_refl _ z2
        · simp only [Option.map_none, Sem.run_bind, z1, Result.andThen, Sem.run_pure]
    obtain ⟨v', hv', hrun⟩ := fin
    exact .same h (v' := v') (by simp only [execOp, Sem.run_bind, hrun, Result.andThen]; rfl) hv'
  · cases h3

theorem sim_mapUpdate {t : TypeId} {m k x : Operand} (h : Rel ρ H W) (hm : OpE a ca ρ m) (hk : OpE a ca ρ k) (hx : OpE a ca ρ x) (ho : aOp P rec a H ⟨d, .mapUpdate t m k x, ty, ps, af, gu⟩ = .ok (v, H')) : Sim1 P ⟨d, .mapUpdate t m k x, ty, ps, af, gu⟩ ρ H W ca v H' := by
  simp only [aOp] at ho
  obtain ⟨mv, h1, ho1⟩ := bok ho
  clear ho
  obtain ⟨kv, h2, ho2⟩ := bok ho1
  clear ho1
  obtain ⟨xv, h3, ho3⟩ := bok ho2
  clear ho2
  obtain ⟨H1, h4, ho4⟩ := bok ho3
  clear ho3
  cases ho4
  unfold aMapUpdate at h4
  split at h4
  case h_2 => cases h4
  rename_i kt et hu
  split at h4
  case h_2 => cases h4
  rename_i mid
  split at h4
  case h_2 => cases h4
  rename_i es clock hg
  split at h4
  · cases h4
  rename_i hgk
  have hg' : gnd gd kv = true := by simpa using hgk
  obtain ⟨ck, h5, h4⟩ := bok h4
  obtain ⟨r, h6, h4⟩ := bok h4
  have ek := gnd_eq _ hg' (hk _ h2)
  have hck := pureRun_ok _ h5 W
  have hmv := hm _ h1
  obtain ⟨mv', hme⟩ : ∃ mv', ca.eval m = mv' := ⟨_, rfl⟩
  rw [hme] at hmv
  cases hmv with
  | map hp =>
    rename_i pl
    obtain ⟨p0, hp0, hblt, hor⟩ := h.obj _ _ hg
    rw [hp] at hp0; cases hp0
    obtain ⟨ces, c1, c2, c3⟩ := hor
    have hke := KE.of es ces.toList c2 (fun i e c a b => (c3 i e c a b).1)
    have hfind := find_eq (W := W) hke h6
    have hget := run_getObj' (P := P) c1 (by intro c t f e; cases e)
    have fin : ∀ (ces' : Array MapEntry) (es' : List AEnt) (clock' : Nat), (execOp ca.eval ⟨d, .mapUpdate t m k x, ty, ps, af, gu⟩).run P W = .ok .skip { W with heap := W.heap.setIfInBounds pl.blk (.map ces' clock') } →
        ces'.toList.length = es'.length → (∀ (i : Nat) (e : AEnt) (ce : MapEntry), es'[i]? = some e → ces'.toList[i]? = some ce → ce.key = e.key ∧ ce.born = e.born ∧ VR ρ e.val ce.val) →
        Sim1 P ⟨d, .mapUpdate t m k x, ty, ps, af, gu⟩ ρ H W ca undef (H.set mid (.map es' clock')) := by
      intro ces' es' clock' hrun hl hrel
      refine ⟨ρ, _, undef, .inr ⟨hrun, rfl⟩, St.setObj (o' := .map es' clock') h hg rfl hp (.map ces' clock') ⟨ces', ?_, hl, hrel⟩, VR.undef _⟩
      simp [hblt]
    cases r with
    | some j =>
      simp only at h4
      split at h4
      case h_2 => cases h4
      rename_i e he
      split at h4
      case isFalse => cases h4
      rename_i hsame
      cases h4
      have hlt : j < ces.size := by
        have : ces.size = es.length := by simpa using c2
        rw [this]
        rcases Nat.lt_or_ge j es.length with h' | h'
        · exact h'
        · rw [List.getElem?_eq_none h'] at he; cases he
      have hcj : ces[j]? = some ces[j] := Array.getElem?_eq_getElem hlt
      have hcl : ces.toList[j]? = some ces[j] := by simp [hlt]
      have hkey := (c3 j e _ he hcl).1
      refine fin (ces.modify j fun e => { e with key := kv, val := ca.eval x }) (es.set j { e with key := kv, val := xv }) clock ?_ (by simp [← c2]) (fun i e' ce' q1 q2 => ?_)
      · have hstay : (Instr.keyThatStays (((ces[j]?).map (·.key)).getD kv) kv).run P W = .ok kv W := by
          unfold Instr.keyThatStays
          simp only [hcj, Option.map_some, Option.getD_some, hkey, hsame, if_true, Sem.run_pure]
        simp only [execOp, Instr.mapUpdate, Sem.run_bind, run_underlying' hu, Result.andThen, hme, hget, ek, hck, hfind, Option.map_some, valOf, hstay, run_setObj' c1 (by intro c t f e; cases e), Sem.run_pure]
      · rw [List.getElem?_set] at q1
        rw [Array.toList_modify, List.getElem?_modify] at q2
        by_cases hij : j = i
        · subst hij
          rw [if_pos rfl] at q1
          split at q1
          · cases q1
            rw [hcl] at q2
            simp at q2
            subst q2
            exact ⟨rfl, (c3 j e _ he hcl).2.1, hx _ h3⟩
          · cases q1
        · rw [if_neg hij] at q1
          simp only [if_neg hij, id_eq, Option.map_id'] at q2
          refine c3 i e' ce' q1 ?_
          cases hq : ces.toList[i]? with
          | none => rw [hq] at q2; simp at q2
          | some c => rw [hq] at q2; simp at q2; rw [q2]
    | none =>
      simp only at h4
      cases h4
      have p1 : (execOp ca.eval ⟨d, .mapUpdate t m k x, ty, ps, af, gu⟩).run P W = .ok .skip { W with heap := W.heap.setIfInBounds pl.blk (.map (ces.push ⟨kv, ca.eval x, clock⟩) (clock + 1)) } := by
        have hset := run_setObj' (P := P) (o' := .map (ces.push ⟨kv, ca.eval x, clock⟩) (clock + 1)) c1 (by intro c t f e; cases e)
        simp only [execOp, Instr.mapUpdate, Sem.run_bind, run_underlying' hu, Result.andThen, hme, hget, ek, hck, hfind, Option.map_none, hset, Sem.run_pure]
      have p2 : (ces.push ⟨kv, ca.eval x, clock⟩).toList.length = (es ++ [(⟨kv, xv, clock⟩ : AEnt)]).length := by simp [← c2]
      refine fin _ _ _ p1 p2 (fun i e' ce' q1 q2 => ?_)
      rw [Array.toList_push] at q2
      by_cases hlt : i < es.length
      · rw [List.getElem?_append_left hlt] at q1
        rw [List.getElem?_append_left (by rw [c2]; exact hlt)] at q2
        exact c3 i e' ce' q1 q2
      · rw [List.getElem?_append_right (by omega)] at q1
        rw [List.getElem?_append_right (by rw [c2]; omega), c2] at q2
        have : i - es.length = 0 := by
          rcases Nat.eq_zero_or_pos (i - es.length) with h' | h'
          · exact h'
          · rw [List.getElem?_eq_none (by simp; omega)] at q1; cases q1
        rw [this] at q1 q2
        have q3 : (⟨kv, xv, clock⟩ : AEnt) = e' := Option.some.inj q1
        have q4 : (⟨kv, ca.eval x, clock⟩ : MapEntry) = ce' := Option.some.inj q2
        subst q3
        subst q4
        exact ⟨rfl, rfl, hx _ h3⟩

theorem sim_range {t : TypeId} {x : Operand} (h : Rel ρ H W) (hx : OpE a ca ρ x) (ho : aOp P rec a H ⟨d, .range t x, ty, ps, af, gu⟩ = .ok (v, H')) : Sim1 P ⟨d, .range t x, ty, ps, af, gu⟩ ρ H W ca v H' := by
  simp only [aOp] at ho
  obtain ⟨u, h1, ho1⟩ := bok ho
  clear ho
  split at ho1
  · rename_i s hu
    obtain ⟨⟨id, H1⟩, h2, h3⟩ := bok ho1
    cases h3
    have e := (hx _ h1).string_inv
    have st := St.new (pl := ⟨W.heap.size, 0, 0, 0⟩) (W' := { W with heap := W.heap.push (.stringIter s 0) }) h h2 _ rfl rfl rfl rfl rfl ⟨rfl, by simp⟩
    have hrun : (execOp ca.eval ⟨d, .range t x, ty, ps, af, gu⟩).run P W = .ok (.value (.pointer (some ⟨W.heap.size, 0, none⟩))) { W with heap := W.heap.push (.stringIter s 0) } := by
      simp only [execOp, Instr.range, Sem.run_bind, run_underlying' hu, Result.andThen, e, run_newObj, Sem.run_pure]
    exact ⟨_, _, _, .inl hrun, st, .ptr (pl := ⟨W.heap.size, 0, 0, 0⟩) (by simp [Ren.with])⟩
  · rename_i hu
    obtain ⟨⟨id, H1⟩, h2, h3⟩ := bok ho1
    cases h3
    have e : ca.eval x = .map none := by
      have := hx _ h1
      generalize ca.eval x = u' at this
      cases this; rfl
    have st := St.new (pl := ⟨W.heap.size, 0, 0, 0⟩) (W' := { W with heap := W.heap.push (.mapIter none 0 #[] 0) }) h h2 _ rfl rfl rfl rfl rfl ⟨rfl, none, 0, #[], 0, by simp, fun _ => rfl, fun id e => by cases e⟩
    have hrun : (execOp ca.eval ⟨d, .range t x, ty, ps, af, gu⟩).run P W = .ok (.value (.pointer (some ⟨W.heap.size, 0, none⟩))) { W with heap := W.heap.push (.mapIter none 0 #[] 0) } := by
      simp only [execOp, Instr.range, Sem.run_bind, run_underlying' hu, Result.andThen, e, run_newObj, Sem.run_pure]
    exact ⟨_, _, _, .inl hrun, st, .ptr (pl := ⟨W.heap.size, 0, 0, 0⟩) (by simp [Ren.with])⟩
  · rename_i m hu
    split at ho1
    · rename_i es clock hg
      obtain ⟨⟨id, H1⟩, h2, h3⟩ := bok ho1
      cases h3
      obtain ⟨pm, hp, hlt, hor⟩ := h.obj _ _ hg
      obtain ⟨ces, c1, c2, c3⟩ := hor
      have e : ca.eval x = .map (some pm.blk) := by
        have := hx _ h1
        generalize ca.eval x = u' at this
        cases this with
        | map hq => rw [hp] at hq; cases hq; rfl
      have hget : (getObj pm.blk).run P W = .ok (.map ces clock) W := run_getObj' c1 (fun _ _ _ e => by cases e)
      have st := St.new (pl := ⟨W.heap.size, 0, 0, 0⟩) (W' := { W with heap := W.heap.push (.mapIter (some pm.blk) clock #[] clock) }) h h2 _ rfl rfl rfl rfl rfl ⟨rfl, some pm.blk, clock, #[], clock, by simp, (fun e => by cases e), fun id' e' => by
        cases e'
        refine ⟨pm, ?_, rfl⟩
        have hdom := h.dom m pm hp
        have hid := (AH.new_ok h2).1
        simp only [Ren.with]
        rw [if_neg (by omega)]; exact hp⟩
      have hrun : (execOp ca.eval ⟨d, .range t x, ty, ps, af, gu⟩).run P W = .ok (.value (.pointer (some ⟨W.heap.size, 0, none⟩))) { W with heap := W.heap.push (.mapIter (some pm.blk) clock #[] clock) } := by
        simp only [execOp, Instr.range, Sem.run_bind, run_underlying' hu, Result.andThen, e, hget, run_newObj, Sem.run_pure]
      exact ⟨_, _, _, .inl hrun, st, .ptr (pl := ⟨W.heap.size, 0, 0, 0⟩) (by simp [Ren.with])⟩
    · cases ho1
  · cases ho1

theorem sim_next {x : Operand} {b : Bool} (h : Rel ρ H W) (hx : OpE a ca ρ x) (ho : aOp P rec a H ⟨d, .next x b, ty, ps, af, gu⟩ = .ok (v, H')) : Sim1 P ⟨d, .next x b, ty, ps, af, gu⟩ ρ H W ca v H' := by
  simp only [aOp] at ho
  obtain ⟨u, h1, ho1⟩ := bok ho
  clear ho
  split at ho1
  · rename_i id
    obtain ⟨pl, hp, e⟩ := (hx _ h1).at
    split at ho1
    · rename_i s pos hg
      obtain ⟨p0, hp0, hlt, hb, hh⟩ := h.obj _ _ hg
      rw [hp] at hp0; cases hp0
      rw [hb] at e
      have hget : (getObj pl.blk).run P W = .ok (.stringIter s pos) W := run_getObj' hh (fun _ _ _ e => by cases e)
      split at ho1
      · rename_i hlt2
        cases ho1
        have st := St.setObj h hg rfl hp (.stringIter s (pos + (Utf8.decode s pos).2)) (o' := .iter s (pos + (Utf8.decode s pos).2)) ⟨hb, by simp [hlt]⟩
        refine ⟨ρ, _, _, .inl ?_, st, VR.tuple' ((LR.nil ρ).cons (.int .i32 (Utf8.decode s pos).1) |>.cons (.int .i64 pos) |>.cons (.bool true))⟩
        have hset := run_setObj' (P := P) (o' := .stringIter s (pos + (Utf8.decode s pos).2)) hh (fun _ _ _ e => by cases e)
        simp only [execOp, Instr.next, e, Sem.run_bind, hget, Result.andThen, hlt2, if_true, hset, Sem.run_pure]
        rfl
      · rename_i hlt2
        cases ho1
        refine .same h (v' := .tuple #[.bool false]) ?_ (VR.tuple' ((LR.nil ρ).cons (.bool false)))
        simp only [execOp, Instr.next, e, Sem.run_bind, hget, Result.andThen, hlt2, if_false, Sem.run_pure]
    · rename_i hg
      obtain ⟨p0, hp0, hlt, hb, m', si, se, la, hh, hm, _⟩ := h.obj _ _ hg
      rw [hp] at hp0; cases hp0
      rw [hb] at e
      rw [hm rfl] at hh
      have hget : (getObj pl.blk).run P W = .ok (.mapIter none si se la) W := run_getObj' hh (fun _ _ _ e => by cases e)
      cases ho1
      refine .same h (v' := .tuple #[.bool false]) ?_ (VR.tuple' ((LR.nil ρ).cons (.bool false)))
      simp only [execOp, Instr.next, e, Sem.run_bind, hget, Result.andThen, Sem.run_pure]
    · rename_i m hg
      obtain ⟨p0, hp0, hlt, hb, m', si, se, la, hh, _, hm⟩ := h.obj _ _ hg
      rw [hp] at hp0; cases hp0
      rw [hb] at e
      obtain ⟨pm, hpm, rfl⟩ := hm m rfl
      have hget : (getObj pl.blk).run P W = .ok (.mapIter (some pm.blk) si se la) W := run_getObj' hh (fun _ _ _ e => by cases e)
      split at ho1
      · rename_i clock hg2
        obtain ⟨pm', hpm', _, ces, c1, c2, _⟩ := h.obj _ _ hg2
        rw [hpm] at hpm'; cases hpm'
        have hces : ces = #[] := by
          have : ces.size = 0 := by simpa using c2
          exact Array.eq_empty_of_size_eq_zero this
        subst hces
        have hget2 : (getObj pm.blk).run P W = .ok (.map #[] clock) W := run_getObj' c1 (fun _ _ _ e => by cases e)
        cases ho1
        refine .same h (v' := .tuple #[.bool false]) ?_ (VR.tuple' ((LR.nil ρ).cons (.bool false)))
        simp [execOp, Instr.next, e, Sem.run_bind, hget, hget2, Result.andThen, Sem.run_pure, run_choose, Question.forced]
      · cases ho1
    · cases ho1
  · cases ho1

theorem sim_typeAssert {x : Operand} {xt t : TypeId} {ok : Bool} (h : Rel ρ H W) (hx : OpE a ca ρ x) (ho : aOp P rec a H ⟨d, .typeAssert x xt t ok, ty, ps, af, gu⟩ = .ok (v, H')) : Sim1 P ⟨d, .typeAssert x xt t ok, ty, ps, af, gu⟩ ρ H W ca v H' := by
  simp only [aOp] at ho
  obtain ⟨u, h1, ho⟩ := bok ho
  obtain ⟨w, h2, ho⟩ := bok ho
  cases ho
  unfold aTypeAssert at h2
  have hu := hx _ h1
  obtain ⟨u', hue⟩ : ∃ u', ca.eval x = u' := ⟨_, rfl⟩
  rw [hue] at hu
  split at h2
  · cases h2
  · rename_i du hni hd
    have hni' : ∀ ms, du ≠ .interface ms := fun ms e => hni ms e
    obtain ⟨v', hv', hrun⟩ : ∃ v', VR ρ v v' ∧ (Instr.typeAssert u' xt t ok).run P W = .ok v' W := by
      unfold Instr.typeAssert
      split at h2
      · rename_i tt vv
        cases hu with
        | iface hvv =>
          rename_i vv'
          split at h2
          · rename_i heq
            subst heq
            cases h2
            refine ⟨if ok then .tuple #[vv', .bool true] else vv', ?_, ?_⟩
            · cases ok with
              | true => exact VR.tuple' ((LR.nil ρ).cons (.bool true) |>.cons hvv)
              | false => exact hvv
            · simp only [Sem.run_bind, run_underlying' hd, Result.andThen]
              cases du <;> first | (exact absurd rfl (hni' _)) | (simp [Sem.run_pure])
          · rename_i hne
            split at h2
            · rename_i hok
              subst hok
              obtain ⟨z, h7, h8⟩ := bok h2
              cases h8
              obtain ⟨z1, z2⟩ := tZeroV_ok h7 W
              refine ⟨_, VR.tuple' ((LR.nil ρ).cons (.bool false) |>.cons (gnd_refl _ z2)), ?_⟩
              simp only [Sem.run_bind, run_underlying' hd, Result.andThen]
              cases du <;> first | (exact absurd rfl (hni' _)) | (simp [hne, z1, Result.andThen])
            · cases h2
      · cases hu
        split at h2
        · rename_i hok
          subst hok
          obtain ⟨z, h7, h8⟩ := bok h2
          cases h8
          obtain ⟨z1, z2⟩ := tZeroV_ok h7 W
          refine ⟨_, VR.tuple' ((LR.nil ρ).cons (.bool false) |>.cons (gnd_refl _ z2)), ?_⟩
          simp only [Sem.run_bind, run_underlying' hd, Result.andThen]
          cases du <;> first | (exact absurd rfl (hni' _)) | (simp [z1, Result.andThen])
        · cases h2
      · cases h2
    exact .same h (v' := v') (by simp only [execOp, hue, Sem.run_bind, hrun, Result.andThen]; rfl) hv'
  · cases h2
end

/-! ### Methods -/
theorem run_method' {t : TypeId} {name : String} {f : FuncId} (h : aMethod P t name = .ok f) (v : Value) (W : World) (k : Nat) : (Go.method (k + 1) t v name).run P W = .ok (f, v) W := by
  unfold aMethod at h
  split at h
  case h_2 => cases h
  rename_i i hi
  split at h
  case h_2 => cases h
  rename_i m hm
  split at h
  case isFalse => cases h
  rename_i hpath
  have hp : m.path.toList = [] := by simpa using hpath
  have hfol : (follow m.path.toList t (.val v)).run P W = .ok (t, .val v) W := by rw [hp]; rfl
  unfold Go.method
  simp only [Sem.run_bind, run_typeInfo' hi, Result.andThen, hm, hfol]
  split at h
  · rename_i f' e hf hu
    cases h
    simp only [hf, Sem.run_bind, receiverAt, run_underlying' hu, Result.andThen, Place.get, Sem.run_pure]
  · cases h
  · cases h
  · rename_i f' du hnp hf hu
    cases h
    have hnp' : ∀ e, du ≠ .pointer e := fun e he => hnp e he
    simp only [hf, Sem.run_bind, receiverAt, run_underlying' hu, Result.andThen]
    cases du <;> first | (exact absurd rfl (hnp' _)) | (simp only [Place.get, Sem.run_pure])
  · cases h

end
end Go.Eng
