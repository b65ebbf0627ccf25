import Derived.Test.YtfgccgoeiedbnaaX3
set_option maxRecDepth 10000
set_option linter.unusedVariables false
set_option linter.unusedSimpArgs false
namespace Go.Eng.Lift
open Go.Proofs
noncomputable section
theorem w_id {n : Int} (h1 : -9223372036854775808 ≤ n) (h2 : n < 9223372036854775808) : w n = n := by
  unfold w
  first | (rw [wrap64]; omega) | (simp [IntKind.wrap, IntKind.signed, IntKind.bits]; omega)
theorem u64_eq (x : Int) : w_u64 x = x % 18446744073709551616 := rfl
theorem wuN {n : Nat} (h : n < 18446744073709551616) : w_u64 (n : Int) = (n : Int) := by rw [u64_eq]; omega
theorem fdiv32 (a : Nat) : Int.fdiv (a : Int) (2 ^ 32) = ((a / 4294967296 : Nat) : Int) := by
  rw [Int.fdiv_eq_ediv_of_nonneg _ (by decide)]
  show (a : Int) / 4294967296 = _
  omega
theorem band32 {a : Nat} (h : a < 18446744073709551616) : band_u64 (a : Int) 4294967295 = ((a % 4294967296 : Nat) : Int) := by
  unfold band_u64
  have e3 : (BitVec.ofInt 64 (a : Int) &&& BitVec.ofInt 64 4294967295).toNat = a % 4294967296 := by
    rw [BitVec.toNat_and, BitVec.ofInt_natCast, BitVec.toNat_ofNat, Nat.mod_eq_of_lt (by omega)]
    exact Nat.and_two_pow_sub_one_eq_mod a 32
  rw [e3]
  exact wuN (by omega)
theorem t40 (k : Nat) {a b : Nat} (ha : a < 18446744073709551616) (hb : b < 18446744073709551616) : F40 k a b = some (((a * b / 18446744073709551616 : Nat) : Int), ((a * b % 18446744073709551616 : Nat) : Int)) := by
  unfold F40
  rw [fdiv32, fdiv32, band32 ha, band32 hb]
  generalize hx1 : a / 4294967296 = x1
  generalize hx0 : a % 4294967296 = x0
  generalize hy1 : b / 4294967296 = y1
  generalize hy0 : b % 4294967296 = y0
  have hp : a * b = x1 * y1 * 18446744073709551616 + (x1 * y0 + x0 * y1) * 4294967296 + x0 * y0 := by
    have e1 : a = x1 * 4294967296 + x0 := by omega
    have e2 : b = y1 * 4294967296 + y0 := by omega
    rw [e1, e2]
    simp only [Nat.add_mul, Nat.mul_add]
    have : x1 * 4294967296 * (y1 * 4294967296) = x1 * y1 * 18446744073709551616 := by
      rw [Nat.mul_mul_mul_comm]
    have : x1 * 4294967296 * y0 = x1 * y0 * 4294967296 := by rw [Nat.mul_right_comm]
    have : x0 * (y1 * 4294967296) = x0 * y1 * 4294967296 := by rw [Nat.mul_assoc]
    omega
  have q00 : x0 * y0 ≤ 4294967295 * 4294967295 := Nat.mul_le_mul (by omega) (by omega)
  have q10 : x1 * y0 ≤ 4294967295 * 4294967295 := Nat.mul_le_mul (by omega) (by omega)
  have q01 : x0 * y1 ≤ 4294967295 * 4294967295 := Nat.mul_le_mul (by omega) (by omega)
  have q11 : x1 * y1 ≤ 4294967295 * 4294967295 := Nat.mul_le_mul (by omega) (by omega)
  simp only [← Int.natCast_mul]
  rw [hp]
  generalize x0 * y0 = p00 at *
  generalize x1 * y0 = p10 at *
  generalize x0 * y1 = p01 at *
  generalize x1 * y1 = p11 at *
  rw [wuN (n := p00) (by omega), fdiv32, wuN (n := p10) (by omega), ← Int.natCast_add, wuN (n := p10 + p00 / 4294967296) (by omega), fdiv32, band32 (by omega), wuN (n := p01) (by omega), ← Int.natCast_add, wuN (n := (p10 + p00 / 4294967296) % 4294967296 + p01) (by omega), fdiv32, wuN (n := p11) (by omega), ← Int.natCast_add, wuN (by omega), ← Int.natCast_add, u64_eq, u64_eq]
  congr 1
  refine Prod.ext ?_ ?_
  · show ((p11 + (p10 + p00 / 4294967296) / 4294967296 + ((p10 + p00 / 4294967296) % 4294967296 + p01) / 4294967296 : Nat) : Int) % 18446744073709551616 = _
    omega
  · show _ = _
    omega

def tab8 : ByteArray := (ByteArray.mk #[0, 1, 2, 2, 3, 3, 3, 3, 4, 4, 4, 4, 4, 4, 4, 4, 5, 5, 5, 5, 5, 5, 5, 5, 5, 5, 5, 5, 5, 5, 5, 5, 6, 6, 6, 6, 6, 6, 6, 6, 6, 6, 6, 6, 6, 6, 6, 6, 6, 6, 6, 6, 6, 6, 6, 6, 6, 6, 6, 6, 6, 6, 6, 6, 7, 7, 7, 7, 7, 7, 7, 7, 7, 7, 7, 7, 7, 7, 7, 7, 7, 7, 7, 7, 7, 7, 7, 7, 7, 7, 7, 7, 7, 7, 7, 7, 7, 7, 7, 7, 7, 7, 7, 7, 7, 7, 7, 7, 7, 7, 7, 7, 7, 7, 7, 7, 7, 7, 7, 7, 7, 7, 7, 7, 7, 7, 7, 7, 8, 8, 8, 8, 8, 8, 8, 8, 8, 8, 8, 8, 8, 8, 8, 8, 8, 8, 8, 8, 8, 8, 8, 8, 8, 8, 8, 8, 8, 8, 8, 8, 8, 8, 8, 8, 8, 8, 8, 8, 8, 8, 8, 8, 8, 8, 8, 8, 8, 8, 8, 8, 8, 8, 8, 8, 8, 8, 8, 8, 8, 8, 8, 8, 8, 8, 8, 8, 8, 8, 8, 8, 8, 8, 8, 8, 8, 8, 8, 8, 8, 8, 8, 8, 8, 8, 8, 8, 8, 8, 8, 8, 8, 8, 8, 8, 8, 8, 8, 8, 8, 8, 8, 8, 8, 8, 8, 8, 8, 8, 8, 8, 8, 8, 8, 8, 8, 8, 8, 8, 8, 8, 8, 8, 8, 8, 8, 8])
theorem tab_all : ((List.range 256).all fun i => match tab8.data.toList[i]? with
  | some c => decide (c.toNat ≤ 8) && ((i == 0) || (decide (1 ≤ c.toNat) && decide (2 ^ (c.toNat - 1) ≤ i))) && decide (i < 2 ^ c.toNat)
  | none => false) = true := by decide +kernel
theorem tab_at {i : Nat} (h0 : 0 < i) (h : i < 256) {β : Type} (f : Int → Option β) : ∃ t : Nat, bindC tab8 (i : Int) f = f t ∧ 1 ≤ t ∧ t ≤ 8 ∧ 2 ^ (t - 1) ≤ i ∧ i < 2 ^ t := by
  have := List.all_eq_true.1 tab_all i (List.mem_range.2 h)
  unfold bindC
  rw [if_pos (by omega), show (i : Int).toNat = i by omega]
  cases hc : tab8.data.toList[i]? with
  | none => rw [hc] at this; cases this
  | some c =>
    rw [hc] at this
    simp only [Bool.and_eq_true, Bool.or_eq_true, decide_eq_true_eq, beq_iff_eq] at this
    obtain ⟨⟨h1, h2⟩, h3⟩ := this
    rcases h2 with h2 | h2
    · omega
    · exact ⟨c.toNat, rfl, h2.1, h1, h2.2, h3⟩
theorem sh {a m t : Nat} (ht : 1 ≤ t) (h1 : 2 ^ (t - 1) ≤ a / 2 ^ m) (h2 : a / 2 ^ m < 2 ^ t) (hm : m + t ≤ 64) : 9223372036854775808 ≤ a * 2 ^ (64 - (m + t)) ∧ a * 2 ^ (64 - (m + t)) < 18446744073709551616 := by
  have hp : 0 < 2 ^ m := Nat.pow_pos (by decide)
  have k1 : 2 ^ (t - 1) * 2 ^ m ≤ a := by have := (Nat.le_div_iff_mul_le hp).1 h1; exact this
  have k2 : a < 2 ^ t * 2 ^ m := (Nat.div_lt_iff_lt_mul hp).1 h2
  have hq : 0 < 2 ^ (64 - (m + t)) := Nat.pow_pos (by decide)
  constructor
  · have := Nat.mul_le_mul_right (2 ^ (64 - (m + t))) k1
    rw [← Nat.pow_add, ← Nat.pow_add, show t - 1 + m + (64 - (m + t)) = 63 by omega] at this
    exact this
  · have := Nat.mul_lt_mul_of_pos_right k2 hq
    rw [← Nat.pow_add, ← Nat.pow_add, show t + m + (64 - (m + t)) = 64 by omega] at this
    exact this
theorem fdivP (a : Nat) (m : Nat) : Int.fdiv (a : Int) (2 ^ m) = ((a / 2 ^ m : Nat) : Int) := by
  have h : (0 : Int) ≤ 2 ^ m := by have := Int.pow_pos (n := 2) (m := m) (by decide); omega
  rw [Int.fdiv_eq_ediv_of_nonneg _ h, Int.natCast_ediv, Int.natCast_pow]
  rfl
theorem fin44 {m a : Nat} (h0 : 0 < a / 2 ^ m) (h : a / 2 ^ m < 256) (hm : m ≤ 56) : ∃ n : Nat, (bindC tab8 (w_u8 ((a / 2 ^ m : Nat) : Int)) fun v8 => some (w ((m : Int) + w v8))) = some ((n : Int)) ∧ n ≤ 64 ∧ 9223372036854775808 ≤ a * 2 ^ (64 - n) ∧ a * 2 ^ (64 - n) < 18446744073709551616 := by
  have e : w_u8 ((a / 2 ^ m : Nat) : Int) = ((a / 2 ^ m : Nat) : Int) := by show _ % (256 : Int) = _; omega
  rw [e]
  obtain ⟨t, ht, h1, h2, h3, h4⟩ := tab_at h0 h (fun v8 => some (w ((m : Int) + w v8)))
  rw [ht]
  refine ⟨m + t, ?_, by omega, sh h1 h3 h4 (by omega)⟩
  rw [w_id (n := (t : Int)) (by omega) (by omega), w_id (by omega) (by omega)]
  rfl
theorem F44_eq (k : Nat) (a0 : Int) : F44 k a0 = (Option.bind (α := Int × Int) (bif decide (a0 ≥ 4294967296) then (some (Int.fdiv a0 (2 ^ 32), 32)) else (some (a0, 0))) fun (v1, v2) =>
Option.bind (α := Int × Int) (bif decide (v1 ≥ 65536) then (some (Int.fdiv v1 (2 ^ 16), w (v2 + 16))) else (some (v1, v2))) fun (v3, v4) =>
Option.bind (α := Int × Int) (bif decide (v3 ≥ 256) then (some (Int.fdiv v3 (2 ^ 8), w (v4 + 8))) else (some (v3, v4))) fun (v5, v6) =>
bindC tab8 (w_u8 (v5)) fun v8 =>
some (w (v6 + (w (v8))))) := rfl
theorem t44 (k : Nat) {a : Nat} (h0 : 0 < a) (ha : a < 18446744073709551616) : ∃ n : Nat, F44 k a = some (n : Int) ∧ n ≤ 64 ∧ 9223372036854775808 ≤ a * 2 ^ (64 - n) ∧ a * 2 ^ (64 - n) < 18446744073709551616 := by
  have key : ∀ m : Nat, m ≤ 56 → 0 < a / 2 ^ m → a / 2 ^ m < 256 → F44 k a = (bindC tab8 (w_u8 ((a / 2 ^ m : Nat) : Int)) fun v8 => some (w ((m : Int) + w v8))) → _ := fun m hm h1 h2 e => e ▸ fin44 h1 h2 hm
  have d : ∀ (x m : Nat), x / 2 ^ 32 = x / 4294967296 ∧ x / 2 ^ 16 = x / 65536 ∧ x / 2 ^ 8 = x / 256 := fun x m => ⟨rfl, rfl, rfl⟩
  have c1 : ∀ x : Nat, decide ((x : Int) ≥ 4294967296) = decide (4294967296 ≤ x) := fun x => by by_cases h : 4294967296 ≤ x <;> simp [h] <;> omega
  have c2 : ∀ x : Nat, decide ((x : Int) ≥ 65536) = decide (65536 ≤ x) := fun x => by by_cases h : 65536 ≤ x <;> simp [h] <;> omega
  have c3 : ∀ x : Nat, decide ((x : Int) ≥ 256) = decide (256 ≤ x) := fun x => by by_cases h : 256 ≤ x <;> simp [h] <;> omega
  have W : ∀ x : Int, 0 ≤ x → x ≤ 64 → w x = x := fun x h h' => w_id (by omega) (by omega)
  by_cases b1 : 4294967296 ≤ a
  · by_cases b2 : 65536 ≤ a / 2 ^ 32
    · by_cases b3 : 256 ≤ a / 2 ^ 32 / 2 ^ 16
      · refine key 56 (by omega) (by omega) (by omega) ?_
        rw [F44_eq]
        simp only [c1, c2, c3, fdivP, b1, b2, b3, decide_true, cond_true, Option.bind_some]
        rw [Nat.div_div_eq_div_mul, Nat.div_div_eq_div_mul, show (2 : Nat) ^ 32 * 2 ^ 16 * 2 ^ 8 = 2 ^ 56 by decide]
        rfl
      · refine key 48 (by omega) (by omega) (by omega) ?_
        rw [F44_eq]
        simp only [c1, c2, c3, fdivP, b1, b2, b3, decide_true, decide_false, cond_true, cond_false, Option.bind_some]
        rw [Nat.div_div_eq_div_mul, show (2 : Nat) ^ 32 * 2 ^ 16 = 2 ^ 48 by decide]
        rfl
    · by_cases b3 : 256 ≤ a / 2 ^ 32
      · refine key 40 (by omega) (by omega) (by omega) ?_
        rw [F44_eq]
        simp only [c1, c2, c3, fdivP, b1, b2, b3, decide_true, decide_false, cond_true, cond_false, Option.bind_some]
        rw [Nat.div_div_eq_div_mul, show (2 : Nat) ^ 32 * 2 ^ 8 = 2 ^ 40 by decide]
        rfl
      · refine key 32 (by omega) (by omega) (by omega) ?_
        rw [F44_eq]
        simp only [c1, c2, c3, fdivP, b1, b2, b3, decide_true, decide_false, cond_true, cond_false, Option.bind_some]
        rfl
  · by_cases b2 : 65536 ≤ a
    · by_cases b3 : 256 ≤ a / 2 ^ 16
      · refine key 24 (by omega) (by omega) (by omega) ?_
        rw [F44_eq]
        simp only [c1, c2, c3, fdivP, b1, b2, b3, decide_true, decide_false, cond_true, cond_false, Option.bind_some]
        rw [Nat.div_div_eq_div_mul, show (2 : Nat) ^ 16 * 2 ^ 8 = 2 ^ 24 by decide]
        rfl
      · refine key 16 (by omega) (by omega) (by omega) ?_
        rw [F44_eq]
        simp only [c1, c2, c3, fdivP, b1, b2, b3, decide_true, decide_false, cond_true, cond_false, Option.bind_some]
        rfl
    · by_cases b3 : 256 ≤ a
      · refine key 8 (by omega) (by omega) (by omega) ?_
        rw [F44_eq]
        simp only [c1, c2, c3, fdivP, b1, b2, b3, decide_true, decide_false, cond_true, cond_false, Option.bind_some]
        rfl
      · refine key 0 (by omega) (by omega) (by omega) ?_
        rw [F44_eq]
        simp only [c1, c2, c3, fdivP, b1, b2, b3, decide_true, decide_false, cond_true, cond_false, Option.bind_some]
        rw [show (2 : Nat) ^ 0 = 1 from rfl, Nat.div_one]
        rfl
theorem t43 (k : Nat) {a : Nat} (h0 : 0 < a) (ha : a < 18446744073709551616) : ∃ s : Nat, F43 k a = some (s : Int) ∧ s ≤ 63 ∧ 9223372036854775808 ≤ a * 2 ^ s ∧ a * 2 ^ s < 18446744073709551616 := by
  obtain ⟨n, h1, h2, h3, h4⟩ := t44 k h0 ha
  have hn : 64 - n ≤ 63 := by
    rcases Nat.eq_zero_or_pos n with h | h
    · subst h
      have : a * 2 ^ (64 - 0) ≥ 1 * 2 ^ 64 := Nat.mul_le_mul_right _ h0
      omega
    · omega
  refine ⟨64 - n, ?_, hn, h3, h4⟩
  unfold F43
  rw [h1, Option.bind_some, w_id (by omega) (by omega)]
  congr 1
  omega
theorem bor_hi {a b i : Nat} (hb : b < 2 ^ i) (ha : a * 2 ^ i + b < 18446744073709551616) : bor_u64 ((a * 2 ^ i : Nat) : Int) (b : Int) = ((a * 2 ^ i + b : Nat) : Int) := by
  unfold bor_u64
  have e3 : (BitVec.ofInt 64 ((a * 2 ^ i : Nat) : Int) ||| BitVec.ofInt 64 (b : Int)).toNat = a * 2 ^ i + b := by
    rw [BitVec.toNat_or, BitVec.ofInt_natCast, BitVec.ofInt_natCast, BitVec.toNat_ofNat, BitVec.toNat_ofNat, Nat.mod_eq_of_lt (by omega), Nat.mod_eq_of_lt (by omega)]
    rw [Nat.mul_comm a]
    exact (Nat.two_pow_add_eq_or_of_lt hb a).symm
  rw [e3]
  exact wuN ha
theorem lin1 {a b c d e : Nat} (h : a + b < c) (t : d + (a + b) = e + b + c) : e + b < d := by omega
theorem lin2 {a b c d e : Nat} (h : c ≤ a + b) (t : d + (a + b) = e + b + c) : d ≤ e + b := by omega
theorem lin3 {x y U R1 R0 u1 u0 l : Nat} (t1 : x + R1 = U * 4294967296 + u1) (t0 : y + R0 = R1 * 4294967296 + u0) (tl : l = u1 * 4294967296 + u0) : U * 18446744073709551616 + l = x * 4294967296 + y + R0 := by omega
section digit
variable {D d1 d0 u U v r : Nat}
theorem dig_lt (hu : u < 4294967296) (hU : U < D) : (U * 4294967296 + u) / D < 4294967296 := by
  refine (Nat.div_lt_iff_lt_mul (by omega)).2 ?_
  have := Nat.mul_le_mul_right 4294967296 (Nat.succ_le_of_lt hU)
  rw [Nat.succ_mul] at this
  rw [Nat.mul_comm 4294967296]
  omega
theorem dig_mul (hD : D = d1 * 4294967296 + d0) (hv : v * d1 + r = U) : v * D + (r * 4294967296 + u) = U * 4294967296 + u + v * d0 := by
  rw [hD, ← hv, Nat.mul_add, ← Nat.mul_assoc, Nat.add_mul]; omega
theorem dig_gt (hD : D = d1 * 4294967296 + d0) (hU : U < D) (hv : v * d1 + r = U) (h : r * 4294967296 + u < v * d0) : (U * 4294967296 + u) / D < v := by
  refine (Nat.div_lt_iff_lt_mul (by omega)).2 ?_
  exact lin1 h (dig_mul (u := u) hD hv)
theorem dig_le (hD : D = d1 * 4294967296 + d0) (hU : U < D) (hv : v * d1 + r = U) (h : v * d0 ≤ r * 4294967296 + u) : v ≤ (U * 4294967296 + u) / D := by
  refine (Nat.le_div_iff_mul_le (by omega)).2 ?_
  exact lin2 h (dig_mul (u := u) hD hv)
end digit
section loops
variable (k : Nat) {a1 a2 r6 : Int} {D d1 d0 u U : Nat}
theorem t42a (hD' : w_u64 (a2 * 2 ^ (min (Int.toNat (w_u64 (r6))) 64)) = (D : Int)) (hu' : Int.fdiv (w_u64 (a1 * 2 ^ (min (Int.toNat (w_u64 (r6))) 64))) (2 ^ 32) = (u : Int)) (hD : D = d1 * 4294967296 + d0) (hd1 : 2147483648 ≤ d1) (hd1' : d1 < 4294967296) (hd0 : d0 < 4294967296) (hu : u < 4294967296) (hU : U < D) :
    ∀ j v r : Nat, v * d1 + r = U → (U * 4294967296 + u) / D ≤ v → v ≤ 4294967297 → r < 4294967296 → 4294967296 ≤ r + j * 2147483648 → F42_l1 k a1 a2 r6 j v r = some (((U * 4294967296 + u) / D : Nat) : Int)
  | 0, v, r, h1, h2, h3, h4, h5 => by omega
  | j + 1, v, r, h1, h2, h3, h4, h5 => by
    have hq := dig_lt hu hU
    have hle := dig_le (u := u) hD hU h1
    have hgt := dig_gt (u := u) hD hU h1
    have hle' : ∀ v', v' * d1 + (r + d1) = U → v' * d0 ≤ (r + d1) * 4294967296 + u → v' ≤ (U * 4294967296 + u) / D := fun v' q1 q2 => dig_le (u := u) hD hU q1 q2
    generalize hqq : (U * 4294967296 + u) / D = q at *
    unfold F42_l1
    have e1 : band_u64 (D : Int) 4294967295 = (d0 : Int) := by rw [band32 (by omega)]; omega
    have e2 : Int.fdiv (D : Int) (2 ^ 32) = (d1 : Int) := by rw [fdiv32]; omega
    have hvd : v * d0 ≤ 4294967297 * 4294967295 := Nat.mul_le_mul h3 (by omega)
    rw [hD', hu', e1, e2, ← Int.natCast_mul v d0, wuN (n := v * d0) (by omega), show (4294967296 : Int) * (r : Int) = ((4294967296 * r : Nat) : Int) by omega, wuN (n := 4294967296 * r) (by omega), ← Int.natCast_add, wuN (n := 4294967296 * r + u) (by omega), ← Int.natCast_add, wuN (n := r + d1) (by omega)]
    have step : q < v → (bif decide (((r + d1 : Nat) : Int) ≥ 4294967296) then some (w_u64 ((v : Int) - 1)) else F42_l1 k a1 a2 r6 j (w_u64 ((v : Int) - 1)) ((r + d1 : Nat) : Int)) = some (q : Int) := fun hlt => by
      obtain ⟨v', rfl⟩ : ∃ v', v = v' + 1 := ⟨v - 1, by omega⟩
      have hv' : v' * d1 + (r + d1) = U := by rw [Nat.add_mul, Nat.one_mul] at h1; omega
      rw [show (((v' + 1 : Nat) : Int) - 1) = ((v' : Nat) : Int) by omega, wuN (n := v') (by omega)]
      by_cases hr : 4294967296 ≤ r + d1
      · rw [decide_eq_true (by omega), cond_true]
        have := hle' v' hv' (by
          have : v' * d0 ≤ 4294967296 * 4294967295 := Nat.mul_le_mul (by omega) (by omega)
          omega)
        rw [show v' = q by omega]
      · rw [decide_eq_false (by omega), cond_false]
        rw [← hqq]; exact t42a hD' hu' hD hd1 hd1' hd0 hu hU j v' (r + d1) hv' (by rw [hqq]; omega) (by omega) (by omega) (by omega)
    by_cases hv : 4294967296 ≤ v
    · rw [decide_eq_true (show (v : Int) ≥ 4294967296 by omega)]
      exact step (by omega)
    · rw [decide_eq_false (show ¬ (v : Int) ≥ 4294967296 by omega), cond_false, Option.bind_some]
      by_cases hc : r * 4294967296 + u < v * d0
      · rw [decide_eq_true (by omega), cond_true]
        exact step (hgt hc)
      · rw [decide_eq_false (by omega), cond_false]
        have := hle (by omega)
        rw [show v = q by omega]
theorem t42b (hD' : w_u64 (a2 * 2 ^ (min (Int.toNat (w_u64 (r6))) 64)) = (D : Int)) (hu' : band_u64 (w_u64 (a1 * 2 ^ (min (Int.toNat (w_u64 (r6))) 64))) 4294967295 = (u : Int)) (hD : D = d1 * 4294967296 + d0) (hd1 : 2147483648 ≤ d1) (hd1' : d1 < 4294967296) (hd0 : d0 < 4294967296) (hu : u < 4294967296) (hU : U < D) :
    ∀ j v r : Nat, v * d1 + r = U → (U * 4294967296 + u) / D ≤ v → v ≤ 4294967297 → r < 4294967296 → 4294967296 ≤ r + j * 2147483648 → F42_l2 k a1 a2 r6 j r v = some (((U * 4294967296 + u) / D : Nat) : Int)
  | 0, v, r, h1, h2, h3, h4, h5 => by omega
  | j + 1, v, r, h1, h2, h3, h4, h5 => by
    have hq := dig_lt hu hU
    have hle := dig_le (u := u) hD hU h1
    have hgt := dig_gt (u := u) hD hU h1
    have hle' : ∀ v', v' * d1 + (r + d1) = U → v' * d0 ≤ (r + d1) * 4294967296 + u → v' ≤ (U * 4294967296 + u) / D := fun v' q1 q2 => dig_le (u := u) hD hU q1 q2
    generalize hqq : (U * 4294967296 + u) / D = q at *
    unfold F42_l2
    have e1 : band_u64 (D : Int) 4294967295 = (d0 : Int) := by rw [band32 (by omega)]; omega
    have e2 : Int.fdiv (D : Int) (2 ^ 32) = (d1 : Int) := by rw [fdiv32]; omega
    have hvd : v * d0 ≤ 4294967297 * 4294967295 := Nat.mul_le_mul h3 (by omega)
    rw [hD', hu', e1, e2, ← Int.natCast_mul v d0, wuN (n := v * d0) (by omega), show (4294967296 : Int) * (r : Int) = ((4294967296 * r : Nat) : Int) by omega, wuN (n := 4294967296 * r) (by omega), ← Int.natCast_add, wuN (n := 4294967296 * r + u) (by omega), ← Int.natCast_add, wuN (n := r + d1) (by omega)]
    have step : q < v → (bif decide (((r + d1 : Nat) : Int) ≥ 4294967296) then some (w_u64 ((v : Int) - 1)) else F42_l2 k a1 a2 r6 j ((r + d1 : Nat) : Int) (w_u64 ((v : Int) - 1))) = some (q : Int) := fun hlt => by
      obtain ⟨v', rfl⟩ : ∃ v', v = v' + 1 := ⟨v - 1, by omega⟩
      have hv' : v' * d1 + (r + d1) = U := by rw [Nat.add_mul, Nat.one_mul] at h1; omega
      rw [show (((v' + 1 : Nat) : Int) - 1) = ((v' : Nat) : Int) by omega, wuN (n := v') (by omega)]
      by_cases hr : 4294967296 ≤ r + d1
      · rw [decide_eq_true (by omega), cond_true]
        have := hle' v' hv' (by
          have : v' * d0 ≤ 4294967296 * 4294967295 := Nat.mul_le_mul (by omega) (by omega)
          omega)
        rw [show v' = q by omega]
      · rw [decide_eq_false (by omega), cond_false]
        rw [← hqq]; exact t42b hD' hu' hD hd1 hd1' hd0 hu hU j v' (r + d1) hv' (by rw [hqq]; omega) (by omega) (by omega) (by omega)
    by_cases hv : 4294967296 ≤ v
    · rw [decide_eq_true (show (v : Int) ≥ 4294967296 by omega)]
      exact step (by omega)
    · rw [decide_eq_false (show ¬ (v : Int) ≥ 4294967296 by omega), cond_false, Option.bind_some]
      by_cases hc : r * 4294967296 + u < v * d0
      · rw [decide_eq_true (by omega), cond_true]
        exact step (hgt hc)
      · rw [decide_eq_false (by omega), cond_false]
        have := hle (by omega)
        rw [show v = q by omega]
end loops
/-- where a digit's search begins -/
theorem dig0 {D d1 d0 u U : Nat} (hD : D = d1 * 4294967296 + d0) (hd1 : 2147483648 ≤ d1) (hd0 : d0 < 4294967296) (hu : u < 4294967296) (hU : U < D) :
    (U / d1) * d1 + (U - (U / d1) * d1) = U ∧ (U * 4294967296 + u) / D ≤ U / d1 ∧ U / d1 ≤ 4294967297 ∧ U - (U / d1) * d1 < d1 ∧ (U / d1) * d1 ≤ U := by
  have h1 : (U / d1) * d1 ≤ U := Nat.div_mul_le_self _ _
  have h2 : U < (U / d1) * d1 + d1 := by
    have := Nat.lt_div_mul_add (a := U) (b := d1) (by omega); omega
  refine ⟨by omega, ?_, ?_, by omega, h1⟩
  · refine (Nat.le_div_iff_mul_le (by omega)).2 ?_
    have h3 : (U * 4294967296 + u) / D * D ≤ U * 4294967296 + u := Nat.div_mul_le_self _ _
    generalize (U * 4294967296 + u) / D = q at *
    have h4 : q * D = q * d1 * 4294967296 + q * d0 := by rw [hD, Nat.mul_add, Nat.mul_assoc]
    generalize q * d1 = p at *
    have : 0 ≤ q * d0 := Nat.zero_le _
    omega
  · refine Nat.le_of_lt_succ ((Nat.div_lt_iff_lt_mul (by omega)).2 ?_)
    have : (4294967297 + 1) * d1 = 4294967296 * d1 + 2 * d1 := by rw [← Nat.add_mul]
    show U < (4294967297 + 1) * d1
    omega
theorem t42 (k : Nat) (hk : 4 ≤ k) {hi lo y : Nat} (hlt : hi < y) (hlo : lo < 18446744073709551616) (hy : y < 18446744073709551616) :
    F42 k hi lo y = some ((((hi * 18446744073709551616 + lo) / y : Nat) : Int), (((hi * 18446744073709551616 + lo) % y : Nat) : Int)) := by
  unfold F42
  rw [show ((y : Int) == 0) = false by rw [beq_eq_false_iff_ne]; omega, cond_false, decide_eq_false (show ¬ (y : Int) ≤ hi by omega), cond_false]
  by_cases h0 : hi = 0
  · subst h0
    have e0 : (((0 : Nat) : Int) == 0) = true := rfl
    rw [e0, cond_true]
    unfold bindD
    have hle : lo / y ≤ lo := Nat.div_le_self _ _
    rw [if_neg (by omega), if_neg (by omega), Nat.zero_mul, Nat.zero_add, ← Int.ofNat_tdiv, ← Int.ofNat_tmod, wuN (by omega)]
  · rw [show ((hi : Int) == 0) = false by rw [beq_eq_false_iff_ne]; omega, cond_false]
    obtain ⟨s, e43, hs, hn1, hn2⟩ := t43 k (a := y) (by omega) hy
    rw [e43, Option.bind_some, wuN (n := s) (by omega), show w_u64 (64 - (s : Int)) = ((64 - s : Nat) : Int) by rw [show (64 - (s : Int)) = ((64 - s : Nat) : Int) by omega]; exact wuN (by omega)]
    have hm1 : min (Int.toNat ((s : Nat) : Int)) 64 = s := by rw [Int.toNat_natCast]; omega
    have hm2 : min (Int.toNat ((64 - s : Nat) : Int)) 64 = 64 - s := by rw [Int.toNat_natCast]; omega
    have hT : (2 : Nat) ^ (64 - s) * 2 ^ s = 18446744073709551616 := by rw [← Nat.pow_add, show 64 - s + s = 64 by omega]
    have hSp : 0 < 2 ^ s := Nat.pow_pos (by decide)
    generalize hS : 2 ^ s = S at *
    have hSi : (2 : Int) ^ s = (S : Int) := by rw [← hS, Int.natCast_pow]; rfl
    -- the numbers, moved
    have hU1 : hi * S + S ≤ y * S := by have := Nat.mul_le_mul_right S (Nat.succ_le_of_lt hlt); rw [Nat.succ_mul] at this; exact this
    have hdl : lo / 2 ^ (64 - s) < S := by
      refine (Nat.div_lt_iff_lt_mul (Nat.pow_pos (by decide))).2 ?_
      rw [Nat.mul_comm, hT]; exact hlo
    have hdl2 : lo * S / 18446744073709551616 = lo / 2 ^ (64 - s) := by
      rw [← hT]; exact Nat.mul_div_mul_right _ _ hSp
    have eU : bor_u64 (w_u64 ((hi : Int) * 2 ^ s)) (Int.fdiv (lo : Int) (2 ^ (64 - s))) = ((hi * S + lo / 2 ^ (64 - s) : Nat) : Int) := by
      rw [hSi, ← Int.natCast_mul, wuN (n := hi * S) (by omega), fdivP, ← hS]
      exact bor_hi (by rw [hS]; exact hdl) (by rw [hS]; omega)
    generalize hU : hi * S + lo / 2 ^ (64 - s) = U at *
    have eD : w_u64 ((y : Int) * 2 ^ s) = ((y * S : Nat) : Int) := by rw [hSi, ← Int.natCast_mul, wuN (n := y * S) (by omega)]
    have eL : w_u64 ((lo : Int) * 2 ^ s) = ((lo * S % 18446744073709551616 : Nat) : Int) := by rw [hSi, ← Int.natCast_mul, u64_eq]; omega
    have hfull : (hi * 18446744073709551616 + lo) * S = U * 18446744073709551616 + lo * S % 18446744073709551616 := by
      rw [← hU, Nat.add_mul, Nat.add_mul, Nat.mul_right_comm, ← hdl2]; omega
    obtain ⟨full, hfl⟩ : ∃ x, hi * 18446744073709551616 + lo = x := ⟨_, rfl⟩
    rw [hfl] at hfull ⊢
    have hUD : U < y * S := by omega
    generalize hL : lo * S % 18446744073709551616 = l at *
    have hl : l < 18446744073709551616 := by omega
    have hdiv : full / y = full * S / (y * S) := (Nat.mul_div_mul_right _ _ hSp).symm
    have hmod : full % y = full * S % (y * S) / S := by rw [Nat.mul_mod_mul_right, Nat.mul_div_cancel _ hSp]
    generalize hDD : y * S = D at *
    rw [hm1, hm2, eU, eD, eL]
    -- two digits
    obtain ⟨u1, hu1⟩ : ∃ u1, l / 4294967296 = u1 := ⟨_, rfl⟩
    obtain ⟨u0, hu0⟩ : ∃ u0, l % 4294967296 = u0 := ⟨_, rfl⟩
    obtain ⟨d1, hd1⟩ : ∃ d1, D / 4294967296 = d1 := ⟨_, rfl⟩
    obtain ⟨d0, hd0⟩ : ∃ d0, D % 4294967296 = d0 := ⟨_, rfl⟩
    have hD : D = d1 * 4294967296 + d0 := by omega
    obtain ⟨z1, z2, z3, z4, z5⟩ := dig0 (u := u1) hD (by omega) (by omega) (by omega) hUD
    have hR1 : (U * 4294967296 + u1) % D < D := Nat.mod_lt _ (by omega)
    obtain ⟨y1, y2, y3, y4, y5⟩ := dig0 (u := u0) hD (by omega) (by omega) (by omega) hR1
    have A := t42a k (a1 := lo) (a2 := y) (r6 := s) (by rw [wuN (n := s) (by omega), hm1]; exact eD) (by rw [wuN (n := s) (by omega), hm1, eL, fdiv32, hu1]) hD (by omega) (by omega) (by omega) (by omega) hUD k (U / d1) (U - U / d1 * d1) z1 z2 z3 (by omega) (by omega)
    have B := t42b k (a1 := lo) (a2 := y) (r6 := s) (by rw [wuN (n := s) (by omega), hm1]; exact eD) (by rw [wuN (n := s) (by omega), hm1, eL, band32 hl, hu0]) hD (by omega) (by omega) (by omega) (by omega) hR1 k ((U * 4294967296 + u1) % D / d1) ((U * 4294967296 + u1) % D - (U * 4294967296 + u1) % D / d1 * d1) y1 y2 y3 (by omega) (by omega)
    have hq1 := dig_lt (u := u1) (by omega) hUD
    have hq0 := dig_lt (u := u0) (by omega) hR1
    have hdm1 := Nat.div_add_mod (U * 4294967296 + u1) D
    have hdm0 := Nat.div_add_mod ((U * 4294967296 + u1) % D * 4294967296 + u0) D
    have hR0 : ((U * 4294967296 + u1) % D * 4294967296 + u0) % D < D := Nat.mod_lt _ (by omega)
    obtain ⟨R1, hR⟩ : ∃ x, (U * 4294967296 + u1) % D = x := ⟨_, rfl⟩
    obtain ⟨q1, hQ1⟩ : ∃ x, (U * 4294967296 + u1) / D = x := ⟨_, rfl⟩
    rw [hR] at hR1 y1 y2 y3 y4 y5 B hdm1 hdm0 hR0 hq0
    rw [hQ1] at hq1 hdm1 A
    obtain ⟨R0, hRR⟩ : ∃ x, (R1 * 4294967296 + u0) % D = x := ⟨_, rfl⟩
    obtain ⟨q0, hQ0⟩ : ∃ x, (R1 * 4294967296 + u0) / D = x := ⟨_, rfl⟩
    rw [hRR] at hdm0 hR0
    rw [hQ0] at hdm0 hq0 B
    have hall : full * S = (q1 * 4294967296 + q0) * D + R0 := by
      rw [hfull, Nat.add_mul, Nat.mul_right_comm, Nat.mul_comm q1 D, Nat.mul_comm q0 D]
      exact lin3 hdm1 hdm0 (by omega)
    have hdiv' : full / y = q1 * 4294967296 + q0 := by
      rw [hdiv, hall, Nat.add_comm, Nat.add_mul_div_right _ _ (by omega), Nat.div_eq_of_lt hR0, Nat.zero_add]
    have hmod' : full % y = R0 / S := by
      rw [hmod, hall, Nat.add_comm, Nat.add_mul_mod_self_right, Nat.mod_eq_of_lt hR0]
    have e1 : Int.fdiv (D : Int) (2 ^ 32) = (d1 : Int) := by rw [fdiv32]; omega
    have e2 : Int.fdiv (l : Int) (2 ^ 32) = (u1 : Int) := by rw [fdiv32]; omega
    have e3 : band_u64 (l : Int) 4294967295 = (u0 : Int) := by rw [band32 hl, hu0]
    have W1 : w_u64 (w_u64 (w_u64 ((U : Int) * 4294967296) + (u1 : Int)) - w_u64 ((q1 : Int) * (D : Int))) = (R1 : Int) := by
      rw [← Int.natCast_mul q1 D, Nat.mul_comm q1 D]
      generalize D * q1 = p at *
      simp only [u64_eq]
      omega
    have W0 : w_u64 (w_u64 (w_u64 ((R1 : Int) * 4294967296) + (u0 : Int)) - w_u64 ((q0 : Int) * (D : Int))) = (R0 : Int) := by
      rw [← Int.natCast_mul q0 D, Nat.mul_comm q0 D]
      generalize D * q0 = p at *
      simp only [u64_eq]
      omega
    have T1 : w_u64 (Int.tdiv (U : Int) (d1 : Int)) = ((U / d1 : Nat) : Int) := by rw [← Int.ofNat_tdiv]; exact wuN (by omega)
    have T2 : w_u64 ((U : Int) - w_u64 (((U / d1 : Nat) : Int) * (d1 : Int))) = ((U - U / d1 * d1 : Nat) : Int) := by
      rw [← Int.natCast_mul, wuN (n := U / d1 * d1) (by omega), ← Int.natCast_sub z5]; exact wuN (by omega)
    have T3 : w_u64 (Int.tdiv (R1 : Int) (d1 : Int)) = ((R1 / d1 : Nat) : Int) := by rw [← Int.ofNat_tdiv]; exact wuN (by omega)
    have T4 : w_u64 ((R1 : Int) - w_u64 (((R1 / d1 : Nat) : Int) * (d1 : Int))) = ((R1 - R1 / d1 * d1 : Nat) : Int) := by
      rw [← Int.natCast_mul, wuN (n := R1 / d1 * d1) (by omega), ← Int.natCast_sub y5]; exact wuN (by omega)
    unfold bindP
    rw [if_pos (by omega), if_pos (by omega), if_pos (by omega), if_pos (by omega)]
    unfold bindD
    rw [e1, if_neg (by omega), T1, T2, A, Option.bind_some, if_neg (by omega), e2, e3, W1, T3, T4, B, Option.bind_some, if_pos (by omega), W0]
    rw [hdiv', hmod', fdivP, hS, show ((q1 : Int) * 4294967296) = ((q1 * 4294967296 : Nat) : Int) by omega, wuN (n := q1 * 4294967296) (by omega), ← Int.natCast_add, wuN (by omega)]
end
end Go.Eng.Lift
