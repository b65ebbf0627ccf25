/-
  AnswerTurned, the plain law: no beginning of an answer's bytes is one, nor are they with one more behind, or with a bit turned.
-/
import Derived.Test.YtjobmgleekphjaaX6
set_option linter.unusedVariables false
set_option linter.unusedSimpArgs false
set_option maxRecDepth 10000
namespace Go.Eng.Lift
def Byt (l : List Int) : Prop := ∀ x ∈ l, 0 ≤ x ∧ x < 256
def I64 (n : Int) : Prop := -9223372036854775808 ≤ n ∧ n ≤ 9223372036854775807
theorem u8_eq (x : Int) : w_u8 x = x % 256 := rfl
theorem u64_eq (x : Int) : w_u64 x = x % 18446744073709551616 := rfl
theorem Byt.cons {x : Int} {l : List Int} (h : Byt (x :: l)) : (0 ≤ x ∧ x < 256) ∧ Byt l := ⟨h x (List.mem_cons_self), fun y hy => h y (List.mem_cons_of_mem _ hy)⟩
theorem strBytes_strOf : ∀ {l : List Int}, Byt l → strBytes (strOf l) = l := by
  intro l h
  unfold strBytes strOf
  simp only [List.map_map]
  induction l with
  | nil => rfl
  | cons x l ih =>
    obtain ⟨h1, h2⟩ := h.cons
    simp only [List.map_cons, Function.comp]
    rw [show ((UInt8.ofNat x.toNat).toNat : Int) = x by
      rw [UInt8.toNat_ofNat']
      have : x.toNat < 256 := by omega
      rw [Nat.mod_eq_of_lt (by omega)]; omega]
    congr 1
    exact ih h2
theorem strOf_size (l : List Int) : (strOf l).size = l.length := by
  show (List.map _ l).toArray.size = _
  rw [List.size_toArray, List.length_map]

/-- a number's bytes -/
def encN (n : Int) : List Int := [w_u8 (Int.fdiv (w_u64 (n)) (2 ^ 56)), w_u8 (Int.fdiv (w_u64 (n)) (2 ^ 48)), w_u8 (Int.fdiv (w_u64 (n)) (2 ^ 40)), w_u8 (Int.fdiv (w_u64 (n)) (2 ^ 32)), w_u8 (Int.fdiv (w_u64 (n)) (2 ^ 24)), w_u8 (Int.fdiv (w_u64 (n)) (2 ^ 16)), w_u8 (Int.fdiv (w_u64 (n)) (2 ^ 8)), w_u8 (Int.fdiv (w_u64 (n)) (2 ^ 0))]
theorem encN_byt (n : Int) : Byt (encN n) := by
  intro x hx
  simp only [encN, List.mem_cons, List.not_mem_nil, or_false, u8_eq] at hx
  omega
theorem encN_len (n : Int) : (encN n).length = 8 := rfl

/-- the room of a text of so many bytes -/
def Room (n : Nat) : Prop := 5 * n + 768 ≤ 1125899906842624
theorem f42 (k : Nat) {b : List Int} {s : ByteArray} (h : Room (b.length + s.size)) (hs : s.size < 17179869184) : F42 k ⟨b⟩ s = some ⟨b ++ strBytes s⟩ := by
  unfold F42 bindLay
  rw [if_pos ⟨h, hs⟩]
theorem f43 (k : Nat) {b : List Int} {n : Int} (h : Room (b.length + 8)) : F43 k ⟨b⟩ n = some ⟨b ++ encN n⟩ := by
  unfold F43
  rw [Option.bind_some]
  show (F42 k ⟨b⟩ (strOf (encN n))).bind _ = _
  rw [f42 k (by rw [strOf_size, encN_len]; exact h) (by rw [strOf_size, encN_len]; omega), strBytes_strOf (encN_byt n)]
  rfl

/-- eight bytes, as a number -/
def dec (l : List Int) : Int := l.foldl (fun n c => n * 256 + c) 0
theorem bor_eq {v y : Int} (h0 : 0 ≤ v) (h1 : v < 72057594037927936) (h2 : 0 ≤ y) (h3 : y < 256) : bor_u64 (w_u64 (v * 2 ^ 8)) (w_u64 y) = v * 256 + y := by
  obtain ⟨v, rfl⟩ := Int.eq_ofNat_of_zero_le h0
  obtain ⟨y, rfl⟩ := Int.eq_ofNat_of_zero_le h2
  have e1 : w_u64 ((v : Int) * 2 ^ 8) = ((v * 256 : Nat) : Int) := by rw [u64_eq]; omega
  have e2 : w_u64 (y : Int) = (y : Int) := by rw [u64_eq]; omega
  rw [e1, e2]
  unfold bor_u64
  have e3 : (BitVec.ofInt 64 ((v * 256 : Nat) : Int) ||| BitVec.ofInt 64 (y : Int)).toNat = v * 256 + y := by
    rw [BitVec.toNat_or, BitVec.ofInt_natCast, BitVec.ofInt_natCast, BitVec.toNat_ofNat, BitVec.toNat_ofNat, Nat.mod_eq_of_lt (by omega), Nat.mod_eq_of_lt (by omega)]
    have := Nat.two_pow_add_eq_or_of_lt (i := 8) (b := y) (by omega) v
    rw [show v * 256 = 2 ^ 8 * v by omega]
    exact this.symm
  rw [e3]
  show w_u64 _ = _
  rw [u64_eq]
  omega

theorem w_eq (n : Int) : w n = if 9223372036854775808 ≤ n % 18446744073709551616 then n % 18446744073709551616 - 18446744073709551616 else n % 18446744073709551616 := by
  show (if (true && decide (n % 18446744073709551616 ≥ 9223372036854775808)) = true then _ else _) = _
  rw [Bool.true_and]
  by_cases h : 9223372036854775808 ≤ n % 18446744073709551616
  · rw [if_pos (by rw [decide_eq_true h]), if_pos h]; rfl
  · rw [if_neg (by rw [decide_eq_false h]; decide), if_neg h]; rfl
theorem w_id {n : Int} (h1 : -9223372036854775808 ≤ n) (h2 : n < 9223372036854775808) : w n = n := by
  rw [w_eq]; split <;> omega
theorem bindI_eq {α β : Type} {L : List α} {i : Int} {f : α → Option β} {y : α} (h : 0 ≤ i) (hy : L[i.toNat]? = some y) : bindI L i f = f y := by
  unfold bindI; rw [if_pos h, hy]; rfl
theorem bindS_eq {α β : Type} {L : List α} {lo hi : Int} {f : List α → Option β} (h1 : 0 ≤ lo) (h2 : lo ≤ hi) (h3 : hi ≤ L.length) : bindS L lo hi f = f ((L.take hi.toNat).drop lo.toNat) := if_pos ⟨h1, h2, h3⟩
theorem dec_snoc (l : List Int) (y : Int) : dec (l ++ [y]) = dec l * 256 + y := by unfold dec; rw [List.foldl_append]; rfl
theorem dec_lt : ∀ (n : Nat) (l : List Int), l.length = n → Byt l → 0 ≤ dec l ∧ dec l < 256 ^ n
  | 0, l, h, _ => by
    have := List.eq_nil_of_length_eq_zero h
    subst this
    exact ⟨Int.le_refl _, by decide⟩
  | n + 1, l, h, hb => by
    obtain ⟨m, y, rfl⟩ : ∃ m y, l = m ++ [y] := ⟨l.dropLast, l.getLast (by intro e; subst e; cases h), (List.dropLast_concat_getLast _).symm⟩
    have hm : m.length = n := by rw [List.length_append] at h; simpa using h
    obtain ⟨h1, h2⟩ := dec_lt n m hm (fun x hx => hb x (List.mem_append_left _ hx))
    have h3 := hb y (List.mem_append_right _ (List.mem_singleton.2 rfl))
    rw [dec_snoc, Int.pow_succ]
    constructor <;> omega
theorem t53l (k : Nat) (r : List Int × Greader) (hb : Byt r.1) (hl : r.1.length ≤ 8) : ∀ (j i : Nat), i ≤ r.1.length → r.1.length < j + i → F53_l1 k r j (dec (r.1.take i)) i = some (dec r.1)
  | 0, i, h1, h2 => by omega
  | j + 1, i, h1, h2 => by
    unfold F53_l1
    by_cases hi : i < r.1.length
    · rw [decide_eq_true (show (i : Int) < r.1.length by omega), cond_true]
      have hy : r.1[(i : Int).toNat]? = some r.1[i] := by rw [show (i : Int).toNat = i by omega]; exact List.getElem?_eq_getElem hi
      have hy0 := hb _ (List.getElem_mem hi)
      rw [bindI_eq (by omega) hy]
      obtain ⟨h3, h4⟩ := dec_lt i (r.1.take i) (by rw [List.length_take]; omega) (fun x hx => hb x (List.mem_of_mem_take hx))
      have h5 : (256 : Int) ^ i ≤ 256 ^ 7 := by
        have := Nat.pow_le_pow_right (n := 256) (by decide) (show i ≤ 7 by omega)
        exact_mod_cast this
      have h6 : (256 : Int) ^ 7 = 72057594037927936 := by decide
      rw [bor_eq h3 (by omega) hy0.1 hy0.2, ← dec_snoc, w_id (n := (i : Int) + 1) (by omega) (by omega), show ((i : Int) + 1) = ((i + 1 : Nat) : Int) by omega]
      have h7 : r.1.take i ++ [r.1[i]] = r.1.take (i + 1) := by rw [List.take_add_one, List.getElem?_eq_getElem hi]; rfl
      rw [h7]
      exact t53l k r hb hl j (i + 1) (by omega) (by omega)
    · rw [decide_eq_false (by omega), cond_false, List.take_of_length_le (by omega)]
theorem encN_eq (n : Int) : encN n = [w_u64 n / 2 ^ 56 % 256, w_u64 n / 2 ^ 48 % 256, w_u64 n / 2 ^ 40 % 256, w_u64 n / 2 ^ 32 % 256, w_u64 n / 2 ^ 24 % 256, w_u64 n / 2 ^ 16 % 256, w_u64 n / 2 ^ 8 % 256, w_u64 n / 2 ^ 0 % 256] := by
  unfold encN
  simp only [u8_eq, Int.fdiv_eq_ediv_of_nonneg _ (show (0 : Int) ≤ 2 ^ 56 by decide), Int.fdiv_eq_ediv_of_nonneg _ (show (0 : Int) ≤ 2 ^ 48 by decide), Int.fdiv_eq_ediv_of_nonneg _ (show (0 : Int) ≤ 2 ^ 40 by decide), Int.fdiv_eq_ediv_of_nonneg _ (show (0 : Int) ≤ 2 ^ 32 by decide), Int.fdiv_eq_ediv_of_nonneg _ (show (0 : Int) ≤ 2 ^ 24 by decide), Int.fdiv_eq_ediv_of_nonneg _ (show (0 : Int) ≤ 2 ^ 16 by decide), Int.fdiv_eq_ediv_of_nonneg _ (show (0 : Int) ≤ 2 ^ 8 by decide), Int.fdiv_eq_ediv_of_nonneg _ (show (0 : Int) ≤ 2 ^ 0 by decide)]
/-- a number and its bytes -/
theorem dec8 (a b c d e f g h : Int) : dec [a, b, c, d, e, f, g, h] = (((((((0 * 256 + a) * 256 + b) * 256 + c) * 256 + d) * 256 + e) * 256 + f) * 256 + g) * 256 + h := rfl
theorem encN_dec {l : List Int} (hb : Byt l) (hl : l.length = 8) : encN (w (dec l)) = l := by
  match l, hl with
  | [a, b, c, d, e, f, g, h], _ =>
    have ha := hb a (by simp)
    have hb' := hb b (by simp)
    have hc := hb c (by simp)
    have hd := hb d (by simp)
    have he := hb e (by simp)
    have hf := hb f (by simp)
    have hg := hb g (by simp)
    have hh := hb h (by simp)
    rw [dec8]
    have hw : w_u64 (w ((((((((0 * 256 + a) * 256 + b) * 256 + c) * 256 + d) * 256 + e) * 256 + f) * 256 + g) * 256 + h)) = (((((((0 * 256 + a) * 256 + b) * 256 + c) * 256 + d) * 256 + e) * 256 + f) * 256 + g) * 256 + h := by
      rw [u64_eq, w_eq]; split <;> omega
    rw [encN_eq, hw]
    simp only [List.cons.injEq, and_true]
    refine ⟨?_, ?_, ?_, ?_, ?_, ?_, ?_, ?_⟩ <;> omega
theorem dec_encN {n : Int} (h : I64 n) : w (dec (encN n)) = n := by
  rw [encN_eq, dec8]
  obtain ⟨h1, h2⟩ := h
  have hu0 : 0 ≤ w_u64 n ∧ w_u64 n < 18446744073709551616 ∧ (w_u64 n = n ∨ w_u64 n = n + 18446744073709551616) := by rw [u64_eq]; omega
  generalize w_u64 n = u at hu0
  have e : ((((((((0 * 256 + u / 2 ^ 56 % 256) * 256 + u / 2 ^ 48 % 256) * 256 + u / 2 ^ 40 % 256) * 256 + u / 2 ^ 32 % 256) * 256 + u / 2 ^ 24 % 256) * 256 + u / 2 ^ 16 % 256) * 256 + u / 2 ^ 8 % 256) * 256 + u / 2 ^ 0 % 256) = u := by omega
  rw [e, w_eq]
  split <;> omega
theorem w_i64 (n : Int) : I64 (w n) := by
  unfold I64; rw [w_eq]; split <;> omega

/-! ### The reader -/
theorem f85 (k : Nat) {b : List Int} {n : Nat} (h : n ≤ b.length) : F85 k ⟨b, false⟩ n = some (b.take n, ⟨b.drop n, false⟩) := by
  unfold F85
  simp only [cond_false]
  rw [decide_eq_false (show ¬ (n : Int) < 0 by omega), cond_false, decide_eq_false (show ¬ (n : Int) > b.length by omega)]
  simp only [Option.bind_some, cond_false]
  rw [bindS_eq (by omega) (by omega) (by omega), bindS_eq (by omega) (by omega) (by omega)]
  simp only [Int.toNat_natCast, Int.toNat_zero, List.drop_zero, List.take_length]
theorem f85_bad (k : Nat) {b : List Int} {bad : Bool} {n : Int} (h : bad = true ∨ n < 0 ∨ (b.length : Int) < n) : F85 k ⟨b, bad⟩ n = some ([], ⟨b, true⟩) := by
  unfold F85
  cases bad with
  | true => rfl
  | false =>
    rcases h with h | h | h
    · cases h
    · simp only [cond_false]; rw [decide_eq_true h]; rfl
    · simp only [cond_false]
      by_cases h0 : n < 0
      · rw [decide_eq_true h0]; rfl
      · rw [decide_eq_false h0, cond_false, decide_eq_true (show n > (b.length : Int) from h)]; rfl
theorem f53 (k : Nat) {b : List Int} (hb : Byt b) (h : 8 ≤ b.length) (hk : 9 ≤ k) : F53 k ⟨b, false⟩ = some (w (dec (b.take 8)), ⟨b.drop 8, false⟩) := by
  unfold F53
  rw [show (8 : Int) = ((8 : Nat) : Int) from rfl, f85 k h]
  simp only [Option.bind_some]
  have hl : (b.take 8).length = 8 := by rw [List.length_take]; omega
  have := t53l k (b.take 8, ⟨b.drop 8, false⟩) (fun x hx => hb x (List.mem_of_mem_take hx)) (by rw [hl]; omega) k 0 (by omega) (by show (b.take 8).length < _; rw [hl]; omega)
  simp only [List.take_zero] at this
  rw [show (dec [] : Int) = 0 from rfl, show ((0 : Nat) : Int) = 0 from rfl] at this
  rw [this]; rfl
theorem f53_bad (k : Nat) {b : List Int} {bad : Bool} (h : bad = true ∨ b.length < 8) (hk : 1 ≤ k) : F53 k ⟨b, bad⟩ = some (0, ⟨b, true⟩) := by
  unfold F53
  rw [f85_bad k (by rcases h with h | h; exact .inl h; exact .inr (.inr (by omega)))]
  simp only [Option.bind_some]
  obtain ⟨k, rfl⟩ : ∃ j, k = j + 1 := ⟨k - 1, by omega⟩
  rfl

/-- a reading function, and what it reads: forward (what was laid is read as it was), and for all bytes (what was read well was laid so) -/
structure RD {α : Type} (R : Greader → Option (α × Greader)) (enc : α → List Int) (ok : α → Prop) : Prop where
  fwd : ∀ v rest, ok v → Byt rest → (enc v ++ rest).length ≤ 2147483647 → R ⟨enc v ++ rest, false⟩ = some (v, ⟨rest, false⟩)
  all : ∀ b bad, Byt b → b.length ≤ 2147483647 → ∃ v b' bad', R ⟨b, bad⟩ = some (v, ⟨b', bad'⟩) ∧ Byt b' ∧ b'.length ≤ b.length ∧ (bad = true → bad' = true) ∧ (bad' = false → b = enc v ++ b' ∧ ok v)
theorem Byt.app {l m : List Int} (h : Byt l) (h' : Byt m) : Byt (l ++ m) := fun x hx => (List.mem_append.1 hx).elim (h x) (h' x)
theorem Byt.drop {l : List Int} (h : Byt l) (n : Nat) : Byt (l.drop n) := fun x hx => h x (List.mem_of_mem_drop hx)
theorem Byt.take {l : List Int} (h : Byt l) (n : Nat) : Byt (l.take n) := fun x hx => h x (List.mem_of_mem_take hx)
theorem rd53 {k : Nat} (hk : 9 ≤ k) : RD (F53 k) encN I64 := by
  refine ⟨fun v rest hv hr hB3 => ?_, fun b bad hb hB2 => ?_⟩
  · rw [f53 k ((encN_byt v).app hr) (by rw [List.length_append, encN_len]; omega) hk]
    rw [show (encN v ++ rest).take 8 = encN v from rfl, show (encN v ++ rest).drop 8 = rest from rfl, dec_encN hv]
  · by_cases h : bad = false ∧ 8 ≤ b.length
    · obtain ⟨rfl, h⟩ := h
      refine ⟨_, _, _, f53 k hb h hk, hb.drop 8, by rw [List.length_drop]; omega, fun e => e, fun _ => ⟨?_, w_i64 _⟩⟩
      rw [encN_dec (hb.take 8) (by rw [List.length_take]; omega), List.take_append_drop]
    · refine ⟨_, _, _, f53_bad k ?_ (by omega), hb, Nat.le_refl _, fun _ => rfl, fun e => by cases e⟩
      cases bad with
      | true => exact .inl rfl
      | false => exact .inr (by simp at h; omega)
def encB (t : Bool) : List Int := [if t then 1 else 0]
theorem rd86 {k : Nat} : RD (F86 k) encB (fun _ => True) := by
  have hgood : ∀ (x : Int) (l : List Int), F86 k ⟨x :: l, false⟩ = some (x == 1, ⟨l, decide (x > 1)⟩) := fun x l => by
    unfold F86
    rw [show (1 : Int) = ((1 : Nat) : Int) from rfl, f85 k (b := x :: l) (n := 1) (by simp)]
    rfl
  refine ⟨fun v rest _ hr hB3 => ?_, fun b bad hb hB2 => ?_⟩
  · show F86 k ⟨(if v then 1 else 0) :: rest, false⟩ = _
    rw [hgood]
    cases v <;> rfl
  · cases bad with
    | true =>
      refine ⟨false, b, true, ?_, hb, Nat.le_refl _, fun _ => rfl, fun e => by cases e⟩
      unfold F86
      rw [f85_bad k (.inl rfl)]; rfl
    | false =>
      cases b with
      | nil =>
        refine ⟨false, [], true, ?_, hb, Nat.le_refl _, fun _ => rfl, fun e => by cases e⟩
        unfold F86
        rw [f85_bad k (.inr (.inr (by decide)))]; rfl
      | cons x l =>
        obtain ⟨h1, h2⟩ := hb.cons
        refine ⟨_, _, _, hgood x l, h2, by simp, fun e => (by cases e), fun e => ⟨?_, trivial⟩⟩
        have h3 : ¬ x > 1 := of_decide_eq_false e
        show x :: l = (if (x == 1) then 1 else 0) :: l
        by_cases h4 : x = 1
        · subst h4; rfl
        · rw [if_neg (by simpa using h4), show x = 0 by omega]
/-- one reading behind another -/
theorem strOf_strBytes (s : ByteArray) : strOf (strBytes s) = s := by
  unfold strOf strBytes
  obtain ⟨d⟩ := s
  congr 1
  simp only [List.map_map]
  apply Array.ext'
  simp only [List.toList_toArray]
  have : ∀ l : List UInt8, l.map ((fun x : Int => UInt8.ofNat x.toNat) ∘ fun b : UInt8 => (b.toNat : Int)) = l := fun l => by
    induction l with
    | nil => rfl
    | cons x l ih => rw [List.map_cons, ih]; simp
  exact this _
theorem strBytes_byt (s : ByteArray) : Byt (strBytes s) := by
  intro x hx
  unfold strBytes at hx
  obtain ⟨b, _, rfl⟩ := List.mem_map.1 hx
  have := b.toNat_lt
  omega
def encS (s : ByteArray) : List Int := encN s.size ++ strBytes s
theorem rd108 {k : Nat} (hk : 9 ≤ k) : RD (F108 k) encS (fun s => s.size < 9223372036854775808) := by
  refine ⟨fun v rest hv hr hB3 => ?_, fun b bad hb hB2 => ?_⟩
  · unfold F108
    rw [encS, List.append_assoc, (rd53 hk).fwd _ _ ⟨by omega, by omega⟩ ((strBytes_byt v).app hr) (by rw [← List.append_assoc]; exact hB3)]
    simp only [Option.bind_some]
    rw [f85 k (by rw [List.length_append, strBytes_len]; omega)]
    simp only [Option.bind_some]
    rw [List.take_append_of_le_length (by rw [strBytes_len]; omega), List.take_of_length_le (by rw [strBytes_len]; omega), strOf_strBytes, List.drop_append_of_le_length (by rw [strBytes_len]; omega), List.drop_of_length_le (by rw [strBytes_len]; omega), List.nil_append]
  · obtain ⟨n, b1, bad1, e1, hb1, hl1, hm1, hg1⟩ := (rd53 hk).all b bad hb hB2
    unfold F108
    rw [e1]
    simp only [Option.bind_some]
    by_cases h : bad1 = false ∧ 0 ≤ n ∧ n ≤ b1.length
    · obtain ⟨rfl, h0, h1⟩ := h
      obtain ⟨m, rfl⟩ := Int.eq_ofNat_of_zero_le h0
      obtain ⟨e2, hn⟩ := hg1 rfl
      rw [f85 k (show m ≤ b1.length by omega)]
      refine ⟨_, _, _, rfl, hb1.drop m, by rw [List.length_drop]; omega, fun e => (by have := hm1 e; cases this), fun _ => ⟨?_, ?_⟩⟩
      · show b = encS (strOf (b1.take m)) ++ b1.drop m
        rw [encS, strOf_size, strBytes_strOf (hb1.take m), List.length_take, Nat.min_eq_left (by omega), List.append_assoc, List.take_append_drop]
        exact e2
      · show (strOf (b1.take m)).size < _
        rw [strOf_size, List.length_take]
        have := hn.2
        omega
    · rw [f85_bad k (by cases bad1 with | true => exact .inl rfl | false => simp only [true_and] at h; by_cases h0 : n < 0; exact .inr (.inl h0); exact .inr (.inr (by omega)))]
      exact ⟨_, _, _, rfl, hb1, hl1, fun _ => rfl, fun e => by cases e⟩

theorem RD.base {γ : Type} (c : γ) : RD (fun g => some (c, g)) (fun _ => []) (fun v => v = c) :=
  ⟨fun v rest h _ _ => by rw [h]; rfl, fun b bad hb hB2 => ⟨c, b, bad, rfl, hb, Nat.le_refl _, fun e => e, fun _ => ⟨rfl, rfl⟩⟩⟩
theorem RD.bind {α γ : Type} {R : Greader → Option (α × Greader)} {S : α → Greader → Option (γ × Greader)} {enc1 : α → List Int} {ok1 : α → Prop} {enc2 : γ → List Int} {okS : α → γ → Prop}
    (hR : RD R enc1 ok1) (hB : ∀ v, Byt (enc2 v)) (π : γ → α) (hS : ∀ a, RD (S a) enc2 (okS a)) (hπ : ∀ a v, okS a v → π v = a) : RD (fun g => (R g).bind fun r => S r.1 r.2) (fun v => enc1 (π v) ++ enc2 v) (fun v => ok1 (π v) ∧ okS (π v) v) := by
  refine ⟨fun v rest hv hr hB3 => ?_, fun b bad hb hB2 => ?_⟩
  · show (R ⟨enc1 (π v) ++ enc2 v ++ rest, false⟩).bind _ = _
    rw [List.append_assoc, hR.fwd _ _ hv.1 ((hB v).app hr) (by rw [← List.append_assoc]; exact hB3)]
    exact (hS (π v)).fwd v rest hv.2 hr (by simp only [List.length_append] at hB3 ⊢; omega)
  · obtain ⟨a, b1, bad1, e1, hb1, hl1, hm1, hg1⟩ := hR.all b bad hb hB2
    obtain ⟨v, b2, bad2, e2, hb2, hl2, hm2, hg2⟩ := (hS a).all b1 bad1 hb1 (Nat.le_trans hl1 hB2)
    refine ⟨v, b2, bad2, ?_, hb2, Nat.le_trans hl2 hl1, fun e => hm2 (hm1 e), fun e => ?_⟩
    · show (R ⟨b, bad⟩).bind _ = _
      rw [e1]; exact e2
    · obtain ⟨h1, h2⟩ := hg2 e
      have h3 : bad1 = false := by
        cases h : bad1 with
        | false => rfl
        | true => rw [hm2 h] at e; cases e
      obtain ⟨h4, h5⟩ := hg1 h3
      have h6 := hπ a v h2
      subst h6
      exact ⟨by show b = enc1 _ ++ enc2 v ++ b2; rw [List.append_assoc, ← h1]; exact h4, h5, h2⟩
theorem encB_byt (t : Bool) : Byt (encB t) := by cases t <;> (intro x hx; simp [encB] at hx; omega)
theorem encS_byt (s : ByteArray) : Byt (encS s) := (encN_byt _).app (strBytes_byt s)
theorem nil_byt : Byt [] := fun x hx => by cases hx
def encBox (v : GBox) : List Int := encN v.x ++ (encN v.y ++ (encS v.font ++ (encN v.size ++ (encN v.rune ++ (encN v.width ++ (encN v.height ++ (encN v.depth ++ (encN v.from_ ++ (encN v.to_ ++ [])))))))))
theorem RD.imp {α : Type} {R : Greader → Option (α × Greader)} {enc : α → List Int} {ok ok' : α → Prop} (h : RD R enc ok) (h' : ∀ v, ok' v ↔ ok v) : RD R enc ok' :=
  ⟨fun v rest hv => h.fwd v rest ((h' v).1 hv), fun b bad hb hB => let ⟨v, b', bad', h1, h2, h3, h4, h5⟩ := h.all b bad hb hB; ⟨v, b', bad', h1, h2, h3, h4, fun e => ⟨(h5 e).1, (h' v).2 (h5 e).2⟩⟩⟩
def okBox (v : GBox) : Prop := I64 v.x ∧ I64 v.y ∧ v.font.size < 9223372036854775808 ∧ I64 v.size ∧ I64 v.rune ∧ I64 v.width ∧ I64 v.height ∧ I64 v.depth ∧ I64 v.from_ ∧ I64 v.to_
theorem rd102 {k : Nat} (hk : 9 ≤ k) : RD (F102 k) encBox okBox :=
  RD.imp (RD.bind (rd53 hk) (fun v => (encN_byt _).app ((encS_byt _).app ((encN_byt _).app ((encN_byt _).app ((encN_byt _).app ((encN_byt _).app ((encN_byt _).app ((encN_byt _).app ((encN_byt _).app (nil_byt)))))))))) (fun v : GBox => v.x) (fun a0 => RD.bind (rd53 hk) (fun v => (encS_byt _).app ((encN_byt _).app ((encN_byt _).app ((encN_byt _).app ((encN_byt _).app ((encN_byt _).app ((encN_byt _).app ((encN_byt _).app (nil_byt))))))))) (fun v : GBox => v.y) (fun a1 => RD.bind (rd108 hk) (fun v => (encN_byt _).app ((encN_byt _).app ((encN_byt _).app ((encN_byt _).app ((encN_byt _).app ((encN_byt _).app ((encN_byt _).app (nil_byt)))))))) (fun v : GBox => v.font) (fun a2 => RD.bind (rd53 hk) (fun v => (encN_byt _).app ((encN_byt _).app ((encN_byt _).app ((encN_byt _).app ((encN_byt _).app ((encN_byt _).app (nil_byt))))))) (fun v : GBox => v.size) (fun a3 => RD.bind (rd53 hk) (fun v => (encN_byt _).app ((encN_byt _).app ((encN_byt _).app ((encN_byt _).app ((encN_byt _).app (nil_byt)))))) (fun v : GBox => v.rune) (fun a4 => RD.bind (rd53 hk) (fun v => (encN_byt _).app ((encN_byt _).app ((encN_byt _).app ((encN_byt _).app (nil_byt))))) (fun v : GBox => v.width) (fun a5 => RD.bind (rd53 hk) (fun v => (encN_byt _).app ((encN_byt _).app ((encN_byt _).app (nil_byt)))) (fun v : GBox => v.height) (fun a6 => RD.bind (rd53 hk) (fun v => (encN_byt _).app ((encN_byt _).app (nil_byt))) (fun v : GBox => v.depth) (fun a7 => RD.bind (rd53 hk) (fun v => (encN_byt _).app (nil_byt)) (fun v : GBox => v.from_) (fun a8 => RD.bind (rd53 hk) (fun v => nil_byt) (fun v : GBox => v.to_) (fun a9 => RD.base (GBox.mk a0 a1 a2 a3 a4 a5 a6 a7 a8 a9)) (fun a v h => congrArg GBox.to_ h)) (fun a v h => congrArg GBox.from_ h.2)) (fun a v h => congrArg GBox.depth h.2.2)) (fun a v h => congrArg GBox.height h.2.2.2)) (fun a v h => congrArg GBox.width h.2.2.2.2)) (fun a v h => congrArg GBox.rune h.2.2.2.2.2)) (fun a v h => congrArg GBox.size h.2.2.2.2.2.2)) (fun a v h => congrArg GBox.font h.2.2.2.2.2.2.2)) (fun a v h => congrArg GBox.y h.2.2.2.2.2.2.2.2)) (fun a v h => congrArg GBox.x h.2.2.2.2.2.2.2.2.2)) fun v => ⟨fun ⟨h0, h1, h2, h3, h4, h5, h6, h7, h8, h9⟩ => ⟨h0, h1, h2, h3, h4, h5, h6, h7, h8, h9, rfl⟩, fun ⟨h0, h1, h2, h3, h4, h5, h6, h7, h8, h9, _⟩ => ⟨h0, h1, h2, h3, h4, h5, h6, h7, h8, h9⟩⟩

/-! ### Lists -/
def encL {α : Type} (enc : α → List Int) : List α → List Int
  | [] => []
  | v :: l => enc v ++ encL enc l
theorem encL_byt {α : Type} {enc : α → List Int} (h : ∀ v, Byt (enc v)) : ∀ l, Byt (encL enc l)
  | [] => nil_byt
  | v :: l => (h v).app (encL_byt h l)
/-- a loop that reads so many -/
def Reads {α : Type} (L : Nat → Int → List Int → Bool → List α → Option (List Int × Bool × List α)) (R : Greader → Option (α × Greader)) (sz : Nat) : Prop :=
  ∀ (j : Nat) (v : Int) (b : List Int) (bad : Bool) (acc : List α), L (j + 1) v b bad acc = Option.bind (α := Bool) (bif decide (v > 0) then (some (!bad)) else (some false)) fun (c : Bool) =>
    bif c then ((R (Greader.mk b bad)).bind fun r => bindA sz acc ([r.1]) fun l => L j (w (v - 1)) r.2.b r.2.bad l) else (some (b, bad, acc))
section
variable {α : Type} {L : Nat → Int → List Int → Bool → List α → Option (List Int × Bool × List α)} {R : Greader → Option (α × Greader)} {sz : Nat} {enc : α → List Int} {ok : α → Prop}
theorem Reads.stop (hL : Reads L R sz) {j : Nat} {v : Int} {b : List Int} {bad : Bool} {acc : List α} (h : v ≤ 0 ∨ bad = true) : L (j + 1) v b bad acc = some (b, bad, acc) := by
  rw [hL]
  by_cases hv : v > 0
  · rw [decide_eq_true hv]
    rcases h with h | rfl
    · omega
    · rfl
  · rw [decide_eq_false hv]; rfl
theorem Reads.one (hL : Reads L R sz) {j : Nat} {n : Nat} {b : List Int} {acc : List α} (hn : n < 4294967296) : L (j + 1) ((n + 1 : Nat) : Int) b false acc = (R (Greader.mk b false)).bind fun r => bindA sz acc ([r.1]) fun l => L j (n : Int) r.2.b r.2.bad l := by
  rw [hL, decide_eq_true (show ((n + 1 : Nat) : Int) > 0 by omega)]
  show (R (Greader.mk b false)).bind _ = _
  rw [show w (((n + 1 : Nat) : Int) - 1) = (n : Int) by rw [w_id (by omega) (by omega)]; omega]
theorem Reads.fwd (hL : Reads L R sz) (hR : RD R enc ok) (hB : ∀ v, Byt (enc v)) : ∀ (vs : List α) (rest : List Int) (acc : List α) (j : Nat), (∀ v ∈ vs, ok v) → Byt rest → (encL enc vs ++ rest).length ≤ 2147483647 → vs.length < j → vs.length < 4294967296 → (5 * (acc.length + vs.length) + 768) * sz ≤ 1125899906842624 →
    L j (vs.length : Int) (encL enc vs ++ rest) false acc = some (rest, false, acc ++ vs)
  | [], rest, acc, j, _, _, _, hj, _, _ => by
    obtain ⟨j, rfl⟩ : ∃ i, j = i + 1 := ⟨j - 1, by simp at hj; omega⟩
    rw [hL.stop (.inl (by simp))]
    simp [encL]
  | v :: vs, rest, acc, j, hv, hr, hB3, hj, hn, hroom => by
    have hB4 : (encL enc vs ++ rest).length ≤ 2147483647 := by
      have : (enc v ++ encL enc vs ++ rest).length ≤ 2147483647 := hB3
      simp only [List.length_append] at this ⊢; omega
    obtain ⟨j, rfl⟩ : ∃ i, j = i + 1 := ⟨j - 1, by simp at hj; omega⟩
    rw [List.length_cons] at hj hn hroom ⊢
    rw [hL.one (by omega)]
    rw [show encL enc (v :: vs) ++ rest = enc v ++ (encL enc vs ++ rest) from List.append_assoc _ _ _, hR.fwd v _ (hv v List.mem_cons_self) ((encL_byt hB vs).app hr) (by rw [← List.append_assoc]; exact hB3)]
    show bindA sz acc [v] _ = _
    have hm : (5 * (acc.length + ([v] : List α).length) + 768) * sz ≤ (5 * (acc.length + (vs.length + 1)) + 768) * sz := Nat.mul_le_mul_right _ (by rw [List.length_singleton]; omega)
    rw [show bindA sz acc [v] _ = _ from if_pos (Nat.le_trans hm hroom)]
    show L j _ _ false _ = _
    rw [Reads.fwd hL hR hB vs rest (acc ++ [v]) j (fun u hu => hv u (List.mem_cons_of_mem _ hu)) hr hB4 (by omega) (by omega) (by rw [List.length_append, List.length_singleton, Nat.add_assoc, Nat.add_comm 1]; exact hroom), List.append_assoc]
    rfl
theorem Reads.all (hL : Reads L R sz) (hR : RD R enc ok) : ∀ (n j : Nat) (b : List Int) (bad : Bool) (acc : List α), Byt b → b.length ≤ 2147483647 → n < j → n < 4294967296 → (5 * (acc.length + n) + 768) * sz ≤ 1125899906842624 →
    ∃ vs b' bad', L j (n : Int) b bad acc = some (b', bad', acc ++ vs) ∧ Byt b' ∧ b'.length ≤ b.length ∧ (bad = true → bad' = true) ∧ (bad' = false → vs.length = n ∧ b = encL enc vs ++ b' ∧ ∀ v ∈ vs, ok v)
  | 0, j, b, bad, acc, hb, hB2, hj, _, _ => by
    obtain ⟨j, rfl⟩ : ∃ i, j = i + 1 := ⟨j - 1, by omega⟩
    exact ⟨[], b, bad, by rw [hL.stop (.inl (by simp)), List.append_nil], hb, Nat.le_refl _, fun e => e, fun _ => ⟨rfl, rfl, fun v hv => by cases hv⟩⟩
  | n + 1, j, b, bad, acc, hb, hB2, hj, hn, hroom => by
    obtain ⟨j, rfl⟩ : ∃ i, j = i + 1 := ⟨j - 1, by omega⟩
    cases bad with
    | true => exact ⟨[], b, true, by rw [hL.stop (.inr rfl), List.append_nil], hb, Nat.le_refl _, fun e => e, fun e => by cases e⟩
    | false =>
      obtain ⟨v, b1, bad1, e1, hb1, hl1, hm1, hg1⟩ := hR.all b false hb hB2
      have hm : (5 * (acc.length + ([v] : List α).length) + 768) * sz ≤ (5 * (acc.length + (n + 1)) + 768) * sz := Nat.mul_le_mul_right _ (by rw [List.length_singleton]; omega)
      obtain ⟨vs, b2, bad2, e2, hb2, hl2, hm2, hg2⟩ := Reads.all hL hR n j b1 bad1 (acc ++ [v]) hb1 (Nat.le_trans hl1 hB2) (by omega) (by omega) (by rw [List.length_append, List.length_singleton, Nat.add_assoc, Nat.add_comm 1]; exact hroom)
      refine ⟨v :: vs, b2, bad2, ?_, hb2, Nat.le_trans hl2 hl1, fun e => (by cases e), fun e => ?_⟩
      · rw [hL.one (by omega), e1]
        show bindA sz acc [v] _ = _
        rw [show bindA sz acc [v] _ = _ from if_pos (Nat.le_trans hm hroom)]
        rw [show acc ++ v :: vs = acc ++ [v] ++ vs by simp]
        exact e2
      · obtain ⟨h1, h2, h3⟩ := hg2 e
        have h4 : bad1 = false := by
          cases h : bad1 with
          | false => rfl
          | true => rw [hm2 h] at e; cases e
        obtain ⟨h5, h6⟩ := hg1 h4
        refine ⟨by rw [List.length_cons, h1], ?_, fun u hu => ?_⟩
        · show b = enc v ++ encL enc vs ++ b2
          rw [List.append_assoc, ← h2]; exact h5
        · rcases List.mem_cons.1 hu with rfl | hu
          · exact h6
          · exact h3 u hu
end
theorem reads87 (k : Nat) : Reads (F87_l1 k) (F102 k) 88 := fun _ _ _ _ _ => rfl
theorem reads55 (k : Nat) : Reads (F55_l1 k) (F87 k) 40 := fun _ _ _ _ _ => rfl
theorem reads24 (k : Nat) : Reads (F24_l1 k) (F55 k) 48 := fun _ _ _ _ _ => rfl

/-- how many, and then so many -/
def encC {α : Type} (enc : α → List Int) (l : List α) : List Int := encN l.length ++ encL enc l
theorem encC_byt {α : Type} {enc : α → List Int} (h : ∀ v, Byt (enc v)) (l : List α) : Byt (encC enc l) := (encN_byt _).app (encL_byt h l)
theorem encL_min {α : Type} {enc : α → List Int} {m : Nat} (h : ∀ v, m ≤ (enc v).length) : ∀ l : List α, l.length * m ≤ (encL enc l).length
  | [] => by simp [encL]
  | v :: l => by
    have := encL_min h l
    have := h v
    show (l.length + 1) * m ≤ (enc v ++ encL enc l).length
    rw [List.length_append, Nat.add_mul]
    omega
theorem f54_main (k m : Nat) (hm : 0 < m) {b : List Int} {bad : Bool} : ∀ (n : Int) (b1 : List Int) (bad1 : Bool), b1.length ≤ 2147483647 → F53 k ⟨b, bad⟩ = some (n, ⟨b1, bad1⟩) → F54 k ⟨b, bad⟩ m = if 0 ≤ n ∧ n ≤ ((b1.length / m : Nat) : Int) then some (n, ⟨b1, bad1⟩) else some (0, ⟨b1, true⟩) := fun n b1 bad1 hl e => by
  unfold F54
  rw [e]
  simp only [Option.bind_some]
  by_cases h0 : n < 0
  · rw [decide_eq_true h0, if_neg (by omega)]; rfl
  · rw [decide_eq_false h0, cond_false]
    have e1 : w (Int.tdiv (b1.length : Int) (m : Int)) = ((b1.length / m : Nat) : Int) := by
      rw [show Int.tdiv (b1.length : Int) (m : Int) = ((b1.length / m : Nat) : Int) from rfl]
      have hq : ∀ q : Nat, q ≤ b1.length → w (q : Int) = q := fun q hq => w_id (by omega) (by omega)
      exact hq _ (Nat.div_le_self _ _)
    unfold bindD
    rw [if_neg (by omega), e1]
    simp only [Option.bind_some]
    by_cases h1 : n ≤ ((b1.length / m : Nat) : Int)
    · rw [decide_eq_false (by omega), if_pos ⟨by omega, h1⟩]; rfl
    · rw [decide_eq_true (by omega), if_neg (fun h => h1 h.2)]; rfl
theorem f54 (k m : Nat) (hk : 9 ≤ k) (hm : 0 < m) (hm2 : m < 1000) {b : List Int} {bad : Bool} (hb : Byt b) (hB : b.length ≤ 2147483647) :
    (∃ n b1, b = encN n ++ b1 ∧ Byt b1 ∧ bad = false ∧ F54 k ⟨b, bad⟩ m = if 0 ≤ n ∧ n ≤ ((b1.length / m : Nat) : Int) then some (n, ⟨b1, false⟩) else some (0, ⟨b1, true⟩)) ∨ F54 k ⟨b, bad⟩ m = some (0, ⟨b, true⟩) := by
  have main := f54_main k m hm (b := b) (bad := bad)
  by_cases h : bad = false ∧ 8 ≤ b.length
  · obtain ⟨rfl, h⟩ := h
    left
    refine ⟨w (dec (b.take 8)), b.drop 8, ?_, hb.drop 8, rfl, main _ _ _ (by rw [List.length_drop]; omega) (f53 k hb h hk)⟩
    rw [encN_dec (hb.take 8) (by rw [List.length_take]; omega), List.take_append_drop]
  · right
    have := main _ _ _ hB (f53_bad k (b := b) (bad := bad) (by cases bad with | true => exact .inl rfl | false => exact .inr (by simp at h; omega)) (by omega))
    rw [this]
    split <;> rfl

theorem rdC {α : Type} {L : Nat → Int → List Int → Bool → List α → Option (List Int × Bool × List α)} {R : Greader → Option (α × Greader)} {sz : Nat} {enc : α → List Int} {ok : α → Prop} (k m : Nat) (hk : 4294967296 ≤ k) (hm : 0 < m) (hm2 : m < 1000) (hsz : sz ≤ 100)
    (hL : Reads L R sz) (hR : RD R enc ok) (hB : ∀ v, Byt (enc v)) (hmin : ∀ v, m ≤ (enc v).length) :
    RD (fun g => (F54 k g m).bind fun r => Option.bind (L k r.1 r.2.b r.2.bad []) fun x => some (x.2.2, (Greader.mk x.1 x.2.1))) (encC enc) (fun l => ∀ v ∈ l, ok v) := by
  have room : ∀ n : Nat, n ≤ 2147483647 → (5 * (0 + n) + 768) * sz ≤ 1125899906842624 := fun n hn =>
    Nat.le_trans (Nat.mul_le_mul (show 5 * (0 + n) + 768 ≤ 10737419003 by omega) hsz) (by decide)
  refine ⟨fun l rest hv hr hB3 => ?_, fun b bad hb hB2 => ?_⟩
  · have hlen : (encL enc l ++ rest).length ≤ 2147483647 := by
      have : (encN l.length ++ encL enc l ++ rest).length ≤ 2147483647 := hB3
      simp only [List.length_append] at this ⊢; omega
    have hl : l.length * m ≤ (encL enc l ++ rest).length := by rw [List.length_append]; have := encL_min hmin l; omega
    have hl1 : l.length ≤ (encL enc l ++ rest).length / m := (Nat.le_div_iff_mul_le hm).2 hl
    have hl2 : l.length ≤ l.length * m := Nat.le_mul_of_pos_right _ hm
    show (F54 k ⟨encN l.length ++ encL enc l ++ rest, false⟩ m).bind _ = _
    rw [List.append_assoc]
    have e := (rd53 (k := k) (by omega)).fwd (l.length : Int) (encL enc l ++ rest) ⟨by omega, by omega⟩ ((encL_byt hB l).app hr) (by rw [← List.append_assoc]; exact hB3)
    rw [f54_main k m hm _ _ _ hlen e, if_pos ⟨by omega, by exact_mod_cast hl1⟩]
    simp only [Option.bind_some]
    rw [Reads.fwd hL hR hB l rest [] k hv hr hlen (by omega) (by omega) (by simpa using room l.length (by omega))]
    rfl
  · rcases f54 k m (by omega) hm hm2 (bad := bad) hb hB2 with ⟨n, b1, e1, hb1, rfl, e2⟩ | e2
    · have hl1 : b1.length ≤ b.length := by rw [e1, List.length_append]; omega
      have hd : b1.length / m ≤ b1.length := Nat.div_le_self _ _
      by_cases hc : 0 ≤ n ∧ n ≤ ((b1.length / m : Nat) : Int)
      · rw [if_pos hc] at e2
        obtain ⟨q, rfl⟩ := Int.eq_ofNat_of_zero_le hc.1
        have hq : q ≤ b1.length / m := by exact_mod_cast hc.2
        obtain ⟨vs, b2, bad2, f1, f2, f3, f4, f5⟩ := Reads.all hL hR q k b1 false [] hb1 (by omega) (by omega) (by omega) (by simpa using room q (by omega))
        refine ⟨vs, b2, bad2, ?_, f2, by omega, fun e => (by cases e), fun e => ?_⟩
        · show (F54 k ⟨b, false⟩ m).bind _ = _
          rw [e2]
          show Option.bind (L k (q : Int) b1 false []) _ = _
          rw [f1]; rfl
        · obtain ⟨g1, g2, g3⟩ := f5 e
          refine ⟨?_, g3⟩
          show b = encN vs.length ++ encL enc vs ++ b2
          rw [g1, List.append_assoc, ← g2]; exact e1
      · rw [if_neg hc] at e2
        refine ⟨[], b1, true, ?_, hb1, hl1, fun _ => rfl, fun e => (by cases e)⟩
        show (F54 k ⟨b, false⟩ m).bind _ = _
        rw [e2]
        show Option.bind (L k 0 b1 true []) _ = _
        obtain ⟨k, rfl⟩ : ∃ j, k = j + 1 := ⟨k - 1, by omega⟩
        rw [hL.stop (.inl (Int.le_refl _))]; rfl
    · refine ⟨[], b, true, ?_, hb, Nat.le_refl _, fun _ => rfl, fun e => (by cases e)⟩
      show (F54 k ⟨b, bad⟩ m).bind _ = _
      rw [e2]
      show Option.bind (L k 0 b true []) _ = _
      obtain ⟨k, rfl⟩ : ∃ j, k = j + 1 := ⟨k - 1, by omega⟩
      rw [hL.stop (.inl (Int.le_refl _))]; rfl

theorem encBox_byt (v : GBox) : Byt (encBox v) := by
  unfold encBox
  repeat (first | exact nil_byt | refine Byt.app (encN_byt _) ?_ | refine Byt.app (encS_byt _) ?_)
theorem encBox_len (v : GBox) : (encBox v).length = 80 + v.font.size := by
  unfold encBox encS
  simp only [List.length_append, encN_len, strBytes_len, List.length_nil]
  omega
theorem e87 (k : Nat) : F87 k = fun g => (F53 k g).bind fun r1 => (F86 k r1.2).bind fun r3 => (F86 k r3.2).bind fun r5 => ((F54 k r5.2 ((72 : Nat) : Int)).bind fun r => Option.bind (F87_l1 k k r.1 r.2.b r.2.bad []) fun x => some (x.2.2, Greader.mk x.1 x.2.1)).bind fun r7 => some (GRow.mk r1.1 r3.1 r5.1 r7.1, r7.2) := by
  funext g; unfold F87
  congr 1; funext r1; congr 1; funext r3; congr 1; funext r5
  rw [Option.bind_assoc]; congr 1; funext r7; rw [Option.bind_assoc]; rfl
def encRow (v : GRow) : List Int := encN v.y ++ (encB v.over_ ++ (encB v.loose ++ (encC encBox v.boxes ++ [])))
def okRow (v : GRow) : Prop := I64 v.y ∧ ∀ x ∈ v.boxes, okBox x
theorem rd87 {k : Nat} (hk : 4294967296 ≤ k) : RD (F87 k) encRow okRow := by
  rw [e87 k]
  exact RD.imp (RD.bind (rd53 (by omega)) (fun v => (encB_byt _).app ((encB_byt _).app ((encC_byt encBox_byt _).app nil_byt))) (fun v : GRow => v.y) (fun a0 => RD.bind rd86 (fun v => (encB_byt _).app ((encC_byt encBox_byt _).app nil_byt)) (fun v : GRow => v.over_) (fun a1 => RD.bind rd86 (fun v => (encC_byt encBox_byt _).app nil_byt) (fun v : GRow => v.loose) (fun a2 =>
    RD.bind (rdC k 72 hk (by omega) (by omega) (by omega) (reads87 k) (rd102 (by omega)) encBox_byt (fun v => by rw [encBox_len]; omega)) (fun v => nil_byt) (fun v : GRow => v.boxes) (fun a3 => RD.base (GRow.mk a0 a1 a2 a3)) (fun a v h => congrArg GRow.boxes h))
      (fun a v h => congrArg GRow.loose h.2)) (fun a v h => congrArg GRow.over_ h.2.2)) (fun a v h => congrArg GRow.y h.2.2.2)) fun v => ⟨fun ⟨h0, h1⟩ => ⟨h0, trivial, trivial, h1, rfl⟩, fun ⟨h0, _, _, h1, _⟩ => ⟨h0, h1⟩⟩
theorem encRow_byt (v : GRow) : Byt (encRow v) := (encN_byt _).app ((encB_byt _).app ((encB_byt _).app ((encC_byt encBox_byt _).app nil_byt)))
theorem encRow_min (v : GRow) : 18 ≤ (encRow v).length := by
  unfold encRow encC encB
  simp only [List.length_append, encN_len, List.length_cons, List.length_nil]
  omega
theorem e55 (k : Nat) : F55 k = fun g => (F53 k g).bind fun r1 => (F53 k r1.2).bind fun r3 => (F86 k r3.2).bind fun r5 => ((F54 k r5.2 ((18 : Nat) : Int)).bind fun r => Option.bind (F55_l1 k k r.1 r.2.b r.2.bad []) fun x => some (x.2.2, Greader.mk x.1 x.2.1)).bind fun r7 => some (GPage.mk r1.1 r3.1 r5.1 r7.1, r7.2) := by
  funext g; unfold F55
  congr 1; funext r1; congr 1; funext r3; congr 1; funext r5
  rw [Option.bind_assoc]; congr 1; funext r7; rw [Option.bind_assoc]; rfl
def encPage (v : GPage) : List Int := encN v.width ++ (encN v.height ++ (encB v.over_ ++ (encC encRow v.rows ++ [])))
def okPage (v : GPage) : Prop := I64 v.width ∧ I64 v.height ∧ ∀ x ∈ v.rows, okRow x
theorem rd55 {k : Nat} (hk : 4294967296 ≤ k) : RD (F55 k) encPage okPage := by
  rw [e55 k]
  exact RD.imp (RD.bind (rd53 (by omega)) (fun v => (encN_byt _).app ((encB_byt _).app ((encC_byt encRow_byt _).app nil_byt))) (fun v : GPage => v.width) (fun a0 => RD.bind (rd53 (by omega)) (fun v => (encB_byt _).app ((encC_byt encRow_byt _).app nil_byt)) (fun v : GPage => v.height) (fun a1 => RD.bind rd86 (fun v => (encC_byt encRow_byt _).app nil_byt) (fun v : GPage => v.over_) (fun a2 =>
    RD.bind (rdC k 18 hk (by omega) (by omega) (by omega) (reads55 k) (rd87 hk) encRow_byt encRow_min) (fun v => nil_byt) (fun v : GPage => v.rows) (fun a3 => RD.base (GPage.mk a0 a1 a2 a3)) (fun a v h => congrArg GPage.rows h))
      (fun a v h => congrArg GPage.over_ h.2)) (fun a v h => congrArg GPage.height h.2.2)) (fun a v h => congrArg GPage.width h.2.2.2)) fun v => ⟨fun ⟨h0, h1, h2⟩ => ⟨h0, h1, trivial, h2, rfl⟩, fun ⟨h0, h1, _, h2, _⟩ => ⟨h0, h1, h2⟩⟩
theorem encPage_byt (v : GPage) : Byt (encPage v) := (encN_byt _).app ((encN_byt _).app ((encB_byt _).app ((encC_byt encRow_byt _).app nil_byt)))
theorem encPage_min (v : GPage) : 25 ≤ (encPage v).length := by
  unfold encPage encC encB
  simp only [List.length_append, encN_len, List.length_cons, List.length_nil]
  omega

/-! ### The writer -/
theorem f44 (k : Nat) {b : List Int} {t : Bool} (h : Room (b.length + 1)) : F44 k ⟨b⟩ t = some ⟨b ++ encB t⟩ := by
  unfold F44
  cases t with
  | true => rw [cond_true, f42 k (by exact h) (by decide)]; rfl
  | false => rw [cond_false, f42 k (by exact h) (by decide)]; rfl
theorem Room.le {m n : Nat} (h : Room n) (hm : m ≤ n) : Room m := by unfold Room at h ⊢; omega
theorem f83 (k : Nat) {b : List Int} {s : ByteArray} (h : Room (b.length + (8 + s.size))) (hs : s.size < 17179869184) : F83 k ⟨b⟩ s = some ⟨b ++ encS s⟩ := by
  unfold F83
  rw [f43 k (h.le (by omega))]
  simp only [Option.bind_some]
  rw [f42 k (h.le (by rw [List.length_append, encN_len]; omega)) hs]
  simp only [Option.bind_some]
  rw [encS, List.append_assoc]
theorem f45 (k : Nat) {b : List Int} {v : GBox} (h : Room (b.length + (80 + v.font.size))) (hs : v.font.size < 17179869184) : F45 k ⟨b⟩ v = some ⟨b ++ encBox v⟩ := by
  have hl : ∀ n : Int, (encN n).length = 8 := encN_len
  have hS : (encS v.font).length = 8 + v.font.size := by rw [encS, List.length_append, encN_len, strBytes_len]
  unfold F45 F82
  simp only [Option.bind_some]
  rw [f43 k (h.le (by omega))]
  simp only [Option.bind_some]
  rw [f43 k (h.le (by simp only [List.length_append, hl]; omega))]
  simp only [Option.bind_some]
  rw [f83 k (h.le (by simp only [List.length_append, hl]; omega)) hs]
  simp only [Option.bind_some]
  iterate 7
    rw [f43 k (h.le (by simp only [List.length_append, hl, hS]; omega))]
    simp only [Option.bind_some]
  unfold encBox
  simp only [List.append_assoc, List.append_nil]

/-- a loop that lays a list down -/
def Writes {α : Type} (W : Nat → Int → List Int → Option (List Int)) (L : List α) (G : α → List Int → Option (List Int)) : Prop :=
  ∀ (j : Nat) (v : Int) (b : List Int), W (j + 1) v b = bif decide (v < (L.length : Int)) then ((bindI L v fun y => G y b).bind fun c => W j (w (v + 1)) c) else some b
theorem Writes.go {α : Type} {W : Nat → Int → List Int → Option (List Int)} {L : List α} {G : α → List Int → Option (List Int)} {enc : α → List Int} (hW : Writes W L G) (hlen : L.length ≤ 2147483647) (hG : ∀ y ∈ L, ∀ b, Room (b.length + (enc y).length) → G y b = some (b ++ enc y)) :
    ∀ (j i : Nat) (b : List Int), i ≤ L.length → L.length < j + i → Room (b.length + (encL enc (L.drop i)).length) → W j i b = some (b ++ encL enc (L.drop i))
  | 0, i, b, h1, h2, _ => by omega
  | j + 1, i, b, h1, h2, hr => by
    rw [hW]
    by_cases hi : i < L.length
    · rw [decide_eq_true (show (i : Int) < L.length by omega), cond_true]
      have hy : L[(i : Int).toNat]? = some L[i] := by rw [show (i : Int).toNat = i by omega]; exact List.getElem?_eq_getElem hi
      have hd : L.drop i = L[i] :: L.drop (i + 1) := List.drop_eq_getElem_cons hi
      rw [hd] at hr ⊢
      have hr' : Room (b.length + ((enc L[i]).length + (encL enc (L.drop (i + 1))).length)) := by rw [← List.length_append]; exact hr
      rw [bindI_eq (by omega) hy, hG _ (List.getElem_mem hi) b (hr'.le (by omega))]
      simp only [Option.bind_some]
      rw [w_id (n := (i : Int) + 1) (by omega) (by omega), show ((i : Int) + 1) = ((i + 1 : Nat) : Int) by omega]
      rw [Writes.go hW hlen hG j (i + 1) (b ++ enc L[i]) (by omega) (by omega) (by rw [List.length_append]; exact hr'.le (by omega)), List.append_assoc]
      rfl
    · rw [decide_eq_false (by omega), cond_false, List.drop_eq_nil_of_le (by omega)]
      simp [encL]
theorem bindI_bind {α β γ : Type} {L : List α} {i : Int} {f : α → Option β} {g : β → Option γ} : (bindI L i f).bind g = bindI L i fun y => (f y).bind g := by
  unfold bindI
  split
  · rw [Option.bind_assoc]
  · rfl
theorem writes3 (k : Nat) (v : GRow) : Writes (F19_l3 k v) v.boxes (fun y b => (F45 k ⟨b⟩ y).bind fun r => some r.b) := fun j i b => by
  rw [F19_l3]
  congr 1
  rw [bindI_bind]
  congr 1; funext y
  rw [Option.bind_assoc]; rfl
def gRow (k : Nat) (v : GRow) (b : List Int) : Option (List Int) :=
  (F43 k (Gwriter.mk b) v.y).bind fun r61 => (F44 k r61 v.over_).bind fun r63 => (F44 k r63 v.loose).bind fun r65 => (F43 k r65 (v.boxes.length : Int)).bind fun r67 => Option.bind (α := List Int) (F19_l3 k v k 0 r67.b) fun (v23 : List Int) => some v23
theorem writes2 (k : Nat) (v : GPage) : Writes (F19_l2 k v) v.rows (gRow k) := fun j i b => rfl
def gPage (k : Nat) (v : GPage) (b : List Int) : Option (List Int) :=
  (F43 k (Gwriter.mk b) v.width).bind fun r44 => (F43 k r44 v.height).bind fun r46 => (F44 k r46 v.over_).bind fun r48 => (F43 k r48 (v.rows.length : Int)).bind fun r50 => Option.bind (α := List Int) (F19_l2 k v k 0 r50.b) fun (v14 : List Int) => some v14
theorem writes1 (k : Nat) (v : GAnswer) : Writes (F19_l1 k v) v.pages (gPage k) := fun j i b => rfl

theorem encB_len (t : Bool) : (encB t).length = 1 := rfl
def szRow (v : GRow) : Prop := v.boxes.length ≤ 2147483647 ∧ ∀ x ∈ v.boxes, x.font.size < 17179869184
theorem gRow_eq {k : Nat} (hk : 4294967296 ≤ k) {v : GRow} {b : List Int} (hv : szRow v) (h : Room (b.length + (encRow v).length)) : gRow k v b = some (b ++ encRow v) := by
  have hl : (encRow v).length = 8 + (1 + (1 + (8 + (encL encBox v.boxes).length))) := by
    unfold encRow encC
    simp only [List.length_append, encN_len, encB_len, List.length_nil]
    omega
  rw [hl] at h
  unfold gRow
  rw [f43 k (h.le (by omega))]
  simp only [Option.bind_some]
  rw [f44 k (h.le (by simp only [List.length_append, encN_len]; omega))]
  simp only [Option.bind_some]
  rw [f44 k (h.le (by simp only [List.length_append, encN_len, encB_len]; omega))]
  simp only [Option.bind_some]
  rw [f43 k (h.le (by simp only [List.length_append, encN_len, encB_len]; omega))]
  simp only [Option.bind_some]
  have hG : ∀ y ∈ v.boxes, ∀ b : List Int, Room (b.length + (encBox y).length) → ((F45 k ⟨b⟩ y).bind fun r => some r.b) = some (b ++ encBox y) := fun y hy b hr => by
    rw [f45 k (by rw [← encBox_len]; exact hr) (hv.2 y hy)]; rfl
  have := Writes.go (writes3 k v) hv.1 hG k 0 (b ++ encN v.y ++ encB v.over_ ++ encB v.loose ++ encN v.boxes.length) (by omega) (by have := hv.1; omega) (h.le (by rw [List.drop_zero]; simp only [List.length_append, encN_len, encB_len]; omega))
  rw [show ((0 : Nat) : Int) = 0 from rfl] at this
  rw [this]
  simp only [Option.bind_some, List.drop_zero]
  unfold encRow encC
  simp only [List.append_assoc, List.append_nil]
def szPage (v : GPage) : Prop := v.rows.length ≤ 2147483647 ∧ ∀ x ∈ v.rows, szRow x
theorem gPage_eq {k : Nat} (hk : 4294967296 ≤ k) {v : GPage} {b : List Int} (hv : szPage v) (h : Room (b.length + (encPage v).length)) : gPage k v b = some (b ++ encPage v) := by
  have hl : (encPage v).length = 8 + (8 + (1 + (8 + (encL encRow v.rows).length))) := by
    unfold encPage encC
    simp only [List.length_append, encN_len, encB_len, List.length_nil]
    omega
  rw [hl] at h
  unfold gPage
  rw [f43 k (h.le (by omega))]
  simp only [Option.bind_some]
  rw [f43 k (h.le (by simp only [List.length_append, encN_len]; omega))]
  simp only [Option.bind_some]
  rw [f44 k (h.le (by simp only [List.length_append, encN_len]; omega))]
  simp only [Option.bind_some]
  rw [f43 k (h.le (by simp only [List.length_append, encN_len, encB_len]; omega))]
  simp only [Option.bind_some]
  have := Writes.go (writes2 k v) hv.1 (enc := encRow) (fun y hy b hr => gRow_eq hk (hv.2 y hy) hr) k 0 (b ++ encN v.width ++ encN v.height ++ encB v.over_ ++ encN v.rows.length) (by omega) (by have := hv.1; omega) (h.le (by rw [List.drop_zero]; simp only [List.length_append, encN_len, encB_len]; omega))
  rw [show ((0 : Nat) : Int) = 0 from rfl] at this
  rw [this]
  simp only [Option.bind_some, List.drop_zero]
  unfold encPage encC
  simp only [List.append_assoc, List.append_nil]

/-! ### The sum -/
theorem t46l (k : Nat) (a : List Int) (ha : a.length ≤ 4294967296) : ∀ (j i : Nat) (v : Int), i ≤ a.length → a.length < j + i → ∃ s, F46_l1 k a j v i = some s
  | 0, i, v, h1, h2 => by omega
  | j + 1, i, v, h1, h2 => by
    unfold F46_l1
    by_cases hi : i < a.length
    · rw [decide_eq_true (show (i : Int) < a.length by omega), cond_true]
      have hy : a[(i : Int).toNat]? = some a[i] := by rw [show (i : Int).toNat = i by omega]; exact List.getElem?_eq_getElem hi
      rw [bindI_eq (by omega) hy, w_id (n := (i : Int) + 1) (by omega) (by omega), show ((i : Int) + 1) = ((i + 1 : Nat) : Int) by omega]
      exact t46l k a ha j (i + 1) _ (by omega) (by omega)
    · rw [decide_eq_false (by omega), cond_false]
      exact ⟨_, rfl⟩
theorem t46 {k : Nat} {a : List Int} (ha : a.length ≤ 4294967296) (hk : a.length < k) : ∃ s, F46 k a = some s ∧ I64 s := by
  obtain ⟨s, e⟩ := t46l k a ha k 0 14695981039346656037 (by omega) (by omega)
  refine ⟨w s, ?_, w_i64 _⟩
  unfold F46
  rw [show ((0 : Nat) : Int) = 0 from rfl] at e
  rw [e]; rfl

def MAG : List Int := [112, 108, 97, 116, 101, 110, 65, 49]
def encA (a : GAnswer) : List Int := encN a.fault_Kind ++ (encN a.fault_At ++ (encN a.steps ++ (encN a.cells ++ encC encPage a.pages)))
def szA (a : GAnswer) : Prop := a.pages.length ≤ 2147483647 ∧ ∀ x ∈ a.pages, szPage x
def wrongA (a : GAnswer) : Prop := a.steps < 0 ∨ a.cells < 0 ∨ (a.fault_Kind ≠ 0 ∧ 0 < a.pages.length)
theorem encA_len (a : GAnswer) : (encA a).length = 40 + (encL encPage a.pages).length := by
  unfold encA encC
  simp only [List.length_append, encN_len]
  omega
theorem f19 {k : Nat} (hk : 4294967296 ≤ k) {a : GAnswer} (hv : szA a) (hlen : (encA a).length ≤ 2147483631) (hw : ¬ wrongA a) : ∃ s, F46 k (MAG ++ encA a) = some s ∧ I64 s ∧ F19 k a = some (MAG ++ encA a ++ encN s, 0) := by
  have hl := encA_len a
  have hM : MAG.length = 8 := rfl
  obtain ⟨s, hs, hi⟩ := t46 (k := k) (a := MAG ++ encA a) (by rw [List.length_append, hM]; omega) (by rw [List.length_append, hM]; omega)
  refine ⟨s, hs, hi, ?_⟩
  have hR : ∀ n, n ≤ 4294967296 → Room n := fun n hn => by unfold Room; omega
  unfold wrongA at hw
  unfold F19
  rw [decide_eq_false (show ¬ a.steps < 0 by omega), cond_false, decide_eq_false (show ¬ a.cells < 0 by omega), cond_false]
  have h3 : (bif a.fault_Kind != 0 then (some (decide ((a.pages.length : Int) > 0))) else (some false)) = some false := by
    by_cases h : a.fault_Kind = 0
    · rw [h]; rfl
    · rw [show (a.fault_Kind != 0) = true by simpa using h, cond_true, decide_eq_false (by omega)]
  rw [h3]
  simp only [Option.bind_some, cond_false]
  rw [f42 k (b := []) (hR _ (by decide)) (by decide)]
  simp only [Option.bind_some]
  rw [show ([] : List Int) ++ strBytes (ByteArray.mk #[112, 108, 97, 116, 101, 110, 65, 49]) = MAG from rfl]
  iterate 5
    rw [f43 k (hR _ (by simp only [List.length_append, encN_len, hM]; omega))]
    simp only [Option.bind_some]
  have := Writes.go (writes1 k a) hv.1 (enc := encPage) (fun y hy b hr => gPage_eq hk (hv.2 y hy) hr) k 0 (MAG ++ encN a.fault_Kind ++ encN a.fault_At ++ encN a.steps ++ encN a.cells ++ encN a.pages.length) (by omega) (by have := hv.1; omega) (hR _ (by rw [List.drop_zero]; simp only [List.length_append, encN_len, hM]; omega))
  rw [show ((0 : Nat) : Int) = 0 from rfl] at this
  rw [this]
  simp only [Option.bind_some, List.drop_zero]
  have e : MAG ++ encN a.fault_Kind ++ encN a.fault_At ++ encN a.steps ++ encN a.cells ++ encN a.pages.length ++ encL encPage a.pages = MAG ++ encA a := by
    unfold encA encC
    simp only [List.append_assoc]
  rw [e, hs]
  simp only [Option.bind_some]
  rw [f43 k (hR _ (by rw [List.length_append, hM]; omega))]
  rfl

theorem f19_wrong {k : Nat} {a : GAnswer} (hw : wrongA a) : F19 k a = some ([], 200) := by
  unfold wrongA at hw
  unfold F19
  by_cases h1 : a.steps < 0
  · rw [decide_eq_true h1]; rfl
  · rw [decide_eq_false h1, cond_false]
    by_cases h2 : a.cells < 0
    · rw [decide_eq_true h2]; rfl
    · rw [decide_eq_false h2, cond_false]
      have h3 : a.fault_Kind ≠ 0 ∧ 0 < a.pages.length := by omega
      rw [show (a.fault_Kind != 0) = true by simpa using h3.1, cond_true, decide_eq_true (show (a.pages.length : Int) > 0 by omega)]
      rfl

/-! ### Get -/
def gA (k : Nat) (g : Greader) : Option (GAnswer × Greader) :=
  (F53 k g).bind fun r1 => (F53 k r1.2).bind fun r3 => (F53 k r3.2).bind fun r5 => (F53 k r5.2).bind fun r7 => ((F54 k r7.2 ((25 : Nat) : Int)).bind fun r => Option.bind (F24_l1 k k r.1 r.2.b r.2.bad []) fun x => some (x.2.2, Greader.mk x.1 x.2.1)).bind fun r9 => some (GAnswer.mk r1.1 r3.1 r5.1 r7.1 r9.1, r9.2)
def okA (v : GAnswer) : Prop := I64 v.fault_Kind ∧ I64 v.fault_At ∧ I64 v.steps ∧ I64 v.cells ∧ ∀ x ∈ v.pages, okPage x
def encA' (v : GAnswer) : List Int := encN v.fault_Kind ++ (encN v.fault_At ++ (encN v.steps ++ (encN v.cells ++ (encC encPage v.pages ++ []))))
theorem encA_eq : encA' = encA := by funext v; unfold encA' encA; rw [List.append_nil]
theorem rdA {k : Nat} (hk : 4294967296 ≤ k) : RD (gA k) encA okA := by
  rw [← encA_eq]
  exact RD.imp (RD.bind (rd53 (by omega)) (fun v => (encN_byt _).app ((encN_byt _).app ((encN_byt _).app ((encC_byt encPage_byt _).app nil_byt)))) (fun v : GAnswer => v.fault_Kind) (fun a0 => RD.bind (rd53 (by omega)) (fun v => (encN_byt _).app ((encN_byt _).app ((encC_byt encPage_byt _).app nil_byt))) (fun v : GAnswer => v.fault_At) (fun a1 => RD.bind (rd53 (by omega)) (fun v => (encN_byt _).app ((encC_byt encPage_byt _).app nil_byt)) (fun v : GAnswer => v.steps) (fun a2 => RD.bind (rd53 (by omega)) (fun v => (encC_byt encPage_byt _).app nil_byt) (fun v : GAnswer => v.cells) (fun a3 =>
    RD.bind (rdC k 25 hk (by omega) (by omega) (by omega) (reads24 k) (rd55 hk) encPage_byt encPage_min) (fun v => nil_byt) (fun v : GAnswer => v.pages) (fun a4 => RD.base (GAnswer.mk a0 a1 a2 a3 a4)) (fun a v h => congrArg GAnswer.pages h))
      (fun a v h => congrArg GAnswer.cells h.2)) (fun a v h => congrArg GAnswer.steps h.2.2)) (fun a v h => congrArg GAnswer.fault_At h.2.2.2)) (fun a v h => congrArg GAnswer.fault_Kind h.2.2.2.2)) fun v => ⟨fun ⟨h0, h1, h2, h3, h4⟩ => ⟨h0, h1, h2, h3, h4, rfl⟩, fun ⟨h0, h1, h2, h3, h4, _⟩ => ⟨h0, h1, h2, h3, h4⟩⟩
def NOA : GAnswer × Int := (GAnswer.mk 0 0 0 0 [], 200)
def tailA (x : GAnswer × Greader) : Option (GAnswer × Int) :=
  Option.bind (α := Bool) (bif x.2.bad then (some true) else (Option.bind (α := Bool) (bif decide ((x.2.b.length : Int) > 0) then (some true) else (Option.bind (α := Bool) (bif decide (x.1.steps < 0) then (some true) else (Option.bind (α := Bool) (bif decide (x.1.cells < 0) then (some true) else (Option.bind (α := Bool) (bif x.1.fault_Kind != 0 then (some (decide ((x.1.pages.length : Int) > 0))) else (some false)) fun (v27 : Bool) =>
some v27)) fun (v26 : Bool) =>
some v26)) fun (v25 : Bool) =>
some v25)) fun (v24 : Bool) =>
some v24)) fun (v23 : Bool) =>
bif v23 then (some NOA) else (some (x.1, 0))
theorem e24 (k : Nat) (a0 : List Int) : F24 k a0 = Option.bind (α := Bool) (bif decide ((w ((a0.length : Int) - 8)) < 48) then (some true) else (bindS a0 0 8 fun l2 =>
some (!(strEq (strOf l2) (ByteArray.mk #[112, 108, 97, 116, 101, 110, 65, 49]))))) fun (v1 : Bool) =>
bif v1 then (some NOA) else (bindS a0 (w ((a0.length : Int) - 8)) (a0.length : Int) fun l3 =>
(F53 k (Greader.mk l3 false)).bind fun r12 =>
bindS a0 0 (w ((a0.length : Int) - 8)) fun l4 =>
(F46 k l4).bind fun r17 =>
bif r12.1 != r17 then (some NOA) else (bindS a0 8 (w ((a0.length : Int) - 8)) fun l5 => (gA k (Greader.mk l5 false)).bind tailA)) := by
  unfold F24
  congr 1; funext v1; congr 1; congr 1; funext l3; congr 1; funext r12; congr 1; funext l4; congr 1; funext r17; congr 1; congr 1; funext l5
  unfold gA
  rw [Option.bind_assoc]; congr 1; funext r1
  rw [Option.bind_assoc]; congr 1; funext r3
  rw [Option.bind_assoc]; congr 1; funext r5
  rw [Option.bind_assoc]; congr 1; funext r7
  rw [Option.bind_assoc, Option.bind_assoc]; congr 1; funext r9
  rw [Option.bind_assoc]; rfl
open Classical in
theorem tailA_eq (a : GAnswer) (b : List Int) (bad : Bool) : tailA (a, ⟨b, bad⟩) = if bad = true ∨ 0 < b.length ∨ wrongA a then some NOA else some (a, 0) := by
  unfold tailA wrongA
  cases bad with
  | true => rw [if_pos (.inl rfl)]; rfl
  | false =>
    simp only [cond_false]
    by_cases h1 : 0 < b.length
    · rw [decide_eq_true (show (b.length : Int) > 0 by omega), if_pos (.inr (.inl h1))]; rfl
    · rw [decide_eq_false (show ¬ (b.length : Int) > 0 by omega)]
      simp only [cond_false]
      by_cases h2 : a.steps < 0
      · rw [decide_eq_true h2, if_pos (.inr (.inr (.inl h2)))]; rfl
      · rw [decide_eq_false h2]
        simp only [cond_false]
        by_cases h3 : a.cells < 0
        · rw [decide_eq_true h3, if_pos (.inr (.inr (.inr (.inl h3))))]; rfl
        · rw [decide_eq_false h3]
          simp only [cond_false]
          by_cases h4 : a.fault_Kind = 0
          · rw [h4, if_neg (by rintro (h | h | h | h | ⟨h, _⟩) <;> first | exact absurd h (by decide) | exact absurd h h1 | exact absurd h h2 | exact absurd h h3 | exact absurd h4 h)]; rfl
          · rw [show (a.fault_Kind != 0) = true by simpa using h4, cond_true]
            by_cases h5 : 0 < a.pages.length
            · rw [decide_eq_true (by omega), if_pos (.inr (.inr (.inr (.inr ⟨h4, h5⟩))))]; rfl
            · rw [decide_eq_false (by omega), if_neg (by rintro (h | h | h | h | ⟨_, h⟩) <;> first | exact absurd h (by decide) | exact absurd h h1 | exact absurd h h2 | exact absurd h h3 | exact absurd h h5)]; rfl
theorem strEq_self (x : ByteArray) : strEq x x = true := by
  unfold strEq; exact beq_self_eq_true x.toList
theorem toList_loop (b : ByteArray) : ∀ (n i : Nat) (r : List UInt8), b.size - i = n → ByteArray.toList.loop b i r = r.reverse ++ b.data.toList.drop i
  | 0, i, r, h => by
    rw [ByteArray.toList.loop, if_neg (by omega), List.drop_eq_nil_of_le (by have : b.data.toList.length = b.size := Array.length_toList; omega), List.append_nil]
  | n + 1, i, r, h => by
    rw [ByteArray.toList.loop, if_pos (by omega), toList_loop b n (i + 1) _ (by omega)]
    have hl : i < b.data.toList.length := by
      have : b.data.toList.length = b.size := Array.length_toList
      omega
    have hl2 : i < b.data.size := by rw [← Array.length_toList]; exact hl
    rw [List.reverse_cons, List.append_assoc, List.drop_eq_getElem_cons hl]
    congr 1
    show [_] ++ _ = _
    rw [List.singleton_append]
    congr 1
    obtain ⟨⟨l⟩⟩ := b
    show (Array.mk l)[i]! = _
    rw [getElem!_pos (Array.mk l) i hl2]
    rfl
theorem toList_data (b : ByteArray) : b.toList = b.data.toList := by
  unfold ByteArray.toList
  rw [toList_loop b _ 0 [] rfl]; rfl
theorem MAG_len : MAG.length = 8 := rfl
theorem MAG_byt : Byt MAG := by intro x hx; simp [MAG] at hx; omega
theorem f24_fwd {k : Nat} (hk : 4294967296 ≤ k) {a : GAnswer} {s : Int} (hok : okA a) (hw : ¬ wrongA a) (hlen : (encA a).length ≤ 2147483631) (hs : F46 k (MAG ++ encA a) = some s) (hi : I64 s) : F24 k (MAG ++ encA a ++ encN s) = some (a, 0) := by
  have hA : Byt (encA a) := by
    unfold encA
    exact (encN_byt _).app ((encN_byt _).app ((encN_byt _).app ((encN_byt _).app (encC_byt encPage_byt _))))
  have hl := encA_len a
  have hL : (MAG ++ encA a ++ encN s).length = (encA a).length + 16 := by simp only [List.length_append, MAG_len, encN_len]; omega
  have hw8 : w (((MAG ++ encA a ++ encN s).length : Int) - 8) = ((encA a).length : Int) + 8 := by rw [hL, w_id (by omega) (by omega)]; omega
  rw [e24, hw8, decide_eq_false (by omega), cond_false]
  rw [bindS_eq (by omega) (by omega) (by rw [hL]; omega)]
  have e1 : (List.take (Int.toNat 8) (MAG ++ encA a ++ encN s)).drop (Int.toNat 0) = MAG := rfl
  rw [e1, show strOf MAG = ByteArray.mk #[112, 108, 97, 116, 101, 110, 65, 49] from rfl, strEq_self]
  simp only [Bool.not_true, Option.bind_some, cond_false]
  rw [bindS_eq (by omega) (by rw [hL]; omega) (by omega)]
  have e2 : (List.take (Int.toNat ((MAG ++ encA a ++ encN s).length : Int)) (MAG ++ encA a ++ encN s)).drop (Int.toNat (((encA a).length : Int) + 8)) = encN s := by
    rw [Int.toNat_natCast, List.take_length, show Int.toNat (((encA a).length : Int) + 8) = (MAG ++ encA a).length by rw [List.length_append, MAG_len]; omega, List.drop_left]
  rw [e2]
  have e3 := (rd53 (k := k) (by omega)).fwd s [] hi nil_byt (by rw [List.append_nil, encN_len]; decide)
  rw [List.append_nil] at e3
  rw [e3]
  simp only [Option.bind_some]
  rw [bindS_eq (by omega) (by omega) (by rw [hL]; omega)]
  have e4 : (List.take (Int.toNat (((encA a).length : Int) + 8)) (MAG ++ encA a ++ encN s)).drop (Int.toNat 0) = MAG ++ encA a := by
    rw [show Int.toNat (((encA a).length : Int) + 8) = (MAG ++ encA a).length by rw [List.length_append, MAG_len]; omega, List.take_left]; rfl
  rw [e4, hs]
  simp only [Option.bind_some]
  rw [show (s != s) = false by simp, cond_false]
  rw [bindS_eq (by omega) (by omega) (by rw [hL]; omega)]
  have e5 : (List.take (Int.toNat (((encA a).length : Int) + 8)) (MAG ++ encA a ++ encN s)).drop (Int.toNat 8) = encA a := by
    rw [show Int.toNat (((encA a).length : Int) + 8) = (MAG ++ encA a).length by rw [List.length_append, MAG_len]; omega, List.take_left]; rfl
  rw [e5]
  have e6 := (rdA hk).fwd a [] hok nil_byt (by rw [List.append_nil]; omega)
  rw [List.append_nil] at e6
  rw [e6]
  simp only [Option.bind_some]
  rw [tailA_eq, if_neg (by simp only [List.length_nil]; intro h; rcases h with h | h | h; exact absurd h (by decide); omega; exact hw h)]
theorem strEq_iff {x y : ByteArray} (h : strEq x y = true) : x = y := by
  unfold strEq at h
  have := eq_of_beq h
  rw [toList_data, toList_data] at this
  obtain ⟨⟨x⟩⟩ := x; obtain ⟨⟨y⟩⟩ := y
  have h2 : x = y := this
  rw [h2]
theorem strOf_inj {l m : List Int} (hl : Byt l) (hm : Byt m) (h : strOf l = strOf m) : l = m := by
  rw [← strBytes_strOf hl, h, strBytes_strOf hm]
theorem f24_all {k : Nat} (hk : 4294967296 ≤ k) {b : List Int} (hb : Byt b) (hlen : b.length ≤ 2147483647) :
    F24 k b = some NOA ∨ ∃ y s, b = MAG ++ encA y ++ encN s ∧ okA y ∧ ¬ wrongA y ∧ F46 k (MAG ++ encA y) = some s ∧ F24 k b = some (y, 0) := by
  rw [e24]
  have hw8 : w ((b.length : Int) - 8) = (b.length : Int) - 8 := w_id (by omega) (by omega)
  rw [hw8]
  by_cases h1 : (b.length : Int) - 8 < 48
  · rw [decide_eq_true h1]; exact .inl rfl
  rw [decide_eq_false h1, cond_false, bindS_eq (by omega) (by omega) (by omega)]
  generalize hp : (List.take (Int.toNat 8) b).drop (Int.toNat 0) = p
  by_cases h2 : strEq (strOf p) (ByteArray.mk #[112, 108, 97, 116, 101, 110, 65, 49]) = true
  rotate_left
  · rw [Bool.not_eq_true] at h2; rw [h2]; exact .inl rfl
  rw [h2]
  simp only [Bool.not_true, Option.bind_some, cond_false]
  rw [bindS_eq (by omega) (by omega) (by omega), bindS_eq (by omega) (by omega) (by omega)]
  obtain ⟨n, hn⟩ : ∃ n : Nat, (b.length : Int) - 8 = n := ⟨b.length - 8, by omega⟩
  rw [hn]
  simp only [Int.toNat_natCast, List.take_length, show Int.toNat 8 = 8 from rfl, show Int.toNat 0 = 0 from rfl, List.drop_zero] at hp ⊢
  have hlast : Byt (b.drop n) := hb.drop n
  have hlastl : (b.drop n).length = 8 := by rw [List.length_drop]; omega
  rw [f53 k hlast (by omega) (by omega)]
  simp only [Option.bind_some]
  rw [bindS_eq (by omega) (by omega) (by omega)]
  simp only [Int.toNat_natCast, List.drop_zero, show Int.toNat 0 = 0 from rfl]
  rw [List.take_of_length_le (show (b.drop n).length ≤ 8 by omega)]
  obtain ⟨s, hs, hi⟩ := t46 (k := k) (a := b.take n) (by rw [List.length_take]; omega) (by rw [List.length_take]; omega)
  rw [hs]
  simp only [Option.bind_some]
  by_cases h3 : w (dec (b.drop n)) = s
  rotate_left
  · rw [show (w (dec (b.drop n)) != s) = true by simpa using h3]; exact .inl rfl
  rw [show (w (dec (b.drop n)) != s) = false by simpa using h3, cond_false]
  obtain ⟨y, b', bad', e1, hb', hl', -, hg⟩ := (rdA hk).all ((b.take n).drop 8) false ((hb.take n).drop 8) (by rw [List.length_drop, List.length_take]; omega)
  rw [e1]
  simp only [Option.bind_some]
  rw [tailA_eq]
  by_cases h4 : bad' = true ∨ 0 < b'.length ∨ wrongA y
  · rw [if_pos h4]; exact .inl rfl
  · rw [if_neg h4]
    right
    have h5 : bad' = false := by cases bad' with | true => exact absurd (.inl rfl) h4 | false => rfl
    obtain ⟨e2, hok⟩ := hg h5
    have h6 : b' = [] := List.eq_nil_of_length_eq_zero (by have := fun h => h4 (.inr (.inl h)); omega)
    rw [h6, List.append_nil] at e2
    have h7 : b.take 8 = MAG := by rw [hp]; exact strOf_inj (by rw [← hp]; exact hb.take 8) MAG_byt (strEq_iff h2)
    have h8 : (b.take n).take 8 = MAG := by rw [List.take_take, Nat.min_eq_left (by omega)]; exact h7
    have h9 : b.take n = MAG ++ encA y := by rw [← h8, ← e2, List.take_append_drop]
    have h10 : b.drop n = encN s := by rw [← h3, encN_dec hlast hlastl]
    refine ⟨y, s, by rw [← h9, ← h10, List.take_append_drop], hok, fun h => h4 (.inr (.inr h)), by rw [← h9]; exact hs, rfl⟩

/-! ### Sizes -/
theorem encL_mem {α : Type} {enc : α → List Int} : ∀ {l : List α} {x : α}, x ∈ l → (enc x).length ≤ (encL enc l).length
  | v :: l, x, h => by
    show _ ≤ (enc v ++ encL enc l).length
    rw [List.length_append]
    rcases List.mem_cons.1 h with rfl | h
    · omega
    · have := encL_mem (enc := enc) h; omega
theorem szRow_of {v : GRow} (h : (encRow v).length ≤ 2147483647) : szRow v := by
  have hl : (encRow v).length = 18 + (encL encBox v.boxes).length := by
    unfold encRow encC
    simp only [List.length_append, encN_len, encB_len, List.length_nil]
    omega
  have h1 := encL_min (enc := encBox) (m := 80) (fun v => by rw [encBox_len]; omega) v.boxes
  refine ⟨by omega, fun x hx => ?_⟩
  have h2 := encL_mem (enc := encBox) hx
  rw [encBox_len] at h2
  omega
theorem szPage_of {v : GPage} (h : (encPage v).length ≤ 2147483647) : szPage v := by
  have hl : (encPage v).length = 25 + (encL encRow v.rows).length := by
    unfold encPage encC
    simp only [List.length_append, encN_len, encB_len, List.length_nil]
    omega
  have h1 := encL_min (enc := encRow) (m := 18) encRow_min v.rows
  refine ⟨by omega, fun x hx => szRow_of ?_⟩
  have h2 := encL_mem (enc := encRow) hx
  omega
theorem szA_of {v : GAnswer} (h : (encA v).length ≤ 2147483647) : szA v := by
  have hl := encA_len v
  have h1 := encL_min (enc := encPage) (m := 25) encPage_min v.pages
  refine ⟨by omega, fun x hx => szPage_of ?_⟩
  have h2 := encL_mem (enc := encPage) hx
  omega

/-! ### The bound -/
theorem t41 (k : Nat) {a b : Int} (h1 : 0 ≤ a) (h2 : a ≤ 2147483648) (h3 : 0 ≤ b) : ∃ c, F41 k a b = some c ∧ a ≤ c ∧ c ≤ 2147483648 ∧ (c ≤ 2147483647 → c = a + b) ∧ (a + 1 ≤ c ∨ a = 2147483648 ∨ b = 0) := by
  unfold F41
  by_cases h : a > 2147483647
  · rw [decide_eq_true h]; exact ⟨_, rfl, by omega, by omega, by omega, by omega⟩
  · rw [decide_eq_false h, cond_false, w_id (n := 2147483647 - a) (by omega) (by omega)]
    by_cases h4 : b > 2147483647 - a
    · rw [decide_eq_true h4]; exact ⟨_, rfl, by omega, by omega, by omega, by omega⟩
    · rw [decide_eq_false h4]
      simp only [Option.bind_some, cond_false]
      rw [w_id (by omega) (by omega)]
      exact ⟨_, rfl, by omega, by omega, fun _ => rfl, by omega⟩
/-- a loop that counts -/
def Counts {α : Type} (W : Nat → Int → Int → Option Int) (L : List α) (G : Nat → Int → Option Int) : Prop :=
  ∀ (j : Nat) (v : Int) (i : Nat), W (j + 1) v i = if i < L.length then (if v ≤ 2147483647 then (G i v).bind fun c => W j c (w ((i : Int) + 1)) else some v) else some v
def cost {α : Type} (c : α → Nat) : List α → Nat
  | [] => 0
  | v :: l => c v + cost c l
theorem Counts.go {α : Type} {W : Nat → Int → Int → Option Int} {L : List α} {G : Nat → Int → Option Int} {ct : α → Nat} (hW : Counts W L G)
    (hG : ∀ (i : Nat) (y : α), L[i]? = some y → ∀ v, 0 ≤ v → v ≤ 2147483647 → ∃ c, G i v = some c ∧ v + 1 ≤ c ∧ c ≤ 2147483648 ∧ (c ≤ 2147483647 → c = v + ct y)) :
    ∀ (j i : Nat) (v : Int), i ≤ v → v ≤ 2147483648 → 2147483650 ≤ j + v → ∃ c, W j v i = some c ∧ v ≤ c ∧ c ≤ 2147483648 ∧ (c ≤ 2147483647 → c = v + cost ct (L.drop i))
  | 0, i, v, h1, h2, h3 => by omega
  | j + 1, i, v, h1, h2, h3 => by
    rw [hW]
    by_cases hi : i < L.length
    · rw [if_pos hi]
      by_cases hv : v ≤ 2147483647
      · rw [if_pos hv]
        obtain ⟨c, e1, h4, h5, h6⟩ := hG i _ (List.getElem?_eq_getElem hi) v (by omega) hv
        rw [e1]
        simp only [Option.bind_some]
        rw [w_id (n := (i : Int) + 1) (by omega) (by omega), show ((i : Int) + 1) = ((i + 1 : Nat) : Int) by omega]
        obtain ⟨d, e2, h7, h8, h9⟩ := Counts.go hW hG j (i + 1) c (by omega) h5 (by omega)
        refine ⟨d, e2, by omega, h8, fun h => ?_⟩
        have hd : L.drop i = L[i] :: L.drop (i + 1) := List.drop_eq_getElem_cons hi
        rw [hd]
        have := h6 (by omega)
        have := h9 h
        show d = v + ((ct L[i] + cost ct (L.drop (i + 1)) : Nat) : Int)
        omega
      · rw [if_neg hv]; exact ⟨v, rfl, by omega, h2, by omega⟩
    · rw [if_neg hi]
      refine ⟨v, rfl, by omega, h2, fun _ => ?_⟩
      rw [List.drop_eq_nil_of_le (by omega)]; show v = v + ((0 : Nat) : Int); omega
def ctBox (x : GBox) : Nat := 80 + x.font.size
def ctRow (x : GRow) : Nat := 32 + cost ctBox x.boxes
def ctPage (x : GPage) : Nat := 32 + cost ctRow x.rows
theorem counts3 (k : Nat) (a : GAnswer) {p r : Nat} {y : GPage} {z : GRow} (hp : a.pages[p]? = some y) (hr : y.rows[r]? = some z) : Counts (F16_l3 k a p r) z.boxes (fun i v => (F41 k v 80).bind fun c => bindI z.boxes i fun x => F41 k c (x.font.size : Int)) := fun j v i => by
  rw [F16_l3, bindI_eq (y := y) (by omega) (by simpa using hp), bindI_eq (y := z) (by omega) (by simpa using hr)]
  by_cases hi : i < z.boxes.length
  · rw [decide_eq_true (show (i : Int) < z.boxes.length by omega), if_pos hi]
    simp only [cond_true, Option.bind_some]
    by_cases hv : v ≤ 2147483647
    · rw [decide_eq_true hv, if_pos hv, cond_true, Option.bind_assoc]
      congr 1; funext c
      rw [bindI_eq (y := y) (by omega) (by simpa using hp), bindI_eq (y := z) (by omega) (by simpa using hr), bindI_bind]
    · rw [decide_eq_false hv, if_neg hv]; rfl
  · rw [decide_eq_false (by omega), if_neg hi]; rfl
theorem go3 (k : Nat) (z : GRow) : ∀ (i : Nat) (y : GBox), z.boxes[i]? = some y → ∀ v, 0 ≤ v → v ≤ 2147483647 → ∃ c, ((F41 k v 80).bind fun c => bindI z.boxes i fun x => F41 k c (x.font.size : Int)) = some c ∧ v + 1 ≤ c ∧ c ≤ 2147483648 ∧ (c ≤ 2147483647 → c = v + ctBox y) := fun i x hx v h1 h2 => by
  obtain ⟨c, e1, h3, h4, h5, h6⟩ := t41 k (a := v) (b := 80) h1 (by omega) (by omega)
  obtain ⟨d, e2, h7, h8, h9, h10⟩ := t41 k (a := c) (b := (x.font.size : Int)) (by omega) h4 (by omega)
  rw [e1]
  simp only [Option.bind_some]
  rw [bindI_eq (y := x) (by omega) (by simpa using hx)]
  refine ⟨d, e2, by omega, h8, fun h => ?_⟩
  have := h5 (by omega)
  have := h9 h
  unfold ctBox
  omega
theorem counts2 (k : Nat) (a : GAnswer) {p : Nat} {y : GPage} (hp : a.pages[p]? = some y) : Counts (F16_l2 k a p) y.rows (fun i v => (F41 k v 32).bind fun r => F16_l3 k a p i k r 0) := fun j v i => by
  rw [F16_l2, bindI_eq (y := y) (by omega) (by simpa using hp)]
  by_cases hi : i < y.rows.length
  · rw [decide_eq_true (show (i : Int) < y.rows.length by omega), if_pos hi]
    simp only [cond_true, Option.bind_some]
    by_cases hv : v ≤ 2147483647
    · rw [decide_eq_true hv, if_pos hv, cond_true]
      congr 1; congr 1; funext r
      exact Option.bind_fun_some _
    · rw [decide_eq_false hv, if_neg hv]; rfl
  · rw [decide_eq_false (by omega), if_neg hi]; rfl
theorem go2 {k : Nat} (hk : 4294967296 ≤ k) (a : GAnswer) {p : Nat} {y : GPage} (hp : a.pages[p]? = some y) : ∀ (i : Nat) (z : GRow), y.rows[i]? = some z → ∀ v, 0 ≤ v → v ≤ 2147483647 → ∃ c, ((F41 k v 32).bind fun r => F16_l3 k a p i k r 0) = some c ∧ v + 1 ≤ c ∧ c ≤ 2147483648 ∧ (c ≤ 2147483647 → c = v + ctRow z) := fun i z hz v h1 h2 => by
  obtain ⟨c, e1, h3, h4, h5, h6⟩ := t41 k (a := v) (b := 32) h1 (by omega) (by omega)
  rw [e1]
  simp only [Option.bind_some]
  obtain ⟨d, e2, h7, h8, h9⟩ := Counts.go (counts3 k a hp hz) (go3 k z) k 0 c (by omega) h4 (by omega)
  rw [show ((0 : Nat) : Int) = 0 from rfl] at e2
  refine ⟨d, e2, by omega, h8, fun h => ?_⟩
  have := h5 (by omega)
  have := h9 h
  rw [List.drop_zero] at this
  unfold ctRow
  omega
theorem counts1 (k : Nat) (a : GAnswer) : Counts (F16_l1 k a) a.pages (fun i v => (F41 k v 32).bind fun r => F16_l2 k a i k r 0) := fun j v i => by
  rw [F16_l1]
  by_cases hi : i < a.pages.length
  · rw [decide_eq_true (show (i : Int) < a.pages.length by omega), if_pos hi]
    simp only [cond_true, Option.bind_some]
    by_cases hv : v ≤ 2147483647
    · rw [decide_eq_true hv, if_pos hv, cond_true]
      congr 1; congr 1; funext r
      exact Option.bind_fun_some _
    · rw [decide_eq_false hv, if_neg hv]; rfl
  · rw [decide_eq_false (by omega), if_neg hi]; rfl
theorem go1 {k : Nat} (hk : 4294967296 ≤ k) (a : GAnswer) : ∀ (i : Nat) (y : GPage), a.pages[i]? = some y → ∀ v, 0 ≤ v → v ≤ 2147483647 → ∃ c, ((F41 k v 32).bind fun r => F16_l2 k a i k r 0) = some c ∧ v + 1 ≤ c ∧ c ≤ 2147483648 ∧ (c ≤ 2147483647 → c = v + ctPage y) := fun i z hz v h1 h2 => by
  obtain ⟨c, e1, h3, h4, h5, h6⟩ := t41 k (a := v) (b := 32) h1 (by omega) (by omega)
  rw [e1]
  simp only [Option.bind_some]
  obtain ⟨d, e2, h7, h8, h9⟩ := Counts.go (counts2 k a hz) (go2 hk a hz) k 0 c (by omega) h4 (by omega)
  rw [show ((0 : Nat) : Int) = 0 from rfl] at e2
  refine ⟨d, e2, by omega, h8, fun h => ?_⟩
  have := h5 (by omega)
  have := h9 h
  rw [List.drop_zero] at this
  unfold ctPage
  omega
theorem cost_le {α : Type} {ct : α → Nat} {enc : α → List Int} (h : ∀ v, (enc v).length ≤ ct v) : ∀ l : List α, (encL enc l).length ≤ cost ct l
  | [] => Nat.le_refl _
  | v :: l => by
    have := cost_le h l
    have := h v
    show (enc v ++ encL enc l).length ≤ ct v + cost ct l
    rw [List.length_append]; omega
theorem ctBox_le (v : GBox) : (encBox v).length ≤ ctBox v := by rw [encBox_len]; exact Nat.le_refl _
theorem ctRow_le (v : GRow) : (encRow v).length ≤ ctRow v := by
  have hl : (encRow v).length = 18 + (encL encBox v.boxes).length := by
    unfold encRow encC
    simp only [List.length_append, encN_len, encB_len, List.length_nil]
    omega
  have := cost_le ctBox_le v.boxes
  unfold ctRow
  omega
theorem ctPage_le (v : GPage) : (encPage v).length ≤ ctPage v := by
  have hl : (encPage v).length = 25 + (encL encRow v.rows).length := by
    unfold encPage encC
    simp only [List.length_append, encN_len, encB_len, List.length_nil]
    omega
  have := cost_le ctRow_le v.rows
  unfold ctPage
  omega
/-- an answer within the bound: its bytes, too -/
theorem f16 {k : Nat} (hk : 4294967296 ≤ k) (a : GAnswer) : ∃ t, F16 k a = some t ∧ (t = false → (encA a).length ≤ 2147483623) := by
  obtain ⟨c, e1, h3, h4, h5, h6⟩ := t41 k (a := 64) (b := (a.pages.length : Int)) (by omega) (by omega) (by omega)
  obtain ⟨d, e2, h7, h8, h9⟩ := Counts.go (counts1 k a) (go1 hk a) k 0 c (by omega) h4 (by omega)
  rw [show ((0 : Nat) : Int) = 0 from rfl] at e2
  refine ⟨_, by unfold F16; rw [e1]; simp only [Option.bind_some]; rw [e2]; rfl, fun h => ?_⟩
  have h10 : ¬ d > 2147483647 := of_decide_eq_false h
  have := h5 (by omega)
  have := h9 (by omega)
  rw [List.drop_zero] at this
  have := cost_le ctPage_le a.pages
  rw [encA_len]
  omega

/-! ### The sum -/
def st (x : BitVec 64) (c : Int) : BitVec 64 := (x ^^^ BitVec.ofInt 64 (w_u64 c)) * 1099511628211#64
theorem ofInt_toNat (x : BitVec 64) : BitVec.ofInt 64 (x.toNat : Int) = x := by
  rw [BitVec.ofInt_natCast]; exact BitVec.eq_of_toNat_eq (by rw [BitVec.toNat_ofNat]; exact Nat.mod_eq_of_lt x.isLt)
theorem step_eq (x : BitVec 64) (c : Int) : w_u64 ((bxor_u64 (x.toNat : Int) (w_u64 c)) * 1099511628211) = ((st x c).toNat : Int) := by
  unfold bxor_u64 st
  rw [ofInt_toNat]
  generalize x ^^^ BitVec.ofInt 64 (w_u64 c) = y
  have hy : IntKind.u64.wrap (y.toNat : Int) = (y.toNat : Int) := by
    show w_u64 _ = _
    have := y.isLt
    rw [u64_eq]; omega
  rw [hy, u64_eq, BitVec.toNat_mul]
  rw [show (1099511628211#64).toNat = 1099511628211 from rfl]
  omega
theorem sum_l (k : Nat) (a : List Int) (ha : a.length ≤ 4294967296) : ∀ (j i : Nat) (x : BitVec 64), i ≤ a.length → a.length < j + i → F46_l1 k a j (x.toNat : Int) i = some (((a.drop i).foldl st x).toNat : Int)
  | 0, i, x, h1, h2 => by omega
  | j + 1, i, x, h1, h2 => by
    unfold F46_l1
    by_cases hi : i < a.length
    · rw [decide_eq_true (show (i : Int) < a.length by omega), cond_true]
      have hy : a[(i : Int).toNat]? = some a[i] := by rw [show (i : Int).toNat = i by omega]; exact List.getElem?_eq_getElem hi
      rw [bindI_eq (by omega) hy, step_eq, w_id (n := (i : Int) + 1) (by omega) (by omega), show ((i : Int) + 1) = ((i + 1 : Nat) : Int) by omega]
      rw [sum_l k a ha j (i + 1) _ (by omega) (by omega), List.drop_eq_getElem_cons hi]; rfl
    · rw [decide_eq_false (by omega), cond_false, List.drop_eq_nil_of_le (by omega)]; rfl
def SUM (a : List Int) : BitVec 64 := a.foldl st 14695981039346656037#64
theorem sum_eq {k : Nat} {a : List Int} (ha : a.length ≤ 4294967296) (hk : a.length < k) : F46 k a = some (w ((SUM a).toNat : Int)) := by
  have e := sum_l k a ha k 0 14695981039346656037#64 (by omega) (by omega)
  rw [show ((14695981039346656037#64).toNat : Int) = 14695981039346656037 from rfl, show ((0 : Nat) : Int) = 0 from rfl] at e
  unfold F46
  rw [e]; rfl
theorem w_inj {x y : BitVec 64} (h : w (x.toNat : Int) = w (y.toNat : Int)) : x = y := by
  have h1 : w_u64 (w (x.toNat : Int)) = (x.toNat : Int) := by have := x.isLt; rw [u64_eq, w_eq]; split <;> omega
  have h2 : w_u64 (w (y.toNat : Int)) = (y.toNat : Int) := by have := y.isLt; rw [u64_eq, w_eq]; split <;> omega
  rw [h, h2] at h1
  exact BitVec.eq_of_toNat_eq (by omega)
theorem st_inj {x y : BitVec 64} {c d : Int} (h : st x c = st y d) : x ^^^ BitVec.ofInt 64 (w_u64 c) = y ^^^ BitVec.ofInt 64 (w_u64 d) := by
  unfold st at h
  have h2 := congrArg (· * 14886173955864302971#64) h
  simp only [BitVec.mul_assoc] at h2
  rw [show (1099511628211#64 : BitVec 64) * 14886173955864302971#64 = 1#64 by decide, BitVec.mul_one, BitVec.mul_one] at h2
  exact h2
theorem xor_cancel {n : Nat} {x y z : BitVec n} (h : x ^^^ z = y ^^^ z) : x = y := by
  have := congrArg (· ^^^ z) h
  simpa [BitVec.xor_assoc] using this
theorem fold_inj : ∀ (l : List Int) (x y : BitVec 64), l.foldl st x = l.foldl st y → x = y
  | [], x, y, h => h
  | c :: l, x, y, h => xor_cancel (st_inj (fold_inj l _ _ h))
/-- one byte turned: another sum -/
theorem sum_set {l : List Int} {i : Nat} {c d : Int} (hi : l[i]? = some c) (h : SUM (l.set i d) = SUM l) (hc : 0 ≤ c ∧ c < 256) (hd : 0 ≤ d ∧ d < 256) : d = c := by
  have hlt : i < l.length := by
    rcases Nat.lt_or_ge i l.length with h1 | h1
    · exact h1
    · rw [List.getElem?_eq_none h1] at hi; cases hi
  have hci : l[i] = c := by rw [List.getElem?_eq_getElem hlt] at hi; exact Option.some.inj hi
  have e1 : l = l.take i ++ c :: l.drop (i + 1) := by rw [← hci, ← List.drop_eq_getElem_cons hlt, List.take_append_drop]
  have e2 : l.set i d = l.take i ++ d :: l.drop (i + 1) := by rw [List.set_eq_take_append_cons_drop, if_pos hlt]
  rw [e2] at h
  rw [e1] at h
  unfold SUM at h
  have e3 : (l.take i ++ c :: l.drop (i + 1)).take i = l.take i := by rw [← e1]
  have e4 : (l.take i ++ c :: l.drop (i + 1)).drop (i + 1) = l.drop (i + 1) := by rw [← e1]
  rw [e3, e4, List.foldl_append, List.foldl_append] at h
  have h2 := st_inj (fold_inj _ _ _ h)
  have h3 : BitVec.ofInt 64 (w_u64 d) = BitVec.ofInt 64 (w_u64 c) := by
    generalize List.foldl st _ (List.take i l) = z at h2
    rw [BitVec.xor_comm z, BitVec.xor_comm z] at h2
    exact xor_cancel h2
  have h4 := congrArg BitVec.toNat h3
  have e5 : w_u64 d = ((d.toNat : Nat) : Int) := by rw [u64_eq]; omega
  have e6 : w_u64 c = ((c.toNat : Nat) : Int) := by rw [u64_eq]; omega
  rw [e5, e6, BitVec.ofInt_natCast, BitVec.ofInt_natCast, BitVec.toNat_ofNat, BitVec.toNat_ofNat, Nat.mod_eq_of_lt (by omega), Nat.mod_eq_of_lt (by omega)] at h4
  omega
theorem xor8 {c bit : Int} (hc : 0 ≤ c ∧ c < 256) (h0 : 0 ≤ bit) (h1 : bit ≤ 7) : (0 ≤ bxor_u8 c (2 ^ bit.toNat) ∧ bxor_u8 c (2 ^ bit.toNat) < 256) ∧ bxor_u8 c (2 ^ bit.toNat) ≠ c := by
  unfold bxor_u8
  obtain ⟨n, rfl⟩ := Int.eq_ofNat_of_zero_le h0
  have hn : n ≤ 7 := by omega
  obtain ⟨m, rfl⟩ := Int.eq_ofNat_of_zero_le hc.1
  have hz : BitVec.ofInt 8 (2 ^ (n : Int).toNat) ≠ 0#8 := by
    rw [Int.toNat_natCast]
    rcases (show n = 0 ∨ n = 1 ∨ n = 2 ∨ n = 3 ∨ n = 4 ∨ n = 5 ∨ n = 6 ∨ n = 7 by omega) with rfl | rfl | rfl | rfl | rfl | rfl | rfl | rfl <;> decide
  generalize BitVec.ofInt 8 (2 ^ (n : Int).toNat) = z at hz
  rw [BitVec.ofInt_natCast]
  have hw : ∀ y : BitVec 8, IntKind.u8.wrap (y.toNat : Int) = (y.toNat : Int) := fun y => by
    show w_u8 _ = _
    have := y.isLt
    rw [u8_eq]; omega
  rw [hw]
  refine ⟨⟨by omega, by have := (BitVec.ofNat 8 m ^^^ z).isLt; omega⟩, fun h => hz ?_⟩
  have h2 : BitVec.ofNat 8 m ^^^ z = BitVec.ofNat 8 m := BitVec.eq_of_toNat_eq (by rw [BitVec.toNat_ofNat, Nat.mod_eq_of_lt (by omega)]; omega)
  have h3 := congrArg (BitVec.ofNat 8 m ^^^ ·) h2
  simp only [← BitVec.xor_assoc, BitVec.xor_self, BitVec.zero_xor] at h3
  exact h3

/-! ### The law -/
theorem encA_byt (a : GAnswer) : Byt (encA a) := by
  unfold encA
  exact (encN_byt _).app ((encN_byt _).app ((encN_byt _).app ((encN_byt _).app (encC_byt encPage_byt _))))
/-- an answer's bytes begin one way alone -/
theorem encA_one {k : Nat} (hk : 4294967296 ≤ k) {a y : GAnswer} {r t : List Int} (ha : okA a) (hy : okA y) (hr : Byt r) (ht : Byt t) (hl : (encA a ++ r).length ≤ 2147483647) (h : encA a ++ r = encA y ++ t) : y = a ∧ t = r := by
  have e1 := (rdA hk).fwd a r ha hr hl
  have e2 := (rdA hk).fwd y t hy ht (by rw [← h]; exact hl)
  rw [← h, e1] at e2
  cases e2
  exact ⟨rfl, rfl⟩
theorem f6 {k : Nat} (hk : 4294967296 ≤ k) {a : GAnswer} {at_ bit c : Int} (ha : okA a) (hc : 0 ≤ c ∧ c < 256) : F6 k a at_ bit c = some true := by
  obtain ⟨t, e1, h1⟩ := f16 hk a
  unfold F6
  rw [e1]
  simp only [Option.bind_some]
  cases t with
  | true => rfl
  | false =>
    simp only [cond_false]
    have hlen := h1 rfl
    have hz := szA_of (v := a) (by omega)
    by_cases hw : wrongA a
    · rw [f19_wrong hw]; rfl
    obtain ⟨s, hs, hi, e3⟩ := f19 hk hz (by omega) hw
    rw [e3]
    simp only [Option.bind_some]
    rw [show ((0 : Int) != 0) = false from rfl, cond_false]
    have hB : (MAG ++ encA a ++ encN s).length = (encA a).length + 16 := by simp only [List.length_append, MAG_len, encN_len]; omega
    have hByt : Byt (MAG ++ encA a ++ encN s) := (MAG_byt.app (encA_byt a)).app (encN_byt s)
    by_cases g1 : at_ < 0
    · rw [decide_eq_true g1]; rfl
    rw [decide_eq_false g1, cond_false]
    by_cases g2 : at_ ≥ ((MAG ++ encA a ++ encN s).length : Int)
    · rw [decide_eq_true g2]; rfl
    rw [decide_eq_false g2, cond_false]
    by_cases g3 : bit < 0
    · rw [decide_eq_true g3]; rfl
    rw [decide_eq_false g3, cond_false]
    by_cases g4 : bit > 7
    · rw [decide_eq_true g4]; rfl
    rw [decide_eq_false g4]
    simp only [Option.bind_some, cond_false]
    obtain ⟨p, rfl⟩ := Int.eq_ofNat_of_zero_le (show 0 ≤ at_ by omega)
    generalize hX : MAG ++ encA a ++ encN s = B at hB hByt g2 ⊢
    have hpl : p < B.length := by omega
    rw [bindS_eq (by omega) (by omega) (by omega), show Int.toNat 0 = 0 from rfl, Int.toNat_natCast, List.drop_zero]
    -- a beginning
    have q1 : F24 k (B.take p) = some NOA := by
      rcases f24_all hk (hByt.take p) (by rw [List.length_take]; omega) with e | ⟨y, s', e2, hy, _, _, _⟩
      · exact e
      · exfalso
        have h3 : encA a ++ encN s = encA y ++ (encN s' ++ B.drop p) := by
          have h4 : B = MAG ++ encA y ++ encN s' ++ B.drop p := by rw [← e2, List.take_append_drop]
          have h5 : MAG ++ (encA a ++ encN s) = MAG ++ (encA y ++ (encN s' ++ B.drop p)) := by
            rw [← List.append_assoc, hX]
            simp only [List.append_assoc] at h4
            exact h4
          exact List.append_cancel_left h5
        have h6 := (encA_one hk ha hy (encN_byt s) ((encN_byt s').app (hByt.drop p)) (by simp only [List.length_append, encN_len]; omega) h3).2
        have h7 := congrArg List.length h6
        simp only [List.length_append, encN_len, List.length_drop] at h7
        omega
    rw [q1]
    simp only [Option.bind_some]
    rw [show bindA 1 ([] : List Int) B _ = _ from if_pos (by simp only [List.length_nil]; omega)]
    rw [show bindA 1 ([] ++ B) [c] _ = _ from if_pos (by simp only [List.nil_append, List.length_singleton]; omega)]
    rw [List.nil_append]
    have hcB : Byt [c] := fun x hx => by rw [List.mem_singleton.1 hx]; exact hc
    -- one more behind
    have q2 : F24 k (B ++ [c]) = some NOA := by
      rcases f24_all hk (hByt.app hcB) (by rw [List.length_append, List.length_singleton]; omega) with e | ⟨y, s', e2, hy, _, _, _⟩
      · exact e
      · exfalso
        have h3 : encA a ++ (encN s ++ [c]) = encA y ++ encN s' := by
          have h5 : MAG ++ (encA a ++ (encN s ++ [c])) = MAG ++ (encA y ++ encN s') := by
            rw [← List.append_assoc MAG (encA y), ← e2, ← hX]
            simp only [List.append_assoc]
          exact List.append_cancel_left h5
        have h6 := (encA_one hk ha hy ((encN_byt s).app hcB) (encN_byt s') (by simp only [List.length_append, encN_len, List.length_singleton]; omega) h3).2
        have h7 := congrArg List.length h6
        simp only [List.length_append, encN_len, List.length_singleton] at h7
        omega
    rw [q2]
    simp only [Option.bind_some]
    -- a bit turned
    have hy0 := List.getElem?_eq_getElem hpl
    have hy1 := hByt _ (List.getElem_mem hpl)
    unfold bindFlip
    rw [bindI_eq (y := B[p]) (by omega) (by rw [Int.toNat_natCast]; exact hy0), if_pos ⟨by omega, by omega⟩, Int.toNat_natCast]
    obtain ⟨hd, hne⟩ := xor8 hy1 (show 0 ≤ bit by omega) (show bit ≤ 7 by omega)
    generalize bxor_u8 B[p] (2 ^ bit.toNat) = d at hd hne
    have hsetB : Byt (B.set p d) := fun x hx => by
      rcases List.mem_or_eq_of_mem_set hx with h | rfl
      · exact hByt x h
      · exact hd
    have q3 : F24 k (B.set p d) = some NOA := by
      rcases f24_all hk hsetB (by rw [List.length_set]; omega) with e | ⟨y, s', e2, hy, _, hs', _⟩
      · exact e
      · exfalso
        have hl := congrArg List.length e2
        simp only [List.length_set, List.length_append, MAG_len, encN_len] at hl
        have eB : B.take (8 + (encA a).length) = MAG ++ encA a := by
          rw [← hX, List.take_left' (by rw [List.length_append, MAG_len])]
        have eX : (B.set p d).take (8 + (encA a).length) = MAG ++ encA y := by
          rw [e2, List.take_left' (by rw [List.length_append, MAG_len]; omega)]
        have dB : B.drop (8 + (encA a).length) = encN s := by
          rw [← hX, List.drop_left' (by rw [List.length_append, MAG_len])]
        have dX : (B.set p d).drop (8 + (encA a).length) = encN s' := by
          rw [e2, List.drop_left' (by rw [List.length_append, MAG_len]; omega)]
        have la : (MAG ++ encA a).length = 8 + (encA a).length := by rw [List.length_append, MAG_len]
        have ly : (MAG ++ encA y).length = 8 + (encA a).length := by rw [List.length_append, MAG_len]; omega
        rw [sum_eq (by omega) (by omega)] at hs
        rw [sum_eq (by omega) (by omega)] at hs'
        by_cases h4 : p < 8 + (encA a).length
        · -- within what is summed
          have e5 : encN s' = encN s := by rw [← dX, ← dB, List.drop_set_of_lt h4]
          have hi' : I64 s' := by have := Option.some.inj hs'; rw [← this]; exact w_i64 _
          have e6 : s' = s := by rw [← dec_encN hi', e5, dec_encN hi]
          have e7 : SUM (MAG ++ encA y) = SUM (MAG ++ encA a) := w_inj (by rw [Option.some.inj hs, Option.some.inj hs', e6])
          rw [← eX, ← eB, List.take_set] at e7
          refine hne (sum_set (l := B.take (8 + (encA a).length)) (i := p) (c := B[p]) ?_ e7 hy1 hd)
          rw [List.getElem?_take, if_pos h4]; exact hy0
        · -- the sum itself
          have e5 : MAG ++ encA y = MAG ++ encA a := by rw [← eX, ← eB, List.take_set_of_le (by omega)]
          rw [e5] at hs'
          have e6 : s' = s := Option.some.inj (hs'.symm.trans hs)
          have e7 : B.set p d = B := by rw [e2, e5, e6]; exact hX
          have e8 : (B.set p d)[p]? = some d := by rw [List.getElem?_set, if_pos rfl, if_pos hpl]
          rw [e7, hy0] at e8
          exact hne (Option.some.inj e8).symm
    show (F24 k (B.set p d)).bind _ = _
    rw [q3]
    rfl
end Go.Eng.Lift
