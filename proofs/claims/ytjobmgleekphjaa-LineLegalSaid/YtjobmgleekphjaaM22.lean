/-
  Arrays of one's own, slices of them, bytes and strings; a loop's round by itself.
-/
import Derived.Test.YtjobmgleekphjaaM21
set_option linter.unusedSimpArgs false
set_option linter.unusedVariables false
namespace Go.Eng
noncomputable section
variable {P : Program} {O : FuncId → Option Value}

/-- a loop, one round at a time -/
def loop1P (P : Program) (O : FuncId → Option Value) (rnd : Option Nat) (x : Code) (Q : AX → PS → Prop) : AX → PS → Prop
  | .normal, s => PC P O rnd (.loop x) s Q
  | y, s => Q y s
theorem PC.loop1 {rnd : Option Nat} {x : Code} {s : PS} {Q : AX → PS → Prop} (h : PC P O rnd x s (loop1P P O rnd x Q)) : PC P O rnd (.loop x) s Q := fun C e a H hR hX => by
  obtain ⟨n, y, a1, H1, h1, e1, s1, k1, k2⟩ := h C e a H hR hX
  cases y with
  | normal =>
    obtain ⟨m, z, a2, H2, h3, h4⟩ := k2 C e1 a1 H1 k1 hX
    refine ⟨max n m + 1, z, a2, H2, ?_, h4⟩
    simp only [oRun, aStep, run_up (Nat.le_max_left n m) h1]
    show oRun P O (max n m) (.code rnd (.loop x) a1) H1 = _
    exact run_up (Nat.le_max_right n m) h3
  | exit id => exact ⟨n + 1, _, a1, H1, by simp only [oRun, aStep, h1]; rfl, e1, s1, k1, k2⟩
  | goto l => exact ⟨n + 1, _, a1, H1, by simp only [oRun, aStep, h1]; rfl, e1, s1, k1, k2⟩
  | ret => exact ⟨n + 1, _, a1, H1, by simp only [oRun, aStep, h1]; rfl, e1, s1, k1, k2⟩
theorem loop1P.end {rnd : Option Nat} {x : Code} {s : PS} {Q : AX → PS → Prop} (h : PC P O rnd (.loop x) s Q) : loop1P P O rnd x Q .normal s := h
theorem loop1P.ret {rnd : Option Nat} {x : Code} {s : PS} {Q : AX → PS → Prop} (h : Q .ret s) : loop1P P O rnd x Q .ret s := h
theorem loop1P.exit {rnd : Option Nat} {x : Code} {s : PS} {Q : AX → PS → Prop} {i : Nat} (h : Q (.exit i) s) : loop1P P O rnd x Q (.exit i) s := h

section
variable {s : PS} {d : Option Tmp} {ty : TypeId} {pst : String} {af : Array Edge} {gu : Option (Nat × Bool)}

/-- a place in an array of one's own -/
theorem arrAddr_ok {t el sz N k off i : Nat} {x y : Operand} {kd : IntKind} (ht : P.underlying t = some (.array N el)) (hs : tSize P el = .ok sz) (hx : s.ev x = some (.ptr k off)) (hi : s.ev y = some (.val (.int kd (i : Int)))) (hN : Nat.ble (i + 1) N = true) : OpSame P O s ⟨d, .indexAddr t x y, ty, pst, af, gu⟩ (.ptr k (off + i * sz)) :=
  .mk' rfl fun C e a H hR => by
    obtain ⟨v, h1, h2⟩ := hR.ev hx
    obtain ⟨u, h3, h4⟩ := hR.ev hi
    have e1 := h4.bool_inv; subst e1
    rw [Nat.ble_eq] at hN
    cases h2 with
    | @ptr _ _ id hk =>
      refine ⟨0, .pointer (some ⟨id, off + i * sz, none⟩), ?_, .ptr hk⟩
      simp only [aOp, AAct.ev_eval h1, AAct.ev_eval h3, bind, Except.bind, ht, natIn_at (m := (i : Int)) (n := i) rfl (by omega) (show i ≤ N - 1 by omega), hs]
      rw [if_pos (show i < N by omega)]

/-- a slice of an array of one's own -/
theorem arrSlice_ok {t el sz N k off l : Nat} {x y : Operand} (ht : P.underlying t = some (.array N el)) (hs : tSize P el = .ok sz) (hx : s.ev x = some (.ptr k off)) (hl : s.ev y = some (.val (.int .i64 (l : Int)))) (hN : Nat.ble l N = true) : OpSame P O s ⟨d, .slice t x (some y) none none, ty, pst, af, gu⟩ (.sl k (off + l * sz) (N - l) (N - l)) :=
  .mk' rfl fun C e a H hR => by
    obtain ⟨v, h1, h2⟩ := hR.ev hx
    obtain ⟨u, h3, h4⟩ := hR.ev hl
    have e1 := h4.bool_inv; subst e1
    rw [Nat.ble_eq] at hN
    cases h2 with
    | @ptr _ _ id hk =>
      refine ⟨0, .slice (some ⟨id, off + l * sz, none⟩) (N - l) (N - l), ?_, .sl hk⟩
      have hb : aBounds N N (some (.int .i64 (l : Int))) none none = .ok (l, N, N) := by
        unfold aBounds optIn
        simp only [bind, Except.bind, Option.isNone_none, Option.isSome_none, Bool.and_false, Bool.false_eq_true, if_false, natIn_at (m := (l : Int)) (n := l) rfl (by omega) hN]
        rw [if_pos ⟨hN, Nat.le_refl _⟩]
      simp only [aOp, AAct.ev_eval h1, AAct.ev_eval h3, bind, Except.bind, aSlice, ht, addrOf, hb, hs]
theorem arrSlice0_ok {t el sz N k off : Nat} {x : Operand} (ht : P.underlying t = some (.array N el)) (hs : tSize P el = .ok sz) (hx : s.ev x = some (.ptr k off)) : OpSame P O s ⟨d, .slice t x none none none, ty, pst, af, gu⟩ (.sl k off N N) :=
  .mk' rfl fun C e a H hR => by
    obtain ⟨v, h1, h2⟩ := hR.ev hx
    cases h2 with
    | @ptr _ _ id hk =>
      refine ⟨0, .slice (some ⟨id, off, none⟩) N N, ?_, .sl hk⟩
      have hb : aBounds N N none none none = .ok (0, N, N) := by
        unfold aBounds optIn
        simp only [bind, Except.bind, Option.isNone_none, Option.isSome_none, Bool.and_false, Bool.false_eq_true, if_false]
        rw [if_pos ⟨Nat.zero_le _, Nat.le_refl _⟩]
      simp only [aOp, AAct.ev_eval h1, bind, Except.bind, aSlice, ht, addrOf, hb, hs, Nat.zero_mul, Nat.add_zero, Nat.sub_zero]

theorem lenSl_ok {t el k off n c : Nat} {x : Operand} (ht : P.underlying t = some (.slice el)) (hx : s.ev x = some (.sl k off n c)) : OpSame P O s ⟨d, .call ⟨.builtin .len, #[x], #[t]⟩, ty, pst, af, gu⟩ (.val (.int .i64 (n : Int))) :=
  .mk' rfl fun C e a H hR => by
    obtain ⟨v, h1, h2⟩ := hR.ev hx
    cases h2 with
    | @sl _ _ _ _ id hk => exact ⟨0, .int .i64 n, by simp only [aOp, allR, AAct.ev_eval h1, bind, Except.bind, aLen, ht], .val rfl⟩

theorem idxSl_ok {t el sz k off n c i : Nat} {x y : Operand} {kd : IntKind} (ht : P.underlying t = some (.slice el)) (hs : tSize P el = .ok sz) (hx : s.ev x = some (.sl k off n c)) (hi : s.ev y = some (.val (.int kd (i : Int)))) (hN : Nat.ble (i + 1) n = true) : OpSame P O s ⟨d, .indexAddr t x y, ty, pst, af, gu⟩ (.ptr k (off + i * sz)) :=
  .mk' rfl fun C e a H hR => by
    obtain ⟨v, h1, h2⟩ := hR.ev hx
    obtain ⟨u, h3, h4⟩ := hR.ev hi
    have e1 := h4.bool_inv; subst e1
    rw [Nat.ble_eq] at hN
    cases h2 with
    | @sl _ _ _ _ id hk =>
      refine ⟨0, .pointer (some ⟨id, off + i * sz, none⟩), ?_, .ptr hk⟩
      simp only [aOp, AAct.ev_eval h1, AAct.ev_eval h3, bind, Except.bind, ht, natIn_at (m := (i : Int)) (n := i) rfl (by omega) (show i ≤ n - 1 by omega), hs]
      rw [if_pos (show i < n by omega)]

/-- bytes as a string -/
def strOf (l : List Int) : ByteArray := ⟨(l.map fun x => UInt8.ofNat x.toNat).toArray⟩
def strBytes (x : ByteArray) : List Int := x.data.toList.map fun b => (b.toNat : Int)
def cI_u8 (x : Int) : List PV := [.val (.int .u8 x)]

theorem bytesOf_u8 : ∀ (l : List Int), bytesOf (l.map fun x => .int .u8 x) = .ok (l.map fun x => UInt8.ofNat x.toNat)
  | [] => rfl
  | x :: l => by
    simp only [List.map_cons, bytesOf, bytesOf_u8 l, bind, Except.bind]

theorem convList_ok {a b ea : Nat} {x : Operand} {l : List Int} {tko : Option Nat} (ha : P.underlying a = some (.slice ea)) (hb : P.underlying b = some .string) (he : P.underlying ea = some (.int .u8)) (hx : s.ev x = some (.list 1 (l.map cI_u8) tko)) : OpSame P O s ⟨d, .convert a b x, ty, pst, af, gu⟩ (.val (.string (strOf l))) :=
  .mk' rfl fun C e a' H hR => by
    obtain ⟨v, h1, h2⟩ := hR.ev hx
    refine ⟨0, .string (strOf l), ?_, .val rfl⟩
    rcases lies_list h2 with ⟨rfl, h0⟩ | ⟨id, off, c, r, new, rfl, hr, hc, hesz, ht, hl, _⟩
    · have : l = [] := by simpa using h0
      subst this
      simp only [aOp, AAct.ev_eval h1, bind, Except.bind, aConvert, ha, hb, he]
      rfl
    · have hn : new = l.map fun x => .int .u8 x := by
        apply List.ext_getElem?
        intro i
        have hlen : new.length = l.length := by rw [hl.1]; simp
        rcases Nat.lt_or_ge i l.length with hi | hi
        · obtain ⟨v, k1, k2⟩ := hl.2.2.2 i (cI_u8 l[i]) 0 (.val (.int .u8 l[i])) (by rw [List.getElem?_map, List.getElem?_eq_getElem hi]; rfl) rfl
          rw [k2.bool_inv] at k1
          simp only [Nat.mul_one, Nat.add_zero] at k1
          rw [k1, List.getElem?_map, List.getElem?_eq_getElem hi]; rfl
        · rw [List.getElem?_eq_none (by omega), List.getElem?_eq_none (by simpa using hi)]
      have hrow : H.row id = .ok r := by unfold AH.row; rw [hr]
      have hread : readRow H id off (l.map cI_u8).length = .ok new := by
        unfold readRow
        simp only [Nat.mul_one] at ht
        split
        · rename_i h0
          rw [h0] at ht
          rw [← ht]
          cases (List.drop off r.cells) <;> rfl
        · simp only [hrow, bind, Except.bind]; exact ht
      simp only [aOp, AAct.ev_eval h1, bind, Except.bind, aConvert, ha, hb, he, hread, hn, bytesOf_u8]
      rfl

theorem convSl_ok {a b ea k off n c : Nat} {x : Operand} {R : PRow} {l : List Int} (ha : P.underlying a = some (.slice ea)) (hb : P.underlying b = some .string) (he : P.underlying ea = some (.int .u8)) (hx : s.ev x = some (.sl k off n c)) (hR0 : s.fr[k]? = some R) (hl : (R.cells.drop off).take n = l.map fun x => .val (.int .u8 x)) (hn : l.length = n) : OpSame P O s ⟨d, .convert a b x, ty, pst, af, gu⟩ (.val (.string (strOf l))) :=
  .mk' rfl fun C e a' H hR => by
    obtain ⟨v, h1, h2⟩ := hR.ev hx
    refine ⟨0, .string (strOf l), ?_, .val rfl⟩
    cases h2 with
    | @sl _ _ _ _ id hk =>
      obtain ⟨r, vs, q2, q3, q4, q5, q6, q7, q8⟩ := hR.h.inv.row k id R hk hR0
      have hrow : H.row id = .ok r := by unfold AH.row; rw [q2]
      have hv : (vs.drop off).take n = l.map fun x => .int .u8 x := by
        have q9 := (q8.drop off).take n
        rw [hl] at q9
        apply List.ext_getElem?
        intro i
        rcases Nat.lt_or_ge i l.length with hi | hi
        · obtain ⟨u, k1, k2⟩ := q9.at (i := i) (x := .val (.int .u8 l[i])) (by rw [List.getElem?_map, List.getElem?_eq_getElem hi]; rfl)
          rw [k2.bool_inv] at k1
          rw [k1, List.getElem?_map, List.getElem?_eq_getElem hi]; rfl
        · have := q9.1
          rw [List.getElem?_eq_none (by rw [← this]; simpa using hi), List.getElem?_eq_none (by simpa using hi)]
      have hlen : n ≤ (vs.drop off).length := by
        have := congrArg List.length hv
        rw [List.length_take, List.length_map, hn] at this
        omega
      have hread : readRow H id off n = .ok ((vs.drop off).take n) := by
        unfold readRow
        split
        · rename_i h0; subst h0; simp
        · simp only [hrow, bind, Except.bind, q7, ← List.map_drop]
          exact takeK_map hlen
      simp only [aOp, AAct.ev_eval h1, bind, Except.bind, aConvert, ha, hb, he, hread, hv, bytesOf_u8]
      rfl

/-- two strings alike -/
def strEq (a b : ByteArray) : Bool := a.toList == b.toList
theorem strBin_ok {t t2 : TypeId} {x y : Operand} {a b : ByteArray} (hx : s.ev x = some (.val (.string a))) (hy : s.ev y = some (.val (.string b))) : OpSame P O s ⟨d, .binOp .eql t x y t2, ty, pst, af, gu⟩ (.val (.bool (strEq a b))) :=
  .mk' rfl fun C e a' H hR => by
    obtain ⟨u, h1, h2⟩ := hR.ev hx
    obtain ⟨w, h3, h4⟩ := hR.ev hy
    have e1 := h2.bool_inv; subst e1
    have e2 := h4.bool_inv; subst e2
    exact ⟨0, .bool (strEq a b), by simp only [aOp, AAct.ev_eval h1, AAct.ev_eval h3, bind, Except.bind, bothPtr, Bool.false_eq_true, if_false]; rfl, .val rfl⟩
theorem strNe_ok {t t2 : TypeId} {x y : Operand} {a b : ByteArray} (hx : s.ev x = some (.val (.string a))) (hy : s.ev y = some (.val (.string b))) : OpSame P O s ⟨d, .binOp .neq t x y t2, ty, pst, af, gu⟩ (.val (.bool (!strEq a b))) :=
  .mk' rfl fun C e a' H hR => by
    obtain ⟨u, h1, h2⟩ := hR.ev hx
    obtain ⟨w, h3, h4⟩ := hR.ev hy
    have e1 := h2.bool_inv; subst e1
    have e2 := h4.bool_inv; subst e2
    exact ⟨0, .bool (!strEq a b), by simp only [aOp, AAct.ev_eval h1, AAct.ev_eval h3, bind, Except.bind, bothPtr, Bool.false_eq_true, if_false]; rfl, .val rfl⟩

/-- an array's part -/
theorem idxAgg_ok {t el sz N i : Nat} {x y : Operand} {kd : IntKind} {l : List PV} {p : PV} (ht : P.underlying t = some (.array N el)) (hs : tSize P el = .ok sz) (ha : tAgg P el = .ok false) (hx : s.ev x = some (.agg l)) (hi : s.ev y = some (.val (.int kd (i : Int)))) (hN : Nat.ble (i + 1) N = true) (hp : l[i * sz]? = some p) : OpSame P O s ⟨d, .index t x y, ty, pst, af, gu⟩ p :=
  .mk' rfl fun C e a H hR => by
    obtain ⟨v, h1, h2⟩ := hR.ev hx
    obtain ⟨u, h3, h4⟩ := hR.ev hi
    have e1 := h4.bool_inv; subst e1
    rw [Nat.ble_eq] at hN
    cases h2 with
    | @agg _ _ vs hl hh =>
      obtain ⟨w, hw⟩ := get_of_lt (l := vs) (i := i * sz) (by rw [← hl]; exact lt_of_get hp)
      refine ⟨0, w, ?_, hh _ _ _ hp hw⟩
      simp only [aOp, AAct.ev_eval h1, AAct.ev_eval h3, bind, Except.bind, ht, natIn_at (m := (i : Int)) (n := i) rfl (by omega) (show i ≤ N - 1 by omega), hs]
      rw [if_pos (show i < N by omega)]
      simp only [partAt', ha, bind, Except.bind, Bool.false_eq_true, if_false, hw]
end
end
end Go.Eng
