import Derived.Test.YtjobmgleekphjaaE24
import Derived.Test.YtjobmgleekphjaaProg
import Derived.KernelRfl
set_option linter.unusedVariables false
set_option linter.unusedSimpArgs false
namespace Go.Eng.T3
open Go.Proofs

/-- what is known beforehand: the document's examples hold -/
noncomputable def orc : FuncId → Option Value := fun f => pick (Nat.beq f 28) (some (.bool true)) none

theorem leN {n m : Nat} (h : Nat.ble n m = true) : n ≤ m := Nat.le_of_ble_eq_true h

def within (n lo hi : Int) : Int := if (if hi < n then hi else n) > lo then (if hi < n then hi else n) else lo
def between (n lo hi : Int) : Int := if n < lo then lo else if n > hi then hi else n

structure ItemV where
  kind : Int
  font : ByteArray
  size : Int
  rune : Int
  width : Int
  height : Int
  depth : Int
  stretch : Int
  shrink : Int
  value : Int
  flag : Bool
  from_ : Int
  to : Int
def itemL (x : ItemV) : List Value := [.int .i64 x.kind, .string x.font, .int .i64 x.size, .int .i64 x.rune, .int .i64 x.width, .int .i64 x.height, .int .i64 x.depth, .int .i64 x.stretch, .int .i64 x.shrink, .int .i64 x.value, .bool x.flag, .int .i64 x.from_, .int .i64 x.to]
structure LineV where
  first : Int
  last : Int
  brk : Int
  natural : Int
  stretch : Int
  shrink : Int
  short : Int
  bad : Int
  cls : Int
  over : Bool
  hyphen : Bool
  fin : Bool
  height : Int
  depth : Int
def lineV (x : LineV) : Value := .agg #[.int .i64 x.first, .int .i64 x.last, .int .i64 x.brk, .int .i64 x.natural, .int .i64 x.stretch, .int .i64 x.shrink, .int .i64 x.short, .int .i64 x.bad, .int .i64 x.cls, .bool x.over, .bool x.hyphen, .bool x.fin, .int .i64 x.height, .int .i64 x.depth]

def Items (H : AH) (p : Option Addr) (L : List ItemV) : Prop := L = [] ∨ ∃ id off r, p = some ⟨id, off, none⟩ ∧ Has H id (.row r) ∧
  ∀ (i : Nat) (x : ItemV), L[i]? = some x → ∀ (f : Nat) (v : Value), (itemL x)[f]? = some v → r.cells[off + i * 13 + f]? = some (some v)
theorem items_at {H : AH} {p : Option Addr} {L : List ItemV} (h : Items H p L) {i : Nat} {x : ItemV} (hx : L[i]? = some x) : ∃ id off r, p = some ⟨id, off, none⟩ ∧ Has H id (.row r) ∧
    ∀ (f : Nat) (v : Value), (itemL x)[f]? = some v → r.cells[off + i * 13 + f]? = some (some v) := by
  rcases h with rfl | ⟨id, off, r, h1, h2, h4⟩
  · simp at hx
  · exact ⟨id, off, r, h1, h2, h4 i x hx⟩

def demP (L : List ItemV) (y : LineV) (d : Int) : Int :=
  if y.brk ≥ 0 then (if y.brk < L.length then (match L[y.brk.toNat]? with
    | some i => if i.kind = 4 then (if i.value ≥ 0 then IntKind.i64.wrap (d + IntKind.i64.wrap ((if 10000 < i.value then 10000 else i.value) * (if 10000 < i.value then 10000 else i.value))) else if i.value > -10000 then IntKind.i64.wrap (d - IntKind.i64.wrap (i.value * i.value)) else d) else d
    | none => d) else d) else d
def demE (d k : Int) : Int := if k > 1 then IntKind.i64.wrap (d + 3000) else if k < -1 then IntKind.i64.wrap (d + 3000) else d
def demCl (x : LineV) : Int := if x.first ≥ 0 then within x.cls 0 3 else 1
def demH (x y : LineV) (d : Int) : Int := if x.first ≥ 0 then (if x.hyphen = true then (if y.hyphen = true then IntKind.i64.wrap (d + 3000) else d) else d) else d
def dem (L : List ItemV) (x y : LineV) : Int := demE (demH x y (demP L y (IntKind.i64.wrap (IntKind.i64.wrap (10 + within y.bad 0 10000) * IntKind.i64.wrap (10 + within y.bad 0 10000))))) (IntKind.i64.wrap (demCl x - within y.cls 0 3))

theorem between_within (n : Int) (hi : Int) (h : 0 ≤ hi) : between n 0 hi = within n 0 hi := by
  unfold between within
  split <;> split <;> split <;> first | rfl | omega

theorem w75 (H : AH) (n lo hi : Int) : WF1 Try.prog orc 75 [.int .i64 n, .int .i64 lo, .int .i64 hi] H (fun v H1 => v = .int .i64 (within n lo hi) ∧ H1 = H) := by
  refine WF1.call (bodyOf_mk Try.func75 rfl (leN rfl) (leN rfl) (by kernel_rfl)) rfl ?_
  refine WC.region ?_
  refine WO.assign rfl rfl rfl ?_
  refine WO.nil ?_
  refine WC.region ?_
  refine WO.move rfl rfl rfl ?_
  refine WO.move rfl rfl rfl ?_
  refine WO.move rfl rfl rfl ?_
  refine WO.min rfl rfl rfl rfl ?_
  refine WO.max rfl rfl rfl rfl ?_
  refine WO.assign rfl rfl rfl ?_
  refine WO.nil ?_
  refine WC.ret' ?_
  refine ⟨.inr rfl, rfl, _, res1 rfl, ?_⟩
  exact ⟨rfl, rfl⟩

theorem w76 (H : AH) (n lo hi : Int) : WF1 Try.prog orc 76 [.int .i64 n, .int .i64 lo, .int .i64 hi] H (fun v H1 => v = .int .i64 (between n lo hi) ∧ H1 = H) := by
  refine WF1.call (bodyOf_mk Try.func76 rfl (leN rfl) (leN rfl) (by kernel_rfl)) rfl ?_
  refine WC.region ?_
  refine WO.assign rfl rfl rfl ?_
  refine WO.nil ?_
  refine WC.assoc ?_
  refine WC.region ?_
  refine WO.move rfl rfl rfl ?_
  refine WO.move rfl rfl rfl ?_
  refine WO.bin rfl rfl rfl rfl rfl ?_
  refine WO.nil ?_
  refine WC.cond rfl (fun h1 => ?_) (fun h1 => ?_)
  · have f2 := h1
    try simp only [decide_eq_true_eq, decide_eq_false_iff_not, beq_iff_eq, bne_iff_ne, beq_eq_false_iff_ne, bne_eq_false_iff_eq, Bool.not_eq_true', Bool.not_eq_false', ne_eq, Decidable.not_not] at f2
    first
    | (exfalso; omega)
    | refine WC.assoc ?_
      refine WC.region ?_
      refine WO.move rfl rfl rfl ?_
      refine WO.assign rfl rfl rfl ?_
      refine WO.nil ?_
      refine WC.ret ?_
      refine ⟨.inr rfl, rfl, _, res1 rfl, ?_⟩
      exact ⟨by unfold between; (repeat' (first | rfl | rw [if_pos (by omega)] | rw [if_neg (by omega)] | rw [if_pos (by assumption)] | rw [if_neg (by first | assumption | (rw [Bool.not_eq_true]; assumption))] | split)), rfl⟩
  · have f3 := h1
    try simp only [decide_eq_true_eq, decide_eq_false_iff_not, beq_iff_eq, bne_iff_ne, beq_eq_false_iff_ne, bne_eq_false_iff_eq, Bool.not_eq_true', Bool.not_eq_false', ne_eq, Decidable.not_not] at f3
    first
    | (exfalso; omega)
    | refine WC.noop ?_
      refine WC.assoc ?_
      refine WC.region ?_
      refine WO.move rfl rfl rfl ?_
      refine WO.move rfl rfl rfl ?_
      refine WO.bin rfl rfl rfl rfl rfl ?_
      refine WO.nil ?_
      refine WC.cond rfl (fun h4 => ?_) (fun h4 => ?_)
      · have f5 := h4
        try simp only [decide_eq_true_eq, decide_eq_false_iff_not, beq_iff_eq, bne_iff_ne, beq_eq_false_iff_ne, bne_eq_false_iff_eq, Bool.not_eq_true', Bool.not_eq_false', ne_eq, Decidable.not_not] at f5
        first
        | (exfalso; omega)
        | refine WC.assoc ?_
          refine WC.region ?_
          refine WO.move rfl rfl rfl ?_
          refine WO.assign rfl rfl rfl ?_
          refine WO.nil ?_
          refine WC.ret ?_
          refine ⟨.inr rfl, rfl, _, res1 rfl, ?_⟩
          exact ⟨by unfold between; (repeat' (first | rfl | rw [if_pos (by omega)] | rw [if_neg (by omega)] | rw [if_pos (by assumption)] | rw [if_neg (by first | assumption | (rw [Bool.not_eq_true]; assumption))] | split)), rfl⟩
      · have f6 := h4
        try simp only [decide_eq_true_eq, decide_eq_false_iff_not, beq_iff_eq, bne_iff_ne, beq_eq_false_iff_ne, bne_eq_false_iff_eq, Bool.not_eq_true', Bool.not_eq_false', ne_eq, Decidable.not_not] at f6
        first
        | (exfalso; omega)
        | refine WC.noop ?_
          refine WC.region ?_
          refine WO.move rfl rfl rfl ?_
          refine WO.assign rfl rfl rfl ?_
          refine WO.nil ?_
          refine WC.ret' ?_
          refine ⟨.inr rfl, rfl, _, res1 rfl, ?_⟩
          exact ⟨by unfold between; (repeat' (first | rfl | rw [if_pos (by omega)] | rw [if_neg (by omega)] | rw [if_pos (by assumption)] | rw [if_neg (by first | assumption | (rw [Bool.not_eq_true]; assumption))] | split)), rfl⟩

set_option maxRecDepth 100000 in
set_option maxHeartbeats 4000000 in
theorem d36 (H : AH) (L : List ItemV) (p : Option Addr) (c : Nat) (hL : Items H p L) (hN : H.next + 2 ≤ 1099511627776) (ah ln : LineV) : WF1 Try.prog orc 36 [.slice p L.length c, lineV ah, lineV ln] H (fun v H1 => v = .int .i64 (dem L ah ln) ∧ Ext H H1 2) := by
  refine WF1.call (bodyOf_mk Try.func36 rfl (leN rfl) (leN rfl) (by kernel_rfl)) rfl ?_
  refine WC.region ?_
  refine WO.boxE rfl rfl (by omega) rfl (fun H1 E2 g3 => ?_)
  have bE2 := E2.2.1
  have cE2 := E2.1
  refine WO.boxE rfl rfl (by omega) rfl (fun H4 E5 g6 => ?_)
  have bE5 := E5.2.1
  have cE5 := E5.1
  refine WO.assign rfl rfl rfl ?_
  refine WO.nil ?_
  refine WC.region ?_
  refine WO.fieldAddr rfl (Try.underlying57) rfl rfl rfl rfl rfl ?_
  refine WO.load rfl rfl rfl g6.get rfl rfl ?_
  refine WO.call rfl rfl (evs_cons rfl (evs_cons rfl (evs_cons rfl evs_nil))) rfl (w75 _ _ _ _) ?_
  rintro _ HX ⟨rfl, h7⟩
  rw [h7]
  clear h7 HX
  refine WO.bin rfl rfl rfl rfl rfl ?_
  refine WO.assign rfl rfl rfl ?_
  refine WO.nil ?_
  refine WC.region ?_
  refine WO.move rfl rfl rfl ?_
  refine WO.move rfl rfl rfl ?_
  refine WO.bin rfl rfl rfl rfl rfl ?_
  refine WO.assign rfl rfl rfl ?_
  refine WO.nil ?_
  refine WC.join (fun aJ HJ => ∃ (d : Int), Good 10 aJ.tm ∧ aJ.n = Try.f36.ntmps ∧ aJ.marks = [] ∧ aJ.tm.get 4 = some (Value.pointer (some ⟨H.next, 0, none⟩)) ∧ aJ.tm.get 5 = some (Value.pointer (some ⟨H1.next, 0, none⟩)) ∧ aJ.tm.get 6 = some (Value.int .i64 (0)) ∧ aJ.tm.get 8 = some (Value.int .i64 (d)) ∧ HJ = H4 ∧ d = demP L ln (IntKind.i64.wrap (IntKind.i64.wrap (10 + within ln.bad 0 10000) * IntKind.i64.wrap (10 + within ln.bad 0 10000)))) ?_ ?_
  · skip
    refine WC.assoc ?_
    refine WC.region ?_
    refine WO.fieldAddr rfl (Try.underlying57) rfl rfl rfl rfl rfl ?_
    refine WO.load rfl rfl rfl g6.get rfl rfl ?_
    refine WO.assign rfl rfl rfl ?_
    refine WO.nil ?_
    refine WC.assoc ?_
    refine WC.region ?_
    refine WO.move rfl rfl rfl ?_
    refine WO.bin rfl rfl rfl rfl rfl ?_
    refine WO.move rfl rfl rfl ?_
    refine WO.split (t := 24) rfl (fun h8 => ?_) (fun h8 => ?_)
    · have f9 := h8
      try simp only [decide_eq_true_eq, decide_eq_false_iff_not, beq_iff_eq, bne_iff_ne, beq_eq_false_iff_ne, bne_eq_false_iff_eq, Bool.not_eq_true', Bool.not_eq_false', ne_eq, Decidable.not_not] at f9
      first
      | (exfalso; omega)
      | refine WO.move (wanted_yes rfl rfl rfl rfl h8) rfl rfl ?_
        refine WO.move (wanted_yes rfl rfl rfl rfl h8) rfl rfl ?_
        refine WO.len (wanted_yes rfl rfl rfl rfl h8) (Try.underlying42) rfl rfl ?_
        refine WO.bin (wanted_yes rfl rfl rfl rfl h8) rfl rfl rfl rfl ?_
        refine WO.pickT rfl rfl h8 rfl rfl ?_
        refine WO.move rfl rfl rfl ?_
        refine WO.split (t := 30) rfl (fun h10 => ?_) (fun h10 => ?_)
        · have f11 := h10
          try simp only [decide_eq_true_eq, decide_eq_false_iff_not, beq_iff_eq, bne_iff_ne, beq_eq_false_iff_ne, bne_eq_false_iff_eq, Bool.not_eq_true', Bool.not_eq_false', ne_eq, Decidable.not_not] at f11
          first
          | (exfalso; omega)
          | refine WO.move (wanted_yes rfl rfl rfl rfl h10) rfl rfl ?_
            refine WO.move (wanted_yes rfl rfl rfl rfl h10) rfl rfl ?_
            obtain ⟨y12, hy13⟩ : ∃ y12, L[(ln.brk).toNat]? = some y12 := ⟨_, List.getElem?_eq_getElem (by first | omega | (simp only [List.length_append, List.length_singleton]; omega))⟩
            obtain ⟨id14, of15, r16, hp17, hr18, hc19⟩ := items_at hL hy13
            subst hp17
            refine WO.indexAddr (wanted_yes rfl rfl rfl rfl h10) (Try.underlying42) rfl rfl rfl (by omega) rfl ?_
            refine WO.fieldAddr (wanted_yes rfl rfl rfl rfl h10) (Try.underlying71) rfl rfl rfl rfl rfl ?_
            refine WO.load (wanted_yes rfl rfl rfl rfl h10) rfl rfl (E5.has (E2.has hr18)).get (hc19 _ _ rfl) rfl ?_
            refine WO.bin (wanted_yes rfl rfl rfl rfl h10) rfl rfl rfl rfl ?_
            refine WO.pickT rfl rfl h10 rfl rfl ?_
            refine WO.nil ?_
            refine WC.cond rfl (fun h20 => ?_) (fun h20 => ?_)
            · have f21 := h20
              try simp only [decide_eq_true_eq, decide_eq_false_iff_not, beq_iff_eq, bne_iff_ne, beq_eq_false_iff_ne, bne_eq_false_iff_eq, Bool.not_eq_true', Bool.not_eq_false', ne_eq, Decidable.not_not] at f21
              first
              | (exfalso; omega)
              | refine WC.assoc ?_
                refine WC.region ?_
                refine WO.move rfl rfl rfl ?_
                refine WO.move rfl rfl rfl ?_
                refine WO.indexAddr rfl (Try.underlying42) rfl rfl rfl (by omega) rfl ?_
                refine WO.fieldAddr rfl (Try.underlying71) rfl rfl rfl rfl rfl ?_
                refine WO.load rfl rfl rfl (E5.has (E2.has hr18)).get (hc19 _ _ rfl) rfl ?_
                refine WO.assign rfl rfl rfl ?_
                refine WO.nil ?_
                refine WC.block ?_
                refine WC.region ?_
                refine WO.move rfl rfl rfl ?_
                refine WO.bin rfl rfl rfl rfl rfl ?_
                refine WO.assign rfl rfl rfl ?_
                refine WO.nil ?_
                refine WC.lone ?_
                refine WC.cond rfl (fun h22 => ?_) (fun h22 => ?_)
                · have f23 := h22
                  try simp only [decide_eq_true_eq, decide_eq_false_iff_not, beq_iff_eq, bne_iff_ne, beq_eq_false_iff_ne, bne_eq_false_iff_eq, Bool.not_eq_true', Bool.not_eq_false', ne_eq, Decidable.not_not] at f23
                  first
                  | (exfalso; omega)
                  | refine WC.assoc ?_
                    refine WC.region ?_
                    refine WO.move rfl rfl rfl ?_
                    refine WO.min rfl rfl rfl rfl ?_
                    refine WO.assign rfl rfl rfl ?_
                    refine WO.nil ?_
                    refine WC.region ?_
                    refine WO.move rfl rfl rfl ?_
                    refine WO.move rfl rfl rfl ?_
                    refine WO.move rfl rfl rfl ?_
                    refine WO.bin rfl rfl rfl rfl rfl ?_
                    refine WO.bin rfl rfl rfl rfl rfl ?_
                    refine WO.assign rfl rfl rfl ?_
                    refine WO.nil ?_
                    refine WC.skip ?_
                    refine blockK.end ?_
                    refine WC.skip ?_
                    refine joinK.end ?_
                    refine ⟨(IntKind.i64.wrap ((IntKind.i64.wrap ((IntKind.i64.wrap (10 + (within ln.bad 0 10000))) * (IntKind.i64.wrap (10 + (within ln.bad 0 10000))))) + (IntKind.i64.wrap ((if 10000 < y12.value then 10000 else y12.value) * (if 10000 < y12.value then 10000 else y12.value))))), (by repeat (first | exact Good.start | assumption | refine Good.upd ?_ _ _)), rfl, rfl, rfl, rfl, rfl, rfl, rfl, ?_⟩
                    · (first | rfl | (unfold demP; (try simp only [hy13]); (repeat' (first | rfl | rw [if_pos (by omega)] | rw [if_neg (by omega)] | rw [if_pos (by assumption)] | rw [if_neg (by first | assumption | (rw [Bool.not_eq_true]; assumption))] | split))))
                · have f24 := h22
                  try simp only [decide_eq_true_eq, decide_eq_false_iff_not, beq_iff_eq, bne_iff_ne, beq_eq_false_iff_ne, bne_eq_false_iff_eq, Bool.not_eq_true', Bool.not_eq_false', ne_eq, Decidable.not_not] at f24
                  first
                  | (exfalso; omega)
                  | refine WC.assoc ?_
                    refine WC.region ?_
                    refine WO.move rfl rfl rfl ?_
                    refine WO.bin rfl rfl rfl rfl rfl ?_
                    refine WO.assign rfl rfl rfl ?_
                    refine WO.nil ?_
                    refine WC.cond rfl (fun h25 => ?_) (fun h25 => ?_)
                    · have f26 := h25
                      try simp only [decide_eq_true_eq, decide_eq_false_iff_not, beq_iff_eq, bne_iff_ne, beq_eq_false_iff_ne, bne_eq_false_iff_eq, Bool.not_eq_true', Bool.not_eq_false', ne_eq, Decidable.not_not] at f26
                      first
                      | (exfalso; omega)
                      | refine WC.region ?_
                        refine WO.move rfl rfl rfl ?_
                        refine WO.move rfl rfl rfl ?_
                        refine WO.move rfl rfl rfl ?_
                        refine WO.bin rfl rfl rfl rfl rfl ?_
                        refine WO.bin rfl rfl rfl rfl rfl ?_
                        refine WO.assign rfl rfl rfl ?_
                        refine WO.nil ?_
                        refine WC.skip ?_
                        refine blockK.end ?_
                        refine WC.skip ?_
                        refine joinK.end ?_
                        refine ⟨(IntKind.i64.wrap ((IntKind.i64.wrap ((IntKind.i64.wrap (10 + (within ln.bad 0 10000))) * (IntKind.i64.wrap (10 + (within ln.bad 0 10000))))) - (IntKind.i64.wrap (y12.value * y12.value)))), (by repeat (first | exact Good.start | assumption | refine Good.upd ?_ _ _)), rfl, rfl, rfl, rfl, rfl, rfl, rfl, ?_⟩
                        · (first | rfl | (unfold demP; (try simp only [hy13]); (repeat' (first | rfl | rw [if_pos (by omega)] | rw [if_neg (by omega)] | rw [if_pos (by assumption)] | rw [if_neg (by first | assumption | (rw [Bool.not_eq_true]; assumption))] | split))))
                    · have f27 := h25
                      try simp only [decide_eq_true_eq, decide_eq_false_iff_not, beq_iff_eq, bne_iff_ne, beq_eq_false_iff_ne, bne_eq_false_iff_eq, Bool.not_eq_true', Bool.not_eq_false', ne_eq, Decidable.not_not] at f27
                      first
                      | (exfalso; omega)
                      | refine WC.noop ?_
                        refine WC.skip ?_
                        refine blockK.end ?_
                        refine WC.skip ?_
                        refine joinK.end ?_
                        refine ⟨(IntKind.i64.wrap ((IntKind.i64.wrap (10 + (within ln.bad 0 10000))) * (IntKind.i64.wrap (10 + (within ln.bad 0 10000))))), (by repeat (first | exact Good.start | assumption | refine Good.upd ?_ _ _)), rfl, rfl, rfl, rfl, rfl, rfl, rfl, ?_⟩
                        · (first | rfl | (unfold demP; (try simp only [hy13]); (repeat' (first | rfl | rw [if_pos (by omega)] | rw [if_neg (by omega)] | rw [if_pos (by assumption)] | rw [if_neg (by first | assumption | (rw [Bool.not_eq_true]; assumption))] | split))))
            · have f28 := h20
              try simp only [decide_eq_true_eq, decide_eq_false_iff_not, beq_iff_eq, bne_iff_ne, beq_eq_false_iff_ne, bne_eq_false_iff_eq, Bool.not_eq_true', Bool.not_eq_false', ne_eq, Decidable.not_not] at f28
              first
              | (exfalso; omega)
              | refine WC.noop ?_
                refine WC.skip ?_
                refine joinK.end ?_
                refine ⟨(IntKind.i64.wrap ((IntKind.i64.wrap (10 + (within ln.bad 0 10000))) * (IntKind.i64.wrap (10 + (within ln.bad 0 10000))))), (by repeat (first | exact Good.start | assumption | refine Good.upd ?_ _ _)), rfl, rfl, rfl, rfl, rfl, rfl, rfl, ?_⟩
                · (first | rfl | (unfold demP; (try simp only [hy13]); (repeat' (first | rfl | rw [if_pos (by omega)] | rw [if_neg (by omega)] | rw [if_pos (by assumption)] | rw [if_neg (by first | assumption | (rw [Bool.not_eq_true]; assumption))] | split))))
        · have f29 := h10
          try simp only [decide_eq_true_eq, decide_eq_false_iff_not, beq_iff_eq, bne_iff_ne, beq_eq_false_iff_ne, bne_eq_false_iff_eq, Bool.not_eq_true', Bool.not_eq_false', ne_eq, Decidable.not_not] at f29
          first
          | (exfalso; omega)
          | refine WO.not (wanted_no rfl rfl rfl rfl h10) rfl ?_
            refine WO.not (wanted_no rfl rfl rfl rfl h10) rfl ?_
            refine WO.not (wanted_no rfl rfl rfl rfl h10) rfl ?_
            refine WO.not (wanted_no rfl rfl rfl rfl h10) rfl ?_
            refine WO.not (wanted_no rfl rfl rfl rfl h10) rfl ?_
            refine WO.not (wanted_no rfl rfl rfl rfl h10) rfl ?_
            refine WO.pickF rfl rfl h10 rfl rfl ?_
            refine WO.nil ?_
            refine WC.cond rfl (fun h => Bool.noConfusion ((rfl).symm.trans h)) (fun _ => ?_)
            refine WC.noop ?_
            refine WC.skip ?_
            refine joinK.end ?_
            refine ⟨(IntKind.i64.wrap ((IntKind.i64.wrap (10 + (within ln.bad 0 10000))) * (IntKind.i64.wrap (10 + (within ln.bad 0 10000))))), (by repeat (first | exact Good.start | assumption | refine Good.upd ?_ _ _)), rfl, rfl, rfl, rfl, rfl, rfl, rfl, ?_⟩
            · (first | rfl | (unfold demP; (repeat' (first | rfl | rw [if_pos (by omega)] | rw [if_neg (by omega)] | rw [if_pos (by assumption)] | rw [if_neg (by first | assumption | (rw [Bool.not_eq_true]; assumption))] | split))))
    · have f30 := h8
      try simp only [decide_eq_true_eq, decide_eq_false_iff_not, beq_iff_eq, bne_iff_ne, beq_eq_false_iff_ne, bne_eq_false_iff_eq, Bool.not_eq_true', Bool.not_eq_false', ne_eq, Decidable.not_not] at f30
      first
      | (exfalso; omega)
      | refine WO.not (wanted_no rfl rfl rfl rfl h8) rfl ?_
        refine WO.not (wanted_no rfl rfl rfl rfl h8) rfl ?_
        refine WO.not (wanted_no rfl rfl rfl rfl h8) rfl ?_
        refine WO.not (wanted_no rfl rfl rfl rfl h8) rfl ?_
        refine WO.pickF rfl rfl h8 rfl rfl ?_
        refine WO.move rfl rfl rfl ?_
        refine WO.not (wanted_no rfl rfl rfl rfl rfl) rfl ?_
        refine WO.not (wanted_no rfl rfl rfl rfl rfl) rfl ?_
        refine WO.not (wanted_no rfl rfl rfl rfl rfl) rfl ?_
        refine WO.not (wanted_no rfl rfl rfl rfl rfl) rfl ?_
        refine WO.not (wanted_no rfl rfl rfl rfl rfl) rfl ?_
        refine WO.not (wanted_no rfl rfl rfl rfl rfl) rfl ?_
        refine WO.pickF rfl rfl rfl rfl rfl ?_
        refine WO.nil ?_
        refine WC.cond rfl (fun h => Bool.noConfusion ((rfl).symm.trans h)) (fun _ => ?_)
        refine WC.noop ?_
        refine WC.skip ?_
        refine joinK.end ?_
        refine ⟨(IntKind.i64.wrap ((IntKind.i64.wrap (10 + (within ln.bad 0 10000))) * (IntKind.i64.wrap (10 + (within ln.bad 0 10000))))), (by repeat (first | exact Good.start | assumption | refine Good.upd ?_ _ _)), rfl, rfl, rfl, rfl, rfl, rfl, rfl, ?_⟩
        · (first | rfl | (unfold demP; (repeat' (first | rfl | rw [if_pos (by omega)] | rw [if_neg (by omega)] | rw [if_pos (by assumption)] | rw [if_neg (by first | assumption | (rw [Bool.not_eq_true]; assumption))] | split))))
  · rintro ⟨tmJ, nJ, msJ⟩ HX ⟨d, gJ31, hn, hm, q4, q5, q6, q8, hJ32, hd⟩
    obtain rfl : nJ = Try.f36.ntmps := hn
    obtain rfl : msJ = [] := hm
    have g0_1 := gJ31
    obtain ⟨j0, t1_2, t2_2, rfl, g1_2, g2_2⟩ := g0_1
    obtain ⟨j1, t3_4, t5_4, rfl, g3_4, g5_4⟩ := g1_2
    obtain ⟨j3, t7_8, t11_8, rfl, g7_8, g11_8⟩ := g3_4
    obtain ⟨j7, t15_16, t23_16, rfl, g15_16, g23_16⟩ := g7_8
    obtain ⟨j15, t31_32, t47_32, rfl, g31_32, g47_32⟩ := g15_16
    obtain ⟨j31, t63_64, t95_64, rfl, g63_64, g95_64⟩ := g31_32
    obtain ⟨j63, t127_128, t191_128, rfl, g127_128, g191_128⟩ := g63_64
    obtain ⟨j47, t79_64, t111_64, rfl, g79_64, g111_64⟩ := g47_32
    obtain ⟨j79, t143_128, t207_128, rfl, g143_128, g207_128⟩ := g79_64
    obtain ⟨j23, t39_32, t55_32, rfl, g39_32, g55_32⟩ := g23_16
    obtain ⟨j39, t71_64, t103_64, rfl, g71_64, g103_64⟩ := g39_32
    obtain ⟨j71, t135_128, t199_128, rfl, g135_128, g199_128⟩ := g71_64
    obtain ⟨j55, t87_64, t119_64, rfl, g87_64, g119_64⟩ := g55_32
    obtain ⟨j87, t151_128, t215_128, rfl, g151_128, g215_128⟩ := g87_64
    obtain ⟨j11, t19_16, t27_16, rfl, g19_16, g27_16⟩ := g11_8
    obtain ⟨j19, t35_32, t51_32, rfl, g35_32, g51_32⟩ := g19_16
    obtain ⟨j35, t67_64, t99_64, rfl, g67_64, g99_64⟩ := g35_32
    obtain ⟨j67, t131_128, t195_128, rfl, g131_128, g195_128⟩ := g67_64
    obtain ⟨j51, t83_64, t115_64, rfl, g83_64, g115_64⟩ := g51_32
    obtain ⟨j83, t147_128, t211_128, rfl, g147_128, g211_128⟩ := g83_64
    obtain ⟨j27, t43_32, t59_32, rfl, g43_32, g59_32⟩ := g27_16
    obtain ⟨j43, t75_64, t107_64, rfl, g75_64, g107_64⟩ := g43_32
    obtain ⟨j75, t139_128, t203_128, rfl, g139_128, g203_128⟩ := g75_64
    obtain ⟨j5, t9_8, t13_8, rfl, g9_8, g13_8⟩ := g5_4
    obtain ⟨j9, t17_16, t25_16, rfl, g17_16, g25_16⟩ := g9_8
    obtain ⟨j17, t33_32, t49_32, rfl, g33_32, g49_32⟩ := g17_16
    obtain ⟨j33, t65_64, t97_64, rfl, g65_64, g97_64⟩ := g33_32
    obtain ⟨j65, t129_128, t193_128, rfl, g129_128, g193_128⟩ := g65_64
    obtain ⟨j49, t81_64, t113_64, rfl, g81_64, g113_64⟩ := g49_32
    obtain ⟨j81, t145_128, t209_128, rfl, g145_128, g209_128⟩ := g81_64
    obtain ⟨j25, t41_32, t57_32, rfl, g41_32, g57_32⟩ := g25_16
    obtain ⟨j41, t73_64, t105_64, rfl, g73_64, g105_64⟩ := g41_32
    obtain ⟨j73, t137_128, t201_128, rfl, g137_128, g201_128⟩ := g73_64
    obtain ⟨j13, t21_16, t29_16, rfl, g21_16, g29_16⟩ := g13_8
    obtain ⟨j21, t37_32, t53_32, rfl, g37_32, g53_32⟩ := g21_16
    obtain ⟨j37, t69_64, t101_64, rfl, g69_64, g101_64⟩ := g37_32
    obtain ⟨j69, t133_128, t197_128, rfl, g133_128, g197_128⟩ := g69_64
    obtain ⟨j53, t85_64, t117_64, rfl, g85_64, g117_64⟩ := g53_32
    obtain ⟨j85, t149_128, t213_128, rfl, g149_128, g213_128⟩ := g85_64
    obtain ⟨j29, t45_32, t61_32, rfl, g45_32, g61_32⟩ := g29_16
    obtain ⟨j45, t77_64, t109_64, rfl, g77_64, g109_64⟩ := g45_32
    obtain ⟨j77, t141_128, t205_128, rfl, g141_128, g205_128⟩ := g77_64
    obtain ⟨j61, t93_64, t125_64, rfl, g93_64, g125_64⟩ := g61_32
    obtain ⟨j2, t4_4, t6_4, rfl, g4_4, g6_4⟩ := g2_2
    obtain ⟨j4, t8_8, t12_8, rfl, g8_8, g12_8⟩ := g4_4
    obtain ⟨j8, t16_16, t24_16, rfl, g16_16, g24_16⟩ := g8_8
    obtain ⟨j16, t32_32, t48_32, rfl, g32_32, g48_32⟩ := g16_16
    obtain ⟨j32, t64_64, t96_64, rfl, g64_64, g96_64⟩ := g32_32
    obtain ⟨j64, t128_128, t192_128, rfl, g128_128, g192_128⟩ := g64_64
    obtain ⟨j48, t80_64, t112_64, rfl, g80_64, g112_64⟩ := g48_32
    obtain ⟨j80, t144_128, t208_128, rfl, g144_128, g208_128⟩ := g80_64
    obtain ⟨j24, t40_32, t56_32, rfl, g40_32, g56_32⟩ := g24_16
    obtain ⟨j40, t72_64, t104_64, rfl, g72_64, g104_64⟩ := g40_32
    obtain ⟨j72, t136_128, t200_128, rfl, g136_128, g200_128⟩ := g72_64
    obtain ⟨j56, t88_64, t120_64, rfl, g88_64, g120_64⟩ := g56_32
    obtain ⟨j88, t152_128, t216_128, rfl, g152_128, g216_128⟩ := g88_64
    obtain ⟨j12, t20_16, t28_16, rfl, g20_16, g28_16⟩ := g12_8
    obtain ⟨j20, t36_32, t52_32, rfl, g36_32, g52_32⟩ := g20_16
    obtain ⟨j36, t68_64, t100_64, rfl, g68_64, g100_64⟩ := g36_32
    obtain ⟨j68, t132_128, t196_128, rfl, g132_128, g196_128⟩ := g68_64
    obtain ⟨j52, t84_64, t116_64, rfl, g84_64, g116_64⟩ := g52_32
    obtain ⟨j84, t148_128, t212_128, rfl, g148_128, g212_128⟩ := g84_64
    obtain ⟨j28, t44_32, t60_32, rfl, g44_32, g60_32⟩ := g28_16
    obtain ⟨j44, t76_64, t108_64, rfl, g76_64, g108_64⟩ := g44_32
    obtain ⟨j76, t140_128, t204_128, rfl, g140_128, g204_128⟩ := g76_64
    obtain ⟨j6, t10_8, t14_8, rfl, g10_8, g14_8⟩ := g6_4
    obtain ⟨j10, t18_16, t26_16, rfl, g18_16, g26_16⟩ := g10_8
    obtain ⟨j18, t34_32, t50_32, rfl, g34_32, g50_32⟩ := g18_16
    obtain ⟨j34, t66_64, t98_64, rfl, g66_64, g98_64⟩ := g34_32
    obtain ⟨j66, t130_128, t194_128, rfl, g130_128, g194_128⟩ := g66_64
    obtain ⟨j50, t82_64, t114_64, rfl, g82_64, g114_64⟩ := g50_32
    obtain ⟨j82, t146_128, t210_128, rfl, g146_128, g210_128⟩ := g82_64
    obtain ⟨j26, t42_32, t58_32, rfl, g42_32, g58_32⟩ := g26_16
    obtain ⟨j42, t74_64, t106_64, rfl, g74_64, g106_64⟩ := g42_32
    obtain ⟨j74, t138_128, t202_128, rfl, g138_128, g202_128⟩ := g74_64
    obtain ⟨j14, t22_16, t30_16, rfl, g22_16, g30_16⟩ := g14_8
    obtain ⟨j22, t38_32, t54_32, rfl, g38_32, g54_32⟩ := g22_16
    obtain ⟨j38, t70_64, t102_64, rfl, g70_64, g102_64⟩ := g38_32
    obtain ⟨j70, t134_128, t198_128, rfl, g134_128, g198_128⟩ := g70_64
    obtain ⟨j54, t86_64, t118_64, rfl, g86_64, g118_64⟩ := g54_32
    obtain ⟨j86, t150_128, t214_128, rfl, g150_128, g214_128⟩ := g86_64
    obtain ⟨j30, t46_32, t62_32, rfl, g46_32, g62_32⟩ := g30_16
    obtain ⟨j46, t78_64, t110_64, rfl, g78_64, g110_64⟩ := g46_32
    obtain ⟨j78, t142_128, t206_128, rfl, g142_128, g206_128⟩ := g78_64
    obtain ⟨j62, t94_64, t126_64, rfl, g94_64, g126_64⟩ := g62_32
    obtain rfl : j4 = some (Value.pointer (some ⟨H.next, 0, none⟩)) := q4
    obtain rfl : j5 = some (Value.pointer (some ⟨H1.next, 0, none⟩)) := q5
    obtain rfl : j6 = some (Value.int .i64 (0)) := q6
    obtain rfl : j8 = some (Value.int .i64 (d)) := q8
    rw [hJ32]
    clear hJ32 HX
    refine WC.region ?_
    refine WO.assign rfl rfl rfl ?_
    refine WO.nil ?_
    refine WC.join (fun aJ HJ => ∃ (d2 : Int) (cl : Int), Good 10 aJ.tm ∧ aJ.n = Try.f36.ntmps ∧ aJ.marks = [] ∧ aJ.tm.get 5 = some (Value.pointer (some ⟨H1.next, 0, none⟩)) ∧ aJ.tm.get 6 = some (Value.int .i64 (0)) ∧ aJ.tm.get 8 = some (Value.int .i64 (d2)) ∧ aJ.tm.get 11 = some (Value.int .i64 (cl)) ∧ HJ = H4 ∧ d2 = demH ah ln d ∧ cl = demCl ah) ?_ ?_
    · skip
      refine WC.assoc ?_
      refine WC.region ?_
      refine WO.fieldAddr rfl (Try.underlying57) rfl rfl rfl rfl rfl ?_
      refine WO.load rfl rfl rfl (E5.has g3).get rfl rfl ?_
      refine WO.bin rfl rfl rfl rfl rfl ?_
      refine WO.nil ?_
      refine WC.cond rfl (fun h33 => ?_) (fun h33 => ?_)
      · have f34 := h33
        try simp only [decide_eq_true_eq, decide_eq_false_iff_not, beq_iff_eq, bne_iff_ne, beq_eq_false_iff_ne, bne_eq_false_iff_eq, Bool.not_eq_true', Bool.not_eq_false', ne_eq, Decidable.not_not] at f34
        first
        | (exfalso; omega)
        | refine WC.assoc ?_
          refine WC.region ?_
          refine WO.fieldAddr rfl (Try.underlying57) rfl rfl rfl rfl rfl ?_
          refine WO.load rfl rfl rfl (E5.has g3).get rfl rfl ?_
          refine WO.call rfl rfl (evs_cons rfl (evs_cons rfl (evs_cons rfl evs_nil))) rfl (w75 _ _ _ _) ?_
          rintro _ HX ⟨rfl, h35⟩
          rw [h35]
          clear h35 HX
          refine WO.assign rfl rfl rfl ?_
          refine WO.nil ?_
          refine WC.assoc ?_
          refine WC.region ?_
          refine WO.fieldAddr rfl (Try.underlying57) rfl rfl rfl rfl rfl ?_
          refine WO.load rfl rfl rfl (E5.has g3).get rfl rfl ?_
          refine WO.move rfl rfl rfl ?_
          refine WO.split (t := 69) rfl (fun h36 => ?_) (fun h36 => ?_)
          · have f37 := h36
            try simp only [decide_eq_true_eq, decide_eq_false_iff_not, beq_iff_eq, bne_iff_ne, beq_eq_false_iff_ne, bne_eq_false_iff_eq, Bool.not_eq_true', Bool.not_eq_false', ne_eq, Decidable.not_not] at f37
            first
            | (exfalso; omega)
            | refine WO.fieldAddr (wanted_yes rfl rfl rfl rfl h36) (Try.underlying57) rfl rfl rfl rfl rfl ?_
              refine WO.load (wanted_yes rfl rfl rfl rfl h36) rfl rfl g6.get rfl rfl ?_
              refine WO.pickT rfl rfl h36 rfl rfl ?_
              refine WO.nil ?_
              refine WC.cond rfl (fun h38 => ?_) (fun h38 => ?_)
              · have f39 := h38
                try simp only [decide_eq_true_eq, decide_eq_false_iff_not, beq_iff_eq, bne_iff_ne, beq_eq_false_iff_ne, bne_eq_false_iff_eq, Bool.not_eq_true', Bool.not_eq_false', ne_eq, Decidable.not_not] at f39
                first
                | (exfalso; omega)
                | refine WC.region ?_
                  refine WO.move rfl rfl rfl ?_
                  refine WO.bin rfl rfl rfl rfl rfl ?_
                  refine WO.assign rfl rfl rfl ?_
                  refine WO.nil ?_
                  refine WC.skip ?_
                  refine joinK.end ?_
                  refine ⟨(IntKind.i64.wrap (d + 3000)), (within ah.cls 0 3), (by repeat (first | exact Good.start | assumption | refine Good.upd ?_ _ _)), rfl, rfl, rfl, rfl, rfl, rfl, rfl, ?_, ?_⟩
                  · (first | rfl | (unfold demH; (repeat' (first | rfl | rw [if_pos (by omega)] | rw [if_neg (by omega)] | rw [if_pos (by assumption)] | rw [if_neg (by first | assumption | (rw [Bool.not_eq_true]; assumption))] | split))))
                  · (first | rfl | (unfold demCl; (repeat' (first | rfl | rw [if_pos (by omega)] | rw [if_neg (by omega)] | rw [if_pos (by assumption)] | rw [if_neg (by first | assumption | (rw [Bool.not_eq_true]; assumption))] | split))))
              · have f40 := h38
                try simp only [decide_eq_true_eq, decide_eq_false_iff_not, beq_iff_eq, bne_iff_ne, beq_eq_false_iff_ne, bne_eq_false_iff_eq, Bool.not_eq_true', Bool.not_eq_false', ne_eq, Decidable.not_not] at f40
                first
                | (exfalso; omega)
                | refine WC.noop ?_
                  refine WC.skip ?_
                  refine joinK.end ?_
                  refine ⟨(d), (within ah.cls 0 3), (by repeat (first | exact Good.start | assumption | refine Good.upd ?_ _ _)), rfl, rfl, rfl, rfl, rfl, rfl, rfl, ?_, ?_⟩
                  · (first | rfl | (unfold demH; (repeat' (first | rfl | rw [if_pos (by omega)] | rw [if_neg (by omega)] | rw [if_pos (by assumption)] | rw [if_neg (by first | assumption | (rw [Bool.not_eq_true]; assumption))] | split))))
                  · (first | rfl | (unfold demCl; (repeat' (first | rfl | rw [if_pos (by omega)] | rw [if_neg (by omega)] | rw [if_pos (by assumption)] | rw [if_neg (by first | assumption | (rw [Bool.not_eq_true]; assumption))] | split))))
          · have f41 := h36
            try simp only [decide_eq_true_eq, decide_eq_false_iff_not, beq_iff_eq, bne_iff_ne, beq_eq_false_iff_ne, bne_eq_false_iff_eq, Bool.not_eq_true', Bool.not_eq_false', ne_eq, Decidable.not_not] at f41
            first
            | (exfalso; omega)
            | refine WO.not (wanted_no rfl rfl rfl rfl h36) rfl ?_
              refine WO.not (wanted_no rfl rfl rfl rfl h36) rfl ?_
              refine WO.pickF rfl rfl h36 rfl rfl ?_
              refine WO.nil ?_
              refine WC.cond rfl (fun h => Bool.noConfusion ((rfl).symm.trans h)) (fun _ => ?_)
              refine WC.noop ?_
              refine WC.skip ?_
              refine joinK.end ?_
              refine ⟨(d), (within ah.cls 0 3), (by repeat (first | exact Good.start | assumption | refine Good.upd ?_ _ _)), rfl, rfl, rfl, rfl, rfl, rfl, rfl, ?_, ?_⟩
              · (first | rfl | (unfold demH; (repeat' (first | rfl | rw [if_pos (by omega)] | rw [if_neg (by omega)] | rw [if_pos (by assumption)] | rw [if_neg (by first | assumption | (rw [Bool.not_eq_true]; assumption))] | split))))
              · (first | rfl | (unfold demCl; (repeat' (first | rfl | rw [if_pos (by omega)] | rw [if_neg (by omega)] | rw [if_pos (by assumption)] | rw [if_neg (by first | assumption | (rw [Bool.not_eq_true]; assumption))] | split))))
      · have f42 := h33
        try simp only [decide_eq_true_eq, decide_eq_false_iff_not, beq_iff_eq, bne_iff_ne, beq_eq_false_iff_ne, bne_eq_false_iff_eq, Bool.not_eq_true', Bool.not_eq_false', ne_eq, Decidable.not_not] at f42
        first
        | (exfalso; omega)
        | refine WC.noop ?_
          refine WC.skip ?_
          refine joinK.end ?_
          refine ⟨(d), (1), (by repeat (first | exact Good.start | assumption | refine Good.upd ?_ _ _)), rfl, rfl, rfl, rfl, rfl, rfl, rfl, ?_, ?_⟩
          · (first | rfl | (unfold demH; (repeat' (first | rfl | rw [if_pos (by omega)] | rw [if_neg (by omega)] | rw [if_pos (by assumption)] | rw [if_neg (by first | assumption | (rw [Bool.not_eq_true]; assumption))] | split))))
          · (first | rfl | (unfold demCl; (repeat' (first | rfl | rw [if_pos (by omega)] | rw [if_neg (by omega)] | rw [if_pos (by assumption)] | rw [if_neg (by first | assumption | (rw [Bool.not_eq_true]; assumption))] | split))))
    · rintro ⟨tmJ, nJ, msJ⟩ HX ⟨d2, cl, gJ43, hn, hm, q5, q6, q8, q11, hJ44, hd2, hcl⟩
      obtain rfl : nJ = Try.f36.ntmps := hn
      obtain rfl : msJ = [] := hm
      have g0_1 := gJ43
      obtain ⟨j0, t1_2, t2_2, rfl, g1_2, g2_2⟩ := g0_1
      obtain ⟨j1, t3_4, t5_4, rfl, g3_4, g5_4⟩ := g1_2
      obtain ⟨j3, t7_8, t11_8, rfl, g7_8, g11_8⟩ := g3_4
      obtain ⟨j7, t15_16, t23_16, rfl, g15_16, g23_16⟩ := g7_8
      obtain ⟨j15, t31_32, t47_32, rfl, g31_32, g47_32⟩ := g15_16
      obtain ⟨j47, t79_64, t111_64, rfl, g79_64, g111_64⟩ := g47_32
      obtain ⟨j79, t143_128, t207_128, rfl, g143_128, g207_128⟩ := g79_64
      obtain ⟨j23, t39_32, t55_32, rfl, g39_32, g55_32⟩ := g23_16
      obtain ⟨j55, t87_64, t119_64, rfl, g87_64, g119_64⟩ := g55_32
      obtain ⟨j87, t151_128, t215_128, rfl, g151_128, g215_128⟩ := g87_64
      obtain ⟨j11, t19_16, t27_16, rfl, g19_16, g27_16⟩ := g11_8
      obtain ⟨j19, t35_32, t51_32, rfl, g35_32, g51_32⟩ := g19_16
      obtain ⟨j51, t83_64, t115_64, rfl, g83_64, g115_64⟩ := g51_32
      obtain ⟨j83, t147_128, t211_128, rfl, g147_128, g211_128⟩ := g83_64
      obtain ⟨j27, t43_32, t59_32, rfl, g43_32, g59_32⟩ := g27_16
      obtain ⟨j43, t75_64, t107_64, rfl, g75_64, g107_64⟩ := g43_32
      obtain ⟨j75, t139_128, t203_128, rfl, g139_128, g203_128⟩ := g75_64
      obtain ⟨j5, t9_8, t13_8, rfl, g9_8, g13_8⟩ := g5_4
      obtain ⟨j9, t17_16, t25_16, rfl, g17_16, g25_16⟩ := g9_8
      obtain ⟨j17, t33_32, t49_32, rfl, g33_32, g49_32⟩ := g17_16
      obtain ⟨j49, t81_64, t113_64, rfl, g81_64, g113_64⟩ := g49_32
      obtain ⟨j81, t145_128, t209_128, rfl, g145_128, g209_128⟩ := g81_64
      obtain ⟨j13, t21_16, t29_16, rfl, g21_16, g29_16⟩ := g13_8
      obtain ⟨j21, t37_32, t53_32, rfl, g37_32, g53_32⟩ := g21_16
      obtain ⟨j53, t85_64, t117_64, rfl, g85_64, g117_64⟩ := g53_32
      obtain ⟨j85, t149_128, t213_128, rfl, g149_128, g213_128⟩ := g85_64
      obtain ⟨j29, t45_32, t61_32, rfl, g45_32, g61_32⟩ := g29_16
      obtain ⟨j45, t77_64, t109_64, rfl, g77_64, g109_64⟩ := g45_32
      obtain ⟨j77, t141_128, t205_128, rfl, g141_128, g205_128⟩ := g77_64
      obtain ⟨j2, t4_4, t6_4, rfl, g4_4, g6_4⟩ := g2_2
      obtain ⟨j4, t8_8, t12_8, rfl, g8_8, g12_8⟩ := g4_4
      obtain ⟨j8, t16_16, t24_16, rfl, g16_16, g24_16⟩ := g8_8
      obtain ⟨j16, t32_32, t48_32, rfl, g32_32, g48_32⟩ := g16_16
      obtain ⟨j48, t80_64, t112_64, rfl, g80_64, g112_64⟩ := g48_32
      obtain ⟨j80, t144_128, t208_128, rfl, g144_128, g208_128⟩ := g80_64
      obtain ⟨j24, t40_32, t56_32, rfl, g40_32, g56_32⟩ := g24_16
      obtain ⟨j56, t88_64, t120_64, rfl, g88_64, g120_64⟩ := g56_32
      obtain ⟨j88, t152_128, t216_128, rfl, g152_128, g216_128⟩ := g88_64
      obtain ⟨j12, t20_16, t28_16, rfl, g20_16, g28_16⟩ := g12_8
      obtain ⟨j20, t36_32, t52_32, rfl, g36_32, g52_32⟩ := g20_16
      obtain ⟨j52, t84_64, t116_64, rfl, g84_64, g116_64⟩ := g52_32
      obtain ⟨j84, t148_128, t212_128, rfl, g148_128, g212_128⟩ := g84_64
      obtain ⟨j28, t44_32, t60_32, rfl, g44_32, g60_32⟩ := g28_16
      obtain ⟨j44, t76_64, t108_64, rfl, g76_64, g108_64⟩ := g44_32
      obtain ⟨j76, t140_128, t204_128, rfl, g140_128, g204_128⟩ := g76_64
      obtain ⟨j6, t10_8, t14_8, rfl, g10_8, g14_8⟩ := g6_4
      obtain ⟨j10, t18_16, t26_16, rfl, g18_16, g26_16⟩ := g10_8
      obtain ⟨j18, t34_32, t50_32, rfl, g34_32, g50_32⟩ := g18_16
      obtain ⟨j50, t82_64, t114_64, rfl, g82_64, g114_64⟩ := g50_32
      obtain ⟨j82, t146_128, t210_128, rfl, g146_128, g210_128⟩ := g82_64
      obtain ⟨j14, t22_16, t30_16, rfl, g22_16, g30_16⟩ := g14_8
      obtain ⟨j22, t38_32, t54_32, rfl, g38_32, g54_32⟩ := g22_16
      obtain ⟨j54, t86_64, t118_64, rfl, g86_64, g118_64⟩ := g54_32
      obtain ⟨j86, t150_128, t214_128, rfl, g150_128, g214_128⟩ := g86_64
      obtain ⟨j30, t46_32, t62_32, rfl, g46_32, g62_32⟩ := g30_16
      obtain ⟨j46, t78_64, t110_64, rfl, g78_64, g110_64⟩ := g46_32
      obtain ⟨j78, t142_128, t206_128, rfl, g142_128, g206_128⟩ := g78_64
      obtain rfl : j5 = some (Value.pointer (some ⟨H1.next, 0, none⟩)) := q5
      obtain rfl : j6 = some (Value.int .i64 (0)) := q6
      obtain rfl : j8 = some (Value.int .i64 (d2)) := q8
      obtain rfl : j11 = some (Value.int .i64 (cl)) := q11
      rw [hJ44]
      clear hJ44 HX
      refine WC.assoc ?_
      refine WC.region ?_
      refine WO.move rfl rfl rfl ?_
      refine WO.fieldAddr rfl (Try.underlying57) rfl rfl rfl rfl rfl ?_
      refine WO.load rfl rfl rfl g6.get rfl rfl ?_
      refine WO.call rfl rfl (evs_cons rfl (evs_cons rfl (evs_cons rfl evs_nil))) rfl (w75 _ _ _ _) ?_
      rintro _ HX ⟨rfl, h45⟩
      rw [h45]
      clear h45 HX
      refine WO.bin rfl rfl rfl rfl rfl ?_
      refine WO.assign rfl rfl rfl ?_
      refine WO.nil ?_
      refine WC.assoc ?_
      refine WC.region ?_
      refine WO.move rfl rfl rfl ?_
      refine WO.bin rfl rfl rfl rfl rfl ?_
      refine WO.move rfl rfl rfl ?_
      refine WO.split (t := 82) rfl (fun h46 => ?_) (fun h46 => ?_)
      · have f47 := h46
        try simp only [decide_eq_true_eq, decide_eq_false_iff_not, beq_iff_eq, bne_iff_ne, beq_eq_false_iff_ne, bne_eq_false_iff_eq, Bool.not_eq_true', Bool.not_eq_false', ne_eq, Decidable.not_not] at f47
        first
        | (exfalso; omega)
        | refine WO.not (wanted_no rfl rfl rfl rfl h46) rfl ?_
          refine WO.not (wanted_no rfl rfl rfl rfl h46) rfl ?_
          refine WO.pickT rfl rfl h46 rfl rfl ?_
          refine WO.nil ?_
          refine WC.cond rfl (fun _ => ?_) (fun h => Bool.noConfusion ((rfl).symm.trans h))
          refine WC.region ?_
          refine WO.move rfl rfl rfl ?_
          refine WO.bin rfl rfl rfl rfl rfl ?_
          refine WO.assign rfl rfl rfl ?_
          refine WO.nil ?_
          refine WC.region ?_
          refine WO.move rfl rfl rfl ?_
          refine WO.assign rfl rfl rfl ?_
          refine WO.nil ?_
          refine WC.ret' ?_
          refine ⟨.inr rfl, rfl, _, res1 rfl, ?_⟩
          refine ⟨?_, Ext.more (E2.trans E5) (by omega)⟩
          congr 1
          unfold dem
          rw [← hd, ← hd2, ← hcl]
          first | rfl | (unfold demE; (repeat' (first | rfl | rw [if_pos (by omega)] | rw [if_neg (by omega)] | rw [if_pos (by assumption)] | rw [if_neg (by first | assumption | (rw [Bool.not_eq_true]; assumption))] | split)))
      · have f48 := h46
        try simp only [decide_eq_true_eq, decide_eq_false_iff_not, beq_iff_eq, bne_iff_ne, beq_eq_false_iff_ne, bne_eq_false_iff_eq, Bool.not_eq_true', Bool.not_eq_false', ne_eq, Decidable.not_not] at f48
        first
        | (exfalso; omega)
        | refine WO.move (wanted_yes rfl rfl rfl rfl h46) rfl rfl ?_
          refine WO.bin (wanted_yes rfl rfl rfl rfl h46) rfl rfl rfl rfl ?_
          refine WO.pickF rfl rfl h46 rfl rfl ?_
          refine WO.nil ?_
          refine WC.cond rfl (fun h49 => ?_) (fun h49 => ?_)
          · have f50 := h49
            try simp only [decide_eq_true_eq, decide_eq_false_iff_not, beq_iff_eq, bne_iff_ne, beq_eq_false_iff_ne, bne_eq_false_iff_eq, Bool.not_eq_true', Bool.not_eq_false', ne_eq, Decidable.not_not] at f50
            first
            | (exfalso; omega)
            | refine WC.region ?_
              refine WO.move rfl rfl rfl ?_
              refine WO.bin rfl rfl rfl rfl rfl ?_
              refine WO.assign rfl rfl rfl ?_
              refine WO.nil ?_
              refine WC.region ?_
              refine WO.move rfl rfl rfl ?_
              refine WO.assign rfl rfl rfl ?_
              refine WO.nil ?_
              refine WC.ret' ?_
              refine ⟨.inr rfl, rfl, _, res1 rfl, ?_⟩
              refine ⟨?_, Ext.more (E2.trans E5) (by omega)⟩
              congr 1
              unfold dem
              rw [← hd, ← hd2, ← hcl]
              first | rfl | (unfold demE; (repeat' (first | rfl | rw [if_pos (by omega)] | rw [if_neg (by omega)] | rw [if_pos (by assumption)] | rw [if_neg (by first | assumption | (rw [Bool.not_eq_true]; assumption))] | split)))
          · have f51 := h49
            try simp only [decide_eq_true_eq, decide_eq_false_iff_not, beq_iff_eq, bne_iff_ne, beq_eq_false_iff_ne, bne_eq_false_iff_eq, Bool.not_eq_true', Bool.not_eq_false', ne_eq, Decidable.not_not] at f51
            first
            | (exfalso; omega)
            | refine WC.noop ?_
              refine WC.region ?_
              refine WO.move rfl rfl rfl ?_
              refine WO.assign rfl rfl rfl ?_
              refine WO.nil ?_
              refine WC.ret' ?_
              refine ⟨.inr rfl, rfl, _, res1 rfl, ?_⟩
              refine ⟨?_, Ext.more (E2.trans E5) (by omega)⟩
              congr 1
              unfold dem
              rw [← hd, ← hd2, ← hcl]
              first | rfl | (unfold demE; (repeat' (first | rfl | rw [if_pos (by omega)] | rw [if_neg (by omega)] | rw [if_pos (by assumption)] | rw [if_neg (by first | assumption | (rw [Bool.not_eq_true]; assumption))] | split)))

theorem bw3 (n : Int) : between n 0 3 = within n 0 3 := between_within n 3 (by decide)
theorem bw4 (n : Int) : between n 0 10000 = within n 0 10000 := between_within n 10000 (by decide)
theorem within_min (n : Int) (h : 0 ≤ n) : within n 0 10000 = if 10000 < n then 10000 else n := by
  unfold within
  split <;> split <;> first | rfl | omega

set_option maxRecDepth 100000 in
set_option maxHeartbeats 4000000 in
theorem d37 (H : AH) (L : List ItemV) (p : Option Addr) (c : Nat) (hL : Items H p L) (hN : H.next + 2 ≤ 1099511627776) (ah ln : LineV) : WF1 Try.prog orc 37 [.slice p L.length c, lineV ah, lineV ln] H (fun v H1 => v = .int .i64 (dem L ah ln) ∧ Ext H H1 2) := by
  refine WF1.call (bodyOf_mk Try.func37 rfl (leN rfl) (leN rfl) (by kernel_rfl)) rfl ?_
  refine WC.region ?_
  refine WO.boxE rfl rfl (by omega) rfl (fun H1 E2 g3 => ?_)
  have bE2 := E2.2.1
  have cE2 := E2.1
  refine WO.boxE rfl rfl (by omega) rfl (fun H4 E5 g6 => ?_)
  have bE5 := E5.2.1
  have cE5 := E5.1
  refine WO.assign rfl rfl rfl ?_
  refine WO.nil ?_
  refine WC.region ?_
  refine WO.fieldAddr rfl (Try.underlying57) rfl rfl rfl rfl rfl ?_
  refine WO.load rfl rfl rfl g6.get rfl rfl ?_
  refine WO.call rfl rfl (evs_cons rfl (evs_cons rfl (evs_cons rfl evs_nil))) rfl (w76 _ _ _ _) ?_
  rintro _ HX ⟨rfl, h7⟩
  rw [h7]
  clear h7 HX
  refine WO.assign rfl rfl rfl ?_
  refine WO.nil ?_
  refine WC.region ?_
  refine WO.move rfl rfl rfl ?_
  refine WO.bin rfl rfl rfl rfl rfl ?_
  refine WO.move rfl rfl rfl ?_
  refine WO.bin rfl rfl rfl rfl rfl ?_
  refine WO.bin rfl rfl rfl rfl rfl ?_
  refine WO.assign rfl rfl rfl ?_
  refine WO.nil ?_
  refine WC.join (fun aJ HJ => ∃ (d : Int), Good 10 aJ.tm ∧ aJ.n = Try.f37.ntmps ∧ aJ.marks = [] ∧ aJ.tm.get 4 = some (Value.pointer (some ⟨H.next, 0, none⟩)) ∧ aJ.tm.get 5 = some (Value.pointer (some ⟨H1.next, 0, none⟩)) ∧ aJ.tm.get 6 = some (Value.int .i64 (0)) ∧ aJ.tm.get 8 = some (Value.int .i64 (d)) ∧ HJ = H4 ∧ d = demP L ln (IntKind.i64.wrap (IntKind.i64.wrap (10 + within ln.bad 0 10000) * IntKind.i64.wrap (10 + within ln.bad 0 10000)))) ?_ ?_
  · skip
    refine WC.assoc ?_
    refine WC.region ?_
    refine WO.fieldAddr rfl (Try.underlying57) rfl rfl rfl rfl rfl ?_
    refine WO.load rfl rfl rfl g6.get rfl rfl ?_
    refine WO.bin rfl rfl rfl rfl rfl ?_
    refine WO.move rfl rfl rfl ?_
    refine WO.split (t := 23) rfl (fun h8 => ?_) (fun h8 => ?_)
    · have f9 := h8
      try simp only [decide_eq_true_eq, decide_eq_false_iff_not, beq_iff_eq, bne_iff_ne, beq_eq_false_iff_ne, bne_eq_false_iff_eq, Bool.not_eq_true', Bool.not_eq_false', ne_eq, Decidable.not_not] at f9
      first
      | (exfalso; omega)
      | refine WO.fieldAddr (wanted_yes rfl rfl rfl rfl h8) (Try.underlying57) rfl rfl rfl rfl rfl ?_
        refine WO.load (wanted_yes rfl rfl rfl rfl h8) rfl rfl g6.get rfl rfl ?_
        refine WO.move (wanted_yes rfl rfl rfl rfl h8) rfl rfl ?_
        refine WO.len (wanted_yes rfl rfl rfl rfl h8) (Try.underlying42) rfl rfl ?_
        refine WO.bin (wanted_yes rfl rfl rfl rfl h8) rfl rfl rfl rfl ?_
        refine WO.pickT rfl rfl h8 rfl rfl ?_
        refine WO.move rfl rfl rfl ?_
        refine WO.split (t := 30) rfl (fun h10 => ?_) (fun h10 => ?_)
        · have f11 := h10
          try simp only [decide_eq_true_eq, decide_eq_false_iff_not, beq_iff_eq, bne_iff_ne, beq_eq_false_iff_ne, bne_eq_false_iff_eq, Bool.not_eq_true', Bool.not_eq_false', ne_eq, Decidable.not_not] at f11
          first
          | (exfalso; omega)
          | refine WO.move (wanted_yes rfl rfl rfl rfl h10) rfl rfl ?_
            refine WO.fieldAddr (wanted_yes rfl rfl rfl rfl h10) (Try.underlying57) rfl rfl rfl rfl rfl ?_
            refine WO.load (wanted_yes rfl rfl rfl rfl h10) rfl rfl g6.get rfl rfl ?_
            obtain ⟨y12, hy13⟩ : ∃ y12, L[(ln.brk).toNat]? = some y12 := ⟨_, List.getElem?_eq_getElem (by first | omega | (simp only [List.length_append, List.length_singleton]; omega))⟩
            obtain ⟨id14, of15, r16, hp17, hr18, hc19⟩ := items_at hL hy13
            subst hp17
            refine WO.indexAddr (wanted_yes rfl rfl rfl rfl h10) (Try.underlying42) rfl rfl rfl (by omega) rfl ?_
            refine WO.fieldAddr (wanted_yes rfl rfl rfl rfl h10) (Try.underlying71) rfl rfl rfl rfl rfl ?_
            refine WO.load (wanted_yes rfl rfl rfl rfl h10) rfl rfl (E5.has (E2.has hr18)).get (hc19 _ _ rfl) rfl ?_
            refine WO.bin (wanted_yes rfl rfl rfl rfl h10) rfl rfl rfl rfl ?_
            refine WO.pickT rfl rfl h10 rfl rfl ?_
            refine WO.nil ?_
            refine WC.cond rfl (fun h20 => ?_) (fun h20 => ?_)
            · have f21 := h20
              try simp only [decide_eq_true_eq, decide_eq_false_iff_not, beq_iff_eq, bne_iff_ne, beq_eq_false_iff_ne, bne_eq_false_iff_eq, Bool.not_eq_true', Bool.not_eq_false', ne_eq, Decidable.not_not] at f21
              first
              | (exfalso; omega)
              | refine WC.assoc ?_
                refine WC.region ?_
                refine WO.move rfl rfl rfl ?_
                refine WO.fieldAddr rfl (Try.underlying57) rfl rfl rfl rfl rfl ?_
                refine WO.load rfl rfl rfl g6.get rfl rfl ?_
                refine WO.indexAddr rfl (Try.underlying42) rfl rfl rfl (by omega) rfl ?_
                refine WO.fieldAddr rfl (Try.underlying71) rfl rfl rfl rfl rfl ?_
                refine WO.load rfl rfl rfl (E5.has (E2.has hr18)).get (hc19 _ _ rfl) rfl ?_
                refine WO.assign rfl rfl rfl ?_
                refine WO.nil ?_
                refine WC.assoc ?_
                refine WC.region ?_
                refine WO.move rfl rfl rfl ?_
                refine WO.bin rfl rfl rfl rfl rfl ?_
                refine WO.nil ?_
                refine WC.cond rfl (fun h22 => ?_) (fun h22 => ?_)
                · have f23 := h22
                  try simp only [decide_eq_true_eq, decide_eq_false_iff_not, beq_iff_eq, bne_iff_ne, beq_eq_false_iff_ne, bne_eq_false_iff_eq, Bool.not_eq_true', Bool.not_eq_false', ne_eq, Decidable.not_not] at f23
                  first
                  | (exfalso; omega)
                  | refine WC.assoc ?_
                    refine WC.region ?_
                    refine WO.move rfl rfl rfl ?_
                    refine WO.call rfl rfl (evs_cons rfl (evs_cons rfl (evs_cons rfl evs_nil))) rfl (w76 _ _ _ _) ?_
                    rintro _ HX ⟨rfl, h24⟩
                    rw [h24]
                    clear h24 HX
                    refine WO.assign rfl rfl rfl ?_
                    refine WO.nil ?_
                    refine WC.region ?_
                    refine WO.move rfl rfl rfl ?_
                    refine WO.move rfl rfl rfl ?_
                    refine WO.move rfl rfl rfl ?_
                    refine WO.bin rfl rfl rfl rfl rfl ?_
                    refine WO.bin rfl rfl rfl rfl rfl ?_
                    refine WO.assign rfl rfl rfl ?_
                    refine WO.nil ?_
                    refine WC.skip ?_
                    refine joinK.end ?_
                    refine ⟨(IntKind.i64.wrap ((IntKind.i64.wrap ((IntKind.i64.wrap (10 + (between ln.bad 0 10000))) * (IntKind.i64.wrap (10 + (between ln.bad 0 10000))))) + (IntKind.i64.wrap ((between y12.value 0 10000) * (between y12.value 0 10000))))), (by repeat (first | exact Good.start | assumption | refine Good.upd ?_ _ _)), rfl, rfl, rfl, rfl, rfl, rfl, rfl, ?_⟩
                    · (first | rfl | (unfold demP; (try simp only [bw3, bw4]); (try rw [within_min y12.value (by omega)]); (try simp only [hy13]); (repeat' (first | rfl | rw [if_pos (by omega)] | rw [if_neg (by omega)] | rw [if_pos (by assumption)] | rw [if_neg (by first | assumption | (rw [Bool.not_eq_true]; assumption))] | split))))
                · have f25 := h22
                  try simp only [decide_eq_true_eq, decide_eq_false_iff_not, beq_iff_eq, bne_iff_ne, beq_eq_false_iff_ne, bne_eq_false_iff_eq, Bool.not_eq_true', Bool.not_eq_false', ne_eq, Decidable.not_not] at f25
                  first
                  | (exfalso; omega)
                  | refine WC.assoc ?_
                    refine WC.region ?_
                    refine WO.move rfl rfl rfl ?_
                    refine WO.bin rfl rfl rfl rfl rfl ?_
                    refine WO.nil ?_
                    refine WC.cond rfl (fun h26 => ?_) (fun h26 => ?_)
                    · have f27 := h26
                      try simp only [decide_eq_true_eq, decide_eq_false_iff_not, beq_iff_eq, bne_iff_ne, beq_eq_false_iff_ne, bne_eq_false_iff_eq, Bool.not_eq_true', Bool.not_eq_false', ne_eq, Decidable.not_not] at f27
                      first
                      | (exfalso; omega)
                      | refine WC.region ?_
                        refine WO.move rfl rfl rfl ?_
                        refine WO.move rfl rfl rfl ?_
                        refine WO.move rfl rfl rfl ?_
                        refine WO.bin rfl rfl rfl rfl rfl ?_
                        refine WO.bin rfl rfl rfl rfl rfl ?_
                        refine WO.assign rfl rfl rfl ?_
                        refine WO.nil ?_
                        refine WC.skip ?_
                        refine joinK.end ?_
                        refine ⟨(IntKind.i64.wrap ((IntKind.i64.wrap ((IntKind.i64.wrap (10 + (between ln.bad 0 10000))) * (IntKind.i64.wrap (10 + (between ln.bad 0 10000))))) - (IntKind.i64.wrap (y12.value * y12.value)))), (by repeat (first | exact Good.start | assumption | refine Good.upd ?_ _ _)), rfl, rfl, rfl, rfl, rfl, rfl, rfl, ?_⟩
                        · (first | rfl | (unfold demP; (try simp only [bw3, bw4]); (try rw [within_min y12.value (by omega)]); (try simp only [hy13]); (repeat' (first | rfl | rw [if_pos (by omega)] | rw [if_neg (by omega)] | rw [if_pos (by assumption)] | rw [if_neg (by first | assumption | (rw [Bool.not_eq_true]; assumption))] | split))))
                    · have f28 := h26
                      try simp only [decide_eq_true_eq, decide_eq_false_iff_not, beq_iff_eq, bne_iff_ne, beq_eq_false_iff_ne, bne_eq_false_iff_eq, Bool.not_eq_true', Bool.not_eq_false', ne_eq, Decidable.not_not] at f28
                      first
                      | (exfalso; omega)
                      | refine WC.noop ?_
                        refine WC.skip ?_
                        refine joinK.end ?_
                        refine ⟨(IntKind.i64.wrap ((IntKind.i64.wrap (10 + (between ln.bad 0 10000))) * (IntKind.i64.wrap (10 + (between ln.bad 0 10000))))), (by repeat (first | exact Good.start | assumption | refine Good.upd ?_ _ _)), rfl, rfl, rfl, rfl, rfl, rfl, rfl, ?_⟩
                        · (first | rfl | (unfold demP; (try simp only [bw3, bw4]); (try rw [within_min y12.value (by omega)]); (try simp only [hy13]); (repeat' (first | rfl | rw [if_pos (by omega)] | rw [if_neg (by omega)] | rw [if_pos (by assumption)] | rw [if_neg (by first | assumption | (rw [Bool.not_eq_true]; assumption))] | split))))
            · have f29 := h20
              try simp only [decide_eq_true_eq, decide_eq_false_iff_not, beq_iff_eq, bne_iff_ne, beq_eq_false_iff_ne, bne_eq_false_iff_eq, Bool.not_eq_true', Bool.not_eq_false', ne_eq, Decidable.not_not] at f29
              first
              | (exfalso; omega)
              | refine WC.noop ?_
                refine WC.skip ?_
                refine joinK.end ?_
                refine ⟨(IntKind.i64.wrap ((IntKind.i64.wrap (10 + (between ln.bad 0 10000))) * (IntKind.i64.wrap (10 + (between ln.bad 0 10000))))), (by repeat (first | exact Good.start | assumption | refine Good.upd ?_ _ _)), rfl, rfl, rfl, rfl, rfl, rfl, rfl, ?_⟩
                · (first | rfl | (unfold demP; (try simp only [bw3, bw4]); (try rw [within_min y12.value (by omega)]); (try simp only [hy13]); (repeat' (first | rfl | rw [if_pos (by omega)] | rw [if_neg (by omega)] | rw [if_pos (by assumption)] | rw [if_neg (by first | assumption | (rw [Bool.not_eq_true]; assumption))] | split))))
        · have f30 := h10
          try simp only [decide_eq_true_eq, decide_eq_false_iff_not, beq_iff_eq, bne_iff_ne, beq_eq_false_iff_ne, bne_eq_false_iff_eq, Bool.not_eq_true', Bool.not_eq_false', ne_eq, Decidable.not_not] at f30
          first
          | (exfalso; omega)
          | refine WO.not (wanted_no rfl rfl rfl rfl h10) rfl ?_
            refine WO.not (wanted_no rfl rfl rfl rfl h10) rfl ?_
            refine WO.not (wanted_no rfl rfl rfl rfl h10) rfl ?_
            refine WO.not (wanted_no rfl rfl rfl rfl h10) rfl ?_
            refine WO.not (wanted_no rfl rfl rfl rfl h10) rfl ?_
            refine WO.not (wanted_no rfl rfl rfl rfl h10) rfl ?_
            refine WO.not (wanted_no rfl rfl rfl rfl h10) rfl ?_
            refine WO.pickF rfl rfl h10 rfl rfl ?_
            refine WO.nil ?_
            refine WC.cond rfl (fun h => Bool.noConfusion ((rfl).symm.trans h)) (fun _ => ?_)
            refine WC.noop ?_
            refine WC.skip ?_
            refine joinK.end ?_
            refine ⟨(IntKind.i64.wrap ((IntKind.i64.wrap (10 + (between ln.bad 0 10000))) * (IntKind.i64.wrap (10 + (between ln.bad 0 10000))))), (by repeat (first | exact Good.start | assumption | refine Good.upd ?_ _ _)), rfl, rfl, rfl, rfl, rfl, rfl, rfl, ?_⟩
            · (first | rfl | (unfold demP; (try simp only [bw3, bw4]); (repeat' (first | rfl | rw [if_pos (by omega)] | rw [if_neg (by omega)] | rw [if_pos (by assumption)] | rw [if_neg (by first | assumption | (rw [Bool.not_eq_true]; assumption))] | split))))
    · have f31 := h8
      try simp only [decide_eq_true_eq, decide_eq_false_iff_not, beq_iff_eq, bne_iff_ne, beq_eq_false_iff_ne, bne_eq_false_iff_eq, Bool.not_eq_true', Bool.not_eq_false', ne_eq, Decidable.not_not] at f31
      first
      | (exfalso; omega)
      | refine WO.not (wanted_no rfl rfl rfl rfl h8) rfl ?_
        refine WO.not (wanted_no rfl rfl rfl rfl h8) rfl ?_
        refine WO.not (wanted_no rfl rfl rfl rfl h8) rfl ?_
        refine WO.not (wanted_no rfl rfl rfl rfl h8) rfl ?_
        refine WO.not (wanted_no rfl rfl rfl rfl h8) rfl ?_
        refine WO.pickF rfl rfl h8 rfl rfl ?_
        refine WO.move rfl rfl rfl ?_
        refine WO.not (wanted_no rfl rfl rfl rfl rfl) rfl ?_
        refine WO.not (wanted_no rfl rfl rfl rfl rfl) rfl ?_
        refine WO.not (wanted_no rfl rfl rfl rfl rfl) rfl ?_
        refine WO.not (wanted_no rfl rfl rfl rfl rfl) rfl ?_
        refine WO.not (wanted_no rfl rfl rfl rfl rfl) rfl ?_
        refine WO.not (wanted_no rfl rfl rfl rfl rfl) rfl ?_
        refine WO.not (wanted_no rfl rfl rfl rfl rfl) rfl ?_
        refine WO.pickF rfl rfl rfl rfl rfl ?_
        refine WO.nil ?_
        refine WC.cond rfl (fun h => Bool.noConfusion ((rfl).symm.trans h)) (fun _ => ?_)
        refine WC.noop ?_
        refine WC.skip ?_
        refine joinK.end ?_
        refine ⟨(IntKind.i64.wrap ((IntKind.i64.wrap (10 + (between ln.bad 0 10000))) * (IntKind.i64.wrap (10 + (between ln.bad 0 10000))))), (by repeat (first | exact Good.start | assumption | refine Good.upd ?_ _ _)), rfl, rfl, rfl, rfl, rfl, rfl, rfl, ?_⟩
        · (first | rfl | (unfold demP; (try simp only [bw3, bw4]); (repeat' (first | rfl | rw [if_pos (by omega)] | rw [if_neg (by omega)] | rw [if_pos (by assumption)] | rw [if_neg (by first | assumption | (rw [Bool.not_eq_true]; assumption))] | split))))
  · rintro ⟨tmJ, nJ, msJ⟩ HX ⟨d, gJ32, hn, hm, q4, q5, q6, q8, hJ33, hd⟩
    obtain rfl : nJ = Try.f37.ntmps := hn
    obtain rfl : msJ = [] := hm
    have g0_1 := gJ32
    obtain ⟨j0, t1_2, t2_2, rfl, g1_2, g2_2⟩ := g0_1
    obtain ⟨j1, t3_4, t5_4, rfl, g3_4, g5_4⟩ := g1_2
    obtain ⟨j3, t7_8, t11_8, rfl, g7_8, g11_8⟩ := g3_4
    obtain ⟨j7, t15_16, t23_16, rfl, g15_16, g23_16⟩ := g7_8
    obtain ⟨j15, t31_32, t47_32, rfl, g31_32, g47_32⟩ := g15_16
    obtain ⟨j31, t63_64, t95_64, rfl, g63_64, g95_64⟩ := g31_32
    obtain ⟨j63, t127_128, t191_128, rfl, g127_128, g191_128⟩ := g63_64
    obtain ⟨j47, t79_64, t111_64, rfl, g79_64, g111_64⟩ := g47_32
    obtain ⟨j79, t143_128, t207_128, rfl, g143_128, g207_128⟩ := g79_64
    obtain ⟨j23, t39_32, t55_32, rfl, g39_32, g55_32⟩ := g23_16
    obtain ⟨j39, t71_64, t103_64, rfl, g71_64, g103_64⟩ := g39_32
    obtain ⟨j71, t135_128, t199_128, rfl, g135_128, g199_128⟩ := g71_64
    obtain ⟨j55, t87_64, t119_64, rfl, g87_64, g119_64⟩ := g55_32
    obtain ⟨j87, t151_128, t215_128, rfl, g151_128, g215_128⟩ := g87_64
    obtain ⟨j11, t19_16, t27_16, rfl, g19_16, g27_16⟩ := g11_8
    obtain ⟨j19, t35_32, t51_32, rfl, g35_32, g51_32⟩ := g19_16
    obtain ⟨j35, t67_64, t99_64, rfl, g67_64, g99_64⟩ := g35_32
    obtain ⟨j67, t131_128, t195_128, rfl, g131_128, g195_128⟩ := g67_64
    obtain ⟨j51, t83_64, t115_64, rfl, g83_64, g115_64⟩ := g51_32
    obtain ⟨j83, t147_128, t211_128, rfl, g147_128, g211_128⟩ := g83_64
    obtain ⟨j27, t43_32, t59_32, rfl, g43_32, g59_32⟩ := g27_16
    obtain ⟨j43, t75_64, t107_64, rfl, g75_64, g107_64⟩ := g43_32
    obtain ⟨j75, t139_128, t203_128, rfl, g139_128, g203_128⟩ := g75_64
    obtain ⟨j5, t9_8, t13_8, rfl, g9_8, g13_8⟩ := g5_4
    obtain ⟨j9, t17_16, t25_16, rfl, g17_16, g25_16⟩ := g9_8
    obtain ⟨j17, t33_32, t49_32, rfl, g33_32, g49_32⟩ := g17_16
    obtain ⟨j33, t65_64, t97_64, rfl, g65_64, g97_64⟩ := g33_32
    obtain ⟨j65, t129_128, t193_128, rfl, g129_128, g193_128⟩ := g65_64
    obtain ⟨j49, t81_64, t113_64, rfl, g81_64, g113_64⟩ := g49_32
    obtain ⟨j81, t145_128, t209_128, rfl, g145_128, g209_128⟩ := g81_64
    obtain ⟨j25, t41_32, t57_32, rfl, g41_32, g57_32⟩ := g25_16
    obtain ⟨j41, t73_64, t105_64, rfl, g73_64, g105_64⟩ := g41_32
    obtain ⟨j73, t137_128, t201_128, rfl, g137_128, g201_128⟩ := g73_64
    obtain ⟨j13, t21_16, t29_16, rfl, g21_16, g29_16⟩ := g13_8
    obtain ⟨j21, t37_32, t53_32, rfl, g37_32, g53_32⟩ := g21_16
    obtain ⟨j37, t69_64, t101_64, rfl, g69_64, g101_64⟩ := g37_32
    obtain ⟨j69, t133_128, t197_128, rfl, g133_128, g197_128⟩ := g69_64
    obtain ⟨j53, t85_64, t117_64, rfl, g85_64, g117_64⟩ := g53_32
    obtain ⟨j85, t149_128, t213_128, rfl, g149_128, g213_128⟩ := g85_64
    obtain ⟨j29, t45_32, t61_32, rfl, g45_32, g61_32⟩ := g29_16
    obtain ⟨j45, t77_64, t109_64, rfl, g77_64, g109_64⟩ := g45_32
    obtain ⟨j77, t141_128, t205_128, rfl, g141_128, g205_128⟩ := g77_64
    obtain ⟨j61, t93_64, t125_64, rfl, g93_64, g125_64⟩ := g61_32
    obtain ⟨j2, t4_4, t6_4, rfl, g4_4, g6_4⟩ := g2_2
    obtain ⟨j4, t8_8, t12_8, rfl, g8_8, g12_8⟩ := g4_4
    obtain ⟨j8, t16_16, t24_16, rfl, g16_16, g24_16⟩ := g8_8
    obtain ⟨j16, t32_32, t48_32, rfl, g32_32, g48_32⟩ := g16_16
    obtain ⟨j32, t64_64, t96_64, rfl, g64_64, g96_64⟩ := g32_32
    obtain ⟨j64, t128_128, t192_128, rfl, g128_128, g192_128⟩ := g64_64
    obtain ⟨j48, t80_64, t112_64, rfl, g80_64, g112_64⟩ := g48_32
    obtain ⟨j80, t144_128, t208_128, rfl, g144_128, g208_128⟩ := g80_64
    obtain ⟨j24, t40_32, t56_32, rfl, g40_32, g56_32⟩ := g24_16
    obtain ⟨j40, t72_64, t104_64, rfl, g72_64, g104_64⟩ := g40_32
    obtain ⟨j72, t136_128, t200_128, rfl, g136_128, g200_128⟩ := g72_64
    obtain ⟨j56, t88_64, t120_64, rfl, g88_64, g120_64⟩ := g56_32
    obtain ⟨j88, t152_128, t216_128, rfl, g152_128, g216_128⟩ := g88_64
    obtain ⟨j12, t20_16, t28_16, rfl, g20_16, g28_16⟩ := g12_8
    obtain ⟨j20, t36_32, t52_32, rfl, g36_32, g52_32⟩ := g20_16
    obtain ⟨j36, t68_64, t100_64, rfl, g68_64, g100_64⟩ := g36_32
    obtain ⟨j68, t132_128, t196_128, rfl, g132_128, g196_128⟩ := g68_64
    obtain ⟨j52, t84_64, t116_64, rfl, g84_64, g116_64⟩ := g52_32
    obtain ⟨j84, t148_128, t212_128, rfl, g148_128, g212_128⟩ := g84_64
    obtain ⟨j28, t44_32, t60_32, rfl, g44_32, g60_32⟩ := g28_16
    obtain ⟨j44, t76_64, t108_64, rfl, g76_64, g108_64⟩ := g44_32
    obtain ⟨j76, t140_128, t204_128, rfl, g140_128, g204_128⟩ := g76_64
    obtain ⟨j6, t10_8, t14_8, rfl, g10_8, g14_8⟩ := g6_4
    obtain ⟨j10, t18_16, t26_16, rfl, g18_16, g26_16⟩ := g10_8
    obtain ⟨j18, t34_32, t50_32, rfl, g34_32, g50_32⟩ := g18_16
    obtain ⟨j34, t66_64, t98_64, rfl, g66_64, g98_64⟩ := g34_32
    obtain ⟨j66, t130_128, t194_128, rfl, g130_128, g194_128⟩ := g66_64
    obtain ⟨j50, t82_64, t114_64, rfl, g82_64, g114_64⟩ := g50_32
    obtain ⟨j82, t146_128, t210_128, rfl, g146_128, g210_128⟩ := g82_64
    obtain ⟨j26, t42_32, t58_32, rfl, g42_32, g58_32⟩ := g26_16
    obtain ⟨j42, t74_64, t106_64, rfl, g74_64, g106_64⟩ := g42_32
    obtain ⟨j74, t138_128, t202_128, rfl, g138_128, g202_128⟩ := g74_64
    obtain ⟨j14, t22_16, t30_16, rfl, g22_16, g30_16⟩ := g14_8
    obtain ⟨j22, t38_32, t54_32, rfl, g38_32, g54_32⟩ := g22_16
    obtain ⟨j38, t70_64, t102_64, rfl, g70_64, g102_64⟩ := g38_32
    obtain ⟨j70, t134_128, t198_128, rfl, g134_128, g198_128⟩ := g70_64
    obtain ⟨j54, t86_64, t118_64, rfl, g86_64, g118_64⟩ := g54_32
    obtain ⟨j86, t150_128, t214_128, rfl, g150_128, g214_128⟩ := g86_64
    obtain ⟨j30, t46_32, t62_32, rfl, g46_32, g62_32⟩ := g30_16
    obtain ⟨j46, t78_64, t110_64, rfl, g78_64, g110_64⟩ := g46_32
    obtain ⟨j78, t142_128, t206_128, rfl, g142_128, g206_128⟩ := g78_64
    obtain ⟨j62, t94_64, t126_64, rfl, g94_64, g126_64⟩ := g62_32
    obtain rfl : j4 = some (Value.pointer (some ⟨H.next, 0, none⟩)) := q4
    obtain rfl : j5 = some (Value.pointer (some ⟨H1.next, 0, none⟩)) := q5
    obtain rfl : j6 = some (Value.int .i64 (0)) := q6
    obtain rfl : j8 = some (Value.int .i64 (d)) := q8
    rw [hJ33]
    clear hJ33 HX
    refine WC.region ?_
    refine WO.assign rfl rfl rfl ?_
    refine WO.nil ?_
    refine WC.join (fun aJ HJ => ∃ (d2 : Int) (cl : Int), Good 10 aJ.tm ∧ aJ.n = Try.f37.ntmps ∧ aJ.marks = [] ∧ aJ.tm.get 5 = some (Value.pointer (some ⟨H1.next, 0, none⟩)) ∧ aJ.tm.get 6 = some (Value.int .i64 (0)) ∧ aJ.tm.get 8 = some (Value.int .i64 (d2)) ∧ aJ.tm.get 10 = some (Value.int .i64 (cl)) ∧ HJ = H4 ∧ d2 = demH ah ln d ∧ cl = demCl ah) ?_ ?_
    · skip
      refine WC.assoc ?_
      refine WC.region ?_
      refine WO.fieldAddr rfl (Try.underlying57) rfl rfl rfl rfl rfl ?_
      refine WO.load rfl rfl rfl (E5.has g3).get rfl rfl ?_
      refine WO.bin rfl rfl rfl rfl rfl ?_
      refine WO.nil ?_
      refine WC.cond rfl (fun h34 => ?_) (fun h34 => ?_)
      · have f35 := h34
        try simp only [decide_eq_true_eq, decide_eq_false_iff_not, beq_iff_eq, bne_iff_ne, beq_eq_false_iff_ne, bne_eq_false_iff_eq, Bool.not_eq_true', Bool.not_eq_false', ne_eq, Decidable.not_not] at f35
        first
        | (exfalso; omega)
        | refine WC.assoc ?_
          refine WC.region ?_
          refine WO.fieldAddr rfl (Try.underlying57) rfl rfl rfl rfl rfl ?_
          refine WO.load rfl rfl rfl (E5.has g3).get rfl rfl ?_
          refine WO.call rfl rfl (evs_cons rfl (evs_cons rfl (evs_cons rfl evs_nil))) rfl (w76 _ _ _ _) ?_
          rintro _ HX ⟨rfl, h36⟩
          rw [h36]
          clear h36 HX
          refine WO.assign rfl rfl rfl ?_
          refine WO.nil ?_
          refine WC.assoc ?_
          refine WC.region ?_
          refine WO.fieldAddr rfl (Try.underlying57) rfl rfl rfl rfl rfl ?_
          refine WO.load rfl rfl rfl (E5.has g3).get rfl rfl ?_
          refine WO.move rfl rfl rfl ?_
          refine WO.split (t := 69) rfl (fun h37 => ?_) (fun h37 => ?_)
          · have f38 := h37
            try simp only [decide_eq_true_eq, decide_eq_false_iff_not, beq_iff_eq, bne_iff_ne, beq_eq_false_iff_ne, bne_eq_false_iff_eq, Bool.not_eq_true', Bool.not_eq_false', ne_eq, Decidable.not_not] at f38
            first
            | (exfalso; omega)
            | refine WO.fieldAddr (wanted_yes rfl rfl rfl rfl h37) (Try.underlying57) rfl rfl rfl rfl rfl ?_
              refine WO.load (wanted_yes rfl rfl rfl rfl h37) rfl rfl g6.get rfl rfl ?_
              refine WO.pickT rfl rfl h37 rfl rfl ?_
              refine WO.nil ?_
              refine WC.cond rfl (fun h39 => ?_) (fun h39 => ?_)
              · have f40 := h39
                try simp only [decide_eq_true_eq, decide_eq_false_iff_not, beq_iff_eq, bne_iff_ne, beq_eq_false_iff_ne, bne_eq_false_iff_eq, Bool.not_eq_true', Bool.not_eq_false', ne_eq, Decidable.not_not] at f40
                first
                | (exfalso; omega)
                | refine WC.region ?_
                  refine WO.move rfl rfl rfl ?_
                  refine WO.bin rfl rfl rfl rfl rfl ?_
                  refine WO.assign rfl rfl rfl ?_
                  refine WO.nil ?_
                  refine WC.skip ?_
                  refine joinK.end ?_
                  refine ⟨(IntKind.i64.wrap (d + 3000)), (between ah.cls 0 3), (by repeat (first | exact Good.start | assumption | refine Good.upd ?_ _ _)), rfl, rfl, rfl, rfl, rfl, rfl, rfl, ?_, ?_⟩
                  · (first | rfl | (unfold demH; (try simp only [bw3, bw4]); (repeat' (first | rfl | rw [if_pos (by omega)] | rw [if_neg (by omega)] | rw [if_pos (by assumption)] | rw [if_neg (by first | assumption | (rw [Bool.not_eq_true]; assumption))] | split))))
                  · (first | rfl | (unfold demCl; (try simp only [bw3, bw4]); (repeat' (first | rfl | rw [if_pos (by omega)] | rw [if_neg (by omega)] | rw [if_pos (by assumption)] | rw [if_neg (by first | assumption | (rw [Bool.not_eq_true]; assumption))] | split))))
              · have f41 := h39
                try simp only [decide_eq_true_eq, decide_eq_false_iff_not, beq_iff_eq, bne_iff_ne, beq_eq_false_iff_ne, bne_eq_false_iff_eq, Bool.not_eq_true', Bool.not_eq_false', ne_eq, Decidable.not_not] at f41
                first
                | (exfalso; omega)
                | refine WC.noop ?_
                  refine WC.skip ?_
                  refine joinK.end ?_
                  refine ⟨(d), (between ah.cls 0 3), (by repeat (first | exact Good.start | assumption | refine Good.upd ?_ _ _)), rfl, rfl, rfl, rfl, rfl, rfl, rfl, ?_, ?_⟩
                  · (first | rfl | (unfold demH; (try simp only [bw3, bw4]); (repeat' (first | rfl | rw [if_pos (by omega)] | rw [if_neg (by omega)] | rw [if_pos (by assumption)] | rw [if_neg (by first | assumption | (rw [Bool.not_eq_true]; assumption))] | split))))
                  · (first | rfl | (unfold demCl; (try simp only [bw3, bw4]); (repeat' (first | rfl | rw [if_pos (by omega)] | rw [if_neg (by omega)] | rw [if_pos (by assumption)] | rw [if_neg (by first | assumption | (rw [Bool.not_eq_true]; assumption))] | split))))
          · have f42 := h37
            try simp only [decide_eq_true_eq, decide_eq_false_iff_not, beq_iff_eq, bne_iff_ne, beq_eq_false_iff_ne, bne_eq_false_iff_eq, Bool.not_eq_true', Bool.not_eq_false', ne_eq, Decidable.not_not] at f42
            first
            | (exfalso; omega)
            | refine WO.not (wanted_no rfl rfl rfl rfl h37) rfl ?_
              refine WO.not (wanted_no rfl rfl rfl rfl h37) rfl ?_
              refine WO.pickF rfl rfl h37 rfl rfl ?_
              refine WO.nil ?_
              refine WC.cond rfl (fun h => Bool.noConfusion ((rfl).symm.trans h)) (fun _ => ?_)
              refine WC.noop ?_
              refine WC.skip ?_
              refine joinK.end ?_
              refine ⟨(d), (between ah.cls 0 3), (by repeat (first | exact Good.start | assumption | refine Good.upd ?_ _ _)), rfl, rfl, rfl, rfl, rfl, rfl, rfl, ?_, ?_⟩
              · (first | rfl | (unfold demH; (try simp only [bw3, bw4]); (repeat' (first | rfl | rw [if_pos (by omega)] | rw [if_neg (by omega)] | rw [if_pos (by assumption)] | rw [if_neg (by first | assumption | (rw [Bool.not_eq_true]; assumption))] | split))))
              · (first | rfl | (unfold demCl; (try simp only [bw3, bw4]); (repeat' (first | rfl | rw [if_pos (by omega)] | rw [if_neg (by omega)] | rw [if_pos (by assumption)] | rw [if_neg (by first | assumption | (rw [Bool.not_eq_true]; assumption))] | split))))
      · have f43 := h34
        try simp only [decide_eq_true_eq, decide_eq_false_iff_not, beq_iff_eq, bne_iff_ne, beq_eq_false_iff_ne, bne_eq_false_iff_eq, Bool.not_eq_true', Bool.not_eq_false', ne_eq, Decidable.not_not] at f43
        first
        | (exfalso; omega)
        | refine WC.noop ?_
          refine WC.skip ?_
          refine joinK.end ?_
          refine ⟨(d), (1), (by repeat (first | exact Good.start | assumption | refine Good.upd ?_ _ _)), rfl, rfl, rfl, rfl, rfl, rfl, rfl, ?_, ?_⟩
          · (first | rfl | (unfold demH; (try simp only [bw3, bw4]); (repeat' (first | rfl | rw [if_pos (by omega)] | rw [if_neg (by omega)] | rw [if_pos (by assumption)] | rw [if_neg (by first | assumption | (rw [Bool.not_eq_true]; assumption))] | split))))
          · (first | rfl | (unfold demCl; (try simp only [bw3, bw4]); (repeat' (first | rfl | rw [if_pos (by omega)] | rw [if_neg (by omega)] | rw [if_pos (by assumption)] | rw [if_neg (by first | assumption | (rw [Bool.not_eq_true]; assumption))] | split))))
    · rintro ⟨tmJ, nJ, msJ⟩ HX ⟨d2, cl, gJ44, hn, hm, q5, q6, q8, q10, hJ45, hd2, hcl⟩
      obtain rfl : nJ = Try.f37.ntmps := hn
      obtain rfl : msJ = [] := hm
      have g0_1 := gJ44
      obtain ⟨j0, t1_2, t2_2, rfl, g1_2, g2_2⟩ := g0_1
      obtain ⟨j1, t3_4, t5_4, rfl, g3_4, g5_4⟩ := g1_2
      obtain ⟨j3, t7_8, t11_8, rfl, g7_8, g11_8⟩ := g3_4
      obtain ⟨j7, t15_16, t23_16, rfl, g15_16, g23_16⟩ := g7_8
      obtain ⟨j15, t31_32, t47_32, rfl, g31_32, g47_32⟩ := g15_16
      obtain ⟨j47, t79_64, t111_64, rfl, g79_64, g111_64⟩ := g47_32
      obtain ⟨j79, t143_128, t207_128, rfl, g143_128, g207_128⟩ := g79_64
      obtain ⟨j23, t39_32, t55_32, rfl, g39_32, g55_32⟩ := g23_16
      obtain ⟨j55, t87_64, t119_64, rfl, g87_64, g119_64⟩ := g55_32
      obtain ⟨j87, t151_128, t215_128, rfl, g151_128, g215_128⟩ := g87_64
      obtain ⟨j11, t19_16, t27_16, rfl, g19_16, g27_16⟩ := g11_8
      obtain ⟨j19, t35_32, t51_32, rfl, g35_32, g51_32⟩ := g19_16
      obtain ⟨j51, t83_64, t115_64, rfl, g83_64, g115_64⟩ := g51_32
      obtain ⟨j83, t147_128, t211_128, rfl, g147_128, g211_128⟩ := g83_64
      obtain ⟨j27, t43_32, t59_32, rfl, g43_32, g59_32⟩ := g27_16
      obtain ⟨j43, t75_64, t107_64, rfl, g75_64, g107_64⟩ := g43_32
      obtain ⟨j75, t139_128, t203_128, rfl, g139_128, g203_128⟩ := g75_64
      obtain ⟨j5, t9_8, t13_8, rfl, g9_8, g13_8⟩ := g5_4
      obtain ⟨j9, t17_16, t25_16, rfl, g17_16, g25_16⟩ := g9_8
      obtain ⟨j17, t33_32, t49_32, rfl, g33_32, g49_32⟩ := g17_16
      obtain ⟨j49, t81_64, t113_64, rfl, g81_64, g113_64⟩ := g49_32
      obtain ⟨j81, t145_128, t209_128, rfl, g145_128, g209_128⟩ := g81_64
      obtain ⟨j13, t21_16, t29_16, rfl, g21_16, g29_16⟩ := g13_8
      obtain ⟨j21, t37_32, t53_32, rfl, g37_32, g53_32⟩ := g21_16
      obtain ⟨j53, t85_64, t117_64, rfl, g85_64, g117_64⟩ := g53_32
      obtain ⟨j85, t149_128, t213_128, rfl, g149_128, g213_128⟩ := g85_64
      obtain ⟨j29, t45_32, t61_32, rfl, g45_32, g61_32⟩ := g29_16
      obtain ⟨j45, t77_64, t109_64, rfl, g77_64, g109_64⟩ := g45_32
      obtain ⟨j77, t141_128, t205_128, rfl, g141_128, g205_128⟩ := g77_64
      obtain ⟨j2, t4_4, t6_4, rfl, g4_4, g6_4⟩ := g2_2
      obtain ⟨j4, t8_8, t12_8, rfl, g8_8, g12_8⟩ := g4_4
      obtain ⟨j8, t16_16, t24_16, rfl, g16_16, g24_16⟩ := g8_8
      obtain ⟨j16, t32_32, t48_32, rfl, g32_32, g48_32⟩ := g16_16
      obtain ⟨j48, t80_64, t112_64, rfl, g80_64, g112_64⟩ := g48_32
      obtain ⟨j80, t144_128, t208_128, rfl, g144_128, g208_128⟩ := g80_64
      obtain ⟨j24, t40_32, t56_32, rfl, g40_32, g56_32⟩ := g24_16
      obtain ⟨j56, t88_64, t120_64, rfl, g88_64, g120_64⟩ := g56_32
      obtain ⟨j88, t152_128, t216_128, rfl, g152_128, g216_128⟩ := g88_64
      obtain ⟨j12, t20_16, t28_16, rfl, g20_16, g28_16⟩ := g12_8
      obtain ⟨j20, t36_32, t52_32, rfl, g36_32, g52_32⟩ := g20_16
      obtain ⟨j52, t84_64, t116_64, rfl, g84_64, g116_64⟩ := g52_32
      obtain ⟨j84, t148_128, t212_128, rfl, g148_128, g212_128⟩ := g84_64
      obtain ⟨j28, t44_32, t60_32, rfl, g44_32, g60_32⟩ := g28_16
      obtain ⟨j44, t76_64, t108_64, rfl, g76_64, g108_64⟩ := g44_32
      obtain ⟨j76, t140_128, t204_128, rfl, g140_128, g204_128⟩ := g76_64
      obtain ⟨j6, t10_8, t14_8, rfl, g10_8, g14_8⟩ := g6_4
      obtain ⟨j10, t18_16, t26_16, rfl, g18_16, g26_16⟩ := g10_8
      obtain ⟨j18, t34_32, t50_32, rfl, g34_32, g50_32⟩ := g18_16
      obtain ⟨j50, t82_64, t114_64, rfl, g82_64, g114_64⟩ := g50_32
      obtain ⟨j82, t146_128, t210_128, rfl, g146_128, g210_128⟩ := g82_64
      obtain ⟨j14, t22_16, t30_16, rfl, g22_16, g30_16⟩ := g14_8
      obtain ⟨j22, t38_32, t54_32, rfl, g38_32, g54_32⟩ := g22_16
      obtain ⟨j54, t86_64, t118_64, rfl, g86_64, g118_64⟩ := g54_32
      obtain ⟨j86, t150_128, t214_128, rfl, g150_128, g214_128⟩ := g86_64
      obtain ⟨j30, t46_32, t62_32, rfl, g46_32, g62_32⟩ := g30_16
      obtain ⟨j46, t78_64, t110_64, rfl, g78_64, g110_64⟩ := g46_32
      obtain ⟨j78, t142_128, t206_128, rfl, g142_128, g206_128⟩ := g78_64
      obtain rfl : j5 = some (Value.pointer (some ⟨H1.next, 0, none⟩)) := q5
      obtain rfl : j6 = some (Value.int .i64 (0)) := q6
      obtain rfl : j8 = some (Value.int .i64 (d2)) := q8
      obtain rfl : j10 = some (Value.int .i64 (cl)) := q10
      rw [hJ45]
      clear hJ45 HX
      refine WC.region ?_
      refine WO.move rfl rfl rfl ?_
      refine WO.fieldAddr rfl (Try.underlying57) rfl rfl rfl rfl rfl ?_
      refine WO.load rfl rfl rfl g6.get rfl rfl ?_
      refine WO.call rfl rfl (evs_cons rfl (evs_cons rfl (evs_cons rfl evs_nil))) rfl (w76 _ _ _ _) ?_
      rintro _ HX ⟨rfl, h46⟩
      rw [h46]
      clear h46 HX
      refine WO.bin rfl rfl rfl rfl rfl ?_
      refine WO.assign rfl rfl rfl ?_
      refine WO.nil ?_
      refine WC.assoc ?_
      refine WC.region ?_
      refine WO.move rfl rfl rfl ?_
      refine WO.bin rfl rfl rfl rfl rfl ?_
      refine WO.move rfl rfl rfl ?_
      refine WO.split (t := 82) rfl (fun h47 => ?_) (fun h47 => ?_)
      · have f48 := h47
        try simp only [decide_eq_true_eq, decide_eq_false_iff_not, beq_iff_eq, bne_iff_ne, beq_eq_false_iff_ne, bne_eq_false_iff_eq, Bool.not_eq_true', Bool.not_eq_false', ne_eq, Decidable.not_not] at f48
        first
        | (exfalso; omega)
        | refine WO.not (wanted_no rfl rfl rfl rfl h47) rfl ?_
          refine WO.not (wanted_no rfl rfl rfl rfl h47) rfl ?_
          refine WO.pickT rfl rfl h47 rfl rfl ?_
          refine WO.nil ?_
          refine WC.cond rfl (fun _ => ?_) (fun h => Bool.noConfusion ((rfl).symm.trans h))
          refine WC.region ?_
          refine WO.move rfl rfl rfl ?_
          refine WO.bin rfl rfl rfl rfl rfl ?_
          refine WO.assign rfl rfl rfl ?_
          refine WO.nil ?_
          refine WC.region ?_
          refine WO.move rfl rfl rfl ?_
          refine WO.assign rfl rfl rfl ?_
          refine WO.nil ?_
          refine WC.ret' ?_
          refine ⟨.inr rfl, rfl, _, res1 rfl, ?_⟩
          refine ⟨?_, Ext.more (E2.trans E5) (by omega)⟩
          congr 1
          unfold dem
          rw [← hd, ← hd2, ← hcl]
          try simp only [bw3] at *
          first | rfl | (unfold demE; (repeat' (first | rfl | rw [if_pos (by omega)] | rw [if_neg (by omega)] | rw [if_pos (by assumption)] | rw [if_neg (by first | assumption | (rw [Bool.not_eq_true]; assumption))] | split)))
      · have f49 := h47
        try simp only [decide_eq_true_eq, decide_eq_false_iff_not, beq_iff_eq, bne_iff_ne, beq_eq_false_iff_ne, bne_eq_false_iff_eq, Bool.not_eq_true', Bool.not_eq_false', ne_eq, Decidable.not_not] at f49
        first
        | (exfalso; omega)
        | refine WO.move (wanted_yes rfl rfl rfl rfl h47) rfl rfl ?_
          refine WO.bin (wanted_yes rfl rfl rfl rfl h47) rfl rfl rfl rfl ?_
          refine WO.pickF rfl rfl h47 rfl rfl ?_
          refine WO.nil ?_
          refine WC.cond rfl (fun h50 => ?_) (fun h50 => ?_)
          · have f51 := h50
            try simp only [decide_eq_true_eq, decide_eq_false_iff_not, beq_iff_eq, bne_iff_ne, beq_eq_false_iff_ne, bne_eq_false_iff_eq, Bool.not_eq_true', Bool.not_eq_false', ne_eq, Decidable.not_not] at f51
            first
            | (exfalso; omega)
            | refine WC.region ?_
              refine WO.move rfl rfl rfl ?_
              refine WO.bin rfl rfl rfl rfl rfl ?_
              refine WO.assign rfl rfl rfl ?_
              refine WO.nil ?_
              refine WC.region ?_
              refine WO.move rfl rfl rfl ?_
              refine WO.assign rfl rfl rfl ?_
              refine WO.nil ?_
              refine WC.ret' ?_
              refine ⟨.inr rfl, rfl, _, res1 rfl, ?_⟩
              refine ⟨?_, Ext.more (E2.trans E5) (by omega)⟩
              congr 1
              unfold dem
              rw [← hd, ← hd2, ← hcl]
              try simp only [bw3] at *
              first | rfl | (unfold demE; (repeat' (first | rfl | rw [if_pos (by omega)] | rw [if_neg (by omega)] | rw [if_pos (by assumption)] | rw [if_neg (by first | assumption | (rw [Bool.not_eq_true]; assumption))] | split)))
          · have f52 := h50
            try simp only [decide_eq_true_eq, decide_eq_false_iff_not, beq_iff_eq, bne_iff_ne, beq_eq_false_iff_ne, bne_eq_false_iff_eq, Bool.not_eq_true', Bool.not_eq_false', ne_eq, Decidable.not_not] at f52
            first
            | (exfalso; omega)
            | refine WC.noop ?_
              refine WC.region ?_
              refine WO.move rfl rfl rfl ?_
              refine WO.assign rfl rfl rfl ?_
              refine WO.nil ?_
              refine WC.ret' ?_
              refine ⟨.inr rfl, rfl, _, res1 rfl, ?_⟩
              refine ⟨?_, Ext.more (E2.trans E5) (by omega)⟩
              congr 1
              unfold dem
              rw [← hd, ← hd2, ← hcl]
              try simp only [bw3] at *
              first | rfl | (unfold demE; (repeat' (first | rfl | rw [if_pos (by omega)] | rw [if_neg (by omega)] | rw [if_pos (by assumption)] | rw [if_neg (by first | assumption | (rw [Bool.not_eq_true]; assumption))] | split)))

theorem wrap_id {x : Int} (h : -9223372036854775808 ≤ x) (h2 : x < 9223372036854775808) : IntKind.i64.wrap x = x := by
  unfold IntKind.wrap
  simp only [IntKind.bits, IntKind.signed, Bool.true_and]
  have e : (2 : Int) ^ 64 = 18446744073709551616 := by decide
  have e2 : (2 : Int) ^ (64 - 1) = 9223372036854775808 := by decide
  simp only [e, e2]
  split
  · rename_i hc
    simp only [ge_iff_le, decide_eq_true_eq] at hc
    omega
  · rename_i hc
    simp only [ge_iff_le, decide_eq_true_eq] at hc
    omega

def moreF (n k : Int) : Int := if n > 2147483647 then 2147483648 else if k > IntKind.i64.wrap (2147483647 - n) then 2147483648 else IntKind.i64.wrap (n + k)
theorem moreF_ge {n k : Int} (h : 0 ≤ n) (hn : n ≤ 2147483647) (hk : 0 ≤ k) : n ≤ moreF n k := by
  unfold moreF
  rw [if_neg (by omega), wrap_id (by omega) (by omega)]
  split
  · omega
  · rw [wrap_id (by omega) (by omega)]; omega

theorem w60 (H : AH) (n k : Int) : WF1 Try.prog orc 60 [.int .i64 n, .int .i64 k] H (fun v H1 => v = .int .i64 (moreF n k) ∧ H1 = H) := by
  refine WF1.call (bodyOf_mk Try.func60 rfl (leN rfl) (leN rfl) (by kernel_rfl)) rfl ?_
  refine WC.region ?_
  refine WO.assign rfl rfl rfl ?_
  refine WO.nil ?_
  refine WC.assoc ?_
  refine WC.region ?_
  refine WO.move rfl rfl rfl ?_
  refine WO.bin rfl rfl rfl rfl rfl ?_
  refine WO.move rfl rfl rfl ?_
  refine WO.split (t := 7) rfl (fun h1 => ?_) (fun h1 => ?_)
  · have f2 := h1
    try simp only [decide_eq_true_eq, decide_eq_false_iff_not, beq_iff_eq, bne_iff_ne, beq_eq_false_iff_ne, bne_eq_false_iff_eq, Bool.not_eq_true', Bool.not_eq_false', ne_eq, Decidable.not_not] at f2
    first
    | (exfalso; omega)
    | refine WO.not (wanted_no rfl rfl rfl rfl h1) rfl ?_
      refine WO.not (wanted_no rfl rfl rfl rfl h1) rfl ?_
      refine WO.not (wanted_no rfl rfl rfl rfl h1) rfl ?_
      refine WO.not (wanted_no rfl rfl rfl rfl h1) rfl ?_
      refine WO.pickT rfl rfl h1 rfl rfl ?_
      refine WO.nil ?_
      refine WC.cond rfl (fun _ => ?_) (fun h => Bool.noConfusion ((rfl).symm.trans h))
      refine WC.assoc ?_
      refine WC.region ?_
      refine WO.assign rfl rfl rfl ?_
      refine WO.nil ?_
      refine WC.ret ?_
      refine ⟨.inr rfl, rfl, _, res1 rfl, ?_⟩
      exact ⟨by congr 1; (first | rfl | (unfold moreF; (repeat' (first | rfl | rw [if_pos (by omega)] | rw [if_neg (by omega)] | rw [if_pos (by assumption)] | rw [if_neg (by first | assumption | (rw [Bool.not_eq_true]; assumption))] | split)))), rfl⟩
  · have f3 := h1
    try simp only [decide_eq_true_eq, decide_eq_false_iff_not, beq_iff_eq, bne_iff_ne, beq_eq_false_iff_ne, bne_eq_false_iff_eq, Bool.not_eq_true', Bool.not_eq_false', ne_eq, Decidable.not_not] at f3
    first
    | (exfalso; omega)
    | refine WO.move (wanted_yes rfl rfl rfl rfl h1) rfl rfl ?_
      refine WO.move (wanted_yes rfl rfl rfl rfl h1) rfl rfl ?_
      refine WO.bin (wanted_yes rfl rfl rfl rfl h1) rfl rfl rfl rfl ?_
      refine WO.bin (wanted_yes rfl rfl rfl rfl h1) rfl rfl rfl rfl ?_
      refine WO.pickF rfl rfl h1 rfl rfl ?_
      refine WO.nil ?_
      refine WC.cond rfl (fun h4 => ?_) (fun h4 => ?_)
      · have f5 := h4
        try simp only [decide_eq_true_eq, decide_eq_false_iff_not, beq_iff_eq, bne_iff_ne, beq_eq_false_iff_ne, bne_eq_false_iff_eq, Bool.not_eq_true', Bool.not_eq_false', ne_eq, Decidable.not_not] at f5
        first
        | (exfalso; omega)
        | refine WC.assoc ?_
          refine WC.region ?_
          refine WO.assign rfl rfl rfl ?_
          refine WO.nil ?_
          refine WC.ret ?_
          refine ⟨.inr rfl, rfl, _, res1 rfl, ?_⟩
          exact ⟨by congr 1; (first | rfl | (unfold moreF; (repeat' (first | rfl | rw [if_pos (by omega)] | rw [if_neg (by omega)] | rw [if_pos (by assumption)] | rw [if_neg (by first | assumption | (rw [Bool.not_eq_true]; assumption))] | split)))), rfl⟩
      · have f6 := h4
        try simp only [decide_eq_true_eq, decide_eq_false_iff_not, beq_iff_eq, bne_iff_ne, beq_eq_false_iff_ne, bne_eq_false_iff_eq, Bool.not_eq_true', Bool.not_eq_false', ne_eq, Decidable.not_not] at f6
        first
        | (exfalso; omega)
        | refine WC.noop ?_
          refine WC.region ?_
          refine WO.move rfl rfl rfl ?_
          refine WO.move rfl rfl rfl ?_
          refine WO.bin rfl rfl rfl rfl rfl ?_
          refine WO.assign rfl rfl rfl ?_
          refine WO.nil ?_
          refine WC.ret' ?_
          refine ⟨.inr rfl, rfl, _, res1 rfl, ?_⟩
          exact ⟨by congr 1; (first | rfl | (unfold moreF; (repeat' (first | rfl | rw [if_pos (by omega)] | rw [if_neg (by omega)] | rw [if_pos (by assumption)] | rw [if_neg (by first | assumption | (rw [Bool.not_eq_true]; assumption))] | split)))), rfl⟩

set_option maxRecDepth 100000 in
set_option maxHeartbeats 4000000 in
theorem w27 (H : AH) (L : List ItemV) (p : Option Addr) (c : Nat) (hL : Items H p L) (hl : (L.length : Int) < 9223372036854775808) : WF1 Try.prog orc 27 [.slice p L.length c] H (fun v H1 => ∃ b, v = .bool b ∧ (b = false → (L.length : Int) ≤ 2147483647) ∧ H1 = H) := by
  refine WF1.call (bodyOf_mk Try.func27 rfl (leN rfl) (leN rfl) (by kernel_rfl)) rfl ?_
  refine WC.region ?_
  refine WO.assign rfl rfl rfl ?_
  refine WO.nil ?_
  refine WC.region ?_
  refine WO.move rfl rfl rfl ?_
  refine WO.len rfl (Try.underlying42) rfl rfl ?_
  refine WO.assign rfl rfl rfl ?_
  refine WO.nil ?_
  refine WC.assoc ?_
  refine WC.region ?_
  refine WO.assign rfl rfl rfl ?_
  refine WO.nil ?_
  refine WC.block ?_
  refine WC.loopE (fun kJ aJ HJ => ∃ (n : Int) (i : Int), Good 10 aJ.tm ∧ aJ.n = Try.f27.ntmps ∧ aJ.marks = [] ∧ aJ.tm.get 0 = some (Value.slice p (L.length) (c)) ∧ aJ.tm.get 2 = some (Value.bool (false)) ∧ aJ.tm.get 3 = some (Value.int .i64 (n)) ∧ aJ.tm.get 4 = some (Value.int .i64 (i)) ∧ HJ = H ∧ kJ = ((L.length : Int) - i).toNat ∧ (0 ≤ i ∧ i ≤ L.length) ∧ (0 ≤ n ∧ ((L.length : Int) ≤ n ∨ 2147483647 < n))) ?_ ?_
  · rintro kJ ⟨tmJ, nJ, msJ⟩ HX ⟨n, i, gJ2, hn, hm, q0, q2, q3, q4, hJ3, hk1, hi, hn0⟩
    obtain rfl : nJ = Try.f27.ntmps := hn
    obtain rfl : msJ = [] := hm
    have g0_1 := gJ2
    obtain ⟨j0, t1_2, t2_2, rfl, g1_2, g2_2⟩ := g0_1
    obtain ⟨j1, t3_4, t5_4, rfl, g3_4, g5_4⟩ := g1_2
    obtain ⟨j3, t7_8, t11_8, rfl, g7_8, g11_8⟩ := g3_4
    obtain ⟨j7, t15_16, t23_16, rfl, g15_16, g23_16⟩ := g7_8
    obtain ⟨j15, t31_32, t47_32, rfl, g31_32, g47_32⟩ := g15_16
    obtain ⟨j23, t39_32, t55_32, rfl, g39_32, g55_32⟩ := g23_16
    obtain ⟨j11, t19_16, t27_16, rfl, g19_16, g27_16⟩ := g11_8
    obtain ⟨j19, t35_32, t51_32, rfl, g35_32, g51_32⟩ := g19_16
    obtain ⟨j5, t9_8, t13_8, rfl, g9_8, g13_8⟩ := g5_4
    obtain ⟨j9, t17_16, t25_16, rfl, g17_16, g25_16⟩ := g9_8
    obtain ⟨j17, t33_32, t49_32, rfl, g33_32, g49_32⟩ := g17_16
    obtain ⟨j25, t41_32, t57_32, rfl, g41_32, g57_32⟩ := g25_16
    obtain ⟨j13, t21_16, t29_16, rfl, g21_16, g29_16⟩ := g13_8
    obtain ⟨j21, t37_32, t53_32, rfl, g37_32, g53_32⟩ := g21_16
    obtain ⟨j2, t4_4, t6_4, rfl, g4_4, g6_4⟩ := g2_2
    obtain ⟨j4, t8_8, t12_8, rfl, g8_8, g12_8⟩ := g4_4
    obtain ⟨j8, t16_16, t24_16, rfl, g16_16, g24_16⟩ := g8_8
    obtain ⟨j16, t32_32, t48_32, rfl, g32_32, g48_32⟩ := g16_16
    obtain ⟨j24, t40_32, t56_32, rfl, g40_32, g56_32⟩ := g24_16
    obtain ⟨j12, t20_16, t28_16, rfl, g20_16, g28_16⟩ := g12_8
    obtain ⟨j20, t36_32, t52_32, rfl, g36_32, g52_32⟩ := g20_16
    obtain ⟨j6, t10_8, t14_8, rfl, g10_8, g14_8⟩ := g6_4
    obtain ⟨j10, t18_16, t26_16, rfl, g18_16, g26_16⟩ := g10_8
    obtain ⟨j18, t34_32, t50_32, rfl, g34_32, g50_32⟩ := g18_16
    obtain ⟨j26, t42_32, t58_32, rfl, g42_32, g58_32⟩ := g26_16
    obtain ⟨j14, t22_16, t30_16, rfl, g22_16, g30_16⟩ := g14_8
    obtain ⟨j22, t38_32, t54_32, rfl, g38_32, g54_32⟩ := g22_16
    obtain rfl : j0 = some (Value.slice p (L.length) (c)) := q0
    obtain rfl : j2 = some (Value.bool (false)) := q2
    obtain rfl : j3 = some (Value.int .i64 (n)) := q3
    obtain rfl : j4 = some (Value.int .i64 (i)) := q4
    rw [hJ3]
    clear hJ3 HX
    refine WC.assoc ?_
    refine WC.region ?_
    refine WO.move rfl rfl rfl ?_
    refine WO.move rfl rfl rfl ?_
    refine WO.len rfl (Try.underlying42) rfl rfl ?_
    refine WO.bin rfl rfl rfl rfl rfl ?_
    refine WO.move rfl rfl rfl ?_
    refine WO.split (t := 11) rfl (fun h4 => ?_) (fun h4 => ?_)
    · have f5 := h4
      try simp only [decide_eq_true_eq, decide_eq_false_iff_not, beq_iff_eq, bne_iff_ne, beq_eq_false_iff_ne, bne_eq_false_iff_eq, Bool.not_eq_true', Bool.not_eq_false', ne_eq, Decidable.not_not] at f5
      first
      | (exfalso; omega)
      | refine WO.move (wanted_yes rfl rfl rfl rfl h4) rfl rfl ?_
        refine WO.bin (wanted_yes rfl rfl rfl rfl h4) rfl rfl rfl rfl ?_
        refine WO.pickT rfl rfl h4 rfl rfl ?_
        refine WO.nil ?_
        refine WC.cond rfl (fun h6 => ?_) (fun h6 => ?_)
        · have f7 := h6
          try simp only [decide_eq_true_eq, decide_eq_false_iff_not, beq_iff_eq, bne_iff_ne, beq_eq_false_iff_ne, bne_eq_false_iff_eq, Bool.not_eq_true', Bool.not_eq_false', ne_eq, Decidable.not_not] at f7
          first
          | (exfalso; omega)
          | refine WC.noop ?_
            refine WC.block ?_
            refine WC.lone ?_
            refine WC.region ?_
            refine WO.move rfl rfl rfl ?_
            refine WO.move rfl rfl rfl ?_
            refine WO.move rfl rfl rfl ?_
            obtain ⟨y8, hy9⟩ : ∃ y8, L[(i).toNat]? = some y8 := ⟨_, List.getElem?_eq_getElem (by first | omega | (simp only [List.length_append, List.length_singleton]; omega))⟩
            obtain ⟨id10, of11, r12, hp13, hr14, hc15⟩ := items_at hL hy9
            subst hp13
            refine WO.indexAddr rfl (Try.underlying42) rfl rfl rfl (by omega) rfl ?_
            refine WO.fieldAddr rfl (Try.underlying71) rfl rfl rfl rfl rfl ?_
            refine WO.load rfl rfl rfl hr14.get (hc15 _ _ rfl) rfl ?_
            refine WO.lenStr rfl (Try.underlying9) rfl rfl ?_
            refine WO.call rfl rfl (evs_cons rfl (evs_cons rfl evs_nil)) rfl (w60 _ _ _) ?_
            rintro _ HX ⟨rfl, h16⟩
            rw [h16]
            clear h16 HX
            refine WO.assign rfl rfl rfl ?_
            refine WO.nil ?_
            refine WC.skip ?_
            refine blockK.end ?_
            refine WC.lone ?_
            refine WC.region ?_
            refine WO.move rfl rfl rfl ?_
            refine WO.bin rfl rfl rfl rfl rfl ?_
            refine WO.assign rfl rfl rfl ?_
            refine WO.nil ?_
            refine WC.skip ?_
            refine loopK.mkE ⟨_, ⟨(moreF n (((y8.font.size : Nat) : Int))), (IntKind.i64.wrap (i + 1)), (by repeat (first | exact Good.start | assumption | refine Good.upd ?_ _ _)), rfl, rfl, rfl, rfl, rfl, rfl, rfl, rfl, ?_, ?_⟩, ?_⟩
            · (first | omega | (have hwi := wrap_id (x := i + 1) (by omega) (by omega); omega))
            · (first | omega | (have hmg := moreF_ge (n := n) (k := ((y8.font.size : Nat) : Int)) (by omega) (by omega) (by omega); omega))
            · (rw [hk1]; have hwi := wrap_id (x := i + 1) (by omega) (by omega); omega)
        · have f17 := h6
          try simp only [decide_eq_true_eq, decide_eq_false_iff_not, beq_iff_eq, bne_iff_ne, beq_eq_false_iff_ne, bne_eq_false_iff_eq, Bool.not_eq_true', Bool.not_eq_false', ne_eq, Decidable.not_not] at f17
          first
          | (exfalso; omega)
          | refine WC.exit ?_
            refine loopK.exit ?_
            refine blockK.here ?_
            refine WC.region ?_
            refine WO.move rfl rfl rfl ?_
            refine WO.bin rfl rfl rfl rfl rfl ?_
            refine WO.assign rfl rfl rfl ?_
            refine WO.nil ?_
            refine WC.ret' ?_
            refine ⟨.inr rfl, rfl, _, res1 rfl, ?_⟩
            exact ⟨_, rfl, fun hb => by simp only [decide_eq_false_iff_not] at hb; omega, rfl⟩
    · have f18 := h4
      try simp only [decide_eq_true_eq, decide_eq_false_iff_not, beq_iff_eq, bne_iff_ne, beq_eq_false_iff_ne, bne_eq_false_iff_eq, Bool.not_eq_true', Bool.not_eq_false', ne_eq, Decidable.not_not] at f18
      first
      | (exfalso; omega)
      | refine WO.not (wanted_no rfl rfl rfl rfl h4) rfl ?_
        refine WO.not (wanted_no rfl rfl rfl rfl h4) rfl ?_
        refine WO.pickF rfl rfl h4 rfl rfl ?_
        refine WO.nil ?_
        refine WC.cond rfl (fun h => Bool.noConfusion ((rfl).symm.trans h)) (fun _ => ?_)
        refine WC.exit ?_
        refine loopK.exit ?_
        refine blockK.here ?_
        refine WC.region ?_
        refine WO.move rfl rfl rfl ?_
        refine WO.bin rfl rfl rfl rfl rfl ?_
        refine WO.assign rfl rfl rfl ?_
        refine WO.nil ?_
        refine WC.ret' ?_
        refine ⟨.inr rfl, rfl, _, res1 rfl, ?_⟩
        exact ⟨_, rfl, fun hb => by simp only [decide_eq_false_iff_not] at hb; omega, rfl⟩
  · skip
    refine ⟨_, (((L.length : Nat) : Int)), (0), (by repeat (first | exact Good.start | assumption | refine Good.upd ?_ _ _)), rfl, rfl, rfl, rfl, rfl, rfl, rfl, rfl, ?_, ?_⟩
    · (first | omega | (have hwi := wrap_id (x := i + 1) (by omega) (by omega); omega))
    · (first | omega | (have hmg := moreF_ge (n := n) (k := 0) (by omega) (by omega) (by omega); omega))

def itemEq (y z : ItemV) : Bool := y.kind == z.kind && (y.font == z.font && (y.size == z.size && (y.rune == z.rune && (y.width == z.width && (y.height == z.height && (y.depth == z.depth && (y.stretch == z.stretch && (y.shrink == z.shrink && (y.value == z.value && (y.flag == z.flag && (y.from_ == z.from_ && (y.to == z.to && true))))))))))))
set_option maxRecDepth 100000 in
theorem eqItem (y z : ItemV) : aEq Try.prog .neq 71 (.agg (itemL y).toArray) (.agg (itemL z).toArray) = .ok (.bool (!itemEq y z)) := by
  kernel_rfl
theorem itemEq_self (y : ItemV) : itemEq y y = true := by
  have h : (y.font == y.font) = true := by rw [beq_toListBytes]; simp
  simp [itemEq, h]

theorem takeK_of : ∀ (l : List Value) (cs : List (Option Value)) (o : Nat), (∀ (f : Nat) (v : Value), l[f]? = some v → cs[o + f]? = some (some v)) → takeK (cs.drop o) l.length = .ok l
  | [], _, _, _ => by cases h : (List.drop _ _) <;> rfl
  | v :: l, cs, o, h => by
    have h0 := h 0 v rfl
    have hd : cs.drop o = some v :: cs.drop (o + 1) := by
      have hlt : o < cs.length := by
        rcases Nat.lt_or_ge o cs.length with h' | h'
        · exact h'
        · rw [Nat.add_zero, List.getElem?_eq_none h'] at h0; cases h0
      rw [List.drop_eq_getElem_cons hlt]
      rw [Nat.add_zero, List.getElem?_eq_getElem hlt] at h0
      rw [Option.some.inj h0]
    rw [hd]
    have ih := takeK_of l cs (o + 1) (fun f u hu => by rw [show o + 1 + f = o + (f + 1) by omega]; exact h (f + 1) u (by simpa using hu))
    show (takeK (List.drop (o + 1) cs) l.length >>= fun x => Except.ok (v :: x)) = _
    rw [ih]; rfl

theorem takeK_item {y : ItemV} {r : Row} {o : Nat} (h : ∀ (f : Nat) (v : Value), (itemL y)[f]? = some v → r.cells[o + f]? = some (some v)) : takeK (r.cells.drop o) 13 = .ok (itemL y) :=
  takeK_of (itemL y) r.cells o h

set_option maxRecDepth 100000 in
set_option maxHeartbeats 4000000 in
theorem w32 (H : AH) (L : List ItemV) (M : ItemV) (hMk : M.kind = -77) (p q : Option Addr) (c c2 : Nat) (hL : Items H p L) (hX : Items H q (L ++ [M])) (hl : (L.length : Int) < 2147483648) : WF1 Try.prog orc 32 [.slice q (L.length + 1) c2, .slice p L.length c] H (fun v H1 => v = .bool true ∧ H1 = H) := by
  have hw1 := wrap_id (x := ((L.length : Nat) : Int) + 1) (by omega) (by omega)
  refine WF1.call (bodyOf_mk Try.func32 rfl (leN rfl) (leN rfl) (by kernel_rfl)) rfl ?_
  refine WC.region ?_
  refine WO.assign rfl rfl rfl ?_
  refine WO.nil ?_
  refine WC.assoc ?_
  refine WC.region ?_
  refine WO.move rfl rfl rfl ?_
  refine WO.len rfl (Try.underlying42) rfl rfl ?_
  refine WO.move rfl rfl rfl ?_
  refine WO.len rfl (Try.underlying42) rfl rfl ?_
  refine WO.bin rfl rfl rfl rfl rfl ?_
  refine WO.bin rfl rfl rfl rfl rfl ?_
  refine WO.move rfl rfl rfl ?_
  refine WO.split (t := 12) rfl (fun h1 => ?_) (fun h1 => ?_)
  · have f2 := h1
    try simp only [decide_eq_true_eq, decide_eq_false_iff_not, beq_iff_eq, bne_iff_ne, beq_eq_false_iff_ne, bne_eq_false_iff_eq, Bool.not_eq_true', Bool.not_eq_false', ne_eq, Decidable.not_not] at f2
    first
    | (exfalso; omega)
    | refine WO.not (wanted_no rfl rfl rfl rfl h1) rfl ?_
      refine WO.not (wanted_no rfl rfl rfl rfl h1) rfl ?_
      refine WO.not (wanted_no rfl rfl rfl rfl h1) rfl ?_
      refine WO.not (wanted_no rfl rfl rfl rfl h1) rfl ?_
      refine WO.not (wanted_no rfl rfl rfl rfl h1) rfl ?_
      refine WO.not (wanted_no rfl rfl rfl rfl h1) rfl ?_
      refine WO.not (wanted_no rfl rfl rfl rfl h1) rfl ?_
      refine WO.pickT rfl rfl h1 rfl rfl ?_
      refine WO.nil ?_
      refine WC.cond rfl (fun _ => ?_) (fun h => Bool.noConfusion ((rfl).symm.trans h))
      refine WC.assoc ?_
      refine WC.region ?_
      refine WO.assign rfl rfl rfl ?_
      refine WO.nil ?_
      refine WC.ret ?_
      refine ⟨.inr rfl, rfl, _, res1 rfl, ?_⟩
      exfalso
      first | omega | (simp only [bne_iff_ne, ne_eq, bne_eq_false_iff_eq] at *; omega)
  · have f3 := h1
    try simp only [decide_eq_true_eq, decide_eq_false_iff_not, beq_iff_eq, bne_iff_ne, beq_eq_false_iff_ne, bne_eq_false_iff_eq, Bool.not_eq_true', Bool.not_eq_false', ne_eq, Decidable.not_not] at f3
    first
    | (exfalso; omega)
    | refine WO.move (wanted_yes rfl rfl rfl rfl h1) rfl rfl ?_
      refine WO.move (wanted_yes rfl rfl rfl rfl h1) rfl rfl ?_
      refine WO.len (wanted_yes rfl rfl rfl rfl h1) (Try.underlying42) rfl rfl ?_
      obtain ⟨y4, hy5⟩ : ∃ y4, (L ++ [M])[(((L.length : Nat) : Int)).toNat]? = some y4 := ⟨_, List.getElem?_eq_getElem (by first | omega | (simp only [List.length_append, List.length_singleton]; omega))⟩
      obtain ⟨id6, of7, r8, hp9, hr10, hc11⟩ := items_at hX hy5
      subst hp9
      have hMy4 : y4 = M := by have h := hy5; rw [show ((L.length : Nat) : Int).toNat = L.length by omega, List.getElem?_append_right (Nat.le_refl _)] at h; simpa using h.symm
      have hKy4 : y4.kind = -77 := by rw [hMy4]; exact hMk
      refine WO.indexAddr (wanted_yes rfl rfl rfl rfl h1) (Try.underlying42) rfl rfl rfl (by omega) rfl ?_
      refine WO.fieldAddr (wanted_yes rfl rfl rfl rfl h1) (Try.underlying71) rfl rfl rfl rfl rfl ?_
      refine WO.load (wanted_yes rfl rfl rfl rfl h1) rfl rfl hr10.get (hc11 _ _ rfl) rfl ?_
      refine WO.bin (wanted_yes rfl rfl rfl rfl h1) rfl rfl rfl rfl ?_
      refine WO.pickF rfl rfl h1 rfl rfl ?_
      refine WO.nil ?_
      refine WC.cond rfl (fun h12 => ?_) (fun h12 => ?_)
      · have f13 := h12
        try simp only [decide_eq_true_eq, decide_eq_false_iff_not, beq_iff_eq, bne_iff_ne, beq_eq_false_iff_ne, bne_eq_false_iff_eq, Bool.not_eq_true', Bool.not_eq_false', ne_eq, Decidable.not_not] at f13
        first
        | (exfalso; omega)
        | refine WC.assoc ?_
          refine WC.region ?_
          refine WO.assign rfl rfl rfl ?_
          refine WO.nil ?_
          refine WC.ret ?_
          refine ⟨.inr rfl, rfl, _, res1 rfl, ?_⟩
          exfalso
          first | omega | (simp only [bne_iff_ne, ne_eq, bne_eq_false_iff_eq] at *; omega)
      · have f14 := h12
        try simp only [decide_eq_true_eq, decide_eq_false_iff_not, beq_iff_eq, bne_iff_ne, beq_eq_false_iff_ne, bne_eq_false_iff_eq, Bool.not_eq_true', Bool.not_eq_false', ne_eq, Decidable.not_not] at f14
        first
        | (exfalso; omega)
        | refine WC.noop ?_
          refine WC.assoc ?_
          refine WC.region ?_
          refine WO.assign rfl rfl rfl ?_
          refine WO.nil ?_
          refine WC.block ?_
          refine WC.loopE (fun kJ aJ HJ => ∃ (i : Int), Good 10 aJ.tm ∧ aJ.n = Try.f32.ntmps ∧ aJ.marks = [] ∧ aJ.tm.get 0 = some (Value.slice (some ⟨id6, of7, none⟩) (L.length + 1) (c2)) ∧ aJ.tm.get 1 = some (Value.slice p (L.length) (c)) ∧ aJ.tm.get 5 = some (Value.int .i64 (i)) ∧ HJ = H ∧ kJ = ((L.length : Int) - i).toNat ∧ (0 ≤ i ∧ i ≤ L.length)) ?_ ?_
          · rintro kJ ⟨tmJ, nJ, msJ⟩ HX ⟨i, gJ16, hn, hm, q0, q1, q5, hJ17, hk15, hi⟩
            obtain rfl : nJ = Try.f32.ntmps := hn
            obtain rfl : msJ = [] := hm
            have g0_1 := gJ16
            obtain ⟨j0, t1_2, t2_2, rfl, g1_2, g2_2⟩ := g0_1
            obtain ⟨j1, t3_4, t5_4, rfl, g3_4, g5_4⟩ := g1_2
            obtain ⟨j3, t7_8, t11_8, rfl, g7_8, g11_8⟩ := g3_4
            obtain ⟨j7, t15_16, t23_16, rfl, g15_16, g23_16⟩ := g7_8
            obtain ⟨j15, t31_32, t47_32, rfl, g31_32, g47_32⟩ := g15_16
            obtain ⟨j31, t63_64, t95_64, rfl, g63_64, g95_64⟩ := g31_32
            obtain ⟨j23, t39_32, t55_32, rfl, g39_32, g55_32⟩ := g23_16
            obtain ⟨j11, t19_16, t27_16, rfl, g19_16, g27_16⟩ := g11_8
            obtain ⟨j19, t35_32, t51_32, rfl, g35_32, g51_32⟩ := g19_16
            obtain ⟨j35, t67_64, t99_64, rfl, g67_64, g99_64⟩ := g35_32
            obtain ⟨j27, t43_32, t59_32, rfl, g43_32, g59_32⟩ := g27_16
            obtain ⟨j5, t9_8, t13_8, rfl, g9_8, g13_8⟩ := g5_4
            obtain ⟨j9, t17_16, t25_16, rfl, g17_16, g25_16⟩ := g9_8
            obtain ⟨j17, t33_32, t49_32, rfl, g33_32, g49_32⟩ := g17_16
            obtain ⟨j33, t65_64, t97_64, rfl, g65_64, g97_64⟩ := g33_32
            obtain ⟨j25, t41_32, t57_32, rfl, g41_32, g57_32⟩ := g25_16
            obtain ⟨j13, t21_16, t29_16, rfl, g21_16, g29_16⟩ := g13_8
            obtain ⟨j21, t37_32, t53_32, rfl, g37_32, g53_32⟩ := g21_16
            obtain ⟨j29, t45_32, t61_32, rfl, g45_32, g61_32⟩ := g29_16
            obtain ⟨j2, t4_4, t6_4, rfl, g4_4, g6_4⟩ := g2_2
            obtain ⟨j4, t8_8, t12_8, rfl, g8_8, g12_8⟩ := g4_4
            obtain ⟨j8, t16_16, t24_16, rfl, g16_16, g24_16⟩ := g8_8
            obtain ⟨j16, t32_32, t48_32, rfl, g32_32, g48_32⟩ := g16_16
            obtain ⟨j32, t64_64, t96_64, rfl, g64_64, g96_64⟩ := g32_32
            obtain ⟨j24, t40_32, t56_32, rfl, g40_32, g56_32⟩ := g24_16
            obtain ⟨j12, t20_16, t28_16, rfl, g20_16, g28_16⟩ := g12_8
            obtain ⟨j28, t44_32, t60_32, rfl, g44_32, g60_32⟩ := g28_16
            obtain ⟨j6, t10_8, t14_8, rfl, g10_8, g14_8⟩ := g6_4
            obtain ⟨j10, t18_16, t26_16, rfl, g18_16, g26_16⟩ := g10_8
            obtain ⟨j18, t34_32, t50_32, rfl, g34_32, g50_32⟩ := g18_16
            obtain ⟨j34, t66_64, t98_64, rfl, g66_64, g98_64⟩ := g34_32
            obtain ⟨j26, t42_32, t58_32, rfl, g42_32, g58_32⟩ := g26_16
            obtain ⟨j14, t22_16, t30_16, rfl, g22_16, g30_16⟩ := g14_8
            obtain ⟨j22, t38_32, t54_32, rfl, g38_32, g54_32⟩ := g22_16
            obtain ⟨j30, t46_32, t62_32, rfl, g46_32, g62_32⟩ := g30_16
            obtain rfl : j0 = some (Value.slice (some ⟨id6, of7, none⟩) (L.length + 1) (c2)) := q0
            obtain rfl : j1 = some (Value.slice p (L.length) (c)) := q1
            obtain rfl : j5 = some (Value.int .i64 (i)) := q5
            rw [hJ17]
            clear hJ17 HX
            refine WC.assoc ?_
            refine WC.region ?_
            refine WO.move rfl rfl rfl ?_
            refine WO.move rfl rfl rfl ?_
            refine WO.len rfl (Try.underlying42) rfl rfl ?_
            refine WO.bin rfl rfl rfl rfl rfl ?_
            refine WO.nil ?_
            refine WC.cond rfl (fun h18 => ?_) (fun h18 => ?_)
            · have f19 := h18
              try simp only [decide_eq_true_eq, decide_eq_false_iff_not, beq_iff_eq, bne_iff_ne, beq_eq_false_iff_ne, bne_eq_false_iff_eq, Bool.not_eq_true', Bool.not_eq_false', ne_eq, Decidable.not_not] at f19
              first
              | (exfalso; omega)
              | refine WC.noop ?_
                refine WC.block ?_
                refine WC.drawn (order := [0, 1, 2, 3, 4, 5, 6, 7, 8]) (by kernel_rfl) ?_
                refine WO.move rfl rfl rfl ?_
                refine WO.move rfl rfl rfl ?_
                obtain ⟨y20, hy21⟩ : ∃ y20, (L ++ [M])[(i).toNat]? = some y20 := ⟨_, List.getElem?_eq_getElem (by first | omega | (simp only [List.length_append, List.length_singleton]; omega))⟩
                obtain ⟨id22, of23, r24, hp25, hr26, hc27⟩ := items_at hX hy21
                have hq28 : id22 = id6 ∧ of23 = of7 := by cases hp25; exact ⟨rfl, rfl⟩
                rw [hq28.1] at hr26
                rw [hq28.2] at hc27
                have hLy20 : L[(i).toNat]? = some y20 := by rw [← hy21, List.getElem?_append_left (by omega)]
                refine WO.indexAddr rfl (Try.underlying42) rfl rfl rfl (by omega) rfl ?_
                refine WO.loadAgg rfl rfl rfl rfl hr26.get (takeK_item hc27) rfl ?_
                refine WO.move rfl rfl rfl ?_
                refine WO.move rfl rfl rfl ?_
                obtain ⟨y29, hy30⟩ : ∃ y29, L[(i).toNat]? = some y29 := ⟨_, List.getElem?_eq_getElem (by first | omega | (simp only [List.length_append, List.length_singleton]; omega))⟩
                obtain ⟨id31, of32, r33, hp34, hr35, hc36⟩ := items_at hL hy30
                subst hp34
                have hEy29 : y29 = y20 := by have h := hy30; rw [hLy20] at h; exact (Option.some.inj h).symm
                refine WO.indexAddr rfl (Try.underlying42) rfl rfl rfl (by omega) rfl ?_
                refine WO.loadAgg rfl rfl rfl rfl hr35.get (takeK_item hc36) rfl ?_
                refine WO.binAgg rfl rfl rfl rfl rfl (eqItem y20 y29) rfl ?_
                have hk37 : (!itemEq y20 y29) = false := by rw [hEy29, itemEq_self]; rfl
                refine WO.nil ?_
                refine WC.lone ?_
                refine WC.cond rfl (fun h => Bool.noConfusion ((hk37).symm.trans h)) (fun _ => ?_)
                refine WC.noop ?_
                refine WC.skip ?_
                refine blockK.end ?_
                refine WC.lone ?_
                refine WC.region ?_
                refine WO.move rfl rfl rfl ?_
                refine WO.bin rfl rfl rfl rfl rfl ?_
                refine WO.assign rfl rfl rfl ?_
                refine WO.nil ?_
                refine WC.skip ?_
                refine loopK.mkE ⟨_, ⟨(IntKind.i64.wrap (i + 1)), (by repeat (first | exact Good.start | assumption | refine Good.upd ?_ _ _)), rfl, rfl, rfl, rfl, rfl, rfl, rfl, ?_⟩, ?_⟩
                · (first | omega | (have hwi := wrap_id (x := i + 1) (by omega) (by omega); omega))
                · (rw [hk15]; have hwi := wrap_id (x := i + 1) (by omega) (by omega); omega)
            · have f38 := h18
              try simp only [decide_eq_true_eq, decide_eq_false_iff_not, beq_iff_eq, bne_iff_ne, beq_eq_false_iff_ne, bne_eq_false_iff_eq, Bool.not_eq_true', Bool.not_eq_false', ne_eq, Decidable.not_not] at f38
              first
              | (exfalso; omega)
              | refine WC.exit ?_
                refine loopK.exit ?_
                refine blockK.here ?_
                refine WC.region ?_
                refine WO.assign rfl rfl rfl ?_
                refine WO.nil ?_
                refine WC.ret' ?_
                refine ⟨.inr rfl, rfl, _, res1 rfl, ?_⟩
                exact ⟨rfl, rfl⟩
          · skip
            refine ⟨_, (0), (by repeat (first | exact Good.start | assumption | refine Good.upd ?_ _ _)), rfl, rfl, rfl, rfl, rfl, rfl, rfl, ?_⟩
            · (first | omega | (have hwi := wrap_id (x := i + 1) (by omega) (by omega); omega))

end Go.Eng.T3
