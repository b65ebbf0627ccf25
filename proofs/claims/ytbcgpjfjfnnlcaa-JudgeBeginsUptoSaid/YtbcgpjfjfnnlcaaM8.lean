/-
  The calculus' operations: rows of one's own, literals, lists.
-/
import Derived.Test.YtbcgpjfjfnnlcaaM7
set_option linter.unusedSimpArgs false
set_option linter.unusedVariables false
namespace Go.Eng
noncomputable section
variable {P : Program} {O : Orc}

def pSplice (l : List PV) (off : Nat) (m : List PV) : List PV := l.take off ++ m ++ l.drop (off + m.length)

theorem rv_vals {e : Env} {tk : List Nat} {H : AH} {b : Bool} {zs : List Value} (h : zs.all plainCell = true) : L2 (RV e tk H b) (zs.map .val) zs :=
  ⟨by simp, fun i p v hi hv => by
    rw [List.getElem?_map, hv] at hi
    cases hi
    exact .val (List.all_eq_true.1 h v (List.mem_of_getElem? hv))⟩

/-! ### What is built -/
def pFill (place : Nat → Option (Nat × Nat)) : List PV → List (Nat × PV) → Option (List PV)
  | cells, [] => some cells
  | cells, (i, p) :: rest => match place i with
    | some (off, size) => pick (Nat.beq p.cells.length size) (pick (Nat.ble (off + p.cells.length) cells.length) (pFill place (pSplice cells off p.cells) rest) none) none
    | none => none

theorem fold_set : ∀ (vs : List Value) (off k : Nat) (cs : Array Value), off + k + vs.length ≤ cs.size →
    ((vs.zipIdx k).foldl (fun (cs : Array Value) (p : Value × Nat) => cs.setIfInBounds (off + p.2) p.1) cs).toList = cs.toList.take (off + k) ++ vs ++ cs.toList.drop (off + k + vs.length)
  | [], off, k, cs, _ => by simp
  | v :: vs, off, k, cs, h => by
    simp only [List.length_cons] at h
    simp only [List.zipIdx_cons, List.foldl_cons]
    rw [fold_set vs off (k + 1) _ (by simp; omega)]
    simp only [Array.toList_setIfInBounds, List.length_cons]
    have hl : off + k < cs.toList.length := by simp; omega
    have e1 : (cs.toList.set (off + k) v).take (off + (k + 1)) = cs.toList.take (off + k) ++ [v] := by
      rw [show off + (k + 1) = off + k + 1 by omega, List.take_add_one, List.getElem?_set_self hl, List.take_set_of_le (Nat.le_refl _)]; rfl
    have e2 : (cs.toList.set (off + k) v).drop (off + (k + 1) + vs.length) = cs.toList.drop (off + k + (vs.length + 1)) := by
      rw [List.drop_set_of_lt (by omega), show off + (k + 1) + vs.length = off + k + (vs.length + 1) by omega]
    rw [e1, e2]
    simp

theorem L2.splice {R : PV → Value → Prop} {l m : List PV} {vs ws : List Value} (h : L2 R l vs) (h' : L2 R m ws) (off : Nat) : L2 R (pSplice l off m) (vs.take off ++ ws ++ vs.drop (off + ws.length)) := by
  unfold pSplice
  rw [h'.1]
  exact ((h.take off).append h').append (h.drop _)

theorem fill_rv {e : Env} {tk : List Nat} {H : AH} {place : Nat → Option (Nat × Nat)} : ∀ (parts : List (Nat × PV)) (vparts : List (Nat × Value)) (cells : List PV) (vcells : Array Value) (out : List PV),
    L2 (fun (x : Nat × PV) (y : Nat × Value) => x.1 = y.1 ∧ RV e tk H true x.2 y.2) parts vparts → L2 (RV e tk H true) cells vcells.toList → pFill place cells parts = some out → ∃ r, Instr.fill place vcells vparts = some r ∧ L2 (RV e tk H true) out r.toList
  | [], vparts, cells, vcells, out, hp, hc, h => by
    have := hp.cases_nil; subst this
    cases h
    exact ⟨vcells, rfl, hc⟩
  | (i, p) :: parts, vparts, cells, vcells, out, hp, hc, h => by
    obtain ⟨⟨i', v⟩, vrest, rfl, ⟨h1, h2⟩, h3⟩ := hp.cases_cons
    simp only at h1 h2
    subst h1
    simp only [pFill] at h
    simp only [Instr.fill]
    cases hpl : place i with
    | none => rw [hpl] at h; cases h
    | some os =>
      obtain ⟨off, size⟩ := os
      rw [hpl] at h
      obtain ⟨k1, h⟩ := pick_some h
      obtain ⟨k2, h⟩ := pick_some h
      have hcs := h2.cells
      have e1 : p.cells.length = size := Nat.eq_of_beq_eq_true k1
      rw [Nat.ble_eq] at k2
      have hvs : v.cells.size = size := by rw [← Array.length_toList, ← hcs.1]; exact e1
      have hsz : vcells.size = cells.length := by rw [← Array.length_toList, ← hc.1]
      have hcond : (decide (v.cells.size ≠ size) || decide (off + v.cells.size > vcells.size)) = false := by
        rw [hvs, hsz]
        simp
        omega
      simp only [hcond, Bool.false_eq_true, if_false]
      refine fill_rv parts vrest _ _ out h3 ?_ h
      have hf := fold_set v.cells.toList off 0 vcells (by rw [Array.length_toList]; omega)
      have hz : (Array.foldl (fun (cs : Array Value) (x : Value × Nat) => cs.setIfInBounds (off + x.2) x.1) vcells v.cells.zipIdx).toList = vcells.toList.take off ++ v.cells.toList ++ vcells.toList.drop (off + v.cells.toList.length) := by
        rw [← Array.foldl_toList, Array.toList_zipIdx, hf, Nat.add_zero]
      have := hc.splice hcs off
      rw [← hz] at this
      exact this

def pParts (s : PS) : List (Nat × Operand) → Option (List (Nat × PV))
  | [] => some []
  | (i, o) :: l => match s.ev o with
    | some p => match pParts s l with
      | some ps => some ((i, p) :: ps)
      | none => none
    | none => none

theorem RelA.parts {C : Ctx} {e : Env} {s : PS} {a : AAct} {H : AH} (hR : RelA C e s a H) : ∀ {l : List (Nat × Operand)} {ps : List (Nat × PV)}, pParts s l = some ps → ∃ vs, allR (fun (p : Nat × Operand) => do .ok (p.1, ← a.eval p.2)) l = .ok vs ∧ L2 (fun (x : Nat × PV) (y : Nat × Value) => x.1 = y.1 ∧ RV e s.tk H true x.2 y.2) ps vs
  | [], ps, h => by cases h; exact ⟨[], rfl, L2.nil⟩
  | (i, o) :: l, ps, h => by
    simp only [pParts] at h
    cases hp : s.ev o with
    | none => rw [hp] at h; cases h
    | some p =>
      rw [hp] at h
      cases hq : pParts s l with
      | none => rw [hq] at h; cases h
      | some qs =>
        rw [hq] at h; cases h
        obtain ⟨v, h1, h2⟩ := hR.ev hp
        obtain ⟨vs, h3, h4⟩ := hR.parts hq
        exact ⟨(i, v) :: vs, allR_cons (by simp only [AAct.ev_eval h1, bind, Except.bind]) h3, L2.cons ⟨rfl, h2⟩ h4⟩

def pBuild (P : Program) (s : PS) (t : TypeId) (parts : List (Nat × Operand)) : Option PV :=
  match pParts s parts, tZero P t with
  | some ps, .ok zs => pick (zs.all plainCell) (match P.underlying t with
    | some (.struct fields) => match allR (fun (f : Field) => do .ok (f.offset, ← tSize P f.type)) fields.toList with
      | .ok places => match pFill (fun i => places[i]?) (zs.map .val) ps with
        | some cells => some (.agg cells)
        | none => none
      | .error _ => none
    | some (.array _ elem) => match tSize P elem with
      | .ok size => match pFill (fun i => some (i * size, size)) (zs.map .val) ps with
        | some cells => some (.agg cells)
        | none => none
      | .error _ => none
    | _ => none) none
  | _, _ => none

section ops
variable {rnd : Option Nat} {all os : List Oper} {s : PS} {Q : PS → Prop} {d : Option Tmp} {ty : TypeId} {pst : String} {af : Array Edge} {gu : Option (Nat × Bool)}

theorem build_ok {t : TypeId} {parts : Array (Nat × Operand)} {p : PV} (h : pBuild P s t parts.toList = some p) : OpSame P O s ⟨d, .build t parts, ty, pst, af, gu⟩ p := by
  refine ⟨rfl, fun C e a H hR => ?_⟩
  unfold pBuild at h
  cases hps : pParts s parts.toList with
  | none => rw [hps] at h; cases h
  | some ps =>
    cases hz : tZero P t with
    | error n => rw [hps, hz] at h; cases h
    | ok zs =>
      rw [hps, hz] at h
      obtain ⟨hpl, h⟩ := pick_some h
      obtain ⟨vs, h1, h2⟩ := hR.parts hps
      have hzs : L2 (RV e s.tk H true) (zs.map .val) zs.toArray.toList := rv_vals hpl
      cases ht : P.underlying t with
      | none => rw [ht] at h; cases h
      | some D =>
        rw [ht] at h
        cases D with
        | struct fields =>
          simp only at h
          cases hpl : allR (fun (f : Field) => do .ok (f.offset, ← tSize P f.type)) fields.toList with
          | error n => rw [hpl] at h; cases h
          | ok places =>
            rw [hpl] at h
            simp only at h
            cases hf : pFill (fun i => places[i]?) (zs.map .val) ps with
            | none => rw [hf] at h; cases h
            | some cells =>
              rw [hf] at h; cases h
              obtain ⟨r, k1, k2⟩ := fill_rv ps vs _ _ _ h2 hzs hf
              refine ⟨0, .agg r, ?_, ?_⟩
              · simp only [aOp]
                rw [h1]
                simp only [bind, Except.bind, hz, ht]
                simp only [bind, Except.bind] at hpl
                rw [hpl]
                simp only [k1]
              · have := RV.agg k2.1 k2.2
                simpa using this
        | array n elem =>
          simp only at h
          cases hs : tSize P elem with
          | error n => rw [hs] at h; cases h
          | ok size =>
            rw [hs] at h
            simp only at h
            cases hf : pFill (fun i => some (i * size, size)) (zs.map .val) ps with
            | none => rw [hf] at h; cases h
            | some cells =>
              rw [hf] at h; cases h
              obtain ⟨r, k1, k2⟩ := fill_rv ps vs _ _ _ h2 hzs hf
              refine ⟨0, .agg r, ?_, ?_⟩
              · simp only [aOp]
                rw [h1]
                simp only [bind, Except.bind, hz, ht, hs, k1]
              · have := RV.agg k2.1 k2.2
                simpa using this
        | _ => cases h

/-! ### Rows of one's own -/
theorem box_ok {t : TypeId} {x : Operand} {p : PV} (h : s.ev x = some p) : OpOK P O s ⟨d, .box t x, ty, pst, af, gu⟩ (.ptr s.fr.length 0) (s.fr ++ [⟨0, p.cells⟩]) s.tk := by
  refine ⟨rfl, fun C e a H hR => ?_⟩
  obtain ⟨v, h1, h2⟩ := hR.ev h
  have st := step_row hR.h.inv h2.cells t 0 (by decide)
  refine ⟨0, .pointer (some ⟨H.next, 0, none⟩), _, _, ?_, st, .ptr ?_⟩
  · simp only [aOp, AAct.ev_eval h1, bind, Except.bind, newRow, AH.new_push]; rfl
  · rw [← hR.h.inv.rlen]; exact get_app_new

theorem alloc_ok {t : TypeId} {zs : List Value} (hz : tZero P t = .ok zs) (hp : zs.all plainCell = true) : OpOK P O s ⟨d, .alloc t, ty, pst, af, gu⟩ (.ptr s.fr.length 0) (s.fr ++ [⟨0, zs.map .val⟩]) s.tk := by
  refine ⟨rfl, fun C e a H hR => ?_⟩
  have st := step_row hR.h.inv (rv_vals (e := e) (tk := s.tk) (H := H) (b := true) hp) t 0 (by decide)
  refine ⟨0, .pointer (some ⟨H.next, 0, none⟩), _, _, ?_, st, .ptr ?_⟩
  · simp only [aOp, hz, bind, Except.bind, newRow, AH.new_push]; rfl
  · rw [← hR.h.inv.rlen]; exact get_app_new

theorem spliceL_map (us vs : List Value) (off : Nat) : spliceL (us.map some) off (vs.map some) = (us.take off ++ vs ++ us.drop (off + vs.length)).map some := by
  unfold spliceL
  simp

theorem plain_list {e : Env} {tk : List Nat} {H : AH} {b : Bool} {l : List PV} {vs : List Value} (h : L2 (RV e tk H b) l vs) (hp : l.all PV.plain = true) : vs.all plainCell = true := by
  rw [List.all_eq_true]
  intro v hv
  obtain ⟨i, hi, rfl⟩ := List.mem_iff_getElem.1 hv
  obtain ⟨p, hp'⟩ := get_of_lt (l := l) (i := i) (by rw [h.1]; exact hi)
  exact plain_of (h.2 i p _ hp' (List.getElem?_eq_getElem hi)) (List.all_eq_true.1 hp p (List.mem_of_getElem? hp'))

theorem store_core {t : TypeId} {x y : Operand} {k off n : Nat} {R : PRow} {p : PV} (hx : s.ev x = some (.ptr k off)) (hy : s.ev y = some p) (hn : tSize P t = .ok n) (hl : Nat.beq p.cells.length n = true) (hR0 : s.fr[k]? = some R) (hp : p.cells.all PV.plain = true)
    (hb : okW R (off + p.cells.length) = true) {C : Ctx} {e : Env} {a : AAct} {H : AH} (hR : RelA C e s a H) : ∃ id r', e.rows[k]? = some id ∧ aOp P (oRun P O 0) a H ⟨d, .store t x y, ty, pst, af, gu⟩ = .ok (undef, H.set id r') ∧ Step e s.tk H e (s.fr.set k ⟨R.esz, pSplice R.cells off p.cells⟩) s.tk (H.set id r') := by
  obtain ⟨u, h1, h2⟩ := hR.ev hx
  obtain ⟨v, h3, h4⟩ := hR.ev hy
  cases h2 with
  | @ptr _ _ id hk =>
    obtain ⟨hz, hb⟩ := okW_spec hb
    obtain ⟨r, us, k2, k3, k4, k5, k6, k7, k8⟩ := (hR.h.inv.row k id R hk hR0).row hz
    have hc := h4.cells
    rw [Nat.ble_eq] at hb
    have hln : p.cells.length = n := Nat.eq_of_beq_eq_true hl
    have hsz : v.cells.size = n := by rw [← Array.length_toList, ← hc.1]; exact hln
    have hw := write_solo (H := H) (id := id) (off := off) (r := r) (vs := v.cells.toList) k2 k4 k3 (plain_list hc hp) (by rw [k7, List.length_map, ← k8.1, ← hc.1]; exact hb)
    have st := step_set hR.h.inv hk hR0 k2 (k8.splice hc off)
    refine ⟨id, _, hk, ?_, st⟩
    simp only [aOp, AAct.ev_eval h1, AAct.ev_eval h3, bind, Except.bind, addrOf, hn, hsz, if_true, hw]
    have : r.over off v.cells.toList = { r with cells := (us.take off ++ v.cells.toList ++ us.drop (off + v.cells.toList.length)).map some } := by
      unfold Row.over
      rw [k7, spliceL_map]
    rw [this]

theorem store_ok {t : TypeId} {x y : Operand} {k off n : Nat} {R : PRow} {p : PV} (hx : s.ev x = some (.ptr k off)) (hy : s.ev y = some p) (hn : tSize P t = .ok n) (hl : Nat.beq p.cells.length n = true) (hR0 : s.fr[k]? = some R) (hp : p.cells.all PV.plain = true)
    (hb : okW R (off + p.cells.length) = true) : OpOK P O s ⟨d, .store t x y, ty, pst, af, gu⟩ (.tup []) (s.fr.set k ⟨R.esz, pSplice R.cells off p.cells⟩) s.tk :=
  ⟨rfl, fun C e a H hR => let ⟨id, r', h1, h2, h3⟩ := store_core (O := O) hx hy hn hl hR0 hp hb hR; ⟨0, undef, _, e, h2, h3, rv_undef⟩⟩

/-! ### Literals of lists -/
def PV.low : PV → Option PV
  | .val v => some (.val v)
  | .list sz l _ => some (.list sz l none)
  | .eptr c o => some (.eptr c o)
  | .fn f l m => match l, m with
    | [], [] => some (.fn f [] [])
    | _, _ => none
  | .iface t p => match p with
    | .val v => some (.iface t (.val v))
    | .agg l => match valsOf l with
      | some _ => some (.iface t (.agg l))
      | none => none
    | _ => none
  | _ => none

theorem rv_valsOf {e : Env} {tk : List Nat} {H : AH} {b b' : Bool} : ∀ {l : List PV} {us vs : List Value}, valsOf l = some us → L2 (RV e tk H b) l vs → L2 (RV e tk H b') l vs
  | [], us, vs, h, h2 => by rw [h2.cases_nil]; exact L2.nil
  | p :: l, us, vs, h, h2 => by
    obtain ⟨v, m, rfl, h3, h4⟩ := h2.cases_cons
    cases p with
    | val u =>
      simp only [valsOf] at h
      cases hu : valsOf l with
      | none => rw [hu] at h; cases h
      | some ws =>
        refine L2.cons ?_ (rv_valsOf hu h4)
        cases h3 with
        | val hv => exact .val hv
    | _ => cases h

theorem low_rv {e : Env} {tk : List Nat} {H : AH} {b : Bool} {p q : PV} {v : Value} (h : RV e tk H b p v) (hq : p.low = some q) : RV e tk H false q v ∧ (p.plain = true → q.plain = true) := by
  cases p with
  | val u => cases hq; cases h with | val hv => exact ⟨.val hv, id⟩
  | list sz l t =>
    cases hq
    cases h with
    | lnil ht => exact ⟨.lnil (fun k hk => by cases hk), fun _ => rfl⟩
    | list w hr hn hs he hc hw hz hp hv hh ht => exact ⟨.list w hr hn hs he hc hw hz hp hv hh (fun k hk => by cases hk), fun _ => rfl⟩
  | eptr c o => cases hq; cases h with | eptr w hr hn hs hv hh => exact ⟨.eptr w hr hn hs hv hh, fun _ => rfl⟩
  | fn f l m =>
    simp only [PV.low] at hq
    cases l with
    | cons x l => cases hq
    | nil =>
      cases m with
      | cons x l => cases hq
      | nil =>
        cases hq
        cases h with
        | @fn _ _ _ _ vs ws hl hh hm hh' =>
          have e1 : vs = [] := List.eq_nil_of_length_eq_zero hl.symm
          have e2 : ws = [] := List.eq_nil_of_length_eq_zero hm.symm
          subst e1; subst e2
          exact ⟨.fn rfl (fun i p v hi => by simp at hi) rfl (fun i p v hi => by simp at hi), fun _ => rfl⟩
  | iface t p =>
    cases h with
    | @iface _ _ _ v h =>
      cases p with
      | val u => cases hq; cases h with | val hv => exact ⟨.iface (.val hv), fun _ => rfl⟩
      | agg l =>
        simp only [PV.low] at hq
        cases hl : valsOf l with
        | none => rw [hl] at hq; cases hq
        | some us =>
          rw [hl] at hq; cases hq
          cases h with
          | @agg _ _ vs hlen hh =>
            have := rv_valsOf (b' := false) hl (vs := vs) ⟨hlen, hh⟩
            exact ⟨.iface (.agg this.1 this.2), fun _ => rfl⟩
      | _ => cases hq
  | _ => cases hq

def lows : List PV → Option (List PV)
  | [] => some []
  | p :: l => pick p.plain (match p.low with
    | some q => match lows l with
      | some qs => some (q :: qs)
      | none => none
    | none => none) none

theorem lows_rv {e : Env} {tk : List Nat} {H : AH} {b : Bool} : ∀ {l m : List PV} {vs : List Value}, L2 (RV e tk H b) l vs → lows l = some m → L2 (RV e tk H false) m vs ∧ m.all PV.plain = true
  | [], m, vs, h, hq => by cases hq; exact ⟨by rw [h.cases_nil]; exact L2.nil, rfl⟩
  | p :: l, m, vs, h, hq => by
    obtain ⟨v, ws, rfl, h3, h4⟩ := h.cases_cons
    obtain ⟨hp, hq⟩ := pick_some hq
    cases hl : p.low with
    | none => rw [hl] at hq; cases hq
    | some q =>
      rw [hl] at hq
      simp only at hq
      cases hm : lows l with
      | none => rw [hm] at hq; cases hq
      | some qs =>
        rw [hm] at hq; cases hq
        obtain ⟨k1, k2⟩ := low_rv h3 hl
        obtain ⟨k3, k4⟩ := lows_rv h4 hm
        exact ⟨L2.cons k1 k3, by simp only [List.all_cons, k2 hp, k4, Bool.and_self]⟩

/-- cells, cut into elements -/
def chunk (sz : Nat) : Nat → List PV → List (List PV)
  | 0, _ => []
  | n + 1, l => l.take sz :: chunk sz n (l.drop sz)

theorem chunk_get (sz : Nat) : ∀ (n : Nat) (l : List PV) (i : Nat), i < n → (chunk sz n l)[i]? = some ((l.drop (i * sz)).take sz)
  | n + 1, l, 0, _ => by simp [chunk]
  | n + 1, l, i + 1, h => by
    simp only [chunk, List.getElem?_cons_succ]
    rw [chunk_get sz n (l.drop sz) i (by omega), List.drop_drop, Nat.add_mul, Nat.one_mul, Nat.add_comm]
theorem chunk_len (sz : Nat) : ∀ (n : Nat) (l : List PV), (chunk sz n l).length = n
  | 0, _ => rfl
  | n + 1, l => by simp [chunk, chunk_len sz n]

theorem lies_chunk {e : Env} {tk : List Nat} {H : AH} {sz n : Nat} {l : List PV} {vs : List Value} (h : L2 (RV e tk H false) l vs) (hp : l.all PV.plain = true) (hl : l.length = n * sz) : Lies e tk H sz (chunk sz n l) vs := by
  have key : ∀ (i : Nat) (cs : List PV), (chunk sz n l)[i]? = some cs → i < n ∧ cs = (l.drop (i * sz)).take sz := fun i cs hi => by
    have hin : i < n := by have := lt_of_get hi; rwa [chunk_len] at this
    rw [chunk_get sz n l i hin] at hi
    cases hi; exact ⟨hin, rfl⟩
  have hle : ∀ i, i < n → i * sz + sz ≤ n * sz := fun i hi => by
    have h1 : (i + 1) * sz ≤ n * sz := Nat.mul_le_mul_right _ hi
    rw [Nat.add_mul, Nat.one_mul] at h1; exact h1
  have at' : ∀ (i : Nat) (cs : List PV) (j : Nat) (p : PV), (chunk sz n l)[i]? = some cs → cs[j]? = some p → l[i * sz + j]? = some p := fun i cs j p hi hj => by
    obtain ⟨h1, rfl⟩ := key i cs hi
    rw [List.getElem?_take] at hj
    split at hj
    · rw [List.getElem?_drop] at hj; exact hj
    · cases hj
  refine ⟨by rw [← h.1, hl, chunk_len], fun i cs hi => ?_, fun i cs j p hi hj => List.all_eq_true.1 hp p (List.mem_of_getElem? (at' i cs j p hi hj)), fun i cs j p hi hj => h.at (at' i cs j p hi hj)⟩
  obtain ⟨h1, rfl⟩ := key i cs hi
  have := hle i h1
  rw [List.length_take, List.length_drop, hl]; omega

def pLit (P : Program) (s : PS) (t : TypeId) (len : Nat) (parts : List (Nat × Operand)) : Option (Nat × List (List PV)) :=
  match P.underlying t with
  | some (.slice elem) => match pParts s parts, tSize P elem, tZero P elem with
    | some ps, .ok size, .ok zs => pick (Nat.ble (len * size) 16777216) (pick (zs.all plainCell) (match pFill (fun i => some (i * size, size)) ((repeated zs len).map .val) ps with
      | some cells => match lows cells with
        | some cs => pick (Nat.beq cs.length (len * size)) (some (size, chunk size len cs)) none
        | none => none
      | none => none) none) none
    | _, _, _ => none
  | _ => none

theorem all_repeated {zs : List Value} (h : zs.all plainCell = true) : ∀ n, (repeated zs n).all plainCell = true
  | 0 => rfl
  | n + 1 => by simp only [repeated, List.all_append, h, all_repeated h n, Bool.and_self]

theorem buildSlice_ok {t : TypeId} {len sz : Nat} {parts : Array (Nat × Operand)} {l : List (List PV)} (h : pLit P s t len parts.toList = some (sz, l)) : OpOK P O s ⟨d, .buildSlice t len parts, ty, pst, af, gu⟩ (.list sz l (some s.tk.length)) s.fr (s.tk ++ [l.length]) := by
  refine ⟨rfl, fun C e a H hR => ?_⟩
  unfold pLit at h
  cases ht : P.underlying t with
  | none => rw [ht] at h; cases h
  | some D =>
    rw [ht] at h
    cases D with
    | slice elem =>
      simp only at h
      cases hps : pParts s parts.toList with
      | none => rw [hps] at h; cases h
      | some ps =>
        cases hs : tSize P elem with
        | error n => rw [hps, hs] at h; cases h
        | ok size =>
          cases hz : tZero P elem with
          | error n => rw [hps, hs, hz] at h; cases h
          | ok zs =>
            rw [hps, hs, hz] at h
            obtain ⟨hle, h⟩ := pick_some h
            obtain ⟨hpl, h⟩ := pick_some h
            cases hf : pFill (fun i => some (i * size, size)) ((repeated zs len).map .val) ps with
            | none => rw [hf] at h; cases h
            | some cells =>
              rw [hf] at h
              simp only at h
              cases hlo : lows cells with
              | none => rw [hlo] at h; cases h
              | some cs =>
                rw [hlo] at h
                obtain ⟨hcl, h⟩ := pick_some h
                cases h
                obtain ⟨vs, h1, h2⟩ := hR.parts hps
                obtain ⟨r, k1, k2⟩ := fill_rv ps vs _ (repeated zs len).toArray _ h2 (rv_vals (all_repeated hpl len)) hf
                obtain ⟨k3, k4⟩ := lows_rv k2 hlo
                have hli := lies_chunk (n := len) k3 k4 (Nat.eq_of_beq_eq_true hcl)
                obtain ⟨st, rv⟩ := step_list hR.h.inv hR.h.xc hli elem
                rw [Nat.ble_eq] at hle
                have hle' : ¬ len * sz > 16777216 := by omega
                refine ⟨0, _, _, _, ?_, st, rv⟩
                simp only [aOp, ht]
                rw [h1]
                simp only [bind, Except.bind, hs, if_neg hle', hz, k1, newRow, AH.new_push, chunk_len]
                rfl
    | _ => cases h

end ops
end
end Go.Eng
