/-
  The calculus' rules for lists that grow: literals, appends.
-/
import Derived.Test.YtjobmgleekphjaaE24
set_option linter.unusedSimpArgs false
set_option linter.unusedVariables false
namespace Go.Eng
noncomputable section
variable {P : Program} {O : FuncId → Option Value}

theorem AO.blur_other {fam lo hi : Nat} {o : AO} (h : ∀ r, o = .row r → r.fam ≠ fam) : o.blur fam lo hi = o := by
  cases o with
  | row r => simp only [AO.blur]; rw [if_neg (h r rfl)]
  | _ => rfl

theorem Ext.set {H0 H : AH} {k id : Nat} (h : Ext H0 H k) (hid : H0.next ≤ id) (hb : id < 281474976710655) (o : AO) : Ext H0 (H.set id o) k :=
  ⟨h.1, h.2.1, fun j p hj => by rw [AH.get_set hb, if_neg (by have := hj.1; omega)]; exact h.2.2 j p hj⟩

theorem Ext.blur {H0 H : AH} {k fam lo hi : Nat} (h : Ext H0 H k) (hf : H0.next ≤ fam) (hf2 : fam < 2199023255552) : Ext H0 (H.blur fam lo hi) k :=
  ⟨h.1, h.2.1, fun j p hj => by
    rw [AH.get_blur, h.2.2 j p hj]
    simp only [Option.map_some]
    rw [AO.blur_other (fun r e => by
      have := hj.2.2
      subst e
      simp only [FamOK] at this
      omega)]⟩

theorem Ext.pushed {H0 H : AH} {k : Nat} (h : Ext H0 H k) (hn : H.next < 1099511627776) (r : Row) : Ext H0 (H.push r) (k + 1) :=
  h.trans (Ext.push hn)

/-- the row that a literal or an append leaves -/
def listRow (t : TypeId) (fam sz : Nat) (cs : List (Option Value)) (disp : Nat) (solo : Bool) : Row := { cells := cs, ty := t, fam := fam, disp := disp, esz := sz, ro := false, solo := solo }

theorem aAppend_own {t u e sz bytes id n m : Nat} {H : AH} {x : Value} {r : Row} {new : List Value} {zs : List Value}
    (ht : P.underlying t = some (.slice e)) (hu : tZeros P (some u) = .ok false) (hs : tSize P e = .ok sz) (hb : tBytes P e = .ok bytes) (hz : tZero P e = .ok zs) (hs0 : Nat.beq sz 0 = false) (hb0 : Nat.beq bytes 0 = false)
    (hr : H.get id = some (.row r)) (hro : r.ro = false) (hesz : r.esz = sz) (hlen : n * sz ≤ r.cells.length) (hx : appended P H e false x = .ok (new, m)) (hm : m ≠ 0) (hbig : (2 * (n + m) + 1024) * bytes ≤ 281474976710656)
    (hpl : new.all plainCell = true) (hn : H.next < 1099511627776) (hfam : r.fam < 1099511627776) :
    aAppend P H t (some u) (.slice (some ⟨id, 0, none⟩) n n) x = .ok (.slice (some ⟨H.next, 0, none⟩) (n + m) (n + m), (H.readied id r (r.disp + 0 + n * sz) new.length).push (listRow r.ty r.fam sz (r.cells.take (n * sz) ++ new.map some) (r.disp + 0) false)) := by
  have h1 : ¬ m * bytes > 281474976710656 := by
    have : m * bytes ≤ (2 * (n + m) + 1024) * bytes := Nat.mul_le_mul_right _ (by omega)
    omega
  have h2 : ¬ (sz = 0 ∨ bytes = 0) := by
    rintro (e | e)
    · subst e; cases hs0
    · subst e; cases hb0
  have h3 : ¬ n + m ≤ n := by omega
  have hrow : H.row id = .ok r := by unfold AH.row; rw [hr]
  have hnx : (H.readied id r (r.disp + 0 + n * sz) new.length).next = H.next := by
    unfold AH.readied
    cases r.solo <;> rfl
  have hnew := AH.new_push (H := H.readied id r (r.disp + 0 + n * sz) new.length) (r := listRow r.ty r.fam sz (r.cells.take (n * sz) ++ new.map some) (r.disp + 0) false) (by rw [hnx]; exact hn)
  rw [hnx] at hnew
  have htk : takeU (List.drop 0 r.cells) (n * sz) = .ok (r.cells.take (n * sz)) := by
    unfold takeU
    rw [List.drop_zero, if_pos hlen]
  unfold aAppend
  simp only [ht, hu, hs, hb, hx, bind, Except.bind, if_neg h1, if_neg hm, if_neg h2, hz, hrow, hro, Bool.false_eq_true, if_false, if_neg h3, if_pos hbig, hpl, Bool.not_true, hesz, ne_eq, not_true_eq_false, htk]
  have e : (if r.solo = true then H.set id (.row { (r.blur (r.disp + 0 + n * sz) (r.disp + 0 + n * sz + new.length)) with solo := false }) else H.blur r.fam (r.disp + 0 + n * sz) (r.disp + 0 + n * sz + new.length)) = H.readied id r (r.disp + 0 + n * sz) new.length := rfl
  rw [e]
  unfold listRow at hnew ⊢
  rw [hnew]

section ops
variable {rnd : Option Nat} {all os : List Oper} {a : AAct} {H : AH} {Q : AAct → AH → Prop} {d : Option Tmp} {ty : TypeId} {ps : String} {af : Array Edge} {gu : Option (Nat × Bool)}

theorem WO.append {x y : Operand} {t u : TypeId} {v w v2 : Value} {H2 : AH} (hw : aWanted all a ⟨d, .call ⟨.builtin .append, #[x, y], #[t, u]⟩, ty, ps, af, gu⟩ = .ok true) (hx : a.ev x = some v) (hy : a.ev y = some w) (hv : aAppend P H t (some u) v w = .ok (v2, H2)) (hc : a.can d = true)
    (h : WO P O rnd all os (a.upd d v2) H2 Q) : WO P O rnd all (⟨d, .call ⟨.builtin .append, #[x, y], #[t, u]⟩, ty, ps, af, gu⟩ :: os) a H Q := by
  refine WO.one hw rfl ⟨0, ?_⟩ hc h
  simp only [aOp, allR, AAct.ev_eval hx, AAct.ev_eval hy, bind, Except.bind, hv]

theorem WO.buildSlice {t e : TypeId} {len sz : Nat} {parts : Array (Nat × Operand)} {pv : List (Nat × Value)} {zs : List Value} {cells : Array Value} (hw : aWanted all a ⟨d, .buildSlice t len parts, ty, ps, af, gu⟩ = .ok true) (ht : P.underlying t = some (.slice e))
    (hp : allR (fun (p : Nat × Operand) => do .ok (p.1, ← a.eval p.2)) parts.toList = .ok pv) (hs : tSize P e = .ok sz) (hl : Nat.ble (len * sz) 16777216 = true) (hz : tZero P e = .ok zs) (hf : Instr.fill (fun i => some (i * sz, sz)) (repeated zs len).toArray pv = some cells) (hn : H.next < 1099511627776) (hc : a.can d = true)
    (h : WO P O rnd all os (a.upd d (.slice (some ⟨H.next, 0, none⟩) len len)) (H.push (listRow e H.next sz (cells.toList.map some) 0 true)) Q) : WO P O rnd all (⟨d, .buildSlice t len parts, ty, ps, af, gu⟩ :: os) a H Q := by
  refine WO.one hw rfl ⟨0, ?_⟩ hc h
  have hl' : ¬ len * sz > 16777216 := by rw [Nat.ble_eq] at hl; omega
  simp only [aOp, ht]
  show (allR (fun (p : Nat × Operand) => do .ok (p.1, ← a.eval p.2)) parts.toList >>= _) = _
  rw [hp]
  show (tSize P e >>= _) = _
  rw [hs]
  show (if len * sz > 16777216 then _ else _) = _
  rw [if_neg hl']
  show (tZero P e >>= _) = _
  rw [hz]
  show (match Instr.fill (fun i => some (i * sz, sz)) (repeated zs len).toArray pv with | some cells => _ | none => _) = _
  rw [hf]
  show (newRow H e sz (cells.toList.map some) >>= _) = _
  unfold newRow
  rw [AH.new_push hn]
  rfl

theorem WO.same {o : Oper} {v : Value} (hw : aWanted all a o = .ok true) (hd : deferOf o.op = none) (ho : ∀ rec, aOp P rec a H o = .ok (v, H)) (hc : a.can o.dst = true) (h : WO P O rnd all os (a.upd o.dst v) H Q) : WO P O rnd all (o :: os) a H Q :=
  WO.one hw hd ⟨0, ho _⟩ hc h
theorem WO.sliceTo {t e : TypeId} {x hi : Operand} {id off n c m sz : Nat} {k : IntKind} {r : Row} (hw : aWanted all a ⟨d, .slice t x none (some hi) none, ty, ps, af, gu⟩ = .ok true) (ht : P.underlying t = some (.slice e)) (hs : tSize P e = .ok sz) (hx : a.ev x = some (.slice (some ⟨id, off, none⟩) n c)) (hh : a.ev hi = some (.int k ((m : Nat) : Int))) (hm : m ≤ c)
    (hr : H.get id = some (.row r)) (he : r.esz = sz) (hc : a.can d = true) (h : WO P O rnd all os (a.upd d (.slice (some ⟨id, off, none⟩) m c)) H Q) : WO P O rnd all (⟨d, .slice t x none (some hi) none, ty, ps, af, gu⟩ :: os) a H Q := by
  refine WO.one hw rfl ⟨0, ?_⟩ hc h
  have h1 : natIn (.int k ((m : Nat) : Int)) c = .ok m := by rw [natIn_mk (by omega)]; simp
  have hrow : H.row id = .ok r := by unfold AH.row; rw [hr]
  simp only [aOp, AAct.ev_eval hx, AAct.ev_eval hh, bind, Except.bind, aSlice, ht, aBounds, optIn, h1, hs, hrow, he, true_or, if_true, Nat.zero_le, hm, and_self, Nat.zero_mul, Nat.add_zero, Nat.sub_zero, Option.isNone_some, Option.isSome_none, Bool.and_false, Bool.false_and, Bool.false_eq_true, if_false]
end ops

end
end Go.Eng
