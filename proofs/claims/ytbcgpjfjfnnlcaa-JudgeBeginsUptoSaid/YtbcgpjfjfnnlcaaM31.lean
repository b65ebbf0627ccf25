/-
  Maps whose keys are whole numbers, as lists of pairs.
-/
import Derived.Test.YtbcgpjfjfnnlcaaM30
set_option linter.unusedSimpArgs false
set_option linter.unusedVariables false
namespace Go.Eng
noncomputable section
variable {P : Program} {O : Orc} {e : Env} {fr : List PRow} {tk : List Nat} {H : AH}

/-- what stands behind a key -/
inductive VV : PV → Value → Prop
  | val {v : Value} (h : plainCell v = true) : VV (.val v) v
  | unit : VV (.agg []) (.agg #[])
theorem VV.rv {p : PV} {v : Value} (h : VV p v) {e : Env} {tk : List Nat} {H : AH} : RV e tk H true p v := by
  cases h with
  | val h => exact .val h
  | unit => exact .agg (vs := []) rfl fun i p v hi => by simp at hi
/-- an entry's cells: a key, and what stands behind it -/
structure MC {α : Type} (c : α → List PV) (kf : α → Int) (vf : α → PV) : Prop where
  at_ : ∀ a, (∃ v, vf a = .val v ∧ plainCell v = true ∧ c a = [.val (.int .i64 (kf a)), .val v]) ∨ vf a = .agg [] ∧ c a = [.val (.int .i64 (kf a))]
theorem MC.rv {α : Type} {c : α → List PV} {kf : α → Int} {vf : α → PV} (h : MC c kf vf) {a : α} {v : Value} {b : Bool} (hr : RV e tk H b (vf a) v) : VV (vf a) v := by
  rcases h.at_ a with ⟨w, h1, h2, _⟩ | ⟨h1, _⟩
  · rw [h1] at hr ⊢
    rw [hr.bool_inv]; exact .val h2
  · rw [h1] at hr ⊢
    cases hr with
    | @agg _ _ vs hl _ =>
      have : vs = [] := List.eq_nil_of_length_eq_zero hl.symm
      subst this; exact .unit
/-- the entries of a map and what they stand for -/
inductive EM {α : Type} (kf : α → Int) (vf : α → PV) : List α → List AEnt → Prop
  | nil : EM kf vf [] []
  | cons {a : α} {l : List α} {x : AEnt} {es : List AEnt} (h : x.key = .int .i64 (kf a)) (hv : VV (vf a) x.val) (hl : EM kf vf l es) : EM kf vf (a :: l) (x :: es)
theorem em_of {α : Type} {c : α → List PV} {kf : α → Int} {vf : α → PV} (hc : MC c kf vf) : ∀ {M : List α} {es : List AEnt}, GE (M.map c) es → EM kf vf M es
  | [], es, h => by
    generalize hm : List.map c [] = l at h
    cases h with
    | nil => exact .nil
    | pair _ _ => cases hm
    | unit _ _ => cases hm
  | a :: M, es, h => by
    generalize hm : List.map c (a :: M) = l at h
    cases h with
    | nil => cases hm
    | @pair l x es' hp hg =>
      rw [List.map_cons, List.cons.injEq] at hm
      have h2 := hm.2; subst h2
      refine .cons ?_ ?_ (em_of hc hg) <;> rcases hc.at_ a with ⟨v, h3, h4, h5⟩ | ⟨h3, h5⟩ <;> rw [h5] at hm
      · simp only [List.cons.injEq, PV.val.injEq] at hm; exact hm.1.1.symm
      · simp at hm
      · simp only [List.cons.injEq, PV.val.injEq] at hm; rw [h3, hm.1.2.1]; exact .val hp
      · simp at hm
    | @unit l x es' hp hg =>
      rw [List.map_cons, List.cons.injEq] at hm
      have h2 := hm.2; subst h2
      refine .cons ?_ ?_ (em_of hc hg) <;> rcases hc.at_ a with ⟨v, h3, h4, h5⟩ | ⟨h3, h5⟩ <;> rw [h5] at hm
      · simp at hm
      · simp only [List.cons.injEq, PV.val.injEq] at hm; exact hm.1.1.symm
      · simp at hm
      · rw [h3, hp]; exact .unit
theorem of_em {α : Type} {c : α → List PV} {kf : α → Int} {vf : α → PV} (hc : MC c kf vf) {M : List α} {es : List AEnt} (h : EM kf vf M es) : GE (M.map c) es := by
  induction h with
  | nil => exact .nil
  | @cons a l x es h hv _ ih =>
    rw [List.map_cons]
    rcases hc.at_ a with ⟨v, h3, h4, h5⟩ | ⟨h3, h5⟩
    · rw [h3] at hv
      cases hv with
      | val h' => rw [h5, ← h]; exact .pair h' ih
    · rw [h3] at hv
      generalize hy : x.val = y at hv
      cases hv with
      | unit => rw [h5, ← h]; exact .unit hy ih

/-- what stands under a key -/
def lk {α : Type} (kf : α → Int) (n : Int) : List α → Option α
  | [] => none
  | a :: l => bif n == kf a then some a else lk kf n l
def lkI {α : Type} (kf rf : α → Int) (n : Int) (M : List α) : Int := match lk kf n M with
  | some a => rf a
  | none => 0
def lkB {α : Type} (kf : α → Int) (n : Int) (M : List α) : Bool := (lk kf n M).isSome
def idI (x : Int) : Int := x
def up {α : Type} (kf : α → Int) (w : α) : List α → List α
  | [] => [w]
  | a :: l => bif kf w == kf a then w :: l else a :: up kf w l

/-! ### Memory -/
theorem frame_setm {k id : Nat} {o : AO} (hk : e.rows[k]? = some id) {es : List AEnt} {c : Nat} (hr : H.get id = some (.map es c)) (ho : ∀ r, o ≠ .row r) : Frame (ctx e tk H) (H.set id o) := by
  refine ⟨Nat.le_refl _, fun j r' hr' hj => ⟨r', ?_, Meta.refl r', fun _ _ => rfl, fun _ => rfl⟩, fun j o' ho' hn hj => ?_, fun j _ h2 => by rw [AH.get_set, if_neg (fun e1 => by subst e1; have h2' : H.get j = none := h2; rw [hr] at h2'; cases h2')]; exact h2, fun j r' hj => by
    rw [AH.get_set] at hj
    split at hj
    · cases hj; exact absurd rfl (ho r')
    · exact .inl ⟨j, r', hj, rfl⟩⟩
  · rw [AH.get_set, if_neg (fun e1 => by subst e1; have h' : H.get j = some (.row r') := hr'; rw [hr] at h'; cases h')]; exact hr'
  · rw [AH.get_set, if_neg (fun e1 => hj (by subst e1; exact List.mem_of_getElem? hk))]; exact ho'

theorem step_setm (h : HInv e fr tk H) {k id : Nat} (hk : e.rows[k]? = some id) {cs : List PV} {sz : Nat} {l : List (List PV)} (hR : fr[k]? = some ⟨mapE, cs⟩) {es es' : List AEnt} {c c' : Nat} (hm : H.get id = some (.map es c)) (hv : GE l es') :
    Step e tk H e (fr.set k ⟨mapE, [.list sz l none]⟩) tk (H.set id (.map es' c')) := by
  have hf := frame_setm (tk := tk) (o := .map es' c') hk hm (fun r e1 => by cases e1)
  have g := grow_of (Extn.refl e tk H) hf rfl h.tlen
  have hback : ∀ j r', (H.set id (.map es' c')).get j = some (.row r') → H.get j = some (.row r') := fun j r' hr' => by
    rw [AH.get_set] at hr'
    split at hr'
    · cases hr'
    · exact hr'
  refine ⟨⟨⟨fun j o ho => ?_, fun j r' hr' => h.wf.fam j r' (hback j r' hr'), esz_of h.wf fun j r' hr' => .inr ⟨j, r', hback j r' hr', rfl, rfl, rfl⟩⟩, by simp [h.rlen], h.rnd, fun j jd R' hj hR' => ?_, h.tlen, h.tsep, h.tlt, h.tfr⟩, Extn.refl e tk H, hf, rfl⟩
  · rw [AH.get_set] at ho
    split at ho
    · rename_i e1; subst e1; exact h.wf.lt _ _ hm
    · exact h.wf.lt _ _ ho
  · by_cases e1 : j = k
    · subst e1
      rw [hk] at hj; cases hj
      rw [List.getElem?_set_self (lt_of_get hR)] at hR'
      cases hR'
      exact .inr ⟨rfl, es', c', sz, l, by rw [AH.get_set, if_pos rfl], rfl, hv⟩
    · rw [List.getElem?_set_ne (Ne.symm e1)] at hR'
      exact (h.row j jd R' hj hR').stay rfl (by rw [AH.get_set, if_neg (fun e2 => e1 (h.rnd j k jd hj (by rw [e2]; exact hk)))]) fun us h8 => h8.grow g

theorem step_map (h : HInv e fr tk H) (sz : Nat) : Step e tk H (e.row H.next) (fr ++ [⟨mapE, [.list sz [] none]⟩]) tk (H.more (.map [] 0)) := by
  have hget : ∀ j, j < H.next → (H.more (.map [] 0)).get j = H.get j := fun j hj => by rw [AH.get_more, if_neg (by omega)]
  have hn : (H.more (.map [] 0)).next = H.next + 1 := rfl
  have hback : ∀ {id : Nat} {r : Row}, (H.more (.map [] 0)).get id = some (.row r) → H.get id = some (.row r) := fun {id r} hr => by
    rw [AH.get_more] at hr
    split at hr
    · cases hr
    · exact hr
  have hx : Extn (ctx e tk H) (e.row H.next) tk := ⟨⟨[H.next], rfl, by simp [ctx]⟩, fun t τ ht => .inl ht, fun t τ ht => ht, fun t n ht => ⟨n, ht, Nat.le_refl _, fun _ => rfl⟩⟩
  have hf : Frame (ctx e tk H) (H.more (.map [] 0)) := by
    refine ⟨Nat.le_succ _, fun id r hr _ => ⟨r, by rw [hget _ (h.wf.lt _ _ hr)]; exact hr, Meta.refl r, fun _ _ => rfl, fun _ => rfl⟩, fun id o ho _ _ => by rw [hget _ (h.wf.lt _ _ ho)]; exact ho, fun id h1 h2 => by rw [hget _ h1]; exact h2, fun id r hr => .inl ⟨id, r, hback hr, rfl⟩⟩
  have g := grow_of hx hf rfl h.tlen
  refine ⟨⟨⟨fun id o ho => ?_, fun id r hr => by rw [hn]; have := h.wf.fam id r (hback hr); omega, esz_of h.wf fun j r' hr' => .inr ⟨j, r', hback hr', rfl, rfl, rfl⟩⟩, by simp [Env.row, h.rlen], fun i j id hi hj => ?_, fun k id R hk hR => ?_, h.tlen, h.tsep, fun t τ ht => by rw [hn]; have := h.tlt t τ ht; omega, fun t τ ht hm => ?_⟩, hx, hf, rfl⟩
  · rw [AH.get_more] at ho
    rw [hn]
    split at ho
    · omega
    · have := h.wf.lt _ _ ho; omega
  · rcases get_app hi with ⟨_, h1⟩ | ⟨rfl, rfl⟩ <;> rcases get_app hj with ⟨_, h2⟩ | ⟨rfl, h3⟩
    · exact h.rnd i j id h1 h2
    · subst h3; exact absurd (List.mem_of_getElem? h1) h.nnext
    · exact absurd (List.mem_of_getElem? h2) h.nnext
    · rfl
  · rcases get_app hk with ⟨h0, h1⟩ | ⟨rfl, rfl⟩
    · rw [List.getElem?_append_left (by rw [← h.rlen]; exact h0)] at hR
      obtain ⟨o, h2, _⟩ := (h.row k id R h1 hR).here
      exact (h.row k id R h1 hR).stay rfl (hget _ (h.wf.lt _ _ h2)) fun us h8 => h8.grow g
    · rw [h.rlen, get_app_new] at hR
      cases hR
      exact .inr ⟨rfl, [], 0, sz, [], by rw [AH.get_more, if_pos rfl], rfl, .nil⟩
  · rcases List.mem_append.1 hm with k | k
    · exact h.tfr t τ ht k
    · simp at k; have := h.tlt t τ ht; omega

/-! ### What is found -/
section find
variable {α : Type} {kf : α → Int} {vf : α → PV}
theorem find_em {ik : IntKind} (n : Int) : ∀ {M : List α} {es : List AEnt} (i : Nat), EM kf vf M es →
    (lk kf n M = none ∧ aFindNow (.int ik) (.int .i64 n) es i = some none) ∨ ∃ a j x, lk kf n M = some a ∧ aFindNow (.int ik) (.int .i64 n) es i = some (some (i + j)) ∧ es[j]? = some x ∧ VV (vf a) x.val ∧ x.key = .int .i64 n ∧ ∀ w u, kf w = n → VV (vf w) u → EM kf vf (up kf w M) (es.set j { x with key := .int .i64 n, val := u })
  | [], [], i, _ => .inl ⟨rfl, rfl⟩
  | a :: M, x :: es, i, h => by
    cases h with
    | cons hk hv hl =>
      have hs : Instr.sameNow (.int ik) (.int .i64 n) x.key = some (n == kf a) := by rw [hk]; rfl
      unfold lk aFindNow up
      rw [hs]
      cases hb : n == kf a with
      | true =>
        have hkn : n = kf a := eq_of_beq hb
        refine .inr ⟨a, 0, x, rfl, rfl, rfl, hv, by rw [hk, hkn], fun w u hw hu => ?_⟩
        rw [hw, hb]
        exact .cons (by rw [hw]) hu hl
      | false =>
        rcases find_em n (i + 1) hl with ⟨h1, h2⟩ | ⟨v', j, x', h1, h2, h3, h4, h5, h6⟩
        · exact .inl ⟨h1, h2⟩
        · refine .inr ⟨v', j + 1, x', h1, by show aFindNow _ _ es (i + 1) = _; rw [h2]; congr 2; omega, h3, h4, h5, fun w u hw hu => ?_⟩
          rw [hw, hb]
          exact .cons hk hv (h6 w u hw hu)
theorem up_new (w : α) : ∀ {M : List α} {es : List AEnt}, EM kf vf M es → lk kf (kf w) M = none → ∀ u b, VV (vf w) u → EM kf vf (up kf w M) (es ++ [{ key := .int .i64 (kf w), val := u, born := b }])
  | [], [], _, _, u, b, hu => .cons rfl hu .nil
  | a :: M, x :: es, h, hn, u, b, hu => by
    cases h with
    | cons hk hv hl =>
      unfold lk at hn
      unfold up
      cases hb : kf w == kf a with
      | true => rw [hb] at hn; cases hn
      | false =>
        rw [hb] at hn
        exact .cons hk hv (up_new w hl hn u b hu)
end find

/-! ### Operations -/
section ops
variable {s : PS} {d : Option Tmp} {ty : TypeId} {pst : String} {af : Array Edge} {gu : Option (Nat × Bool)}

theorem makeMap_ok {t : TypeId} (sz : Nat) : OpOK P O s ⟨d, .makeMap t none, ty, pst, af, gu⟩ (.mp s.fr.length) (s.fr ++ [⟨mapE, [.list sz [] none]⟩]) s.tk :=
  ⟨rfl, fun C e a H hR => ⟨0, .map (some H.next), H.more (.map [] 0), e.row H.next, by simp only [aOp, bind, Except.bind, AH.new_more], step_map hR.h.inv sz, .mp (by show (e.rows ++ [H.next])[s.fr.length]? = _; rw [← hR.h.inv.rlen]; exact get_app_new)⟩⟩

theorem lookup_ok {α : Type} {c : α → List PV} {kf : α → Int} {vf : α → PV} {M : List α} {t kt et : TypeId} {ik : IntKind} {x i : Operand} {k sz : Nat} {n : Int} {z : Value} {p : PV} (hc : MC c kf vf) (ht : P.underlying t = some (.map kt et)) (hk : P.underlying kt = some (.int ik)) (hck : ∀ (b : Bool) (n : Int), pureRun P 4000 (Instr.checkKey b 10000 kt (.int .i64 n)) = .ok ()) (hz : tZeroV P et = .ok z)
    (hx : s.ev x = some (.mp k)) (hi : s.ev i = some (.val (.int .i64 n))) (hR0 : s.fr[k]? = some ⟨mapE, [.list sz (M.map c) none]⟩) (hp : ∀ a, lk kf n M = some a → p = vf a) (hpz : lk kf n M = none → VV p z) :
    OpSame P O s ⟨d, .lookup t x i true, ty, pst, af, gu⟩ (.tup [p, .val (.bool (lk kf n M).isSome)]) :=
  .mk' rfl fun C e a H hR => by
    obtain ⟨u, h1, h2⟩ := hR.ev hx
    obtain ⟨w, h3, h4⟩ := hR.ev hi
    have e4 := h4.bool_inv; subst e4
    cases h2 with
    | @mp _ id hkk =>
      obtain ⟨es, cl, sz', l, m1, m2, m3⟩ := (hR.h.inv.row k id _ hkk hR0).map rfl
      cases m2
      have em := em_of hc m3
      have hent : aEntries H (.map (some id)) = .ok es := by simp only [aEntries, m1]
      have hg : gnd gd (.int .i64 n) = true := rfl
      rcases find_em (ik := ik) n 0 em with ⟨q1, q2⟩ | ⟨v, j, y, q1, q2, q3, q4, _⟩
      · refine ⟨0, .tuple #[z, .bool false], ?_, ?_⟩
        · simp only [aOp, AAct.ev_eval h1, AAct.ev_eval h3, bind, Except.bind, aLookup, ht, hg, Bool.not_true, Bool.false_eq_true, if_false, hent, hck, aFind, hk, q2, hz, if_true]
        · rw [q1]
          exact .tup (vs := [z, .bool false]) rfl fun i p' v' hi' hv' => by
            rcases i with _ | _ | i
            · cases hi'; cases hv'; exact (hpz q1).rv
            · cases hi'; cases hv'; exact .val rfl
            · cases hi'
      · have q2' : aFindNow (.int ik) (.int .i64 n) es 0 = some (some j) := by rw [q2, Nat.zero_add]
        refine ⟨0, .tuple #[y.val, .bool true], ?_, ?_⟩
        · simp only [aOp, AAct.ev_eval h1, AAct.ev_eval h3, bind, Except.bind, aLookup, ht, hg, Bool.not_true, Bool.false_eq_true, if_false, hent, hck, aFind, hk, q2', q3, if_true]
        · rw [q1, hp v q1]
          exact .tup (vs := [y.val, .bool true]) rfl fun i p' v' hi' hv' => by
            rcases i with _ | _ | i
            · cases hi'; cases hv'; exact q4.rv
            · cases hi'; cases hv'; exact .val rfl
            · cases hi'

/-- a map from int to int: what is found, or 0 -/
theorem lookupI_ok {α : Type} {c : α → List PV} {kf rf : α → Int} {M : List α} {t kt et : TypeId} {ik : IntKind} {x i : Operand} {k sz : Nat} {n : Int} (hc : MC c kf (fun a => vI (rf a))) (ht : P.underlying t = some (.map kt et)) (hk : P.underlying kt = some (.int ik)) (hck : ∀ (b : Bool) (n : Int), pureRun P 4000 (Instr.checkKey b 10000 kt (.int .i64 n)) = .ok ()) (hz : tZeroV P et = .ok (.int .i64 0))
    (hx : s.ev x = some (.mp k)) (hi : s.ev i = some (.val (.int .i64 n))) (hR0 : s.fr[k]? = some ⟨mapE, [.list sz (M.map c) none]⟩) :
    OpSame P O s ⟨d, .lookup t x i true, ty, pst, af, gu⟩ (.tup [vI (lkI kf rf n M), vB (lkB kf n M)]) :=
  lookup_ok hc ht hk hck hz hx hi hR0 (fun a h => by unfold lkI; rw [h]) (fun h => by unfold lkI; rw [h]; exact .val rfl)
/-- a set of ints -/
theorem lookupU_ok {α : Type} {c : α → List PV} {kf : α → Int} {M : List α} {t kt et : TypeId} {ik : IntKind} {x i : Operand} {k sz : Nat} {n : Int} (hc : MC c kf (fun a => .agg [])) (ht : P.underlying t = some (.map kt et)) (hk : P.underlying kt = some (.int ik)) (hck : ∀ (b : Bool) (n : Int), pureRun P 4000 (Instr.checkKey b 10000 kt (.int .i64 n)) = .ok ()) (hz : tZeroV P et = .ok (.agg #[]))
    (hx : s.ev x = some (.mp k)) (hi : s.ev i = some (.val (.int .i64 n))) (hR0 : s.fr[k]? = some ⟨mapE, [.list sz (M.map c) none]⟩) :
    OpSame P O s ⟨d, .lookup t x i true, ty, pst, af, gu⟩ (.tup [.agg [], vB (lkB kf n M)]) :=
  lookup_ok hc ht hk hck hz hx hi hR0 (fun a h => rfl) (fun h => .unit)

theorem mapUpdate_ok {α : Type} {c : α → List PV} {kf : α → Int} {vf : α → PV} {M : List α} {t kt et : TypeId} {ik : IntKind} {x i v : Operand} {k sz : Nat} {w : α} (hc : MC c kf vf) (ht : P.underlying t = some (.map kt et)) (hk : P.underlying kt = some (.int ik)) (hck : ∀ (b : Bool) (n : Int), pureRun P 4000 (Instr.checkKey b 10000 kt (.int .i64 n)) = .ok ())
    (hx : s.ev x = some (.mp k)) (hi : s.ev i = some (.val (.int .i64 (kf w)))) (hv : s.ev v = some (vf w)) (hR0 : s.fr[k]? = some ⟨mapE, [.list sz (M.map c) none]⟩) :
    OpOK P O s ⟨d, .mapUpdate t x i v, ty, pst, af, gu⟩ (.tup []) (s.fr.set k ⟨mapE, [.list sz ((up kf w M).map c) none]⟩) s.tk :=
  ⟨rfl, fun C e a H hR => by
    obtain ⟨u, h1, h2⟩ := hR.ev hx
    obtain ⟨b, h3, h4⟩ := hR.ev hi
    obtain ⟨y, h5, h6⟩ := hR.ev hv
    have e4 := h4.bool_inv; subst e4
    cases h2 with
    | @mp _ id hkk =>
      obtain ⟨es, cl, sz', l, m1, m2, m3⟩ := (hR.h.inv.row k id _ hkk hR0).map rfl
      cases m2
      have em := em_of hc m3
      have h6' := hc.rv h6
      have hg : gnd gd (.int .i64 (kf w)) = true := rfl
      rcases find_em (ik := ik) (kf w) 0 em with ⟨q1, q2⟩ | ⟨v', j, z, q1, q2, q3, q4, q5, q6⟩
      · refine ⟨0, undef, _, e, ?_, step_setm (c' := cl + 1) hR.h.inv hkk hR0 m1 (of_em hc (up_new w em q1 y cl h6')), rv_undef⟩
        simp only [aOp, AAct.ev_eval h1, AAct.ev_eval h3, AAct.ev_eval h5, bind, Except.bind, aMapUpdate, ht, m1, hg, Bool.not_true, Bool.false_eq_true, if_false, hck, aFind, hk, q2]
      · have q2' : aFindNow (.int ik) (.int .i64 (kf w)) es 0 = some (some j) := by rw [q2, Nat.zero_add]
        have hsb : Instr.sameBits 10000 z.key (.int .i64 (kf w)) = true := by rw [q5]; simp [Instr.sameBits]
        refine ⟨0, undef, _, e, ?_, step_setm (c' := cl) hR.h.inv hkk hR0 m1 (of_em hc (q6 w y rfl h6')), rv_undef⟩
        simp only [aOp, AAct.ev_eval h1, AAct.ev_eval h3, AAct.ev_eval h5, bind, Except.bind, aMapUpdate, ht, m1, hg, Bool.not_true, Bool.false_eq_true, if_false, hck, aFind, hk, q2', q3, hsb, if_true]⟩
end ops
end
end Go.Eng
