/-
  From a function's walk to a statement: the caller's slices as rows, and what a call of a law gives.
-/
import Derived.Test.YtbcgpjfjfnnlcaaM18
import Derived.Test.YtbcgpjfjfnnlcaaE20
import Derived.ProofKit
import Derived.OpenShut
set_option linter.unusedVariables false
set_option linter.unusedSimpArgs false
namespace Go.Eng
noncomputable section
variable {P : Program}

def env0 : Env := ⟨[], [], fun _ _ _ => True⟩

theorem inv0 {W : World} {l : List (Row × Pl)} (h : ∀ x ∈ l, Lent (rhoOf l) W x.1 x.2) : HInv env0 [] [] (firstOf l) := by
  have hn : (firstOf l).next = l.length := by unfold firstOf; rw [heapOf_next l 0 _ rfl]; omega
  refine ⟨⟨fun id o ho => ?_, fun id r hr => ?_, fun id id' r r' hr _ _ hro _ _ => ?_⟩, rfl, fun i j id hi => ?_, fun k id R hk => ?_, rfl, fun t t' τ τ' ht => ?_, fun t τ ht => ?_, fun t τ ht => ?_⟩
  · rw [firstOf_get] at ho
    cases hx : l[id]? with
    | none => rw [hx] at ho; cases ho
    | some x => rw [hn]; exact lt_of_get hx
  · rw [firstOf_get] at hr
    cases hx : l[id]? with
    | none => rw [hx] at hr; cases hr
    | some x =>
      rw [hx] at hr
      cases hr
      rw [(h x (List.mem_of_getElem? hx)).fam, hn]
      have := lt_of_get hx
      omega
  · rw [firstOf_get] at hr
    cases hx : l[id]? with
    | none => rw [hx] at hr; cases hr
    | some x =>
      rw [hx] at hr
      cases hr
      rw [(h x (List.mem_of_getElem? hx)).ro] at hro; cases hro
  · simp [env0] at hi
  · simp [env0] at hk
  · simp [env0] at ht
  · simp [env0] at ht
  · simp [env0] at ht

theorem xc0 (H : AH) : XC env0 H := ⟨fun _ _ _ _ _ => trivial, fun _ _ _ _ _ _ => trivial⟩

/-- **A law that answers true in the calculus answers true, and nothing of what was there has turned.** -/
theorem law_pf {O : Orc} (hO : Told P O) {W : World} {l : List (Row × Pl)} (h : ∀ x ∈ l, Lent (rhoOf l) W x.1 x.2) {vs : List Value} {args : Array Value} (ha : LR (rhoOf l) vs args.toList) {f : FuncId} {ps : List PV}
    (hp : PF P O f ps [] [] (fun p fr tk => p = .val (.bool true) ∧ fr = [] ∧ tk = [])) (hv : L2 (RV env0 [] (firstOf l) true) ps vs) : Calls P f args W (fun e w' => e = .returned (.bool true) ∧ Kept W w') := by
  obtain ⟨n, v, H', h1, e', fr', tk', p, _, h2, rfl, _, _⟩ := hp env0 (firstOf l) vs (inv0 h) (xc0 _) hv
  cases h2
  exact law_first_o hO h ha h1

/-! ### Slices of the caller's -/
section rows
variable {α : Type} {enc : α → List Value} {sz : Nat}

end rows
end
end Go.Eng
/-
  What the caller hands in, of any shape: rows for its slices, values without a place.
-/
namespace Go.Eng.Br
noncomputable section
variable {P : Program}

abbrev Rws := List (Row × Pl)
def Own (W : World) (l : Rws) : Prop := ∀ x ∈ l, Lent (rhoOf l) W x.1 x.2

theorem rhoOf_app {l m : Rws} : (rhoOf l).le (rhoOf (l ++ m)) := by
  intro id pl h
  unfold rhoOf at h ⊢
  rw [Option.map_eq_some_iff] at h
  obtain ⟨x, hx, rfl⟩ := h
  rw [List.getElem?_append_left (lt_of_get hx), hx]; rfl
theorem Lent_mono {ρ ρ' : Ren} {W : World} {r : Row} {pl : Pl} (h : ρ.le ρ') (x : Lent ρ W r pl) : Lent ρ' W r pl := by
  refine ⟨x.ro, x.fam, x.disp, x.solo, x.lt, ?_⟩
  obtain ⟨h1, h2, h3, h4⟩ := x.or
  exact ⟨h1, h2, fun j hj => by obtain ⟨v', a, b, c⟩ := h3 j hj; exact ⟨v', a, fun v hv => (b v hv).mono h, c⟩, h4⟩
theorem Own.nil {W : World} : Own W [] := fun x hx => by cases hx
theorem Own.snoc {W : World} {l : Rws} {x : Row × Pl} (h : Own W l) (hx : Lent (rhoOf l) W x.1 x.2) : Own W (l ++ [x]) := by
  intro y hy
  rcases List.mem_append.1 hy with hy | hy
  · exact Lent_mono rhoOf_app (h y hy)
  · obtain rfl : y = x := by simpa using hy
    exact Lent_mono rhoOf_app hx
theorem next_first (l : Rws) : (firstOf l).next = l.length := by unfold firstOf; rw [heapOf_next l 0 _ rfl]; omega
theorem get_first {l m : Rws} {id : Nat} {o : AO} (h : (firstOf l).get id = some o) : (firstOf (l ++ m)).get id = some o := by
  rw [firstOf_get] at h ⊢
  rw [Option.map_eq_some_iff] at h
  obtain ⟨x, hx, rfl⟩ := h
  rw [List.getElem?_append_left (lt_of_get hx), hx]; rfl
theorem grow_app {l m : Rws} : Grow env0 [] (firstOf l) env0 [] (firstOf (l ++ m)) := by
  refine ⟨by rw [next_first, next_first, List.length_append]; omega, fun k id h => h, fun id fam en _ h => ?_, fun id r n hr _ => ⟨r, get_first hr, Meta.refl r, fun _ _ => rfl⟩, fun k n h => by simp at h⟩
  have h1 := h.lt
  have h2 := h.flt
  rw [next_first] at h1 h2
  exact ⟨by rw [next_first, List.length_append]; omega, by rw [next_first, List.length_append]; omega, trivial, by simp [env0], fun t τ n ht => by simp [env0] at ht⟩

/-! ### What was got -/
def Got (W : World) (l : Rws) (ps : List PV) (cs : List Value) : Prop :=
  ∃ m vs, Own W (l ++ m) ∧ LR (rhoOf (l ++ m)) vs cs ∧ L2 (RV env0 [] (firstOf (l ++ m)) false) ps vs
theorem Got.nil {W : World} {l : Rws} (h : Own W l) : Got W l [] [] := ⟨[], [], by rw [List.append_nil]; exact h, LR.nil _, L2.nil⟩
theorem Got.append {W : World} {l : Rws} {ps qs : List PV} {cs ds : List Value} (h : Got W l ps cs) (h' : ∀ l, Own W l → Got W l qs ds) : Got W l (ps ++ qs) (cs ++ ds) := by
  obtain ⟨m, vs, h1, h2, h3⟩ := h
  obtain ⟨n, us, h4, h5, h6⟩ := h' _ h1
  refine ⟨m ++ n, vs ++ us, by rw [← List.append_assoc]; exact h4, ?_, ?_⟩
  · rw [← List.append_assoc]; exact (h2.mono rhoOf_app).append h5
  · rw [← List.append_assoc]; exact (h3.mono fun _ _ h => h.grow grow_app).append h6
theorem Got.len {W : World} {l : Rws} {ps : List PV} {cs : List Value} (h : Got W l ps cs) : ps.length = cs.length := by
  obtain ⟨m, vs, h1, h2, h3⟩ := h
  rw [h3.1, h2.1]
theorem Got.lit {W : World} {l : Rws} {v : Value} (h : Own W l) (hp : plainCell v = true) (hv : VR (rhoOf l) v v) : Got W l [.val v] [v] :=
  ⟨[], [v], by rw [List.append_nil]; exact h, by rw [List.append_nil]; exact (LR.nil _).cons hv, L2.cons (.val hp) L2.nil⟩

/-- values of a type, as the calculus has them -/
structure Dec (P : Program) (t : TypeId) {α : Type} (c : α → List PV) (ok : α → Prop) : Prop where
  get : ∀ {H : Type} (enc : TypeId × Value → H) (W : World) (fuel : Nat) (cs : List Value) (x : DataW H × List MemPlace), DataW.trod enc P W 0 (fun _ => true) true fuel t cs = some x → (∀ a n k, Value.slice (some a) n k ∈ cs → 0 < W.heap.size) →
    ∃ y, ok y ∧ (c y).all PV.plain = true ∧ ∀ l, Own W l → Got W l (c y) cs
theorem Dec.map {t : TypeId} {α β : Type} {c : α → List PV} {ok : α → Prop} {d : β → List PV} {ok' : β → Prop} (h : Dec P t c ok) (f : α → β) (hc : ∀ y, d (f y) = c y) (hok : ∀ y, ok y → ok' (f y)) : Dec P t d ok' := by
  refine ⟨fun {H} enc W fuel cs x hx hs => ?_⟩
  obtain ⟨y, h1, h2, h3⟩ := h.get enc W fuel cs x hx hs
  exact ⟨f y, hok y h1, by rw [hc]; exact h2, fun l hl => by rw [hc]; exact h3 l hl⟩

section lits
variable {H : Type} {enc : TypeId × Value → H} {W : World} {base : Nat} {sp : Nat → Bool} {hd : Bool}
theorem trod_int {fuel : Nat} {t : TypeId} {k : IntKind} {cs : List Value} {x : DataW H × List MemPlace} (ht : P.underlying t = some (.int k)) (h : DataW.trod enc P W base sp hd fuel t cs = some x) : ∃ n, cs = [.int k n] ∧ (Lit.int k n).wf = true := by
  cases fuel with
  | zero => simp [DataW.trod] at h
  | succ fuel =>
    rcases cs with _ | ⟨c, _ | ⟨c2, l⟩⟩
    · simp [DataW.trod, ht] at h
    · cases c <;> simp [DataW.trod, ht] at h
      exact ⟨_, by rw [h.1.1], h.1.2⟩
    · simp [DataW.trod, ht] at h
theorem trod_bool {fuel : Nat} {t : TypeId} {cs : List Value} {x : DataW H × List MemPlace} (ht : P.underlying t = some .bool) (h : DataW.trod enc P W base sp hd fuel t cs = some x) : ∃ b, cs = [.bool b] := by
  cases fuel with
  | zero => simp [DataW.trod] at h
  | succ fuel =>
    rcases cs with _ | ⟨c, _ | ⟨c2, l⟩⟩
    · simp [DataW.trod, ht] at h
    · cases c <;> simp [DataW.trod, ht] at h
      exact ⟨_, rfl⟩
    · simp [DataW.trod, ht] at h
theorem trod_str {fuel : Nat} {t : TypeId} {cs : List Value} {x : DataW H × List MemPlace} (ht : P.underlying t = some .string) (h : DataW.trod enc P W base sp hd fuel t cs = some x) : ∃ s, cs = [.string s] ∧ s.size ≤ maxLen := by
  cases fuel with
  | zero => simp [DataW.trod] at h
  | succ fuel =>
    rcases cs with _ | ⟨c, _ | ⟨c2, l⟩⟩
    · simp [DataW.trod, ht] at h
    · cases c <;> simp [DataW.trod, ht] at h
      exact ⟨_, rfl, h.1⟩
    · simp [DataW.trod, ht] at h
end lits
theorem Dec.int {t : TypeId} {k : IntKind} (ht : P.underlying t = some (.int k)) : Dec P t (fun n => [.val (.int k n)]) (fun n => (Lit.int k n).wf = true) := by
  refine ⟨fun {H} enc W fuel cs x hx _ => ?_⟩
  obtain ⟨n, rfl, h⟩ := trod_int ht hx
  exact ⟨n, h, rfl, fun l hl => Got.lit hl rfl (.int _ _)⟩
theorem Dec.bool {t : TypeId} (ht : P.underlying t = some .bool) : Dec P t (fun b => [.val (.bool b)]) (fun _ => True) := by
  refine ⟨fun {H} enc W fuel cs x hx _ => ?_⟩
  obtain ⟨n, rfl⟩ := trod_bool ht hx
  exact ⟨n, trivial, rfl, fun l hl => Got.lit hl rfl (.bool _)⟩
theorem Dec.str {t : TypeId} (ht : P.underlying t = some .string) : Dec P t (fun s => [.val (.string s)]) (fun s => s.size ≤ maxLen) := by
  refine ⟨fun {H} enc W fuel cs x hx _ => ?_⟩
  obtain ⟨n, rfl, h⟩ := trod_str ht hx
  exact ⟨n, h, rfl, fun l hl => Got.lit hl rfl (.string _)⟩

/-! ### Structs -/
theorem mapM_at' {α β : Type} {f : α → Option β} : ∀ {l : List α} {r : List β}, l.mapM f = some r → ∀ x ∈ l, ∃ y, f x = some y
  | [], _, _, x, h => by cases h
  | z :: l, r, h, x, hx => by
    simp only [List.mapM_cons, bind, Option.bind_eq_some_iff] at h
    obtain ⟨y, h1, ys, h2, _⟩ := h
    rcases List.mem_cons.1 hx with rfl | hx
    · exact ⟨y, h1⟩
    · exact mapM_at' h2 x hx
def fcells (P : Program) (cs : List Value) (x : TypeId × Nat) : List Value := (cs.drop x.2).take (P.cellsOf x.1)
structure DecF (P : Program) (fs : List (TypeId × Nat)) {α : Type} (c : α → List PV) (ok : α → Prop) : Prop where
  get : ∀ {H : Type} (enc : TypeId × Value → H) (W : World) (fuel : Nat) (cs : List Value), (∀ x ∈ fs, ∃ y, DataW.trod enc P W 0 (fun _ => true) true fuel x.1 (fcells P cs x) = some y) → (∀ a n k, Value.slice (some a) n k ∈ cs → 0 < W.heap.size) →
    ∃ y, ok y ∧ (c y).all PV.plain = true ∧ ∀ l, Own W l → Got W l (c y) (fs.flatMap (fcells P cs))
theorem DecF.cons {t : TypeId} {o : Nat} {fs : List (TypeId × Nat)} {α β : Type} {c : α → List PV} {ok : α → Prop} {d : β → List PV} {ok' : β → Prop} (h : Dec P t c ok) (h' : DecF P fs d ok') : DecF P ((t, o) :: fs) (fun p : α × β => c p.1 ++ d p.2) (fun p => ok p.1 ∧ ok' p.2) := by
  refine ⟨fun {H} enc W fuel cs hx hs => ?_⟩
  obtain ⟨y, hy⟩ := hx (t, o) List.mem_cons_self
  obtain ⟨a, a1, a2, a3⟩ := h.get enc W fuel _ y hy (fun b n k hm => hs b n k (List.mem_of_mem_drop (List.mem_of_mem_take hm)))
  obtain ⟨b, b1, b2, b3⟩ := h'.get enc W fuel cs (fun x hm => hx x (List.mem_cons_of_mem _ hm)) hs
  exact ⟨(a, b), ⟨a1, b1⟩, by rw [List.all_append, a2, b2]; rfl, fun l hl => (a3 l hl).append b3⟩
/-- parts one behind another -/
def seqB (P : Program) (e : Nat) : List (TypeId × Nat) → Nat → Bool
  | [], o => Nat.beq o e
  | (t, o') :: fs, o => Nat.beq o o' && seqB P e fs (o + P.cellsOf t)
theorem seqB_ok (cs : List Value) : ∀ (fs : List (TypeId × Nat)) (o : Nat), seqB P cs.length fs o = true → fs.flatMap (fcells P cs) = cs.drop o
  | [], o, h => by
    have : o = cs.length := Nat.eq_of_beq_eq_true h
    rw [this, List.drop_length]; rfl
  | (t, o') :: fs, o, h => by
    unfold seqB at h
    rw [Bool.and_eq_true] at h
    obtain ⟨h1, h2⟩ := h
    have h1 := Nat.eq_of_beq_eq_true h1
    subst h1
    rw [List.flatMap_cons, seqB_ok cs fs _ h2]
    unfold fcells
    rw [show List.drop (o + P.cellsOf t) cs = List.drop (P.cellsOf t) (cs.drop o) by rw [List.drop_drop], List.take_append_drop]

/-! ### Slices -/
theorem flat_len {β : Type} {sz : Nat} : ∀ {L : List (List β)}, (∀ x ∈ L, x.length = sz) → L.flatten.length = L.length * sz
  | [], _ => by simp
  | x :: L, h => by
    rw [List.flatten_cons, List.length_append, h x List.mem_cons_self, flat_len (fun y hy => h y (List.mem_cons_of_mem _ hy)), List.length_cons, Nat.add_mul, Nat.one_mul]
    omega
theorem flat_at {β : Type} {sz : Nat} : ∀ {L : List (List β)}, (∀ x ∈ L, x.length = sz) → ∀ (i : Nat) (x : List β), L[i]? = some x → ∀ (j : Nat), j < sz → L.flatten[i * sz + j]? = x[j]?
  | [], _, i, x, h, _, _ => by simp at h
  | y :: L, hL, i, x, h, j, hj => by
    rw [List.flatten_cons]
    have hy := hL y List.mem_cons_self
    cases i with
    | zero =>
      simp at h; subst h
      rw [Nat.zero_mul, Nat.zero_add, List.getElem?_append_left (by omega)]
    | succ i =>
      have e : (i + 1) * sz = i * sz + sz := by rw [Nat.add_mul, Nat.one_mul]
      rw [e, List.getElem?_append_right (by omega), hy]
      rw [show i * sz + sz + j - sz = i * sz + j by omega]
      exact flat_at (fun z hz => hL z (List.mem_cons_of_mem _ hz)) i x (by simpa using h) j hj
theorem choose_list {α : Type} {Q : Nat → α → Prop} : ∀ (n : Nat), (∀ i, i < n → ∃ y, Q i y) → ∃ L : List α, L.length = n ∧ ∀ (i : Nat) (x : α), L[i]? = some x → Q i x
  | 0, _ => ⟨[], rfl, fun i x h => by simp at h⟩
  | n + 1, h => by
    obtain ⟨L, h1, h2⟩ := choose_list n (fun i hi => h i (by omega))
    obtain ⟨y, hy⟩ := h n (by omega)
    refine ⟨L ++ [y], by simp [h1], fun i x hx => ?_⟩
    by_cases hi : i < n
    · rw [List.getElem?_append_left (by omega)] at hx
      exact h2 i x hx
    · have hlt : i < (L ++ [y]).length := lt_of_get hx
      simp [h1] at hlt
      have : i = n := by omega
      subst this
      rw [List.getElem?_append_right (by omega), h1] at hx
      simp at hx
      subst hx
      exact hy
theorem Got.all {W : World} {α : Type} {c : α → List PV} : ∀ (L : List (α × List Value)), (∀ x ∈ L, ∀ l, Own W l → Got W l (c x.1) x.2) → ∀ l, Own W l → Got W l ((L.map fun x => c x.1).flatten) ((L.map (·.2)).flatten)
  | [], _, l, hl => Got.nil hl
  | x :: L, h, l, hl => (h x List.mem_cons_self l hl).append fun l hl => Got.all L (fun y hy => h y (List.mem_cons_of_mem _ hy)) l hl

theorem got_slice {W : World} {l : Rws} {sz : Nat} {ty : TypeId} {vs : List (List PV)} {cs : List (List Value)} {a : Addr} {cap : Nat} (hsz : 0 < sz) (hl : Own W l) (hp : ∀ x ∈ vs, x.all PV.plain = true) (hg : ∀ l, Own W l → Got W l vs.flatten cs.flatten) (hv : ∀ x ∈ vs, x.length = sz) (hc : ∀ x ∈ cs, x.length = sz) (hvc : vs.length = cs.length) (hcap : cs.length ≤ cap)
    (hw : ∀ i x, cs[i]? = some x → ∀ j, j < sz → W.cell? ((a.add (i * sz)).add j) = x[j]?) (h0 : 0 < cap → a.spot = none ∧ a.block < W.heap.size) (hpos : 0 < W.heap.size) : Got W l [.list sz vs none] [.slice (some a) cs.length cap] := by
  obtain ⟨m, us, h1, h2, h3⟩ := hg l hl
  have hcl : cs.flatten.length = cs.length * sz := flat_len hc
  have hul : us.length = cs.length * sz := by rw [h2.1, hcl]
  -- the row
  obtain ⟨b, o, hb, hat, hvr⟩ : ∃ b o, b < W.heap.size ∧ (∀ j v, cs.flatten[j]? = some v → W.cell? ⟨b, o + j, none⟩ = some v) ∧ (∀ ρ : Ren, ρ (l ++ m).length = some ⟨b, o, sz, cs.length * sz⟩ → VR ρ (.slice (some ⟨(l ++ m).length, 0, none⟩) cs.length cap) (.slice (some a) cs.length cap)) := by
    by_cases hz : 0 < cap
    · obtain ⟨b, o, s⟩ := a
      obtain ⟨h5, h6⟩ := h0 hz
      simp only at h5 h6
      subst h5
      refine ⟨b, o, h6, fun j v hj => ?_, fun ρ hρ => ?_⟩
      · have hj' : j < cs.length * sz := by rw [← hcl]; exact lt_of_get hj
        have hi : j / sz < cs.length := Nat.div_lt_of_lt_mul (by rw [Nat.mul_comm]; exact hj')
        have hf : j % sz < sz := Nat.mod_lt _ hsz
        have hm : j / sz * sz + j % sz = j := by rw [Nat.mul_comm]; exact Nat.div_add_mod j sz
        have e1 := flat_at hc (j / sz) _ (List.getElem?_eq_getElem hi) (j % sz) hf
        rw [hm, hj] at e1
        have e2 := hw (j / sz) _ (List.getElem?_eq_getElem hi) (j % sz) hf
        rw [addr_add, addr_add, show o + j / sz * sz + j % sz = o + j by omega, ← e1] at e2
        exact e2
      · have := VR.slice (ρ := ρ) (off := 0) (n := cs.length) (c := cap) (c' := cap) hρ (.inl rfl)
        exact this
    · have hc0 : cap = 0 := by omega
      have hl0 : cs.length = 0 := by omega
      refine ⟨0, 0, hpos, fun j v hj => ?_, fun ρ hρ => ?_⟩
      · have := lt_of_get hj
        rw [hcl, hl0] at this
        omega
      · rw [hc0, hl0]; exact .sliceEnd
  let r : Row := { cells := us.map some, ty := ty, fam := 0, disp := o, esz := sz, ro := true, solo := false }
  let pl : Pl := ⟨b, o, sz, cs.length * sz⟩
  have hlent : Lent (rhoOf (l ++ m)) W r pl := by
    refine ⟨rfl, rfl, rfl, rfl, hb, rfl, ?_, fun j hj => ?_, fun a => (by cases a)⟩
    · show (us.map some).length ≤ cs.length * sz
      rw [List.length_map, hul]; exact Nat.le_refl _
    · have hj' : j < cs.length * sz := hj
      have h7 := List.getElem?_eq_getElem (l := cs.flatten) (i := j) (by rw [hcl]; exact hj')
      refine ⟨_, hat j _ h7, fun v hv => ?_, fun h => by cases h⟩
      have hv' : (us.map some)[j]? = some (some v) := hv
      rw [List.getElem?_map, Option.map_eq_some_iff] at hv'
      obtain ⟨u, hu, hu'⟩ := hv'
      cases hu'
      exact h2.2 j v _ hu h7
  have hrho : rhoOf (l ++ (m ++ [(r, pl)])) (l ++ m).length = some pl := by
    unfold rhoOf
    rw [← List.append_assoc, List.getElem?_append_right (Nat.le_refl _), Nat.sub_self]; rfl
  refine ⟨m ++ [(r, pl)], [.slice (some ⟨(l ++ m).length, 0, none⟩) cs.length cap], by rw [← List.append_assoc]; exact h1.snoc hlent, (LR.nil _).cons (hvr _ hrho), L2.cons ?_ L2.nil⟩
  have hget : (firstOf (l ++ (m ++ [(r, pl)]))).get (l ++ m).length = some (.row r) := by
    rw [firstOf_get, ← List.append_assoc, List.getElem?_append_right (Nat.le_refl _), Nat.sub_self]; rfl
  have hn : (firstOf (l ++ (m ++ [(r, pl)]))).next = (l ++ m).length + 1 := by rw [next_first, ← List.append_assoc, List.length_append, List.length_singleton]
  have h3' : L2 (RV env0 [] (firstOf (l ++ (m ++ [(r, pl)]))) false) vs.flatten us := by
    rw [← List.append_assoc]
    exact h3.mono fun _ _ h => h.grow grow_app
  have cell : ∀ (i : Nat) (xs : List PV) (j : Nat) (p : PV), vs[i]? = some xs → xs[j]? = some p → ∃ u, us[i * sz + j]? = some u ∧ RV env0 [] (firstOf (l ++ (m ++ [(r, pl)]))) false p u := by
    intro i xs j p hi hj
    have hjs : j < sz := by rw [← hv xs (List.mem_of_getElem? hi)]; exact lt_of_get hj
    have := flat_at hv i xs hi j hjs
    rw [hj] at this
    exact h3'.at this
  rw [← hvc]
  refine RV.list (e := env0) (tk := []) (H := firstOf (l ++ (m ++ [(r, pl)]))) (b := false) (sz := sz) (l := vs) (t := none) (id := (l ++ m).length) (off := 0) (c := cap) (n := cs.length * sz) (r := r) (fun i j => (us[i * sz + j]?).getD (.bool false)) hget (by rw [hvc]; omega) ⟨by rw [hn]; omega, by show 0 < _; rw [hn]; omega, trivial, by simp [env0], fun t τ n ht => by simp [env0] at ht⟩ rfl
    (by rw [hvc]; exact hcap) (by show _ ≤ (us.map some).length; rw [List.length_map, hul, hvc]; omega) (fun i xs hi => hv xs (List.mem_of_getElem? hi)) (fun i xs j p hi hj => List.all_eq_true.1 (hp xs (List.mem_of_getElem? hi)) p (List.mem_of_getElem? hj)) ?_ ?_ (fun k hk => by cases hk)
  · intro i xs j p hi hj
    obtain ⟨u, hu, _⟩ := cell i xs j p hi hj
    show (us.map some)[0 + i * sz + j]? = _
    rw [Nat.zero_add, List.getElem?_map, hu]; rfl
  · intro i xs j p hi hj
    obtain ⟨u, hu, h⟩ := cell i xs j p hi hj
    rw [hu]; exact h

theorem Dec.slice {t e : TypeId} {α : Type} {c : α → List PV} {ok : α → Prop} {sz : Nat} (ht : P.underlying t = some (.slice e)) (hsz : P.cellsOf e = sz) (h0 : 0 < sz) (h : Dec P e c ok) : Dec P t (fun L : List α => [.list sz (L.map c) none]) (fun L => L.length ≤ maxLen ∧ ∀ x ∈ L, ok x) := by
  refine ⟨fun {H} enc W fuel cs x hx hsl => ?_⟩
  cases fuel with
  | zero => simp [DataW.trod] at hx
  | succ fuel =>
    rcases cs with _ | ⟨v, _ | ⟨v2, cs⟩⟩
    · simp [DataW.trod, ht] at hx
    · cases v with
      | slice ad len cap =>
        cases ad with
        | none =>
          have : len = 0 ∧ cap = 0 := by
            rcases len with _ | len <;> rcases cap with _ | cap <;> first | exact ⟨rfl, rfl⟩ | (simp [DataW.trod, ht] at hx)
          obtain ⟨rfl, rfl⟩ := this
          refine ⟨[], ⟨by simp, fun x hx => by cases hx⟩, rfl, fun l hl => ⟨[], [.slice none 0 0], by rw [List.append_nil]; exact hl, (LR.nil _).cons .sliceNil, L2.cons (.lnil fun k hk => by cases hk) L2.nil⟩⟩
        | some a =>
          have hpos := hsl a len cap List.mem_cons_self
          simp only [DataW.trod, ht, hsz] at hx
          split at hx
          · rename_i hc
            simp only [Option.bind_eq_some_iff, Option.map_eq_some_iff] at hx
            obtain ⟨elems, he, rest, hr, _⟩ := hx
            simp only [if_true] at hr
            have hcell : ∀ i : Nat, i = 0 → ∀ ys, W.cells? 0 (a.add (i * sz)) sz = some ys → a.spot = none ∧ a.block < W.heap.size := by
              intro i hi0 ys hy
              subst hi0
              rw [Nat.zero_mul] at hy
              have h1 := (World.cells?_some hy).2
              have h2 := h1.2 0 h0
              rw [List.getElem?_eq_getElem (by rw [h1.1]; exact h0)] at h2
              obtain ⟨b, o, s⟩ := a
              unfold World.cell? at h2
              split at h2
              · rename_i hblk
                split at h2
                · cases h2
                · rename_i hs
                  have hs2 : s = none := by
                    cases s with
                    | none => rfl
                    | some s => exfalso; revert hs; unfold Addr.add; simp
                  subst hs2
                  rw [addr_add, addr_add] at hblk
                  exact ⟨rfl, lt_of_get (by simpa using hblk)⟩
              · cases h2
            obtain ⟨L, h1, h2⟩ := choose_list (Q := fun i (y : α × List Value) => (W.cells? 0 (a.add (i * sz)) sz = some y.2) ∧ ok y.1 ∧ (c y.1).all PV.plain = true ∧ ∀ l, Own W l → Got W l (c y.1) y.2) len (fun i hi => by
              obtain ⟨r, hr⟩ := mapM_at' he i (by simp [hi])
              simp only [Option.bind_eq_some_iff] at hr
              obtain ⟨ys, h3, h4⟩ := hr
              obtain ⟨y, h5, h6, h7⟩ := h.get enc W fuel ys r h4 (fun _ _ _ _ => hpos)
              exact ⟨(y, ys), h3, h5, h6, h7⟩)
            have hmem : ∀ x ∈ L, ∃ i, L[i]? = some x := fun x hx => List.getElem?_of_mem hx
            have hcs : ∀ x ∈ L, x.2.length = sz := fun x hx => by
              obtain ⟨i, hi⟩ := hmem x hx
              exact (World.cells?_some (h2 i x hi).1).2.1
            refine ⟨L.map (·.1), ⟨by rw [List.length_map, h1]; exact Nat.le_trans hc.2.1 hc.2.2, fun y hy => ?_⟩, rfl, fun l hl => ?_⟩
            · obtain ⟨x, hx, rfl⟩ := List.mem_map.1 hy
              obtain ⟨i, hi⟩ := hmem x hx
              exact (h2 i x hi).2.1
            · have main := got_slice (W := W) (l := l) (sz := sz) (ty := e) (vs := L.map fun x => c x.1) (cs := L.map (·.2)) (a := a) (cap := cap) h0 hl
                (fun y hy => by
                  obtain ⟨x, hx, rfl⟩ := List.mem_map.1 hy
                  obtain ⟨i, hi⟩ := hmem x hx
                  exact (h2 i x hi).2.2.1)
                (Got.all L fun x hx => by
                  obtain ⟨i, hi⟩ := hmem x hx
                  exact (h2 i x hi).2.2.2)
                (fun y hy => by
                  obtain ⟨x, hx, rfl⟩ := List.mem_map.1 hy
                  obtain ⟨i, hi⟩ := hmem x hx
                  rw [((h2 i x hi).2.2.2 [] Own.nil).len]
                  exact hcs x hx)
                (fun y hy => by
                  obtain ⟨x, hx, rfl⟩ := List.mem_map.1 hy
                  exact hcs x hx)
                (by rw [List.length_map, List.length_map]) (by rw [List.length_map, h1]; exact hc.2.1)
                (fun i y hy j hj => by
                  rw [List.getElem?_map, Option.map_eq_some_iff] at hy
                  obtain ⟨x, hx, rfl⟩ := hy
                  exact (World.cells?_some (h2 i x hx).1).2.2 j hj)
                (fun hcap => by
                  rcases Nat.eq_zero_or_pos len with hl0 | hl0
                  · obtain ⟨r, hr'⟩ := mapM_at' hr 0 (by simp; omega)
                    simp only [Option.bind_eq_some_iff] at hr'
                    obtain ⟨ys, h3, _⟩ := hr'
                    exact hcell _ (by omega) ys h3
                  · obtain ⟨x, hx⟩ := get_of_lt (l := L) (i := 0) (by omega)
                    exact hcell 0 rfl _ (h2 0 x hx).1) hpos
              rw [List.length_map, h1] at main
              show Got W l [.list sz ((L.map (·.1)).map c) none] _
              rw [List.map_map]
              exact main
          · cases hx
      | _ => simp [DataW.trod, ht] at hx
    · simp [DataW.trod, ht] at hx

/-! ### Arguments -/
def GotA (W : World) (l : Rws) (ps : List PV) (args : List Value) : Prop :=
  ∃ m vs, Own W (l ++ m) ∧ LR (rhoOf (l ++ m)) vs args ∧ L2 (RV env0 [] (firstOf (l ++ m)) true) ps vs
theorem GotA.nil {W : World} {l : Rws} (h : Own W l) : GotA W l [] [] := ⟨[], [], by rw [List.append_nil]; exact h, LR.nil _, L2.nil⟩
theorem GotA.cons {W : World} {l : Rws} {p : PV} {v : Value} {ps : List PV} {vs : List Value} (h : ∃ m u, Own W (l ++ m) ∧ VR (rhoOf (l ++ m)) u v ∧ RV env0 [] (firstOf (l ++ m)) true p u) (h' : ∀ l, Own W l → GotA W l ps vs) : GotA W l (p :: ps) (v :: vs) := by
  obtain ⟨m, u, h1, h2, h3⟩ := h
  obtain ⟨n, us, h4, h5, h6⟩ := h' _ h1
  refine ⟨m ++ n, u :: us, by rw [← List.append_assoc]; exact h4, ?_, ?_⟩
  · rw [← List.append_assoc]; exact h5.cons (h2.mono rhoOf_app)
  · rw [← List.append_assoc]; exact L2.cons (h3.grow grow_app) h6
theorem Got.one {W : World} {l : Rws} {p : PV} {v : Value} (h : Got W l [p] [v]) : ∃ m u, Own W (l ++ m) ∧ VR (rhoOf (l ++ m)) u v ∧ RV env0 [] (firstOf (l ++ m)) true p u := by
  obtain ⟨m, vs, h1, h2, h3⟩ := h
  obtain ⟨u, us, rfl, h4, h5⟩ := h3.cases_cons
  exact ⟨m, u, h1, h2.head, h4.top⟩
theorem slice_heap {W : World} {r : Reach} {base : Nat} {t : TypeId} {a : Addr} {n k : Nat} (h : Cell.okWide P W r base t (.slice (some a) n k)) : 0 < W.heap.size := by
  have h' : Cell.ok P W r base t (.slice (some a) n k) := by
    unfold Cell.okWide at h
    split at h <;> first | exact h | (rename_i h1 h2; cases h2)
  unfold Cell.ok at h'
  split at h' <;> first | (exact h'.elim) | (rename_i h1 h2; cases h2)
  obtain ⟨_, _, _, _, row, cells, h5, _⟩ := h'
  unfold World.shape? at h5
  split at h5
  · rename_i hb
    have := lt_of_get (l := W.heap.toList) (i := a.block) (by simpa using hb)
    simp at this
    omega
  · cases h5
theorem not_agg {W : World} {r : Reach} {base : Nat} {t : TypeId} {cs : Array Value} (h : Cell.okWide P W r base t (.agg cs)) : False := by
  have h' : Cell.ok P W r base t (.agg cs) := by
    unfold Cell.okWide at h
    split at h <;> first | exact h | (rename_i h1 h2; cases h2)
  unfold Cell.ok at h'
  split at h' <;> first | (exact h'.elim) | (rename_i h1 h2; cases h2)
/-- an argument of one cell -/
theorem arg_one {W : World} {base : Nat} {t : TypeId} {v : Value} (h : Value.okWide P W .any base t v) (hs : (match P.underlying t with | some (.struct _) | some (.array _ _) => false | _ => true) = true) : v.cells.toList = [v] ∧ ∀ a n k, Value.slice (some a) n k ∈ [v] → 0 < W.heap.size := by
  have h' : Cell.okWide P W .any base t v := by
    unfold Value.okWide at h
    split at h <;> first | exact h | (rename_i h1; rw [h1] at hs; cases hs)
  refine ⟨?_, fun a n k hm => ?_⟩
  · cases v <;> first | rfl | exact (not_agg h').elim
  · obtain rfl := List.mem_singleton.1 hm
    exact slice_heap h'
theorem GotA.calls {O : Orc} (hO : Told P O) {W : World} {args : Array Value} {ps : List PV} {f : FuncId} (h : GotA W [] ps args.toList) (hp : PF P O f ps [] [] (fun p fr tk => p = .val (.bool true) ∧ fr = [] ∧ tk = [])) : Calls P f args W (fun e w' => e = .returned (.bool true) ∧ Kept W w') := by
  obtain ⟨m, vs, h1, h2, h3⟩ := h
  exact law_pf hO h1 h2 hp h3
end
end Go.Eng.Br
