/-
  The abstract machine's memory and the given one go along: new blocks, stores, appends keep it.
-/
import Derived.Test.YtbcgpjfjfnnlcaaE2
namespace Go.Eng
noncomputable section

/-! ### The relation -/
def TR (ρ : Ren) (tm : T Value) (n : Nat) (tmps : Array Value) : Prop := tmps.size = n ∧ ∀ t, VR ρ ((tm.get t).getD undef) (tmps.getD t undef)

/-- a place that may not be written; or a block in which some place may not be -/
def fz (W : World) (a : Addr) : Bool :=
  match W.heap[a.block]? with
  | some (.cells c _ (lo, hi)) => ((decide (lo ≤ a.off) && decide (a.off < hi)) || (decide (lo ≠ hi) && decide (lo < c.size))) || (a.spot.isSome && decide (lo ≠ hi))
  | _ => false
theorem fz_frozen {W : World} {a : Addr} (h : fz W a = false) : W.frozen? a = false := by
  unfold fz at h
  unfold World.frozen?
  split at h
  · rename_i hb
    rw [hb]
    simp only [Bool.or_eq_false_iff] at h
    exact h.1.1
  · rename_i hb
    split
    · rename_i c t lo hi hb2; exact (hb c t lo hi hb2).elim
    · rfl
theorem fz_setCell (W : World) (b : Addr) (v : Value) (a : Addr) : fz (W.setCell b v) a = fz W a := by
  unfold fz World.setCell
  simp only [Array.getElem?_modify]
  by_cases h : b.block = a.block
  · rw [if_pos h]
    cases hb : W.heap[a.block]? with
    | none => rfl
    | some o =>
      cases o with
      | cells c t f =>
        obtain ⟨lo, hi⟩ := f
        have hsz : (if b.spot.isSome = true then c else c.setIfInBounds b.off v).size = c.size := by split <;> simp
        simp only [Option.map_some, hsz]
      | _ => rfl
  · rw [if_neg h]
/-- has a block a mark? -/
def mkd (W : World) (b : Nat) : Bool := fz W ⟨b, 0, some 0⟩
theorem mkd_congr {W W' : World} {b : Nat} (h : W'.heap[b]? = W.heap[b]?) : mkd W' b = mkd W b := by unfold mkd fz; simp only [h]
def OR (ρ : Ren) (W : World) (pl : Pl) : AO → Prop
  | .row r => r.esz = pl.esz ∧ r.cells.length ≤ pl.ext ∧ (∀ j, j < pl.ext → ∃ v', W.cell? ⟨pl.blk, pl.base + j, none⟩ = some v' ∧
      (∀ v, r.cells[j]? = some (some v) → VR ρ v v') ∧ (r.ro = false → fz W ⟨pl.blk, pl.base + j, none⟩ = false)) ∧ (r.solo = true → 2 ≤ r.esz → mkd W pl.blk = false)
  | .loop l => ∃ fn tmps pm, W.heap[pl.blk]? = some (.loop { state := l.state, pending := l.pending, fn := fn, tmps := tmps, params := l.params.toArray, assign := l.assign, body := l.body, defers := pm.blk }) ∧
      TR ρ l.tm l.n tmps ∧ ρ l.mark = some pm
  | .mark b => W.heap[pl.blk]? = some (.deferred (if b then some [] else none))
  | .iter s pos => pl.base = 0 ∧ W.heap[pl.blk]? = some (.stringIter s pos)
  | .mit m => pl.base = 0 ∧ ∃ m' since seen last, W.heap[pl.blk]? = some (.mapIter m' since seen last) ∧ (m = none → m' = none) ∧ ∀ id, m = some id → ∃ pm, ρ id = some pm ∧ m' = some pm.blk
  | .map es clock => ∃ ces : Array MapEntry, W.heap[pl.blk]? = some (.map ces clock) ∧ ces.toList.length = es.length ∧
      ∀ (i : Nat) (e : AEnt) (ce : MapEntry), es[i]? = some e → ces.toList[i]? = some ce → ce.key = e.key ∧ ce.born = e.born ∧ VR ρ e.val ce.val

def AO.rw : AO → Bool
  | .row r => !r.ro
  | _ => true

structure Rel (ρ : Ren) (H : AH) (W : World) : Prop where
  dom : ∀ id pl, ρ id = some pl → id < H.next
  nxt : True
  obj : ∀ id o, H.get id = some o → ∃ pl, ρ id = some pl ∧ pl.blk < W.heap.size ∧ OR ρ W pl o
  share : ∀ i j oi oj pi pj, H.get i = some oi → H.get j = some oj → i ≠ j → ρ i = some pi → ρ j = some pj → pi.blk = pj.blk →
    ∃ ri rj, oi = .row ri ∧ oj = .row rj ∧ ri.fam = rj.fam ∧ pi.base + rj.disp = pj.base + ri.disp ∧ ri.solo = false ∧ rj.solo = false

def Own (ρ : Ren) (H : AH) (b : Nat) : Prop := ∃ id o pl, H.get id = some o ∧ o.rw = true ∧ ρ id = some pl ∧ pl.blk = b

/-- some known object lies there -/
def Touch (ρ : Ren) (H : AH) (b : Nat) : Prop := ∃ id o pl, H.get id = some o ∧ ρ id = some pl ∧ pl.blk = b

structure St (ρ : Ren) (H : AH) (W : World) (ρ' : Ren) (H' : AH) (W' : World) : Prop where
  le : ρ.le ρ'
  rel : Rel ρ' H' W'
  next : H.next ≤ H'.next
  size : W.heap.size ≤ W'.heap.size
  keep : ∀ b, b < W.heap.size → ¬ Own ρ H b → W'.heap[b]? = W.heap[b]? ∧ ¬ Own ρ' H' b
  tape : W'.tape = W.tape
  os : W'.os = W.os
  output : W'.output = W.output
  old : ∀ i, i < H.next → ρ' i = ρ i
  apart : ∀ b, b < W.heap.size → ¬ Touch ρ H b → ¬ Touch ρ' H' b

theorem Ren.le_refl (ρ : Ren) : ρ.le ρ := fun _ _ h => h
theorem Ren.le_trans {ρ ρ' ρ'' : Ren} (h : ρ.le ρ') (h' : ρ'.le ρ'') : ρ.le ρ'' := fun _ _ a => h' _ _ (h _ _ a)

theorem St.refl {ρ : Ren} {H : AH} {W : World} (h : Rel ρ H W) : St ρ H W ρ H W := ⟨Ren.le_refl ρ, h, Nat.le_refl _, Nat.le_refl _, fun _ _ hb => ⟨rfl, hb⟩, rfl, rfl, rfl, fun _ _ => rfl, fun _ _ hb => hb⟩

theorem St.trans {ρ ρ' ρ'' : Ren} {H H' H'' : AH} {W W' W'' : World} (h : St ρ H W ρ' H' W') (h' : St ρ' H' W' ρ'' H'' W'') : St ρ H W ρ'' H'' W'' :=
  ⟨Ren.le_trans h.le h'.le, h'.rel, Nat.le_trans h.next h'.next, Nat.le_trans h.size h'.size, fun b hb hn =>
    let ⟨e, n⟩ := h.keep b hb hn
    let ⟨e', n'⟩ := h'.keep b (Nat.lt_of_lt_of_le hb h.size) n
    ⟨e'.trans e, n'⟩, h'.tape.trans h.tape, h'.os.trans h.os, h'.output.trans h.output, fun i hi => (h'.old i (Nat.lt_of_lt_of_le hi h.next)).trans (h.old i hi),
    fun b hb hn => h'.apart b (Nat.lt_of_lt_of_le hb h.size) (h.apart b hb hn)⟩

theorem cell_congr {W W' : World} {b o : Nat} (h : W'.heap[b]? = W.heap[b]?) : W'.cell? ⟨b, o, none⟩ = W.cell? ⟨b, o, none⟩ := by
  unfold World.cell?; simp only [h]
theorem frozen_congr {W W' : World} {b o : Nat} (h : W'.heap[b]? = W.heap[b]?) : fz W' ⟨b, o, none⟩ = fz W ⟨b, o, none⟩ := by
  unfold fz; simp only [h]

theorem TR.mono {ρ ρ' : Ren} (h : ρ.le ρ') {tm : T Value} {n : Nat} {tmps : Array Value} (ht : TR ρ tm n tmps) : TR ρ' tm n tmps := ⟨ht.1, fun t => (ht.2 t).mono h⟩

theorem OR.congr {ρ ρ' : Ren} (hle : ρ.le ρ') {W W' : World} {pl : Pl} {o : AO} (h : W'.heap[pl.blk]? = W.heap[pl.blk]?) (ho : OR ρ W pl o) : OR ρ' W' pl o := by
  cases o with
  | row r =>
    refine ⟨ho.1, ho.2.1, fun j hj => ?_, fun a b => by rw [mkd_congr h]; exact ho.2.2.2 a b⟩
    obtain ⟨v', h1, h2, h3⟩ := ho.2.2.1 j hj
    exact ⟨v', by rw [cell_congr h]; exact h1, fun v hv => (h2 v hv).mono hle, fun hr => by rw [frozen_congr h]; exact h3 hr⟩
  | loop l =>
    obtain ⟨fn, tmps, pm, h1, h2, h3⟩ := ho
    exact ⟨fn, tmps, pm, by rw [h]; exact h1, h2.mono hle, hle _ _ h3⟩
  | mark b => exact (show W'.heap[pl.blk]? = _ by rw [h]; exact ho)
  | iter s pos => exact ⟨ho.1, by rw [h]; exact ho.2⟩
  | mit m =>
    obtain ⟨h0, m', si, se, la, h1, h2, h3⟩ := ho
    exact ⟨h0, m', si, se, la, by rw [h]; exact h1, h2, fun id hid => let ⟨pm, a, b⟩ := h3 id hid; ⟨pm, hle _ _ a, b⟩⟩
  | map es clock =>
    obtain ⟨ces, h1, h2, h3⟩ := ho
    exact ⟨ces, by rw [h]; exact h1, h2, fun i e ce a b => let ⟨x, y, z⟩ := h3 i e ce a b; ⟨x, y, z.mono hle⟩⟩

/-- a memory that knows less -/
theorem Row.get_blur (lo hi : Nat) (r : Row) (j : Nat) : (r.blur lo hi).cells[j]? = (r.cells[j]?).map fun c => if lo ≤ r.disp + j ∧ r.disp + j < hi then none else c := by
  simp only [Row.blur, List.getElem?_map, List.getElem?_zipIdx, Option.map_map]
  cases r.cells[j]? <;> simp [Function.comp]

theorem Row.length_blur (lo hi : Nat) (r : Row) : (r.blur lo hi).cells.length = r.cells.length := by simp [Row.blur]

theorem OR.blur {ρ : Ren} {W : World} {pl : Pl} {r : Row} (lo hi : Nat) (h : OR ρ W pl (.row r)) : OR ρ W pl (.row (r.blur lo hi)) := by
  refine ⟨h.1, by rw [Row.length_blur]; exact h.2.1, fun j hj => ?_, fun a b => h.2.2.2 a b⟩
  obtain ⟨v', h1, h2, h3⟩ := h.2.2.1 j hj
  refine ⟨v', h1, fun v hv => h2 v ?_, h3⟩
  rw [Row.get_blur] at hv
  cases hc : r.cells[j]? with
  | none => rw [hc] at hv; simp at hv
  | some c =>
    rw [hc] at hv
    simp only [Option.map_some, Option.some.injEq] at hv
    split at hv
    · cases hv
    · rw [hv]

/-! ### A new block -/
def Ren.with (ρ : Ren) (id : Nat) (pl : Pl) : Ren := fun i => if i = id then some pl else ρ i

theorem Ren.le_with {ρ : Ren} {H : AH} {W : World} (h : Rel ρ H W) (pl : Pl) : ρ.le (ρ.with H.next pl) := fun i p hi => by
  have := h.dom i p hi
  simp only [Ren.with]
  rw [if_neg (by omega)]
  exact hi

theorem St.new {ρ : Ren} {H H' : AH} {W W' : World} {o : AO} {id : Nat} (h : Rel ρ H W) (hn : H.new o = .ok (id, H')) {pl : Pl} (ob : Obj)
    (hh : W'.heap = W.heap.push ob) (ht : W'.tape = W.tape) (hos : W'.os = W.os) (hout : W'.output = W.output) (hb : pl.blk = W.heap.size) (ho : OR (ρ.with id pl) W' pl o) :
    St ρ H W (ρ.with id pl) H' W' := by
  obtain ⟨rfl, hlt, hnext, hget⟩ := AH.new_ok hn
  have hle := Ren.le_with h pl
  have hsame : ∀ b, b < W.heap.size → W'.heap[b]? = W.heap[b]? := fun b hb' => by
    rw [hh, Array.getElem?_push]; rw [if_neg (by omega)]
  have hold : ∀ j o' p, H'.get j = some o' → j ≠ H.next → (ρ.with H.next pl) j = some p → H.get j = some o' ∧ ρ j = some p := fun j o' p hj hne hp => by
    rw [hget, if_neg hne] at hj
    simp only [Ren.with, if_neg hne] at hp
    exact ⟨hj, hp⟩
  refine ⟨hle, ⟨fun i p hi => ?_, trivial, fun j o' hj => ?_, fun i j oi oj pi pj hi hj hij hpi hpj hblk => ?_⟩, by omega, by rw [hh]; simp, fun b hb' hnot => ⟨hsame b hb', ?_⟩, ht, hos, hout, fun i hi => by simp only [Ren.with]; rw [if_neg (by omega)], fun b hb' hnot => ?_⟩
  · simp only [Ren.with] at hi
    split at hi
    · omega
    · have := h.dom i p hi; omega
  · by_cases hne : j = H.next
    · subst hne
      rw [hget, if_pos rfl] at hj
      cases hj
      exact ⟨pl, by simp [Ren.with], by rw [hh, hb]; simp, ho⟩
    · rw [hget, if_neg hne] at hj
      obtain ⟨p, hp, hlt', hor⟩ := h.obj j o' hj
      exact ⟨p, hle _ _ hp, by rw [hh]; simp; omega, hor.congr hle (hsame _ hlt')⟩
  · by_cases hni : i = H.next
    · have hnj : j ≠ H.next := fun e => hij (hni.trans e.symm)
      obtain ⟨hj', hpj'⟩ := hold j oj pj hj hnj hpj
      obtain ⟨p, hp, hlt', _⟩ := h.obj j oj hj'
      rw [hpj'] at hp; cases hp
      have : pi = pl := by simp [Ren.with, hni] at hpi; exact hpi.symm
      subst this
      omega
    · obtain ⟨hi', hpi'⟩ := hold i oi pi hi hni hpi
      by_cases hnj : j = H.next
      · obtain ⟨p, hp, hlt', _⟩ := h.obj i oi hi'
        rw [hpi'] at hp; cases hp
        have : pj = pl := by simp [Ren.with, hnj] at hpj; exact hpj.symm
        subst this
        omega
      · obtain ⟨hj', hpj'⟩ := hold j oj pj hj hnj hpj
        exact h.share i j oi oj pi pj hi' hj' hij hpi' hpj' hblk
  · rintro ⟨j, o', p, hj, hrw, hp, hpb⟩
    by_cases hne : j = H.next
    · have : p = pl := by simp [Ren.with, hne] at hp; exact hp.symm
      subst this
      omega
    · obtain ⟨hj', hp'⟩ := hold j o' p hj hne hp
      exact hnot ⟨j, o', p, hj', hrw, hp', hpb⟩
  · rintro ⟨j, o', p, hj, hp, hpb⟩
    by_cases hne : j = H.next
    · have : p = pl := by simp [Ren.with, hne] at hp; exact hp.symm
      subst this
      omega
    · obtain ⟨hj', hp'⟩ := hold j o' p hj hne hp
      exact hnot ⟨j, o', p, hj', hp', hpb⟩

/-- a draw alone -/
theorem Rel.drawn {ρ : Ren} {H : AH} {W W' : World} (h : Rel ρ H W) (hh : W'.heap = W.heap) : Rel ρ H W' :=
  ⟨h.dom, h.nxt, fun id o ho => let ⟨pl, a, b, c⟩ := h.obj id o ho; ⟨pl, a, by rw [hh]; exact b, c.congr (Ren.le_refl ρ) (by rw [hh])⟩, h.share⟩

theorem St.drawn {ρ : Ren} {H : AH} {W W' : World} (h : Rel ρ H W) (hh : W'.heap = W.heap) (ht : W'.tape = W.tape) (hos : W'.os = W.os) (hout : W'.output = W.output) : St ρ H W ρ H W' :=
  ⟨Ren.le_refl ρ, h.drawn hh, Nat.le_refl _, by rw [hh]; exact Nat.le_refl _, fun b _ hb => ⟨by rw [hh], hb⟩, ht, hos, hout, fun _ _ => rfl, fun _ _ hb => hb⟩

/-! ### Stores -/
def puts (W : World) (b o : Nat) : List Value → World
  | [] => W
  | v :: vs => puts (W.setCell ⟨b, o, none⟩ v) b (o + 1) vs

theorem puts_tape : ∀ (vs : List Value) (W : World) (b o : Nat), (puts W b o vs).tape = W.tape ∧ (puts W b o vs).os = W.os ∧ (puts W b o vs).output = W.output ∧ (puts W b o vs).heap.size = W.heap.size ∧ (puts W b o vs).drawn = W.drawn
  | [], _, _, _ => ⟨rfl, rfl, rfl, rfl, rfl⟩
  | v :: vs, W, b, o => by
    obtain ⟨a1, a2, a3, a4, a5⟩ := puts_tape vs (W.setCell ⟨b, o, none⟩ v) b (o + 1)
    refine ⟨a1, a2, a3, ?_, a5⟩
    rw [puts, a4, World.size_setCell]

theorem heap_setCell_ne {W : World} {a : Addr} {v : Value} {b : Nat} (h : b ≠ a.block) : (W.setCell a v).heap[b]? = W.heap[b]? := by
  simp only [World.setCell, Array.getElem?_modify]
  rw [if_neg (Ne.symm h)]

theorem puts_other : ∀ (vs : List Value) (W : World) (b o b' : Nat), b' ≠ b → (puts W b o vs).heap[b']? = W.heap[b']?
  | [], _, _, _, _, _ => rfl
  | v :: vs, W, b, o, b', h => by
    rw [puts, puts_other vs _ b (o + 1) b' h, heap_setCell_ne (by simpa using h)]

theorem puts_frozen : ∀ (vs : List Value) (W : World) (b o : Nat) (a : Addr), fz (puts W b o vs) a = fz W a
  | [], _, _, _, _ => rfl
  | v :: vs, W, b, o, a => by rw [puts, puts_frozen vs, fz_setCell]

theorem puts_cell : ∀ (vs : List Value) (W : World) (b o x : Nat), (∀ k, k < vs.length → ∃ u, W.cell? ⟨b, o + k, none⟩ = some u) →
    (puts W b o vs).cell? ⟨b, x, none⟩ = if o ≤ x ∧ x < o + vs.length then vs[x - o]? else W.cell? ⟨b, x, none⟩
  | [], W, b, o, x, _ => by
    rw [if_neg (by simp)]; rfl
  | v :: vs, W, b, o, x, h => by
    obtain ⟨u, hu⟩ := h 0 (by simp)
    have hs : (W.setCell ⟨b, o, none⟩ v).cell? ⟨b, o, none⟩ = some v := World.cell?_setCell_same _ _ _ (by simpa using hu)
    have ho : ∀ y, y ≠ o → (W.setCell ⟨b, o, none⟩ v).cell? ⟨b, y, none⟩ = W.cell? ⟨b, y, none⟩ := fun y hy =>
      World.cell?_setCell_other _ _ _ _ (by intro e; injection e with e1 e2 e3; exact hy e2.symm)
    rw [puts, puts_cell vs (W.setCell ⟨b, o, none⟩ v) b (o + 1) x (fun k hk => by
      obtain ⟨u', hu'⟩ := h (k + 1) (by simp; omega)
      refine ⟨u', ?_⟩
      rw [ho _ (by omega)]
      rw [← hu']
      congr 2
      omega)]
    simp only [List.length_cons]
    by_cases hx : x = o
    · subst hx
      rw [if_neg (by omega), if_pos (by omega), hs]
      simp
    · by_cases hx2 : o + 1 ≤ x ∧ x < o + 1 + vs.length
      · rw [if_pos hx2, if_pos (by omega)]
        obtain ⟨d, rfl⟩ : ∃ d, x = o + 1 + d := ⟨x - (o + 1), by omega⟩
        rw [show o + 1 + d - o = d + 1 by omega, show o + 1 + d - (o + 1) = d by omega]
        simp
      · rw [if_neg hx2, if_neg (by omega), ho x hx]

theorem addr_add (b o n : Nat) : (⟨b, o, none⟩ : Addr).add n = ⟨b, o + n, none⟩ := by
  unfold Addr.add
  split
  · rename_i h; subst h; rfl
  · rfl

theorem run_storeCells' {P : Program} : ∀ (vs : List Value) (W : World) (b o i : Nat), (∀ v ∈ vs, v.oneCell' = true) →
    (∀ k, k < vs.length → (∃ u, W.cell? ⟨b, o + i + k, none⟩ = some u) ∧ W.frozen? ⟨b, o + i + k, none⟩ = false) →
    (storeCells ⟨b, o, none⟩ vs i).run P W = .ok () (puts W b (o + i) vs)
  | [], W, b, o, i, _, _ => rfl
  | v :: vs, W, b, o, i, hv, h => by
    obtain ⟨⟨u, hu⟩, hf⟩ := h 0 (by simp)
    simp only [storeCells, Sem.run_bind, addr_add]
    rw [run_store P W _ _ _ (hv v (by simp))]
    simp only [Nat.add_zero] at hu hf
    rw [hu]
    simp only [hf, Bool.false_eq_true, if_false, Result.andThen]
    have ho : ∀ y, y ≠ o + i → (W.setCell ⟨b, o + i, none⟩ v).cell? ⟨b, y, none⟩ = W.cell? ⟨b, y, none⟩ := fun y hy =>
      World.cell?_setCell_other _ _ _ _ (by intro e; injection e with e1 e2 e3; exact hy e2.symm)
    rw [run_storeCells' vs _ b o (i + 1) (fun v' hv' => hv v' (by simp [hv'])) (fun k hk => by
      obtain ⟨⟨u', hu'⟩, hf'⟩ := h (k + 1) (by simp; omega)
      refine ⟨⟨u', ?_⟩, ?_⟩
      · rw [ho _ (by omega), ← hu']; congr 2; omega
      · rw [World.frozen?_setCell, ← hf']; congr 2; omega)]
    rfl

theorem Rel.lt {ρ : Ren} {H : AH} {W : World} (h : Rel ρ H W) {id : Nat} {o : AO} (ho : H.get id = some o) : id < H.next := by
  obtain ⟨pl, hp, _⟩ := h.obj id o ho
  exact h.dom id pl hp

theorem splice_get (l : List (Option Value)) (off : Nat) (vs : List (Option Value)) (h : off + vs.length ≤ l.length) (j : Nat) :
    (spliceL l off vs)[j]? = if off ≤ j ∧ j < off + vs.length then vs[j - off]? else l[j]? := by
  unfold spliceL
  by_cases h1 : j < off
  · rw [if_neg (by omega), List.append_assoc, List.getElem?_append_left (by simp; omega)]
    rw [List.getElem?_take]; simp [h1]
  · by_cases h2 : j < off + vs.length
    · rw [if_pos ⟨by omega, h2⟩, List.append_assoc, List.getElem?_append_right (by simp; omega), List.getElem?_append_left (by simp; omega)]
      congr 1
      simp; omega
    · rw [if_neg (by omega), List.getElem?_append_right (by simp; omega), List.getElem?_drop]
      congr 1
      simp; omega

theorem splice_length (l : List (Option Value)) (off : Nat) (vs : List (Option Value)) (h : off + vs.length ≤ l.length) : (spliceL l off vs).length = l.length := by
  unfold spliceL; simp; omega

/-- what a store leaves known of another row -/
theorem other_row {ρ : Ren} {H : AH} {W W' : World} (h : Rel ρ H W) {id : Nat} {r : Row} {pl : Pl} (hr : H.get id = some (.row r)) (hp : ρ id = some pl) {o n : Nat}
    (hoth : ∀ b, b ≠ pl.blk → W'.heap[b]? = W.heap[b]?)
    (hcell : ∀ x, ¬ (pl.base + o ≤ x ∧ x < pl.base + o + n) → W'.cell? ⟨pl.blk, x, none⟩ = W.cell? ⟨pl.blk, x, none⟩)
    (hthere : ∀ x, (∃ u, W.cell? ⟨pl.blk, x, none⟩ = some u) → ∃ u, W'.cell? ⟨pl.blk, x, none⟩ = some u)
    (hfro : ∀ a, fz W' a = fz W a) {j : Nat} {oj : AO} {pj : Pl} (hj : H.get j = some oj) (hne : j ≠ id) (hpj : ρ j = some pj) :
    OR ρ W' pj (if r.solo then oj else oj.blur r.fam (r.disp + o) (r.disp + o + n)) := by
  obtain ⟨p, hp', hlt, hor⟩ := h.obj j oj hj
  rw [hpj] at hp'; cases hp'
  by_cases hblk : pj.blk = pl.blk
  · obtain ⟨rj, ri, rfl, e, hfam, hdisp, hs1, hs2⟩ := h.share j id oj (.row r) pj pl hj hr hne hpj hp hblk
    cases e
    rw [hs2]
    simp only [Bool.false_eq_true, if_false, AO.blur, hfam, if_true]
    refine ⟨hor.1, by rw [Row.length_blur]; exact hor.2.1, fun x hx => ?_, fun a _ => (by have a' : rj.solo = true := a; rw [hs1] at a'; cases a')⟩
    obtain ⟨v', h1, h2, h3⟩ := hor.2.2.1 x hx
    rw [hblk] at h1 h3 ⊢
    by_cases hin : pl.base + o ≤ pj.base + x ∧ pj.base + x < pl.base + o + n
    · obtain ⟨u, hu⟩ := hthere _ ⟨v', h1⟩
      refine ⟨u, hu, fun v hv => ?_, fun hro => by rw [hfro]; exact h3 hro⟩
      have hcond : r.disp + o ≤ rj.disp + x ∧ rj.disp + x < r.disp + o + n := by omega
      rw [Row.get_blur] at hv
      cases hc : rj.cells[x]? with
      | none => rw [hc] at hv; simp at hv
      | some c => rw [hc] at hv; simp [hcond] at hv
    · refine ⟨v', by rw [hcell _ hin]; exact h1, fun v hv => h2 v ?_, fun hro => by rw [hfro]; exact h3 hro⟩
      rw [Row.get_blur] at hv
      cases hc : rj.cells[x]? with
      | none => rw [hc] at hv; simp at hv
      | some c =>
        rw [hc] at hv
        simp only [Option.map_some, Option.some.injEq] at hv
        split at hv
        · cases hv
        · rw [hv]
  · have hs : OR ρ W' pj oj := hor.congr (Ren.le_refl ρ) (hoth _ hblk)
    split
    · exact hs
    · cases oj with
      | row rj =>
        simp only [AO.blur]
        split
        · exact hs.blur _ _
        · exact hs
      | loop l => exact hs
      | mark b => exact hs
      | iter s pos => exact hs
      | mit m => exact hs
      | map es clock => exact hs

theorem rw_blur (fam lo hi : Nat) (o : AO) : (o.blur fam lo hi).rw = o.rw := by
  cases o with
  | row r => simp only [AO.blur]; split <;> rfl
  | loop l => rfl
  | mark b => rfl
  | iter s pos => rfl
  | mit m => rfl
  | map es clock => rfl

theorem row_blur {fam lo hi : Nat} {o : AO} {r : Row} (h : o.blur fam lo hi = .row r) : ∃ r0, o = .row r0 ∧ r.fam = r0.fam ∧ r.disp = r0.disp ∧ r.solo = r0.solo ∧ r.ro = r0.ro := by
  cases o with
  | row r0 =>
    simp only [AO.blur] at h
    split at h
    · cases h; exact ⟨r0, rfl, rfl, rfl, rfl, rfl⟩
    · cases h; exact ⟨r, rfl, rfl, rfl, rfl, rfl⟩
  | loop l => cases h
  | mark b => cases h
  | iter s pos => cases h
  | mit m => cases h
  | map es clock => cases h

/-- **A store.** -/
theorem St.write {ρ : Ren} {H H' : AH} {W : World} {id off : Nat} {vs vs' : List Value} {pl : Pl} {P : Program} (h : Rel ρ H W) (hw : H.write id off vs = .ok H') (hp : ρ id = some pl) (hl : LR ρ vs vs') :
    ∃ W', (storeCells ⟨pl.blk, pl.base + off, none⟩ vs').run P W = .ok () W' ∧ St ρ H W ρ H' W' := by
  unfold AH.write at hw
  cases hrow : H.row id with
  | error e => rw [hrow] at hw; cases hw
  | ok r =>
    rw [hrow] at hw
    have hr := AH.row_ok hrow
    simp only [bind, Except.bind] at hw
    split at hw
    · cases hw
    rename_i hro
    split at hw
    · cases hw
    rename_i hplain
    split at hw
    case isFalse => cases hw
    rename_i hfit
    cases hw
    obtain ⟨p, hp', hlt, hor⟩ := h.obj id _ hr
    rw [hp] at hp'; cases hp'
    have hro' : r.ro = false := by simpa using hro
    have hplain' : ∀ v' ∈ vs', v'.oneCell' = true := fun v' hv' => by
      obtain ⟨i, hi⟩ := List.getElem?_of_mem hv'
      have hlt' : i < vs.length := by
        rw [hl.1]
        rcases Nat.lt_or_ge i vs'.length with h' | h'
        · exact h'
        · rw [List.getElem?_eq_none h'] at hi; cases hi
      have hvi := List.getElem?_eq_getElem hlt'
      refine (hl.2 i _ _ hvi hi).plain ?_
      have : vs.all plainCell = true := by simpa using hplain
      exact List.all_eq_true.1 this _ (List.mem_of_getElem? hvi)
    have hext := hor.2.1
    have hthere : ∀ k, k < vs'.length → (∃ u, W.cell? ⟨pl.blk, pl.base + off + 0 + k, none⟩ = some u) ∧ W.frozen? ⟨pl.blk, pl.base + off + 0 + k, none⟩ = false := fun k hk => by
      obtain ⟨v', h1, _, h3⟩ := hor.2.2.1 (off + k) (by have := hl.1; omega)
      rw [show pl.base + off + 0 + k = pl.base + (off + k) by omega]
      exact ⟨⟨v', h1⟩, fz_frozen (h3 hro')⟩
    refine ⟨_, run_storeCells' vs' W _ _ 0 hplain' hthere, ?_⟩
    rw [Nat.add_zero]
    obtain ⟨g1, g2, g3, g4, _⟩ := puts_tape vs' W pl.blk (pl.base + off)
    have gcell := fun x => puts_cell vs' W pl.blk (pl.base + off) x (fun k hk => by have := (hthere k hk).1; simpa using this)
    have goth := fun b (hb : b ≠ pl.blk) => puts_other vs' W pl.blk (pl.base + off) b hb
    have gfro := fun a => puts_frozen vs' W pl.blk (pl.base + off) a
    have hidlt := h.lt hr
    generalize puts W pl.blk (pl.base + off) vs' = W' at *
    have hget : ∀ j, ((if r.solo = true then H else H.blur r.fam (r.disp + off) (r.disp + off + vs.length)).set id (.row { r with cells := spliceL r.cells off (vs.map some) })).get j =
        if j = id then some (.row { r with cells := spliceL r.cells off (vs.map some) }) else (H.get j).map fun o => if r.solo then o else o.blur r.fam (r.disp + off) (r.disp + off + vs.length) := fun j => by
      rw [AH.get_set]
      split
      · rfl
      · cases r.solo with
        | true => simp
        | false => simp [AH.get_blur]
    have hnext : ((if r.solo = true then H else H.blur r.fam (r.disp + off) (r.disp + off + vs.length)).set id (.row { r with cells := spliceL r.cells off (vs.map some) })).next = H.next := by
      cases r.solo <;> rfl
    have hinv : ∀ j o', ((if r.solo = true then H else H.blur r.fam (r.disp + off) (r.disp + off + vs.length)).set id (.row { r with cells := spliceL r.cells off (vs.map some) })).get j = some o' →
        ∃ o0, H.get j = some o0 ∧ o'.rw = o0.rw ∧ (∀ r', o' = .row r' → ∃ r0, o0 = .row r0 ∧ r'.fam = r0.fam ∧ r'.disp = r0.disp ∧ r'.solo = r0.solo) ∧ (∀ r0, o0 = .row r0 → ∃ r', o' = .row r') := fun j o' hj => by
      rw [hget] at hj
      split at hj
      · rename_i e; subst e; cases hj
        exact ⟨_, hr, rfl, fun r' e => by cases e; exact ⟨r, rfl, rfl, rfl, rfl⟩, fun _ _ => ⟨_, rfl⟩⟩
      · cases ho : H.get j with
        | none => rw [ho] at hj; cases hj
        | some o0 =>
          rw [ho] at hj
          simp only [Option.map_some, Option.some.injEq] at hj
          refine ⟨o0, rfl, ?_, fun r' e => ?_, fun r0 e => ?_⟩
          · rw [← hj]; split
            · rfl
            · exact rw_blur _ _ _ _
          · rw [e] at hj
            split at hj
            · exact ⟨r', hj, rfl, rfl, rfl⟩
            · obtain ⟨r0, a1, a2, a3, a4, _⟩ := row_blur hj
              exact ⟨r0, a1, a2, a3, a4⟩
          · subst e
            rw [← hj]
            split
            · exact ⟨_, rfl⟩
            · simp only [AO.blur]; split <;> exact ⟨_, rfl⟩
    generalize (if r.solo = true then H else H.blur r.fam (r.disp + off) (r.disp + off + vs.length)).set id (.row { r with cells := spliceL r.cells off (vs.map some) }) = H' at *
    refine ⟨Ren.le_refl ρ, ⟨fun i p hi => by rw [hnext]; exact h.dom i p hi, trivial, fun j o' hj => ?_, fun i j oi oj pi pj hi hj hij hpi hpj hblk => ?_⟩, by rw [hnext]; exact Nat.le_refl _, by rw [g4]; exact Nat.le_refl _, fun b hb hnot => ?_, g1, g2, g3, fun _ _ => rfl, fun b hb hnot => ?_⟩
    · rw [hget] at hj
      by_cases hjid : j = id
      · subst hjid
        rw [if_pos rfl] at hj
        cases hj
        refine ⟨pl, hp, by rw [g4]; exact hlt, hor.1, by show (spliceL _ _ _).length ≤ _; rw [splice_length _ _ _ (by simpa using hfit)]; exact hext, fun x hx => ?_, fun a b => (gfro ⟨pl.blk, 0, some 0⟩).trans (hor.2.2.2 a b)⟩
        obtain ⟨v', h1, h2, h3⟩ := hor.2.2.1 x hx
        rw [gcell]
        by_cases hin : off ≤ x ∧ x < off + vs.length
        · have hk : x - off < vs'.length := by rw [← hl.1]; omega
          rw [if_pos (by rw [← hl.1]; omega)]
          refine ⟨vs'[x - off], by rw [show pl.base + x - (pl.base + off) = x - off by omega]; exact List.getElem?_eq_getElem hk, fun v hv => ?_, fun _ => by rw [gfro]; exact h3 hro'⟩
          change (spliceL r.cells off (vs.map some))[x]? = _ at hv
          rw [splice_get _ _ _ (by simpa using hfit), if_pos (by simpa using hin)] at hv
          have hv2 : vs[x - off]? = some v := by
            rw [List.getElem?_map] at hv
            cases hc : vs[x - off]? with
            | none => rw [hc] at hv; simp at hv
            | some u => rw [hc] at hv; simp at hv; rw [hv]
          exact hl.2 _ _ _ hv2 (List.getElem?_eq_getElem hk)
        · rw [if_neg (by rw [← hl.1]; omega)]
          refine ⟨v', h1, fun v hv => h2 v ?_, fun _ => by rw [gfro]; exact h3 hro'⟩
          change (spliceL r.cells off (vs.map some))[x]? = _ at hv
          rw [splice_get _ _ _ (by simpa using hfit), if_neg (by simpa using hin)] at hv
          exact hv
      · rw [if_neg hjid] at hj
        cases ho : H.get j with
        | none => rw [ho] at hj; cases hj
        | some o0 =>
          rw [ho] at hj
          simp only [Option.map_some, Option.some.injEq] at hj
          obtain ⟨pj, hpj, hltj, _⟩ := h.obj j o0 ho
          refine ⟨pj, hpj, by rw [g4]; exact hltj, ?_⟩
          rw [← hj]
          refine other_row (o := off) (n := vs.length) h hr hp goth (fun x hx => ?_) (fun x hx => ?_) gfro ho hjid hpj
          · rw [gcell, if_neg (by rw [← hl.1]; exact hx)]
          · rw [gcell]
            split
            · rename_i hin
              exact ⟨_, List.getElem?_eq_getElem (by omega)⟩
            · exact hx
    · obtain ⟨o1, ho1, _, hb1, hc1⟩ := hinv i oi hi
      obtain ⟨o2, ho2, _, hb2, hc2⟩ := hinv j oj hj
      obtain ⟨ri, rj, e1, e2, e3, e4, e5, e6⟩ := h.share i j o1 o2 pi pj ho1 ho2 hij hpi hpj hblk
      obtain ⟨r1, rfl⟩ := hc1 ri e1
      obtain ⟨r2, rfl⟩ := hc2 rj e2
      obtain ⟨q1, f1, f2, f3, f4⟩ := hb1 r1 rfl
      obtain ⟨q2, k1, k2, k3, k4⟩ := hb2 r2 rfl
      rw [e1] at f1; cases f1
      rw [e2] at k1; cases k1
      exact ⟨r1, r2, rfl, rfl, by rw [f2, k2]; exact e3, by rw [f3, k3]; exact e4, by rw [f4]; exact e5, by rw [k4]; exact e6⟩
    · have hbne : b ≠ pl.blk := fun e => hnot ⟨id, .row r, pl, hr, by simp [AO.rw, hro'], hp, e.symm⟩
      refine ⟨goth b hbne, ?_⟩
      rintro ⟨j, o', p, hj, hrw, hpj, hpb⟩
      obtain ⟨o1, ho1, hrw1, _⟩ := hinv j o' hj
      exact hnot ⟨j, o1, p, ho1, by rw [← hrw1]; exact hrw, hpj, hpb⟩
    · rintro ⟨j, o', p, hj, hpj, hpb⟩
      obtain ⟨o1, ho1, _⟩ := hinv j o' hj
      exact hnot ⟨j, o1, p, ho1, hpj, hpb⟩

/-! ### Appends -/
/-- knows less -/
def Wk (o o' : AO) : Prop :=
  match o with
  | .row r => ∃ r', o' = .row r' ∧ r'.fam = r.fam ∧ r'.disp = r.disp ∧ r'.esz = r.esz ∧ r'.ro = r.ro ∧ r'.cells.length = r.cells.length ∧ (r.solo = false → r'.solo = false) ∧
    ∀ (x : Nat) (v : Value), r'.cells[x]? = some (some v) → r.cells[x]? = some (some v)
  | _ => o' = o

theorem Wk.refl (o : AO) : Wk o o := by
  cases o with
  | row r => exact ⟨r, rfl, rfl, rfl, rfl, rfl, rfl, fun h => h, fun _ _ h => h⟩
  | loop l => rfl
  | mark b => rfl
  | iter s pos => rfl
  | mit m => rfl
  | map es clock => rfl

theorem Wk.or {ρ : Ren} {W : World} {pl : Pl} {o o' : AO} (h : Wk o o') (ho : OR ρ W pl o) : OR ρ W pl o' := by
  cases o with
  | row r =>
    obtain ⟨r', rfl, _, _, h3, h4, h5, h6, h7⟩ := h
    refine ⟨h3.trans ho.1, by rw [h5]; exact ho.2.1, fun j hj => ?_, fun a b => ho.2.2.2 (by cases hs : r.solo with | true => rfl | false => have := h6 hs; rw [a] at this; cases this) (h3 ▸ b)⟩
    obtain ⟨v', a1, a2, a3⟩ := ho.2.2.1 j hj
    exact ⟨v', a1, fun v hv => a2 v (h7 j v hv), fun hr => a3 (h4 ▸ hr)⟩
  | loop l => have h' : o' = _ := h; rw [h']; exact ho
  | mark b => have h' : o' = _ := h; rw [h']; exact ho
  | iter s pos => have h' : o' = _ := h; rw [h']; exact ho
  | mit m => have h' : o' = _ := h; rw [h']; exact ho
  | map es clock => have h' : o' = _ := h; rw [h']; exact ho

theorem Wk.rw {o o' : AO} (h : Wk o o') : o'.rw = o.rw := by
  cases o with
  | row r => obtain ⟨r', rfl, _, _, _, h4, _⟩ := h; simp [AO.rw, h4]
  | loop l => have h' : o' = _ := h; rw [h']
  | mark b => have h' : o' = _ := h; rw [h']
  | iter s pos => have h' : o' = _ := h; rw [h']
  | mit m => have h' : o' = _ := h; rw [h']
  | map es clock => have h' : o' = _ := h; rw [h']

theorem blur_known {lo hi : Nat} {r : Row} {x : Nat} {v : Value} (h : (r.blur lo hi).cells[x]? = some (some v)) : r.cells[x]? = some (some v) ∧ ¬ (lo ≤ r.disp + x ∧ r.disp + x < hi) := by
  rw [Row.get_blur] at h
  cases hc : r.cells[x]? with
  | none => rw [hc] at h; simp at h
  | some c =>
    rw [hc] at h
    simp only [Option.map_some, Option.some.injEq] at h
    split at h
    · cases h
    · rename_i hn; exact ⟨by rw [h], hn⟩

theorem Wk.blur (fam lo hi : Nat) (o : AO) : Wk o (o.blur fam lo hi) := by
  cases o with
  | row r =>
    simp only [AO.blur]
    split
    · exact ⟨_, rfl, rfl, rfl, rfl, rfl, Row.length_blur _ _ _, fun h => h, fun x v h => (blur_known h).1⟩
    · exact Wk.refl _
  | loop l => rfl
  | mark b => rfl
  | iter s pos => rfl
  | mit m => rfl
  | map es clock => rfl

theorem St.weaken {ρ : Ren} {H H' : AH} {W : World} (h : Rel ρ H W) (hn : H'.next = H.next) (hw : ∀ j o', H'.get j = some o' → ∃ o, H.get j = some o ∧ Wk o o') : St ρ H W ρ H' W := by
  refine ⟨Ren.le_refl ρ, ⟨fun i p hi => by rw [hn]; exact h.dom i p hi, trivial, fun j o' hj => ?_, fun i j oi oj pi pj hi hj hij hpi hpj hblk => ?_⟩, by rw [hn]; exact Nat.le_refl _, Nat.le_refl _, fun b _ hnot => ⟨rfl, ?_⟩, rfl, rfl, rfl, fun _ _ => rfl, fun b _ hnot => ?_⟩
  · obtain ⟨o, ho, hk⟩ := hw j o' hj
    obtain ⟨pl, a, b, c⟩ := h.obj j o ho
    exact ⟨pl, a, b, hk.or c⟩
  · obtain ⟨o1, ho1, k1⟩ := hw i oi hi
    obtain ⟨o2, ho2, k2⟩ := hw j oj hj
    obtain ⟨ri, rj, rfl, rfl, e3, e4, e5, e6⟩ := h.share i j o1 o2 pi pj ho1 ho2 hij hpi hpj hblk
    obtain ⟨r1, rfl, a1, a2, _, _, _, a3, _⟩ := k1
    obtain ⟨r2, rfl, b1, b2, _, _, _, b3, _⟩ := k2
    exact ⟨r1, r2, rfl, rfl, by rw [a1, b1]; exact e3, by rw [a2, b2]; exact e4, a3 e5, b3 e6⟩
  · rintro ⟨j, o', p, hj, hrw, hpj, hpb⟩
    obtain ⟨o, ho, hk⟩ := hw j o' hj
    exact hnot ⟨j, o, p, ho, by rw [← hk.rw]; exact hrw, hpj, hpb⟩
  · rintro ⟨j, o', p, hj, hpj, hpb⟩
    obtain ⟨o, ho, hk⟩ := hw j o' hj
    exact hnot ⟨j, o, p, ho, hpj, hpb⟩

/-- a store where nobody knows anything -/
theorem St.stray {ρ : Ren} {H : AH} {W W' : World} (h : Rel ρ H W) {id : Nat} {r : Row} {pl : Pl} (hr : H.get id = some (.row r)) (hp : ρ id = some pl) (hro : r.ro = false) {a m : Nat}
    (hsize : W'.heap.size = W.heap.size) (ht : W'.tape = W.tape) (hos : W'.os = W.os) (hout : W'.output = W.output)
    (hoth : ∀ b, b ≠ pl.blk → W'.heap[b]? = W.heap[b]?)
    (hcell : ∀ x, ¬ (a ≤ x ∧ x < a + m) → W'.cell? ⟨pl.blk, x, none⟩ = W.cell? ⟨pl.blk, x, none⟩)
    (hthere : ∀ x, (∃ u, W.cell? ⟨pl.blk, x, none⟩ = some u) → ∃ u, W'.cell? ⟨pl.blk, x, none⟩ = some u)
    (hfro : ∀ a, fz W' a = fz W a)
    (hno : ∀ j rj pj, H.get j = some (.row rj) → ρ j = some pj → pj.blk = pl.blk → ∀ (x : Nat) (v : Value), rj.cells[x]? = some (some v) → ¬ (a ≤ pj.base + x ∧ pj.base + x < a + m)) : St ρ H W ρ H W' := by
  refine ⟨Ren.le_refl ρ, ⟨h.dom, h.nxt, fun j o hj => ?_, h.share⟩, Nat.le_refl _, by rw [hsize]; exact Nat.le_refl _, fun b hb hnot => ⟨hoth b fun e => hnot ⟨id, .row r, pl, hr, by simp [AO.rw, hro], hp, e.symm⟩, hnot⟩, ht, hos, hout, fun _ _ => rfl, fun _ _ hb => hb⟩
  obtain ⟨pj, hpj, hlt, hor⟩ := h.obj j o hj
  refine ⟨pj, hpj, by rw [hsize]; exact hlt, ?_⟩
  by_cases hblk : pj.blk = pl.blk
  · have hrow : ∃ rj, o = .row rj := by
      by_cases hji : j = id
      · subst hji; rw [hr] at hj; cases hj; exact ⟨r, rfl⟩
      · obtain ⟨rj, _, e, _⟩ := h.share j id o (.row r) pj pl hj hr hji hpj hp hblk
        exact ⟨rj, e⟩
    obtain ⟨rj, rfl⟩ := hrow
    refine ⟨hor.1, hor.2.1, fun x hx => ?_, fun a b => (hfro ⟨pj.blk, 0, some 0⟩).trans (hor.2.2.2 a b)⟩
    obtain ⟨v', h1, h2, h3⟩ := hor.2.2.1 x hx
    by_cases hin : a ≤ pj.base + x ∧ pj.base + x < a + m
    · rw [hblk] at h1 ⊢
      obtain ⟨u, hu⟩ := hthere _ ⟨v', h1⟩
      exact ⟨u, hu, fun v hv => absurd hin (hno j rj pj hj hpj hblk x v hv), fun hro' => by rw [hfro, ← hblk]; exact h3 hro'⟩
    · rw [hblk] at h1 ⊢
      exact ⟨v', by rw [hcell _ hin]; exact h1, h2, fun hro' => by rw [hfro, ← hblk]; exact h3 hro'⟩
  · exact hor.congr (Ren.le_refl ρ) (hoth _ hblk)

/-- a new row in a block that is there -/
theorem St.alias {ρ : Ren} {H H' : AH} {W : World} (h : Rel ρ H W) {id id' : Nat} {r r' : Row} {pl pl' : Pl} (hr : H.get id = some (.row r)) (hp : ρ id = some pl) (hro : r.ro = false) (hs : r.solo = false)
    (hn : H.new (.row r') = .ok (id', H')) (hfam : r'.fam = r.fam) (hs' : r'.solo = false) (hblk : pl'.blk = pl.blk) (hd : pl'.base + r.disp = pl.base + r'.disp) (ho : OR ρ W pl' (.row r')) :
    St ρ H W (ρ.with id' pl') H' W := by
  obtain ⟨rfl, hlt, hnext, hget⟩ := AH.new_ok hn
  have hle := Ren.le_with h pl'
  have hne : id ≠ H.next := fun e => by have := h.dom id pl hp; omega
  have hold : ∀ j o' p, H'.get j = some o' → j ≠ H.next → (ρ.with H.next pl') j = some p → H.get j = some o' ∧ ρ j = some p := fun j o' p hj hne hp => by
    rw [hget, if_neg hne] at hj
    simp only [Ren.with, if_neg hne] at hp
    exact ⟨hj, hp⟩
  have hnew : ∀ o' p, H'.get H.next = some o' → (ρ.with H.next pl') H.next = some p → o' = .row r' ∧ p = pl' := fun o' p hj hp => by
    rw [hget, if_pos rfl] at hj
    simp only [Ren.with, if_true] at hp
    cases hj; cases hp; exact ⟨rfl, rfl⟩
  obtain ⟨p0, hp0, hlt0, _⟩ := h.obj id _ hr
  rw [hp] at hp0; cases hp0
  have key : ∀ j oj pj, H.get j = some oj → ρ j = some pj → pj.blk = pl.blk → ∃ rj, oj = .row rj ∧ r'.fam = rj.fam ∧ pl'.base + rj.disp = pj.base + r'.disp ∧ rj.solo = false := fun j oj pj hj hpj hb => by
    by_cases hji : j = id
    · subst hji
      rw [hr] at hj; cases hj
      rw [hp] at hpj; cases hpj
      exact ⟨r, rfl, hfam, hd, hs⟩
    · obtain ⟨ri, rj, e1, e2, e3, e4, _, e6⟩ := h.share id j (.row r) oj pl pj hr hj (Ne.symm hji) hp hpj hb.symm
      cases e1
      exact ⟨rj, e2, hfam.trans e3, by omega, e6⟩
  refine ⟨hle, ⟨fun i p hi => ?_, by omega, fun j o' hj => ?_, fun i j oi oj pi pj hi hj hij hpi hpj hb => ?_⟩, by omega, Nat.le_refl _, fun b hb' hnot => ⟨rfl, ?_⟩, rfl, rfl, rfl, fun i hi => by simp only [Ren.with]; rw [if_neg (by omega)], fun b hb' hnot => ?_⟩
  · simp only [Ren.with] at hi
    split at hi
    · omega
    · have := h.dom i p hi; omega
  · by_cases hne : j = H.next
    · subst hne
      rw [hget, if_pos rfl] at hj
      cases hj
      exact ⟨pl', by simp [Ren.with], by rw [hblk]; exact hlt0, ho.congr hle rfl⟩
    · rw [hget, if_neg hne] at hj
      obtain ⟨p, hp, hlt', hor⟩ := h.obj j o' hj
      exact ⟨p, hle _ _ hp, hlt', hor.congr hle rfl⟩
  · by_cases hni : i = H.next
    · subst hni
      obtain ⟨rfl, rfl⟩ := hnew oi pi hi hpi
      obtain ⟨hj', hpj'⟩ := hold j oj pj hj (Ne.symm hij) hpj
      obtain ⟨rj, e1, e2, e3, e4⟩ := key j oj pj hj' hpj' (hb.symm.trans hblk)
      exact ⟨r', rj, rfl, e1, e2, e3, hs', e4⟩
    · obtain ⟨hi', hpi'⟩ := hold i oi pi hi hni hpi
      by_cases hnj : j = H.next
      · subst hnj
        obtain ⟨rfl, rfl⟩ := hnew oj pj hj hpj
        obtain ⟨ri, e1, e2, e3, e4⟩ := key i oi pi hi' hpi' (hb.trans hblk)
        exact ⟨ri, r', e1, rfl, e2.symm, by omega, e4, hs'⟩
      · obtain ⟨hj', hpj'⟩ := hold j oj pj hj hnj hpj
        exact h.share i j oi oj pi pj hi' hj' hij hpi' hpj' hb
  · rintro ⟨j, o', p, hj, hrw, hpj, hpb⟩
    by_cases hne : j = H.next
    · subst hne
      obtain ⟨rfl, rfl⟩ := hnew o' p hj hpj
      exact hnot ⟨id, .row r, pl, hr, by simp [AO.rw, hro], hp, by rw [← hblk]; exact hpb⟩
    · obtain ⟨hj', hp'⟩ := hold j o' p hj hne hpj
      exact hnot ⟨j, o', p, hj', hrw, hp', hpb⟩
  · rintro ⟨j, o', p, hj, hpj, hpb⟩
    by_cases hne : j = H.next
    · subst hne
      obtain ⟨rfl, rfl⟩ := hnew o' p hj hpj
      exact hnot ⟨id, .row r, pl, hr, hp, by rw [← hblk]; exact hpb⟩
    · obtain ⟨hj', hp'⟩ := hold j o' p hj hne hpj
      exact hnot ⟨j, o', p, hj', hp', hpb⟩

/-- the memory as an append leaves it, ahead of the new row -/
def AH.readied (H : AH) (id : Nat) (r : Row) (lo n : Nat) : AH :=
  if r.solo then H.set id (.row { (r.blur lo (lo + n)) with solo := false }) else H.blur r.fam lo (lo + n)

theorem readied_spec {ρ : Ren} {H : AH} {W : World} (h : Rel ρ H W) {id : Nat} {r : Row} (hr : H.get id = some (.row r)) (lo n : Nat) :
    (H.readied id r lo n).next = H.next ∧ (∀ j o', (H.readied id r lo n).get j = some o' → ∃ o, H.get j = some o ∧ Wk o o') ∧
    (∃ r1, (H.readied id r lo n).get id = some (.row r1) ∧ r1.fam = r.fam ∧ r1.disp = r.disp ∧ r1.ro = r.ro ∧ r1.solo = false ∧ r1.ty = r.ty) ∧
    ∀ pl, ρ id = some pl → ∀ j rj pj, (H.readied id r lo n).get j = some (.row rj) → ρ j = some pj → pj.blk = pl.blk → ∀ (x : Nat) (v : Value), rj.cells[x]? = some (some v) →
      ¬ (lo + pl.base ≤ r.disp + (pj.base + x) ∧ r.disp + (pj.base + x) < lo + pl.base + n) := by
  have hidlt := h.lt hr
  unfold AH.readied
  cases hs : r.solo with
  | true =>
    simp only [if_true]
    refine ⟨rfl, fun j o' hj => ?_, ⟨{ (r.blur lo (lo + n)) with solo := false }, by rw [AH.get_set, if_pos rfl], rfl, rfl, rfl, rfl, rfl⟩, fun pl hp j rj pj hj hpj hb x v hv => ?_⟩
    · rw [AH.get_set] at hj
      split at hj
      · rename_i e; subst e; cases hj
        exact ⟨_, hr, _, rfl, rfl, rfl, rfl, rfl, Row.length_blur _ _ _, fun _ => rfl, fun x v hv => (blur_known hv).1⟩
      · exact ⟨o', hj, Wk.refl _⟩
    · rw [AH.get_set] at hj
      split at hj
      · rename_i e; subst e; cases hj
        rw [hp] at hpj; cases hpj
        have := (blur_known (r := r) hv).2
        omega
      · rename_i hne
        obtain ⟨ri, _, e1, _, _, _, e5, _⟩ := h.share id j (.row r) (.row rj) pl pj hr hj (Ne.symm hne) hp hpj hb.symm
        cases e1
        rw [hs] at e5; cases e5
  | false =>
    simp only [Bool.false_eq_true, if_false]
    refine ⟨rfl, fun j o' hj => ?_, ⟨r.blur lo (lo + n), by rw [AH.get_blur, hr]; simp [AO.blur], rfl, rfl, rfl, hs, rfl⟩, fun pl hp j rj pj hj hpj hb x v hv => ?_⟩
    · rw [AH.get_blur] at hj
      cases ho : H.get j with
      | none => rw [ho] at hj; cases hj
      | some o => rw [ho] at hj; simp only [Option.map_some, Option.some.injEq] at hj; subst hj; exact ⟨o, rfl, Wk.blur _ _ _ _⟩
    · rw [AH.get_blur] at hj
      cases ho : H.get j with
      | none => rw [ho] at hj; cases hj
      | some o =>
        rw [ho] at hj
        simp only [Option.map_some, Option.some.injEq] at hj
        obtain ⟨r0, rfl, _⟩ := row_blur hj
        simp only [AO.blur] at hj
        have hfam : r0.fam = r.fam ∧ pl.base + r0.disp = pj.base + r.disp := by
          by_cases hji : j = id
          · subst hji
            rw [hr] at ho; cases ho
            rw [hp] at hpj; cases hpj
            exact ⟨rfl, rfl⟩
          · obtain ⟨ri, r2, e1, e2, e3, e4, _⟩ := h.share id j (.row r) (.row r0) pl pj hr ho (Ne.symm hji) hp hpj hb.symm
            cases e1; cases e2
            exact ⟨e3.symm, e4⟩
        rw [if_pos hfam.1] at hj
        cases hj
        have := (blur_known (r := r0) hv).2
        have := hfam.2
        omega

theorem takeU_ok {l l' : List (Option Value)} {n : Nat} (h : takeU l n = .ok l') : l' = l.take n ∧ n ≤ l.length := by
  unfold takeU at h
  split at h
  · cases h; exact ⟨rfl, by assumption⟩
  · cases h

/-- **An append for which there is no room: it goes to a new block ..** -/
theorem St.append_new {ρ : Ren} {H H2 : AH} {W W' : World} (h : Rel ρ H W) {id id' : Nat} {r : Row} {pl : Pl} (hr : H.get id = some (.row r)) (hp : ρ id = some pl)
    {off k size : Nat} {old : List (Option Value)} {new : List Value} (hold : takeU (r.cells.drop off) k = .ok old) {lo : Nat}
    (hn : (H.readied id r lo new.length).new (.row { cells := old ++ new.map some, ty := r.ty, fam := r.fam, disp := r.disp + off, esz := size, ro := false, solo := false }) = .ok (id', H2))
    {old' new' rest : List Value} {ty' : TypeId} (hlen : old'.length = k) (hol : ∀ j, j < k → W.cell? ⟨pl.blk, pl.base + off + j, none⟩ = old'[j]?) (hl : LR ρ new new')
    (hh : W'.heap = W.heap.push (.cells (old' ++ new' ++ rest).toArray ty' (0, 0))) (ht : W'.tape = W.tape) (hos : W'.os = W.os) (hout : W'.output = W.output) :
    St ρ H W (ρ.with id' ⟨W.heap.size, 0, size, (old' ++ new' ++ rest).length⟩) H2 W' := by
  obtain ⟨s1, s2, s3, s4⟩ := readied_spec h hr lo new.length
  have st1 := St.weaken h s1 s2
  obtain ⟨rfl, hk⟩ := takeU_ok hold
  obtain ⟨p0, hp0, hlt0, hor⟩ := h.obj id _ hr
  rw [hp] at hp0; cases hp0
  refine st1.trans (St.new st1.rel hn (pl := ⟨W.heap.size, 0, size, (old' ++ new' ++ rest).length⟩) _ hh ht hos hout rfl ?_)
  have hle : ρ.le (ρ.with id' ⟨W.heap.size, 0, size, (old' ++ new' ++ rest).length⟩) := by
    obtain ⟨rfl, _⟩ := AH.new_ok hn
    exact Ren.le_with st1.rel _
  have hlt : (List.take k (List.drop off r.cells)).length = k := by rw [List.length_take]; omega
  have hblk : W'.heap[W.heap.size]? = some (.cells (old' ++ new' ++ rest).toArray ty' (0, 0)) := by rw [hh]; simp
  refine ⟨rfl, ?_, fun j hj => ?_, fun a => (by cases a)⟩
  · simp only [List.length_append, hlt, List.length_map, hl.1, hlen]; omega
  · have hc : W'.cell? ⟨W.heap.size, 0 + j, none⟩ = some ((old' ++ new' ++ rest)[j]'hj) := by
      unfold World.cell?
      simp only [hblk, Nat.zero_add]
      simp
    refine ⟨_, hc, fun v hv => ?_, fun _ => ?_⟩
    · change (List.take k (List.drop off r.cells) ++ new.map some)[j]? = some (some v) at hv
      by_cases hj1 : j < k
      · rw [List.getElem?_append_left (by omega), List.getElem?_take, if_pos hj1, List.getElem?_drop] at hv
        have hlt2 : off + j < r.cells.length := by
          rcases Nat.lt_or_ge (off + j) r.cells.length with h' | h'
          · exact h'
          · rw [List.getElem?_eq_none h'] at hv; cases hv
        obtain ⟨v', h1, h2, _⟩ := hor.2.2.1 (off + j) (by have := hor.2.1; omega)
        have h3 := hol j hj1
        rw [show pl.base + off + j = pl.base + (off + j) by omega, h1] at h3
        have : (old' ++ new' ++ rest)[j]'hj = v' := by
          have : (old' ++ new' ++ rest)[j]? = some v' := by
            rw [List.append_assoc, List.getElem?_append_left (by omega)]; exact h3.symm
          exact Option.some.inj ((List.getElem?_eq_getElem hj).symm.trans this)
        rw [this]
        exact (h2 v hv).mono hle
      · rw [List.getElem?_append_right (by omega), hlt, List.getElem?_map] at hv
        have hv2 : new[j - k]? = some v := by
          cases hc2 : new[j - k]? with
          | none => rw [hc2] at hv; simp at hv
          | some u => rw [hc2] at hv; simp at hv; rw [hv]
        obtain ⟨v', h1, h2⟩ := hl.get hv2
        have hlt3 : j - k < new'.length := by
          rcases Nat.lt_or_ge (j - k) new'.length with h' | h'
          · exact h'
          · rw [List.getElem?_eq_none h'] at h1; cases h1
        have : (old' ++ new' ++ rest)[j]'hj = v' := by
          have : (old' ++ new' ++ rest)[j]? = some v' := by
            rw [List.append_assoc, List.getElem?_append_right (by omega), hlen, List.getElem?_append_left hlt3]; exact h1
          exact Option.some.inj ((List.getElem?_eq_getElem hj).symm.trans this)
        rw [this]
        exact h2.mono hle
    · unfold fz
      simp only [hblk]
      simp

/-- **.. or, for all we know, into the old one.** -/
theorem St.append_in {ρ : Ren} {H H2 : AH} {W : World} {P : Program} (h : Rel ρ H W) {id id' : Nat} {r : Row} {pl : Pl} (hr : H.get id = some (.row r)) (hp : ρ id = some pl) (hro : r.ro = false)
    {off k size : Nat} {old : List (Option Value)} {new : List Value} (hold : takeU (r.cells.drop off) k = .ok old)
    (hn : (H.readied id r (r.disp + off + k) new.length).new (.row { cells := old ++ new.map some, ty := r.ty, fam := r.fam, disp := r.disp + off, esz := size, ro := false, solo := false }) = .ok (id', H2))
    {new' : List Value} (hl : LR ρ new new') (hplain : new.all plainCell = true) (hroom : off + k + new.length ≤ pl.ext) :
    ∃ W', (storeCells ⟨pl.blk, pl.base + off + k, none⟩ new').run P W = .ok () W' ∧ St ρ H W (ρ.with id' ⟨pl.blk, pl.base + off, size, pl.ext - off⟩) H2 W' := by
  obtain ⟨s1, s2, ⟨r1, t1, t2, t3, t4, t5, t6⟩, s4⟩ := readied_spec h hr (r.disp + off + k) new.length
  have st1 := St.weaken h s1 s2
  obtain ⟨rfl, hk⟩ := takeU_ok hold
  obtain ⟨p0, hp0, hlt0, hor⟩ := h.obj id _ hr
  rw [hp] at hp0; cases hp0
  have hthere : ∀ i, i < new'.length → (∃ u, W.cell? ⟨pl.blk, pl.base + off + k + 0 + i, none⟩ = some u) ∧ W.frozen? ⟨pl.blk, pl.base + off + k + 0 + i, none⟩ = false := fun i hi => by
    obtain ⟨v', h1, _, h3⟩ := hor.2.2.1 (off + k + i) (by have := hl.1; omega)
    rw [show pl.base + off + k + 0 + i = pl.base + (off + k + i) by omega]
    exact ⟨⟨v', h1⟩, fz_frozen (h3 hro)⟩
  have hplain' : ∀ v' ∈ new', v'.oneCell' = true := fun v' hv' => by
    obtain ⟨i, hi⟩ := List.getElem?_of_mem hv'
    have hlt' : i < new.length := by
      rw [hl.1]
      rcases Nat.lt_or_ge i new'.length with h' | h'
      · exact h'
      · rw [List.getElem?_eq_none h'] at hi; cases hi
    have hvi := List.getElem?_eq_getElem hlt'
    exact (hl.2 i _ _ hvi hi).plain (List.all_eq_true.1 hplain _ (List.mem_of_getElem? hvi))
  refine ⟨_, run_storeCells' new' W _ _ 0 hplain' hthere, ?_⟩
  rw [Nat.add_zero]
  obtain ⟨g1, g2, g3, g4, _⟩ := puts_tape new' W pl.blk (pl.base + off + k)
  have gcell := fun x => puts_cell new' W pl.blk (pl.base + off + k) x (fun k hk => by have := (hthere k hk).1; simpa using this)
  have goth := fun b (hb : b ≠ pl.blk) => puts_other new' W pl.blk (pl.base + off + k) b hb
  have gfro := fun a => puts_frozen new' W pl.blk (pl.base + off + k) a
  generalize puts W pl.blk (pl.base + off + k) new' = W' at *
  have st2 : St ρ (H.readied id r (r.disp + off + k) new.length) W ρ (H.readied id r (r.disp + off + k) new.length) W' := by
    refine St.stray (a := pl.base + off + k) (m := new.length) st1.rel t1 hp (t4.trans hro) g4 g1 g2 g3 goth (fun x hx => ?_) (fun x hx => ?_) gfro (fun j rj pj hj hpj hb x v hv => ?_)
    · rw [gcell, if_neg (by rw [← hl.1]; exact hx)]
    · rw [gcell]
      split
      · exact ⟨_, List.getElem?_eq_getElem (by omega)⟩
      · exact hx
    · have := s4 pl hp j rj pj hj hpj hb x v hv
      omega
  refine (st1.trans st2).trans (St.alias st2.rel t1 hp (t4.trans hro) t5 hn t2.symm rfl rfl (by show pl.base + off + r1.disp = pl.base + (r.disp + off); omega) ?_)
  have hlt : (List.take k (List.drop off r.cells)).length = k := by rw [List.length_take]; omega
  have hdl : (List.drop off r.cells).length = r.cells.length - off := List.length_drop
  refine ⟨rfl, ?_, fun j hj => ?_, fun a => (by cases a)⟩
  · show (List.take k (List.drop off r.cells) ++ new.map some).length ≤ pl.ext - off
    rw [List.length_append, hlt, List.length_map]; omega
  · have hj' : j < pl.ext - off := hj
    obtain ⟨v', h1, h2, h3⟩ := hor.2.2.1 (off + j) (by omega)
    show ∃ v', W'.cell? ⟨pl.blk, pl.base + off + j, none⟩ = some v' ∧ _
    rw [gcell, show pl.base + off + j = pl.base + (off + j) by omega]
    by_cases hin : k ≤ j ∧ j < k + new.length
    · have hk2 : j - k < new'.length := by rw [← hl.1]; omega
      rw [if_pos (by rw [← hl.1]; omega)]
      refine ⟨new'[j - k], by rw [show pl.base + (off + j) - (pl.base + off + k) = j - k by omega]; exact List.getElem?_eq_getElem hk2, fun v hv => ?_, fun _ => by rw [gfro]; exact h3 hro⟩
      change (List.take k (List.drop off r.cells) ++ new.map some)[j]? = some (some v) at hv
      rw [List.getElem?_append_right (by omega), hlt, List.getElem?_map] at hv
      have hv2 : new[j - k]? = some v := by
        cases hc2 : new[j - k]? with
        | none => rw [hc2] at hv; simp at hv
        | some u => rw [hc2] at hv; simp at hv; rw [hv]
      exact hl.2 _ _ _ hv2 (List.getElem?_eq_getElem hk2)
    · rw [if_neg (by rw [← hl.1]; omega)]
      refine ⟨v', h1, fun v hv => h2 v ?_, fun _ => by rw [gfro]; exact h3 hro⟩
      change (List.take k (List.drop off r.cells) ++ new.map some)[j]? = some (some v) at hv
      by_cases hj1 : j < k
      · rw [List.getElem?_append_left (by omega), List.getElem?_take, if_pos hj1, List.getElem?_drop] at hv
        exact hv
      · rw [List.getElem?_append_right (by omega), hlt, List.getElem?_map, List.getElem?_eq_none (by omega)] at hv
        simp at hv

/-- a block's mark behind its cells -/
theorem St.marked {ρ : Ren} {H : AH} {W W' : World} (h : Rel ρ H W) {id : Nat} {r : Row} {pl : Pl} (hr : H.get id = some (.row r)) (hp : ρ id = some pl) (hro : r.ro = false) (hm : r.solo = true → ¬ 2 ≤ r.esz) {c : Array Value} {t : TypeId} {f f' : Nat × Nat}
    (hb : W.heap[pl.blk]? = some (.cells c t f)) (hb' : W'.heap[pl.blk]? = some (.cells c t f')) (hf : f'.1 = c.size) (hoth : ∀ b, b ≠ pl.blk → W'.heap[b]? = W.heap[b]?) (hsize : W'.heap.size = W.heap.size) (ht : W'.tape = W.tape) (hos : W'.os = W.os) (hout : W'.output = W.output) : St ρ H W ρ H W' := by
  refine ⟨Ren.le_refl ρ, ⟨h.dom, h.nxt, fun j o hj => ?_, h.share⟩, Nat.le_refl _, by rw [hsize]; exact Nat.le_refl _, fun b _ hnot => ⟨hoth b fun e => hnot ⟨id, .row r, pl, hr, by simp [AO.rw, hro], hp, e.symm⟩, hnot⟩, ht, hos, hout, fun _ _ => rfl, fun b _ hnot => hnot⟩
  obtain ⟨pj, h1, h2, h3⟩ := h.obj j o hj
  refine ⟨pj, h1, by rw [hsize]; exact h2, ?_⟩
  by_cases e : pj.blk = pl.blk
  · cases o with
    | row rj =>
      have hmk : rj.solo = true → 2 ≤ rj.esz → mkd W' pj.blk = false := fun a b => by
        by_cases hji : j = id
        · subst hji
          rw [hr] at hj; cases hj
          exact absurd b (hm a)
        · obtain ⟨r1, _, e1, _, _, _, e5, _⟩ := h.share j id (.row rj) (.row r) pj pl hj hr hji h1 hp e
          cases e1
          rw [a] at e5; cases e5
      refine ⟨h3.1, h3.2.1, fun k hk => ?_, hmk⟩
      obtain ⟨v', q1, q2, q3⟩ := h3.2.2.1 k hk
      have hck : c[pj.base + k]? = some v' := by
        unfold World.cell? at q1
        simp only [e, hb] at q1
        simpa using q1
      refine ⟨v', ?_, q2, fun _ => ?_⟩
      · unfold World.cell?
        simp only [e, hb']
        simpa using hck
      · have hlt : pj.base + k < c.size := by
          rcases Nat.lt_or_ge (pj.base + k) c.size with h' | h'
          · exact h'
          · rw [Array.getElem?_eq_none h'] at hck; cases hck
        obtain ⟨lo, hi⟩ := f'
        unfold fz
        simp only [e, hb']
        simp only at hf
        simp only [Bool.or_eq_false_iff, Bool.and_eq_false_iff, decide_eq_false_iff_not, Option.isSome_none, true_or, and_true]
        omega
    | loop l =>
      obtain ⟨fn, tmps, pm, q1, _⟩ := h3
      rw [e, hb] at q1; cases q1
    | mark b =>
      have q1 : W.heap[pj.blk]? = _ := h3
      rw [e, hb] at q1; cases q1
    | iter s pos =>
      have q1 := h3.2
      rw [e, hb] at q1; cases q1
    | mit m =>
      obtain ⟨_, m', si, se, la, q1, _⟩ := h3
      rw [e, hb] at q1; cases q1
    | map es clock =>
      obtain ⟨ces, q1, _⟩ := h3
      rw [e, hb] at q1; cases q1
  · exact h3.congr (Ren.le_refl ρ) (hoth _ e)

end
end Go.Eng
