/-
  Bytes laid behind a list of one's own: room is made by an append of zeros, and then it is written over.
-/
import Derived.Test.YtjobmgleekphjaaM22
set_option linter.unusedSimpArgs false
set_option linter.unusedVariables false
namespace Go.Eng
noncomputable section
variable {P : Program} {O : FuncId → Option Value} {e e' : Env} {fr fr' : List PRow} {tk tk' : List Nat} {H H' H'' : AH}

/-! ### Memories that read alike -/
structure AH.Same (H H' : AH) : Prop where
  get : ∀ j, H'.get j = H.get j
  next : H'.next = H.next
theorem AH.Same.refl (H : AH) : AH.Same H H := ⟨fun _ => rfl, rfl⟩
theorem AH.Same.grow (hs : AH.Same H H') : Grow e tk H e tk H' :=
  ⟨Nat.le_of_eq hs.next.symm, fun _ _ h => h, fun id fam en _ h => ⟨by rw [hs.next]; exact h.lt, by rw [hs.next]; exact h.flt, h.x, h.row, h.tok⟩, fun id r n hr _ => ⟨r, by rw [hs.get]; exact hr, Meta.refl r, fun _ _ => rfl⟩, fun k n h => ⟨n, h, Nat.le_refl _, fun _ => rfl⟩⟩
theorem HInv.same (h : HInv e fr tk H) (hs : AH.Same H H') : HInv e fr tk H' :=
  ⟨⟨fun id o ho => by rw [hs.next]; rw [hs.get] at ho; exact h.wf.lt id o ho, fun id r hr => by rw [hs.next]; rw [hs.get] at hr; exact h.wf.fam id r hr, esz_of h.wf fun id r hr => .inr ⟨id, r, by rw [← hs.get]; exact hr, rfl, rfl, rfl⟩⟩, h.rlen, h.rnd,
    fun k id R hk hR => let ⟨r, vs, h2, h3, h4, h5, h6, h7, h8⟩ := h.row k id R hk hR; ⟨r, vs, by rw [hs.get]; exact h2, h3, h4, h5, h6, h7, h8.grow hs.grow⟩,
    h.tlen, h.tsep, fun t τ ht => by rw [hs.next]; exact h.tlt t τ ht, h.tfr⟩
theorem Frame.same {C : Ctx} (h : Frame C H) (hs : AH.Same H H') : Frame C H' :=
  ⟨by rw [hs.next]; exact h.next, fun id r hr hi => let ⟨r', h1, h2⟩ := h.row id r hr hi; ⟨r', by rw [hs.get]; exact h1, h2⟩, fun id o ho hn => by rw [hs.get]; exact h.oth id o ho hn, fun id h1 h2 => by rw [hs.get]; exact h.gone id h1 h2⟩
theorem Step.same (h : Step e tk H e' fr' tk' H') (hs : AH.Same H' H'') : Step e tk H e' fr' tk' H'' := ⟨h.inv.same hs, h.ext, h.frame.same hs, h.x⟩
theorem RV.same {b : Bool} {p : PV} {v : Value} (h : RV e tk H b p v) (hs : AH.Same H H') : RV e tk H' b p v := h.grow hs.grow

theorem Dim.blur {H1 : AH} {fam lo hi : Nat} (h : Dim H H1 fam lo) : Dim H (H1.blur fam lo hi) fam lo := by
  refine ⟨h.nx, fun j o ho hn => ?_, fun j o ho => ?_, fun j r0 h0 => ?_⟩
  · rw [AH.get_blur, h.oth j o ho hn]
    cases o with
    | row r => exact absurd rfl (hn r)
    | _ => rfl
  · rw [AH.get_blur] at ho
    cases h1 : H1.get j with
    | none => rw [h1] at ho; cases ho
    | some o1 =>
      rw [h1] at ho
      simp only [Option.map_some, Option.some.injEq] at ho
      obtain ⟨o', k1, k2, k3⟩ := h.back j o1 h1
      refine ⟨o', k1, fun hn => ?_, fun r' e1 => ?_⟩
      · have e2 := k2 hn
        subst e2
        rw [← ho]
        cases o' with
        | row r => exact absurd rfl (hn r)
        | _ => rfl
      · subst e1
        cases o1 with
        | row r1 =>
          obtain ⟨r0, e3, e4⟩ := k3 r1 rfl
          refine ⟨r0, e3, ?_⟩
          simp only [AO.blur] at ho
          split at ho <;> (cases ho; exact e4)
        | _ => cases ho
  · obtain ⟨r', k1, k2, k3, k4⟩ := h.row j r0 h0
    rw [AH.get_blur, k1]
    simp only [Option.map_some, AO.blur]
    split
    · rename_i hf
      refine ⟨_, rfl, ⟨k2.ty, k2.fam, k2.disp, k2.esz, k2.ro, (Row.length_blur _ _ _).trans k2.len⟩, fun hn => absurd (k2.fam.symm.trans hf) hn, fun p hp => ?_⟩
      rw [Row.get_blur, ← k4 p hp]
      cases r'.cells[p]? with
      | none => rfl
      | some c => simp only [Option.map_some]; rw [if_neg (by rw [k2.disp]; omega)]
    · exact ⟨r', rfl, k2, k3, k4⟩

/-! ### A text's bytes -/
theorem strBytes_len (s : ByteArray) : (strBytes s).length = s.size := by
  unfold strBytes; rw [List.length_map, Array.length_toList]; rfl
theorem lies_bytes (s : ByteArray) : Lies e tk H 1 ((strBytes s).map cI_u8) (s.data.toList.map u8v) := by
  refine ⟨by rw [List.length_map, List.length_map, strBytes_len, Nat.mul_one, Array.length_toList]; rfl, fun i cs hi => ?_, fun i cs j p hi hj => ?_, fun i cs j p hi hj => ?_⟩
  · rw [List.getElem?_map] at hi
    cases h : (strBytes s)[i]? with
    | none => rw [h] at hi; cases hi
    | some x => rw [h] at hi; cases hi; rfl
  · rw [List.getElem?_map] at hi
    cases h : (strBytes s)[i]? with
    | none => rw [h] at hi; cases hi
    | some x =>
      rw [h] at hi; cases hi
      cases j with
      | zero => cases hj; rfl
      | succ j => simp [cI_u8] at hj
  · rw [List.getElem?_map] at hi
    cases h : (strBytes s)[i]? with
    | none => rw [h] at hi; cases hi
    | some x =>
      rw [h] at hi; cases hi
      cases j with
      | zero =>
        cases hj
        unfold strBytes at h
        rw [List.getElem?_map] at h
        cases h2 : s.data.toList[i]? with
        | none => rw [h2] at h; cases h
        | some b =>
          rw [h2] at h; cases h
          refine ⟨u8v b, ?_, .val rfl⟩
          rw [Nat.mul_one, Nat.add_zero, List.getElem?_map, h2]; rfl
      | succ j => simp [cI_u8] at hj

theorem zeros_plain : ∀ n, (repeated [.int .u8 0] n).all plainCell = true
  | 0 => rfl
  | n + 1 => by show ([Value.int .u8 0] ++ repeated [.int .u8 0] n).all plainCell = true; rw [List.all_append, zeros_plain n]; rfl

/-- what a copy of a text does -/
def layCopy (K : AH) (vt : Value) (s : ByteArray) : R (Value × AH) :=
  match vt with
  | .slice none 0 0 => .ok (.int .i64 0, K)
  | .slice (some ⟨id, off, none⟩) n _ =>
    if min s.size n = 0 then .ok (.int .i64 0, K) else do .ok (.int .i64 (min s.size n : Nat), ← K.write id off ((s.data.toList.map u8v).take (min s.size n * 1)))
  | _ => .error 88

theorem tail_bounds {n c : Nat} (h : n ≤ c) {m : Nat} (hm : m ≤ n) : aBounds n c (some (.int .i64 (m : Int))) none none = .ok (m, n, c) := by
  unfold aBounds optIn
  simp only [bind, Except.bind, Option.isNone_none, Option.isSome_none, Bool.and_false, Bool.false_eq_true, if_false, natIn_at (m := (m : Int)) (n := m) rfl (by omega) hm]
  rw [if_pos ⟨hm, h⟩]

theorem splice_tail {A Z B : List (Option Value)} (h : Z.length = B.length) : spliceL (A ++ Z) A.length B = A ++ B := by
  unfold spliceL
  rw [List.take_append_of_le_length (Nat.le_refl _), List.take_length, List.drop_eq_nil_of_le (by rw [List.length_append]; omega), List.append_nil]

theorem lay_mem (h : HInv e fr tk H) (hX : XC e H) {t u el : TypeId} (ht : P.underlying t = some (.slice el)) (hu : tZeros P (some u) = .ok true) (hs : tSize P el = .ok 1) (hb : tBytes P el = .ok 1) (hz : tZero P el = .ok [.int .u8 0])
    {l : List (List PV)} {k : Nat} {v : Value} (hl : RV e tk H true (.list 1 l (some k)) v) (hn : tk[k]? = some l.length) (s : ByteArray) (hbig : 5 * (l.length + s.size) + 768 ≤ 1125899906842624) (hs64 : s.size < 17179869184)
    {k0 id0 : Nat} {r0 : Row} (hi : e.rows[k0]? = some id0) (hg : H.get id0 = some (.row r0)) (hf0 : r0.fam = id0) :
    ∃ v' Hz e' Hv, aAppend P H t (some u) v (.int .i64 s.size) = .ok (v', Hz) ∧ Hz.get id0 = H.get id0 ∧ Step e tk H e' fr (tk.set k (l.length + s.size)) Hv ∧ e'.rows = e.rows ∧ RV e' (tk.set k (l.length + s.size)) Hv true (.list 1 (l ++ (strBytes s).map cI_u8) (some k)) v' ∧ Hv.get id0 = H.get id0 ∧
      ∀ X : Row, X.fam = id0 → ∃ vt H3, aSlice P (Hz.set id0 (.row X)) t v' (some (.int .i64 l.length)) none none = .ok vt ∧ layCopy (Hz.set id0 (.row X)) vt s = .ok (.int .i64 s.size, H3) ∧ AH.Same (Hv.set id0 (.row X)) H3 := by
  have hx : appended P H el true (.int .i64 s.size) = .ok (repeated [.int .u8 0] s.size, s.size) := by
    unfold appended
    simp only [hs, bind, Except.bind, if_true, hz]
    rw [if_pos ⟨by omega, by omega⟩]
    rfl
  have hmem : id0 ∈ e.rows := List.mem_of_getElem? hi
  have hlt0 : id0 < H.next := h.rlt hmem
  have hbl : (s.data.toList.map u8v).length = s.size := by rw [List.length_map, Array.length_toList]; rfl
  have hml : ((strBytes s).map cI_u8).length = s.size := by rw [List.length_map, strBytes_len]
  have hLies := lies_bytes (e := e) (tk := tk) (H := H) s
  have hzl : (repeated [Value.int .u8 0] s.size).length = s.size := by rw [repeated_length]; simp
  by_cases hm0 : s.size = 0
  · have hset : tk.set k (l.length + s.size) = tk := by
      rw [hm0, Nat.add_zero]
      apply List.ext_getElem?
      intro i
      by_cases e1 : i = k
      · subst e1; rw [List.getElem?_set_self (lt_of_get hn), hn]
      · rw [List.getElem?_set_ne (Ne.symm e1)]
    have hnil : (strBytes s).map cI_u8 = [] := List.eq_nil_of_length_eq_zero (by rw [hml, hm0])
    rw [hset, hnil, List.append_nil]
    have hx0 : appended P H el true (.int .i64 s.size) = .ok ([], 0) := by rw [hx, hm0]; rfl
    rcases lies_list hl with ⟨rfl, rfl⟩ | ⟨id, off, c, r, nw, rfl, hr, hc, he, htk, hli, hlen, ⟨n, hn1, hst⟩, hlink⟩
    · refine ⟨_, H, e, H, append_zero ht hu hs hb hx0 (.inl rfl), rfl, Step.refl h, rfl, hl, rfl, fun X hX0 => ⟨.slice none 0 0, _, ?_, ?_, AH.Same.refl _⟩⟩
      · have hbd : aBounds 0 0 (some (.int .i64 (([] : List (List PV)).length : Int))) none none = .ok (0, 0, 0) := tail_bounds (Nat.le_refl 0) (m := 0) (Nat.le_refl 0)
        unfold aSlice
        simp only [ht, bind, Except.bind, hbd, hs]
      · rw [hm0]; rfl
    · have hne : id ≠ id0 := fun e1 => hst.row (by rw [e1]; exact hmem)
      refine ⟨_, H, e, H, append_zero ht hu hs hb hx0 (.inr ⟨_, _, _, rfl, hc⟩), rfl, Step.refl h, rfl, hl, rfl, fun X hX0 => ⟨.slice (some ⟨id, off + l.length * 1, none⟩) (l.length - l.length) (c - l.length), _, ?_, ?_, AH.Same.refl _⟩⟩
      · have hrow : (H.set id0 (.row X)).row id = .ok r := by unfold AH.row; rw [AH.get_set, if_neg hne, hr]
        unfold aSlice
        simp only [ht, bind, Except.bind, tail_bounds hc (Nat.le_refl l.length), hs, hrow]
        rw [if_pos (.inl he)]
      · unfold layCopy
        simp only [hm0, Nat.zero_min, if_true]; rfl
  · have hmm : ∀ n, s.size ≤ n → min s.size n = s.size := fun n hn => Nat.min_eq_left hn
    have htake : (s.data.toList.map u8v).take (s.size * 1) = s.data.toList.map u8v := by rw [Nat.mul_one]; exact List.take_of_length_le (by rw [hbl]; exact Nat.le_refl _)
    rcases lies_list hl with ⟨rfl, rfl⟩ | ⟨id, off, c, r, nw, rfl, hr, hc, he, htk, hli, hlen, ⟨n, hn1, hst⟩, hlink⟩
    · cases hl with
      | lnil hlt =>
        obtain ⟨_, n, h1, h2⟩ := hlt k rfl
        have hn0 : n = 0 := by rw [h1] at hn; cases hn; rfl
        subst hn0
        obtain ⟨s1, s2⟩ := step_fill h hX (h2 rfl) h1 hLies (by rw [hml]; exact hm0) el
        rw [hml] at s1 s2
        have hbig0 : (5 * s.size + 768) * 1 ≤ 1125899906842624 := by rw [Nat.mul_one]; simpa using hbig
        have hq : ∀ q : Row, (H.push q).get id0 = H.get id0 := fun q => by rw [AH.get_push, if_neg (by omega)]
        refine ⟨.slice (some ⟨H.next, 0, none⟩) s.size s.size, H.push (newR el H.next 1 (repeated [.int .u8 0] s.size)), e.setTok k ⟨H.next, 0, 1⟩, H.push (newR el H.next 1 (s.data.toList.map u8v)), append_nil ht hu hs hb hz rfl rfl hx hm0 hbig0, hq _, ?_, rfl, ?_, hq _, fun X hX0 => ?_⟩
        · simpa using s1
        · simpa using s2
        · have hgn : ((H.push (newR el H.next 1 (repeated [.int .u8 0] s.size))).set id0 (.row X)).get H.next = some (.row (newR el H.next 1 (repeated [.int .u8 0] s.size))) := by
            rw [AH.get_set, if_neg (by omega), get_push_new]
          have hrow : ((H.push (newR el H.next 1 (repeated [.int .u8 0] s.size))).set id0 (.row X)).row H.next = .ok (newR el H.next 1 (repeated [.int .u8 0] s.size)) := by unfold AH.row; rw [hgn]
          refine ⟨.slice (some ⟨H.next, 0 + 0 * 1, none⟩) (s.size - 0) (s.size - 0), (((H.push (newR el H.next 1 (repeated [.int .u8 0] s.size))).set id0 (.row X)).set H.next (.row ((newR el H.next 1 (repeated [.int .u8 0] s.size)).over 0 (s.data.toList.map u8v)))), ?_, ?_, ?_⟩
          · have hbd : aBounds s.size s.size (some (.int .i64 (([] : List (List PV)).length : Int))) none none = .ok (0, s.size, s.size) := tail_bounds (Nat.le_refl _) (m := 0) (Nat.zero_le _)
            unfold aSlice
            simp only [ht, bind, Except.bind, hbd, hs, hrow]
            rw [if_pos (.inl rfl)]
          · unfold layCopy
            simp only [Nat.sub_zero, Nat.min_self, if_neg hm0, Nat.zero_mul, Nat.add_zero, htake]
            rw [write_solo hgn rfl rfl (Lies.plain hLies) (by show 0 + _ ≤ (List.map some _).length; rw [hbl, List.length_map, hzl]; omega)]
            rfl
          · refine ⟨fun j => ?_, rfl⟩
            rw [AH.get_set, AH.get_set, AH.get_set, AH.get_push, AH.get_push]
            by_cases ej : j = H.next
            · rw [if_pos ej, if_neg (by omega), if_pos ej]
              have e2 : spliceL ((repeated [Value.int .u8 0] s.size).map some) 0 ((s.data.toList.map u8v).map some) = (s.data.toList.map u8v).map some := splice_tail (A := []) (by simp only [List.length_map]; rw [hzl]; exact hbl.symm.trans (by rw [List.length_map]))
              simp only [newR, Row.over, e2]
            · rw [if_neg ej, if_neg ej, if_neg ej]
    · obtain ⟨n', h1, h2, h3⟩ := hlink k rfl
      have hn' : n' = l.length := by rw [h1] at hn; cases hn; rfl
      subst hn'
      obtain ⟨τ, k1, k2, k3, k4, k5, k6⟩ := h3 rfl
      subst k6
      have hD := Dim.readied (H := H) (id := id) (lo := r.disp + off + l.length * 1) (n := (repeated [Value.int .u8 0] s.size).length) hr
      generalize hH1 : H.readied id r (r.disp + off + l.length * 1) (repeated [Value.int .u8 0] s.size).length = H1 at hD
      have hD2 := hD.blur (hi := r.disp + off + l.length * 1 + s.size)
      obtain ⟨s1, s2, s3⟩ := step_grow' h hX hl h1 hr k1 k2 k3 k4 hLies (by rw [hml]; exact hm0) hD2
      rw [hml] at s1 s2
      have hfne : r0.fam ≠ r.fam := fun e1 => h.tfr k τ k1 (by rw [← k2, ← e1, hf0]; exact hmem)
      have hH10 : H1.get id0 = H.get id0 := by
        obtain ⟨r', q1, q2, q3, q4⟩ := hD.row id0 r0 hg
        rw [q1, q3 hfne, hg]
      have hAl : ((r.cells.drop off).take (l.length * 1)).length = l.length := by rw [List.length_take, List.length_drop, Nat.mul_one]; omega
      have hap := append_own (P := P) (t := t) (u := u) (el := el) (sz := 1) (bytes := 1) (id := id) (off := off) (n := l.length) (m := s.size) (H := H) (x := .int .i64 s.size) (r := r) ht hu hs hb hz rfl rfl hr k5 he hlen hx hm0 (by rw [Nat.mul_one]; exact hbig) (zeros_plain _)
      rw [hH1] at hap
      refine ⟨_, _, e, _, hap, ?_, s1, rfl, s2, s3 _ _ hi, fun X hX0 => ?_⟩
      · rw [AH.get_push, if_neg (by rw [hD.nx]; omega), hH10]
      · have hgn : ((H1.push (growR r off l.length 1 (repeated [.int .u8 0] s.size))).set id0 (.row X)).get H.next = some (.row (growR r off l.length 1 (repeated [.int .u8 0] s.size))) := by
          rw [AH.get_set, if_neg (by omega), AH.get_push, if_pos hD.nx.symm]
        have hrow : ((H1.push (growR r off l.length 1 (repeated [.int .u8 0] s.size))).set id0 (.row X)).row H.next = .ok (growR r off l.length 1 (repeated [.int .u8 0] s.size)) := by unfold AH.row; rw [hgn]
        refine ⟨.slice (some ⟨H.next, 0 + l.length * 1, none⟩) (l.length + s.size - l.length) (l.length + s.size - l.length), ((((H1.push (growR r off l.length 1 (repeated [.int .u8 0] s.size))).set id0 (.row X)).blur r.fam (r.disp + off + l.length * 1) (r.disp + off + l.length * 1 + s.size)).set H.next (.row { (growR r off l.length 1 (repeated [.int .u8 0] s.size)) with cells := spliceL (growR r off l.length 1 (repeated [.int .u8 0] s.size)).cells (0 + l.length * 1) ((s.data.toList.map u8v).map some) })), ?_, ?_, ?_⟩
        · unfold aSlice
          simp only [ht, bind, Except.bind, tail_bounds (Nat.le_refl _) (Nat.le_add_right l.length s.size), hs, hrow]
          rw [if_pos (.inl rfl)]
        · unfold layCopy
          simp only [Nat.add_sub_cancel_left, Nat.min_self, if_neg hm0, htake]
          unfold AH.write
          have hnro : (growR r off l.length 1 (repeated [.int .u8 0] s.size)).ro = false := rfl
          have hnso : (growR r off l.length 1 (repeated [.int .u8 0] s.size)).solo = false := rfl
          simp only [hrow, bind, Except.bind, hnro, hnso, Bool.false_eq_true, if_false, Lies.plain hLies, Bool.not_true]
          rw [if_pos (by show 0 + l.length * 1 + _ ≤ (((r.cells.drop off).take (l.length * 1)) ++ _).length; rw [List.length_append, hAl, hbl, List.length_map, hzl]; omega)]
          rw [hbl]
          have e3 : (growR r off l.length 1 (repeated [Value.int .u8 0] s.size)).disp + (0 + l.length * 1) = r.disp + off + l.length * 1 := by show r.disp + off + _ = _; omega
          rw [e3]
          rfl
        · refine ⟨fun j => ?_, rfl⟩
          rw [AH.get_set, AH.get_set, AH.get_blur, AH.get_set, AH.get_push, AH.get_push]
          have hb1 : (H1.blur r.fam (r.disp + off + l.length * 1) (r.disp + off + l.length * 1 + s.size)).next = H.next := hD2.nx
          rw [hb1, hD.nx]
          by_cases ej : j = H.next
          · rw [if_pos ej, if_neg (by omega), if_pos ej]
            have e2 : spliceL (growR r off l.length 1 (repeated [Value.int .u8 0] s.size)).cells (0 + l.length * 1) ((s.data.toList.map u8v).map some) = (growR r off l.length 1 (s.data.toList.map u8v)).cells := by
              have := splice_tail (A := (r.cells.drop off).take (l.length * 1)) (Z := (repeated [Value.int .u8 0] s.size).map some) (B := (s.data.toList.map u8v).map some) (by rw [List.length_map, List.length_map, hzl, hbl])
              rw [hAl] at this
              rw [Nat.zero_add, Nat.mul_one]
              simpa only [growR, Nat.mul_one] using this
            rw [e2]; rfl
          · rw [if_neg ej, if_neg ej]
            by_cases e0 : j = id0
            · rw [if_pos e0, if_pos e0]
              simp only [Option.map_some, AO.blur]
              rw [if_neg (fun e1 => hfne (by rw [hf0, ← hX0, e1]))]
            · rw [if_neg e0, if_neg e0, if_neg ej, AH.get_blur]

/-! ### The walk -/
structure KA (a : AAct) (n : Nat) (g : Nat → Option Value) : Prop where
  n : a.n = n
  ms : a.marks = []
  tm : ∀ t v, g t = some v → a.tm.get t = some v
theorem KA.put {a : AAct} {n : Nat} {g : Nat → Option Value} (h : KA a n g) {d : Nat} (hd : Nat.ble (Nat.succ d) n = true) (hn : Nat.ble n 281474976710654 = true) (v : Value) : KA (a.upd (some d) v) n (fun t => if t = d then some v else g t) :=
  ⟨h.n, h.ms, fun t w hw => by
    rw [Nat.ble_eq] at hd hn
    show (T.put AH.top a.tm d v).get t = _
    rw [show (T.put AH.top a.tm d v).get t = if t = d then some v else a.tm.get t from T.get_put 48 _ _ _ _ (by have : 2 ^ 48 = 281474976710656 := rfl; omega)]
    replace hw : (if t = d then some v else g t) = some w := hw
    split at hw
    · rename_i e1; rw [if_pos e1]; exact hw
    · rename_i e1; rw [if_neg e1]; exact h.tm t w hw⟩
theorem KA.can {a : AAct} {n : Nat} {g : Nat → Option Value} (h : KA a n g) {d : Nat} (hd : Nat.ble (Nat.succ d) n = true) (hn : Nat.ble n 281474976710654 = true) : a.can (some d) = true := by
  unfold AAct.can
  simp only [h.n, hd]
  exact hn
theorem KA.eval {a : AAct} {n : Nat} {g : Nat → Option Value} (h : KA a n g) {t : Nat} {v : Value} (hv : g t = some v) : a.eval (.tmp t) = .ok v := AAct.ev_eval (h.tm t v hv)

/-- one operation, where what it tells is known -/
theorem WO.ka {rnd : Option Nat} {all os : List Oper} {a : AAct} {H H1 : AH} {Q : AAct → AH → Prop} {n : Nat} {g : Nat → Option Value} (h : KA a n g) {d : Nat} {op : Op} {ty : TypeId} {pst : String} {af : Array Edge} {v : Value}
    (ho : aOp P (oRun P O 0) a H ⟨some d, op, ty, pst, af, none⟩ = .ok (v, H1)) (hdef : deferOf op = none) (hd : Nat.ble (Nat.succ d) n = true) (hn : Nat.ble n 281474976710654 = true) (k : ∀ a', KA a' n (fun t => if t = d then some v else g t) → WO P O rnd all os a' H1 Q) :
    WO P O rnd all (⟨some d, op, ty, pst, af, none⟩ :: os) a H Q :=
  WO.one (wanted_free rfl) hdef ⟨0, ho⟩ (h.can hd hn) (k _ (h.put hd hn v))


/-- the code of lay: room is made, the field is set, the text is copied -/
theorem lay_pc {rnd : Option Nat} {i1 i2 : Nat} {z : Code} {s : PS} {Q : AX → PS → Prop} {tW tS tT tI el : TypeId} {fds : Array Field} {fd : Field} {ez : Nat} {l : List (List PV)} {x : ByteArray}
    {y1 : TypeId} {p1 : String} {f1 : Array Edge} {y2 : TypeId} {p2 : String} {f2 : Array Edge} {y3 : TypeId} {p3 : String} {f3 : Array Edge} {y4 : TypeId} {p4 : String} {f4 : Array Edge} {y5 : TypeId} {p5 : String} {f5 : Array Edge} {y6 : TypeId} {p6 : String} {f6 : Array Edge} {y7 : TypeId} {p7 : String} {f7 : Array Edge} {y8 : TypeId} {p8 : String} {f8 : Array Edge} {y9 : TypeId} {p9 : String} {f9 : Array Edge} {y10 : TypeId} {p10 : String} {f10 : Array Edge} {y11 : TypeId} {p11 : String} {f11 : Array Edge} {y12 : TypeId} {p12 : String} {f12 : Array Edge} {y13 : TypeId} {p13 : String} {f13 : Array Edge} {y14 : TypeId} {p14 : String} {f14 : Array Edge} {y15 : TypeId} {p15 : String} {f15 : Array Edge} {y16 : TypeId} {p16 : String} {f16 : Array Edge} {y17 : TypeId} {p17 : String} {f17 : Array Edge} {y18 : TypeId} {p18 : String} {f18 : Array Edge} {y19 : TypeId} {p19 : String} {f19 : Array Edge}
    (hW : P.underlying tW = some (.struct fds)) (hfd : fds[0]? = some fd) (hfo : fd.offset = 0) (hfs : tSize P fd.type = .ok 1) (hS : P.underlying tS = some (.slice el)) (hSs : tSize P tS = .ok 1) (hSa : tAgg P tS = .ok false) (hT : P.underlying tT = some .string) (hI : tZeros P (some tI) = .ok true)
    (hs : tSize P el = .ok 1) (hb : tBytes P el = .ok 1) (hz : tZero P el = .ok [.int .u8 0])
    (hfr : s.fr = [⟨ez, [.list 1 l (some 0)]⟩]) (htk : s.tk = [l.length]) (hms : s.ms = []) (hn0 : Nat.ble 28 s.n = true) (hn1 : Nat.ble s.n 281474976710654 = true)
    (h0 : s.tm.get 0 = some (.ptr 0 0)) (h1 : s.tm.get 1 = some (.val (.string x))) (h4 : s.tm.get 4 = some (.val (.int .i64 (l.length : Int))))
    (hbig : 5 * (l.length + x.size) + 768 ≤ 1125899906842624) (hs64 : x.size < 17179869184)
    (hQ : PC P O rnd z ⟨.nil, s.n, [⟨ez, [.list 1 (l ++ (strBytes x).map cI_u8) (some 0)]⟩], [l.length + x.size], s.r0, s.t0, []⟩ Q) :
    PC P O rnd (.seq (.region i1 #[⟨some 10, .move (.tmp 0), y1, p1, f1, none⟩, ⟨some 11, .move (.tmp 0), y2, p2, f2, none⟩, ⟨some 12, .nilCheck (.tmp 11), y3, p3, f3, none⟩, ⟨some 13, .fieldAddr tW (.tmp 12) 0, y4, p4, f4, none⟩, ⟨some 14, .load tS (.tmp 13), y5, p5, f5, none⟩, ⟨some 15, .move (.tmp 1), y6, p6, f6, none⟩, ⟨some 16, .call ⟨.builtin .len, #[.tmp 15], #[tT]⟩, y7, p7, f7, none⟩, ⟨some 17, .call ⟨.builtin .append, #[.tmp 14, .tmp 16], #[tS, tI]⟩, y8, p8, f8, none⟩, ⟨some 18, .nilCheck (.tmp 10), y9, p9, f9, none⟩, ⟨some 19, .fieldAddr tW (.tmp 18) 0, y10, p10, f10, none⟩, ⟨none, .store tS (.tmp 19) (.tmp 17), y11, p11, f11, none⟩] false) (.seq (.region i2 #[⟨some 20, .move (.tmp 0), y12, p12, f12, none⟩, ⟨some 21, .nilCheck (.tmp 20), y13, p13, f13, none⟩, ⟨some 22, .fieldAddr tW (.tmp 21) 0, y14, p14, f14, none⟩, ⟨some 23, .load tS (.tmp 22), y15, p15, f15, none⟩, ⟨some 24, .move (.tmp 4), y16, p16, f16, none⟩, ⟨some 25, .slice tS (.tmp 23) (some (.tmp 24)) none none, y17, p17, f17, none⟩, ⟨some 26, .move (.tmp 1), y18, p18, f18, none⟩, ⟨some 27, .call ⟨.builtin .copy, #[.tmp 25, .tmp 26], #[tS, tT]⟩, y19, p19, f19, none⟩] false) z)) s Q := by
  intro C e a H hR hX
  obtain ⟨u0, q0, r0⟩ := hR.tm 0 _ h0
  obtain ⟨u1, q1, r1⟩ := hR.tm 1 _ h1
  obtain ⟨u4, q4, r4⟩ := hR.tm 4 _ h4
  have e1 := r1.bool_inv; subst e1
  have e4 := r4.bool_inv; subst e4
  cases r0 with
  | @ptr _ _ id hk =>
  have hI0 := hR.h.inv
  rw [hfr, htk] at hI0
  obtain ⟨r, vs, k2, k3, k4, k5, k6, k7, k8⟩ := hI0.row 0 id _ hk rfl
  obtain ⟨v, vs', rfl, hv, hv'⟩ := k8.cases_cons
  have := hv'.cases_nil; subst this
  have hmark := hR.marks
  rw [hms] at hmark
  have K0 : KA a s.n (fun t => if t = 0 then some (.pointer (some ⟨id, 0, none⟩)) else if t = 1 then some (.string x) else if t = 4 then some (.int .i64 (l.length : Int)) else none) := ⟨hR.n, hmark.none, fun t w hw => by
    replace hw : (if t = 0 then some (Value.pointer (some ⟨id, 0, none⟩)) else if t = 1 then some (.string x) else if t = 4 then some (.int .i64 (l.length : Int)) else none) = some w := hw
    split at hw
    · rename_i e1; subst e1; cases hw; exact q0
    · split at hw
      · rename_i e1; subst e1; cases hw; exact q1
      · split at hw
        · rename_i e1; subst e1; cases hw; exact q4
        · cases hw⟩
  obtain ⟨v', Hz, e', Hv, m1, m2, m3, m4, m5, m6, m7⟩ := lay_mem hI0 hR.h.xc hS hI hs hb hz hv (k := 0) rfl x hbig hs64 hk k2 k6
  have hrow : H.row id = .ok r := by unfold AH.row; rw [k2]
  have hpl : plainCell v' = true := plain_of m5 rfl
  have hv'c : v'.cells = #[v'] := by
    cases v' with
    | agg cs => cases hpl
    | tuple cs => cases hpl
    | _ => rfl
  have hnd : ∀ d, d < 28 → Nat.ble (Nat.succ d) s.n = true := fun d hd => by rw [Nat.ble_eq] at hn0 ⊢; omega
  refine WC.region ?_
  have K := K0
  refine WO.ka K (d := 10) (v := .pointer (some ⟨id, 0, none⟩)) (by simp only [aOp, allR, bind, Except.bind, K.eval (t := 0) (v := .pointer (some ⟨id, 0, none⟩)) rfl] <;> rfl) rfl (hnd 10 (by omega)) hn1 fun a K => ?_
  refine WO.ka K (d := 11) (v := .pointer (some ⟨id, 0, none⟩)) (by simp only [aOp, allR, bind, Except.bind, K.eval (t := 0) (v := .pointer (some ⟨id, 0, none⟩)) rfl] <;> rfl) rfl (hnd 11 (by omega)) hn1 fun a K => ?_
  refine WO.ka K (d := 12) (v := .pointer (some ⟨id, 0, none⟩)) (by simp only [aOp, allR, bind, Except.bind, K.eval (t := 11) (v := .pointer (some ⟨id, 0, none⟩)) rfl] <;> rfl) rfl (hnd 12 (by omega)) hn1 fun a K => ?_
  refine WO.ka K (d := 13) (v := .pointer (some ⟨id, 0, none⟩)) (by simp only [aOp, allR, bind, Except.bind, hW, hfd, addrOf, K.eval (t := 12) (v := .pointer (some ⟨id, 0, none⟩)) rfl, hfs, hfo] <;> rfl) rfl (hnd 13 (by omega)) hn1 fun a K => ?_
  refine WO.ka K (d := 14) (v := v) (by simp only [aOp, allR, bind, Except.bind, addrOf, aLoad, hrow, hSa, k7, K.eval (t := 13) (v := .pointer (some ⟨id, 0, none⟩)) rfl] <;> rfl) rfl (hnd 14 (by omega)) hn1 fun a K => ?_
  refine WO.ka K (d := 15) (v := .string x) (by simp only [aOp, allR, bind, Except.bind, K.eval (t := 1) (v := .string x) rfl] <;> rfl) rfl (hnd 15 (by omega)) hn1 fun a K => ?_
  refine WO.ka K (d := 16) (v := .int .i64 (x.size : Int)) (by simp only [aOp, allR, bind, Except.bind, aLen, hT, K.eval (t := 15) (v := .string x) rfl] <;> rfl) rfl (hnd 16 (by omega)) hn1 fun a K => ?_
  refine WO.ka K (d := 17) (v := v') (by simp only [aOp, allR, bind, Except.bind, m1, K.eval (t := 14) (v := v) rfl, K.eval (t := 16) (v := .int .i64 (x.size : Int)) rfl] <;> rfl) rfl (hnd 17 (by omega)) hn1 fun a K => ?_
  refine WO.ka K (d := 18) (v := .pointer (some ⟨id, 0, none⟩)) (by simp only [aOp, allR, bind, Except.bind, K.eval (t := 10) (v := .pointer (some ⟨id, 0, none⟩)) rfl] <;> rfl) rfl (hnd 18 (by omega)) hn1 fun a K => ?_
  refine WO.ka K (d := 19) (v := .pointer (some ⟨id, 0, none⟩)) (by simp only [aOp, allR, bind, Except.bind, hW, hfd, addrOf, K.eval (t := 18) (v := .pointer (some ⟨id, 0, none⟩)) rfl, hfs, hfo] <;> rfl) rfl (hnd 19 (by omega)) hn1 fun a K => ?_
  have hzr : Hz.get id = some (.row r) := m2.trans k2
  have hw := write_solo (H := Hz) (id := id) (off := 0) (r := r) (vs := [v']) hzr k4 k3 (by rw [List.all_cons, hpl]; rfl) (by rw [k7]; exact Nat.le_refl _)
  have hov : r.over 0 [v'] = { r with cells := [some v'] } := by unfold Row.over; rw [k7]; rfl
  rw [hov] at hw
  refine WO.one (wanted_free rfl) rfl (v := undef) (H1 := Hz.set id (.row { r with cells := [some v'] })) ⟨0, by simp only [aOp, bind, Except.bind, addrOf, K.eval (t := 19) (v := .pointer (some ⟨id, 0, none⟩)) rfl, K.eval (t := 17) (v := v') rfl, hv'c, hSs]; rw [if_pos (show #[v'].size = 1 from rfl)]; simp only [hw]⟩ rfl ?_
  replace K : KA (a.upd none undef) _ _ := K
  obtain ⟨vt, H3, n1, n2, n3⟩ := m7 { r with cells := [some v'] } k6
  have hzrow : (Hz.set id (.row { r with cells := [some v'] })).row id = .ok { r with cells := [some v'] } := by unfold AH.row; rw [AH.get_set, if_pos rfl]
  refine WO.nil ?_
  refine WC.region ?_
  refine WO.ka K (d := 20) (v := .pointer (some ⟨id, 0, none⟩)) (by simp only [aOp, allR, bind, Except.bind, K.eval (t := 0) (v := .pointer (some ⟨id, 0, none⟩)) rfl] <;> rfl) rfl (hnd 20 (by omega)) hn1 fun a K => ?_
  refine WO.ka K (d := 21) (v := .pointer (some ⟨id, 0, none⟩)) (by simp only [aOp, allR, bind, Except.bind, K.eval (t := 20) (v := .pointer (some ⟨id, 0, none⟩)) rfl] <;> rfl) rfl (hnd 21 (by omega)) hn1 fun a K => ?_
  refine WO.ka K (d := 22) (v := .pointer (some ⟨id, 0, none⟩)) (by simp only [aOp, allR, bind, Except.bind, hW, hfd, addrOf, K.eval (t := 21) (v := .pointer (some ⟨id, 0, none⟩)) rfl, hfs, hfo] <;> rfl) rfl (hnd 22 (by omega)) hn1 fun a K => ?_
  refine WO.ka K (d := 23) (v := v') (by simp only [aOp, allR, bind, Except.bind, addrOf, aLoad, hzrow, hSa, K.eval (t := 22) (v := .pointer (some ⟨id, 0, none⟩)) rfl] <;> rfl) rfl (hnd 23 (by omega)) hn1 fun a K => ?_
  refine WO.ka K (d := 24) (v := .int .i64 (l.length : Int)) (by simp only [aOp, allR, bind, Except.bind, K.eval (t := 4) (v := .int .i64 (l.length : Int)) rfl] <;> rfl) rfl (hnd 24 (by omega)) hn1 fun a K => ?_
  refine WO.ka K (d := 25) (v := vt) (by simp only [aOp, allR, bind, Except.bind, n1, K.eval (t := 23) (v := v') rfl, K.eval (t := 24) (v := .int .i64 (l.length : Int)) rfl] <;> rfl) rfl (hnd 25 (by omega)) hn1 fun a K => ?_
  refine WO.ka K (d := 26) (v := .string x) (by simp only [aOp, allR, bind, Except.bind, K.eval (t := 1) (v := .string x) rfl] <;> rfl) rfl (hnd 26 (by omega)) hn1 fun a K => ?_
  have hcp : appended P (Hz.set id (.row { r with cells := [some v'] })) el false (.string x) = .ok (x.data.toList.map u8v, x.size) := by
    unfold appended
    simp only [hs, bind, Except.bind, Bool.false_eq_true, if_false, if_true]
  refine WO.ka K (d := 27) (v := .int .i64 (x.size : Int)) (by simp only [aOp, allR, bind, Except.bind, hS, hs, hcp, K.eval (t := 25) (v := vt) rfl, K.eval (t := 26) (v := .string x) rfl] <;> exact n2) rfl (hnd 27 (by omega)) hn1 fun a K => ?_
  refine WO.nil ?_
  have st1 := m3
  have hk' : e'.rows[0]? = some id := by rw [m4]; exact hk
  have hset0 : ([l.length] : List Nat).set 0 (l.length + x.size) = [l.length + x.size] := rfl
  rw [hset0] at m3 m5
  have st2 := step_set m3.inv hk' (R := ⟨ez, [.list 1 l (some 0)]⟩) rfl (m6.trans k2) (L2.cons m5 L2.nil)
  have hR1 := hR.h
  rw [hfr, htk] at hR1
  have hRH := (hR1.step m3).step (st2.same n3)
  exact hQ C e' a H3 ⟨hRH, K.n, MarksR.nil K.ms, hR.r0, hR.t0, fun t p hp => by rw [show (T.nil : T PV).get t = none from rfl] at hp; cases hp⟩ hX

theorem lay_typed {rnd : Option Nat} {i1 i2 : Nat} {z : Code} {s : PS} {Q : AX → PS → Prop} {tW tS tT tI el : TypeId} {fds : Array Field} {fd : Field} {ez : Nat} {L L2 : List Int} {x : ByteArray}
    {y1 : TypeId} {p1 : String} {f1 : Array Edge} {y2 : TypeId} {p2 : String} {f2 : Array Edge} {y3 : TypeId} {p3 : String} {f3 : Array Edge} {y4 : TypeId} {p4 : String} {f4 : Array Edge} {y5 : TypeId} {p5 : String} {f5 : Array Edge} {y6 : TypeId} {p6 : String} {f6 : Array Edge} {y7 : TypeId} {p7 : String} {f7 : Array Edge} {y8 : TypeId} {p8 : String} {f8 : Array Edge} {y9 : TypeId} {p9 : String} {f9 : Array Edge} {y10 : TypeId} {p10 : String} {f10 : Array Edge} {y11 : TypeId} {p11 : String} {f11 : Array Edge} {y12 : TypeId} {p12 : String} {f12 : Array Edge} {y13 : TypeId} {p13 : String} {f13 : Array Edge} {y14 : TypeId} {p14 : String} {f14 : Array Edge} {y15 : TypeId} {p15 : String} {f15 : Array Edge} {y16 : TypeId} {p16 : String} {f16 : Array Edge} {y17 : TypeId} {p17 : String} {f17 : Array Edge} {y18 : TypeId} {p18 : String} {f18 : Array Edge} {y19 : TypeId} {p19 : String} {f19 : Array Edge}
    (hL : L ++ strBytes x = L2) (hW : P.underlying tW = some (.struct fds)) (hfd : fds[0]? = some fd) (hfo : fd.offset = 0) (hfs : tSize P fd.type = .ok 1) (hS : P.underlying tS = some (.slice el)) (hSs : tSize P tS = .ok 1) (hSa : tAgg P tS = .ok false) (hT : P.underlying tT = some .string) (hI : tZeros P (some tI) = .ok true)
    (hs : tSize P el = .ok 1) (hb : tBytes P el = .ok 1) (hz : tZero P el = .ok [.int .u8 0])
    (hfr : s.fr = [⟨ez, [.list 1 (List.map cI_u8 L) (some 0)]⟩]) (htk : s.tk = [L.length]) (hms : s.ms = []) (hn0 : Nat.ble 28 s.n = true) (hn1 : Nat.ble s.n 281474976710654 = true)
    (h0 : s.tm.get 0 = some (.ptr 0 0)) (h1 : s.tm.get 1 = some (.val (.string x))) (h4 : s.tm.get 4 = some (.val (.int .i64 (L.length : Int))))
    (hbig : 5 * (L.length + x.size) + 768 ≤ 1125899906842624) (hs64 : x.size < 17179869184)
    (hQ : PC P O rnd z ⟨.nil, s.n, [⟨ez, [.list 1 (List.map cI_u8 L2) (some 0)]⟩], [L2.length], s.r0, s.t0, []⟩ Q) :
    PC P O rnd (.seq (.region i1 #[⟨some 10, .move (.tmp 0), y1, p1, f1, none⟩, ⟨some 11, .move (.tmp 0), y2, p2, f2, none⟩, ⟨some 12, .nilCheck (.tmp 11), y3, p3, f3, none⟩, ⟨some 13, .fieldAddr tW (.tmp 12) 0, y4, p4, f4, none⟩, ⟨some 14, .load tS (.tmp 13), y5, p5, f5, none⟩, ⟨some 15, .move (.tmp 1), y6, p6, f6, none⟩, ⟨some 16, .call ⟨.builtin .len, #[.tmp 15], #[tT]⟩, y7, p7, f7, none⟩, ⟨some 17, .call ⟨.builtin .append, #[.tmp 14, .tmp 16], #[tS, tI]⟩, y8, p8, f8, none⟩, ⟨some 18, .nilCheck (.tmp 10), y9, p9, f9, none⟩, ⟨some 19, .fieldAddr tW (.tmp 18) 0, y10, p10, f10, none⟩, ⟨none, .store tS (.tmp 19) (.tmp 17), y11, p11, f11, none⟩] false) (.seq (.region i2 #[⟨some 20, .move (.tmp 0), y12, p12, f12, none⟩, ⟨some 21, .nilCheck (.tmp 20), y13, p13, f13, none⟩, ⟨some 22, .fieldAddr tW (.tmp 21) 0, y14, p14, f14, none⟩, ⟨some 23, .load tS (.tmp 22), y15, p15, f15, none⟩, ⟨some 24, .move (.tmp 4), y16, p16, f16, none⟩, ⟨some 25, .slice tS (.tmp 23) (some (.tmp 24)) none none, y17, p17, f17, none⟩, ⟨some 26, .move (.tmp 1), y18, p18, f18, none⟩, ⟨some 27, .call ⟨.builtin .copy, #[.tmp 25, .tmp 26], #[tS, tT]⟩, y19, p19, f19, none⟩] false) z)) s Q := by
  subst hL
  have hm : (List.map cI_u8 L).length = L.length := List.length_map _
  refine lay_pc (l := List.map cI_u8 L) hW hfd hfo hfs hS hSs hSa hT hI hs hb hz hfr (by rw [hm]; exact htk) hms hn0 hn1 h0 h1 (by rw [hm]; exact h4) (by rw [hm]; exact hbig) hs64 ?_
  rw [hm]
  rw [List.map_append, List.length_append, strBytes_len] at hQ
  exact hQ

/-- the room that a text needs -/
def bindLay {β : Type} (L : List Int) (x : ByteArray) (f : List Int → Option β) : Option β := if 5 * (L.length + x.size) + 768 ≤ 1125899906842624 ∧ x.size < 17179869184 then f (L ++ strBytes x) else none
theorem bindLayK {β : Type} {L : List Int} {x : ByteArray} {f : List Int → Option β} {r : β} {p : Prop} (h : bindLay L x f = some r) (k : 5 * (L.length + x.size) + 768 ≤ 1125899906842624 → x.size < 17179869184 → f (L ++ strBytes x) = some r → p) : p := by
  unfold bindLay at h
  split at h
  · rename_i h1; exact k h1.1 h1.2 h
  · cases h
end
end Go.Eng
