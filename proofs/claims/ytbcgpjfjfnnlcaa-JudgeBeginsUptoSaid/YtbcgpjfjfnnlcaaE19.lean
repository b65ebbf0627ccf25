/-
  The same abstract machine, laid out for the kernel: each operation a constant of its own.
-/
import Derived.Test.YtbcgpjfjfnnlcaaE20
set_option linter.unusedVariables false
set_option linter.unusedSimpArgs false
namespace Go.Eng
noncomputable section

def R.bd {α β : Type} (x : R α) (f : α → R β) : R β := Except.rec (motive := fun _ => R β) (fun e => .error e) f x
local instance (priority := high) instBd : Bind (Except Nat) := ⟨R.bd⟩

theorem instBd_eq {α β : Type} (x : R α) (f : α → R β) : @Bind.bind R instBd α β x f = @Bind.bind R (@Monad.toBind R Except.instMonad) α β x f := by cases x <;> rfl

theorem bd_eq {α β : Type} (x : R α) (f : α → R β) : R.bd x f = Except.bind x f := by cases x <;> rfl

def fEval (a : AAct) (o : Operand) : R Value :=
  match o with
  | .tmp t => Option.rec (motive := fun _ => R Value) (.ok undef) (fun v => .ok v) (a.tm.get t)
  | .const v => pick (gnd gd v) (.ok v) (.error 12)
  | o => a.eval o

theorem fEval_eq (a : AAct) (o : Operand) : fEval a o = a.eval o := by
  cases o with
  | tmp t => simp only [fEval, AAct.eval]; cases a.tm.get t <;> rfl
  | const v => simp only [fEval, AAct.eval, pick]; cases gnd gd v <;> rfl
  | _ => rfl

theorem fEval_fun (a : AAct) : fEval a = a.eval := funext (fEval_eq a)

def fRow (H : AH) (id : Nat) : R Row :=
  Option.rec (motive := fun _ => R Row) (.error 2) (fun o => AO.rec (motive := fun _ => R Row) (fun _ _ => .error 2) (fun r => .ok r) (fun _ => .error 2) (fun _ => .error 2) (fun _ _ => .error 2) (fun _ => .error 2) o) (T.get H.objs id)

theorem fRow_eq (H : AH) (id : Nat) : fRow H id = H.row id := by
  unfold fRow AH.row AH.get
  cases T.get H.objs id with
  | none => rfl
  | some o => cases o <;> rfl

/-- is a list so long? -/
def fGe {α : Type} (l : List α) : Nat → Bool :=
  List.rec (motive := fun _ => Nat → Bool) (fun k => Nat.beq k (nat_lit 0)) (fun _ _ ih k => Nat.rec (motive := fun _ => Bool) true (fun n _ => ih n) k) l

theorem fGe_eq {α : Type} : ∀ (l : List α) (k : Nat), fGe l k = decide (k ≤ l.length)
  | [], k => by
    show Nat.beq k 0 = _
    cases k <;> rfl
  | _ :: l, 0 => by
    show true = _
    simp
  | _ :: l, k + 1 => by
    show fGe l k = _
    rw [fGe_eq l k]
    simp

def fLen {α : Type} (l : List α) : Nat := List.rec (motive := fun _ => Nat) (nat_lit 0) (fun _ _ n => Nat.succ n) l
theorem fLen_eq {α : Type} : ∀ (l : List α), fLen l = l.length
  | [] => rfl
  | _ :: l => by show Nat.succ (fLen l) = _; rw [fLen_eq l]; rfl

def fAll {α : Type} (f : α → Bool) (l : List α) : Bool := List.rec (motive := fun _ => Bool) true (fun x _ b => Bool.rec (motive := fun _ => Bool) false b (f x)) l
theorem fAll_eq {α : Type} (f : α → Bool) : ∀ (l : List α), fAll f l = l.all f
  | [] => rfl
  | x :: l => by
    have h : fAll f (x :: l) = Bool.rec (motive := fun _ => Bool) false (fAll f l) (f x) := rfl
    rw [h, fAll_eq f l, List.all_cons]
    cases f x <;> rfl

def fSplice (l : List (Option Value)) : Nat → List Value → List (Option Value) :=
  List.rec (motive := fun _ => Nat → List Value → List (Option Value)) (fun _ _ => [])
    (fun c l ih off vs => Nat.rec (motive := fun _ => List (Option Value)) (List.rec (motive := fun _ => List (Option Value)) (c :: l) (fun v vs _ => some v :: ih (nat_lit 0) vs) vs) (fun n _ => c :: ih n vs) off) l

theorem fSplice_eq : ∀ (l : List (Option Value)) (off : Nat) (vs : List Value), off + vs.length ≤ l.length → fSplice l off vs = spliceL l off (vs.map some)
  | [], off, vs, h => by
    have h1 : off = 0 := by simp at h; omega
    have h2 : vs = [] := by cases vs with
      | nil => rfl
      | cons v vs => simp at h
    subst h1; subst h2; rfl
  | c :: l, 0, [], h => by simp [spliceL]; rfl
  | c :: l, 0, v :: vs, h => by
    have e : fSplice (c :: l) 0 (v :: vs) = some v :: fSplice l 0 vs := rfl
    rw [e, fSplice_eq l 0 vs (by simpa using h)]
    simp [spliceL]
  | c :: l, off + 1, vs, h => by
    have e : fSplice (c :: l) (off + 1) vs = c :: fSplice l off vs := rfl
    rw [e, fSplice_eq l off vs (by simp at h; omega)]
    simp [spliceL, Nat.add_right_comm]

def fWriteR (H : AH) (id off : Nat) (vs : List Value) (r : Row) : R AH :=
  match r with
  | ⟨cells, ty, fam, disp, esz, ro, solo⟩ =>
    pick ro (.error 5) (pick (fAll plainCell vs) (pick (fGe cells (Nat.add off (fLen vs))) (.ok (AH.set (pick solo H (H.blur fam (disp + off) (disp + off + vs.length))) id (.row ⟨fSplice cells off vs, ty, fam, disp, esz, ro, solo⟩))) (.error 7)) (.error 6))

def fWrite (H : AH) (id off : Nat) (vs : List Value) : R AH := R.bd (fRow H id) (fWriteR H id off vs)

theorem fWrite_eq (H : AH) (id off : Nat) (vs : List Value) : fWrite H id off vs = H.write id off vs := by
  unfold fWrite AH.write
  rw [fRow_eq, bd_eq]
  show Except.bind (H.row id) _ = Except.bind (H.row id) _
  congr 1
  funext r
  obtain ⟨cells, ty, fam, disp, esz, ro, solo⟩ := r
  simp only [fWriteR, fAll_eq, fGe_eq, fLen_eq]
  cases ro with
  | true => rfl
  | false =>
    cases vs.all plainCell with
    | false => rfl
    | true =>
      simp only [pick, Bool.false_eq_true, if_false, Bool.not_true]
      show Bool.rec (motive := fun _ => R AH) _ _ (decide (off + vs.length ≤ cells.length)) = _
      by_cases h : off + vs.length ≤ cells.length
      · rw [decide_eq_true h, if_pos h]
        show Except.ok _ = _
        rw [fSplice_eq _ _ _ h]
        cases solo <;> rfl
      · rw [decide_eq_false h, if_neg h]

def fNth {α : Type} (l : List α) : Nat → Option α :=
  List.rec (motive := fun _ => Nat → Option α) (fun _ => none) (fun x _ ih k => Nat.rec (motive := fun _ => Option α) (some x) (fun n _ => ih n) k) l
theorem fNth_eq {α : Type} : ∀ (l : List α) (k : Nat), fNth l k = l[k]?
  | [], k => rfl
  | _ :: l, 0 => rfl
  | _ :: l, k + 1 => by
    show fNth l k = _
    rw [fNth_eq l k]; rfl

/-- so many known values behind so many cells -/
def fKnown (l : List (Option Value)) : Nat → R (List Value) :=
  List.rec (motive := fun _ => Nat → R (List Value)) (fun n => Nat.rec (motive := fun _ => R (List Value)) (.ok []) (fun _ _ => .error 3) n)
    (fun c _ ih n => Nat.rec (motive := fun _ => R (List Value)) (.ok []) (fun n _ => Option.rec (motive := fun _ => R (List Value)) (.error 3) (fun v => R.bd (ih n) fun vs => .ok (v :: vs)) c) n) l
theorem fKnown_eq : ∀ (l : List (Option Value)) (n : Nat), fKnown l n = takeK l n
  | [], 0 => rfl
  | [], n + 1 => rfl
  | c :: l, 0 => by cases c <;> rfl
  | none :: l, n + 1 => rfl
  | some v :: l, n + 1 => by
    show R.bd (fKnown l n) _ = Except.bind (takeK l n) _
    rw [bd_eq, fKnown_eq l n]

def fDrop {α : Type} (l : List α) : Nat → List α :=
  List.rec (motive := fun _ => Nat → List α) (fun _ => []) (fun x l ih k => Nat.rec (motive := fun _ => List α) (x :: l) (fun n _ => ih n) k) l
theorem fDrop_eq {α : Type} : ∀ (l : List α) (k : Nat), fDrop l k = l.drop k
  | [], k => by simp [fDrop]
  | _ :: l, 0 => rfl
  | _ :: l, k + 1 => by
    show fDrop l k = _
    rw [fDrop_eq l k]; rfl

def fLoadR (P : Program) (t : TypeId) (off : Nat) (r : Row) : R Value :=
  R.bd (tAgg P t) fun b => Bool.rec (motive := fun _ => R Value)
    (Option.rec (motive := fun _ => R Value) (.error 15) (fun c => Option.rec (motive := fun _ => R Value) (.error 15) (fun v => .ok v) c) (fNth r.cells off))
    (R.bd (tSize P t) fun n => R.bd (fKnown (fDrop r.cells off) n) fun vs => .ok (.agg vs.toArray)) b

def fLoad (P : Program) (H : AH) (t : TypeId) (id off : Nat) : R Value := R.bd (fRow H id) (fLoadR P t off)

theorem fLoad_eq (P : Program) (H : AH) (t : TypeId) (id off : Nat) : fLoad P H t id off = aLoad P H t id off := by
  unfold fLoad aLoad
  rw [fRow_eq, bd_eq]
  show Except.bind (H.row id) _ = Except.bind (H.row id) _
  congr 1
  funext r
  unfold fLoadR
  rw [bd_eq]
  show Except.bind (tAgg P t) _ = Except.bind (tAgg P t) _
  congr 1
  funext b
  cases b with
  | false =>
    simp only [fNth_eq, Bool.false_eq_true, if_false]
    cases r.cells[off]? with
    | none => rfl
    | some c => cases c <;> rfl
  | true =>
    simp only [if_true]
    rw [bd_eq]
    show Except.bind (tSize P t) _ = Except.bind (tSize P t) _
    congr 1
    funext n
    rw [bd_eq, fKnown_eq, fDrop_eq]
    rfl

def f_move (P : Program) (rec : Rec) (a : AAct) (H : AH) (x : Operand) : R (Value × AH) := do
    .ok (← fEval a x, H)

def f_assign (P : Program) (rec : Rec) (a : AAct) (H : AH) (x : Operand) : R (Value × AH) := do
    .ok (← fEval a x, H)

def f_pick (P : Program) (rec : Rec) (a : AAct) (H : AH) (c : Operand) (x : Operand) (y : Operand) : R (Value × AH) := do
    match ← fEval a c with
    | .bool b => .ok (← fEval a (if b then x else y), H)
    | _ => .error 50

def f_alloc (P : Program) (rec : Rec) (a : AAct) (H : AH) (t : TypeId) : R (Value × AH) := do
    let (id, H) ← newRow H t 0 ((← tZero P t).map some)
    .ok (.pointer (some ⟨id, 0, none⟩), H)

def f_box (P : Program) (rec : Rec) (a : AAct) (H : AH) (t : TypeId) (x : Operand) : R (Value × AH) := do
    let (id, H) ← newRow H t 0 ((← fEval a x).cells.toList.map some)
    .ok (.pointer (some ⟨id, 0, none⟩), H)

def f_load (P : Program) (rec : Rec) (a : AAct) (H : AH) (t : TypeId) (x : Operand) : R (Value × AH) := do
    let (id, off) ← addrOf (← fEval a x)
    .ok (← fLoad P H t id off, H)

def f_store (P : Program) (rec : Rec) (a : AAct) (H : AH) (t : TypeId) (x : Operand) (y : Operand) : R (Value × AH) := do
    let (id, off) ← addrOf (← fEval a x)
    let v ← fEval a y
    if v.cells.size = (← tSize P t) then .ok (undef, ← fWrite H id off v.cells.toList) else .error 51

def f_nilCheck (P : Program) (rec : Rec) (a : AAct) (H : AH) (x : Operand) : R (Value × AH) := do
    match ← fEval a x with
    | .pointer (some p) => .ok (.pointer (some p), H)
    | .func (.func f) fs cs => .ok (.func (.func f) fs cs, H)
    | .func (.yield l) fs cs => .ok (.func (.yield l) fs cs, H)
    | _ => .error 52

def f_binOp (P : Program) (rec : Rec) (a : AAct) (H : AH) (op : BinOp) (t : TypeId) (x : Operand) (y : Operand) (t2 : TypeId) : R (Value × AH) := do
    let u ← fEval a x
    let w ← fEval a y
    if bothPtr u w then .ok (← aPtr P H op t u w, H) else .ok (← aBin P op t x y u w, H)

def f_unOp (P : Program) (rec : Rec) (a : AAct) (H : AH) (op : UnOp) (t : TypeId) (x : Operand) : R (Value × AH) := do
    match ← fEval a x with
    | .int k n => .ok (← gOnly (pureRun P 0 (Op.unary op (.int k n))), H)
    | .bool b => .ok (← gOnly (pureRun P 0 (Op.unary op (.bool b))), H)
    | _ => .error 53

def f_convert (P : Program) (rec : Rec) (a : AAct) (H : AH) (s : TypeId) (d : TypeId) (x : Operand) : R (Value × AH) := do
    aConvert P H s d (← fEval a x)

def f_makeInterface (P : Program) (rec : Rec) (a : AAct) (H : AH) (t : TypeId) (x : Operand) : R (Value × AH) := do
    match P.underlying t with
    | some (.interface _) => .error 54
    | some _ => .ok (.iface t (← fEval a x), H)
    | none => .error 55

def f_makeSlice (P : Program) (rec : Rec) (a : AAct) (H : AH) (t : TypeId) (l : Operand) (c : Operand) : R (Value × AH) := do
    match P.underlying t with
    | some (.slice elem) =>
      let c ← natIn (← fEval a c) 17179869184
      let l ← natIn (← fEval a l) c
      let bytes ← tBytes P elem
      if bytes * c > 281474976710656 then .error 57 else
      let (id, H) ← newRow H elem (← tSize P elem) ((repeated (← tZero P elem) c).map some)
      .ok (.slice (some ⟨id, 0, none⟩) l c, H)
    | _ => .error 58

def f_slice (P : Program) (rec : Rec) (a : AAct) (H : AH) (t : TypeId) (x : Operand) (lo : Option Operand) (hi : Option Operand) (mx : Option Operand) : R (Value × AH) := do
    let ev (y : Option Operand) : R (Option Value) := match y with
      | some y => do .ok (some (← fEval a y))
      | none => .ok none
    .ok (← aSlice P H t (← fEval a x) (← ev lo) (← ev hi) (← ev mx), H)

def f_fieldAddr (P : Program) (rec : Rec) (a : AAct) (H : AH) (t : TypeId) (x : Operand) (f : Nat) : R (Value × AH) := do
    match P.underlying t with
    | some (.struct fields) =>
      match fields[f]? with
      | some fd =>
        let (id, off) ← addrOf (← fEval a x)
        if (← tSize P fd.type) = 0 then .error 59 else .ok (.pointer (some ⟨id, off + fd.offset, none⟩), H)
      | none => .error 60
    | _ => .error 61

def f_field (P : Program) (rec : Rec) (a : AAct) (H : AH) (t : TypeId) (x : Operand) (f : Nat) : R (Value × AH) := do
    match P.underlying t, ← fEval a x with
    | some (.struct fields), .agg cs =>
      match fields[f]? with
      | some fd => .ok (← partAt' P fd.type cs.toList fd.offset, H)
      | none => .error 62
    | _, _ => .error 63

def f_indexAddr (P : Program) (rec : Rec) (a : AAct) (H : AH) (t : TypeId) (x : Operand) (i : Operand) : R (Value × AH) := do
    match P.underlying t, ← fEval a x with
    | some (.array n elem), .pointer (some ⟨id, off, none⟩) =>
      let i ← natIn (← fEval a i) (n - 1)
      if i < n then .ok (.pointer (some ⟨id, off + i * (← tSize P elem), none⟩), H) else .error 64
    | some (.slice elem), .slice (some ⟨id, off, none⟩) n _ =>
      let i ← natIn (← fEval a i) (n - 1)
      if i < n then .ok (.pointer (some ⟨id, off + i * (← tSize P elem), none⟩), H) else .error 65
    | _, _ => .error 66

def f_index (P : Program) (rec : Rec) (a : AAct) (H : AH) (t : TypeId) (x : Operand) (i : Operand) : R (Value × AH) := do
    match P.underlying t, ← fEval a x with
    | some .string, .string s =>
      let i ← natIn (← fEval a i) (s.size - 1)
      match s.data.toList[i]? with
      | some b => .ok (.int .u8 b.toNat, H)
      | none => .error 67
    | some (.array n elem), .agg cs =>
      let i ← natIn (← fEval a i) (n - 1)
      if i < n then .ok (← partAt' P elem cs.toList (i * (← tSize P elem)), H) else .error 68
    | _, _ => .error 69

def f_extract (P : Program) (rec : Rec) (a : AAct) (H : AH) (x : Operand) (i : Nat) : R (Value × AH) := do
    match ← fEval a x with
    | .tuple vs => match vs.toList[i]? with
      | some v => .ok (v, H)
      | none => .error 70
    | _ => .error 71

def f_build (P : Program) (rec : Rec) (a : AAct) (H : AH) (t : TypeId) (parts : Array (Nat × Operand)) : R (Value × AH) := do
    let ps ← allR (fun (p : Nat × Operand) => do .ok (p.1, ← fEval a p.2)) parts.toList
    let zs ← tZero P t
    match P.underlying t with
    | some (.struct fields) =>
      let places ← allR (fun (f : Field) => do .ok (f.offset, ← tSize P f.type)) fields.toList
      match Instr.fill (fun i => places[i]?) zs.toArray ps with
      | some cells => .ok (.agg cells, H)
      | none => .error 730
    | some (.array _ elem) =>
      let size ← tSize P elem
      match Instr.fill (fun i => some (i * size, size)) zs.toArray ps with
      | some cells => .ok (.agg cells, H)
      | none => .error 731
    | _ => .error 732

def f_buildSlice (P : Program) (rec : Rec) (a : AAct) (H : AH) (t : TypeId) (len : Nat) (parts : Array (Nat × Operand)) : R (Value × AH) := do
    match P.underlying t with
    | some (.slice elem) =>
      let ps ← allR (fun (p : Nat × Operand) => do .ok (p.1, ← fEval a p.2)) parts.toList
      let size ← tSize P elem
      if len * size > 16777216 then .error 72 else
      match Instr.fill (fun i => some (i * size, size)) (repeated (← tZero P elem) len).toArray ps with
      | some cells =>
        let (id, H) ← newRow H elem size (cells.toList.map some)
        .ok (.slice (some ⟨id, 0, none⟩) len len, H)
      | none => .error 73
    | _ => .error 74

def f_round (P : Program) (rec : Rec) (H : AH) (args : List Value) (l : Nat) : R (Value × AH) := do
        match H.get l with
        | some (.loop r) =>
          if r.params.length ≠ args.length then .error 76 else
          match r.state with
          | .ready =>
            let act ← (r.params.zip args).foldlM (fun (b : AAct) (p : Tmp × Value) => b.put (some p.1) p.2) { tm := r.tm, n := r.n, marks := [] }
            match ← rec (.code (some l) r.assign act) H with
            | (.out .normal act, H) =>
              match H.get l with
              | some (.loop r1) =>
                if r1.state ≠ .ready then .error 77 else
                match ← rec (.code (some l) r.body act) (H.set l (.loop { r1 with state := .busy })) with
                | (.out x _, H) =>
                  match H.get l with
                  | some (.loop r2) => .ok (.bool (jumpOf x).isNone, H.set l (.loop { r2 with state := if (jumpOf x).isNone then .ready else .done, pending := jumpOf x }))
                  | _ => .error 78
                | _ => .error 79
              | _ => .error 80
            | _ => .error 81
          | _ => .error 82
        | _ => .error 83

def f_value (P : Program) (rec : Rec) (a : AAct) (H : AH) (args : List Value) (f : Operand) : R (Value × AH) := do
      match ← fEval a f with
      | .func (.func f) first cap =>
        match ← rec (.call f (first.toList ++ args ++ cap.toList)) H with
        | (.val v, H) => .ok (v, H)
        | _ => .error 75
      | .func (.yield l) _ _ => f_round P rec H args l
      | _ => .error 84

def f_invoke (P : Program) (rec : Rec) (a : AAct) (H : AH) (args : List Value) (rcv : Operand) (name : String) : R (Value × AH) := do
      match ← fEval a rcv with
      | .iface t v => do
        let f ← aMethod P t name
        match ← rec (.call f (v :: args)) H with
        | (.val v, H) => .ok (v, H)
        | _ => .error 75
      | _ => .error 840

def f_builtin (P : Program) (H : AH) (c : Call) (args : List Value) (b : Builtin) : R (Value × AH) := do
      match b, args with
      | .len, [x] =>
        match c.argTypes.toList with
        | t :: _ => .ok (← aLen P t x, H)
        | [] => .error 85
      | .cap, _ => .error 86
      | .append, [s, x] =>
        match c.argTypes.toList with
        | [t] => aAppend P H t none s x
        | t :: u :: _ => aAppend P H t (some u) s x
        | [] => .error 87
      | .copy, [d, x] =>
        match c.argTypes.toList with
        | t :: _ =>
          match P.underlying t with
          | some (.slice elem) =>
            let size ← tSize P elem
            let (new, m) ← appended P H elem false x
            match d with
            | .slice none 0 0 => .ok (.int .i64 0, H)
            | .slice (some ⟨id, off, none⟩) n _ =>
              let k := min m n
              if k = 0 then .ok (.int .i64 0, H) else
              .ok (.int .i64 k, ← fWrite H id off (new.take (k * size)))
            | _ => .error 88
          | _ => .error 89
        | [] => .error 90
      | .max, _ => if args.all (gnd gd) then .ok (← gOnly (pureRun P 0 (Builtin.max_ #[] 0 args.toArray)), H) else .error 91
      | .min, _ => if args.all (gnd gd) then .ok (← gOnly (pureRun P 0 (Builtin.min_ #[] 0 args.toArray)), H) else .error 92
      | _, _ => .error 93

def f_call (P : Program) (rec : Rec) (a : AAct) (H : AH) (c : Call) : R (Value × AH) := do
    let args ← allR (fEval a) c.args.toList
    match c.callee with
    | .value f => f_value P rec a H args f
    | .invoke rcv name => f_invoke P rec a H args rcv name
    | .builtin b => f_builtin P H c args b

def fOp (P : Program) (rec : Rec) (a : AAct) (H : AH) (o : Oper) : R (Value × AH) :=
  match o.op with
  | .move x => f_move P rec a H x
  | .assign x => f_assign P rec a H x
  | .pick c x y => f_pick P rec a H c x y
  | .alloc t => f_alloc P rec a H t
  | .box t x => f_box P rec a H t x
  | .load t x => f_load P rec a H t x
  | .store t x y => f_store P rec a H t x y
  | .nilCheck x => f_nilCheck P rec a H x
  | .binOp op t x y t2 => f_binOp P rec a H op t x y t2
  | .unOp op t x => f_unOp P rec a H op t x
  | .convert s d x => f_convert P rec a H s d x
  | .makeInterface t x => f_makeInterface P rec a H t x
  | .makeSlice t l c => f_makeSlice P rec a H t l c
  | .slice t x lo hi mx => f_slice P rec a H t x lo hi mx
  | .fieldAddr t x f => f_fieldAddr P rec a H t x f
  | .field t x f => f_field P rec a H t x f
  | .indexAddr t x i => f_indexAddr P rec a H t x i
  | .index t x i => f_index P rec a H t x i
  | .extract x i => f_extract P rec a H x i
  | .build t parts => f_build P rec a H t parts
  | .buildSlice t len parts => f_buildSlice P rec a H t len parts
  | .call c => f_call P rec a H c
  | _ => aOp P rec a H o

theorem fOp_eq {P : Program} {rec : Rec} {a : AAct} {H : AH} {o : Oper} : fOp P rec a H o = aOp P rec a H o := by
  obtain ⟨d, op, ty, ps, af, gu⟩ := o
  cases op <;> first | rfl | (simp only [fOp, aOp, f_move, f_assign, f_pick, f_alloc, f_box, f_load, f_store, f_nilCheck, f_binOp, f_unOp, f_convert, f_makeInterface, f_makeSlice, f_slice, f_fieldAddr, f_field, f_indexAddr, f_index, f_extract, f_build, f_buildSlice, f_round, f_value, f_invoke, f_builtin, f_call, fEval_fun, fEval_eq, fWrite_eq, fLoad_eq, instBd_eq]; done) | (simp only [fOp, aOp, f_move, f_assign, f_pick, f_alloc, f_box, f_load, f_store, f_nilCheck, f_binOp, f_unOp, f_convert, f_makeInterface, f_makeSlice, f_slice, f_fieldAddr, f_field, f_indexAddr, f_index, f_extract, f_build, f_buildSlice, f_round, f_value, f_invoke, f_builtin, f_call, fEval_fun, fEval_eq, fWrite_eq, fLoad_eq, instBd_eq]; rfl)

def fKeep (k : AAct → AH → R (AAct × AH)) (a : AAct) (H : AH) (o : Oper) (v : Value) : R (AAct × AH) := R.bd (a.put o.dst v) fun a => k a H

def fWith (k : AAct → AH → R (AAct × AH)) (a : AAct) (o : Oper) (p : Value × AH) : R (AAct × AH) := Prod.rec (motive := fun _ => R (AAct × AH)) (fun v H => fKeep k a H o v) p

/-- one operation of a region, and on with k -/
def fOne (P : Program) (rec : Rec) (rnd : Option Nat) (o : Oper) (a : AAct) (H : AH) (k : AAct → AH → R (AAct × AH)) : R (AAct × AH) :=
  match deferOf o.op with
  | some c => if rnd.isSome then .error 1102 else R.bd (aDefer a c) fun d => fKeep k { a with marks := d :: a.marks } H o undef
  | none => R.bd (fOp P rec a H o) (fWith k a o)

def fOps (P : Program) (rec : Rec) (rnd : Option Nat) (all : List Oper) (os : List Oper) : AAct → AH → R (AAct × AH) :=
  List.rec (motive := fun _ => AAct → AH → R (AAct × AH)) (fun a H => .ok (a, H))
    (fun o _ ih a H => Option.rec (motive := fun _ => R (AAct × AH)) (fOne P rec rnd o a H ih) (fun _ => R.bd (aWanted all a o) fun b => Bool.rec (motive := fun _ => R (AAct × AH)) (fKeep ih a H o undef) (fOne P rec rnd o a H ih) b) o.guard) os

theorem fOne_eq {P : Program} {rec : Rec} {rnd : Option Nat} {o : Oper} {a : AAct} {H : AH} {k : AAct → AH → R (AAct × AH)} : fOne P rec rnd o a H k =
    (match deferOf o.op with
      | some c =>
        if rnd.isSome then .error 1102 else Except.bind (aDefer a c) fun d => Except.bind (({ a with marks := d :: a.marks } : AAct).put o.dst undef) fun a => k a H
      | none => Except.bind (aOp P rec a H o) fun p => Except.bind (a.put o.dst p.1) fun a => k a p.2) := by
  unfold fOne
  split
  · simp only [bd_eq, fKeep]
  · rw [bd_eq, fOp_eq]
    cases aOp P rec a H o with
    | error e => rfl
    | ok p => exact bd_eq _ _

theorem fOps_eq {P : Program} {rec : Rec} {rnd : Option Nat} {all : List Oper} : ∀ (os : List Oper) (a : AAct) (H : AH), fOps P rec rnd all os a H = aOps P rec rnd all os a H
  | [], a, H => rfl
  | o :: os, a, H => by
    have ih : fOps P rec rnd all os = aOps P rec rnd all os := funext fun a => funext fun H => fOps_eq os a H
    have h1 : fOps P rec rnd all (o :: os) a H = Option.rec (motive := fun _ => R (AAct × AH)) (fOne P rec rnd o a H (fOps P rec rnd all os)) (fun _ => R.bd (aWanted all a o) fun b => Bool.rec (motive := fun _ => R (AAct × AH)) (fKeep (fOps P rec rnd all os) a H o undef) (fOne P rec rnd o a H (fOps P rec rnd all os)) b) o.guard := rfl
    rw [h1, ih]
    have h2 : fOne P rec rnd o a H (aOps P rec rnd all os) = (match deferOf o.op with
      | some c =>
        if rnd.isSome then .error 1102 else Except.bind (aDefer a c) fun d => Except.bind (({ a with marks := d :: a.marks } : AAct).put o.dst undef) fun a => aOps P rec rnd all os a H
      | none => Except.bind (aOp P rec a H o) fun p => Except.bind (a.put o.dst p.1) fun a => aOps P rec rnd all os a p.2) := fOne_eq
    have h3 : fKeep (aOps P rec rnd all os) a H o undef = Except.bind (a.put o.dst undef) fun a => aOps P rec rnd all os a H := by unfold fKeep; rw [bd_eq]
    rw [h2, h3]
    cases hg : o.guard with
    | none =>
      have hw : aWanted all a o = .ok true := by unfold aWanted; rw [hg]
      simp only [aOps, hw]
      rfl
    | some g =>
      simp only [aOps, bd_eq]
      cases aWanted all a o with
      | error e => rfl
      | ok b => cases b <;> rfl

def s_call (P : Program) (rec : Rec) (f : FuncId) (args : List Value) (H : AH) : R (Res × AH) := do
    let (fn, c) ← bodyOf P f args
    match ← rec (.code none c (startAct fn.ntmps args)) H with
    | (.out .normal a, H) | (.out .ret a, H) => do
      let H1 ← aLeave P rec a.marks H
      .ok (.val (← aResults P H1 a fn.results.toList), H1)
    | _ => .error 102

def s_seq (rec : Rec) (rnd : Option Nat) (x y : Code) (a : AAct) (H : AH) : R (Res × AH) := do
      match ← rec (.code rnd x a) H with
      | (.out .normal a, H) => rec (.code rnd y a) H
      | r => .ok r

def s_cond (rec : Rec) (rnd : Option Nat) (o : Operand) (x y : Code) (a : AAct) (H : AH) : R (Res × AH) := do
      match ← fEval a o with
      | .bool b => pick b (rec (.code rnd x a) H) (rec (.code rnd y a) H)
      | _ => .error 105

def s_block (rec : Rec) (rnd : Option Nat) (id : Nat) (x : Code) (a : AAct) (H : AH) : R (Res × AH) := do
      match ← rec (.code rnd x a) H with
      | (.out (.exit j) a, H) => .ok (.out (if j = id then .normal else .exit j) a, H)
      | r => .ok r

def s_loop (rec : Rec) (rnd : Option Nat) (x : Code) (a : AAct) (H : AH) : R (Res × AH) := do
      match ← rec (.code rnd x a) H with
      | (.out .normal a, H) => rec (.code rnd (.loop x) a) H
      | r => .ok r

def s_line (P : Program) (rec : Rec) (rnd : Option Nat) (ops : Array Oper) (a : AAct) (H : AH) : R (Res × AH) := do
      let (a, H) ← fOps P rec rnd ops.toList ops.toList a H
      .ok (.out .normal a, H)

def s_draw (P : Program) (rec : Rec) (rnd : Option Nat) (ops : Array Oper) (a : AAct) (H : AH) : R (Res × AH) := do
      if !P.follows .mixedOrders then .error 120 else
      let (a, H) ← aDraw P rec ops.toList a H
      .ok (.out .normal a, H)

def s_code (P : Program) (rec : Rec) (rnd : Option Nat) (c : Code) (a : AAct) (H : AH) : R (Res × AH) :=
    match c with
    | .skip => .ok (.out .normal a, H)
    | .label _ => .ok (.out .normal a, H)
    | .ret => .ok (.out .ret a, H)
    | .exit id => .ok (.out (.exit id) a, H)
    | .goto l => .ok (.out (.goto l) a, H)
    | .seq x y => s_seq rec rnd x y a H
    | .cond o x y => s_cond rec rnd o x y a H
    | .block id x => s_block rec rnd id x a H
    | .loop x => s_loop rec rnd x a H
    | .region _ ops false => s_line P rec rnd ops a H
    | .region _ ops true => s_draw P rec rnd ops a H
    | c => aStep P rec (.code rnd c a) H

def fStep (P : Program) (rec : Rec) : Rec
  | .call f args, H => s_call P rec f args H
  | .code rnd c a, H => s_code P rec rnd c a H

theorem fStep_eq (P : Program) (rec : Rec) : fStep P rec = aStep P rec := by
  funext q H
  cases q with
  | call f args => simp only [fStep, s_call, aStep, instBd_eq] <;> rfl
  | code rnd c a =>
    cases c with
    | region n ops b => cases b <;> simp only [fStep, s_code, s_line, s_draw, aStep, instBd_eq, fOps_eq] <;> rfl
    | cond o x y =>
      simp only [fStep, s_code, s_cond, aStep, instBd_eq, fEval_eq]
      cases a.eval o with
      | error e => rfl
      | ok v => cases v <;> first | rfl | (rename_i b; cases b <;> rfl)
    | _ => first | rfl | (simp only [fStep, s_code, s_seq, s_cond, s_block, s_loop, aStep, instBd_eq] <;> rfl)

def fRun (P : Program) (n : Nat) : Rec := Nat.rec (motive := fun _ => Rec) (fun _ _ => .error 0) (fun _ r => fStep P r) n

theorem fRun_eq (P : Program) : ∀ n, fRun P n = aRun P n
  | 0 => by funext q H; rfl
  | n + 1 => by
    have h : fRun P (n + 1) = fStep P (fRun P n) := rfl
    rw [h, fRun_eq P n, fStep_eq]
    funext q H
    rfl

end
end Go.Eng
