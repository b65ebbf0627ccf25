/-
  An abstract machine for Go programs, and what it means that it goes along with the given one: definitions alone.
-/
import Derived.RangeFuncLeaves
import Derived.OrdersIn
namespace Go.Eng
noncomputable section

/-! ### A map from numbers, for the kernel -/
inductive T (α : Type) where
  | nil
  | node (v : Option α) (l r : T α)

/-- a choice, for the kernel -/
def pick {α : Type} (b : Bool) (x y : α) : α := Bool.rec (motive := fun _ => α) y x b

def T.get {α : Type} (t : T α) : Nat → Option α :=
  T.rec (motive := fun _ => Nat → Option α) (fun _ => none)
    (fun v _ _ gl gr k => Bool.rec (motive := fun _ => Option α) (Bool.rec (motive := fun _ => Option α) (gr (Nat.sub (Nat.div k (nat_lit 2)) (nat_lit 1))) (gl (Nat.div k (nat_lit 2))) (Nat.beq (Nat.mod k (nat_lit 2)) (nat_lit 1))) v (Nat.beq k (nat_lit 0))) t

/-- a map of one number -/
def T.one {α : Type} (n : Nat) : Nat → α → T α :=
  Nat.rec (motive := fun _ => Nat → α → T α) (fun _ _ => .nil)
    (fun _ p k x => Bool.rec (motive := fun _ => T α) (Bool.rec (motive := fun _ => T α) (.node none .nil (p (Nat.sub (Nat.div k (nat_lit 2)) (nat_lit 1)) x)) (.node none (p (Nat.div k (nat_lit 2)) x) .nil) (Nat.beq (Nat.mod k (nat_lit 2)) (nat_lit 1))) (.node (some x) .nil .nil) (Nat.beq k (nat_lit 0))) n

def T.put {α : Type} (n : Nat) (t : T α) : Nat → α → T α :=
  T.rec (motive := fun _ => Nat → α → T α) (fun k x => T.one n k x)
    (fun v l r pl pr k x => Bool.rec (motive := fun _ => T α) (Bool.rec (motive := fun _ => T α) (.node v l (pr (Nat.sub (Nat.div k (nat_lit 2)) (nat_lit 1)) x)) (.node v (pl (Nat.div k (nat_lit 2)) x) r) (Nat.beq (Nat.mod k (nat_lit 2)) (nat_lit 1))) (.node (some x) l r) (Nat.beq k (nat_lit 0))) t

/-- an empty map that has its places -/
def T.full {α : Type} (n : Nat) : T α := Nat.rec (motive := fun _ => T α) .nil (fun _ t => .node none t t) n

def T.map {α β : Type} (f : α → β) (t : T α) : T β :=
  T.rec (motive := fun _ => T β) .nil (fun v _ _ ml mr => .node (v.map f) ml mr) t

/-! ### Answers -/
abbrev R := Except Nat

/-! ### Memory: a cell that is 'none' is not known -/
structure Row where
  cells : List (Option Value)
  ty : TypeId
  fam : Nat
  disp : Nat
  esz : Nat
  ro : Bool
  solo : Bool

structure ALoop where
  state : LoopState
  pending : Option Code
  fn : FuncId
  tm : T Value
  n : Nat
  params : List Tmp
  assign : Code
  body : Code
  mark : Nat

/-- an entry of a map -/
structure AEnt where
  key : Value
  val : Value
  born : Nat

inductive AO where
  | map (es : List AEnt) (clock : Nat)
  | row (r : Row)
  | loop (l : ALoop)
  | mark (open_ : Bool)
  | iter (s : ByteArray) (pos : Nat)
  | mit (m : Option Nat)

structure AH where
  objs : T AO
  next : Nat

def AH.get (H : AH) (id : Nat) : Option AO := H.objs.get id
def AH.top : Nat := 48
def AH.set : AH → Nat → AO → AH
  | ⟨t, n⟩, id, o => ⟨T.put (Nat.succ id) t id o, n⟩

def AH.new : AH → AO → R (Nat × AH)
  | ⟨t, n⟩, o => .ok (n, ⟨T.put (Nat.succ n) t n o, Nat.succ n⟩)

def AH.row (H : AH) (id : Nat) : R Row :=
  match H.get id with
  | some (.row r) => .ok r
  | _ => .error 2

/-- cells that hold known values, from one place on -/
def takeK : List (Option Value) → Nat → R (List Value)
  | _, 0 => .ok []
  | some v :: l, n + 1 => do .ok (v :: (← takeK l n))
  | _, _ + 1 => .error 3

/-- so many cells, known or not -/
def takeU (l : List (Option Value)) (n : Nat) : R (List (Option Value)) :=
  if n ≤ l.length then .ok (l.take n) else .error 4

def spliceL (l : List (Option Value)) (off : Nat) (vs : List (Option Value)) : List (Option Value) :=
  l.take off ++ vs ++ l.drop (off + vs.length)

/-- what a row knows no longer, once a row of its family has been written at some places -/
def Row.blur (lo hi : Nat) (r : Row) : Row :=
  { r with cells := r.cells.zipIdx.map fun (c, j) => if lo ≤ r.disp + j ∧ r.disp + j < hi then none else c }

def AO.blur (fam lo hi : Nat) : AO → AO
  | .row r => if r.fam = fam then .row (r.blur lo hi) else .row r
  | o => o

def AH.blur (H : AH) (fam lo hi : Nat) : AH := { H with objs := H.objs.map (AO.blur fam lo hi) }

def plainCell : Value → Bool
  | .agg _ => false
  | .tuple _ => false
  | _ => true

/-- known values into a row -/
def AH.write (H : AH) (id off : Nat) (vs : List Value) : R AH := do
  let r ← H.row id
  if r.ro then .error 5 else
  if !vs.all plainCell then .error 6 else
  if off + vs.length ≤ r.cells.length then
    let H1 := if r.solo then H else H.blur r.fam (r.disp + off) (r.disp + off + vs.length)
    .ok (H1.set id (.row { r with cells := spliceL r.cells off (vs.map some) }))
  else .error 7

/-! ### What is known of types -/
def tAgg (P : Program) (t : TypeId) : R Bool :=
  match P.underlying t with
  | some (.struct _) => .ok true
  | some (.array _ _) => .ok true
  | some _ => .ok false
  | none => .error 8

def tSize (P : Program) (t : TypeId) : R Nat :=
  match P.info? t with
  | some i => .ok i.size
  | none => .error 9

/-! ### Values without a place -/
def gnd : Nat → Value → Bool
  | _, .bool _ => true
  | _, .int _ _ => true
  | _, .float _ _ => true
  | _, .complex _ _ _ => true
  | _, .string _ => true
  | _, .pointer none => true
  | _, .slice none 0 0 => true
  | _, .map none => true
  | _, .nilFunc => true
  | _, .nilIface => true
  | _, .func (.func _) ⟨[]⟩ ⟨[]⟩ => true
  | n + 1, .iface _ v => gnd n v
  | n + 1, .agg vs => vs.toList.all (gnd n)
  | n + 1, .tuple vs => vs.toList.all (gnd n)
  | _, _ => false

def gd : Nat := 12

def tBytes (P : Program) (t : TypeId) : R Nat :=
  match P.info? t with
  | some i => .ok i.bytes
  | none => .error 24

/-- is what is appended a number of zeros? (append(s, make(..)...)) -/
def tZeros (P : Program) (t : Option TypeId) : R Bool :=
  match t with
  | some t => (match P.underlying t with
    | some (.int _) => .ok true
    | some _ => .ok false
    | none => .error 23)
  | none => .ok false

def tZero (P : Program) (t : TypeId) : R (List Value) :=
  match P.info? t with
  | some i => (match i.zero with
    | some v => if v.cells.toList.all (gnd gd) && v.cells.toList.length == i.size then .ok v.cells.toList else .error 10
    | none => .error 10)
  | none => .error 10

/-- a run without memory -/
def pureRun {α : Type} (P : Program) : Nat → Sem α → R α
  | _, .pure a => .ok a
  | n + 1, .program k => pureRun P n (k P)
  | _, _ => .error 11

/-- what an activation does as it leaves: a loop's mark, a deferred call -/
inductive ADef where
  | mark (m : Nat)
  | call (f : FuncId) (args : List Value)

structure AAct where
  tm : T Value
  n : Nat
  marks : List ADef

def AAct.eval (a : AAct) : Operand → R Value
  | .tmp t => .ok ((a.tm.get t).getD undef)
  | .const v => if gnd gd v then .ok v else .error 12
  | .global _ => .error 13
  | .func f => .ok (.func (.func f) #[] #[])

def AAct.put : AAct → Option Tmp → Value → R AAct
  | a, none, _ => .ok a
  | ⟨tm, n, ms⟩, some d, v => pick (Nat.ble (Nat.succ d) n) (pick (Nat.ble n (nat_lit 281474976710654)) (.ok ⟨T.put AH.top tm d v, n, ms⟩) (.error 14)) (.error 14)

inductive AX where
  | normal
  | exit (id : Nat)
  | goto (l : Nat)
  | ret

/-- the jump that a round leaves pending -/
def jumpOf : AX → Option Code
  | .normal => none
  | .ret => some .ret
  | .exit id => some (.exit id)
  | .goto l => some (.goto l)

inductive Req where
  | call (f : FuncId) (args : List Value)
  | code (rnd : Option Nat) (c : Code) (a : AAct)

inductive Res where
  | val (v : Value)
  | out (x : AX) (a : AAct)

abbrev Rec := Req → AH → R (Res × AH)

def aLoad (P : Program) (H : AH) (t : TypeId) (id off : Nat) : R Value := do
  let r ← H.row id
  if ← tAgg P t then .ok (.agg (← takeK (r.cells.drop off) (← tSize P t)).toArray)
  else match r.cells[off]? with
    | some (some v) => .ok v
    | _ => .error 15

def addrOf : Value → R (Nat × Nat)
  | .pointer (some ⟨id, off, none⟩) => .ok (id, off)
  | _ => .error 16

def intOf' : Value → R Int
  | .int _ n => .ok n
  | _ => .error 17

def natIn (v : Value) (most : Nat) : R Nat :=
  match v with
  | .int _ n => if 0 ≤ n ∧ n ≤ most then .ok n.toNat else .error 18
  | _ => .error 19

def newRow (H : AH) (t : TypeId) (esz : Nat) (cells : List (Option Value)) : R (Nat × AH) :=
  H.new (.row { cells := cells, ty := t, fam := H.next, disp := 0, esz := esz, ro := false, solo := true })

def repeated (z : List Value) : Nat → List Value
  | 0 => []
  | n + 1 => z ++ repeated z n

def u8v (b : UInt8) : Value := .int .u8 b.toNat

def readRow (H : AH) (id off n : Nat) : R (List Value) :=
  if n = 0 then .ok [] else do
    let r ← H.row id
    takeK (r.cells.drop off) n

/-- what is appended: its cells, and how many elements -/
def appended (P : Program) (H : AH) (elem : TypeId) (zeros : Bool) (x : Value) : R (List Value × Nat) := do
  let size ← tSize P elem
  if zeros then
    match x with
    | .int .i64 n => if 0 ≤ n ∧ n < 17179869184 then .ok (repeated (← tZero P elem) n.toNat, n.toNat) else .error 20
    | _ => .error 21
  else match x with
    | .slice none 0 0 => .ok ([], 0)
    | .slice (some ⟨id, off, none⟩) n _ => do
      .ok (← readRow H id off (n * size), n)
    | .string s => if size = 1 then .ok (s.data.toList.map u8v, s.size) else .error 220
    | _ => .error 22

def aAppend (P : Program) (H : AH) (sType : TypeId) (xType : Option TypeId) (s x : Value) : R (Value × AH) := do
  match P.underlying sType with
  | some (.slice elem) =>
    let zeros ← tZeros P xType
    let size ← tSize P elem
    let bytes ← tBytes P elem
    let (new, m) ← appended P H elem zeros x
    if m * bytes > 281474976710656 then .error 250 else
    if m = 0 then
      match s with
      | .slice none 0 0 => .ok (s, H)
      | .slice (some _) n c => if n ≤ c then .ok (s, H) else .error 251
      | _ => .error 252
    else
    if size = 0 ∨ bytes = 0 then .error 25 else do
    let _ ← tZero P elem
    match s with
    | .slice none 0 0 =>
      if (5 * m + 768) * bytes ≤ 1125899906842624 then do
        let (id, H1) ← newRow H elem size (new.map some)
        .ok (.slice (some ⟨id, 0, none⟩) m m, H1)
      else .error 26
    | .slice (some ⟨id, off, none⟩) n c => do
      let r ← H.row id
      if r.ro then .error 27 else
      if n + m ≤ c then do
        let H1 ← H.write id (off + n * size) new
        .ok (.slice (some ⟨id, off, none⟩) (n + m) c, H1)
      else if (5 * (n + m) + 768) * bytes ≤ 1125899906842624 then
        if !new.all plainCell then .error 28 else
        if r.esz ≠ size then .error 280 else do
        let old ← takeU (r.cells.drop off) (n * size)
        let lo := r.disp + off + n * size
        let H1 := if r.solo then H.set id (.row { (r.blur lo (lo + new.length)) with solo := false }) else H.blur r.fam lo (lo + new.length)
        let (id', H2) ← H1.new (.row { cells := old ++ new.map some, ty := r.ty, fam := r.fam, disp := r.disp + off, esz := size, ro := false, solo := false })
        .ok (.slice (some ⟨id', 0, none⟩) (n + m) (n + m), H2)
      else .error 29
    | _ => .error 30
  | _ => .error 31

/-- to string, out of bytes -/
def bytesOf : List Value → R (List UInt8)
  | [] => .ok []
  | .int .u8 n :: l => do .ok (UInt8.ofNat n.toNat :: (← bytesOf l))
  | _ :: _ => .error 32

/-! ### Maps -/
def aFindNow (kind : TypeDesc) (k : Value) : List AEnt → Nat → Option (Option Nat)
  | [], _ => some none
  | e :: es, i =>
    match Instr.sameNow kind k e.key with
    | some true => some (some i)
    | some false => aFindNow kind k es (i + 1)
    | none => none

def aFindAsk (P : Program) (t : TypeId) (k : Value) : List AEnt → Nat → R (Option Nat)
  | [], _ => .ok none
  | e :: es, i =>
    match pureRun P 4000 (Op.equal t k e.key) with
    | .ok true => .ok (some i)
    | .ok false => aFindAsk P t k es (i + 1)
    | .error n => .error n

def aFind (P : Program) (t : TypeId) (k : Value) (es : List AEnt) : R (Option Nat) :=
  match P.underlying t with
  | some d =>
    match aFindNow d k es 0 with
    | some r => .ok r
    | none => aFindAsk P t k es 0
  | none => .error 600

def aEntries (H : AH) (m : Value) : R (List AEnt) :=
  match m with
  | .map none => .ok []
  | .map (some id) =>
    match H.get id with
    | some (.map es _) => .ok es
    | _ => .error 601
  | _ => .error 602

def tZeroV (P : Program) (t : TypeId) : R Value :=
  match P.info? t with
  | some i =>
    match i.zero with
    | some v => if gnd gd v then .ok v else .error 603
    | none => .error 604
  | none => .error 605

def aLookup (P : Program) (H : AH) (t : TypeId) (m k : Value) (commaOk : Bool) : R Value :=
  match P.underlying t with
  | some (.map kt et) => do
    if !gnd gd k then .error 606 else
    let es ← aEntries H m
    let _ ← pureRun P 4000 (Instr.checkKey es.isEmpty 10000 kt k)
    match ← aFind P kt k es with
    | some j =>
      match es[j]? with
      | some e => .ok (if commaOk then .tuple #[e.val, .bool true] else e.val)
      | none => .error 607
    | none => do
      let z ← tZeroV P et
      .ok (if commaOk then .tuple #[z, .bool false] else z)
  | _ => .error 608

def aMapUpdate (P : Program) (H : AH) (t : TypeId) (m k v : Value) : R AH :=
  match P.underlying t with
  | some (.map kt _) =>
    match m with
    | .map (some id) =>
      match H.get id with
      | some (.map es clock) => do
        if !gnd gd k then .error 609 else
        let _ ← pureRun P 4000 (Instr.checkKey false 10000 kt k)
        match ← aFind P kt k es with
        | some j =>
          match es[j]? with
          | some e => if Instr.sameBits 10000 e.key k then .ok (H.set id (.map (es.set j { e with key := k, val := v }) clock)) else .error 610
          | none => .error 611
        | none => .ok (H.set id (.map (es ++ [{ key := k, val := v, born := clock }]) (clock + 1)))
      | _ => .error 612
    | _ => .error 613
  | _ => .error 614

def aTypeAssert (P : Program) (x : Value) (asserted : TypeId) (commaOk : Bool) : R Value :=
  match P.underlying asserted with
  | some (.interface _) => .error 615
  | some _ =>
    match x with
    | .iface t v =>
      if t = asserted then .ok (if commaOk then .tuple #[v, .bool true] else v)
      else if commaOk then do .ok (.tuple #[← tZeroV P asserted, .bool false]) else .error 616
    | .nilIface => if commaOk then do .ok (.tuple #[← tZeroV P asserted, .bool false]) else .error 617
    | _ => .error 618
  | none => .error 619

/-- the function behind a method of a value, where the value itself is the receiver -/
def aMethod (P : Program) (t : TypeId) (name : String) : R FuncId :=
  match P.info? t with
  | some i =>
    match i.methods.find? (·.name == name) with
    | some m =>
      if m.path.isEmpty then
        match m.func, P.underlying t with
        | some (f, true), some (.pointer _) => .ok f
        | some (_, true), _ => .error 620
        | some (_, false), some (.pointer _) => .error 621
        | some (f, false), some _ => .ok f
        | _, _ => .error 622
      else .error 623
    | none => .error 624
  | none => .error 625

/-- is it nil, or not -/
def nilness : Value → Option Bool
  | .pointer none => some true
  | .pointer (some _) => some false
  | .slice none _ _ => some true
  | .slice (some _) _ _ => some false
  | .map none => some true
  | .map (some _) => some false
  | .nilFunc => some true
  | .func _ _ _ => some false
  | .nilIface => some true
  | .iface _ _ => some false
  | _ => none

def nilFits (P : Program) (t : TypeId) : Value → Bool
  | .pointer _ => (match P.underlying t with | some (.pointer _) => true | _ => false)
  | .slice _ _ _ => (match P.underlying t with | some (.slice _) => true | _ => false)
  | .map _ => (match P.underlying t with | some (.map _ _) => true | _ => false)
  | .nilFunc => (match P.underlying t with | some (.func _ _ _) => true | _ => false)
  | .func _ _ _ => (match P.underlying t with | some (.func _ _ _) => true | _ => false)
  | _ => false

/-- an answer that has no place -/
def gOnly (x : R Value) : R Value :=
  match x with
  | .ok v => if gnd gd v then .ok v else .error 49
  | .error e => .error e

/-- are two structs of plain parts alike? -/
def eqF (P : Program) (xs ys : List Value) : List Field → R Bool
  | [] => .ok true
  | f :: fs =>
    if f.name == "_" then .error 355 else do
    if ← tAgg P f.type then .error 356 else
    match P.underlying f.type, xs[f.offset]?, ys[f.offset]? with
    | some (.int _), some (.int k m), some (.int j n) => if k = j then do .ok ((m == n) && (← eqF P xs ys fs)) else .error 357
    | some .bool, some (.bool p), some (.bool q) => do .ok ((p == q) && (← eqF P xs ys fs))
    | some .string, some (.string p), some (.string q) => do .ok ((p == q) && (← eqF P xs ys fs))
    | _, _, _ => .error 358

def aEq (P : Program) (op : BinOp) (t : TypeId) (a b : Value) : R Value :=
  match P.underlying t, a, b with
  | some (.struct fs), .agg xs, .agg ys =>
    if P.stoodInHeld t || P.eqGuardType P.depth t then .error 359 else do
    let r ← eqF P xs.toList ys.toList fs.toList
    match op with
    | .eql => .ok (.bool r)
    | .neq => .ok (.bool !r)
    | _ => .error 354
  | _, _, _ => .error 360

/-- operations over numbers, bools and strings alone: as the model has them -/
def aBin (P : Program) (op : BinOp) (t : TypeId) (x y : Operand) (a b : Value) : R Value :=
  match a, b with
  | .int _ _, .int _ _ => gOnly (pureRun P 0 (binOp op t a b))
  | .string _, .string _ => gOnly (pureRun P 0 (binOp op t a b))
  | _, _ =>
    if gnd gd a && gnd gd b then
      match aEq P op t a b with
      | .ok v => .ok v
      | .error _ => gOnly (pureRun P 2000 (do eqGuard op t x y a b; binOp op t a b))
    else match nilness a, nilness b with
      | some na, some nb =>
        if (na || nb) && nilFits P t a && nilFits P t b then
          match op with
          | .eql => .ok (.bool (na && nb))
          | .neq => .ok (.bool (!(na && nb)))
          | _ => .error 33
        else .error 34
      | _, _ => .error 35

/-- two pointers: into one row, or into rows that share nothing -/
def aPtr (P : Program) (H : AH) (op : BinOp) (t : TypeId) (a b : Value) : R Value :=
  match P.underlying t, a, b with
  | some (.pointer elem), .pointer (some ⟨i, oi, none⟩), .pointer (some ⟨j, oj, none⟩) => do
    if (← tSize P elem) = 0 then .error 350 else
    if i = j then
      match op with
      | .eql => .ok (.bool (oi == oj))
      | .neq => .ok (.bool (!(oi == oj)))
      | _ => .error 351
    else match H.get i, H.get j with
      | some (.row r), some (.row r') =>
        if (r.cells.isEmpty || r'.cells.isEmpty) = true then .error 354 else
        if (r.solo && Nat.ble 2 r.esz) = true then
          match op with
          | .eql => .ok (.bool false)
          | .neq => .ok (.bool true)
          | _ => .error 351
        else if (r'.solo && Nat.ble 2 r'.esz) = true then
          match op with
          | .eql => .ok (.bool false)
          | .neq => .ok (.bool true)
          | _ => .error 351
        else .error 352
      | _, _ => .error 352
  | _, _, _ => .error 353

def bothPtr : Value → Value → Bool
  | .pointer (some _), .pointer (some _) => true
  | _, _ => false

def aConvert (P : Program) (H : AH) (src dst : TypeId) (x : Value) : R (Value × AH) := do
  match x with
  | .slice none 0 0 =>
    (match P.underlying src, P.underlying dst with
    | some (.slice e), some .string => (match P.underlying e with
      | some (.int .u8) => .ok (.string .empty, H)
      | _ => .error 36)
    | _, _ => .error 36)
  | .slice (some ⟨id, off, none⟩) n _ =>
    (match P.underlying src, P.underlying dst with
    | some (.slice e), some .string => (match P.underlying e with
      | some (.int .u8) => do
        let cs ← readRow H id off n
        .ok (.string ⟨(← bytesOf cs).toArray⟩, H)
      | _ => .error 37)
    | some (.slice _), some (.slice e) => (match P.underlying e with
      | some (.int .u8) => do
        let r ← H.row id
        if r.ro then .error 381 else
        if r.cells.isEmpty then .error 382 else
        if (r.solo && Nat.ble 2 r.esz) = true then .error 385 else
        if src = dst ∧ n ≠ 0 then .ok (x, H) else .error 383
      | _ => .error 384)
    | _, _ => .error 38)
  | .string s =>
    (match P.underlying src, P.underlying dst with
    | some .string, some (.slice e) => (match P.underlying e with
      | some (.int .u8) => do
        let (id, H1) ← newRow H e 1 ((s.data.toList.map u8v).map some)
        .ok (.slice (some ⟨id, 0, none⟩) s.size s.size, H1)
      | _ => .error 39)
    | _, _ => do .ok (← gOnly (pureRun P 20 (convert src dst x)), H))
  | .int _ _ => do .ok (← gOnly (pureRun P 20 (convert src dst x)), H)
  | _ => .error 40

def optIn (v : Option Value) (most other : Nat) : R Nat :=
  match v with
  | some v => natIn v most
  | none => .ok other

def aBounds (len cap : Nat) (lo hi mx : Option Value) : R (Nat × Nat × Nat) := do
  let m ← optIn mx cap cap
  if hi.isNone && mx.isSome then .error 41 else
  let h ← optIn hi m len
  let l ← optIn lo h 0
  if l ≤ h ∧ h ≤ m then .ok (l, h, m) else .error 410

def aSlice (P : Program) (H : AH) (t : TypeId) (x : Value) (lo hi mx : Option Value) : R Value := do
  match P.underlying t with
  | some (.array n elem) => do
    let (id, off) ← addrOf x
    let (l, h, m) ← aBounds n n lo hi mx
    let size ← tSize P elem
    .ok (.slice (some ⟨id, off + l * size, none⟩) (h - l) (m - l))
  | some .string => (match x with
    | .string s => do
      if mx.isSome then .error 42 else
      let (l, h, _) ← aBounds s.size s.size lo hi none
      .ok (.string (s.extract l h))
    | _ => .error 43)
  | some (.slice elem) => (match x with
    | .slice none 0 0 => do
      let (_, _, _) ← aBounds 0 0 lo hi mx
      let _ ← tSize P elem
      .ok x
    | .slice (some ⟨id, off, none⟩) len cap => do
      let (l, h, m) ← aBounds len cap lo hi mx
      let size ← tSize P elem
      let r ← H.row id
      if r.esz = size ∨ r.esz = 0 then
        .ok (.slice (some ⟨id, off + l * size, none⟩) (h - l) (m - l))
      else .error 440
    | _ => .error 44)
  | _ => .error 45

def aLen (P : Program) (t : TypeId) (x : Value) : R Value :=
  match P.underlying t, x with
  | some .string, .string s => .ok (.int .i64 s.size)
  | some (.slice _), .slice _ n _ => .ok (.int .i64 n)
  | some (.array n _), _ => .ok (.int .i64 n)
  | _, _ => .error 46

def partAt' (P : Program) (t : TypeId) (cs : List Value) (off : Nat) : R Value := do
  if ← tAgg P t then
    let n ← tSize P t
    if off + n ≤ cs.length then .ok (.agg ((cs.drop off).take n).toArray) else .error 47
  else match cs[off]? with
    | some v => .ok v
    | none => .error 48

def allR {α β : Type} (f : α → R β) : List α → R (List β)
  | [] => .ok []
  | x :: l => do
    let y ← f x
    .ok (y :: (← allR f l))

inductive Got where
  | val (v : Value)
  | skip

/-- one operation -/
def aOp (P : Program) (rec : Rec) (a : AAct) (H : AH) (o : Oper) : R (Value × AH) := do
  match o.op with
  | .move x | .assign x => .ok (← a.eval x, H)
  | .pick c x y =>
    match ← a.eval c with
    | .bool b => .ok (← a.eval (if b then x else y), H)
    | _ => .error 50
  | .alloc t =>
    let (id, H) ← newRow H t 0 ((← tZero P t).map some)
    .ok (.pointer (some ⟨id, 0, none⟩), H)
  | .box t x =>
    let (id, H) ← newRow H t 0 ((← a.eval x).cells.toList.map some)
    .ok (.pointer (some ⟨id, 0, none⟩), H)
  | .load t x =>
    let (id, off) ← addrOf (← a.eval x)
    .ok (← aLoad P H t id off, H)
  | .store t x y =>
    let (id, off) ← addrOf (← a.eval x)
    let v ← a.eval y
    if v.cells.size = (← tSize P t) then .ok (undef, ← H.write id off v.cells.toList) else .error 51
  | .nilCheck x =>
    match ← a.eval x with
    | .pointer (some p) => .ok (.pointer (some p), H)
    | .func (.func f) fs cs => .ok (.func (.func f) fs cs, H)
    | .func (.yield l) fs cs => .ok (.func (.yield l) fs cs, H)
    | _ => .error 52
  | .binOp op t x y _ => do
    let u ← a.eval x
    let w ← a.eval y
    if bothPtr u w then .ok (← aPtr P H op t u w, H) else .ok (← aBin P op t x y u w, H)
  | .unOp op _ x =>
    match ← a.eval x with
    | .int k n => .ok (← gOnly (pureRun P 0 (Op.unary op (.int k n))), H)
    | .bool b => .ok (← gOnly (pureRun P 0 (Op.unary op (.bool b))), H)
    | _ => .error 53
  | .convert s d x => aConvert P H s d (← a.eval x)
  | .makeInterface t x =>
    match P.underlying t with
    | some (.interface _) => .error 54
    | some _ => .ok (.iface t (← a.eval x), H)
    | none => .error 55
  | .makeFunc (.func f) first cap => .ok (.func (.func f) (← allR a.eval first.toList).toArray (← allR a.eval cap.toList).toArray, H)
  | .makeSlice t l c =>
    match P.underlying t with
    | some (.slice elem) =>
      let c ← natIn (← a.eval c) 17179869184
      let l ← natIn (← a.eval l) c
      let bytes ← tBytes P elem
      if bytes * c > 281474976710656 then .error 57 else
      let (id, H) ← newRow H elem (← tSize P elem) ((repeated (← tZero P elem) c).map some)
      .ok (.slice (some ⟨id, 0, none⟩) l c, H)
    | _ => .error 58
  | .slice t x lo hi mx =>
    let ev (y : Option Operand) : R (Option Value) := match y with
      | some y => do .ok (some (← a.eval y))
      | none => .ok none
    .ok (← aSlice P H t (← a.eval x) (← ev lo) (← ev hi) (← ev mx), H)
  | .fieldAddr t x f =>
    match P.underlying t with
    | some (.struct fields) =>
      match fields[f]? with
      | some fd =>
        let (id, off) ← addrOf (← a.eval x)
        if (← tSize P fd.type) = 0 then .error 59 else .ok (.pointer (some ⟨id, off + fd.offset, none⟩), H)
      | none => .error 60
    | _ => .error 61
  | .field t x f =>
    match P.underlying t, ← a.eval x with
    | some (.struct fields), .agg cs =>
      match fields[f]? with
      | some fd => .ok (← partAt' P fd.type cs.toList fd.offset, H)
      | none => .error 62
    | _, _ => .error 63
  | .indexAddr t x i =>
    match P.underlying t, ← a.eval x with
    | some (.array n elem), .pointer (some ⟨id, off, none⟩) =>
      let i ← natIn (← a.eval i) (n - 1)
      if i < n then .ok (.pointer (some ⟨id, off + i * (← tSize P elem), none⟩), H) else .error 64
    | some (.slice elem), .slice (some ⟨id, off, none⟩) n _ =>
      let i ← natIn (← a.eval i) (n - 1)
      if i < n then .ok (.pointer (some ⟨id, off + i * (← tSize P elem), none⟩), H) else .error 65
    | _, _ => .error 66
  | .index t x i =>
    match P.underlying t, ← a.eval x with
    | some .string, .string s =>
      let i ← natIn (← a.eval i) (s.size - 1)
      match s.data.toList[i]? with
      | some b => .ok (.int .u8 b.toNat, H)
      | none => .error 67
    | some (.array n elem), .agg cs =>
      let i ← natIn (← a.eval i) (n - 1)
      if i < n then .ok (← partAt' P elem cs.toList (i * (← tSize P elem)), H) else .error 68
    | _, _ => .error 69
  | .extract x i =>
    match ← a.eval x with
    | .tuple vs => match vs.toList[i]? with
      | some v => .ok (v, H)
      | none => .error 70
    | _ => .error 71
  | .build t parts =>
    let ps ← allR (fun (p : Nat × Operand) => do .ok (p.1, ← a.eval p.2)) parts.toList
    let zs ← tZero P t
    match P.underlying t with
    | some (.struct fields) =>
      let places ← allR (fun (f : Field) => do .ok (f.offset, ← tSize P f.type)) fields.toList
      match Instr.fill (fun i => places[i]?) zs.toArray ps with
      | some cells => .ok (.agg cells, H)
      | none => .error 730
    | some (.array _ elem) =>
      let size ← tSize P elem
      match Instr.fill (fun i => some (i * size, size)) zs.toArray ps with
      | some cells => .ok (.agg cells, H)
      | none => .error 731
    | _ => .error 732
  | .buildSlice t len parts =>
    match P.underlying t with
    | some (.slice elem) =>
      let ps ← allR (fun (p : Nat × Operand) => do .ok (p.1, ← a.eval p.2)) parts.toList
      let size ← tSize P elem
      if len * size > 16777216 then .error 72 else
      match Instr.fill (fun i => some (i * size, size)) (repeated (← tZero P elem) len).toArray ps with
      | some cells =>
        let (id, H) ← newRow H elem size (cells.toList.map some)
        .ok (.slice (some ⟨id, 0, none⟩) len len, H)
      | none => .error 73
    | _ => .error 74
  | .call c =>
    let args ← allR a.eval c.args.toList
    match c.callee with
    | .value f =>
      match ← a.eval f with
      | .func (.func f) first cap =>
        match ← rec (.call f (first.toList ++ args ++ cap.toList)) H with
        | (.val v, H) => .ok (v, H)
        | _ => .error 75
      | .func (.yield l) _ _ =>
        match H.get l with
        | some (.loop r) =>
          if r.params.length ≠ args.length then .error 76 else
          match r.state with
          | .ready =>
            let act ← (r.params.zip args).foldlM (fun (b : AAct) (p : Tmp × Value) => b.put (some p.1) p.2) { tm := r.tm, n := r.n, marks := [] }
            match ← rec (.code (some l) r.assign act) H with
            | (.out .normal act, H) =>
              match H.get l with
              | some (.loop r1) =>
                if r1.state ≠ .ready then .error 77 else
                match ← rec (.code (some l) r.body act) (H.set l (.loop { r1 with state := .busy })) with
                | (.out x _, H) =>
                  match H.get l with
                  | some (.loop r2) => .ok (.bool (jumpOf x).isNone, H.set l (.loop { r2 with state := if (jumpOf x).isNone then .ready else .done, pending := jumpOf x }))
                  | _ => .error 78
                | _ => .error 79
              | _ => .error 80
            | _ => .error 81
          | _ => .error 82
        | _ => .error 83
      | _ => .error 84
    | .invoke rcv name =>
      match ← a.eval rcv with
      | .iface t v => do
        let f ← aMethod P t name
        match ← rec (.call f (v :: args)) H with
        | (.val v, H) => .ok (v, H)
        | _ => .error 75
      | _ => .error 840
    | .builtin b =>
      match b, args with
      | .len, [x] =>
        match c.argTypes.toList with
        | t :: _ => .ok (← aLen P t x, H)
        | [] => .error 85
      | .cap, _ => .error 86
      | .append, [s, x] =>
        match c.argTypes.toList with
        | [t] => aAppend P H t none s x
        | t :: u :: _ => aAppend P H t (some u) s x
        | [] => .error 87
      | .copy, [d, x] =>
        match c.argTypes.toList with
        | t :: _ =>
          match P.underlying t with
          | some (.slice elem) =>
            let size ← tSize P elem
            let (new, m) ← appended P H elem false x
            match d with
            | .slice none 0 0 => .ok (.int .i64 0, H)
            | .slice (some ⟨id, off, none⟩) n _ =>
              let k := min m n
              if k = 0 then .ok (.int .i64 0, H) else
              .ok (.int .i64 k, ← H.write id off (new.take (k * size)))
            | _ => .error 88
          | _ => .error 89
        | [] => .error 90
      | .max, _ => if args.all (gnd gd) then .ok (← gOnly (pureRun P 0 (Builtin.max_ #[] 0 args.toArray)), H) else .error 91
      | .min, _ => if args.all (gnd gd) then .ok (← gOnly (pureRun P 0 (Builtin.min_ #[] 0 args.toArray)), H) else .error 92
      | _, _ => .error 93
  | .makeMap _ none => do
    let (id, H) ← H.new (.map [] 0)
    .ok (.map (some id), H)
  | .makeMap t (some x) =>
    match P.underlying t with
    | some (.map _ _) => do
      let _ ← intOf' (← a.eval x)
      let (id, H) ← H.new (.map [] 0)
      .ok (.map (some id), H)
    | _ => .error 626
  | .lookup t x i ok => do
    let m ← a.eval x
    let k ← a.eval i
    .ok (← aLookup P H t m k ok, H)
  | .mapUpdate t m k v => do
    let m ← a.eval m
    let k ← a.eval k
    let v ← a.eval v
    .ok (undef, ← aMapUpdate P H t m k v)
  | .typeAssert x _ t ok => do .ok (← aTypeAssert P (← a.eval x) t ok, H)
  | .range t x =>
    match P.underlying t, ← a.eval x with
    | some .string, .string s => do
      let (id, H) ← H.new (.iter s 0)
      .ok (.pointer (some ⟨id, 0, none⟩), H)
    | some (.map _ _), .map none => do
      let (id, H) ← H.new (.mit none)
      .ok (.pointer (some ⟨id, 0, none⟩), H)
    | some (.map _ _), .map (some m) =>
      match H.get m with
      | some (.map _ _) => do
        let (id, H) ← H.new (.mit (some m))
        .ok (.pointer (some ⟨id, 0, none⟩), H)
      | _ => .error 954
    | _, _ => .error 950
  | .next x isString => do
    match ← a.eval x with
    | .pointer (some ⟨id, 0, none⟩) =>
      match H.get id, isString with
      | some (.iter s pos), true =>
        if pos < s.size then
          .ok (.tuple #[.bool true, goInt pos, .int .i32 (Utf8.decode s pos).1], H.set id (.iter s (pos + (Utf8.decode s pos).2)))
        else .ok (.tuple #[.bool false], H)
      | some (.mit none), false => .ok (.tuple #[.bool false], H)
      | some (.mit (some m)), false =>
        match H.get m with
        | some (.map [] _) => .ok (.tuple #[.bool false], H)
        | _ => .error 953
      | _, _ => .error 951
    | _ => .error 952
  | _ => .error 95

/-- is an operation carried out? -/
def aWanted (ops : List Oper) (a : AAct) (o : Oper) : R Bool :=
  match o.guard with
  | none => .ok true
  | some (j, want) =>
    match (ops[j]?).bind (·.dst) with
    | some d =>
      if d < a.n then
        match a.tm.get d with
        | some (.bool b) => .ok (b == want)
        | _ => .ok false
      else .error 96
    | none => .error 97

def deferOf : Op → Option Call
  | .defer c => some c
  | _ => none

/-- a call put off -/
def aDefer (a : AAct) (c : Call) : R ADef := do
  let args ← allR a.eval c.args.toList
  match c.callee with
  | .value f =>
    match ← a.eval f with
    | .func (.func f) first cap => .ok (.call f (first.toList ++ args ++ cap.toList))
    | _ => .error 1100
  | _ => .error 1101

/-- operations, one behind the other -/
def aOps (P : Program) (rec : Rec) (rnd : Option Nat) (all : List Oper) : List Oper → AAct → AH → R (AAct × AH)
  | [], a, H => .ok (a, H)
  | o :: os, a, H => do
    if ← aWanted all a o then
      match deferOf o.op with
      | some c =>
        if rnd.isSome then .error 1102 else do
        let d ← aDefer a c
        aOps P rec rnd all os (← ({ a with marks := d :: a.marks } : AAct).put o.dst undef) H
      | none => do
        let (v, H) ← aOp P rec a H o
        aOps P rec rnd all os (← a.put o.dst v) H
    else aOps P rec rnd all os (← a.put o.dst undef) H

/-! ### A region whose order is open -/
/-- an operation that reads no memory, and turns none -/
def pureOp (P : Program) (o : Op) : Bool :=
  match o with
  | .move _ | .assign _ | .pick _ _ _ | .nilCheck _ | .unOp _ _ _ | .makeInterface _ _ | .makeFunc _ _ _ | .fieldAddr _ _ _ | .field _ _ _
  | .indexAddr _ _ _ | .index _ _ _ | .extract _ _ | .build _ _ => true
  | .binOp _ t _ _ _ => (match P.underlying t with | some (.pointer _) => false | _ => true)
  | .call { callee := .builtin .len, .. } => true
  | .call { callee := .builtin .max, .. } => true
  | .call { callee := .builtin .min, .. } => true
  | .convert s _ _ => (match P.underlying s with | some (.int _) => true | _ => false)
  | _ => false

/-- one that reads memory alone -/
def readOp (o : Op) : Bool :=
  match o with
  | .load _ _ => true
  | .slice _ _ _ _ _ => true
  | .lookup _ _ _ _ => true
  | .typeAssert _ _ _ _ => true
  | _ => false

def clo1 (acc : List Nat) (o : Oper) : Nat :=
  o.after.toList.foldl (fun m e => if Region.binds .any e then m ||| 2 ^ e.on ||| acc.getD e.on 0 else m) 0

def clos (os : List Oper) : List Nat := os.foldl (fun acc o => acc ++ [clo1 acc o]) []

def bitsIn (a b : Nat) : Bool := a &&& b == a

/-- the places of a region, in an order that takes up what is needed as late as may be -/
def restOf (cl : List Nat) (m : Nat) (done : Nat) : List Nat :=
  (List.range cl.length).filter fun i => m.testBit i && !done.testBit i

def floatOp (o : Oper) : Bool :=
  match o.op, o.guard with
  | .alloc _, none => true
  | .buildSlice _ _ _, none => true
  | _, _ => false

def orderOf (P : Program) (os : List Oper) (cl : List Nat) : List Nat × Nat :=
  os.zipIdx.foldl (fun (acc : List Nat × Nat) (p : Oper × Nat) =>
    if pureOp P p.1.op || readOp p.1.op || floatOp p.1 then acc
    else (acc.1 ++ restOf cl (cl.getD p.2 0) acc.2 ++ [p.2], acc.2 ||| cl.getD p.2 0 ||| 2 ^ p.2)) ([], 0)

def drawOrder (P : Program) (os : List Oper) (cl : List Nat) : List Nat :=
  let (l, d) := orderOf P os cl
  l ++ restOf cl (2 ^ cl.length - 1) d

/-- what an operation looks at -/
def looks (os : List Oper) (o : Oper) : List Tmp :=
  (o.op.operands.toList.filterMap fun | .tmp t => some t | _ => none) ++
  (match o.guard with
   | some (g, _) => ((os[g]?).bind (·.dst)).toList
   | none => [])

/-- does another operation write what this one looks at, without an order between them? -/
def tmpsRight (os : List Oper) (cl : List Nat) : Bool :=
  os.zipIdx.all fun (o, j) =>
    (o.after.toList.all fun e => !Region.binds .any e || e.on < j) &&
    os.zipIdx.all fun (w, i) =>
      match w.dst with
      | none => true
      | some t => i == j || (o.dst != some t && (!(looks os o).contains t || (cl.getD j 0).testBit i || (cl.getD i 0).testBit j))

def fnEq : Fn → Fn → Bool
  | .func f, .func g => f == g
  | _, _ => false

def veq : Nat → Value → Value → Bool
  | _, .bool a, .bool b => a == b
  | _, .int k a, .int j b => k == j && a == b
  | _, .string a, .string b => a.data.toList == b.data.toList
  | _, .pointer a, .pointer b => a == b
  | _, .slice a n c, .slice b m d => a == b && n == m && c == d
  | n + 1, .agg a, .agg b => a.size == b.size && (a.toList.zip b.toList).all fun (x, y) => veq n x y
  | _, .map a, .map b => a == b
  | _, .nilFunc, .nilFunc => true
  | _, .nilIface, .nilIface => true
  | _, .tuple a, .tuple b => a.size == 0 && b.size == 0
  | n + 1, .iface t x, .iface u y => t == u && veq n x y
  | n + 1, .func p a b, .func q c d => fnEq p q && ((a.size == c.size && (a.toList.zip c.toList).all fun (x, y) => veq n x y) && (b.size == d.size && (b.toList.zip d.toList).all fun (x, y) => veq n x y))
  | _, _, _ => false

/-- an operation of a region, if it is carried out -/
def aDo (P : Program) (rec : Rec) (os : List Oper) (a : AAct) (H : AH) (o : Oper) : R (Value × AH) := do
  if ← aWanted os a o then aOp P rec a H o else .ok (undef, H)

/-! An allocation of a drawn region (of a variable, of a literal's list) floats: its block has its number from the region's start on; it is laid into the memory for those alone that wait for it. What lies in it is known where it comes up. -/
structure Pend where
  op : Nat
  id : Nat
  val : Value
  row : Row

def floatVal (o : Op) (id : Nat) : Value :=
  match o with
  | .buildSlice _ len _ => .slice (some ⟨id, 0, none⟩) len len
  | _ => .pointer (some ⟨id, 0, none⟩)

def floatRow (t : TypeId) (id esz : Nat) (zs : List Value) : Row := { cells := zs.map some, ty := t, fam := id, disp := 0, esz := esz, ro := false, solo := true }

/-- what lies in a floating allocation's block -/
def floatRowOf (P : Program) (a : AAct) (o : Op) (id : Nat) : R Row :=
  match o with
  | .alloc t => do .ok (floatRow t id 0 (← tZero P t))
  | .buildSlice t len parts =>
    match P.underlying t with
    | some (.slice elem) => do
      let ps ← allR (fun (p : Nat × Operand) => do .ok (p.1, ← a.eval p.2)) parts.toList
      let size ← tSize P elem
      if len * size > 16777216 then .error 72 else
      match Instr.fill (fun i => some (i * size, size)) (repeated (← tZero P elem) len).toArray ps with
      | some cells => .ok (floatRow elem id size cells.toList)
      | none => .error 73
    | _ => .error 74
  | _ => .error 75

def noRow : Row := { cells := [], ty := 0, fam := 0, disp := 0, esz := 0, ro := false, solo := true }

def reserve : List Oper → Nat → Nat → List Pend × Nat
  | [], _, next => ([], next)
  | o :: os, i, next =>
    match floatOp o with
    | true => match reserve os (i + 1) (next + 1) with
      | (l, n) => (⟨i, next, floatVal o.op next, noRow⟩ :: l, n)
    | false => reserve os (i + 1) next

def setRow (j : Nat) (r : Row) : List Pend → List Pend
  | [] => []
  | p :: l => (match p.op == j with
    | true => ⟨p.op, p.id, p.val, r⟩
    | false => p) :: setRow j r l

/-- those of the allocations that are among the operations c, and not among g, laid into the memory -/
def ins (c g : Nat) : List Pend → AH → AH
  | [], M => M
  | p :: ps, M => ins c g ps (if c.testBit p.op && !g.testBit p.op then M.set p.id (.row p.row) else M)

/-- a memory, and the allocations that lie in it -/
structure PM where
  H : AH
  got : Nat

def PM.ins (m : PM) (c : Nat) (ps : List Pend) : AH := Go.Eng.ins c m.got ps m.H

def floatsOf (ps : List Pend) : Nat := ps.foldl (fun m p => m ||| 2 ^ p.op) 0

def pendOf (ps : List Pend) (j : Nat) : Option Pend := ps.find? (fun p => p.op == j)

/-- a read tells the same in the memories ahead of the chief operations that it need not wait for -/
def sameBack (P : Program) (rec : Rec) (os : List Oper) (ps : List Pend) (a : AAct) (o : Oper) (v : Value) (c : Nat) : List (Nat × PM) → Bool
  | [] => true
  | (j, m) :: l =>
    if c.testBit j then true else
    (match aDo P rec os a (m.ins c ps) o with
    | .ok (u, _) => veq 3 v u
    | _ => false) && sameBack P rec os ps a o v c l

/-- done: what has been taken up; last: what had been, behind the last chief operation; chs: the chief operations, the last one first, each with the memory ahead of it -/
structure DS where
  done : Nat
  last : Nat
  chs : List (Nat × PM)
  a : AAct
  m : PM
  ps : List Pend

def dStep (P : Program) (rec : Rec) (os : List Oper) (cl : List Nat) (s : DS) (j : Nat) : R DS :=
  match os[j]? with
  | none => .error 122
  | some o =>
    if s.done.testBit j then .error 123 else
    if !bitsIn (cl.getD j 0) s.done then .error 124 else
    match floatOp o, pendOf s.ps j with
    | true, some p => do
      let r ← floatRowOf P s.a o.op p.id
      let a1 ← s.a.put o.dst p.val
      .ok { s with done := s.done ||| 2 ^ j, a := a1, ps := setRow j r s.ps }
    | true, none => .error 1240
    | false, _ => do
    let (v, H1) ← aDo P rec os s.a (s.m.ins (cl.getD j 0) s.ps) o
    let a1 ← s.a.put o.dst v
    if pureOp P o.op then .ok { s with done := s.done ||| 2 ^ j, a := a1 }
    else if readOp o.op then
      if sameBack P rec os s.ps s.a o v (cl.getD j 0) s.chs then .ok { s with done := s.done ||| 2 ^ j, a := a1 } else .error 125
    else
      if !bitsIn (s.done ^^^ s.last) (cl.getD j 0 ||| floatsOf s.ps) then .error 127 else
      if !(match s.chs with
        | [] => true
        | (c0, _) :: _ => (cl.getD j 0).testBit c0) then .error 126 else
      .ok { done := s.done ||| 2 ^ j, last := s.done ||| 2 ^ j, chs := (j, s.m) :: s.chs, a := a1, m := ⟨H1, s.m.got ||| cl.getD j 0⟩, ps := s.ps }

def aDraw (P : Program) (rec : Rec) (os : List Oper) (a : AAct) (H : AH) : R (AAct × AH) :=
  let cl := clos os
  if tmpsRight os cl then
    match reserve os 0 H.next with
    | (ps, n) => do
    let s ← (drawOrder P os cl).foldlM (dStep P rec os cl) { done := 0, last := 0, chs := [], a := a, m := ⟨{ H with next := n }, 0⟩, ps := ps }
    if s.done = 2 ^ os.length - 1 then .ok (s.a, s.m.ins s.done s.ps) else .error 121
  else .error 128

def aResults (P : Program) (H : AH) (a : AAct) (rs : List ResultVar) : R Value := do
  let vs ← allR (fun r => match r with
    | .tmp t => .ok ((a.tm.get t).getD undef)
    | .cell t ty => do
      let (id, off) ← addrOf ((a.tm.get t).getD undef)
      aLoad P H ty id off) rs
  match vs with
  | [v] => .ok v
  | _ => .ok (.tuple vs.toArray)

def startAct (n : Nat) (args : List Value) : AAct :=
  { tm := (args.zipIdx).foldl (fun t (v, i) => T.put AH.top t i v) (T.full 10), n := n, marks := [] }

/-- the body of a function that may be called with so many arguments -/
def bodyOf (P : Program) (f : FuncId) (args : List Value) : R (Func × Code) :=
  match P.funcs[f]? with
  | some fn =>
    match fn.body with
    | some c =>
      if fn.ntmps < args.length then .error 100 else
      if 1000000 < args.length then .error 1000 else
      if fn.name == "runtime.NumGoroutine" then .error 101 else .ok (fn, c)
    | none => .error 103
  | none => .error 104

/-- an activation leaves -/
def aLeave (P : Program) (rec : Rec) : List ADef → AH → R AH
  | [], H => .ok H
  | .mark m :: ms, H =>
    match H.get m with
    | some (.mark true) => aLeave P rec ms (H.set m (.mark false))
    | _ => .error 98
  | .call f args :: ms, H => do
    let (fn, c) ← bodyOf P f args
    match ← rec (.code none c (startAct fn.ntmps args)) H with
    | (.out .normal a, H) | (.out .ret a, H) =>
      if a.marks.isEmpty then do
        let _ ← aResults P H a fn.results.toList
        aLeave P rec ms H
      else .error 980
    | _ => .error 981

def aStep (P : Program) (rec : Rec) : Rec
  | .call f args, H => do
    let (fn, c) ← bodyOf P f args
    match ← rec (.code none c (startAct fn.ntmps args)) H with
    | (.out .normal a, H) | (.out .ret a, H) => do
      let H1 ← aLeave P rec a.marks H
      .ok (.val (← aResults P H1 a fn.results.toList), H1)
    | _ => .error 102
  | .code rnd c a, H => do
    match c with
    | .skip => .ok (.out .normal a, H)
    | .label _ => .ok (.out .normal a, H)
    | .ret => .ok (.out .ret a, H)
    | .exit id => .ok (.out (.exit id) a, H)
    | .goto l => .ok (.out (.goto l) a, H)
    | .seq x y =>
      match ← rec (.code rnd x a) H with
      | (.out .normal a, H) => rec (.code rnd y a) H
      | r => .ok r
    | .cond o x y =>
      match ← a.eval o with
      | .bool b => rec (.code rnd (if b then x else y) a) H
      | _ => .error 105
    | .block id x =>
      match ← rec (.code rnd x a) H with
      | (.out (.exit j) a, H) => .ok (.out (if j = id then .normal else .exit j) a, H)
      | r => .ok r
    | .loop x =>
      match ← rec (.code rnd x a) H with
      | (.out .normal a, H) => rec (.code rnd (.loop x) a) H
      | r => .ok r
    | .region _ ops false => do
      let (a, H) ← aOps P rec rnd ops.toList ops.toList a H
      .ok (.out .normal a, H)
    | .region _ ops true => do
      if !P.follows .mixedOrders then .error 120 else
      let (a, H) ← aDraw P rec ops.toList a H
      .ok (.out .normal a, H)
    | .rangeFunc g params assign body => do
      let (mk, a, H) ← (match rnd with
        | some l => (match H.get l with
          | some (.loop r) => .ok (r.mark, a, H)
          | _ => .error 107)
        | none => do
          let (m, H) ← H.new (.mark true)
          .ok (m, { a with marks := .mark m :: a.marks }, H))
      let (l, H) ← H.new (.loop { state := .ready, pending := none, fn := 0, tm := a.tm, n := a.n, params := params.toList, assign := assign, body := body, mark := mk })
      match ← a.eval g with
      | .func (.func f) first cap =>
        match ← rec (.call f (first.toList ++ [.func (.yield l) #[] #[]] ++ cap.toList)) H with
        | (.val _, H) =>
          match H.get l with
          | some (.loop r) =>
            if r.state == .busy then .error 108 else
            let H := H.set l (.loop { r with state := .exhausted })
            match r.pending with
            | none => .ok (.out .normal a, H)
            | some c => rec (.code rnd c a) H
          | _ => .error 109
        | _ => .error 110
      | _ => .error 111
    | _ => .error 106

def aRun (P : Program) : Nat → Rec
  | 0, _, _ => .error 0
  | n + 1, q, H => aStep P (aRun P n) q H

def AH.empty : AH := { objs := .nil, next := 0 }

end
end Go.Eng
