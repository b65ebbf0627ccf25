/- aG0 -/
import Derived.RangeFuncLeaves
import Derived.OrdersIn
import Derived.Laws.World
import Derived.WalkKit
import Derived.Laws.StructEq
set_option linter.unusedVariables false
set_option linter.unusedSimpArgs false
namespace Go.cy
noncomputable section
inductive T (α:Type) where
 | nil
 | node (v:Option α) (l r:T α)
def pick {α:Type} (b:Bool) (x y:α):α:=Bool.rec (motive:=λ _=>α) y x b
def T.get {α:Type} (t:T α):Nat->Option α:=
 T.rec (motive:=λ _=>Nat->Option α) (λ _=>none)
  (λ v _ _ gl gr k=>Bool.rec (motive:=λ _=>Option α) (Bool.rec (motive:=λ _=>Option α) (gr (Nat.sub (Nat.div k (nat_lit 2)) (nat_lit 1))) (gl (Nat.div k (nat_lit 2))) (Nat.beq (Nat.mod k (nat_lit 2)) (nat_lit 1))) v (Nat.beq k (nat_lit 0))) t
def T.one {α:Type} (n:Nat):Nat->α->T α:=
 Nat.rec (motive:=λ _=>Nat->α->T α) (λ _ _=>.nil)
  (λ _ p k x=>Bool.rec (motive:=λ _=>T α) (Bool.rec (motive:=λ _=>T α) (.node none .nil (p (Nat.sub (Nat.div k (nat_lit 2)) (nat_lit 1)) x)) (.node none (p (Nat.div k (nat_lit 2)) x) .nil) (Nat.beq (Nat.mod k (nat_lit 2)) (nat_lit 1))) (.node (some x) .nil .nil) (Nat.beq k (nat_lit 0))) n
def T.put {α:Type} (n:Nat) (t:T α):Nat->α->T α:=
 T.rec (motive:=λ _=>Nat->α->T α) (λ k x=>T.one n k x)
  (λ v l r pl pr k x=>Bool.rec (motive:=λ _=>T α) (Bool.rec (motive:=λ _=>T α) (.node v l (pr (Nat.sub (Nat.div k (nat_lit 2)) (nat_lit 1)) x)) (.node v (pl (Nat.div k (nat_lit 2)) x) r) (Nat.beq (Nat.mod k (nat_lit 2)) (nat_lit 1))) (.node (some x) l r) (Nat.beq k (nat_lit 0))) t
def T.oP {α:Type} (n:Nat):T α:=Nat.rec (motive:=λ _=>T α) .nil (λ _ t=>.node none t t) n
def T.map {α β:Type} (f:α->β) (t:T α):T β:=
 T.rec (motive:=λ _=>T β) .nil (λ v _ _ ml mr=>.node (v.map f) ml mr) t
abbrev R:=Except Nat
structure Row where
 cells:List (Option Value)
 ty:TypeId
 aU:Nat
 bJ:Nat
 esz:Nat
 ro:Bool
 cW:Bool
structure gY where
 state:LoopState
 pending:Option Code
 fn:FuncId
 tm:T Value
 n:Nat
 params:List Tmp
 assign:Code
 body:Code
 mark:Nat
structure kX where
 key:Value
 val:Value
 born:Nat
inductive AO where
 | map (es:List kX) (clock:Nat)
 | row (r:Row)
 | loop (l:gY)
 | mark (open_:Bool)
 | uV (s:ByteArray) (pos:Nat)
 | Ho (m:Option Nat)
structure AH where
 A4:T AO
 next:Nat
def AH.get (H:AH) (id:Nat):Option AO:=H.A4.get id
def AH.top:Nat:=48
def AH.set:AH->Nat->AO->AH
 | ⟨t,n⟩,id,o=>⟨T.put (Nat.succ id) t id o,n⟩
def AH.new:AH->AO->R (Nat×AH)
 | ⟨t,n⟩,o=>.ok (n,⟨T.put (Nat.succ n) t n o,Nat.succ n⟩)
def AH.row (H:AH) (id:Nat):R Row:=
 match H.get id with
 | some (.row r)=>.ok r
 | _=>.error 2
def jN:List (Option Value)->Nat->R (List Value)
 | _,0=>.ok []
 | some v :: l,n+1=>do .ok (v :: (<- jN l n))
 | _,_+1=>.error 3
def zg (l:List (Option Value)) (n:Nat):R (List (Option Value)):=
 if n<=l.length then .ok (l.take n) else .error 4
def cY (l:List (Option Value)) (off:Nat) (vs:List (Option Value)):List (Option Value):=
 l.take off++vs++l.drop (off+vs.length)
def Row.eE (lo N:Nat) (r:Row):Row:=
 { r with cells:=r.cells.zipIdx.map λ(c,j)=>if lo<=r.bJ+j/\r.bJ+j < N then none else c }
def AO.eE (aU lo N:Nat):AO->AO
 | .row r=>if r.aU=aU then .row (r.eE lo N) else .row r
 | o=>o
def AH.eE (H:AH) (aU lo N:Nat):AH:={ H with A4:=H.A4.map (AO.eE aU lo N) }
def bu:Value->Bool
 | .agg _=>false
 | .tuple _=>false
 | _=>true
def AH.gf (H:AH) (id off:Nat) (vs:List Value):R AH:=do
 let r<-H.row id
 if r.ro then .error 5 else
 if !vs.all bu then .error 6 else
 if off+vs.length<=r.cells.length then
  let H1:=if r.cW then H else H.eE r.aU (r.bJ+off) (r.bJ+off+vs.length)
  .ok (H1.set id (.row { r with cells:=cY r.cells off (vs.map some) }))
 else .error 7
def rm (P:Program) (t:TypeId):R Bool:=
 match P.underlying t with
 | some (.struct _)=>.ok true
 | some (.array _ _)=>.ok true
 | some _=>.ok false
 | none=>.error 8
def bD (P:Program) (t:TypeId):R Nat:=
 match P.info? t with
 | some i=>.ok i.size
 | none=>.error 9
def iL:Nat->Value->Bool
 | _,.bool _=>true
 | _,.int _ _=>true
 | _,.float _ _=>true
 | _,.complex _ _ _=>true
 | _,.string _=>true
 | _,.pointer none=>true
 | _,.slice none 0 0=>true
 | _,.map none=>true
 | _,.nilFunc=>true
 | _,.nilIface=>true
 | _,.func (.func _) ⟨[]⟩ ⟨[]⟩=>true
 | n+1,.iface _ v=>iL n v
 | n+1,.agg vs=>vs.toList.all (iL n)
 | n+1,.tuple vs=>vs.toList.all (iL n)
 | _,_=>false
def gd:Nat:=12
def jJ (P:Program) (t:TypeId):R Nat:=
 match P.info? t with
 | some i=>.ok i.bytes
 | none=>.error 24
def m9 (P:Program) (t:Option TypeId):R Bool:=
 match t with
 | some t=>(match P.underlying t with
  | some (.int _)=>.ok true
  | some _=>.ok false
  | none=>.error 23)
 | none=>.ok false
def eB (P:Program) (t:TypeId):R (List Value):=
 match P.info? t with
 | some i=>(match i.zero with
  | some v=>if v.cells.toList.all (iL gd) && v.cells.toList.length == i.size then .ok v.cells.toList else .error 10
  | none=>.error 10)
 | none=>.error 10
def dA {α:Type} (P:Program):Nat->Sem α->R α
 | _,.pure a=>.ok a
 | n+1,.program k=>dA P n (k P)
 | _,_=>.error 11
inductive rF where
 | mark (m:Nat)
 | call (f:FuncId) (args:List Value)
structure az where
 tm:T Value
 n:Nat
 bn:List rF
def az.eval (a:az):Operand->R Value
 | .tmp t=>.ok ((a.tm.get t).getD undef)
 | .const v=>if iL gd v then .ok v else .error 12
 | .global _=>.error 13
 | .func f=>.ok (.func (.func f) #[] #[])
def az.put:az->Option Tmp->Value->R az
 | a,none,_=>.ok a
 | ⟨tm,n,ms⟩,some d,v=>pick (Nat.ble (Nat.succ d) n) (pick (Nat.ble n (nat_lit 281474976710654)) (.ok ⟨T.put AH.top tm d v,n,ms⟩) (.error 14)) (.error 14)
inductive AX where
 | normal
 | exit (id:Nat)
 | goto (l:Nat)
 | ret
def c6:AX->Option Code
 | .normal=>none
 | .ret=>some .ret
 | .exit id=>some (.exit id)
 | .goto l=>some (.goto l)
inductive ZJ where
 | call (f:FuncId) (args:List Value)
 | code (rnd:Option Nat) (c:Code) (a:az)
inductive Ds where
 | val (v:Value)
 | ie (x:AX) (a:az)
abbrev eL:=ZJ->AH->R (Ds×AH)
def jq (P:Program) (H:AH) (t:TypeId) (id off:Nat):R Value:=do
 let r<-H.row id
 if<-rm P t then .ok (.agg (<- jN (r.cells.drop off) (<- bD P t)).toArray)
 else match r.cells[off]? with
  | some (some v)=>.ok v
  | _=>.error 15
def eg:Value->R (Nat×Nat)
 | .pointer (some ⟨id,off,none⟩)=>.ok (id,off)
 | _=>.error 16
def L7:Value->R Int
 | .int _ n=>.ok n
 | _=>.error 17
def gH (v:Value) (gF:Nat):R Nat:=
 match v with
 | .int _ n=>if 0<=n/\n<=gF then .ok n.toNat else .error 18
 | _=>.error 19
def newRow (H:AH) (t:TypeId) (esz:Nat) (cells:List (Option Value)):R (Nat×AH):=
 H.new (.row { cells:=cells,ty:=t,aU:=H.next,bJ:=0,esz:=esz,ro:=false,cW:=true })
def ba (z:List Value):Nat->List Value
 | 0=>[]
 | n+1=>z++ba z n
def IB (b:UInt8):Value:=.int .u8 b.toNat
def qh (H:AH) (id off n:Nat):R (List Value):=
 if n=0 then .ok [] else do
  let r<-H.row id
  jN (r.cells.drop off) n
def gj (P:Program) (H:AH) (elem:TypeId) (nO:Bool) (x:Value):R (List Value×Nat):=do
 let size<-bD P elem
 if nO then
  match x with
  | .int .i64 n=>if 0<=n/\n < 17179869184 then .ok (ba (<- eB P elem) n.toNat,n.toNat) else .error 20
  | _=>.error 21
 else match x with
  | .slice none 0 0=>.ok ([],0)
  | .slice (some ⟨id,off,none⟩) n _=>do
   .ok (<- qh H id off (n * size),n)
  | .string s=>if size=1 then .ok (s.data.toList.map IB,s.size) else .error 220
  | _=>.error 22
def iu (P:Program) (H:AH) (tw:TypeId) (jg:Option TypeId) (s x:Value):R (Value×AH):=do
 match P.underlying tw with
 | some (.slice elem)=>
  let nO<-m9 P jg
  let size<-bD P elem
  let bytes<-jJ P elem
  let (new,m)<-gj P H elem nO x
  if m * bytes > 281474976710656 then .error 250 else
  if m=0 then
   match s with
   | .slice none 0 0=>.ok (s,H)
   | .slice (some _) n c=>if n<=c then .ok (s,H) else .error 251
   | _=>.error 252
  else
  if size=0\/bytes=0 then .error 25 else do
  let _<-eB P elem
  match s with
  | .slice none 0 0=>
   if (5 * m+768) * bytes<=1125899906842624 then do
    let (id,H1)<-newRow H elem size (new.map some)
    .ok (.slice (some ⟨id,0,none⟩) m m,H1)
   else .error 26
  | .slice (some ⟨id,off,none⟩) n c=>do
   let r<-H.row id
   if r.ro then .error 27 else
   if n+m<=c then do
    let H1<-H.gf id (off+n * size) new
    .ok (.slice (some ⟨id,off,none⟩) (n+m) c,H1)
   else if (5 * (n+m)+768) * bytes<=1125899906842624 then
    if !new.all bu then .error 28 else
    if r.esz≠size then .error 280 else do
    let old<-zg (r.cells.drop off) (n * size)
    let lo:=r.bJ+off+n * size
    let H1:=if r.cW then H.set id (.row { (r.eE lo (lo+new.length)) with cW:=false }) else H.eE r.aU lo (lo+new.length)
    let (qF,H2)<-H1.new (.row { cells:=old++new.map some,ty:=r.ty,aU:=r.aU,bJ:=r.bJ+off,esz:=size,ro:=false,cW:=false })
    .ok (.slice (some ⟨qF,0,none⟩) (n+m) (n+m),H2)
   else .error 29
  | _=>.error 30
 | _=>.error 31
def bytesOf:List Value->R (List UInt8)
 | []=>.ok []
 | .int .u8 n :: l=>do .ok (UInt8.ofNat n.toNat :: (<- bytesOf l))
 | _ :: _=>.error 32
def vq (aM:TypeDesc) (k:Value):List kX->Nat->Option (Option Nat)
 | [],_=>some none
 | e :: es,i=>
  match Instr.sameNow aM k e.key with
  | some true=>some (some i)
  | some false=>vq aM k es (i+1)
  | none=>none
def sw (P:Program) (t:TypeId) (k:Value):List kX->Nat->R (Option Nat)
 | [],_=>.ok none
 | e :: es,i=>
  match dA P 4000 (Op.equal t k e.key) with
  | .ok true=>.ok (some i)
  | .ok false=>sw P t k es (i+1)
  | .error n=>.error n
def HG (P:Program) (t:TypeId) (k:Value) (es:List kX):R (Option Nat):=
 match P.underlying t with
 | some d=>
  match vq d k es 0 with
  | some r=>.ok r
  | none=>sw P t k es 0
 | none=>.error 600
def zH (H:AH) (m:Value):R (List kX):=
 match m with
 | .map none=>.ok []
 | .map (some id)=>
  match H.get id with
  | some (.map es _)=>.ok es
  | _=>.error 601
 | _=>.error 602
def zt (P:Program) (t:TypeId):R Value:=
 match P.info? t with
 | some i=>
  match i.zero with
  | some v=>if iL gd v then .ok v else .error 603
  | none=>.error 604
 | none=>.error 605
def HY (P:Program) (H:AH) (t:TypeId) (m k:Value) (sM:Bool):R Value:=
 match P.underlying t with
 | some (.map kt et)=>do
  if !iL gd k then .error 606 else
  let es<-zH H m
  let _<-dA P 4000 (Instr.checkKey es.isEmpty 10000 kt k)
  match<-HG P kt k es with
  | some j=>
   match es[j]? with
   | some e=>.ok (if sM then .tuple #[e.val,.bool true] else e.val)
   | none=>.error 607
  | none=>do
   let z<-zt P et
   .ok (if sM then .tuple #[z,.bool false] else z)
 | _=>.error 608
def z8 (P:Program) (H:AH) (t:TypeId) (m k v:Value):R AH:=
 match P.underlying t with
 | some (.map kt _)=>
  match m with
  | .map (some id)=>
   match H.get id with
   | some (.map es clock)=>do
    if !iL gd k then .error 609 else
    let _<-dA P 4000 (Instr.checkKey false 10000 kt k)
    match<-HG P kt k es with
    | some j=>
     match es[j]? with
     | some e=>if Instr.sameBits 10000 e.key k then .ok (H.set id (.map (es.set j { e with key:=k,val:=v }) clock)) else .error 610
     | none=>.error 611
    | none=>.ok (H.set id (.map (es++[{ key:=k,val:=v,born:=clock }]) (clock+1)))
   | _=>.error 612
  | _=>.error 613
 | _=>.error 614
def oh (P:Program) (x:Value) (asserted:TypeId) (sM:Bool):R Value:=
 match P.underlying asserted with
 | some (.interface _)=>.error 615
 | some _=>
  match x with
  | .iface t v=>
   if t=asserted then .ok (if sM then .tuple #[v,.bool true] else v)
   else if sM then do .ok (.tuple #[<- zt P asserted,.bool false]) else .error 616
  | .nilIface=>if sM then do .ok (.tuple #[<- zt P asserted,.bool false]) else .error 617
  | _=>.error 618
 | none=>.error 619
def sN (P:Program) (t:TypeId) (name:String):R FuncId:=
 match P.info? t with
 | some i=>
  match i.methods.find? (·.name == name) with
  | some m=>
   if m.path.isEmpty then
    match m.func,P.underlying t with
    | some (f,true),some (.pointer _)=>.ok f
    | some (_,true),_=>.error 620
    | some (_,false),some (.pointer _)=>.error 621
    | some (f,false),some _=>.ok f
    | _,_=>.error 622
   else .error 623
  | none=>.error 624
 | none=>.error 625
def dh:Value->Option Bool
 | .pointer none=>some true
 | .pointer (some _)=>some false
 | .slice none _ _=>some true
 | .slice (some _) _ _=>some false
 | .map none=>some true
 | .map (some _)=>some false
 | .nilFunc=>some true
 | .func _ _ _=>some false
 | .nilIface=>some true
 | .iface _ _=>some false
 | _=>none
def dB (P:Program) (t:TypeId):Value->Bool
 | .pointer _=>(match P.underlying t with | some (.pointer _)=>true | _=>false)
 | .slice _ _ _=>(match P.underlying t with | some (.slice _)=>true | _=>false)
 | .map _=>(match P.underlying t with | some (.map _ _)=>true | _=>false)
 | .nilFunc=>(match P.underlying t with | some (.func _ _ _)=>true | _=>false)
 | .func _ _ _=>(match P.underlying t with | some (.func _ _ _)=>true | _=>false)
 | _=>false
def jO (x:R Value):R Value:=
 match x with
 | .ok v=>if iL gd v then .ok v else .error 49
 | .error e=>.error e
def QA (P:Program) (xs ys:List Value):List Field->R Bool
 | []=>.ok true
 | f :: fs=>
  if f.name == "_" then .error 355 else do
  if<-rm P f.type then .error 356 else
  match P.underlying f.type,xs[f.offset]?,ys[f.offset]? with
  | some (.int _),some (.int k m),some (.int j n)=>if k=j then do .ok ((m == n) && (<- QA P xs ys fs)) else .error 357
  | some .bool,some (.bool p),some (.bool q)=>do .ok ((p == q) && (<- QA P xs ys fs))
  | some .string,some (.string p),some (.string q)=>do .ok ((p == q) && (<- QA P xs ys fs))
  | _,_,_=>.error 358
def Ys (P:Program) (op:BinOp) (t:TypeId) (a b:Value):R Value:=
 match P.underlying t,a,b with
 | some (.struct fs),.agg xs,.agg ys=>
  if P.stoodInHeld t || P.eqGuardType P.depth t then .error 359 else do
  let r<-QA P xs.toList ys.toList fs.toList
  match op with
  | .eql=>.ok (.bool r)
  | .neq=>.ok (.bool !r)
  | _=>.error 354
 | _,_,_=>.error 360
def iA (P:Program) (op:BinOp) (t:TypeId) (x y:Operand) (a b:Value):R Value:=
 match a,b with
 | .int _ _,.int _ _=>jO (dA P 0 (binOp op t a b))
 | .string _,.string _=>jO (dA P 0 (binOp op t a b))
 | _,_=>
  if iL gd a && iL gd b then
   match Ys P op t a b with
   | .ok v=>.ok v
   | .error _=>jO (dA P 2000 (do eqGuard op t x y a b; binOp op t a b))
  else match dh a,dh b with
   | some na,some nb=>
    if (na || nb) && dB P t a && dB P t b then
     match op with
     | .eql=>.ok (.bool (na && nb))
     | .neq=>.ok (.bool (!(na && nb)))
     | _=>.error 33
    else .error 34
   | _,_=>.error 35
def rn (P:Program) (H:AH) (op:BinOp) (t:TypeId) (a b:Value):R Value:=
 match P.underlying t,a,b with
 | some (.pointer elem),.pointer (some ⟨i,oi,none⟩),.pointer (some ⟨j,oj,none⟩)=>do
  if (<- bD P elem)=0 then .error 350 else
  if i=j then
   match op with
   | .eql=>.ok (.bool (oi == oj))
   | .neq=>.ok (.bool (!(oi == oj)))
   | _=>.error 351
  else match H.get i,H.get j with
   | some (.row r),some (.row r')=>
    if (r.cells.isEmpty || r'.cells.isEmpty)=true then .error 354 else
    if (r.cW && Nat.ble 2 r.esz)=true then
     match op with
     | .eql=>.ok (.bool false)
     | .neq=>.ok (.bool true)
     | _=>.error 351
    else if (r'.cW && Nat.ble 2 r'.esz)=true then
     match op with
     | .eql=>.ok (.bool false)
     | .neq=>.ok (.bool true)
     | _=>.error 351
    else .error 352
   | _,_=>.error 352
 | _,_,_=>.error 353
def dq:Value->Value->Bool
 | .pointer (some _),.pointer (some _)=>true
 | _,_=>false
def sx (P:Program) (H:AH) (src dst:TypeId) (x:Value):R (Value×AH):=do
 match x with
 | .slice none 0 0=>
  (match P.underlying src,P.underlying dst with
  | some (.slice e),some .string=>(match P.underlying e with
   | some (.int .u8)=>.ok (.string .empty,H)
   | _=>.error 36)
  | _,_=>.error 36)
 | .slice (some ⟨id,off,none⟩) n _=>
  (match P.underlying src,P.underlying dst with
  | some (.slice e),some .string=>(match P.underlying e with
   | some (.int .u8)=>do
    let cs<-qh H id off n
    .ok (.string ⟨(<- bytesOf cs).toArray⟩,H)
   | _=>.error 37)
  | some (.slice _),some (.slice e)=>(match P.underlying e with
   | some (.int .u8)=>do
    let r<-H.row id
    if r.ro then .error 381 else
    if r.cells.isEmpty then .error 382 else
    if (r.cW && Nat.ble 2 r.esz)=true then .error 385 else
    if src=dst/\n≠0 then .ok (x,H) else .error 383
   | _=>.error 384)
  | _,_=>.error 38)
 | .string s=>
  (match P.underlying src,P.underlying dst with
  | some .string,some (.slice e)=>(match P.underlying e with
   | some (.int .u8)=>do
    let (id,H1)<-newRow H e 1 ((s.data.toList.map IB).map some)
    .ok (.slice (some ⟨id,0,none⟩) s.size s.size,H1)
   | _=>.error 39)
  | _,_=>do .ok (<- jO (dA P 20 (convert src dst x)),H))
 | .int _ _=>do .ok (<- jO (dA P 20 (convert src dst x)),H)
 | _=>.error 40
def xq (v:Option Value) (gF kP:Nat):R Nat:=
 match v with
 | some v=>gH v gF
 | none=>.ok kP
def nZ (len cap:Nat) (lo N mx:Option Value):R (Nat×Nat×Nat):=do
 let m<-xq mx cap cap
 if N.isNone && mx.isSome then .error 41 else
 let h<-xq N m len
 let l<-xq lo h 0
 if l<=h/\h<=m then .ok (l,h,m) else .error 410
def wx (P:Program) (H:AH) (t:TypeId) (x:Value) (lo N mx:Option Value):R Value:=do
 match P.underlying t with
 | some (.array n elem)=>do
  let (id,off)<-eg x
  let (l,h,m)<-nZ n n lo N mx
  let size<-bD P elem
  .ok (.slice (some ⟨id,off+l * size,none⟩) (h - l) (m - l))
 | some .string=>(match x with
  | .string s=>do
   if mx.isSome then .error 42 else
   let (l,h,_)<-nZ s.size s.size lo N none
   .ok (.string (s.extract l h))
  | _=>.error 43)
 | some (.slice elem)=>(match x with
  | .slice none 0 0=>do
   let (_,_,_)<-nZ 0 0 lo N mx
   let _<-bD P elem
   .ok x
  | .slice (some ⟨id,off,none⟩) len cap=>do
   let (l,h,m)<-nZ len cap lo N mx
   let size<-bD P elem
   let r<-H.row id
   if r.esz=size\/r.esz=0 then
    .ok (.slice (some ⟨id,off+l * size,none⟩) (h - l) (m - l))
   else .error 440
  | _=>.error 44)
 | _=>.error 45
def DX (P:Program) (t:TypeId) (x:Value):R Value:=
 match P.underlying t,x with
 | some .string,.string s=>.ok (.int .i64 s.size)
 | some (.slice _),.slice _ n _=>.ok (.int .i64 n)
 | some (.array n _),_=>.ok (.int .i64 n)
 | _,_=>.error 46
def oc (P:Program) (t:TypeId) (cs:List Value) (off:Nat):R Value:=do
 if<-rm P t then
  let n<-bD P t
  if off+n<=cs.length then .ok (.agg ((cs.drop off).take n).toArray) else .error 47
 else match cs[off]? with
  | some v=>.ok v
  | none=>.error 48
def eU {α β:Type} (f:α->R β):List α->R (List β)
 | []=>.ok []
 | x :: l=>do
  let y<-f x
  .ok (y :: (<- eU f l))
def b9 (P:Program) (rec:eL) (a:az) (H:AH) (o:Oper):R (Value×AH):=do
 match o.op with
 | .move x | .assign x=>.ok (<- a.eval x,H)
 | .pick c x y=>
  match<-a.eval c with
  | .bool b=>.ok (<- a.eval (if b then x else y),H)
  | _=>.error 50
 | .alloc t=>
  let (id,H)<-newRow H t 0 ((<- eB P t).map some)
  .ok (.pointer (some ⟨id,0,none⟩),H)
 | .box t x=>
  let (id,H)<-newRow H t 0 ((<- a.eval x).cells.toList.map some)
  .ok (.pointer (some ⟨id,0,none⟩),H)
 | .load t x=>
  let (id,off)<-eg (<- a.eval x)
  .ok (<- jq P H t id off,H)
 | .store t x y=>
  let (id,off)<-eg (<- a.eval x)
  let v<-a.eval y
  if v.cells.size=(<- bD P t) then .ok (undef,<- H.gf id off v.cells.toList) else .error 51
 | .nilCheck x=>
  match<-a.eval x with
  | .pointer (some p)=>.ok (.pointer (some p),H)
  | .func (.func f) fs cs=>.ok (.func (.func f) fs cs,H)
  | .func (.yield l) fs cs=>.ok (.func (.yield l) fs cs,H)
  | _=>.error 52
 | .binOp op t x y _=>do
  let u<-a.eval x
  let w<-a.eval y
  if dq u w then .ok (<- rn P H op t u w,H) else .ok (<- iA P op t x y u w,H)
 | .unOp op _ x=>
  match<-a.eval x with
  | .int k n=>.ok (<- jO (dA P 0 (Op.unary op (.int k n))),H)
  | .bool b=>.ok (<- jO (dA P 0 (Op.unary op (.bool b))),H)
  | _=>.error 53
 | .convert s d x=>sx P H s d (<- a.eval x)
 | .makeInterface t x=>
  match P.underlying t with
  | some (.interface _)=>.error 54
  | some _=>.ok (.iface t (<- a.eval x),H)
  | none=>.error 55
 | .makeFunc (.func f) first cap=>.ok (.func (.func f) (<- eU a.eval first.toList).toArray (<- eU a.eval cap.toList).toArray,H)
 | .makeSlice t l c=>
  match P.underlying t with
  | some (.slice elem)=>
   let c<-gH (<- a.eval c) 281474976710656
   let l<-gH (<- a.eval l) c
   let bytes<-jJ P elem
   if bytes * c > 281474976710656 then .error 57 else
   let (id,H)<-newRow H elem (<- bD P elem) ((ba (<- eB P elem) c).map some)
   .ok (.slice (some ⟨id,0,none⟩) l c,H)
  | _=>.error 58
 | .slice t x lo N mx=>
  let ev (y:Option Operand):R (Option Value):=match y with
   | some y=>do .ok (some (<- a.eval y))
   | none=>.ok none
  .ok (<- wx P H t (<- a.eval x) (<- ev lo) (<- ev N) (<- ev mx),H)
 | .fieldAddr t x f=>
  match P.underlying t with
  | some (.struct fields)=>
   match fields[f]? with
   | some fd=>
    let (id,off)<-eg (<- a.eval x)
    if (<- bD P fd.type)=0 then .error 59 else .ok (.pointer (some ⟨id,off+fd.offset,none⟩),H)
   | none=>.error 60
  | _=>.error 61
 | .field t x f=>
  match P.underlying t,<- a.eval x with
  | some (.struct fields),.agg cs=>
   match fields[f]? with
   | some fd=>.ok (<- oc P fd.type cs.toList fd.offset,H)
   | none=>.error 62
  | _,_=>.error 63
 | .indexAddr t x i=>
  match P.underlying t,<- a.eval x with
  | some (.array n elem),.pointer (some ⟨id,off,none⟩)=>
   let i<-gH (<- a.eval i) (n - 1)
   if i < n then .ok (.pointer (some ⟨id,off+i * (<- bD P elem),none⟩),H) else .error 64
  | some (.slice elem),.slice (some ⟨id,off,none⟩) n _=>
   let i<-gH (<- a.eval i) (n - 1)
   if i < n then .ok (.pointer (some ⟨id,off+i * (<- bD P elem),none⟩),H) else .error 65
  | _,_=>.error 66
 | .index t x i=>
  match P.underlying t,<- a.eval x with
  | some .string,.string s=>
   let i<-gH (<- a.eval i) (s.size - 1)
   match s.data.toList[i]? with
   | some b=>.ok (.int .u8 b.toNat,H)
   | none=>.error 67
  | some (.array n elem),.agg cs=>
   let i<-gH (<- a.eval i) (n - 1)
   if i < n then .ok (<- oc P elem cs.toList (i * (<- bD P elem)),H) else .error 68
  | _,_=>.error 69
 | .extract x i=>
  match<-a.eval x with
  | .tuple vs=>match vs.toList[i]? with
   | some v=>.ok (v,H)
   | none=>.error 70
  | _=>.error 71
 | .build t bH=>
  let ps<-eU (λ(p:Nat×Operand)=>do .ok (p.1,<- a.eval p.2)) bH.toList
  let zs<-eB P t
  match P.underlying t with
  | some (.struct fields)=>
   let nc<-eU (λ(f:Field)=>do .ok (f.offset,<- bD P f.type)) fields.toList
   match Instr.fill (λ i=>nc[i]?) zs.toArray ps with
   | some cells=>.ok (.agg cells,H)
   | none=>.error 730
  | some (.array _ elem)=>
   let size<-bD P elem
   match Instr.fill (λ i=>some (i * size,size)) zs.toArray ps with
   | some cells=>.ok (.agg cells,H)
   | none=>.error 731
  | _=>.error 732
 | .buildSlice t len bH=>
  match P.underlying t with
  | some (.slice elem)=>
   let ps<-eU (λ(p:Nat×Operand)=>do .ok (p.1,<- a.eval p.2)) bH.toList
   let size<-bD P elem
   if len * size > 16777216 then .error 72 else
   match Instr.fill (λ i=>some (i * size,size)) (ba (<- eB P elem) len).toArray ps with
   | some cells=>
    let (id,H)<-newRow H elem size (cells.toList.map some)
    .ok (.slice (some ⟨id,0,none⟩) len len,H)
   | none=>.error 73
  | _=>.error 74
 | .call c=>
  let args<-eU a.eval c.args.toList
  match c.callee with
  | .value f=>
   match<-a.eval f with
   | .func (.func f) first cap=>
    match<-rec (.call f (first.toList++args++cap.toList)) H with
    | (.val v,H)=>.ok (v,H)
    | _=>.error 75
   | .func (.yield l) _ _=>
    match H.get l with
    | some (.loop r)=>
     if r.params.length≠args.length then .error 76 else
     match r.state with
     | .ready=>
      let act<-(r.params.zip args).foldlM (λ(b:az) (p:Tmp×Value)=>b.put (some p.1) p.2) { tm:=r.tm,n:=r.n,bn:=[] }
      match<-rec (.code (some l) r.assign act) H with
      | (.ie .normal act,H)=>
       match H.get l with
       | some (.loop r1)=>
        if r1.state≠.ready then .error 77 else
        match<-rec (.code (some l) r.body act) (H.set l (.loop { r1 with state:=.busy })) with
        | (.ie x _,H)=>
         match H.get l with
         | some (.loop r2)=>.ok (.bool (c6 x).isNone,H.set l (.loop { r2 with state:=if (c6 x).isNone then .ready else .done,pending:=c6 x }))
         | _=>.error 78
        | _=>.error 79
       | _=>.error 80
      | _=>.error 81
     | _=>.error 82
    | _=>.error 83
   | _=>.error 84
  | .invoke IC name=>
   match<-a.eval IC with
   | .iface t v=>do
    let f<-sN P t name
    match<-rec (.call f (v :: args)) H with
    | (.val v,H)=>.ok (v,H)
    | _=>.error 75
   | _=>.error 840
  | .builtin b=>
   match b,args with
   | .len,[x]=>
    match c.argTypes.toList with
    | t :: _=>.ok (<- DX P t x,H)
    | []=>.error 85
   | .cap,_=>.error 86
   | .append,[s,x]=>
    match c.argTypes.toList with
    | [t]=>iu P H t none s x
    | t :: u :: _=>iu P H t (some u) s x
    | []=>.error 87
   | .copy,[d,x]=>
    match c.argTypes.toList with
    | t :: _=>
     match P.underlying t with
     | some (.slice elem)=>
      let size<-bD P elem
      let (new,m)<-gj P H elem false x
      match d with
      | .slice none 0 0=>.ok (.int .i64 0,H)
      | .slice (some ⟨id,off,none⟩) n _=>
       let k:=min m n
       if k=0 then .ok (.int .i64 0,H) else
       .ok (.int .i64 k,<- H.gf id off (new.take (k * size)))
      | _=>.error 88
     | _=>.error 89
    | []=>.error 90
   | .max,_=>if args.all (iL gd) then .ok (<- jO (dA P 0 (Builtin.max_ #[] 0 args.toArray)),H) else .error 91
   | .min,_=>if args.all (iL gd) then .ok (<- jO (dA P 0 (Builtin.min_ #[] 0 args.toArray)),H) else .error 92
   | _,_=>.error 93
 | .makeMap _ none=>do
  let (id,H)<-H.new (.map [] 0)
  .ok (.map (some id),H)
 | .makeMap t (some x)=>
  match P.underlying t with
  | some (.map _ _)=>do
   let _<-L7 (<- a.eval x)
   let (id,H)<-H.new (.map [] 0)
   .ok (.map (some id),H)
  | _=>.error 626
 | .lookup t x i ok=>do
  let m<-a.eval x
  let k<-a.eval i
  .ok (<- HY P H t m k ok,H)
 | .mapUpdate t m k v=>do
  let m<-a.eval m
  let k<-a.eval k
  let v<-a.eval v
  .ok (undef,<- z8 P H t m k v)
 | .typeAssert x _ t ok=>do .ok (<- oh P (<- a.eval x) t ok,H)
 | .range t x=>
  match P.underlying t,<- a.eval x with
  | some .string,.string s=>do
   let (id,H)<-H.new (.uV s 0)
   .ok (.pointer (some ⟨id,0,none⟩),H)
  | some (.map _ _),.map none=>do
   let (id,H)<-H.new (.Ho none)
   .ok (.pointer (some ⟨id,0,none⟩),H)
  | some (.map _ _),.map (some m)=>
   match H.get m with
   | some (.map _ _)=>do
    let (id,H)<-H.new (.Ho (some m))
    .ok (.pointer (some ⟨id,0,none⟩),H)
   | _=>.error 954
  | _,_=>.error 950
 | .next x isString=>do
  match<-a.eval x with
  | .pointer (some ⟨id,0,none⟩)=>
   match H.get id,isString with
   | some (.uV s pos),true=>
    if pos < s.size then
     .ok (.tuple #[.bool true,goInt pos,.int .i32 (Utf8.decode s pos).1],H.set id (.uV s (pos+(Utf8.decode s pos).2)))
    else .ok (.tuple #[.bool false],H)
   | some (.Ho none),false=>.ok (.tuple #[.bool false],H)
   | some (.Ho (some m)),false=>
    match H.get m with
    | some (.map [] _)=>.ok (.tuple #[.bool false],H)
    | _=>.error 953
   | _,_=>.error 951
  | _=>.error 952
 | _=>.error 95
def dr (ops:List Oper) (a:az) (o:Oper):R Bool:=
 match o.guard with
 | none=>.ok true
 | some (j,want)=>
  match (ops[j]?).bind (·.dst) with
  | some d=>
   if d < a.n then
    match a.tm.get d with
    | some (.bool b)=>.ok (b == want)
    | _=>.ok false
   else .error 96
  | none=>.error 97
def dR:Op->Option Call
 | .defer c=>some c
 | _=>none
def tX (a:az) (c:Call):R rF:=do
 let args<-eU a.eval c.args.toList
 match c.callee with
 | .value f=>
  match<-a.eval f with
  | .func (.func f) first cap=>.ok (.call f (first.toList++args++cap.toList))
  | _=>.error 1100
 | _=>.error 1101
def eW (P:Program) (rec:eL) (rnd:Option Nat) (all:List Oper):List Oper->az->AH->R (az×AH)
 | [],a,H=>.ok (a,H)
 | o :: os,a,H=>do
  if<-dr all a o then
   match dR o.op with
   | some c=>
    if rnd.isSome then .error 1102 else do
    let d<-tX a c
    eW P rec rnd all os (<- ({ a with bn:=d :: a.bn } : az).put o.dst undef) H
   | none=>do
    let (v,H)<-b9 P rec a H o
    eW P rec rnd all os (<- a.put o.dst v) H
  else eW P rec rnd all os (<- a.put o.dst undef) H
def eJ (P:Program) (o:Op):Bool:=
 match o with
 | .move _ | .assign _ | .pick _ _ _ | .nilCheck _ | .unOp _ _ _ | .makeInterface _ _ | .makeFunc _ _ _ | .fieldAddr _ _ _ | .field _ _ _
 | .indexAddr _ _ _ | .index _ _ _ | .extract _ _ | .build _ _=>true
 | .binOp _ t _ _ _=>(match P.underlying t with | some (.pointer _)=>false | _=>true)
 | .call { callee:=.builtin .len,.. }=>true
 | .call { callee:=.builtin .max,.. }=>true
 | .call { callee:=.builtin .min,.. }=>true
 | .convert s _ _=>(match P.underlying s with | some (.int _)=>true | _=>false)
 | _=>false
def fC (o:Op):Bool:=
 match o with
 | .load _ _=>true
 | .slice _ _ _ _ _=>true
 | .lookup _ _ _ _=>true
 | .typeAssert _ _ _ _=>true
 | _=>false
def DY (acc:List Nat) (o:Oper):Nat:=
 o.after.toList.foldl (λ m e=>if Region.binds .any e then m ||| 2 ^ e.on ||| acc.getD e.on 0 else m) 0
def ix (os:List Oper):List Nat:=os.foldl (λ acc o=>acc++[DY acc o]) []
def c8 (a b:Nat):Bool:=a &&& b == a
def Ma (cl:List Nat) (m:Nat) (done:Nat):List Nat:=
 (List.range cl.length).filter λ i=>m.testBit i && !done.testBit i
def bP (o:Oper):Bool:=
 match o.op,o.guard with
 | .alloc _,none=>true
 | .buildSlice _ _ _,none=>true
 | _,_=>false
def PY (P:Program) (os:List Oper) (cl:List Nat):List Nat×Nat:=
 os.zipIdx.foldl (λ(acc:List Nat×Nat) (p:Oper×Nat)=>
  if eJ P p.1.op || fC p.1.op || bP p.1 then acc
  else(acc.1++Ma cl (cl.getD p.2 0) acc.2++[p.2],acc.2 ||| cl.getD p.2 0 ||| 2 ^ p.2)) ([],0)
def sU (P:Program) (os:List Oper) (cl:List Nat):List Nat:=
 let (l,d):=PY P os cl
 l++Ma cl (2 ^ cl.length - 1) d
def Bv (os:List Oper) (o:Oper):List Tmp:=
 (o.op.operands.toList.filterMap fun | .tmp t=>some t | _=>none) ++
 (match o.guard with
  | some (aa,_)=>((os[aa]?).bind (·.dst)).toList
  | none=>[])
def pt (os:List Oper) (cl:List Nat):Bool:=
 os.zipIdx.all λ(o,j)=>
  (o.after.toList.all λ e=>!Region.binds .any e || e.on < j) &&
  os.zipIdx.all λ(w,i)=>
   match w.dst with
   | none=>true
   | some t=>i == j || (o.dst != some t && (!(Bv os o).contains t || (cl.getD j 0).testBit i || (cl.getD i 0).testBit j))
def SU:Fn->Fn->Bool
 | .func f,.func aa=>f == aa
 | _,_=>false
def yJ:Nat->Value->Value->Bool
 | _,.bool a,.bool b=>a == b
 | _,.int k a,.int j b=>k == j && a == b
 | _,.string a,.string b=>a.data.toList == b.data.toList
 | _,.pointer a,.pointer b=>a == b
 | _,.slice a n c,.slice b m d=>a == b && n == m && c == d
 | n+1,.agg a,.agg b=>a.size == b.size && (a.toList.zip b.toList).all λ(x,y)=>yJ n x y
 | _,.map a,.map b=>a == b
 | _,.nilFunc,.nilFunc=>true
 | _,.nilIface,.nilIface=>true
 | _,.tuple a,.tuple b=>a.size == 0 && b.size == 0
 | n+1,.iface t x,.iface u y=>t == u && yJ n x y
 | n+1,.func p a b,.func q c d=>SU p q && ((a.size == c.size && (a.toList.zip c.toList).all λ(x,y)=>yJ n x y) && (b.size == d.size && (b.toList.zip d.toList).all λ(x,y)=>yJ n x y))
 | _,_,_=>false
def tp (P:Program) (rec:eL) (os:List Oper) (a:az) (H:AH) (o:Oper):R (Value×AH):=do
 if<-dr os a o then b9 P rec a H o else .ok (undef,H)
structure c5 where
 op:Nat
 id:Nat
 val:Value
 row:Row
def o7 (o:Op) (id:Nat):Value:=
 match o with
 | .buildSlice _ len _=>.slice (some ⟨id,0,none⟩) len len
 | _=>.pointer (some ⟨id,0,none⟩)
def vr (t:TypeId) (id esz:Nat) (zs:List Value):Row:={ cells:=zs.map some,ty:=t,aU:=id,bJ:=0,esz:=esz,ro:=false,cW:=true }
def fP (P:Program) (a:az) (o:Op) (id:Nat):R Row:=
 match o with
 | .alloc t=>do .ok (vr t id 0 (<- eB P t))
 | .buildSlice t len bH=>
  match P.underlying t with
  | some (.slice elem)=>do
   let ps<-eU (λ(p:Nat×Operand)=>do .ok (p.1,<- a.eval p.2)) bH.toList
   let size<-bD P elem
   if len * size > 16777216 then .error 72 else
   match Instr.fill (λ i=>some (i * size,size)) (ba (<- eB P elem) len).toArray ps with
   | some cells=>.ok (vr elem id size cells.toList)
   | none=>.error 73
  | _=>.error 74
 | _=>.error 75
def Rb:Row:={ cells:=[],ty:=0,aU:=0,bJ:=0,esz:=0,ro:=false,cW:=true }
def iT:List Oper->Nat->Nat->List c5×Nat
 | [],_,next=>([],next)
 | o :: os,i,next=>
  match bP o with
  | true=>match iT os (i+1) (next+1) with
   | (l,n)=>(⟨i,next,o7 o.op next,Rb⟩ :: l,n)
  | false=>iT os (i+1) next
def jm (j:Nat) (r:Row):List c5->List c5
 | []=>[]
 | p :: l=>(match p.op == j with
  | true=>⟨p.op,p.id,p.val,r⟩
  | false=>p) :: jm j r l
def dy (c aa:Nat):List c5->AH->AH
 | [],M=>M
 | p :: ps,M=>dy c aa ps (if c.testBit p.op && !aa.testBit p.op then M.set p.id (.row p.row) else M)
structure PM where
 H:AH
 gx:Nat
def PM.dy (m:PM) (c:Nat) (ps:List c5):AH:=Go.cy.dy c m.gx ps m.H
def iI (ps:List c5):Nat:=ps.foldl (λ m p=>m ||| 2 ^ p.op) 0
def gh (ps:List c5) (j:Nat):Option c5:=ps.find? (λ p=>p.op == j)
def dw (P:Program) (rec:eL) (os:List Oper) (ps:List c5) (a:az) (o:Oper) (v:Value) (c:Nat):List (Nat×PM)->Bool
 | []=>true
 | (j,m) :: l=>
  if c.testBit j then true else
  (match tp P rec os a (m.dy c ps) o with
  | .ok (u,_)=>yJ 3 v u
  | _=>false) && dw P rec os ps a o v c l
structure DS where
 done:Nat
 bL:Nat
 ed:List (Nat×PM)
 a:az
 m:PM
 ps:List c5
def eY (P:Program) (rec:eL) (os:List Oper) (cl:List Nat) (s:DS) (j:Nat):R DS:=
 match os[j]? with
 | none=>.error 122
 | some o=>
  if s.done.testBit j then .error 123 else
  if !c8 (cl.getD j 0) s.done then .error 124 else
  match bP o,gh s.ps j with
  | true,some p=>do
   let r<-fP P s.a o.op p.id
   let a1<-s.a.put o.dst p.val
   .ok { s with done:=s.done ||| 2 ^ j,a:=a1,ps:=jm j r s.ps }
  | true,none=>.error 1240
  | false,_=>do
  let (v,H1)<-tp P rec os s.a (s.m.dy (cl.getD j 0) s.ps) o
  let a1<-s.a.put o.dst v
  if eJ P o.op then .ok { s with done:=s.done ||| 2 ^ j,a:=a1 }
  else if fC o.op then
   if dw P rec os s.ps s.a o v (cl.getD j 0) s.ed then .ok { s with done:=s.done ||| 2 ^ j,a:=a1 } else .error 125
  else
   if !c8 (s.done ^^^ s.bL) (cl.getD j 0 ||| iI s.ps) then .error 127 else
   if !(match s.ed with
    | []=>true
    | (c0,_) :: _=>(cl.getD j 0).testBit c0) then .error 126 else
   .ok { done:=s.done ||| 2 ^ j,bL:=s.done ||| 2 ^ j,ed:=(j,s.m) :: s.ed,a:=a1,m:=⟨H1,s.m.gx ||| cl.getD j 0⟩,ps:=s.ps }
def rP (P:Program) (rec:eL) (os:List Oper) (a:az) (H:AH):R (az×AH):=
 let cl:=ix os
 if pt os cl then
  match iT os 0 H.next with
  | (ps,n)=>do
  let s<-(sU P os cl).foldlM (eY P rec os cl) { done:=0,bL:=0,ed:=[],a:=a,m:=⟨{ H with next:=n },0⟩,ps:=ps }
  if s.done=2 ^ os.length - 1 then .ok (s.a,s.m.dy s.done s.ps) else .error 121
 else .error 128
def c9 (P:Program) (H:AH) (a:az) (rs:List ResultVar):R Value:=do
 let vs<-eU (λ r=>match r with
  | .tmp t=>.ok ((a.tm.get t).getD undef)
  | .cell t ty=>do
   let (id,off)<-eg ((a.tm.get t).getD undef)
   jq P H ty id off) rs
 match vs with
 | [v]=>.ok v
 | _=>.ok (.tuple vs.toArray)
def cO (n:Nat) (args:List Value):az:=
 { tm:=(args.zipIdx).foldl (λ t (v,i)=>T.put AH.top t i v) (T.oP 10),n:=n,bn:=[] }
def mj (P:Program) (f:FuncId) (args:List Value):R (Func×Code):=
 match P.funcs[f]? with
 | some fn=>
  match fn.body with
  | some c=>
   if fn.ntmps < args.length then .error 100 else
   if 1000000 < args.length then .error 1000 else
   if fn.name == "runtime.NumGoroutine" then .error 101 else .ok (fn,c)
  | none=>.error 103
 | none=>.error 104
def eh (P:Program) (rec:eL):List rF->AH->R AH
 | [],H=>.ok H
 | .mark m :: ms,H=>
  match H.get m with
  | some (.mark true)=>eh P rec ms (H.set m (.mark false))
  | _=>.error 98
 | .call f args :: ms,H=>do
  let (fn,c)<-mj P f args
  match<-rec (.code none c (cO fn.ntmps args)) H with
  | (.ie .normal a,H) | (.ie .ret a,H)=>
   if a.bn.isEmpty then do
    let _<-c9 P H a fn.results.toList
    eh P rec ms H
   else .error 980
  | _=>.error 981
def bO (P:Program) (rec:eL):eL
 | .call f args,H=>do
  let (fn,c)<-mj P f args
  match<-rec (.code none c (cO fn.ntmps args)) H with
  | (.ie .normal a,H) | (.ie .ret a,H)=>do
   let H1<-eh P rec a.bn H
   .ok (.val (<- c9 P H1 a fn.results.toList),H1)
  | _=>.error 102
 | .code rnd c a,H=>do
  match c with
  | .skip=>.ok (.ie .normal a,H)
  | .label _=>.ok (.ie .normal a,H)
  | .ret=>.ok (.ie .ret a,H)
  | .exit id=>.ok (.ie (.exit id) a,H)
  | .goto l=>.ok (.ie (.goto l) a,H)
  | .seq x y=>
   match<-rec (.code rnd x a) H with
   | (.ie .normal a,H)=>rec (.code rnd y a) H
   | r=>.ok r
  | .cond o x y=>
   match<-a.eval o with
   | .bool b=>rec (.code rnd (if b then x else y) a) H
   | _=>.error 105
  | .block id x=>
   match<-rec (.code rnd x a) H with
   | (.ie (.exit j) a,H)=>.ok (.ie (if j=id then .normal else .exit j) a,H)
   | r=>.ok r
  | .loop x=>
   match<-rec (.code rnd x a) H with
   | (.ie .normal a,H)=>rec (.code rnd (.loop x) a) H
   | r=>.ok r
  | .region _ ops false=>do
   let (a,H)<-eW P rec rnd ops.toList ops.toList a H
   .ok (.ie .normal a,H)
  | .region _ ops true=>do
   if !P.follows .mixedOrders then .error 120 else
   let (a,H)<-rP P rec ops.toList a H
   .ok (.ie .normal a,H)
  | .rangeFunc aa params assign body=>do
   let (mk,a,H)<-(match rnd with
    | some l=>(match H.get l with
     | some (.loop r)=>.ok (r.mark,a,H)
     | _=>.error 107)
    | none=>do
     let (m,H)<-H.new (.mark true)
     .ok (m,{ a with bn:=.mark m :: a.bn },H))
   let (l,H)<-H.new (.loop { state:=.ready,pending:=none,fn:=0,tm:=a.tm,n:=a.n,params:=params.toList,assign:=assign,body:=body,mark:=mk })
   match<-a.eval aa with
   | .func (.func f) first cap=>
    match<-rec (.call f (first.toList++[.func (.yield l) #[] #[]]++cap.toList)) H with
    | (.val _,H)=>
     match H.get l with
     | some (.loop r)=>
      if r.state == .busy then .error 108 else
      let H:=H.set l (.loop { r with state:=.exhausted })
      match r.pending with
      | none=>.ok (.ie .normal a,H)
      | some c=>rec (.code rnd c a) H
     | _=>.error 109
    | _=>.error 110
   | _=>.error 111
  | _=>.error 106
def A5 (P:Program):Nat->eL
 | 0,_,_=>.error 0
 | n+1,q,H=>bO P (A5 P n) q H
def AH.empty:AH:={ A4:=.nil,next:=0 }
end
end Go.cy
namespace Go.cy
noncomputable section
section abR
variable {α β:Type}
theorem T.hG (v:Option α) (l r:T α) (k:Nat):(T.node v l r).get k=if k=0 then v else if k % 2=1 then l.get (k / 2) else r.get (k / 2 - 1):=by
 show pick (Nat.beq k 0) v (pick (Nat.beq (k % 2) 1) (l.get (k / 2)) (r.get (k / 2 - 1)))=_;by_cases h:k=0
 ·subst h; rfl
 ·have h0:Nat.beq k 0=false:=by rw[<- Bool.not_eq_true,Nat.beq_eq]; exact h
  rw[h0,if_neg h];by_cases B:k % 2=1
  ·rw[if_pos B,B]; rfl
  ·have D:Nat.beq (k % 2) 1=false:=by rw[<- Bool.not_eq_true,Nat.beq_eq]; exact B
   rw[D,if_neg B]; rfl
theorem T.EB (n:Nat) (v:Option α) (l r:T α) (k:Nat) (x:α):T.put n (T.node v l r) k x=if k=0 then .node (some x) l r else if k % 2=1 then .node v (T.put n l (k / 2) x) r else .node v l (T.put n r (k / 2 - 1) x):=by
 show pick (Nat.beq k 0) (T.node (some x) l r) (pick (Nat.beq (k % 2) 1) (T.node v (T.put n l (k / 2) x) r) (T.node v l (T.put n r (k / 2 - 1) x)))=_;by_cases h:k=0
 ·subst h; rfl
 ·have h0:Nat.beq k 0=false:=by rw[<- Bool.not_eq_true,Nat.beq_eq]; exact h
  rw[h0,if_neg h];by_cases B:k % 2=1
  ·rw[if_pos B,B]; rfl
  ·have D:Nat.beq (k % 2) 1=false:=by rw[<- Bool.not_eq_true,Nat.beq_eq]; exact B
   rw[D,if_neg B]; rfl
theorem T.M3 (n k:Nat) (x:α):T.one (n+1) k x=if k=0 then .node (some x) .nil .nil else if k % 2=1 then .node none (T.one n (k / 2) x) .nil else .node none .nil (T.one n (k / 2 - 1) x):=by
 show pick (Nat.beq k 0) (T.node (some x) .nil .nil) (pick (Nat.beq (k % 2) 1) (T.node none (T.one n (k / 2) x) .nil) (T.node none .nil (T.one n (k / 2 - 1) x)))=_;by_cases h:k=0
 ·subst h; rfl
 ·have h0:Nat.beq k 0=false:=by rw[<- Bool.not_eq_true,Nat.beq_eq]; exact h
  rw[h0,if_neg h];by_cases B:k % 2=1
  ·rw[if_pos B,B]; rfl
  ·have D:Nat.beq (k % 2) 1=false:=by rw[<- Bool.not_eq_true,Nat.beq_eq]; exact B
   rw[D,if_neg B]; rfl
theorem T.vg (k:Nat):(T.nil:T α).get k=none:=rfl
theorem T.PZ:∀ (n k:Nat) (x:α) (j:Nat),k+1 < 2 ^ n->(T.one n k x).get j=if j=k then some x else none:=by
 intro n
 induction n with
 | zero=>intro k x j h; simp at h
 | succ n ih=>
  intro k x j h;have U:2 ^ (n+1)=2 * 2 ^ n:=by rw[Nat.pow_succ]; omega
  rw[T.M3];by_cases h0:k=0
  ·subst h0;rw[if_pos rfl,T.hG];by_cases X:j=0
   ·simp[X]
   ·simp[X,T.vg]
  ·rw[if_neg h0];by_cases B:k % 2=1
   ·rw[if_pos B,T.hG,ih _ _ _ (by omega),T.vg];by_cases X:j=0
    ·simp[X,Ne.symm h0]
    ·rw[if_neg X];by_cases xe:j % 2=1
     ·rw[if_pos xe];by_cases e:j=k
      ·subst e; simp
      ·have:¬ j / 2=k / 2:=by omega
       rw[if_neg this,if_neg e]
     ·have:¬ j=k:=by intro e; subst e; exact xe B
      rw[if_neg xe,if_neg this]
   ·rw[if_neg B,T.hG,ih _ _ _ (by omega),T.vg];by_cases X:j=0
    ·simp[X,Ne.symm h0]
    ·rw[if_neg X];by_cases xe:j % 2=1
     ·have:¬ j=k:=by intro e; subst e; exact B xe
      rw[if_pos xe,if_neg this]
     ·rw[if_neg xe];by_cases e:j=k
      ·subst e; simp
      ·have:¬ j / 2 - 1=k / 2 - 1:=by omega
       rw[if_neg this,if_neg e]
theorem T.jB (n:Nat) (t:T α):∀ (k:Nat) (x:α) (j:Nat),k+1 < 2 ^ n->(T.put n t k x).get j=if j=k then some x else t.get j:=by
 induction t with
 | nil=>
  intro k x j h;rw[T.vg];exact T.PZ n k x j h
 | node v l r ZK ZL=>
  intro k x j h;rw[T.EB,T.hG v l r j];by_cases h0:k=0
  ·subst h0;rw[if_pos rfl,T.hG];by_cases X:j=0
   ·simp[X]
   ·simp[X]
  ·rw[if_neg h0];by_cases B:k % 2=1
   ·rw[if_pos B,T.hG,ZK _ _ _ (by omega)];by_cases X:j=0
    ·simp[X,Ne.symm h0]
    ·rw[if_neg X];by_cases xe:j % 2=1
     ·rw[if_pos xe];by_cases e:j=k
      ·subst e; simp
      ·have:¬ j / 2=k / 2:=by omega
       rw[if_neg this,if_neg e,if_neg X,if_pos xe]
     ·have:¬ j=k:=by intro e; subst e; exact xe B
      rw[if_neg xe,if_neg this,if_neg X,if_neg xe]
   ·rw[if_neg B,T.hG,ZL _ _ _ (by omega)];by_cases X:j=0
    ·simp[X,Ne.symm h0]
    ·rw[if_neg X];by_cases xe:j % 2=1
     ·have:¬ j=k:=by intro e; subst e; exact B xe
      rw[if_pos xe,if_neg this,if_neg X,if_pos xe]
     ·rw[if_neg xe];by_cases e:j=k
      ·subst e; simp
      ·have:¬ j / 2 - 1=k / 2 - 1:=by omega
       rw[if_neg this,if_neg e,if_neg X,if_neg xe]
theorem T.P0 (f:α->β):∀ (t:T α) (k:Nat),(t.map f).get k=(t.get k).map f:=by
 intro t
 induction t with
 | nil=>intro k; rfl
 | node v l r ZK ZL=>
  intro k;show(T.node (v.map f) (l.map f) (r.map f)).get k=_;simp only[T.hG];split
  ·rfl
  ·split
   ·exact ZK _
   ·exact ZL _
theorem T.lT:∀ (n k:Nat),(T.oP n:T α).get k=none
 | 0,k=>rfl
 | n+1,k=>by
  show(T.node none (T.oP n) (T.oP n)).get k=none;rw[T.hG,T.lT n,T.lT n];simp
end abR
theorem TE (n:Nat):n+1 < 2 ^ (n+1)\/n=0:=by
 induction n with
 | zero=>exact .inr rfl
 | succ n ih=>
  left;rcases ih with h | rfl
  ·rw[Nat.pow_succ]; omega
  ·decide
theorem T.o8 {α:Type} (t:T α) (k:Nat) (x:α) (j:Nat):(T.put (Nat.succ k) t k x).get j=if j=k then some x else t.get j:=by
 rcases TE k with h | rfl
 ·exact T.jB _ t k x j h
 ·cases t with
  | nil=>
   show(T.node (some x) .nil .nil).get j=_;rw[T.hG];by_cases h:j=0
   ·simp[h]
   ·simp only[h,if_false,T.vg]; split <;> rfl
  | node v l r=>
   show(T.node (some x) l r).get j=_;rw[T.hG,T.hG];by_cases h:j=0 <;> simp[h]
theorem AH.bS {H:AH} {id:Nat} {o:AO} (j:Nat):(H.set id o).get j=if j=id then some o else H.get j:=
 T.o8 _ _ _ _
theorem AH.dS (H:AH) (aU lo N j:Nat):(H.eE aU lo N).get j=(H.get j).map (AO.eE aU lo N):=T.P0 _ _ _
theorem AH.pV {H H':AH} {o:AO} {id:Nat} (h:H.new o=.ok (id,H')) :
  id=H.next/\True/\H'.next=H.next+1/\∀ j,H'.get j=if j=H.next then some o else H.get j:=by
 obtain⟨t,n⟩:=H;simp only[AH.new] at h;cases h;exact⟨rfl,trivial,rfl,λ j=>T.o8 _ _ _ _⟩
theorem az.zu (a:az) (d:Option Tmp) (v:Value):a.put d v=match d with
  | none=>.ok a
  | some d=>if d < a.n/\a.n < 281474976710655 then .ok { a with tm:=T.put AH.top a.tm d v } else .error 14:=by
 obtain⟨tm,n,ms⟩:=a;cases d with
 | none=>rfl
 | some d=>
  show pick (Nat.ble (Nat.succ d) n) (pick (Nat.ble n 281474976710654) (Except.ok (az.mk (T.put AH.top tm d v) n ms)) (Except.error 14)) (Except.error 14)=_;by_cases h:d < n
  ·have B:Nat.ble (Nat.succ d) n=true:=by rw[Nat.ble_eq]; exact h
   rw[B];by_cases D:n < 281474976710655
   ·have V:Nat.ble n 281474976710654=true:=by rw[Nat.ble_eq]; omega
    rw[V]; simp[h,D,pick]
   ·have V:Nat.ble n 281474976710654=false:=by rw[<- Bool.not_eq_true,Nat.ble_eq]; omega
    rw[V]; simp[D,pick]
  ·have B:Nat.ble (Nat.succ d) n=false:=by rw[<- Bool.not_eq_true,Nat.ble_eq]; exact h
   rw[B]; simp[h,pick]
theorem AH.rX {H:AH} {id:Nat} {r:Row} (h:H.row id=.ok r):H.get id=some (.row r):=by
 unfold AH.row at h;split at h
 ·rename_i h'; cases h; exact h'
 ·cases h
structure Pl where
 cq:Nat
 base:Nat
 esz:Nat
 ext:Nat
abbrev cx:=Nat->Option Pl
inductive VR (ρ:cx):Value->Value->Prop
 | bool (b:Bool):VR ρ (.bool b) (.bool b)
 | int (k:IntKind) (n:Int):VR ρ (.int k n) (.int k n)
 | float (k:FloatKind) (n:Nat):VR ρ (.float k n) (.float k n)
 | complex (k:FloatKind) (n m:Nat):VR ρ (.complex k n m) (.complex k n m)
 | string (s:ByteArray):VR ρ (.string s) (.string s)
 | Cy:VR ρ (.pointer none) (.pointer none)
 | ptr {id off:Nat} {pl:Pl} : ρ id=some pl->VR ρ (.pointer (some ⟨id,off,none⟩)) (.pointer (some ⟨pl.cq,pl.base+off,none⟩))
 | fl:VR ρ (.slice none 0 0) (.slice none 0 0)
 | slice {id off n c c':Nat} {pl:Pl} : ρ id=some pl->(c'=c\/(pl.esz≠0/\c<=c'/\off+c' * pl.esz<=pl.ext)) ->
   VR ρ (.slice (some ⟨id,off,none⟩) n c) (.slice (some ⟨pl.cq,pl.base+off,none⟩) n c')
 | dG {id off:Nat} {a':Addr} : VR ρ (.slice (some ⟨id,off,none⟩) 0 0) (.slice (some a') 0 0)
 | Cz:VR ρ (.map none) (.map none)
 | map {id:Nat} {pl:Pl} : ρ id=some pl->VR ρ (.map (some id)) (.map (some pl.cq))
 | func {f:FuncId} {first iE cap rp:Array Value} : first.toList.length=iE.toList.length ->
   (∀ (i:Nat) (v v':Value),first.toList[i]? = some v->iE.toList[i]? = some v'->VR ρ v v')->cap.toList.length=rp.toList.length ->
   (∀ (i:Nat) (v v':Value),cap.toList[i]? = some v->rp.toList[i]? = some v'->VR ρ v v')->VR ρ (.func (.func f) first cap) (.func (.func f) iE rp)
 | yield {l:Nat} {pl:Pl} : ρ l=some pl->VR ρ (.func (.yield l) #[] #[]) (.func (.yield pl.cq) #[] #[])
 | nilFunc:VR ρ .nilFunc .nilFunc
 | nilIface:VR ρ .nilIface .nilIface
 | iface {t:TypeId} {v v':Value} : VR ρ v v'->VR ρ (.iface t v) (.iface t v')
 | agg {cs cs':Array Value} : cs.toList.length=cs'.toList.length ->
   (∀ (i:Nat) (v v':Value),cs.toList[i]? = some v->cs'.toList[i]? = some v'->VR ρ v v')->VR ρ (.agg cs) (.agg cs')
 | tuple {cs cs':Array Value} : cs.toList.length=cs'.toList.length ->
   (∀ (i:Nat) (v v':Value),cs.toList[i]? = some v->cs'.toList[i]? = some v'->VR ρ v v')->VR ρ (.tuple cs) (.tuple cs')
def LR (ρ:cx) (l l':List Value):Prop:=l.length=l'.length/\∀ (i:Nat) (v v':Value),l[i]? = some v->l'[i]? = some v'->VR ρ v v'
theorem LR.nil (ρ:cx):LR ρ [] []:=⟨rfl,λ i v v' h=>by simp at h⟩
theorem LR.cons {ρ:cx} {v v':Value} {l l':List Value} (h:VR ρ v v') (hl:LR ρ l l'):LR ρ (v :: l) (v' :: l'):=by
 refine⟨by simp[hl.1],λ i u u' hu uD=>?_⟩;cases i with
 | zero=>simp at hu uD; subst hu; subst uD; exact h
 | succ i=>simp at hu uD; exact hl.2 i u u' hu uD
theorem LR.head {ρ:cx} {v v':Value} {l l':List Value} (h:LR ρ (v :: l) (v' :: l')):VR ρ v v':=h.2 0 v v' rfl rfl
theorem LR.tail {ρ:cx} {v v':Value} {l l':List Value} (h:LR ρ (v :: l) (v' :: l')):LR ρ l l':=
 ⟨by have:=h.1; simpa using this,λ i u u' hu uD=>h.2 (i+1) u u' (by simpa using hu) (by simpa using uD)⟩
theorem LR.cases {ρ:cx} {P:List Value->List Value->Prop} {l l':List Value} (h:LR ρ l l') (h0:P [] [])
  (B:∀ v v' m m',VR ρ v v'->LR ρ m m'->P (v :: m) (v' :: m')):P l l':=by
 cases l with
 | nil=>cases l' with
  | nil=>exact h0
  | cons _ _=>have:=h.1; simp at this
 | cons v m=>cases l' with
  | nil=>have:=h.1; simp at this
  | cons v' m'=>exact B v v' m m' h.head h.tail
theorem LR.mC {ρ:cx} {l':List Value} (h:LR ρ [] l'):l'=[]:=by cases l' with
 | nil=>rfl
 | cons _ _=>have:=h.1; simp at this
theorem LR.jt {ρ:cx} {v:Value} {l l':List Value} (h:LR ρ (v :: l) l'):∃ v' m',l'=v' :: m'/\VR ρ v v'/\LR ρ l m':=by
 cases l' with
 | nil=>have:=h.1; simp at this
 | cons v' m'=>exact⟨v',m',rfl,h.head,h.tail⟩
theorem LR.append {ρ:cx} {l l' m m':List Value} (h:LR ρ l l') (hm:LR ρ m m'):LR ρ (l++m) (l'++m'):=by
 induction l generalizing l' with
 | nil=>rw[h.mC]; exact hm
 | cons v l ih=>obtain⟨v',k',rfl,hv,hk⟩:=h.jt; exact(ih hk).cons hv
theorem LR.get {ρ:cx} {l l':List Value} (h:LR ρ l l') {i:Nat} {v:Value} (hv:l[i]? = some v):∃ v',l'[i]? = some v'/\VR ρ v v':=by
 have cG:i < l.length:=by
  rcases Nat.lt_or_ge i l.length with h' | h'
  ·exact h'
  ·rw[List.getElem?_eq_none h'] at hv; cases hv
 have tg:i < l'.length:=by rw[<- h.1]; exact cG
 exact⟨l'[i],List.getElem?_eq_getElem tg,h.2 i v _ hv (List.getElem?_eq_getElem tg)⟩
theorem LR.take {ρ:cx} {l l':List Value} (h:LR ρ l l') (n:Nat):LR ρ (l.take n) (l'.take n):=by
 induction n generalizing l l' with
 | zero=>simpa using LR.nil ρ
 | succ n ih=>
  cases l with
  | nil=>rw[h.mC]; simpa using LR.nil ρ
  | cons v l=>obtain⟨v',k',rfl,hv,hk⟩:=h.jt; simpa using(ih hk).cons hv
theorem LR.drop {ρ:cx} {l l':List Value} (h:LR ρ l l') (n:Nat):LR ρ (l.drop n) (l'.drop n):=by
 induction n generalizing l l' with
 | zero=>simpa using h
 | succ n ih=>
  cases l with
  | nil=>rw[h.mC]; simpa using LR.nil ρ
  | cons v l=>obtain⟨v',k',rfl,hv,hk⟩:=h.jt; simpa using ih hk
def cx.le (ρ db:cx):Prop:=∀ id pl,ρ id=some pl->db id=some pl
theorem VR.mono {ρ db:cx} (h:ρ.le db) {v v':Value} (hv:VR ρ v v'):VR db v v':=by
 induction hv with
 | bool b=>exact .bool b
 | int k n=>exact .int k n
 | float k n=>exact .float k n
 | complex k n m=>exact .complex k n m
 | string s=>exact .string s
 | Cy=>exact .Cy
 | ptr U=>exact .ptr (h _ _ U)
 | fl=>exact .fl
 | slice U hc=>exact .slice (h _ _ U) hc
 | dG=>exact .dG
 | Cz=>exact .Cz
 | map U=>exact .map (h _ _ U)
 | func B _ V _ i1 i2=>exact .func B i1 V i2
 | yield U=>exact .yield (h _ _ U)
 | nilFunc=>exact .nilFunc
 | nilIface=>exact .nilIface
 | iface _ ih=>exact .iface ih
 | agg B _ ih=>exact .agg B ih
 | tuple B _ ih=>exact .tuple B ih
theorem LR.mono {ρ db:cx} (h:ρ.le db) {l l':List Value} (hl:LR ρ l l'):LR db l l':=⟨hl.1,λ i v v' a b=>(hl.2 i v v' a b).mono h⟩
theorem VR.WY {ρ:cx} {l l':List Value} (h:LR ρ l l'):VR ρ (.agg l.toArray) (.agg l'.toArray):=.agg h.1 h.2
theorem VR.oC {ρ:cx} {l l':List Value} (h:LR ρ l l'):VR ρ (.tuple l.toArray) (.tuple l'.toArray):=.tuple h.1 h.2
theorem VR.cells {ρ:cx} {v v':Value} (h:VR ρ v v'):LR ρ v.cells.toList v'.cells.toList:=by
 cases h with
 | agg B D=>exact⟨B,D⟩
 | _=>exact(LR.nil ρ).cons (by constructor <;> assumption)
theorem VR.plain {ρ:cx} {v v':Value} (h:VR ρ v v') (U:bu v=true):v'.oneCell'=true:=by
 cases h <;> simp[bu,Value.oneCell'] at U ⊢
theorem VR.undef (ρ:cx):VR ρ undef undef:=.tuple rfl (λ i v v' h=>by simp at h)
theorem zI {n:Nat} {f:FuncId} {a b:Array Value} (h:iL n (.func (.func f) a b)=true):a=#[]/\b=#[]:=by
 obtain⟨la⟩:=a;obtain⟨lb⟩:=b;cases la <;> cases lb <;> first | exact⟨rfl,rfl⟩ | (cases n <;> simp[iL] at h)
theorem HZ {n:Nat} {f:FuncId} {a b a' b':Array Value} (h:iL n (.func (.func f) a b)=true) (B:a.toList.length=a'.toList.length) (D:b.toList.length=b'.toList.length) :
  (Value.func (.func f) a' b')=.func (.func f) a b:=by
 obtain⟨rfl,rfl⟩:=zI h;simp at B D;have e1:a'=#[]:=Array.eq_empty_of_size_eq_zero B.symm;have e2:b'=#[]:=Array.eq_empty_of_size_eq_zero D.symm;rw[e1,e2]
theorem tY {ρ:cx} : ∀ (n:Nat) {v v':Value},iL n v=true->VR ρ v v'->v'=v:=by
 intro n
 induction n with
 | zero=>
  intro v v' h hv;cases hv <;> first | rfl | (simp[iL] at h; done) | skip
  rename_i f first iE cap rp B D V h4
  exact HZ h B V
 | succ n ih=>
  intro v v' h hv;have key:∀ (cs cs':Array Value),cs.toList.all (iL n)=true->cs.toList.length=cs'.toList.length ->
    (∀ (i:Nat) (v v':Value),cs.toList[i]? = some v->cs'.toList[i]? = some v'->VR ρ v v')->cs'=cs:=by
   intro cs cs' mU hlen wh;apply Array.ext';apply List.ext_getElem?;intro i;cases hc:cs.toList[i]? with
   | none=>
    have:cs.toList.length<=i:=List.getElem?_eq_none_iff.1 hc;exact List.getElem?_eq_none_iff.2 (by omega)
   | some v=>
    obtain⟨u,hu,AN⟩:=LR.get ⟨hlen,wh⟩ hc;rw[hu,ih (List.all_eq_true.1 mU v (List.mem_of_getElem? hc)) AN]
  cases hv with
  | func B D V h4=>exact HZ h B V
  | iface hv=>simp[iL] at h; rw[ih h hv]
  | agg B D=>simp only[iL] at h; rw[key _ _ h B D]
  | tuple B D=>simp only[iL] at h; rw[key _ _ h B D]
  | _=>first | rfl | (simp[iL] at h; done)
end
end Go.cy
namespace Go.cy
noncomputable section
def TR (ρ:cx) (tm:T Value) (n:Nat) (tmps:Array Value):Prop:=tmps.size=n/\∀ t,VR ρ ((tm.get t).getD undef) (tmps.getD t undef)
def fz (W:World) (a:Addr):Bool:=
 match W.heap[a.block]? with
 | some (.cells c _ (lo,N))=>((decide (lo<=a.off) && decide (a.off < N)) || (decide (lo≠N) && decide (lo < c.size))) || (a.spot.isSome && decide (lo≠N))
 | _=>false
theorem wJ {W:World} {a:Addr} (h:fz W a=false):W.frozen? a=false:=by
 unfold fz at h;unfold World.frozen?;split at h
 ·rename_i hb;rw[hb];simp only[Bool.or_eq_false_iff] at h;exact h.1.1
 ·rename_i hb;split
  ·rename_i c t lo N Ke; exact(hb c t lo N Ke).elim
  ·rfl
theorem GZ (W:World) (b:Addr) (v:Value) (a:Addr):fz (W.setCell b v) a=fz W a:=by
 unfold fz World.setCell;simp only[Array.getElem?_modify];by_cases h:b.block=a.block
 ·rw[if_pos h];cases hb:W.heap[a.block]? with
  | none=>rfl
  | some o=>
   cases o with
   | cells c t f=>
    obtain⟨lo,N⟩:=f;have gK:(if b.spot.isSome=true then c else c.setIfInBounds b.off v).size=c.size:=by split <;> simp
    simp only[Option.map_some,gK]
   | _=>rfl
 ·rw[if_neg h]
def QB (W:World) (b:Nat):Bool:=fz W ⟨b,0,some 0⟩
theorem JE {W W':World} {b:Nat} (h:W'.heap[b]? = W.heap[b]?):QB W' b=QB W b:=by unfold QB fz; simp only[h]
def OR (ρ:cx) (W:World) (pl:Pl):AO->Prop
 | .row r=>r.esz=pl.esz/\r.cells.length<=pl.ext/\(∀ j,j < pl.ext->∃ v',W.cell? ⟨pl.cq,pl.base+j,none⟩=some v' /\
   (∀ v,r.cells[j]? = some (some v)->VR ρ v v')/\(r.ro=false->fz W ⟨pl.cq,pl.base+j,none⟩=false))/\(r.cW=true->2<=r.esz->QB W pl.cq=false)
 | .loop l=>∃ fn tmps pm,W.heap[pl.cq]? = some (.loop { state:=l.state,pending:=l.pending,fn:=fn,tmps:=tmps,params:=l.params.toArray,assign:=l.assign,body:=l.body,defers:=pm.cq }) /\
   TR ρ l.tm l.n tmps/\ρ l.mark=some pm
 | .mark b=>W.heap[pl.cq]? = some (.deferred (if b then some [] else none))
 | .uV s pos=>pl.base=0/\W.heap[pl.cq]? = some (.stringIter s pos)
 | .Ho m=>pl.base=0/\∃ m' since seen bL,W.heap[pl.cq]? = some (.mapIter m' since seen bL)/\(m=none->m'=none)/\∀ id,m=some id->∃ pm,ρ id=some pm/\m'=some pm.cq
 | .map es clock=>∃ pH:Array MapEntry,W.heap[pl.cq]? = some (.map pH clock)/\pH.toList.length=es.length /\
   ∀ (i:Nat) (e:kX) (ce:MapEntry),es[i]? = some e->pH.toList[i]? = some ce->ce.key=e.key/\ce.born=e.born/\VR ρ e.val ce.val
def AO.rw:AO->Bool
 | .row r=>!r.ro
 | _=>true
structure fV (ρ:cx) (H:AH) (W:World):Prop where
 B5:∀ id pl,ρ id=some pl->id < H.next
 QC:True
 nF:∀ id o,H.get id=some o->∃ pl,ρ id=some pl/\pl.cq < W.heap.size/\OR ρ W pl o
 jh:∀ i j oi oj pi pj,H.get i=some oi->H.get j=some oj->i≠j->ρ i=some pi->ρ j=some pj->pi.cq=pj.cq ->
  ∃ ri rj,oi=.row ri/\oj=.row rj/\ri.aU=rj.aU/\pi.base+rj.bJ=pj.base+ri.bJ/\ri.cW=false/\rj.cW=false
def uK (ρ:cx) (H:AH) (b:Nat):Prop:=∃ id o pl,H.get id=some o/\o.rw=true/\ρ id=some pl/\pl.cq=b
def Bw (ρ:cx) (H:AH) (b:Nat):Prop:=∃ id o pl,H.get id=some o/\ρ id=some pl/\pl.cq=b
structure St (ρ:cx) (H:AH) (W:World) (db:cx) (H':AH) (W':World):Prop where
 le:ρ.le db
 fc:fV db H' W'
 next:H.next<=H'.next
 size:W.heap.size<=W'.heap.size
 ou:∀ b,b < W.heap.size->¬ uK ρ H b->W'.heap[b]? = W.heap[b]? /\ ¬ uK db H' b
 tape:W'.tape=W.tape
 os:W'.os=W.os
 output:W'.output=W.output
 old:∀ i,i < H.next->db i=ρ i
 u9:∀ b,b < W.heap.size->¬ Bw ρ H b->¬ Bw db H' b
theorem cx.le_refl (ρ:cx):ρ.le ρ:=λ _ _ h=>h
theorem cx.le_trans {ρ db Gc:cx} (h:ρ.le db) (h':db.le Gc):ρ.le Gc:=λ _ _ a=>h' _ _ (h _ _ a)
theorem St.refl {ρ:cx} {H:AH} {W:World} (h:fV ρ H W):St ρ H W ρ H W:=⟨cx.le_refl ρ,h,Nat.le_refl _,Nat.le_refl _,λ _ _ hb=>⟨rfl,hb⟩,rfl,rfl,rfl,λ _ _=>rfl,λ _ _ hb=>hb⟩
theorem St.trans {ρ db Gc:cx} {H H' Oc:AH} {W W' Yt:World} (h:St ρ H W db H' W') (h':St db H' W' Gc Oc Yt):St ρ H W Gc Oc Yt:=
 ⟨cx.le_trans h.le h'.le,h'.fc,Nat.le_trans h.next h'.next,Nat.le_trans h.size h'.size,λ b hb hn=>
  let ⟨e,n⟩:=h.ou b hb hn
  let ⟨e',n'⟩:=h'.ou b (Nat.lt_of_lt_of_le hb h.size) n
  ⟨e'.trans e,n'⟩,h'.tape.trans h.tape,h'.os.trans h.os,h'.output.trans h.output,λ i N=>(h'.old i (Nat.lt_of_lt_of_le N h.next)).trans (h.old i N),
  λ b hb hn=>h'.u9 b (Nat.lt_of_lt_of_le hb h.size) (h.u9 b hb hn)⟩
theorem qn {W W':World} {b o:Nat} (h:W'.heap[b]? = W.heap[b]?):W'.cell? ⟨b,o,none⟩=W.cell? ⟨b,o,none⟩:=by
 unfold World.cell?; simp only[h]
theorem Dk {W W':World} {b o:Nat} (h:W'.heap[b]? = W.heap[b]?):fz W' ⟨b,o,none⟩=fz W ⟨b,o,none⟩:=by
 unfold fz; simp only[h]
theorem TR.mono {ρ db:cx} (h:ρ.le db) {tm:T Value} {n:Nat} {tmps:Array Value} (ht:TR ρ tm n tmps):TR db tm n tmps:=⟨ht.1,λ t=>(ht.2 t).mono h⟩
theorem OR.congr {ρ db:cx} (hle:ρ.le db) {W W':World} {pl:Pl} {o:AO} (h:W'.heap[pl.cq]? = W.heap[pl.cq]?) (ho:OR ρ W pl o):OR db W' pl o:=by
 cases o with
 | row r=>
  refine⟨ho.1,ho.2.1,λ j X=>?_,λ a b=>by rw[JE h]; exact ho.2.2.2 a b⟩;obtain⟨v',B,D,V⟩:=ho.2.2.1 j X;exact⟨v',by rw[qn h]; exact B,λ v hv=>(D v hv).mono hle,λ hr=>by rw[Dk h]; exact V hr⟩
 | loop l=>
  obtain⟨fn,tmps,pm,B,D,V⟩:=ho;exact⟨fn,tmps,pm,by rw[h]; exact B,D.mono hle,hle _ _ V⟩
 | mark b=>exact(show W'.heap[pl.cq]? = _ by rw[h]; exact ho)
 | uV s pos=>exact⟨ho.1,by rw[h]; exact ho.2⟩
 | Ho m=>
  obtain⟨h0,m',si,se,la,B,D,V⟩:=ho;exact⟨h0,m',si,se,la,by rw[h]; exact B,D,λ id cI=>let ⟨pm,a,b⟩:=V id cI; ⟨pm,hle _ _ a,b⟩⟩
 | map es clock=>
  obtain⟨pH,B,D,V⟩:=ho;exact⟨pH,by rw[h]; exact B,D,λ i e ce a b=>let ⟨x,y,z⟩:=V i e ce a b; ⟨x,y,z.mono hle⟩⟩
theorem Row.dS (lo N:Nat) (r:Row) (j:Nat):(r.eE lo N).cells[j]? = (r.cells[j]?).map λ c=>if lo<=r.bJ+j/\r.bJ+j < N then none else c:=by
 simp only[Row.eE,List.getElem?_map,List.getElem?_zipIdx,Option.map_map];cases r.cells[j]? <;> simp[Function.comp]
theorem Row.gJ (lo N:Nat) (r:Row):(r.eE lo N).cells.length=r.cells.length:=by simp[Row.eE]
theorem OR.eE {ρ:cx} {W:World} {pl:Pl} {r:Row} (lo N:Nat) (h:OR ρ W pl (.row r)):OR ρ W pl (.row (r.eE lo N)):=by
 refine⟨h.1,by rw[Row.gJ]; exact h.2.1,λ j X=>?_,λ a b=>h.2.2.2 a b⟩;obtain⟨v',B,D,V⟩:=h.2.2.1 j X;refine⟨v',B,λ v hv=>D v ?_,V⟩;rw[Row.dS] at hv;cases hc:r.cells[j]? with
 | none=>rw[hc] at hv; simp at hv
 | some c=>
  rw[hc] at hv;simp only[Option.map_some,Option.some.injEq] at hv;split at hv
  ·cases hv
  ·rw[hv]
def cx.with (ρ:cx) (id:Nat) (pl:Pl):cx:=λ i=>if i=id then some pl else ρ i
theorem cx.mD {ρ:cx} {H:AH} {W:World} (h:fV ρ H W) (pl:Pl):ρ.le (ρ.with H.next pl):=λ i p N=>by
 have:=h.B5 i p N;simp only[cx.with];rw[if_neg (by omega)];exact N
theorem St.new {ρ:cx} {H H':AH} {W W':World} {o:AO} {id:Nat} (h:fV ρ H W) (hn:H.new o=.ok (id,H')) {pl:Pl} (ob:Obj)
  (hh:W'.heap=W.heap.push ob) (ht:W'.tape=W.tape) (ID:W'.os=W.os) (ow:W'.output=W.output) (hb:pl.cq=W.heap.size) (ho:OR (ρ.with id pl) W' pl o) :
  St ρ H W (ρ.with id pl) H' W':=by
 obtain⟨rfl,cG,ea,eM⟩:=AH.pV hn;have hle:=cx.mD h pl;have iC:∀ b,b < W.heap.size->W'.heap[b]? = W.heap[b]?:=λ b ry=>by
  rw[hh,Array.getElem?_push]; rw[if_neg (by omega)]
 have hold:∀ j o' p,H'.get j=some o'->j≠H.next->(ρ.with H.next pl) j=some p->H.get j=some o'/\ρ j=some p:=λ j o' p X ee U=>by
  rw[eM,if_neg ee] at X;simp only[cx.with,if_neg ee] at U;exact⟨X,U⟩
 refine⟨hle,⟨λ i p N=>?_,trivial,λ j o' X=>?_,λ i j oi oj pi pj N X rC uL fe fM=>?_⟩,by omega,by rw[hh]; simp,λ b ry ff=>⟨iC b ry,?_⟩,ht,ID,ow,λ i N=>by simp only[cx.with]; rw[if_neg (by omega)],λ b ry ff=>?_⟩
 ·simp only[cx.with] at N;split at N
  ·omega
  ·have:=h.B5 i p N; omega
 ·by_cases ee:j=H.next
  ·subst ee;rw[eM,if_pos rfl] at X;cases X;exact⟨pl,by simp[cx.with],by rw[hh,hb]; simp,ho⟩
  ·rw[eM,if_neg ee] at X;obtain⟨p,U,tg,ji⟩:=h.nF j o' X;exact⟨p,hle _ _ U,by rw[hh]; simp; omega,ji.congr hle (iC _ tg)⟩
 ·by_cases QD:i=H.next
  ·have RG:j≠H.next:=λ e=>rC (QD.trans e.symm);obtain⟨jc,Gd⟩:=hold j oj pj X RG fe;obtain⟨p,U,tg,_⟩:=h.nF j oj jc;rw[Gd] at U; cases U;have:pi=pl:=by simp[cx.with,QD] at uL; exact uL.symm
   subst this;omega
  ·obtain⟨kD,K3⟩:=hold i oi pi N QD uL;by_cases RG:j=H.next
   ·obtain⟨p,U,tg,_⟩:=h.nF i oi kD;rw[K3] at U; cases U;have:pj=pl:=by simp[cx.with,RG] at fe; exact fe.symm
    subst this;omega
   ·obtain⟨jc,Gd⟩:=hold j oj pj X RG fe;exact h.jh i j oi oj pi pj kD jc rC K3 Gd fM
 ·rintro⟨j,o',p,X,FL,U,yK⟩;by_cases ee:j=H.next
  ·have:p=pl:=by simp[cx.with,ee] at U; exact U.symm
   subst this;omega
  ·obtain⟨jc,lE⟩:=hold j o' p X ee U;exact ff ⟨j,o',p,jc,FL,lE,yK⟩
 ·rintro⟨j,o',p,X,U,yK⟩;by_cases ee:j=H.next
  ·have:p=pl:=by simp[cx.with,ee] at U; exact U.symm
   subst this;omega
  ·obtain⟨jc,lE⟩:=hold j o' p X ee U;exact ff ⟨j,o',p,jc,lE,yK⟩
theorem fV.drawn {ρ:cx} {H:AH} {W W':World} (h:fV ρ H W) (hh:W'.heap=W.heap):fV ρ H W':=
 ⟨h.B5,h.QC,λ id o ho=>let ⟨pl,a,b,c⟩:=h.nF id o ho; ⟨pl,a,by rw[hh]; exact b,c.congr (cx.le_refl ρ) (by rw[hh])⟩,h.jh⟩
theorem St.drawn {ρ:cx} {H:AH} {W W':World} (h:fV ρ H W) (hh:W'.heap=W.heap) (ht:W'.tape=W.tape) (ID:W'.os=W.os) (ow:W'.output=W.output):St ρ H W ρ H W':=
 ⟨cx.le_refl ρ,h.drawn hh,Nat.le_refl _,by rw[hh]; exact Nat.le_refl _,λ b _ hb=>⟨by rw[hh],hb⟩,ht,ID,ow,λ _ _=>rfl,λ _ _ hb=>hb⟩
def nJ (W:World) (b o:Nat):List Value->World
 | []=>W
 | v :: vs=>nJ (W.setCell ⟨b,o,none⟩ v) b (o+1) vs
theorem mJ:∀ (vs:List Value) (W:World) (b o:Nat),(nJ W b o vs).tape=W.tape/\(nJ W b o vs).os=W.os/\(nJ W b o vs).output=W.output/\(nJ W b o vs).heap.size=W.heap.size/\(nJ W b o vs).drawn=W.drawn
 | [],_,_,_=>⟨rfl,rfl,rfl,rfl,rfl⟩
 | v :: vs,W,b,o=>by
  obtain⟨a1,Z,a3,a4,a5⟩:=mJ vs (W.setCell ⟨b,o,none⟩ v) b (o+1);refine⟨a1,Z,a3,?_,a5⟩;rw[nJ,a4,World.size_setCell]
theorem yl {W:World} {a:Addr} {v:Value} {b:Nat} (h:b≠a.block):(W.setCell a v).heap[b]? = W.heap[b]?:=by
 simp only[World.setCell,Array.getElem?_modify];rw[if_neg (Ne.symm h)]
theorem qp:∀ (vs:List Value) (W:World) (b o b':Nat),b'≠b->(nJ W b o vs).heap[b']? = W.heap[b']?
 | [],_,_,_,_,_=>rfl
 | v :: vs,W,b,o,b',h=>by
  rw[nJ,qp vs _ b (o+1) b' h,yl (by simpa using h)]
theorem sE:∀ (vs:List Value) (W:World) (b o:Nat) (a:Addr),fz (nJ W b o vs) a=fz W a
 | [],_,_,_,_=>rfl
 | v :: vs,W,b,o,a=>by rw[nJ,sE vs,GZ]
theorem wK:∀ (vs:List Value) (W:World) (b o x:Nat),(∀ k,k < vs.length->∃ u,W.cell? ⟨b,o+k,none⟩=some u) ->
  (nJ W b o vs).cell? ⟨b,x,none⟩=if o<=x/\x < o+vs.length then vs[x - o]? else W.cell? ⟨b,x,none⟩
 | [],W,b,o,x,_=>by
  rw[if_neg (by simp)]; rfl
 | v :: vs,W,b,o,x,h=>by
  obtain⟨u,hu⟩:=h 0 (by simp);have hs:(W.setCell ⟨b,o,none⟩ v).cell? ⟨b,o,none⟩=some v:=World.cell?_setCell_same _ _ _ (by simpa using hu);have ho:∀ y,y≠o->(W.setCell ⟨b,o,none⟩ v).cell? ⟨b,y,none⟩=W.cell? ⟨b,y,none⟩:=λ y hy=>
   World.cell?_setCell_other _ _ _ _ (by intro e; injection e with e1 e2 e3; exact hy e2.symm)
  rw[nJ,wK vs (W.setCell ⟨b,o,none⟩ v) b (o+1) x (λ k hk=>by
   obtain⟨u',uD⟩:=h (k+1) (by simp; omega);refine⟨u',?_⟩;rw[ho _ (by omega)];rw[<- uD];congr 2;omega)]
  simp only[List.length_cons];by_cases Y:x=o
  ·subst Y;rw[if_neg (by omega),if_pos (by omega),hs];simp
  ·by_cases hx2:o+1<=x/\x < o+1+vs.length
   ·rw[if_pos hx2,if_pos (by omega)];obtain⟨d,rfl⟩:∃ d,x=o+1+d:=⟨x - (o+1),by omega⟩
    rw[show o+1+d - o=d+1 by omega,show o+1+d - (o+1)=d by omega];simp
   ·rw[if_neg hx2,if_neg (by omega),ho x Y]
theorem gk (b o n:Nat):(⟨b,o,none⟩:Addr).add n=⟨b,o+n,none⟩:=by
 unfold Addr.add;split
 ·rename_i h; subst h; rfl
 ·rfl
theorem jC {P:Program} : ∀ (vs:List Value) (W:World) (b o i:Nat),(∀ v∈vs,v.oneCell'=true) ->
  (∀ k,k < vs.length->(∃ u,W.cell? ⟨b,o+i+k,none⟩=some u)/\W.frozen? ⟨b,o+i+k,none⟩=false) ->
  (storeCells ⟨b,o,none⟩ vs i).run P W=.ok () (nJ W b (o+i) vs)
 | [],W,b,o,i,_,_=>rfl
 | v :: vs,W,b,o,i,hv,h=>by
  obtain⟨⟨u,hu⟩,hf⟩:=h 0 (by simp);simp only[storeCells,Sem.run_bind,gk];rw[run_store P W _ _ _ (hv v (by simp))];simp only[Nat.add_zero] at hu hf;rw[hu];simp only[hf,Bool.false_eq_true,if_false,Result.andThen];have ho:∀ y,y≠o+i->(W.setCell ⟨b,o+i,none⟩ v).cell? ⟨b,y,none⟩=W.cell? ⟨b,y,none⟩:=λ y hy=>
   World.cell?_setCell_other _ _ _ _ (by intro e; injection e with e1 e2 e3; exact hy e2.symm)
  rw[jC vs _ b o (i+1) (λ v' rb=>hv v' (by simp[rb])) (λ k hk=>by
   obtain⟨⟨u',uD⟩,DG⟩:=h (k+1) (by simp; omega);refine⟨⟨u',?_⟩,?_⟩
   ·rw[ho _ (by omega),<- uD]; congr 2; omega
   ·rw[World.frozen?_setCell,<- DG]; congr 2; omega)]
  rfl
theorem fV.lt {ρ:cx} {H:AH} {W:World} (h:fV ρ H W) {id:Nat} {o:AO} (ho:H.get id=some o):id < H.next:=by
 obtain⟨pl,U,_⟩:=h.nF id o ho;exact h.B5 id pl U
theorem uj (l:List (Option Value)) (off:Nat) (vs:List (Option Value)) (h:off+vs.length<=l.length) (j:Nat) :
  (cY l off vs)[j]? = if off<=j/\j < off+vs.length then vs[j - off]? else l[j]?:=by
 unfold cY;by_cases B:j < off
 ·rw[if_neg (by omega),List.append_assoc,List.getElem?_append_left (by simp; omega)];rw[List.getElem?_take]; simp[B]
 ·by_cases D:j < off+vs.length
  ·rw[if_pos ⟨by omega,D⟩,List.append_assoc,List.getElem?_append_right (by simp; omega),List.getElem?_append_left (by simp; omega)];congr 1;simp; omega
  ·rw[if_neg (by omega),List.getElem?_append_right (by simp; omega),List.getElem?_drop];congr 1;simp; omega
theorem tF (l:List (Option Value)) (off:Nat) (vs:List (Option Value)) (h:off+vs.length<=l.length):(cY l off vs).length=l.length:=by
 unfold cY; simp; omega
theorem JF {ρ:cx} {H:AH} {W W':World} (h:fV ρ H W) {id:Nat} {r:Row} {pl:Pl} (hr:H.get id=some (.row r)) (U:ρ id=some pl) {o n:Nat}
  (fN:∀ b,b≠pl.cq->W'.heap[b]? = W.heap[b]?)
  (gZ:∀ x,¬ (pl.base+o<=x/\x < pl.base+o+n)->W'.cell? ⟨pl.cq,x,none⟩=W.cell? ⟨pl.cq,x,none⟩)
  (nf:∀ x,(∃ u,W.cell? ⟨pl.cq,x,none⟩=some u)->∃ u,W'.cell? ⟨pl.cq,x,none⟩=some u)
  (IZ:∀ a,fz W' a=fz W a) {j:Nat} {oj:AO} {pj:Pl} (X:H.get j=some oj) (ee:j≠id) (fe:ρ j=some pj) :
  OR ρ W' pj (if r.cW then oj else oj.eE r.aU (r.bJ+o) (r.bJ+o+n)):=by
 obtain⟨p,lE,cG,ji⟩:=h.nF j oj X;rw[fe] at lE; cases lE;by_cases fM:pj.cq=pl.cq
 ·obtain⟨rj,ri,rfl,e,uW,afZ,Kw,ZM⟩:=h.jh j id oj (.row r) pj pl X hr ee fe U fM;cases e;rw[ZM];simp only[Bool.false_eq_true,if_false,AO.eE,uW,if_true];refine⟨ji.1,by rw[Row.gJ]; exact ji.2.1,λ x Y=>?_,λ a _=>(by have a':rj.cW=true:=a; rw[Kw] at a'; cases a')⟩;obtain⟨v',B,D,V⟩:=ji.2.2.1 x Y;rw[fM] at B V ⊢;by_cases wb:pl.base+o<=pj.base+x/\pj.base+x < pl.base+o+n
  ·obtain⟨u,hu⟩:=nf _ ⟨v',B⟩;refine⟨u,hu,λ v hv=>?_,λ gG=>by rw[IZ]; exact V gG⟩;have zh:r.bJ+o<=rj.bJ+x/\rj.bJ+x < r.bJ+o+n:=by omega
   rw[Row.dS] at hv;cases hc:rj.cells[x]? with
   | none=>rw[hc] at hv; simp at hv
   | some c=>rw[hc] at hv; simp[zh] at hv
  ·refine⟨v',by rw[gZ _ wb]; exact B,λ v hv=>D v ?_,λ gG=>by rw[IZ]; exact V gG⟩;rw[Row.dS] at hv;cases hc:rj.cells[x]? with
   | none=>rw[hc] at hv; simp at hv
   | some c=>
    rw[hc] at hv;simp only[Option.map_some,Option.some.injEq] at hv;split at hv
    ·cases hv
    ·rw[hv]
 ·have hs:OR ρ W' pj oj:=ji.congr (cx.le_refl ρ) (fN _ fM);split
  ·exact hs
  ·cases oj with
   | row rj=>
    simp only[AO.eE];split
    ·exact hs.eE _ _
    ·exact hs
   | loop l=>exact hs
   | mark b=>exact hs
   | uV s pos=>exact hs
   | Ho m=>exact hs
   | map es clock=>exact hs
theorem P1 (aU lo N:Nat) (o:AO):(o.eE aU lo N).rw=o.rw:=by
 cases o with
 | row r=>simp only[AO.eE]; split <;> rfl
 | loop l=>rfl
 | mark b=>rfl
 | uV s pos=>rfl
 | Ho m=>rfl
 | map es clock=>rfl
theorem EC {aU lo N:Nat} {o:AO} {r:Row} (h:o.eE aU lo N=.row r):∃ r0,o=.row r0/\r.aU=r0.aU/\r.bJ=r0.bJ/\r.cW=r0.cW/\r.ro=r0.ro:=by
 cases o with
 | row r0=>
  simp only[AO.eE] at h;split at h
  ·cases h; exact⟨r0,rfl,rfl,rfl,rfl,rfl⟩
  ·cases h; exact⟨r,rfl,rfl,rfl,rfl,rfl⟩
 | loop l=>cases h
 | mark b=>cases h
 | uV s pos=>cases h
 | Ho m=>cases h
 | map es clock=>cases h
theorem St.gf {ρ:cx} {H H':AH} {W:World} {id off:Nat} {vs sI:List Value} {pl:Pl} {P:Program} (h:fV ρ H W) (hw:H.gf id off vs=.ok H') (U:ρ id=some pl) (hl:LR ρ vs sI) :
  ∃ W',(storeCells ⟨pl.cq,pl.base+off,none⟩ sI).run P W=.ok () W'/\St ρ H W ρ H' W':=by
 unfold AH.gf at hw;cases eH:H.row id with
 | error e=>rw[eH] at hw; cases hw
 | ok r=>
  rw[eH] at hw;have hr:=AH.rX eH;simp only[bind,Except.bind] at hw;split at hw
  ·cases hw
  rename_i gG;split at hw
  ·cases hw
  rename_i tZ;split at hw
  case isFalse=>cases hw
  rename_i SV;cases hw;obtain⟨p,lE,cG,ji⟩:=h.nF id _ hr;rw[U] at lE; cases lE;have yV:r.ro=false:=by simpa using gG
  have CV:∀ v'∈sI,v'.oneCell'=true:=λ v' rb=>by
   obtain⟨i,N⟩:=List.getElem?_of_mem rb;have tg:i < vs.length:=by
    rw[hl.1];rcases Nat.lt_or_ge i sI.length with h' | h'
    ·exact h'
    ·rw[List.getElem?_eq_none h'] at N; cases N
   have Vd:=List.getElem?_eq_getElem tg;refine(hl.2 i _ _ Vd N).plain ?_;have:vs.all bu=true:=by simpa using tZ
   exact List.all_eq_true.1 this _ (List.mem_of_getElem? Vd)
  have K4:=ji.2.1;have nf:∀ k,k < sI.length->(∃ u,W.cell? ⟨pl.cq,pl.base+off+0+k,none⟩=some u)/\W.frozen? ⟨pl.cq,pl.base+off+0+k,none⟩=false:=λ k hk=>by
   obtain⟨v',B,_,V⟩:=ji.2.2.1 (off+k) (by have:=hl.1; omega);rw[show pl.base+off+0+k=pl.base+(off+k) by omega];exact⟨⟨v',B⟩,wJ (V yV)⟩
  refine⟨_,jC sI W _ _ 0 CV nf,?_⟩;rw[Nat.add_zero];obtain⟨g1,g2,g3,g4,_⟩:=mJ sI W pl.cq (pl.base+off);have zi:=λ x=>wK sI W pl.cq (pl.base+off) x (λ k hk=>by have:=(nf k hk).1; simpa using this);have O5:=λ b (hb:b≠pl.cq)=>qp sI W pl.cq (pl.base+off) b hb;have DZ:=λ a=>sE sI W pl.cq (pl.base+off) a;have Xy:=h.lt hr;generalize nJ W pl.cq (pl.base+off) sI=W' at *;have eM:∀ j,((if r.cW=true then H else H.eE r.aU (r.bJ+off) (r.bJ+off+vs.length)).set id (.row { r with cells:=cY r.cells off (vs.map some) })).get j =
    if j=id then some (.row { r with cells:=cY r.cells off (vs.map some) }) else(H.get j).map λ o=>if r.cW then o else o.eE r.aU (r.bJ+off) (r.bJ+off+vs.length):=λ j=>by
   rw[AH.bS];split
   ·rfl
   ·cases r.cW with
    | true=>simp
    | false=>simp[AH.dS]
  have ea:((if r.cW=true then H else H.eE r.aU (r.bJ+off) (r.bJ+off+vs.length)).set id (.row { r with cells:=cY r.cells off (vs.map some) })).next=H.next:=by
   cases r.cW <;> rfl
  have hinv:∀ j o',((if r.cW=true then H else H.eE r.aU (r.bJ+off) (r.bJ+off+vs.length)).set id (.row { r with cells:=cY r.cells off (vs.map some) })).get j=some o' ->
    ∃ o0,H.get j=some o0/\o'.rw=o0.rw/\(∀ r',o'=.row r'->∃ r0,o0=.row r0/\r'.aU=r0.aU/\r'.bJ=r0.bJ/\r'.cW=r0.cW)/\(∀ r0,o0=.row r0->∃ r',o'=.row r'):=λ j o' X=>by
   rw[eM] at X;split at X
   ·rename_i e; subst e; cases X;exact⟨_,hr,rfl,λ r' e=>by cases e; exact⟨r,rfl,rfl,rfl,rfl⟩,λ _ _=>⟨_,rfl⟩⟩
   ·cases ho:H.get j with
    | none=>rw[ho] at X; cases X
    | some o0=>
     rw[ho] at X;simp only[Option.map_some,Option.some.injEq] at X;refine⟨o0,rfl,?_,λ r' e=>?_,λ r0 e=>?_⟩
     ·rw[<- X]; split
      ·rfl
      ·exact P1 _ _ _ _
     ·rw[e] at X;split at X
      ·exact⟨r',X,rfl,rfl,rfl⟩
      ·obtain⟨r0,a1,Z,a3,a4,_⟩:=EC X;exact⟨r0,a1,Z,a3,a4⟩
     ·subst e;rw[<- X];split
      ·exact⟨_,rfl⟩
      ·simp only[AO.eE]; split <;> exact⟨_,rfl⟩
  generalize (if r.cW=true then H else H.eE r.aU (r.bJ+off) (r.bJ+off+vs.length)).set id (.row { r with cells:=cY r.cells off (vs.map some) })=H' at *;refine⟨cx.le_refl ρ,⟨λ i p N=>by rw[ea]; exact h.B5 i p N,trivial,λ j o' X=>?_,λ i j oi oj pi pj N X rC uL fe fM=>?_⟩,by rw[ea]; exact Nat.le_refl _,by rw[g4]; exact Nat.le_refl _,λ b hb ff=>?_,g1,g2,g3,λ _ _=>rfl,λ b hb ff=>?_⟩
  ·rw[eM] at X;by_cases SW:j=id
   ·subst SW;rw[if_pos rfl] at X;cases X;refine⟨pl,U,by rw[g4]; exact cG,ji.1,by show(cY _ _ _).length<=_; rw[tF _ _ _ (by simpa using SV)]; exact K4,λ x Y=>?_,λ a b=>(DZ ⟨pl.cq,0,some 0⟩).trans (ji.2.2.2 a b)⟩;obtain⟨v',B,D,V⟩:=ji.2.2.1 x Y;rw[zi];by_cases wb:off<=x/\x < off+vs.length
    ·have hk:x - off < sI.length:=by rw[<- hl.1]; omega
     rw[if_pos (by rw[<- hl.1]; omega)];refine⟨sI[x - off],by rw[show pl.base+x - (pl.base+off)=x - off by omega]; exact List.getElem?_eq_getElem hk,λ v hv=>?_,λ _=>by rw[DZ]; exact V yV⟩;change (cY r.cells off (vs.map some))[x]? = _ at hv;rw[uj _ _ _ (by simpa using SV),if_pos (by simpa using wb)] at hv;have xQ:vs[x - off]? = some v:=by
      rw[List.getElem?_map] at hv;cases hc:vs[x - off]? with
      | none=>rw[hc] at hv; simp at hv
      | some u=>rw[hc] at hv; simp at hv; rw[hv]
     exact hl.2 _ _ _ xQ (List.getElem?_eq_getElem hk)
    ·rw[if_neg (by rw[<- hl.1]; omega)];refine⟨v',B,λ v hv=>D v ?_,λ _=>by rw[DZ]; exact V yV⟩;change (cY r.cells off (vs.map some))[x]? = _ at hv;rw[uj _ _ _ (by simpa using SV),if_neg (by simpa using wb)] at hv;exact hv
   ·rw[if_neg SW] at X;cases ho:H.get j with
    | none=>rw[ho] at X; cases X
    | some o0=>
     rw[ho] at X;simp only[Option.map_some,Option.some.injEq] at X;obtain⟨pj,fe,abS,_⟩:=h.nF j o0 ho;refine⟨pj,fe,by rw[g4]; exact abS,?_⟩;rw[<- X];refine JF (o:=off) (n:=vs.length) h hr U O5 (λ x Y=>?_) (λ x Y=>?_) DZ ho SW fe
     ·rw[zi,if_neg (by rw[<- hl.1]; exact Y)]
     ·rw[zi];split
      ·rename_i wb;exact⟨_,List.getElem?_eq_getElem (by omega)⟩
      ·exact Y
  ·obtain⟨o1,fx,_,Od,Oe⟩:=hinv i oi N;obtain⟨o2,ft,_,Ke,AA⟩:=hinv j oj X;obtain⟨ri,rj,e1,e2,e3,e4,e5,e6⟩:=h.jh i j o1 o2 pi pj fx ft rC uL fe fM;obtain⟨r1,rfl⟩:=Oe ri e1;obtain⟨r2,rfl⟩:=AA rj e2;obtain⟨q1,f1,f2,f3,f4⟩:=Od r1 rfl;obtain⟨q2,k1,k2,k3,k4⟩:=Ke r2 rfl;rw[e1] at f1; cases f1;rw[e2] at k1; cases k1;exact⟨r1,r2,rfl,rfl,by rw[f2,k2]; exact e3,by rw[f3,k3]; exact e4,by rw[f4]; exact e5,by rw[k4]; exact e6⟩
  ·have abT:b≠pl.cq:=λ e=>ff ⟨id,.row r,pl,hr,by simp[AO.rw,yV],U,e.symm⟩;refine⟨O5 b abT,?_⟩;rintro⟨j,o',p,X,FL,fe,yK⟩;obtain⟨o1,fx,abU,_⟩:=hinv j o' X;exact ff ⟨j,o1,p,fx,by rw[<- abU]; exact FL,fe,yK⟩
  ·rintro⟨j,o',p,X,fe,yK⟩;obtain⟨o1,fx,_⟩:=hinv j o' X;exact ff ⟨j,o1,p,fx,fe,yK⟩
def Wk (o o':AO):Prop:=
 match o with
 | .row r=>∃ r',o'=.row r'/\r'.aU=r.aU/\r'.bJ=r.bJ/\r'.esz=r.esz/\r'.ro=r.ro/\r'.cells.length=r.cells.length/\(r.cW=false->r'.cW=false) /\
  ∀ (x:Nat) (v:Value),r'.cells[x]? = some (some v)->r.cells[x]? = some (some v)
 | _=>o'=o
theorem Wk.refl (o:AO):Wk o o:=by
 cases o with
 | row r=>exact⟨r,rfl,rfl,rfl,rfl,rfl,rfl,λ h=>h,λ _ _ h=>h⟩
 | loop l=>rfl
 | mark b=>rfl
 | uV s pos=>rfl
 | Ho m=>rfl
 | map es clock=>rfl
theorem Wk.or {ρ:cx} {W:World} {pl:Pl} {o o':AO} (h:Wk o o') (ho:OR ρ W pl o):OR ρ W pl o':=by
 cases o with
 | row r=>
  obtain⟨r',rfl,_,_,V,h4,h5,h6,h7⟩:=h;refine⟨V.trans ho.1,by rw[h5]; exact ho.2.1,λ j X=>?_,λ a b=>ho.2.2.2 (by cases hs:r.cW with | true=>rfl | false=>have:=h6 hs; rw[a] at this; cases this) (V ▸ b)⟩;obtain⟨v',a1,Z,a3⟩:=ho.2.2.1 j X;exact⟨v',a1,λ v hv=>Z v (h7 j v hv),λ hr=>a3 (h4 ▸ hr)⟩
 | loop l=>have h':o'=_:=h; rw[h']; exact ho
 | mark b=>have h':o'=_:=h; rw[h']; exact ho
 | uV s pos=>have h':o'=_:=h; rw[h']; exact ho
 | Ho m=>have h':o'=_:=h; rw[h']; exact ho
 | map es clock=>have h':o'=_:=h; rw[h']; exact ho
theorem Wk.rw {o o':AO} (h:Wk o o'):o'.rw=o.rw:=by
 cases o with
 | row r=>obtain⟨r',rfl,_,_,_,h4,_⟩:=h; simp[AO.rw,h4]
 | loop l=>have h':o'=_:=h; rw[h']
 | mark b=>have h':o'=_:=h; rw[h']
 | uV s pos=>have h':o'=_:=h; rw[h']
 | Ho m=>have h':o'=_:=h; rw[h']
 | map es clock=>have h':o'=_:=h; rw[h']
theorem qq {lo N:Nat} {r:Row} {x:Nat} {v:Value} (h:(r.eE lo N).cells[x]? = some (some v)):r.cells[x]? = some (some v)/\¬ (lo<=r.bJ+x/\r.bJ+x < N):=by
 rw[Row.dS] at h;cases hc:r.cells[x]? with
 | none=>rw[hc] at h; simp at h
 | some c=>
  rw[hc] at h;simp only[Option.map_some,Option.some.injEq] at h;split at h
  ·cases h
  ·rename_i hn; exact⟨by rw[h],hn⟩
theorem Wk.eE (aU lo N:Nat) (o:AO):Wk o (o.eE aU lo N):=by
 cases o with
 | row r=>
  simp only[AO.eE];split
  ·exact⟨_,rfl,rfl,rfl,rfl,rfl,Row.gJ _ _ _,λ h=>h,λ x v h=>(qq h).1⟩
  ·exact Wk.refl _
 | loop l=>rfl
 | mark b=>rfl
 | uV s pos=>rfl
 | Ho m=>rfl
 | map es clock=>rfl
theorem St.Mb {ρ:cx} {H H':AH} {W:World} (h:fV ρ H W) (hn:H'.next=H.next) (hw:∀ j o',H'.get j=some o'->∃ o,H.get j=some o/\Wk o o'):St ρ H W ρ H' W:=by
 refine⟨cx.le_refl ρ,⟨λ i p N=>by rw[hn]; exact h.B5 i p N,trivial,λ j o' X=>?_,λ i j oi oj pi pj N X rC uL fe fM=>?_⟩,by rw[hn]; exact Nat.le_refl _,Nat.le_refl _,λ b _ ff=>⟨rfl,?_⟩,rfl,rfl,rfl,λ _ _=>rfl,λ b _ ff=>?_⟩
 ·obtain⟨o,ho,hk⟩:=hw j o' X;obtain⟨pl,a,b,c⟩:=h.nF j o ho;exact⟨pl,a,b,hk.or c⟩
 ·obtain⟨o1,fx,k1⟩:=hw i oi N;obtain⟨o2,ft,k2⟩:=hw j oj X;obtain⟨ri,rj,rfl,rfl,e3,e4,e5,e6⟩:=h.jh i j o1 o2 pi pj fx ft rC uL fe fM;obtain⟨r1,rfl,a1,Z,_,_,_,a3,_⟩:=k1;obtain⟨r2,rfl,b1,b2,_,_,_,b3,_⟩:=k2;exact⟨r1,r2,rfl,rfl,by rw[a1,b1]; exact e3,by rw[Z,b2]; exact e4,a3 e5,b3 e6⟩
 ·rintro⟨j,o',p,X,FL,fe,yK⟩;obtain⟨o,ho,hk⟩:=hw j o' X;exact ff ⟨j,o,p,ho,by rw[<- hk.rw]; exact FL,fe,yK⟩
 ·rintro⟨j,o',p,X,fe,yK⟩;obtain⟨o,ho,hk⟩:=hw j o' X;exact ff ⟨j,o,p,ho,fe,yK⟩
theorem St.Xz {ρ:cx} {H:AH} {W W':World} (h:fV ρ H W) {id:Nat} {r:Row} {pl:Pl} (hr:H.get id=some (.row r)) (U:ρ id=some pl) (gG:r.ro=false) {a m:Nat}
  (gI:W'.heap.size=W.heap.size) (ht:W'.tape=W.tape) (ID:W'.os=W.os) (ow:W'.output=W.output)
  (fN:∀ b,b≠pl.cq->W'.heap[b]? = W.heap[b]?)
  (gZ:∀ x,¬ (a<=x/\x < a+m)->W'.cell? ⟨pl.cq,x,none⟩=W.cell? ⟨pl.cq,x,none⟩)
  (nf:∀ x,(∃ u,W.cell? ⟨pl.cq,x,none⟩=some u)->∃ u,W'.cell? ⟨pl.cq,x,none⟩=some u)
  (IZ:∀ a,fz W' a=fz W a)
  (kV:∀ j rj pj,H.get j=some (.row rj)->ρ j=some pj->pj.cq=pl.cq->∀ (x:Nat) (v:Value),rj.cells[x]? = some (some v)->¬ (a<=pj.base+x/\pj.base+x < a+m)):St ρ H W ρ H W':=by
 refine⟨cx.le_refl ρ,⟨h.B5,h.QC,λ j o X=>?_,h.jh⟩,Nat.le_refl _,by rw[gI]; exact Nat.le_refl _,λ b hb ff=>⟨fN b λ e=>ff ⟨id,.row r,pl,hr,by simp[AO.rw,gG],U,e.symm⟩,ff⟩,ht,ID,ow,λ _ _=>rfl,λ _ _ hb=>hb⟩;obtain⟨pj,fe,cG,ji⟩:=h.nF j o X;refine⟨pj,fe,by rw[gI]; exact cG,?_⟩;by_cases fM:pj.cq=pl.cq
 ·have eH:∃ rj,o=.row rj:=by
   by_cases oL:j=id
   ·subst oL; rw[hr] at X; cases X; exact⟨r,rfl⟩
   ·obtain⟨rj,_,e,_⟩:=h.jh j id o (.row r) pj pl X hr oL fe U fM;exact⟨rj,e⟩
  obtain⟨rj,rfl⟩:=eH;refine⟨ji.1,ji.2.1,λ x Y=>?_,λ a b=>(IZ ⟨pj.cq,0,some 0⟩).trans (ji.2.2.2 a b)⟩;obtain⟨v',B,D,V⟩:=ji.2.2.1 x Y;by_cases wb:a<=pj.base+x/\pj.base+x < a+m
  ·rw[fM] at B ⊢;obtain⟨u,hu⟩:=nf _ ⟨v',B⟩;exact⟨u,hu,λ v hv=>absurd wb (kV j rj pj X fe fM x v hv),λ yV=>by rw[IZ,<- fM]; exact V yV⟩
  ·rw[fM] at B ⊢;exact⟨v',by rw[gZ _ wb]; exact B,D,λ yV=>by rw[IZ,<- fM]; exact V yV⟩
 ·exact ji.congr (cx.le_refl ρ) (fN _ fM)
theorem St.XA {ρ:cx} {H H':AH} {W:World} (h:fV ρ H W) {id qF:Nat} {r r':Row} {pl yL:Pl} (hr:H.get id=some (.row r)) (U:ρ id=some pl) (gG:r.ro=false) (hs:r.cW=false)
  (hn:H.new (.row r')=.ok (qF,H')) (uW:r'.aU=r.aU) (NS:r'.cW=false) (fM:yL.cq=pl.cq) (hd:yL.base+r.bJ=pl.base+r'.bJ) (ho:OR ρ W yL (.row r')) :
  St ρ H W (ρ.with qF yL) H' W:=by
 obtain⟨rfl,cG,ea,eM⟩:=AH.pV hn;have hle:=cx.mD h yL;have ee:id≠H.next:=λ e=>by have:=h.B5 id pl U; omega
 have hold:∀ j o' p,H'.get j=some o'->j≠H.next->(ρ.with H.next yL) j=some p->H.get j=some o'/\ρ j=some p:=λ j o' p X ee U=>by
  rw[eM,if_neg ee] at X;simp only[cx.with,if_neg ee] at U;exact⟨X,U⟩
 have jT:∀ o' p,H'.get H.next=some o'->(ρ.with H.next yL) H.next=some p->o'=.row r'/\p=yL:=λ o' p X U=>by
  rw[eM,if_pos rfl] at X;simp only[cx.with,if_true] at U;cases X; cases U; exact⟨rfl,rfl⟩
 obtain⟨p0,nL,SX,_⟩:=h.nF id _ hr;rw[U] at nL; cases nL;have key:∀ j oj pj,H.get j=some oj->ρ j=some pj->pj.cq=pl.cq->∃ rj,oj=.row rj/\r'.aU=rj.aU/\yL.base+rj.bJ=pj.base+r'.bJ/\rj.cW=false:=λ j oj pj X fe hb=>by
  by_cases oL:j=id
  ·subst oL;rw[hr] at X; cases X;rw[U] at fe; cases fe;exact⟨r,rfl,uW,hd,hs⟩
  ·obtain⟨ri,rj,e1,e2,e3,e4,_,e6⟩:=h.jh id j (.row r) oj pl pj hr X (Ne.symm oL) U fe hb.symm;cases e1;exact⟨rj,e2,uW.trans e3,by omega,e6⟩
 refine⟨hle,⟨λ i p N=>?_,by omega,λ j o' X=>?_,λ i j oi oj pi pj N X rC uL fe hb=>?_⟩,by omega,Nat.le_refl _,λ b ry ff=>⟨rfl,?_⟩,rfl,rfl,rfl,λ i N=>by simp only[cx.with]; rw[if_neg (by omega)],λ b ry ff=>?_⟩
 ·simp only[cx.with] at N;split at N
  ·omega
  ·have:=h.B5 i p N; omega
 ·by_cases ee:j=H.next
  ·subst ee;rw[eM,if_pos rfl] at X;cases X;exact⟨yL,by simp[cx.with],by rw[fM]; exact SX,ho.congr hle rfl⟩
  ·rw[eM,if_neg ee] at X;obtain⟨p,U,tg,ji⟩:=h.nF j o' X;exact⟨p,hle _ _ U,tg,ji.congr hle rfl⟩
 ·by_cases QD:i=H.next
  ·subst QD;obtain⟨rfl,rfl⟩:=jT oi pi N uL;obtain⟨jc,Gd⟩:=hold j oj pj X (Ne.symm rC) fe;obtain⟨rj,e1,e2,e3,e4⟩:=key j oj pj jc Gd (hb.symm.trans fM);exact⟨r',rj,rfl,e1,e2,e3,NS,e4⟩
  ·obtain⟨kD,K3⟩:=hold i oi pi N QD uL;by_cases RG:j=H.next
   ·subst RG;obtain⟨rfl,rfl⟩:=jT oj pj X fe;obtain⟨ri,e1,e2,e3,e4⟩:=key i oi pi kD K3 (hb.trans fM);exact⟨ri,r',e1,rfl,e2.symm,by omega,e4,NS⟩
   ·obtain⟨jc,Gd⟩:=hold j oj pj X RG fe;exact h.jh i j oi oj pi pj kD jc rC K3 Gd hb
 ·rintro⟨j,o',p,X,FL,fe,yK⟩;by_cases ee:j=H.next
  ·subst ee;obtain⟨rfl,rfl⟩:=jT o' p X fe;exact ff ⟨id,.row r,pl,hr,by simp[AO.rw,gG],U,by rw[<- fM]; exact yK⟩
  ·obtain⟨jc,lE⟩:=hold j o' p X ee fe;exact ff ⟨j,o',p,jc,FL,lE,yK⟩
 ·rintro⟨j,o',p,X,fe,yK⟩;by_cases ee:j=H.next
  ·subst ee;obtain⟨rfl,rfl⟩:=jT o' p X fe;exact ff ⟨id,.row r,pl,hr,U,by rw[<- fM]; exact yK⟩
  ·obtain⟨jc,lE⟩:=hold j o' p X ee fe;exact ff ⟨j,o',p,jc,lE,yK⟩
def AH.dK (H:AH) (id:Nat) (r:Row) (lo n:Nat):AH:=
 if r.cW then H.set id (.row { (r.eE lo (lo+n)) with cW:=false }) else H.eE r.aU lo (lo+n)
theorem vC {ρ:cx} {H:AH} {W:World} (h:fV ρ H W) {id:Nat} {r:Row} (hr:H.get id=some (.row r)) (lo n:Nat) :
  (H.dK id r lo n).next=H.next/\(∀ j o',(H.dK id r lo n).get j=some o'->∃ o,H.get j=some o/\Wk o o') /\
  (∃ r1,(H.dK id r lo n).get id=some (.row r1)/\r1.aU=r.aU/\r1.bJ=r.bJ/\r1.ro=r.ro/\r1.cW=false/\r1.ty=r.ty) /\
  ∀ pl,ρ id=some pl->∀ j rj pj,(H.dK id r lo n).get j=some (.row rj)->ρ j=some pj->pj.cq=pl.cq->∀ (x:Nat) (v:Value),rj.cells[x]? = some (some v) ->
   ¬ (lo+pl.base<=r.bJ+(pj.base+x)/\r.bJ+(pj.base+x) < lo+pl.base+n):=by
 have Xy:=h.lt hr;unfold AH.dK;cases hs:r.cW with
 | true=>
  simp only[if_true];refine⟨rfl,λ j o' X=>?_,⟨{ (r.eE lo (lo+n)) with cW:=false },by rw[AH.bS,if_pos rfl],rfl,rfl,rfl,rfl,rfl⟩,λ pl U j rj pj X fe hb x v hv=>?_⟩
  ·rw[AH.bS] at X;split at X
   ·rename_i e; subst e; cases X;exact⟨_,hr,_,rfl,rfl,rfl,rfl,rfl,Row.gJ _ _ _,λ _=>rfl,λ x v hv=>(qq hv).1⟩
   ·exact⟨o',X,Wk.refl _⟩
  ·rw[AH.bS] at X;split at X
   ·rename_i e; subst e; cases X;rw[U] at fe; cases fe;have:=(qq (r:=r) hv).2;omega
   ·rename_i ee;obtain⟨ri,_,e1,_,_,_,e5,_⟩:=h.jh id j (.row r) (.row rj) pl pj hr X (Ne.symm ee) U fe hb.symm;cases e1;rw[hs] at e5; cases e5
 | false=>
  simp only[Bool.false_eq_true,if_false];refine⟨rfl,λ j o' X=>?_,⟨r.eE lo (lo+n),by rw[AH.dS,hr]; simp[AO.eE],rfl,rfl,rfl,hs,rfl⟩,λ pl U j rj pj X fe hb x v hv=>?_⟩
  ·rw[AH.dS] at X;cases ho:H.get j with
   | none=>rw[ho] at X; cases X
   | some o=>rw[ho] at X; simp only[Option.map_some,Option.some.injEq] at X; subst X; exact⟨o,rfl,Wk.eE _ _ _ _⟩
  ·rw[AH.dS] at X;cases ho:H.get j with
   | none=>rw[ho] at X; cases X
   | some o=>
    rw[ho] at X;simp only[Option.map_some,Option.some.injEq] at X;obtain⟨r0,rfl,_⟩:=EC X;simp only[AO.eE] at X;have uW:r0.aU=r.aU/\pl.base+r0.bJ=pj.base+r.bJ:=by
     by_cases oL:j=id
     ·subst oL;rw[hr] at ho; cases ho;rw[U] at fe; cases fe;exact⟨rfl,rfl⟩
     ·obtain⟨ri,r2,e1,e2,e3,e4,_⟩:=h.jh id j (.row r) (.row r0) pl pj hr ho (Ne.symm oL) U fe hb.symm;cases e1; cases e2;exact⟨e3.symm,e4⟩
    rw[if_pos uW.1] at X;cases X;have:=(qq (r:=r0) hv).2;have:=uW.2;omega
theorem zJ {l l':List (Option Value)} {n:Nat} (h:zg l n=.ok l'):l'=l.take n/\n<=l.length:=by
 unfold zg at h;split at h
 ·cases h; exact⟨rfl,by assumption⟩
 ·cases h
theorem St.qu {ρ:cx} {H H2:AH} {W W':World} (h:fV ρ H W) {id qF:Nat} {r:Row} {pl:Pl} (hr:H.get id=some (.row r)) (U:ρ id=some pl)
  {off k size:Nat} {old:List (Option Value)} {new:List Value} (hold:zg (r.cells.drop off) k=.ok old) {lo:Nat}
  (hn:(H.dK id r lo new.length).new (.row { cells:=old++new.map some,ty:=r.ty,aU:=r.aU,bJ:=r.bJ+off,esz:=size,ro:=false,cW:=false })=.ok (qF,H2))
  {old' new' rest:List Value} {ty':TypeId} (hlen:old'.length=k) (hol:∀ j,j < k->W.cell? ⟨pl.cq,pl.base+off+j,none⟩=old'[j]?) (hl:LR ρ new new')
  (hh:W'.heap=W.heap.push (.cells (old'++new'++rest).toArray ty' (0,0))) (ht:W'.tape=W.tape) (ID:W'.os=W.os) (ow:W'.output=W.output) :
  St ρ H W (ρ.with qF ⟨W.heap.size,0,size,(old'++new'++rest).length⟩) H2 W':=by
 obtain⟨s1,s2,s3,s4⟩:=vC h hr lo new.length;have jD:=St.Mb h s1 s2;obtain⟨rfl,hk⟩:=zJ hold;obtain⟨p0,nL,SX,ji⟩:=h.nF id _ hr;rw[U] at nL; cases nL;refine jD.trans (St.new jD.fc hn (pl:=⟨W.heap.size,0,size,(old'++new'++rest).length⟩) _ hh ht ID ow rfl ?_);have hle:ρ.le (ρ.with qF ⟨W.heap.size,0,size,(old'++new'++rest).length⟩):=by
  obtain⟨rfl,_⟩:=AH.pV hn;exact cx.mD jD.fc _
 have cG:(List.take k (List.drop off r.cells)).length=k:=by rw[List.length_take]; omega
 have fM:W'.heap[W.heap.size]? = some (.cells (old'++new'++rest).toArray ty' (0,0)):=by rw[hh]; simp
 refine⟨rfl,?_,λ j X=>?_,λ a=>(by cases a)⟩
 ·simp only[List.length_append,cG,List.length_map,hl.1,hlen]; omega
 ·have hc:W'.cell? ⟨W.heap.size,0+j,none⟩=some ((old'++new'++rest)[j]'X):=by
   unfold World.cell?;simp only[fM,Nat.zero_add];simp
  refine⟨_,hc,λ v hv=>?_,λ _=>?_⟩
  ·change (List.take k (List.drop off r.cells)++new.map some)[j]? = some (some v) at hv;by_cases xe:j < k
   ·rw[List.getElem?_append_left (by omega),List.getElem?_take,if_pos xe,List.getElem?_drop] at hv;have O6:off+j < r.cells.length:=by
     rcases Nat.lt_or_ge (off+j) r.cells.length with h' | h'
     ·exact h'
     ·rw[List.getElem?_eq_none h'] at hv; cases hv
    obtain⟨v',B,D,_⟩:=ji.2.2.1 (off+j) (by have:=ji.2.1; omega);have V:=hol j xe;rw[show pl.base+off+j=pl.base+(off+j) by omega,B] at V;have:(old'++new'++rest)[j]'X=v':=by
     have:(old'++new'++rest)[j]? = some v':=by
      rw[List.append_assoc,List.getElem?_append_left (by omega)]; exact V.symm
     exact Option.some.inj ((List.getElem?_eq_getElem X).symm.trans this)
    rw[this];exact(D v hv).mono hle
   ·rw[List.getElem?_append_right (by omega),cG,List.getElem?_map] at hv;have xQ:new[j - k]? = some v:=by
     cases AA:new[j - k]? with
     | none=>rw[AA] at hv; simp at hv
     | some u=>rw[AA] at hv; simp at hv; rw[hv]
    obtain⟨v',B,D⟩:=hl.get xQ;have abV:j - k < new'.length:=by
     rcases Nat.lt_or_ge (j - k) new'.length with h' | h'
     ·exact h'
     ·rw[List.getElem?_eq_none h'] at B; cases B
    have:(old'++new'++rest)[j]'X=v':=by
     have:(old'++new'++rest)[j]? = some v':=by
      rw[List.append_assoc,List.getElem?_append_right (by omega),hlen,List.getElem?_append_left abV]; exact B
     exact Option.some.inj ((List.getElem?_eq_getElem X).symm.trans this)
    rw[this];exact D.mono hle
  ·unfold fz;simp only[fM];simp
theorem St.pw {ρ:cx} {H H2:AH} {W:World} {P:Program} (h:fV ρ H W) {id qF:Nat} {r:Row} {pl:Pl} (hr:H.get id=some (.row r)) (U:ρ id=some pl) (gG:r.ro=false)
  {off k size:Nat} {old:List (Option Value)} {new:List Value} (hold:zg (r.cells.drop off) k=.ok old)
  (hn:(H.dK id r (r.bJ+off+k) new.length).new (.row { cells:=old++new.map some,ty:=r.ty,aU:=r.aU,bJ:=r.bJ+off,esz:=size,ro:=false,cW:=false })=.ok (qF,H2))
  {new':List Value} (hl:LR ρ new new') (tZ:new.all bu=true) (Ej:off+k+new.length<=pl.ext) :
  ∃ W',(storeCells ⟨pl.cq,pl.base+off+k,none⟩ new').run P W=.ok () W'/\St ρ H W (ρ.with qF ⟨pl.cq,pl.base+off,size,pl.ext - off⟩) H2 W':=by
 obtain⟨s1,s2,⟨r1,t1,t2,t3,t4,t5,t6⟩,s4⟩:=vC h hr (r.bJ+off+k) new.length;have jD:=St.Mb h s1 s2;obtain⟨rfl,hk⟩:=zJ hold;obtain⟨p0,nL,SX,ji⟩:=h.nF id _ hr;rw[U] at nL; cases nL;have nf:∀ i,i < new'.length->(∃ u,W.cell? ⟨pl.cq,pl.base+off+k+0+i,none⟩=some u)/\W.frozen? ⟨pl.cq,pl.base+off+k+0+i,none⟩=false:=λ i N=>by
  obtain⟨v',B,_,V⟩:=ji.2.2.1 (off+k+i) (by have:=hl.1; omega);rw[show pl.base+off+k+0+i=pl.base+(off+k+i) by omega];exact⟨⟨v',B⟩,wJ (V gG)⟩
 have CV:∀ v'∈new',v'.oneCell'=true:=λ v' rb=>by
  obtain⟨i,N⟩:=List.getElem?_of_mem rb;have tg:i < new.length:=by
   rw[hl.1];rcases Nat.lt_or_ge i new'.length with h' | h'
   ·exact h'
   ·rw[List.getElem?_eq_none h'] at N; cases N
  have Vd:=List.getElem?_eq_getElem tg;exact(hl.2 i _ _ Vd N).plain (List.all_eq_true.1 tZ _ (List.mem_of_getElem? Vd))
 refine⟨_,jC new' W _ _ 0 CV nf,?_⟩;rw[Nat.add_zero];obtain⟨g1,g2,g3,g4,_⟩:=mJ new' W pl.cq (pl.base+off+k);have zi:=λ x=>wK new' W pl.cq (pl.base+off+k) x (λ k hk=>by have:=(nf k hk).1; simpa using this);have O5:=λ b (hb:b≠pl.cq)=>qp new' W pl.cq (pl.base+off+k) b hb;have DZ:=λ a=>sE new' W pl.cq (pl.base+off+k) a;generalize nJ W pl.cq (pl.base+off+k) new'=W' at *;have wc:St ρ (H.dK id r (r.bJ+off+k) new.length) W ρ (H.dK id r (r.bJ+off+k) new.length) W':=by
  refine St.Xz (a:=pl.base+off+k) (m:=new.length) jD.fc t1 U (t4.trans gG) g4 g1 g2 g3 O5 (λ x Y=>?_) (λ x Y=>?_) DZ (λ j rj pj X fe hb x v hv=>?_)
  ·rw[zi,if_neg (by rw[<- hl.1]; exact Y)]
  ·rw[zi];split
   ·exact⟨_,List.getElem?_eq_getElem (by omega)⟩
   ·exact Y
  ·have:=s4 pl U j rj pj X fe hb x v hv;omega
 refine(jD.trans wc).trans (St.XA wc.fc t1 U (t4.trans gG) t5 hn t2.symm rfl rfl (by show pl.base+off+r1.bJ=pl.base+(r.bJ+off); omega) ?_);have cG:(List.take k (List.drop off r.cells)).length=k:=by rw[List.length_take]; omega
 have hdl:(List.drop off r.cells).length=r.cells.length - off:=List.length_drop;refine⟨rfl,?_,λ j X=>?_,λ a=>(by cases a)⟩
 ·show(List.take k (List.drop off r.cells)++new.map some).length<=pl.ext - off;rw[List.length_append,cG,List.length_map]; omega
 ·have jc:j < pl.ext - off:=X;obtain⟨v',B,D,V⟩:=ji.2.2.1 (off+j) (by omega);show ∃ v',W'.cell? ⟨pl.cq,pl.base+off+j,none⟩=some v'/\_;rw[zi,show pl.base+off+j=pl.base+(off+j) by omega];by_cases wb:k<=j/\j < k+new.length
  ·have rD:j - k < new'.length:=by rw[<- hl.1]; omega
   rw[if_pos (by rw[<- hl.1]; omega)];refine⟨new'[j - k],by rw[show pl.base+(off+j) - (pl.base+off+k)=j - k by omega]; exact List.getElem?_eq_getElem rD,λ v hv=>?_,λ _=>by rw[DZ]; exact V gG⟩;change (List.take k (List.drop off r.cells)++new.map some)[j]? = some (some v) at hv;rw[List.getElem?_append_right (by omega),cG,List.getElem?_map] at hv;have xQ:new[j - k]? = some v:=by
    cases AA:new[j - k]? with
    | none=>rw[AA] at hv; simp at hv
    | some u=>rw[AA] at hv; simp at hv; rw[hv]
   exact hl.2 _ _ _ xQ (List.getElem?_eq_getElem rD)
  ·rw[if_neg (by rw[<- hl.1]; omega)];refine⟨v',B,λ v hv=>D v ?_,λ _=>by rw[DZ]; exact V gG⟩;change (List.take k (List.drop off r.cells)++new.map some)[j]? = some (some v) at hv;by_cases xe:j < k
   ·rw[List.getElem?_append_left (by omega),List.getElem?_take,if_pos xe,List.getElem?_drop] at hv;exact hv
   ·rw[List.getElem?_append_right (by omega),cG,List.getElem?_map,List.getElem?_eq_none (by omega)] at hv;simp at hv
theorem St.TF {ρ:cx} {H:AH} {W W':World} (h:fV ρ H W) {id:Nat} {r:Row} {pl:Pl} (hr:H.get id=some (.row r)) (U:ρ id=some pl) (gG:r.ro=false) (hm:r.cW=true->¬ 2<=r.esz) {c:Array Value} {t:TypeId} {f f':Nat×Nat}
  (hb:W.heap[pl.cq]? = some (.cells c t f)) (ry:W'.heap[pl.cq]? = some (.cells c t f')) (hf:f'.1=c.size) (fN:∀ b,b≠pl.cq->W'.heap[b]? = W.heap[b]?) (gI:W'.heap.size=W.heap.size) (ht:W'.tape=W.tape) (ID:W'.os=W.os) (ow:W'.output=W.output):St ρ H W ρ H W':=by
 refine⟨cx.le_refl ρ,⟨h.B5,h.QC,λ j o X=>?_,h.jh⟩,Nat.le_refl _,by rw[gI]; exact Nat.le_refl _,λ b _ ff=>⟨fN b λ e=>ff ⟨id,.row r,pl,hr,by simp[AO.rw,gG],U,e.symm⟩,ff⟩,ht,ID,ow,λ _ _=>rfl,λ b _ ff=>ff⟩;obtain⟨pj,B,D,V⟩:=h.nF j o X;refine⟨pj,B,by rw[gI]; exact D,?_⟩;by_cases e:pj.cq=pl.cq
 ·cases o with
  | row rj=>
   have B6:rj.cW=true->2<=rj.esz->QB W' pj.cq=false:=λ a b=>by
    by_cases oL:j=id
    ·subst oL;rw[hr] at X; cases X;exact absurd b (hm a)
    ·obtain⟨r1,_,e1,_,_,_,e5,_⟩:=h.jh j id (.row rj) (.row r) pj pl X hr oL B U e;cases e1;rw[a] at e5; cases e5
   refine⟨V.1,V.2.1,λ k hk=>?_,B6⟩;obtain⟨v',q1,q2,q3⟩:=V.2.2.1 k hk;have Of:c[pj.base+k]? = some v':=by
    unfold World.cell? at q1;simp only[e,hb] at q1;simpa using q1
   refine⟨v',?_,q2,λ _=>?_⟩
   ·unfold World.cell?;simp only[e,ry];simpa using Of
   ·have cG:pj.base+k < c.size:=by
     rcases Nat.lt_or_ge (pj.base+k) c.size with h' | h'
     ·exact h'
     ·rw[Array.getElem?_eq_none h'] at Of; cases Of
    obtain⟨lo,N⟩:=f';unfold fz;simp only[e,ry];simp only at hf;simp only[Bool.or_eq_false_iff,Bool.and_eq_false_iff,decide_eq_false_iff_not,Option.isSome_none,true_or,and_true];omega
  | loop l=>
   obtain⟨fn,tmps,pm,q1,_⟩:=V;rw[e,hb] at q1; cases q1
  | mark b=>
   have q1:W.heap[pj.cq]? = _:=V;rw[e,hb] at q1; cases q1
  | uV s pos=>
   have q1:=V.2;rw[e,hb] at q1; cases q1
  | Ho m=>
   obtain⟨_,m',si,se,la,q1,_⟩:=V;rw[e,hb] at q1; cases q1
  | map es clock=>
   obtain⟨pH,q1,_⟩:=V;rw[e,hb] at q1; cases q1
 ·exact V.congr (cx.le_refl ρ) (fN _ e)
end
end Go.cy
namespace Go.cy
noncomputable section
variable {P:Program}
theorem bE {α β:Type} {x:R α} {f:α->R β} {y:β} (h:(x >>= f)=.ok y):∃ a,x=.ok a/\f a=.ok y:=by
 cases x with
 | error e=>cases h
 | ok a=>exact⟨a,rfl,h⟩
theorem dT {ρ:cx} : ∀ (n:Nat) {v:Value},iL n v=true->VR ρ v v:=by
 intro n
 induction n with
 | zero=>
  intro v h;cases v with
  | bool b=>exact .bool b
  | int k n=>exact .int k n
  | float k b=>exact .float k b
  | complex k a b=>exact .complex k a b
  | string s=>exact .string s
  | pointer a=>cases a with
   | none=>exact .Cy
   | some a=>simp[iL] at h
  | slice a n c=>cases a with
   | none=>cases n <;> cases c <;> first | exact .fl | simp[iL] at h
   | some a=>simp[iL] at h
  | map r=>cases r with
   | none=>exact .Cz
   | some r=>simp[iL] at h
  | chan r=>simp[iL] at h
  | func fn a b=>cases fn with
   | func f=>obtain⟨rfl,rfl⟩:=zI h; exact .func rfl (by intro i v v' h; simp at h) rfl (by intro i v v' h; simp at h)
   | _=>simp[iL] at h
  | nilFunc=>exact .nilFunc
  | iface t v=>simp[iL] at h
  | nilIface=>exact .nilIface
  | agg cs=>simp[iL] at h
  | tuple cs=>simp[iL] at h
 | succ n ih=>
  intro v h;have key:∀ (cs:Array Value),cs.toList.all (iL n)=true->∀ (i:Nat) (v v':Value),cs.toList[i]? = some v->cs.toList[i]? = some v'->VR ρ v v':=λ cs mU i v v' B D=>by
   rw[B] at D; cases D;exact ih (List.all_eq_true.1 mU v (List.mem_of_getElem? B))
  cases v with
  | bool b=>exact .bool b
  | int k n=>exact .int k n
  | float k b=>exact .float k b
  | complex k a b=>exact .complex k a b
  | string s=>exact .string s
  | pointer a=>cases a with
   | none=>exact .Cy
   | some a=>simp[iL] at h
  | slice a n c=>cases a with
   | none=>cases n <;> cases c <;> first | exact .fl | simp[iL] at h
   | some a=>simp[iL] at h
  | map r=>cases r with
   | none=>exact .Cz
   | some r=>simp[iL] at h
  | chan r=>simp[iL] at h
  | func fn a b=>cases fn with
   | func f=>obtain⟨rfl,rfl⟩:=zI h; exact .func rfl (by intro i v v' h; simp at h) rfl (by intro i v v' h; simp at h)
   | _=>simp[iL] at h
  | nilFunc=>exact .nilFunc
  | iface t v=>simp only[iL] at h; exact .iface (ih h)
  | nilIface=>exact .nilIface
  | agg cs=>simp only[iL] at h; exact .agg rfl (key cs h)
  | tuple cs=>simp only[iL] at h; exact .tuple rfl (key cs h)
theorem ju {ρ:cx} {n:Nat} {l:List Value} (h:l.all (iL n)=true):LR ρ l l:=
 ⟨rfl,λ i v v' B D=>by rw[B] at D; cases D; exact dT n (List.all_eq_true.1 h v (List.mem_of_getElem? B))⟩
theorem av {t:TypeId} {d:TypeDesc} (h:P.underlying t=some d) (w:World):(underlying t).run P w=.ok d w:=by
 simp[underlying,h]
theorem eG {t:TypeId} {i:TypeInfo} (h:P.info? t=some i) (w:World):(typeInfo t).run P w=.ok i w:=by
 simp[typeInfo,h]
theorem bU {t n:Nat} (h:bD P t=.ok n) (w:World):(sizeOf t).run P w=.ok n w:=by
 unfold bD at h;split at h
 ·rename_i i N; cases h; simp[sizeOf,eG N,Result.andThen]
 ·cases h
theorem eK {t:Nat} {zs:List Value} (h:eB P t=.ok zs) (w:World):∃ z,(zeroValue t).run P w=.ok z w/\z.cells.toList=zs/\zs.all (iL gd)=true/\(∃ i,P.info? t=some i/\zs.length=i.size):=by
 unfold eB at h;split at h
 ·rename_i i N;split at h
  ·rename_i v hz;split at h
   ·rename_i hg;cases h;simp only[Bool.and_eq_true,beq_iff_eq] at hg;exact⟨v,by simp[zeroValue,eG N,Result.andThen,hz],rfl,hg.1,i,N,hg.2⟩
   ·cases h
  ·cases h
 ·cases h
theorem uk {t:Nat} {b:Bool} (h:rm P t=.ok b) (w:World):(isAgg t).run P w=.ok b w:=by
 unfold rm at h;split at h
 ·rename_i hu; cases h; simp[isAgg,av hu,Result.andThen]
 ·rename_i hu; cases h; simp[isAgg,av hu,Result.andThen]
 ·rename_i d n1 n2 hu;cases h;simp only[isAgg,Sem.run_bind,av hu,Result.andThen];cases d <;> first | rfl | exact absurd hu (by simpa using n1 _) | exact absurd hu (by simpa using n2 _ _)
 ·cases h
theorem zK:∀ {l:List (Option Value)} {n:Nat} {vs:List Value},jN l n=.ok vs->vs.length=n/\∀ i,i < n->l[i]? = some vs[i]?
 | _,0,vs,h=>by
  have:vs=[]:=by unfold jN at h; cases h; rfl
  subst this;exact⟨rfl,λ i N=>by omega⟩
 | [],n+1,vs,h=>by simp[jN] at h
 | none :: l,n+1,vs,h=>by simp[jN] at h
 | some v :: l,n+1,vs,h=>by
  simp only[jN] at h;obtain⟨ws,B,D⟩:=bE h;cases D;obtain⟨V,h4⟩:=zK B;refine⟨by simp[V],λ i N=>?_⟩;cases i with
  | zero=>rfl
  | succ i=>simpa using h4 i (by omega)
theorem nC:∀ (n:Nat) (W:World) (b o i:Nat) (vs:List Value) (acc:Array Value),vs.length=n->(∀ k,k < n->W.cell? ⟨b,o+i+k,none⟩=vs[k]?) ->
  (loadCellsFrom ⟨b,o,none⟩ i n acc).run P W=.ok (acc++vs.toArray) W
 | 0,W,b,o,i,vs,acc,hl,_=>by
  have:vs=[]:=List.length_eq_zero_iff.1 hl;subst this;simp[loadCellsFrom]
 | n+1,W,b,o,i,vs,acc,hl,h=>by
  cases vs with
  | nil=>simp at hl
  | cons v vs=>
   have h0:=h 0 (by omega);simp only[List.getElem?_cons_zero,Nat.add_zero] at h0;simp only[loadCellsFrom,Sem.run_bind,gk,run_load,h0,Result.andThen];rw[nC n W b o (i+1) vs _ (by simpa using hl) (λ k hk=>by
    have:=h (k+1) (by omega);rw[show o+(i+1)+k=o+i+(k+1) by omega,this];simp)]
   simp
theorem kB {n:Nat} {W:World} {b o:Nat} {vs:List Value} (hl:vs.length=n) (h:∀ k,k < n->W.cell? ⟨b,o+k,none⟩=vs[k]?) :
  (loadCells ⟨b,o,none⟩ n).run P W=.ok vs.toArray W:=by
 unfold loadCells;rw[nC n W b o 0 vs #[] hl (by simpa using h)];simp
theorem zL {ρ:cx} {H:AH} {W:World} (h:fV ρ H W) {id off n:Nat} {r:Row} {pl:Pl} {vs:List Value} (hr:H.get id=some (.row r)) (U:ρ id=some pl) (hk:jN (r.cells.drop off) n=.ok vs) :
  ∃ sI,sI.length=n/\(∀ k,k < n->W.cell? ⟨pl.cq,pl.base+off+k,none⟩=sI[k]?)/\LR ρ vs sI:=by
 obtain⟨B,D⟩:=zK hk;obtain⟨p0,nL,_,ji⟩:=h.nF id _ hr;rw[U] at nL; cases nL;have gZ:∀ k,k < n->∃ v',W.cell? ⟨pl.cq,pl.base+off+k,none⟩=some v'/\∀ v,vs[k]? = some v->VR ρ v v':=λ k lF=>by
  have V:=D k lF;rw[List.getElem?_drop] at V;have cG:off+k < r.cells.length:=by
   rcases Nat.lt_or_ge (off+k) r.cells.length with h' | h'
   ·exact h'
   ·rw[List.getElem?_eq_none h'] at V; cases V
  obtain⟨v',a1,Z,_⟩:=ji.2.2.1 (off+k) (by have:=ji.2.1; omega);refine⟨v',by rw[Nat.add_assoc]; exact a1,λ v hv=>Z v ?_⟩;rw[V,hv]
 refine⟨(List.range n).map λ k=>(W.cell? ⟨pl.cq,pl.base+off+k,none⟩).getD undef,by simp,λ k lF=>?_,⟨by simp[B],λ i v v' hv rb=>?_⟩⟩
 ·obtain⟨v',a1,_⟩:=gZ k lF;simp[List.getElem?_map,List.getElem?_range lF,a1]
 ·have N:i < n:=by
   rcases Nat.lt_or_ge i n with h' | h'
   ·exact h'
   ·rw[List.getElem?_eq_none (by omega)] at hv; cases hv
  obtain⟨u,a1,Z⟩:=gZ i N;simp[List.getElem?_map,List.getElem?_range N,a1] at rb;subst rb;exact Z v hv
theorem px {v:Value} {id off:Nat} (h:eg v=.ok (id,off)):v=.pointer (some ⟨id,off,none⟩):=by
 unfold eg at h;split at h
 ·cases h; rfl
 ·cases h
theorem VR.at {ρ:cx} {id off:Nat} {v':Value} (h:VR ρ (.pointer (some ⟨id,off,none⟩)) v'):∃ pl,ρ id=some pl/\v'=.pointer (some ⟨pl.cq,pl.base+off,none⟩):=by
 cases h with
 | ptr U=>exact⟨_,U,rfl⟩
theorem vD {ρ:cx} {H:AH} {W:World} (h:fV ρ H W) {t id off:Nat} {v:Value} {pl:Pl} (U:ρ id=some pl) (hv:jq P H t id off=.ok v) :
  ∃ v',(loadVar t ⟨pl.cq,pl.base+off,none⟩).run P W=.ok v' W/\VR ρ v v':=by
 unfold jq at hv;obtain⟨r,eH,hv⟩:=bE hv;have hr:=AH.rX eH;obtain⟨b,hb,hv⟩:=bE hv;have Ge:=uk hb;cases b with
 | true=>
  simp only[if_true] at hv;obtain⟨n,hn,hv⟩:=bE hv;obtain⟨vs,hk,hv⟩:=bE hv;cases hv;obtain⟨sI,B,D,V⟩:=zL h hr U hk;refine⟨.agg sI.toArray,?_,VR.WY V⟩;simp only[loadVar,Sem.run_bind,Ge W,Result.andThen,if_true,bU hn W,kB B D,Sem.run_pure]
 | false=>
  simp only[Bool.false_eq_true,if_false] at hv;split at hv
  ·rename_i v0 hc;cases hv;have cG:off < r.cells.length:=by
    rcases Nat.lt_or_ge off r.cells.length with h' | h'
    ·exact h'
    ·rw[List.getElem?_eq_none h'] at hc; cases hc
   obtain⟨p0,nL,_,ji⟩:=h.nF id _ hr;rw[U] at nL; cases nL;obtain⟨v',a1,Z,_⟩:=ji.2.2.1 off (by have:=ji.2.1; omega);refine⟨v',?_,Z v hc⟩;simp only[loadVar,Sem.run_bind,Ge W,Result.andThen,Bool.false_eq_true,if_false,run_load,a1]
  ·cases hv
end
end Go.cy
namespace Go.cy
noncomputable section
variable {P:Program}
def ib (P:Program) (o:Oper) (ρ:cx) (H:AH) (W:World) (ca:Act) (v:Value) (H':AH):Prop:=
 ∃ db W' v',((execOp ca.eval o).run P W=.ok (.value v') W'\/((execOp ca.eval o).run P W=.ok .skip W'/\v'=undef))/\St ρ H W db H' W'/\VR db v v'
theorem ib.aX {o:Oper} {ρ:cx} {H:AH} {W:World} {ca:Act} {v v':Value} (h:fV ρ H W) (hr:(execOp ca.eval o).run P W=.ok (.value v') W) (hv:VR ρ v v'):ib P o ρ H W ca v H:=
 ⟨ρ,W,v',.inl hr,St.refl h,hv⟩
theorem ej {α:Type} : ∀ (n:Nat) {s:Sem α} {a:α},dA P n s=.ok a->∀ w,s.run P w=.ok a w:=by
 intro n
 induction n with
 | zero=>
  intro s a h w;cases s <;> simp[dA] at h;subst h; rfl
 | succ n ih=>
  intro s a h w;cases s <;> simp[dA] at h
  ·subst h; rfl
  ·exact ih h w
abbrev kE (a:az) (ca:Act) (ρ:cx) (x:Operand):Prop:=∀ u,a.eval x=.ok u->VR ρ u (ca.eval x)
theorem VR.bA {ρ:cx} {b:Bool} {v':Value} (h:VR ρ (.bool b) v'):v'=.bool b:=by cases h; rfl
theorem VR.gQ {ρ:cx} {k:IntKind} {n:Int} {v':Value} (h:VR ρ (.int k n) v'):v'=.int k n:=by cases h; rfl
theorem VR.gR {ρ:cx} {s:ByteArray} {v':Value} (h:VR ρ (.string s) v'):v'=.string s:=by cases h; rfl
theorem VR.dh {ρ:cx} {v v':Value} (h:VR ρ v v'):dh v'=dh v:=by cases h <;> rfl
theorem VR.dB {ρ:cx} {v v':Value} (h:VR ρ v v') (t:TypeId):dB P t v'=dB P t v:=by cases h <;> rfl
theorem TG {t e:TypeId} (hu:P.underlying t=some (.pointer e)) (d:Nat) (a b:Option Addr) (h:(a.isNone || b.isNone)=true) (w:World) :
  (Op.equalIn (d+1) t (.pointer a) (.pointer b)).run P w=.ok (a.isNone && b.isNone) w:=by
 cases a <;> cases b <;> simp at h <;> simp[Op.equalIn,av hu,Result.andThen]
theorem M4 {t e:TypeId} (hu:P.underlying t=some (.slice e)) (d:Nat) (a b:Option Addr) (n c m k:Nat) (h:(a.isNone || b.isNone)=true) (w:World) :
  (Op.equalIn (d+1) t (.slice a n c) (.slice b m k)).run P w=.ok (a.isNone && b.isNone) w:=by
 cases a <;> cases b <;> simp at h <;> simp[Op.equalIn,av hu,Result.andThen]
theorem TH {t x e:TypeId} (hu:P.underlying t=some (.map x e)) (d:Nat) (a b:Option Nat) (h:(a.isNone || b.isNone)=true) (w:World) :
  (Op.equalIn (d+1) t (.map a) (.map b)).run P w=.ok (a.isNone && b.isNone) w:=by
 cases a <;> cases b <;> simp at h <;> simp[Op.equalIn,av hu,Result.andThen]
def mK:Value->Bool
 | .nilFunc=>true
 | _=>false
theorem yt {t:TypeId} {x y:Array TypeId} {z:Bool} (hu:P.underlying t=some (.func x y z)) (d:Nat) (a b:Value) (ha:a=.nilFunc\/∃ f aa k,a=.func f aa k) (hb:b=.nilFunc\/∃ f aa k,b=.func f aa k)
  (h:(mK a || mK b)=true) (w:World) :
  (Op.equalIn (d+1) t a b).run P w=.ok (mK a && mK b) w:=by
 rcases ha with rfl | ⟨f,aa,k,rfl⟩ <;> rcases hb with rfl | ⟨f',g',k',rfl⟩ <;> simp[mK] at h <;> simp[mK,Op.equalIn,av hu,Result.andThen]
theorem nil_eq {t:TypeId} {a b:Value} {na nb:Bool} (ha:dh a=some na) (hb:dh b=some nb) (ji:(na || nb)=true) (fa:dB P t a=true) (fb:dB P t b=true) (w:World) :
  (Op.equal t a b).run P w=.ok (na && nb) w:=by
 cases a <;> simp only[dB] at fa <;> first | (cases fa; done) | skip
 ·split at fa
  ·rename_i x _ e hu;cases b <;> simp only[dB,hu] at fb <;> first | (cases fb; done) | skip
   rename_i y;have e1:na=x.isNone:=by cases x <;> simp[dh] at ha <;> simp[ha]
   have e2:nb=y.isNone:=by cases y <;> simp[dh] at hb <;> simp[hb]
   subst e1; subst e2;exact TG hu 9999 x y ji w
  ·cases fa
 ·split at fa
  ·rename_i x n c _ e hu;cases b <;> simp only[dB,hu] at fb <;> first | (cases fb; done) | skip
   rename_i y m k;have e1:na=x.isNone:=by cases x <;> simp[dh] at ha <;> simp[ha]
   have e2:nb=y.isNone:=by cases y <;> simp[dh] at hb <;> simp[hb]
   subst e1; subst e2;exact M4 hu 9999 x y _ _ _ _ ji w
  ·cases fa
 ·split at fa
  ·rename_i x _ e e' hu;cases b <;> simp only[dB,hu] at fb <;> first | (cases fb; done) | skip
   rename_i y;have e1:na=x.isNone:=by cases x <;> simp[dh] at ha <;> simp[ha]
   have e2:nb=y.isNone:=by cases y <;> simp[dh] at hb <;> simp[hb]
   subst e1; subst e2;exact TH hu 9999 x y ji w
  ·cases fa
 ·split at fa
  ·rename_i hu;simp[dh] at ha; subst ha;cases b <;> simp only[dB,hu] at fb <;> first | (cases fb; done) | skip
   ·simp[dh] at hb; subst hb;exact yt hu 9999 _ _ (.inr ⟨_,_,_,rfl⟩) (.inr ⟨_,_,_,rfl⟩) ji w
   ·simp[dh] at hb; subst hb;exact yt hu 9999 _ _ (.inr ⟨_,_,_,rfl⟩) (.inl rfl) ji w
  ·cases fa
 ·split at fa
  ·rename_i hu;simp[dh] at ha; subst ha;cases b <;> simp only[dB,hu] at fb <;> first | (cases fb; done) | skip
   ·simp[dh] at hb; subst hb;exact yt hu 9999 _ _ (.inl rfl) (.inr ⟨_,_,_,rfl⟩) ji w
   ·simp[dh] at hb; subst hb;exact yt hu 9999 _ _ (.inl rfl) (.inl rfl) ji w
  ·cases fa
theorem P2 {t:TypeId} {a b:Value} {na nb:Bool} (ha:dh a=some na) (hb:dh b=some nb) (ji:(na || nb)=true) (fa:dB P t a=true) (fb:dB P t b=true) (w:World) :
  (binOp .eql t a b).run P w=.ok (.bool (na && nb)) w/\(binOp .neq t a b).run P w=.ok (.bool (!(na && nb))) w:=by
 have key:=nil_eq ha hb ji fa fb w;cases a <;> simp only[dB] at fa <;> first | (cases fa; done) | skip
 all_goals (cases b <;> simp only[dB] at fb <;> first | (cases fb; done) | skip)
 all_goals (first | (refine⟨?_,?_⟩ <;> simp only[binOp,Sem.run_bind,key,Result.andThen,Sem.run_pure]; done) | skip)
 all_goals (exfalso; split at fa <;> first | (cases fa; done) | skip)
 all_goals (rename_i hu; simp[hu] at fb)
theorem ko {x:R Value} {v:Value} (h:jO x=.ok v):x=.ok v/\iL gd v=true:=by
 unfold jO at h;split at h
 ·split at h
  ·cases h; exact⟨rfl,by assumption⟩
  ·cases h
 ·cases h
theorem H4 {d:Nat} {xs ys:Array Value} {w:World} : ∀ {fs:List Field} {r:Bool},QA P xs.toList ys.toList fs=.ok r->(Op.eqFields (d+1) xs ys fs).run P w=.ok r w
 | [],r,h=>by simp only[QA] at h; cases h; rfl
 | f :: fs,r,h=>by
  simp only[QA] at h;split at h
  ·cases h
  rename_i hn;obtain⟨b,B,D⟩:=bE h;clear h;have Ge:=uk B w;cases b with
  | true=>simp only[if_true] at D; cases D
  | false=>
   simp only[Bool.false_eq_true,if_false] at D;have ee:f.name ≠ "_":=by simpa using hn
   have Rc:∀ (cs:Array Value) (v:Value),cs.toList[f.offset]? = some v->(part f.type cs f.offset).run P w=.ok v w:=λ cs v hv=>by
    have:cs[f.offset]? = some v:=by rw[<- hv]; simp
    simp[part,Ge,Result.andThen,this]
   have gz:∀ (u v:Value) (e rr:Bool),xs.toList[f.offset]? = some u->ys.toList[f.offset]? = some v->(Op.equalIn (d+1) f.type u v).run P w=.ok e w->QA P xs.toList ys.toList fs=.ok rr->r=(e && rr)->(Op.eqFields (d+1) xs ys (f :: fs)).run P w=.ok r w:=by
    intro u v e rr hu hv he hr RH;have ih:=H4 (d:=d) (w:=w) hr;simp only[Op.eqFields,ne_eq,ee,not_false_eq_true,if_true,Sem.run_bind,Rc xs u hu,Rc ys v hv,Result.andThen,he];cases e with
    | true=>simp only[Bool.not_true,Bool.false_eq_true,if_false,ih,RH,Bool.true_and]
    | false=>simp[RH]
   split at D
   ·rename_i k1 m1 k2 n1 hu Y hy;split at D
    ·rename_i hk;subst hk;obtain⟨rr,V,h4⟩:=bE D;cases h4;exact gz _ _ (_ == _) rr Y hy (by simp[Op.equalIn,av hu,Result.andThen]) V rfl
    ·cases D
   ·rename_i p q hu Y hy;obtain⟨rr,V,h4⟩:=bE D;cases h4;exact gz _ _ (_ == _) rr Y hy (by simp[Op.equalIn,av hu,Result.andThen]) V rfl
   ·rename_i p q hu Y hy;obtain⟨rr,V,h4⟩:=bE D;cases h4;exact gz _ _ (_ == _) rr Y hy (by simp[Op.equalIn,av hu,Result.andThen]) V rfl
   ·cases D
theorem P3 {op:BinOp} {t:TypeId} {x y:Operand} {a b v:Value} {w:World} (h:Ys P op t a b=.ok v):(do eqGuard op t x y a b; binOp op t a b:Sem Value).run P w=.ok v w/\∃ c,v=.bool c:=by
 unfold Ys at h;split at h
 ·rename_i fs xs ys hu;split at h
  ·cases h
  rename_i hc;simp only[Bool.or_eq_true,not_or,Bool.not_eq_true] at hc;obtain⟨r,B,D⟩:=bE h;have hf:P.fieldsOf t=fs:=by unfold Program.fieldsOf; rw[hu]
  have he:(Op.equalIn 10000 t (.agg xs) (.agg ys)).run P w=.ok r w:=by
   rw[run_equalIn_struct w 9999 t xs ys (by rw[hf]; exact hu) hc.1,hf];exact H4 (d:=9998) B
  have hg:=run_eqGuard_agg (P:=P) w op t x y xs ys hc.2;rw[Sem.run_bind,hg];simp only[Result.andThen];split at D
  ·cases D; exact⟨by rw[run_eql_struct,he]; rfl,_,rfl⟩
  ·cases D; exact⟨by rw[run_neq_struct,he]; rfl,_,rfl⟩
  ·cases D
 ·cases h
theorem P4 {ρ:cx} {op:BinOp} {t:TypeId} {x y:Operand} {a b a' b' v:Value} (h:iA P op t x y a b=.ok v) (ha:VR ρ a a') (hb:VR ρ b b') (w:World) :
  ∃ v',(do eqGuard op t x y a' b'; binOp op t a' b':Sem Value).run P w=.ok v' w/\VR ρ v v':=by
 unfold iA at h;split at h
 ·rw[ha.gQ,hb.gQ];obtain⟨B,D⟩:=ko h;rename_i k n j m;have e:(eqGuard op t x y (.int k n) (.int j m)).run P w=.ok () w:=by cases op <;> rfl
  exact⟨v,by rw[Sem.run_bind,e]; simp[Result.andThen,ej _ B w],dT _ D⟩
 ·rw[ha.gR,hb.gR];obtain⟨B,D⟩:=ko h;rename_i s s2;have e:(eqGuard op t x y (.string s) (.string s2)).run P w=.ok () w:=by cases op <;> rfl
  exact⟨v,by rw[Sem.run_bind,e]; simp[Result.andThen,ej _ B w],dT _ D⟩
 ·split at h
  ·rename_i hg;simp only[Bool.and_eq_true] at hg;rw[tY _ hg.1 ha,tY _ hg.2 hb];split at h
   ·rename_i v0 Yu;cases h;obtain⟨k1,c,rfl⟩:=P3 (x:=x) (y:=y) (w:=w) Yu;exact⟨_,k1,.bool c⟩
   ·obtain⟨B,D⟩:=ko h;exact⟨v,ej _ B w,dT _ D⟩
  ·split at h
   ·rename_i na nb ZN ZO;split at h
    ·rename_i hc;simp only[Bool.and_eq_true] at hc;have e:(eqGuard op t x y a' b').run P w=.ok () w:=by
      have fa:=hc.1.2;have:=hc.2;cases ha <;> simp[dB] at fa <;> (cases hb <;> simp[dB] at this <;> (cases op <;> rfl))
     obtain⟨k1,k2⟩:=P2 (P:=P) (ha.dh.trans ZN) (hb.dh.trans ZO) hc.1.1 ((ha.dB t).trans hc.1.2) ((hb.dB t).trans hc.2) w;split at h
     ·cases h; exact⟨_,by rw[Sem.run_bind,e]; simp[Result.andThen,k1],.bool _⟩
     ·cases h; exact⟨_,by rw[Sem.run_bind,e]; simp[Result.andThen,k2],.bool _⟩
     ·cases h
    ·cases h
   ·cases h
section ops
variable {a:az} {ca:Act} {ρ:cx} {H H':AH} {W:World} {v:Value} {rec:eL} {d:Option Tmp} {ty:TypeId} {ps:String} {af:Array Edge} {gu:Option (Nat×Bool)}
theorem M5 {x:Operand} (h:fV ρ H W) (Y:kE a ca ρ x) (ho:b9 P rec a H ⟨d,.move x,ty,ps,af,gu⟩=.ok (v,H')):ib P ⟨d,.move x,ty,ps,af,gu⟩ ρ H W ca v H':=by
 simp only[b9] at ho;obtain⟨u,B,D⟩:=bE ho;cases D;exact .aX h rfl (Y _ B)
theorem G0 {x:Operand} (h:fV ρ H W) (Y:kE a ca ρ x) (ho:b9 P rec a H ⟨d,.assign x,ty,ps,af,gu⟩=.ok (v,H')):ib P ⟨d,.assign x,ty,ps,af,gu⟩ ρ H W ca v H':=by
 simp only[b9] at ho;obtain⟨u,B,D⟩:=bE ho;cases D;exact .aX h rfl (Y _ B)
theorem M6 {c x y:Operand} (h:fV ρ H W) (hc:kE a ca ρ c) (Y:kE a ca ρ x) (hy:kE a ca ρ y) (ho:b9 P rec a H ⟨d,.pick c x y,ty,ps,af,gu⟩=.ok (v,H')) :
  ib P ⟨d,.pick c x y,ty,ps,af,gu⟩ ρ H W ca v H':=by
 simp only[b9] at ho;obtain⟨u,B,D⟩:=bE ho;split at D
 ·rename_i b;obtain⟨w,V,h4⟩:=bE D;cases h4;have e:=(hc _ B).bA;cases b with
  | true=>exact .aX h (v':=ca.eval x) (by simp[execOp,e,asBool]) (Y _ V)
  | false=>exact .aX h (v':=ca.eval y) (by simp[execOp,e,asBool]) (hy _ V)
 ·cases D
theorem um {db:cx} {W':World} {b:Nat} {cs cs':List Value} {t:TypeId} {n1 n2 esz:Nat} (hb:∃ fr,W'.heap[b]? = some (.cells cs'.toArray t fr)/\(fr.1≠fr.2->cs'.length<=fr.1)/\(2<=esz->fr.1=fr.2)) (hl:LR db cs (cs'.take cs.length)) (hle:cs.length<=cs'.length) :
  OR db W' ⟨b,0,esz,cs'.length⟩ (.row { cells:=cs.map some,ty:=t,aU:=n1,bJ:=n2,esz:=esz,ro:=false,cW:=true }):=by
 obtain⟨fr,hb,hz,Og⟩:=hb;refine⟨rfl,by simpa using hle,λ j X=>?_,λ _ D=>(by have:=Og D; unfold QB fz; simp only[hb]; simp[this])⟩;have jc:j < cs'.length:=X;refine⟨cs'[j],?_,λ v hv=>?_,λ _=>?_⟩
 ·unfold World.cell?;simp only[hb,Nat.zero_add];simp[jc]
 ·change (cs.map some)[j]? = some (some v) at hv;rw[List.getElem?_map] at hv;cases hc:cs[j]? with
  | none=>rw[hc] at hv; simp at hv
  | some u=>
   rw[hc] at hv;simp at hv;subst hv;have cG:j < cs.length:=by
    rcases Nat.lt_or_ge j cs.length with h' | h'
    ·exact h'
    ·rw[List.getElem?_eq_none h'] at hc; cases hc
   exact hl.2 j _ _ hc (by rw[List.getElem?_take,if_pos cG]; exact List.getElem?_eq_getElem jc)
 ·obtain⟨lo,N⟩:=fr;unfold fz;simp only[hb,Nat.zero_add];have Oh:lo≠N->cs'.length<=lo:=hz;simp only[Bool.or_eq_false_iff,Bool.and_eq_false_iff,decide_eq_false_iff_not,List.size_toArray,Option.isSome_none,true_or,and_true];omega
theorem ED {o:Oper} {t:TypeId} {esz id:Nat} {cs cs' rest:List Value} (h:fV ρ H W) (hn:newRow H t esz (cs.map some)=.ok (id,H')) {W1 W':World} {v':Value} {fr:Nat×Nat}
  (Ve:(fr.1≠fr.2->(cs'++rest).length<=fr.1)/\(2<=esz->fr.1=fr.2))
  (fp:(execOp ca.eval o).run P W=.ok (.value v') W') (B:W1.heap=W.heap) (D:W'.heap=W1.heap.push (.cells (cs'++rest).toArray t fr)) (ht:W'.tape=W.tape) (ID:W'.os=W.os) (ow:W'.output=W.output)
  (hl:LR ρ cs cs') (hv:∀ db,ρ.le db->db id=some ⟨W.heap.size,0,esz,(cs'++rest).length⟩->VR db v v'):ib P o ρ H W ca v H':=by
 unfold newRow at hn;have st:=St.new (pl:=⟨W.heap.size,0,esz,(cs'++rest).length⟩) (W':=W') h hn (.cells (cs'++rest).toArray t fr) (by rw[D,B]) ht ID ow rfl ?_
 ·refine⟨_,_,v',.inl fp,st,hv _ st.le ?_⟩;simp[cx.with]
 ·obtain⟨rfl,_⟩:=AH.pV hn;have hle:=cx.mD h (⟨W.heap.size,0,esz,(cs'++rest).length⟩:Pl);refine um ⟨fr,by rw[D,B]; simp,Ve⟩ ?_ (by simp[hl.1]);have:List.take cs.length (cs'++rest)=cs':=by rw[hl.1]; simp
  rw[this];exact hl.mono hle
theorem yu {o:Oper} {t:TypeId} {esz id:Nat} {cs cs' rest:List Value} (h:fV ρ H W) (hn:newRow H t esz (cs.map some)=.ok (id,H')) {W1 W':World} {v':Value}
  (fp:(execOp ca.eval o).run P W=.ok (.value v') W') (B:W1.heap=W.heap) (D:W'.heap=W1.heap.push (.cells (cs'++rest).toArray t (0,0))) (ht:W'.tape=W.tape) (ID:W'.os=W.os) (ow:W'.output=W.output)
  (hl:LR ρ cs cs') (hv:∀ db,ρ.le db->db id=some ⟨W.heap.size,0,esz,(cs'++rest).length⟩->VR db v v'):ib P o ρ H W ca v H':=
 ED h hn (fr:=(0,0)) ⟨λ h=>(h rfl).elim,λ _=>rfl⟩ fp B D ht ID ow hl hv
theorem dt (t:TypeId) (cs:Array Value) (w:World):(Go.newRow t cs).run P w=.ok ⟨w.heap.size,0,none⟩ { w with heap:=w.heap.push (.cells cs t) }:=rfl
theorem JG {t:TypeId} (h:fV ρ H W) (ho:b9 P rec a H ⟨d,.alloc t,ty,ps,af,gu⟩=.ok (v,H')):ib P ⟨d,.alloc t,ty,ps,af,gu⟩ ρ H W ca v H':=by
 simp only[b9] at ho;obtain⟨zs,B,D⟩:=bE ho;obtain⟨⟨id,H1⟩,V,h4⟩:=bE D;cases h4;obtain⟨z,z1,z2,z3,_⟩:=eK B W;refine yu (cs':=zs) (rest:=[]) (W1:=W) (W':={ W with heap:=W.heap.push (.cells z.cells t) }) (v':=.pointer (some ⟨W.heap.size,0,none⟩)) h V ?_ rfl ?_ rfl rfl rfl (ju z3) (λ db _ U=>?_)
 ·simp only[execOp,Instr.alloc,Sem.run_bind,z1,Result.andThen,newVar,dt,Sem.run_pure]
 ·simp[<- z2]
 ·exact .ptr (pl:=⟨W.heap.size,0,0,(zs++[]).length⟩) U
theorem P5 {t:TypeId} {x:Operand} (h:fV ρ H W) (Y:kE a ca ρ x) (ho:b9 P rec a H ⟨d,.box t x,ty,ps,af,gu⟩=.ok (v,H')):ib P ⟨d,.box t x,ty,ps,af,gu⟩ ρ H W ca v H':=by
 simp only[b9] at ho;obtain⟨u,B,D⟩:=bE ho;obtain⟨⟨id,H1⟩,V,h4⟩:=bE D;cases h4;refine yu (cs':=(ca.eval x).cells.toList) (rest:=[]) (W1:=W) (W':={ W with heap:=W.heap.push (.cells (ca.eval x).cells t) }) (v':=.pointer (some ⟨W.heap.size,0,none⟩)) h V ?_ rfl ?_ rfl rfl rfl (Y u B).cells (λ db _ U=>?_)
 ·simp only[execOp,Instr.box,Sem.run_bind,Result.andThen,newVar,dt,Sem.run_pure]
 ·simp
 ·exact .ptr (pl:=⟨W.heap.size,0,0,_⟩) U
theorem M7 {t:TypeId} {x:Operand} (h:fV ρ H W) (Y:kE a ca ρ x) (ho:b9 P rec a H ⟨d,.load t x,ty,ps,af,gu⟩=.ok (v,H')):ib P ⟨d,.load t x,ty,ps,af,gu⟩ ρ H W ca v H':=by
 simp only[b9] at ho;obtain⟨u,B,D⟩:=bE ho;obtain⟨⟨id,off⟩,V,h4⟩:=bE D;obtain⟨w,h5,h6⟩:=bE h4;cases h6;cases px V;obtain⟨pl,U,e⟩:=(Y _ B).at;obtain⟨v',k1,k2⟩:=vD (P:=P) h U h5;exact .aX h (v':=v') (by simp[execOp,Instr.loadAt,Instr.sureAddr,e,Result.andThen,k1]) k2
theorem JH {t:TypeId} {x y:Operand} (h:fV ρ H W) (Y:kE a ca ρ x) (hy:kE a ca ρ y) (ho:b9 P rec a H ⟨d,.store t x y,ty,ps,af,gu⟩=.ok (v,H')):ib P ⟨d,.store t x y,ty,ps,af,gu⟩ ρ H W ca v H':=by
 simp only[b9] at ho;obtain⟨u,B,D⟩:=bE ho;obtain⟨⟨id,off⟩,V,h4⟩:=bE D;obtain⟨w,h5,h6⟩:=bE h4;obtain⟨n,h7,h8⟩:=bE h6;split at h8
 case isFalse=>cases h8
 rename_i hs;obtain⟨H1,h9,AP⟩:=bE h8;cases AP;cases px V;obtain⟨pl,U,e⟩:=(Y _ B).at;have hl:=(hy _ h5).cells;obtain⟨W',k1,k2⟩:=St.gf (P:=P) h h9 U hl;refine⟨ρ,W',undef,.inr ⟨?_,rfl⟩,k2,VR.undef _⟩;have gK:(ca.eval y).cells.size=n:=by have:=hl.1; simp at this; omega
 simp[execOp,Instr.storeAt,Instr.sureAddr,e,Result.andThen,storeVar,bU h7 W,gK,k1]
theorem Dl {x:Operand} (h:fV ρ H W) (Y:kE a ca ρ x) (ho:b9 P rec a H ⟨d,.nilCheck x,ty,ps,af,gu⟩=.ok (v,H')):ib P ⟨d,.nilCheck x,ty,ps,af,gu⟩ ρ H W ca v H':=by
 simp only[b9] at ho;obtain⟨u,B,D⟩:=bE ho;have hv:=Y _ B;split at D
 ·cases D;obtain⟨w,hw⟩:∃ w,ca.eval x=w:=⟨_,rfl⟩
  rw[hw] at hv;cases hv with
  | ptr U=>exact .aX h (v':=ca.eval x) (by simp[execOp,hw]) (by rw[hw]; exact .ptr U)
 ·cases D;obtain⟨w,hw⟩:∃ w,ca.eval x=w:=⟨_,rfl⟩
  rw[hw] at hv;cases hv with
  | func e1 e2 e3 e4=>exact .aX h (v':=ca.eval x) (by simp[execOp,hw]) (by rw[hw]; exact .func e1 e2 e3 e4)
 ·cases D;obtain⟨w,hw⟩:∃ w,ca.eval x=w:=⟨_,rfl⟩
  rw[hw] at hv;cases hv with
  | yield U=>exact .aX h (v':=ca.eval x) (by simp[execOp,hw]) (by rw[hw]; exact .yield U)
 ·cases D
theorem BD {pl:Pl} {r:Row} (h:OR ρ W pl (.row r)) (he:r.cells.isEmpty=false):∃ c t f,W.heap[pl.cq]? = some (.cells c t f)/\0 < c.size:=by
 have hlen:0 < r.cells.length:=by
  rcases Nat.eq_zero_or_pos r.cells.length with h' | h'
  ·rw[List.eq_nil_of_length_eq_zero h'] at he; cases he
  ·exact h'
 obtain⟨v0,w1,_⟩:=h.2.2.1 0 (by have:=h.2.1; omega);unfold World.cell? at w1;split at w1
 ·rename_i cs ty f fM;refine⟨cs,ty,f,fM,?_⟩;simp at w1;rcases Nat.eq_zero_or_pos cs.size with h' | h'
  ·rw[Array.getElem?_eq_none (by omega)] at w1; cases w1
  ·exact h'
 ·cases w1
theorem Mc {b:Nat} {c:Array Value} {t:TypeId} {f:Nat×Nat} (h:QB W b=false) (hb:W.heap[b]? = some (.cells c t f)):f.1=f.2:=by
 obtain⟨lo,N⟩:=f;unfold QB fz at h;simp only[hb,Option.isSome_some,Bool.true_and,Bool.or_eq_false_iff,decide_eq_false_iff_not] at h;have:=h.2;show lo=N;omega
theorem G1 {w:World} {a b:Addr} {ca cb:Array Value} {ta tb:TypeId} {fa fb:Nat×Nat} (ee:a.block≠b.block) (ha:w.heap[a.block]? = some (.cells ca ta fa)) (hb:w.heap[b.block]? = some (.cells cb tb fb)) (sa:0 < ca.size) (sb:0 < cb.size)
  (hm:fa.1=fa.2\/fb.1=fb.2):(sameAddr a b).run P w=.ok false w:=by
 obtain⟨la,uM⟩:=fa;obtain⟨lb,ry⟩:=fb;have h0:∀ c:Array Value,0 < c.size->¬ c.size=0:=λ c h=>by omega
 rcases hm with hm | hm
 ·have hm:la=uM:=hm;subst hm;have hf:∀ o:Nat,(decide (la<=o) && decide (o < la))=false:=λ o=>by
   rw[Bool.and_eq_false_iff]; simp only[decide_eq_false_iff_not]; omega
  simp[sameAddr,ee,World.frozen?,ha,hb,noView,viewAt,World.shape?,mayBeOne,stringish,hf,h0 _ sa,h0 _ sb]
 ·have hm:lb=ry:=hm;subst hm;have hf:∀ o:Nat,(decide (lb<=o) && decide (o < lb))=false:=λ o=>by
   rw[Bool.and_eq_false_iff]; simp only[decide_eq_false_iff_not]; omega
  simp[sameAddr,ee,World.frozen?,ha,hb,noView,viewAt,World.shape?,mayBeOne,stringish,hf,h0 _ sa,h0 _ sb]
theorem P6 {op:BinOp} {t:TypeId} {x y:Operand} {a b a' b' v:Value} (wh:fV ρ H W) (h:rn P H op t a b=.ok v) (ha:VR ρ a a') (hb:VR ρ b b') :
  (do eqGuard op t x y a' b'; binOp op t a' b':Sem Value).run P W=.ok v W:=by
 unfold rn at h;split at h
 ·rename_i elem i oi j oj hu;obtain⟨n,B,D⟩:=bE h;split at D
  ·cases D
  rename_i hn;split at D
  ·rename_i rC;subst rC;obtain⟨pl,p1,rfl⟩:=ha.at;obtain⟨B7,p2,rfl⟩:=hb.at;rw[p1] at p2; cases p2;have e:(eqGuard op t x y (.pointer (some ⟨pl.cq,pl.base+oi,none⟩)) (.pointer (some ⟨pl.cq,pl.base+oj,none⟩))).run P W=.ok () W:=by cases op <;> rfl
   have heq:((⟨pl.cq,pl.base+oi,none⟩:Addr) == ⟨pl.cq,pl.base+oj,none⟩)=(oi == oj):=by
    by_cases ho:oi=oj
    ·subst ho; simp
    ·have:¬ ((⟨pl.cq,pl.base+oi,none⟩:Addr)=⟨pl.cq,pl.base+oj,none⟩):=λ h=>by injection h with e1 e2 e3; omega
     have B:((⟨pl.cq,pl.base+oi,none⟩:Addr) == ⟨pl.cq,pl.base+oj,none⟩)=false:=beq_eq_false_iff_ne.2 this;rw[B];exact(beq_eq_false_iff_ne.2 ho).symm
   have key:(Op.equal t (.pointer (some ⟨pl.cq,pl.base+oi,none⟩)) (.pointer (some ⟨pl.cq,pl.base+oj,none⟩))).run P W=.ok (oi == oj) W:=by
    have gen:∀ d,(Op.equalIn (d+1) t (.pointer (some ⟨pl.cq,pl.base+oi,none⟩)) (.pointer (some ⟨pl.cq,pl.base+oj,none⟩))).run P W=.ok (oi == oj) W:=λ d=>by
     simp only[Op.equalIn,Sem.run_bind,av hu,Result.andThen,bU B,ne_eq,hn,not_false_eq_true,sameAddr,beq_self_eq_true,if_true,heq,Sem.run_pure]
    exact gen 9999
   cases op <;> simp only at D <;> first | (cases D; done) | skip
   ·cases D;simp only[Sem.run_bind,e,Result.andThen,binOp,key,Sem.run_pure]
   ·cases D;simp only[Sem.run_bind,e,Result.andThen,binOp,key,Sem.run_pure]
  ·rename_i rC;obtain⟨pl,p1,rfl⟩:=ha.at;obtain⟨B7,p2,rfl⟩:=hb.at;split at D
   ·rename_i r r' hr ga;split at D
    ·cases D
    rename_i D0;simp only[Bool.or_eq_true,not_or,Bool.not_eq_true] at D0;obtain⟨pa,pa1,_,oa⟩:=wh.nF i _ hr;obtain⟨pb,pb1,_,ob⟩:=wh.nF j _ ga;rw[p1] at pa1; cases pa1;rw[p2] at pb1; cases pb1;have XB:∃ c t f,W.heap[pl.cq]? = some (.cells c t f)/\0 < c.size:=BD oa D0.1;have XD:∃ c t f,W.heap[B7.cq]? = some (.cells c t f)/\0 < c.size:=BD ob D0.2;obtain⟨ca,ta,fa,hca,sa⟩:=XB;obtain⟨cb,tb,fb,Yv,sb⟩:=XD;have fM:r.cW=true\/r'.cW=true->pl.cq≠B7.cq:=λ hs hb=>by
     obtain⟨ri,rj,e1,e2,_,_,s1,s2⟩:=wh.jh i j _ _ pl B7 hr ga rC p1 p2 hb;cases e1; cases e2;rcases hs with hs | hs
     ·rw[s1] at hs; cases hs
     ·rw[s2] at hs; cases hs
    have gz:pl.cq≠B7.cq->fa.1=fa.2\/fb.1=fb.2->(match op with
      | .eql=>(.ok (.bool false):R Value)
      | .neq=>.ok (.bool true)
      | _=>.error 351)=.ok v->(do eqGuard op t x y (.pointer (some ⟨pl.cq,pl.base+oi,none⟩)) (.pointer (some ⟨B7.cq,B7.base+oj,none⟩)); binOp op t (.pointer (some ⟨pl.cq,pl.base+oi,none⟩)) (.pointer (some ⟨B7.cq,B7.base+oj,none⟩)):Sem Value).run P W=.ok v W:=λ hb hm D=>by
     have e:(eqGuard op t x y (.pointer (some ⟨pl.cq,pl.base+oi,none⟩)) (.pointer (some ⟨B7.cq,B7.base+oj,none⟩))).run P W=.ok () W:=by cases op <;> rfl
     have iC:=G1 (P:=P) (w:=W) (a:=⟨pl.cq,pl.base+oi,none⟩) (b:=⟨B7.cq,B7.base+oj,none⟩) hb hca Yv sa sb hm;have key:(Op.equal t (.pointer (some ⟨pl.cq,pl.base+oi,none⟩)) (.pointer (some ⟨B7.cq,B7.base+oj,none⟩))).run P W=.ok false W:=by
      have gen:∀ d,(Op.equalIn (d+1) t (.pointer (some ⟨pl.cq,pl.base+oi,none⟩)) (.pointer (some ⟨B7.cq,B7.base+oj,none⟩))).run P W=.ok false W:=λ d=>by
       simp only[Op.equalIn,Sem.run_bind,av hu,Result.andThen,bU B,ne_eq,hn,not_false_eq_true,if_true,iC]
      exact gen 9999
     cases op <;> simp only at D <;> first | (cases D; done) | skip
     ·cases D;simp only[Sem.run_bind,e,Result.andThen,binOp,key,Sem.run_pure]
     ·cases D;simp only[Sem.run_bind,e,Result.andThen,binOp,key,Sem.run_pure,Bool.not_false]
    split at D
    ·rename_i hs;simp only[Bool.and_eq_true,Nat.ble_eq] at hs;exact gz (fM (.inl hs.1)) (.inl (Mc (oa.2.2.2 hs.1 hs.2) hca)) D
    ·split at D
     ·rename_i hs;simp only[Bool.and_eq_true,Nat.ble_eq] at hs;exact gz (fM (.inr hs.1)) (.inr (Mc (ob.2.2.2 hs.1 hs.2) Yv)) D
     ·cases D
   ·cases D
 ·cases h
theorem JI {op:BinOp} {t:TypeId} {a b v:Value} (h:rn P H op t a b=.ok v):∃ c,v=.bool c:=by
 unfold rn at h;split at h
 ·obtain⟨n,B,D⟩:=bE h;split at D
  ·cases D
  split at D
  ·split at D
   ·cases D; exact⟨_,rfl⟩
   ·cases D; exact⟨_,rfl⟩
   ·cases D
  ·split at D
   ·split at D
    ·cases D
    split at D
    ·split at D
     ·cases D; exact⟨_,rfl⟩
     ·cases D; exact⟨_,rfl⟩
     ·cases D
    ·split at D
     ·split at D
      ·cases D; exact⟨_,rfl⟩
      ·cases D; exact⟨_,rfl⟩
      ·cases D
     ·cases D
   ·cases D
 ·cases h
theorem JJ {op:BinOp} {t t2:TypeId} {x y:Operand} (h:fV ρ H W) (Y:kE a ca ρ x) (hy:kE a ca ρ y) (ho:b9 P rec a H ⟨d,.binOp op t x y t2,ty,ps,af,gu⟩=.ok (v,H')) :
  ib P ⟨d,.binOp op t x y t2,ty,ps,af,gu⟩ ρ H W ca v H':=by
 simp only[b9] at ho;obtain⟨u,B,D⟩:=bE ho;obtain⟨w,V,h4⟩:=bE D;split at h4
 ·obtain⟨r,h5,h6⟩:=bE h4;cases h6;have k1:=P6 (x:=x) (y:=y) h h5 (Y _ B) (hy _ V);obtain⟨c,rfl⟩:=JI h5;exact .aX h (v':=.bool c) (by simp only[execOp,Sem.run_bind,k1,Result.andThen]; rfl) (.bool c)
 ·obtain⟨r,h5,h6⟩:=bE h4;cases h6;obtain⟨v',k1,k2⟩:=P4 h5 (Y _ B) (hy _ V) W;exact .aX h (v':=v') (by simp only[execOp,Sem.run_bind,k1,Result.andThen]; rfl) k2
theorem M8 {op:UnOp} {t:TypeId} {x:Operand} (h:fV ρ H W) (Y:kE a ca ρ x) (ho:b9 P rec a H ⟨d,.unOp op t x,ty,ps,af,gu⟩=.ok (v,H')):ib P ⟨d,.unOp op t x,ty,ps,af,gu⟩ ρ H W ca v H':=by
 simp only[b9] at ho;obtain⟨u,B,D⟩:=bE ho;split at D
 ·obtain⟨r,V,h4⟩:=bE D;cases h4;obtain⟨k1,k2⟩:=ko V;exact .aX h (v':=v) (by simp only[execOp,(Y _ B).gQ,Sem.run_bind,ej _ k1 W,Result.andThen]; rfl) (dT _ k2)
 ·obtain⟨r,V,h4⟩:=bE D;cases h4;obtain⟨k1,k2⟩:=ko V;exact .aX h (v':=v) (by simp only[execOp,(Y _ B).bA,Sem.run_bind,ej _ k1 W,Result.andThen]; rfl) (dT _ k2)
 ·cases D
theorem vR {t:TypeId} {x:Operand} (h:fV ρ H W) (Y:kE a ca ρ x) (ho:b9 P rec a H ⟨d,.makeInterface t x,ty,ps,af,gu⟩=.ok (v,H')) :
  ib P ⟨d,.makeInterface t x,ty,ps,af,gu⟩ ρ H W ca v H':=by
 simp only[b9] at ho;split at ho
 ·cases ho
 ·rename_i d' hn hu;obtain⟨u,B,D⟩:=bE ho;cases D;refine .aX h (v':=.iface t (ca.eval x)) ?_ (.iface (Y _ B));simp only[execOp,Instr.makeInterface,Sem.run_bind,av hu,Result.andThen];cases d' <;> first | rfl | exact absurd hu (by simpa using hn _)
 ·cases ho
theorem iW {l:List Operand} {vs:List Value} (h:eU a.eval l=.ok vs) (Y:∀ x∈l,kE a ca ρ x):LR ρ vs (l.map ca.eval):=by
 induction l generalizing vs with
 | nil=>simp[eU] at h; subst h; exact LR.nil ρ
 | cons x l ih=>
  simp only[eU] at h;obtain⟨u,B,D⟩:=bE h;obtain⟨ws,V,h4⟩:=bE D;cases h4;exact(ih V λ y hy=>Y y (by simp[hy])).cons (Y x (by simp) _ B)
theorem Dm {fn:Fn} {first cap:Array Operand} (h:fV ρ H W) (Y:∀ x∈first.toList,kE a ca ρ x) (hy:∀ x∈cap.toList,kE a ca ρ x)
  (ho:b9 P rec a H ⟨d,.makeFunc fn first cap,ty,ps,af,gu⟩=.ok (v,H')):ib P ⟨d,.makeFunc fn first cap,ty,ps,af,gu⟩ ρ H W ca v H':=by
 cases fn <;> simp only[b9] at ho <;> first | (cases ho; done) | skip
 obtain⟨us,B,D⟩:=bE ho;obtain⟨ws,V,h4⟩:=bE D;cases h4;have l1:=iW B Y;have l2:=iW V hy;refine .aX h (v':=.func (.func _) (first.map ca.eval) (cap.map ca.eval)) rfl (.func ?_ ?_ ?_ ?_)
 ·simpa using l1.1
 ·simpa using l1.2
 ·simpa using l2.1
 ·simpa using l2.2
end ops
end
end Go.cy
namespace Go.cy
noncomputable section
variable {P:Program}
theorem lU {v:Value} {gF n:Nat} (h:gH v gF=.ok n):∃ k i,v=.int k i/\0<=i/\i<=(gF:Int)/\n=i.toNat/\n<=gF:=by
 unfold gH at h;split at h
 ·rename_i k i;split at h
  ·rename_i hc; cases h; exact⟨k,i,rfl,hc.1,hc.2,rfl,by omega⟩
  ·cases h
 ·cases h
theorem nz {t n:Nat} (h:bD P t=.ok n):∃ i,P.info? t=some i/\i.size=n:=by
 unfold bD at h;split at h
 ·rename_i i N; cases h; exact⟨i,N,rfl⟩
 ·cases h
theorem xC {t n:Nat} (h:jJ P t=.ok n):∃ i,P.info? t=some i/\i.bytes=n:=by
 unfold jJ at h;split at h
 ·rename_i i N; cases h; exact⟨i,N,rfl⟩
 ·cases h
section ops
variable {a:az} {ca:Act} {ρ:cx} {H H':AH} {W:World} {v:Value} {rec:eL} {d:Option Tmp} {ty:TypeId} {ps:String} {af:Array Edge} {gu:Option (Nat×Bool)}
theorem Bg {t:TypeId} {x:Operand} {f:Nat} (h:fV ρ H W) (Y:kE a ca ρ x) (ho:b9 P rec a H ⟨d,.fieldAddr t x f,ty,ps,af,gu⟩=.ok (v,H')) :
  ib P ⟨d,.fieldAddr t x f,ty,ps,af,gu⟩ ρ H W ca v H':=by
 simp only[b9] at ho;split at ho
 ·rename_i fields hu;split at ho
  ·rename_i fd hf;obtain⟨u,B,D⟩:=bE ho;obtain⟨⟨id,off⟩,V,h4⟩:=bE D;obtain⟨n,h5,h6⟩:=bE h4;split at h6
   ·cases h6
   ·rename_i hn;cases h6;cases px V;obtain⟨pl,U,e⟩:=(Y _ B).at;refine .aX h (v':=.pointer (some ⟨pl.cq,pl.base+off+fd.offset,none⟩)) ?_ (by rw[Nat.add_assoc]; exact .ptr U);simp[execOp,Instr.fieldAt,av hu,Result.andThen,hf,e,Instr.sureAddr,fieldPlace,bU h5,hn,gk]
  ·cases ho
 ·cases ho
theorem EE {t:TypeId} {cs cs':List Value} {off:Nat} (h:oc P t cs off=.ok v) (hl:LR ρ cs cs') (w:World):∃ v',(part t cs'.toArray off).run P w=.ok v' w/\VR ρ v v':=by
 unfold oc at h;obtain⟨b,B,D⟩:=bE h;have Ge:=uk B w;cases b with
 | true=>
  simp only[if_true] at D;obtain⟨n,V,h4⟩:=bE D;split at h4
  ·cases h4;refine⟨.agg ((cs'.drop off).take n).toArray,?_,VR.WY ((hl.drop off).take n)⟩;simp[part,Ge,Result.andThen,bU V,List.take_drop]
  ·cases h4
 | false=>
  simp only[Bool.false_eq_true,if_false] at D;split at D
  ·rename_i u hu;cases D;obtain⟨v',k1,k2⟩:=hl.get hu;refine⟨v',?_,k2⟩;simp[part,Ge,Result.andThen,k1]
  ·cases D
theorem VR.H5 {ρ:cx} {cs:Array Value} {v':Value} (h:VR ρ (.agg cs) v'):∃ cs':List Value,v'=.agg cs'.toArray/\LR ρ cs.toList cs':=by
 cases h with
 | agg B D=>rename_i c; exact⟨c.toList,by simp,B,D⟩
theorem VR.JK {ρ:cx} {cs:Array Value} {v':Value} (h:VR ρ (.tuple cs) v'):∃ cs':List Value,v'=.tuple cs'.toArray/\LR ρ cs.toList cs':=by
 cases h with
 | tuple B D=>rename_i c; exact⟨c.toList,by simp,B,D⟩
theorem JL {t:TypeId} {x:Operand} {f:Nat} (h:fV ρ H W) (Y:kE a ca ρ x) (ho:b9 P rec a H ⟨d,.field t x f,ty,ps,af,gu⟩=.ok (v,H')) :
  ib P ⟨d,.field t x f,ty,ps,af,gu⟩ ρ H W ca v H':=by
 simp only[b9] at ho;obtain⟨u,B,D⟩:=bE ho;split at D
 ·rename_i fields cs hu;split at D
  ·rename_i fd hf;obtain⟨r,V,h4⟩:=bE D;cases h4;obtain⟨cs',e,hl⟩:=(Y _ B).H5;obtain⟨v',k1,k2⟩:=EE V hl W;refine .aX h (v':=v') ?_ k2;simp[execOp,Instr.field,av hu,Result.andThen,hf,e,asAgg,k1]
  ·cases D
 ·cases D
theorem Bh {t:TypeId} {x i:Operand} (h:fV ρ H W) (Y:kE a ca ρ x) (N:kE a ca ρ i) (ho:b9 P rec a H ⟨d,.indexAddr t x i,ty,ps,af,gu⟩=.ok (v,H')) :
  ib P ⟨d,.indexAddr t x i,ty,ps,af,gu⟩ ρ H W ca v H':=by
 simp only[b9] at ho;obtain⟨u,B,D⟩:=bE ho;split at D
 ·rename_i n elem id off hu;obtain⟨iv,V,h4⟩:=bE D;obtain⟨j,h5,h6⟩:=bE h4;split at h6
  ·rename_i cG;obtain⟨size,h7,h8⟩:=bE h6;cases h8;obtain⟨pl,U,e⟩:=(Y _ B).at;obtain⟨k,m,rfl,m1,m2,rfl,_⟩:=lU h5;have ei:=(N _ V).gQ;refine .aX h (v':=.pointer (some ⟨pl.cq,pl.base+(off+m.toNat * size),none⟩)) ?_ (.ptr U);have hc:0<=m/\m < (n:Int):=⟨m1,by omega⟩
   simp[execOp,Instr.indexAt,ei,e,asIntOf,av hu,Result.andThen,Instr.sureAddr,hc,bU h7,gk,Nat.add_assoc]
  ·cases h6
 ·rename_i elem id off n c hu;obtain⟨iv,V,h4⟩:=bE D;obtain⟨j,h5,h6⟩:=bE h4;split at h6
  ·rename_i cG;obtain⟨size,h7,h8⟩:=bE h6;cases h8;obtain⟨k,m,rfl,m1,m2,rfl,_⟩:=lU h5;have ei:=(N _ V).gQ;have hc:0<=m/\m < (n:Int):=⟨m1,by omega⟩
   obtain⟨xv,QE⟩:∃ xv,ca.eval x=xv:=⟨_,rfl⟩
   have hv:=Y _ B;rw[QE] at hv;cases hv with
   | slice U _=>
    rename_i pl c';refine .aX h (v':=.pointer (some ⟨pl.cq,pl.base+(off+m.toNat * size),none⟩)) ?_ (.ptr U);simp[execOp,Instr.indexAt,ei,QE,asIntOf,av hu,Result.andThen,hc,bU h7,gk,Nat.add_assoc]
   | dG=>omega
  ·cases h6
 ·cases D
theorem JM {t:TypeId} {x i:Operand} (h:fV ρ H W) (Y:kE a ca ρ x) (N:kE a ca ρ i) (ho:b9 P rec a H ⟨d,.index t x i,ty,ps,af,gu⟩=.ok (v,H')) :
  ib P ⟨d,.index t x i,ty,ps,af,gu⟩ ρ H W ca v H':=by
 simp only[b9] at ho;obtain⟨u,B,D⟩:=bE ho;split at D
 ·rename_i s hu;obtain⟨iv,V,h4⟩:=bE D;obtain⟨j,h5,h6⟩:=bE h4;split at h6
  ·rename_i b hb;cases h6;obtain⟨k,m,rfl,m1,m2,rfl,_⟩:=lU h5;have ei:=(N _ V).gQ;have ex:=(Y _ B).gR;refine .aX h (v':=.int .u8 b.toNat) ?_ (.int _ _);have hs:s[m.toNat]? = some b:=by
    have cG:m.toNat < s.data.toList.length:=by
     rcases Nat.lt_or_ge m.toNat s.data.toList.length with h' | h'
     ·exact h'
     ·rw[List.getElem?_eq_none h'] at hb; cases hb
    rw[List.getElem?_eq_getElem cG] at hb;have gK:m.toNat < s.size:=by simpa using cG
    rw[getElem?_pos s m.toNat gK];exact hb
   simp[execOp,Instr.index,ei,ex,asIntOf,av hu,Result.andThen,m1,hs]
  ·cases h6
 ·rename_i n elem cs hu;obtain⟨iv,V,h4⟩:=bE D;obtain⟨j,h5,h6⟩:=bE h4;split at h6
  ·rename_i cG;obtain⟨size,h7,h8⟩:=bE h6;obtain⟨r,h9,AP⟩:=bE h8;cases AP;obtain⟨k,m,rfl,m1,m2,rfl,_⟩:=lU h5;have ei:=(N _ V).gQ;obtain⟨cs',e,hl⟩:=(Y _ B).H5;have hc:0<=m/\m < (n:Int):=⟨m1,by omega⟩
   obtain⟨v',k1,k2⟩:=EE h9 hl W;refine .aX h (v':=v') ?_ k2;simp[execOp,Instr.index,ei,e,asIntOf,av hu,Result.andThen,hc,bU h7,k1]
  ·cases h6
 ·cases D
theorem Ff {x:Operand} {i:Nat} (h:fV ρ H W) (Y:kE a ca ρ x) (ho:b9 P rec a H ⟨d,.extract x i,ty,ps,af,gu⟩=.ok (v,H')) :
  ib P ⟨d,.extract x i,ty,ps,af,gu⟩ ρ H W ca v H':=by
 simp only[b9] at ho;obtain⟨u,B,D⟩:=bE ho;split at D
 ·rename_i vs;split at D
  ·rename_i w hw;cases D;obtain⟨sI,e,hl⟩:=(Y _ B).JK;obtain⟨v',k1,k2⟩:=hl.get hw;refine .aX h (v':=v') ?_ k2;simp[execOp,Instr.extract,e,k1]
  ·cases D
 ·cases D
theorem LR.set {ρ:cx} {l l':List Value} (h:LR ρ l l') (i:Nat) {v v':Value} (hv:VR ρ v v'):LR ρ (l.set i v) (l'.set i v'):=by
 refine⟨by simp[h.1],λ j u u' B D=>?_⟩;rw[List.getElem?_set] at B D;by_cases e:i=j
 ·subst e;rw[if_pos rfl] at B D;split at B
  ·split at D
   ·cases B; cases D; exact hv
   ·cases D
  ·cases B
 ·rw[if_neg e] at B D;exact h.2 j u u' B D
theorem EF {ρ:cx} (off:Nat):∀ (l l':List Value) (i:Nat) (cells mm:Array Value),LR ρ l l'->LR ρ cells.toList mm.toList ->
  LR ρ ((l.zipIdx i).foldl (λ(cs:Array Value) (p:Value×Nat)=>cs.setIfInBounds (off+p.2) p.1) cells).toList ((l'.zipIdx i).foldl (λ(cs:Array Value) (p:Value×Nat)=>cs.setIfInBounds (off+p.2) p.1) mm).toList
 | [],l',i,cells,mm,hl,hc=>by rw[hl.mC]; exact hc
 | v :: l,l',i,cells,mm,hl,hc=>by
  obtain⟨v',m',rfl,hv,hm⟩:=hl.jt;simp only[List.zipIdx_cons,List.foldl_cons];refine EF off l m' (i+1) _ _ hm ?_;simp only[Array.toList_setIfInBounds];exact hc.set _ hv
theorem sy {ρ:cx} (nP:Nat->Option (Nat×Nat)):∀ (bH:List (Nat×Value)) (ng:List (Nat×Value)) (cells mm r:Array Value),
  bH.map (·.1)=ng.map (·.1)->LR ρ (bH.map (·.2)) (ng.map (·.2))->LR ρ cells.toList mm.toList->Instr.fill nP cells bH=some r ->
  ∃ r',Instr.fill nP mm ng=some r'/\LR ρ r.toList r'.toList
 | [],ng,cells,mm,r,B,_,hc,h=>by
  cases ng with
  | nil=>simp[Instr.fill] at h; subst h; exact⟨mm,rfl,hc⟩
  | cons _ _=>simp at B
 | (i,v) :: bH,ng,cells,mm,r,B,D,hc,h=>by
  cases ng with
  | nil=>simp at B
  | cons p ng=>
   obtain⟨i',v'⟩:=p;simp only[List.map_cons,List.cons.injEq] at B;obtain⟨rfl,B⟩:=B;have h2c:LR ρ (v :: bH.map (·.2)) (v' :: ng.map (·.2)):=D;have hv:VR ρ v v':=h2c.head;have uE:LR ρ (bH.map (·.2)) (ng.map (·.2)):=h2c.tail;have RI:=hv.cells;have gK:v'.cells.size=v.cells.size:=by have:=RI.1; simp at this; omega
   have Bl:mm.size=cells.size:=by have:=hc.1; simp at this; omega
   simp only[Instr.fill] at h ⊢;cases U:nP i with
   | none=>rw[U] at h; simp at h
   | some q=>
    obtain⟨off,size⟩:=q;rw[U] at h;simp only at h ⊢;rw[gK,Bl];split at h
    ·cases h
    ·rename_i hn;rw[if_neg hn];refine sy nP bH ng _ _ r B uE ?_ h;have:=EF off v.cells.toList v'.cells.toList 0 cells mm RI hc;rw[<- Array.foldl_toList,<- Array.foldl_toList,Array.toList_zipIdx,Array.toList_zipIdx];exact this
theorem vE {α β:Type} (f:α->Sem β) (aa:α->β) (w:World):∀ (l:List α),(∀ x∈l,(f x).run P w=.ok (aa x) w)->(l.mapM f).run P w=.ok (l.map aa) w
 | [],_=>by simp
 | x :: l,h=>by
  rw[List.mapM_cons];simp only[Sem.run_bind,h x (by simp),Result.andThen,vE f aa w l (λ y hy=>h y (by simp[hy])),Sem.run_pure];simp
theorem tG {α β:Type} (f:α->Sem β) (aa:α->β) (w:World) (xs:Array α) (h:∀ x∈xs.toList,(f x).run P w=.ok (aa x) w):(xs.mapM f).run P w=.ok (xs.toList.map aa).toArray w:=by
 rw[Array.mapM_eq_mapM_toList];simp only[Sem.run_map,vE f aa w _ h,Result.andThen]
theorem wL {α β:Type} {f:α->R β} : ∀ {l:List α} {ys:List β},eU f l=.ok ys->ys.length=l.length/\∀ (i:Nat) (x:α),l[i]? = some x->∃ y,ys[i]? = some y/\f x=.ok y
 | [],ys,h=>by simp[eU] at h; subst h; simp
 | x :: l,ys,h=>by
  simp only[eU] at h;obtain⟨y,B,D⟩:=bE h;obtain⟨zs,V,h4⟩:=bE D;cases h4;obtain⟨k1,k2⟩:=wL V;refine⟨by simp[k1],λ i u hu=>?_⟩;cases i with
  | zero=>simp at hu; subst hu; exact⟨y,rfl,B⟩
  | succ i=>simpa using k2 i u (by simpa using hu)
theorem uo {l:List (Nat×Operand)} {qs:List (Nat×Value)} (h:eU (λ(p:Nat×Operand)=>do .ok (p.1,<- a.eval p.2)) l=.ok qs) (Y:∀ p∈l,kE a ca ρ p.2) :
  qs.map (·.1)=(l.map λ p=>(p.1,ca.eval p.2)).map (·.1)/\LR ρ (qs.map (·.2)) ((l.map λ p=>(p.1,ca.eval p.2)).map (·.2)):=by
 induction l generalizing qs with
 | nil=>simp[eU] at h; subst h; exact⟨rfl,LR.nil ρ⟩
 | cons x l ih=>
  simp only[eU] at h;obtain⟨u,B,D⟩:=bE h;obtain⟨ws,V,h4⟩:=bE D;cases h4;obtain⟨w,h5,h6⟩:=bE B;cases h6;obtain⟨k1,k2⟩:=ih V λ y hy=>Y y (by simp[hy]);exact⟨by simp[k1],(k2).cons (Y x (by simp) _ h5)⟩
theorem JN {t:TypeId} {bH:Array (Nat×Operand)} (h:fV ρ H W) (Y:∀ p∈bH.toList,kE a ca ρ p.2) (ho:b9 P rec a H ⟨d,.build t bH,ty,ps,af,gu⟩=.ok (v,H')) :
  ib P ⟨d,.build t bH,ty,ps,af,gu⟩ ρ H W ca v H':=by
 simp only[b9] at ho;obtain⟨qs,B,D⟩:=bE ho;obtain⟨zs,V,h4⟩:=bE D;obtain⟨z,z1,z2,z3,_⟩:=eK V W;obtain⟨k1,k2⟩:=uo B Y;have Yw:LR ρ zs.toArray.toList z.cells.toList:=by rw[z2]; exact ju z3
 split at h4
 ·rename_i fields hu;obtain⟨nc,h5,h6⟩:=bE h4;split at h6
  ·rename_i cells hf;cases h6;obtain⟨r',f1,f2⟩:=sy _ qs _ _ _ cells k1 k2 Yw hf;refine .aX h (v':=.agg r') ?_ (.agg f2.1 f2.2);obtain⟨e1,e2⟩:=wL h5;have hm:(fields.mapM λ f=>do pure (f.offset,<- sizeOf f.type):Sem (Array (Nat×Nat))).run P W=.ok nc.toArray W:=by
    have hg:∀ x∈fields.toList,((do pure (x.offset,<- sizeOf x.type):Sem (Nat×Nat))).run P W=.ok ((λ x:Field=>(x.offset,match bD P x.type with | .ok n=>n | .error _=>0)) x) W:=λ x Hp=>by
     obtain⟨i,N⟩:=List.getElem?_of_mem Hp;obtain⟨y,_,Vf⟩:=e2 i x N;obtain⟨n,hn,Hq⟩:=bE Vf;simp[bU hn W,Result.andThen,hn]
    rw[tG _ _ W fields hg];congr 2;apply List.ext_getElem?;intro i;rw[List.getElem?_map];cases N:fields.toList[i]? with
    | none=>
     have:fields.toList.length<=i:=List.getElem?_eq_none_iff.1 N;rw[List.getElem?_eq_none (by omega)];rfl
    | some x=>
     obtain⟨y,Yx,Vf⟩:=e2 i x N;obtain⟨n,hn,Hq⟩:=bE Vf;cases Hq;rw[Yx];simp[hn]
   simp only[execOp,Instr.build,Sem.run_bind,z1,Result.andThen,av hu,hm,Array.toList_map];have:(λ x:Nat=>nc.toArray[x]?)=λ i:Nat=>nc[i]?:=by funext i; simp
   rw[this,f1];rfl
  ·cases h6
 ·rename_i n elem hu;obtain⟨size,h5,h6⟩:=bE h4;split at h6
  ·rename_i cells hf;cases h6;obtain⟨r',f1,f2⟩:=sy _ qs _ _ _ cells k1 k2 Yw hf;refine .aX h (v':=.agg r') ?_ (.agg f2.1 f2.2);simp only[execOp,Instr.build,Sem.run_bind,z1,Result.andThen,av hu,bU h5,Array.toList_map];rw[f1];rfl
  ·cases h6
 ·cases h4
theorem eS (z:List Value):∀ n,(ba z n).length=n * z.length
 | 0=>by simp[ba]
 | n+1=>by rw[ba,List.length_append,eS z n,Nat.add_mul]; omega
theorem vF (z:List Value):∀ (n i:Nat),i < n * z.length->(ba z n)[i]? = z[i % z.length]?
 | 0,i,h=>by simp at h
 | n+1,i,h=>by
  rw[ba];by_cases N:i < z.length
  ·rw[List.getElem?_append_left N,Nat.mod_eq_of_lt N]
  ·have hm:(n+1) * z.length=n * z.length+z.length:=by rw[Nat.add_mul]; omega
   rw[List.getElem?_append_right (by omega),vF z n _ (by omega)];congr 1;rw[<- Nat.mod_eq_sub_mod (by omega)]
theorem sA (z:Array Value) (n:Nat):((Array.range (n * z.size)).map λ i=>z[i % z.size]!).toList=ba z.toList n:=by
 apply List.ext_getElem?;intro i;by_cases N:i < n * z.size
 ·rw[vF _ _ _ (by simpa using N)];have hz:0 < z.size:=by
   rcases Nat.eq_zero_or_pos z.size with h | h
   ·rw[h] at N; simp at N
   ·exact h
  have cG:=Nat.mod_lt i hz;simp[N,cG]
 ·rw[List.getElem?_eq_none (by simp; omega),List.getElem?_eq_none (by rw[eS]; simpa using N)]
theorem Bi {t:TypeId} {l c:Operand} (h:fV ρ H W) (hl:kE a ca ρ l) (hc:kE a ca ρ c) (ho:b9 P rec a H ⟨d,.makeSlice t l c,ty,ps,af,gu⟩=.ok (v,H')) :
  ib P ⟨d,.makeSlice t l c,ty,ps,af,gu⟩ ρ H W ca v H':=by
 simp only[b9] at ho;split at ho
 ·rename_i elem hu;obtain⟨cv,B,D⟩:=bE ho;obtain⟨cn,V,h4⟩:=bE D;obtain⟨lv,h5,h6⟩:=bE h4;obtain⟨ln,h7,h8⟩:=bE h6;obtain⟨bytes,h9,AP⟩:=bE h8;split at AP
  ·cases AP
  ·rename_i hb;obtain⟨size,QF,Oi⟩:=bE AP;obtain⟨zs,Ul,QG⟩:=bE Oi;obtain⟨⟨id,H1⟩,QH,Kf⟩:=bE QG;cases Kf;obtain⟨k1,m1,rfl,a1,Z,rfl,a3⟩:=lU V;obtain⟨k2,m2,rfl,b1,b2,rfl,b3⟩:=lU h7;have e1:=(hc _ B).gQ;have e2:=(hl _ h5).gQ;obtain⟨z,z1,z2,z3,inf,z4,z5⟩:=eK Ul W;have TI:bytes=inf.bytes:=by obtain⟨i2,q1,q2⟩:=xC h9; rw[z4] at q1; cases q1; exact q2.symm
   have gI:size=inf.size:=by obtain⟨i2,q1,q2⟩:=nz QF; rw[z4] at q1; cases q1; exact q2.symm
   have w1:IntKind.i64.wrap m1=m1:=by rw[IntKind.wrap_i64]; omega
   have w2:IntKind.i64.wrap m2=m2:=by rw[IntKind.wrap_i64]; omega
   have hz:z.cells.size=inf.size:=by rw[<- z5,<- z2]; simp
   have CA:((Array.range (m1.toNat * size)).map λ i=>z.cells[i % z.cells.size]!).toList=ba zs m1.toNat:=by
    rw[gI,<- hz,sA,z2]
   have hg:(ba zs m1.toNat).all (iL gd)=true:=by
    have:∀ n,(ba zs n).all (iL gd)=true:=by
     intro n
     induction n with
     | zero=>rfl
     | succ n ih=>simp only[ba,List.all_append,ih,z3,Bool.and_self]
    exact this _
   refine yu (cs':=ba zs m1.toNat) (rest:=[]) (W1:=W) (W':={ W with heap:=W.heap.push (.cells (ba zs m1.toNat).toArray elem) }) (v':=.slice (some ⟨W.heap.size,0,none⟩) m2.toNat m1.toNat) h QH ?_ rfl (by simp) rfl rfl rfl (ju hg) (λ db _ U=>?_)
   ·have t1:¬ (inf.bytes * m1 > 2 ^ 48):=by
     rw[<- TI];have:(bytes:Int) * m1=((bytes * m1.toNat:Nat):Int):=by
      rw[Int.natCast_mul,Int.toNat_of_nonneg a1]
     rw[this];omega
    have ee:(decide (m1 < 0) || decide ((2:Int) ^ 48 < inf.bytes * m1))=false:=by
     have hm:¬ m1 < 0:=by omega
     have t1':¬ ((2:Int) ^ 48 < inf.bytes * m1):=t1;simp only[hm,t1',decide_false,Bool.or_self]
    simp only[execOp,Instr.makeSlice,Sem.run_bind,av hu,Result.andThen,e1,e2,asInt,asIntOf,Sem.run_pure,eG z4,w1,w2,gt_iff_lt];simp only[ee,Bool.false_or];have hm2:¬ m2 < 0:=by omega
    have hm3:¬ m2 > m1:=by omega
    have hm4:¬ m1 < m2:=by omega
    simp only[hm2,hm4,decide_false,Bool.or_self,Bool.false_eq_true,if_false,Sem.run_bind,Result.andThen,run_askRoom,bU QF];by_cases hn:m1.toNat * size=0
    ·have rG:ba zs m1.toNat=[]:=by
      apply List.eq_nil_of_length_eq_zero;rw[eS,z5,<- gI]; exact hn
     simp only[hn,if_true,Sem.run_pure,Result.andThen,Sem.run_bind,dt,rG];have e0:((Array.range 0).map λ x=>(#[] : Array Value)[x % (#[] : Array Value).size]!)=#[]:=by apply Array.eq_empty_of_size_eq_zero; simp
     rw[e0]
    ·simp only[hn,if_false,Sem.run_bind,z1,Result.andThen,Sem.run_pure,dt];have:((Array.range (m1.toNat * size)).map λ i=>z.cells[i % z.cells.size]!)=(ba zs m1.toNat).toArray:=by
      apply Array.ext'; simpa using CA
     rw[this]
   ·exact .slice (pl:=⟨W.heap.size,0,_,_⟩) U (.inl rfl)
 ·cases ho
end ops
end
end Go.cy
namespace Go.cy
noncomputable section
variable {P:Program}
def Yy (ρ:cx) (x x':Option Value):Prop:=match x,x' with
 | none,none=>True
 | some v,some v'=>VR ρ v v'
 | _,_=>False
theorem uq {gF kP n:Nat} (h:xq none gF kP=.ok n):n=kP:=by cases h; rfl
theorem kC {ρ:cx} {v v':Value} {gF n:Nat} (h:gH v gF=.ok n) (hv:VR ρ v v') (y:Nat) (hy:gF<=y) (code:BoundsCode) (w:World):(Instr.sliceBound v' y code).run P w=.ok n w:=by
 obtain⟨k,i,rfl,B,D,rfl,_⟩:=lU h;rw[hv.gQ];have:0<=i/\i<=(y:Int):=⟨B,by omega⟩
 simp[Instr.sliceBound,asIntOf,Result.andThen,this]
theorem nA {ρ:cx} {lo QI N kD mx mx':Option Value} {len c c' l h m:Nat} (hb:nZ len c lo N mx=.ok (l,h,m)) (B:Yy ρ lo QI) (D:Yy ρ N kD) (V:Yy ρ mx mx') (hc:c<=c') (s:Bool) (w:World) :
  ∃ m',(Instr.sliceBounds s len c' QI kD mx').run P w=.ok (l,h,m') w/\l<=h/\h<=m/\((m=c/\m'=c')\/(m'=m/\m<=c)):=by
 unfold nZ at hb;obtain⟨m0,b1,b2⟩:=bE hb;split at b2
 ·cases b2
 rename_i IE;obtain⟨h0,b3,b4⟩:=bE b2;obtain⟨l0,b5,b6⟩:=bE b4;split at b6
 case isFalse=>cases b6
 rename_i hle;cases b6;have Md:∀ code,(match QI with | some v=>Instr.sliceBound v h code | none=>pure 0:Sem Nat).run P w=.ok l w:=λ code=>by
  cases lo with
  | none=>cases QI with
   | none=>rw[uq b5]; rfl
   | some _=>exact B.elim
  | some v=>cases QI with
   | none=>exact B.elim
   | some v'=>exact kC b5 B _ (Nat.le_refl _) _ w
 cases mx with
 | none=>
  cases mx' with
  | some _=>exact V.elim
  | none=>
   have:=uq b1; subst this;refine⟨c',?_,hle.1,hle.2,.inl ⟨rfl,rfl⟩⟩;have XE:∀ code,(match kD with | some v=>Instr.sliceBound v c' code | none=>pure len:Sem Nat).run P w=.ok h w:=λ code=>by
    cases N with
    | none=>cases kD with
     | none=>rw[uq b3]; rfl
     | some _=>exact D.elim
    | some v=>cases kD with
     | none=>exact D.elim
     | some v'=>exact kC b3 D _ hc _ w
   unfold Instr.sliceBounds;simp only[Sem.run_bind,Sem.run_pure,Result.andThen];have e1:=XE (if s then .sliceAcap else .sliceAlen);have e2:=Md .sliceB;cases kD with
   | none=>
    simp only[Sem.run_pure] at e1;cases e1;simp only[Sem.run_pure];cases QI with
    | none=>simp only[Sem.run_pure] at e2; cases e2; simp
    | some v'=>
     have Vg:(Instr.sliceBound v' len .sliceB).run P w=.ok l w:=e2;simp[Vg]
   | some u=>
    have Um:(Instr.sliceBound u c' (if s then .sliceAcap else .sliceAlen)).run P w=.ok h w:=e1;simp only[Um,Result.andThen,Sem.run_bind];cases QI with
    | none=>simp only[Sem.run_pure] at e2; cases e2; simp
    | some v'=>
     have Vg:(Instr.sliceBound v' h .sliceB).run P w=.ok l w:=e2;simp[Vg]
 | some mv=>
  cases mx' with
  | none=>exact V.elim
  | some ZP=>
   cases N with
   | none=>simp at IE
   | some hv=>cases kD with
    | none=>exact D.elim
    | some rb=>
     have abW:m<=c:=by obtain⟨_,_,_,_,_,_,q⟩:=lU b1; exact q
     refine⟨m,?_,hle.1,hle.2,.inr ⟨rfl,abW⟩⟩;have e0:=kC (P:=P) b1 V c' hc (if s then .slice3Acap else .slice3Alen) w;have e1:=kC (P:=P) b3 D m (Nat.le_refl _) .slice3B w;have e2:=Md .slice3C;unfold Instr.sliceBounds;simp only[Sem.run_bind,e0,e1,Result.andThen];cases QI with
     | none=>simp only[Sem.run_pure] at e2; cases e2; simp
     | some v'=>
      have Vg:(Instr.sliceBound v' h .slice3C).run P w=.ok l w:=e2;simp[Vg]
section ops
variable {a:az} {ca:Act} {ρ:cx} {H H':AH} {W:World} {v:Value} {rec:eL} {d:Option Tmp} {ty:TypeId} {ps:String} {af:Array Edge} {gu:Option (Nat×Bool)}
theorem JO {id off size l h m m' c c':Nat} {pl:Pl} (U:ρ id=some pl) (hc:c'=c\/(pl.esz≠0/\c<=c'/\off+c' * pl.esz<=pl.ext)) (gK:pl.esz=size\/pl.esz=0) (hlh:l<=h) (hhm:h<=m)
  (hm:(m=c/\m'=c')\/(m'=m/\m<=c)) :
  VR ρ (.slice (some ⟨id,off+l * size,none⟩) (h - l) (m - l)) (.slice (some (if m'=l then⟨pl.cq,pl.base+off,none⟩ else(⟨pl.cq,pl.base+off,none⟩:Addr).add (l * size))) (h - l) (m' - l)):=by
 by_cases e:m'=l
 ·have:m=l/\h=l:=by
   rcases hm with⟨rfl,rfl⟩ | ⟨rfl,_⟩
   ·rcases hc with rfl | ⟨_,hc,_⟩ <;> omega
   ·omega
  obtain⟨rfl,rfl⟩:=this;rw[if_pos e,e];simp only[Nat.sub_self];exact .dG
 ·rw[if_neg e,gk,Nat.add_assoc];refine .slice U ?_;rcases hm with⟨rfl,rfl⟩ | ⟨rfl,_⟩
  ·rcases hc with rfl | ⟨B,D,V⟩
   ·exact .inl rfl
   ·refine .inr ⟨B,by omega,?_⟩;have:pl.esz=size:=by rcases gK with h | h; exact h; exact absurd h B
    subst this;have hle:l<=m':=by omega
    obtain⟨k,rfl⟩:∃ k,m'=l+k:=⟨m' - l,by omega⟩
    rw[Nat.add_sub_cancel_left];rw[Nat.add_mul] at V;omega
  ·exact .inl rfl
theorem JP {t:TypeId} {x:Operand} {lo N mx:Option Operand} (h:fV ρ H W) (Y:kE a ca ρ x) (B:∀ y,lo=some y->kE a ca ρ y) (D:∀ y,N=some y->kE a ca ρ y) (V:∀ y,mx=some y->kE a ca ρ y)
  (ho:b9 P rec a H ⟨d,.slice t x lo N mx,ty,ps,af,gu⟩=.ok (v,H')):ib P ⟨d,.slice t x lo N mx,ty,ps,af,gu⟩ ρ H W ca v H':=by
 simp only[b9] at ho;obtain⟨u,k1,fx⟩:=bE ho;clear ho;obtain⟨lov,k2,ft⟩:=bE fx;clear fx;obtain⟨hiv,k3,xR⟩:=bE ft;clear ft;obtain⟨mxv,k4,DH⟩:=bE xR;clear xR;obtain⟨r,k5,RJ⟩:=bE DH;clear DH;cases RJ;have ov:∀ (y:Option Operand) (yv:Option Value),(∀ z,y=some z->kE a ca ρ z)->(match y with | some z=>do let JQ<-a.eval z; Except.ok (some JQ) | none=>Except.ok none:R (Option Value))=.ok yv->Yy ρ yv (y.map ca.eval):=λ y yv hy e=>by
  cases y with
  | none=>cases e; trivial
  | some z=>obtain⟨w,e1,e2⟩:=bE e; cases e2; exact hy z rfl _ e1
 have o1:=ov lo lov B k2;have o2:=ov N hiv D k3;have o3:=ov mx mxv V k4;have QE:=Y _ k1;obtain⟨xv,Kx⟩:∃ xv,ca.eval x=xv:=⟨_,rfl⟩
 rw[Kx] at QE;unfold wx at k5;split at k5
 ·rename_i n elem hu;obtain⟨⟨id,off⟩,q1,k6⟩:=bE k5;clear k5;obtain⟨⟨l,hh,m⟩,q2,k7⟩:=bE k6;clear k6;obtain⟨size,q3,k8⟩:=bE k7;cases k8;cases px q1;obtain⟨pl,U,rfl⟩:=QE.at;obtain⟨m',r1,r2,r3,r4⟩:=nA (P:=P) q2 o1 o2 o3 (Nat.le_refl n) false W;have Yz:m'=m:=by rcases r4 with⟨e1,e2⟩ | ⟨e1,_⟩ <;> omega
  subst Yz;refine .aX h (v':=_) (by simp only[execOp,Instr.sliceAt,Kx,Sem.run_bind,av hu,Result.andThen,Instr.sureAddr,Sem.run_pure,r1,bU q3]; rfl) ?_;by_cases e:m'=l
  ·have:hh=l:=by omega
   rw[if_pos e];simp only[e,this,Nat.sub_self];exact .dG
  ·rw[if_neg e,gk,Nat.add_assoc];exact .slice U (.inl rfl)
 ·rename_i hu;split at k5
  ·rename_i s;split at k5
   ·cases k5
   ·rename_i ZQ;obtain⟨⟨l,hh,m⟩,q2,k6⟩:=bE k5;cases k6;rw[QE.gR] at Kx;obtain⟨m',r1,_⟩:=nA (P:=P) (ρ:=ρ) (mx':=none) q2 o1 o2 (by trivial) (Nat.le_refl s.size) false W;have Hr:mx=none:=by
     cases mx with
     | none=>rfl
     | some z=>obtain⟨w,e1,e2⟩:=bE k4; cases e2; simp at ZQ
    subst Hr;refine .aX h (v':=.string (s.extract l hh)) ?_ (.string _);simp only[execOp,Instr.sliceAt,Kx,Sem.run_bind,av hu,Result.andThen,Instr.slice,Option.map_none,Option.isSome_none,Bool.false_eq_true,if_false,Sem.run_pure,r1]
  ·cases k5
 ·rename_i elem hu;split at k5
  ·obtain⟨⟨l,hh,m⟩,q2,k6⟩:=bE k5;clear k5;obtain⟨size,q3,k7⟩:=bE k6;cases k7;cases QE with
   | fl=>
    obtain⟨m',r1,r2,r3,r4⟩:=nA (P:=P) q2 o1 o2 o3 (Nat.le_refl 0) true W;have e1:m'=0:=by omega
    have e2:l=0:=by omega
    have e3:hh=0:=by omega
    subst e1; subst e2; subst e3;refine .aX h (v':=.slice none 0 0) ?_ .fl;simp only[execOp,Instr.sliceAt,Kx,Sem.run_bind,av hu,Result.andThen,Instr.slice,r1,bU q3,Option.map_some,Sem.run_pure];simp
  ·rename_i id off len cap;obtain⟨⟨l,hh,m⟩,q2,k6⟩:=bE k5;clear k5;obtain⟨size,q3,k7⟩:=bE k6;clear k6;obtain⟨r0,q4,k8⟩:=bE k7;clear k7;split at k8
   case isFalse=>cases k8
   rename_i yM;cases k8;have hr:=AH.rX q4;obtain⟨pl,U,_,ji⟩:=h.nF id _ hr;have K5:pl.esz=size\/pl.esz=0:=by rw[<- ji.1]; exact yM
   cases QE with
   | slice lE hc=>
    rename_i c' yL;rw[U] at lE; cases lE;have NT:cap<=c':=by rcases hc with rfl | ⟨_,hc,_⟩ <;> omega
    obtain⟨m',r1,r2,r3,r4⟩:=nA (P:=P) q2 o1 o2 o3 NT true W;refine .aX h (v':=_) ?_ (JO U hc K5 r2 r3 r4);simp only[execOp,Instr.sliceAt,Kx,Sem.run_bind,av hu,Result.andThen,Instr.slice,r1,bU q3,Option.map_some,Sem.run_pure];by_cases e:m'=l
    ·simp[e]
    ·simp[e]
   | dG=>
    rename_i a';obtain⟨m',r1,r2,r3,r4⟩:=nA (P:=P) q2 o1 o2 o3 (Nat.le_refl 0) true W;have e1:m'=0:=by omega
    have e2:l=0:=by omega
    have e3:hh=0:=by omega
    have e4:m=0:=by omega
    subst e1; subst e2; subst e3; subst e4;refine .aX h (v':=.slice (some a') 0 0) ?_ (by simpa using VR.dG);simp only[execOp,Instr.sliceAt,Kx,Sem.run_bind,av hu,Result.andThen,Instr.slice,r1,bU q3,Option.map_some,Sem.run_pure];simp
  ·cases k5
 ·cases k5
end ops
end
end Go.cy
namespace Go.cy
noncomputable section
variable {P:Program}
theorem vG {v:Value} {l:List Value} {bs:List UInt8} (h:bytesOf (v :: l)=.ok bs):∃ n cs,v=.int .u8 n/\bytesOf l=.ok cs/\bs=UInt8.ofNat n.toNat :: cs:=by
 unfold bytesOf at h;split at h
 ·rename_i e; cases e
 ·rename_i n l' e;cases e;obtain⟨cs,B,D⟩:=bE h;cases D;exact⟨n,cs,rfl,B,rfl⟩
 ·cases h
theorem z9 (f:Value->ByteArray->Sem (ForInStep ByteArray)) (hf:∀ n s w,(f (.int .u8 n) s).run P w=.ok (.yield (s.push (UInt8.ofNat n.toNat))) w):∀ {l:List Value} {bs:List UInt8},bytesOf l=.ok bs->∀ (acc:ByteArray) (w:World),
  (forIn l acc f:Sem ByteArray).run P w=.ok ⟨acc.data++bs.toArray⟩ w
 | [],bs,h,acc,w=>by
  simp[bytesOf] at h; subst h;simp
 | v :: l,bs,h,acc,w=>by
  obtain⟨n,cs,rfl,B,rfl⟩:=vG h;have:=z9 f hf B (acc.push (UInt8.ofNat n.toNat)) w;simp only[List.forIn_cons,Sem.run_bind,hf,Result.andThen];rw[this];simp[ByteArray.push]
theorem BE {ρ:cx} : ∀ {l l':List Value} {bs:List UInt8},bytesOf l=.ok bs->LR ρ l l'->l'=l
 | [],l',_,_,hl=>hl.mC
 | v :: l,l',bs,h,hl=>by
  obtain⟨v',m',rfl,hv,hm⟩:=hl.jt;obtain⟨n,cs,rfl,B,rfl⟩:=vG h;rw[hv.gQ,BE B hm]
theorem vS {b o n:Nat} {c:Nat} {W:World} {vs:List Value} {bs:List UInt8} (hl:vs.length=n) (h:∀ k,k < n->W.cell? ⟨b,o+k,none⟩=vs[k]?) (hb:bytesOf vs=.ok bs) :
  (Conv.bytesToString (.slice (some ⟨b,o,none⟩) n c)).run P W=.ok (.string ⟨bs.toArray⟩) W:=by
 unfold Conv.bytesToString;simp only[Sem.run_bind,kB hl h,Result.andThen];rw[<- Array.forIn_toList];rw[z9 _ (λ n s w=>by rfl) hb];simp
theorem GA:∀ l:List UInt8,(l.map IB).all (iL 0)=true
 | []=>rfl
 | b :: l=>by simp only[List.map_cons,List.all_cons,GA l,Bool.and_true]; rfl
theorem vT (W:World) (cs:Array Value) (e:TypeId) :
  (markStringish ⟨W.heap.size,0,none⟩).run P { W with heap:=W.heap.push (.cells cs e) }=.ok () { W with heap:=W.heap.push (.cells cs e (cs.size,cs.size+1)) }:=by
 have hs:({ W with heap:=W.heap.push (.cells cs e) } : World).shape? W.heap.size=some (e,cs.size):=by
  simp[World.shape?]
 unfold markStringish;simp only[Sem.run_bind,run_shape,hs,Result.andThen,run_freeze];have:({ W with heap:=W.heap.push (.cells cs e) } : World).freeze ⟨W.heap.size,cs.size,none⟩ 1 = { W with heap:=W.heap.push (.cells cs e (cs.size,cs.size+1)) }:=by
  unfold World.freeze;rw[if_neg (by omega)];congr 1;apply Array.ext
  ·simp
  ·intro i B D;rw[Array.getElem_modify];by_cases N:W.heap.size=i
   ·subst N; simp
   ·rw[if_neg N];simp only[Array.size_modify,Array.size_push] at B;rw[Array.getElem_push_lt (by omega),Array.getElem_push_lt (by omega)]
 exact congrArg (Result.ok ()) this
theorem vU (e:TypeId) (s:ByteArray) (W:World):∃ cap,s.size<=cap/\(Conv.stringToBytes e s).run P W=.ok (.slice (some ⟨W.heap.size,0,none⟩) s.size cap)
  { W with drawn:=W.drawn+1,heap:=W.heap.push (.cells (s.data.toList.map IB++List.replicate (cap - s.size) (Value.int .u8 0)).toArray e (cap,cap+1)) }:=by
 refine⟨(Question.appendCap s.size 0 e).cut (W.tape W.drawn (.appendCap s.size 0 e)),by simp only[Question.cut]; omega,?_⟩;have kM:s.size<=(Question.appendCap s.size 0 e).cut (W.tape W.drawn (.appendCap s.size 0 e)):=by simp only[Question.cut]; omega
 generalize yb:(Question.appendCap s.size 0 e).cut (W.tape W.drawn (.appendCap s.size 0 e))=cap at kM ⊢;have gK:((s.data.map IB)++Array.replicate (cap - s.size) (Value.int .u8 0))=((s.data.toList.map IB)++List.replicate (cap - s.size) (Value.int .u8 0)).toArray:=by
  apply Array.ext'; simp
 have hlen:((s.data.toList.map IB)++List.replicate (cap - s.size) (Value.int .u8 0)).toArray.size=cap:=by
  have:s.data.toList.length=s.size:=by simp
  simp only[List.size_toArray,List.length_append,List.length_map,List.length_replicate,this];omega
 have hm:=vT (P:=P) { W with drawn:=W.drawn+1 } ((s.data.toList.map IB)++List.replicate (cap - s.size) (Value.int .u8 0)).toArray e;rw[hlen] at hm;have hu:(λ b:UInt8=>Value.int .u8 b.toNat)=IB:=rfl;simp only[Conv.stringToBytes,Sem.run_bind,run_choose,Question.forced,Bool.false_eq_true,if_false,yb,Result.andThen,hu,gK,dt,hm,Sem.run_pure]
section ops
variable {a:az} {ca:Act} {ρ:cx} {H H':AH} {W:World} {v:Value} {rec:eL} {d:Option Tmp} {ty:TypeId} {ps:String} {af:Array Edge} {gu:Option (Nat×Bool)}
theorem Fg {s t:TypeId} {x:Operand} (h:fV ρ H W) (Y:kE a ca ρ x) (ho:b9 P rec a H ⟨d,.convert s t x,ty,ps,af,gu⟩=.ok (v,H')):ib P ⟨d,.convert s t x,ty,ps,af,gu⟩ ρ H W ca v H':=by
 simp only[b9] at ho;obtain⟨u,k1,fx⟩:=bE ho;clear ho;have hv:=Y _ k1;obtain⟨xv,Kx⟩:∃ xv,ca.eval x=xv:=⟨_,rfl⟩
 rw[Kx] at hv;have gz:∀ v' W',(convert s t xv).run P W=.ok v' W'->(execOp ca.eval ⟨d,.convert s t x,ty,ps,af,gu⟩).run P W=.ok (.value v') W':=λ v' W' e=>by
  simp only[execOp,Kx,Sem.run_bind,e,Result.andThen,Sem.run_pure]
 unfold sx at fx;split at fx
 ·split at fx
  ·rename_i e hs ht;split at fx
   ·rename_i he;cases fx;cases hv with
    | fl=>
     refine .aX h (v':=.string .empty) (gz _ _ ?_) (.string _);simp[convert,av hs,av ht,av he,Result.andThen,Conv.bytesToString]
   ·cases fx
  ·cases fx
 ·rename_i id off n c;split at fx
  ·rename_i e hs ht;split at fx
   ·rename_i he;obtain⟨cs,q1,ft⟩:=bE fx;obtain⟨bs,q2,xR⟩:=bE ft;cases xR;have key:∃ b o c',xv=.slice (some ⟨b,o,none⟩) n c'/\cs.length=n/\(∀ k,k < n->W.cell? ⟨b,o+k,none⟩=cs[k]?)\/(n=0/\∃ a',xv=.slice (some a') 0 0/\cs=[]):=by
     cases hv with
     | slice U hc=>
      rename_i c' pl;unfold qh at q1;by_cases hn:n=0
      ·rw[if_pos hn] at q1; cases q1;exact⟨_,_,_,.inl ⟨rfl,hn.symm,λ k hk=>by omega⟩⟩
      ·rw[if_neg hn] at q1;obtain⟨r,q3,q4⟩:=bE q1;obtain⟨sI,e1,e2,e3⟩:=zL h (AH.rX q3) U q4;have:=BE q2 e3;subst this;exact⟨_,_,_,.inl ⟨rfl,e1,e2⟩⟩
     | dG=>
      unfold qh at q1;rw[if_pos rfl] at q1; cases q1;exact⟨0,0,0,.inr ⟨rfl,_,rfl,rfl⟩⟩
    obtain⟨b,o,c',(⟨rfl,e1,e2⟩ | ⟨rfl,a',rfl,rfl⟩)⟩:=key
    ·refine .aX h (v':=.string ⟨bs.toArray⟩) (gz _ _ ?_) (.string _);simp[convert,av hs,av ht,av he,Result.andThen,vS e1 e2 q2]
    ·refine .aX h (v':=.string ⟨bs.toArray⟩) (gz _ _ ?_) (.string _);simp[bytesOf] at q2;subst q2;simp[convert,av hs,av ht,av he,Result.andThen,Conv.bytesToString,loadCells,loadCellsFrom];rfl
   ·cases fx
  ·rename_i e0 e hs ht;split at fx
   ·rename_i he;obtain⟨r,q1,ft⟩:=bE fx;split at ft
    ·cases ft
    rename_i K6;have gG:r.ro=false:=by simpa using K6
    split at ft
    ·cases ft
    rename_i D0;split at ft
    ·cases ft
    rename_i AB;split at ft
    ·rename_i ZS;obtain⟨rfl,hn⟩:=ZS;cases ft;obtain rfl:e0=e:=by rw[hs] at ht; cases ht; rfl
     cases hv with
     | slice U hc=>
      rename_i c' pl;have hr:=AH.rX q1;obtain⟨p0,nL,cG,ji⟩:=h.nF _ _ hr;rw[U] at nL; cases nL;have hlen:0 < r.cells.length:=by
       rcases Nat.eq_zero_or_pos r.cells.length with h' | h'
       ·exact absurd (by rw[List.isEmpty_iff]; exact List.eq_nil_of_length_eq_zero h') D0
       ·exact h'
      obtain⟨v0,w1,_,w3⟩:=ji.2.2.1 0 (by have:=ji.2.1; omega);have gZ:=w1;unfold World.cell? at gZ;split at gZ
      ·rename_i cs ty f fM;have HH:W.heap[pl.cq]? = some (.cells cs ty f):=fM;have gK:pl.base < cs.size:=by
        simp at gZ;rcases Nat.lt_or_ge pl.base cs.size with h' | h'
        ·exact h'
        ·rw[Array.getElem?_eq_none h'] at gZ; cases gZ
       obtain⟨lo,N⟩:=f;have Ve:=w3 gG;unfold fz at Ve;simp only[HH,Bool.or_eq_false_iff,Bool.and_eq_false_iff,decide_eq_false_iff_not] at Ve;have hlh:lo=N\/cs.size<=lo:=by omega
       obtain⟨f',DG,I⟩:∃ f':Nat×Nat,(if (lo == N)=true then(cs.size,cs.size+1) else(min lo cs.size,max N (cs.size+1)))=f'/\f'.1=cs.size:=by
        refine⟨_,rfl,?_⟩;by_cases h':lo=N
        ·rw[if_pos (by simpa using h')]
        ·rw[if_neg (by simpa using h')];show min lo cs.size=cs.size;omega
       have hsh:W.shape? pl.cq=some (ty,cs.size):=by unfold World.shape?; rw[HH]
       refine⟨ρ,W.freeze ⟨pl.cq,cs.size,none⟩ 1,_,.inl (gz _ _ ?_),St.TF h hr U gG (λ a b=>AB (by rw[a]; simpa using b)) (f':=f') HH ?_ I (λ b hb=>?_) ?_ rfl rfl rfl,.slice U hc⟩
       ·simp[convert,av hs,av he,Result.andThen,markStringish,hsh]
       ·unfold World.freeze;rw[if_neg (by decide)];simp only[Array.getElem?_modify,if_true,HH,Option.map_some];rw[<- DG]
        try exact if_pos trivial
       ·unfold World.freeze;rw[if_neg (by decide)];simp only[Array.getElem?_modify];rw[if_neg (Ne.symm hb)]
       ·unfold World.freeze;rw[if_neg (by decide)];simp
      ·cases gZ
     | dG=>exact absurd rfl hn
    ·cases ft
   ·cases fx
  ·cases fx
 ·rename_i str;split at fx
  ·rename_i e hs ht;split at fx
   ·rename_i he;obtain⟨⟨id,H1⟩,q1,ft⟩:=bE fx;cases ft;rw[hv.gR] at Kx gz;obtain⟨cap,kM,fp⟩:=vU (P:=P) e str W;have Bm:str.data.toList.length=str.size:=by simp
    refine ED (cs':=str.data.toList.map IB) (rest:=List.replicate (cap - str.size) (Value.int .u8 0)) (W1:=W) (W':={ W with drawn:=W.drawn+1,heap:=W.heap.push (.cells (str.data.toList.map IB++List.replicate (cap - str.size) (Value.int .u8 0)).toArray e (cap,cap+1)) }) (v':=.slice (some ⟨W.heap.size,0,none⟩) str.size cap) h q1 (fr:=(cap,cap+1)) ?_ (gz _ _ ?_) rfl rfl rfl rfl rfl (ju (n:=0) (GA _)) (λ db _ U=>?_)
    ·refine⟨λ _=>?_,λ D=>absurd D (by decide)⟩;simp only[List.length_append,List.length_map,List.length_replicate,Bm];omega
    ·simp only[convert,Sem.run_bind,av hs,av ht,av he,Result.andThen];exact fp
    ·refine .slice (pl:=⟨W.heap.size,0,1,_⟩) U (.inr ⟨by simp,kM,?_⟩);simp only[List.length_append,List.length_map,List.length_replicate,Bm];omega
   ·cases fx
  ·obtain⟨r,q1,ft⟩:=bE fx;cases ft;obtain⟨g1,g2⟩:=ko q1;rw[hv.gR] at gz;exact .aX h (v':=v) (gz _ _ (ej _ g1 W)) (dT _ g2)
 ·obtain⟨r,q1,ft⟩:=bE fx;cases ft;obtain⟨g1,g2⟩:=ko q1;rw[hv.gQ] at gz;exact .aX h (v':=v) (gz _ _ (ej _ g1 W)) (dT _ g2)
 ·cases fx
theorem Aw {t:TypeId} {n:Nat} {bH:Array (Nat×Operand)} (h:fV ρ H W) (Y:∀ p∈bH.toList,kE a ca ρ p.2) (ho:b9 P rec a H ⟨d,.buildSlice t n bH,ty,ps,af,gu⟩=.ok (v,H')) :
  ib P ⟨d,.buildSlice t n bH,ty,ps,af,gu⟩ ρ H W ca v H':=by
 simp only[b9] at ho;split at ho
 ·rename_i elem hu;obtain⟨qs,B,fx⟩:=bE ho;clear ho;obtain⟨size,D,ft⟩:=bE fx;clear fx;split at ft
  ·cases ft
  ·rename_i Vh;obtain⟨zs,V,xR⟩:=bE ft;clear ft;split at xR
   ·rename_i cells hf;obtain⟨⟨id,H1⟩,h4,DH⟩:=bE xR;cases DH;obtain⟨z,z1,z2,z3,inf,z4,z5⟩:=eK V W;have gI:size=inf.size:=by obtain⟨i2,q1,q2⟩:=nz D; rw[z4] at q1; cases q1; exact q2.symm
    have hz:z.cells.size=size:=by rw[gI,<- z5,<- z2]; simp
    obtain⟨k1,k2⟩:=uo B Y;have hg:∀ m,(ba zs m).all (iL gd)=true:=by
     intro m
     induction m with
     | zero=>rfl
     | succ m ih=>simp only[ba,List.all_append,ih,z3,Bool.and_self]
    obtain⟨r',f1,f2⟩:=sy _ qs _ _ (ba zs n).toArray cells k1 k2 (ju (hg n)) hf;refine yu (cs':=r'.toList) (rest:=[]) (W1:=W) (W':={ W with heap:=W.heap.push (.cells r' elem) }) (v':=.slice (some ⟨W.heap.size,0,none⟩) n n) h h4 ?_ rfl (by simp) rfl rfl rfl f2 (λ db _ U=>?_)
    ·have Kw:¬ (n * size > 2 ^ 24):=Vh;simp only[execOp,Instr.buildSlice,Sem.run_bind,av hu,Result.andThen,bU D,Kw,if_false];by_cases hn:n * size=0
     ·have e0:((Array.range 0).map λ x=>(#[] : Array Value)[x % (#[] : Array Value).size]!)=(ba zs n).toArray:=by
       have:ba zs n=[]:=List.eq_nil_of_length_eq_zero (by rw[eS,z5,<- gI]; exact hn);rw[this];apply Array.eq_empty_of_size_eq_zero; simp
      simp only[hn,if_true,Sem.run_bind,Sem.run_pure,Result.andThen,e0,Array.toList_map,f1,dt]
     ·have e0:((Array.range (n * size)).map λ x=>z.cells[x % z.cells.size]!)=(ba zs n).toArray:=by
       apply Array.ext';rw[<- hz,sA,z2]
      simp only[hn,if_false,Sem.run_bind,Sem.run_pure,z1,Result.andThen,e0,Array.toList_map,f1,dt]
    ·exact .slice (pl:=⟨W.heap.size,0,_,_⟩) U (.inl rfl)
   ·cases xR
 ·cases ho
end ops
end
end Go.cy
namespace Go.cy
noncomputable section
variable {P:Program}
theorem BF (CB:Nat):∀ (r c b:Nat),c<=b->CB+(CB+768) / 4<=b->Builtin.growBy CB r c<=b
 | 0,c,b,h,_=>h
 | r+1,c,b,h,hb=>by
  unfold Builtin.growBy;split
  ·exact h
  ·exact BF CB r _ b (by omega) hb
theorem G2 (Gf old:Nat) (h:old < Gf):4 * Builtin.nextslicecap Gf old<=5 * Gf+768:=by
 suffices Builtin.nextslicecap Gf old<=Gf+(Gf+768) / 4 by omega
 unfold Builtin.nextslicecap;split
 ·omega
 ·split
  ·omega
  ·exact BF Gf 4 old _ (by omega) (by omega)
section
variable {ρ:cx} {H H':AH} {W:World}
theorem EG {t:TypeId} {z:Value} {w:World} (h:(zeroValue t).run P w=.ok z w) (w':World):(zeroValue t).run P w'=.ok z w':=by
 unfold zeroValue at h ⊢;simp only[Sem.run_bind,typeInfo,run_program,Result.andThen] at h ⊢;cases N:P.info? t with
 | none=>rw[N] at h; simp at h
 | some i=>
  rw[N] at h;simp only[Sem.run_pure] at h ⊢;cases hz:i.zero with
  | none=>rw[hz] at h; simp at h
  | some v=>rw[hz] at h; simp at h ⊢; exact h
theorem vH (h:fV ρ H W) {elem size m:Nat} {nO:Bool} {x x':Value} {new:List Value} (ha:gj P H elem nO x=.ok (new,m)) (hs:bD P elem=.ok size) (Y:VR ρ x x') :
  ∃ new',LR ρ new new'/\new.length=m * size /\
   ∀ w:World,w.heap=W.heap->(nO=true->x'=.int .i64 m/\m < 17179869184/\∃ z,(zeroValue elem).run P w=.ok z w/\z.cells.size=size/\(Builtin.zeroCells z.cells m)=new'.toArray) /\
   (nO=false->(Builtin.lenOf x').run P w=.ok m w/\∀ k,k<=m->(Builtin.firstCells size k x').run P w=.ok (new'.take (k * size)).toArray w):=by
 unfold gj at ha;obtain⟨af0,B,DI⟩:=bE ha;clear ha;rw[hs] at B; cases B;cases nO with
 | true=>
  simp only[if_true] at DI;split at DI
  ·split at DI
   ·rename_i n hc;obtain⟨zs,V,h4⟩:=bE DI;cases h4;have uN:=eK V;obtain⟨z,z1,z2,z3,inf,z4,z5⟩:=uN W;have gI:size=inf.size:=by obtain⟨i2,q1,q2⟩:=nz hs; rw[z4] at q1; cases q1; exact q2.symm
    have hz:z.cells.size=size:=by rw[gI,<- z5,<- z2]; simp
    have hg:∀ m,(ba zs m).all (iL gd)=true:=by
     intro m
     induction m with
     | zero=>rfl
     | succ m ih=>simp only[ba,List.all_append,ih,z3,Bool.and_self]
    refine⟨ba zs n.toNat,ju (hg _),by rw[eS,z5,gI],λ w hw=>⟨λ _=>⟨?_,by omega,z,?_,hz,?_⟩,λ e=>by cases e⟩⟩
    ·rw[Y.gQ]; congr 1; omega
    ·exact EG z1 w
    ·apply Array.ext';unfold Builtin.zeroCells;rw[sA,z2]
   ·cases DI
  ·cases DI
 | false=>
  simp only[Bool.false_eq_true,if_false] at DI;split at DI
  ·cases DI;cases Y with
   | fl=>
    refine⟨[],LR.nil ρ,by simp,λ w hw=>⟨λ e=>(by cases e),λ _=>⟨rfl,λ k hk=>?_⟩⟩⟩;simp[Builtin.firstCells]
  ·rename_i id off n c;obtain⟨vs,V,h4⟩:=bE DI;cases h4;unfold qh at V;split at V
   ·rename_i hz;cases V;refine⟨[],LR.nil ρ,by simp[hz],λ w hw=>⟨λ e=>(by cases e),λ _=>?_⟩⟩;have Kg:∀ k,k<=m->k * size=0:=λ k hk=>by
     have:=Nat.mul_le_mul_right size hk;omega
    cases Y with
    | slice U hc=>
     refine⟨rfl,λ k hk=>?_⟩;simp only[Builtin.firstCells,Kg k hk];simp[loadCells,loadCellsFrom]
    | dG=>
     refine⟨rfl,λ k hk=>?_⟩;simp only[Builtin.firstCells,Kg k hk];simp[loadCells,loadCellsFrom]
   ·rename_i hz;obtain⟨r,h5,h6⟩:=bE V;cases Y with
    | slice U hc=>
     rename_i c' pl;obtain⟨sI,e1,e2,e3⟩:=zL h (AH.rX h5) U h6;refine⟨sI,e3,by rw[e3.1,e1],λ w hw=>⟨λ e=>(by cases e),λ _=>⟨rfl,λ k hk=>?_⟩⟩⟩;have hle:=Nat.mul_le_mul_right size hk;simp only[Builtin.firstCells];refine kB (by simp; omega) (λ j X=>?_);rw[qn (W:=W) (by rw[hw]),e2 j (by omega),List.getElem?_take,if_pos X]
    | dG=>simp at hz
  ·rename_i s;split at DI
   ·rename_i B;cases DI;subst B;rw[Y.gR];refine⟨s.data.toList.map IB,ju (n:=0) (GA _),by simp,λ w hw=>⟨λ e=>(by cases e),λ _=>⟨rfl,λ k hk=>?_⟩⟩⟩;simp only[Builtin.firstCells,Sem.run_pure];congr 1;apply Array.ext';have hu:(λ b:UInt8=>Value.int .u8 b.toNat)=IB:=rfl;simp[hu,List.map_take]
   ·cases DI
  ·cases DI
structure Vi (P:Program) (W:World) (elem size n bytes:Nat) (jg:Option TypeId) (x:Value) (new:Array Value):Prop where
 aM:(∃ t k,jg=some t/\P.underlying t=some (.int k)/\x=.int .i64 n/\n < 17179869184/\n * bytes<=281474976710656/\∃ z,(zeroValue elem).run P W=.ok z W/\Builtin.zeroCells z.cells n=new/\(n * size=0->new=#[])) \/
  ((∀ t,jg=some t->∃ d,P.underlying t=some d/\∀ k,d≠.int k)/\(Builtin.lenOf x).run P W=.ok n W/\(Builtin.firstCells size n x).run P W=.ok new W)
theorem pw {argTypes:Array TypeId} {ty tw elem size n bytes:Nat} {jg:Option TypeId} {base:Option Addr} {sLen sCap:Nat} {x:Value} {inf:TypeInfo} {new:Array Value} {W':World}
  (h0:argTypes[0]? = some tw) (B:argTypes[1]? = jg) (hu:P.underlying tw=some (.slice elem)) (hs:bD P elem=.ok size) (N:P.info? elem=some inf) (hb:inf.bytes=bytes)
  (xS:Vi P W elem size n bytes jg x new) (hle:sLen+n<=sCap) (fW:∀ a,base=some a->(storeCells (a.add (sLen * size)) new.toList).run P W=.ok () W') (YA:base=none->W'=W) :
  (Builtin.append_ argTypes ty #[.slice base sLen sCap,x]).run P W=.ok (.slice base (sLen+n) sCap) W':=by
 rcases xS.aM with⟨t,k,rfl,hd,rfl,e2,e3,z,z1,z2,z3⟩ | ⟨Y,hn,hf⟩
 ·have w1:IntKind.i64.wrap (n:Int)=n:=by rw[IntKind.wrap_i64]; omega
  have w2:¬ ((n:Int) < 0):=by omega
  have w3:¬ ((n:Int) * (inf.bytes:Int) > 2 ^ 48):=by
   rw[hb];have:(n:Int) * (bytes:Int)=((n * bytes:Nat):Int):=by rw[Int.natCast_mul]
   rw[this];omega
  unfold Builtin.append_;simp only[h0,B,List.getElem?_toArray,List.getElem?_cons_zero,List.getElem?_cons_succ,Sem.run_bind,av hu,av hd,Result.andThen,bU hs,Sem.run_pure,if_true,asInt,asIntOf,w1,w2,if_false,eG N,w3,Int.toNat_natCast,Bool.not_true,Bool.false_eq_true,hle];by_cases hn:n * size=0
  ·rw[z3 hn] at fW;simp only[hn,if_true,Sem.run_bind,Sem.run_pure,Result.andThen];cases base with
   | none=>rw[YA rfl]; rfl
   | some a=>have Cf:=fW a rfl; simp only[Sem.run_bind,Cf,Result.andThen,Sem.run_pure]
  ·simp only[hn,if_false,Sem.run_bind,z1,Sem.run_pure,Result.andThen,z2];cases base with
   | none=>rw[YA rfl]; rfl
   | some a=>have Cf:=fW a rfl; simp only[Sem.run_bind,Cf,Result.andThen,Sem.run_pure]
 ·unfold Builtin.append_;cases jg with
  | none=>
   simp only[h0,B,List.getElem?_toArray,List.getElem?_cons_zero,List.getElem?_cons_succ,Sem.run_bind,av hu,Result.andThen,bU hs,Sem.run_pure,Bool.false_eq_true,if_false,hn,Bool.not_false,if_true,hle,hf];cases base with
   | none=>rw[YA rfl]; rfl
   | some a=>have Cf:=fW a rfl; simp only[Sem.run_bind,Cf,Result.andThen,Sem.run_pure]
  | some t=>
   obtain⟨d,hd,hk⟩:=Y t rfl;have hm:(match d with | .int _=>true | _=>false)=false:=by cases d <;> first | rfl | exact absurd rfl (hk _)
   simp only[h0,B,List.getElem?_toArray,List.getElem?_cons_zero,List.getElem?_cons_succ,Sem.run_bind,av hu,av hd,hm,Result.andThen,bU hs,Sem.run_pure,Bool.false_eq_true,if_false,hn,Bool.not_false,if_true,hle,hf];cases base with
   | none=>rw[YA rfl]; rfl
   | some a=>have Cf:=fW a rfl; simp only[Sem.run_bind,Cf,Result.andThen,Sem.run_pure]
theorem qu {argTypes:Array TypeId} {ty tw elem size n bytes:Nat} {jg:Option TypeId} {base:Option Addr} {sLen sCap:Nat} {x z:Value} {inf:TypeInfo} {new old:Array Value}
  (h0:argTypes[0]? = some tw) (B:argTypes[1]? = jg) (hu:P.underlying tw=some (.slice elem)) (hs:bD P elem=.ok size) (N:P.info? elem=some inf) (hb:inf.bytes=bytes)
  (xS:∀ w,w.heap=W.heap->Vi P w elem size n bytes jg x new) (hz:∀ w,(zeroValue elem).run P w=.ok z w) (cG:sCap < sLen+n) (mG:bytes≠0) (Ej:(5 * (sLen+n)+768) * bytes<=1125899906842624)
  (hold:∀ w,w.heap=W.heap->(Builtin.firstCells size sLen (.slice base sLen sCap)).run P w=.ok old w) :
  ∃ cap,sLen+n<=cap/\(Builtin.append_ argTypes ty #[.slice base sLen sCap,x]).run P W=.ok (.slice (some ⟨W.heap.size,0,none⟩) (sLen+n) cap)
   { W with drawn:=W.drawn+1,heap:=W.heap.push (.cells (old++new++Builtin.zeroCells z.cells (cap - (sLen+n))) elem) }:=by
 refine⟨(Question.appendCap (sLen+n) sCap elem).cut (W.tape W.drawn (.appendCap (sLen+n) sCap elem)),by simp only[Question.cut]; omega,?_⟩;generalize yb:(Question.appendCap (sLen+n) sCap elem).cut (W.tape W.drawn (.appendCap (sLen+n) sCap elem))=cap;have SY:¬ (sLen+n<=sCap):=by omega
 have D1:1<=bytes:=by omega
 have RK:(5 * (sLen+n)+768) * 1<=(5 * (sLen+n)+768) * bytes:=Nat.mul_le_mul_left _ D1;have Ky:¬ (((sLen+n:Nat):Int) > IntKind.i64.max):=by
  have:IntKind.i64.max=9223372036854775807:=rfl;rw[this]; omega
 have RL:¬ (Builtin.nextslicecap (sLen+n) sCap * inf.bytes > 2 ^ 48):=by
  rw[hb];have:=Nat.mul_le_mul_right bytes (G2 (sLen+n) sCap cG);rw[Nat.mul_assoc] at this;omega
 have GB:=hold { W with drawn:=W.drawn+1 } rfl;rcases(xS W rfl).aM with⟨t,k,rfl,hd,rfl,e2,e3,z',z1',z2,z3⟩ | ⟨Y,hn,_⟩
 ·have ez:z'=z:=by rw[hz W] at z1'; cases z1'; rfl
  subst ez;have w1:IntKind.i64.wrap (n:Int)=n:=by rw[IntKind.wrap_i64]; omega
  have w2:¬ ((n:Int) < 0):=by omega
  have w3:¬ ((n:Int) * (inf.bytes:Int) > 2 ^ 48):=by
   rw[hb];have:(n:Int) * (bytes:Int)=((n * bytes:Nat):Int):=by rw[Int.natCast_mul]
   rw[this];omega
  unfold Builtin.append_;simp only[h0,B,List.getElem?_toArray,List.getElem?_cons_zero,List.getElem?_cons_succ,Sem.run_bind,av hu,av hd,Result.andThen,bU hs,Sem.run_pure,if_true,asInt,asIntOf,w1,w2,if_false,eG N,w3,Int.toNat_natCast,Bool.not_true,Bool.false_eq_true,SY,Ky,false_and,RL,run_choose,Question.forced,yb,run_askRoom];simp only[GB];by_cases hn:n * size=0
  ·simp only[hn,if_true,Sem.run_bind,Sem.run_pure,Result.andThen,hz,dt,z3 hn]
  ·simp only[hn,if_false,Sem.run_bind,hz,Sem.run_pure,Result.andThen,z2,dt]
 ·have WZ:(Builtin.firstCells size n x).run P { W with drawn:=W.drawn+1 }=.ok new { W with drawn:=W.drawn+1 }:=by
   rcases(xS { W with drawn:=W.drawn+1 } rfl).aM with⟨t,k,rfl,hd,rfl,_⟩ | ⟨_,_,hf⟩
   ·cases hn
   ·exact hf
  unfold Builtin.append_;cases jg with
  | none=>
   simp only[h0,B,List.getElem?_toArray,List.getElem?_cons_zero,List.getElem?_cons_succ,Sem.run_bind,av hu,Result.andThen,bU hs,Sem.run_pure,Bool.false_eq_true,if_false,hn,Bool.not_false,if_true,SY,Ky,false_and,eG N,RL,run_choose,Question.forced,yb,run_askRoom,GB,WZ,hz,dt]
  | some t=>
   obtain⟨d,hd,hk⟩:=Y t rfl;have hm:(match d with | .int _=>true | _=>false)=false:=by cases d <;> first | rfl | exact absurd rfl (hk _)
   simp only[h0,B,List.getElem?_toArray,List.getElem?_cons_zero,List.getElem?_cons_succ,Sem.run_bind,av hu,av hd,hm,Result.andThen,bU hs,Sem.run_pure,Bool.false_eq_true,if_false,hn,Bool.not_false,if_true,SY,Ky,false_and,eG N,RL,run_choose,Question.forced,yb,run_askRoom,GB,WZ,hz,dt]
theorem TJ {elem size m bytes:Nat} {nO:Bool} {jg:Option TypeId} {x':Value} {new':List Value} {w:World} (hz:m9 P jg=.ok nO) (hlen:new'.length=m * size) (hb:m * bytes<=281474976710656)
  (h:(nO=true->x'=.int .i64 m/\m < 17179869184/\∃ z,(zeroValue elem).run P w=.ok z w/\z.cells.size=size/\(Builtin.zeroCells z.cells m)=new'.toArray) /\
   (nO=false->(Builtin.lenOf x').run P w=.ok m w/\∀ k,k<=m->(Builtin.firstCells size k x').run P w=.ok (new'.take (k * size)).toArray w)):Vi P w elem size m bytes jg x' new'.toArray:=by
 have kV:nO=false->(∀ t,jg=some t->∃ d,P.underlying t=some d/\∀ k,d≠.int k)->Vi P w elem size m bytes jg x' new'.toArray:=λ e Y=>by
  obtain⟨B,D⟩:=h.2 e;have:=D m (Nat.le_refl _);rw[List.take_of_length_le (by omega)] at this;exact⟨.inr ⟨Y,B,this⟩⟩
 unfold m9 at hz;cases jg with
 | none=>cases hz; exact kV rfl (λ t e=>by cases e)
 | some t=>
  simp only at hz;split at hz
  ·rename_i k hd;cases hz;obtain⟨e1,e2,z,e3,e4,e5⟩:=h.1 rfl;refine⟨.inl ⟨t,k,rfl,hd,e1,e2,hb,z,e3,e5,λ e=>?_⟩⟩;have:new'=[]:=List.eq_nil_of_length_eq_zero (by omega);rw[this]
  ·rename_i d hn hd;cases hz;exact kV rfl (λ t' e=>by cases e; exact⟨d,hd,λ k e=>hn k e⟩)
  ·cases hz
theorem G3 {argTypes:Array TypeId} {ty tw:TypeId} {jg:Option TypeId} {s s' x x' v:Value} (h:fV ρ H W) (ha:iu P H tw jg s x=.ok (v,H')) (hs:VR ρ s s') (Y:VR ρ x x')
  (h0:argTypes[0]? = some tw) (B:argTypes[1]? = jg):∃ db W' v',(Builtin.append_ argTypes ty #[s',x']).run P W=.ok v' W'/\St ρ H W db H' W'/\VR db v v':=by
 unfold iu at ha;split at ha
 case h_2=>cases ha
 rename_i elem hu;obtain⟨nO,hz,Oj⟩:=bE ha;clear ha;obtain⟨size,gK,DI⟩:=bE Oj;clear Oj;obtain⟨bytes,hby,Vj⟩:=bE DI;clear DI;obtain⟨⟨new,m⟩,abX,Ht⟩:=bE Vj;clear Vj;simp only at Ht;split at Ht
 ·cases Ht
 rename_i hmb;obtain⟨inf,N,Vk⟩:=xC hby;obtain⟨new',hl,hlen,mU⟩:=vH (W:=W) h abX gK Y;have Lv:new'.length=m * size:=by rw[<- hl.1]; exact hlen
 have xS:∀ w:World,w.heap=W.heap->Vi P w elem size m bytes jg x' new'.toArray:=λ w hw=>TJ hz Lv (by omega) (mU w hw);split at Ht
 ·rename_i AB;subst AB;have K8:new'=[]:=List.eq_nil_of_length_eq_zero (by omega);subst K8;have key:∀ base n c,s'=.slice base n c->n<=c->(Builtin.append_ argTypes ty #[s',x']).run P W=.ok s' W:=λ base n c e hle=>by
   subst e;have:=pw (ty:=ty) (sLen:=n) (sCap:=c) (base:=base) (W':=W) h0 B hu gK N Vk (xS W rfl) (by omega) (λ a ha=>rfl) (λ _=>rfl);exact this
  split at Ht
  ·cases Ht;cases hs with
   | fl=>exact⟨ρ,W,_,key none 0 0 rfl (by omega),St.refl h,.fl⟩
  ·split at Ht
   ·rename_i a n c hnc;cases Ht;cases hs with
    | slice U hc=>
     rename_i c' pl;refine⟨ρ,W,_,key _ _ _ rfl ?_,St.refl h,.slice U hc⟩;rcases hc with rfl | ⟨_,hc,_⟩ <;> omega
    | dG=>exact⟨ρ,W,_,key _ _ _ rfl (by omega),St.refl h,.dG⟩
   ·cases Ht
  ·cases Ht
 ·rename_i AB;split at Ht
  ·cases Ht
  rename_i ee;have GC:size≠0:=λ e=>ee (.inl e);have H6:bytes≠0:=λ e=>ee (.inr e);obtain⟨zs,YB,RM⟩:=bE Ht;clear Ht;obtain⟨z,z1,z2,z3,abY,z4,z5⟩:=eK YB W;have gI:size=abY.size:=by obtain⟨i2,q1,q2⟩:=nz gK; rw[z4] at q1; cases q1; exact q2.symm
  have hzc:z.cells.size=size:=by rw[gI,<- z5,<- z2]; simp
  have Ek:=EG z1;have Rd:∀ k,(Builtin.zeroCells z.cells k).toList.length=k * size:=λ k=>by
   unfold Builtin.zeroCells;rw[sA,eS,<- hzc];simp
  split at RM
  ·split at RM
   case isFalse=>cases RM
   rename_i Ej;obtain⟨⟨id,H1⟩,hn,Hu⟩:=bE RM;cases Hu;cases hs with
   | fl=>
    obtain⟨cap,yb,fp⟩:=qu (ty:=ty) (base:=none) (sLen:=0) (sCap:=0) (old:=#[]) (W:=W) h0 B hu gK N Vk xS Ek (by omega) H6 (by simpa using Ej) (λ w _=>by simp[Builtin.firstCells]);simp only[Nat.zero_add] at yb fp;have CA:(#[]++new'.toArray++Builtin.zeroCells z.cells (cap - m))=(new'++(Builtin.zeroCells z.cells (cap - m)).toList).toArray:=by
     apply Array.ext'; simp
    have XF:(new'++(Builtin.zeroCells z.cells (cap - m)).toList).length=cap * size:=by
     rw[List.length_append,Lv,Rd,<- Nat.add_mul]; congr 1; omega
    unfold newRow at hn;have abZ:=(AH.pV hn).1;have hle:=cx.mD h (⟨W.heap.size,0,size,(new'++(Builtin.zeroCells z.cells (cap - m)).toList).length⟩:Pl);have st:=St.new (pl:=⟨W.heap.size,0,size,(new'++(Builtin.zeroCells z.cells (cap - m)).toList).length⟩)
     (W':={ W with drawn:=W.drawn+1,heap:=W.heap.push (.cells (new'++(Builtin.zeroCells z.cells (cap - m)).toList).toArray elem) }) h hn _ rfl rfl rfl rfl rfl (by
      subst abZ;refine um ⟨(0,0),by simp,λ h=>(h rfl).elim,λ _=>rfl⟩ ?_ (by simp[hl.1]);have:List.take new.length (new'++(Builtin.zeroCells z.cells (cap - m)).toList)=new':=by rw[hl.1]; simp
      rw[this];exact hl.mono hle)
    refine⟨_,_,_,by rw[fp,CA],st,?_⟩;refine .slice (pl:=⟨W.heap.size,0,size,(new'++(Builtin.zeroCells z.cells (cap - m)).toList).length⟩) (by simp only[cx.with,if_true]) (.inr ⟨GC,by omega,?_⟩);show 0+cap * size<=(new'++(Builtin.zeroCells z.cells (cap - m)).toList).length;rw[XF]; omega
  ·rename_i id off n c;obtain⟨r,eH,Hu⟩:=bE RM;clear RM;have hr:=AH.rX eH;obtain⟨pl,U,ajJ,ji⟩:=h.nF id _ hr;split at Hu
   ·cases Hu
   rename_i gG;have yV:r.ro=false:=by simpa using gG
   split at Hu
   ·rename_i hnc;obtain⟨H1,hw,ZT⟩:=bE Hu;cases ZT;cases hs with
    | slice lE hc=>
     rename_i c' yL;rw[U] at lE; cases lE;have NT:c<=c':=by rcases hc with rfl | ⟨_,hc,_⟩ <;> omega
     obtain⟨W',w1,w2⟩:=St.gf (P:=P) h hw U hl;refine⟨ρ,W',_,pw (ty:=ty) (W':=W') h0 B hu gK N Vk (xS W rfl) (by omega) (λ a ha=>?_) (λ e=>by cases e),w2,.slice U hc⟩;cases ha;rw[gk,Nat.add_assoc];exact w1
    | dG=>omega
   ·rename_i hnc;split at Hu
    case isFalse=>cases Hu
    rename_i Ej;split at Hu
    ·cases Hu
    rename_i tZ;split at Hu
    ·cases Hu
    rename_i K5;have XG:r.esz=size:=by simpa using K5
    obtain⟨old,hold,ZT⟩:=bE Hu;clear Hu;obtain⟨⟨qF,H2⟩,hn,ha8⟩:=bE ZT;cases ha8;have sJ:(H.dK id r (r.bJ+off+n * size) new.length).new (.row { cells:=old++new.map some,ty:=r.ty,aU:=r.aU,bJ:=r.bJ+off,esz:=size,ro:=false,cW:=false })=.ok (qF,H2):=hn;obtain⟨fx,ft⟩:=zJ hold;have hdl:(List.drop off r.cells).length=r.cells.length - off:=List.length_drop;have K4:=ji.2.1;have zj:∀ (base:Option Addr) (c':Nat),(∀ w:World,w.heap=W.heap->(Builtin.firstCells size n (.slice base n c')).run P w=.ok ((List.range (n * size)).map λ j=>(W.cell? ⟨pl.cq,pl.base+off+j,none⟩).getD undef).toArray w)->c' < n+m ->
      ∃ db W' v',(Builtin.append_ argTypes ty #[.slice base n c',x']).run P W=.ok v' W'/\St ρ H W db H2 W'/\VR db (.slice (some ⟨qF,0,none⟩) (n+m) (n+m)) v':=λ base c' hfc cG=>by
     obtain⟨cap,yb,fp⟩:=qu (ty:=ty) (W:=W) h0 B hu gK N Vk xS Ek cG H6 Ej hfc;have hoc:∀ j,j < n * size->∃ v',W.cell? ⟨pl.cq,pl.base+off+j,none⟩=some v':=λ j X=>by
      obtain⟨v',q1,_⟩:=ji.2.2.1 (off+j) (by omega);exact⟨v',by rw[Nat.add_assoc]; exact q1⟩
     have st:=St.qu (old':=(List.range (n * size)).map λ j=>(W.cell? ⟨pl.cq,pl.base+off+j,none⟩).getD undef) (new':=new') (rest:=(Builtin.zeroCells z.cells (cap - (n+m))).toList) (ty':=elem)
      (W':={ W with drawn:=W.drawn+1,heap:=W.heap.push (.cells (((List.range (n * size)).map λ j=>(W.cell? ⟨pl.cq,pl.base+off+j,none⟩).getD undef).toArray++new'.toArray++Builtin.zeroCells z.cells (cap - (n+m))) elem) })
      h hr U hold sJ (by simp) (λ j X=>by
       obtain⟨v',q⟩:=hoc j X;simp[List.getElem?_map,List.getElem?_range X,q]) hl (by
       congr 2;apply Array.ext'; simp) rfl rfl rfl
     refine⟨_,_,_,fp,st,.slice (pl:=⟨W.heap.size,0,size,((List.range (n * size)).map (λ j=>(W.cell? ⟨pl.cq,pl.base+off+j,none⟩).getD undef)++new'++(Builtin.zeroCells z.cells (cap - (n+m))).toList).length⟩) (by simp only[cx.with,if_true]) (.inr ⟨GC,yb,?_⟩)⟩;simp only[List.length_append,List.length_map,List.length_range,Lv,Rd,Nat.zero_add,<- Nat.add_mul];apply Nat.le_of_eq;congr 1;omega
    cases hs with
    | slice lE hc=>
     rename_i c' yL;rw[U] at lE; cases lE;by_cases wb:n+m<=c'
     ·rcases hc with rfl | ⟨c1,c2,c3⟩
      ·omega
      ·have ZU:pl.esz=size:=by rw[<- ji.1]; exact XG
       rw[ZU] at c3;have hmul:(n+m) * size<=c' * size:=Nat.mul_le_mul_right size wb;rw[Nat.add_mul] at hmul;obtain⟨W',w1,w2⟩:=St.pw (P:=P) h hr U yV hold sJ hl (by simpa using tZ) (by rw[hlen]; omega);refine⟨_,W',_,pw (ty:=ty) (W':=W') h0 B hu gK N Vk (xS W rfl) wb (λ a ha=>?_) (λ e=>by cases e),w2,?_⟩
       ·cases ha;rw[gk];exact w1
       ·have:=VR.slice (ρ:=ρ.with qF ⟨pl.cq,pl.base+off,size,pl.ext - off⟩) (id:=qF) (off:=0) (n:=n+m) (c:=n+m) (c':=c') (pl:=⟨pl.cq,pl.base+off,size,pl.ext - off⟩) (by simp[cx.with]) (.inr ⟨GC,wb,by show 0+c' * size<=pl.ext - off; omega⟩);exact this
     ·exact zj _ c' (λ w hw=>by
       simp only[Builtin.firstCells];refine kB (by simp) (λ k hk=>?_);obtain⟨v',q1,_⟩:=ji.2.2.1 (off+k) (by omega);rw[qn (W:=W) (by rw[hw])];have Vl:W.cell? ⟨pl.cq,pl.base+off+k,none⟩=some v':=by rw[Nat.add_assoc]; exact q1
       simp[List.getElem?_map,List.getElem?_range hk,Vl]) (by omega)
    | dG=>
     exact zj _ 0 (λ w hw=>by
      simp[Builtin.firstCells,loadCells,loadCellsFrom]) (by omega)
  ·cases RM
end
end
end Go.cy
namespace Go.cy
noncomputable section
variable {P:Program}
def AO.HI:AO->Bool
 | .row _=>true
 | _=>false
theorem St.setObj {ρ:cx} {H:AH} {W:World} (h:fV ρ H W) {id:Nat} {o o':AO} {pl:Pl} (cI:H.get id=some o) (hr:o.HI=false) (U:ρ id=some pl) (ob:Obj)
  (mb:OR ρ { W with heap:=W.heap.setIfInBounds pl.cq ob } pl o'):St ρ H W ρ (H.set id o') { W with heap:=W.heap.setIfInBounds pl.cq ob }:=by
 have cG:=h.lt cI;obtain⟨p0,nL,Gg,_⟩:=h.nF id o cI;rw[U] at nL; cases nL;have fN:∀ b,b≠pl.cq->({ W with heap:=W.heap.setIfInBounds pl.cq ob } : World).heap[b]? = W.heap[b]?:=λ b hb=>by
  show(W.heap.setIfInBounds pl.cq ob)[b]? = _;rw[Array.getElem?_setIfInBounds_ne (Ne.symm hb)]
 have ee:∀ j oj pj,H.get j=some oj->j≠id->ρ j=some pj->pj.cq≠pl.cq:=λ j oj pj X oL fe e=>by
  obtain⟨_,rj,_,e2,_⟩:=h.jh j id oj o pj pl X cI oL fe U e;subst e2;simp[AO.HI] at hr
 have hold:∀ j oj,(H.set id o').get j=some oj->j≠id->H.get j=some oj:=λ j oj X oL=>by rw[AH.bS,if_neg oL] at X; exact X
 have jT:∀ oj,(H.set id o').get id=some oj->oj=o':=λ oj X=>by rw[AH.bS,if_pos rfl] at X; cases X; rfl
 refine⟨cx.le_refl ρ,⟨h.B5,h.QC,λ j oj X=>?_,λ i j oi oj pi pj N X rC uL fe hb=>?_⟩,Nat.le_refl _,by simp,λ b hb ff=>⟨fN b λ e=>ff ⟨id,o,pl,cI,?_,U,e.symm⟩,?_⟩,rfl,rfl,rfl,λ _ _=>rfl,λ b hb ff=>?_⟩
 ·by_cases oL:j=id
  ·subst oL;rw[jT oj X];exact⟨pl,U,by simpa using Gg,mb⟩
  ·obtain⟨pj,a,b,c⟩:=h.nF j oj (hold j oj X oL);exact⟨pj,a,by simpa using b,c.congr (cx.le_refl ρ) (fN _ (ee j oj pj (hold j oj X oL) oL a))⟩
 ·by_cases YC:i=id
  ·subst YC;have oL:j≠i:=Ne.symm rC;rw[U] at uL; cases uL;exact absurd hb.symm (ee j oj pj (hold j oj X oL) oL fe)
  ·by_cases oL:j=id
   ·subst oL;rw[U] at fe; cases fe;exact absurd hb (ee i oi pi (hold i oi N YC) YC uL)
   ·exact h.jh i j oi oj pi pj (hold i oi N YC) (hold j oj X oL) rC uL fe hb
 ·cases o <;> simp[AO.HI,AO.rw] at hr ⊢
 ·rintro⟨j,oj,pj,X,FL,fe,yK⟩;by_cases oL:j=id
  ·subst oL;refine ff ⟨j,o,pj,cI,?_,fe,yK⟩;cases o <;> simp[AO.HI,AO.rw] at hr ⊢
  ·exact ff ⟨j,oj,pj,hold j oj X oL,FL,fe,yK⟩
 ·rintro⟨j,oj,pj,X,fe,yK⟩;by_cases oL:j=id
  ·subst oL;exact ff ⟨j,o,pj,cI,fe,yK⟩
  ·exact ff ⟨j,oj,pj,hold j oj X oL,fe,yK⟩
theorem fJ {W:World} {b:Nat} {o:Obj} (h:W.heap[b]? = some o) (hc:∀ c t f,o≠.cells c t f):(getObj b).run P W=.ok o W:=by
 unfold getObj Sem.run;rw[h];cases o <;> first | rfl | exact absurd rfl (hc _ _ _)
theorem iJ {W:World} {b:Nat} {o o':Obj} (h:W.heap[b]? = some o) (hc:∀ c t f,o≠.cells c t f):(setObj b o').run P W=.ok () { W with heap:=W.heap.setIfInBounds b o' }:=by
 unfold setObj Sem.run;rw[h];cases o <;> first | rfl | exact absurd rfl (hc _ _ _)
def KE:List kX->List MapEntry->Prop
 | [],[]=>True
 | e :: es,c :: cs=>c.key=e.key/\KE es cs
 | _,_=>False
theorem KE.of:∀ (es:List kX) (cs:List MapEntry),cs.length=es.length->(∀ (i:Nat) (e:kX) (c:MapEntry),es[i]? = some e->cs[i]? = some c->c.key=e.key)->KE es cs
 | [],[],_,_=>trivial
 | [],_ :: _,h,_=>by simp at h
 | _ :: _,[],h,_=>by simp at h
 | e :: es,c :: cs,h,hk=>⟨hk 0 e c rfl rfl,KE.of es cs (by simpa using h) (λ i e' c' B D=>hk (i+1) e' c' (by simpa using B) (by simpa using D))⟩
theorem G4 {α:Type} {l:List α} {i:Nat} {x:α} (h:l[i]? = some x):i < l.length:=by
 rcases Nat.lt_or_ge i l.length with h' | h'
 ·exact h'
 ·rw[List.getElem?_eq_none h'] at h; cases h
def xr (cs:List MapEntry) (j:Nat):Nat×Value:=(j,((cs[j]?).map (·.val)).getD undef)
theorem Aa {d:TypeDesc} {k:Value} : ∀ (es:List kX) (cs all:List MapEntry) (i:Nat),KE es cs->(∀ j,all[i+j]? = cs[j]?)->Instr.findNow d k cs i=(vq d k es i).map λ r=>r.map (xr all)
 | [],[],all,i,_,_=>rfl
 | e :: es,c :: cs,all,i,h,ha=>by
  obtain⟨B,D⟩:=h;simp only[Instr.findNow,vq,B];cases Instr.sameNow d k e.key with
  | none=>rfl
  | some b=>
   cases b with
   | true=>
    have:=ha 0;simp only[Nat.add_zero,List.getElem?_cons_zero] at this;simp[xr,this]
   | false=>exact Aa es cs all (i+1) D (λ j=>by have:=ha (j+1); rw[show i+1+j=i+(j+1) by omega,this]; simp)
 | [],_ :: _,_,_,h,_=>h.elim
 | _ :: _,[],_,_,h,_=>h.elim
theorem Ab {t:TypeId} {k:Value} {W:World} : ∀ (es:List kX) (cs all:List MapEntry) (i:Nat) (r:Option Nat),KE es cs->(∀ j,all[i+j]? = cs[j]?)->sw P t k es i=.ok r->(Instr.findAsking t k cs i).run P W=.ok (r.map (xr all)) W
 | [],[],all,i,r,_,_,h=>by simp only[sw] at h; cases h; rfl
 | e :: es,c :: cs,all,i,r,h,ha,hr=>by
  obtain⟨B,D⟩:=h;simp only[sw] at hr;simp only[Instr.findAsking,B,Sem.run_bind];split at hr
  ·rename_i U;cases hr;rw[ej _ U W];have:=ha 0;simp only[Nat.add_zero,List.getElem?_cons_zero] at this;simp[Result.andThen,xr,this]
  ·rename_i U;rw[ej _ U W];simp only[Result.andThen,Bool.false_eq_true,if_false];exact Ab es cs all (i+1) r D (λ j=>by have:=ha (j+1); rw[show i+1+j=i+(j+1) by omega,this]; simp) hr
  ·cases hr
 | [],_ :: _,_,_,_,h,_,_=>h.elim
 | _ :: _,[],_,_,_,h,_,_=>h.elim
theorem H7 {t:TypeId} {k:Value} {W:World} {es:List kX} {cs:List MapEntry} {r:Option Nat} (hk:KE es cs) (h:HG P t k es=.ok r):(Instr.findKey t k cs).run P W=.ok (r.map (xr cs)) W:=by
 unfold HG at h;split at h
 ·rename_i d hd;have e:=Aa (d:=d) (k:=k) es cs cs 0 hk (λ j=>by rw[Nat.zero_add]);unfold Instr.findKey;simp only[Sem.run_bind,av hd,Result.andThen,e];split at h
  ·rename_i r' hr;cases h;simp only[hr,Option.map_some,Sem.run_pure]
  ·rename_i hr;simp only[hr,Option.map_none];exact Ab es cs cs 0 r hk (λ j=>by rw[Nat.zero_add]) h
 ·cases h
theorem wM {t:TypeId} {z:Value} (h:zt P t=.ok z) (W:World):(zeroValue t).run P W=.ok z W/\iL gd z=true:=by
 unfold zt at h;split at h
 ·rename_i i N;split at h
  ·rename_i v hz;split at h
   ·rename_i hg;cases h;exact⟨by simp[zeroValue,eG N,Result.andThen,hz],hg⟩
   ·cases h
  ·cases h
 ·cases h
section
variable {a:az} {ca:Act} {ρ:cx} {H H':AH} {W:World} {v:Value} {rec:eL} {d:Option Tmp} {ty:TypeId} {ps:String} {af:Array Edge} {gu:Option (Nat×Bool)}
theorem Fh {t:TypeId} {x:Option Operand} (h:fV ρ H W) (Y:∀ y,x=some y->kE a ca ρ y) (ho:b9 P rec a H ⟨d,.makeMap t x,ty,ps,af,gu⟩=.ok (v,H')):ib P ⟨d,.makeMap t x,ty,ps,af,gu⟩ ρ H W ca v H':=by
 have key:∀ id H1,H.new (.map [] 0)=.ok (id,H1)->(execOp ca.eval ⟨d,.makeMap t x,ty,ps,af,gu⟩).run P W=.ok (.value (.map (some W.heap.size))) { W with heap:=W.heap.push (.map #[] 0) }->ib P ⟨d,.makeMap t x,ty,ps,af,gu⟩ ρ H W ca (.map (some id)) H1:=by
  intro id H1 hn fp;have st:=St.new (pl:=⟨W.heap.size,0,0,0⟩) (W':={ W with heap:=W.heap.push (.map #[] 0) }) h hn _ rfl rfl rfl rfl rfl ⟨#[],by simp,rfl,λ i e ce B=>by simp at B⟩;exact⟨_,_,_,.inl fp,st,.map (pl:=⟨W.heap.size,0,0,0⟩) (by simp[cx.with])⟩
 cases x with
 | none=>
  simp only[b9] at ho;obtain⟨⟨id,H1⟩,B,D⟩:=bE ho;cases D;refine key id _ B ?_;simp only[execOp,Instr.makeMap,Option.map_none,Sem.run_bind,run_newObj,Result.andThen,Sem.run_pure]
 | some y=>
  simp only[b9] at ho;split at ho
  ·rename_i k e hu;obtain⟨u,B,D⟩:=bE ho;obtain⟨n,V,h4⟩:=bE D;obtain⟨⟨id,H1⟩,h5,h6⟩:=bE h4;cases h6;have hv:=Y y rfl _ B;have:∃ k n,u=.int k n:=by
    unfold L7 at V;split at V
    ·exact⟨_,_,rfl⟩
    ·cases V
   obtain⟨k2,n2,rfl⟩:=this;have e2:=hv.gQ;refine key id _ h5 ?_;simp only[execOp,Instr.makeMap,Option.map_some,Sem.run_bind,av hu,e2,asInt,run_newObj,Result.andThen,Sem.run_pure];rfl
  ·cases ho
theorem G5 {m m':Value} {es:List kX} (h:fV ρ H W) (he:zH H m=.ok es) (hm:VR ρ m m'):∃ pH:Array MapEntry,
  ((m'=.map none/\pH=#[])\/(∃ b clock,m'=.map (some b)/\(getObj b).run P W=.ok (.map pH clock) W))/\pH.toList.length=es.length /\
  ∀ (i:Nat) (e:kX) (ce:MapEntry),es[i]? = some e->pH.toList[i]? = some ce->ce.key=e.key/\ce.born=e.born/\VR ρ e.val ce.val:=by
 unfold zH at he;split at he
 ·cases he;cases hm;exact⟨#[],.inl ⟨rfl,rfl⟩,rfl,λ i e ce B=>by simp at B⟩
 ·rename_i id;split at he
  ·rename_i Un clock hg;cases he;cases hm with
   | map U=>
    obtain⟨p0,nL,_,ji⟩:=h.nF _ _ hg;rw[U] at nL; cases nL;obtain⟨pH,B,D,V⟩:=ji;exact⟨pH,.inr ⟨_,clock,rfl,fJ B (by intro c t f e; cases e)⟩,D,V⟩
  ·cases he
 ·cases he
theorem G6 {t:TypeId} {x i:Operand} {ok:Bool} (h:fV ρ H W) (Y:kE a ca ρ x) (N:kE a ca ρ i) (ho:b9 P rec a H ⟨d,.lookup t x i ok,ty,ps,af,gu⟩=.ok (v,H')):ib P ⟨d,.lookup t x i ok,ty,ps,af,gu⟩ ρ H W ca v H':=by
 simp only[b9] at ho;obtain⟨m,B,ho⟩:=bE ho;obtain⟨k,D,ho⟩:=bE ho;obtain⟨u,V,ho⟩:=bE ho;cases ho;unfold HY at V;split at V
 ·rename_i kt et hu;split at V
  ·cases V
  rename_i hg;have Kz:iL gd k=true:=by simpa using hg
  obtain⟨es,h4,V⟩:=bE V;obtain⟨ck,h5,V⟩:=bE V;obtain⟨r,h6,V⟩:=bE V;have ek:=tY _ Kz (N _ D);obtain⟨pH,c1,c2,c3⟩:=G5 (P:=P) h h4 (Y _ B);have ZV:=KE.of es pH.toList c2 (λ i e c a b=>(c3 i e c a b).1);have El:=H7 (W:=W) ZV h6;have D0:pH.isEmpty=es.isEmpty:=by
   have:pH.size=es.length:=by simpa using c2
   cases es with
   | nil=>simp at this; simp[this]
   | cons e es=>simp[Array.isEmpty,this]
  have Of:=ej _ h5 W;have gz:∃ v',VR ρ v v'/\(Instr.lookup t (ca.eval x) (ca.eval i) ok).run P W=.ok v' W:=by
   have key:∀ v',(match r.map (xr pH.toList) with
     | some (_,v)=>do
      let RN<-pure (v,true)
      pure (if ok=true then Value.tuple #[RN.fst,Value.bool RN.snd] else RN.fst)
     | none=>do
      let z<-zeroValue et
      let RN<-pure (z,false)
      pure (if ok=true then Value.tuple #[RN.fst,Value.bool RN.snd] else RN.fst):Sem Value).run P W=.ok v' W->(Instr.lookup t (ca.eval x) (ca.eval i) ok).run P W=.ok v' W:=by
    intro v' hr;unfold Instr.lookup;rcases c1 with⟨e1,e2⟩ | ⟨b,clock,e1,e2⟩
    ·subst e2;rw[e1];simp only[Sem.run_bind,av hu,Result.andThen,Sem.run_pure,ek,D0,Of,El];exact hr
    ·rw[e1];simp only[Sem.run_bind,av hu,Result.andThen,e2,Sem.run_pure,ek,D0,Of,El];exact hr
   cases r with
   | some j=>
    simp only at V;split at V
    ·rename_i e he;cases V;have cG:j < pH.toList.length:=by rw[c2]; exact G4 he
     have hc:=List.getElem?_eq_getElem cG;have AN:=(c3 j e _ he hc).2.2;refine⟨if ok=true then .tuple #[(pH.toList[j]).val,.bool true] else(pH.toList[j]).val,?_,key _ ?_⟩
     ·cases ok with
      | true=>exact VR.oC ((LR.nil ρ).cons (.bool true) |>.cons AN)
      | false=>exact AN
     ·simp only[Option.map_some,xr,hc,Option.getD_some,Sem.run_bind,Sem.run_pure,Result.andThen]
    ·cases V
   | none=>
    simp only at V;obtain⟨z,h7,h8⟩:=bE V;cases h8;obtain⟨z1,z2⟩:=wM h7 W;refine⟨if ok=true then .tuple #[z,.bool false] else z,?_,key _ ?_⟩
    ·cases ok with
     | true=>exact VR.oC ((LR.nil ρ).cons (.bool false) |>.cons (dT _ z2))
     | false=>exact dT _ z2
    ·simp only[Option.map_none,Sem.run_bind,z1,Result.andThen,Sem.run_pure]
  obtain⟨v',rb,fp⟩:=gz;exact .aX h (v':=v') (by simp only[execOp,Sem.run_bind,fp,Result.andThen]; rfl) rb
 ·cases V
theorem Bj {t:TypeId} {m k x:Operand} (h:fV ρ H W) (hm:kE a ca ρ m) (hk:kE a ca ρ k) (Y:kE a ca ρ x) (ho:b9 P rec a H ⟨d,.mapUpdate t m k x,ty,ps,af,gu⟩=.ok (v,H')):ib P ⟨d,.mapUpdate t m k x,ty,ps,af,gu⟩ ρ H W ca v H':=by
 simp only[b9] at ho;obtain⟨mv,B,fx⟩:=bE ho;clear ho;obtain⟨kv,D,ft⟩:=bE fx;clear fx;obtain⟨xv,V,xR⟩:=bE ft;clear ft;obtain⟨H1,h4,DH⟩:=bE xR;clear xR;cases DH;unfold z8 at h4;split at h4
 case h_2=>cases h4
 rename_i kt et hu;split at h4
 case h_2=>cases h4
 rename_i mid;split at h4
 case h_2=>cases h4
 rename_i es clock hg;split at h4
 ·cases h4
 rename_i hgk;have Kz:iL gd kv=true:=by simpa using hgk
 obtain⟨ck,h5,h4⟩:=bE h4;obtain⟨r,h6,h4⟩:=bE h4;have ek:=tY _ Kz (hk _ D);have Of:=ej _ h5 W;have hmv:=hm _ B;obtain⟨ZP,ZW⟩:∃ ZP,ca.eval m=ZP:=⟨_,rfl⟩
 rw[ZW] at hmv;cases hmv with
 | map U=>
  rename_i pl;obtain⟨p0,nL,Gg,ji⟩:=h.nF _ _ hg;rw[U] at nL; cases nL;obtain⟨pH,c1,c2,c3⟩:=ji;have ZV:=KE.of es pH.toList c2 (λ i e c a b=>(c3 i e c a b).1);have El:=H7 (W:=W) ZV h6;have eM:=fJ (P:=P) c1 (by intro c t f e; cases e);have gz:∀ (I0:Array MapEntry) (Un:List kX) (zv:Nat),(execOp ca.eval ⟨d,.mapUpdate t m k x,ty,ps,af,gu⟩).run P W=.ok .skip { W with heap:=W.heap.setIfInBounds pl.cq (.map I0 zv) } ->
    I0.toList.length=Un.length->(∀ (i:Nat) (e:kX) (ce:MapEntry),Un[i]? = some e->I0.toList[i]? = some ce->ce.key=e.key/\ce.born=e.born/\VR ρ e.val ce.val) ->
    ib P ⟨d,.mapUpdate t m k x,ty,ps,af,gu⟩ ρ H W ca undef (H.set mid (.map Un zv)):=by
   intro I0 Un zv fp hl wh;refine⟨ρ,_,undef,.inr ⟨fp,rfl⟩,St.setObj (o':=.map Un zv) h hg rfl U (.map I0 zv) ⟨I0,?_,hl,wh⟩,VR.undef _⟩;simp[Gg]
  cases r with
  | some j=>
   simp only at h4;split at h4
   case h_2=>cases h4
   rename_i e he;split at h4
   case isFalse=>cases h4
   rename_i iC;cases h4;have cG:j < pH.size:=by
    have:pH.size=es.length:=by simpa using c2
    rw[this];rcases Nat.lt_or_ge j es.length with h' | h'
    ·exact h'
    ·rw[List.getElem?_eq_none h'] at he; cases he
   have hcj:pH[j]? = some pH[j]:=Array.getElem?_eq_getElem cG;have kM:pH.toList[j]? = some pH[j]:=by simp[cG]
   have ab0:=(c3 j e _ he kM).1;refine gz (pH.modify j λ e=>{ e with key:=kv,val:=ca.eval x }) (es.set j { e with key:=kv,val:=xv }) clock ?_ (by simp[<- c2]) (λ i e' YD q1 q2=>?_)
   ·have Lw:(Instr.keyThatStays (((pH[j]?).map (·.key)).getD kv) kv).run P W=.ok kv W:=by
     unfold Instr.keyThatStays;simp only[hcj,Option.map_some,Option.getD_some,ab0,iC,if_true,Sem.run_pure]
    simp only[execOp,Instr.mapUpdate,Sem.run_bind,av hu,Result.andThen,ZW,eM,ek,Of,El,Option.map_some,xr,Lw,iJ c1 (by intro c t f e; cases e),Sem.run_pure]
   ·rw[List.getElem?_set] at q1;rw[Array.toList_modify,List.getElem?_modify] at q2;by_cases rC:j=i
    ·subst rC;rw[if_pos rfl] at q1;split at q1
     ·cases q1;rw[kM] at q2;simp at q2;subst q2;exact⟨rfl,(c3 j e _ he kM).2.1,Y _ V⟩
     ·cases q1
    ·rw[if_neg rC] at q1;simp only[if_neg rC,id_eq,Option.map_id'] at q2;refine c3 i e' YD q1 ?_;cases hq:pH.toList[i]? with
     | none=>rw[hq] at q2; simp at q2
     | some c=>rw[hq] at q2; simp at q2; rw[q2]
  | none=>
   simp only at h4;cases h4;have p1:(execOp ca.eval ⟨d,.mapUpdate t m k x,ty,ps,af,gu⟩).run P W=.ok .skip { W with heap:=W.heap.setIfInBounds pl.cq (.map (pH.push ⟨kv,ca.eval x,clock⟩) (clock+1)) }:=by
    have pJ:=iJ (P:=P) (o':=.map (pH.push ⟨kv,ca.eval x,clock⟩) (clock+1)) c1 (by intro c t f e; cases e);simp only[execOp,Instr.mapUpdate,Sem.run_bind,av hu,Result.andThen,ZW,eM,ek,Of,El,Option.map_none,pJ,Sem.run_pure]
   have p2:(pH.push ⟨kv,ca.eval x,clock⟩).toList.length=(es++[(⟨kv,xv,clock⟩:kX)]).length:=by simp[<- c2]
   refine gz _ _ _ p1 p2 (λ i e' YD q1 q2=>?_);rw[Array.toList_push] at q2;by_cases cG:i < es.length
   ·rw[List.getElem?_append_left cG] at q1;rw[List.getElem?_append_left (by rw[c2]; exact cG)] at q2;exact c3 i e' YD q1 q2
   ·rw[List.getElem?_append_right (by omega)] at q1;rw[List.getElem?_append_right (by rw[c2]; omega),c2] at q2;have:i - es.length=0:=by
     rcases Nat.eq_zero_or_pos (i - es.length) with h' | h'
     ·exact h'
     ·rw[List.getElem?_eq_none (by simp; omega)] at q1; cases q1
    rw[this] at q1 q2;have q3:(⟨kv,xv,clock⟩:kX)=e':=Option.some.inj q1;have q4:(⟨kv,ca.eval x,clock⟩:MapEntry)=YD:=Option.some.inj q2;subst q3;subst q4;exact⟨rfl,rfl,Y _ V⟩
theorem JR {t:TypeId} {x:Operand} (h:fV ρ H W) (Y:kE a ca ρ x) (ho:b9 P rec a H ⟨d,.range t x,ty,ps,af,gu⟩=.ok (v,H')):ib P ⟨d,.range t x,ty,ps,af,gu⟩ ρ H W ca v H':=by
 simp only[b9] at ho;obtain⟨u,B,fx⟩:=bE ho;clear ho;split at fx
 ·rename_i s hu;obtain⟨⟨id,H1⟩,D,V⟩:=bE fx;cases V;have e:=(Y _ B).gR;have st:=St.new (pl:=⟨W.heap.size,0,0,0⟩) (W':={ W with heap:=W.heap.push (.stringIter s 0) }) h D _ rfl rfl rfl rfl rfl ⟨rfl,by simp⟩;have fp:(execOp ca.eval ⟨d,.range t x,ty,ps,af,gu⟩).run P W=.ok (.value (.pointer (some ⟨W.heap.size,0,none⟩))) { W with heap:=W.heap.push (.stringIter s 0) }:=by
   simp only[execOp,Instr.range,Sem.run_bind,av hu,Result.andThen,e,run_newObj,Sem.run_pure]
  exact⟨_,_,_,.inl fp,st,.ptr (pl:=⟨W.heap.size,0,0,0⟩) (by simp[cx.with])⟩
 ·rename_i hu;obtain⟨⟨id,H1⟩,D,V⟩:=bE fx;cases V;have e:ca.eval x=.map none:=by
   have:=Y _ B;generalize ca.eval x=u' at this;cases this; rfl
  have st:=St.new (pl:=⟨W.heap.size,0,0,0⟩) (W':={ W with heap:=W.heap.push (.mapIter none 0 #[] 0) }) h D _ rfl rfl rfl rfl rfl ⟨rfl,none,0,#[],0,by simp,λ _=>rfl,λ id e=>by cases e⟩;have fp:(execOp ca.eval ⟨d,.range t x,ty,ps,af,gu⟩).run P W=.ok (.value (.pointer (some ⟨W.heap.size,0,none⟩))) { W with heap:=W.heap.push (.mapIter none 0 #[] 0) }:=by
   simp only[execOp,Instr.range,Sem.run_bind,av hu,Result.andThen,e,run_newObj,Sem.run_pure]
  exact⟨_,_,_,.inl fp,st,.ptr (pl:=⟨W.heap.size,0,0,0⟩) (by simp[cx.with])⟩
 ·rename_i m hu;split at fx
  ·rename_i es clock hg;obtain⟨⟨id,H1⟩,D,V⟩:=bE fx;cases V;obtain⟨pm,U,cG,ji⟩:=h.nF _ _ hg;obtain⟨pH,c1,c2,c3⟩:=ji;have e:ca.eval x=.map (some pm.cq):=by
    have:=Y _ B;generalize ca.eval x=u' at this;cases this with
    | map hq=>rw[U] at hq; cases hq; rfl
   have eM:(getObj pm.cq).run P W=.ok (.map pH clock) W:=fJ c1 (λ _ _ _ e=>by cases e);have st:=St.new (pl:=⟨W.heap.size,0,0,0⟩) (W':={ W with heap:=W.heap.push (.mapIter (some pm.cq) clock #[] clock) }) h D _ rfl rfl rfl rfl rfl ⟨rfl,some pm.cq,clock,#[],clock,by simp,(λ e=>by cases e),λ qF e'=>by
    cases e';refine⟨pm,?_,rfl⟩;have ajK:=h.B5 m pm U;have cI:=(AH.pV D).1;simp only[cx.with];rw[if_neg (by omega)]; exact U⟩
   have fp:(execOp ca.eval ⟨d,.range t x,ty,ps,af,gu⟩).run P W=.ok (.value (.pointer (some ⟨W.heap.size,0,none⟩))) { W with heap:=W.heap.push (.mapIter (some pm.cq) clock #[] clock) }:=by
    simp only[execOp,Instr.range,Sem.run_bind,av hu,Result.andThen,e,eM,run_newObj,Sem.run_pure]
   exact⟨_,_,_,.inl fp,st,.ptr (pl:=⟨W.heap.size,0,0,0⟩) (by simp[cx.with])⟩
  ·cases fx
 ·cases fx
theorem M9 {x:Operand} {b:Bool} (h:fV ρ H W) (Y:kE a ca ρ x) (ho:b9 P rec a H ⟨d,.next x b,ty,ps,af,gu⟩=.ok (v,H')):ib P ⟨d,.next x b,ty,ps,af,gu⟩ ρ H W ca v H':=by
 simp only[b9] at ho;obtain⟨u,B,fx⟩:=bE ho;clear ho;split at fx
 ·rename_i id;obtain⟨pl,U,e⟩:=(Y _ B).at;split at fx
  ·rename_i s pos hg;obtain⟨p0,nL,cG,hb,hh⟩:=h.nF _ _ hg;rw[U] at nL; cases nL;rw[hb] at e;have eM:(getObj pl.cq).run P W=.ok (.stringIter s pos) W:=fJ hh (λ _ _ _ e=>by cases e);split at fx
   ·rename_i O6;cases fx;have st:=St.setObj h hg rfl U (.stringIter s (pos+(Utf8.decode s pos).2)) (o':=.uV s (pos+(Utf8.decode s pos).2)) ⟨hb,by simp[cG]⟩;refine⟨ρ,_,_,.inl ?_,st,VR.oC ((LR.nil ρ).cons (.int .i32 (Utf8.decode s pos).1) |>.cons (.int .i64 pos) |>.cons (.bool true))⟩;have pJ:=iJ (P:=P) (o':=.stringIter s (pos+(Utf8.decode s pos).2)) hh (λ _ _ _ e=>by cases e);simp only[execOp,Instr.next,e,Sem.run_bind,eM,Result.andThen,O6,if_true,pJ,Sem.run_pure];rfl
   ·rename_i O6;cases fx;refine .aX h (v':=.tuple #[.bool false]) ?_ (VR.oC ((LR.nil ρ).cons (.bool false)));simp only[execOp,Instr.next,e,Sem.run_bind,eM,Result.andThen,O6,if_false,Sem.run_pure]
  ·rename_i hg;obtain⟨p0,nL,cG,hb,m',si,se,la,hh,hm,_⟩:=h.nF _ _ hg;rw[U] at nL; cases nL;rw[hb] at e;rw[hm rfl] at hh;have eM:(getObj pl.cq).run P W=.ok (.mapIter none si se la) W:=fJ hh (λ _ _ _ e=>by cases e);cases fx;refine .aX h (v':=.tuple #[.bool false]) ?_ (VR.oC ((LR.nil ρ).cons (.bool false)));simp only[execOp,Instr.next,e,Sem.run_bind,eM,Result.andThen,Sem.run_pure]
  ·rename_i m hg;obtain⟨p0,nL,cG,hb,m',si,se,la,hh,_,hm⟩:=h.nF _ _ hg;rw[U] at nL; cases nL;rw[hb] at e;obtain⟨pm,B8,rfl⟩:=hm m rfl;have eM:(getObj pl.cq).run P W=.ok (.mapIter (some pm.cq) si se la) W:=fJ hh (λ _ _ _ e=>by cases e);split at fx
   ·rename_i clock RL;obtain⟨pm',W4,_,pH,c1,c2,_⟩:=h.nF _ _ RL;rw[B8] at W4; cases W4;have ab1:pH=#[]:=by
     have:pH.size=0:=by simpa using c2
     exact Array.eq_empty_of_size_eq_zero this
    subst ab1;have XH:(getObj pm.cq).run P W=.ok (.map #[] clock) W:=fJ c1 (λ _ _ _ e=>by cases e);cases fx;refine .aX h (v':=.tuple #[.bool false]) ?_ (VR.oC ((LR.nil ρ).cons (.bool false)));simp[execOp,Instr.next,e,Sem.run_bind,eM,XH,Result.andThen,Sem.run_pure,run_choose,Question.forced]
   ·cases fx
  ·cases fx
 ·cases fx
theorem Ax {x:Operand} {xt t:TypeId} {ok:Bool} (h:fV ρ H W) (Y:kE a ca ρ x) (ho:b9 P rec a H ⟨d,.typeAssert x xt t ok,ty,ps,af,gu⟩=.ok (v,H')):ib P ⟨d,.typeAssert x xt t ok,ty,ps,af,gu⟩ ρ H W ca v H':=by
 simp only[b9] at ho;obtain⟨u,B,ho⟩:=bE ho;obtain⟨w,D,ho⟩:=bE ho;cases ho;unfold oh at D;have hu:=Y _ B;obtain⟨u',hue⟩:∃ u',ca.eval x=u':=⟨_,rfl⟩
 rw[hue] at hu;split at D
 ·cases D
 ·rename_i du QD hd;have SZ:∀ ms,du≠.interface ms:=λ ms e=>QD ms e;obtain⟨v',rb,fp⟩:∃ v',VR ρ v v'/\(Instr.typeAssert u' xt t ok).run P W=.ok v' W:=by
   unfold Instr.typeAssert;split at D
   ·rename_i tt vv;cases hu with
    | iface uO=>
     rename_i vv';split at D
     ·rename_i heq;subst heq;cases D;refine⟨if ok then .tuple #[vv',.bool true] else vv',?_,?_⟩
      ·cases ok with
       | true=>exact VR.oC ((LR.nil ρ).cons (.bool true) |>.cons uO)
       | false=>exact uO
      ·simp only[Sem.run_bind,av hd,Result.andThen];cases du <;> first | (exact absurd rfl (SZ _)) | (simp[Sem.run_pure])
     ·rename_i ee;split at D
      ·rename_i DJ;subst DJ;obtain⟨z,h7,h8⟩:=bE D;cases h8;obtain⟨z1,z2⟩:=wM h7 W;refine⟨_,VR.oC ((LR.nil ρ).cons (.bool false) |>.cons (dT _ z2)),?_⟩;simp only[Sem.run_bind,av hd,Result.andThen];cases du <;> first | (exact absurd rfl (SZ _)) | (simp[ee,z1,Result.andThen])
      ·cases D
   ·cases hu;split at D
    ·rename_i DJ;subst DJ;obtain⟨z,h7,h8⟩:=bE D;cases h8;obtain⟨z1,z2⟩:=wM h7 W;refine⟨_,VR.oC ((LR.nil ρ).cons (.bool false) |>.cons (dT _ z2)),?_⟩;simp only[Sem.run_bind,av hd,Result.andThen];cases du <;> first | (exact absurd rfl (SZ _)) | (simp[z1,Result.andThen])
    ·cases D
   ·cases D
  exact .aX h (v':=v') (by simp only[execOp,hue,Sem.run_bind,fp,Result.andThen]; rfl) rb
 ·cases D
end
theorem Fi {t:TypeId} {name:String} {f:FuncId} (h:sN P t name=.ok f) (v:Value) (W:World) (k:Nat):(Go.method (k+1) t v name).run P W=.ok (f,v) W:=by
 unfold sN at h;split at h
 case h_2=>cases h
 rename_i i N;split at h
 case h_2=>cases h
 rename_i m hm;split at h
 case isFalse=>cases h
 rename_i XI;have U:m.path.toList=[]:=by simpa using XI
 have ab2:(follow m.path.toList t (.val v)).run P W=.ok (t,.val v) W:=by rw[U]; rfl
 unfold Go.method;simp only[Sem.run_bind,eG N,Result.andThen,hm,ab2];split at h
 ·rename_i f' e hf hu;cases h;simp only[hf,Sem.run_bind,receiverAt,av hu,Result.andThen,Place.get,Sem.run_pure]
 ·cases h
 ·cases h
 ·rename_i f' du YE hf hu;cases h;have ab3:∀ e,du≠.pointer e:=λ e he=>YE e he;simp only[hf,Sem.run_bind,receiverAt,av hu,Result.andThen];cases du <;> first | (exact absurd rfl (ab3 _)) | (simp only[Place.get,Sem.run_pure])
 ·cases h
end
end Go.cy
namespace Go.cy
noncomputable section
variable {P:Program}
section
variable {a:az} {ca:Act} {ρ:cx} {H H':AH} {W:World} {v:Value} {rec:eL} {d:Option Tmp} {ty:TypeId} {ps:String} {af:Array Edge} {gu:Option (Nat×Bool)}
theorem P7 {t:TypeId} {x x':Value} (h:DX P t x=.ok v) (Y:VR ρ x x') {argTypes:Array TypeId} (h0:argTypes[0]? = some t) (w:World) :
  (Builtin.len_ argTypes ty #[x']).run P w=.ok v w/\VR ρ v v:=by
 unfold DX at h;split at h
 ·rename_i s hu;cases h;rw[Y.gR];refine⟨?_,.int _ _⟩;simp[Builtin.len_,h0,av hu,Result.andThen,goInt]
 ·rename_i e b n c hu;cases h;refine⟨?_,.int _ _⟩;cases Y with
  | fl=>simp[Builtin.len_,h0,av hu,Result.andThen,goInt]
  | slice U hc=>simp[Builtin.len_,h0,av hu,Result.andThen,goInt]
  | dG=>simp[Builtin.len_,h0,av hu,Result.andThen,goInt]
 ·rename_i n e hu;cases h;refine⟨?_,.int _ _⟩;cases x' <;> simp[Builtin.len_,h0,av hu,Result.andThen,goInt]
 ·cases h
theorem Na {t elem size:TypeId} {dv ZX x x':Value} {new:List Value} {m:Nat} (h:fV ρ H W) (hu:P.underlying t=some (.slice elem)) (hs:bD P elem=.ok size) (ha:gj P H elem false x=.ok (new,m))
  (hd:VR ρ dv ZX) (Y:VR ρ x x') {argTypes:Array TypeId} (h0:argTypes[0]? = some t)
  (hc:(match dv with
      | .slice none 0 0=>.ok (.int .i64 0,H)
      | .slice (some ⟨id,off,none⟩) n _=>
       if min m n=0 then .ok (.int .i64 0,H) else do
       .ok (.int .i64 ((min m n:Nat):Int),<- H.gf id off (new.take (min m n * size)))
      | _=>.error 88:R (Value×AH))=.ok (v,H')) :
  ∃ db W' v',(Builtin.copy_ argTypes ty #[ZX,x']).run P W=.ok v' W'/\St ρ H W db H' W'/\VR db v v':=by
 obtain⟨new',hl,hlen,mU⟩:=vH (W:=W) h ha hs Y;obtain⟨hn,hf⟩:=(mU W rfl).2 rfl;have run:∀ (base:Option Addr) (n c:Nat) (W':World),(∀ a,base=some a->(storeCells a (new'.take (min m n * size))).run P W=.ok () W')->(base=none->W'=W) ->
   (Builtin.copy_ argTypes ty #[.slice base n c,x']).run P W=.ok (.int .i64 (min m n:Nat)) W':=λ base n c W' B D=>by
  have hfk:=hf (min m n) (Nat.min_le_left _ _);unfold Builtin.copy_;simp only[h0,List.getElem?_toArray,List.getElem?_cons_zero,List.getElem?_cons_succ,Sem.run_bind,av hu,Result.andThen,hn,bU hs,Nat.min_def] at hfk ⊢;rw[hfk];simp only[List.toList_toArray,Nat.min_def] at B ⊢;cases base with
  | none=>rw[D rfl]; rfl
  | some a=>simp only[Sem.run_bind,B a rfl,Result.andThen,Sem.run_pure]; rfl
 split at hc
 ·cases hc;cases hd with
  | fl=>
   have:=run none 0 0 W (λ a e=>by cases e) (λ _=>rfl);exact⟨ρ,W,_,this,St.refl h,by simp; exact .int _ _⟩
 ·rename_i id off n c;split at hc
  ·rename_i hk;cases hc;have QJ:∀ a,(storeCells a (new'.take (min m n * size))).run P W=.ok () W:=λ a=>by rw[hk]; simp[storeCells]
   cases hd with
   | slice U NT=>exact⟨ρ,W,_,run _ _ _ W (λ a _=>QJ a) (λ e=>by cases e),St.refl h,by rw[hk]; exact .int _ _⟩
   | dG=>exact⟨ρ,W,_,run _ _ _ W (λ a _=>QJ a) (λ e=>by cases e),St.refl h,by rw[hk]; exact .int _ _⟩
  ·rename_i hk;obtain⟨H1,hw,AA⟩:=bE hc;cases AA;cases hd with
   | slice U NT=>
    obtain⟨W',w1,w2⟩:=St.gf (P:=P) h hw U (hl.take _);refine⟨ρ,W',_,run _ _ _ W' (λ a e=>by cases e; exact w1) (λ e=>by cases e),w2,?_⟩;exact .int _ _
   | dG=>simp at hk
 ·cases hc
theorem ky {b:Builtin} {args:Array Operand} {xf:Array TypeId} {v':Value} {W':World} (h:(builtin b xf ty (args.map fun | .const _=>true | _=>false) (args.map ca.eval)).run P W=.ok (.value v') W') :
  (execOp ca.eval ⟨d,.call ⟨.builtin b,args,xf⟩,ty,ps,af,gu⟩).run P W=.ok (.value v') W':=by
 simp only[execOp,resolve,Sem.run_bind,Sem.run_pure,Result.andThen,invoke];exact h
theorem Re {args:Array Operand} {s x:Value} (h:eU a.eval args.toList=.ok [s,x]) (hE:∀ y∈args.toList,kE a ca ρ y):∃ s' x',args.map ca.eval=#[s',x']/\VR ρ s s'/\VR ρ x x':=by
 have hl:=iW h hE;obtain⟨s',m1,e1,v1,l1⟩:=hl.jt;obtain⟨x',m2,e2,v2,l2⟩:=l1.jt;have:=l2.mC;subst this; subst e2;refine⟨s',x',?_,v1,v2⟩;apply Array.ext';rw[Array.toList_map,e1]
theorem eb {args:Array Operand} {x:Value} (h:eU a.eval args.toList=.ok [x]) (hE:∀ y∈args.toList,kE a ca ρ y):∃ x',args.map ca.eval=#[x']/\VR ρ x x':=by
 have hl:=iW h hE;obtain⟨x',m2,e2,v2,l2⟩:=hl.jt;have:=l2.mC;subst this;refine⟨x',?_,v2⟩;apply Array.ext';rw[Array.toList_map,e2]
theorem O7 {xf:Array TypeId} {t:TypeId} {l:List TypeId} (h:xf.toList=t :: l):xf[0]? = some t:=by
 rw[<- Array.getElem?_toList,h]; rfl
theorem Fj {b:Builtin} {args:Array Operand} {xf:Array TypeId} (h:fV ρ H W) (hE:∀ y∈args.toList,kE a ca ρ y) (ho:b9 P rec a H ⟨d,.call ⟨.builtin b,args,xf⟩,ty,ps,af,gu⟩=.ok (v,H')) :
  ib P ⟨d,.call ⟨.builtin b,args,xf⟩,ty,ps,af,gu⟩ ρ H W ca v H':=by
 simp only[b9] at ho;obtain⟨vs,B,fx⟩:=bE ho;clear ho;split at fx
 ·
  rename_i x;split at fx
  ·rename_i t l ht;obtain⟨u,D,V⟩:=bE fx;cases V;obtain⟨x',e,Y⟩:=eb B hE;obtain⟨k1,k2⟩:=P7 (ty:=ty) D Y (O7 ht) W;refine .aX h (v':=v) (ky ?_) k2;rw[e];simp only[builtin,Sem.run_bind,k1,Result.andThen,Sem.run_pure]
  ·cases fx
 ·cases fx
 ·
  rename_i s x;obtain⟨s',x',e,hs,Y⟩:=Re B hE;have gz:∀ (t:TypeId) (u:Option TypeId),xf[0]? = some t->xf[1]? = u->iu P H t u s x=.ok (v,H')->ib P ⟨d,.call ⟨.builtin .append,args,xf⟩,ty,ps,af,gu⟩ ρ H W ca v H':=λ t u e0 e1 ha=>by
   obtain⟨db,W',v',k1,k2,k3⟩:=G3 (ty:=ty) h ha hs Y e0 e1;refine⟨db,W',v',.inl (ky ?_),k2,k3⟩;rw[e];simp only[builtin,Sem.run_bind,k1,Result.andThen,Sem.run_pure]
  split at fx
  ·rename_i t ht;exact gz t none (O7 ht) (by rw[<- Array.getElem?_toList,ht]; rfl) fx
  ·rename_i t u l ht;exact gz t (some u) (O7 ht) (by rw[<- Array.getElem?_toList,ht]; rfl) fx
  ·cases fx
 ·
  rename_i dv x;obtain⟨ZX,x',e,hd,Y⟩:=Re B hE;split at fx
  ·rename_i t l ht;split at fx
   ·rename_i elem hu;obtain⟨size,D,ft⟩:=bE fx;clear fx;obtain⟨⟨new,m⟩,V,xR⟩:=bE ft;clear ft;obtain⟨db,W',v',k1,k2,k3⟩:=Na (ty:=ty) h hu D V hd Y (O7 ht) xR;refine⟨db,W',v',.inl (ky ?_),k2,k3⟩;rw[e];simp only[builtin,Sem.run_bind,k1,Result.andThen,Sem.run_pure]
   ·cases fx
  ·cases fx
 ·
  split at fx
  ·rename_i hg;obtain⟨u,D,V⟩:=bE fx;cases V;obtain⟨g1,g2⟩:=ko D;have hl:=iW B hE;have e:args.map ca.eval=vs.toArray:=by
    apply Array.ext';rw[Array.toList_map];apply List.ext_getElem?;intro i;cases N:vs[i]? with
    | none=>
     have:vs.length<=i:=List.getElem?_eq_none_iff.1 N;rw[List.getElem?_eq_none (by rw[<- hl.1]; exact this)]
    | some u=>
     obtain⟨u',q1,q2⟩:=hl.get N;rw[q1,tY _ (List.all_eq_true.1 hg u (List.mem_of_getElem? N)) q2]
   refine .aX h (v':=v) (ky ?_) (dT _ g2);rw[e];have:=ej _ g1 W;simp only[builtin,Sem.run_bind,Result.andThen,Sem.run_pure];have e2:(Builtin.max_ xf ty vs.toArray)=Builtin.max_ #[] 0 vs.toArray:=rfl;rw[e2,this]
  ·cases fx
 ·
  split at fx
  ·rename_i hg;obtain⟨u,D,V⟩:=bE fx;cases V;obtain⟨g1,g2⟩:=ko D;have hl:=iW B hE;have e:args.map ca.eval=vs.toArray:=by
    apply Array.ext';rw[Array.toList_map];apply List.ext_getElem?;intro i;cases N:vs[i]? with
    | none=>
     have:vs.length<=i:=List.getElem?_eq_none_iff.1 N;rw[List.getElem?_eq_none (by rw[<- hl.1]; exact this)]
    | some u=>
     obtain⟨u',q1,q2⟩:=hl.get N;rw[q1,tY _ (List.all_eq_true.1 hg u (List.mem_of_getElem? N)) q2]
   refine .aX h (v':=v) (ky ?_) (dT _ g2);rw[e];have:=ej _ g1 W;simp only[builtin,Sem.run_bind,Result.andThen,Sem.run_pure];have e2:(Builtin.min_ xf ty vs.toArray)=Builtin.min_ #[] 0 vs.toArray:=rfl;rw[e2,this]
  ·cases fx
 ·cases fx
def sO:Op->Bool
 | .call ⟨.value _,_,_⟩=>true
 | .call ⟨.invoke _ _,_,_⟩=>true
 | _=>false
theorem TK {o:Oper} (h:fV ρ H W) (hE:∀ x∈o.op.operands,kE a ca ρ x) (hn:sO o.op=false) (ho:b9 P rec a H o=.ok (v,H')):ib P o ρ H W ca v H':=by
 obtain⟨d,op,ty,ps,af,gu⟩:=o;simp only at hE hn;cases op with
 | move x=>exact M5 h (hE x (by simp[Op.operands])) ho
 | assign x=>exact G0 h (hE x (by simp[Op.operands])) ho
 | pick c x y=>exact M6 h (hE c (by simp[Op.operands])) (hE x (by simp[Op.operands])) (hE y (by simp[Op.operands])) ho
 | alloc t=>exact JG h ho
 | box t x=>exact P5 h (hE x (by simp[Op.operands])) ho
 | build t bH=>exact JN h (λ p U=>hE p.2 (by simp only[Op.operands,List.mem_toArray,List.mem_map]; exact⟨p,U,rfl⟩)) ho
 | buildSlice t n bH=>exact Aw h (λ p U=>hE p.2 (by simp only[Op.operands,List.mem_toArray,List.mem_map]; exact⟨p,U,rfl⟩)) ho
 | load t x=>exact M7 h (hE x (by simp[Op.operands])) ho
 | store t x y=>exact JH h (hE x (by simp[Op.operands])) (hE y (by simp[Op.operands])) ho
 | nilCheck x=>exact Dl h (hE x (by simp[Op.operands])) ho
 | binOp op t x y t2=>exact JJ h (hE x (by simp[Op.operands])) (hE y (by simp[Op.operands])) ho
 | unOp op t x=>exact M8 h (hE x (by simp[Op.operands])) ho
 | convert s t x=>exact Fg h (hE x (by simp[Op.operands])) ho
 | makeInterface t x=>exact vR h (hE x (by simp[Op.operands])) ho
 | makeFunc fn first cap=>exact Dm h (λ x Y=>hE x (by simp[Op.operands]; exact .inl (by simpa using Y))) (λ x Y=>hE x (by simp[Op.operands]; exact .inr (by simpa using Y))) ho
 | makeSlice t l c=>exact Bi h (hE l (by simp[Op.operands])) (hE c (by simp[Op.operands])) ho
 | slice t x lo N mx=>exact JP h (hE x (by simp[Op.operands])) (λ y hy=>hE y (by subst hy; simp[Op.operands])) (λ y hy=>hE y (by subst hy; simp[Op.operands])) (λ y hy=>hE y (by subst hy; simp[Op.operands])) ho
 | fieldAddr t x f=>exact Bg h (hE x (by simp[Op.operands])) ho
 | field t x f=>exact JL h (hE x (by simp[Op.operands])) ho
 | indexAddr t x i=>exact Bh h (hE x (by simp[Op.operands])) (hE i (by simp[Op.operands])) ho
 | index t x i=>exact JM h (hE x (by simp[Op.operands])) (hE i (by simp[Op.operands])) ho
 | extract x i=>exact Ff h (hE x (by simp[Op.operands])) ho
 | makeMap t x=>exact Fh h (λ y hy=>hE y (by subst hy; simp[Op.operands])) ho
 | lookup t x i ok=>exact G6 h (hE x (by simp[Op.operands])) (hE i (by simp[Op.operands])) ho
 | mapUpdate t m k x=>exact Bj h (hE m (by simp[Op.operands])) (hE k (by simp[Op.operands])) (hE x (by simp[Op.operands])) ho
 | typeAssert x xt t ok=>exact Ax h (hE x (by simp[Op.operands])) ho
 | range t x=>exact JR h (hE x (by simp[Op.operands])) ho
 | next x b=>exact M9 h (hE x (by simp[Op.operands])) ho
 | call c=>
  obtain⟨IF,args,xf⟩:=c;cases IF with
  | value f=>simp[sO] at hn
  | invoke r m=>simp[sO] at hn
  | builtin b=>exact Fj h (λ y hy=>hE y (by simp[Op.operands,Call.operands]; simpa using hy)) ho
 | _=>first | (simp[b9] at ho; done) | (simp only[b9] at ho; cases ho)
end
end
end Go.cy
namespace Go.cy
noncomputable section
variable {P:Program}
def WF (r:Option Nat):Fence:={ Fence.wide with round:=r }
def I1 (ρ:cx):rF->Deferred->Prop
 | .mark m,d=>∃ pl,ρ m=some pl/\d = { target:=.collected pl.cq,args:=#[] }
 | .call f l,d=>∃ cap args,d = { target:=.fn (.func f) cap,args:=args }/\LR ρ l (args.toList++cap.toList)
def MR (ρ:cx) (ms:List rF) (ds:List Deferred):Prop:=ms.length=ds.length/\∀ (i:Nat) (m:rF) (d:Deferred),ms[i]? = some m->ds[i]? = some d->I1 ρ m d
structure AR (ρ:cx) (a:az) (ca:Act):Prop where
 tm:TR ρ a.tm a.n ca.tmps
 bn:MR ρ a.bn ca.defers
def RR (ρ:cx) (r rc:Option Nat):Prop:=match r,rc with
 | none,none=>True
 | some l,some b=>∃ pl,ρ l=some pl/\pl.cq=b
 | _,_=>False
def Em:AX->Exit
 | .normal=>.normal
 | .exit id=>.exit id
 | .goto l=>.goto l
 | .ret=>.ret
def nu (ρ:cx) (H:AH) (W:World) (v:Value) (H':AH) (e:Ending) (W':World):Prop:=∃ db v',e=.returned v'/\St ρ H W db H' W'/\VR db v v'
def o9 (ρ:cx) (H:AH) (W:World) (x:AX) (a':az) (H':AH) (x':Exit) (Fu:Act) (W':World):Prop:=x'=Em x/\∃ db,St ρ H W db H' W'/\AR db a' Fu
structure rQ (P:Program) (rec:eL):Prop where
 call:∀ f args H v H',rec (.call f args) H=.ok (.val v,H')->(∃ fn c,P.funcs[f]? = some fn/\fn.body=some c/\(fn.name == "runtime.NumGoroutine")=false) /\
  ∀ ρ W eC n,fV ρ H W->LR ρ args eC->CallsIn (WF none) n P f eC.toArray W (nu ρ H W v H')
 code:∀ r c a H x a' H',rec (.code r c a) H=.ok (.ie x a',H')->∀ ρ W ca rc n,fV ρ H W->AR ρ a ca->RR ρ r rc->c.wpIn (WF rc) n P (o9 ρ H W x a' H') ca W
 yw:∀ f args H x a H',rec (.call f args) H≠.ok (.ie x a,H')
 lA:∀ r c a H v H',rec (.code r c a) H≠.ok (.val v,H')
theorem I1.mono {ρ db:cx} (h:ρ.le db) {m:rF} {d:Deferred} (hm:I1 ρ m d):I1 db m d:=by
 cases m with
 | mark m=>obtain⟨pl,p,q⟩:=hm; exact⟨pl,h _ _ p,q⟩
 | call f l=>obtain⟨cap,args,e,hl⟩:=hm; exact⟨cap,args,e,hl.mono h⟩
theorem MR.mono {ρ db:cx} (h:ρ.le db) {ms:List rF} {ds:List Deferred} (hm:MR ρ ms ds):MR db ms ds:=
 ⟨hm.1,λ i m d a b=>(hm.2 i m d a b).mono h⟩
theorem MR.cons {ρ:cx} {ms:List rF} {ds:List Deferred} (h:MR ρ ms ds) {m:rF} {d:Deferred} (U:I1 ρ m d):MR ρ (m :: ms) (d :: ds):=by
 refine⟨by simp[h.1],λ i m' d' B D=>?_⟩;cases i with
 | zero=>simp at B D; subst B; subst D; exact U
 | succ i=>exact h.2 i m' d' (by simpa using B) (by simpa using D)
theorem AR.mono {ρ db:cx} (h:ρ.le db) {a:az} {ca:Act} (ha:AR ρ a ca):AR db a ca:=⟨ha.tm.mono h,ha.bn.mono h⟩
theorem RR.mono {ρ db:cx} (h:ρ.le db) {r rc:Option Nat} (hr:RR ρ r rc):RR db r rc:=by
 cases r <;> cases rc <;> first | exact hr | skip
 obtain⟨pl,a,b⟩:=hr;exact⟨pl,h _ _ a,b⟩
theorem AR.eval {ρ:cx} {a:az} {ca:Act} (h:AR ρ a ca) (x:Operand):kE a ca ρ x:=λ u hu=>by
 cases x with
 | tmp t=>simp only[az.eval] at hu; cases hu; exact h.tm.2 t
 | const v=>
  simp only[az.eval] at hu;split at hu
  ·cases hu; exact dT _ (by assumption)
  ·cases hu
 | global aa=>simp[az.eval] at hu
 | func f=>
  simp only[az.eval] at hu;cases hu;exact .func rfl (by intro i v v' h; simp at h) rfl (by intro i v v' h; simp at h)
theorem TR.put {ρ:cx} {tm:T Value} {n:Nat} {tmps:Array Value} (h:TR ρ tm n tmps) {d:Nat} (hd:d < n) (hn:n < 281474976710655) {v v':Value} (hv:VR ρ v v'):TR ρ (T.put AH.top tm d v) n (tmps.setIfInBounds d v'):=by
 refine⟨by simp[h.1],λ t=>?_⟩;rw[show(T.put AH.top tm d v).get t=if t=d then some v else tm.get t from T.jB 48 _ _ _ _ (by have:2 ^ 48=281474976710656:=rfl; omega)];have gK:=h.1;by_cases e:t=d
 ·subst e;have:(tmps.setIfInBounds t v').getD t Go.undef=v':=by
   simp[Array.getD_eq_getD_getElem?,gK,hd]
  rw[this];simpa using hv
 ·rw[if_neg e];have:(tmps.setIfInBounds d v').getD t Go.undef=tmps.getD t Go.undef:=by
   simp only[Array.getD_eq_getD_getElem?];rw[Array.getElem?_setIfInBounds_ne (λ h=>e h.symm)]
  rw[this];exact h.2 t
theorem AR.put {ρ:cx} {a a':az} {ca:Act} (h:AR ρ a ca) {d:Option Tmp} {v v':Value} (U:a.put d v=.ok a') (hv:VR ρ v v'):AR ρ a' (ca.put d v'):=by
 rw[az.zu] at U;cases d with
 | none=>cases U; exact h
 | some d=>
  simp only at U;split at U
  ·rename_i hd;cases U;exact⟨h.tm.put hd.1 hd.2 hv,h.bn⟩
  ·cases U
theorem Rf {a a':az} {d:Option Tmp} {v:Value} (U:a.put d v=.ok a'):a'.n=a.n/\a'.bn=a.bn:=by
 rw[az.zu] at U;cases d with
 | none=>cases U; exact⟨rfl,rfl⟩
 | some d=>
  simp only at U;split at U
  ·cases U; exact⟨rfl,rfl⟩
  ·cases U
theorem vi {ρ:cx} {H:AH} {W:World} (h:fV ρ H W) {l:Nat} {r:gY} {pl:Pl} (hl:H.get l=some (.loop r)) (U:ρ l=some pl) :
  ∃ fn tmps pm,W.heap[pl.cq]? = some (.loop { state:=r.state,pending:=r.pending,fn:=fn,tmps:=tmps,params:=r.params.toArray,assign:=r.assign,body:=r.body,defers:=pm.cq })/\TR ρ r.tm r.n tmps/\ρ r.mark=some pm:=by
 obtain⟨p0,nL,_,ji⟩:=h.nF l _ hl;rw[U] at nL; cases nL;exact ji
theorem kz {W:World} {b:Nat} {r:Loop} (h:W.heap[b]? = some (.loop r)):(Instr.getLoop b).run P W=.ok r W:=by
 unfold Instr.getLoop;simp only[Sem.run_bind,fJ h (by intro c t f e; cases e),Result.andThen,Sem.run_pure]
theorem St.CX {ρ:cx} {H:AH} {W:World} (h:fV ρ H W) {l:Nat} {r r':gY} {pl:Pl} (hl:H.get l=some (.loop r)) (U:ρ l=some pl) {fn:FuncId} {tmps:Array Value} {pm:Pl}
  (B:TR ρ r'.tm r'.n tmps) (D:ρ r'.mark=some pm) :
  St ρ H W ρ (H.set l (.loop r')) { W with heap:=W.heap.setIfInBounds pl.cq (.loop { state:=r'.state,pending:=r'.pending,fn:=fn,tmps:=tmps,params:=r'.params.toArray,assign:=r'.assign,body:=r'.body,defers:=pm.cq }) }:=by
 obtain⟨p0,nL,Gg,_⟩:=h.nF l _ hl;rw[U] at nL; cases nL;refine St.setObj h hl rfl U _ ⟨fn,tmps,pm,?_,B,D⟩;simp[Gg]
theorem py (F:Fence) (I:∀ f,F.fn f) (o:Oper) (w:World) (ev:Operand->Value):∀ f,o.about P w ev=some f->F.fn f:=λ f _=>I f
theorem G7 {cf:Operand} {args:Array Operand} {xf:Array TypeId} {ca:Act} {W:World} {d:Option Tmp} {ty:TypeId} {ps:String} {af:Array Edge} {gu:Option (Nat×Bool)} {aa:FuncId} {first cap:Array Value} {fn:Func} {c:Code}
  (hf:ca.eval cf=.func (.func aa) first cap) (B:P.funcs[aa]? = some fn) (D:fn.body=some c) (V:(fn.name == "runtime.NumGoroutine")=false) :
  (execOp ca.eval ⟨d,.call ⟨.value cf,args,xf⟩,ty,ps,af,gu⟩).run P W=.ok (.enter aa (first.toList++args.toList.map ca.eval++cap.toList).toArray) W:=by
 have e:first++args.map ca.eval++cap=(first.toList++args.toList.map ca.eval++cap.toList).toArray:=by
  apply Array.ext'; simp
 simp only[execOp,resolve,hf,Deferred.ofValue,Sem.run_bind,Sem.run_pure,Result.andThen,invoke,callFunc,run_program,B,V,D,Bool.false_eq_true,if_false,Option.isNone_some,e]
theorem Fk {IC:Operand} {name:String} {args:Array Operand} {xf:Array TypeId} {ca:Act} {W:World} {d:Option Tmp} {ty:TypeId} {ps:String} {af:Array Edge} {gu:Option (Nat×Bool)} {t:TypeId} {v:Value} {aa:FuncId} {fn:Func} {c:Code}
  (hf:ca.eval IC=.iface t v) (hm:sN P t name=.ok aa) (B:P.funcs[aa]? = some fn) (D:fn.body=some c) (V:(fn.name == "runtime.NumGoroutine")=false) :
  (execOp ca.eval ⟨d,.call ⟨.invoke IC name,args,xf⟩,ty,ps,af,gu⟩).run P W=.ok (.enter aa (v :: args.toList.map ca.eval).toArray) W:=by
 have e : #[v]++(#[Value.iface t v]++args.map ca.eval).extract 1 (#[Value.iface t v]++args.map ca.eval).size=(v :: args.toList.map ca.eval).toArray:=by
  apply Array.ext';simp;exact List.take_of_length_le (by simp)
 have e0:(#[Value.iface t v]++args.map ca.eval)[0]? = some (.iface t v):=by
  rw[Array.getElem?_append_left (by simp)];rfl
 obtain⟨k,hk⟩:∃ k,P.types.size+Made.depth=k+1:=by
  have B:1<=Made.depth:=by decide
  exact⟨P.types.size+(Made.depth - 1),by omega⟩
 simp only[execOp,resolve,hf,Sem.run_bind,Sem.run_pure,Result.andThen,invoke,e0,callMethod,run_program,hk,Fi hm,callFunc,B,V,D,Bool.false_eq_true,if_false,Option.isNone_some,e]
theorem G8 {cf:Operand} {args:Array Operand} {xf:Array TypeId} {ca:Act} {W:World} {d:Option Tmp} {ty:TypeId} {ps:String} {af:Array Edge} {gu:Option (Nat×Bool)} {b:Nat} {r:Loop}
  (hf:ca.eval cf=.func (.yield b) #[] #[]) (B:W.heap[b]? = some (.loop r)) (D:args.size=r.params.size) :
  (execOp ca.eval ⟨d,.call ⟨.value cf,args,xf⟩,ty,ps,af,gu⟩).run P W=.ok (.round b r.fn ((r.params.zip (args.map ca.eval)).foldl (λ tmps (p:Tmp×Value)=>tmps.setIfInBounds p.1 p.2) r.tmps) r.assign r.body) W:=by
 have e:(#[] : Array Value)++args.map ca.eval=args.map ca.eval:=by simp
 simp only[execOp,resolve,hf,Deferred.ofValue,Sem.run_bind,Sem.run_pure,Result.andThen,invoke,e,Instr.yield,kz B,Array.size_map,D,ne_eq,not_true_eq_false,if_false]
theorem xD {ρ:cx} : ∀ (ps:List Tmp) (vs sI:List Value) (b b':az) (tmps:Array Value),(ps.zip vs).foldlM (λ(b:az) (p:Tmp×Value)=>b.put (some p.1) p.2) b=(.ok b':R az)->LR ρ vs sI->TR ρ b.tm b.n tmps ->
  TR ρ b'.tm b'.n ((ps.zip sI).foldl (λ tmps (p:Tmp×Value)=>tmps.setIfInBounds p.1 p.2) tmps)/\b'.n=b.n/\b'.bn=b.bn
 | [],vs,sI,b,b',tmps,h,_,ht=>by
  simp only[List.zip_nil_left,List.foldlM_nil] at h;cases h;exact⟨by simpa using ht,rfl,rfl⟩
 | p :: ps,[],sI,b,b',tmps,h,hl,ht=>by
  rw[hl.mC];simp only[List.zip_nil_right,List.foldlM_nil] at h;cases h;exact⟨by simpa using ht,rfl,rfl⟩
 | p :: ps,v :: vs,sI,b,b',tmps,h,hl,ht=>by
  obtain⟨v',m',rfl,hv,hm⟩:=hl.jt;simp only[List.zip_cons_cons,List.foldlM_cons] at h;obtain⟨b1,B,D⟩:=bE h;obtain⟨n1,n2⟩:=Rf B;have h1c:=B;rw[az.zu] at B;simp only at B;split at B
  ·rename_i hd;cases B;have ht1:TR ρ (T.put AH.top b.tm p v) b.n (tmps.setIfInBounds p v'):=ht.put hd.1 hd.2 hv;obtain⟨q1,q2,q3⟩:=xD ps vs m' _ b' _ D hm ht1;exact⟨by simpa using q1,q2,q3⟩
  ·cases B
theorem JS {rec:eL} (eI:rQ P rec) {ρ:cx} {H H1 H2:AH} {W:World} (h:fV ρ H W) {l:Nat} {r r1 r2:gY} {pl:Pl} (U:ρ l=some pl) {act tS Z:az} {x:AX} {tmps:Array Value}
  (ZY:AR ρ act { tmps:=tmps,defers:=[] }) (h4:rec (.code (some l) r.assign act) H=.ok (.ie .normal tS,H1)) (O8:H1.get l=some (.loop r1)) (Kw:r1.state=.ready)
  (h5:rec (.code (some l) r.body tS) (H1.set l (.loop { r1 with state:=.busy }))=.ok (.ie x Z,H2)) (O9:H2.get l=some (.loop r2)) (fn:FuncId) (rc:Option Nat) (n:Nat) {R:Ending->World->Prop}
  (G:∀ db W',St ρ H W db (H2.set l (.loop { r2 with state:=if (c6 x).isNone then .ready else .done,pending:=c6 x })) W'->R (.returned (.bool (c6 x).isNone)) W') :
  RoundIn (WF rc) n P pl.cq fn tmps r.assign r.body W R:=by
 refine roundIn_of_wpIn (F:=WF rc) trivial ?_;refine wpIn_mono (eI.code (some l) r.assign act H .normal tS _ h4 ρ W _ (some pl.cq) n h ZY ⟨pl,U,rfl⟩) (λ x' FM W1 Lx=>?_);obtain⟨rfl,uF,jD,FN⟩:=Lx;have YF:=jD.le _ _ U;obtain⟨Vm,Ly,ZZ,u1,u2,u3⟩:=vi jD.fc O8 YF;have YG:=St.CX (r':={ r1 with state:=.busy }) jD.fc O8 YF (fn:=Vm) (tmps:=Ly) (pm:=ZZ) u2 u3;have hb:(Instr.beginRound pl.cq).run P W1=.ok () { W1 with heap:=W1.heap.setIfInBounds pl.cq (.loop { state:=.busy,pending:=r1.pending,fn:=Vm,tmps:=Ly,params:=r1.params.toArray,assign:=r1.assign,body:=r1.body,defers:=ZZ.cq }) }:=by
  unfold Instr.beginRound;simp only[Sem.run_bind,kz u1,Result.andThen,iJ u1 (by intro c t f e; cases e),Kw,Sem.run_pure]
 dsimp only at YG;generalize ({ W1 with heap:=W1.heap.setIfInBounds pl.cq (.loop { state:=.busy,pending:=r1.pending,fn:=Vm,tmps:=Ly,params:=r1.params.toArray,assign:=r1.assign,body:=r1.body,defers:=ZZ.cq }) } : World)=W1b at hb YG;refine⟨W1b,hb,?_⟩;have Lz:=eI.code (some l) r.body tS _ x Z H2 h5 uF W1b FM (some pl.cq) n YG.fc FN ⟨pl,YF,rfl⟩;refine wpIn_mono Lz (λ x' YH W2 Lx=>?_);obtain⟨rfl,Hw,wc,QK⟩:=Lx;have AD:=wc.le _ _ YF;obtain⟨Vn,En,Vo,q1,q2,q3⟩:=vi wc.fc O9 AD;have gz:∃ v w',(Instr.endRound pl.cq (c6 x)).run P W2=.ok v w'/\R (.returned v) w':=by
  have ste:=St.CX (r':={ r2 with state:=if (c6 x).isNone then .ready else .done,pending:=c6 x }) wc.fc O9 AD (fn:=Vn) (tmps:=En) (pm:=Vo) q2 q3;refine⟨.bool (c6 x).isNone,_,?_,G Hw _ (((jD.trans YG).trans wc).trans ste)⟩;unfold Instr.endRound;simp only[Sem.run_bind,kz q1,Result.andThen,iJ q1 (by intro c t f e; cases e),Sem.run_pure]
 cases x with
 | normal=>exact gz
 | ret=>exact gz
 | exit id=>exact gz
 | goto l=>exact gz
theorem Rg {a:az} {ca:Act} {ρ:cx} {H H':AH} {W:World} {v:Value} {rec:eL} {o:Oper} (eI:rQ P rec) (h:fV ρ H W) (hE:∀ x∈o.op.operands,kE a ca ρ x) (ho:b9 P rec a H o=.ok (v,H')) (rc:Option Nat) (n:Nat)
  {next:Act->World->Prop} {Q:Exit->Act->World->Prop} (ea:∀ db W' v',St ρ H W db H' W'->VR db v v'->next (ca.put o.dst v') W'):o.wpIn (WF rc) n P ca W next Q:=by
 refine⟨py _ (λ f=>trivial) o W ca.eval,?_⟩;have KB:∀ c,o.op≠.defer c:=λ c e=>by
  obtain⟨d,op,ty,ps,af,gu⟩:=o;simp only at e;subst e;simp[b9] at ho
 rw[Oper.semAt_eq _ _ _ KB];cases RO:sO o.op with
 | false=>
  obtain⟨db,W',v',fp,fW,AN⟩:=TK h hE RO ho;rcases fp with fp | ⟨fp,rfl⟩
  ·rw[fp]; exact ea db W' v' fW AN
  ·rw[fp]; exact ea db W' _ fW AN
 | true=>
  obtain⟨d,op,ty,ps,af,gu⟩:=o;cases op <;> simp only[sO] at RO <;> first | (cases RO; done) | skip
  rename_i c;obtain⟨IF,args,xf⟩:=c;cases IF <;> simp only[sO] at RO <;> first | (cases RO; done) | skip
  case call.invoke IC name=>
   simp only at hE ea;have Z0:kE a ca ρ IC:=hE IC (by simp[Op.operands,Call.operands]);have Z1:∀ y∈args.toList,kE a ca ρ y:=λ y hy=>hE y (by simp[Op.operands,Call.operands]; exact .inr (by simpa using hy));simp only[b9] at ho;obtain⟨vs,B,fx⟩:=bE ho;clear ho;obtain⟨fv,D,ft⟩:=bE fx;clear fx;have hl:=iW B Z1;have Fv:=Z0 _ D;obtain⟨QL,Kh⟩:∃ QL,ca.eval IC=QL:=⟨_,rfl⟩
   rw[Kh] at Fv;split at ft
   ·rename_i t u;obtain⟨aa,h5,xR⟩:=bE ft;clear ft;obtain⟨⟨res,H1⟩,V,DH⟩:=bE xR;clear xR;cases res with
    | ie x a'=>exact absurd V (eI.yw _ _ _ _ _ _)
    | val w=>
     cases DH;obtain⟨⟨fn,c,f1,f2,f3⟩,xu⟩:=eI.call _ _ _ _ _ V;cases Fv with
     | iface Z2=>
      rename_i u';rw[Fk Kh h5 f1 f2 f3,Oper.uponIn_enter];refine⟨(λ hd=>by cases hd),?_⟩;have:=xu ρ W _ (n - 1) h (hl.cons Z2);refine CallsIn.mono (F:=WF rc) this (λ e W' U=>?_);obtain⟨db,v',rfl,fW,AN⟩:=U;exact ea db W' v' fW AN
   ·cases ft
  rename_i cf;simp only at hE ea;have Z0:kE a ca ρ cf:=hE cf (by simp[Op.operands,Call.operands]);have Z1:∀ y∈args.toList,kE a ca ρ y:=λ y hy=>hE y (by simp[Op.operands,Call.operands]; exact .inr (by simpa using hy));simp only[b9] at ho;obtain⟨vs,B,fx⟩:=bE ho;clear ho;obtain⟨fv,D,ft⟩:=bE fx;clear fx;have hl:=iW B Z1;have Fv:=Z0 _ D;obtain⟨QL,Kh⟩:∃ QL,ca.eval cf=QL:=⟨_,rfl⟩
  rw[Kh] at Fv;split at ft
  ·rename_i aa first cap
   obtain⟨⟨res,H1⟩,V,xR⟩:=bE ft;clear ft;cases res with
   | ie x a'=>exact absurd V (eI.yw _ _ _ _ _ _)
   | val u=>
    cases xR;obtain⟨⟨fn,c,f1,f2,f3⟩,xu⟩:=eI.call _ _ _ _ _ V;cases Fv with
    | func e1 e2 e3 e4=>
     rename_i iE rp
     rw[G7 Kh f1 f2 f3,Oper.uponIn_enter];refine⟨(λ hd=>by cases hd),?_⟩;have nQ:LR ρ (first.toList++vs++cap.toList) (iE.toList++args.toList.map ca.eval++rp.toList):=(LR.append (LR.append ⟨e1,e2⟩ hl) ⟨e3,e4⟩)
     have:=xu ρ W _ (n - 1) h nQ;refine CallsIn.mono (F:=WF rc) this (λ e W' U=>?_);obtain⟨db,v',rfl,fW,AN⟩:=U;exact ea db W' v' fW AN
  ·rename_i l _ _;split at ft
   ·rename_i r Z3;split at ft
    ·cases ft
    rename_i hlen;split at ft
    ·rename_i aeg;obtain⟨act,V,xR⟩:=bE ft;clear ft;obtain⟨⟨res,H1⟩,h4,DH⟩:=bE xR;clear xR;split at DH
     ·rename_i tS RP Vp;cases Vp;split at DH
      ·rename_i r1 O8;split at DH
       ·cases DH
       rename_i Gh;obtain⟨⟨ajL,H2⟩,h5,RJ⟩:=bE DH;clear DH;split at RJ
       ·rename_i x Z FO Z4;cases Z4;split at RJ
        ·rename_i r2 O9;cases RJ;cases Fv with
         | yield U=>
          rename_i pl;obtain⟨fn,tmps,pm,w1,w2,w3⟩:=vi h Z3 U;have gK:args.size=r.params.toArray.size:=by
           have:=hl.1;simp at this hlen ⊢;omega
          rw[G8 Kh w1 gK,Oper.uponIn_round];refine⟨(λ hd=>by cases hd),?_⟩;obtain⟨t1,t2,t3⟩:=xD r.params vs (args.toList.map ca.eval) { tm:=r.tm,n:=r.n,bn:=[] } act tmps V hl w2;have etm:(r.params.toArray.zip (args.map ca.eval)).foldl (λ tmps (p:Tmp×Value)=>tmps.setIfInBounds p.1 p.2) tmps=(r.params.zip (args.toList.map ca.eval)).foldl (λ tmps (p:Tmp×Value)=>tmps.setIfInBounds p.1 p.2) tmps:=by
           rw[<- Array.foldl_toList,Array.toList_zip];simp
          simp only[etm];have ZY:AR ρ act { tmps:=(r.params.zip (args.toList.map ca.eval)).foldl (λ tmps (p:Tmp×Value)=>tmps.setIfInBounds p.1 p.2) tmps,defers:=[] }:=
           ⟨t1,by rw[t3]; exact⟨rfl,λ i m d hm=>by simp at hm⟩⟩
          have Kw:r1.state=.ready:=by simpa using Gh
          exact JS eI h U ZY h4 O8 Kw h5 O9 fn rc (n - 1) (λ db W' st=>ea db W' _ st (.bool _))
        ·cases RJ
       ·cases RJ
      ·cases DH
     ·cases DH
    ·cases ft
   ·cases ft
  ·cases ft
end
end Go.cy
namespace Go.cy
noncomputable section
variable {P:Program}
theorem ur {ρ:cx} {ops:Array Oper} {a:az} {ca:Act} {o:Oper} {b:Bool} (h:dr ops.toList a o=.ok b) (gK:ca.tmps.size=a.n)
  (ht:∀ aa w d,o.guard=some (aa,w)->(ops[aa]?).bind (·.dst)=some d->VR ρ ((a.tm.get d).getD undef) (ca.tmps.getD d undef)):Region.wanted o (yielded ops ca.tmps)=b:=by
 unfold dr at h;unfold Region.wanted;cases hg:o.guard with
 | none=>rw[hg] at h; cases h; rfl
 | some gw=>
  obtain⟨aa,want⟩:=gw;rw[hg] at h;simp only at h ⊢;have ab4:ops.toList[aa]? = ops[aa]?:=by simp
  rw[ab4] at h;unfold yielded;cases hd:(ops[aa]?).bind (·.dst) with
  | none=>rw[hd] at h; cases h
  | some d=>
   rw[hd] at h;simp only at h ⊢;by_cases cG:d < a.n
   ·rw[if_pos cG] at h;have hv:=ht aa want d hg hd;have tg:d < ca.tmps.size:=by rw[gK]; exact cG
    have eM:ca.tmps[d]? = some (ca.tmps.getD d undef):=by simp[Array.getD_eq_getD_getElem?,tg]
    simp only[Option.bind_some,eM];generalize ca.tmps.getD d undef=u at hv;split at h
    ·rename_i b' hb;cases h;rw[hb] at hv;rw[hv.bA];simp
    ·rename_i hn;cases h;have ZO:∀ b',u≠.bool b':=λ b' e=>by
      subst e;cases hm:a.tm.get d with
      | none=>rw[hm] at hv; cases hv
      | some v=>
       rw[hm] at hv;simp only[Option.getD_some] at hv;cases hv;exact hn _ hm
     cases u <;> first | rfl | exact absurd rfl (ZO _)
   ·rw[if_neg cG] at h; cases h
theorem Dn {o:Op} {c:Call} (h:dR o=some c):o=.defer c:=by
 cases o <;> simp[dR] at h;rw[h]
theorem Nb {a:az} {ca:Act} {ρ:cx} {W:World} {d:rF} {o:Oper} {c:Call} (s9:o.op=.defer c) (hE:∀ x,kE a ca ρ x) (h:tX a c=.ok d) (n:Nat) {next:Act->World->Prop} {Q:Exit->Act->World->Prop}
  (ea:∀ cd,I1 ρ d cd->next ({ ca with defers:=cd :: ca.defers }.put o.dst undef) W):o.wpIn (WF none) n P ca W next Q:=by
 refine⟨py _ (λ f=>trivial) o W ca.eval,?_⟩;obtain⟨dst,op,ty,ps,af,gu⟩:=o;simp only at s9;subst s9;obtain⟨IF,args,xf⟩:=c;unfold tX at h;obtain⟨vs,B,D⟩:=bE h;have hl:=iW (ca:=ca) (ρ:=ρ) B (λ x _=>hE x);simp only at D;cases IF with
 | builtin b=>cases D
 | invoke r m=>cases D
 | value f=>
  simp only at D;obtain⟨fv,V,h4⟩:=bE D;have Fv:=hE f _ V;obtain⟨QL,Kh⟩:∃ QL,ca.eval f=QL:=⟨_,rfl⟩
  rw[Kh] at Fv;split at h4
  ·rename_i aa first cap
   cases h4;cases Fv with
   | func e1 e2 e3 e4=>
    rename_i iE rp
    have fp:(Oper.semAt (WF none).round ca.eval ⟨dst,.defer ⟨.value f,args,xf⟩,ty,ps,af,gu⟩).run P W=.ok (.defer { target:=.fn (.func aa) rp,args:=iE++args.map ca.eval }) W:=by
     show(execOp ca.eval ⟨dst,.defer ⟨.value f,args,xf⟩,ty,ps,af,gu⟩).run P W=_;simp only[execOp,resolve,Kh,Deferred.ofValue,Sem.run_bind,Sem.run_pure,Result.andThen]
    rw[fp,Oper.uponIn_defer];refine ea _ ⟨rp,iE++args.map ca.eval,rfl,?_⟩;have:(iE++args.map ca.eval).toList++rp.toList=iE.toList++args.toList.map ca.eval++rp.toList:=by simp
    rw[this];exact LR.append (LR.append ⟨e1,e2⟩ hl) ⟨e3,e4⟩
  ·cases h4
theorem yx {rec:eL} (eI:rQ P rec) {ops:Array Oper} (r rc:Option Nat) (RH:r=none->rc=none) (n:Nat) {Q:Exit->Act->World->Prop} : ∀ (os:List Oper) (idxs:List Nat) (a a':az) (ca:Act) (ρ:cx) (H H':AH) (W:World),
  eW P rec r ops.toList os a H=.ok (a',H')->idxs.length=os.length->(∀ (k i:Nat) (o:Oper),idxs[k]? = some i->os[k]? = some o->ops[i]? = some o)->fV ρ H W->AR ρ a ca ->
  (∀ db Fu W',St ρ H W db H' W'->AR db a' Fu->Q .normal Fu W')->wpOpsIn (WF rc) n P ops Q idxs ca W
 | [],idxs,a,a',ca,ρ,H,H',W,h,hl,_,G,hA,hQ=>by
  cases idxs with
  | cons _ _=>simp at hl
  | nil=>
   simp only[eW] at h;cases h;exact hQ ρ ca W (St.refl G) hA
 | o :: os,[],a,a',ca,ρ,H,H',W,h,hl,_,G,hA,hQ=>by simp at hl
 | o :: os,i :: idxs,a,a',ca,ρ,H,H',W,h,hl,hix,G,hA,hQ=>by
  have N:ops[i]? = some o:=hix 0 i o rfl rfl;have S0:∀ (k i:Nat) (o:Oper),idxs[k]? = some i->os[k]? = some o->ops[i]? = some o:=λ k j u B D=>hix (k+1) j u (by simpa using B) (by simpa using D);simp only[eW] at h;obtain⟨b,B,D⟩:=bE h;clear h;have hw:=ur (ρ:=ρ) B hA.tm.1 (λ aa w d _ _=>hA.tm.2 d);simp only[wpOpsIn,N];cases b with
  | true=>
   simp only[if_true] at D;rw[if_pos hw];split at D
   ·rename_i c KC;split at D
    ·cases D
    rename_i Z5;have KD:r=none:=by cases r <;> simp at Z5 ⊢
    have hrc:=RH KD;subst hrc;obtain⟨d,V,h4⟩:=bE D;obtain⟨a1,h5,h6⟩:=bE h4;refine Nb (Dn KC) (λ x=>hA.eval x) V n (λ cd hcd=>?_);have Ok:AR ρ { a with bn:=d :: a.bn } { ca with defers:=cd :: ca.defers }:=⟨hA.tm,hA.bn.cons hcd⟩
    exact yx eI r none RH n os idxs a1 a' _ ρ H H' W h6 (by simpa using hl) S0 G (Ok.put h5 (VR.undef _)) hQ
   ·obtain⟨⟨v,H1⟩,V,h4⟩:=bE D;clear D;obtain⟨a1,h5,h6⟩:=bE h4;clear h4;refine Rg eI G (λ x _=>hA.eval x) V rc n (λ db W' v' fW AN=>?_);exact yx eI r rc RH n os idxs a1 a' _ db H1 H' W' h6 (by simpa using hl) S0 fW.fc ((hA.mono fW.le).put h5 AN) (λ Gc Fu Yt Cf uM=>hQ Gc Fu Yt (fW.trans Cf) uM)
  | false=>
   simp only[Bool.false_eq_true,if_false] at D;obtain⟨a1,h5,h6⟩:=bE D;rw[if_neg (by rw[hw]; simp)];exact⟨py _ (λ f=>trivial) o W ca.eval,yx eI r rc RH n os idxs a1 a' _ ρ H H' W h6 (by simpa using hl) S0 G (hA.put h5 (VR.undef _)) hQ⟩
theorem Ac {a b:Nat} : c8 a b=true↔∀ i,a.testBit i=true->b.testBit i=true:=by
 unfold c8;rw[beq_iff_eq];constructor
 ·intro h i N;have:(a &&& b).testBit i=true:=by rw[h]; exact N
  rw[Nat.testBit_and] at this;simp at this;exact this.2
 ·intro h;apply Nat.eq_of_testBit_eq;intro i;rw[Nat.testBit_and];cases ha:a.testBit i with
  | false=>rfl
  | true=>simp[h i ha]
theorem Nc (acc:List Nat) (o:Oper) (i:Nat):(DY acc o).testBit i=true↔∃ e∈o.after.toList,Region.binds .any e=true/\(i=e.on\/(acc.getD e.on 0).testBit i=true):=by
 unfold DY;have key:∀ (l:List Edge) (m:Nat),(l.foldl (λ m e=>if Region.binds .any e then m ||| 2 ^ e.on ||| acc.getD e.on 0 else m) m).testBit i=true↔m.testBit i=true\/∃ e∈l,Region.binds .any e=true/\(i=e.on\/(acc.getD e.on 0).testBit i=true):=by
  intro l
  induction l with
  | nil=>intro m; simp
  | cons e l ih=>
   intro m;rw[List.foldl_cons,ih];by_cases hb:Region.binds .any e=true
   ·simp only[hb,if_true,Nat.testBit_or,Nat.testBit_two_pow,Bool.or_eq_true,decide_eq_true_eq,List.mem_cons,exists_eq_or_imp,true_and];constructor
    ·intro h;rcases h with((h | h) | h) | h
     ·exact .inl h
     ·exact .inr (.inl (.inl h.symm))
     ·exact .inr (.inl (.inr h))
     ·exact .inr (.inr h)
    ·intro h;rcases h with h | ((h | h) | h)
     ·exact .inl (.inl (.inl h))
     ·exact .inl (.inl (.inr h.symm))
     ·exact .inl (.inr h)
     ·exact .inr h
   ·have hbf:Region.binds .any e=false:=by simpa using hb
    simp[hbf]
 rw[key];simp
theorem H8:∀ (os:List Oper) (acc:List Nat),∃ ext,os.foldl (λ acc o=>acc++[DY acc o]) acc=acc++ext/\ext.length=os.length /\
  ∀ (j:Nat) (o:Oper),os[j]? = some o->ext[j]? = some (DY (acc++ext.take j) o)
 | [],acc=>⟨[],by simp,rfl,λ j o h=>by simp at h⟩
 | o :: os,acc=>by
  obtain⟨ext,B,D,V⟩:=H8 os (acc++[DY acc o]);refine⟨DY acc o :: ext,by rw[List.foldl_cons,B]; simp,by simp[D],λ j u X=>?_⟩;cases j with
  | zero=>simp at X; subst X; simp
  | succ j=>
   simp only[List.getElem?_cons_succ] at X ⊢;rw[V j u X];simp
theorem Nd {os:List Oper} {j:Nat} {o:Oper} (X:os[j]? = some o) (cG:∀ e∈o.after.toList,Region.binds .any e=true->e.on < j) (i:Nat) :
  ((ix os).getD j 0).testBit i=true↔∃ e∈o.after.toList,Region.binds .any e=true/\(i=e.on\/((ix os).getD e.on 0).testBit i=true):=by
 obtain⟨ext,B,D,V⟩:=H8 os [];have e:ix os=ext:=by unfold ix; simpa using B
 rw[e];have h4:=V j o X;simp only[List.nil_append] at h4;rw[show ext.getD j 0=DY (ext.take j) o by rw[List.getD_eq_getElem?_getD,h4]; rfl,Nc];have ht:∀ k,k < j->(ext.take j).getD k 0=ext.getD k 0:=λ k hk=>by
  rw[List.getD_eq_getElem?_getD,List.getD_eq_getElem?_getD,List.getElem?_take,if_pos hk]
 constructor
 ·rintro⟨e,he,hb,h⟩;exact⟨e,he,hb,by rw[ht _ (cG e he hb)] at h; exact h⟩
 ·rintro⟨e,he,hb,h⟩;exact⟨e,he,hb,by rw[ht _ (cG e he hb)]; exact h⟩
def W5 (os:List Oper) (ag:Nat->Prop):Prop:=∀ j o,ag j->os[j]? = some o->∀ e∈o.after.toList,Region.binds .any e=true->ag e.on
def wN (os:List Oper):Prop:=∀ j o,os[j]? = some o->∀ e∈o.after.toList,Region.binds .any e=true->e.on < j
theorem zM {os:List Oper} (hb:wN os) {ag:Nat->Prop} (hD:W5 os ag):∀ (j:Nat) (o:Oper),os[j]? = some o->(∀ e∈o.after.toList,Region.binds .any e=true->ag e.on)->∀ i,((ix os).getD j 0).testBit i=true->ag i:=by
 intro j
 induction j using Nat.strongRecOn with
 | _ j ih=>
  intro o X hd i N;obtain⟨e,he,Uo,h⟩:=(Nd X (hb j o X) i).1 N;rcases h with rfl | h
  ·exact hd e he Uo
  ·have cG:=hb j o X e he Uo;have hjl:j < os.length:=by
    rcases Nat.lt_or_ge j os.length with h' | h'
    ·exact h'
    ·rw[List.getElem?_eq_none h'] at X; cases X
   have hen:os[e.on]? = some os[e.on]:=List.getElem?_eq_getElem (by omega);exact ih e.on cG _ hen (hD e.on _ (hd e he Uo) hen) i h
theorem Ad {α β:Type} {f:α->β->R α} : ∀ (l:List β) (s s':α),l.foldlM f s=.ok s'->∃ S:Nat->α,S 0=s/\S l.length=s'/\∀ (p:Nat) (j:β),l[p]? = some j->f (S p) j=.ok (S (p+1))
 | [],s,s',h=>by
  simp only[List.foldlM_nil] at h;cases h;exact⟨λ _=>s,rfl,rfl,λ p j h=>by simp at h⟩
 | x :: l,s,s',h=>by
  simp only[List.foldlM_cons] at h;obtain⟨s1,B,D⟩:=bE h;obtain⟨S,e1,e2,e3⟩:=Ad l s1 s' D;refine⟨λ p=>match p with | 0=>s | p+1=>S p,rfl,e2,λ p j U=>?_⟩;cases p with
  | zero=>simp at U; subst U; rw[B]; exact congrArg Except.ok e1.symm
  | succ p=>exact e3 p j (by simpa using U)
theorem H9 {n:Nat} (ih:∀ {v u:Value},yJ n v u=true->u=v):∀ (l m:List Value),l.length=m.length->((l.zip m).all λ(p:Value×Value)=>yJ n p.1 p.2)=true->m=l
 | [],[],_,_=>rfl
 | [],_ :: _,h,_=>by simp at h
 | _ :: _,[],h,_=>by simp at h
 | a :: l,b :: m,h,hz=>by
  simp only[List.zip_cons_cons,List.all_cons,Bool.and_eq_true] at hz;rw[ih hz.1,H9 ih l m (by simpa using h) hz.2]
theorem P8 {p q:Fn} (h:SU p q=true):q=p:=by
 cases p <;> cases q <;> simp[SU] at h;rw[h]
theorem TL:∀ (n:Nat) {v u:Value},yJ n v u=true->u=v:=by
 intro n
 induction n with
 | zero=>
  intro v u h;cases v <;> cases u <;> simp[yJ] at h
  all_goals first
   | rfl
   | (simp[h]; done)
   | (rename_i a b; have e:b=a:=(by cases a; cases b; congr 1; simpa using h.symm); rw[e]; done)
 | succ n ih=>
  intro v u h;have arr:∀ (a b:Array Value),a.size=b.size->((a.toList.zip b.toList).all λ(x,y)=>yJ n x y)=true->b=a:=λ a b B D=>Array.ext' (H9 ih a.toList b.toList (by simpa using B) D);cases v <;> cases u <;> simp only[yJ] at h <;> first | (cases h; done) | skip
  all_goals first
   | rfl
   | (simp at h; simp[h]; done)
   | (rename_i a b; simp at h; have e:b=a:=(by cases a; cases b; congr 1; simpa using h.symm); rw[e]; done)
   | (rename_i a b; simp only[Bool.and_eq_true,beq_iff_eq] at h; rw[arr a b h.1 h.2]; done)
   | (simp only[Bool.and_eq_true,beq_iff_eq] at h; rw[h.1,ih h.2]; done)
   | (simp only[Bool.and_eq_true,beq_iff_eq] at h; rw[P8 h.1,arr _ _ h.2.1.1 h.2.1.2,arr _ _ h.2.2.1 h.2.2.2]; done)
end
end Go.cy
