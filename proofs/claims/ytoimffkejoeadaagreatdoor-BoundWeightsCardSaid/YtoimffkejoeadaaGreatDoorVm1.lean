/- A machine of our own: runs the loaded functions in the order of their text over a memory of its own, and refuses whatever could turn out otherwise on the real machine. Definitions (written so that the kernel runs them fast: what a step leaves is always forced; recursors where a match would do). -/
import Derived.Orders
import Derived.Below
import Derived.KernelRfl
namespace Go.Proofs.YtoimffkejoeadaaGreatDoor.Vm
open Go
set_option linter.unusedVariables false
set_option linter.constructorNameAsVariable false
noncomputable section

/-! ### Forcing: each of these answers 'k x' -/
section
variable {α : Type}
def fN (n : Nat) (k : Nat → α) : α := Nat.rec (motive := fun _ => α) (k 0) (fun m _ => k (Nat.succ m)) n
def fI (n : Int) (k : Int → α) : α := Int.rec (motive := fun _ => α) (fun m => fN m (fun m => k (.ofNat m))) (fun m => fN m (fun m => k (.negSucc m))) n
def fB (b : Bool) (k : Bool → α) : α := Bool.rec (motive := fun _ => α) (k false) (k true) b
def fA (a : Addr) (k : Addr → α) : α :=
  Addr.rec (motive := fun _ => α) (fun b o s => Option.rec (motive := fun _ => α) (k ⟨b, o, none⟩) (fun n => fN b fun b => fN o fun o => fN n fun n => k ⟨b, o, some n⟩) s) a
/-- A value as it is taken apart (so that the kernel's cases hold nothing of what follows). -/
inductive Vw where
  | int (k : IntKind) (n : Int) | bool (b : Bool) | ptr (a : Addr) | slc (a : Addr) (n c : Nat) | flt (k : FloatKind) (b : Nat) | agg (l : List Value) | tup (l : List Value) | ifc (t : TypeId) (v : Value) | oth
def view (v : Value) : Vw := match v with
  | .int kd n => .int kd n
  | .bool b => .bool b
  | .pointer (some a) => .ptr a
  | .slice (some a) n c => .slc a n c
  | .float kd b => .flt kd b
  | .agg ⟨l⟩ => .agg l
  | .tuple ⟨l⟩ => .tup l
  | .iface t v => .ifc t v
  | _ => .oth
def f0 (v : Value) (k : Value → α) : α := Vw.rec (motive := fun _ => α)
  (fun kd n => fI n (fun n => k (.int kd n)))
  (fun b => fB b (fun b => k (.bool b)))
  (fun a => fA a fun a => k (.pointer (some a)))
  (fun a n c => fA a fun a => fN n fun n => fN c fun c => k (.slice (some a) n c))
  (fun kd b => fN b fun b => k (.float kd b))
  (fun _ => k v) (fun _ => k v) (fun _ _ => k v) (k v) (view v)
def fL (l : List Value) : (List Value → α) → α :=
  List.rec (motive := fun _ => (List Value → α) → α) (fun k => k []) (fun h _ ih k => f0 h fun h => ih fun t => k (h :: t)) l
def fV (v : Value) (k : Value → α) : α := Vw.rec (motive := fun _ => α)
  (fun kd n => fI n (fun n => k (.int kd n)))
  (fun b => fB b (fun b => k (.bool b)))
  (fun a => fA a fun a => k (.pointer (some a)))
  (fun a n c => fA a fun a => fN n fun n => fN c fun c => k (.slice (some a) n c))
  (fun kd b => fN b fun b => k (.float kd b))
  (fun l => fL l fun l => k (.agg ⟨l⟩))
  (fun l => fL l fun l => k (.tuple ⟨l⟩))
  (fun t v => f0 v fun v => k (.iface t v))
  (k v) (view v)
end
def vI (v : Value) : Option Int := match v with | .int .i64 n => some n | _ => none
def vN (v : Value) : Option Nat := match v with | .int _ (.ofNat n) => some n | _ => none
def vN64 (v : Value) : Option Nat := match v with | .int .i64 (.ofNat n) => some n | _ => none
def vB (v : Value) : Option Bool := match v with | .bool b => some b | _ => none
def vP (v : Value) : Option Addr := match v with | .pointer (some a) => some a | _ => none
inductive Sl where
  | sl (a : Option Addr) (n c : Nat) | no
def vS (v : Value) : Sl := match v with | .slice a n c => .sl a n c | _ => .no
def vT (v : Value) : Option (List Value) := match v with | .tuple ⟨l⟩ => some l | _ => none
def vG (v : Value) : Option (Array Value) := match v with | .agg a => some a | _ => none
inductive Ifc where
  | ifc (t : TypeId) (v : Value) | no
def vF (v : Value) : Ifc := match v with | .iface t v => .ifc t v | _ => .no

/-! ### Tables by numbers, digit by digit (four digits a place) -/
inductive D4 where
  | a | b | c | d
structure Q (α : Type) where
  a : α
  b : α
  c : α
  d : α
def dg (n : Nat) : D4 := bif Nat.beq n 0 then .a else bif Nat.beq n 1 then .b else bif Nat.beq n 2 then .c else .d
def q1 {α : Type} (d : D4) : Q α → α := D4.rec (motive := fun _ => Q α → α) (fun q => q.a) (fun q => q.b) (fun q => q.c) (fun q => q.d) d
def s1 {α γ : Type} (d : D4) (ih : α → (α → γ) → γ) : Q α → (Q α → γ) → γ :=
  D4.rec (motive := fun _ => Q α → (Q α → γ) → γ)
    (fun q k => Q.rec (motive := fun _ => γ) (fun x y z w => ih x fun x => k ⟨x, y, z, w⟩) q)
    (fun q k => Q.rec (motive := fun _ => γ) (fun x y z w => ih y fun y => k ⟨x, y, z, w⟩) q)
    (fun q k => Q.rec (motive := fun _ => γ) (fun x y z w => ih z fun z => k ⟨x, y, z, w⟩) q)
    (fun q k => Q.rec (motive := fun _ => γ) (fun x y z w => ih w fun w => k ⟨x, y, z, w⟩) q) d
def four {α : Type} (x : α) : Q α := ⟨x, x, x, x⟩

/-- A frame: 256 slots. -/
abbrev Fr := Q (Q (Q (Q Value)))
def getF (t : Tmp) : Fr → Value :=
  let d3 := dg (t / 64 % 4); let d2 := dg (t / 16 % 4); let d1 := dg (t / 4 % 4); let d0 := dg (t % 4)
  fun f => q1 d0 (q1 d1 (q1 d2 (q1 d3 f)))
def setF {γ : Type} (t : Tmp) (v : Value) : Fr → (Fr → γ) → γ :=
  s1 (dg (t / 64 % 4)) (s1 (dg (t / 16 % 4)) (s1 (dg (t / 4 % 4)) (s1 (dg (t % 4)) (fun _ k => k v))))
def fr0 : Fr := four (four (four (four undef)))

/-! ### Memory: 4096 blocks in a table, the others by a function -/
structure PB where
  cells : List Value
  elem : TypeId
  stride : Nat
abbrev Ht := Q (Q (Q (Q (Q (Q (Option PB))))))
structure Hp where
  t : Ht
  more : Nat → Option PB
def getT (t : Nat) : Ht → Option PB :=
  let d5 := dg (t / 1024 % 4); let d4 := dg (t / 256 % 4); let d3 := dg (t / 64 % 4); let d2 := dg (t / 16 % 4); let d1 := dg (t / 4 % 4); let d0 := dg (t % 4)
  fun f => q1 d0 (q1 d1 (q1 d2 (q1 d3 (q1 d4 (q1 d5 f)))))
def getH (t : Nat) (h : Hp) : Option PB := Hp.rec (motive := fun _ => Option PB) (fun q m => bif Nat.blt t 4096 then getT t q else m t) h
def setT {γ : Type} (t : Nat) (v : Option PB) : Ht → (Ht → γ) → γ :=
  s1 (dg (t / 1024 % 4)) (s1 (dg (t / 256 % 4)) (s1 (dg (t / 64 % 4)) (s1 (dg (t / 16 % 4)) (s1 (dg (t / 4 % 4)) (s1 (dg (t % 4)) (fun _ k => k v))))))
def setH {γ : Type} (t : Nat) (v : Option PB) (h : Hp) (k : Hp → γ) : γ :=
  Hp.rec (motive := fun _ => γ) (fun q m => bif Nat.blt t 4096 then setT t v q fun q => k ⟨q, m⟩ else k ⟨q, fun c => bif Nat.beq c t then v else m c⟩) h
def hp0 : Hp := ⟨four (four (four (four (four (four none))))), fun _ => none⟩

structure PS where
  heap : Hp
  next : Nat
  rd : Nat
  wr : Nat

def bit (b : Nat) : Nat := Nat.shiftLeft 1 b
section
variable {γ : Type} (no : γ)
def PS.touch (s : PS) (b : Nat) (k : PS → γ) : γ := PS.rec (motive := fun _ => γ) (fun h n r w => fN (Nat.lor r (bit b)) fun r => k ⟨h, n, r, w⟩) s
def PS.write (s : PS) (b : Nat) (c : List Value) (pb : PB) (k : PS → γ) : γ :=
  PS.rec (motive := fun _ => γ) (fun h n r w => setH b (some ⟨c, pb.elem, pb.stride⟩) h fun h => fN (Nat.lor w (bit b)) fun w => k ⟨h, n, r, w⟩) s
def PS.kill (s : PS) (b : Nat) (k : PS → γ) : γ :=
  PS.rec (motive := fun _ => γ) (fun h n r w => setH b none h fun h => fN (Nat.lor w (bit b)) fun w => k ⟨h, n, r, w⟩) s
def PS.new (s : PS) (c : List Value) (elem stride : Nat) (k : PS → γ) : γ :=
  PS.rec (motive := fun _ => γ) (fun h n r w => setH n (some ⟨c, elem, stride⟩) h fun h => fN (Nat.lor w (bit n)) fun w => fN (n + 1) fun n => k ⟨h, n, r, w⟩) s
end

/-- An address of a block of our own bears the mark 'some 0'. -/
def here (b o : Nat) : Addr := ⟨b, o, some 0⟩
def padd (a : Addr) (n : Nat) : Addr := Addr.rec (motive := fun _ => Addr) (fun b o s => Option.rec (motive := fun _ => Addr) (Addr.add ⟨b, o, none⟩ n) (fun _ => ⟨b, o + n, some 0⟩) s) a

/-- What is the same on both machines, whatever the memory. -/
def atom : Value → Bool
  | .bool _ | .int _ _ | .float _ _ | .complex _ _ _ | .string _ | .nilFunc | .nilIface => true
  | .pointer none => true
  | .pointer (some a) => a.spot.isNone
  | .slice none _ _ => true
  | .slice (some a) _ _ => a.spot.isNone
  | .map none | .chan none => true
  | _ => false
def atoms (l : List Value) : Bool := List.rec (motive := fun _ => Bool) true (fun h _ ih => bif atom h then ih else false) l
def plain : Value → Bool
  | .agg cs => atoms cs.toList
  | .iface _ (.agg cs) => atoms cs.toList
  | .iface _ v => atom v
  | v => atom v
def one : Value → Bool
  | .agg _ | .tuple _ => false
  | _ => true
def ones (l : List Value) : Bool := List.rec (motive := fun _ => Bool) true (fun h _ ih => bif one h then ih else false) l
def len (l : List Value) : Nat := List.rec (motive := fun _ => Nat) 0 (fun _ _ ih => Nat.succ ih) l
def cat (l m : List Value) : List Value := List.rec (motive := fun _ => List Value) m (fun h _ ih => h :: ih) l
def catK {γ : Type} (l m : List Value) : (List Value → γ) → γ := List.rec (motive := fun _ => (List Value → γ) → γ) (fun k => k m) (fun h _ ih k => ih fun t => k (h :: t)) l
def nth (l : List Value) : Nat → Option Value :=
  List.rec (motive := fun _ => Nat → Option Value) (fun _ => none) (fun h _ ih n => Nat.rec (motive := fun _ => Option Value) (some h) (fun m _ => ih m) n) l
/-- So many from a place on. -/
def cut (l : List Value) : Nat → Nat → Option (List Value) :=
  List.rec (motive := fun _ => Nat → Nat → Option (List Value))
    (fun _ n => Nat.rec (motive := fun _ => Option (List Value)) (some []) (fun _ _ => none) n)
    (fun h _ ih o n => Nat.rec (motive := fun _ => Option (List Value))
      (Nat.rec (motive := fun _ => Option (List Value)) (some []) (fun m _ => Option.rec (motive := fun _ => Option (List Value)) none (fun t => some (h :: t)) (ih 0 m)) n)
      (fun o _ => ih o n) o) l
/-- From a place on, others in their place. -/
def splice (l : List Value) : Nat → List Value → Option (List Value) :=
  List.rec (motive := fun _ => Nat → List Value → Option (List Value))
    (fun o c => Nat.rec (motive := fun _ => Option (List Value)) (List.rec (motive := fun _ => Option (List Value)) (some []) (fun _ _ _ => none) c) (fun _ _ => none) o)
    (fun h t ih o c => Nat.rec (motive := fun _ => Option (List Value))
      (List.rec (motive := fun _ => Option (List Value)) (some (h :: t)) (fun x c _ => Option.rec (motive := fun _ => Option (List Value)) none (fun t => some (x :: t)) (ih 0 c)) c)
      (fun o _ => Option.rec (motive := fun _ => Option (List Value)) none (fun t => some (h :: t)) (ih o c)) o) l

/-- What a computation answers that looks at nothing but the program. -/
def calm {α : Type} (P : Program) : Sem α → Option α
  | .pure a => some a
  | .program k => calm P (k P)
  | .mark _ k => calm P k
  | _ => none

def opd (x : Operand) : Fr → Value :=
  match x with
  | .tmp t => fun fr => getF t fr
  | .const v => fun _ => v
  | .global g => fun _ => .pointer (some ⟨g, 0, none⟩)
  | .func f => fun _ => .func (.func f) #[] #[]

/-- What comes of a step, of a call, of code. -/
inductive OR where
  | no
  | ok (fr : Fr) (s : PS)
inductive CR where
  | no
  | ok (v : Value) (s : PS)
inductive XR where
  | no
  | normal (fr : Fr) (s : PS)
  | exit (id : Nat) (fr : Fr) (s : PS)
  | ret (fr : Fr) (s : PS)

def onO {α γ : Type} (no : γ) (x : Option α) (k : α → γ) : γ := Option.rec (motive := fun _ => γ) no k x

section ops
variable {γ : Type} (no : γ) (P : Program) (E : Addr → Option Value)

def strideOf (t : TypeId) : Nat := match P.underlying t with | some (.array _ e) => P.cellsOf e | _ => P.cellsOf t
def isAg (t : TypeId) : Option Bool := match P.underlying t with | some (.struct _) | some (.array _ _) => some true | some _ => some false | none => none

def extCells (a : Addr) (n : Nat) : Nat → Option (List Value) :=
  Nat.rec (motive := fun _ => Nat → Option (List Value)) (fun _ => some [])
    (fun _ ih i => match E (a.add i) with
      | some v => match ih (i + 1) with
        | some l => some (v :: l)
        | none => none
      | none => none) n

def pCells (s : PS) (a : Addr) (n : Nat) (k : List Value → PS → γ) : γ :=
  Addr.rec (motive := fun _ => γ) (fun b o sp => Option.rec (motive := fun _ => γ)
    (onO no (extCells E ⟨b, o, none⟩ n 0) fun l => k l s)
    (fun _ => Option.rec (motive := fun _ => γ) no (fun pb => Option.rec (motive := fun _ => γ) no (fun l => s.touch b fun s => k l s) (cut pb.cells o n)) (getH b s.heap)) sp) a

/-- One cell. -/
def pCell (s : PS) (a : Addr) (k : Value → PS → γ) : γ :=
  Addr.rec (motive := fun _ => γ) (fun b o sp => Option.rec (motive := fun _ => γ)
    (onO no (E (Addr.add ⟨b, o, none⟩ 0)) fun v => k v s)
    (fun _ => Option.rec (motive := fun _ => γ) no (fun pb => Option.rec (motive := fun _ => γ) no (fun v => s.touch b fun s => k v s) (nth pb.cells o)) (getH b s.heap)) sp) a

def pLoad (t : TypeId) : PS → Addr → (Value → PS → γ) → γ :=
  match isAg P t with
  | some true => match P.info? t with
    | some i => fun s a k => pCells no E s a i.size fun l s => k (.agg ⟨l⟩) s
    | none => fun _ _ _ => no
  | some false => fun s a k => pCell no E s a k
  | none => fun _ _ _ => no

def pPut (s : PS) (a : Addr) (c : List Value) (k : PS → γ) : γ :=
  Addr.rec (motive := fun _ => γ) (fun b o sp => Option.rec (motive := fun _ => γ) no
    (fun _ => Option.rec (motive := fun _ => γ) no (fun pb => bif ones c then (Option.rec (motive := fun _ => γ) no (fun l => s.write b l pb k) (splice pb.cells o c)) else no) (getH b s.heap)) sp) a

def zeroCells? (t : TypeId) : Option (List Value) :=
  match P.info? t with
  | some i => match i.zero with
    | some z => bif atoms z.cells.toList then some z.cells.toList else none
    | none => none
  | none => none
def rowOf (z : Array Value) (n : Nat) : List Value := ((Array.range n).map (z[· % z.size]!)).toList

def bound (top : Nat) (v : Value) (k : Nat → γ) : γ := onO no (vN v) fun n => bif Nat.ble n top then k n else no
def boundO (top none' : Nat) (x : Option Operand) : Fr → (Nat → γ) → γ :=
  match x with
  | none => fun _ k => k none'
  | some x => fun fr k => bound no top (opd x fr) k

/-- A slice of a slice of our own. -/
def pSlice (fr : Fr) (s : PS) (size : Nat) (b o : Nat) (ln cap : Nat) (lo hi mx : Option Operand) (k : Value → PS → γ) : γ :=
  onO no (getH b s.heap) fun pb =>
    bif Nat.beq pb.stride size && !(mx.isSome && hi.isNone) then
      boundO no cap cap mx fr fun m =>
      boundO no m ln hi fr fun h =>
      boundO no h 0 lo fr fun l =>
      bif Nat.ble h m && Nat.ble l h then s.touch b fun s => f0 (.slice (some (here b (o + l * size))) (h - l) (m - l)) fun v => k v s else no
    else no

/-- The cells of something appended or copied: so many of its elements. -/
def pFirst (s : PS) (size n : Nat) (v : Value) (k : List Value → PS → γ) : γ :=
  match v with
  | .slice (some a) _ _ => pCells no E s a (n * size) k
  | .slice none _ _ => k [] s
  | .string b => fL (((b.extract 0 n).data.map fun b => Value.int .u8 b.toNat).toList) fun l => k l s
  | _ => no
def pLen : Value → Option Nat
  | .slice _ n _ => some n
  | .string b => some b.size
  | _ => none

/-- An append of cells that are known. -/
def pGrow (s : PS) (elem size bytes : Nat) (base : Option Addr) (ln cap n : Nat) (new : List Value) (k : Value → PS → γ) : γ :=
  bif Nat.beq (len new) (n * size) && ones new && !Nat.beq bytes 0 && Nat.ble ((2 * (ln + n) + 1000) * bytes) 281474976710656 && !Nat.beq size 0 then
    fN (ln + n) fun need =>
    match base with
    | none =>
      bif Nat.beq ln 0 && Nat.beq cap 0 then
        bif Nat.beq need 0 then k (.slice none 0 0) s
        else s.new new elem size fun t => k (.slice (some (here s.next 0)) need need) t
      else no
    | some ⟨_, _, none⟩ => no
    | some ⟨b, o, some _⟩ =>
      onO no (getH b s.heap) fun pb =>
        bif Nat.beq pb.stride size && Nat.beq pb.elem elem then
          bif Nat.ble need cap then
            pPut no s (here b (o + ln * size)) new fun s => k (.slice (some (here b o)) need cap) s
          else
            pCells no E s (here b o) (ln * size) fun old s =>
            bif Nat.beq (o + cap * size) (len pb.cells) then
              s.kill b fun s => catK old new fun l => s.new l elem size fun t => k (.slice (some (here s.next 0)) need need) t
            else catK old new fun l => s.new l elem size fun t => k (.slice (some (here s.next 0)) need need) t
        else no
  else no

def pAppend (ts : Array TypeId) (xs : List Operand) : Fr → PS → (Value → PS → γ) → γ :=
  match ts[0]?, ts[1]?, xs with
  | some st, some xt, [s0, x0] =>
    match P.underlying st, P.underlying xt with
    | some (.slice elem), some xd =>
      match P.info? elem with
      | none => fun _ _ _ => no
      | some i =>
        bif (match i.zero with | some z => Nat.beq z.cells.size i.size | none => false) then
          match xd with
          | .int _ => fun _ _ _ => no
          | _ => fun fr s k => match vS (opd s0 fr) with
            | .sl base ln cap => match pLen (opd x0 fr) with
              | some n => pFirst no E s i.size n (opd x0 fr) fun new s => pGrow no E s elem i.size i.bytes base ln cap n new k
              | none => no
            | .no => no
        else fun _ _ _ => no
    | _, _ => fun _ _ _ => no
  | _, _, _ => fun _ _ _ => no

def pCopy (ts : Array TypeId) (xs : List Operand) : Fr → PS → (Value → PS → γ) → γ :=
  match ts[0]?, xs with
  | some dt, [d0, x0] =>
    match P.underlying dt with
    | some (.slice elem) =>
      match P.info? elem with
      | none => fun _ _ _ => no
      | some i => fun fr s k => match vS (opd d0 fr) with
        | .sl base dlen _ => match pLen (opd x0 fr) with
          | some n0 =>
            fN (Nat.min n0 dlen) fun n =>
            pFirst no E s i.size n (opd x0 fr) fun c s =>
            match base with
            | none => k (.int .i64 n) s
            | some a => pPut no s a c fun s => k (.int .i64 n) s
          | none => no
        | .no => no
    | _ => fun _ _ _ => no
  | _, _ => fun _ _ _ => no

structure Meth where
  t : TypeId
  name : String
  f : FuncId
  /-- The receiver's type, where it is read through a pointer. -/
  deref : Option TypeId

variable (mt : List Meth)

def findM (t : TypeId) (name : String) : List Meth → Option Meth
  | [] => none
  | m :: l => bif Nat.beq m.t t && m.name == name then some m else findM t name l

/-- A call: how it is made. -/
abbrev Caller := FuncId → List Value → PS → CR

/-- May it be entered? -/
def enters (g : FuncId) : Bool := match P.funcs[g]? with
  | some fn => fn.body.isSome && !(fn.name == "runtime.NumGoroutine")
  | none => false

def opds (l : List Operand) : Fr → List Value :=
  List.rec (motive := fun _ => Fr → List Value) (fun _ => []) (fun x _ ih fr => opd x fr :: ih fr) l

def go1 (call : Caller) (g : FuncId) (args : List Value) (s : PS) (k : Value → PS → γ) : γ :=
  bif enters P g then CR.rec (motive := fun _ => γ) no k (call g args s) else no

def pInvoke (call : Caller) (name : String) (r : Value) (args : List Value) (s : PS) (k : Value → PS → γ) : γ :=
  match vF r with
  | .ifc t v => onO no (vP v) fun a => onO no (findM t name mt) fun m => match m.deref with
    | none => go1 no P call m.f (.pointer (some a) :: args) s k
    | some e => pLoad no P E e s a fun x s => go1 no P call m.f (x :: args) s k
  | .no => no

/-- Scalars: what the operation answers, if it looks at nothing but the program. -/
def pQuiet (o : Oper) (fr : Fr) (s : PS) (k : Value → PS → γ) : γ :=
  bif o.op.operands.toList.all (fun x => plain (opd x fr)) then
    match calm P (execOp (fun x => opd x fr) o) with
    | some (.value v) => bif plain v then fV v fun v => k v s else no
    | _ => no
  else no

def wr64 (n : Int) : Int := Int.rec (motive := fun _ => Int)
  (fun m => bif Nat.blt m 9223372036854775808 then .ofNat m else IntKind.i64.wrap (.ofNat m))
  (fun m => bif Nat.blt m 9223372036854775808 then .negSucc m else IntKind.i64.wrap (.negSucc m)) n
def iLt (a b : Int) : Bool := match a, b with
  | .ofNat a, .ofNat b => Nat.blt a b
  | .ofNat _, .negSucc _ => false
  | .negSucc _, .ofNat _ => true
  | .negSucc a, .negSucc b => Nat.blt b a
def iEq (a b : Int) : Bool := match a, b with
  | .ofNat a, .ofNat b => Nat.beq a b
  | .negSucc a, .negSucc b => Nat.beq a b
  | _, _ => false
def iAdd (a b : Int) : Int := match a, b with
  | .ofNat a, .ofNat b => .ofNat (a + b)
  | a, b => a + b

/-- Numbers of one kind, fast. -/
def fast (op : BinOp) : Option (Int → Int → Value) :=
  match op with
  | .add => some fun a b => .int .i64 (wr64 (iAdd a b))
  | .sub => some fun a b => .int .i64 (wr64 (a - b))
  | .lss => some fun a b => .bool (iLt a b)
  | .leq => some fun a b => .bool (!iLt b a)
  | .gtr => some fun a b => .bool (iLt b a)
  | .geq => some fun a b => .bool (!iLt a b)
  | .eql => some fun a b => .bool (iEq a b)
  | .neq => some fun a b => .bool (!iEq a b)
  | _ => none

/-- Is it nil? -/
def nilCmp (d : TypeDesc) (x y : Value) : Option Bool :=
  match d, x, y with
  | .pointer _, .pointer (some _), .pointer none | .pointer _, .pointer none, .pointer (some _) => some false
  | .slice _, .slice (some _) _ _, .slice none _ _ | .slice _, .slice none _ _, .slice (some _) _ _ => some false
  | .func _ _ _, .func _ _ _, .nilFunc | .func _ _ _, .nilFunc, .func _ _ _ => some false
  | .interface _, .iface _ _, .nilIface | .interface _, .nilIface, .iface _ _ => some false
  | _, _, _ => none
def pCmp (t : TypeId) (neg : Bool) (x y : Value) (s : PS) (k : Value → PS → γ) : γ :=
  match P.underlying t with
  | some d => match nilCmp d x y with
    | some b => fB (bif neg then !b else b) fun b => k (.bool b) s
    | none => no
  | none => no
def pSlow (o : Oper) (op : BinOp) (t : TypeId) (x y : Operand) (fr : Fr) (s : PS) (k : Value → PS → γ) : γ :=
  match op with
  | .eql => pQuiet (pCmp no P t false (opd x fr) (opd y fr) s k) P o fr s k
  | .neq => pQuiet (pCmp no P t true (opd x fr) (opd y fr) s k) P o fr s k
  | _ => pQuiet no P o fr s k
def pBin (o : Oper) (op : BinOp) (t : TypeId) (x y : Operand) : Fr → PS → (Value → PS → γ) → γ :=
  match fast op with
  | some f => fun fr s k => Option.rec (motive := fun _ => γ) (pSlow no P o op t x y fr s k)
      (fun a => Option.rec (motive := fun _ => γ) (pSlow no P o op t x y fr s k) (fun b => f0 (f a b) fun v => k v s) (vI (opd y fr))) (vI (opd x fr))
  | none => fun fr s k => pSlow no P o op t x y fr s k

def pBuild (t : TypeId) (parts : Array (Nat × Operand)) : Fr → PS → (Value → PS → γ) → γ :=
  match zeroCells? P t with
  | some _ => fun fr s k => match calm P (Instr.build t (parts.map fun (i, x) => (i, opd x fr))) with
    | some x => fV x fun x => k x s
    | none => no
  | none => fun _ _ _ => no
def pBuildSlice (t : TypeId) (n : Nat) (parts : Array (Nat × Operand)) : Fr → PS → (Value → PS → γ) → γ :=
  match P.underlying t with
  | some (.slice e) => match P.info? e, zeroCells? P e with
    | some i, some z => bif Nat.ble (n * i.size) 16777216 && !Nat.beq i.size 0 then
        fun fr s k => match Instr.fill (fun k => some (k * i.size, i.size)) ((Array.range (n * i.size)).map ((⟨z⟩ : Array Value)[· % (⟨z⟩ : Array Value).size]!)) (parts.map fun (k, x) => (k, opd x fr)).toList with
          | some cells => fL cells.toList fun l => s.new l e i.size fun t => k (.slice (some (here s.next 0)) n n) t
          | none => no
      else fun _ _ _ => no
    | _, _ => fun _ _ _ => no
  | _ => fun _ _ _ => no
def pStore (t : TypeId) (a x : Operand) : Fr → PS → (Value → PS → γ) → γ :=
  match P.info? t with
  | some i => fun fr s k => Option.rec (motive := fun _ => γ) no
      (fun a => bif Nat.beq (len (opd x fr).cells.toList) i.size then pPut no s a (opd x fr).cells.toList fun s => k undef s else no) (vP (opd a fr))
  | none => fun _ _ _ => no
def pFieldAddr (t : TypeId) (x : Operand) (f : Nat) : Fr → PS → (Value → PS → γ) → γ :=
  match P.underlying t with
  | some (.struct fs) => match fs[f]? with
    | some fd => match P.info? fd.type with
      | some i => bif Nat.beq i.size 0 then fun _ _ _ => no else
          fun fr s k => Option.rec (motive := fun _ => γ) no (fun a => fA (padd a fd.offset) fun a => k (.pointer (some a)) s) (vP (opd x fr))
      | none => fun _ _ _ => no
    | none => fun _ _ _ => no
  | _ => fun _ _ _ => no
def pField (t : TypeId) (x : Operand) (f : Nat) : Fr → PS → (Value → PS → γ) → γ :=
  match P.underlying t with
  | some (.struct fs) => match fs[f]? with
    | some fd => fun fr s k => onO no (vG (opd x fr)) fun cs => onO no (calm P (part fd.type cs fd.offset)) fun x => fV x fun x => k x s
    | none => fun _ _ _ => no
  | _ => fun _ _ _ => no
def pIndexAddr (t : TypeId) (x ix : Operand) : Fr → PS → (Value → PS → γ) → γ :=
  match P.underlying t with
  | some (.slice e) => match P.info? e with
    | some d => fun fr s k => Option.rec (motive := fun _ => γ) no (fun i => match vS (opd x fr) with
        | .sl (some a) n _ => bif Nat.blt i n then fA (padd a (i * d.size)) fun a => k (.pointer (some a)) s else no
        | _ => no) (vN (opd ix fr))
    | none => fun _ _ _ => no
  | some (.array n e) => match P.info? e with
    | some d => fun fr s k => onO no (vN (opd ix fr)) fun i => onO no (vP (opd x fr)) fun a => bif Nat.blt i n then fA (padd a (i * d.size)) fun a => k (.pointer (some a)) s else no
    | none => fun _ _ _ => no
  | _ => fun _ _ _ => no
def pIndex (o : Oper) (t : TypeId) (x ix : Operand) (fr : Fr) (s : PS) (k : Value → PS → γ) : γ :=
  match vG (opd x fr) with
  | some cs => match P.underlying t with
    | some (.array n e) => match P.info? e with
      | some d => onO no (vN (opd ix fr)) fun i => bif Nat.blt i n then onO no (calm P (part e cs (i * d.size))) fun x => fV x fun x => k x s else no
      | none => no
    | _ => no
  | none => pQuiet no P o fr s k
def pSliceOp (o : Oper) (t : TypeId) (x : Operand) (lo hi mx : Option Operand) : Fr → PS → (Value → PS → γ) → γ :=
  match P.underlying t with
  | some (.slice e) => match P.info? e with
    | some d => fun fr s k => match vS (opd x fr) with
      | .sl (some ⟨b, o', some _⟩) ln cap => pSlice no fr s d.size b o' ln cap lo hi mx k
      | _ => pQuiet no P o fr s k
    | none => fun _ _ _ => no
  | some (.array n e) => match P.info? e with
    | some d => fun fr s k => match vP (opd x fr) with
      | some ⟨b, o', some _⟩ => onO no (getH b s.heap) fun pb => bif Nat.ble (o' + n * d.size) (len pb.cells) then pSlice no fr s d.size b o' n n lo hi mx k else no
      | _ => no
    | none => fun _ _ _ => no
  | _ => pQuiet no P o
def pMake (t : TypeId) (l c : Operand) : Fr → PS → (Value → PS → γ) → γ :=
  match P.underlying t with
  | some (.slice e) => match P.info? e, zeroCells? P e with
    | some i, some z => bif Nat.beq i.size 0 then fun _ _ _ => no else
        fun fr s k => onO no (vN64 (opd l fr)) fun n => onO no (vN64 (opd c fr)) fun m =>
          bif Nat.ble n m && Nat.ble m 1000000000 && Nat.ble (i.bytes * m) 281474976710656 then
            fL (rowOf ⟨z⟩ (m * i.size)) fun l => s.new l e i.size fun t => k (.slice (some (here s.next 0)) n m) t
          else no
    | _, _ => fun _ _ _ => no
  | _ => fun _ _ _ => no
def pAssert (x : Operand) (asserted : TypeId) (ok : Bool) : Fr → PS → (Value → PS → γ) → γ :=
  match P.underlying asserted with
  | some (.interface _) | none => fun _ _ _ => no
  | some _ => fun fr s k => match vF (opd x fr) with
    | .ifc t y => bif Nat.beq t asserted then fV (bif ok then .tuple #[y, .bool true] else y) (fun v => k v s) else
        bif ok then (match P.info? asserted with
          | some i => match i.zero with
            | some z => bif plain z then fV (.tuple #[z, .bool false]) (fun v => k v s) else no
            | none => no
          | none => no)
        else no
    | .no => no

def quietly (f : Fr → PS → (Value → PS → γ) → γ) : Caller → Fr → PS → (Value → PS → γ) → γ := fun _ => f
def pCallOp (o : Oper) (c : Call) : Caller → Fr → PS → (Value → PS → γ) → γ :=
  match c.callee with
  | .value (.func g) => bif enters P g then fun call fr s k => CR.rec (motive := fun _ => γ) no k (call g (opds c.args.toList fr) s) else fun _ => pQuiet no P o
  | .value f => fun call fr s k => match opd f fr with
    | .func (.func g) first cap => go1 no P call g (cat (cat first.toList (opds c.args.toList fr)) cap.toList) s k
    | _ => no
  | .invoke r name => fun call fr s k => pInvoke no P E mt call name (opd r fr) (opds c.args.toList fr) s k
  | .builtin b => quietly <| match b with
    | .len => match (c.argTypes[0]?).bind P.underlying, c.args.toList with
      | some (.slice _), [x] => fun fr s k => match vS (opd x fr) with
        | .sl _ n _ => f0 (.int .i64 (.ofNat n)) fun v => k v s
        | .no => no
      | _, _ => pQuiet no P o
    | .cap => match (c.argTypes[0]?).bind P.underlying, c.args.toList with
      | some (.slice _), [x] => fun fr s k => match vS (opd x fr) with
        | .sl none _ n => k (.int .i64 (.ofNat n)) s
        | _ => no
      | _, _ => pQuiet no P o
    | .append => pAppend no P E c.argTypes c.args.toList
    | .copy => pCopy no P E c.argTypes c.args.toList
    | _ => pQuiet no P o

/-- What an operation that is no call answers, and leaves. -/
def pop1 (o : Oper) : Fr → PS → (Value → PS → γ) → γ :=
  match o.op with
  | .move x | .assign x => fun fr s k => k (opd x fr) s
  | .pick c a b => fun fr s k => Option.rec (motive := fun _ => γ) no (fun x => Bool.rec (motive := fun _ => γ) (k (opd b fr) s) (k (opd a fr) s) x) (vB (opd c fr))
  | .alloc t => match zeroCells? P t with
    | some z => fun _ s k => s.new z t (strideOf P t) fun t => k (.pointer (some (here s.next 0))) t
    | none => fun _ _ _ => no
  | .box t x => fun fr s k => s.new (opd x fr).cells.toList t (strideOf P t) fun t => k (.pointer (some (here s.next 0))) t
  | .build t parts => pBuild no P t parts
  | .buildSlice t n parts => pBuildSlice no P t n parts
  | .load t a => fun fr s k => Option.rec (motive := fun _ => γ) no (fun a => pLoad no P E t s a k) (vP (opd a fr))
  | .store t a x => pStore no P t a x
  | .nilCheck x => fun fr s k => Option.rec (motive := fun _ => γ) (pQuiet no P o fr s k) (fun a => k (.pointer (some a)) s) (vP (opd x fr))
  | .fieldAddr t x f => pFieldAddr no P t x f
  | .field t x f => pField no P t x f
  | .indexAddr t x ix => pIndexAddr no P t x ix
  | .index t x ix => pIndex no P o t x ix
  | .slice t x lo hi mx => pSliceOp no P o t x lo hi mx
  | .makeSlice t l c => pMake no P t l c
  | .makeInterface t x => match P.underlying t with
    | some (.interface _) | none => fun _ _ _ => no
    | some _ => fun fr s k => fV (.iface t (opd x fr)) fun v => k v s
  | .makeFunc fn first cap => fun fr s k => k (.func fn ⟨opds first.toList fr⟩ ⟨opds cap.toList fr⟩) s
  | .typeAssert x _ asserted ok => pAssert no P x asserted ok
  | .extract t ix => fun fr s k => onO no (vT (opd t fr)) fun vs => onO no (nth vs ix) fun x => k x s
  | .binOp op t x y _ => pBin no P o op t x y
  | .select _ _ => fun _ _ _ => no
  | .unOp .not _ x => fun fr s k => Option.rec (motive := fun _ => γ) no (fun b => Bool.rec (motive := fun _ => γ) (k (.bool true) s) (k (.bool false) s) b) (vB (opd x fr))
  | _ => pQuiet no P o
/-- What an operation answers, and leaves. -/
def pop (o : Oper) : Caller → Fr → PS → (Value → PS → γ) → γ :=
  match o.op with
  | .call c => pCallOp no P E mt o c
  | _ => quietly (pop1 no P E o)
end ops

/-! ### Code -/
def constOk : Operand → Bool
  | .const v => plain v
  | _ => true

def putK {γ : Type} (d : Option Tmp) : Fr → Value → (Fr → γ) → γ :=
  match d with
  | some d => fun fr v k => setF d v fr k
  | none => fun fr _ k => k fr

section
variable (P : Program) (E : Addr → Option Value) (mt : List Meth)
/-- One operation that is wanted, with the call that it makes. -/
def opGo (o : Oper) : Caller → Fr → PS → OR :=
  fun call fr s => pop OR.no P E mt o call fr s fun v s => putK o.dst fr v fun fr => .ok fr s
def opSkip (o : Oper) : Fr → PS → OR := fun fr s => putK o.dst fr undef fun fr => .ok fr s
/-- One operation, by its guard. -/
def opStep (ops : Array Oper) (o : Oper) : Caller → Fr → PS → OR :=
  bif o.op.operands.toList.all constOk then
    (match o.guard with
    | none => opGo P E mt o
    | some (j, true) => (match (ops[j]?).bind (·.dst) with
      | some d => fun call fr s => Option.rec (motive := fun _ => OR) (opSkip o fr s) (fun x => Bool.rec (motive := fun _ => OR) (opSkip o fr s) (opGo P E mt o call fr s) x) (vB (getF d fr))
      | none => fun _ _ _ => .no)
    | some (j, false) => match (ops[j]?).bind (·.dst) with
      | some d => fun call fr s => Option.rec (motive := fun _ => OR) (opSkip o fr s) (fun x => Bool.rec (motive := fun _ => OR) (opGo P E mt o call fr s) (opSkip o fr s) x) (vB (getF d fr))
      | none => fun _ _ _ => .no)
  else fun _ _ _ => .no

def opsText (ops : Array Oper) (l : List Oper) : Caller → Fr → PS → OR :=
  List.rec (motive := fun _ => Caller → Fr → PS → OR) (fun _ fr s => .ok fr s)
    (fun o _ ih call fr s => OR.rec (motive := fun _ => OR) .no (ih call) (opStep P E mt ops o call fr s)) l

/-- Of operations of a region: which must be ahead of each. -/
def aheadOf (acc : List Nat) (o : Oper) : Nat :=
  o.after.toList.foldl (fun m e => bif Region.binds .any e then Nat.lor m (Nat.lor (bit e.on) (acc.getD e.on 0)) else m) 0
def aheads : List Oper → List Nat → List Nat
  | [], acc => acc
  | o :: l, acc => aheads l (acc ++ [aheadOf acc o])

/-- Pairs that may come either way round share no slot. -/
def apartGo (ops : Array Oper) : Nat → List (Oper × Nat) → List (Nat × Oper) → Bool
  | _, [], _ => true
  | j, (o, bm) :: rest, done => done.all (fun (i, x) => Nat.testBit bm i || Oper.apart ops x o) && apartGo ops (j + 1) rest ((j, o) :: done)
def apartOk (ops : Array Oper) (bms : List Nat) : Bool :=
  apartGo ops 0 (ops.toList.zip bms) [] && ops.toList.zipIdx.all (fun (o, j) => o.after.toList.all fun e => !Region.binds .any e || Nat.blt e.on j)

structure Rec where
  i : Nat
  rd : Nat
  wr : Nat

def clash (bm rd wr : Nat) (r : Rec) : Bool :=
  !(Nat.testBit bm r.i) && !(Nat.beq (Nat.land wr (Nat.lor r.rd r.wr)) 0 && Nat.beq (Nat.land r.wr (Nat.lor rd wr)) 0)
def clashes (bm rd wr : Nat) (l : List Rec) : Bool :=
  List.rec (motive := fun _ => Bool) false (fun r _ ih => bif clash bm rd wr r then true else ih) l

def opsDraw (ops : Array Oper) (l : List (Oper × Nat)) : Nat → List Rec → Caller → Fr → PS → OR :=
  List.rec (motive := fun _ => Nat → List Rec → Caller → Fr → PS → OR) (fun _ _ _ fr s => .ok fr s)
    (fun x _ ih j done call fr s => OR.rec (motive := fun _ => OR) .no
      (fun fr t =>
        bif Nat.beq t.rd 0 && Nat.beq t.wr 0 then ih (j + 1) done call fr ⟨t.heap, t.next, s.rd, s.wr⟩
        else bif clashes x.2 t.rd t.wr done then .no
        else fN (Nat.lor s.rd t.rd) fun rd => fN (Nat.lor s.wr t.wr) fun wr => ih (j + 1) (⟨j, t.rd, t.wr⟩ :: done) call fr ⟨t.heap, t.next, rd, wr⟩)
      (opStep P E mt ops x.1 call fr ⟨s.heap, s.next, 0, 0⟩)) l

/-- A function's results, as one value. -/
def resultOf {γ : Type} (no : γ) (r : ResultVar) : Fr → PS → (Value → PS → γ) → γ :=
  match r with
  | .tmp t => fun fr s k => k (getF t fr) s
  | .cell a t => fun fr s k => onO no (vP (getF a fr)) fun a => pLoad no P E t s a k
def resultsOf (l : List ResultVar) : Fr → PS → List Value → CR :=
  List.rec (motive := fun _ => Fr → PS → List Value → CR) (fun _ s acc => .ok (.tuple ⟨acc⟩) s)
    (fun r _ ih fr s acc => resultOf P E CR.no r fr s fun v s => catK acc [v] fun acc => ih fr s acc) l
def results1 (l : List ResultVar) : Fr → PS → CR :=
  match l with
  | [r] => fun fr s => resultOf P E CR.no r fr s fun v s => f0 v fun v => .ok v s
  | l => fun fr s => resultsOf P E l fr s []

variable (orc : FuncId → List Value → Option Value)

def frameOf {γ : Type} (args : List Value) : Nat → Fr → (Fr → γ) → γ :=
  List.rec (motive := fun _ => Nat → Fr → (Fr → γ) → γ) (fun _ fr k => k fr)
    (fun v _ ih n fr k => f0 v fun v => setF n v fr fun fr => ih (n + 1) fr k) args

/-- Every slot that code looks at or fills lies in the frame. -/
def slotOk (n : Nat) : Operand → Bool
  | .tmp t => Nat.blt t n
  | _ => true
def operOk (n : Nat) (o : Oper) : Bool := o.op.operands.toList.all (slotOk n) && (match o.dst with | some d => Nat.blt d n | none => true)
def slotsOk (n : Nat) : Code → Bool
  | .region _ ops _ => ops.toList.all (operOk n)
  | .seq a b => slotsOk n a && slotsOk n b
  | .cond c a b => slotOk n c && constOk c && slotsOk n a && slotsOk n b
  | .loop b => slotsOk n b
  | .block _ b => slotsOk n b
  | .skip | .exit _ | .ret => true
  | _ => false
def resultOk (n : Nat) : ResultVar → Bool
  | .tmp t => Nat.blt t n
  | .cell a _ => Nat.blt a n

/-- A function's body, ready to be run. -/
def bodyOf (f : FuncId) : (Code → Fr → PS → XR) → List Value → PS → CR :=
  match P.funcs[f]? with
  | none => fun _ _ _ => .no
  | some fn => match fn.body with
    | none => fun _ _ _ => .no
    | some c => bif Nat.ble fn.ntmps 256 && slotsOk fn.ntmps c && fn.results.toList.all (resultOk fn.ntmps) then
        fun ih args s => bif Nat.ble (len args) fn.ntmps then frameOf args 0 fr0 fun fr =>
          XR.rec (motive := fun _ => CR) .no (fun fr s => results1 P E fn.results.toList fr s) (fun _ _ _ => .no) (fun fr s => results1 P E fn.results.toList fr s) (ih c fr s) else .no
      else fun _ _ _ => .no
def callBy (ih : Code → Fr → PS → XR) : Caller := fun f args s => Option.rec (motive := fun _ => CR) (bodyOf P E f ih args s) (fun v => .ok v s) (orc f args)

/-- A step of code, given how its parts are run. -/
def exec1 (c : Code) : (Code → Fr → PS → XR) → Fr → PS → XR :=
  match c with
  | .skip => fun _ fr s => .normal fr s
  | .seq a b => fun ih fr s => XR.rec (motive := fun _ => XR) .no (ih b) (fun id fr s => .exit id fr s) (fun fr s => .ret fr s) (ih a fr s)
  | .cond x a b => fun ih fr s => Option.rec (motive := fun _ => XR) .no (fun t => Bool.rec (motive := fun _ => XR) (ih b fr s) (ih a fr s) t) (vB (opd x fr))
  | .block id b => fun ih fr s => XR.rec (motive := fun _ => XR) .no (fun fr s => .normal fr s) (fun k fr s => bif Nat.beq k id then .normal fr s else .exit k fr s) (fun fr s => .ret fr s) (ih b fr s)
  | .loop b => fun ih fr s => XR.rec (motive := fun _ => XR) .no (ih (.loop b)) (fun id fr s => .exit id fr s) (fun fr s => .ret fr s) (ih b fr s)
  | .exit id => fun _ fr s => .exit id fr s
  | .ret => fun _ fr s => .ret fr s
  | .region _ ops false => fun ih fr s => OR.rec (motive := fun _ => XR) .no (fun fr s => .normal fr s) (opsText P E mt ops ops.toList (callBy P E orc ih) fr s)
  | .region _ ops true => bif apartOk ops (aheads ops.toList []) then
      fun ih fr s => OR.rec (motive := fun _ => XR) .no (fun fr s => .normal fr s) (opsDraw P E mt ops (ops.toList.zip (aheads ops.toList [])) 0 [] (callBy P E orc ih) fr s)
     else fun _ _ _ => .no
  | _ => fun _ _ _ => .no

def exec (n : Nat) : Code → Fr → PS → XR :=
  Nat.rec (motive := fun _ => Code → Fr → PS → XR) (fun _ _ _ => .no) (fun _ ih c => exec1 P E mt orc c ih) n

def runCall (n : Nat) : Caller := callBy P E orc (exec P E mt orc n)
end

def start : PS := ⟨hp0, 0, 0, 0⟩

end
end Go.Proofs.YtoimffkejoeadaaGreatDoor.Vm
