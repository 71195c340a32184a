/- A logic over the machine of our own: what must hold so that code comes to an end of which something holds. Definitions. -/
import Derived.Test.YtoimffkejoeadaaGreatDoorW1
namespace Go.Proofs.YtoimffkejoeadaaGreatDoor.Vm
open Go
set_option linter.unusedVariables false
noncomputable section

/-- Memory as it is looked at here: blocks, how many, which were written. -/
structure WS where
  h : Nat → Option PB
  n : Nat
  w : Nat → Prop
def addW (w : Nat → Prop) (b : Nat) : Nat → Prop := fun c => w c ∨ c = b
structure St (ws : WS) (s : PS) : Prop where
  h : hv s.heap = ws.h
  n : s.next = ws.n
  w : ∀ b, inM s.wr b → ws.w b
abbrev KV := Value → WS → Prop
/-- The same, as if nothing had been written; both, one behind the other. -/
def WS.z (s : WS) : WS := ⟨s.h, s.n, fun _ => False⟩
def WS.j (s t : WS) : WS := ⟨t.h, t.n, fun b => s.w b ∨ t.w b⟩

/-- Frames: what slots hold. -/
abbrev WF := List (Nat × Value)
def wget (t : Nat) : WF → Value
  | [] => undef
  | (u, v) :: l => bif Nat.beq u t then v else wget t l
def wput (d : Option Tmp) (v : Value) (f : WF) : WF := match d with | some d => (d, v) :: f | none => f
def mask (L : List Nat) (f : WF) : WF := L.map fun t => (t, wget t f)
def wopd (x : Operand) (f : WF) : Value :=
  match x with
  | .tmp t => wget t f
  | .const v => v
  | .global g => .pointer (some ⟨g, 0, none⟩)
  | .func g => .func (.func g) #[] #[]
def wopds (l : List Operand) (f : WF) : List Value := l.map fun x => wopd x f

/-- A cell, read. -/
def rd (E : Addr → Option Value) (h : Nat → Option PB) (a : Addr) : Option Value :=
  match a with
  | ⟨b, o, none⟩ => E ⟨b, o, none⟩
  | ⟨b, o, some _⟩ => match h b with
    | some pb => pb.cells[o]?
    | none => none

/-! ### Shapes of values -/
inductive Sh where
  | int (k : IntKind) | bool | ptr | slc | str | flt (k : FloatKind) | any
def wsh (sh : Sh) (K : Value → Prop) : Prop :=
  match sh with
  | .int kd => ∃ n : Int, K (.int kd n)
  | .bool => ∃ b : Bool, K (.bool b)
  | .ptr => ∃ p : Option Addr, K (.pointer p)
  | .slc => ∃ (a : Option Addr) (n c : Nat), K (.slice a n c)
  | .str => ∃ b : ByteArray, K (.string b)
  | .flt kd => ∃ b : Nat, K (.float kd b)
  | .any => ∃ v : Value, K v
def wshL : List Sh → (List Value → Prop) → Prop
  | [], K => K []
  | sh :: t, K => wsh sh fun v => wshL t fun l => K (v :: l)
def shapeD : TypeDesc → Sh
  | .int k => .int k
  | .bool => .bool
  | .pointer _ => .ptr
  | .slice _ => .slc
  | .string => .str
  | .float k => .flt k
  | _ => .any
variable (P : Program) (E : Addr → Option Value)
def shapeOf (t : TypeId) : Sh := match P.underlying t with
  | some d => shapeD d
  | none => .any
def leavesN : Nat → TypeId → List Sh
  | 0, _ => []
  | n + 1, t => match P.underlying t with
    | some (.struct fs) => fs.toList.flatMap fun f => leavesN n f.type
    | some (.array k e) => (List.replicate k (leavesN n e)).flatten
    | some d => [shapeD d]
    | none => [.any]
/-- A value of a type. -/
def wtv (t : TypeId) (K : Value → Prop) : Prop := match isAg P t with
  | some true => wshL (leavesN P 20 t) fun l => K (.agg ⟨l⟩)
  | _ => wsh (shapeOf P t) K
def wtvs : List TypeId → (List Value → Prop) → Prop
  | [], K => K []
  | t :: ts, K => wtv P t fun v => wtvs ts fun l => K (v :: l)
def wres (ts : List TypeId) (K : Value → Prop) : Prop := match ts with
  | [t] => wtv P t K
  | ts => wtvs P ts fun l => K (.tuple ⟨l⟩)

/-! ### Memory -/
def ldL (h : Nat → Option PB) (a : Addr) : Nat → List Sh → (List Value → Prop) → Prop
  | _, [], K => K []
  | i, sh :: t, K => wsh sh fun v => rd E h (padd a i) = some v ∧ ldL h a (i + 1) t fun l => K (v :: l)
def wload (t : TypeId) (a : Addr) (s : WS) (k : KV) : Prop := match isAg P t with
  | some true => match P.info? t with
    | some i => match Nat.beq (leavesN P 20 t).length i.size && !Nat.beq i.size 0 with
      | true => ldL E s.h a 0 (leavesN P 20 t) fun l => k (.agg ⟨l⟩) s
      | false => False
    | none => False
  | some false => wsh (shapeOf P t) fun v => rd E s.h a = some v ∧ k v s
  | none => False
def onP (v : Value) (K : Addr → Prop) : Prop := match v with
  | .pointer (some a) => K a
  | .pointer none => False
  | _ => False
def wnew (s : WS) (c : List Value) (e st : Nat) (K : Addr → WS → Prop) : Prop := K (here s.n 0) ⟨upd s.h s.n (some ⟨c, e, st⟩), s.n + 1, addW s.w s.n⟩
/-- Cells, with others in their place from a place on. -/
def ov (l : List Value) (o : Nat) (c : List Value) : List Value := l.take o ++ c ++ l.drop (o + c.length)
def wstore (s : WS) (a : Addr) (c : List Value) (K : WS → Prop) : Prop :=
  ∃ b o pb, a = here b o ∧ s.h b = some pb ∧ o + c.length ≤ pb.cells.length ∧ (∀ v ∈ c, one v = true) ∧ K ⟨upd s.h b (some ⟨ov pb.cells o c, pb.elem, pb.stride⟩), s.n, addW s.w b⟩

/-! ### Numbers, tests -/
def wb (v : Value) (A B : Prop) : Prop := match v with
  | .bool b => bif b then A else B
  | _ => False
def onI (v : Value) (K : Int → Prop) : Prop := match v with
  | .int _ n => K n
  | _ => False
def onI64 (v : Value) (K : Int → Prop) : Prop := match v with
  | .int .i64 n => K n
  | _ => False
def onS (v : Value) (K : Option Addr → Nat → Nat → Prop) : Prop := match v with
  | .slice a n c => K a n c
  | _ => False
def ibits (op : BinOp) (kd : IntKind) (x y : Int) : Int :=
  match op with
  | .and => kd.wrap (BitVec.ofInt kd.bits x &&& BitVec.ofInt kd.bits y).toNat
  | .or => kd.wrap (BitVec.ofInt kd.bits x ||| BitVec.ofInt kd.bits y).toNat
  | .xor => kd.wrap (BitVec.ofInt kd.bits x ^^^ BitVec.ofInt kd.bits y).toNat
  | _ => kd.wrap (BitVec.ofInt kd.bits x &&& ~~~BitVec.ofInt kd.bits y).toNat
def wint (op : BinOp) (kd : IntKind) (a b : Int) (K : Value → Prop) : Prop :=
  match op with
  | .add => K (.int kd (kd.wrap (a + b)))
  | .sub => K (.int kd (kd.wrap (a - b)))
  | .mul => K (.int kd (kd.wrap (a * b)))
  | .quo => b ≠ 0 ∧ K (.int kd (kd.wrap (a.tdiv b)))
  | .rem => b ≠ 0 ∧ K (.int kd (a.tmod b))
  | .and => K (.int kd (ibits .and kd a b))
  | .or => K (.int kd (ibits .or kd a b))
  | .xor => K (.int kd (ibits .xor kd a b))
  | .andNot => K (.int kd (ibits .andNot kd a b))
  | .eql => K (.bool (a == b))
  | .neq => K (.bool (a != b))
  | .lss => K (.bool (decide (a < b)))
  | .leq => K (.bool (decide (a ≤ b)))
  | .gtr => K (.bool (decide (a > b)))
  | .geq => K (.bool (decide (a ≥ b)))
  | .shl => 0 ≤ b ∧ K (.int kd (kd.wrap (a * 2 ^ (min b.toNat kd.bits))))
  | .shr => 0 ≤ b ∧ K (.int kd (a.fdiv (2 ^ (min b.toNat kd.bits))))
def isShift : BinOp → Bool
  | .shl | .shr => true
  | _ => false
def onC (x : Option Value) (K : Value → Prop) : Prop := match x with
  | some v => bif plain v then K v else False
  | none => False
def wbin (op : BinOp) (t : TypeId) (X Y : Operand) (x y : Value) (K : Value → Prop) : Prop :=
  match x, y with
  | .int kd a, .int kd' b => bif isShift op || decide (kd = kd') then wint op kd a b K else False
  | x, y => bif plain x && plain y then onC (calm P (do eqGuard op t X Y x y; binOp op t x y)) K else match P.underlying t, op with
    | some d, .eql => match nilCmp d x y with
      | some b => K (.bool b)
      | none => False
    | some d, .neq => match nilCmp d x y with
      | some b => K (.bool (!b))
      | none => False
    | _, _ => False

/-! ### Growing -/
/-- The first cells of something that is appended. -/
def srcIs (h : Nat → Option PB) (v : Value) (m : Nat) (new : List Value) : Prop :=
  match v with
  | .slice (some a) _ _ => new.length = m ∧ (∀ i u, new[i]? = some u → rd E h (padd a i) = some u) ∧ (a.spot = none ∨ ∃ pb, h a.block = some pb)
  | .slice none _ _ => new = [] ∧ m = 0
  | .string b => new = ((b.data.map fun b => Value.int .u8 b.toNat).toList) ∧ m = b.size
  | _ => False
def wgrow (s : WS) (elem size bytes : Nat) (base : Option Addr) (ln cap : Nat) (src : Value) (n : Nat) (K : Option Addr → Nat → Nat → WS → Prop) : Prop :=
  ∃ new : List Value, srcIs E s.h src (n * size) new ∧ new.length = n * size ∧ (∀ v ∈ new, one v = true) ∧ (2 * (ln + n) + 1000) * bytes ≤ 281474976710656 ∧
    match base with
    | none => ln = 0 ∧ cap = 0 ∧ (n = 0 → K none 0 0 s) ∧ (n ≠ 0 → wnew s new elem size fun a s => K (some a) n n s)
    | some a => ∃ b o pb, a = here b o ∧ s.h b = some pb ∧ pb.stride = size ∧ pb.elem = elem ∧
        (ln + n ≤ cap → o + ln * size + n * size ≤ pb.cells.length ∧ K (some a) (ln + n) cap ⟨upd s.h b (some ⟨ov pb.cells (o + ln * size) new, pb.elem, pb.stride⟩), s.n, addW s.w b⟩) ∧
        (¬ ln + n ≤ cap → o + ln * size ≤ pb.cells.length ∧ ∀ h', (∀ c, c ≠ b → h' c = s.h c) → (h' b = none ∨ h' b = s.h b) →
          wnew ⟨h', s.n, addW s.w b⟩ ((pb.cells.drop o).take (ln * size) ++ new) elem size fun a s => K (some a) (ln + n) (ln + n) s)

/-! ### Operations -/
abbrev WC := FuncId → List Value → WS → KV → Prop
def foff (t : TypeId) (f : Nat) : Option Nat := match P.underlying t with
  | some (.struct fs) => match fs[f]? with
    | some fd => match P.info? fd.type with
      | some i => bif Nat.beq i.size 0 then none else some fd.offset
      | none => none
    | none => none
  | _ => none
def wenter (wc : WC) (g : FuncId) (args : List Value) (s : WS) (k : KV) : Prop := match P.funcs[g]? with
  | some fn => match enters P g with
    | true => wc g args s fun v s => wres P fn.resultTypes.toList fun u => v = u ∧ k u s
    | false => False
  | none => False
def zOk (i : TypeInfo) : Bool := match i.zero with
  | some z => Nat.beq z.cells.size i.size
  | none => false
def notInt : TypeDesc → Bool
  | .int _ => false
  | _ => true
def wcall (wc : WC) (c : Call) (f : WF) (s : WS) (k : KV) : Prop :=
  match c.callee with
  | .value x => match wopd x f with
    | .func (.func g) first cap => wenter P wc g (first.toList ++ wopds c.args.toList f ++ cap.toList) s k
    | _ => False
  | .invoke _ _ => False
  | .builtin b => match b, c.args.toList with
    | .len, [x] => match (c.argTypes[0]?).bind P.underlying, wopd x f with
      | some (.slice _), .slice _ n _ => k (.int .i64 n) s
      | some .string, .string b => k (.int .i64 b.size) s
      | _, _ => False
    | .append, [x, y] => match c.argTypes[0]?, c.argTypes[1]? with
      | some st, some xt => match P.underlying st, P.underlying xt with
        | some (.slice elem), some xd => match P.info? elem with
          | some i => bif zOk i && notInt xd && !Nat.beq i.bytes 0 && !Nat.beq i.size 0 then
              onS (wopd x f) fun base ln cap => match wopd y f with
                | .slice a n c => wgrow E s elem i.size i.bytes base ln cap (.slice a n c) n fun a n c s => k (.slice a n c) s
                | .string b => wgrow E s elem i.size i.bytes base ln cap (.string b) b.size fun a n c s => k (.slice a n c) s
                | _ => False
            else False
          | none => False
        | _, _ => False
      | _, _ => False
    | .min, [x, y] => match wopd x f, wopd y f with
      | .int kd a, .int _ b => k (.int kd (if b < a then b else a)) s
      | _, _ => False
    | .max, [x, y] => match wopd x f, wopd y f with
      | .int kd a, .int _ b => k (.int kd (if b > a then b else a)) s
      | _, _ => False
    | _, _ => False
def wop (wc : WC) (o : Oper) (f : WF) (s : WS) (k : KV) : Prop :=
  match o.op with
  | .move x | .assign x => k (wopd x f) s
  | .pick c a b => wb (wopd c f) (k (wopd a f) s) (k (wopd b f) s)
  | .alloc t => match zeroCells? P t with
    | some z => wnew s z t (strideOf P t) fun a s => k (.pointer (some a)) s
    | none => False
  | .box t x => wnew s (wopd x f).cells.toList t (strideOf P t) fun a s => k (.pointer (some a)) s
  | .build t parts => match zeroCells? P t, calm P (Instr.build t (parts.map fun (i, x) => (i, wopd x f))) with
    | some _, some v => k v s
    | _, _ => False
  | .buildSlice t n parts => match P.underlying t with
    | some (.slice e) => match P.info? e, zeroCells? P e with
      | some i, some z => bif Nat.ble (n * i.size) 16777216 && !Nat.beq i.size 0 then
          match Instr.fill (fun k => some (k * i.size, i.size)) ((Array.range (n * i.size)).map ((⟨z⟩ : Array Value)[· % (⟨z⟩ : Array Value).size]!)) (parts.map fun (k, x) => (k, wopd x f)).toList with
          | some cells => wnew s cells.toList e i.size fun a s => k (.slice (some a) n n) s
          | none => False
        else False
      | _, _ => False
    | _ => False
  | .load t a => onP (wopd a f) fun a => wload P E t a s k
  | .store t a x => match P.info? t with
    | some i => bif Nat.beq (len (wopd x f).cells.toList) i.size then onP (wopd a f) fun a => wstore s a (wopd x f).cells.toList fun s => k undef s else False
    | none => False
  | .nilCheck x => onP (wopd x f) fun a => k (.pointer (some a)) s
  | .fieldAddr t x fd => match foff P t fd with
    | some off => onP (wopd x f) fun a => k (.pointer (some (padd a off))) s
    | none => False
  | .field t x fd => match P.underlying t with
    | some (.struct fs) => match fs[fd]?, vG (wopd x f) with
      | some fd, some cs => match calm P (part fd.type cs fd.offset) with
        | some v => k v s
        | none => False
      | _, _ => False
    | _ => False
  | .indexAddr t x ix => match P.underlying t with
    | some (.slice e) => match P.info? e with
      | some d => onS (wopd x f) fun a n _ => onI (wopd ix f) fun i => 0 ≤ i ∧ i < n ∧ ∃ a', a = some a' ∧ k (.pointer (some (padd a' (i.toNat * d.size)))) s
      | none => False
    | some (.array n e) => match P.info? e with
      | some d => onP (wopd x f) fun a => onI (wopd ix f) fun i => 0 ≤ i ∧ i < n ∧ k (.pointer (some (padd a (i.toNat * d.size)))) s
      | none => False
    | _ => False
  | .makeSlice t l c => match P.underlying t with
    | some (.slice e) => match P.info? e, zeroCells? P e with
      | some i, some z => bif Nat.beq i.size 0 then False else
          onI64 (wopd l f) fun n => onI64 (wopd c f) fun m => 0 ≤ n ∧ n ≤ m ∧ m ≤ 1000000000 ∧ i.bytes * m ≤ 281474976710656 ∧
            wnew s (rowOf ⟨z⟩ (m.toNat * i.size)) e i.size fun a s => k (.slice (some a) n.toNat m.toNat) s
      | _, _ => False
    | _ => False
  | .makeFunc fn first cap => k (.func fn ⟨wopds first.toList f⟩ ⟨wopds cap.toList f⟩) s
  | .extract t ix => match wopd t f with
    | .tuple ⟨l⟩ => match l[ix]? with
      | some v => k v s
      | none => False
    | _ => False
  | .binOp op t x y _ => wbin P op t x y (wopd x f) (wopd y f) fun v => k v s
  | .convert src dst x => bif plain (wopd x f) then onC (calm P (convert src dst (wopd x f))) fun v => k v s else False
  | .unOp .not _ x => match wopd x f with
    | .bool b => k (.bool (!b)) s
    | _ => False
  | .unOp .neg _ x => match wopd x f with
    | .int kd n => k (.int kd (kd.wrap (0 - n))) s
    | _ => False
  | .index t x ix => match vG (wopd x f), P.underlying t with
    | some cs, some (.array n e) => match P.info? e with
      | some d => onI (wopd ix f) fun i => 0 ≤ i ∧ i < n ∧ wtv P e fun v => calm P (part e cs (i.toNat * d.size)) = some v ∧ k v s
      | none => False
    | _, _ => False
  | .call c => wcall P E wc c f s k
  | _ => False

/-! ### Regions -/
/-- Is that slot asked by a guard? -/
def guards (ops : Array Oper) (d : Option Tmp) : Bool := match d with
  | none => false
  | some d => ops.toList.any fun o => match o.guard with
    | some (j, _) => match (ops[j]?).bind (·.dst) with
      | some e => Nat.beq e d
      | none => false
    | none => false
def wsplit (b : Bool) (v : Value) (K : Value → Prop) : Prop := match b, v with
  | true, .bool t => bif t then K (.bool true) else K (.bool false)
  | _, v => K v
def wstep (wc : WC) (ops : Array Oper) (o : Oper) (f : WF) (s : WS) (K : WF → WS → Prop) : Prop :=
  match o.op.operands.toList.all constOk with
  | false => False
  | true =>
    match o.guard with
    | none => wop P E wc o f s fun v s => wsplit (guards ops o.dst) v fun v => K (wput o.dst v f) s
    | some (j, b) => match (ops[j]?).bind (·.dst) with
      | some d => match vB (wget d f) with
        | some t => match t, b with
          | true, true | false, false => wop P E wc o f s fun v s => wsplit (guards ops o.dst) v fun v => K (wput o.dst v f) s
          | _, _ => K (wput o.dst undef f) s
        | none => K (wput o.dst undef f) s
      | none => False
def wtext (wc : WC) (ops : Array Oper) : List Oper → WF → WS → (WF → WS → Prop) → Prop
  | [], f, s, K => K f s
  | o :: l, f, s, K => wstep P E wc ops o f s fun f s => wtext wc ops l f s K

/-- What an operation reads of our own blocks: nothing (and it writes nothing), one block, or who knows. -/
inductive RS where
  | nought | addr (a : Addr) | all
def rsOf (o : Oper) (f : WF) : RS :=
  match o.op with
  | .move _ | .assign _ | .pick _ _ _ | .nilCheck _ | .fieldAddr _ _ _ | .field _ _ _ | .indexAddr _ _ _ | .index _ _ _ | .makeFunc _ _ _ | .extract _ _ | .binOp _ _ _ _ _ | .convert _ _ _ | .unOp _ _ _ | .build _ _ => .nought
  | .load _ a => match wopd a f with
    | .pointer (some a) => .addr a
    | _ => .all
  | _ => .all
def RS.ro : RS → Bool
  | .all => false
  | _ => true
def RS.has : RS → Nat → Prop
  | .nought, _ => False
  | .addr a, b => a.spot ≠ none ∧ b = a.block
  | .all, _ => True
structure WRec where
  i : Nat
  r : RS
  w : Nat → Prop
/-- Two operations that may come either way round don't touch the same. -/
def wapart (r : RS) (w : Nat → Prop) (x : WRec) : Prop := (∀ b, w b → ¬ (x.r.has b ∨ x.w b)) ∧ ∀ b, x.w b → ¬ (r.has b ∨ w b)
def wclash (bm : Nat) (r : RS) (w : Nat → Prop) : List WRec → Prop → Prop
  | [], K => K
  | x :: l, K => match Nat.testBit bm x.i || (r.ro && x.r.ro) with
    | true => wclash bm r w l K
    | false => wapart r w x ∧ wclash bm r w l K
def wdraw (wc : WC) (ops : Array Oper) : List (Oper × Nat) → Nat → List WRec → WF → WS → (WF → WS → Prop) → Prop
  | [], _, _, f, s, K => K f s
  | (o, bm) :: l, j, done, f, s, K => match rsOf o f with
    | .nought => wstep P E wc ops o f s fun f _ => wdraw wc ops l (j + 1) done f s K
    | .addr a => wstep P E wc ops o f s.z fun f t => wclash bm (.addr a) (fun _ => False) done (wdraw wc ops l (j + 1) (⟨j, .addr a, fun _ => False⟩ :: done) f s K)
    | .all => wstep P E wc ops o f s.z fun f t => wclash bm .all t.w done (∀ u : WS, u = s.j t → wdraw wc ops l (j + 1) (⟨j, .all, t.w⟩ :: done) f u K)

/-! ### Code -/
structure LL where
  n : List Nat
  e : List (Nat × List Nat)
  r : List Nat
def lookE (l : List (Nat × List Nat)) (id : Nat) : List Nat := match l with
  | [] => []
  | (k, x) :: t => bif Nat.beq k id then x else lookE t id
def insL (t : Nat) : List Nat → List Nat
  | [] => [t]
  | u :: l => bif Nat.beq t u then u :: l else bif Nat.blt t u then t :: u :: l else u :: insL t l
def uniL (a b : List Nat) : List Nat := a.foldl (fun l t => insL t l) b
def opdUse (x : Operand) (l : List Nat) : List Nat := match x with
  | .tmp t => insL t l
  | _ => l
def opUse (ops : Array Oper) (o : Oper) (l : List Nat) : List Nat :=
  let l := o.op.operands.toList.foldl (fun l x => opdUse x l) l
  match o.guard with
  | some (j, _) => match (ops[j]?).bind (·.dst) with
    | some d => insL d l
    | none => l
  | none => l
def lvOps (ops : Array Oper) : List Oper → List Nat → List Nat
  | [], out => out
  | o :: l, out => opUse ops o (match o.dst with
    | some d => (lvOps ops l out).filter fun t => !Nat.beq t d
    | none => lvOps ops l out)
def lv : Code → LL → List Nat
  | .skip, L => L.n
  | .seq a b, L => lv a { L with n := lv b L }
  | .cond c a b, L => opdUse c (uniL (lv a L) (lv b L))
  | .block id b, L => lv b { L with e := (id, L.n) :: L.e }
  | .loop b, L => lv b { L with n := [] }
  | .exit id, L => lookE L.e id
  | .ret, L => L.r
  | .region _ ops _, L => lvOps ops ops.toList L.n
  | _, _ => []
def subL (a b : List Nat) : Bool := a.all fun t => b.any fun u => Nat.beq u t

variable (mt : List Meth) (orc : FuncId → List Value → Option Value)
def Ag (L : List Nat) (fr : Fr) (f : WF) : Prop := ∀ t ∈ L, getF t fr = wget t f
def XPost (x : XR) (L : LL) (kn : WF → WS → Prop) (ke : Nat → WF → WS → Prop) (kr : WF → WS → Prop) : Prop :=
  match x with
  | .no => False
  | .normal fr s => ∃ f ws, Ag L.n fr f ∧ St ws s ∧ kn f ws
  | .exit id fr s => ∃ f ws, Ag (lookE L.e id) fr f ∧ St ws s ∧ ke id f ws
  | .ret fr s => ∃ f ws, Ag L.r fr f ∧ St ws s ∧ kr f ws
/-- A call comes to an end of which something holds. -/
def Wc : WC := fun g args ws Q => ∀ s, St ws s → ∃ N v s' ws', runCall P E mt orc N g args s = .ok v s' ∧ St ws' s' ∧ Q v ws'
def WLoop (b : Code) (L : LL) (f : WF) (ws : WS) (ke : Nat → WF → WS → Prop) (kr : WF → WS → Prop) : Prop :=
  ∀ fr s, Ag (lv (.loop b) L) fr f → St ws s → ∃ N, XPost (exec P E mt orc N (.loop b) fr s) L (fun _ _ => False) ke kr
/-- Where a region has guards, its ways meet again. -/
def maskK (ops : Array Oper) (L : List Nat) (kn : WF → WS → Prop) : WF → WS → Prop := bif ops.toList.any fun o => o.guard.isSome then fun f s => kn (mask L f) s else kn
def wx : Code → LL → WF → WS → (WF → WS → Prop) → (Nat → WF → WS → Prop) → (WF → WS → Prop) → Prop
  | .skip, L, f, s, kn, ke, kr => kn f s
  | .seq a b, L, f, s, kn, ke, kr => wx a { L with n := lv b L } f s (fun f s => wx b L f s kn ke kr) ke kr
  | .cond c a b, L, f, s, kn, ke, kr => bif constOk c then wb (wopd c f) (wx a L f s (fun f s => kn (mask L.n f) s) ke kr) (wx b L f s (fun f s => kn (mask L.n f) s) ke kr) else False
  | .block id b, L, f, s, kn, ke, kr => wx b { L with e := (id, L.n) :: L.e } f s (fun f s => kn (mask L.n f) s) (fun k f s => bif Nat.beq k id then kn (mask L.n f) s else ke k f s) kr
  | .loop b, L, f, s, kn, ke, kr => bif subL (lv b { L with n := lv (.loop b) L }) (lv (.loop b) L) then WLoop P E mt orc b L (mask (lv (.loop b) L) f) s ke kr else False
  | .exit id, L, f, s, kn, ke, kr => ke id f s
  | .ret, L, f, s, kn, ke, kr => kr f s
  | .region _ ops false, L, f, s, kn, ke, kr => wtext P E (Wc P E mt orc) ops ops.toList f s (maskK ops L.n kn)
  | .region _ ops true, L, f, s, kn, ke, kr => bif apartOk ops (aheads ops.toList []) then wdraw P E (Wc P E mt orc) ops (ops.toList.zip (aheads ops.toList [])) 0 [] f s (maskK ops L.n kn) else False
  | _, _, _, _, _, _, _ => False
/-- The code at a path. -/
def wat : List Nat → Code → LL → (WF → WS → Prop) → (Nat → WF → WS → Prop) → (WF → WS → Prop) → WF → WS → Prop
  | [], c, L, kn, ke, kr => fun f s => wx P E mt orc c L f s kn ke kr
  | i :: p, .seq a b, L, kn, ke, kr => bif Nat.beq i 0 then wat p a { L with n := lv b L } (fun f s => wx P E mt orc b L f s kn ke kr) ke kr else wat p b L kn ke kr
  | i :: p, .cond c a b, L, kn, ke, kr => bif Nat.beq i 0 then wat p a L (fun f s => kn (mask L.n f) s) ke kr else wat p b L (fun f s => kn (mask L.n f) s) ke kr
  | i :: p, .block id b, L, kn, ke, kr => wat p b { L with e := (id, L.n) :: L.e } (fun f s => kn (mask L.n f) s) (fun k f s => bif Nat.beq k id then kn (mask L.n f) s else ke k f s) kr
  | i :: p, .loop b, L, kn, ke, kr => wat p b { L with n := lv (.loop b) L } (fun f s => wx P E mt orc (.loop b) L f s kn ke kr) ke kr
  | _, _, _, _, _, _ => fun _ _ => False

/-! ### Functions -/
def resL (l : List ResultVar) : List Nat := l.map fun r => match r with
  | .tmp t => t
  | .cell a _ => a
def wresult (r : ResultVar) (f : WF) (s : WS) (K : Value → Prop) : Prop := match r with
  | .tmp t => K (wget t f)
  | .cell a t => onP (wget a f) fun a => wload P E t a s fun v _ => K v
def wresults : List ResultVar → WF → WS → (List Value → Prop) → Prop
  | [], _, _, K => K []
  | r :: l, f, s, K => wresult P E r f s fun v => wresults l f s fun vs => K (v :: vs)
def wret (l : List ResultVar) (Q : KV) (f : WF) (s : WS) : Prop := match l with
  | [r] => wresult P E r f s fun v => Q v s
  | l => wresults P E l f s fun vs => Q (.tuple ⟨vs⟩) s
def argF (args : List Value) : Nat → WF := List.rec (motive := fun _ => Nat → WF) (fun _ => []) (fun v _ ih n => (n, v) :: ih (n + 1)) args
end
end Go.Proofs.YtoimffkejoeadaaGreatDoor.Vm
