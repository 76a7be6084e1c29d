/- The symbolic values, the memory of a call's own and the evaluator (definitions alone; nothing is claimed here). -/
import Derived.Calls
namespace Go.Proofs.YtchljgmcempedaaGreatDoor
open Go

/-! plain data -/
structure PCore where
  regs : List Int
  pc : Int
  csr : List Int
structure PMach where
  core : PCore
  mem : List Int
  time : Int
  out : List Int
  halted : Bool
structure PTrap where
  cause : Int
  tval : Int
structure PInstr where
  op : Int
  rd : Int
  ra : Int
  rb : Int
  imm : Int
structure PPart where
  base : Int
  size : Int
structure PGuest where
  part : PPart
  mem : List Int
  regs : List Int
  pc : Int
structure PConf where
  size : Int
  guests : List PGuest
structure PEvent where
  kind : Int
  at_ : Int
  time : Int
structure PVcpu where
  core : PCore
  out : List Int
  halted : Bool
  done : Int
  log : List PEvent
structure PMon where
  conf : PConf
  host : PMach
  vcpus : List PVcpu
  last : Int

/-- The types of slices' elements. -/
inductive ETy where
  | u8 | i64 | u32 | str | event | trap | instr | vcpu | guest | ints | bool
@[reducible] def ETy.T : ETy → Type
  | .u8 | .i64 | .u32 => Int
  | .str => ByteArray
  | .event => PEvent
  | .trap => PTrap
  | .instr => PInstr
  | .vcpu => PVcpu
  | .guest => PGuest
  | .ints => List Int
  | .bool => Bool

/-- Symbolic values. -/
inductive SV where
  | v (x : Value)
  | b (q : Bool)
  | undef
  | junk
  | arr (k : IntKind) (n : Nat) (l : List Int)
  | rd (τ : ETy) (l : List τ.T)
  | rdx (τ : ETy) (l : List τ.T)
  | own (key : Nat)
  | loc (key : Nat) (off ix n : Nat)
  | gptr (g : Nat) (off ix n : Nat)
  | rptr (τ : ETy) (l : List τ.T) (i off : Nat)
  | optr (key sz i off : Nat)
  | agg (cs : List SV)
  | tup (vs : List SV)
  | fn (f : Fn) (first captured : List SV)
  | map (key : Nat)
  | cs (key n sz : Nat)
  | pp (cs : List SV) (off ix n : Nat)
  | yld (key : Nat)
  | iter (key : Nat)
  | win (key sz lo : Nat)

/-- A block of the call's own. -/
inductive Blk where
  | cells (cs : List SV) (ty : TypeId)
  | row (τ : ETy) (l : List τ.T) (ty : TypeId)
  | frow (τ : ETy) (l : List τ.T)
  | map (kd : IntKind) (es : List (Int × SV))
  | iter (kd : IntKind) (es : List (Int × SV)) (dn : List Bool) (cur : Option Nat)
  | lp (T : List SV) (ps : Array Tmp) (as bd : Code) (st : LoopState) (pend : Option Code)
  | dfr

abbrev Mem := Nat → Option Blk
def Mem.set (M : Mem) (k : Nat) (b : Blk) : Mem := fun j => bif Nat.beq j k then some b else M j
def Mem.del (M : Mem) (k : Nat) : Mem := fun j => bif Nat.beq j k then none else M j
abbrev Tmps := Nat → SV
def Tmps.put (T : Tmps) (d : Option Nat) (v : SV) : Tmps := match d with
  | none => T
  | some d => fun j => bif Nat.beq j d then v else T j

/-- What a loop keeps: which slots are looked at, in which of them its blocks' keys stand, what they hold at x, what is known of x, what falls. -/
structure LoopSpec where
  σ : Type
  slots : List Nat
  keys : List Nat
  vals : σ → List SV
  blks : σ → List Blk
  inv : σ → Prop
  mu : σ → Nat
  nils : List (Nat × (ETy × TypeId)) := []
inductive Tree : Type 1 where
  | leaf (r : SV)
  | fail
  | letv {α : Type} (wf : α → Prop) (x : α) (k : α → Tree)
  | loop (lvl : Nat) (L : LoopSpec) (vs : List SV) (bs : List Blk) (round : L.σ → Tree)
  | next (lvl : Nat) (vs : List SV) (bs : List Blk)
  | fork (a b : Tree)
  | triv

/-- A contract's face: what a call with these arguments comes to. -/
structure Spec where
  α : Type
  run : List SV → Option (Bool × α)
  enc : α → SV
  wf : α → Prop

structure Env where
  P : Program
  ety : TypeId → Option ETy
  glob : Nat → Option (List SV)
  spec : FuncId → Option Spec
  callee : FuncId → Bool
  cut0 : Bool := false

/-! encodings -/
abbrev svI (k : IntKind) (n : Int) : SV := .v (.int k n)
abbrev svB (q : Bool) : SV := .v (.bool q)
def coreC (c : PCore) : List SV := [.arr .u32 16 c.regs, svI .u32 c.pc, .arr .u32 12 c.csr]
def machC (m : PMach) : List SV := [.arr .u32 16 m.core.regs, svI .u32 m.core.pc, .arr .u32 12 m.core.csr, .rd .u8 m.mem, svI .u64 m.time, .rd .u8 m.out, svB m.halted]
def trapC (t : PTrap) : List SV := [svI .i64 t.cause, svI .u32 t.tval]
def instrC (i : PInstr) : List SV := [svI .i64 i.op, svI .i64 i.rd, svI .i64 i.ra, svI .i64 i.rb, svI .i32 i.imm]
def partC (p : PPart) : List SV := [svI .u32 p.base, svI .u32 p.size]
def guestC (g : PGuest) : List SV := [svI .u32 g.part.base, svI .u32 g.part.size, .rd .u8 g.mem, .arr .u32 16 g.regs, svI .u32 g.pc]
def confC (c : PConf) : List SV := [svI .u32 c.size, .rd .guest c.guests]
def eventC (e : PEvent) : List SV := [svI .i64 e.kind, svI .i64 e.at_, svI .u64 e.time]
def vcpuC (v : PVcpu) : List SV := [.arr .u32 16 v.core.regs, svI .u32 v.core.pc, .arr .u32 12 v.core.csr, .rd .u8 v.out, svB v.halted, svI .i64 v.done, .rd .event v.log]
def monC (m : PMon) : List SV := confC m.conf ++ machC m.host ++ [.rd .vcpu m.vcpus, svI .i64 m.last]

def encE : (τ : ETy) → τ.T → List SV
  | .u8, n => [svI .u8 n]
  | .i64, n => [svI .i64 n]
  | .u32, n => [svI .u32 n]
  | .str, s => [.v (.string s)]
  | .event, e => eventC e
  | .trap, t => trapC t
  | .instr, i => instrC i
  | .vcpu, v => vcpuC v
  | .guest, g => guestC g
  | .ints, l => [.rd .i64 l]
  | .bool, q => [svB q]
def szE : ETy → Nat
  | .u8 | .i64 | .u32 | .str | .ints | .bool => 1
  | .event => 3
  | .trap => 2
  | .instr => 5
  | .vcpu => 33
  | .guest => 20
def dfE : (τ : ETy) → τ.T
  | .u8 | .i64 | .u32 => (0 : Int)
  | .str => ByteArray.empty
  | .event => ⟨0, 0, 0⟩
  | .trap => ⟨0, 0⟩
  | .instr => ⟨0, 0, 0, 0, 0⟩
  | .vcpu => ⟨⟨[], 0, []⟩, [], false, 0, []⟩
  | .guest => ⟨⟨0, 0⟩, [], [], 0⟩
  | .ints => ([] : List Int)
  | .bool => false

def boolS : SV → Option Bool
  | .b q => some q
  | .v (.bool q) => some q
  | _ => none
def bytesS : SV → Option (List Int)
  | .rd .u8 l => some l
  | .rdx .u8 l => some l
  | .v (.slice none 0 0) => some []
  | _ => none
def intsS : SV → Option (List Int)
  | .rd .i64 l => some l
  | .rdx .i64 l => some l
  | .v (.slice none 0 0) => some []
  | _ => none
def eventsS : SV → Option (List PEvent)
  | .rd .event l => some l
  | .rdx .event l => some l
  | .v (.slice none 0 0) => some []
  | _ => none
def guestsS : SV → Option (List PGuest)
  | .rd .guest l => some l
  | .rdx .guest l => some l
  | .v (.slice none 0 0) => some []
  | _ => none
def vcpusS : SV → Option (List PVcpu)
  | .rd .vcpu l => some l
  | .rdx .vcpu l => some l
  | .v (.slice none 0 0) => some []
  | _ => none

def decCore : List SV → Option PCore
  | [.arr .u32 16 r, .v (.int .u32 pc), .arr .u32 12 c] => some ⟨r, pc, c⟩
  | _ => none
def decMach : List SV → Option PMach
  | [.arr .u32 16 r, .v (.int .u32 pc), .arr .u32 12 c, m, .v (.int .u64 t), o, h] =>
    (bytesS m).bind fun m => (bytesS o).bind fun o => (boolS h).bind fun h => some ⟨⟨r, pc, c⟩, m, t, o, h⟩
  | _ => none
def decTrap : List SV → Option PTrap
  | [.v (.int .i64 c), .v (.int .u32 t)] => some ⟨c, t⟩
  | _ => none
def decInstr : List SV → Option PInstr
  | [.v (.int .i64 a), .v (.int .i64 b), .v (.int .i64 c), .v (.int .i64 d), .v (.int .i32 e)] => some ⟨a, b, c, d, e⟩
  | _ => none
def decPart : List SV → Option PPart
  | [.v (.int .u32 a), .v (.int .u32 b)] => some ⟨a, b⟩
  | _ => none
def decGuest : List SV → Option PGuest
  | [.v (.int .u32 a), .v (.int .u32 b), m, .arr .u32 16 r, .v (.int .u32 pc)] => (bytesS m).bind fun m => some ⟨⟨a, b⟩, m, r, pc⟩
  | _ => none
def decConf : List SV → Option PConf
  | [.v (.int .u32 a), g] => (guestsS g).bind fun g => some ⟨a, g⟩
  | _ => none
def decEvent : List SV → Option PEvent
  | [.v (.int .i64 a), .v (.int .i64 b), .v (.int .u64 c)] => some ⟨a, b, c⟩
  | _ => none
def decVcpu : List SV → Option PVcpu
  | [.arr .u32 16 r, .v (.int .u32 pc), .arr .u32 12 c, o, h, .v (.int .i64 d), l] =>
    (bytesS o).bind fun o => (boolS h).bind fun h => (eventsS l).bind fun l => some ⟨⟨r, pc, c⟩, o, h, d, l⟩
  | _ => none
def decMon : List SV → Option PMon
  | [c1, c2, .arr .u32 16 r, p, .arr .u32 12 c, m, t, o, h, vs, .v (.int .i64 last)] =>
    (decConf [c1, c2]).bind fun cf => (decMach [.arr .u32 16 r, p, .arr .u32 12 c, m, t, o, h]).bind fun hm => (vcpusS vs).bind fun vs => some ⟨cf, hm, vs, last⟩
  | _ => none

def decE : (τ : ETy) → List SV → Option τ.T
  | .u8, [.v (.int .u8 n)] => some n
  | .i64, [.v (.int .i64 n)] => some n
  | .u32, [.v (.int .u32 n)] => some n
  | .str, [.v (.string s)] => some s
  | .event, cs => decEvent cs
  | .trap, cs => decTrap cs
  | .instr, cs => decInstr cs
  | .vcpu, cs => decVcpu cs
  | .guest, cs => decGuest cs
  | .ints, [s] => intsS s
  | .bool, [s] => boolS s
  | _, _ => none

/-! cells -/
def szS : SV → Nat
  | .arr _ n _ => n
  | _ => 1
/-- one cell -/
def getC : List SV → Nat → Nat → Nat → Option SV
  | .arr k m l :: r, off, ix, n => bif Nat.blt off m then (bif Nat.ble (off + n) m then some (.v (.int k (l.getD (ix + off) 0))) else none) else getC r (off - m) ix n
  | s :: _, 0, _, n => bif Nat.beq n 1 then some s else none
  | _ :: r, off + 1, ix, n => getC r off ix n
  | [], _, _, _ => none
def setC : List SV → Nat → Nat → Nat → SV → Option (List SV)
  | .arr k m l :: r, off, ix, n, x =>
    bif Nat.blt off m then (bif Nat.ble (off + n) m then (match x with
      | .v (.int k' z) => bif k == k' then some (.arr k m (l.set (ix + off) z) :: r) else none
      | _ => none) else none)
    else (setC r (off - m) ix n x).map (.arr k m l :: ·)
  | _ :: r, 0, _, n, x => bif Nat.beq n 1 then some (x :: r) else none
  | s :: r, off + 1, ix, n, x => (setC r off ix n x).map (s :: ·)
  | [], _, _, _, _ => none
def splitC : List SV → Nat → Option (List SV × List SV)
  | cs, 0 => some ([], cs)
  | s :: r, off => bif Nat.ble (szS s) off then (splitC r (off - szS s)).map fun p => (s :: p.1, p.2) else none
  | [], _ => none
def takeC (cs : List SV) (off size : Nat) : Option (List SV) :=
  (splitC cs off).bind fun p => (splitC p.2 size).map (·.1)
def putC (cs : List SV) (off size : Nat) (new : List SV) : Option (List SV) :=
  (splitC cs off).bind fun p => (splitC p.2 size).map fun q => p.1 ++ (new ++ q.2)
def sizeC : List SV → Nat
  | [] => 0
  | s :: r => szS s + sizeC r

/-- which symbolic values fill one cell -/
def isCell : SV → Bool
  | .v (.agg _) | .v (.tuple _) | .undef | .junk | .arr .. | .agg _ | .tup _ => false
  | _ => true

def lim : Nat := 2 ^ 47
def okB : Value → Bool
  | .int k n => decide (k.min ≤ n) && decide (n ≤ k.max)
  | .string s => Nat.ble s.size lim
  | .agg _ | .tuple _ => false
  | _ => true
/-- a row of cells as the table lays it, as chunks by the type; what is left -/
def takeI (k : IntKind) : Nat → List Value → Option (List Int × List Value)
  | 0, vs => some ([], vs)
  | n + 1, .int k' x :: r => bif k == k' && okB (.int k x) then (takeI k n r).map fun p => (x :: p.1, p.2) else none
  | _ + 1, _ => none
def chunkL (f : TypeId → List Value → Option (List SV × List Value)) : List TypeId → List Value → Option (List SV × List Value)
  | [], vs => some ([], vs)
  | t :: ts, vs => (f t vs).bind fun p => (chunkL f ts p.2).map fun q => (p.1 ++ q.1, q.2)
def chunk1 : List Value → Option (List SV × List Value)
  | .bool q :: r => some ([.b q], r)
  | x :: r => bif okB x then some ([.v x], r) else none
  | [] => none
def chunkP (P : Program) : Nat → TypeId → List Value → Option (List SV × List Value)
  | 0, _, _ => none
  | d + 1, t, vs => match P.underlying t with
    | some (.struct fs) => chunkL (chunkP P d) (fs.toList.map (·.type)) vs
    | some (.array n e) => match P.underlying e with
      | some (.int k) => (takeI k n vs).map fun p => ([.arr k n p.1], p.2)
      | _ => chunkL (chunkP P d) (List.replicate n e) vs
    | _ => chunk1 vs
def zeroC (E : Env) (t : TypeId) : Option (List SV) :=
  (E.P.info? t).bind fun i => i.zero.bind fun z => (chunkP E.P 10 t z.cells.toList).bind fun p => match p.2 with
    | [] => some p.1
    | _ => none

/-! operands -/
def constS : Value → SV
  | .bool q => .b q
  | x => bif okB x then .v x else .junk
def opd (T : Tmps) : Operand → SV
  | .tmp t => T t
  | .const x => constS x
  | .global g => .gptr g 0 0 1
  | .func f => .fn (.func f) [] []
def cellsS : SV → Option (List SV)
  | .agg cs => some cs
  | .undef | .junk | .tup _ | .arr .. | .v (.agg _) | .v (.tuple _) => none
  | s => some [s]

/-- What one operation comes to. -/
inductive OpT where
  | val (v : SV) (new : Option Blk)
  | eff (v : SV) (M : Mem)
  | need (q : Bool) (t : OpT)
  | split (q : Bool) (a b : OpT)
  | fail
def OpT.ofOpt : Option SV → OpT
  | some v => .val v none
  | none => .fail

def aggT (E : Env) (t : TypeId) : Option Bool := match E.P.underlying t with
  | some (.struct _) | some (.array _ _) => some true
  | some _ => some false
  | none => none
def sizeT (E : Env) (t : TypeId) : Nat := E.P.cellsOf t

/-- a load from chunks -/
def loadC (E : Env) (t : TypeId) (cs : List SV) (off ix n : Nat) : Option SV :=
  match aggT E t with
  | some true => bif Nat.beq n 1 then (takeC cs off (sizeT E t)).map .agg else none
  | some false => getC cs off ix n
  | none => none
def storeC (E : Env) (t : TypeId) (cs : List SV) (off ix n : Nat) (x : SV) : Option (List SV) :=
  match x with
  | .agg new => bif Nat.beq n 1 && (Nat.blt 0 (sizeT E t) && Nat.beq (sizeC new) (sizeT E t)) then putC cs off (sizeT E t) new else none
  | x => bif isCell x && Nat.beq (sizeT E t) 1 then setC cs off ix n x else none

def loadS (E : Env) (M : Mem) (t : TypeId) : SV → Option SV
  | .loc k off ix n => match M k with
    | some (.cells cs _) => loadC E t cs off ix n
    | _ => none
  | .gptr g off ix n => match E.glob g with
    | some cs => loadC E t cs off ix n
    | none => none
  | .pp cs off ix n => loadC E t cs off ix n
  | .rptr τ l i off => loadC E t (encE τ (l.getD i (dfE τ))) off 0 1
  | .optr k sz i off => match M k with
    | some (.row τ l _) => bif Nat.beq sz (szE τ) then loadC E t (encE τ (l.getD i (dfE τ))) off 0 1 else none
    | some (.frow τ l) => bif Nat.beq sz (szE τ) then loadC E t (encE τ (l.getD i (dfE τ))) off 0 1 else none
    | _ => none
  | _ => none

/-- what a value holds of the call's own rows, made a value for good -/
def lift1 (M : Mem) : SV → Option SV
  | .own k => match M k with
    | some (.row τ l _) => some (.rd τ l)
    | some (.frow τ l) => some (.rd τ l)
    | _ => none
  | .v x => some (.v x)
  | .b q => some (.b q)
  | .arr k n l => some (.arr k n l)
  | .rd τ l => some (.rd τ l)
  | .rdx τ l => some (.rdx τ l)
  | _ => none
def lift1L (M : Mem) : List SV → Option (List SV)
  | [] => some []
  | s :: r => (lift1 M s).bind fun s => (lift1L M r).map (s :: ·)
def liftA (M : Mem) : SV → Option SV
  | .agg cs => (lift1L M cs).map .agg
  | .arr .. => none
  | s => lift1 M s
def liftL (M : Mem) : List SV → Option (List SV)
  | [] => some []
  | s :: r => (liftA M s).bind fun s => (liftL M r).map (s :: ·)
def liftS (M : Mem) : SV → Option SV
  | .tup vs => (liftL M vs).map .tup
  | s => liftA M s
/-- as an argument of a call that only looks: a pointer to a block of the call's own, made a pointer for good -/
def liftP (M : Mem) : SV → Option SV
  | .loc k off ix n => match M k with
    | some (.cells cs _) => (lift1L M cs).map fun cs' => .pp cs' off ix n
    | _ => none
  | s => liftA M s
def liftPL (M : Mem) : List SV → Option (List SV)
  | [] => some []
  | s :: r => (liftP M s).bind fun s => (liftPL M r).map (s :: ·)
/-- the keys of the rows of the call's own that a value holds -/
def keys1 : List SV → List Nat
  | [] => []
  | .own k :: r => k :: keys1 r
  | _ :: r => keys1 r
def keysA : SV → List Nat
  | .own k => [k]
  | .agg cs => keys1 cs
  | _ => []
def keysL : List SV → List Nat
  | [] => []
  | s :: r => keysA s ++ keysL r
def keysS : SV → List Nat
  | .tup vs => keysL vs
  | s => keysA s
/-- a row is written no more -/
def freeze1 (M : Mem) (k : Nat) : Mem := match M k with
  | some (.row τ l _) => M.set k (.frow τ l)
  | _ => M
def freezeM (M : Mem) : List Nat → Mem
  | [] => M
  | k :: r => freezeM (freeze1 M k) r

def frozenL (M : Mem) : List Nat → Bool
  | [] => true
  | k :: r => (match M k with
    | some (.frow _ _) => true
    | _ => false) && frozenL M r

def storeS (E : Env) (M : Mem) (t : TypeId) (p x : SV) : Option Mem :=
  match p with
  | .loc k off ix n => match M k with
    | some (.cells cs ty) => (storeC E t cs off ix n x).map fun cs' => M.set k (.cells cs' ty)
    | _ => none
  | .optr k sz i off => match M k with
    | some (.row τ l ty) => bif (keysA x).elem k || !Nat.beq sz (szE τ) then none else (liftA M x).bind fun y => (storeC E t (encE τ (l.getD i (dfE τ))) off 0 1 y).bind fun cs => (decE τ cs).map fun y => (freezeM M (keysA x)).set k (.row τ (l.set i y) ty)
    | _ => none
  | _ => none

/-- the elements of a slice -/
def listS (M : Mem) : SV → Option ((τ : ETy) × List τ.T)
  | .rd τ l | .rdx τ l => some ⟨τ, l⟩
  | .own k => match M k with
    | some (.row τ l _) => some ⟨τ, l⟩
    | some (.frow τ l) => some ⟨τ, l⟩
    | _ => none
  | _ => none
def lenS (M : Mem) : SV → Option Nat
  | .v (.slice none 0 0) => some 0
  | .cs _ n _ => some n
  | s => match listS M s with
    | some ⟨_, l⟩ => some l.length
    | none => none

/-- equality by the type -/
def eqFs (f : TypeId → SV → SV → Option Bool) (E : Env) (xs ys : List SV) : List Field → Option Bool
  | [] => some true
  | fd :: fs => bif fd.name == "_" then none else
    (loadC E fd.type xs fd.offset 0 1).bind fun x => (loadC E fd.type ys fd.offset 0 1).bind fun y => (f fd.type x y).bind fun p => (eqFs f E xs ys fs).map fun q => p && q
def eqIs (f : SV → SV → Option Bool) (E : Env) (e : TypeId) (xs ys : List SV) : List Nat → Option Bool
  | [] => some true
  | i :: is => (loadC E e xs (i * sizeT E e) 0 1).bind fun x => (loadC E e ys (i * sizeT E e) 0 1).bind fun y => (f x y).bind fun p => (eqIs f E e xs ys is).map fun q => p && q
def eqInts : List SV → List SV → Option Bool
  | [.arr k n l], [.arr k' n' l'] => bif k == k' && Nat.beq n n' then some (decide (l = l')) else none
  | _, _ => none
def eqV (E : Env) : Nat → TypeId → SV → SV → Option Bool
  | 0, _, _, _ => none
  | d + 1, t, x, y => match E.P.underlying t with
    | some .bool => (boolS x).bind fun p => (boolS y).map fun q => p == q
    | some (.int _) => match x, y with
      | .v (.int k a), .v (.int k' b) => bif k == k' then some (a == b) else none
      | _, _ => none
    | some .string => match x, y with
      | .v (.string a), .v (.string b) => some (a.toList == b.toList)
      | _, _ => none
    | some (.struct fs) => match x, y with
      | .agg xs, .agg ys => bif E.P.stoodInHeld t then none else eqFs (eqV E d) E xs ys fs.toList
      | _, _ => none
    | some (.array n e) => match x, y with
      | .agg xs, .agg ys => match E.P.underlying e with
        | some (.int _) => bif Nat.beq (sizeT E e) 1 && Nat.beq (sizeC xs) n then eqInts xs ys else none
        | _ => bif (E.P.info? e).isSome then eqIs (eqV E d e) E e xs ys (List.range n) else none
      | _, _ => none
    | _ => none

def andI (k : IntKind) (x y : Int) : Int := k.wrap (BitVec.ofInt k.bits x &&& BitVec.ofInt k.bits y).toNat
def orI (k : IntKind) (x y : Int) : Int := k.wrap (BitVec.ofInt k.bits x ||| BitVec.ofInt k.bits y).toNat
def xorI (k : IntKind) (x y : Int) : Int := k.wrap (BitVec.ofInt k.bits x ^^^ BitVec.ofInt k.bits y).toNat
def andNotI (k : IntKind) (x y : Int) : Int := k.wrap (BitVec.ofInt k.bits x &&& ~~~ BitVec.ofInt k.bits y).toNat
def notI (k : IntKind) (n : Int) : Int := k.wrap (BitVec.ofInt k.bits (if k.signed then -1 else k.max) ^^^ BitVec.ofInt k.bits n).toNat
def binI (op : BinOp) (k : IntKind) (x y : Int) : OpT :=
  match op with
  | .add => .val (svI k (k.wrap (x + y))) none
  | .sub => .val (svI k (k.wrap (x - y))) none
  | .mul => .val (svI k (k.wrap (x * y))) none
  | .quo => .need (y != 0) (.val (svI k (k.wrap (x.tdiv y))) none)
  | .rem => .need (y != 0) (.val (svI k (x.tmod y)) none)
  | .and => .val (svI k (andI k x y)) none
  | .or => .val (svI k (orI k x y)) none
  | .xor => .val (svI k (xorI k x y)) none
  | .andNot => .val (svI k (andNotI k x y)) none
  | .eql => .val (svB (x == y)) none
  | .neq => .val (svB (x != y)) none
  | .lss => .val (svB (decide (x < y))) none
  | .leq => .val (svB (decide (x ≤ y))) none
  | .gtr => .val (svB (decide (x > y))) none
  | .geq => .val (svB (decide (x ≥ y))) none
  | _ => .fail
def shiftI (op : BinOp) (k : IntKind) (x y : Int) : OpT :=
  match op with
  | .shl => .need (decide (0 ≤ y)) (.val (svI k (k.wrap (x * 2 ^ min y.toNat k.bits))) none)
  | .shr => .need (decide (0 ≤ y)) (.val (svI k (x.fdiv (2 ^ min y.toNat k.bits))) none)
  | _ => .fail
def strB (op : BinOp) (a b : ByteArray) : OpT :=
  match op with
  | .eql => .val (svB (a.toList == b.toList)) none
  | .neq => .val (svB (!(a.toList == b.toList))) none
  | .add => .need (Nat.ble (a.size + b.size) lim) (.val (.v (.string (a ++ b))) none)
  | _ => .fail
def eqB (op : BinOp) (p q : Bool) : OpT :=
  match op with
  | .eql => .val (svB (p == q)) none
  | .neq => .val (svB (!(p == q))) none
  | _ => .fail
def isShift : BinOp → Bool
  | .shl | .shr => true
  | _ => false
def aggEq (op : BinOp) (q : Bool) : OpT :=
  match op with
  | .eql => .val (svB q) none
  | .neq => .val (svB (!q)) none
  | _ => .fail
def binS (E : Env) (t : TypeId) (op : BinOp) (x y : SV) : OpT :=
  match x, y with
  | .v (.int k a), .v (.int k' b) => bif isShift op then shiftI op k a b else bif k == k' then binI op k a b else .fail
  | .v (.string a), .v (.string b) => strB op a b
  | .fn _ _ _, .v .nilFunc => match E.P.underlying t with
    | some (.func _ _ _) => aggEq op false
    | _ => .fail
  | .v .nilFunc, .v .nilFunc => match E.P.underlying t with
    | some (.func _ _ _) => aggEq op true
    | _ => .fail
  | .agg a, .agg b => bif E.P.eqGuardType E.P.depth t then .fail else match eqV E 10 t (.agg a) (.agg b) with
    | some q => aggEq op q
    | none => .fail
  | x, y => match boolS x, boolS y, E.P.underlying t with
    | some p, some q, some .bool => eqB op p q
    | _, _, _ => .fail
def unS (op : UnOp) (x : SV) : OpT :=
  match op, x with
  | .neg, .v (.int k n) => .val (svI k (k.wrap (0 - n))) none
  | .xor, .v (.int k n) => .val (svI k (notI k n)) none
  | .not, .b q => .val (.b (!q)) none
  | .not, .v (.bool q) => .val (svB (!q)) none
  | _, _ => .fail
def convS (E : Env) (src dst : TypeId) (x : SV) : OpT :=
  match x, E.P.underlying src, E.P.underlying dst with
  | .v (.int _ n), some (.int _), some (.int k) => .val (svI k (k.wrap n)) none
  | _, _, _ => .fail

/-- a field's place and type -/
def fieldF (E : Env) (s : TypeId) (f : Nat) : Option Field := match E.P.underlying s with
  | some (.struct fs) => fs[f]?
  | _ => none
def fieldAddrS (E : Env) (s : TypeId) (x : SV) (f : Nat) : Option SV :=
  (fieldF E s f).bind fun fd => bif Nat.beq (sizeT E fd.type) 0 then none else match x with
    | .loc k off _ 1 => some (.loc k (off + fd.offset) 0 1)
    | .gptr g off _ 1 => some (.gptr g (off + fd.offset) 0 1)
    | .pp cs off _ 1 => some (.pp cs (off + fd.offset) 0 1)
    | .rptr τ l i off => some (.rptr τ l i (off + fd.offset))
    | .optr k sz i off => some (.optr k sz i (off + fd.offset))
    | _ => none
def fieldS (E : Env) (s : TypeId) (x : SV) (f : Nat) : Option SV :=
  (fieldF E s f).bind fun fd => match x with
    | .agg cs => loadC E fd.type cs fd.offset 0 1
    | _ => none
/-- the address of an array's element -/
def elemA (E : Env) (len : Nat) (e : TypeId) (x : SV) (i : Int) : Option SV :=
  match E.P.underlying e with
  | some (.int _) => bif Nat.beq (sizeT E e) 1 then (match x with
    | .loc k off _ 1 => some (.loc k off i.toNat len)
    | .gptr g off _ 1 => some (.gptr g off i.toNat len)
    | _ => none) else none
  | _ => bif Nat.blt 0 (sizeT E e) then (match x with
    | .loc k off _ 1 => some (.loc k (off + i.toNat * sizeT E e) 0 1)
    | .gptr g off _ 1 => some (.gptr g (off + i.toNat * sizeT E e) 0 1)
    | _ => none) else none
/-- the address of a slice's element -/
def elemS (M : Mem) (x : SV) (i : Int) : Option (Nat × Nat × SV) :=
  match x with
  | .rd τ l => some (l.length, szE τ, .rptr τ l i.toNat 0)
  | .rdx τ l => some (l.length, szE τ, .rptr τ l i.toNat 0)
  | .own k => match M k with
    | some (.row τ l _) => some (l.length, szE τ, .optr k (szE τ) i.toNat 0)
    | some (.frow τ l) => some (l.length, szE τ, .rptr τ l i.toNat 0)
    | _ => none
  | .cs k n sz => bif Nat.blt 0 sz then some (n, sz, .loc k (i.toNat * sz) 0 1) else none
  | _ => none
/-- the address of an element of a table of structs, one by one -/
def elemChain (E : Env) (len : Nat) (e : TypeId) (x : SV) (i : Int) : Nat → OpT
  | 0 => .fail
  | n + 1 => .split (i == Int.ofNat (len - (n + 1))) (.ofOpt (elemA E len e x (Int.ofNat (len - (n + 1))))) (elemChain E len e x i n)
def isIntT (E : Env) (e : TypeId) : Bool := match E.P.underlying e with
  | some (.int _) => true
  | _ => false
def inRange (i : Int) (n : Nat) : Bool := decide (0 ≤ i) && decide (i < (n : Int))
def indexAddrS (E : Env) (M : Mem) (t : TypeId) (x i : SV) : OpT :=
  match i, E.P.underlying t with
  | .v (.int _ i), some (.array len e) => .need (inRange i len) (bif isIntT E e then .ofOpt (elemA E len e x i) else elemChain E len e x i len)
  | .v (.int _ i), some (.slice e) => match elemS M x i with
    | some (n, sz, p) => .need (inRange i n) (bif Nat.beq sz (sizeT E e) then .val p none else .fail)
    | none => .fail
  | _, _ => .fail
def indexS (E : Env) (t : TypeId) (x i : SV) : OpT :=
  match x, i with
  | .agg cs, .v (.int _ i) => match E.P.underlying t with
    | some (.array len e) => .need (inRange i len) (match E.P.underlying e with
        | some (.int _) => bif Nat.beq (sizeT E e) 1 then .ofOpt (getC cs 0 i.toNat len) else .fail
        | _ => .ofOpt (loadC E e cs (i.toNat * sizeT E e) 0 1))
    | _ => .fail
  | .v (.string s), .v (.int _ i) => match E.P.underlying t with
    | some .string => .need (inRange i s.size) (.val (svI .u8 (s.data.toList.getD i.toNat 0).toNat) none)
    | _ => .fail
  | _, _ => .fail

/-- slice expressions -/
def bndS (d : Int) : Option SV → Option Int
  | none => some d
  | some (.v (.int _ n)) => some n
  | _ => none
def sliceTy (E : Env) (t : TypeId) (τ : ETy) : Bool := match E.P.underlying t with
  | some (.slice e) => Nat.beq (szE τ) (sizeT E e)
  | _ => false
def sliceL (E : Env) (t : TypeId) (τ : ETy) (l : List τ.T) (lo hi mx : Option SV) (K : SV → OpT) : OpT :=
  bif sliceTy E t τ then (match bndS 0 lo, bndS l.length hi, hi, mx with
  | some a, some b, _, none => .need (decide (0 ≤ a) && (decide (a ≤ b) && decide (b ≤ (l.length : Int)))) (K (.rd τ ((l.take b.toNat).drop a.toNat)))
  | some a, some b, some _, some (.v (.int _ c)) => .need (decide (0 ≤ a) && (decide (a ≤ b) && (decide (b ≤ (l.length : Int)) && decide (b = c)))) (K (.rdx τ ((l.take b.toNat).drop a.toNat)))
  | _, _, _, _ => .fail) else .fail
def sliceStr (s : ByteArray) (lo hi : Option SV) : OpT :=
  match bndS 0 lo, bndS s.size hi with
  | some a, some b => .need (decide (0 ≤ a) && (decide (a ≤ b) && decide (b ≤ (s.size : Int)))) (.val (.v (.string (s.extract a.toNat b.toNat))) none)
  | _, _ => .fail
def decRow (τ : ETy) : Nat → List SV → Option (List τ.T)
  | 0, [] => some []
  | n + 1, cs => (splitC cs (szE τ)).bind fun p => (decE τ p.1).bind fun x => (decRow τ n p.2).map (x :: ·)
  | _, _ => none
def valK (v : SV) : OpT := .val v none
/-- an own row from its start on, or none of it; a window at its end -/
def sliceOwn (E : Env) (M : Mem) (κ : Nat) (t : TypeId) (k : Nat) (τ : ETy) (l : List τ.T) (ty : TypeId) (lo hi mx : Option SV) : OpT :=
  match E.cut0, lo, hi, mx with
  | true, none, some (.v (.int _ b)), none => .split (b == 0) (bif sliceTy E t τ then .eff (.own κ) ((M.del k).set κ (.row τ [] ty)) else .fail) (sliceL E t τ l lo hi mx fun v => .eff v (freeze1 M k))
  | true, some (.v (.int _ a)), none, none => bif sliceTy E t τ then .need (decide (0 ≤ a) && decide (a ≤ (l.length : Int))) (.val (.win k (szE τ) a.toNat) none) else .fail
  | _, _, _, _ => sliceL E t τ l lo hi mx fun v => .eff v (freeze1 M k)
def sliceS (E : Env) (M : Mem) (κ : Nat) (t : TypeId) (x : SV) (lo hi mx : Option SV) : OpT :=
  match x with
  | .rd τ l => sliceL E t τ l lo hi mx valK
  | .rdx τ l => sliceL E t τ l lo hi mx valK
  | .own k => match M k with
    | some (.row τ l ty) => sliceOwn E M κ t k τ l ty lo hi mx
    | some (.frow τ l) => sliceL E t τ l lo hi mx valK
    | _ => .fail
  | .v (.string s) => match mx, E.P.underlying t with
    | none, some .string => sliceStr s lo hi
    | _, _ => .fail
  | .v (.slice none 0 0) => match E.P.underlying t, mx, bndS 0 lo, bndS 0 hi with
    | some (.slice e), none, some a, some b => bif Nat.blt 0 (sizeT E e) then .need (decide (0 ≤ a) && (decide (a ≤ b) && decide (b ≤ 0))) (.val (.v (.slice none 0 0)) none) else .fail
    | _, _, _, _ => .fail
  | .gptr g 0 _ 1 => match E.P.underlying t, E.glob g, lo, hi, mx with
    | some (.array n e), some cs, none, none, none => match E.ety e with
      | some τ => match decRow τ n cs with
        | some l => bif Nat.beq (szE τ) (sizeT E e) && Nat.ble n lim then .val (.rd τ l) none else .fail
        | none => .fail
      | none => .fail
    | _, _, _, _, _ => .fail
  | _ => .fail

/-- builtins -/
def bytesOfT (E : Env) (t : TypeId) : Nat := E.P.bytesOf t
def castL (τ σ : ETy) (l : List τ.T) : Option (List σ.T) := match τ, σ, l with
  | .u8, .u8, l => some l
  | .i64, .i64, l => some l
  | .u32, .u32, l => some l
  | .str, .str, l => some l
  | .event, .event, l => some l
  | .trap, .trap, l => some l
  | .instr, .instr, l => some l
  | .vcpu, .vcpu, l => some l
  | .guest, .guest, l => some l
  | .ints, .ints, l => some l
  | .bool, .bool, l => some l
  | _, _, _ => none
def listOf (M : Mem) (σ : ETy) (x : SV) : Option (List σ.T) :=
  match x with
  | .v (.slice none 0 0) => some []
  | x => (listS M x).bind fun p => castL p.1 σ p.2
def appendS (E : Env) (M : Mem) (κ : Nat) (e : TypeId) (τ : ETy) (s : SV) (lx : List τ.T) : OpT :=
  match s with
  | .own k => match M k with
    | some (.row σ l ty) => match castL σ τ l with
      | some l => .need (Nat.ble ((l.length + lx.length) * bytesOfT E e) lim) (.eff (.own κ) ((M.del k).set κ (.row τ (l ++ lx) ty)))
      | none => .fail
    | _ => .fail
  | .v (.slice none 0 0) => .need (Nat.ble (lx.length * bytesOfT E e) lim) (.val (.own κ) (some (.row τ lx e)))
  | .rdx σ l => match castL σ τ l with
    | some l => .need (!(Nat.beq lx.length 0) || Nat.beq l.length 0) (.need (Nat.ble ((l.length + lx.length) * bytesOfT E e) lim) (.val (.own κ) (some (.row τ (l ++ lx) e))))
    | none => .fail
  | _ => .fail
def minmaxS (mx : Bool) : List SV → OpT
  | [.v (.int k a), .v (.int k' b)] => bif k == k' then .val (svI k (bif mx then (if b > a then b else a) else (if b < a then b else a))) none else .fail
  | _ => .fail
/-- the element type of a slice type: its cells and bytes are known, its zero value decodes -/
def elemTy (E : Env) (t : TypeId) : Option (TypeId × ETy) := match E.P.underlying t with
  | some (.slice e) => match E.ety e with
    | some τ => match zeroC E e with
      | some z => match decE τ z with
        | some _ => bif Nat.beq (szE τ) (sizeT E e) && (Nat.blt 0 (bytesOfT E e) && Nat.ble (bytesOfT E e) 65536) then some (e, τ) else none
        | none => none
      | none => none
    | none => none
  | _ => none
def isSliceT (E : Env) (t : TypeId) : Bool := match E.P.underlying t with
  | some (.slice _) => true
  | _ => false
/-- dst, overwritten from its start on -/
def copyL {α : Type} (l lx : List α) : List α := lx.take l.length ++ l.drop lx.length
def srcOf (τ : ETy) : SV → Option (List τ.T)
  | .rd σ l => castL σ τ l
  | .v (.slice none 0 0) => some []
  | _ => none
def copyS (E : Env) (M : Mem) (e : TypeId) (τ : ETy) (d : SV) (lx : List τ.T) : OpT :=
  match d with
  | .own k => match M k with
    | some (.row σ l ty) => match castL σ τ l with
      | some l => .eff (svI .i64 (min lx.length l.length : Nat)) (M.set k (.row τ (copyL l lx) ty))
      | none => .fail
    | _ => .fail
  | .win k sz lo => match M k with
    | some (.row σ l ty) => match castL σ τ l with
      | some l => bif Nat.beq sz (szE τ) then .eff (svI .i64 (min lx.length (l.length - lo) : Nat)) (M.set k (.row τ (l.take lo ++ copyL (l.drop lo) lx) ty)) else .fail
      | none => .fail
    | _ => .fail
  | _ => .fail
def capS : SV → Option Nat
  | .v (.slice none 0 0) => some 0
  | .rdx _ l => some l.length
  | _ => none
def zeroE (E : Env) (e : TypeId) (τ : ETy) : Option τ.T := (zeroC E e).bind (decE τ)
def builtinS (E : Env) (M : Mem) (κ : Nat) (b : Builtin) (tys : Array TypeId) (args : List SV) : OpT :=
  match b, args, tys[0]? with
  | .len, [x], some t => match E.P.underlying t with
    | some (.array n _) => bif Nat.ble n lim then .val (svI .i64 n) none else .fail
    | some .string => match x with
      | .v (.string s) => .val (svI .i64 s.size) none
      | _ => .fail
    | some (.slice _) => match lenS M x with
      | some n => .val (svI .i64 n) none
      | none => .fail
    | _ => .fail
  | .append, [s, x], some t => match elemTy E t, tys[1]? with
    | some (e, τ), some t' => bif isSliceT E t' then (match listOf M τ x with
      | some lx => appendS E M κ e τ s lx
      | none => .fail) else bif isIntT E t' then (match s, x, zeroE E e τ with
      | .v (.slice none 0 0), .v (.int .i64 n), some y => .need (decide (0 ≤ n) && decide (n * bytesOfT E e ≤ (lim : Int))) (.val (.own κ) (some (.row τ (List.replicate n.toNat y) e)))
      | _, _, _ => .fail) else .fail
    | _, _ => .fail
  | .cap, [x], some t => match E.P.underlying t with
    | some (.slice _) => match capS x with
      | some n => .val (svI .i64 n) none
      | none => .fail
    | _ => .fail
  | .copy, [d, x], some t => match elemTy E t, tys[1]? with
    | some (e, τ), some t' => bif isSliceT E t' then (match srcOf τ x with
      | some lx => copyS E M e τ d lx
      | none => .fail) else .fail
    | _, _ => .fail
  | .min, args, _ => minmaxS false args
  | .max, args, _ => minmaxS true args
  | _, _, _ => .fail

def makeSliceS (E : Env) (t : TypeId) (len cap : SV) (κ : Nat) : OpT :=
  match elemTy E t, len, cap with
  | some (e, τ), .v (.int _ n), .v (.int _ c) => match zeroE E e τ with
    | some y => .need (decide (0 ≤ n) && (decide (n = c) && decide (n * bytesOfT E e ≤ (lim : Int)))) (.val (.own κ) (some (.row τ (List.replicate n.toNat y) e)))
    | none => .fail
  | _, _, _ => .fail

def buildP (f : Nat → List SV → SV → Option (List SV)) : List SV → List (Nat × SV) → Option (List SV)
  | cs, [] => some cs
  | cs, p :: r => (f p.1 cs p.2).bind fun cs => buildP f cs r
def buildC (E : Env) (t : TypeId) (parts : List (Nat × SV)) : Option (List SV) :=
  (zeroC E t).bind fun z => match E.P.underlying t with
    | some (.struct fs) => bif fs.toList.all (fun f => (E.P.info? f.type).isSome) then buildP (fun i cs x => fs[i]?.bind fun f => storeC E f.type cs f.offset 0 1 x) z parts else none
    | some (.array _ e) => bif (E.P.info? e).isSome then buildP (fun i cs x => storeC E e cs (i * sizeT E e) 0 1 x) z parts else none
    | _ => none
def rowSet (M : Mem) (τ : ETy) (l : List τ.T) (p : Nat × SV) : Option (List τ.T) :=
  (liftA M p.2).bind fun x => (cellsS x).bind fun cs => (decE τ cs).bind fun y => bif Nat.blt p.1 l.length then some (l.set p.1 y) else none
def rowSets (M : Mem) (τ : ETy) : List τ.T → List (Nat × SV) → Option (List τ.T)
  | l, [] => some l
  | l, p :: r => (rowSet M τ l p).bind fun l => rowSets M τ l r
def keysP : List (Nat × SV) → List Nat
  | [] => []
  | p :: r => keysA p.2 ++ keysP r
def buildSliceS (E : Env) (M : Mem) (κ : Nat) (t : TypeId) (len : Nat) (parts : List (Nat × SV)) : OpT :=
  match elemTy E t with
  | some (e, τ) => match zeroE E e τ with
    | some y => match rowSets M τ (List.replicate len y) parts with
      | some l => bif Nat.ble (len * sizeT E e) (2 ^ 24) then (match keysP parts with
        | [] => bif Nat.beq len 0 then .val (.rdx τ []) none else .val (.own κ) (some (.row τ l e))
        | ks => .eff (.own κ) ((freezeM M ks).set κ (.row τ l e))) else .fail
      | none => .fail
    | none => .fail
  | none => match E.P.underlying t with
    | some (.slice e) => match zeroC E e with
      | some z => match buildP (fun i cs x => storeC E e cs (i * sizeT E e) 0 1 x) ((List.replicate len z).flatten) parts with
        | some cs => bif (Nat.blt 0 len && Nat.beq (sizeC z) (sizeT E e)) && (Nat.blt 0 (sizeT E e) && Nat.ble (len * sizeT E e) (2 ^ 24)) then .val (.cs κ len (sizeT E e)) (some (.cells cs e)) else .fail
        | none => .fail
      | none => .fail
    | _ => .fail

/-- maps with int keys -/
def mapKd (E : Env) (t : TypeId) : Option (IntKind × TypeId) := match E.P.underlying t with
  | some (.map k e) => match E.P.underlying k with
    | some (.int kd) => some (kd, e)
    | _ => none
  | _ => none
def notIn (n : Int) : List (Int × SV) → Bool
  | [] => true
  | p :: r => !(p.1 == n) && notIn n r
def zero1 (E : Env) (e : TypeId) : Option SV := (E.P.info? e).bind fun i => i.zero.bind fun
  | .agg _ => (zeroC E e).map .agg
  | v => some (constS v)
def makeMapS (E : Env) (t : TypeId) (r : Option SV) (κ : Nat) : OpT := match mapKd E t, r with
  | some (kd, _), none => .val (.map κ) (some (.map kd []))
  | some (kd, _), some (.v (.int _ _)) => .val (.map κ) (some (.map kd []))
  | _, _ => .fail
def insertS (E : Env) (M : Mem) (t : TypeId) (m k x : SV) : OpT := match mapKd E t, m, k with
  | some (kd, _), .map key, .v (.int kd' n) => match M key with
    | some (.map kd'' es) => bif kd == kd' && (kd == kd'' && notIn n es) then .eff .undef (M.set key (.map kd (es ++ [(n, x)]))) else .fail
    | _ => .fail
  | _, _, _ => .fail
def lookupM (k : Int) (none_ : OpT) (some_ : SV → OpT) : List (Int × SV) → OpT
  | [] => none_
  | (k', x) :: r => .split (k == k') (some_ x) (lookupM k none_ some_ r)
def lookupS (E : Env) (M : Mem) (t : TypeId) (m k : SV) (ok : Bool) : OpT := match mapKd E t, m, k with
  | some (kd, e), .map key, .v (.int kd' n) => match M key, zero1 E e with
    | some (.map kd'' es), some z => bif kd == kd' && kd == kd'' then lookupM n (.val (bif ok then .tup [z, .b false] else z) none) (fun x => .val (bif ok then .tup [x, .b true] else x) none) es else .fail
    | _, _ => .fail
  | _, _, _ => .fail

/-- a range over a map; the entry that it stands at -/
def rangeS (E : Env) (M : Mem) (t : TypeId) (m : SV) (κ : Nat) : OpT := match mapKd E t, m with
  | some (kd, _), .map key => match M key with
    | some (.map kd' es) => bif kd == kd' then .eff (.iter κ) ((M.del key).set κ (.iter kd es (es.map fun _ => false) none)) else .fail
    | _ => .fail
  | _, _ => .fail
def entryS (M : Mem) : SV → Option SV
  | .iter k => match M k with
    | some (.iter kd es _ (some i)) => es[i]?.map fun p => .tup [svI kd p.1, p.2]
    | _ => none
  | _ => none
/-- a value in an interface -/
def ifaceS (E : Env) (t : TypeId) (x : SV) : Option SV := match E.P.underlying t with
  | none | some (.interface _) => none
  | some _ => match x with
    | .v x => some (.v (.iface t x))
    | .agg [] => some (.v (.iface t (.agg #[])))
    | _ => none
def stepOp (E : Env) (T : Tmps) (M : Mem) (κ : Nat) (op : Op) : OpT :=
  match op with
  | .move x | .assign x => .val (opd T x) none
  | .pick c a b => match opd T c with
    | .b true => .val (opd T a) none
    | .b false => .val (opd T b) none
    | .v (.bool q) => .split q (.val (opd T a) none) (.val (opd T b) none)
    | _ => .fail
  | .alloc t => match zeroC E t with
    | some cs => .val (.loc κ 0 0 1) (some (.cells cs t))
    | none => .fail
  | .box t x => match cellsS (opd T x) with
    | some cs => .val (.loc κ 0 0 1) (some (.cells cs t))
    | none => .fail
  | .build t parts => .ofOpt ((buildC E t (parts.toList.map fun p => (p.1, opd T p.2))).map .agg)
  | .buildSlice t len parts => buildSliceS E M κ t len (parts.toList.map fun p => (p.1, opd T p.2))
  | .load t a => .ofOpt (loadS E M t (opd T a))
  | .store t a x => match storeS E M t (opd T a) (opd T x) with
    | some M' => .eff .undef M'
    | none => .fail
  | .nilCheck x => match opd T x with
    | .loc .. | .gptr .. | .pp .. | .rptr .. | .optr .. => .val (opd T x) none
    | .fn (.func _) _ _ => .val (opd T x) none
    | _ => .fail
  | .binOp op t x y _ => binS E t op (opd T x) (opd T y)
  | .unOp op _ x => unS op (opd T x)
  | .convert src dst x => convS E src dst (opd T x)
  | .makeFunc fn first cap => .val (.fn fn (first.toList.map (opd T)) (cap.toList.map (opd T))) none
  | .makeMap t r => makeMapS E t (r.map (opd T)) κ
  | .insert t m k x => insertS E M t (opd T m) (opd T k) (opd T x)
  | .mapUpdate t m k x => insertS E M t (opd T m) (opd T k) (opd T x)
  | .lookup t m k ok => lookupS E M t (opd T m) (opd T k) ok
  | .range t m => rangeS E M t (opd T m) κ
  | .entry it => .ofOpt (entryS M (opd T it))
  | .makeInterface t x => .ofOpt (ifaceS E t (opd T x))
  | .makeSlice t l c => makeSliceS E t (opd T l) (opd T c) κ
  | .slice t x lo hi mx => sliceS E M κ t (opd T x) (lo.map (opd T)) (hi.map (opd T)) (mx.map (opd T))
  | .fieldAddr s x f => .ofOpt (fieldAddrS E s (opd T x) f)
  | .field s x f => .ofOpt (fieldS E s (opd T x) f)
  | .indexAddr t x i => indexAddrS E M t (opd T x) (opd T i)
  | .index t x i => indexS E t (opd T x) (opd T i)
  | .extract x i => match opd T x with
    | .tup vs => .ofOpt vs[i]?
    | _ => .fail
  | .call c => match c.callee with
    | .builtin b => builtinS E M κ b c.argTypes (c.args.toList.map (opd T))
    | _ => .fail
  | _ => .fail

/-! sequences -/
structure St where
  T : Tmps
  M : Mem
  κ : Nat
  n : Nat
inductive Ex where
  | normal
  | exit (id : Nat)
  | ret

def Mem.new (M : Mem) (κ : Nat) : Option Blk → Mem
  | none => M
  | some b => M.set κ b
/-- a value is put; an open bool parts the way -/
def putK (n : Nat) (T : Tmps) (d : Option Nat) (v : SV) (K : Tmps → Tree) : Tree := match d, v with
  | none, _ => K T
  | some d, .v (.bool q) => bif Nat.blt d n then (bif q then K (T.put (some d) (.b true)) else K (T.put (some d) (.b false))) else .fail
  | some d, v => bif Nat.blt d n then K (T.put (some d) v) else .fail
/-- eff: is a change of the memory let? -/
def OpT.cps (eff : Bool) (M : Mem) (κ : Nat) (K : SV → Mem → Tree) : OpT → Tree
  | .val v b => K v (M.new κ b)
  | .eff v M' => bif eff then K v M' else .fail
  | .need q t => bif q then t.cps eff M κ K else .fail
  | .split q a b => bif q then a.cps eff M κ K else b.cps eff M κ K
  | .fail => .fail

/-- a function's number and its arguments, from the callee's value -/
def calleeS (f : SV) (args : List SV) : Option (FuncId × List SV) := match f with
  | .fn (.func f) first cap => some (f, first ++ (args ++ cap))
  | _ => none
/-- no slice lies in it -/
def flat1 : List SV → Bool
  | [] => true
  | .v _ :: r | .b _ :: r | .arr .. :: r => flat1 r
  | _ => false
def flatA : SV → Bool
  | .agg cs => flat1 cs
  | .v _ | .b _ => true
  | _ => false
def flatL : List SV → Bool
  | [] => true
  | s :: r => flatA s && flatL r
def flatS : SV → Bool
  | .tup vs => flatL vs
  | s => flatA s

abbrev KT := SV → Mem → Nat → Tree
/-- how calls in place go: of a function; of a loop's round. Two ways on: by a return, by a panic. -/
structure Hooks where
  call : FuncId → List SV → Mem → Nat → KT → KT → Tree
  yld : Nat → List SV → Mem → Nat → KT → KT → Tree
def noK : KT := fun _ _ _ => .fail

def evCallOp (E : Env) (H : Hooks) (eff : Bool) (f : FuncId) (args : List SV) (Mv M : Mem) (κ : Nat) (K Kp : KT) : Tree :=
  match E.spec f with
  | some S => match liftL Mv args with
    | some args' => match S.run args' with
      | some (pre, x) => bif pre then (match keysL args with
          | [] => .letv S.wf x fun a => K (S.enc a) M (κ + 1)
          | ks => .letv S.wf x fun a => bif flatS (S.enc a) then K (S.enc a) M (κ + 1) else bif eff then K (S.enc a) (freezeM M ks) (κ + 1) else bif frozenL Mv ks then K (S.enc a) M (κ + 1) else .fail) else .fail
      | none => .fail
    | none => match liftPL Mv args with
      | some args' => match S.run args' with
        | some (pre, x) => bif pre then .letv S.wf x fun a => bif flatS (S.enc a) then K (S.enc a) M (κ + 1) else .fail else .fail
        | none => .fail
      | none => .fail
  | none => bif eff then H.call f args M κ K Kp else .fail

def guardS (ops : Array Oper) (T : Tmps) : Option (Nat × Bool) → Option Bool
  | none => some true
  | some (j, want) => match (ops[j]?).bind (·.dst) with
    | some d => match T d with
      | .b q => some (q == want)
      | .undef => some false
      | _ => none
    | none => none

/-- a slice against nil: is the list empty? (An empty slice may be nil or not.) -/
def nilCmp (E : Env) (M : Mem) (op : BinOp) (t : TypeId) (x y : SV) : Option Bool :=
  match op, y, E.P.underlying t with
  | .eql, .v (.slice none 0 0), some (.slice _) => (listS M x).map fun p => Nat.beq p.2.length 0
  | .neq, .v (.slice none 0 0), some (.slice _) => (listS M x).map fun p => Nat.beq p.2.length 0
  | _, _, _ => none
def neqB : BinOp → Bool
  | .neq => true
  | _ => false
/-- a range's next entry: any that has not come yet -/
def nextT (key : Nat) (kd : IntKind) (all : List (Int × SV)) (dn : List Bool) (M : Mem) (K : SV → Mem → Tree) : Nat → List (Int × SV) → Tree
  | _, [] => bif dn.all (fun q => q) then K (.tup [.b false]) M else .triv
  | i, p :: es => .fork (bif dn.getD i true then .triv else K (.tup [.b true, svI kd p.1, p.2]) (M.set key (.iter kd all (dn.set i true) (some i)))) (nextT key kd all dn M K (i + 1) es)
def evNext (M : Mem) (x : SV) (K : SV → Mem → Tree) : Tree := match x with
  | .iter key => match M key with
    | some (.iter kd es dn _) => bif Nat.beq dn.length es.length then nextT key kd es dn M K 0 es else .fail
    | _ => .fail
  | _ => .fail
/-- One operation; Mv: the memory that it may look into, s.M: the memory that there is. -/
def evOp (E : Env) (H : Hooks) (eff : Bool) (ops : Array Oper) (o : Oper) (Mv : Mem) (s : St) (K : St → Tree) (Kp : KT) : Tree :=
  match guardS ops s.T o.guard with
  | none => .fail
  | some false => putK s.n s.T o.dst .undef fun T => K ⟨T, s.M, s.κ + 1, s.n⟩
  | some true => match o.op with
    | .call c => match c.callee with
      | .value f => match calleeS (opd s.T f) (c.args.toList.map (opd s.T)) with
        | some (f, args) => bif E.callee f then evCallOp E H eff f args Mv s.M s.κ (fun v M κ => putK s.n s.T o.dst v fun T => K ⟨T, M, κ, s.n⟩) Kp else .fail
        | none => match opd s.T f with
          | .yld key => bif eff then H.yld key (c.args.toList.map (opd s.T)) s.M s.κ (fun v M κ => putK s.n s.T o.dst v fun T => K ⟨T, M, κ, s.n⟩) Kp else .fail
          | _ => .fail
      | _ => (stepOp E s.T Mv s.κ o.op).cps eff s.M s.κ fun v M => putK s.n s.T o.dst v fun T => K ⟨T, M, s.κ + 1, s.n⟩
    | .binOp op t x y _ => match nilCmp E Mv op t (opd s.T x) (opd s.T y) with
      | some q => bif eff then (bif q then .fork (putK s.n s.T o.dst (.b true) fun T => K ⟨T, s.M, s.κ + 1, s.n⟩) (putK s.n s.T o.dst (.b false) fun T => K ⟨T, s.M, s.κ + 1, s.n⟩) else putK s.n s.T o.dst (.b (neqB op)) fun T => K ⟨T, s.M, s.κ + 1, s.n⟩) else .fail
      | none => (stepOp E s.T Mv s.κ o.op).cps eff s.M s.κ fun v M => putK s.n s.T o.dst v fun T => K ⟨T, M, s.κ + 1, s.n⟩
    | .panic x => match opd s.T x with
      | .v (.iface t y) => bif eff then Kp (.v (.iface t y)) s.M (s.κ + 1) else .fail
      | _ => .fail
    | .next x isS => bif eff && !isS then evNext s.M (opd s.T x) fun v M => putK s.n s.T o.dst v fun T => K ⟨T, M, s.κ + 1, s.n⟩ else .fail
    | _ => (stepOp E s.T Mv s.κ o.op).cps eff s.M s.κ fun v M => putK s.n s.T o.dst v fun T => K ⟨T, M, s.κ + 1, s.n⟩

def evOps (E : Env) (H : Hooks) (ops : Array Oper) (Kp : KT) : List Oper → St → (St → Tree) → Tree
  | [], s, K => K s
  | o :: r, s, K => evOp E H true ops o s.M s (fun s => evOps E H ops Kp r s K) Kp

/-! a region whose order is drawn -/
def tmpsOf : List Operand → List Nat
  | [] => []
  | .tmp t :: r => t :: tmpsOf r
  | _ :: r => tmpsOf r
def readsO (ops : Array Oper) (o : Oper) : List Nat :=
  tmpsOf o.op.operands.toList ++ (match o.guard with | none => [] | some (j, _) => match (ops[j]?).bind (·.dst) with | some d => [d] | none => [])
/-- every operation of index i, from i on, against o at j: who writes what o reads stands in a fixed order to it; who writes what o writes is o -/
def chkO (b : List Nat) (j : Nat) (rs : List Nat) (d : Option Nat) : Nat → List Oper → Bool
  | _, [] => true
  | i, o :: r => (match o.dst with
      | none => true
      | some t => Nat.beq i j || ((bif rs.elem t then (bif Nat.blt i j then (b.getD j 0).testBit i else (b.getD i 0).testBit j) else true) && (match d with | some d => !Nat.beq d t | none => true))) && chkO b j rs d (i + 1) r
def chkR (ops : Array Oper) (b : List Nat) : Nat → List Oper → Bool
  | _, [] => true
  | j, o :: r => chkO b j (readsO ops o) o.dst 0 ops.toList && chkR ops b (j + 1) r
/-- edges lead backward -/
def backO : Nat → List Oper → Bool
  | _, [] => true
  | j, o :: r => o.after.toList.all (fun e => !Region.binds .any e || Nat.blt e.on j) && backO (j + 1) r
def drawOk (ops : Array Oper) (b : List Nat) : Bool := backO 0 ops.toList && chkR ops b 0 ops.toList
/-- who comes before whom, as bits -/
def bitsE (acc : List Nat) : List Edge → Nat
  | [] => 0
  | e :: r => bif Region.binds .any e then (2 ^ e.on ||| acc.getD e.on 0) ||| bitsE acc r else bitsE acc r
def beforeL : List Nat → List Oper → List Nat
  | acc, [] => acc
  | acc, o :: r => beforeL (acc ++ [bitsE acc o.after.toList]) r
/-- is j a barrier: all that stand ahead of it in the text come before it, all that stand behind it come after it -/
def barAhead (bj : Nat) : Nat → Bool
  | 0 => true
  | i + 1 => bj.testBit i && barAhead bj i
def barBehind (j : Nat) : List Nat → Bool
  | [] => true
  | bi :: r => bi.testBit j && barBehind j r
def barrier (b : List Nat) (j : Nat) : Bool := barAhead (b.getD j 0) j && barBehind j (b.drop (j + 1))
/-- the slot that an address within a region stems from -/
def rootT (ops : List Oper) : Nat → Nat → Nat
  | 0, t => t
  | n + 1, t => match ops.find? (fun o => match o.dst with
      | some d => Nat.beq d t
      | none => false) with
    | some o => match o.op with
      | .fieldAddr _ (.tmp x) _ => rootT ops n x
      | .indexAddr _ (.tmp x) _ => rootT ops n x
      | .move (.tmp x) => rootT ops n x
      | _ => t
    | none => t
/-- which operation makes the variable that a slot holds -/
def allocAt (t : Nat) : Nat → List Oper → Option Nat
  | _, [] => none
  | j, o :: r => match o.op, o.dst with
    | .alloc _, some d => bif Nat.beq d t then some j else allocAt t (j + 1) r
    | _, _ => allocAt t (j + 1) r
def storeKey (ops : List Oper) (T : Tmps) (js κs : Nat) (o : Oper) : Option Nat := match o.op with
  | .store _ (.tmp x) _ => match allocAt (rootT ops 8 x) 0 ops with
    | some j => bif Nat.ble js j then some (κs + (j - js)) else match T (rootT ops 8 x) with
      | .loc k _ _ _ => some k
      | _ => none
    | none => match T (rootT ops 8 x) with
      | .loc k _ _ _ => some k
      | _ => none
  | _ => none
/-- the stores up to the next barrier: who, which block -/
def storesL (ops : List Oper) (b : List Nat) (T : Tmps) (js κs : Nat) : Nat → List Oper → List (Nat × Nat)
  | _, [] => []
  | j, o :: r => bif barrier b j then [] else match storeKey ops T js κs o with
    | some k => (j, k) :: storesL ops b T js κs (j + 1) r
    | none => storesL ops b T js κs (j + 1) r
/-- the keys of the rows that a call's argument holds, as the stretch begins -/
def argKeys (ops : List Oper) (T : Tmps) (M : Mem) : Operand → List Nat
  | .tmp x => match ops.find? (fun o => match o.dst with
      | some d => Nat.beq d x
      | none => false) with
    | some o => match o.op with
      | .load _ (.tmp a) => match T (rootT ops 8 a) with
        | .loc k _ _ _ => match M k with
          | some (.cells cs _) => keys1 cs
          | _ => []
        | _ => []
      | .move (.tmp y) => keysA (T y)
      | _ => []
    | none => keysA (T x)
  | _ => []
def argsKeys (ops : List Oper) (T : Tmps) (M : Mem) : List Operand → List Nat
  | [] => []
  | x :: r => argKeys ops T M x ++ argsKeys ops T M r
/-- the rows that calls of this stretch are handed -/
def frzL (ops : List Oper) (b : List Nat) (T : Tmps) (M : Mem) : Nat → List Oper → List Nat
  | _, [] => []
  | j, o :: r => bif barrier b j then [] else (match o.op with
    | .call c => match c.callee with
      | .value _ => argsKeys ops T M c.args.toList
      | _ => []
    | _ => []) ++ frzL ops b T M (j + 1) r
/-- as a stretch begins, rows that its calls are handed are written no more -/
def St.pre (ops : List Oper) (b : List Nat) (j : Nat) (r : List Oper) (s : St) : St := ⟨s.T, freezeM s.M (frzL ops b s.T s.M j r), s.κ, s.n⟩
/-- one comes before the other in every order -/
def ordd (b : List Nat) (i j : Nat) : Bool := (b.getD j 0).testBit i || (b.getD i 0).testBit j
/-- block k is written by another operation that stands in no order to j -/
def hid (b : List Nat) (j k : Nat) : List (Nat × Nat) → Bool
  | [] => false
  | p :: r => (Nat.beq p.2 k && (!Nat.beq p.1 j && !ordd b p.1 j)) || hid b j k r
def hasW (j k : Nat) : List (Nat × Nat) → Bool
  | [] => false
  | p :: r => (Nat.beq p.1 j && Nat.beq p.2 k) || hasW j k r
/-- the memory that operation j may look into: of the blocks that this stretch (from operation js and key κs on) has made, those of its ancestors; of the others, those that none writes that stands in no order to it -/
def visM (b : List Nat) (ws : List (Nat × Nat)) (j js κs : Nat) (M : Mem) : Mem := fun k => bif hid b j k ws then none else bif Nat.blt k κs then M k else bif (b.getD j 0).testBit (js + (k - κs)) then M k else none
/-- what a store makes of which block -/
def stW (E : Env) (T : Tmps) (M : Mem) (t : TypeId) (a x : Operand) : Option (Nat × Blk) := match opd T a with
  | .loc k off ix n => match M k with
    | some (.cells cs ty) => (storeC E t cs off ix n (opd T x)).map fun cs' => (k, .cells cs' ty)
    | _ => none
  | _ => none
/-- an operation within a stretch -/
def evFree (E : Env) (H : Hooks) (ops : Array Oper) (o : Oper) (ws : List (Nat × Nat)) (j κs : Nat) (Mv : Mem) (s : St) (K : St → Tree) : Tree := match o.op with
  | .store t a x => match guardS ops s.T o.guard with
    | none => .fail
    | some false => putK s.n s.T o.dst .undef fun T => K ⟨T, s.M, s.κ + 1, s.n⟩
    | some true => match stW E s.T Mv t a x with
      | some p => bif hasW j p.1 ws then putK s.n s.T o.dst .undef fun T => K ⟨T, s.M.set p.1 p.2, s.κ + 1, s.n⟩ else .fail
      | none => .fail
  | _ => evOp E H false ops o Mv s K noK
def evDraw (E : Env) (H : Hooks) (ops : Array Oper) (b : List Nat) (Kp : KT) : Nat → Nat → Nat → List (Nat × Nat) → List Oper → St → (St → Tree) → Tree
  | _, _, _, _, [], s, K => K s
  | j, js, κs, ws, o :: r, s, K => bif barrier b j then
      evOp E H true ops o s.M s (fun s => evDraw E H ops b Kp (j + 1) (j + 1) s.κ (storesL ops.toList b s.T (j + 1) s.κ (j + 1) r) r (s.pre ops.toList b (j + 1) r) K) Kp
    else evFree E H ops o ws j κs (visM b ws j js κs s.M) s fun s => evDraw E H ops b Kp (j + 1) js κs ws r s K
def evRegion (E : Env) (H : Hooks) (ops : Array Oper) (draw : Bool) (s : St) (K : St → Tree) (Kp : KT) : Tree :=
  bif draw then (bif drawOk ops (beforeL [] ops.toList) then evDraw E H ops (beforeL [] ops.toList) Kp 0 0 s.κ (storesL ops.toList (beforeL [] ops.toList) s.T 0 s.κ 0 ops.toList) ops.toList (s.pre ops.toList (beforeL [] ops.toList) 0 ops.toList) K else .fail)
  else evOps E H ops Kp ops.toList s K

def resS (E : Env) (s : St) : ResultVar → Option SV
  | .tmp t => some (s.T t)
  | .cell a t => loadS E s.M t (s.T a)
def resL (E : Env) (s : St) : List ResultVar → Option (List SV)
  | [] => some []
  | r :: rs => (resS E s r).bind fun v => (resL E s rs).map (v :: ·)
def oneS : List SV → SV
  | [x] => x
  | l => .tup l

def initT : List SV → Nat → SV
  | [], _ => .undef
  | a :: _, 0 => a
  | _ :: r, n + 1 => initT r n

def evBody (E : Env) (fn : Func) (run : Code → St → (Ex → St → Tree) → Tree) (args : List SV) (M : Mem) (κ : Nat) (K : SV → St → Tree) : Tree :=
  match fn.body with
  | some body => bif Nat.ble args.length fn.ntmps then run body ⟨initT args, M, κ, fn.ntmps⟩ fun e s => match e with
    | .exit _ => .fail
    | _ => match resL E s fn.results.toList with
      | some vs => K (oneS vs) s
      | none => .fail
    else .fail
  | none => .fail
def evCode (E : Env) : Nat → Code → St → (Ex → St → Tree) → Tree
  | 0, _, _, _ => .fail
  | n + 1, c, s, K => match c with
    | .skip | .label _ => K .normal s
    | .region _ ops draw => evRegion E ⟨fun f args M κ K _ => match E.P.funcs[f]? with
      | some fn => evBody E fn (evCode E n) args M κ fun v s => K v s.M s.κ
      | none => .fail, fun _ _ _ _ _ _ => .fail⟩ ops draw s (K .normal) noK
    | .seq a b => evCode E n a s fun e s => match e with
      | .normal => evCode E n b s K
      | e => K e s
    | .cond c a b => match opd s.T c with
      | .b true => evCode E n a s K
      | .b false => evCode E n b s K
      | .v (.bool q) => bif q then evCode E n a s K else evCode E n b s K
      | _ => .fail
    | .block id body => evCode E n body s fun e s => match e with
      | .exit i => bif Nat.beq i id then K .normal s else K (.exit i) s
      | e => K e s
    | .loop body => evCode E n body s fun e s => match e with
      | .normal => evCode E n (.loop body) s K
      | e => K e s
    | .scope body => evCode E n body s K
    | .exit id => K (.exit id) s
    | .ret => K .ret s
    | _ => .fail

/-- The tree of a call. -/
def evF (E : Env) (n : Nat) (f : FuncId) (args : List SV) : Tree := match E.P.funcs[f]? with
  | some fn => evBody E fn (evCode E n) args (fun _ => none) 0 fun v s => match liftS s.M v with
    | some r => .leaf r
    | none => .fail
  | none => .fail
end Go.Proofs.YtchljgmcempedaaGreatDoor
