/- The engine, part B: the compiler from loaded code into the engine's small language. -/
import Derived.Test.YtnjjdpeglkiifaaMXA
namespace Go.Proofs.Ytnjjdpeglkiifaa.MX
open Go

def opd (N : Nat) : Operand → Option Opd
  | .tmp t => if t < N then some (.t t) else none
  | .const v => some (.c v)
  | .global g => some (.c (.pointer (some ⟨g, 0, none⟩)))
  | .func f => some (.c (.func (.func f) #[] #[]))

def opds (N : Nat) : List Operand → Option (List Opd)
  | [] => some []
  | x :: xs => bindV (opd N x) fun y => bindV (opds N xs) fun ys => some (y :: ys)

def opdO (N : Nat) : Option Operand → Option (Option Opd)
  | none => some none
  | some x => bindV (opd N x) fun y => some (some y)

def szOf (P : Program) (t : TypeId) : Option Nat := match P.info? t with | some i => some i.size | none => none
def bytesOfT (P : Program) (t : TypeId) : Option Nat := match P.info? t with | some i => some i.bytes | none => none
def zeroL (P : Program) (t : TypeId) : Option (List Value) :=
  match P.info? t with
  | some i => match i.zero with | some v => some (cellsOf v) | none => none
  | none => none
def isAggB (P : Program) (t : TypeId) : Option Bool :=
  match P.underlying t with
  | some (.struct _) => some true
  | some (.array _ _) => some true
  | some _ => some false
  | none => none

/-- The places of a struct's fields. -/
def placeS (P : Program) (fs : List Field) (i : Nat) : Option (Nat × Nat) :=
  match fs[i]? with
  | some f => bindV (szOf P f.type) fun s => some (f.offset, s)
  | none => none

def kindsFs (P : Program) (rec : TypeId → Option (List CK)) : List Field → Nat → Option (List CK)
  | [], _ => some []
  | f :: fs, off => if f.offset = off ∧ (f.name == "_") = false then bindV (rec f.type) fun k => bindV (szOf P f.type) fun n => if k.length = n ∧ 0 < n then bindV (kindsFs P rec fs (off + n)) fun ks => some (k ++ ks) else none else none

def copiesK (k : List CK) : Nat → List CK
  | 0 => []
  | n + 1 => k ++ copiesK k n

/-- The kinds of the cells of a type whose values are alike just if their cells are. -/
def kindsT (P : Program) : Nat → TypeId → Option (List CK)
  | 0, _ => none
  | d + 1, t => match P.underlying t with
    | some (.int _) => some [.i]
    | some .bool => some [.b]
    | some .string => some [.s]
    | some (.struct fs) => if P.stoodInHeld t then none else kindsFs P (kindsT P d) fs.toList 0
    | some (.array n e) => bindV (kindsT P d e) fun k => bindV (szOf P e) fun m => if k.length = m ∧ 0 < m then some (copiesK k n) else none
    | _ => none

def partsC (N : Nat) (place : Nat → Option (Nat × Nat)) : List (Nat × Operand) → Option (List (Nat × Nat × Opd))
  | [] => some []
  | (i, x) :: rest => bindV (place i) fun p => bindV (opd N x) fun y => bindV (partsC N place rest) fun r => some ((p.1, p.2, y) :: r)

def allSz (P : Program) : List Field → Bool
  | [] => true
  | f :: fs => (szOf P f.type).isSome && allSz P fs

def compCall (P : Program) (N : Nat) (c : Call) : Option MOp :=
  match c.callee with
  | .builtin b =>
    bindV (opds N c.args.toList) fun xs =>
    match b, xs with
    | .len, [x] => bindV c.argTypes[0]? fun t => match P.underlying t with
      | some .string => some (.p (.len true x))
      | some (.slice _) => some (.p (.len false x))
      | some (.array n _) => some (.p (.lenA n))
      | some (.pointer a) => match P.underlying a with | some (.array n _) => some (.p (.lenA n)) | _ => none
      | _ => none
    | .cap, [x] => bindV c.argTypes[0]? fun t => match P.underlying t with
      | some (.slice _) => some (.p (.cap x))
      | _ => none
    | .min, x :: ys => some (.p (.min x ys))
    | .max, x :: ys => some (.p (.max x ys))
    | .append, [x, y] => bindV c.argTypes[0]? fun t => bindV c.argTypes[1]? fun u => match P.underlying t, P.underlying u with
      | some (.slice e), some (.slice _) => bindV (szOf P e) fun sz => bindV (bytesOfT P e) fun by_ => bindV (zeroL P e) fun z => if z.length = sz ∧ 0 < sz ∧ 0 < by_ then some (.e (.append e sz by_ z x y)) else none
      | some (.slice e), some .string => bindV (szOf P e) fun sz => bindV (bytesOfT P e) fun by_ => bindV (zeroL P e) fun z => if z.length = sz ∧ 0 < sz ∧ 0 < by_ then some (.e (.append e sz by_ z x y)) else none
      | _, _ => none
    | .copy, [x, y] => bindV c.argTypes[0]? fun t => match P.underlying t with
      | some (.slice e) => bindV (szOf P e) fun sz => if 0 < sz then some (.e (.copy sz x y)) else none
      | _ => none
    | .clear, [x] => bindV c.argTypes[0]? fun t => match P.underlying t with
      | some (.slice e) => bindV (szOf P e) fun sz => bindV (zeroL P e) fun z => if z.length = sz ∧ 0 < sz then some (.e (.clear sz z x)) else none
      | _ => none
    | _, _ => none
  | .value f => bindV (opd N f) fun y => bindV (opds N c.args.toList) fun xs =>
    match y with
    | .c (.func (.func f) a b) => if a.isEmpty && b.isEmpty && okFn P f then some (.e (.call f xs)) else none
    | .t n => some (.e (.callv (.t n) xs))
    | _ => none
  | _ => none

def okOpd (N : Nat) : Operand → Bool
  | .tmp t => t < N
  | _ => true

def anyOp (N : Nat) (o : Oper) : Option MOp :=
  match o.op with
  | .select _ _ => none
  | .call _ => none
  | op => if op.operands.toList.all (okOpd N) then some (.e (.any o)) else none

def compOp (P : Program) (N : Nat) (o : Oper) : Option MOp :=
  match o.op with
  | .move x => bindV (opd N x) fun x => some (.p (.mov x))
  | .assign x => bindV (opd N x) fun x => some (.p (.mov x))
  | .pick c a b => bindV (opd N c) fun c => bindV (opd N a) fun a => bindV (opd N b) fun b => some (.p (.pick c a b))
  | .alloc e => bindV (zeroL P e) fun z => some (.e (.alloc e z))
  | .box e x => bindV (opd N x) fun x => some (.e (.box e x))
  | .build t parts => bindV (zeroL P t) fun z => match P.underlying t with
    | some (.struct fs) => if allSz P fs.toList then bindV (partsC N (placeS P fs.toList) parts.toList) fun ps => some (.p (.build z ps)) else none
    | some (.array _ e) => bindV (szOf P e) fun sz => bindV (partsC N (fun i => some (i * sz, sz)) parts.toList) fun ps => some (.p (.build z ps))
    | _ => none
  | .buildSlice t len parts => match P.underlying t with
    | some (.slice e) => bindV (szOf P e) fun sz => bindV (zeroL P e) fun z => if z.length = sz ∧ 0 < sz ∧ len * sz ≤ 16777216 then
        bindV (partsC N (fun i => some (i * sz, sz)) parts.toList) fun ps => some (.e (.bslice e len z ps)) else none
    | _ => none
  | .load t a => bindV (opd N a) fun a => bindV (isAggB P t) fun g => if g then bindV (szOf P t) fun n => some (.r (.loadN n a)) else some (.r (.load1 a))
  | .store t a x => bindV (opd N a) fun a => bindV (opd N x) fun x => bindV (szOf P t) fun n => some (.e (.store n a x))
  | .nilCheck x => bindV (opd N x) fun x => some (.p (.nilchk x))
  | .binOp op t x y _ => bindV (opd N x) fun x' => bindV (opd N y) fun y' => match P.underlying t with
    | some (.int _) => some (.p (.bin op x' y'))
    | some .string => some (.p (.bin op x' y'))
    | some .bool => (match op with | .eql => some (.p (.eq .b false x' y')) | .neq => some (.p (.eq .b true x' y')) | _ => none)
    | some (.pointer _) => (match op with | .eql => some (.p (.eq .p false x' y')) | .neq => some (.p (.eq .p true x' y')) | _ => none)
    | some (.slice _) => (match op with | .eql => some (.p (.eq .s false x' y')) | .neq => some (.p (.eq .s true x' y')) | _ => none)
    | some (.map _ _) => (match op with | .eql => some (.p (.eq .m false x' y')) | .neq => some (.p (.eq .m true x' y')) | _ => none)
    | some (.func _ _ _) => (match op with | .eql => some (.p (.eq .f false x' y')) | .neq => some (.p (.eq .f true x' y')) | _ => none)
    | some (.struct _) => if P.eqGuardType P.depth t then none else bindV (kindsT P 9 t) fun ks => (match op with | .eql => some (.p (.eqA ks false x' y')) | .neq => some (.p (.eqA ks true x' y')) | _ => none)
    | some (.array _ _) => if P.eqGuardType P.depth t then none else bindV (kindsT P 9 t) fun ks => (match op with | .eql => some (.p (.eqA ks false x' y')) | .neq => some (.p (.eqA ks true x' y')) | _ => none)
    | _ => anyOp N o
  | .unOp op _ x => bindV (opd N x) fun x => some (.p (.un op x))
  | .convert s d x => bindV (opd N x) fun x' => match P.underlying s, P.underlying d with
    | some (.int _), some (.int k) => some (.p (.conv k x'))
    | some .string, some (.slice e) => match P.underlying e with | some (.int .u8) => some (.e (.s2b e x')) | _ => none
    | _, _ => anyOp N o
  | .makeFunc f first captured => bindV (opds N first.toList) fun a => bindV (opds N captured.toList) fun b => some (.p (.func f a b))
  | .makeSlice t l c => bindV (opd N l) fun l => bindV (opd N c) fun c => match P.underlying t with
    | some (.slice e) => bindV (szOf P e) fun sz => bindV (bytesOfT P e) fun by_ => bindV (zeroL P e) fun z => if z.length = sz ∧ 0 < sz then some (.e (.mkslice e sz by_ z l c)) else none
    | _ => none
  | .slice t x lo hi mx => bindV (opd N x) fun x => bindV (opdO N lo) fun lo' => bindV (opdO N hi) fun hi' => bindV (opdO N mx) fun mx' =>
    if mx.isSome && hi.isNone then none else
    match P.underlying t with
    | some (.array n e) => bindV (szOf P e) fun sz => some (.p (.cutA n sz x lo' hi' mx'))
    | some .string => if mx.isSome then none else some (.p (.cutT x lo' hi'))
    | some (.slice e) => bindV (szOf P e) fun sz => some (.p (.cutS sz x lo' hi' mx'))
    | some (.pointer a) => match P.underlying a with | some (.array n e) => bindV (szOf P e) fun sz => some (.p (.cutA n sz x lo' hi' mx')) | _ => none
    | _ => none
  | .fieldAddr t x f => bindV (opd N x) fun x => match P.underlying t with
    | some (.struct fs) => match fs.toList[f]? with
      | some fd => bindV (szOf P fd.type) fun sz => if sz = 0 then none else some (.p (.addOff x fd.offset))
      | none => none
    | _ => none
  | .field t x f => bindV (opd N x) fun x => match P.underlying t with
    | some (.struct fs) => match fs.toList[f]? with
      | some fd => bindV (szOf P fd.type) fun sz => bindV (isAggB P fd.type) fun g => some (.p (.field fd.offset sz g x))
      | none => none
    | _ => none
  | .indexAddr t x i => bindV (opd N x) fun x => bindV (opd N i) fun i => match P.underlying t with
    | some (.slice e) => bindV (szOf P e) fun sz => some (.p (.idxS sz x i))
    | some (.array n e) => bindV (szOf P e) fun sz => some (.p (.idxA n sz x i))
    | _ => none
  | .index t x i => bindV (opd N x) fun x => bindV (opd N i) fun i => match P.underlying t with
    | some .string => some (.p (.idxT x i))
    | some (.array n e) => bindV (szOf P e) fun sz => bindV (isAggB P e) fun g => some (.p (.idxG n sz g x i))
    | _ => none
  | .extract t i => bindV (opd N t) fun x => some (.p (.extr x i))
  | .call c => match compCall P N c with
    | some m => some m
    | none => if o.op.operands.toList.all (okOpd N) then some (.e (.any o)) else none
  | _ => anyOp N o

def guardC (N : Nat) (ops : List Oper) : Option (Nat × Bool) → Option (Option (Nat × Bool))
  | none => some none
  | some (j, want) => match ops[j]? with
    | some o => match o.dst with
      | some d => if d < N then some (some (d, want)) else none
      | none => none
    | none => none

def dstOk (N : Nat) : Option Nat → Bool
  | none => true
  | some d => d < N

def compOps (P : Program) (N : Nat) (all : List Oper) : List Oper → Option (List MOper)
  | [] => some []
  | o :: os => if dstOk N o.dst then bindV (compOp P N o) fun m => bindV (guardC N all o.guard) fun g => bindV (compOps P N all os) fun ms => some (⟨o.dst, m, g⟩ :: ms) else none

/-! The order of a region that draws: as lists of numbers and Booleans. -/

def rdyB (ops : List Oper) (listed : List Bool) (i : Nat) : Bool :=
  !(listed.getD i true) && (match ops[i]? with | some o => o.after.toList.all (fun e => !Region.binds .any e || listed.getD e.on false) | none => false)

def isEff : MOp → Bool
  | .e _ => true
  | _ => false

def isRd : MOp → Bool
  | .r _ => true
  | _ => false

def noSelect : Oper → Bool
  | { op := .select _ _, .. } => false
  | _ => true

/-- Every operation that has not come up yet waits for number i, or is apart from it. -/
def apartB (ops : List Oper) (listed : List Bool) (i : Nat) (o : Oper) : Nat → List Oper → Bool
  | _, [] => true
  | j, p :: ps => (j == i || listed.getD j true || p.after.toList.any (fun e => Region.binds .any e && e.on == i) || o.apart ops.toArray p) && apartB ops listed i o (j + 1) ps

/-- Number i is waited for by number j, through others or not. -/
def reachB (ops : List Oper) (i : Nat) : Nat → Nat → Bool
  | 0, _ => false
  | n + 1, j => match ops[j]? with
    | some o => o.after.toList.any fun e => Region.binds .any e && (e.on == i || reachB ops i n e.on)
    | none => false

/-- Is there an operation that only reads, and need not come ahead of number j? -/
def needB (ops : List Oper) (ms : List MOper) (j : Nat) : Bool :=
  (List.range ms.length).any fun i => (match ms[i]? with | some m => isRd m.op && i != j && !reachB ops i ops.length j | none => false)

def pickB (ops : List Oper) (ms : List MOper) (listed : List Bool) : List Nat → Option Nat
  | [] => none
  | i :: is => match ops[i]?, ms[i]? with
    | some o, some m => if rdyB ops listed i && !isEff m.op && apartB ops listed i o 0 ops then some i else pickB ops ms listed is
    | _, _ => pickB ops ms listed is

def altS (ops : List Oper) (ms : List MOper) (listed : List Bool) (k : List Bool → Sch) : List Nat → Sch
  | [] => .no
  | i :: is => if rdyB ops listed i then .alt i (needB ops ms i) (k (listed.set i true)) (altS ops ms listed k is) else altS ops ms listed k is

def anyRdy (ops : List Oper) (listed : List Bool) : Bool := (List.range ops.length).any fun i => rdyB ops listed i

def mkSch (ops : List Oper) (ms : List MOper) : Nat → List Bool → Sch
  | 0, listed => if anyRdy ops listed then .bad else .done
  | n + 1, listed => match pickB ops ms listed (List.range ops.length) with
    | some i => .take i (mkSch ops ms n (listed.set i true))
    | none => if anyRdy ops listed then altS ops ms listed (fun l => mkSch ops ms n l) (List.range ops.length) else .bad

def compC (P : Program) (N : Nat) : Code → MCode
  | .skip => .skip
  | .region _ ops draw =>
    match compOps P N ops.toList ops.toList with
    | some ms => if draw then (if ops.toList.all noSelect && P.follows .mixedOrders then .draw ms (mkSch ops.toList ms ops.toList.length (List.replicate ops.toList.length false)) else .fail) else .ops ms
    | none => .fail
  | .seq a b => .seq (compC P N a) (compC P N b)
  | .cond c x y => match opd N c with | some c => .cond c (compC P N x) (compC P N y) | none => .fail
  | .block id c => .block id (compC P N c)
  | .loop c => .loop (compC P N c)
  | .exit id => .exit id
  | .ret => .ret
  | c => .raw c

def compRes (P : Program) (N : Nat) : List ResultVar → Option (List MRes)
  | [] => some []
  | .tmp t :: rs => if t < N then bindV (compRes P N rs) fun r => some (.tmp t :: r) else none
  | .cell a t :: rs => if a < N then bindV (isAggB P t) fun g => bindV (szOf P t) fun n => bindV (compRes P N rs) fun r => some (.cell a n g :: r) else none

end Go.Proofs.Ytnjjdpeglkiifaa.MX
