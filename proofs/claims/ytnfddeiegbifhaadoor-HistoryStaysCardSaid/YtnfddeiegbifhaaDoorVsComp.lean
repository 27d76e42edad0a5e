import Derived.Test.YtnfddeiegbifhaaDoorVsCd
/- The model's code as the ideal machine's. -/
namespace Go.Vs
open Go

def cOpd : Operand → Option Opd
  | .tmp t => some (.t t)
  | .const v => some (.c v)
  | .global _ => none
  | .func f => some (.f f)

def cOpt : Option Operand → Option (Option Opd)
  | none => some none
  | some x => (cOpd x).map some

def cOpds (xs : List Operand) : Option (List Opd) := mapO cOpd xs

def isAg (P : Program) (t : TypeId) : Option Bool :=
  match P.underlying t with
  | some (.struct _) | some (.array _ _) => some true
  | some _ => some false
  | none => none

def szT (P : Program) (t : TypeId) : Option Nat := (P.info? t).map (·.size)
def byT (P : Program) (t : TypeId) : Option Nat := (P.info? t).map (·.bytes)
/-- The cells of a type's zero value. -/
def zT (P : Program) (t : TypeId) : Option (List IV) := ((P.info? t).bind (·.zero)).bind fun v => if v.cells.toList.all Value.oneCell' then some (v.cells.toList.map ofS) else none

def nilOpd : Nat → Operand → Bool
  | 0, .const (.pointer none) => true
  | 1, .const (.slice none 0 0) => true
  | 2, .const .nilFunc => true
  | 3, .const .nilIface => true
  | _, _ => false

/-- A type of one cell that is no address. -/
def plainT (P : Program) (t : TypeId) : Bool :=
  match P.underlying t with
  | some .bool | some (.int _) | some .string => true
  | _ => false

/-- The cells' kinds of a type without addresses, in their order. -/
def flatS (P : Program) : Nat → TypeId → Option (List Nat)
  | 0, _ => none
  | d + 1, t => match P.underlying t with
    | some .bool => some [0]
    | some (.int _) => some [1]
    | some .string => some [2]
    | some (.struct fs) => if P.stoodInHeld t = false then flatF (flatS P d) fs.toList 0 else none
    | _ => none
where flatF (g : TypeId → Option (List Nat)) : List Field → Nat → Option (List Nat)
  | [], _ => some []
  | f :: fs, off => if f.offset = off ∧ f.name ≠ "_" then (g f.type).bind fun ks => if szT P f.type = some ks.length then (flatF g fs (off + ks.length)).bind fun r => some (ks ++ r) else none else none

def cNil (k : Nat) (op : BinOp) (x y : Operand) (a b : Opd) : Option Ins :=
  match op with
  | .eql => if nilOpd k y then some (.eqn k false a) else if nilOpd k x then some (.eqn k false b) else none
  | .neq => if nilOpd k y then some (.eqn k true a) else if nilOpd k x then some (.eqn k true b) else none
  | _ => none

def cBin (P : Program) (op : BinOp) (t : TypeId) (x y : Operand) : Option Ins :=
  (cOpd x).bind fun a => (cOpd y).bind fun b =>
  match P.underlying t with
  | some (.int _) => some (.bin op a b)
  | some .string => some (.bin op a b)
  | some .bool => match op with
    | .eql => some (.eqb false a b)
    | .neq => some (.eqb true a b)
    | _ => none
  | some (.struct _) => if P.eqGuardType P.depth t = false then (flatS P 8 t).bind fun ks => match op with
    | .eql => some (.eqs false ks a b)
    | .neq => some (.eqs true ks a b)
    | _ => none
    else none
  | some (.pointer te) => (cNil 0 op x y a b).orElse fun _ => match op with
    | .neq => if (P.info? te).isSome then some (.nep a b) else none
    | _ => none
  | some (.slice _) => cNil 1 op x y a b
  | some (.func _ _ _) => cNil 2 op x y a b
  | some (.interface _) => cNil 3 op x y a b
  | _ => none

def cCv (P : Program) (s d : TypeId) (x : Operand) : Option Ins :=
  (cOpd x).bind fun a =>
  match P.underlying s, P.underlying d with
  | some _, some (.int k) => some (.cvi k a)
  | some .string, some .string => some (.cvs a)
  | some (.slice e), some .string => if P.underlying e matches some (.int .u8) then some (.cvbs a) else none
  | some (.pointer t), some .unsafePointer => match szT P t with
    | some (_ + 1) => some (.tou a)
    | _ => none
  | some .unsafePointer, some (.pointer t) => match szT P t with
    | some (n + 1) => some (.fru t (n + 1) a)
    | _ => none
  | _, _ => none

def cParts (P : Program) (fs : Array Field) (ps : List (Nat × Operand)) : Option (List (Nat × Nat × Opd)) :=
  mapO (fun p => (fs[p.1]?).bind fun f => (szT P f.type).bind fun n => (cOpd p.2).bind fun x => some (f.offset, n, x)) ps

/-- The slice that is none. -/
def Opd.isNil : Opd → Bool
  | .c (.slice none 0 0) => true
  | _ => false
theorem Opd.isNil_ev {x : Opd} (h : x.isNil = true) (e : Env) : ev e x = .nsl := by
  unfold Opd.isNil at h; split at h
  · rfl
  · cases h


def hasBody (P : Program) (f : Nat) : Bool := match P.funcs[f]? with
  | some fn => fn.body.isSome && !(fn.name == "runtime.NumGoroutine")
  | none => false

/-- The functions without a text that are known. -/
def prOf (n : String) : Option Pr :=
  if n == "math/bits.Add64" then some .add64 else if n == "internal/bytealg.IndexByteString" then some .ixb else if n == "internal/bytealg.abigen_runtime_cmpstring" then some .cmps else if n == "internal/abi.NoEscape" then some .noe else none

/-- A byte. -/
def isByte (P : Program) (e : TypeId) : Bool := match P.underlying e with
  | some (.int .u8) => true
  | _ => false
/-- A type whose first field names it. -/
def selfT (P : Program) (t : TypeId) : Bool := match P.underlying t with
  | some (.struct fs) => match fs.toList with
    | f :: _ => match P.underlying f.type with
      | some (.pointer u) => u == t
      | _ => false
    | [] => false
  | _ => false

/-- The library's question whether two slices share memory, by whatever name. -/
def ovlNm (fn : Func) : Bool := fn.origin == "slices.overlaps" && (Extern.allGenericRows.lookup fn.name).isNone && (Extern.allTypedRows.lookup fn.name).isNone && (Extern.allRows.lookup fn.name).isNone && (Extern.allNextRows.lookup fn.name).isNone
def ovlT (P : Program) (fn : Func) : Bool := match fn.params.toList with
  | t :: _ => match P.underlying t with
    | some (.slice e) => (szT P e).isSome
    | _ => false
  | [] => false

def cCall (P : Program) (m : Nat) (c : Call) : Option Ins :=
  (cOpds c.args.toList).bind fun as =>
  match c.callee with
  | .value (.func f) => match P.funcs[f]? with
    | some fn => if fn.name == "runtime.NumGoroutine" then none
      else if fn.body.isSome then some (.call m (.f f) as)
      else if (fn.origin == "") = true then (prOf fn.name).map fun p => .pr p as
      else if ovlNm fn = true ∧ ovlT P fn = true then (match as with
        | [x, y] => some (.ovl x y)
        | _ => none)
      else none
    | none => none
  | .value f => (cOpd f).bind fun g => some (.call m g as)
  | .invoke _ _ => none
  | .builtin b => match b, as, c.argTypes.toList with
    | .len, [x], [t] => match P.underlying t with
      | some .string => some (.len true x)
      | some (.slice _) => some (.len false x)
      | some (.array n _) => some (.mv (.c (.int .i64 n)))
      | _ => none
    | .cap, [x], [t] => match P.underlying t with
      | some (.slice _) => some (.capo x)
      | _ => none
    | .append, [x, y], [t, u] => match P.underlying t with
      | some (.slice e) => (szT P e).bind fun n => (byT P e).bind fun b => match P.underlying u with
        | some (.slice _) | some .string => (zT P e).bind fun z => if z.length = n ∧ 0 < b ∧ 0 < n then some (if x.isNil = true then .apn n b y else if isByte P e = true ∧ n = 1 ∧ b = 1 then .apb e x y else .app n b x y) else none
        | some (.int _) => (zT P e).bind fun z => if z.length = n ∧ 0 < b ∧ 0 < n then some (.apz n b z x y) else none
        | _ => none
      | _ => none
    | .copy, [x, y], (t :: _) => match P.underlying t with
      | some (.slice e) => (szT P e).bind fun n => some (.copy n x y)
      | _ => none
    | .clear, [x], [t] => match P.underlying t with
      | some (.slice e) => (zT P e).bind fun z => some (.clear z.length z x)
      | _ => none
    | .unsafeSliceData, [x], _ => some (.usd x)
    | .unsafeString, [p, n], [t, _] => match P.underlying t with
      | some (.pointer e) => if P.cellsOf e = 1 then some (.ust e p n) else none
      | _ => none
    | .max, x :: r, _ => some (.mx (x :: r))
    | .min, x :: r, _ => some (.mn (x :: r))
    | _, _, _ => none

/-- One operation. -/
def cOp (P : Program) (im : Bool) (m : Nat) : Op → Option Ins
  | .move x => (cOpd x).map .mv
  | .assign x => (cOpd x).map .mv
  | .pick c a b => (cOpd c).bind fun c => (cOpd a).bind fun a => (cOpd b).bind fun b => some (.pick c a b)
  | .alloc t => (zT P t).map fun z => if selfT P t = true then .alt t z else .alloc z
  | .box t x => (szT P t).bind fun n => (cOpd x).bind fun x => some (if m = 3 then .boxf n x else .box n x)
  | .build t ps => (zT P t).bind fun z => match P.underlying t with
    | some (.struct fs) => if fs.toList.all (fun f => (szT P f.type).isSome) then (cParts P fs ps.toList).bind fun ps => some (.build z ps) else none
    | some (.array _ e) => (szT P e).bind fun n => (mapO (fun (p : Nat × Operand) => (cOpd p.2).bind fun x => some (p.1 * n, n, x)) ps.toList).bind fun ps => some (.build z ps)
    | _ => none
  | .buildSlice t n ps => match P.underlying t with
    | some (.slice e) => (szT P e).bind fun sz => (zT P e).bind fun z => (mapO (fun (p : Nat × Operand) => (cOpd p.2).bind fun x => some (p.1, x)) ps.toList).bind fun ps =>
        if n * sz ≤ 2 ^ 24 ∧ 0 < sz ∧ z.length = sz then some (.bslice n sz z ps) else none
    | _ => none
  | .load t a => (szT P t).bind fun n => (isAg P t).bind fun ag => (cOpd a).bind fun a => if ag = true ∨ n = 1 then some (if 4 ≤ m then .ldr ag n a (.t (m - 4)) else .load ag n a im) else none
  | .store t a x => (szT P t).bind fun n => (cOpd a).bind fun a => (cOpd x).bind fun x => some (.store n a x)
  | .nilCheck x => (cOpd x).map .nilck
  | .binOp op t x y _ => cBin P op t x y
  | .unOp op _ x => (cOpd x).map (.un op)
  | .convert s d x => cCv P s d x
  | .makeInterface t x => match P.underlying t with
    | some (.interface _) => none
    | some _ => (cOpd x).map (.mki t)
    | none => none
  | .makeFunc (.func f) first caps => if first.size = 0 then (cOpds caps.toList).map (.mkf f) else none
  | .makeSlice t n c => match P.underlying t with
    | some (.slice e) => (szT P e).bind fun sz => (byT P e).bind fun b => (zT P e).bind fun z => (cOpd n).bind fun n => (cOpd c).bind fun c => if 0 < sz ∧ 0 < b ∧ z.length = sz then some (.mksl sz b z n c) else none
    | _ => none
  | .slice t x lo hi mx => (cOpd x).bind fun x => (cOpt lo).bind fun lo => (cOpt hi).bind fun hi => (cOpt mx).bind fun mx =>
    match P.underlying t with
    | some .string => match mx with
      | none => some (.slst x lo hi)
      | _ => none
    | some (.slice e) => (szT P e).bind fun n => if mx.isSome = true ∧ hi.isNone = true then none else some (if im = true then .sli n x lo hi mx else .slsl n x lo hi mx)
    | _ => none
  | .fieldAddr s x f => match P.underlying s with
    | some (.struct fs) => (fs[f]?).bind fun f => (szT P f.type).bind fun n => (cOpd x).bind fun x => if n = 0 then none else some (.fad f.offset x)
    | _ => none
  | .field s x f => match P.underlying s with
    | some (.struct fs) => (fs[f]?).bind fun f => (szT P f.type).bind fun n => (isAg P f.type).bind fun ag => (cOpd x).bind fun x => if ag = true ∨ n = 1 then some (.fld ag f.offset n x) else none
    | _ => none
  | .indexAddr t x i => (cOpd x).bind fun x => (cOpd i).bind fun i => match P.underlying t with
    | some (.slice e) => (szT P e).bind fun n => some (if im = true then .iai n x i else .iad n x i)
    | some (.array k e) => (szT P e).bind fun n => some (.iar k n x i)
    | _ => none
  | .index t x i => (cOpd x).bind fun x => (cOpd i).bind fun i => match P.underlying t with
    | some .string => some (.ist x i)
    | some (.array k e) => (szT P e).bind fun n => (isAg P e).bind fun ag => if ag = true ∨ n = 1 then some (.iag k ag n x i) else none
    | _ => none
  | .extract x i => (cOpd x).map fun x => .ext x i
  | .call c => cCall P m c
  | _ => none

inductive Cls where
  | p | l | a | n | w | q
  deriving DecidableEq

/-- What an operation has to do with memory: nothing; it reads, or calls and leaves it; it makes a block; it writes. -/
def cls : Ins → Cls
  | .alloc _ | .box _ _ | .bslice _ _ _ _ | .mksl _ _ _ _ _ => .a
  | .apn _ _ _ => .n
  | .store _ _ _ | .app _ _ _ _ | .copy _ _ _ | .clear _ _ _ | .cvsb _ | .alt _ _ | .apb _ _ _ | .ust _ _ _ | .apz _ _ _ _ _ | .insv _ _ _ _ _ => .w
  | .load _ _ _ im => if im then .p else .l
  | .ldr _ _ _ _ => .q
  | .cvbs _ | .slsl _ _ _ _ _ | .iad _ _ _ | .capo _ | .tou _ | .fru _ _ _ | .nep _ _ | .usd _ | .ovl _ _ => .l
  | .call m _ _ => if m = 2 then .l else .w
  | _ => .p

/-- Annotations: what is kept behind each region and at each loop's head; how each call is taken. -/
abbrev Ann := List (List Nat)

def isCall : Op → Bool
  | .call { callee := .value _, .. } => true
  | _ => false

/-- A box: one that nobody writes is marked. -/
def isBox : Op → Bool
  | .box _ _ => true
  | _ => false

/-- A load beside which something writes: of a block that nothing writes there, if marked. -/
def isLoad : Op → Bool
  | .load _ _ => true
  | _ => false

/-- The guard's slot. -/
def cGrd (ops : Array Oper) : Option (Nat × Bool) → Option (Option (Nat × Bool))
  | none => some none
  | some (j, b) => ((ops[j]?).bind (·.dst)).map fun d => some (d, b)

def isCallI : Ins → Bool
  | .call _ _ _ => true
  | _ => false

/-- The slot is there. -/
def dstOk (nt : Nat) : Option Nat → Bool
  | some d => decide (d < nt)
  | none => true

def cOps (P : Program) (nt : Nat) (all : Array Oper) (imf : Nat → Bool) : Nat → List Oper → Ann → Option (List Rop × Ann)
  | _, [], an => some ([], an)
  | i, o :: r, an =>
    if dstOk nt o.dst = false then none else
    (if isCall o.op then match an with
      | [m] :: an => some (m, an)
      | _ => none
    else if isBox o.op then match an with
      | [0, 0, 0] :: an => some (3, an)
      | _ => some (0, an)
    else if isLoad o.op then match an with
      | [0, 0, 0, t] :: an => some (t + 4, an)
      | _ => some (0, an)
    else some (0, an)).bind fun (m, an) =>
    (cOp P (imf i) m o.op).bind fun ins => if (isCallI ins && !isCall o.op) = true then none else (cGrd all o.guard).bind fun g => (cOps P nt all imf (i + 1) r an).bind fun (rs, an) => some (⟨o.dst, g, ins⟩ :: rs, an)

def isW (r : Rop) : Bool := match cls r.ins with
  | .w => true
  | _ => false
def isTied (r : Rop) : Bool := match cls r.ins with
  | .p | .q => false
  | _ => true

def Ins.opds : Ins → List Opd
  | .tou x | .fru _ _ x | .usd x | .mv x | .box _ x | .boxf _ x | .load _ _ x _ | .nilck x | .eqn _ _ x | .un _ x | .cvi _ x | .cvs x | .cvbs x | .cvsb x | .mki _ x | .fad _ x | .fld _ _ _ x | .ext x _ | .len _ x | .capo x | .apn _ _ x | .clear _ _ x => [x]
  | .pick c a b => [c, a, b]
  | .alloc _ | .alt _ _ => []
  | .build _ ps => ps.map fun p => p.2.2
  | .bslice _ _ _ ps => ps.map fun p => p.2
  | .store _ a x | .ldr _ _ a x | .apz _ _ _ a x | .ovl a x => [a, x]
  | .insv _ _ s i v => [s, i, v]
  | .nep x y | .apb _ x y | .ust _ x y | .bin _ x y | .eqb _ x y | .eqs _ _ x y | .iad _ x y | .iai _ x y | .iar _ _ x y | .ist x y | .iag _ _ _ x y | .app _ _ x y | .copy _ x y | .mksl _ _ _ x y => [x, y]
  | .mkf _ cs | .mx cs | .mn cs | .pr _ cs => cs
  | .slst x lo hi => x :: (lo.toList ++ hi.toList)
  | .slsl _ x lo hi m | .sli _ x lo hi m => x :: (lo.toList ++ (hi.toList ++ m.toList))
  | .call _ f as => f :: as

def slotsOf : List Opd → List Nat
  | [] => []
  | .t n :: r => n :: slotsOf r
  | _ :: r => slotsOf r

/-- The slots that an operation looks at. -/
def Rop.looks (r : Rop) : List Nat := match r.grd with
  | some (g, _) => g :: slotsOf r.ins.opds
  | none => slotsOf r.ins.opds

def hasN (x : Nat) : List Nat → Bool
  | [] => false
  | y :: r => Nat.beq x y || hasN x r

def writes (d : Option Nat) (l : List Nat) : Bool := match d with
  | some d => hasN d l
  | none => false

/-- Must they come in the text's order? -/
def clash (ri rj : Rop) : Bool :=
  (isW ri && isTied rj) || (isTied ri && isW rj) || writes ri.dst rj.looks || writes rj.dst ri.looks || writes ri.dst rj.dst.toList

/-- 'k n', with n worked out first. -/
def forceN {α : Type} (n : Nat) (k : Nat → α) : α := match n with
  | 0 => k 0
  | m + 1 => k (m + 1)
theorem forceN_eq {α : Type} (n : Nat) (k : Nat → α) : forceN n k = k n := by cases n <;> rfl

/-- The operations before one, as bits; 'acc': those of the operations so far, the last first. -/
def ancOne (acc : List Nat) (k : Nat) : List Edge → Nat
  | [] => 0
  | e :: r => (if Region.binds .any e then 2 ^ e.on ||| (if e.on < k then acc.getD (k - 1 - e.on) 0 else 0) else 0) ||| ancOne acc k r

def ancs : List Oper → Nat → List Nat → List Nat
  | [], _, acc => acc.reverse
  | o :: r, k, acc => forceN (ancOne acc k o.after.toList) fun v => ancs r (k + 1) (v :: acc)

def pairOk (rj : Rop) (aj : Nat) : List Rop → Nat → Bool
  | [], _ => true
  | ri :: r, i => (aj.testBit i || !clash ri rj) && pairOk rj aj r (i + 1)

/-- May the operations come in whatever order their edges let? 'pre': the operations before. -/
def anyOk : List Oper → List Rop → List Nat → Nat → List Rop → Bool
  | o :: os, r :: rs, v :: vs, k, pre => (o.after.toList.all fun e => !Region.binds .any e || decide (e.on < k)) && pairOk r v pre 0 && anyOk os rs vs (k + 1) (pre ++ [r])
  | [], [], _, _, _ => true
  | _, _, _, _, _ => false

def anyOrder (ops : List Oper) (rs : List Rop) : Bool := anyOk ops rs (ancs ops 0 []) 0 []

/-- Loads beside which something writes: only out of immutable rows. As bits. -/
def wMask : List Rop → Nat → Nat
  | [], _ => 0
  | r :: rs, i => (if isW r then 2 ^ i else 0) ||| wMask rs (i + 1)

/-- 'ws': the writers; 'an': what stands before each; the one at j is beside a writer: i not before j and j not before i. -/
def besideW (ws : Nat) (an : List Nat) (j aj : Nat) : Nat → Nat → Bool
  | 0, _ => false
  | k + 1, i => (i != j && ws.testBit i && !aj.testBit i && !(an.getD i 0).testBit j) || besideW ws an j aj k (i + 1)

def imMask (ws : Nat) (an : List Nat) : List Nat → Nat → Nat
  | [], _ => 0
  | aj :: r, j => (if besideW ws an j aj an.length 0 then 2 ^ j else 0) ||| imMask ws an r (j + 1)

/-- Loads of blocks that nothing writes there: out of which slots. -/
def robs : List Rop → List Nat
  | [] => []
  | r :: rs => match r.ins with
    | .ldr _ _ _ (.t t) => t :: robs rs
    | .ldr _ _ _ _ => 0 :: robs rs
    | _ => robs rs
/-- They name slots. -/
def ldrT (rs : List Rop) : Bool := rs.all fun r => match r.ins with
  | .ldr _ _ _ (.t _) => true
  | .ldr _ _ _ _ => false
  | _ => true

/-- Are all those loads before it? -/
def ldrIn (a : Nat) : List Rop → Nat → Bool
  | [], _ => true
  | r :: rs, i => (match r.ins with
    | .ldr _ _ _ _ => a.testBit i
    | _ => true) && ldrIn a rs (i + 1)
/-- The first writer that all those loads are before. -/
def lateAt (all : List Rop) : List Rop → List Nat → Nat → Nat
  | r :: rs, a :: as, k => if (isW r && ldrIn a all 0) = true then k else lateAt all rs as (k + 1)
  | _ :: rs, [], k => lateAt all rs [] (k + 1)
  | [], _, k => k

/-- None of these slots is written. -/
def freeOf (l : List Nat) (rs : List Rop) : Bool := rs.all fun r => match r.dst with
  | some d => !hasN d l
  | none => true

/-- A region; one that the ideal machine has no words for stands as one that it never comes to. -/
def cRegion (P : Program) (nt : Nat) (ops : Array Oper) (draw : Bool) (an : Ann) : Option (Cd × Ann) :=
    if draw then
      (cOps P nt ops (fun _ => false) 0 ops.toList an).bind fun (r0, _) =>
      forceN (imMask (wMask r0 0) (ancs ops.toList 0 []) (ancs ops.toList 0 []) 0) fun im =>
      (cOps P nt ops im.testBit 0 ops.toList an).bind fun (rs, an) =>
      if P.follows .mixedOrders = true ∧ anyOrder ops.toList rs = true then match an with
        | keep :: an => if (robs rs).isEmpty = true then some (.rg rs keep, an) else if (ldrT rs && freeOf (robs rs) rs) = true then forceN (lateAt rs rs (ancs ops.toList 0 []) 0) fun c => some (.rgr c (robs rs) rs keep, an) else none
        | [] => none
      else none
    else
      (cOps P nt ops (fun _ => false) 0 ops.toList an).bind fun (rs, an) => match an with
        | keep :: an => some (.rg rs keep, an)
        | [] => none

def callsIn : List Oper → Nat
  | [] => 0
  | o :: r => if isCall o.op then callsIn r + 1 else callsIn r

def cCode (P : Program) (nt : Nat) : Code → Ann → Option (Cd × Ann)
  | .skip, an => some (.skip, an)
  | .ret, an => some (.ret, an)
  | .exit id, an => some (.exit id, an)
  | .region _ ops draw, an => match cRegion P nt ops draw an with
    | some r => some r
    | none => some (.bad, an.drop (callsIn ops.toList + 1))
  | .seq a b, an => (cCode P nt a an).bind fun (x, an) => (cCode P nt b an).bind fun (y, an) => some (.seq x y, an)
  | .cond c a b, an => (cOpd c).bind fun c => (cCode P nt a an).bind fun (x, an) => (cCode P nt b an).bind fun (y, an) => some (.cond c x y, an)
  | .block id b, an => (cCode P nt b an).bind fun (x, an) => some (.block id x, an)
  | .loop b, an => match an with
    | keep :: an => (cCode P nt b an).bind fun (x, an) => some (.loop keep x, an)
    | [] => none
  | _, an => some (.bad, an)

def cRes (P : Program) : ResultVar → Option RV
  | .tmp t => some (.t t)
  | .cell a t => (szT P t).bind fun n => (isAg P t).bind fun ag => if ag = true ∨ n = 1 then some (.cell a ag n) else none

/-- A function. -/
def cFn (P : Program) (an : Ann) (fn : Func) : Option Fn :=
  fn.body.bind fun c => (cCode P fn.ntmps c an).bind fun (cd, _) => (mapO (cRes P) fn.results.toList).bind fun rs =>
    some ⟨fn.params.size + fn.nfree, cd, rs⟩

end Go.Vs
