import Derived.Orders
import Derived.Below
import Derived.Laws.IdiomCopy
import Derived.Laws.Slices
import Derived.WalkKit
/- The ideal machine: values, heaps, and the relation between them and the model's memory. -/
namespace Go.Vs
open Go

/-- Ideal values: a slice that nobody writes any more bears its rows; one that may be written is a place in a block. -/
inductive IV where
  | und
  | bool (b : Bool)
  | int (k : IntKind) (n : Int)
  | str (s : ByteArray)
  | nptr
  | ptr (b g i j : Nat)
  | eptr (rows : List (List IV)) (i j : Nat)
  | nsl
  | imm (rows : List (List IV)) (full : Bool)
  | arr (b g off len cap : Nat) (ex : Bool)
  | fn (f : Nat) (caps : List IV)
  | nfn
  | nif
  | ifc (t : Nat) (v : IV)
  | agg (cs : List IV)
  | tup (vs : List IV)
  deriving Inhabited

/-- A block of the ideal heap: rows of cells; how often it has moved; whether it may be written no more; of what type its rows are, where that is known. -/
structure Bk where
  rows : List (List IV)
  gen : Nat := 0
  frz : Bool := false
  ty : Option Nat := none
  deriving Inhabited

abbrev Hp := List Bk

/-- Where a block lies: at which generation, in which real block, from which cell on, how many cells a row has, how many cells there are from there on. -/
structure Loc where
  gen : Nat
  blk : Nat
  org : Nat
  sz : Nat
  ext : Nat

structure Kp where
  ρ : Nat → Option Loc
  κ : Nat → Nat → Option Value

def Kp.le (K K' : Kp) : Prop :=
  (∀ b L, K.ρ b = some L → ∃ L', K'.ρ b = some L' ∧ L.gen ≤ L'.gen ∧ (L'.gen = L.gen → L' = L)) ∧
  (∀ b i v, K.κ b i = some v → K'.κ b i = some v)

theorem Kp.le_refl (K : Kp) : K.le K := ⟨fun _ L h => ⟨L, h, Nat.le_refl _, fun _ => rfl⟩, fun _ _ _ h => h⟩
theorem Kp.le_trans {K K' K'' : Kp} (h : K.le K') (h' : K'.le K'') : K.le K'' := by
  refine ⟨fun b L hb => ?_, fun b i v hv => h'.2 _ _ _ (h.2 _ _ _ hv)⟩
  obtain ⟨L1, h1, g1, e1⟩ := h.1 b L hb
  obtain ⟨L2, h2, g2, e2⟩ := h'.1 b L1 h1
  refine ⟨L2, h2, Nat.le_trans g1 g2, fun e => ?_⟩
  have : L1.gen = L.gen := by omega
  have e1' := e1 this
  subst e1'
  exact e2 e

def ad (b o : Nat) : Addr := ⟨b, o, none⟩

/-- Without any block. -/
def Kp.bare (K : Kp) : Kp := ⟨fun _ => none, K.κ⟩

/-- An ideal value stands for a value of the model. What lies in an immutable row names no block. -/
inductive VR : Kp → IV → Value → Prop where
  | und (K : Kp) (v : Value) : VR K .und v
  | bool (K : Kp) (b : Bool) : VR K (.bool b) (.bool b)
  | int (K : Kp) (k : IntKind) (n : Int) : VR K (.int k n) (.int k n)
  | str (K : Kp) (s : ByteArray) : VR K (.str s) (.string s)
  | nptr (K : Kp) : VR K .nptr (.pointer none)
  | ptr (K : Kp) (b g i j : Nat) (v : Value) (L : Loc) (h : K.ρ b = some L) (e : L.gen = g → v = .pointer (some (ad L.blk (L.org + i * L.sz + j)))) (hg : g ≤ L.gen) (hp : ∃ a, v = .pointer (some a)) : VR K (.ptr b g i j) v
  | eptr (K : Kp) (rows : List (List IV)) (i j b o sz : Nat) (us : Nat → Nat → Value)
      (hs : ∀ (r : Nat) (row : List IV), rows[r]? = some row → row.length = sz) (hk : ∀ (r : Nat) (row : List IV) (c : Nat), rows[r]? = some row → c < sz → K.κ b (o + r * sz + c) = some (us r c))
      (hv : ∀ (r : Nat) (row : List IV) (c : Nat) (x : IV), rows[r]? = some row → row[c]? = some x → VR K.bare x (us r c)) : VR K (.eptr rows i j) (.pointer (some (ad b (o + i * sz + j))))
  | nsl (K : Kp) : VR K .nsl (.slice none 0 0)
  | imm (K : Kp) (rows : List (List IV)) (full : Bool) (a : Addr) (n cap b o sz : Nat) (us : Nat → Nat → Value) (hn : n = rows.length)
      (ha : rows ≠ [] → a = ad b o) (hc : rows.length ≤ cap) (hf : full = true → cap = rows.length)
      (hs : ∀ (r : Nat) (row : List IV), rows[r]? = some row → row.length = sz) (hk : ∀ (r : Nat) (row : List IV) (c : Nat), rows[r]? = some row → c < sz → K.κ b (o + r * sz + c) = some (us r c))
      (hv : ∀ (r : Nat) (row : List IV) (c : Nat) (x : IV), rows[r]? = some row → row[c]? = some x → VR K.bare x (us r c)) : VR K (.imm rows full) (.slice (some a) n cap)
  | arr (K : Kp) (b g off len cap : Nat) (ex : Bool) (v : Value) (L : Loc) (h : K.ρ b = some L) (hg : g ≤ L.gen)
      (e : L.gen = g → ∃ a cap', v = .slice (some a) len cap' ∧ (0 < cap' → a = ad L.blk (L.org + off * L.sz)) ∧ cap ≤ cap' ∧ len ≤ cap ∧ (ex = true → cap' = cap) ∧ (off + cap') * L.sz ≤ L.ext) (hp : ∃ a c, v = .slice (some a) len c) : VR K (.arr b g off len cap ex) v
  | fn (K : Kp) (f : Nat) (caps : List IV) (us : Array Value) (hl : us.size = caps.length) (hv : ∀ (i : Nat) (x : IV) (y : Value), caps[i]? = some x → us[i]? = some y → VR K x y) : VR K (.fn f caps) (.func (.func f) #[] us)
  | nfn (K : Kp) : VR K .nfn .nilFunc
  | nif (K : Kp) : VR K .nif .nilIface
  | ifc (K : Kp) (t : Nat) (v : IV) (u : Value) (h : VR K v u) : VR K (.ifc t v) (.iface t u)
  | agg (K : Kp) (cs : List IV) (us : Array Value) (hl : us.size = cs.length) (hv : ∀ (i : Nat) (x : IV) (y : Value), cs[i]? = some x → us[i]? = some y → VR K x y) : VR K (.agg cs) (.agg us)
  | tup (K : Kp) (cs : List IV) (us : Array Value) (hl : us.size = cs.length) (hv : ∀ (i : Nat) (x : IV) (y : Value), cs[i]? = some x → us[i]? = some y → VR K x y) : VR K (.tup cs) (.tuple us)

theorem Kp.bare_mono {K K' : Kp} (h : K.le K') : K.bare.le K'.bare := ⟨fun _ _ e => (by cases e), h.2⟩
theorem Kp.bare_le (K : Kp) : K.bare.le K := ⟨fun _ _ e => (by cases e), fun _ _ _ h => h⟩

theorem VR.mono {K : Kp} {x : IV} {v : Value} (h : VR K x v) : ∀ {K' : Kp}, K.le K' → VR K' x v := by
  induction h with
  | und K v => exact fun _ => .und _ v
  | bool K b => exact fun _ => .bool _ b
  | int K k n => exact fun _ => .int _ k n
  | str K s => exact fun _ => .str _ s
  | nptr K => exact fun _ => .nptr _
  | ptr K b g i j v L h e hg hp =>
    intro K' hK
    obtain ⟨L', h', g', e'⟩ := hK.1 b L h
    refine .ptr _ b g i j v L' h' (fun he => ?_) (by omega) hp
    have : L'.gen = L.gen := by omega
    rw [e' this] at he ⊢
    exact e he
  | eptr K rows i j b o sz us hs hk _ ih => exact fun hK => .eptr _ rows i j b o sz us hs (fun r row c h1 h2 => hK.2 _ _ _ (hk r row c h1 h2)) (fun r row c x h1 h2 => ih r row c x h1 h2 (Kp.bare_mono hK))
  | nsl K => exact fun _ => .nsl _
  | imm K rows full a n cap b o sz us hn ha hc hf hs hk _ ih => exact fun hK => .imm _ rows full a n cap b o sz us hn ha hc hf hs (fun r row c h1 h2 => hK.2 _ _ _ (hk r row c h1 h2)) (fun r row c x h1 h2 => ih r row c x h1 h2 (Kp.bare_mono hK))
  | arr K b g off len cap ex v L h hg e hp =>
    intro K' hK
    obtain ⟨L', h', g', e'⟩ := hK.1 b L h
    refine .arr _ b g off len cap ex v L' h' (by omega) (fun he => ?_) hp
    have : L'.gen = L.gen := by omega
    rw [e' this] at he ⊢
    exact e he
  | fn K f caps us hl _ ih => exact fun hK => .fn _ f caps us hl (fun i x y h1 h2 => ih i x y h1 h2 hK)
  | nfn K => exact fun _ => .nfn _
  | nif K => exact fun _ => .nif _
  | ifc K t v u _ ih => exact fun hK => .ifc _ t v u (ih hK)
  | agg K cs us hl _ ih => exact fun hK => .agg _ cs us hl (fun i x y h1 h2 => ih i x y h1 h2 hK)
  | tup K cs us hl _ ih => exact fun hK => .tup _ cs us hl (fun i x y h1 h2 => ih i x y h1 h2 hK)

/-- What a block holds in the model's memory. -/
structure BlkOk (K : Kp) (B : Bk) (L : Loc) (w : World) : Prop where
  gen : B.gen = L.gen
  lt : L.blk < w.heap.size
  len : ∀ (r : Nat) (row : List IV), B.rows[r]? = some row → row.length = L.sz
  fit : B.rows.length * L.sz ≤ L.ext
  there : ∀ i, i < L.ext → ∃ u, w.cell? (ad L.blk (L.org + i)) = some u ∧ u.oneCell' = true
  soft : 0 < L.ext → ∀ i, w.frozen? (ad L.blk (L.org + i)) = false
  cell : ∀ (r : Nat) (row : List IV) (c : Nat) (x : IV), B.rows[r]? = some row → row[c]? = some x → ∃ u, w.cell? (ad L.blk (L.org + r * L.sz + c)) = some u ∧ VR K x u
  ety : ∀ t : Nat, B.ty = some t → L.org = 0 ∧ ∃ c fr, w.heap[L.blk]? = some (.cells c t fr)

/-- The ideal heap and the model's world. Blocks below 'ro' are only read. -/
structure Rel (K : Kp) (ro : Nat) (H : Hp) (w : World) : Prop where
  blk : ∀ b L, K.ρ b = some L → ∃ B, H[b]? = some B ∧ BlkOk K B L w
  inj : ∀ b b' L L', K.ρ b = some L → K.ρ b' = some L' → L.blk = L'.blk → b = b'
  claim : ∀ b i v, K.κ b i = some v → w.cell? (ad b i) = some v ∧ v.oneCell' = true
  own : ∀ b L B, K.ρ b = some L → H[b]? = some B → ro ≤ b → B.frz = false → ∀ i, L.org ≤ i → K.κ L.blk i = none
  low : ro ≤ H.length

end Go.Vs
/- The ideal machine: its code, and what it computes. -/
namespace Go.Vs
open Go

abbrev Env := List (Nat × IV)

def get : Env → Nat → IV
  | [], _ => .und
  | (t, v) :: r, s => if t = s then v else get r s

def keepE (ks : List Nat) (e : Env) : Env := ks.map fun k => (k, get e k)

/-- A value of the model that names no memory. -/
def ofS : Value → IV
  | .bool b => .bool b
  | .int k n => .int k n
  | .string s => .str s
  | .pointer none => .nptr
  | .slice none 0 0 => .nsl
  | .nilFunc => .nfn
  | .nilIface => .nif
  | _ => .und

def ofV : Value → IV
  | .agg cs => .agg (cs.toList.map ofS)
  | v => ofS v

inductive Opd where
  | t (n : Nat)
  | c (v : Value)
  | f (n : Nat)

def ev (e : Env) : Opd → IV
  | .t n => get e n
  | .c v => ofV v
  | .f n => .fn n []

/-- The functions of the library that have no text: what they compute. -/
inductive Pr where
  | add64
  | ixb
  | cmps
  | noe

inductive Ins where
  | mv (x : Opd)
  | pick (c a b : Opd)
  | alloc (z : List IV)
  | alt (t : Nat) (z : List IV)
  | tou (x : Opd)
  | fru (t n : Nat) (x : Opd)
  | nep (x y : Opd)
  | apb (t : Nat) (x y : Opd)
  | usd (x : Opd)
  | ust (t : Nat) (p n : Opd)
  | box (n : Nat) (x : Opd)
  | boxf (n : Nat) (x : Opd)
  | build (z : List IV) (ps : List (Nat × Nat × Opd))
  | bslice (n sz : Nat) (z : List IV) (ps : List (Nat × Opd))
  | apn (sz bytes : Nat) (y : Opd)
  | load (ag : Bool) (n : Nat) (a : Opd) (im : Bool)
  | ldr (ag : Bool) (n : Nat) (a b : Opd)
  | store (n : Nat) (a x : Opd)
  | nilck (x : Opd)
  | bin (op : BinOp) (x y : Opd)
  | eqb (neg : Bool) (x y : Opd)
  | eqs (neg : Bool) (ks : List Nat) (x y : Opd)
  | eqn (k : Nat) (neg : Bool) (x : Opd)
  | un (op : UnOp) (x : Opd)
  | cvi (k : IntKind) (x : Opd)
  | cvs (x : Opd)
  | cvbs (x : Opd)
  | cvsb (x : Opd)
  | mki (t : Nat) (x : Opd)
  | mkf (f : Nat) (caps : List Opd)
  | mksl (sz bytes : Nat) (z : List IV) (n c : Opd)
  | slst (x : Opd) (lo hi : Option Opd)
  | slsl (sz : Nat) (x : Opd) (lo hi mx : Option Opd)
  | fad (off : Nat) (x : Opd)
  | fld (ag : Bool) (off n : Nat) (x : Opd)
  | iad (sz : Nat) (x i : Opd)
  | iai (sz : Nat) (x i : Opd)
  | sli (sz : Nat) (x : Opd) (lo hi mx : Option Opd)
  | iar (n sz : Nat) (x i : Opd)
  | ist (x i : Opd)
  | iag (n : Nat) (ag : Bool) (sz : Nat) (x i : Opd)
  | ext (x : Opd) (i : Nat)
  | len (st : Bool) (x : Opd)
  | capo (x : Opd)
  | app (sz bytes : Nat) (x y : Opd)
  | copy (sz : Nat) (x y : Opd)
  | clear (sz : Nat) (z : List IV) (x : Opd)
  | apz (sz bytes : Nat) (z : List IV) (x n : Opd)
  | ovl (x y : Opd)
  | insv (sz bytes : Nat) (s i v : Opd)
  | mx (xs : List Opd)
  | mn (xs : List Opd)
  | pr (p : Pr) (xs : List Opd)
  | call (m : Nat) (f : Opd) (args : List Opd)

structure Rop where
  dst : Option Nat
  grd : Option (Nat × Bool)
  ins : Ins

inductive Cd where
  | skip
  | ret
  | exit (id : Nat)
  | rg (ops : List Rop) (keep : List Nat)
  | rgr (c : Nat) (prs : List Nat) (ops : List Rop) (keep : List Nat)
  | seq (a b : Cd)
  | cond (c : Opd) (a b : Cd)
  | block (id : Nat) (b : Cd)
  | loop (keep : List Nat) (b : Cd)
  | bad

inductive RV where
  | t (n : Nat)
  | cell (a : Nat) (ag : Bool) (n : Nat)

structure Fn where
  np : Nat
  cd : Cd
  res : List RV

inductive Ex where
  | nrm
  | ret
  | exit (id : Nat)

/-! ### Operations -/

/-- May it lie in a cell? -/
def cellOk : IV → Bool
  | .und | .agg _ | .tup _ => false
  | _ => true

def cellsO : IV → Option (List IV)
  | .agg cs => if cs.all cellOk then some cs else none
  | v => if cellOk v then some [v] else none

def blkAt (H : Hp) (b g : Nat) : Option Bk :=
  match H[b]? with
  | some B => if B.gen = g then some B else none
  | none => none

/-- n cells of a row from j on. -/
def sub (row : List IV) (j n : Nat) : Option (List IV) :=
  if j + n ≤ row.length then some ((row.drop j).take n) else none

def rd (H : Hp) (n : Nat) : IV → Option (List IV)
  | .ptr b g i j => (blkAt H b g).bind fun B => (B.rows[i]?).bind fun row => sub row j n
  | .eptr rows i j => (rows[i]?).bind fun row => sub row j n
  | _ => none

def val1 (ag : Bool) (cs : List IV) : Option IV :=
  match ag, cs with
  | true, cs => some (.agg cs)
  | false, [x] => some x
  | false, _ => none

def over (row : List IV) (j : Nat) (cs : List IV) : List IV := row.take j ++ cs ++ row.drop (j + cs.length)

/-- A block that may be written. -/
def wbl (ro : Nat) (H : Hp) (b g : Nat) : Option Bk :=
  if ro ≤ b then (blkAt H b g).bind fun B => if B.frz then none else some B else none

def wr (ro : Nat) (H : Hp) (cs : List IV) : IV → Option Hp
  | .ptr b g i j => (wbl ro H b g).bind fun B => (B.rows[i]?).bind fun row =>
      if j + cs.length ≤ row.length then some (H.set b { rows := B.rows.set i (over row j cs), gen := B.gen }) else none
  | _ => none

def binI (op : BinOp) (k : IntKind) (x y : Int) : Option IV :=
  match op with
  | .add => some (.int k (k.wrap (x + y)))
  | .sub => some (.int k (k.wrap (x - y)))
  | .mul => some (.int k (k.wrap (x * y)))
  | .quo => if y = 0 then none else some (.int k (k.wrap (x.tdiv y)))
  | .rem => if y = 0 then none else some (.int k (x.tmod y))
  | .and => some (.int k (k.wrap (BitVec.ofInt k.bits x &&& BitVec.ofInt k.bits y).toNat))
  | .or => some (.int k (k.wrap (BitVec.ofInt k.bits x ||| BitVec.ofInt k.bits y).toNat))
  | .xor => some (.int k (k.wrap (BitVec.ofInt k.bits x ^^^ BitVec.ofInt k.bits y).toNat))
  | .andNot => some (.int k (k.wrap (BitVec.ofInt k.bits x &&& ~~~ BitVec.ofInt k.bits y).toNat))
  | .eql => some (.bool (x == y))
  | .neq => some (.bool (x != y))
  | .lss => some (.bool (x < y))
  | .leq => some (.bool (x ≤ y))
  | .gtr => some (.bool (x > y))
  | .geq => some (.bool (x ≥ y))
  | _ => none

def binS (op : BinOp) (x y : ByteArray) : Option IV :=
  match op with
  | .add => if ((x.size + y.size : Nat) : Int) > IntKind.i64.max then none else some (.str (x ++ y))
  | .eql => some (.bool (x.toList == y.toList))
  | .neq => some (.bool !(x.toList == y.toList))
  | .lss => some (.bool (Op.bytesLess x.toList y.toList))
  | .leq => some (.bool (Op.bytesLess x.toList y.toList || x.toList == y.toList))
  | .gtr => some (.bool !(Op.bytesLess x.toList y.toList || x.toList == y.toList))
  | .geq => some (.bool !(Op.bytesLess x.toList y.toList))
  | _ => none

def binV (op : BinOp) (x y : IV) : Option IV :=
  match x, y with
  | .int k a, .int k' b =>
    match op with
    | .shl => if b < 0 then none else some (.int k (k.wrap (a * 2 ^ (min b.toNat k.bits))))
    | .shr => if b < 0 then none else some (.int k (a.fdiv (2 ^ (min b.toNat k.bits))))
    | _ => if k = k' then binI op k a b else none
  | .str a, .str b => binS op a b
  | _, _ => none

/-- '==' of two cells of a kind: 0 a bool, 1 a number, 2 a text. -/
def eqC : Nat → IV → IV → Option Bool
  | 0, .bool a, .bool b => some (a == b)
  | 1, .int k a, .int k' b => if k = k' then some (a == b) else none
  | 2, .str a, .str b => some (a == b)
  | _, _, _ => none

def eqL : List Nat → List IV → List IV → Option Bool
  | [], [], [] => some true
  | k :: ks, x :: xs, y :: ys => (eqC k x y).bind fun c => (eqL ks xs ys).bind fun d => some (c && d)
  | _, _, _ => none

def eqV (ks : List Nat) : IV → IV → Option Bool
  | .agg xs, .agg ys => eqL ks xs ys
  | _, _ => none

/-- k: 0 a pointer, 1 a slice, 2 a function, 3 an interface. -/
def isNil : Nat → IV → Option Bool
  | 0, .nptr => some true
  | 0, .ptr .. => some false
  | 0, .eptr .. => some false
  | 1, .nsl => some true
  | 1, .imm .. => some false
  | 1, .arr .. => some false
  | 2, .nfn => some true
  | 2, .fn .. => some false
  | 3, .nif => some true
  | 3, .ifc .. => some false
  | _, _ => none

def unV (op : UnOp) (x : IV) : Option IV :=
  match op, x with
  | .neg, .int k n => some (.int k (k.wrap (0 - n)))
  | .xor, .int k n => some (.int k (k.wrap (BitVec.ofInt k.bits (if k.signed then -1 else k.max) ^^^ BitVec.ofInt k.bits n).toNat))
  | .not, .bool b => some (.bool !b)
  | _, _ => none

def byteRow (b : UInt8) : List IV := [.int .u8 b.toNat]

/-- The rows of a slice, or a string's bytes. -/
def rowsOf (H : Hp) : IV → Option (List (List IV))
  | .nsl => some []
  | .imm rows _ => some rows
  | .arr b g off len _ _ => (blkAt H b g).bind fun B => if off + len ≤ B.rows.length then some ((B.rows.drop off).take len) else none
  | .str s => some (s.data.toList.map byteRow)
  | _ => none

def szOk (sz : Nat) : List (List IV) → Bool
  | [] => true
  | r :: _ => r.length == sz

def lenV : Bool → IV → Option Nat
  | false, .nsl => some 0
  | false, .imm rows _ => some rows.length
  | false, .arr _ _ _ len _ _ => some len
  | true, .str s => some s.size
  | _, _ => none

def byteOfRow : List IV → Option UInt8
  | [.int .u8 n] => some (UInt8.ofNat n.toNat)
  | _ => none

def bytesOf : List (List IV) → Option (List UInt8)
  | [] => some []
  | r :: rs => (byteOfRow r).bind fun b => (bytesOf rs).bind fun bs => some (b :: bs)

def room : Nat := 2 ^ 47

def newArr (H : Hp) (bytes : Nat) (rows : List (List IV)) : Option (IV × Hp) :=
  if rows.length * bytes ≤ room then some (.arr H.length 0 0 rows.length rows.length false, H ++ [{ rows := rows }]) else none

def appV (ro : Nat) (H : Hp) (sz bytes : Nat) (x y : IV) : Option (IV × Hp) :=
  (rowsOf H y).bind fun ys => if szOk sz ys = false then none else
  match x with
  | .nsl => if ys.length = 0 then some (.nsl, H) else newArr H bytes ys
  | .imm rows full => if ys.length = 0 then some (x, H) else if full ∧ szOk sz rows then newArr H bytes (rows ++ ys) else none
  | .arr b g off len cap ex => (blkAt H b g).bind fun B =>
      if szOk sz B.rows = false ∨ B.rows.length < off + len then none
      else if ys.length = 0 then some (x, H)
      else if len + ys.length ≤ cap then
        if ro ≤ b ∧ B.frz = false ∧ off + len + ys.length ≤ B.rows.length then
          some (.arr b g off (len + ys.length) cap ex, H.set b { B with rows := B.rows.take (off + len) ++ ys ++ B.rows.drop (off + len + ys.length) })
        else none
      else if ex then newArr H bytes ((B.rows.drop off).take len ++ ys)
      else if ro ≤ b ∧ B.frz = false ∧ 0 < B.rows.length ∧ (len + ys.length) * bytes ≤ room then
        some (.arr b (g + 1) 0 (len + ys.length) (len + ys.length) false, H.set b { rows := (B.rows.drop off).take len ++ ys, gen := g + 1 })
      else none
  | _ => none

def copyV (ro : Nat) (H : Hp) (sz : Nat) (x y : IV) : Option (IV × Hp) :=
  (rowsOf H y).bind fun ys => if szOk sz ys = false then none else
  match x with
  | .nsl => some (.int .i64 0, H)
  | .arr b g off len _ _ => (wbl ro H b g).bind fun B =>
      let n := min ys.length len
      if szOk sz B.rows = false ∨ B.rows.length < off + n then none
      else some (.int .i64 n, H.set b { B with rows := B.rows.take off ++ ys.take n ++ B.rows.drop (off + n) })
  | _ => none

/-- append(x, make(.., n)...) where it has to move. -/
def apzV (H : Hp) (sz bytes : Nat) (z : List IV) (x : IV) (n : Nat) : Option (IV × Hp) :=
  match x with
  | .arr b g off len cap true => (blkAt H b g).bind fun B =>
      if szOk sz B.rows = true ∧ off + len ≤ B.rows.length ∧ 0 < n ∧ cap < len + n then newArr H bytes ((B.rows.drop off).take len ++ List.replicate n z) else none
  | _ => none

/-- Do they share memory? Rows of two blocks don't. -/
def ovlV (H : Hp) : IV → IV → Option IV
  | .arr b g off len _ _, .arr b' g' _ len' _ _ => (blkAt H b g).bind fun B => (B.rows[off]?).bind fun row => (blkAt H b' g').bind fun B' => (B'.rows[0]?).bind fun row' =>
      if b ≠ b' ∧ 0 < len ∧ 0 < len' ∧ 0 < row.length ∧ 0 < row'.length then some (.bool false) else none
  | _, _ => none

def isSl : IV → Bool
  | .imm _ _ | .arr _ _ _ _ _ _ => true
  | _ => false

/-- Rows put in between (slices.Insert): the row moves, or grows where it is: nobody can tell. -/
def insV (ro : Nat) (H : Hp) (sz bytes : Nat) (s i v : IV) : Option (IV × Hp) :=
  match i with
  | .int .i64 i => if i < 0 then none else (rowsOf H v).bind fun ys => if (ys.all fun r => r.length == sz) = false ∨ ys.length = 0 ∨ isSl v = false then none else
      match s with
      | .arr b g off len _ _ => if i.toNat = len then appV ro H sz bytes s v else (match v with | .arr c _ _ _ _ _ => some c | _ => none).bind fun c => (blkAt H b g).bind fun B =>
          if c ≠ b ∧ ro ≤ b ∧ B.frz = false ∧ (B.rows.all fun r => r.length == sz) = true ∧ off + len ≤ B.rows.length ∧ i.toNat < len ∧ (len + ys.length) * bytes ≤ room then
            some (.arr b (g + 1) 0 (len + ys.length) (len + ys.length) false, H.set b ({ rows := ((B.rows.drop off).take len).take i.toNat ++ ys ++ ((B.rows.drop off).take len).drop i.toNat, gen := g + 1 } : Bk) ++ [({ rows := [], gen := 1 } : Bk)])
          else none
      | .nsl => if i.toNat = 0 then appV ro H sz bytes s v else none
      | .imm rows _ => if i.toNat = rows.length then appV ro H sz bytes s v else none
      | _ => none
  | _ => none

def clearV (ro : Nat) (H : Hp) (sz : Nat) (z : List IV) (x : IV) : Option (IV × Hp) :=
  match x with
  | .nsl => some (.tup [], H)
  | .arr b g off len _ _ => if len = 0 then some (.tup [], H) else (wbl ro H b g).bind fun B =>
      if szOk sz B.rows = false ∨ z.length ≠ sz ∨ B.rows.length < off + len then none
      else some (.tup [], H.set b { B with rows := B.rows.take off ++ List.replicate len z ++ B.rows.drop (off + len) })
  | _ => none

def asNat : IV → Option Nat
  | .int _ n => if 0 ≤ n then some n.toNat else none
  | _ => none

def optB (e : Env) (d : Nat) : Option Opd → Option Nat
  | none => some d
  | some x => asNat (ev e x)

def slStr (s : ByteArray) (l h : Nat) : Option IV := if l ≤ h ∧ h ≤ s.size then some (.str (s.extract l h)) else none

def slSl (H : Hp) (sz : Nat) (x : IV) (l : Nat) (h m : Option Nat) : Option IV :=
  match x with
  | .nsl => if l = 0 ∧ h.getD 0 = 0 ∧ m.getD 0 = 0 then some .nsl else none
  | .imm rows full =>
      let hh := h.getD rows.length
      if l ≤ hh ∧ hh ≤ m.getD rows.length ∧ m.getD rows.length ≤ rows.length ∧ szOk sz rows then
        some (.imm ((rows.drop l).take (hh - l)) (if m.isSome then m.getD 0 == hh else full && hh == rows.length))
      else none
  | .arr b g off len cap ex => (blkAt H b g).bind fun B =>
      let hh := h.getD len
      if l ≤ hh ∧ hh ≤ m.getD cap ∧ m.getD cap ≤ cap ∧ off + hh ≤ B.rows.length ∧ szOk sz B.rows then
        some (.arr b g (off + l) (hh - l) (m.getD cap - l) (m.isSome || ex))
      else none
  | _ => none

def idx (H : Hp) (sz : Nat) (x : IV) (i : Int) : Option IV :=
  match x with
  | .imm rows _ => if 0 ≤ i ∧ i < rows.length ∧ szOk sz rows then some (.eptr rows i.toNat 0) else none
  | .arr b g off len _ _ => (blkAt H b g).bind fun B => if 0 ≤ i ∧ i < len ∧ szOk sz B.rows ∧ off + len ≤ B.rows.length then some (.ptr b g (off + i.toNat) 0) else none
  | _ => none

def offs (n : Nat) : IV → Option IV
  | .ptr b g i j => some (.ptr b g i (j + n))
  | .eptr rows i j => some (.eptr rows i (j + n))
  | _ => none

def mxF : IV → List IV → Option IV
  | x, [] => some x
  | .int k x, .int _ y :: r => mxF (.int k (if y > x then y else x)) r
  | _, _ => none

def mnF : IV → List IV → Option IV
  | x, [] => some x
  | .int k x, .int _ y :: r => mnF (.int k (if y < x then y else x)) r
  | _, _ => none

/-- The first place of a byte, or -1. -/
def ixB (s : ByteArray) (c : Int) : Int := match s.data.toList.findIdx? (· == c.toNat.toUInt8) with
  | some i => i
  | none => -1

def prV : Pr → List IV → Option IV
  | .ixb, [.str s, .int .u8 c] => some (.int .i64 (ixB s c))
  | .cmps, [.str a, .str b] => some (.int .i64 (Extern.BytealgCompare.cmp a b))
  | .add64, [.int .u64 x, .int .u64 y, .int .u64 c] =>
    if 0 ≤ x ∧ 0 ≤ y ∧ 0 ≤ c ∧ c ≤ 1 then some (.tup [.int .u64 ((x + y + c) % 18446744073709551616), .int .u64 ((x + y + c) / 18446744073709551616)]) else none
  | .noe, [x] => some x
  | _, _ => none

/-! ### Freezing -/

def mapO {α β : Type} (f : α → Option β) : List α → Option (List β)
  | [] => some []
  | x :: xs => (f x).bind fun y => (mapO f xs).bind fun ys => some (y :: ys)

/-- As one that names no block at all. -/
def frz0 : Nat → Hp → IV → Option IV
  | 0, _, _ => none
  | k + 1, H, v =>
    match v with
    | .arr b g off len cap ex =>
      (blkAt H b g).bind fun B => if off + len ≤ B.rows.length then
        (mapO (mapO (frz0 k H)) ((B.rows.drop off).take len)).map fun rows => .imm rows (ex && cap == len) else none
    | .ptr _ _ _ _ => none
    | .agg cs => (mapO (frz0 k H) cs).map .agg
    | .tup cs => (mapO (frz0 k H) cs).map .tup
    | .fn f cs => (mapO (frz0 k H) cs).map (.fn f)
    | .ifc t x => (frz0 k H x).map (.ifc t)
    | v => some v

/-- The blocks that freezing an argument reads. -/
def blks : Nat → Hp → IV → List Nat
  | 0, _, _ => []
  | k + 1, H, v =>
    match v with
    | .arr b g off len _ _ => b :: (match blkAt H b g with
      | some B => ((B.rows.drop off).take len).flatMap fun r => r.flatMap (blks k H)
      | none => [])
    | .agg cs => cs.flatMap (blks k H)
    | .tup cs => cs.flatMap (blks k H)
    | .fn _ cs => cs.flatMap (blks k H)
    | .ifc _ x => blks k H x
    | _ => []

/-- A result: what names no block from m on. -/
def frz : Nat → Hp → Nat → IV → Option IV
  | 0, _, _, _ => none
  | k + 1, H, m, v =>
    match v with
    | .arr b _ _ _ _ _ => if b < m then some v else if (blks (k + 1) H v).all fun b => decide (m ≤ b) then frz0 (k + 1) H v else none
    | .ptr b _ _ _ => if b < m then some v else none
    | .agg cs => (mapO (frz k H m) cs).map .agg
    | .tup cs => (mapO (frz k H m) cs).map .tup
    | .fn f cs => (mapO (frz k H m) cs).map (.fn f)
    | .ifc t x => (frz k H m x).map (.ifc t)
    | v => some v

/-- A value that bears no place in the heap, at a glance. -/
def leafV : IV → Bool
  | .und | .bool _ | .int _ _ | .str _ | .nptr | .eptr _ _ _ | .nsl | .imm _ _ | .nfn | .nif => true
  | _ => false

/-- No row is in it. -/
def flatV : IV → Bool
  | .imm _ _ => false
  | .eptr _ _ _ => false
  | .agg cs => flatL cs
  | .tup cs => flatL cs
  | .fn _ cs => flatL cs
  | .ifc _ x => flatV x
  | _ => true
where flatL : List IV → Bool
  | [] => true
  | x :: xs => flatV x && flatL xs

def frzD : Nat := 12

def frzArg (H : Hp) (v : IV) : IV := (frz0 frzD H v).getD v

def markF (ro : Nat) : List Nat → Hp → Option Hp
  | [], H => some H
  | b :: r, H => if ro ≤ b then match H[b]? with
    | some B => markF ro r (H.set b { B with frz := true })
    | none => none
    else none

/-! Texts built up in a row of bytes: what is known of a row's type. -/
/-- A place whose row is there. -/
def touV (H : Hp) : IV → Option IV
  | .ptr b g i j => (rd H 1 (.ptr b g i j)).bind fun _ => some (.ptr b g i j)
  | _ => none
/-- A block's head, of such a type, so many cells a row. -/
def fruV (H : Hp) (t n : Nat) : IV → Option IV
  | .ptr b g 0 0 => (blkAt H b g).bind fun B => (B.rows[0]?).bind fun row => if B.ty = some t ∧ row.length = n then some (.ptr b g 0 0) else none
  | _ => none
/-- '!=' of a place and itself. -/
def nepV (H : Hp) : IV → IV → Option IV
  | .ptr b g i j, .ptr b' g' i' j' => (blkAt H b g).bind fun _ => if b = b' ∧ g = g' ∧ i = i' ∧ j = j' then some (.bool false) else none
  | _, _ => none
def usdV (H : Hp) : IV → Option IV
  | .nsl => some .nptr
  | .arr b g off len _ _ => (blkAt H b g).bind fun B => if 0 < len ∧ off + len ≤ B.rows.length then some (.ptr b g off 0) else none
  | _ => none
def byteX : List IV → Option UInt8
  | [.int .u8 n] => if 0 ≤ n ∧ n < 256 then some (UInt8.ofNat n.toNat) else none
  | _ => none
def bytesX : List (List IV) → Option (List UInt8)
  | [] => some []
  | r :: rs => (byteX r).bind fun b => (bytesX rs).bind fun bs => some (b :: bs)
/-- A block's bytes, from now on a text's. -/
def ustV (ro : Nat) (H : Hp) (t : Nat) : IV → IV → Option (IV × Hp)
  | .nptr, .int .i64 0 => some (.str .empty, H)
  | .ptr b g 0 0, .int .i64 m => (wbl ro H b g).bind fun B => if B.ty = some t ∧ m = B.rows.length ∧ 0 < B.rows.length ∧ B.rows.length ≤ room then (bytesX B.rows).bind fun bs => some (.str ⟨bs.toArray⟩, H.set b { rows := [], gen := g + 1 }) else none
  | _, _ => none
/-- append of bytes: the row's type is known. -/
def appB (t ro : Nat) (H : Hp) (x y : IV) : Option (IV × Hp) :=
  match x with
  | .nsl => (rowsOf H y).bind fun ys => if szOk 1 ys = false then none else if ys.length = 0 then some (.nsl, H) else
      if ys.length ≤ room then some (.arr H.length 0 0 ys.length ys.length false, H ++ [{ rows := ys, ty := some t }]) else none
  | .arr b g off len cap ex => (blkAt H b g).bind fun B => if B.ty = some t then
      (rowsOf H y).bind fun ys => if szOk 1 ys = false ∨ szOk 1 B.rows = false ∨ B.rows.length < len ∨ off ≠ 0 then none
      else if ys.length = 0 then some (x, H)
      else if ro ≤ b ∧ B.frz = false ∧ 0 < B.rows.length ∧ len + ys.length ≤ room then
        some (.arr b (g + 1) 0 (len + ys.length) (len + ys.length) false, H.set b { rows := B.rows.take len ++ ys, gen := g + 1, ty := some t })
      else none
      else appV ro H 1 1 x y
  | _ => appV ro H 1 1 x y

/-- A slice that nobody writes, or none. -/
def isI : IV → Bool
  | .imm _ _ => true
  | .nsl => true
  | _ => false

theorem idx_isI {H : Hp} {sz : Nat} {x : IV} {i : Int} (h : isI x = true) : idx [] sz x i = idx H sz x i := by cases x <;> simp_all [isI, idx]
theorem slSl_isI {H : Hp} {sz : Nat} {x : IV} {l : Nat} {h m : Option Nat} (hI : isI x = true) : slSl [] sz x l h m = slSl H sz x l h m := by cases x <;> simp_all [isI, slSl]

/-! ### Runs -/

abbrev CallF := Nat → Nat → List IV → Hp → Option (IV × Hp)

/-- A call that leaves the heap as it is. 'st': nothing is frozen for good. -/
def callP (cf : CallF) (ro : Nat) (st : Bool) (f : Nat) (args : List IV) (H : Hp) : Option (IV × Hp) :=
  (cf H.length f (args.map (frzArg H)) H).bind fun r =>
    (frz frzD r.2 H.length r.1).bind fun v =>
      if flatV v then some (v, H) else if st then (match args.flatMap (blks frzD H) with
        | [] => some (v, H)
        | _ => none) else (markF ro (args.flatMap (blks frzD H)) H).bind fun H2 => some (v, H2)

/-- m: 0 a call that may write, 1 one that leaves the heap but for what it freezes, 2 one that leaves it. -/
def doCall (cf : CallF) (ro : Nat) (m : Nat) (f : IV) (args : List IV) (H : Hp) : Option (IV × Hp) :=
  match f with
  | .fn f caps => match m with
    | 0 => cf ro f (args ++ caps) H
    | 1 => callP cf ro false f (args ++ caps) H
    | _ => callP cf ro true f (args ++ caps) H
  | _ => none

/-- Places in one block. -/
def sameBlk : IV → IV → Bool
  | .ptr b _ _ _, .ptr b' _ _ _ => Nat.beq b b'
  | _, _ => false

/-- What an operation computes. -/
def doIns (cf : CallF) (ro : Nat) (e : Env) (H : Hp) : Ins → Option (IV × Hp)
  | .mv x => some (ev e x, H)
  | .pick c a b => match ev e c with
    | .bool true => some (ev e a, H)
    | .bool false => some (ev e b, H)
    | _ => none
  | .alloc z => some (.ptr H.length 0 0 0, H ++ [{ rows := [z] }])
  | .alt t z => some (.ptr H.length 0 0 0, H ++ [{ rows := [z], ty := some t }])
  | .tou x => (touV H (ev e x)).bind fun v => some (v, H)
  | .fru t n x => (fruV H t n (ev e x)).bind fun v => some (v, H)
  | .nep x y => (nepV H (ev e x) (ev e y)).bind fun v => some (v, H)
  | .apb t x y => appB t ro H (ev e x) (ev e y)
  | .usd x => (usdV H (ev e x)).bind fun v => some (v, H)
  | .ust t p n => ustV ro H t (ev e p) (ev e n)
  | .box n x => (cellsO (ev e x)).bind fun cs => if cs.length = n then some (.ptr H.length 0 0 0, H ++ [{ rows := [cs] }]) else none
  | .boxf n x => (cellsO (ev e x)).bind fun cs => if cs.length = n ∧ cs.all leafV = true then some (.eptr [cs] 0 0, H) else none
  | .build z ps => (fillB e z ps).bind fun cs => some (.agg cs, H)
  | .bslice n sz z ps => (fillP e sz (List.replicate n z) ps).bind fun rows =>
      some (.arr H.length 0 0 n n true, H ++ [{ rows := rows }])
  | .load ag n a im => if im = true ∧ isE (ev e a) = false then none else (rd H n (ev e a)).bind fun cs => (val1 ag cs).bind fun v => some (v, H)
  | .ldr ag n a b => if sameBlk (ev e a) (ev e b) = true then (rd H n (ev e a)).bind fun cs => (val1 ag cs).bind fun v => some (v, H) else none
  | .store n a x => (cellsO (ev e x)).bind fun cs => if cs.length = n then (wr ro H cs (ev e a)).bind fun H' => some (.und, H') else none
  | .nilck x => match ev e x with
    | .ptr b g i j => some (.ptr b g i j, H)
    | .eptr r i j => some (.eptr r i j, H)
    | .fn f cs => some (.fn f cs, H)
    | .ifc t v => some (.ifc t v, H)
    | _ => none
  | .bin op x y => (binV op (ev e x) (ev e y)).bind fun v => some (v, H)
  | .eqb neg x y => (eqC 0 (ev e x) (ev e y)).bind fun b => some (.bool (neg ^^ b), H)
  | .eqs neg ks x y => (eqV ks (ev e x) (ev e y)).bind fun b => some (.bool (neg ^^ b), H)
  | .eqn k neg x => (isNil k (ev e x)).bind fun b => some (.bool (neg ^^ b), H)
  | .un op x => (unV op (ev e x)).bind fun v => some (v, H)
  | .cvi k x => match ev e x with
    | .int _ n => some (.int k (k.wrap n), H)
    | _ => none
  | .cvs x => match ev e x with
    | .str s => some (.str s, H)
    | _ => none
  | .cvbs x => match ev e x with
    | .str _ => none
    | v => (rowsOf H v).bind fun rs => (bytesOf rs).bind fun bs => some (.str ⟨bs.toArray⟩, H)
  | .cvsb x => match ev e x with
    | .str s => some (.arr H.length 0 0 s.size s.size false, H ++ [{ rows := s.data.toList.map byteRow }])
    | _ => none
  | .mki t x => some (.ifc t (ev e x), H)
  | .mkf f cs => some (.fn f (cs.map (ev e)), H)
  | .mksl sz bytes z n c => (asNat (ev e n)).bind fun n => (asNat (ev e c)).bind fun c =>
      if n ≤ c ∧ c * bytes ≤ room ∧ z.length = sz then some (.arr H.length 0 0 n c true, H ++ [{ rows := List.replicate c z }]) else none
  | .slst x lo hi => match ev e x with
    | .str s => (optB e 0 lo).bind fun l => (optB e s.size hi).bind fun h => (slStr s l h).bind fun v => some (v, H)
    | _ => none
  | .slsl sz x lo hi mx => (optB e 0 lo).bind fun l => (optB e 0 hi).bind fun h => (optB e 0 mx).bind fun m =>
      (slSl H sz (ev e x) l (hi.map fun _ => h) (mx.map fun _ => m)).bind fun v => some (v, H)
  | .iai sz x i => match ev e i with
    | .int _ i => if isI (ev e x) = true then (idx [] sz (ev e x) i).bind fun v => some (v, H) else none
    | _ => none
  | .sli sz x lo hi mx => (optB e 0 lo).bind fun l => (optB e 0 hi).bind fun h => (optB e 0 mx).bind fun m =>
      if isI (ev e x) = true then (slSl [] sz (ev e x) l (hi.map fun _ => h) (mx.map fun _ => m)).bind fun v => some (v, H) else none
  | .fad off x => (offs off (ev e x)).bind fun v => some (v, H)
  | .fld ag off n x => match ev e x with
    | .agg cs => (sub cs off n).bind fun cs => (val1 ag cs).bind fun v => some (v, H)
    | _ => none
  | .iad sz x i => match ev e i with
    | .int _ i => (idx H sz (ev e x) i).bind fun v => some (v, H)
    | _ => none
  | .iar n sz x i => match ev e i with
    | .int _ i => if 0 ≤ i ∧ i < n then (offs (i.toNat * sz) (ev e x)).bind fun v => some (v, H) else none
    | _ => none
  | .ist x i => match ev e x, ev e i with
    | .str s, .int _ i => if 0 ≤ i then match s.data[i.toNat]? with
      | some b => some (.int .u8 b.toNat, H)
      | none => none
      else none
    | _, _ => none
  | .iag n ag sz x i => match ev e x, ev e i with
    | .agg cs, .int _ i => if 0 ≤ i ∧ i < n then (sub cs (i.toNat * sz) sz).bind fun cs => (val1 ag cs).bind fun v => some (v, H) else none
    | _, _ => none
  | .ext x i => match ev e x with
    | .tup vs => match vs[i]? with
      | some v => some (v, H)
      | none => none
    | _ => none
  | .len st x => (lenV st (ev e x)).bind fun n => some (.int .i64 n, H)
  | .capo x => match ev e x with
    | .nsl => some (.int .i64 0, H)
    | .imm rows true => some (.int .i64 rows.length, H)
    | .arr b g _ _ cap true => (blkAt H b g).bind fun _ => some (.int .i64 cap, H)
    | _ => none
  | .app sz bytes x y => appV ro H sz bytes (ev e x) (ev e y)
  | .apn sz bytes y => appV ro H sz bytes .nsl (ev e y)
  | .copy sz x y => copyV ro H sz (ev e x) (ev e y)
  | .clear sz z x => clearV ro H sz z (ev e x)
  | .apz sz b z x n => match ev e n with
    | .int _ n => if 0 ≤ n then apzV H sz b z (ev e x) n.toNat else none
    | _ => none
  | .ovl x y => (ovlV H (ev e x) (ev e y)).bind fun v => some (v, H)
  | .insv sz b s i v => insV ro H sz b (ev e s) (ev e i) (ev e v)
  | .mx xs => match xs with
    | [] => none
    | x :: r => (mxF (ev e x) (r.map (ev e))).bind fun v => some (v, H)
  | .mn xs => match xs with
    | [] => none
    | x :: r => (mnF (ev e x) (r.map (ev e))).bind fun v => some (v, H)
  | .pr p xs => (prV p (xs.map (ev e))).bind fun v => some (v, H)
  | .call m f args => doCall cf ro m (ev e f) (args.map (ev e)) H
where
  fillB (e : Env) : List IV → List (Nat × Nat × Opd) → Option (List IV)
  | z, [] => some z
  | z, (off, n, x) :: r => (cellsO (ev e x)).bind fun cs => if cs.length = n ∧ off + n ≤ z.length then fillB e (over z off cs) r else none
  fillP (e : Env) (sz : Nat) : List (List IV) → List (Nat × Opd) → Option (List (List IV))
  | z, [] => some z
  | z, (i, x) :: r => (cellsO (ev e x)).bind fun cs => if i < z.length ∧ cs.length = sz then fillP e sz (z.set i cs) r else none
  isE : IV → Bool
  | .eptr _ _ _ => true
  | _ => false

def putE (e : Env) : Option Nat → IV → Env
  | none, _ => e
  | some d, v => (d, v) :: e

/-- Is the operation asked for? -/
def wantE (e : Env) : Option (Nat × Bool) → Option Bool
  | none => some true
  | some (g, b) => match get e g with
    | .bool c => some (c == b)
    | .tup _ => some false
    | _ => none

def doOps (cf : CallF) (ro : Nat) : List Rop → Env → Hp → Option (Env × Hp)
  | [], e, H => some (e, H)
  | o :: r, e, H => (wantE e o.grd).bind fun w =>
      if w then (doIns cf ro e H o.ins).bind fun x => doOps cf ro r (putE e o.dst x.1) x.2
      else doOps cf ro r (putE e o.dst (.tup [])) H

/-- The block of a place that is there. -/
def blkOf (H : Hp) : IV → Option Nat
  | .ptr b _ _ _ => if b < H.length then some b else none
  | _ => none

/-! Blocks that are alike, seen by reckoning where that is enough. -/
def allEq {α : Type} (f : α → α → Bool) : List α → List α → Bool
  | [], [] => true
  | a :: l, b :: m => f a b && allEq f l m
  | _, _ => false
theorem allEq_sound {α : Type} {f : α → α → Bool} (h : ∀ a b, f a b = true → a = b) : ∀ (l m : List α), allEq f l m = true → l = m
  | [], [], _ => rfl
  | a :: l, b :: m, e => by
    simp only [allEq, Bool.and_eq_true] at e
    rw [h a b e.1, allEq_sound h l m e.2]
  | [], _ :: _, e => by cases e
  | _ :: _, [], e => by cases e
def eqF : Nat → IV → IV → Bool
  | 0, _, _ => false
  | k + 1, a, b => match a, b with
    | .und, .und => true
    | .bool x, .bool y => x == y
    | .int p x, .int q y => decide (p = q) && decide (x = y)
    | .str s, .str t => decide (s.data.toList = t.data.toList)
    | .nptr, .nptr => true
    | .ptr a b c d, .ptr a' b' c' d' => Nat.beq a a' && (Nat.beq b b' && (Nat.beq c c' && Nat.beq d d'))
    | .eptr r i j, .eptr r' i' j' => allEq (allEq (eqF k)) r r' && (Nat.beq i i' && Nat.beq j j')
    | .nsl, .nsl => true
    | .imm r f, .imm r' f' => allEq (allEq (eqF k)) r r' && (f == f')
    | .arr a b c d e f, .arr a' b' c' d' e' f' => Nat.beq a a' && (Nat.beq b b' && (Nat.beq c c' && (Nat.beq d d' && (Nat.beq e e' && (f == f')))))
    | .fn f cs, .fn f' cs' => Nat.beq f f' && allEq (eqF k) cs cs'
    | .nfn, .nfn => true
    | .nif, .nif => true
    | .ifc t v, .ifc t' v' => Nat.beq t t' && eqF k v v'
    | .agg cs, .agg cs' => allEq (eqF k) cs cs'
    | .tup cs, .tup cs' => allEq (eqF k) cs cs'
    | _, _ => false
theorem eqF_sound : ∀ (k : Nat) (a b : IV), eqF k a b = true → a = b
  | 0, _, _, h => by cases h
  | k + 1, a, b, h => by
    have ih := eqF_sound k
    have ihL := allEq_sound ih
    have ihR := allEq_sound ihL
    cases a <;> cases b <;> simp only [eqF, Bool.and_eq_true, decide_eq_true_eq, beq_iff_eq, Nat.beq_eq, Bool.false_eq_true] at h <;> first
      | rfl
      | (cases h; done)
      | skip
    case bool.bool => rw [h]
    case int.int => rw [h.1, h.2]
    case str.str s t =>
      obtain ⟨⟨s⟩⟩ := s
      obtain ⟨⟨t⟩⟩ := t
      simp only at h
      rw [h]
    case ptr.ptr => obtain ⟨h1, h2, h3, h4⟩ := h; rw [h1, h2, h3, h4]
    case eptr.eptr => obtain ⟨h1, h2, h3⟩ := h; rw [ihR _ _ h1, h2, h3]
    case imm.imm => obtain ⟨h1, h2⟩ := h; rw [ihR _ _ h1, h2]
    case arr.arr => obtain ⟨h1, h2, h3, h4, h5, h6⟩ := h; rw [h1, h2, h3, h4, h5, h6]
    case fn.fn => obtain ⟨h1, h2⟩ := h; rw [h1, ihL _ _ h2]
    case ifc.ifc => obtain ⟨h1, h2⟩ := h; rw [h1, ih _ _ h2]
    case agg.agg => rw [ihL _ _ h]
    case tup.tup => rw [ihL _ _ h]
def eqB (a b : Bk) : Bool := allEq (allEq (eqF 40)) a.rows b.rows && (Nat.beq a.gen b.gen && ((a.frz == b.frz) && decide (a.ty = b.ty)))
theorem eqB_sound {a b : Bk} (h : eqB a b = true) : a = b := by
  obtain ⟨r, g, f, t⟩ := a
  obtain ⟨r', g', f', t'⟩ := b
  simp only [eqB, Bool.and_eq_true, decide_eq_true_eq, beq_iff_eq, Nat.beq_eq] at h
  obtain ⟨h1, h2, h3, h4⟩ := h
  rw [allEq_sound (allEq_sound (eqF_sound 40)) _ _ h1, h2, h3, h4]
noncomputable instance instDecBk : DecidableEq Bk := fun a b => match h : eqB a b with
  | true => .isTrue (eqB_sound h)
  | false => Classical.propDecidable _

open Classical in
/-- The same, where none of the first c operations changes these blocks. -/
noncomputable def doOpsR (cf : CallF) (ro : Nat) (bl : List Nat) : Nat → List Rop → Env → Hp → Option (Env × Hp)
  | 0, rs, e, H => doOps cf ro rs e H
  | _ + 1, [], e, H => some (e, H)
  | c + 1, o :: r, e, H => (wantE e o.grd).bind fun w =>
      if w then (doIns cf ro e H o.ins).bind fun x => if (∀ b ∈ bl, x.2[b]? = H[b]?) then doOpsR cf ro bl c r (putE e o.dst x.1) x.2 else none
      else doOpsR cf ro bl c r (putE e o.dst (.tup [])) H

abbrev Out := Option (Ex × Env × Hp)

def loopN (body : Env → Hp → Out) (keep : List Nat) : Nat → Env → Hp → Out
  | 0, _, _ => none
  | n + 1, e, H => (body (keepE keep e) H).bind fun r =>
      match r with
      | (.nrm, e', H') => loopN body keep n e' H'
      | r => some r

noncomputable def runC (cf : CallF) (ro : Nat) (n : Nat) : Cd → Env → Hp → Out
  | .skip, e, H => some (.nrm, e, H)
  | .ret, e, H => some (.ret, e, H)
  | .exit id, e, H => some (.exit id, e, H)
  | .rg ops keep, e, H => (doOps cf ro ops e H).bind fun r => some (.nrm, keepE keep r.1, r.2)
  | .rgr c prs ops keep, e, H => (mapO (fun t => blkOf H (get e t)) prs).bind fun bl => (doOpsR cf ro bl c ops e H).bind fun r => some (.nrm, keepE keep r.1, r.2)
  | .seq a b, e, H => (runC cf ro n a e H).bind fun r =>
      match r with
      | (.nrm, e', H') => runC cf ro n b e' H'
      | r => some r
  | .cond c a b, e, H => match ev e c with
    | .bool true => runC cf ro n a e H
    | .bool false => runC cf ro n b e H
    | _ => none
  | .block id b, e, H => (runC cf ro n b e H).bind fun r =>
      match r with
      | (.exit j, e', H') => if j = id then some (.nrm, e', H') else some (.exit j, e', H')
      | r => some r
  | .loop keep b, e, H => loopN (runC cf ro n b) keep n e H
  | .bad, _, _ => none

def resV (e : Env) (H : Hp) : RV → Option IV
  | .t n => some (get e n)
  | .cell a ag n => (rd H n (get e a)).bind (val1 ag)

def resL (e : Env) (H : Hp) (l : List RV) : Option IV :=
  (mapO (resV e H) l).bind fun vs => match vs with
    | [v] => some v
    | vs => some (.tup vs)

def parE : Nat → List IV → Env
  | _, [] => []
  | k, v :: r => (k, v) :: parE (k + 1) r

abbrev Pg := Nat → Option Fn

noncomputable def callN (pg : Pg) : Nat → CallF
  | 0, _, _, _, _ => none
  | n + 1, ro, f, args, H => (pg f).bind fun fn =>
      if args.length = fn.np then (runC (callN pg n) ro n fn.cd (parE 0 args) H).bind fun r =>
        match r with
        | (.exit _, _, _) => none
        | (_, e, H') => (resL e H' fn.res).bind fun v => some (v, H')
      else none

end Go.Vs
