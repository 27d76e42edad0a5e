/- The ideal machine: values, heaps, and the relation between them and the model's memory. -/
import Derived.Orders
import Derived.Below
import Derived.Laws.IdiomCopy
import Derived.Laws.Slices
import Derived.WalkKit
namespace Go.Vs
open Go

/-- Ideal values: a slice that nobody writes any more bears its rows; one that may be written is a place in a block. -/
inductive IV where
  | und
  | bool (b : Bool)
  | int (k : IntKind) (n : Int)
  | str (s : ByteArray)
  | nptr
  | ptr (b g i j : Nat)
  | eptr (rows : List (List IV)) (i j : Nat)
  | nsl
  | imm (rows : List (List IV)) (full : Bool)
  | arr (b g off len cap : Nat) (ex : Bool)
  | fn (f : Nat) (caps : List IV)
  | nfn
  | nif
  | ifc (t : Nat) (v : IV)
  | agg (cs : List IV)
  | tup (vs : List IV)
  deriving Inhabited

/-- A block of the ideal heap: rows of cells; how often it has moved; whether it may be written no more; of what type its rows are, where that is known. -/
structure Bk where
  rows : List (List IV)
  gen : Nat := 0
  frz : Bool := false
  ty : Option Nat := none
  deriving Inhabited

abbrev Hp := List Bk

/-- Where a block lies: at which generation, in which real block, from which cell on, how many cells a row has, how many cells there are from there on. -/
structure Loc where
  gen : Nat
  blk : Nat
  org : Nat
  sz : Nat
  ext : Nat

structure Kp where
  ρ : Nat → Option Loc
  κ : Nat → Nat → Option Value

def Kp.le (K K' : Kp) : Prop :=
  (∀ b L, K.ρ b = some L → ∃ L', K'.ρ b = some L' ∧ L.gen ≤ L'.gen ∧ (L'.gen = L.gen → L' = L)) ∧
  (∀ b i v, K.κ b i = some v → K'.κ b i = some v)

theorem Kp.le_refl (K : Kp) : K.le K := ⟨fun _ L h => ⟨L, h, Nat.le_refl _, fun _ => rfl⟩, fun _ _ _ h => h⟩
theorem Kp.le_trans {K K' K'' : Kp} (h : K.le K') (h' : K'.le K'') : K.le K'' := by
  refine ⟨fun b L hb => ?_, fun b i v hv => h'.2 _ _ _ (h.2 _ _ _ hv)⟩
  obtain ⟨L1, h1, g1, e1⟩ := h.1 b L hb
  obtain ⟨L2, h2, g2, e2⟩ := h'.1 b L1 h1
  refine ⟨L2, h2, Nat.le_trans g1 g2, fun e => ?_⟩
  have : L1.gen = L.gen := by omega
  have e1' := e1 this
  subst e1'
  exact e2 e

def ad (b o : Nat) : Addr := ⟨b, o, none⟩

/-- Without any block. -/
def Kp.bare (K : Kp) : Kp := ⟨fun _ => none, K.κ⟩

/-- An ideal value stands for a value of the model. What lies in an immutable row names no block. -/
inductive VR : Kp → IV → Value → Prop where
  | und (K : Kp) (v : Value) : VR K .und v
  | bool (K : Kp) (b : Bool) : VR K (.bool b) (.bool b)
  | int (K : Kp) (k : IntKind) (n : Int) : VR K (.int k n) (.int k n)
  | str (K : Kp) (s : ByteArray) : VR K (.str s) (.string s)
  | nptr (K : Kp) : VR K .nptr (.pointer none)
  | ptr (K : Kp) (b g i j : Nat) (v : Value) (L : Loc) (h : K.ρ b = some L) (e : L.gen = g → v = .pointer (some (ad L.blk (L.org + i * L.sz + j)))) (hg : g ≤ L.gen) (hp : ∃ a, v = .pointer (some a)) : VR K (.ptr b g i j) v
  | eptr (K : Kp) (rows : List (List IV)) (i j b o sz : Nat) (us : Nat → Nat → Value)
      (hs : ∀ (r : Nat) (row : List IV), rows[r]? = some row → row.length = sz) (hk : ∀ (r : Nat) (row : List IV) (c : Nat), rows[r]? = some row → c < sz → K.κ b (o + r * sz + c) = some (us r c))
      (hv : ∀ (r : Nat) (row : List IV) (c : Nat) (x : IV), rows[r]? = some row → row[c]? = some x → VR K.bare x (us r c)) : VR K (.eptr rows i j) (.pointer (some (ad b (o + i * sz + j))))
  | nsl (K : Kp) : VR K .nsl (.slice none 0 0)
  | imm (K : Kp) (rows : List (List IV)) (full : Bool) (a : Addr) (n cap b o sz : Nat) (us : Nat → Nat → Value) (hn : n = rows.length)
      (ha : rows ≠ [] → a = ad b o) (hc : rows.length ≤ cap) (hf : full = true → cap = rows.length)
      (hs : ∀ (r : Nat) (row : List IV), rows[r]? = some row → row.length = sz) (hk : ∀ (r : Nat) (row : List IV) (c : Nat), rows[r]? = some row → c < sz → K.κ b (o + r * sz + c) = some (us r c))
      (hv : ∀ (r : Nat) (row : List IV) (c : Nat) (x : IV), rows[r]? = some row → row[c]? = some x → VR K.bare x (us r c)) : VR K (.imm rows full) (.slice (some a) n cap)
  | arr (K : Kp) (b g off len cap : Nat) (ex : Bool) (v : Value) (L : Loc) (h : K.ρ b = some L) (hg : g ≤ L.gen)
      (e : L.gen = g → ∃ a cap', v = .slice (some a) len cap' ∧ (0 < cap' → a = ad L.blk (L.org + off * L.sz)) ∧ cap ≤ cap' ∧ len ≤ cap ∧ (ex = true → cap' = cap) ∧ (off + cap') * L.sz ≤ L.ext) (hp : ∃ a c, v = .slice (some a) len c) : VR K (.arr b g off len cap ex) v
  | fn (K : Kp) (f : Nat) (caps : List IV) (us : Array Value) (hl : us.size = caps.length) (hv : ∀ (i : Nat) (x : IV) (y : Value), caps[i]? = some x → us[i]? = some y → VR K x y) : VR K (.fn f caps) (.func (.func f) #[] us)
  | nfn (K : Kp) : VR K .nfn .nilFunc
  | nif (K : Kp) : VR K .nif .nilIface
  | ifc (K : Kp) (t : Nat) (v : IV) (u : Value) (h : VR K v u) : VR K (.ifc t v) (.iface t u)
  | agg (K : Kp) (cs : List IV) (us : Array Value) (hl : us.size = cs.length) (hv : ∀ (i : Nat) (x : IV) (y : Value), cs[i]? = some x → us[i]? = some y → VR K x y) : VR K (.agg cs) (.agg us)
  | tup (K : Kp) (cs : List IV) (us : Array Value) (hl : us.size = cs.length) (hv : ∀ (i : Nat) (x : IV) (y : Value), cs[i]? = some x → us[i]? = some y → VR K x y) : VR K (.tup cs) (.tuple us)

theorem Kp.bare_mono {K K' : Kp} (h : K.le K') : K.bare.le K'.bare := ⟨fun _ _ e => (by cases e), h.2⟩
theorem Kp.bare_le (K : Kp) : K.bare.le K := ⟨fun _ _ e => (by cases e), fun _ _ _ h => h⟩

theorem VR.mono {K : Kp} {x : IV} {v : Value} (h : VR K x v) : ∀ {K' : Kp}, K.le K' → VR K' x v := by
  induction h with
  | und K v => exact fun _ => .und _ v
  | bool K b => exact fun _ => .bool _ b
  | int K k n => exact fun _ => .int _ k n
  | str K s => exact fun _ => .str _ s
  | nptr K => exact fun _ => .nptr _
  | ptr K b g i j v L h e hg hp =>
    intro K' hK
    obtain ⟨L', h', g', e'⟩ := hK.1 b L h
    refine .ptr _ b g i j v L' h' (fun he => ?_) (by omega) hp
    have : L'.gen = L.gen := by omega
    rw [e' this] at he ⊢
    exact e he
  | eptr K rows i j b o sz us hs hk _ ih => exact fun hK => .eptr _ rows i j b o sz us hs (fun r row c h1 h2 => hK.2 _ _ _ (hk r row c h1 h2)) (fun r row c x h1 h2 => ih r row c x h1 h2 (Kp.bare_mono hK))
  | nsl K => exact fun _ => .nsl _
  | imm K rows full a n cap b o sz us hn ha hc hf hs hk _ ih => exact fun hK => .imm _ rows full a n cap b o sz us hn ha hc hf hs (fun r row c h1 h2 => hK.2 _ _ _ (hk r row c h1 h2)) (fun r row c x h1 h2 => ih r row c x h1 h2 (Kp.bare_mono hK))
  | arr K b g off len cap ex v L h hg e hp =>
    intro K' hK
    obtain ⟨L', h', g', e'⟩ := hK.1 b L h
    refine .arr _ b g off len cap ex v L' h' (by omega) (fun he => ?_) hp
    have : L'.gen = L.gen := by omega
    rw [e' this] at he ⊢
    exact e he
  | fn K f caps us hl _ ih => exact fun hK => .fn _ f caps us hl (fun i x y h1 h2 => ih i x y h1 h2 hK)
  | nfn K => exact fun _ => .nfn _
  | nif K => exact fun _ => .nif _
  | ifc K t v u _ ih => exact fun hK => .ifc _ t v u (ih hK)
  | agg K cs us hl _ ih => exact fun hK => .agg _ cs us hl (fun i x y h1 h2 => ih i x y h1 h2 hK)
  | tup K cs us hl _ ih => exact fun hK => .tup _ cs us hl (fun i x y h1 h2 => ih i x y h1 h2 hK)

/-- What a block holds in the model's memory. -/
structure BlkOk (K : Kp) (B : Bk) (L : Loc) (w : World) : Prop where
  gen : B.gen = L.gen
  lt : L.blk < w.heap.size
  len : ∀ (r : Nat) (row : List IV), B.rows[r]? = some row → row.length = L.sz
  fit : B.rows.length * L.sz ≤ L.ext
  there : ∀ i, i < L.ext → ∃ u, w.cell? (ad L.blk (L.org + i)) = some u ∧ u.oneCell' = true
  soft : ∀ i, i < L.ext → w.frozen? (ad L.blk (L.org + i)) = false
  cell : ∀ (r : Nat) (row : List IV) (c : Nat) (x : IV), B.rows[r]? = some row → row[c]? = some x → ∃ u, w.cell? (ad L.blk (L.org + r * L.sz + c)) = some u ∧ VR K x u
  ety : ∀ t : Nat, B.ty = some t → L.org = 0 ∧ ∃ c fr, w.heap[L.blk]? = some (.cells c t fr)

/-- The ideal heap and the model's world. Blocks below 'ro' are only read. -/
structure Rel (K : Kp) (ro : Nat) (H : Hp) (w : World) : Prop where
  blk : ∀ b L, K.ρ b = some L → ∃ B, H[b]? = some B ∧ BlkOk K B L w
  inj : ∀ b b' L L', K.ρ b = some L → K.ρ b' = some L' → L.blk = L'.blk → b = b'
  claim : ∀ b i v, K.κ b i = some v → w.cell? (ad b i) = some v ∧ v.oneCell' = true
  own : ∀ b L B, K.ρ b = some L → H[b]? = some B → ro ≤ b → B.frz = false → ∀ i, L.org ≤ i → K.κ L.blk i = none
  low : ro ≤ H.length

end Go.Vs
