/- Frames, steps; reading and writing through the relation. -/
import Derived.Test.YtinmpfflkcnkfaaVsComp
namespace Go.Vs
open Go Go.RowKit

/-- What a step leaves as it was. -/
structure Fr (K K' : Kp) (ro hl hl' : Nat) (w w' : World) : Prop where
  bel : Below 0 w w'
  len : hl ≤ hl'
  keep : ∀ k, k < w.heap.size → (∀ b L, ro ≤ b → K.ρ b = some L → L.blk ≠ k) → w'.heap[k]? = w.heap[k]?
  claim : ∀ k i, K'.κ k i ≠ none → K.κ k i ≠ none ∨ w.heap.size ≤ k ∨ ∃ b L, ro ≤ b ∧ K.ρ b = some L ∧ L.blk = k
  loc : ∀ b L', K'.ρ b = some L' → w.heap.size ≤ L'.blk ∨ ∃ L, K.ρ b = some L ∧ L'.blk = L.blk
  old : ∀ b, b < hl → K.ρ b = none → K'.ρ b = none
  low : ∀ b, b < ro → K'.ρ b = K.ρ b

theorem Fr.refl (K : Kp) (ro hl : Nat) (w : World) : Fr K K ro hl hl w w :=
  ⟨Below.refl _ _, Nat.le_refl _, fun _ _ _ => rfl, fun _ _ h => .inl h, fun _ L' h => .inr ⟨L', h, rfl⟩, fun _ _ h => h, fun _ _ => rfl⟩

theorem Fr.trans {K K1 K2 : Kp} {ro h h1 h2 : Nat} {w w1 w2 : World} (a : Fr K K1 ro h h1 w w1) (b : Fr K1 K2 ro h1 h2 w1 w2) : Fr K K2 ro h h2 w w2 := by
  refine ⟨a.bel.trans b.bel, Nat.le_trans a.len b.len, fun k hk hn => ?_, fun k i hc => ?_, fun x L' hL => ?_, fun x hx hn => ?_, fun x hx => (b.low x hx).trans (a.low x hx)⟩
  · rw [b.keep k (Nat.lt_of_lt_of_le hk a.bel.size) (fun x L hr hx => ?_), a.keep k hk hn]
    rcases a.loc x L hx with h' | ⟨L0, h0, e⟩
    · omega
    · rw [e]; exact hn x L0 hr h0
  · rcases b.claim k i hc with h' | h' | ⟨x, L, hr, hx, e⟩
    · exact a.claim k i h'
    · exact .inr (.inl (Nat.le_trans a.bel.size h'))
    · rcases a.loc x L hx with h' | ⟨L0, h0, e0⟩
      · exact .inr (.inl (by omega))
      · exact .inr (.inr ⟨x, L0, hr, h0, by omega⟩)
  · rcases b.loc x L' hL with h' | ⟨L1, h1, e1⟩
    · exact .inl (Nat.le_trans a.bel.size h')
    · rcases a.loc x L1 h1 with h' | ⟨L0, h0, e0⟩
      · exact .inl (by omega)
      · exact .inr ⟨L0, h0, by omega⟩
  · exact b.old x (Nat.lt_of_lt_of_le hx a.len) (a.old x hx hn)

/-- A step: from one heap and world to the next, with a value. -/
def Step (K : Kp) (ro : Nat) (H : Hp) (w : World) (H' : Hp) (w' : World) (x : IV) (v : Value) : Prop :=
  ∃ K', K.le K' ∧ Rel K' ro H' w' ∧ VR K' x v ∧ Fr K K' ro H.length H'.length w w'

theorem Step.here {K : Kp} {ro : Nat} {H : Hp} {w : World} {x : IV} {v : Value} (hR : Rel K ro H w) (hv : VR K x v) : Step K ro H w H w x v :=
  ⟨K, K.le_refl, hR, hv, Fr.refl _ _ _ _⟩

theorem Rel.lt {K : Kp} {ro : Nat} {H : Hp} {w : World} (hR : Rel K ro H w) {b : Nat} {L : Loc} (h : K.ρ b = some L) : b < H.length := by
  obtain ⟨B, hB, _⟩ := hR.blk b L h
  exact (List.getElem?_eq_some_iff.1 hB).1

theorem Rel.out {K : Kp} {ro : Nat} {H : Hp} {w : World} (hR : Rel K ro H w) {b : Nat} (h : H.length ≤ b) : K.ρ b = none := by
  cases hb : K.ρ b with
  | none => rfl
  | some L => have := hR.lt hb; omega

theorem Rel.sizeK {K : Kp} {ro : Nat} {H : Hp} {w : World} (hR : Rel K ro H w) {b i : Nat} (h : w.heap.size ≤ b) : K.κ b i = none := by
  cases hc : K.κ b i with
  | none => rfl
  | some v =>
    have := World.block_lt_of_cell? _ _ (hR.claim b i v hc).1
    simp [ad] at this; omega

/-! ### Values -/

theorem ad_add (b o n : Nat) : (ad b o).add n = ad b (o + n) := by
  unfold ad Addr.add
  split
  · subst_vars; rfl
  · rfl

theorem VR.cells {K : Kp} {x : IV} {v : Value} {cs : List IV} (hv : VR K x v) (h : cellsO x = some cs) :
    v.cells.size = cs.length ∧ (∀ (j : Nat) (y : IV) (u : Value), cs[j]? = some y → v.cells[j]? = some u → VR K y u) ∧ (∀ y ∈ cs, cellOk y = true) := by
  cases hv <;> simp only [cellsO, cellOk, Bool.false_eq_true, ↓reduceIte, reduceCtorEq, Option.some.injEq] at h
  case agg us hl hv =>
    split at h
    · rename_i hall
      simp only [Option.some.injEq] at h
      subst h
      exact ⟨hl, hv, fun y hy => (List.all_eq_true.1 hall) y hy⟩
    · cases h
  case ptr a b _ _ _ hp =>
    obtain ⟨p, rfl⟩ := hp
    subst h
    refine ⟨rfl, fun j y u h1 h2 => ?_, by simp [cellOk]⟩
    cases j with
    | zero => simp [Value.cells] at h1 h2; subst h1 h2; exact .ptr _ _ _ _ _ _ _ ‹_› ‹_› ‹_› ⟨_, rfl⟩
    | succ j => simp at h1
  case arr a b _ _ _ hp =>
    obtain ⟨p, c, rfl⟩ := hp
    subst h
    refine ⟨rfl, fun j y u h1 h2 => ?_, by simp [cellOk]⟩
    cases j with
    | zero => simp [Value.cells] at h1 h2; subst h1 h2; exact .arr _ _ _ _ _ _ _ _ _ ‹_› ‹_› ‹_› ⟨_, _, rfl⟩
    | succ j => simp at h1
  all_goals
    subst h
    refine ⟨rfl, fun j y u h1 h2 => ?_, by simp [cellOk]⟩
    cases j with
    | zero =>
      simp [Value.cells] at h1 h2
      subst h1 h2
      first
      | exact .bool _ _ | exact .int _ _ _ | exact .str _ _ | exact .nptr _ | exact .nsl _ | exact .nfn _ | exact .nif _
      | exact .eptr _ _ _ _ _ _ _ _ ‹_› ‹_› ‹_›
      | exact .imm _ _ _ _ _ _ _ _ _ _ ‹_› ‹_› ‹_› ‹_› ‹_› ‹_› ‹_›
      | exact .fn _ _ _ _ ‹_› ‹_›
      | exact .ifc _ _ _ _ ‹_›
    | succ j => simp at h1

theorem VR.one {K : Kp} {x : IV} {v : Value} (hv : VR K x v) (h : cellOk x = true) : v.oneCell' = true := by
  cases hv <;> first | rfl | (simp [cellOk] at h; done) | skip
  case ptr hp => obtain ⟨p, rfl⟩ := hp; rfl
  case arr hp => obtain ⟨p, c, rfl⟩ := hp; rfl

theorem VR_ofS (K : Kp) (v : Value) : VR K (ofS v) v := by
  unfold ofS
  split <;> first | exact .und _ _ | exact .bool _ _ | exact .int _ _ _ | exact .str _ _ | exact .nptr _ | exact .nsl _ | exact .nfn _ | exact .nif _

theorem VR_ofV (K : Kp) (v : Value) : VR K (ofV v) v := by
  unfold ofV
  split
  · rename_i cs
    refine .agg _ _ _ (by simp) (fun i x y h1 h2 => ?_)
    rw [List.getElem?_map, Array.getElem?_toList, h2] at h1
    simp at h1; subst h1
    exact VR_ofS K y
  · exact VR_ofS K v

theorem VR.ptr_inv {K : Kp} {b g i j : Nat} {v : Value} (h : VR K (.ptr b g i j) v) : ∃ L, K.ρ b = some L ∧ (L.gen = g → v = .pointer (some (ad L.blk (L.org + i * L.sz + j)))) ∧ g ≤ L.gen ∧ ∃ a, v = .pointer (some a) := by
  cases h
  exact ⟨_, ‹_›, ‹_›, ‹_›, ‹_›⟩

/-- Rows that are claimed. -/
structure Claimed (K : Kp) (rows : List (List IV)) (b o sz : Nat) (us : Nat → Nat → Value) : Prop where
  len : ∀ (r : Nat) (row : List IV), rows[r]? = some row → row.length = sz
  cl : ∀ (r : Nat) (row : List IV) (c : Nat), rows[r]? = some row → c < sz → K.κ b (o + r * sz + c) = some (us r c)
  val : ∀ (r : Nat) (row : List IV) (c : Nat) (x : IV), rows[r]? = some row → row[c]? = some x → VR K.bare x (us r c)

theorem VR.eptr_inv {K : Kp} {rows : List (List IV)} {i j : Nat} {v : Value} (h : VR K (.eptr rows i j) v) : ∃ b o sz us, v = .pointer (some (ad b (o + i * sz + j))) ∧ Claimed K rows b o sz us := by
  cases h
  exact ⟨_, _, _, _, rfl, ⟨‹_›, ‹_›, ‹_›⟩⟩

theorem VR.imm_inv {K : Kp} {rows : List (List IV)} {full : Bool} {v : Value} (h : VR K (.imm rows full) v) : ∃ a cap b o sz us, v = .slice (some a) rows.length cap ∧ (rows ≠ [] → a = ad b o) ∧ rows.length ≤ cap ∧ (full = true → cap = rows.length) ∧ Claimed K rows b o sz us := by
  cases h
  subst_vars
  exact ⟨_, _, _, _, _, _, rfl, ‹_›, ‹_›, ‹_›, ⟨‹_›, ‹_›, ‹_›⟩⟩

theorem VR.arr_inv {K : Kp} {b g off len cap : Nat} {ex : Bool} {v : Value} (h : VR K (.arr b g off len cap ex) v) :
    ∃ L, K.ρ b = some L ∧ g ≤ L.gen ∧ (L.gen = g → ∃ a cap', v = .slice (some a) len cap' ∧ (0 < cap' → a = ad L.blk (L.org + off * L.sz)) ∧ cap ≤ cap' ∧ len ≤ cap ∧ (ex = true → cap' = cap) ∧ (off + cap') * L.sz ≤ L.ext) ∧ ∃ a c, v = .slice (some a) len c := by
  cases h
  exact ⟨_, ‹_›, ‹_›, ‹_›, ‹_›⟩

theorem VR.agg_inv {K : Kp} {cs : List IV} {v : Value} (h : VR K (.agg cs) v) : ∃ us : Array Value, v = .agg us ∧ us.size = cs.length ∧ ∀ (i : Nat) (x : IV) (y : Value), cs[i]? = some x → us[i]? = some y → VR K x y := by
  cases h
  exact ⟨_, rfl, ‹_›, ‹_›⟩
theorem VR.tup_inv {K : Kp} {cs : List IV} {v : Value} (h : VR K (.tup cs) v) : ∃ us : Array Value, v = .tuple us ∧ us.size = cs.length ∧ ∀ (i : Nat) (x : IV) (y : Value), cs[i]? = some x → us[i]? = some y → VR K x y := by
  cases h
  exact ⟨_, rfl, ‹_›, ‹_›⟩
theorem VR.fn_inv {K : Kp} {f : Nat} {cs : List IV} {v : Value} (h : VR K (.fn f cs) v) : ∃ us : Array Value, v = .func (.func f) #[] us ∧ us.size = cs.length ∧ ∀ (i : Nat) (x : IV) (y : Value), cs[i]? = some x → us[i]? = some y → VR K x y := by
  cases h
  exact ⟨_, rfl, ‹_›, ‹_›⟩
theorem VR.ifc_inv {K : Kp} {t : Nat} {x : IV} {v : Value} (h : VR K (.ifc t x) v) : ∃ u, v = .iface t u ∧ VR K x u := by
  cases h
  exact ⟨_, rfl, ‹_›⟩
theorem VR.int_inv {K : Kp} {k : IntKind} {n : Int} {v : Value} (h : VR K (.int k n) v) : v = .int k n := by cases h; rfl
theorem VR.bool_inv {K : Kp} {b : Bool} {v : Value} (h : VR K (.bool b) v) : v = .bool b := by cases h; rfl
theorem VR.str_inv {K : Kp} {s : ByteArray} {v : Value} (h : VR K (.str s) v) : v = .string s := by cases h; rfl
theorem VR.nptr_inv {K : Kp} {v : Value} (h : VR K .nptr v) : v = .pointer none := by cases h; rfl
theorem VR.nsl_inv {K : Kp} {v : Value} (h : VR K .nsl v) : v = .slice none 0 0 := by cases h; rfl
theorem VR.nfn_inv {K : Kp} {v : Value} (h : VR K .nfn v) : v = .nilFunc := by cases h; rfl
theorem VR.nif_inv {K : Kp} {v : Value} (h : VR K .nif v) : v = .nilIface := by cases h; rfl

/-- The slots. -/
def EnvOk (K : Kp) (e : Env) (a : Act) : Prop := ∀ t, VR K (get e t) (a.tmps.getD t undef)

theorem EnvOk.mono {K K' : Kp} {e : Env} {a : Act} (h : EnvOk K e a) (hK : K.le K') : EnvOk K' e a := fun t => (h t).mono hK

theorem EnvOk.ev {K : Kp} {e : Env} {a : Act} (h : EnvOk K e a) {x : Operand} {y : Opd} (hc : cOpd x = some y) : VR K (ev e y) (a.eval x) := by
  cases x <;> simp [cOpd] at hc <;> subst hc
  · exact h _
  · exact VR_ofV _ _
  · exact .fn _ _ _ _ rfl (fun i x y h => by simp at h)

theorem get_put (e : Env) (d : Option Nat) (v : IV) (t : Nat) : get (putE e d v) t = if d = some t then v else get e t := by
  cases d with
  | none => simp [putE]
  | some d => simp [putE, get]

theorem EnvOk.put {K : Kp} {e : Env} {a : Act} (h : EnvOk K e a) (d : Option Nat) {x : IV} {v : Value} (hv : VR K x v) (hs : ∀ t, d = some t → t < a.tmps.size) : EnvOk K (putE e d x) (a.put d v) := by
  intro t
  rw [get_put]
  cases d with
  | none => simpa [Act.put] using h t
  | some d =>
    by_cases hd : d = t
    · subst hd
      have := hs d rfl
      simp only [if_true, Act.put]
      rw [Array.getD_eq_getD_getElem?, Array.getElem?_setIfInBounds_self_of_lt this]
      exact hv
    · have : ¬ some d = some t := by simpa using hd
      rw [if_neg this]
      simp only [Act.put]
      rw [Array.getD_eq_getD_getElem?, Array.getElem?_setIfInBounds_ne hd, ← Array.getD_eq_getD_getElem?]
      exact h t

theorem get_keep (ks : List Nat) (e : Env) (t : Nat) : get (keepE ks e) t = if t ∈ ks then get e t else .und := by
  induction ks with
  | nil => simp [keepE, get]
  | cons k ks ih =>
    simp only [keepE, List.map_cons, get] at ih ⊢
    by_cases h : k = t
    · subst h; simp
    · rw [if_neg h, ih]; simp [Ne.symm h]

theorem EnvOk.keep {K : Kp} {e : Env} {a : Act} (h : EnvOk K e a) (ks : List Nat) : EnvOk K (keepE ks e) a := by
  intro t
  rw [get_keep]
  split
  · exact h t
  · exact .und _ _

end Go.Vs
