import Derived.Test.YtnfddeiegbifhaaDoorVsComp
import Derived.Lib.UnsafeStr
import Derived.Lib.Builder
/- Frames, steps; reading and writing through the relation. -/
namespace Go.Vs
open Go Go.RowKit

/-- What a step leaves as it was. -/
structure Fr (K K' : Kp) (ro hl hl' : Nat) (w w' : World) : Prop where
  bel : Below 0 w w'
  len : hl ≤ hl'
  keep : ∀ k, k < w.heap.size → (∀ b L, ro ≤ b → K.ρ b = some L → L.blk ≠ k) → w'.heap[k]? = w.heap[k]?
  claim : ∀ k i, K'.κ k i ≠ none → K.κ k i ≠ none ∨ w.heap.size ≤ k ∨ ∃ b L, ro ≤ b ∧ K.ρ b = some L ∧ L.blk = k
  loc : ∀ b L', K'.ρ b = some L' → w.heap.size ≤ L'.blk ∨ ∃ c L, (c = b ∨ ro ≤ c ∧ ro ≤ b) ∧ K.ρ c = some L ∧ L'.blk = L.blk
  old : ∀ b, b < hl → K.ρ b = none → K'.ρ b = none
  low : ∀ b, b < ro → K'.ρ b = K.ρ b

theorem Fr.refl (K : Kp) (ro hl : Nat) (w : World) : Fr K K ro hl hl w w :=
  ⟨Below.refl _ _, Nat.le_refl _, fun _ _ _ => rfl, fun _ _ h => .inl h, fun _ L' h => .inr ⟨_, L', .inl rfl, h, rfl⟩, fun _ _ h => h, fun _ _ => rfl⟩

theorem Fr.trans {K K1 K2 : Kp} {ro h h1 h2 : Nat} {w w1 w2 : World} (a : Fr K K1 ro h h1 w w1) (b : Fr K1 K2 ro h1 h2 w1 w2) : Fr K K2 ro h h2 w w2 := by
  refine ⟨a.bel.trans b.bel, Nat.le_trans a.len b.len, fun k hk hn => ?_, fun k i hc => ?_, fun x L' hL => ?_, fun x hx hn => ?_, fun x hx => (b.low x hx).trans (a.low x hx)⟩
  · rw [b.keep k (Nat.lt_of_lt_of_le hk a.bel.size) (fun x L hr hx => ?_), a.keep k hk hn]
    rcases a.loc x L hx with h' | ⟨c, L0, hc, h0, e⟩
    · omega
    · rw [e]; exact hn c L0 (by omega) h0
  · rcases b.claim k i hc with h' | h' | ⟨x, L, hr, hx, e⟩
    · exact a.claim k i h'
    · exact .inr (.inl (Nat.le_trans a.bel.size h'))
    · rcases a.loc x L hx with h' | ⟨c, L0, hc, h0, e0⟩
      · exact .inr (.inl (by omega))
      · exact .inr (.inr ⟨c, L0, by omega, h0, by omega⟩)
  · rcases b.loc x L' hL with h' | ⟨c1, L1, hc1, h1, e1⟩
    · exact .inl (Nat.le_trans a.bel.size h')
    · rcases a.loc c1 L1 h1 with h' | ⟨c0, L0, hc0, h0, e0⟩
      · exact .inl (by omega)
      · exact .inr ⟨c0, L0, by omega, h0, by omega⟩
  · exact b.old x (Nat.lt_of_lt_of_le hx a.len) (a.old x hx hn)

/-- A step: from one heap and world to the next, with a value. -/
def Step (K : Kp) (ro : Nat) (H : Hp) (w : World) (H' : Hp) (w' : World) (x : IV) (v : Value) : Prop :=
  ∃ K', K.le K' ∧ Rel K' ro H' w' ∧ VR K' x v ∧ Fr K K' ro H.length H'.length w w'

theorem Step.here {K : Kp} {ro : Nat} {H : Hp} {w : World} {x : IV} {v : Value} (hR : Rel K ro H w) (hv : VR K x v) : Step K ro H w H w x v :=
  ⟨K, K.le_refl, hR, hv, Fr.refl _ _ _ _⟩

theorem Rel.lt {K : Kp} {ro : Nat} {H : Hp} {w : World} (hR : Rel K ro H w) {b : Nat} {L : Loc} (h : K.ρ b = some L) : b < H.length := by
  obtain ⟨B, hB, _⟩ := hR.blk b L h
  exact (List.getElem?_eq_some_iff.1 hB).1

theorem Rel.out {K : Kp} {ro : Nat} {H : Hp} {w : World} (hR : Rel K ro H w) {b : Nat} (h : H.length ≤ b) : K.ρ b = none := by
  cases hb : K.ρ b with
  | none => rfl
  | some L => have := hR.lt hb; omega

theorem Rel.sizeK {K : Kp} {ro : Nat} {H : Hp} {w : World} (hR : Rel K ro H w) {b i : Nat} (h : w.heap.size ≤ b) : K.κ b i = none := by
  cases hc : K.κ b i with
  | none => rfl
  | some v =>
    have := World.block_lt_of_cell? _ _ (hR.claim b i v hc).1
    simp [ad] at this; omega

/-! ### Values -/

theorem ad_add (b o n : Nat) : (ad b o).add n = ad b (o + n) := by
  unfold ad Addr.add
  split
  · subst_vars; rfl
  · rfl

theorem VR.cells {K : Kp} {x : IV} {v : Value} {cs : List IV} (hv : VR K x v) (h : cellsO x = some cs) :
    v.cells.size = cs.length ∧ (∀ (j : Nat) (y : IV) (u : Value), cs[j]? = some y → v.cells[j]? = some u → VR K y u) ∧ (∀ y ∈ cs, cellOk y = true) := by
  cases hv <;> simp only [cellsO, cellOk, Bool.false_eq_true, ↓reduceIte, reduceCtorEq, Option.some.injEq] at h
  case agg us hl hv =>
    split at h
    · rename_i hall
      simp only [Option.some.injEq] at h
      subst h
      exact ⟨hl, hv, fun y hy => (List.all_eq_true.1 hall) y hy⟩
    · cases h
  case ptr a b _ _ _ hp =>
    obtain ⟨p, rfl⟩ := hp
    subst h
    refine ⟨rfl, fun j y u h1 h2 => ?_, by simp [cellOk]⟩
    cases j with
    | zero => simp [Value.cells] at h1 h2; subst h1 h2; exact .ptr _ _ _ _ _ _ _ ‹_› ‹_› ‹_› ⟨_, rfl⟩
    | succ j => simp at h1
  case arr a b _ _ _ hp =>
    obtain ⟨p, c, rfl⟩ := hp
    subst h
    refine ⟨rfl, fun j y u h1 h2 => ?_, by simp [cellOk]⟩
    cases j with
    | zero => simp [Value.cells] at h1 h2; subst h1 h2; exact .arr _ _ _ _ _ _ _ _ _ ‹_› ‹_› ‹_› ⟨_, _, rfl⟩
    | succ j => simp at h1
  all_goals
    subst h
    refine ⟨rfl, fun j y u h1 h2 => ?_, by simp [cellOk]⟩
    cases j with
    | zero =>
      simp [Value.cells] at h1 h2
      subst h1 h2
      first
      | exact .bool _ _ | exact .int _ _ _ | exact .str _ _ | exact .nptr _ | exact .nsl _ | exact .nfn _ | exact .nif _
      | exact .eptr _ _ _ _ _ _ _ _ ‹_› ‹_› ‹_›
      | exact .imm _ _ _ _ _ _ _ _ _ _ ‹_› ‹_› ‹_› ‹_› ‹_› ‹_› ‹_›
      | exact .fn _ _ _ _ ‹_› ‹_›
      | exact .ifc _ _ _ _ ‹_›
    | succ j => simp at h1

theorem VR.one {K : Kp} {x : IV} {v : Value} (hv : VR K x v) (h : cellOk x = true) : v.oneCell' = true := by
  cases hv <;> first | rfl | (simp [cellOk] at h; done) | skip
  case ptr hp => obtain ⟨p, rfl⟩ := hp; rfl
  case arr hp => obtain ⟨p, c, rfl⟩ := hp; rfl

theorem VR_ofS (K : Kp) (v : Value) : VR K (ofS v) v := by
  unfold ofS
  split <;> first | exact .und _ _ | exact .bool _ _ | exact .int _ _ _ | exact .str _ _ | exact .nptr _ | exact .nsl _ | exact .nfn _ | exact .nif _

theorem VR_ofV (K : Kp) (v : Value) : VR K (ofV v) v := by
  unfold ofV
  split
  · rename_i cs
    refine .agg _ _ _ (by simp) (fun i x y h1 h2 => ?_)
    rw [List.getElem?_map, Array.getElem?_toList, h2] at h1
    simp at h1; subst h1
    exact VR_ofS K y
  · exact VR_ofS K v

theorem VR.ptr_inv {K : Kp} {b g i j : Nat} {v : Value} (h : VR K (.ptr b g i j) v) : ∃ L, K.ρ b = some L ∧ (L.gen = g → v = .pointer (some (ad L.blk (L.org + i * L.sz + j)))) ∧ g ≤ L.gen ∧ ∃ a, v = .pointer (some a) := by
  cases h
  exact ⟨_, ‹_›, ‹_›, ‹_›, ‹_›⟩

/-- Rows that are claimed. -/
structure Claimed (K : Kp) (rows : List (List IV)) (b o sz : Nat) (us : Nat → Nat → Value) : Prop where
  len : ∀ (r : Nat) (row : List IV), rows[r]? = some row → row.length = sz
  cl : ∀ (r : Nat) (row : List IV) (c : Nat), rows[r]? = some row → c < sz → K.κ b (o + r * sz + c) = some (us r c)
  val : ∀ (r : Nat) (row : List IV) (c : Nat) (x : IV), rows[r]? = some row → row[c]? = some x → VR K.bare x (us r c)

theorem VR.eptr_inv {K : Kp} {rows : List (List IV)} {i j : Nat} {v : Value} (h : VR K (.eptr rows i j) v) : ∃ b o sz us, v = .pointer (some (ad b (o + i * sz + j))) ∧ Claimed K rows b o sz us := by
  cases h
  exact ⟨_, _, _, _, rfl, ⟨‹_›, ‹_›, ‹_›⟩⟩

theorem VR.imm_inv {K : Kp} {rows : List (List IV)} {full : Bool} {v : Value} (h : VR K (.imm rows full) v) : ∃ a cap b o sz us, v = .slice (some a) rows.length cap ∧ (rows ≠ [] → a = ad b o) ∧ rows.length ≤ cap ∧ (full = true → cap = rows.length) ∧ Claimed K rows b o sz us := by
  cases h
  subst_vars
  exact ⟨_, _, _, _, _, _, rfl, ‹_›, ‹_›, ‹_›, ⟨‹_›, ‹_›, ‹_›⟩⟩

theorem VR.arr_inv {K : Kp} {b g off len cap : Nat} {ex : Bool} {v : Value} (h : VR K (.arr b g off len cap ex) v) :
    ∃ L, K.ρ b = some L ∧ g ≤ L.gen ∧ (L.gen = g → ∃ a cap', v = .slice (some a) len cap' ∧ (0 < cap' → a = ad L.blk (L.org + off * L.sz)) ∧ cap ≤ cap' ∧ len ≤ cap ∧ (ex = true → cap' = cap) ∧ (off + cap') * L.sz ≤ L.ext) ∧ ∃ a c, v = .slice (some a) len c := by
  cases h
  exact ⟨_, ‹_›, ‹_›, ‹_›, ‹_›⟩

theorem VR.agg_inv {K : Kp} {cs : List IV} {v : Value} (h : VR K (.agg cs) v) : ∃ us : Array Value, v = .agg us ∧ us.size = cs.length ∧ ∀ (i : Nat) (x : IV) (y : Value), cs[i]? = some x → us[i]? = some y → VR K x y := by
  cases h
  exact ⟨_, rfl, ‹_›, ‹_›⟩
theorem VR.tup_inv {K : Kp} {cs : List IV} {v : Value} (h : VR K (.tup cs) v) : ∃ us : Array Value, v = .tuple us ∧ us.size = cs.length ∧ ∀ (i : Nat) (x : IV) (y : Value), cs[i]? = some x → us[i]? = some y → VR K x y := by
  cases h
  exact ⟨_, rfl, ‹_›, ‹_›⟩
theorem VR.fn_inv {K : Kp} {f : Nat} {cs : List IV} {v : Value} (h : VR K (.fn f cs) v) : ∃ us : Array Value, v = .func (.func f) #[] us ∧ us.size = cs.length ∧ ∀ (i : Nat) (x : IV) (y : Value), cs[i]? = some x → us[i]? = some y → VR K x y := by
  cases h
  exact ⟨_, rfl, ‹_›, ‹_›⟩
theorem VR.ifc_inv {K : Kp} {t : Nat} {x : IV} {v : Value} (h : VR K (.ifc t x) v) : ∃ u, v = .iface t u ∧ VR K x u := by
  cases h
  exact ⟨_, rfl, ‹_›⟩
theorem VR.int_inv {K : Kp} {k : IntKind} {n : Int} {v : Value} (h : VR K (.int k n) v) : v = .int k n := by cases h; rfl
theorem VR.bool_inv {K : Kp} {b : Bool} {v : Value} (h : VR K (.bool b) v) : v = .bool b := by cases h; rfl
theorem VR.str_inv {K : Kp} {s : ByteArray} {v : Value} (h : VR K (.str s) v) : v = .string s := by cases h; rfl
theorem VR.nptr_inv {K : Kp} {v : Value} (h : VR K .nptr v) : v = .pointer none := by cases h; rfl
theorem VR.nsl_inv {K : Kp} {v : Value} (h : VR K .nsl v) : v = .slice none 0 0 := by cases h; rfl
theorem VR.nfn_inv {K : Kp} {v : Value} (h : VR K .nfn v) : v = .nilFunc := by cases h; rfl
theorem VR.nif_inv {K : Kp} {v : Value} (h : VR K .nif v) : v = .nilIface := by cases h; rfl

/-- The slots. -/
def EnvOk (K : Kp) (e : Env) (a : Act) : Prop := ∀ t, VR K (get e t) (a.tmps.getD t undef)

theorem EnvOk.mono {K K' : Kp} {e : Env} {a : Act} (h : EnvOk K e a) (hK : K.le K') : EnvOk K' e a := fun t => (h t).mono hK

theorem EnvOk.ev {K : Kp} {e : Env} {a : Act} (h : EnvOk K e a) {x : Operand} {y : Opd} (hc : cOpd x = some y) : VR K (ev e y) (a.eval x) := by
  cases x <;> simp [cOpd] at hc <;> subst hc
  · exact h _
  · exact VR_ofV _ _
  · exact .fn _ _ _ _ rfl (fun i x y h => by simp at h)

theorem get_put (e : Env) (d : Option Nat) (v : IV) (t : Nat) : get (putE e d v) t = if d = some t then v else get e t := by
  cases d with
  | none => simp [putE]
  | some d => simp [putE, get]

theorem EnvOk.put {K : Kp} {e : Env} {a : Act} (h : EnvOk K e a) (d : Option Nat) {x : IV} {v : Value} (hv : VR K x v) (hs : ∀ t, d = some t → t < a.tmps.size) : EnvOk K (putE e d x) (a.put d v) := by
  intro t
  rw [get_put]
  cases d with
  | none => simpa [Act.put] using h t
  | some d =>
    by_cases hd : d = t
    · subst hd
      have := hs d rfl
      simp only [if_true, Act.put]
      rw [Array.getD_eq_getD_getElem?, Array.getElem?_setIfInBounds_self_of_lt this]
      exact hv
    · have : ¬ some d = some t := by simpa using hd
      rw [if_neg this]
      simp only [Act.put]
      rw [Array.getD_eq_getD_getElem?, Array.getElem?_setIfInBounds_ne hd, ← Array.getD_eq_getD_getElem?]
      exact h t

theorem get_keep (ks : List Nat) (e : Env) (t : Nat) : get (keepE ks e) t = if t ∈ ks then get e t else .und := by
  induction ks with
  | nil => simp [keepE, get]
  | cons k ks ih =>
    simp only [keepE, List.map_cons, get] at ih ⊢
    by_cases h : k = t
    · subst h; simp
    · rw [if_neg h, ih]; simp [Ne.symm h]

theorem EnvOk.keep {K : Kp} {e : Env} {a : Act} (h : EnvOk K e a) (ks : List Nat) : EnvOk K (keepE ks e) a := by
  intro t
  rw [get_keep]
  split
  · exact h t
  · exact .und _ _

end Go.Vs
/- Reading and writing memory. -/
namespace Go.Vs
open Go Go.RowKit

theorem blkAt_some {H : Hp} {b g : Nat} {B : Bk} (h : blkAt H b g = some B) : H[b]? = some B ∧ B.gen = g := by
  unfold blkAt at h
  split at h
  · split at h
    · simp at h; subst h; exact ⟨‹_›, ‹_›⟩
    · cases h
  · cases h

theorem wbl_some {ro : Nat} {H : Hp} {b g : Nat} {B : Bk} (h : wbl ro H b g = some B) : H[b]? = some B ∧ B.gen = g ∧ ro ≤ b ∧ B.frz = false := by
  unfold wbl at h
  split at h
  · rename_i hr
    cases hb : blkAt H b g with
    | none => simp [hb] at h
    | some B' =>
      obtain ⟨h1, h2⟩ := blkAt_some hb
      cases hf : B'.frz with
      | true => simp [hb, hf] at h
      | false => simp [hb, hf] at h; subst h; exact ⟨h1, h2, hr, hf⟩
  · cases h

theorem sub_some {row cs : List IV} {j n : Nat} (h : sub row j n = some cs) : cs.length = n ∧ j + n ≤ row.length ∧ ∀ i, i < n → cs[i]? = row[j + i]? := by
  unfold sub at h
  split at h
  · simp at h; subst h
    refine ⟨by simp; omega, ‹_›, fun i hi => ?_⟩
    rw [List.getElem?_take, if_pos hi, List.getElem?_drop]
  · cases h

/-- The cells that stand for a list of ideal cells. -/
def CellsAt (K : Kp) (w : World) (b o : Nat) (cs : List IV) (us : List Value) : Prop :=
  us.length = cs.length ∧ (∀ (j : Nat) (u : Value), us[j]? = some u → w.cell? (ad b (o + j)) = some u ∧ u.oneCell' = true) ∧ (∀ (j : Nat) (x : IV) (u : Value), cs[j]? = some x → us[j]? = some u → VR K x u)

theorem CellsAt.of {K : Kp} {w : World} {b o : Nat} {cs : List IV} (f : Nat → Value) (h : ∀ j, j < cs.length → w.cell? (ad b (o + j)) = some (f j) ∧ (f j).oneCell' = true)
    (hv : ∀ (j : Nat) (x : IV), cs[j]? = some x → VR K x (f j)) : CellsAt K w b o cs ((List.range cs.length).map f) := by
  refine ⟨by simp, fun j u hu => ?_, fun j x u hx hu => ?_⟩
  · simp only [List.getElem?_map, Option.map_eq_some_iff] at hu
    obtain ⟨i, hi, rfl⟩ := hu
    obtain ⟨hlt, hj⟩ := List.getElem?_eq_some_iff.1 hi
    simp only [List.length_range, List.getElem_range] at hlt hj; subst hj
    exact h j hlt
  · simp only [List.getElem?_map, Option.map_eq_some_iff] at hu
    obtain ⟨i, hi, rfl⟩ := hu
    obtain ⟨hlt, hj⟩ := List.getElem?_eq_some_iff.1 hi
    simp only [List.length_range, List.getElem_range] at hlt hj; subst hj
    exact hv j x hx

theorem CellsAt.load {K : Kp} {w : World} {b o : Nat} {cs : List IV} {us : List Value} (h : CellsAt K w b o cs us) (P : Program) : (loadCells (ad b o) cs.length).run P w = .ok us.toArray w := by
  rw [← h.1]
  refine run_loadCells_list w _ _ (fun j v hv => ?_)
  rw [ad_add]; exact (h.2.1 j v hv).1

/-- n cells out of a row of a block. -/
theorem blk_sub {K : Kp} {ro : Nat} {H : Hp} {w : World} (hR : Rel K ro H w) {b : Nat} {L : Loc} {B : Bk} (hL : K.ρ b = some L) (hB : H[b]? = some B) {i : Nat} {row : List IV} (hr : B.rows[i]? = some row) {j n : Nat} {cs : List IV} (hs : sub row j n = some cs) :
    ∃ us, CellsAt K w L.blk (L.org + i * L.sz + j) cs us := by
  obtain ⟨B', hB', ok⟩ := hR.blk b L hL
  obtain rfl : B = B' := by rw [hB] at hB'; exact Option.some.inj hB'
  obtain ⟨hl, hle, hg⟩ := sub_some hs
  have hrl := ok.len i row hr
  have : ∀ q, q < cs.length → ∃ u, w.cell? (ad L.blk (L.org + i * L.sz + j + q)) = some u ∧ u.oneCell' = true ∧ ∀ x, cs[q]? = some x → VR K x u := by
    intro q hq
    obtain ⟨x, hx⟩ : ∃ x, row[j + q]? = some x := ⟨_, List.getElem?_eq_getElem (by omega)⟩
    obtain ⟨u, hu, hv⟩ := ok.cell i row (j + q) x hr hx
    have hi : i < B.rows.length := (List.getElem?_eq_some_iff.1 hr).1
    have hfit := ok.fit
    obtain ⟨u', hu', h1⟩ := ok.there (i * L.sz + (j + q)) (by
      have := Nat.mul_le_mul_right L.sz (Nat.succ_le_of_lt hi)
      simp only [Nat.succ_eq_add_one, Nat.add_mul, Nat.one_mul] at this
      omega)
    have e : L.org + i * L.sz + j + q = L.org + i * L.sz + (j + q) := by omega
    have e' : L.org + (i * L.sz + (j + q)) = L.org + i * L.sz + (j + q) := by omega
    rw [e'] at hu'
    rw [hu] at hu'; cases hu'
    refine ⟨u, by rw [e]; exact hu, h1, fun y hy => ?_⟩
    rw [hg q (by omega), hx] at hy
    cases hy; exact hv
  classical
  refine ⟨_, CellsAt.of (fun q => if h : q < cs.length then (this q h).choose else undef) (fun q hq => ?_) (fun q x hx => ?_)⟩
  · simp only [hq, dif_pos]
    exact ⟨(this q hq).choose_spec.1, (this q hq).choose_spec.2.1⟩
  · have hq : q < cs.length := (List.getElem?_eq_some_iff.1 hx).1
    simp only [hq, dif_pos]
    exact (this q hq).choose_spec.2.2 x hx

/-- n cells out of an immutable row. -/
theorem imm_sub {K : Kp} {ro : Nat} {H : Hp} {w : World} (hR : Rel K ro H w) {rows : List (List IV)} {b o sz : Nat} {us : Nat → Nat → Value} (hc : Claimed K rows b o sz us) {i : Nat} {row : List IV} (hr : rows[i]? = some row) {j n : Nat} {cs : List IV} (hsub : sub row j n = some cs) : ∃ vs, CellsAt K w b (o + i * sz + j) cs vs := by
  obtain ⟨hl, hle, hg⟩ := sub_some hsub
  refine ⟨_, CellsAt.of (fun q => us i (j + q)) (fun q hq => ?_) (fun q x hx => ?_)⟩
  · have := hR.claim _ _ _ (hc.cl i row (j + q) hr (by rw [← hc.len i row hr]; omega))
    rw [show o + i * sz + j + q = o + i * sz + (j + q) by omega]
    exact this
  · have hq : q < cs.length := (List.getElem?_eq_some_iff.1 hx).1
    rw [hg q (by omega)] at hx
    exact (hc.val i row (j + q) x hr hx).mono K.bare_le

theorem rd_sim {K : Kp} {ro : Nat} {H : Hp} {w : World} (hR : Rel K ro H w) {x : IV} {v : Value} (hv : VR K x v) {n : Nat} {cs : List IV} (h : rd H n x = some cs) :
    cs.length = n ∧ ∃ b o us, v = .pointer (some (ad b o)) ∧ CellsAt K w b o cs us := by
  cases x <;> simp only [rd, reduceCtorEq] at h
  case ptr b g i j =>
    obtain ⟨L, hL, e, hg, hp⟩ := hv.ptr_inv
    simp only [Option.bind_eq_some_iff] at h
    obtain ⟨B, hB, row, hr, hs⟩ := h
    obtain ⟨hB, hgen⟩ := blkAt_some hB
    obtain ⟨B', hB', ok⟩ := hR.blk b L hL
    obtain rfl : B = B' := by rw [hB] at hB'; exact Option.some.inj hB'
    have e' := e (by rw [← ok.gen]; exact hgen)
    obtain ⟨us, hc⟩ := blk_sub hR hL hB hr hs
    exact ⟨(sub_some hs).1, _, _, us, e', hc⟩
  case eptr rows i j =>
    obtain ⟨b, o, sz, us, rfl, hc⟩ := hv.eptr_inv
    simp only [Option.bind_eq_some_iff] at h
    obtain ⟨row, hr, hsub⟩ := h
    obtain ⟨vs, hc⟩ := imm_sub hR hc hr hsub
    exact ⟨(sub_some hsub).1, _, _, vs, rfl, hc⟩

/-- An immutable row is read whatever the heap. -/
theorem val1_sim {K : Kp} {cs : List IV} {us : List Value} {x : IV} {ag : Bool} (hl : us.length = cs.length) (hv : ∀ (j : Nat) (y : IV) (u : Value), cs[j]? = some y → us[j]? = some u → VR K y u) (h : val1 ag cs = some x) :
    (ag = true ∧ VR K x (.agg us.toArray)) ∨ (ag = false ∧ ∃ u, us = [u] ∧ VR K x u) := by
  unfold val1 at h
  split at h
  · simp at h; subst h
    exact .inl ⟨rfl, .agg _ _ _ (by simpa using hl) (fun i x y h1 h2 => hv i x y h1 (by simpa using h2))⟩
  · simp at h; subst h
    match us, hl with
    | [u], _ => exact .inr ⟨rfl, u, rfl, hv 0 _ _ rfl rfl⟩
  · cases h

end Go.Vs
/- Writing, and new blocks. -/
namespace Go.Vs
open Go Go.RowKit

theorem BlkOk.mono {K K' : Kp} {B : Bk} {L : Loc} {w : World} (h : BlkOk K B L w) (hK : K.le K') : BlkOk K' B L w :=
  ⟨h.gen, h.lt, h.len, h.fit, h.there, h.soft, fun r row c x h1 h2 => let ⟨u, a, b⟩ := h.cell r row c x h1 h2; ⟨u, a, b.mono hK⟩, h.ety⟩

theorem BlkOk.world {K : Kp} {B : Bk} {L : Loc} {w w' : World} (h : BlkOk K B L w) (hw : w'.heap[L.blk]? = w.heap[L.blk]?) (hs : w.heap.size ≤ w'.heap.size) : BlkOk K B L w' := by
  have hc : ∀ i, w'.cell? (ad L.blk i) = w.cell? (ad L.blk i) := fun i => World.cell?_of_block hw
  have hf : ∀ i, w'.frozen? (ad L.blk i) = w.frozen? (ad L.blk i) := fun i => World.frozen?_of_block hw
  exact ⟨h.gen, by have := h.lt; omega, h.len, h.fit, fun i hi => by rw [hc]; exact h.there i hi, fun hi i => by rw [hf]; exact h.soft hi i, fun r row c x h1 h2 => by rw [hc]; exact h.cell r row c x h1 h2, fun t ht => by rw [hw]; exact h.ety t ht⟩

theorem Rel.drew {K : Kp} {ro : Nat} {H : Hp} {w : World} (h : Rel K ro H w) : Rel K ro H w.drew := by
  refine ⟨fun b L hb => ?_, h.inj, fun b i v hc => h.claim b i v hc, h.own, h.low⟩
  obtain ⟨B, hB, ok⟩ := h.blk b L hb
  exact ⟨B, hB, ok.world rfl (Nat.le_refl _)⟩

theorem Fr.drew (K : Kp) (ro hl : Nat) (w : World) : Fr K K ro hl hl w w.drew :=
  ⟨(Below.refl _ _).drew, Nat.le_refl _, fun _ _ _ => rfl, fun _ _ h => .inl h, fun _ L' h => .inr ⟨_, L', .inl rfl, h, rfl⟩, fun _ _ h => h, fun _ _ => rfl⟩

theorem heap_setCells_other (b : Nat) : ∀ (vs : List Value) (o : Nat) (w : World) (k : Nat), k ≠ b → (w.setCells b o vs).heap[k]? = w.heap[k]?
  | [], _, _, _, _ => rfl
  | v :: r, o, w, k, hk => by
    rw [World.setCells, heap_setCells_other b r (o + 1) _ k hk]
    exact Below.heap_setCell _ _ _ _ hk

theorem size_setCells (b : Nat) : ∀ (vs : List Value) (o : Nat) (w : World), (w.setCells b o vs).heap.size = w.heap.size
  | [], _, _ => rfl
  | v :: r, o, w => by rw [World.setCells, size_setCells b r]; simp

theorem below_setCells (b : Nat) : ∀ (vs : List Value) (o : Nat) (w : World), Below 0 w (w.setCells b o vs)
  | [], _, _ => Below.refl _ _
  | v :: r, o, w => ((Below.refl 0 w).setCell (Nat.zero_le _) v).trans (below_setCells b r (o + 1) _)

theorem heap_setCells_ty (b : Nat) {t : TypeId} : ∀ (vs : List Value) (o : Nat) (w : World) (k : Nat) (c : Array Value) (fr : Nat × Nat), w.heap[k]? = some (.cells c t fr) → ∃ c', (w.setCells b o vs).heap[k]? = some (.cells c' t fr)
  | [], _, _, _, c, _, h => ⟨c, h⟩
  | v :: r, o, w, k, c, fr, h => by
    rw [World.setCells]
    by_cases e : k = b
    · subst e
      exact heap_setCells_ty k r (o + 1) _ k _ fr (by simp only [World.setCell, Array.getElem?_modify, if_true, h, Option.map_some]; rfl)
    · exact heap_setCells_ty b r (o + 1) _ k c fr (by rw [Below.heap_setCell _ _ _ _ e]; exact h)

/-- Cells of a block of one's own are written. -/
theorem Rel.setCells {K : Kp} {ro : Nat} {H : Hp} {w : World} (hR : Rel K ro H w) {b : Nat} {L : Loc} {B : Bk} (hL : K.ρ b = some L) (hB : H[b]? = some B) (hro : ro ≤ b) (hfz : B.frz = false)
    {rows : List (List IV)} (hlen : ∀ (r : Nat) (row : List IV), rows[r]? = some row → row.length = L.sz) (hfit : rows.length * L.sz ≤ L.ext) {p : Nat} {us : List Value} (hp : p + us.length ≤ L.ext) (h1 : ∀ u ∈ us, u.oneCell' = true)
    (hcell : ∀ (r : Nat) (row : List IV) (c : Nat) (x : IV), rows[r]? = some row → row[c]? = some x → (∃ j u, us[j]? = some u ∧ r * L.sz + c = p + j ∧ VR K x u) ∨ ((r * L.sz + c < p ∨ p + us.length ≤ r * L.sz + c) ∧ ∃ row0, B.rows[r]? = some row0 ∧ row0[c]? = some x)) :
    Rel K ro (H.set b { B with rows := rows }) (w.setCells L.blk (L.org + p) us) ∧ Fr K K ro H.length (H.set b { B with rows := rows }).length w (w.setCells L.blk (L.org + p) us) := by
  obtain ⟨B', hB', ok⟩ := hR.blk b L hL
  obtain rfl : B = B' := by rw [hB] at hB'; exact Option.some.inj hB'
  have hout : ∀ i, (i < L.org + p ∨ L.org + p + us.length ≤ i) → (w.setCells L.blk (L.org + p) us).cell? (ad L.blk i) = w.cell? (ad L.blk i) := fun i hi =>
    World.cell?_setCells_out _ _ _ _ _ (fun _ _ => hi)
  have hin : ∀ j (u : Value), us[j]? = some u → (w.setCells L.blk (L.org + p) us).cell? (ad L.blk (L.org + p + j)) = some u := by
    intro j u hu
    obtain ⟨hj, rfl⟩ := List.getElem?_eq_some_iff.1 hu
    refine World.cell?_setCells_in L.blk us (L.org + p) w (fun j hj => ?_) j hj
    obtain ⟨u, hu, _⟩ := ok.there (p + j) (by omega)
    rw [show (⟨L.blk, L.org + p + j, none⟩ : Addr) = ad L.blk (L.org + (p + j)) by simp [ad]; omega, hu]; rfl
  have hcell' : ∀ i, i < L.ext → ∃ u, (w.setCells L.blk (L.org + p) us).cell? (ad L.blk (L.org + i)) = some u ∧ u.oneCell' = true := by
    intro i hi
    by_cases h : p ≤ i ∧ i < p + us.length
    · obtain ⟨u, hu⟩ : ∃ u, us[i - p]? = some u := ⟨_, List.getElem?_eq_getElem (by omega)⟩
      refine ⟨u, ?_, h1 u (List.mem_of_getElem? hu)⟩
      rw [show L.org + i = L.org + p + (i - p) by omega]
      exact hin _ u hu
    · rw [hout _ (by omega)]
      exact ok.there i hi
  have hblt : b < H.length := (List.getElem?_eq_some_iff.1 hB).1
  constructor
  · refine ⟨fun b' L' hb' => ?_, hR.inj, fun b' i v hc => ?_, fun b' L' B' hb' hB' hr hf => ?_, by simpa using hR.low⟩
    · by_cases e : b' = b
      · subst e
        rw [hL] at hb'; cases hb'
        refine ⟨{ B with rows := rows }, by simp [hblt], ⟨ok.gen, by rw [size_setCells]; exact ok.lt, hlen, hfit, hcell', fun hi i => ?_, fun r row c x hr hx => ?_, fun t ht => ?_⟩⟩
        · rw [World.frozen?_setCells]; exact ok.soft hi i
        · rcases hcell r row c x hr hx with ⟨j, u, hu, e, hv⟩ | ⟨hne, row0, hr0, hx0⟩
          · exact ⟨u, by rw [show L.org + r * L.sz + c = L.org + p + j by omega]; exact hin j u hu, hv⟩
          · obtain ⟨u, hu, hv⟩ := ok.cell r row0 c x hr0 hx0
            exact ⟨u, by rw [hout _ (by omega)]; exact hu, hv⟩
        · obtain ⟨h0, c, fr, h⟩ := ok.ety t ht
          obtain ⟨c', h'⟩ := heap_setCells_ty L.blk us (L.org + p) w L.blk c fr h
          exact ⟨h0, c', fr, h'⟩
      · obtain ⟨B', hB', ok'⟩ := hR.blk b' L' hb'
        refine ⟨B', by rw [List.getElem?_set_ne (Ne.symm e)]; exact hB', ok'.world ?_ (by rw [size_setCells]; exact Nat.le_refl _)⟩
        exact heap_setCells_other _ _ _ _ _ (fun he => e (hR.inj _ _ _ _ hb' hL he))
    · obtain ⟨hc', h1'⟩ := hR.claim b' i v hc
      refine ⟨?_, h1'⟩
      by_cases e : b' = L.blk
      · subst e
        have := hR.own b L B hL hB hro hfz
        have hi : i < L.org := by
          rcases Nat.lt_or_ge i L.org with h | h
          · exact h
          · rw [this i h] at hc; cases hc
        rw [hout _ (by omega)]; exact hc'
      · rw [World.cell?_setCells_out _ _ _ _ _ (fun h => absurd h e)]; exact hc'
    · by_cases e : b' = b
      · subst e
        simp [hblt] at hB'
        rw [hL] at hb'; cases hb'
        exact hR.own b' L B hL hB hro hfz
      · rw [List.getElem?_set_ne (Ne.symm e)] at hB'
        exact hR.own b' L' B' hb' hB' hr hf
  · refine ⟨below_setCells _ _ _ _, by simp, fun k hk hn => heap_setCells_other _ _ _ _ _ (fun e => hn b L hro hL e.symm), fun _ _ h => .inl h, fun _ L' h => .inr ⟨_, L', .inl rfl, h, rfl⟩, fun _ _ h => h, fun _ _ => rfl⟩

def Kp.set (K : Kp) (b : Nat) (L : Loc) : Kp := ⟨fun x => if x = b then some L else K.ρ x, K.κ⟩

theorem Kp.set_ne {K : Kp} {b x : Nat} {L : Loc} (h : x ≠ b) : (K.set b L).ρ x = K.ρ x := by simp [Kp.set, h]

theorem Kp.le_set {K : Kp} {b : Nat} {L : Loc} (h : ∀ L0, K.ρ b = some L0 → L0.gen < L.gen) : K.le (K.set b L) := by
  refine ⟨fun x L0 hx => ?_, fun _ _ _ h => h⟩
  by_cases e : x = b
  · subst e
    have := h L0 hx
    exact ⟨L, by simp [Kp.set], Nat.le_of_lt this, fun e => by omega⟩
  · exact ⟨L0, by simp [Kp.set, e, hx], Nat.le_refl _, fun _ => rfl⟩

theorem below_alloc0 (w : World) (o : Obj) : Below 0 w (w.alloc o) := (Below.refl 0 w).alloc (Nat.zero_le _) o

/-- A block that lies in new memory: 'b' is new, or an elder one that moves. -/
theorem heap_new (w : World) (o : Obj) : (w.alloc o).heap[w.heap.size]? = some o := by
  show (w.heap.push o)[w.heap.size]? = _
  rw [Array.getElem?_push_size]

theorem Rel.placeT {K : Kp} {ro : Nat} {H : Hp} {w : World} (hR : Rel K ro H w) {b g sz n n' : Nat} (hnn : n ≤ n') {H' : Hp} {rows : List (List IV)} {arr : Array Value} {elem : TypeId} {ty : Option Nat} (hty : ∀ t, ty = some t → t = elem)
    (hg : ∀ L0, K.ρ b = some L0 → L0.gen < g) (hro : ro ≤ b)
    (hH : ∀ x, x ≠ b → x < H.length → H'[x]? = H[x]?) (hHb : H'[b]? = some { rows := rows, gen := g, ty := ty }) (hll : H.length ≤ H'.length) (hbb : n ≤ b ∨ ∃ L0, K.ρ b = some L0)
    (hlen : ∀ (r : Nat) (row : List IV), rows[r]? = some row → row.length = sz) (hfit : rows.length * sz ≤ arr.size) (h1 : ∀ u ∈ arr, u.oneCell' = true)
    (hcell : ∀ (r : Nat) (row : List IV) (c : Nat) (x : IV), rows[r]? = some row → row[c]? = some x → ∃ u, arr[r * sz + c]? = some u ∧ VR K x u) :
    K.le (K.set b ⟨g, w.heap.size, 0, sz, arr.size⟩) ∧ Rel (K.set b ⟨g, w.heap.size, 0, sz, arr.size⟩) ro H' (w.alloc (.cells arr elem)) ∧
      Fr K (K.set b ⟨g, w.heap.size, 0, sz, arr.size⟩) ro n n' w (w.alloc (.cells arr elem)) := by
  have hle : K.le (K.set b ⟨g, w.heap.size, 0, sz, arr.size⟩) := Kp.le_set hg
  have hnew : ∀ i, (w.alloc (.cells arr elem)).cell? (ad w.heap.size i) = arr[i]? := fun i => World.cell?_alloc_new w arr elem i
  refine ⟨hle, ⟨fun x L hx => ?_, fun x y L L' hx hy e => ?_, fun x i v hc => ?_, fun x L B hx hB hr hf i hi => ?_, Nat.le_trans hR.low hll⟩, ?_⟩
  · by_cases e : x = b
    · subst e
      simp [Kp.set] at hx; subst hx
      refine ⟨_, hHb, ⟨rfl, by simp, hlen, hfit, fun i hi => ?_, fun hi i => ?_, fun r row c y hr hy => ?_, fun t ht => ?_⟩⟩
      · refine ⟨arr[i], ?_, h1 _ (Array.getElem_mem hi)⟩
        rw [Nat.zero_add, hnew]
        exact Array.getElem?_eq_getElem hi
      · exact World.frozen?_alloc_new w arr elem _
      · obtain ⟨u, hu, hv⟩ := hcell r row c y hr hy
        exact ⟨u, by rw [Nat.zero_add, hnew]; exact hu, hv.mono hle⟩
      · have := hty t ht
        subst this
        exact ⟨rfl, arr, (0, 0), heap_new w _⟩
    · simp [Kp.set, e] at hx
      obtain ⟨B, hB, ok⟩ := hR.blk x L hx
      refine ⟨B, by rw [hH x e (hR.lt hx)]; exact hB, (ok.mono hle).world (Below.heap_alloc _ _ _ ok.lt) (by simp)⟩
  · by_cases ex : x = b <;> by_cases ey : y = b
    · rw [ex, ey]
    · subst ex
      simp [Kp.set] at hx; subst hx
      simp [Kp.set, ey] at hy
      obtain ⟨B, hB, ok⟩ := hR.blk y L' hy
      have := ok.lt
      simp at e; omega
    · subst ey
      simp [Kp.set] at hy; subst hy
      simp [Kp.set, ex] at hx
      obtain ⟨B, hB, ok⟩ := hR.blk x L hx
      have := ok.lt
      simp at e; omega
    · simp [Kp.set, ex] at hx
      simp [Kp.set, ey] at hy
      exact hR.inj _ _ _ _ hx hy e
  · obtain ⟨hc', h1'⟩ := hR.claim x i v hc
    refine ⟨?_, h1'⟩
    rw [World.cell?_alloc_lt _ _ _ (World.block_lt_of_cell? _ _ hc')]
    exact hc'
  · by_cases e : x = b
    · subst e
      simp [Kp.set] at hx; subst hx
      exact hR.sizeK (Nat.le_refl _)
    · simp [Kp.set, e] at hx
      rw [hH x e (hR.lt hx)] at hB
      exact hR.own x L B hx hB hr hf i hi
  · refine ⟨below_alloc0 _ _, hnn, fun k hk _ => Below.heap_alloc _ _ _ hk, fun _ _ h => .inl h, fun x L' hx => ?_, fun x hx hn => ?_, fun x hx => Kp.set_ne (Nat.ne_of_lt (Nat.lt_of_lt_of_le hx hro))⟩
    · by_cases e : x = b
      · subst e; simp [Kp.set] at hx; subst hx; exact .inl (Nat.le_refl _)
      · simp [Kp.set, e] at hx; exact .inr ⟨_, L', .inl rfl, hx, rfl⟩
    · have : x ≠ b := by
        rintro rfl
        rcases hbb with h | ⟨L0, h⟩
        · omega
        · rw [hn] at h; cases h
      simp [Kp.set, this, hn]

theorem Rel.place {K : Kp} {ro : Nat} {H : Hp} {w : World} (hR : Rel K ro H w) {b g sz n n' : Nat} (hnn : n ≤ n') {H' : Hp} {rows : List (List IV)} {arr : Array Value} {elem : TypeId}
    (hg : ∀ L0, K.ρ b = some L0 → L0.gen < g) (hro : ro ≤ b)
    (hH : ∀ x, x ≠ b → x < H.length → H'[x]? = H[x]?) (hHb : H'[b]? = some { rows := rows, gen := g }) (hll : H.length ≤ H'.length) (hbb : n ≤ b ∨ ∃ L0, K.ρ b = some L0)
    (hlen : ∀ (r : Nat) (row : List IV), rows[r]? = some row → row.length = sz) (hfit : rows.length * sz ≤ arr.size) (h1 : ∀ u ∈ arr, u.oneCell' = true)
    (hcell : ∀ (r : Nat) (row : List IV) (c : Nat) (x : IV), rows[r]? = some row → row[c]? = some x → ∃ u, arr[r * sz + c]? = some u ∧ VR K x u) :
    K.le (K.set b ⟨g, w.heap.size, 0, sz, arr.size⟩) ∧ Rel (K.set b ⟨g, w.heap.size, 0, sz, arr.size⟩) ro H' (w.alloc (.cells arr elem)) ∧
      Fr K (K.set b ⟨g, w.heap.size, 0, sz, arr.size⟩) ro n n' w (w.alloc (.cells arr elem)) :=
  hR.placeT hnn (ty := none) (fun t h => by cases h) hg hro hH hHb hll hbb hlen hfit h1 hcell

/-- A new block of a type. -/
theorem Rel.newT {K : Kp} {ro : Nat} {H : Hp} {w : World} (hR : Rel K ro H w) {sz : Nat} {rows : List (List IV)} {arr : Array Value} {elem : TypeId}
    (hlen : ∀ (r : Nat) (row : List IV), rows[r]? = some row → row.length = sz) (hfit : rows.length * sz ≤ arr.size) (h1 : ∀ u ∈ arr, u.oneCell' = true)
    (hcell : ∀ (r : Nat) (row : List IV) (c : Nat) (x : IV), rows[r]? = some row → row[c]? = some x → ∃ u, arr[r * sz + c]? = some u ∧ VR K x u) :
    K.le (K.set H.length ⟨0, w.heap.size, 0, sz, arr.size⟩) ∧ Rel (K.set H.length ⟨0, w.heap.size, 0, sz, arr.size⟩) ro (H ++ [({ rows := rows, ty := some elem } : Bk)]) (w.alloc (.cells arr elem)) ∧
      Fr K (K.set H.length ⟨0, w.heap.size, 0, sz, arr.size⟩) ro H.length (H ++ [({ rows := rows, ty := some elem } : Bk)]).length w (w.alloc (.cells arr elem)) :=
  hR.placeT (b := H.length) (g := 0) (n := H.length) (n' := (H ++ [({ rows := rows, ty := some elem } : Bk)]).length) (by simp) (H' := H ++ [{ rows := rows, ty := some elem }]) (ty := some elem) (fun t h => by cases h; rfl) (fun L0 h => by rw [hR.out (Nat.le_refl _)] at h; cases h) hR.low
    (fun x hx hl => by rw [List.getElem?_append_left hl]) (by simp) (by simp) (.inl (Nat.le_refl _)) hlen hfit h1 hcell

/-- A new block. -/
theorem Rel.new {K : Kp} {ro : Nat} {H : Hp} {w : World} (hR : Rel K ro H w) {sz : Nat} {rows : List (List IV)} {arr : Array Value} {elem : TypeId}
    (hlen : ∀ (r : Nat) (row : List IV), rows[r]? = some row → row.length = sz) (hfit : rows.length * sz ≤ arr.size) (h1 : ∀ u ∈ arr, u.oneCell' = true)
    (hcell : ∀ (r : Nat) (row : List IV) (c : Nat) (x : IV), rows[r]? = some row → row[c]? = some x → ∃ u, arr[r * sz + c]? = some u ∧ VR K x u) :
    K.le (K.set H.length ⟨0, w.heap.size, 0, sz, arr.size⟩) ∧ Rel (K.set H.length ⟨0, w.heap.size, 0, sz, arr.size⟩) ro (H ++ [({ rows := rows } : Bk)]) (w.alloc (.cells arr elem)) ∧
      Fr K (K.set H.length ⟨0, w.heap.size, 0, sz, arr.size⟩) ro H.length (H ++ [({ rows := rows } : Bk)]).length w (w.alloc (.cells arr elem)) :=
  hR.place (b := H.length) (g := 0) (n := H.length) (n' := (H ++ [({ rows := rows } : Bk)]).length) (by simp) (H' := H ++ [{ rows := rows }]) (fun L0 h => by rw [hR.out (Nat.le_refl _)] at h; cases h) hR.low
    (fun x hx hl => by rw [List.getElem?_append_left hl]) (by simp) (by simp) (.inl (Nat.le_refl _)) hlen hfit h1 hcell

/-- What is known of a block's type may be forgotten. -/
theorem Rel.untype {K : Kp} {ro : Nat} {H : Hp} {w : World} (hR : Rel K ro H w) {b : Nat} {B : Bk} (hB : H[b]? = some B) : Rel K ro (H.set b { B with ty := none }) w := by
  have hlt := (List.getElem?_eq_some_iff.1 hB).1
  refine ⟨fun x L hx => ?_, hR.inj, hR.claim, fun x L B' hx hB' hr hf i hi => ?_, by simpa using hR.low⟩
  · obtain ⟨B', hB', ok⟩ := hR.blk x L hx
    by_cases e : x = b
    · subst e
      rw [hB] at hB'; cases hB'
      exact ⟨{ B with ty := none }, by simp [hlt], ⟨ok.gen, ok.lt, ok.len, ok.fit, ok.there, ok.soft, ok.cell, fun t ht => by cases ht⟩⟩
    · exact ⟨B', by rw [List.getElem?_set_ne (Ne.symm e)]; exact hB', ok⟩
  · by_cases e : x = b
    · subst e
      simp [hlt] at hB'
      subst hB'
      exact hR.own x L B hx hB hr hf i hi
    · rw [List.getElem?_set_ne (Ne.symm e)] at hB'
      exact hR.own x L B' hx hB' hr hf i hi

/-- A block that goes on at another place of the memory that it lies in, its head cut off. -/
theorem Rel.cutHeadT {K : Kp} {ro : Nat} {H : Hp} {w : World} (hR : Rel K ro H w) {b : Nat} {L : Loc} {B : Bk} (hL : K.ρ b = some L) (hB : H[b]? = some B) (hro : ro ≤ b) (hfz : B.frz = false) {off : Nat} (ho : off ≤ B.rows.length) {ty : Option Nat} (hty : ∀ t, ty = some t → B.ty = some t ∧ off = 0) :
    K.le (K.set b ⟨L.gen + 1, L.blk, L.org + off * L.sz, L.sz, L.ext - off * L.sz⟩) ∧ Rel (K.set b ⟨L.gen + 1, L.blk, L.org + off * L.sz, L.sz, L.ext - off * L.sz⟩) ro (H.set b ({ rows := B.rows.drop off, gen := L.gen + 1, ty := ty } : Bk)) w ∧
      Fr K (K.set b ⟨L.gen + 1, L.blk, L.org + off * L.sz, L.sz, L.ext - off * L.sz⟩) ro H.length (H.set b ({ rows := B.rows.drop off, gen := L.gen + 1, ty := ty } : Bk)).length w w := by
  obtain ⟨B', hB', ok⟩ := hR.blk b L hL
  obtain rfl : B = B' := by rw [hB] at hB'; exact Option.some.inj hB'
  have hle : K.le (K.set b ⟨L.gen + 1, L.blk, L.org + off * L.sz, L.sz, L.ext - off * L.sz⟩) := Kp.le_set (fun L0 h => by rw [hL] at h; cases h; simp)
  have hblt : b < H.length := (List.getElem?_eq_some_iff.1 hB).1
  have hfo : off * L.sz ≤ L.ext := Nat.le_trans (Nat.mul_le_mul_right _ ho) ok.fit
  refine ⟨hle, ⟨fun x L' hx => ?_, fun x y L1 L2 hx hy e => ?_, hR.claim, fun x L' B' hx hB' hr hf i hi => ?_, by simpa using hR.low⟩, ?_⟩
  · by_cases e : x = b
    · subst e
      simp [Kp.set] at hx; subst hx
      refine ⟨{ rows := B.rows.drop off, gen := L.gen + 1, ty := ty }, by simp [hblt], ⟨rfl, ok.lt, fun r row hr => ?_, ?_, fun i hi => ?_, fun hi i => ?_, fun r row c y hr hy => ?_, fun t ht => ?_⟩⟩
      · simp only [List.getElem?_drop] at hr; exact ok.len _ _ hr
      · simp only [List.length_drop, Nat.sub_mul]; have := ok.fit; omega
      · simp only at hi ⊢; rw [Nat.add_assoc]; exact ok.there _ (by omega)
      · simp only at hi ⊢; rw [Nat.add_assoc]; exact ok.soft (by omega) _
      · simp only [List.getElem?_drop] at hr
        obtain ⟨u, hu, hv⟩ := ok.cell _ row c y hr hy
        refine ⟨u, ?_, hv.mono hle⟩
        simp only
        rw [show L.org + off * L.sz + r * L.sz + c = L.org + (off + r) * L.sz + c by rw [Nat.add_mul]; omega]
        exact hu
      · obtain ⟨h1, rfl⟩ := hty t ht
        obtain ⟨h0, h2⟩ := ok.ety t h1
        exact ⟨by simp [h0], h2⟩
    · simp [Kp.set, e] at hx
      obtain ⟨B', hB', ok'⟩ := hR.blk x L' hx
      exact ⟨B', by rw [List.getElem?_set_ne (Ne.symm e)]; exact hB', ok'.mono hle⟩
  · by_cases ex : x = b <;> by_cases ey : y = b
    · rw [ex, ey]
    · subst ex; simp [Kp.set] at hx; subst hx; simp [Kp.set, ey] at hy; exact hR.inj _ _ _ _ hL hy e
    · subst ey; simp [Kp.set] at hy; subst hy; simp [Kp.set, ex] at hx; exact hR.inj _ _ _ _ hx hL e
    · simp [Kp.set, ex] at hx; simp [Kp.set, ey] at hy; exact hR.inj _ _ _ _ hx hy e
  · by_cases e : x = b
    · subst e
      simp [Kp.set] at hx; subst hx
      exact hR.own x L B hL hB hro hfz i (by simp only at hi; omega)
    · simp [Kp.set, e] at hx
      rw [List.getElem?_set_ne (Ne.symm e)] at hB'
      exact hR.own x L' B' hx hB' hr hf i hi
  · refine ⟨Below.refl _ _, by simp, fun _ _ _ => rfl, fun _ _ h => .inl h, fun x L' hx => ?_, fun x hx hn => ?_, fun x hx => Kp.set_ne (Nat.ne_of_lt (Nat.lt_of_lt_of_le hx hro))⟩
    · by_cases e : x = b
      · subst e; simp [Kp.set] at hx; subst hx; exact .inr ⟨_, L, .inl rfl, hL, rfl⟩
      · simp [Kp.set, e] at hx; exact .inr ⟨_, L', .inl rfl, hx, rfl⟩
    · have : x ≠ b := by rintro rfl; rw [hn] at hL; cases hL
      simp [Kp.set, this, hn]


theorem Rel.cutHead {K : Kp} {ro : Nat} {H : Hp} {w : World} (hR : Rel K ro H w) {b : Nat} {L : Loc} {B : Bk} (hL : K.ρ b = some L) (hB : H[b]? = some B) (hro : ro ≤ b) (hfz : B.frz = false) {off : Nat} (ho : off ≤ B.rows.length) :
    K.le (K.set b ⟨L.gen + 1, L.blk, L.org + off * L.sz, L.sz, L.ext - off * L.sz⟩) ∧ Rel (K.set b ⟨L.gen + 1, L.blk, L.org + off * L.sz, L.sz, L.ext - off * L.sz⟩) ro (H.set b ({ rows := B.rows.drop off, gen := L.gen + 1 } : Bk)) w ∧
      Fr K (K.set b ⟨L.gen + 1, L.blk, L.org + off * L.sz, L.sz, L.ext - off * L.sz⟩) ro H.length (H.set b ({ rows := B.rows.drop off, gen := L.gen + 1 } : Bk)).length w w :=
  hR.cutHeadT hL hB hro hfz ho (ty := none) (fun t h => by cases h)

theorem cell_freeze (w : World) (p : Addr) (n : Nat) (a : Addr) : (w.freeze p n).cell? a = w.cell? a := by
  unfold World.freeze
  split
  · rfl
  · simp only [World.cell?, Array.getElem?_modify]
    by_cases h : p.block = a.block
    · rw [if_pos h]
      cases w.heap[a.block]? with
      | none => rfl
      | some o => cases o <;> rfl
    · rw [if_neg h]

/-- A block whose cells a text shares from now on: it holds nothing any more. -/
theorem Rel.dead {K : Kp} {ro : Nat} {H : Hp} {w : World} (hR : Rel K ro H w) {b : Nat} {L : Loc} {B : Bk} (hL : K.ρ b = some L) (hB : H[b]? = some B) (hro : ro ≤ b) (hfz : B.frz = false) (q : Nat) (n : Nat) :
    K.le (K.set b ⟨L.gen + 1, L.blk, L.org, L.sz, 0⟩) ∧ Rel (K.set b ⟨L.gen + 1, L.blk, L.org, L.sz, 0⟩) ro (H.set b ({ rows := [], gen := L.gen + 1 } : Bk)) (w.freeze (ad L.blk q) n) ∧
      Fr K (K.set b ⟨L.gen + 1, L.blk, L.org, L.sz, 0⟩) ro H.length (H.set b ({ rows := [], gen := L.gen + 1 } : Bk)).length w (w.freeze (ad L.blk q) n) := by
  obtain ⟨B', hB', ok⟩ := hR.blk b L hL
  obtain rfl : B = B' := by rw [hB] at hB'; exact Option.some.inj hB'
  have hle : K.le (K.set b ⟨L.gen + 1, L.blk, L.org, L.sz, 0⟩) := Kp.le_set (fun L0 h => by rw [hL] at h; cases h; simp)
  have hblt : b < H.length := (List.getElem?_eq_some_iff.1 hB).1
  have hsz : (w.freeze (ad L.blk q) n).heap.size = w.heap.size := by unfold World.freeze; split <;> simp
  have hoth : ∀ k, k ≠ L.blk → (w.freeze (ad L.blk q) n).heap[k]? = w.heap[k]? := fun k hk => by
    unfold World.freeze
    split
    · rfl
    · simp only [Array.getElem?_modify]
      rw [if_neg (fun e => hk (by simp [ad] at e; exact e.symm))]
  refine ⟨hle, ⟨fun x L' hx => ?_, fun x y L1 L2 hx hy e => ?_, fun x i v hc => ?_, fun x L' B' hx hB' hr hf i hi => ?_, by simpa using hR.low⟩, ?_⟩
  · by_cases e : x = b
    · subst e
      simp [Kp.set] at hx; subst hx
      exact ⟨{ rows := [], gen := L.gen + 1 }, by simp [hblt], ⟨rfl, by rw [hsz]; exact ok.lt, by simp, by simp, fun i hi => absurd hi (Nat.not_lt_zero _), fun hi _ => absurd hi (Nat.lt_irrefl _), by simp, fun t ht => by cases ht⟩⟩
    · simp [Kp.set, e] at hx
      obtain ⟨B', hB', ok'⟩ := hR.blk x L' hx
      exact ⟨B', by rw [List.getElem?_set_ne (Ne.symm e)]; exact hB', (ok'.mono hle).world (hoth _ fun h => e (hR.inj _ _ _ _ hx hL h)) (by rw [hsz]; exact Nat.le_refl _)⟩
  · by_cases ex : x = b <;> by_cases ey : y = b
    · rw [ex, ey]
    · subst ex; simp [Kp.set] at hx; subst hx; simp [Kp.set, ey] at hy; exact hR.inj _ _ _ _ hL hy e
    · subst ey; simp [Kp.set] at hy; subst hy; simp [Kp.set, ex] at hx; exact hR.inj _ _ _ _ hx hL e
    · simp [Kp.set, ex] at hx; simp [Kp.set, ey] at hy; exact hR.inj _ _ _ _ hx hy e
  · obtain ⟨h1, h2⟩ := hR.claim x i v hc
    exact ⟨by rw [cell_freeze]; exact h1, h2⟩
  · by_cases e : x = b
    · subst e
      simp [Kp.set] at hx; subst hx
      exact hR.own x L B hL hB hro hfz i hi
    · simp [Kp.set, e] at hx
      rw [List.getElem?_set_ne (Ne.symm e)] at hB'
      exact hR.own x L' B' hx hB' hr hf i hi
  · refine ⟨Lib.below_freeze (Below.refl 0 w) (Nat.zero_le _) n, by simp, fun k hk hn => hoth k fun e => hn b L hro hL e.symm, fun _ _ h => .inl h, fun x L' hx => ?_, fun x hx hn => ?_, fun x hx => Kp.set_ne (Nat.ne_of_lt (Nat.lt_of_lt_of_le hx hro))⟩
    · by_cases e : x = b
      · subst e; simp [Kp.set] at hx; subst hx; exact .inr ⟨_, L, .inl rfl, hL, rfl⟩
      · simp [Kp.set, e] at hx; exact .inr ⟨_, L', .inl rfl, hx, rfl⟩
    · have : x ≠ b := by rintro rfl; rw [hn] at hL; cases hL
      simp [Kp.set, this, hn]

end Go.Vs
