import Derived.Test.YtnfddeiegbifhaaDoorVsOpF
/- Values that are built, new blocks: their simulation. -/
namespace Go.Vs
open Go Go.RowKit

variable {P : Program} {K : Kp} {e : Env} {a : Act} {o : Oper} {w : World}

theorem zT_some {t : TypeId} {z : List IV} (h : zT P t = some z) : ∃ v, (∀ w : World, (zeroValue t).run P w = .ok v w) ∧ v.cells.size = z.length ∧ (∀ u ∈ v.cells, u.oneCell' = true) ∧ ∀ (i : Nat) (x : IV) (u : Value), z[i]? = some x → v.cells[i]? = some u → VR K x u := by
  unfold zT at h
  simp only [Option.bind_eq_some_iff] at h
  obtain ⟨v, ⟨i, hi, hz⟩, h⟩ := h
  split at h
  · rename_i hall
    simp at h; subst h
    refine ⟨v, fun w => by simp [zeroValue, typeInfo, hi, hz], by simp, fun u hu => ?_, fun j x u h1 h2 => ?_⟩
    · exact List.all_eq_true.1 hall u (by simpa using hu)
    · rw [List.getElem?_map, Array.getElem?_toList, h2] at h1
      simp at h1; subst h1
      exact VR_ofS K u
  · cases h

theorem over_get {z cs : List IV} {off : Nat} (h : off + cs.length ≤ z.length) (k : Nat) : (over z off cs)[k]? = if off ≤ k ∧ k < off + cs.length then cs[k - off]? else z[k]? := by
  unfold over
  by_cases h1 : k < off
  · rw [if_neg (by omega), List.append_assoc, List.getElem?_append_left (by simp; omega), List.getElem?_take, if_pos h1]
  · by_cases h2 : k < off + cs.length
    · rw [if_pos ⟨by omega, h2⟩, List.append_assoc, List.getElem?_append_right (by simp; omega), List.length_take, Nat.min_eq_left (by omega), List.getElem?_append_left (by omega)]
    · rw [if_neg (by omega), List.append_assoc, List.getElem?_append_right (by simp; omega), List.length_take, Nat.min_eq_left (by omega), List.getElem?_append_right (by omega), List.getElem?_drop]
      congr 1; omega

theorem over_len {z cs : List IV} {off : Nat} (h : off + cs.length ≤ z.length) : (over z off cs).length = z.length := by
  simp [over]; omega

theorem fold_set_list (off : Nat) : ∀ (l : List Value) (s : Nat) (arr : Array Value), let r := (l.zipIdx s).foldl (fun cs (x : Value × Nat) => cs.setIfInBounds (off + x.2) x.1) arr
    r.size = arr.size ∧ ∀ k, r[k]? = if off + s ≤ k ∧ k < off + s + l.length ∧ k < arr.size then l[k - (off + s)]? else arr[k]?
  | [], s, arr => by simp; intro k h1 h2; omega
  | x :: l, s, arr => by
    obtain ⟨h1, h2⟩ := fold_set_list off l (s + 1) (arr.setIfInBounds (off + s) x)
    simp only [List.zipIdx_cons, List.foldl_cons]
    refine ⟨by rw [h1]; simp, fun k => ?_⟩
    rw [h2 k]
    simp only [Array.size_setIfInBounds, List.length_cons]
    by_cases hk : k = off + s
    · subst hk
      rw [if_neg (by omega)]
      by_cases hs : off + s < arr.size
      · rw [if_pos (by omega), Array.getElem?_setIfInBounds_self_of_lt hs]; simp
      · rw [if_neg (by omega), Array.getElem?_eq_none (by simp; omega), Array.getElem?_eq_none (by omega)]
    · rw [Array.getElem?_setIfInBounds_ne (by omega)]
      by_cases hc : off + (s + 1) ≤ k ∧ k < off + (s + 1) + l.length ∧ k < arr.size
      · rw [if_pos hc, if_pos (by omega)]
        rw [show k - (off + s) = (k - (off + (s + 1))) + 1 by omega]
        rfl
      · rw [if_neg hc, if_neg (by omega)]

theorem fold_set (off : Nat) (cs arr : Array Value) : let r := cs.zipIdx.foldl (fun cs (x : Value × Nat) => cs.setIfInBounds (off + x.2) x.1) arr
    r.size = arr.size ∧ ∀ k, r[k]? = if off ≤ k ∧ k < off + cs.size ∧ k < arr.size then cs[k - off]? else arr[k]? := by
  obtain ⟨h1, h2⟩ := fold_set_list off cs.toList 0 arr
  have : cs.zipIdx.foldl (fun cs (x : Value × Nat) => cs.setIfInBounds (off + x.2) x.1) arr = (cs.toList.zipIdx 0).foldl (fun cs (x : Value × Nat) => cs.setIfInBounds (off + x.2) x.1) arr := by
    rw [← Array.foldl_toList]; simp
  simp only [this]
  refine ⟨h1, fun k => ?_⟩
  rw [h2 k]
  simp

/-- Cells of an array stand for a list's. -/
def ArrAt (K : Kp) (arr : Array Value) (z : List IV) : Prop := arr.size = z.length ∧ ∀ (i : Nat) (x : IV) (u : Value), z[i]? = some x → arr[i]? = some u → VR K x u

theorem ArrAt.over {arr : Array Value} {z cs : List IV} {us : Array Value} (h : ArrAt K arr z) {off : Nat} (hle : off + cs.length ≤ z.length) (hu : us.size = cs.length) (hv : ∀ (i : Nat) (x : IV) (u : Value), cs[i]? = some x → us[i]? = some u → VR K x u) :
    ArrAt K (us.zipIdx.foldl (fun cs (x : Value × Nat) => cs.setIfInBounds (off + x.2) x.1) arr) (over z off cs) := by
  obtain ⟨h1, h2⟩ := fold_set off us arr
  refine ⟨by rw [h1, over_len hle]; exact h.1, fun i x u hx hu' => ?_⟩
  rw [h2 i] at hu'
  rw [over_get hle] at hx
  have := h.1
  by_cases hc : off ≤ i ∧ i < off + cs.length
  · rw [if_pos hc] at hx
    rw [if_pos (by omega)] at hu'
    exact hv _ _ _ hx hu'
  · rw [if_neg hc] at hx
    rw [if_neg (by omega)] at hu'
    exact h.2 _ _ _ hx hu'

/-- Parts laid into a row of cells. -/
theorem fill_sim (he : EnvOk K e a) (place : Nat → Option (Nat × Nat)) : ∀ (ps : List (Nat × Operand)) (qs : List (Nat × Nat × Opd)) (z r : List IV) (arr : Array Value),
    ps.length = qs.length → (∀ (i : Nat) (p : Nat × Operand) (q : Nat × Nat × Opd), ps[i]? = some p → qs[i]? = some q → place p.1 = some (q.1, q.2.1) ∧ cOpd p.2 = some q.2.2) → ArrAt K arr z → doIns.fillB e z qs = some r →
    ∃ arr', Instr.fill place arr (ps.map fun p => (p.1, a.eval p.2)) = some arr' ∧ ArrAt K arr' r := by
  intro ps
  induction ps with
  | nil =>
    intro qs z r arr hl _ ha h
    cases qs with
    | nil => simp [doIns.fillB] at h; subst h; exact ⟨arr, rfl, ha⟩
    | cons _ _ => simp at hl
  | cons p ps ih =>
    intro qs z r arr hl hp ha h
    cases qs with
    | nil => simp at hl
    | cons q qs =>
      obtain ⟨off, n, x⟩ := q
      simp only [doIns.fillB, Option.bind_eq_some_iff] at h
      obtain ⟨cs, hcs, h⟩ := h
      split at h
      · rename_i hc
        obtain ⟨hpl, hx⟩ := hp 0 p _ rfl rfl
        obtain ⟨hsz, hv, _⟩ := (he.ev hx).cells hcs
        obtain ⟨arr', h1, h2⟩ := ih qs _ r _ (by simpa using hl) (fun i p q h1 h2 => hp (i + 1) p q h1 h2) (ha.over (us := (a.eval p.2).cells) (by omega) hsz hv) h
        refine ⟨arr', ?_, h2⟩
        have h0 := ha.1
        simp only [List.map_cons, Instr.fill, hpl]
        rw [if_neg (by simp; omega)]
        exact h1
      · cases h

theorem ArrAt.agg {arr : Array Value} {z : List IV} (h : ArrAt K arr z) : VR K (.agg z) (.agg arr) := .agg _ _ _ h.1 h.2

theorem mapM_run {α β : Type} {f : α → Sem β} {g : α → β} (hf : ∀ x, (f x).run P w = .ok (g x) w) : ∀ l : List α, (l.mapM f).run P w = .ok (l.map g) w
  | [] => by simp
  | x :: l => by simp [hf, mapM_run hf l]

theorem sim_build_struct (he : EnvOk K e a) {t : TypeId} {ps : Array (Nat × Operand)} {qs : List (Nat × Nat × Opd)} {z r : List IV} {fs : Array Field} (ho : o.op = .build t ps) (hz : zT P t = some z) (ht : P.underlying t = some (.struct fs)) (hall : fs.toList.all (fun f => (szT P f.type).isSome) = true) (hq : cParts P fs ps.toList = some qs) (hr : doIns.fillB e z qs = some r) : Gives P a o w K (.agg r) := by
  obtain ⟨v, hrun, hsz, _, hv⟩ := zT_some (K := K) hz
  obtain ⟨hl, hp⟩ := mapO_some hq
  -- the places, as the model reckons them
  have hsizes : ∃ places : Array (Nat × Nat), (fs.mapM fun f => do pure (f.offset, ← sizeOf f.type) : Sem (Array (Nat × Nat))).run P w = .ok places w ∧ ∀ (i : Nat) (f : Field) (n : Nat), fs[i]? = some f → szT P f.type = some n → places[i]? = some (f.offset, n) := by
    have hf : ∀ f ∈ fs.toList, (do pure (f.offset, ← sizeOf f.type) : Sem (Nat × Nat)).run P w = .ok (f.offset, (szT P f.type).getD 0) w := by
      intro f hf
      obtain ⟨n, hn⟩ := Option.isSome_iff_exists.1 (List.all_eq_true.1 hall f hf)
      simp [run_sizeOf' hn, hn]
    have key : ∀ l : List Field, (∀ f ∈ l, f ∈ fs.toList) → (l.mapM fun f => (do pure (f.offset, ← sizeOf f.type) : Sem (Nat × Nat))).run P w = .ok (l.map fun f => (f.offset, (szT P f.type).getD 0)) w := by
      intro l
      induction l with
      | nil => intro _; simp
      | cons f l ih =>
        intro h
        rw [List.mapM_cons, Sem.run_bind, hf f (h f (by simp)), Result.andThen_ok, Sem.run_bind, ih (fun g hg => h g (by simp [hg]))]
        rfl
    refine ⟨(fs.toList.map fun f => (f.offset, (szT P f.type).getD 0)).toArray, ?_, fun i f n h1 h2 => ?_⟩
    · rw [Array.mapM_eq_mapM_toList, Sem.run_map, key _ (fun _ h => h)]
      rfl
    · have : fs.toList[i]? = some f := by rw [Array.getElem?_toList]; exact h1
      simp [this, h2]
  obtain ⟨places, hpl, hpl'⟩ := hsizes
  obtain ⟨arr', h1, h2⟩ := fill_sim he (fun i => places[i]?) ps.toList qs z r v.cells hl.symm (fun i p q h1 h2 => by
    have := hp i p q h1 h2
    simp only [Option.bind_eq_some_iff, Option.some.injEq] at this
    obtain ⟨f, hf, n, hn, x, hx, rfl⟩ := this
    exact ⟨hpl' _ f n hf hn, hx⟩) ⟨hsz, hv⟩ hr
  refine gives_of (s := Instr.build t (ps.map fun p => (p.1, a.eval p.2))) (fun w' => by simp [execOp, ho]) ⟨.agg arr', ?_, h2.agg⟩
  simp only [Instr.build, Sem.run_bind, hrun, Result.andThen_ok, run_underlying ht, hpl, Array.toList_map, h1]
  rfl

theorem sim_build_array (he : EnvOk K e a) {t u : TypeId} {k n : Nat} {ps : Array (Nat × Operand)} {qs : List (Nat × Nat × Opd)} {z r : List IV} (ho : o.op = .build t ps) (hz : zT P t = some z) (ht : P.underlying t = some (.array k u)) (hn : szT P u = some n)
    (hq : mapO (fun (p : Nat × Operand) => (cOpd p.2).bind fun x => some (p.1 * n, n, x)) ps.toList = some qs) (hr : doIns.fillB e z qs = some r) : Gives P a o w K (.agg r) := by
  obtain ⟨v, hrun, hsz, _, hv⟩ := zT_some (K := K) hz
  obtain ⟨hl, hp⟩ := mapO_some hq
  obtain ⟨arr', h1, h2⟩ := fill_sim he (fun i => some (i * n, n)) ps.toList qs z r v.cells hl.symm (fun i p q h1 h2 => by
    have := hp i p q h1 h2
    simp only [Option.bind_eq_some_iff, Option.some.injEq] at this
    obtain ⟨x, hx, rfl⟩ := this
    exact ⟨rfl, hx⟩) ⟨hsz, hv⟩ hr
  refine gives_of (s := Instr.build t (ps.map fun p => (p.1, a.eval p.2))) (fun w' => by simp [execOp, ho]) ⟨.agg arr', ?_, h2.agg⟩
  simp only [Instr.build, Sem.run_bind, hrun, Result.andThen_ok, run_underlying ht, run_sizeOf' hn, Array.toList_map, h1]
  rfl

/-- An operation that makes a block, its rows as told. -/
def Makes (P : Program) (a : Act) (o : Oper) (w : World) (K : Kp) (hl : Nat) (x : IV) (rows : List (List IV)) : Prop :=
  ∃ v arr elem sz, (execOp a.eval o).run P w = .ok (.value v) (w.alloc (.cells arr elem)) ∧ (∀ (r : Nat) (row : List IV), rows[r]? = some row → row.length = sz) ∧ rows.length * sz ≤ arr.size ∧ (∀ u ∈ arr, u.oneCell' = true) ∧
    (∀ (r : Nat) (row : List IV) (c : Nat) (x : IV), rows[r]? = some row → row[c]? = some x → ∃ u, arr[r * sz + c]? = some u ∧ VR K x u) ∧
    ∀ K' : Kp, K'.ρ hl = some ⟨0, w.heap.size, 0, sz, arr.size⟩ → VR K' x v

/-- The same, behind a number drawn. -/
def Draws (P : Program) (a : Act) (o : Oper) (w : World) (K : Kp) (hl : Nat) (x : IV) (rows : List (List IV)) : Prop :=
  ∃ v arr elem sz, (execOp a.eval o).run P w = .ok (.value v) (w.drew.alloc (.cells arr elem)) ∧ (∀ (r : Nat) (row : List IV), rows[r]? = some row → row.length = sz) ∧ rows.length * sz ≤ arr.size ∧ (∀ u ∈ arr, u.oneCell' = true) ∧
    (∀ (r : Nat) (row : List IV) (c : Nat) (x : IV), rows[r]? = some row → row[c]? = some x → ∃ u, arr[r * sz + c]? = some u ∧ VR K x u) ∧
    ∀ K' : Kp, K'.ρ hl = some ⟨0, w.heap.size, 0, sz, arr.size⟩ → VR K' x v

theorem newRow_run (elem : TypeId) (arr : Array Value) (w : World) : (newRow elem arr).run P w = .ok ⟨w.heap.size, 0, none⟩ (w.alloc (.cells arr elem)) := by
  simp [newRow]

theorem one_row {cs : List IV} {arr : Array Value} (h : ArrAt K arr cs) : (∀ (r : Nat) (row : List IV), [cs][r]? = some row → row.length = cs.length) ∧ [cs].length * cs.length ≤ arr.size ∧
    ∀ (r : Nat) (row : List IV) (c : Nat) (x : IV), [cs][r]? = some row → row[c]? = some x → ∃ u, arr[r * cs.length + c]? = some u ∧ VR K x u := by
  refine ⟨fun r row hr => ?_, by simp [h.1], fun r row c x hr hx => ?_⟩
  · cases r <;> simp at hr; subst hr; rfl
  · cases r <;> simp at hr
    subst hr
    have hc : c < arr.size := by rw [h.1]; exact (List.getElem?_eq_some_iff.1 hx).1
    rw [Nat.zero_mul, Nat.zero_add]
    exact ⟨arr[c], Array.getElem?_eq_getElem hc, h.2 c x _ hx (Array.getElem?_eq_getElem hc)⟩

theorem ptr_new {hl s sz n : Nat} (K' : Kp) (h : K'.ρ hl = some ⟨0, s, 0, sz, n⟩) : VR K' (.ptr hl 0 0 0) (.pointer (some ⟨s, 0, none⟩)) :=
  .ptr _ _ _ _ _ _ _ h (fun _ => by simp [ad]) (Nat.zero_le _) ⟨_, rfl⟩

theorem sim_alloc {t : TypeId} {z : List IV} (hl : Nat) (ho : o.op = .alloc t) (hz : zT P t = some z) : Makes P a o w K hl (.ptr hl 0 0 0) [z] := by
  obtain ⟨v, hrun, hsz, h1, hv⟩ := zT_some (K := K) hz
  obtain ⟨q1, q2, q3⟩ := one_row (K := K) (cs := z) (arr := v.cells) ⟨hsz, hv⟩
  refine ⟨.pointer (some ⟨w.heap.size, 0, none⟩), v.cells, t, z.length, ?_, q1, q2, h1, q3, fun K' h => ptr_new K' h⟩
  simp [execOp, ho, Instr.alloc, hrun, newVar, newRow_run]

theorem sim_box (he : EnvOk K e a) {t : TypeId} {x : Operand} {x' : Opd} {cs : List IV} (hl : Nat) (ho : o.op = .box t x) (hx : cOpd x = some x') (hc : cellsO (ev e x') = some cs) : Makes P a o w K hl (.ptr hl 0 0 0) [cs] := by
  obtain ⟨hsz, hv, hok⟩ := (he.ev hx).cells hc
  obtain ⟨q1, q2, q3⟩ := one_row (K := K) (cs := cs) (arr := (a.eval x).cells) ⟨hsz, hv⟩
  refine ⟨.pointer (some ⟨w.heap.size, 0, none⟩), (a.eval x).cells, t, cs.length, ?_, q1, q2, fun u hu => ?_, q3, fun K' h => ptr_new K' h⟩
  · simp [execOp, ho, Instr.box, newVar, newRow_run]
  · obtain ⟨i, hi, rfl⟩ := Array.mem_iff_getElem.1 hu
    have hi' : i < cs.length := by omega
    exact (hv i cs[i] _ (List.getElem?_eq_getElem hi') (Array.getElem?_eq_getElem hi)).one (hok _ (List.getElem_mem hi'))

/-- Rows laid out in an array. -/
structure RowsAt (K : Kp) (arr : Array Value) (rows : List (List IV)) (sz : Nat) : Prop where
  size : arr.size = rows.length * sz
  len : ∀ (r : Nat) (row : List IV), rows[r]? = some row → row.length = sz
  one : ∀ u ∈ arr, u.oneCell' = true
  val : ∀ (r : Nat) (row : List IV) (c : Nat) (x : IV), rows[r]? = some row → row[c]? = some x → ∃ u, arr[r * sz + c]? = some u ∧ VR K x u

theorem RowsAt.set {arr : Array Value} {rows : List (List IV)} {sz i : Nat} {cs : List IV} {us : Array Value} (h : RowsAt K arr rows sz) (hi : i < rows.length) (hc : cs.length = sz) (hu : us.size = cs.length) (h1 : ∀ u ∈ us, u.oneCell' = true) (hv : ∀ (j : Nat) (x : IV) (u : Value), cs[j]? = some x → us[j]? = some u → VR K x u) :
    RowsAt K (us.zipIdx.foldl (fun cs (x : Value × Nat) => cs.setIfInBounds (i * sz + x.2) x.1) arr) (rows.set i cs) sz := by
  obtain ⟨f1, f2⟩ := fold_set (i * sz) us arr
  have hmul : (i + 1) * sz ≤ rows.length * sz := Nat.mul_le_mul_right _ hi
  rw [Nat.add_mul, Nat.one_mul] at hmul
  have hs := h.size
  refine ⟨by rw [f1]; simp [hs], fun r row hr => ?_, fun u hu' => ?_, fun r row c x hr hx => ?_⟩
  · rw [List.getElem?_set] at hr
    by_cases hri : i = r
    · rw [if_pos hri] at hr
      rw [if_pos hi] at hr
      simp at hr; subst hr; exact hc
    · rw [if_neg hri] at hr; exact h.len r row hr
  · obtain ⟨k, hk, hu'⟩ := Array.mem_iff_getElem.1 hu'
    have := Array.getElem?_eq_getElem hk
    rw [hu', f2 k] at this
    split at this
    · exact h1 u (Array.mem_of_getElem? this)
    · exact h.one u (Array.mem_of_getElem? this)
  · rw [f2]
    have hclt : c < sz := by
      rw [List.getElem?_set] at hr
      by_cases hri : i = r
      · rw [if_pos hri] at hr
        rw [if_pos hi] at hr
        simp at hr; subst hr; rw [← hc]; exact (List.getElem?_eq_some_iff.1 hx).1
      · rw [if_neg hri] at hr; rw [← h.len r row hr]; exact (List.getElem?_eq_some_iff.1 hx).1
    by_cases hri : r = i
    · subst hri
      rw [List.getElem?_set_self hi] at hr
      simp at hr; subst hr
      have hlt : c < us.size := by omega
      rw [if_pos ⟨by omega, by omega, by omega⟩, show r * sz + c - r * sz = c by omega]
      exact ⟨us[c], Array.getElem?_eq_getElem hlt, hv c x _ hx (Array.getElem?_eq_getElem hlt)⟩
    · rw [List.getElem?_set_ne (Ne.symm hri)] at hr
      rw [if_neg]
      · exact h.val r row c x hr hx
      · rintro ⟨g1, g2, _⟩
        rcases Nat.lt_or_gt_of_ne hri with hlt | hlt
        · have : (r + 1) * sz ≤ i * sz := Nat.mul_le_mul_right _ hlt
          rw [Nat.add_mul, Nat.one_mul] at this
          omega
        · have : (i + 1) * sz ≤ r * sz := Nat.mul_le_mul_right _ hlt
          rw [Nat.add_mul, Nat.one_mul] at this
          omega

theorem fillR_sim (he : EnvOk K e a) {sz : Nat} : ∀ (ps : List (Nat × Operand)) (qs : List (Nat × Opd)) (z r : List (List IV)) (arr : Array Value),
    ps.length = qs.length → (∀ (i : Nat) (p : Nat × Operand) (q : Nat × Opd), ps[i]? = some p → qs[i]? = some q → q.1 = p.1 ∧ cOpd p.2 = some q.2) → RowsAt K arr z sz → doIns.fillP e sz z qs = some r →
    ∃ arr', Instr.fill (fun i => some (i * sz, sz)) arr (ps.map fun p => (p.1, a.eval p.2)) = some arr' ∧ RowsAt K arr' r sz := by
  intro ps
  induction ps with
  | nil =>
    intro qs z r arr hl _ ha h
    cases qs with
    | nil => simp [doIns.fillP] at h; subst h; exact ⟨arr, rfl, ha⟩
    | cons _ _ => simp at hl
  | cons p ps ih =>
    intro qs z r arr hl hp ha h
    cases qs with
    | nil => simp at hl
    | cons q qs =>
      obtain ⟨i, x⟩ := q
      simp only [doIns.fillP, Option.bind_eq_some_iff] at h
      obtain ⟨cs, hcs, h⟩ := h
      split at h
      · rename_i hc
        obtain ⟨hpl, hx⟩ := hp 0 p _ rfl rfl
        simp only at hpl hx
        obtain ⟨hsz, hv, hok⟩ := (he.ev hx).cells hcs
        have hone : ∀ u ∈ (a.eval p.2).cells, u.oneCell' = true := fun u hu => by
          obtain ⟨j, hj, rfl⟩ := Array.mem_iff_getElem.1 hu
          have hj' : j < cs.length := by omega
          exact (hv j cs[j] _ (List.getElem?_eq_getElem hj') (Array.getElem?_eq_getElem hj)).one (hok _ (List.getElem_mem hj'))
        obtain ⟨arr', h1, h2⟩ := ih qs _ r _ (by simpa using hl) (fun i p q h1 h2 => hp (i + 1) p q h1 h2) (ha.set (us := (a.eval p.2).cells) hc.1 hc.2 hsz hone hv) h
        refine ⟨arr', ?_, h2⟩
        have h0 := ha.size
        have hmul : (i + 1) * sz ≤ z.length * sz := Nat.mul_le_mul_right _ hc.1
        rw [Nat.add_mul, Nat.one_mul] at hmul
        simp only [List.map_cons, Instr.fill]
        rw [← hpl, if_neg (by simp; omega)]
        exact h1
      · cases h

theorem zeros_at {z : List IV} {v : Value} (n : Nat) (hs : 0 < z.length) (hsz : v.cells.size = z.length) (h1 : ∀ u ∈ v.cells, u.oneCell' = true) (hv : ∀ (i : Nat) (x : IV) (u : Value), z[i]? = some x → v.cells[i]? = some u → VR K x u) :
    RowsAt K ((Array.range (n * z.length)).map (v.cells[· % v.cells.size]!)) (List.replicate n z) z.length := by
  have hget : ∀ i, i < n * z.length → ((Array.range (n * z.length)).map (v.cells[· % v.cells.size]!))[i]? = some v.cells[i % z.length]! := by
    intro i hi
    simp [hi, hsz]
  refine ⟨by simp, fun r row hr => ?_, fun u hu => ?_, fun r row c x hr hx => ?_⟩
  · rw [List.getElem?_replicate] at hr
    split at hr
    · simp at hr; subst hr; rfl
    · cases hr
  · simp only [Array.mem_map] at hu
    obtain ⟨i, _, rfl⟩ := hu
    have : i % v.cells.size < v.cells.size := Nat.mod_lt _ (by omega)
    rw [getElem!_pos v.cells _ this]
    exact h1 _ (Array.getElem_mem this)
  · rw [List.getElem?_replicate] at hr
    split at hr
    · rename_i hrn
      simp at hr; subst hr
      have hc : c < z.length := (List.getElem?_eq_some_iff.1 hx).1
      have hmul : (r + 1) * z.length ≤ n * z.length := Nat.mul_le_mul_right _ hrn
      rw [Nat.add_mul, Nat.one_mul] at hmul
      rw [hget _ (by omega), show (r * z.length + c) % z.length = c by rw [Nat.mul_comm, Nat.mul_add_mod, Nat.mod_eq_of_lt hc]]
      have hc' : c < v.cells.size := by omega
      rw [getElem!_pos v.cells _ hc']
      exact ⟨_, rfl, hv c x _ hx (Array.getElem?_eq_getElem hc')⟩
    · cases hr

theorem sim_bslice (he : EnvOk K e a) {t u : TypeId} {n sz : Nat} {ps : Array (Nat × Operand)} {qs : List (Nat × Opd)} {z : List IV} {rows : List (List IV)} (hl : Nat) (ho : o.op = .buildSlice t n ps) (ht : P.underlying t = some (.slice u)) (hs : szT P u = some sz) (hz : zT P u = some z)
    (hq : mapO (fun (p : Nat × Operand) => (cOpd p.2).bind fun x => some (p.1, x)) ps.toList = some qs) (hb : n * sz ≤ 2 ^ 24) (h0 : 0 < sz) (hzl : z.length = sz) (hr : doIns.fillP e sz (List.replicate n z) qs = some rows) : Makes P a o w K hl (.arr hl 0 0 n n true) rows := by
  obtain ⟨v, hrun, hsz, h1, hv⟩ := zT_some (K := K) hz
  obtain ⟨hlq, hp⟩ := mapO_some hq
  have hz0 := zeros_at (K := K) n (by omega) hsz h1 hv
  rw [hzl] at hz0
  obtain ⟨arr', hf, hrow⟩ := fillR_sim he ps.toList qs _ rows _ hlq.symm (fun i p q h1 h2 => by
    have := hp i p q h1 h2
    simp only [Option.bind_eq_some_iff, Option.some.injEq] at this
    obtain ⟨x, hx, rfl⟩ := this
    exact ⟨rfl, hx⟩) hz0 hr
  have hrl : rows.length = n := by
    have key : ∀ (qs : List (Nat × Opd)) (z r : List (List IV)), doIns.fillP e sz z qs = some r → r.length = z.length := by
      intro qs
      induction qs with
      | nil => intro z r h; simp [doIns.fillP] at h; rw [h]
      | cons q qs ih =>
        intro z r h
        obtain ⟨i, x⟩ := q
        simp only [doIns.fillP, Option.bind_eq_some_iff] at h
        obtain ⟨cs, _, h⟩ := h
        split at h
        · have := ih _ _ h; simpa using this
        · cases h
    have := key _ _ _ hr
    simpa using this
  refine ⟨.slice (some ⟨w.heap.size, 0, none⟩) n n, arr', u, sz, ?_, hrow.len, by rw [hrow.size]; exact Nat.le_refl _, hrow.one, hrow.val, fun K' h => ?_⟩
  · by_cases hn : n = 0
    · subst hn
      have e0 : Array.range 0 = #[] := rfl
      simp only [Nat.zero_mul, e0, Array.map_empty] at hf
      simp [execOp, ho, Instr.buildSlice, run_underlying ht, run_sizeOf' hs, newRow_run, hf, e0]
    · have hne : ¬ n * sz = 0 := by
        intro h; rcases Nat.mul_eq_zero.1 h with h | h <;> omega
      have hb' : ¬ n * sz > 2 ^ 24 := by omega
      simp only [execOp, ho, Instr.buildSlice, Sem.run_bind, run_underlying ht, Result.andThen_ok, run_sizeOf' hs, if_neg hb', if_neg hne, hrun, Sem.run_pure, Array.toList_map]
      simp [hf, newRow_run]
  · refine .arr _ _ _ _ _ _ _ _ _ h (Nat.zero_le _) (fun _ => ⟨_, n, rfl, fun _ => by simp [ad], Nat.le_refl _, Nat.le_refl _, fun _ => rfl, ?_⟩) ⟨_, _, rfl⟩
    rw [Nat.zero_add, hrow.size, hrl]
    exact Nat.le_refl _

end Go.Vs
