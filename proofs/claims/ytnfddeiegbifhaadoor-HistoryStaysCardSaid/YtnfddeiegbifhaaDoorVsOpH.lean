import Derived.Test.YtnfddeiegbifhaaDoorVsOpG
/- Operations that write: stores, appends. -/
namespace Go.Vs
open Go Go.RowKit

variable {P : Program} {K : Kp} {e : Env} {a : Act} {o : Oper} {w : World}

/-- Cells written through a pointer. -/
theorem wr_sim {ro : Nat} {H H' : Hp} (hR : Rel K ro H w) {x : IV} {v : Value} (hv : VR K x v) {cs : List IV} {us : List Value} (hl : us.length = cs.length) (h1 : ∀ u ∈ us, u.oneCell' = true) (hcv : ∀ (j : Nat) (y : IV) (u : Value), cs[j]? = some y → us[j]? = some u → VR K y u) (h : wr ro H cs x = some H') :
    ∃ A w', v = .pointer (some A) ∧ (storeCells A us).run P w = .ok () w' ∧ Rel K ro H' w' ∧ Fr K K ro H.length H'.length w w' := by
  cases x <;> simp only [wr, reduceCtorEq] at h
  case ptr b g i j =>
    simp only [Option.bind_eq_some_iff] at h
    obtain ⟨B, hB, row, hr, h⟩ := h
    split at h
    · rename_i hle
      simp at h; subst h
      obtain ⟨hB, hgen, hro, hfz⟩ := wbl_some hB
      obtain ⟨L, hL, e1, hg, _⟩ := hv.ptr_inv
      obtain ⟨B', hB', ok⟩ := hR.blk b L hL
      obtain rfl : B = B' := by rw [hB] at hB'; exact Option.some.inj hB'
      have hv' := e1 (by rw [← ok.gen]; exact hgen)
      have hrl := ok.len i row hr
      have hi := (List.getElem?_eq_some_iff.1 hr).1
      have hfit := ok.fit
      have hmul : (i + 1) * L.sz ≤ B.rows.length * L.sz := Nat.mul_le_mul_right _ hi
      rw [Nat.add_mul, Nat.one_mul] at hmul
      have hov : ∀ k, (over row j cs)[k]? = if j ≤ k ∧ k < j + cs.length then cs[k - j]? else row[k]? := over_get hle
      obtain ⟨hR', hF⟩ := hR.setCells hL hB hro hfz (rows := B.rows.set i (over row j cs)) (fun r row' hr' => by
          rw [List.getElem?_set] at hr'
          by_cases hir : i = r
          · rw [if_pos hir, if_pos hi] at hr'; simp at hr'; subst hr'; rw [over_len hle]; exact hrl
          · rw [if_neg hir] at hr'; exact ok.len r row' hr') (by simpa using hfit) (p := i * L.sz + j) (us := us) (by omega) h1 (fun r row' c y hr' hy => by
          have hrlt : c < L.sz := by
            rw [List.getElem?_set] at hr'
            by_cases hir : i = r
            · rw [if_pos hir, if_pos hi] at hr'; simp at hr'; subst hr'
              have := (List.getElem?_eq_some_iff.1 hy).1
              rw [over_len hle] at this; omega
            · rw [if_neg hir] at hr'; rw [← ok.len r row' hr']; exact (List.getElem?_eq_some_iff.1 hy).1
          rw [List.getElem?_set] at hr'
          by_cases hir : i = r
          · subst hir
            rw [if_pos rfl, if_pos hi] at hr'; simp at hr'; subst hr'
            rw [hov c] at hy
            by_cases hc : j ≤ c ∧ c < j + cs.length
            · rw [if_pos hc] at hy
              obtain ⟨u, hu⟩ : ∃ u, us[c - j]? = some u := ⟨_, List.getElem?_eq_getElem (by omega)⟩
              exact .inl ⟨c - j, u, hu, by omega, hcv _ y u hy hu⟩
            · rw [if_neg hc] at hy
              exact .inr ⟨by omega, row, hr, hy⟩
          · rw [if_neg hir] at hr'
            refine .inr ⟨?_, row', hr', hy⟩
            rcases Nat.lt_or_gt_of_ne hir with hlt | hlt
            · have : (i + 1) * L.sz ≤ r * L.sz := Nat.mul_le_mul_right _ hlt
              rw [Nat.add_mul, Nat.one_mul] at this; omega
            · have : (r + 1) * L.sz ≤ i * L.sz := Nat.mul_le_mul_right _ hlt
              rw [Nat.add_mul, Nat.one_mul] at this; omega)
      have hblt : b < H.length := (List.getElem?_eq_some_iff.1 hB).1
      have hR2 := hR'.untype (b := b) (B := { B with rows := B.rows.set i (over row j cs) }) (by simp [hblt])
      rw [List.set_set] at hR2
      simp only [hfz] at hR2
      refine ⟨_, _, hv', ?_, hR2, by simpa using hF⟩
      have hst := run_storeCells_cells (P := P) L.blk (L.org + i * L.sz + j) us 0 w (fun q hq => by
        obtain ⟨u, hu, _⟩ := ok.there (i * L.sz + j + q) (by omega)
        rw [show (⟨L.blk, L.org + i * L.sz + j + 0 + q, none⟩ : Addr) = ad L.blk (L.org + (i * L.sz + j + q)) by simp [ad]; omega, hu]; rfl) (fun q hq => by
        rw [show (⟨L.blk, L.org + i * L.sz + j + 0 + q, none⟩ : Addr) = ad L.blk (L.org + (i * L.sz + j + q)) by simp [ad]; omega]
        exact ok.soft (by omega) _) h1
      rw [show L.org + (i * L.sz + j) = L.org + i * L.sz + j + 0 by omega]
      exact hst
    · cases h

theorem cells_one {x : IV} {v : Value} {cs : List IV} (hv : VR K x v) (h : cellsO x = some cs) : ∀ u ∈ v.cells, u.oneCell' = true := by
  obtain ⟨hsz, hcv, hok⟩ := hv.cells h
  intro u hu
  obtain ⟨j, hj, rfl⟩ := Array.mem_iff_getElem.1 hu
  have hj' : j < cs.length := by omega
  exact (hcv j cs[j] _ (List.getElem?_eq_getElem hj') (Array.getElem?_eq_getElem hj)).one (hok _ (List.getElem_mem hj'))

theorem sim_store {ro : Nat} {H H' : Hp} (hR : Rel K ro H w) (he : EnvOk K e a) {t : TypeId} {x y : Operand} {x' y' : Opd} {n : Nat} {cs : List IV} (ho : o.op = .store t x y) (hs : szT P t = some n) (hx : cOpd x = some x') (hy : cOpd y = some y') (hc : cellsO (ev e y') = some cs) (hn : cs.length = n) (hw : wr ro H cs (ev e x') = some H') :
    ∃ w', (execOp a.eval o).run P w = .ok .skip w' ∧ Rel K ro H' w' ∧ Fr K K ro H.length H'.length w w' := by
  obtain ⟨hsz, hcv, hok⟩ := (he.ev hy).cells hc
  obtain ⟨A, w', hA, hst, hR', hF⟩ := wr_sim (P := P) hR (he.ev hx) (us := (a.eval y).cells.toList) (by simpa using hsz) (fun u hu => cells_one (he.ev hy) hc u (by simpa using hu)) (fun j y u h1 h2 => hcv j y u h1 (by simpa using h2)) hw
  refine ⟨w', ?_, hR', hF⟩
  simp [execOp, ho, Instr.storeAt, hA, Instr.sureAddr, storeVar, run_sizeOf' hs, hsz, hn, hst]

/-! ### append -/

/-- What is appended. -/
structure Src (P : Program) (K : Kp) (w : World) (sz : Nat) (v : Value) (ys : List (List IV)) (us : List Value) : Prop where
  len : (Builtin.lenOf v).run P w = .ok ys.length w
  loadN : ∀ n, n ≤ ys.length → ∀ w', w'.heap = w.heap → (Builtin.firstCells sz n v).run P w' = .ok (us.take (n * sz)).toArray w'
  size : us.length = ys.length * sz
  row : ∀ (r : Nat) (row : List IV), ys[r]? = some row → row.length = sz
  one : ∀ u ∈ us, u.oneCell' = true
  val : ∀ (r : Nat) (row : List IV) (c : Nat) (x : IV), ys[r]? = some row → row[c]? = some x → ∃ u, us[r * sz + c]? = some u ∧ VR K x u

theorem Src.load {sz : Nat} {v : Value} {ys : List (List IV)} {us : List Value} (h : Src P K w sz v ys us) (w' : World) (hw : w'.heap = w.heap) : (Builtin.firstCells sz ys.length v).run P w' = .ok us.toArray w' := by
  have := h.loadN ys.length (Nat.le_refl _) w' hw
  rwa [← h.size, List.take_length] at this

theorem CellsAt.take {b q : Nat} {cs : List IV} {us : List Value} (hc : CellsAt K w b q cs us) (m : Nat) : CellsAt K w b q (cs.take m) (us.take m) := by
  refine ⟨by simp [hc.1], fun j u hu => ?_, fun j x u hx hu => ?_⟩
  · rw [List.getElem?_take] at hu
    split at hu
    · exact hc.2.1 j u hu
    · cases hu
  · rw [List.getElem?_take] at hx hu
    split at hx
    · rename_i h; rw [if_pos h] at hu; exact hc.2.2 j x u hx hu
    · cases hx

theorem CellsAt.heap {w w' : World} (h : w'.heap = w.heap) {b q : Nat} {cs : List IV} {us : List Value} (hc : CellsAt K w b q cs us) : CellsAt K w' b q cs us := by
  refine ⟨hc.1, fun j u hu => ?_, hc.2.2⟩
  have : w'.cell? (ad b (q + j)) = w.cell? (ad b (q + j)) := World.cell?_of_block (by rw [h])
  rw [this]; exact hc.2.1 j u hu

theorem src_of {ro : Nat} {H : Hp} (hR : Rel K ro H w) {x : IV} {v : Value} (hv : VR K x v) {ys : List (List IV)} (h : rowsOf H x = some ys) {sz : Nat} (hsz : szOk sz ys = true) : ∃ us, Src P K w sz v ys us := by
  by_cases hs : ∃ s, x = .str s
  · obtain ⟨s, rfl⟩ := hs
    simp only [rowsOf, Option.some.injEq] at h
    subst h
    rw [hv.str_inv]
    have hn : ∀ (r : Nat) (row : List IV), (s.data.toList.map byteRow)[r]? = some row → ∃ b, s.data.toList[r]? = some b ∧ row = byteRow b := by
      intro r row hr
      simp only [List.getElem?_map, Option.map_eq_some_iff] at hr
      obtain ⟨b, hb, rfl⟩ := hr
      exact ⟨b, hb, rfl⟩
    have h1 : s.data.toList.map byteRow ≠ [] → sz = 1 := fun hne => szOk_len hsz (n := 1) (fun r row hr => by obtain ⟨b, _, rfl⟩ := hn r row hr; rfl) hne
    refine ⟨s.data.toList.map fun b => .int .u8 b.toNat, by simp [Builtin.lenOf], fun n hn' w' _ => ?_, ?_, fun r row hr => ?_, fun u hu => ?_, fun r row c x hr hx => ?_⟩
    · simp only [Builtin.firstCells, Sem.run_pure]
      congr 1
      apply Array.ext'
      by_cases hne : s.data.toList.map byteRow = []
      · simp at hne; simp [hne]
      · rw [h1 hne]; simp
    · by_cases hne : s.data.toList.map byteRow = []
      · simp at hne; simp [hne]
      · rw [h1 hne]; simp
    · obtain ⟨b, hb, rfl⟩ := hn r row hr
      rw [h1 (by intro h; rw [h] at hr; simp at hr)]; rfl
    · simp only [List.mem_map] at hu; obtain ⟨b, _, rfl⟩ := hu; rfl
    · obtain ⟨b, hb, rfl⟩ := hn r row hr
      have hsz1 := h1 (by intro h; rw [h] at hr; simp at hr)
      subst hsz1
      cases c with
      | zero =>
        simp [byteRow] at hx; subst hx
        exact ⟨.int .u8 b.toNat, by rw [Nat.mul_one, Nat.add_zero, List.getElem?_map, hb]; rfl, .int _ _ _⟩
      | succ c => simp [byteRow] at hx
  · obtain ⟨sz', A, n, cap, hv, hn, hmem⟩ := rowsOf_sim hR hv h (fun s hs' => hs ⟨s, hs'⟩)
    subst hv
    rcases hmem with rfl | ⟨b, q, us, rfl, hl, hc⟩
    · simp at hn; subst hn
      refine ⟨[], rfl, fun n hn w' _ => ?_, by simp, fun r row hr => by simp at hr, fun u hu => by simp at hu, fun r row c x hr => by simp at hr⟩
      obtain rfl : n = 0 := by simpa using hn
      cases A with
      | none => simp [Builtin.firstCells]
      | some A => simp [Builtin.firstCells, loadCells, loadCellsFrom]
    · by_cases hne : ys = []
      · subst hne
        simp at hn; subst hn
        refine ⟨[], rfl, fun n hn w' _ => ?_, by simp, fun r row hr => by simp at hr, fun u hu => by simp at hu, fun r row c x hr => by simp at hr⟩
        obtain rfl : n = 0 := by simpa using hn
        simp [Builtin.firstCells, loadCells, loadCellsFrom]
      · have hl' : ∀ (r : Nat) (row : List IV), ys[r]? = some row → row.length = sz' := fun r row hr => hl row (List.mem_of_getElem? hr)
        have := szOk_len hsz hl' hne
        subst this
        refine ⟨us, by rw [hn]; rfl, fun n hn' w' hw' => ?_, by rw [hc.1, flatten_len hl], hl', fun u hu => ?_, fun r row c x hr hx => ?_⟩
        · have := ((hc.heap hw').take (n * sz)).load P
          rw [List.length_take, flatten_len hl, Nat.min_eq_left (Nat.mul_le_mul_right _ hn')] at this
          exact this
        · obtain ⟨j, hj, rfl⟩ := List.mem_iff_getElem.1 hu
          exact (hc.2.1 j _ (List.getElem?_eq_getElem hj)).2
        · have hf := flatten_get hl r c row x hr hx
          have hlt := (List.getElem?_eq_some_iff.1 hf).1
          have hlt' : r * sz + c < us.length := by rw [hc.1]; exact hlt
          exact ⟨us[r * sz + c], List.getElem?_eq_getElem hlt', hc.2.2 _ x _ hf (List.getElem?_eq_getElem hlt')⟩

theorem growBy_le (n : Nat) : ∀ r c, 256 ≤ c → c ≤ 2 * n → Builtin.growBy n r c ≤ 2 * n
  | 0, c, _, h => h
  | r + 1, c, h1, h2 => by
    simp only [Builtin.growBy]
    split
    · exact h2
    · exact growBy_le n r _ (by omega) (by omega)

theorem next_le {n c : Nat} (h : c < n) : Builtin.nextslicecap n c ≤ 2 * n := by
  unfold Builtin.nextslicecap
  split
  · omega
  · split
    · omega
    · exact growBy_le n 4 c (by omega) (by omega)

/-- The append that finds room. -/
theorem run_append_fits {t u : TypeId} {ty : TypeId} {ats : Array TypeId} {e' : TypeId} {sz : Nat} {x v : Value} {ys : List (List IV)} {us : List Value} (h0 : ats[0]? = some t) (h1 : ats[1]? = some u) (ht : P.underlying t = some (.slice e')) (hu : (∃ d, P.underlying u = some (.slice d)) ∨ P.underlying u = some .string) (hs : szT P e' = some sz)
    {base : Option Addr} {len cap : Nat} (hx : x = .slice base len cap) (hsrc : Src P K w sz v ys us) (hfit : len + ys.length ≤ cap) {w' : World} (hst : (base = none ∧ w' = w) ∨ ∃ A, base = some A ∧ (storeCells (A.add (len * sz)) us).run P w = .ok () w') :
    (Builtin.append_ ats ty #[x, v]).run P w = .ok (.slice base (len + ys.length) cap) w' := by
  subst hx
  have hd : ∃ d, P.underlying u = some d ∧ (d = .string ∨ ∃ q, d = .slice q) := by
    rcases hu with ⟨d, h⟩ | h
    · exact ⟨_, h, .inr ⟨_, rfl⟩⟩
    · exact ⟨_, h, .inl rfl⟩
  obtain ⟨d, hd, hdd⟩ := hd
  rcases hst with ⟨rfl, rfl⟩ | ⟨A, rfl, hst⟩
  · rcases hdd with rfl | ⟨q, rfl⟩ <;> simp [Builtin.append_, h0, h1, run_underlying ht, run_sizeOf' hs, run_underlying hd, hsrc.len, hfit, hsrc.load _ rfl]
  · rcases hdd with rfl | ⟨q, rfl⟩ <;> simp [Builtin.append_, h0, h1, run_underlying ht, run_sizeOf' hs, run_underlying hd, hsrc.len, hfit, hsrc.load w rfl, hst]

/-- The append that moves: the world, the value. -/
theorem run_append_grows {t u : TypeId} {ty : TypeId} {ats : Array TypeId} {e' : TypeId} {sz bytes : Nat} {x v : Value} {ys : List (List IV)} {us : List Value} {z : List IV} (h0 : ats[0]? = some t) (h1 : ats[1]? = some u) (ht : P.underlying t = some (.slice e')) (hu : (∃ d, P.underlying u = some (.slice d)) ∨ P.underlying u = some .string) (hs : szT P e' = some sz) (hb : byT P e' = some bytes) (hz : zT P e' = some z)
    {base : Option Addr} {len cap : Nat} (hx : x = .slice base len cap) (hsrc : Src P K w sz v ys us) (hgrow : cap < len + ys.length) (hbp : 0 < bytes) (hroom : (len + ys.length) * bytes ≤ 2 ^ 47) {xs : List Value} (hold : ∀ w', w'.heap = w.heap → (Builtin.firstCells sz len x).run P w' = .ok xs.toArray w') :
    ∃ newCap zs, len + ys.length ≤ newCap ∧ zs.length = (newCap - (len + ys.length)) * z.length ∧ (∀ u ∈ zs, u.oneCell' = true) ∧
      (Builtin.append_ ats ty #[x, v]).run P w = .ok (.slice (some (ad w.heap.size 0)) (len + ys.length) newCap) (w.drew.alloc (.cells (xs ++ us ++ zs).toArray e')) := by
  subst hx
  obtain ⟨zv, hzr, hzs, hz1, _⟩ := zT_some (K := K) hz
  obtain ⟨i, hi, hib⟩ : ∃ i, P.info? e' = some i ∧ i.bytes = bytes := by
    unfold byT at hb
    cases h : P.info? e' with
    | none => simp [h] at hb
    | some i => simp [h] at hb; exact ⟨i, rfl, hb⟩
  have hd : ∃ d, P.underlying u = some d ∧ (d = .string ∨ ∃ q, d = .slice q) := by
    rcases hu with ⟨d, h⟩ | h
    · exact ⟨_, h, .inr ⟨_, rfl⟩⟩
    · exact ⟨_, h, .inl rfl⟩
  obtain ⟨d, hd, hdd⟩ := hd
  generalize hneed : len + ys.length = need at *
  have hnc : (Question.appendCap need cap e').cut (w.tape w.drawn (.appendCap need cap e')) = need + w.tape w.drawn (.appendCap need cap e') % (2 ^ 63 - need) := rfl
  generalize hN : need + w.tape w.drawn (.appendCap need cap e') % (2 ^ 63 - need) = newCap at *
  have hle : need ≤ newCap := by omega
  refine ⟨newCap, (Builtin.zeroCells zv.cells (newCap - need)).toList, hle, by simp [Builtin.zeroCells, hzs], fun u hu => ?_, ?_⟩
  · simp only [Builtin.zeroCells, Array.mem_toList_iff, Array.mem_map, Array.mem_range] at hu
    obtain ⟨j, hj, rfl⟩ := hu
    have hp : 0 < zv.cells.size := by
      rcases Nat.eq_zero_or_pos zv.cells.size with h | h
      · rw [h] at hj; omega
      · exact h
    have hm : j % zv.cells.size < zv.cells.size := Nat.mod_lt _ hp
    rw [getElem!_pos zv.cells _ hm]
    exact hz1 _ (Array.getElem_mem hm)
  · have hnx : ¬ (Builtin.nextslicecap need cap * i.bytes > 2 ^ 48) := by
      have h1 := next_le hgrow
      have h2 : Builtin.nextslicecap need cap * i.bytes ≤ 2 * need * i.bytes := Nat.mul_le_mul_right _ h1
      rw [hib] at h2 ⊢
      rw [Nat.mul_assoc] at h2
      omega
    have hgr : ¬ need ≤ cap := by omega
    have hb0 : i.bytes ≠ 0 := by omega
    have hforced : (Question.appendCap need cap e').forced = false := rfl
    have hl1 := hold w.drew rfl
    have hl2 := hsrc.load w.drew rfl
    rcases hdd with rfl | ⟨q, rfl⟩ <;>
      simp [Builtin.append_, h0, h1, run_underlying ht, run_sizeOf' hs, run_underlying hd, hsrc.len, hneed, hgr, typeInfo, hi, hb0, hnx, hforced, hnc, hzr, newRow_run] <;>
      (rw [hl1, Result.andThen_ok, hl2, Result.andThen_ok]; simp [ad]; congr 2; apply Array.ext'; simp)

end Go.Vs
