/- All that waits, of one batch; rows alike; rows of one set. -/
import Derived.Test.YtgpooiahnpemjaaTqr5
namespace Go.Proofs.Ytgpooiahnpemjaa
open Go Go.Vs
variable {ro : Nat} {H : Hp}

def bt1 (w : IV) : List IV := [.int .i64 1, .int .i64 1, .str gS, w]
theorem all1_2 {Q k : Nat} {w : IV} {L : List Rw} (hQ : H[Q]? = some { rows := [[.nsl, .arr k 0 0 1 1 false, .int .i64 2]] }) (hk : H[k]? = some { rows := [bt1 w] }) (hw : SlA w 3 (L.map rrow)) (hn : L.length ≤ 900) (hok : ∀ r ∈ L, r.ok ∧ r.fit) :
    ∃ (vi w' : IV) (L' : List Rw), doCall (callW pg) ro 2 (.fn 13 []) [.ptr Q 0 0 0] H = some (vi, H) ∧ SlA vi 4 [bt1 w'] ∧ SlA w' 3 (L'.map rrow) ∧ L'.map dat = L.map dat ∧ (∀ r ∈ L', r.ok ∧ r.fit) := by
  obtain ⟨w', L', h1, h2, h3, h4⟩ := copied_2 (ro := H.length) (H := H ++ [{ rows := [] }, { rows := [bt1 w] }, { rows := [bt1 w] }]) hw hn hok
  have hp : ∀ r ∈ [bt1 w'], ∀ x ∈ r, plainD 10 x = true := by
    intro r hr x hx
    simp at hr
    subst hr
    simp [bt1] at hx
    rcases hx with rfl | rfl | rfl
    · rfl
    · rfl
    · rcases h2.imm with ⟨h, _⟩ | ⟨f, h⟩ <;> rw [h] <;> rfl
  have hlt : k < H.length := (List.getElem?_eq_some_iff.1 hk).1
  obtain ⟨vi, hv1, hv2⟩ := call2s (pg := pg) (ro := ro) (H := H) (f := 13) (args := [.ptr Q 0 0 0]) (v := .arr (H.length + 1) 0 0 1 1 false) (H2 := H ++ [{ rows := [] }, { rows := [bt1 w'] }, { rows := [bt1 w] }]) (sz := 4) (rows := [bt1 w']) (by
    have L : ∀ e G, runW pg H.length fn13L0 e G = seqO pg H.length fn13L0 (runW pg H.length fn13B0 (keepE [3, 11, 12, 13] e) G) := fun e G => runW_loopO
    have h35 : callW pg H.length 35 [.arr k 0 0 1 1 false] H = some (.arr (H.length + 1) 0 0 1 1 false, H ++ [{ rows := [] }, { rows := [bt1 w] }]) := by
      have r56 : 56 ≤ room := by decide
      unfold bt1 at hk ⊢
      rw [callW_eqO (fn := fn35) rfl rfl]
      simp [-getElem?_pos, fn35, appV, newArr, blkAt_eq, hk, hlt, r56, List.getElem?_append_left]
    have wz : IntKind.i64.wrap 1 = 1 := by decide
    have c1 := slA_cok hw
    have c2 := slA_cells h2
    unfold bt1 at h1 h35 ⊢
    rw [callW_eqO (fn := fn13) rfl rfl]
    simp [-getElem?_pos, fn13, hQ, h35, L, fn13B0, wz, c1, c2, h1, over]) rfl rfl (.inr ⟨H.length + 1, 0, [], [], 1, false, rfl, by simp, by simp, by simp [bt1]⟩) (by simp [blkS]) hp
  exact ⟨vi, w', L', hv1, hv2, h2, h3, h4⟩

/-! rows alike -/
theorem bs_beq {a b : List UInt8} : (bs a == bs b) = (a == b) := by
  show ((bs a).data == (bs b).data) = _
  simp [bs]
theorem eqP_loop {A B : IV} {l : List Pr} (hA : SlA A 2 (l.map prow)) (hB : SlA B 2 (l.map prow)) (hl : l.length ≤ 9223372036854775807) : ∀ (d i : Nat), i + d = l.length →
    ∃ e', runW pg ro fn64L0 [(0, A), (1, B), (12, .int .i64 l.length), (13, .int .i64 i)] H = some (.exit 0, e', H) := by
  have L : ∀ e, runW pg ro fn64L0 e H = seqO pg ro fn64L0 (runW pg ro fn64B0 (keepE [0, 1, 12, 13] e) H) := fun e => runW_loopO
  intro d
  induction d with
  | zero =>
    intro i hi
    have : i = l.length := by omega
    subst this
    exact ⟨[(0, A), (1, B), (12, .int .i64 l.length), (13, .int .i64 l.length), (14, .bool false)], by rw [L]; simp [fn64B0]⟩
  | succ d ih =>
    intro i hi
    obtain ⟨e', hr⟩ := ih (i + 1) (by omega)
    push_cast at hr
    refine ⟨e', ?_⟩
    have h1 : (i : Int) < l.length := by omega
    have h2 : i < l.length := by omega
    have w1 : IntKind.i64.wrap ((i : Int) + 1) = i + 1 := by rw [IntKind.wrap_i64]; omega
    obtain ⟨⟨a, b⟩, hx⟩ : ∃ x, l[i]? = some x := ⟨_, List.getElem?_eq_getElem h2⟩
    have hrow : (l.map prow)[i]? = some [.str (bs a), .str (bs b)] := by rw [List.getElem?_map, hx]; rfl
    have i1 := fun H => hA.idx H i (by simp; omega)
    have i2 := fun H => hB.idx H i (by simp; omega)
    rw [L]
    simp [-getElem?_pos, fn64B0, h1, i1, i2, hrow, eqV, eqC, bs_beq, w1, hr]
theorem eqP_2 {A B : IV} {l : List Pr} (hA : SlA A 2 (l.map prow)) (hB : SlA B 2 (l.map prow)) (hl : l.length ≤ 9223372036854775807) : doCall (callW pg) ro 2 (.fn 64 []) [A, B] H = some (.bool true, H) := by
  have h : callW pg H.length 64 [A, B] H = some (.bool true, H) := by
    obtain ⟨e', hr⟩ := eqP_loop (ro := H.length) (H := H) hA hB hl l.length 0 (by omega)
    have l1 := hA.len
    have l2 := hB.len
    rw [List.length_map] at l1 l2
    simp at hr
    rw [callW_eqO (fn := fn64) rfl rfl]
    simp [-getElem?_pos, fn64, l1, l2, hr]
  exact call2 (args' := [A, B]) (by simp [SlA.self hA, SlA.self hB]) h rfl (.inl rfl)

theorem eqR_2 {x y : Rw} (hx : x.ok) (hy : y.ok) (h : dat x = dat y) : doCall (callW pg) ro 2 (.fn 63 []) [.agg (rrow x), .agg (rrow y)] H = some (.bool true, H) := by
  simp only [dat, Prod.mk.injEq] at h
  obtain ⟨e1, e2, e3⟩ := h
  have he := fun ro H => eqP_2 (ro := ro) (H := H) (A := x.lv) (B := y.lv) (l := x.ps) hx.1 (by rw [e1]; exact hy.1) hx.2
  have hc : ∃ H', callW pg H.length 63 [.agg (rrow x), .agg (rrow y)] H = some (.bool true, H') := by
    refine ⟨H ++ [{ rows := [rrow x] }, { rows := [rrow y] }], ?_⟩
    rw [callW_eqO (fn := fn63) rfl rfl]
    unfold rrow
    simp [-getElem?_pos, fn63, he, hx.cell, hy.cell, e2, e3, eqV, eqC]
  obtain ⟨H', hc⟩ := hc
  exact call2p hc (by simp only [List.all_cons, List.all_nil, Bool.and_true, hx.agg, hy.agg]) rfl

theorem eqV_loop {B A : IV} {L M : List Rw} (hA : SlA A 3 (L.map rrow)) (hB : SlA B 3 (M.map rrow)) (hL : ∀ r ∈ L, r.ok) (hM : ∀ r ∈ M, r.ok) (h : L.map dat = M.map dat) (hl : L.length ≤ 900) : ∀ (d i : Nat) (G : Hp), i + d = L.length → ro ≤ G.length →
    ∃ e' G', runW pg ro fn62L0 [(1, B), (2, .fn 63 []), (15, A), (16, .int .i64 L.length), (17, .int .i64 i)] G = some (.exit 0, e', G') := by
  have LL : ∀ e G, runW pg ro fn62L0 e G = seqO pg ro fn62L0 (runW pg ro fn62B0 (keepE [1, 2, 15, 16, 17] e) G) := fun e G => runW_loopO
  have hlen : L.length = M.length := by have := congrArg List.length h; simpa using this
  intro d
  induction d with
  | zero =>
    intro i G hi _
    have : i = L.length := by omega
    subst this
    exact ⟨[(1, B), (2, .fn 63 []), (15, A), (16, .int .i64 L.length), (17, .int .i64 L.length), (18, .bool false)], G, by rw [LL]; simp [fn62B0]⟩
  | succ d ih =>
    intro i G hi hG
    have h1 : (i : Int) < L.length := by omega
    have h2 : i < L.length := by omega
    have w1 : IntKind.i64.wrap ((i : Int) + 1) = i + 1 := by rw [IntKind.wrap_i64]; omega
    obtain ⟨x, hx⟩ : ∃ x, L[i]? = some x := ⟨_, List.getElem?_eq_getElem h2⟩
    obtain ⟨y, hy⟩ : ∃ y, M[i]? = some y := ⟨_, List.getElem?_eq_getElem (by omega)⟩
    have hd : dat x = dat y := by
      have := congrArg (fun t => t[i]?) h
      simp only [List.getElem?_map, hx, hy, Option.map_some, Option.some.injEq] at this
      exact this
    have okx := hL x (List.mem_of_getElem? hx)
    have oky := hM y (List.mem_of_getElem? hy)
    have hrx : (L.map rrow)[i]? = some (rrow x) := by rw [List.getElem?_map, hx]; rfl
    have hry : (M.map rrow)[i]? = some (rrow y) := by rw [List.getElem?_map, hy]; rfl
    have i1 := fun H => hA.idx H i (by simp; omega)
    have i2 := fun H => hB.idx H i (by simp; omega)
    have he := fun ro H => eqR_2 (ro := ro) (H := H) okx oky hd
    obtain ⟨e', G', hr⟩ := ih (i + 1) (G ++ [{ rows := [rrow x] }, { rows := [rrow y] }]) (by omega) (by simp; omega)
    push_cast at hr
    refine ⟨e', G', ?_⟩
    unfold rrow at he hr
    rw [LL]
    simp [-getElem?_pos, fn62B0, h1, i1, i2, hx, hy, rrow, hG, okx.cell, oky.cell, he, w1, hr]

theorem same_2 {A B : IV} {L M : List Rw} (hA : SlA A 3 (L.map rrow)) (hB : SlA B 3 (M.map rrow)) (hL : ∀ r ∈ L, r.ok) (hM : ∀ r ∈ M, r.ok) (h : L.map dat = M.map dat) (hl : L.length ≤ 900) : doCall (callW pg) ro 2 (.fn 43 []) [A, B] H = some (.bool true, H) := by
  have hlen : L.length = M.length := by have := congrArg List.length h; simpa using this
  have l1 := hA.len
  have l2 := hB.len
  rw [List.length_map] at l1 l2
  rw [← hlen] at l2
  have h62 : ∀ (ro : Nat) (H : Hp), doCall (callW pg) ro 2 (.fn 62 []) [A, B, .fn 63 []] H = some (.bool true, H) := by
    intro ro H
    have hc : ∃ H', callW pg H.length 62 [A, B, .fn 63 []] H = some (.bool true, H') := by
      obtain ⟨e', G', hr⟩ := eqV_loop (ro := H.length) hA hB hL hM h hl L.length 0 H (by omega) (Nat.le_refl _)
      simp at hr
      refine ⟨G', ?_⟩
      rw [callW_eqO (fn := fn62) rfl rfl]
      simp [-getElem?_pos, fn62, l1, l2, hr]
    obtain ⟨H', hc⟩ := hc
    exact call2 (args' := [A, B, .fn 63 []]) (by simp only [List.append_nil, List.map_cons, List.map_nil, SlA.self hA, SlA.self hB]; rfl) hc rfl (.inl rfl)
  have hc : callW pg H.length 43 [A, B] H = some (.bool true, H) := by
    rw [callW_eqO (fn := fn43) rfl rfl]
    simp [-getElem?_pos, fn43, h62]
  exact call2 (args' := [A, B]) (by simp [SlA.self hA, SlA.self hB]) hc rfl (.inl rfl)
end Go.Proofs.Ytgpooiahnpemjaa
