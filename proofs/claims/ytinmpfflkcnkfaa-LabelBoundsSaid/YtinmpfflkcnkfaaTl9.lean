/- The law 'LabelBounds'. -/
import Derived.Test.YtinmpfflkcnkfaaTl8
namespace Go.Proofs.Ytinmpfflkcnkfaa
open Go Go.Vs
variable {ro : Nat} {H : Hp}

namespace Bnd
def cvV (H : Hp) : IV → Option (IV × Hp)
  | .str _ => none
  | v => (rowsOf H v).bind fun rs => (bytesOf rs).bind fun bs => some (.str ⟨bs.toArray⟩, H)
@[simp] theorem doIns_cvbs {cf : CallF} {e : Env} {x : Opd} : doIns cf ro e H (.cvbs x) = cvV H (ev e x) := by
  simp only [doIns]; cases ev e x <;> rfl
@[simp] theorem cvV_arr {b g off len cap : Nat} {ex : Bool} : cvV H (.arr b g off len cap ex) = (rowsOf H (.arr b g off len cap ex)).bind fun rs => (bytesOf rs).bind fun bs => some (.str ⟨bs.toArray⟩, H) := rfl
/-- Names of one letter each. -/
def prs (n : Nat) : List Pr := (List.range n).map fun i => ([UInt8.ofNat (97 + i)], [120])
theorem prs_len {n : Nat} : (prs n).length = n := by simp [prs]
theorem prs_succ {n : Nat} : prs (n + 1) = prs n ++ [([UInt8.ofNat (97 + n)], [120])] := by simp [prs, List.range_succ]

def Arr (G : Hp) (v : IV) (l : List Pr) : Prop :=
  (v = .nsl ∧ l = []) ∨ ∃ b g, v = .arr b g 0 l.length l.length false ∧ G[b]? = some { rows := l.map prow, gen := g } ∧ 0 < l.length

theorem Arr.add {G : Hp} {v : IV} {l : List Pr} (h : Arr G v l) {x : Pr} (hl : l.length ≤ 100) {Y : Hp} {c : Nat} {e : Bool} (hY : (G ++ Y)[c]? = some { rows := [prow x] }) :
    ∃ v' G', appV 0 (G ++ Y) 2 32 v (.arr c 0 0 1 1 e) = some (v', G') ∧ Arr G' v' (l ++ [x]) := by
  have hr : rowsOf (G ++ Y) (.arr c 0 0 1 1 e) = some [prow x] := by simp [rowsOf, blkAt_eq, hY]
  have hs : szOk 2 [prow x] = true := rfl
  rcases h with ⟨rfl, rfl⟩ | ⟨b, g, rfl, hB, hp⟩
  · refine ⟨_, _, app_nsl hr hs (by simp) (by simp [room]), .inr ⟨_, 0, rfl, ?_, by simp⟩⟩
    simp
  · have hlt : b < G.length := (List.getElem?_eq_some_iff.1 hB).1
    have hB' : (G ++ Y)[b]? = some { rows := l.map prow, gen := g } := by rw [List.getElem?_append_left hlt]; exact hB
    have h1 := app_grow (ro := 0) (H := G ++ Y) (sz := 2) (bytes := 32) (b := b) (g := g) (off := 0) (len := l.length) hr hs (by simp) hB' rfl rfl (szOk_all fun r hr => by
      obtain ⟨x, _, rfl⟩ := List.mem_map.1 hr; rfl) (by simp) (Nat.zero_le _) (by simpa using hp) (by simp only [room, List.length_cons, List.length_nil]; omega)
    refine ⟨_, _, h1, .inr ⟨b, g + 1, by simp, ?_, by simp⟩⟩
    rw [List.getElem?_set_self (by simp; omega)]
    simp [List.take_of_length_le]

theorem loop0 {J V : IV} {k : Nat} (hk : k ≤ 11) : ∀ (d i : Nat) (G : Hp) (v : IV), i + d = k → Arr G v (prs i) →
    ∃ e' G' v', runW pg 0 fn5L0 [(7, .int .i64 k), (8, J), (9, V), (10, v), (11, .int .i64 i)] G = some (.exit 0, e', G') ∧ get e' 7 = .int .i64 k ∧ get e' 8 = J ∧ get e' 9 = V ∧ get e' 10 = v' ∧ Arr G' v' (prs k) := by
  have L : ∀ e H, runW pg 0 fn5L0 e H = seqO pg 0 fn5L0 (runW pg 0 fn5B0 (keepE [7, 8, 9, 10, 11] e) H) := fun e H => runW_loopO
  intro d
  induction d with
  | zero =>
    intro i G v hi h
    have : i = k := by omega
    subst this
    refine ⟨[(7, .int .i64 i), (8, J), (9, V), (10, v), (11, .int .i64 i), (34, .bool false)], G, v, ?_, rfl, rfl, rfl, rfl, h⟩
    rw [L]; simp [fn5B0]
  | succ d ih =>
    intro i G v hi h
    have h1 : (i : Int) < k := by omega
    have w1 : IntKind.i64.wrap ((i : Int) + 1) = i + 1 := by rw [IntKind.wrap_i64]; omega
    have w2 : IntKind.u8.wrap (i : Int) = i := by rw [IntKind.wrap_u8]; omega
    have w3 : IntKind.u8.wrap (97 + (i : Int)) = 97 + i := by rw [IntKind.wrap_u8]; omega
    obtain ⟨v', G', ha, hA⟩ := h.add (x := ([UInt8.ofNat (97 + i)], [120])) (by rw [prs_len]; omega) (Y := [{ rows := [[.int .u8 (97 + i)]] }, { rows := [prow ([UInt8.ofNat (97 + i)], [120])] }]) (c := G.length + 1) (e := true) (by simp)
    rw [← prs_succ] at hA
    obtain ⟨e', G2, v2, hr, h3⟩ := ih (i + 1) G' v' (by omega) hA
    push_cast at hr
    refine ⟨e', G2, v2, ?_, h3⟩
    have eb : (97 + (i : Int)).toNat = 97 + i := by omega
    simp [prow, bs] at ha
    rw [L]
    simp [-getElem?_pos, fn5B0, h1, w1, w2, w3, rowsOf, blkAt_eq, bytesOf, byteOfRow, eb, ha, hr]
theorem loop1 {a7 a9 a12 a13 a15 : IV} {j : Nat} (hj : j ≤ 24) : ∀ (d i : Nat), i + d = j →
    runW pg 0 fn5L1 [(7, a7), (8, .int .i64 j), (9, a9), (12, a12), (13, a13), (14, .str (bs (List.replicate i 113))), (15, a15), (16, .int .i64 i)] H =
      some (.exit 2, [(7, a7), (8, .int .i64 j), (9, a9), (12, a12), (13, a13), (14, .str (bs (List.replicate j 113))), (15, a15), (16, .int .i64 j), (53, .bool false)], H) := by
  have L : ∀ e, runW pg 0 fn5L1 e H = seqO pg 0 fn5L1 (runW pg 0 fn5B1 (keepE [7, 8, 9, 12, 13, 14, 15, 16] e) H) := fun e => runW_loopO
  intro d
  induction d with
  | zero =>
    intro i hi
    have : i = j := by omega
    subst this
    rw [L]; simp [fn5B1]
  | succ d ih =>
    intro i hi
    have h1 : (i : Int) < j := by omega
    have w1 : IntKind.i64.wrap ((i : Int) + 1) = i + 1 := by rw [IntKind.wrap_i64]; omega
    have hr := ih (i + 1) (by omega)
    have hq : ¬ ((9223372036854775807 : Int) < (i : Int) + 1) := by omega
    push_cast at hr
    rw [List.replicate_succ'] at hr
    rw [L]
    have hb : binV .add (.str (bs (List.replicate i 113))) (.str ⟨#[113]⟩) = some (.str (bs (List.replicate i 113 ++ [113]))) := by
      have := bin_sadd (a := List.replicate i 113) (b := [113])
      rw [if_neg (by simp; omega)] at this
      exact this
    simp [-getElem?_pos, fn5B1, h1, w1, hb, hr]
theorem loop2 {a7 a8 a12 a13 a14 : IV} {j : Nat} (hj : j ≤ 34) : ∀ (d i : Nat), i + d = j →
    runW pg 0 fn5L2 [(7, a7), (8, a8), (9, .int .i64 j), (12, a12), (13, a13), (14, a14), (15, .str (bs (List.replicate i 119))), (17, .int .i64 i)] H =
      some (.exit 4, [(7, a7), (8, a8), (9, .int .i64 j), (12, a12), (13, a13), (14, a14), (15, .str (bs (List.replicate j 119))), (17, .int .i64 j), (60, .bool false)], H) := by
  have L : ∀ e, runW pg 0 fn5L2 e H = seqO pg 0 fn5L2 (runW pg 0 fn5B2 (keepE [7, 8, 9, 12, 13, 14, 15, 17] e) H) := fun e => runW_loopO
  intro d
  induction d with
  | zero =>
    intro i hi
    have : i = j := by omega
    subst this
    rw [L]; simp [fn5B2]
  | succ d ih =>
    intro i hi
    have h1 : (i : Int) < j := by omega
    have w1 : IntKind.i64.wrap ((i : Int) + 1) = i + 1 := by rw [IntKind.wrap_i64]; omega
    have hr := ih (i + 1) (by omega)
    push_cast at hr
    rw [List.replicate_succ'] at hr
    rw [L]
    have hb : binV .add (.str (bs (List.replicate i 119))) (.str ⟨#[119]⟩) = some (.str (bs (List.replicate i 119 ++ [119]))) := by
      have := bin_sadd (a := List.replicate i 119) (b := [119])
      rw [if_neg (by simp; omega)] at this
      exact this
    simp [-getElem?_pos, fn5B2, h1, w1, hb, hr]

theorem prs_short {k : Nat} : Short (prs k) := fun p hp => by
  obtain ⟨i, _, rfl⟩ := List.mem_map.1 hp
  simp
theorem mk_arr {G : Hp} {v : IV} {l : List Pr} (h : Arr G v l) (hl : l.length ≤ 20) (hs : Short l) :
    ∃ vi H', doCall (callW pg) 0 1 (.fn 20 []) [v] G = some (.tup [vi, .int .i64 (mkE l)], H') ∧ SlA vi 2 ((mkL l).map prow) := by
  rcases h with ⟨rfl, rfl⟩ | ⟨b, g, rfl, hB, hp⟩
  · obtain ⟨vi, h1, h2⟩ := make_1i (ro := 0) (H := G) (A := .nsl) (p := []) slA_nil hl hs
    exact ⟨vi, G, h1, h2⟩
  · obtain ⟨vi, H', h1, h2, _⟩ := make_1a (ro := 0) (len := l.length) (cap := l.length) (ex := false) hB rfl rfl rfl hl hs (Nat.zero_le _)
    exact ⟨vi, H', h1, h2⟩

def one (j v : Nat) : List Pr := [(List.replicate j 113, List.replicate v 119)]
def fine (j v : Nat) : Bool := decide (v = 0) || (decide (1 ≤ j) && decide (j ≤ 20) && decide (v ≤ 30))
theorem kE : ∀ k, k < 12 → mkE (prs k) = (if k ≤ 8 then 0 else 30) ∧ (mkL (prs k)).length = if k ≤ 8 then k else 0 := of_decide_eq_true (by kernel_rfl)
theorem nB : ∀ j, j < 25 → nameB (List.replicate j 113) = (decide (1 ≤ j) && decide (j ≤ 20)) := of_decide_eq_true (by kernel_rfl)
theorem oneE : ∀ j, j < 25 → ∀ v, v < 35 → mkE (one j v) = (if fine j v = true then 0 else 30) ∧ (mkL (one j v)).length = if fine j v = true then min v 1 else 0 := of_decide_eq_true (by kernel_rfl)
theorem law {a b c : Int} (ha : 0 ≤ a ∧ a < 256) (hb : 0 ≤ b ∧ b < 256) (hc : 0 ≤ c ∧ c < 256) : ∃ H', callW pg 0 5 [.int .u8 a, .int .u8 b, .int .u8 c] [] = some (.bool true, H') := by
  refine ex_of_map ?_
  obtain ⟨k, hk, hk12⟩ : ∃ k : Nat, a.tmod 12 = k ∧ k < 12 := ⟨(a.tmod 12).toNat, by rw [Int.tmod_eq_emod_of_nonneg ha.1]; omega, by rw [Int.tmod_eq_emod_of_nonneg ha.1]; omega⟩
  obtain ⟨j, hj, hj25⟩ : ∃ j : Nat, b.tmod 25 = j ∧ j < 25 := ⟨(b.tmod 25).toNat, by rw [Int.tmod_eq_emod_of_nonneg hb.1]; omega, by rw [Int.tmod_eq_emod_of_nonneg hb.1]; omega⟩
  obtain ⟨v, hv, hv35⟩ : ∃ v : Nat, c.tmod 35 = v ∧ v < 35 := ⟨(c.tmod 35).toNat, by rw [Int.tmod_eq_emod_of_nonneg hc.1]; omega, by rw [Int.tmod_eq_emod_of_nonneg hc.1]; omega⟩
  have r1 : binV .rem (.int .u8 a) (.int .u8 12) = some (.int .u8 k) := by rw [bin_rem (by decide), hk]
  have r2 : binV .rem (.int .u8 b) (.int .u8 25) = some (.int .u8 j) := by rw [bin_rem (by decide), hj]
  have r3 : binV .rem (.int .u8 c) (.int .u8 35) = some (.int .u8 v) := by rw [bin_rem (by decide), hv]
  have wk : IntKind.i64.wrap (k : Int) = k := by rw [IntKind.wrap_i64]; omega
  have wj : IntKind.i64.wrap (j : Int) = j := by rw [IntKind.wrap_i64]; omega
  have wv : IntKind.i64.wrap (v : Int) = v := by rw [IntKind.wrap_i64]; omega
  obtain ⟨e0, G0, v0, h0, g7, g8, g9, g10, hA⟩ := loop0 (J := .int .i64 j) (V := .int .i64 v) (k := k) (by omega) k 0 [] .nsl (by omega) (.inl ⟨rfl, rfl⟩)
  simp at h0
  obtain ⟨vi, H1, m1, s1⟩ := mk_arr hA (by rw [prs_len]; omega) prs_short
  have hlen := s1.len
  rw [List.length_map, (kE k hk12).2] at hlen
  rw [(kE k hk12).1] at m1
  have h1 := fun a7 a9 a12 a13 a15 => loop1 (H := H1) (a7 := a7) (a9 := a9) (a12 := a12) (a13 := a13) (a15 := a15) (j := j) (by omega) j 0 (by omega)
  have h2 := fun a7 a8 a12 a13 a14 => loop2 (H := H1) (a7 := a7) (a8 := a8) (a12 := a12) (a13 := a13) (a14 := a14) (j := v) (by omega) v 0 (by omega)
  simp [bs] at h1 h2
  obtain ⟨vj, H2, m2, s2, _⟩ := make_1a (ro := 0) (H := H1 ++ [{ rows := (one j v).map prow }]) (b := H1.length) (g := 0) (len := 1) (cap := 1) (ex := true) (p := one j v) (by simp; rfl) rfl rfl rfl (by simp [one]) (fun x hx => by simp [one] at hx; subst hx; simp; omega) (Nat.zero_le _)
  have hlen2 := s2.len
  rw [List.length_map, (oneE j hj25 v hv35).2] at hlen2
  rw [(oneE j hj25 v hv35).1] at m2
  have n2 := fun ro H => name_2 (ro := ro) (H := H) (l := List.replicate j 113) (by simp; omega)
  rw [nB j hj25] at n2
  simp [one, prow, bs] at m2
  simp [bs] at n2
  rw [callW_eqO (fn := fn5) rfl rfl]
  have e1 : ((k : Int) ≤ 8) ↔ k ≤ 8 := by omega
  have e2 : ((1 : Int) ≤ j) ↔ 1 ≤ j := by omega
  have e3 : ((j : Int) ≤ 20) ↔ j ≤ 20 := by omega
  have e4 : ((v : Int) ≤ 30) ↔ v ≤ 30 := by omega
  have e5 : ((v : Int) = 0) ↔ v = 0 := by omega
  have hmin : min (v : Int) 1 = if v = 0 then 0 else 1 := by split <;> omega
  have hmin2 : min v 1 = if v = 0 then 0 else 1 := by split <;> omega
  rcases Classical.propComplete (k ≤ 8) with c1 | c1 <;> rcases Classical.propComplete (v = 0) with c5 | c5 <;> rcases Classical.propComplete (1 ≤ j) with c2 | c2 <;> rcases Classical.propComplete (j ≤ 20) with c3 | c3 <;> rcases Classical.propComplete (v ≤ 30) with c4 | c4 <;>
    simp [-getElem?_pos, fn5, known_2, r1, r2, r3, wk, wj, wv, h0, g7, g8, g9, g10, m1, h1, h2, m2, n2, hlen, hlen2, hmin, hmin2, fine, e1, e2, e3, e4, e5, c1, c2, c3, c4, c5]
theorem wf (x0 x1 x2 : (Ty.int .u8).den) (h0 : (Ty.int .u8).ok x0) (h1 : (Ty.int .u8).ok x1) (h2 : (Ty.int .u8).ok x2) :
    ∃ H', callW pg 0 5 [(Ty.int .u8).arg x0, (Ty.int .u8).arg x1, (Ty.int .u8).arg x2] [] = some (.bool true, H') := law (wf_u8 _ h0) (wf_u8 _ h1) (wf_u8 _ h2)
end Bnd
end Go.Proofs.Ytinmpfflkcnkfaa
