/- The law 'LabelParts': the rows. -/
import Derived.Test.YtinmpfflkcnkfaaTl11
namespace Go.Proofs.Ytinmpfflkcnkfaa
open Go Go.Vs
variable {ro : Nat} {H : Hp}

namespace Prt
def kS (names : List (List UInt8)) : List UInt8 → Bool := fun n => decide (n ∈ names)
def wS (names : List (List UInt8)) : List UInt8 → Bool := fun n => !(n == nmL) && !decide (n ∈ names)

theorem loop0 {A K W : IV} {l : List Pr} {names : List (List UInt8)} (hA : SlA A 2 (l.map prow)) (hK : SlA K 2 ((part (kS names) l).map prow)) (hW : SlA W 2 ((part (wS names) l).map prow)) (hi : isB l = true) (hl : l.length ≤ 20) : ∀ (d i : Nat), i + d = l.length →
    ∃ e', runW pg ro fn9L0 [(0, A), (5, K), (6, W), (7, .int .i64 (part (fun n => kS names n || wS names n) (l.take i)).length), (8, .int .i64 i)] H = some (.exit 0, e', H) ∧ get e' 0 = A ∧ get e' 5 = K ∧ get e' 6 = W ∧ get e' 7 = .int .i64 (part (fun n => kS names n || wS names n) l).length := by
  have L : ∀ e, runW pg ro fn9L0 e H = seqO pg ro fn9L0 (runW pg ro fn9B0 (keepE [0, 5, 6, 7, 8] e) H) := fun e => runW_loopO
  have hlen := hA.len
  rw [List.length_map] at hlen
  intro d
  induction d with
  | zero =>
    intro i hi
    have : i = l.length := by omega
    subst this
    refine ⟨[(0, A), (5, K), (6, W), (7, .int .i64 (part (fun n => kS names n || wS names n) l).length), (8, .int .i64 l.length), (36, .bool false)], ?_, rfl, rfl, rfl, rfl⟩
    rw [List.take_length, L]; simp [fn9B0, hlen]
  | succ d ih =>
    intro i hi2
    have h2 : i < l.length := by omega
    have h1 : (i : Int) < l.length := by omega
    have w1 : IntKind.i64.wrap ((i : Int) + 1) = i + 1 := by rw [IntKind.wrap_i64]; omega
    obtain ⟨x, hx⟩ : ∃ x, l[i]? = some x := ⟨_, List.getElem?_eq_getElem h2⟩
    have hm := List.mem_of_getElem? hx
    have htk : l.take (i + 1) = l.take i ++ [x] := by rw [List.take_add_one, hx]; rfl
    have hidx := hA.idx H i (by simp; omega)
    obtain ⟨c, hc⟩ : ∃ c, c = (part (fun n => kS names n || wS names n) (l.take i)).length := ⟨_, rfl⟩
    have hcl : c ≤ 20 := by
      have := List.length_filter_le (fun x : Pr => (fun n => kS names n || wS names n) x.1) (l.take i)
      rw [List.length_take] at this
      unfold part at hc; omega
    have wc : IntKind.i64.wrap ((c : Int) + 1) = c + 1 := by rw [IntKind.wrap_i64]; omega
    have g1 := get_2 (ro := ro) (H := H) (A := K) (l := part (kS names) l) (n := x.1) (by rw [SlA.self hK]; exact hK) (by have := List.length_filter_le (fun x : Pr => kS names x.1) l; unfold part; omega)
    have g2 := get_2 (ro := ro) (H := H) (A := W) (l := part (wS names) l) (n := x.1) (by rw [SlA.self hW]; exact hW) (by have := List.length_filter_le (fun x : Pr => wS names x.1) l; unfold part; omega)
    have p1 := get_part hi (kS names) hm
    have p2 := get_part hi (wS names) hm
    have ih := ih (i + 1) (by omega)
    have e7 : (part (fun n => kS names n || wS names n) (l.take (i + 1))).length = c + if (kS names x.1 || wS names x.1) = true then 1 else 0 := by
      rw [htk, hc]; unfold part; rw [List.filter_append, List.length_append]; congr 1; cases h : (kS names x.1 || wS names x.1) <;> simp [h]
    rw [e7] at ih
    rw [← hc]
    have hs : (IV.str ⟨#[95, 95, 110, 97, 109, 101, 95, 95]⟩) = .str (bs nmL) := rfl
    have hnil : (IV.str ⟨#[]⟩) = .str (bs []) := rfl
    have eW : wS names x.1 = (!(x.1 == nmL) && !kS names x.1) := rfl
    rw [eW] at p2 ih
    cases q1 : kS names x.1 <;> cases q2 : x.1 == nmL <;> rw [q1] at p1 <;> simp only [q1, q2, Bool.not_true, Bool.not_false, Bool.and_true, Bool.and_false, Bool.false_and, Bool.true_and, Bool.or_true, Bool.or_false, Bool.true_or, Bool.false_or, Bool.false_eq_true, if_true, if_false, Nat.add_zero] at p1 p2 ih <;>
      (obtain ⟨e', hr, h3⟩ := ih; push_cast at hr; refine ⟨e', ?_, h3⟩; rw [L]; simp [-getElem?_pos, fn9B0, hlen, h1, hidx, hx, prow, g1, g2, p1, p2, hs, hnil, q2, w1, wc, hr])
/-- Names that are gathered. -/
def Nms (G : Hp) (v : IV) (N : List (List UInt8)) : Prop :=
  (v = .nsl ∧ N = []) ∨ ∃ b g, v = .arr b g 0 N.length N.length false ∧ G[b]? = some { rows := N.map strow, gen := g } ∧ 0 < N.length
theorem Nms.add {G : Hp} {v : IV} {N : List (List UInt8)} (h : Nms G v N) {x : List UInt8} (hl : N.length ≤ 100) {Y : Hp} {c : Nat} {e : Bool} (hY : (G ++ Y)[c]? = some { rows := [strow x] }) :
    ∃ v' G', appV 0 (G ++ Y) 1 16 v (.arr c 0 0 1 1 e) = some (v', G') ∧ Nms G' v' (N ++ [x]) := by
  have hr : rowsOf (G ++ Y) (.arr c 0 0 1 1 e) = some [strow x] := by simp [rowsOf, blkAt_eq, hY]
  have hs : szOk 1 [strow x] = true := rfl
  rcases h with ⟨rfl, rfl⟩ | ⟨b, g, rfl, hB, hp⟩
  · refine ⟨_, _, app_nsl hr hs (by simp) (by simp [room]), .inr ⟨_, 0, rfl, ?_, by simp⟩⟩
    simp
  · have hlt : b < G.length := (List.getElem?_eq_some_iff.1 hB).1
    have hB' : (G ++ Y)[b]? = some { rows := N.map strow, gen := g } := by rw [List.getElem?_append_left hlt]; exact hB
    have h1 := app_grow (ro := 0) (H := G ++ Y) (sz := 1) (bytes := 16) (b := b) (g := g) (off := 0) (len := N.length) hr hs (by simp) hB' rfl rfl (szOk_all fun r hr => by
      obtain ⟨x, _, rfl⟩ := List.mem_map.1 hr; rfl) (by simp) (Nat.zero_le _) (by simpa using hp) (by simp only [room, List.length_cons, List.length_nil]; omega)
    refine ⟨_, _, h1, .inr ⟨b, g + 1, by simp, ?_, by simp⟩⟩
    rw [List.getElem?_set_self (by simp; omega)]
    simp [List.take_of_length_le]

theorem loop1 {A K W n : IV} {l : List Pr} (hA : SlA A 2 (l.map prow)) (hl : l.length ≤ 20) : ∀ (d i : Nat) (G : Hp) (v : IV), i + d = l.length → Nms G v ((l.take i).map (·.1)) →
    ∃ e' G' v', runW pg 0 fn9L1 [(0, A), (5, K), (6, W), (7, n), (11, v), (12, .int .i64 i)] G = some (.exit 2, e', G') ∧ get e' 0 = A ∧ get e' 5 = K ∧ get e' 6 = W ∧ get e' 7 = n ∧ get e' 11 = v' ∧ Nms G' v' (l.map (·.1)) := by
  have L : ∀ e H, runW pg 0 fn9L1 e H = seqO pg 0 fn9L1 (runW pg 0 fn9B1 (keepE [0, 5, 6, 7, 11, 12] e) H) := fun e H => runW_loopO
  have hlen := hA.len
  rw [List.length_map] at hlen
  intro d
  induction d with
  | zero =>
    intro i G v hi h
    have : i = l.length := by omega
    subst this
    rw [List.take_length] at h
    refine ⟨[(0, A), (5, K), (6, W), (7, n), (11, v), (12, .int .i64 l.length), (92, .bool false)], G, v, ?_, rfl, rfl, rfl, rfl, rfl, h⟩
    rw [L]; simp [fn9B1, hlen]
  | succ d ih =>
    intro i G v hi h
    have h2 : i < l.length := by omega
    have h1 : (i : Int) < l.length := by omega
    have w1 : IntKind.i64.wrap ((i : Int) + 1) = i + 1 := by rw [IntKind.wrap_i64]; omega
    obtain ⟨x, hx⟩ : ∃ x, l[i]? = some x := ⟨_, List.getElem?_eq_getElem h2⟩
    have htk : l.take (i + 1) = l.take i ++ [x] := by rw [List.take_add_one, hx]; rfl
    have hidx := fun H => hA.idx H i (by simp; omega)
    obtain ⟨v', G', ha, hN⟩ := h.add (x := x.1) (by simp; omega) (Y := [{ rows := [strow x.1] }]) (c := G.length) (e := true) (by simp)
    have e1 : (l.take i).map (·.1) ++ [x.1] = (l.take (i + 1)).map (·.1) := by rw [htk, List.map_append]; rfl
    rw [e1] at hN
    obtain ⟨e', G2, v2, hr, h3⟩ := ih (i + 1) G' v' (by omega) hN
    push_cast at hr
    refine ⟨e', G2, v2, ?_, h3⟩
    unfold strow at ha
    rw [L]
    simp [-getElem?_pos, fn9B1, hlen, h1, hidx, hx, prow, ha, w1, hr]

theorem kAll (l : List Pr) : part (kS (l.map (·.1))) l = l := by
  unfold part kS
  rw [List.filter_eq_self]
  intro x hx
  exact decide_eq_true (List.mem_map_of_mem hx)
theorem wAll (l : List Pr) : part (wS (l.map (·.1))) l = [] := by
  unfold part wS
  rw [List.filter_eq_nil_iff]
  intro x hx
  simp only [decide_eq_true (List.mem_map_of_mem hx : x.1 ∈ l.map (·.1)), Bool.not_true, Bool.and_false]
  simp
theorem kNil (l : List Pr) : part (kS []) l = [] := by
  unfold part kS
  rw [List.filter_eq_nil_iff]
  intro x hx
  simp

theorem law {A N : IV} {l : List Pr} {names : List (List UInt8)} (hA : SlA A 2 (l.map prow)) (hl : l.length < 9223372036854775807) (hN : SlA N 1 (names.map strow)) (hn : names.length < 9223372036854775807) : ∃ H', callW pg 0 9 [A, N] [] = some (.bool true, H') := by
  have hlen := hA.len
  have hnl := hN.len
  rw [List.length_map] at hlen hnl
  refine ex_of_map ?_
  rw [callW_eqO (fn := fn9) rfl rfl]
  have b1 := big_2 (ro := 0) (H := []) hA hl
  by_cases c1 : bigB l = true
  · simp [fn9, known_2, b1, c1]
  have c1' : bigB l = false := by simpa using c1
  obtain ⟨hp20, hshort⟩ := bigB_false c1'
  have hs : Short l := fun x hx => by have := hshort x hx; omega
  have b2 := is_2 (ro := 0) (H := []) (A := A) (l := l) (by rw [SlA.self hA]; exact hA) hs hl
  by_cases c2 : isB l = true
  · by_cases c3 : 20 < names.length
    · have c3' : (20 : Int) < names.length := by omega
      simp [fn9, known_2, b1, c1', b2, c2, hnl, c3, c3']
    have c3' : ¬ (20 : Int) < names.length := by omega
    have hkf : (23 = 23 ∧ 54 = 54 ∨ 23 = 24 ∧ 54 = 56) := .inl ⟨rfl, rfl⟩
    have hwf : (24 = 23 ∧ 56 = 54 ∨ 24 = 24 ∧ 56 = 56) := .inr ⟨rfl, rfl⟩
    obtain ⟨K, k1, k2⟩ := part_1i (ro := 0) (H := []) hkf (keep_so hN hn) hA (by omega) hN
    obtain ⟨W, w1, w2⟩ := part_1i (ro := 0) (H := []) hwf (without_so hN hn) hA (by omega) hN
    have k2 : SlA K 2 ((part (kS names) l).map prow) := k2
    have w2 : SlA W 2 ((part (wS names) l).map prow) := w2
    have kl := k2.len
    have wl := w2.len
    rw [List.length_map] at kl wl
    obtain ⟨e0, h0, g0, g5, g6, g7⟩ := loop0 (ro := 0) (H := []) hA k2 w2 c2 hp20 l.length 0 (by omega)
    have e00 : (part (fun n => kS names n || wS names n) (l.take 0)).length = 0 := rfl
    rw [e00] at h0
    simp at h0
    obtain ⟨e1, G, v, h1, f0, f5, f6, f7, f11, hNm⟩ := loop1 (K := K) (W := W) (n := .int .i64 ((part (kS names) l).length + (part (wS names) l).length)) hA hp20 l.length 0 [] .nsl (by omega) (.inl ⟨rfl, rfl⟩)
    simp at h1
    have hcnt : ((part (fun n => kS names n || wS names n) l).length : Int) = (part (kS names) l).length + (part (wS names) l).length := by
      rw [part_count _ _ l fun x _ => by unfold kS wS; cases decide (x.1 ∈ names) <;> simp]; omega
    have hle : ∀ so, (part so l).length ≤ 20 := fun so => Nat.le_trans (List.length_filter_le _ _) hp20
    have wadd : IntKind.i64.wrap (((part (kS names) l).length : Int) + (part (wS names) l).length) = (part (kS names) l).length + (part (wS names) l).length := by
      have := hle (kS names); have := hle (wS names); rw [IntKind.wrap_i64]; omega
    have hpm : ∀ so, Short (part so l) := fun so x hx => hs x (List.mem_filter.1 hx).1
    have i1 := fun H => is_2 (ro := 0) (H := H) (A := K) (l := part (kS names) l) (by rw [SlA.self k2]; exact k2) (hpm _) (by have := hle (kS names); omega)
    have i2 := fun H => is_2 (ro := 0) (H := H) (A := W) (l := part (wS names) l) (by rw [SlA.self w2]; exact w2) (hpm _) (by have := hle (wS names); omega)
    rw [isB_part c2] at i1 i2
    -- all of it
    have hall : ∃ vk vw Gk Gw, doCall (callW pg) 0 1 (.fn 23 []) [A, v] G = some (vk, Gk) ∧ SlA vk 2 (l.map prow) ∧ doCall (callW pg) 0 1 (.fn 24 []) [A, v] Gk = some (vw, Gw) ∧ SlA vw 2 [] := by
      have hmap : (l.map (·.1)).length ≤ 20 := by rw [List.length_map]; exact hp20
      rcases hNm with ⟨rfl, e⟩ | ⟨b, g, rfl, hB, _⟩
      · have hl0 : l = [] := by simpa using e
        obtain ⟨vk, a1, a2⟩ := part_1i (ro := 0) (H := G) (N := .nsl) hkf (keep_so (names := []) slA_nil (by simp)) hA (by omega) slA_nil
        obtain ⟨vw, a3, a4⟩ := part_1i (ro := 0) (H := G) (N := .nsl) hwf (without_so (names := []) slA_nil (by simp)) hA (by omega) slA_nil
        subst hl0
        exact ⟨vk, vw, G, G, a1, a2, a3, a4⟩
      · obtain ⟨vk, Gk, B1, a1, a2, a3, a4, a5⟩ := part_1a (ro := 0) (H := G) (names := l.map (·.1)) (cap := (l.map (·.1)).length) (so := kS (l.map (·.1))) hkf (fun N hN => keep_so hN (by omega)) hA (by omega) hB rfl rfl (Nat.zero_le _)
        obtain ⟨vw, Gw, B2, a6, a7, _⟩ := part_1a (ro := 0) (H := Gk) (names := l.map (·.1)) (cap := (l.map (·.1)).length) (so := wS (l.map (·.1))) hwf (fun N hN => without_so hN (by omega)) hA (by omega) a3 a4 a5 (Nat.zero_le _)
        rw [kAll] at a2
        rw [wAll] at a7
        exact ⟨vk, vw, Gk, Gw, a1, a2, a6, a7⟩
    obtain ⟨vk, vw, Gk, Gw, a1, a2, a3, a4⟩ := hall
    have hsm := same_2 (ro := 0) (H := Gk) a2 hA (by omega)
    simp at hsm
    have hwl := a4.len
    obtain ⟨vn, n1, n2⟩ := part_1i (ro := 0) (H := Gw) (N := .nsl) hkf (keep_so (names := []) slA_nil (by simp)) hA (by omega) slA_nil
    have n2 : SlA vn 2 ((part (kS []) l).map prow) := n2
    rw [kNil] at n2
    have hnl2 := n2.len
    simp at hwl hnl2
    simp [-getElem?_pos, fn9, known_2, b1, c1', b2, c2, hnl, c3, c3', k1, w1, h0, g0, g5, g6, g7, h1, f0, f5, f6, f7, f11, kl, wl, wadd, hcnt, i1, i2, a1, hsm, a3, hwl, n1, hnl2]
  · have c2' : isB l = false := by simpa using c2
    simp [fn9, known_2, b1, c1', b2, c2']
end Prt

def toB (s : ByteArray) : List UInt8 := s.data.toList
theorem row_s (s : ByteArray) : [IV.str s] = strow (toB s) := by simp [strow, toB, bs_self]
def toSd (s : (Ty.str).den) : List UInt8 := toB s
theorem toS_row (s : (Ty.str).den) : (Ty.str).enc s = strow (toSd s) := row_s s
theorem strs_val (x : (Ty.sl .str).den) (h : (Ty.sl .str).okw x) : ∃ l : List (List UInt8), SlA ((Ty.sl .str).arg x) 1 (l.map strow) ∧ l.length < 9223372036854775807 := by
  obtain ⟨l, hl, hx⟩ := sl_arg x
  refine ⟨l.map toSd, ?_, ?_⟩
  · rw [List.map_map]
    have : l.map (Ty.str).enc = l.map (strow ∘ toSd) := List.map_congr_left fun p _ => toS_row p
    rw [← this]; exact hl
  · rcases hx with ⟨_, rfl⟩ | rfl
    · simp
    · have h1 : l.length * 16 ≤ reachBytes := (h l rfl).1
      rw [reach_eq] at h1
      have e : (l.map toSd).length = l.length := List.length_map ..
      rw [e]
      omega
theorem Prt.wf (x0 : (Ty.sl TP).den) (x1 : (Ty.sl .str).den) (_ : (Ty.sl TP).ok x0) (_ : (Ty.sl .str).ok x1) (w0 : (Ty.sl TP).okw x0) (w1 : (Ty.sl .str).okw x1) :
    ∃ H', callW pg 0 9 [(Ty.sl TP).arg x0, (Ty.sl .str).arg x1] [] = some (.bool true, H') := by
  obtain ⟨l, hA, hl⟩ := pairs_val x0 w0
  obtain ⟨n, hN, hn⟩ := strs_val x1 w1
  exact Prt.law hA (room_lt hl) hN hn
end Go.Proofs.Ytinmpfflkcnkfaa
