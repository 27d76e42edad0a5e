/- The law 'QueueSorts'. -/
import Derived.Test.YtgpooiahnpemjaaTqr7
namespace Go.Proofs.Ytgpooiahnpemjaa
open Go Go.Vs
variable {ro : Nat} {H : Hp}

theorem known_c : ∃ H', callW pg 0 9 [] [] = some (.bool true, H') := callW_of (n := 60) (by kernel_rfl)
theorem known_2 : doCall (callW pg) 0 2 (.fn 9 []) [] [] = some (.bool true, []) := by
  obtain ⟨Hk, hkn⟩ := known_c
  exact call2p hkn rfl rfl
theorem newQ : callW pg ro 10 [] H = some (.ptr H.length 0 0 0, H ++ [{ rows := [[.nsl, .nsl, .int .i64 1]] }]) := by
  rw [callW_eqO (fn := fn10) rfl rfl]
  simp [fn10]
theorem ex_of_map {x : Option (IV × Hp)} {v : IV} (h : x.map (·.1) = some v) : ∃ H', x = some (v, H') := by
  obtain ⟨⟨v', H'⟩, h, e⟩ := Option.map_eq_some_iff.1 h
  exact ⟨H', by rw [h]; simp only at e; rw [e]⟩

theorem batch_same {v w : IV} {L M : List Rw} (hv : SlA v 3 (L.map rrow)) (hw : SlA w 3 (M.map rrow)) (hL : ∀ r ∈ L, r.ok) (hM : ∀ r ∈ M, r.ok) (h : L.map dat = M.map dat) (hl : L.length ≤ 900) :
    doCall (callW pg) ro 2 (.fn 26 []) [.agg (bt1 v), .agg (bt1 w)] H = some (.bool true, H) := by
  have hs := fun ro H => same_2 (ro := ro) (H := H) hv hw hL hM h hl
  have pv : plainD 11 v = true := by rcases hv.imm with ⟨h, _⟩ | ⟨f, h⟩ <;> rw [h] <;> rfl
  have pw : plainD 11 w = true := by rcases hw.imm with ⟨h, _⟩ | ⟨f, h⟩ <;> rw [h] <;> rfl
  have c1 := slA_cok hv
  have c2 := slA_cok hw
  have hc : ∃ H', callW pg H.length 26 [.agg (bt1 v), .agg (bt1 w)] H = some (.bool true, H') := by
    refine ex_of_map ?_
    rw [callW_eqO (fn := fn26) rfl rfl]
    unfold bt1 gS
    have eg : (⟨#[103]⟩ : ByteArray) = bs [103] := rfl
    simp [-getElem?_pos, fn26, c1, c2, hs, eg]
  obtain ⟨H', hc⟩ := hc
  refine call2p hc ?_ rfl
  have pb : ∀ {u : IV}, plainD 11 u = true → plainD frzD (.agg (bt1 u)) = true := by
    intro u hu
    show (bt1 u).all (plainD 11) = true
    simp only [bt1, List.all_cons, List.all_nil, Bool.and_true, hu]
    rfl
  simp only [List.all_cons, List.all_nil, Bool.and_true, pb pv, pb pw]

namespace Srt
theorem law {A : IV} {L : List Rw} (hA : SlA A 3 (L.map rrow)) (hok : ∀ r ∈ L, r.ok ∧ r.fit) {t : Int} (ht : 0 ≤ t ∧ t < 256) : ∃ H', callW pg 0 8 [A, .int .u8 t] [] = some (.bool true, H') := by
  have hlen := hA.len
  rw [List.length_map] at hlen
  refine ex_of_map ?_
  rw [callW_eqO (fn := fn8) rfl rfl]
  by_cases h0 : L = []
  · subst h0
    simp at hlen
    simp [fn8, known_2, hlen]
  have hl0 : ¬ L.length = 0 := fun e => h0 (List.eq_nil_of_length_eq_zero e)
  have hl0' : ¬ (L.length : Int) = 0 := by omega
  by_cases h12 : 12 < L.length
  · have h12' : (12 : Int) < L.length := by omega
    simp [fn8, known_2, hlen, hl0, hl0', h12, h12']
  have h12' : ¬ (12 : Int) < L.length := by omega
  obtain ⟨r, hd, hr⟩ := dup_2 (ro := 0) (H := []) hA (fun r hr => (hok r hr).1) (by omega)
  cases r with
  | true => simp [fn8, known_2, hlen, hl0, hl0', h0, h12, h12', hd]
  | false =>
    have hpw := hr rfl
    obtain ⟨f, rfl⟩ : ∃ f, A = .imm (L.map rrow) f := by
      rcases hA.imm with ⟨_, h⟩ | h
      · simp at h; exact absurd h h0
      · exact h
    have hw : szOk 3 (L.map rrow) = true := szOk_all hA.sz
    obtain ⟨k, hk⟩ : ∃ k : Nat, (k : Int) = t % L.length := ⟨(t % (L.length : Int)).toNat, by have := Int.emod_nonneg t hl0'; omega⟩
    have hkl : k < L.length := by have := Int.emod_lt_of_pos t (show (0 : Int) < L.length by omega); omega
    have wt : IntKind.i64.wrap t = t := by rw [IntKind.wrap_i64]; omega
    have hrem : binV .rem (.int .i64 t) (.int .i64 L.length) = some (.int .i64 k) := by rw [bin_rem hl0', Int.tmod_eq_emod_of_nonneg ht.1, hk]
    have n1 := newQ (ro := 0) (H := [])
    have n2 := newQ (ro := 0) (H := [{ rows := [[.nsl, .nsl, .int .i64 1]] }])
    simp at n1 n2
    -- the first queue
    obtain ⟨vi0, hs0, hv0⟩ := sort_1i (ro := 0) (H := [{ rows := [[.nsl, .nsl, .int .i64 2]] }, { rows := [[.nsl, .nsl, .int .i64 1]] }]) hA (by omega) (fun r hr => (hok r hr).1)
    have hokS : ∀ {M : List Rw}, List.Perm M L → ∀ r ∈ isort cR M, r.ok ∧ r.fit := fun hM r hr => hok r (hM.mem_iff.1 ((isort_perm _).mem_iff.1 hr))
    obtain ⟨w0, L0, G1, p1, s1, d1, o1, e1⟩ := put0 (H := [{ rows := [[.nsl, .nsl, .int .i64 1]] }, { rows := [[.nsl, .nsl, .int .i64 1]] }]) (Q := 0) (A := .imm (L.map rrow) f) (X := [{ rows := [[.nsl, .nsl, .int .i64 2]] }, { rows := [[.nsl, .nsl, .int .i64 1]] }]) rfl rfl rfl hs0 hv0 (by rw [isort_len]; omega) (hokS (.refl _))
    have e1' : G1 = [{ rows := [[.nsl, .arr 3 0 0 1 1 false, .int .i64 2]] }, { rows := [[.nsl, .nsl, .int .i64 1]] }, { rows := [bt1 w0] }, { rows := [bt1 w0] }] := e1
    subst e1'
    unfold gS at p1
    -- the second one's rows
    have hkn : k ≤ L.length := by omega
    have hkn2 : ¬ k = L.length := by omega
    have eR1 : List.take (L.length - k) (List.drop k (List.map rrow L)) = List.drop k (L.map rrow) := List.take_of_length_le (by simp)
    obtain ⟨M, hM⟩ : ∃ M, M = L.drop k ++ L.take k := ⟨_, rfl⟩
    have hperm : List.Perm M L := by
      rw [hM]
      exact List.perm_append_comm.trans (by rw [List.take_append_drop])
    have hMl : M.length = L.length := hperm.length_eq
    have hM0 : M ≠ [] := fun e => hl0 (by rw [← hMl, e]; rfl)
    have hrow3 : ∀ (Z : List Rw), szOk 3 (Z.map rrow) = true := fun Z => szOk_all fun r hr => by
      obtain ⟨x, _, rfl⟩ := List.mem_map.1 hr; rfl
    have hz1 : szOk 3 (List.drop k (List.map rrow L)) = true := by rw [← List.map_drop]; exact hrow3 _
    have hz2 : szOk 3 (List.take k (List.map rrow L)) = true := by rw [← List.map_take]; exact hrow3 _
    have eM : List.drop k (List.map rrow L) ++ List.take k (List.map rrow L) = M.map rrow := by rw [hM, List.map_append, List.map_drop, List.map_take]
    obtain ⟨g, a2⟩ : ∃ g, ∀ f2, appV 0 [{ rows := [[.nsl, .arr 3 0 0 1 1 false, .int .i64 2]] }, { rows := [[.nsl, .nsl, .int .i64 1]] }, { rows := [bt1 w0] }, { rows := [bt1 w0] }, { rows := List.drop k (List.map rrow L) }] 3 40 (.arr 4 0 0 (L.length - k) (L.length - k) false) (.imm (List.take k (List.map rrow L)) f2) =
        some (.arr 4 g 0 M.length M.length false, [{ rows := [[.nsl, .arr 3 0 0 1 1 false, .int .i64 2]] }, { rows := [[.nsl, .nsl, .int .i64 1]] }, { rows := [bt1 w0] }, { rows := [bt1 w0] }, { rows := M.map rrow, gen := g }]) := by
      by_cases hk0 : k = 0
      · subst hk0
        refine ⟨0, fun f2 => ?_⟩
        have : M = L := by rw [hM]; simp
        rw [this]
        simp [-getElem?_pos, appV, blkAt_eq, hrow3]
      · refine ⟨1, fun f2 => ?_⟩
        have r1 : (L.length - k + min k L.length) * 40 ≤ room := by simp only [room]; omega
        have r2 : ¬ (L.length - k + min k L.length ≤ L.length - k) := by omega
        have r3 : L.length - k + min k L.length = L.length := by omega
        have r4 : min k L.length ≠ 0 := by omega
        have r5 : 0 < L.length - k := by omega
        have r6 : L.length * 40 ≤ room := by simp only [room]; omega
        have r7 : ¬ L.length ≤ L.length - k := by omega
        simp [-getElem?_pos, appV, blkAt_eq, hz1, hz2, r1, r2, r3, r4, r5, r6, r7, eR1, eM, hMl, hk0, h0]
    have a1 : appV 0 [{ rows := [[.nsl, .arr 3 0 0 1 1 false, .int .i64 2]] }, { rows := [[.nsl, .nsl, .int .i64 1]] }, { rows := [bt1 w0] }, { rows := [bt1 w0] }] 3 40 .nsl (.imm (List.drop k (List.map rrow L)) f) =
        some (.arr 4 0 0 (L.length - k) (L.length - k) false, [{ rows := [[.nsl, .arr 3 0 0 1 1 false, .int .i64 2]] }, { rows := [[.nsl, .nsl, .int .i64 1]] }, { rows := [bt1 w0] }, { rows := [bt1 w0] }, { rows := List.drop k (List.map rrow L) }]) := by
      have r1 : (L.length - k) * 40 ≤ room := by simp only [room]; omega
      have r2 : ¬ L.length ≤ k := by omega
      have r3 : ¬ L.length - k = 0 := by omega
      simp [-getElem?_pos, appV, newArr, hz1, r1, r2, r3]
    obtain ⟨vi1, hs1, hv1⟩ := sort_1a (ro := 0) (H := [{ rows := [[.nsl, .arr 3 0 0 1 1 false, .int .i64 2]] }, { rows := [[.nsl, .nsl, .int .i64 2]] }, { rows := [bt1 w0] }, { rows := [bt1 w0] }, { rows := M.map rrow, gen := g }]) (b := 4) (g := g) (len := M.length) (cap := M.length) (ex := false) rfl rfl hM0 rfl rfl (by omega) (fun r hr => (hok r (hperm.mem_iff.1 hr)).1) (Nat.zero_le _)
    obtain ⟨w1, L1, G2, p2, s2, d2, o2, e2⟩ := put0 (H := [{ rows := [[.nsl, .arr 3 0 0 1 1 false, .int .i64 2]] }, { rows := [[.nsl, .nsl, .int .i64 1]] }, { rows := [bt1 w0] }, { rows := [bt1 w0] }, { rows := M.map rrow, gen := g }]) (Q := 1) (A := .arr 4 g 0 M.length M.length false)
      (X := [{ rows := [[.nsl, .arr 3 0 0 1 1 false, .int .i64 2]] }, { rows := [[.nsl, .nsl, .int .i64 2]] }, { rows := [bt1 w0] }, { rows := [bt1 w0] }, { rows := M.map rrow, gen := g, frz := true }]) rfl rfl rfl hs1 hv1 (by rw [isort_len]; omega) (hokS hperm)
    have e2' : G2 = [{ rows := [[.nsl, .arr 3 0 0 1 1 false, .int .i64 2]] }, { rows := [[.nsl, .arr 6 0 0 1 1 false, .int .i64 2]] }, { rows := [bt1 w0] }, { rows := [bt1 w0] }, { rows := M.map rrow, gen := g, frz := true }, { rows := [bt1 w1] }, { rows := [bt1 w1] }] := e2
    subst e2'
    unfold gS at p2
    have hl0' : L0.length = L.length := by have := congrArg List.length d1; simpa [isort_len] using this
    have hl1' : L1.length = L.length := by have := congrArg List.length d2; simpa [isort_len, hMl] using this
    obtain ⟨va, wa, La, q1, q2, q3, q4, q5⟩ := all1_2 (ro := 0) (Q := 0) (k := 3) (w := w0) (L := L0) (H := [{ rows := [[.nsl, .arr 3 0 0 1 1 false, .int .i64 2]] }, { rows := [[.nsl, .arr 6 0 0 1 1 false, .int .i64 2]] }, { rows := [bt1 w0] }, { rows := [bt1 w0] }, { rows := M.map rrow, gen := g, frz := true }, { rows := [bt1 w1] }, { rows := [bt1 w1] }]) rfl rfl s1 (by omega) o1
    obtain ⟨vb, wb, Lb, u1, u2, u3, u4, u5⟩ := all1_2 (ro := 0) (Q := 1) (k := 6) (w := w1) (L := L1) (H := [{ rows := [[.nsl, .arr 3 0 0 1 1 false, .int .i64 2]] }, { rows := [[.nsl, .arr 6 0 0 1 1 false, .int .i64 2]] }, { rows := [bt1 w0] }, { rows := [bt1 w0] }, { rows := M.map rrow, gen := g, frz := true }, { rows := [bt1 w1] }, { rows := [bt1 w1] }]) rfl rfl s2 (by omega) o2
    have huniq : isort cR L = isort cR M := isort_unique cR_anti cR_trans hperm.symm hpw
    have hdat : La.map dat = Lb.map dat := by rw [q4, u4, d1, d2, huniq]
    have hla : La.length = L.length := by have := congrArg List.length q4; simpa [hl0'] using this
    have hsame := fun ro H => batch_same (ro := ro) (H := H) q3 u3 (fun r hr => (q5 r hr).1) (fun r hr => (u5 r hr).1) hdat (by omega)
    have la := q2.len
    have lb := u2.len
    have lw := q3.len
    rw [List.length_map, hla] at lw
    have ia := fun H => q2.idx H 0 (by simp)
    have ib := fun H => u2.idx H 0 (by simp)
    simp at la lb ia ib
    unfold bt1 at hsame ia ib
    simp [-getElem?_pos, fn8, known_2, hlen, hl0, hl0', h0, h12, h12', hd, wt, hrem, n1, n2, p1, hw, hkn, hkn2, eR1, a1, a2, p2, q1, u1, la, lb, ia, ib, hsame, lw]
end Srt

/-! what is handed -/
theorem bs_self (s : ByteArray) : bs s.data.toList = s := by cases s; rfl
abbrev TP : Ty := .pair .str .str
abbrev TR : Ty := .pair (.sl TP) (.pair .bool (.int .i64))
def toP (p : ByteArray × ByteArray) : Pr := (p.1.data.toList, p.2.data.toList)
theorem row_p (p : ByteArray × ByteArray) : [IV.str p.1, IV.str p.2] = prow (toP p) := by simp [prow, toP, bs_self]
def toPd (p : TP.den) : Pr := toP p
theorem toP_row (p : TP.den) : TP.enc p = prow (toPd p) := row_p p
theorem maxLen_eq : maxLen = 9223372036854775807 := by decide
theorem reach_eq : reachBytes = 140737488351232 := by decide

theorem pairs_val (x : (Ty.sl TP).den) (h : (Ty.sl TP).okw x) : ∃ l : List Pr, SlA ((Ty.sl TP).arg x) 2 (l.map prow) ∧ l.length * 32 ≤ room := by
  obtain ⟨l, hl, hx⟩ := sl_arg x
  refine ⟨l.map toPd, ?_, ?_⟩
  · rw [List.map_map]
    have : l.map TP.enc = l.map (prow ∘ toPd) := List.map_congr_left fun p _ => toP_row p
    rw [← this]; exact hl
  · rcases hx with ⟨_, rfl⟩ | rfl
    · simp
    · have h1 : l.length * 32 ≤ reachBytes := (h l rfl).1
      rw [reach_eq] at h1
      have e : (l.map toPd).length = l.length := List.length_map ..
      rw [e]
      simp only [room]; omega

theorem row_val (d : TR.den) (h : TR.okw d) : ∃ r : Rw, TR.enc d = rrow r ∧ r.ok ∧ r.fit := by
  obtain ⟨l, h1, h2⟩ := pairs_val d.1 h.1
  have e : TR.enc d = [(Ty.sl TP).arg d.1, .bool d.2.1, .int .i64 d.2.2] := by
    show (Ty.sl TP).enc d.1 ++ _ = _
    have : (Ty.sl TP).enc d.1 = [(Ty.sl TP).arg d.1] := by
      cases h : d.1 <;> rfl
    rw [this]; rfl
  refine ⟨⟨(Ty.sl TP).arg d.1, l, d.2.1, d.2.2⟩, e, ⟨h1, ?_⟩, h2⟩
  simp only [room] at h2
  dsimp only
  omega

theorem rows_arg (x : (Ty.sl TR).den) (h : (Ty.sl TR).okw x) : ∃ L : List Rw, SlA ((Ty.sl TR).arg x) 3 (L.map rrow) ∧ ∀ r ∈ L, r.ok ∧ r.fit := by
  obtain ⟨l, hl, hx⟩ := sl_arg x
  have key : ∀ l : List TR.den, (∀ y ∈ l, TR.okw y) → ∃ L : List Rw, l.map TR.enc = L.map rrow ∧ ∀ r ∈ L, r.ok ∧ r.fit := by
    intro l
    induction l with
    | nil => intro _; exact ⟨[], rfl, by simp⟩
    | cons d l ih =>
      intro h
      obtain ⟨r, h1, h2⟩ := row_val d (h d (List.mem_cons_self ..))
      obtain ⟨L, h3, h4⟩ := ih fun y hy => h y (List.mem_cons_of_mem _ hy)
      refine ⟨r :: L, by rw [List.map_cons, List.map_cons, h1, h3], fun s hs => ?_⟩
      rcases List.mem_cons.1 hs with rfl | hs
      · exact h2
      · exact h4 s hs
  obtain ⟨L, h1, h2⟩ := key l (by
    rcases hx with ⟨_, rfl⟩ | rfl
    · intro y hy; cases hy
    · exact (h l rfl).2)
  exact ⟨L, by rw [← h1]; exact hl, h2⟩

theorem Srt.wf (x0 : (Ty.sl TR).den) (x1 : (Ty.int .u8).den) (_ : (Ty.sl TR).ok x0) (h1 : (Ty.int .u8).ok x1) (w0 : (Ty.sl TR).okw x0) (_ : (Ty.int .u8).okw x1) : ∃ H', callW pg 0 8 [(Ty.sl TR).arg x0, (Ty.int .u8).arg x1] [] = some (.bool true, H') := by
  obtain ⟨L, hA, hok⟩ := rows_arg x0 w0
  exact Srt.law hA hok (wf_u8 _ h1)
end Go.Proofs.Ytgpooiahnpemjaa
