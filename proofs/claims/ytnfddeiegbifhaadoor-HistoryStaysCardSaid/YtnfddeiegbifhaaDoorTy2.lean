import Derived.Test.YtnfddeiegbifhaaDoorTy1
/- Adding a sample to a set that is known. -/
namespace Go.Proofs.YtnfddeiegbifhaaDoor
open Go Go.Vs
variable {ro : Nat} {H : Hp}

/-- As it is kept. -/
def nrm (x : Sm) : Sm := if x.o = true ∨ x.n = -9223372036854775808 then ⟨x.t, true, 0⟩ else x

/-- A history of one set. -/
structure His (H : Hp) (n : Int) (l : List Pr) (k : Nat) (X v : IV) (S : List Sm) : Prop where
  h : H[0]? = some { rows := [[.int .i64 n, .arr k 0 0 1 1 false]] }
  row : H[k]? = some { rows := [[X, v]] }
  smp : Ow H X 3 (S.map srow)
  set : Sq H v 2 (l.map prow)
  k0 : k ≠ 0
  sx : ∀ c ∈ blkS X, c ≠ 0 ∧ c ≠ k
  sv : ∀ c ∈ blkS v, c ≠ 0 ∧ c ≠ k ∧ c ∉ blkS X
variable {n : Int} {l : List Pr} {k : Nat} {X v : IV} {S : List Sm}
theorem His.app (h : His H n l k X v S) (Y : Hp) : His (H ++ Y) n l k X v S :=
  ⟨by rw [List.getElem?_append_left (List.getElem?_eq_some_iff.1 h.h).1]; exact h.h, by rw [List.getElem?_append_left (List.getElem?_eq_some_iff.1 h.row).1]; exact h.row, h.smp.app Y, h.set.app Y, h.k0, h.sx, h.sv⟩
/-- Elsewhere something is written. -/
theorem His.put (h : His H n l k X v S) {b : Nat} {B : Bk} (h0 : b ≠ 0) (hk : b ≠ k) (hx : b ∉ blkS X) (hv : b ∉ blkS v) : His (H.set b B) n l k X v S :=
  ⟨by rw [List.getElem?_set_ne h0]; exact h.h, by rw [List.getElem?_set_ne hk]; exact h.row, h.smp.fr fun c hc => List.getElem?_set_ne fun e => hx (by rw [e]; exact hc), h.set.set hv, h.k0, h.sx, h.sv⟩

def tail7 : Cd := tl (tl (tl (tl (tl (tl (tl fn9.cd))))))

theorem add_tail {K : Hp} (hK : His K n l k X v S) {x : Sm} {b : Nat} (hb : K[b]? = some { rows := [srow x] }) (b0 : b ≠ 0) (bk : b ≠ k) (bx : b ∉ blkS X) (bv : b ∉ blkS v) (hl : S.length ≤ 1000) {E : Env} (e0 : get E 0 = .ptr 0 0 0 0) (e5 : get E 5 = .ptr b 0 0 0) (e7 : get E 7 = .int .i64 0) :
    ∃ F X', finO [.t 6] (runW pg 0 tail7 E K) = some (.int .i64 0, F) ∧ His F n l k X' v (S ++ [nrm x]) ∧ K.length ≤ F.length ∧ (∀ c ∈ blkS X', c ∈ blkS X ∨ K.length ≤ c) ∧ ∀ c, c < K.length → c ≠ k → c ≠ b → c ∉ blkS X → F[c]? = K[c]? := by
  have hblt : b < K.length := (List.getElem?_eq_some_iff.1 hb).1
  -- the value, as it is kept
  obtain ⟨K8, E8, t8, hK8, hb8, y0, y5, y7, hl8, hf8⟩ : ∃ (K8 : Hp) (E8 : Env), runW pg 0 (hd tail7) E K = some (.nrm, E8, K8) ∧ His K8 n l k X v S ∧ K8[b]? = some { rows := [srow (nrm x)] } ∧ get E8 0 = .ptr 0 0 0 0 ∧ get E8 5 = .ptr b 0 0 0 ∧ get E8 7 = .int .i64 0 ∧ K8.length = K.length ∧ ∀ c, c ≠ b → K8[c]? = K[c]? := by
    obtain ⟨xt, xo, xn⟩ := x
    by_cases hc : xo = true ∨ xn = -9223372036854775808
    · have en : nrm ⟨xt, xo, xn⟩ = ⟨xt, true, 0⟩ := by unfold nrm; rw [if_pos hc]
      refine ⟨K.set b { rows := [[.int .i64 xt, .bool true, .int .i64 0]] }, [(0, .ptr 0 0 0 0), (5, .ptr b 0 0 0), (7, .int .i64 0)], ?_, hK.put b0 bk bx bv, by rw [en, List.getElem?_set_self hblt]; rfl, rfl, rfl, rfl, by simp, fun c hc => List.getElem?_set_ne (Ne.symm hc)⟩
      unfold srow at hb
      cases xo
      · have h2 : xn = -9223372036854775808 := by simpa using hc
        subst h2
        simp [-getElem?_pos, tail7, fn9, hd, tl, blkAt_eq, e0, e5, e7, hb, wbl]
      · simp [-getElem?_pos, tail7, fn9, hd, tl, blkAt_eq, e0, e5, e7, hb, wbl]
    · have en : nrm ⟨xt, xo, xn⟩ = ⟨xt, xo, xn⟩ := by unfold nrm; rw [if_neg hc]
      have h1 : xo = false := by
        cases xo
        · rfl
        · exact absurd (.inl rfl) hc
      have h2 : ¬ xn = -9223372036854775808 := fun h => hc (.inr h)
      subst h1
      refine ⟨K, [(0, .ptr 0 0 0 0), (5, .ptr b 0 0 0), (7, .int .i64 0), (128, .bool false)], ?_, hK, by rw [en]; exact hb, rfl, rfl, rfl, rfl, fun _ _ => rfl⟩
      unfold srow at hb
      simp [-getElem?_pos, tail7, fn9, hd, tl, blkAt_eq, e0, e5, e7, hb, h2]
  obtain ⟨y, hy⟩ : ∃ y, y = nrm x := ⟨_, rfl⟩
  rw [← hy] at hb8 ⊢
  have hr : rowsOf (K8 ++ [({ rows := [srow y] } : Bk)]) (.arr K8.length 0 0 1 1 true) = some [srow y] := by simp [rowsOf, blkAt_eq]
  have hKa := hK8.app [({ rows := [srow y] } : Bk)]
  obtain ⟨X', G, a1, a2, a3, a4, a5⟩ := hKa.smp.push (ro := 0) (fun _ _ => Nat.zero_le _) hr rfl (bytes := 24) (by simp only [room, List.length_map]; omega)
  have kl : k < (K8 ++ [({ rows := [srow y] } : Bk)]).length := (List.getElem?_eq_some_iff.1 hKa.row).1
  have zl : 0 < (K8 ++ [({ rows := [srow y] } : Bk)]).length := (List.getElem?_eq_some_iff.1 hKa.h).1
  have gk : G[k]? = some { rows := [[X, v]] } := by rw [a5 k kl fun h => (hK8.sx k h).2 rfl]; exact hKa.row
  have g0 : G[0]? = some { rows := [[.int .i64 n, .arr k 0 0 1 1 false]] } := by rw [a5 0 zl fun h => (hK8.sx 0 h).1 rfl]; exact hKa.h
  have hXk : k ∉ blkS X' := fun h => by
    rcases a3 k h with h | h
    · exact (hK8.sx k h).2 rfl
    · omega
  have hX0 : 0 ∉ blkS X' := fun h => by
    rcases a3 0 h with h | h
    · exact (hK8.sx 0 h).1 rfl
    · omega
  have hvlt := hKa.set.lt
  refine ⟨G.set k { rows := [[X', v]] }, X', ?_, ⟨?_, ?_, ?_, ?_, hK8.k0, fun c hc => ⟨fun e => hX0 (by rw [← e]; exact hc), fun e => hXk (by rw [← e]; exact hc)⟩, fun c hc => ⟨(hK8.sv c hc).1, (hK8.sv c hc).2.1, fun h => ?_⟩⟩, ?_, fun c hc => ?_, fun c h1 h2 h3 h4 => ?_⟩
  · have e : tail7 = .seq (hd tail7) (tl tail7) := rfl
    have hcx : cellsO X' = some [X'] := a2.sq.cells
    have hp0 : 0 < K8.length := (List.getElem?_eq_some_iff.1 hK8.h).1
    have hpk : k < K8.length := (List.getElem?_eq_some_iff.1 hK8.row).1
    have h0 := hK8.h
    have hk := hK8.row
    unfold srow at hb8 a1
    rw [e, runW_seqO, t8, seqO_nrm]
    simp [-getElem?_pos, tail7, fn9, tl, blkAt_eq, y0, y5, y7, h0, hb8, hk, hp0, List.getElem?_append_left hp0, List.getElem?_append_left hpk, Vs.idx, a1, g0, gk, hcx, wbl]
    done
  · rw [List.getElem?_set_ne hK8.k0]; exact g0
  · rw [List.getElem?_set_self (by omega)]
  · rw [List.map_append]
    exact a2.fr fun c hc => List.getElem?_set_ne fun e => hXk (by rw [e]; exact hc)
  · refine Sq.set (hKa.set.fr fun c hc => a5 c (hvlt c hc) (hK8.sv c hc).2.2) fun h => (hK8.sv k h).2.1 rfl
  · rcases a3 c h with h2 | h2
    · exact (hK8.sv c hc).2.2 h2
    · have := hvlt c hc; omega
  · rw [List.length_set]; simp at a4; omega
  · rcases a3 c hc with h2 | h2
    · exact .inl h2
    · right; rw [h2]; simp; omega
  · rw [List.getElem?_set_ne (Ne.symm h2), a5 c (by simp; omega) h4, List.getElem?_append_left (by omega), hf8 c h3]
end Go.Proofs.YtnfddeiegbifhaaDoor
