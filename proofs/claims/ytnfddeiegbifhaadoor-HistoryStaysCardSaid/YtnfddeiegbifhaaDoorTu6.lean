import Derived.Test.YtnfddeiegbifhaaDoorTu5
/- Sets' places. -/
namespace Go.Proofs.YtnfddeiegbifhaaDoor
open Go Go.Vs
variable {ro : Nat} {H : Hp}

theorem fc_2 {A Ci : IV} {R : List (List IV)} {f : Bool} {l : List Pr} (hC : SlA Ci 2 (l.map prow)) (hA : SlA A 2 (l.map prow)) (hl : l.length ≤ 9223372036854775807) :
    doCall (callW pg) ro 2 (.fn 48 []) [.agg [.imm R f, Ci], A] H = some (.int .i64 0, H) := by
  have hfa : frzArg H (.agg [.imm R f, Ci]) = .agg [.imm R f, Ci] := by
    rcases hC.imm with ⟨rfl, _⟩ | ⟨g, rfl⟩ <;> rfl
  have hok : cellOk Ci = true := by
    rcases hC.imm with ⟨rfl, _⟩ | ⟨g, rfl⟩ <;> rfl
  have hb : ∃ H', callW pg H.length 48 [.agg [.imm R f, Ci], A] H = some (.int .i64 0, H') := by
    have hc := fun ro X => cmp_2 (ro := ro) (H := X) (A := Ci) (B := A) (l := l) (m := l) (by rw [SlA.self hC]; exact hC) (by rw [SlA.self hA]; exact hA) hl
    have h0 : cmpS l l = 0 := lex_self cmpPr_3 l
    rw [h0] at hc
    refine ⟨H ++ [{ rows := [[.imm R f, Ci]] }], ?_⟩
    rw [callW_eqO (fn := fn48) rfl rfl]
    simp [-getElem?_pos, fn48, hc, blkAt_eq, hok]
  obtain ⟨H', hb⟩ := hb
  exact call2 (args' := [.agg [.imm R f, Ci], A]) (by simp [hfa, SlA.self hA]) hb rfl (.inl rfl)

theorem fb0_2 {A : IV} {l : List Pr} (hA : SlA A 2 (l.map prow)) : doCall (callW pg) ro 2 (.fn 47 []) [.nsl, A, .fn 48 []] H = some (.tup [.int .i64 0, .bool false], H) := by
  have L : ∀ e H ro, runW pg ro fn47L0 e H = seqO pg ro fn47L0 (runW pg ro fn47B0 (keepE [0, 1, 2, 8, 9, 10] e) H) := fun e H ro => runW_loopO
  refine call2 (H2 := H) (args' := [.nsl, A, .fn 48 []]) (by
    have h1 : frzArg H .nsl = .nsl := rfl
    have h2 : frzArg H (.fn 48 []) = .fn 48 [] := rfl
    simp [h1, h2, SlA.self hA]) ?_ rfl (.inl rfl)
  rw [callW_eqO (fn := fn47) rfl rfl]
  simp [-getElem?_pos, fn47, L, fn47B0]

theorem fb1_2 {A Ci X : IV} {R : List (List IV)} {f g : Bool} {l : List Pr} (hX : frzArg H X = .imm [[.imm R f, Ci]] g) (hC : SlA Ci 2 (l.map prow)) (hA : SlA A 2 (l.map prow)) (hl : l.length ≤ 9223372036854775807) :
    doCall (callW pg) ro 2 (.fn 47 []) [X, A, .fn 48 []] H = some (.tup [.int .i64 0, .bool true], H) := by
  have L : ∀ e H ro, runW pg ro fn47L0 e H = seqO pg ro fn47L0 (runW pg ro fn47B0 (keepE [0, 1, 2, 8, 9, 10] e) H) := fun e H ro => runW_loopO
  have hc := fun ro => fc_2 (ro := ro) (H := H) (R := R) (f := f) hC hA hl
  have hok : cellOk Ci = true := by
    rcases hC.imm with ⟨rfl, _⟩ | ⟨g, rfl⟩ <;> rfl
  have hs : binV .shr (.int .u64 1) (.int .u64 1) = some (.int .u64 0) := by rfl
  refine call2 (H2 := H) (args' := [.imm [[.imm R f, Ci]] g, A, .fn 48 []]) (by
    have h2 : frzArg H (.fn 48 []) = .fn 48 [] := rfl
    simp [hX, h2, SlA.self hA]) ?_ rfl (.inl rfl)
  rw [callW_eqO (fn := fn47) rfl rfl]
  simp [-getElem?_pos, fn47, L, fn47B0, w01, w00, wu1, hs, hc, Vs.idx]

theorem find0_2 {A : IV} {l : List Pr} {b g : Nat} {B : Bk} {n : Int} (hB : H[b]? = some B) (hg : B.gen = g) (hr : B.rows = [[.int .i64 n, .nsl]]) (hA : SlA A 2 (l.map prow)) : doCall (callW pg) ro 2 (.fn 22 []) [.ptr b g 0 0, A] H = some (.tup [.int .i64 0, .bool false], H) := by
  have hf := fun ro => fb0_2 (ro := ro) (H := H) hA
  refine call2 (H2 := H) (args' := [.ptr b g 0 0, A]) (by
    have h1 : frzArg H (.ptr b g 0 0) = .ptr b g 0 0 := rfl
    simp [h1, SlA.self hA]) ?_ rfl (.inl rfl)
  rw [callW_eqO (fn := fn22) rfl rfl]
  simp [-getElem?_pos, fn22, blkAt_eq, hB, hg, hr, hf]

theorem find1_2 {A Ci X : IV} {l : List Pr} {b g : Nat} {B : Bk} {n : Int} {R : List (List IV)} {f g' : Bool} (hB : H[b]? = some B) (hg : B.gen = g) (hr : B.rows = [[.int .i64 n, X]]) (hX : frzArg H X = .imm [[.imm R f, Ci]] g') (hC : SlA Ci 2 (l.map prow)) (hA : SlA A 2 (l.map prow)) (hl : l.length ≤ 9223372036854775807) :
    doCall (callW pg) ro 2 (.fn 22 []) [.ptr b g 0 0, A] H = some (.tup [.int .i64 0, .bool true], H) := by
  have hf := fun ro => fb1_2 (ro := ro) hX hC hA hl
  refine call2 (H2 := H) (args' := [.ptr b g 0 0, A]) (by
    have h1 : frzArg H (.ptr b g 0 0) = .ptr b g 0 0 := rfl
    simp [h1, SlA.self hA]) ?_ rfl (.inl rfl)
  rw [callW_eqO (fn := fn22) rfl rfl]
  simp [-getElem?_pos, fn22, blkAt_eq, hB, hg, hr, hf]
end Go.Proofs.YtnfddeiegbifhaaDoor
