/- A law's call: from the ideal machine to the row. -/
import Derived.Test.YtinmpfflkcnkfaaVsSym
namespace Go.Vs
open Go Go.RowKit

theorem prOk (P : Program) : PrOk P := by
  refine ⟨fun f fn p hf hn ho hb => ?_⟩
  have h2 : Extern.allNextRows.lookup "" = none := by kernel_rfl
  rcases prOf_name hn with ⟨rfl, hm⟩ | ⟨rfl, hm⟩ | ⟨rfl, hm⟩ | ⟨rfl, hm⟩
  · have h1 : Extern.allNextRows.lookup "math/bits.Add64" = none := by kernel_rfl
    have h3 : Extern.allGenericRows.lookup "math/bits.Add64" = none := by kernel_rfl
    have h4 : Extern.allTypedRows.lookup "math/bits.Add64" = none := by kernel_rfl
    have h5 : Extern.allRows.lookup "math/bits.Add64" = some add64Entry := by kernel_rfl
    constructor
    · simp only [Extern.findNext, hm, ho, h1, h2]; rfl
    · simp only [Extern.find, hm, h3, h4, h5]; rfl
  · have h1 : Extern.allNextRows.lookup "internal/bytealg.IndexByteString" = none := by kernel_rfl
    have h3 : Extern.allGenericRows.lookup "internal/bytealg.IndexByteString" = none := by kernel_rfl
    have h4 : Extern.allTypedRows.lookup "internal/bytealg.IndexByteString" = none := by kernel_rfl
    have h5 : Extern.allRows.lookup "internal/bytealg.IndexByteString" = some Extern.BytealgIndexByte.indexByte := by kernel_rfl
    constructor
    · simp only [Extern.findNext, hm, ho, h1, h2]; rfl
    · simp only [Extern.find, hm, h3, h4, h5]; rfl
  · have h1 : Extern.allNextRows.lookup "internal/bytealg.abigen_runtime_cmpstring" = none := by kernel_rfl
    have h3 : Extern.allGenericRows.lookup "internal/bytealg.abigen_runtime_cmpstring" = none := by kernel_rfl
    have h4 : Extern.allTypedRows.lookup "internal/bytealg.abigen_runtime_cmpstring" = none := by kernel_rfl
    have h5 : Extern.allRows.lookup "internal/bytealg.abigen_runtime_cmpstring" = some Extern.BytealgCompare.compare := by kernel_rfl
    constructor
    · simp only [Extern.findNext, hm, ho, h1, h2]; rfl
    · simp only [Extern.find, hm, h3, h4, h5]; rfl
  · have h1 : Extern.allNextRows.lookup "internal/abi.NoEscape" = none := by kernel_rfl
    have h3 : Extern.allGenericRows.lookup "internal/abi.NoEscape" = none := by kernel_rfl
    have h4 : Extern.allTypedRows.lookup "internal/abi.NoEscape" = none := by kernel_rfl
    have h5 : Extern.allRows.lookup "internal/abi.NoEscape" = some Extern.AbiNoEscape.same := by kernel_rfl
    constructor
    · simp only [Extern.findNext, hm, ho, h1, h2]; rfl
    · simp only [Extern.find, hm, h3, h4, h5]; rfl

/-- Before a law's call: no blocks; each cell is claimed. -/
def K0 (W : World) : Kp := ⟨fun _ => none, fun b i => (W.cell? (ad b i)).bind fun v => if v.oneCell' = true then some v else none⟩

theorem K0_at {W : World} {b i : Nat} {v : Value} (h : W.cell? (ad b i) = some v) (h1 : v.oneCell' = true) : (K0 W).κ b i = some v := by
  simp [K0, h, h1]

theorem K0_rel (W : World) : Rel (K0 W) 0 [] W := by
  refine ⟨fun b L h => (by cases h), fun b b' L L' h => (by cases h), fun b i v h => ?_, fun b L B h => (by cases h), Nat.le_refl _⟩
  simp only [K0, Option.bind_eq_some_iff] at h
  obtain ⟨u, hu, h⟩ := h
  split at h
  · cases h; exact ⟨hu, by assumption⟩
  · cases h

theorem law_calls {P : Program} (hm : P.follows .mixedOrders = true) {pg : Pg} (hpg : PgOk P pg) {f : Nat} {args : List IV} {H' : Hp} (h : callW pg 0 f args [] = some (.bool true, H')) {W : World} {vs : Array Value} (ha : ArgsOk (K0 W) args vs) :
    Calls P f vs W fun e W' => e = .returned (.bool true) ∧ Below W.heap.size W W' := by
  obtain ⟨_, _, hc⟩ := callW_ok hm (prOk P) hpg _ _ _ _ _ _ h
  refine Calls.mono (hc (K0 W) W vs (K0_rel W) ha) fun e W' he => ?_
  obtain ⟨v, rfl, K', _, _, hv, hF⟩ := he
  have e := hv.bool_inv
  subst e
  exact ⟨rfl, ⟨hF.bel.os, hF.bel.tape, hF.bel.output, hF.bel.size, fun k hk => hF.keep k hk fun b L _ hL => (by cases hL)⟩⟩

/-- A closed call, worked out. -/
theorem callW_of {pg : Pg} {ro f n : Nat} {args : List IV} {H : Hp} {x : IV} (h : (callN pg n ro f args H).map (·.1) = some x) : ∃ H', callW pg ro f args H = some (x, H') := by
  obtain ⟨⟨y, H'⟩, h1, h2⟩ := Option.map_eq_some_iff.1 h
  cases h2
  exact ⟨H', callW_iff.2 ⟨n, h1⟩⟩

end Go.Vs
