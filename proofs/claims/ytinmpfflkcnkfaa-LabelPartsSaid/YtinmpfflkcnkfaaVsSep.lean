/- Objects that lie apart in the heap: what a call changes, and what it leaves. -/
import Derived.Test.YtinmpfflkcnkfaaVsLaw
namespace Go.Vs
open Go

/-- A call changed at most the blocks F; what it holds now are F' of which the new ones are new. -/
structure Stp (H H' : Hp) (F F' : List Nat) : Prop where
  len : H.length ≤ H'.length
  same : ∀ b, b < H.length → b ∉ F → H'[b]? = H[b]?
  new : ∀ b, b ∈ F' → b ∈ F ∨ H.length ≤ b

theorem Stp.refl {H : Hp} {F : List Nat} : Stp H H F F := ⟨Nat.le_refl _, fun _ _ _ => rfl, fun _ h => .inl h⟩
theorem Stp.trans {H H1 H2 : Hp} {F F1 F2 : List Nat} (h1 : Stp H H1 F F1) (h2 : Stp H1 H2 F1 F2) : Stp H H2 F F2 := by
  refine ⟨Nat.le_trans h1.len h2.len, fun b hb hF => ?_, fun b hb => ?_⟩
  · rw [h2.same b (Nat.lt_of_lt_of_le hb h1.len) (fun h => ?_), h1.same b hb hF]
    rcases h1.new b h with h | h
    · exact hF h
    · omega
  · rcases h2.new b hb with h | h
    · exact h1.new b h
    · exact .inr (Nat.le_trans h1.len h)
theorem Stp.app {H Y : Hp} {F : List Nat} : Stp H (H ++ Y) F F := ⟨by simp, fun _ hb _ => List.getElem?_append_left hb, fun _ h => .inl h⟩

/-- What is so of some blocks, whatever the others are. -/
structure Asn where
  p : Hp → List Nat → Prop
  lt : ∀ {H F}, p H F → ∀ b ∈ F, b < H.length
  fr : ∀ {H H' F}, p H F → (∀ b ∈ F, H'[b]? = H[b]?) → p H' F

def Asn.star (A B : Asn) : Asn where
  p H F := ∃ F1 F2, F = F1 ++ F2 ∧ A.p H F1 ∧ B.p H F2 ∧ ∀ b ∈ F1, b ∉ F2
  lt := by
    rintro H F ⟨F1, F2, rfl, h1, h2, _⟩ b hb
    rcases List.mem_append.1 hb with h | h
    · exact A.lt h1 b h
    · exact B.lt h2 b h
  fr := by
    rintro H H' F ⟨F1, F2, rfl, h1, h2, h3⟩ h
    exact ⟨F1, F2, rfl, A.fr h1 fun b hb => h b (List.mem_append_left _ hb), B.fr h2 fun b hb => h b (List.mem_append_right _ hb), h3⟩

/-- It is so of the heap. -/
def Hold (H : Hp) (A : Asn) : Prop := ∃ F, A.p H F

theorem Asn.app {A : Asn} {H : Hp} {F : List Nat} (h : A.p H F) (Y : Hp) : A.p (H ++ Y) F := A.fr h fun b hb => List.getElem?_append_left (A.lt h b hb)
theorem Hold.app {A : Asn} {H : Hp} (h : Hold H A) (Y : Hp) : Hold (H ++ Y) A := let ⟨F, h⟩ := h; ⟨F, A.app h Y⟩
theorem Hold.comm {A B : Asn} {H : Hp} (h : Hold H (A.star B)) : Hold H (B.star A) := by
  obtain ⟨F, F1, F2, rfl, h1, h2, h3⟩ := h
  exact ⟨F2 ++ F1, F2, F1, rfl, h2, h1, fun b hb hb' => h3 b hb' hb⟩
theorem Hold.assoc {A B C : Asn} {H : Hp} (h : Hold H ((A.star B).star C)) : Hold H (A.star (B.star C)) := by
  obtain ⟨F, F1, F2, rfl, ⟨F3, F4, rfl, h1, h2, h3⟩, h4, h5⟩ := h
  exact ⟨_, F3, F4 ++ F2, rfl, h1, ⟨F4, F2, rfl, h2, h4, fun b hb => h5 b (List.mem_append_right _ hb)⟩, fun b hb hb' => by
    rcases List.mem_append.1 hb' with h | h
    · exact h3 b hb h
    · exact h5 b (List.mem_append_left _ hb) h⟩
theorem Hold.rot {A B C : Asn} {H : Hp} (h : Hold H (A.star (B.star C))) : Hold H (B.star (C.star A)) := h.comm.assoc
theorem Hold.fst {A B : Asn} {H : Hp} (h : Hold H (A.star B)) : Hold H A := let ⟨_, _, _, _, h1, _⟩ := h; ⟨_, h1⟩
theorem Hold.snd {A B : Asn} {H : Hp} (h : Hold H (A.star B)) : Hold H B := let ⟨_, _, _, _, _, h2, _⟩ := h; ⟨_, h2⟩

/-- What a call does: it tells r and leaves A' where A was. -/
def Trip (A : Asn) (c : Hp → Option (IV × Hp)) (r : IV) (A' : Asn) : Prop := ∀ H F, A.p H F → ∃ H' F', c H = some (r, H') ∧ A'.p H' F' ∧ Stp H H' F F'

theorem Trip.frame {A A' B : Asn} {c : Hp → Option (IV × Hp)} {r : IV} (h : Trip A c r A') : Trip (A.star B) c r (A'.star B) := by
  rintro H F ⟨F1, F2, rfl, h1, h2, h3⟩
  obtain ⟨H', F', hc, hA, hs⟩ := h H F1 h1
  refine ⟨H', F' ++ F2, hc, ⟨F', F2, rfl, hA, B.fr h2 fun b hb => hs.same b (B.lt h2 b hb) (fun h => h3 b h hb), fun b hb hb2 => ?_⟩, ⟨hs.len, fun b hb hF => hs.same b hb fun h => hF (List.mem_append_left _ h), fun b hb => ?_⟩⟩
  · rcases hs.new b hb with h | h
    · exact h3 b h hb2
    · have := B.lt h2 b hb2; omega
  · rcases List.mem_append.1 hb with h | h
    · rcases hs.new b h with h | h
      · exact .inl (List.mem_append_left _ h)
      · exact .inr h
    · exact .inl (List.mem_append_right _ h)

/-- A call behind new cells: these stay as they are. -/
theorem Trip.use {A A' : Asn} {c : Hp → Option (IV × Hp)} {r : IV} (h : Trip A c r A') {H : Hp} (hA : Hold H A) (Y : Hp) :
    ∃ H', c (H ++ Y) = some (r, H') ∧ Hold H' A' ∧ H.length + Y.length ≤ H'.length ∧ ∀ i, i < Y.length → H'[H.length + i]? = Y[i]? := by
  obtain ⟨F, hA⟩ := hA
  obtain ⟨H', F', hc, hA', hs⟩ := h _ F (A.app hA Y)
  refine ⟨H', hc, ⟨F', hA'⟩, by have := hs.len; simpa using this, fun i hi => ?_⟩
  rw [hs.same _ (by simpa using hi) (fun h => by have := A.lt hA _ h; omega), List.getElem?_append_right (by omega)]
  congr 1; omega

theorem Trip.use0 {A A' : Asn} {c : Hp → Option (IV × Hp)} {r : IV} (h : Trip A c r A') {H : Hp} (hA : Hold H A) :
    ∃ H', c H = some (r, H') ∧ Hold H' A' := by
  obtain ⟨H', h1, h2, _⟩ := h.use hA []
  exact ⟨H', by simpa using h1, h2⟩

/-- A new object beside those there are. -/
theorem Hold.new {A B : Asn} {H Y : Hp} (hA : Hold H A) (hB : ∃ F, B.p (H ++ Y) F ∧ ∀ b ∈ F, H.length ≤ b) : Hold (H ++ Y) (A.star B) := by
  obtain ⟨F, hA⟩ := hA
  obtain ⟨G, hB, hG⟩ := hB
  exact ⟨F ++ G, F, G, rfl, A.app hA Y, hB, fun b hb hb' => by have := A.lt hA b hb; have := hG b hb'; omega⟩

theorem Asn.assoc {A B C : Asn} {H : Hp} {F : List Nat} (h : ((A.star B).star C).p H F) : (A.star (B.star C)).p H F := by
  obtain ⟨F1, F2, rfl, ⟨F3, F4, rfl, h1, h2, h3⟩, h4, h5⟩ := h
  exact ⟨F3, F4 ++ F2, by simp, h1, ⟨F4, F2, rfl, h2, h4, fun b hb => h5 b (List.mem_append_right _ hb)⟩, fun b hb hb' => by
    rcases List.mem_append.1 hb' with h | h
    · exact h3 b hb h
    · exact h5 b (List.mem_append_left _ hb) h⟩
theorem Hold.imp_r {A B B' : Asn} {H : Hp} (h : Hold H (A.star B)) (hi : ∀ {F}, B.p H F → B'.p H F) : Hold H (A.star B') := by
  obtain ⟨F, F1, F2, rfl, h1, h2, h3⟩ := h
  exact ⟨_, F1, F2, rfl, h1, hi h2, h3⟩
theorem Hold.rot4 {A B C D : Asn} {H : Hp} (h : Hold H (A.star (B.star (C.star D)))) : Hold H (B.star (C.star (D.star A))) := h.comm.assoc.imp_r Asn.assoc
theorem Hold.imp_r2 {A B C C' : Asn} {H : Hp} (h : Hold H (A.star (B.star C))) (hi : ∀ {F}, C.p H F → C'.p H F) : Hold H (A.star (B.star C')) := by
  refine h.imp_r ?_
  rintro F ⟨F1, F2, rfl, h1, h2, h3⟩
  exact ⟨F1, F2, rfl, h1, hi h2, h3⟩
theorem Hold.rot5 {A B C D E : Asn} {H : Hp} (h : Hold H (A.star (B.star (C.star (D.star E))))) : Hold H (B.star (C.star (D.star (E.star A)))) :=
  (h.comm.assoc.imp_r Asn.assoc).imp_r2 Asn.assoc

/-- A cell, or a block, that stays as it is. -/
def cell (C : Nat) (B : Bk) : Asn where
  p H F := F = [C] ∧ H[C]? = some B
  lt := by rintro H F ⟨rfl, h⟩ b hb; simp at hb; subst hb; exact (List.getElem?_eq_some_iff.1 h).1
  fr := by rintro H H' F ⟨rfl, h⟩ hf; exact ⟨rfl, by rw [hf C (by simp)]; exact h⟩
theorem Hold.cell {C : Nat} {B : Bk} {H : Hp} (h : Hold H (cell C B)) : H[C]? = some B := let ⟨_, _, h⟩ := h; h
theorem Hold.newCell {A : Asn} {H : Hp} {B : Bk} (h : Hold H A) : Hold (H ++ [B]) (A.star (Vs.cell H.length B)) :=
  h.new ⟨[H.length], ⟨rfl, by simp⟩, by simp⟩

end Go.Vs
