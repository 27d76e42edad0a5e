import Derived.Test.YtnfddeiegbifhaaDoorVsLaw
import Derived.ChangeSlices
import Derived.SizedLaws
/- Objects that lie apart in the heap: what a call changes, and what it leaves. -/
namespace Go.Vs
open Go

/-- A call changed at most the blocks F; what it holds now are F' of which the new ones are new. -/
structure Stp (H H' : Hp) (F F' : List Nat) : Prop where
  len : H.length ≤ H'.length
  same : ∀ b, b < H.length → b ∉ F → H'[b]? = H[b]?
  new : ∀ b, b ∈ F' → b ∈ F ∨ H.length ≤ b

theorem Stp.refl {H : Hp} {F : List Nat} : Stp H H F F := ⟨Nat.le_refl _, fun _ _ _ => rfl, fun _ h => .inl h⟩
theorem Stp.trans {H H1 H2 : Hp} {F F1 F2 : List Nat} (h1 : Stp H H1 F F1) (h2 : Stp H1 H2 F1 F2) : Stp H H2 F F2 := by
  refine ⟨Nat.le_trans h1.len h2.len, fun b hb hF => ?_, fun b hb => ?_⟩
  · rw [h2.same b (Nat.lt_of_lt_of_le hb h1.len) (fun h => ?_), h1.same b hb hF]
    rcases h1.new b h with h | h
    · exact hF h
    · omega
  · rcases h2.new b hb with h | h
    · exact h1.new b h
    · exact .inr (Nat.le_trans h1.len h)
theorem Stp.app {H Y : Hp} {F : List Nat} : Stp H (H ++ Y) F F := ⟨by simp, fun _ hb _ => List.getElem?_append_left hb, fun _ h => .inl h⟩

/-- What is so of some blocks, whatever the others are. -/
structure Asn where
  p : Hp → List Nat → Prop
  lt : ∀ {H F}, p H F → ∀ b ∈ F, b < H.length
  fr : ∀ {H H' F}, p H F → (∀ b ∈ F, H'[b]? = H[b]?) → p H' F

def Asn.star (A B : Asn) : Asn where
  p H F := ∃ F1 F2, F = F1 ++ F2 ∧ A.p H F1 ∧ B.p H F2 ∧ ∀ b ∈ F1, b ∉ F2
  lt := by
    rintro H F ⟨F1, F2, rfl, h1, h2, _⟩ b hb
    rcases List.mem_append.1 hb with h | h
    · exact A.lt h1 b h
    · exact B.lt h2 b h
  fr := by
    rintro H H' F ⟨F1, F2, rfl, h1, h2, h3⟩ h
    exact ⟨F1, F2, rfl, A.fr h1 fun b hb => h b (List.mem_append_left _ hb), B.fr h2 fun b hb => h b (List.mem_append_right _ hb), h3⟩

/-- It is so of the heap. -/
def Hold (H : Hp) (A : Asn) : Prop := ∃ F, A.p H F

theorem Asn.app {A : Asn} {H : Hp} {F : List Nat} (h : A.p H F) (Y : Hp) : A.p (H ++ Y) F := A.fr h fun b hb => List.getElem?_append_left (A.lt h b hb)
theorem Hold.app {A : Asn} {H : Hp} (h : Hold H A) (Y : Hp) : Hold (H ++ Y) A := let ⟨F, h⟩ := h; ⟨F, A.app h Y⟩
theorem Hold.comm {A B : Asn} {H : Hp} (h : Hold H (A.star B)) : Hold H (B.star A) := by
  obtain ⟨F, F1, F2, rfl, h1, h2, h3⟩ := h
  exact ⟨F2 ++ F1, F2, F1, rfl, h2, h1, fun b hb hb' => h3 b hb' hb⟩
theorem Hold.assoc {A B C : Asn} {H : Hp} (h : Hold H ((A.star B).star C)) : Hold H (A.star (B.star C)) := by
  obtain ⟨F, F1, F2, rfl, ⟨F3, F4, rfl, h1, h2, h3⟩, h4, h5⟩ := h
  exact ⟨_, F3, F4 ++ F2, rfl, h1, ⟨F4, F2, rfl, h2, h4, fun b hb => h5 b (List.mem_append_right _ hb)⟩, fun b hb hb' => by
    rcases List.mem_append.1 hb' with h | h
    · exact h3 b hb h
    · exact h5 b (List.mem_append_left _ hb) h⟩
theorem Hold.rot {A B C : Asn} {H : Hp} (h : Hold H (A.star (B.star C))) : Hold H (B.star (C.star A)) := h.comm.assoc
theorem Hold.fst {A B : Asn} {H : Hp} (h : Hold H (A.star B)) : Hold H A := let ⟨_, _, _, _, h1, _⟩ := h; ⟨_, h1⟩
theorem Hold.snd {A B : Asn} {H : Hp} (h : Hold H (A.star B)) : Hold H B := let ⟨_, _, _, _, _, h2, _⟩ := h; ⟨_, h2⟩

/-- What a call does: it tells r and leaves A' where A was. -/
def Trip (A : Asn) (c : Hp → Option (IV × Hp)) (r : IV) (A' : Asn) : Prop := ∀ H F, A.p H F → ∃ H' F', c H = some (r, H') ∧ A'.p H' F' ∧ Stp H H' F F'

theorem Trip.frame {A A' B : Asn} {c : Hp → Option (IV × Hp)} {r : IV} (h : Trip A c r A') : Trip (A.star B) c r (A'.star B) := by
  rintro H F ⟨F1, F2, rfl, h1, h2, h3⟩
  obtain ⟨H', F', hc, hA, hs⟩ := h H F1 h1
  refine ⟨H', F' ++ F2, hc, ⟨F', F2, rfl, hA, B.fr h2 fun b hb => hs.same b (B.lt h2 b hb) (fun h => h3 b h hb), fun b hb hb2 => ?_⟩, ⟨hs.len, fun b hb hF => hs.same b hb fun h => hF (List.mem_append_left _ h), fun b hb => ?_⟩⟩
  · rcases hs.new b hb with h | h
    · exact h3 b h hb2
    · have := B.lt h2 b hb2; omega
  · rcases List.mem_append.1 hb with h | h
    · rcases hs.new b h with h | h
      · exact .inl (List.mem_append_left _ h)
      · exact .inr h
    · exact .inl (List.mem_append_right _ h)

/-- A call behind new cells: these stay as they are. -/
theorem Trip.use {A A' : Asn} {c : Hp → Option (IV × Hp)} {r : IV} (h : Trip A c r A') {H : Hp} (hA : Hold H A) (Y : Hp) :
    ∃ H', c (H ++ Y) = some (r, H') ∧ Hold H' A' ∧ H.length + Y.length ≤ H'.length ∧ ∀ i, i < Y.length → H'[H.length + i]? = Y[i]? := by
  obtain ⟨F, hA⟩ := hA
  obtain ⟨H', F', hc, hA', hs⟩ := h _ F (A.app hA Y)
  refine ⟨H', hc, ⟨F', hA'⟩, by have := hs.len; simpa using this, fun i hi => ?_⟩
  rw [hs.same _ (by simpa using hi) (fun h => by have := A.lt hA _ h; omega), List.getElem?_append_right (by omega)]
  congr 1; omega

theorem Trip.use0 {A A' : Asn} {c : Hp → Option (IV × Hp)} {r : IV} (h : Trip A c r A') {H : Hp} (hA : Hold H A) :
    ∃ H', c H = some (r, H') ∧ Hold H' A' := by
  obtain ⟨H', h1, h2, _⟩ := h.use hA []
  exact ⟨H', by simpa using h1, h2⟩

/-- A new object beside those there are. -/
theorem Hold.new {A B : Asn} {H Y : Hp} (hA : Hold H A) (hB : ∃ F, B.p (H ++ Y) F ∧ ∀ b ∈ F, H.length ≤ b) : Hold (H ++ Y) (A.star B) := by
  obtain ⟨F, hA⟩ := hA
  obtain ⟨G, hB, hG⟩ := hB
  exact ⟨F ++ G, F, G, rfl, A.app hA Y, hB, fun b hb hb' => by have := A.lt hA b hb; have := hG b hb'; omega⟩

theorem Asn.assoc {A B C : Asn} {H : Hp} {F : List Nat} (h : ((A.star B).star C).p H F) : (A.star (B.star C)).p H F := by
  obtain ⟨F1, F2, rfl, ⟨F3, F4, rfl, h1, h2, h3⟩, h4, h5⟩ := h
  exact ⟨F3, F4 ++ F2, by simp, h1, ⟨F4, F2, rfl, h2, h4, fun b hb => h5 b (List.mem_append_right _ hb)⟩, fun b hb hb' => by
    rcases List.mem_append.1 hb' with h | h
    · exact h3 b hb h
    · exact h5 b (List.mem_append_left _ hb) h⟩
theorem Hold.imp_r {A B B' : Asn} {H : Hp} (h : Hold H (A.star B)) (hi : ∀ {F}, B.p H F → B'.p H F) : Hold H (A.star B') := by
  obtain ⟨F, F1, F2, rfl, h1, h2, h3⟩ := h
  exact ⟨_, F1, F2, rfl, h1, hi h2, h3⟩
theorem Hold.rot4 {A B C D : Asn} {H : Hp} (h : Hold H (A.star (B.star (C.star D)))) : Hold H (B.star (C.star (D.star A))) := h.comm.assoc.imp_r Asn.assoc
theorem Hold.imp_r2 {A B C C' : Asn} {H : Hp} (h : Hold H (A.star (B.star C))) (hi : ∀ {F}, C.p H F → C'.p H F) : Hold H (A.star (B.star C')) := by
  refine h.imp_r ?_
  rintro F ⟨F1, F2, rfl, h1, h2, h3⟩
  exact ⟨F1, F2, rfl, h1, hi h2, h3⟩
theorem Hold.rot5 {A B C D E : Asn} {H : Hp} (h : Hold H (A.star (B.star (C.star (D.star E))))) : Hold H (B.star (C.star (D.star (E.star A)))) :=
  (h.comm.assoc.imp_r Asn.assoc).imp_r2 Asn.assoc

/-- A cell, or a block, that stays as it is. -/
def cell (C : Nat) (B : Bk) : Asn where
  p H F := F = [C] ∧ H[C]? = some B
  lt := by rintro H F ⟨rfl, h⟩ b hb; simp at hb; subst hb; exact (List.getElem?_eq_some_iff.1 h).1
  fr := by rintro H H' F ⟨rfl, h⟩ hf; exact ⟨rfl, by rw [hf C (by simp)]; exact h⟩
theorem Hold.cell {C : Nat} {B : Bk} {H : Hp} (h : Hold H (cell C B)) : H[C]? = some B := let ⟨_, _, h⟩ := h; h
theorem Hold.newCell {A : Asn} {H : Hp} {B : Bk} (h : Hold H A) : Hold (H ++ [B]) (A.star (Vs.cell H.length B)) :=
  h.new ⟨[H.length], ⟨rfl, by simp⟩, by simp⟩

end Go.Vs
/- What a law is handed: values of types made of bools, whole numbers, strings, slices and structs, as ideal values. -/
namespace Go.Vs
open Go Go.RowKit

inductive Ty where
  | bool
  | int (k : IntKind)
  | str
  | sl (e : Ty)
  | pair (a b : Ty)

def Ty.cells : Ty → Nat
  | .pair a b => a.cells + b.cells
  | _ => 1

/-- What such a value is, in Lean. A slice that is nil is none. -/
def Ty.den : Ty → Type
  | .bool => Bool
  | .int _ => Int
  | .str => ByteArray
  | .sl e => Option (List e.den)
  | .pair a b => a.den × b.den

def Ty.enc : (t : Ty) → t.den → List IV
  | .bool, (b : Bool) => [.bool b]
  | .int k, (n : Int) => [.int k n]
  | .str, (s : ByteArray) => [.str s]
  | .sl e, (x : Option (List e.den)) => match x with
    | none => [.nsl]
    | some l => [.imm (l.map e.enc) false]
  | .pair a b, (x : a.den × b.den) => a.enc x.1 ++ b.enc x.2

def Ty.ok : (t : Ty) → t.den → Prop
  | .bool, _ => True
  | .int k, (n : Int) => (Lit.int k n).wf = true
  | .str, (s : ByteArray) => s.size ≤ maxLen
  | .sl e, (x : Option (List e.den)) => ∀ l, x = some l → l.length ≤ maxLen ∧ ∀ y ∈ l, e.ok y
  | .pair a b, (x : a.den × b.den) => a.ok x.1 ∧ b.ok x.2

/-- Bytes that such a value takes, at least. -/
def Ty.minB : Ty → Nat
  | .bool => 1
  | .int _ => 1
  | .str => 16
  | .sl _ => 24
  | .pair a b => a.minB + b.minB

/-- No text in it is longer than a process's memory, nor a slice. -/
def Ty.okw : (t : Ty) → t.den → Prop
  | .bool, _ => True
  | .int _, _ => True
  | .str, (s : ByteArray) => s.size ≤ reachBytes
  | .sl e, (x : Option (List e.den)) => ∀ l, x = some l → l.length * e.minB ≤ reachBytes ∧ ∀ y ∈ l, e.okw y
  | .pair a b, (x : a.den × b.den) => a.okw x.1 ∧ b.okw x.2

def Ty.arg : (t : Ty) → t.den → IV
  | .pair a b, x => .agg ((Ty.pair a b).enc x)
  | .bool, (b : Bool) => .bool b
  | .int k, (n : Int) => .int k n
  | .str, (s : ByteArray) => .str s
  | .sl e, (x : Option (List e.den)) => match x with
    | none => .nsl
    | some l => .imm (l.map e.enc) false

theorem Ty.enc_len : ∀ (t : Ty) (d : t.den), (t.enc d).length = t.cells
  | .bool, _ => rfl
  | .int _, _ => rfl
  | .str, _ => rfl
  | .sl e, (x : Option (List e.den)) => by cases x <;> rfl
  | .pair a b, (x : a.den × b.den) => by simp [Ty.enc, Ty.cells, enc_len a, enc_len b]
theorem Ty.cells_pos : ∀ (t : Ty), 0 < t.cells
  | .bool | .int _ | .str | .sl _ => Nat.one_pos
  | .pair a b => by have := cells_pos a; simp only [Ty.cells]; omega

def fieldsT (P : Program) (go : TypeId → Option Ty) : Nat → List Field → Option Ty
  | _, [] => none
  | off, [f] => (go f.type).bind fun T => if f.offset = off ∧ P.cellsOf f.type = T.cells then some T else none
  | off, f :: g :: fs => (go f.type).bind fun T => if f.offset = off ∧ P.cellsOf f.type = T.cells then (fieldsT P go (off + T.cells) (g :: fs)).map (.pair T) else none

/-- A type of the program, taken apart. -/
def tyOf (P : Program) : Nat → TypeId → Option Ty
  | 0, _ => none
  | n + 1, t => match P.underlying t with
    | some .bool => some .bool
    | some (.int k) => some (.int k)
    | some .string => some .str
    | some (.slice e) => (tyOf P n e).bind fun T => if P.cellsOf e = T.cells ∧ T.minB ≤ P.bytesOf e then some (.sl T) else none
    | some (.struct fs) => match fs.toList with
      | f :: g :: r => (fieldsT P (tyOf P n) 0 (f :: g :: r)).bind fun T => if P.cellsOf t = T.cells then some T else none
      | _ => none
    | _ => none

section
variable {H : Type} {enc : TypeId × Value → H} {P : Program} {W : World}

/-- Such cells are read as such a value. -/
def Cut (W : World) (S : Prop) (T : Ty) (cs : List Value) (off : Nat) : Prop := ∃ d : T.den, T.ok d ∧ (S → T.okw d) ∧ ∀ (i : Nat) (y : IV) (c : Value), (T.enc d)[i]? = some y → cs[off + i]? = some c → VR (K0 W) y c ∧ c.oneCell' = true

theorem cell_spot {a : Addr} {v : Value} (h : W.cell? a = some v) : a = ad a.block a.off := by
  unfold World.cell? at h
  split at h
  · split at h
    · cases h
    · rename_i hs
      obtain ⟨b, o, s⟩ := a
      cases s with
      | none => rfl
      | some s => simp at hs
  · cases h

theorem add_ad {b o n : Nat} : (ad b o).add n = ad b (o + n) := by
  unfold Addr.add ad; split
  · rename_i h; subst h; rfl
  · rfl

theorem slice_list {P' : Nat → Prop} {α : Type} {Q : Nat → α → Prop} (h : ∀ i, P' i → ∃ d, Q i d) : ∀ (n : Nat), (∀ i, i < n → P' i) → ∃ l : List α, l.length = n ∧ ∀ i d, l[i]? = some d → Q i d
  | 0, _ => ⟨[], rfl, fun i d h => by simp at h⟩
  | n + 1, hn => by
    obtain ⟨l, h1, h2⟩ := slice_list h n fun i hi => hn i (by omega)
    obtain ⟨d, hd⟩ := h n (hn n (by omega))
    refine ⟨l ++ [d], by simp [h1], fun i x hx => ?_⟩
    by_cases hi : i < n
    · rw [List.getElem?_append_left (by omega)] at hx; exact h2 i x hx
    · rw [List.getElem?_append_right (by omega)] at hx
      have hlt : i - l.length < 1 := by
        have := (List.getElem?_eq_some_iff.1 hx).1; simpa using this
      have e : i = n := by omega
      subst e
      rw [show i - l.length = 0 by omega] at hx
      simp at hx
      subst hx; exact hd

theorem weights_all {P : Program} {e : TypeId} : ∀ {ds : List (DataW H)} {i : Nat} {d : DataW H}, ds[i]? = some d → ∀ n ∈ d.weights P e, n ∈ DataW.weightsAll P e ds
  | [], i, d, h => by simp at h
  | x :: ds, 0, d, h => by simp at h; subst h; intro n hn; simp [DataW.weightsAll, hn]
  | x :: ds, i + 1, d, h => by
    intro n hn
    have := weights_all (P := P) (e := e) (ds := ds) (i := i) (by simpa using h) n hn
    simp [DataW.weightsAll, this]

theorem read_ty : ∀ (n : Nat) {t : TypeId} {T : Ty} {fuel : Nat} {cs : List Value} {x : DataW H × List MemPlace}, tyOf P n t = some T → DataW.trod enc P W 0 (fun _ => true) true fuel t cs = some x → cs.length = T.cells ∧ Cut W (∀ n ∈ x.1.weights P t, n ≤ reachBytes) T cs 0
  | 0, _, _, _, _, _, h, _ => by cases h
  | n + 1, t, T, fuel, cs, x, h, hr => by
    simp only [tyOf] at h
    split at h
    · rename_i ht
      cases h
      obtain ⟨b, rfl, _⟩ := DataW.trod_bool ht hr
      refine ⟨rfl, b, trivial, fun _ => trivial, fun i y c hy hc => ?_⟩
      cases i with
      | zero => simp [Ty.enc] at hy hc; subst hy hc; exact ⟨.bool _ _, rfl⟩
      | succ i => simp [Ty.enc] at hy
    · rename_i k ht
      cases h
      obtain ⟨m, rfl, _, hw⟩ := DataW.trod_int ht hr
      refine ⟨rfl, m, hw, fun _ => trivial, fun i y c hy hc => ?_⟩
      cases i with
      | zero => simp [Ty.enc] at hy hc; subst hy hc; exact ⟨.int _ _ _, rfl⟩
      | succ i => simp [Ty.enc] at hy
    · rename_i ht
      cases h
      obtain ⟨s, rfl, rfl, hw⟩ := DataW.trod_string ht hr
      refine ⟨rfl, s, hw, fun h => (by have := h s.data.toList.length (by simp [DataW.weights]); simpa using this : s.size ≤ reachBytes), fun i y c hy hc => ?_⟩
      cases i with
      | zero => simp [Ty.enc] at hy hc; subst hy hc; exact ⟨.str _ _, rfl⟩
      | succ i => simp [Ty.enc] at hy
    · rename_i e ht
      rw [Option.bind_eq_some_iff] at h
      obtain ⟨E, hE, h⟩ := h
      split at h
      · rename_i hce0
        obtain ⟨hce, hmb⟩ := hce0
        cases h
        rcases DataW.trod_slice ht hr with ⟨rfl, _⟩ | ⟨a, len, cap, elems, rest, m, _, rfl, hx, _, hl, hm, hlen, hel, _, _⟩
        · refine ⟨rfl, none, fun l h => (by cases h), fun _ l h => (by cases h), fun i y c hy hc => ?_⟩
          cases i with
          | zero => simp [Ty.enc] at hy hc; subst hy hc; exact ⟨.nsl _, rfl⟩
          | succ i => simp [Ty.enc] at hy
        · -- the elements
          have each : ∀ i, i < len → ∃ d : E.den, (E.ok d ∧ ((∀ n ∈ x.1.weights P t, n ≤ reachBytes) → E.okw d)) ∧ ∀ (j : Nat) (y : IV), (E.enc d)[j]? = some y → ∃ c, W.cell? (a.add (i * E.cells + j)) = some c ∧ VR (K0 W) y c ∧ c.oneCell' = true := by
            intro i hi
            have h1 := hel i hi
            obtain ⟨el, hel1⟩ : ∃ el, elems[i]? = some el := ⟨elems[i]'(by omega), List.getElem?_eq_getElem (by omega)⟩
            rw [hel1, Option.bind_eq_some_iff] at h1
            obtain ⟨cs', hcs, htr⟩ := h1
            obtain ⟨_, hcl, hcell⟩ := World.cells?_some hcs
            obtain ⟨hlc, d, hd, hdw, hcut⟩ := read_ty n hE htr
            refine ⟨d, ⟨hd, fun hS => hdw fun k hk => hS k ?_⟩, fun j y hy => ?_⟩
            · subst hx
              simp only [DataW.weights, ht, List.mem_cons, List.mem_append]
              exact .inr (.inl (weights_all (i := i) (by rw [List.getElem?_map, hel1]; rfl) k hk))
            have hj : j < E.cells := by rw [← E.enc_len d]; exact (List.getElem?_eq_some_iff.1 hy).1
            obtain ⟨c, hc⟩ : ∃ c, cs'[j]? = some c := ⟨cs'[j]'(by omega), List.getElem?_eq_getElem (by omega)⟩
            have h2 := hcell j (by omega)
            rw [hc] at h2
            have e3 : (a.add (i * P.cellsOf e)).add j = a.add (i * E.cells + j) := by
              rw [hce]
              unfold Addr.add
              by_cases h0 : i * E.cells = 0
              · simp [h0]
              · by_cases hj0 : j = 0
                · simp [h0, hj0]
                · have : ¬ (i * E.cells + j = 0) := by omega
                  rw [if_neg h0, if_neg hj0, if_neg this]
                  simp only [Nat.add_assoc]
            rw [e3] at h2
            exact ⟨c, h2, hcut j y c hy (by simpa using hc)⟩
          obtain ⟨l, hll, hl2⟩ := slice_list (P' := fun i => i < len) (fun i hi => each i hi) len fun i hi => hi
          have hmx : len ≤ maxLen := by omega
          refine ⟨rfl, some l, fun l' h => ?_, fun hS l' h => ?_, fun i y c hy hc => ?_⟩
          · cases h
            refine ⟨by omega, fun y hy => ?_⟩
            obtain ⟨i, hi⟩ := List.getElem?_of_mem hy
            exact (hl2 i y hi).1.1
          · cases h
            refine ⟨?_, fun y hy => ?_⟩
            · subst hx
              have := hS ((elems.length + rest.length) * P.bytesOf e) (by simp [DataW.weights, ht])
              refine Nat.le_trans (Nat.mul_le_mul ?_ hmb) this
              omega
            · obtain ⟨i, hi⟩ := List.getElem?_of_mem hy
              exact (hl2 i y hi).1.2 hS
          cases i with
          | succ i => simp [Ty.enc] at hy
          | zero =>
            simp [Ty.enc] at hy hc
            subst hy hc
            refine ⟨?_, rfl⟩
            have hrow : ∀ (r : Nat) (row : List IV), (l.map E.enc)[r]? = some row → ∃ d, l[r]? = some d ∧ row = E.enc d := by
              intro r row h
              rw [List.getElem?_map, Option.map_eq_some_iff] at h
              obtain ⟨d, h1, h2⟩ := h
              exact ⟨d, h1, h2.symm⟩
            have hcell : ∀ (r : Nat) (row : List IV) (j : Nat) (y : IV), (l.map E.enc)[r]? = some row → row[j]? = some y → ∃ v, W.cell? (ad a.block (a.off + r * E.cells + j)) = some v ∧ VR (K0 W) y v ∧ v.oneCell' = true := by
              intro r row j y h1 h2
              obtain ⟨d, hd, rfl⟩ := hrow r row h1
              obtain ⟨v, hv, h3⟩ := (hl2 r d hd).2 j y h2
              refine ⟨v, ?_, h3⟩
              have : a.add (r * E.cells + j) = ad a.block (a.off + (r * E.cells + j)) := by
                have := cell_spot hv
                unfold Addr.add at this ⊢
                split
                · rename_i h0; rw [if_pos h0] at this; rw [h0]; exact this
                · rfl
              rw [this, ← Nat.add_assoc] at hv
              exact hv
            refine .imm (K0 W) (l.map E.enc) false a len cap a.block a.off E.cells (fun r c => (W.cell? (ad a.block (a.off + r * E.cells + c))).getD (.bool false)) (by simp [hll]) (fun hne => ?_) (by simp; omega) (fun h => by cases h) (fun r row h => ?_) (fun r row c h hc => ?_) (fun r row c y h hy => ?_)
            · obtain ⟨d, l', rfl⟩ : ∃ d l', l = d :: l' := by cases l with | nil => simp at hne | cons d l' => exact ⟨d, l', rfl⟩
              obtain ⟨y, hy⟩ : ∃ y, (E.enc d)[0]? = some y := ⟨_, List.getElem?_eq_getElem (by rw [E.enc_len]; exact E.cells_pos)⟩
              obtain ⟨v, hv, _⟩ := (hl2 0 d rfl).2 0 y hy
              have : a.add (0 * E.cells + 0) = a := by simp [Addr.add]
              rw [this] at hv
              exact cell_spot hv
            · obtain ⟨d, _, rfl⟩ := hrow r row h
              exact E.enc_len d
            · obtain ⟨d, _, e⟩ := hrow r row h
              obtain ⟨v, hv, _, h1⟩ := hcell r row c (row[c]'(by rw [e, E.enc_len]; exact hc)) h (List.getElem?_eq_getElem _)
              rw [hv]
              exact K0_at hv h1
            · obtain ⟨v, hv, h1, _⟩ := hcell r row c y h hy
              rw [hv]
              exact h1
      · cases h
    · rename_i fs ht
      split at h
      · rename_i f g r hfs
        rw [Option.bind_eq_some_iff] at h
        obtain ⟨T', hT, h⟩ := h
        split at h
        · rename_i hc
          cases h
          obtain ⟨xs, m, _, hx, hcl, _, hf⟩ := DataW.trod_struct ht hr
          refine ⟨by rw [hcl, hc], ?_⟩
          -- the fields
          have key : ∀ (gs : List Field) (off : Nat) (T : Ty), fieldsT P (tyOf P n) off gs = some T → (∀ f ∈ gs, ∃ y, DataW.trod enc P W 0 (fun _ => true) true m f.type ((cs.drop f.offset).take (P.cellsOf f.type)) = some y ∧ ((∀ n ∈ x.1.weights P t, n ≤ reachBytes) → ∀ n ∈ y.1.weights P f.type, n ≤ reachBytes)) → Cut W (∀ n ∈ x.1.weights P t, n ≤ reachBytes) T cs off := by
            intro gs
            induction gs with
            | nil => intro off T h; cases h
            | cons f0 gs ih =>
              intro off T h hall
              have one : ∀ T0, tyOf P n f0.type = some T0 → f0.offset = off → P.cellsOf f0.type = T0.cells → Cut W (∀ n ∈ x.1.weights P t, n ≤ reachBytes) T0 cs off := by
                intro T0 h0 ho hc0
                obtain ⟨y, hy, hyw⟩ := hall f0 (List.mem_cons_self ..)
                obtain ⟨_, d, hd, hdw, hcut⟩ := read_ty n h0 hy
                refine ⟨d, hd, fun hS => hdw (hyw hS), fun i y c hy hc => hcut i y c hy ?_⟩
                have hi : i < T0.cells := by rw [← T0.enc_len d]; exact (List.getElem?_eq_some_iff.1 hy).1
                rw [Nat.zero_add, ho, hc0, List.getElem?_take, if_pos hi, List.getElem?_drop]
                exact hc
              cases gs with
              | nil =>
                simp only [fieldsT, Option.bind_eq_some_iff] at h
                obtain ⟨T0, h0, h⟩ := h
                split at h
                · rename_i hh; cases h; exact one _ h0 hh.1 hh.2
                · cases h
              | cons g0 gs =>
                simp only [fieldsT, Option.bind_eq_some_iff] at h
                obtain ⟨T0, h0, h⟩ := h
                split at h
                · rename_i hh
                  rw [Option.map_eq_some_iff] at h
                  obtain ⟨T1, h1, rfl⟩ := h
                  obtain ⟨d0, ok0, okw0, cut0⟩ := one _ h0 hh.1 hh.2
                  obtain ⟨d1, ok1, okw1, cut1⟩ := ih _ _ h1 fun f hf => hall f (List.mem_cons_of_mem _ hf)
                  refine ⟨(d0, d1), ⟨ok0, ok1⟩, fun hS => ⟨okw0 hS, okw1 hS⟩, fun i y c hy hc => ?_⟩
                  simp only [Ty.enc] at hy
                  by_cases hi : i < T0.cells
                  · rw [List.getElem?_append_left (by rw [T0.enc_len]; exact hi)] at hy
                    exact cut0 i y c hy hc
                  · rw [List.getElem?_append_right (by rw [T0.enc_len]; omega), T0.enc_len] at hy
                    refine cut1 _ y c hy ?_
                    rw [← hc]; congr 1; omega
                · cases h
          refine key _ _ _ hT fun f hf' => ?_
          rw [← hfs] at hf'
          obtain ⟨i, hi⟩ := List.getElem?_of_mem hf'
          rw [Array.getElem?_toList] at hi
          have h2 := hf i f hi
          have hlt := (Array.getElem?_eq_some_iff.1 hi).1
          refine ⟨xs[i]'(by omega), by rw [h2]; exact List.getElem?_eq_getElem _, fun hS n hn => hS n ?_⟩
          subst hx
          simp only [DataW.weights, ht]
          exact DataW.weights_mem_each (j := i) (by rw [List.getElem?_map, Array.getElem?_toList, hi]; rfl) (by rw [List.getElem?_map, List.getElem?_eq_getElem (by omega)]; rfl) n hn
        · cases h
      · cases h
    · cases h

theorem fieldsT_pair {go : TypeId → Option Ty} {off : Nat} {f g : Field} {r : List Field} {T : Ty} (h : fieldsT P go off (f :: g :: r) = some T) : ∃ A B, T = .pair A B := by
  simp only [fieldsT, Option.bind_eq_some_iff] at h
  obtain ⟨T0, _, h⟩ := h
  split at h
  · rw [Option.map_eq_some_iff] at h
    obtain ⟨T1, _, rfl⟩ := h
    exact ⟨_, _, rfl⟩
  · cases h

/-- An argument. -/
theorem arg_okw {n : Nat} {t : TypeId} {T : Ty} {v : Value} {d : DataW H} {ps : List MemPlace} {r : Reach} {b0 : Nat} (hT : tyOf P n t = some T) (hv : Value.okWide P W r b0 t v) (h : DataW.Trod enc P W 0 (fun _ => true) true t v d ps) :
    ∃ x : T.den, T.ok x ∧ ((∀ n ∈ d.weights P t, n ≤ reachBytes) → T.okw x) ∧ VR (K0 W) (T.arg x) v := by
  obtain ⟨fuel, h⟩ := h
  obtain ⟨hl, x, hx, hxw, hcut⟩ := read_ty n hT h
  refine ⟨x, hx, hxw, ?_⟩
  have one : ∀ y, T.enc x = [y] → v.cells.toList = [v] → VR (K0 W) y v := fun y h1 h2 => (hcut 0 y v (by rw [h1]; rfl) (by rw [h2]; rfl)).1
  cases n with
  | zero => cases hT
  | succ n =>
    simp only [tyOf] at hT
    split at hT
    · rename_i ht; cases hT
      obtain ⟨b, rfl⟩ := WideShapes.okWide_bool ht hv
      exact one _ rfl rfl
    · rename_i ht; cases hT
      obtain ⟨b, rfl⟩ := WideShapes.okWide_int ht hv
      exact one _ rfl rfl
    · rename_i ht; cases hT
      obtain ⟨b, rfl⟩ := WideShapes.okWide_string ht hv
      exact one _ rfl rfl
    · rename_i e ht
      rw [Option.bind_eq_some_iff] at hT
      obtain ⟨E, hE, hT⟩ := hT
      split at hT
      · cases hT
        obtain ⟨a, len, cap, rfl⟩ := WideShapes.okWide_slice ht hv
        refine one _ ?_ rfl
        cases x <;> rfl
      · cases hT
    · rename_i fs ht
      split at hT
      · rename_i f g r hfs
        rw [Option.bind_eq_some_iff] at hT
        obtain ⟨T', hT', hT⟩ := hT
        split at hT
        · cases hT
          obtain ⟨A, B, rfl⟩ := fieldsT_pair hT'
          simp only [Value.okWide, ht] at hv
          obtain ⟨cs, rfl, _, _⟩ := hv
          refine .agg _ _ _ ?_ fun i y c hy hc => (hcut i y c hy (by simpa [Value.cells] using hc)).1
          rw [Ty.enc_len]
          simpa [Value.cells] using hl
        · cases hT
      · cases hT
    · cases hT


theorem arg_ok {n : Nat} {t : TypeId} {T : Ty} {v : Value} {d : DataW H} {ps : List MemPlace} {r : Reach} {b0 : Nat} (hT : tyOf P n t = some T) (hv : Value.okWide P W r b0 t v) (h : DataW.Trod enc P W 0 (fun _ => true) true t v d ps) :
    ∃ x : T.den, T.ok x ∧ VR (K0 W) (T.arg x) v :=
  let ⟨x, h1, _, h2⟩ := arg_okw hT hv h
  ⟨x, h1, h2⟩

end

/-- A slice that is handed: its rows can be told. -/
structure SlA (A : IV) (sz : Nat) (rows : List (List IV)) : Prop where
  len : lenV false A = some rows.length
  idx : ∀ (H : Hp) (i : Nat), i < rows.length → idx H sz A i = some (.eptr rows i 0)
  rws : ∀ (H : Hp), rowsOf H A = some rows
  imm : A = .nsl ∧ rows = [] ∨ ∃ f, A = .imm rows f
  sz : ∀ r ∈ rows, r.length = sz

theorem sl_arg {e : Ty} (x : (Ty.sl e).den) : ∃ l : List e.den, SlA ((Ty.sl e).arg x) e.cells (l.map e.enc) ∧ (x = none ∧ l = [] ∨ x = some l) := by
  have key : ∀ l : List e.den, ∀ r ∈ l.map e.enc, r.length = e.cells := fun l r hr => by
    obtain ⟨d, _, rfl⟩ := List.mem_map.1 hr; exact e.enc_len d
  cases x with
  | none => exact ⟨[], ⟨rfl, fun _ i hi => by simp at hi, fun _ => rfl, .inl ⟨rfl, rfl⟩, key []⟩, .inl ⟨rfl, rfl⟩⟩
  | some l =>
    refine ⟨l, ⟨rfl, fun H i hi => ?_, fun _ => rfl, .inr ⟨_, rfl⟩, key l⟩, .inr rfl⟩
    have h3 := szOk_all (key l)
    simp only [Ty.arg, idx_imm]
    rw [if_pos ⟨by omega, by omega, h3⟩]
    simp

theorem wf_u8 (n : Int) (h : (Lit.int .u8 n).wf = true) : 0 ≤ n ∧ n < 256 := by simp [Lit.wf, IntKind.min, IntKind.max, IntKind.signed, IntKind.bits] at h; omega
theorem wf_u16 (n : Int) (h : (Lit.int .u16 n).wf = true) : 0 ≤ n ∧ n < 65536 := by simp [Lit.wf, IntKind.min, IntKind.max, IntKind.signed, IntKind.bits] at h; omega
theorem wf_u32 (n : Int) (h : (Lit.int .u32 n).wf = true) : 0 ≤ n ∧ n < 4294967296 := by simp [Lit.wf, IntKind.min, IntKind.max, IntKind.signed, IntKind.bits] at h; omega
theorem wf_i32 (n : Int) (h : (Lit.int .i32 n).wf = true) : -2147483648 ≤ n ∧ n < 2147483648 := by simp [Lit.wf, IntKind.min, IntKind.max, IntKind.signed, IntKind.bits] at h; omega
theorem wf_i64 (n : Int) (h : (Lit.int .i64 n).wf = true) : -9223372036854775808 ≤ n ∧ n < 9223372036854775808 := by simp [Lit.wf, IntKind.min, IntKind.max, IntKind.signed, IntKind.bits] at h; omega
theorem wf_u64 (n : Int) (h : (Lit.int .u64 n).wf = true) : 0 ≤ n ∧ n < 18446744073709551616 := by simp [Lit.wf, IntKind.min, IntKind.max, IntKind.signed, IntKind.bits] at h; omega

end Go.Vs
