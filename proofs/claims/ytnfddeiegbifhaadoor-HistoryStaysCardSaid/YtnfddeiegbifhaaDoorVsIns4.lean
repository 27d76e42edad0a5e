import Derived.Test.YtnfddeiegbifhaaDoorVsIns3
/- Slices of one's own: appended to, put into. -/
namespace Go.Vs
open Go

/-- Such rows lie there, in a block that may be written; its room lies there too. -/
def Ow (H : Hp) (v : IV) (sz : Nat) (rows : List (List IV)) : Prop :=
  (v = .nsl ∧ rows = []) ∨ ∃ b g pre post cap ex, v = .arr b g pre.length rows.length cap ex ∧ rows.length ≤ cap ∧ cap ≤ rows.length + post.length ∧ (ex = false → 0 < pre.length + (rows.length + post.length)) ∧ H[b]? = some { rows := pre ++ (rows ++ post), gen := g } ∧ ∀ r ∈ pre ++ (rows ++ post), r.length = sz

variable {H : Hp} {v : IV} {sz : Nat} {rows : List (List IV)}

theorem Ow.sq (h : Ow H v sz rows) : Sq H v sz rows := by
  rcases h with h | ⟨b, g, pre, post, cap, ex, hv, h1, _, _, hB, hw⟩
  · exact .inl h
  · exact .inr ⟨b, g, pre, post, cap, ex, hv, h1, hB, hw⟩
theorem Ow.fr {H' : Hp} (h : Ow H v sz rows) (hf : ∀ b ∈ blkS v, H'[b]? = H[b]?) : Ow H' v sz rows := by
  rcases h with h | ⟨b, g, pre, post, cap, ex, rfl, h1, h2, h3, hB, hw⟩
  · exact .inl h
  · exact .inr ⟨b, g, pre, post, cap, ex, rfl, h1, h2, h3, by rw [hf b (by simp [blkS])]; exact hB, hw⟩
theorem Ow.app (h : Ow H v sz rows) (Y : Hp) : Ow (H ++ Y) v sz rows := h.fr fun b hb => List.getElem?_append_left (h.sq.lt b hb)
theorem Ow.nil : Ow H .nsl sz [] := .inl ⟨rfl, rfl⟩

/-- One row more. -/
theorem Ow.push {ro : Nat} (h : Ow H v sz rows) (hro : ∀ b ∈ blkS v, ro ≤ b) {y : IV} {r : List IV} (hy : Vs.rowsOf H y = some [r]) (hr : r.length = sz) {bytes : Nat} (hroom : (rows.length + 1) * bytes ≤ room) :
    ∃ v' H', appV ro H sz bytes v y = some (v', H') ∧ Ow H' v' sz (rows ++ [r]) ∧ (∀ b ∈ blkS v', b ∈ blkS v ∨ b = H.length) ∧ H.length ≤ H'.length ∧ ∀ b, b < H.length → b ∉ blkS v → H'[b]? = H[b]? := by
  have hs : szOk sz [r] = true := by simp [hr]
  rcases h with ⟨rfl, rfl⟩ | ⟨b, g, pre, post, cap, ex, rfl, h1, h2, h3, hB, hw⟩
  · have hm : 1 * bytes ≤ room := by simpa using hroom
    refine ⟨_, _, app_nsl hy hs (by simp) hm, .inr ⟨H.length, 0, [], [], 1, false, rfl, by simp, by simp, by simp, by simp, by simp [hr]⟩, by simp [blkS], by simp, fun b hb _ => List.getElem?_append_left hb⟩
  · have hblt : b < H.length := (List.getElem?_eq_some_iff.1 hB).1
    have hrb : ro ≤ b := hro b (by simp [blkS])
    have hz : szOk sz (pre ++ (rows ++ post)) = true := szOk_all hw
    have htake : ((pre ++ (rows ++ post)).drop pre.length).take rows.length = rows := by rw [List.drop_left, List.take_left]
    have hnle : ¬ (pre.length + (rows.length + post.length) < pre.length + rows.length) := by omega
    have hw2 : ∀ x ∈ rows ++ [r], x.length = sz := fun x hx => by
      rcases List.mem_append.1 hx with hx | hx
      · exact hw x (by simp [hx])
      · simp at hx; subst hx; exact hr
    by_cases hfit : rows.length + 1 ≤ cap
    · -- there is room
      have hpl : 0 < post.length := by omega
      refine ⟨.arr b g pre.length (rows.length + 1) cap ex, H.set b { rows := pre ++ rows ++ [r] ++ post.drop 1, gen := g }, ?_, .inr ⟨b, g, pre, post.drop 1, cap, ex, by simp, by simpa using hfit, by simp; omega, fun he => by have := h3 he; simp; omega, ?_, fun x hx => ?_⟩, by simp [blkS], by simp, fun c hc hcb => List.getElem?_set_ne fun e => hcb (by simp [blkS, e])⟩
      · have e1 : (pre ++ (rows ++ post)).take (pre.length + rows.length) = pre ++ rows := by rw [← List.append_assoc, show pre.length + rows.length = (pre ++ rows).length by simp, List.take_left]
        have e2 : (pre ++ (rows ++ post)).drop (pre.length + rows.length + 1) = post.drop 1 := by
          rw [← List.append_assoc, List.drop_append, List.drop_eq_nil_of_le (by simp), List.nil_append]
          congr 1; simp
        have hle : pre.length + rows.length + 1 ≤ pre.length + (rows.length + post.length) := by omega
        simp only [appV, hy, Option.bind_some, hs, Bool.true_eq_false, if_false, blkAt_eq, hB, if_true, hz, List.length_append, List.length_cons, List.length_nil, Nat.zero_add, hnle, or_self, (by decide : ¬ (1 = 0)), hfit, hrb, hle, and_self, e1, e2]
      · rw [List.getElem?_set_self hblt]; simp
      · refine (List.mem_append.1 hx).elim (fun h => hw x (by simp [h])) fun h => ?_
        rcases List.mem_append.1 h with h | h
        · exact hw2 x h
        · exact hw x (by simp [List.mem_of_mem_drop h])
    · cases ex with
      | true =>
        refine ⟨.arr H.length 0 0 (rows.length + 1) (rows.length + 1) false, H ++ [{ rows := rows ++ [r] }], ?_, .inr ⟨H.length, 0, [], [], rows.length + 1, false, by simp, by simp, by simp, fun _ => by simp, by simp, by simpa using hw2⟩, by simp [blkS], by simp, fun c hc _ => List.getElem?_append_left hc⟩
        simp only [appV, hy, Option.bind_some, hs, Bool.true_eq_false, if_false, blkAt_eq, hB, if_true, hz, List.length_append, List.length_cons, List.length_nil, Nat.zero_add, hnle, or_self, (by decide : ¬ (1 = 0)), hfit, htake, newArr, hroom]
      | false =>
        have hpos := h3 rfl
        refine ⟨.arr b (g + 1) 0 (rows.length + 1) (rows.length + 1) false, H.set b { rows := rows ++ [r], gen := g + 1 }, ?_, .inr ⟨b, g + 1, [], [], rows.length + 1, false, by simp, by simp, by simp, fun _ => by simp, by rw [List.getElem?_set_self hblt]; simp, by simpa using hw2⟩, by simp [blkS], by simp, fun c hc hcb => List.getElem?_set_ne fun e => hcb (by simp [blkS, e])⟩
        simp only [appV, hy, Option.bind_some, hs, Bool.true_eq_false, if_false, blkAt_eq, hB, if_true, hz, List.length_append, List.length_cons, List.length_nil, Nat.zero_add, hnle, or_self, (by decide : ¬ (1 = 0)), hfit, htake, hrb, hpos, hroom, and_self, Bool.false_eq_true]

/-- A row put in between. -/
theorem Ow.ins {ro : Nat} (h : Ow H v sz rows) (hro : ∀ b ∈ blkS v, ro ≤ b) {c gc voff vcap : Nat} {vex : Bool} {r : List IV} (hy : Vs.rowsOf H (.arr c gc voff 1 vcap vex) = some [r]) (hc : c ∉ blkS v) (hr : r.length = sz) {bytes i : Nat} (hi : i ≤ rows.length) (hroom : (rows.length + 1) * bytes ≤ room) :
    ∃ v' H', insV ro H sz bytes v (.int .i64 i) (.arr c gc voff 1 vcap vex) = some (v', H') ∧ Ow H' v' sz (rows.take i ++ r :: rows.drop i) ∧ (∀ b ∈ blkS v', b ∈ blkS v ∨ b = H.length) ∧ H.length ≤ H'.length ∧ ∀ b, b < H.length → b ∉ blkS v → H'[b]? = H[b]? := by
  have hcond : ¬ (([r].all fun r => r.length == sz) = false ∨ [r].length = 0 ∨ isSl (.arr c gc voff 1 vcap vex) = false) := by simp [hr, isSl]
  have hneg : ¬ ((i : Int) < 0) := by omega
  by_cases hie : i = rows.length
  · subst hie
    obtain ⟨v', H', h1, h2, h3, h4, h5⟩ := h.push hro hy hr hroom
    refine ⟨v', H', ?_, by simpa using h2, h3, h4, h5⟩
    simp only [insV, hneg, if_false, hy, Option.bind_some, hcond, Int.toNat_natCast]
    rcases h with ⟨rfl, rfl⟩ | ⟨b, g, pre, post, cap, ex, rfl, _⟩
    · exact h1
    · simpa using h1
  · rcases h with ⟨rfl, rfl⟩ | ⟨b, g, pre, post, cap, ex, rfl, h1, h2, h3, hB, hw⟩
    · simp at hi; simp at hie; exact absurd hi hie
    · have hblt : b < H.length := (List.getElem?_eq_some_iff.1 hB).1
      have hrb : ro ≤ b := hro b (by simp [blkS])
      have htake : ((pre ++ (rows ++ post)).drop pre.length).take rows.length = rows := by rw [List.drop_left, List.take_left]
      have hall : ((pre ++ (rows ++ post)).all fun r => r.length == sz) = true := List.all_eq_true.2 fun x hx => by simpa using hw x hx
      have hcb : c ≠ b := fun e => hc (by simp [blkS, e])
      have hN : rows.length + 1 = (rows.take i ++ r :: rows.drop i).length := by simp; omega
      refine ⟨.arr b (g + 1) 0 (rows.length + 1) (rows.length + 1) false, H.set b { rows := rows.take i ++ r :: rows.drop i, gen := g + 1 } ++ [{ rows := [], gen := 1 }], ?_, .inr ⟨b, g + 1, [], [], rows.length + 1, false, ?_, by simp; omega, by simp; omega, fun _ => by simp; omega, ?_, fun x hx => ?_⟩, by simp [blkS], by simp, fun c hc hcb => ?_⟩
      · simp only [insV, hneg, if_false, hy, Option.bind_some, Int.toNat_natCast, hie, blkAt_eq, hB, if_true, htake, List.length_cons, List.length_nil, Nat.zero_add, List.append_assoc, List.singleton_append]
        rw [if_neg (by simp [hr, isSl]), if_pos ⟨hcb, hrb, trivial, hall, by simp, by omega, hroom⟩]
      · rw [hN]; simp
      · rw [List.getElem?_append_left (by simpa using hblt), List.getElem?_set_self hblt]; simp
      · simp only [List.nil_append, List.append_nil] at hx
        rcases List.mem_append.1 hx with hx | hx
        · exact hw x (by simp [List.mem_of_mem_take hx])
        · rcases List.mem_cons.1 hx with rfl | hx
          · exact hr
          · exact hw x (by simp [List.mem_of_mem_drop hx])
      · rw [List.getElem?_append_left (by simpa using hc), List.getElem?_set_ne fun e => hcb (by simp [blkS, e])]
end Go.Vs
