import Derived.Test.YtnfddeiegbifhaaDoorVsSq
/- slices.Insert by what it does: the row moves or grows in place, nobody can tell. -/
namespace Go.Vs
open Go Go.RowKit

/-- The library's text of slices.Insert, for rows of so many cells. -/
def insCd (sz b k : Nat) (z : List IV) : Cd :=
  (.seq (.rg [⟨(some 6), none, .mv (.c (.slice none 0 0))⟩] [0, 1, 2])
  (.seq (.rg [⟨(some 10), none, .mv (.t 0)⟩,
      ⟨(some 11), none, .mv (.t 1)⟩,
      ⟨(some 12), none, .slsl sz (.t 10) (some (.t 11)) none none⟩] [0, 1, 2])
  (.seq (.rg [⟨(some 13), none, .mv (.t 2)⟩,
      ⟨(some 14), none, .len false (.t 13)⟩,
      ⟨(some 7), none, .mv (.t 14)⟩] [0, 1, 2, 7])
  (.seq (.seq (.rg [⟨(some 15), none, .mv (.t 7)⟩,
      ⟨(some 16), none, .bin .eql (.t 15) (.c (.int .i64 0))⟩] [0, 1, 2, 7, 16])
  (.cond (.t 16)
    (.seq (.rg [⟨(some 17), none, .mv (.t 0)⟩,
        ⟨(some 6), none, .mv (.t 17)⟩] [6])
    .ret)
    .skip))
  (.seq (.rg [⟨(some 18), none, .mv (.t 0)⟩,
      ⟨(some 19), none, .len false (.t 18)⟩,
      ⟨(some 8), none, .mv (.t 19)⟩] [0, 1, 2, 7, 8])
  (.seq (.seq (.rg [⟨(some 20), none, .mv (.t 1)⟩,
      ⟨(some 21), none, .mv (.t 8)⟩,
      ⟨(some 22), none, .bin .eql (.t 20) (.t 21)⟩] [0, 1, 2, 7, 8, 22])
  (.cond (.t 22)
    (.seq (.rg [⟨(some 23), none, .mv (.t 0)⟩,
        ⟨(some 24), none, .mv (.t 2)⟩,
        ⟨(some 25), none, .app sz b (.t 23) (.t 24)⟩,
        ⟨(some 6), none, .mv (.t 25)⟩] [6])
    .ret)
    .skip))
  (.seq (.seq (.rg [⟨(some 26), none, .mv (.t 8)⟩,
      ⟨(some 27), none, .mv (.t 7)⟩,
      ⟨(some 28), none, .bin .add (.t 26) (.t 27)⟩,
      ⟨(some 29), none, .mv (.t 0)⟩,
      ⟨(some 30), none, .capo (.t 29)⟩,
      ⟨(some 31), none, .bin .gtr (.t 28) (.t 30)⟩] [0, 1, 2, 7, 8, 31])
  (.cond (.t 31)
    (.seq (.rg [⟨(some 32), none, .mv (.t 0)⟩,
        ⟨(some 33), none, .mv (.t 1)⟩,
        ⟨(some 34), none, .slsl sz (.t 32) none (some (.t 33)) none⟩,
        ⟨(some 35), none, .mv (.t 8)⟩,
        ⟨(some 36), none, .mv (.t 7)⟩,
        ⟨(some 37), none, .bin .add (.t 35) (.t 36)⟩,
        ⟨(some 38), none, .mv (.t 1)⟩,
        ⟨(some 39), none, .bin .sub (.t 37) (.t 38)⟩,
        ⟨(some 40), none, .apz sz b z (.t 34) (.t 39)⟩,
        ⟨(some 9), none, .mv (.t 40)⟩] [0, 1, 2, 7, 9])
    (.seq (.rg [⟨(some 41), none, .mv (.t 9)⟩,
        ⟨(some 42), none, .mv (.t 1)⟩,
        ⟨(some 43), none, .slsl sz (.t 41) (some (.t 42)) none none⟩,
        ⟨(some 44), none, .mv (.t 2)⟩,
        ⟨(some 45), none, .copy sz (.t 43) (.t 44)⟩] [0, 1, 7, 9])
    (.seq (.rg [⟨(some 46), none, .mv (.t 9)⟩,
        ⟨(some 47), none, .mv (.t 1)⟩,
        ⟨(some 48), none, .mv (.t 7)⟩,
        ⟨(some 49), none, .bin .add (.t 47) (.t 48)⟩,
        ⟨(some 50), none, .slsl sz (.t 46) (some (.t 49)) none none⟩,
        ⟨(some 51), none, .mv (.t 0)⟩,
        ⟨(some 52), none, .mv (.t 1)⟩,
        ⟨(some 53), none, .slsl sz (.t 51) (some (.t 52)) none none⟩,
        ⟨(some 54), none, .copy sz (.t 50) (.t 53)⟩] [9])
    (.seq (.rg [⟨(some 55), none, .mv (.t 9)⟩,
        ⟨(some 6), none, .mv (.t 55)⟩] [6])
    .ret))))
    .skip))
  (.seq (.rg [⟨(some 56), none, .mv (.t 0)⟩,
      ⟨(some 57), none, .mv (.t 8)⟩,
      ⟨(some 58), none, .mv (.t 7)⟩,
      ⟨(some 59), none, .bin .add (.t 57) (.t 58)⟩,
      ⟨(some 60), none, .slsl sz (.t 56) none (some (.t 59)) none⟩,
      ⟨(some 0), none, .mv (.t 60)⟩] [0, 1, 2, 7, 8])
  (.seq (.seq (.rg [⟨(some 61), none, .mv (.t 2)⟩,
      ⟨(some 62), none, .mv (.t 0)⟩,
      ⟨(some 63), none, .mv (.t 1)⟩,
      ⟨(some 64), none, .mv (.t 7)⟩,
      ⟨(some 65), none, .bin .add (.t 63) (.t 64)⟩,
      ⟨(some 66), none, .slsl sz (.t 62) (some (.t 65)) none none⟩,
      ⟨(some 67), none, .ovl (.t 61) (.t 66)⟩,
      ⟨(some 68), none, .un .not (.t 67)⟩] [0, 1, 2, 7, 8, 68])
  (.cond (.t 68)
    (.seq (.rg [⟨(some 69), none, .mv (.t 0)⟩,
        ⟨(some 70), none, .mv (.t 1)⟩,
        ⟨(some 71), none, .mv (.t 7)⟩,
        ⟨(some 72), none, .bin .add (.t 70) (.t 71)⟩,
        ⟨(some 73), none, .slsl sz (.t 69) (some (.t 72)) none none⟩,
        ⟨(some 74), none, .mv (.t 0)⟩,
        ⟨(some 75), none, .mv (.t 1)⟩,
        ⟨(some 76), none, .slsl sz (.t 74) (some (.t 75)) none none⟩,
        ⟨(some 77), none, .copy sz (.t 73) (.t 76)⟩] [0, 1, 2])
    (.seq (.rg [⟨(some 78), none, .mv (.t 0)⟩,
        ⟨(some 79), none, .mv (.t 1)⟩,
        ⟨(some 80), none, .slsl sz (.t 78) (some (.t 79)) none none⟩,
        ⟨(some 81), none, .mv (.t 2)⟩,
        ⟨(some 82), none, .copy sz (.t 80) (.t 81)⟩] [0])
    (.seq (.rg [⟨(some 83), none, .mv (.t 0)⟩,
        ⟨(some 6), none, .mv (.t 83)⟩] [6])
    .ret)))
    .skip))
  (.seq (.rg [⟨(some 84), none, .mv (.t 0)⟩,
      ⟨(some 85), none, .mv (.t 8)⟩,
      ⟨(some 86), none, .slsl sz (.t 84) (some (.t 85)) none none⟩,
      ⟨(some 87), none, .mv (.t 2)⟩,
      ⟨(some 88), none, .copy sz (.t 86) (.t 87)⟩] [0, 1, 7])
  (.seq (.rg [⟨(some 89), none, .mv (.t 0)⟩,
      ⟨(some 90), none, .mv (.t 1)⟩,
      ⟨(some 91), none, .slsl sz (.t 89) (some (.t 90)) none none⟩,
      ⟨(some 92), none, .mv (.t 7)⟩,
      ⟨(some 93), none, .call 2 (.f k) [(.t 91), (.t 92)]⟩] [0])
  (.seq (.rg [⟨(some 94), none, .mv (.t 0)⟩,
      ⟨(some 6), none, .mv (.t 94)⟩] [6])
  .ret))))))))))))
/-- In its place. -/
def insW (sz b : Nat) : Cd := .seq (.rg [⟨some 3, none, .insv sz b (.t 0) (.t 1) (.t 2)⟩] [3]) .ret

theorem Rel.alter {K : Kp} {ro : Nat} {H : Hp} {w : World} (hR : Rel K ro H w) {b : Nat} {L : Loc} {B B' : Bk} (hL : K.ρ b = some L) (hB : H[b]? = some B) (hf : B'.frz = B.frz) (ok' : BlkOk K B' L w) : Rel K ro (H.set b B') w := by
  have hblt : b < H.length := (List.getElem?_eq_some_iff.1 hB).1
  refine ⟨fun x L' hx => ?_, hR.inj, hR.claim, fun x L' C hx hC hr hfz => ?_, by simpa using hR.low⟩
  · by_cases e : x = b
    · subst e
      rw [hL] at hx; cases hx
      exact ⟨B', by simp [hblt], ok'⟩
    · rw [List.getElem?_set_ne (Ne.symm e)]
      exact hR.blk x L' hx
  · by_cases e : x = b
    · subst e
      rw [List.getElem?_set_self hblt] at hC
      cases hC
      exact hR.own x L' B hx hB hr (by rw [← hf]; exact hfz)
    · rw [List.getElem?_set_ne (Ne.symm e)] at hC
      exact hR.own x L' C hx hC hr hfz

/-- Rows of which nothing is known, behind those that are. -/
theorem BlkOk.more {K : Kp} {B : Bk} {L : Loc} {w : World} (ok : BlkOk K B L w) {k : Nat} (hk : (B.rows.length + k) * L.sz ≤ L.ext) : BlkOk K { B with rows := B.rows ++ List.replicate k (List.replicate L.sz .und) } L w := by
  refine ⟨ok.gen, ok.lt, fun r row hr => ?_, by simpa using hk, ok.there, ok.soft, fun r row c x hr hx => ?_, ok.ety⟩
  · simp only [List.getElem?_append] at hr
    split at hr
    · exact ok.len r row hr
    · rw [List.getElem?_replicate] at hr
      split at hr
      · cases hr; simp
      · cases hr
  · simp only [List.getElem?_append] at hr
    split at hr
    · exact ok.cell r row c x hr hx
    · rename_i hge
      rw [List.getElem?_replicate] at hr
      split at hr
      · rename_i hlt
        cases hr
        rw [List.getElem?_replicate] at hx
        split at hx
        · rename_i hc
          cases hx
          have h1 : r * L.sz + c < L.ext := by
            have h2 := Nat.mul_le_mul_right L.sz (show r + 1 ≤ B.rows.length + k by omega)
            rw [Nat.add_mul] at h2
            omega
          obtain ⟨u, hu, _⟩ := ok.there _ h1
          exact ⟨u, by rw [Nat.add_assoc]; exact hu, .und _ _⟩
        · cases hx
      · cases hr
theorem BlkOk.less {K : Kp} {B : Bk} {L : Loc} {w : World} (ok : BlkOk K B L w) (k : Nat) : BlkOk K { B with rows := B.rows.take k } L w := by
  have h : ∀ {r : Nat} {row : List IV}, (B.rows.take k)[r]? = some row → B.rows[r]? = some row := fun {r row} h => by
    rw [List.getElem?_take] at h
    split at h
    · exact h
    · cases h
  refine ⟨ok.gen, ok.lt, fun r row hr => ok.len r row (h hr), ?_, ok.there, ok.soft, fun r row c x hr hx => ok.cell r row c x (h hr) hx, ok.ety⟩
  exact Nat.le_trans (Nat.mul_le_mul_right _ (by simp only [List.length_take]; omega)) ok.fit

theorem BlkOk.regen {K : Kp} {B : Bk} {L : Loc} {w : World} (ok : BlkOk K B L w) (g : Nat) : BlkOk K { rows := B.rows, gen := g } { L with gen := g } w :=
  ⟨rfl, ok.lt, ok.len, ok.fit, ok.there, ok.soft, ok.cell, fun t ht => by cases ht⟩

/-- Two blocks change places; the second is there no more. -/
def swapK (K : Kp) (b h : Nat) (L M : Loc) : Kp := (K.set b { M with gen := L.gen + 1 }).set h ⟨M.gen + 1, L.blk, L.org, L.sz, 0⟩
theorem Rel.swap {K : Kp} {ro : Nat} {H : Hp} {w : World} (hR : Rel K ro H w) {b h : Nat} {L M : Loc} {B C : Bk} (hL : K.ρ b = some L) (hM : K.ρ h = some M) (hB : H[b]? = some B) (hC : H[h]? = some C) (hne : b ≠ h) (hb : ro ≤ b) (hh : ro ≤ h) (hfB : B.frz = false) (hfC : C.frz = false) :
    K.le (swapK K b h L M) ∧ Rel (swapK K b h L M) ro ((H.set b { rows := C.rows, gen := L.gen + 1 }).set h { rows := [], gen := M.gen + 1 }) w := by
  have hblt : b < H.length := (List.getElem?_eq_some_iff.1 hB).1
  have hhlt : h < H.length := (List.getElem?_eq_some_iff.1 hC).1
  obtain ⟨B0, hB0, okB⟩ := hR.blk b L hL
  obtain rfl : B = B0 := by rw [hB] at hB0; exact Option.some.inj hB0
  obtain ⟨C0, hC0, okC⟩ := hR.blk h M hM
  obtain rfl : C = C0 := by rw [hC] at hC0; exact Option.some.inj hC0
  have eb : (swapK K b h L M).ρ b = some { M with gen := L.gen + 1 } := by simp [swapK, Kp.set, hne]
  have eh : (swapK K b h L M).ρ h = some ⟨M.gen + 1, L.blk, L.org, L.sz, 0⟩ := by simp [swapK, Kp.set]
  have eo : ∀ x, x ≠ b → x ≠ h → (swapK K b h L M).ρ x = K.ρ x := fun x h1 h2 => by simp [swapK, Kp.set, h1, h2]
  have hle : K.le (swapK K b h L M) := by
    refine ⟨fun x L0 hx => ?_, fun _ _ _ h => h⟩
    by_cases e : x = h
    · subst e
      rw [hM] at hx; cases hx
      exact ⟨_, eh, Nat.le_succ _, fun e => by simp at e⟩
    · by_cases e2 : x = b
      · subst e2
        rw [hL] at hx; cases hx
        exact ⟨_, eb, Nat.le_succ _, fun e => by simp at e⟩
      · exact ⟨L0, by rw [eo x e2 e]; exact hx, Nat.le_refl _, fun _ => rfl⟩
  have gb : ((H.set b { rows := C.rows, gen := L.gen + 1 }).set h { rows := [], gen := M.gen + 1 })[b]? = some { rows := C.rows, gen := L.gen + 1 } := by
    rw [List.getElem?_set_ne (Ne.symm hne), List.getElem?_set_self hblt]
  have gh : ((H.set b { rows := C.rows, gen := L.gen + 1 }).set h { rows := [], gen := M.gen + 1 })[h]? = some { rows := [], gen := M.gen + 1 } := by
    rw [List.getElem?_set_self (by simpa using hhlt)]
  have go : ∀ x, x ≠ b → x ≠ h → ((H.set b { rows := C.rows, gen := L.gen + 1 }).set h { rows := [], gen := M.gen + 1 })[x]? = H[x]? := fun x h1 h2 => by
    rw [List.getElem?_set_ne (Ne.symm h2), List.getElem?_set_ne (Ne.symm h1)]
  refine ⟨hle, ⟨fun x L' hx => ?_, fun x y L1 L2 hx hy e => ?_, hR.claim, fun x L' X hx hX hr hf i hi => ?_, by simpa using hR.low⟩⟩
  · by_cases e1 : x = b
    · subst e1
      rw [eb] at hx; cases hx
      exact ⟨_, gb, (okC.regen _).mono hle⟩
    · by_cases e2 : x = h
      · subst e2
        rw [eh] at hx; cases hx
        exact ⟨_, gh, ⟨rfl, okB.lt, by simp, by simp, fun i hi => absurd hi (Nat.not_lt_zero _), fun hi _ => absurd hi (Nat.lt_irrefl _), by simp, fun t ht => by cases ht⟩⟩
      · rw [eo x e1 e2] at hx
        obtain ⟨X, hX, ok⟩ := hR.blk x L' hx
        exact ⟨X, by rw [go x e1 e2]; exact hX, ok.mono hle⟩
  · have back : ∀ x L', (swapK K b h L M).ρ x = some L' → ∃ y L0, K.ρ y = some L0 ∧ L0.blk = L'.blk ∧ y = if x = b then h else if x = h then b else x := by
      intro x L' hx
      by_cases e1 : x = b
      · subst e1
        rw [eb] at hx; cases hx
        exact ⟨h, M, hM, rfl, by simp⟩
      · by_cases e2 : x = h
        · subst e2
          rw [eh] at hx; cases hx
          exact ⟨b, L, hL, rfl, by simp [e1]⟩
        · rw [eo x e1 e2] at hx
          exact ⟨x, L', hx, rfl, by simp [e1, e2]⟩
    obtain ⟨x', L1', h1, h2, h3⟩ := back x L1 hx
    obtain ⟨y', L2', h4, h5, h6⟩ := back y L2 hy
    have := hR.inj _ _ _ _ h1 h4 (by rw [h2, h5, e])
    have hinv : ∀ x, (if (if x = b then h else if x = h then b else x) = b then h else if (if x = b then h else if x = h then b else x) = h then b else (if x = b then h else if x = h then b else x)) = x := by
      intro x
      by_cases e1 : x = b
      · rw [if_pos e1, if_neg (Ne.symm hne), if_pos rfl, e1]
      · rw [if_neg e1]
        by_cases e2 : x = h
        · rw [if_pos e2, if_pos rfl, e2]
        · rw [if_neg e2, if_neg e1, if_neg e2]
    rw [h3, h6] at this
    rw [← hinv x, ← hinv y, this]
  · by_cases e1 : x = b
    · subst e1
      rw [eb] at hx; cases hx
      exact hR.own h M C hM hC hh hfC i hi
    · by_cases e2 : x = h
      · subst e2
        rw [eh] at hx; cases hx
        exact hR.own b L B hL hB hb hfB i hi
      · rw [eo x e1 e2] at hx
        rw [go x e1 e2] at hX
        exact hR.own x L' X hx hX hr hf i hi
end Go.Vs
/- slices.Insert: its text, run where the room is known. -/
namespace Go.Vs
open Go Go.RowKit
variable {pg : Pg} {ro : Nat} {H : Hp} {f sz bt k : Nat} {z : List IV}

def capV (H : Hp) : IV → Option (IV × Hp)
  | .nsl => some (.int .i64 0, H)
  | .imm rows true => some (.int .i64 rows.length, H)
  | .arr b g _ _ cap true => (blkAt H b g).bind fun _ => some (.int .i64 cap, H)
  | _ => none
@[simp] theorem doIns_capo {cf : CallF} {e : Env} {x : Opd} : doIns cf ro e H (.capo x) = capV H (ev e x) := rfl
@[simp] theorem doIns_copyq {cf : CallF} {e : Env} {x y : Opd} : doIns cf ro e H (.copy sz x y) = copyV ro H sz (ev e x) (ev e y) := rfl
@[simp] theorem doIns_ovl {cf : CallF} {e : Env} {x y : Opd} : doIns cf ro e H (.ovl x y) = (ovlV H (ev e x) (ev e y)).bind fun v => some (v, H) := rfl
@[simp] theorem doIns_insv {cf : CallF} {e : Env} {s i v : Opd} : doIns cf ro e H (.insv sz bt s i v) = insV ro H sz bt (ev e s) (ev e i) (ev e v) := rfl
def apzI (H : Hp) (sz b : Nat) (z : List IV) (x : IV) : IV → Option (IV × Hp)
  | .int _ n => if 0 ≤ n then apzV H sz b z x n.toNat else none
  | _ => none
@[simp] theorem doIns_apz {cf : CallF} {e : Env} {x n : Opd} : doIns cf ro e H (.apz sz bt z x n) = apzI H sz bt z (ev e x) (ev e n) := by
  simp only [doIns, apzI]; cases ev e n <;> rfl
@[simp] theorem apzI_int {kk : IntKind} {n : Int} {x : IV} : apzI H sz bt z x (.int kk n) = if 0 ≤ n then apzV H sz bt z x n.toNat else none := rfl

theorem copyV_at {b g off len cap : Nat} {ex : Bool} {B : Bk} {y : IV} {ys : List (List IV)} (hB : H[b]? = some B) (hg : B.gen = g) (hro : ro ≤ b) (hfz : B.frz = false) (hy : rowsOf H y = some ys) (hs : szOk sz ys = true) (hsB : szOk sz B.rows = true) {m : Nat} (hm : min ys.length len = m) (hl : off + m ≤ B.rows.length) :
    copyV ro H sz (.arr b g off len cap ex) y = some (.int .i64 m, H.set b { B with rows := B.rows.take off ++ ys.take m ++ B.rows.drop (off + m) }) := by
  subst hm
  subst hg
  have h1 : ¬ (szOk sz B.rows = false ∨ B.rows.length < off + min ys.length len) := by simp only [hsB]; simp; omega
  simp only [copyV, hy, Option.bind_some, hs, wbl, hro, if_true, blkAt_eq, hB, hfz]
  rw [if_neg (by simp)]
  simp only [Bool.false_eq_true, if_false, Option.bind_some]
  rw [if_neg h1, ← hfz]

theorem all_szOk {rows : List (List IV)} (h : ∀ r ∈ rows, r.length = sz) : szOk sz rows = true := szOk_all h

theorem ins_grow (h0 : pg f = some ⟨3, insCd sz bt k z, [.t 6]⟩) {b g off n cap i c gc voff m vcap : Nat} {vex : Bool} {B C : Bk} {R Y : List (List IV)} (hB : H[b]? = some B) (hg : B.gen = g) (hsB : ∀ r ∈ B.rows, r.length = sz) (hBl : off + n ≤ B.rows.length) (hnc : n ≤ cap) (hC : H[c]? = some C) (hgc : C.gen = gc) (hCl : voff + m ≤ C.rows.length)
    (hR : R = (B.rows.drop off).take n) (hY : Y = (C.rows.drop voff).take m) (hin : i < n) (hm : 0 < m) (hsY : ∀ r ∈ Y, r.length = sz) (hroom : (n + m) * bt ≤ room) (hbt : 0 < bt) (hz : z.length = sz) (hro : ro ≤ H.length) (hgr : cap < n + m) :
    callW pg ro f [.arr b g off n cap true, .int .i64 i, .arr c gc voff m vcap vex] H = some (.arr H.length 0 0 (n + m) (n + m) false, H ++ [{ rows := R.take i ++ Y ++ R.drop i }]) := by
  have hRl : R.length = n := by rw [hR]; simp; omega
  have hYl : Y.length = m := by rw [hY]; simp; omega
  have hsR : ∀ r ∈ R, r.length = sz := fun r hr => hsB r (List.mem_of_mem_drop (List.mem_of_mem_take (by rw [hR] at hr; exact hr)))
  have hnm : n + m ≤ room := Nat.le_trans (Nat.le_mul_of_pos_right _ hbt) hroom
  have hrm : room = 140737488355328 := by decide
  have hb : b < H.length := (List.getElem?_eq_some_iff.1 hB).1
  have hc : c < H.length := (List.getElem?_eq_some_iff.1 hC).1
  have wnm : IntKind.i64.wrap ((n : Int) + m) = n + m := by rw [IntKind.wrap_i64]; omega
  have wim : IntKind.i64.wrap ((i : Int) + m) = i + m := by rw [IntKind.wrap_i64]; omega
  have wd : IntKind.i64.wrap ((n : Int) + m - i) = ((n + m - i : Nat) : Int) := by rw [IntKind.wrap_i64]; omega
  have hi0 : ¬ (m : Int) = 0 := by omega
  have hin' : ¬ (i : Int) = n := by omega
  have hgr' : (cap : Int) < n + m := by omega
  have hpos : (0 : Int) ≤ (i : Int) + m := by omega
  have htn : ((i : Int) + m).toNat = i + m := by omega
  -- the new row
  obtain ⟨H1, hH1⟩ : ∃ H1 : Hp, H1 = H ++ [{ rows := R.take i ++ List.replicate (n + m - i) z }] := ⟨_, rfl⟩
  obtain ⟨H2, hH2⟩ : ∃ H2 : Hp, H2 = H ++ [{ rows := R.take i ++ Y ++ List.replicate (n - i) z }] := ⟨_, rfl⟩
  have s12 : slSl H sz (.arr b g off n cap true) i none none = some (.arr b g (off + i) (n - i) (cap - i) true) := by
    have : i ≤ n := by omega
    simp [hB, hg, this, hnc, hBl, szOk_all hsB]
  have s34 : slSl H sz (.arr b g off n cap true) 0 (some i) none = some (.arr b g off i cap true) := by
    have h1 : i ≤ cap := by omega
    have h2 : off + i ≤ B.rows.length := by omega
    simp [hB, hg, h1, h2, szOk_all hsB]
  have hap : apzV H sz bt z (.arr b g off i cap true) (n + m - i) = some (.arr H.length 0 0 (n + m) (n + m) false, H1) := by
    have e1 : (B.rows.drop off).take i = R.take i := by rw [hR, List.take_take, Nat.min_eq_left (by omega)]
    have e2 : (R.take i ++ List.replicate (n + m - i) z).length = n + m := by rw [List.length_append, List.length_take, List.length_replicate, hRl]; omega
    have c1 : szOk sz B.rows = true ∧ off + i ≤ B.rows.length ∧ 0 < n + m - i ∧ cap < i + (n + m - i) := ⟨szOk_all hsB, by omega, by omega, by omega⟩
    simp only [apzV, blkAt_eq, hB, Option.bind_some, hg, if_true, if_pos c1, newArr, e1, e2, hroom, hH1]
  have g1 : H1[H.length]? = some { rows := R.take i ++ List.replicate (n + m - i) z } := by rw [hH1]; simp
  have g2 : H2[H.length]? = some { rows := R.take i ++ Y ++ List.replicate (n - i) z } := by rw [hH2]; simp
  have z1 : szOk sz (R.take i ++ List.replicate (n + m - i) z) = true := szOk_all fun r hr => by
    rcases List.mem_append.1 hr with hr | hr
    · exact hsR r (List.mem_of_mem_take hr)
    · rw [List.eq_of_mem_replicate hr]; exact hz
  have z2 : szOk sz (R.take i ++ Y ++ List.replicate (n - i) z) = true := szOk_all fun r hr => by
    rcases List.mem_append.1 hr with hr | hr
    · rcases List.mem_append.1 hr with hr | hr
      · exact hsR r (List.mem_of_mem_take hr)
      · exact hsY r hr
    · rw [List.eq_of_mem_replicate hr]; exact hz
  have l1 : (R.take i ++ List.replicate (n + m - i) z).length = n + m := by rw [List.length_append, List.length_take, List.length_replicate, hRl]; omega
  have l2 : (R.take i ++ Y ++ List.replicate (n - i) z).length = n + m := by rw [List.length_append, List.length_append, List.length_take, List.length_replicate, hRl, hYl]; omega
  have s43 : slSl H1 sz (.arr H.length 0 0 (n + m) (n + m) false) i none none = some (.arr H.length 0 i (n + m - i) (n + m - i) false) := by
    have : i ≤ n + m := by omega
    rw [slSl_arr, g1]
    simp only [Option.bind_some, if_true, Option.getD_none, l1, z1, this, Nat.zero_add, Nat.le_refl, and_self, Option.isSome_none, Bool.false_or]
  have r1 : rowsOf H1 (.arr c gc voff m vcap vex) = some Y := by
    have : H1[c]? = some C := by rw [hH1, List.getElem?_append_left hc]; exact hC
    simp only [rowsOf, blkAt_eq, this, Option.bind_some, hgc, if_true, hCl, hY]
  have c45 : copyV ro H1 sz (.arr H.length 0 i (n + m - i) (n + m - i) false) (.arr c gc voff m vcap vex) = some (.int .i64 m, H2) := by
    rw [copyV_at g1 rfl hro rfl r1 (szOk_all hsY) z1 (m := m) (by rw [hYl]; omega) (by rw [l1]; omega)]
    congr 2
    have e1 : (R.take i).length = i := by rw [List.length_take, hRl]; omega
    have e3 : (R.take i ++ List.replicate (n + m - i) z).take i = R.take i := by rw [List.take_append_of_le_length (by omega), List.take_of_length_le (by omega)]
    have e4 : (R.take i ++ List.replicate (n + m - i) z).drop (i + m) = List.replicate (n - i) z := by
      rw [List.drop_append, List.drop_eq_nil_of_le (by omega), List.nil_append, List.drop_replicate, e1]
      congr 1; omega
    rw [hH1, hH2, List.set_append_right _ _ (Nat.le_refl _), Nat.sub_self, e3, e4, List.take_of_length_le (by omega : Y.length ≤ m)]
    rfl
  have s50 : slSl H2 sz (.arr H.length 0 0 (n + m) (n + m) false) (i + m) none none = some (.arr H.length 0 (i + m) (n - i) (n - i) false) := by
    have h1 : i + m ≤ n + m := by omega
    have h2 : n + m - (i + m) = n - i := by omega
    rw [slSl_arr, g2]
    simp only [Option.bind_some, if_true, Option.getD_none, l2, z2, h1, h2, Nat.zero_add, Nat.le_refl, and_self, Option.isSome_none, Bool.false_or]
  have gB2 : H2[b]? = some B := by rw [hH2, List.getElem?_append_left hb]; exact hB
  have s53 : slSl H2 sz (.arr b g off n cap true) i none none = some (.arr b g (off + i) (n - i) (cap - i) true) := by
    have : i ≤ n := by omega
    simp [gB2, hg, this, hnc, hBl, szOk_all hsB]
  have r2 : rowsOf H2 (.arr b g (off + i) (n - i) (cap - i) true) = some (R.drop i) := by
    have h1 : off + i + (n - i) ≤ B.rows.length := by omega
    have h2 : (B.rows.drop (off + i)).take (n - i) = R.drop i := by rw [hR, List.drop_take, List.drop_drop]
    simp only [rowsOf, blkAt_eq, gB2, Option.bind_some, hg, if_true, h1, h2]
  have c54 : copyV ro H2 sz (.arr H.length 0 (i + m) (n - i) (n - i) false) (.arr b g (off + i) (n - i) (cap - i) true) = some (.int .i64 (n - i : Nat), H ++ [{ rows := R.take i ++ Y ++ R.drop i }]) := by
    have e0 : (R.drop i).length = n - i := by rw [List.length_drop, hRl]
    rw [copyV_at g2 rfl hro rfl r2 (szOk_all fun r hr => hsR r (List.mem_of_mem_drop hr)) z2 (m := n - i) (by rw [e0, Nat.min_self]) (by rw [l2]; omega)]
    congr 2
    have e1 : (R.take i ++ Y).length = i + m := by rw [List.length_append, List.length_take, hRl, hYl]; omega
    have e3 : (R.take i ++ Y ++ List.replicate (n - i) z).take (i + m) = R.take i ++ Y := by rw [List.take_append_of_le_length (by omega), List.take_of_length_le (by omega)]
    have e4 : (R.take i ++ Y ++ List.replicate (n - i) z).drop (i + m + (n - i)) = [] := List.drop_eq_nil_of_le (by rw [l2]; omega)
    rw [hH2, List.set_append_right _ _ (Nat.le_refl _), Nat.sub_self, e3, e4, List.append_nil, List.take_of_length_le (by omega : (R.drop i).length ≤ n - i)]
    rfl
  rw [callW_eqO (fn := ⟨3, insCd sz bt k z, [.t 6]⟩) h0 rfl]
  have hlv : lenV false (.arr c gc voff m vcap vex) = some m := rfl
  have hls : lenV false (.arr b g off n cap true) = some n := rfl
  have hcv : capV H (.arr b g off n cap true) = some (.int .i64 cap, H) := by simp [capV, blkAt_eq, hB, hg]
  simp [-getElem?_pos, -slSl_arr, insCd, s12, hlv, hls, (show ¬ m = 0 by omega), hin', (show ¬ i = n by omega), wnm, hcv, hgr', s34, wd, hap, s43, c45, wim, hpos, htn, s50, s53, c54]

theorem ins_place (h0 : pg f = some ⟨3, insCd sz bt k z, [.t 6]⟩) {b g off n cap i c gc voff m vcap : Nat} {vex : Bool} {B C : Bk} {R Y : List (List IV)} (hB : H[b]? = some B) (hg : B.gen = g) (hfz : B.frz = false) (hrb : ro ≤ b) (hsB : ∀ r ∈ B.rows, r.length = sz) (hBl : off + cap ≤ B.rows.length) (hC : H[c]? = some C) (hgc : C.gen = gc) (hCl : voff + m ≤ C.rows.length)
    (hR : R = (B.rows.drop off).take n) (hY : Y = (C.rows.drop voff).take m) (hin : i < n) (hm : 0 < m) (hsY : ∀ r ∈ Y, r.length = sz) (hroom : (n + m) * bt ≤ room) (hbt : 0 < bt) (hszp : 0 < sz) (hcb : c ≠ b) (hgr : n + m ≤ cap) :
    callW pg ro f [.arr b g off n cap true, .int .i64 i, .arr c gc voff m vcap vex] H = some (.arr b g off (n + m) cap true, H.set b { B with rows := B.rows.take off ++ (R.take i ++ Y ++ R.drop i) ++ B.rows.drop (off + (n + m)) }) := by
  have hRl : R.length = n := by rw [hR]; simp; omega
  have hYl : Y.length = m := by rw [hY]; simp; omega
  have hsR : ∀ r ∈ R, r.length = sz := fun r hr => hsB r (List.mem_of_mem_drop (List.mem_of_mem_take (by rw [hR] at hr; exact hr)))
  have hnm : n + m ≤ room := Nat.le_trans (Nat.le_mul_of_pos_right _ hbt) hroom
  have hrm : room = 140737488355328 := by decide
  have hb : b < H.length := (List.getElem?_eq_some_iff.1 hB).1
  have wnm : IntKind.i64.wrap ((n : Int) + m) = n + m := by rw [IntKind.wrap_i64]; omega
  have wim : IntKind.i64.wrap ((i : Int) + m) = i + m := by rw [IntKind.wrap_i64]; omega
  have hi0 : ¬ (m : Int) = 0 := by omega
  have hin' : ¬ (i : Int) = n := by omega
  have hgr' : ¬ (cap : Int) < n + m := by omega
  have hpos : (0 : Int) ≤ (i : Int) + m := by omega
  have htn : ((i : Int) + m).toNat = i + m := by omega
  have hpos2 : (0 : Int) ≤ (n : Int) + m := by omega
  have htn2 : ((n : Int) + m).toNat = n + m := by omega
  have zB := szOk_all hsB
  have s12 : slSl H sz (.arr b g off n cap true) i none none = some (.arr b g (off + i) (n - i) (cap - i) true) := by
    have h1 : i ≤ n := by omega
    have h2 : n ≤ cap := by omega
    have h3 : off + n ≤ B.rows.length := by omega
    simp [hB, hg, h1, h2, h3, zB]
  have s60 : slSl H sz (.arr b g off n cap true) 0 (some (n + m)) none = some (.arr b g off (n + m) cap true) := by
    have h3 : off + (n + m) ≤ B.rows.length := by omega
    simp [hB, hg, hgr, h3, zB]
  have s66 : slSl H sz (.arr b g off (n + m) cap true) (i + m) none none = some (.arr b g (off + (i + m)) (n - i) (cap - (i + m)) true) := by
    have h1 : i + m ≤ n + m := by omega
    have h2 : n + m - (i + m) = n - i := by omega
    have h3 : off + (n + m) ≤ B.rows.length := by omega
    rw [slSl_arr, hB]
    simp only [Option.bind_some, hg, if_true, Option.getD_none, h1, hgr, Nat.le_refl, h3, zB, and_self, h2, Option.isSome_none, Bool.false_or]
  have hov : ovlV H (.arr c gc voff m vcap vex) (.arr b g (off + (i + m)) (n - i) (cap - (i + m)) true) = some (.bool false) := by
    obtain ⟨row, hrow⟩ : ∃ row, C.rows[voff]? = some row := ⟨_, List.getElem?_eq_getElem (by omega)⟩
    obtain ⟨row', hrow'⟩ : ∃ row, B.rows[0]? = some row := ⟨_, List.getElem?_eq_getElem (by omega)⟩
    have e1 : 0 < row.length := by
      have : row ∈ Y := by
        rw [hY]
        refine List.mem_of_getElem? (i := 0) ?_
        rw [List.getElem?_take, if_pos hm, List.getElem?_drop, Nat.add_zero]; exact hrow
      rw [hsY row this]; exact hszp
    have e2 : 0 < row'.length := by rw [hsB row' (List.mem_of_getElem? hrow')]; exact hszp
    have c1 : c ≠ b ∧ 0 < m ∧ 0 < n - i ∧ 0 < row.length ∧ 0 < row'.length := ⟨hcb, hm, by omega, e1, e2⟩
    simp only [ovlV, blkAt_eq, hC, hB, Option.bind_some, hgc, hg, if_true, hrow, hrow', if_pos c1]
  have s76 : slSl H sz (.arr b g off (n + m) cap true) i none none = some (.arr b g (off + i) (n + m - i) (cap - i) true) := by
    have h1 : i ≤ n + m := by omega
    have h3 : off + (n + m) ≤ B.rows.length := by omega
    rw [slSl_arr, hB]
    simp only [Option.bind_some, hg, if_true, Option.getD_none, h1, hgr, Nat.le_refl, h3, zB, and_self, Option.isSome_none, Bool.false_or]
  obtain ⟨X1, hX1⟩ : ∃ X1, X1 = B.rows.take (off + (i + m)) ++ R.drop i ++ B.rows.drop (off + (n + m)) := ⟨_, rfl⟩
  have tl : (B.rows.take (off + (i + m))).length = off + (i + m) := by rw [List.length_take]; omega
  have dl : (R.drop i).length = n - i := by rw [List.length_drop, hRl]
  have lX : X1.length = B.rows.length := by rw [hX1, List.length_append, List.length_append, tl, dl, List.length_drop]; omega
  have zX : szOk sz X1 = true := szOk_all fun r hr => by
    rw [hX1] at hr
    rcases List.mem_append.1 hr with hr | hr
    · rcases List.mem_append.1 hr with hr | hr
      · exact hsB r (List.mem_of_mem_take hr)
      · exact hsR r (List.mem_of_mem_drop hr)
    · exact hsB r (List.mem_of_mem_drop hr)
  have r1 : rowsOf H (.arr b g (off + i) (n + m - i) (cap - i) true) = some ((B.rows.drop (off + i)).take (n + m - i)) := by
    have h1 : off + i + (n + m - i) ≤ B.rows.length := by omega
    simp only [rowsOf, blkAt_eq, hB, Option.bind_some, hg, if_true, h1]
  have c77 : copyV ro H sz (.arr b g (off + (i + m)) (n - i) (cap - (i + m)) true) (.arr b g (off + i) (n + m - i) (cap - i) true) = some (.int .i64 (n - i : Nat), H.set b { B with rows := X1 }) := by
    have e0 : ((B.rows.drop (off + i)).take (n + m - i)).length = n + m - i := by rw [List.length_take, List.length_drop]; omega
    rw [copyV_at hB hg hrb hfz r1 (szOk_all fun r hr => hsB r (List.mem_of_mem_drop (List.mem_of_mem_take hr))) zB (m := n - i) (by rw [e0]; omega) (by omega)]
    have e1 : ((B.rows.drop (off + i)).take (n + m - i)).take (n - i) = R.drop i := by
      rw [List.take_take, Nat.min_eq_left (by omega), hR, List.drop_take, List.drop_drop]
    have e2 : off + (i + m) + (n - i) = off + (n + m) := by omega
    rw [e1, e2, ← hX1]
  obtain ⟨H1, hH1⟩ : ∃ H1 : Hp, H1 = H.set b { B with rows := X1 } := ⟨_, rfl⟩
  rw [← hH1] at c77
  have gB1 : H1[b]? = some { B with rows := X1 } := by rw [hH1, List.getElem?_set_self hb]
  have gC1 : H1[c]? = some C := by rw [hH1, List.getElem?_set_ne (Ne.symm hcb)]; exact hC
  have s80 : slSl H1 sz (.arr b g off (n + m) cap true) i none none = some (.arr b g (off + i) (n + m - i) (cap - i) true) := by
    have h1 : i ≤ n + m := by omega
    have h3 : off + (n + m) ≤ X1.length := by omega
    rw [slSl_arr, gB1]
    simp only [Option.bind_some, hg, if_true, Option.getD_none, h1, hgr, Nat.le_refl, h3, zX, and_self, Option.isSome_none, Bool.false_or]
  have r2 : rowsOf H1 (.arr c gc voff m vcap vex) = some Y := by
    simp only [rowsOf, blkAt_eq, gC1, Option.bind_some, hgc, if_true, hCl, hY]
  have c82 : copyV ro H1 sz (.arr b g (off + i) (n + m - i) (cap - i) true) (.arr c gc voff m vcap vex) = some (.int .i64 m, H.set b { B with rows := B.rows.take off ++ (R.take i ++ Y ++ R.drop i) ++ B.rows.drop (off + (n + m)) }) := by
    rw [copyV_at gB1 hg hrb hfz r2 (szOk_all hsY) zX (m := m) (by rw [hYl]; omega) (by simp only [lX]; omega)]
    have e1 : X1.take (off + i) = B.rows.take off ++ R.take i := by
      rw [hX1, List.append_assoc, List.take_append_of_le_length (by rw [tl]; omega), List.take_take, Nat.min_eq_left (by omega), List.take_add, hR, List.take_take, Nat.min_eq_left (by omega)]
    have e2 : X1.drop (off + i + m) = R.drop i ++ B.rows.drop (off + (n + m)) := by
      rw [hX1, List.append_assoc, show off + i + m = (B.rows.take (off + (i + m))).length by rw [tl]; omega, List.drop_left]
    simp only [e1, e2, List.take_of_length_le (by omega : Y.length ≤ m), hH1, List.set_set, List.append_assoc]
  rw [callW_eqO (fn := ⟨3, insCd sz bt k z, [.t 6]⟩) h0 rfl]
  have hlv : lenV false (.arr c gc voff m vcap vex) = some m := rfl
  have hls : lenV false (.arr b g off n cap true) = some n := rfl
  have hcv : capV H (.arr b g off n cap true) = some (.int .i64 cap, H) := by simp [capV, blkAt_eq, hB, hg]
  simp [-getElem?_pos, -slSl_arr, insCd, s12, hlv, hls, (show ¬ m = 0 by omega), hin', (show ¬ i = n by omega), wnm, hcv, hgr', hpos2, htn2, s60, wim, hpos, htn, s66, hov, s76, c77, s80, c82]
end Go.Vs
/- slices.Insert by what it does. -/
namespace Go.Vs
open Go Go.RowKit
variable {P : Program} {f sz bt k : Nat} {z : List IV}

theorem ins_app {pg : Pg} {ro : Nat} {H H' : Hp} {x : IV} (h0 : pg f = some ⟨3, insCd sz bt k z, [.t 6]⟩) {s v : IV} {i m : Nat} {ys : List (List IV)} (hv : rowsOf H v = some ys) (hlv : lenV false v = some m) (hm : ys.length = m) (hm0 : 0 < m) (hls : lenV false s = some i) (hsl : ∃ u, slSl H sz s i none none = some u) (ha : appV ro H sz bt s v = some (x, H')) :
    callW pg ro f [s, .int .i64 i, v] H = some (x, H') := by
  obtain ⟨u, hu⟩ := hsl
  rw [callW_eqO (fn := ⟨3, insCd sz bt k z, [.t 6]⟩) h0 rfl]
  simp [-getElem?_pos, -slSl_arr, insCd, hu, hlv, hls, (show ¬ m = 0 by omega), ha]

theorem Fr.swapped {K K' : Kp} {ro : Nat} {H H1 H2 : Hp} {w w' : World} (hR : Rel K ro H w) {b : Nat} {L L' M : Loc} (hL0 : K.ρ b = some L) (hL : K'.ρ b = some L') (hM : K'.ρ H.length = some M) (hb : ro ≤ b) (hF : Fr K K' ro H.length H1.length w w') (hlen : H.length ≤ H2.length) : Fr K (swapK K' b H.length L' M) ro H.length H2.length w w' := by
  have hblt := hR.lt hL0
  have hne : b ≠ H.length := by omega
  have eb : (swapK K' b H.length L' M).ρ b = some { M with gen := L'.gen + 1 } := by simp [swapK, Kp.set, hne]
  have eh : (swapK K' b H.length L' M).ρ H.length = some ⟨M.gen + 1, L'.blk, L'.org, L'.sz, 0⟩ := by simp [swapK, Kp.set]
  have eo : ∀ x, x ≠ b → x ≠ H.length → (swapK K' b H.length L' M).ρ x = K'.ρ x := fun x h1 h2 => by simp [swapK, Kp.set, h1, h2]
  have hro := hR.low
  refine ⟨hF.bel, hlen, hF.keep, hF.claim, fun x L1 hx => ?_, fun x hx hn => ?_, fun x hx => ?_⟩
  · by_cases e1 : x = b
    · subst e1
      rw [eb] at hx; cases hx
      rcases hF.loc _ M hM with h | ⟨c, L0, hc, h0, e⟩
      · exact .inl h
      · refine .inr ⟨c, L0, ?_, h0, e⟩
        have := hR.lt h0
        omega
    · by_cases e2 : x = H.length
      · subst e2
        rw [eh] at hx; cases hx
        rcases hF.loc _ L' hL with h | ⟨c, L0, hc, h0, e⟩
        · exact .inl h
        · exact .inr ⟨c, L0, by omega, h0, e⟩
      · rw [eo x e1 e2] at hx
        exact hF.loc x L1 hx
  · have e1 : x ≠ b := by rintro rfl; rw [hn] at hL0; cases hL0
    rw [eo x e1 (by omega)]
    exact hF.old x hx hn
  · rw [eo x (by omega) (by omega)]
    exact hF.low x hx

theorem insV_spec (hm : P.follows .mixedOrders = true) (hf : ∃ func an, P.funcs[f]? = some func ∧ func.name ≠ "runtime.NumGoroutine" ∧ cFn P an func = some ⟨3, insCd sz bt k z, [.t 6]⟩) (hszp : 0 < sz) (hbt : 0 < bt) (hz : z.length = sz) : SpecFn P f ⟨3, insW sz bt, [.t 3]⟩ := by
  intro cf ro nn args H x H' hnp hrun
  obtain ⟨s, iv, v, rfl⟩ : ∃ s i v, args = [s, i, v] := by
    match args, hnp with
    | [s, i, v], _ => exact ⟨s, i, v, rfl⟩
  have hins : insV ro H sz bt s iv v = some (x, H') := by
    simp only [insW, runC, doOps, doIns, parE, ev, get] at hrun
    cases hq : insV ro H sz bt s iv v with
    | none => simp [hq, wantE] at hrun
    | some r =>
      obtain ⟨x1, H1⟩ := r
      simpa [hq, wantE, putE, keepE, get, resL, resV, mapO] using hrun
  have hlen := insV_len hins
  have hbody : hasBody P f = true := by
    obtain ⟨func, an, hf1, hname, hc⟩ := hf
    simp only [cFn, Option.bind_eq_some_iff] at hc
    obtain ⟨code, hb, _⟩ := hc
    simp [hasBody, hf1, hb, hname]
  refine ⟨hlen, hbody, fun K w vs hR hA => ?_⟩
  have hpg : PgOk P fun g => if g = f then some ⟨3, insCd sz bt k z, [.t 6]⟩ else none := by
    intro g fn hg
    simp only at hg
    split at hg
    · rename_i e
      cases hg
      subst e
      exact .inl hf
    · cases hg
  have hok := callW_ok hm (prOk P) hpg
  have h0 : (fun g => if g = f then some (⟨3, insCd sz bt k z, [.t 6]⟩ : Fn) else none) f = some ⟨3, insCd sz bt k z, [.t 6]⟩ := if_pos rfl
  generalize (fun g => if g = f then some (⟨3, insCd sz bt k z, [.t 6]⟩ : Fn) else none) = pg at hok h0
  -- the arguments
  obtain ⟨hvs, hvr⟩ := hA
  obtain ⟨v0, v1, v2, rfl⟩ : ∃ a b c, vs = #[a, b, c] := by
    obtain ⟨l⟩ := vs
    simp at hvs
    match l, hvs with
    | [a, b, c], _ => exact ⟨a, b, c, rfl⟩
  have hs0 : VR K s v0 := hvr 0 s v0 rfl rfl
  have hs1 : VR K iv v1 := hvr 1 iv v1 rfl rfl
  have hs2 : VR K v v2 := hvr 2 v v2 rfl rfl
  unfold insV at hins
  split at hins
  rotate_left
  · cases hins
  rename_i i
  split at hins
  · cases hins
  rename_i hineg
  obtain ⟨i, rfl⟩ : ∃ j : Nat, i = j := ⟨i.toNat, by omega⟩
  simp only [Int.toNat_natCast, Option.bind_eq_some_iff] at hins
  obtain ⟨ys, hys, hins⟩ := hins
  split at hins
  · cases hins
  rename_i hcy
  simp only [not_or, Bool.not_eq_false] at hcy
  obtain ⟨hall, hy0, hsl⟩ := hcy
  have hally : ∀ r ∈ ys, r.length = sz := fun r hr => by
    have := List.all_eq_true.1 hall r hr
    simpa using this
  have hyl : lenV false v = some ys.length := by
    cases v <;> simp only [isSl, Bool.false_eq_true] at hsl
    · simp only [rowsOf, Option.some.injEq] at hys
      subst hys; rfl
    · rename_i b g off len cap ex
      simp only [rowsOf, Option.bind_eq_some_iff] at hys
      obtain ⟨B, hB, hys⟩ := hys
      split at hys
      · rename_i hle
        cases hys
        simp only [lenV, List.length_take, List.length_drop]
        congr 1; omega
      · cases hys
  have happ : (lenV false s = some i) → (∃ u, slSl H sz s i none none = some u) → appV ro H sz bt s v = some (x, H') → Calls P f #[v0, v1, v2] w fun e w' => ∃ v, e = .returned v ∧ Step K ro H w H' w' x v := fun h1 h2 h3 =>
    (hok _ _ _ _ _ _ (ins_app h0 hys hyl rfl (by omega) h1 h2 h3)).2.2 K w _ hR ⟨hvs, hvr⟩
  have hy0' : ys ≠ [] := fun e => hy0 (by rw [e]; rfl)
  have hzy : szOk sz ys = true := szOk_all hally
  split at hins
  · -- a row of one's own
    rename_i b g off n cap ex
    obtain ⟨L, hL, hgL, hcur, _⟩ := hs0.arr_inv
    split at hins
    · rename_i hin
      subst hin
      refine happ rfl ?_ hins
      simp only [appV, hys, Option.bind_some, hzy, Bool.true_eq_false, if_false, Option.bind_eq_some_iff] at hins
      obtain ⟨B, hB, hins⟩ := hins
      split at hins
      · cases hins
      · rename_i hc
        simp only [not_or, Bool.not_eq_false, Nat.not_lt] at hc
        obtain ⟨hB', hgen⟩ := blkAt_some hB
        obtain ⟨B', hB'', ok⟩ := hR.blk b L hL
        obtain rfl : B = B' := by rw [hB'] at hB''; exact Option.some.inj hB''
        obtain ⟨A, cap', _, _, _, hlc, _, _⟩ := hcur (by rw [← ok.gen]; exact hgen)
        simp [hB', hgen, hlc, hc.1, hc.2]
    · rename_i hin
      simp only [Option.bind_eq_some_iff] at hins
      obtain ⟨c, hc, B, hB, hins⟩ := hins
      split at hc
      rotate_left
      · cases hc
      rename_i c' gc voff m vcap vex
      cases hc
      split at hins
      rotate_left
      · cases hins
      rename_i hcond
      obtain ⟨hcb, hrb, hfz, hsB, hBl, hil, hroom⟩ := hcond
      cases hins
      have hsB' : ∀ r ∈ B.rows, r.length = sz := fun r hr => by
        have := List.all_eq_true.1 hsB r hr
        simpa using this
      -- what is inserted
      simp only [rowsOf, Option.bind_eq_some_iff] at hys
      obtain ⟨C, hC, hys⟩ := hys
      split at hys
      rotate_left
      · cases hys
      rename_i hCl
      cases hys
      obtain ⟨hC', hgc⟩ := blkAt_some hC
      obtain ⟨hB', hgen⟩ := blkAt_some hB
      obtain ⟨B', hB'', ok⟩ := hR.blk b L hL
      obtain rfl : B = B' := by rw [hB'] at hB''; exact Option.some.inj hB''
      have hLg : L.gen = g := by rw [← ok.gen]; exact hgen
      obtain ⟨A, cap', hxv, hAd, hcc, hlc, hex, hext⟩ := hcur hLg
      have hml : ((C.rows.drop voff).take m).length = m := by simp; omega
      rw [hml] at hroom hy0 ⊢
      have hLsz : L.sz = sz := by
        obtain ⟨row, hrow⟩ : ∃ row, B.rows[0]? = some row := ⟨_, List.getElem?_eq_getElem (by omega)⟩
        rw [← ok.len 0 row hrow, hsB' row (List.mem_of_getElem? hrow)]
      have hblt : b < H.length := (List.getElem?_eq_some_iff.1 hB').1
      -- the row with all its room
      obtain ⟨q, hq⟩ : ∃ q, q = off + cap' - B.rows.length := ⟨_, rfl⟩
      have hqe : (B.rows.length + q) * L.sz ≤ L.ext := by
        rcases Nat.le_total (off + cap') B.rows.length with h | h
        · rw [show B.rows.length + q = B.rows.length by omega]; exact ok.fit
        · rw [show B.rows.length + q = off + cap' by omega]; exact hext
      have okX := ok.more hqe
      have hRX := hR.alter (B' := { B with rows := B.rows ++ List.replicate q (List.replicate L.sz .und) }) hL hB' rfl okX
      obtain ⟨X, hX⟩ : ∃ X : Bk, X = { B with rows := B.rows ++ List.replicate q (List.replicate L.sz .und) } := ⟨_, rfl⟩
      rw [← hX] at hRX
      have hXrows : X.rows = B.rows ++ List.replicate q (List.replicate L.sz .und) := by rw [hX]
      have hXl : off + cap' ≤ X.rows.length := by rw [hXrows, List.length_append, List.length_replicate]; omega
      have hsX : ∀ r ∈ X.rows, r.length = sz := fun r hr => by
        rw [hXrows] at hr
        rcases List.mem_append.1 hr with hr | hr
        · exact hsB' r hr
        · rw [List.eq_of_mem_replicate hr, List.length_replicate, hLsz]
      have hXg : X.gen = g := by rw [hX]; exact hgen
      have hXf : X.frz = false := by rw [hX]; exact hfz
      have gX : (H.set b X)[b]? = some X := List.getElem?_set_self hblt
      have gC : (H.set b X)[c]? = some C := by rw [List.getElem?_set_ne (Ne.symm hcb)]; exact hC'
      have hRows : (X.rows.drop off).take n = (B.rows.drop off).take n := by
        rw [hXrows, List.drop_append_of_le_length (by omega), List.take_append_of_le_length (by rw [List.length_drop]; omega)]
      have hAX : ArgsOk K [.arr b g off n cap' true, .int .i64 i, .arr c gc voff m vcap vex] #[v0, v1, v2] := by
        refine ⟨rfl, fun j y u h1 h2 => ?_⟩
        cases j with
        | zero =>
          cases h1; cases h2
          exact .arr _ _ _ _ _ _ _ _ L hL hgL (fun _ => ⟨A, cap', hxv, hAd, Nat.le_refl _, by omega, fun _ => rfl, hext⟩) ⟨A, cap', hxv⟩
        | succ j => exact hvr (j + 1) y u h1 h2
      by_cases hgr : cap' < n + m
      · -- it moves
        have hrun := ins_grow (ro := ro) (H := H.set b X) h0 gX hXg hsX (by omega) (by omega) gC hgc hCl hRows.symm rfl hil (by omega) hally hroom hbt hz (by simp; exact Nat.le_of_lt (Nat.lt_of_le_of_lt hrb hblt)) hgr (vcap := vcap) (vex := vex)
        refine Calls.mono ((hok _ _ _ _ _ _ hrun).2.2 K w _ hRX hAX) ?_
        rintro e w' ⟨u, rfl, K', hle, hR', hu, hF⟩
        refine ⟨u, rfl, ?_⟩
        rw [List.length_set] at hu hF
        obtain ⟨M, hM, _, hcurM, _⟩ := hu.arr_inv
        obtain ⟨C1, hC1, okC1⟩ := hR'.blk _ M hM
        have hC1e : C1 = { rows := ((B.rows.drop off).take n).take i ++ (C.rows.drop voff).take m ++ ((B.rows.drop off).take n).drop i } := by
          rw [List.getElem?_append_right (by simp)] at hC1
          simp at hC1
          rw [← hC1, List.append_assoc]
        have hMg : M.gen = 0 := by rw [← okC1.gen, hC1e]
        obtain ⟨A2, cap2, hu2, hA2, hcc2, hlc2, _, hext2⟩ := hcurM hMg
        obtain ⟨L', hL', hgL', heL'⟩ := hle.1 b L hL
        obtain ⟨X1, hX1, okX1⟩ := hR'.blk b L' hL'
        have hX1e : X1 = X := by
          rw [List.getElem?_append_left (by simpa using hblt), gX] at hX1
          exact (Option.some.inj hX1).symm
        rw [hX1e] at hX1 okX1
        have hL'e := heL' (by rw [← okX1.gen, hXg, hLg])
        subst hL'e
        obtain ⟨hle2, hR2⟩ := hR'.swap hL' hM hX1 hC1 (by omega) hrb (by omega) hXf (by rw [hC1e])
        refine ⟨_, Kp.le_trans hle hle2, ?_, ?_, hF.swapped hR hL hL' hM hrb (by simp)⟩
        · have e : ((H.set b X ++ [({ rows := ((B.rows.drop off).take n).take i ++ (C.rows.drop voff).take m ++ ((B.rows.drop off).take n).drop i } : Bk)]).set b { rows := C1.rows, gen := L'.gen + 1 }).set H.length { rows := [], gen := M.gen + 1 } =
              H.set b ({ rows := ((B.rows.drop off).take n).take i ++ (C.rows.drop voff).take m ++ ((B.rows.drop off).take n).drop i, gen := g + 1 } : Bk) ++ [({ rows := [], gen := 1 } : Bk)] := by
            rw [List.set_append_left _ _ (by simpa using hblt), List.set_set, List.set_append_right _ _ (by simp), hC1e, hMg, hLg]
            simp
          rw [e] at hR2
          exact hR2
        · refine .arr _ _ _ _ _ _ _ _ { M with gen := L'.gen + 1 } (by simp [swapK, Kp.set, (show b ≠ H.length by omega)]) (by simp [hLg]) (fun _ => ⟨A2, cap2, hu2, hA2, hcc2, hlc2, fun h => (by cases h), hext2⟩) ⟨_, _, hu2⟩
      · -- it grows where it is
        have hrun := ins_place (ro := ro) (H := H.set b X) h0 gX hXg hXf hrb hsX hXl gC hgc hCl hRows.symm rfl hil (by omega) hally hroom hbt hszp hcb (Nat.le_of_not_lt hgr) (vcap := vcap) (vex := vex)
        refine Calls.mono ((hok _ _ _ _ _ _ hrun).2.2 K w _ hRX hAX) ?_
        rintro e w' ⟨u, rfl, K', hle, hR', hu, hF⟩
        refine ⟨u, rfl, ?_⟩
        obtain ⟨R', hR'e⟩ : ∃ R', R' = ((B.rows.drop off).take n).take i ++ (C.rows.drop voff).take m ++ ((B.rows.drop off).take n).drop i := ⟨_, rfl⟩
        have hR'l : R'.length = n + m := by
          rw [hR'e]
          simp only [List.length_append, List.length_take, List.length_drop]
          omega
        rw [← hR'e] at hR' hF ⊢
        rw [List.set_set] at hR' hF
        obtain ⟨Z, hZ⟩ : ∃ Z : Bk, Z = { X with rows := X.rows.take off ++ R' ++ X.rows.drop (off + (n + m)) } := ⟨_, rfl⟩
        rw [← hZ] at hR' hF
        have hZr : Z.rows = X.rows.take off ++ (R' ++ X.rows.drop (off + (n + m))) := by rw [hZ, List.append_assoc]
        have hZg : Z.gen = g := by rw [hZ]; exact hXg
        have hZf : Z.frz = false := by rw [hZ]; exact hXf
        obtain ⟨L', hL', hgL', heL'⟩ := hle.1 b L hL
        obtain ⟨Z1, hZ1, okZ⟩ := hR'.blk b L' hL'
        rw [List.getElem?_set_self hblt] at hZ1
        cases hZ1
        have hL'e := heL' (by rw [← okZ.gen, hZg, hLg])
        subst hL'e
        have htl : (X.rows.take off).length = off := by rw [List.length_take]; omega
        obtain ⟨hle2, hR2, hF2⟩ := hR'.cutHeadT hL' (List.getElem?_set_self hblt) hrb hZf (off := off) (by rw [hZr, List.length_append, htl]; omega) (ty := none) (fun t ht => by cases ht)
        have hdr : Z.rows.drop off = R' ++ X.rows.drop (off + (n + m)) := by
          rw [hZr]
          have := List.drop_left (l₁ := X.rows.take off) (l₂ := R' ++ X.rows.drop (off + (n + m)))
          rw [htl] at this; exact this
        have hL1 : (K'.set b ⟨L'.gen + 1, L'.blk, L'.org + off * L'.sz, L'.sz, L'.ext - off * L'.sz⟩).ρ b = some ⟨L'.gen + 1, L'.blk, L'.org + off * L'.sz, L'.sz, L'.ext - off * L'.sz⟩ := by simp [Kp.set]
        obtain ⟨B2, hB2, ok2⟩ := hR2.blk b _ hL1
        have hR3 := (hR2.alter (B' := { B2 with rows := B2.rows.take (n + m) }) hL1 hB2 rfl (ok2.less (n + m))).grow [({ rows := [], gen := 1 } : Bk)]
        rw [List.getElem?_set_self (by simpa using hblt)] at hB2
        cases hB2
        obtain ⟨A2, cap2, hu2, hA2, hcc2, hlc2, hex2, hext2⟩ : ∃ a cap', u = .slice (some a) (n + m) cap' ∧ (0 < cap' → a = ad L'.blk (L'.org + off * L'.sz)) ∧ _ := by
          obtain ⟨L2, h1, _, h2, _⟩ := hu.arr_inv
          rw [hL'] at h1; cases h1
          exact h2 hLg
        refine ⟨_, Kp.le_trans hle hle2, ?_, ?_, ?_⟩
        · rw [List.set_set, List.set_set] at hR3
          have e : ({ rows := (Z.rows.drop off).take (n + m), gen := L'.gen + 1 } : Bk) = { rows := R', gen := g + 1 } := by
            rw [hdr, List.take_append_of_le_length (by omega), List.take_of_length_le (by omega), hLg]
          have hR4 : Rel _ ro (H.set b ({ rows := (Z.rows.drop off).take (n + m), gen := L'.gen + 1 } : Bk) ++ [({ rows := [], gen := 1 } : Bk)]) w' := hR3
          rw [e] at hR4
          exact hR4
        · refine .arr _ _ _ _ _ _ _ _ _ hL1 (by simp [hLg]) (fun _ => ⟨A2, cap2, hu2, fun h => by rw [hA2 h]; simp, by omega, Nat.le_refl _, fun h => (by cases h), ?_⟩) ⟨_, _, hu2⟩
          simp only [Nat.zero_add]
          rw [Nat.add_mul] at hext2
          omega
        · have F := hF.trans hF2
          exact ⟨F.bel, by simp, F.keep, F.claim, F.loc, fun x hx => F.old x (by simpa using hx), F.low⟩
  · split at hins
    · rename_i hi
      subst hi
      exact happ rfl ⟨.nsl, rfl⟩ hins
    · cases hins
  · rename_i rows fl
    split at hins
    · rename_i hi
      subst hi
      refine happ rfl ?_ hins
      simp only [appV, hys, Option.bind_some, hzy, Bool.true_eq_false, if_false, hy0] at hins
      split at hins
      · rename_i hc
        simp [hc.2]
      · cases hins
    · cases hins
  · cases hins
end Go.Vs
