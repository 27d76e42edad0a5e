/- Texts as rows of bytes. -/
import Derived.Test.YtinmpfflkcnkfaaVsSq
namespace Go.Vs
open Go

def bs (l : List UInt8) : ByteArray := ⟨l.toArray⟩
theorem bs_of (s : ByteArray) : ∃ l, s = bs l := ⟨s.data.toList, by cases s; simp [bs]⟩
@[simp] theorem bs_size {l : List UInt8} : (bs l).size = l.length := by simp [bs, ByteArray.size]
@[simp] theorem bs_toList {l : List UInt8} : (bs l).toList = l := by rw [Go.ByteArray.toList_eq]; simp [bs]
@[simp] theorem bs_dataL {l : List UInt8} : (bs l).data.toList = l := by simp [bs]
@[simp] theorem bs_append {a b : List UInt8} : bs a ++ bs b = bs (a ++ b) := by
  apply ByteArray.ext; rw [ByteArray.data_append]; simp [bs]
theorem bs_extract {l : List UInt8} {a b : Nat} : (bs l).extract a b = bs ((l.drop a).take (b - a)) := by
  apply ByteArray.ext
  rw [ByteArray.data_extract]
  simp [bs, List.extract_toArray, List.extract_eq_take_drop]
theorem bs_inj {a b : List UInt8} : bs a = bs b ↔ a = b := ⟨fun h => by have := congrArg ByteArray.toList h; simpa using this, fun h => by rw [h]⟩

section
variable {cf : CallF} {ro : Nat} {e : Env} {H : Hp}

def istV : IV → IV → Option IV
  | .str s, .int _ i => if 0 ≤ i then (s.data[i.toNat]?).map fun b => .int .u8 b.toNat else none
  | _, _ => none
@[simp] theorem doIns_ist {x i : Opd} : doIns cf ro e H (.ist x i) = (istV (ev e x) (ev e i)).bind fun v => some (v, H) := by
  simp only [doIns]
  cases ev e x <;> first
    | rfl
    | (cases ev e i <;> first
        | rfl
        | (simp only [istV]
           split
           · rename_i s _ i _
             cases s.data[i.toNat]? <;> rfl
           · rfl))
@[simp] theorem istV_bs {l : List UInt8} {k : IntKind} {i : Int} : istV (.str (bs l)) (.int k i) = if 0 ≤ i then (l[i.toNat]?).map fun b => .int .u8 b.toNat else none := by
  simp [istV, bs]
def strV (k : ByteArray → Option IV) : IV → Option IV
  | .str s => k s
  | _ => none
@[simp] theorem strV_str {k : ByteArray → Option IV} {s : ByteArray} : strV k (.str s) = k s := rfl
@[simp] theorem doIns_slst {x : Opd} {lo hi : Option Opd} : doIns cf ro e H (.slst x lo hi) = (strV (fun s => (optB e 0 lo).bind fun l => (optB e s.size hi).bind fun h => slStr s l h) (ev e x)).bind fun v => some (v, H) := by
  simp only [doIns]
  cases ev e x <;> first
    | rfl
    | (simp only [strV_str]
       cases optB e 0 lo with
       | none => rfl
       | some a =>
         simp only [Option.bind_some]
         cases optB e _ hi with
         | none => rfl
         | some b => simp only [Option.bind_some])
@[simp] theorem slStr_bs {l : List UInt8} {a b : Nat} : slStr (bs l) a b = if a ≤ b ∧ b ≤ l.length then some (.str (bs ((l.drop a).take (b - a)))) else none := by
  simp only [slStr, bs_size, bs_extract]
@[simp] theorem lenV_bs {l : List UInt8} : lenV true (.str (bs l)) = some l.length := by simp
@[simp] theorem bin_seq {a b : List UInt8} : binV .eql (.str (bs a)) (.str (bs b)) = some (.bool (a == b)) := by simp [binV, binS]
@[simp] theorem bin_sne {a b : List UInt8} : binV .neq (.str (bs a)) (.str (bs b)) = some (.bool !(a == b)) := by simp [binV, binS]
@[simp] theorem bin_sadd {a b : List UInt8} : binV .add (.str (bs a)) (.str (bs b)) = if ((a.length + b.length : Nat) : Int) > 9223372036854775807 then none else some (.str (bs (a ++ b))) := by
  have : IntKind.i64.max = 9223372036854775807 := by decide
  simp [binV, binS, this]
end

theorem bs0 : (⟨#[]⟩ : ByteArray) = bs [] := rfl
theorem u8_eq {a b : UInt8} : ((a.toNat : Int) = b.toNat) ↔ a = b := by
  rw [Int.natCast_inj]; exact ⟨fun h => UInt8.toNat_inj.1 h, fun h => by rw [h]⟩

end Go.Vs
