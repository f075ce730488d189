/- Plain facts on numbers in bytes. -/
import Derived.Laws.BitsAllLaws
import Derived.Laws.Bits64
import Derived.WalkKit
namespace Go.Proofs.YtggkebngkkddhaaDoor
open Go.RowKit

/-- The number that bytes contain, the least significant one first. -/
def leVal : List UInt8 → Nat
  | [] => 0
  | b :: l => b.toNat + 256 * leVal l
theorem leVal_lt (l : List UInt8) : leVal l < 2 ^ (8 * l.length) := by
  induction l with
  | nil => simp [leVal]
  | cons b l ih =>
    have := b.toNat_lt
    simp only [leVal, List.length_cons, Nat.mul_add, Nat.pow_add]
    omega
theorem leVal_append (l m : List UInt8) : leVal (l ++ m) = leVal l + 2 ^ (8 * l.length) * leVal m := by
  induction l with
  | nil => simp [leVal]
  | cons b l ih =>
    have e : 2 ^ (8 * (l.length + 1)) = 256 * 2 ^ (8 * l.length) := by rw [Nat.mul_add, Nat.pow_add]; omega
    simp only [List.cons_append, leVal, ih, List.length_cons]
    rw [e, Nat.mul_assoc, Nat.mul_add, Nat.add_assoc]
theorem leVal_or (v b k : Nat) (hv : v < 2 ^ (8 * k)) (hb : b < 256) (hk : k < 8) :
    bits BinOp.or IntKind.u64 (v : Int) (IntKind.u64.wrap (IntKind.u64.wrap (b : Int) * 2 ^ (8 * k))) = ((v + 2 ^ (8 * k) * b : Nat) : Int) := by
  have e1 : (IntKind.u64.wrap (b : Int)) = (b : Int) := by rw [IntKind.wrap_u64]; omega
  have hp : (2 : Nat) ^ (8 * k) ≤ 2 ^ 56 := Nat.pow_le_pow_right (by decide) (by omega)
  have hm : b * 2 ^ (8 * k) < 18446744073709551616 := by
    have : b * 2 ^ (8 * k) ≤ 255 * 2 ^ 56 := Nat.mul_le_mul (by omega) hp
    omega
  have e2 : IntKind.u64.wrap ((b : Int) * 2 ^ (8 * k)) = ((b * 2 ^ (8 * k) : Nat) : Int) := by
    have e : ((b : Int) * 2 ^ (8 * k)) = ((b * 2 ^ (8 * k) : Nat) : Int) := by rw [Int.natCast_mul, Int.natCast_pow]; rfl
    rw [IntKind.wrap_u64, e]
    generalize b * 2 ^ (8 * k) = m at hm
    omega
  rw [e1, e2, u64_or_nat _ _ (by omega) hm, Nat.mul_comm b, Nat.or_comm, ← Nat.two_pow_add_eq_or_of_lt hv, Nat.add_comm]
theorem leVal_step (x : ByteArray) (k : Nat) (hk : k < x.size) (h8 : x.size ≤ 8) :
    bits BinOp.or IntKind.u64 (leVal (x.data.toList.take k)) (IntKind.u64.wrap (IntKind.u64.wrap (x[k].toNat : Int) * 2 ^ (8 * k))) = leVal (x.data.toList.take (k + 1)) := by
  have hk' : k < x.data.toList.length := by simpa using hk
  have hl : (x.data.toList.take k).length = k := by rw [List.length_take]; omega
  have hlt := leVal_lt (x.data.toList.take k)
  rw [hl] at hlt
  rw [leVal_or _ _ _ hlt x[k].toNat_lt (by omega), List.take_succ_eq_append_getElem hk', leVal_append, hl]
  have e3 : leVal [x.data.toList[k]] = x[k].toNat := by simp [leVal]; rfl
  rw [e3]
end Go.Proofs.YtggkebngkkddhaaDoor
