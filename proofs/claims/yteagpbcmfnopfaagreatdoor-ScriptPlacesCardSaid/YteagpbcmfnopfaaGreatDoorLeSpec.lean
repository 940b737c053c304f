/- Numbers as bytes, sealed bytes, in plain Lean. -/
import Derived.Test.YteagpbcmfnopfaaGreatDoorCrcSpec
namespace Go.Proofs.YteagpbcmfnopfaaGreatDoor
open Go.RowKit

def leN (v : Nat) : Nat → List UInt8
  | 0 => []
  | n + 1 => leN v n ++ [UInt8.ofNat (v / 256 ^ n)]

theorem leN_length (v n : Nat) : (leN v n).length = n := by
  induction n with
  | zero => rfl
  | succ n ih => simp [leN, ih]

theorem leN_four (v : Nat) : leN v 4 = le4 v := by simp [leN, le4]

def numL : List UInt8 → Nat
  | [] => 0
  | b :: l => b.toNat + 256 * numL l

theorem numL_lt (l : List UInt8) : numL l < 256 ^ l.length := by
  induction l with
  | nil => simp [numL]
  | cons b l ih =>
    have := b.toNat_lt
    simp only [numL, List.length_cons, Nat.pow_succ]
    omega

theorem numL_snoc (l : List UInt8) (b : UInt8) : numL (l ++ [b]) = numL l + b.toNat * 256 ^ l.length := by
  induction l with
  | nil => simp [numL]
  | cons c l ih =>
    simp only [List.cons_append, numL, ih, List.length_cons, Nat.pow_succ]
    rw [Nat.mul_add, Nat.mul_comm (256 ^ l.length) 256, ← Nat.mul_assoc b.toNat, Nat.mul_comm b.toNat 256, Nat.mul_assoc 256, Nat.add_assoc]

theorem or_snoc (v b k : Nat) (hv : v < 256 ^ k) : v ||| b * 256 ^ k = v + b * 256 ^ k := by
  have hp : 256 ^ k = 2 ^ (8 * k) := by rw [Nat.pow_mul]
  rw [hp] at hv ⊢
  have := Nat.two_pow_add_eq_or_of_lt hv b
  rw [Nat.or_comm, Nat.mul_comm b, ← this, Nat.add_comm]

theorem u64w {n : Int} (h0 : 0 ≤ n) (h1 : n ≤ 18446744073709551615) : IntKind.u64.wrap n = n := by
  simp [IntKind.wrap, IntKind.bits, IntKind.signed]; omega

theorem or_byte (v k : Nat) (b : UInt8) (hk : k < 8) (hv : v < 256 ^ k) : bits .or .u64 (v : Int) (IntKind.u64.wrap (IntKind.u64.wrap (b.toNat : Int) * 2 ^ (8 * k))) = ((v + b.toNat * 256 ^ k : Nat) : Int) := by
  have hb := b.toNat_lt
  have hp : 256 ^ k = 2 ^ (8 * k) := by rw [Nat.pow_mul]
  have hlt : b.toNat * 256 ^ k < 18446744073709551616 := by
    have : 256 ^ k * 256 ≤ 18446744073709551616 := by
      rw [← Nat.pow_succ]
      exact Nat.pow_le_pow_right (n := 256) (by omega) (show k + 1 ≤ 8 by omega)
    calc b.toNat * 256 ^ k < 256 * 256 ^ k := Nat.mul_lt_mul_of_pos_right (by omega) (Nat.pow_pos (by omega))
      _ ≤ _ := by omega
  have hv' : v < 18446744073709551616 := Nat.lt_of_lt_of_le hv (by
    have : 256 ^ k ≤ 256 ^ 8 := Nat.pow_le_pow_right (by omega) (by omega)
    omega)
  have e1 : IntKind.u64.wrap (b.toNat : Int) = (b.toNat : Int) := u64w (by omega) (by omega)
  have e2 : IntKind.u64.wrap (IntKind.u64.wrap (b.toNat : Int) * 2 ^ (8 * k)) = ((b.toNat * 256 ^ k : Nat) : Int) := by
    rw [e1, hp]
    rw [show ((b.toNat : Int) * 2 ^ (8 * k)) = ((b.toNat * 2 ^ (8 * k) : Nat) : Int) from by push_cast; rfl]
    rw [hp] at hlt
    exact u64w (by omega) (by omega)
  rw [e2, u64_or_nat _ _ hv' hlt, or_snoc _ _ _ hv]

def openL (l : List UInt8) : Option (List UInt8) := if l.length < 4 ∨ sealL (l.take (l.length - 4)) ≠ l then none else some (l.take (l.length - 4))

theorem sealL_length (l : List UInt8) : (sealL l).length = l.length + 4 := by simp [sealL, le4]

theorem openL_seal (l : List UInt8) : openL (sealL l) = some l := by
  have h : (sealL l).take ((sealL l).length - 4) = l := by rw [sealL_length]; simp [sealL]
  unfold openL
  rw [h, sealL_length, if_neg (by simp)]

end Go.Proofs.YteagpbcmfnopfaaGreatDoor
