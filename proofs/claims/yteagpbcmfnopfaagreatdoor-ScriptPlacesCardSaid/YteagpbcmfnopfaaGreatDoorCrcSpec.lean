/- Sums of bytes, in plain Lean. -/
import Derived.Test.YteagpbcmfnopfaaGreatDoorBase
namespace Go.Proofs.YteagpbcmfnopfaaGreatDoor
open Go.RowKit

def crc1 (x : Nat) : Nat := if x % 2 = 1 then (x / 2) ^^^ 3988292384 else x / 2
def crcN : Nat → Nat → Nat
  | 0, x => x
  | n + 1, x => crc1 (crcN n x)
def crcStep (s : Nat) (b : UInt8) : Nat := crcN 8 (s ^^^ b.toNat)
def crcAll (s : Nat) (l : List UInt8) : Nat := l.foldl crcStep s
def crcSum (l : List UInt8) : Nat := 4294967295 ^^^ crcAll 4294967295 l
def le4 (n : Nat) : List UInt8 := [UInt8.ofNat n, UInt8.ofNat (n / 256), UInt8.ofNat (n / 65536), UInt8.ofNat (n / 16777216)]
def sealL (l : List UInt8) : List UInt8 := l ++ le4 (crcSum l)

theorem crc1_lt {x : Nat} (h : x < 4294967296) : crc1 x < 4294967296 := by
  unfold crc1
  split
  · exact Nat.xor_lt_two_pow (n := 32) (by omega) (by omega)
  · omega

theorem crcN_lt {x : Nat} (h : x < 4294967296) : ∀ n, crcN n x < 4294967296
  | 0 => h
  | n + 1 => crc1_lt (crcN_lt h n)

theorem crcStep_lt {s : Nat} (h : s < 4294967296) (b : UInt8) : crcStep s b < 4294967296 :=
  crcN_lt (Nat.xor_lt_two_pow (n := 32) h (by have := b.toNat_lt; omega)) 8

theorem crcAll_lt : ∀ (l : List UInt8) {s : Nat}, s < 4294967296 → crcAll s l < 4294967296
  | [], _, h => h
  | b :: l, _, h => crcAll_lt l (crcStep_lt h b)

theorem crcAll_snoc (s : Nat) (l : List UInt8) (b : UInt8) : crcAll s (l ++ [b]) = crcStep (crcAll s l) b := by
  simp [crcAll]

theorem and_one (x : Nat) (h : x < 4294967296) : (bits .and .u32 (x : Int) 1 == 1) = decide (x % 2 = 1) := by
  have : bits .and .u32 (x : Int) (1 : Nat) = ((x &&& 1 : Nat) : Int) := u32_and_nat x 1 h (by omega)
  rw [show (1 : Int) = ((1 : Nat) : Int) from rfl, this, Nat.and_one_is_mod]
  by_cases e : x % 2 = 1 <;> simp [e] <;> omega

theorem xor_turned (x : Nat) (h : x < 4294967296) : bits .xor .u32 (x : Int) 3988292384 = ((x ^^^ 3988292384 : Nat) : Int) := u32_xor_nat x 3988292384 h (by omega)

theorem crcSum_lt (l : List UInt8) : crcSum l < 4294967296 :=
  Nat.xor_lt_two_pow (n := 32) (by omega) (crcAll_lt l (by omega))

theorem not_all (x : Nat) (h : x < 4294967296) : bits .xor .u32 (IntKind.u32.max) (x : Int) = ((4294967295 ^^^ x : Nat) : Int) := u32_xor_nat 4294967295 x (by omega) h

end Go.Proofs.YteagpbcmfnopfaaGreatDoor
