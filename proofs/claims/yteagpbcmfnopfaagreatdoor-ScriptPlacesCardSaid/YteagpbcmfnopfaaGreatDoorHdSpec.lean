/- Heads and rows of files, in plain Lean. -/
import Derived.Test.YteagpbcmfnopfaaGreatDoorLeSpec
namespace Go.Proofs.YteagpbcmfnopfaaGreatDoor
open Go.RowKit

structure Hd where
  n : Int
  k : Int
  c : Int

def Hd.right (h : Hd) : Bool := decide (h.n ≤ 4294967296) && decide (1 ≤ h.k) && decide (h.k ≤ 1048576) && decide (0 ≤ h.c) && decide (h.c ≤ 2147483648)

def tgx1 : List UInt8 := [84, 71, 88, 49]
def xgt1 : List UInt8 := [88, 71, 84, 49]

def Hd.raw (h : Hd) : List UInt8 := tgx1 ++ leN h.n.toNat 8 ++ leN h.k.toNat 4 ++ leN h.c.toNat 4
def Hd.bytes (h : Hd) : List UInt8 := sealL h.raw

theorem Hd.raw_length (h : Hd) : h.raw.length = 20 := by simp [Hd.raw, tgx1, leN_length]
theorem Hd.bytes_length (h : Hd) : h.bytes.length = 24 := by rw [Hd.bytes, sealL_length, Hd.raw_length]

theorem numL_append (l m : List UInt8) : numL (l ++ m) = numL l + 256 ^ l.length * numL m := by
  induction l with
  | nil => simp [numL]
  | cons b l ih =>
    simp only [List.cons_append, numL, ih, List.length_cons, Nat.pow_succ]
    rw [Nat.mul_add, Nat.mul_comm (256 ^ l.length) 256, Nat.mul_assoc, Nat.add_assoc]

theorem numL_leN (v : Nat) : ∀ n, numL (leN v n) = v % 256 ^ n
  | 0 => by simp [leN, numL]; omega
  | n + 1 => by
    simp only [leN]
    rw [numL_append, numL_leN v n, leN_length]
    show v % 256 ^ n + 256 ^ n * ((v / 256 ^ n) % 256 + 256 * 0) = v % (256 ^ n * 256)
    rw [Nat.mod_mul, Nat.mul_zero, Nat.add_zero]

theorem numL_leN_lt {v n : Nat} (h : v < 256 ^ n) : numL (leN v n) = v := by
  rw [numL_leN, Nat.mod_eq_of_lt h]

/-- What a reader of a head tells: the head, an error. -/
def hdRead (l : List UInt8) : Hd × Int :=
  if l.length < 24 then (⟨0, 0, 0⟩, 20) else
  if l.take 4 ≠ tgx1 then (⟨0, 0, 0⟩, 27) else
  if openL (l.take 24) = none then (⟨0, 0, 0⟩, 28) else
  if Hd.right ⟨numL ((l.drop 4).take 8), numL ((l.drop 12).take 4), numL ((l.drop 16).take 4)⟩ then (⟨numL ((l.drop 4).take 8), numL ((l.drop 12).take 4), numL ((l.drop 16).take 4)⟩, 0) else (⟨0, 0, 0⟩, 26)

theorem hdRead_bytes (h : Hd) (hr : h.right = true) (h0 : 0 ≤ h.n) (m : List UInt8) : hdRead (h.bytes ++ m) = (h, 0) := by
  obtain ⟨n, k, c⟩ := h
  simp only [Hd.right, Bool.and_eq_true, decide_eq_true_eq] at hr
  dsimp only at h0
  obtain ⟨⟨⟨⟨h1, h2⟩, h3⟩, h4⟩, h5⟩ := hr
  have hl : (Hd.bytes ⟨n, k, c⟩).length = 24 := Hd.bytes_length _
  have e1 : (Hd.bytes ⟨n, k, c⟩ ++ m).take 24 = Hd.bytes ⟨n, k, c⟩ := by rw [← hl]; simp
  have hb : Hd.bytes ⟨n, k, c⟩ ++ m = tgx1 ++ (leN n.toNat 8 ++ (leN k.toNat 4 ++ (leN c.toNat 4 ++ (le4 (crcSum (Hd.raw ⟨n, k, c⟩)) ++ m)))) := by
    simp [Hd.bytes, sealL, Hd.raw, List.append_assoc]
  have a1 : (Hd.bytes ⟨n, k, c⟩ ++ m).take 4 = tgx1 := by rw [hb]; simp [tgx1]
  have a2 : ((Hd.bytes ⟨n, k, c⟩ ++ m).drop 4).take 8 = leN n.toNat 8 := by
    rw [hb, List.drop_left' (by simp [tgx1]), List.take_left' (leN_length _ _)]
  have a3 : ((Hd.bytes ⟨n, k, c⟩ ++ m).drop 12).take 4 = leN k.toNat 4 := by
    rw [hb, show (12 : Nat) = 4 + 8 from rfl, ← List.drop_drop, List.drop_left' (by simp [tgx1]), List.drop_left' (leN_length _ _), List.take_left' (leN_length _ _)]
  have a4 : ((Hd.bytes ⟨n, k, c⟩ ++ m).drop 16).take 4 = leN c.toNat 4 := by
    rw [hb, show (16 : Nat) = 4 + (8 + 4) from rfl, ← List.drop_drop, ← List.drop_drop, List.drop_left' (by simp [tgx1]), List.drop_left' (leN_length _ _), List.drop_left' (leN_length _ _), List.take_left' (leN_length _ _)]
  unfold hdRead
  rw [if_neg (by rw [List.length_append]; omega), a1, if_neg (by simp), e1, show openL (Hd.bytes ⟨n, k, c⟩) = some _ from openL_seal _, if_neg (by simp), a2, a3, a4,
    numL_leN_lt (by omega), numL_leN_lt (by omega), numL_leN_lt (by omega), Int.toNat_of_nonneg h0, Int.toNat_of_nonneg (by omega), Int.toNat_of_nonneg h4]
  rw [if_pos (by simp [Hd.right]; omega)]

end Go.Proofs.YteagpbcmfnopfaaGreatDoor
