/- What package script computes, in plain Lean. -/
import Derived.Test.YteagpbcmfnopfaaGreatDoorScanSpec
namespace Go.Proofs.YteagpbcmfnopfaaGreatDoor
open Go.RowKit

structure Cmd where
  k : Int
  t : Int
  u : Int
  v : Int
  deriving DecidableEq

def wSeek : ByteArray := ⟨#[115, 101, 101, 107]⟩
def wConnected : ByteArray := ⟨#[99, 111, 110, 110, 101, 99, 116, 101, 100]⟩
def wSize : ByteArray := ⟨#[115, 105, 122, 101]⟩
def wCount : ByteArray := ⟨#[99, 111, 117, 110, 116]⟩
def wHas : ByteArray := ⟨#[104, 97, 115]⟩
def wDegree : ByteArray := ⟨#[100, 101, 103, 114, 101, 101]⟩

def wordsL : List (Int × ByteArray) := [(1, wSeek), (2, wConnected), (3, wSize), (4, wCount), (5, wHas), (6, wDegree)]

def kindOf (s : ByteArray) : Int :=
  if s = wSeek then 1 else if s = wConnected then 2 else if s = wSize then 3 else if s = wCount then 4 else if s = wHas then 5 else if s = wDegree then 6 else 0

def Cmd.right (c : Cmd) : Bool :=
  if c.k = 1 then decide (0 ≤ c.t) && decide (c.u = 0) && decide (c.v = 0)
  else if c.k = 2 ∨ c.k = 5 then decide (c.t = 0)
  else if c.k = 3 ∨ c.k = 6 then decide (c.t = 0) && decide (c.v = 0)
  else if c.k = 4 then decide (c.t = 0) && decide (c.u = 0) && decide (c.v = 0)
  else false

def Cmd.bare (c : Cmd) : Cmd :=
  if c.k = 1 then ⟨c.k, c.t, 0, 0⟩ else if c.k = 2 ∨ c.k = 5 then ⟨c.k, 0, c.u, c.v⟩ else if c.k = 3 ∨ c.k = 6 then ⟨c.k, 0, c.u, 0⟩ else ⟨c.k, 0, 0, 0⟩

/-- How many small letters a text begins with. -/
def nlFrom (s : ByteArray) : Nat → Nat → Nat
  | 0, _ => 0
  | f + 1, i => if i < s.size ∧ 97 ≤ bt s i ∧ bt s i ≤ 122 then nlFrom s f (i + 1) + 1 else 0

def nl (s : ByteArray) : Nat := nlFrom s s.size 0

theorem nlFrom_le (s : ByteArray) : ∀ f k, nlFrom s f k ≤ f
  | 0, _ => Nat.le_refl _
  | f + 1, k => by
    simp only [nlFrom]
    split
    · have := nlFrom_le s f (k + 1); omega
    · omega

theorem nl_le (s : ByteArray) : nl s ≤ s.size := nlFrom_le s _ _

theorem nlFrom_let (s : ByteArray) : ∀ f k j, k ≤ j → j < k + nlFrom s f k → j < s.size ∧ 97 ≤ bt s j ∧ bt s j ≤ 122
  | 0, k, j, h1, h2 => by simp [nlFrom] at h2; omega
  | f + 1, k, j, h1, h2 => by
    simp only [nlFrom] at h2
    split at h2
    · rename_i h
      by_cases e : j = k
      · subst e; exact h
      · exact nlFrom_let s f (k + 1) j (by omega) (by omega)
    · omega

theorem nl_let {s : ByteArray} {j : Nat} (h : j < nl s) : j < s.size ∧ 97 ≤ bt s j ∧ bt s j ≤ 122 :=
  nlFrom_let s s.size 0 j (by omega) (by unfold nl at h; omega)

theorem nlFrom_end (s : ByteArray) : ∀ f k, k + f = s.size → k + nlFrom s f k < s.size → ¬ (97 ≤ bt s (k + nlFrom s f k) ∧ bt s (k + nlFrom s f k) ≤ 122)
  | 0, k, h, h2 => by simp [nlFrom] at h2; omega
  | f + 1, k, h, h2 => by
    simp only [nlFrom] at h2 ⊢
    split
    · rename_i hc
      rw [if_pos hc] at h2
      have := nlFrom_end s f (k + 1) (by omega) (by omega)
      rw [show k + (nlFrom s f (k + 1) + 1) = k + 1 + nlFrom s f (k + 1) from by omega]
      exact this
    · rename_i hc
      intro h3
      exact hc ⟨by omega, by simpa using h3⟩

theorem nl_end {s : ByteArray} (h : nl s < s.size) : ¬ (97 ≤ bt s (nl s) ∧ bt s (nl s) ≤ 122) := by
  have := nlFrom_end s s.size 0 (by omega) (by unfold nl at h; omega)
  simpa [nl] using this

theorem extract_snoc {s : ByteArray} {k : Nat} {b : UInt8} (hk : k < s.size) (hb : bt s k = b.toNat) : s.extract 0 k ++ oneB b = s.extract 0 (k + 1) := by
  apply bytes_ext
  rw [extract_list, show (s.extract 0 k ++ oneB b).data.toList = (s.extract 0 k).data.toList ++ (oneB b).data.toList from by simp, extract_list, oneB_list, List.drop_zero, List.drop_zero]
  rw [size_eq_len] at hk
  rw [List.take_succ_eq_append_getElem hk]
  congr 2
  rw [bt_list, List.getElem?_eq_getElem hk] at hb
  simp only [Option.map_some, Option.getD_some] at hb
  have hb' : b.toNat = (s.data.toList[k]'hk).toNat := by omega
  rw [UInt8.toNat_inj.1 hb']

theorem byte_of {n : Int} (h0 : 0 ≤ n) (h1 : n ≤ 255) : ∃ b : UInt8, n = b.toNat := by
  refine ⟨UInt8.ofNat n.toNat, ?_⟩
  have : (UInt8.ofNat n.toNat).toNat = n.toNat % 256 := rfl
  rw [this]
  omega

theorem Sc.skip_size (x : Sc) (k : Nat) : (x.skip k).s.size = x.s.size - k := size_drop _ _

theorem Sc.skip_next {x : Sc} (he : x.e = 0) {k : Nat} (hk : k < x.s.size) : (x.skip k).next = (bt x.s k, true) := by
  have h1 : (x.skip k).e = 0 := he
  have h2 := x.skip_size k
  unfold Sc.next
  rw [if_neg (by rw [h1, h2]; omega)]
  simp [Sc.skip, bt_drop]

theorem Sc.skip_next_end {x : Sc} {k : Nat} (hk : x.s.size ≤ k) : (x.skip k).next = (0, false) := by
  have h2 := x.skip_size k
  unfold Sc.next
  rw [if_pos (by rw [h2]; omega)]

theorem Sc.skip_ok {x : Sc} (h : x.ok) (k : Nat) : (x.skip k).ok := by
  unfold Sc.ok at *
  rw [Sc.skip_size]
  omega

theorem Sc.skip_byte {x : Sc} (he : x.e = 0) {k : Nat} (hk : k < x.s.size) {b : UInt8} (hb : bt x.s k = b.toNat) : (x.skip k).byte b = (x.skip (k + 1), true) := by
  rw [Sc.byte_hit (x := x.skip k) he (by rw [Sc.skip_size]; omega) (by show bt (x.s.extract k x.s.size) 0 = _; rw [bt_drop]; exact hb), Sc.skip_skip]

def Sc.letters (x : Sc) : Sc × ByteArray := (x.skip (nl x.s), x.s.extract 0 (nl x.s))

def Sc.num (x : Sc) (most : Int) : Sc × Int := (x.byte 32).1.number most

def m63 : Int := 9223372036854775807
def m64 : Int := 18446744073709551615

def Sc.line (x : Sc) (k : Int) : Sc × Cmd :=
  if k = 1 then (((x.num m63).1.byte 10).1, ⟨k, (x.num m63).2, 0, 0⟩)
  else if k = 2 ∨ k = 5 then ((((x.num m64).1.num m64).1.byte 10).1, ⟨k, 0, (x.num m64).2, ((x.num m64).1.num m64).2⟩)
  else if k = 3 ∨ k = 6 then (((x.num m64).1.byte 10).1, ⟨k, 0, (x.num m64).2, 0⟩)
  else ((x.byte 10).1, ⟨k, 0, 0, 0⟩)

structure Parsed where
  l : List Cmd
  line : Int
  col : Int
  e : Int

def parseGo : Nat → Sc → List Cmd → Parsed
  | 0, _, _ => ⟨[], 0, 0, 0⟩
  | f + 1, x, out =>
    if x.next.2 = false then (if x.e ≠ 0 then ⟨[], x.l, x.c, x.e⟩ else ⟨out, 0, 0, 0⟩)
    else if kindOf x.letters.2 = 0 then ⟨[], x.l, x.c, 30⟩
    else parseGo f (x.letters.1.line (kindOf x.letters.2)).1 (out ++ [(x.letters.1.line (kindOf x.letters.2)).2])

def parseC (s : ByteArray) : Parsed := parseGo (s.size + 2) ⟨s, 1, 1, 0⟩ []

theorem Sc.num_le (x : Sc) (m : Int) : (x.num m).1.s.size ≤ x.s.size := Nat.le_trans (Sc.number_le _ _) (Sc.byte_le _ _)

theorem Sc.line_le (x : Sc) (k : Int) : (x.line k).1.s.size ≤ x.s.size := by
  unfold Sc.line
  split
  · exact Nat.le_trans (Sc.byte_le _ _) (Sc.num_le _ _)
  · split
    · exact Nat.le_trans (Sc.byte_le _ _) (Nat.le_trans (Sc.num_le _ _) (Sc.num_le _ _))
    · split
      · exact Nat.le_trans (Sc.byte_le _ _) (Sc.num_le _ _)
      · exact Sc.byte_le _ _

theorem kindOf_pos {s : ByteArray} (h : kindOf s ≠ 0) : 0 < s.size := by
  unfold kindOf at h
  split at h
  · rename_i e; subst e; decide
  · split at h
    · rename_i e; subst e; decide
    · split at h
      · rename_i e; subst e; decide
      · split at h
        · rename_i e; subst e; decide
        · split at h
          · rename_i e; subst e; decide
          · split at h
            · rename_i e; subst e; decide
            · exact absurd rfl h

theorem Sc.letters_less {x : Sc} (h : kindOf x.letters.2 ≠ 0) : x.letters.1.s.size + 1 ≤ x.s.size := by
  have h1 := kindOf_pos h
  have h2 : x.letters.2.size = min (nl x.s) x.s.size := by
    show (x.s.extract 0 (nl x.s)).size = _
    rw [size_eq_len, extract_list, List.drop_zero, List.length_take, ← size_eq_len]
  have h3 : x.letters.1.s.size = x.s.size - nl x.s := x.skip_size _
  omega

end Go.Proofs.YteagpbcmfnopfaaGreatDoor
