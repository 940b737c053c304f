/- What a scanner is, and what its calls come to, in plain Lean. -/
import Derived.Test.YteagpbcmfnopfaaGreatDoorBase
namespace Go.Proofs.YteagpbcmfnopfaaGreatDoor
open Go.RowKit

/-- A scanner: the text that is left, the place, the error. -/
structure Sc where
  s : ByteArray
  l : Int
  c : Int
  e : Int

/-- The place behind n bytes. -/
def adv (s : ByteArray) : Nat → Int → Int → Int × Int
  | 0, l, c => (l, c)
  | n + 1, l, c => if bt s n = 10 then (wrap64 ((adv s n l c).1 + 1), 1) else ((adv s n l c).1, wrap64 ((adv s n l c).2 + 1))

def Sc.skip (x : Sc) (n : Nat) : Sc := { s := x.s.extract n x.s.size, l := (adv x.s n x.l x.c).1, c := (adv x.s n x.l x.c).2, e := x.e }

def Sc.fail (x : Sc) (e : Int) : Sc := if x.e = 0 then { x with e := e } else x

def isDig (b : Int) : Bool := decide (48 ≤ b) && decide (b ≤ 57)

/-- How many digits stand at a place and behind it. -/
def ndFrom (s : ByteArray) : Nat → Nat → Nat
  | 0, _ => 0
  | f + 1, i => if i < s.size ∧ isDig (bt s i) = true then ndFrom s f (i + 1) + 1 else 0

def nd (s : ByteArray) : Nat := ndFrom s s.size 0

theorem nd_step {s : ByteArray} {k : Nat} (h : k < s.size) (hd : isDig (bt s k) = true) : ndFrom s (s.size - k) k = ndFrom s (s.size - (k + 1)) (k + 1) + 1 := by
  obtain ⟨f, hf⟩ : ∃ f, s.size - k = f + 1 := ⟨s.size - k - 1, by omega⟩
  rw [hf, show s.size - (k + 1) = f from by omega]
  simp only [ndFrom]
  rw [if_pos ⟨h, hd⟩]

theorem nd_stop {s : ByteArray} {f k : Nat} (h : ¬ (k < s.size ∧ isDig (bt s k) = true)) : ndFrom s f k = 0 := by
  cases f with
  | zero => rfl
  | succ f => simp only [ndFrom]; rw [if_neg h]

theorem ndFrom_le (s : ByteArray) : ∀ f k, ndFrom s f k ≤ f
  | 0, _ => Nat.le_refl _
  | f + 1, k => by
    simp only [ndFrom]
    split
    · have := ndFrom_le s f (k + 1); omega
    · omega

theorem nd_le (s : ByteArray) : nd s ≤ s.size := ndFrom_le s _ _

theorem ndFrom_dig (s : ByteArray) : ∀ f k j, k ≤ j → j < k + ndFrom s f k → j < s.size ∧ isDig (bt s j) = true
  | 0, k, j, h1, h2 => by simp [ndFrom] at h2; omega
  | f + 1, k, j, h1, h2 => by
    simp only [ndFrom] at h2
    split at h2
    · rename_i h
      by_cases e : j = k
      · subst e; exact h
      · exact ndFrom_dig s f (k + 1) j (by omega) (by omega)
    · omega

theorem nd_dig {s : ByteArray} {j : Nat} (h : j < nd s) : j < s.size ∧ 48 ≤ bt s j ∧ bt s j ≤ 57 := by
  obtain ⟨h1, h2⟩ := ndFrom_dig s s.size 0 j (by omega) (by unfold nd at h; omega)
  refine ⟨h1, ?_⟩
  simpa [isDig] using h2

theorem ndFrom_end (s : ByteArray) : ∀ f k, k + f = s.size → k + ndFrom s f k < s.size → isDig (bt s (k + ndFrom s f k)) = false
  | 0, k, h, h2 => by simp [ndFrom] at h2; omega
  | f + 1, k, h, h2 => by
    simp only [ndFrom] at h2 ⊢
    split
    · rename_i hc
      rw [if_pos hc] at h2
      have := ndFrom_end s f (k + 1) (by omega) (by omega)
      rw [show k + (ndFrom s f (k + 1) + 1) = k + 1 + ndFrom s f (k + 1) from by omega]
      exact this
    · rename_i hc
      have : k < s.size := by omega
      simpa [this] using hc

theorem nd_end {s : ByteArray} (h : nd s < s.size) : isDig (bt s (nd s)) = false := by
  have := ndFrom_end s s.size 0 (by omega) (by unfold nd at h; omega)
  simpa [nd] using this

/-- The number of digits i and on up to n; none: above most. -/
def numLoop (s : ByteArray) (most : Int) : Nat → Nat → Int → Option Int
  | 0, _, v => some v
  | f + 1, i, v => if bt s i - 48 > most ∨ v > (most - (bt s i - 48)) / 10 then none else numLoop s most f (i + 1) (v * 10 + (bt s i - 48))

def Sc.numEnd (x : Sc) (n : Nat) : Option Int → Sc × Int
  | none => (x.fail 22, 0)
  | some v => (x.skip n, v)

def Sc.number (x : Sc) (most : Int) : Sc × Int :=
  if x.e ≠ 0 then (x, 0) else
  if x.s.size = 0 then (x.fail 20, 0) else
  if nd x.s = 0 ∨ (1 < nd x.s ∧ bt x.s 0 = 48) then (x.fail 21, 0) else
  x.numEnd (nd x.s) (numLoop x.s most (nd x.s) 0 0)

def isPre (p s : ByteArray) : Bool := decide (p.size ≤ s.size) && ((s.extract 0 p.size).toList == p.toList)

def Sc.word (x : Sc) (w : ByteArray) : Sc × Bool :=
  if x.e ≠ 0 then (x, false) else
  if isPre w x.s then (x.skip w.size, true) else
  if isPre x.s w then (x.fail 20, false) else (x.fail 21, false)

def oneB (b : UInt8) : ByteArray := ⟨#[b]⟩

def Sc.byte (x : Sc) (b : UInt8) : Sc × Bool := x.word (oneB b)

def Sc.next (x : Sc) : Int × Bool := if x.e ≠ 0 ∨ x.s.size = 0 then (0, false) else (bt x.s 0, true)

theorem adv_drop (s : ByteArray) (l c : Int) (k : Nat) : ∀ m, adv (s.extract k s.size) m (adv s k l c).1 (adv s k l c).2 = adv s (k + m) l c
  | 0 => rfl
  | m + 1 => by
    rw [show k + (m + 1) = (k + m) + 1 from by omega]
    simp only [adv]
    rw [adv_drop s l c k m, bt_drop]

theorem Sc.skip_skip (x : Sc) (k m : Nat) : (x.skip k).skip m = x.skip (k + m) := by
  simp only [Sc.skip, adv_drop, drop_drop]

theorem adv_zero (s : ByteArray) (l c : Int) : adv s 0 l c = (l, c) := rfl

theorem Sc.skip_zero (x : Sc) : x.skip 0 = x := by
  have : x.s.extract 0 x.s.size = x.s := by
    apply bytes_ext
    rw [extract_list, size_eq_len, List.take_length]; rfl
  simp [Sc.skip, adv_zero, this]

theorem oneB_list (b : UInt8) : (oneB b).data.toList = [b] := rfl

theorem isPre_one {s : ByteArray} {b : UInt8} : isPre (oneB b) s = true ↔ 0 < s.size ∧ bt s 0 = b.toNat := by
  unfold isPre
  rw [Bool.and_eq_true, decide_eq_true_eq, show (oneB b).size = 1 from rfl, ByteArray.toList_eq, ByteArray.toList_eq, extract_list, oneB_list, List.drop_zero, bt_list, size_eq_len]
  cases s.data.toList with
  | nil => simp
  | cons a l =>
    simp
    exact ⟨fun h => h ▸ rfl, fun h => UInt8.toNat_inj.1 (by omega)⟩

theorem Sc.byte_hit {x : Sc} {b : UInt8} (he : x.e = 0) (hs : 0 < x.s.size) (hb : bt x.s 0 = b.toNat) : x.byte b = (x.skip 1, true) := by
  have : isPre (oneB b) x.s = true := isPre_one.2 ⟨hs, hb⟩
  simp only [Sc.byte, Sc.word, this, he]
  rfl

def Sc.ok (x : Sc) : Prop := x.s.size ≤ 140737488351232

theorem Sc.skip_le (x : Sc) (n : Nat) : (x.skip n).s.size ≤ x.s.size := by
  show (x.s.extract n x.s.size).size ≤ _
  rw [size_drop]
  omega

theorem Sc.fail_s (x : Sc) (k : Int) : (x.fail k).s = x.s := by
  unfold Sc.fail
  split <;> rfl

theorem Sc.word_le (x : Sc) (v : ByteArray) : (x.word v).1.s.size ≤ x.s.size := by
  unfold Sc.word
  split
  · exact Nat.le_refl _
  · split
    · exact x.skip_le _
    · split <;> (dsimp only; rw [Sc.fail_s]; exact Nat.le_refl _)

theorem Sc.byte_le (x : Sc) (b : UInt8) : (x.byte b).1.s.size ≤ x.s.size := x.word_le _

theorem Sc.number_le (x : Sc) (m : Int) : (x.number m).1.s.size ≤ x.s.size := by
  unfold Sc.number
  split
  · exact Nat.le_refl _
  · split
    · dsimp only; rw [Sc.fail_s]; exact Nat.le_refl _
    · split
      · dsimp only; rw [Sc.fail_s]; exact Nat.le_refl _
      · unfold Sc.numEnd
        split
        · dsimp only; rw [Sc.fail_s]; exact Nat.le_refl _
        · exact x.skip_le _

theorem Sc.byte_ok {x : Sc} (h : x.ok) (b : UInt8) : (x.byte b).1.ok := Nat.le_trans (x.byte_le b) h
theorem Sc.word_ok {x : Sc} (h : x.ok) (v : ByteArray) : (x.word v).1.ok := Nat.le_trans (x.word_le v) h
theorem Sc.number_ok {x : Sc} (h : x.ok) (m : Int) : (x.number m).1.ok := Nat.le_trans (x.number_le m) h

theorem numLoop_range (s : ByteArray) (most : Int) : ∀ (f i : Nat) (v r : Int), (∀ j, i ≤ j → j < i + f → 48 ≤ bt s j) → 0 ≤ v → v ≤ most → numLoop s most f i v = some r → 0 ≤ r ∧ r ≤ most
  | 0, i, v, r, _, h0, h1, h => by simp [numLoop] at h; omega
  | f + 1, i, v, r, hd, h0, h1, h => by
    simp only [numLoop] at h
    split at h
    · cases h
    · rename_i hc
      have hb := hd i (by omega) (by omega)
      exact numLoop_range s most f (i + 1) _ r (fun j a b => hd j (by omega) (by omega)) (by omega) (by omega) h

theorem Sc.number_range (x : Sc) {m : Int} (hm : 0 ≤ m) : 0 ≤ (x.number m).2 ∧ (x.number m).2 ≤ m := by
  unfold Sc.number
  split
  · exact ⟨Int.le_refl _, hm⟩
  · split
    · exact ⟨Int.le_refl _, hm⟩
    · split
      · exact ⟨Int.le_refl _, hm⟩
      · unfold Sc.numEnd
        split
        · exact ⟨Int.le_refl _, hm⟩
        · rename_i v hv
          exact numLoop_range x.s m _ 0 0 v (fun j _ hj => (nd_dig (by omega)).2.1) (Int.le_refl _) hm hv

end Go.Proofs.YteagpbcmfnopfaaGreatDoor
