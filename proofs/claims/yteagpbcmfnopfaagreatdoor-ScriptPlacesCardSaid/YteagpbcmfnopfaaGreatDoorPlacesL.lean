/- ScriptPlaces, the plain law: what twenty lines and a wrong one are. -/
import Derived.Test.YteagpbcmfnopfaaGreatDoorScriptSpec
import Derived.IntWalk
namespace Go.Proofs.YteagpbcmfnopfaaGreatDoor
open Go.RowKit

def lineCount : List UInt8 := [99, 111, 117, 110, 116, 10]

def ahead : Nat → List UInt8
  | 0 => []
  | n + 1 => ahead n ++ lineCount

def wrongs : List (List UInt8) :=
  [[115, 101, 101, 107, 32, 120, 10],
   [99, 111, 110, 110, 101, 99, 116, 101, 100, 32, 53, 32, 10],
   [115, 105, 122, 101, 32, 48, 53, 10],
   [104, 97, 115, 32, 49, 44, 50, 10],
   [100, 101, 103, 114, 101, 101, 32, 51, 32, 52, 10],
   [115, 101, 101, 107, 32, 57, 50, 50, 51, 51, 55, 50, 48, 51, 54, 56, 53, 52, 55, 55, 53, 56, 48, 56, 10],
   [99, 111, 117, 110, 116],
   [83, 101, 101, 107, 32, 49, 10],
   [99, 111, 110, 110, 101, 99, 116, 101, 100, 32, 49, 32, 49, 56, 52, 52, 54, 55, 52, 52, 48, 55, 51, 55, 48, 57, 53, 53, 49, 54, 49, 54, 10],
   [104, 97, 115]]

def wrongCols : List Int := [6, 13, 6, 6, 9, 6, 6, 1, 13, 4]

def wrongErrs : List Int := [21, 21, 21, 21, 21, 22, 20, 30, 22, 20]

def cCount : Cmd := ⟨4, 0, 0, 0⟩

def mkT (l : List UInt8) : ByteArray := ⟨l.toArray⟩
theorem mkT_size (l : List UInt8) : (mkT l).size = l.length := by rw [size_eq_len]; rfl
theorem bt_mkT (l : List UInt8) (i : Nat) : bt (mkT l) i = ((l[i]?).map fun b : UInt8 => (b.toNat : Int)).getD 0 := bt_list _ _
theorem mkT_extract (l : List UInt8) (k : Nat) : (mkT l).extract k (mkT l).size = mkT (l.drop k) := by
  apply bytes_ext
  rw [extract_list, size_eq_len, List.take_length]
  rfl

/-- A line that counts is read. -/
theorem parse_count (f : Nat) (rest : List UInt8) (l : Int) (out : List Cmd) :
    parseGo (f + 1) ⟨mkT (lineCount ++ rest), l, 1, 0⟩ out = parseGo f ⟨mkT rest, wrap64 (l + 1), 1, 0⟩ (out ++ [cCount]) := by
  have hs : (mkT (lineCount ++ rest)).size = rest.length + 6 := by rw [mkT_size]; simp [lineCount]
  have b0 : bt (mkT (lineCount ++ rest)) 0 = 99 := by rw [bt_mkT]; rfl
  have b1 : bt (mkT (lineCount ++ rest)) 1 = 111 := by rw [bt_mkT]; rfl
  have b2 : bt (mkT (lineCount ++ rest)) 2 = 117 := by rw [bt_mkT]; rfl
  have b3 : bt (mkT (lineCount ++ rest)) 3 = 110 := by rw [bt_mkT]; rfl
  have b4 : bt (mkT (lineCount ++ rest)) 4 = 116 := by rw [bt_mkT]; rfl
  have b5 : bt (mkT (lineCount ++ rest)) 5 = 10 := by rw [bt_mkT]; rfl
  have hn : nl (mkT (lineCount ++ rest)) = 5 := by
    unfold nl
    rw [hs]
    simp only [nlFrom, hs, b0, b1, b2, b3, b4, b5, Nat.zero_add, Nat.reduceAdd]
    simp
  have hw : (mkT (lineCount ++ rest)).extract 0 5 = wCount := by
    apply bytes_ext
    rw [extract_list]
    rfl
  have hk : Sc.skip ⟨mkT (lineCount ++ rest), l, 1, 0⟩ 5 = ⟨mkT (10 :: rest), l, 6, 0⟩ := by
    have ha : adv (mkT (lineCount ++ rest)) 5 l 1 = (l, 6) := by
      simp [adv, b0, b1, b2, b3, b4]
      decide +kernel
    unfold Sc.skip
    rw [mkT_extract]
    simp only [ha]
    rfl
  have hlet : Sc.letters ⟨mkT (lineCount ++ rest), l, 1, 0⟩ = (⟨mkT (10 :: rest), l, 6, 0⟩, wCount) := by
    unfold Sc.letters
    dsimp only
    rw [hn, hk, hw]
  have hbyte : Sc.byte ⟨mkT (10 :: rest), l, 6, 0⟩ 10 = (⟨mkT rest, wrap64 (l + 1), 1, 0⟩, true) := by
    have c0 : bt (mkT (10 :: rest)) 0 = 10 := by rw [bt_mkT]; rfl
    rw [Sc.byte_hit rfl (by show 0 < (mkT (10 :: rest)).size; rw [mkT_size]; simp) c0]
    unfold Sc.skip
    rw [mkT_extract]
    simp only [adv, c0]
    rfl
  have hnext : (Sc.next ⟨mkT (lineCount ++ rest), l, 1, 0⟩).2 = true := by
    unfold Sc.next
    rw [if_neg (by rw [hs]; simp)]
  simp only [parseGo, hnext, hlet]
  rw [if_neg (by simp), if_neg (by decide), show kindOf wCount = 4 from by decide]
  have hline : Sc.line ⟨mkT (10 :: rest), l, 6, 0⟩ 4 = ((Sc.byte ⟨mkT (10 :: rest), l, 6, 0⟩ 10).1, ⟨4, 0, 0, 0⟩) := rfl
  rw [hline, hbyte]
  rfl

theorem ahead_comm : ∀ n, ahead (n + 1) = lineCount ++ ahead n
  | 0 => rfl
  | n + 1 => by
    show ahead (n + 1) ++ lineCount = lineCount ++ (ahead n ++ lineCount)
    rw [ahead_comm n, List.append_assoc]

theorem parse_ahead (rest : List UInt8) : ∀ (n f : Nat) (l : Int) (out : List Cmd), 0 ≤ l → l + n < 1000000 →
    parseGo (f + n) ⟨mkT (ahead n ++ rest), l, 1, 0⟩ out = parseGo f ⟨mkT rest, l + n, 1, 0⟩ (out ++ List.replicate n cCount)
  | 0, f, l, out, _, _ => by simp [ahead]
  | n + 1, f, l, out, h0, h1 => by
    have hw : wrap64 (l + 1) = l + 1 := by unfold wrap64; omega
    rw [ahead_comm, List.append_assoc, show f + (n + 1) = (f + n) + 1 from by omega, parse_count, hw, parse_ahead rest n f (l + 1) _ (by omega) (by push_cast at h1 ⊢; omega)]
    rw [List.append_assoc, show l + 1 + (n : Int) = l + ((n + 1 : Nat) : Int) from by push_cast; omega]
    rfl

theorem ahead_length : ∀ n, (ahead n).length = 6 * n
  | 0 => rfl
  | n + 1 => by rw [ahead, List.length_append, ahead_length n]; simp [lineCount]; omega

def placeText (n i : Nat) : ByteArray := mkT (ahead n ++ wrongs.getD i [])

def wrongOk (n i : Nat) : Bool :=
  let p := parseGo (5 * n + (wrongs.getD i []).length + 2) ⟨mkT (wrongs.getD i []), (n : Int) + 1, 1, 0⟩ (List.replicate n cCount)
  decide (p.l.length = 0) && decide (p.line = (n : Int) + 1) && decide (p.col = wrongCols.getD i 0) && decide (p.e = wrongErrs.getD i 0)

theorem wrong_all : (List.range 20).all (fun n => (List.range 10).all fun i => wrongOk n i) = true := by decide +kernel

theorem wrongs_len (m : Nat) : (wrongs.getD m []).length ≤ 40 := by
  rcases Nat.lt_or_ge m 10 with h | h
  · have : (List.range 10).all (fun m => decide ((wrongs.getD m []).length ≤ 40)) = true := by decide
    simpa using List.all_eq_true.1 this m (List.mem_range.2 h)
  · rw [show wrongs.getD m [] = [] from by rw [List.getD_eq_getElem?_getD, List.getElem?_eq_none (by simpa [wrongs] using h)]; rfl]; simp

theorem places {n i : Nat} (hn : n < 20) (hi : i < 10) : (parseC (placeText n i)).l = [] ∧ (parseC (placeText n i)).line = (n : Int) + 1 ∧ (parseC (placeText n i)).col = wrongCols.getD i 0 ∧ (parseC (placeText n i)).e = wrongErrs.getD i 0 := by
  have h := List.all_eq_true.1 (List.all_eq_true.1 wrong_all n (List.mem_range.2 hn)) i (List.mem_range.2 hi)
  have e : parseC (placeText n i) = parseGo (5 * n + (wrongs.getD i []).length + 2) ⟨mkT (wrongs.getD i []), (n : Int) + 1, 1, 0⟩ (List.replicate n cCount) := by
    unfold parseC placeText
    have hsz : (mkT (ahead n ++ wrongs.getD i [])).size + 2 = (5 * n + (wrongs.getD i []).length + 2) + n := by
      rw [mkT_size, List.length_append, ahead_length]; omega
    rw [hsz, parse_ahead _ n _ 1 [] (by omega) (by omega), Int.add_comm 1]
    simp
  rw [e]
  simp only [wrongOk, Bool.and_eq_true, decide_eq_true_eq, List.length_eq_zero_iff] at h
  exact ⟨h.1.1.1, h.1.1.2, h.1.2, h.2⟩

end Go.Proofs.YteagpbcmfnopfaaGreatDoor
