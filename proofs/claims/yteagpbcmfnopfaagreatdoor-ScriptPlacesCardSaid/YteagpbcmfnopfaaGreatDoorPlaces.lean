/- ScriptPlaces, walked. -/
import Derived.Test.YteagpbcmfnopfaaGreatDoorKnown
import Derived.Test.YteagpbcmfnopfaaGreatDoorPlacesL
namespace Go.Proofs.YteagpbcmfnopfaaGreatDoor
open Go.RowKit

def strs10 : Array Value := #[.string ⟨#[115, 101, 101, 107, 32, 120, 10]⟩, .string ⟨#[99, 111, 110, 110, 101, 99, 116, 101, 100, 32, 53, 32, 10]⟩, .string ⟨#[115, 105, 122, 101, 32, 48, 53, 10]⟩, .string ⟨#[104, 97, 115, 32, 49, 44, 50, 10]⟩, .string ⟨#[100, 101, 103, 114, 101, 101, 32, 51, 32, 52, 10]⟩, .string ⟨#[115, 101, 101, 107, 32, 57, 50, 50, 51, 51, 55, 50, 48, 51, 54, 56, 53, 52, 55, 55, 53, 56, 48, 56, 10]⟩, .string ⟨#[99, 111, 117, 110, 116]⟩, .string ⟨#[83, 101, 101, 107, 32, 49, 10]⟩, .string ⟨#[99, 111, 110, 110, 101, 99, 116, 101, 100, 32, 49, 32, 49, 56, 52, 52, 54, 55, 52, 52, 48, 55, 51, 55, 48, 57, 53, 53, 49, 54, 49, 54, 10]⟩, .string ⟨#[104, 97, 115]⟩]
def cols10 : Array Value := #[.int .i64 6, .int .i64 13, .int .i64 6, .int .i64 6, .int .i64 9, .int .i64 6, .int .i64 6, .int .i64 1, .int .i64 13, .int .i64 4]
def errs10 : Array Value := #[.int .i64 21, .int .i64 21, .int .i64 21, .int .i64 21, .int .i64 21, .int .i64 22, .int .i64 20, .int .i64 30, .int .i64 22, .int .i64 20]

theorem strs10_at {m : Nat} (h : m < 10) : strs10[m]? = some (.string (mkT (wrongs.getD m []))) := by
  have : ∀ m, m < 10 → strs10[m]? = some (.string (mkT (wrongs.getD m []))) := by
    intro m h
    match m, h with
    | 0, _ => rfl
    | 1, _ => rfl
    | 2, _ => rfl
    | 3, _ => rfl
    | 4, _ => rfl
    | 5, _ => rfl
    | 6, _ => rfl
    | 7, _ => rfl
    | 8, _ => rfl
    | 9, _ => rfl
  exact this m h

theorem cols10_at {m : Nat} (h : m < 10) : cols10[m]? = some (.int .i64 (wrongCols.getD m 0)) := by
  match m, h with
  | 0, _ => rfl
  | 1, _ => rfl
  | 2, _ => rfl
  | 3, _ => rfl
  | 4, _ => rfl
  | 5, _ => rfl
  | 6, _ => rfl
  | 7, _ => rfl
  | 8, _ => rfl
  | 9, _ => rfl

theorem errs10_at {m : Nat} (h : m < 10) : errs10[m]? = some (.int .i64 (wrongErrs.getD m 0)) := by
  match m, h with
  | 0, _ => rfl
  | 1, _ => rfl
  | 2, _ => rfl
  | 3, _ => rfl
  | 4, _ => rfl
  | 5, _ => rfl
  | 6, _ => rfl
  | 7, _ => rfl
  | 8, _ => rfl
  | 9, _ => rfl

theorem list_at (l : Array Value) {m : Nat} {v : Value} (h : l[m]? = some v) : ∀ hm, l.toList[m]'hm = v := by
  intro hm
  have : l.toList[m]? = some v := by simpa using h
  rw [List.getElem?_eq_getElem hm] at this
  exact Option.some.inj this

theorem mkT_append (a b : List UInt8) : mkT a ++ mkT b = mkT (a ++ b) := by
  apply bytes_ext
  simp [mkT]

set_option maxHeartbeats 1000000 in
set_option maxRecDepth 100000 in
theorem law27_places (a b : Nat) (ha : a ≤ 255) (hb : b ≤ 255) (w : World) (htab : PowTab w) :
    Calls Tryz.prog 6 #[.int .u8 a, .int .u8 b] w fun e w' => e = .returned (.bool true) ∧ Fr (fun _ => False) w w' := by
  obtain ⟨N, hN⟩ : ∃ N, N = a % 20 := ⟨_, rfl⟩
  obtain ⟨M, hM⟩ : ∃ M, M = b % 10 := ⟨_, rfl⟩
  have hN1 : (a : Int) % 20 = (N : Int) := by omega
  have hM1 : (b : Int) % 10 = (M : Int) := by omega
  have hN2 : N < 20 := by omega
  have hM2 : M < 10 := by omega
  clear hN hM
  have hS := strs10_at hM2
  have hC := cols10_at hM2
  have hE := errs10_at hM2
  have gS := list_at strs10 hS
  have gC := list_at cols10 hC
  have gE := list_at errs10 hE
  clear hS hC hE
  have hS : ∀ h, ([.string ⟨#[115, 101, 101, 107, 32, 120, 10]⟩, .string ⟨#[99, 111, 110, 110, 101, 99, 116, 101, 100, 32, 53, 32, 10]⟩, .string ⟨#[115, 105, 122, 101, 32, 48, 53, 10]⟩, .string ⟨#[104, 97, 115, 32, 49, 44, 50, 10]⟩, .string ⟨#[100, 101, 103, 114, 101, 101, 32, 51, 32, 52, 10]⟩, .string ⟨#[115, 101, 101, 107, 32, 57, 50, 50, 51, 51, 55, 50, 48, 51, 54, 56, 53, 52, 55, 55, 53, 56, 48, 56, 10]⟩, .string ⟨#[99, 111, 117, 110, 116]⟩, .string ⟨#[83, 101, 101, 107, 32, 49, 10]⟩, .string ⟨#[99, 111, 110, 110, 101, 99, 116, 101, 100, 32, 49, 32, 49, 56, 52, 52, 54, 55, 52, 52, 48, 55, 51, 55, 48, 57, 53, 53, 49, 54, 49, 54, 10]⟩, .string ⟨#[104, 97, 115]⟩] : List Value)[M]'h = .string (mkT (wrongs.getD M [])) := gS
  have hC : ∀ h, ([.int .i64 6, .int .i64 13, .int .i64 6, .int .i64 6, .int .i64 9, .int .i64 6, .int .i64 6, .int .i64 1, .int .i64 13, .int .i64 4] : List Value)[M]'h = .int .i64 (wrongCols.getD M 0) := gC
  have hE : ∀ h, ([.int .i64 21, .int .i64 21, .int .i64 21, .int .i64 21, .int .i64 21, .int .i64 22, .int .i64 20, .int .i64 30, .int .i64 22, .int .i64 20] : List Value)[M]'h = .int .i64 (wrongErrs.getD M 0) := gE
  clear gS gC gE
  obtain ⟨p1, p2, p3, p4⟩ := places hN2 hM2
  have hsz : (placeText N M).size ≤ 1000000000 := by
    unfold placeText
    rw [mkT_size, List.length_append, ahead_length]
    have : (wrongs.getD M []).length ≤ 40 := wrongs_len M
    omega
  have hP := fun w => script_Parse (placeText N M) hsz w
  unfold placeText at hP p1 p2 p3 p4
  rw [← mkT_append] at hP p1 p2 p3 p4
  obtain ⟨X, hX⟩ : ∃ X, X = mkT (wrongs.getD M []) := ⟨_, rfl⟩
  obtain ⟨C, hCC⟩ : ∃ C, C = wrongCols.getD M 0 := ⟨_, rfl⟩
  obtain ⟨E, hEE⟩ : ∃ E, E = wrongErrs.getD M 0 := ⟨_, rfl⟩
  have hX2 : X.size ≤ 1000 := by rw [hX, mkT_size]; have := wrongs_len M; omega
  rw [← hX] at hP p1 p2 p3 p4 hS
  rw [← hCC] at p3 hC
  rw [← hEE] at p4 hE
  clear hX hCC hEE
  have hPP : ∀ w : World, Calls Tryz.prog 13 #[.string (mkT (ahead N) ++ X)] w fun e w' => ∃ A c, e = .returned (.tuple #[.slice A 0 c, .agg #[.int .i64 ((N : Int) + 1), .int .i64 C], .int .i64 E]) ∧ Fr (fun _ => False) w w' := by
    intro w
    refine (hP w).mono ?_
    rintro e w' ⟨v, rfl, hr, hf⟩
    rw [p1] at hr
    rw [p2, p3, p4]
    obtain ⟨A, c, rfl, _⟩ := slice_own hr
    exact ⟨A, c, rfl, hf⟩
  have HP := Lib.hid hPP
  clear hPP hP p1 p2 p3 p4 hsz
  go_enter Tryz.func6, Tryz.ntmps6
  go_wp2_with fail
  refine (law27_known w htab).mono ?_
  rintro e w1 ⟨rfl, hf1⟩
  go_wp2_with fail
  go_loop [5, 7] (fun t i => ∃ k : Nat, k ≤ N ∧ i = .int .i64 k ∧ t = .string (mkT (ahead k))) (fun _ i => N - (intOf i).toNat)
  case atStart => exact ⟨0, Nat.zero_le _, rfl, rfl⟩
  case round =>
    obtain ⟨k, hk, rfl, rfl⟩ := hrel
    have hks : (mkT (ahead k)).size ≤ 1000 := by rw [mkT_size, ahead_length]; omega
    have hcat : mkT (ahead k) ++ (⟨#[99, 111, 117, 110, 116, 10]⟩ : ByteArray) = mkT (ahead (k + 1)) := mkT_append (ahead k) lineCount
    have HCAT := Lib.hid hcat; clear hcat
    by_cases hlt : k < N
    · go_wp2
      go_round
      case rel => exact ⟨k + 1, by omega, by go_num, congrArg Value.string HCAT.out⟩
      case measure => simp [intOf]; omega
    · obtain rfl : k = N := by omega
      go_wp2_with fail
      clear hS hC hE
      refine (HP.out _).mono ?_
      rintro e w2 ⟨A, c, rfl, hf2⟩
      have F2 : Fr (fun _ => False) w w2 := Fr.trans (by exact ((hf1.alloc _).alloc _).alloc _) hf2
      have hN3 : (k : Int) ≤ 20 := by omega
      go_wp2
      go_ret
      exact ⟨rfl, F2.alloc _⟩

end Go.Proofs.YteagpbcmfnopfaaGreatDoor
