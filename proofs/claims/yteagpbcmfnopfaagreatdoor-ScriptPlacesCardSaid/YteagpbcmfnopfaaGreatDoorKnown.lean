/- archipelagolaw27.known: true. -/
import Derived.Test.YteagpbcmfnopfaaGreatDoorEmptyG
import Derived.Test.YteagpbcmfnopfaaGreatDoorScriptE
namespace Go.Proofs.YteagpbcmfnopfaaGreatDoor
open Go.RowKit

def kS : ByteArray := ⟨#[115, 101, 101, 107, 32, 53, 10, 99, 111, 117, 110, 116, 10]⟩
def kC : ByteArray := ⟨#[99, 111, 117, 110, 116, 10, 67, 111, 117, 110, 116, 10]⟩
def kL : List Cmd := [⟨1, 5, 0, 0⟩, ⟨4, 0, 0, 0⟩]

theorem parse_kS : (parseC kS).l = kL ∧ (parseC kS).line = 0 ∧ (parseC kS).col = 0 ∧ (parseC kS).e = 0 := by decide +kernel
theorem parse_kC : (parseC kC).l = [] ∧ (parseC kC).line = 2 ∧ (parseC kC).col = 1 ∧ (parseC kC).e = 30 := by decide +kernel
theorem print_kL : printC kL = kS := by decide +kernel

theorem parsed_kS (w : World) : Calls Tryz.prog 13 #[.string kS] w fun e w' => ∃ v, e = .returned (.tuple #[v, .agg #[.int .i64 0, .int .i64 0], .int .i64 0]) ∧ w'.ownsRow w.heap.size 47 4 v 2 (cmdCells kL) ∧ Fr (fun _ => False) w w' := by
  refine (script_Parse kS (by decide) w).mono ?_
  rintro e w' ⟨v, rfl, hr, hf⟩
  obtain ⟨h1, h2, h3, h4⟩ := parse_kS
  rw [h1] at hr
  rw [h2, h3, h4]
  exact ⟨v, rfl, hr, hf⟩

theorem parsed_kC (w : World) : Calls Tryz.prog 13 #[.string kC] w fun e w' => ∃ v, e = .returned (.tuple #[v, .agg #[.int .i64 2, .int .i64 1], .int .i64 30]) ∧ Fr (fun _ => False) w w' := by
  refine (script_Parse kC (by decide) w).mono ?_
  rintro e w' ⟨v, rfl, hr, hf⟩
  obtain ⟨h1, h2, h3, h4⟩ := parse_kC
  rw [h2, h3, h4]
  exact ⟨v, rfl, hf⟩

theorem print_kL_size : ∀ j, (printL (kL.take j)).length ≤ 70368744177664 := fun j => by
  match j with
  | 0 => decide
  | 1 => decide +kernel
  | j + 2 => rw [List.take_of_length_le (by simp [kL])]; decide +kernel

theorem own_cap {w : World} {base n e size : Nat} {A : Option Addr} {c : Nat} {xs : List Value} (h : w.ownsRow base e size (.slice A n c) n xs) : c ≤ 9223372036854775807 := by
  rcases h.2 with ⟨e, _⟩ | ⟨g, cap, cur, e, _, _, _, hm, _⟩
  · injection e with _ _ e; omega
  · injection e with _ _ e; subst e; unfold maxLen at hm; exact hm

theorem own_blk4 {w : World} {g : Nat} {a b c d : Value} {t : TypeId} (base : Nat) (h : Blk w g #[a, b, c, d] t) (hb : base ≤ g) : w.ownsRow base t 4 (.slice (some ⟨g, 0, none⟩) 1 1) 1 [a, b, c, d] :=
  ⟨rfl, .inr ⟨g, 1, _, rfl, hb, h, Nat.le_refl _, by unfold maxLen; omega, rfl, rfl⟩⟩

theorem el_cmd : Elem Tryz.prog 26 47 (.agg #[.int .i64 0, .int .i64 0, .int .u64 0, .int .u64 0]) 4 32 := Elem.mk' Tryz.underlying26 info_cmd rfl (by decide)

set_option maxHeartbeats 2000000 in
set_option maxRecDepth 100000 in
theorem law27_known (w : World) (htab : PowTab w) :
    Calls Tryz.prog 7 #[] w fun e w' => e = .returned (.bool true) ∧ Fr (fun _ => False) w w' := by
  go_enter Tryz.func7, Tryz.ntmps7
  go_wp2_with fail
  refine (parsed_kS w).mono ?_
  rintro e w1 ⟨v1, rfl, hr1, hf1⟩
  obtain ⟨g1, C1, rfl, hrow1, hg1, _, hC1⟩ := own_some hr1 (by decide)
  have hs1 : SlAt w1 (some ⟨g1, 0, none⟩) (cmdCells kL) := .inr ⟨g1, 0, rfl, hrow1, hg1⟩
  go_wp2_with fail
  refine (parsed_kC _).mono ?_
  rintro e w2 ⟨v2, rfl, hf2⟩
  have AP1 : Fr (fun _ => False) w1 (w1.alloc (.cells #[.int .i64 0, .int .i64 0] 37)) := (Fr.refl _ _).alloc _
  have P1 : Blk w2 w1.heap.size #[.int .i64 0, .int .i64 0] 37 := Blk.fr (S := fun _ => False) (h := by exact (Blk.new w1 _ _)) hf2 (fun x => x)
  have AP2 : Fr (fun _ => False) w2 (w2.alloc (.cells #[.int .i64 2, .int .i64 1] 37)) := (Fr.refl _ _).alloc _
  have F2 : Fr (fun _ => False) w1 w2 := AP1.trans hf2
  have hl1 := P1.lt
  go_wp2_with fail
  refine (ref18_Encode3 _).mono ?_
  rintro e w3 ⟨v3, rfl, hr3, hf3⟩
  have F3 := (F2.trans AP2).trans hf3
  have P1c := (P1.fr AP2 (fun x => x)).fr hf3 (fun x => x)
  have P2 : Blk w3 w2.heap.size #[.int .i64 2, .int .i64 1] 37 := Blk.fr (S := fun _ => False) (h := by exact (Blk.new w2 _ _)) hf3 (fun x => x)
  obtain ⟨A3, C3, rfl, hc3, hs3, _⟩ := own_slAt hr3
  have hm3 : C3 ≤ 9223372036854775807 := own_cap hr3
  go_wp2_with fail
  refine (replay_Open0 A3 C3 w3 hc3 hm3 hs3).mono ?_
  rintro e w4 ⟨r, vb, rfl, hrr, hR4, hf4⟩
  have F4 := F3.trans hf4
  have hs4 := hs1.frF F4
  have hown := own_blk4 w4.heap.size (Blk.new w4 #[.int .i64 4, .int .i64 0, .int .u64 0, .int .u64 0] 47) (Nat.le_refl _)
  have B5 : Fr (fun _ => False) w4 (w4.alloc (.cells #[.int .i64 4, .int .i64 0, .int .u64 0, .int .u64 0] 47)) := (Fr.refl _ _).alloc _
  have hs5 := hs4.frF B5
  go_wp2_with (first
    | (at_builtin; refine wpList_app el_cmd rfl (.tmp 36) (.tmp 37) rfl rfl hown rfl (by decide) hs5 (by decide) (by unfold maxLen; omega) (by omega) (by rw [alloc_size]; omega) ?_; intro A6 C6 w6 hr6 hf6 _; have B7 : Fr (fun _ => False) w6 (w6.alloc (.cells #[.int .i64 0, .int .i64 0, .int .u64 0, .int .u64 0] 47)) := (Fr.refl _ _).alloc _; have hr6' := own_fr hr6 B7; have F6 : Fr (fun _ => False) w4 w6 := B5.app hown (Nat.le_refl _) hf6)
    | (at_builtin; refine wpList_app el_cmd rfl (.tmp 38) (.tmp 40) rfl rfl hr6' rfl (by decide) (slAt_new w6 _ _) (by decide) (by unfold maxLen; omega) (by omega) (by have := F6.size; rw [alloc_size]; omega) ?_; intro A8 C8 w8 hr8 hf8 _; have F8 : Fr (fun _ => False) w4 w8 := (F6.trans B7).app hr6' (Nat.le_refl _) hf8))
  obtain ⟨q, C9, e8, hrow8, hq8, _, _⟩ := own_some hr8 (by simp)
  cases e8
  have hR8 := hR4.frF F8
  have hqr : q ≠ r := fun e => row_type' hr8 hR8 (by decide) (by simp [Value.ownBlock, e])
  refine (script_Run4 w8 r q C8 vb hR8 hrow8 hqr).mono ?_
  rintro e w9 ⟨v9, rfl, hr9, hf9⟩
  obtain ⟨L, C10, rfl, hrow9, hL9, _, hC10⟩ := own_some hr9 (by decide)
  have G1 : Blk w8 w1.heap.size #[.int .i64 0, .int .i64 0] 37 := (P1c.fr hf4 (fun x => x)).fr F8 (fun x => x)
  have G2 : Blk w8 w2.heap.size #[.int .i64 2, .int .i64 1] 37 := (P2.fr hf4 (fun x => x)).fr F8 (fun x => x)
  have H1 := G1.fr hf9 (Blk.ne G1 hR8 (by decide))
  have H2 := G2.fr hf9 (Blk.ne G2 hR8 (by decide))
  have hr1' := own_fr (own_fr hr1 F4) F8
  have hr1'' := row_keep hr1' hR8 hf9 (by decide)
  obtain ⟨_, _, e9, hrow1', hg1', _, _⟩ := own_some hr1'' (by decide)
  cases e9
  have a0 : w9.cell? ⟨w1.heap.size, 0, none⟩ = some (.int .i64 0) := H1.cell rfl
  have a1 : w9.cell? ⟨w1.heap.size, 1, none⟩ = some (.int .i64 0) := H1.cell rfl
  have b0 : w9.cell? ⟨w2.heap.size, 0, none⟩ = some (.int .i64 2) := H2.cell rfl
  have b1 : w9.cell? ⟨w2.heap.size, 1, none⟩ = some (.int .i64 1) := H2.cell rfl
  have l0 : w9.cell? ⟨g1, 0, none⟩ = some (.int .i64 1) := by have := hrow1' 0 _ rfl; rwa [Nat.zero_add] at this
  have l1 : w9.cell? ⟨g1, 1, none⟩ = some (.int .i64 5) := by have := hrow1' 1 _ rfl; rwa [Nat.zero_add] at this
  have l2 : w9.cell? ⟨g1, 2, none⟩ = some (.int .u64 0) := by have := hrow1' 2 _ rfl; rwa [Nat.zero_add] at this
  have l3 : w9.cell? ⟨g1, 3, none⟩ = some (.int .u64 0) := by have := hrow1' 3 _ rfl; rwa [Nat.zero_add] at this
  have n1 : w9.cell? ⟨L, 1, none⟩ = some (.int .i64 29) := by have := hrow9 1 _ rfl; rwa [Nat.zero_add] at this
  have n3 : w9.cell? ⟨L, 3, none⟩ = some (.int .i64 0) := by have := hrow9 3 _ rfl; rwa [Nat.zero_add] at this
  have n4 : w9.cell? ⟨L, 4, none⟩ = some (.int .i64 3) := by have := hrow9 4 _ rfl; rwa [Nat.zero_add] at this
  have n7 : w9.cell? ⟨L, 7, none⟩ = some (.int .i64 30) := by have := hrow9 7 _ rfl; rwa [Nat.zero_add] at this
  have F9 : Fr (fun _ => False) w w9 := by
    have hz := (hf1.trans F4).size
    have hz3 := (hf1.trans F3).size
    exact ((Fr.weak (S := (· = r)) ((hf1.trans F4).trans F8)).trans hf9).mono (fun n hn e => by omega)
  have T9 := pow_fr htab F9 (fun x => x)
  have hcm : CmdsAt w9 (some ⟨g1, 0, none⟩) kL := .inr ⟨g1, 0, rfl, hrow1', hg1'⟩
  clear hrow8 hrow9 hr8 hr9 hr6 hr6' hf8 hf6 B7 hown B5 hs5 hs4 hr3 hs3 P1 P1c P2 G1 G2 H1 H2 hr1 hr1' hr1'' hrow1 hs1
  go_wp2_with fail
  refine (script_Print kL (some ⟨g1, 0, none⟩) C1 w9 (by decide) T9 hcm (by decide) print_kL_size).mono ?_
  rintro e w10 ⟨rfl, hf10⟩
  rw [print_kL]
  unfold kS
  have m0 : w10.cell? ⟨g1, 0, none⟩ = some (.int .i64 1) := hf10.cell l0 (fun x => x)
  have m1 : w10.cell? ⟨g1, 1, none⟩ = some (.int .i64 5) := hf10.cell l1 (fun x => x)
  have m2 : w10.cell? ⟨g1, 2, none⟩ = some (.int .u64 0) := hf10.cell l2 (fun x => x)
  have m3 : w10.cell? ⟨g1, 3, none⟩ = some (.int .u64 0) := hf10.cell l3 (fun x => x)
  clear a0 a1 b0 b1 l0 l1 l2 l3 n1 n3 n4 n7 hcm T9
  go_wp2_with fail
  refine (script_Right ⟨1, 5, 0, 0⟩ w10).mono ?_
  rintro e w11 ⟨rfl, hf11⟩
  rw [show Cmd.right ⟨1, 5, 0, 0⟩ = true from rfl]
  go_wp2_with fail
  refine (script_Right ⟨0, 0, 0, 0⟩ w11).mono ?_
  rintro e w12 ⟨rfl, hf12⟩
  rw [show Cmd.right ⟨0, 0, 0, 0⟩ = false from rfl]
  go_wp2_with fail
  refine (run_nil _ w12).mono ?_
  rintro e w13 ⟨rfl, rfl⟩
  go_wp2
  go_ret
  exact ⟨rfl, ((F9.trans hf10).trans hf11).trans hf12⟩

end Go.Proofs.YteagpbcmfnopfaaGreatDoor
