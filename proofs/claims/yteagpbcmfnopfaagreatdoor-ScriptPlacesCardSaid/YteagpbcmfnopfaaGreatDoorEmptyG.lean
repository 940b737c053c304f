/- Run of four commands at the file of no events. -/
import Derived.Test.YteagpbcmfnopfaaGreatDoorEmptyF
import Derived.Test.YteagpbcmfnopfaaGreatDoorScriptD
namespace Go.Proofs.YteagpbcmfnopfaaGreatDoor
open Go.RowKit

theorem el_ans : Elem Tryz.prog 58 61 (.agg #[.int .i64 0, .int .i64 0]) 2 16 := Elem.mk' Tryz.underlying58 (by kernel_rfl) rfl (by decide)

theorem RdIs.frS {S : Nat → Prop} {w w' : World} {r : Nat} {b now : Value} {s0 s1 s2 s3 : Int} (h : RdIs w r b now s0 s1 s2 s3) (k : Fr S w w') (hs : ¬ S r) : RdIs w' r b now s0 s1 s2 s3 := Blk.fr h k hs

theorem row_keep {w w' : World} {r : Nat} {b now : Value} {s0 s1 s2 s3 : Int} {base n e size : Nat} {v : Value} {xs : List Value} (h : w.ownsRow base e size v n xs) (hR : RdIs w r b now s0 s1 s2 s3) (f : Fr (· = r) w w') (ht : 132 ≠ e) : w'.ownsRow base e size v n xs :=
  row_fr h f (fun k hk e => row_type' h hR ht (by rw [hk, e]))

theorem run_nil (l : Value) (w : World) :
    Calls Tryz.prog 21 #[.pointer none, l] w fun e w' => e = .returned (.slice none 0 0) ∧ w = w' := by
  go_enter Tryz.func21, Tryz.ntmps21
  go_wp2
  go_ret
  exact ⟨rfl, rfl⟩

def cmds4 : List Value := [.int .i64 4, .int .i64 0, .int .u64 0, .int .u64 0, .int .i64 1, .int .i64 5, .int .u64 0, .int .u64 0, .int .i64 4, .int .i64 0, .int .u64 0, .int .u64 0, .int .i64 0, .int .i64 0, .int .u64 0, .int .u64 0]
def ans4 : List Value := [.int .i64 0, .int .i64 29, .int .i64 0, .int .i64 0, .int .i64 3, .int .i64 0, .int .i64 0, .int .i64 30]

set_option maxHeartbeats 2000000 in
set_option maxRecDepth 100000 in
theorem script_Run4 (w : World) (r q c : Nat) (b : Value) (h : RdIs w r b (.pointer none) 0 0 0 0) (hq : RowAt w q 0 cmds4) (hqr : q ≠ r) :
    Calls Tryz.prog 21 #[.pointer (some ⟨r, 0, none⟩), .slice (some ⟨q, 0, none⟩) 4 c] w fun e w' => ∃ v, e = .returned v ∧ w'.ownsRow w.heap.size 61 2 v 4 ans4 ∧ Fr (· = r) w w' := by
  have q0 : w.cell? ⟨q, 0, none⟩ = some (.int .i64 4) := by have := hq 0 _ rfl; rwa [Nat.zero_add] at this
  have q1 : w.cell? ⟨q, 1, none⟩ = some (.int .i64 0) := by have := hq 1 _ rfl; rwa [Nat.zero_add] at this
  have q2 : w.cell? ⟨q, 2, none⟩ = some (.int .u64 0) := by have := hq 2 _ rfl; rwa [Nat.zero_add] at this
  have q3 : w.cell? ⟨q, 3, none⟩ = some (.int .u64 0) := by have := hq 3 _ rfl; rwa [Nat.zero_add] at this
  have q4 : w.cell? ⟨q, 4, none⟩ = some (.int .i64 1) := by have := hq 4 _ rfl; rwa [Nat.zero_add] at this
  have q5 : w.cell? ⟨q, 5, none⟩ = some (.int .i64 5) := by have := hq 5 _ rfl; rwa [Nat.zero_add] at this
  have q6 : w.cell? ⟨q, 6, none⟩ = some (.int .u64 0) := by have := hq 6 _ rfl; rwa [Nat.zero_add] at this
  have q7 : w.cell? ⟨q, 7, none⟩ = some (.int .u64 0) := by have := hq 7 _ rfl; rwa [Nat.zero_add] at this
  have q8 : w.cell? ⟨q, 8, none⟩ = some (.int .i64 4) := by have := hq 8 _ rfl; rwa [Nat.zero_add] at this
  have q9 : w.cell? ⟨q, 9, none⟩ = some (.int .i64 0) := by have := hq 9 _ rfl; rwa [Nat.zero_add] at this
  have q10 : w.cell? ⟨q, 10, none⟩ = some (.int .u64 0) := by have := hq 10 _ rfl; rwa [Nat.zero_add] at this
  have q11 : w.cell? ⟨q, 11, none⟩ = some (.int .u64 0) := by have := hq 11 _ rfl; rwa [Nat.zero_add] at this
  have q12 : w.cell? ⟨q, 12, none⟩ = some (.int .i64 0) := by have := hq 12 _ rfl; rwa [Nat.zero_add] at this
  have q13 : w.cell? ⟨q, 13, none⟩ = some (.int .i64 0) := by have := hq 13 _ rfl; rwa [Nat.zero_add] at this
  have q14 : w.cell? ⟨q, 14, none⟩ = some (.int .u64 0) := by have := hq 14 _ rfl; rwa [Nat.zero_add] at this
  have q15 : w.cell? ⟨q, 15, none⟩ = some (.int .u64 0) := by have := hq 15 _ rfl; rwa [Nat.zero_add] at this
  have R0 := h
  have F0 := Fr.refl (· = r) w
  have hr0 := own_nil w w.heap.size 61 2
  have hrl := Blk.lt h
  clear hq h
  go_enter Tryz.func21, Tryz.ntmps21
  go_wp2_with fail
  refine wp_loop_rounds 5 ?_
  rw [rounds_succ]
  go_wp2_with fail
  have A0 : Fr (fun _ => False) w (w.alloc (.cells #[.int .i64 4, .int .i64 0, .int .u64 0, .int .u64 0] 47)) := (Fr.refl _ _).alloc _
  have RA0 := R0.frF A0
  refine (one_count_no _ r b 0 0 0 0 RA0).mono ?_
  rintro e x0 ⟨rfl, hx0⟩
  have RX0 := RA0.frF hx0
  have hy0 : Fr (· = r) w x0 := (Fr.weak A0).trans (Fr.weak (S := (· = r)) hx0)
  have FX0 := F0.trans hy0
  have hrx0 := own_alloc (row_keep hr0 R0 hy0 (by decide)) (.cells #[.int .i64 0, .int .i64 29] 61)
  have hsx0 := FX0.size
  have BX0 : Fr (fun _ => False) x0 (x0.alloc (.cells #[.int .i64 0, .int .i64 29] 61)) := (Fr.refl _ _).alloc _
  go_wp2_with (first
    | (at_builtin; refine wpList_app el_ans rfl _ _ rfl rfl hrx0 rfl rfl (slAt_new x0 #[.int .i64 0, .int .i64 29] 61) (by simp [Value.oneCell']) (by unfold maxLen; simp) (by simp) (by rw [alloc_size]; omega) ?_))
  intro V0 c0 y0 hr1 hz0 _
  have R1 := RdIs.frS (RX0.frF BX0) hz0 (fun e => row_type' hrx0 (RX0.frF BX0) (by decide) e)
  have F1 : Fr (· = r) w y0 := ((FX0.trans (Fr.weak BX0)).mono (T := fun n => n = r ∨ w.heap.size ≤ n) (fun _ _ e => .inl e)).then hz0 (fun n hn e => .inr (row_lt hrx0 n e).2) |>.mono (fun n hn e => by rcases e with e | e; exact e; omega)
  have q4_1 : y0.cell? ⟨q, 4, none⟩ = some (.int .i64 1) := F1.cell q4 hqr
  have q5_1 : y0.cell? ⟨q, 5, none⟩ = some (.int .i64 5) := F1.cell q5 hqr
  have q6_1 : y0.cell? ⟨q, 6, none⟩ = some (.int .u64 0) := F1.cell q6 hqr
  have q7_1 : y0.cell? ⟨q, 7, none⟩ = some (.int .u64 0) := F1.cell q7 hqr
  have q8_1 : y0.cell? ⟨q, 8, none⟩ = some (.int .i64 4) := F1.cell q8 hqr
  have q9_1 : y0.cell? ⟨q, 9, none⟩ = some (.int .i64 0) := F1.cell q9 hqr
  have q10_1 : y0.cell? ⟨q, 10, none⟩ = some (.int .u64 0) := F1.cell q10 hqr
  have q11_1 : y0.cell? ⟨q, 11, none⟩ = some (.int .u64 0) := F1.cell q11 hqr
  have q12_1 : y0.cell? ⟨q, 12, none⟩ = some (.int .i64 0) := F1.cell q12 hqr
  have q13_1 : y0.cell? ⟨q, 13, none⟩ = some (.int .i64 0) := F1.cell q13 hqr
  have q14_1 : y0.cell? ⟨q, 14, none⟩ = some (.int .u64 0) := F1.cell q14 hqr
  have q15_1 : y0.cell? ⟨q, 15, none⟩ = some (.int .u64 0) := F1.cell q15 hqr
  clear A0 RA0 hx0 hy0 FX0 BX0 hz0 R0 q0 q1 q2 q3
  go_wp2_with fail
  rw [rounds_succ]
  go_wp2_with fail
  have A1 : Fr (fun _ => False) y0 (y0.alloc (.cells #[.int .i64 1, .int .i64 5, .int .u64 0, .int .u64 0] 47)) := (Fr.refl _ _).alloc _
  have RA1 := R1.frF A1
  refine (one_seek _ r 5 (by omega) b _ 0 (by omega) (by omega) RA1).mono ?_
  rintro e x1 ⟨rfl, p, RX1, GX1, hx1⟩
  have hy1 : Fr (· = r) y0 x1 := (Fr.weak A1).trans hx1
  have FX1 := F1.trans hy1
  have hrx1 := own_alloc (row_keep hr1 R1 hy1 (by decide)) (.cells #[.int .i64 0, .int .i64 0] 61)
  have hsx1 := FX1.size
  have BX1 : Fr (fun _ => False) x1 (x1.alloc (.cells #[.int .i64 0, .int .i64 0] 61)) := (Fr.refl _ _).alloc _
  go_wp2_with (first
    | (at_builtin; refine wpList_app el_ans rfl _ _ rfl rfl hrx1 rfl rfl (slAt_new x1 #[.int .i64 0, .int .i64 0] 61) (by simp [Value.oneCell']) (by unfold maxLen; simp) (by simp) (by rw [alloc_size]; omega) ?_))
  intro V1 c1 y1 hr2 hz1 _
  have R2 := RdIs.frS (RX1.frF BX1) hz1 (fun e => row_type' hrx1 (RX1.frF BX1) (by decide) e)
  have G2 := GX1.frF BX1
  have G2 := gn_row G2 hrx1 hz1
  have F2 : Fr (· = r) w y1 := ((FX1.trans (Fr.weak BX1)).mono (T := fun n => n = r ∨ w.heap.size ≤ n) (fun _ _ e => .inl e)).then hz1 (fun n hn e => .inr (row_lt hrx1 n e).2) |>.mono (fun n hn e => by rcases e with e | e; exact e; omega)
  have q8_2 : y1.cell? ⟨q, 8, none⟩ = some (.int .i64 4) := F2.cell q8 hqr
  have q9_2 : y1.cell? ⟨q, 9, none⟩ = some (.int .i64 0) := F2.cell q9 hqr
  have q10_2 : y1.cell? ⟨q, 10, none⟩ = some (.int .u64 0) := F2.cell q10 hqr
  have q11_2 : y1.cell? ⟨q, 11, none⟩ = some (.int .u64 0) := F2.cell q11 hqr
  have q12_2 : y1.cell? ⟨q, 12, none⟩ = some (.int .i64 0) := F2.cell q12 hqr
  have q13_2 : y1.cell? ⟨q, 13, none⟩ = some (.int .i64 0) := F2.cell q13 hqr
  have q14_2 : y1.cell? ⟨q, 14, none⟩ = some (.int .u64 0) := F2.cell q14 hqr
  have q15_2 : y1.cell? ⟨q, 15, none⟩ = some (.int .u64 0) := F2.cell q15 hqr
  clear A1 RA1 hx1 hy1 FX1 BX1 hz1 R1 q4_1 q5_1 q6_1 q7_1
  go_wp2_with fail
  rw [rounds_succ]
  go_wp2_with fail
  have A2 : Fr (fun _ => False) y1 (y1.alloc (.cells #[.int .i64 4, .int .i64 0, .int .u64 0, .int .u64 0] 47)) := (Fr.refl _ _).alloc _
  have RA2 := R2.frF A2
  have GA2 := G2.frF A2
  refine (one_count_yes _ r p b _ 0 0 0 RA2 GA2).mono ?_
  rintro e x2 ⟨rfl, hx2⟩
  have RX2 := RA2.frF hx2
  have GX2 := GA2.frF hx2
  have hy2 : Fr (· = r) y1 x2 := (Fr.weak A2).trans (Fr.weak (S := (· = r)) hx2)
  have FX2 := F2.trans hy2
  have hrx2 := own_alloc (row_keep hr2 R2 hy2 (by decide)) (.cells #[.int .i64 3, .int .i64 0] 61)
  have hsx2 := FX2.size
  have BX2 : Fr (fun _ => False) x2 (x2.alloc (.cells #[.int .i64 3, .int .i64 0] 61)) := (Fr.refl _ _).alloc _
  go_wp2_with (first
    | (at_builtin; refine wpList_app el_ans rfl _ _ rfl rfl hrx2 rfl rfl (slAt_new x2 #[.int .i64 3, .int .i64 0] 61) (by simp [Value.oneCell']) (by unfold maxLen; simp) (by simp) (by rw [alloc_size]; omega) ?_))
  intro V2 c2 y2 hr3 hz2 _
  have R3 := RdIs.frS (RX2.frF BX2) hz2 (fun e => row_type' hrx2 (RX2.frF BX2) (by decide) e)
  have F3 : Fr (· = r) w y2 := ((FX2.trans (Fr.weak BX2)).mono (T := fun n => n = r ∨ w.heap.size ≤ n) (fun _ _ e => .inl e)).then hz2 (fun n hn e => .inr (row_lt hrx2 n e).2) |>.mono (fun n hn e => by rcases e with e | e; exact e; omega)
  have q12_3 : y2.cell? ⟨q, 12, none⟩ = some (.int .i64 0) := F3.cell q12 hqr
  have q13_3 : y2.cell? ⟨q, 13, none⟩ = some (.int .i64 0) := F3.cell q13 hqr
  have q14_3 : y2.cell? ⟨q, 14, none⟩ = some (.int .u64 0) := F3.cell q14 hqr
  have q15_3 : y2.cell? ⟨q, 15, none⟩ = some (.int .u64 0) := F3.cell q15 hqr
  clear A2 RA2 hx2 hy2 FX2 BX2 hz2 R2 q8_2 q9_2 q10_2 q11_2
  go_wp2_with fail
  rw [rounds_succ]
  go_wp2_with fail
  have A3 : Fr (fun _ => False) y2 (y2.alloc (.cells #[.int .i64 0, .int .i64 0, .int .u64 0, .int .u64 0] 47)) := (Fr.refl _ _).alloc _
  have RA3 := R3.frF A3
  refine (one_wrong _ r ⟨0, 0, 0, 0⟩ (by decide)).mono ?_
  rintro e x3 ⟨rfl, hx3⟩
  have RX3 := RA3.frF hx3
  have hy3 : Fr (· = r) y2 x3 := (Fr.weak A3).trans (Fr.weak (S := (· = r)) hx3)
  have FX3 := F3.trans hy3
  have hrx3 := own_alloc (row_keep hr3 R3 hy3 (by decide)) (.cells #[.int .i64 0, .int .i64 30] 61)
  have hsx3 := FX3.size
  have BX3 : Fr (fun _ => False) x3 (x3.alloc (.cells #[.int .i64 0, .int .i64 30] 61)) := (Fr.refl _ _).alloc _
  go_wp2_with (first
    | (at_builtin; refine wpList_app el_ans rfl _ _ rfl rfl hrx3 rfl rfl (slAt_new x3 #[.int .i64 0, .int .i64 30] 61) (by simp [Value.oneCell']) (by unfold maxLen; simp) (by simp) (by rw [alloc_size]; omega) ?_))
  intro V3 c3 y3 hr4 hz3 _
  have R4 := RdIs.frS (RX3.frF BX3) hz3 (fun e => row_type' hrx3 (RX3.frF BX3) (by decide) e)
  have F4 : Fr (· = r) w y3 := ((FX3.trans (Fr.weak BX3)).mono (T := fun n => n = r ∨ w.heap.size ≤ n) (fun _ _ e => .inl e)).then hz3 (fun n hn e => .inr (row_lt hrx3 n e).2) |>.mono (fun n hn e => by rcases e with e | e; exact e; omega)
  clear A3 RA3 hx3 hy3 FX3 BX3 hz3 R3 q12_3 q13_3 q14_3 q15_3
  go_wp2_with fail
  rw [rounds_succ]
  go_wp2
  go_ret
  exact ⟨_, rfl, hr4, F4⟩

end Go.Proofs.YteagpbcmfnopfaaGreatDoor
