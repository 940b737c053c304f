/- Package script, walked: which commands are right. -/
import Derived.Test.YteagpbcmfnopfaaGreatDoorScriptA
import Derived.Deep.RegionWith
import Derived.Deep.RegionHeld3
namespace Go.Proofs.YteagpbcmfnopfaaGreatDoor
open Go.RowKit

def cmdV (c : Cmd) : Value := .agg #[.int .i64 c.k, .int .i64 c.t, .int .u64 c.u, .int .u64 c.v]

set_option maxRecDepth 100000 in
theorem script_bare (c : Cmd) (w : World) :
    Calls Tryz.prog 50 #[cmdV c] w fun e w' => e = .returned (cmdV c.bare) ∧ Fr (fun _ => False) w w' := by
  unfold cmdV
  obtain ⟨k, t, u, v⟩ := c
  by_cases h1 : k = 1
  · have b1 : (k == 1) = true := by simpa using h1
    have hfin : Cmd.bare ⟨k, t, u, v⟩ = ⟨k, t, 0, 0⟩ := by simp only [Cmd.bare, if_pos h1]
    clear h1
    have HF := Lib.hid hfin
    clear hfin
    go_enter Tryz.func50, Tryz.ntmps50
    go_wp2
    exact bodyPost_ret (v := .agg #[.int .i64 k, .int .i64 t, .int .u64 0, .int .u64 0]) (by simp [results, Tryz.results50, go_sem]) rfl ⟨by rw [HF.out], ((Fr.refl _ _).alloc _).alloc _⟩
  · have b1 : (k == 1) = false := by simpa using h1
    by_cases h2 : k = 2 ∨ k = 5
    · have hfin : Cmd.bare ⟨k, t, u, v⟩ = ⟨k, 0, u, v⟩ := by simp only [Cmd.bare, if_neg h1, if_pos h2]
      by_cases h25 : k = 2
      · have b2 : (k == 2) = true := by simpa using h25
        clear h25 h2 h1
        have HF := Lib.hid hfin
        clear hfin
        go_enter Tryz.func50, Tryz.ntmps50
        go_wp2
        exact bodyPost_ret (v := .agg #[.int .i64 k, .int .i64 0, .int .u64 u, .int .u64 v]) (by simp [results, Tryz.results50, go_sem]) rfl ⟨by rw [HF.out], ((Fr.refl _ _).alloc _).alloc _⟩
      · have h5 : k = 5 := h2.resolve_left h25
        have b2 : (k == 2) = false := by simpa using h25
        have b5 : (k == 5) = true := by simpa using h5
        clear h25 h2 h1 h5
        have HF := Lib.hid hfin
        clear hfin
        go_enter Tryz.func50, Tryz.ntmps50
        go_wp2
        exact bodyPost_ret (v := .agg #[.int .i64 k, .int .i64 0, .int .u64 u, .int .u64 v]) (by simp [results, Tryz.results50, go_sem]) rfl ⟨by rw [HF.out], ((Fr.refl _ _).alloc _).alloc _⟩
    · have b2 : (k == 2) = false := by simp; omega
      have b5 : (k == 5) = false := by simp; omega
      by_cases h3 : k = 3 ∨ k = 6
      · have hfin : Cmd.bare ⟨k, t, u, v⟩ = ⟨k, 0, u, 0⟩ := by simp only [Cmd.bare, if_neg h1, if_neg h2, if_pos h3]
        by_cases h36 : k = 3
        · have b3 : (k == 3) = true := by simpa using h36
          clear h36 h3 h2 h1
          have HF := Lib.hid hfin
          clear hfin
          go_enter Tryz.func50, Tryz.ntmps50
          go_wp2
          exact bodyPost_ret (v := .agg #[.int .i64 k, .int .i64 0, .int .u64 u, .int .u64 0]) (by simp [results, Tryz.results50, go_sem]) rfl ⟨by rw [HF.out], ((Fr.refl _ _).alloc _).alloc _⟩
        · have h6 : k = 6 := h3.resolve_left h36
          have b3 : (k == 3) = false := by simpa using h36
          have b6 : (k == 6) = true := by simpa using h6
          clear h36 h3 h2 h1 h6
          have HF := Lib.hid hfin
          clear hfin
          go_enter Tryz.func50, Tryz.ntmps50
          go_wp2
          exact bodyPost_ret (v := .agg #[.int .i64 k, .int .i64 0, .int .u64 u, .int .u64 0]) (by simp [results, Tryz.results50, go_sem]) rfl ⟨by rw [HF.out], ((Fr.refl _ _).alloc _).alloc _⟩
      · have b3 : (k == 3) = false := by simp; omega
        have b6 : (k == 6) = false := by simp; omega
        have hfin : Cmd.bare ⟨k, t, u, v⟩ = ⟨k, 0, 0, 0⟩ := by simp only [Cmd.bare, if_neg h1, if_neg h2, if_neg h3]
        clear h1 h2 h3
        have HF := Lib.hid hfin
        clear hfin
        go_enter Tryz.func50, Tryz.ntmps50
        go_wp2
        exact bodyPost_ret (v := .agg #[.int .i64 k, .int .i64 0, .int .u64 0, .int .u64 0]) (by simp [results, Tryz.results50, go_sem]) rfl ⟨by rw [HF.out], ((Fr.refl _ _).alloc _).alloc _⟩

theorem zero_string (w : World) : (zeroValue 9).run Tryz.prog w = .ok (.string ByteArray.empty) w := by kernel_rfl

set_option maxHeartbeats 1000000 in
set_option maxRecDepth 100000 in
theorem right_t (k t u x : Int) (t' u' x' : Int) (v : ByteArray) (hv : aget k wordsL = some v) (hn : v.toList.isEmpty = false) (hb : Cmd.bare ⟨k, t, u, x⟩ = ⟨k, t', u', x'⟩) (ht : (t == t') = false) (w : World) :
    Calls Tryz.prog 17 #[.agg #[.int .i64 k, .int .i64 t, .int .u64 u, .int .u64 x]] w fun e w' => e = .returned (.bool false) ∧ Fr (fun _ => False) w w' := by
  have HV := Lib.hid hv
  clear hv
  have HB := Lib.hid hb
  clear hb
  have B0 := Blk.new w #[.int .i64 k, .int .i64 t, .int .u64 u, .int .u64 x] 47
  go_enter Tryz.func17, Tryz.ntmps17
  go_wp2
  first | go_region_with (first
    | (go_at_call 47; refine (script_words _).mono ?_; rintro e w1 ⟨b, rfl, hb1, hm, hf⟩; have hlook := hm.look K_int Tryz.underlying104 (zero_string _) k false; rw [show aget k wordsL = some v from HV.out] at hlook; simp only [Option.elim, eS, eI, Bool.false_eq_true, if_false] at hlook; have B1 := Blk.fr (h := by exact B0) hf (fun x => x); have e0 := B1.cell (i := 0) rfl; have e1 := B1.cell (i := 1) rfl; have e2 := B1.cell (i := 2) rfl; have e3 := B1.cell (i := 3) rfl; have F1 := (((Fr.refl (fun _ => False) w).alloc (.cells #[.int .i64 k, .int .i64 t, .int .u64 u, .int .u64 x] 47)).drew).trans hf; clear hm hf)
    | (go_at_call 50; refine (script_bare ⟨k, t, u, x⟩ _).mono ?_; rintro e w2 ⟨rfl, hf2⟩; rw [HB.out]; unfold cmdV; dsimp only; have B2 := Blk.fr (h := by exact B1) hf2 (fun x => x); have g0 := B2.cell (i := 0) rfl; have g1 := B2.cell (i := 1) rfl; have g2 := B2.cell (i := 2) rfl; have g3 := B2.cell (i := 3) rfl; have F2 := F1.trans hf2)) | fail
  all_goals
    go_wp2
    go_ret
    exact ⟨rfl, F2⟩

set_option maxHeartbeats 1000000 in
set_option maxRecDepth 100000 in
theorem right_u (k t u x : Int) (u' x' : Int) (v : ByteArray) (hv : aget k wordsL = some v) (hn : v.toList.isEmpty = false) (hb : Cmd.bare ⟨k, t, u, x⟩ = ⟨k, t, u', x'⟩) (hu : (u == u') = false) (w : World) :
    Calls Tryz.prog 17 #[.agg #[.int .i64 k, .int .i64 t, .int .u64 u, .int .u64 x]] w fun e w' => e = .returned (.bool false) ∧ Fr (fun _ => False) w w' := by
  have HV := Lib.hid hv
  clear hv
  have HB := Lib.hid hb
  clear hb
  have B0 := Blk.new w #[.int .i64 k, .int .i64 t, .int .u64 u, .int .u64 x] 47
  go_enter Tryz.func17, Tryz.ntmps17
  go_wp2
  first | go_region_with (first
    | (go_at_call 47; refine (script_words _).mono ?_; rintro e w1 ⟨b, rfl, hb1, hm, hf⟩; have hlook := hm.look K_int Tryz.underlying104 (zero_string _) k false; rw [show aget k wordsL = some v from HV.out] at hlook; simp only [Option.elim, eS, eI, Bool.false_eq_true, if_false] at hlook; have B1 := Blk.fr (h := by exact B0) hf (fun x => x); have e0 := B1.cell (i := 0) rfl; have e1 := B1.cell (i := 1) rfl; have e2 := B1.cell (i := 2) rfl; have e3 := B1.cell (i := 3) rfl; have F1 := (((Fr.refl (fun _ => False) w).alloc (.cells #[.int .i64 k, .int .i64 t, .int .u64 u, .int .u64 x] 47)).drew).trans hf; clear hm hf)
    | (go_at_call 50; refine (script_bare ⟨k, t, u, x⟩ _).mono ?_; rintro e w2 ⟨rfl, hf2⟩; rw [HB.out]; unfold cmdV; dsimp only; have B2 := Blk.fr (h := by exact B1) hf2 (fun x => x); have g0 := B2.cell (i := 0) rfl; have g1 := B2.cell (i := 1) rfl; have g2 := B2.cell (i := 2) rfl; have g3 := B2.cell (i := 3) rfl; have F2 := F1.trans hf2)) | fail
  all_goals
    go_wp2
    go_ret
    exact ⟨rfl, F2⟩

set_option maxHeartbeats 1000000 in
set_option maxRecDepth 100000 in
theorem right_v (k t u x : Int) (x' : Int) (v : ByteArray) (hv : aget k wordsL = some v) (hn : v.toList.isEmpty = false) (hb : Cmd.bare ⟨k, t, u, x⟩ = ⟨k, t, u, x'⟩) (hx : (x == x') = false) (w : World) :
    Calls Tryz.prog 17 #[.agg #[.int .i64 k, .int .i64 t, .int .u64 u, .int .u64 x]] w fun e w' => e = .returned (.bool false) ∧ Fr (fun _ => False) w w' := by
  have HV := Lib.hid hv
  clear hv
  have HB := Lib.hid hb
  clear hb
  have B0 := Blk.new w #[.int .i64 k, .int .i64 t, .int .u64 u, .int .u64 x] 47
  go_enter Tryz.func17, Tryz.ntmps17
  go_wp2
  first | go_region_with (first
    | (go_at_call 47; refine (script_words _).mono ?_; rintro e w1 ⟨b, rfl, hb1, hm, hf⟩; have hlook := hm.look K_int Tryz.underlying104 (zero_string _) k false; rw [show aget k wordsL = some v from HV.out] at hlook; simp only [Option.elim, eS, eI, Bool.false_eq_true, if_false] at hlook; have B1 := Blk.fr (h := by exact B0) hf (fun x => x); have e0 := B1.cell (i := 0) rfl; have e1 := B1.cell (i := 1) rfl; have e2 := B1.cell (i := 2) rfl; have e3 := B1.cell (i := 3) rfl; have F1 := (((Fr.refl (fun _ => False) w).alloc (.cells #[.int .i64 k, .int .i64 t, .int .u64 u, .int .u64 x] 47)).drew).trans hf; clear hm hf)
    | (go_at_call 50; refine (script_bare ⟨k, t, u, x⟩ _).mono ?_; rintro e w2 ⟨rfl, hf2⟩; rw [HB.out]; unfold cmdV; dsimp only; have B2 := Blk.fr (h := by exact B1) hf2 (fun x => x); have g0 := B2.cell (i := 0) rfl; have g1 := B2.cell (i := 1) rfl; have g2 := B2.cell (i := 2) rfl; have g3 := B2.cell (i := 3) rfl; have F2 := F1.trans hf2)) | fail
  all_goals
    go_wp2
    go_ret
    exact ⟨rfl, F2⟩

set_option maxHeartbeats 1000000 in
set_option maxRecDepth 100000 in
theorem right_all (k t u x : Int) (v : ByteArray) (hv : aget k wordsL = some v) (hn : v.toList.isEmpty = false) (hb : Cmd.bare ⟨k, t, u, x⟩ = ⟨k, t, u, x⟩) (w : World) :
    Calls Tryz.prog 17 #[.agg #[.int .i64 k, .int .i64 t, .int .u64 u, .int .u64 x]] w fun e w' => e = .returned (.bool (decide (0 ≤ t))) ∧ Fr (fun _ => False) w w' := by
  have HV := Lib.hid hv
  clear hv
  have HB := Lib.hid hb
  clear hb
  have B0 := Blk.new w #[.int .i64 k, .int .i64 t, .int .u64 u, .int .u64 x] 47
  go_enter Tryz.func17, Tryz.ntmps17
  go_wp2
  first | go_region_with (first
    | (go_at_call 47; refine (script_words _).mono ?_; rintro e w1 ⟨b, rfl, hb1, hm, hf⟩; have hlook := hm.look K_int Tryz.underlying104 (zero_string _) k false; rw [show aget k wordsL = some v from HV.out] at hlook; simp only [Option.elim, eS, eI, Bool.false_eq_true, if_false] at hlook; have B1 := Blk.fr (h := by exact B0) hf (fun x => x); have e0 := B1.cell (i := 0) rfl; have e1 := B1.cell (i := 1) rfl; have e2 := B1.cell (i := 2) rfl; have e3 := B1.cell (i := 3) rfl; have F1 := (((Fr.refl (fun _ => False) w).alloc (.cells #[.int .i64 k, .int .i64 t, .int .u64 u, .int .u64 x] 47)).drew).trans hf; clear hm hf)
    | (go_at_call 50; refine (script_bare ⟨k, t, u, x⟩ _).mono ?_; rintro e w2 ⟨rfl, hf2⟩; rw [HB.out]; unfold cmdV; dsimp only; have B2 := Blk.fr (h := by exact B1) hf2 (fun x => x); have g0 := B2.cell (i := 0) rfl; have g1 := B2.cell (i := 1) rfl; have g2 := B2.cell (i := 2) rfl; have g3 := B2.cell (i := 3) rfl; have F2 := F1.trans hf2)) | fail
  all_goals
    go_wp2
    go_ret
    exact ⟨rfl, F2⟩

set_option maxHeartbeats 1000000 in
set_option maxRecDepth 100000 in
theorem right_none (k t u x : Int) (hv : aget k wordsL = none) (w : World) :
    Calls Tryz.prog 17 #[.agg #[.int .i64 k, .int .i64 t, .int .u64 u, .int .u64 x]] w fun e w' => e = .returned (.bool false) ∧ Fr (fun _ => False) w w' := by
  have HV := Lib.hid hv
  clear hv
  have B0 := Blk.new w #[.int .i64 k, .int .i64 t, .int .u64 u, .int .u64 x] 47
  go_enter Tryz.func17, Tryz.ntmps17
  go_wp2
  first | go_region_with (first
    | (go_at_call 47; refine (script_words _).mono ?_; rintro e w1 ⟨b, rfl, hb1, hm, hf⟩; have hlook := hm.look K_int Tryz.underlying104 (zero_string _) k false; rw [show aget k wordsL = none from HV.out] at hlook; simp only [Option.elim, eI, Bool.false_eq_true, if_false] at hlook; have B1 := Blk.fr (h := by exact B0) hf (fun x => x); have e0 := B1.cell (i := 0) rfl; have e1 := B1.cell (i := 1) rfl; have e2 := B1.cell (i := 2) rfl; have e3 := B1.cell (i := 3) rfl; have F1 := (((Fr.refl (fun _ => False) w).alloc (.cells #[.int .i64 k, .int .i64 t, .int .u64 u, .int .u64 x] 47)).drew).trans hf; clear hm hf)) | fail
  all_goals
    go_wp2
    go_ret
    exact ⟨rfl, F1⟩

end Go.Proofs.YteagpbcmfnopfaaGreatDoor
