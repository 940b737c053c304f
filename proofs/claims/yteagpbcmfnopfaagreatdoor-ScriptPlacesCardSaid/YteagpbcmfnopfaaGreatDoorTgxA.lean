/- archipelagoref18 at no events: Right, Put, RowsRight, RowsPut, Encode. -/
import Derived.Test.YteagpbcmfnopfaaGreatDoorRows
import Derived.Test.YteagpbcmfnopfaaGreatDoorRefA
import Derived.Test.YteagpbcmfnopfaaGreatDoorHdSpec
import Derived.Test.YteagpbcmfnopfaaGreatDoorApp
import Derived.ArgAppend
import Derived.Lib.SlBytesConst
import Derived.Deep.RegionWith
import Derived.Deep.RegionHeld3
import Derived.BigQuiet
namespace Go.Proofs.YteagpbcmfnopfaaGreatDoor
open Go.RowKit

set_option maxRecDepth 100000 in
theorem ref18_Right (n k c : Int) (w : World) :
    Calls Tryz.prog 71 #[.agg #[.int .u64 n, .int .i64 k, .int .i64 c]] w fun e w' => e = .returned (.bool (Hd.right ⟨n, k, c⟩)) ∧ Fr (fun _ => False) w w' := by
  have hfr : Fr (fun _ => False) w (w.alloc (.cells #[.int .u64 n, .int .i64 k, .int .i64 c] 113)) := (Fr.refl _ _).alloc _
  cases h1 : decide (n ≤ 4294967296)
  all_goals
    go_enter Tryz.func71, Tryz.ntmps71
    go_wp2
    all_goals
      go_ret
      exact ⟨ret_bool (by simp only [Hd.right, h1]; first | (simp [*]; done) | (simp [*]; omega)), hfr⟩

theorem cell_marked (w : World) (C : Array Value) (t : TypeId) (r : Nat × Nat) (j : Nat) (v : Value) (h : C[j]? = some v) : (w.alloc (.cells C t r)).cell? ⟨w.heap.size, j, none⟩ = some v := by
  have e : (w.alloc (.cells C t r)).heap[w.heap.size]? = some (.cells C t r) := by
    show (w.heap.push (.cells C t r))[w.heap.size]? = _
    simp
  simp only [World.cell?, e]
  simpa using h

set_option maxHeartbeats 1000000 in
set_option maxRecDepth 100000 in
theorem ref18_Put (n k c : Int) (h0 : 0 ≤ n) (h1 : n ≤ 4294967296) (h2 : 1 ≤ k) (h3 : k ≤ 1048576) (h4 : 0 ≤ c) (h5 : c ≤ 2147483648) (w : World) :
    Calls Tryz.prog 52 #[.agg #[.int .u64 n, .int .i64 k, .int .i64 c]] w fun e w' => ∃ v, e = .returned v ∧ w'.ownsRow w.heap.size 5 1 v 24 (bC (Hd.bytes ⟨n, k, c⟩)) ∧ Fr (fun _ => False) w w' := by
  obtain ⟨i0, hi, hz0, hz1, hz2⟩ := info_parts info_u8
  obtain ⟨N, rfl⟩ := Int.eq_ofNat_of_zero_le h0
  obtain ⟨K, rfl⟩ := Int.eq_ofNat_of_zero_le (show 0 ≤ k by omega)
  obtain ⟨C, rfl⟩ := Int.eq_ofNat_of_zero_le h4
  have hrt : Hd.right ⟨N, K, C⟩ = true := by simp [Hd.right]; omega
  have HR := Lib.hid hrt; clear hrt
  have kc := fun (w : World) (C : Array Value) (n c : Nat) => Lib.run_convert_bytes_const (P := Tryz.prog) w 22 5 C n c Tryz.underlying22 Tryz.underlying5
  go_enter Tryz.func52, Tryz.ntmps52
  go_wp2_with fail
  refine (ref18_Right _ _ _ _).mono ?_
  rintro e w1 ⟨rfl, hf1⟩
  rw [HR.out]
  have B0 : Blk w1 w.heap.size #[.int .u64 N, .int .i64 K, .int .i64 C] 113 := Blk.fr (h := by exact Blk.new w _ _) hf1 (fun x => x)
  have F1 : Fr (fun _ => False) w w1 := Fr.trans (by exact (Fr.refl _ _).alloc _) hf1
  have c0 : w1.cell? ⟨w.heap.size, 0, none⟩ = some (.int .u64 N) := B0.cell rfl
  have c1 : w1.cell? ⟨w.heap.size, 1, none⟩ = some (.int .i64 K) := B0.cell rfl
  have c2 : w1.cell? ⟨w.heap.size, 2, none⟩ = some (.int .i64 C) := B0.cell rfl
  have hs1 := B0.lt
  clear hf1
  go_wp2_with fail
  refine (ref1_Fixed N 8 (by omega) (by omega) _).mono ?_
  rintro e w2 ⟨v2, rfl, hr2, hf2⟩
  obtain ⟨g2, p2, rfl, hrow2, hg2, _, _⟩ := own_some hr2 (bC_ne (by rw [leN_length]; omega))
  have FA : Fr (fun _ => False) w w2 := Fr.trans (by exact F1.alloc _) hf2
  have B2 : Blk w2 w.heap.size #[.int .u64 N, .int .i64 K, .int .i64 C] 113 := Blk.fr (h := by exact Blk.alloc B0 _) hf2 (fun x => x)
  have hm : ∀ j u, ([.int .u8 84, .int .u8 71, .int .u8 88, .int .u8 49] : List Value)[j]? = some u → w2.cell? ((⟨w1.heap.size, 0, none⟩ : Addr).add j) = some u := by
    intro j u hj
    refine hf2.cell ?_ (fun x => x)
    rw [show ((⟨w1.heap.size, 0, none⟩ : Addr).add j) = ⟨w1.heap.size, j, none⟩ from by unfold Addr.add; split <;> simp_all]
    exact cell_marked _ _ _ _ _ _ (by simpa using hj)
  have hs2 := hf2.size
  rw [alloc_size] at hs2
  have hl8 : (bC (leN N 8)).length = 8 * 1 := by rw [bC_length, leN_length]
  go_wp2_with (first
    | (at_builtin; refine wpList_append_grows _ rfl _ _ 22 rfl 5 i0 _ 1 1 Tryz.underlying22 hi hz0 hz1 hz2 rfl (by decide) (some ⟨w1.heap.size, 0, none⟩) 4 4 [.int .u8 84, .int .u8 71, .int .u8 88, .int .u8 49] rfl (fun h => by cases h) rfl (fun b hb => by cases hb; exact hm) ⟨g2, 0, none⟩ 8 p2 (bC (leN N 8)) rfl hl8 (row_at hrow2) bC_one (by omega) (by unfold maxLen; omega) (by omega) ?_))
  intro v3 w3 hr3 hgr3
  have hf3 : Fr (fun _ => False) w w3 := FA.trans (Fr.of_grown hgr3 (fun k hk => by cases hk))
  have B3 : Blk w3 w.heap.size #[.int .u64 N, .int .i64 K, .int .i64 C] 113 := Blk.fr (S := fun _ => False) (h := by exact B2) (Fr.of_grown hgr3 (fun k hk => by cases hk)) (fun x => x)
  have hr3' : w3.drew.ownsRow (w.heap.size + 1) 5 1 v3 12 (bC (tgx1 ++ leN N 8)) := by
    have := row_down hr3 (base' := w.heap.size + 1) (by omega)
    rw [bC_append]; exact this
  have hn3 : ∀ k, v3.ownBlock = some k → k ≠ w.heap.size := fun k hk => by have := (row_lt hr3 k hk).2; omega
  obtain ⟨A3, p3, rfl, _⟩ := slice_own hr3
  clear hr3 c0 c1 c2
  have c1 : w3.cell? ⟨w.heap.size, 1, none⟩ = some (.int .i64 K) := B3.cell rfl
  have c2 : w3.cell? ⟨w.heap.size, 2, none⟩ = some (.int .i64 C) := B3.cell rfl
  have HN3 := Lib.hid hn3; clear hn3
  have hwK : IntKind.u64.wrap (K : Int) = (K : Int) := u64w (by omega) (by omega)
  have hwC : IntKind.u64.wrap (C : Int) = (C : Int) := u64w (by omega) (by omega)
  have hs3 := B3.lt
  go_wp2_with fail
  go_region_held3 (fun w' => w'.cell? ⟨w.heap.size, 1, none⟩ = some (.int .i64 K) ∧ w'.cell? ⟨w.heap.size, 2, none⟩ = some (.int .i64 C))
    (first
      | go_keep
      | ((try go_split_ands); refine ⟨?_, ?_⟩ <;> go_keep)
      | ((try go_split_ands); refine ⟨?_, ?_⟩ <;> (refine hf6.cell ?_ (fun x => by have := (row_lt hr5 w.heap.size x).2; omega); assumption))
      | ((try go_split_ands); refine ⟨?_, ?_⟩ <;> (refine hfC.cell ?_ (fun x => x); assumption))
      | ((try go_split_ands); refine ⟨?_, ?_⟩ <;> (refine hf5.cell ?_ (fun x => by have := (row_lt hr3' w.heap.size x).2; omega); assumption))
      | ((try go_split_ands); refine ⟨?_, ?_⟩ <;> (refine hfK.cell ?_ (fun x => x); assumption)))
    ((first
      | (refine step_app el_u8 (by rfl) _ _ (by rfl) (base := w.heap.size + 1) (by rfl) (own_fr hr5 hfC) (A := AC) (m := 4) (c := pC) (news := bC (leN C 4)) (by rfl) (by rw [bC_length, leN_length]) hsC bC_one (by unfold maxLen; omega) (by omega) (by have := hb5; have := hfC.size; omega) ?_; intro A6 p6 w6 hr6 hf6 _; have F6 := (F5.trans hfC).app (own_fr hr5 hfC) (Nat.le_succ _) hf6)
      | (refine step_app el_u8 (by rfl) _ _ (by rfl) (base := w.heap.size + 1) (by rfl) hr5 (A := AC) (m := 4) (c := pC) (news := bC (leN C 4)) (by rfl) (by rw [bC_length, leN_length]) (hsC.fr hf5 (fun b off e x => by have := (row_lt hr3' b x).1; have := (hoC b).2 ⟨off, e, Nat.lt_of_lt_of_le (row_lt hr3' b x).1 (Nat.le_trans hfK.size hfC.size)⟩; have := (row_lt hrC b this).2; have := hfK.size; omega)) bC_one (by unfold maxLen; omega) (by omega) hb5 ?_; intro A6 p6 w6 hr6 hf6 _; have F6 := F5.app hr5 (Nat.le_succ _) hf6)
      | (refine step_app el_u8 (by rfl) _ _ (by rfl) (base := w.heap.size + 1) (by rfl) (own_fr (own_fr hr3' hfK) hfC) (A := AK) (m := 4) (c := pK) (news := bC (leN K 4)) (by rfl) (by rw [bC_length, leN_length]) (hsK.frF hfC) bC_one (by unfold maxLen; omega) (by omega) (by have := hs3; have := hfK.size; have := hfC.size; have := World.drew_size w3; omega) ?_; intro A5 p5 w5 hr5 hf5 _; have F5 := ((hf3.drew.trans hfK).trans hfC).app (own_fr (own_fr hr3' hfK) hfC) (Nat.le_succ _) hf5; have hb5 : w.heap.size + 1 ≤ w5.heap.size := by have := hs3; have := hfK.size; have := hfC.size; have := hf5.size; have := World.drew_size w3; omega)
      | (refine step_app el_u8 (by rfl) _ _ (by rfl) (base := w.heap.size + 1) (by rfl) (own_fr hr3' hfK) (A := AK) (m := 4) (c := pK) (news := bC (leN K 4)) (by rfl) (by rw [bC_length, leN_length]) hsK bC_one (by unfold maxLen; omega) (by omega) (by have := hs3; have := hfK.size; have := World.drew_size w3; omega) ?_; intro A5 p5 w5 hr5 hf5 _; have F5 := (hf3.drew.trans hfK).app (own_fr hr3' hfK) (Nat.le_succ _) hf5; have hb5 : w.heap.size + 1 ≤ w5.heap.size := by have := hs3; have := hfK.size; have := hf5.size; have := World.drew_size w3; omega)
      | (go_at_call_of 72 (Value.int IntKind.u64 (K : Int)); refine (ref1_Fixed K 4 (by omega) (by omega) _).mono ?_; rintro e wK ⟨vK, rfl, hrK, hfK⟩; obtain ⟨AK, pK, rfl, _, hsK, hoK⟩ := own_slAt hrK)
      | (go_at_call_of 72 (Value.int IntKind.u64 (C : Int)); refine (ref1_Fixed C 4 (by omega) (by omega) _).mono ?_; rintro e wC ⟨vC, rfl, hrC, hfC⟩; obtain ⟨AC, pC, rfl, _, hsC, hoC⟩ := own_slAt hrC)))
  have hr7 : w6.ownsRow (w.heap.size + 1) 5 1 (.slice A6 20 p6) 20 (bC (Hd.raw ⟨N, K, C⟩)) := by
    have e : bC (Hd.raw ⟨N, K, C⟩) = bC (tgx1 ++ leN N 8) ++ bC (leN K 4) ++ bC (leN C 4) := by
      rw [← bC_append, ← bC_append]; rfl
    rw [e]; exact hr6
  obtain ⟨A7, p7, e7, _, hs7, _⟩ := own_slAt hr7
  cases e7
  go_wp2_with fail
  refine (ref1_Seal (Hd.raw ⟨N, K, C⟩) (by intro h; have := Hd.raw_length ⟨N, K, C⟩; rw [h] at this; cases this) A6 p6 w6 (by rw [Hd.raw_length]; omega) hs7).mono ?_
  rintro e w8 ⟨v8, rfl, hr8, hf8⟩
  rw [← Hd.bytes, Hd.bytes_length] at hr8
  go_wp2
  go_ret
  exact ⟨_, rfl, row_down hr8 F6.size, F6.trans hf8⟩

set_option maxRecDepth 100000 in
theorem ref18_RowsRight0 (w : World) :
    Calls Tryz.prog 79 #[.slice none 0 0] w fun e w' => e = .returned (.bool true) ∧ w = w' := by
  go_enter Tryz.func79, Tryz.ntmps79
  go_wp2
  refine wp_loop_rounds 1 ?_
  rw [rounds_succ]
  go_wp2
  go_ret
  exact ⟨rfl, rfl⟩

set_option maxRecDepth 100000 in
theorem ref18_RowsPut0 (w : World) :
    Calls Tryz.prog 55 #[.slice none 0 0] w fun e w' => ∃ v, e = .returned (.tuple #[v, .bool true]) ∧ w'.ownsRow w.heap.size 5 1 v 8 (bC (sealL xgt1)) ∧ Fr (fun _ => False) w w' := by
  obtain ⟨i0, hi, hz0, hz1, hz2⟩ := info_parts info_u8
  go_enter Tryz.func55, Tryz.ntmps55
  go_wp2_with fail
  refine (ref18_RowsRight0 _).mono ?_
  rintro e w1 ⟨rfl, rfl⟩
  go_wp2_with fail
  refine wp_loop_rounds 1 ?_
  rw [rounds_succ]
  go_wp2_with fail
  refine (ref1_Seal xgt1 (by decide) _ _ _ (by decide) (slAt_app w #[.int .u8 88, .int .u8 71, .int .u8 84, .int .u8 49] _ _)).mono ?_
  rintro e w1 ⟨v1, rfl, hr1, hf1⟩
  go_wp2
  go_ret2
  have F1 : Fr (fun _ => False) w w1 := Fr.trans (by exact ((Fr.refl _ _).alloc _).drew) hf1
  exact ⟨_, rfl, row_down hr1 (by show _ ≤ (w.alloc _).heap.size; rw [alloc_size]; omega), F1⟩

set_option maxRecDepth 100000 in
theorem ref8_Check3 (w : World) :
    Calls Tryz.prog 51 #[.agg #[.int .u64 3, .slice none 0 0]] w fun e w' => e = .returned (.tuple #[.int .i64 0, .int .i64 0]) ∧ Fr (fun _ => False) w w' := by
  go_enter Tryz.func51, Tryz.ntmps51
  go_wp2
  refine wp_loop_rounds 1 ?_
  rw [rounds_succ]
  go_wp2
  go_ret2
  exact ⟨rfl, (Fr.refl _ _).alloc _⟩

set_option maxHeartbeats 400000 in
set_option maxRecDepth 100000 in
/-- The file of no events, of three vertices. -/
theorem ref18_Encode3 (w : World) :
    Calls Tryz.prog 19 #[.agg #[.int .u64 3, .slice none 0 0], .int .i64 1] w fun e w' => ∃ v, e = .returned (.tuple #[v, .int .i64 0]) ∧ w'.ownsRow w.heap.size 5 1 v 32 (bC (Hd.bytes ⟨3, 1, 0⟩ ++ sealL xgt1)) ∧ Fr (fun _ => False) w w' := by
  go_enter Tryz.func19, Tryz.ntmps19
  go_wp2_with fail
  refine (ref8_Check3 _).mono ?_
  rintro e w1 ⟨rfl, hf1⟩
  have B0 : Blk w1 w.heap.size #[.int .u64 3, .slice none 0 0] 31 := Blk.fr (h := by exact Blk.new w _ _) hf1 (fun x => x)
  have F1 : Fr (fun _ => False) w w1 := Fr.trans (by exact (Fr.refl _ _).alloc _) hf1
  have c0 : w1.cell? ⟨w.heap.size, 0, none⟩ = some (.int .u64 3) := B0.cell rfl
  have c1 : w1.cell? ⟨w.heap.size, 1, none⟩ = some (.slice none 0 0) := B0.cell rfl
  clear hf1
  go_wp2_with fail
  refine (ref18_Put 3 1 0 (by omega) (by omega) (by omega) (by omega) (by omega) (by omega) _).mono ?_
  rintro e w2 ⟨v2, rfl, hr2, hf2⟩
  have B2 := Blk.fr (S := fun _ => False) (h := by exact B0) hf2 (fun x => x)
  have d1 : w2.cell? ⟨w.heap.size, 1, none⟩ = some (.slice none 0 0) := B2.cell rfl
  clear c0 c1
  go_wp2_with fail
  refine wp_loop_rounds 1 ?_
  rw [rounds_succ]
  go_wp2_with fail
  refine (ref18_RowsPut0 _).mono ?_
  rintro e w3 ⟨v3, rfl, hr3, hf3⟩
  obtain ⟨A3, c3, rfl, _, hs3, _⟩ := own_slAt hr3
  have hr2' := own_fr hr2 hf3
  have hz1 := F1.size
  have hz2 := hf2.size
  have hz3 := hf3.size
  go_wp2_with (first
    | (at_builtin; refine wpList_app el_u8 rfl _ _ rfl rfl hr2' rfl (by simp [bC, sealL, xgt1, le4]) hs3 bC_one (by unfold maxLen; omega) (by omega) (by omega) ?_))
  intro A4 c4 w4 hr4 hf4 _
  go_wp2
  go_ret2
  refine ⟨_, rfl, ?_, ((F1.trans hf2).trans hf3).app hr2' (by omega) hf4⟩
  rw [bC_append]
  exact row_down hr4 (by omega)

end Go.Proofs.YteagpbcmfnopfaaGreatDoor
