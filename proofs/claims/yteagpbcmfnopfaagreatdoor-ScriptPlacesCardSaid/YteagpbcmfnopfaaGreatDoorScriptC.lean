/- Package script, walked: Right; a word; a line; a text. -/
import Derived.Test.YteagpbcmfnopfaaGreatDoorScriptB
import Derived.Deep.DeepCutAuto
namespace Go.Proofs.YteagpbcmfnopfaaGreatDoor
open Go.RowKit

theorem script_Right (c : Cmd) (w : World) :
    Calls Tryz.prog 17 #[cmdV c] w fun e w' => e = .returned (.bool c.right) ∧ Fr (fun _ => False) w w' := by
  obtain ⟨k, t, u, x⟩ := c
  unfold cmdV
  cases hv : aget k wordsL with
  | none =>
    refine (right_none k t u x hv w).mono fun e w' ⟨he, hf⟩ => ⟨?_, hf⟩
    rw [he]
    have hk := aget_none.1 hv
    simp only [wordsL, List.map_cons, List.map_nil, List.mem_cons, List.not_mem_nil, or_false, not_or] at hk
    have : Cmd.right ⟨k, t, u, x⟩ = false := by
      simp only [Cmd.right]
      rw [if_neg (by omega), if_neg (by omega), if_neg (by omega), if_neg (by omega)]
    rw [this]
  | some v =>
    have hm := mem_of_aget hv
    simp only [wordsL, List.mem_cons, Prod.mk.injEq, List.not_mem_nil, or_false] at hm
    have hn : v.toList.isEmpty = false := by
      rcases hm with ⟨_, rfl⟩ | ⟨_, rfl⟩ | ⟨_, rfl⟩ | ⟨_, rfl⟩ | ⟨_, rfl⟩ | ⟨_, rfl⟩ <;> exact not_empty_of_size (by decide)
    have hk : k = 1 ∨ k = 2 ∨ k = 3 ∨ k = 4 ∨ k = 5 ∨ k = 6 := by
      rcases hm with ⟨h, _⟩ | ⟨h, _⟩ | ⟨h, _⟩ | ⟨h, _⟩ | ⟨h, _⟩ | ⟨h, _⟩ <;> omega
    obtain ⟨t', u', x', hb⟩ : ∃ t' u' x', Cmd.bare ⟨k, t, u, x⟩ = ⟨k, t', u', x'⟩ := by
      unfold Cmd.bare
      split
      · exact ⟨_, _, _, rfl⟩
      · split
        · exact ⟨_, _, _, rfl⟩
        · split <;> exact ⟨_, _, _, rfl⟩
    have hr : Cmd.right ⟨k, t, u, x⟩ = (decide (t = t' ∧ u = u' ∧ x = x') && decide (0 ≤ t)) := by
      rcases hk with rfl | rfl | rfl | rfl | rfl | rfl <;> (simp [Cmd.bare] at hb; obtain ⟨rfl, rfl, rfl⟩ := hb; simp [Cmd.right]) <;> (first | omega | (rw [Bool.eq_iff_iff]; simp; omega))
    rw [hr]
    by_cases ht : t = t'
    · subst ht
      by_cases hu : u = u'
      · subst hu
        by_cases hx : x = x'
        · subst hx
          simpa using right_all k t u x v hv hn hb w
        · have h' : decide (t = t ∧ u = u ∧ x = x') = false := by simp [hx]
          rw [h']
          exact right_v k t u x x' v hv hn hb (by simpa using hx) w
      · have h' : decide (t = t ∧ u = u' ∧ x = x') = false := by simp [hu]
        rw [h']
        exact right_u k t u x u' x' v hv hn hb (by simpa using hu) w
    · have h' : decide (t = t' ∧ u = u' ∧ x = x') = false := by simp [ht]
      rw [h']
      exact right_t k t u x t' u' x' v hv hn hb (by simpa using ht) w

set_option maxHeartbeats 800000 in
set_option maxRecDepth 100000 in
theorem script_word (x : Sc) (he : x.e = 0) (hs : x.ok) (w : World) (g : Nat) (hb : ScIs w g x) :
    Calls Tryz.prog 34 #[.pointer (some ⟨g, 0, none⟩)] w fun e w' => e = .returned (.string x.letters.2) ∧ ScIs w' g x.letters.1 ∧ Fr (· = g) w w' := by
  obtain ⟨N, hN⟩ : ∃ N, N = nl x.s := ⟨_, rfl⟩
  have hNle : N ≤ x.s.size := hN ▸ nl_le x.s
  have HL := Lib.hid (show ∀ j, j < N → j < x.s.size ∧ 97 ≤ bt x.s j ∧ bt x.s j ≤ 122 from fun j hj => nl_let (hN ▸ hj))
  have HS := Lib.hid (show N < x.s.size → ¬ (97 ≤ bt x.s N ∧ bt x.s N ≤ 122) from fun h => by subst hN; exact nl_end h)
  have HF := Lib.hid (show x.letters = (x.skip N, x.s.extract 0 N) by rw [hN]; rfl)
  have HE := Lib.hid he
  clear hN he
  go_enter Tryz.func34, Tryz.ntmps34
  go_wp2_with fail
  refine (scan_Next x _ g hb).mono ?_
  rintro e w1 ⟨rfl, rfl⟩
  go_wp2_with fail
  go_loopw [3, 4, 5] (fun s b is wr => ∃ k : Nat, k ≤ N ∧ s = .string (x.s.extract 0 k) ∧ b = .int .u8 (x.skip k).next.1 ∧ is = .bool (x.skip k).next.2 ∧ ScIs wr g (x.skip k) ∧ Fr (· = g) w wr) (fun s _ _ _ => N - (match s with | .string b => b.size | _ => 0))
  case atStart => exact ⟨0, by omega, by simp; rfl, by rw [Sc.skip_zero], by rw [Sc.skip_zero], by rw [Sc.skip_zero]; exact hb, Fr.refl _ _⟩
  case round =>
    obtain ⟨k, hk, rfl, rfl, rfl, hsc, hfr⟩ := hrel
    by_cases hlt : k < N
    · obtain ⟨hks, hb1, hb2⟩ := HL.out k hlt
      obtain ⟨b, hbb⟩ := byte_of (n := bt x.s k) (by omega) (by omega)
      rw [Sc.skip_next HE.out hks]
      dsimp only
      rw [hbb] at hb1 hb2 ⊢
      have hby := Sc.skip_byte HE.out hks hbb
      have hsn := extract_snoc hks hbb
      have HB := Lib.hid hbb
      have HBY := Lib.hid hby
      have HSN := Lib.hid hsn
      clear hbb hby hsn
      have hok := Sc.skip_ok hs k
      obtain ⟨acc, hacc⟩ : ∃ acc, acc = x.s.extract 0 k := ⟨_, rfl⟩
      have hsz1 : acc.size ≤ 140737488351232 := by
        unfold Sc.ok at hs
        rw [hacc, size_eq_len, extract_list, List.drop_zero, List.length_take, ← size_eq_len]; omega
      have hsz2 : (oneB b).size ≤ 1 := Nat.le_refl _
      have HA := Lib.hid hacc
      rw [← hacc]
      clear hacc
      go_wp2_with fail
      refine (scan_Byte (x.skip k) b hok _ g hsc).mono ?_
      rw [HBY.out]
      rintro e w2 ⟨rfl, hsc2, hf2⟩
      dsimp only at hsc2
      have hcv := one_string (w2.alloc (.cells #[.int .u8 b.toNat] 5)) b w2.heap.size 1 (Blk.cell (Blk.new _ _ _) rfl)
      have hsc3 : ScIs (w2.alloc (.cells #[.int .u8 b.toNat] 5)) g (x.skip (k + 1)) := Blk.alloc hsc2 _
      go_wp2_with fail
      refine (scan_Next (x.skip (k + 1)) _ g hsc3).mono ?_
      rintro e w3 ⟨rfl, rfl⟩
      go_wp2
      go_roundw
      case rel => exact ⟨k + 1, by omega, congrArg Value.string (by rw [HA.out]; exact HSN.out), rfl, rfl, hsc3, (hfr.trans hf2).alloc _⟩
      case measure =>
        have h1 : (x.s.extract 0 k ++ oneB b).size = k + 1 := by rw [HSN.out, size_eq_len, extract_list, List.drop_zero, List.length_take, ← size_eq_len]; omega
        have h2 : (x.s.extract 0 k).size = k := by rw [size_eq_len, extract_list, List.drop_zero, List.length_take, ← size_eq_len]; omega
        show N - (acc ++ oneB b).size < N - (acc).size
        rw [HA.out, h1, h2]
        omega
    · obtain rfl : k = N := by omega
      by_cases hks : k < x.s.size
      · rw [Sc.skip_next HE.out hks]
        dsimp only
        have hno := HS.out hks
        have hr := bt_range x.s k
        by_cases h97 : 97 ≤ bt x.s k
        · have h122 : ¬ bt x.s k ≤ 122 := fun h => hno ⟨h97, h⟩
          generalize bt x.s k = n at *
          clear hno
          go_wp2
          go_ret
          rw [HF.out]
          exact ⟨rfl, hsc, hfr⟩
        · generalize bt x.s k = n at *
          clear hno
          go_wp2
          go_ret
          rw [HF.out]
          exact ⟨rfl, hsc, hfr⟩
      · rw [Sc.skip_next_end (by omega)]
        dsimp only
        go_wp2
        go_ret
        rw [HF.out]
        exact ⟨rfl, hsc, hfr⟩

theorem script_num (x : Sc) (most : Int) (hm : 0 ≤ most) (hm2 : most ≤ 18446744073709551615) (hs : x.ok) (hs2 : (x.byte 32).1.ok) (w : World) (g c : Nat) (hb : ScIs w g x) (hc : w.cell? ⟨c, 0, none⟩ = some (.pointer (some ⟨g, 0, none⟩))) (hcg : c ≠ g) :
    Calls Tryz.prog 64 #[.int .u64 most, .pointer (some ⟨c, 0, none⟩)] w fun e w' => e = .returned (.int .u64 (x.num most).2) ∧ ScIs w' g (x.num most).1 ∧ Fr (· = g) w w' := by
  go_enter Tryz.func64, Tryz.ntmps64
  go_wp2_with fail
  refine (scan_Byte x 32 hs _ g hb).mono ?_
  rintro e w1 ⟨rfl, hb1, hf1⟩
  have hc1 := hf1.cell hc hcg
  go_wp2_with fail
  refine (scan_Number _ most hm hm2 hs2 _ g hb1).mono ?_
  rintro e w2 ⟨rfl, hb2, hf2⟩
  go_wp2
  go_ret
  exact ⟨rfl, hb2, hf1.trans hf2⟩

set_option maxHeartbeats 1600000 in
set_option maxRecDepth 100000 in
theorem script_line (x : Sc) (k : Int) (hs : x.ok) (w : World) (g : Nat) (hb : ScIs w g x) :
    Calls Tryz.prog 35 #[.pointer (some ⟨g, 0, none⟩), .int .i64 k] w fun e w' => e = .returned (cmdV (x.line k).2) ∧ ScIs w' g (x.line k).1 ∧ Fr (· = g) w w' := by
  have hg := Blk.lt hb
  have n0 : w.heap.size ≠ g := by omega
  have n1 : w.heap.size + 1 ≠ g := by omega
  have n2 : w.heap.size + 1 + 1 ≠ g := by omega
  have p1 : w.heap.size ≤ w.heap.size + 1 := Nat.le_succ _
  by_cases h1 : k = 1
  · have b1 : (k == 1) = true := by simpa using h1
    have hfin : x.line k = (((x.num m63).1.byte 10).1, ⟨k, (x.num m63).2, 0, 0⟩) := by simp only [Sc.line, if_pos h1]
    have HF := Lib.hid hfin
    clear h1
    obtain ⟨r1, r2⟩ := Sc.number_range (x.byte 32).1 (m := 9223372036854775807) (by omega)
    have R1 : 0 ≤ (x.num 9223372036854775807).2 := r1
    have R2 : (x.num 9223372036854775807).2 ≤ 9223372036854775807 := r2
    have hok1 : (x.num 9223372036854775807).1.ok := Sc.number_ok (Sc.byte_ok hs 32) _
    clear hfin r1 r2
    go_enter Tryz.func35, Tryz.ntmps35
    go_wp2_with fail
    refine (script_num x 9223372036854775807 (by omega) (by omega) hs (Sc.byte_ok hs 32) _ g w.heap.size (by exact Blk.alloc (Blk.alloc (Blk.alloc hb _) _) _) (by exact Blk.cell (Blk.alloc (Blk.alloc (Blk.new w _ _) _) _) rfl) n0).mono ?_
    rintro e w1 ⟨rfl, hb1, hf1⟩
    have B0 := Blk.fr (h := by exact (Blk.alloc (Blk.alloc (Blk.new w _ _) _) _)) hf1 n0
    have B1 := Blk.fr (h := by exact (Blk.alloc (Blk.new1 w _ _ _) _)) hf1 n1
    have B2 := Blk.fr (h := by exact (Blk.new2 w _ _ _ _)) hf1 n2
    have F1 : Fr (· = g) w w1 := Fr.trans (by exact (((Fr.refl (· = g) w).alloc _).alloc _).alloc _) hf1
    clear hf1
    obtain ⟨T, hT⟩ : ∃ T, T = (x.num 9223372036854775807).2 := ⟨_, rfl⟩
    have HT := Lib.hid hT
    rw [← hT] at R1 R2 ⊢
    clear hT
    have e0 := B0.cell (i := 0) rfl
    have c0 := B2.cell (i := 0) rfl
    have cf0 := B2.free 0
    have c1 := B2.cell (i := 1) rfl
    have cf1 := B2.free 1
    have c2 := B2.cell (i := 2) rfl
    have cf2 := B2.free 2
    have c3 := B2.cell (i := 3) rfl
    have cf3 := B2.free 3
    go_wp2_with fail
    have hb2 : ScIs (w1.setCell ⟨w.heap.size + 1 + 1, 1, none⟩ (.int .i64 T)) g (x.num 9223372036854775807).1 := Blk.set_other hb1 n2 _
    have D0 := Blk.set_other (a := ⟨w.heap.size + 1 + 1, 1, none⟩) B0 (by show w.heap.size + 1 + 1 ≠ _; omega) (.int .i64 T)
    have D1 := Blk.set_other (a := ⟨w.heap.size + 1 + 1, 1, none⟩) B1 (by show w.heap.size + 1 + 1 ≠ _; omega) (.int .i64 T)
    have D2 := Blk.set B2 1 (.int .i64 T)
    have F2 : Fr (· = g) w (w1.setCell ⟨w.heap.size + 1 + 1, 1, none⟩ (.int .i64 T)) := F1.set (.inr (by show w.heap.size ≤ w.heap.size + 1 + 1; omega)) _
    refine (scan_Byte _ 10 hok1 _ g hb2).mono ?_
    rintro e wz ⟨rfl, hbz, hfz⟩
    have C1 := Blk.fr D1 hfz n1
    have C2 := Blk.fr D2 hfz n2
    have Fz := F2.trans hfz
    clear hfz
    have y0 := C1.cell (i := 0) rfl
    have yf0 := C1.free 0
    have y1 := C1.cell (i := 1) rfl
    have yf1 := C1.free 1
    have y2 := C1.cell (i := 2) rfl
    have yf2 := C1.free 2
    have y3 := C1.cell (i := 3) rfl
    have yf3 := C1.free 3
    have z0 := C2.cell (i := 0) rfl
    have z1 := C2.cell (i := 1) rfl
    have z2 := C2.cell (i := 2) rfl
    have z3 := C2.cell (i := 3) rfl
    go_wp2
    exact bodyPost_ret (v := .agg #[.int .i64 k, .int .i64 T, .int .u64 0, .int .u64 0]) (by simp [results, Tryz.results35, go_sem, y0, y1, y2, y3]) rfl ⟨by rw [HF.out, HT.out]; rfl, by rw [HF.out]; exact ((((Blk.set_other hbz n1 _).set_other n1 _).set_other n1 _).set_other n1 _), ((((Fz.set (.inr p1) _).set (.inr p1) _).set (.inr p1) _).set (.inr p1) _)⟩
  · have b1 : (k == 1) = false := by simpa using h1
    by_cases h2 : k = 2 ∨ k = 5
    · have q : ((k == 2) = true) ∨ ((k == 2) = false ∧ (k == 5) = true) := by
        by_cases e : k = 2
        · exact .inl (by simpa using e)
        · exact .inr ⟨by simpa using e, by simpa using h2.resolve_left e⟩
      have hfin : x.line k = ((((x.num m64).1.num m64).1.byte 10).1, ⟨k, 0, (x.num m64).2, ((x.num m64).1.num m64).2⟩) := by simp only [Sc.line, if_neg h1, if_pos h2]
      have HF := Lib.hid hfin
      clear h1 h2
      rcases q with b2 | ⟨b2, b5⟩
      all_goals
        obtain ⟨r1, r2⟩ := Sc.number_range (x.byte 32).1 (m := 18446744073709551615) (by omega)
        have R1 : 0 ≤ (x.num 18446744073709551615).2 := r1
        have R2 : (x.num 18446744073709551615).2 ≤ 18446744073709551615 := r2
        have hok1 : (x.num 18446744073709551615).1.ok := Sc.number_ok (Sc.byte_ok hs 32) _
        clear hfin r1 r2
        go_enter Tryz.func35, Tryz.ntmps35
        go_wp2_with fail
        refine (script_num x 18446744073709551615 (by omega) (by omega) hs (Sc.byte_ok hs 32) _ g w.heap.size (by exact Blk.alloc (Blk.alloc (Blk.alloc hb _) _) _) (by exact Blk.cell (Blk.alloc (Blk.alloc (Blk.new w _ _) _) _) rfl) n0).mono ?_
        rintro e w1 ⟨rfl, hb1, hf1⟩
        have B0 := Blk.fr (h := by exact (Blk.alloc (Blk.alloc (Blk.new w _ _) _) _)) hf1 n0
        have B1 := Blk.fr (h := by exact (Blk.alloc (Blk.new1 w _ _ _) _)) hf1 n1
        have B2 := Blk.fr (h := by exact (Blk.new2 w _ _ _ _)) hf1 n2
        have F1 : Fr (· = g) w w1 := Fr.trans (by exact (((Fr.refl (· = g) w).alloc _).alloc _).alloc _) hf1
        clear hf1
        obtain ⟨T, hT⟩ : ∃ T, T = (x.num 18446744073709551615).2 := ⟨_, rfl⟩
        have HT := Lib.hid hT
        rw [← hT] at R1 R2 ⊢
        clear hT
        have e0 := B0.cell (i := 0) rfl
        have c0 := B2.cell (i := 0) rfl
        have cf0 := B2.free 0
        have c1 := B2.cell (i := 1) rfl
        have cf1 := B2.free 1
        have c2 := B2.cell (i := 2) rfl
        have cf2 := B2.free 2
        have c3 := B2.cell (i := 3) rfl
        have cf3 := B2.free 3
        go_wp2_with fail
        have hb2 : ScIs (w1.setCell ⟨w.heap.size + 1 + 1, 2, none⟩ (.int .u64 T)) g (x.num 18446744073709551615).1 := Blk.set_other hb1 n2 _
        have D0 := Blk.set_other (a := ⟨w.heap.size + 1 + 1, 2, none⟩) B0 (by show w.heap.size + 1 + 1 ≠ _; omega) (.int .u64 T)
        have D1 := Blk.set_other (a := ⟨w.heap.size + 1 + 1, 2, none⟩) B1 (by show w.heap.size + 1 + 1 ≠ _; omega) (.int .u64 T)
        have D2 := Blk.set B2 2 (.int .u64 T)
        have F2 : Fr (· = g) w (w1.setCell ⟨w.heap.size + 1 + 1, 2, none⟩ (.int .u64 T)) := F1.set (.inr (by show w.heap.size ≤ w.heap.size + 1 + 1; omega)) _
        refine (script_num _ 18446744073709551615 (by omega) (by omega) hok1 (Sc.byte_ok hok1 32) _ g w.heap.size hb2 (Blk.cell D0 rfl) n0).mono ?_
        rintro e w2 ⟨rfl, hb3, hf3⟩
        have E0 := Blk.fr D0 hf3 n0
        have E1 := Blk.fr D1 hf3 n1
        have E2 := Blk.fr D2 hf3 n2
        have F3 := F2.trans hf3
        clear hf3 c0 c1 c2 c3 cf0 cf1 cf2 cf3 e0
        have hok2 : ((x.num 18446744073709551615).1.num 18446744073709551615).1.ok := Sc.number_ok (Sc.byte_ok hok1 32) _
        obtain ⟨r1, r2⟩ := Sc.number_range ((x.num 18446744073709551615).1.byte 32).1 (m := 18446744073709551615) (by omega)
        have R3 : 0 ≤ ((x.num 18446744073709551615).1.num 18446744073709551615).2 := r1
        have R4 : ((x.num 18446744073709551615).1.num 18446744073709551615).2 ≤ 18446744073709551615 := r2
        clear r1 r2
        obtain ⟨V, hV⟩ : ∃ V, V = ((x.num 18446744073709551615).1.num 18446744073709551615).2 := ⟨_, rfl⟩
        have HV := Lib.hid hV
        rw [← hV] at R3 R4 ⊢
        clear hV
        have e0 := E0.cell (i := 0) rfl
        have c0 := E2.cell (i := 0) rfl
        have cf0 := E2.free 0
        have c1 := E2.cell (i := 1) rfl
        have cf1 := E2.free 1
        have c2 := E2.cell (i := 2) rfl
        have cf2 := E2.free 2
        have c3 := E2.cell (i := 3) rfl
        have cf3 := E2.free 3
        go_wp2_with fail
        have hb4 : ScIs (w2.setCell ⟨w.heap.size + 1 + 1, 3, none⟩ (.int .u64 V)) g ((x.num 18446744073709551615).1.num 18446744073709551615).1 := Blk.set_other hb3 n2 _
        have G0 := Blk.set_other (a := ⟨w.heap.size + 1 + 1, 3, none⟩) E0 (by show w.heap.size + 1 + 1 ≠ _; omega) (.int .u64 V)
        have G1 := Blk.set_other (a := ⟨w.heap.size + 1 + 1, 3, none⟩) E1 (by show w.heap.size + 1 + 1 ≠ _; omega) (.int .u64 V)
        have G2 := Blk.set E2 3 (.int .u64 V)
        have F4 : Fr (· = g) w (w2.setCell ⟨w.heap.size + 1 + 1, 3, none⟩ (.int .u64 V)) := F3.set (.inr (by show w.heap.size ≤ w.heap.size + 1 + 1; omega)) _
        refine (scan_Byte _ 10 hok2 _ g hb4).mono ?_
        rintro e wz ⟨rfl, hbz, hfz⟩
        have C1 := Blk.fr G1 hfz n1
        have C2 := Blk.fr G2 hfz n2
        have Fz := F4.trans hfz
        clear hfz
        have y0 := C1.cell (i := 0) rfl
        have yf0 := C1.free 0
        have y1 := C1.cell (i := 1) rfl
        have yf1 := C1.free 1
        have y2 := C1.cell (i := 2) rfl
        have yf2 := C1.free 2
        have y3 := C1.cell (i := 3) rfl
        have yf3 := C1.free 3
        have z0 := C2.cell (i := 0) rfl
        have z1 := C2.cell (i := 1) rfl
        have z2 := C2.cell (i := 2) rfl
        have z3 := C2.cell (i := 3) rfl
        go_wp2
        exact bodyPost_ret (v := .agg #[.int .i64 k, .int .i64 0, .int .u64 T, .int .u64 V]) (by simp [results, Tryz.results35, go_sem, y0, y1, y2, y3]) rfl ⟨by rw [HF.out, HT.out, HV.out]; rfl, by rw [HF.out]; exact ((((Blk.set_other hbz n1 _).set_other n1 _).set_other n1 _).set_other n1 _), ((((Fz.set (.inr p1) _).set (.inr p1) _).set (.inr p1) _).set (.inr p1) _)⟩
    · by_cases h3 : k = 3 ∨ k = 6
      · have q : ((k == 3) = true) ∨ ((k == 3) = false ∧ (k == 6) = true) := by
          by_cases e : k = 3
          · exact .inl (by simpa using e)
          · exact .inr ⟨by simpa using e, by simpa using h3.resolve_left e⟩
        have b2 : (k == 2) = false := by simp; omega
        have b5 : (k == 5) = false := by simp; omega
        have hfin : x.line k = (((x.num m64).1.byte 10).1, ⟨k, 0, (x.num m64).2, 0⟩) := by simp only [Sc.line, if_neg h1, if_neg h2, if_pos h3]
        have HF := Lib.hid hfin
        clear h1 h2 h3
        rcases q with b3 | ⟨b3, b6⟩
        all_goals
          obtain ⟨r1, r2⟩ := Sc.number_range (x.byte 32).1 (m := 18446744073709551615) (by omega)
          have R1 : 0 ≤ (x.num 18446744073709551615).2 := r1
          have R2 : (x.num 18446744073709551615).2 ≤ 18446744073709551615 := r2
          have hok1 : (x.num 18446744073709551615).1.ok := Sc.number_ok (Sc.byte_ok hs 32) _
          clear hfin r1 r2
          go_enter Tryz.func35, Tryz.ntmps35
          go_wp2_with fail
          refine (script_num x 18446744073709551615 (by omega) (by omega) hs (Sc.byte_ok hs 32) _ g w.heap.size (by exact Blk.alloc (Blk.alloc (Blk.alloc hb _) _) _) (by exact Blk.cell (Blk.alloc (Blk.alloc (Blk.new w _ _) _) _) rfl) n0).mono ?_
          rintro e w1 ⟨rfl, hb1, hf1⟩
          have B0 := Blk.fr (h := by exact (Blk.alloc (Blk.alloc (Blk.new w _ _) _) _)) hf1 n0
          have B1 := Blk.fr (h := by exact (Blk.alloc (Blk.new1 w _ _ _) _)) hf1 n1
          have B2 := Blk.fr (h := by exact (Blk.new2 w _ _ _ _)) hf1 n2
          have F1 : Fr (· = g) w w1 := Fr.trans (by exact (((Fr.refl (· = g) w).alloc _).alloc _).alloc _) hf1
          clear hf1
          obtain ⟨T, hT⟩ : ∃ T, T = (x.num 18446744073709551615).2 := ⟨_, rfl⟩
          have HT := Lib.hid hT
          rw [← hT] at R1 R2 ⊢
          clear hT
          have e0 := B0.cell (i := 0) rfl
          have c0 := B2.cell (i := 0) rfl
          have cf0 := B2.free 0
          have c1 := B2.cell (i := 1) rfl
          have cf1 := B2.free 1
          have c2 := B2.cell (i := 2) rfl
          have cf2 := B2.free 2
          have c3 := B2.cell (i := 3) rfl
          have cf3 := B2.free 3
          go_wp2_with fail
          have hb2 : ScIs (w1.setCell ⟨w.heap.size + 1 + 1, 2, none⟩ (.int .u64 T)) g (x.num 18446744073709551615).1 := Blk.set_other hb1 n2 _
          have D0 := Blk.set_other (a := ⟨w.heap.size + 1 + 1, 2, none⟩) B0 (by show w.heap.size + 1 + 1 ≠ _; omega) (.int .u64 T)
          have D1 := Blk.set_other (a := ⟨w.heap.size + 1 + 1, 2, none⟩) B1 (by show w.heap.size + 1 + 1 ≠ _; omega) (.int .u64 T)
          have D2 := Blk.set B2 2 (.int .u64 T)
          have F2 : Fr (· = g) w (w1.setCell ⟨w.heap.size + 1 + 1, 2, none⟩ (.int .u64 T)) := F1.set (.inr (by show w.heap.size ≤ w.heap.size + 1 + 1; omega)) _
          refine (scan_Byte _ 10 hok1 _ g hb2).mono ?_
          rintro e wz ⟨rfl, hbz, hfz⟩
          have C1 := Blk.fr D1 hfz n1
          have C2 := Blk.fr D2 hfz n2
          have Fz := F2.trans hfz
          clear hfz
          have y0 := C1.cell (i := 0) rfl
          have yf0 := C1.free 0
          have y1 := C1.cell (i := 1) rfl
          have yf1 := C1.free 1
          have y2 := C1.cell (i := 2) rfl
          have yf2 := C1.free 2
          have y3 := C1.cell (i := 3) rfl
          have yf3 := C1.free 3
          have z0 := C2.cell (i := 0) rfl
          have z1 := C2.cell (i := 1) rfl
          have z2 := C2.cell (i := 2) rfl
          have z3 := C2.cell (i := 3) rfl
          go_wp2
          exact bodyPost_ret (v := .agg #[.int .i64 k, .int .i64 0, .int .u64 T, .int .u64 0]) (by simp [results, Tryz.results35, go_sem, y0, y1, y2, y3]) rfl ⟨by rw [HF.out, HT.out]; rfl, by rw [HF.out]; exact ((((Blk.set_other hbz n1 _).set_other n1 _).set_other n1 _).set_other n1 _), ((((Fz.set (.inr p1) _).set (.inr p1) _).set (.inr p1) _).set (.inr p1) _)⟩
      · have b2 : (k == 2) = false := by simp; omega
        have b5 : (k == 5) = false := by simp; omega
        have b3 : (k == 3) = false := by simp; omega
        have b6 : (k == 6) = false := by simp; omega
        have hfin : x.line k = ((x.byte 10).1, ⟨k, 0, 0, 0⟩) := by simp only [Sc.line, if_neg h1, if_neg h2, if_neg h3]
        have HF := Lib.hid hfin
        clear h1 h2 h3 hfin
        go_enter Tryz.func35, Tryz.ntmps35
        go_wp2_with fail
        refine (scan_Byte x 10 hs _ g (by exact Blk.alloc (Blk.alloc (Blk.alloc hb _) _) _)).mono ?_
        rintro e wz ⟨rfl, hbz, hfz⟩
        have C1 := Blk.fr (h := by exact (Blk.alloc (Blk.new1 w _ _ _) _)) hfz n1
        have C2 := Blk.fr (h := by exact (Blk.new2 w _ _ _ _)) hfz n2
        have Fz : Fr (· = g) w wz := Fr.trans (by exact (((Fr.refl (· = g) w).alloc _).alloc _).alloc _) hfz
        clear hfz
        have y0 := C1.cell (i := 0) rfl
        have yf0 := C1.free 0
        have y1 := C1.cell (i := 1) rfl
        have yf1 := C1.free 1
        have y2 := C1.cell (i := 2) rfl
        have yf2 := C1.free 2
        have y3 := C1.cell (i := 3) rfl
        have yf3 := C1.free 3
        have z0 := C2.cell (i := 0) rfl
        have z1 := C2.cell (i := 1) rfl
        have z2 := C2.cell (i := 2) rfl
        have z3 := C2.cell (i := 3) rfl
        go_wp2
        exact bodyPost_ret (v := .agg #[.int .i64 k, .int .i64 0, .int .u64 0, .int .u64 0]) (by simp [results, Tryz.results35, go_sem, y0, y1, y2, y3]) rfl ⟨by rw [HF.out]; rfl, by rw [HF.out]; exact ((((Blk.set_other hbz n1 _).set_other n1 _).set_other n1 _).set_other n1 _), ((((Fz.set (.inr p1) _).set (.inr p1) _).set (.inr p1) _).set (.inr p1) _)⟩

end Go.Proofs.YteagpbcmfnopfaaGreatDoor
