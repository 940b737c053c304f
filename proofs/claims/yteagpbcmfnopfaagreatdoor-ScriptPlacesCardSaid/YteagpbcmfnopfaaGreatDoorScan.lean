/- The calls of package scan, walked. -/
import Derived.Test.YteagpbcmfnopfaaGreatDoorRows
import Derived.Test.YteagpbcmfnopfaaGreatDoorScanSpec
namespace Go.Proofs.YteagpbcmfnopfaaGreatDoor
open Go.RowKit

def ScIs (w : World) (g : Nat) (x : Sc) : Prop := Blk w g #[.string x.s, .int .i64 x.l, .int .i64 x.c, .int .i64 x.e] 142

theorem ScIs.c0 {w : World} {g : Nat} {x : Sc} (h : ScIs w g x) : w.cell? ⟨g, 0, none⟩ = some (.string x.s) := Blk.cell h rfl
theorem ScIs.c1 {w : World} {g : Nat} {x : Sc} (h : ScIs w g x) : w.cell? ⟨g, 1, none⟩ = some (.int .i64 x.l) := Blk.cell h rfl
theorem ScIs.c2 {w : World} {g : Nat} {x : Sc} (h : ScIs w g x) : w.cell? ⟨g, 2, none⟩ = some (.int .i64 x.c) := Blk.cell h rfl
theorem ScIs.c3 {w : World} {g : Nat} {x : Sc} (h : ScIs w g x) : w.cell? ⟨g, 3, none⟩ = some (.int .i64 x.e) := Blk.cell h rfl

theorem stringslite_HasPrefix (s p : ByteArray) (_ : s.size ≤ 9223372036854775807) (_ : p.size ≤ 9223372036854775807) (w : World) :
    Calls Tryz.prog 152 #[.string s, .string p] w fun e w' => e = .returned (.bool (isPre p s)) ∧ w = w' := by
  by_cases h : p.size ≤ s.size
  · go_enter Tryz.func152, Tryz.ntmps152
    go_wp2
    go_ret
    exact ⟨ret_bool (by simp [isPre, h]), rfl⟩
  · go_enter Tryz.func152, Tryz.ntmps152
    go_wp2
    go_ret
    exact ⟨ret_bool (by simp [isPre]; omega), rfl⟩

theorem strings_HasPrefix (s p : ByteArray) (hs : s.size ≤ 9223372036854775807) (hp : p.size ≤ 9223372036854775807) (w : World) :
    Calls Tryz.prog 122 #[.string s, .string p] w fun e w' => e = .returned (.bool (isPre p s)) ∧ w = w' := by
  go_enter Tryz.func122, Tryz.ntmps122
  go_wp2_with (go_at_call 152; refine (stringslite_HasPrefix _ _ hs hp _).mono ?_; rintro e w' ⟨rfl, rfl⟩)
  go_ret
  exact ⟨rfl, rfl⟩

set_option maxHeartbeats 400000 in
set_option maxRecDepth 100000 in
theorem scan_skip (x : Sc) (n : Nat) (hn : n ≤ x.s.size) (hs : x.ok) (w : World) (g : Nat) (hb : ScIs w g x) :
    Calls Tryz.prog 92 #[.pointer (some ⟨g, 0, none⟩), .int .i64 n] w fun e w' => e = .returned (.tuple #[]) ∧ ScIs w' g (x.skip n) ∧ Fr (· = g) w w' := by
  unfold Sc.ok at hs
  go_enter Tryz.func92, Tryz.ntmps92
  go_wp2
  go_loopw [6] (fun i wr => ∃ k : Nat, k ≤ n ∧ i = .int .i64 k ∧ ScIs wr g { x with l := (adv x.s k x.l x.c).1, c := (adv x.s k x.l x.c).2 } ∧ Fr (· = g) w wr) (fun i _ => n - (intOf i).toNat)
  case atStart => exact ⟨0, Nat.zero_le _, rfl, hb, Fr.refl _ _⟩
  case round =>
    obtain ⟨k, hk, rfl, hsc, hgr⟩ := hrel
    obtain ⟨l, hl⟩ : ∃ l, l = (adv x.s k x.l x.c).1 := ⟨_, rfl⟩
    obtain ⟨c, hc⟩ : ∃ l, l = (adv x.s k x.l x.c).2 := ⟨_, rfl⟩
    rw [← hl, ← hc] at hsc
    have HL := Lib.hid hl; clear hl
    have HC := Lib.hid hc; clear hc
    have c0 := hsc.c0
    have c1 := hsc.c1
    have c2 := hsc.c2
    have f0 := Blk.free hsc 0
    have f1 := Blk.free hsc 1
    have f2 := Blk.free hsc 2
    by_cases hlt : k < n
    · have hks : k < x.s.size := by omega
      by_cases h10 : bt x.s k = 10
      · have hb10 : (((x.s[k]'hks).toNat : Int) == 10) = true := by rw [bt_at, h10]; rfl
        go_wp2
        go_roundw
        case rel => exact ⟨k + 1, by omega, by go_num, by simp only [adv, if_pos h10]; rw [← HL.out]; exact (Blk.set hsc 1 _).set 2 _, (hgr.set (.inl rfl) _).set (.inl rfl) _⟩
        case measure => simp [intOf]; omega
      · have hb10 : (((x.s[k]'hks).toNat : Int) == 10) = false := by rw [bt_at]; simpa using h10
        go_wp2
        go_roundw
        case rel => exact ⟨k + 1, by omega, by go_num, by simp only [adv, if_neg h10]; rw [← HL.out, ← HC.out]; exact (Blk.set hsc 2 _), (hgr.set (.inl rfl) _)⟩
        case measure => simp [intOf]; omega
    · obtain rfl : k = n := by omega
      go_wp2
      go_end0
      unfold Sc.skip
      rw [← HL.out, ← HC.out]
      exact ⟨rfl, Blk.set hsc 0 _, hgr.set (.inl rfl) _⟩

theorem scan_Fail (x : Sc) (k : Int) (w : World) (g : Nat) (hb : ScIs w g x) :
    Calls Tryz.prog 91 #[.pointer (some ⟨g, 0, none⟩), .int .i64 k] w fun e w' => e = .returned (.tuple #[]) ∧ ScIs w' g (x.fail k) ∧ Fr (· = g) w w' := by
  have c3 := hb.c3
  have f3 := Blk.free hb 3
  by_cases h : x.e = 0
  · have h' : (x.e == 0) = true := by simpa using h
    go_enter Tryz.func91, Tryz.ntmps91
    go_wp2
    go_end0
    exact ⟨rfl, by unfold Sc.fail; rw [if_pos h]; exact Blk.set hb 3 _, Fr.set1 _ _ _ _⟩
  · have h' : (x.e == 0) = false := by simpa using h
    go_enter Tryz.func91, Tryz.ntmps91
    go_wp2
    go_end0
    exact ⟨rfl, by unfold Sc.fail; rw [if_neg h]; exact hb, Fr.refl _ _⟩

theorem scan_digit (b : Int) (w : World) :
    Calls Tryz.prog 90 #[.int .u8 b] w fun e w' => e = .returned (.bool (isDig b)) ∧ w = w' := by
  by_cases h : 48 ≤ b
  · go_enter Tryz.func90, Tryz.ntmps90
    go_wp2
    go_ret
    exact ⟨ret_bool (by simp [isDig, h]), rfl⟩
  · go_enter Tryz.func90, Tryz.ntmps90
    go_wp2
    go_ret
    exact ⟨ret_bool (by simp [isDig]; omega), rfl⟩

theorem scan_Err (x : Sc) (w : World) (g : Nat) (hb : ScIs w g x) :
    Calls Tryz.prog 36 #[.pointer (some ⟨g, 0, none⟩)] w fun e w' => e = .returned (.int .i64 x.e) ∧ w = w' := by
  have c3 := hb.c3
  go_enter Tryz.func36, Tryz.ntmps36
  go_wp2
  go_ret
  exact ⟨rfl, rfl⟩

theorem scan_Place (x : Sc) (w : World) (g : Nat) (hb : ScIs w g x) :
    Calls Tryz.prog 32 #[.pointer (some ⟨g, 0, none⟩)] w fun e w' => e = .returned (.agg #[.int .i64 x.l, .int .i64 x.c]) ∧ Fr (fun _ => False) w w' := by
  have c1 := hb.c1
  have c2 := hb.c2
  have hg := Blk.lt hb
  go_enter Tryz.func32, Tryz.ntmps32
  go_wp2
  exact bodyPost_ret (v := .agg #[.int .i64 x.l, .int .i64 x.c]) (by simp [results, Tryz.results32, go_sem]) rfl ⟨rfl, (Fr.refl _ _).alloc _⟩

theorem scan_New (s : ByteArray) (w : World) :
    Calls Tryz.prog 30 #[.string s] w fun e w' => e = .returned (.pointer (some ⟨w.heap.size, 0, none⟩)) ∧ ScIs w' w.heap.size ⟨s, 1, 1, 0⟩ ∧ Fr (fun _ => False) w w' := by
  go_enter Tryz.func30, Tryz.ntmps30
  go_wp2
  go_ret
  exact ⟨rfl, Blk.new _ _ _, (Fr.refl _ _).alloc _⟩

theorem scan_Next (x : Sc) (w : World) (g : Nat) (hb : ScIs w g x) :
    Calls Tryz.prog 31 #[.pointer (some ⟨g, 0, none⟩)] w fun e w' => e = .returned (.tuple #[.int .u8 x.next.1, .bool x.next.2]) ∧ w = w' := by
  have c0 := hb.c0
  have c3 := hb.c3
  by_cases h : x.e = 0
  · have h' : (x.e == 0) = true := by simpa using h
    by_cases hz : x.s.size = 0
    · have hz1 := empty_of_size hz
      go_enter Tryz.func31, Tryz.ntmps31
      go_wp2
      go_ret2
      exact ⟨by simp [Sc.next, hz], rfl⟩
    · have hz1 := not_empty_of_size hz
      have hz2 : 0 < x.s.size := by omega
      go_enter Tryz.func31, Tryz.ntmps31
      go_wp2
      go_ret2
      exact ⟨by simp [Sc.next, hz, h, bt, hz2], rfl⟩
  · have h' : (x.e == 0) = false := by simpa using h
    go_enter Tryz.func31, Tryz.ntmps31
    go_wp2
    go_ret2
    exact ⟨by simp [Sc.next, h], rfl⟩

set_option maxHeartbeats 400000 in
set_option maxRecDepth 100000 in
theorem scan_Word (x : Sc) (v : ByteArray) (hs : x.ok) (hv : v.size ≤ 140737488351232) (w : World) (g : Nat) (hb : ScIs w g x) :
    Calls Tryz.prog 89 #[.pointer (some ⟨g, 0, none⟩), .string v] w fun e w' => e = .returned (.bool (x.word v).2) ∧ ScIs w' g (x.word v).1 ∧ Fr (· = g) w w' := by
  unfold Sc.ok at hs
  have c0 := hb.c0
  have c3 := hb.c3
  have hs' : x.s.size ≤ 9223372036854775807 := by omega
  have hv' : v.size ≤ 9223372036854775807 := by omega
  by_cases h : x.e = 0
  · have h' : (x.e == 0) = true := by simpa using h
    by_cases hp : isPre v x.s = true
    · have hp' : v.size ≤ x.s.size := by simp [isPre] at hp; exact hp.1
      have hfin : x.word v = (x.skip v.size, true) := by simp [Sc.word, h, hp]
      have HF := Lib.hid hfin
      have HP := Lib.hid hp
      clear hfin hp
      go_enter Tryz.func89, Tryz.ntmps89
      go_wp2_with fail
      refine (strings_HasPrefix _ _ hs' hv' _).mono ?_
      rintro e w' ⟨rfl, rfl⟩
      rw [HP.out]
      go_wp2_with fail
      refine (scan_skip x v.size hp' hs w g hb).mono ?_
      rintro e w' ⟨rfl, hb', hf⟩
      go_wp2
      go_ret
      rw [HF.out]
      exact ⟨rfl, hb', hf⟩
    · by_cases hq : isPre x.s v = true
      · have hfin : x.word v = (x.fail 20, false) := by simp [Sc.word, h, hp, hq]
        have HF := Lib.hid hfin
        have HP := Lib.hid (Bool.not_eq_true _ ▸ hp : isPre v x.s = false)
        have HQ := Lib.hid hq
        clear hfin hp hq
        go_enter Tryz.func89, Tryz.ntmps89
        go_wp2_with fail
        refine (strings_HasPrefix _ _ hs' hv' _).mono ?_
        rintro e w' ⟨rfl, rfl⟩
        rw [HP.out]
        go_wp2_with fail
        refine (strings_HasPrefix _ _ hv' hs' _).mono ?_
        rintro e w' ⟨rfl, rfl⟩
        rw [HQ.out]
        go_wp2_with fail
        refine (scan_Fail x 20 w g hb).mono ?_
        rintro e w' ⟨rfl, hb', hf⟩
        go_wp2
        go_ret
        rw [HF.out]
        exact ⟨rfl, hb', hf⟩
      · have hfin : x.word v = (x.fail 21, false) := by simp [Sc.word, h, hp, hq]
        have HF := Lib.hid hfin
        have HP := Lib.hid (Bool.not_eq_true _ ▸ hp : isPre v x.s = false)
        have HQ := Lib.hid (Bool.not_eq_true _ ▸ hq : isPre x.s v = false)
        clear hfin hp hq
        go_enter Tryz.func89, Tryz.ntmps89
        go_wp2_with fail
        refine (strings_HasPrefix _ _ hs' hv' _).mono ?_
        rintro e w' ⟨rfl, rfl⟩
        rw [HP.out]
        go_wp2_with fail
        refine (strings_HasPrefix _ _ hv' hs' _).mono ?_
        rintro e w' ⟨rfl, rfl⟩
        rw [HQ.out]
        go_wp2_with fail
        refine (scan_Fail x 21 w g hb).mono ?_
        rintro e w' ⟨rfl, hb', hf⟩
        go_wp2
        go_ret
        rw [HF.out]
        exact ⟨rfl, hb', hf⟩
  · have h' : (x.e == 0) = false := by simpa using h
    have hfin : x.word v = (x, false) := by simp [Sc.word, h]
    have HF := Lib.hid hfin
    clear hfin
    go_enter Tryz.func89, Tryz.ntmps89
    go_wp2
    go_ret
    rw [HF.out]
    exact ⟨rfl, hb, Fr.refl _ _⟩

theorem Sc.fail_e {x : Sc} (h : x.e = 0) (k : Int) : (x.fail k).e = k := by simp [Sc.fail, h]

theorem ScIs.failed {w : World} {g : Nat} {x : Sc} {k : Int} (h : ScIs w g (x.fail k)) (hx : x.e = 0) : w.cell? ⟨g, 3, none⟩ = some (.int .i64 k) := by
  have := h.c3
  rwa [Sc.fail_e hx] at this

theorem one_string (W : World) (b : UInt8) (g c : Nat) (hc : W.cell? ⟨g, 0, none⟩ = some (.int .u8 b.toNat)) :
    (convert 22 9 (.slice (some ⟨g, 0, none⟩) 1 c)).run Tryz.prog W = .ok (.string (oneB b)) W := by
  have h := run_convert_bytes_arg (P := Tryz.prog) W 22 5 Tryz.underlying22 Tryz.underlying5 g 0 1 c [(b.toNat : Int)] rfl (fun i hi => by
    obtain rfl : i = 0 := by omega
    exact hc) 9 Tryz.underlying9
  rw [h]
  have : strOfNums [(b.toNat : Int)] = oneB b := by
    simp [strOfNums, oneB]
  rw [this]

set_option maxRecDepth 100000 in
theorem scan_Byte (x : Sc) (b : UInt8) (hs : x.ok) (w : World) (g : Nat) (hb : ScIs w g x) :
    Calls Tryz.prog 63 #[.pointer (some ⟨g, 0, none⟩), .int .u8 b.toNat] w fun e w' => e = .returned (.bool (x.byte b).2) ∧ ScIs w' g (x.byte b).1 ∧ Fr (· = g) w w' := by
  have hcv := one_string (w.alloc (.cells #[.int .u8 b.toNat] 5)) b w.heap.size 1 (Blk.cell (Blk.new _ _ _) rfl)
  have hb2 : ScIs (w.alloc (.cells #[.int .u8 b.toNat] 5)) g x := Blk.alloc hb _
  go_enter Tryz.func63, Tryz.ntmps63
  go_wp2_with fail
  refine (scan_Word x (oneB b) hs (by show 1 ≤ _; omega) _ g hb2).mono ?_
  rintro e w' ⟨rfl, hb', hf⟩
  go_wp2
  go_ret
  exact ⟨rfl, hb', ((Fr.refl (· = g) w).alloc _).trans hf⟩

set_option maxHeartbeats 1600000 in
set_option maxRecDepth 100000 in
theorem scan_Number (x : Sc) (most : Int) (hm : 0 ≤ most) (hm2 : most ≤ 18446744073709551615) (hs : x.ok) (w : World) (g : Nat) (hb : ScIs w g x) :
    Calls Tryz.prog 65 #[.pointer (some ⟨g, 0, none⟩), .int .u64 most] w fun e w' => e = .returned (.int .u64 (x.number most).2) ∧ ScIs w' g (x.number most).1 ∧ Fr (· = g) w w' := by
  unfold Sc.ok at hs
  have c0 := hb.c0
  have c3 := hb.c3
  by_cases h : x.e = 0
  · have h' : (x.e == 0) = true := by simpa using h
    obtain ⟨N, hN⟩ : ∃ N, N = nd x.s := ⟨_, rfl⟩
    have hNle : N ≤ x.s.size := hN ▸ nd_le x.s
    have hdig : ∀ j, j < N → 48 ≤ bt x.s j ∧ bt x.s j ≤ 57 := fun j hj => (nd_dig (hN ▸ hj)).2
    have hstop : N < x.s.size → isDig (bt x.s N) = false := fun hlt => by subst hN; exact nd_end hlt
    have HD := Lib.hid hdig
    have HS := Lib.hid hstop
    have HN := Lib.hid hN
    clear hdig hstop hN
    go_enter Tryz.func65, Tryz.ntmps65
    go_wp2
    go_loop [5] (fun i => ∃ k : Nat, k ≤ N ∧ i = .int .i64 k) (fun i => N - (intOf i).toNat)
    case atStart => exact ⟨0, Nat.zero_le _, rfl⟩
    case round =>
      obtain ⟨k, hk, rfl⟩ := hrel
      by_cases hlt : k < N
      · have hks : k < x.s.size := by omega
        obtain ⟨hd1, hd2⟩ := HD.out k hlt
        have hd : isDig ((x.s[k]'hks).toNat : Int) = true := by rw [bt_at]; simp [isDig, hd1, hd2]
        have HDD := Lib.hid hd
        clear hd
        go_wp2_with fail
        refine (scan_digit _ _).mono ?_
        rintro e w' ⟨rfl, rfl⟩
        rw [HDD.out]
        go_wp2
        go_round
        case rel => exact ⟨k + 1, by omega, by go_num⟩
        case measure => simp [intOf]; omega
      · obtain rfl : k = N := by omega
        by_cases hz : x.s.size = 0
        · have hz1 := empty_of_size hz
          have hfin : x.number most = (x.fail 20, 0) := by simp [Sc.number, h, hz]
          have HF := Lib.hid hfin
          clear hfin
          obtain rfl : k = 0 := by omega
          go_wp2_with fail
          refine (scan_Fail x 20 _ g hb).mono ?_
          rintro e w' ⟨rfl, hb', hf⟩
          have c3' := hb'.failed h
          go_wp2
          refine wp_loop_rounds 1 ?_
          rw [rounds_succ]
          go_wp2
          go_ret
          rw [HF.out]
          exact ⟨rfl, hb', hf⟩
        · have hz1 := not_empty_of_size hz
          have hz2 : 0 < x.s.size := by omega
          by_cases hk0 : k = 0
          · have hd : isDig ((x.s[k]'(by omega)).toNat : Int) = false := by rw [bt_at]; exact HS.out (by omega)
            have HDD := Lib.hid hd
            clear hd
            have hfin : x.number most = (x.fail 21, 0) := by simp [Sc.number, h, hz, ← HN.out, hk0]
            have HF := Lib.hid hfin
            clear hfin
            subst hk0
            go_wp2_with fail
            refine (scan_digit _ _).mono ?_
            rintro e w' ⟨rfl, rfl⟩
            rw [HDD.out]
            go_wp2_with fail
            refine (scan_Fail x 21 _ g hb).mono ?_
            rintro e w' ⟨rfl, hb', hf⟩
            have c3' := hb'.failed h
            go_wp2
            refine wp_loop_rounds 1 ?_
            rw [rounds_succ]
            go_wp2
            go_ret
            rw [HF.out]
            exact ⟨rfl, hb', hf⟩
          · have hk1 : 1 ≤ k := by omega
            have hkz : ((k : Int) == 0) = false := by simpa using hk0
            have hd : k < x.s.size → ∀ hh : k < x.s.size, isDig ((x.s[k]'hh).toNat : Int) = false := fun hh _ => by rw [bt_at]; exact HS.out hh
            have HDD := Lib.hid hd
            clear hd
            by_cases hzz : 1 < k ∧ bt x.s 0 = 48
            · obtain ⟨hk2, h48⟩ := hzz
              have hb48 : (((x.s[0]'hz2).toNat : Int) == 48) = true := by rw [bt_at, h48]; rfl
              have hfin : x.number most = (x.fail 21, 0) := by simp only [Sc.number, ← HN.out, h48]; simp [h, hz, hk2]
              have HF := Lib.hid hfin
              clear hfin h48
              by_cases hks : k < x.s.size
              case' pos =>
                go_wp2_with fail
                refine (scan_digit _ _).mono ?_
                rintro e w' ⟨rfl, rfl⟩
                rw [HDD.out hks hks]
              all_goals
                go_wp2_with fail
                refine (scan_Fail x 21 _ g hb).mono ?_
                rintro e w' ⟨rfl, hb', hf⟩
                have c3' := hb'.failed h
                go_wp2
                go_loopw [6, 7] (fun _ i wr => i = .int .i64 0 ∧ wr = w') (fun _ _ _ => 0)
                case atStart => exact ⟨rfl, rfl⟩
                case round =>
                  obtain ⟨rfl, rfl⟩ := hrel
                  go_wp2
                  go_ret
                  rw [HF.out]
                  exact ⟨rfl, hb', hf⟩
            · have h48 : 1 < k → (((x.s[0]'hz2).toNat : Int) == 48) = false := fun hk2 => by
                rw [bt_at]
                have : ¬ bt x.s 0 = 48 := fun e => hzz ⟨hk2, e⟩
                simpa using this
              have H48 := Lib.hid h48
              have hnum : x.number most = x.numEnd k (numLoop x.s most k 0 0) := by
                simp only [Sc.number, ← HN.out]
                rw [if_neg (by simpa using h), if_neg hz, if_neg (by rintro (e | e); exact hk0 e; exact hzz e)]
              have HNU := Lib.hid hnum
              clear hnum h48 hzz
              by_cases hks : k < x.s.size
              case' pos =>
                go_wp2_with fail
                refine (scan_digit _ _).mono ?_
                rintro e w' ⟨rfl, rfl⟩
                rw [HDD.out hks hks]
              all_goals
                by_cases hk2 : 1 < k
                case' pos => have h48 := H48.out hk2
                all_goals
                  go_wp2
                  go_loopw [6, 7] (fun v i wr => ∃ (j : Nat) (a : Int), j ≤ k ∧ i = .int .i64 j ∧ v = .int .u64 a ∧ ((0 ≤ a ∧ a ≤ most ∧ numLoop x.s most (k - j) j a = numLoop x.s most k 0 0 ∧ ScIs wr g x) ∨ (numLoop x.s most k 0 0 = none ∧ ScIs wr g (x.fail 22))) ∧ Fr (· = g) w wr) (fun _ i _ => k - (intOf i).toNat)
                  case atStart => exact ⟨0, 0, by omega, rfl, rfl, .inl ⟨by omega, hm, rfl, hb⟩, Fr.refl _ _⟩
                  case round =>
                    obtain ⟨j, a, hj, rfl, rfl, hor, hfr⟩ := hrel
                    rcases hor with ⟨ha0, ham, hnl, hsc⟩ | ⟨hnone, hsc⟩
                    · have d0 := hsc.c0
                      have d3 := hsc.c3
                      have HNL := Lib.hid hnl
                      clear hnl
                      by_cases hjk : j < k
                      · have hjs : j < x.s.size := by omega
                        obtain ⟨hb1, hb2⟩ := HD.out j hjk
                        have hb1' : 48 ≤ ((x.s[j]'hjs).toNat : Int) := by rw [bt_at]; exact hb1
                        have hb2' : ((x.s[j]'hjs).toNat : Int) ≤ 57 := by rw [bt_at]; exact hb2
                        obtain ⟨f, hf⟩ : ∃ f, k - j = f + 1 := ⟨k - j - 1, by omega⟩
                        have hnl := HNL.out
                        rw [hf] at hnl
                        simp only [numLoop] at hnl
                        by_cases hov : bt x.s j - 48 > most ∨ a > (most - (bt x.s j - 48)) / 10
                        · rw [if_pos hov] at hnl
                          have HNL2 := Lib.hid hnl
                          clear hnl hf
                          by_cases hov1 : bt x.s j - 48 > most
                          case' neg => have hov2 := hov.resolve_left hov1
                          all_goals
                            clear hov
                            rw [← bt_at x.s j hjs] at *
                            go_wp2_with fail
                            refine (scan_Fail x 22 _ g hsc).mono ?_
                            rintro e w1 ⟨rfl, hb', hf'⟩
                            go_wp2
                            go_roundw
                            case rel => exact ⟨j + 1, _, by omega, by go_num, rfl, .inr ⟨HNL2.out.symm, hb'⟩, hfr.trans hf'⟩
                            case measure => simp [intOf]; omega
                        · rw [if_neg hov] at hnl
                          have hov1 : bt x.s j - 48 ≤ most := by omega
                          have hov2 : a ≤ (most - (bt x.s j - 48)) / 10 := by omega
                          have HNL2 := Lib.hid hnl
                          clear hnl hov
                          rw [← bt_at x.s j hjs] at hov1 hov2
                          have q1 : 0 ≤ a * 10 := by omega
                          have q2 : a * 10 ≤ 18446744073709551615 := by omega
                          have q3 : a * 10 + (((x.s[j]'hjs).toNat : Int) - 48) ≤ most := by omega
                          have hf' : k - (j + 1) = f := by omega
                          have HF' := Lib.hid hf'
                          clear hf hf'
                          go_wp2
                          go_roundw
                          case rel => exact ⟨j + 1, _, by omega, by go_num, rfl, .inl ⟨by omega, q3, by rw [HF'.out, bt_at]; exact HNL2.out, hsc⟩, hfr⟩
                          case measure => simp [intOf]; omega
                      · obtain rfl : j = k := by omega
                        go_wp2_with fail
                        refine (scan_skip x j hNle hs _ g hsc).mono ?_
                        rintro e w1 ⟨rfl, hb', hf'⟩
                        go_wp2
                        go_ret
                        have hnl := HNL.out
                        rw [Nat.sub_self] at hnl
                        rw [HNU.out, ← hnl]
                        exact ⟨rfl, hb', hfr.trans hf'⟩
                    · have d0 := hsc.c0
                      have d3 := hsc.failed h
                      have HNO := Lib.hid hnone
                      clear hnone
                      by_cases hjk : j < k
                      all_goals
                        go_wp2
                        go_ret
                        rw [HNU.out, HNO.out]
                        exact ⟨rfl, hsc, hfr⟩
  · have h' : (x.e == 0) = false := by simpa using h
    have hfin : x.number most = (x, 0) := by simp [Sc.number, h]
    have HF := Lib.hid hfin
    clear hfin
    go_enter Tryz.func65, Tryz.ntmps65
    go_wp2
    go_ret
    rw [HF.out]
    exact ⟨rfl, hb, Fr.refl _ _⟩

end Go.Proofs.YteagpbcmfnopfaaGreatDoor
