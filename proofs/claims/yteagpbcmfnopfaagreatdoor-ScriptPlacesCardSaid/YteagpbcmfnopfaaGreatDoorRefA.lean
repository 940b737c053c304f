/- Package archipelagoref1, layers 4: sums and numbers. -/
import Derived.Test.YteagpbcmfnopfaaGreatDoorRows
import Derived.Test.YteagpbcmfnopfaaGreatDoorCrc
namespace Go.Proofs.YteagpbcmfnopfaaGreatDoor
open Go.RowKit

theorem not_xor (s : Nat) (h : s < 4294967296) : bits .xor .u32 (IntKind.u32.max) (s : Int) = ((4294967295 ^^^ s : Nat) : Int) := u32_xor_nat 4294967295 s (by omega) h

def refNext (s : Nat) (b : UInt8) : Nat := 4294967295 ^^^ crcN 8 ((4294967295 ^^^ s) ^^^ b.toNat)

theorem refNext_eq (s : Nat) (b : UInt8) : refNext s b = 4294967295 ^^^ crcStep (4294967295 ^^^ s) b := rfl

theorem flip_flip (s : Nat) : 4294967295 ^^^ (4294967295 ^^^ s) = s := by
  rw [← Nat.xor_assoc, Nat.xor_self, Nat.zero_xor]

theorem refNext_lt {s : Nat} (h : s < 4294967296) (b : UInt8) : refNext s b < 4294967296 :=
  Nat.xor_lt_two_pow (n := 32) (by omega) (crcStep_lt (Nat.xor_lt_two_pow (n := 32) (by omega) h) b)

/-- The sum of the paper's own code is the sum. -/
theorem refSum_eq (l : List UInt8) : l.foldl refNext 0 = crcSum l := by
  have : ∀ (l : List UInt8) (s : Nat), l.foldl refNext s = 4294967295 ^^^ crcAll (4294967295 ^^^ s) l := by
    intro l
    induction l with
    | nil => intro s; simp only [List.foldl, crcAll, flip_flip]
    | cons b l ih => intro s; simp only [List.foldl, ih, refNext_eq, flip_flip, crcAll]
  rw [this]; rfl

set_option maxRecDepth 100000 in
theorem ref1_Next (s : Nat) (b : UInt8) (hs : s < 4294967296) (w : World) :
    Calls Tryz.prog 78 #[.int .u32 s, .int .u8 b.toNat] w fun e w' => e = .returned (.int .u32 (refNext s b : Nat)) ∧ w = w' := by
  have hb := b.toNat_lt
  have hn := not_xor s hs
  have hsn : 4294967295 ^^^ s < 4294967296 := Nat.xor_lt_two_pow (n := 32) (by omega) hs
  obtain ⟨y, hy⟩ : ∃ y, y = 4294967295 ^^^ s := ⟨_, rfl⟩
  rw [← hy] at hn hsn
  have hx0 := xor_byte y b hsn
  have hlt0 : y ^^^ b.toNat < 4294967296 := Nat.xor_lt_two_pow (n := 32) hsn (by omega)
  obtain ⟨x0, hx0e⟩ : ∃ x, x = y ^^^ b.toNat := ⟨_, rfl⟩
  rw [← hx0e] at hx0 hlt0
  have HY := Lib.hid hy; clear hy
  have HX := Lib.hid hx0e; clear hx0e
  have hsg : ¬ (IntKind.u32.signed = true) := by decide
  go_enter Tryz.func78, Tryz.ntmps78
  go_wp2
  go_loopw [6, 5] (fun i v wr => ∃ k : Nat, k ≤ 8 ∧ i = .int .i64 k ∧ v = .int .u32 (crcN k x0 : Nat) ∧ w = wr) (fun i _ _ => 8 - (intOf i).toNat)
  case atStart => exact ⟨0, by omega, rfl, by simp only [crcN], rfl⟩
  case round =>
    obtain ⟨k, hk, rfl, rfl, rfl⟩ := hrel
    have hlt := crcN_lt hlt0 k
    obtain ⟨x, hx⟩ : ∃ x, x = crcN k x0 := ⟨_, rfl⟩
    rw [← hx] at hlt
    have h1 : crcN (k + 1) x0 = crc1 x := by rw [hx]; rfl
    rw [← hx]
    have H1 := Lib.hid h1; clear h1
    have HXK := Lib.hid hx; clear hx
    by_cases hk8 : k < 8
    · have ha := and_one x hlt
      by_cases hodd : x % 2 = 1
      · have ha' : (bits .and .u32 (x : Int) 1 == 1) = true := by rw [ha]; simpa using hodd
        have hxt := xor_turned (x / 2) (by omega)
        have hxl : (x / 2) ^^^ 3988292384 < 4294967296 := Nat.xor_lt_two_pow (n := 32) (by omega) (by omega)
        go_wp2
        go_roundw
        case rel => exact ⟨k + 1, by omega, by go_num, by rw [H1.out]; simp only [crc1, if_pos hodd]; rw [← hxt]; go_num, trivial⟩
        case measure => simp [intOf]; omega
      · have ha' : (bits .and .u32 (x : Int) 1 == 1) = false := by rw [ha]; simpa using hodd
        go_wp2
        go_roundw
        case rel => exact ⟨k + 1, by omega, by go_num, by rw [H1.out]; simp only [crc1, if_neg hodd]; go_num, trivial⟩
        case measure => simp [intOf]; omega
    · obtain rfl : k = 8 := by omega
      have hn2 := not_all x hlt
      go_wp2
      go_ret
      refine ⟨?_, rfl⟩
      show _ = Ending.returned (Value.int .u32 (4294967295 ^^^ crcN 8 ((4294967295 ^^^ s) ^^^ b.toNat) : Nat))
      rw [← HY.out, ← HX.out, ← HXK.out, ← hn2]
      rfl

theorem refAll_lt : ∀ (l : List UInt8) {s : Nat}, s < 4294967296 → l.foldl refNext s < 4294967296
  | [], _, h => h
  | b :: l, _, h => refAll_lt l (refNext_lt h b)

set_option maxRecDepth 100000 in
theorem ref1_Sum (l : List UInt8) (A : Option Addr) (cap : Nat) (hl : l.length ≤ 140737488355328) (w : World) (pb po : Nat) (hp : w.cell? ⟨pb, po, none⟩ = some (.slice A l.length cap)) (h : SlAt w A (bC l)) :
    Calls Tryz.prog 54 #[.slice (some ⟨pb, po, none⟩) 1 1] w fun e w' => e = .returned (.int .u32 (crcSum l : Nat)) ∧ w = w' := by
  go_enter Tryz.func54, Tryz.ntmps54
  go_wp2
  go_loopw [4, 3] (fun i v wr => ((i = .int .i64 0 ∧ v = .int .u32 0) ∨ (i = .int .i64 1 ∧ v = .int .u32 (l.foldl refNext 0 : Nat))) ∧ w = wr) (fun i _ _ => 1 - (intOf i).toNat)
  case atStart => exact ⟨.inl ⟨rfl, rfl⟩, rfl⟩
  case round =>
    obtain ⟨⟨rfl, rfl⟩ | ⟨rfl, rfl⟩, rfl⟩ := hrel
    · go_wp2
      go_loopw [5, 3] (fun i v wr => ∃ k : Nat, k ≤ l.length ∧ i = .int .i64 k ∧ v = .int .u32 ((l.take k).foldl refNext 0 : Nat) ∧ w = wr) (fun i _ _ => l.length - (intOf i).toNat)
      case atStart => exact ⟨0, by omega, rfl, rfl, rfl⟩
      case round =>
        obtain ⟨k, hk, rfl, rfl, rfl⟩ := hrel
        by_cases hlt : k < l.length
        · obtain ⟨b, hb⟩ : ∃ b, l[k]? = some b := ⟨_, List.getElem?_eq_getElem hlt⟩
          have hs : (l.take k).foldl refNext 0 < 4294967296 := refAll_lt _ (by omega)
          have hn : (l.take (k + 1)).foldl refNext 0 = refNext ((l.take k).foldl refNext 0) b := by
            rw [List.take_add_one, hb, List.foldl_append]; rfl
          have HN := Lib.hid hn; clear hn
          obtain ⟨g, off, rfl, hc⟩ := h.byte hb
          go_wp2_with (go_at_call 78; refine (ref1_Next _ b hs _).mono ?_; rintro e w1 ⟨rfl, rfl⟩)
          go_roundw
          case rel => exact ⟨k + 1, by omega, by go_num, by rw [HN.out], trivial⟩
          case measure => simp [intOf]; omega
        · obtain rfl : k = l.length := by omega
          go_wp2
          go_roundw
          case rel => exact ⟨.inr ⟨rfl, by rw [List.take_length]⟩, trivial⟩
          case measure => simp [intOf]
    · go_wp2
      go_ret
      refine ⟨?_, rfl⟩
      rw [← refSum_eq]
      rfl

set_option maxRecDepth 100000 in
theorem ref1_Fixed (v n : Nat) (hn : n ≤ 8) (_ : v < 18446744073709551616) (w : World) :
    Calls Tryz.prog 72 #[.int .u64 v, .int .i64 n] w fun e w' => ∃ x, e = .returned x ∧ w'.ownsRow w.heap.size 5 1 x n (bC (leN v n)) ∧ Fr (fun _ => False) w w' := by
  obtain ⟨i0, hi, hz0, hz1, hz2⟩ := info_parts info_u8
  go_enter Tryz.func72, Tryz.ntmps72
  go_wp2
  go_loopw [6, 5] (fun i x wr => ∃ k : Nat, k ≤ n ∧ i = .int .i64 k ∧ wr.ownsRow w.heap.size 5 1 x k (bC (leN v k)) ∧ Fr (fun _ => False) w wr) (fun i _ _ => n - (intOf i).toNat)
  case atStart => exact ⟨0, by omega, rfl, ⟨rfl, .inl ⟨rfl, rfl⟩⟩, Fr.refl _ _⟩
  case round =>
    obtain ⟨k, hk, rfl, hr, hf⟩ := hrel
    by_cases hkn : k < n
    · obtain ⟨A2, c2, rfl⟩ := slice_of_row hr
      have A1 : Fr (fun _ => False) wr (wr.alloc (.cells #[.int .u8 ((v : Int) / 2 ^ (8 * k) % 256)] 5)) := (Fr.refl _ _).alloc _
      have hra := row_fr hr A1 (fun _ _ x => x)
      have hsz := hf.size
      have hbc : bC (leN v k) ++ [.int .u8 ((v : Int) / 2 ^ (8 * k) % 256)] = bC (leN v (k + 1)) := by
        have hp : 256 ^ k = 2 ^ (8 * k) := by rw [Nat.pow_mul]
        simp only [leN, bC_append]
        congr 1
        simp only [bC, List.map, hp, UInt8.toNat_ofNat', List.cons.injEq, and_true, Value.int.injEq, true_and]
        push_cast
        rfl
      go_wp2_with (at_builtin; refine wpList_append_own_at _ rfl _ _ 22 rfl w.heap.size 5 i0 _ 1 1 Tryz.underlying22 hi hz0 hz1 hz2 rfl (by decide) _ k _ rfl hra ⟨wr.heap.size, 0, none⟩ 1 1 [.int .u8 ((v : Int) / 2 ^ (8 * k) % 256)] rfl rfl (news_of_blk (Blk.new wr _ _)) (by simp [Value.oneCell']) (by unfold maxLen; omega) (by omega) (by rw [alloc_size]; omega) ?_)
      intro v' w2 hr2 hg _ _
      have hf2 : Fr (fun _ => False) w w2 := ((hf.alloc _).then (Fr.of_grown hg (S := fun k => w.heap.size ≤ k) (fun k hk => .inl (row_lt hra k hk).2)) (fun n hn e => by omega)).mono (fun n hn e => e)
      have hr3 : w2.ownsRow w.heap.size 5 1 v' (k + 1) (bC (leN v (k + 1))) := by first | exact hr2 | (rw [hbc] at hr2; exact hr2)
      go_wp2
      go_roundw
      case rel => exact ⟨k + 1, by omega, by go_num, hr3, hf2⟩
      case measure => simp [intOf]; omega
    · obtain rfl : k = n := by omega
      go_wp2
      go_ret
      exact ⟨_, rfl, hr, hf⟩

set_option maxRecDepth 100000 in
theorem ref1_Seal (l : List UInt8) (hne : l ≠ []) (A : Option Addr) (cap : Nat) (w : World) (hl : l.length ≤ 140737488355000) (h : SlAt w A (bC l)) :
    Calls Tryz.prog 73 #[.slice A l.length cap] w fun e w' => ∃ v, e = .returned v ∧ w'.ownsRow w.heap.size 5 1 v (sealL l).length (bC (sealL l)) ∧ Fr (fun _ => False) w w' := by
  obtain ⟨i0, hi, hz0, hz1, hz2⟩ := info_parts info_u8
  have hsum := crcSum_lt l
  cases A with
  | none =>
    rcases h with h | ⟨b, off, e, _⟩
    · exact absurd (by simpa [bC] using h) hne
    · cases e
  | some ad =>
    have hnews : ∀ j u, (bC l)[j]? = some u → w.cell? (ad.add j) = some u := by
      rcases h with h | ⟨b, off, e, hr, hb⟩
      · rw [h]; intro j u hj; simp at hj
      · cases e
        exact row_at hr
    go_enter Tryz.func73, Tryz.ntmps73
    go_wp2_with (first
      | (at_builtin; refine wpList_append_own_at _ rfl _ _ 22 rfl w.heap.size 5 i0 _ 1 1 Tryz.underlying22 hi hz0 hz1 hz2 rfl (by decide) (.slice none 0 0) 0 [] rfl ⟨rfl, .inl ⟨rfl, rfl⟩⟩ ad l.length cap (bC l) rfl (by rw [bC_length]; omega) hnews (by intro u hu; simp [bC] at hu; obtain ⟨x, _, rfl⟩ := hu; rfl) (by unfold maxLen; omega) (by omega) (Nat.le_refl _) ?_))
    intro v1 w1 hr1 hg1 _ _
    have hf1 : Fr (fun _ => False) w w1 := (Fr.of_grown hg1 (S := fun _ => False) (fun k hk => by simp [Value.ownBlock] at hk))
    have hr1' : w1.ownsRow w.heap.size 5 1 v1 l.length (bC l) := by simpa using hr1
    clear hr1
    go_wp2_with fail
    refine (ref1_Sum l (some ad) cap (by omega) _ w1.heap.size 0 ?_ ((h.frF hf1).frF ((Fr.refl _ _).alloc _))).mono ?_
    · exact Blk.cell (Blk.new _ _ _) rfl
    rintro e w2 ⟨rfl, rfl⟩
    have A1 : Fr (fun _ => False) w1 (w1.alloc (.cells #[.slice (some ad) l.length cap] 22)) := (Fr.refl _ _).alloc _
    have hr2 := row_fr hr1' A1 (fun _ _ x => x)
    have hs1 := hf1.size
    go_wp2_with fail
    refine (ref1_Fixed (crcSum l) 4 (by omega) (by omega) _).mono ?_
    rintro e w3 ⟨v3, rfl, hr3, hf3⟩
    rw [leN_four] at hr3
    have hr2' := row_fr hr2 hf3 (fun _ _ x => x)
    obtain ⟨A3, c3, rfl, hc3, hsl3, hob3⟩ := own_slAt hr3
    have hs3 := hf3.size
    obtain ⟨g3, o3, rfl, hrow3, hg3⟩ : ∃ b off, A3 = some ⟨b, off, none⟩ ∧ RowAt w3 b off (bC (le4 (crcSum l))) ∧ b < w3.heap.size := by
      rcases hsl3 with h | h
      · simp [bC, le4] at h
      · exact h
    have hnews3 := row_at hrow3
    have ho1 := row_lt hr2'
    obtain ⟨A2, c2, rfl⟩ := slice_of_row hr2'
    have hl4 : (bC (le4 (crcSum l))).length = 4 * 1 := by simp [bC, le4]
    have hu4 : ∀ u ∈ bC (le4 (crcSum l)), u.oneCell' = true := by intro u hu; simp [bC] at hu; obtain ⟨x, _, rfl⟩ := hu; rfl
    have hbc : bC l ++ bC (le4 (crcSum l)) = bC (sealL l) := by rw [← bC_append]; rfl
    have hln : (sealL l).length = l.length + 4 := sealL_length l
    obtain ⟨q, hq⟩ : ∃ q, q = bC (le4 (crcSum l)) := ⟨_, rfl⟩
    rw [← hq] at hnews3 hl4 hu4 hbc
    have HB := Lib.hid hbc; clear hbc
    have HLN := Lib.hid hln; clear hln
    go_wp2_with (first
      | (at_builtin; refine wpList_append_own_at _ rfl _ _ 22 rfl w.heap.size 5 i0 _ 1 1 Tryz.underlying22 hi hz0 hz1 hz2 rfl (by decide) _ l.length (bC l) rfl hr2' ⟨g3, o3, none⟩ 4 c3 q rfl hl4 hnews3 hu4 (by unfold maxLen; omega) (by omega) (by rw [alloc_size] at hs3; omega) ?_))
    intro v4 w4 hr4 hg4 _ _
    have hf4 : Fr (fun _ => False) w w4 := ((((hf1.alloc _).trans hf3)).then (Fr.of_grown hg4 (S := fun k => w.heap.size ≤ k) (fun k hk => .inl (ho1 k hk).2)) (fun n hn e => by omega)).mono (fun n hn e => e)
    go_wp2
    go_ret
    refine ⟨_, rfl, ?_, hf4⟩
    rw [HLN.out, ← HB.out]
    rw [← hq] at hr4
    exact hr4

end Go.Proofs.YteagpbcmfnopfaaGreatDoor
