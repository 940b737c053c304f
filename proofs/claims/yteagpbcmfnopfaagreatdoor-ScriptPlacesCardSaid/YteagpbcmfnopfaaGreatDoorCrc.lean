/- Package crc, walked. -/
import Derived.Test.YteagpbcmfnopfaaGreatDoorRows
import Derived.Test.YteagpbcmfnopfaaGreatDoorLeSpec
import Derived.Test.YteagpbcmfnopfaaGreatDoorSl
import Derived.BigQuiet
namespace Go.Proofs.YteagpbcmfnopfaaGreatDoor
open Go.RowKit

theorem xor_byte (s : Nat) (b : UInt8) (h : s < 4294967296) : bits .xor .u32 (s : Int) (b.toNat : Int) = ((s ^^^ b.toNat : Nat) : Int) := u32_xor_nat s b.toNat h (by have := b.toNat_lt; omega)

set_option maxRecDepth 100000 in
theorem crc_step (s : Nat) (b : UInt8) (hs : s < 4294967296) (w : World) :
    Calls Tryz.prog 166 #[.int .u32 s, .int .u8 b.toNat] w fun e w' => e = .returned (.int .u32 (crcStep s b : Nat)) ∧ w = w' := by
  have hb := b.toNat_lt
  have hx0 := xor_byte s b hs
  have hlt0 : s ^^^ b.toNat < 4294967296 := Nat.xor_lt_two_pow (n := 32) hs (by omega)
  obtain ⟨x0, hx0e⟩ : ∃ x, x = s ^^^ b.toNat := ⟨_, rfl⟩
  rw [← hx0e] at hx0 hlt0
  have HX := Lib.hid hx0e; clear hx0e
  go_enter Tryz.func166, Tryz.ntmps166
  go_wp2
  go_loopw [9, 0] (fun i v wr => ∃ k : Nat, k ≤ 8 ∧ i = .int .i64 k ∧ v = .int .u32 (crcN k x0 : Nat) ∧ w = wr) (fun i _ _ => 8 - (intOf i).toNat)
  case atStart => exact ⟨0, by omega, rfl, by simp only [crcN], rfl⟩
  case round =>
    obtain ⟨k, hk, rfl, rfl, rfl⟩ := hrel
    have hlt := crcN_lt hlt0 k
    obtain ⟨x, hx⟩ : ∃ x, x = crcN k x0 := ⟨_, rfl⟩
    rw [← hx] at hlt
    have h1 : crcN (k + 1) x0 = crc1 x := by rw [hx]; rfl
    rw [← hx]
    have H1 := Lib.hid h1; clear h1
    have HXK := Lib.hid hx; clear hx
    by_cases hk8 : k < 8
    · have ha := and_one x hlt
      by_cases hodd : x % 2 = 1
      · have ha' : (bits .and .u32 (x : Int) 1 == 1) = true := by rw [ha]; simpa using hodd
        have hxt := xor_turned (x / 2) (by omega)
        have hxl : (x / 2) ^^^ 3988292384 < 4294967296 := Nat.xor_lt_two_pow (n := 32) (by omega) (by omega)
        go_wp2
        go_roundw
        case rel => exact ⟨k + 1, by omega, by go_num, by rw [H1.out]; simp only [crc1, if_pos hodd]; rw [← hxt]; go_num, trivial⟩
        case measure => simp [intOf]; omega
      · have ha' : (bits .and .u32 (x : Int) 1 == 1) = false := by rw [ha]; simpa using hodd
        go_wp2
        go_roundw
        case rel => exact ⟨k + 1, by omega, by go_num, by rw [H1.out]; simp only [crc1, if_neg hodd]; go_num, trivial⟩
        case measure => simp [intOf]; omega
    · obtain rfl : k = 8 := by omega
      go_wp2
      go_ret
      refine ⟨?_, rfl⟩
      show _ = Ending.returned (Value.int .u32 (crcN 8 (s ^^^ b.toNat) : Nat))
      rw [← HX.out, ← HXK.out]
      rfl

theorem xor_all (s : Nat) (h : s < 4294967296) : (4294967295 : Int) - (s : Int) = ((4294967295 - s : Nat) : Int) := by omega

set_option maxRecDepth 100000 in
theorem crc_Sum (l : List UInt8) (A : Option Addr) (cap : Nat) (hl : l.length ≤ 140737488355328) (w : World) (pb po : Nat) (hp : w.cell? ⟨pb, po, none⟩ = some (.slice A l.length cap)) (h : SlAt w A (bC l)) :
    Calls Tryz.prog 144 #[.slice (some ⟨pb, po, none⟩) 1 1] w fun e w' => e = .returned (.int .u32 (crcSum l : Nat)) ∧ w = w' := by
  go_enter Tryz.func144, Tryz.ntmps144
  go_wp2
  go_loopw [10, 3] (fun i v wr => ((i = .int .i64 0 ∧ v = .int .u32 4294967295) ∨ (i = .int .i64 1 ∧ v = .int .u32 (crcAll 4294967295 l : Nat))) ∧ w = wr) (fun i _ _ => 1 - (intOf i).toNat)
  case atStart => exact ⟨.inl ⟨rfl, rfl⟩, rfl⟩
  case round =>
    obtain ⟨⟨rfl, rfl⟩ | ⟨rfl, rfl⟩, rfl⟩ := hrel
    · go_wp2
      go_loopw [16, 3] (fun i v wr => ∃ k : Nat, k ≤ l.length ∧ i = .int .i64 k ∧ v = .int .u32 (crcAll 4294967295 (l.take k) : Nat) ∧ w = wr) (fun i _ _ => l.length - (intOf i).toNat)
      case atStart => exact ⟨0, by omega, rfl, rfl, rfl⟩
      case round =>
        obtain ⟨k, hk, rfl, rfl, rfl⟩ := hrel
        by_cases hlt : k < l.length
        · obtain ⟨b, hb⟩ : ∃ b, l[k]? = some b := ⟨_, List.getElem?_eq_getElem hlt⟩
          have hs : crcAll 4294967295 (l.take k) < 4294967296 := crcAll_lt _ (by omega)
          have hn : crcAll 4294967295 (l.take (k + 1)) = crcStep (crcAll 4294967295 (l.take k)) b := by
            rw [List.take_add_one, hb]; exact crcAll_snoc _ _ _
          have HN := Lib.hid hn; clear hn
          obtain ⟨g, off, rfl, hc⟩ := h.byte hb
          go_wp2_with (go_at_call 166; refine (crc_step _ b hs _).mono ?_; rintro e w1 ⟨rfl, rfl⟩)
          go_roundw
          case rel => exact ⟨k + 1, by omega, by go_num, by rw [HN.out], trivial⟩
          case measure => simp [intOf]; omega
        · obtain rfl : k = l.length := by omega
          go_wp2
          go_roundw
          case rel => exact ⟨.inr ⟨rfl, by rw [List.take_length]⟩, trivial⟩
          case measure => simp [intOf]
    · have hlt : crcAll 4294967295 l < 4294967296 := crcAll_lt _ (by omega)
      have hn := not_all _ hlt
      have hsg : ¬ (IntKind.u32.signed = true) := by decide
      go_wp2
      go_ret
      refine ⟨?_, rfl⟩
      unfold crcSum
      rw [← hn]
      rfl

set_option maxRecDepth 100000 in
theorem slices_Equal_bytes (l m : List UInt8) (A B : Option Addr) (cA cB : Nat) (hl : l.length ≤ 140737488355328) (hm : m.length ≤ 140737488355328) (w : World) (h : SlAt w A (bC l)) (h' : SlAt w B (bC m)) :
    Calls Tryz.prog 132 #[.slice A l.length cA, .slice B m.length cB] w fun e w' => e = .returned (.bool (decide (l = m))) ∧ Fr (fun _ => False) w w' := by
  by_cases hlen : l.length = m.length
  · go_enter Tryz.func132, Tryz.ntmps132
    go_wp2
    go_loopw [13] (fun i wr => ∃ k : Nat, k ≤ l.length ∧ i = .int .i64 k ∧ l.take k = m.take k ∧ Fr (fun _ => False) w wr) (fun i _ => l.length - (intOf i).toNat)
    case atStart => exact ⟨0, by omega, rfl, rfl, Fr.refl _ _⟩
    case round =>
      obtain ⟨k, hk, rfl, hpre, hfr⟩ := hrel
      by_cases hlt : k < l.length
      · obtain ⟨b, hb⟩ : ∃ b, l[k]? = some b := ⟨_, List.getElem?_eq_getElem hlt⟩
        obtain ⟨c, hc⟩ : ∃ b, m[k]? = some b := ⟨_, List.getElem?_eq_getElem (by omega)⟩
        obtain ⟨g, off, rfl, hcb⟩ := (h.frF hfr).byte hb
        obtain ⟨g', off', rfl, hcc⟩ := (h'.frF hfr).byte hc
        have hb' := b.toNat_lt
        have hc' := c.toNat_lt
        by_cases e : b = c
        · subst e
          go_wp2
          go_region
          go_wp2
          go_roundw
          case rel => exact ⟨k + 1, by omega, by go_num, by rw [List.take_add_one, List.take_add_one, hb, hc, hpre], hfr.drew⟩
          case measure => simp [intOf]; omega
        · have hne : ((b.toNat : Int) == (c.toNat : Int)) = false := by
            have : b.toNat ≠ c.toNat := fun h => e (UInt8.toNat_inj.1 h)
            simp; omega
          go_wp2
          go_region
          go_wp2
          go_ret
          exact ⟨ret_bool (by simp; rintro rfl; exact e (Option.some.inj (hb.symm.trans hc))), hfr.drew⟩
      · obtain rfl : k = l.length := by omega
        go_wp2
        go_ret
        exact ⟨ret_bool (by rw [List.take_length, hlen, List.take_length] at hpre; simpa using hpre), hfr⟩
  · go_enter Tryz.func132, Tryz.ntmps132
    go_wp2
    go_ret
    exact ⟨ret_bool (by simp; rintro rfl; exact hlen rfl), Fr.refl _ _⟩

theorem le4_at (n k : Nat) (h : k < 4) : (le4 n)[k]? = some (UInt8.ofNat (n / 256 ^ k)) := by
  match k, h with
  | 0, _ => simp [le4]
  | 1, _ => simp [le4]
  | 2, _ => simp [le4]
  | 3, _ => simp [le4]

theorem slice_of_row {w : World} {base n e size : Nat} {v : Value} {xs : List Value} (h : w.ownsRow base e size v n xs) : ∃ A cap, v = .slice A n cap := by
  rcases h.2 with ⟨rfl, rfl⟩ | ⟨g, cap, cur, rfl, _⟩
  · exact ⟨_, _, rfl⟩
  · exact ⟨_, _, rfl⟩

set_option maxRecDepth 100000 in
theorem crc_Seal (l : List UInt8) (A : Option Addr) (cap : Nat) (w : World) (hl : l.length ≤ 140737488355000) (h : SlAt w A (bC l)) :
    Calls Tryz.prog 133 #[.slice A l.length cap] w fun e w' => ∃ v, e = .returned v ∧ w'.ownsRow w.heap.size 5 1 v (sealL l).length (bC (sealL l)) ∧ Fr (fun _ => False) w w' := by
  obtain ⟨i0, hi, hz0, hz1, hz2⟩ := info_parts info_u8
  have hsum := crcSum_lt l
  go_enter Tryz.func133, Tryz.ntmps133
  go_wp2_with fail
  refine (slices_Clone_bytes l A cap _ (by omega) h).mono ?_
  rintro e w1 ⟨v1, rfl, hr1, hf1⟩
  have h1 := h.frF hf1
  go_wp2_with fail
  refine (crc_Sum l A cap (by omega) _ w1.heap.size 0 ?_ (h1.frF ((Fr.refl _ _).alloc _))).mono ?_
  · exact Blk.cell (Blk.new _ _ _) rfl
  rintro e w2 ⟨rfl, rfl⟩
  go_wp2
  go_loopw [10, 3, 4] (fun i v s wr => ∃ k : Nat, k ≤ 4 ∧ i = .int .i64 k ∧ s = .int .u32 ((crcSum l / 256 ^ k : Nat) : Int) ∧ wr.ownsRow w.heap.size 5 1 v (l.length + k) (bC (l ++ (le4 (crcSum l)).take k)) ∧ Fr (fun _ => False) w wr) (fun i _ _ _ => 4 - (intOf i).toNat)
  case atStart =>
    refine ⟨0, by omega, rfl, by simp, ?_, hf1.alloc _⟩
    have := row_fr hr1 ((Fr.refl (fun _ => False) w1).alloc (.cells #[.slice A l.length cap] 22)) (fun _ _ x => x)
    simpa using this
  case round =>
    obtain ⟨k, hk, rfl, rfl, hr, hf⟩ := hrel
    have hs0 : crcSum l / 256 ^ k < 4294967296 := Nat.lt_of_le_of_lt (Nat.div_le_self _ _) hsum
    by_cases hk4 : k < 4
    · have hd : crcSum l / 256 ^ (k + 1) = crcSum l / 256 ^ k / 256 := by rw [Nat.pow_succ, Nat.div_div_eq_div_mul]
      have ht : (le4 (crcSum l)).take (k + 1) = (le4 (crcSum l)).take k ++ [UInt8.ofNat (crcSum l / 256 ^ k)] := by rw [List.take_add_one, le4_at _ _ hk4]; rfl
      have HD := Lib.hid hd; clear hd
      have HT := Lib.hid ht; clear ht
      obtain ⟨x, hx⟩ : ∃ x, x = crcSum l / 256 ^ k := ⟨_, rfl⟩
      rw [← hx] at hs0
      rw [← hx]
      have HX := Lib.hid hx; clear hx
      obtain ⟨A2, c2, rfl⟩ := slice_of_row hr
      have hlen : (l ++ (le4 (crcSum l)).take k).length = l.length + k := by simp [le4]; omega
      have A1 : Fr (fun _ => False) wr (wr.alloc (.cells #[.int .u8 ((x : Int) % 256)] 5)) := (Fr.refl _ _).alloc _
      have hra := row_fr hr A1 (fun _ _ x => x)
      have hsz := hf.size
      have hbc : bC (l ++ (le4 (crcSum l)).take k) ++ [.int .u8 ((x : Int) % 256)] = bC (l ++ (le4 (crcSum l)).take (k + 1)) := by
        rw [HT.out, ← List.append_assoc, bC_append (l ++ _), ← HX.out]
        congr 1
      go_wp2_with (at_builtin; refine wpList_append_own_at _ rfl _ _ 22 rfl w.heap.size 5 i0 _ 1 1 Tryz.underlying22 hi hz0 hz1 hz2 rfl (by decide) _ (l.length + k) _ rfl hra ⟨wr.heap.size, 0, none⟩ 1 1 [.int .u8 ((x : Int) % 256)] rfl rfl (news_of_blk (Blk.new wr _ _)) (by simp [Value.oneCell']) (by unfold maxLen; omega) (by omega) (by rw [alloc_size]; omega) ?_)
      intro v' w2 hr2 hg _ _
      have hf2 : Fr (fun _ => False) w w2 := ((hf.alloc _).then (Fr.of_grown hg (S := fun k => w.heap.size ≤ k) (fun k hk => .inl (row_lt hra k hk).2)) (fun n hn e => by omega)).mono (fun n hn e => e)
      go_wp2
      go_roundw
      case rel => exact ⟨k + 1, by omega, by go_num, by rw [HD.out, ← HX.out]; go_num, by exact hr2, hf2⟩
      case measure => simp [intOf]; omega
    · obtain rfl : k = 4 := by omega
      go_wp2
      go_ret
      refine ⟨_, rfl, ?_, hf⟩
      simpa [sealL, le4] using hr

theorem SlAt.take {w : World} {A : Option Addr} {xs : List Value} (h : SlAt w A xs) (n : Nat) : SlAt w A (xs.take n) := by
  rcases h with rfl | ⟨b, off, e, hr, hb⟩
  · exact .inl (by simp)
  · refine .inr ⟨b, off, e, fun j u hj => hr j u ?_, hb⟩
    rw [List.getElem?_take] at hj
    split at hj
    · exact hj
    · cases hj

theorem bC_take (l : List UInt8) (n : Nat) : bC (l.take n) = (bC l).take n := by simp [bC, List.map_take]

/-- What an opening gives: bytes, or none. -/
def OpenPost (base : Nat) (e : Ending) (w' : World) : Option (List UInt8) → Prop
  | none => e = .returned (.tuple #[.slice none 0 0, .bool false])
  | some m => ∃ v, e = .returned (.tuple #[v, .bool true]) ∧ w'.ownsRow base 5 1 v m.length (bC m)

theorem row_down {w : World} {base base' n e size : Nat} {v : Value} {xs : List Value} (h : w.ownsRow base e size v n xs) (hb : base' ≤ base) : w.ownsRow base' e size v n xs := by
  refine ⟨h.1, ?_⟩
  rcases h.2 with h' | ⟨g, cap, cur, rfl, hg, r⟩
  · exact .inl h'
  · exact .inr ⟨g, cap, cur, rfl, Nat.le_trans hb hg, r⟩

set_option maxRecDepth 100000 in
theorem crc_Open (l : List UInt8) (A : Option Addr) (cap : Nat) (w : World) (hl : l.length ≤ 140737488355000) (hc : l.length ≤ cap) (_ : cap ≤ 9223372036854775807) (h : SlAt w A (bC l)) :
    Calls Tryz.prog 104 #[.slice A l.length cap] w fun e w' => Fr (fun _ => False) w w' ∧ OpenPost w.heap.size e w' (openL l) := by
  by_cases h4 : l.length < 4
  · have ho : openL l = none := by unfold openL; rw [if_pos (.inl h4)]
    rw [ho]
    go_enter Tryz.func104, Tryz.ntmps104
    go_wp2
    go_ret2
    exact ⟨Fr.refl _ _, rfl⟩
  · obtain ⟨m, hm⟩ : ∃ m, m = l.take (l.length - 4) := ⟨_, rfl⟩
    have hx : m.length = l.length - 4 := by rw [hm]; simp
    have hT := h.take (l.length - 4)
    rw [← bC_take, ← hm] at hT
    have hopen : openL l = if sealL m = l then some m else none := by
      unfold openL
      rw [← hm]
      by_cases e : sealL m = l <;> simp [e, h4]
    clear hm
    obtain ⟨O, hO⟩ : ∃ O, O = openL l := ⟨_, rfl⟩
    rw [← hO] at hopen ⊢
    clear hO
    obtain ⟨q, hq⟩ : ∃ q, q = sealL m := ⟨_, rfl⟩
    rw [← hq] at hopen
    have HO := Lib.hid hopen; clear hopen
    have HQ := Lib.hid hq; clear hq
    go_enter Tryz.func104, Tryz.ntmps104
    go_wp2_with fail
    have hS := crc_Seal m A cap w (by rw [hx]; omega) hT
    rw [hx] at hS
    refine hS.mono ?_
    rintro e w1 ⟨v, rfl, hr, hf⟩
    have hslen : (sealL m).length ≤ l.length := by rw [sealL_length]; omega
    rw [← HQ.out] at hr hslen
    clear hS
    obtain ⟨A1, c1, rfl, hc1, hsl, _⟩ := own_slAt hr
    have hs1 := hf.size
    go_wp2_with fail
    refine (slices_Equal_bytes q l A1 A c1 cap (by omega) (by omega) w1 hsl (h.frF hf)).mono ?_
    rintro e w2 ⟨rfl, hf2⟩
    have hs2 := hf2.size
    by_cases he : q = l
    · have hd : decide (q = l) = true := by simpa using he
      rw [hd]
      go_wp2_with fail
      have hC := slices_Clone_bytes m A cap w2 (by omega) ((hT.frF hf).frF hf2)
      rw [hx] at hC
      refine hC.mono ?_
      rintro e w3 ⟨v3, rfl, hr3, hf3⟩
      go_wp2
      go_ret2
      refine ⟨(hf.trans hf2).trans hf3, ?_⟩
      rw [HO.out, if_pos he]
      refine ⟨_, rfl, ?_⟩
      rw [hx]
      exact row_down hr3 (by omega)
    · have hd : decide (q = l) = false := by simpa using he
      rw [hd]
      go_wp2
      go_ret2
      refine ⟨hf.trans hf2, ?_⟩
      rw [HO.out, if_neg he]
      rfl

end Go.Proofs.YteagpbcmfnopfaaGreatDoor
