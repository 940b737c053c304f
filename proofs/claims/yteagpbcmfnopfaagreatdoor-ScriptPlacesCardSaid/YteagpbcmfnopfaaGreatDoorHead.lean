/- Package head, walked: take, Right, Blocks, Read. -/
import Derived.Test.YteagpbcmfnopfaaGreatDoorRows
import Derived.Test.YteagpbcmfnopfaaGreatDoorCrc
import Derived.Test.YteagpbcmfnopfaaGreatDoorHdSpec
import Derived.Test.YteagpbcmfnopfaaGreatDoorApp
import Derived.Deep.RegionHeld3
import Derived.Deep.RegionWith
import Derived.Deep.QuietTactic
import Derived.BigQuiet
import Derived.Deep.DeepCutAuto
import Derived.IntWalk
namespace Go.Proofs.YteagpbcmfnopfaaGreatDoor
open Go.RowKit

def mkB (l : List UInt8) : ByteArray := ⟨l.toArray⟩

theorem mkB_list (l : List UInt8) : (mkB l).data.toList = l := rfl
theorem mkB_size (l : List UInt8) : (mkB l).size = l.length := by rw [size_eq_len]; rfl
theorem mkB_inj {l m : List UInt8} (h : mkB l = mkB m) : l = m := by
  have := congrArg (fun b : ByteArray => b.data.toList) h
  exact this
theorem mkB_of (s : ByteArray) : mkB s.data.toList = s := bytes_ext rfl

theorem mkB_beq (l m : List UInt8) : ((mkB l).toList == (mkB m).toList) = decide (l = m) := by
  rw [ByteArray.toList_eq, ByteArray.toList_eq]
  show (l == m) = _
  by_cases h : l = m
  · subst h; simp
  · rw [decide_eq_false h]; exact beq_eq_false_iff_ne.2 h

theorem mkB_toList (l : List UInt8) : (mkB l).toList = l := by rw [ByteArray.toList_eq]; rfl

theorem strOfNums_bytes (l : List UInt8) : strOfNums (l.map fun b => (b.toNat : Int)) = mkB l := by
  apply bytes_ext
  simp [strOfNums, mkB, List.map_map, Function.comp_def]

/-- Bytes that are read, as a text. -/
theorem bytes_text (W : World) (l : List UInt8) (A : Addr) (c : Nat) (h : SlAt W (some A) (bC l)) (hne : l ≠ []) : (convert 22 9 (.slice (some A) l.length c)).run Tryz.prog W = .ok (.string (mkB l)) W := by
  rcases h with h | ⟨g, off, e, hr, _⟩
  · exact absurd (by simpa [bC] using h) hne
  · cases e
    have h := run_convert_bytes_arg (P := Tryz.prog) W 22 5 Tryz.underlying22 Tryz.underlying5 g off l.length c (l.map fun b => (b.toNat : Int)) (by simp) (fun i hi => by
      have hi' : i < l.length := by simpa using hi
      have := hr i (.int .u8 (l[i]'hi').toNat) (by simp [bC, hi'])
      simpa [hi'] using this) 9 Tryz.underlying9
    rw [h, strOfNums_bytes]

set_option maxRecDepth 100000 in
theorem head_take (l : List UInt8) (A : Option Addr) (cap : Nat) (hl : l.length ≤ 8) (w : World) (h : SlAt w A (bC l)) :
    Calls Tryz.prog 105 #[.slice A l.length cap] w fun e w' => e = .returned (.int .u64 (numL l : Nat)) ∧ w = w' := by
  go_enter Tryz.func105, Tryz.ntmps105
  go_wp2
  go_loopw [8, 3] (fun i v wr => ∃ k : Nat, k ≤ l.length ∧ i = .int .i64 k ∧ v = .int .u64 (numL (l.take k) : Nat) ∧ w = wr) (fun i _ _ => l.length - (intOf i).toNat)
  case atStart => exact ⟨0, by omega, rfl, rfl, rfl⟩
  case round =>
    obtain ⟨k, hk, rfl, rfl, rfl⟩ := hrel
    by_cases hlt : k < l.length
    · obtain ⟨b, hb⟩ : ∃ b, l[k]? = some b := ⟨_, List.getElem?_eq_getElem hlt⟩
      obtain ⟨g, off, rfl, hc⟩ := h.byte hb
      have hlen : (l.take k).length = k := by rw [List.length_take]; omega
      have hv := numL_lt (l.take k)
      rw [hlen] at hv
      have hn : numL (l.take (k + 1)) = numL (l.take k) + b.toNat * 256 ^ k := by
        rw [List.take_add_one, hb, show (some b).toList = [b] from rfl, numL_snoc, hlen]
      have HN := Lib.hid hn; clear hn
      have ho := or_byte (numL (l.take k)) k b (by omega) hv
      rw [← HN.out] at ho
      have HO := Lib.hid ho; clear ho
      go_wp2
      go_roundw
      case rel => exact ⟨k + 1, by omega, by go_num, by rw [HO.out], trivial⟩
      case measure => simp [intOf]; omega
    · obtain rfl : k = l.length := by omega
      go_wp2
      go_ret
      refine ⟨?_, rfl⟩
      rw [List.take_length]
      rfl

set_option maxRecDepth 100000 in
theorem head_Right (n k c : Int) (w : World) :
    Calls Tryz.prog 106 #[.agg #[.int .u64 n, .int .i64 k, .int .i64 c]] w fun e w' => e = .returned (.bool (Hd.right ⟨n, k, c⟩)) ∧ Fr (fun _ => False) w w' := by
  have hfr : Fr (fun _ => False) w (w.alloc (.cells #[.int .u64 n, .int .i64 k, .int .i64 c] 113)) := (Fr.refl _ _).alloc _
  cases h1 : decide (n ≤ 4294967296)
  all_goals
    go_enter Tryz.func106, Tryz.ntmps106
    go_wp2
    all_goals
      go_ret
      exact ⟨ret_bool (by simp only [Hd.right, h1]; first | (simp [*]; done) | (simp [*]; omega)), hfr⟩

/-- How many blocks. -/
def Hd.blocks (h : Hd) : Int := if h.right then (h.c + h.k - 1) / h.k else 0

set_option maxRecDepth 100000 in
theorem head_Blocks (n k c : Int) (w : World) :
    Calls Tryz.prog 107 #[.agg #[.int .u64 n, .int .i64 k, .int .i64 c]] w fun e w' => e = .returned (.int .i64 (Hd.blocks ⟨n, k, c⟩)) ∧ Fr (fun _ => False) w w' := by
  cases hr : Hd.right ⟨n, k, c⟩
  · have hb : Hd.blocks ⟨n, k, c⟩ = 0 := by simp [Hd.blocks, hr]
    have HB := Lib.hid hb; clear hb
    have HR := Lib.hid hr; clear hr
    go_enter Tryz.func107, Tryz.ntmps107
    go_wp2_with fail
    refine (head_Right _ _ _ _).mono ?_
    rintro e w1 ⟨rfl, hf1⟩
    rw [HR.out]
    go_wp2
    go_ret
    exact ⟨ret_int HB.out.symm, Fr.trans (by exact (Fr.refl _ _).alloc _) hf1⟩
  · have hb : Hd.blocks ⟨n, k, c⟩ = (c + k - 1) / k := by simp [Hd.blocks, hr]
    have hr' := hr
    simp only [Hd.right, Bool.and_eq_true, decide_eq_true_eq] at hr'
    obtain ⟨⟨⟨⟨h1, h2⟩, h3⟩, h4⟩, h5⟩ := hr'
    clear h1
    have HB := Lib.hid hb; clear hb
    have HR := Lib.hid hr; clear hr
    have hq : 0 ≤ c + k - 1 := by omega
    go_enter Tryz.func107, Tryz.ntmps107
    go_wp2_with fail
    refine (head_Right _ _ _ _).mono ?_
    rintro e w1 ⟨rfl, hf1⟩
    rw [HR.out]
    have B0 : Blk w1 w.heap.size #[.int .u64 n, .int .i64 k, .int .i64 c] 113 := Blk.fr (h := by exact Blk.new w _ _) hf1 (fun x => x)
    have c1 : w1.cell? ⟨w.heap.size, 1, none⟩ = some (.int .i64 k) := B0.cell rfl
    have c2 : w1.cell? ⟨w.heap.size, 2, none⟩ = some (.int .i64 c) := B0.cell rfl
    go_wp2
    go_ret
    exact ⟨ret_int HB.out.symm, Fr.trans (by exact (Fr.refl _ _).alloc _) hf1⟩

theorem SlAt.drop {w : World} {b off : Nat} {xs : List Value} (h : SlAt w (some ⟨b, off, none⟩) xs) (n : Nat) : SlAt w (some ⟨b, off + n, none⟩) (xs.drop n) := by
  rcases h with rfl | ⟨b', off', e, hr, hb⟩
  · exact .inl (by simp)
  · cases e
    refine .inr ⟨_, _, rfl, fun j u hj => ?_, hb⟩
    rw [List.getElem?_drop] at hj
    have := hr (n + j) u hj
    rwa [← Nat.add_assoc] at this

theorem bC_drop (l : List UInt8) (n : Nat) : bC (l.drop n) = (bC l).drop n := by simp [bC, List.map_drop]

/-- A piece of bytes that are read. -/
theorem SlAt.cut {w : World} {b off : Nat} {l : List UInt8} (h : SlAt w (some ⟨b, off, none⟩) (bC l)) (i n : Nat) : SlAt w (some ⟨b, off + i, none⟩) (bC ((l.drop i).take n)) := by
  rw [bC_take, bC_drop]
  exact (h.drop i).take n

def HdPost (r : Hd × Int) (e : Ending) : Prop := e = .returned (.tuple #[.agg #[.int .u64 r.1.n, .int .i64 r.1.k, .int .i64 r.1.c], .int .i64 r.2])

set_option maxHeartbeats 1000000 in
set_option maxRecDepth 100000 in
theorem head_Read (l : List UInt8) (A : Option Addr) (cap : Nat) (w : World) (hl : l.length ≤ 1000000000) (hc : l.length ≤ cap) (hc' : cap ≤ 9223372036854775807) (h : SlAt w A (bC l)) :
    Calls Tryz.prog 80 #[.slice A l.length cap] w fun e w' => HdPost (hdRead l) e ∧ Fr (fun _ => False) w w' := by
  by_cases h24 : l.length < 24
  · have hfin : hdRead l = (⟨0, 0, 0⟩, 20) := by unfold hdRead; rw [if_pos h24]
    have HF := Lib.hid hfin; clear hfin
    have hd : decide ((l.length : Int) < 24) = true := by simp; omega
    go_enter Tryz.func80, Tryz.ntmps80
    go_wp2
    exact bodyPost_ret (v := .tuple #[.agg #[.int .u64 0, .int .i64 0, .int .i64 0], .int .i64 20]) (by simp [results, Tryz.results80, go_sem]) rfl ⟨by rw [HF.out]; rfl, ((Fr.refl _ _).alloc _)⟩
  · obtain ⟨g, off, rfl, hrow, hg⟩ : ∃ b off, A = some ⟨b, off, none⟩ ∧ RowAt w b off (bC l) ∧ b < w.heap.size := by
      rcases h with h | h
      · have : l = [] := by simpa [bC] using h
        subst this; simp at h24
      · exact h
    have FA : Fr (fun _ => False) w (w.alloc (.cells #[.int .u64 0, .int .i64 0, .int .i64 0] 113)) := (Fr.refl _ _).alloc _
    have hd : decide ((l.length : Int) < 24) = false := by simp; omega
    obtain ⟨m4, hm4⟩ : ∃ m, m = l.take 4 := ⟨_, rfl⟩
    have e4 : m4.length = 4 := by rw [hm4, List.length_take]; omega
    have hcv := bytes_text (w.alloc (.cells #[.int .u64 0, .int .i64 0, .int .i64 0] 113)) m4 ⟨g, off, none⟩ cap (by have := (h.frF FA).take 4; rw [← bC_take] at this; rw [hm4]; exact this) (by intro e; rw [e] at e4; cases e4)
    rw [e4] at hcv
    have hcmp : ((mkB m4).toList == ([84, 71, 88, 49] : List UInt8)) = decide (m4 = tgx1) := by rw [← mkB_beq, mkB_toList, mkB_toList]; rfl
    by_cases hm : m4 = tgx1
    · rw [decide_eq_true hm] at hcmp
      rw [hm4] at hm
      obtain ⟨m, hm24⟩ : ∃ m, m = l.take 24 := ⟨_, rfl⟩
      have e24 : m.length = 24 := by rw [hm24, List.length_take]; omega
      have hM : SlAt w (some ⟨g, off, none⟩) (bC m) := by have := h.take 24; rw [← bC_take] at this; rw [hm24]; exact this
      have HM := Lib.hid hm; clear hm
      have HM4 := Lib.hid hm4; clear hm4
      have HM24 := Lib.hid hm24; clear hm24
      cases ho : openL m with
      | none =>
        have hfin : hdRead l = (⟨0, 0, 0⟩, 28) := by unfold hdRead; rw [if_neg h24, if_neg (by rw [HM.out]; simp), ← HM24.out, ho, if_pos rfl]
        have HF := Lib.hid hfin; clear hfin
        go_enter Tryz.func80, Tryz.ntmps80
        go_wp2_with fail
        have hO := crc_Open m (some ⟨g, off, none⟩) cap _ (by omega) (by omega) hc' (hM.frF FA)
        rw [e24, ho] at hO
        refine hO.mono ?_
        rintro e w1 ⟨hf1, rfl⟩
        have B1 : Blk w1 w.heap.size #[.int .u64 0, .int .i64 0, .int .i64 0] 113 := Blk.fr (h := by exact Blk.new w _ _) hf1 (fun x => x)
        have c0 : w1.cell? ⟨w.heap.size, 0, none⟩ = some (.int .u64 0) := B1.cell rfl
        have c1 : w1.cell? ⟨w.heap.size, 1, none⟩ = some (.int .i64 0) := B1.cell rfl
        have c2 : w1.cell? ⟨w.heap.size, 2, none⟩ = some (.int .i64 0) := B1.cell rfl
        have f0 := B1.free 0
        have f1 := B1.free 1
        have f2 := B1.free 2
        go_wp2
        exact bodyPost_ret (v := .tuple #[.agg #[.int .u64 0, .int .i64 0, .int .i64 0], .int .i64 28]) (by simp [results, Tryz.results80, go_sem, c0, c1, c2]) rfl
          ⟨by rw [HF.out]; rfl, (((FA.trans hf1).set (.inr (Nat.le_refl _)) _).set (.inr (Nat.le_refl _)) _).set (.inr (Nat.le_refl _)) _⟩
      | some q =>
        obtain ⟨n1, hn1⟩ : ∃ n, n = numL ((l.drop 4).take 8) := ⟨_, rfl⟩
        obtain ⟨n2, hn2⟩ : ∃ n, n = numL ((l.drop 12).take 4) := ⟨_, rfl⟩
        obtain ⟨n3, hn3⟩ : ∃ n, n = numL ((l.drop 16).take 4) := ⟨_, rfl⟩
        have hfin : hdRead l = if Hd.right ⟨n1, n2, n3⟩ then (⟨n1, n2, n3⟩, 0) else (⟨0, 0, 0⟩, 26) := by
          unfold hdRead; rw [if_neg h24, if_neg (by rw [HM.out]; simp), ← HM24.out, ho, if_neg (by simp), ← hn1, ← hn2, ← hn3]
        have HF := Lib.hid hfin; clear hfin
        have b2 : n2 < 4294967296 := by have := numL_lt ((l.drop 12).take 4); rw [hn2]; have e : ((l.drop 12).take 4).length = 4 := by rw [List.length_take, List.length_drop]; omega
                                        rw [e] at this; exact this
        have b3 : n3 < 4294967296 := by have := numL_lt ((l.drop 16).take 4); rw [hn3]; have e : ((l.drop 16).take 4).length = 4 := by rw [List.length_take, List.length_drop]; omega
                                        rw [e] at this; exact this
        have t1 : ∀ (c : Nat) (w : World), SlAt w (some ⟨g, off, none⟩) (bC l) → Calls Tryz.prog 105 #[.slice (some ⟨g, off + 4, none⟩) 8 c] w fun e w' => e = .returned (.int .u64 (n1 : Nat)) ∧ w = w' := by
          intro c w hx
          have e : ((l.drop 4).take 8).length = 8 := by rw [List.length_take, List.length_drop]; omega
          have := head_take ((l.drop 4).take 8) _ c (by omega) w (hx.cut 4 8)
          rw [e, ← hn1] at this; exact this
        have t2 : ∀ (c : Nat) (w : World), SlAt w (some ⟨g, off, none⟩) (bC l) → Calls Tryz.prog 105 #[.slice (some ⟨g, off + 12, none⟩) 4 c] w fun e w' => e = .returned (.int .u64 (n2 : Nat)) ∧ w = w' := by
          intro c w hx
          have e : ((l.drop 12).take 4).length = 4 := by rw [List.length_take, List.length_drop]; omega
          have := head_take ((l.drop 12).take 4) _ c (by omega) w (hx.cut 12 4)
          rw [e, ← hn2] at this; exact this
        have t3 : ∀ (c : Nat) (w : World), SlAt w (some ⟨g, off, none⟩) (bC l) → Calls Tryz.prog 105 #[.slice (some ⟨g, off + 16, none⟩) 4 c] w fun e w' => e = .returned (.int .u64 (n3 : Nat)) ∧ w = w' := by
          intro c w hx
          have e : ((l.drop 16).take 4).length = 4 := by rw [List.length_take, List.length_drop]; omega
          have := head_take ((l.drop 16).take 4) _ c (by omega) w (hx.cut 16 4)
          rw [e, ← hn3] at this; exact this
        clear hn1 hn2 hn3
        have T1 := Lib.hid t1; clear t1
        have T2 := Lib.hid t2; clear t2
        have T3 := Lib.hid t3; clear t3
        have i1 : (12 : Int) ≤ (cap : Int) := by omega
        have i2 : (16 : Int) ≤ (cap : Int) := by omega
        have i3 : (20 : Int) ≤ (cap : Int) := by omega
        have j1 : ¬ cap = 4 := by omega
        have w2 : IntKind.i64.wrap (n2 : Int) = (n2 : Int) := IntWalk.i64_in _ (by omega)
        have w3 : IntKind.i64.wrap (n3 : Int) = (n3 : Int) := IntWalk.i64_in _ (by omega)
        have j2 : ¬ cap = 12 := by omega
        have j3 : ¬ cap = 16 := by omega
        go_enter Tryz.func80, Tryz.ntmps80
        go_wp2_with fail
        have hO := crc_Open m (some ⟨g, off, none⟩) cap _ (by omega) (by omega) hc' (hM.frF FA)
        rw [e24, ho] at hO
        refine hO.mono ?_
        rintro e w1 ⟨hf1, vq, rfl, hrq⟩
        have B1 : Blk w1 w.heap.size #[.int .u64 0, .int .i64 0, .int .i64 0] 113 := Blk.fr (h := by exact Blk.new w _ _) hf1 (fun x => x)
        have F1 := FA.trans hf1
        have hL1 := h.frF F1
        have hHG : w.heap.size < w1.heap.size := B1.lt
        go_upto_region 8 with fail
        go_cut [6] (fun p wx => ∃ b, p = .pointer (some ⟨b, 0, none⟩) ∧ w.heap.size < b ∧ Blk wx b #[.int .u64 n1, .int .i64 n2, .int .i64 n3] 113 ∧ Fr (fun _ => False) w1 wx)
        case first =>
          go_region_with (first
            | (go_at_call 105; (with_reducible refine (T1.out _ _ (by first | exact hL1.drew | exact (hL1.alloc _).drew)).mono ?_); rintro e w2 ⟨rfl, rfl⟩)
            | (go_at_call 105; (with_reducible refine (T2.out _ _ (by first | exact hL1.drew | exact (hL1.alloc _).drew)).mono ?_); rintro e w2 ⟨rfl, rfl⟩)
            | (go_at_call 105; (with_reducible refine (T3.out _ _ (by first | exact hL1.drew | exact (hL1.alloc _).drew)).mono ?_); rintro e w2 ⟨rfl, rfl⟩))
          all_goals (go_wp2_with fail; go_meet; exact ⟨w1.heap.size, rfl, hHG, (Blk.new w1 _ _).drew, (((Fr.refl _ _).alloc _).drew)⟩)
        case rest =>
          obtain ⟨b, rfl, hb, hB, hfx⟩ := hcut
          have a0 : wc.cell? ⟨b, 0, none⟩ = some (.int .u64 n1) := hB.cell rfl
          have a1 : wc.cell? ⟨b, 1, none⟩ = some (.int .i64 n2) := hB.cell rfl
          have a2 : wc.cell? ⟨b, 2, none⟩ = some (.int .i64 n3) := hB.cell rfl
          have FC := F1.trans hfx
          have B2 := B1.fr hfx (fun x => x)
          have hbne : b ≠ w.heap.size := by omega
          cases hrt : Hd.right ⟨n1, n2, n3⟩ with
          | false =>
            have hf2 := HF.out
            rw [hrt] at hf2
            have HF2 := Lib.hid hf2; clear hf2
            have HRT := Lib.hid hrt; clear hrt
            go_wp2_with fail
            refine (head_Right _ _ _ _).mono ?_
            rintro e wd ⟨rfl, hfd⟩
            rw [HRT.out]
            have B3 := B2.fr hfd (fun x => x)
            have F3 := FC.trans hfd
            have c0 : wd.cell? ⟨w.heap.size, 0, none⟩ = some (.int .u64 0) := B3.cell rfl
            have c1 : wd.cell? ⟨w.heap.size, 1, none⟩ = some (.int .i64 0) := B3.cell rfl
            have c2 : wd.cell? ⟨w.heap.size, 2, none⟩ = some (.int .i64 0) := B3.cell rfl
            have f0 := B3.free 0
            have f1 := B3.free 1
            have f2 := B3.free 2
            go_wp2
            exact bodyPost_ret (v := .tuple #[.agg #[.int .u64 0, .int .i64 0, .int .i64 0], .int .i64 26]) (by simp [results, Tryz.results80, go_sem, c0, c1, c2]) rfl
              ⟨by rw [HF2.out]; rfl, ((F3.set (.inr (Nat.le_refl _)) _).set (.inr (Nat.le_refl _)) _).set (.inr (Nat.le_refl _)) _⟩
          | true =>
            have hf2 := HF.out
            rw [hrt] at hf2
            have HF2 := Lib.hid hf2; clear hf2
            have HRT := Lib.hid hrt; clear hrt
            go_wp2_with fail
            refine (head_Right _ _ _ _).mono ?_
            rintro e wd ⟨rfl, hfd⟩
            rw [HRT.out]
            have B3 := B2.fr hfd (fun x => x)
            have F3 := FC.trans hfd
            have c0 : wd.cell? ⟨w.heap.size, 0, none⟩ = some (.int .u64 0) := B3.cell rfl
            have c1 : wd.cell? ⟨w.heap.size, 1, none⟩ = some (.int .i64 0) := B3.cell rfl
            have c2 : wd.cell? ⟨w.heap.size, 2, none⟩ = some (.int .i64 0) := B3.cell rfl
            have f0 := B3.free 0
            have f1 := B3.free 1
            have f2 := B3.free 2
            have D0 : wd.cell? ⟨b, 0, none⟩ = some (.int .u64 n1) := (hB.fr hfd (fun x => x)).cell rfl
            have D1 : wd.cell? ⟨b, 1, none⟩ = some (.int .i64 n2) := (hB.fr hfd (fun x => x)).cell rfl
            have D2 : wd.cell? ⟨b, 2, none⟩ = some (.int .i64 n3) := (hB.fr hfd (fun x => x)).cell rfl
            clear a0 a1 a2
            go_wp2
            exact bodyPost_ret (v := .tuple #[.agg #[.int .u64 n1, .int .i64 n2, .int .i64 n3], .int .i64 0]) (by simp [results, Tryz.results80, go_sem, c0, c1, c2]) rfl
              ⟨by rw [HF2.out]; rfl, ((F3.set (.inr (Nat.le_refl _)) _).set (.inr (Nat.le_refl _)) _).set (.inr (Nat.le_refl _)) _⟩
    · rw [decide_eq_false hm] at hcmp
      have hfin : hdRead l = (⟨0, 0, 0⟩, 27) := by unfold hdRead; rw [if_neg h24, if_pos (by rw [← hm4]; exact hm)]
      have HF := Lib.hid hfin; clear hfin
      clear hm4 hm
      go_enter Tryz.func80, Tryz.ntmps80
      go_wp2
      exact bodyPost_ret (v := .tuple #[.agg #[.int .u64 0, .int .i64 0, .int .i64 0], .int .i64 27]) (by simp [results, Tryz.results80, go_sem]) rfl ⟨by rw [HF.out]; rfl, ((Fr.refl _ _).alloc _)⟩

end Go.Proofs.YteagpbcmfnopfaaGreatDoor
