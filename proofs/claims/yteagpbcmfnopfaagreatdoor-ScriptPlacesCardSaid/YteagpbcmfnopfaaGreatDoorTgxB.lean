/- Opening the file of no events: index, tgx, replay. -/
import Derived.Test.YteagpbcmfnopfaaGreatDoorRows
import Derived.Test.YteagpbcmfnopfaaGreatDoorHead
import Derived.Test.YteagpbcmfnopfaaGreatDoorTgxA
namespace Go.Proofs.YteagpbcmfnopfaaGreatDoor
open Go.RowKit

def fileE : List UInt8 := Hd.bytes ⟨3, 1, 0⟩ ++ sealL xgt1

theorem fileE_length : fileE.length = 32 := by
  unfold fileE
  rw [List.length_append, Hd.bytes_length, sealL_length]
  rfl

theorem fileE_drop : fileE.drop 24 = sealL xgt1 := by
  unfold fileE
  rw [List.drop_left' (Hd.bytes_length _)]

theorem fileE_head : hdRead fileE = (⟨3, 1, 0⟩, 0) := hdRead_bytes _ (by decide) (by decide) _

set_option maxRecDepth 100000 in
theorem index_Right0 (w : World) :
    Calls Tryz.prog 109 #[.slice none 0 0] w fun e w' => e = .returned (.bool true) ∧ w = w' := by
  go_enter Tryz.func109, Tryz.ntmps109
  go_wp2
  refine wp_loop_rounds 1 ?_
  rw [rounds_succ]
  go_wp2
  go_ret
  exact ⟨rfl, rfl⟩

set_option maxHeartbeats 1000000 in
set_option maxRecDepth 100000 in
theorem index_Read0 (A : Option Addr) (cap : Nat) (w : World) (hc : 32 ≤ cap) (hc' : cap ≤ 9223372036854775807) (h : SlAt w A (bC fileE)) :
    Calls Tryz.prog 81 #[.slice A 32 cap, .agg #[.int .u64 3, .int .i64 1, .int .i64 0]] w fun e w' => e = .returned (.tuple #[.slice none 0 0, .int .i64 0]) ∧ Fr (fun _ => False) w w' := by
  obtain ⟨g, off, rfl, hrow, hg⟩ : ∃ b off, A = some ⟨b, off, none⟩ ∧ RowAt w b off (bC fileE) ∧ b < w.heap.size := by
    rcases h with h | h
    · have : fileE = [] := by simpa [bC] using h
      have hl := fileE_length
      rw [this] at hl; cases hl
    · exact h
  have hD := h.drop 24
  rw [← bC_drop, fileE_drop] at hD
  have hb0 : Hd.blocks ⟨3, 1, 0⟩ = 0 := by decide
  have j0 : ¬ cap = 24 := by omega
  have j1 : (24 : Int) ≤ (cap : Int) := by omega
  have e8 : (sealL xgt1).length = 8 := rfl
  obtain ⟨S, hS⟩ : ∃ S, S = sealL xgt1 := ⟨_, rfl⟩
  have ho : openL S = some xgt1 := by rw [hS]; exact openL_seal _
  rw [← hS] at hD e8
  clear hS
  go_enter Tryz.func81, Tryz.ntmps81
  go_wp2_with fail
  refine (head_Blocks _ _ _ _).mono ?_
  rintro e w1 ⟨rfl, hf1⟩
  have F1 : Fr (fun _ => False) w w1 := Fr.trans (by exact (Fr.refl _ _).alloc _) hf1
  clear hf1
  rw [hb0]
  go_wp2_with fail
  have hO := crc_Open S (some ⟨g, off + 24, none⟩) (cap - 24) w1 (by omega) (by omega) (by omega) (hD.frF F1)
  rw [e8, ho] at hO
  refine hO.mono ?_
  rintro e w2 ⟨hf2, v2, rfl, hr2⟩
  have hr3 : w2.ownsRow w1.heap.size 5 1 v2 4 (bC xgt1) := hr2
  clear hr2
  obtain ⟨g2, c2, rfl, hrow2, hg2, _, hc2⟩ := own_some hr3 (bC_ne (by decide))
  have hc3 : ¬ c2 = 0 := by omega
  have hc4 : (4 : Int) ≤ (c2 : Int) := by omega
  have hcv := bytes_text w2 xgt1 ⟨g2, 0, none⟩ c2 (.inr ⟨g2, 0, rfl, hrow2, hg2⟩) (by decide)
  have hcv' : (convert 22 9 (.slice (some ⟨g2, 0, none⟩) 4 c2)).run Tryz.prog w2 = .ok (.string (mkB xgt1)) w2 := hcv
  have hcmp : ((mkB xgt1).toList == ([88, 71, 84, 49] : List UInt8)) = true := by rw [mkB_toList]; rfl
  clear hcv hO
  go_wp2_with fail
  refine wp_loop_rounds 1 ?_
  rw [rounds_succ]
  go_wp2_with fail
  refine (index_Right0 _).mono ?_
  rintro e w3 ⟨rfl, rfl⟩
  go_wp2
  go_ret2
  exact ⟨rfl, F1.trans hf2⟩

set_option maxRecDepth 100000 in
theorem bytes_Clone (l : List UInt8) (A : Option Addr) (cap : Nat) (w : World) (hl : l.length ≤ 140737488355328) (h : SlAt w A (bC l)) :
    Calls Tryz.prog 57 #[.slice A l.length cap] w fun e w' => ∃ v, e = .returned v ∧ w'.ownsRow w.heap.size 5 1 v l.length (bC l) ∧ Fr (fun _ => False) w w' := by
  cases A with
  | none =>
    have : l = [] := by
      rcases h with h | ⟨b, off, e, _⟩
      · simpa [bC] using h
      · cases e
    subst this
    show Calls Tryz.prog 57 #[.slice none 0 cap] w _
    have hnil := Lib.run_eql_slice_nil (P := Tryz.prog) w 22 5 none 0 cap 0 0 Tryz.underlying22
    go_enter Tryz.func57, Tryz.ntmps57
    go_wp2
    go_ret
    exact ⟨_, rfl, own_nil _ _ _ _, Fr.refl _ _⟩
  | some ad =>
    have hnil := Lib.run_eql_slice_nil (P := Tryz.prog) w 22 5 (some ad) l.length cap 0 0 Tryz.underlying22
    have hown : (w.alloc (.cells #[] 5)).ownsRow w.heap.size 5 1 (.slice (some ⟨w.heap.size, 0, none⟩) 0 0) 0 [] := ⟨rfl, .inr ⟨w.heap.size, 0, #[], rfl, Nat.le_refl _, Blk.new w _ _, Nat.le_refl _, by unfold maxLen; omega, rfl, rfl⟩⟩
    go_enter Tryz.func57, Tryz.ntmps57
    go_wp2_with (first
      | (at_builtin; refine wpList_app el_u8 rfl _ _ rfl rfl hown rfl (by rw [bC_length]; omega) (h.alloc _) bC_one (by unfold maxLen; omega) (by omega) (by rw [alloc_size]; omega) ?_))
    intro A2 c2 w2 hr2 hf2 _
    have F2 : Fr (fun _ => False) w w2 := Fr.app (by exact (Fr.refl _ _).alloc _) hown (Nat.le_refl _) hf2
    go_wp2
    go_ret
    exact ⟨_, rfl, by simpa using hr2, F2⟩

set_option maxHeartbeats 1000000 in
set_option maxRecDepth 100000 in
theorem tgx_Open0 (A : Option Addr) (cap : Nat) (w : World) (hc : 32 ≤ cap) (hc' : cap ≤ 9223372036854775807) (h : SlAt w A (bC fileE)) :
    Calls Tryz.prog 56 #[.slice A 32 cap] w fun e w' => e = .returned (.tuple #[.agg #[.int .u64 3, .int .i64 1, .int .i64 0], .slice none 0 0, .int .i64 0]) ∧ Fr (fun _ => False) w w' := by
  have hR := fun (w : World) (hw : SlAt w A (bC fileE)) => head_Read fileE A cap w (by rw [fileE_length]; omega) (by rw [fileE_length]; omega) hc' hw
  rw [fileE_length, fileE_head] at hR
  have HR := Lib.hid hR; clear hR
  have FA : Fr (fun _ => False) w (w.alloc (.cells #[.int .u64 0, .int .i64 0, .int .i64 0] 113)) := (Fr.refl _ _).alloc _
  go_enter Tryz.func56, Tryz.ntmps56
  go_wp2_with fail
  refine (HR.out _ (h.frF FA)).mono ?_
  rintro e w1 ⟨rfl, hf1⟩
  dsimp only
  have B1 : Blk w1 w.heap.size #[.int .u64 0, .int .i64 0, .int .i64 0] 113 := Blk.fr (h := by exact Blk.new w _ _) hf1 (fun x => x)
  have F1 := FA.trans hf1
  have hlt := B1.lt
  have FB : Fr (fun _ => False) w1 (w1.alloc (.cells #[.int .u64 3, .int .i64 1, .int .i64 0] 113)) := (Fr.refl _ _).alloc _
  go_wp2_with fail
  refine (index_Read0 A cap _ hc hc' ((h.frF F1).frF FB)).mono ?_
  rintro e w2 ⟨rfl, hf2⟩
  have B2 := (B1.fr FB (fun x => x)).fr hf2 (fun x => x)
  have D2 : Blk w2 w1.heap.size #[.int .u64 3, .int .i64 1, .int .i64 0] 113 := Blk.fr (h := by exact Blk.new w1 _ _) hf2 (fun x => x)
  have c0 : w2.cell? ⟨w.heap.size, 0, none⟩ = some (.int .u64 0) := B2.cell rfl
  have c1 : w2.cell? ⟨w.heap.size, 1, none⟩ = some (.int .i64 0) := B2.cell rfl
  have c2 : w2.cell? ⟨w.heap.size, 2, none⟩ = some (.int .i64 0) := B2.cell rfl
  have f0 := B2.free 0
  have f1 := B2.free 1
  have f2 := B2.free 2
  have d0 : w2.cell? ⟨w1.heap.size, 0, none⟩ = some (.int .u64 3) := D2.cell rfl
  have d1 : w2.cell? ⟨w1.heap.size, 1, none⟩ = some (.int .i64 1) := D2.cell rfl
  have d2 : w2.cell? ⟨w1.heap.size, 2, none⟩ = some (.int .i64 0) := D2.cell rfl
  go_wp2
  exact bodyPost_ret (v := .tuple #[.agg #[.int .u64 3, .int .i64 1, .int .i64 0], .slice none 0 0, .int .i64 0]) (by simp [results, Tryz.results56, go_sem, c0, c1, c2]) rfl
    ⟨rfl, ((((F1.trans FB).trans hf2).set (.inr (Nat.le_refl _)) _).set (.inr (Nat.le_refl _)) _).set (.inr (Nat.le_refl _)) _⟩

/-- A reader of the file of no events, its graph, what it has done. -/
def RdIs (w : World) (r : Nat) (b now : Value) (s0 s1 s2 s3 : Int) : Prop :=
  Blk w r #[.int .u64 3, .int .i64 1, .int .i64 0, .slice none 0 0, b, .int .u64 1, now, .int .i64 s0, .int .i64 s1, .int .i64 s2, .int .i64 s3] 132

set_option maxHeartbeats 1000000 in
set_option maxRecDepth 100000 in
theorem replay_Open0 (A : Option Addr) (cap : Nat) (w : World) (hc : 32 ≤ cap) (hc' : cap ≤ 9223372036854775807) (h : SlAt w A (bC fileE)) :
    Calls Tryz.prog 20 #[.slice A 32 cap, .int .u64 1] w fun e w' => ∃ r b, e = .returned (.tuple #[.pointer (some ⟨r, 0, none⟩), .int .i64 0]) ∧ w.heap.size ≤ r ∧ RdIs w' r b (.pointer none) 0 0 0 0 ∧ Fr (fun _ => False) w w' := by
  have hC := fun (w : World) (hw : SlAt w A (bC fileE)) => bytes_Clone fileE A cap w (by rw [fileE_length]; omega) hw
  rw [fileE_length] at hC
  have HC := Lib.hid hC; clear hC
  go_enter Tryz.func20, Tryz.ntmps20
  go_wp2_with fail
  refine (tgx_Open0 A cap w hc hc' h).mono ?_
  rintro e w1 ⟨rfl, hf1⟩
  have FB : Fr (fun _ => False) w1 (w1.alloc (.cells #[.int .u64 3, .int .i64 1, .int .i64 0] 113)) := (Fr.refl _ _).alloc _
  have h1 := (h.frF hf1).frF FB
  go_wp2_with fail
  go_region_held3 (fun w' => w'.cell? ⟨w1.heap.size, 0, none⟩ = some (.int .u64 3) ∧ w'.cell? ⟨w1.heap.size, 1, none⟩ = some (.int .i64 1) ∧ w'.cell? ⟨w1.heap.size, 2, none⟩ = some (.int .i64 0))
    (first | go_keep | ((try go_split_ands); refine ⟨?_, ?_, ?_⟩ <;> (refine hf2.cell ?_ (fun x => x); assumption)))
    ((first
    | (go_at_call 57; refine (HC.out _ (by first | exact h1 | exact h1.drew)).mono ?_; rintro e w2 ⟨vb, rfl, hrb, hf2⟩; obtain ⟨Ab, cb, rfl, _⟩ := slice_own hrb)))
  go_wp2
  go_ret2
  exact ⟨w2.heap.size, .slice Ab 32 cb, rfl, by have := hf1.size; have := hf2.size; have := FB.size; have := World.drew_size (w1.alloc (.cells #[.int .u64 3, .int .i64 1, .int .i64 0] 113)); omega, Blk.new _ _ _, (Fr.trans (by exact (hf1.trans FB).drew) hf2).alloc _⟩

end Go.Proofs.YteagpbcmfnopfaaGreatDoor
