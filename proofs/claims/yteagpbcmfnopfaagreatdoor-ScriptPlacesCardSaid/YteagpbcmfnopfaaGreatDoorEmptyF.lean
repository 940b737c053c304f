/- Commands at the file of no events. -/
import Derived.Test.YteagpbcmfnopfaaGreatDoorEmptyE
import Derived.Test.YteagpbcmfnopfaaGreatDoorScriptC
namespace Go.Proofs.YteagpbcmfnopfaaGreatDoor
open Go.RowKit

/-- The graph of nothing stays when a row of answers is appended to. -/
theorem gn_row {w w' : World} {p base n size : Nat} {v : Value} {a0 : Int} {xs : List Value} (h : Gn0 w p) (hr : w.ownsRow base 61 size v n (.int .i64 a0 :: xs)) (k : Fr (fun k => v.ownBlock = some k) w w') : Gn0 w' p := by
  obtain ⟨n, m, g, a, b', hp, hn, m', d', L, c, u, x, y, f, hb, hL, hv, hF⟩ := h
  have ne : ∀ {g : Nat} {cs : Array Value} {t : TypeId}, Blk w g cs t → t ≠ 61 → ¬ (v.ownBlock = some g) := fun hg ht e => row_type' hr hg ht e
  have hLn : ¬ (v.ownBlock = some L) := by
    intro e
    obtain ⟨G, cap, rfl, hrow, _⟩ := own_some hr (by simp)
    have : G = L := by simpa [Value.ownBlock] using e
    subst this
    have h0 := hrow 0 _ rfl
    rw [Nat.zero_add] at h0
    rw [h0] at hL
    cases hL
  have hFm : ∀ b, v.ownBlock = some b → ∃ cs t, Blk w b cs t ∧ t ≠ 290 := by
    intro b e
    rcases hr.2 with ⟨rfl, _⟩ | ⟨G, cap, cur, rfl, _, hG, _⟩
    · simp [Value.ownBlock] at e
    · have : G = b := by simpa [Value.ownBlock] using e
      subst this
      exact ⟨cur, _, hG, by decide⟩
  exact ⟨n, m, g, a, b', hp.fr k (ne hp (by decide)), hn.fr k (ne hn (by decide)), m', d', L, c, u, x, y, f, hb.fr k (ne hb (by decide)), k.cell hL hLn, hv.fr k (ne hv (by decide)), hF.fr k hFm⟩

set_option maxHeartbeats 400000 in
set_option maxRecDepth 100000 in
theorem one_wrong (w : World) (r : Nat) (c : Cmd) (hc : c.right = false) :
    Calls Tryz.prog 58 #[.pointer (some ⟨r, 0, none⟩), cmdV c] w fun e w' => e = .returned (.tuple #[.int .i64 0, .int .i64 30]) ∧ Fr (fun _ => False) w w' := by
  have HC := Lib.hid hc; clear hc
  obtain ⟨k, t, u, v⟩ := c
  unfold cmdV
  dsimp only
  go_enter Tryz.func58, Tryz.ntmps58
  go_wp2_with fail
  refine (script_Right ⟨k, t, u, v⟩ _).mono ?_
  rintro e w1 ⟨rfl, hf⟩
  rw [HC.out]
  go_wp2
  go_ret2
  exact ⟨rfl, Fr.trans (by exact (Fr.refl _ _).alloc _) hf⟩

set_option maxHeartbeats 400000 in
set_option maxRecDepth 100000 in
theorem one_seek (w : World) (r : Nat) (t : Int) (ht : 0 ≤ t) (b now : Value) (s0 : Int) (h0 : 0 ≤ s0) (k0 : s0 ≤ 1000) (h : RdIs w r b now s0 0 0 0) :
    Calls Tryz.prog 58 #[.pointer (some ⟨r, 0, none⟩), cmdV ⟨1, t, 0, 0⟩] w fun e w' => e = .returned (.tuple #[.int .i64 0, .int .i64 0]) ∧ ∃ p, RdIs w' r b (.pointer (some ⟨p, 0, none⟩)) (s0 + 1) 0 0 0 ∧ Gn0 w' p ∧ Fr (· = r) w w' := by
  have hr : Cmd.right ⟨1, t, 0, 0⟩ = true := by simp [Cmd.right, ht]
  have HR := Lib.hid hr; clear hr
  unfold cmdV
  dsimp only
  go_enter Tryz.func58, Tryz.ntmps58
  go_wp2_with fail
  refine (script_Right ⟨1, t, 0, 0⟩ _).mono ?_
  rintro e w1 ⟨rfl, hf⟩
  rw [HR.out]
  have A1 : Fr (fun _ => False) w (w.alloc (.cells #[.int .i64 1, .int .i64 t, .int .u64 0, .int .u64 0] 47)) := (Fr.refl _ _).alloc _
  have B1 := Blk.fr (S := fun _ => False) (h := by exact (Blk.new w _ _)) hf (fun x => x)
  have c0 : w1.cell? ⟨w.heap.size, 0, none⟩ = some (.int .i64 1) := B1.cell rfl
  have c1 : w1.cell? ⟨w.heap.size, 1, none⟩ = some (.int .i64 t) := B1.cell rfl
  have F1 := A1.trans hf
  go_wp2_with fail
  refine (replay_Goto0 w1 r t b now s0 h0 k0 (h.frF F1)).mono ?_
  rintro e w2 ⟨rfl, p, hR, hG, hf2⟩
  go_wp2
  go_ret2
  exact ⟨rfl, p, hR, hG, (Fr.weak F1).trans hf2⟩

set_option maxHeartbeats 400000 in
set_option maxRecDepth 100000 in
theorem one_count_no (w : World) (r : Nat) (b : Value) (s0 s1 s2 s3 : Int) (h : RdIs w r b (.pointer none) s0 s1 s2 s3) :
    Calls Tryz.prog 58 #[.pointer (some ⟨r, 0, none⟩), cmdV ⟨4, 0, 0, 0⟩] w fun e w' => e = .returned (.tuple #[.int .i64 0, .int .i64 29]) ∧ Fr (fun _ => False) w w' := by
  have hr : Cmd.right ⟨4, 0, 0, 0⟩ = true := by decide
  have HR := Lib.hid hr; clear hr
  unfold cmdV
  dsimp only
  go_enter Tryz.func58, Tryz.ntmps58
  go_wp2_with fail
  refine (script_Right ⟨4, 0, 0, 0⟩ _).mono ?_
  rintro e w1 ⟨rfl, hf⟩
  rw [HR.out]
  have A1 : Fr (fun _ => False) w (w.alloc (.cells #[.int .i64 4, .int .i64 0, .int .u64 0, .int .u64 0] 47)) := (Fr.refl _ _).alloc _
  have B1 := Blk.fr (S := fun _ => False) (h := by exact (Blk.new w _ _)) hf (fun x => x)
  have c0 : w1.cell? ⟨w.heap.size, 0, none⟩ = some (.int .i64 4) := B1.cell rfl
  have F1 := A1.trans hf
  go_wp2_with fail
  refine (replay_Count_no w1 r b s0 s1 s2 s3 (h.frF F1)).mono ?_
  rintro e w2 ⟨rfl, hf2⟩
  go_wp2
  go_ret2
  exact ⟨rfl, F1.trans hf2⟩

set_option maxHeartbeats 400000 in
set_option maxRecDepth 100000 in
theorem one_count_yes (w : World) (r p : Nat) (b : Value) (s0 s1 s2 s3 : Int) (h : RdIs w r b (.pointer (some ⟨p, 0, none⟩)) s0 s1 s2 s3) (hG : Gn0 w p) :
    Calls Tryz.prog 58 #[.pointer (some ⟨r, 0, none⟩), cmdV ⟨4, 0, 0, 0⟩] w fun e w' => e = .returned (.tuple #[.int .i64 3, .int .i64 0]) ∧ Fr (fun _ => False) w w' := by
  have hr : Cmd.right ⟨4, 0, 0, 0⟩ = true := by decide
  have HR := Lib.hid hr; clear hr
  unfold cmdV
  dsimp only
  go_enter Tryz.func58, Tryz.ntmps58
  go_wp2_with fail
  refine (script_Right ⟨4, 0, 0, 0⟩ _).mono ?_
  rintro e w1 ⟨rfl, hf⟩
  rw [HR.out]
  have A1 : Fr (fun _ => False) w (w.alloc (.cells #[.int .i64 4, .int .i64 0, .int .u64 0, .int .u64 0] 47)) := (Fr.refl _ _).alloc _
  have B1 := Blk.fr (S := fun _ => False) (h := by exact (Blk.new w _ _)) hf (fun x => x)
  have c0 : w1.cell? ⟨w.heap.size, 0, none⟩ = some (.int .i64 4) := B1.cell rfl
  have F1 := A1.trans hf
  go_wp2_with fail
  refine (replay_Count_yes w1 r p b s0 s1 s2 s3 (h.frF F1) (hG.frF F1)).mono ?_
  rintro e w2 ⟨rfl, hf2⟩
  go_wp2
  go_ret2
  exact ⟨rfl, F1.trans hf2⟩

end Go.Proofs.YteagpbcmfnopfaaGreatDoor
