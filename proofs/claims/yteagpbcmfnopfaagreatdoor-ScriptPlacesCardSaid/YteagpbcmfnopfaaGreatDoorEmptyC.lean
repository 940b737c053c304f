/- The graph of no events: New, made, Goto, Count. -/
import Derived.Test.YteagpbcmfnopfaaGreatDoorEmptyB
namespace Go.Proofs.YteagpbcmfnopfaaGreatDoor
open Go.RowKit

set_option maxHeartbeats 1000000 in
set_option maxRecDepth 100000 in
theorem hdt_at_old (w : World) (g : Nat) (h : Gr1 w g) :
    Calls Tryz.prog 157 #[.pointer (some ⟨g, 0, none⟩), .int .i64 0] w fun e w' => (∃ v x y f, e = .returned (.pointer (some ⟨v, 0, none⟩)) ∧ Blk w v #[.pointer (some ⟨f, 0, none⟩), x, y] 260 ∧ Fo0 w f) ∧ w = w' := by
  obtain ⟨m, d, L, c, v, x, y, f, hb, hL, hv, hF⟩ := h
  have c3 : w.cell? ⟨g, 3, none⟩ = some (.slice (some ⟨L, 0, none⟩) 1 c) := hb.cell rfl
  go_enter Tryz.func157, Tryz.ntmps157
  go_wp2_with fail
  refine wp_loop_rounds 1 ?_
  rw [rounds_succ]
  go_wp2
  go_ret
  exact ⟨⟨v, x, y, f, rfl, hv, hF⟩, rfl⟩

theorem mk0 (w : World) : (Instr.makeSlice 50 (.int .i64 0) (.int .i64 0)).run Tryz.prog w = .ok (.slice (some ⟨w.heap.size, 0, none⟩) 0 0) (w.alloc (.cells #[] 3)) := by kernel_rfl

set_option maxRecDepth 100000 in
theorem hdt_New0 (w : World) :
    Calls Tryz.prog 139 #[.int .i64 0, .int .u64 1] w fun e w' => ∃ g, e = .returned (.pointer (some ⟨g, 0, none⟩)) ∧ w.heap.size ≤ g ∧ Gr1 w' g ∧ Fr (fun _ => False) w w' := by
  have hmm := @run_makeMap Tryz.prog
  have hmk := mk0
  go_enter Tryz.func139, Tryz.ntmps139
  go_wp2_with fail
  refine (hdt_at_new _ (w.heap.size + 1 + 1) ?_).mono ?_
  · exact ⟨some w.heap.size, _, Blk.at (by simp) _ _⟩
  rintro e w1 ⟨⟨v, rfl⟩, hG, hf⟩
  go_wp2
  go_ret
  refine ⟨_, rfl, by omega, hG, ?_⟩
  have F : Fr (· = w.heap.size + 1 + 1) w w1 := Fr.trans (by exact (((Fr.refl _ _).alloc _).alloc _).alloc _) hf
  exact F.mono (fun n hn e => by omega)

set_option maxRecDepth 100000 in
theorem names_New0 (w : World) :
    Calls Tryz.prog 136 #[] w fun e w' => ∃ n m, e = .returned (.pointer (some ⟨n, 0, none⟩)) ∧ w.heap.size ≤ n ∧ Blk w' n #[.map (some m), .slice none 0 0] 239 ∧ Fr (fun _ => False) w w' := by
  have hmm := @run_makeMap Tryz.prog
  go_enter Tryz.func136, Tryz.ntmps136
  go_wp2
  go_ret
  exact ⟨_, _, rfl, by omega, Blk.at (by simp) _ _, ((Fr.refl _ _).alloc _).alloc _⟩

theorem names_Len0 (w : World) (n : Nat) (m : Value) (h : Blk w n #[m, .slice none 0 0] 239) :
    Calls Tryz.prog 120 #[.pointer (some ⟨n, 0, none⟩)] w fun e w' => e = .returned (.int .i64 0) ∧ w = w' := by
  have c1 : w.cell? ⟨n, 1, none⟩ = some (.slice none 0 0) := h.cell rfl
  go_enter Tryz.func120, Tryz.ntmps120
  go_wp2
  go_ret
  exact ⟨rfl, rfl⟩

/-- The graph of nothing: no names, a graph of no vertices. -/
def Gn0 (w : World) (p : Nat) : Prop := ∃ n m g a b, Blk w p #[.pointer (some ⟨n, 0, none⟩), .iface 224 (.pointer (some ⟨g, 0, none⟩)), .map (some a), .map (some b)] 204 ∧ Blk w n #[.map (some m), .slice none 0 0] 239 ∧ Gr1 w g

set_option maxHeartbeats 1000000 in
set_option maxRecDepth 100000 in
theorem replay_made0 (w : World) :
    Calls Tryz.prog 111 #[.slice none 0 0, .int .u64 1] w fun e w' => ∃ p, e = .returned (.pointer (some ⟨p, 0, none⟩)) ∧ w.heap.size ≤ p ∧ Gn0 w' p ∧ Fr (fun _ => False) w w' := by
  have hmm := @run_makeMap Tryz.prog
  go_enter Tryz.func111, Tryz.ntmps111
  go_wp2_with fail
  refine (names_New0 w).mono ?_
  rintro e w1 ⟨n, m, rfl, hn, hN, hf1⟩
  have hs1 := hf1.size
  go_wp2_with fail
  refine wp_loop_rounds 1 ?_
  rw [rounds_succ]
  go_wp2_with fail
  refine (names_Len0 _ n _ (Blk.fr (S := fun _ => False) hN (by exact (((Fr.refl _ _).alloc _).alloc _).alloc _) (fun x => x))).mono ?_
  rintro e w2 ⟨rfl, rfl⟩
  go_wp2_with fail
  refine (names_Len0 _ n _ (Blk.fr (S := fun _ => False) hN (by exact (((Fr.refl _ _).alloc _).alloc _).alloc _) (fun x => x))).mono ?_
  rintro e w2 ⟨rfl, rfl⟩
  go_wp2_with fail
  refine (hdt_New0 _).mono ?_
  rintro e w2 ⟨g, rfl, hg, hG, hf2⟩
  have BP := Blk.fr (S := fun _ => False) (g := w1.heap.size + 1 + 1) (h := by exact Blk.at (by simp) _ _) hf2 (fun x => x)
  obtain ⟨nv, c1⟩ : ∃ v, w2.cell? ⟨w1.heap.size + 1 + 1, 1, none⟩ = some v := ⟨_, BP.cell rfl⟩
  have f1 := BP.free 1
  have hN2 : Blk w2 n #[.map (some m), .slice none 0 0] 239 := Blk.fr (S := fun _ => False) (Blk.fr (S := fun _ => False) hN (by exact (((Fr.refl _ _).alloc _).alloc _).alloc _) (fun x => x)) hf2 (fun x => x)
  have hl1 := hN.lt
  have F2 : Fr (fun _ => False) w w2 := Fr.trans (by exact ((hf1.alloc _).alloc _).alloc _) hf2
  go_wp2_with fail
  refine wp_loop_rounds 1 ?_
  rw [rounds_succ]
  go_wp2
  go_ret
  have hset := Fr.set1 w2 (w1.heap.size + 1 + 1) 1 (.iface 224 (.pointer (some ⟨g, 0, none⟩)))
  obtain ⟨m', d', L, c, v, x, y, f, hb, hL, hv, hF⟩ := hG
  have h0 := BP.cell (i := 0) rfl
  have hLp : L ≠ w1.heap.size + 1 + 1 := by
    intro e
    rw [e, h0] at hL
    have : n = v := by
      injection hL with hL
      injection hL with hL
      injection hL with hL
      injection hL
    subst this
    exact Blk.ne hN2 hv (by decide) rfl
  refine ⟨_, rfl, by omega, ⟨n, m, g, _, _, BP.set 1 _, hN2.fr hset (Blk.ne hN2 BP (by decide)), m', d', L, c, v, x, y, f, hb.fr hset (Blk.ne hb BP (by decide)), hset.cell hL hLp, hv.fr hset (Blk.ne hv BP (by decide)), hF.fr hset (fun b e => by subst e; exact ⟨_, _, BP, by decide⟩)⟩, ?_⟩
  exact F2.set (.inr (by show w.heap.size ≤ w1.heap.size + 1 + 1; omega)) _

end Go.Proofs.YteagpbcmfnopfaaGreatDoor
