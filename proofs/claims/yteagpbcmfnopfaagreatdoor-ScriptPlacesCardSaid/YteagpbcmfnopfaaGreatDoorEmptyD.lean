/- A reader's seek ahead of all events, its count. -/
import Derived.Test.YteagpbcmfnopfaaGreatDoorEmptyC
import Derived.Test.YteagpbcmfnopfaaGreatDoorTgxB
import Derived.Laws.LoneSync
import Derived.IntWalk
namespace Go.Proofs.YteagpbcmfnopfaaGreatDoor
open Go.RowKit

set_option maxRecDepth 100000 in
theorem atomic_Add (w : World) (r i : Nat) (v d : Int) (h0 : 0 ≤ v) (h1 : v ≤ 10000) (h2 : 0 ≤ d) (h3 : d ≤ 10000) (hc : w.cell? ⟨r, i, none⟩ = some (.int .i64 v)) (hf : w.frozen? ⟨r, i, none⟩ = false) :
    Calls Tryz.prog 142 #[.pointer (some ⟨r, i, none⟩), .int .i64 d] w fun e w' => e = .returned (.int .i64 (v + d)) ∧ w' = w.setCell ⟨r, i, none⟩ (.int .i64 (v + d)) := by
  have hw : IntKind.i64.wrap (v + d) = v + d := IntWalk.i64_in _ (by omega)
  have hadd := run_call_add (P := Tryz.prog) Tryz.func165 (by kernel_rfl) (by kernel_rfl) (by kernel_rfl) .i64 (by kernel_rfl) (y := d) (s := v + d) hc hf (by simp [go_sem, hw])
  clear hw
  go_enter Tryz.func142, Tryz.ntmps142
  go_wp2
  go_ret
  exact ⟨rfl, rfl⟩

theorem el_int : Elem Tryz.prog 50 3 (.int .i64 0) 1 8 := Elem.mk' Tryz.underlying50 (by kernel_rfl) rfl (by decide)

theorem own_blk {w : World} {g : Nat} {cs : Array Value} {t : TypeId} (base : Nat) (h : Blk w g cs t) (hb : base ≤ g) (hm : cs.size ≤ maxLen) : w.ownsRow base t 1 (.slice (some ⟨g, 0, none⟩) cs.size cs.size) cs.size cs.toList :=
  ⟨by simp, .inr ⟨g, cs.size, cs, rfl, hb, h, Nat.le_refl _, hm, by simp, by rw [Nat.mul_one]; exact List.take_of_length_le (by simp)⟩⟩

theorem rd_add0 (w : World) (r : Nat) (b now : Value) (s0 s1 s2 s3 d : Int) (h0 : 0 ≤ s0) (k0 : s0 ≤ 1000) (h1 : 0 ≤ d) (k1 : d ≤ 1000) (h : RdIs w r b now s0 s1 s2 s3) :
    Calls Tryz.prog 142 #[.pointer (some ⟨r, 7, none⟩), .int .i64 d] w fun e w' => (∃ v, e = .returned v) ∧ RdIs w' r b now (s0 + d) s1 s2 s3 ∧ Fr (· = r) w w' :=
  (atomic_Add w r 7 s0 d h0 (by omega) h1 (by omega) (Blk.cell h rfl) (Blk.free h 7)).mono fun e w' ⟨he, hw⟩ => ⟨⟨_, he⟩, by rw [hw]; exact Blk.set h 7 _, by rw [hw]; exact Fr.set1 _ _ _ _⟩

theorem rd_add1 (w : World) (r : Nat) (b now : Value) (s0 s1 s2 s3 d : Int) (h0 : 0 ≤ s1) (k0 : s1 ≤ 1000) (h1 : 0 ≤ d) (k1 : d ≤ 1000) (h : RdIs w r b now s0 s1 s2 s3) :
    Calls Tryz.prog 142 #[.pointer (some ⟨r, 8, none⟩), .int .i64 d] w fun e w' => (∃ v, e = .returned v) ∧ RdIs w' r b now s0 (s1 + d) s2 s3 ∧ Fr (· = r) w w' :=
  (atomic_Add w r 8 s1 d h0 (by omega) h1 (by omega) (Blk.cell h rfl) (Blk.free h 8)).mono fun e w' ⟨he, hw⟩ => ⟨⟨_, he⟩, by rw [hw]; exact Blk.set h 8 _, by rw [hw]; exact Fr.set1 _ _ _ _⟩

theorem rd_add2 (w : World) (r : Nat) (b now : Value) (s0 s1 s2 s3 d : Int) (h0 : 0 ≤ s2) (k0 : s2 ≤ 1000) (h1 : 0 ≤ d) (k1 : d ≤ 1000) (h : RdIs w r b now s0 s1 s2 s3) :
    Calls Tryz.prog 142 #[.pointer (some ⟨r, 9, none⟩), .int .i64 d] w fun e w' => (∃ v, e = .returned v) ∧ RdIs w' r b now s0 s1 (s2 + d) s3 ∧ Fr (· = r) w w' :=
  (atomic_Add w r 9 s2 d h0 (by omega) h1 (by omega) (Blk.cell h rfl) (Blk.free h 9)).mono fun e w' ⟨he, hw⟩ => ⟨⟨_, he⟩, by rw [hw]; exact Blk.set h 9 _, by rw [hw]; exact Fr.set1 _ _ _ _⟩

theorem rd_add3 (w : World) (r : Nat) (b now : Value) (s0 s1 s2 s3 d : Int) (h0 : 0 ≤ s3) (k0 : s3 ≤ 1000) (h1 : 0 ≤ d) (k1 : d ≤ 1000) (h : RdIs w r b now s0 s1 s2 s3) :
    Calls Tryz.prog 142 #[.pointer (some ⟨r, 10, none⟩), .int .i64 d] w fun e w' => (∃ v, e = .returned v) ∧ RdIs w' r b now s0 s1 s2 (s3 + d) ∧ Fr (· = r) w w' :=
  (atomic_Add w r 10 s3 d h0 (by omega) h1 (by omega) (Blk.cell h rfl) (Blk.free h 10)).mono fun e w' ⟨he, hw⟩ => ⟨⟨_, he⟩, by rw [hw]; exact Blk.set h 10 _, by rw [hw]; exact Fr.set1 _ _ _ _⟩

set_option maxHeartbeats 1000000 in
set_option maxRecDepth 100000 in
/-- A seek that came to nothing is counted. -/
theorem replay_did0 (w : World) (r q c : Nat) (b now : Value) (s0 s1 s2 s3 : Int) (h0 : 0 ≤ s0) (h1 : 0 ≤ s1) (h2 : 0 ≤ s2) (h3 : 0 ≤ s3) (k0 : s0 ≤ 1000) (k1 : s1 ≤ 1000) (k2 : s2 ≤ 1000) (k3 : s3 ≤ 1000) (h : RdIs w r b now s0 s1 s2 s3) (hq : Blk w q #[.int .i64 0, .int .i64 0, .int .i64 0] 3) :
    Calls Tryz.prog 112 #[.pointer (some ⟨r, 0, none⟩), .slice (some ⟨q, 0, none⟩) 3 c] w fun e w' => e = .returned (.tuple #[]) ∧ RdIs w' r b now (s0 + 1) s1 s2 s3 ∧ Fr (· = r) w w' := by
  have hB1 := Blk.new w #[.int .i64 1] 3
  have hown := own_blk w.heap.size hB1 (Nat.le_refl _) (by unfold maxLen; simp)
  have hqs : SlAt (w.alloc (.cells #[.int .i64 1] 3)) (some ⟨q, 0, none⟩) [.int .i64 0, .int .i64 0, .int .i64 0] := slAt_blk (Blk.alloc hq _)
  go_enter Tryz.func112, Tryz.ntmps112
  go_wp2_with (first
    | (at_builtin; refine wpList_app el_int rfl _ _ rfl rfl hown rfl rfl hqs (by simp [Value.oneCell']) (by unfold maxLen; simp) (by simp) (by rw [alloc_size]; omega) ?_))
  intro A1 c1 w1 hr1 hf1 _
  obtain ⟨L, c2, e2, hrow, hL, hLb, _⟩ := own_some hr1 (by simp)
  cases e2
  have hA : Fr (· = r) w (w.alloc (.cells #[.int .i64 1] 3)) := (Fr.refl _ _).alloc _
  have hrl := Blk.lt h
  have hR1 : RdIs w1 r b now s0 s1 s2 s3 := Blk.fr (S := fun k => (Value.slice (some ⟨w.heap.size, 0, none⟩) 1 1).ownBlock = some k) (Blk.alloc h _) (by exact hf1) (fun e => by simp [Value.ownBlock] at e; omega)
  have hne : L ≠ r := fun e => row_type' hr1 hR1 (by decide) (by simp [Value.ownBlock, e])
  have F1 : Fr (· = r) w w1 := ((hA.mono (T := fun k => k = r ∨ k = w.heap.size) (fun _ _ e => .inl e)).then (by exact hf1) (fun k _ e => .inr (by simpa [Value.ownBlock] using e.symm))).mono (fun n hn e => by rcases e with e | e; exact e; omega)
  have l0 : w1.cell? ⟨L, 0, none⟩ = some (.int .i64 1) := by have := hrow 0 _ rfl; simpa using this
  have l1 : w1.cell? ⟨L, 1, none⟩ = some (.int .i64 0) := by have := hrow 1 _ rfl; simpa using this
  have l2 : w1.cell? ⟨L, 2, none⟩ = some (.int .i64 0) := by have := hrow 2 _ rfl; simpa using this
  have l3 : w1.cell? ⟨L, 3, none⟩ = some (.int .i64 0) := by have := hrow 3 _ rfl; simpa using this
  clear hrow hr1 hf1 hown hqs hq
  go_wp2_with fail
  refine wp_loop_rounds 5 ?_
  rw [rounds_succ]
  go_wp2_with fail
  refine (rd_add0 _ r b now s0 s1 s2 s3 1 h0 k0 (by omega) (by omega) hR1).mono ?_
  rintro e w2 ⟨⟨v, rfl⟩, hR2, hg2⟩
  have F2 := F1.trans hg2
  have l1_1 : w2.cell? ⟨L, 1, none⟩ = some (.int .i64 0) := hg2.cell l1 hne
  have l2_1 : w2.cell? ⟨L, 2, none⟩ = some (.int .i64 0) := hg2.cell l2 hne
  have l3_1 : w2.cell? ⟨L, 3, none⟩ = some (.int .i64 0) := hg2.cell l3 hne
  clear l0 hg2
  go_wp2_with fail
  rw [rounds_succ]
  go_wp2_with fail
  refine (rd_add1 _ r b now (s0 + 1) s1 s2 s3 0 h1 k1 (by omega) (by omega) hR2).mono ?_
  rintro e w3 ⟨⟨v, rfl⟩, hR3, hg3⟩
  have F3 := F2.trans hg3
  have l2_2 : w3.cell? ⟨L, 2, none⟩ = some (.int .i64 0) := hg3.cell l2_1 hne
  have l3_2 : w3.cell? ⟨L, 3, none⟩ = some (.int .i64 0) := hg3.cell l3_1 hne
  clear l1_1 hg3
  go_wp2_with fail
  rw [rounds_succ]
  go_wp2_with fail
  refine (rd_add2 _ r b now (s0 + 1) (s1 + 0) s2 s3 0 h2 k2 (by omega) (by omega) hR3).mono ?_
  rintro e w4 ⟨⟨v, rfl⟩, hR4, hg4⟩
  have F4 := F3.trans hg4
  have l3_3 : w4.cell? ⟨L, 3, none⟩ = some (.int .i64 0) := hg4.cell l3_2 hne
  clear l2_2 hg4
  go_wp2_with fail
  rw [rounds_succ]
  go_wp2_with fail
  refine (rd_add3 _ r b now (s0 + 1) (s1 + 0) (s2 + 0) s3 0 h3 k3 (by omega) (by omega) hR4).mono ?_
  rintro e w5 ⟨⟨v, rfl⟩, hR5, hg5⟩
  have F5 := F4.trans hg5
  clear l3_3 hg5
  go_wp2_with fail
  rw [rounds_succ]
  go_wp2
  go_end0
  exact ⟨rfl, by simpa using hR5, F5⟩

set_option maxRecDepth 100000 in
theorem sort_Search0 (f : Value) (w : World) :
    Calls Tryz.prog 115 #[.int .i64 0, f] w fun e w' => e = .returned (.int .i64 0) ∧ w = w' := by
  go_enter Tryz.func115, Tryz.ntmps115
  go_wp2
  refine wp_loop_rounds 1 ?_
  rw [rounds_succ]
  go_wp2
  go_ret
  exact ⟨rfl, rfl⟩

set_option maxRecDepth 100000 in
theorem index_Find0 (t : Int) (w : World) :
    Calls Tryz.prog 110 #[.slice none 0 0, .int .i64 t] w fun e w' => e = .returned (.int .i64 (-1)) ∧ Fr (fun _ => False) w w' := by
  go_enter Tryz.func110, Tryz.ntmps110
  go_wp2_with fail
  refine (index_Right0 _).mono ?_
  rintro e w1 ⟨rfl, rfl⟩
  go_wp2_with fail
  refine (sort_Search0 _ _).mono ?_
  rintro e w1 ⟨rfl, rfl⟩
  go_wp2
  go_ret
  exact ⟨rfl, ((Fr.refl _ _).alloc _).alloc _⟩

theorem Gn0.fr {w w' : World} {p r : Nat} {b now : Value} {s0 s1 s2 s3 : Int} (h : Gn0 w p) (hR : RdIs w r b now s0 s1 s2 s3) (k : Fr (· = r) w w') : Gn0 w' p := by
  obtain ⟨n, m, g, a, b', hp, hn, m', d', L, c, v, x, y, f, hb, hL, hv, hF⟩ := h
  have hLr : L ≠ r := by
    intro e
    have h0 := Blk.cell (i := 0) hR rfl
    rw [e, h0] at hL
    injection hL with hL
    cases hL
  exact ⟨n, m, g, a, b', hp.fr k (Blk.ne hp hR (by decide)), hn.fr k (Blk.ne hn hR (by decide)), m', d', L, c, v, x, y, f, hb.fr k (Blk.ne hb hR (by decide)), k.cell hL hLr, hv.fr k (Blk.ne hv hR (by decide)), hF.fr k (fun z e => by subst e; exact ⟨_, _, hR, by decide⟩)⟩

theorem Gn0.frF {w w' : World} {p : Nat} (h : Gn0 w p) (k : Fr (fun _ => False) w w') : Gn0 w' p := by
  obtain ⟨n, m, g, a, b', hp, hn, m', d', L, c, v, x, y, f, hb, hL, hv, hF⟩ := h
  exact ⟨n, m, g, a, b', hp.fr k (fun x => x), hn.fr k (fun x => x), m', d', L, c, v, x, y, f, hb.fr k (fun x => x), k.cell hL (fun x => x), hv.fr k (fun x => x), hF.frF k⟩

theorem RdIs.frF {w w' : World} {r : Nat} {b now : Value} {s0 s1 s2 s3 : Int} (h : RdIs w r b now s0 s1 s2 s3) (k : Fr (fun _ => False) w w') : RdIs w' r b now s0 s1 s2 s3 := Blk.fr h k (fun x => x)

set_option maxHeartbeats 1000000 in
set_option maxRecDepth 100000 in
theorem replay_Goto0 (w : World) (r : Nat) (t : Int) (b now : Value) (s0 : Int) (h0 : 0 ≤ s0) (k0 : s0 ≤ 1000) (h : RdIs w r b now s0 0 0 0) :
    Calls Tryz.prog 82 #[.pointer (some ⟨r, 0, none⟩), .int .i64 t] w fun e w' => e = .returned (.int .i64 0) ∧ ∃ p, RdIs w' r b (.pointer (some ⟨p, 0, none⟩)) (s0 + 1) 0 0 0 ∧ Gn0 w' p ∧ Fr (· = r) w w' := by
  have hr := Blk.lt h
  have A1 : Fr (fun _ => False) w (w.alloc (.cells #[.int .i64 t] 2)) := (Fr.refl _ _).alloc _
  have hR1 := h.frF A1
  have c3 : w.cell? ⟨r, 3, none⟩ = some (.slice none 0 0) := Blk.cell h rfl
  go_enter Tryz.func82, Tryz.ntmps82
  go_wp2_with fail
  go_region_held3 (fun w' => w'.cell? ⟨r, 3, none⟩ = some (.slice none 0 0) ∧ w'.cell? ⟨w.heap.size, 0, none⟩ = some (.int .i64 t))
    (first | go_keep | ((try go_split_ands); refine ⟨hf1.cell ?_ (fun x => x), hf1.cell ?_ (fun x => x)⟩ <;> assumption))
    ((first
      | (go_at_call 110; refine (index_Find0 t _).mono ?_; rintro e w1 ⟨rfl, hf1⟩)))
  have F1 : Fr (fun _ => False) w w1 := Fr.trans (by exact A1.drew) hf1
  have hR2 := h.frF F1
  have d5 : w1.cell? ⟨r, 5, none⟩ = some (.int .u64 1) := Blk.cell hR2 rfl
  go_wp2_with fail
  refine (replay_made0 w1).mono ?_
  rintro e w2 ⟨p, rfl, hp, hG, hf2⟩
  have hR3 := hR2.frF hf2
  have F2 := F1.trans hf2
  have d6 : w2.cell? ⟨r, 6, none⟩ = some now := Blk.cell hR3 rfl
  have f6 := Blk.free hR3 6
  go_wp2_with fail
  have hset := Fr.set1 w2 r 6 (.pointer (some ⟨p, 0, none⟩))
  have hR4 : RdIs (w2.setCell ⟨r, 6, none⟩ (.pointer (some ⟨p, 0, none⟩))) r b (.pointer (some ⟨p, 0, none⟩)) s0 0 0 0 := Blk.set hR3 6 _
  have hG4 := hG.fr hR3 hset
  have F4 := (Fr.weak (S := (· = r)) F2).trans hset
  have A5 : Fr (fun _ => False) (w2.setCell ⟨r, 6, none⟩ (.pointer (some ⟨p, 0, none⟩))) ((w2.setCell ⟨r, 6, none⟩ (.pointer (some ⟨p, 0, none⟩))).alloc (.cells #[.int .i64 0, .int .i64 0, .int .i64 0] 3)) := (Fr.refl _ _).alloc _
  have hR5 := hR4.frF A5
  have hG5 := hG4.frF A5
  refine (replay_did0 _ r w2.heap.size 3 b _ s0 0 0 0 h0 (Int.le_refl _) (Int.le_refl _) (Int.le_refl _) k0 (by omega) (by omega) (by omega) hR5 (Blk.at (by simp [World.setCell]) _ _)).mono ?_
  rintro e w3 ⟨rfl, hR6, hf6⟩
  go_wp2
  go_ret
  exact ⟨rfl, p, hR6, hG5.fr hR5 hf6, (F4.trans (Fr.weak A5)).trans hf6⟩

set_option maxRecDepth 100000 in
theorem index_none (f : Value) (w : World) :
    Calls Tryz.prog 178 #[.slice none 0 0, f] w fun e w' => e = .returned (.int .i64 (-1)) ∧ w = w' := by
  go_enter Tryz.func178, Tryz.ntmps178
  go_wp2
  refine wp_loop_rounds 1 ?_
  rw [rounds_succ]
  go_wp2
  go_ret
  exact ⟨rfl, rfl⟩

set_option maxRecDepth 100000 in
theorem contains_none (f : Value) (w : World) :
    Calls Tryz.prog 150 #[.slice none 0 0, f] w fun e w' => e = .returned (.bool false) ∧ w = w' := by
  go_enter Tryz.func150, Tryz.ntmps150
  go_wp2_with fail
  refine (index_none _ _).mono ?_
  rintro e w1 ⟨rfl, rfl⟩
  go_wp2
  go_ret
  exact ⟨rfl, rfl⟩

set_option maxRecDepth 100000 in
theorem replay_may_no (w : World) (r : Nat) (l b : Value) (s0 s1 s2 s3 : Int) (h : RdIs w r b (.pointer none) s0 s1 s2 s3) :
    Calls Tryz.prog 118 #[.pointer (some ⟨r, 0, none⟩), l] w fun e w' => e = .returned (.int .i64 29) ∧ Fr (fun _ => False) w w' := by
  have c6 : w.cell? ⟨r, 6, none⟩ = some (.pointer none) := Blk.cell h rfl
  have hr := Blk.lt h
  go_enter Tryz.func118, Tryz.ntmps118
  go_wp2
  go_ret
  exact ⟨rfl, (Fr.refl _ _).alloc _⟩

set_option maxRecDepth 100000 in
theorem replay_may_yes (w : World) (r : Nat) (p : Nat) (b : Value) (s0 s1 s2 s3 : Int) (h : RdIs w r b (.pointer (some ⟨p, 0, none⟩)) s0 s1 s2 s3) :
    Calls Tryz.prog 118 #[.pointer (some ⟨r, 0, none⟩), .slice none 0 0] w fun e w' => e = .returned (.int .i64 0) ∧ Fr (fun _ => False) w w' := by
  have c6 : w.cell? ⟨r, 6, none⟩ = some (.pointer (some ⟨p, 0, none⟩)) := Blk.cell h rfl
  have hr := Blk.lt h
  go_enter Tryz.func118, Tryz.ntmps118
  go_wp2_with fail
  refine (contains_none _ _).mono ?_
  rintro e w1 ⟨rfl, rfl⟩
  go_wp2
  go_ret
  exact ⟨rfl, (Fr.refl _ _).alloc _⟩

end Go.Proofs.YteagpbcmfnopfaaGreatDoor
