/- The count of a graph of nothing; commands at the empty file. -/
import Derived.Test.YteagpbcmfnopfaaGreatDoorEmptyD
namespace Go.Proofs.YteagpbcmfnopfaaGreatDoor
open Go.RowKit

set_option maxHeartbeats 400000 in
set_option maxRecDepth 100000 in
theorem tour_Count0 (w : World) (f : Nat) (h : Fo0 w f) :
    Calls Tryz.prog 305 #[.pointer (some ⟨f, 0, none⟩)] w fun e w' => e = .returned (.int .i64 0) ∧ ∃ n, w' = w.drewN n := by
  obtain ⟨a, m, hb, hm⟩ := h
  have c1 : w.cell? ⟨f, 1, none⟩ = some (.int .i64 0) := hb.cell rfl
  have c2 : w.cell? ⟨f, 2, none⟩ = some (.map (some m)) := hb.cell rfl
  have hlen := fun ty (n : Nat) => MapIs.len (P := Tryz.prog) (w := w.drewN n) (h := by exact hm) Tryz.underlying288 ty
  go_enter Tryz.func305, Tryz.ntmps305
  go_wp2_with fail
  go_quiet (fail)
  go_wp2
  go_ret
  exact ⟨rfl, _, rfl⟩

set_option maxRecDepth 100000 in
theorem hdt_Count0 (w : World) (g : Nat) (h : Gr1 w g) :
    Calls Tryz.prog 303 #[.pointer (some ⟨g, 0, none⟩)] w fun e w' => e = .returned (.int .i64 0) ∧ ∃ n, w' = w.drewN n := by
  go_enter Tryz.func303, Tryz.ntmps303
  go_wp2_with fail
  refine (hdt_at_old w g h).mono ?_
  rintro e w1 ⟨⟨v, x, y, f, rfl, hv, hF⟩, rfl⟩
  have c0 : w.cell? ⟨v, 0, none⟩ = some (.pointer (some ⟨f, 0, none⟩)) := hv.cell rfl
  go_wp2_with fail
  refine (tour_Count0 w f hF).mono ?_
  rintro e w1 ⟨rfl, n, rfl⟩
  go_wp2
  go_ret
  exact ⟨rfl, n, rfl⟩

set_option maxHeartbeats 1000000 in
set_option maxRecDepth 100000 in
theorem replay_Count_no (w : World) (r : Nat) (b : Value) (s0 s1 s2 s3 : Int) (h : RdIs w r b (.pointer none) s0 s1 s2 s3) :
    Calls Tryz.prog 86 #[.pointer (some ⟨r, 0, none⟩)] w fun e w' => e = .returned (.tuple #[.int .i64 0, .int .i64 29]) ∧ Fr (fun _ => False) w w' := by
  go_enter Tryz.func86, Tryz.ntmps86
  go_wp2_with fail
  refine (replay_may_no w r _ b s0 s1 s2 s3 h).mono ?_
  rintro e w1 ⟨rfl, hf⟩
  go_wp2
  go_ret2
  exact ⟨rfl, hf⟩

theorem method_Count (a : Addr) (w : World) : (method 494 224 (.pointer (some a)) "Count").run Tryz.prog w = .ok (303, .pointer (some a)) w := by kernel_rfl

set_option maxHeartbeats 1000000 in
set_option maxRecDepth 100000 in
theorem replay_Count_yes (w : World) (r p : Nat) (b : Value) (s0 s1 s2 s3 : Int) (h : RdIs w r b (.pointer (some ⟨p, 0, none⟩)) s0 s1 s2 s3) (hG : Gn0 w p) :
    Calls Tryz.prog 86 #[.pointer (some ⟨r, 0, none⟩)] w fun e w' => e = .returned (.tuple #[.int .i64 3, .int .i64 0]) ∧ Fr (fun _ => False) w w' := by
  go_enter Tryz.func86, Tryz.ntmps86
  go_wp2_with fail
  refine (replay_may_yes w r p b s0 s1 s2 s3 h).mono ?_
  rintro e w1 ⟨rfl, hf⟩
  have hR := h.frF hf
  obtain ⟨n, m, g, a, b', hp, hn, hg⟩ := hG.frF hf
  have c0 : w1.cell? ⟨r, 0, none⟩ = some (.int .u64 3) := Blk.cell hR rfl
  have c6 : w1.cell? ⟨r, 6, none⟩ = some (.pointer (some ⟨p, 0, none⟩)) := Blk.cell hR rfl
  have d0 : w1.cell? ⟨p, 0, none⟩ = some (.pointer (some ⟨n, 0, none⟩)) := hp.cell rfl
  have d1 : w1.cell? ⟨p, 1, none⟩ = some (.iface 224 (.pointer (some ⟨g, 0, none⟩))) := hp.cell rfl
  go_wp2_with fail
  have hG1 : ∀ k, Gr1 (w1.drewN k) g := fun k => hg
  have hmeth := method_Count
  go_quiet ((first
    | (go_at_call 120; exact Calls.quiet_of_same ((names_Len0 _ n _ (hn.drewN _)).mono fun e w' ⟨he, hw⟩ => ⟨he, hw.symm⟩))
    | (go_at_call 303; exact Calls.quiet_of (hdt_Count0 _ g (hG1 _)))))
  go_wp2
  go_ret2
  exact ⟨rfl, hf.drewN _⟩

end Go.Proofs.YteagpbcmfnopfaaGreatDoor
