/- The graph of no events: treap, tour, hdt, names, made, Goto, Count. -/
import Derived.Test.YteagpbcmfnopfaaGreatDoorRows
import Derived.Test.YteagpbcmfnopfaaGreatDoorApp
import Derived.Test.YteagpbcmfnopfaaGreatDoorMap
import Derived.Deep.RegionHeld3
import Derived.Deep.RegionWith
import Derived.Deep.QuietTactic
import Derived.BigQuiet
import Derived.Deep.DeepCutAuto
import Derived.Deep.RegionLaw
namespace Go.Proofs.YteagpbcmfnopfaaGreatDoor
open Go.RowKit

abbrev eZ : Int → Value := fun n => Value.int .i64 n

theorem slAt_at {w : World} {n : Nat} (hn : n = w.heap.size) (cs : Array Value) (t : TypeId) : SlAt (w.alloc (.cells cs t)) (some ⟨n, 0, none⟩) cs.toList := by
  subst hn; exact slAt_new w cs t

theorem Blk.at {w : World} {n : Nat} (hn : n = w.heap.size) (cs : Array Value) (t : TypeId) : Blk (w.alloc (.cells cs t)) n cs t := by
  subst hn; exact Blk.new w cs t

theorem MapIs.at {w : World} {n : Nat} (hn : n = w.heap.size) : MapIs (w.alloc (.map #[] 0)) n eZ eZ [] := by
  subst hn; exact MapIs.new w eZ eZ

set_option maxRecDepth 100000 in
theorem treap_New1 (w : World) :
    Calls Tryz.prog 208 #[.int .u64 1] w fun e w' => ∃ a, e = .returned (.pointer (some ⟨a, 0, none⟩)) ∧ w.heap.size ≤ a ∧ Blk w' a #[.slice none 0 0, .int .u64 1] 325 ∧ Fr (fun _ => False) w w' := by
  go_enter Tryz.func208, Tryz.ntmps208
  go_wp2
  go_ret
  exact ⟨_, rfl, Nat.le_refl _, Blk.new _ _ _, (Fr.refl _ _).alloc _⟩

/-- A forest of no vertices. -/
def Fo0 (w : World) (f : Nat) : Prop := ∃ a m, Blk w f #[.pointer (some ⟨a, 0, none⟩), .int .i64 0, .map (some m), .slice none 0 0] 290 ∧ MapIs w m eZ eZ []

theorem Blk.ne {w : World} {g g' : Nat} {cs cs' : Array Value} {t t' : TypeId} (h : Blk w g cs t) (h' : Blk w g' cs' t') (ht : t ≠ t') : g ≠ g' := by
  rintro rfl
  unfold Blk at h h'
  rw [h] at h'
  injection h' with h'
  injection h' with _ h'
  exact ht h'

theorem Fo0.fr {w w' : World} {f : Nat} (h : Fo0 w f) {S : Nat → Prop} (k : Fr S w w') (hs : ∀ b, S b → ∃ cs t, Blk w b cs t ∧ t ≠ 290) : Fo0 w' f := by
  obtain ⟨a, m, hb, hm⟩ := h
  refine ⟨a, m, hb.fr k fun hS => ?_, hm.fr k fun hS => ?_⟩
  · obtain ⟨cs, t, hc, ht⟩ := hs f hS
    exact Blk.ne hc hb ht rfl
  · obtain ⟨cs, t, hc, _⟩ := hs m hS
    obtain ⟨es, clock, hb2, _⟩ := hm
    unfold Blk at hc
    rw [hb2] at hc
    injection hc with hc
    cases hc

theorem Fo0.frF {w w' : World} {f : Nat} (h : Fo0 w f) (k : Fr (fun _ => False) w w') : Fo0 w' f := h.fr k fun _ x => x.elim

set_option maxRecDepth 100000 in
theorem tour_New0 (w : World) :
    Calls Tryz.prog 179 #[.int .i64 0, .int .u64 1] w fun e w' => ∃ f, e = .returned (.pointer (some ⟨f, 0, none⟩)) ∧ w.heap.size ≤ f ∧ Fo0 w' f ∧ Fr (fun _ => False) w w' := by
  have hmm := @run_makeMap Tryz.prog
  go_enter Tryz.func179, Tryz.ntmps179
  go_wp2_with fail
  refine (treap_New1 w).mono ?_
  rintro e w1 ⟨a, rfl, ha, hb, hf1⟩
  have hs1 := hf1.size
  go_wp2
  refine wp_loop_rounds 1 ?_
  rw [rounds_succ]
  go_wp2
  go_ret
  exact ⟨_, rfl, by omega, ⟨a, w1.heap.size, Blk.at (alloc_size _ _).symm _ _, MapIs.fr (MapIs.at rfl) ((Fr.refl (fun _ => False) _).alloc _) (fun x => x)⟩, (hf1.alloc _).alloc _⟩

theorem el_level : Elem Tryz.prog 244 247 (.pointer none) 1 8 := Elem.mk' Tryz.underlying244 (by kernel_rfl) rfl (by decide)

/-- A graph of no vertices: with no level yet, or with one. -/
def Gr0 (w : World) (g : Nat) : Prop := ∃ m d, Blk w g #[.int .i64 0, .int .u64 1, .map m, .slice none 0 0, d] 246
def Gr1 (w : World) (g : Nat) : Prop := ∃ m d L c v x y f, Blk w g #[.int .i64 0, .int .u64 1, .map m, .slice (some ⟨L, 0, none⟩) 1 c, d] 246 ∧ w.cell? ⟨L, 0, none⟩ = some (.pointer (some ⟨v, 0, none⟩)) ∧ Blk w v #[.pointer (some ⟨f, 0, none⟩), x, y] 260 ∧ Fo0 w f

end Go.Proofs.YteagpbcmfnopfaaGreatDoor
