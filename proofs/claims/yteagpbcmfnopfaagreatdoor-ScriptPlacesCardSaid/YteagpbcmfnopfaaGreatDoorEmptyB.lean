/- hdt.at: the first level. -/
import Derived.Test.YteagpbcmfnopfaaGreatDoorEmpty
import Derived.Test.YteagpbcmfnopfaaGreatDoorRegG
namespace Go.Proofs.YteagpbcmfnopfaaGreatDoor
open Go.RowKit

def TatS (g : Nat) (w : World) : Prop := w.cell? ⟨g, 0, none⟩ = some (.int .i64 0) ∧ w.cell? ⟨g, 1, none⟩ = some (.int .u64 1) ∧ w.cell? ⟨g, 3, none⟩ = some (.slice none 0 0) ∧ w.frozen? ⟨g, 3, none⟩ = false

theorem TatS.fr {g : Nat} {w w' : World} (h : TatS g w) (f : Fr (fun _ => False) w w') : TatS g w' :=
  ⟨f.cell h.1 (fun x => x), f.cell h.2.1 (fun x => x), f.cell h.2.2.1 (fun x => x), f.unfrozenC h.2.2.2 h.2.2.1 (fun x => x)⟩

theorem letB {g : Nat} {K : Act → World → Prop} {a : Act} {w : World} {cs : Array Value} {t : TypeId} (h1 : TatS g w) (h : ∀ wn, TatS g wn → Fr (fun _ => False) w wn → Blk wn w.heap.size cs t → K a wn) : K a (w.alloc (.cells cs t)) :=
  h _ (h1.fr ((Fr.refl _ _).alloc _)) ((Fr.refl _ _).alloc _) (Blk.new _ _ _)

theorem letW {g : Nat} {K : Act → World → Prop} {a : Act} {w w1 : World} (h1 : TatS g w1) (h2 : Fr (fun _ => False) w w1) (h : ∀ wn, TatS g wn → Fr (fun _ => False) w wn → K a wn) : K a w1 := h _ h1 h2

set_option maxHeartbeats 4000000 in
set_option maxRecDepth 100000 in
theorem hdt_at_new (w : World) (g : Nat) (h : Gr0 w g) :
    Calls Tryz.prog 157 #[.pointer (some ⟨g, 0, none⟩), .int .i64 0] w fun e w' => (∃ v, e = .returned v) ∧ Gr1 w' g ∧ Fr (· = g) w w' := by
  obtain ⟨m, d, hb⟩ := h
  have hmm := @run_makeMap Tryz.prog
  have c0 : w.cell? ⟨g, 0, none⟩ = some (.int .i64 0) := hb.cell rfl
  have c1 : w.cell? ⟨g, 1, none⟩ = some (.int .u64 1) := hb.cell rfl
  have c3 : w.cell? ⟨g, 3, none⟩ = some (.slice none 0 0) := hb.cell rfl
  have f3 := hb.free 3
  have hg := hb.lt
  go_enter Tryz.func157, Tryz.ntmps157
  go_wp2_with fail
  refine wp_loop_rounds 2 ?_
  rw [rounds_succ]
  go_wp2_with fail
  refine wp_region_G2 (TatS g) 29 (by kernel_rfl) ?_
  intro w0 hw0
  have hT : TatS g w0 := by rw [hw0]; exact ⟨c0, c1, c3, f3⟩
  have hF0 : Fr (fun _ => False) w w0 := by rw [hw0]; exact (Fr.refl _ w).drew
  clear hw0
  refine wpAnyG_take (i := 0) (oi := _) (v := ?_) [] rfl (by kernel_rfl) (by kernel_rfl) (by kernel_rfl) (by kernel_rfl) (by kernel_rfl) (fun _ _ _ h => h) hT (Or.inl ⟨by rfl, ?_⟩) ?_
  rotate_left
  · intro w hSw; obtain ⟨s0, s1, s3, sf⟩ := hSw; (try simp only [List.getElem_toArray, List.getElem_cons_zero]); go_simp; try with_reducible rfl
  try simp only [Act.put, List.setIfInBounds_toArray, List.set_cons_zero, List.set_cons_succ, List.getElem_toArray, List.getElem_cons_zero]
  refine wpAnyG_take (i := 1) (oi := _) (v := ?_) [] rfl (by kernel_rfl) (by kernel_rfl) (by kernel_rfl) (by kernel_rfl) (by kernel_rfl) (fun _ _ _ h => h) hT (Or.inl ⟨by rfl, ?_⟩) ?_
  rotate_left
  · intro w hSw; obtain ⟨s0, s1, s3, sf⟩ := hSw; (try simp only [List.getElem_toArray, List.getElem_cons_zero, List.getElem_cons_succ]); go_simp; try with_reducible rfl
  try simp only [Act.put, List.setIfInBounds_toArray, List.set_cons_zero, List.set_cons_succ, List.getElem_toArray, List.getElem_cons_zero, List.getElem_cons_succ]
  refine wpAnyG_take (i := 2) (oi := _) (v := ?_) [] rfl (by kernel_rfl) (by kernel_rfl) (by kernel_rfl) (by kernel_rfl) (by kernel_rfl) (fun _ _ _ h => h) hT (Or.inl ⟨by rfl, ?_⟩) ?_
  rotate_left
  · intro w hSw; obtain ⟨s0, s1, s3, sf⟩ := hSw; (try simp only [List.getElem_toArray, List.getElem_cons_zero, List.getElem_cons_succ]); go_simp; try with_reducible rfl
  try simp only [Act.put, List.setIfInBounds_toArray, List.set_cons_zero, List.set_cons_succ, List.getElem_toArray, List.getElem_cons_zero, List.getElem_cons_succ]
  refine wpAnyG_take (i := 3) (oi := _) (v := ?_) [] rfl (by kernel_rfl) (by kernel_rfl) (by kernel_rfl) (by kernel_rfl) (by kernel_rfl) (fun _ _ _ h => h) hT (Or.inl ⟨by rfl, ?_⟩) ?_
  rotate_left
  · intro w hSw; obtain ⟨s0, s1, s3, sf⟩ := hSw; (try simp only [List.getElem_toArray, List.getElem_cons_zero, List.getElem_cons_succ]); go_simp; try with_reducible rfl
  try simp only [Act.put, List.setIfInBounds_toArray, List.set_cons_zero, List.set_cons_succ, List.getElem_toArray, List.getElem_cons_zero, List.getElem_cons_succ]
  refine wpAnyG_take (i := 4) (oi := _) (v := ?_) [] rfl (by kernel_rfl) (by kernel_rfl) (by kernel_rfl) (by kernel_rfl) (by kernel_rfl) (fun _ _ _ h => h) hT (Or.inl ⟨by rfl, ?_⟩) ?_
  rotate_left
  · intro w hSw; obtain ⟨s0, s1, s3, sf⟩ := hSw; (try simp only [List.getElem_toArray, List.getElem_cons_zero, List.getElem_cons_succ]); go_simp; try with_reducible rfl
  try simp only [Act.put, List.setIfInBounds_toArray, List.set_cons_zero, List.set_cons_succ, List.getElem_toArray, List.getElem_cons_zero, List.getElem_cons_succ]
  refine wpAnyG_take (i := 5) (oi := _) (v := ?_) [] rfl (by kernel_rfl) (by kernel_rfl) (by kernel_rfl) (by kernel_rfl) (by kernel_rfl) (fun _ _ _ h => h) hT (Or.inl ⟨by rfl, ?_⟩) ?_
  rotate_left
  · intro w hSw; obtain ⟨s0, s1, s3, sf⟩ := hSw; (try simp only [List.getElem_toArray, List.getElem_cons_zero, List.getElem_cons_succ]); go_simp; try with_reducible rfl
  try simp only [Act.put, List.setIfInBounds_toArray, List.set_cons_zero, List.set_cons_succ, List.getElem_toArray, List.getElem_cons_zero, List.getElem_cons_succ]
  refine wpAnyG_take (i := 6) (oi := _) (v := ?_) [] rfl (by kernel_rfl) (by kernel_rfl) (by kernel_rfl) (by kernel_rfl) (by kernel_rfl) (fun _ _ _ h => h) hT (Or.inl ⟨by rfl, ?_⟩) ?_
  rotate_left
  · intro w hSw; obtain ⟨s0, s1, s3, sf⟩ := hSw; (try simp only [List.getElem_toArray, List.getElem_cons_zero, List.getElem_cons_succ]); go_simp; try with_reducible rfl
  try simp only [Act.put, List.setIfInBounds_toArray, List.set_cons_zero, List.set_cons_succ, List.getElem_toArray, List.getElem_cons_zero, List.getElem_cons_succ]
  refine wpAnyG_take (i := 7) (oi := _) (v := ?_) [] rfl (by kernel_rfl) (by kernel_rfl) (by kernel_rfl) (by kernel_rfl) (by kernel_rfl) (fun _ _ _ h => h) hT (Or.inl ⟨by rfl, ?_⟩) ?_
  rotate_left
  · intro w hSw; obtain ⟨s0, s1, s3, sf⟩ := hSw; (try simp only [List.getElem_toArray, List.getElem_cons_zero, List.getElem_cons_succ]); go_simp; try with_reducible rfl
  try simp only [Act.put, List.setIfInBounds_toArray, List.set_cons_zero, List.set_cons_succ, List.getElem_toArray, List.getElem_cons_zero, List.getElem_cons_succ]
  refine wpAnyG_take (i := 8) (oi := _) (v := ?_) [] rfl (by kernel_rfl) (by kernel_rfl) (by kernel_rfl) (by kernel_rfl) (by kernel_rfl) (fun _ _ _ h => h) hT (Or.inl ⟨by rfl, ?_⟩) ?_
  rotate_left
  · intro w hSw; obtain ⟨s0, s1, s3, sf⟩ := hSw; (try simp only [List.getElem_toArray, List.getElem_cons_zero, List.getElem_cons_succ]); go_simp; try with_reducible rfl
  try simp only [Act.put, List.setIfInBounds_toArray, List.set_cons_zero, List.set_cons_succ, List.getElem_toArray, List.getElem_cons_zero, List.getElem_cons_succ]
  refine wpAnyG_take (i := 9) (oi := _) (v := ?_) [] rfl (by kernel_rfl) (by kernel_rfl) (by kernel_rfl) (by kernel_rfl) (by kernel_rfl) (fun _ _ _ h => h) hT (Or.inl ⟨by rfl, ?_⟩) ?_
  rotate_left
  · intro w hSw; obtain ⟨s0, s1, s3, sf⟩ := hSw; (try simp only [List.getElem_toArray, List.getElem_cons_zero, List.getElem_cons_succ]); go_simp; try with_reducible rfl
  try simp only [Act.put, List.setIfInBounds_toArray, List.set_cons_zero, List.set_cons_succ, List.getElem_toArray, List.getElem_cons_zero, List.getElem_cons_succ]
  refine wpAnyG_take (i := 10) (oi := _) (v := ?_) [] rfl (by kernel_rfl) (by kernel_rfl) (by kernel_rfl) (by kernel_rfl) (by kernel_rfl) (fun _ _ _ h => h) hT (Or.inl ⟨by rfl, ?_⟩) ?_
  rotate_left
  · intro w hSw; obtain ⟨s0, s1, s3, sf⟩ := hSw; (try simp only [List.getElem_toArray, List.getElem_cons_zero, List.getElem_cons_succ]); go_simp; try with_reducible rfl
  try simp only [Act.put, List.setIfInBounds_toArray, List.set_cons_zero, List.set_cons_succ, List.getElem_toArray, List.getElem_cons_zero, List.getElem_cons_succ]
  refine wpAnyG_take (i := 11) (oi := _) (v := ?_) [] rfl (by kernel_rfl) (by kernel_rfl) (by kernel_rfl) (by kernel_rfl) (by kernel_rfl) (fun _ _ _ h => h) hT (Or.inl ⟨by rfl, ?_⟩) ?_
  rotate_left
  · intro w hSw; obtain ⟨s0, s1, s3, sf⟩ := hSw; (try simp only [List.getElem_toArray, List.getElem_cons_zero, List.getElem_cons_succ]); go_simp; try with_reducible rfl
  try simp only [Act.put, List.setIfInBounds_toArray, List.set_cons_zero, List.set_cons_succ, List.getElem_toArray, List.getElem_cons_zero, List.getElem_cons_succ]
  refine wpAnyG_take (i := 12) (oi := _) (v := ?_) [] rfl (by kernel_rfl) (by kernel_rfl) (by kernel_rfl) (by kernel_rfl) (by kernel_rfl) (fun _ _ _ h => h) hT (Or.inl ⟨by rfl, ?_⟩) ?_
  rotate_left
  · intro w hSw; obtain ⟨s0, s1, s3, sf⟩ := hSw; (try simp only [List.getElem_toArray, List.getElem_cons_zero, List.getElem_cons_succ]); go_simp; try with_reducible rfl
  try simp only [Act.put, List.setIfInBounds_toArray, List.set_cons_zero, List.set_cons_succ, List.getElem_toArray, List.getElem_cons_zero, List.getElem_cons_succ]
  refine wpAnyG_take (i := 13) (oi := _) (v := ?_) [] rfl (by kernel_rfl) (by kernel_rfl) (by kernel_rfl) (by kernel_rfl) (by kernel_rfl) (fun _ _ _ h => h) hT (Or.inl ⟨by rfl, ?_⟩) ?_
  rotate_left
  · intro w hSw; obtain ⟨s0, s1, s3, sf⟩ := hSw; (try simp only [List.getElem_toArray, List.getElem_cons_zero, List.getElem_cons_succ]); go_simp; try with_reducible rfl
  try simp only [Act.put, List.setIfInBounds_toArray, List.set_cons_zero, List.set_cons_succ, List.getElem_toArray, List.getElem_cons_zero, List.getElem_cons_succ]
  refine wpAnyG_take (i := 14) (oi := _) (v := ?_) [] rfl (by kernel_rfl) (by kernel_rfl) (by kernel_rfl) (by kernel_rfl) (by kernel_rfl) (fun _ _ _ h => h) hT (Or.inl ⟨by rfl, ?_⟩) ?_
  rotate_left
  · intro w hSw; obtain ⟨s0, s1, s3, sf⟩ := hSw; (try simp only [List.getElem_toArray, List.getElem_cons_zero, List.getElem_cons_succ]); go_simp; try with_reducible rfl
  try simp only [Act.put, List.setIfInBounds_toArray, List.set_cons_zero, List.set_cons_succ, List.getElem_toArray, List.getElem_cons_zero, List.getElem_cons_succ]
  refine wpAnyG_take (i := 15) (oi := _) (v := ?_) [] rfl (by kernel_rfl) (by kernel_rfl) (by kernel_rfl) (by kernel_rfl) (by kernel_rfl) (fun _ _ _ h => h) hT (Or.inl ⟨by rfl, ?_⟩) ?_
  rotate_left
  · intro w hSw; obtain ⟨s0, s1, s3, sf⟩ := hSw; (try simp only [List.getElem_toArray, List.getElem_cons_zero, List.getElem_cons_succ]); go_simp; try with_reducible rfl
  try simp only [Act.put, List.setIfInBounds_toArray, List.set_cons_zero, List.set_cons_succ, List.getElem_toArray, List.getElem_cons_zero, List.getElem_cons_succ]
  refine wpAnyG_take (i := 16) (oi := _) (v := ?_) [] rfl (by kernel_rfl) (by kernel_rfl) (by kernel_rfl) (by kernel_rfl) (by kernel_rfl) (fun _ _ _ h => h) hT (Or.inl ⟨by rfl, ?_⟩) ?_
  rotate_left
  · intro w hSw; obtain ⟨s0, s1, s3, sf⟩ := hSw; (try simp only [List.getElem_toArray, List.getElem_cons_zero, List.getElem_cons_succ]); go_simp; try with_reducible rfl
  try simp only [Act.put, List.setIfInBounds_toArray, List.set_cons_zero, List.set_cons_succ, List.getElem_toArray, List.getElem_cons_zero, List.getElem_cons_succ]
  refine wpAnyG_take (i := 17) (oi := _) (v := ?_) [] rfl (by kernel_rfl) (by kernel_rfl) (by kernel_rfl) (by kernel_rfl) (by kernel_rfl) (fun _ _ _ h => h) hT (Or.inl ⟨by rfl, ?_⟩) ?_
  rotate_left
  · intro w hSw; obtain ⟨s0, s1, s3, sf⟩ := hSw; (try simp only [List.getElem_toArray, List.getElem_cons_zero, List.getElem_cons_succ]); go_simp; try with_reducible rfl
  try simp only [Act.put, List.setIfInBounds_toArray, List.set_cons_zero, List.set_cons_succ, List.getElem_toArray, List.getElem_cons_zero, List.getElem_cons_succ]
  refine wpAnyG_take (i := 18) (oi := _) (v := ?_) [] rfl (by kernel_rfl) (by kernel_rfl) (by kernel_rfl) (by kernel_rfl) (by kernel_rfl) (fun _ _ _ h => h) hT (Or.inl ⟨by rfl, ?_⟩) ?_
  rotate_left
  · intro w hSw; obtain ⟨s0, s1, s3, sf⟩ := hSw; (try simp only [List.getElem_toArray, List.getElem_cons_zero, List.getElem_cons_succ]); go_simp; try with_reducible rfl
  try simp only [Act.put, List.setIfInBounds_toArray, List.set_cons_zero, List.set_cons_succ, List.getElem_toArray, List.getElem_cons_zero, List.getElem_cons_succ]
  refine wpAnyG_take (i := 19) (oi := _) (v := ?_) [] rfl (by kernel_rfl) (by kernel_rfl) (by kernel_rfl) (by kernel_rfl) (by kernel_rfl) (fun _ _ _ h => h) hT (Or.inl ⟨by rfl, ?_⟩) ?_
  rotate_left
  · intro w hSw; obtain ⟨s0, s1, s3, sf⟩ := hSw; (try simp only [List.getElem_toArray, List.getElem_cons_zero, List.getElem_cons_succ]); go_simp; try with_reducible rfl
  try simp only [Act.put, List.setIfInBounds_toArray, List.set_cons_zero, List.set_cons_succ, List.getElem_toArray, List.getElem_cons_zero, List.getElem_cons_succ]
  refine wpAnyG_ready (rs := [20, 21, 22]) (by kernel_rfl) (by simp) ?_
  refine AllG.cons (o := _) rfl (fun K hK => ?_) ?_
  · (try simp only [List.getElem_toArray, List.getElem_cons_zero, List.getElem_cons_succ])
    go_simp
    refine (tour_New0 _).mono ?_
    rintro e w120 ⟨f, rfl, hfl, hF, hf⟩
    go_wp2_with fail
    have hT120 := TatS.fr hT hf
    have hF120 := Fr.trans hF0 hf
    refine hK.out _ _ (.inr hT120) ?_
    clear hK K hf
    (try simp only [Act.put, List.setIfInBounds_toArray, List.set_cons_zero, List.set_cons_succ, List.getElem_toArray, List.getElem_cons_zero, List.getElem_cons_succ])
    refine wpAnyG_ready (rs := [21, 22]) (by kernel_rfl) (by simp) ?_
    refine AllG.cons (o := _) rfl (fun K hK => ?_) ?_
    · (try simp only [List.getElem_toArray, List.getElem_cons_zero, List.getElem_cons_succ])
      go_simp
      refine letW (hT120.fr ((Fr.refl _ _).alloc _)) ((Fr.refl _ _).alloc _) ?_
      intro w221 hT221 hf
      have hF221 := Fr.trans hF120 hf
      have hF := Fo0.frF hF hf
      refine hK.out _ _ (.inr hT221) ?_
      clear hK K hf
      (try simp only [Act.put, List.setIfInBounds_toArray, List.set_cons_zero, List.set_cons_succ, List.getElem_toArray, List.getElem_cons_zero, List.getElem_cons_succ])
      refine wpAnyG_ready (rs := [22]) (by kernel_rfl) (by simp) ?_
      refine AllG.cons (o := _) rfl (fun K hK => ?_) ?_
      · (try simp only [List.getElem_toArray, List.getElem_cons_zero, List.getElem_cons_succ])
        go_simp
        refine letW (hT221.fr ((Fr.refl _ _).alloc _)) ((Fr.refl _ _).alloc _) ?_
        intro w322 hT322 hf
        have hF322 := Fr.trans hF221 hf
        have hF := Fo0.frF hF hf
        refine hK.out _ _ (.inr hT322) ?_
        clear hK K hf
        (try simp only [Act.put, List.setIfInBounds_toArray, List.set_cons_zero, List.set_cons_succ, List.getElem_toArray, List.getElem_cons_zero, List.getElem_cons_succ])
        refine wpAnyG_ready (rs := [23]) (by kernel_rfl) (by simp) ?_
        refine AllG.cons (o := _) rfl (fun K hK => ?_) AllG.nil
        (try simp only [List.getElem_toArray, List.getElem_cons_zero, List.getElem_cons_succ])
        go_simp
        refine hK.out _ _ (.inr hT322) ?_
        clear hK K
        (try simp only [Act.put, List.setIfInBounds_toArray, List.set_cons_zero, List.set_cons_succ, List.getElem_toArray, List.getElem_cons_zero, List.getElem_cons_succ])
        refine wpAnyG_ready (rs := [24]) (by kernel_rfl) (by simp) ?_
        refine AllG.cons (o := _) rfl (fun K hK => ?_) AllG.nil
        (try simp only [List.getElem_toArray, List.getElem_cons_zero, List.getElem_cons_succ])
        go_simp
        refine letB hT322 ?_
        intro wb hTb hfb hB
        have hFb := Fr.trans hF322 hfb
        have hFo := Fo0.frF hF hfb
        refine hK.out _ _ (.inr hTb) ?_
        clear hK K
        (try simp only [Act.put, List.setIfInBounds_toArray, List.set_cons_zero, List.set_cons_succ, List.getElem_toArray, List.getElem_cons_zero, List.getElem_cons_succ])
        refine wpAnyG_ready (rs := [25]) (by kernel_rfl) (by simp) ?_
        refine AllG.cons (o := _) rfl (fun K hK => ?_) AllG.nil
        (try simp only [List.getElem_toArray, List.getElem_cons_zero, List.getElem_cons_succ])
        go_simp
        refine letB hTb ?_
        intro wc hTc hfc hC
        have hFc := Fr.trans hFb hfc
        have hFp := Fo0.frF hFo hfc
        have hBc := hB.fr hfc (fun x => x)
        refine hK.out _ _ (.inr hTc) ?_
        clear hK K
        (try simp only [Act.put, List.setIfInBounds_toArray, List.set_cons_zero, List.set_cons_succ, List.getElem_toArray, List.getElem_cons_zero, List.getElem_cons_succ])
        refine wpAnyG_ready (rs := [26]) (by kernel_rfl) (by simp) ?_
        refine AllG.cons (o := _) rfl (fun K hK => ?_) AllG.nil
        (try simp only [List.getElem_toArray, List.getElem_cons_zero, List.getElem_cons_succ])
        rw [if_pos (by rfl)]
        refine wp_app el_level _ _ (by rfl) (base := 0) (by rfl) (own_nil _ _ _ _) (news := [Value.pointer _]) (by rfl) (by rfl) (slAt_blk hC) (by simp [Value.oneCell']) (by unfold maxLen; omega) (by omega) (Nat.zero_le _) ?_
        intro AA cA wA hrA hfA _
        have hfA' : Fr (fun _ => False) wc wA := hfA.mono (fun _ _ e => by simp [Value.ownBlock] at e)
        have hTA := hTc.fr hfA'
        obtain ⟨L, cL, eL, hrow, hLl, _, _⟩ := own_some hrA (by simp)
        cases eL
        refine hK.out _ _ (.inr hTA) ?_
        clear hK K
        (try simp only [Act.put, List.setIfInBounds_toArray, List.set_cons_zero, List.set_cons_succ])
        refine wpAnyG_ready (rs := [27]) (by kernel_rfl) (by simp) ?_
        refine AllG.cons (o := _) rfl (fun K hK => ?_) AllG.nil
        (try simp only [List.getElem_toArray, List.getElem_cons_zero, List.getElem_cons_succ])
        go_simp
        refine hK.out _ _ (.inr hTA) ?_
        clear hK K
        (try simp only [Act.put, List.setIfInBounds_toArray, List.set_cons_zero, List.set_cons_succ, List.getElem_toArray, List.getElem_cons_zero, List.getElem_cons_succ])
        refine wpAnyG_ready (rs := [28]) (by kernel_rfl) (by simp) ?_
        refine AllG.cons (o := _) rfl (fun K hK => ?_) AllG.nil
        (try simp only [List.getElem_toArray, List.getElem_cons_zero, List.getElem_cons_succ])
        go_simp
        refine hK.out _ _ (.inr hTA) ?_
        clear hK K
        (try simp only [Act.put, List.setIfInBounds_toArray, List.set_cons_zero, List.set_cons_succ, List.getElem_toArray, List.getElem_cons_zero, List.getElem_cons_succ])
        refine wpAnyG_ready (rs := [29]) (by kernel_rfl) (by simp) ?_
        refine AllG.cons (o := _) rfl (fun K hK => ?_) AllG.nil
        (try simp only [List.getElem_toArray, List.getElem_cons_zero, List.getElem_cons_succ])
        obtain ⟨s0, s1, s3, sf⟩ := hTA
        go_simp
        refine hK.out _ _ (.inl (by kernel_rfl)) ?_
        clear hK K
        (try simp only [Act.put, List.setIfInBounds_toArray, List.set_cons_zero, List.set_cons_succ, List.getElem_toArray, List.getElem_cons_zero, List.getElem_cons_succ])
        refine wpAnyG_done (by kernel_rfl) ?_ _
        have hFA := hFc.trans hfA'
        have hbA := hb.fr hFA (fun x => x)
        have hne : L ≠ g := fun e => row_type' hrA hbA (by decide) (by simp [Value.ownBlock, e])
        have hcL : wA.cell? ⟨L, 0, none⟩ = some (.pointer (some ⟨w322.heap.size, 0, none⟩)) := by have := hrow 0 _ rfl; simpa using this
        have hgl := Nat.lt_of_lt_of_le hg hF322.size
        have hset := Fr.set1 wA g 3 (.slice (some ⟨L, 0, none⟩) (0 + 1) cA)
        have hBA := (hBc.fr hfA' (fun x => x)).fr hset (fun e => absurd e (by show w322.heap.size ≠ g; omega))
        have hFo2 := (Fo0.frF hFp hfA').fr hset (fun b e => by subst e; exact ⟨_, _, hbA, by decide⟩)
        have hcL2 := hset.cell hcL hne
        have hbs := hbA.set 3 (.slice (some ⟨L, 0, none⟩) (0 + 1) cA)
        have hFz := (Fr.weak (S := (· = g)) hFA).trans hset
        clear hT322 hTb hTc hfA hfA' hB hC hBc hfb hfc hFb hFo hFp
        go_wp2_with fail
        rw [rounds_succ]
        go_wp2
        go_ret
        exact ⟨⟨_, rfl⟩, ⟨m, d, L, cA, _, _, _, f, hbs, hcL2, hBA, hFo2⟩, hFz⟩
      exact AllG.nil
    refine AllG.cons (o := _) rfl (fun K hK => ?_) ?_
    · (try simp only [List.getElem_toArray, List.getElem_cons_zero, List.getElem_cons_succ])
      go_simp
      refine letW (hT120.fr ((Fr.refl _ _).alloc _)) ((Fr.refl _ _).alloc _) ?_
      intro w222 hT222 hf
      have hF222 := Fr.trans hF120 hf
      have hF := Fo0.frF hF hf
      refine hK.out _ _ (.inr hT222) ?_
      clear hK K hf
      (try simp only [Act.put, List.setIfInBounds_toArray, List.set_cons_zero, List.set_cons_succ, List.getElem_toArray, List.getElem_cons_zero, List.getElem_cons_succ])
      refine wpAnyG_ready (rs := [21]) (by kernel_rfl) (by simp) ?_
      refine AllG.cons (o := _) rfl (fun K hK => ?_) ?_
      · (try simp only [List.getElem_toArray, List.getElem_cons_zero, List.getElem_cons_succ])
        go_simp
        refine letW (hT222.fr ((Fr.refl _ _).alloc _)) ((Fr.refl _ _).alloc _) ?_
        intro w321 hT321 hf
        have hF321 := Fr.trans hF222 hf
        have hF := Fo0.frF hF hf
        refine hK.out _ _ (.inr hT321) ?_
        clear hK K hf
        (try simp only [Act.put, List.setIfInBounds_toArray, List.set_cons_zero, List.set_cons_succ, List.getElem_toArray, List.getElem_cons_zero, List.getElem_cons_succ])
        refine wpAnyG_ready (rs := [23]) (by kernel_rfl) (by simp) ?_
        refine AllG.cons (o := _) rfl (fun K hK => ?_) AllG.nil
        (try simp only [List.getElem_toArray, List.getElem_cons_zero, List.getElem_cons_succ])
        go_simp
        refine hK.out _ _ (.inr hT321) ?_
        clear hK K
        (try simp only [Act.put, List.setIfInBounds_toArray, List.set_cons_zero, List.set_cons_succ, List.getElem_toArray, List.getElem_cons_zero, List.getElem_cons_succ])
        refine wpAnyG_ready (rs := [24]) (by kernel_rfl) (by simp) ?_
        refine AllG.cons (o := _) rfl (fun K hK => ?_) AllG.nil
        (try simp only [List.getElem_toArray, List.getElem_cons_zero, List.getElem_cons_succ])
        go_simp
        refine letB hT321 ?_
        intro wb hTb hfb hB
        have hFb := Fr.trans hF321 hfb
        have hFo := Fo0.frF hF hfb
        refine hK.out _ _ (.inr hTb) ?_
        clear hK K
        (try simp only [Act.put, List.setIfInBounds_toArray, List.set_cons_zero, List.set_cons_succ, List.getElem_toArray, List.getElem_cons_zero, List.getElem_cons_succ])
        refine wpAnyG_ready (rs := [25]) (by kernel_rfl) (by simp) ?_
        refine AllG.cons (o := _) rfl (fun K hK => ?_) AllG.nil
        (try simp only [List.getElem_toArray, List.getElem_cons_zero, List.getElem_cons_succ])
        go_simp
        refine letB hTb ?_
        intro wc hTc hfc hC
        have hFc := Fr.trans hFb hfc
        have hFp := Fo0.frF hFo hfc
        have hBc := hB.fr hfc (fun x => x)
        refine hK.out _ _ (.inr hTc) ?_
        clear hK K
        (try simp only [Act.put, List.setIfInBounds_toArray, List.set_cons_zero, List.set_cons_succ, List.getElem_toArray, List.getElem_cons_zero, List.getElem_cons_succ])
        refine wpAnyG_ready (rs := [26]) (by kernel_rfl) (by simp) ?_
        refine AllG.cons (o := _) rfl (fun K hK => ?_) AllG.nil
        (try simp only [List.getElem_toArray, List.getElem_cons_zero, List.getElem_cons_succ])
        rw [if_pos (by rfl)]
        refine wp_app el_level _ _ (by rfl) (base := 0) (by rfl) (own_nil _ _ _ _) (news := [Value.pointer _]) (by rfl) (by rfl) (slAt_blk hC) (by simp [Value.oneCell']) (by unfold maxLen; omega) (by omega) (Nat.zero_le _) ?_
        intro AA cA wA hrA hfA _
        have hfA' : Fr (fun _ => False) wc wA := hfA.mono (fun _ _ e => by simp [Value.ownBlock] at e)
        have hTA := hTc.fr hfA'
        obtain ⟨L, cL, eL, hrow, hLl, _, _⟩ := own_some hrA (by simp)
        cases eL
        refine hK.out _ _ (.inr hTA) ?_
        clear hK K
        (try simp only [Act.put, List.setIfInBounds_toArray, List.set_cons_zero, List.set_cons_succ])
        refine wpAnyG_ready (rs := [27]) (by kernel_rfl) (by simp) ?_
        refine AllG.cons (o := _) rfl (fun K hK => ?_) AllG.nil
        (try simp only [List.getElem_toArray, List.getElem_cons_zero, List.getElem_cons_succ])
        go_simp
        refine hK.out _ _ (.inr hTA) ?_
        clear hK K
        (try simp only [Act.put, List.setIfInBounds_toArray, List.set_cons_zero, List.set_cons_succ, List.getElem_toArray, List.getElem_cons_zero, List.getElem_cons_succ])
        refine wpAnyG_ready (rs := [28]) (by kernel_rfl) (by simp) ?_
        refine AllG.cons (o := _) rfl (fun K hK => ?_) AllG.nil
        (try simp only [List.getElem_toArray, List.getElem_cons_zero, List.getElem_cons_succ])
        go_simp
        refine hK.out _ _ (.inr hTA) ?_
        clear hK K
        (try simp only [Act.put, List.setIfInBounds_toArray, List.set_cons_zero, List.set_cons_succ, List.getElem_toArray, List.getElem_cons_zero, List.getElem_cons_succ])
        refine wpAnyG_ready (rs := [29]) (by kernel_rfl) (by simp) ?_
        refine AllG.cons (o := _) rfl (fun K hK => ?_) AllG.nil
        (try simp only [List.getElem_toArray, List.getElem_cons_zero, List.getElem_cons_succ])
        obtain ⟨s0, s1, s3, sf⟩ := hTA
        go_simp
        refine hK.out _ _ (.inl (by kernel_rfl)) ?_
        clear hK K
        (try simp only [Act.put, List.setIfInBounds_toArray, List.set_cons_zero, List.set_cons_succ, List.getElem_toArray, List.getElem_cons_zero, List.getElem_cons_succ])
        refine wpAnyG_done (by kernel_rfl) ?_ _
        have hFA := hFc.trans hfA'
        have hbA := hb.fr hFA (fun x => x)
        have hne : L ≠ g := fun e => row_type' hrA hbA (by decide) (by simp [Value.ownBlock, e])
        have hcL : wA.cell? ⟨L, 0, none⟩ = some (.pointer (some ⟨w321.heap.size, 0, none⟩)) := by have := hrow 0 _ rfl; simpa using this
        have hgl := Nat.lt_of_lt_of_le hg hF321.size
        have hset := Fr.set1 wA g 3 (.slice (some ⟨L, 0, none⟩) (0 + 1) cA)
        have hBA := (hBc.fr hfA' (fun x => x)).fr hset (fun e => absurd e (by show w321.heap.size ≠ g; omega))
        have hFo2 := (Fo0.frF hFp hfA').fr hset (fun b e => by subst e; exact ⟨_, _, hbA, by decide⟩)
        have hcL2 := hset.cell hcL hne
        have hbs := hbA.set 3 (.slice (some ⟨L, 0, none⟩) (0 + 1) cA)
        have hFz := (Fr.weak (S := (· = g)) hFA).trans hset
        clear hT321 hTb hTc hfA hfA' hB hC hBc hfb hfc hFb hFo hFp
        go_wp2_with fail
        rw [rounds_succ]
        go_wp2
        go_ret
        exact ⟨⟨_, rfl⟩, ⟨m, d, L, cA, _, _, _, f, hbs, hcL2, hBA, hFo2⟩, hFz⟩
      exact AllG.nil
    exact AllG.nil
  refine AllG.cons (o := _) rfl (fun K hK => ?_) ?_
  · (try simp only [List.getElem_toArray, List.getElem_cons_zero, List.getElem_cons_succ])
    go_simp
    refine letW (hT.fr ((Fr.refl _ _).alloc _)) ((Fr.refl _ _).alloc _) ?_
    intro w121 hT121 hf
    have hF121 := Fr.trans hF0 hf
    refine hK.out _ _ (.inr hT121) ?_
    clear hK K hf
    (try simp only [Act.put, List.setIfInBounds_toArray, List.set_cons_zero, List.set_cons_succ, List.getElem_toArray, List.getElem_cons_zero, List.getElem_cons_succ])
    refine wpAnyG_ready (rs := [20, 22]) (by kernel_rfl) (by simp) ?_
    refine AllG.cons (o := _) rfl (fun K hK => ?_) ?_
    · (try simp only [List.getElem_toArray, List.getElem_cons_zero, List.getElem_cons_succ])
      go_simp
      refine (tour_New0 _).mono ?_
      rintro e w220 ⟨f, rfl, hfl, hF, hf⟩
      go_wp2_with fail
      have hT220 := TatS.fr hT121 hf
      have hF220 := Fr.trans hF121 hf
      refine hK.out _ _ (.inr hT220) ?_
      clear hK K hf
      (try simp only [Act.put, List.setIfInBounds_toArray, List.set_cons_zero, List.set_cons_succ, List.getElem_toArray, List.getElem_cons_zero, List.getElem_cons_succ])
      refine wpAnyG_ready (rs := [22]) (by kernel_rfl) (by simp) ?_
      refine AllG.cons (o := _) rfl (fun K hK => ?_) ?_
      · (try simp only [List.getElem_toArray, List.getElem_cons_zero, List.getElem_cons_succ])
        go_simp
        refine letW (hT220.fr ((Fr.refl _ _).alloc _)) ((Fr.refl _ _).alloc _) ?_
        intro w322 hT322 hf
        have hF322 := Fr.trans hF220 hf
        have hF := Fo0.frF hF hf
        refine hK.out _ _ (.inr hT322) ?_
        clear hK K hf
        (try simp only [Act.put, List.setIfInBounds_toArray, List.set_cons_zero, List.set_cons_succ, List.getElem_toArray, List.getElem_cons_zero, List.getElem_cons_succ])
        refine wpAnyG_ready (rs := [23]) (by kernel_rfl) (by simp) ?_
        refine AllG.cons (o := _) rfl (fun K hK => ?_) AllG.nil
        (try simp only [List.getElem_toArray, List.getElem_cons_zero, List.getElem_cons_succ])
        go_simp
        refine hK.out _ _ (.inr hT322) ?_
        clear hK K
        (try simp only [Act.put, List.setIfInBounds_toArray, List.set_cons_zero, List.set_cons_succ, List.getElem_toArray, List.getElem_cons_zero, List.getElem_cons_succ])
        refine wpAnyG_ready (rs := [24]) (by kernel_rfl) (by simp) ?_
        refine AllG.cons (o := _) rfl (fun K hK => ?_) AllG.nil
        (try simp only [List.getElem_toArray, List.getElem_cons_zero, List.getElem_cons_succ])
        go_simp
        refine letB hT322 ?_
        intro wb hTb hfb hB
        have hFb := Fr.trans hF322 hfb
        have hFo := Fo0.frF hF hfb
        refine hK.out _ _ (.inr hTb) ?_
        clear hK K
        (try simp only [Act.put, List.setIfInBounds_toArray, List.set_cons_zero, List.set_cons_succ, List.getElem_toArray, List.getElem_cons_zero, List.getElem_cons_succ])
        refine wpAnyG_ready (rs := [25]) (by kernel_rfl) (by simp) ?_
        refine AllG.cons (o := _) rfl (fun K hK => ?_) AllG.nil
        (try simp only [List.getElem_toArray, List.getElem_cons_zero, List.getElem_cons_succ])
        go_simp
        refine letB hTb ?_
        intro wc hTc hfc hC
        have hFc := Fr.trans hFb hfc
        have hFp := Fo0.frF hFo hfc
        have hBc := hB.fr hfc (fun x => x)
        refine hK.out _ _ (.inr hTc) ?_
        clear hK K
        (try simp only [Act.put, List.setIfInBounds_toArray, List.set_cons_zero, List.set_cons_succ, List.getElem_toArray, List.getElem_cons_zero, List.getElem_cons_succ])
        refine wpAnyG_ready (rs := [26]) (by kernel_rfl) (by simp) ?_
        refine AllG.cons (o := _) rfl (fun K hK => ?_) AllG.nil
        (try simp only [List.getElem_toArray, List.getElem_cons_zero, List.getElem_cons_succ])
        rw [if_pos (by rfl)]
        refine wp_app el_level _ _ (by rfl) (base := 0) (by rfl) (own_nil _ _ _ _) (news := [Value.pointer _]) (by rfl) (by rfl) (slAt_blk hC) (by simp [Value.oneCell']) (by unfold maxLen; omega) (by omega) (Nat.zero_le _) ?_
        intro AA cA wA hrA hfA _
        have hfA' : Fr (fun _ => False) wc wA := hfA.mono (fun _ _ e => by simp [Value.ownBlock] at e)
        have hTA := hTc.fr hfA'
        obtain ⟨L, cL, eL, hrow, hLl, _, _⟩ := own_some hrA (by simp)
        cases eL
        refine hK.out _ _ (.inr hTA) ?_
        clear hK K
        (try simp only [Act.put, List.setIfInBounds_toArray, List.set_cons_zero, List.set_cons_succ])
        refine wpAnyG_ready (rs := [27]) (by kernel_rfl) (by simp) ?_
        refine AllG.cons (o := _) rfl (fun K hK => ?_) AllG.nil
        (try simp only [List.getElem_toArray, List.getElem_cons_zero, List.getElem_cons_succ])
        go_simp
        refine hK.out _ _ (.inr hTA) ?_
        clear hK K
        (try simp only [Act.put, List.setIfInBounds_toArray, List.set_cons_zero, List.set_cons_succ, List.getElem_toArray, List.getElem_cons_zero, List.getElem_cons_succ])
        refine wpAnyG_ready (rs := [28]) (by kernel_rfl) (by simp) ?_
        refine AllG.cons (o := _) rfl (fun K hK => ?_) AllG.nil
        (try simp only [List.getElem_toArray, List.getElem_cons_zero, List.getElem_cons_succ])
        go_simp
        refine hK.out _ _ (.inr hTA) ?_
        clear hK K
        (try simp only [Act.put, List.setIfInBounds_toArray, List.set_cons_zero, List.set_cons_succ, List.getElem_toArray, List.getElem_cons_zero, List.getElem_cons_succ])
        refine wpAnyG_ready (rs := [29]) (by kernel_rfl) (by simp) ?_
        refine AllG.cons (o := _) rfl (fun K hK => ?_) AllG.nil
        (try simp only [List.getElem_toArray, List.getElem_cons_zero, List.getElem_cons_succ])
        obtain ⟨s0, s1, s3, sf⟩ := hTA
        go_simp
        refine hK.out _ _ (.inl (by kernel_rfl)) ?_
        clear hK K
        (try simp only [Act.put, List.setIfInBounds_toArray, List.set_cons_zero, List.set_cons_succ, List.getElem_toArray, List.getElem_cons_zero, List.getElem_cons_succ])
        refine wpAnyG_done (by kernel_rfl) ?_ _
        have hFA := hFc.trans hfA'
        have hbA := hb.fr hFA (fun x => x)
        have hne : L ≠ g := fun e => row_type' hrA hbA (by decide) (by simp [Value.ownBlock, e])
        have hcL : wA.cell? ⟨L, 0, none⟩ = some (.pointer (some ⟨w322.heap.size, 0, none⟩)) := by have := hrow 0 _ rfl; simpa using this
        have hgl := Nat.lt_of_lt_of_le hg hF322.size
        have hset := Fr.set1 wA g 3 (.slice (some ⟨L, 0, none⟩) (0 + 1) cA)
        have hBA := (hBc.fr hfA' (fun x => x)).fr hset (fun e => absurd e (by show w322.heap.size ≠ g; omega))
        have hFo2 := (Fo0.frF hFp hfA').fr hset (fun b e => by subst e; exact ⟨_, _, hbA, by decide⟩)
        have hcL2 := hset.cell hcL hne
        have hbs := hbA.set 3 (.slice (some ⟨L, 0, none⟩) (0 + 1) cA)
        have hFz := (Fr.weak (S := (· = g)) hFA).trans hset
        clear hT322 hTb hTc hfA hfA' hB hC hBc hfb hfc hFb hFo hFp
        go_wp2_with fail
        rw [rounds_succ]
        go_wp2
        go_ret
        exact ⟨⟨_, rfl⟩, ⟨m, d, L, cA, _, _, _, f, hbs, hcL2, hBA, hFo2⟩, hFz⟩
      exact AllG.nil
    refine AllG.cons (o := _) rfl (fun K hK => ?_) ?_
    · (try simp only [List.getElem_toArray, List.getElem_cons_zero, List.getElem_cons_succ])
      go_simp
      refine letW (hT121.fr ((Fr.refl _ _).alloc _)) ((Fr.refl _ _).alloc _) ?_
      intro w222 hT222 hf
      have hF222 := Fr.trans hF121 hf
      refine hK.out _ _ (.inr hT222) ?_
      clear hK K hf
      (try simp only [Act.put, List.setIfInBounds_toArray, List.set_cons_zero, List.set_cons_succ, List.getElem_toArray, List.getElem_cons_zero, List.getElem_cons_succ])
      refine wpAnyG_ready (rs := [20]) (by kernel_rfl) (by simp) ?_
      refine AllG.cons (o := _) rfl (fun K hK => ?_) ?_
      · (try simp only [List.getElem_toArray, List.getElem_cons_zero, List.getElem_cons_succ])
        go_simp
        refine (tour_New0 _).mono ?_
        rintro e w320 ⟨f, rfl, hfl, hF, hf⟩
        go_wp2_with fail
        have hT320 := TatS.fr hT222 hf
        have hF320 := Fr.trans hF222 hf
        refine hK.out _ _ (.inr hT320) ?_
        clear hK K hf
        (try simp only [Act.put, List.setIfInBounds_toArray, List.set_cons_zero, List.set_cons_succ, List.getElem_toArray, List.getElem_cons_zero, List.getElem_cons_succ])
        refine wpAnyG_ready (rs := [23]) (by kernel_rfl) (by simp) ?_
        refine AllG.cons (o := _) rfl (fun K hK => ?_) AllG.nil
        (try simp only [List.getElem_toArray, List.getElem_cons_zero, List.getElem_cons_succ])
        go_simp
        refine hK.out _ _ (.inr hT320) ?_
        clear hK K
        (try simp only [Act.put, List.setIfInBounds_toArray, List.set_cons_zero, List.set_cons_succ, List.getElem_toArray, List.getElem_cons_zero, List.getElem_cons_succ])
        refine wpAnyG_ready (rs := [24]) (by kernel_rfl) (by simp) ?_
        refine AllG.cons (o := _) rfl (fun K hK => ?_) AllG.nil
        (try simp only [List.getElem_toArray, List.getElem_cons_zero, List.getElem_cons_succ])
        go_simp
        refine letB hT320 ?_
        intro wb hTb hfb hB
        have hFb := Fr.trans hF320 hfb
        have hFo := Fo0.frF hF hfb
        refine hK.out _ _ (.inr hTb) ?_
        clear hK K
        (try simp only [Act.put, List.setIfInBounds_toArray, List.set_cons_zero, List.set_cons_succ, List.getElem_toArray, List.getElem_cons_zero, List.getElem_cons_succ])
        refine wpAnyG_ready (rs := [25]) (by kernel_rfl) (by simp) ?_
        refine AllG.cons (o := _) rfl (fun K hK => ?_) AllG.nil
        (try simp only [List.getElem_toArray, List.getElem_cons_zero, List.getElem_cons_succ])
        go_simp
        refine letB hTb ?_
        intro wc hTc hfc hC
        have hFc := Fr.trans hFb hfc
        have hFp := Fo0.frF hFo hfc
        have hBc := hB.fr hfc (fun x => x)
        refine hK.out _ _ (.inr hTc) ?_
        clear hK K
        (try simp only [Act.put, List.setIfInBounds_toArray, List.set_cons_zero, List.set_cons_succ, List.getElem_toArray, List.getElem_cons_zero, List.getElem_cons_succ])
        refine wpAnyG_ready (rs := [26]) (by kernel_rfl) (by simp) ?_
        refine AllG.cons (o := _) rfl (fun K hK => ?_) AllG.nil
        (try simp only [List.getElem_toArray, List.getElem_cons_zero, List.getElem_cons_succ])
        rw [if_pos (by rfl)]
        refine wp_app el_level _ _ (by rfl) (base := 0) (by rfl) (own_nil _ _ _ _) (news := [Value.pointer _]) (by rfl) (by rfl) (slAt_blk hC) (by simp [Value.oneCell']) (by unfold maxLen; omega) (by omega) (Nat.zero_le _) ?_
        intro AA cA wA hrA hfA _
        have hfA' : Fr (fun _ => False) wc wA := hfA.mono (fun _ _ e => by simp [Value.ownBlock] at e)
        have hTA := hTc.fr hfA'
        obtain ⟨L, cL, eL, hrow, hLl, _, _⟩ := own_some hrA (by simp)
        cases eL
        refine hK.out _ _ (.inr hTA) ?_
        clear hK K
        (try simp only [Act.put, List.setIfInBounds_toArray, List.set_cons_zero, List.set_cons_succ])
        refine wpAnyG_ready (rs := [27]) (by kernel_rfl) (by simp) ?_
        refine AllG.cons (o := _) rfl (fun K hK => ?_) AllG.nil
        (try simp only [List.getElem_toArray, List.getElem_cons_zero, List.getElem_cons_succ])
        go_simp
        refine hK.out _ _ (.inr hTA) ?_
        clear hK K
        (try simp only [Act.put, List.setIfInBounds_toArray, List.set_cons_zero, List.set_cons_succ, List.getElem_toArray, List.getElem_cons_zero, List.getElem_cons_succ])
        refine wpAnyG_ready (rs := [28]) (by kernel_rfl) (by simp) ?_
        refine AllG.cons (o := _) rfl (fun K hK => ?_) AllG.nil
        (try simp only [List.getElem_toArray, List.getElem_cons_zero, List.getElem_cons_succ])
        go_simp
        refine hK.out _ _ (.inr hTA) ?_
        clear hK K
        (try simp only [Act.put, List.setIfInBounds_toArray, List.set_cons_zero, List.set_cons_succ, List.getElem_toArray, List.getElem_cons_zero, List.getElem_cons_succ])
        refine wpAnyG_ready (rs := [29]) (by kernel_rfl) (by simp) ?_
        refine AllG.cons (o := _) rfl (fun K hK => ?_) AllG.nil
        (try simp only [List.getElem_toArray, List.getElem_cons_zero, List.getElem_cons_succ])
        obtain ⟨s0, s1, s3, sf⟩ := hTA
        go_simp
        refine hK.out _ _ (.inl (by kernel_rfl)) ?_
        clear hK K
        (try simp only [Act.put, List.setIfInBounds_toArray, List.set_cons_zero, List.set_cons_succ, List.getElem_toArray, List.getElem_cons_zero, List.getElem_cons_succ])
        refine wpAnyG_done (by kernel_rfl) ?_ _
        have hFA := hFc.trans hfA'
        have hbA := hb.fr hFA (fun x => x)
        have hne : L ≠ g := fun e => row_type' hrA hbA (by decide) (by simp [Value.ownBlock, e])
        have hcL : wA.cell? ⟨L, 0, none⟩ = some (.pointer (some ⟨w320.heap.size, 0, none⟩)) := by have := hrow 0 _ rfl; simpa using this
        have hgl := Nat.lt_of_lt_of_le hg hF320.size
        have hset := Fr.set1 wA g 3 (.slice (some ⟨L, 0, none⟩) (0 + 1) cA)
        have hBA := (hBc.fr hfA' (fun x => x)).fr hset (fun e => absurd e (by show w320.heap.size ≠ g; omega))
        have hFo2 := (Fo0.frF hFp hfA').fr hset (fun b e => by subst e; exact ⟨_, _, hbA, by decide⟩)
        have hcL2 := hset.cell hcL hne
        have hbs := hbA.set 3 (.slice (some ⟨L, 0, none⟩) (0 + 1) cA)
        have hFz := (Fr.weak (S := (· = g)) hFA).trans hset
        clear hT320 hTb hTc hfA hfA' hB hC hBc hfb hfc hFb hFo hFp
        go_wp2_with fail
        rw [rounds_succ]
        go_wp2
        go_ret
        exact ⟨⟨_, rfl⟩, ⟨m, d, L, cA, _, _, _, f, hbs, hcL2, hBA, hFo2⟩, hFz⟩
      exact AllG.nil
    exact AllG.nil
  refine AllG.cons (o := _) rfl (fun K hK => ?_) ?_
  · (try simp only [List.getElem_toArray, List.getElem_cons_zero, List.getElem_cons_succ])
    go_simp
    refine letW (hT.fr ((Fr.refl _ _).alloc _)) ((Fr.refl _ _).alloc _) ?_
    intro w122 hT122 hf
    have hF122 := Fr.trans hF0 hf
    refine hK.out _ _ (.inr hT122) ?_
    clear hK K hf
    (try simp only [Act.put, List.setIfInBounds_toArray, List.set_cons_zero, List.set_cons_succ, List.getElem_toArray, List.getElem_cons_zero, List.getElem_cons_succ])
    refine wpAnyG_ready (rs := [20, 21]) (by kernel_rfl) (by simp) ?_
    refine AllG.cons (o := _) rfl (fun K hK => ?_) ?_
    · (try simp only [List.getElem_toArray, List.getElem_cons_zero, List.getElem_cons_succ])
      go_simp
      refine (tour_New0 _).mono ?_
      rintro e w220 ⟨f, rfl, hfl, hF, hf⟩
      go_wp2_with fail
      have hT220 := TatS.fr hT122 hf
      have hF220 := Fr.trans hF122 hf
      refine hK.out _ _ (.inr hT220) ?_
      clear hK K hf
      (try simp only [Act.put, List.setIfInBounds_toArray, List.set_cons_zero, List.set_cons_succ, List.getElem_toArray, List.getElem_cons_zero, List.getElem_cons_succ])
      refine wpAnyG_ready (rs := [21]) (by kernel_rfl) (by simp) ?_
      refine AllG.cons (o := _) rfl (fun K hK => ?_) ?_
      · (try simp only [List.getElem_toArray, List.getElem_cons_zero, List.getElem_cons_succ])
        go_simp
        refine letW (hT220.fr ((Fr.refl _ _).alloc _)) ((Fr.refl _ _).alloc _) ?_
        intro w321 hT321 hf
        have hF321 := Fr.trans hF220 hf
        have hF := Fo0.frF hF hf
        refine hK.out _ _ (.inr hT321) ?_
        clear hK K hf
        (try simp only [Act.put, List.setIfInBounds_toArray, List.set_cons_zero, List.set_cons_succ, List.getElem_toArray, List.getElem_cons_zero, List.getElem_cons_succ])
        refine wpAnyG_ready (rs := [23]) (by kernel_rfl) (by simp) ?_
        refine AllG.cons (o := _) rfl (fun K hK => ?_) AllG.nil
        (try simp only [List.getElem_toArray, List.getElem_cons_zero, List.getElem_cons_succ])
        go_simp
        refine hK.out _ _ (.inr hT321) ?_
        clear hK K
        (try simp only [Act.put, List.setIfInBounds_toArray, List.set_cons_zero, List.set_cons_succ, List.getElem_toArray, List.getElem_cons_zero, List.getElem_cons_succ])
        refine wpAnyG_ready (rs := [24]) (by kernel_rfl) (by simp) ?_
        refine AllG.cons (o := _) rfl (fun K hK => ?_) AllG.nil
        (try simp only [List.getElem_toArray, List.getElem_cons_zero, List.getElem_cons_succ])
        go_simp
        refine letB hT321 ?_
        intro wb hTb hfb hB
        have hFb := Fr.trans hF321 hfb
        have hFo := Fo0.frF hF hfb
        refine hK.out _ _ (.inr hTb) ?_
        clear hK K
        (try simp only [Act.put, List.setIfInBounds_toArray, List.set_cons_zero, List.set_cons_succ, List.getElem_toArray, List.getElem_cons_zero, List.getElem_cons_succ])
        refine wpAnyG_ready (rs := [25]) (by kernel_rfl) (by simp) ?_
        refine AllG.cons (o := _) rfl (fun K hK => ?_) AllG.nil
        (try simp only [List.getElem_toArray, List.getElem_cons_zero, List.getElem_cons_succ])
        go_simp
        refine letB hTb ?_
        intro wc hTc hfc hC
        have hFc := Fr.trans hFb hfc
        have hFp := Fo0.frF hFo hfc
        have hBc := hB.fr hfc (fun x => x)
        refine hK.out _ _ (.inr hTc) ?_
        clear hK K
        (try simp only [Act.put, List.setIfInBounds_toArray, List.set_cons_zero, List.set_cons_succ, List.getElem_toArray, List.getElem_cons_zero, List.getElem_cons_succ])
        refine wpAnyG_ready (rs := [26]) (by kernel_rfl) (by simp) ?_
        refine AllG.cons (o := _) rfl (fun K hK => ?_) AllG.nil
        (try simp only [List.getElem_toArray, List.getElem_cons_zero, List.getElem_cons_succ])
        rw [if_pos (by rfl)]
        refine wp_app el_level _ _ (by rfl) (base := 0) (by rfl) (own_nil _ _ _ _) (news := [Value.pointer _]) (by rfl) (by rfl) (slAt_blk hC) (by simp [Value.oneCell']) (by unfold maxLen; omega) (by omega) (Nat.zero_le _) ?_
        intro AA cA wA hrA hfA _
        have hfA' : Fr (fun _ => False) wc wA := hfA.mono (fun _ _ e => by simp [Value.ownBlock] at e)
        have hTA := hTc.fr hfA'
        obtain ⟨L, cL, eL, hrow, hLl, _, _⟩ := own_some hrA (by simp)
        cases eL
        refine hK.out _ _ (.inr hTA) ?_
        clear hK K
        (try simp only [Act.put, List.setIfInBounds_toArray, List.set_cons_zero, List.set_cons_succ])
        refine wpAnyG_ready (rs := [27]) (by kernel_rfl) (by simp) ?_
        refine AllG.cons (o := _) rfl (fun K hK => ?_) AllG.nil
        (try simp only [List.getElem_toArray, List.getElem_cons_zero, List.getElem_cons_succ])
        go_simp
        refine hK.out _ _ (.inr hTA) ?_
        clear hK K
        (try simp only [Act.put, List.setIfInBounds_toArray, List.set_cons_zero, List.set_cons_succ, List.getElem_toArray, List.getElem_cons_zero, List.getElem_cons_succ])
        refine wpAnyG_ready (rs := [28]) (by kernel_rfl) (by simp) ?_
        refine AllG.cons (o := _) rfl (fun K hK => ?_) AllG.nil
        (try simp only [List.getElem_toArray, List.getElem_cons_zero, List.getElem_cons_succ])
        go_simp
        refine hK.out _ _ (.inr hTA) ?_
        clear hK K
        (try simp only [Act.put, List.setIfInBounds_toArray, List.set_cons_zero, List.set_cons_succ, List.getElem_toArray, List.getElem_cons_zero, List.getElem_cons_succ])
        refine wpAnyG_ready (rs := [29]) (by kernel_rfl) (by simp) ?_
        refine AllG.cons (o := _) rfl (fun K hK => ?_) AllG.nil
        (try simp only [List.getElem_toArray, List.getElem_cons_zero, List.getElem_cons_succ])
        obtain ⟨s0, s1, s3, sf⟩ := hTA
        go_simp
        refine hK.out _ _ (.inl (by kernel_rfl)) ?_
        clear hK K
        (try simp only [Act.put, List.setIfInBounds_toArray, List.set_cons_zero, List.set_cons_succ, List.getElem_toArray, List.getElem_cons_zero, List.getElem_cons_succ])
        refine wpAnyG_done (by kernel_rfl) ?_ _
        have hFA := hFc.trans hfA'
        have hbA := hb.fr hFA (fun x => x)
        have hne : L ≠ g := fun e => row_type' hrA hbA (by decide) (by simp [Value.ownBlock, e])
        have hcL : wA.cell? ⟨L, 0, none⟩ = some (.pointer (some ⟨w321.heap.size, 0, none⟩)) := by have := hrow 0 _ rfl; simpa using this
        have hgl := Nat.lt_of_lt_of_le hg hF321.size
        have hset := Fr.set1 wA g 3 (.slice (some ⟨L, 0, none⟩) (0 + 1) cA)
        have hBA := (hBc.fr hfA' (fun x => x)).fr hset (fun e => absurd e (by show w321.heap.size ≠ g; omega))
        have hFo2 := (Fo0.frF hFp hfA').fr hset (fun b e => by subst e; exact ⟨_, _, hbA, by decide⟩)
        have hcL2 := hset.cell hcL hne
        have hbs := hbA.set 3 (.slice (some ⟨L, 0, none⟩) (0 + 1) cA)
        have hFz := (Fr.weak (S := (· = g)) hFA).trans hset
        clear hT321 hTb hTc hfA hfA' hB hC hBc hfb hfc hFb hFo hFp
        go_wp2_with fail
        rw [rounds_succ]
        go_wp2
        go_ret
        exact ⟨⟨_, rfl⟩, ⟨m, d, L, cA, _, _, _, f, hbs, hcL2, hBA, hFo2⟩, hFz⟩
      exact AllG.nil
    refine AllG.cons (o := _) rfl (fun K hK => ?_) ?_
    · (try simp only [List.getElem_toArray, List.getElem_cons_zero, List.getElem_cons_succ])
      go_simp
      refine letW (hT122.fr ((Fr.refl _ _).alloc _)) ((Fr.refl _ _).alloc _) ?_
      intro w221 hT221 hf
      have hF221 := Fr.trans hF122 hf
      refine hK.out _ _ (.inr hT221) ?_
      clear hK K hf
      (try simp only [Act.put, List.setIfInBounds_toArray, List.set_cons_zero, List.set_cons_succ, List.getElem_toArray, List.getElem_cons_zero, List.getElem_cons_succ])
      refine wpAnyG_ready (rs := [20]) (by kernel_rfl) (by simp) ?_
      refine AllG.cons (o := _) rfl (fun K hK => ?_) ?_
      · (try simp only [List.getElem_toArray, List.getElem_cons_zero, List.getElem_cons_succ])
        go_simp
        refine (tour_New0 _).mono ?_
        rintro e w320 ⟨f, rfl, hfl, hF, hf⟩
        go_wp2_with fail
        have hT320 := TatS.fr hT221 hf
        have hF320 := Fr.trans hF221 hf
        refine hK.out _ _ (.inr hT320) ?_
        clear hK K hf
        (try simp only [Act.put, List.setIfInBounds_toArray, List.set_cons_zero, List.set_cons_succ, List.getElem_toArray, List.getElem_cons_zero, List.getElem_cons_succ])
        refine wpAnyG_ready (rs := [23]) (by kernel_rfl) (by simp) ?_
        refine AllG.cons (o := _) rfl (fun K hK => ?_) AllG.nil
        (try simp only [List.getElem_toArray, List.getElem_cons_zero, List.getElem_cons_succ])
        go_simp
        refine hK.out _ _ (.inr hT320) ?_
        clear hK K
        (try simp only [Act.put, List.setIfInBounds_toArray, List.set_cons_zero, List.set_cons_succ, List.getElem_toArray, List.getElem_cons_zero, List.getElem_cons_succ])
        refine wpAnyG_ready (rs := [24]) (by kernel_rfl) (by simp) ?_
        refine AllG.cons (o := _) rfl (fun K hK => ?_) AllG.nil
        (try simp only [List.getElem_toArray, List.getElem_cons_zero, List.getElem_cons_succ])
        go_simp
        refine letB hT320 ?_
        intro wb hTb hfb hB
        have hFb := Fr.trans hF320 hfb
        have hFo := Fo0.frF hF hfb
        refine hK.out _ _ (.inr hTb) ?_
        clear hK K
        (try simp only [Act.put, List.setIfInBounds_toArray, List.set_cons_zero, List.set_cons_succ, List.getElem_toArray, List.getElem_cons_zero, List.getElem_cons_succ])
        refine wpAnyG_ready (rs := [25]) (by kernel_rfl) (by simp) ?_
        refine AllG.cons (o := _) rfl (fun K hK => ?_) AllG.nil
        (try simp only [List.getElem_toArray, List.getElem_cons_zero, List.getElem_cons_succ])
        go_simp
        refine letB hTb ?_
        intro wc hTc hfc hC
        have hFc := Fr.trans hFb hfc
        have hFp := Fo0.frF hFo hfc
        have hBc := hB.fr hfc (fun x => x)
        refine hK.out _ _ (.inr hTc) ?_
        clear hK K
        (try simp only [Act.put, List.setIfInBounds_toArray, List.set_cons_zero, List.set_cons_succ, List.getElem_toArray, List.getElem_cons_zero, List.getElem_cons_succ])
        refine wpAnyG_ready (rs := [26]) (by kernel_rfl) (by simp) ?_
        refine AllG.cons (o := _) rfl (fun K hK => ?_) AllG.nil
        (try simp only [List.getElem_toArray, List.getElem_cons_zero, List.getElem_cons_succ])
        rw [if_pos (by rfl)]
        refine wp_app el_level _ _ (by rfl) (base := 0) (by rfl) (own_nil _ _ _ _) (news := [Value.pointer _]) (by rfl) (by rfl) (slAt_blk hC) (by simp [Value.oneCell']) (by unfold maxLen; omega) (by omega) (Nat.zero_le _) ?_
        intro AA cA wA hrA hfA _
        have hfA' : Fr (fun _ => False) wc wA := hfA.mono (fun _ _ e => by simp [Value.ownBlock] at e)
        have hTA := hTc.fr hfA'
        obtain ⟨L, cL, eL, hrow, hLl, _, _⟩ := own_some hrA (by simp)
        cases eL
        refine hK.out _ _ (.inr hTA) ?_
        clear hK K
        (try simp only [Act.put, List.setIfInBounds_toArray, List.set_cons_zero, List.set_cons_succ])
        refine wpAnyG_ready (rs := [27]) (by kernel_rfl) (by simp) ?_
        refine AllG.cons (o := _) rfl (fun K hK => ?_) AllG.nil
        (try simp only [List.getElem_toArray, List.getElem_cons_zero, List.getElem_cons_succ])
        go_simp
        refine hK.out _ _ (.inr hTA) ?_
        clear hK K
        (try simp only [Act.put, List.setIfInBounds_toArray, List.set_cons_zero, List.set_cons_succ, List.getElem_toArray, List.getElem_cons_zero, List.getElem_cons_succ])
        refine wpAnyG_ready (rs := [28]) (by kernel_rfl) (by simp) ?_
        refine AllG.cons (o := _) rfl (fun K hK => ?_) AllG.nil
        (try simp only [List.getElem_toArray, List.getElem_cons_zero, List.getElem_cons_succ])
        go_simp
        refine hK.out _ _ (.inr hTA) ?_
        clear hK K
        (try simp only [Act.put, List.setIfInBounds_toArray, List.set_cons_zero, List.set_cons_succ, List.getElem_toArray, List.getElem_cons_zero, List.getElem_cons_succ])
        refine wpAnyG_ready (rs := [29]) (by kernel_rfl) (by simp) ?_
        refine AllG.cons (o := _) rfl (fun K hK => ?_) AllG.nil
        (try simp only [List.getElem_toArray, List.getElem_cons_zero, List.getElem_cons_succ])
        obtain ⟨s0, s1, s3, sf⟩ := hTA
        go_simp
        refine hK.out _ _ (.inl (by kernel_rfl)) ?_
        clear hK K
        (try simp only [Act.put, List.setIfInBounds_toArray, List.set_cons_zero, List.set_cons_succ, List.getElem_toArray, List.getElem_cons_zero, List.getElem_cons_succ])
        refine wpAnyG_done (by kernel_rfl) ?_ _
        have hFA := hFc.trans hfA'
        have hbA := hb.fr hFA (fun x => x)
        have hne : L ≠ g := fun e => row_type' hrA hbA (by decide) (by simp [Value.ownBlock, e])
        have hcL : wA.cell? ⟨L, 0, none⟩ = some (.pointer (some ⟨w320.heap.size, 0, none⟩)) := by have := hrow 0 _ rfl; simpa using this
        have hgl := Nat.lt_of_lt_of_le hg hF320.size
        have hset := Fr.set1 wA g 3 (.slice (some ⟨L, 0, none⟩) (0 + 1) cA)
        have hBA := (hBc.fr hfA' (fun x => x)).fr hset (fun e => absurd e (by show w320.heap.size ≠ g; omega))
        have hFo2 := (Fo0.frF hFp hfA').fr hset (fun b e => by subst e; exact ⟨_, _, hbA, by decide⟩)
        have hcL2 := hset.cell hcL hne
        have hbs := hbA.set 3 (.slice (some ⟨L, 0, none⟩) (0 + 1) cA)
        have hFz := (Fr.weak (S := (· = g)) hFA).trans hset
        clear hT320 hTb hTc hfA hfA' hB hC hBc hfb hfc hFb hFo hFp
        go_wp2_with fail
        rw [rounds_succ]
        go_wp2
        go_ret
        exact ⟨⟨_, rfl⟩, ⟨m, d, L, cA, _, _, _, f, hbs, hcL2, hBA, hFo2⟩, hFz⟩
      exact AllG.nil
    exact AllG.nil
  exact AllG.nil

end Go.Proofs.YteagpbcmfnopfaaGreatDoor
