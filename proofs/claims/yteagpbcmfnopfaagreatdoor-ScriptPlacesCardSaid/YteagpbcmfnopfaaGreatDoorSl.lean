/- Slices that are read, bytes. -/
import Derived.Test.YteagpbcmfnopfaaGreatDoorRows
import Derived.Test.YteagpbcmfnopfaaGreatDoorBase
import Derived.Lib.AppendStr
import Derived.Lib.Builder
import Derived.Maps.AppendAt
namespace Go.Proofs.YteagpbcmfnopfaaGreatDoor
open Go.RowKit

/-- Cells of memory, in a row. -/
def RowAt (w : World) (b off : Nat) (xs : List Value) : Prop := ∀ j u, xs[j]? = some u → w.cell? ⟨b, off + j, none⟩ = some u

theorem RowAt.fr {S : Nat → Prop} {w w' : World} {b off : Nat} {xs : List Value} (h : RowAt w b off xs) (f : Fr S w w') (hb : ¬ S b) : RowAt w' b off xs := fun j u hj => f.cell (h j u hj) hb

/-- A slice that is read: its cells, in a row, if there are any. -/
def SlAt (w : World) (A : Option Addr) (xs : List Value) : Prop := xs = [] ∨ ∃ b off, A = some ⟨b, off, none⟩ ∧ RowAt w b off xs ∧ b < w.heap.size

theorem SlAt.fr {S : Nat → Prop} {w w' : World} {A : Option Addr} {xs : List Value} (h : SlAt w A xs) (f : Fr S w w') (hs : ∀ b off, A = some ⟨b, off, none⟩ → ¬ S b) : SlAt w' A xs := by
  rcases h with h | ⟨b, off, e, hr, hb⟩
  · exact .inl h
  · exact .inr ⟨b, off, e, hr.fr f (hs b off e), Nat.lt_of_lt_of_le hb f.size⟩

theorem SlAt.frF {w w' : World} {A : Option Addr} {xs : List Value} (h : SlAt w A xs) (f : Fr (fun _ => False) w w') : SlAt w' A xs := h.fr f fun _ _ _ x => x

theorem SlAt.nil (w : World) (A : Option Addr) : SlAt w A [] := .inl rfl

theorem row_at {w : World} {b off : Nat} {xs : List Value} (h : RowAt w b off xs) : ∀ j u, xs[j]? = some u → w.cell? ((⟨b, off, none⟩ : Addr).add j) = some u := by
  intro j u hj
  have : ((⟨b, off, none⟩ : Addr).add j) = ⟨b, off + j, none⟩ := by unfold Addr.add; split <;> simp_all
  rw [this]
  exact h j u hj

/-- An owned row is read. -/
theorem own_slAt {w : World} {base n : Nat} {e : TypeId} {size : Nat} {v : Value} {xs : List Value} (h : w.ownsRow base e size v n xs) : ∃ A cap, v = .slice A n cap ∧ n ≤ cap ∧ SlAt w A xs ∧ (∀ k, v.ownBlock = some k ↔ ∃ off, A = some ⟨k, off, none⟩ ∧ k < w.heap.size) := by
  have hl := h.1
  rcases h.2 with ⟨rfl, rfl⟩ | ⟨g, cap, cur, rfl, hb, hg, hn, hc, hs, ht⟩
  · have : xs = [] := List.eq_nil_of_length_eq_zero (by simpa using hl)
    exact ⟨none, 0, rfl, Nat.le_refl _, .inl this, fun k => by simp [Value.ownBlock]⟩
  · have hgl := (Array.getElem?_eq_some_iff.1 hg).1
    refine ⟨_, cap, rfl, hn, .inr ⟨g, 0, rfl, fun j u hj => ?_, hgl⟩, fun k => ?_⟩
    · have := h.cells (g := g) rfl j u hj
      rwa [show ((⟨g, 0, none⟩ : Addr).add j) = ⟨g, 0 + j, none⟩ from by unfold Addr.add; split <;> simp_all] at this
    · simp only [Value.ownBlock, Option.some.injEq, Addr.mk.injEq]
      constructor
      · rintro rfl; exact ⟨0, ⟨rfl, rfl, trivial⟩, hgl⟩
      · rintro ⟨off, ⟨e, _⟩, _⟩; exact e

def bC (l : List UInt8) : List Value := l.map fun b => .int .u8 b.toNat

theorem bC_length (l : List UInt8) : (bC l).length = l.length := by simp [bC]
theorem bC_append (l m : List UInt8) : bC (l ++ m) = bC l ++ bC m := by simp [bC]
theorem bC_at {l : List UInt8} {j : Nat} {b : UInt8} (h : l[j]? = some b) : (bC l)[j]? = some (.int .u8 b.toNat) := by simp [bC, h]
theorem bC_byteCells (l : List UInt8) : Lib.byteCells l = bC l := rfl

theorem SlAt.byte {w : World} {A : Option Addr} {l : List UInt8} (h : SlAt w A (bC l)) {j : Nat} {b : UInt8} (hj : l[j]? = some b) : ∃ g off, A = some ⟨g, off, none⟩ ∧ w.cell? ⟨g, off + j, none⟩ = some (.int .u8 b.toNat) := by
  rcases h with h | ⟨g, off, e, hr, _⟩
  · have : l = [] := by simpa [bC] using h
    subst this
    simp at hj
  · exact ⟨g, off, e, hr j _ (bC_at hj)⟩

theorem info_u8 : (Tryz.prog.info? 5).map (fun i => (i.zero, i.size, i.bytes)) = some (some (.int .u8 0), 1, 1) := by kernel_rfl

set_option maxRecDepth 100000 in
theorem slices_Clone_bytes (l : List UInt8) (A : Option Addr) (cap : Nat) (w : World) (hl : l.length ≤ 140737488355328) (h : SlAt w A (bC l)) :
    Calls Tryz.prog 134 #[.slice A l.length cap] w fun e w' => ∃ v, e = .returned v ∧ w'.ownsRow w.heap.size 5 1 v l.length (bC l) ∧ Fr (fun _ => False) w w' := by
  obtain ⟨i0, hi, hz0, hz1, hz2⟩ := info_parts info_u8
  cases A with
  | none =>
    have : l = [] := by
      rcases h with h | ⟨b, off, e, _⟩
      · simpa [bC] using h
      · cases e
    subst this
    show Calls Tryz.prog 134 #[.slice none 0 cap] w _
    have hnil := Lib.run_eql_slice_nil (P := Tryz.prog) w 22 5 none 0 cap 0 0 Tryz.underlying22
    go_enter Tryz.func134, Tryz.ntmps134
    go_wp2
    go_ret
    exact ⟨_, rfl, ⟨rfl, .inl ⟨rfl, rfl⟩⟩, Fr.refl _ _⟩
  | some ad =>
    have hnil := Lib.run_eql_slice_nil (P := Tryz.prog) w 22 5 (some ad) l.length cap 0 0 Tryz.underlying22
    have hnews : ∀ j u, (bC l)[j]? = some u → (w.alloc (.cells #[] 5)).cell? (ad.add j) = some u := by
      rcases h with h | ⟨b, off, e, hr, hb⟩
      · rw [h]; intro j u hj; simp at hj
      · cases e
        exact row_at (hr.fr (((Fr.refl (fun _ => False) w).alloc _)) (fun x => x))
    go_enter Tryz.func134, Tryz.ntmps134
    go_wp2_with (first
      | (at_builtin; refine wpList_append_own_at _ rfl _ _ 22 rfl w.heap.size 5 i0 _ 1 1 Tryz.underlying22 hi hz0 hz1 hz2 rfl (by decide) (.slice (some ⟨w.heap.size, 0, none⟩) 0 0) 0 [] rfl ⟨rfl, .inr ⟨w.heap.size, 0, #[], rfl, Nat.le_refl _, Blk.new w _ _, Nat.le_refl _, by unfold maxLen; omega, rfl, rfl⟩⟩ ad l.length cap (bC l) rfl (by rw [bC_length]; omega) hnews (by intro u hu; simp [bC] at hu; obtain ⟨x, _, rfl⟩ := hu; rfl) (by unfold maxLen; omega) (by omega) (by rw [alloc_size]; omega) ?_))
    intro v' w2 hr2 hg _ _
    have hfr : Fr (fun _ => False) w w2 := ((Fr.refl (fun k => k = w.heap.size) w).alloc _ |>.then (Fr.of_grown hg (S := fun k => k = w.heap.size) (fun k hk => .inl (by simpa [Value.ownBlock] using hk.symm))) (fun n hn e => e)).mono (fun n hn e => by omega)
    go_wp2
    go_ret
    exact ⟨_, rfl, hr2, hfr⟩

end Go.Proofs.YteagpbcmfnopfaaGreatDoor
