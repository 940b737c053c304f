/- Package script, walked: the words and their kinds, a command laid bare. -/
import Derived.Test.YteagpbcmfnopfaaGreatDoorRows
import Derived.Test.YteagpbcmfnopfaaGreatDoorMap
import Derived.Test.YteagpbcmfnopfaaGreatDoorScan
import Derived.Test.YteagpbcmfnopfaaGreatDoorScriptSpec
namespace Go.Proofs.YteagpbcmfnopfaaGreatDoor
open Go.RowKit

abbrev eI : Int → Value := fun n => Value.int .i64 n
abbrev eS : ByteArray → Value := fun s => Value.string s

theorem K_int : KeyEnc Tryz.prog 3 eI := key_int Tryz.underlying3

theorem RangeIs.left {κ ν : Type} [DecidableEq κ] {enc : κ → Value} {encV : ν → Value} {w : World} {r b : Nat} {l : List (κ × ν)} {todo : List κ} (h : RangeIs w r b enc encV l todo) : w.rangeLeft b r = todo.length := by
  obtain ⟨es, clock, since, seen, c0, hb, _, hr, _, _, _, ht⟩ := h
  simp only [World.rangeLeft, hb, hr, leftOf]
  have := congrArg List.length ht
  simp only [List.length_map] at this
  rw [this, ← Array.length_toList, Array.toList_filter]

set_option maxRecDepth 100000 in
theorem script_words (w : World) :
    Calls Tryz.prog 47 #[] w fun e w' => ∃ b, e = .returned (.map (some b)) ∧ w.heap.size ≤ b ∧ MapIs w' b eI eS wordsL ∧ Fr (fun _ => False) w w' := by
  have hmm := @run_makeMap Tryz.prog
  have h0 := MapIs.new w eI eS
  go_enter Tryz.func47, Tryz.ntmps47
  go_wp2_with (first
    | (refine wpList_insert _ rfl _ _ _ _ rfl K_int Tryz.underlying104 _ _ rfl h0 1 wSeek rfl rfl ?_; intro w1 h1 f1 _)
    | (refine wpList_insert _ rfl _ _ _ _ rfl K_int Tryz.underlying104 _ _ rfl h1 2 wConnected rfl rfl ?_; intro w2 h2 f2 _)
    | (refine wpList_insert _ rfl _ _ _ _ rfl K_int Tryz.underlying104 _ _ rfl h2 3 wSize rfl rfl ?_; intro w3 h3 f3 _)
    | (refine wpList_insert _ rfl _ _ _ _ rfl K_int Tryz.underlying104 _ _ rfl h3 4 wCount rfl rfl ?_; intro w4 h4 f4 _)
    | (refine wpList_insert _ rfl _ _ _ _ rfl K_int Tryz.underlying104 _ _ rfl h4 5 wHas rfl rfl ?_; intro w5 h5 f5 _)
    | (refine wpList_insert _ rfl _ _ _ _ rfl K_int Tryz.underlying104 _ _ rfl h5 6 wDegree rfl rfl ?_; intro w6 h6 f6 _))
  go_ret
  refine ⟨_, rfl, Nat.le_refl _, h6, ?_⟩
  have g0 : Fr (· = w.heap.size) w (w.alloc (.map #[] 0)) := (Fr.refl _ _).alloc _
  exact ((((((g0.trans f1).trans f2).trans f3).trans f4).trans f5).trans f6).mono fun n hn e => by omega

theorem kindOf_none {s : ByteArray} (h : ∀ p ∈ wordsL, p.2 ≠ s) : kindOf s = 0 := by
  unfold kindOf
  have a1 : s ≠ wSeek := fun e => h (1, wSeek) (by simp [wordsL]) e.symm
  have a2 : s ≠ wConnected := fun e => h (2, wConnected) (by simp [wordsL]) e.symm
  have a3 : s ≠ wSize := fun e => h (3, wSize) (by simp [wordsL]) e.symm
  have a4 : s ≠ wCount := fun e => h (4, wCount) (by simp [wordsL]) e.symm
  have a5 : s ≠ wHas := fun e => h (5, wHas) (by simp [wordsL]) e.symm
  have a6 : s ≠ wDegree := fun e => h (6, wDegree) (by simp [wordsL]) e.symm
  simp [a1, a2, a3, a4, a5, a6]

theorem kindOf_word {k : Int} {s : ByteArray} (h : aget k wordsL = some s) : kindOf s = k := by
  have := mem_of_aget h
  simp only [wordsL, List.mem_cons, Prod.mk.injEq, List.not_mem_nil, or_false] at this
  rcases this with ⟨rfl, rfl⟩ | ⟨rfl, rfl⟩ | ⟨rfl, rfl⟩ | ⟨rfl, rfl⟩ | ⟨rfl, rfl⟩ | ⟨rfl, rfl⟩ <;> decide

theorem beq_bytes (a b : ByteArray) : (a.toList == b.toList) = decide (a = b) := by
  rw [ByteArray.toList_eq, ByteArray.toList_eq]
  by_cases h : a = b
  · subst h; simp
  · have : a.data.toList ≠ b.data.toList := fun e => h (by
      cases a; cases b
      simp only at e
      rw [Array.toList_inj] at e
      rw [e])
    rw [decide_eq_false h]
    exact beq_eq_false_iff_ne.2 this

set_option maxHeartbeats 400000 in
set_option maxRecDepth 100000 in
theorem script_kind (s : ByteArray) (w : World) :
    Calls Tryz.prog 33 #[.string s] w fun e w' => e = .returned (.int .i64 (kindOf s)) ∧ Fr (fun _ => False) w w' := by
  go_enter Tryz.func33, Tryz.ntmps33
  go_wp2_with fail
  refine (script_words _).mono ?_
  rintro e w1 ⟨b, rfl, hb1, hm, hf⟩
  go_wp2_with (refine wpList_range _ rfl _ _ rfl Tryz.underlying104 _ _ rfl hm ?_; intro w2 hr2 hf2 hs2; go_frame)
  have hW := hf.trans hf2
  go_loopw [7] (fun _ wr => ∃ todo, RangeIs wr w1.heap.size b eI eS wordsL todo ∧ Fr (fun _ => False) w wr ∧ ∀ k v, aget k wordsL = some v → k ∉ todo → v ≠ s) (fun _ wr => wr.rangeLeft b w1.heap.size)
  case atStart => exact ⟨_, hr2, hW, fun k v hk hn => by
    have := mem_of_aget hk
    exact absurd (List.mem_map.2 ⟨_, this, rfl⟩) hn⟩
  case round =>
    obtain ⟨todo, hr, hfw, hno⟩ := hrel
    have HN := Lib.hid hno
    clear hno
    have hlt : w.heap.size ≤ w1.heap.size := hf.size
    go_wp2_with (refine wpList_next _ rfl _ rfl K_int w1.heap.size b _ _ rfl hr ?_ ?_)
    · intro h0
      go_wp2
      go_ret
      refine ⟨ret_int ?_, hfw⟩
      rw [kindOf_none]
      intro p hp
      refine HN.out p.1 p.2 (aget_of_mem (by decide) hp) (by rw [h0]; simp)
    · intro k v w3 hk hv hr3 hf3 hs3 hen
      have hfw3 : Fr (fun _ => False) w w3 := hfw.then hf3 fun n hn e => by omega
      by_cases hvs : v = s
      · have hb : (v.toList == s.toList) = true := by rw [beq_bytes]; simpa using hvs
        have HV := Lib.hid hvs
        clear hvs
        go_wp2
        go_ret
        refine ⟨ret_int ?_, hfw3⟩
        rw [← HV.out, kindOf_word hv]
      · have hb : (v.toList == s.toList) = false := by rw [beq_bytes]; simpa using hvs
        have HV := Lib.hid hvs
        clear hvs
        go_wp2
        go_roundw
        case rel => exact ⟨_, hr3, hfw3, fun k' v' hk' hn => by
          by_cases e : k' = k
          · subst e
            rw [hv] at hk'
            cases hk'
            exact HV.out
          · exact HN.out k' v' hk' fun hm => hn ((List.mem_erase_of_ne e).2 hm)⟩
        case measure => rw [hr3.left, hr.left, List.length_erase_of_mem hk]; have := List.length_pos_of_mem hk; omega

end Go.Proofs.YteagpbcmfnopfaaGreatDoor
