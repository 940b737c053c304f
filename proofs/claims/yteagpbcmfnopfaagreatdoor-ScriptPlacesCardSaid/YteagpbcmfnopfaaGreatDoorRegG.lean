/- A region that draws its order: what holds of the world until one operation z has come up (a store into a cell that the region loads). -/
import Derived.OrdersHeld
import Derived.StillTail
import Derived.Deep.RegionHeld
namespace Go.Proofs.YteagpbcmfnopfaaGreatDoor
open Go

section
variable {P : Program} {ops : Array Oper} {Q : Exit → Act → World → Prop} {md : Region.Mode} {T : World → Prop} {z : Nat}

/-- Whatever order is picked from here on; behind each operation T holds, until z has come up. -/
def wpAnyG (P : Program) (md : Region.Mode) (ops : Array Oper) (Q : Exit → Act → World → Prop) (T : World → Prop) (z : Nat) : Nat → Array Bool → Act → World → Prop
  | 0, listed, a, w => Region.ready md ops listed = [] ∧ Q .normal a w
  | fuel + 1, listed, a, w =>
    (Region.ready md ops listed = [] → Q .normal a w) ∧
    ∀ i ∈ Region.ready md ops listed, wpOp P ops Q i (fun a' w' => ((listed.setIfInBounds i true).getD z false = true ∨ T w') ∧ wpAnyG P md ops Q T z fuel (listed.setIfInBounds i true) a' w') a w

theorem wpAny_of_G : ∀ (fuel : Nat) (listed : Array Bool) (a : Act) (w : World), wpAnyG P md ops Q T z fuel listed a w → wpAny P md ops Q fuel listed a w
  | 0, _, _, _, h => h
  | fuel + 1, _, _, _, h => ⟨h.1, fun i hi => wpOp_mono (fun a' w' h' => wpAny_of_G fuel _ a' w' h'.2) (h.2 i hi)⟩

/-- Each of l waits for the next one, the last one for i. -/
def waitChain (md : Region.Mode) (ops : Array Oper) (i : Nat) : List Nat → Bool
  | [] => true
  | [c] => Region.waitsFor md ops c i
  | c :: d :: l => Region.waitsFor md ops c d && waitChain md ops i (d :: l)

def unlisted (listed : Array Bool) (l : List Nat) : Bool := l.all fun c => listed.getD c true == false

theorem not_ready_of_waits {listed : Array Bool} {c d : Nat} (h : Region.waitsFor md ops c d = true) (hd : listed.getD d true = false) : c ∉ Region.ready md ops listed := by
  intro hc
  obtain ⟨_, o, ho, hall⟩ := mem_ready.1 hc
  obtain ⟨oj, hj, e, he, hb, hed⟩ := Region.waitsFor_spec h
  have : oj = o := Option.some.inj (hj.symm.trans ho)
  subst this
  have h1 := hall e he hb
  rw [hed] at h1
  have : d < listed.size := by
    rcases Nat.lt_or_ge d listed.size with h' | h'
    · exact h'
    · simp [Array.getElem?_eq_none h'] at h1
  simp [this] at hd h1
  rw [hd] at h1
  cases h1

theorem chain_not_ready {listed : Array Bool} {i : Nat} (hi : listed.getD i true = false) : ∀ (l : List Nat), waitChain md ops i l = true → unlisted listed l = true → ∀ c ∈ l, c ∉ Region.ready md ops listed
  | [], _, _, c, hc => by cases hc
  | [c], h, _, d, hd => by
    obtain rfl : d = c := by simpa using hd
    exact not_ready_of_waits (by simpa [waitChain] using h) hi
  | c :: d :: l, h, hu, x, hx => by
    simp only [waitChain, Bool.and_eq_true] at h
    simp only [unlisted, List.all_cons, Bool.and_eq_true, beq_iff_eq] at hu
    rcases List.mem_cons.1 hx with rfl | hx
    · exact not_ready_of_waits h.1 hu.2.1
    · exact chain_not_ready hi (d :: l) h.2 (by simp only [unlisted, List.all_cons, Bool.and_eq_true, beq_iff_eq]; exact hu.2) x hx

theorem unlisted_set {listed : Array Bool} {l : List Nat} {j : Nat} (h : unlisted listed l = true) (hj : j ∉ l) : unlisted (listed.setIfInBounds j true) l = true := by
  simp only [unlisted, List.all_eq_true, beq_iff_eq] at *
  intro c hc
  have hne : j ≠ c := fun e => hj (by rw [e]; exact hc)
  rw [getD_set_ne true hne]
  exact h c hc

theorem wpAnyG_first {i : Nat} {oi : Oper} {v : Value} {l : List Nat} (hi : ops[i]? = some oi) (hsel : ∀ (j : Nat) (o : Oper) cs b, ops[j]? = some o → o.op ≠ .select cs b)
    (hQ : ∀ c a w, Q (.panic c) (a.put oi.dst v) w → Q (.panic c) a w) (hl : waitChain md ops i (z :: l) = true) :
    ∀ (fuel : Nat) (listed : Array Bool) (a : Act) (w : World),
      (∀ j oj, ops[j]? = some oj → j ≠ i → listed.getD j true = false → (∀ e ∈ oj.after, Region.binds md e = true → e.on ≠ i) → oi.apart ops oj = true) →
      i ∈ Region.ready md ops listed → unlisted listed (z :: l) = true → YieldsIf P ops T oi v a → T w →
      wpAnyG P md ops Q T z fuel (listed.setIfInBounds i true) (a.put oi.dst v) w → wpAnyG P md ops Q T z (fuel + 1) listed a w := by
  intro fuel
  induction fuel with
  | zero =>
    intro listed a w _ hr hu hy hS H
    refine ⟨fun h => (by rw [h] at hr; cases hr), fun j hj => ?_⟩
    by_cases hji : j = i
    · subst hji; exact hy.wpOp hi hS ⟨.inr hS, H⟩
    · have := ready_mono hj hji
      rw [H.1] at this
      cases this
  | succ fuel ih =>
    intro listed a w hfree hr hu hy hS H
    refine ⟨fun h => (by rw [h] at hr; cases hr), fun j hj => ?_⟩
    by_cases hji : j = i
    · subst hji; exact hy.wpOp hi hS ⟨.inr hS, H⟩
    · have h1 := H.2 j (ready_mono hj hji)
      obtain ⟨hjun, oj, hoj, hall⟩ := mem_ready.1 hj
      have h0i := (mem_ready.1 hr).1
      have hnot : ∀ e ∈ oj.after, Region.binds md e = true → e.on ≠ i := fun e he hb heq => by
        have h1 := hall e he hb
        rw [heq] at h1
        rcases Nat.lt_or_ge i listed.size with h' | h'
        · simp [h'] at h0i h1; rw [h0i] at h1; cases h1
        · simp [Array.getElem?_eq_none h'] at h1
      have hjl : j ∉ z :: l := fun hm => chain_not_ready h0i (z :: l) hl hu j hm hj
      have h2 := wpOp_putIf hoj (hfree j oj hoj hji hjun hnot) (fun cs b => hsel i oi cs b hi) (fun cs b => hsel j oj cs b hoj) hQ hy h1
      have hfree' : ∀ k ok, ops[k]? = some ok → k ≠ i → (listed.setIfInBounds j true).getD k true = false →
          (∀ e ∈ ok.after, Region.binds md e = true → e.on ≠ i) → oi.apart ops ok = true := fun k ok hk hki hun hno => by
        refine hfree k ok hk hki ?_ hno
        by_cases hjk : j = k
        · subst hjk; exact hjun
        · rw [getD_set_ne true hjk] at hun; exact hun
      have hzu : ∀ (x : Nat), x ≠ z → (listed.setIfInBounds x true).getD z false = false := fun x hx => by
        rw [getD_set_ne false hx]
        simp only [unlisted, List.all_cons, Bool.and_eq_true, beq_iff_eq] at hu
        have := hu.1
        rcases Nat.lt_or_ge z listed.size with h' | h'
        · simp [h'] at this ⊢; exact this
        · simp [Array.getElem?_eq_none h'] at this
      have hjz : j ≠ z := fun e => hjl (by rw [e]; exact List.mem_cons_self)
      have hiz : i ≠ z := fun e => by
        -- z waits for something that is not listed; i is ready
        exact chain_not_ready h0i (z :: l) hl hu z List.mem_cons_self (by rw [← e]; exact hr)
      refine wpOp_mono (fun a' w' h3 => ?_) h2
      have hT : T w' := by
        rcases h3.2.1 with hh | hh
        · exfalso
          have e1 : ((listed.setIfInBounds i true).setIfInBounds j true).getD z false = false := by
            rw [getD_set_ne false hjz, hzu i hiz]
          rw [e1] at hh
          cases hh
        · exact hh
      refine ⟨.inr hT, ih (listed.setIfInBounds j true) a' w' hfree' (ready_mono hr (Ne.symm hji)) (unlisted_set hu hjl) h3.1 hT ?_⟩
      rw [Array.setIfInBounds_comm _ _ hji]
      exact h3.2.2

theorem wpAnyG_take {i : Nat} {oi : Oper} {v : Value} (l : List Nat) {fuel : Nat} {listed : Array Bool} {a : Act} {w : World} (hi : ops[i]? = some oi)
    (hs : Region.noSelect ops = true) (hf : Region.free md ops listed i = true) (hr : (Region.ready md ops listed).contains i = true) (hl : waitChain md ops i (z :: l) = true) (hu : unlisted listed (z :: l) = true)
    (hQ : ∀ c a w, Q (.panic c) (a.put oi.dst v) w → Q (.panic c) a w) (hS : T w) (hy : YieldsIf P ops T oi v a)
    (h : wpAnyG P md ops Q T z fuel (listed.setIfInBounds i true) (a.put oi.dst v) w) : wpAnyG P md ops Q T z (fuel + 1) listed a w :=
  wpAnyG_first hi (Region.noSelect_spec hs) hQ hl fuel listed a w (Region.free_spec hi hf) (by simpa using hr) hu hy hS h

/-- Each of rs comes up next. -/
def AllG (P : Program) (md : Region.Mode) (ops : Array Oper) (Q : Exit → Act → World → Prop) (T : World → Prop) (z fuel : Nat) (listed : Array Bool) (a : Act) (w : World) (rs : List Nat) : Prop :=
  ∀ i ∈ rs, wpOp P ops Q i (fun a' w' => ((listed.setIfInBounds i true).getD z false = true ∨ T w') ∧ wpAnyG P md ops Q T z fuel (listed.setIfInBounds i true) a' w') a w

theorem AllG.nil {fuel : Nat} {listed : Array Bool} {a : Act} {w : World} : AllG P md ops Q T z fuel listed a w [] := fun _ h => by cases h

theorem AllG.cons {fuel : Nat} {listed : Array Bool} {a : Act} {w : World} {i : Nat} {o : Oper} {rs : List Nat} (ho : ops[i]? = some o)
    (h : ∀ K' : Act → World → Prop, Shut (∀ a w, ((listed.setIfInBounds i true).getD z false = true ∨ T w) → wpAnyG P md ops Q T z fuel (listed.setIfInBounds i true) a w → K' a w) → if Region.wanted o (yielded ops a.tmps) = true then Oper.wp P o a w K' Q else K' (a.put o.dst undef) w)
    (hs : AllG P md ops Q T z fuel listed a w rs) : AllG P md ops Q T z fuel listed a w (i :: rs) := fun j hj => by
  rcases List.mem_cons.1 hj with rfl | hj
  · exact wpOp_step ho (fun K' hK => h K' (fun a w hS hW => hK a w ⟨hS, hW⟩))
  · exact hs j hj

theorem wpAnyG_ready {rs : List Nat} {fuel : Nat} {listed : Array Bool} {a : Act} {w : World} (hr : Region.ready md ops listed = rs) (hne : rs ≠ [])
    (h : AllG P md ops Q T z fuel listed a w rs) : wpAnyG P md ops Q T z (fuel + 1) listed a w :=
  ⟨fun h0 => absurd (hr ▸ h0) hne, by subst hr; exact h⟩

theorem wpAnyG_done {listed : Array Bool} {a : Act} {w : World} (hr : Region.ready md ops listed = []) (h : Q .normal a w) :
    ∀ fuel, wpAnyG P md ops Q T z fuel listed a w
  | 0 => ⟨hr, h⟩
  | _ + 1 => ⟨fun _ => h, by rw [hr]; simp⟩

/-- The beginning. -/
theorem wp_region_G {id : Nat} {a : Act} {w : World} (T : World → Prop) (z : Nat) (hm : P.follows .mixedOrders = true)
    (h : wpAnyG P .any ops Q T z ops.size (Array.replicate ops.size false) a w.drew) : (Code.region id ops true).wp P Q a w :=
  wp_region_any hm (wpAny_of_G _ _ _ _ h)

theorem wp_region_G2 {id : Nat} {a : Act} {w : World} (T : World → Prop) (z : Nat) (hm : P.follows .mixedOrders = true)
    (h : ∀ w0, w0 = w.drew → wpAnyG P .any ops Q T z ops.size (Array.replicate ops.size false) a w0) : (Code.region id ops true).wp P Q a w :=
  wp_region_G T z hm (h _ rfl)

end
end Go.Proofs.YteagpbcmfnopfaaGreatDoor
