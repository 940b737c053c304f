/- Maps as lists of pairs, in the order in which the keys came: look up, store, delete, range. Nothing here is about one program. -/
import Derived.Test.YteagpbcmfnopfaaGreatDoorBase
import Derived.Maps.RangeRun
import Derived.Maps.RangeWalk
namespace Go.Proofs.YteagpbcmfnopfaaGreatDoor
open Go.RowKit
open Go.ChangeMaps (setBlock)

section lists
variable {κ ν : Type} [DecidableEq κ]

def aget (k : κ) (l : List (κ × ν)) : Option ν := (l.find? fun p => p.1 = k).map (·.2)
def aput (k : κ) (v : ν) (l : List (κ × ν)) : List (κ × ν) := if (aget k l).isSome then l.map fun p => if p.1 = k then (k, v) else p else l ++ [(k, v)]
def adel (k : κ) (l : List (κ × ν)) : List (κ × ν) := l.filter fun p => p.1 ≠ k

theorem aget_nil (k : κ) : aget k ([] : List (κ × ν)) = none := rfl
theorem aget_cons (k : κ) (p : κ × ν) (l : List (κ × ν)) : aget k (p :: l) = if p.1 = k then some p.2 else aget k l := by
  unfold aget
  by_cases h : p.1 = k <;> simp [h]

theorem aget_none {k : κ} {l : List (κ × ν)} : aget k l = none ↔ k ∉ l.map (·.1) := by
  induction l with
  | nil => simp [aget_nil]
  | cons p l ih =>
    rw [aget_cons]
    by_cases h : p.1 = k
    · simp [h]
    · simp [h, Ne.symm h, ih]

theorem aget_map (k k' : κ) (v : ν) (l : List (κ × ν)) : aget k' (l.map fun p => if p.1 = k then (k, v) else p) = if k' = k then (aget k l).map (fun _ => v) else aget k' l := by
  induction l with
  | nil => by_cases e : k' = k <;> simp [aget_nil, e]
  | cons p l ih =>
    rw [List.map_cons, aget_cons, ih, aget_cons, aget_cons]
    by_cases h : p.1 = k
    · by_cases e : k' = k
      · subst e; simp [h]
      · simp [h, e, Ne.symm e]
    · by_cases e : k' = k
      · subst e; simp [h]
      · simp [h, e]

theorem aget_append (k : κ) (l m : List (κ × ν)) : aget k (l ++ m) = (aget k l).or (aget k m) := by
  induction l with
  | nil => simp [aget_nil]
  | cons p l ih =>
    rw [List.cons_append, aget_cons, aget_cons, ih]
    by_cases h : p.1 = k <;> simp [h]

theorem aget_aput (k k' : κ) (v : ν) (l : List (κ × ν)) : aget k' (aput k v l) = if k' = k then some v else aget k' l := by
  unfold aput
  split
  · rename_i h
    rw [aget_map]
    by_cases e : k' = k
    · subst e
      obtain ⟨x, hx⟩ := Option.isSome_iff_exists.1 h
      simp [hx]
    · simp [e]
  · rename_i h
    rw [aget_append, aget_cons, aget_nil]
    by_cases e : k' = k
    · subst e
      have : aget k' l = none := by simpa using h
      simp [this]
    · simp [e, Ne.symm e]

theorem aget_adel (k k' : κ) (l : List (κ × ν)) : aget k' (adel k l) = if k' = k then none else aget k' l := by
  unfold adel
  induction l with
  | nil => simp [aget_nil]
  | cons p l ih =>
    by_cases h : p.1 = k
    · rw [List.filter_cons_of_neg (by simpa using h), ih, aget_cons]
      by_cases e : k' = k
      · simp [e]
      · simp [e, h, Ne.symm e]
    · rw [List.filter_cons_of_pos (by simpa using h), aget_cons, ih, aget_cons]
      by_cases e : k' = k
      · subst e; simp [h]
      · simp [e]

theorem keys_aput (k : κ) (v : ν) (l : List (κ × ν)) : (aput k v l).map (·.1) = if k ∈ l.map (·.1) then l.map (·.1) else l.map (·.1) ++ [k] := by
  unfold aput
  by_cases h : k ∈ l.map (·.1)
  · have hs : (aget k l).isSome = true := by
      cases e : aget k l with
      | none => exact absurd h (aget_none.1 e)
      | some x => rfl
    rw [if_pos hs, if_pos h, List.map_map]
    apply List.map_congr_left
    intro p _
    by_cases e : p.1 = k <;> simp [e]
  · have hs : ¬ (aget k l).isSome = true := by rw [aget_none.2 h]; simp
    rw [if_neg hs, if_neg h]
    simp

theorem nodup_aput (k : κ) (v : ν) {l : List (κ × ν)} (h : (l.map (·.1)).Nodup) : ((aput k v l).map (·.1)).Nodup := by
  rw [keys_aput]
  split
  · exact h
  · rename_i hk
    rw [List.nodup_append]
    exact ⟨h, by simp, by rintro a ha b hb e; simp at hb; subst hb; subst e; exact hk ha⟩

theorem keys_adel (k : κ) (l : List (κ × ν)) : (adel k l).map (·.1) = (l.map (·.1)).filter (· ≠ k) := by
  unfold adel
  rw [List.filter_map]
  rfl

theorem nodup_adel (k : κ) {l : List (κ × ν)} (h : (l.map (·.1)).Nodup) : ((adel k l).map (·.1)).Nodup := by
  rw [keys_adel]
  exact h.filter _

theorem mem_of_aget {k : κ} {v : ν} {l : List (κ × ν)} (h : aget k l = some v) : (k, v) ∈ l := by
  induction l with
  | nil => simp [aget_nil] at h
  | cons p l ih =>
    rw [aget_cons] at h
    by_cases e : p.1 = k
    · simp [e] at h
      subst e; subst h
      simp
    · simp [e] at h
      exact List.mem_cons_of_mem _ (ih h)

theorem aget_of_mem {k : κ} {v : ν} {l : List (κ × ν)} (hn : (l.map (·.1)).Nodup) (h : (k, v) ∈ l) : aget k l = some v := by
  induction l with
  | nil => simp at h
  | cons p l ih =>
    rw [aget_cons]
    simp only [List.map_cons, List.nodup_cons] at hn
    rcases List.mem_cons.1 h with e | e
    · subst e; simp
    · have : p.1 ≠ k := fun e' => hn.1 (e' ▸ List.mem_map.2 ⟨_, e, rfl⟩)
      simp [this, ih hn.2 e]

end lists

section maps
variable {P : Program} {κ ν : Type} {enc : κ → Value} {encV : ν → Value} {kt : TypeId}

/-- Entries are these pairs. -/
structure EntIs (enc : κ → Value) (encV : ν → Value) (es : List MapEntry) (clock : Nat) (l : List (κ × ν)) : Prop where
  keys : es.map (·.key) = l.map fun p => enc p.1
  vals : es.map (·.val) = l.map fun p => encV p.2
  nodup : (l.map (·.1)).Nodup
  born : (es.map (·.born)).Pairwise (· < ·)
  old : ∀ e ∈ es, e.born < clock

/-- Block b is a map of these pairs. -/
def MapIs (w : World) (b : Nat) (enc : κ → Value) (encV : ν → Value) (l : List (κ × ν)) : Prop :=
  ∃ es clock, w.heap[b]? = some (.map es clock) ∧ EntIs enc encV es.toList clock l

theorem MapIs.lt {w : World} {b : Nat} {l : List (κ × ν)} (h : MapIs w b enc encV l) : b < w.heap.size := by
  obtain ⟨es, clock, hb, _⟩ := h
  exact (Array.getElem?_eq_some_iff.1 hb).1

theorem MapIs.fr {S : Nat → Prop} {w w' : World} {b : Nat} {l : List (κ × ν)} (h : MapIs w b enc encV l) (f : Fr S w w') (hb : ¬ S b) : MapIs w' b enc encV l := by
  have hl := h.lt
  obtain ⟨es, clock, hb', he⟩ := h
  exact ⟨es, clock, by rw [f.block b hl hb]; exact hb', he⟩

theorem MapIs.nodup {w : World} {b : Nat} {l : List (κ × ν)} (h : MapIs w b enc encV l) : (l.map (·.1)).Nodup := by
  obtain ⟨es, clock, hb, he⟩ := h
  exact he.nodup

theorem MapIs.new (w : World) (enc : κ → Value) (encV : ν → Value) : MapIs (w.alloc (.map #[] 0)) w.heap.size enc encV [] :=
  ⟨#[], 0, by show (w.heap.push _)[w.heap.size]? = _; simp, ⟨rfl, rfl, by simp, by simp, by simp⟩⟩

theorem MapIs.len {w : World} {b : Nat} {l : List (κ × ν)} (h : MapIs w b enc encV l) {mt e : TypeId} (ht : P.underlying mt = some (.map kt e)) (ty : TypeId) :
    (Builtin.len_ #[mt] ty #[.map (some b)]).run P w = .ok (.int .i64 l.length) w := by
  obtain ⟨es, clock, hb, he⟩ := h
  have hm0 : (#[mt] : Array TypeId)[0]? = some mt := rfl
  have ha0 : (#[Value.map (some b)] : Array Value)[0]? = some (.map (some b)) := rfl
  simp only [Builtin.len_, hm0, ha0, Sem.run_bind, run_underlying ht, Result.andThen, getObj, Sem.run, hb, Sem.run_pure, goInt]
  have : es.size = l.length := by have := congrArg List.length he.keys; simpa using this
  rw [this]

/-- A range over map b, by iterator r: these keys are still to come. -/
def RangeIs (w : World) (r b : Nat) (enc : κ → Value) (encV : ν → Value) (l : List (κ × ν)) (todo : List κ) : Prop :=
  ∃ es clock since seen c0, w.heap[b]? = some (.map es clock) ∧ EntIs enc encV es.toList clock l ∧ w.heap[r]? = some (.mapIter (some b) since seen c0) ∧ since ≤ c0 ∧ since ≤ clock ∧
    (∀ e ∈ es.toList, e.born < since) ∧ todo.map enc = (es.toList.filter fun e => !seen.contains e.born).map (·.key)

theorem RangeIs.map {w : World} {r b : Nat} {l : List (κ × ν)} {todo : List κ} (h : RangeIs w r b enc encV l todo) : MapIs w b enc encV l := by
  obtain ⟨es, clock, since, seen, c0, hb, he, _⟩ := h
  exact ⟨es, clock, hb, he⟩

theorem RangeIs.lt {w : World} {r b : Nat} {l : List (κ × ν)} {todo : List κ} (h : RangeIs w r b enc encV l todo) : r < w.heap.size := by
  obtain ⟨es, clock, since, seen, c0, _, _, hr, _⟩ := h
  exact (Array.getElem?_eq_some_iff.1 hr).1

theorem RangeIs.fr {S : Nat → Prop} {w w' : World} {r b : Nat} {l : List (κ × ν)} {todo : List κ} (h : RangeIs w r b enc encV l todo) (f : Fr S w w') (hb : ¬ S b) (hr : ¬ S r) : RangeIs w' r b enc encV l todo := by
  have h1 := h.map.lt
  have h2 := h.lt
  obtain ⟨es, clock, since, seen, c0, hb', he, hr', rest⟩ := h
  exact ⟨es, clock, since, seen, c0, by rw [f.block b h1 hb]; exact hb', he, by rw [f.block r h2 hr]; exact hr', rest⟩

theorem EntIs.keys_ne (hinj : ∀ a b : κ, enc a = enc b → a = b) {es : List MapEntry} {clock : Nat} {l : List (κ × ν)} (he : EntIs enc encV es clock l) : (es.map (·.key)).Pairwise (· ≠ ·) := by
  have h1 : es.map (·.key) = (l.map (·.1)).map enc := by rw [he.keys, List.map_map]; rfl
  rw [h1, List.pairwise_map]
  exact he.nodup.imp fun h e => h (hinj _ _ e)

/-- range m. -/
theorem MapIs.range {w : World} {b : Nat} {l : List (κ × ν)} (h : MapIs w b enc encV l) {mt e : TypeId} (ht : P.underlying mt = some (.map kt e)) :
    ∃ w', (Instr.range mt (.map (some b))).run P w = .ok (.pointer (some ⟨w.heap.size, 0, none⟩)) w' ∧ RangeIs w' w.heap.size b enc encV l (l.map (·.1)) ∧ Fr (fun _ => False) w w' ∧ w'.heap.size = w.heap.size + 1 := by
  have hl := h.lt
  obtain ⟨es, clock, hb, he⟩ := h
  refine ⟨_, run_range_map w mt kt e b es clock ht hb, ⟨es, clock, clock, #[], clock, ?_, he, ?_, Nat.le_refl _, Nat.le_refl _, he.old, ?_⟩, (Fr.refl _ _).alloc _, by show (w.heap.push _).size = _; simp⟩
  · show (w.heap.push _)[b]? = _
    rw [Array.getElem?_push_lt hl, ← Array.getElem?_eq_getElem hl]; exact hb
  · show (w.heap.push _)[w.heap.size]? = _
    simp
  · have : (es.toList.filter fun e => !(#[] : Array Nat).contains e.born) = es.toList := by rw [List.filter_eq_self]; intro x _; simp
    rw [this, he.keys, List.map_map]; rfl

section len
variable (w : World) {ops : Array Oper} {rest : List Oper} {o : Oper} {a : Act} {Q : Exit → Act → World → Prop}

theorem wpList_len (hg : o.guard = none) (m : Operand) (t : TypeId) (hop : o.op = Op.call { callee := Callee.builtin Builtin.len, args := #[m], argTypes := #[t] }) {e : TypeId} (ht : P.underlying t = some (.map kt e)) (b : Nat) (l : List (κ × ν))
    (hm : a.eval m = .map (some b)) (h : MapIs w b enc encV l) (hK : wpList P ops Q rest (a.put o.dst (.int .i64 l.length)) w) :
    wpList P ops Q (o :: rest) a w := by
  refine wpList_plain hg fun K' hK' => ?_
  have hrun := h.len ht o.type
  unfold Oper.wp
  simp [execOp, hop, resolve, invoke, builtin, hm, hrun, Result.andThen]
  exact hK' _ _ hK

theorem wpList_range (hg : o.guard = none) (m : Operand) (t : TypeId) (hop : o.op = Op.range t m) {e : TypeId} (ht : P.underlying t = some (.map kt e)) (b : Nat) (l : List (κ × ν))
    (hm : a.eval m = .map (some b)) (h : MapIs w b enc encV l)
    (hK : ∀ w', RangeIs w' w.heap.size b enc encV l (l.map (·.1)) → Fr (fun _ => False) w w' → w'.heap.size = w.heap.size + 1 → wpList P ops Q rest (a.put o.dst (.pointer (some ⟨w.heap.size, 0, none⟩))) w') :
    wpList P ops Q (o :: rest) a w := by
  refine wpList_plain hg fun K' hK' => ?_
  obtain ⟨w', hrun, r1, r2, r3⟩ := h.range ht
  unfold Oper.wp
  simp [execOp, hop, hm, hrun, Result.andThen]
  exact hK' _ _ (hK w' r1 r2 r3)

end len

variable [DecidableEq κ]

/-- Where a key stands among entries. -/
def posOf (k : κ) : List κ → List MapEntry → Nat → Option (Nat × Value)
  | a :: ks, e :: es, i => if k = a then some (i, e.val) else posOf k ks es (i + 1)
  | _, _, _ => none

/-- What a type of keys owes. -/
structure KeyEnc (P : Program) (kt : TypeId) (enc : κ → Value) : Prop where
  inj : ∀ a b, enc a = enc b → a = b
  check : ∀ (w : World) (b : Bool) (k : κ), (Instr.checkKey b 10000 kt (enc k)).run P w = .ok () w
  find : ∀ (w : World) (k : κ) (l : List MapEntry) (ks : List κ), l.map (·.key) = ks.map enc → (Instr.findKey kt (enc k) l).run P w = .ok (posOf k ks l 0) w
  bits : ∀ k, Instr.sameBits 10000 (enc k) (enc k) = true

theorem posOf_spec (k : κ) : ∀ (l : List (κ × ν)) (es : List MapEntry) (i : Nat), es.map (·.val) = l.map (fun p => encV p.2) →
    (aget k l = none ∧ posOf k (l.map (·.1)) es i = none) ∨ ∃ j v, aget k l = some v ∧ posOf k (l.map (·.1)) es i = some (i + j, encV v) ∧ (l.map (·.1))[j]? = some k := by
  intro l
  induction l with
  | nil => intro es i h; left; cases es <;> simp [posOf, aget_nil]
  | cons p l ih =>
    intro es i h
    cases es with
    | nil => simp at h
    | cons e es =>
      simp only [List.map_cons, List.cons.injEq] at h
      rw [aget_cons]
      simp only [List.map_cons, posOf]
      by_cases e1 : k = p.1
      · right
        subst e1
        exact ⟨0, p.2, by simp, by simp [h.1], by simp⟩
      · rw [if_neg (fun x => e1 x.symm), if_neg e1]
        rcases ih es (i + 1) h.2 with ⟨a, b⟩ | ⟨j, v, a, b, c⟩
        · exact .inl ⟨a, b⟩
        · exact .inr ⟨j + 1, v, a, by rw [b]; congr 2; omega, by simpa using c⟩

/-- m[k]. -/
theorem MapIs.look {w : World} {b : Nat} {l : List (κ × ν)} (h : MapIs w b enc encV l) (K : KeyEnc P kt enc) {mt e : TypeId} (ht : P.underlying mt = some (.map kt e)) {z : Value} (hz : (zeroValue e).run P w = .ok z w) (k : κ) (c : Bool) :
    (Instr.lookup mt (.map (some b)) (enc k) c).run P w = .ok (if c then .tuple #[(aget k l).elim z encV, .bool (aget k l).isSome] else (aget k l).elim z encV) w := by
  obtain ⟨es, clock, hb, he⟩ := h
  have hk : es.toList.map (·.key) = (l.map (·.1)).map enc := by rw [he.keys, List.map_map]; rfl
  have hf := K.find w k es.toList (l.map (·.1)) hk
  simp only [Instr.lookup, Sem.run_bind, run_underlying ht, Result.andThen, getObj, Sem.run, hb, K.check, Sem.run_pure, hf]
  rcases posOf_spec k l es.toList 0 he.vals with ⟨a, p⟩ | ⟨j, v, a, p, _⟩
  · rw [p]
    simp only [Sem.run_bind, Sem.run_pure, hz, Result.andThen, a]
    cases c <;> rfl
  · rw [p]
    simp only [Sem.run_bind, Sem.run_pure, Result.andThen, a]
    cases c <;> rfl

theorem MapIs.look_nil (K : KeyEnc P kt enc) {w : World} {mt e : TypeId} (ht : P.underlying mt = some (.map kt e)) {z : Value} (hz : (zeroValue e).run P w = .ok z w) (k : κ) (c : Bool) :
    (Instr.lookup mt (.map none) (enc k) c).run P w = .ok (if c then .tuple #[z, .bool false] else z) w := by
  have hf := K.find w k [] [] rfl
  simp only [Instr.lookup, Sem.run_bind, run_underlying ht, Result.andThen, Sem.run_pure, K.check]
  simp only [hf, posOf, Sem.run_bind, Sem.run_pure, hz, Result.andThen]

theorem fr_setBlock (w : World) (b : Nat) (o : Obj) : Fr (· = b) w (setBlock w b o) :=
  ⟨rfl, rfl, rfl, by simp [setBlock], fun k _ hn => by simp [setBlock, Ne.symm hn]⟩

theorem setBlock_at {w : World} {b : Nat} (h : b < w.heap.size) (o : Obj) : (setBlock w b o).heap[b]? = some o := by
  simp [setBlock, h]

theorem setBlock_size (w : World) (b : Nat) (o : Obj) : (setBlock w b o).heap.size = w.heap.size := by simp [setBlock]

theorem map_keys_put (k : κ) (v : ν) (encV : ν → Value) (enc : κ → Value) : ∀ (l : List (κ × ν)) (es : List MapEntry) (j : Nat), (l.map (·.1)).Nodup → (l.map (·.1))[j]? = some k →
    es.map (·.key) = l.map (fun p => enc p.1) → es.map (·.val) = l.map (fun p => encV p.2) →
    (es.modify j fun e => { e with key := enc k, val := encV v }).map (·.key) = (l.map fun p => if p.1 = k then (k, v) else p).map (fun p => enc p.1) ∧
    (es.modify j fun e => { e with key := enc k, val := encV v }).map (·.val) = (l.map fun p => if p.1 = k then (k, v) else p).map (fun p => encV p.2) ∧
    (es.modify j fun e => { e with key := enc k, val := encV v }).map (·.born) = es.map (·.born) := by
  intro l
  induction l with
  | nil => intro es j _ h; simp at h
  | cons p l ih =>
    intro es j hn hj h1 h2
    cases es with
    | nil => simp at h1
    | cons e es =>
      simp only [List.map_cons, List.cons.injEq, List.nodup_cons] at h1 h2 hn
      cases j with
      | zero =>
        have hp : p.1 = k := by simpa using hj
        have hrest : (l.map fun p => if p.1 = k then (k, v) else p) = l := by
          conv => rhs; rw [← List.map_id l]
          apply List.map_congr_left
          intro q hq
          have : q.1 ≠ k := fun e => hn.1 (hp ▸ e ▸ List.mem_map.2 ⟨q, hq, rfl⟩)
          simp [this]
        rw [List.map_cons, if_pos hp, hrest]
        simp [List.modify_cons, h1.2, h2.2]
      | succ j =>
        have hj' : (l.map (·.1))[j]? = some k := by simpa using hj
        have hp : p.1 ≠ k := fun e => hn.1 (e ▸ List.mem_of_getElem? hj')
        obtain ⟨a, b, c⟩ := ih es j hn.2 hj' h1.2 h2.2
        rw [List.map_cons, if_neg hp]
        simp [a, b, c, h1.1, h2.1]

/-- m[k] = v. -/
theorem MapIs.put {w : World} {b : Nat} {l : List (κ × ν)} (h : MapIs w b enc encV l) (K : KeyEnc P kt enc) {mt e : TypeId} (ht : P.underlying mt = some (.map kt e)) (k : κ) (v : ν) :
    ∃ w', (Instr.mapUpdate mt (.map (some b)) (enc k) (encV v)).run P w = .ok () w' ∧ MapIs w' b enc encV (aput k v l) ∧ Fr (· = b) w w' ∧ w'.heap.size = w.heap.size := by
  have hl := h.lt
  obtain ⟨es, clock, hb, he⟩ := h
  have hk : es.toList.map (·.key) = (l.map (·.1)).map enc := by rw [he.keys, List.map_map]; rfl
  have hf := K.find w k es.toList (l.map (·.1)) hk
  simp only [Instr.mapUpdate, Sem.run_bind, run_underlying ht, Result.andThen, getObj, Sem.run, hb, K.check, hf]
  rcases posOf_spec k l es.toList 0 he.vals with ⟨a, p⟩ | ⟨j, x, a, p, hj⟩
  · rw [p]
    simp only [setObj, Sem.run, hb]
    refine ⟨_, rfl, ⟨_, _, setBlock_at hl _, ?_⟩, fr_setBlock w b _, setBlock_size w b _⟩
    have hput : aput k v l = l ++ [(k, v)] := by unfold aput; rw [a]; rfl
    refine ⟨?_, ?_, nodup_aput k v he.nodup, ?_, ?_⟩
    · rw [hput]; simp [he.keys]
    · rw [hput]; simp [he.vals]
    · rw [Array.toList_push, List.map_append, List.pairwise_append]
      refine ⟨he.born, by simp, ?_⟩
      intro x hx y hy
      obtain ⟨z, hz, rfl⟩ := List.mem_map.1 hx
      simp at hy
      subst hy
      exact he.old z hz
    · intro e' he'
      rw [Array.toList_push] at he'
      rcases List.mem_append.1 he' with h' | h'
      · have := he.old e' h'; omega
      · simp at h'; subst h'; simp
  · rw [p]
    have hkey : ((es[0 + j]?).map (·.key)).getD (enc k) = enc k := by
      have : (es.toList.map (·.key))[j]? = some (enc k) := by rw [hk, List.getElem?_map, hj]; rfl
      rw [List.getElem?_map, Array.getElem?_toList] at this
      rw [Nat.zero_add, this]
      rfl
    simp only [Sem.run_bind, Instr.keyThatStays, hkey, K.bits, if_true, Sem.run_pure, Result.andThen, setObj, Sem.run, hb]
    refine ⟨_, rfl, ⟨_, _, setBlock_at hl _, ?_⟩, fr_setBlock w b _, setBlock_size w b _⟩
    have hput : aput k v l = l.map fun p => if p.1 = k then (k, v) else p := by unfold aput; rw [a]; rfl
    obtain ⟨q1, q2, q3⟩ := map_keys_put k v encV enc l es.toList j he.nodup hj he.keys he.vals
    have hmod : (es.modify (0 + j) fun e => { e with key := enc k, val := encV v }).toList = es.toList.modify j fun e => { e with key := enc k, val := encV v } := by
      rw [Nat.zero_add, Array.toList_modify]
    refine ⟨?_, ?_, nodup_aput k v he.nodup, ?_, ?_⟩
    · rw [hput, hmod, q1]
    · rw [hput, hmod, q2]
    · rw [hmod, q3]; exact he.born
    · rw [hmod]
      intro e' he'
      have : e'.born ∈ (es.toList.modify j fun e => { e with key := enc k, val := encV v }).map (·.born) := List.mem_map.2 ⟨e', he', rfl⟩
      rw [q3] at this
      obtain ⟨z, hz, hzb⟩ := List.mem_map.1 this
      rw [← hzb]
      exact he.old z hz

theorem eraseIdx_keys (k : κ) (enc : κ → Value) (encV : ν → Value) : ∀ (l : List (κ × ν)) (es : List MapEntry) (j : Nat), (l.map (·.1)).Nodup → (l.map (·.1))[j]? = some k →
    es.map (·.key) = l.map (fun p => enc p.1) → es.map (·.val) = l.map (fun p => encV p.2) →
    (es.eraseIdx j).map (·.key) = (adel k l).map (fun p => enc p.1) ∧ (es.eraseIdx j).map (·.val) = (adel k l).map (fun p => encV p.2) := by
  intro l
  induction l with
  | nil => intro es j _ h; simp at h
  | cons p l ih =>
    intro es j hn hj h1 h2
    cases es with
    | nil => simp at h1
    | cons e es =>
      simp only [List.map_cons, List.cons.injEq, List.nodup_cons] at h1 h2 hn
      cases j with
      | zero =>
        have hp : p.1 = k := by simpa using hj
        have hrest : adel k (p :: l) = l := by
          unfold adel
          rw [List.filter_cons_of_neg (by simpa using hp), List.filter_eq_self]
          intro q hq
          have : q.1 ≠ k := fun e => hn.1 (hp ▸ e ▸ List.mem_map.2 ⟨q, hq, rfl⟩)
          simpa using this
        rw [hrest]
        simp [h1.2, h2.2]
      | succ j =>
        have hj' : (l.map (·.1))[j]? = some k := by simpa using hj
        have hp : p.1 ≠ k := fun e => hn.1 (e ▸ List.mem_of_getElem? hj')
        obtain ⟨a, b⟩ := ih es j hn.2 hj' h1.2 h2.2
        have hrest : adel k (p :: l) = p :: adel k l := by
          unfold adel
          rw [List.filter_cons_of_pos (by simpa using hp)]
        rw [hrest]
        simp [a, b, h1.1, h2.1]

theorem adel_none {k : κ} {l : List (κ × ν)} (h : aget k l = none) : adel k l = l := by
  unfold adel
  rw [List.filter_eq_self]
  intro q hq
  have := aget_none.1 h
  have : q.1 ≠ k := fun e => this (e ▸ List.mem_map.2 ⟨q, hq, rfl⟩)
  simpa using this

theorem eraseIdx_born : ∀ (es : List MapEntry), (es.map (·.born)).Pairwise (· < ·) → ∀ (j : Nat) (hj : j < es.length), es.eraseIdx j = es.filter (fun x => x.born != (es[j]'hj).born) := by
  intro es
  induction es with
  | nil => intro _ j hj; simp at hj
  | cons e es ih =>
    intro hp j hj
    simp only [List.map_cons, List.pairwise_cons] at hp
    cases j with
    | zero =>
      simp only [List.eraseIdx_zero, List.tail_cons, List.getElem_cons_zero]
      rw [List.filter_cons_of_neg (by simp)]
      symm
      rw [List.filter_eq_self]
      intro x hx
      have := hp.1 _ (List.mem_map.2 ⟨x, hx, rfl⟩)
      simp; omega
    | succ j =>
      simp only [List.eraseIdx_cons_succ, List.getElem_cons_succ]
      have hj' : j < es.length := by simpa using hj
      have := hp.1 _ (List.mem_map.2 ⟨es[j]'hj', List.getElem_mem hj', rfl⟩)
      rw [List.filter_cons_of_pos (by simp; omega), ih hp.2 j hj']

/-- delete(m, k). -/
theorem MapIs.del {w : World} {b : Nat} {l : List (κ × ν)} (h : MapIs w b enc encV l) (K : KeyEnc P kt enc) {mt e : TypeId} (ht : P.underlying mt = some (.map kt e)) (k : κ) (t2 ty : TypeId) :
    ∃ w', (Builtin.delete_ #[mt, t2] ty #[.map (some b), enc k]).run P w = .ok (.tuple #[]) w' ∧ MapIs w' b enc encV (adel k l) ∧ Fr (· = b) w w' ∧ w'.heap.size = w.heap.size ∧
      ∃ es clock es', w.heap[b]? = some (.map es clock) ∧ w'.heap[b]? = some (.map es' clock) ∧ ∃ bo, es'.toList = es.toList.filter (fun x => x.born != bo) ∧ ∀ x ∈ es.toList, x.born = bo → x.key = enc k := by
  have hl := h.lt
  obtain ⟨es, clock, hb, he⟩ := h
  have hk : es.toList.map (·.key) = (l.map (·.1)).map enc := by rw [he.keys, List.map_map]; rfl
  have hf := K.find w k es.toList (l.map (·.1)) hk
  have hm0 : (#[mt, t2] : Array TypeId)[0]? = some mt := rfl
  have ha0 : (#[Value.map (some b), enc k] : Array Value)[0]? = some (.map (some b)) := rfl
  have ha1 : (#[Value.map (some b), enc k] : Array Value)[1]? = some (enc k) := rfl
  simp only [Builtin.delete_, hm0, ha0, ha1, Sem.run_bind, run_underlying ht, Result.andThen, getObj, Sem.run, hb, K.check, hf]
  rcases posOf_spec k l es.toList 0 he.vals with ⟨a, p⟩ | ⟨j, x, a, p, hj⟩
  · rw [p]
    refine ⟨_, by simp only [setObj, Sem.run_bind, Sem.run, hb]; rfl, ⟨_, _, setBlock_at hl _, by rw [adel_none a]; exact he⟩, fr_setBlock w b _, setBlock_size w b _, es, clock, es, rfl, setBlock_at hl _, ?_⟩
    refine ⟨clock, ?_, fun x hx e => absurd (he.old x hx) (by omega)⟩
    symm
    rw [List.filter_eq_self]
    intro x hx
    have := he.old x hx
    simp; omega
  · rw [p]
    obtain ⟨q1, q2⟩ := eraseIdx_keys k enc encV l es.toList j he.nodup hj he.keys he.vals
    have hers : (es.eraseIdxIfInBounds (0 + j)).toList = es.toList.eraseIdx j := by
      rw [Nat.zero_add]
      exact Array.toList_eraseIdxIfInBounds
    refine ⟨_, by simp only [setObj, Sem.run_bind, Sem.run, hb]; rfl, ⟨_, _, setBlock_at hl _, ?_⟩, fr_setBlock w b _, setBlock_size w b _, es, clock, _, rfl, setBlock_at hl _, ?_⟩
    · refine ⟨by rw [hers, q1], by rw [hers, q2], nodup_adel k he.nodup, ?_, ?_⟩
      · rw [hers]
        exact he.born.sublist ((List.eraseIdx_sublist _ _).map _)
      · intro e' he'
        rw [hers] at he'
        exact he.old e' (List.mem_of_mem_eraseIdx he')
    · have hjl : j < es.toList.length := by
        have h1 : j < (l.map (·.1)).length := (List.getElem?_eq_some_iff.1 hj).1
        have h2 : es.toList.length = l.length := by have := congrArg List.length he.keys; simpa using this
        rw [List.length_map] at h1
        omega
      refine ⟨(es.toList[j]'hjl).born, by rw [hers]; exact eraseIdx_born es.toList he.born j hjl, ?_⟩
      intro x hx e
      obtain ⟨i, hi, rfl⟩ := List.getElem_of_mem hx
      have hij : i = j := by
        rcases Nat.lt_trichotomy i j with h | h | h
        · have := List.pairwise_iff_getElem.1 he.born i j (by simpa using hi) (by simpa using hjl) h
          simp only [List.getElem_map] at this; omega
        · exact h
        · have := List.pairwise_iff_getElem.1 he.born j i (by simpa using hjl) (by simpa using hi) h
          simp only [List.getElem_map] at this; omega
      subst hij
      have : (es.toList.map (·.key))[i]? = some (enc k) := by rw [hk, List.getElem?_map, hj]; rfl
      rw [List.getElem?_map, List.getElem?_eq_getElem hi] at this
      simpa using this

theorem erase_todo (hinj : ∀ a b : κ, enc a = enc b → a = b) (e : MapEntry) (k : κ) (hk : e.key = enc k) : ∀ (U : List MapEntry) (todo : List κ), todo.map enc = U.map (·.key) → (U.map (·.born)).Pairwise (· < ·) → (U.map (·.key)).Pairwise (· ≠ ·) → e ∈ U →
    (todo.erase k).map enc = (U.filter fun x => x.born != e.born).map (·.key) := by
  intro U
  induction U with
  | nil => intro todo _ _ _ h; simp at h
  | cons u U ih =>
    intro todo ht hb hkk hm
    cases todo with
    | nil => simp at ht
    | cons t todo =>
      simp only [List.map_cons, List.cons.injEq, List.pairwise_cons] at ht hb hkk
      rcases List.mem_cons.1 hm with h | h
      · subst h
        have htk : t = k := hinj _ _ (ht.1.trans hk)
        subst htk
        rw [List.erase_cons_head, List.filter_cons_of_neg (by simp), ht.2]
        congr 1
        symm
        rw [List.filter_eq_self]
        intro x hx
        have := hb.1 _ (List.mem_map.2 ⟨x, hx, rfl⟩)
        simp; omega
      · have hne : u.born ≠ e.born := by have := hb.1 _ (List.mem_map.2 ⟨e, h, rfl⟩); omega
        have htk : t ≠ k := fun e' => by
          subst e'
          exact hkk.1 _ (List.mem_map.2 ⟨e, h, rfl⟩) (ht.1.symm.trans hk.symm)
        rw [List.erase_cons_tail (by simpa using htk), List.filter_cons_of_pos (by simpa using hne), List.map_cons, List.map_cons, ih todo ht.2 hb.2 hkk.2 h, ht.1]

/-- The step of a range. -/
theorem RangeIs.next {w : World} {r b : Nat} {l : List (κ × ν)} {todo : List κ} (h : RangeIs w r b enc encV l todo) (K : KeyEnc P kt enc) (ty : TypeId) :
    (todo = [] ∧ (Instr.next (.pointer (some ⟨r, 0, none⟩)) false ty).run P w = .ok (.tuple #[.bool false]) w) ∨
    ∃ k v w', k ∈ todo ∧ aget k l = some v ∧ (Instr.next (.pointer (some ⟨r, 0, none⟩)) false ty).run P w = .ok (.tuple #[.bool true, enc k, encV v]) w' ∧
      RangeIs w' r b enc encV l (todo.erase k) ∧ Fr (· = r) w w' ∧ w'.heap.size = w.heap.size ∧ (Instr.entry (.pointer (some ⟨r, 0, none⟩))).run P w' = .ok (.tuple #[enc k, encV v]) w' := by
  have hrl := h.lt
  obtain ⟨es, clock, since, seen, c0, hb, he, hr, hs1, hs2, hold, htodo⟩ := h
  rcases run_next_at (P := P) w ty r b since c0 seen es clock hr hb hold hs1 with ⟨h0, hrun⟩ | ⟨e, hel, w1, hw1, hrun⟩
  · left
    refine ⟨?_, hrun⟩
    have h0' : (es.toList.filter fun e => !seen.contains e.born) = [] := by
      have : (leftOf es seen).toList = [] := by
        have : (leftOf es seen) = #[] := Array.eq_empty_of_size_eq_zero h0
        rw [this]
      simpa [leftOf] using this
    rw [h0'] at htodo
    simpa using htodo
  · right
    have hmem : e ∈ es.toList.filter fun e => !seen.contains e.born := by simpa [leftOf] using hel
    have hes : e ∈ es.toList := (List.mem_filter.1 hmem).1
    obtain ⟨i, hi, hei⟩ := List.getElem_of_mem hes
    have hlen : es.toList.length = l.length := by have := congrArg List.length he.keys; simpa using this
    have hil : i < l.length := by omega
    have hkey : e.key = enc (l[i]'hil).1 := by
      have := congrArg (fun z => z[i]?) he.keys
      simp only [List.getElem?_map, List.getElem?_eq_getElem hi, List.getElem?_eq_getElem hil, hei] at this
      simpa using this
    have hval : e.val = encV (l[i]'hil).2 := by
      have := congrArg (fun z => z[i]?) he.vals
      simp only [List.getElem?_map, List.getElem?_eq_getElem hi, List.getElem?_eq_getElem hil, hei] at this
      simpa using this
    have hktodo : (l[i]'hil).1 ∈ todo := by
      have : enc (l[i]'hil).1 ∈ todo.map enc := by rw [htodo, ← hkey]; exact List.mem_map.2 ⟨e, hmem, rfl⟩
      obtain ⟨q, hq, e'⟩ := List.mem_map.1 this
      rw [← K.inj _ _ e']; exact hq
    have hsize1 : w1.heap = w.heap := by rcases hw1 with rfl | rfl <;> rfl
    have hfr1 : Fr (· = r) w w1 := by
      rcases hw1 with rfl | rfl
      · exact Fr.refl _ _
      · exact (Fr.refl _ _).drew
    have hbr : b ≠ r := fun e' => by rw [e', hr] at hb; cases hb
    have hb1 : (setBlock w1 r (.mapIter (some b) since (seen.push e.born) clock)).heap[b]? = some (.map es clock) := by
      rw [(fr_setBlock w1 r _).block b (by rw [hsize1]; exact (Array.getElem?_eq_some_iff.1 hb).1) hbr, hsize1]; exact hb
    have hr1 : (setBlock w1 r (.mapIter (some b) since (seen.push e.born) clock)).heap[r]? = some (.mapIter (some b) since (seen.push e.born) clock) := setBlock_at (by rw [hsize1]; exact hrl) _
    refine ⟨(l[i]'hil).1, (l[i]'hil).2, _, hktodo, aget_of_mem he.nodup (List.getElem_mem hil), by rw [hrun, hkey, hval], ⟨es, clock, since, seen.push e.born, clock, hb1, he, hr1, hs2, hs2, hold, ?_⟩,
      hfr1.trans (fr_setBlock w1 r _), by rw [setBlock_size, hsize1], ?_⟩
    · have hf : (es.toList.filter fun x => !(seen.push e.born).contains x.born) = (es.toList.filter fun x => !seen.contains x.born).filter (fun x => x.born != e.born) := by
        rw [List.filter_filter]
        apply List.filter_congr
        intro x _
        rw [Array.contains_push]
        simp only [bne]
        cases seen.contains x.born <;> cases (x.born == e.born) <;> rfl
      rw [hf]
      have hsub : (es.toList.filter fun e => !seen.contains e.born).Sublist es.toList := List.filter_sublist
      exact erase_todo K.inj e _ hkey _ todo htodo (he.born.sublist (hsub.map _)) ((he.keys_ne K.inj).sublist (hsub.map _)) hmem
    · rw [run_entry_at _ r b since seen es clock e hr1 hb1 hes ?_, hkey, hval]
      have := he.born
      exact this.imp (fun h => Nat.ne_of_lt h)

/-- A deletion while a range runs. -/
theorem RangeIs.del {w : World} {r b : Nat} {l : List (κ × ν)} {todo : List κ} (h : RangeIs w r b enc encV l todo) (K : KeyEnc P kt enc) {mt e : TypeId} (ht : P.underlying mt = some (.map kt e)) (k : κ) (hk : k ∉ todo) (t2 ty : TypeId) :
    ∃ w', (Builtin.delete_ #[mt, t2] ty #[.map (some b), enc k]).run P w = .ok (.tuple #[]) w' ∧ RangeIs w' r b enc encV (adel k l) todo ∧ Fr (· = b) w w' ∧ w'.heap.size = w.heap.size := by
  obtain ⟨w', hrun, hm, hfr, hsz, es1, clock1, es', hb1, hb', bo, hes', hbo⟩ := h.map.del K ht k t2 ty
  have hrl := h.lt
  obtain ⟨es, clock, since, seen, c0, hb, he, hr, hs1, hs2, hold, htodo⟩ := h
  rw [hb] at hb1
  cases hb1
  obtain ⟨es2, clock2, hb2, he2⟩ := hm
  rw [hb'] at hb2
  cases hb2
  have hrb : r ≠ b := fun e' => by rw [← e', hr] at hb; cases hb
  refine ⟨w', hrun, ⟨es', _, since, seen, c0, hb', he2, by rw [hfr.block r hrl hrb]; exact hr, hs1, hs2, ?_, ?_⟩, hfr, hsz⟩
  · intro x hx
    rw [hes'] at hx
    exact hold x (List.mem_filter.1 hx).1
  · rw [htodo, hes', List.filter_filter]
    congr 1
    apply List.filter_congr
    intro x hx
    by_cases hc : seen.contains x.born = true
    · rw [hc]
      rfl
    · have : x.born ≠ bo := fun e' => by
        have hkey := hbo x hx e'
        have : enc k ∈ todo.map enc := by
          rw [htodo, ← hkey]
          exact List.mem_map.2 ⟨x, List.mem_filter.2 ⟨hx, by simpa using hc⟩, rfl⟩
        obtain ⟨q, hq, e''⟩ := List.mem_map.1 this
        exact hk (K.inj _ _ e'' ▸ hq)
      have hc' : seen.contains x.born = false := by simpa using hc
      rw [hc']
      simpa using this

/-! ### The walk's laws -/
section walk
variable (w : World) {ops : Array Oper} {rest : List Oper} {o : Oper} {a : Act} {Q : Exit → Act → World → Prop}

theorem wpList_put (hg : o.guard = none) (m x v : Operand) (t : TypeId) (hop : o.op = Op.mapUpdate t m x v) {e : TypeId} (K : KeyEnc P kt enc) (ht : P.underlying t = some (.map kt e)) (b : Nat) (l : List (κ × ν))
    (hm : a.eval m = .map (some b)) (h : MapIs w b enc encV l) (k : κ) (y : ν) (hx : a.eval x = enc k) (hv : a.eval v = encV y)
    (hK : ∀ w', MapIs w' b enc encV (aput k y l) → Fr (· = b) w w' → w'.heap.size = w.heap.size → wpList P ops Q rest (a.put o.dst undef) w') :
    wpList P ops Q (o :: rest) a w := by
  refine wpList_plain hg fun K' hK' => ?_
  obtain ⟨w', hrun, r1, r2, r3⟩ := h.put K ht k y
  unfold Oper.wp
  simp [execOp, hop, hm, hx, hv, hrun, Result.andThen]
  exact hK' _ _ (hK w' r1 r2 r3)

theorem wpList_insert (hg : o.guard = none) (m x v : Operand) (t : TypeId) (hop : o.op = Op.insert t m x v) {e : TypeId} (K : KeyEnc P kt enc) (ht : P.underlying t = some (.map kt e)) (b : Nat) (l : List (κ × ν))
    (hm : a.eval m = .map (some b)) (h : MapIs w b enc encV l) (k : κ) (y : ν) (hx : a.eval x = enc k) (hv : a.eval v = encV y)
    (hK : ∀ w', MapIs w' b enc encV (aput k y l) → Fr (· = b) w w' → w'.heap.size = w.heap.size → wpList P ops Q rest (a.put o.dst undef) w') :
    wpList P ops Q (o :: rest) a w := by
  refine wpList_plain hg fun K' hK' => ?_
  obtain ⟨w', hrun, r1, r2, r3⟩ := h.put K ht k y
  unfold Oper.wp
  simp [execOp, hop, hm, hx, hv, hrun, Result.andThen]
  exact hK' _ _ (hK w' r1 r2 r3)

theorem wpList_look (hg : o.guard = none) (m x : Operand) (t : TypeId) (c : Bool) (hop : o.op = Op.lookup t m x c) {e : TypeId} (K : KeyEnc P kt enc) (ht : P.underlying t = some (.map kt e)) {z : Value} (hz : (zeroValue e).run P w = .ok z w) (b : Nat) (l : List (κ × ν))
    (hm : a.eval m = .map (some b)) (h : MapIs w b enc encV l) (k : κ) (hx : a.eval x = enc k)
    (hK : wpList P ops Q rest (a.put o.dst (if c then .tuple #[(aget k l).elim z encV, .bool (aget k l).isSome] else (aget k l).elim z encV)) w) :
    wpList P ops Q (o :: rest) a w := by
  refine wpList_plain hg fun K' hK' => ?_
  have hrun := h.look K ht hz k c
  unfold Oper.wp
  simp [execOp, hop, hm, hx, hrun, Result.andThen]
  exact hK' _ _ hK

theorem wpList_del (hg : o.guard = none) (m x : Operand) (t t2 : TypeId) (hop : o.op = Op.call { callee := Callee.builtin Builtin.delete, args := #[m, x], argTypes := #[t, t2] }) {e : TypeId} (K : KeyEnc P kt enc) (ht : P.underlying t = some (.map kt e)) (b : Nat) (l : List (κ × ν))
    (hm : a.eval m = .map (some b)) (h : MapIs w b enc encV l) (k : κ) (hx : a.eval x = enc k)
    (hK : ∀ w', MapIs w' b enc encV (adel k l) → Fr (· = b) w w' → w'.heap.size = w.heap.size → wpList P ops Q rest (a.put o.dst (.tuple #[])) w') :
    wpList P ops Q (o :: rest) a w := by
  refine wpList_plain hg fun K' hK' => ?_
  obtain ⟨w', hrun, r1, r2, r3, _⟩ := h.del K ht k t2 o.type
  unfold Oper.wp
  simp [execOp, hop, resolve, invoke, builtin, hm, hx, hrun, Result.andThen]
  exact hK' _ _ (hK w' r1 r2 r3)

theorem wpList_next (hg : o.guard = none) (it : Operand) (hop : o.op = Op.next it false) (K : KeyEnc P kt enc) (r b : Nat) (l : List (κ × ν)) (todo : List κ)
    (hit : a.eval it = .pointer (some ⟨r, 0, none⟩)) (h : RangeIs w r b enc encV l todo)
    (hDone : todo = [] → wpList P ops Q rest (a.put o.dst (.tuple #[.bool false])) w)
    (hMore : ∀ k v w', k ∈ todo → aget k l = some v → RangeIs w' r b enc encV l (todo.erase k) → Fr (· = r) w w' → w'.heap.size = w.heap.size →
      (Instr.entry (.pointer (some ⟨r, 0, none⟩))).run P w' = .ok (.tuple #[enc k, encV v]) w' → wpList P ops Q rest (a.put o.dst (.tuple #[.bool true, enc k, encV v])) w') :
    wpList P ops Q (o :: rest) a w := by
  refine wpList_plain hg fun K' hK' => ?_
  unfold Oper.wp
  rcases h.next K o.type with ⟨h0, hrun⟩ | ⟨k, v, w', h1, h2, hrun, h3, h4, h5, h6⟩
  · simp [execOp, hop, hit, hrun, Result.andThen]
    exact hK' _ _ (hDone h0)
  · simp [execOp, hop, hit, hrun, Result.andThen]
    exact hK' _ _ (hMore k v w' h1 h2 h3 h4 h5 h6)

end walk

end maps

/-! ### Keys -/

/-- Whole numbers. -/
theorem key_int {P : Program} {kt : TypeId} {q : IntKind} (h : P.underlying kt = some (.int q)) : KeyEnc P kt (fun n : Int => Value.int q n) where
  inj := fun a b e => by injection e
  check := fun w b k => by
    generalize hn : 10000 = n
    cases n with
    | zero => cases hn
    | succ n => unfold Instr.checkKey; simp only [Sem.run_bind, run_underlying h, Result.andThen]; rfl
  find := fun w k l ks hl => by
    have hnow : ∀ (l : List MapEntry) (ks : List Int) (i : Nat), l.map (·.key) = ks.map (fun n => Value.int q n) → Instr.findNow (.int q) (.int q k) l i = some (posOf k ks l i) := by
      intro l
      induction l with
      | nil => intro ks i h; cases ks <;> simp_all [Instr.findNow, posOf]
      | cons e l ih =>
        intro ks i h
        cases ks with
        | nil => simp at h
        | cons a ks =>
          simp only [List.map_cons, List.cons.injEq] at h
          simp only [Instr.findNow, h.1, Instr.sameNow, if_true, posOf]
          by_cases e1 : k = a
          · subst e1
            simp
          · have e2 : (k == a) = false := by simpa using e1
            rw [e2, if_neg e1]
            exact ih ks (i + 1) h.2
    simp only [Instr.findKey, Sem.run_bind, run_underlying h, Result.andThen, hnow l ks 0 hl]
    rfl
  bits := fun k => by simp [Instr.sameBits]

/-- Pairs of whole numbers, by a type whose '==' is told. -/
theorem key_pair {P : Program} {kt : TypeId} {q : IntKind} {d : TypeDesc} (h : P.underlying kt = some d) (hd : ∀ k k', Instr.sameNow d (.agg k) (.agg k') = none)
    (hc : ∀ (w : World) (b : Bool) (x y : Int), (Instr.checkKey b 10000 kt (.agg #[.int q x, .int q y])).run P w = .ok () w)
    (he : ∀ (w : World) (x y u v : Int), (Op.equal kt (.agg #[.int q x, .int q y]) (.agg #[.int q u, .int q v])).run P w = .ok (decide (x = u ∧ y = v)) w) :
    KeyEnc P kt (fun p : Int × Int => Value.agg #[.int q p.1, .int q p.2]) where
  inj := fun a b e => by
    simp only [Value.agg.injEq, Array.mk.injEq, List.cons.injEq, Value.int.injEq, true_and, and_true] at e
    exact Prod.ext e.1 e.2
  check := fun w b k => hc w b k.1 k.2
  find := fun w k l ks hl => by
    have hask : ∀ (l : List MapEntry) (ks : List (Int × Int)) (i : Nat), l.map (·.key) = ks.map (fun p => Value.agg #[.int q p.1, .int q p.2]) → (Instr.findAsking kt (.agg #[.int q k.1, .int q k.2]) l i).run P w = .ok (posOf k ks l i) w := by
      intro l
      induction l with
      | nil => intro ks i h; cases ks <;> simp_all [Instr.findAsking, posOf]
      | cons e l ih =>
        intro ks i h
        cases ks with
        | nil => simp at h
        | cons a ks =>
          simp only [List.map_cons, List.cons.injEq] at h
          simp only [Instr.findAsking, h.1, Sem.run_bind, he, Result.andThen, posOf]
          by_cases e1 : k = a
          · subst e1; simp
          · have : ¬ (k.1 = a.1 ∧ k.2 = a.2) := fun e2 => e1 (Prod.ext e2.1 e2.2)
            simp [e1, this, ih ks (i + 1) h.2]
    simp only [Instr.findKey, Sem.run_bind, run_underlying h, Result.andThen]
    cases l with
    | nil => cases ks <;> simp_all [Instr.findNow, posOf]
    | cons e l =>
      cases ks with
      | nil => simp at hl
      | cons a ks =>
        have hk := hl
        simp only [List.map_cons, List.cons.injEq] at hk
        simp only [Instr.findNow, hk.1, hd]
        exact hask _ _ 0 hl
  bits := fun k => by simp [Instr.sameBits]

end Go.Proofs.YteagpbcmfnopfaaGreatDoor
