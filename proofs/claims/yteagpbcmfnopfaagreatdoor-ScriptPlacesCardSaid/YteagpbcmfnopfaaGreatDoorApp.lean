/- append, in this proof's words: a row of the call's own, a source that is read. -/
import Derived.Test.YteagpbcmfnopfaaGreatDoorSl
import Derived.RegionTactic
import Derived.OwnWalk
namespace Go.Proofs.YteagpbcmfnopfaaGreatDoor
open Go.RowKit

/-- A slice type, its elements. -/
structure Elem (P : Program) (t e : TypeId) (z : Value) (size bytes : Nat) : Prop where
  ty : P.underlying t = some (.slice e)
  info : ∃ i, P.info? e = some i ∧ i.zero = some z ∧ i.size = size ∧ i.bytes = bytes
  cells : z.cells.size = size
  pos : 0 < size

theorem Elem.mk' {P : Program} {t e : TypeId} {z : Value} {size bytes : Nat} (ht : P.underlying t = some (.slice e)) (hi : (P.info? e).map (fun i => (i.zero, i.size, i.bytes)) = some (some z, size, bytes)) (hc : z.cells.size = size) (hp : 0 < size) : Elem P t e z size bytes := by
  obtain ⟨i, h1, h2, h3, h4⟩ := info_parts hi
  exact ⟨ht, ⟨i, h1, h2, h3, h4⟩, hc, hp⟩

theorem run_app_nil {P : Program} (w : World) (base : Nat) (t ty e : TypeId) (i : TypeInfo) (size : Nat) (ht : P.underlying t = some (.slice e)) (hi : P.info? e = some i)
    (v : Value) (n : Nat) (xs : List Value) (hown : w.ownsRow base e size v n xs) (c : Nat) : (Builtin.append_ #[t, t] ty #[v, .slice none 0 c]).run P w = .ok v w := by
  rcases hown.2 with ⟨rfl, rfl⟩ | ⟨g, cap, cur, rfl, _, _, hnc, _⟩
  · simp [Builtin.append_, run_underlying ht, sizeOf, typeInfo, hi, Builtin.lenOf, Builtin.firstCells]
  · simp [Builtin.append_, run_underlying ht, sizeOf, typeInfo, hi, Builtin.lenOf, Builtin.firstCells, hnc, storeCells]

theorem slice_own {w : World} {base n e size : Nat} {v : Value} {xs : List Value} (h : w.ownsRow base e size v n xs) : ∃ A cap, v = .slice A n cap ∧ n ≤ cap := by
  rcases h.2 with ⟨rfl, rfl⟩ | ⟨g, cap, cur, rfl, _, _, hc, _⟩
  · exact ⟨_, _, rfl, Nat.le_refl _⟩
  · exact ⟨_, _, rfl, hc⟩

/-- What an append leaves: the row with more, all else as it was, the row where it was or in a new block. -/
theorem run_app {P : Program} {t e : TypeId} {z : Value} {size bytes : Nat} (E : Elem P t e z size bytes) (w : World) (base : Nat) (ty : TypeId) (v : Value) (n : Nat) (xs : List Value) (hown : w.ownsRow base e size v n xs)
    (A : Option Addr) (m c : Nat) (news : List Value) (hl : news.length = m * size) (hr : SlAt w A news) (h1 : ∀ u ∈ news, u.oneCell' = true)
    (h63 : n + m ≤ maxLen) (hbytes : (n + m) * bytes ≤ 140737488355328) (hbase : base ≤ w.heap.size) :
    ∃ A' c' w', (Builtin.append_ #[t, t] ty #[v, .slice A m c]).run P w = .ok (.slice A' (n + m) c') w' ∧ w'.ownsRow base e size (.slice A' (n + m) c') (n + m) (xs ++ news) ∧ Fr (fun k => v.ownBlock = some k) w w' ∧
      ((Value.slice A' (n + m) c').ownBlock = v.ownBlock ∨ (Value.slice A' (n + m) c').ownBlock = some w.heap.size) := by
  obtain ⟨i, hi, hz0, hz1, hz2⟩ := E.info
  have key : ∃ v' w', (Builtin.append_ #[t, t] ty #[v, .slice A m c]).run P w = .ok v' w' ∧ w'.ownsRow base e size v' (n + m) (xs ++ news) ∧ w.grownBy w' v.ownBlock ∧ (v'.ownBlock = v.ownBlock ∨ v'.ownBlock = some w.heap.size) := by
    cases A with
    | none =>
      have hn : news = [] := by
        rcases hr with h | ⟨b, off, h, _⟩
        · exact h
        · cases h
      subst hn
      have hm : m = 0 := by
        have := E.pos
        rcases Nat.eq_zero_or_pos m with h | h
        · exact h
        · have := Nat.mul_pos h this
          simp at hl; omega
      subst hm
      exact ⟨v, w, run_app_nil w base t ty e i size E.ty hi v n xs hown c, by simpa using hown, World.grownBy.refl w _, .inl rfl⟩
    | some ad =>
      have hcells : ∀ j u, news[j]? = some u → w.cell? (ad.add j) = some u := by
        intro j u hu
        rcases hr with h | ⟨b, off, h, hrow, _⟩
        · rw [h] at hu; simp at hu
        · cases h
          exact row_at hrow j u hu
      obtain ⟨v', w', hrun, h2, h3, _, h5⟩ := run_append_own_at (P := P) w base t ty e i z size bytes E.ty hi hz0 hz1 hz2 E.cells E.pos v n xs hown ad m c news hl hcells h1 h63 hbytes hbase
      exact ⟨v', w', hrun, h2, h3, h5⟩
  obtain ⟨v', w', hrun, h2, h3, h5⟩ := key
  obtain ⟨A', c', rfl, _⟩ := slice_own h2
  exact ⟨A', c', w', hrun, h2, Fr.of_grown h3 (fun k hk => .inl hk), h5⟩

section
variable {P : Program} {ops : Array Oper} {rest : List Oper} {o : Oper} {a : Act} {w : World} {Q : Exit → Act → World → Prop}

theorem wpList_app {t e : TypeId} {z : Value} {size bytes : Nat} (E : Elem P t e z size bytes) (hgd : o.guard = none) (s x : Operand)
    (ho : o.op = .call { callee := .builtin .append, args := #[s, x], argTypes := #[t, t] }) {base : Nat} {v : Value} {n : Nat} {xs : List Value} (hs : a.eval s = v) (hown : w.ownsRow base e size v n xs)
    {A : Option Addr} {m c : Nat} {news : List Value} (hx : a.eval x = .slice A m c) (hl : news.length = m * size) (hr : SlAt w A news) (h1 : ∀ u ∈ news, u.oneCell' = true)
    (h63 : n + m ≤ maxLen) (hbytes : (n + m) * bytes ≤ 140737488355328) (hbase : base ≤ w.heap.size)
    (h : ∀ A' c' w', w'.ownsRow base e size (.slice A' (n + m) c') (n + m) (xs ++ news) → Fr (fun k => v.ownBlock = some k) w w' →
      ((Value.slice A' (n + m) c').ownBlock = v.ownBlock ∨ (Value.slice A' (n + m) c').ownBlock = some w.heap.size) → wpList P ops Q rest (a.put o.dst (.slice A' (n + m) c')) w') :
    wpList P ops Q (o :: rest) a w := by
  refine wpList_plain hgd fun K hK => ?_
  obtain ⟨A', c', w', hrun, h2, h3, h4⟩ := run_app E w base o.type v n xs hown A m c news hl hr h1 h63 hbytes hbase
  unfold Oper.wp execOp
  simp only [ho, resolve, invoke, builtin, Sem.run_bind, Sem.run_pure, Result.andThen_ok, List.map_toArray, List.map_cons, List.map_nil, hs, hx, hrun]
  exact hK _ _ (h A' c' w' h2 h3 h4)

theorem wp_app {K : Act → World → Prop} {t e : TypeId} {z : Value} {size bytes : Nat} (E : Elem P t e z size bytes) (s x : Operand)
    (ho : o.op = .call { callee := .builtin .append, args := #[s, x], argTypes := #[t, t] }) {base : Nat} {v : Value} {n : Nat} {xs : List Value} (hs : a.eval s = v) (hown : w.ownsRow base e size v n xs)
    {A : Option Addr} {m c : Nat} {news : List Value} (hx : a.eval x = .slice A m c) (hl : news.length = m * size) (hr : SlAt w A news) (h1 : ∀ u ∈ news, u.oneCell' = true)
    (h63 : n + m ≤ maxLen) (hbytes : (n + m) * bytes ≤ 140737488355328) (hbase : base ≤ w.heap.size)
    (h : ∀ A' c' w', w'.ownsRow base e size (.slice A' (n + m) c') (n + m) (xs ++ news) → Fr (fun k => v.ownBlock = some k) w w' →
      ((Value.slice A' (n + m) c').ownBlock = v.ownBlock ∨ (Value.slice A' (n + m) c').ownBlock = some w.heap.size) → K (a.put o.dst (.slice A' (n + m) c')) w') :
    o.wp P a w K Q := by
  obtain ⟨A', c', w', hrun, h2, h3, h4⟩ := run_app E w base o.type v n xs hown A m c news hl hr h1 h63 hbytes hbase
  unfold Oper.wp execOp
  simp only [ho, resolve, invoke, builtin, Sem.run_bind, Sem.run_pure, Result.andThen_ok, List.map_toArray, List.map_cons, List.map_nil, hs, hx, hrun]
  exact h A' c' w' h2 h3 h4

/-- At a step of a region that draws its order. -/
theorem step_app {K : Act → World → Prop} {G : Prop} {t e : TypeId} {z : Value} {size bytes : Nat} (E : Elem P t e z size bytes) (hgd : o.guard = none) (s x : Operand)
    (ho : o.op = .call { callee := .builtin .append, args := #[s, x], argTypes := #[t, t] }) {base : Nat} {v : Value} {n : Nat} {xs : List Value} (hs : a.eval s = v) (hown : w.ownsRow base e size v n xs)
    {A : Option Addr} {m c : Nat} {news : List Value} (hx : a.eval x = .slice A m c) (hl : news.length = m * size) (hr : SlAt w A news) (h1 : ∀ u ∈ news, u.oneCell' = true)
    (h63 : n + m ≤ maxLen) (hbytes : (n + m) * bytes ≤ 140737488355328) (hbase : base ≤ w.heap.size)
    (h : ∀ A' c' w', w'.ownsRow base e size (.slice A' (n + m) c') (n + m) (xs ++ news) → Fr (fun k => v.ownBlock = some k) w w' →
      ((Value.slice A' (n + m) c').ownBlock = v.ownBlock ∨ (Value.slice A' (n + m) c').ownBlock = some w.heap.size) → K (a.put o.dst (.slice A' (n + m) c')) w') :
    if Region.wanted o (yielded ops a.tmps) = true then Oper.wp P o a w K Q else G := by
  have hw : Region.wanted o (yielded ops a.tmps) = true := by simp [Region.wanted, hgd]
  rw [if_pos hw]
  exact wp_app E s x ho hs hown hx hl hr h1 h63 hbytes hbase h

end

theorem bC_one {l : List UInt8} : ∀ u ∈ bC l, u.oneCell' = true := by intro u hu; simp [bC] at hu; obtain ⟨x, _, rfl⟩ := hu; rfl

theorem el_u8 : Elem Tryz.prog 22 5 (.int .u8 0) 1 1 := Elem.mk' Tryz.underlying22 info_u8 rfl (by decide)

theorem bC_ne {l : List UInt8} (h : 0 < l.length) : bC l ≠ [] := fun e => by
  have := congrArg List.length e
  rw [bC_length, List.length_nil] at this
  omega

theorem own_some {w : World} {base n e size : Nat} {v : Value} {xs : List Value} (h : w.ownsRow base e size v n xs) (hx : xs ≠ []) : ∃ g cap, v = .slice (some ⟨g, 0, none⟩) n cap ∧ RowAt w g 0 xs ∧ g < w.heap.size ∧ base ≤ g ∧ n ≤ cap := by
  have hl := h.1
  rcases h.2 with ⟨rfl, rfl⟩ | ⟨g, cap, cur, rfl, hb, hg, hn, hc, hs, ht⟩
  · exact absurd (List.eq_nil_of_length_eq_zero (by simpa using hl)) hx
  · refine ⟨g, cap, rfl, fun j u hj => ?_, (Array.getElem?_eq_some_iff.1 hg).1, hb, hn⟩
    have := h.cells (g := g) rfl j u hj
    rwa [show ((⟨g, 0, none⟩ : Addr).add j) = ⟨g, 0 + j, none⟩ from by unfold Addr.add; split <;> simp_all] at this

/-- A new block is read. -/
theorem slAt_new (w : World) (cs : Array Value) (t : TypeId) : SlAt (w.alloc (.cells cs t)) (some ⟨w.heap.size, 0, none⟩) cs.toList :=
  .inr ⟨_, _, rfl, fun j u hj => by rw [Nat.zero_add]; exact (Blk.new w cs t).cell (by simpa using hj), by rw [alloc_size]; omega⟩

theorem slAt_blk {w : World} {g : Nat} {cs : Array Value} {t : TypeId} (h : Blk w g cs t) : SlAt w (some ⟨g, 0, none⟩) cs.toList :=
  .inr ⟨_, _, rfl, fun j u hj => by rw [Nat.zero_add]; exact h.cell (by simpa using hj), h.lt⟩

theorem slAt_app (w : World) (cs Z : Array Value) (t : TypeId) : SlAt (w.alloc (.cells (cs ++ Z) t)).drew (some ⟨w.heap.size, 0, none⟩) cs.toList :=
  .inr ⟨_, _, rfl, fun j u hj => by
    rw [Nat.zero_add]
    refine ((Blk.new w (cs ++ Z) t).drew).cell ?_
    have hj' : cs[j]? = some u := by simpa using hj
    rw [Array.getElem?_append_left (Array.getElem?_eq_some_iff.1 hj').1]
    exact hj', by show _ < (w.alloc _).heap.size; rw [alloc_size]; omega⟩

theorem SlAt.alloc {w : World} {A : Option Addr} {xs : List Value} (h : SlAt w A xs) (o : Obj) : SlAt (w.alloc o) A xs := h.frF ((Fr.refl _ _).alloc o)
theorem SlAt.drew {w : World} {A : Option Addr} {xs : List Value} (h : SlAt w A xs) : SlAt w.drew A xs := h
theorem SlAt.drewN {w : World} {A : Option Addr} {xs : List Value} (h : SlAt w A xs) (n : Nat) : SlAt (w.drewN n) A xs := h

theorem cell_alloc {w : World} {a : Addr} {v : Value} {o : Obj} (h : w.cell? a = some v) : (w.alloc o).cell? a = some v := ((Fr.refl (fun _ => False) w).alloc o).cell h (fun x => x)
theorem unfrozen_alloc {w : World} {a : Addr} {v : Value} {o : Obj} (h : w.frozen? a = false) (hc : w.cell? a = some v) : (w.alloc o).frozen? a = false := ((Fr.refl (fun _ => False) w).alloc o).unfrozenC h hc (fun x => x)

theorem row_type' {w : World} {base n : Nat} {e : TypeId} {size : Nat} {v : Value} {xs : List Value} (h : w.ownsRow base e size v n xs) {g : Nat} {cs : Array Value} {t : TypeId} (hg : Blk w g cs t) (ht : t ≠ e) : v.ownBlock ≠ some g := by
  rcases h.2 with ⟨rfl, _⟩ | ⟨g', cap, cur, rfl, _, hh, _⟩
  · simp [Value.ownBlock]
  · intro he
    have : g' = g := by simpa [Value.ownBlock] using he
    subst this
    unfold Blk at hg
    rw [hg] at hh
    injection hh with hh
    injection hh with _ hh
    exact ht hh

theorem own_alloc {w : World} {base n e size : Nat} {v : Value} {xs : List Value} (h : w.ownsRow base e size v n xs) (o : Obj) : (w.alloc o).ownsRow base e size v n xs :=
  row_fr h ((Fr.refl (fun _ => False) w).alloc o) (fun _ _ x => x)

theorem own_fr {w w' : World} {base n e size : Nat} {v : Value} {xs : List Value} (h : w.ownsRow base e size v n xs) (f : Fr (fun _ => False) w w') : w'.ownsRow base e size v n xs :=
  row_fr h f (fun _ _ x => x)

theorem own_nil (w : World) (base e size : Nat) : w.ownsRow base e size (.slice none 0 0) 0 [] := ⟨by simp, .inl ⟨rfl, rfl⟩⟩

/-- An append to a row of the call's own leaves all that was. -/
theorem Fr.app {a w w' : World} {base n e size : Nat} {v : Value} {xs : List Value} (h : Fr (fun _ => False) a w) (hown : w.ownsRow base e size v n xs) (hb : a.heap.size ≤ base) (f : Fr (fun k => v.ownBlock = some k) w w') : Fr (fun _ => False) a w' :=
  ((h.mono (T := fun k => a.heap.size ≤ k) (fun _ _ x => x.elim)).then f (fun k _ hk => Nat.le_trans hb (row_lt hown k hk).2)).mono fun n hn e => absurd e (by omega)

/-- A row that lies in newer blocks stays as it is when an elder row is appended to. -/
theorem row_app {w w' w0 : World} {base n e size base0 n0 e0 size0 : Nat} {v v0 : Value} {xs xs0 : List Value} (h : w.ownsRow base e size v n xs) (f : Fr (fun k => v0.ownBlock = some k) w w')
    (h0 : w0.ownsRow base0 e0 size0 v0 n0 xs0) (hb : w0.heap.size ≤ base) : w'.ownsRow base e size v n xs :=
  row_fr h f fun k hk e => by
    have := (row_lt h k hk).2
    have := (row_lt h0 k e).1
    omega

theorem World.drew_size (w : World) : w.drew.heap.size = w.heap.size := rfl

theorem Fr.weak {S : Nat → Prop} {a b : World} (h : Fr (fun _ => False) a b) : Fr S a b := h.mono fun _ _ x => x.elim

end Go.Proofs.YteagpbcmfnopfaaGreatDoor
