/- Base words of this proof: blocks of cells, what a call leaves alone. Nothing here is about one program. -/
import Derived.WalkKit
import Derived.WalkSpells
import Derived.WalkLawsBesides
import Derived.Lib.Hide
namespace Go.Proofs.YteagpbcmfnopfaaGreatDoor
open Go.RowKit

/-- Block g is these cells, of this type, none frozen. -/
def Blk (w : World) (g : Nat) (cs : Array Value) (t : TypeId) : Prop := w.heap[g]? = some (.cells cs t (0, 0))

theorem Blk.lt {w : World} {g : Nat} {cs : Array Value} {t : TypeId} (h : Blk w g cs t) : g < w.heap.size := by
  unfold Blk at h
  exact (Array.getElem?_eq_some_iff.1 h).1

theorem Blk.cell {w : World} {g : Nat} {cs : Array Value} {t : TypeId} (h : Blk w g cs t) {i : Nat} {v : Value} (hi : cs[i]? = some v) : w.cell? ⟨g, i, none⟩ = some v := by
  unfold Blk at h
  simp [World.cell?, h, hi]

theorem Blk.free {w : World} {g : Nat} {cs : Array Value} {t : TypeId} (h : Blk w g cs t) (i : Nat) : w.frozen? ⟨g, i, none⟩ = false := by
  unfold Blk at h
  simp [World.frozen?, h]

theorem Blk.set {w : World} {g : Nat} {cs : Array Value} {t : TypeId} (h : Blk w g cs t) (i : Nat) (v : Value) : Blk (w.setCell ⟨g, i, none⟩ v) g (cs.setIfInBounds i v) t := by
  unfold Blk at *
  simp [World.setCell, Array.getElem?_modify, h]

theorem Blk.set_other {w : World} {g : Nat} {cs : Array Value} {t : TypeId} (h : Blk w g cs t) {a : Addr} (ha : a.block ≠ g) (v : Value) : Blk (w.setCell a v) g cs t := by
  unfold Blk at *
  simp [World.setCell, Array.getElem?_modify, h, ha]

theorem Blk.alloc {w : World} {g : Nat} {cs : Array Value} {t : TypeId} (h : Blk w g cs t) (o : Obj) : Blk (w.alloc o) g cs t := by
  have hl := h.lt
  unfold Blk at *
  show (w.heap.push o)[g]? = _
  rw [Array.getElem?_push_lt hl, ← Array.getElem?_eq_getElem hl]
  exact h

theorem Blk.new (w : World) (cs : Array Value) (t : TypeId) : Blk (w.alloc (.cells cs t)) w.heap.size cs t := by
  show (w.heap.push (.cells cs t (0, 0)))[w.heap.size]? = _
  simp

theorem alloc_size (w : World) (o : Obj) : (w.alloc o).heap.size = w.heap.size + 1 := by
  show (w.heap.push o).size = _
  simp

theorem Blk.new1 (w : World) (o : Obj) (cs : Array Value) (t : TypeId) : Blk ((w.alloc o).alloc (.cells cs t)) (w.heap.size + 1) cs t := by
  rw [← alloc_size w o]
  exact Blk.new _ _ _

theorem Blk.new2 (w : World) (o o2 : Obj) (cs : Array Value) (t : TypeId) : Blk (((w.alloc o).alloc o2).alloc (.cells cs t)) (w.heap.size + 1 + 1) cs t := by
  rw [← alloc_size w o, ← alloc_size (w.alloc o) o2]
  exact Blk.new _ _ _

theorem Blk.drew {w : World} {g : Nat} {cs : Array Value} {t : TypeId} (h : Blk w g cs t) : Blk w.drew g cs t := h

theorem Blk.drewN {w : World} {g : Nat} {cs : Array Value} {t : TypeId} (h : Blk w g cs t) (n : Nat) : Blk (w.drewN n) g cs t := h

/-- w' is w but for new blocks, draws, and the blocks of S. -/
structure Fr (S : Nat → Prop) (w w' : World) : Prop where
  os : w'.os = w.os
  tape : w'.tape = w.tape
  output : w'.output = w.output
  size : w.heap.size ≤ w'.heap.size
  block : ∀ k, k < w.heap.size → ¬ S k → w'.heap[k]? = w.heap[k]?

theorem Fr.refl (S : Nat → Prop) (w : World) : Fr S w w := ⟨rfl, rfl, rfl, Nat.le_refl _, fun _ _ _ => rfl⟩

theorem Fr.then {S T : Nat → Prop} {a b c : World} (h : Fr S a b) (k : Fr T b c) (hs : ∀ n, n < a.heap.size → T n → S n) : Fr S a c :=
  ⟨k.os.trans h.os, k.tape.trans h.tape, k.output.trans h.output, Nat.le_trans h.size k.size,
    fun i hi hn => (k.block i (Nat.lt_of_lt_of_le hi h.size) (fun ht => hn (hs i hi ht))).trans (h.block i hi hn)⟩

theorem Fr.trans {S : Nat → Prop} {a b c : World} (h : Fr S a b) (k : Fr S b c) : Fr S a c := h.then k fun _ _ x => x

theorem Fr.mono {S T : Nat → Prop} {a b : World} (h : Fr S a b) (hs : ∀ n, n < a.heap.size → S n → T n) : Fr T a b :=
  ⟨h.os, h.tape, h.output, h.size, fun i hi hn => h.block i hi fun x => hn (hs i hi x)⟩

theorem Fr.alloc {S : Nat → Prop} {a w : World} (h : Fr S a w) (o : Obj) : Fr S a (w.alloc o) :=
  h.then (T := fun _ => False) ⟨rfl, rfl, rfl, by show _ ≤ (w.heap.push o).size; simp, fun k hk _ => by show (w.heap.push o)[k]? = _; rw [Array.getElem?_push_lt hk, ← Array.getElem?_eq_getElem hk]⟩ fun _ _ x => x.elim

theorem Fr.drew {S : Nat → Prop} {a w : World} (h : Fr S a w) : Fr S a w.drew := ⟨h.os, h.tape, h.output, h.size, h.block⟩

theorem Fr.drewN {S : Nat → Prop} {a w : World} (h : Fr S a w) (n : Nat) : Fr S a (w.drewN n) := ⟨h.os, h.tape, h.output, h.size, h.block⟩

theorem Fr.set {S : Nat → Prop} {a w : World} (h : Fr S a w) {p : Addr} (hp : S p.block ∨ a.heap.size ≤ p.block) (v : Value) : Fr S a (w.setCell p v) :=
  h.then (T := fun k => k = p.block) ⟨rfl, rfl, rfl, by simp [World.setCell], fun k _ hn => by simp [World.setCell, Array.getElem?_modify, Ne.symm hn]⟩
    fun n hn e => by subst e; rcases hp with hp | hp; exact hp; omega

theorem Fr.set1 (w : World) (g i : Nat) (v : Value) : Fr (· = g) w (w.setCell ⟨g, i, none⟩ v) := (Fr.refl (· = g) w).set (.inl rfl) v

theorem Fr.set_eq {a w : World} {g : Nat} (h : Fr (· = g) a w) (i : Nat) (v : Value) : Fr (· = g) a (w.setCell ⟨g, i, none⟩ v) := h.set (.inl rfl) v

theorem Fr.below {w w' : World} (h : Fr (fun _ => False) w w') : Below w.heap.size w w' := ⟨h.os, h.tape, h.output, h.size, fun k hk => h.block k hk fun x => x⟩

theorem Fr.then_below {a b c : World} (h : Fr (fun _ => False) a b) (k : Below a.heap.size b c) : Fr (fun _ => False) a c :=
  ⟨k.os.trans h.os, k.tape.trans h.tape, k.output.trans h.output, Nat.le_trans h.size k.size, fun i hi hn => (k.block i hi).trans (h.block i hi hn)⟩

theorem Fr.of_below {S : Nat → Prop} {w w' : World} (h : Below w.heap.size w w') : Fr S w w' := ⟨h.os, h.tape, h.output, h.size, fun k hk _ => h.block k hk⟩

theorem Fr.of_grown {S : Nat → Prop} {w w' : World} {row : Option Nat} (h : w.grownBy w' row) (hr : ∀ k, row = some k → S k ∨ w.heap.size ≤ k) : Fr S w w' :=
  ⟨h.os, h.tape, h.output, h.size, fun k hk hn => h.block k hk fun e => by rcases hr k e.symm with x | x; exact hn x; omega⟩

theorem Blk.fr {S : Nat → Prop} {w w' : World} {g : Nat} {cs : Array Value} {t : TypeId} (h : Blk w g cs t) (f : Fr S w w') (hg : ¬ S g) : Blk w' g cs t := by
  unfold Blk at *
  rw [f.block g (Blk.lt h) hg]
  exact h

theorem Fr.cell {S : Nat → Prop} {w w' : World} (f : Fr S w w') {a : Addr} {v : Value} (h : w.cell? a = some v) (hg : ¬ S a.block) : w'.cell? a = some v := by
  rw [World.cell?_of_block (f.block _ (World.block_lt_of_cell? w a h) hg)]
  exact h

theorem Fr.unfrozen {S : Nat → Prop} {w w' : World} (f : Fr S w w') {a : Addr} (h : w.frozen? a = false) (hl : a.block < w.heap.size) (hg : ¬ S a.block) : w'.frozen? a = false := by
  have e := f.block a.block hl hg
  unfold World.frozen? at *
  rw [e]
  exact h

theorem Fr.unfrozenC {S : Nat → Prop} {w w' : World} (f : Fr S w w') {a : Addr} {v : Value} (h : w.frozen? a = false) (hl : w.cell? a = some v) (hg : ¬ S a.block) : w'.frozen? a = false :=
  f.unfrozen h (World.block_lt_of_cell? w a hl) hg

theorem row_fr {S : Nat → Prop} {w w' : World} {base n : Nat} {e : TypeId} {size : Nat} {v : Value} {xs : List Value} (h : w.ownsRow base e size v n xs) (f : Fr S w w') (hv : ∀ k, v.ownBlock = some k → ¬ S k) : w'.ownsRow base e size v n xs := by
  refine ⟨h.1, ?_⟩
  rcases h.2 with h' | ⟨g, cap, cur, rfl, hb, hg, hr⟩
  · exact .inl h'
  · exact .inr ⟨g, cap, cur, rfl, hb, by rw [f.block g (Array.getElem?_eq_some_iff.1 hg).1 (hv g rfl)]; exact hg, hr⟩

theorem row_lt {w : World} {base n : Nat} {e : TypeId} {size : Nat} {v : Value} {xs : List Value} (h : w.ownsRow base e size v n xs) (k : Nat) (hk : v.ownBlock = some k) : k < w.heap.size ∧ base ≤ k := by
  rcases h.2 with ⟨rfl, _⟩ | ⟨g, cap, cur, rfl, hb, hg, _⟩
  · simp [Value.ownBlock] at hk
  · have : g = k := by simpa [Value.ownBlock] using hk
    subst this
    exact ⟨(Array.getElem?_eq_some_iff.1 hg).1, hb⟩

theorem news_of_blk {w : World} {g : Nat} {cs : Array Value} {t : TypeId} (h : Blk w g cs t) : ∀ j u, cs.toList[j]? = some u → w.cell? ((⟨g, 0, none⟩ : Addr).add j) = some u := by
  intro j u hj
  have : ((⟨g, 0, none⟩ : Addr).add j) = ⟨g, j, none⟩ := by unfold Addr.add; split <;> simp_all
  rw [this]
  exact h.cell (by simpa using hj)

/-- The byte at a place of a string; 0 behind it. -/
def bt (s : ByteArray) (i : Nat) : Int := if h : i < s.size then ((s[i]'h).toNat : Int) else 0

theorem bt_at (s : ByteArray) (i : Nat) (h : i < s.size) : ((s[i]'h).toNat : Int) = bt s i := by simp [bt, h]

theorem bt_range (s : ByteArray) (i : Nat) : 0 ≤ bt s i ∧ bt s i ≤ 255 := by
  unfold bt
  split
  · rename_i h
    have := (s[i]'h).toNat_lt
    omega
  · omega

theorem size_eq_len (s : ByteArray) : s.size = s.data.toList.length := by
  show s.data.size = _
  simp

theorem empty_of_size {s : ByteArray} (h : s.size = 0) : s.toList.isEmpty = true := by
  rw [ByteArray.toList_eq, List.isEmpty_iff]
  rw [size_eq_len] at h
  exact List.eq_nil_of_length_eq_zero h

theorem not_empty_of_size {s : ByteArray} (h : ¬ s.size = 0) : s.toList.isEmpty = false := by
  rw [ByteArray.toList_eq]
  rw [size_eq_len] at h
  cases hl : s.data.toList with
  | nil => rw [hl] at h; exact absurd rfl h
  | cons a l => rfl

theorem bytes_ext {a b : ByteArray} (h : a.data.toList = b.data.toList) : a = b := by
  cases a; cases b
  simp only at h
  rw [Array.toList_inj] at h
  rw [h]

theorem bt_list (s : ByteArray) (i : Nat) : bt s i = ((s.data.toList[i]?).map fun b : UInt8 => (b.toNat : Int)).getD 0 := by
  unfold bt
  split
  · rename_i h
    have h' : i < s.data.toList.length := by rw [← size_eq_len]; exact h
    rw [List.getElem?_eq_getElem h']
    rfl
  · rename_i h
    rw [List.getElem?_eq_none (by rw [← size_eq_len]; omega)]
    rfl

theorem extract_list (s : ByteArray) (a b : Nat) : (s.extract a b).data.toList = (s.data.toList.take b).drop a := by
  rw [ByteArray.data_extract, Array.toList_extract, List.extract_eq_take_drop, List.drop_take]

theorem size_drop (s : ByteArray) (k : Nat) : (s.extract k s.size).size = s.size - k := by
  rw [size_eq_len, extract_list, List.length_drop, List.length_take, ← size_eq_len]
  omega

theorem bt_drop (s : ByteArray) (k i : Nat) : bt (s.extract k s.size) i = bt s (k + i) := by
  rw [bt_list, bt_list, extract_list, size_eq_len, List.take_length, List.getElem?_drop]

theorem drop_drop (s : ByteArray) (k m : Nat) : (s.extract k s.size).extract m (s.extract k s.size).size = s.extract (k + m) s.size := by
  apply bytes_ext
  rw [extract_list, extract_list, extract_list, size_eq_len (s.extract k s.size), extract_list, size_eq_len s, List.take_length, List.take_length, List.drop_drop]

theorem ret_bool {a b : Bool} (h : a = b) : Ending.returned (.bool a) = .returned (.bool b) := by rw [h]

theorem ret_int {k : IntKind} {a b : Int} (h : a = b) : Ending.returned (.int k a) = .returned (.int k b) := by rw [h]

end Go.Proofs.YteagpbcmfnopfaaGreatDoor
