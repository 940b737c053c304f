/- Texts that are built: strings.Builder, strconv.FormatUint at base ten. -/
import Derived.Test.YteagpbcmfnopfaaGreatDoorShelf
import Derived.Test.YteagpbcmfnopfaaGreatDoorBase
import Derived.Lib.AppendStr
import Derived.Lib.Builder
import Derived.Lib.ItoaMem
import Derived.Maps.AppendAt
namespace Go.Proofs.YteagpbcmfnopfaaGreatDoor
open Go.RowKit

theorem info_byte : (Tryz.prog.info? 5).map (fun i => (i.zero, i.size, i.bytes)) = some (some (.int .u8 0), 1, 1) := by kernel_rfl
theorem info_builder : (Tryz.prog.info? 97).map (fun i => i.size) = some 2 := by kernel_rfl

/-- Block b is a Builder that holds these bytes; its row lies from base on. -/
def SbIs (w : World) (base b : Nat) (l : List UInt8) : Prop :=
  ∃ p v, Blk w b #[p, v] 97 ∧ (p = .pointer none ∨ p = .pointer (some ⟨b, 0, none⟩)) ∧ w.ownsRow base 5 1 v l.length (Lib.byteCells l) ∧ base ≤ b

/-- What a write to Builder b leaves as it was. -/
structure FrB (base b : Nat) (w w' : World) : Prop where
  os : w'.os = w.os
  tape : w'.tape = w.tape
  output : w'.output = w.output
  size : w.heap.size ≤ w'.heap.size
  below : ∀ k, k < base → w'.heap[k]? = w.heap[k]?
  blk : ∀ g cs t, Blk w g cs t → t ≠ 5 → g ≠ b → Blk w' g cs t

theorem FrB.refl (base b : Nat) (w : World) : FrB base b w w := ⟨rfl, rfl, rfl, Nat.le_refl _, fun _ _ => rfl, fun _ _ _ h _ _ => h⟩

theorem FrB.trans {base b : Nat} {x y z : World} (h : FrB base b x y) (k : FrB base b y z) : FrB base b x z :=
  ⟨k.os.trans h.os, k.tape.trans h.tape, k.output.trans h.output, Nat.le_trans h.size k.size, fun i hi => (k.below i hi).trans (h.below i hi), fun g cs t hg ht hb => k.blk g cs t (h.blk g cs t hg ht hb) ht hb⟩

theorem FrB.of_fr {base b : Nat} {w w' : World} (h : Fr (fun _ => False) w w') (hb : base ≤ w.heap.size) : FrB base b w w' :=
  ⟨h.os, h.tape, h.output, h.size, fun k hk => h.block k (by omega) (fun x => x), fun _ _ _ hg _ _ => hg.fr h (fun x => x)⟩

theorem FrB.fr {b : Nat} {w w' : World} (h : FrB w.heap.size b w w') : Fr (fun _ => False) w w' := ⟨h.os, h.tape, h.output, h.size, fun k hk _ => h.below k hk⟩

theorem FrB.join {b : Nat} {x y z : World} (h : Fr (fun _ => False) x y) (k : FrB x.heap.size b y z) : Fr (fun _ => False) x z :=
  ⟨k.os.trans h.os, k.tape.trans h.tape, k.output.trans h.output, Nat.le_trans h.size k.size, fun i hi hn => (k.below i hi).trans (h.block i hi hn)⟩

theorem row_type {w : World} {base n : Nat} {e : TypeId} {size : Nat} {v : Value} {xs : List Value} (h : w.ownsRow base e size v n xs) {g : Nat} {cs : Array Value} {t : TypeId} (hg : Blk w g cs t) (ht : t ≠ e) : v.ownBlock ≠ some g := by
  intro hk
  rcases h.2 with ⟨rfl, _⟩ | ⟨k, cap, cur, rfl, _, hh, _⟩
  · simp [Value.ownBlock] at hk
  · have : k = g := by simpa [Value.ownBlock] using hk
    subst this
    unfold Blk at hg
    rw [hg] at hh
    injection hh with hh
    injection hh with _ e1
    exact ht e1

theorem SbIs.fr {w w' : World} {base b : Nat} {l : List UInt8} (h : SbIs w base b l) (f : Fr (fun _ => False) w w') : SbIs w' base b l := by
  obtain ⟨p, v, hb, hp, hr, hbb⟩ := h
  exact ⟨p, v, hb.fr f (fun x => x), hp, row_fr hr f (fun _ _ x => x), hbb⟩

theorem SbIs.lt {w : World} {base b : Nat} {l : List UInt8} (h : SbIs w base b l) : b < w.heap.size := by
  obtain ⟨p, v, hb, _⟩ := h
  exact hb.lt

theorem SbIs.fresh (w : World) : SbIs (w.alloc (.cells #[.pointer none, .slice none 0 0] 97)) w.heap.size w.heap.size [] :=
  ⟨_, _, Blk.new _ _ _, .inl rfl, ⟨rfl, .inl ⟨rfl, rfl⟩⟩, Nat.le_refl _⟩

set_option maxRecDepth 100000 in
theorem sb_copyCheck_used (b : Nat) (w : World) (h0 : w.cell? ⟨b, 0, none⟩ = some (.pointer (some ⟨b, 0, none⟩))) :
    Calls Tryz.prog 68 #[.pointer (some ⟨b, 0, none⟩)] w fun e w' => e = .returned (.tuple #[]) ∧ w = w' := by
  obtain ⟨j, hj, hjs⟩ := Option.map_eq_some_iff.1 info_builder
  go_enter Tryz.func68, Tryz.ntmps68
  go_wp2
  rw [Lib.run_neq_ptr_same w _ Tryz.underlying95 hj]
  go_wp2
  go_end0
  exact ⟨rfl, rfl⟩

set_option maxRecDepth 100000 in
theorem sb_copyCheck_fresh (b : Nat) (v : Value) (w : World) (hb : Blk w b #[.pointer none, v] 97) :
    Calls Tryz.prog 68 #[.pointer (some ⟨b, 0, none⟩)] w fun e w' => e = .returned (.tuple #[]) ∧ w' = w.setCell ⟨b, 0, none⟩ (.pointer (some ⟨b, 0, none⟩)) := by
  obtain ⟨j, hj, hjs⟩ := Option.map_eq_some_iff.1 info_builder
  have h0 := hb.cell (i := 0) rfl
  have hfz := hb.free 0
  have hsh : w.shape? (⟨b, 0, none⟩ : Addr).block = some (97, 2) := by
    unfold Blk at hb
    simp [World.shape?, hb]
  go_enter Tryz.func68, Tryz.ntmps68
  go_wp2
  rw [Lib.run_to_unsafe w ⟨b, 0, none⟩ Tryz.underlying95 Tryz.underlying164 hj (by rw [hjs]; decide) hsh (Nat.zero_lt_succ 1)]
  simp only [Result.andThen]
  rw [Oper.upon_value]
  go_wp2
  rw [run_callFunc_extern Tryz.func93 (by kernel_rfl) (by kernel_rfl) (by kernel_rfl) (e := Extern.AbiNoEscape.same) (by kernel_rfl)]
  rw [Lib.run_noEscape]
  simp only [Result.andThen]
  rw [Oper.upon_value]
  go_wp2
  rw [Lib.run_from_unsafe w ⟨b, 0, none⟩ Tryz.underlying164 Tryz.underlying95 hj hsh (by kernel_rfl)]
  simp only [Result.andThen]
  rw [Oper.upon_value]
  go_wp2
  go_end0
  exact ⟨rfl, rfl⟩

theorem sb_copyCheck {base b : Nat} {l : List UInt8} (w : World) (h : SbIs w base b l) :
    Calls Tryz.prog 68 #[.pointer (some ⟨b, 0, none⟩)] w fun e w' => e = .returned (.tuple #[]) ∧
      (∃ v, Blk w' b #[.pointer (some ⟨b, 0, none⟩), v] 97 ∧ w'.ownsRow base 5 1 v l.length (Lib.byteCells l) ∧ base ≤ b) ∧ Fr (· = b) w w' := by
  obtain ⟨p, v, hb, hp, hr, hbb⟩ := h
  have hne := row_type hr hb (by decide)
  rcases hp with rfl | rfl
  · refine (sb_copyCheck_fresh b v w hb).mono ?_
    rintro e w' ⟨rfl, rfl⟩
    exact ⟨rfl, ⟨v, hb.set 0 _, row_fr hr (Fr.set1 w b 0 _) (fun k hk e => hne (e ▸ hk)), hbb⟩, Fr.set1 w b 0 _⟩
  · refine (sb_copyCheck_used b w (hb.cell rfl)).mono ?_
    rintro e w' ⟨rfl, rfl⟩
    exact ⟨rfl, ⟨v, hb, hr, hbb⟩, Fr.refl _ _⟩

/-- The end of a write: the new row is laid into the builder. -/
theorem sb_put {base b : Nat} {w w1 w2 : World} {v v' : Value} {l l' : List UInt8} (hbase : base ≤ w.heap.size) (hb : Blk w1 b #[.pointer (some ⟨b, 0, none⟩), v] 97) (hr : w1.ownsRow base 5 1 v l.length (Lib.byteCells l)) (hbb : base ≤ b) (f : Fr (· = b) w w1)
    (hr2 : w2.ownsRow base 5 1 v' l'.length (Lib.byteCells l')) (hg : Fr (fun k => v.ownBlock = some k) w1 w2) :
    SbIs (w2.setCell ⟨b, 1, none⟩ v') base b l' ∧ FrB base b w (w2.setCell ⟨b, 1, none⟩ v') := by
  have hne := row_type hr hb (by decide)
  have hb2 := hb.fr hg hne
  have hne2 := row_type hr2 hb2 (by decide)
  refine ⟨⟨_, v', hb2.set 1 _, .inr rfl, row_fr hr2 (Fr.set1 w2 b 1 _) (fun k hk e => hne2 (e ▸ hk)), hbb⟩, ?_⟩
  have ff : Fr (fun k => k = b ∨ v.ownBlock = some k) w (w2.setCell ⟨b, 1, none⟩ v') :=
    (f.mono (T := fun k => k = b ∨ v.ownBlock = some k) fun _ _ e => .inl e).trans ((hg.mono (T := fun k => k = b ∨ v.ownBlock = some k) fun _ _ e => .inr e).then (Fr.set1 w2 b 1 v') fun n _ e => .inl e)
  refine ⟨ff.os, ff.tape, ff.output, ff.size, fun k hk => ff.block k (by omega) ?_, fun g cs t hgc ht hgb => hgc.fr ff ?_⟩
  · rintro (e | e)
    · omega
    · have := (row_lt hr k e).2; omega
  · rintro (e | e)
    · exact hgb e
    · exact row_type hr (hgc.fr f hgb) ht e

theorem byteCells_str (l : List UInt8) (s : ByteArray) : Lib.byteCells l ++ Lib.strCells s = Lib.byteCells (l ++ s.data.toList) := by
  simp [Lib.byteCells, Lib.strCells]

set_option maxRecDepth 100000 in
theorem sb_WriteString {base b : Nat} {l : List UInt8} (s : ByteArray) (w : World) (h : SbIs w base b l) (hbase : base ≤ w.heap.size) (hlen : l.length + s.size ≤ 140737488355328) :
    Calls Tryz.prog 45 #[.pointer (some ⟨b, 0, none⟩), .string s] w fun e w' => e = .returned (.tuple #[.int .i64 s.size, .nilIface]) ∧ SbIs w' base b (l ++ s.data.toList) ∧ FrB base b w w' := by
  obtain ⟨i0, hi, hz0, hz1, hz2⟩ := info_parts info_byte
  go_enter Tryz.func45, Tryz.ntmps45
  go_wp2_with fail
  refine (sb_copyCheck _ h).mono ?_
  rintro e w1 ⟨rfl, ⟨v, hb, hr, hbb⟩, hf⟩
  have c1 : w1.cell? ⟨b, 1, none⟩ = some v := hb.cell rfl
  have hs1 := hf.size
  go_wp2_with (at_builtin; refine Lib.wpList_append_own_string _ rfl _ _ 22 9 rfl base 5 i0 Tryz.underlying22 Tryz.underlying9 hi hz0 hz1 hz2 v l.length (Lib.byteCells l) rfl hr s rfl (by unfold maxLen; omega) (by omega) (by omega) ?_)
  intro v' w2 hr2 hg _
  have hg' : Fr (fun k => v.ownBlock = some k) w1 w2 := Fr.of_grown hg fun k hk => .inl hk
  have hb2 := hb.fr hg' (row_type hr hb (by decide))
  have d1 : w2.cell? ⟨b, 1, none⟩ = some v := hb2.cell rfl
  have f1 := hb2.free 1
  rw [byteCells_str] at hr2
  have hl : l.length + s.size = (l ++ s.data.toList).length := by rw [List.length_append, size_eq_len]
  rw [hl] at hr2
  have hfin := sb_put hbase hb hr hbb hf hr2 hg'
  obtain ⟨A, n, c, hv⟩ : ∃ A n c, v' = .slice A n c := by
    rcases hr2.2 with ⟨e, h0⟩ | ⟨g, cap, cur, hv, _⟩
    · exact ⟨none, 0, 0, e⟩
    · exact ⟨_, _, _, hv⟩
  have HH := Lib.hid hfin
  clear hfin hr2 hg hl
  subst hv
  go_wp2
  go_ret2
  exact ⟨rfl, HH.out⟩

set_option maxRecDepth 100000 in
theorem sb_WriteByte {base b : Nat} {l : List UInt8} (c : UInt8) (w : World) (h : SbIs w base b l) (hbase : base ≤ w.heap.size) (hlen : l.length + 1 ≤ 140737488355328) :
    Calls Tryz.prog 48 #[.pointer (some ⟨b, 0, none⟩), .int .u8 c.toNat] w fun e w' => e = .returned .nilIface ∧ SbIs w' base b (l ++ [c]) ∧ FrB base b w w' := by
  obtain ⟨i0, hi, hz0, hz1, hz2⟩ := info_parts info_byte
  go_enter Tryz.func48, Tryz.ntmps48
  go_wp2_with fail
  refine (sb_copyCheck _ h).mono ?_
  rintro e w1 ⟨rfl, ⟨v, hb, hr, hbb⟩, hf⟩
  have c1 : w1.cell? ⟨b, 1, none⟩ = some v := hb.cell rfl
  have hs1 := hf.size
  have A1 : Fr (fun _ => False) w1 (w1.alloc (.cells #[.int .u8 c.toNat] 5)) := (Fr.refl _ _).alloc _
  have hra := row_fr hr A1 (fun _ _ x => x)
  go_wp2_with (at_builtin; refine wpList_append_own_at _ rfl _ _ 22 rfl base 5 i0 _ 1 1 Tryz.underlying22 hi hz0 hz1 hz2 rfl (by decide) v l.length (Lib.byteCells l) rfl hra ⟨w1.heap.size, 0, none⟩ 1 1 [.int .u8 c.toNat] rfl rfl (news_of_blk (Blk.new w1 _ _)) (by simp [Value.oneCell']) (by unfold maxLen; omega) (by omega) (by rw [alloc_size]; omega) ?_)
  intro v' w2 hr2 hg _ _
  have hg' : Fr (fun k => v.ownBlock = some k) w1 w2 := (A1.mono fun _ _ x => x.elim).trans (Fr.of_grown hg fun k hk => .inl hk)
  have hb2 := hb.fr hg' (row_type hr hb (by decide))
  have d1 : w2.cell? ⟨b, 1, none⟩ = some v := hb2.cell rfl
  have f1 := hb2.free 1
  have hbc : Lib.byteCells l ++ [.int .u8 c.toNat] = Lib.byteCells (l ++ [c]) := by simp [Lib.byteCells]
  rw [hbc] at hr2
  have hl : l.length + 1 = (l ++ [c]).length := by simp
  rw [hl] at hr2
  have hfin := sb_put hbase hb hr hbb hf hr2 hg'
  obtain ⟨A, n, cc, hv⟩ : ∃ A n cc, v' = .slice A n cc := by
    rcases hr2.2 with ⟨e, h0⟩ | ⟨g, cap, cur, hv, _⟩
    · exact ⟨none, 0, 0, e⟩
    · exact ⟨_, _, _, hv⟩
  have HH := Lib.hid hfin
  clear hfin hr2 hg hl
  subst hv
  go_wp2
  go_ret
  exact ⟨rfl, HH.out⟩

theorem sb_String {base b : Nat} {l : List UInt8} (w : World) (h : SbIs w base b l) (hbase : base ≤ w.heap.size) :
    Calls Tryz.prog 49 #[.pointer (some ⟨b, 0, none⟩)] w fun e w' => e = .returned (.string ⟨l.toArray⟩) ∧ Below base w w' := by
  obtain ⟨p, v, hb, hp, hr, hbb⟩ := h
  have hne := row_type hr hb (by decide)
  have hl : l.length = (Lib.byteCells l).length := by simp [Lib.byteCells]
  rw [hl] at hr
  refine Tryz.Builder_String_any base b l w ?_ hbase
  rcases hp with rfl | rfl
  · exact .inl ⟨hbb, v, hb, hr, hne⟩
  · exact .inr ⟨hbb, v, hb, hr, hne⟩

/-- The numeral of a number. -/
def dec (n : Int) : ByteArray := ⟨(Lib.decDigits n.toNat).toArray⟩

abbrev PowTab (w : World) : Prop := Lib.TabIs Tryz.prog w "internal/strconv.uint64pow10" .u64 Lib.pow10Tab

theorem pow_global : Tryz.prog.globalNamed "internal/strconv.uint64pow10" = some 0 := by kernel_rfl

theorem pow_lt {w : World} (h : PowTab w) : 0 < w.heap.size := by
  unfold PowTab Lib.TabIs World.var? at h
  rw [pow_global] at h
  cases hg : w.heap[0]? with
  | none => rw [Option.bind_some, hg] at h; simp at h
  | some o => exact (Array.getElem?_eq_some_iff.1 hg).1

theorem pow_of {w w' : World} (h : PowTab w) (e : w'.heap[0]? = w.heap[0]?) : PowTab w' := by
  unfold PowTab Lib.TabIs World.var? at *
  rw [pow_global] at *
  simp only [Option.bind_some, e] at *
  exact h

theorem pow_fr {S : Nat → Prop} {w w' : World} (h : PowTab w) (f : Fr S w w') (hs : ¬ S 0) : PowTab w' := pow_of h (f.block _ (pow_lt h) hs)

theorem pow_frB {base b : Nat} {w w' : World} (h : PowTab w) (f : FrB base b w w') (hb : 0 < base) : PowTab w' := pow_of h (f.below _ hb)

theorem holds_zero0 (w : World) (T : TypeId) (nd : Nat) (hs : nd ≤ 24) : Sort.Holds (fun (b : UInt8) => Value.int .u8 (b.toNat : Int)) (w.alloc (.cells Lib.zeros24 T)) w.heap.size 0 (Array.replicate nd (0 : UInt8)) := fun j hj => by
  have hj' : j < nd := by simpa using hj
  refine ⟨?_, World.frozen?_alloc_new _ _ _ _⟩
  rw [World.cell?_alloc_new, Lib.zeros24_at _ (by omega), getElem!_pos _ j hj]
  simp

set_option maxHeartbeats 400000 in
set_option maxRecDepth 100000 in
theorem istrconv_FormatUint (n : Int) (h0 : 0 ≤ n) (h1 : n ≤ 18446744073709551615) (w : World) (htab : PowTab w) :
    Calls Tryz.prog 69 #[.int .u64 n, .int .i64 10] w fun e w' => e = .returned (.string (dec n)) ∧ Fr (fun _ => False) w w' := by
  obtain ⟨u, rfl⟩ : ∃ u : Nat, n = u := ⟨n.toNat, by omega⟩
  unfold dec
  rw [Int.toNat_natCast]
  by_cases hs : u < 100
  · go_enter Tryz.func69, Tryz.ntmps69
    go_wp2_with fail
    refine (Tryz.internal_strconv_small u hs _).mono ?_
    rintro e w' ⟨rfl, rfl⟩
    go_wp2
    go_ret
    exact ⟨rfl, Fr.refl _ _⟩
  · have hu1 : 1 ≤ u := by omega
    have hu64 : u < 18446744073709551616 := by omega
    have hnd20 : Lib.nDigits u ≤ 20 := by have := Lib.numDigits_eq u hu1 hu64; split at this <;> omega
    have hal : Tryz.prog.arrayLen 167 = 24 := by kernel_rfl
    have hsl : ∀ W, (Instr.sliceAt 167 (.pointer (some ⟨w.heap.size, 0, none⟩)) none (some (.int .i64 (Lib.nDigits u : Int))) none).run Tryz.prog W = .ok (.slice (some ⟨w.heap.size, 0, none⟩) (Lib.nDigits u) 24) W := fun W => by
      rw [run_sliceAt_array_h W 167 ⟨w.heap.size, 0, none⟩ (by simp [Program.arrayLen, Program.elem, Tryz.underlying167]) .i64 (Lib.nDigits u : Int) (by omega) (by rw [hal]; omega)]
      go_simp
    have hH0 := holds_zero0 w 167 (Lib.nDigits u) (by omega)
    have hfmt := Tryz.internal_strconv_formatBase10 w.heap.size 0 24 u (Array.replicate (Lib.nDigits u) 0) (w.alloc (.cells Lib.zeros24 167)) hH0 (by rw [Array.size_replicate]; exact Lib.lt_pow_nDigits u) hu64 (by rw [Array.size_replicate]; omega)
    rw [Array.size_replicate] at hfmt
    have HH0 := Lib.hid hH0
    have HF := Lib.hid hfmt
    clear hH0 hal hfmt
    go_enter Tryz.func69, Tryz.ntmps69
    go_wp2_with fail
    refine (Tryz.internal_strconv_numDigits u hu1 hu64 _ (Lib.tabIs_alloc htab _)).mono ?_
    rintro e w' ⟨rfl, rfl⟩
    go_wp2_with fail
    refine HF.out.mono ?_
    rintro e w' ⟨rfl, k, v', dk, rfl, hF⟩
    have hcv : (convert 22 9 (.slice (some ⟨w.heap.size, 0, none⟩) (Lib.nDigits u) 24)).run Tryz.prog ((Sort.putRow (fun (b : UInt8) => Value.int .u8 (b.toNat : Int)) (w.alloc (.cells Lib.zeros24 167)) w.heap.size 0 dk).drewN k) = .ok (.string ⟨(Lib.decDigits u).toArray⟩) ((Sort.putRow (fun (b : UInt8) => Value.int .u8 (b.toNat : Int)) (w.alloc (.cells Lib.zeros24 167)) w.heap.size 0 dk).drewN k) := by
      have h := run_convert_bytes_back (P := Tryz.prog) ((Sort.putRow (fun (b : UInt8) => Value.int .u8 (b.toNat : Int)) (w.alloc (.cells Lib.zeros24 167)) w.heap.size 0 dk).drewN k) 22 9 5 ⟨w.heap.size, 0, none⟩ 24 (Lib.decDigits u) Tryz.underlying22 Tryz.underlying5 Tryz.underlying9 (fun j hj => by
        rw [Lib.row_is_numeral hF j hj, Lib.add_plain, World.cell?_drewN]
        exact Sort.cell?_putRow (fun (b : UInt8) => Value.int .u8 (b.toNat : Int)) _ w.heap.size 0 _ dk HH0.out (by rw [hF.size, Array.size_replicate]) j (by rw [hF.size]; rw [Lib.decDigits_length] at hj; exact hj))
      rw [Lib.decDigits_length] at h
      exact h
    go_wp2
    go_ret
    refine ⟨rfl, ?_⟩
    rw [Sort.alloc_eq_grow]
    obtain ⟨os', _, e⟩ := Sort.putRow_grow_new (fun (b : UInt8) => Value.int .u8 (b.toNat : Int)) w #[.cells Lib.zeros24 167] w.heap.size 0 dk (Nat.le_refl _)
    rw [e]
    refine Fr.drewN ?_ k
    exact ⟨rfl, rfl, rfl, by show _ ≤ (w.heap ++ os').size; simp, fun i hi _ => by show (w.heap ++ os')[i]? = _; rw [Array.getElem?_append_left hi]⟩

theorem strconv_FormatUint (n : Int) (h0 : 0 ≤ n) (h1 : n ≤ 18446744073709551615) (w : World) (htab : PowTab w) :
    Calls Tryz.prog 46 #[.int .u64 n, .int .i64 10] w fun e w' => e = .returned (.string (dec n)) ∧ Fr (fun _ => False) w w' := by
  go_enter Tryz.func46, Tryz.ntmps46
  go_wp2_with fail
  refine (istrconv_FormatUint n h0 h1 _ htab).mono ?_
  rintro e w' ⟨rfl, hf⟩
  go_wp2
  go_ret
  exact ⟨rfl, hf⟩

end Go.Proofs.YteagpbcmfnopfaaGreatDoor
