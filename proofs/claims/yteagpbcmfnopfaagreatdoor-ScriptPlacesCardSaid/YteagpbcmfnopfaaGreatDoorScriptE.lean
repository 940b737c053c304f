/- Package script, walked: Print. -/
import Derived.Test.YteagpbcmfnopfaaGreatDoorScriptC
import Derived.Test.YteagpbcmfnopfaaGreatDoorStr
import Derived.Test.YteagpbcmfnopfaaGreatDoorSl
import Derived.Deep.RegionWith
import Derived.Deep.QuietTactic
import Derived.BigQuiet
namespace Go.Proofs.YteagpbcmfnopfaaGreatDoor
open Go.RowKit

def spaced (n : Int) : List UInt8 := 32 :: (dec n).data.toList

def wordOf (k : Int) : ByteArray := ((aget k wordsL).getD ByteArray.empty)

def lineBytes (c : Cmd) : List UInt8 :=
  (wordOf c.k).data.toList ++ (if c.k = 1 then spaced c.t else if c.k = 2 ∨ c.k = 5 then spaced c.u ++ spaced c.v else if c.k = 3 ∨ c.k = 6 then spaced c.u else []) ++ [10]

def printL (l : List Cmd) : List UInt8 := l.flatMap fun c => if c.right then lineBytes c else []

def printC (l : List Cmd) : ByteArray := ⟨(printL l).toArray⟩

theorem dec_size (n : Int) : (dec n).size ≤ 20 ∨ 18446744073709551616 ≤ n := by
  by_cases h : n < 18446744073709551616
  · left
    show (Lib.decDigits n.toNat).toArray.size ≤ 20
    rw [List.size_toArray, Lib.decDigits_length]
    by_cases h1 : 1 ≤ n.toNat
    · have := Lib.numDigits_eq n.toNat h1 (by omega); split at this <;> omega
    · have : n.toNat = 0 := by omega
      rw [this]
      decide +kernel
  · right; omega

set_option maxRecDepth 100000 in
theorem print_num {base b : Nat} {l : List UInt8} (n : Int) (h0 : 0 ≤ n) (h1 : n ≤ 18446744073709551615) (w : World) (htab : PowTab w) (h : SbIs w base b l) (hbase : base ≤ w.heap.size) (hlen : l.length ≤ 70368744177664) :
    Calls Tryz.prog 44 #[.int .u64 n, .pointer (some ⟨b, 0, none⟩)] w fun e w' => e = .returned (.tuple #[]) ∧ SbIs w' base b (l ++ spaced n) ∧ FrB base b w w' := by
  have hd := (dec_size n).resolve_right (by omega)
  go_enter Tryz.func44, Tryz.ntmps44
  go_wp2_with fail
  refine (strconv_FormatUint n h0 h1 _ htab).mono ?_
  rintro e w1 ⟨rfl, hf1⟩
  obtain ⟨d, hdd⟩ : ∃ d, d = dec n := ⟨_, rfl⟩
  have HD := Lib.hid hdd
  rw [← hdd] at hd ⊢
  clear hdd
  have hs1 := hf1.size
  go_wp2_with fail
  refine (sb_WriteString _ _ (h.fr hf1) (by omega) (by rw [ByteArray.size_append]; show l.length + (1 + d.size) ≤ _; omega)).mono ?_
  rintro e w2 ⟨rfl, h2, hf2⟩
  go_wp2
  go_end0
  refine ⟨rfl, ?_, (FrB.of_fr hf1 hbase).trans hf2⟩
  have : ((⟨#[32]⟩ : ByteArray) ++ d).data.toList = spaced n := by rw [HD.out]; simp [spaced]
  rw [this] at h2
  exact h2

theorem right_word {c : Cmd} (h : c.right = true) : aget c.k wordsL = some (wordOf c.k) ∧ (wordOf c.k).size ≤ 9 ∧ (c.k = 1 ∨ c.k = 2 ∨ c.k = 3 ∨ c.k = 4 ∨ c.k = 5 ∨ c.k = 6) ∧ (c.k = 1 → 0 ≤ c.t) := by
  obtain ⟨k, t, u, v⟩ := c
  have hk : k = 1 ∨ k = 2 ∨ k = 3 ∨ k = 4 ∨ k = 5 ∨ k = 6 := by
    simp only [Cmd.right] at h
    split at h
    · omega
    · split at h
      · omega
      · split at h
        · omega
        · split at h
          · omega
          · cases h
  refine ⟨?_, ?_, hk, ?_⟩
  · rcases hk with rfl | rfl | rfl | rfl | rfl | rfl <;> rfl
  · rcases hk with rfl | rfl | rfl | rfl | rfl | rfl <;> (simp only [wordOf]; decide)
  · intro e
    dsimp only at e ⊢
    subst e
    simp [Cmd.right] at h
    exact h.1.1

theorem RowAt.below {w w' : World} {b off : Nat} {xs : List Value} (h : RowAt w b off xs) (e : w'.heap[b]? = w.heap[b]?) : RowAt w' b off xs := fun j u hj => by
  rw [World.cell?_of_block (a := ⟨b, off + j, none⟩) e]
  exact h j u hj

def cmdCells1 (c : Cmd) : List Value := [.int .i64 c.k, .int .i64 c.t, .int .u64 c.u, .int .u64 c.v]

theorem cmdCells_at (l : List Cmd) : ∀ (j : Nat) (c : Cmd), l[j]? = some c → ∀ i, i < 4 → (l.flatMap cmdCells1)[4 * j + i]? = (cmdCells1 c)[i]? := by
  induction l with
  | nil => intro j c h; simp at h
  | cons a l ih =>
    intro j c h i hi
    rw [List.flatMap_cons]
    cases j with
    | zero =>
      simp at h
      subst h
      rw [List.getElem?_append_left (by simp [cmdCells1]; omega)]
      simp
    | succ j =>
      rw [List.getElem?_append_right (by simp [cmdCells1]; omega)]
      have := ih j c (by simpa using h) i hi
      simp only [cmdCells1, List.length_cons, List.length_nil] at *
      rw [show 4 * (j + 1) + i - (0 + 1 + 1 + 1 + 1) = 4 * j + i from by omega]
      exact this

/-- A slice of commands that is read. -/
def CmdsAt (w : World) (A : Option Addr) (l : List Cmd) : Prop := l = [] ∨ ∃ b off, A = some ⟨b, off, none⟩ ∧ RowAt w b off (l.flatMap cmdCells1) ∧ b < w.heap.size

theorem CmdsAt.fr {w w' : World} {A : Option Addr} {l : List Cmd} (h : CmdsAt w A l) (f : Fr (fun _ => False) w w') : CmdsAt w' A l := by
  rcases h with h | ⟨b, off, e, hr, hb⟩
  · exact .inl h
  · exact .inr ⟨b, off, e, hr.fr f (fun x => x), Nat.lt_of_lt_of_le hb f.size⟩

theorem printL_take (l : List Cmd) (j : Nat) (c : Cmd) (h : l[j]? = some c) : printL (l.take (j + 1)) = printL (l.take j) ++ (if c.right then lineBytes c else []) := by
  have hj : j < l.length := (List.getElem?_eq_some_iff.1 h).1
  rw [List.take_succ_eq_append_getElem hj]
  have : l[j] = c := by rw [List.getElem?_eq_getElem hj] at h; exact Option.some.inj h
  rw [this]
  simp [printL]

set_option maxHeartbeats 3200000 in
set_option maxRecDepth 100000 in
theorem script_Print (l : List Cmd) (A : Option Addr) (cap : Nat) (w : World) (hl : l.length ≤ 1000000000) (htab : PowTab w) (hr : CmdsAt w A l)
    (hw : ∀ c ∈ l, c.t ≤ 9223372036854775807 ∧ 0 ≤ c.u ∧ c.u ≤ 18446744073709551615 ∧ 0 ≤ c.v ∧ c.v ≤ 18446744073709551615) (hsz : ∀ j, (printL (l.take j)).length ≤ 70368744177664) :
    Calls Tryz.prog 16 #[.slice A l.length cap] w fun e w' => e = .returned (.string (printC l)) ∧ Fr (fun _ => False) w w' := by
  have hS0 := SbIs.fresh w
  go_enter Tryz.func16, Tryz.ntmps16
  go_wp2
  go_loopw [10] (fun i wr => ∃ j : Nat, j ≤ l.length ∧ i = .int .i64 j ∧ SbIs wr w.heap.size w.heap.size (printL (l.take j)) ∧ Fr (fun _ => False) w wr) (fun i _ => l.length - (intOf i).toNat)
  case atStart => exact ⟨0, Nat.zero_le _, rfl, by simpa [printL] using hS0, (Fr.refl _ _).alloc _⟩
  case round =>
    obtain ⟨j, hj, rfl, hS, hfr⟩ := hrel
    by_cases hlt : j < l.length
    · obtain ⟨c, hc⟩ : ∃ c, l[j]? = some c := ⟨_, List.getElem?_eq_getElem hlt⟩
      have hA := (hr.fr hfr).resolve_left (fun e => by rw [e] at hlt; simp at hlt)
      obtain ⟨b, off, rfl, hrow, hbl⟩ := hA
      have r0 : wr.cell? ⟨b, off + j * 4, none⟩ = some (.int .i64 c.k) := by have := hrow (4 * j + 0) _ (by rw [cmdCells_at l j c hc 0 (by omega)]; rfl); rwa [show off + (4 * j + 0) = off + j * 4 from by omega] at this
      have r1 : wr.cell? ⟨b, off + j * 4 + 1, none⟩ = some (.int .i64 c.t) := by have := hrow (4 * j + 1) _ (by rw [cmdCells_at l j c hc 1 (by omega)]; rfl); rwa [show off + (4 * j + 1) = off + j * 4 + 1 from by omega] at this
      have r2 : wr.cell? ⟨b, off + j * 4 + 2, none⟩ = some (.int .u64 c.u) := by have := hrow (4 * j + 2) _ (by rw [cmdCells_at l j c hc 2 (by omega)]; rfl); rwa [show off + (4 * j + 2) = off + j * 4 + 2 from by omega] at this
      have r3 : wr.cell? ⟨b, off + j * 4 + 3, none⟩ = some (.int .u64 c.v) := by have := hrow (4 * j + 3) _ (by rw [cmdCells_at l j c hc 3 (by omega)]; rfl); rwa [show off + (4 * j + 3) = off + j * 4 + 3 from by omega] at this
      have hcm : c ∈ l := List.mem_of_getElem? hc
      have hwc := hw c hcm
      have HT := Lib.hid (printL_take l j c hc)
      have hlen1 := hsz (j + 1)
      have hlen0 := hsz j
      have gl := hfr.size
      have gg := pow_lt htab
      have gl3 := hS.lt
      clear hc
      go_wp2_with fail
      refine (script_Right c _).mono ?_
      rintro e w2 ⟨rfl, hf2⟩
      have B2 := Blk.fr (h := by exact Blk.new wr _ _) hf2 (fun x => x)
      have hS2 := SbIs.fr (hS.fr (by exact (Fr.refl _ _).alloc _)) hf2
      have F2 := (hfr.alloc (.cells #[.int .i64 c.k, .int .i64 c.t, .int .u64 c.u, .int .u64 c.v] 47)).trans hf2
      have hs2 := F2.size
      clear hf2
      cases hcr : c.right with
      | false =>
        go_wp2
        go_roundw
        case rel => exact ⟨j + 1, by omega, by go_num, by rw [HT.out, hcr]; simpa using hS2, F2⟩
        case measure => simp [intOf]; omega
      | true =>
        have e0 := B2.cell (i := 0) rfl
        have e1 := B2.cell (i := 1) rfl
        have e2 := B2.cell (i := 2) rfl
        have e3 := B2.cell (i := 3) rfl
        obtain ⟨hwd, hws, hks, hkt⟩ := right_word hcr
        have HW := Lib.hid hwd
        obtain ⟨wd, hwde⟩ : ∃ wd, wd = wordOf c.k := ⟨_, rfl⟩
        have HWD := Lib.hid hwde
        rw [← hwde] at hws
        have HC := Lib.hid hcr
        have hkt' : c.k = 1 → 0 ≤ c.t ∧ c.t ≤ 9223372036854775807 := fun h => ⟨hkt h, hwc.1⟩
        have HKT := Lib.hid hkt'
        obtain ⟨_, u0, u1, v0, v1⟩ := hwc
        clear hwd hwde hcr hkt hkt'
        go_wp2
        first | go_region_with (first
          | (go_at_call 47; refine (script_words _).mono ?_; rintro e w3 ⟨m, rfl, hm1, hm, hf3⟩; have hlook := hm.look K_int Tryz.underlying104 (zero_string _) c.k false; rw [HW.out, ← HWD.out] at hlook; simp only [Option.elim, eS, eI, Bool.false_eq_true, if_false] at hlook; have B3 := Blk.fr (h := by exact B2) hf3 (fun x => x); have g0 := B3.cell (i := 0) rfl; have S3 := SbIs.fr (h := by exact hS2) hf3; have F3 := F2.trans (Fr.trans (by exact (Fr.refl _ _).drew) hf3); clear hm hf3)
          | (go_at_call 45; refine (sb_WriteString wd _ S3 F3.size (by omega)).mono ?_; rintro e w4 ⟨rfl, S4, hf4⟩; have B4 := hf4.blk _ _ _ B3 (by decide) (by omega))) | fail
        all_goals
          have F4 : Fr (fun _ => False) w w4 := FrB.join F3 hf4
          have T4 := pow_fr htab F4 (fun x => x)
          have L4 := F4.size
          have z0 := B4.cell (i := 0) rfl
          have z1 := B4.cell (i := 1) rfl
          have z2 := B4.cell (i := 2) rfl
          have z3 := B4.cell (i := 3) rfl
          have hlw : (printL (l.take j) ++ wd.data.toList).length ≤ 70368744177664 := by
            have h1 := congrArg List.length HT.out
            rw [HC.out, if_pos rfl, List.length_append, lineBytes, List.length_append, List.length_append] at h1
            rw [List.length_append, HWD.out]
            omega
          clear hf4 g0 hlook
          rcases hks with hk | hk | hk | hk | hk | hk
          · have hk : c.k = 1 := hk
            have q1 : (c.k == 1) = true := by simp [hk]
            have q2 : (c.k == 2) = false := by simp [hk]
            have q5 : (c.k == 5) = false := by simp [hk]
            have q3 : (c.k == 3) = false := by simp [hk]
            have q6 : (c.k == 6) = false := by simp [hk]
            have hline : lineBytes c = wd.data.toList ++ (spaced c.t) ++ [10] := by simp [lineBytes, hk, HWD.out]
            have HL := Lib.hid hline
            clear hline
            obtain ⟨t0, t1⟩ := HKT.out hk
            have hk' := Lib.hid hk
            clear hk
            go_wp2_with fail
            refine (print_num c.t t0 (by omega) _ T4 S4 F4.size hlw).mono ?_
            rintro e x0 ⟨rfl, S50, hx0⟩
            have B50 := hx0.blk _ _ _ B4 (by decide) (by omega)
            have F50 : Fr (fun _ => False) w x0 := FrB.join F4 hx0
            have T50 := pow_fr htab F50 (fun x => x)
            have L50 := F50.size
            have y00 := B50.cell (i := 0) rfl
            have y10 := B50.cell (i := 1) rfl
            have y20 := B50.cell (i := 2) rfl
            have y30 := B50.cell (i := 3) rfl
            have len0 : ((printL (l.take j) ++ wd.data.toList) ++ spaced c.t).length ≤ 70368744177664 := by
              have h1 := congrArg List.length HT.out
              rw [HC.out, if_pos rfl, HL.out] at h1
              simp only [List.length_append] at h1 ⊢
              omega
            clear hx0
            go_wp2_with fail
            refine (sb_WriteByte 10 _ S50 F50.size (by have := len0; omega)).mono ?_
            rintro e xz ⟨rfl, Sz, hz⟩
            have Fz : Fr (fun _ => False) w xz := FrB.join F50 hz
            clear hz
            go_wp2
            go_roundw
            case rel => exact ⟨j + 1, by omega, by go_num, by rw [HT.out, HC.out, if_pos rfl, HL.out]; simpa [List.append_assoc] using Sz, Fz⟩
            case measure => simp [intOf]; omega
          · have hk : c.k = 2 := hk
            have q1 : (c.k == 1) = false := by simp [hk]
            have q2 : (c.k == 2) = true := by simp [hk]
            have q5 : (c.k == 5) = false := by simp [hk]
            have q3 : (c.k == 3) = false := by simp [hk]
            have q6 : (c.k == 6) = false := by simp [hk]
            have hline : lineBytes c = wd.data.toList ++ (spaced c.u ++ spaced c.v) ++ [10] := by simp [lineBytes, hk, HWD.out]
            have HL := Lib.hid hline
            clear hline
            have hk' := Lib.hid hk
            clear hk
            go_wp2_with fail
            refine (print_num c.u u0 u1 _ T4 S4 F4.size hlw).mono ?_
            rintro e x0 ⟨rfl, S50, hx0⟩
            have B50 := hx0.blk _ _ _ B4 (by decide) (by omega)
            have F50 : Fr (fun _ => False) w x0 := FrB.join F4 hx0
            have T50 := pow_fr htab F50 (fun x => x)
            have L50 := F50.size
            have y00 := B50.cell (i := 0) rfl
            have y10 := B50.cell (i := 1) rfl
            have y20 := B50.cell (i := 2) rfl
            have y30 := B50.cell (i := 3) rfl
            have len0 : ((printL (l.take j) ++ wd.data.toList) ++ spaced c.u).length ≤ 70368744177664 := by
              have h1 := congrArg List.length HT.out
              rw [HC.out, if_pos rfl, HL.out] at h1
              simp only [List.length_append] at h1 ⊢
              omega
            clear hx0
            go_wp2_with fail
            refine (print_num c.v v0 v1 _ T50 S50 F50.size len0).mono ?_
            rintro e x1 ⟨rfl, S51, hx1⟩
            have B51 := hx1.blk _ _ _ B50 (by decide) (by omega)
            have F51 : Fr (fun _ => False) w x1 := FrB.join F50 hx1
            have T51 := pow_fr htab F51 (fun x => x)
            have L51 := F51.size
            have y01 := B51.cell (i := 0) rfl
            have y11 := B51.cell (i := 1) rfl
            have y21 := B51.cell (i := 2) rfl
            have y31 := B51.cell (i := 3) rfl
            have len1 : (((printL (l.take j) ++ wd.data.toList) ++ spaced c.u) ++ spaced c.v).length ≤ 70368744177664 := by
              have h1 := congrArg List.length HT.out
              rw [HC.out, if_pos rfl, HL.out] at h1
              simp only [List.length_append] at h1 ⊢
              omega
            clear hx1
            go_wp2_with fail
            refine (sb_WriteByte 10 _ S51 F51.size (by have := len1; omega)).mono ?_
            rintro e xz ⟨rfl, Sz, hz⟩
            have Fz : Fr (fun _ => False) w xz := FrB.join F51 hz
            clear hz
            go_wp2
            go_roundw
            case rel => exact ⟨j + 1, by omega, by go_num, by rw [HT.out, HC.out, if_pos rfl, HL.out]; simpa [List.append_assoc] using Sz, Fz⟩
            case measure => simp [intOf]; omega
          · have hk : c.k = 3 := hk
            have q1 : (c.k == 1) = false := by simp [hk]
            have q2 : (c.k == 2) = false := by simp [hk]
            have q5 : (c.k == 5) = false := by simp [hk]
            have q3 : (c.k == 3) = true := by simp [hk]
            have q6 : (c.k == 6) = false := by simp [hk]
            have hline : lineBytes c = wd.data.toList ++ (spaced c.u) ++ [10] := by simp [lineBytes, hk, HWD.out]
            have HL := Lib.hid hline
            clear hline
            have hk' := Lib.hid hk
            clear hk
            go_wp2_with fail
            refine (print_num c.u u0 u1 _ T4 S4 F4.size hlw).mono ?_
            rintro e x0 ⟨rfl, S50, hx0⟩
            have B50 := hx0.blk _ _ _ B4 (by decide) (by omega)
            have F50 : Fr (fun _ => False) w x0 := FrB.join F4 hx0
            have T50 := pow_fr htab F50 (fun x => x)
            have L50 := F50.size
            have y00 := B50.cell (i := 0) rfl
            have y10 := B50.cell (i := 1) rfl
            have y20 := B50.cell (i := 2) rfl
            have y30 := B50.cell (i := 3) rfl
            have len0 : ((printL (l.take j) ++ wd.data.toList) ++ spaced c.u).length ≤ 70368744177664 := by
              have h1 := congrArg List.length HT.out
              rw [HC.out, if_pos rfl, HL.out] at h1
              simp only [List.length_append] at h1 ⊢
              omega
            clear hx0
            go_wp2_with fail
            refine (sb_WriteByte 10 _ S50 F50.size (by have := len0; omega)).mono ?_
            rintro e xz ⟨rfl, Sz, hz⟩
            have Fz : Fr (fun _ => False) w xz := FrB.join F50 hz
            clear hz
            go_wp2
            go_roundw
            case rel => exact ⟨j + 1, by omega, by go_num, by rw [HT.out, HC.out, if_pos rfl, HL.out]; simpa [List.append_assoc] using Sz, Fz⟩
            case measure => simp [intOf]; omega
          · have hk : c.k = 4 := hk
            have q1 : (c.k == 1) = false := by simp [hk]
            have q2 : (c.k == 2) = false := by simp [hk]
            have q5 : (c.k == 5) = false := by simp [hk]
            have q3 : (c.k == 3) = false := by simp [hk]
            have q6 : (c.k == 6) = false := by simp [hk]
            have hline : lineBytes c = wd.data.toList ++ ([]) ++ [10] := by simp [lineBytes, hk, HWD.out]
            have HL := Lib.hid hline
            clear hline
            have hk' := Lib.hid hk
            clear hk
            go_wp2_with fail
            refine (sb_WriteByte 10 _ S4 F4.size (by have := hlw; omega)).mono ?_
            rintro e xz ⟨rfl, Sz, hz⟩
            have Fz : Fr (fun _ => False) w xz := FrB.join F4 hz
            clear hz
            go_wp2
            go_roundw
            case rel => exact ⟨j + 1, by omega, by go_num, by rw [HT.out, HC.out, if_pos rfl, HL.out]; simpa [List.append_assoc] using Sz, Fz⟩
            case measure => simp [intOf]; omega
          · have hk : c.k = 5 := hk
            have q1 : (c.k == 1) = false := by simp [hk]
            have q2 : (c.k == 2) = false := by simp [hk]
            have q5 : (c.k == 5) = true := by simp [hk]
            have q3 : (c.k == 3) = false := by simp [hk]
            have q6 : (c.k == 6) = false := by simp [hk]
            have hline : lineBytes c = wd.data.toList ++ (spaced c.u ++ spaced c.v) ++ [10] := by simp [lineBytes, hk, HWD.out]
            have HL := Lib.hid hline
            clear hline
            have hk' := Lib.hid hk
            clear hk
            go_wp2_with fail
            refine (print_num c.u u0 u1 _ T4 S4 F4.size hlw).mono ?_
            rintro e x0 ⟨rfl, S50, hx0⟩
            have B50 := hx0.blk _ _ _ B4 (by decide) (by omega)
            have F50 : Fr (fun _ => False) w x0 := FrB.join F4 hx0
            have T50 := pow_fr htab F50 (fun x => x)
            have L50 := F50.size
            have y00 := B50.cell (i := 0) rfl
            have y10 := B50.cell (i := 1) rfl
            have y20 := B50.cell (i := 2) rfl
            have y30 := B50.cell (i := 3) rfl
            have len0 : ((printL (l.take j) ++ wd.data.toList) ++ spaced c.u).length ≤ 70368744177664 := by
              have h1 := congrArg List.length HT.out
              rw [HC.out, if_pos rfl, HL.out] at h1
              simp only [List.length_append] at h1 ⊢
              omega
            clear hx0
            go_wp2_with fail
            refine (print_num c.v v0 v1 _ T50 S50 F50.size len0).mono ?_
            rintro e x1 ⟨rfl, S51, hx1⟩
            have B51 := hx1.blk _ _ _ B50 (by decide) (by omega)
            have F51 : Fr (fun _ => False) w x1 := FrB.join F50 hx1
            have T51 := pow_fr htab F51 (fun x => x)
            have L51 := F51.size
            have y01 := B51.cell (i := 0) rfl
            have y11 := B51.cell (i := 1) rfl
            have y21 := B51.cell (i := 2) rfl
            have y31 := B51.cell (i := 3) rfl
            have len1 : (((printL (l.take j) ++ wd.data.toList) ++ spaced c.u) ++ spaced c.v).length ≤ 70368744177664 := by
              have h1 := congrArg List.length HT.out
              rw [HC.out, if_pos rfl, HL.out] at h1
              simp only [List.length_append] at h1 ⊢
              omega
            clear hx1
            go_wp2_with fail
            refine (sb_WriteByte 10 _ S51 F51.size (by have := len1; omega)).mono ?_
            rintro e xz ⟨rfl, Sz, hz⟩
            have Fz : Fr (fun _ => False) w xz := FrB.join F51 hz
            clear hz
            go_wp2
            go_roundw
            case rel => exact ⟨j + 1, by omega, by go_num, by rw [HT.out, HC.out, if_pos rfl, HL.out]; simpa [List.append_assoc] using Sz, Fz⟩
            case measure => simp [intOf]; omega
          · have hk : c.k = 6 := hk
            have q1 : (c.k == 1) = false := by simp [hk]
            have q2 : (c.k == 2) = false := by simp [hk]
            have q5 : (c.k == 5) = false := by simp [hk]
            have q3 : (c.k == 3) = false := by simp [hk]
            have q6 : (c.k == 6) = true := by simp [hk]
            have hline : lineBytes c = wd.data.toList ++ (spaced c.u) ++ [10] := by simp [lineBytes, hk, HWD.out]
            have HL := Lib.hid hline
            clear hline
            have hk' := Lib.hid hk
            clear hk
            go_wp2_with fail
            refine (print_num c.u u0 u1 _ T4 S4 F4.size hlw).mono ?_
            rintro e x0 ⟨rfl, S50, hx0⟩
            have B50 := hx0.blk _ _ _ B4 (by decide) (by omega)
            have F50 : Fr (fun _ => False) w x0 := FrB.join F4 hx0
            have T50 := pow_fr htab F50 (fun x => x)
            have L50 := F50.size
            have y00 := B50.cell (i := 0) rfl
            have y10 := B50.cell (i := 1) rfl
            have y20 := B50.cell (i := 2) rfl
            have y30 := B50.cell (i := 3) rfl
            have len0 : ((printL (l.take j) ++ wd.data.toList) ++ spaced c.u).length ≤ 70368744177664 := by
              have h1 := congrArg List.length HT.out
              rw [HC.out, if_pos rfl, HL.out] at h1
              simp only [List.length_append] at h1 ⊢
              omega
            clear hx0
            go_wp2_with fail
            refine (sb_WriteByte 10 _ S50 F50.size (by have := len0; omega)).mono ?_
            rintro e xz ⟨rfl, Sz, hz⟩
            have Fz : Fr (fun _ => False) w xz := FrB.join F50 hz
            clear hz
            go_wp2
            go_roundw
            case rel => exact ⟨j + 1, by omega, by go_num, by rw [HT.out, HC.out, if_pos rfl, HL.out]; simpa [List.append_assoc] using Sz, Fz⟩
            case measure => simp [intOf]; omega
    · obtain rfl : j = l.length := by omega
      go_wp2_with fail
      refine (sb_String _ hS hfr.size).mono ?_
      rintro e w2 ⟨rfl, hf2⟩
      go_wp2
      go_ret
      exact ⟨rfl, hfr.then_below hf2⟩

end Go.Proofs.YteagpbcmfnopfaaGreatDoor
