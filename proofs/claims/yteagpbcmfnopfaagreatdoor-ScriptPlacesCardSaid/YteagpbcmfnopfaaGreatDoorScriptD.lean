/- Package script, walked: Parse. -/
import Derived.Test.YteagpbcmfnopfaaGreatDoorScriptC
import Derived.Deep.LoopGhost
import Derived.Maps.AppendAt
namespace Go.Proofs.YteagpbcmfnopfaaGreatDoor
open Go.RowKit

def cmdCells (l : List Cmd) : List Value := l.flatMap fun c => [.int .i64 c.k, .int .i64 c.t, .int .u64 c.u, .int .u64 c.v]

theorem info_cmd : (Tryz.prog.info? 47).map (fun i => (i.zero, i.size, i.bytes)) = some (some (.agg #[.int .i64 0, .int .i64 0, .int .u64 0, .int .u64 0]), 4, 32) := by kernel_rfl

theorem cmdCells_snoc (l : List Cmd) (c : Cmd) : cmdCells l ++ [.int .i64 c.k, .int .i64 c.t, .int .u64 c.u, .int .u64 c.v] = cmdCells (l ++ [c]) := by
  simp [cmdCells]

def ParsePost (w : World) (r : Parsed) (e : Ending) (w' : World) : Prop :=
  ∃ v, e = .returned (.tuple #[v, .agg #[.int .i64 r.line, .int .i64 r.col], .int .i64 r.e]) ∧ w'.ownsRow w.heap.size 47 4 v r.l.length (cmdCells r.l) ∧ Fr (fun _ => False) w w'

def ParseRel (w : World) (s : ByteArray) (g p : Nat) (f : Nat) (v : Value) (b : Value) (wr : World) : Prop :=
  ∃ (x : Sc) (out : List Cmd), b = .bool x.next.2 ∧ ScIs wr g x ∧ Blk wr p #[.int .i64 0, .int .i64 0] 37 ∧ wr.ownsRow w.heap.size 47 4 v out.length (cmdCells out) ∧ v.ownBlock ≠ some g ∧ v.ownBlock ≠ some p ∧
    Fr (fun _ => False) w wr ∧ parseC s = parseGo (f + 1) x out ∧ out.length + x.s.size ≤ s.size ∧ (x.e = 0 → x.s.size + 1 ≤ f)

theorem Sc.next_true {x : Sc} (h : x.next.2 = true) : x.e = 0 ∧ 0 < x.s.size := by
  unfold Sc.next at h
  split at h
  · simp at h
  · rename_i hc
    omega

set_option maxHeartbeats 1600000 in
set_option maxRecDepth 100000 in
theorem script_Parse (s : ByteArray) (hs : s.size ≤ 1000000000) (w : World) :
    Calls Tryz.prog 13 #[.string s] w (ParsePost w (parseC s)) := by
  obtain ⟨i0, hi0, hz0, hz1, hz2⟩ := info_parts info_cmd
  go_enter Tryz.func13, Tryz.ntmps13
  go_wp2_with fail
  refine (scan_New s _).mono ?_
  rintro e w1 ⟨rfl, hb1, hf1⟩
  have B1 := Blk.fr (h := by exact (Blk.new w _ _)) hf1 (fun x => x)
  have F1 : Fr (fun _ => False) w w1 := Fr.trans (by exact (Fr.refl _ _).alloc _) hf1
  clear hf1
  rw [alloc_size] at hb1 ⊢
  go_wp2_with fail
  refine (scan_Next _ _ _ hb1).mono ?_
  rintro e w2 ⟨rfl, rfl⟩
  go_wp2_with fail
  go_loopg [5, 8] (s.size + 1) (fun f v b wr => ParseRel w s (w.heap.size + 1) w.heap.size f v b wr)
  case atStart => exact ⟨_, [], rfl, hb1, B1, ⟨rfl, .inl ⟨rfl, rfl⟩⟩, by simp [Value.ownBlock], by simp [Value.ownBlock], F1, rfl, by simp, fun _ => Nat.le_refl _⟩
  case round =>
    obtain ⟨x, out, rfl, hsc, hp, hown, ho1, ho2, hfr, hgo, hlen, hfu⟩ := hrel
    have hxok : x.ok := by unfold Sc.ok; omega
    have gl := hfr.size
    have gl2 := Blk.lt hsc
    cases hnx : x.next.2 with
    | false =>
      have hgo' := hgo
      simp only [parseGo, hnx, if_true] at hgo'
      have HG := Lib.hid hgo'
      clear hgo hgo' hnx
      go_wp2_with fail
      refine (scan_Err x _ _ hsc).mono ?_
      rintro e w3 ⟨rfl, rfl⟩
      by_cases he : x.e = 0
      · have he' : (x.e == 0) = true := by simpa using he
        have p0 := hp.cell (i := 0) rfl
        have p1 := hp.cell (i := 1) rfl
        have pf0 := hp.free 0
        have pf1 := hp.free 1
        have hgo2 := HG.out
        rw [if_neg (by simpa using he)] at hgo2
        have HG2 := Lib.hid hgo2
        clear hgo2 HG
        go_wp2
        have FF := ((Fr.refl (· = w.heap.size) wr).set (p := ⟨w.heap.size, 0, none⟩) (.inl rfl) (.int .i64 0)).set (p := ⟨w.heap.size, 1, none⟩) (.inl rfl) (.int .i64 0)
        exact bodyPost_ret (v := .tuple #[u5, .agg #[.int .i64 0, .int .i64 0], .int .i64 0]) (by simp [results, Tryz.results13, go_sem, p0, p1]) rfl
          (by rw [HG2.out]; exact ⟨_, rfl, row_fr hown FF (fun k hk e => ho2 (e ▸ hk)), hfr.then FF (fun n hn e => absurd e (by omega))⟩)
      · have he' : (x.e == 0) = false := by simpa using he
        have hgo2 := HG.out
        rw [if_pos (by simpa using he)] at hgo2
        have HG2 := Lib.hid hgo2
        clear hgo2 HG
        have p0 := hp.cell (i := 0) rfl
        have p1 := hp.cell (i := 1) rfl
        go_wp2_with fail
        refine (scan_Place x _ _ hsc).mono ?_
        rintro e w3 ⟨rfl, hf3⟩
        have hp3 := hp.fr hf3 (fun x => x)
        have q0 := hp3.cell (i := 0) rfl
        have q1 := hp3.cell (i := 1) rfl
        have qf0 := hp3.free 0
        have qf1 := hp3.free 1
        go_wp2
        have FF := ((Fr.refl (· = w.heap.size) w3).set (p := ⟨w.heap.size, 0, none⟩) (.inl rfl) (.int .i64 x.l)).set (p := ⟨w.heap.size, 1, none⟩) (.inl rfl) (.int .i64 x.c)
        exact bodyPost_ret (v := .tuple #[.slice none 0 0, .agg #[.int .i64 x.l, .int .i64 x.c], .int .i64 x.e]) (by simp [results, Tryz.results13, go_sem, q0, q1]) rfl
          (by rw [HG2.out]; exact ⟨_, rfl, ⟨rfl, .inl ⟨rfl, rfl⟩⟩, (hfr.trans hf3).then FF (fun n hn e => absurd e (by omega))⟩)
    | true =>
      obtain ⟨he, hpos⟩ := Sc.next_true hnx
      have hfu' := hfu he
      have hgo' := hgo
      simp only [parseGo, hnx, Bool.true_eq_false, if_false] at hgo'
      have HG := Lib.hid hgo'
      clear hgo hgo' hnx hfu
      go_wp2_with fail
      refine (scan_Place x _ _ hsc).mono ?_
      rintro e w3 ⟨rfl, hf3⟩
      have hsc3 : ScIs w3 _ x := Blk.fr hsc hf3 (fun x => x)
      have hp3 := hp.fr hf3 (fun x => x)
      have hown3 := row_fr hown hf3 (fun _ _ x => x)
      have F3 := hfr.trans hf3
      have hs3 := hf3.size
      clear hf3
      go_wp2_with fail
      refine (script_word x he hxok _ _ (by exact Blk.alloc hsc3 _)).mono ?_
      rintro e w4 ⟨rfl, hsc4, hf4⟩
      have hp4 := Blk.fr (h := by exact Blk.alloc hp3 _) hf4 (by omega)
      have hat4 := Blk.fr (h := by exact Blk.new w3 _ _) hf4 (by omega)
      have hown4 := row_fr hown3 (Fr.trans (by exact (Fr.refl (· = w.heap.size + 1) w3).alloc _) hf4) (fun k hk e => ho1 (e ▸ hk))
      have F4 := F3.then (Fr.trans (by exact (Fr.refl (· = w.heap.size + 1) w3).alloc _) hf4) (fun n hn e => absurd e (by omega))
      have hs4 := hf4.size
      rw [alloc_size] at hs4
      clear hf4
      go_wp2_with fail
      refine (script_kind x.letters.2 _).mono ?_
      rintro e w5 ⟨rfl, hf5⟩
      have hsc5 : ScIs w5 _ x.letters.1 := Blk.fr hsc4 hf5 (fun x => x)
      have hp5 := hp4.fr hf5 (fun x => x)
      have hat5 := hat4.fr hf5 (fun x => x)
      have hown5 := row_fr hown4 hf5 (fun _ _ x => x)
      have F5 := F4.trans hf5
      clear hf5
      have a0 := hat5.cell (i := 0) rfl
      have a1 := hat5.cell (i := 1) rfl
      have p0 := hp5.cell (i := 0) rfl
      have p1 := hp5.cell (i := 1) rfl
      have pf0 := hp5.free 0
      have pf1 := hp5.free 1
      by_cases hk : kindOf x.letters.2 = 0
      · have hk' : (kindOf x.letters.2 == 0) = true := by simpa using hk
        have hgo2 := HG.out
        rw [if_pos hk] at hgo2
        have HG2 := Lib.hid hgo2
        clear hgo2 HG hk
        have hne : w.heap.size ≠ w3.heap.size := by omega
        go_wp2
        go_region
        all_goals
          go_wp2
          refine bodyPost_ret (v := .tuple #[.slice none 0 0, .agg #[.int .i64 x.l, .int .i64 x.c], .int .i64 30]) (by simp [results, Tryz.results13, go_sem, p0, p1]) rfl ?_
          rw [HG2.out]
          refine ⟨_, rfl, ⟨rfl, .inl ⟨rfl, rfl⟩⟩, F5.then (T := (· = w.heap.size)) ?_ (fun n hn e => absurd e (by omega))⟩
          repeat (first | exact Fr.refl _ _ | refine Fr.set_eq ?_ _ _ | refine Fr.drew ?_)
      · have hk' : (kindOf x.letters.2 == 0) = false := by simpa using hk
        have hless := Sc.letters_less hk
        have hlle := x.letters.1.line_le (kindOf x.letters.2)
        have hgo2 := HG.out
        rw [if_neg hk] at hgo2
        have hok5 : x.letters.1.ok := by unfold Sc.ok at *; omega
        obtain ⟨gk', rfl⟩ : ∃ m, gk = m + 1 := ⟨gk - 1, by omega⟩
        have HG2 := Lib.hid hgo2
        clear hgo2 HG hk
        obtain ⟨kd, hkd⟩ : ∃ kd, kd = kindOf x.letters.2 := ⟨_, rfl⟩
        have HK := Lib.hid hkd
        rw [← hkd] at hk' hlle ⊢
        clear hkd
        go_wp2_with fail
        refine (script_line x.letters.1 kd hok5 _ _ hsc5).mono ?_
        rintro e w6 ⟨rfl, hsc6, hf6⟩
        have hp6 := hp5.fr hf6 (by omega)
        have hown6 := row_fr hown5 hf6 (fun k hk e => ho1 (e ▸ hk))
        have F6 := F5.then hf6 (fun n hn e => absurd e (by omega))
        have hs6 := F6.size
        have gl6 := Blk.lt hsc6
        clear hf6
        obtain ⟨c, hc⟩ : ∃ c, c = (x.letters.1.line kd).2 := ⟨_, rfl⟩
        obtain ⟨y, hy⟩ : ∃ y, y = (x.letters.1.line kd).1 := ⟨_, rfl⟩
        have HC := Lib.hid hc
        have HY := Lib.hid hy
        rw [← hc]
        rw [← hy] at hsc6 hlle
        clear hc hy
        unfold cmdV
        have A7 : Fr (fun _ => False) w6 (w6.alloc (.cells #[.int .i64 c.k, .int .i64 c.t, .int .u64 c.u, .int .u64 c.v] 47)) := (Fr.refl _ _).alloc _
        have hown7 := row_fr hown6 A7 (fun _ _ x => x)
        have hsc7 : ScIs _ _ y := Blk.fr hsc6 A7 (fun x => x)
        have hp7 := hp6.fr A7 (fun x => x)
        have F7 := F6.trans A7
        go_wp2_with (first
          | (at_builtin; refine wpList_append_own_at _ rfl _ _ 26 rfl w.heap.size 47 i0 _ 4 32 Tryz.underlying26 hi0 hz0 hz1 hz2 rfl (by decide) u5 out.length (cmdCells out) rfl hown7 ⟨w6.heap.size, 0, none⟩ 1 1 [.int .i64 c.k, .int .i64 c.t, .int .u64 c.u, .int .u64 c.v] rfl rfl (news_of_blk (Blk.new w6 _ _)) (by simp [Value.oneCell']) (by unfold maxLen; omega) (by omega) (by rw [alloc_size]; omega) ?_; intro v8 w8 hown8 hgr hnil hat; clear hnil)
          | fail)
        have fr8 : Fr (fun k => u5.ownBlock = some k) _ w8 := Fr.of_grown hgr (fun k hk => .inl hk)
        have hsc8 : ScIs w8 _ y := Blk.fr hsc7 fr8 ho1
        have hp8 := hp7.fr fr8 ho2
        have F8 := F7.then fr8 (fun n hn e => by have := row_lt hown5 n e; omega)
        rw [alloc_size] at hat
        have hv1 : v8.ownBlock ≠ some (w.heap.size + 1) := hat.elim (fun h => h ▸ ho1) (fun h e => by rw [h] at e; have := Option.some.inj e; omega)
        have hv2 : v8.ownBlock ≠ some w.heap.size := hat.elim (fun h => h ▸ ho2) (fun h e => by rw [h] at e; have := Option.some.inj e; omega)
        have HH := Lib.hid hat
        clear hgr hat
        go_wp2_with fail
        refine (scan_Next y _ _ hsc8).mono ?_
        rintro e w9 ⟨rfl, rfl⟩
        go_wp2
        go_roundg gk'
        case measure => omega
        case rel => exact ⟨y, out ++ [c], rfl, hsc8, hp8, by rw [List.length_append, ← cmdCells_snoc]; exact hown8, hv1, hv2, F8, by rw [HG2.out, HY.out, HC.out, HK.out], by rw [List.length_append]; simp; omega, fun _ => by omega⟩

end Go.Proofs.YteagpbcmfnopfaaGreatDoor
