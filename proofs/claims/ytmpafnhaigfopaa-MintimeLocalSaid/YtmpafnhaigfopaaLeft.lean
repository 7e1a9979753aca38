/- Package mintime: the search (space).left. -/
import Derived.Test.YtmpafnhaigfopaaMin
import Derived.Test.YtmpafnhaigfopaaQueue
import Derived.Deep.LoopGhost
import Derived.Deep.OwnRows
set_option linter.unusedSimpArgs false
set_option linter.unusedVariables false
namespace Go.Proofs.Ytmpafnhaigfopaa
open Go.RowKit

theorem made_ints (n : Nat) : madeCells #[.int .i64 0] n = (ints (List.replicate n 0)).toArray := by
  have h : (madeCells #[.int .i64 0] n).toList = ints (List.replicate n 0) := by
    apply List.ext_getElem?
    intro i
    simp only [madeCells, ints, Array.toList_map, Array.toList_range, List.getElem?_map, List.map_replicate, List.getElem?_replicate, List.getElem?_range]
    by_cases h : i < n
    · rw [List.getElem?_range h]; simp [h, Nat.mod_one]
    · rw [List.getElem?_eq_none (by simp; omega)]; simp [h]
  rw [← h]
theorem back_bk (s : Sp) (hs : s.ok) (m : Mo) (h : s.has m) (b : Int) (h1 : -2 ≤ b) (h2 : b ≤ 2) : m.back b = m.bk b := by
  obtain ⟨hv1, hv2, ha1, ha2, hj1, hj2, hd1, hd2⟩ := hs
  obtain ⟨e1, e2, e3, e4, e5, e6⟩ := h
  unfold Mo.back Mo.bk
  rw [w64 (by omega) (by omega), w64 (by omega) (by omega), w64 (by omega) (by omega)]
theorem bdd_most {s : Sp} {T : List Int} (hs : s.ok) (hl : (T.length : Int) = s.many) (h : bdd s T) : ∀ x, s.has x → tv s T x ≤ 64413 := by
  intro x hx
  have h1 := h x hx
  have h2 := s.idx_bounds hs x hx
  omega
theorem Blk.ne_t {w : World} {b c : Nat} {t u : TypeId} {cs ds : List Value} (h : Blk w b t cs) (h' : Blk w c u ds) (hne : t ≠ u) : b ≠ c := by
  rintro rfl
  unfold Blk at h h'
  rw [h] at h'
  injection h' with h'
  injection h' with _ ht
  exact hne ht
def Mo.flat (Q : List Mo) : List Value := Q.flatMap Mo.cells

set_option maxRecDepth 100000 in
set_option maxHeartbeats 1000000 in
theorem left_any (s : Sp) (hs : s.ok) (w : World) :
    Calls Try.prog 50 #[s.val] w fun e w' => ∃ g n T, e = .returned (.slice (some ⟨g, 0, none⟩) n n) ∧ n = s.many.toNat ∧ Blk w' g 3 (ints T) ∧ w.heap.size ≤ g ∧ Post s T ∧ (∀ x, s.has x → tv s T x ≤ 64413) ∧ Below w.heap.size w w' := by
  have hmk := fun w => run_make_row' (P := Try.prog) 44 3 (.int .i64 0) 8 Try.underlying44 (by kernel_rfl) rfl .i64 .i64 s.many.toNat (by have := (s.many_wrap hs).2.2; omega) (by have := (s.many_wrap hs).2.2; omega) w
  rw [Int.toNat_of_nonneg (by have := (s.many_wrap hs).2.1; omega)] at hmk
  have hi9 : (Try.prog.info? 81).map (fun i => (i.zero, i.size, i.bytes)) = some (some (.agg #[.int .i64 0, .int .i64 0, .int .i64 0]), 3, 24) := by kernel_rfl
  obtain ⟨i0, hi, hx⟩ := Option.map_eq_some_iff.1 hi9
  simp only [Prod.mk.injEq] at hx
  obtain ⟨hz0, hz1, hz2'⟩ := hx
  clear hi9
  have hmany := hid (many_any s hs)
  have hgoal := hid (of_in s s.goal hs (has_goal s hs))
  have HS := hid hs
  obtain ⟨V, A, J, D, rfl⟩ : ∃ V A J D, s = ⟨V, A, J, D⟩ := ⟨_, _, _, _, rfl⟩
  clear hs
  generalize hS : (⟨V, A, J, D⟩ : Sp) = s at *
  have hsv : s.val = .agg #[.int .i64 V, .int .i64 A, .int .i64 J, .int .i64 D] := by rw [← hS]; rfl
  rw [hsv]
  obtain ⟨B, hB⟩ : ∃ B, w.heap.size = B := ⟨_, rfl⟩
  go_enter Try.func50, Try.ntmps50
  go_wp2_with fail
  go_step3
  go_wp2_with fail
  refine calls_with (fun w0 => Blk w0 B 94 [.int .i64 V, .int .i64 A, .int .i64 J, .int .i64 D] ∧ Below B w w0 ∧ B < w0.heap.size) ⟨hB ▸ Blk.new w 94 [_, _, _, _], hB ▸ belowAlloc (Below.refl _ _) _, by simp; omega⟩ ?_
  rintro w0 ⟨hbs0, hb0, hsz0⟩
  rw [← hsv]
  refine Calls.mono (hmany.out _) ?_; rintro e w1 ⟨rfl, hb1⟩
  have hbs1 := hbs0.below hb1
  replace hb1 := hb0.trans (hb1.mono (by omega))
  have hsz1 : B < w1.heap.size := hbs1.lt
  clear hbs0 hb0 hsz0
  have hm1 := hmk w1
  have hcs := hbs1.cell
  rw [hsv]
  go_wp2_with fail
  obtain ⟨O, hO⟩ : ∃ O, w1.heap.size = O := ⟨_, rfl⟩
  obtain ⟨N, hN⟩ : ∃ N, s.many.toNat = N := ⟨_, rfl⟩
  have hgb := s.idx_bounds HS.out _ (has_goal s HS.out)
  obtain ⟨k, hk⟩ : ∃ k : Nat, s.idx s.goal = (k : Int) := ⟨(s.idx s.goal).toNat, by omega⟩
  have hkN : k < N := by omega
  have hOB : B < O := by omega
  have hk2 : s.idx ⟨D, 0, 0⟩ = (k : Int) := by rw [← hk, ← hS]; rfl
  rw [hN, hO, made_ints]
  refine calls_with (fun w0 => Blk w0 B 94 [.int .i64 V, .int .i64 A, .int .i64 J, .int .i64 D] ∧ Below B w w0 ∧ Blk w0 O 3 (ints (List.replicate N 0)) ∧ Blk w0 (O + 1) 81 [.int .i64 D, .int .i64 0, .int .i64 0]) ⟨(hbs1.alloc _).alloc _, (hb1.alloc (by omega) _).alloc (by simp; omega) _, by subst hO; exact (Blk.new w1 3 (ints (List.replicate N 0))).alloc _, ?_⟩ ?_
  · have := Blk.new (w1.alloc (Obj.cells (ints (List.replicate N 0)).toArray 3)) 81 [.int .i64 D, .int .i64 0, .int .i64 0]
    rwa [World.size_alloc, hO] at this
  clear hbs1 hb1 hsz1 hm1 hcs hmk hmany
  rintro w1 ⟨hbs1, hb1, hbo1, hbe1⟩
  have hg2 := hgoal.out w1
  rw [hsv, ← hS] at hg2
  simp only [Sp.goal, Mo.val] at hg2
  rw [hS] at hg2
  refine Calls.mono hg2 ?_; rintro e w2 ⟨rfl, hb2⟩
  have hbs2 := hbs1.below hb2
  have hbo2 := hbo1.below hb2
  have hbe2 := hbe1.below hb2
  replace hb2 := hb1.trans (hb2.mono (by have := hbs1.lt; omega))
  clear hbs1 hb1 hbo1 hbe1 hg2 hgoal
  have hcs := hbs2.cell
  have hce := hbe2.cell
  have hko : w2.cell? ⟨O, k, none⟩ = some (.int .i64 0) := by
    rw [hbo2.cell, ints_get, List.getElem?_replicate, if_pos (by omega)]; rfl
  have hfo := hbo2.frozen
  rw [hk2]
  go_wp2_with fail
  obtain ⟨T0, hT0⟩ : ∃ T0, (List.replicate N (0 : Int)).set k 1 = T0 := ⟨_, rfl⟩
  have hinv : Inv s T0 [s.goal] := by
    have := inv_start s HS.out
    rw [hN, hk, Int.toNat_natCast, hT0] at this; exact this
  have hbd0 : bdd s T0 ∧ zer T0 + 1 = N := by
    have := bdd_start s HS.out
    rw [hN, hk, Int.toNat_natCast, hT0] at this; exact this
  have hblt : B < w2.heap.size := hbs2.lt
  have hq0 : Qu ((w2.setCell ⟨O, k, none⟩ (.int .i64 1)).alloc (Obj.cells #[.int .i64 D, .int .i64 0, .int .i64 0] 81)) B 81 3 w2.heap.size 0 1 1 (Mo.flat [s.goal]) := by
    have := Qu.new (w2.setCell ⟨O, k, none⟩ (.int .i64 1)) B 81 3 [.int .i64 D, .int .i64 0, .int .i64 0] 1 (by simp; omega) rfl (by simp [maxLen])
    rw [← hS]
    simpa [Mo.flat, Mo.cells, Sp.goal] using this
  refine wp_with (fun wr => Blk wr B 94 [.int .i64 V, .int .i64 A, .int .i64 J, .int .i64 D] ∧ Below B w wr ∧ Blk wr O 3 (ints T0) ∧ Qu wr B 81 3 w2.heap.size 0 1 1 (Mo.flat [s.goal])) ⟨(hbs2.setOther _ _ (by omega)).alloc _, (belowSet hb2 (by omega) _).alloc (by simp; omega) _, ?_, hq0⟩ ?_
  · have := (hbo2.set k (.int .i64 1)).alloc (Obj.cells #[.int .i64 D, .int .i64 0, .int .i64 0] 81)
    rw [← hT0]
    simpa [ints, List.map_set] using this
  generalize w2.heap.size = g0
  clear hbs2 hb2 hbo2 hbe2 hcs hce hko hfo hq0 hblt hk2 hk hkN hgb
  rintro wr ⟨hbs, hb, hbo, hq⟩
  have HI := hid hinv
  clear hinv
  go_step3
  go_wp2_with fail
  go_loopg [8] N (fun n row wr => ∃ T Q g0 off cap, row = .slice (some ⟨g0, off, none⟩) Q.length cap ∧ Blk wr B 94 [.int .i64 V, .int .i64 A, .int .i64 J, .int .i64 D] ∧ Below B w wr ∧ Blk wr O 3 (ints T) ∧ Qu wr B 81 3 g0 off Q.length cap (Mo.flat Q) ∧ Inv s T Q ∧ bdd s T ∧ zer T + Q.length ≤ n ∧ n ≤ N)
  case atStart => exact ⟨T0, [s.goal], g0, 0, 1, rfl, hbs, hb, hbo, hq, HI.out, hbd0.1, by have := hbd0.2; simp; omega, Nat.le_refl _⟩
  case round =>
    obtain ⟨T, Q, g, off, cap, rfl, hbs, hb, hbo, hq, hinv, hbd, hz, hgN⟩ := hrel
    have HB := hid hbd
    clear hbd
    have HI := hid hinv
    obtain ⟨go, rfl⟩ : ∃ go, go = gk := ⟨_, rfl⟩
    match Q with
    | [] =>
      clear hinv
      go_wp2_with fail
      rw [Exit.noGoto_ret]
      go_ret
      exact ⟨O, N, T, rfl, hN.symm, hbo, by omega, post_empty s T HS.out HI.out, bdd_most HS.out HI.out.tab.len HB.out, hB ▸ hb⟩
    | m :: Q =>
      have Hm := hid (inv_pop s T m Q hinv)
      clear hinv HI
      have c0 : wr.cell? ⟨g, off, none⟩ = some (.int .i64 m.p) := hq.cell (j := 0) rfl
      have c1 : wr.cell? ⟨g, off + 1, none⟩ = some (.int .i64 m.v) := hq.cell (j := 1) rfl
      have c2 : wr.cell? ⟨g, off + 2, none⟩ = some (.int .i64 m.a) := hq.cell (j := 2) rfl
      have hfit := hq.fit
      have hmost := hq.most
      simp only [maxLen] at hmost
      have hin := of_in s m HS.out Hm.out.hm
      have hbm := s.idx_bounds HS.out m Hm.out.hm
      obtain ⟨km, hkm⟩ : ∃ km : Nat, s.idx m = (km : Int) := ⟨(s.idx m).toNat, by omega⟩
      have hkmN : km < N := by omega
      rw [hsv, hkm] at hin
      have Hin := hid hin
      have hlt := hq.lt
      have hBlt := hbs.lt
      clear hin hbm
      go_wp2_with fail
      all_goals
        have hq1 := hq.tail (by simp)
        first | rw [if_pos (by assumption)] at hq1 | rw [if_neg (by assumption)] at hq1
        replace hq1 := hq1.alloc (Obj.cells #[.int .i64 m.p, .int .i64 m.v, .int .i64 m.a] 81)
        obtain ⟨Z, hZ⟩ : ∃ Z, wr.heap.size = Z := ⟨_, rfl⟩
        have hbw : Blk (wr.alloc (Obj.cells #[.int .i64 m.p, .int .i64 m.v, .int .i64 m.a] 81)) Z 81 [.int .i64 m.p, .int .i64 m.v, .int .i64 m.a] := hZ ▸ Blk.new wr 81 [.int .i64 m.p, .int .i64 m.v, .int .i64 m.a]
        have hbs1 := hbs.alloc (Obj.cells #[.int .i64 m.p, .int .i64 m.v, .int .i64 m.a] 81)
        have hbo1 := hbo.alloc (Obj.cells #[.int .i64 m.p, .int .i64 m.v, .int .i64 m.a] 81)
        have hb1 := hb.alloc (by omega) (Obj.cells #[.int .i64 m.p, .int .i64 m.v, .int .i64 m.a] 81)
        refine Calls.mono (Hin.out _) ?_; rintro e w3 ⟨rfl, hb3⟩
        replace hq1 := hq1.below hb3
        replace hbw := hbw.below hb3
        replace hbs1 := hbs1.below hb3
        replace hbo1 := hbo1.below hb3
        replace hb1 := hb1.trans (hb3.mono (by simp; omega))
        clear hb3 hbs hb hbo hq c0 c1 c2 Hin
        have hcs := hbs1.cell
        go_wp2_with fail
        replace hq1 : Qu w3 B 81 3 g _ Q.length (cap - 1) (Mo.flat Q) := hq1
        simp only [List.length_cons] at hz hfit
        have hNm : (N : Int) = s.many ∧ s.many ≤ 64413 := by have := s.idx_bounds HS.out m Hm.out.hm; omega
        have hJJ : s.J = J := by rw [← hS]
        have hJ1 : 1 ≤ J := hJJ ▸ HS.out.j1
        have hJ2 : J ≤ 2 := hJJ ▸ HS.out.j2
        have hm0 := Hm.out.hm
        clear hcs
        go_loopg [8, 12] 5 (fun n row by_ wx => ∃ T' Q' g' off' cap' b, row = .slice (some ⟨g', off', none⟩) Q'.length cap' ∧ by_ = .int .i64 b ∧ -J ≤ b ∧ b ≤ J + 1 ∧
          Blk wx B 94 [.int .i64 V, .int .i64 A, .int .i64 J, .int .i64 D] ∧ Below B w wx ∧ Blk wx O 3 (ints T') ∧ Qu wx B 81 3 g' off' Q'.length cap' (Mo.flat Q') ∧ Blk wx Z 81 [.int .i64 m.p, .int .i64 m.v, .int .i64 m.a] ∧
          Inv2 s T' m Q' b ∧ bdd s T' ∧ zer T' + Q'.length + 1 ≤ go ∧ (J + 1 - b) ≤ (n : Int) ∧ g' ≠ Z)
        case atStart => exact ⟨T, Q, g, _, _, -J, rfl, by rw [w64 (by omega) (by omega)], by omega, by omega, hbs1, hb1, hbo1, by first | exact hq1 | (have := hq1; rw [show cap - 1 = 0 by omega] at this; exact this), hbw, hJJ ▸ Hm.out, HB.out, by omega, by omega, by omega⟩
        case round =>
          obtain ⟨T', Q', g', off', cap', b, rfl, rfl, hb1, hb2, hbs, hb, hbo, hq, hbw, hi2, hbd, hz, hn, hgZ⟩ := hrel
          have hcs := hbs.cell
          have hcw := hbw.cell
          have HI2 := hid hi2
          have HB := hid hbd
          clear hi2 hbd
          by_cases hbJ : b ≤ J
          · have hah := ahead_any m b
            rw [back_bk s HS.out m hm0 b (by omega) (by omega)] at hah
            obtain ⟨x, hx⟩ : ∃ x, m.bk b = x := ⟨_, rfl⟩
            rw [hx] at hah
            simp only [Mo.val] at hah
            have Hah := hid hah
            clear hah
            go_wp2_with fail
            refine Calls.mono (Hah.out wr) ?_; rintro e w4 ⟨rfl, hb4⟩
            have hBlt := hbs.lt
            have hYZ : Z < w4.heap.size := (hbw.below hb4).lt
            have hYO : O < w4.heap.size := (hbo.below hb4).lt
            obtain ⟨Y, hY⟩ : ∃ Y, w4.heap.size = Y := ⟨_, rfl⟩
            have hbs4 := hbs.below hb4
            have hbo4 := hbo.below hb4
            have hq4 := hq.below hb4
            have hbw4 := hbw.below hb4
            have hb4' := hb.trans (hb4.mono (by omega))
            have hcs4 := hbs4.cell
            have hbx4 : Blk (w4.alloc (Obj.cells #[.int .i64 x.p, .int .i64 x.v, .int .i64 x.a] 81)) Y 81 [.int .i64 x.p, .int .i64 x.v, .int .i64 x.a] := hY ▸ Blk.new w4 81 [.int .i64 x.p, .int .i64 x.v, .int .i64 x.a]
            by_cases hhas : s.has (m.bk b)
            · have hin := of_in s x HS.out (hx ▸ hhas)
              have hbm := s.idx_bounds HS.out x (hx ▸ hhas)
              obtain ⟨kx, hkx⟩ : ∃ kx : Nat, s.idx x = (kx : Int) := ⟨(s.idx x).toNat, by omega⟩
              have hkxN : kx < N := by omega
              rw [hsv, hkx] at hin
              have Hin := hid hin
              clear hin hbm
              go_wp2_with fail
              refine Calls.mono (Hin.out _) ?_; rintro e w5 ⟨rfl, hb5⟩
              have hbs5 := (hbs4.alloc _).below hb5
              have hbo5 := (hbo4.alloc _).below hb5
              have hq5 := (hq4.alloc _).below hb5
              have hbw5 := (hbw4.alloc _).below hb5
              have hbx5 := hbx4.below hb5
              have hb5' := (hb4'.alloc (by omega) _).trans (hb5.mono (by simp; omega))
              have hT' := HI2.out.tab.len
              obtain ⟨y, hy⟩ : ∃ y, T'[kx]? = some y := ⟨_, List.getElem?_eq_getElem (by omega)⟩
              have hyt : tv s T' (m.bk b) = y := by
                unfold tv
                rw [hx, hkx, Int.toNat_natCast, List.getD_eq_getElem?_getD, hy]; rfl
              have hy0 : 0 ≤ y := hyt ▸ HI2.out.tab.pos _ hhas
              have hko : w5.cell? ⟨O, kx, none⟩ = some (.int .i64 y) := by rw [hbo5.cell, ints_get, hy]; rfl
              clear hbs4 hbo4 hq4 hbw4 hb4' hcs4 hcs hcw hbs hbo hq hbw hb hbx4 hb5
              by_cases hyp : 0 < y
              · have HI3 := hid (inv_skip s T' m Q' b HI2.out (.inr (by omega)))
                clear HI2
                go_wp2_with fail
                go_roundg (gk - 1)
                case rel => exact ⟨T', Q', g', off', cap', b + 1, rfl, by go_num, by omega, by omega, hbs5, hb5', hbo5, hq5, hbw5, HI3.out, HB.out, hz, by omega, hgZ⟩
                case measure => omega
              · have e0 : y = 0 := by omega
                subst e0
                obtain ⟨z, hz2⟩ : ∃ z, T'[km]? = some z := ⟨_, List.getElem?_eq_getElem (by omega)⟩
                have hzt : tv s T' m = z := by
                  unfold tv
                  rw [hkm, Int.toNat_natCast, List.getD_eq_getElem?_getD, hz2]; rfl
                have hzp : 0 < z := hzt ▸ HI2.out.pm
                have hzm : z ≤ 64413 := by have := HB.out m hm0; omega
                have hkm5 : w5.cell? ⟨O, km, none⟩ = some (.int .i64 z) := by rw [hbo5.cell, ints_get, hz2]; rfl
                have hjk : s.jerk b := ⟨by omega, by omega⟩
                have HB3 := hid (bdd_push s HS.out T' m b HI2.out.tab HB.out hm0 (by omega) hhas hyt)
                have hset : T'.set (s.idx (m.bk b)).toNat (tv s T' m + 1) = T'.set kx (z + 1) := by rw [hx, hkx, hzt]; rfl
                rw [hset] at HB3
                have hbo6 : Blk (w5.setCell ⟨O, kx, none⟩ (.int .i64 (z + 1))) O 3 (ints (T'.set kx (z + 1))) := by
                  have := hbo5.set kx (.int .i64 (z + 1))
                  simpa [ints, List.map_set] using this
                have hbs6 := hbs5.setOther (c := O) kx (.int .i64 (z + 1)) (by omega)
                have hbw6 : Blk (w5.setCell ⟨O, kx, none⟩ (.int .i64 (z + 1))) Z 81 _ := hbw5.setOther (c := O) kx (.int .i64 (z + 1)) (hbw5.ne_t hbo5 (by decide))
                have hbx6 : Blk (w5.setCell ⟨O, kx, none⟩ (.int .i64 (z + 1))) Y 81 _ := hbx5.setOther (c := O) kx (.int .i64 (z + 1)) (by omega)
                have hq6 := hq5.set (hq5.ne_blk hbo5 (by decide)) (o := kx) (.int .i64 (z + 1))
                have hb6 := belowSet (o := kx) hb5' (Nat.le_of_lt hOB) (.int .i64 (z + 1))
                have hfo := hbo5.frozen kx
                have hcx := hbx5.cell
                have hYO' : O < Y := by omega
                clear hbs5 hbw5 hq5 hb5'
                by_cases hzero : x = Mo.zero
                · have HP := hid (post_found s HS.out T' m Q' b HI2.out hjk hhas (by omega) (by rw [hx, hzero]))
                  rw [hset] at HP
                  clear HI2
                  subst hzero
                  go_wp2_with fail
                  rw [Exit.noGoto_ret]
                  go_ret
                  exact ⟨O, N, _, rfl, hN.symm, hbo6, by omega, HP.out, bdd_most HS.out HP.out.tab.len HB3.out.1, hB ▸ hb6⟩
                · have HI3 := hid (inv_push s HS.out T' m Q' b HI2.out hjk hhas (by omega))
                  rw [hset, hx] at HI3
                  clear HI2
                  have hkey : x.p ≠ 0 ∨ (x.p = 0 ∧ x.v ≠ 0) ∨ (x.p = 0 ∧ x.v = 0 ∧ x.a ≠ 0) := by
                    obtain ⟨p, v, a⟩ := x
                    simp only [Mo.zero, Mo.mk.injEq] at hzero ⊢
                    omega
                  have hqB := hq6.ne_blk hbs6 (by decide)
                  have hqO := hq6.ne_blk hbo6 (by decide)
                  have hqlen : Q'.length + 1 ≤ 64414 := by omega
                  have hB6 : B ≤ (w5.setCell ⟨O, kx, none⟩ (.int .i64 (z + 1))).heap.size := Nat.le_of_lt hbs6.lt
                  have hZ6 := hbw6.lt
                  have hql := hq6.low
                  rcases hkey with h1 | ⟨h1, h2⟩ | ⟨h1, h2, h3⟩
                  all_goals
                    go_wp2_with (at_builtin; refine stop ?_)
                    refine unstop (wpList_append_q rfl _ _ 112 rfl B 81 i0 _ 3 24 Try.underlying112 hi hz0 hz1 hz2' rfl g' off' Q'.length cap' (Mo.flat Q') rfl (hq6.alloc _) _ 0 1 1 x.cells rfl rfl ?_ ?_ (by simp [maxLen]; omega) (by omega) (by simp at hB6 ⊢; omega) ?_)
                    · intro j u hju
                      rw [show w5.heap.size = (w5.setCell ⟨O, kx, none⟩ (.int .i64 (z + 1))).heap.size by simp]
                      refine ((Blk.new (w5.setCell ⟨O, kx, none⟩ (.int .i64 (z + 1))) 81 [_, _, _]).cell (0 + j)).trans ?_
                      rw [Nat.zero_add, ← hju]
                      simp only [Mo.cells, *]
                    · intro u hu
                      simp [Mo.cells] at hu
                      rcases hu with rfl | rfl | rfl <;> rfl
                    intro g2 off2 cap2 w7 hq7 hg7 hor
                    have hbs7 := (hbs6.alloc _).grown hg7 (Ne.symm hqB)
                    have hbo7 := (hbo6.alloc _).grown hg7 (Ne.symm hqO)
                    have hbw7 := (hbw6.alloc _).grown hg7 (Ne.symm hgZ)
                    have hb7 := (hb6.alloc hB6 _).trans (grownBelow hg7 hql (by simp at hB6 ⊢; omega))
                    have hgZ2 : g2 ≠ Z := by
                      rcases hor with h | h
                      · omega
                      · simp at h hZ6; omega
                    clear hbs6 hbo6 hbw6 hb6 hq6 hbx6 hfo hcx hkm5 hko hbx5 hbo5
                    go_wp2_with fail
                    go_roundg (gk - 1)
                    case rel => exact ⟨T'.set kx (z + 1), Q' ++ [x], g2, off2, cap2, b + 1, by simp, by go_num, by omega, by omega, hbs7, hb7, hbo7, by simpa [Mo.flat] using hq7, hbw7, HI3.out, HB3.out.1, by have := HB3.out.2; simp; omega, by omega, hgZ2⟩
                    case measure => omega
            · have hout := of_out s x HS.out (hx ▸ hhas)
              rw [hsv] at hout
              have Hout := hid hout
              clear hout
              go_wp2_with fail
              refine Calls.mono (Hout.out _) ?_; rintro e w5 ⟨rfl, hb5⟩
              have HI3 := hid (inv_skip s T' m Q' b HI2.out (.inl hhas))
              have hbs5 := (hbs4.alloc _).below hb5
              have hbo5 := (hbo4.alloc _).below hb5
              have hq5 := (hq4.alloc _).below hb5
              have hbw5 := (hbw4.alloc _).below hb5
              have hb5' := (hb4'.alloc (by omega) _).trans (hb5.mono (by simp; omega))
              clear hbs4 hbo4 hq4 hbw4 hb4' hb5 hcs4 hcs hcw hbs hbo hq hbw hb hbx4 HI2
              go_wp2_with fail
              go_roundg (gk - 1)
              case rel => exact ⟨T', Q', g', off', cap', b + 1, rfl, by go_num, by omega, by omega, hbs5, hb5', hbo5, hq5, hbw5, HI3.out, HB.out, hz, by omega, hgZ⟩
              case measure => omega
          · go_wp2_with fail
            go_roundg (go - 1)
            case rel =>
              have e : b = J + 1 := by omega
              exact ⟨T', Q', g', off', cap', rfl, hbs, hb, hbo, hq, inv_next s T' m Q' b (by omega) HI2.out, HB.out, by omega, by omega⟩
            case measure => omega
end Go.Proofs.Ytmpafnhaigfopaa
