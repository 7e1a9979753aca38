/- Package mintime: Profile. -/
import Derived.Test.YtmpafnhaigfopaaLeft
import Derived.Test.YtmpafnhaigfopaaProf
import Derived.Deep.QuietTactic
import Derived.BigQuiet
import Derived.WalkSmall
set_option linter.unusedSimpArgs false
set_option linter.unusedVariables false
namespace Go.Proofs.Ytmpafnhaigfopaa
open Go.RowKit

theorem valid_ok (V A J D : Int) (h : validF V A J = true) (h1 : 0 ≤ D) (h2 : D ≤ 420) : (⟨V, A, J, D⟩ : Sp).ok := by
  simp [validF, within1] at h
  exact ⟨h.1.1.1, h.1.1.2, h.1.2.1, h.1.2.2, h.2.1, h.2.2, h1, h2⟩
theorem ok_valid (V A J D : Int) (h : (⟨V, A, J, D⟩ : Sp).ok) : validF V A J = true := by
  obtain ⟨hv1, hv2, ha1, ha2, hj1, hj2, hd1, hd2⟩ := h
  simp only at *
  simp [validF, within1]; omega

/-- What Profile leaves. -/
def ProfLeft (s : Sp) (w : World) (e : Ending) (w' : World) : Prop :=
  (match prof s with
   | none => e = .returned (.tuple #[.slice none 0 0, .bool false])
   | some l => ∃ A c, e = .returned (.tuple #[.slice A l.length c, .bool true]) ∧ w'.ownsRow w.heap.size 3 1 (.slice A l.length c) l.length (ints l)) ∧ Below w.heap.size w w'

theorem Rd.of_blk {w : World} {b size n : Nat} {t : TypeId} {cs : List Value} (h : Blk w b t cs) (hl : cs.length = n * size) : Rd w w.heap.size size (some ⟨b, 0, none⟩) n cs :=
  ⟨hl, fun _ => ⟨b, 0, rfl, h.lt, fun j u hu => by rw [h.cell, Nat.zero_add]; exact hu⟩⟩

theorem step_tick (s : Sp) (hs : s.ok) (m : Mo) (h : s.has m) (b : Int) (h1 : -2 ≤ b) (h2 : b ≤ 2) : m.step b = m.tick b := by
  obtain ⟨hv1, hv2, ha1, ha2, hj1, hj2, hd1, hd2⟩ := hs
  obtain ⟨e1, e2, e3, e4, e5, e6⟩ := h
  simp only [Mo.step, Mo.tick]
  rw [w64 (x := m.a + b) (by omega) (by omega), w64 (x := m.v + (m.a + b)) (by omega) (by omega), w64 (by omega) (by omega)]
theorem own_lower {w : World} {base base' : Nat} {e : TypeId} {size : Nat} {v : Value} {n : Nat} {xs : List Value} (h : w.ownsRow base e size v n xs) (hb : base' ≤ base) : w.ownsRow base' e size v n xs := by
  refine ⟨h.1, ?_⟩
  rcases h.2 with h0 | ⟨g, cap, cur, h1, h2, h3⟩
  · exact .inl h0
  · exact .inr ⟨g, cap, cur, h1, by omega, h3⟩
theorem own_ne {w : World} {base : Nat} {e : TypeId} {size : Nat} {v : Value} {n b : Nat} {xs : List Value} (h : w.ownsRow base e size v n xs) (hb : b < base) : v.ownBlock ≠ some b := by
  rcases h.2 with ⟨rfl, _⟩ | ⟨g, cap, cur, rfl, h2, h3⟩
  · simp [Value.ownBlock]
  · simp [Value.ownBlock]; omega

theorem own_ne_blk {w : World} {base : Nat} {e t : TypeId} {size : Nat} {v : Value} {n b : Nat} {xs cs : List Value} (h : w.ownsRow base e size v n xs) (hb : Blk w b t cs) (hne : e ≠ t) : v.ownBlock ≠ some b := by
  rcases h.2 with ⟨rfl, _⟩ | ⟨g, cap, cur, rfl, h2, h3, _⟩
  · simp [Value.ownBlock]
  · intro e
    simp [Value.ownBlock] at e
    subst e
    unfold Blk at hb
    rw [h3] at hb
    injection hb with hb
    injection hb with _ ht
    exact hne ht
/-- Grown by a row of the call's own: below its base nothing has turned. -/
theorem grownOwn {w w' w0 : World} {B base : Nat} {e : TypeId} {size : Nat} {v : Value} {n : Nat} {xs : List Value} (h : w.grownBy w' v.ownBlock) (ho : w0.ownsRow base e size v n xs) (hB : B ≤ base) (hs : B ≤ w.heap.size) : Below B w w' :=
  ⟨h.os, h.tape, h.output, h.size, fun k hk => h.block k (by omega) (fun e => own_ne ho (Nat.lt_of_lt_of_le hk hB) e.symm)⟩
/-- What the way so far is worth. -/
def pre (s : Sp) (T : List Int) (l : List Int) (m : Mo) : Prop := ∀ r, greedy s T m r → greedy s T Mo.zero (l ++ r)
/-- Is the jerk one that leads nearer? -/
def good (s : Sp) (T : List Int) (m : Mo) (j : Int) : Prop := s.has (m.tick j) ∧ tv s T (m.tick j) = tv s T m - 1

theorem pre_snoc {s : Sp} {T l : List Int} {m : Mo} {b : Int} (h : pre s T l m) (hj : s.jerk b) (hg : good s T m b) (hmin : ∀ i, s.jerk i → i < b → ¬ good s T m i) : pre s T (l ++ [b]) (m.tick b) := by
  intro r hr
  have := h (b :: r) ⟨⟨hj, hg.1, hg.2, hmin⟩, hr⟩
  simpa using this

set_option maxRecDepth 100000 in
set_option maxHeartbeats 1000000 in
theorem profile_bad (V A J D : Int) (w : World) (h : ¬ (⟨V, A, J, D⟩ : Sp).ok) :
    Calls Try.prog 22 #[.agg #[.int .i64 V, .int .i64 A, .int .i64 J], .int .i64 D] w (ProfLeft ⟨V, A, J, D⟩ w) := by
  have hfin : ∀ w', Below w.heap.size w w' → ProfLeft ⟨V, A, J, D⟩ w (.returned (.tuple #[.slice none 0 0, .bool false])) w' := fun w' hb => ⟨by rw [prof_bad h], hb⟩
  have Hfin := hid hfin
  have hv := valid_any V A J
  cases hvv : validF V A J with
  | false =>
    rw [hvv] at hv
    have Hv := hid hv
    clear hv hvv hfin h
    go_enter Try.func22, Try.ntmps22
    go_wp2_with fail
    refine Calls.mono (Hv.out _) ?_; rintro e w1 ⟨rfl, hb1⟩
    go_wp2_with fail
    go_ret2
    exact Hfin.out _ (belowAfter (belowAlloc (Below.refl _ _) _) hb1)
  | true =>
    rw [hvv] at hv
    have Hv := hid hv
    by_cases h1 : D < 0
    · clear hv hvv hfin h
      go_enter Try.func22, Try.ntmps22
      go_wp2_with fail
      refine Calls.mono (Hv.out _) ?_; rintro e w1 ⟨rfl, hb1⟩
      go_wp2_with fail
      go_ret2
      exact Hfin.out _ (belowAfter (belowAlloc (Below.refl _ _) _) hb1)
    · have h2 : 420 < D := by
        rcases Int.lt_or_le 420 D with h3 | h3
        · exact h3
        · exact absurd (valid_ok V A J D hvv (by omega) h3) h
      clear hv hvv hfin h
      go_enter Try.func22, Try.ntmps22
      go_wp2_with fail
      refine Calls.mono (Hv.out _) ?_; rintro e w1 ⟨rfl, hb1⟩
      go_wp2_with fail
      go_ret2
      exact Hfin.out _ (belowAfter (belowAlloc (Below.refl _ _) _) hb1)

set_option maxRecDepth 100000 in
set_option maxHeartbeats 1000000 in
theorem profile_ok (V A_ J D : Int) (w : World) (h : (⟨V, A_, J, D⟩ : Sp).ok) :
    Calls Try.prog 22 #[.agg #[.int .i64 V, .int .i64 A_, .int .i64 J], .int .i64 D] w (ProfLeft ⟨V, A_, J, D⟩ w) := by
  obtain ⟨s, hS⟩ : ∃ s : Sp, ⟨V, A_, J, D⟩ = s := ⟨_, rfl⟩
  have hsv : s.val = .agg #[.int .i64 V, .int .i64 A_, .int .i64 J, .int .i64 D] := by rw [← hS]; rfl
  rw [hS] at h ⊢
  have hi9 : (Try.prog.info? 3).map (fun i => (i.zero, i.size, i.bytes)) = some (some (.int .i64 0), 1, 8) := by kernel_rfl
  obtain ⟨i0, hi, hx9⟩ := Option.map_eq_some_iff.1 hi9
  simp only [Prod.mk.injEq] at hx9
  obtain ⟨hz0, hz1', hz2'⟩ := hx9
  clear hi9
  have hJJ : s.J = J := by rw [← hS]
  have hj1 : 1 ≤ J := hJJ ▸ h.j1
  have hj2 : J ≤ 2 := hJJ ▸ h.j2
  have hd1 : 0 ≤ D := by have := h.d1; rw [← hS] at this; exact this
  have hd2 : D ≤ 420 := by have := h.d2; rw [← hS] at this; exact this
  have hv := valid_any V A_ J
  rw [ok_valid V A_ J D (hS ▸ h)] at hv
  have Hv := hid hv
  have hleft := left_any s h
  rw [hsv] at hleft
  have Hleft := hid hleft
  have hbz := s.idx_bounds h _ (has_zero s h)
  obtain ⟨k, hk⟩ : ∃ k : Nat, s.idx Mo.zero = (k : Int) := ⟨(s.idx Mo.zero).toNat, by omega⟩
  have hz := of_in s Mo.zero h (has_zero s h)
  rw [hsv, hk] at hz
  simp only [Mo.zero, Mo.val] at hz
  have Hz := hid hz
  have HS := hid h
  clear hv hleft hz h
  obtain ⟨B, hB⟩ : ∃ B, w.heap.size = B := ⟨_, rfl⟩
  go_enter Try.func22, Try.ntmps22
  go_wp2_with fail
  refine calls_with (fun w0 => Blk w0 B 27 [.int .i64 V, .int .i64 A_, .int .i64 J] ∧ Below B w w0) ⟨hB ▸ Blk.new w 27 [_, _, _], hB ▸ belowAlloc (Below.refl _ _) _⟩ ?_
  rintro w0 ⟨hl0, hb0⟩
  refine Calls.mono (Hv.out _) ?_; rintro e w1 ⟨rfl, hb1⟩
  have hl1 := hl0.below hb1
  have hlt0 := hl0.lt
  replace hb1 := hb0.trans (hb1.mono (by omega))
  have hlt1 := hl1.lt
  have hcl := hl1.cell
  obtain ⟨S, hS1⟩ : ∃ S, w1.heap.size = S := ⟨_, rfl⟩
  clear hl0 hb0 hlt0
  go_wp2_with fail
  have hbS : Blk (w1.alloc (Obj.cells #[.int .i64 V, .int .i64 A_, .int .i64 J, .int .i64 D] 94)) S 94 [.int .i64 V, .int .i64 A_, .int .i64 J, .int .i64 D] := hS1 ▸ Blk.new w1 94 [_, _, _, _]
  refine Calls.mono (Hleft.out _) ?_
  rintro e w2 ⟨g, n, T, rfl, hn, hbT, hgT, HP, hmost, hb2⟩
  have hl2 := (hl1.alloc (Obj.cells #[.int .i64 V, .int .i64 A_, .int .i64 J, .int .i64 D] 94)).below hb2
  have hS2 := hbS.below hb2
  have hlt2 := hS2.lt
  replace hb2 := (hb1.alloc (by omega) (Obj.cells #[.int .i64 V, .int .i64 A_, .int .i64 J, .int .i64 D] 94)).trans (hb2.mono (by simp; omega))
  simp only [World.size_alloc] at hgT
  have hcS := hS2.cell
  obtain ⟨M, hM⟩ : ∃ M, w2.heap.size = M := ⟨_, rfl⟩
  have hSM : S < M := by omega
  have hSM' : S ≠ M := by omega
  clear hl1 hb1 hcl hbS
  go_wp2_with fail
  have hbM : Blk (w2.alloc (Obj.cells #[.int .i64 0, .int .i64 0, .int .i64 0] 81)) M 81 [.int .i64 0, .int .i64 0, .int .i64 0] := hM ▸ Blk.new w2 81 [_, _, _]
  have hgM : g < M := hM ▸ hbT.lt
  refine Calls.mono (Hz.out _) ?_; rintro e w3 ⟨rfl, hb3⟩
  have hl3 := (hl2.alloc _).below hb3
  have hS3 := (hS2.alloc _).below hb3
  have hT3 := (hbT.alloc _).below hb3
  have hM3 := hbM.below hb3
  have hM3' : M + 1 ≤ w3.heap.size := hM3.lt
  have hb3' := (hb2.alloc (by omega) (Obj.cells #[.int .i64 0, .int .i64 0, .int .i64 0] 81)).trans (hb3.mono (by simp; omega))
  clear hl2 hS2 hb2 hcS hbT hbM hb3 Hz Hleft Hv
  have hTl := HP.tab.len
  have hmb : s.many ≤ 64413 := hbz.2.2
  obtain ⟨x, hx⟩ : ∃ x, T[k]? = some x := ⟨_, List.getElem?_eq_getElem (by omega)⟩
  have hxt : tv s T Mo.zero = x := by
    unfold tv
    rw [hk, Int.toNat_natCast, List.getD_eq_getElem?_getD, hx]; rfl
  have hx0 : 0 ≤ x := hxt ▸ HP.tab.pos _ (has_zero s HS.out)
  have hcx : w3.cell? ⟨g, k, none⟩ = some (.int .i64 x) := by rw [hT3.cell, ints_get, hx]; rfl
  obtain ⟨N, hN⟩ : ∃ N, s.many.toNat = N := ⟨_, rfl⟩
  have hkN : k < N := by omega
  rw [hN]
  have HPP := hid HP
  have Hmost := hid hmost
  clear HP hmost
  by_cases hxz : x = 0
  · subst hxz
    have hpn := prof_none (HPP.out.none hxt)
    have hfin : ProfLeft s w (.returned (.tuple #[.slice none 0 0, .bool false])) w3 := ⟨by rw [hpn], hB ▸ hb3'⟩
    have HF := hid hfin
    clear hfin hpn
    go_wp2_with fail
    go_ret2
    exact HF.out
  · have hxp : 0 < x := by omega
    have hdx : (x == 0) = false := by simp [hxz]
    go_wp2_with fail
    obtain ⟨X, hX⟩ : ∃ X : Nat, x ≤ X := ⟨x.toNat, by omega⟩
    have hown0 : w3.ownsRow (M + 1) 3 1 (.slice none 0 0) 0 (ints []) := ⟨rfl, .inl ⟨rfl, rfl⟩⟩
    go_loopg [9, 11] X (fun n ix out wr => ∃ (m : Mo) (l : List Int) (km : Nat) (A : Option Addr) (c : Nat), ix = .int .i64 km ∧ s.idx m = km ∧ out = .slice A l.length c ∧ Blk wr B 27 [.int .i64 V, .int .i64 A_, .int .i64 J] ∧
      Blk wr S 94 [.int .i64 V, .int .i64 A_, .int .i64 J, .int .i64 D] ∧ Blk wr g 3 (ints T) ∧ Blk wr M 81 [.int .i64 m.p, .int .i64 m.v, .int .i64 m.a] ∧ wr.ownsRow (M + 1) 3 1 (.slice A l.length c) l.length (ints l) ∧ Below B w wr ∧
      s.has m ∧ 0 < tv s T m ∧ tv s T m ≤ x ∧ (l.length : Int) + tv s T m = x ∧ pre s T l m ∧ tv s T m ≤ (n : Int))
    case atStart => exact ⟨Mo.zero, [], k, none, 0, rfl, hk, rfl, hl3, hS3, hT3, hM3, hown0, hb3', has_zero s HS.out, by omega, by omega, by simp; omega, fun r hr => hr, by omega⟩
    case round =>
      obtain ⟨m, l, km, Ao, c, rfl, hkm, rfl, hl, hSb, hT, hM, hown, hb, hhas, htp, htx, hlen, hpre, hn⟩ := hrel
      obtain ⟨go, rfl⟩ : ∃ go, go = gk := ⟨_, rfl⟩
      have hbm := s.idx_bounds HS.out m hhas
      have hkmN : km < N := by omega
      obtain ⟨z, hz⟩ : ∃ z, T[km]? = some z := ⟨_, List.getElem?_eq_getElem (by omega)⟩
      have hzt : tv s T m = z := by
        unfold tv
        rw [hkm, Int.toNat_natCast, List.getD_eq_getElem?_getD, hz]; rfl
      have hzm : z ≤ 64413 := by have := Hmost.out m hhas; omega
      have hcz : wr.cell? ⟨g, km, none⟩ = some (.int .i64 z) := by rw [hT.cell, ints_get, hz]; rfl
      have Hpre := hid hpre
      clear hbm hpre
      by_cases hz1 : 1 < z
      · have hcl := hl.cell
        obtain ⟨jg, hjg, hjg2⟩ := exists_best s T HPP.out m hhas (by omega) (by omega)
        have Hjg := hid (show good s T m jg from hjg2)
        have hjg1 : -J ≤ jg := hJJ ▸ hjg.1
        have hjg2' : jg ≤ J := hJJ ▸ hjg.2
        clear hjg2 hjg
        go_wp2_with fail
        go_loopg [9, 11, 12] 5 (fun n ix out by_ wx => ∃ b : Int, ix = .int .i64 km ∧ out = .slice Ao l.length c ∧ by_ = .int .i64 b ∧ -J ≤ b ∧ b ≤ jg ∧ Blk wx B 27 [.int .i64 V, .int .i64 A_, .int .i64 J] ∧
          Blk wx S 94 [.int .i64 V, .int .i64 A_, .int .i64 J, .int .i64 D] ∧ Blk wx g 3 (ints T) ∧ Blk wx M 81 [.int .i64 m.p, .int .i64 m.v, .int .i64 m.a] ∧ wx.ownsRow (M + 1) 3 1 (.slice Ao l.length c) l.length (ints l) ∧ Below B w wx ∧
          (∀ i, s.jerk i → i < b → ¬ good s T m i) ∧ J + 1 - b ≤ (n : Int))
        case atStart => exact ⟨-J, rfl, rfl, rfl, by omega, by omega, hl, hSb, hT, hM, hown, hb, fun i hi hlt => absurd hi.1 (by omega), by omega⟩
        case round =>
          obtain ⟨b, rfl, rfl, rfl, hb1, hb2, hl, hSb, hT, hM, hown, hb, hmin, hn2⟩ := hrel
          have hcl := hl.cell
          have hcS := hSb.cell
          have hcM := hM.cell
          have Hmin := hid hmin
          clear hmin
          obtain ⟨Y0, hY0⟩ : ∃ Y, wr.heap.size = Y := ⟨_, rfl⟩
          go_wp2_with fail
          have hfin := final_any m.p m.v m.a [b] (some ⟨Y0, 0, none⟩) 1 1 (wr.alloc (Obj.cells #[.int .i64 b] 3)) (by rw [← hY0]; exact Rd.of_blk (Blk.new wr 3 [.int .i64 b]) rfl) (by omega)
          have hstep : (⟨m.p, m.v, m.a⟩ : Mo).run [b] = m.tick b := step_tick s HS.out m hhas b (by omega) (by omega)
          rw [hstep] at hfin
          obtain ⟨nx, hnx⟩ : ∃ nx, m.tick b = nx := ⟨_, rfl⟩
          rw [hnx] at hfin
          simp only [Mo.val] at hfin
          refine Calls.mono hfin ?_; rintro e w4 ⟨rfl, hb4⟩
          have hltM := hM.lt
          have hl4 := (hl.alloc _).below hb4
          have hS4 := (hSb.alloc _).below hb4
          have hT4 := (hT.alloc _).below hb4
          have hM4 := (hM.alloc _).below hb4
          have ho4 := ownKept (ownKept hown (Below.alloc (Below.refl _ wr) (Nat.le_refl _) (Obj.cells #[.int .i64 b] 3))) hb4
          have hb4' := (hb.alloc (by omega) (Obj.cells #[.int .i64 b] 3)).trans (hb4.mono (by simp; omega))
          have hM4' := hM4.lt
          obtain ⟨Y, hY⟩ : ∃ Y, w4.heap.size = Y := ⟨_, rfl⟩
          clear hl hSb hT hM hown hb hcl hcS hcM hb4 hfin hstep hY0
          have hcS := hS4.cell
          have hbY : Blk (w4.alloc (Obj.cells #[.int .i64 nx.p, .int .i64 nx.v, .int .i64 nx.a] 81)) Y 81 [.int .i64 nx.p, .int .i64 nx.v, .int .i64 nx.a] := hY ▸ Blk.new w4 81 [_, _, _]
          have hSY : S < Y := by omega
          have hSY' : S ≠ Y := by omega
          by_cases hhn : s.has nx
          · have hin := of_in s nx HS.out hhn
            have hbn := s.idx_bounds HS.out nx hhn
            obtain ⟨kn, hkn⟩ : ∃ kn : Nat, s.idx nx = (kn : Int) := ⟨(s.idx nx).toNat, by omega⟩
            have hknN : kn < N := by omega
            obtain ⟨y, hy⟩ : ∃ y, T[kn]? = some y := ⟨_, List.getElem?_eq_getElem (by omega)⟩
            have hyt : tv s T nx = y := by
              unfold tv
              rw [hkn, Int.toNat_natCast, List.getD_eq_getElem?_getD, hy]; rfl
            rw [hsv, hkn] at hin
            simp only [Mo.val] at hin
            have Hin := hid hin
            clear hin hbn
            go_wp2_with fail
            refine Calls.mono (Hin.out _) ?_; rintro e w5 ⟨rfl, hb5⟩
            have hl5 := (hl4.alloc _).below hb5
            have hS5 := (hS4.alloc _).below hb5
            have hT5 := (hT4.alloc _).below hb5
            have hM5 := (hM4.alloc _).below hb5
            have hY5 := hbY.below hb5
            have ho5 := ownKept (ownKept ho4 (Below.alloc (Below.refl _ w4) (Nat.le_refl _) (Obj.cells #[.int .i64 nx.p, .int .i64 nx.v, .int .i64 nx.a] 81))) hb5
            have hb5' := (hb4'.alloc (by omega) (Obj.cells #[.int .i64 nx.p, .int .i64 nx.v, .int .i64 nx.a] 81)).trans (hb5.mono (by simp; omega))
            clear hl4 hS4 hT4 hM4 ho4 hb4' hcS hbY hb5
            have hcl := hl5.cell
            have hcn : w5.cell? ⟨g, kn, none⟩ = some (.int .i64 y) := by rw [hT5.cell, ints_get, hy]; rfl
            have hcm : w5.cell? ⟨g, km, none⟩ = some (.int .i64 z) := by rw [hT5.cell, ints_get, hz]; rfl
            have hwz : wrap64 (z - 1) = z - 1 := w64 (by omega) (by omega)
            have hi1 : (kn : Int) < (N : Int) := by omega
            have hi2 : (km : Int) < (N : Int) := by omega
            by_cases hgd : y = z - 1
            · have hgood : good s T m b := ⟨by rw [hnx]; exact hhn, by rw [hnx]; omega⟩
              have Hpre2 := hid (pre_snoc Hpre.out ⟨by omega, by omega⟩ hgood Hmin.out)
              rw [hnx] at Hpre2
              subst hgd
              go_wp2_with fail
              go_quiet (fail)
              have hl6 : Blk (w5.drewN nq) B 27 _ := hl5
              have hS6 : Blk (w5.drewN nq) S 94 _ := hS5
              have hT6 : Blk (w5.drewN nq) g 3 _ := hT5
              have hM6 : Blk (w5.drewN nq) M 81 _ := hM5
              have hY6 : Blk (w5.drewN nq) Y 81 _ := hY5
              have ho6 : (w5.drewN nq).ownsRow (M + 1) 3 1 (.slice Ao l.length c) l.length (ints l) := ho5
              have hb6 := below_drewN hb5' nq
              clear hl5 hS5 hT5 hM5 ho5 hb5' hY5 hcn hcm hcl
              generalize w5.drewN nq = w6 at *
              have hlen6 : l.length ≤ 64413 := by have := Hmost.out _ (has_zero s HS.out); omega
              go_wp2_with (at_builtin; refine stop ?_)
              have hY6' := hY6.lt
              have hna : ∀ b, b < M + 1 → Value.ownBlock (.slice Ao l.length c) ≠ some b := fun b hb => own_ne ho6 hb
              refine unstop (wpList_append_rd _ rfl _ _ 44 rfl (M + 1) 3 i0 _ 1 8 Try.underlying44 hi hz0 hz1' hz2' rfl (by omega) (.slice Ao l.length c) l.length (ints l) rfl (ownKept ho6 (Below.alloc (Below.refl _ w6) (Nat.le_refl _) (Obj.cells #[.int .i64 b] 3))) _ (some ⟨w6.heap.size, 0, none⟩) 1 1 [.int .i64 b] rfl (Rd.of_blk (Blk.new w6 3 [.int .i64 b]) rfl) ?_ (by simp [maxLen]; omega) (by omega) (by simp; omega) ?_)
              · intro u hu
                simp at hu
                subst hu; rfl
              intro A2 c2 w7 ho7 hg7 hor
              have hl7 := (hl6.alloc _).kept hg7 (hna _ (by omega))
              have hS7 := (hS6.alloc _).kept hg7 (hna _ (by omega))
              have hT7 := (hT6.alloc _).kept hg7 (hna _ (by omega))
              have hM7 := (hM6.alloc _).kept hg7 (hna _ (by omega))
              have hY7 : Blk w7 Y 81 [.int .i64 nx.p, .int .i64 nx.v, .int .i64 nx.a] := (hY6.alloc _).kept hg7 (own_ne_blk ho6 hY6 (by decide))
              have hb7 : Below B w w7 := (hb6.alloc (by omega) (Obj.cells #[.int .i64 b] 3)).trans (grownOwn hg7 ho6 (by omega) (by simp; omega))
              have hBM : B < M := by omega
              have hfM := hM7.frozen
              have hcM := hM7.cell
              have hcY := hY7.cell
              go_wp2_with fail
              have hb8 := belowSet (o := 2) (belowSet (o := 1) (belowSet (o := 0) hb7 (Nat.le_of_lt hBM) (.int .i64 nx.p)) (Nat.le_of_lt hBM) (.int .i64 nx.v)) (Nat.le_of_lt hBM) (.int .i64 nx.a)
              have hl8 := ((hl7.setOther (c := M) 0 (.int .i64 nx.p) (by omega)).setOther (c := M) 1 (.int .i64 nx.v) (by omega)).setOther (c := M) 2 (.int .i64 nx.a) (by omega)
              have hS8 := ((hS7.setOther (c := M) 0 (.int .i64 nx.p) (by omega)).setOther (c := M) 1 (.int .i64 nx.v) (by omega)).setOther (c := M) 2 (.int .i64 nx.a) (by omega)
              have hT8 := ((hT7.setOther (c := M) 0 (.int .i64 nx.p) (by omega)).setOther (c := M) 1 (.int .i64 nx.v) (by omega)).setOther (c := M) 2 (.int .i64 nx.a) (by omega)
              have hM8 := ((hM7.set 0 (.int .i64 nx.p)).set 1 (.int .i64 nx.v)).set 2 (.int .i64 nx.a)
              have ho8 := ownSet (o := 2) (ownSet (o := 1) (ownSet (o := 0) ho7 (own_ne (b := M) ho7 (by omega)) (.int .i64 nx.p)) (own_ne (b := M) ho7 (by omega)) (.int .i64 nx.v)) (own_ne (b := M) ho7 (by omega)) (.int .i64 nx.a)
              go_roundg (go - 1)
              case rel => exact ⟨nx, l ++ [b], kn, A2, c2, rfl, hkn, by simp, hl8, hS8, hT8, hM8, by simpa [ints] using ho8, hb8, hhn, by omega, by omega, by simp; omega, Hpre2.out, by omega⟩
              case measure => omega
            · have hgd2 : decide (y = z - 1) = false := by simp [hgd]
              have Hmin2 : Hid (∀ i, s.jerk i → i < b + 1 → ¬ good s T m i) := hid (by
                intro i hi hlt
                by_cases e : i = b
                · subst e; intro hg; have := hg.2; rw [hnx] at this; omega
                · exact Hmin.out i hi (by omega))
              have hbj : b < jg := by
                rcases Int.lt_or_le b jg with h | h
                · exact h
                · have e : jg = b := by omega
                  rw [e] at Hjg
                  have := Hjg.out.2; rw [hnx] at this; omega
              go_wp2_with fail
              go_quiet (fail)
              have hl6 : Blk (w5.drewN nq) B 27 _ := hl5
              have hS6 : Blk (w5.drewN nq) S 94 _ := hS5
              have hT6 : Blk (w5.drewN nq) g 3 _ := hT5
              have hM6 : Blk (w5.drewN nq) M 81 _ := hM5
              have ho6 : (w5.drewN nq).ownsRow (M + 1) 3 1 (.slice Ao l.length c) l.length (ints l) := ho5
              have hb6 := below_drewN hb5' nq
              clear hl5 hS5 hT5 hM5 ho5 hb5'
              go_wp2_with fail
              go_roundg (gk - 1)
              case rel => first | exact ⟨b + 1, rfl, rfl, by go_num, by omega, by omega, hl6, hS6, hT6, hM6, ho6, hb6, Hmin2.out, by omega⟩ | ((repeat apply Exists.intro); exact ⟨⟨b + 1, rfl, rfl, by go_num, by omega, by omega, hl6, hS6, hT6, hM6, ho6, hb6, Hmin2.out, by omega⟩, rfl⟩)
              case measure => omega
          · have hout := of_out s nx HS.out hhn
            rw [hsv] at hout
            simp only [Mo.val] at hout
            have Hout := hid hout
            clear hout
            go_wp2_with fail
            refine Calls.mono (Hout.out _) ?_; rintro e w5 ⟨rfl, hb5⟩
            have hl5 := (hl4.alloc _).below hb5
            have hS5 := (hS4.alloc _).below hb5
            have hT5 := (hT4.alloc _).below hb5
            have hM5 := (hM4.alloc _).below hb5
            have ho5 := ownKept (ownKept ho4 (Below.alloc (Below.refl _ w4) (Nat.le_refl _) (Obj.cells #[.int .i64 nx.p, .int .i64 nx.v, .int .i64 nx.a] 81))) hb5
            have hb5' := (hb4'.alloc (by omega) (Obj.cells #[.int .i64 nx.p, .int .i64 nx.v, .int .i64 nx.a] 81)).trans (hb5.mono (by simp; omega))
            clear hl4 hS4 hT4 hM4 ho4 hb4' hcS hbY hb5
            have hcl := hl5.cell
            have Hmin2 : Hid (∀ i, s.jerk i → i < b + 1 → ¬ good s T m i) := hid (by
              intro i hi hlt
              by_cases e : i = b
              · subst e; intro hg; have := hg.1; rw [hnx] at this; exact hhn this
              · exact Hmin.out i hi (by omega))
            have hbj : b < jg := by
              rcases Int.lt_or_le b jg with h | h
              · exact h
              · have e : jg = b := by omega
                rw [e] at Hjg
                have := Hjg.out.1; rw [hnx] at this; exact absurd this hhn
            go_wp2_with fail
            go_quiet (fail)
            have hl6 : Blk (w5.drewN nq) B 27 _ := hl5
            have hS6 : Blk (w5.drewN nq) S 94 _ := hS5
            have hT6 : Blk (w5.drewN nq) g 3 _ := hT5
            have hM6 : Blk (w5.drewN nq) M 81 _ := hM5
            have ho6 : (w5.drewN nq).ownsRow (M + 1) 3 1 (.slice Ao l.length c) l.length (ints l) := ho5
            have hb6 := below_drewN hb5' nq
            clear hl5 hS5 hT5 hM5 ho5 hb5'
            go_wp2_with fail
            go_roundg (gk - 1)
            case rel => first | exact ⟨b + 1, rfl, rfl, by go_num, by omega, by omega, hl6, hS6, hT6, hM6, ho6, hb6, Hmin2.out, by omega⟩ | ((repeat apply Exists.intro); exact ⟨⟨b + 1, rfl, rfl, by go_num, by omega, by omega, hl6, hS6, hT6, hM6, ho6, hb6, Hmin2.out, by omega⟩, rfl⟩)
            case measure => omega
      · have HR : Hid (ProfLeft s w (.returned (.tuple #[.slice Ao l.length c, .bool true])) wr) := hid (by
          have hg : greedy s T Mo.zero l := by have := Hpre.out [] (show tv s T m = 1 by omega); simpa using this
          have hb' := greedy_best s HS.out T HPP.out l (by omega) hg
          have hp := prof_eq HS.out (l := l) ⟨hb'.1, hb'.2.1, hb'.2.2⟩
          refine ⟨?_, hB ▸ hb⟩
          rw [hp]
          exact ⟨Ao, c, rfl, own_lower hown (by omega)⟩)
        go_wp2_with fail
        go_ret2
        exact HR.out
/-- The contract of Profile. -/
theorem profile_any (V A J D : Int) (w : World) : Calls Try.prog 22 #[.agg #[.int .i64 V, .int .i64 A, .int .i64 J], .int .i64 D] w (ProfLeft ⟨V, A, J, D⟩ w) := by
  by_cases h : (⟨V, A, J, D⟩ : Sp).ok
  · exact profile_ok V A J D w h
  · exact profile_bad V A J D w h

def len2 (r : Option (List Int)) : Int := match r with | none => 0 | some l => l.length

set_option maxRecDepth 100000 in
set_option maxHeartbeats 1000000 in
theorem duration_any (V A J D : Int) (w : World) : Calls Try.prog 17 #[.agg #[.int .i64 V, .int .i64 A, .int .i64 J], .int .i64 D] w fun e w' => e = .returned (.tuple #[.int .i64 (len2 (prof ⟨V, A, J, D⟩)), .bool (prof ⟨V, A, J, D⟩).isSome]) ∧ Below w.heap.size w w' := by
  have hp := profile_any V A J D
  unfold ProfLeft at hp
  cases hq : prof ⟨V, A, J, D⟩ with
  | none =>
    rw [hq] at hp
    simp only at hp
    have Hp := hid hp
    clear hp hq
    go_enter Try.func17, Try.ntmps17
    go_wp2_with fail
    refine Calls.mono (Hp.out _) ?_; rintro e w1 ⟨rfl, hb⟩
    go_wp2_with fail
    go_ret2
    exact ⟨rfl, belowAfter (belowAlloc (Below.refl _ _) _) hb⟩
  | some l =>
    rw [hq] at hp
    simp only at hp
    have Hp := hid hp
    clear hp hq
    go_enter Try.func17, Try.ntmps17
    go_wp2_with fail
    refine Calls.mono (Hp.out _) ?_; rintro e w1 ⟨⟨A', c, rfl, ho⟩, hb⟩
    go_wp2_with fail
    go_ret2
    exact ⟨rfl, belowAfter (belowAlloc (Below.refl _ _) _) hb⟩
end Go.Proofs.Ytmpafnhaigfopaa
