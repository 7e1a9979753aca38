/- MintimeLocal: the plain part: which sequences exist, the examples. -/
import Derived.Test.YtmpafnhaigfopaaRef22
set_option linter.unusedSimpArgs false
set_option linter.unusedVariables false
namespace Go.Proofs.Ytmpafnhaigfopaa

theorem leads_cruise (s : Sp) (hs : s.ok) : ∀ (n : Nat) (p : Int), 0 ≤ p → p + n = s.D → leads s ⟨p, 1, 0⟩ (List.replicate n 0 ++ [-1, 1])
  | 0, p, h0, h => by
    obtain ⟨hv1, hv2, ha1, ha2, hj1, hj2, hd1, hd2⟩ := hs
    simp [leads, Mo.tick, Sp.has, Sp.jerk, Sp.goal]
    omega
  | n + 1, p, h0, h => by
    have ih := leads_cruise s hs n (p + 1) (by omega) (by omega)
    obtain ⟨hv1, hv2, ha1, ha2, hj1, hj2, hd1, hd2⟩ := hs
    rw [List.replicate_succ, List.cons_append]
    refine ⟨⟨by omega, by omega⟩, ?_, ?_⟩
    · simp [Mo.tick, Sp.has]; omega
    · simpa [Mo.tick] using ih

theorem exists_leads (s : Sp) (hs : s.ok) (h : ¬ (s.D = 1 ∧ s.J = 1)) : ∃ l, leads s Mo.zero l ∧ (l.length : Int) ≤ s.D + 2 := by
  have hs' := hs
  obtain ⟨hv1, hv2, ha1, ha2, hj1, hj2, hd1, hd2⟩ := hs
  by_cases h0 : s.D = 0
  · exact ⟨[], by simp [leads, Mo.zero, Sp.goal, h0], by simp; omega⟩
  · by_cases h1 : s.D = 1
    · refine ⟨[1, -2, 1], ?_, by simp; omega⟩
      simp [leads, Mo.tick, Sp.has, Sp.jerk, Sp.goal, Mo.zero]
      omega
    · refine ⟨1 :: -1 :: (List.replicate (s.D - 2).toNat 0 ++ [-1, 1]), ?_, by simp; omega⟩
      have := leads_cruise s hs' (s.D - 2).toNat 2 (by omega) (by omega)
      refine ⟨⟨by omega, by omega⟩, ?_, ⟨by omega, by omega⟩, ?_, ?_⟩
      · simp [Mo.tick, Sp.has, Mo.zero]; omega
      · simp [Mo.tick, Sp.has, Mo.zero]; omega
      · simpa [Mo.tick, Mo.zero] using this

theorem prof_none_when (s : Sp) (hs : s.ok) (h : prof s = none) : s.D = 1 ∧ s.J = 1 := by
  by_cases hc : s.D = 1 ∧ s.J = 1
  · exact hc
  · obtain ⟨l, hl, _⟩ := exists_leads s hs hc
    exact absurd hl (prof_not hs h l)

theorem prof_empty_when (s : Sp) (h : prof s = some []) : s.D = 0 := by
  have := (prof_some h).2.leads
  simp [leads, Mo.zero, Sp.goal] at this
  omega

/-! ### The examples -/
theorem ex_ok (V A J D : Int) (h : 1 ≤ V ∧ V ≤ 8 ∧ 1 ≤ A ∧ A ≤ 4 ∧ 1 ≤ J ∧ J ≤ 2 ∧ 0 ≤ D ∧ D ≤ 420) : (⟨V, A, J, D⟩ : Sp).ok := ⟨h.1, h.2.1, h.2.2.1, h.2.2.2.1, h.2.2.2.2.1, h.2.2.2.2.2.1, h.2.2.2.2.2.2.1, h.2.2.2.2.2.2.2⟩

theorem prof_a : prof ⟨8, 4, 2, 1⟩ = some [1, -2, 1] := by
  refine prof_eq (ex_ok _ _ _ _ (by decide)) ⟨(leadsB_iff _ _ _).1 (by decide), ?_, ?_⟩
  · intro l hl
    match l, hl with
    | [], hl => simp [leads, Mo.zero, Sp.goal] at hl
    | [a], hl => simp [leads, Mo.zero, Sp.goal, Mo.tick, Sp.has, Sp.jerk] at hl; omega
    | [a, b], hl => simp [leads, Mo.zero, Sp.goal, Mo.tick, Sp.has, Sp.jerk] at hl; omega
    | _ :: _ :: _ :: _, hl => simp
  · intro l hl hn
    match l, hl, hn with
    | [a, b, c], hl, hn =>
      simp [leads, Mo.zero, Sp.goal, Mo.tick, Sp.has, Sp.jerk] at hl
      obtain rfl : a = 1 := by omega
      obtain rfl : b = -2 := by omega
      obtain rfl : c = 1 := by omega
      decide

theorem prof_b : prof ⟨1, 1, 1, 2⟩ = some [1, -1, -1, 1] := by
  refine prof_eq (ex_ok _ _ _ _ (by decide)) ⟨(leadsB_iff _ _ _).1 (by decide), ?_, ?_⟩
  · intro l hl
    match l, hl with
    | [], hl => simp [leads, Mo.zero, Sp.goal] at hl
    | [a], hl => simp [leads, Mo.zero, Sp.goal, Mo.tick, Sp.has, Sp.jerk] at hl; omega
    | [a, b], hl => simp [leads, Mo.zero, Sp.goal, Mo.tick, Sp.has, Sp.jerk] at hl; omega
    | [a, b, c], hl => simp [leads, Mo.zero, Sp.goal, Mo.tick, Sp.has, Sp.jerk] at hl; omega
    | _ :: _ :: _ :: _ :: _, hl => simp
  · intro l hl hn
    match l, hl, hn with
    | [a, b, c, d], hl, hn =>
      simp [leads, Mo.zero, Sp.goal, Mo.tick, Sp.has, Sp.jerk] at hl
      obtain rfl : a = 1 := by omega
      obtain rfl : b = -1 := by omega
      obtain rfl : c = -1 := by omega
      obtain rfl : d = 1 := by omega
      decide

theorem stuck (s : Sp) (hs : s.ok) (hd : s.D = 1) (hj1 : s.J = 1) : ∀ (l : List Int) (m : Mo), m = ⟨0, 0, 0⟩ ∨ m = ⟨1, 1, 1⟩ → ¬ leads s m l
  | [], m, hm, hl => by
    rcases hm with rfl | rfl <;> simp [leads, Sp.goal] at hl <;> omega
  | j :: l, m, hm, hl => by
    obtain ⟨hj, hh, hl'⟩ := hl
    refine stuck s hs hd hj1 l _ ?_ hl'
    obtain ⟨hv1, hv2, ha1, ha2, hj1, hj2, hd1, hd2⟩ := hs
    rcases hm with rfl | rfl
    · simp [Mo.tick, Sp.has, Sp.jerk] at hj hh ⊢; omega
    · simp [Mo.tick, Sp.has, Sp.jerk] at hj hh ⊢; omega

/-- A minimum-time sequence is no longer than the distance and two. -/
theorem prof_length {s : Sp} {l : List Int} (h : prof s = some l) : (l.length : Int) ≤ s.D + 2 := by
  obtain ⟨hs, hb⟩ := prof_some h
  by_cases hc : s.D = 1 ∧ s.J = 1
  · exact absurd hb.leads (stuck s hs hc.1 hc.2 l _ (.inl rfl))
  · obtain ⟨l', hl', hn⟩ := exists_leads s hs hc
    have := hb.short l' hl'
    omega

theorem prof_c : prof ⟨1, 1, 1, 1⟩ = none := prof_none fun l => stuck ⟨1, 1, 1, 1⟩ (ex_ok _ _ _ _ (by decide)) rfl rfl l _ (.inl rfl)
theorem prof_d : prof ⟨1, 1, 1, 0⟩ = some [] := prof_eq (ex_ok _ _ _ _ (by decide)) ⟨(leadsB_iff _ _ _).1 (by decide), fun l _ => by simp, fun l _ _ => by cases l <;> rfl⟩
theorem prof_e : prof ⟨1, 1, 3, 0⟩ = none := prof_bad fun h => by have := h.j2; simp at this
theorem prof_f : prof ⟨8, 4, 2, 421⟩ = none := prof_bad fun h => by have := h.d2; simp at this
end Go.Proofs.Ytmpafnhaigfopaa
