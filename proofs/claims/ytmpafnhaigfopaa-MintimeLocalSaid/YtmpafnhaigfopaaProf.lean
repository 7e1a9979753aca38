/- Package mintime: Profile as a function of plain numbers. -/
import Derived.Test.YtmpafnhaigfopaaBfs
set_option linter.unusedSimpArgs false
set_option linter.unusedVariables false
namespace Go.Proofs.Ytmpafnhaigfopaa

theorem less_total : ∀ (a b : List Int), a.length = b.length → less a b = false → less b a = false → a = b
  | [], [], _, _, _ => rfl
  | [], _ :: _, h, _, _ => by simp at h
  | _ :: _, [], h, _, _ => by simp at h
  | x :: a, y :: b, h, h1, h2 => by
    by_cases e : x = y
    · subst e
      simp [less] at h1 h2
      rw [less_total a b (by simpa using h) h1 h2]
    · simp [less, e] at h1
      simp [less, Ne.symm e] at h2
      omega

/-- The least of the shortest that lead from rest at 0 to rest at the distance. -/
structure Best (s : Sp) (l : List Int) : Prop where
  leads : leads s Mo.zero l
  short : ∀ l', Go.Proofs.Ytmpafnhaigfopaa.leads s Mo.zero l' → l.length ≤ l'.length
  least : ∀ l', Go.Proofs.Ytmpafnhaigfopaa.leads s Mo.zero l' → l'.length = l.length → less l' l = false

theorem Best.uniq {s : Sp} {l l' : List Int} (h : Best s l) (h' : Best s l') : l = l' := by
  have h1 := h.short l' h'.leads
  have h2 := h'.short l h.leads
  exact less_total _ _ (by omega) (h'.least l h.leads (by omega)) (h.least l' h'.leads (by omega))

theorem least_head (P : Int → Prop) (k : Int) (hk : ∀ x, P x → k ≤ x) (x : Int) (hx : P x) : ∃ y, P y ∧ ∀ z, P z → y ≤ z := by
  have : ∀ n : Nat, ∀ x, P x → (x - k).toNat ≤ n → ∃ y, P y ∧ ∀ z, P z → y ≤ z := by
    intro n
    induction n with
    | zero =>
      intro x hx hn
      exact ⟨x, hx, fun z hz => by have := hk z hz; have := hk x hx; omega⟩
    | succ n ih =>
      intro x hx hn
      by_cases h : ∃ z, P z ∧ z < x
      · obtain ⟨z, hz, hlt⟩ := h
        have := hk z hz
        exact ih z hz (by omega)
      · exact ⟨x, hx, fun z hz => by
          rcases Int.lt_or_le z x with h1 | h1
          · exact absurd ⟨z, hz, h1⟩ h
          · exact h1⟩
  exact this _ x hx (Nat.le_refl _)

theorem least_list (k : Int) : ∀ (n : Nat) (P : List Int → Prop), (∀ l, P l → l.length = n ∧ ∀ x ∈ l, k ≤ x) → (∃ l, P l) → ∃ l, P l ∧ ∀ l', P l' → less l' l = false
  | 0, P, h, ⟨l, hl⟩ => ⟨l, hl, fun l' hl' => by
      have := (h l' hl').1
      rw [List.eq_nil_of_length_eq_zero this]; rfl⟩
  | n + 1, P, h, ⟨l, hl⟩ => by
    have hne : ∀ l, P l → ∃ x t, l = x :: t := by
      intro l hl
      match l, (h l hl).1 with
      | x :: t, _ => exact ⟨x, t, rfl⟩
    obtain ⟨x0, t0, rfl⟩ := hne l hl
    obtain ⟨y, ⟨t1, ht1⟩, hy⟩ := least_head (fun x => ∃ t, P (x :: t)) k (fun x ⟨t, ht⟩ => (h _ ht).2 x (by simp)) x0 ⟨t0, hl⟩
    obtain ⟨t, ht, hmin⟩ := least_list k n (fun t => P (y :: t)) (fun t ht => ⟨by simpa using (h _ ht).1, fun x hx => (h _ ht).2 x (by simp [hx])⟩) ⟨t1, ht1⟩
    refine ⟨y :: t, ht, fun l' hl' => ?_⟩
    obtain ⟨x, t', rfl⟩ := hne l' hl'
    by_cases e : x = y
    · subst e; simp [less, hmin t' hl']
    · have := hy x ⟨t', hl'⟩
      simp [less, e]; omega

theorem leads_jerk (s : Sp) : ∀ (l : List Int) (m : Mo), leads s m l → ∀ x ∈ l, s.jerk x
  | [], _, _, x, hx => by simp at hx
  | j :: l, m, h, x, hx => by
    rcases List.mem_cons.1 hx with rfl | hx
    · exact h.1
    · exact leads_jerk s l _ h.2.2 x hx

theorem least_nat (P : Nat → Prop) (n : Nat) (hn : P n) : ∃ m, P m ∧ ∀ k, P k → m ≤ k := by
  have : ∀ n m, P m → m ≤ n → ∃ m, P m ∧ ∀ k, P k → m ≤ k := by
    intro n
    induction n with
    | zero => intro m hm h; exact ⟨m, hm, fun k _ => by omega⟩
    | succ n ih =>
      intro m hm h
      by_cases e : ∃ k, P k ∧ k < m
      · obtain ⟨k, hk, hlt⟩ := e
        exact ih k hk (by omega)
      · exact ⟨m, hm, fun k hk => by
          rcases Nat.lt_or_ge k m with h1 | h1
          · exact absurd ⟨k, hk, h1⟩ e
          · exact h1⟩
  exact this n n hn (Nat.le_refl _)

theorem exists_Best (s : Sp) (l : List Int) (hl : leads s Mo.zero l) : ∃ l, Best s l := by
  obtain ⟨n, ⟨l1, h1, h2⟩, hmin⟩ := least_nat (fun n => ∃ l, leads s Mo.zero l ∧ l.length = n) l.length ⟨l, hl, rfl⟩
  obtain ⟨l2, ⟨h3, h4⟩, hm2⟩ := least_list (-s.J) n (fun l => leads s Mo.zero l ∧ l.length = n) (fun l h => ⟨h.2, fun x hx => (leads_jerk s l _ h.1 x hx).1⟩) ⟨l1, h1, h2⟩
  exact ⟨l2, h3, fun l' hl' => by rw [h4]; exact hmin _ ⟨l', hl', rfl⟩, fun l' hl' e => hm2 l' ⟨hl', by rw [e, h4]⟩⟩

open Classical in
/-- Go's Profile. -/
noncomputable def prof (s : Sp) : Option (List Int) := if h : s.ok ∧ ∃ l, Best s l then some h.2.choose else none

theorem prof_eq {s : Sp} (hs : s.ok) {l : List Int} (h : Best s l) : prof s = some l := by
  unfold prof
  have hx : s.ok ∧ ∃ l, Best s l := ⟨hs, l, h⟩
  rw [dif_pos hx]
  exact congrArg some (hx.2.choose_spec.uniq h)
theorem prof_bad {s : Sp} (hs : ¬ s.ok) : prof s = none := by
  unfold prof; rw [dif_neg (fun h => hs h.1)]
theorem prof_none {s : Sp} (h : ∀ l, ¬ leads s Mo.zero l) : prof s = none := by
  unfold prof; rw [dif_neg (fun ⟨_, l, hl⟩ => h l hl.leads)]
theorem prof_some {s : Sp} {l : List Int} (h : prof s = some l) : s.ok ∧ Best s l := by
  unfold prof at h
  split at h
  · rename_i hx
    injection h with h
    exact ⟨hx.1, h ▸ hx.2.choose_spec⟩
  · cases h
theorem prof_not {s : Sp} (hs : s.ok) (h : prof s = none) : ∀ l, ¬ leads s Mo.zero l := by
  intro l hl
  obtain ⟨l2, h2⟩ := exists_Best s l hl
  rw [prof_eq hs h2] at h; cases h
end Go.Proofs.Ytmpafnhaigfopaa
