/- The search of package mintime, in plain numbers: what the table holds when the search ends, and that the path read off it is the least of the shortest. -/
namespace Go.Proofs.Ytmpafnhaigfopaa

/-- A motion: position, speed, acceleration. -/
structure Mo where
  p : Int
  v : Int
  a : Int
  deriving DecidableEq

/-- Limits and a distance. -/
structure Sp where
  V : Int
  A : Int
  J : Int
  D : Int

/-- The limits are valid and the distance is one that is asked for. -/
structure Sp.ok (s : Sp) : Prop where
  v1 : 1 ≤ s.V
  v2 : s.V ≤ 8
  a1 : 1 ≤ s.A
  a2 : s.A ≤ 4
  j1 : 1 ≤ s.J
  j2 : s.J ≤ 2
  d1 : 0 ≤ s.D
  d2 : s.D ≤ 420

def Sp.has (s : Sp) (m : Mo) : Prop := 0 ≤ m.p ∧ m.p ≤ s.D ∧ -s.V ≤ m.v ∧ m.v ≤ s.V ∧ -s.A ≤ m.a ∧ m.a ≤ s.A
instance (s : Sp) (m : Mo) : Decidable (s.has m) := by unfold Sp.has; infer_instance
def Sp.idx (s : Sp) (m : Mo) : Int := (m.p * (2 * s.V + 1) + m.v + s.V) * (2 * s.A + 1) + m.a + s.A
def Sp.many (s : Sp) : Int := (s.D + 1) * (2 * s.V + 1) * (2 * s.A + 1)
def Sp.goal (s : Sp) : Mo := ⟨s.D, 0, 0⟩
def Mo.zero : Mo := ⟨0, 0, 0⟩
def Mo.tick (m : Mo) (j : Int) : Mo := ⟨m.p + (m.v + (m.a + j)), m.v + (m.a + j), m.a + j⟩
def Mo.bk (m : Mo) (j : Int) : Mo := ⟨m.p - m.v, m.v - m.a, m.a - j⟩
theorem tick_bk (m : Mo) (j : Int) : (m.bk j).tick j = m := by
  obtain ⟨p, v, a⟩ := m
  simp only [Mo.bk, Mo.tick, Mo.mk.injEq]; omega
theorem bk_tick (m : Mo) (j : Int) : (m.tick j).bk j = m := by
  obtain ⟨p, v, a⟩ := m
  simp only [Mo.bk, Mo.tick, Mo.mk.injEq]; omega

theorem Sp.idx_bounds (s : Sp) (hs : s.ok) (m : Mo) (h : s.has m) : 0 ≤ s.idx m ∧ s.idx m < s.many ∧ s.many ≤ 64413 := by
  obtain ⟨hv1, hv2, ha1, ha2, hj1, hj2, hd1, hd2⟩ := hs
  obtain ⟨h1, h2, h3, h4, h5, h6⟩ := h
  unfold Sp.idx Sp.many
  have e1 : 0 ≤ m.p * (2 * s.V + 1) := Int.mul_nonneg h1 (by omega)
  have e2 : m.p * (2 * s.V + 1) ≤ s.D * (2 * s.V + 1) := Int.mul_le_mul_of_nonneg_right h2 (by omega)
  have e3 : (s.D + 1) * (2 * s.V + 1) = s.D * (2 * s.V + 1) + (2 * s.V + 1) := by rw [Int.add_mul]; omega
  have e4 : s.D * (2 * s.V + 1) ≤ 420 * 17 := Int.mul_le_mul hd2 (by omega) (by omega) (by omega)
  generalize m.p * (2 * s.V + 1) = x at *
  generalize s.D * (2 * s.V + 1) = y at *
  rw [e3]
  have f1 : 0 ≤ (x + m.v + s.V) * (2 * s.A + 1) := Int.mul_nonneg (by omega) (by omega)
  have f2 : (x + m.v + s.V) * (2 * s.A + 1) ≤ (y + 2 * s.V) * (2 * s.A + 1) := Int.mul_le_mul_of_nonneg_right (by omega) (by omega)
  have f3 : (y + (2 * s.V + 1)) * (2 * s.A + 1) = (y + 2 * s.V) * (2 * s.A + 1) + (2 * s.A + 1) := by rw [← Int.add_assoc, Int.add_mul (y + 2 * s.V) 1]; omega
  have f4 : (y + (2 * s.V + 1)) * (2 * s.A + 1) ≤ 7157 * 9 := Int.mul_le_mul (by omega) (by omega) (by omega) (by omega)
  omega

/-- Two numbers with one quotient and remainder. -/
theorem radix {x y r t k : Int} (hk : 0 < k) (h : x * k + r = y * k + t) (hr0 : 0 ≤ r) (hr : r < k) (ht0 : 0 ≤ t) (ht : t < k) : x = y ∧ r = t := by
  have hxy : x = y := by
    have e : (x - y) * k = t - r := by rw [Int.sub_mul]; omega
    rcases Int.lt_trichotomy x y with h1 | h1 | h1
    · have : (x - y) * k ≤ (-1) * k := Int.mul_le_mul_of_nonneg_right (by omega) (by omega)
      omega
    · exact h1
    · have : 1 * k ≤ (x - y) * k := Int.mul_le_mul_of_nonneg_right (by omega) (by omega)
      omega
  subst hxy
  exact ⟨rfl, by omega⟩

theorem Sp.idx_inj (s : Sp) (hs : s.ok) (m m' : Mo) (h : s.has m) (h' : s.has m') (e : s.idx m = s.idx m') : m = m' := by
  obtain ⟨hv1, hv2, ha1, ha2, hj1, hj2, hd1, hd2⟩ := hs
  obtain ⟨p, v, a⟩ := m
  obtain ⟨p', v', a'⟩ := m'
  obtain ⟨h1, h2, h3, h4, h5, h6⟩ := h
  obtain ⟨g1, g2, g3, g4, g5, g6⟩ := h'
  simp only [Sp.idx] at *
  have r1 := radix (x := p * (2 * s.V + 1) + v + s.V) (y := p' * (2 * s.V + 1) + v' + s.V) (r := a + s.A) (t := a' + s.A) (k := 2 * s.A + 1) (by omega) (by omega) (by omega) (by omega) (by omega) (by omega)
  have r2 := radix (x := p) (y := p') (r := v + s.V) (t := v' + s.V) (k := 2 * s.V + 1) (by omega) (by omega) (by omega) (by omega) (by omega) (by omega)
  simp only [Mo.mk.injEq]
  omega

/-- What the table says of a motion. -/
def tv (s : Sp) (T : List Int) (m : Mo) : Int := T.getD (s.idx m).toNat 0
/-- A jerk that the limit allows. -/
def Sp.jerk (s : Sp) (j : Int) : Prop := -s.J ≤ j ∧ j ≤ s.J

/-- The jerks lead from m to the goal within the limits. -/
def leads (s : Sp) : Mo → List Int → Prop
  | m, [] => m = s.goal
  | m, j :: l => s.jerk j ∧ s.has (m.tick j) ∧ leads s (m.tick j) l

theorem tv_set_same (s : Sp) (hs : s.ok) (T : List Int) (m : Mo) (x : Int) (h : s.has m) (hl : (T.length : Int) = s.many) : tv s (T.set (s.idx m).toNat x) m = x := by
  have := s.idx_bounds hs m h
  unfold tv
  rw [List.getD_eq_getElem?_getD, List.getElem?_set_self (by omega)]; rfl
theorem tv_set_other (s : Sp) (hs : s.ok) (T : List Int) (m m' : Mo) (x : Int) (h : s.has m) (h' : s.has m') (hne : m ≠ m') : tv s (T.set (s.idx m).toNat x) m' = tv s T m' := by
  have b1 := s.idx_bounds hs m h
  have b2 := s.idx_bounds hs m' h'
  have : s.idx m ≠ s.idx m' := fun e => hne (s.idx_inj hs m m' h h' e)
  unfold tv
  rw [List.getD_eq_getElem?_getD, List.getElem?_set_ne (by omega), List.getD_eq_getElem?_getD]

theorem has_goal (s : Sp) (hs : s.ok) : s.has s.goal := by
  obtain ⟨hv1, hv2, ha1, ha2, hj1, hj2, hd1, hd2⟩ := hs
  simp only [Sp.has, Sp.goal]; omega
theorem has_zero (s : Sp) (hs : s.ok) : s.has Mo.zero := by
  obtain ⟨hv1, hv2, ha1, ha2, hj1, hj2, hd1, hd2⟩ := hs
  simp only [Sp.has, Mo.zero]; omega

/-- What holds of the table at any time. -/
structure Tab (s : Sp) (T : List Int) : Prop where
  len : (T.length : Int) = s.many
  sound : ∀ m, s.has m → 0 < tv s T m → ∃ l, leads s m l ∧ (l.length : Int) = tv s T m - 1
  goal : tv s T s.goal = 1
  pos : ∀ m, s.has m → 0 ≤ tv s T m

/-- The motion's predecessors have been met. -/
def closed (s : Sp) (T : List Int) (m : Mo) (j : Int) : Prop := s.has (m.bk j) → 0 < tv s T (m.bk j) ∧ tv s T (m.bk j) ≤ tv s T m + 1

/-- Between two motions of the queue. -/
structure Inv (s : Sp) (T : List Int) (Q : List Mo) : Prop where
  tab : Tab s T
  mem : ∀ q ∈ Q, s.has q ∧ 0 < tv s T q
  near : ∀ q ∈ Q, ∀ q' ∈ Q, tv s T q' ≤ tv s T q + 1
  sorted : Q.Pairwise fun q q' => tv s T q ≤ tv s T q'
  top : ∀ x, s.has x → ∀ q ∈ Q, tv s T x ≤ tv s T q + 1
  done : ∀ m, s.has m → 0 < tv s T m → m ∉ Q → ∀ j, s.jerk j → closed s T m j

/-- While the motion m is worked on: its jerks below b are done. -/
structure Inv2 (s : Sp) (T : List Int) (m : Mo) (Q : List Mo) (b : Int) : Prop where
  tab : Tab s T
  hm : s.has m
  pm : 0 < tv s T m
  mem : ∀ q ∈ Q, s.has q ∧ 0 < tv s T q
  near : ∀ q ∈ Q, tv s T m ≤ tv s T q ∧ tv s T q ≤ tv s T m + 1
  sorted : Q.Pairwise fun q q' => tv s T q ≤ tv s T q'
  top : ∀ x, s.has x → tv s T x ≤ tv s T m + 1
  done : ∀ x, s.has x → 0 < tv s T x → x ∉ Q → x ≠ m → ∀ j, s.jerk j → closed s T x j
  some : ∀ j, s.jerk j → j < b → closed s T m j

/-- What the search leaves. -/
structure Post (s : Sp) (T : List Int) : Prop where
  tab : Tab s T
  full : 0 < tv s T Mo.zero → ∀ x l, s.has x → leads s x l → (l.length : Int) + 1 < tv s T Mo.zero → 0 < tv s T x ∧ tv s T x ≤ l.length + 1
  none : tv s T Mo.zero = 0 → ∀ l, ¬ leads s Mo.zero l

theorem inv_start (s : Sp) (hs : s.ok) : Inv s ((List.replicate s.many.toNat 0).set (s.idx s.goal).toNat 1) [s.goal] := by
  have hg := has_goal s hs
  have hb := s.idx_bounds hs _ hg
  have hl : ((List.replicate s.many.toNat (0 : Int)).length : Int) = s.many := by simp; omega
  have h1 := tv_set_same s hs (List.replicate s.many.toNat 0) s.goal 1 hg hl
  have h0 : ∀ m, s.has m → m ≠ s.goal → tv s ((List.replicate s.many.toNat 0).set (s.idx s.goal).toNat 1) m = 0 := by
    intro m hm hne
    rw [tv_set_other s hs _ _ _ _ hg hm (Ne.symm hne)]
    unfold tv
    rw [List.getD_eq_getElem?_getD, List.getElem?_replicate]; split <;> rfl
  refine ⟨⟨by rw [List.length_set]; exact hl, ?_, h1, ?_⟩, ?_, ?_, ?_, ?_, ?_⟩
  · intro m hm hp
    by_cases e : m = s.goal
    · subst e; exact ⟨[], rfl, by rw [h1]; rfl⟩
    · rw [h0 m hm e] at hp; omega
  · intro m hm
    by_cases e : m = s.goal
    · subst e; omega
    · rw [h0 m hm e]; omega
  · intro q hq; simp at hq; subst hq; exact ⟨hg, by omega⟩
  · intro q hq q' hq'; simp at hq hq'; subst hq hq'; omega
  · simp
  · intro x hx q hq
    simp at hq; subst hq
    by_cases e : x = s.goal
    · subst e; omega
    · rw [h0 x hx e]; omega
  · intro m hm hp hn
    by_cases e : m = s.goal
    · subst e; simp at hn
    · rw [h0 m hm e] at hp; omega

theorem inv_pop (s : Sp) (T : List Int) (m : Mo) (Q : List Mo) (h : Inv s T (m :: Q)) : Inv2 s T m Q (-s.J) := by
  obtain ⟨h1, h2, h3, h4, h6, h5⟩ := h
  have hm := h2 m (by simp)
  rw [List.pairwise_cons] at h4
  refine ⟨h1, hm.1, hm.2, fun q hq => h2 q (by simp [hq]), fun q hq => ⟨h4.1 q hq, h3 m (by simp) q (by simp [hq])⟩, h4.2, fun x hx => h6 x hx m (by simp), ?_, ?_⟩
  · intro x hx hp hn hne j hj
    exact h5 x hx hp (by simp [hn, hne]) j hj
  · intro j hj hlt; exact absurd hj.1 (by omega)

theorem inv_next (s : Sp) (T : List Int) (m : Mo) (Q : List Mo) (b : Int) (hb : s.J < b) (h : Inv2 s T m Q b) : Inv s T Q := by
  obtain ⟨h1, h2, h3, h4, h5, h6, h9, h7, h8⟩ := h
  refine ⟨h1, h4, fun q hq q' hq' => by have := h5 q hq; have := h5 q' hq'; omega, h6, fun x hx q hq => by have := h9 x hx; have := h5 q hq; omega, ?_⟩
  intro x hx hp hn j hj
  by_cases e : x = m
  · subst e; exact h8 j hj (by have := hj.2; omega)
  · exact h7 x hx hp hn e j hj

theorem inv_skip (s : Sp) (T : List Int) (m : Mo) (Q : List Mo) (b : Int) (h : Inv2 s T m Q b) (hsk : ¬ s.has (m.bk b) ∨ 0 < tv s T (m.bk b)) : Inv2 s T m Q (b + 1) := by
  obtain ⟨h1, h2, h3, h4, h5, h6, h9, h7, h8⟩ := h
  refine ⟨h1, h2, h3, h4, h5, h6, h9, h7, ?_⟩
  intro j hj hlt
  by_cases e : j = b
  · subst e
    intro hh
    rcases hsk with h | h
    · exact absurd hh h
    · exact ⟨h, h9 _ hh⟩
  · exact h8 j hj (by omega)

/-- Whatever has been met lies no further than one step beyond m. -/
theorem inv_bound (s : Sp) (T : List Int) (m : Mo) (Q : List Mo) (b : Int) (h : Inv2 s T m Q b) : ∀ n : Nat, ∀ x l, l.length = n → s.has x → leads s x l → (n : Int) + 1 ≤ tv s T m → 0 < tv s T x ∧ tv s T x ≤ n + 1 := by
  obtain ⟨h1, h2, h3, h4, h5, h6, h9, h7, h8⟩ := h
  intro n
  induction n with
  | zero =>
    intro x l hl hx hle hn
    have : l = [] := List.eq_nil_of_length_eq_zero hl
    subst this
    have e : x = s.goal := hle
    subst e
    rw [h1.goal]; omega
  | succ n ih =>
    intro x l hl hx hle hn
    match l, hl with
    | j :: l', hl =>
      obtain ⟨hj, hy, hle'⟩ := hle
      have := ih (x.tick j) l' (by simpa using hl) hy hle' (by omega)
      have hq : x.tick j ∉ Q := fun hq => by have := (h5 _ hq).1; omega
      have hne : x.tick j ≠ m := fun e => by rw [e] at this; omega
      have hc := h7 _ hy this.1 hq hne j hj
      unfold closed at hc
      rw [bk_tick] at hc
      have := hc hx
      omega

theorem tab_push (s : Sp) (hs : s.ok) (T : List Int) (m : Mo) (Q : List Mo) (b : Int) (h : Inv2 s T m Q b) (hj : s.jerk b) (hw : s.has (m.bk b)) (h0 : tv s T (m.bk b) ≤ 0) :
    Tab s (T.set (s.idx (m.bk b)).toNat (tv s T m + 1)) := by
  obtain ⟨h1, h2, h3, h4, h5, h6, h9, h7, h8⟩ := h
  have hsame := tv_set_same s hs T (m.bk b) (tv s T m + 1) hw h1.len
  have hoth : ∀ x, s.has x → x ≠ m.bk b → tv s (T.set (s.idx (m.bk b)).toNat (tv s T m + 1)) x = tv s T x := fun x hx hne => tv_set_other s hs T _ x _ hw hx (Ne.symm hne)
  refine ⟨by rw [List.length_set]; exact h1.len, ?_, ?_, ?_⟩
  · intro x hx hp
    by_cases e : x = m.bk b
    · subst e
      obtain ⟨l, hl, hn⟩ := h1.sound m h2 h3
      refine ⟨b :: l, ⟨hj, by rw [tick_bk]; exact h2, by rw [tick_bk]; exact hl⟩, ?_⟩
      rw [hsame, List.length_cons]; omega
    · rw [hoth x hx e] at hp ⊢
      exact h1.sound x hx hp
  · by_cases e : s.goal = m.bk b
    · rw [← e, h1.goal] at h0; omega
    · rw [hoth _ (has_goal s hs) e]; exact h1.goal
  · intro x hx
    by_cases e : x = m.bk b
    · subst e; rw [hsame]; omega
    · rw [hoth x hx e]; exact h1.pos x hx

theorem inv_push (s : Sp) (hs : s.ok) (T : List Int) (m : Mo) (Q : List Mo) (b : Int) (h : Inv2 s T m Q b) (hj : s.jerk b) (hw : s.has (m.bk b)) (h0 : tv s T (m.bk b) ≤ 0) :
    Inv2 s (T.set (s.idx (m.bk b)).toNat (tv s T m + 1)) m (Q ++ [m.bk b]) (b + 1) := by
  have ht := tab_push s hs T m Q b h hj hw h0
  obtain ⟨h1, h2, h3, h4, h5, h6, h9, h7, h8⟩ := h
  have hsame := tv_set_same s hs T (m.bk b) (tv s T m + 1) hw h1.len
  have hoth : ∀ x, s.has x → x ≠ m.bk b → tv s (T.set (s.idx (m.bk b)).toNat (tv s T m + 1)) x = tv s T x := fun x hx hne => tv_set_other s hs T _ x _ hw hx (Ne.symm hne)
  generalize T.set (s.idx (m.bk b)).toNat (tv s T m + 1) = T' at *
  have hne : m ≠ m.bk b := fun e => by rw [← e] at h0; omega
  have hm' := hoth m h2 hne
  have hq : ∀ q ∈ Q, tv s T' q = tv s T q := fun q hq => hoth q (h4 q hq).1 (fun e => by have := (h4 q hq).2; rw [e] at this; omega)
  have hpos : ∀ x, s.has x → 0 < tv s T x → tv s T' x = tv s T x := fun x hx hp => hoth x hx (fun e => by rw [e] at hp; omega)
  have hcl : ∀ x j, s.has x → 0 < tv s T x → closed s T x j → closed s T' x j := by
    intro x j hx hp hc hh
    have := hc hh
    rw [hpos _ hh this.1, hpos x hx hp]; exact this
  refine ⟨ht, h2, by omega, ?_, ?_, ?_, ?_, ?_, ?_⟩
  · intro q hq'
    rcases List.mem_append.1 hq' with hq' | hq'
    · rw [hq q hq']; exact h4 q hq'
    · simp at hq'; subst hq'; exact ⟨hw, by rw [hsame]; omega⟩
  · intro q hq'
    rcases List.mem_append.1 hq' with hq' | hq'
    · rw [hq q hq', hm']; exact h5 q hq'
    · simp at hq'; subst hq'; rw [hsame, hm']; omega
  · rw [List.pairwise_append]
    refine ⟨h6.imp_of_mem fun hx hy hxy => by rw [hq _ hx, hq _ hy]; exact hxy, by simp, ?_⟩
    intro x hx y hy
    simp at hy; subst hy
    rw [hq x hx, hsame]; exact (h5 x hx).2
  · intro x hx
    by_cases e : x = m.bk b
    · subst e; rw [hsame, hm']; omega
    · rw [hoth x hx e, hm']; exact h9 x hx
  · intro x hx hp hn hxm j hj'
    have hxq : x ∉ Q := fun h => hn (List.mem_append.2 (.inl h))
    have hxw : x ≠ m.bk b := fun e => hn (List.mem_append.2 (.inr (by simp [e])))
    rw [hoth x hx hxw] at hp
    exact hcl x j hx hp (h7 x hx hp hxq hxm j hj')
  · intro j hj' hlt
    by_cases e : j = b
    · subst e
      intro _
      rw [hsame, hm']; omega
    · exact hcl m j h2 h3 (h8 j hj' (by omega))

/-- The entries that are still nought. -/
def zer (T : List Int) : Nat := T.countP fun x => x == 0
theorem zer_le (T : List Int) : zer T ≤ T.length := List.countP_le_length
theorem zer_set (T : List Int) (i : Nat) (x : Int) (hi : T[i]? = some 0) (hx : x ≠ 0) : zer (T.set i x) + 1 = zer T := by
  induction T generalizing i with
  | nil => simp at hi
  | cons y T ih =>
    cases i with
    | zero => simp at hi; subst hi; simp [zer, List.countP_cons, hx]
    | succ i =>
      have := ih i (by simpa using hi)
      simp only [zer, List.set_cons_succ, List.countP_cons] at this ⊢
      omega

/-- The entries are bounded by what has been met. -/
def bdd (s : Sp) (T : List Int) : Prop := ∀ x, s.has x → tv s T x + zer T ≤ T.length

theorem bdd_push (s : Sp) (hs : s.ok) (T : List Int) (m : Mo) (b : Int) (h1 : Tab s T) (h : bdd s T) (hm : s.has m) (h3 : 0 < tv s T m) (hw : s.has (m.bk b)) (h0 : tv s T (m.bk b) = 0) :
    bdd s (T.set (s.idx (m.bk b)).toNat (tv s T m + 1)) ∧ zer (T.set (s.idx (m.bk b)).toNat (tv s T m + 1)) + 1 = zer T := by
  have hb := s.idx_bounds hs _ hw
  have hl := h1.len
  have hz : T[(s.idx (m.bk b)).toNat]? = some 0 := by
    unfold tv at h0
    rw [List.getD_eq_getElem?_getD, List.getElem?_eq_getElem (by omega)] at h0
    rw [List.getElem?_eq_getElem (by omega)]
    simpa using h0
  have h2 := zer_set T _ (tv s T m + 1) hz (by omega)
  refine ⟨?_, h2⟩
  intro x hx
  rw [List.length_set]
  by_cases e : x = m.bk b
  · subst e; rw [tv_set_same s hs _ _ _ hw h1.len]; have := h m hm; omega
  · rw [tv_set_other s hs _ _ _ _ hw hx (Ne.symm e)]; have := h x hx; omega

theorem bdd_start (s : Sp) (hs : s.ok) : bdd s ((List.replicate s.many.toNat 0).set (s.idx s.goal).toNat 1) ∧ zer ((List.replicate s.many.toNat (0 : Int)).set (s.idx s.goal).toNat 1) + 1 = s.many.toNat := by
  have hg := has_goal s hs
  have hb := s.idx_bounds hs _ hg
  have h2 := zer_set (List.replicate s.many.toNat 0) (s.idx s.goal).toNat 1 (by rw [List.getElem?_replicate, if_pos (by omega)]) (by omega)
  have hz : zer (List.replicate s.many.toNat (0 : Int)) = s.many.toNat := by simp [zer, List.countP_replicate]
  refine ⟨?_, by omega⟩
  intro x hx
  rw [List.length_set, List.length_replicate]
  have hi := inv_start s hs
  have h1 : tv s ((List.replicate s.many.toNat 0).set (s.idx s.goal).toNat 1) x ≤ 1 := by
    by_cases e : x = s.goal
    · subst e; rw [hi.tab.goal]; omega
    · rw [tv_set_other s hs _ _ _ _ hg hx (Ne.symm e)]
      unfold tv
      rw [List.getD_eq_getElem?_getD, List.getElem?_replicate]; split <;> simp
  omega

/-- The start has been met: the search ends. -/
theorem post_found (s : Sp) (hs : s.ok) (T : List Int) (m : Mo) (Q : List Mo) (b : Int) (h : Inv2 s T m Q b) (hj : s.jerk b) (hw : s.has (m.bk b)) (h0 : tv s T (m.bk b) ≤ 0) (hz : m.bk b = Mo.zero) :
    Post s (T.set (s.idx (m.bk b)).toNat (tv s T m + 1)) := by
  have ht := tab_push s hs T m Q b h hj hw h0
  have hbd := inv_bound s T m Q b h
  obtain ⟨h1, h2, h3, h4, h5, h6, h9, h7, h8⟩ := h
  have hsame := tv_set_same s hs T (m.bk b) (tv s T m + 1) hw h1.len
  have hoth : ∀ x, s.has x → x ≠ m.bk b → tv s (T.set (s.idx (m.bk b)).toNat (tv s T m + 1)) x = tv s T x := fun x hx hne => tv_set_other s hs T _ x _ hw hx (Ne.symm hne)
  rw [hz] at hsame h0
  refine ⟨ht, ?_, ?_⟩
  · intro hp x l hx hl hlt
    rw [hz] at hlt
    rw [hsame] at hlt
    have := hbd l.length x l rfl hx hl (by omega)
    by_cases e : x = m.bk b
    · rw [e, hz] at this; omega
    · rw [hoth x hx e]; exact this
  · intro e
    rw [hz] at e
    rw [hsame] at e; omega

/-- The queue is empty: the search ends. -/
theorem post_empty (s : Sp) (T : List Int) (hs : s.ok) (h : Inv s T []) : Post s T := by
  obtain ⟨h1, h2, h3, h4, h6, h5⟩ := h
  have key : ∀ l : List Int, ∀ x, s.has x → leads s x l → 0 < tv s T x ∧ tv s T x ≤ l.length + 1 := by
    intro l
    induction l with
    | nil => intro x hx hl; have e : x = s.goal := hl; subst e; rw [h1.goal]; simp
    | cons j l ih =>
      intro x hx hl
      obtain ⟨hj, hy, hl'⟩ := hl
      have := ih _ hy hl'
      have hc := h5 _ hy this.1 (by simp) j hj
      unfold closed at hc
      rw [bk_tick] at hc
      have := hc hx
      simp only [List.length_cons]; omega
  refine ⟨h1, fun _ x l hx hl _ => key l x hx hl, fun e l hl => ?_⟩
  have := key l Mo.zero (has_zero s hs) hl
  omega

/-! ### The path that is read off -/

/-- The least jerk that leads one nearer. -/
def best (s : Sp) (T : List Int) (m : Mo) (j : Int) : Prop :=
  s.jerk j ∧ s.has (m.tick j) ∧ tv s T (m.tick j) = tv s T m - 1 ∧ ∀ i, s.jerk i → i < j → ¬ (s.has (m.tick i) ∧ tv s T (m.tick i) = tv s T m - 1)

/-- The path from m by best jerks. -/
def greedy (s : Sp) (T : List Int) : Mo → List Int → Prop
  | m, [] => tv s T m = 1
  | m, j :: l => best s T m j ∧ greedy s T (m.tick j) l

/-- A motion's entry is exact, up to the start's. -/
theorem exact_entry (s : Sp) (T : List Int) (h : Post s T) (m : Mo) (hm : s.has m) (hp : 0 < tv s T m) (hle : tv s T m ≤ tv s T Mo.zero) (l : List Int) (hl : leads s m l) : tv s T m ≤ l.length + 1 := by
  by_cases hlt : (l.length : Int) + 1 < tv s T Mo.zero
  · exact (h.full (by omega) m l hm hl hlt).2
  · omega

/-- The next motion on a shortest way has the next smaller entry. -/
theorem next_entry (s : Sp) (T : List Int) (h : Post s T) (m : Mo) (hm : s.has m) (hp : 0 < tv s T m) (hle : tv s T m ≤ tv s T Mo.zero) (j : Int) (l : List Int) (hl : leads s m (j :: l)) (hn : ((j :: l).length : Int) = tv s T m - 1) :
    s.has (m.tick j) ∧ tv s T (m.tick j) = tv s T m - 1 := by
  obtain ⟨hj, hy, hl'⟩ := hl
  simp only [List.length_cons] at hn
  have h1 := h.full (by omega) (m.tick j) l hy hl' (by omega)
  obtain ⟨l2, hl2, hn2⟩ := h.tab.sound _ hy h1.1
  have h2 := exact_entry s T h m hm hp hle (j :: l2) ⟨hj, hy, hl2⟩
  simp only [List.length_cons] at h2
  exact ⟨hy, by omega⟩

theorem exists_best (s : Sp) (T : List Int) (h : Post s T) (m : Mo) (hm : s.has m) (hp : 1 < tv s T m) (hle : tv s T m ≤ tv s T Mo.zero) :
    ∃ j, s.jerk j ∧ s.has (m.tick j) ∧ tv s T (m.tick j) = tv s T m - 1 := by
  obtain ⟨l, hl, hn⟩ := h.tab.sound m hm (by omega)
  match l, hl, hn with
  | [], hl, hn => simp at hn; omega
  | j :: l, hl, hn => exact ⟨j, hl.1, next_entry s T h m hm (by omega) hle j l hl hn⟩

theorem greedy_leads (s : Sp) (T : List Int) (h : Post s T) : ∀ (l : List Int) (m : Mo), s.has m → 0 < tv s T m → greedy s T m l → leads s m l ∧ (l.length : Int) = tv s T m - 1
  | [], m, hm, hp, hg => by
    have e : tv s T m = 1 := hg
    obtain ⟨l, hl, hn⟩ := h.tab.sound m hm hp
    have : l = [] := List.eq_nil_of_length_eq_zero (by omega)
    subst this
    exact ⟨hl, by simp [e]⟩
  | j :: l, m, hm, hp, hg => by
    obtain ⟨⟨hj, hy, ht, _⟩, hg'⟩ := hg
    have hp' : 0 < tv s T (m.tick j) := by
      rcases Int.lt_or_le 0 (tv s T (m.tick j)) with h1 | h1
      · exact h1
      · exfalso
        have := h.tab.pos _ hy
        have e0 : tv s T (m.tick j) = 0 := by omega
        match l, hg' with
        | [], hg' => have : tv s T (m.tick j) = 1 := hg'; omega
        | i :: l', hg' => have := hg'.1.2.2.1; have := h.tab.pos _ hg'.1.2.1; omega
    have ih := greedy_leads s T h l _ hy hp' hg'
    exact ⟨⟨hj, hy, ih.1⟩, by simp only [List.length_cons]; omega⟩

/-- Is a lexicographically smaller than b? (Go's function Less.) -/
def less : List Int → List Int → Bool
  | x :: a, y :: b => if x ≠ y then decide (x < y) else less a b
  | _, _ => false

theorem greedy_least (s : Sp) (T : List Int) (h : Post s T) : ∀ (l : List Int) (m : Mo), s.has m → 0 < tv s T m → tv s T m ≤ tv s T Mo.zero → greedy s T m l → ∀ l', leads s m l' → l'.length = l.length → less l' l = false
  | [], m, _, _, _, _, l', _, _ => by cases l' <;> rfl
  | j :: l, m, hm, hp, hle, hg, [], _, hn => by simp at hn
  | j :: l, m, hm, hp, hle, hg, i :: l', hl', hn => by
    have hlen := (greedy_leads s T h (j :: l) m hm hp hg).2
    have hnx := next_entry s T h m hm hp hle i l' hl' (by rw [hn]; exact hlen)
    obtain ⟨⟨hj, hy, ht, hmin⟩, hg'⟩ := hg
    have hji : j ≤ i := by
      rcases Int.lt_or_le i j with h1 | h1
      · exact absurd hnx (hmin i hl'.1 h1)
      · exact h1
    by_cases e : i = j
    · subst e
      have hp' : 0 < tv s T (m.tick i) := by
        have := h.tab.pos _ hy
        obtain ⟨_, _, hl2⟩ := hl'
        have h1 := h.full (by omega) (m.tick i) l' hy hl2 (by simp at hn hlen; omega)
        exact h1.1
      have := greedy_least s T h l _ hy hp' (by omega) hg' l' hl'.2.2 (by simpa using hn)
      simp [less, this]
    · simp [less, e]; omega

/-- Of what the search leaves: the path is the least of the shortest. -/
theorem greedy_best (s : Sp) (hs : s.ok) (T : List Int) (h : Post s T) (l : List Int) (hp : 0 < tv s T Mo.zero) (hg : greedy s T Mo.zero l) :
    leads s Mo.zero l ∧ (∀ l', leads s Mo.zero l' → l.length ≤ l'.length) ∧ (∀ l', leads s Mo.zero l' → l'.length = l.length → less l' l = false) := by
  have h1 := greedy_leads s T h l _ (has_zero s hs) hp hg
  refine ⟨h1.1, fun l' hl' => ?_, greedy_least s T h l _ (has_zero s hs) hp (Int.le_refl _) hg⟩
  have := exact_entry s T h _ (has_zero s hs) hp (Int.le_refl _) l' hl'
  omega

end Go.Proofs.Ytmpafnhaigfopaa
