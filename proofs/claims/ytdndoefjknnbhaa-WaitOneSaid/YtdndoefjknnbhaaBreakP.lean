/-
  The plain law on Break: victims, one after another, each of the edges without those of the former; which list that is, is told by the edges. Conditions: each edge is one.
-/
import Derived.Test.YtdndoefjknnbhaaPlain
namespace Go.Proofs.Ytdndoefjknnbhaa

def without (l : List (Int × Int)) (v : Int) : List (Int × Int) := l.filter fun p => decide (p.1 ≠ v) && decide (p.2 ≠ v)

inductive Breaks (born : List Int) : List (Int × Int) → List Int → Prop
  | done {l : List (Int × Int)} : vicL born (caughtL l) = 0 → Breaks born l []
  | next {l : List (Int × Int)} {r : List Int} : vicL born (caughtL l) ≠ 0 → Breaks born (without l (vicL born (caughtL l))) r → Breaks born l (vicL born (caughtL l) :: r)

theorem Breaks.same {born : List Int} {l : List (Int × Int)} {r s : List Int} (h : Breaks born l r) (k : Breaks born l s) : r = s := by
  induction h generalizing s with
  | done h0 =>
    cases k with
    | done => rfl
    | next h1 => exact absurd h0 h1
  | next h0 _ ih =>
    cases k with
    | done h1 => exact absurd h1 h0
    | next _ h2 => rw [ih h2]

theorem mem_without (l : List (Int × Int)) (v : Int) (p : Int × Int) : p ∈ without l v ↔ p ∈ l ∧ p.1 ≠ v ∧ p.2 ≠ v := by
  simp [without]
theorem good_without {l : List (Int × Int)} (hg : Good l) (v : Int) : Good (without l v) := fun p hp => hg p ((mem_without l v p).1 hp).1
theorem without_len (l : List (Int × Int)) (v : Int) : (without l v).length ≤ l.length := List.length_filter_le _ _

theorem vicL_go (born : List Int) (l : List Int) : ∀ b : Int, l.foldl (vicStep born) b = b ∨ l.foldl (vicStep born) b ∈ l := by
  induction l with
  | nil => intro b; exact .inl rfl
  | cons x l ih =>
    intro b
    simp only [List.foldl_cons]
    rcases ih (vicStep born b x) with h | h
    · rw [h]
      unfold vicStep
      split
      · exact .inr (List.mem_cons_self ..)
      · exact .inl rfl
    · exact .inr (List.mem_cons_of_mem _ h)
/-- The youngest of some is one of them. -/
theorem vicL_mem {born l : List Int} (h : vicL born l ≠ 0) : vicL born l ∈ l := by
  rcases vicL_go born l 0 with h1 | h1
  · exact absurd h1 h
  · exact h1
theorem vicL_leads {born : List Int} {l : List (Int × Int)} (hg : Good l) (h : vicL born (caughtL l) ≠ 0) : Leads l (vicL born (caughtL l)) (vicL born (caughtL l)) :=
  (mem_caughtL l hg _).1 (vicL_mem h)
theorem Leads.first {l : List (Int × Int)} {a b : Int} (h : Leads l a b) : ∃ c, (a, c) ∈ l := by
  induction h with
  | one e => exact ⟨_, e⟩
  | more _ _ ih => exact ih
theorem without_lt {l : List (Int × Int)} {v : Int} (h : ∃ c, (v, c) ∈ l) : (without l v).length < l.length := by
  obtain ⟨c, hc⟩ := h
  rcases Nat.lt_or_ge (without l v).length l.length with h1 | h1
  · exact h1
  · have := (List.filter_sublist (l := l) (p := fun p : Int × Int => decide (p.1 ≠ v) && decide (p.2 ≠ v))).eq_of_length_le h1
    rw [← this] at hc
    have := (List.mem_filter.1 hc).2
    simp at this

theorem Breaks.some_ {born : List Int} : ∀ (n : Nat) (l : List (Int × Int)), Good l → l.length ≤ n → ∃ r, Breaks born l r := by
  intro n
  induction n with
  | zero =>
    intro l hg hl
    by_cases h : vicL born (caughtL l) = 0
    · exact ⟨_, .done h⟩
    · have := without_lt (vicL_leads hg h).first
      omega
  | succ n ih =>
    intro l hg hl
    by_cases h : vicL born (caughtL l) = 0
    · exact ⟨_, .done h⟩
    · have := without_lt (vicL_leads hg h).first
      obtain ⟨r, hr⟩ := ih (without l (vicL born (caughtL l))) (good_without hg _) (by omega)
      exact ⟨_, .next h hr⟩

/-- The rows of the edges that are left. -/
theorem rowOf_without (l : List (Int × Int)) (hg : Good l) (v j : Nat) (hv : v ≤ 16) : rowOf (without l v) j = if j = v then 0 else rowOf l j &&& (4294967295 - 2 ^ v) := by
  have hw := good_without hg (v : Int)
  apply Nat.eq_of_testBit_eq
  intro i
  rw [Bool.eq_iff_iff, rowOf_bit _ hw, mem_without]
  by_cases e : j = v
  · subst e; simp
  · rw [if_neg e, Nat.testBit_and, Bool.and_eq_true, rowOf_bit _ hg]
    have h2 : 2 ^ v < 2 ^ 32 := Nat.pow_lt_pow_of_lt (by decide) (by omega)
    have h3 : 4294967295 - 2 ^ v = 2 ^ 32 - (2 ^ v + 1) := by omega
    rw [h3, Nat.testBit_two_pow_sub_succ h2, Nat.testBit_two_pow]
    simp only [Bool.and_eq_true, decide_eq_true_eq, Bool.not_eq_true', decide_eq_false_iff_not]
    constructor
    · rintro ⟨h1, _, h5⟩
      have := hg _ h1
      simp only [goodP] at this
      exact ⟨h1, by omega, by omega⟩
    · rintro ⟨h1, _, h5⟩
      exact ⟨h1, by omega, by omega⟩

end Go.Proofs.Ytdndoefjknnbhaa
