/-
  The plain law on closing rows: the bits of the closed rows are 'leads over one edge at least', so the sessions found are those that lead to themselves. Conditions: each edge is one.
-/
import Derived.Test.YtdndoefjknnbhaaVictim
namespace Go.Proofs.Ytdndoefjknnbhaa

inductive Leads (l : List (Int × Int)) : Int → Int → Prop
  | one {a b : Int} : (a, b) ∈ l → Leads l a b
  | more {a b c : Int} : Leads l a b → (b, c) ∈ l → Leads l a c

theorem Leads.trans {l : List (Int × Int)} {a b c : Int} (h : Leads l a b) (k : Leads l b c) : Leads l a c := by
  induction k with
  | one e => exact .more h e
  | more _ e ih => exact .more ih e
theorem Leads.mono {l m : List (Int × Int)} (hs : ∀ p ∈ l, p ∈ m) {a b : Int} (h : Leads l a b) : Leads m a b := by
  induction h with
  | one e => exact .one (hs _ e)
  | more _ e ih => exact .more ih (hs _ e)
theorem Leads.good {l : List (Int × Int)} (hg : ∀ p ∈ l, goodP p) {a b : Int} (h : Leads l a b) : 1 ≤ a ∧ a ≤ 16 ∧ 1 ≤ b ∧ b ≤ 16 := by
  induction h with
  | one e => exact hg _ e
  | more _ e ih => have := hg _ e; simp only [goodP] at this; omega

def Good (l : List (Int × Int)) : Prop := ∀ p ∈ l, goodP p
theorem good_of_any {l : List (Int × Int)} (h : l.any edgeOut = false) : Good l := by
  intro p hp
  have h1 : edgeOut p = false := by
    cases e : edgeOut p
    · rfl
    · rw [List.any_eq_true.2 ⟨p, hp, e⟩] at h; cases h
  simp only [edgeOut, outB, Bool.or_eq_false_iff, decide_eq_false_iff_not] at h1
  simp only [goodP]; omega

theorem wcl_step (f : Nat → Nat) (n i j : Nat) (h1 : 1 ≤ i) (h2 : i < 17) :
    ((wcl f (n + 1) i).testBit j = true ↔ (wcl f n i).testBit j = true ∨ ((wcl f n i).testBit (n + 1) = true ∧ (wcl f n (n + 1)).testBit j = true)) := by
  show ((wstep (wcl f n) (n + 1) 17 i).testBit j = true ↔ _)
  unfold wstep
  by_cases h : (wcl f n i).testBit (n + 1) = true
  · rw [if_pos ⟨h1, h2, h⟩, Nat.testBit_or, Bool.or_eq_true]
    simp [h]
  · rw [if_neg (fun hc => h hc.2.2)]
    simp [h]

theorem wcl_sound (l : List (Int × Int)) (hg : Good l) : ∀ (n i j : Nat), (wcl (rowOf l) n i).testBit j = true → Leads l i j := by
  intro n
  induction n with
  | zero => intro i j h; exact .one ((rowOf_bit l hg i j).1 h)
  | succ n ih =>
    intro i j h
    have h' : (wstep (wcl (rowOf l) n) (n + 1) 17 i).testBit j = true := h
    unfold wstep at h'
    split at h'
    · rename_i hc
      rw [Nat.testBit_or, Bool.or_eq_true] at h'
      rcases h' with h' | h'
      · exact ih i j h'
      · exact (ih i _ hc.2.2).trans (ih _ j h')
    · exact ih i j h'

theorem wcl_mono (f : Nat → Nat) (n i j : Nat) (h1 : 1 ≤ i) (h2 : i < 17) (h : (f i).testBit j = true) : (wcl f n i).testBit j = true := by
  induction n with
  | zero => exact h
  | succ n ih => exact (wcl_step f n i j h1 h2).2 (.inl ih)

theorem wcl_trans (f : Nat → Nat) (n : Nat) : n ≤ 16 → ∀ m, 1 ≤ m → m ≤ n → m < 17 → ∀ i j, 1 ≤ i → i < 17 → (wcl f n i).testBit m = true → (wcl f n m).testBit j = true → (wcl f n i).testBit j = true := by
  induction n with
  | zero => intro _ m h1 h2; omega
  | succ n ih0 =>
    intro hn16
    have ih := ih0 (by omega)
    intro m hm1 hm2 hm3 i j hi1 hi2 h1 h2
    rw [wcl_step f n i m hi1 hi2] at h1
    rw [wcl_step f n m j hm1 hm3] at h2
    rw [wcl_step f n i j hi1 hi2]
    by_cases e : m = n + 1
    · subst e
      have g1 : (wcl f n i).testBit (n + 1) = true := by rcases h1 with h | h; exact h; exact h.1
      have g2 : (wcl f n (n + 1)).testBit j = true := by rcases h2 with h | h; exact h; exact h.2
      exact .inr ⟨g1, g2⟩
    · have hmn : m ≤ n := by omega
      rcases h1 with h1 | ⟨h1, h1'⟩ <;> rcases h2 with h2 | ⟨h2, h2'⟩
      · exact .inl (ih m hm1 hmn hm3 i j hi1 hi2 h1 h2)
      · exact .inr ⟨ih m hm1 hmn hm3 i (n + 1) hi1 hi2 h1 h2, h2'⟩
      · exact .inr ⟨h1, ih m hm1 hmn hm3 (n + 1) j (by omega) (by omega) h1' h2⟩
      · exact .inr ⟨h1, h2'⟩

theorem wcl_all (l : List (Int × Int)) (hg : Good l) {a b : Int} (h : Leads l a b) : ∀ (i j : Nat), a = i → b = j → (wcl (rowOf l) 16 i).testBit j = true := by
  induction h with
  | one e =>
    intro i j hi hj
    subst hi; subst hj
    have := hg _ e
    simp only [goodP] at this
    exact wcl_mono _ _ _ _ (by omega) (by omega) ((rowOf_bit l hg i j).2 e)
  | more h e ih =>
    rename_i b c
    intro i j hi hj
    have h1 := h.good hg
    have h2 := hg _ e
    simp only [goodP] at h2
    obtain ⟨m, rfl⟩ : ∃ m : Nat, b = m := ⟨b.toNat, by omega⟩
    have g1 := ih i m hi rfl
    subst hj
    have g2 := wcl_mono (rowOf l) 16 m j (by omega) (by omega) ((rowOf_bit l hg m j).2 e)
    exact wcl_trans _ 16 (by omega) m (by omega) (by omega) (by omega) i j (by omega) (by omega) g1 g2

open Classical in
/-- The sessions that lead to themselves, rising. -/
noncomputable def caughtL (l : List (Int × Int)) : List Int := (List.filter (fun s : Nat => decide (0 < s ∧ Leads l s s)) (List.range 17)).map fun s : Nat => (s : Int)

theorem selfs_caught (l : List (Int × Int)) (hg : Good l) : selfs (wcl (rowOf l) 16) 17 = caughtL l := by
  unfold selfs caughtL
  congr 1
  apply List.filter_congr
  intro s _
  rw [Bool.eq_iff_iff]
  simp only [Bool.and_eq_true, decide_eq_true_eq]
  constructor
  · rintro ⟨h1, h2⟩; exact ⟨h1, wcl_sound l hg _ _ _ h2⟩
  · rintro ⟨h1, h2⟩; exact ⟨h1, wcl_all l hg h2 s s rfl rfl⟩

theorem mem_caughtL (l : List (Int × Int)) (hg : Good l) (x : Int) : x ∈ caughtL l ↔ Leads l x x := by
  unfold caughtL
  simp only [List.mem_map, List.mem_filter, List.mem_range, decide_eq_true_eq]
  constructor
  · rintro ⟨a, ⟨_, _, h3⟩, rfl⟩; exact h3
  · intro h
    have := h.good hg
    refine ⟨x.toNat, ⟨by omega, by omega, ?_⟩, by omega⟩
    have e : ((x.toNat : Nat) : Int) = x := by omega
    rw [e]; exact h

end Go.Proofs.Ytdndoefjknnbhaa
