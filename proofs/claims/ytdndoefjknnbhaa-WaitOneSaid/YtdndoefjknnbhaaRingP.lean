/-
  The plain law on the search for a ring: who is reached, and from whom; the search goes on till the session is met again, if it leads to itself. Conditions: each edge is one.
-/
import Derived.Test.YtdndoefjknnbhaaLeads
namespace Go.Proofs.Ytdndoefjknnbhaa

def seenB (F : Nat → Nat) (i : Nat) : Bool := decide (F i ≠ 0)
def setF (F : Nat → Nat) (k a : Nat) : Nat → Nat := fun i => if i = k then a else F i
theorem seen_set (F : Nat → Nat) (k a : Nat) (ha : 1 ≤ a) : seenB (setF F k a) = setB (seenB F) k := by
  funext i
  unfold seenB setF setB
  by_cases e : i = k
  · rw [if_pos e, if_pos e]; simp; omega
  · rw [if_neg e, if_neg e]

structure RInv (l : List (Int × Int)) (s : Nat) (F : Nat → Nat) (T : List Nat) : Prop where
  ts : ∀ t ∈ T, 1 ≤ t ∧ t ≤ 16 ∧ (t = s ∨ F t ≠ 0)
  fs : F s = 0
  rank : ∃ d : Nat → Nat, (∀ k, d k ≤ cnt (seenB F)) ∧ ∀ k, F k ≠ 0 → 1 ≤ F k ∧ F k ≤ 16 ∧ d (F k) < d k ∧ (F k = s ∨ F (F k) ≠ 0)
  shut : ∀ v : Nat, (v = s ∨ F v ≠ 0) → v ∈ T ∨ ∀ k : Nat, ((v : Int), (k : Int)) ∈ l → F k ≠ 0 ∧ k ≠ s

structure RIn (l : List (Int × Int)) (s : Nat) (F : Nat → Nat) (T : List Nat) (a k : Nat) : Prop where
  inv : RInv l s F T
  head : ∃ rest, T = a :: rest
  past : ∀ j : Nat, j < k → ((a : Int), (j : Int)) ∈ l → F j ≠ 0 ∧ j ≠ s
  self : ((s : Int), (s : Int)) ∈ l → a = s ∧ k ≤ s

section
variable {l : List (Int × Int)} {s : Nat}

theorem RInv.start (hs : 1 ≤ s) (hs2 : s ≤ 16) : RInv l s (fun _ => 0) [s] :=
  ⟨fun t ht => by simp at ht; subst ht; exact ⟨hs, hs2, .inl rfl⟩, rfl, ⟨fun _ => 0, fun _ => Nat.zero_le _, fun k h => absurd rfl h⟩,
    fun v hv => by rcases hv with rfl | h; exact .inl (by simp); exact absurd rfl h⟩

theorem RInv.enter {F : Nat → Nat} {a : Nat} {rest : List Nat} (hg : Good l) (h : RInv l s F (a :: rest)) (hs : 1 ≤ s) (hself : ((s : Int), (s : Int)) ∈ l → a :: rest = [s]) : RIn l s F (a :: rest) a 1 :=
  ⟨h, ⟨rest, rfl⟩, fun j hj hm => by have := hg _ hm; simp only [goodP] at this; omega, fun hm => ⟨by have := hself hm; injection this, hs⟩⟩

theorem RIn.keep {F : Nat → Nat} {T : List Nat} {a k : Nat} (h : RIn l s F T a k) (hk : ((a : Int), (k : Int)) ∈ l → F k ≠ 0) : RIn l s F T a (k + 1) := by
  refine ⟨h.inv, h.head, fun j hj hm => ?_, fun hm => ?_⟩
  · by_cases e : j = k
    · subst e
      have h1 := hk hm
      exact ⟨h1, fun e => h1 (by rw [e]; exact h.inv.fs)⟩
    · exact h.past j (by omega) hm
  · obtain ⟨h1, h2⟩ := h.self hm
    refine ⟨h1, ?_⟩
    by_cases e : k = s
    · exfalso
      subst h1
      exact hk (by rw [e]; exact hm) (by rw [e]; exact h.inv.fs)
    · omega

theorem RIn.put {F : Nat → Nat} {T : List Nat} {a k : Nat} (h : RIn l s F T a k) (h0 : F k = 0) (hne : k ≠ s) (hk1 : 1 ≤ k) (hk2 : k ≤ 16) :
    RIn l s (setF F k a) (T ++ [k]) a (k + 1) ∧ cnt (seenB (setF F k a)) = cnt (seenB F) + 1 := by
  obtain ⟨rest, hT⟩ := h.head
  obtain ⟨ha1, ha2, ha3⟩ := h.inv.ts a (by rw [hT]; simp)
  have hc : cnt (seenB (setF F k a)) = cnt (seenB F) + 1 := by
    rw [seen_set F k a ha1]
    exact cnt_set _ _ (by omega) (by simp [seenB, h0])
  have hmono : ∀ j, F j ≠ 0 → setF F k a j ≠ 0 := by
    intro j hj
    unfold setF
    split
    · omega
    · exact hj
  have hat : setF F k a k = a := by simp [setF]
  have hother : ∀ j, j ≠ k → setF F k a j = F j := fun j hj => by unfold setF; rw [if_neg hj]
  refine ⟨⟨⟨?_, ?_, ?_, ?_⟩, ⟨rest ++ [k], by rw [hT]; simp⟩, ?_, ?_⟩, hc⟩
  · intro t ht
    rw [List.mem_append] at ht
    rcases ht with ht | ht
    · obtain ⟨h1, h2, h3⟩ := h.inv.ts t ht
      exact ⟨h1, h2, h3.imp id (hmono t)⟩
    · simp at ht
      subst ht
      exact ⟨hk1, hk2, .inr (by rw [hat]; omega)⟩
  · rw [hother s (fun e => hne e.symm)]; exact h.inv.fs
  · obtain ⟨d, hd1, hd2⟩ := h.inv.rank
    refine ⟨fun j => if j = k then d a + 1 else d j, fun j => ?_, fun j hj => ?_⟩
    · rw [hc]
      dsimp only
      split
      · have := hd1 a; omega
      · have := hd1 j; omega
    · by_cases e : j = k
      · subst e
        rw [hat]
        have hak : a ≠ j := by
          rintro rfl
          rcases ha3 with h3 | h3
          · exact hne h3
          · exact h3 h0
        refine ⟨ha1, ha2, ?_, ?_⟩
        · dsimp only; rw [if_neg hak, if_pos rfl]; omega
        · exact ha3.imp id (fun h3 => by rw [hother a hak]; exact h3)
      · rw [hother j e] at hj ⊢
        obtain ⟨h1, h2, h3, h4⟩ := hd2 j hj
        have hfk : F j ≠ k := by
          intro e2
          rcases h4 with h4 | h4
          · exact hne (e2.symm.trans h4)
          · rw [e2] at h4; exact h4 h0
        refine ⟨h1, h2, ?_, ?_⟩
        · dsimp only; rw [if_neg hfk, if_neg e]; exact h3
        · exact h4.imp id (fun h4 => by rw [hother _ hfk]; exact h4)
  · intro v hv
    by_cases e : v = k
    · subst e; exact .inl (by simp)
    · have hv' : v = s ∨ F v ≠ 0 := hv.imp id (fun h => by rwa [hother v e] at h)
      rcases h.inv.shut v hv' with h1 | h1
      · exact .inl (by simp [h1])
      · exact .inr fun j hj => ⟨hmono j (h1 j hj).1, (h1 j hj).2⟩
  · intro j hj hm
    by_cases e : j = k
    · subst e; exact ⟨by rw [hat]; omega, hne⟩
    · obtain ⟨h1, h2⟩ := h.past j (by omega) hm
      exact ⟨hmono j h1, h2⟩
  · intro hm
    obtain ⟨h1, h2⟩ := h.self hm
    exact ⟨h1, by omega⟩

theorem RIn.pop {F : Nat → Nat} {T : List Nat} {a : Nat} (hg : Good l) (h : RIn l s F T a 17) (hs : s ≤ 16) : RInv l s F T.tail ∧ ¬ ((s : Int), (s : Int)) ∈ l := by
  obtain ⟨rest, hT⟩ := h.head
  subst hT
  refine ⟨⟨fun t ht => h.inv.ts t (List.mem_cons_of_mem _ ht), h.inv.fs, h.inv.rank, fun v hv => ?_⟩, fun hm => ?_⟩
  · rcases h.inv.shut v hv with h1 | h1
    · rcases List.mem_cons.1 h1 with h2 | h2
      · subst h2
        refine .inr fun j hj => h.past j ?_ hj
        have := hg _ hj
        simp only [goodP] at this
        omega
      · exact .inl h2
    · exact .inr h1
  · have := (h.self hm).2
    omega

theorem RInv.done {F : Nat → Nat} (hg : Good l) (h : RInv l s F []) : ¬ Leads l s s := by
  intro hl
  have key : ∀ t : Int, Leads l s t → F t.toNat ≠ 0 ∧ t.toNat ≠ s := by
    intro t ht
    induction ht with
    | one e =>
      have hb := hg _ e
      simp only [goodP] at hb
      rename_i b
      have eb : ((b.toNat : Nat) : Int) = b := by omega
      rcases h.shut s (.inl rfl) with h1 | h1
      · simp at h1
      · exact h1 _ (by rw [eb]; exact e)
    | more _ e ih =>
      rename_i b c _
      have hb := hg _ e
      simp only [goodP] at hb
      have eb : ((b.toNat : Nat) : Int) = b := by omega
      have ec : ((c.toNat : Nat) : Int) = c := by omega
      rcases h.shut b.toNat (.inr ih.1) with h1 | h1
      · simp at h1
      · exact h1 _ (by rw [eb, ec]; exact e)
  exact (key _ hl).2 (by simp)

end
end Go.Proofs.Ytdndoefjknnbhaa
