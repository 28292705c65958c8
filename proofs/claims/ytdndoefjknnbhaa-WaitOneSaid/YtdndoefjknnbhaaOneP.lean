/-
  The plain law on a row of sessions and the ring that closes it: of the row nobody leads to itself, of the ring all do, and without the youngest of them nobody does. Conditions: the sessions are distinct and from 1 to 16.
-/
import Derived.Test.YtdndoefjknnbhaaBreakP
namespace Go.Proofs.Ytdndoefjknnbhaa

def gAt (l : List Int) (i : Nat) : Int := l.getD i 0
/-- Each of the first i waits for the next one. -/
def rowTo (l : List Int) (i : Nat) : List (Int × Int) := (List.range i).map fun j => (gAt l j, gAt l (j + 1))
def rowP (l : List Int) : List (Int × Int) := rowTo l (l.length - 1)
def ringP (l : List Int) : List (Int × Int) := rowP l ++ [(gAt l (l.length - 1), gAt l 0)]
/-- Distinct, and each one a session. -/
def Sess (l : List Int) : Prop := l.Nodup ∧ ∀ x ∈ l, 1 ≤ x ∧ x ≤ 16

theorem rowTo_succ (l : List Int) (i : Nat) : rowTo l (i + 1) = rowTo l i ++ [(gAt l i, gAt l (i + 1))] := by
  simp [rowTo, List.range_succ]
theorem rowTo_len (l : List Int) (i : Nat) : (rowTo l i).length = i := by simp [rowTo]
theorem gAt_mem {l : List Int} {i : Nat} (h : i < l.length) : gAt l i ∈ l := by
  unfold gAt
  rw [List.getD_eq_getElem?_getD, List.getElem?_eq_getElem h]
  exact List.getElem_mem h
theorem gAt_get {l : List Int} {i : Nat} (h : i < l.length) : l[i]? = some (gAt l i) := by
  unfold gAt
  rw [List.getD_eq_getElem?_getD, List.getElem?_eq_getElem h]; rfl
theorem gAt_inj {l : List Int} (hn : l.Nodup) {i j : Nat} (hi : i < l.length) (hj : j < l.length) (h : gAt l i = gAt l j) : i = j := by
  have e : ∀ k (hk : k < l.length), gAt l k = l[k] := by
    intro k hk
    unfold gAt
    rw [List.getD_eq_getElem?_getD, List.getElem?_eq_getElem hk]; rfl
  rw [e i hi, e j hj] at h
  exact (List.getElem_inj hn).1 h
theorem mem_gAt {l : List Int} {x : Int} (h : x ∈ l) : ∃ i, i < l.length ∧ x = gAt l i := by
  obtain ⟨i, hi, e⟩ := List.getElem_of_mem h
  refine ⟨i, hi, ?_⟩
  unfold gAt
  rw [List.getD_eq_getElem?_getD, List.getElem?_eq_getElem hi, ← e]; rfl

theorem mem_rowP {l : List Int} {p : Int × Int} : p ∈ rowP l ↔ ∃ i, i + 1 < l.length ∧ p = (gAt l i, gAt l (i + 1)) := by
  unfold rowP rowTo
  simp only [List.mem_map, List.mem_range]
  constructor
  · rintro ⟨i, hi, rfl⟩; exact ⟨i, by omega, rfl⟩
  · rintro ⟨i, hi, rfl⟩; exact ⟨i, by omega, rfl⟩
theorem mem_ringP {l : List Int} {p : Int × Int} : p ∈ ringP l ↔ (∃ i, i + 1 < l.length ∧ p = (gAt l i, gAt l (i + 1))) ∨ p = (gAt l (l.length - 1), gAt l 0) := by
  unfold ringP
  rw [List.mem_append, mem_rowP]
  simp

section
variable {l : List Int}
theorem row_good (hs : Sess l) : Good (rowP l) := by
  intro p hp
  obtain ⟨i, hi, rfl⟩ := mem_rowP.1 hp
  have h1 := hs.2 _ (gAt_mem (l := l) (i := i) (by omega))
  have h2 := hs.2 _ (gAt_mem (l := l) (i := i + 1) (by omega))
  simp only [goodP]; omega
theorem ring_good (hs : Sess l) (h0 : 0 < l.length) : Good (ringP l) := by
  intro p hp
  rcases mem_ringP.1 hp with ⟨i, hi, rfl⟩ | rfl
  · have h1 := hs.2 _ (gAt_mem (l := l) (i := i) (by omega))
    have h2 := hs.2 _ (gAt_mem (l := l) (i := i + 1) (by omega))
    simp only [goodP]; omega
  · have h1 := hs.2 _ (gAt_mem (l := l) (i := l.length - 1) (by omega))
    have h2 := hs.2 _ (gAt_mem (l := l) (i := 0) (by omega))
    simp only [goodP]; omega

theorem row_leads (hs : Sess l) {a b : Int} (h : Leads (rowP l) a b) : ∃ i j, i < j ∧ j < l.length ∧ a = gAt l i ∧ b = gAt l j := by
  induction h with
  | one e =>
    obtain ⟨i, hi, e⟩ := mem_rowP.1 e
    injection e with e1 e2
    exact ⟨i, i + 1, by omega, hi, e1, e2⟩
  | more _ e ih =>
    obtain ⟨i, j, hij, hj, e1, e2⟩ := ih
    obtain ⟨k, hk, e⟩ := mem_rowP.1 e
    injection e with e3 e4
    have hjk : j = k := gAt_inj hs.1 hj (by omega) (e2.symm.trans e3)
    subst hjk
    exact ⟨i, j + 1, by omega, hk, e1, e4⟩
theorem row_none (hs : Sess l) : caughtL (rowP l) = [] := by
  cases hc : caughtL (rowP l) with
  | nil => rfl
  | cons x m =>
    exfalso
    have hx := (mem_caughtL _ (row_good hs) x).1 (by rw [hc]; exact List.mem_cons_self ..)
    obtain ⟨i, j, hij, hj, e1, e2⟩ := row_leads hs hx
    have := gAt_inj hs.1 (by omega) hj (e1.symm.trans e2)
    omega

theorem ring_up (i : Nat) : ∀ d, i + d < l.length → 0 < d → Leads (ringP l) (gAt l i) (gAt l (i + d)) := by
  intro d
  induction d with
  | zero => intro _ h; omega
  | succ d ih =>
    intro h _
    have he : (gAt l (i + d), gAt l (i + (d + 1))) ∈ ringP l := mem_ringP.2 (.inl ⟨i + d, by omega, rfl⟩)
    by_cases h0 : d = 0
    · subst h0; exact .one he
    · exact .more (ih (by omega) (by omega)) he
theorem ring_self {i : Nat} (hi : i < l.length) : Leads (ringP l) (gAt l i) (gAt l i) := by
  have hb : (gAt l (l.length - 1), gAt l 0) ∈ ringP l := mem_ringP.2 (.inr rfl)
  have h1 : Leads (ringP l) (gAt l i) (gAt l 0) := by
    by_cases e : i = l.length - 1
    · rw [e]; exact .one hb
    · have := ring_up (l := l) i (l.length - 1 - i) (by omega) (by omega)
      rw [show i + (l.length - 1 - i) = l.length - 1 from by omega] at this
      exact .more this hb
  by_cases h0 : i = 0
  · subst h0; exact h1
  · have := ring_up (l := l) 0 i (by omega) (by omega)
    rw [Nat.zero_add] at this
    exact h1.trans this
theorem ring_from (h0 : 0 < l.length) {a b : Int} (h : Leads (ringP l) a b) : a ∈ l := by
  induction h with
  | one e =>
    rcases mem_ringP.1 e with ⟨i, hi, e⟩ | e
    · injection e with e1 _
      rw [e1]; exact gAt_mem (by omega)
    · injection e with e1 _
      rw [e1]; exact gAt_mem (by omega)
  | more _ _ ih => exact ih
theorem ring_mem (hs : Sess l) (h0 : 0 < l.length) (x : Int) : x ∈ caughtL (ringP l) ↔ x ∈ l := by
  rw [mem_caughtL _ (ring_good hs h0)]
  constructor
  · exact ring_from h0
  · intro h
    obtain ⟨i, hi, rfl⟩ := mem_gAt h
    exact ring_self hi

open Classical in
theorem caught_up (m : List (Int × Int)) : (caughtL m).Pairwise (· < ·) := by
  unfold caughtL
  refine List.Pairwise.map (R := fun a b : Nat => a < b) _ (fun a b h => by omega) ?_
  exact List.Pairwise.filter _ List.pairwise_lt_range
theorem ring_len (hs : Sess l) (h0 : 0 < l.length) : (caughtL (ringP l)).length = l.length := by
  have h1 : (caughtL (ringP l)).Nodup := List.nodup_iff_pairwise_ne.2 ((caught_up _).imp fun h => by omega)
  exact ((List.perm_ext_iff_of_nodup h1 hs.1).2 fun x => ring_mem hs h0 x).length_eq

/-- The order of youth: the greater number, and of several the greater session. -/
def Older (born : List Int) (x y : Int) : Prop := ageL born x < ageL born y ∨ (ageL born x = ageL born y ∧ x ≤ y)
theorem Older.same {born : List Int} {x y : Int} (h : Older born x y) (k : Older born y x) : x = y := by
  unfold Older at h k; omega

theorem vic_last (born : List Int) (m : List Int) : ∀ b : Int, m.Pairwise (· < ·) → (∀ x ∈ m, 0 < x ∧ b < x) → 0 ≤ b → (b ≠ 0 → Older born b (m.foldl (vicStep born) b)) ∧ ∀ x ∈ m, Older born x (m.foldl (vicStep born) b) := by
  induction m with
  | nil => intro b _ _ _; exact ⟨fun _ => .inr ⟨rfl, Int.le_refl _⟩, fun x hx => by simp at hx⟩
  | cons y m ih =>
    intro b hp hx hb0
    obtain ⟨hp1, hp2⟩ := List.pairwise_cons.1 hp
    have hy := hx y (List.mem_cons_self ..)
    have hs : vicStep born b y ≤ y ∧ 0 < vicStep born b y ∧ (b ≠ 0 → Older born b (vicStep born b y)) ∧ Older born y (vicStep born b y) := by
      unfold vicStep Older
      by_cases h : b = 0 ∨ ageL born b ≤ ageL born y
      · rw [if_pos h]
        exact ⟨Int.le_refl _, hy.1, fun hb => by omega, .inr ⟨rfl, Int.le_refl _⟩⟩
      · rw [if_neg h]
        exact ⟨by omega, by omega, fun _ => .inr ⟨rfl, Int.le_refl _⟩, .inl (by omega)⟩
    obtain ⟨s1, s2, s3, s4⟩ := hs
    obtain ⟨h1, h2⟩ := ih (vicStep born b y) hp2 (fun x hxm => ⟨(hx x (List.mem_cons_of_mem _ hxm)).1, by have := hp1 x hxm; omega⟩) (by omega)
    have h3 := h1 (by omega)
    simp only [List.foldl_cons]
    have tr : ∀ {p q r : Int}, Older born p q → Older born q r → Older born p r := by
      intro p q r a b
      unfold Older at *
      omega
    refine ⟨fun hb => tr (s3 hb) h3, fun x hxm => ?_⟩
    rcases List.mem_cons.1 hxm with rfl | hxm
    · exact tr s4 h3
    · exact h2 x hxm

/-- Who is the youngest of all is the victim of the ring. -/
theorem ring_victim (born : List Int) (hs : Sess l) (h0 : 0 < l.length) {best : Int} (hb : best ∈ l) (hmax : ∀ x ∈ l, Older born x best) : vicL born (caughtL (ringP l)) = best := by
  have hpos : ∀ x ∈ caughtL (ringP l), 0 < x ∧ (0 : Int) < x := fun x hx => by
    have := hs.2 x ((ring_mem hs h0 x).1 hx)
    omega
  have h2 := (vic_last born (caughtL (ringP l)) 0 (caught_up _) hpos (Int.le_refl _)).2
  have hbm := (ring_mem hs h0 best).2 hb
  have hV := h2 best hbm
  have hne : vicL born (caughtL (ringP l)) ≠ 0 := by
    have hnz : ∀ x ∈ caughtL (ringP l), x ≠ 0 := fun x hx => by have := hpos x hx; omega
    intro hz
    cases hc : caughtL (ringP l) with
    | nil => rw [hc] at hbm; simp at hbm
    | cons y m =>
      rw [hc] at hz hnz
      have key : ∀ (m : List Int) (b : Int), b ≠ 0 → (∀ x ∈ m, x ≠ 0) → m.foldl (vicStep born) b ≠ 0 := by
        intro m
        induction m with
        | nil => intro b hb _; exact hb
        | cons z m ih =>
          intro b hb hz
          simp only [List.foldl_cons]
          refine ih _ ?_ (fun x hx => hz x (List.mem_cons_of_mem _ hx))
          unfold vicStep
          split
          · exact hz z (List.mem_cons_self ..)
          · exact hb
      refine key m (vicStep born 0 y) ?_ (fun x hx => hnz x (List.mem_cons_of_mem _ hx)) hz
      unfold vicStep
      rw [if_pos (.inl rfl)]
      exact hnz y (List.mem_cons_self ..)
  exact (hmax _ ((ring_mem hs h0 _).1 (vicL_mem hne))).same hV

/-- How far behind the one at p one stands in the ring. -/
def rk (n p i : Nat) : Nat := if p < i then i - p - 1 else i + n - p - 1
theorem ring_cut (hs : Sess l) {p : Nat} (hp : p < l.length) {a b : Int} (h : Leads (without (ringP l) (gAt l p)) a b) :
    ∃ i j, i < l.length ∧ j < l.length ∧ a = gAt l i ∧ b = gAt l j ∧ rk l.length p i < rk l.length p j := by
  have edge : ∀ a b : Int, (a, b) ∈ without (ringP l) (gAt l p) → ∃ i j, i < l.length ∧ j < l.length ∧ a = gAt l i ∧ b = gAt l j ∧ rk l.length p i < rk l.length p j := by
    intro a b hm
    obtain ⟨hm, h1, h2⟩ := (mem_without _ _ _).1 hm
    simp only at h1 h2
    rcases mem_ringP.1 hm with ⟨i, hi, e⟩ | e
    · injection e with e1 e2
      have hip : i ≠ p := fun e => h1 (by rw [e1, e])
      have hip2 : i + 1 ≠ p := fun e => h2 (by rw [e2, e])
      refine ⟨i, i + 1, by omega, hi, e1, e2, ?_⟩
      unfold rk
      split <;> split <;> omega
    · injection e with e1 e2
      have hip : l.length - 1 ≠ p := fun e => h1 (by rw [e1, e])
      have hip2 : 0 ≠ p := fun e => h2 (by rw [e2, e])
      refine ⟨l.length - 1, 0, by omega, by omega, e1, e2, ?_⟩
      unfold rk
      split <;> split <;> omega
  induction h with
  | one e => exact edge _ _ e
  | more _ e ih =>
    obtain ⟨i, j, hi, hj, e1, e2, h3⟩ := ih
    obtain ⟨i', j', hi', hj', e3, e4, h5⟩ := edge _ _ e
    have := gAt_inj hs.1 hj hi' (e2.symm.trans e3)
    subst this
    exact ⟨i, j', hi, hj', e1, e4, by omega⟩

/-- One victim is enough. -/
theorem ring_breaks (born : List Int) (hs : Sess l) (h0 : 0 < l.length) {best : Int} (hb : best ∈ l) (hmax : ∀ x ∈ l, Older born x best) : Breaks born (ringP l) [best] := by
  have hv := ring_victim born hs h0 hb hmax
  have hpos := hs.2 best hb
  have hnone : caughtL (without (ringP l) best) = [] := by
    cases hc : caughtL (without (ringP l) best) with
    | nil => rfl
    | cons x m =>
      exfalso
      have hx := (mem_caughtL _ (good_without (ring_good hs h0) best) x).1 (by rw [hc]; exact List.mem_cons_self ..)
      obtain ⟨p, hp, rfl⟩ := mem_gAt hb
      obtain ⟨i, j, hi, hj, e1, e2, h3⟩ := ring_cut hs hp hx
      have := gAt_inj hs.1 hi hj (e1.symm.trans e2)
      subst this
      omega
  have hd : Breaks born (without (ringP l) best) [] := .done (by rw [hnone]; rfl)
  have := Breaks.next (born := born) (l := ringP l) (r := []) (by rw [hv]; omega) (by rw [hv]; exact hd)
  rw [hv] at this
  exact this

/-- The best one, as the loop finds it. -/
def bestStep (born : List Int) (b s : Int) : Int := if ageL born b < ageL born s ∨ (ageL born s = ageL born b ∧ b < s) then s else b
def bestTo (born l : List Int) (k : Nat) : Int := (l.take k).foldl (bestStep born) (gAt l 0)
theorem bestTo_succ (born l : List Int) (k : Nat) (s : Int) (hs : l[k]? = some s) : bestTo born l (k + 1) = bestStep born (bestTo born l k) s := by
  obtain ⟨hk, hpe⟩ := List.getElem?_eq_some_iff.1 hs
  unfold bestTo
  rw [List.take_succ_eq_append_getElem hk, List.foldl_append, hpe]
  rfl
theorem best_go (born : List Int) (m : List Int) : ∀ b : Int, Older born b (m.foldl (bestStep born) b) ∧ (∀ x ∈ m, Older born x (m.foldl (bestStep born) b)) ∧ (m.foldl (bestStep born) b = b ∨ m.foldl (bestStep born) b ∈ m) := by
  induction m with
  | nil => intro b; exact ⟨.inr ⟨rfl, Int.le_refl _⟩, fun x hx => by simp at hx, .inl rfl⟩
  | cons y m ih =>
    intro b
    simp only [List.foldl_cons]
    obtain ⟨h1, h2, h3⟩ := ih (bestStep born b y)
    have tr : ∀ {p q r : Int}, Older born p q → Older born q r → Older born p r := by
      intro p q r a b
      unfold Older at *
      omega
    have hs : Older born b (bestStep born b y) ∧ Older born y (bestStep born b y) ∧ (bestStep born b y = b ∨ bestStep born b y = y) := by
      unfold bestStep Older
      by_cases h : ageL born b < ageL born y ∨ (ageL born y = ageL born b ∧ b < y)
      · rw [if_pos h]; omega
      · rw [if_neg h]; omega
    refine ⟨tr hs.1 h1, fun x hx => ?_, ?_⟩
    · rcases List.mem_cons.1 hx with rfl | hx
      · exact tr hs.2.1 h1
      · exact h2 x hx
    · rcases h3 with h3 | h3
      · rw [h3]
        rcases hs.2.2 with h4 | h4
        · exact .inl h4
        · rw [h4]; exact .inr (List.mem_cons_self ..)
      · exact .inr (List.mem_cons_of_mem _ h3)
theorem bestTo_mem (born : List Int) (h0 : 0 < l.length) (k : Nat) : bestTo born l k ∈ l := by
  rcases (best_go born (l.take k) (gAt l 0)).2.2 with h | h
  · unfold bestTo; rw [h]; exact gAt_mem h0
  · exact List.mem_of_mem_take h
theorem bestTo_max (born : List Int) : ∀ x ∈ l, Older born x (bestTo born l l.length) := by
  intro x hx
  have := (best_go born l (gAt l 0)).2.1 x hx
  unfold bestTo
  rw [List.take_of_length_le (Nat.le_refl _)]
  exact this
end

end Go.Proofs.Ytdndoefjknnbhaa
