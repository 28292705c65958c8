/-
  Words of this seat for blocks of seventeen cells (arrays by value), and the bits of a row. Conditions: none.
-/
import Derived.Test.YtdndoefjknnbhaaBase
namespace Go.Proofs.Ytdndoefjknnbhaa
open Go.RowKit

def arr (F : Nat → Value) : Array Value := ((List.range 17).map F).toArray
theorem size_arr (F : Nat → Value) : (arr F).size = 17 := by simp [arr]
theorem arr_at (F : Nat → Value) (i : Nat) (h : i < 17) : (arr F)[i]? = some (F i) := by simp [arr, h]
theorem arr_congr {F G : Nat → Value} (h : ∀ i, i < 17 → F i = G i) : arr F = arr G := by
  unfold arr
  congr 1
  exact List.map_congr_left fun i hi => h i (by simpa using hi)
theorem arr_one (F : Nat → Value) (h : ∀ i, (F i).oneCell' = true) : (arr F).all (·.oneCell') = true := by
  rw [Array.all_eq_true_iff_forall_mem]
  intro x hx
  simp only [arr, List.mem_toArray, List.mem_map] at hx
  obtain ⟨i, _, rfl⟩ := hx
  exact h i
theorem rowIs_heap {w : World} {g : Nat} {t : TypeId} {F : Nat → Value} (h : w.rowIs g t 17 F) : w.heap[g]? = some (.cells (arr F) t (0, 0)) := by
  obtain ⟨c, hb, hn, hc⟩ := h
  have e : c = arr F := by
    apply Array.ext_getElem?
    intro i
    by_cases hi : i < 17
    · rw [hc i hi, arr_at F i hi]
    · rw [Array.getElem?_eq_none (by omega), Array.getElem?_eq_none (by rw [size_arr]; omega)]
  rw [hb, e]
theorem rowIs_of_heap {w : World} {g : Nat} {t : TypeId} {F : Nat → Value} (h : w.heap[g]? = some (.cells (arr F) t (0, 0))) : w.rowIs g t 17 F :=
  ⟨_, h, size_arr F, fun i hi => arr_at F i hi⟩
theorem rowIs_setRow {w : World} {g : Nat} {t : TypeId} {F G : Nat → Value} (h : w.rowIs g t 17 F) : (w.setRow g (arr G)).rowIs g t 17 G := by
  have := setRow_heap w g (arr F) (arr G) t (0, 0) (rowIs_heap h)
  exact rowIs_of_heap this
theorem rowIs_setRow_other {w : World} {g k : Nat} {t : TypeId} {F : Nat → Value} (h : w.rowIs k t 17 F) (hne : k ≠ g) (cs : Array Value) : (w.setRow g cs).rowIs k t 17 F :=
  h.of_block (setRow_other w g k cs hne)
theorem below_setRow' {B g : Nat} {w0 w : World} (hb : Below B w0 w) (hBg : B ≤ g) (cs : Array Value) : Below B w0 (w.setRow g cs) :=
  hb.trans ⟨rfl, rfl, rfl, by simp [World.setRow], fun k hk => setRow_other w g k cs (by omega)⟩

theorem rowIs_lit (w : World) (t : TypeId) (v : Value) : (w.alloc (.cells #[v, v, v, v, v, v, v, v, v, v, v, v, v, v, v, v, v] t)).rowIs w.heap.size t 17 (fun _ => v) := by
  refine World.rowIs_alloc w #[v, v, v, v, v, v, v, v, v, v, v, v, v, v, v, v, v] t (fun _ => v) ?_
  intro i hi
  match i, hi with
  | 0, _ => rfl
  | 1, _ => rfl
  | 2, _ => rfl
  | 3, _ => rfl
  | 4, _ => rfl
  | 5, _ => rfl
  | 6, _ => rfl
  | 7, _ => rfl
  | 8, _ => rfl
  | 9, _ => rfl
  | 10, _ => rfl
  | 11, _ => rfl
  | 12, _ => rfl
  | 13, _ => rfl
  | 14, _ => rfl
  | 15, _ => rfl
  | 16, _ => rfl
  | (j + 17), h => exact absurd h (by simp)

theorem rowIs_arr (w : World) (t : TypeId) (F : Nat → Value) : (w.alloc (.cells (arr F) t)).rowIs w.heap.size t 17 F := by
  have := World.rowIs_alloc w (arr F) t F (fun i hi => arr_at F i (by rw [size_arr] at hi; exact hi))
  rwa [size_arr] at this

/-- The bits of row i. -/
def rowOf : List (Int × Int) → Nat → Nat := fun l i => l.foldl (fun acc p => if p.1 = (i : Int) then acc ||| 2 ^ p.2.toNat else acc) 0
def rowV (f : Nat → Nat) (i : Nat) : Value := .int .u32 (f i : Int)
def goodP (p : Int × Int) : Prop := 1 ≤ p.1 ∧ p.1 ≤ 16 ∧ 1 ≤ p.2 ∧ p.2 ≤ 16
theorem rowV_one (f : Nat → Nat) (i : Nat) : (rowV f i).oneCell' = true := rfl

theorem rowOf_snoc (l : List (Int × Int)) (p : Int × Int) (i : Nat) : rowOf (l ++ [p]) i = if p.1 = (i : Int) then rowOf l i ||| 2 ^ p.2.toNat else rowOf l i := by
  simp [rowOf, List.foldl_append]
theorem rowOf_take (l : List (Int × Int)) (k : Nat) (p : Int × Int) (hp : l[k]? = some p) (i : Nat) : rowOf (l.take (k + 1)) i = if p.1 = (i : Int) then rowOf (l.take k) i ||| 2 ^ p.2.toNat else rowOf (l.take k) i := by
  obtain ⟨hk, hpe⟩ := List.getElem?_eq_some_iff.1 hp
  rw [List.take_succ_eq_append_getElem hk, hpe, rowOf_snoc]

theorem rowOf_lt_go (l : List (Int × Int)) (i : Nat) : ∀ acc : Nat, acc < 2 ^ 17 → (∀ p ∈ l, goodP p) → l.foldl (fun acc p => if p.1 = (i : Int) then acc ||| 2 ^ p.2.toNat else acc) acc < 2 ^ 17 := by
  induction l with
  | nil => intro acc h _; exact h
  | cons p l ih =>
    intro acc h hg
    simp only [List.foldl_cons]
    refine ih _ ?_ (fun q hq => hg q (List.mem_cons_of_mem _ hq))
    split
    · obtain ⟨_, _, _, h4⟩ := hg p (List.mem_cons_self ..)
      exact Nat.or_lt_two_pow h (Nat.pow_lt_pow_of_lt (by decide) (by omega))
    · exact h
theorem rowOf_lt (l : List (Int × Int)) (hg : ∀ p ∈ l, goodP p) (i : Nat) : rowOf l i < 2 ^ 17 := rowOf_lt_go l i 0 (by decide) hg

theorem foldl_bit (l : List (Int × Int)) (i j : Nat) : ∀ acc : Nat, (∀ p ∈ l, goodP p) → ((l.foldl (fun acc p => if p.1 = (i : Int) then acc ||| 2 ^ p.2.toNat else acc) acc).testBit j = true ↔ acc.testBit j = true ∨ ((i : Int), (j : Int)) ∈ l) := by
  induction l with
  | nil => intro acc _; simp
  | cons p l ih =>
    intro acc hg
    have hp := hg p (List.mem_cons_self ..)
    simp only [List.foldl_cons]
    rw [ih _ (fun q hq => hg q (List.mem_cons_of_mem _ hq))]
    obtain ⟨a, b⟩ := p
    simp only [goodP] at hp
    simp only [List.mem_cons, Prod.mk.injEq]
    by_cases h1 : a = (i : Int)
    · simp only [h1, if_true, Nat.testBit_or, Nat.testBit_two_pow, Bool.or_eq_true, decide_eq_true_eq, true_and]
      constructor
      · rintro ((h | h) | h)
        · exact .inl h
        · exact .inr (.inl (by omega))
        · exact .inr (.inr h)
      · rintro (h | h | h)
        · exact .inl (.inl h)
        · exact .inl (.inr (by omega))
        · exact .inr h
    · simp only [h1, if_false]
      constructor
      · rintro (h | h)
        · exact .inl h
        · exact .inr (.inr h)
      · rintro (h | h | h)
        · exact .inl h
        · exact absurd h.1.symm h1
        · exact .inr h
theorem rowOf_bit (l : List (Int × Int)) (hg : ∀ p ∈ l, goodP p) (i j : Nat) : (rowOf l i).testBit j = true ↔ ((i : Int), (j : Int)) ∈ l := by
  unfold rowOf
  rw [foldl_bit l i j 0 hg]
  simp

/-- An or of a bit, as the walk writes it. -/
theorem or_bit (F y : Nat) (hF : F < 2 ^ 17) (hy : y ≤ 16) : bits .or .u32 (F : Int) ((2 : Int) ^ y % 4294967296) = ((F ||| 2 ^ y : Nat) : Int) := by
  have h2 : 2 ^ y < 2 ^ 17 := Nat.pow_lt_pow_of_lt (by decide) (by omega)
  have e : (2 : Int) ^ y % 4294967296 = ((2 ^ y : Nat) : Int) := by
    have h3 : ((2 ^ y : Nat) : Int) = (2 : Int) ^ y := by simp
    rw [← h3]
    generalize 2 ^ y = z at h2
    omega
  rw [e, u32_or_nat F (2 ^ y) (by omega) (by omega)]

end Go.Proofs.Ytdndoefjknnbhaa
