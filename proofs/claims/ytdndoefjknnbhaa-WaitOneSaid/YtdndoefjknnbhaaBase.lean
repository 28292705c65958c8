/-
  Words of this seat for slices that read as lists of pairs or of numbers, kept over new memory, and the plain functions on edges that the walks name. Conditions: none.
-/
import Derived.Test.YtdndoefjknnbhaaProg
import Derived.WalkKit
import Derived.WalkSpells
import Derived.WalkLawsBesides
import Derived.Deep.OwnRows
import Derived.Deep.WholeRow
import Derived.Lib.Hide
namespace Go.Proofs.Ytdndoefjknnbhaa
open Go.RowKit

def outB (s : Int) : Bool := decide (s < 1) || decide (16 < s)
def edgeOut (p : Int × Int) : Bool := outB p.1 || outB p.2
def badB (l : List (Int × Int)) : Bool := decide (256 < (l.length : Int)) || l.any edgeOut

/-- The slice at A reads as these pairs; its block lies below B. -/
def PairsAt (w : World) (B : Nat) (A : Option Addr) (l : List (Int × Int)) : Prop :=
  ∀ k p, l[k]? = some p → ∃ b off, A = some ⟨b, off, none⟩ ∧ b < B ∧ w.cell? ⟨b, off + k * 2, none⟩ = some (.int .i64 p.1) ∧ w.cell? ⟨b, off + k * 2 + 1, none⟩ = some (.int .i64 p.2)

/-- The slice at A reads as these numbers; its block lies below B. -/
def IntsAt (w : World) (B : Nat) (A : Option Addr) (l : List Int) : Prop :=
  ∀ k x, l[k]? = some x → ∃ b off, A = some ⟨b, off, none⟩ ∧ b < B ∧ w.cell? ⟨b, off + k, none⟩ = some (.int .i64 x)

theorem PairsAt.keep {w w' : World} {B : Nat} {A : Option Addr} {l : List (Int × Int)} (h : PairsAt w B A l) (hk : ∀ p : Addr, p.block < B → w'.cell? p = w.cell? p) : PairsAt w' B A l := by
  intro k p hp
  obtain ⟨b, off, e, hb, h1, h2⟩ := h k p hp
  exact ⟨b, off, e, hb, (hk _ hb).trans h1, (hk _ hb).trans h2⟩
theorem IntsAt.keep {w w' : World} {B : Nat} {A : Option Addr} {l : List Int} (h : IntsAt w B A l) (hk : ∀ p : Addr, p.block < B → w'.cell? p = w.cell? p) : IntsAt w' B A l := by
  intro k p hp
  obtain ⟨b, off, e, hb, h1⟩ := h k p hp
  exact ⟨b, off, e, hb, (hk _ hb).trans h1⟩
theorem PairsAt.below {w w' : World} {B : Nat} {A : Option Addr} {l : List (Int × Int)} (h : PairsAt w B A l) (hb : Below B w w') : PairsAt w' B A l := h.keep fun _ hp => hb.cell hp
theorem IntsAt.below {w w' : World} {B : Nat} {A : Option Addr} {l : List Int} (h : IntsAt w B A l) (hb : Below B w w') : IntsAt w' B A l := h.keep fun _ hp => hb.cell hp
theorem PairsAt.more {w : World} {B B' : Nat} {A : Option Addr} {l : List (Int × Int)} (h : PairsAt w B A l) (hb : B ≤ B') : PairsAt w B' A l := by
  intro k p hp
  obtain ⟨b, off, e, hb', h1⟩ := h k p hp
  exact ⟨b, off, e, by omega, h1⟩
theorem IntsAt.more {w : World} {B B' : Nat} {A : Option Addr} {l : List Int} (h : IntsAt w B A l) (hb : B ≤ B') : IntsAt w B' A l := by
  intro k p hp
  obtain ⟨b, off, e, hb', h1⟩ := h k p hp
  exact ⟨b, off, e, by omega, h1⟩
theorem IntsAt.nil_ (w : World) (B : Nat) (A : Option Addr) : IntsAt w B A [] := by intro k x h; simp at h
theorem PairsAt.nil_ (w : World) (B : Nat) (A : Option Addr) : PairsAt w B A [] := by intro k x h; simp at h

/-- What the call owns reads as numbers. -/
theorem IntsAt.of_own {w : World} {base : Nat} {e : TypeId} {A : Option Addr} {n c : Nat} {l : List Int} (h : w.ownsRow base e 1 (.slice A n c) n (l.map (Value.int .i64))) : IntsAt w w.heap.size A l := by
  intro k x hx
  have hlen : l.length = n := by simpa using h.1
  have hk : k < l.length := by
    rcases Nat.lt_or_ge k l.length with h1 | h1
    · exact h1
    · rw [List.getElem?_eq_none h1] at hx; cases hx
  rcases h.2 with ⟨_, h0⟩ | ⟨g, cap, cur, hv, _, hh, _⟩
  · omega
  · have hA : A = some ⟨g, 0, none⟩ := by injection hv
    subst hA
    have hc := h.cells (g := g) rfl k (.int .i64 x) (by simp [hx])
    have ha : (⟨g, 0, none⟩ : Addr).add k = ⟨g, 0 + k, none⟩ := by unfold Addr.add; split <;> simp_all
    rw [ha] at hc
    refine ⟨g, 0, rfl, ?_, hc⟩
    exact (h.lt g rfl).2

def prCells (l : List (Int × Int)) : List Value := l.flatMap fun p => [.int .i64 p.1, .int .i64 p.2]
theorem prCells_length (l : List (Int × Int)) : (prCells l).length = l.length * 2 := by
  induction l with
  | nil => rfl
  | cons a l ih => simp only [prCells, List.flatMap_cons, List.length_append, List.length_cons, List.length_nil] at ih ⊢; omega
theorem prCells_append (l m : List (Int × Int)) : prCells (l ++ m) = prCells l ++ prCells m := by simp [prCells]
theorem prCells_at (l : List (Int × Int)) : ∀ (k : Nat) (p : Int × Int), l[k]? = some p → (prCells l)[k * 2]? = some (.int .i64 p.1) ∧ (prCells l)[k * 2 + 1]? = some (.int .i64 p.2) := by
  induction l with
  | nil => intro k p h; simp at h
  | cons a l ih =>
    intro k p h
    cases k with
    | zero => simp at h; subst h; simp [prCells]
    | succ k =>
      have := ih k p (by simpa using h)
      have e : (k + 1) * 2 = k * 2 + 2 := by omega
      rw [e]
      simpa [prCells] using this
theorem prCells_one (l : List (Int × Int)) : ∀ u ∈ prCells l, u.oneCell' = true := by
  intro u hu
  simp only [prCells, List.mem_flatMap] at hu
  obtain ⟨p, _, hp⟩ := hu
  simp at hp
  rcases hp with rfl | rfl <;> rfl

/-- What the call owns reads as pairs. -/
theorem PairsAt.of_own {w : World} {base : Nat} {e : TypeId} {A : Option Addr} {n c : Nat} {l : List (Int × Int)} (h : w.ownsRow base e 2 (.slice A n c) n (prCells l)) : PairsAt w w.heap.size A l := by
  intro k x hx
  have hlen : l.length = n := by have := h.1; rw [prCells_length] at this; omega
  have hk : k < l.length := by
    rcases Nat.lt_or_ge k l.length with h1 | h1
    · exact h1
    · rw [List.getElem?_eq_none h1] at hx; cases hx
  rcases h.2 with ⟨_, h0⟩ | ⟨g, cap, cur, hv, _, hh, _⟩
  · omega
  · have hA : A = some ⟨g, 0, none⟩ := by injection hv
    subst hA
    obtain ⟨h1, h2⟩ := prCells_at l k x hx
    have hc1 := h.cells (g := g) rfl _ _ h1
    have hc2 := h.cells (g := g) rfl _ _ h2
    have ha : ∀ j, (⟨g, 0, none⟩ : Addr).add j = ⟨g, 0 + j, none⟩ := by intro j; unfold Addr.add; split <;> simp_all
    rw [ha] at hc1 hc2
    exact ⟨g, 0, rfl, (h.lt g rfl).2, hc1, hc2⟩

/-- A row of the call's own stays, where all below a bound stays. -/
theorem own_below {w w' : World} {base : Nat} {e : TypeId} {size : Nat} {v : Value} {n : Nat} {xs : List Value} (h : w.ownsRow base e size v n xs) (hb : Below w.heap.size w w') : w'.ownsRow base e size v n xs := by
  obtain ⟨h1, h2⟩ := h
  refine ⟨h1, ?_⟩
  rcases h2 with h2 | ⟨g, cap, cur, hv, hg, hh, r⟩
  · exact Or.inl h2
  · have hlt : g < w.heap.size := (Array.getElem?_eq_some_iff.1 hh).1
    exact Or.inr ⟨g, cap, cur, hv, hg, (hb.block g hlt).trans hh, r⟩

theorem rowIs_below {w w' : World} {b : Nat} {t : TypeId} {n : Nat} {f : Nat → Value} {B : Nat} (h : w.rowIs b t n f) (hb : Below B w w') (hlt : b < B) : w'.rowIs b t n f := h.of_block (hb.block b hlt)

/-- An end that hands back an int of which something is known. -/
def SomeInt (P : Int → Prop) (w0 : World) (e : Ending) (w' : World) : Prop := ∃ n : Int, P n ∧ e = .returned (.int .i64 n) ∧ Below w0.heap.size w0 w'
/-- An end that hands back a slice of numbers that lies in new memory, or is nil. -/
def SomeInts (P : List Int → Prop) (w0 : World) (e : Ending) (w' : World) : Prop :=
  ∃ (l : List Int) (A : Option Addr) (c : Nat), P l ∧ e = .returned (.slice A l.length c) ∧ w'.ownsRow w0.heap.size 3 1 (.slice A l.length c) l.length (l.map (Value.int .i64)) ∧ Below w0.heap.size w0 w'

theorem Try.info3 : (Try.prog.info? 3).map (fun i => (i.zero, i.size, i.bytes)) = some (some (.int .i64 0), 1, 8) := by kernel_rfl
theorem Try.info39 : (Try.prog.info? 39).map (fun i => (i.zero, i.size, i.bytes)) = some (some (.agg #[.int .i64 0, .int .i64 0]), 2, 16) := by kernel_rfl

end Go.Proofs.Ytdndoefjknnbhaa
