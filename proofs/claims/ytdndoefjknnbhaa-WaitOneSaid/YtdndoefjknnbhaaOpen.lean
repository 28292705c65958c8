/-
  The arguments of the laws opened: a slice of pairs and a slice of numbers, as the walks name them; the closed facts on the program that each row asks. Conditions: none.
-/
import Derived.Test.YtdndoefjknnbhaaRows
import Derived.Test.YtdndoefjknnbhaaBase
import Derived.ProofKit
import Derived.OpenShut
import Derived.SizedLaws
import Derived.Deep.Slices
namespace Go.Proofs.Ytdndoefjknnbhaa
open Go.ChangeShapes Go.WideShapes Go.ChangeAt Go.RowKit

theorem Try.own : ownKnob Try.prog.godebug = none := by kernel_rfl
theorem Try.laidOut : laidOutB Try.prog = true := by kernel_rfl
theorem Try.cells3 : Try.prog.cellsOf 3 = 1 := by kernel_rfl
theorem Try.cells39 : Try.prog.cellsOf 39 = 2 := by kernel_rfl
theorem Try.bytes3 : Try.prog.bytesOf 3 = 8 := by kernel_rfl

section
variable {H : Type} {enc : TypeId × Value → H} {w : World}

theorem open_nums {A : Option Addr} {len cap : Nat} {d : DataW H} {p : List MemPlace} (h : DataW.Trod enc Try.prog w 0 (fun _ => true) true 23 (.slice A len cap) d p) :
    (∃ l : List Int, l.length = len ∧ IntsAt w w.heap.size A l) ∧ (A = none → cap = 0) ∧ ((d = .nil ∧ len = 0) ∨ ∃ es sp, d = .slice es sp ∧ len ≤ es.length + sp.length) := by
  obtain ⟨fuel, hf⟩ := h
  rcases open_ints Try.underlying23 Try.underlying3 Try.cells3 hf with ⟨hcs, hx⟩ | ⟨a, l, c, zs, hcs, _, hl, hm, hz, hx, hcell, _⟩
  · simp [Value.cells] at hcs
    obtain ⟨rfl, rfl, rfl⟩ := hcs
    simp only [Prod.mk.injEq] at hx
    exact ⟨⟨[], rfl, IntsAt.nil_ _ _ _⟩, fun _ => rfl, .inl ⟨hx.1, rfl⟩⟩
  · simp [Value.cells] at hcs
    obtain ⟨rfl, rfl, rfl⟩ := hcs
    simp only [Prod.mk.injEq] at hx
    simp only [if_true] at hz
    refine ⟨⟨zs.take len, by simp; omega, ?_⟩, fun h => (by cases h), .inr ⟨_, _, hx.1, by simp [lits]; omega⟩⟩
    intro k x hk
    have hk1 : k < len := by
      rcases Nat.lt_or_ge k len with h1 | h1
      · exact h1
      · rw [List.getElem?_take, if_neg (by omega)] at hk; cases hk
    rw [List.getElem?_take, if_pos hk1] at hk
    have hc := hcell k (by omega)
    have hs := World.cell?_spot hc
    have e : zs.getD k 0 = x := by rw [List.getD, hk]; rfl
    rw [e] at hc
    obtain ⟨b, off, spot⟩ := a
    by_cases h0 : k = 0
    · subst h0
      have hs' : spot = none := by simpa [Addr.add] using hs
      subst hs'
      exact ⟨b, off, rfl, block_lt_of_cell hc, by simpa [Addr.add] using hc⟩
    · have hc0 := hcell 0 (by omega)
      have hs0 : spot = none := by simpa [Addr.add] using World.cell?_spot hc0
      subst hs0
      have ea : (⟨b, off, none⟩ : Addr).add k = ⟨b, off + k, none⟩ := by simp [Addr.add, h0]
      rw [ea] at hc
      exact ⟨b, off, rfl, block_lt_of_cell hc, hc⟩

theorem open_prs {A : Option Addr} {len cap : Nat} {d : DataW H} {p : List MemPlace} (h : DataW.Trod enc Try.prog w 0 (fun _ => true) true 22 (.slice A len cap) d p) :
    (∃ l : List (Int × Int), l.length = len ∧ PairsAt w w.heap.size A l) ∧ (A = none → cap = 0) := by
  obtain ⟨fuel, hf⟩ := h
  rcases Deep.open_slice Try.underlying22 hf with ⟨hcs, hx⟩ | ⟨a, l, c, m, n, D, Pl, hcs, _, hl, hm, hmm, hx, hi⟩
  · simp [Value.cells] at hcs
    obtain ⟨rfl, rfl, rfl⟩ := hcs
    exact ⟨⟨[], rfl, PairsAt.nil_ _ _ _⟩, fun _ => rfl⟩
  · simp [Value.cells] at hcs
    obtain ⟨rfl, rfl, rfl⟩ := hcs
    simp only [if_true] at hmm
    subst hmm
    rw [Try.cells39] at hi
    have key : ∀ i, i < len → ∃ q : Int × Int, w.cell? ((a.add (i * 2)).add 0) = some (.int .i64 q.1) ∧ w.cell? ((a.add (i * 2)).add 1) = some (.int .i64 q.2) := by
      intro i hil
      obtain ⟨cs', hc, ht⟩ := hi i (by omega)
      obtain ⟨_, hcl, hat⟩ := World.cells?_some hc
      obtain ⟨xs, m', _, _, _, hxl, hf⟩ := DataW.trod_array Try.underlying39 ht
      rw [Try.cells3] at hf
      match cs', hcl with
      | [c0, c1], _ =>
        have f0 := hf 0 (by omega)
        have f1 := hf 1 (by omega)
        simp at f0 f1
        rw [List.getElem?_eq_getElem (by omega)] at f0 f1
        obtain ⟨x0, e0, _, _⟩ := DataW.trod_int Try.underlying3 f0
        obtain ⟨x1, e1, _, _⟩ := DataW.trod_int Try.underlying3 f1
        simp at e0 e1
        subst e0; subst e1
        exact ⟨(x0, x1), hat 0 (by omega), hat 1 (by omega)⟩
    obtain ⟨f, hfk⟩ := Deep.choose_lt key
    refine ⟨⟨(List.range len).map f, by simp, ?_⟩, fun h => (by cases h)⟩
    intro k q hk
    have hkl : k < len := by
      rcases Nat.lt_or_ge k len with h1 | h1
      · exact h1
      · rw [List.getElem?_eq_none (by simp; omega)] at hk; cases hk
    simp [hkl] at hk
    subst hk
    obtain ⟨h0, h1⟩ := hfk k hkl
    obtain ⟨z0, _⟩ := hfk 0 (by omega)
    obtain ⟨b, off, spot⟩ := a
    have hs0 : spot = none := by simpa [Addr.add] using World.cell?_spot z0
    subst hs0
    have ea : (⟨b, off, none⟩ : Addr).add (k * 2) = ⟨b, off + k * 2, none⟩ := by unfold Addr.add; split <;> simp_all
    have e0 : (⟨b, off + k * 2, none⟩ : Addr).add 0 = ⟨b, off + k * 2, none⟩ := by simp [Addr.add]
    have e1 : (⟨b, off + k * 2, none⟩ : Addr).add 1 = ⟨b, off + k * 2 + 1, none⟩ := by simp [Addr.add]
    rw [ea, e0] at h0
    rw [ea, e1] at h1
    exact ⟨b, off, rfl, block_lt_of_cell h0, h0, h1⟩
end

end Go.Proofs.Ytdndoefjknnbhaa
