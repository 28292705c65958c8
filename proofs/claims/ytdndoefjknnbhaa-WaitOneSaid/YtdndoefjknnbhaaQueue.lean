/-
  Words of this seat for a queue of numbers that the call itself made: appended to at its end, cut at its head. Conditions: none.
-/
import Derived.Test.YtdndoefjknnbhaaBreak
namespace Go.Proofs.Ytdndoefjknnbhaa
open Go.RowKit

/-- v holds the numbers T, in a block of the call's own. -/
def QRow (w : World) (base : Nat) (v : Value) (T : List Int) : Prop :=
  ∃ g off cap cs, v = .slice (some ⟨g, off, none⟩) T.length cap ∧ base ≤ g ∧ w.heap[g]? = some (.cells cs 3 (0, 0)) ∧ off + cap ≤ cs.size ∧ T.length ≤ cap ∧ ∀ (j : Nat) (x : Int), T[j]? = some x → cs[off + j]? = some (.int .i64 x)

theorem QRow.below {w w' : World} {base : Nat} {v : Value} {T : List Int} (h : QRow w base v T) (hb : Below w.heap.size w w') : QRow w' base v T := by
  obtain ⟨g, off, cap, cs, h1, h2, h3, h4, h5, h6⟩ := h
  exact ⟨g, off, cap, cs, h1, h2, (hb.block g (Array.getElem?_eq_some_iff.1 h3).1).trans h3, h4, h5, h6⟩
theorem QRow.set {w : World} {base : Nat} {v : Value} {T : List Int} (h : QRow w base v T) {R : Nat} {t : TypeId} {F : Nat → Value} (hr : w.rowIs R t 17 F) (hne : t ≠ 3) (i : Nat) (u : Value) : QRow (w.setCell ⟨R, i, none⟩ u) base v T := by
  obtain ⟨g, off, cap, cs, h1, h2, h3, h4, h5, h6⟩ := h
  refine ⟨g, off, cap, cs, h1, h2, ?_, h4, h5, h6⟩
  rw [Below.heap_setCell _ _ _ _ (fun e => ?_)]
  · exact h3
  · have e' : g = R := e
    subst e'
    rw [rowIs_heap hr] at h3
    injection h3 with h3
    injection h3 with _ ht
    exact hne ht
theorem QRow.rowIs {w w' : World} {base : Nat} {v : Value} {T : List Int} (h : QRow w base v T) {R : Nat} {t : TypeId} {F : Nat → Value} (hr : w.rowIs R t 17 F) (hne : t ≠ 3) (hg : w.grownBy w' v.ownBlock) : w'.rowIs R t 17 F := by
  refine rowIs_grown hr hg (fun e => ?_)
  obtain ⟨g, off, cap, cs, rfl, h2, h3, _⟩ := h
  have : g = R := by simpa [Value.ownBlock] using e
  subst this
  rw [rowIs_heap hr] at h3
  injection h3 with h3
  injection h3 with _ ht
  exact hne ht
theorem QRow.block {w : World} {base : Nat} {v : Value} {T : List Int} (h : QRow w base v T) : ∀ k, v.ownBlock = some k → base ≤ k := by
  obtain ⟨g, off, cap, cs, rfl, h2, _⟩ := h
  intro k hk
  have : g = k := by simpa [Value.ownBlock] using hk
  omega
/-- Where its first number lies. -/
theorem QRow.first {w : World} {base : Nat} {v : Value} {x : Int} {T : List Int} (h : QRow w base v (x :: T)) : ∃ g off cap, v = .slice (some ⟨g, off, none⟩) (T.length + 1) cap ∧ w.cell? ⟨g, off, none⟩ = some (.int .i64 x) ∧ 1 ≤ cap := by
  obtain ⟨g, off, cap, cs, rfl, h2, h3, h4, h5, h6⟩ := h
  have := h6 0 x rfl
  simp only [List.length_cons] at h5
  exact ⟨g, off, cap, rfl, by rw [cell_of_row w g off cs 3 (0, 0) h3]; exact this, by omega⟩

/-- The queue without its first number, as the cut writes it. -/
theorem QRow.cut {w : World} {base : Nat} {x : Int} {T : List Int} {g off cap : Nat} (h : QRow w base (.slice (some ⟨g, off, none⟩) (T.length + 1) cap) (x :: T)) :
    QRow w base (.slice (if cap = 1 then some ⟨g, off, none⟩ else some ⟨g, off + 1, none⟩) T.length (cap - 1)) T := by
  obtain ⟨g', off', cap', cs, h1, h2, h3, h4, h5, h6⟩ := h
  simp only [List.length_cons] at h5 h1
  injection h1 with h1 hl hc
  injection h1 with h1
  injection h1 with ha hb
  subst ha; subst hb; subst hc
  by_cases e : cap = 1
  · rw [if_pos e]
    have hT : T = [] := List.eq_nil_of_length_eq_zero (by omega)
    subst hT
    exact ⟨g, off, cap - 1, cs, rfl, h2, h3, by omega, by simp, fun j y hj => by simp at hj⟩
  · rw [if_neg e]
    refine ⟨g, off + 1, cap - 1, cs, rfl, h2, h3, by omega, by omega, fun j y hj => ?_⟩
    have := h6 (j + 1) y (by simpa using hj)
    rw [← this]
    congr 1
    omega

/-- One number more. -/
theorem wpList_append_q (w : World) {ops : Array Oper} {rest : List Oper} {o : Oper} {a : Act} {Q : Exit → Act → World → Prop}
    (hg : o.guard = none) (s x : Operand) (hop : o.op = Op.call { callee := Callee.builtin Builtin.append, args := #[s, x], argTypes := #[23, 23] })
    (base : Nat) (v : Value) (T : List Int) (hs : a.eval s = v) (hq : QRow w base v T)
    (ad : Addr) (c : Nat) (y : Int) (hx : a.eval x = .slice (some ad) 1 c) (hc : w.cell? ad = some (.int .i64 y)) (hT : T.length ≤ 1000) (hbase : base ≤ w.heap.size)
    (hK : ∀ v' w', QRow w' base v' (T ++ [y]) → w.grownBy w' v.ownBlock → wpList Try.prog ops Q rest (a.put o.dst v') w') :
    wpList Try.prog ops Q (o :: rest) a w := by
  obtain ⟨i0, hi, hz0, hz1, hz2⟩ := info_parts Try.info3
  obtain ⟨g, off, cap, cs, rfl, h2, h3, h4, h5, h6⟩ := hq
  refine wpList_append_arg w hg s x 23 hop 3 i0 (.int .i64 0) 1 8 Try.underlying23 hi hz0 hz1 hz2 rfl (by decide) g off T.length cap (T.map (Value.int .i64)) hs (by simp) ?_ ad 1 c [.int .i64 y] hx rfl ?_ ?_ ?_ ?_ ?_ ?_ ?_
  · intro j u hj
    rw [List.getElem?_map] at hj
    cases hx : T[j]? with
    | none => rw [hx] at hj; simp at hj
    | some z =>
      rw [hx] at hj
      simp at hj
      subst hj
      rw [cell_of_row w g _ cs 3 (0, 0) h3]
      exact h6 j z hx
  · intro j u hj
    match j, hj with
    | 0, hj =>
      simp at hj; subst hj
      have e : ad.add 0 = ad := by simp [Addr.add]
      rw [e]; exact hc
  · intro u hu; simp at hu; subst hu; rfl
  · intro hr j hj
    simp only [List.length_cons, List.length_nil] at hj
    refine ⟨?_, frozen_of_row w g _ cs 3 h3⟩
    rw [cell_of_row w g _ cs 3 (0, 0) h3, Array.getElem?_eq_getElem (by omega)]
    rfl
  · unfold maxLen; omega
  · omega
  · intro hr
    refine hK _ _ ?_ ⟨rfl, rfl, rfl, by simp [World.setCells, World.setCell], fun k _ hk => Below.heap_setCell _ _ _ _ (fun e => hk (by simp [Value.ownBlock, e]))⟩
    refine ⟨g, off, cap, cs.setIfInBounds (off + T.length * 1) (.int .i64 y), by simp, h2, heap_setCell_same w g _ cs 3 _ h3, by simpa using h4, by simpa using hr, ?_⟩
    intro j z hj
    rw [Array.getElem?_setIfInBounds]
    by_cases e : j = T.length
    · subst e
      rw [if_pos (by omega), if_pos (by omega)]
      simp at hj
      subst hj; rfl
    · have hjl : j < (T ++ [y]).length := by
        rcases Nat.lt_or_ge j (T ++ [y]).length with h | h
        · exact h
        · rw [List.getElem?_eq_none h] at hj; cases hj
      simp only [List.length_append, List.length_cons, List.length_nil] at hjl
      rw [if_neg (by omega)]
      rw [List.getElem?_append_left (by omega)] at hj
      exact h6 j z hj
  · intro hr v' w' hown hgr
    refine hK v' w' ?_ ⟨hgr.os, hgr.tape, hgr.output, hgr.size, fun k hk _ => hgr.block k hk (by simp)⟩
    rcases hown.2 with ⟨_, h0⟩ | ⟨g', cap', cur, rfl, hb', hh, hnc, hcm, hcs, htake⟩
    · omega
    · refine ⟨g', 0, cap', cur, by simp, by omega, hh, by omega, by simpa using hnc, ?_⟩
      intro j z hj
      have hjl : j < T.length + 1 := by
        rcases Nat.lt_or_ge j (T ++ [y]).length with h | h
        · simpa using h
        · rw [List.getElem?_eq_none h] at hj; cases hj
      have e1 : (cur.toList.take ((T.length + 1) * 1))[j]? = cur.toList[j]? := by
        rw [List.getElem?_take, if_pos (by omega)]
      have e2 : (T.map (Value.int .i64) ++ [Value.int .i64 y])[j]? = some (.int .i64 z) := by
        have : (T.map (Value.int .i64) ++ [Value.int .i64 y]) = (T ++ [y]).map (Value.int .i64) := by simp
        rw [this, List.getElem?_map, hj]; rfl
      rw [htake, e2] at e1
      rw [Nat.zero_add, ← Array.getElem?_toList]
      exact e1.symm

end Go.Proofs.Ytdndoefjknnbhaa
