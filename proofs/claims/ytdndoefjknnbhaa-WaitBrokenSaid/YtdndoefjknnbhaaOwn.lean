/-
  The walk of own (function 8): a copy of edges in new memory. Conditions: at most 600 edges.
-/
import Derived.Test.YtdndoefjknnbhaaCaught
import Derived.Laws.AppendOwnNone
namespace Go.Proofs.Ytdndoefjknnbhaa
open Go.RowKit

theorem prCells_get (l : List (Int × Int)) (j : Nat) (u : Value) (h : (prCells l)[j]? = some u) : ∃ k p, l[k]? = some p ∧ ((j = k * 2 ∧ u = .int .i64 p.1) ∨ (j = k * 2 + 1 ∧ u = .int .i64 p.2)) := by
  have hj : j < l.length * 2 := by
    rcases Nat.lt_or_ge j (l.length * 2) with h1 | h1
    · exact h1
    · rw [List.getElem?_eq_none (by rw [prCells_length]; exact h1)] at h; cases h
  have hk : j / 2 < l.length := by omega
  refine ⟨j / 2, l[j / 2], List.getElem?_eq_getElem hk, ?_⟩
  obtain ⟨h1, h2⟩ := prCells_at l (j / 2) _ (List.getElem?_eq_getElem hk)
  rcases Nat.mod_two_eq_zero_or_one j with h0 | h0
  · have e : j = j / 2 * 2 := by omega
    rw [← e] at h1
    exact .inl ⟨e, by rw [h1] at h; injection h with h; exact h.symm⟩
  · have e : j = j / 2 * 2 + 1 := by omega
    rw [← e] at h2
    exact .inr ⟨e, by rw [h2] at h; injection h with h; exact h.symm⟩

theorem PairsAt.news {w : World} {B : Nat} {ad : Addr} {l : List (Int × Int)} (h : PairsAt w B (some ad) l) : ∀ j u, (prCells l)[j]? = some u → w.cell? (ad.add j) = some u := by
  intro j u hu
  obtain ⟨k, p, hp, hj⟩ := prCells_get l j u hu
  obtain ⟨b, off, e, _, h1, h2⟩ := h k p hp
  injection e with e
  subst e
  have ha : ∀ j, (⟨b, off, none⟩ : Addr).add j = ⟨b, off + j, none⟩ := by intro j; unfold Addr.add; split <;> simp_all
  rw [ha]
  rcases hj with ⟨rfl, rfl⟩ | ⟨rfl, rfl⟩
  · exact h1
  · exact h2
theorem PairsAt.none_ {w : World} {B : Nat} {l : List (Int × Int)} (h : PairsAt w B none l) : l = [] := by
  cases l with
  | nil => rfl
  | cons p l =>
    obtain ⟨b, off, e, _⟩ := h 0 p rfl
    cases e

set_option maxHeartbeats 400000 in
theorem own_any (A : Option Addr) (l : List (Int × Int)) (cap : Nat) (w : World) (hn : l.length ≤ 600) (hnil : A = none → cap = 0) (hr : PairsAt w w.heap.size A l) :
    Calls Try.prog 8 #[.slice A l.length cap] w fun e w' => ∃ A' c', e = .returned (.slice A' l.length c') ∧ w'.ownsRow w.heap.size 39 2 (.slice A' l.length c') l.length (prCells l) ∧ Below w.heap.size w w' := by
  obtain ⟨i0, hi, hz0, hz1, hz2⟩ := info_parts Try.info39
  have Hz0 := Lib.hid hz0; have Hz1 := Lib.hid hz1; have Hz2 := Lib.hid hz2; have Hi := Lib.hid hi
  clear hz0 hz1 hz2 hi
  have hown0 : (w.alloc (.cells #[] 39)).ownsRow w.heap.size 39 2 (.slice (some ⟨w.heap.size, 0, none⟩) 0 0) 0 [] := World.ownsRow_made w #[] 0 (Nat.le_refl _) (by decide) rfl
  have hb0 : Below w.heap.size w (w.alloc (.cells #[] 39)) := (Below.refl _ _).alloc (Nat.le_refl _) _
  have Hown0 := Lib.hid hown0; clear hown0
  rcases A with _ | ad
  · obtain rfl := hnil rfl
    obtain rfl := hr.none_
    clear hnil hr
    go_enter Try.func8, Try.ntmps8
    go_wp2_with (at_builtin; refine wpList_append_own_none rfl (.tmp 3) (.tmp 4) 22 rfl w.heap.size 39 i0 2 Try.underlying22 Hi.out _ _ _ rfl Hown0.out rfl ?_)
    go_ret
    exact ⟨_, _, rfl, Hown0.out, hb0⟩
  · have Hr := Lib.hid hr; clear hr hnil
    go_enter Try.func8, Try.ntmps8
    go_wp2_with (at_builtin; refine wpList_append_own _ rfl (.tmp 3) (.tmp 4) 22 rfl w.heap.size 39 i0 (.agg #[.int .i64 0, .int .i64 0]) 2 16 Try.underlying22 Hi.out Hz0.out Hz1.out Hz2.out rfl (by decide) _ _ _ rfl Hown0.out ad l.length cap (prCells l) rfl (prCells_length l) (((Hr.out.below hb0).news)) (prCells_one l) ?c3 ?c4 ?c5 ?_)
    case c3 => unfold maxLen; omega
    case c4 => omega
    case c5 => simp
    intro v' w' hown hgrow _
    have hb := hb0.grown hgrow (by simp) (own_block Hown0.out)
    obtain ⟨A', c', rfl⟩ := own_form hown
    have Hown := Lib.hid hown; clear hown hgrow
    go_wp2_with fail
    go_ret
    exact ⟨_, _, rfl, Hown.out, hb⟩

end Go.Proofs.Ytdndoefjknnbhaa
