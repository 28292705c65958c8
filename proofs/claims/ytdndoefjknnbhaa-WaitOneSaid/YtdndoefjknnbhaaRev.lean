/-
  The walk of slices.Reverse at numbers (function 24), over a row of the call's own: as many numbers as before; one alone stays. Conditions: at least one number.
-/
import Derived.Test.YtdndoefjknnbhaaCaught
namespace Go.Proofs.Ytdndoefjknnbhaa
open Go.RowKit

set_option maxHeartbeats 400000 in
theorem reverse_any (g : Nat) (c : Nat) (base : Nat) (ys : List Int) (w : World) (h1 : 1 ≤ ys.length) (hn : ys.length ≤ 1000) (hown : w.ownsRow base 3 1 (.slice (some ⟨g, 0, none⟩) ys.length c) ys.length (ys.map (Value.int .i64))) :
    Calls Try.prog 24 #[.slice (some ⟨g, 0, none⟩) ys.length c] w fun e w' => e = .returned (.tuple #[]) ∧ ∃ ys', ys'.length = ys.length ∧ (ys.length ≤ 1 → ys' = ys) ∧ w'.ownsRow base 3 1 (.slice (some ⟨g, 0, none⟩) ys.length c) ys.length (ys'.map (Value.int .i64)) ∧ Below base w w' := by
  have Hown := Lib.hid hown; clear hown
  go_enter Try.func24, Try.ntmps24
  go_wp2_with fail
  go_loopw [2, 3] (fun iv jv wr => ∃ (a d : Nat) (ys' : List Int), iv = .int .i64 a ∧ jv = .int .i64 d ∧ a < ys.length ∧ d < ys.length ∧ ys'.length = ys.length ∧ (ys.length ≤ 1 → ys' = ys) ∧ wr.ownsRow base 3 1 (.slice (some ⟨g, 0, none⟩) ys.length c) ys.length (ys'.map (Value.int .i64)) ∧ Below base w wr) (fun _ jv _ => (intOf jv).toNat)
  case atStart => exact ⟨0, ys.length - 1, ys, rfl, by go_num, by omega, by omega, rfl, fun _ => rfl, Hown.out, Below.refl _ _⟩
  case round =>
    obtain ⟨a, d, ys', rfl, rfl, ha, hd, hl, h01, hown, hbl⟩ := hrel
    by_cases hlt : a < d
    · have hca := hown.cellAt a (by omega)
      have hcd := hown.cellAt d (by omega)
      have hfa := hown.frozenAt a
      have hfd := hown.frozenAt d
      obtain ⟨x, hx⟩ : ∃ x, ys'[a]? = some x := ⟨ys'[a], List.getElem?_eq_getElem (by omega)⟩
      obtain ⟨y, hy⟩ : ∃ y, ys'[d]? = some y := ⟨ys'[d], List.getElem?_eq_getElem (by omega)⟩
      rw [List.getElem?_map, hx] at hca
      rw [List.getElem?_map, hy] at hcd
      simp only [Option.map_some] at hca hcd
      have H2 := Lib.hid h01; have Hl := Lib.hid hl; have Hown' := Lib.hid hown
      have hg : base ≤ g := own_block hown g rfl
      clear hx hy h01 hown hl
      go_wp2_with fail
      go_region
      go_wp2_with fail
      go_roundw
      case rel =>
        refine ⟨a + 1, d - 1, (ys'.set a y).set d x, by go_num, by go_num, by omega, by omega, by simpa using Hl.out, fun h => by omega, ?_, ((hbl.setCell hg _).setCell hg _).drew⟩
        rw [List.map_set, List.map_set]
        exact ((Hown'.out.stored a _).1.stored d _).1.drew
      case measure => simp [intOf]; omega
    · go_wp2_with fail
      go_end0
      exact ⟨rfl, ys', hl, h01, hown, hbl⟩

end Go.Proofs.Ytdndoefjknnbhaa
