/-
  'rhizomelaw17.WaitBroken' returns true for every input: without the edges of those whom Break tells no ring is left, each of them was in one when it was told, and nobody younger was. Conditions: none.
-/
import Derived.Test.YtdndoefjknnbhaaOpen
import Derived.Test.YtdndoefjknnbhaaBroken
namespace Go.Proofs.Ytdndoefjknnbhaa
open Go.ChangeShapes Go.WideShapes Go.ChangeAt Go.RowKit

theorem broken_any (A : Option Addr) (l : List (Int × Int)) (cap : Nat) (Ab : Option Addr) (born : List Int) (cb : Nat) (w : World) (hA : A = none → cap = 0)
    (hr : PairsAt w w.heap.size A l) (hb : IntsAt w w.heap.size Ab born) :
    Calls Try.prog 4 #[.slice A l.length cap, .slice Ab born.length cb] w fun e w' => e = .returned (.bool true) ∧ Below w.heap.size w w' := by
  by_cases hn : 256 < l.length
  · exact broken_big A l cap Ab born cb w hn
  · cases hbad : badB l
    · exact broken_good A l cap Ab born cb w (by omega) hA hr hb hbad
    · exact broken_bad A l cap Ab born cb w (by omega) hA hr hbad

set_option maxRecDepth 100000 in
theorem waitBroken_lifted (os : Os) (started : os.Started) (H : Type) (enc : TypeId × Value → H) :
    ReturnsInHanded {} Try.checked os 4 .any (Rows.waitBrokenSpec.pre6 enc Try.prog Try.f4 Rows.waitBrokenRow.domain false) (Rows.waitBrokenSpec.post enc Try.prog Try.f4 false true false false) := by
  refine returnsInHanded_of_change (C := Try.checked) Try.own started (by kernel_rfl) Try.func4
    (ChangeSpec.witness6 (enc := enc) (C := Try.checked) false ⟨#[], #[.slice none 0 0, .slice none 0 0], []⟩ 8 (by kernel_rfl) (by kernel_rfl) (by kernel_rfl) (by kernel_rfl)) ?_
  intro W base args ds gs before hval0 hW _ _
  have hval : ∀ (j : Nat) t v, Try.f4.params[j]? = some t → args[j]? = some v → Value.okWide Try.prog W .any base t v := hval0
  have hW' := hW
  obtain ⟨p, q, hA0, hV, rfl, _, _⟩ := hW
  have hA : DataW.TrodAll enc Try.prog W 0 (fun _ => true) true Try.f4.params.toList args.toList ds p := hA0
  rw [Try.params4] at hA hval
  obtain ⟨v0, v1, d0, d1, p0, p1, rfl, rfl, rfl, h0, h1⟩ := trodAll_two hA
  obtain ⟨rfl, rfl⟩ := trodVars_none hV
  obtain ⟨a0, len0, cap0, rfl⟩ := okWide_slice Try.underlying22 (hval 0 22 v0 rfl rfl)
  obtain ⟨a1, len1, cap1, rfl⟩ := okWide_slice Try.underlying23 (hval 1 23 v1 rfl rfl)
  clear hA0 hval0
  simp only [List.append_nil] at hW'
  have hlt0 : ∀ x ∈ p0, x.block < W.heap.size := fun x hx => hW'.lt x (by simp [hx])
  have hlt1 : ∀ x ∈ p1, x.block < W.heap.size := fun x hx => hW'.lt x (by simp [hx])
  obtain ⟨⟨l, rfl, hr⟩, hn0⟩ := open_prs h0
  obtain ⟨⟨born, rfl, hb⟩, _, _⟩ := open_nums h1
  refine (broken_any a0 l cap0 a1 born cap1 W hn0 hr hb).mono fun e W' ⟨he, bel⟩ => ?_
  subst he
  exact ⟨_, rfl, _, _, _, [], _, [], hW', trodAll_mk1 (shut_bool Try.underlying4 _),
    trodAll_mk2 (Below.trod Try.laidOut (by kernel_rfl) (of_decide_eq_true (by kernel_rfl)) h0 bel hlt0) (Below.trod Try.laidOut (by kernel_rfl) (of_decide_eq_true (by kernel_rfl)) h1 bel hlt1), rfl, bel.frame _, fun h => by cases h⟩

theorem waitBroken_over : Rows.waitBrokenRow.holds Try.pinned (OpenSpec.ofChange Rows.waitBrokenSpec) :=
  OpenClaim.holds_of_wide 4 Try.f4 rfl rfl rfl rfl rfl rfl rfl ⟨rfl, rfl, rfl, rfl, rfl⟩ rfl rfl rfl rfl rfl (by kernel_rfl) Try.func4 (by kernel_rfl)
    (of_decide_eq_true (by kernel_rfl)) (by unfold Func.isWrapper; first | (rw [if_pos (by decide +kernel)]; kernel_rfl) | (rw [if_neg (by decide +kernel)]; exact ⟨rfl, rfl⟩))
    (fun os started H enc _ => waitBroken_lifted os started H enc)

theorem waitBroken_holds : Rows.WaitBrokenSaid := waitBroken_over
#print axioms waitBroken_holds

end Go.Proofs.Ytdndoefjknnbhaa
