/-
  The walks of age, at, Ints, Look (functions 16, 21, 12, 10). Conditions: fewer than 2^47 elements; the session is not below 0.
-/
import Derived.Test.YtdndoefjknnbhaaTell
import Derived.BigQuiet
import Derived.Deep.QuietTactic
namespace Go.Proofs.Ytdndoefjknnbhaa
open Go.RowKit

set_option maxHeartbeats 400000 in
theorem age_any (Ab : Option Addr) (born : List Int) (cb : Nat) (s : Int) (w : World) (hb : IntsAt w w.heap.size Ab born) (hs : 0 ≤ s) :
    Calls Try.prog 16 #[.slice Ab born.length cb, .int .i64 s] w fun e w' => e = .returned (.int .i64 (ageL born s)) ∧ w = w' := by
  obtain ⟨x, rfl⟩ : ∃ x : Nat, s = x := ⟨s.toNat, by omega⟩
  obtain ⟨a, ha⟩ : ∃ a, a = ageL born x := ⟨_, rfl⟩
  rw [← ha]
  have Ha := Lib.hid ha
  by_cases hx : x < born.length
  · have hbx : born[x]? = some a := by rw [ha]; simp [ageL, hx]
    obtain ⟨bb, ob, rfl, _, hc⟩ := hb x a hbx
    clear hb ha hbx
    go_enter Try.func16, Try.ntmps16
    go_wp2
    go_ret
    exact ⟨rfl, rfl⟩
  · have hbx : ageL born x = 0 := by unfold ageL; rw [List.getElem?_eq_none (by simp; omega)]; rfl
    rw [hbx] at ha
    subst ha
    clear hbx hb
    go_enter Try.func16, Try.ntmps16
    go_wp2
    go_ret
    exact ⟨rfl, rfl⟩

set_option maxHeartbeats 400000 in
theorem at_any (Ab : Option Addr) (born : List Int) (cb : Nat) (s : Int) (w : World) (hb : IntsAt w w.heap.size Ab born) (hs : 0 ≤ s) :
    Calls Try.prog 21 #[.slice Ab born.length cb, .int .i64 s] w fun e w' => e = .returned (.int .i64 (ageL born s)) ∧ w = w' := by
  obtain ⟨x, rfl⟩ : ∃ x : Nat, s = x := ⟨s.toNat, by omega⟩
  obtain ⟨a, ha⟩ : ∃ a, a = ageL born x := ⟨_, rfl⟩
  rw [← ha]
  have Ha := Lib.hid ha
  by_cases hx : x < born.length
  · have hbx : born[x]? = some a := by rw [ha]; simp [ageL, hx]
    obtain ⟨bb, ob, rfl, _, hc⟩ := hb x a hbx
    clear hb ha hbx
    go_enter Try.func21, Try.ntmps21
    go_wp2
    go_ret
    exact ⟨rfl, rfl⟩
  · have hbx : ageL born x = 0 := by unfold ageL; rw [List.getElem?_eq_none (by simp; omega)]; rfl
    rw [hbx] at ha
    subst ha
    clear hbx hb
    go_enter Try.func21, Try.ntmps21
    go_wp2
    go_ret
    exact ⟨rfl, rfl⟩

/-- Two lists that are the same are told so. -/
theorem ints_same (A A2 : Option Addr) (l : List Int) (c c2 : Nat) (w : World) (hn : l.length ≤ 140737488351232) (h1 : IntsAt w w.heap.size A l) (h2 : IntsAt w w.heap.size A2 l) :
    Calls Try.prog 12 #[.slice A l.length c, .slice A2 l.length c2] w fun e w' => e = .returned (.bool true) ∧ Below w.heap.size w w' := by
  have H1 := Lib.hid h1; have H2 := Lib.hid h2; clear h1 h2
  go_enter Try.func12, Try.ntmps12
  go_wp2_with fail
  go_loopw [13] (fun i wr => ∃ k : Nat, k ≤ l.length ∧ i = .int .i64 k ∧ ∃ n, wr = w.drewN n) (fun i _ => l.length - (intOf i).toNat)
  case atStart => exact ⟨0, by omega, rfl, 0, rfl⟩
  case round =>
    obtain ⟨k, hk, rfl, n, rfl⟩ := hrel
    by_cases hlt : k < l.length
    · obtain ⟨x, hx⟩ : ∃ x, l[k]? = some x := ⟨l[k], List.getElem?_eq_getElem hlt⟩
      obtain ⟨b, off, rfl, _, hc⟩ := H1.out k x hx
      obtain ⟨b2, off2, rfl, _, hc2⟩ := H2.out k x hx
      clear hx
      go_wp2_with fail
      go_region
      go_wp2_with fail
      go_roundw
      case rel => exact ⟨k + 1, by omega, by go_num, n + 1, rfl⟩
      case measure => simp [intOf]; omega
    · go_wp2_with fail
      go_ret
      exact ⟨rfl, ⟨rfl, rfl, rfl, Nat.le_refl _, fun _ _ => rfl⟩⟩

set_option maxHeartbeats 400000 in
theorem look_any (A : Option Addr) (l : List (Int × Int)) (cap : Nat) (w : World) (r : Int) (hrr : r = if badB l = true then 1 else 0) (hn : l.length ≤ 140737488351232) (hr : PairsAt w w.heap.size A l) :
    Calls Try.prog 10 #[.slice A l.length cap] w fun e w' => e = .returned (.int .i64 r) ∧ w = w' := by
  have e0 : badB l = (decide (256 < (l.length : Int)) || l.any edgeOut) := rfl
  have Hrr := Lib.hid hrr; clear hrr
  by_cases h256 : 256 < (l.length : Int)
  · have hres : r = 1 := by rw [Hrr.out, if_pos (by rw [e0, decide_eq_true h256]; rfl)]
    have Hres := Lib.hid hres
    clear e0 hres
    go_enter Try.func10, Try.ntmps10
    go_wp2
    go_ret
    exact ⟨by rw [Hres.out]; rfl, rfl⟩
  · rw [decide_eq_false h256, Bool.false_or] at e0
    have E0 := Lib.hid e0; have Hr := Lib.hid hr
    clear e0 hr
    go_enter Try.func10, Try.ntmps10
    go_wp2_with fail
    go_loop [9] (fun i => ∃ k : Nat, k ≤ l.length ∧ i = .int .i64 k ∧ (l.take k).any edgeOut = false) (fun i => l.length - (intOf i).toNat)
    case atStart => exact ⟨0, by omega, rfl, by simp⟩
    case round =>
      obtain ⟨k, hk, rfl, hany⟩ := hrel
      have Hany := Lib.hid hany; clear hany
      by_cases hlt : k < l.length
      · obtain ⟨p, hp⟩ : ∃ p, l[k]? = some p := ⟨l[k], List.getElem?_eq_getElem hlt⟩
        obtain ⟨b, off, rfl, _, hc1, hc2⟩ := Hr.out k p hp
        have Hst := Lib.hid (any_take_succ l k p hp)
        clear hp
        obtain ⟨x, y⟩ := p
        cases hq : edgeOut (x, y)
        · have Hq := Lib.hid hq
          simp only [edgeOut, outB, Bool.or_eq_false_iff, decide_eq_false_iff_not] at hq
          obtain ⟨⟨q1, q2⟩, q3, q4⟩ := hq
          go_wp2_with fail
          go_round
          case rel => exact ⟨k + 1, by omega, by go_num, by rw [Hst.out, Hany.out, Hq.out]; rfl⟩
          case measure => simp [intOf]; omega
        · have hres : r = 1 := by rw [Hrr.out, if_pos (by rw [E0.out]; exact any_of_take l (k + 1) (by rw [Hst.out, Hany.out, hq]; rfl))]
          have Hres := Lib.hid hres
          simp only [edgeOut, outB, Bool.or_eq_true, decide_eq_true_eq] at hq
          have Hq := Lib.hid hq
          clear hres hq
          go_wp2_with fail
          all_goals first
            | (go_ret; exact ⟨by rw [Hres.out]; rfl, rfl⟩)
            | (exfalso; have := Hq.out; omega)
      · have hres : r = 0 := by
          have := Hany.out
          rw [List.take_of_length_le (by omega)] at this
          rw [Hrr.out, E0.out, this]; rfl
        have Hres := Lib.hid hres; clear hres
        go_wp2_with fail
        go_ret
        exact ⟨by rw [Hres.out]; rfl, rfl⟩

end Go.Proofs.Ytdndoefjknnbhaa
