/-
  The walks of out, bad and what they call (functions 23, 27, 30, 26, 17): bad tells whether there are more than 256 edges or one is none. Conditions: fewer than 2^47 edges.
-/
import Derived.Test.YtdndoefjknnbhaaBase
namespace Go.Proofs.Ytdndoefjknnbhaa
open Go.RowKit

set_option maxHeartbeats 400000 in
theorem out_any (s : Int) (w : World) :
    Calls Try.prog 23 #[.int .i64 s] w fun e w' => e = .returned (.bool (outB s)) ∧ w = w' := by
  unfold outB
  go_enter Try.func23, Try.ntmps23
  go_wp2
  all_goals go_ret
  all_goals exact ⟨rfl, rfl⟩

set_option maxHeartbeats 400000 in
theorem bad1_any (a b : Int) (w : World) :
    Calls Try.prog 27 #[.agg #[.int .i64 a, .int .i64 b]] w fun e w' => e = .returned (.bool (edgeOut (a, b))) ∧ Below w.heap.size w w' := by
  have e0 : edgeOut (a, b) = (outB a || outB b) := rfl
  rw [e0]; clear e0
  have hb : Below w.heap.size w (w.alloc (.cells #[.int .i64 a, .int .i64 b] 39)) := (Below.refl _ _).alloc (Nat.le_refl _) _
  cases ha : outB a
  · have Ha := Lib.hid ha; clear ha
    go_enter Try.func27, Try.ntmps27
    go_wp2_with fail
    refine (out_any _ _).mono ?_; rintro e w' ⟨rfl, rfl⟩
    rw [Ha.out]
    go_wp2_with fail
    refine (out_any _ _).mono ?_; rintro e w' ⟨rfl, rfl⟩
    go_wp2_with fail
    go_ret
    exact ⟨by simp, hb⟩
  · have Ha := Lib.hid ha; clear ha
    go_enter Try.func27, Try.ntmps27
    go_wp2_with fail
    refine (out_any _ _).mono ?_; rintro e w' ⟨rfl, rfl⟩
    rw [Ha.out]
    go_wp2_with fail
    go_ret
    exact ⟨by simp, hb⟩


theorem any_take_succ (l : List (Int × Int)) (k : Nat) (p : Int × Int) (hp : l[k]? = some p) : (l.take (k + 1)).any edgeOut = ((l.take k).any edgeOut || edgeOut p) := by
  obtain ⟨hk, hpe⟩ := List.getElem?_eq_some_iff.1 hp
  rw [List.take_succ_eq_append_getElem hk, List.any_append]
  simp [hpe]
theorem any_of_take (l : List (Int × Int)) (k : Nat) (h : (l.take k).any edgeOut = true) : l.any edgeOut = true := by
  rw [List.any_eq_true] at h ⊢
  obtain ⟨x, hx, he⟩ := h
  exact ⟨x, List.mem_of_mem_take hx, he⟩

set_option maxHeartbeats 400000 in
theorem idx_any (A : Option Addr) (l : List (Int × Int)) (cap : Nat) (w : World) (hn : l.length ≤ 140737488351232) (hr : PairsAt w w.heap.size A l) :
    Calls Try.prog 30 #[.slice A l.length cap, .func (.func 27) #[] #[]] w (SomeInt (fun r => decide (0 ≤ r) = l.any edgeOut) w) := by
  go_enter Try.func30, Try.ntmps30
  go_wp2
  go_loopw [4, 8] (fun _ i wr => ∃ k : Nat, k ≤ l.length ∧ i = .int .i64 k ∧ (l.take k).any edgeOut = false ∧ Below w.heap.size w wr) (fun _ i _ => l.length - (intOf i).toNat)
  case atStart => exact ⟨0, Nat.zero_le _, rfl, by simp, Below.refl _ _⟩
  case round =>
    obtain ⟨k, hk, rfl, hany, hbl⟩ := hrel
    by_cases hlt : k < l.length
    · obtain ⟨p, hp⟩ : ∃ p, l[k]? = some p := ⟨l[k], List.getElem?_eq_getElem hlt⟩
      obtain ⟨b, off, rfl, hb, hc1, hc2⟩ := hr.below hbl k p hp
      have hst := any_take_succ l k p hp
      have Hst := Lib.hid hst; have Hany := Lib.hid hany; have Hp := Lib.hid hp
      clear hst hany hp hr
      cases hq : edgeOut p
      all_goals
        have Hq := Lib.hid hq; clear hq
        go_wp2_with fail
        refine (bad1_any p.1 p.2 wr).mono ?_; rintro e w' ⟨rfl, hb'⟩
        have hb1 := hbl.trans (hb'.mono hbl.size)
        rw [Hq.out]
        go_wp2_with fail
      · go_roundw
        case rel => exact ⟨k + 1, by omega, by go_num, by rw [Hst.out, Hany.out, Hq.out]; rfl, hb1⟩
        case measure => simp [intOf]; omega
      · go_ret
        refine ⟨k, ?_, rfl, hb1⟩
        rw [any_of_take l (k + 1) (by rw [Hst.out, Hany.out, Hq.out]; rfl)]
        simp
    · have Hany := Lib.hid hany; clear hany
      go_wp2
      go_ret
      refine ⟨-1, ?_, rfl, hbl⟩
      have := Hany.out
      rw [List.take_of_length_le (by omega)] at this
      rw [this]; rfl

set_option maxHeartbeats 400000 in
theorem contains_any (A : Option Addr) (l : List (Int × Int)) (cap : Nat) (w : World) (hn : l.length ≤ 140737488351232) (hr : PairsAt w w.heap.size A l) :
    Calls Try.prog 26 #[.slice A l.length cap, .func (.func 27) #[] #[]] w fun e w' => e = .returned (.bool (l.any edgeOut)) ∧ Below w.heap.size w w' := by
  go_enter Try.func26, Try.ntmps26
  go_wp2_with fail
  refine (idx_any A l cap w hn hr).mono ?_; rintro e w' ⟨r, hp, rfl, hb⟩
  have Hp := Lib.hid hp; clear hp
  go_wp2_with fail
  go_ret
  exact ⟨by rw [← Hp.out]; rfl, hb⟩

set_option maxHeartbeats 400000 in
theorem bad_any (A : Option Addr) (l : List (Int × Int)) (cap : Nat) (w : World) (hn : l.length ≤ 140737488351232) (hr : PairsAt w w.heap.size A l) :
    Calls Try.prog 17 #[.slice A l.length cap] w fun e w' => e = .returned (.bool (badB l)) ∧ Below w.heap.size w w' := by
  have e0 : badB l = (decide (256 < (l.length : Int)) || l.any edgeOut) := rfl
  rw [e0]; clear e0
  by_cases h256 : 256 < (l.length : Int)
  · go_enter Try.func17, Try.ntmps17
    go_wp2
    go_ret
    exact ⟨by simp only [decide_eq_true h256]; rfl, Below.refl _ _⟩
  · go_enter Try.func17, Try.ntmps17
    go_wp2_with fail
    refine (contains_any A l cap w hn hr).mono ?_; rintro e w' ⟨rfl, hb⟩
    go_wp2_with fail
    go_ret
    exact ⟨by rw [decide_eq_false (by omega)]; rfl, hb⟩

end Go.Proofs.Ytdndoefjknnbhaa
