/-
  The walks of Caught and Victim (functions 15, 7): an edge that is none or too many are refused; else the sessions that lead to themselves, and the youngest of them. Conditions: fewer than 2^47 edges.
-/
import Derived.Test.YtdndoefjknnbhaaPlain
import Derived.Test.YtdndoefjknnbhaaWaits
import Derived.Test.YtdndoefjknnbhaaBad
namespace Go.Proofs.Ytdndoefjknnbhaa
open Go.RowKit

/-- An end that hands back a slice of numbers in new memory, or nil, and no error. -/
def IntsOk (P : List Int → Prop) (w0 : World) (e : Ending) (w' : World) : Prop :=
  ∃ (l : List Int) (A : Option Addr) (c : Nat), P l ∧ e = .returned (.tuple #[.slice A l.length c, .int .i64 0]) ∧ w'.ownsRow w0.heap.size 3 1 (.slice A l.length c) l.length (l.map (Value.int .i64)) ∧ Below w0.heap.size w0 w'

theorem good_of_bad {l : List (Int × Int)} (h : badB l = false) : Good l ∧ l.length ≤ 256 := by
  simp only [badB, Bool.or_eq_false_iff, decide_eq_false_iff_not] at h
  exact ⟨good_of_any h.2, by omega⟩

theorem PairsAt.later {w w' : World} {A : Option Addr} {l : List (Int × Int)} (h : PairsAt w w.heap.size A l) (hb : Below w.heap.size w w') : PairsAt w' w'.heap.size A l := (h.below hb).more hb.size
theorem IntsAt.later {w w' : World} {A : Option Addr} {l : List Int} (h : IntsAt w w.heap.size A l) (hb : Below w.heap.size w w') : IntsAt w' w'.heap.size A l := (h.below hb).more hb.size

set_option maxHeartbeats 400000 in
theorem Caught_bad (A : Option Addr) (l : List (Int × Int)) (cap : Nat) (w : World) (hn : l.length ≤ 140737488351232) (hr : PairsAt w w.heap.size A l) (hbad : badB l = true) :
    Calls Try.prog 15 #[.slice A l.length cap] w fun e w' => e = .returned (.tuple #[.slice none 0 0, .int .i64 1]) ∧ Below w.heap.size w w' := by
  have Hbad := Lib.hid hbad; have Hr := Lib.hid hr; clear hbad hr
  go_enter Try.func15, Try.ntmps15
  go_wp2_with fail
  refine (bad_any A l cap w hn Hr.out).mono ?_; rintro e w1 ⟨rfl, hb1⟩
  rw [Hbad.out]
  go_wp2_with fail
  go_ret2
  exact ⟨rfl, hb1⟩

set_option maxHeartbeats 400000 in
theorem Caught_good (A : Option Addr) (l : List (Int × Int)) (cap : Nat) (w : World) (hn : l.length ≤ 140737488351232) (hr : PairsAt w w.heap.size A l) (hbad : badB l = false) :
    Calls Try.prog 15 #[.slice A l.length cap] w (IntsOk (· = caughtL l) w) := by
  have hg := (good_of_bad hbad).1
  have Hbad := Lib.hid hbad; have Hr := Lib.hid hr; have Hg := Lib.hid hg; clear hbad hr hg
  go_enter Try.func15, Try.ntmps15
  go_wp2_with fail
  refine (bad_any A l cap w hn Hr.out).mono ?_; rintro e w1 ⟨rfl, hb1⟩
  rw [Hbad.out]
  go_wp2_with fail
  refine (waits_any A l cap w1 hn (Hr.out.later hb1) Hg.out).mono ?_; rintro e w2 ⟨rfl, hb2⟩
  go_wp2_with fail
  refine (caught_any (rowOf l) w2 (rowOf_lt l Hg.out)).mono ?_; rintro e w3 ⟨L, A', c', hL, rfl, hown, hb3⟩
  have HL := Lib.hid hL; clear hL
  have hb2' := hb1.trans (hb2.mono hb1.size)
  have hb := hb2'.trans (hb3.mono hb2'.size)
  have Hown := Lib.hid hown; clear hown
  go_wp2_with fail
  go_ret2
  refine ⟨L, A', c', by rw [HL.out, selfs_caught l Hg.out], rfl, ?_, hb⟩
  obtain ⟨h1, h2⟩ := Hown.out
  refine ⟨h1, ?_⟩
  rcases h2 with h2 | ⟨g, cp, cur, hv, hg, r⟩
  · exact .inl h2
  · exact .inr ⟨g, cp, cur, hv, Nat.le_trans hb2'.size hg, r⟩

set_option maxHeartbeats 400000 in
theorem Victim_bad (A : Option Addr) (l : List (Int × Int)) (cap : Nat) (Ab : Option Addr) (born : List Int) (cb : Nat) (w : World) (hn : l.length ≤ 140737488351232) (hr : PairsAt w w.heap.size A l) (hbad : badB l = true) :
    Calls Try.prog 7 #[.slice A l.length cap, .slice Ab born.length cb] w fun e w' => e = .returned (.tuple #[.int .i64 0, .bool false, .int .i64 1]) ∧ Below w.heap.size w w' := by
  have Hbad := Lib.hid hbad; have Hr := Lib.hid hr; clear hbad hr
  go_enter Try.func7, Try.ntmps7
  go_wp2_with fail
  refine (bad_any A l cap w hn Hr.out).mono ?_; rintro e w1 ⟨rfl, hb1⟩
  rw [Hbad.out]
  go_wp2_with fail
  go_ret3
  exact ⟨rfl, hb1⟩

set_option maxHeartbeats 400000 in
theorem Victim_good (A : Option Addr) (l : List (Int × Int)) (cap : Nat) (Ab : Option Addr) (born : List Int) (cb : Nat) (w : World) (hn : l.length ≤ 140737488351232) (hr : PairsAt w w.heap.size A l) (hb : IntsAt w w.heap.size Ab born) (hbad : badB l = false) :
    Calls Try.prog 7 #[.slice A l.length cap, .slice Ab born.length cb] w fun e w' => e = .returned (.tuple #[.int .i64 (vicL born (caughtL l)), .bool (decide (0 < vicL born (caughtL l))), .int .i64 0]) ∧ Below w.heap.size w w' := by
  have hg := (good_of_bad hbad).1
  have Hbad := Lib.hid hbad; have Hr := Lib.hid hr; have Hg := Lib.hid hg; have Hb := Lib.hid hb; clear hbad hr hg hb
  go_enter Try.func7, Try.ntmps7
  go_wp2_with fail
  refine (bad_any A l cap w hn Hr.out).mono ?_; rintro e w1 ⟨rfl, hb1⟩
  rw [Hbad.out]
  go_wp2_with fail
  refine (waits_any A l cap w1 hn (Hr.out.later hb1) Hg.out).mono ?_; rintro e w2 ⟨rfl, hb2⟩
  have hb2' := hb1.trans (hb2.mono hb1.size)
  go_wp2_with fail
  refine (victim_any (rowOf l) Ab born cb w2 (rowOf_lt l Hg.out) (Hb.out.later hb2')).mono ?_; rintro e w3 ⟨rfl, hb3⟩
  have hb := hb2'.trans (hb3.mono hb2'.size)
  rw [selfs_caught l Hg.out]
  obtain ⟨V, hV⟩ : ∃ V, V = vicL born (caughtL l) := ⟨_, rfl⟩
  rw [← hV]
  have HV := Lib.hid hV; clear hV
  go_wp2_with fail
  go_ret3
  exact ⟨by rw [← HV.out]; rfl, hb⟩

end Go.Proofs.Ytdndoefjknnbhaa
