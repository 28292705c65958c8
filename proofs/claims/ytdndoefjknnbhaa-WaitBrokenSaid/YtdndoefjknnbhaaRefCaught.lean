/-
  The walk of the reference's Caught (function 20): the sessions that lead to themselves, rising. Conditions: each edge is one.
-/
import Derived.Test.YtdndoefjknnbhaaLeads
import Derived.Test.YtdndoefjknnbhaaTell
namespace Go.Proofs.Ytdndoefjknnbhaa
open Go.RowKit

open Classical in
/-- The sessions below n that lead to themselves. -/
noncomputable def caughtTo (l : List (Int × Int)) (n : Nat) : List Int := (List.filter (fun s : Nat => decide (0 < s ∧ Leads l s s)) (List.range n)).map fun s : Nat => (s : Int)
theorem caughtTo_all (l : List (Int × Int)) : caughtTo l 17 = caughtL l := rfl
open Classical in
theorem caughtTo_yes (l : List (Int × Int)) (n : Nat) (h0 : 0 < n) (h : leadsB l n n = true) : caughtTo l (n + 1) = caughtTo l n ++ [(n : Int)] := by
  have h' : Leads l n n := by unfold leadsB at h; exact of_decide_eq_true h
  simp [caughtTo, List.range_succ, List.filter_append, h0, h']
open Classical in
theorem caughtTo_no (l : List (Int × Int)) (n : Nat) (h : leadsB l n n = false) : caughtTo l (n + 1) = caughtTo l n := by
  have h' : ¬ Leads l n n := by unfold leadsB at h; exact of_decide_eq_false h
  simp [caughtTo, List.range_succ, List.filter_append, h']
open Classical in
theorem caughtTo_one (l : List (Int × Int)) : caughtTo l 1 = [] := by
  simp [caughtTo]
open Classical in
theorem caughtTo_len (l : List (Int × Int)) (n : Nat) : (caughtTo l n).length ≤ n := by
  unfold caughtTo
  rw [List.length_map]
  exact Nat.le_trans (List.length_filter_le _ _) (by simp)

set_option maxHeartbeats 400000 in
theorem refCaught_any (A : Option Addr) (l : List (Int × Int)) (cap : Nat) (w : World) (hn : l.length ≤ 140737488351232) (hr : PairsAt w w.heap.size A l) (hg : Good l) :
    Calls Try.prog 20 #[.slice A l.length cap] w (SomeInts (· = caughtL l) w) := by
  obtain ⟨i0, hi, hz0, hz1, hz2⟩ := info_parts Try.info3
  have Hz0 := Lib.hid hz0; have Hz1 := Lib.hid hz1; have Hz2 := Lib.hid hz2; have Hi := Lib.hid hi
  clear hz0 hz1 hz2 hi
  have Hr := Lib.hid hr; have Hg := Lib.hid hg; clear hr hg
  go_enter Try.func20, Try.ntmps20
  go_wp2_with fail
  go_loopw [3, 4] (fun v i wr => ∃ k : Nat, 1 ≤ k ∧ k ≤ 17 ∧ i = .int .i64 k ∧ wr.ownsRow w.heap.size 3 1 v (caughtTo l k).length ((caughtTo l k).map (Value.int .i64)) ∧ Below w.heap.size w wr) (fun _ i _ => 17 - (intOf i).toNat)
  case atStart => exact ⟨1, by omega, by omega, rfl, by rw [caughtTo_one]; exact World.ownsRow_nil _ _ _ _, Below.refl _ _⟩
  case round =>
    obtain ⟨k, hk1, hk, rfl, hown, hbl⟩ := hrel
    have Hown := Lib.hid hown; clear hown
    by_cases hlt : k < 17
    · go_wp2_with fail
      refine (leads_any A l cap k wr hn (Hr.out.later hbl) Hg.out).mono ?_; rintro e w1 ⟨rfl, hb1⟩
      have hix := fun W => run_index_arr Try.underlying55 (fun _ => by kernel_rfl) (fun _ => by kernel_rfl) (boolV (leadsB l k)) k hlt W
      have hb2 := hbl.trans (hb1.mono hbl.size)
      have hown1 := own_below Hown.out hb1
      simp only [boolV] at hix
      have hl := Lib.hid (caughtTo_len l k)
      clear Hown hb1
      cases hq : leadsB l k k
      · rw [hq] at hix
        have Hown1 := Lib.hid hown1; have Hq := Lib.hid hq; clear hown1 hq
        go_wp2_with fail
        go_roundw
        case rel => exact ⟨k + 1, by omega, by omega, by go_num, by rw [caughtTo_no l k Hq.out]; exact Hown1.out, hb2⟩
        case measure => simp [intOf]; omega
      · rw [hq] at hix
        have Hq := Lib.hid hq; clear hq
        go_wp2_with (first
            | (at_builtin; refine wpList_append_own _ rfl (.tmp 14) (.tmp 16) 23 rfl w.heap.size 3 i0 (.int .i64 0) 1 8 Try.underlying23 Hi.out Hz0.out Hz1.out Hz2.out rfl (by decide) _ _ _ rfl (hown1.alloc _) ⟨w1.heap.size, 0, none⟩ 1 1 [.int .i64 (k : Int)] rfl rfl ?c1 ?c2 ?c3 ?c4 ?c5 ?_))
        case c1 =>
          intro j u hj
          match j, hj with
          | 0, hj => simp at hj; subst hj; simp [Addr.add]
        case c2 => intro u hu; simp at hu; subst hu; rfl
        case c3 => have := hl.out; unfold maxLen; omega
        case c4 => have := hl.out; omega
        case c5 => have := hb2.size; simp; omega
        intro v' w' hown' hgrow _
        have hbl' := (hb2.alloc hb2.size (.cells #[.int .i64 (k : Int)] 3)).grown hgrow (by have := hb2.size; simp; omega) (own_block hown1)
        have Hown' := Lib.hid hown'; clear hown' hown1 hgrow
        go_wp2_with fail
        go_roundw
        case rel => exact ⟨k + 1, by omega, by omega, by go_num, by rw [caughtTo_yes l k (by omega) Hq.out]; simpa using Hown'.out, hbl'⟩
        case measure => simp [intOf]; omega
    · obtain rfl : k = 17 := by omega
      obtain ⟨A', c', rfl⟩ := own_form Hown.out
      go_wp2_with fail
      go_ret
      exact ⟨caughtTo l 17, A', c', caughtTo_all l, rfl, Hown.out, hbl⟩

end Go.Proofs.Ytdndoefjknnbhaa
