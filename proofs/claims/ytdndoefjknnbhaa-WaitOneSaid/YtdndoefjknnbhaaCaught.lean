/-
  The walk of caught (function 25): the sessions whose own bit stands in the closed rows. Conditions: the rows hold bits below 17.
-/
import Derived.Test.YtdndoefjknnbhaaClosed
namespace Go.Proofs.Ytdndoefjknnbhaa
open Go.RowKit

theorem run_index_arr {T E : Nat} (hT : Try.prog.underlying T = some (.array 17 E)) (hs : ∀ w, (sizeOf E).run Try.prog w = .ok 1 w) (ha : ∀ w, (isAgg E).run Try.prog w = .ok false w)
    (F : Nat → Value) (i : Nat) (hi : i < 17) (w : World) : (Instr.index T (.agg (arr F)) (.int .i64 (i : Int))).run Try.prog w = .ok (F i) w := by
  have hp : (part E (arr F) i).run Try.prog w = .ok (F i) w := by
    simp [part, ha, arr_at F i hi]
  simp [Instr.index, asIntOf, run_underlying hT, hs, hi, hp]

/-- The sessions from 1 to n - 1 whose own bit stands. -/
def selfs (f : Nat → Nat) (n : Nat) : List Int := (List.filter (fun s : Nat => decide (0 < s) && (f s).testBit s) (List.range n)).map fun s : Nat => (s : Int)
theorem selfs_yes (f : Nat → Nat) (n : Nat) (h0 : 0 < n) (h : (f n).testBit n = true) : selfs f (n + 1) = selfs f n ++ [(n : Int)] := by
  simp [selfs, List.range_succ, List.filter_append, h0, h]
theorem selfs_no (f : Nat → Nat) (n : Nat) (h : (f n).testBit n = false) : selfs f (n + 1) = selfs f n := by
  simp [selfs, List.range_succ, List.filter_append, h]
theorem selfs_zero (f : Nat → Nat) : selfs f 1 = [] := by
  simp [selfs, List.range_succ]
theorem selfs_same (f : Nat → Nat) (n : Nat) (h : n = 0) : selfs f (n + 1) = selfs f n := by
  subst h
  rw [selfs_zero]
  simp [selfs]
theorem selfs_len (f : Nat → Nat) (n : Nat) : (selfs f n).length ≤ n := by
  unfold selfs
  rw [List.length_map]
  exact Nat.le_trans (List.length_filter_le _ _) (by simp)

theorem own_form {w : World} {base : Nat} {e : TypeId} {size : Nat} {v : Value} {n : Nat} {xs : List Value} (h : w.ownsRow base e size v n xs) : ∃ A c, v = .slice A n c := by
  rcases h.2 with ⟨rfl, rfl⟩ | ⟨g, cap, cur, rfl, _⟩
  · exact ⟨_, _, rfl⟩
  · exact ⟨_, _, rfl⟩

theorem own_block {w : World} {base : Nat} {e : TypeId} {size : Nat} {v : Value} {n : Nat} {xs : List Value} (h : w.ownsRow base e size v n xs) : ∀ k, v.ownBlock = some k → base ≤ k := fun k hk => (h.lt k hk).1

set_option maxHeartbeats 400000 in
theorem caught_any (f : Nat → Nat) (w : World) (hf : ∀ j, f j < 2 ^ 17) :
    Calls Try.prog 25 #[.agg (arr (rowV f))] w (SomeInts (· = selfs (wcl f 16) 17) w) := by
  obtain ⟨i0, hi, hz0, hz1, hz2⟩ := info_parts Try.info3
  have Hz0 := Lib.hid hz0; have Hz1 := Lib.hid hz1; have Hz2 := Lib.hid hz2; have Hi := Lib.hid hi
  clear hz0 hz1 hz2 hi
  have Hf := Lib.hid hf; clear hf
  have Hh1 := Lib.hid (rowIs_heap (rowIs_arr w 45 (rowV f)))
  obtain ⟨G, hG⟩ : ∃ G, G = wcl f 16 := ⟨_, rfl⟩
  have HGl : Hid (∀ j, G j < 2 ^ 17) := Lib.hid (by rw [hG]; exact wcl_lt f Hf.out 16)
  have HG := Lib.hid hG; clear hG
  go_enter Try.func25, Try.ntmps25
  go_wp2_with (first
        | (refine wpList_load_row rfl 45 (.tmp 1) rfl w.heap.size rfl 45 _ (0, 0) _ Hh1.out Try.underlying45 rfl (by kernel_rfl) ?_)
        | (go_at_call 29; refine (closed_any f _ Hf.out).mono ?_; rintro e w1 ⟨rfl, hb1⟩))
  rw [← HG.out]
  have hb : Below w.heap.size w w1 := ((Below.refl _ _).alloc (Nat.le_refl _) _).trans (hb1.mono (by simp))
  clear hb1
  go_loopw [3, 8] (fun v i wr => ∃ k : Nat, k ≤ 17 ∧ i = .int .i64 k ∧ wr.ownsRow w.heap.size 3 1 v (selfs G k).length ((selfs G k).map (Value.int .i64)) ∧ Below w.heap.size w wr) (fun _ i _ => 17 - (intOf i).toNat)
  case atStart => exact ⟨0, by omega, rfl, World.ownsRow_nil _ _ _ _, hb⟩
  case round =>
    obtain ⟨k, hk, rfl, hown, hbl⟩ := hrel
    by_cases hlt : k < 17
    · have hix := fun W => run_index_arr Try.underlying45 (fun _ => by kernel_rfl) (fun _ => by kernel_rfl) (rowV G) k hlt W
      simp only [rowV] at hix
      have hl := selfs_len G k
      have Hl := Lib.hid hl; clear hl
      cases ht : (G k).testBit k
      · have hbt := bit_test (G k) k (HGl.out k)
        rw [ht] at hbt
        have Ht := Lib.hid ht; have Hown := Lib.hid hown; clear ht hown
        go_wp2_with fail
        go_roundw
        case rel => exact ⟨k + 1, by omega, by go_num, by rw [selfs_no G k Ht.out]; exact Hown.out, hbl⟩
        case measure => simp [intOf]; omega
      · have hbt := bit_test (G k) k (HGl.out k)
        rw [ht] at hbt
        have Ht := Lib.hid ht; clear ht
        by_cases h0 : 0 < k
        · go_wp2_with (first
            | (at_builtin; refine wpList_append_own _ rfl (.tmp 21) (.tmp 23) 23 rfl w.heap.size 3 i0 (.int .i64 0) 1 8 Try.underlying23 Hi.out Hz0.out Hz1.out Hz2.out rfl (by decide) _ _ _ rfl (hown.alloc _) ⟨wr.heap.size, 0, none⟩ 1 1 [.int .i64 (k : Int)] rfl rfl ?c1 ?c2 ?c3 ?c4 ?c5 ?_))
          case c1 =>
            intro j u hj
            match j, hj with
            | 0, hj => simp at hj; subst hj; simp [Addr.add]
          case c2 => intro u hu; simp at hu; subst hu; rfl
          case c3 => have := Hl.out; unfold maxLen; omega
          case c4 => have := Hl.out; omega
          case c5 => have := hbl.size; simp; omega
          intro v' w' hown' hgrow _
          have hbl' := (hbl.alloc hbl.size (.cells #[.int .i64 (k : Int)] 3)).grown hgrow (by have := hbl.size; simp; omega) (own_block hown)
          have Hown' := Lib.hid hown'; clear hown' hown hgrow
          go_wp2_with fail
          go_roundw
          case rel => exact ⟨k + 1, by omega, by go_num, by rw [selfs_yes G k h0 Ht.out]; simpa using Hown'.out, hbl'⟩
          case measure => simp [intOf]; omega
        · have Hown := Lib.hid hown; clear hown
          have hk0 : decide (0 < (k : Int)) = false := by simp; omega
          go_wp2_with fail
          go_roundw
          case rel => exact ⟨k + 1, by omega, by go_num, by rw [selfs_same G k (by omega)]; exact Hown.out, hbl⟩
          case measure => simp [intOf]; omega
    · obtain rfl : k = 17 := by omega
      obtain ⟨A, c, rfl⟩ := own_form hown
      have Hown := Lib.hid hown; clear hown
      go_wp2_with fail
      go_ret
      exact ⟨selfs G 17, A, c, by rw [HG.out], rfl, Hown.out, hbl⟩
end Go.Proofs.Ytdndoefjknnbhaa
