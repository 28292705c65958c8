/-
  The walk of closed (function 29): rows with whatever is reached over several. Conditions: the rows hold bits below 17.
-/
import Derived.Test.YtdndoefjknnbhaaArr
namespace Go.Proofs.Ytdndoefjknnbhaa
open Go.RowKit

def wstep (f : Nat → Nat) (k i : Nat) : Nat → Nat := fun j => if 1 ≤ j ∧ j < i ∧ (f j).testBit k = true then f j ||| f k else f j
def wcl (f : Nat → Nat) : Nat → Nat → Nat
  | 0 => f
  | n + 1 => wstep (wcl f n) (n + 1) 17

theorem wstep_lt (f : Nat → Nat) (h : ∀ j, f j < 2 ^ 17) (k i j : Nat) : wstep f k i j < 2 ^ 17 := by
  unfold wstep
  split
  · exact Nat.or_lt_two_pow (h _) (h _)
  · exact h _
theorem wcl_lt (f : Nat → Nat) (h : ∀ j, f j < 2 ^ 17) (n : Nat) : ∀ j, wcl f n j < 2 ^ 17 := by
  induction n with
  | zero => exact h
  | succ n ih => exact fun j => wstep_lt _ ih _ _ _
theorem wstep_self (f : Nat → Nat) (k i : Nat) : wstep f k i k = f k := by
  unfold wstep
  split
  · exact Nat.or_self _
  · rfl

theorem wstep_at (f : Nat → Nat) (k i : Nat) : wstep f k i i = f i := by
  unfold wstep
  rw [if_neg (by omega)]
theorem wstep_one (f : Nat → Nat) (k : Nat) : wstep f k 1 = f := by
  funext j
  unfold wstep
  rw [if_neg (by omega)]
theorem wstep_yes (f : Nat → Nat) (k i : Nat) (h1 : 1 ≤ i) (h : (f i).testBit k = true) (j : Nat) : wstep f k (i + 1) j = if j = i then f i ||| f k else wstep f k i j := by
  unfold wstep
  by_cases e : j = i
  · subst e; rw [if_pos ⟨h1, by omega, h⟩, if_pos rfl]
  · rw [if_neg e]
    by_cases hc : 1 ≤ j ∧ j < i ∧ (f j).testBit k = true
    · rw [if_pos hc, if_pos ⟨hc.1, by omega, hc.2.2⟩]
    · rw [if_neg hc, if_neg (fun h => hc ⟨h.1, by omega, h.2.2⟩)]
theorem wstep_no (f : Nat → Nat) (k i : Nat) (h : (f i).testBit k = false) : wstep f k (i + 1) = wstep f k i := by
  funext j
  unfold wstep
  by_cases hc : 1 ≤ j ∧ j < i ∧ (f j).testBit k = true
  · rw [if_pos hc, if_pos ⟨hc.1, by omega, hc.2.2⟩]
  · rw [if_neg hc, if_neg]
    rintro ⟨a, b, c⟩
    by_cases e : j = i
    · subst e; rw [h] at c; cases c
    · exact hc ⟨a, by omega, c⟩

/-- The test of a bit, as the walk writes it. -/
theorem bit_test (F k : Nat) (hF : F < 2 ^ 17) : (bits .and .u32 ((F : Int) / 2 ^ k) 1 == 1) = F.testBit k := by
  have e : ((F : Int) / 2 ^ k) = ((F / 2 ^ k : Nat) : Int) := by simp
  have hd : F / 2 ^ k ≤ F := Nat.div_le_self _ _
  have h1 : bits .and .u32 ((F / 2 ^ k : Nat) : Int) ((1 : Nat) : Int) = ((F / 2 ^ k &&& 1 : Nat) : Int) := u32_and_nat _ _ (by omega) (by omega)
  rw [e, show (1 : Int) = ((1 : Nat) : Int) from rfl, h1, nat_mask1, Nat.testBit_eq_decide_div_mod_eq]
  rw [Bool.eq_iff_iff, beq_iff_eq, decide_eq_true_iff]
  omega
theorem or_rows (F G : Nat) (hF : F < 2 ^ 17) (hG : G < 2 ^ 17) : bits .or .u32 (F : Int) (G : Int) = ((F ||| G : Nat) : Int) := u32_or_nat F G (by omega) (by omega)

set_option maxHeartbeats 400000 in
theorem closed_any (f : Nat → Nat) (w : World) (hf : ∀ j, f j < 2 ^ 17) :
    Calls Try.prog 29 #[.agg (arr (rowV f))] w fun e w' => e = .returned (.agg (arr (rowV (wcl f 16)))) ∧ Below w.heap.size w w' := by
  have Hf := Lib.hid hf; clear hf
  go_enter Try.func29, Try.ntmps29
  go_wp2_with fail
  go_loopw [3] (fun i wr => ∃ n : Nat, n ≤ 16 ∧ i = .int .i64 ((n : Int) + 1) ∧ wr.rowIs w.heap.size 45 17 (rowV (wcl f n)) ∧ wr.rowIs (w.heap.size + 1) 45 17 (fun _ => .int .u32 0) ∧ Below w.heap.size w wr) (fun i _ => 17 - (intOf i).toNat)
  case atStart =>
    refine ⟨0, Nat.zero_le _, rfl, (rowIs_arr w 45 _).alloc _, ?_, ((Below.refl _ _).alloc (Nat.le_refl _) _).alloc (by simp) _⟩
    simpa using rowIs_lit (w.alloc (.cells (arr (rowV f)) 45)) 45 (.int .u32 0)
  case round =>
    obtain ⟨n, hn, rfl, hr0, hr1, hbl⟩ := hrel
    by_cases hlt : n < 16
    · have Hr0 := Lib.hid hr0; have Hr1 := Lib.hid hr1
      clear hr0 hr1
      go_wp2_with fail
      obtain ⟨wo, rfl⟩ : ∃ wo : World, wo = wr := ⟨_, rfl⟩
      go_loopw [4] (fun i wr => ∃ m : Nat, 1 ≤ m ∧ m ≤ 17 ∧ i = .int .i64 (m : Int) ∧ wr.rowIs w.heap.size 45 17 (rowV (wstep (wcl f n) (n + 1) m)) ∧ wr.rowIs (w.heap.size + 1) 45 17 (fun _ => .int .u32 0) ∧ Below w.heap.size w wr) (fun i _ => 17 - (intOf i).toNat)
      case atStart => exact ⟨1, by omega, by omega, rfl, by rw [wstep_one]; exact Hr0.out, Hr1.out, hbl⟩
      case round =>
        obtain ⟨m, hm1, hm2, rfl, hi0, hi1, hbi⟩ := hrel
        by_cases hmt : m < 17
        · have hz := hi1.lt
          have hcm := hi0.cell (i := m) (by omega)
          have hck := hi0.cell (i := n + 1) (by omega)
          have hfm := hi0.frozen m
          simp only [rowV, wstep_self, wstep_at] at hcm hck
          obtain ⟨F, hF⟩ : ∃ F, F = wcl f n m := ⟨_, rfl⟩
          obtain ⟨G, hG⟩ : ∃ G, G = wcl f n (n + 1) := ⟨_, rfl⟩
          rw [← hF] at hcm
          rw [← hG] at hck
          have HFl : Hid (F < 2 ^ 17) := Lib.hid (by rw [hF]; exact wcl_lt f Hf.out n m)
          have HGl : Hid (G < 2 ^ 17) := Lib.hid (by rw [hG]; exact wcl_lt f Hf.out n _)
          have HF := Lib.hid hF; have HG := Lib.hid hG; have Hi0 := Lib.hid hi0; have Hi1 := Lib.hid hi1
          clear hF hG hi0 hi1
          go_wp2_with fail
          · have ht : (bits .and .u32 ((F : Int) / 2 ^ (n + 1)) 1 == 1) = true := by assumption
            rw [bit_test F (n + 1) HFl.out, HF.out] at ht
            have Ht := Lib.hid ht; clear ht
            go_region
            go_wp2_with fail
            go_roundw
            case rel =>
              refine ⟨m + 1, by omega, by omega, by go_num, ?_, (Hi1.out.setOther (by simp) _).drew, (hbi.setCell (Nat.le_refl _) _).drew⟩
              rw [or_rows F G HFl.out HGl.out, HF.out, HG.out]
              refine ((Hi0.out.set m _).drew).congr fun i hi => ?_
              show _ = Value.int .u32 ((wstep (wcl f n) (n + 1) (m + 1) i : Nat) : Int)
              rw [wstep_yes _ _ _ hm1 Ht.out]
              simp only [rowV]
              split
              · rfl
              · rfl
            case measure => simp [intOf]; omega
          · have ht : (bits .and .u32 ((F : Int) / 2 ^ (n + 1)) 1 == 1) = false := by assumption
            rw [bit_test F (n + 1) HFl.out, HF.out] at ht
            have Ht := Lib.hid ht; clear ht
            go_roundw
            case rel => exact ⟨m + 1, by omega, by omega, by go_num, by rw [wstep_no _ _ _ Ht.out]; exact Hi0.out, Hi1.out, hbi⟩
            case measure => simp [intOf]; omega
        · obtain rfl : m = 17 := by omega
          have Hi0 := Lib.hid hi0; have Hi1 := Lib.hid hi1
          clear hi0 hi1
          go_wp2_with fail
          go_roundw
          case rel => exact ⟨n + 1, by omega, by go_num, Hi0.out, Hi1.out, hbi⟩
          case measure => simp [intOf]; omega
    · obtain rfl : n = 16 := by omega
      have Hh0 := Lib.hid (rowIs_heap hr0); have Hh1 := Lib.hid (rowIs_heap hr1)
      clear hr0 hr1
      go_wp2_with (first
        | (refine wpList_load_row rfl 45 (.tmp 1) rfl w.heap.size rfl 45 _ (0, 0) _ Hh0.out Try.underlying45 rfl (by kernel_rfl) ?_)
        | (refine wpList_store_row rfl 45 (.tmp 2) (.tmp 28) rfl (w.heap.size + 1) _ rfl rfl 45 _ Hh1.out (by kernel_rfl) (by rw [size_arr, size_arr]) (arr_one _ fun i => rfl) ?_))
      refine bodyPost_ret (results_cell_row rfl _ _ (w.heap.size + 1) 45 (arr (rowV (wcl f 16))) (0, 0) _ rfl (setRow_heap _ _ _ _ _ _ Hh1.out) Try.underlying45 rfl (by kernel_rfl)) rfl ⟨rfl, below_setRow' hbl (by omega) _⟩

end Go.Proofs.Ytdndoefjknnbhaa
