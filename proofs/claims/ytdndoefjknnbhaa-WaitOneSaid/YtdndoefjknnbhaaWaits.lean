/-
  The walk of waits (function 19): edges as rows of bits. Conditions: each edge is one, fewer than 2^47 edges.
-/
import Derived.Test.YtdndoefjknnbhaaArr
namespace Go.Proofs.Ytdndoefjknnbhaa
open Go.RowKit

set_option maxHeartbeats 400000 in
theorem waits_any (A : Option Addr) (l : List (Int × Int)) (cap : Nat) (w : World) (hn : l.length ≤ 140737488351232) (hr : PairsAt w w.heap.size A l) (hg : ∀ p ∈ l, goodP p) :
    Calls Try.prog 19 #[.slice A l.length cap] w fun e w' => e = .returned (.agg (arr (rowV (rowOf l)))) ∧ Below w.heap.size w w' := by
  go_enter Try.func19, Try.ntmps19
  go_wp2_with fail
  go_loopw [8] (fun i wr => ∃ k : Nat, k ≤ l.length ∧ i = .int .i64 k ∧ wr.rowIs w.heap.size 45 17 (rowV fun _ => 0) ∧ wr.rowIs (w.heap.size + 1) 45 17 (rowV (rowOf (l.take k))) ∧ Below w.heap.size w wr) (fun i _ => l.length - (intOf i).toNat)
  case atStart =>
    refine ⟨0, Nat.zero_le _, rfl, (rowIs_lit w 45 _).alloc _, ?_, ((Below.refl _ _).alloc (Nat.le_refl _) _).alloc (by simp) _⟩
    refine World.rowIs.congr (f := fun _ => .int .u32 0) ?_ (fun i _ => by simp [rowV, rowOf])
    simpa using rowIs_lit (w.alloc (.cells #[.int .u32 0, .int .u32 0, .int .u32 0, .int .u32 0, .int .u32 0, .int .u32 0, .int .u32 0, .int .u32 0, .int .u32 0, .int .u32 0, .int .u32 0, .int .u32 0, .int .u32 0, .int .u32 0, .int .u32 0, .int .u32 0, .int .u32 0] 45)) 45 (.int .u32 0)
  case round =>
    obtain ⟨k, hk, rfl, hr0, hr1, hbl⟩ := hrel
    by_cases hlt : k < l.length
    · obtain ⟨p, hp⟩ : ∃ p, l[k]? = some p := ⟨l[k], List.getElem?_eq_getElem hlt⟩
      obtain ⟨b, off, rfl, hb, hc1, hc2⟩ := hr.below hbl k p hp
      obtain ⟨g1, g2, g3, g4⟩ := hg p (List.mem_of_getElem? hp)
      obtain ⟨x, hx⟩ : ∃ x : Nat, p.1 = x := ⟨p.1.toNat, by omega⟩
      obtain ⟨y, hy⟩ : ∃ y : Nat, p.2 = y := ⟨p.2.toNat, by omega⟩
      rw [hx] at hc1 g1 g2; rw [hy] at hc2 g3 g4
      have hz := hr1.lt
      have hcx := hr1.cell (i := x) (by omega)
      have hfx := hr1.frozen x
      simp only [rowV] at hcx
      have hx1 : x < 17 := by omega
      have Hx := Lib.hid hx; have Hy := Lib.hid hy; have Hp := Lib.hid hp; have Hg := Lib.hid hg; have Hr0 := Lib.hid hr0; have Hr1 := Lib.hid hr1
      clear hx hy hp hr hg hr0 hr1
      obtain ⟨F, hF⟩ : ∃ F, F = rowOf (l.take k) x := ⟨_, rfl⟩
      rw [← hF] at hcx
      have HF := Lib.hid hF; clear hF
      go_wp2_with fail
      go_region
      go_wp2
      go_roundw
      case rel =>
        refine ⟨k + 1, by omega, by go_num, ((Hr0.out.setOther (by simp) _).alloc _).drew, ?_, ?_⟩
        · rw [or_bit F y (by rw [HF.out]; exact rowOf_lt _ (fun q hq => Hg.out q (List.mem_of_mem_take hq)) _) (by omega)]
          refine (((Hr1.out.set x _).alloc _).drew).congr fun i hi => ?_
          simp only [rowV, rowOf_take l k p Hp.out, Hx.out, Hy.out, Int.toNat_natCast]
          by_cases e : i = x
          · subst e; simp [HF.out]
          · rw [if_neg e, if_neg (by omega)]
        · exact ((hbl.setCell (by simp) _).alloc (by simp; omega) _).drew
      case measure => simp [intOf]; omega
    · have Hr0 := Lib.hid hr0; have Hr1 := Lib.hid hr1; have Hh0 := Lib.hid (rowIs_heap hr0); have Hh1 := Lib.hid (rowIs_heap hr1); have Hr := Lib.hid hr; have Hg := Lib.hid hg
      clear hr0 hr1 hr hg
      go_wp2_with (first
        | (refine wpList_load_row rfl 45 (.tmp 3) rfl (w.heap.size + 1) rfl 45 _ (0, 0) _ Hh1.out Try.underlying45 rfl (by kernel_rfl) ?_)
        | (refine wpList_store_row rfl 45 (.tmp 2) (.tmp 22) rfl w.heap.size _ rfl rfl 45 _ Hh0.out (by kernel_rfl) (by rw [size_arr, size_arr]) (arr_one _ fun i => rfl) ?_))
      have et : l.take k = l := List.take_of_length_le (by omega)
      rw [et]
      refine bodyPost_ret (results_cell_row rfl _ _ w.heap.size 45 (arr (rowV (rowOf l))) (0, 0) _ rfl (setRow_heap _ _ _ _ _ _ Hh0.out) Try.underlying45 rfl (by kernel_rfl)) rfl ⟨rfl, below_setRow' hbl (Nat.le_refl _) _⟩

end Go.Proofs.Ytdndoefjknnbhaa
