/-
  The walk of Break (function 9): the victims, one after another, or the refusal. Conditions: fewer than 2^47 edges.
-/
import Derived.Test.YtdndoefjknnbhaaTell
import Derived.Test.YtdndoefjknnbhaaBreakP
import Derived.Deep.LoopGhost
namespace Go.Proofs.Ytdndoefjknnbhaa
open Go.RowKit

theorem own_ne_row {w : World} {base : Nat} {e : TypeId} {size : Nat} {v : Value} {n : Nat} {xs : List Value} {R : Nat} {t : TypeId} {F : Nat → Value} (h : w.ownsRow base e size v n xs) (hr : w.rowIs R t 17 F) (hne : e ≠ t) : v.ownBlock ≠ some R := by
  rcases h.2 with ⟨rfl, _⟩ | ⟨g, cap, cur, rfl, _, hh, _⟩
  · simp [Value.ownBlock]
  · intro he
    have : g = R := by simpa [Value.ownBlock] using he
    subst this
    rw [rowIs_heap hr] at hh
    injection hh with hh
    injection hh with _ ht
    exact hne ht.symm
theorem own_set {w : World} {base : Nat} {e : TypeId} {size : Nat} {v : Value} {n : Nat} {xs : List Value} {R : Nat} (h : w.ownsRow base e size v n xs) (hne : v.ownBlock ≠ some R) (i : Nat) (u : Value) : (w.setCell ⟨R, i, none⟩ u).ownsRow base e size v n xs :=
  h.kept (row := some R) ⟨rfl, rfl, rfl, by simp [World.setCell], fun k _ hk => Below.heap_setCell _ _ _ _ (fun e => hk (by rw [e]))⟩ (.inr hne)
theorem rowIs_grown {w w' : World} {R : Nat} {t : TypeId} {n : Nat} {F : Nat → Value} {row : Option Nat} (h : w.rowIs R t n F) (hg : w.grownBy w' row) (hne : row ≠ some R) : w'.rowIs R t n F :=
  h.of_block (hg.block R h.lt (fun e => hne e.symm))

theorem andNot_bit (F y : Nat) (hF : F < 2 ^ 17) (hy : y ≤ 16) : bits .andNot .u32 (F : Int) ((2 : Int) ^ y % 4294967296) = ((F &&& (4294967295 - 2 ^ y) : Nat) : Int) := by
  have h2 : 2 ^ y < 2 ^ 17 := Nat.pow_lt_pow_of_lt (by decide) (by omega)
  have e : (2 : Int) ^ y % 4294967296 = ((2 ^ y : Nat) : Int) := by
    have h3 : ((2 ^ y : Nat) : Int) = (2 : Int) ^ y := by simp
    rw [← h3]
    generalize 2 ^ y = z at h2
    omega
  rw [e, u32_andNot_nat F (2 ^ y) (by omega) (by omega)]

def cutF (g : Nat → Nat) (y s : Nat) : Nat → Nat := fun j => if j < s then g j &&& (4294967295 - 2 ^ y) else g j
def zeroAt (g : Nat → Nat) (y : Nat) : Nat → Nat := fun j => if j = y then 0 else g j
theorem cutF_all (l : List (Int × Int)) (hg : Good l) (y : Nat) (hy : y ≤ 16) (j : Nat) (hj : j < 17) : cutF (zeroAt (rowOf l) y) y 17 j = rowOf (without l y) j := by
  rw [rowOf_without l hg y j hy]
  unfold cutF zeroAt
  rw [if_pos hj]
  split
  · exact Nat.zero_and _
  · rfl
theorem cutF_at (g : Nat → Nat) (y s : Nat) : cutF g y s s = g s := by unfold cutF; rw [if_neg (by omega)]
theorem cutF_succ (g : Nat → Nat) (y s j : Nat) : cutF g y (s + 1) j = if j = s then g s &&& (4294967295 - 2 ^ y) else cutF g y s j := by
  unfold cutF
  by_cases e : j = s
  · subst e; rw [if_pos (by omega), if_pos rfl]
  · rw [if_neg e]
    by_cases h : j < s
    · rw [if_pos h, if_pos (by omega)]
    · rw [if_neg h, if_neg (by omega)]
theorem cutF_zero (g : Nat → Nat) (y : Nat) : cutF g y 0 = g := by funext j; unfold cutF; rw [if_neg (by omega)]
theorem zeroAt_lt (g : Nat → Nat) (y : Nat) (h : ∀ j, g j < 2 ^ 17) (j : Nat) : zeroAt g y j < 2 ^ 17 := by
  unfold zeroAt
  split
  · decide
  · exact h j

set_option maxHeartbeats 400000 in
theorem Break_bad (A : Option Addr) (l : List (Int × Int)) (cap : Nat) (Ab : Option Addr) (born : List Int) (cb : Nat) (w : World) (hn : l.length ≤ 140737488351232) (hr : PairsAt w w.heap.size A l) (hbad : badB l = true) :
    Calls Try.prog 9 #[.slice A l.length cap, .slice Ab born.length cb] w fun e w' => e = .returned (.tuple #[.slice none 0 0, .int .i64 1]) ∧ Below w.heap.size w w' := by
  have Hbad := Lib.hid hbad; have Hr := Lib.hid hr; clear hbad hr
  go_enter Try.func9, Try.ntmps9
  go_wp2_with fail
  refine (bad_any A l cap w hn Hr.out).mono ?_; rintro e w1 ⟨rfl, hb1⟩
  rw [Hbad.out]
  go_wp2_with fail
  go_ret2
  exact ⟨rfl, hb1⟩

set_option maxHeartbeats 400000 in
theorem Break_good (A : Option Addr) (l : List (Int × Int)) (cap : Nat) (Ab : Option Addr) (born : List Int) (cb : Nat) (w : World) (hn : l.length ≤ 140737488351232) (hr : PairsAt w w.heap.size A l) (hb : IntsAt w w.heap.size Ab born) (hbad : badB l = false) :
    Calls Try.prog 9 #[.slice A l.length cap, .slice Ab born.length cb] w (IntsOk (Breaks born l) w) := by
  obtain ⟨i0, hi, hz0, hz1, hz2⟩ := info_parts Try.info3
  have Hz0 := Lib.hid hz0; have Hz1 := Lib.hid hz1; have Hz2 := Lib.hid hz2; have Hi := Lib.hid hi
  clear hz0 hz1 hz2 hi
  have hl := (good_of_bad hbad).2
  have hg := (good_of_bad hbad).1
  have Hbad := Lib.hid hbad; have Hr := Lib.hid hr; have Hg := Lib.hid hg; have Hb := Lib.hid hb; clear hbad hr hg hb
  go_enter Try.func9, Try.ntmps9
  go_wp2_with fail
  refine (bad_any A l cap w hn Hr.out).mono ?_; rintro e w1 ⟨rfl, hb1⟩
  rw [Hbad.out]
  go_wp2_with fail
  refine (waits_any A l cap w1 hn (Hr.out.later hb1) Hg.out).mono ?_; rintro e w2 ⟨rfl, hb2⟩
  have hb2' := hb1.trans (hb2.mono hb1.size)
  have hhl := Lib.hid (heap_alloc_last w2 (.cells #[.int .u32 0, .int .u32 0, .int .u32 0, .int .u32 0, .int .u32 0, .int .u32 0, .int .u32 0, .int .u32 0, .int .u32 0, .int .u32 0, .int .u32 0, .int .u32 0, .int .u32 0, .int .u32 0, .int .u32 0, .int .u32 0, .int .u32 0] 45))
  have hws := hb2'.size
  clear hb1 hb2
  go_wp2_with (refine wpList_store_row rfl 45 (.tmp 6) (.tmp 13) rfl w2.heap.size _ rfl rfl 45 _ hhl.out (by kernel_rfl) (by rw [size_arr]; rfl) (arr_one _ fun i => rfl) ?_)
  rw [World.setRow_alloc_new]
  have hrow : (w2.alloc (.cells (arr (rowV (rowOf l))) 45)).rowIs w2.heap.size 45 17 (rowV (rowOf l)) := rowIs_arr _ _ _
  have hb3 : Below w.heap.size w (w2.alloc (.cells (arr (rowV (rowOf l))) 45)) := hb2'.alloc hws _
  obtain ⟨w3, hw3⟩ : ∃ w3, w3 = w2.alloc (.cells (arr (rowV (rowOf l))) 45) := ⟨_, rfl⟩
  rw [← hw3] at hrow hb3 ⊢
  clear hw3 hhl hb2'
  obtain ⟨R, hR⟩ : ∃ R, R = w2.heap.size := ⟨_, rfl⟩
  rw [← hR] at hrow hws ⊢
  clear hR
  have Hrow := Lib.hid hrow; clear hrow
  go_loopg [7] l.length (fun n v wr => ∃ (l' : List (Int × Int)) (out : List Int), n = l'.length ∧ Good l' ∧ l'.length + out.length ≤ l.length ∧ (∀ r, Breaks born l' r → Breaks born l (out ++ r)) ∧
      wr.ownsRow w.heap.size 3 1 v out.length (out.map (Value.int .i64)) ∧ wr.rowIs R 45 17 (rowV (rowOf l')) ∧ Below w.heap.size w wr)
  case atStart => exact ⟨l, [], rfl, Hg.out, by simp, fun r h => h, World.ownsRow_nil _ _ _ _, Hrow.out, hb3⟩
  case round =>
    obtain ⟨l', out, rfl, hg', hlen, hbr, hown, hrw, hbl⟩ := hrel
    clear Hrow hb3
    have Hg' := Lib.hid hg'; have Hbr := Lib.hid hbr; have Hown := Lib.hid hown; have Hrw := Lib.hid hrw; clear hg' hbr hown hrw
    have Hh := Lib.hid (rowIs_heap Hrw.out)
    go_wp2_with (refine wpList_load_row rfl 45 (.tmp 6) rfl R rfl 45 _ (0, 0) _ Hh.out Try.underlying45 rfl (by kernel_rfl) ?_)
    refine (victim_any (rowOf l') Ab born cb wr (rowOf_lt l' Hg'.out) (Hb.out.later hbl)).mono ?_; rintro e w4 ⟨rfl, hb4⟩
    rw [selfs_caught l' Hg'.out]
    obtain ⟨V, hV⟩ : ∃ V, V = vicL born (caughtL l') := ⟨_, rfl⟩
    rw [← hV]
    have HV := Lib.hid hV; clear hV
    have hb4' := hbl.trans (hb4.mono hbl.size)
    have Hown4 := Lib.hid (own_below Hown.out hb4)
    have Hrw4 := Lib.hid (rowIs_below Hrw.out hb4 Hrw.out.lt)
    clear Hown Hrw Hh hb4 hbl
    by_cases h0 : V = 0
    · have hres : Breaks born l out := by
        have := Hbr.out [] (.done (by rw [← HV.out]; exact h0))
        simpa using this
      have Hres := Lib.hid hres; clear hres
      obtain ⟨A', c', rfl⟩ := own_form Hown4.out
      go_wp2_with fail
      go_ret2
      exact ⟨out, A', c', Hres.out, rfl, Hown4.out, hb4'⟩
    · have hne : vicL born (caughtL l') ≠ 0 := by rw [← HV.out]; exact h0
      have hld := vicL_leads Hg'.out hne
      have hgd := hld.good Hg'.out
      rw [← HV.out] at hgd
      have hlt := without_lt hld.first
      rw [← HV.out] at hlt
      have hbr2 : ∀ r, Breaks born (without l' V) r → Breaks born l (out ++ [V] ++ r) := by
        intro r hr
        rw [HV.out] at hr ⊢
        have := Hbr.out _ (Breaks.next hne hr)
        simpa using this
      have Hbr2 := Lib.hid hbr2; have Hg2 := Lib.hid (good_without Hg'.out V)
      clear hbr2 hld hne h0 HV
      obtain ⟨y, rfl⟩ : ∃ y : Nat, V = y := ⟨V.toNat, by omega⟩
      obtain ⟨y1, y2, _, _⟩ := hgd
      have hy17 : y < 17 := by omega
      have hown4 := Hown4.out
      have hR4 := Hrw4.out.lt
      have hsz4 := hb4'.size
      go_wp2_with (first
            | (at_builtin; refine wpList_append_own _ rfl (.tmp 20) (.tmp 22) 23 rfl w.heap.size 3 i0 (.int .i64 0) 1 8 Try.underlying23 Hi.out Hz0.out Hz1.out Hz2.out rfl (by decide) _ _ _ rfl (hown4.alloc _) ⟨w4.heap.size, 0, none⟩ 1 1 [.int .i64 (y : Int)] rfl rfl ?c1 ?c2 ?c3 ?c4 ?c5 ?_))
      case c1 =>
        intro j u hj
        match j, hj with
        | 0, hj => simp at hj; subst hj; simp [Addr.add]
      case c2 => intro u hu; simp at hu; subst hu; rfl
      case c3 => unfold maxLen; omega
      case c4 => omega
      case c5 => simp; omega
      intro v' w5 hown5 hgrow _
      have hbl5 := (hb4'.alloc hsz4 (.cells #[.int .i64 (y : Int)] 3)).grown hgrow (by simp; omega) (own_block hown4)
      have hrw5 := rowIs_grown (Hrw4.out.alloc (.cells #[.int .i64 (y : Int)] 3)) hgrow (own_ne_row hown4 Hrw4.out (by decide))
      have hne5 := own_ne_row hown5 hrw5 (by decide)
      have hc5 := hrw5.cell (i := y) hy17
      have hf5 := hrw5.frozen y
      have hR5 := hrw5.lt
      simp only [rowV] at hc5
      have Hown5 := Lib.hid hown5; have Hrw5 := Lib.hid hrw5; have Hne5 := Lib.hid hne5
      clear hown5 hgrow hown4 Hown4 Hrw4 hrw5 hb4' hne5 hR4 hsz4
      go_wp2_with fail
      have hown6 := own_set Hown5.out Hne5.out y (.int .u32 0)
      have hrw6 : (w5.setCell ⟨R, y, none⟩ (.int .u32 0)).rowIs R 45 17 (rowV (zeroAt (rowOf l') y)) := (Hrw5.out.set y (.int .u32 0)).congr fun i _ => by
        unfold rowV zeroAt
        split
        · rfl
        · rfl
      have hb6 := hbl5.setCell (p := ⟨R, y, none⟩) hws (.int .u32 0)
      obtain ⟨w6, hw6⟩ : ∃ w6, w6 = w5.setCell ⟨R, y, none⟩ (.int .u32 0) := ⟨_, rfl⟩
      rw [← hw6] at hown6 hrw6 hb6 ⊢
      clear hw6 hc5 hf5 hR5 Hown5 Hrw5 hbl5
      have Hrw6 := Lib.hid hrw6; have Hown6 := Lib.hid hown6; clear hrw6 hown6
      have Hne5' := Hne5
      clear Hne5
      go_loopw [26] (fun i wr => ∃ s : Nat, s ≤ 17 ∧ i = .int .i64 s ∧ wr.ownsRow w.heap.size 3 1 v' (out.length + 1) (out.map (Value.int .i64) ++ [Value.int .i64 (y : Int)]) ∧
          wr.rowIs R 45 17 (rowV (cutF (zeroAt (rowOf l') y) y s)) ∧ Below w.heap.size w wr) (fun i _ => 17 - (intOf i).toNat)
      case atStart => exact ⟨0, by omega, rfl, Hown6.out, by rw [cutF_zero]; exact Hrw6.out, hb6⟩
      case round =>
        obtain ⟨s, hs, rfl, hown7, hrw7, hb7⟩ := hrel
        clear Hrw6 Hown6 hb6
        have Hrw7 := Lib.hid hrw7; have Hown7 := Lib.hid hown7
        by_cases hst : s < 17
        · have hc7 := hrw7.cell (i := s) hst
          have hf7 := hrw7.frozen s
          have hR7 := hrw7.lt
          simp only [rowV, cutF_at] at hc7
          obtain ⟨F, hF⟩ : ∃ F, F = zeroAt (rowOf l') y s := ⟨_, rfl⟩
          rw [← hF] at hc7
          have HFl : Hid (F < 2 ^ 17) := Lib.hid (by rw [hF]; exact zeroAt_lt _ _ (rowOf_lt l' Hg'.out) _)
          have HF := Lib.hid hF; clear hF hrw7 hown7
          go_wp2_with fail
          go_region
          go_wp2_with fail
          go_roundw
          case rel =>
            refine ⟨s + 1, by omega, by go_num, (own_set Hown7.out Hne5'.out s _).drew, ?_, (hb7.setCell hws _).drew⟩
            rw [andNot_bit F y HFl.out (by omega), HF.out]
            refine ((Hrw7.out.set s _).drew).congr fun i hi => ?_
            show _ = Value.int .u32 ((cutF (zeroAt (rowOf l') y) y (s + 1) i : Nat) : Int)
            rw [cutF_succ]
            simp only [rowV]
            split
            · rfl
            · rfl
          case measure => simp [intOf]; omega
        · obtain rfl : s = 17 := by omega
          have Hrw8 := Lib.hid (Hrw7.out.congr (g := rowV (rowOf (without l' y))) fun i hi => by simp only [rowV]; rw [cutF_all l' Hg'.out y (by omega) i hi])
          clear Hrw7 hrw7 hown7
          go_wp2_with fail
          go_roundg (without l' (y : Int)).length
          case measure => exact hlt
          case rel =>
            exact ⟨without l' y, out ++ [(y : Int)], rfl, Hg2.out, by simp; omega, fun r hr => Hbr2.out r hr, by simpa using Hown7.out, Hrw8.out, hb7⟩

end Go.Proofs.Ytdndoefjknnbhaa
