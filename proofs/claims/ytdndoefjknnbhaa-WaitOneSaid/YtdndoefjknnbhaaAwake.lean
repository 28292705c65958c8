/-
  The walk of awake (function 6): the document's examples hold. Conditions: none.
-/
import Derived.Test.YtdndoefjknnbhaaRing
import Derived.Test.YtdndoefjknnbhaaSmall
namespace Go.Proofs.Ytdndoefjknnbhaa
open Go.RowKit

def ex1 : List (Int × Int) := [(1, 2), (2, 1), (3, 1)]
def ex2 : List (Int × Int) := [(4, 4)]
theorem ex1_last {a b : Int} (h : Leads ex1 a b) : b = 1 ∨ b = 2 := by
  cases h with
  | one e => simp [ex1] at e; omega
  | more _ e => simp [ex1] at e; omega
open Classical in
theorem ex1_caught : caughtL ex1 = [1, 2] := by
  have h : caughtL ex1 = (List.filter (fun s : Nat => decide (s = 1) || decide (s = 2)) (List.range 17)).map fun s : Nat => (s : Int) := by
    unfold caughtL
    congr 1
    apply List.filter_congr
    intro s _
    rw [Bool.eq_iff_iff]
    simp only [decide_eq_true_eq, Bool.or_eq_true]
    constructor
    · rintro ⟨_, h2⟩
      have := ex1_last h2
      omega
    · rintro (rfl | rfl)
      · exact ⟨by decide, .more (.one (b := 2) (by simp [ex1])) (by simp [ex1])⟩
      · exact ⟨by decide, .more (.one (b := 1) (by simp [ex1])) (by simp [ex1])⟩
  rw [h]
  decide

theorem PairsAt.new (w : World) (l : List (Int × Int)) (B : Nat) (hB : w.heap.size < B) : PairsAt (w.alloc (.cells (prCells l).toArray 39)) B (some ⟨w.heap.size, 0, none⟩) l := by
  intro k p hp
  obtain ⟨h1, h2⟩ := prCells_at l k p hp
  refine ⟨w.heap.size, 0, rfl, hB, ?_, ?_⟩
  · rw [World.cell?_alloc_at _ _ _ _ rfl]; simpa using h1
  · rw [World.cell?_alloc_at _ _ _ _ rfl]; simpa using h2
theorem IntsAt.new (w : World) (l : List Int) (B : Nat) (hB : w.heap.size < B) : IntsAt (w.alloc (.cells (l.map (Value.int .i64)).toArray 3)) B (some ⟨w.heap.size, 0, none⟩) l := by
  intro k x hx
  refine ⟨w.heap.size, 0, rfl, hB, ?_⟩
  rw [World.cell?_alloc_at _ _ _ _ rfl]; simp [hx]

theorem ring_four (w : World) (A : Option Addr) (c : Nat) (hr : PairsAt w w.heap.size A ex2) : Calls Try.prog 14 #[.slice A 1 c, .int .i64 4] w (IntsOk (· = [4]) w) :=
  (Ring_good A ex2 c 4 w (by decide) hr (by decide) (by decide) (by decide)).mono fun _ _ ⟨r, A', c', hr', he, ho, hb⟩ => ⟨r, A', c', hr'.2 (by simp [ex2]), he, ho, hb⟩
theorem victim_two (w : World) (A Ab : Option Addr) (c cb : Nat) (hr : PairsAt w w.heap.size A ex1) (hb : IntsAt w w.heap.size Ab [0, 5, 9]) :
    Calls Try.prog 7 #[.slice A 3 c, .slice Ab 3 cb] w fun e w' => e = .returned (.tuple #[.int .i64 2, .bool true, .int .i64 0]) ∧ Below w.heap.size w w' :=
  (Victim_good A ex1 c Ab [0, 5, 9] cb w (by decide) hr hb (by decide)).mono fun _ _ ⟨he, hb⟩ => ⟨by rw [he, ex1_caught]; rfl, hb⟩
theorem caught_two (w : World) (A : Option Addr) (c : Nat) (hr : PairsAt w w.heap.size A ex1) : Calls Try.prog 15 #[.slice A 3 c] w (IntsOk (· = [1, 2]) w) :=
  (Caught_good A ex1 c w (by decide) hr (by decide)).mono fun _ _ ⟨r, A', c', hr', he, ho, hb⟩ => ⟨r, A', c', hr'.trans ex1_caught, he, ho, hb⟩

set_option maxHeartbeats 400000 in
theorem awake_any (w : World) :
    Calls Try.prog 6 #[] w fun e w' => e = .returned (.bool true) ∧ Below w.heap.size w w' := by
  obtain ⟨wa, hwa⟩ : ∃ wa, wa = w.alloc (.cells #[.int .i64 1, .int .i64 2, .int .i64 2, .int .i64 1, .int .i64 3, .int .i64 1] 39) := ⟨_, rfl⟩
  have hp1 : PairsAt wa wa.heap.size (some ⟨w.heap.size, 0, none⟩) ex1 := by rw [hwa]; exact PairsAt.new w ex1 _ (by simp)
  have hb1 : Below w.heap.size w wa := by rw [hwa]; exact (Below.refl _ _).alloc (Nat.le_refl _) _
  have Hp1 := Lib.hid hp1; have Hwa := Lib.hid hwa; clear hp1 hwa
  go_enter Try.func6, Try.ntmps6
  go_wp2_with fail
  rw [← Hwa.out]
  refine (caught_two wa (some ⟨w.heap.size, 0, none⟩) 3 Hp1.out).mono ?_; rintro e w2 ⟨_, A1, c1, rfl, rfl, hown1, hb2⟩
  have Hi1 := Lib.hid (IntsAt.of_own hown1)
  have Hp2 := Lib.hid (Hp1.out.later hb2)
  have hb2' := hb1.trans (hb2.mono hb1.size)
  clear Hp1 hown1 hb2 hb1 Hwa
  obtain ⟨wb, hwb⟩ : ∃ wb, wb = w2.alloc (.cells #[.int .i64 0, .int .i64 5, .int .i64 9] 3) := ⟨_, rfl⟩
  have hbb : Below w2.heap.size w2 wb := by rw [hwb]; exact (Below.refl _ _).alloc (Nat.le_refl _) _
  have hi2 : IntsAt wb wb.heap.size (some ⟨w2.heap.size, 0, none⟩) [0, 5, 9] := by rw [hwb]; exact IntsAt.new w2 [0, 5, 9] _ (by simp)
  have Hi2 := Lib.hid hi2; have Hwb := Lib.hid hwb
  have hb3 := hb2'.trans (hbb.mono hb2'.size)
  have Hp3 := Lib.hid (Hp2.out.later hbb)
  have Hi1b := Lib.hid (Hi1.out.later hbb)
  clear hi2 hwb Hp2 Hi1 hbb hb2'
  go_wp2_with fail
  rw [← Hwb.out]
  refine (victim_two wb (some ⟨w.heap.size, 0, none⟩) (some ⟨w2.heap.size, 0, none⟩) 3 3 Hp3.out Hi2.out).mono ?_; rintro e w3 ⟨rfl, hb4⟩
  have Hi1c := Lib.hid (Hi1b.out.later hb4)
  have hb4' := hb3.trans (hb4.mono hb3.size)
  clear Hi1b Hp3 Hi2 hb3 hb4 Hwb
  obtain ⟨wc, hwc⟩ : ∃ wc, wc = w3.alloc (.cells #[.int .i64 4, .int .i64 4] 39) := ⟨_, rfl⟩
  have hbc : Below w3.heap.size w3 wc := by rw [hwc]; exact (Below.refl _ _).alloc (Nat.le_refl _) _
  have hp4 : PairsAt wc wc.heap.size (some ⟨w3.heap.size, 0, none⟩) ex2 := by rw [hwc]; exact PairsAt.new w3 ex2 _ (by simp)
  have Hp4 := Lib.hid hp4; have Hwc := Lib.hid hwc
  have hb5 := hb4'.trans (hbc.mono hb4'.size)
  have Hi1d := Lib.hid (Hi1c.out.later hbc)
  clear hp4 hwc hbc hb4' Hi1c
  go_wp2_with fail
  rw [← Hwc.out]
  refine (ring_four wc (some ⟨w3.heap.size, 0, none⟩) 1 Hp4.out).mono ?_; rintro e w4 ⟨_, A2, c2, rfl, rfl, hown2, hb6⟩
  have Hi2a := Lib.hid (IntsAt.of_own hown2)
  have Hi1e := Lib.hid (Hi1d.out.later hb6)
  have hb6' := hb5.trans (hb6.mono hb5.size)
  clear Hp4 Hi1d hb5 hb6 Hwc hown2
  obtain ⟨wd, hwd⟩ : ∃ wd, wd = w4.alloc (.cells #[.int .i64 1, .int .i64 2] 3) := ⟨_, rfl⟩
  have hbd : Below w4.heap.size w4 wd := by rw [hwd]; exact (Below.refl _ _).alloc (Nat.le_refl _) _
  have hi5 : IntsAt wd wd.heap.size (some ⟨w4.heap.size, 0, none⟩) [1, 2] := by rw [hwd]; exact IntsAt.new w4 [1, 2] _ (by simp)
  have Hi5 := Lib.hid hi5; have Hwd := Lib.hid hwd
  have hb7 := hb6'.trans (hbd.mono hb6'.size)
  have Hi1f := Lib.hid (Hi1e.out.later hbd)
  have Hi2b := Lib.hid (Hi2a.out.later hbd)
  clear hi5 hwd hbd hb6' Hi1e Hi2a
  go_wp2_with fail
  rw [← Hwd.out]
  refine (ints_same A1 (some ⟨w4.heap.size, 0, none⟩) [1, 2] c1 2 wd (by decide) Hi1f.out Hi5.out).mono ?_; rintro e w5 ⟨rfl, hb8⟩
  have Hi2c := Lib.hid (Hi2b.out.later hb8)
  have hb8' := hb7.trans (hb8.mono hb7.size)
  clear Hi1f Hi5 Hi2b hb7 hb8 Hwd
  obtain ⟨we, hwe⟩ : ∃ we, we = w5.alloc (.cells #[.int .i64 4] 3) := ⟨_, rfl⟩
  have hbe : Below w5.heap.size w5 we := by rw [hwe]; exact (Below.refl _ _).alloc (Nat.le_refl _) _
  have hi6 : IntsAt we we.heap.size (some ⟨w5.heap.size, 0, none⟩) [4] := by rw [hwe]; exact IntsAt.new w5 [4] _ (by simp)
  have Hi6 := Lib.hid hi6; have Hwe := Lib.hid hwe
  have hb9 := hb8'.trans (hbe.mono hb8'.size)
  have Hi2d := Lib.hid (Hi2c.out.later hbe)
  clear hi6 hwe hbe hb8' Hi2c
  go_wp2_with fail
  rw [← Hwe.out]
  refine (ints_same A2 (some ⟨w5.heap.size, 0, none⟩) [4] c2 1 we (by decide) Hi2d.out Hi6.out).mono ?_; rintro e w6 ⟨rfl, hb10⟩
  have hb10' := hb9.trans (hb10.mono hb9.size)
  clear Hi2d Hi6 hb9 hb10 Hwe
  go_wp2_with fail
  go_ret
  exact ⟨rfl, hb10'⟩

end Go.Proofs.Ytdndoefjknnbhaa
