/-
  The walk of victim (function 18): the youngest of those that are caught. Conditions: the rows hold bits below 17.
-/
import Derived.Test.YtdndoefjknnbhaaCaught
namespace Go.Proofs.Ytdndoefjknnbhaa
open Go.RowKit

def ageL (born : List Int) (s : Int) : Int := (born[s.toNat]?).getD 0
def vicStep (born : List Int) (best s : Int) : Int := if best = 0 ∨ ageL born best ≤ ageL born s then s else best
def vicL (born l : List Int) : Int := l.foldl (vicStep born) 0
theorem vicL_take (born l : List Int) (k : Nat) (s : Int) (hs : l[k]? = some s) : vicL born (l.take (k + 1)) = vicStep born (vicL born (l.take k)) s := by
  obtain ⟨hk, hpe⟩ := List.getElem?_eq_some_iff.1 hs
  unfold vicL
  rw [List.take_succ_eq_append_getElem hk, List.foldl_append, hpe]
  rfl
theorem vic_new {born : List Int} {V u x a : Int} (h : V = 0 ∨ u ≤ a) (hu : V ≠ 0 → u = ageL born V) (ha : a = ageL born x) : vicStep born V x = x := by
  unfold vicStep
  by_cases h0 : V = 0
  · rw [if_pos (.inl h0)]
  · have := hu h0
    rw [if_pos (.inr (by omega))]
theorem vic_old {born : List Int} {V u x a : Int} (h0 : ¬ V = 0) (h : a < u) (hu : V ≠ 0 → u = ageL born V) (ha : a = ageL born x) : vicStep born V x = V := by
  unfold vicStep
  have := hu h0
  rw [if_neg (by omega)]
theorem selfs_mem (f : Nat → Nat) (n : Nat) (x : Int) : x ∈ selfs f n ↔ ∃ s : Nat, x = s ∧ 0 < s ∧ s < n ∧ (f s).testBit s = true := by
  unfold selfs
  simp only [List.mem_map, List.mem_filter, List.mem_range, Bool.and_eq_true, decide_eq_true_eq]
  constructor
  · rintro ⟨a, ⟨h1, h2, h3⟩, rfl⟩; exact ⟨a, rfl, h2, h1, h3⟩
  · rintro ⟨a, rfl, h2, h1, h3⟩; exact ⟨a, ⟨h1, h2, h3⟩, rfl⟩

set_option maxHeartbeats 400000 in
theorem victim_any (f : Nat → Nat) (Ab : Option Addr) (born : List Int) (cb : Nat) (w : World) (hf : ∀ j, f j < 2 ^ 17) (hb : IntsAt w w.heap.size Ab born) :
    Calls Try.prog 18 #[.agg (arr (rowV f)), .slice Ab born.length cb] w fun e w' => e = .returned (.int .i64 (vicL born (selfs (wcl f 16) 17))) ∧ Below w.heap.size w w' := by
  have Hf := Lib.hid hf; clear hf
  have Hb := Lib.hid hb; clear hb
  have Hh1 := Lib.hid (rowIs_heap (rowIs_arr w 45 (rowV f)))
  go_enter Try.func18, Try.ntmps18
  go_wp2_with (first
        | (refine wpList_load_row rfl 45 (.tmp 2) rfl w.heap.size rfl 45 _ (0, 0) _ Hh1.out Try.underlying45 rfl (by kernel_rfl) ?_)
        | (go_at_call 25; refine (caught_any f _ Hf.out).mono ?_; rintro e w1 ⟨L, A, c, hL, rfl, hown, hb1⟩; have HL := Lib.hid hL; clear hL))
  have hbl : Below w.heap.size w w1 := ((Below.refl _ _).alloc (Nat.le_refl _) _).trans (hb1.mono (by simp))
  have hA := IntsAt.of_own hown
  have hbr := Hb.out.below hbl
  have HA := Lib.hid hA; have Hbr := Lib.hid hbr
  have hmem : ∀ x ∈ L, 1 ≤ x ∧ x ≤ 16 := by
    intro x hx
    rw [HL.out, selfs_mem] at hx
    obtain ⟨s, rfl, h1, h2, _⟩ := hx
    omega
  have Hmem := Lib.hid hmem
  have hlen : L.length ≤ 17 := by rw [HL.out]; exact selfs_len _ _
  clear hb1 hA hown hbr hmem
  go_loopw [5, 6, 13] (fun bs wh i wr => ∃ k : Nat, k ≤ L.length ∧ i = .int .i64 k ∧ bs = .int .i64 (vicL born (L.take k)) ∧ (∃ u, wh = .int .i64 u ∧ (vicL born (L.take k) ≠ 0 → u = ageL born (vicL born (L.take k)))) ∧ wr = w1) (fun _ _ i _ => L.length - (intOf i).toNat)
  case atStart => exact ⟨0, by omega, rfl, rfl, ⟨0, rfl, fun h => absurd rfl h⟩, rfl⟩
  case round =>
    obtain ⟨k, hk, rfl, rfl, ⟨u, rfl, hu⟩, rfl⟩ := hrel
    by_cases hlt : k < L.length
    · obtain ⟨s, hs⟩ : ∃ s, L[k]? = some s := ⟨L[k], List.getElem?_eq_getElem hlt⟩
      obtain ⟨b, off, rfl, hbk, hc⟩ := HA.out k s hs
      obtain ⟨hs1, hs2⟩ := Hmem.out s (List.mem_of_getElem? hs)
      have hstep := vicL_take born L k s hs
      obtain ⟨x, rfl⟩ : ∃ x : Nat, s = x := ⟨s.toNat, by omega⟩
      obtain ⟨V, hV⟩ : ∃ V, V = vicL born (L.take k) := ⟨_, rfl⟩
      rw [← hV] at hu hstep
      rw [← hV]
      have HV := Lib.hid hV; have Hstep := Lib.hid hstep; have Hu := Lib.hid hu; have Hs := Lib.hid hs
      clear hV hstep hu hs
      obtain ⟨a, ha⟩ : ∃ a, a = ageL born x := ⟨_, rfl⟩
      have Ha := Lib.hid ha
      by_cases hxb : x < born.length
      · have hbx : born[x]? = some a := by rw [ha]; simp [ageL, hxb]
        obtain ⟨bb, ob, rfl, _, hcb⟩ := Hbr.out x a hbx
        clear ha hbx
        go_wp2_with fail
        · have h0 : V = 0 := by assumption
          have hv := (Hstep.out).trans (vic_new (.inl h0) Hu.out Ha.out)
          have Hv := Lib.hid hv; clear hv
          go_roundw
          case rel => exact ⟨k + 1, by omega, by go_num, by rw [Hv.out], ⟨_, rfl, fun _ => by rw [Hv.out]; exact Ha.out⟩, trivial⟩
          case measure => simp [intOf]; omega
        · have h0 : ¬ V = 0 := by assumption
          have h1 : (V == 0) = true ∨ u ≤ a := by assumption
          have hv := (Hstep.out).trans (vic_new (.inr (by rcases h1 with h1 | h1; exact absurd (by simpa using h1) h0; exact h1)) Hu.out Ha.out)
          have Hv := Lib.hid hv; clear hv
          go_roundw
          case rel => exact ⟨k + 1, by omega, by go_num, by rw [Hv.out], ⟨_, rfl, fun _ => by rw [Hv.out]; exact Ha.out⟩, trivial⟩
          case measure => simp [intOf]; omega
        · have h0 : ¬ V = 0 := by assumption
          have h1 : (V == 0) = false ∧ a < u := by assumption
          have hv := (Hstep.out).trans (vic_old h0 h1.2 Hu.out Ha.out)
          have Hv := Lib.hid hv; clear hv
          go_roundw
          case rel => exact ⟨k + 1, by omega, by go_num, by rw [Hv.out], ⟨_, rfl, fun h => by rw [Hv.out] at h ⊢; exact Hu.out h⟩, trivial⟩
          case measure => simp [intOf]; omega
      · have hbx : ageL born x = 0 := by unfold ageL; rw [List.getElem?_eq_none (by simp; omega)]; rfl
        rw [hbx] at ha
        subst ha
        clear hbx
        go_wp2_with fail
        · have h0 : V = 0 := by assumption
          have hv := (Hstep.out).trans (vic_new (.inl h0) Hu.out Ha.out)
          have Hv := Lib.hid hv; clear hv
          go_roundw
          case rel => exact ⟨k + 1, by omega, by go_num, by rw [Hv.out], ⟨_, rfl, fun _ => by rw [Hv.out]; exact Ha.out⟩, trivial⟩
          case measure => simp [intOf]; omega
        · have h0 : ¬ V = 0 := by assumption
          have h1 : (V == 0) = true ∨ u ≤ 0 := by assumption
          have hv := (Hstep.out).trans (vic_new (.inr (by rcases h1 with h1 | h1; exact absurd (by simpa using h1) h0; exact h1)) Hu.out Ha.out)
          have Hv := Lib.hid hv; clear hv
          go_roundw
          case rel => exact ⟨k + 1, by omega, by go_num, by rw [Hv.out], ⟨_, rfl, fun _ => by rw [Hv.out]; exact Ha.out⟩, trivial⟩
          case measure => simp [intOf]; omega
        · have h0 : ¬ V = 0 := by assumption
          have h1 : (V == 0) = false ∧ 0 < u := by assumption
          have hv := (Hstep.out).trans (vic_old h0 h1.2 Hu.out Ha.out)
          have Hv := Lib.hid hv; clear hv
          go_roundw
          case rel => exact ⟨k + 1, by omega, by go_num, by rw [Hv.out], ⟨_, rfl, fun h => by rw [Hv.out] at h ⊢; exact Hu.out h⟩, trivial⟩
          case measure => simp [intOf]; omega
    · obtain rfl : k = L.length := by omega
      go_wp2_with fail
      go_ret
      exact ⟨by rw [List.take_of_length_le (Nat.le_refl _), HL.out]; rfl, hbl⟩
end Go.Proofs.Ytdndoefjknnbhaa
