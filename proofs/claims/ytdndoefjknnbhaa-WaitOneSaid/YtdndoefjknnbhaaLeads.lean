/-
  The walk of leads (function 28): to whom one comes from a session over one edge at least. Conditions: each edge is one, the session is one.
-/
import Derived.Test.YtdndoefjknnbhaaPlain
import Derived.Deep.LoopGhost
namespace Go.Proofs.Ytdndoefjknnbhaa
open Go.RowKit

def cnt (o : Nat → Bool) : Nat := ((List.range 17).filter o).length
def setB (o : Nat → Bool) (b : Nat) : Nat → Bool := fun i => if i = b then true else o i
theorem cnt_le (o : Nat → Bool) : cnt o ≤ 17 := by
  have := List.length_filter_le o (List.range 17)
  simpa [cnt] using this
theorem cnt_set_go (o : Nat → Bool) (b : Nat) (h : o b = false) : ∀ n, ((List.range n).filter (setB o b)).length = ((List.range n).filter o).length + if b < n then 1 else 0 := by
  intro n
  induction n with
  | zero => simp
  | succ n ih =>
    simp only [List.range_succ, List.filter_append, List.length_append, ih]
    by_cases e : n = b
    · subst e
      simp [setB, h]
    · have e1 : setB o b n = o n := by unfold setB; rw [if_neg e]
      by_cases h2 : b < n
      · rw [if_pos h2, if_pos (by omega)]
        simp only [List.filter_cons, e1, List.filter_nil]
        omega
      · rw [if_neg h2, if_neg (by omega)]
        simp only [List.filter_cons, e1, List.filter_nil]
        omega
theorem cnt_set (o : Nat → Bool) (b : Nat) (hb : b < 17) (h : o b = false) : cnt (setB o b) = cnt o + 1 := by
  have := cnt_set_go o b h 17
  rw [if_pos hb] at this
  exact this

def boolV (o : Nat → Bool) (i : Nat) : Value := .bool (o i)
def Shut (s : Int) (o : Nat → Bool) (m : List (Int × Int)) : Prop := ∀ p ∈ m, (p.1 = s ∨ o p.1.toNat = true) → o p.2.toNat = true

open Classical in
noncomputable def leadsB (l : List (Int × Int)) (s : Int) (i : Nat) : Bool := decide (Leads l s i)

theorem shut_all {l : List (Int × Int)} {s : Int} {o : Nat → Bool} (h : Shut s o l) {t : Int} (hl : Leads l s t) : o t.toNat = true := by
  induction hl with
  | one e => exact h _ e (.inl rfl)
  | more _ e ih => exact h _ e (.inr ih)
open Classical in
theorem leads_is {l : List (Int × Int)} {s : Int} {o : Nat → Bool} (h : Shut s o l) (hs : ∀ i, o i = true → Leads l s i) (i : Nat) : o i = leadsB l s i := by
  unfold leadsB
  rw [Bool.eq_iff_iff, decide_eq_true_iff]
  exact ⟨hs i, fun hl => by have := shut_all h hl; simpa using this⟩

/-- What the rounds over the edges have done to the bits and to the flag. -/
def Went (l : List (Int × Int)) (s : Int) (k : Nat) (o : Nat → Bool) (ag : Bool) (o' : Nat → Bool) : Prop :=
  (∀ i, o' i = true → Leads l s i) ∧ ((ag = false ∧ o' = o ∧ Shut s o (l.take k)) ∨ (ag = true ∧ cnt o < cnt o'))

theorem went_keep {l : List (Int × Int)} {s : Int} {k : Nat} {o : Nat → Bool} {ag : Bool} {o' : Nat → Bool} {p : Int × Int} (h : Went l s k o ag o') (hp : l[k]? = some p)
    (hn : (p.1 = s ∨ o' p.1.toNat = true) → o' p.2.toNat = true) : Went l s (k + 1) o ag o' := by
  obtain ⟨h1, h2⟩ := h
  refine ⟨h1, ?_⟩
  rcases h2 with ⟨ha, rfl, hs⟩ | h2
  · refine .inl ⟨ha, rfl, ?_⟩
    intro q hq
    obtain ⟨hk, hpe⟩ := List.getElem?_eq_some_iff.1 hp
    rw [List.take_succ_eq_append_getElem hk, List.mem_append, hpe] at hq
    rcases hq with hq | hq
    · exact hs q hq
    · simp at hq; subst hq; exact hn
  · exact .inr h2
theorem went_set {l : List (Int × Int)} (hg : Good l) {s : Int} {k : Nat} {o : Nat → Bool} {ag : Bool} {o' : Nat → Bool} {p : Int × Int} (h : Went l s k o ag o') (hp : l[k]? = some p)
    (h1 : p.1 = s ∨ o' p.1.toNat = true) (h2 : o' p.2.toNat = false) : Went l s (k + 1) o true (setB o' p.2.toNat) := by
  obtain ⟨g1, g2⟩ := h
  have hm := List.mem_of_getElem? hp
  have hgp := hg p hm
  simp only [goodP] at hgp
  obtain ⟨a, b⟩ := p
  simp only at h1 h2 hgp
  refine ⟨?_, .inr ⟨rfl, ?_⟩⟩
  · intro i hi
    unfold setB at hi
    split at hi
    · rename_i e
      subst e
      have eb : ((b.toNat : Nat) : Int) = b := by omega
      rw [eb]
      rcases h1 with h1 | h1
      · subst h1; exact .one hm
      · have := g1 _ h1
        have ea : ((a.toNat : Nat) : Int) = a := by omega
        rw [ea] at this
        exact .more this hm
    · exact g1 i hi
  · rw [cnt_set _ _ (by omega) h2]
    rcases g2 with ⟨_, rfl, _⟩ | ⟨_, g⟩
    · omega
    · omega

theorem rowIs_setB {w : World} {R : Nat} {t : TypeId} {o : Nat → Bool} (h : w.rowIs R t 17 (boolV o)) (b : Nat) : (w.setCell ⟨R, b, none⟩ (.bool true)).rowIs R t 17 (boolV (setB o b)) :=
  (h.set b (.bool true)).congr fun i _ => by
    unfold boolV setB
    split
    · rfl
    · rfl

set_option maxHeartbeats 400000 in
theorem leads_any (A : Option Addr) (l : List (Int × Int)) (cap : Nat) (s : Int) (w : World) (hn : l.length ≤ 140737488351232) (hr : PairsAt w w.heap.size A l) (hg : Good l) :
    Calls Try.prog 28 #[.slice A l.length cap, .int .i64 s] w fun e w' => e = .returned (.agg (arr (boolV (leadsB l s)))) ∧ Below w.heap.size w w' := by
  have Hr := Lib.hid hr; have Hg := Lib.hid hg; clear hr hg
  go_enter Try.func28, Try.ntmps28
  go_wp2_with fail
  go_loopg [6] 35 (fun n agv wr => ∃ (ag : Bool) (o : Nat → Bool), agv = .bool ag ∧ n = (17 - cnt o) * 2 + (if ag = true then 1 else 0) ∧ wr.rowIs w.heap.size 55 17 (fun _ => .bool false) ∧ wr.rowIs (w.heap.size + 1) 55 17 (boolV o) ∧ Below w.heap.size w wr ∧
      (∀ i, o i = true → Leads l s i) ∧ (ag = false → Shut s o l))
  case atStart =>
    refine ⟨true, fun _ => false, rfl, by decide, (rowIs_lit w 55 (.bool false)).alloc _, ?_, ((Below.refl _ _).alloc (Nat.le_refl _) _).alloc (by simp) _, fun i h => by simp at h, fun h => by simp at h⟩
    refine World.rowIs.congr (f := fun _ => .bool false) ?_ (fun i _ => by simp [boolV])
    simpa using rowIs_lit (w.alloc (.cells #[.bool false, .bool false, .bool false, .bool false, .bool false, .bool false, .bool false, .bool false, .bool false, .bool false, .bool false, .bool false, .bool false, .bool false, .bool false, .bool false, .bool false] 55)) 55 (.bool false)
  case round =>
    obtain ⟨ag, o, rfl, rfl, hr0, hr1, hbl, hsnd, hsh⟩ := hrel
    have Hr0 := Lib.hid hr0; have Hr1 := Lib.hid hr1; have Hsnd := Lib.hid hsnd; have Hsh := Lib.hid hsh
    clear hr0 hr1 hsnd hsh
    cases ag
    · have He : Hid (∀ i, i < 17 → boolV o i = boolV (leadsB l s) i) := Lib.hid (fun i _ => by unfold boolV; rw [leads_is (Hsh.out rfl) Hsnd.out i])
      have Hh0 := Lib.hid (rowIs_heap Hr0.out); have Hh1 := Lib.hid (rowIs_heap Hr1.out)
      go_wp2_with (first
        | (refine wpList_load_row rfl 55 (.tmp 5) rfl (w.heap.size + 1) rfl 55 _ (0, 0) _ Hh1.out Try.underlying55 rfl (by kernel_rfl) ?_)
        | (refine wpList_store_row rfl 55 (.tmp 4) (.tmp 43) rfl w.heap.size _ rfl rfl 55 _ Hh0.out (by kernel_rfl) (by rw [size_arr, size_arr]) (arr_one _ fun i => rfl) ?_))
      rw [arr_congr He.out]
      refine bodyPost_ret (results_cell_row rfl _ _ w.heap.size 55 (arr (boolV (leadsB l s))) (0, 0) _ rfl (setRow_heap _ _ _ _ _ _ Hh0.out) Try.underlying55 rfl (by kernel_rfl)) rfl ⟨rfl, below_setRow' hbl (by omega) _⟩
    · clear Hsh
      go_wp2_with fail
      obtain ⟨wo, rfl⟩ : ∃ wo : World, wo = wr := ⟨_, rfl⟩
      go_loopw [6, 13] (fun agv i wr => ∃ (k : Nat) (ag : Bool) (o' : Nat → Bool), k ≤ l.length ∧ i = .int .i64 k ∧ agv = .bool ag ∧ wr.rowIs w.heap.size 55 17 (fun _ => .bool false) ∧ wr.rowIs (w.heap.size + 1) 55 17 (boolV o') ∧ Below w.heap.size w wr ∧
          Went l s k o ag o') (fun _ i _ => l.length - (intOf i).toNat)
      case atStart => exact ⟨0, false, o, by omega, rfl, rfl, Hr0.out, Hr1.out, hbl, Hsnd.out, .inl ⟨rfl, rfl, fun p hp => by simp at hp⟩⟩
      case round =>
        obtain ⟨k, ag, o', hk, rfl, rfl, hi0, hi1, hbi, hw⟩ := hrel
        clear Hr0 Hr1 hbl
        by_cases hlt : k < l.length
        · obtain ⟨p, hp⟩ : ∃ p, l[k]? = some p := ⟨l[k], List.getElem?_eq_getElem hlt⟩
          obtain ⟨b, off, rfl, hb, hc1, hc2⟩ := Hr.out.below hbi k p hp
          have hgp := Hg.out p (List.mem_of_getElem? hp)
          have Hset := Lib.hid (went_set Hg.out hw hp)
          have Hkeep := Lib.hid (went_keep hw hp)
          obtain ⟨x, y⟩ := p
          simp only [goodP] at hgp
          obtain ⟨x, rfl⟩ : ∃ x' : Nat, x = x' := ⟨x.toNat, by omega⟩
          obtain ⟨y, rfl⟩ : ∃ y' : Nat, y = y' := ⟨y.toNat, by omega⟩
          obtain ⟨g1, g2, g3, g4⟩ := hgp
          have hx17 : x < 17 := by omega
          have hy17 : y < 17 := by omega
          have hcx := hi1.cell (i := x) hx17
          have hcy := hi1.cell (i := y) hy17
          have hfy := hi1.frozen y
          have hsz := hi1.lt
          simp only [boolV] at hcx hcy
          have Hi0 := Lib.hid hi0; have Hi1 := Lib.hid hi1
          clear hp hw hi0 hi1
          by_cases hxs : (x : Int) = s
          · cases hoy : o' y
            · rw [hoy] at hcy
              have Hw := Lib.hid (Hset.out (.inl hxs) hoy)
              clear Hset Hkeep hoy
              go_wp2_with fail
              go_region
              go_wp2_with fail
              all_goals go_roundw
              case rel => exact ⟨k + 1, true, setB o' y, by omega, by go_num, rfl, Hi0.out.setOther (by simp) _ |>.drew, (rowIs_setB Hi1.out y).drew, (hbi.setCell (by simp) _).drew, Hw.out⟩
              case measure => simp [intOf]; omega
            · rw [hoy] at hcy
              have Hw := Lib.hid (Hkeep.out (fun _ => hoy))
              clear Hset Hkeep hoy
              go_wp2_with fail
              go_region
              go_wp2_with fail
              all_goals go_roundw
              case rel => exact ⟨k + 1, ag, o', by omega, by go_num, rfl, Hi0.out.drew, Hi1.out.drew, hbi.drew, Hw.out⟩
              case measure => simp [intOf]; omega
          · cases hox : o' x
            · rw [hox] at hcx
              have Hw := Lib.hid (Hkeep.out (fun h => by rcases h with h | h; exact absurd h hxs; simp [hox] at h))
              clear Hset Hkeep hox
              go_wp2_with fail
              go_region
              go_wp2_with fail
              all_goals go_roundw
              case rel => exact ⟨k + 1, ag, o', by omega, by go_num, rfl, Hi0.out.drew, Hi1.out.drew, hbi.drew, Hw.out⟩
              case measure => simp [intOf]; omega
            · cases hoy : o' y
              · rw [hoy] at hcy; rw [hox] at hcx
                have Hw := Lib.hid (Hset.out (.inr hox) hoy)
                clear Hset Hkeep hoy hox
                go_wp2_with fail
                go_region
                go_wp2_with fail
                all_goals go_roundw
                case rel => exact ⟨k + 1, true, setB o' y, by omega, by go_num, rfl, Hi0.out.setOther (by simp) _ |>.drew, (rowIs_setB Hi1.out y).drew, (hbi.setCell (by simp) _).drew, Hw.out⟩
                case measure => simp [intOf]; omega
              · rw [hoy] at hcy; rw [hox] at hcx
                have Hw := Lib.hid (Hkeep.out (fun _ => hoy))
                clear Hset Hkeep hoy hox
                go_wp2_with fail
                go_region
                go_wp2_with fail
                all_goals go_roundw
                case rel => exact ⟨k + 1, ag, o', by omega, by go_num, rfl, Hi0.out.drew, Hi1.out.drew, hbi.drew, Hw.out⟩
                case measure => simp [intOf]; omega
        · have Hi0 := Lib.hid hi0; have Hi1 := Lib.hid hi1; have Hw := Lib.hid hw
          clear hi0 hi1 hw
          go_wp2_with fail
          go_roundg ((17 - cnt o') * 2 + (if ag = true then 1 else 0))
          case measure =>
            have := Hw.out.2
            have h17 := cnt_le o'
            rcases this with ⟨h1, h2, _⟩ | ⟨h1, h2⟩
            · rw [h1, h2]; simp
            · rw [h1]; simp; omega
          case rel =>
            refine ⟨ag, o', rfl, rfl, Hi0.out, Hi1.out, hbi, Hw.out.1, fun h => ?_⟩
            rcases Hw.out.2 with ⟨h1, h2, h3⟩ | ⟨h1, h2⟩
            · rw [List.take_of_length_le (by omega)] at h3
              rw [h2]; exact h3
            · rw [h1] at h; cases h

end Go.Proofs.Ytdndoefjknnbhaa
