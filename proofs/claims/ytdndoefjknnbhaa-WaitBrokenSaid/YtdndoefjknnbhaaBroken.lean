/-
  The walk of WaitBroken (function 4): whatever the edges and the ages, it returns true and changes nothing that was there. Conditions: none but that a nil slice has no capacity.
-/
import Derived.Test.YtdndoefjknnbhaaAwake
import Derived.Test.YtdndoefjknnbhaaVictims
namespace Go.Proofs.Ytdndoefjknnbhaa
open Go.RowKit

theorem vicL_max_go (born : List Int) (l : List Int) : ∀ b : Int, (∀ x ∈ l, x ≠ 0) → (b ≠ 0 → ageL born b ≤ ageL born (l.foldl (vicStep born) b)) ∧ ∀ x ∈ l, ageL born x ≤ ageL born (l.foldl (vicStep born) b) := by
  induction l with
  | nil => intro b _; exact ⟨fun _ => Int.le_refl _, fun x hx => by simp at hx⟩
  | cons y l ih =>
    intro b hnz
    simp only [List.foldl_cons]
    have hy : y ≠ 0 := hnz y (List.mem_cons_self ..)
    obtain ⟨h1, h2⟩ := ih (vicStep born b y) (fun x hx => hnz x (List.mem_cons_of_mem _ hx))
    have hs : (b ≠ 0 → ageL born b ≤ ageL born (vicStep born b y)) ∧ ageL born y ≤ ageL born (vicStep born b y) ∧ vicStep born b y ≠ 0 := by
      unfold vicStep
      by_cases h : b = 0 ∨ ageL born b ≤ ageL born y
      · rw [if_pos h]
        refine ⟨fun hb => ?_, Int.le_refl _, hy⟩
        rcases h with h | h
        · exact absurd h hb
        · exact h
      · rw [if_neg h]
        exact ⟨fun _ => Int.le_refl _, by omega, by omega⟩
    have h3 := h1 hs.2.2
    refine ⟨fun hb => Int.le_trans (hs.1 hb) h3, fun x hx => ?_⟩
    rcases List.mem_cons.1 hx with rfl | hx
    · exact Int.le_trans hs.2.1 h3
    · exact h2 x hx
/-- Nobody caught is younger than the youngest. -/
theorem vicL_max {born : List Int} {l : List (Int × Int)} (hg : Good l) {x : Int} (hx : x ∈ caughtL l) : ageL born x ≤ ageL born (vicL born (caughtL l)) :=
  (vicL_max_go born (caughtL l) 0 (fun y hy => by have := ((mem_caughtL l hg y).1 hy).good hg; omega)).2 x hx

theorem vicL_none {born : List Int} {l : List (Int × Int)} (hg : Good l) (h : vicL born (caughtL l) = 0) : caughtL l = [] := by
  cases hc : caughtL l with
  | nil => rfl
  | cons y m =>
    exfalso
    have hnz : ∀ x ∈ caughtL l, x ≠ 0 := fun y hy => by have := ((mem_caughtL l hg y).1 hy).good hg; omega
    rw [hc] at h hnz
    have key : ∀ (m : List Int) (b : Int), b ≠ 0 → (∀ x ∈ m, x ≠ 0) → m.foldl (vicStep born) b ≠ 0 := by
      intro m
      induction m with
      | nil => intro b hb _; exact hb
      | cons z m ih =>
        intro b hb hz
        simp only [List.foldl_cons]
        refine ih _ ?_ (fun x hx => hz x (List.mem_cons_of_mem _ hx))
        unfold vicStep
        split
        · exact hz z (List.mem_cons_self ..)
        · exact hb
    refine key m (vicStep born 0 y) ?_ (fun x hx => hnz x (List.mem_cons_of_mem _ hx)) h
    unfold vicStep
    rw [if_pos (.inl rfl)]
    exact hnz y (List.mem_cons_self ..)

set_option maxHeartbeats 400000 in
theorem broken_big (A : Option Addr) (l : List (Int × Int)) (cap : Nat) (Ab : Option Addr) (born : List Int) (cb : Nat) (w : World) (hn : 256 < l.length) :
    Calls Try.prog 4 #[.slice A l.length cap, .slice Ab born.length cb] w fun e w' => e = .returned (.bool true) ∧ Below w.heap.size w w' := by
  go_enter Try.func4, Try.ntmps4
  go_wp2_with fail
  refine (awake_any w).mono ?_; rintro e w1 ⟨rfl, hb1⟩
  go_wp2_with fail
  refine (awake_any w1).mono ?_; rintro e w2 ⟨rfl, hb2⟩
  go_wp2_with fail
  go_ret
  exact ⟨rfl, hb1.trans (hb2.mono hb1.size)⟩

set_option maxHeartbeats 400000 in
theorem broken_bad (A : Option Addr) (l : List (Int × Int)) (cap : Nat) (Ab : Option Addr) (born : List Int) (cb : Nat) (w : World) (hn : l.length ≤ 256) (hA : A = none → cap = 0)
    (hr : PairsAt w w.heap.size A l) (hbad : badB l = true) :
    Calls Try.prog 4 #[.slice A l.length cap, .slice Ab born.length cb] w fun e w' => e = .returned (.bool true) ∧ Below w.heap.size w w' := by
  have Hr := Lib.hid hr; have HA := Lib.hid hA; have Hbad := Lib.hid hbad
  clear hr hA hbad
  go_enter Try.func4, Try.ntmps4
  go_wp2_with fail
  refine (awake_any w).mono ?_; rintro e w1 ⟨rfl, hb1⟩
  go_wp2_with fail
  refine (own_any A l cap w1 (by omega) HA.out (Hr.out.later hb1)).mono ?_; rintro e w2 ⟨A2, c2, rfl, hown2, hb2⟩
  have Hp2 := Lib.hid (PairsAt.of_own hown2)
  have hb2' := hb1.trans (hb2.mono hb1.size)
  clear hown2 hb1 hb2
  go_wp2_with fail
  refine (Break_bad A2 l c2 Ab born cb w2 (by omega) Hp2.out Hbad.out).mono ?_; rintro e w3 ⟨rfl, hb3⟩
  have hb4 := hb2'.trans (hb3.mono hb2'.size)
  go_wp2_with fail
  go_ret
  exact ⟨rfl, hb4⟩

set_option maxRecDepth 100000 in
set_option maxHeartbeats 1000000 in
theorem broken_good (A : Option Addr) (l : List (Int × Int)) (cap : Nat) (Ab : Option Addr) (born : List Int) (cb : Nat) (w : World) (hn : l.length ≤ 256) (hA : A = none → cap = 0)
    (hr : PairsAt w w.heap.size A l) (hb : IntsAt w w.heap.size Ab born) (hbad : badB l = false) :
    Calls Try.prog 4 #[.slice A l.length cap, .slice Ab born.length cb] w fun e w' => e = .returned (.bool true) ∧ Below w.heap.size w w' := by
  obtain ⟨i0, hi, hz0, hz1, hz2⟩ := info_parts Try.info39
  have Hz0 := Lib.hid hz0; have Hz1 := Lib.hid hz1; have Hz2 := Lib.hid hz2; have Hi := Lib.hid hi
  clear hz0 hz1 hz2 hi
  have hg := (good_of_bad hbad).1
  have Hr := Lib.hid hr; have HA := Lib.hid hA; have Hbad := Lib.hid hbad; have Hb := Lib.hid hb; have Hg := Lib.hid hg
  clear hr hA hbad hb hg
  go_enter Try.func4, Try.ntmps4
  go_wp2_with fail
  refine (awake_any w).mono ?_; rintro e w1 ⟨rfl, hb1⟩
  go_wp2_with fail
  refine (own_any A l cap w1 (by omega) HA.out (Hr.out.later hb1)).mono ?_; rintro e w2 ⟨A2, c2, rfl, hown2, hb2⟩
  have Hp2 := Lib.hid (PairsAt.of_own hown2)
  have hb2' := hb1.trans (hb2.mono hb1.size)
  clear hown2 hb1 hb2
  go_wp2_with fail
  refine (Break_good A2 l c2 Ab born cb w2 (by omega) Hp2.out (Hb.out.later hb2') Hbad.out).mono ?_; rintro e w3 ⟨L, AL, cL, hL, rfl, hownL, hb3⟩
  have HiL := Lib.hid (IntsAt.of_own hownL)
  have HL := Lib.hid hL
  have hb4 := hb2'.trans (hb3.mono hb2'.size)
  have hlen := Lib.hid (Breaks.len Hg.out hL)
  clear hownL hL hb3 hb2' Hp2
  go_wp2_with fail
  refine (own_any A l cap w3 (by omega) HA.out (Hr.out.later hb4)).mono ?_; rintro e w5 ⟨A5, c5, rfl, hown5, hb5⟩
  have Hp5 := Lib.hid (PairsAt.of_own hown5)
  have HiL5 := Lib.hid (HiL.out.later hb5)
  have hb6 := hb4.trans (hb5.mono hb4.size)
  have Hb5 := Lib.hid (Hb.out.later hb6)
  have hL300 : L.length ≤ 256 := by have := hlen.out; omega
  clear hown5 hb4 hb5 HiL
  go_wp2_with fail
  go_loopw [7, 43] (fun lv i wr => ∃ (k : Nat) (l' : List (Int × Int)) (A' : Option Addr) (c' : Nat), k ≤ L.length ∧ i = .int .i64 k ∧ lv = .slice A' l'.length c' ∧ Good l' ∧ l'.length ≤ 256 ∧ Breaks born l' (L.drop k) ∧
      PairsAt wr wr.heap.size A' l' ∧ Below w5.heap.size w5 wr) (fun _ i _ => L.length - (intOf i).toNat)
  case atStart => exact ⟨0, l, A5, c5, by omega, rfl, rfl, Hg.out, hn, HL.out, Hp5.out, Below.refl _ _⟩
  case round =>
    obtain ⟨k, l', A', c', hk, rfl, rfl, hg', hn', hbr, hpr, hbl⟩ := hrel
    have Hg' := Lib.hid hg'; have Hbr := Lib.hid hbr; have Hpr := Lib.hid hpr; clear hg' hbr hpr Hp5
    by_cases hlt : k < L.length
    · have hdrop : L.drop k = L[k] :: L.drop (k + 1) := List.drop_eq_getElem_cons hlt
      obtain ⟨v, hv⟩ : ∃ v, v = L[k] := ⟨_, rfl⟩
      have hLk : L[k]? = some v := by rw [hv]; exact List.getElem?_eq_getElem hlt
      have hbr' := Hbr.out
      rw [hdrop, ← hv] at hbr'
      have hvic : v = vicL born (caughtL l') ∧ vicL born (caughtL l') ≠ 0 ∧ Breaks born (without l' v) (L.drop (k + 1)) := by
        cases hbr' with
        | next h1 h2 => exact ⟨rfl, h1, h2⟩
      obtain ⟨hv1, hv2, hv3⟩ := hvic
      have hld := vicL_leads Hg'.out hv2
      rw [← hv1] at hld
      have hvg := hld.good Hg'.out
      have hmax : ∀ x ∈ caughtL l', ageL born x ≤ ageL born v := by intro x hx; rw [hv1]; exact vicL_max Hg'.out hx
      obtain ⟨bL, oL, rfl, _, hcv⟩ := HiL5.out.below hbl k v hLk
      obtain ⟨y, rfl⟩ : ∃ y : Nat, v = y := ⟨v.toNat, by omega⟩
      have hbad' : badB l' = false := by
        have hany : l'.any edgeOut = false := by
          cases h : l'.any edgeOut
          · rfl
          · rw [List.any_eq_true] at h
            obtain ⟨p, hp, he⟩ := h
            have := Hg'.out p hp
            simp only [goodP] at this
            simp only [edgeOut, outB, Bool.or_eq_true, decide_eq_true_eq] at he
            omega
        unfold badB
        rw [hany, Bool.or_false, decide_eq_false_iff_not]
        omega
      have Hv3 := Lib.hid hv3; have Hld := Lib.hid hld; have Hmax := Lib.hid hmax; have Hbad' := Lib.hid hbad'
      clear hdrop hv hLk hbr' hv1 hv2 hv3 hld hmax hbad' Hbr
      obtain ⟨y1, y2, _, _⟩ := hvg
      go_wp2_with fail
      refine (Ring_good A' l' c' y wr (by omega) Hpr.out Hbad'.out (by omega) (by omega)).mono ?_; rintro e w6 ⟨r, Ar, cr, hrs, rfl, _, hb7⟩
      have hrl : 0 < r.length := hrs.1 Hld.out
      have hrz : ((r.length : Int) == 0) = false := by rw [beq_eq_false_iff_ne]; omega
      have Hpr6 := Lib.hid (Hpr.out.later hb7)
      have hbl6 := hbl.trans (hb7.mono hbl.size)
      clear hrs hb7 hbl Hpr hcv
      go_wp2_with fail
      refine (Caught_good A' l' c' w6 (by omega) Hpr6.out Hbad'.out).mono ?_; rintro e w7 ⟨C, Ac, cc, hC, rfl, hownc, hb8⟩
      have HC := Lib.hid hC
      have HiC := Lib.hid (IntsAt.of_own hownc)
      have Hpr7 := Lib.hid (Hpr6.out.later hb8)
      have hbl7 := hbl6.trans (hb8.mono hbl6.size)
      have Hb7 := Lib.hid (Hb5.out.later hbl7)
      have hC17 : C.length ≤ 17 := by rw [hC]; exact caughtTo_len l' 17
      clear hC hownc hb8 hbl6 Hpr6
      go_wp2_with fail
      go_loop [71] (fun i => ∃ j : Nat, j ≤ C.length ∧ i = .int .i64 j) (fun i => C.length - (intOf i).toNat)
      case atStart => exact ⟨0, by omega, rfl⟩
      case round =>
        obtain ⟨j, hj, rfl⟩ := hrel
        by_cases hjt : j < C.length
        · obtain ⟨x, hx⟩ : ∃ x, C[j]? = some x := ⟨C[j], List.getElem?_eq_getElem hjt⟩
          obtain ⟨bc, oc, rfl, _, hcx⟩ := HiC.out j x hx
          have hxm : x ∈ caughtL l' := by rw [← HC.out]; exact List.mem_of_getElem? hx
          have hxg := ((mem_caughtL l' Hg'.out x).1 hxm).good Hg'.out
          have hle := Hmax.out x hxm
          obtain ⟨x, rfl⟩ : ∃ x' : Nat, x = x' := ⟨x.toNat, by omega⟩
          clear hx hxm hxg
          obtain ⟨a, ha⟩ : ∃ a, a = ageL born x := ⟨_, rfl⟩
          obtain ⟨u, hu⟩ : ∃ u, u = ageL born y := ⟨_, rfl⟩
          rw [← ha, ← hu] at hle
          have Ha := Lib.hid ha; have Hu := Lib.hid hu; clear ha hu
          go_wp2_with fail
          refine (age_any Ab born cb x w7 Hb7.out (by omega)).mono ?_; rintro e w' ⟨rfl, rfl⟩
          rw [← Ha.out]
          go_wp2_with fail
          refine (age_any Ab born cb y w7 Hb7.out (by omega)).mono ?_; rintro e w' ⟨rfl, rfl⟩
          rw [← Hu.out]
          go_wp2_with fail
          go_round
          case rel => exact ⟨j + 1, by omega, by go_num⟩
          case measure => simp [intOf]; omega
        · obtain rfl : j = C.length := by omega
          go_wp2_with fail
          go_loopw [16, 85] (fun nv i wr => ∃ j : Nat, j ≤ l'.length ∧ i = .int .i64 j ∧ wr.ownsRow w7.heap.size 39 2 nv (without (l'.take j) y).length (prCells (without (l'.take j) y)) ∧ Below w7.heap.size w7 wr) (fun _ i _ => l'.length - (intOf i).toNat)
          case atStart => exact ⟨0, by omega, rfl, World.ownsRow_nil _ _ _ _, Below.refl _ _⟩
          case round =>
            obtain ⟨j, hj2, rfl, hown, hbi⟩ := hrel
            by_cases hjt2 : j < l'.length
            · obtain ⟨p, hp⟩ : ∃ p, l'[j]? = some p := ⟨l'[j], List.getElem?_eq_getElem hjt2⟩
              obtain ⟨b, off, rfl, hbb, hc1, hc2⟩ := Hpr7.out.below hbi j p hp
              have Hst := Lib.hid (without_take l' y j p hp)
              have hsub := Nat.le_trans (without_len (l'.take j) y) (List.length_take_le j l')
              clear hp
              obtain ⟨M, hM⟩ : ∃ M, M = without (l'.take j) (y : Int) := ⟨_, rfl⟩
              rw [← hM] at hown hsub Hst
              clear hM
              obtain ⟨x, z⟩ := p
              have hbO : Below w7.heap.size w7 (wr.alloc (.cells #[.int .i64 x, .int .i64 z] 39)) := hbi.alloc hbi.size _
              by_cases hx : x = y
              · have hke : keepB y (x, z) = false := by simp [keepB, hx]
                have Hke := Lib.hid hke; have Hown := Lib.hid (hown.alloc (.cells #[.int .i64 x, .int .i64 z] 39))
                have hxb : (x != (y : Int)) = false := by simpa using hx
                clear hown hke hx
                go_wp2_with fail
                go_roundw
                case rel => exact ⟨j + 1, by omega, by go_num, by rw [Hst.out, Hke.out, if_neg (by simp), List.append_nil]; exact Hown.out, hbO⟩
                case measure => simp [intOf]; omega
              · have hxb : (x != (y : Int)) = true := by simpa using hx
                by_cases hz : z = y
                · have hke : keepB y (x, z) = false := by simp [keepB, hz]
                  have Hke := Lib.hid hke; have Hown := Lib.hid (hown.alloc (.cells #[.int .i64 x, .int .i64 z] 39))
                  have hzb : (z != (y : Int)) = false := by simpa using hz
                  clear hown hke hx hz
                  go_wp2_with fail
                  go_roundw
                  case rel => exact ⟨j + 1, by omega, by go_num, by rw [Hst.out, Hke.out, if_neg (by simp), List.append_nil]; exact Hown.out, hbO⟩
                  case measure => simp [intOf]; omega
                · have hke : keepB y (x, z) = true := by simp [keepB, hx, hz]
                  have Hke := Lib.hid hke
                  have hzb : (z != (y : Int)) = true := by simpa using hz
                  clear hke hx hz
                  have hownO := hown.alloc (.cells #[.int .i64 x, .int .i64 z] 39)
                  clear hown
                  go_wp2_with (first
                    | (at_builtin; refine wpList_append_own _ rfl (.tmp 99) (.tmp 101) 22 rfl w7.heap.size 39 i0 (.agg #[.int .i64 0, .int .i64 0]) 2 16 Try.underlying22 Hi.out Hz0.out Hz1.out Hz2.out rfl (by decide) _ _ _ rfl (hownO.alloc _) ⟨wr.heap.size + 1, 0, none⟩ 1 1 [.int .i64 x, .int .i64 z] rfl rfl ?d1 ?d2 ?d3 ?d4 ?d5 ?_))
                  case d2 => exact ⟨rfl, rfl⟩
                  case d3 => unfold maxLen; omega
                  case d4 => omega
                  case d5 => have := hbi.size; omega
                  intro v' w' hown' hgrow _
                  have hbl' := (hbO.alloc hbO.size (.cells #[.int .i64 x, .int .i64 z] 39)).grown hgrow (by have := hbi.size; simp; omega) (own_block hownO)
                  have Hown' := Lib.hid hown'; clear hown' hownO hgrow
                  go_wp2_with fail
                  go_roundw
                  case rel => exact ⟨j + 1, by omega, by go_num, by rw [Hst.out, Hke.out, if_pos rfl, prCells_append]; simpa [prCells] using Hown'.out, hbl'⟩
                  case measure => simp [intOf]; omega
            · obtain rfl : j = l'.length := by omega
              rw [List.take_of_length_le (Nat.le_refl _)] at hown
              obtain ⟨A8, c8, rfl⟩ := own_form hown
              have Hp8 := Lib.hid (PairsAt.of_own hown)
              have hbl8 := hbl7.trans (hbi.mono hbl7.size)
              clear hown hbi hbl7
              have hwl := without_len l' y
              go_wp2_with fail
              go_roundw
              case rel => exact ⟨k + 1, without l' y, A8, c8, by omega, by go_num, rfl, good_without Hg'.out y, by omega, Hv3.out, Hp8.out, hbl8⟩
              case measure => simp [intOf]; omega
    · obtain rfl : k = L.length := by omega
      have hv0 : vicL born (caughtL l') = 0 := by
        have := Hbr.out
        rw [List.drop_of_length_le (Nat.le_refl _)] at this
        cases this with
        | done h => exact h
      have hnone := vicL_none Hg'.out hv0
      have hbad' : badB l' = false := by
        have hany : l'.any edgeOut = false := by
          cases h : l'.any edgeOut
          · rfl
          · rw [List.any_eq_true] at h
            obtain ⟨p, hp, he⟩ := h
            have := Hg'.out p hp
            simp only [goodP] at this
            simp only [edgeOut, outB, Bool.or_eq_true, decide_eq_true_eq] at he
            omega
        unfold badB
        rw [hany, Bool.or_false, decide_eq_false_iff_not]
        omega
      have Hnone := Lib.hid hnone; have Hbad' := Lib.hid hbad'
      clear hv0 hnone hbad' Hbr
      go_wp2_with fail
      refine (Caught_good A' l' c' wr (by omega) Hpr.out Hbad'.out).mono ?_; rintro e w7 ⟨C, Ac, cc, hC, rfl, _, hb8⟩
      rw [Hnone.out] at hC
      subst hC
      have hb9 := hb6.trans ((hbl.trans (hb8.mono hbl.size)).mono hb6.size)
      go_wp2_with fail
      go_ret
      exact ⟨rfl, hb9⟩

end Go.Proofs.Ytdndoefjknnbhaa
