/-
  The walk of WaitOne (function 5): whatever the order and the ages, it returns true and changes nothing that was there. Conditions: the reach of a slice.
-/
import Derived.Test.YtdndoefjknnbhaaAwake
import Derived.Test.YtdndoefjknnbhaaOneP
import Derived.Deep.RegionLaw
namespace Go.Proofs.Ytdndoefjknnbhaa
open Go.RowKit

theorem n_range (s : Int) : 1 ≤ wrap64 (wrap64 ((IntKind.u64.wrap s).tmod 16) + 1) ∧ wrap64 (wrap64 ((IntKind.u64.wrap s).tmod 16) + 1) ≤ 16 := by
  have e : (IntKind.u64.wrap s).tmod 16 = (IntKind.u64.wrap s) % 16 := by
    rw [IntKind.wrap_u64]
    exact Int.tmod_eq_emod_of_nonneg (by omega)
  rw [e]
  generalize IntKind.u64.wrap s = z
  unfold wrap64
  omega
theorem sess_len {l : List Int} (hs : Sess l) : l.length ≤ 16 := by
  have h2 : (l.filter fun x => decide (1 ≤ x)).length ≤ 16 := by
    have key : ∀ n : Nat, ∀ m : List Int, m.Nodup → (∀ x ∈ m, 1 ≤ x ∧ x ≤ n) → m.length ≤ n := by
      intro n
      induction n with
      | zero =>
        intro m _ hm
        cases m with
        | nil => exact Nat.le_refl _
        | cons y m => have := hm y (List.mem_cons_self ..); omega
      | succ n ih =>
        intro m hn hm
        have h3 := ih (m.filter fun x => decide (x ≠ (n : Int) + 1)) (hn.sublist List.filter_sublist) (fun x hx => by
          obtain ⟨h4, h5⟩ := List.mem_filter.1 hx
          have := hm x h4
          simp at h5
          omega)
        have h4 : m.length ≤ (m.filter fun x => decide (x ≠ (n : Int) + 1)).length + 1 := by
          clear h3 ih hm
          induction m with
          | nil => simp
          | cons y m ih2 =>
            obtain ⟨g1, g2⟩ := List.nodup_cons.1 hn
            by_cases e : y = (n : Int) + 1
            · subst e
              have e2 : (m.filter fun x => decide (x ≠ (n : Int) + 1)) = m := by
                rw [List.filter_eq_self]
                intro x hx
                simp only [decide_eq_true_eq]
                rintro rfl
                exact g1 hx
              rw [List.filter_cons_of_neg (by simp), e2]
              simp
            · have := ih2 g2
              rw [List.filter_cons_of_pos (by simpa using e)]
              simp only [List.length_cons]
              omega
        omega
    exact key 16 _ (hs.1.sublist List.filter_sublist) (fun x hx => hs.2 x (List.mem_filter.1 hx).1)
  have h3 : (l.filter fun x => decide (1 ≤ x)) = l := by
    rw [List.filter_eq_self]
    intro x hx
    have := hs.2 x hx
    simp only [decide_eq_true_eq]
    omega
  rw [h3] at h2
  exact h2
theorem sess_snoc {l : List Int} (hs : Sess l) {x : Int} (hx : ¬ x ∈ l) (h1 : 1 ≤ x) (h2 : x ≤ 16) : Sess (l ++ [x]) := by
  refine ⟨List.nodup_append.2 ⟨hs.1, by simp, fun a ha b hb => ?_⟩, fun y hy => ?_⟩
  · simp at hb; subst hb
    rintro rfl
    exact hx ha
  · rcases List.mem_append.1 hy with hy | hy
    · exact hs.2 y hy
    · simp at hy; subst hy; exact ⟨h1, h2⟩
theorem mem_take_succ {l : List Int} {j : Nat} {x : Int} (hx : l[j]? = some x) (N : Int) : decide (N ∈ l.take (j + 1)) = (decide (N ∈ l.take j) || decide (x = N)) := by
  obtain ⟨hj, he⟩ := List.getElem?_eq_some_iff.1 hx
  rw [List.take_succ_eq_append_getElem hj, he]
  rw [Bool.eq_iff_iff]
  simp only [List.mem_append, List.mem_singleton, decide_eq_true_eq, Bool.or_eq_true]
  constructor
  · rintro (h | h)
    · exact .inl h
    · exact .inr h.symm
  · rintro (h | h)
    · exact .inl h
    · exact .inr h.symm

theorem news_two (w : World) (x y : Int) : ∀ j u, [Value.int .i64 x, Value.int .i64 y][j]? = some u → ((w.alloc (.cells #[.int .i64 x, .int .i64 y] 39)).drew).cell? ((⟨w.heap.size, 0, none⟩ : Addr).add j) = some u := by
  intro j u hj
  match j, hj with
  | 0, hj => simp at hj; subst hj; simp [Addr.add, World.cell?_alloc_at]
  | 1, hj => simp at hj; subst hj; simp [Addr.add, World.cell?_alloc_at]

/-- One pair more, at a step of a region that draws its order. -/
theorem step_append_pair {w : World} {ops : Array Oper} {o : Oper} {a : Act} {K : Act → World → Prop} {Q : Exit → Act → World → Prop} {E : Prop} (s x : Operand)
    (hgd : o.guard = none) (ho : o.op = .call { callee := .builtin .append, args := #[s, x], argTypes := #[22, 22] })
    (base : Nat) (v : Value) (n : Nat) (xs : List Value) (hs : a.eval s = v) (hown : w.ownsRow base 39 2 v n xs)
    (ad : Addr) (c : Nat) (p q : Int) (hx : a.eval x = .slice (some ad) 1 c) (hnews : ∀ j u, [Value.int .i64 p, Value.int .i64 q][j]? = some u → w.cell? (ad.add j) = some u)
    (hn : n ≤ 1000) (hbase : base ≤ w.heap.size)
    (h : ∀ v' w', w'.ownsRow base 39 2 v' (n + 1) (xs ++ [.int .i64 p, .int .i64 q]) → w.grownBy w' v.ownBlock → K (a.put o.dst v') w') :
    if Region.wanted o (yielded ops a.tmps) = true then Oper.wp Try.prog o a w K Q else E := by
  obtain ⟨i1, gi, gz0, gz1, gz2⟩ := info_parts Try.info39
  have hw : Region.wanted o (yielded ops a.tmps) = true := by simp [Region.wanted, hgd]
  rw [if_pos hw]
  refine wp_append_own w s x 22 ho base 39 i1 (.agg #[.int .i64 0, .int .i64 0]) 2 16 Try.underlying22 gi gz0 gz1 gz2 rfl (by decide) v n xs hs hown ad 1 c [.int .i64 p, .int .i64 q] hx rfl hnews ?_ (by unfold maxLen; omega) (by omega) hbase ?_
  · intro u hu
    simp at hu
    rcases hu with rfl | rfl <;> rfl
  · intro v' w' h1 h2 _
    exact h v' w' h1 h2

theorem badB_of_good {l : List (Int × Int)} (hg : Good l) (hn : l.length ≤ 256) : badB l = false := by
  have hany : l.any edgeOut = false := by
    cases h : l.any edgeOut
    · rfl
    · rw [List.any_eq_true] at h
      obtain ⟨p, hp, he⟩ := h
      have := hg p hp
      simp only [goodP] at this
      simp only [edgeOut, outB, Bool.or_eq_true, decide_eq_true_eq] at he
      omega
  unfold badB
  rw [hany, Bool.or_false, decide_eq_false_iff_not]
  omega

set_option maxRecDepth 100000 in
set_option maxHeartbeats 1000000 in
theorem one_any (Ao : Option Addr) (order : List Int) (co : Nat) (Ab : Option Addr) (born : List Int) (cb : Nat) (w : World) (ho : IntsAt w w.heap.size Ao order) (hb : IntsAt w w.heap.size Ab born) (hon : order.length ≤ 140737488351232) :
    Calls Try.prog 5 #[.slice Ao order.length co, .slice Ab born.length cb] w fun e w' => e = .returned (.bool true) ∧ Below w.heap.size w w' := by
  obtain ⟨i0, hi, hz0, hz1, hz2⟩ := info_parts Try.info3
  have Hz0 := Lib.hid hz0; have Hz1 := Lib.hid hz1; have Hz2 := Lib.hid hz2; have Hi := Lib.hid hi
  clear hz0 hz1 hz2 hi
  obtain ⟨i1, gi, gz0, gz1, gz2⟩ := info_parts Try.info39
  have Gz0 := Lib.hid gz0; have Gz1 := Lib.hid gz1; have Gz2 := Lib.hid gz2; have Gi := Lib.hid gi
  clear gz0 gz1 gz2 gi
  have Ho := Lib.hid ho; have Hb := Lib.hid hb; clear ho hb
  go_enter Try.func5, Try.ntmps5
  go_wp2_with fail
  refine (awake_any w).mono ?_; rintro e w1 ⟨rfl, hb1⟩
  go_wp2_with fail
  go_loopw [5, 28] (fun v i wr => ∃ (k : Nat) (l : List Int), k ≤ order.length ∧ i = .int .i64 k ∧ Sess l ∧ wr.ownsRow w.heap.size 3 1 v l.length (l.map (Value.int .i64)) ∧ Below w.heap.size w wr) (fun _ i _ => order.length - (intOf i).toNat)
  case atStart => exact ⟨0, [], by omega, rfl, ⟨List.nodup_nil, fun x hx => by simp at hx⟩, World.ownsRow_nil _ _ _ _, hb1⟩
  case round =>
    obtain ⟨k, l, hk, rfl, hs, hown, hbl⟩ := hrel
    have Hs := Lib.hid hs; clear hs hb1
    by_cases hlt : k < order.length
    · obtain ⟨s, hsk⟩ : ∃ s, order[k]? = some s := ⟨order[k], List.getElem?_eq_getElem hlt⟩
      obtain ⟨b, off, rfl, _, hc⟩ := Ho.out.below hbl k s hsk
      clear hsk
      have Hown := Lib.hid hown; clear hown
      obtain ⟨A, c, rfl⟩ := own_form Hown.out
      have HA := Lib.hid (IntsAt.of_own Hown.out)
      go_wp2_with fail
      obtain ⟨hN1, hN2⟩ := n_range s
      obtain ⟨N, hN⟩ : ∃ N, N = wrap64 (wrap64 ((IntKind.u64.wrap s).tmod 16) + 1) := ⟨_, rfl⟩
      rw [← hN] at hN1 hN2 ⊢
      clear hN
      have hl16 := sess_len Hs.out
      go_loop [9, 39] (fun tw i => ∃ (j : Nat) (tb : Bool), j ≤ l.length ∧ i = .int .i64 j ∧ tw = .bool tb ∧ tb = decide (N ∈ l.take j)) (fun _ i => l.length - (intOf i).toNat)
      case atStart => exact ⟨0, false, by omega, rfl, rfl, by simp⟩
      case round =>
        obtain ⟨j, tb, hj, rfl, rfl, htb⟩ := hrel
        have Htb := Lib.hid htb; clear htb
        by_cases hjt : j < l.length
        · obtain ⟨x, hx⟩ : ∃ x, l[j]? = some x := ⟨l[j], List.getElem?_eq_getElem hjt⟩
          obtain ⟨b2, off2, rfl, _, hcx⟩ := HA.out j x hx
          have Hst := Lib.hid (mem_take_succ hx N)
          clear hx hc
          cases tb
          · by_cases hxN : x = N
            · have hxb : (x == N) = true := by simpa using hxN
              have HxN := Lib.hid hxN; clear hxN
              go_wp2_with fail
              go_round
              case rel => exact ⟨j + 1, true, by omega, by go_num, rfl, by rw [Hst.out, ← Htb.out]; simp [HxN.out]⟩
              case measure => simp [intOf]; omega
            · have hxb : (x == N) = false := by simpa using hxN
              have HxN := Lib.hid hxN; clear hxN
              go_wp2_with fail
              go_round
              case rel => exact ⟨j + 1, false, by omega, by go_num, rfl, by rw [Hst.out, ← Htb.out]; simp [HxN.out]⟩
              case measure => simp [intOf]; omega
          · go_wp2_with fail
            go_round
            case rel => exact ⟨j + 1, true, by omega, by go_num, rfl, by rw [Hst.out, ← Htb.out]; rfl⟩
            case measure => simp [intOf]; omega
        · obtain rfl : j = l.length := by omega
          have htb := Htb.out
          rw [List.take_of_length_le (Nat.le_refl _)] at htb
          clear Htb
          cases tb
          · have hNl : ¬ N ∈ l := of_decide_eq_false htb.symm
            have HNl := Lib.hid hNl
            have hown := Hown.out
            clear hNl htb hc
            go_wp2_with (at_builtin; refine wpList_append_own _ rfl (.tmp 52) (.tmp 54) 23 rfl w.heap.size 3 i0 (.int .i64 0) 1 8 Try.underlying23 Hi.out Hz0.out Hz1.out Hz2.out rfl (by decide) _ _ _ rfl (hown.alloc _) ⟨wr.heap.size, 0, none⟩ 1 1 [.int .i64 N] rfl rfl ?c1 ?c2 ?c3 ?c4 ?c5 ?_)
            case c2 => exact rfl
            case c3 => unfold maxLen; omega
            case c4 => omega
            case c5 => have := hbl.size; simp; omega
            intro v' w' hown' hgrow _
            have hbl' := (hbl.alloc hbl.size (.cells #[.int .i64 N] 3)).grown hgrow (by have := hbl.size; simp; omega) (own_block hown)
            have Hown' := Lib.hid hown'; clear hown' hown hgrow Hown
            go_wp2_with fail
            go_roundw
            case rel => exact ⟨k + 1, l ++ [N], by omega, by go_num, sess_snoc Hs.out HNl.out hN1 hN2, by simpa using Hown'.out, hbl'⟩
            case measure => simp [intOf]; omega
          · clear htb hc
            go_wp2_with fail
            go_roundw
            case rel => exact ⟨k + 1, l, by omega, by go_num, Hs.out, Hown.out, hbl⟩
            case measure => simp [intOf]; omega
    · obtain rfl : k = order.length := by omega
      obtain ⟨A, c, rfl⟩ := own_form hown
      by_cases hl0 : l.length = 0
      · have HA := Lib.hid (IntsAt.of_own hown)
        have hz : ((l.length : Int) == 0) = true := by rw [beq_iff_eq]; omega
        clear hown hl0
        go_wp2_with fail
        go_ret
        exact ⟨rfl, hbl⟩
      · have HA := Lib.hid (IntsAt.of_own hown)
        have hz : ((l.length : Int) == 0) = false := by rw [beq_eq_false_iff_ne]; omega
        have hl1 : 0 < l.length := by omega
        have hl16 := sess_len Hs.out
        obtain ⟨bl, ol, rfl, hbl0, hc0⟩ := HA.out 0 (gAt l 0) (gAt_get hl1)
        rw [Nat.add_zero] at hc0
        clear hown hl0
        go_wp2_with fail
        obtain ⟨wo, rfl⟩ : ∃ wo : World, wo = wr := ⟨_, rfl⟩
        clear hc0
        go_loopw [12, 14] (fun rv i wr2 => ∃ j : Nat, j + 1 ≤ l.length ∧ i = .int .i64 j ∧ wr2.ownsRow wo.heap.size 39 2 rv j (prCells (rowTo l j)) ∧ Below wo.heap.size wo wr2) (fun _ i _ => l.length - (intOf i).toNat)
        case atStart => exact ⟨0, by omega, rfl, World.ownsRow_nil _ _ _ _, Below.refl _ _⟩
        case round =>
          obtain ⟨j, hj, rfl, hown, hbi⟩ := hrel
          by_cases hjt : j + 1 < l.length
          · obtain ⟨b1, o1, e1, _, hc1⟩ := HA.out j (gAt l j) (gAt_get (by omega))
            obtain ⟨b2, o2, e2, _, hc2⟩ := HA.out (j + 1) (gAt l (j + 1)) (gAt_get (by omega))
            injection e1 with e1
            injection e2 with e2
            injection e1 with e1 e1'
            injection e2 with e2 e2'
            subst e1; subst e1'; subst e2; subst e2'
            have hd1 := (hbi.cell (p := ⟨bl, ol + j, none⟩) hbl0).trans hc1
            have hd2 := (hbi.cell (p := ⟨bl, ol + (j + 1), none⟩) hbl0).trans hc2
            clear hc1 hc2
            obtain ⟨x, hx⟩ : ∃ x, x = gAt l j := ⟨_, rfl⟩
            obtain ⟨y, hy⟩ : ∃ y, y = gAt l (j + 1) := ⟨_, rfl⟩
            rw [← hx] at hd1; rw [← hy] at hd2
            have Hx := Lib.hid hx; have Hy := Lib.hid hy; have Hown := Lib.hid hown; clear hx hy hown
            have hj0 : j < l.length := by omega
            go_wp2_with fail
            have hw1 : IntKind.i64.wrap ((j : Int) + 1) = (j : Int) + 1 := IntWalk.i64_in _ (by omega)
            have hw2 : (0 : Int) ≤ (j : Int) + 1 := by omega
            have hw3 : ((j : Int) + 1).toNat = j + 1 := by omega
            have hw4 : (j : Int) + 1 < (l.length : Int) := by omega
            have hbs := hbi.size
            go_region_law (refine step_append_pair (.tmp 70) (.tmp 81) rfl rfl wo.heap.size _ j (prCells (rowTo l j)) rfl ((Hown.out.alloc _).drew) ⟨wr.heap.size, 0, none⟩ 1 x y rfl (news_two wr x y) (by omega) (by simp; omega) ?_; intro v' w' hown' hgrow)
            all_goals
              have hbl' := ((hbi.alloc hbi.size (.cells #[.int .i64 x, .int .i64 y] 39)).drew).grown hgrow (by simp; omega) (own_block Hown.out)
              have Hown' := Lib.hid hown'
              clear hown' hgrow hw1 hw2 hw3 hw4 hd1 hd2
              go_wp2_with fail
              go_roundw
            all_goals first
              | (case rel => exact ⟨j + 1, by omega, by go_num, by rw [rowTo_succ, prCells_append, ← Hx.out, ← Hy.out]; simpa [prCells] using Hown'.out, hbl'⟩)
              | (case measure => simp [intOf]; omega)
          · have hM : (rowTo l j).length = j := rowTo_len l j
            have hMe : rowTo l j = rowP l := by unfold rowP; congr 1; omega
            obtain ⟨M, hMM⟩ : ∃ M, M = rowTo l j := ⟨_, rfl⟩
            rw [← hMM] at hM hMe hown
            have hown1 : wr.ownsRow wo.heap.size 39 2 u12 M.length (prCells M) := by rw [hM]; exact hown
            obtain ⟨Ar, cr, rfl⟩ := own_form hown1
            have hbest0 : gAt l 0 = bestTo born l 0 := rfl
            have hj1 : (j : Int) + 1 = (l.length : Int) := by omega
            have Hown1 := Lib.hid hown1; have HMe := Lib.hid hMe; have HM := Lib.hid hM; have Hb0 := Lib.hid hbest0; have Hj1 := Lib.hid hj1
            have hbl4 := hbl.trans (hbi.mono hbl.size)
            have HA4 := Lib.hid (HA.out.later hbi)
            have Hb4 := Lib.hid (Hb.out.later hbl4)
            clear hMM hM hMe hown hown1 hbest0 hj1
            go_wp2_with fail
            go_loop [13, 85] (fun bv i => ∃ k2 : Nat, k2 ≤ l.length ∧ i = .int .i64 k2 ∧ bv = .int .i64 (bestTo born l k2)) (fun _ i => l.length - (intOf i).toNat)
            case atStart => exact ⟨0, by omega, rfl, by rw [← Hb0.out]⟩
            case round =>
              obtain ⟨k2, hk2, rfl, rfl⟩ := hrel
              by_cases hkt : k2 < l.length
              · obtain ⟨b3, o3, e3, _, hc3⟩ := HA4.out k2 (gAt l k2) (gAt_get hkt)
                injection e3 with e3
                injection e3 with e3 e3'
                subst e3; subst e3'
                have hstep := bestTo_succ born l k2 _ (gAt_get hkt)
                have hsr := Hs.out.2 _ (gAt_mem hkt)
                have hBr := Hs.out.2 _ (bestTo_mem born hl1 k2)
                obtain ⟨s, hsd⟩ : ∃ s, s = gAt l k2 := ⟨_, rfl⟩
                obtain ⟨B, hBd⟩ : ∃ B, B = bestTo born l k2 := ⟨_, rfl⟩
                rw [← hsd] at hc3 hstep hsr
                rw [← hBd] at hstep hBr
                rw [← hBd]
                obtain ⟨a, ha⟩ : ∃ a, a = ageL born s := ⟨_, rfl⟩
                obtain ⟨u, hu⟩ : ∃ u, u = ageL born B := ⟨_, rfl⟩
                unfold bestStep at hstep
                rw [← ha, ← hu] at hstep
                have Hstep := Lib.hid hstep; have Ha := Lib.hid ha; have Hu := Lib.hid hu
                clear hstep ha hu hsd hBd
                obtain ⟨hs1, hs2⟩ := hsr
                obtain ⟨hB1, hB2⟩ := hBr
                go_wp2_with fail
                refine (age_any Ab born cb s wr Hb4.out (by omega)).mono ?_; rintro e w' ⟨rfl, rfl⟩
                rw [← Ha.out]
                go_wp2_with fail
                refine (age_any Ab born cb B wr Hb4.out (by omega)).mono ?_; rintro e w' ⟨rfl, rfl⟩
                rw [← Hu.out]
                by_cases hua : u < a
                · have Hnew := Lib.hid (Hstep.out.trans (if_pos (.inl hua)))
                  go_wp2_with fail
                  go_round
                  case rel => exact ⟨k2 + 1, by omega, by go_num, by rw [Hnew.out]⟩
                  case measure => simp [intOf]; omega
                · go_wp2_with fail
                  refine (age_any Ab born cb s wr Hb4.out (by omega)).mono ?_; rintro e w' ⟨rfl, rfl⟩
                  rw [← Ha.out]
                  go_wp2_with fail
                  refine (age_any Ab born cb B wr Hb4.out (by omega)).mono ?_; rintro e w' ⟨rfl, rfl⟩
                  rw [← Hu.out]
                  by_cases hau : a = u
                  · have haub : (a == u) = true := by rw [beq_iff_eq]; exact hau
                    by_cases hBs : B < s
                    · have Hnew := Lib.hid (Hstep.out.trans (if_pos (.inr ⟨hau, hBs⟩)))
                      clear hau
                      go_wp2_with fail
                      go_round
                      case rel => exact ⟨k2 + 1, by omega, by go_num, by rw [Hnew.out]⟩
                      case measure => simp [intOf]; omega
                    · have Hnew := Lib.hid (Hstep.out.trans (if_neg (by omega)))
                      clear hau
                      go_wp2_with fail
                      go_round
                      case rel => exact ⟨k2 + 1, by omega, by go_num, by rw [Hnew.out]⟩
                      case measure => simp [intOf]; omega
                  · have haub : (a == u) = false := by rw [beq_eq_false_iff_ne]; exact hau
                    have Hnew := Lib.hid (Hstep.out.trans (if_neg (by omega)))
                    clear hau
                    go_wp2_with fail
                    go_round
                    case rel => exact ⟨k2 + 1, by omega, by go_num, by rw [Hnew.out]⟩
                    case measure => simp [intOf]; omega
              · obtain rfl : k2 = l.length := by omega
                obtain ⟨best, hbd⟩ : ∃ best, best = bestTo born l l.length := ⟨_, rfl⟩
                have hbm : best ∈ l := by rw [hbd]; exact bestTo_mem born hl1 _
                have hmax : ∀ x ∈ l, Older born x best := by rw [hbd]; exact bestTo_max born
                rw [← hbd]
                have hMg : Good M := by rw [HMe.out]; exact row_good Hs.out
                have hM16 : M.length ≤ 16 := by have := HM.out; omega
                have HMg := Lib.hid hMg
                have Hbrk := Lib.hid (ring_breaks born Hs.out hl1 hbm hmax)
                clear hbd hbm hmax hMg
                go_wp2_with fail
                refine (Caught_good Ar M cr wr (by omega) (PairsAt.of_own Hown1.out) (badB_of_good HMg.out (by omega))).mono ?_; rintro e w5 ⟨C1, A5, c5, hC1, rfl, _, hb5⟩
                have hC1' : C1 = [] := by rw [hC1, HMe.out]; exact row_none Hs.out
                subst hC1'
                have hbl5 := hbl4.trans (hb5.mono hbl4.size)
                have HA5 := Lib.hid (HA4.out.later hb5)
                have Hb5 := Lib.hid (Hb4.out.later hb5)
                have Hown5 := Lib.hid (own_below Hown1.out hb5)
                have hbi5 := hbi.size
                have hws5 := hb5.size
                clear hC1 Hown1 hbl4 HA4 Hb4 hb5
                obtain ⟨n1, hn1⟩ : ∃ n1, n1 = l.length - 1 := ⟨_, rfl⟩
                obtain ⟨b4, o4, e4, _, hc4⟩ := HA5.out n1 (gAt l n1) (gAt_get (by omega))
                obtain ⟨b6, o6, e6, _, hc6⟩ := HA5.out 0 (gAt l 0) (gAt_get hl1)
                injection e4 with e4
                injection e4 with e4 e4'
                subst e4; subst e4'
                injection e6 with e6
                injection e6 with e6 e6'
                subst e6; subst e6'
                rw [Nat.add_zero] at hc6
                obtain ⟨x, hx⟩ : ∃ x, x = gAt l n1 := ⟨_, rfl⟩
                obtain ⟨y, hy⟩ : ∃ y, y = gAt l 0 := ⟨_, rfl⟩
                rw [← hx] at hc4; rw [← hy] at hc6
                have Hring : Hid (M ++ [(x, y)] = ringP l) := Lib.hid (by rw [HMe.out, hx, hy, hn1]; rfl)
                have hw1 : IntKind.i64.wrap ((l.length : Int) - 1) = (n1 : Int) := by rw [IntWalk.i64_in _ (by omega)]; omega
                have hn1l : n1 < l.length := by omega
                have hn1i : (n1 : Int) < (l.length : Int) := by omega
                have hl1i : (0 : Int) < (l.length : Int) := by omega
                clear hx hy hn1
                go_wp2_with fail
                go_region_law (refine step_append_pair (.tmp 117) (.tmp 128) rfl rfl wo.heap.size _ M.length (prCells M) rfl ((Hown5.out.alloc _).drew) ⟨w5.heap.size, 0, none⟩ 1 x y rfl (news_two w5 x y) (by omega) (by simp; omega) ?_; intro v' w6 hown6 hgrow)
                all_goals
                  have hbl6 := ((hbl5.alloc hbl5.size (.cells #[.int .i64 x, .int .i64 y] 39)).drew).grown hgrow (by have := hbl5.size; simp; omega) (fun k hk => Nat.le_trans hbl.size (own_block Hown5.out k hk))
                  obtain ⟨R, hR⟩ : ∃ R, R = ringP l := ⟨_, rfl⟩
                  have hR2 : M ++ [(x, y)] = R := by rw [hR]; exact Hring.out
                  have hRl : R.length = M.length + 1 := by rw [← hR2]; simp
                  have hown7 : w6.ownsRow wo.heap.size 39 2 v' R.length (prCells R) := by
                    rw [hRl, ← hR2, prCells_append]
                    simpa [prCells] using hown6
                  obtain ⟨A6, c6, rfl⟩ := own_form hown7
                  have HR := Lib.hid hR
                  have hRg : Good R := by rw [hR]; exact ring_good Hs.out hl1
                  have hRb := Lib.hid (badB_of_good hRg (by omega))
                  have hR17 : R.length ≤ 17 := by omega
                  have Hp6 := Lib.hid (PairsAt.of_own hown7)
                  have Hb6 := Lib.hid (Hb.out.later hbl6)
                  clear hR hR2 hRl hRg hown7 hown6 hgrow Hown5 hbl5 Hb5 hc4 hc6 hw1 hn1l hn1i
                  go_wp2_with fail
                  refine (Caught_good A6 R c6 w6 (by omega) Hp6.out hRb.out).mono ?_; rintro e w7 ⟨C2, A7, c7, hC2, rfl, _, hb7⟩
                  have hCl : C2.length = l.length := by rw [hC2, HR.out]; exact ring_len Hs.out hl1
                  have hClb : ((C2.length : Int) == (l.length : Int)) = true := by rw [beq_iff_eq, hCl]
                  have hbl7 := hbl6.trans (hb7.mono hbl6.size)
                  have Hp7 := Lib.hid (Hp6.out.later hb7)
                  have Hb7 := Lib.hid (Hb6.out.later hb7)
                  clear hC2 hCl Hp6 Hb6 hb7 hbl6
                  go_wp2_with fail
                  refine (Break_good A6 R c6 Ab born cb w7 (by omega) Hp7.out Hb7.out hRb.out).mono ?_; rintro e w8 ⟨L, A8, c8, hL, rfl, hown8, hb8⟩
                  rw [HR.out] at hL
                  have hLb : L = [best] := hL.same Hbrk.out
                  subst hLb
                  have Hi8 := Lib.hid (IntsAt.of_own hown8)
                  have hbl8 := hbl7.trans (hb8.mono hbl7.size)
                  obtain ⟨w9, hw9⟩ : ∃ w9, w9 = w8.alloc (.cells #[.int .i64 best] 3) := ⟨_, rfl⟩
                  have hb9 : Below w8.heap.size w8 w9 := by rw [hw9]; exact (Below.refl _ _).alloc (Nat.le_refl _) _
                  have hi9 : IntsAt w9 w9.heap.size (some ⟨w8.heap.size, 0, none⟩) [best] := by rw [hw9]; exact IntsAt.new w8 [best] _ (by simp)
                  have Hi9 := Lib.hid hi9; have Hw9 := Lib.hid hw9
                  have Hi8' := Lib.hid (Hi8.out.later hb9)
                  have hbl9 := hbl8.trans (hb9.mono hbl8.size)
                  clear hL hown8 hbl7 hb8 Hp7 Hb7 hi9 hw9 hb9 Hi8 hbl8
                  go_wp2_with fail
                  rw [← Hw9.out]
                  refine (ints_same A8 (some ⟨w8.heap.size, 0, none⟩) [best] c8 1 w9 (by simp) Hi8'.out Hi9.out).mono ?_; rintro e w10 ⟨rfl, hb10⟩
                  have hbl10 := hbl9.trans (hb10.mono hbl9.size)
                  clear Hi8' Hi9 hbl9 hb10 Hw9
                  go_wp2_with fail
                  go_ret
                  exact ⟨rfl, hbl10⟩

end Go.Proofs.Ytdndoefjknnbhaa
