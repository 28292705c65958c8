/-
  The walk of WaitVictims (function 3): whatever the edges and the ages, it returns true and changes nothing that was there. Conditions: the reach of a slice.
-/
import Derived.Test.YtdndoefjknnbhaaAwake
import Derived.Test.YtdndoefjknnbhaaRefBreak
namespace Go.Proofs.Ytdndoefjknnbhaa
open Go.RowKit

theorem IntsAt.news {w : World} {B : Nat} {ad : Addr} {l : List Int} (h : IntsAt w B (some ad) l) : ∀ j u, (l.map (Value.int .i64))[j]? = some u → w.cell? (ad.add j) = some u := by
  intro j u hu
  rw [List.getElem?_map] at hu
  cases hx : l[j]? with
  | none => rw [hx] at hu; simp at hu
  | some x =>
    rw [hx] at hu
    simp at hu
    subst hu
    obtain ⟨b, off, e, _, hc⟩ := h j x hx
    injection e with e
    subst e
    have ha : (⟨b, off, none⟩ : Addr).add j = ⟨b, off + j, none⟩ := by unfold Addr.add; split <;> simp_all
    rw [ha]; exact hc
theorem IntsAt.none_ {w : World} {B : Nat} {l : List Int} (h : IntsAt w B none l) : l = [] := by
  cases l with
  | nil => rfl
  | cons p l =>
    obtain ⟨b, off, e, _⟩ := h 0 p rfl
    cases e

theorem Breaks.len {born : List Int} {l : List (Int × Int)} {r : List Int} (hg : Good l) (h : Breaks born l r) : r.length ≤ l.length := by
  induction h with
  | done _ => exact Nat.zero_le _
  | next h0 _ ih =>
    have h1 := ih (good_without hg _)
    have h2 := without_lt (vicL_leads hg h0).first
    simp only [List.length_cons]
    omega

/-- A copy of numbers in new memory: 'append([]int{}, xs...)', xs nil or not. -/
theorem wpList_copy_ints (w : World) {ops : Array Oper} {rest : List Oper} {o : Oper} {a : Act} {Q : Exit → Act → World → Prop}
    (hg : o.guard = none) (s x : Operand) (hop : o.op = Op.call { callee := Callee.builtin Builtin.append, args := #[s, x], argTypes := #[23, 23] })
    (base : Nat) (v : Value) (hs : a.eval s = v) (hown : w.ownsRow base 3 1 v 0 []) (hbase : base ≤ w.heap.size)
    (A : Option Addr) (l : List Int) (c : Nat) (hx : a.eval x = .slice A l.length c) (hnil : A = none → c = 0) (hl : l.length ≤ 17592186043904) (B : Nat) (hr : IntsAt w B A l)
    (hK : ∀ A' c' w', w'.ownsRow base 3 1 (.slice A' l.length c') l.length (l.map (Value.int .i64)) → w.grownBy w' v.ownBlock → wpList Try.prog ops Q rest (a.put o.dst (.slice A' l.length c')) w') :
    wpList Try.prog ops Q (o :: rest) a w := by
  obtain ⟨i0, hi, hz0, hz1, hz2⟩ := info_parts Try.info3
  rcases A with _ | ad
  · obtain rfl := hnil rfl
    obtain rfl := hr.none_
    refine wpList_append_own_none hg s x 23 hop base 3 i0 1 Try.underlying23 hi v 0 [] hs hown hx ?_
    obtain ⟨A', c', rfl⟩ := own_form hown
    exact hK A' c' w hown (World.grownBy.refl _ _)
  · refine wpList_append_own w hg s x 23 hop base 3 i0 (.int .i64 0) 1 8 Try.underlying23 hi hz0 hz1 hz2 rfl (by decide) v 0 [] hs hown ad l.length c (l.map (Value.int .i64)) hx (by simp) hr.news (ints_oneCell .i64 l) (by unfold maxLen; omega) (by omega) hbase ?_
    intro v' w' hown' hgr _
    rw [Nat.zero_add, List.nil_append] at hown'
    obtain ⟨A', c', rfl⟩ := own_form hown'
    exact hK A' c' w' hown' hgr

set_option maxHeartbeats 400000 in
theorem victims_big (A : Option Addr) (l : List (Int × Int)) (cap : Nat) (Ab : Option Addr) (born : List Int) (cb : Nat) (w : World) (hn : 600 < l.length) :
    Calls Try.prog 3 #[.slice A l.length cap, .slice Ab born.length cb] w fun e w' => e = .returned (.bool true) ∧ Below w.heap.size w w' := by
  go_enter Try.func3, Try.ntmps3
  go_wp2_with fail
  refine (awake_any w).mono ?_; rintro e w1 ⟨rfl, hb1⟩
  go_wp2_with fail
  refine (awake_any w1).mono ?_; rintro e w2 ⟨rfl, hb2⟩
  go_wp2_with fail
  go_ret
  exact ⟨rfl, hb1.trans (hb2.mono hb1.size)⟩

set_option maxHeartbeats 800000 in
theorem victims_bad (A : Option Addr) (l : List (Int × Int)) (cap : Nat) (Ab : Option Addr) (born : List Int) (cb : Nat) (w : World) (hn : l.length ≤ 600) (hA : A = none → cap = 0) (hAb : Ab = none → cb = 0)
    (hr : PairsAt w w.heap.size A l) (hb : IntsAt w w.heap.size Ab born) (hbn : born.length ≤ 17592186043904) (hbad : badB l = true) :
    Calls Try.prog 3 #[.slice A l.length cap, .slice Ab born.length cb] w fun e w' => e = .returned (.bool true) ∧ Below w.heap.size w w' := by
  have Hr := Lib.hid hr; have Hb := Lib.hid hb; have HA := Lib.hid hA; have HAb := Lib.hid hAb; have Hbad := Lib.hid hbad
  clear hr hb hA hAb hbad
  go_enter Try.func3, Try.ntmps3
  go_wp2_with fail
  refine (awake_any w).mono ?_; rintro e w1 ⟨rfl, hb1⟩
  go_wp2_with fail
  refine (own_any A l cap w1 hn HA.out (Hr.out.later hb1)).mono ?_; rintro e w2 ⟨A2, c2, rfl, hown2, hb2⟩
  have Hp2 := Lib.hid (PairsAt.of_own hown2)
  have hbb2 := hb1.trans (hb2.mono hb1.size)
  have Hown2 := Lib.hid (World.ownsRow_made (e := 3) (size := 1) w2 #[] 0 (Nat.le_refl _) (by decide) rfl)
  have hbc2 : Below w2.heap.size w2 (w2.alloc (.cells #[] 3)) := (Below.refl _ _).alloc (Nat.le_refl _) _
  clear hown2 hb2 hb1
  go_wp2_with (at_builtin; refine wpList_copy_ints _ rfl (.tmp 23) (.tmp 24) rfl w2.heap.size _ rfl Hown2.out (by simp) Ab born cb rfl HAb.out hbn _ (Hb.out.below (hbb2.trans (hbc2.mono hbb2.size))) ?_)
  intro Ab2 cb2 w3 hownb2 hgr2
  have hbd2 : Below w2.heap.size w2 w3 := hbc2.grown hgr2 (by simp) (own_block Hown2.out)
  have Hbb2 := Lib.hid (IntsAt.of_own hownb2)
  have Hpb2 := Lib.hid (Hp2.out.later hbd2)
  have hbe2 := hbb2.trans (hbd2.mono hbb2.size)
  clear hownb2 hgr2 hbc2 Hown2 Hp2 hbd2 hbb2
  go_wp2_with fail
  refine (Victim_bad A2 l c2 Ab2 born cb2 w3 (by omega) Hpb2.out Hbad.out).mono ?_; rintro e w4 ⟨rfl, hb4⟩
  have hb5 := hbe2.trans (hb4.mono hbe2.size)
  clear hbe2 hb4 Hbb2 Hpb2
  go_wp2_with fail
  refine (own_any A l cap w4 hn HA.out (Hr.out.later hb5)).mono ?_; rintro e w6 ⟨A6, c6, rfl, hown6, hb6⟩
  have Hp6 := Lib.hid (PairsAt.of_own hown6)
  have hbb6 := hb5.trans (hb6.mono hb5.size)
  have Hown6 := Lib.hid (World.ownsRow_made (e := 3) (size := 1) w6 #[] 0 (Nat.le_refl _) (by decide) rfl)
  have hbc6 : Below w6.heap.size w6 (w6.alloc (.cells #[] 3)) := (Below.refl _ _).alloc (Nat.le_refl _) _
  clear hown6 hb6 hb5
  go_wp2_with (at_builtin; refine wpList_copy_ints _ rfl (.tmp 33) (.tmp 34) rfl w6.heap.size _ rfl Hown6.out (by simp) Ab born cb rfl HAb.out hbn _ (Hb.out.below (hbb6.trans (hbc6.mono hbb6.size))) ?_)
  intro Ab6 cb6 w7 hownb6 hgr6
  have hbd6 : Below w6.heap.size w6 w7 := hbc6.grown hgr6 (by simp) (own_block Hown6.out)
  have Hbb6 := Lib.hid (IntsAt.of_own hownb6)
  have Hpb6 := Lib.hid (Hp6.out.later hbd6)
  have hbe6 := hbb6.trans (hbd6.mono hbb6.size)
  clear hownb6 hgr6 hbc6 Hown6 Hp6 hbd6 hbb6
  go_wp2_with fail
  refine (Break_bad A6 l c6 Ab6 born cb6 w7 (by omega) Hpb6.out Hbad.out).mono ?_; rintro e w8 ⟨rfl, hb8⟩
  have hb9 := hbe6.trans (hb8.mono hbe6.size)
  clear hbe6 hb8 Hbb6 Hpb6
  go_wp2_with fail
  refine (look_any A l cap w8 1 (by rw [Hbad.out]; rfl) (by omega) (Hr.out.later hb9)).mono ?_; rintro e w8' ⟨rfl, rfl⟩
  go_wp2_with fail
  go_ret
  exact ⟨rfl, hb9⟩

set_option maxHeartbeats 800000 in
theorem victims_good (A : Option Addr) (l : List (Int × Int)) (cap : Nat) (Ab : Option Addr) (born : List Int) (cb : Nat) (w : World) (hn : l.length ≤ 600) (hA : A = none → cap = 0) (hAb : Ab = none → cb = 0)
    (hr : PairsAt w w.heap.size A l) (hb : IntsAt w w.heap.size Ab born) (hbn : born.length ≤ 17592186043904) (hbad : badB l = false) :
    Calls Try.prog 3 #[.slice A l.length cap, .slice Ab born.length cb] w fun e w' => e = .returned (.bool true) ∧ Below w.heap.size w w' := by
  have Hr := Lib.hid hr; have Hb := Lib.hid hb; have HA := Lib.hid hA; have HAb := Lib.hid hAb; have Hbad := Lib.hid hbad
  clear hr hb hA hAb hbad
  go_enter Try.func3, Try.ntmps3
  go_wp2_with fail
  refine (awake_any w).mono ?_; rintro e w1 ⟨rfl, hb1⟩
  go_wp2_with fail
  refine (own_any A l cap w1 hn HA.out (Hr.out.later hb1)).mono ?_; rintro e w2 ⟨A2, c2, rfl, hown2, hb2⟩
  have Hp2 := Lib.hid (PairsAt.of_own hown2)
  have hbb2 := hb1.trans (hb2.mono hb1.size)
  have Hown2 := Lib.hid (World.ownsRow_made (e := 3) (size := 1) w2 #[] 0 (Nat.le_refl _) (by decide) rfl)
  have hbc2 : Below w2.heap.size w2 (w2.alloc (.cells #[] 3)) := (Below.refl _ _).alloc (Nat.le_refl _) _
  clear hown2 hb2 hb1
  go_wp2_with (at_builtin; refine wpList_copy_ints _ rfl (.tmp 23) (.tmp 24) rfl w2.heap.size _ rfl Hown2.out (by simp) Ab born cb rfl HAb.out hbn _ (Hb.out.below (hbb2.trans (hbc2.mono hbb2.size))) ?_)
  intro Ab2 cb2 w3 hownb2 hgr2
  have hbd2 : Below w2.heap.size w2 w3 := hbc2.grown hgr2 (by simp) (own_block Hown2.out)
  have Hbb2 := Lib.hid (IntsAt.of_own hownb2)
  have Hpb2 := Lib.hid (Hp2.out.later hbd2)
  have hbe2 := hbb2.trans (hbd2.mono hbb2.size)
  clear hownb2 hgr2 hbc2 Hown2 Hp2 hbd2 hbb2
  go_wp2_with fail
  refine (Victim_good A2 l c2 Ab2 born cb2 w3 (by omega) Hpb2.out Hbb2.out Hbad.out).mono ?_; rintro e w4 ⟨rfl, hb4⟩
  have hb5 := hbe2.trans (hb4.mono hbe2.size)
  clear hbe2 hb4 Hbb2 Hpb2
  obtain ⟨V, hV⟩ : ∃ V, V = vicL born (caughtL l) := ⟨_, rfl⟩
  rw [← hV]
  have HV := Lib.hid hV; clear hV
  go_wp2_with fail
  refine (own_any A l cap w4 hn HA.out (Hr.out.later hb5)).mono ?_; rintro e w6 ⟨A6, c6, rfl, hown6, hb6⟩
  have Hp6 := Lib.hid (PairsAt.of_own hown6)
  have hbb6 := hb5.trans (hb6.mono hb5.size)
  have Hown6 := Lib.hid (World.ownsRow_made (e := 3) (size := 1) w6 #[] 0 (Nat.le_refl _) (by decide) rfl)
  have hbc6 : Below w6.heap.size w6 (w6.alloc (.cells #[] 3)) := (Below.refl _ _).alloc (Nat.le_refl _) _
  clear hown6 hb6 hb5
  go_wp2_with (at_builtin; refine wpList_copy_ints _ rfl (.tmp 33) (.tmp 34) rfl w6.heap.size _ rfl Hown6.out (by simp) Ab born cb rfl HAb.out hbn _ (Hb.out.below (hbb6.trans (hbc6.mono hbb6.size))) ?_)
  intro Ab6 cb6 w7 hownb6 hgr6
  have hbd6 : Below w6.heap.size w6 w7 := hbc6.grown hgr6 (by simp) (own_block Hown6.out)
  have Hbb6 := Lib.hid (IntsAt.of_own hownb6)
  have Hpb6 := Lib.hid (Hp6.out.later hbd6)
  have hbe6 := hbb6.trans (hbd6.mono hbb6.size)
  clear hownb6 hgr6 hbc6 Hown6 Hp6 hbd6 hbb6
  go_wp2_with fail
  refine (Break_good A6 l c6 Ab6 born cb6 w7 (by omega) Hpb6.out Hbb6.out Hbad.out).mono ?_; rintro e w8 ⟨L1, AL, cL, hL1, rfl, hownL, hb8⟩
  have HiL := Lib.hid (IntsAt.of_own hownL)
  have HL1 := Lib.hid hL1
  have hb9 := hbe6.trans (hb8.mono hbe6.size)
  clear hbe6 hb8 Hbb6 Hpb6 hL1 hownL
  go_wp2_with fail
  refine (look_any A l cap w8 0 (by rw [Hbad.out]; rfl) (by omega) (Hr.out.later hb9)).mono ?_; rintro e w8' ⟨rfl, rfl⟩
  go_wp2_with fail
  refine (refVictim_any A l cap Ab born cb w8 (by omega) (Hr.out.later hb9) (Hb.out.later hb9) (good_of_bad Hbad.out).1).mono ?_; rintro e w9 ⟨rfl, hb10⟩
  rw [← HV.out]
  have HiL2 := Lib.hid (HiL.out.later hb10)
  have hb11 := hb9.trans (hb10.mono hb9.size)
  clear HiL hb9 hb10
  go_wp2_with fail
  refine (refBreak_any A l cap Ab born cb w9 hn (Hr.out.later hb11) (Hb.out.later hb11) (good_of_bad Hbad.out).1).mono ?_; rintro e w10 ⟨L2, A3, c3, hL2, rfl, hownM, hb12⟩
  obtain rfl := HL1.out.same hL2
  have hlen : L1.length ≤ 140737488351232 := by
    have := Breaks.len (good_of_bad Hbad.out).1 hL2
    omega
  have HiM := Lib.hid (IntsAt.of_own hownM)
  have HiL3 := Lib.hid (HiL2.out.later hb12)
  have hb13 := hb11.trans (hb12.mono hb11.size)
  clear hL2 hownM HiL2 hb11 hb12
  go_wp2_with fail
  refine (ints_same AL A3 L1 cL c3 w10 hlen HiL3.out HiM.out).mono ?_; rintro e w11 ⟨rfl, hb14⟩
  have hb15 := hb13.trans (hb14.mono hb13.size)
  go_wp2_with fail
  go_ret
  exact ⟨rfl, hb15⟩

end Go.Proofs.Ytdndoefjknnbhaa
