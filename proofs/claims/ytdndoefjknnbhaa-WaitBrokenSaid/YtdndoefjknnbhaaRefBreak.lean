/-
  The walks of the reference's Victim, Without, Break (functions 11, 22, 13). Conditions: each edge is one, at most 600 of them.
-/
import Derived.Test.YtdndoefjknnbhaaRefCaught
import Derived.Test.YtdndoefjknnbhaaSmall
import Derived.Test.YtdndoefjknnbhaaBreakP
import Derived.Test.YtdndoefjknnbhaaOwn
import Derived.Deep.LoopGhost
namespace Go.Proofs.Ytdndoefjknnbhaa
open Go.RowKit

set_option maxHeartbeats 400000 in
theorem refVictim_any (A : Option Addr) (l : List (Int × Int)) (cap : Nat) (Ab : Option Addr) (born : List Int) (cb : Nat) (w : World) (hn : l.length ≤ 140737488351232) (hr : PairsAt w w.heap.size A l) (hb : IntsAt w w.heap.size Ab born) (hg : Good l) :
    Calls Try.prog 11 #[.slice A l.length cap, .slice Ab born.length cb] w fun e w' => e = .returned (.int .i64 (vicL born (caughtL l))) ∧ Below w.heap.size w w' := by
  have Hr := Lib.hid hr; have Hg := Lib.hid hg; have Hb := Lib.hid hb; clear hr hg hb
  go_enter Try.func11, Try.ntmps11
  go_wp2_with fail
  refine (refCaught_any A l cap w hn Hr.out Hg.out).mono ?_; rintro e w1 ⟨L, A1, c1, hL, rfl, hown, hb1⟩
  have HL := Lib.hid hL; clear hL
  have HA := Lib.hid (IntsAt.of_own hown)
  have Hb1 := Lib.hid (Hb.out.later hb1)
  have Hmem : Hid (∀ x ∈ L, 1 ≤ x ∧ x ≤ 16) := Lib.hid (by
    intro x hx
    rw [HL.out, mem_caughtL l Hg.out] at hx
    have := hx.good Hg.out
    omega)
  have hlen : L.length ≤ 17 := by rw [HL.out]; exact caughtTo_len l 17
  clear hown
  go_wp2_with fail
  go_loop [6, 12] (fun bs i => ∃ k : Nat, k ≤ L.length ∧ i = .int .i64 k ∧ bs = .int .i64 (vicL born (L.take k)) ∧ 0 ≤ vicL born (L.take k)) (fun _ i => L.length - (intOf i).toNat)
  case atStart => exact ⟨0, by omega, rfl, rfl, Int.le_refl _⟩
  case round =>
    obtain ⟨k, hk, rfl, rfl, hv0⟩ := hrel
    by_cases hlt : k < L.length
    · obtain ⟨s, hs⟩ : ∃ s, L[k]? = some s := ⟨L[k], List.getElem?_eq_getElem hlt⟩
      obtain ⟨b, off, rfl, hbk, hc⟩ := HA.out k s hs
      obtain ⟨hs1, hs2⟩ := Hmem.out s (List.mem_of_getElem? hs)
      have hstep := vicL_take born L k s hs
      obtain ⟨x, rfl⟩ : ∃ x : Nat, s = x := ⟨s.toNat, by omega⟩
      obtain ⟨V, hV⟩ : ∃ V, V = vicL born (L.take k) := ⟨_, rfl⟩
      rw [← hV] at hstep hv0
      rw [← hV]
      have HV := Lib.hid hV; have Hstep := Lib.hid hstep; have Hs := Lib.hid hs
      clear hV hstep hs
      by_cases h0 : V = 0
      · have Hnew := Lib.hid ((Hstep.out).trans (show vicStep born V x = x from by unfold vicStep; rw [if_pos (.inl h0)]))
        go_wp2_with fail
        go_round
        case rel => exact ⟨k + 1, by omega, by go_num, by rw [Hnew.out], by rw [Hnew.out]; omega⟩
        case measure => simp [intOf]; omega
      · have hVb : (V == 0) = false := by simpa using h0
        go_wp2_with fail
        refine (at_any Ab born cb x w1 Hb1.out (by omega)).mono ?_; rintro e w' ⟨rfl, rfl⟩
        obtain ⟨a, ha⟩ : ∃ a, a = ageL born x := ⟨_, rfl⟩
        rw [← ha]
        have Ha := Lib.hid ha; clear ha
        go_wp2_with fail
        refine (at_any Ab born cb V w1 Hb1.out hv0).mono ?_; rintro e w' ⟨rfl, rfl⟩
        obtain ⟨u, hu⟩ : ∃ u, u = ageL born V := ⟨_, rfl⟩
        rw [← hu]
        have Hu := Lib.hid hu; clear hu
        by_cases hua : u ≤ a
        · have Hnew := Lib.hid ((Hstep.out).trans (vic_new (.inr hua) (fun _ => Hu.out) Ha.out))
          go_wp2_with fail
          go_round
          case rel => exact ⟨k + 1, by omega, by go_num, by rw [Hnew.out], by rw [Hnew.out]; omega⟩
          case measure => simp [intOf]; omega
        · have Hold := Lib.hid ((Hstep.out).trans (vic_old h0 (by omega) (fun _ => Hu.out) Ha.out))
          go_wp2_with fail
          go_round
          case rel => exact ⟨k + 1, by omega, by go_num, by rw [Hold.out], by rw [Hold.out]; exact hv0⟩
          case measure => simp [intOf]; omega
    · obtain rfl : k = L.length := by omega
      go_wp2_with fail
      go_ret
      exact ⟨by rw [HL.out]; rfl, hb1⟩

/-- What Without keeps of one edge. -/
def keepB (s : Int) (p : Int × Int) : Bool := decide (p.1 ≠ s) && decide (p.2 ≠ s)
theorem without_take (l : List (Int × Int)) (s : Int) (k : Nat) (p : Int × Int) (hp : l[k]? = some p) : without (l.take (k + 1)) s = without (l.take k) s ++ if keepB s p = true then [p] else [] := by
  obtain ⟨hk, hpe⟩ := List.getElem?_eq_some_iff.1 hp
  rw [List.take_succ_eq_append_getElem hk, hpe]
  unfold without keepB
  rw [List.filter_append]
  congr 1
  simp only [List.filter_cons, List.filter_nil]

set_option maxHeartbeats 400000 in
theorem without_any (A : Option Addr) (l : List (Int × Int)) (cap : Nat) (s : Int) (w : World) (hn : l.length ≤ 600) (hr : PairsAt w w.heap.size A l) :
    Calls Try.prog 22 #[.slice A l.length cap, .int .i64 s] w fun e w' => ∃ A' c', e = .returned (.slice A' (without l s).length c') ∧ w'.ownsRow w.heap.size 39 2 (.slice A' (without l s).length c') (without l s).length (prCells (without l s)) ∧ Below w.heap.size w w' := by
  obtain ⟨i0, hi, hz0, hz1, hz2⟩ := info_parts Try.info39
  have Hz0 := Lib.hid hz0; have Hz1 := Lib.hid hz1; have Hz2 := Lib.hid hz2; have Hi := Lib.hid hi
  clear hz0 hz1 hz2 hi
  have Hr := Lib.hid hr; clear hr
  go_enter Try.func22, Try.ntmps22
  go_wp2_with fail
  go_loopw [5, 9] (fun v i wr => ∃ k : Nat, k ≤ l.length ∧ i = .int .i64 k ∧ wr.ownsRow w.heap.size 39 2 v (without (l.take k) s).length (prCells (without (l.take k) s)) ∧ Below w.heap.size w wr) (fun _ i _ => l.length - (intOf i).toNat)
  case atStart => exact ⟨0, by omega, rfl, World.ownsRow_nil _ _ _ _, Below.refl _ _⟩
  case round =>
    obtain ⟨k, hk, rfl, hown, hbl⟩ := hrel
    by_cases hlt : k < l.length
    · obtain ⟨p, hp⟩ : ∃ p, l[k]? = some p := ⟨l[k], List.getElem?_eq_getElem hlt⟩
      obtain ⟨b, off, rfl, hb, hc1, hc2⟩ := Hr.out.below hbl k p hp
      have Hst := Lib.hid (without_take l s k p hp)
      have hsub := Nat.le_trans (without_len (l.take k) s) (List.length_take_le k l)
      clear hp
      obtain ⟨M, hM⟩ : ∃ M, M = without (l.take k) s := ⟨_, rfl⟩
      rw [← hM] at hown hsub Hst
      clear hM
      obtain ⟨x, y⟩ := p
      by_cases hx : x = s
      · have hke : keepB s (x, y) = false := by simp [keepB, hx]
        have Hke := Lib.hid hke; have Hown := Lib.hid hown
        have hxb : (x != s) = false := by simpa using hx
        clear hown hke hx
        go_wp2_with fail
        go_roundw
        case rel => exact ⟨k + 1, by omega, by go_num, by rw [Hst.out, Hke.out, if_neg (by simp), List.append_nil]; exact Hown.out, hbl⟩
        case measure => simp [intOf]; omega
      · have hxb : (x != s) = true := by simpa using hx
        by_cases hy : y = s
        · have hke : keepB s (x, y) = false := by simp [keepB, hy]
          have Hke := Lib.hid hke; have Hown := Lib.hid hown
          have hyb : (y != s) = false := by simpa using hy
          clear hown hke hx hy
          go_wp2_with fail
          go_roundw
          case rel => exact ⟨k + 1, by omega, by go_num, by rw [Hst.out, Hke.out, if_neg (by simp), List.append_nil]; exact Hown.out, hbl⟩
          case measure => simp [intOf]; omega
        · have hke : keepB s (x, y) = true := by simp [keepB, hx, hy]
          have Hke := Lib.hid hke
          have hyb : (y != s) = true := by simpa using hy
          clear hke hx hy
          go_wp2_with (first
            | (at_builtin; refine wpList_append_own _ rfl (.tmp 28) (.tmp 33) 22 rfl w.heap.size 39 i0 (.agg #[.int .i64 0, .int .i64 0]) 2 16 Try.underlying22 Hi.out Hz0.out Hz1.out Hz2.out rfl (by decide) _ _ _ rfl (hown.alloc _) ⟨wr.heap.size, 0, none⟩ 1 1 [.int .i64 x, .int .i64 y] rfl rfl ?c1 ?c2 ?c3 ?c4 ?c5 ?_))
          case c2 => exact ⟨rfl, rfl⟩
          case c3 => unfold maxLen; omega
          case c4 => omega
          case c5 => have := hbl.size; simp; omega
          intro v' w' hown' hgrow _
          have hbl' := (hbl.alloc hbl.size (.cells #[.int .i64 x, .int .i64 y] 39)).grown hgrow (by have := hbl.size; simp; omega) (own_block hown)
          have Hown' := Lib.hid hown'; clear hown' hown hgrow
          go_wp2_with fail
          go_roundw
          case rel => exact ⟨k + 1, by omega, by go_num, by rw [Hst.out, Hke.out, if_pos rfl, prCells_append]; simpa [prCells] using Hown'.out, hbl'⟩
          case measure => simp [intOf]; omega
    · obtain rfl : k = l.length := by omega
      rw [List.take_of_length_le (Nat.le_refl _)] at hown
      obtain ⟨A', c', rfl⟩ := own_form hown
      have Hown := Lib.hid hown; clear hown
      go_wp2_with fail
      go_ret
      exact ⟨A', c', rfl, Hown.out, hbl⟩

/-- Pairs that lie in old memory, or in a row of pairs. -/
def PairsOf (w : World) (B0 : Nat) (A : Option Addr) (l : List (Int × Int)) : Prop :=
  PairsAt w w.heap.size A l ∧ ∀ a, l ≠ [] → A = some a → a.block < B0 ∨ ∃ cs fr, w.heap[a.block]? = some (.cells cs 39 fr)
theorem PairsOf.later {w w' : World} {B0 : Nat} {A : Option Addr} {l : List (Int × Int)} (h : PairsOf w B0 A l) (hb : Below w.heap.size w w') : PairsOf w' B0 A l := by
  refine ⟨h.1.later hb, fun a hl ha => ?_⟩
  rcases h.2 a hl ha with h1 | ⟨cs, fr, h1⟩
  · exact .inl h1
  · exact .inr ⟨cs, fr, (hb.block _ (Array.getElem?_eq_some_iff.1 h1).1).trans h1⟩
theorem PairsOf.grown {w w' : World} {B0 : Nat} {A : Option Addr} {l : List (Int × Int)} {v : Value} {n : Nat} {xs : List Value} (h : PairsOf w B0 A l) (hown : w.ownsRow B0 3 1 v n xs) (hg : w.grownBy w' v.ownBlock) : PairsOf w' B0 A l := by
  have key : ∀ a, l ≠ [] → A = some a → some a.block ≠ v.ownBlock := by
    intro a hl ha he
    rcases h.2 a hl ha with h1 | ⟨cs, fr, h1⟩
    · have := hown.lt a.block he.symm
      omega
    · rcases hown.2 with ⟨rfl, _⟩ | ⟨g, cap, cur, rfl, _, hh, _⟩
      · simp [Value.ownBlock] at he
      · have : a.block = g := by simpa [Value.ownBlock] using he
        rw [this, hh] at h1
        injection h1 with h1
        injection h1 with _ ht
        exact absurd ht (by decide)
  refine ⟨?_, ?_⟩
  · intro k p hp
    obtain ⟨b, off, e, hb, h1, h2⟩ := h.1 k p hp
    have hl : l ≠ [] := by rintro rfl; simp at hp
    have hblk := hg.block b hb (key _ hl e)
    exact ⟨b, off, e, Nat.lt_of_lt_of_le hb hg.size, (World.cell?_of_block (w := w) hblk).trans h1, (World.cell?_of_block (w := w) hblk).trans h2⟩
  · intro a hl ha
    rcases h.2 a hl ha with h1 | ⟨cs, fr, h1⟩
    · exact .inl h1
    · exact .inr ⟨cs, fr, (hg.block _ (Array.getElem?_eq_some_iff.1 h1).1 (key a hl ha)).trans h1⟩
theorem PairsOf.of_old {w : World} {B0 : Nat} {A : Option Addr} {l : List (Int × Int)} (h : PairsAt w B0 A l) (hB : B0 ≤ w.heap.size) : PairsOf w B0 A l := by
  refine ⟨h.more hB, fun a hl ha => ?_⟩
  cases l with
  | nil => exact absurd rfl hl
  | cons p l =>
    obtain ⟨b, off, e, hb, _⟩ := h 0 p rfl
    rw [ha] at e
    injection e with e
    subst e
    exact .inl hb
theorem PairsOf.of_own {w : World} {base B0 : Nat} {A : Option Addr} {n c : Nat} {l : List (Int × Int)} (h : w.ownsRow base 39 2 (.slice A n c) n (prCells l)) : PairsOf w B0 A l := by
  refine ⟨PairsAt.of_own h, fun a hl ha => ?_⟩
  rcases h.2 with ⟨hv, _⟩ | ⟨g, cap, cur, hv, _, hh, _⟩
  · injection hv with hv
    rw [ha] at hv; cases hv
  · injection hv with hv
    rw [ha] at hv
    injection hv with hv
    subst hv
    exact .inr ⟨cur, _, hh⟩

set_option maxHeartbeats 400000 in
theorem refBreak_any (A : Option Addr) (l : List (Int × Int)) (cap : Nat) (Ab : Option Addr) (born : List Int) (cb : Nat) (w : World) (hn : l.length ≤ 600) (hr : PairsAt w w.heap.size A l) (hb : IntsAt w w.heap.size Ab born) (hg : Good l) :
    Calls Try.prog 13 #[.slice A l.length cap, .slice Ab born.length cb] w (SomeInts (Breaks born l) w) := by
  obtain ⟨i0, hi, hz0, hz1, hz2⟩ := info_parts Try.info3
  have Hz0 := Lib.hid hz0; have Hz1 := Lib.hid hz1; have Hz2 := Lib.hid hz2; have Hi := Lib.hid hi
  clear hz0 hz1 hz2 hi
  have Hr := Lib.hid hr; have Hg := Lib.hid hg; have Hb := Lib.hid hb; clear hr hg hb
  go_enter Try.func13, Try.ntmps13
  go_wp2_with fail
  go_loopg [0, 5] l.length (fun n ev v wr => ∃ (l' : List (Int × Int)) (A' : Option Addr) (c' : Nat) (out : List Int), n = l'.length ∧ ev = .slice A' l'.length c' ∧ Good l' ∧ l'.length + out.length ≤ l.length ∧ (∀ r, Breaks born l' r → Breaks born l (out ++ r)) ∧
      PairsOf wr w.heap.size A' l' ∧ wr.ownsRow w.heap.size 3 1 v out.length (out.map (Value.int .i64)) ∧ Below w.heap.size w wr)
  case atStart => exact ⟨l, A, cap, [], rfl, rfl, Hg.out, by simp, fun r h => h, PairsOf.of_old Hr.out (Nat.le_refl _), World.ownsRow_nil _ _ _ _, Below.refl _ _⟩
  case round =>
    obtain ⟨l', A', c', out, rfl, rfl, hg', hlen, hbr, hpr, hown, hbl⟩ := hrel
    clear Hr
    have Hg' := Lib.hid hg'; have Hbr := Lib.hid hbr; have Hown := Lib.hid hown; have Hpr := Lib.hid hpr; clear hg' hbr hown hpr
    go_wp2_with fail
    refine (refVictim_any A' l' c' Ab born cb wr (by omega) Hpr.out.1 (Hb.out.later hbl) Hg'.out).mono ?_; rintro e w4 ⟨rfl, hb4⟩
    obtain ⟨V, hV⟩ : ∃ V, V = vicL born (caughtL l') := ⟨_, rfl⟩
    rw [← hV]
    have HV := Lib.hid hV; clear hV
    have hb4' := hbl.trans (hb4.mono hbl.size)
    have Hown4 := Lib.hid (own_below Hown.out hb4)
    have Hpr4 := Lib.hid (Hpr.out.later hb4)
    clear Hown Hpr hb4 hbl
    by_cases h0 : V = 0
    · have hres : Breaks born l out := by
        have := Hbr.out [] (.done (by rw [← HV.out]; exact h0))
        simpa using this
      have Hres := Lib.hid hres; clear hres
      obtain ⟨A2, c2, rfl⟩ := own_form Hown4.out
      go_wp2_with fail
      go_ret
      exact ⟨out, A2, c2, Hres.out, rfl, Hown4.out, hb4'⟩
    · have hne : vicL born (caughtL l') ≠ 0 := by rw [← HV.out]; exact h0
      have hld := vicL_leads Hg'.out hne
      have hgd := hld.good Hg'.out
      rw [← HV.out] at hgd
      have hlt := without_lt hld.first
      rw [← HV.out] at hlt
      have hbr2 : ∀ r, Breaks born (without l' V) r → Breaks born l (out ++ [V] ++ r) := by
        intro r hr
        rw [HV.out] at hr ⊢
        have := Hbr.out _ (Breaks.next hne hr)
        simpa using this
      have Hbr2 := Lib.hid hbr2; have Hg2 := Lib.hid (good_without Hg'.out V)
      clear hbr2 hld hne h0 HV
      obtain ⟨y, rfl⟩ : ∃ y : Nat, V = y := ⟨V.toNat, by omega⟩
      obtain ⟨y1, y2, _, _⟩ := hgd
      have hown4 := Hown4.out
      have hsz4 := hb4'.size
      go_wp2_with (first
            | (at_builtin; refine wpList_append_own _ rfl (.tmp 13) (.tmp 15) 23 rfl w.heap.size 3 i0 (.int .i64 0) 1 8 Try.underlying23 Hi.out Hz0.out Hz1.out Hz2.out rfl (by decide) _ _ _ rfl (hown4.alloc _) ⟨w4.heap.size, 0, none⟩ 1 1 [.int .i64 (y : Int)] rfl rfl ?c1 ?c2 ?c3 ?c4 ?c5 ?_))
      case c1 =>
        intro j u hj
        match j, hj with
        | 0, hj => simp at hj; subst hj; simp [Addr.add]
      case c2 => intro u hu; simp at hu; subst hu; rfl
      case c3 => unfold maxLen; omega
      case c4 => omega
      case c5 => simp; omega
      intro v' w5 hown5 hgrow _
      have hbl5 := (hb4'.alloc hsz4 (.cells #[.int .i64 (y : Int)] 3)).grown hgrow (by simp; omega) (own_block hown4)
      have hpr5 := (Hpr4.out.later (((Below.refl w4.heap.size w4).alloc (Nat.le_refl _) (.cells #[.int .i64 (y : Int)] 3)))).grown (hown4.alloc _) hgrow
      have Hown5 := Lib.hid hown5; have Hpr5 := Lib.hid hpr5
      clear hown5 hpr5 hgrow hown4 Hown4 Hpr4 hb4' hsz4
      go_wp2_with fail
      refine (without_any A' l' c' y w5 (by omega) Hpr5.out.1).mono ?_; rintro e w6 ⟨A6, c6, rfl, hown6, hb6⟩
      have Hpr6 := Lib.hid (PairsOf.of_own (B0 := w.heap.size) hown6)
      have Hown7 := Lib.hid (own_below Hown5.out hb6)
      have hb7 := hbl5.trans (hb6.mono hbl5.size)
      clear hown6 Hown5 Hpr5 hb6 hbl5
      go_wp2_with fail
      go_roundg (without l' (y : Int)).length
      case measure => exact hlt
      case rel =>
        exact ⟨without l' y, A6, c6, out ++ [(y : Int)], rfl, rfl, Hg2.out, by simp; omega, fun r hr => Hbr2.out r hr, Hpr6.out, by simpa using Hown7.out, hb7⟩

end Go.Proofs.Ytdndoefjknnbhaa
