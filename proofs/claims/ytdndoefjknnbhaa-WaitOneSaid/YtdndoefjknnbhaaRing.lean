/-
  The walk of Ring (function 14): of a session that leads to itself some ring is told; of one that waits for itself, itself alone. Conditions: each edge is one, the session is one, fewer than 2^47 edges.
-/
import Derived.Test.YtdndoefjknnbhaaQueue
import Derived.Test.YtdndoefjknnbhaaRingP
import Derived.Test.YtdndoefjknnbhaaRev
namespace Go.Proofs.Ytdndoefjknnbhaa
open Go.RowKit

theorem bit_test0 (F k : Nat) (hF : F < 2 ^ 17) : (bits .and .u32 ((F : Int) / 2 ^ k) 1 == 0) = !F.testBit k := by
  have e : ((F : Int) / 2 ^ k) = ((F / 2 ^ k : Nat) : Int) := by simp
  have hd : F / 2 ^ k ≤ F := Nat.div_le_self _ _
  have h1 : bits .and .u32 ((F / 2 ^ k : Nat) : Int) ((1 : Nat) : Int) = ((F / 2 ^ k &&& 1 : Nat) : Int) := u32_and_nat _ _ (by omega) (by omega)
  rw [e, show (1 : Int) = ((1 : Nat) : Int) from rfl, h1, nat_mask1, Nat.testBit_eq_decide_div_mod_eq]
  rw [Bool.eq_iff_iff, beq_iff_eq, Bool.not_eq_true', decide_eq_false_iff_not]
  omega

theorem own_some {w : World} {base : Nat} {e : TypeId} {size : Nat} {v : Value} {n : Nat} {xs : List Value} (h : w.ownsRow base e size v n xs) (hn : 0 < n) : ∃ g c, v = .slice (some ⟨g, 0, none⟩) n c := by
  rcases h.2 with ⟨_, h0⟩ | ⟨g, cap, cur, rfl, _⟩
  · omega
  · exact ⟨_, _, rfl⟩
theorem cell_one_new' (w : World) (n : Nat) (v : Value) (h : n = w.heap.size) : (w.alloc (.cells #[v] 3)).cell? ⟨n, 0, none⟩ = some v := by
  rw [World.cell?_alloc_at _ _ _ _ h]; rfl
def fromV (F : Nat → Nat) (i : Nat) : Value := .int .i64 (F i : Int)
def castL (T : List Nat) : List Int := T.map fun t : Nat => (t : Int)
theorem castL_len (T : List Nat) : (castL T).length = T.length := by simp [castL]
theorem castL_snoc (T : List Nat) (k : Nat) : castL (T ++ [k]) = castL T ++ [(k : Int)] := by simp [castL]
theorem castL_cons (T : List Nat) (k : Nat) : castL (k :: T) = (k : Int) :: castL T := by simp [castL]
def mu (F : Nat → Nat) (T : List Nat) : Nat := 2 * (17 - cnt (seenB F)) + T.length
/-- What Ring tells. -/
def RingSaid (l : List (Int × Int)) (s : Int) (r : List Int) : Prop := (Leads l s s → 0 < r.length) ∧ ((s, s) ∈ l → r = [s])

set_option maxHeartbeats 400000 in
theorem Ring_good (A : Option Addr) (l : List (Int × Int)) (cap : Nat) (s : Nat) (w : World) (hn : l.length ≤ 140737488351232) (hr : PairsAt w w.heap.size A l) (hbad : badB l = false) (hs1 : 1 ≤ s) (hs2 : s ≤ 16) :
    Calls Try.prog 14 #[.slice A l.length cap, .int .i64 s] w (IntsOk (RingSaid l s) w) := by
  obtain ⟨i0, hi, hz0, hz1, hz2⟩ := info_parts Try.info3
  have Hz0 := Lib.hid hz0; have Hz1 := Lib.hid hz1; have Hz2 := Lib.hid hz2; have Hi := Lib.hid hi
  clear hz0 hz1 hz2 hi
  have hg := (good_of_bad hbad).1
  have Hbad := Lib.hid hbad; have Hr := Lib.hid hr; have Hg := Lib.hid hg; clear hbad hr hg
  have hout : outB s = false := by simp [outB]; omega
  have Hout := Lib.hid hout; clear hout
  go_enter Try.func14, Try.ntmps14
  go_wp2_with fail
  refine (bad_any A l cap w hn Hr.out).mono ?_; rintro e w1 ⟨rfl, hb1⟩
  rw [Hbad.out]
  go_wp2_with fail
  refine (out_any s w1).mono ?_; rintro e w1' ⟨rfl, rfl⟩
  rw [Hout.out]
  go_wp2_with fail
  refine (waits_any A l cap w1 hn (Hr.out.later hb1) Hg.out).mono ?_; rintro e w2 ⟨rfl, hb2⟩
  have hb2' := hb1.trans (hb2.mono hb1.size)
  have hhl := Lib.hid (heap_alloc_last w2 (.cells #[.int .u32 0, .int .u32 0, .int .u32 0, .int .u32 0, .int .u32 0, .int .u32 0, .int .u32 0, .int .u32 0, .int .u32 0, .int .u32 0, .int .u32 0, .int .u32 0, .int .u32 0, .int .u32 0, .int .u32 0, .int .u32 0, .int .u32 0] 45))
  have hws := hb2'.size
  clear hb1 hb2
  go_wp2_with (refine wpList_store_row rfl 45 (.tmp 6) (.tmp 19) rfl w2.heap.size _ rfl rfl 45 _ hhl.out (by kernel_rfl) (by rw [size_arr]; rfl) (arr_one _ fun i => rfl) ?_)
  rw [World.setRow_alloc_new]
  obtain ⟨R, hR⟩ : ∃ R, R = w2.heap.size := ⟨_, rfl⟩
  have hrow : (((w2.alloc (.cells (arr (rowV (rowOf l))) 45)).alloc (.cells #[.int .i64 0, .int .i64 0, .int .i64 0, .int .i64 0, .int .i64 0, .int .i64 0, .int .i64 0, .int .i64 0, .int .i64 0, .int .i64 0, .int .i64 0, .int .i64 0, .int .i64 0, .int .i64 0, .int .i64 0, .int .i64 0, .int .i64 0] 50)).alloc (.cells #[.int .i64 (s : Int)] 3)).rowIs R 45 17 (rowV (rowOf l)) := by
    rw [hR]; exact ((rowIs_arr w2 45 _).alloc _).alloc _
  have hfrom : (((w2.alloc (.cells (arr (rowV (rowOf l))) 45)).alloc (.cells #[.int .i64 0, .int .i64 0, .int .i64 0, .int .i64 0, .int .i64 0, .int .i64 0, .int .i64 0, .int .i64 0, .int .i64 0, .int .i64 0, .int .i64 0, .int .i64 0, .int .i64 0, .int .i64 0, .int .i64 0, .int .i64 0, .int .i64 0] 50)).alloc (.cells #[.int .i64 (s : Int)] 3)).rowIs (R + 1) 50 17 (fromV fun _ => 0) := by
    rw [hR]
    refine World.rowIs.alloc ?_ _
    refine World.rowIs.congr (f := fun _ => .int .i64 0) ?_ (fun i _ => by simp [fromV])
    simpa using rowIs_lit (w2.alloc (.cells (arr (rowV (rowOf l))) 45)) 50 (.int .i64 0)
  have hq : QRow (((w2.alloc (.cells (arr (rowV (rowOf l))) 45)).alloc (.cells #[.int .i64 0, .int .i64 0, .int .i64 0, .int .i64 0, .int .i64 0, .int .i64 0, .int .i64 0, .int .i64 0, .int .i64 0, .int .i64 0, .int .i64 0, .int .i64 0, .int .i64 0, .int .i64 0, .int .i64 0, .int .i64 0, .int .i64 0] 50)).alloc (.cells #[.int .i64 (s : Int)] 3)) w.heap.size (.slice (some ⟨R + 1 + 1, 0, none⟩) 1 1) (castL [s]) := by
    refine ⟨R + 1 + 1, 0, 1, #[.int .i64 (s : Int)], rfl, by omega, ?_, by simp, by simp [castL], ?_⟩
    · rw [hR]
      have := heap_alloc_last ((w2.alloc (.cells (arr (rowV (rowOf l))) 45)).alloc (.cells #[.int .i64 0, .int .i64 0, .int .i64 0, .int .i64 0, .int .i64 0, .int .i64 0, .int .i64 0, .int .i64 0, .int .i64 0, .int .i64 0, .int .i64 0, .int .i64 0, .int .i64 0, .int .i64 0, .int .i64 0, .int .i64 0, .int .i64 0] 50)) (.cells #[.int .i64 (s : Int)] 3)
      simpa using this
    · intro j x hj
      match j, hj with
      | 0, hj => simp [castL] at hj; subst hj; rfl
  have hb3 : Below w.heap.size w (((w2.alloc (.cells (arr (rowV (rowOf l))) 45)).alloc (.cells #[.int .i64 0, .int .i64 0, .int .i64 0, .int .i64 0, .int .i64 0, .int .i64 0, .int .i64 0, .int .i64 0, .int .i64 0, .int .i64 0, .int .i64 0, .int .i64 0, .int .i64 0, .int .i64 0, .int .i64 0, .int .i64 0, .int .i64 0] 50)).alloc (.cells #[.int .i64 (s : Int)] 3)) :=
    ((hb2'.alloc hws _).alloc (by simp; omega) _).alloc (by simp; omega) _
  obtain ⟨w3, hw3⟩ : ∃ w3, w3 = (((w2.alloc (.cells (arr (rowV (rowOf l))) 45)).alloc (.cells #[.int .i64 0, .int .i64 0, .int .i64 0, .int .i64 0, .int .i64 0, .int .i64 0, .int .i64 0, .int .i64 0, .int .i64 0, .int .i64 0, .int .i64 0, .int .i64 0, .int .i64 0, .int .i64 0, .int .i64 0, .int .i64 0, .int .i64 0] 50)).alloc (.cells #[.int .i64 (s : Int)] 3)) := ⟨_, rfl⟩
  rw [← hw3] at hrow hfrom hq hb3 ⊢
  rw [← hR] at hws ⊢
  clear hw3 hhl hb2' hR
  have Hrow := Lib.hid hrow; have Hfrom := Lib.hid hfrom; have Hq := Lib.hid hq; clear hrow hfrom hq
  go_loopg [8] (mu (fun _ => 0) [s]) (fun n tv wr => ∃ (F : Nat → Nat) (T : List Nat), n = mu F T ∧ mu F T ≤ 35 ∧ RInv l s F T ∧ (((s : Int), (s : Int)) ∈ l → T = [s]) ∧ wr.rowIs R 45 17 (rowV (rowOf l)) ∧ wr.rowIs (R + 1) 50 17 (fromV F) ∧ QRow wr w.heap.size tv (castL T) ∧ Below w.heap.size w wr)
  case atStart => exact ⟨_, _, rfl, by simp only [mu, List.length_cons, List.length_nil]; omega, RInv.start hs1 hs2, fun _ => rfl, Hrow.out, Hfrom.out, Hq.out, hb3⟩
  case round =>
    obtain ⟨F, T, rfl, hmu0, hinv, hself, hrow, hfrom, hq, hbl⟩ := hrel
    clear Hrow Hfrom Hq hb3
    have Hinv := Lib.hid hinv; have Hself := Lib.hid hself; have Hrow := Lib.hid hrow; have Hfrom := Lib.hid hfrom; clear hinv hself hrow hfrom
    cases T with
    | nil =>
      obtain ⟨g, off, cp, cs, rfl, _⟩ := hq
      have hres : RingSaid l s [] := ⟨fun h => absurd h (Hinv.out.done Hg.out), fun h => by have := Hself.out h; cases this⟩
      have Hres := Lib.hid hres; clear hres
      have hc0 : (castL []).length = 0 := rfl
      go_wp2_with fail
      go_ret2
      exact ⟨[], none, 0, Hres.out, rfl, World.ownsRow_nil _ _ _ _, hbl⟩
    | cons a rest =>
      rw [castL_cons] at hq
      obtain ⟨g, off, cp, rfl, hca, hcp⟩ := hq.first
      have Hq := Lib.hid hq; clear hq
      obtain ⟨ha1, ha2, ha3⟩ := Hinv.out.ts a (by simp)
      have Ha3 := Lib.hid ha3
      clear ha3
      go_wp2_with fail
      go_step3
      go_wp2_with fail
      go_step3
      go_wp2_with fail
      obtain ⟨wo, rfl⟩ : ∃ wo : World, wo = wr := ⟨_, rfl⟩
      have Hca := Lib.hid hca
      clear hca
      go_loopg [8, 9, 10] 16 (fun m tv av kv wr2 => ∃ (F' : Nat → Nat) (T' : List Nat) (k : Nat), m = 17 - k ∧ av = .int .i64 a ∧ kv = .int .i64 k ∧ 1 ≤ k ∧ k ≤ 17 ∧ RIn l s F' T' a k ∧ mu F' T' ≤ mu F (a :: rest) ∧
          wr2.rowIs R 45 17 (rowV (rowOf l)) ∧ wr2.rowIs (R + 1) 50 17 (fromV F') ∧ QRow wr2 w.heap.size tv (castL T') ∧ Below w.heap.size w wr2)
      case atStart => exact ⟨F, a :: rest, 1, rfl, rfl, rfl, by omega, by omega, Hinv.out.enter Hg.out hs1 Hself.out, Nat.le_refl _, Hrow.out, Hfrom.out, by rw [castL_cons]; have := Hq.out; simpa [castL_len] using this, hbl⟩
      case round =>
        obtain ⟨F', T', k, rfl, rfl, rfl, hk1, hk2, hin, hmu, hrow, hfrom, hq, hb2⟩ := hrel
        clear Hrow Hfrom Hq hbl Hinv Hself Hca
        have Hin := Lib.hid hin; have Hrow := Lib.hid hrow; have Hfrom := Lib.hid hfrom; have Hq := Lib.hid hq
        clear hin hq
        by_cases hk : k < 17
        · have hcr := hrow.cell (i := a) (by omega)
          have hcf := hfrom.cell (i := k) hk
          have hff := hfrom.frozen k
          have hR2 := hfrom.lt
          simp only [rowV] at hcr
          simp only [fromV] at hcf
          clear hrow hfrom
          have hbt := bit_test0 (rowOf l a) k (rowOf_lt l Hg.out a)
          cases ht : (rowOf l a).testBit k
          · rw [ht] at hbt
            have Hk := Lib.hid (Hin.out.keep (fun hm => by rw [(rowOf_bit l Hg.out a k).2 hm] at ht; cases ht))
            clear ht
            go_wp2_with fail
            go_roundg (17 - (k + 1))
            case measure => omega
            case rel => exact ⟨F', T', k + 1, rfl, rfl, by go_num, by omega, by omega, Hk.out, hmu, Hrow.out, Hfrom.out, Hq.out, hb2⟩
          · rw [ht] at hbt
            have Hm := Lib.hid ((rowOf_bit l Hg.out a k).1 ht)
            clear ht
            by_cases hF : F' k = 0
            · rw [hF] at hcf
              by_cases hks : k = s
              · have hksb : ((k : Int) != (s : Int)) = false := by rw [bne_eq_false_iff_eq]; omega
                have Hks := Lib.hid hks
                obtain ⟨rest', hT⟩ := Hin.out.head
                obtain ⟨_, _, hav⟩ := Hin.out.inv.ts a (by rw [hT]; simp)
                obtain ⟨d, hd1, hd2⟩ := Hin.out.inv.rank
                have hself' : ((s : Int), (s : Int)) ∈ l → a = s := fun h => (Hin.out.self h).1
                have hda : d a ≤ 17 := Nat.le_trans (hd1 a) (cnt_le _)
                have Hav := Lib.hid hav; have Hd2 := Lib.hid hd2; have Hself' := Lib.hid hself'
                clear hT hav hd1 hd2 hself' hks hF Hq
                have hkd : decide ((k : Int) < 17) = true := by simp; omega
                go_wp2_with fail
                obtain ⟨wq, rfl⟩ : ∃ wq : World, wq = wr := ⟨_, rfl⟩
                go_loopg [9, 11] (d a) (fun m av rv wr3 => ∃ (x : Nat) (ring : List Int), m = d x ∧ av = .int .i64 x ∧ 1 ≤ x ∧ x ≤ 16 ∧ (x = s ∨ F' x ≠ 0) ∧ ring.length + d x ≤ 17 ∧ (((s : Int), (s : Int)) ∈ l → x = s ∧ ring = []) ∧
                    wr3.ownsRow w.heap.size 3 1 rv ring.length (ring.map (Value.int .i64)) ∧ wr3.rowIs (R + 1) 50 17 (fromV F') ∧ Below w.heap.size w wr3)
                case atStart => exact ⟨a, [], rfl, rfl, ha1, ha2, Hav.out, by simpa using hda, fun h => ⟨Hself'.out h, rfl⟩, World.ownsRow_nil _ _ _ _, Hfrom.out, hb2⟩
                case round =>
                  obtain ⟨x, ring, rfl, rfl, hx1, hx2, hxv, hlen, hxs, hown, hfr, hb3⟩ := hrel
                  clear hcr hcf hff hR2 hb2 hbt Hfrom Hrow
                  have Hxv := Lib.hid hxv; have Hxs := Lib.hid hxs; have Hfr := Lib.hid hfr
                  clear hxv hxs
                  have hsz3 := hb3.size
                  by_cases hxe : x = s
                  · have hxeb : ((x : Int) != (s : Int)) = false := by rw [bne_eq_false_iff_eq]; omega
                    clear hxe hfr Hfr
                    go_wp2_with (at_builtin; refine wpList_append_own _ rfl (.tmp 69) (.tmp 71) 23 rfl w.heap.size 3 i0 (.int .i64 0) 1 8 Try.underlying23 Hi.out Hz0.out Hz1.out Hz2.out rfl (by decide) _ _ _ rfl (hown.alloc _) ⟨wr.heap.size, 0, none⟩ 1 1 [.int .i64 (s : Int)] rfl rfl ?c1 ?c2 ?c3 ?c4 ?c5 ?_)
                    case c1 =>
                      intro j u hj
                      match j, hj with
                      | 0, hj => simp at hj; subst hj; simp [Addr.add]
                    case c2 => intro u hu; simp at hu; subst hu; rfl
                    case c3 => unfold maxLen; omega
                    case c4 => omega
                    case c5 => simp; omega
                    intro v' w5 hown5 hgrow _
                    have hb5 := (hb3.alloc hsz3 (.cells #[.int .i64 (s : Int)] 3)).grown hgrow (by simp; omega) (own_block hown)
                    obtain ⟨ys, hys⟩ : ∃ ys, ys = ring ++ [(s : Int)] := ⟨_, rfl⟩
                    have hyl : ys.length = ring.length + 1 := by rw [hys]; simp
                    have hown5' : w5.ownsRow w.heap.size 3 1 v' ys.length (ys.map (Value.int .i64)) := by rw [hyl, hys]; simpa using hown5
                    obtain ⟨g5, c5, rfl⟩ := own_some hown5' (by omega)
                    have Hown5 := Lib.hid hown5'; have Hys := Lib.hid hys
                    have hy1 : 1 ≤ ys.length := by omega
                    have hy2 : ys.length ≤ 1000 := by omega
                    clear hown5 hown5' hgrow hown hys hyl
                    go_wp2_with fail
                    refine (reverse_any g5 c5 w.heap.size ys w5 hy1 hy2 Hown5.out).mono ?_; rintro e w6 ⟨rfl, ys', hl', h01, hown6, hb6⟩
                    have Hl' := Lib.hid hl'; have H01 := Lib.hid h01; have Hown6 := Lib.hid hown6
                    have hb7 := hb5.trans hb6
                    clear hl' h01 hown6 Hown5 hb5 hb6
                    go_wp2_with fail
                    have hsaid : RingSaid l s ys' := by
                      refine ⟨fun _ => by rw [Hl'.out]; omega, fun h => ?_⟩
                      have h0 := (Hxs.out h).2
                      have h1 : ys = [(s : Int)] := by rw [Hys.out, h0]; rfl
                      rw [H01.out (by rw [h1]; simp), h1]
                    rw [Exit.noGoto_ret]
                    go_ret2
                    exact ⟨ys', _, c5, hsaid, by rw [Hl'.out]; rfl, by rw [Hl'.out]; exact Hown6.out, hb7⟩
                  · have hxeb : ((x : Int) != (s : Int)) = true := by rw [bne_iff_ne]; omega
                    have hF0 : F' x ≠ 0 := by
                      rcases Hxv.out with h | h
                      · exact absurd h hxe
                      · exact h
                    obtain ⟨f1, f2, f3, f4⟩ := Hd2.out x hF0
                    have hns : ¬ ((s : Int), (s : Int)) ∈ l := fun h => hxe (Hxs.out h).1
                    have Hf4 := Lib.hid f4; have Hns := Lib.hid hns
                    clear f4 hns hF0 hxe hfr
                    go_wp2_with (at_builtin; refine wpList_append_own _ rfl (.tmp 65) (.tmp 67) 23 rfl w.heap.size 3 i0 (.int .i64 0) 1 8 Try.underlying23 Hi.out Hz0.out Hz1.out Hz2.out rfl (by decide) _ _ _ rfl (hown.alloc _) ⟨wr.heap.size, 0, none⟩ 1 1 [.int .i64 (x : Int)] rfl rfl ?c1 ?c2 ?c3 ?c4 ?c5 ?_)
                    case c1 =>
                      intro j u hj
                      match j, hj with
                      | 0, hj => simp at hj; subst hj; simp [Addr.add]
                    case c2 => intro u hu; simp at hu; subst hu; rfl
                    case c3 => unfold maxLen; omega
                    case c4 => omega
                    case c5 => simp; omega
                    intro v' w5 hown5 hgrow _
                    have hb5 := (hb3.alloc hsz3 (.cells #[.int .i64 (x : Int)] 3)).grown hgrow (by simp; omega) (own_block hown)
                    have hfr5 := rowIs_grown (Hfr.out.alloc (.cells #[.int .i64 (x : Int)] 3)) hgrow (own_ne_row hown Hfr.out (by decide))
                    have hcx := hfr5.cell (i := x) (by omega)
                    simp only [fromV] at hcx
                    have Hfr5 := Lib.hid hfr5; have Hown5 := Lib.hid hown5
                    clear hfr5 hown5 hgrow hown
                    go_wp2_with fail
                    go_roundg (d (F' x))
                    case measure => exact f3
                    case rel => exact ⟨F' x, ring ++ [(x : Int)], rfl, rfl, f1, f2, Hf4.out, by simp; omega, fun h => absurd h Hns.out, by simpa using Hown5.out, Hfr5.out, hb5⟩
              · obtain ⟨hput, hcnt⟩ := Hin.out.put hF hks hk1 (by omega)
                have hmu' : mu (setF F' k a) (T' ++ [k]) ≤ mu F (a :: rest) := by
                  have h17 := cnt_le (seenB (setF F' k a))
                  unfold mu at hmu ⊢
                  rw [hcnt]
                  rw [hcnt] at h17
                  simp only [List.length_append, List.length_cons, List.length_nil] at hmu ⊢
                  omega
                have hTl : T'.length ≤ 100 := by
                  unfold mu at hmu hmu0; omega
                have hfrom' : (wr.setCell ⟨R + 1, k, none⟩ (.int .i64 (a : Int))).rowIs (R + 1) 50 17 (fromV (setF F' k a)) := (Hfrom.out.set k (.int .i64 (a : Int))).congr fun i _ => by
                  unfold fromV setF
                  split
                  · rfl
                  · rfl
                have hrow' : (wr.setCell ⟨R + 1, k, none⟩ (.int .i64 (a : Int))).rowIs R 45 17 (rowV (rowOf l)) := Hrow.out.setOther (by simp) _
                have hq' := Hq.out.set Hfrom.out (by decide) k (.int .i64 (a : Int))
                have hb2' := hb2.setCell (p := ⟨R + 1, k, none⟩) (by simp; omega) (.int .i64 (a : Int))
                have hksb : ((k : Int) != (s : Int)) = true := by rw [bne_iff_ne]; omega
                have Hput := Lib.hid hput; have Hmu' := Lib.hid hmu'; have Hfrom' := Lib.hid hfrom'; have Hrow' := Lib.hid hrow'; have Hq' := Lib.hid hq'
                clear hput hcnt hmu' hfrom' hrow' hq' hks hF hmu Hfrom Hrow Hq
                go_wp2_with (at_builtin; refine wpList_append_q _ rfl (.tmp 55) (.tmp 57) rfl w.heap.size _ (castL T') rfl (Hq'.out.below ((Below.refl _ _).alloc (Nat.le_refl _) (.cells #[.int .i64 (k : Int)] 3))) ⟨wr.heap.size, 0, none⟩ 1 k rfl ?c1 ?c2 ?c3 ?_)
                case c1 => exact cell_one_new' _ _ _ (by simp)
                case c2 => rw [castL_len]; omega
                case c3 => have := hb2'.size; simp at this ⊢; omega
                intro v' w5 hq5 hgrow
                have q0 := Hq'.out.below ((Below.refl _ _).alloc (Nat.le_refl _) (.cells #[.int .i64 (k : Int)] 3))
                have hrow5 := q0.rowIs (Hrow'.out.alloc _) (by decide) hgrow
                have hfrom5 := q0.rowIs (Hfrom'.out.alloc _) (by decide) hgrow
                have hb5 := (hb2'.alloc hb2'.size (.cells #[.int .i64 (k : Int)] 3)).grown hgrow (by have := hb2'.size; simp at this ⊢; omega) q0.block
                rw [← castL_snoc] at hq5
                have Hq5 := Lib.hid hq5; have Hrow5 := Lib.hid hrow5; have Hfrom5 := Lib.hid hfrom5
                clear hq5 hrow5 hfrom5 hgrow q0 hcr hcf hff hR2 hbt hb2'
                go_wp2_with fail
                go_roundg (17 - (k + 1))
                case measure => omega
                case rel => exact ⟨setF F' k a, T' ++ [k], k + 1, rfl, rfl, by go_num, by omega, by omega, Hput.out, Hmu'.out, Hrow5.out, Hfrom5.out, Hq5.out, hb5⟩
            · have hF0 : 0 < F' k := by omega
              have Hk := Lib.hid (Hin.out.keep (fun _ => hF))
              clear hF
              go_wp2_with fail
              go_roundg (17 - (k + 1))
              case measure => omega
              case rel => exact ⟨F', T', k + 1, rfl, rfl, by go_num, by omega, by omega, Hk.out, hmu, Hrow.out, Hfrom.out, Hq.out, hb2⟩
        · obtain rfl : k = 17 := by omega
          obtain ⟨rest', hT⟩ := Hin.out.head
          subst hT
          obtain ⟨hinv', hns⟩ := Hin.out.pop Hg.out hs2
          have hq1 := Hq.out
          rw [castL_cons] at hq1
          obtain ⟨g', off', cp', rfl, _, hcp'⟩ := hq1.first
          have hcut := hq1.cut
          have hmu' : mu F' rest' < mu F (a :: rest) := by
            unfold mu at hmu ⊢
            simp only [List.length_cons] at hmu ⊢
            omega
          have Hinv' := Lib.hid hinv'; have Hns := Lib.hid hns
          clear hrow hfrom hq1 Hq Hin hinv' hns
          by_cases hc1 : cp' = 1
          · subst hc1
            rw [if_pos rfl] at hcut
            have Hcut := Lib.hid hcut; clear hcut
            go_wp2_with fail
            rw [Exit.noGoto_normal]
            go_wp2_with fail
            go_roundg (mu F' rest')
            case measure => exact hmu'
            case rel => exact ⟨F', rest', rfl, by omega, Hinv'.out, fun h => absurd h Hns.out, Hrow.out, Hfrom.out, Hcut.out, hb2⟩
          · rw [if_neg hc1] at hcut
            have Hcut := Lib.hid hcut; clear hcut
            go_wp2_with fail
            rw [Exit.noGoto_normal]
            go_wp2_with fail
            go_roundg (mu F' rest')
            case measure => exact hmu'
            case rel => exact ⟨F', rest', rfl, by omega, Hinv'.out, fun h => absurd h Hns.out, Hrow.out, Hfrom.out, Hcut.out, hb2⟩

end Go.Proofs.Ytdndoefjknnbhaa
