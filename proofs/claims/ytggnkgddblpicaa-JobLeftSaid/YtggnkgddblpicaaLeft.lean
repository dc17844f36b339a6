/- The walk of the law JobLeft: it returns true, and below the heap of the call nothing has turned. Conditions: the slices lie in memory as a slice reads; the counts are bytes. -/
import Derived.Test.YtggnkgddblpicaaJobG
namespace Go.Proofs.Ytggnkgddblpicaa
open Go.RowKit Go.WideShapes Go.ChangeShapes

set_option maxHeartbeats 3200000 in
theorem jobLeft_any (A : Option Addr) (n c : Nat) (ms : List Mv) (ahead : Nat) (w : World) (hr : Reads w w.heap.size 9 A n (ms.flatMap Mv.enc)) (ha : ahead ≤ 255) :
    Calls Try.prog 7 #[.slice A n c, .int .u8 ahead] w fun e' w' => e' = .returned (.bool true) ∧ Below w.heap.size w w' := by
  by_cases hn : n ≤ 40
  · have hnI : ¬ (40 : Int) < (n : Int) := by omega
    have hl : ms.length = n := by have := hr.1; rw [enc_length] at this; omega
    subst hl
    have HR := hide hr
    clear hr
    go_enter Try.func7, Try.ntmps7
    go_wp2_with fail
    refine (new_any A ms.length c (ms.flatMap Mv.enc) w HR.out (enc_oneCell _) (by omega)).mono ?_
    rintro e1 w1 ⟨g, A1, c1, rfl, hj1, hb1⟩
    have HJ1 := hide hj1
    have HB1 := hide hb1
    clear hj1 hb1
    go_wp2_with fail
    refine (run_any 22 #[] (fun _ => False) (fun _ => False) Unit (fun _ _ => True) okNext (doOk 22 ok22) eg22 g A1 c1 0 _ ms () ahead w1 HJ1.out (by omega) (by omega) trivial not_false not_false (fun _ _ => not_false)).mono ?_
    rintro e2 w2 ⟨r, hr2, rfl, _, hj2, hO2⟩
    rw [runs_ok_all, List.drop_zero] at hr2
    generalize hk : min ahead ms.length = k at hr2
    subst hr2
    have hkn : k ≤ ms.length := by omega
    clear hk
    simp only [Nat.zero_add] at hj2
    have HJ2 := hide hj2
    have HB2 := hide (Below.only HB1.out hO2 HB1.out.size (fun k _ hk => hk.elim False.elim (fun e => by rw [e]; exact HJ1.out.2.2.1)))
    clear hj2 hO2
    go_wp2_with fail
    refine (rest_any g A1 c1 k _ ms w2 HJ2.out (by omega)).mono ?_
    rintro e3 w3 ⟨A3, c3, rfl, hown3, hb3⟩
    have HJ3 := hide (HJ2.out.later hb3)
    have HB3 := hide (HB2.out.trans (hb3.mono HB2.out.size))
    have HR3 := hide (Reads.of_own hown3)
    clear hown3 hb3
    go_wp2_with fail
    refine (new_any A3 (ms.length - k) c3 _ w3 HR3.out (enc_oneCell _) (by omega)).mono ?_
    rintro e4 w4 ⟨g4, A4, c4, rfl, hj4, hb4⟩
    rw [← List.length_drop] at hj4
    have HK4 := hide hj4
    have HJ4 := hide (HJ3.out.later hb4)
    have HB4 := hide (HB3.out.trans (hb4.mono HB3.out.size))
    have hgg : g ≠ g4 := by have h1 := HJ3.out.1.lt; have h2 := HK4.out.2.2.1; omega
    clear hj4 hb4
    go_wp2
    go_loopw [30] (fun i wr => ∃ (r p : Nat), r ≤ ms.length ∧ i = .int .i64 ((r : Nat) : Int) ∧ Hid (p = min (ms.length - k) r) ∧ Hid (JobAt wr w.heap.size g A1 ms.length c1 (ms.flatMap Mv.enc) (k + p)) ∧
      Hid (JobAt wr w3.heap.size g4 A4 (ms.drop k).length c4 ((ms.drop k).flatMap Mv.enc) p) ∧ Hid (Below w.heap.size w wr)) (fun i _ => ms.length - (intOf i).toNat)
    case atStart => exact ⟨0, 0, Nat.zero_le _, rfl, hide (by omega), HJ4, HK4, HB4⟩
    case round =>
      obtain ⟨r, p, hrn, rfl, hp, HJ, HK, HB⟩ := hrel
      clear HJ1 HJ2 HJ3 HJ4 HB1 HB2 HB4 HK4 HR HR3
      by_cases hlt : r < ms.length
      · have hltI : (r : Int) < (ms.length : Int) := by omega
        go_wp2_with fail
        refine (peek_any g A1 c1 (k + p) _ ms wr HJ.out (by omega)).mono ?_
        rintro e5 w5 ⟨rfl, hb5⟩
        have HJ5 := hide (HJ.out.later hb5)
        have HK5 := hide (HK.out.later hb5)
        have HB5 := hide (HB.out.trans (hb5.mono HB.out.size))
        clear hb5 HJ HK HB
        generalize hx : peekV ms (k + p) = x at *
        generalize hb : peekB ms (k + p) = b at *
        have HXX := hide hx
        have HBB := hide hb
        clear hx hb
        simp only [Mv.val]
        go_wp2_with fail
        refine calls_at (fun W => Below w5.heap.size w5 W ∧ Blk W w5.heap.size 38 x.enc.toArray) ⟨(Below.refl _ _).alloc (Nat.le_refl _) _, Blk.new _ _ _⟩ ?_
        intro W ⟨hbW, hkW⟩
        have HJ6 := hide (HJ5.out.later hbW)
        have HK6 := hide (HK5.out.later hbW)
        have HB6 := hide (HB5.out.trans (hbW.mono HB5.out.size))
        have hs6 : w5.heap.size < W.heap.size := hkW.lt
        clear hbW HJ5 HK5 HB5
        refine (peek_any g4 A4 c4 p _ (ms.drop k) W HK6.out (by rw [List.length_drop]; omega)).mono ?_
        rintro e6 w6 ⟨rfl, hb6⟩
        rw [peekV_drop, peekB_drop, HXX.out, HBB.out]
        have HJ7 := hide (HJ6.out.later hb6)
        have HK7 := hide (HK6.out.later hb6)
        have HB7 := hide (HB6.out.trans (hb6.mono HB6.out.size))
        have e' (j : Nat) : w6.cell? ⟨w5.heap.size, j, none⟩ = x.enc.toArray[j]? := (hkW.below hb6 hs6).cell j
        have hs7 : w5.heap.size < w6.heap.size := Nat.lt_of_lt_of_le hs6 hb6.size
        have g0 := e' 0; have g1 := e' 1; have g2 := e' 2; have g3 := e' 3; have g4' := e' 4; have g5 := e' 5; have g6 := e' 6; have g7 := e' 7; have g8 := e' 8
        simp only [Mv.enc, List.getElem?_toArray, List.getElem?_cons_zero, List.getElem?_cons_succ] at g0 g1 g2 g3 g4' g5 g6 g7 g8
        clear e' hb6 hkW HJ6 HK6 HB6
        have E := neqMv x x
        simp only [Mv.val, (Mv.same_iff x x).2 rfl, Bool.not_true] at E
        have hbb : (b != b) = false := by simp
        have hLL : ((ms.drop k).length : Int) - ((p : Nat) : Int) = (ms.length : Int) - ((k + p : Nat) : Int) := by rw [List.length_drop]; omega
        simp only [Mv.val]
        go_wp2_with fail
        refine (left_any g A1 ms.length c1 (k + p) _ (HJ7.out.1.alloc _) HJ7.out.2.2.2 (by omega)).mono ?_
        rintro e8 w8 ⟨rfl, q8, rfl⟩
        go_wp2_with fail
        refine (left_any g4 A4 (ms.drop k).length c4 p _ ((HK7.out.1.alloc _).drewN q8) HK7.out.2.2.2 (by rw [List.length_drop]; omega)).mono ?_
        rintro e9 w9 ⟨rfl, q9, rfl⟩
        rw [hLL]
        go_wp2_with fail
        refine calls_at (fun W => Below w6.heap.size w6 W) (below_drewN ((Below.refl _ _).alloc (Nat.le_refl _) _) _) ?_
        intro W hbW
        have HJ9 := hide (HJ7.out.later hbW)
        have HK9 := hide (HK7.out.later hbW)
        have HB9 := hide (HB7.out.trans (hbW.mono HB7.out.size))
        clear hbW HJ7 HK7 HB7 g0 g1 g2 g3 g4' g5 g6 g7 g8 hs7 hs6
        refine (step_okAll 23 ok23 eg23 g A1 c1 (k + p) _ ms W HJ9.out (by omega)).mono ?_
        rintro e10 w10 ⟨⟨v10, rfl⟩, hj10, hO10⟩
        have HJ10 := hide hj10
        have HK10 := hide (HK9.out.other hO10 (Ne.symm hgg) HJ9.out.1)
        have HB10 := hide (Below.only HB9.out hO10 HB9.out.size (fun k _ hk => hk.elim False.elim (fun e => by rw [e]; exact HJ9.out.2.2.1)))
        clear hj10 hO10 HJ9 HK9 HB9
        go_wp2_with fail
        refine (step_okAll 24 ok24 eg24 g4 A4 c4 p _ (ms.drop k) w10 HK10.out (by rw [List.length_drop]; omega)).mono ?_
        rintro e11 w11 ⟨⟨v11, rfl⟩, hk11, hO11⟩
        have HK11 := hide hk11
        have HJ11 := hide (HJ10.out.other hO11 hgg HK10.out.1)
        have HB11 := hide (Below.only HB10.out hO11 HB10.out.size (fun k _ hk => hk.elim False.elim (fun e => by rw [e]; have := HK10.out.2.2.1; have := HB3.out.size; omega)))
        clear hk11 hO11 HJ10 HK10 HB10
        go_wp2
        go_roundw
        case rel =>
          have hpp := hp.out
          have hpk := HK11.out.2.2.2
          have e1 : min ms.length (k + p + 1) = k + min (ms.length - k) (r + 1) := by omega
          have e2 : min (ms.drop k).length (p + 1) = min (ms.length - k) (r + 1) := by rw [List.length_drop]; omega
          exact ⟨r + 1, min (ms.length - k) (r + 1), by omega, by go_num, hide rfl, hide (e1 ▸ HJ11.out), hide (e2 ▸ HK11.out), HB11⟩
        case measure => simp [intOf]; omega
      · have hltI : ¬ (r : Int) < (ms.length : Int) := by omega
        have hpe : p = ms.length - k := by have := hp.out; omega
        have hLL : ((ms.drop k).length : Int) - ((p : Nat) : Int) = 0 := by rw [List.length_drop]; omega
        have hLM : (ms.length : Int) - ((k + p : Nat) : Int) = 0 := by omega
        go_wp2_with fail
        refine (left_any g A1 ms.length c1 (k + p) _ HJ.out.1 HJ.out.2.2.2 (by omega)).mono ?_
        rintro e8 w8 ⟨rfl, q8, rfl⟩
        rw [hLM]
        go_wp2_with fail
        refine (left_any g4 A4 (ms.drop k).length c4 p _ (HK.out.1.drewN q8) HK.out.2.2.2 (by rw [List.length_drop]; omega)).mono ?_
        rintro e9 w9 ⟨rfl, q9, rfl⟩
        rw [hLL]
        go_wp2_with fail
        refine (awake_any _).mono ?_
        rintro e w1 ⟨rfl, hb⟩
        go_wp2
        go_ret
        exact ⟨rfl, (below_drewN HB.out _).trans (hb.mono HB.out.size)⟩
  · have hnI : (40 : Int) < (n : Int) := by omega
    go_enter Try.func7, Try.ntmps7
    go_wp2_with (go_at_call 9; refine (awake_any _).mono ?_; rintro e w1 ⟨rfl, hb⟩)
    go_ret
    exact ⟨rfl, hb⟩
end Go.Proofs.Ytggnkgddblpicaa
