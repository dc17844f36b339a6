/- The walk of the law JobCopies: it returns true, and below the heap of the call nothing has turned. Conditions: the slices lie in memory as a slice reads; the counts are bytes. -/
import Derived.Test.YtggnkgddblpicaaJobG
namespace Go.Proofs.Ytggnkgddblpicaa
open Go.RowKit Go.WideShapes Go.ChangeShapes

set_option maxHeartbeats 3200000 in
theorem jobCopies_any (A : Option Addr) (n c : Nat) (ms : List Mv) (ahead more : Nat) (w : World) (hr : Reads w w.heap.size 9 A n (ms.flatMap Mv.enc)) (ha : ahead ≤ 255) (hm : more ≤ 255) :
    Calls Try.prog 8 #[.slice A n c, .int .u8 ahead, .int .u8 more] w fun e' w' => e' = .returned (.bool true) ∧ Below w.heap.size w w' := by
  by_cases hn : n ≤ 40
  · have hnI : ¬ (40 : Int) < (n : Int) := by omega
    have hl : ms.length = n := by have := hr.1; rw [enc_length] at this; omega
    subst hl
    have HR := hide hr
    clear hr
    obtain ⟨i0, hi0, hz0, hz1, hz2⟩ := infoMove'
    go_enter Try.func8, Try.ntmps8
    go_wp2_with (at_builtin; refine wpList_append_any _ rfl (.tmp 21) (.tmp 22) _ rfl w.heap.size 38 i0 _ 9 72 Try.underlying22 hi0 hz0 hz1 hz2 rfl (by omega) (.slice (some ⟨w.heap.size, 0, none⟩) 0 0) 0 [] rfl ?_ w.heap.size A ms.length c _ rfl ?_ (enc_oneCell ms) ?_ ?_ ?_ ?_)
    · exact ⟨by simp, .inr ⟨w.heap.size, 0, #[], rfl, Nat.le_refl _, heap_alloc_new w _, Nat.le_refl _, Nat.zero_le _, rfl, rfl⟩⟩
    · exact HR.out.alloc (Nat.le_refl _) _
    · simp only [maxLen]; omega
    · omega
    intro v' w0 hown hg _
    obtain ⟨A0, c0, rfl⟩ := ownsRow_form hown
    have HB0 := hide (((Below.refl w.heap.size w).alloc (Nat.le_refl _) _).grown hg (by simp) (fun k hk => by simp [Value.ownBlock] at hk; omega))
    have HO0 := hide hown
    clear hown hg
    go_wp2_with fail
    have hlt0 : ∀ k, (Value.slice A0 ms.length c0).ownBlock = some k → k < w0.heap.size := fun k hk => (HO0.out.lt k hk).2
    refine (new_any A ms.length c (ms.flatMap Mv.enc) w0 (HR.out.later HB0.out) (enc_oneCell _) (by omega)).mono ?_
    rintro e1 w1 ⟨g, A1, c1, rfl, hj1, hb1⟩
    have HJ1 := hide hj1
    have HO1 := hide (own_only HO0.out (Only.of_below (S := fun _ => False) hb1) (fun _ _ => not_false))
    have HB1 := hide (HB0.out.trans (hb1.mono HB0.out.size))
    clear hj1 hb1
    go_wp2_with fail
    refine (run_any 25 #[] (fun _ => False) (fun _ => False) Unit (fun _ _ => True) okNext (doOk 25 ok25) eg25 g A1 c1 0 _ ms () ahead w1 HJ1.out (by omega) (by omega) trivial not_false not_false (fun _ _ => not_false)).mono ?_
    rintro e2 w2 ⟨r, hr2, rfl, _, hj2, hO2⟩
    rw [runs_ok_all, List.drop_zero] at hr2
    generalize hk : min ahead ms.length = k at hr2
    subst hr2
    have hkn : k ≤ ms.length := by omega
    clear hk
    simp only [Nat.zero_add] at hj2
    have HJ2 := hide hj2
    have HO2 := hide (own_only HO1.out hO2 (fun j hj hh => hh.elim id (fun e => by have := hlt0 j hj; have := HJ1.out.2.2.1; omega)))
    have HB2 := hide (Below.only HB1.out hO2 HB1.out.size (fun k _ hk => hk.elim False.elim (fun e => by rw [e]; have := HJ1.out.2.2.1; have := HB0.out.size; omega)))
    have hs2 : w.heap.size ≤ w2.heap.size := HB2.out.size
    have hs02 : w0.heap.size ≤ w2.heap.size := by have := HJ1.out.2.2.1; have := HJ1.out.1.lt; have := hO2.size; omega
    clear hj2 hO2 HO1 HB1
    go_wp2_with fail
    refine (copy_any g A1 c1 k _ ms w2 HJ2.out (by omega)).mono ?_
    rintro e3 w3 ⟨g3, A3, c3, rfl, hk3, hb3⟩
    have HK3 := hide hk3
    have HJ3 := hide (HJ2.out.later hb3)
    have HO3 := hide (own_only HO2.out (Only.of_below (S := fun _ => False) hb3) (fun _ _ => not_false))
    have HB3 := hide (HB2.out.trans (hb3.mono HB2.out.size))
    have hgg : g ≠ g3 := by have h1 := HJ2.out.1.lt; have h2 := HK3.out.2.2.1; omega
    clear hk3 hb3 HJ2 HO2 HB2
    go_wp2_with fail
    refine (run_any 25 #[] (fun _ => False) (fun _ => False) Unit (fun _ _ => True) okNext (doOk 25 ok25) eg25 g3 A3 c3 k _ ms () more w3 HK3.out (by omega) (by omega) trivial not_false not_false (fun _ _ => not_false)).mono ?_
    rintro e4 w4 ⟨r, hr4, rfl, _, hk4, hO4⟩
    rw [runs_ok_all] at hr4
    generalize hm : min more (ms.drop k).length = m at hr4
    subst hr4
    simp only at hk4
    have HK4 := hide hk4
    have HJ4 := hide (HJ3.out.other hO4 hgg HK3.out.1)
    have HO4 := hide (own_only HO3.out hO4 (fun j hj hh => hh.elim id (fun e => by have := hlt0 j hj; have := HK3.out.2.2.1; omega)))
    have HB4 := hide (Below.only HB3.out hO4 HB3.out.size (fun k _ hk => hk.elim False.elim (fun e => by rw [e]; have := HK3.out.2.2.1; omega)))
    clear hk4 hO4 HJ3 HK3 HO3 HB3
    go_wp2_with fail
    refine (run_nil g3 1 w4).mono ?_
    rintro e5 w5 ⟨rfl, rfl⟩
    have hkm : k + m ≤ ms.length := HK4.out.2.2.2
    have hsl := fun w => run_slice_from Try.underlying22 zMv A0 ms.length c0 hkn w
    have hw1 : IntKind.i64.wrap ((ms.length : Int) - (k : Int)) = (ms.length : Int) - (k : Int) := by rw [IntKind.wrap_i64]; omega
    have hw2 : IntKind.i64.wrap ((ms.length : Int) - (k : Int) - (m : Int)) = (ms.length : Int) - (k : Int) - (m : Int) := by rw [IntKind.wrap_i64]; omega
    have hLM : (ms.length : Int) - ((k + m : Nat) : Int) = (ms.length : Int) - (k : Int) - (m : Int) := by omega
    go_wp2
    have HR4 := hide (HR.out.later HB4.out)
    have HA4 := hide (Reads.of_own HO4.out)
    have HAk := hide ((Reads.of_own HO4.out).cutA hkn (own_cap HO4.out))
    rw [enc_drop] at HAk
    have hd0 : Below w4.heap.size w4 w4.drew := (Below.refl _ _).drew
    have hrl : (ms.drop k).length = ms.length - k := List.length_drop
    go_region_held3 (fun W => Below w4.heap.size w4 W) (first | exact hd0 | exact hb6 | exact hb7 | exact hb8 | exact hb9 | exact hb10 | exact hb11)
      (first
      | (go_at_call_of 15 g; refine (left_any g A1 ms.length c1 k _ (HJ4.out.later hd0).1 hkn (by omega)).mono ?_; rintro e6 w6 ⟨rfl, q6, hw6⟩; have hb6 := below_drewN hd0 q6; rw [← hw6] at hb6; clear hw6)
      | (go_at_call_of 15 g3; refine (left_any g3 A3 ms.length c3 (k + m) _ (HK4.out.later hb6).1 hkm (by omega)).mono ?_; rintro e7 w7 ⟨rfl, q7, hw7⟩; have hb7 := below_drewN hb6 q7; rw [← hw7] at hb7; clear hw7; rw [hLM])
      | (go_at_call 21; refine (rest_any g A1 c1 k _ ms _ (HJ4.out.later hb7) (by omega)).mono ?_; rintro e8 w8 ⟨A8, c8, rfl, hown8, hbb8⟩; have hb8 := hb7.trans (hbb8.mono hb7.size); have HR8 := hide (Reads.of_own hown8))
      | (go_at_call_of 19 A8; refine (same_any A8 (cutA A0 c0 k 9) (ms.length - k) c8 (c0 - k) w8.heap.size (ms.drop k) (ms.drop k) w8 HR8.out (HAk.out.later hb8) (by omega) true (by simp)).mono ?_; rintro e9 w9 ⟨rfl, q9, hw9⟩; have hb9 := below_drewN hb8 q9; rw [← hw9] at hb9; clear hw9)
      | (go_at_call_of 19 A; refine (same_any A A0 ms.length c c0 w9.heap.size ms ms w9 (HR4.out.later hb9) (HA4.out.later hb9) (by omega) true (by simp)).mono ?_; rintro e10 w10 ⟨rfl, q10, hw10⟩; have hb10 := below_drewN hb9 q10; rw [← hw10] at hb10; clear hw10)
      | (go_at_call 9; refine (awake_any _).mono ?_; rintro e11 w11 ⟨rfl, hbb11⟩; have hb11 := hb10.trans (hbb11.mono hb10.size)))
    all_goals
      go_wp2
      go_ret
      exact ⟨rfl, HB4.out.trans (hb11.mono HB4.out.size)⟩
  · have hnI : (40 : Int) < (n : Int) := by omega
    go_enter Try.func8, Try.ntmps8
    go_wp2_with (go_at_call 9; refine (awake_any _).mono ?_; rintro e w1 ⟨rfl, hb⟩)
    go_ret
    exact ⟨rfl, hb⟩
end Go.Proofs.Ytggnkgddblpicaa
