/- The walk of the law JobOf: it returns true, and below the heap of the call nothing has turned. Conditions: the slices lie in memory as a slice reads; the counts are bytes. -/
import Derived.Test.YtggnkgddblpicaaJobF
namespace Go.Proofs.Ytggnkgddblpicaa
open Go.RowKit Go.WideShapes Go.ChangeShapes

theorem at_map (b : Int) (ms : List Mv) : (ms.flatMap fun m => (m.at b).enc) = (ms.map (Mv.at b)).flatMap Mv.enc := by
  induction ms with
  | nil => rfl
  | cons m ms ih => simp only [List.flatMap_cons, List.map_cons, ih]

set_option maxHeartbeats 1600000 in
theorem jobOf_any (at_ : Int) (A : Option Addr) (n c : Nat) (ms : List Mv) (w : World) (hr : Reads w w.heap.size 8 A n (ms.flatMap Mv.wenc)) :
    Calls Try.prog 4 #[.int .i64 at_, .slice A n c] w fun e' w' => e' = .returned (.bool true) ∧ Below w.heap.size w w' := by
  have hl : Hid (ms.length = n) := by have := hr.1; rw [wenc_length] at this; exact (by omega : ms.length = n)
  by_cases hn : n ≤ 40
  · have hnI : ¬ (40 : Int) < (n : Int) := by omega
    have HR := hide hr
    clear hr
    go_enter Try.func4, Try.ntmps4
    go_wp2_with fail
    refine (of_any A n c at_ ms w HR.out (by omega)).mono ?_
    rintro e1 w1 ⟨A1, c1, rfl, hown, hb⟩
    rw [at_map] at hown
    have HO := hide hown
    have HB := hide hb
    clear hown hb
    go_wp2_with fail
    go_loopw [21] (fun i wr => ∃ k : Nat, k ≤ n ∧ i = .int .i64 ((k : Nat) : Int) ∧ Hid (∃ q, wr = w1.drewN q)) (fun i _ => n - (intOf i).toNat)
    case atStart => exact ⟨0, Nat.zero_le _, rfl, hide ⟨0, rfl⟩⟩
    case round =>
      obtain ⟨k, hk, rfl, hW⟩ := hrel
      by_cases hlt : k < n
      · have hltI : (k : Int) < (n : Int) := by omega
        have hk1 : k < ms.length := by have := hl.out; omega
        have hk2 : k < (ms.map (Mv.at at_)).length := by simpa using hk1
        obtain ⟨q, hq⟩ := hW.out
        obtain ⟨bb, off, rfl, hbb, hc⟩ := HR.out.form (by omega) (by omega)
        obtain ⟨g, rfl, hg1, hg2, hd⟩ := own_cells HO.out (by omega)
        have F := w_cells (w := wr) (fun j u hu => by rw [hq]; exact (HB.out.cell (p := ⟨bb, off + j, none⟩) hbb).trans (hc j u hu)) hk1
        have G := mv_cells (w := wr) (b := g) (off := 0) (fun j u hu => by rw [hq, Nat.zero_add]; exact hd j u hu) hk2
        have HQ := hide hq
        clear hc hd hq hW
        rw [List.getElem_map] at G
        simp only [Nat.zero_add, Mv.at] at G
        generalize ms[k] = x at F G
        have E := neqW x x
        simp only [Mv.wval, (sameL_iff (kindsW x) (kindsW x)).2 rfl] at E
        obtain ⟨f0, f1, f2, f3, f4, f5, f6, f7⟩ := F
        obtain ⟨g0, g1, g2, g3, g4, g5, g6, g7, g8⟩ := G
        go_wp2
        go_quiet (fail)
        go_wp2
        go_roundw
        case rel => exact ⟨k + 1, by omega, by go_num, hide ⟨q + _, by rw [HQ.out, World.drewN_drewN]⟩⟩
        case measure => simp [intOf]; omega
      · have hltI : ¬ (k : Int) < (n : Int) := by omega
        obtain ⟨q, hq⟩ := hW.out
        subst hq
        go_wp2_with fail
        refine (awake_any _).mono ?_
        rintro e6 w6 ⟨rfl, hb6⟩
        go_wp2
        go_ret
        exact ⟨rfl, (below_drewN HB.out q).trans (hb6.mono HB.out.size)⟩
  · have hnI : (40 : Int) < (n : Int) := by omega
    go_enter Try.func4, Try.ntmps4
    go_wp2_with (go_at_call 9; refine (awake_any _).mono ?_; rintro e w1 ⟨rfl, hb⟩)
    go_ret
    exact ⟨rfl, hb⟩
end Go.Proofs.Ytggnkgddblpicaa
