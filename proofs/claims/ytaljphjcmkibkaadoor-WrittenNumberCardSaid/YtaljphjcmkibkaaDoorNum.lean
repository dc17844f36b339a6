/- The walk of the law WrittenNumber: it returns true, and below the heap of the call nothing has turned. Conditions: what the library asks of the world. -/
import Derived.Test.YtaljphjcmkibkaaDoorWT
namespace Go.Proofs.YtaljphjcmkibkaaDoor
open Go.RowKit Go.WideShapes Go.ChangeShapes

set_option maxHeartbeats 1600000 in
theorem writtenNumber_any (l : List UInt8) (n : Int) (w : World) (hw : WOK w) : Calls Tryd.prog 7 #[str l, .int .i64 n] w fun e w' => e = .returned (.bool true) ∧ Below w.heap.size w w' := by
  have hlen := run_len l
  by_cases h200 : 200 < l.length
  · have hI : (200 : Int) < (l.length : Int) := by omega
    go_enter Tryd.func7, Tryd.ntmps7
    simp only [str]
    go_wp2_with (go_at_call 12; refine (awake_any _ hw).mono ?_; rintro e w1 ⟨rfl, hb⟩)
    go_ret
    exact ⟨rfl, hb⟩
  · have hI : ¬ (200 : Int) < (l.length : Int) := by omega
    have h1 := fun w => number_any l n w
    have h2 := fun w => refNumber_any l (by omega) n w
    obtain ⟨k, hk, _⟩ := number_nat l n
    rw [hk] at h1 h2
    generalize (number l n).2 = b at h1 h2
    have hbb : (b == b) = true := by simp
    simp only [str] at h1 h2
    clear hk
    go_enter Tryd.func7, Tryd.ntmps7
    simp only [str]
    go_wp2_with fail
    refine (h1 w).mono ?_
    rintro e w1 ⟨rfl, hb1⟩
    go_wp2_with fail
    refine (h2 w1).mono ?_
    rintro e w2 ⟨rfl, rfl⟩
    go_wp2_with fail
    refine (awake_any _ (hw.later hb1)).mono ?_
    rintro e w3 ⟨rfl, hb3⟩
    go_wp2
    go_ret
    exact ⟨rfl, hb1.trans (hb3.mono hb1.size)⟩
end Go.Proofs.YtaljphjcmkibkaaDoor
