/- The contract of the reference's digits. Conditions: the number is below 2^63. -/
import Derived.Test.YtaljphjcmkibkaaDoorWQ
namespace Go.Proofs.YtaljphjcmkibkaaDoor
open Go.RowKit Go.WideShapes Go.ChangeShapes

theorem run_dig_cut : ∀ (y : Fin 10) (w : World), (Instr.slice 9 (.string ⟨#[48, 49, 50, 51, 52, 53, 54, 55, 56, 57]⟩) (some (.int .i64 ((y.val : Nat) : Int))) (some (.int .i64 (((y.val : Nat) : Int) + 1))) none).run Tryd.prog w = .ok (.string ⟨#[UInt8.ofNat (48 + y.val)]⟩) w := by
  intro y w
  rcases y with ⟨y, hy⟩
  rcases (by omega : y = 0 ∨ y = 1 ∨ y = 2 ∨ y = 3 ∨ y = 4 ∨ y = 5 ∨ y = 6 ∨ y = 7 ∨ y = 8 ∨ y = 9) with rfl | rfl | rfl | rfl | rfl | rfl | rfl | rfl | rfl | rfl <;> kernel_rfl

theorem decDigits_len (n : Nat) (h : n < 9223372036854775808) : (Lib.decDigits n).length ≤ 100 := by
  have : ∀ (k m : Nat), m < 10 ^ (k + 1) → (Lib.decDigits m).length ≤ k + 1 := by
    intro k
    induction k with
    | zero => intro m hm; rw [Lib.decDigits_one (by omega)]; simp
    | succ k ih =>
      intro m hm
      rw [Lib.decDigits]
      split
      · simp
      · rw [List.length_append]
        have := ih (m / 10) (by rw [Nat.pow_succ] at hm; omega)
        simp
        omega
  exact Nat.le_trans (this 19 n (by omega)) (by decide)

set_option maxHeartbeats 1600000 in
theorem refDigits_any : ∀ (n : Nat), n < 9223372036854775808 → ∀ w : World, Calls Tryd.prog 34 #[.int .i64 (n : Int)] w fun e w' => e = .returned (.string ⟨(Lib.decDigits n).toArray⟩) ∧ w' = w := by
  intro n
  induction n using Nat.strongRecOn with
  | ind n ih =>
    intro hn w
    by_cases h : n < 10
    · have hI : (n : Int) < 10 := by omega
      have hcut := run_dig_cut ⟨n, h⟩
      simp only at hcut
      rw [Lib.decDigits_one h]
      generalize UInt8.ofNat (48 + n) = c at hcut
      go_enter Tryd.func34, Tryd.ntmps34
      go_wp2
      go_ret
      exact ⟨rfl, rfl⟩
    · have hI : ¬ (n : Int) < 10 := by omega
      have hd : Lib.decDigits n = Lib.decDigits (n / 10) ++ Lib.decDigits (n % 10) := by
        rw [Lib.decDigits, dif_neg h, Lib.decDigits_one (show n % 10 < 10 by omega)]
      have h1 := ih (n / 10) (by omega) (by omega)
      have h2 := ih (n % 10) (by omega) (by omega)
      have l1 := decDigits_len (n / 10) (by omega)
      have l2 := decDigits_len (n % 10) (by omega)
      rw [hd]
      have t1 : (n : Int).tdiv 10 = ((n / 10 : Nat) : Int) := by rw [Int.tdiv_eq_ediv_of_nonneg (by omega)]; omega
      have t2 : (n : Int).tmod 10 = ((n % 10 : Nat) : Int) := by rw [Int.tmod_eq_emod_of_nonneg (by omega)]; omega
      have hqn : n / 10 < 9223372036854775808 := by omega
      generalize n / 10 = q at h1 l1 t1 hqn
      have hqw : wrap64 (q : Int) = (q : Int) := by unfold wrap64; omega
      generalize n % 10 = r at h2 l2 t2
      generalize Lib.decDigits q = s1 at h1 l1
      generalize Lib.decDigits r = s2 at h2 l2
      have hcat := fun w => run_cat (P := Tryd.prog) s1 s2 (by omega) (by omega) w
      clear hd ih
      go_enter Tryd.func34, Tryd.ntmps34
      go_wp2_with fail
      refine (h1 _).mono ?_
      rintro e w1 ⟨rfl, rfl⟩
      go_wp2_with fail
      refine (h2 _).mono ?_
      rintro e w2 ⟨rfl, rfl⟩
      go_wp2
      go_ret
      exact ⟨rfl, rfl⟩
end Go.Proofs.YtaljphjcmkibkaaDoor
