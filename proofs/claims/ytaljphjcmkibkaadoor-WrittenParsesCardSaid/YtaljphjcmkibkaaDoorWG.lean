/- Texts by their bytes, and the contract of written.group. Conditions: the number is below 65536. -/
import Derived.Test.YtaljphjcmkibkaaDoorWF
import Derived.Laws.Concat
namespace Go.Proofs.YtaljphjcmkibkaaDoor
open Go.RowKit Go.WideShapes Go.ChangeShapes

/-- A text by its bytes. -/
def str (l : List UInt8) : Value := .string ⟨l.toArray⟩
def hexTab : List UInt8 := [48, 49, 50, 51, 52, 53, 54, 55, 56, 57, 97, 98, 99, 100, 101, 102]
def hexd (d : Nat) : UInt8 := hexTab.getD d 48
def hexL (n : Nat) : Nat → List UInt8
  | 0 => []
  | k + 1 => hexL n k ++ [hexd (n / 2 ^ (4 * (3 - k)) % 16)]
theorem hexL_length (n : Nat) : ∀ k, (hexL n k).length = k
  | 0 => rfl
  | k + 1 => by simp [hexL, hexL_length n k]

theorem run_cat {P : Program} (x y : List UInt8) (hx : x.length ≤ 8388608) (hy : y.length ≤ 8388608) (w : World) : (Op.stringOp .add ⟨x.toArray⟩ ⟨y.toArray⟩).run P w = .ok (.string ⟨(x ++ y).toArray⟩) w :=
  run_string_add_lists w x y (by omega) (by omega)

theorem run_hex_at : ∀ (y : Fin 16) (w : World), (Instr.index 9 (.string ⟨#[48, 49, 50, 51, 52, 53, 54, 55, 56, 57, 97, 98, 99, 100, 101, 102]⟩) (.int .i64 ((y.val : Nat) : Int))).run Tryd.prog w = .ok (.int .u8 ((hexd y.val).toNat : Int)) w := by
  intro y w
  rcases y with ⟨y, hy⟩
  rcases (by omega : y = 0 ∨ y = 1 ∨ y = 2 ∨ y = 3 ∨ y = 4 ∨ y = 5 ∨ y = 6 ∨ y = 7 ∨ y = 8 ∨ y = 9 ∨ y = 10 ∨ y = 11 ∨ y = 12 ∨ y = 13 ∨ y = 14 ∨ y = 15) with rfl | rfl | rfl | rfl | rfl | rfl | rfl | rfl | rfl | rfl | rfl | rfl | rfl | rfl | rfl | rfl <;> kernel_rfl
theorem run_hex_conv : ∀ (y : Fin 16) (w : World), (convert 5 9 (.int .u8 ((hexd y.val).toNat : Int))).run Tryd.prog w = .ok (.string ⟨#[hexd y.val]⟩) w := by
  intro y w
  rcases y with ⟨y, hy⟩
  rcases (by omega : y = 0 ∨ y = 1 ∨ y = 2 ∨ y = 3 ∨ y = 4 ∨ y = 5 ∨ y = 6 ∨ y = 7 ∨ y = 8 ∨ y = 9 ∨ y = 10 ∨ y = 11 ∨ y = 12 ∨ y = 13 ∨ y = 14 ∨ y = 15) with rfl | rfl | rfl | rfl | rfl | rfl | rfl | rfl | rfl | rfl | rfl | rfl | rfl | rfl | rfl | rfl <;> kernel_rfl

set_option maxHeartbeats 1600000 in
theorem group_any (n : Nat) (hn : n < 65536) (w : World) : Calls Tryd.prog 29 #[.int .i64 n] w fun e w' => e = .returned (str (hexL n 4)) ∧ w' = w := by
  go_enter Tryd.func29, Tryd.ntmps29
  go_wp2
  go_loopw [3, 5] (fun s i wr => ∃ k : Nat, k ≤ 4 ∧ s = .string ⟨(hexL n k).toArray⟩ ∧ i = .int .i64 (k : Int) ∧ Hid (wr = w)) (fun _ i _ => 4 - (intOf i).toNat)
  case atStart => exact ⟨0, Nat.zero_le _, rfl, rfl, hide rfl⟩
  case round =>
    obtain ⟨k, hk, rfl, rfl, HW⟩ := hrel
    by_cases hlt : k < 4
    · have hltI : (k : Int) < 4 := by omega
      have hs : hexL n (k + 1) = hexL n k ++ [hexd (n / 2 ^ (4 * (3 - k)) % 16)] := rfl
      have hl := hexL_length n k
      generalize hexL n k = s at hs hl
      obtain ⟨d, hd⟩ : ∃ d : Nat, d = 4 * (3 - k) := ⟨_, rfl⟩
      have hsub : (4 : Int) * (3 - (k : Int)) = (d : Int) := by omega
      obtain ⟨x, hx⟩ : ∃ x : Nat, x = n / 2 ^ d := ⟨_, rfl⟩
      have hxn : x ≤ n := by rw [hx]; exact Nat.div_le_self _ _
      have hdiv : (n : Int) / 2 ^ d = (x : Int) := by rw [hx]; simp
      have hd64 : (d : Int) ≤ 64 := by omega
      have hd0 : (0 : Int) ≤ (d : Int) := by omega
      have hand : bits .and .i64 (x : Int) 15 = ((x % 16 : Nat) : Int) := by
        have := bits_and_i64 x 15 (by omega) (by decide)
        rw [show (15 : Nat) = 2 ^ 4 - 1 from rfl, Nat.and_two_pow_sub_one_eq_mod] at this
        exact this
      rw [← hd, ← hx] at hs
      generalize hy : x % 16 = y at hs hand
      have hy16 : y < 16 := by omega
      have hi := run_hex_at ⟨y, hy16⟩
      have hv := run_hex_conv ⟨y, hy16⟩
      simp only at hi hv
      generalize hexd y = c at hs hi hv
      have hcat := fun w => run_cat (P := Tryd.prog) s [c] (by omega) (by simp) w
      have HS := hide hs
      clear hs hd hx hy hxn
      go_wp2
      exact ⟨⟨k + 1, by omega, by rw [HS.out], by go_num, HW⟩, by simp [intOf]; omega⟩
    · have hltI : ¬ (k : Int) < 4 := by omega
      obtain rfl : k = 4 := by omega
      go_wp2
      go_ret
      exact ⟨rfl, HW.out⟩
end Go.Proofs.YtaljphjcmkibkaaDoor
