/- The bits of addresses, of masks and of numbers: plain laws. Conditions: the words are below 2^64. -/
import Derived.Test.YtaljphjcmkibkaaDoorWF
namespace Go.Proofs.YtaljphjcmkibkaaDoor
open Go.RowKit Go.WideShapes Go.ChangeShapes

/-- A bit of an address, from the left. -/
def Ad.b (a : Ad) (k : Nat) : Bool := if k < 64 then a.x.testBit (63 - k) else a.y.testBit (127 - k)

theorem and_pow_zero (x i : Nat) : (x &&& 2 ^ i = 0) ↔ x.testBit i = false := by
  constructor
  · intro h
    have := congrArg (fun z => Nat.testBit z i) h
    simpa [Nat.testBit_and, Nat.testBit_two_pow] using this
  · intro h
    apply Nat.eq_of_testBit_eq
    intro j
    rw [Nat.testBit_and, Nat.testBit_two_pow, Nat.zero_testBit]
    by_cases hij : i = j
    · subst hij; simp [h]
    · simp [hij]

theorem at_b (a : Ad) (k : Nat) : a.at_ k = a.b k := by
  unfold Ad.at_ Ad.b Ad.bit Ad.and
  by_cases hk : k < 64
  · simp only [if_pos hk, Nat.and_zero]
    have := and_pow_zero a.x (63 - k)
    cases h : a.x.testBit (63 - k) with
    | false => simp [this.2 h]
    | true => simp only [ne_eq, Ad.mk.injEq, and_true, decide_eq_true_eq]; intro h0; rw [this.1 h0] at h; cases h
  · simp only [if_neg hk, Nat.and_zero]
    have := and_pow_zero a.y (127 - k)
    cases h : a.y.testBit (127 - k) with
    | false => simp [this.2 h]
    | true => simp only [ne_eq, Ad.mk.injEq, true_and, decide_eq_true_eq]; intro h0; rw [this.1 h0] at h; cases h

theorem word_ext {x y : Nat} (hx : x < 18446744073709551616) (hy : y < 18446744073709551616) (h : ∀ i, i < 64 → x.testBit i = y.testBit i) : x = y := by
  apply Nat.eq_of_testBit_eq
  intro i
  by_cases hi : i < 64
  · exact h i hi
  · have h2 : (18446744073709551616 : Nat) ≤ 2 ^ i := Nat.le_trans (by decide : 18446744073709551616 ≤ 2 ^ 64) (Nat.pow_le_pow_right (by decide) (by omega))
    rw [Nat.testBit_lt_two_pow (Nat.lt_of_lt_of_le hx h2), Nat.testBit_lt_two_pow (Nat.lt_of_lt_of_le hy h2)]

theorem Ad.ext_b {a c : Ad} (ha : a.Ok) (hc : c.Ok) (h : ∀ k, k < 128 → a.b k = c.b k) : a = c := by
  cases a with | mk ax ay =>
  cases c with | mk cx cy =>
  congr 1
  · refine word_ext ha.1 hc.1 fun i hi => ?_
    have := h (63 - i) (by omega)
    simp only [Ad.b, if_pos (show 63 - i < 64 by omega), show 63 - (63 - i) = i by omega] at this
    exact this
  · refine word_ext ha.2 hc.2 fun i hi => ?_
    have := h (127 - i) (by omega)
    simp only [Ad.b, if_neg (show ¬ 127 - i < 64 by omega), show 127 - (127 - i) = i by omega] at this
    exact this

theorem b_zero (k : Nat) : (⟨0, 0⟩ : Ad).b k = false := by simp [Ad.b]
theorem b_and (a c : Ad) (k : Nat) : (a.and c).b k = (a.b k && c.b k) := by
  unfold Ad.b Ad.and; split <;> simp [Nat.testBit_and]
theorem b_or (a c : Ad) (k : Nat) : (a.or c).b k = (a.b k || c.b k) := by
  unfold Ad.b Ad.or; split <;> simp [Nat.testBit_or]
theorem full_bit (i : Nat) (h : i < 64) : Nat.testBit 18446744073709551615 i = true := by
  have := Nat.testBit_two_pow_sub_one 64 i
  rw [show (2 : Nat) ^ 64 - 1 = 18446744073709551615 by decide] at this
  rw [this]; simp [h]
theorem b_not (a : Ad) (k : Nat) (hk : k < 128) : a.not.b k = !a.b k := by
  unfold Ad.b Ad.not
  split
  · rw [Nat.testBit_xor, full_bit _ (by omega)]; simp
  · rw [Nat.testBit_xor, full_bit _ (by omega)]; simp
theorem b_bit (k j : Nat) (hk : k < 128) (hj : j < 128) : (Ad.bit k).b j = decide (j = k) := by
  unfold Ad.b Ad.bit
  by_cases h : k < 64 <;> by_cases h2 : j < 64
  · rw [if_pos h, if_pos h2]; simp only [Nat.testBit_two_pow]; congr 1; simp only [eq_iff_iff]; omega
  · rw [if_pos h, if_neg h2]; simp only [Nat.zero_testBit]; symm; simp; omega
  · rw [if_neg h, if_pos h2]; simp only [Nat.zero_testBit]; symm; simp; omega
  · rw [if_neg h, if_neg h2]; simp only [Nat.testBit_two_pow]; congr 1; simp only [eq_iff_iff]; omega
theorem b_with (a : Ad) (k j : Nat) (v : Bool) (hk : k < 128) (hj : j < 128) : (a.with_ k v).b j = if j = k then v else a.b j := by
  unfold Ad.with_
  cases v with
  | true => simp only [if_true, b_or, b_bit k j hk hj]; by_cases h : j = k <;> simp [h]
  | false => simp only [Bool.false_eq_true, if_false, b_and, b_not _ j hj, b_bit k j hk hj]; by_cases h : j = k <;> simp [h]
theorem mask_bits : ∀ (l : Fin 65) (i : Fin 64), Nat.testBit (maskW l.val) i.val = decide (64 - l.val ≤ i.val) := by decide +kernel
theorem b_mask (n j : Nat) (hj : j < 128) : (Ad.mask n).b j = decide (j < n) := by
  unfold Ad.b Ad.mask
  by_cases h2 : j < 64
  · rw [if_pos h2]
    rw [mask_bits ⟨min n 64, by omega⟩ ⟨63 - j, by omega⟩]
    simp only [decide_eq_decide]; omega
  · rw [if_neg h2]
    rw [mask_bits ⟨min (n - 64) 64, by omega⟩ ⟨127 - j, by omega⟩]
    simp only [decide_eq_decide]; omega
theorem b_cut (a : Ad) (n j : Nat) (hj : j < 128) : (a.cut n).b j = (a.b j && decide (j < n)) := by
  unfold Ad.cut; rw [b_and, b_mask n j hj]
/-- An address that is cut so already has no bit behind. -/
theorem cut_iff {a : Ad} (ha : a.Ok) (n : Nat) : a.cut n = a ↔ ∀ j, n ≤ j → j < 128 → a.b j = false := by
  constructor
  · intro h j hn hj
    have := b_cut a n j hj
    rw [h] at this
    rw [this]; simp; omega
  · intro h
    refine Ad.ext_b (ha.cut n) ha fun k hk => ?_
    rw [b_cut a n k hk]
    by_cases hn : k < n
    · simp [hn]
    · rw [h k (by omega) hk]; simp

theorem b_put (a : Ad) (f m n : Nat) (hfm : f + m ≤ 128) : ∀ k, k ≤ m → ∀ j, j < 128 → (putV a f m n k).b j = if f ≤ j ∧ j < f + k then (n / 2 ^ (m - 1 - (j - f)) % 2 == 1) else a.b j
  | 0, _, j, _ => by rw [putV, if_neg (by omega)]
  | k + 1, hk, j, hj => by
    rw [putV, b_with _ _ _ _ (by omega) hj]
    by_cases h : j = f + k
    · rw [if_pos h, if_pos (by omega)]; subst h; rw [show f + k - f = k by omega]
    · rw [if_neg h, b_put a f m n hfm k (by omega) j hj]
      by_cases h2 : f ≤ j ∧ j < f + k
      · rw [if_pos h2, if_pos (by omega)]
      · rw [if_neg h2, if_neg (by omega)]

theorem getV_congr (a c : Ad) (f : Nat) : ∀ m, (∀ i, i < m → a.b (f + i) = c.b (f + i)) → getV a f m = getV c f m
  | 0, _ => rfl
  | m + 1, h => by rw [getV, getV, at_b, at_b, h m (by omega), getV_congr a c f m fun i hi => h i (by omega)]
/-- What the bits of a number say, read again. -/
theorem getV_of (a : Ad) (f m n : Nat) (h : ∀ i, i < m → a.b (f + i) = (n / 2 ^ (m - 1 - i) % 2 == 1)) : ∀ k, k ≤ m → getV a f k = n / 2 ^ (m - k) % 2 ^ k
  | 0, _ => by rw [getV, Nat.pow_zero, Nat.mod_one]
  | k + 1, hk => by
    rw [getV, getV_of a f m n h k (by omega), at_b, h k (by omega)]
    have e : n / 2 ^ (m - k) = n / 2 ^ (m - 1 - k) / 2 := by
      rw [Nat.div_div_eq_div_mul, ← Nat.pow_succ, show (m - 1 - k).succ = m - k by omega]
    rw [e, show m - (k + 1) = m - 1 - k by omega, Nat.pow_succ, Nat.mul_comm (2 ^ k) 2, Nat.mod_mul]
    generalize n / 2 ^ (m - 1 - k) = q
    have : (if (q % 2 == 1) = true then 1 else 0) = q % 2 := by
      rcases Nat.mod_two_eq_zero_or_one q with h | h <;> simp [h]
    rw [this]; omega
theorem getV_part (a : Ad) (f m : Nat) : ∀ k, getV a f m = getV a f (m + k) / 2 ^ k
  | 0 => by simp
  | k + 1 => by
    rw [getV_part a f m k, show m + (k + 1) = (m + k) + 1 by omega, getV, Nat.pow_succ, Nat.mul_comm (2 ^ k) 2, ← Nat.div_div_eq_div_mul]
    congr 1
    split <;> omega
theorem b_of_get (a : Ad) (f m i : Nat) (hi : i < m) : a.b (f + i) = (getV a f m / 2 ^ (m - 1 - i) % 2 == 1) := by
  have h := getV_part a f (i + 1) (m - 1 - i)
  rw [show i + 1 + (m - 1 - i) = m by omega] at h
  rw [← h, getV, at_b]
  cases a.b (f + i) <;> simp
  all_goals omega
theorem getV_put (a : Ad) (f m n : Nat) (hfm : f + m ≤ 128) : getV (putV a f m n m) f m = n % 2 ^ m := by
  have := getV_of (putV a f m n m) f m n (fun i hi => by rw [b_put a f m n hfm m (Nat.le_refl _) _ (by omega), if_pos (by omega), show f + i - f = i by omega]) m (Nat.le_refl _)
  rw [this, Nat.sub_self, Nat.pow_zero, Nat.div_one]
end Go.Proofs.YtaljphjcmkibkaaDoor
