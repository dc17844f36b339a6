/- Addresses by their parts, texts parted and joined, digits written and read: plain laws. Conditions: those of the theorems. -/
import Derived.Test.YtaljphjcmkibkaaDoorWT
import Derived.Test.YtaljphjcmkibkaaDoorXC
namespace Go.Proofs.YtaljphjcmkibkaaDoor
open Go.RowKit Go.WideShapes Go.ChangeShapes

/-! ### Addresses by their parts -/
theorem ext_get {a c : Ad} (ha : a.Ok) (hc : c.Ok) (wide many : Nat) (hw : 0 < wide) (hm : wide * many = 128) (h : ∀ i, i < many → getV a (wide * i) wide = getV c (wide * i) wide) : a = c := by
  refine Ad.ext_b ha hc fun k hk => ?_
  have hdm := Nat.div_add_mod k wide
  have hlt := Nat.mod_lt k hw
  have hi : k / wide < many := by rw [Nat.div_lt_iff_lt_mul hw, Nat.mul_comm]; omega
  rw [← hdm, b_of_get a _ wide _ hlt, b_of_get c _ wide _ hlt, h _ hi]
theorem getV_zero (f : Nat) : ∀ m, getV ⟨0, 0⟩ f m = 0
  | 0 => rfl
  | m + 1 => by rw [getV, getV_zero f m, at_b, b_zero]; rfl
theorem getV_none {a : Ad} (f m : Nat) (h : ∀ i, i < m → a.b (f + i) = false) : getV a f m = 0 := by
  rw [getV_congr a ⟨0, 0⟩ f m (fun i hi => by rw [h i hi, b_zero]), getV_zero]
theorem b_none {a : Ad} {f m : Nat} (h : getV a f m = 0) (i : Nat) (hi : i < m) : a.b (f + i) = false := by
  rw [b_of_get a f m i hi, h, Nat.zero_div]; rfl

theorem foldF_two (rd : List UInt8 → Nat × Bool) (wide : Nat) : ∀ (r : List (List UInt8)) (k : Nat) (a : Ad), (foldF rd wide k a r).2 = 0 ↔ ∀ p ∈ r, (rd p).2 = true := by
  intro r
  induction r with
  | nil => intro k a; simp [foldF]
  | cons x r ih =>
    intro k a
    rw [foldF]
    by_cases h : (rd x).2 = true
    · rw [if_pos h, ih]; simp [h]
    · rw [if_neg h]
      constructor
      · intro h0; cases h0
      · intro hall; exact absurd (hall x (by simp)) h
theorem foldF_four (rd : List UInt8 → Nat × Bool) (wide : Nat) : ∀ (r : List (List UInt8)) (k : Nat) (a : Ad), (foldF rd wide k a r).2 ≠ 0 → foldF rd wide k a r = (⟨0, 0⟩, 4) := by
  intro r
  induction r with
  | nil => intro k a h; exact absurd rfl h
  | cons x r ih =>
    intro k a
    rw [foldF]
    by_cases h : (rd x).2 = true
    · rw [if_pos h]; exact ih _ _
    · rw [if_neg h]; exact fun _ => rfl
theorem part_apart {wide k i t : Nat} (h : i ≠ k) (ht : t < wide) : ¬ (wide * k ≤ wide * i + t ∧ wide * i + t < wide * k + wide) := by
  rcases Nat.lt_or_ge i k with hl | hl
  · have := Nat.mul_le_mul_left wide (show i + 1 ≤ k from hl)
    rw [Nat.mul_succ] at this
    omega
  · have := Nat.mul_le_mul_left wide (show k + 1 ≤ i by omega)
    rw [Nat.mul_succ] at this
    omega
theorem foldF_get (rd : List UInt8 → Nat × Bool) (wide many : Nat) (hm : wide * many ≤ 128) : ∀ (r : List (List UInt8)) (k : Nat) (a : Ad), k + r.length ≤ many → (∀ p ∈ r, (rd p).2 = true) →
    ∀ i, i < many → getV (foldF rd wide k a r).1 (wide * i) wide = if k ≤ i ∧ i < k + r.length then (rd (r.getD (i - k) [])).1 % 2 ^ wide else getV a (wide * i) wide := by
  intro r
  induction r with
  | nil => intro k a _ _ i _; rw [foldF, if_neg (by simp only [List.length_nil]; omega)]
  | cons x r ih =>
    intro k a hk hall i hi
    simp only [List.length_cons] at hk
    have hkm : wide * k + wide ≤ 128 := by
      have := Nat.mul_le_mul_left wide (show k + 1 ≤ many by omega)
      rw [Nat.mul_succ] at this
      omega
    rw [foldF, if_pos (hall x (by simp)), ih (k + 1) _ (by omega) (fun p hp => hall p (by simp [hp])) i hi]
    by_cases hik : i = k
    · subst hik
      rw [if_neg (by omega), if_pos (by simp only [List.length_cons]; omega), getV_put a _ _ _ hkm, Nat.sub_self]
      rfl
    · by_cases h : k + 1 ≤ i ∧ i < k + 1 + r.length
      · rw [if_pos h, if_pos (by simp only [List.length_cons]; omega), show i - k = (i - (k + 1)) + 1 by omega]
        rfl
      · rw [if_neg h, if_neg (by simp only [List.length_cons]; omega)]
        have him : wide * i + wide ≤ 128 := by
          have := Nat.mul_le_mul_left wide (show i + 1 ≤ many by omega)
          rw [Nat.mul_succ] at this
          omega
        refine getV_congr _ _ _ _ fun t ht => ?_
        rw [b_put a _ _ _ hkm _ (Nat.le_refl _) _ (by omega), if_neg (part_apart hik ht)]

/-! ### A text that is parted, and joined -/
theorem splitL_free (c : UInt8) : ∀ p : List UInt8, c ∉ p → splitL c p = [p]
  | [], _ => rfl
  | x :: p, h => by
    have hx : x ≠ c := fun e => h (by simp [e])
    rw [splitL, if_neg hx, splitL_free c p (fun hm => h (by simp [hm]))]
theorem splitL_app (c : UInt8) (l : List UInt8) : ∀ p : List UInt8, c ∉ p → splitL c (p ++ c :: l) = p :: splitL c l
  | [], _ => by rw [List.nil_append, splitL, if_pos rfl]
  | x :: p, h => by
    have hx : x ≠ c := fun e => h (by simp [e])
    rw [List.cons_append, splitL, if_neg hx, splitL_app c l p (fun hm => h (by simp [hm]))]
theorem splitL_tail (c : UInt8) : ∀ (r : List (List UInt8)) (x : List UInt8), (∀ p ∈ x :: r, c ∉ p) → splitL c (x ++ Lib.joinTail [c] r) = x :: r
  | [], x, h => by rw [Lib.joinTail]; simp only [List.map_nil, List.flatten_nil, List.append_nil]; exact splitL_free c x (h x (by simp))
  | y :: r, x, h => by
    have : Lib.joinTail [c] (y :: r) = c :: (y ++ Lib.joinTail [c] r) := by simp [Lib.joinTail]
    rw [this, splitL_app c _ x (h x (by simp)), splitL_tail c r y (fun p hp => h p (by simp at hp ⊢; exact .inr hp))]
theorem splitL_join (c : UInt8) {ps : List (List UInt8)} (h0 : ps ≠ []) (h : ∀ p ∈ ps, c ∉ p) : splitL c (Lib.join ps [c]) = ps := by
  cases ps with
  | nil => exact absurd rfl h0
  | cons x r => rw [Lib.join_cons]; exact splitL_tail c r x h
theorem join_splitL (c : UInt8) : ∀ l : List UInt8, Lib.join (splitL c l) [c] = l
  | [] => by rw [splitL, Lib.join_one]
  | x :: l => by
    have ih := join_splitL c l
    have hne := splitL_ne c l
    rw [splitL]
    cases hs : splitL c l with
    | nil => exact absurd hs hne
    | cons p ps =>
      rw [hs] at ih
      rw [Lib.join_cons] at ih
      split
      · rename_i hx
        rw [Lib.join_cons]
        have : Lib.joinTail [c] (p :: ps) = c :: (p ++ Lib.joinTail [c] ps) := by simp [Lib.joinTail]
        rw [this, ih, hx]; rfl
      · rw [Lib.join_cons, List.cons_append, ih]

/-! ### Numbers -/
theorem itoa_nat (n : Nat) : Lib.itoa (n : Int) = Lib.decDigits n := by
  rw [Lib.itoa, if_neg (by omega), Int.toNat_natCast]
theorem num_round : ∀ n : Fin 256, number (Lib.itoa ((n.val : Nat) : Int)) 255 = (((n.val : Nat) : Int), true) := by decide +kernel
theorem num_round8 : ∀ n : Fin 129, number (Lib.itoa ((n.val : Nat) : Int)) 128 = (((n.val : Nat) : Int), true) := by decide +kernel
theorem itoa_digs : ∀ n : Fin 256, (Lib.itoa ((n.val : Nat) : Int)).all (fun c => decide (48 ≤ c.toNat) && decide (c.toNat ≤ 57)) = true := by decide +kernel
theorem itoa_free {n : Nat} (hn : n < 256) {c : UInt8} (hc : c.toNat < 48 ∨ 57 < c.toNat) : c ∉ Lib.itoa (n : Int) := by
  intro hm
  have := List.all_eq_true.1 (itoa_digs ⟨n, hn⟩) c hm
  simp at this
  omega
/-- What is read as a number is its digits. -/
theorem number_back {l : List UInt8} {most : Int} {n : Nat} (h : number l most = ((n : Int), true)) : Lib.itoa (n : Int) = l ∧ (n : Int) ≤ most := by
  unfold number at h
  cases hv : numV l with
  | none => rw [hv] at h; injection h with _ h2; cases h2
  | some m =>
    rw [hv] at h
    simp only at h
    split at h
    · injection h with _ h2; cases h2
    · rename_i hle
      injection h with h1 _
      have hmn : m = n := by omega
      subst hmn
      unfold numV at hv
      split at hv
      · cases hv
      · rename_i hno
        refine ⟨?_, by omega⟩
        rw [itoa_nat]
        exact dec_canon _ l rfl (fun e => hno (.inl e)) m hv (fun e => hno (.inr (.inr (.inr e))))

/-! ### Four hexadecimal digits -/
theorem hexV_hexd : ∀ d : Fin 16, hexV (hexd d.val) = ((d.val : Nat) : Int) := by decide +kernel
theorem hexd_hexV : ∀ c : UInt8, 0 ≤ hexV c → hexd (hexV c).toNat = c := by
  have h : ∀ n : Fin 256, 0 ≤ hexV (UInt8.ofNat n.val) → hexd (hexV (UInt8.ofNat n.val)).toNat = UInt8.ofNat n.val := by decide +kernel
  intro c
  have := h ⟨c.toNat, c.toNat_lt⟩
  simpa using this
theorem hexd_free : ∀ d : Fin 16, hexd d.val ≠ 46 ∧ hexd d.val ≠ 58 ∧ hexd d.val ≠ 47 := by decide +kernel
theorem hexL_four (n : Nat) : hexL n 4 = [hexd (n / 4096 % 16), hexd (n / 256 % 16), hexd (n / 16 % 16), hexd (n % 16)] := by
  simp [hexL]
theorem hexL_free (n : Nat) {c : UInt8} (hc : c = 46 ∨ c = 58 ∨ c = 47) : c ∉ hexL n 4 := by
  rw [hexL_four]
  intro hm
  have f := fun d (h : d < 16) => hexd_free ⟨d, h⟩
  have h0 := f (n / 4096 % 16) (by omega)
  have h1 := f (n / 256 % 16) (by omega)
  have h2 := f (n / 16 % 16) (by omega)
  have h3 := f (n % 16) (by omega)
  simp only [List.mem_cons, List.not_mem_nil, or_false] at hm
  rcases hc with rfl | rfl | rfl <;> rcases hm with e | e | e | e <;> simp_all
theorem digits_hexL (n : Nat) (hn : n < 65536) : digits (hexL n 4) = (n, true) := by
  have f := fun d (h : d < 16) => hexV_hexd ⟨d, h⟩
  have h0 := f (n / 4096 % 16) (by omega)
  have h1 := f (n / 256 % 16) (by omega)
  have h2 := f (n / 16 % 16) (by omega)
  have h3 := f (n % 16) (by omega)
  rw [hexL_four]
  unfold digits
  simp only [digF, h0, h1, h2, h3]
  simp only [show ¬ (((n / 4096 % 16 : Nat) : Int) < 0) by omega, show ¬ (((n / 256 % 16 : Nat) : Int) < 0) by omega, show ¬ (((n / 16 % 16 : Nat) : Int) < 0) by omega, show ¬ (((n % 16 : Nat) : Int) < 0) by omega, if_false, Int.toNat_natCast]
  simp
  omega
theorem digits_len {l : List UInt8} {n : Nat} (h : digits l = (n, true)) : l.length = 4 := by
  unfold digits at h
  split at h
  · injection h with _ h; cases h
  · injection h with _ h; simpa using h
theorem digits_back {l : List UInt8} {n : Nat} (h : digits l = (n, true)) : hexL n 4 = l ∧ n < 65536 := by
  have hl := digits_len h
  match l, hl with
  | [c0, c1, c2, c3], _ =>
    unfold digits at h
    simp only [digF] at h
    have b0 := hexV_le c0
    have b1 := hexV_le c1
    have b2 := hexV_le c2
    have b3 := hexV_le c3
    by_cases g0 : hexV c0 < 0
    · simp [g0] at h
    by_cases g1 : hexV c1 < 0
    · simp [g0, g1] at h
    by_cases g2 : hexV c2 < 0
    · simp [g0, g1, g2] at h
    by_cases g3 : hexV c3 < 0
    · simp [g0, g1, g2, g3] at h
    simp only [g0, g1, g2, g3, if_false] at h
    have e0 := hexd_hexV c0 (by omega)
    have e1 := hexd_hexV c1 (by omega)
    have e2 := hexd_hexV c2 (by omega)
    have e3 := hexd_hexV c3 (by omega)
    generalize hexV c0 = v0 at *
    generalize hexV c1 = v1 at *
    generalize hexV c2 = v2 at *
    generalize hexV c3 = v3 at *
    simp at h
    obtain rfl := h
    rw [hexL_four]
    refine ⟨?_, by omega⟩
    congr 1
    · rw [← e0]; congr 1; omega
    · congr 1
      · rw [← e1]; congr 1; omega
      · congr 1
        · rw [← e2]; congr 1; omega
        · congr 1
          rw [← e3]; congr 1; omega
end Go.Proofs.YtaljphjcmkibkaaDoor
