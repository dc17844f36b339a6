/- Decimal texts that are a number's digits, and those that are not. Conditions: none. -/
import Derived.Test.YtaljphjcmkibkaaDoorWR
namespace Go.Proofs.YtaljphjcmkibkaaDoor
open Go.RowKit Go.WideShapes Go.ChangeShapes

theorem dec_head : ∀ (n : Nat) (t : List UInt8), Lib.decDigits n = 48 :: t → n = 0 ∧ t = [] := by
  intro n
  induction n using Nat.strongRecOn with
  | ind n ih =>
    intro t h
    rw [Lib.decDigits] at h
    split at h
    · rename_i hn
      simp only [List.cons.injEq] at h
      have h1 := congrArg UInt8.toNat h.1
      rw [UInt8.toNat_ofNat'] at h1
      have h2 : (48 : UInt8).toNat = 48 := rfl
      rw [h2] at h1
      exact ⟨by omega, h.2.symm⟩
    · rename_i hn
      cases hd : Lib.decDigits (n / 10) with
      | nil => have := Lib.decDigits_length (n / 10); rw [hd] at this; rw [Lib.decDigits] at hd; split at hd <;> simp at hd
      | cons x r =>
        rw [hd] at h
        simp only [List.cons_append, List.cons.injEq] at h
        have := ih (n / 10) (by omega) r (by rw [hd, h.1])
        omega

theorem decFrom_snoc (l : List UInt8) (c : UInt8) : ∀ acc n, Lib.decFrom acc (l ++ [c]) = some n → ∃ m, Lib.decFrom acc l = some m ∧ 48 ≤ c.toNat ∧ c.toNat ≤ 57 ∧ n = m * 10 + (c.toNat - 48) := by
  induction l with
  | nil =>
    intro acc n h
    rw [List.nil_append, Lib.decFrom, Lib.digitVal] at h
    split at h
    · rename_i d hd
      split at hd
      · rename_i hc
        simp only [Option.some.injEq] at hd
        rw [Lib.decFrom] at h
        simp only [Option.some.injEq] at h
        exact ⟨acc, rfl, hc.1, hc.2, by omega⟩
      · cases hd
    · cases h
  | cons x l ih =>
    intro acc n h
    rw [List.cons_append, Lib.decFrom] at h
    rw [Lib.decFrom]
    split at h
    · rename_i d hd
      exact ih _ _ h
    · cases h

theorem dec_canon : ∀ (k : Nat) (l : List UInt8), l.length = k → l ≠ [] → ∀ n, Lib.decFrom 0 l = some n → ¬ (l.head? = some 48 ∧ l ≠ [48]) → Lib.decDigits n = l := by
  intro k
  induction k with
  | zero => intro l hl h0; exact absurd (List.eq_nil_of_length_eq_zero hl) h0
  | succ k ih =>
    intro l hl h0 n hn hz
    obtain ⟨l', c, rfl⟩ : ∃ l' c, l = l' ++ [c] := ⟨l.dropLast, l.getLast h0, (List.dropLast_concat_getLast h0).symm⟩
    obtain ⟨m, h1, h2, h3, h4⟩ := decFrom_snoc l' c 0 n hn
    have hc : UInt8.ofNat (48 + (c.toNat - 48)) = c := by
      rw [show 48 + (c.toNat - 48) = c.toNat by omega]
      simp
    by_cases hl' : l' = []
    · subst hl'
      rw [Lib.decFrom] at h1
      simp only [Option.some.injEq] at h1
      rw [List.nil_append, Lib.decDigits_one (show n < 10 by omega), ← hc]
      congr 2
      omega
    · have hz' : ¬ (l'.head? = some 48 ∧ l' ≠ [48]) := fun h => hz ⟨by rw [List.head?_append, h.1]; rfl, by
        intro e
        have := congrArg List.length e
        have h5 := List.length_pos_iff.2 hl'
        simp at this
        exact hl' this⟩
      have hlen : l'.length = k := by simpa using hl
      have hrec := ih l' hlen hl' m h1 hz'
      have hm : m ≠ 0 := by
        rintro rfl
        rw [Lib.decDigits_one (by decide)] at hrec
        exact hz ⟨by rw [← hrec]; rfl, by
          intro e
          have := congrArg List.length e
          have h5 := List.length_pos_iff.2 hl'
          simp at this
          exact hl' this⟩
      rw [Lib.decDigits, dif_neg (show ¬ n < 10 by omega), show n / 10 = m by omega, hrec, show n % 10 = c.toNat - 48 by omega, hc]
theorem dec_not {l : List UInt8} {n : Nat} (h : l.head? = some 48 ∧ l ≠ [48]) : Lib.decDigits n ≠ l := by
  intro e
  cases l with
  | nil => simp at h
  | cons x t =>
    have hx : x = 48 := by simpa using h.1
    subst hx
    have := dec_head n t e
    exact h.2 (by rw [this.2])
end Go.Proofs.YtaljphjcmkibkaaDoor
