/- What the search for another sign than a digit tells. Conditions: none. -/
import Derived.Test.YtaljphjcmkibkaaDoorWH
namespace Go.Proofs.YtaljphjcmkibkaaDoor
open Go.RowKit Go.WideShapes Go.ChangeShapes

/-- No decimal digit. -/
def ndR (x : Nat) : Bool := decide (x < 48) || decide (57 < x)
def nd (c : UInt8) : Bool := ndR c.toNat

theorem get_l (l : List UInt8) (i : Nat) (h : i < l.length) : (ByteArray.mk l.toArray).get! i = l[i] := by
  simp [ByteArray.get!, h]
theorem decode_low (l : List UInt8) (i : Nat) (h : i < l.length) (hb : l[i].toNat < 128) : Utf8.decode ⟨l.toArray⟩ i = (l[i].toNat, 1) := by
  unfold Utf8.decode
  simp only [Nat.add_zero, get_l l i h]
  rw [if_pos hb]
theorem decode_high (l : List UInt8) (i : Nat) (h : i < l.length) (hb : ¬ l[i].toNat < 128) : 57 < (Utf8.decode ⟨l.toArray⟩ i).1 := by
  unfold Utf8.decode
  simp only [Nat.add_zero, get_l l i h]
  rw [if_neg hb]
  split
  · split
    · rename_i h1; simp only at h1 ⊢; omega
    · simp only [Utf8.runeError]; omega
  · split
    · split
      · rename_i h1; simp only [Bool.and_eq_true, decide_eq_true_eq] at h1 ⊢; omega
      · simp only [Utf8.runeError]; omega
    · split
      · split
        · rename_i h1; simp only [Bool.and_eq_true, decide_eq_true_eq] at h1 ⊢; omega
        · simp only [Utf8.runeError]; omega
      · simp only [Utf8.runeError]; omega

theorem idx_from (l : List UInt8) : ∀ (f pos : Nat), l.length ≤ pos + f → (decide (0 ≤ Lib.idxFuncFrom ndR true ⟨l.toArray⟩ f pos) = (l.drop pos).any nd) := by
  intro f
  induction f with
  | zero =>
    intro pos h
    rw [List.drop_eq_nil_of_le (by omega)]
    rfl
  | succ f ih =>
    intro pos h
    have hsz : (ByteArray.mk l.toArray).size = l.length := by simp [ByteArray.size]
    by_cases hp : pos < l.length
    · rw [Lib.idxFuncFrom, hsz, if_pos hp, List.drop_eq_getElem_cons hp, List.any_cons]
      by_cases hb : l[pos].toNat < 128
      · rw [decode_low l pos hp hb]
        by_cases hn : ndR l[pos].toNat = true
        · rw [if_pos hn, nd, hn, Bool.true_or]
          simp
        · rw [if_neg hn, ih (pos + 1) (by omega), nd, show ndR l[pos].toNat = false by simpa using hn, Bool.false_or]
      · have h1 := decode_high l pos hp hb
        have h2 : ndR (Utf8.decode ⟨l.toArray⟩ pos).1 = true := by simp [ndR, h1]
        have h3 : nd l[pos] = true := by simp [nd, ndR]; omega
        rw [if_pos h2, h3, Bool.true_or]
        simp
    · rw [List.drop_eq_nil_of_le (by omega), Lib.idxFuncFrom_end _ _ _ _ _ (by rw [hsz]; exact hp)]
      rfl
theorem idx_any (l : List UInt8) : decide (0 ≤ Lib.idxFunc ndR true ⟨l.toArray⟩) = l.any nd := by
  have hsz : (ByteArray.mk l.toArray).size = l.length := by simp [ByteArray.size]
  rw [Lib.idxFunc, idx_from l _ 0 (by rw [hsz]; omega), List.drop_zero]

theorem other_any (x : Nat) (hx : x ≤ 1114111) (w : World) : Calls Tryd.prog 39 #[.int .i32 (x : Int)] w fun e w' => e = .returned (.bool (ndR x)) ∧ ∃ q, w' = w.drewN q := by
  by_cases h : x < 48
  · have hI : (x : Int) < 48 := by omega
    have hv : ndR x = true := by simp [ndR, h]
    rw [hv]
    go_enter Tryd.func39, Tryd.ntmps39
    go_wp2
    go_ret
    exact ⟨rfl, 0, rfl⟩
  · have hI : ¬ (x : Int) < 48 := by omega
    by_cases h2 : 57 < x
    · have hI2 : (57 : Int) < (x : Int) := by omega
      have hv : ndR x = true := by simp [ndR, h2]
      rw [hv]
      go_enter Tryd.func39, Tryd.ntmps39
      go_wp2
      go_ret
      exact ⟨rfl, 0, rfl⟩
    · have hI2 : ¬ (57 : Int) < (x : Int) := by omega
      have hv : ndR x = false := by simp [ndR]; omega
      rw [hv]
      go_enter Tryd.func39, Tryd.ntmps39
      go_wp2
      go_ret
      exact ⟨rfl, 0, rfl⟩
theorem contains_any (l : List UInt8) (w : World) : Calls Tryd.prog 40 #[.string ⟨l.toArray⟩, .func (.func 39) #[] #[]] w fun e w' => e = .returned (.bool (l.any nd)) ∧ Below w.heap.size w w' := by
  rw [← idx_any]
  exact Tryd.strings_ContainsFunc_runes 39 #[] (enters_of Tryd.func39 (by kernel_rfl) rfl) ndR ⟨l.toArray⟩ w (fun W x hx _ => other_any x hx W)
end Go.Proofs.YtaljphjcmkibkaaDoor
