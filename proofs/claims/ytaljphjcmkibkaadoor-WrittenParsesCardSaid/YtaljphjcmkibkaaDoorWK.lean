/- A text parted at a sign, and what the split at one byte hands back. Conditions: at most 2^20 bytes. -/
import Derived.Test.YtaljphjcmkibkaaDoorWJ
namespace Go.Proofs.YtaljphjcmkibkaaDoor
open Go.RowKit Go.WideShapes Go.ChangeShapes

/-- A text parted at a sign. -/
def splitL (c : UInt8) : List UInt8 → List (List UInt8)
  | [] => [[]]
  | x :: l => if x = c then [] :: splitL c l else match splitL c l with
    | [] => [[x]]
    | p :: ps => (x :: p) :: ps

theorem splitL_ne (c : UInt8) (l : List UInt8) : splitL c l ≠ [] := by
  cases l with
  | nil => simp [splitL]
  | cons x l => rw [splitL]; split
                · simp
                · split <;> simp
theorem splitL_miss (c : UInt8) : ∀ l : List UInt8, Lib.indexByte l c = -1 → splitL c l = [l]
  | [], _ => rfl
  | x :: l, h => by
    rw [Lib.indexByte] at h
    by_cases hx : (x == c) = true
    · rw [if_pos hx] at h; cases h
    · rw [if_neg hx] at h
      have h2 : Lib.indexByte l c = -1 := by
        split at h
        · rename_i h3; simpa using h3
        · have := Lib.indexByte_ge l c; omega
      rw [splitL, if_neg (by simpa using hx), splitL_miss c l h2]
theorem splitL_hit (c : UInt8) : ∀ (l : List UInt8) (i : Nat), Lib.indexByte l c = i → splitL c l = l.take i :: splitL c (l.drop (i + 1))
  | [], i, h => by rw [Lib.indexByte] at h; omega
  | x :: l, i, h => by
    rw [Lib.indexByte] at h
    by_cases hx : (x == c) = true
    · rw [if_pos hx] at h
      have hi : i = 0 := by omega
      subst hi
      rw [splitL, if_pos (by simpa using hx)]
      simp
    · rw [if_neg hx] at h
      by_cases h3 : (Lib.indexByte l c == -1) = true
      · rw [if_pos h3] at h; omega
      · rw [if_neg h3] at h
        have hge := Lib.indexByte_ge l c
        have hne : Lib.indexByte l c ≠ -1 := by simpa using h3
        obtain ⟨j, rfl⟩ : ∃ j, i = j + 1 := ⟨i - 1, by omega⟩
        have h4 := splitL_hit c l j (by omega)
        rw [splitL, if_neg (by simpa using hx), h4]
        simp

theorem splitK_L (c : UInt8) : ∀ (k : Nat) (l : List UInt8), Lib.count l [c] = k → Lib.splitK [c] 0 k l = splitL c l := by
  intro k
  induction k with
  | zero =>
    intro l h
    rw [Lib.splitK, splitL_miss c l]
    have hge := Lib.indexByte_ge l c
    by_cases hi : Lib.indexByte l c = -1
    · exact hi
    · have := Lib.count_hit (s := l) (sub := [c]) (i := (Lib.indexByte l c).toNat) (by simp) (by rw [Lib.index_one]; omega)
      omega
  | succ k ih =>
    intro l h
    have hge := Lib.indexByte_ge l c
    by_cases hi : Lib.indexByte l c = -1
    · have := Lib.count_miss (s := l) (sub := [c]) (by rw [Lib.index_one]; exact hi)
      omega
    · obtain ⟨i, hii⟩ : ∃ i : Nat, Lib.indexByte l c = i := ⟨(Lib.indexByte l c).toNat, by omega⟩
      have hc := Lib.count_hit (s := l) (sub := [c]) (i := i) (by simp) (by rw [Lib.index_one]; exact hii)
      rw [h] at hc
      have hne : (Lib.index l [c] == -1) = false := by rw [Lib.index_one, beq_eq_false_iff_ne]; exact hi
      rw [Lib.splitK, hne, if_neg (by decide), Lib.index_one, hii]
      simp only [Int.toNat_natCast, Nat.add_zero, List.length_cons, List.length_nil, Nat.zero_add] at hc ⊢
      rw [ih _ (by omega), splitL_hit c l i hii]

theorem splitL_length (c : UInt8) : ∀ l : List UInt8, (splitL c l).length = l.count c + 1
  | [] => rfl
  | x :: l => by
    rw [splitL]
    have ih := splitL_length c l
    by_cases hx : x = c
    · rw [if_pos hx, List.length_cons, ih, hx, List.count_cons_self]
    · rw [if_neg hx, List.count_cons_of_ne hx]
      split
      · rename_i h; rw [h] at ih; simp at ih
      · rename_i p ps h; rw [h] at ih; simpa using ih

def bs (l : List UInt8) : ByteArray := ⟨l.toArray⟩
theorem splitB_L (c : UInt8) (l : List UInt8) : Lib.splitB (bs [c]) 0 (Lib.countB (bs l) (bs [c])) (bs l) = (splitL c l).map bs := by
  have h := Lib.splitB_data (bs [c]) 0 (Lib.countB (bs l) (bs [c])) (bs l)
  have hk : Lib.countB (bs l) (bs [c]) = Lib.count l [c] := by simp [Lib.countB, bs]
  rw [hk] at h ⊢
  rw [show (bs [c]).data.toList = [c] by simp [bs], show (bs l).data.toList = l by simp [bs], splitK_L c _ l rfl] at h
  rw [← h, List.map_map]
  have : (bs ∘ fun x : ByteArray => x.data.toList) = id := by
    funext x
    simp [bs]
  rw [this, List.map_id]

theorem split_any (c : UInt8) (l : List UInt8) (hl : l.length ≤ 1048576) (m : Int) (w : World) (hm : w.cell? ⟨0, 0, none⟩ = some (.int .i64 m)) :
    Calls Tryd.prog 49 #[.string ⟨l.toArray⟩, .string ⟨#[c]⟩] w fun e w' => e = .returned (.slice (some ⟨w.heap.size, 0, none⟩) (splitL c l).length (splitL c l).length) ∧ w' = w.alloc (.cells ((splitL c l).map str).toArray 9) := by
  have hN : Lib.countB (bs l) (bs [c]) + 1 = (splitL c l).length := by
    rw [splitL_length, ← Lib.count_one c l]
    simp [Lib.countB, bs]
  refine (Tryd.strings_Split (bs l) (bs [c]) m w (by simp [bs, ByteArray.size]; omega) hm (by simp [bs, ByteArray.size])).mono fun e w' h => ?_
  rw [splitB_L, hN, List.map_map] at h
  exact h
end Go.Proofs.YtaljphjcmkibkaaDoor
