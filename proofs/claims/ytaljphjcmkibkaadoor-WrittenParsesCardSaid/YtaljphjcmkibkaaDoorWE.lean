/- The contract of written.get. Conditions: at most 16 bits, which lie within 128. -/
import Derived.Test.YtaljphjcmkibkaaDoorWD
namespace Go.Proofs.YtaljphjcmkibkaaDoor
open Go.RowKit Go.WideShapes Go.ChangeShapes

/-- Some bits as a number. -/
def getV (a : Ad) (f : Nat) : Nat → Nat
  | 0 => 0
  | m + 1 => getV a f m * 2 + if a.at_ (f + m) then 1 else 0
theorem getV_lt (a : Ad) (f : Nat) : ∀ m, getV a f m < 2 ^ m
  | 0 => by simp [getV]
  | m + 1 => by have := getV_lt a f m; rw [getV, Nat.pow_succ]; split <;> omega

set_option maxHeartbeats 1600000 in
theorem get_any (a : Ad) (ha : a.Ok) (f m : Nat) (hfm : f + m ≤ 128) (hm : m ≤ 16) (w : World) : Calls Tryd.prog 27 #[a.val, .int .i64 f, .int .i64 m] w fun e w' => e = .returned (.int .i64 (getV a f m)) ∧ Below w.heap.size w w' := by
  go_enter Tryd.func27, Tryd.ntmps27
  simp only [Ad.val]
  go_wp2
  go_loopw [7, 10] (fun v i wr => ∃ k : Nat, k ≤ m ∧ v = .int .i64 (getV a f k : Int) ∧ i = .int .i64 (k : Int) ∧ Hid (Blk wr w.heap.size 24 a.cs) ∧ Hid (Below w.heap.size w wr)) (fun _ i _ => m - (intOf i).toNat)
  case atStart => exact ⟨0, Nat.zero_le _, rfl, rfl, hide (Blk.new _ _ _), hide ((Below.refl _ _).alloc (Nat.le_refl _) _)⟩
  case round =>
    obtain ⟨k, hk, rfl, rfl, HB, HL⟩ := hrel
    by_cases hlt : k < m
    · have hltI : (k : Int) < (m : Int) := by omega
      have hv := getV_lt a f k
      have hp : (2 : Nat) ^ k ≤ 2 ^ 16 := Nat.pow_le_pow_right (by decide) (by omega)
      have hb : getV a f k < 65536 := by omega
      obtain ⟨g, hg⟩ : ∃ g : Nat, g = f + k := ⟨_, rfl⟩
      have hs : getV a f (k + 1) = getV a f k * 2 + if a.at_ g then 1 else 0 := by rw [hg]; rfl
      have HS := hide hs
      clear hs hv hp
      have c0 := HB.out.cell 0
      have c1 := HB.out.cell 1
      simp only [Ad.cs, List.getElem?_toArray, List.getElem?_cons_zero, List.getElem?_cons_succ] at c0 c1
      have hadd : (f : Int) + (k : Int) = (g : Int) := by omega
      have hg128 : g < 128 := by omega
      clear hg
      by_cases hbit : a.at_ g = true
      · go_wp2_with fail
        refine (Bit_in a ha g hg128 wr).mono ?_
        rintro e w1 ⟨rfl, hb1⟩
        rw [hbit]
        have HB1 := hide (HB.out.below hb1 HB.out.lt)
        have HL1 := hide (HL.out.trans (hb1.mono HL.out.size))
        clear hb1 HB HL c0 c1
        go_wp2
        go_roundw
        case rel => exact ⟨k + 1, by omega, by rw [HS.out, hbit]; simp, by go_num, HB1, HL1⟩
        case measure => simp [intOf]; omega
      · have hbit : a.at_ g = false := by simpa using hbit
        go_wp2_with fail
        refine (Bit_in a ha g hg128 wr).mono ?_
        rintro e w1 ⟨rfl, hb1⟩
        rw [hbit]
        have HB1 := hide (HB.out.below hb1 HB.out.lt)
        have HL1 := hide (HL.out.trans (hb1.mono HL.out.size))
        clear hb1 HB HL c0 c1
        go_wp2
        go_roundw
        case rel => exact ⟨k + 1, by omega, by rw [HS.out, hbit]; simp, by go_num, HB1, HL1⟩
        case measure => simp [intOf]; omega
    · have hltI : ¬ (k : Int) < (m : Int) := by omega
      obtain rfl : k = m := by omega
      go_wp2
      go_ret
      exact ⟨rfl, HL.out⟩
end Go.Proofs.YtaljphjcmkibkaaDoor
