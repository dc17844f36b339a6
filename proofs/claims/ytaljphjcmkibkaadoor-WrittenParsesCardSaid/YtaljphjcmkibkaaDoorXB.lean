/- The contract of the reference's Words. Conditions: a row of 128 bools. -/
import Derived.Test.YtaljphjcmkibkaaDoorXA
namespace Go.Proofs.YtaljphjcmkibkaaDoor
open Go.RowKit Go.WideShapes Go.ChangeShapes

theorem aB : ∀ w, (isAgg 23).run Tryd.prog w = .ok true w := fun _ => by kernel_rfl
theorem zB : ∀ w, (Go.sizeOf 23).run Tryd.prog w = .ok 2 w := fun _ => by kernel_rfl

/-- A row of bits as a number. -/
def numB (g : Nat → Bool) (f : Nat) : Nat → Nat
  | 0 => 0
  | m + 1 => numB g f m * 2 + if g (f + m) then 1 else 0
theorem numB_lt (g : Nat → Bool) (f : Nat) : ∀ m, numB g f m < 2 ^ m
  | 0 => by simp [numB]
  | m + 1 => by have := numB_lt g f m; rw [numB, Nat.pow_succ]; split <;> omega
def Ad.ofB (g : Nat → Bool) : Ad := ⟨numB g 0 64, numB g 64 64⟩
theorem Ad.ofB_ok (g : Nat → Bool) : (Ad.ofB g).Ok := ⟨numB_lt g 0 64, numB_lt g 64 64⟩
theorem numB_part (g : Nat → Bool) (f m : Nat) : ∀ k, numB g f m = numB g f (m + k) / 2 ^ k
  | 0 => by simp
  | k + 1 => by
    rw [numB_part g f m k, show m + (k + 1) = (m + k) + 1 by omega, numB, Nat.pow_succ, Nat.mul_comm (2 ^ k) 2, ← Nat.div_div_eq_div_mul]
    congr 1
    split <;> omega
theorem numB_bit (g : Nat → Bool) (f m i : Nat) (hi : i < m) : (numB g f m).testBit (m - 1 - i) = g (f + i) := by
  have h := numB_part g f (i + 1) (m - 1 - i)
  rw [show i + 1 + (m - 1 - i) = m by omega] at h
  rw [Nat.testBit_eq_decide_div_mod_eq, ← h, numB]
  cases g (f + i) <;> simp
  all_goals omega
theorem b_ofB (g : Nat → Bool) (k : Nat) (hk : k < 128) : (Ad.ofB g).b k = g k := by
  unfold Ad.b Ad.ofB
  by_cases h : k < 64
  · rw [if_pos h]
    have := numB_bit g 0 64 k h
    rwa [Nat.zero_add] at this
  · rw [if_neg h]
    have := numB_bit g 64 64 (k - 64) (by omega)
    rw [show 64 - 1 - (k - 64) = 127 - k by omega, show 64 + (k - 64) = k by omega] at this
    exact this

/-- The two words when k bits are read. -/
def wst (g : Nat → Bool) (k : Nat) : List Value := [.int .u64 ((numB g 0 (min k 64) : Nat) : Int), .int .u64 ((numB g 64 (k - 64) : Nat) : Int)]
theorem wst_lo (g : Nat → Bool) (k : Nat) (hk : k < 64) : wst g k = [.int .u64 ((numB g 0 k : Nat) : Int), .int .u64 0] := by
  rw [wst, show min k 64 = k by omega, show k - 64 = 0 by omega]; rfl
theorem wst_hi (g : Nat → Bool) (k : Nat) (hk : 64 ≤ k) : wst g k = [.int .u64 ((numB g 0 64 : Nat) : Int), .int .u64 ((numB g 64 (k - 64) : Nat) : Int)] := by
  rw [wst, show min k 64 = 64 by omega]
theorem wst_lo_step (g : Nat → Bool) (k : Nat) (hk : k < 64) : wst g (k + 1) = [.int .u64 ((numB g 0 k * 2 + (if g k then 1 else 0) : Nat) : Int), .int .u64 0] := by
  rw [wst, show min (k + 1) 64 = k + 1 by omega, show k + 1 - 64 = 0 by omega, numB.eq_2, Nat.zero_add]; rfl
theorem wst_hi_step (g : Nat → Bool) (k : Nat) (hk : 64 ≤ k) : wst g (k + 1) = [.int .u64 ((numB g 0 64 : Nat) : Int), .int .u64 ((numB g 64 (k - 64) * 2 + (if g k then 1 else 0) : Nat) : Int)] := by
  rw [wst, show min (k + 1) 64 = 64 by omega, show k + 1 - 64 = (k - 64) + 1 by omega, numB.eq_2 g 64, show 64 + (k - 64) = k by omega]

set_option maxRecDepth 8000 in
theorem words_any (g : Nat → Bool) (B : Nat) (w : World) (hB : Blk w B 4 (bitsL g).toArray) : Calls Tryd.prog 38 #[.slice (some ⟨B, 0, none⟩) 128 128] w fun e w' => e = .returned (Ad.ofB g).val ∧ Below w.heap.size w w' := by
  have hlt := hB.lt
  have HB0 := hide hB
  clear hB
  go_enter Tryd.func38, Tryd.ntmps38
  go_wp2
  go_loopw [4] (fun i wr => ∃ k : Nat, k ≤ 128 ∧ i = .int .i64 (k : Int) ∧ Hid (Blk wr w.heap.size 23 [.int .u64 0, .int .u64 0].toArray) ∧ Hid (Blk wr (w.heap.size + 1) 23 (wst g k).toArray) ∧ Hid (Blk wr B 4 (bitsL g).toArray) ∧ Hid (Below w.heap.size w wr)) (fun i _ => 128 - (intOf i).toNat)
  case atStart => exact ⟨0, by omega, rfl, hide ((Blk.new _ _ _).alloc _), hide (Blk.newAt _ _ (by simp)), hide ((HB0.out.alloc _).alloc _), hide (((Below.refl _ _).alloc (Nat.le_refl _) _).alloc (by simp) _)⟩
  case round =>
    obtain ⟨k, hk, rfl, HR, HT, HB, HL⟩ := hrel
    clear HB0
    by_cases hlt2 : k < 128
    · have hltI : (k : Int) < 128 := by omega
      have cb := HB.out.cell k
      rw [List.getElem?_toArray, bitsL_get _ _ hlt2] at cb
      by_cases h64 : k < 64
      · have hd : (k : Int).tdiv 64 = 0 := by rw [Int.tdiv_eq_ediv_of_nonneg (by omega)]; omega
        have hst := wst_lo g k h64
        have hsp := wst_lo_step g k h64
        have hq := Nat.lt_of_lt_of_le (numB_lt g 0 k) (Nat.pow_le_pow_right (show 0 < 2 by decide) (show k ≤ 63 by omega))
        generalize numB g 0 k = q at hst hsp hq
        have hqq : q < 9223372036854775808 := hq
        have HT2 := hide (HT.out.of_eq (congrArg List.toArray hst))
        clear hq HT hst
        have c0 := HT2.out.cell 0
        have f0 := HT2.out.frozen 0
        simp only [List.getElem?_toArray, List.getElem?_cons_zero] at c0
        have HSP := hide hsp
        clear hsp
        cases hg : g k with
        | true =>
          rw [hg] at cb
          go_wp2
          refine ⟨⟨k + 1, by omega, rfl, hide ((HR.out.far (p := ⟨w.heap.size + 1, 0, none⟩) (Nat.ne_of_lt (Nat.lt_succ_self _)) _).far (p := ⟨w.heap.size + 1, 0, none⟩) (Nat.ne_of_lt (Nat.lt_succ_self _)) _), hide (((HT2.out.setL 0 _).setL 0 _).of_eq ?_), hide ((HB.out.far (p := ⟨w.heap.size + 1, 0, none⟩) (show B ≠ w.heap.size + 1 by omega) _).far (p := ⟨w.heap.size + 1, 0, none⟩) (show B ≠ w.heap.size + 1 by omega) _), hide ((HL.out.setCell (Nat.le_succ _) _).setCell (Nat.le_succ _) _)⟩, ?_⟩
          · rw [HSP.out, hg]; simp
          · simp only [intOf]; omega
        | false =>
          rw [hg] at cb
          go_wp2
          refine ⟨⟨k + 1, by omega, rfl, hide (HR.out.far (p := ⟨w.heap.size + 1, 0, none⟩) (Nat.ne_of_lt (Nat.lt_succ_self _)) _), hide ((HT2.out.setL 0 _).of_eq ?_), hide (HB.out.far (p := ⟨w.heap.size + 1, 0, none⟩) (show B ≠ w.heap.size + 1 by omega) _), hide (HL.out.setCell (Nat.le_succ _) _)⟩, ?_⟩
          · rw [HSP.out, hg]; simp
          · simp only [intOf]; omega
      · have hd : (k : Int).tdiv 64 = 1 := by rw [Int.tdiv_eq_ediv_of_nonneg (by omega)]; omega
        have hst := wst_hi g k (by omega)
        have hsp := wst_hi_step g k (by omega)
        have hq := Nat.lt_of_lt_of_le (numB_lt g 64 (k - 64)) (Nat.pow_le_pow_right (show 0 < 2 by decide) (show k - 64 ≤ 63 by omega))
        generalize numB g 64 (k - 64) = q at hst hsp hq
        generalize numB g 0 64 = q0 at hst hsp
        have hqq : q < 9223372036854775808 := hq
        have HT2 := hide (HT.out.of_eq (congrArg List.toArray hst))
        clear hq HT hst
        have c0 := HT2.out.cell 1
        have f0 := HT2.out.frozen 1
        simp only [List.getElem?_toArray, List.getElem?_cons_zero, List.getElem?_cons_succ] at c0
        have HSP := hide hsp
        clear hsp
        cases hg : g k with
        | true =>
          rw [hg] at cb
          go_wp2
          refine ⟨⟨k + 1, by omega, rfl, hide ((HR.out.far (p := ⟨w.heap.size + 1, 1, none⟩) (Nat.ne_of_lt (Nat.lt_succ_self _)) _).far (p := ⟨w.heap.size + 1, 1, none⟩) (Nat.ne_of_lt (Nat.lt_succ_self _)) _), hide (((HT2.out.setL 1 _).setL 1 _).of_eq ?_), hide ((HB.out.far (p := ⟨w.heap.size + 1, 1, none⟩) (show B ≠ w.heap.size + 1 by omega) _).far (p := ⟨w.heap.size + 1, 1, none⟩) (show B ≠ w.heap.size + 1 by omega) _), hide ((HL.out.setCell (Nat.le_succ _) _).setCell (Nat.le_succ _) _)⟩, ?_⟩
          · rw [HSP.out, hg]; simp
          · simp only [intOf]; omega
        | false =>
          rw [hg] at cb
          go_wp2
          refine ⟨⟨k + 1, by omega, rfl, hide (HR.out.far (p := ⟨w.heap.size + 1, 1, none⟩) (Nat.ne_of_lt (Nat.lt_succ_self _)) _), hide ((HT2.out.setL 1 _).of_eq ?_), hide (HB.out.far (p := ⟨w.heap.size + 1, 1, none⟩) (show B ≠ w.heap.size + 1 by omega) _), hide (HL.out.setCell (Nat.le_succ _) _)⟩, ?_⟩
          · rw [HSP.out, hg]; simp
          · simp only [intOf]; omega
    · obtain rfl : k = 128 := by omega
      have hst := wst_hi g 128 (by omega)
      have HT2 := hide (HT.out.of_eq (congrArg List.toArray hst))
      have hv : Ad.ofB g = ⟨numB g 0 64, numB g 64 (128 - 64)⟩ := rfl
      generalize numB g 0 64 = x at HT2 hv hst
      generalize numB g 64 (128 - 64) = y at HT2 hv hst
      have HV := hide hv
      clear HT hst hv
      have c0 := HT2.out.cell 0
      have c1 := HT2.out.cell 1
      have d0 := HR.out.cell 0
      have d1 := HR.out.cell 1
      have f0 := HR.out.frozen 0
      have f1 := HR.out.frozen 1
      simp only [List.getElem?_toArray, List.getElem?_cons_zero, List.getElem?_cons_succ] at c0 c1 d0 d1
      go_wp2
      refine bodyPost_ret (results_blk (g := w.heap.size) (t := 23) (cs := (Ad.mk x y).cs) rfl rfl ((HR.out.setL 0 _).setL 1 _) aB zB) rfl ⟨by rw [HV.out]; rfl, ?_⟩
      exact (HL.out.setCell (Nat.le_refl _) _).setCell (Nat.le_refl _) _
end Go.Proofs.YtaljphjcmkibkaaDoor
