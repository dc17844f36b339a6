/- The contract of addr.Mask. Conditions: none. -/
import Derived.Test.YtaljphjcmkibkaaDoorWB
namespace Go.Proofs.YtaljphjcmkibkaaDoor
open Go.RowKit Go.WideShapes Go.ChangeShapes

theorem mask_words : ∀ l : Fin 65, bits .xor .u64 IntKind.u64.max ((18446744073709551615 : Int) / 2 ^ l.val) = ((maskW l.val : Nat) : Int) := by decide +kernel
theorem mask_word (l : Nat) (h : l ≤ 64) : bits .xor .u64 IntKind.u64.max ((18446744073709551615 : Int) / 2 ^ l) = ((maskW l : Nat) : Int) := mask_words ⟨l, by omega⟩

set_option maxHeartbeats 1600000 in
theorem mask_any (n : Int) (N : Nat) (hN : (N : Int) = min (max n 0) 128) (w : World) : Calls Tryd.prog 57 #[.int .i64 n] w fun e w' => e = .returned (Ad.mask N).val ∧ Below w.heap.size w w' := by
  have m0 := mask_word (min N 64) (by omega)
  have m1 := mask_word (min (N - 64) 64) (by omega)
  have hv : Ad.mask N = ⟨maskW (min N 64), maskW (min (N - 64) 64)⟩ := rfl
  generalize maskW (min N 64) = x0 at m0 hv
  generalize maskW (min (N - 64) 64) = x1 at m1 hv
  rw [hv]
  obtain ⟨M, hM⟩ : ∃ M : Int, (if n < 0 then (0 : Int) else n) = M := ⟨_, rfl⟩
  have hN2 : (if (128 : Int) < M then (128 : Int) else M) = (N : Int) := by subst hM; split <;> split <;> omega
  have hN128 : N ≤ 128 := by omega
  have q0 : ¬ (N : Int) < 0 := by omega
  have k0 : (if (64 : Int) < (N : Int) then (64 : Int) else (N : Int)) = ((min N 64 : Nat) : Int) := by split <;> omega
  obtain ⟨M1, hM1⟩ : ∃ M1 : Int, (if (N : Int) - 64 < 0 then (0 : Int) else (N : Int) - 64) = M1 := ⟨_, rfl⟩
  have k1 : (if (64 : Int) < M1 then (64 : Int) else M1) = ((min (N - 64) 64 : Nat) : Int) := by subst hM1; split <;> split <;> omega
  have hT1 : M1.toNat = min (N - 64) 64 := by subst hM1; split <;> omega
  have j0 : min N 64 ≤ 64 := by omega
  have j1 : min (N - 64) 64 ≤ 64 := by omega
  generalize min N 64 = l0 at m0 k0 j0
  generalize min (N - 64) 64 = l1 at m1 k1 j1 hT1
  have HT1 := hide hT1
  clear hT1
  clear hN
  go_enter Tryd.func57, Tryd.ntmps57
  go_wp2
  go_loopw [9] (fun i wr => (i = .int .i64 0 ∧ Hid (Blk wr (w.heap.size + 1) 24 #[.int .u64 0, .int .u64 0]) ∨ i = .int .i64 1 ∧ Hid (Blk wr (w.heap.size + 1) 24 #[.int .u64 (x0 : Int), .int .u64 0]) ∨ i = .int .i64 2 ∧ Hid (Blk wr (w.heap.size + 1) 24 #[.int .u64 (x0 : Int), .int .u64 (x1 : Int)])) ∧ Hid (Blk wr w.heap.size 24 #[.int .u64 0, .int .u64 0]) ∧ Hid (Below w.heap.size w wr)) (fun i _ => 2 - (intOf i).toNat)
  case atStart => exact ⟨.inl ⟨rfl, hide (Blk.newAt _ _ (by simp))⟩, hide ((Blk.new _ _ _).alloc _), hide (((Below.refl _ _).alloc (Nat.le_refl _) _).alloc (by simp) _)⟩
  case round =>
    obtain ⟨hX, HR, HB⟩ := hrel
    rcases hX with ⟨rfl, HT⟩ | ⟨rfl, HT⟩ | ⟨rfl, HT⟩
    · have c0 := HT.out.cell 0
      have f0 := HT.out.frozen 0
      simp at c0
      go_wp2
      rw [show bits BinOp.xor IntKind.u64 (if IntKind.u64.signed = true then -1 else IntKind.u64.max) (18446744073709551615 / 2 ^ l0) = (x0 : Int) from m0]
      exact ⟨⟨.inr (.inl ⟨rfl, hide (HT.out.setL 0 _)⟩), hide (HR.out.far (p := ⟨w.heap.size + 1, 0, none⟩) (Nat.ne_of_lt (Nat.lt_succ_self _)) _), hide (HB.out.setCell (Nat.le_succ _) _)⟩, by decide⟩
    · have c0 := HT.out.cell 1
      have f0 := HT.out.frozen 1
      simp at c0
      go_wp2
      rw [HT1.out, show bits BinOp.xor IntKind.u64 (if IntKind.u64.signed = true then -1 else IntKind.u64.max) (18446744073709551615 / 2 ^ l1) = (x1 : Int) from m1]
      exact ⟨⟨.inr (.inr ⟨rfl, hide (HT.out.setL 1 _)⟩), hide (HR.out.far (p := ⟨w.heap.size + 1, 1, none⟩) (Nat.ne_of_lt (Nat.lt_succ_self _)) _), hide (HB.out.setCell (Nat.le_succ _) _)⟩, by decide⟩
    · have c0 := HT.out.cell 0
      have c1 := HT.out.cell 1
      have d0 := HR.out.cell 0
      have d1 := HR.out.cell 1
      have f0 := HR.out.frozen 0
      have f1 := HR.out.frozen 1
      simp at c0 c1 d0 d1
      go_wp2
      refine bodyPost_ret (results_blk (g := w.heap.size) (t := 24) (cs := (Ad.mk x0 x1).cs) rfl rfl ((HR.out.setL 0 _).setL 1 _) aA zA) rfl ⟨rfl, ?_⟩
      exact (HB.out.setCell (Nat.le_refl _) _).setCell (Nat.le_refl _) _
end Go.Proofs.YtaljphjcmkibkaaDoor
