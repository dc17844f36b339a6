/- The contract of the reference's Bits: a row of 128 bools. Conditions: the words are below 2^64. -/
import Derived.Test.YtaljphjcmkibkaaDoorWU
namespace Go.Proofs.YtaljphjcmkibkaaDoor
open Go.RowKit Go.WideShapes Go.ChangeShapes

def bitsL (g : Nat → Bool) : List Value := (List.range 128).map fun j => .bool (g j)
theorem bitsL_len (g : Nat → Bool) : (bitsL g).length = 128 := by simp [bitsL]
theorem bitsL_get (g : Nat → Bool) (j : Nat) (h : j < 128) : (bitsL g)[j]? = some (.bool (g j)) := by simp [bitsL, h]
theorem bitsL_set (g : Nat → Bool) (j : Nat) (v : Bool) : (bitsL g).set j (.bool v) = bitsL (fun i => if i = j then v else g i) := by
  apply List.ext_getElem?
  intro i
  rw [List.getElem?_set]
  by_cases hi : i < 128
  · rw [bitsL_get _ i hi, bitsL_get _ i hi, bitsL_len]
    by_cases h : j = i
    · subst h; simp [hi]
    · rw [if_neg h, if_neg (fun e => h e.symm)]
  · rw [List.getElem?_eq_none (by rw [bitsL_len]; omega), List.getElem?_eq_none (by rw [bitsL_len]; omega)]
    split
    · rw [if_neg (by rw [bitsL_len]; omega)]
    · rfl
theorem bitsL_congr {g h : Nat → Bool} (e : ∀ j, j < 128 → g j = h j) : bitsL g = bitsL h := by
  unfold bitsL
  apply List.map_congr_left
  intro j hj
  rw [e j (List.mem_range.1 hj)]
theorem bitsL_none : bitsL (fun _ => false) = List.replicate 128 (.bool false) := by unfold bitsL; rw [List.map_const']; simp
theorem info4 : ∃ i, Tryd.prog.info? 4 = some i ∧ i.zero = some (.bool false) ∧ i.size = 1 ∧ i.bytes = 1 := ⟨Tryd.t4, by kernel_rfl, by kernel_rfl, by kernel_rfl, by kernel_rfl⟩
theorem made_bits : madeCells (Value.bool false).cells 128 = (bitsL fun _ => false).toArray := by rw [bitsL_none]; kernel_rfl
theorem run_make_bits (w : World) : (Instr.makeSlice 60 (.int .i64 128) (.int .i64 128)).run Tryd.prog w = .ok (.slice (some ⟨w.heap.size, 0, none⟩) 128 128) (w.alloc (.cells (bitsL fun _ => false).toArray 4)) := by
  obtain ⟨i, h1, h2, h3, h4⟩ := info4
  have := run_make_rowN 60 4 i _ Tryd.underlying60 h1 h2 .i64 .i64 128 128 (by omega) (by rw [h4]; omega) (by omega) w
  rw [h3, Nat.mul_one, made_bits] at this
  exact this

theorem word_bits (a : Ad) (ha : a.Ok) (k : Nat) (hk : k < 2) : ∃ X : Nat, a.cs[k]? = some (.int .u64 (X : Int)) ∧ X < 18446744073709551616 ∧ ∀ i, i < 64 → a.b (64 * k + i) = X.testBit (63 - i) := by
  have h : k = 0 ∨ k = 1 := by omega
  rcases h with rfl | rfl
  · exact ⟨a.x, rfl, ha.1, fun i hi => by rw [Ad.b, if_pos (by omega)]; congr 1; omega⟩
  · exact ⟨a.y, rfl, ha.2, fun i hi => by rw [Ad.b, if_neg (by omega)]; congr 1; omega⟩

/-- Which bits are laid when k words are done, and i bits of the next one. -/
def bb (a : Ad) (k i : Nat) : Nat → Bool := fun j => decide (j < 64 * k ∨ (64 * k + 64 ≤ j + i ∧ j < 64 * k + 64)) && a.b j
theorem bb_start (a : Ad) : bitsL (fun _ => false) = bitsL (bb a 0 0) := bitsL_congr fun j _ => by
  rw [bb, decide_eq_false (by omega)]; rfl
theorem bb_next (a : Ad) (k : Nat) : bitsL (bb a k 64) = bitsL (bb a (k + 1) 0) := bitsL_congr fun j _ => by
  rw [bb, bb]; congr 1; rw [decide_eq_decide]; omega
theorem bb_end (a : Ad) : bitsL (bb a 2 0) = bitsL a.b := bitsL_congr fun j hj => by
  rw [bb, decide_eq_true (by omega)]; rfl
theorem bb_step (a : Ad) (k i : Nat) (hi : i < 64) : (bitsL (bb a k i)).set (64 * k + (63 - i)) (.bool (a.b (64 * k + (63 - i)))) = bitsL (bb a k (i + 1)) := by
  rw [bitsL_set]
  refine bitsL_congr fun j _ => ?_
  by_cases h : j = 64 * k + (63 - i)
  · rw [if_pos h, bb, decide_eq_true (by omega), ← h]; rfl
  · rw [if_neg h, bb, bb]; congr 1; rw [decide_eq_decide]; omega

set_option maxHeartbeats 1600000 in
set_option maxRecDepth 8000 in
theorem bits_any (a : Ad) (ha : a.Ok) (w : World) : Calls Tryd.prog 33 #[a.val] w fun e w' => e = .returned (.slice (some ⟨w.heap.size + 1, 0, none⟩) 128 128) ∧ Blk w' (w.heap.size + 1) 4 (bitsL a.b).toArray ∧ Below w.heap.size w w' := by
  have hmk := run_make_bits
  rw [bb_start a] at hmk
  obtain ⟨zs, hzs⟩ : ∃ zs, zs = (bitsL (bb a 0 0)).toArray := ⟨_, rfl⟩
  rw [← hzs] at hmk
  go_enter Tryd.func33, Tryd.ntmps33
  simp only [Ad.val]
  go_wp2
  go_loopw [4] (fun i wr => ∃ k : Nat, k ≤ 2 ∧ i = .int .i64 (k : Int) ∧ Hid (Blk wr w.heap.size 23 a.cs) ∧ Hid (Blk wr (w.heap.size + 1) 4 (bitsL (bb a k 0)).toArray) ∧ Hid (Below w.heap.size w wr)) (fun i _ => 2 - (intOf i).toNat)
  case atStart => exact ⟨0, by omega, rfl, hide ((Blk.new _ _ _).alloc _), hide ((Blk.newAt _ _ (by simp))), hide (((Below.refl _ _).alloc (Nat.le_refl _) _).alloc (by simp) _)⟩
  case round =>
    obtain ⟨k, hk, rfl, HA, HB, HL⟩ := hrel
    clear hmk hzs zs
    by_cases hlt : k < 2
    · have hltI : (k : Int) < 2 := by omega
      obtain ⟨X, hX, hX64, hXb⟩ := word_bits a ha k hlt
      have c0 := (HA.out.cell k).trans hX
      go_wp2
      go_loopw [5, 6] (fun n v wr' => ∃ i : Nat, i ≤ 64 ∧ n = .int .u64 ((X / 2 ^ i : Nat) : Int) ∧ v = .int .i64 (63 - (i : Int)) ∧ Hid (Blk wr' w.heap.size 23 a.cs) ∧ Hid (Blk wr' (w.heap.size + 1) 4 (bitsL (bb a k i)).toArray) ∧ Hid (Below w.heap.size w wr')) (fun _ v _ => (intOf v + 1).toNat)
      case atStart => exact ⟨0, by omega, by simp, rfl, HA, HB, HL⟩
      case round =>
        obtain ⟨i, hi, rfl, rfl, HA2, HB2, HL2⟩ := hrel
        clear HA HB HL c0
        by_cases hi2 : i < 64
        · have hset := bb_step a k i hi2
          have hbit := hXb (63 - i) (by omega)
          have hc := HB2.out.cell (64 * k + (63 - i))
          rw [List.getElem?_toArray, bitsL_get _ _ (by omega)] at hc
          have hf := HB2.out.frozen (64 * k + (63 - i))
          obtain ⟨p, hp⟩ : ∃ p : Nat, p = 64 * k + (63 - i) := ⟨_, rfl⟩
          obtain ⟨d, hd⟩ : ∃ d : Int, d = 63 - (i : Int) := ⟨_, rfl⟩
          have hpI : (64 : Int) * (k : Int) + d = (p : Int) := by omega
          have hd0 : 0 ≤ d := by omega
          have hp128 : (p : Int) < 128 := by omega
          rw [show 63 - (63 - i) = i by omega, ← hp, Nat.testBit_eq_decide_div_mod_eq] at hbit
          rw [← hp, hbit] at hset
          rw [← hp] at hc hf
          have hq64 : X / 2 ^ i < 18446744073709551616 := Nat.lt_of_le_of_lt (Nat.div_le_self _ _) hX64
          have hhalf : X / 2 ^ (i + 1) = X / 2 ^ i / 2 := by rw [Nat.pow_succ, Nat.div_div_eq_div_mul]
          generalize X / 2 ^ i = q at hbit hq64 hhalf hset
          have HH := hide hhalf
          have HS := hide hset
          have HD := hide hd
          have HP := hide hp
          have hbv : (((q : Nat) : Int) % 2 == 1) = decide (q % 2 = 1) := by rw [Bool.eq_iff_iff]; simp; omega
          have HV := hide hbv
          clear hhalf hbit hset hbv
          rw [← hd]
          clear hd hp
          go_wp2
          refine ⟨⟨i + 1, by omega, ?_, ?_, hide (HA2.out.far (p := ⟨w.heap.size + 1, p, none⟩) (Nat.ne_of_lt (Nat.lt_succ_self _)) _), hide ((HB2.out.setL p _).of_eq ?_), hide (HL2.out.setCell (Nat.le_succ _) _)⟩, ?_⟩
          · rw [HH.out]; simp
          · rw [HD.out]; congr 1; omega
          · rw [HV.out, HS.out]
          · simp only [intOf]; omega
        · have hd : (63 : Int) - (i : Int) = -1 := by omega
          rw [hd]
          go_wp2
          refine ⟨⟨k + 1, by omega, rfl, HA2, hide (HB2.out.of_eq ?_), HL2⟩, ?_⟩
          · rw [show i = 64 by omega, bb_next]
          · simp only [intOf]; omega
    · obtain rfl : k = 2 := by omega
      go_wp2
      go_ret
      refine ⟨rfl, ?_, HL.out⟩
      have := HB.out
      rw [bb_end] at this
      exact this
end Go.Proofs.YtaljphjcmkibkaaDoor
