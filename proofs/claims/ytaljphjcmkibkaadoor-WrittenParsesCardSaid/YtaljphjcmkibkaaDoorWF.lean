/- The contract of written.put. Conditions: at most 16 bits, which lie within 128; the number is below 2^62. -/
import Derived.Test.YtaljphjcmkibkaaDoorWE
namespace Go.Proofs.YtaljphjcmkibkaaDoor
open Go.RowKit Go.WideShapes Go.ChangeShapes

theorem bits_and_i64 (a b : Nat) (ha : a < 9223372036854775808) (hb : b < 9223372036854775808) : bits .and .i64 (a : Int) (b : Int) = ((a &&& b : Nat) : Int) := by
  have hx : a &&& b < 2 ^ 63 := Nat.and_lt_two_pow _ (by omega)
  have h1 : (BitVec.ofInt 64 (a : Int)).toNat = a := by
    rw [BitVec.ofInt_natCast, BitVec.toNat_ofNat]; exact Nat.mod_eq_of_lt (by omega)
  have h2 : (BitVec.ofInt 64 (b : Int)).toNat = b := by
    rw [BitVec.ofInt_natCast, BitVec.toNat_ofNat]; exact Nat.mod_eq_of_lt (by omega)
  show IntKind.i64.wrap ((BitVec.ofInt 64 (a : Int) &&& BitVec.ofInt 64 (b : Int)).toNat : Int) = _
  rw [BitVec.toNat_and, h1, h2, IntKind.wrap_i64]
  omega

/-- An address with bits of it so as a number's. -/
def putV (a : Ad) (f m n : Nat) : Nat → Ad
  | 0 => a
  | k + 1 => (putV a f m n k).with_ (f + k) (n / 2 ^ (m - 1 - k) % 2 == 1)
theorem putV_ok {a : Ad} (ha : a.Ok) (f m n : Nat) : ∀ k, (putV a f m n k).Ok
  | 0 => ha
  | k + 1 => (putV_ok ha f m n k).with_ _ _

set_option maxHeartbeats 1600000 in
theorem put_any (a : Ad) (ha : a.Ok) (f m n : Nat) (hfm : f + m ≤ 128) (hm : m ≤ 16) (hn : n < 4611686018427387904) (w : World) :
    Calls Tryd.prog 50 #[a.val, .int .i64 f, .int .i64 m, .int .i64 n] w fun e w' => e = .returned (putV a f m n m).val ∧ Below w.heap.size w w' := by
  go_enter Tryd.func50, Tryd.ntmps50
  simp only [Ad.val]
  go_wp2
  go_loopw [11] (fun i wr => ∃ k : Nat, k ≤ m ∧ i = .int .i64 (k : Int) ∧ Hid (Blk wr w.heap.size 24 (putV a f m n k).cs) ∧ Hid (Blk wr (w.heap.size + 1) 24 #[.int .u64 0, .int .u64 0]) ∧ Hid (Below w.heap.size w wr)) (fun i _ => m - (intOf i).toNat)
  case atStart => exact ⟨0, Nat.zero_le _, rfl, hide ((Blk.new _ _ _).alloc _), hide (Blk.newAt _ _ (by simp)), hide (((Below.refl _ _).alloc (Nat.le_refl _) _).alloc (by simp) _)⟩
  case round =>
    obtain ⟨k, hk, rfl, HB, HR, HL⟩ := hrel
    by_cases hlt : k < m
    · have hltI : (k : Int) < (m : Int) := by omega
      have hs : putV a f m n (k + 1) = (putV a f m n k).with_ (f + k) (n / 2 ^ (m - 1 - k) % 2 == 1) := rfl
      have ho := putV_ok ha f m n k
      generalize putV a f m n k = c at hs ho HB
      obtain ⟨g, hg⟩ : ∃ g : Nat, g = f + k := ⟨_, rfl⟩
      obtain ⟨d, hd⟩ : ∃ d : Nat, d = m - 1 - k := ⟨_, rfl⟩
      have hadd : IntKind.i64.wrap ((f : Int) + (k : Int)) = (g : Int) := by rw [IntKind.wrap_i64]; omega
      have hsub : IntKind.i64.wrap ((m : Int) - 1) = (m : Int) - 1 := by rw [IntKind.wrap_i64]; omega
      have hsub2 : IntKind.i64.wrap ((m : Int) - 1 - (k : Int)) = (d : Int) := by rw [IntKind.wrap_i64]; omega
      have hd64 : (d : Int) ≤ 64 := by omega
      have hd0 : (0 : Int) ≤ (d : Int) := by omega
      obtain ⟨x, hx⟩ : ∃ x : Nat, x = n / 2 ^ d := ⟨_, rfl⟩
      have hxn : x ≤ n := by rw [hx]; exact Nat.div_le_self _ _
      have hdiv : (n : Int) / 2 ^ d = (x : Int) := by rw [hx]; simp
      have hand : bits .and .i64 (x : Int) 1 = ((x % 2 : Nat) : Int) := by
        have := bits_and_i64 x 1 (by omega) (by decide)
        rw [Nat.and_one_is_mod] at this
        exact this
      rw [← hg, ← hd, ← hx] at hs
      have hg128 : g < 128 := by omega
      generalize hy : x % 2 = y at hs hand
      have hq : ((y : Int) == 1) = (y == 1) := by
        have h2 : y < 2 := by omega
        rcases (by omega : y = 0 ∨ y = 1) with rfl | rfl <;> rfl
      generalize hr : (y == 1) = r at hs hq
      have HS := hide hs
      have hq' : decide ((y : Int) = 1) = r := hq
      clear hs hg hd hx hy hr hxn
      have c0 := HB.out.cell 0
      have c1 := HB.out.cell 1
      have f0 := HB.out.frozen 0
      have f1 := HB.out.frozen 1
      simp only [Ad.cs, List.getElem?_toArray, List.getElem?_cons_zero, List.getElem?_cons_succ] at c0 c1
      go_wp2
      go_region_with (first | (go_at_call 64; refine (With_any c ho g hg128 r _).mono ?_; rintro e w1 ⟨rfl, hb1⟩; simp only [Ad.val]; have B1 := HB.out.drew.below hb1 HB.out.drew.lt; have z0 := B1.cell 0; have z1 := B1.cell 1; have y0 := B1.frozen 0; have y1 := B1.frozen 1; simp only [Ad.cs, List.getElem?_toArray, List.getElem?_cons_zero, List.getElem?_cons_succ] at z0 z1))
      all_goals
        have HB1 := hide (((B1.setL 0 (.int .u64 ((c.with_ g r).x : Int))).setL 1 (.int .u64 ((c.with_ g r).y : Int))))
        have HR1 := hide (((HR.out.drew.below hb1 HR.out.drew.lt).far (p := ⟨w.heap.size, 0, none⟩) (Nat.ne_of_gt (Nat.lt_succ_self _)) (.int .u64 ((c.with_ g r).x : Int))).far (p := ⟨w.heap.size, 1, none⟩) (Nat.ne_of_gt (Nat.lt_succ_self _)) (.int .u64 ((c.with_ g r).y : Int)))
        have HL0 := HL.out.drew
        have HL1 := hide (((HL0.trans (hb1.mono HL0.size)).setCell (Nat.le_refl _) (p := ⟨w.heap.size, 0, none⟩) (.int .u64 ((c.with_ g r).x : Int))).setCell (p := ⟨w.heap.size, 1, none⟩) (Nat.le_refl _) (.int .u64 ((c.with_ g r).y : Int)))
        clear hb1 B1 y0 y1 z0 z1 c0 c1 f0 f1 HB HR HL HL0 hadd hsub hsub2 hdiv hand hq hq'
        go_wp2
        go_roundw
        case rel => exact ⟨k + 1, by omega, by go_num, by rw [HS.out]; exact HB1, HR1, HL1⟩
        case measure => simp [intOf]; omega
    · have hltI : ¬ (k : Int) < (m : Int) := by omega
      obtain rfl : k = m := by omega
      generalize hc : putV a f k n k = c at HB
      have HC := hide hc
      clear hc
      have c0 := HB.out.cell 0
      have c1 := HB.out.cell 1
      simp only [Ad.cs, List.getElem?_toArray, List.getElem?_cons_zero, List.getElem?_cons_succ] at c0 c1
      have d0 := HR.out.cell 0
      have d1 := HR.out.cell 1
      have f0 := HR.out.frozen 0
      have f1 := HR.out.frozen 1
      simp at d0 d1
      go_wp2
      refine bodyPost_ret (results_blk (g := w.heap.size + 1) (t := 24) (cs := c.cs) rfl rfl ((HR.out.setL 0 _).setL 1 _) aA zA) rfl ⟨by rw [HC.out]; rfl, ?_⟩
      exact (HL.out.setCell (Nat.le_succ _) _).setCell (Nat.le_succ _) _
end Go.Proofs.YtaljphjcmkibkaaDoor
