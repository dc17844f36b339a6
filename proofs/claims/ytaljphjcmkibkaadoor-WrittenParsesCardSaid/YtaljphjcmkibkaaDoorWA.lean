/- Addresses as two words, and the contracts of addr.And, Or, Not, is and bit. Conditions: the words are below 2^64, the bit is one of 128. -/
import Derived.Test.YtaljphjcmkibkaaDoorProg
import Derived.Test.YtaljphjcmkibkaaDoorWords
import Derived.WalkSpells
import Derived.WalkLawsBesides
import Derived.Outline
import Derived.StillTailTactics
import Derived.Deep.QuietTactic
import Derived.BigQuiet
import Derived.Deep.RegionHeld3
import Derived.Deep.RegionWith
import Derived.KernelRfl
import Derived.Lib.SliceRun
import Derived.Laws.Bits64b
namespace Go.Proofs.YtaljphjcmkibkaaDoor
open Go.RowKit Go.WideShapes Go.ChangeShapes

/-- An address: two words. -/
structure Ad where
  x : Nat
  y : Nat
deriving DecidableEq
def Ad.cs (a : Ad) : Array Value := #[.int .u64 (a.x : Int), .int .u64 (a.y : Int)]
def Ad.val (a : Ad) : Value := .agg #[.int .u64 (a.x : Int), .int .u64 (a.y : Int)]
def Ad.Ok (a : Ad) : Prop := a.x < 18446744073709551616 ∧ a.y < 18446744073709551616
theorem aA : ∀ w, (isAgg 24).run Tryd.prog w = .ok true w := fun _ => by kernel_rfl
theorem zA : ∀ w, (Go.sizeOf 24).run Tryd.prog w = .ok 2 w := fun _ => by kernel_rfl

def Ad.and (a b : Ad) : Ad := ⟨a.x &&& b.x, a.y &&& b.y⟩
def Ad.or (a b : Ad) : Ad := ⟨a.x ||| b.x, a.y ||| b.y⟩
def Ad.not (a : Ad) : Ad := ⟨18446744073709551615 ^^^ a.x, 18446744073709551615 ^^^ a.y⟩

theorem Ad.Ok.and {a b : Ad} (ha : a.Ok) (_hb : b.Ok) : (a.and b).Ok := ⟨Nat.lt_of_le_of_lt Nat.and_le_left ha.1, Nat.lt_of_le_of_lt Nat.and_le_left ha.2⟩
theorem Ad.Ok.or {a b : Ad} (ha : a.Ok) (hb : b.Ok) : (a.or b).Ok := ⟨Nat.or_lt_two_pow (n := 64) ha.1 hb.1, Nat.or_lt_two_pow (n := 64) ha.2 hb.2⟩
theorem Ad.Ok.not {a : Ad} (ha : a.Ok) : a.not.Ok := ⟨Nat.xor_lt_two_pow (n := 64) (by decide) ha.1, Nat.xor_lt_two_pow (n := 64) (by decide) ha.2⟩

theorem and_any (a b : Ad) (ha : a.Ok) (hb : b.Ok) (w : World) : Calls Tryd.prog 56 #[a.val, b.val] w fun e w' => e = .returned (a.and b).val ∧ Below w.heap.size w w' := by
  have h1 := bits_and_u64_nat a.x b.x ha.1 hb.1
  have h2 := bits_and_u64_nat a.y b.y ha.2 hb.2
  go_enter Tryd.func56, Tryd.ntmps56
  simp only [Ad.val]
  go_wp2
  refine bodyPost_ret (results_blk (g := w.heap.size + 1 + 1) (t := 24) (cs := (a.and b).cs) rfl rfl (Blk.newAt _ _ (by simp)) aA zA) rfl ⟨rfl, ?_⟩
  exact (((Below.refl _ _).alloc (Nat.le_refl _) _).alloc (by simp) _).alloc (by simp; omega) _

theorem or_any (a b : Ad) (ha : a.Ok) (hb : b.Ok) (w : World) : Calls Tryd.prog 82 #[a.val, b.val] w fun e w' => e = .returned (a.or b).val ∧ Below w.heap.size w w' := by
  have h1 := bits_or_u64_nat a.x b.x ha.1 hb.1
  have h2 := bits_or_u64_nat a.y b.y ha.2 hb.2
  go_enter Tryd.func82, Tryd.ntmps82
  simp only [Ad.val]
  go_wp2
  refine bodyPost_ret (results_blk (g := w.heap.size + 1 + 1) (t := 24) (cs := (a.or b).cs) rfl rfl (Blk.newAt _ _ (by simp)) aA zA) rfl ⟨rfl, ?_⟩
  exact (((Below.refl _ _).alloc (Nat.le_refl _) _).alloc (by simp) _).alloc (by simp; omega) _

theorem not_any (a : Ad) (ha : a.Ok) (w : World) : Calls Tryd.prog 83 #[a.val] w fun e w' => e = .returned a.not.val ∧ Below w.heap.size w w' := by
  have h1 : bits .xor .u64 IntKind.u64.max (a.x : Int) = ((18446744073709551615 ^^^ a.x : Nat) : Int) := bits_xor_u64_nat 18446744073709551615 a.x (by decide) ha.1
  have h2 : bits .xor .u64 IntKind.u64.max (a.y : Int) = ((18446744073709551615 ^^^ a.y : Nat) : Int) := bits_xor_u64_nat 18446744073709551615 a.y (by decide) ha.2
  go_enter Tryd.func83, Tryd.ntmps83
  simp only [Ad.val]
  go_wp2
  refine bodyPost_ret (results_blk (g := w.heap.size + 1) (t := 24) (cs := a.not.cs) rfl rfl (Blk.newAt _ _ (by first | rfl | simp)) aA zA) rfl ⟨rfl, ?_⟩
  exact ((Below.refl _ _).alloc (Nat.le_refl _) _).alloc (by simp) _

theorem is_in (k : Int) (h0 : 0 ≤ k) (h1 : k < 128) (w : World) : Calls Tryd.prog 59 #[.int .i64 k] w fun e w' => e = .returned (.bool true) ∧ w' = w := by
  go_enter Tryd.func59, Tryd.ntmps59
  go_wp2
  go_ret
  exact ⟨rfl, rfl⟩
theorem is_out (k : Int) (h : ¬ (0 ≤ k ∧ k < 128)) (w : World) : Calls Tryd.prog 59 #[.int .i64 k] w fun e w' => e = .returned (.bool false) ∧ w' = w := by
  by_cases h0 : 0 ≤ k
  · have h1 : ¬ k < 128 := fun h1 => h ⟨h0, h1⟩
    go_enter Tryd.func59, Tryd.ntmps59
    go_wp2
    go_ret
    exact ⟨rfl, rfl⟩
  · go_enter Tryd.func59, Tryd.ntmps59
    go_wp2
    go_ret
    exact ⟨rfl, rfl⟩

/-- One bit set. -/
def Ad.bit (k : Nat) : Ad := if k < 64 then ⟨2 ^ (63 - k), 0⟩ else ⟨0, 2 ^ (127 - k)⟩
theorem Ad.bit_ok (k : Nat) : (Ad.bit k).Ok := by
  unfold Ad.bit Ad.Ok
  split
  · exact ⟨Nat.lt_of_le_of_lt (Nat.pow_le_pow_right (by decide) (show 63 - k ≤ 63 by omega)) (by decide), Nat.zero_lt_succ _⟩
  · exact ⟨Nat.zero_lt_succ _, Nat.lt_of_le_of_lt (Nat.pow_le_pow_right (by decide) (show 127 - k ≤ 63 by omega)) (by decide)⟩

theorem bit_any (k : Nat) (hk : k < 128) (w : World) : Calls Tryd.prog 60 #[.int .i64 k] w fun e w' => e = .returned (Ad.bit k).val ∧ Below w.heap.size w w' := by
  have w1 : ∀ j : Nat, j ≤ 63 → IntKind.u64.wrap (2 ^ j) = ((2 ^ j : Nat) : Int) := by
    intro j hj
    rw [IntKind.wrap_u64]
    have h : (2 : Nat) ^ j < 18446744073709551616 := Nat.lt_of_le_of_lt (Nat.pow_le_pow_right (by decide) hj) (by decide)
    have e : ((2 : Int) ^ j) = ((2 ^ j : Nat) : Int) := by simp
    rw [e]
    generalize 2 ^ j = z at h
    omega
  by_cases h : k < 64
  · have h1 : (k : Int).tdiv 64 = 0 := by rw [Int.tdiv_eq_ediv_of_nonneg (by omega)]; omega
    have h2 : (k : Int).tmod 64 = (k : Int) := by rw [Int.tmod_eq_emod_of_nonneg (by omega)]; omega
    have h3 : (63 - (k : Int)).toNat = 63 - k := by omega
    have h4 := w1 (63 - k) (by omega)
    have hz : ((2 ^ (63 - k) : Nat) : Int) = ((2 ^ (63 - k) : Nat) : Int) := rfl
    generalize hzz : (2 : Nat) ^ (63 - k) = z at h4
    clear hz
    have hv : Ad.bit k = ⟨z, 0⟩ := by rw [Ad.bit, if_pos h, hzz]
    rw [hv]
    simp only [Ad.val]
    clear w1 hzz
    go_enter Tryd.func60, Tryd.ntmps60
    go_wp2
    refine bodyPost_ret (results_blk (g := w.heap.size) (t := 24) (cs := (Ad.mk z 0).cs) rfl rfl ?_ aA zA) rfl ⟨rfl, ?_⟩
    · exact (Blk.new _ _ _).alloc _
    · exact ((Below.refl _ _).alloc (Nat.le_refl _) _).alloc (by simp) _
  · have h1 : (k : Int).tdiv 64 = 1 := by rw [Int.tdiv_eq_ediv_of_nonneg (by omega)]; omega
    have h2 : (k : Int).tmod 64 = (k : Int) - 64 := by rw [Int.tmod_eq_emod_of_nonneg (by omega)]; omega
    have h3 : (63 - ((k : Int) - 64)).toNat = 127 - k := by omega
    have h4 := w1 (127 - k) (by omega)
    have hz : ((2 ^ (127 - k) : Nat) : Int) = ((2 ^ (127 - k) : Nat) : Int) := rfl
    generalize hzz : (2 : Nat) ^ (127 - k) = z at h4
    clear hz
    have hv : Ad.bit k = ⟨0, z⟩ := by rw [Ad.bit, if_neg h, hzz]
    rw [hv]
    simp only [Ad.val]
    clear w1 hzz
    go_enter Tryd.func60, Tryd.ntmps60
    go_wp2
    refine bodyPost_ret (results_blk (g := w.heap.size) (t := 24) (cs := (Ad.mk 0 z).cs) rfl rfl ?_ aA zA) rfl ⟨rfl, ?_⟩
    · exact (Blk.new _ _ _).alloc _
    · exact ((Below.refl _ _).alloc (Nat.le_refl _) _).alloc (by simp) _
end Go.Proofs.YtaljphjcmkibkaaDoor
