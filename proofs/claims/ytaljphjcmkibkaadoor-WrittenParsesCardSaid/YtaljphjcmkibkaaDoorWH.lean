/- The contract of written.digits, which reads four hexadecimal digits. Conditions: none. -/
import Derived.Test.YtaljphjcmkibkaaDoorWG
import Derived.Test.YtaljphjcmkibkaaDoorShelf
namespace Go.Proofs.YtaljphjcmkibkaaDoor
open Go.RowKit Go.WideShapes Go.ChangeShapes

theorem run_at (l : List UInt8) (k : Nat) (hk : k < l.length) (w : World) : (Instr.index 9 (.string ⟨l.toArray⟩) (.int .i64 (k : Int))).run Tryd.prog w = .ok (.int .u8 ((l[k].toNat : Nat) : Int)) w := by
  rw [run_index_string w 9 _ _ _ Tryd.underlying9, dif_pos ⟨by omega, by simp [ByteArray.size]; omega⟩]
  rfl
theorem run_len (l : List UInt8) (w : World) : (Builtin.len_ #[9] 3 #[.string ⟨l.toArray⟩]).run Tryd.prog w = .ok (.int .i64 (l.length : Int)) w := by
  rw [run_len_string w 9 3 _ Tryd.underlying9]
  simp [goInt, ByteArray.size]

/-- What a sign counts as a hexadecimal digit; -1: it is none. -/
def hexV (c : UInt8) : Int := Lib.indexByte hexTab c
theorem hexV_le : ∀ c : UInt8, hexV c ≤ 15 := by
  have h : ∀ n : Fin 256, hexV (UInt8.ofNat n.val) ≤ 15 := by decide +kernel
  intro c
  have := h ⟨c.toNat, c.toNat_lt⟩
  simpa using this
theorem call_hex (c : UInt8) (w : World) : Calls Tryd.prog 51 #[.string ⟨#[48, 49, 50, 51, 52, 53, 54, 55, 56, 57, 97, 98, 99, 100, 101, 102]⟩, .int .u8 ((c.toNat : Nat) : Int)] w fun e w' => e = .returned (.int .i64 (hexV c)) ∧ w' = w := by
  refine (Tryd.strings_IndexByte _ _ w).mono fun e w' h => ?_
  rw [show ((c.toNat : Nat) : Int).toNat.toUInt8 = c by simp] at h
  exact h
def digF : Nat → Nat → List UInt8 → Option Nat
  | _, n, [] => some n
  | k, n, c :: l => if hexV c < 0 then none else if 3 < k then none else digF (k + 1) (16 * n + (hexV c).toNat) l
def digits (l : List UInt8) : Nat × Bool := match digF 0 0 l with
  | none => (0, false)
  | some n => (n, decide (l.length = 4))

set_option maxHeartbeats 1600000 in
theorem digits_any (l : List UInt8) (w : World) : Calls Tryd.prog 32 #[str l] w fun e w' => e = .returned (.tuple #[.int .i64 ((digits l).1 : Int), .bool (digits l).2]) ∧ w' = w := by
  have hlen := run_len l
  go_enter Tryd.func32, Tryd.ntmps32
  simp only [str]
  go_wp2
  go_loopw [4, 9] (fun v i wr => ∃ k n : Nat, k ≤ l.length ∧ v = .int .i64 (n : Int) ∧ i = .int .i64 (k : Int) ∧ Hid (digF 0 0 l = digF k n (l.drop k)) ∧ k ≤ 4 ∧ n < 16 ^ k ∧ Hid (wr = w)) (fun _ i _ => l.length - (intOf i).toNat)
  case atStart => exact ⟨0, 0, Nat.zero_le _, rfl, rfl, hide rfl, by omega, by decide, hide rfl⟩
  case round =>
    obtain ⟨k, n, hk, rfl, rfl, HD, hk4, hn, HW⟩ := hrel
    by_cases hlt : k < l.length
    · have hltI : (k : Int) < (l.length : Int) := by omega
      have hat := run_at l k hlt
      have hdr := List.drop_eq_getElem_cons hlt
      have hc15 := hexV_le l[k]
      generalize l[k] = c at hat hdr hc15
      have hd := HD.out
      rw [hdr] at hd
      have HDR := hide hdr
      clear HD hdr
      have hcall := call_hex c
      by_cases hv : hexV c < 0
      · have hres : digF 0 0 l = none := by rw [hd, digF, if_pos hv]
        have hdg : digits l = (0, false) := by rw [digits, hres]
        have HDG := hide hdg
        generalize hexV c = v at hv hcall
        clear hd hres hdg hc15
        go_wp2_with (go_at_call 51; refine (hcall _).mono ?_; rintro e w1 ⟨rfl, rfl⟩)
        go_ret2
        exact ⟨by rw [HDG.out]; rfl, HW.out⟩
      · by_cases hk3 : 3 < k
        · have hres : digF 0 0 l = none := by rw [hd, digF, if_neg hv, if_pos hk3]
          have hdg : digits l = (0, false) := by rw [digits, hres]
          have HDG := hide hdg
          generalize hexV c = v at hv hcall hc15
          have hk3I : (3 : Int) < (k : Int) := by omega
          have hn2 : n < 65536 := Nat.lt_of_lt_of_le hn (Nat.pow_le_pow_right (by decide) hk4)
          clear hd hres hdg hn
          go_wp2_with (go_at_call 51; refine (hcall _).mono ?_; rintro e w1 ⟨rfl, rfl⟩)
          go_ret2
          exact ⟨by rw [HDG.out]; rfl, HW.out⟩
        · have hres : digF 0 0 l = digF (k + 1) (16 * n + (hexV c).toNat) (l.drop (k + 1)) := by rw [hd, digF, if_neg hv, if_neg hk3]
          obtain ⟨v, hvv⟩ : ∃ v : Nat, (v : Int) = hexV c := ⟨(hexV c).toNat, by omega⟩
          rw [← hvv] at hv hcall hc15 hres
          have hk3I : ¬ (3 : Int) < (k : Int) := by omega
          have hn2 : n < 65536 := Nat.lt_of_lt_of_le hn (Nat.pow_le_pow_right (by decide) hk4)
          have hn3 : 16 * n + v < 16 ^ (k + 1) := by rw [Nat.pow_succ]; omega
          rw [show ((v : Nat) : Int).toNat = v by simp] at hres
          have HRES := hide hres
          have HN := hide hn3
          clear hd hres hn hn3 hvv
          go_wp2_with (go_at_call 51; refine (hcall _).mono ?_; rintro e w1 ⟨rfl, rfl⟩)
          go_roundw
          case rel => exact ⟨k + 1, 16 * n + v, by omega, by go_num, by go_num, HRES, by omega, HN.out, HW⟩
          case measure => simp [intOf]; omega
    · have hltI : ¬ (k : Int) < (l.length : Int) := by omega
      have hd := HD.out
      rw [List.drop_eq_nil_of_le (by omega)] at hd
      have hdg : digits l = (n, decide (l.length = 4)) := by rw [digits, hd]; rfl
      have hkl : k = l.length := by omega
      have hq : ((l.length : Int) == 4) = decide (l.length = 4) := by
        rw [Bool.eq_iff_iff, beq_iff_eq, decide_eq_true_iff]; omega
      generalize decide (l.length = 4) = r at hq hdg
      have HDG := hide hdg
      have hq' : decide ((l.length : Int) = 4) = r := hq
      clear hd hdg HD hkl
      go_wp2
      go_ret2
      exact ⟨by rw [HDG.out]; rfl, HW.out⟩
end Go.Proofs.YtaljphjcmkibkaaDoor
