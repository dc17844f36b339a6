/- The contract of written.Number. Conditions: none. -/
import Derived.Test.YtaljphjcmkibkaaDoorWI
namespace Go.Proofs.YtaljphjcmkibkaaDoor
open Go.RowKit Go.WideShapes Go.ChangeShapes

theorem run_seql (x y : List UInt8) (w : World) : (binOp .eql 9 (.string ⟨x.toArray⟩) (.string ⟨y.toArray⟩)).run Tryd.prog w = .ok (.bool (x == y)) w := by
  rw [binOp_string_eql]
  simp
theorem run_sneq (x y : List UInt8) (w : World) : (binOp .neq 9 (.string ⟨x.toArray⟩) (.string ⟨y.toArray⟩)).run Tryd.prog w = .ok (.bool (!(x == y))) w := by
  rw [binOp_string_neq]
  simp

theorem below_bytes (w : World) (e : TypeId) (s : ByteArray) : Below w.heap.size w (Lib.bytesWorld w e s) :=
  ⟨rfl, rfl, rfl, by rw [Lib.bytesWorld_size]; omega, fun k hk => Lib.bytesWorld_at_old w e s k (by omega)⟩

theorem decFrom_some (l : List UInt8) : ∀ acc, l.any nd = false → ∃ n, Lib.decFrom acc l = some n ∧ n < (acc + 1) * 10 ^ l.length := by
  induction l with
  | nil => intro acc _; exact ⟨acc, rfl, by simp⟩
  | cons c l ih =>
    intro acc h
    rw [List.any_cons, Bool.or_eq_false_iff] at h
    have hc : 48 ≤ c.toNat ∧ c.toNat ≤ 57 := by
      have := h.1
      simp [nd, ndR] at this
      omega
    obtain ⟨n, h1, h2⟩ := ih (acc * 10 + (c.toNat - 48)) h.2
    refine ⟨n, ?_, ?_⟩
    · rw [Lib.decFrom, Lib.digitVal, if_pos hc]
      exact h1
    · rw [List.length_cons, Nat.pow_succ]
      refine Nat.lt_of_lt_of_le h2 ?_
      rw [show (acc + 1) * (10 ^ l.length * 10) = ((acc + 1) * 10) * 10 ^ l.length by rw [Nat.mul_comm (10 ^ l.length) 10, Nat.mul_assoc]]
      exact Nat.mul_le_mul_right _ (by omega)

def numV (l : List UInt8) : Option Nat := if l = [] ∨ 9 < l.length ∨ l.any nd = true ∨ (l.head? = some 48 ∧ l ≠ [48]) then none else Lib.decFrom 0 l
def number (l : List UInt8) (most : Int) : Int × Bool := match numV l with
  | none => (0, false)
  | some n => if most < (n : Int) then (0, false) else (n, true)

theorem atoi_digits {l : List UInt8} {n : Nat} (h0 : l ≠ []) (h : l.any nd = false) (hn : Lib.decFrom 0 l = some n) : Lib.atoi l = some (n : Int) := by
  cases l with
  | nil => exact absurd rfl h0
  | cons c l =>
    rw [List.any_cons, Bool.or_eq_false_iff] at h
    have hc := h.1
    simp [nd, ndR] at hc
    have h45 : (c == 45) = false := by
      rw [beq_eq_false_iff_ne]; rintro rfl; simp at hc
    have h43 : (c == 43) = false := by
      rw [beq_eq_false_iff_ne]; rintro rfl; simp at hc
    rw [Lib.atoi, h45, h43]
    simp [Lib.decNat, hn]

set_option maxHeartbeats 1600000 in
theorem number_any (l : List UInt8) (most : Int) (w : World) : Calls Tryd.prog 21 #[str l, .int .i64 most] w fun e w' => e = .returned (.tuple #[.int .i64 (number l most).1, .bool (number l most).2]) ∧ Below w.heap.size w w' := by
  have hlen := run_len l
  by_cases h0 : l = []
  · have hv : number l most = (0, false) := by rw [number, numV, if_pos (.inl h0)]
    rw [hv]
    have h0b : l.isEmpty = true := by rw [h0]; rfl
    clear hv h0
    go_enter Tryd.func21, Tryd.ntmps21
    simp only [str]
    go_wp2
    go_ret2
    exact ⟨rfl, Below.refl _ _⟩
  have h0b : l.isEmpty = false := by rw [List.isEmpty_eq_false_iff]; exact h0
  by_cases h9 : 9 < l.length
  · have hv : number l most = (0, false) := by rw [number, numV, if_pos (.inr (.inl h9))]
    rw [hv]
    have h9I : (9 : Int) < (l.length : Int) := by omega
    go_enter Tryd.func21, Tryd.ntmps21
    simp only [str]
    go_wp2
    go_ret2
    exact ⟨rfl, Below.refl _ _⟩
  have h9I : ¬ (9 : Int) < (l.length : Int) := by omega
  by_cases hnd : l.any nd = true
  · have hv : number l most = (0, false) := by rw [number, numV, if_pos (.inr (.inr (.inl hnd)))]
    rw [hv]
    have hcon := fun w => hnd ▸ contains_any l w
    go_enter Tryd.func21, Tryd.ntmps21
    simp only [str]
    go_wp2_with (go_at_call 40; refine (hcon _).mono ?_; rintro e w1 ⟨rfl, hb1⟩)
    go_ret2
    exact ⟨rfl, hb1⟩
  have hnd : l.any nd = false := by simpa using hnd
  have hcon := fun w => hnd ▸ contains_any l w
  have hl0 : 0 < l.length := List.length_pos_iff.2 h0
  have hat : ∀ w, (Instr.index 9 (.string ⟨l.toArray⟩) (.int .i64 0)).run Tryd.prog w = .ok (.int .u8 ((l[0].toNat : Nat) : Int)) w := run_at l 0 hl0
  obtain ⟨n, hn, _⟩ := decFrom_some l 0 hnd
  have hatoi := atoi_digits h0 hnd hn
  have hsz : (ByteArray.mk l.toArray).size ≤ 18 := by simp [ByteArray.size]; omega
  have hcall : ∀ w, Calls Tryd.prog 41 #[.string ⟨l.toArray⟩] w fun e w' => e = .returned (.tuple #[.int .i64 (n : Int), .nilIface]) ∧ Below w.heap.size w w' := fun w =>
    (Tryd.strconv_Atoi ⟨l.toArray⟩ n hsz (by simpa using hatoi) w).mono fun e w' ⟨he, t, ht⟩ => ⟨he, ht ▸ below_bytes w 5 t⟩
  generalize hc0 : l[0] = c at hat
  have hhead : l.head? = some c := by rw [List.head?_eq_getElem?, List.getElem?_eq_getElem hl0, hc0]
  by_cases hz : c = 48
  · have hzI : ((c.toNat : Nat) : Int) = 48 := by rw [hz]; rfl
    by_cases hs : l = [48]
    · have hsb : (l == [48]) = true := by rw [hs]; rfl
      have hnv : numV l = some n := by
        rw [numV, if_neg (by
          rintro (h | h | h | h)
          · exact h0 h
          · exact h9 h
          · rw [hnd] at h; cases h
          · exact h.2 hs)]
        exact hn
      by_cases hm : most < (n : Int)
      · have hv : number l most = (0, false) := by rw [number, hnv]; exact if_pos hm
        have HV := hide hv
        clear hv hnv hn hatoi hhead hnd hc0 hs hz
        go_enter Tryd.func21, Tryd.ntmps21
        simp only [str]
        go_wp2_with (first | (go_at_call 40; refine (hcon _).mono ?_; rintro e w1 ⟨rfl, hb1⟩) | (go_at_call 41; refine (hcall _).mono ?_; rintro e w2 ⟨rfl, hb2⟩))
        go_ret2
        exact ⟨by rw [HV.out]; rfl, hb1.trans (hb2.mono hb1.size)⟩
      · have hv : number l most = ((n : Int), true) := by rw [number, hnv]; exact if_neg hm
        have HV := hide hv
        clear hv hnv hn hatoi hhead hnd hc0 hs hz
        go_enter Tryd.func21, Tryd.ntmps21
        simp only [str]
        go_wp2_with (first | (go_at_call 40; refine (hcon _).mono ?_; rintro e w1 ⟨rfl, hb1⟩) | (go_at_call 41; refine (hcall _).mono ?_; rintro e w2 ⟨rfl, hb2⟩))
        go_ret2
        exact ⟨by rw [HV.out]; rfl, hb1.trans (hb2.mono hb1.size)⟩
    · have hsb : (l == [48]) = false := by rw [beq_eq_false_iff_ne]; exact hs
      have hv : number l most = (0, false) := by rw [number, numV, if_pos (.inr (.inr (.inr ⟨hz ▸ hhead, hs⟩)))]
      have HV := hide hv
      clear hv hn hatoi hhead hnd hc0 hs hz
      go_enter Tryd.func21, Tryd.ntmps21
      simp only [str]
      go_wp2_with (first | (go_at_call 40; refine (hcon _).mono ?_; rintro e w1 ⟨rfl, hb1⟩) | (go_at_call 41; refine (hcall _).mono ?_; rintro e w2 ⟨rfl, hb2⟩))
      go_ret2
      exact ⟨by rw [HV.out]; rfl, hb1⟩
  · have hzI : ¬ ((c.toNat : Nat) : Int) = 48 := fun h => hz (by
      have : c.toNat = 48 := by omega
      exact UInt8.toNat_inj.1 this)
    have hnv : numV l = some n := by
      rw [numV, if_neg (by
        rintro (h | h | h | h)
        · exact h0 h
        · exact h9 h
        · rw [hnd] at h; cases h
        · rw [hhead] at h; exact hz (Option.some.inj h.1))]
      exact hn
    by_cases hm : most < (n : Int)
    · have hv : number l most = (0, false) := by rw [number, hnv]; exact if_pos hm
      have HV := hide hv
      clear hv hnv hn hatoi hhead hnd hc0 hz
      go_enter Tryd.func21, Tryd.ntmps21
      simp only [str]
      go_wp2_with (first | (go_at_call 40; refine (hcon _).mono ?_; rintro e w1 ⟨rfl, hb1⟩) | (go_at_call 41; refine (hcall _).mono ?_; rintro e w2 ⟨rfl, hb2⟩))
      go_ret2
      exact ⟨by rw [HV.out]; rfl, hb1.trans (hb2.mono hb1.size)⟩
    · have hv : number l most = ((n : Int), true) := by rw [number, hnv]; exact if_neg hm
      have HV := hide hv
      clear hv hnv hn hatoi hhead hnd hc0 hz
      go_enter Tryd.func21, Tryd.ntmps21
      simp only [str]
      go_wp2_with (first | (go_at_call 40; refine (hcon _).mono ?_; rintro e w1 ⟨rfl, hb1⟩) | (go_at_call 41; refine (hcall _).mono ?_; rintro e w2 ⟨rfl, hb2⟩))
      go_ret2
      exact ⟨by rw [HV.out]; rfl, hb1.trans (hb2.mono hb1.size)⟩
end Go.Proofs.YtaljphjcmkibkaaDoor
