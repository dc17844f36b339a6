/- The contract of the reference's Number: it answers as written.Number does. Conditions: at most 2^20 bytes. -/
import Derived.Test.YtaljphjcmkibkaaDoorWS
namespace Go.Proofs.YtaljphjcmkibkaaDoor
open Go.RowKit Go.WideShapes Go.ChangeShapes

theorem number_none {l : List UInt8} {most : Int} (h : l = [] ∨ 9 < l.length ∨ l.any nd = true ∨ (l.head? = some 48 ∧ l ≠ [48])) : number l most = (0, false) := by rw [number, numV, if_pos h]
theorem number_some {l : List UInt8} {most : Int} {n : Nat} (h : ¬ (l = [] ∨ 9 < l.length ∨ l.any nd = true ∨ (l.head? = some 48 ∧ l ≠ [48]))) (hn : Lib.decFrom 0 l = some n) : number l most = if most < (n : Int) then (0, false) else ((n : Int), true) := by
  rw [number, numV, if_neg h, hn]

set_option maxRecDepth 4000 in
set_option maxHeartbeats 3200000 in
theorem refNumber_any (l : List UInt8) (hl : l.length ≤ 1048576) (most : Int) (w : World) : Calls Tryd.prog 22 #[str l, .int .i64 most] w fun e w' => e = .returned (.tuple #[.int .i64 (number l most).1, .bool (number l most).2]) ∧ w' = w := by
  have hlen := run_len l
  go_enter Tryd.func22, Tryd.ntmps22
  simp only [str]
  go_wp2
  go_loopw [6, 7] (fun v i wr => ∃ k n : Nat, k ≤ l.length ∧ v = .int .i64 (n : Int) ∧ i = .int .i64 (k : Int) ∧ k ≤ 9 ∧ n < 1000000000 ∧ Hid (Lib.decFrom 0 (l.take k) = some n) ∧ Hid ((l.take k).any nd = false) ∧ Hid (wr = w)) (fun _ i _ => l.length - (intOf i).toNat)
  case atStart => exact ⟨0, 0, Nat.zero_le _, rfl, rfl, by decide, by decide, hide rfl, hide rfl, hide rfl⟩
  case round =>
    obtain ⟨k, n, hk, rfl, rfl, hk9, hn9, HD, HN, HW⟩ := hrel
    by_cases hlt : k < l.length
    · have hltI : (k : Int) < (l.length : Int) := by omega
      have hat := run_at l k hlt
      have htk : l.take (k + 1) = l.take k ++ [l[k]] := List.take_succ_eq_append_getElem hlt
      have hmem : l[k] ∈ l := List.getElem_mem _
      have hget : l[k]? = some l[k] := List.getElem?_eq_getElem hlt
      generalize l[k] = c at hat htk hmem hget
      have hx8 := c.toNat_lt
      by_cases h48 : c.toNat < 48
      · have hI : ((c.toNat : Nat) : Int) < 48 := by omega
        have hv : number l most = (0, false) := number_none (.inr (.inr (.inl (List.any_eq_true.2 ⟨c, hmem, by simp [nd, ndR, h48]⟩))))
        have HV := hide hv
        generalize c.toNat = x at hat hI
        clear htk hmem hget hv h48 hx8
        go_wp2
        go_ret2
        exact ⟨by rw [HV.out]; rfl, HW.out⟩
      · by_cases h57 : 57 < c.toNat
        · have hI : ¬ ((c.toNat : Nat) : Int) < 48 := by omega
          have hI2 : (57 : Int) < ((c.toNat : Nat) : Int) := by omega
          have hv : number l most = (0, false) := number_none (.inr (.inr (.inl (List.any_eq_true.2 ⟨c, hmem, by simp [nd, ndR, h57]⟩))))
          have HV := hide hv
          generalize c.toNat = x at hat hI hI2
          clear htk hmem hget hv h48 hx8 h57
          go_wp2
          go_ret2
          exact ⟨by rw [HV.out]; rfl, HW.out⟩
        · have hI : ¬ ((c.toNat : Nat) : Int) < 48 := by omega
          have hI2 : ¬ (57 : Int) < ((c.toNat : Nat) : Int) := by omega
          by_cases h9 : 9 ≤ k
          · have h9I : (9 : Int) ≤ (k : Int) := by omega
            have hv : number l most = (0, false) := number_none (.inr (.inl (by omega)))
            have HV := hide hv
            generalize c.toNat = x at hat hI hI2
            clear htk hmem hget hv h48 hx8 h57
            go_wp2
            go_ret2
            exact ⟨by rw [HV.out]; rfl, HW.out⟩
          · have h9I : ¬ (9 : Int) ≤ (k : Int) := by omega
            obtain ⟨d, hd⟩ : ∃ d : Nat, d = c.toNat - 48 := ⟨_, rfl⟩
            have hdv : Lib.digitVal c = some d := by rw [Lib.digitVal, if_pos ⟨by omega, by omega⟩, hd]
            have hD' := Lib.decFrom_take l k 0 n c d HD.out hget hdv
            have hN' : (l.take (k + 1)).any nd = false := by
              rw [htk, List.any_append, HN.out]
              simp [nd, ndR]
              omega
            obtain ⟨m', e1, e2⟩ := decFrom_some _ 0 hN'
            rw [hD'] at e1
            cases e1
            have hlen' : (l.take (k + 1)).length = k + 1 := by rw [List.length_take]; omega
            rw [hlen'] at e2
            have hp : (10 : Nat) ^ (k + 1) ≤ 10 ^ 9 := Nat.pow_le_pow_right (by decide) (by omega)
            have hb' : n * 10 + d < 1000000000 := by omega
            have HD' := hide hD'
            have HN' := hide hN'
            have hdI : ((c.toNat : Nat) : Int) - 48 = (d : Int) := by omega
            have hd8 : d ≤ 9 := by omega
            generalize c.toNat = x at hat hI hI2 hdI
            clear htk hmem hget h48 hx8 h57 hd hdv hD' hN' e2 hp hlen' HD HN
            go_wp2
            go_roundw
            case rel => exact ⟨k + 1, n * 10 + d, by omega, by go_num, by go_num, by omega, hb', HD', HN', HW⟩
            case measure => simp [intOf]; omega
    · have hltI : ¬ (k : Int) < (l.length : Int) := by omega
      have hkl : k = l.length := by omega
      have hD := HD.out
      have hN := HN.out
      rw [hkl, List.take_length] at hD hN
      clear HD HN
      by_cases h0 : l = []
      · have hv : number l most = (0, false) := number_none (.inl h0)
        have HV := hide hv
        have h0b : l.isEmpty = true := by rw [h0]; rfl
        clear hv h0 hD hN hkl
        go_wp2
        go_ret2
        exact ⟨by rw [HV.out]; rfl, HW.out⟩
      · have h0b : l.isEmpty = false := by rw [List.isEmpty_eq_false_iff]; exact h0
        have hdig := refDigits_any n (by omega)
        by_cases hz : l.head? = some 48 ∧ l ≠ [48]
        · have hv : number l most = (0, false) := number_none (.inr (.inr (.inr hz)))
          have HV := hide hv
          have hne := dec_not (n := n) hz
          generalize Lib.decDigits n = s at hdig hne
          have hneb : (s == l) = false := by rw [beq_eq_false_iff_ne]; exact hne
          clear hv hz hD hN hkl h0 hne
          go_wp2_with (go_at_call 34; refine (hdig _).mono ?_; rintro e w2 ⟨rfl, rfl⟩)
          go_ret2
          exact ⟨by rw [HV.out]; rfl, HW.out⟩
        · have hcan := dec_canon _ l rfl h0 n hD hz
          have hall : ¬ (l = [] ∨ 9 < l.length ∨ l.any nd = true ∨ (l.head? = some 48 ∧ l ≠ [48])) := by
            rintro (h | h | h | h)
            · exact h0 h
            · omega
            · rw [hN] at h; cases h
            · exact hz h
          rw [hcan] at hdig
          by_cases hm : most < (n : Int)
          · have HV := hide ((number_some (most := most) hall hD).trans (if_pos hm))
            clear hz hD hN hkl h0 hcan hall
            go_wp2_with (go_at_call 34; refine (hdig _).mono ?_; rintro e w2 ⟨rfl, rfl⟩)
            go_ret2
            exact ⟨by rw [HV.out]; rfl, HW.out⟩
          · have HV := hide ((number_some (most := most) hall hD).trans (if_neg hm))
            clear hz hD hN hkl h0 hcan hall
            go_wp2_with (go_at_call 34; refine (hdig _).mono ?_; rintro e w2 ⟨rfl, rfl⟩)
            go_ret2
            exact ⟨by rw [HV.out]; rfl, HW.out⟩
end Go.Proofs.YtaljphjcmkibkaaDoor
