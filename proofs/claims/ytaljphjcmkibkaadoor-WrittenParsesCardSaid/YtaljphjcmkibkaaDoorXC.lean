/- The contract of the reference's Right: it answers as prefix.Right does. Conditions: the words are below 2^64. -/
import Derived.Test.YtaljphjcmkibkaaDoorXB
namespace Go.Proofs.YtaljphjcmkibkaaDoor
open Go.RowKit Go.WideShapes Go.ChangeShapes

theorem fam_le {n : Int} (h : fam n = true) : n = 32 ∨ n = 128 := by
  simpa [fam] using h
/-- What a prefix that may be is, bit by bit. -/
theorem right_bits {n : Int} {p : Pf} (ha : p.a.Ok) : p.right n = true ↔ fam n = true ∧ 0 ≤ p.n ∧ p.n ≤ n ∧ ∀ j, p.n.toNat ≤ j → j < 128 → p.a.b j = false := by
  unfold Pf.right
  simp only [Bool.and_eq_true, decide_eq_true_eq]
  constructor
  · rintro ⟨⟨⟨hf, h0⟩, h1⟩, h2⟩
    refine ⟨hf, h0, h1, ?_⟩
    have hn := fam_le hf
    have e : (min (max p.n 0) 128).toNat = p.n.toNat := by omega
    have h3 := congrArg Pf.a h2
    rw [Pf.make, e] at h3
    exact (cut_iff ha _).1 h3.symm
  · rintro ⟨hf, h0, h1, h2⟩
    refine ⟨⟨⟨hf, h0⟩, h1⟩, ?_⟩
    have hn := fam_le hf
    have e : (min (max p.n 0) 128).toNat = p.n.toNat := by omega
    rw [Pf.make, e, (cut_iff ha _).2 h2, Int.toNat_of_nonneg h0]

theorem bits_some (a : Ad) (ha : a.Ok) (w : World) : Calls Tryd.prog 33 #[a.val] w fun e w' => ∃ g, e = .returned (.slice (some ⟨g, 0, none⟩) 128 128) ∧ w.heap.size ≤ g ∧ Blk w' g 4 (bitsL a.b).toArray ∧ Below w.heap.size w w' :=
  (bits_any a ha w).mono fun _ _ ⟨h1, h2, h3⟩ => ⟨_, h1, Nat.le_succ _, h2, h3⟩

set_option maxRecDepth 8000 in
set_option maxHeartbeats 1600000 in
theorem refRight_any (n : Int) (p : Pf) (ha : p.a.Ok) (w : World) : Calls Tryd.prog 13 #[.int .i64 n, p.val] w fun e w' => e = .returned (.bool (p.right n)) ∧ Below w.heap.size w w' := by
  have hr := right_bits (n := n) ha
  have HB := hide (Blk.new w 32 p.cs)
  have HL := hide ((Below.refl w.heap.size w).alloc (Nat.le_refl _) (.cells p.cs 32))
  have c2 := HB.out.cell 2
  have c0 := HB.out.cell 0
  have c1 := HB.out.cell 1
  have hbits := fun w => bits_some p.a ha w
  cases p with | mk a z =>
  simp only [Pf.cs, List.getElem?_toArray, List.getElem?_cons_zero, List.getElem?_cons_succ] at c0 c1 c2
  simp only at hbits hr ha
  by_cases hf : fam n = true ∧ 0 ≤ z ∧ z ≤ n
  · obtain ⟨hfam, h0, h1⟩ := hf
    rw [hfam] at hr
    simp only [h0, h1, true_and] at hr
    have HR := hide hr
    clear hr
    have hn := fam_le hfam
    obtain ⟨N, rfl⟩ : ∃ N : Nat, z = N := ⟨z.toNat, by omega⟩
    have hN : N ≤ 128 := by omega
    rcases hn with rfl | rfl
    · go_enter Tryd.func13, Tryd.ntmps13
      simp only [Pf.val]
      go_wp2_with fail
      refine (hbits _).mono ?_
      rintro e w1 ⟨g, rfl, hg1, hb1, hl1⟩
      have HB1 := hide (HB.out.below hl1 HB.out.lt)
      have HL1 := hide (HL.out.trans (hl1.mono HL.out.size))
      have HG := hide hb1
      have d2 := HB1.out.cell 2
      simp only [Pf.cs, List.getElem?_toArray, List.getElem?_cons_zero, List.getElem?_cons_succ] at d2
      clear hb1 hl1 c0 c1 c2 hbits HB HL hg1
      go_wp2
      go_loopw [6] (fun i wr => ∃ k : Nat, k ≤ 128 ∧ N ≤ k ∧ i = .int .i64 (k : Int) ∧ Hid (∀ j, N ≤ j → j < k → a.b j = false) ∧ Hid (Blk wr g 4 (bitsL a.b).toArray) ∧ Hid (Below w.heap.size w wr)) (fun i _ => 128 - (intOf i).toNat)
      case atStart => exact ⟨N, hN, Nat.le_refl _, rfl, hide (fun j h1 h2 => absurd h2 (by omega)), HG, HL1⟩
      case round =>
        obtain ⟨k, hk, hNk, rfl, HQ, HG, HL⟩ := hrel
        clear HB1 HL1 d2
        by_cases hlt : k < 128
        · have hltI : (k : Int) < 128 := by omega
          have cb := HG.out.cell k
          rw [List.getElem?_toArray, bitsL_get _ _ hlt] at cb
          cases hg : a.b k with
          | true =>
            rw [hg] at cb
            have hv : Pf.right 32 ⟨a, (N : Int)⟩ = false := by
              rw [Bool.eq_false_iff]
              intro h
              have := HR.out.1 h k (by simpa using hNk) hlt
              rw [hg] at this; cases this
            have HV := hide hv
            clear hv
            go_wp2
            go_ret
            exact ⟨by rw [HV.out]; rfl, HL.out⟩
          | false =>
            rw [hg] at cb
            have HQ2 : Hid (∀ j, N ≤ j → j < k + 1 → a.b j = false) := hide (fun j h1 h2 => by
              rcases Nat.lt_or_ge j k with h | h
              · exact HQ.out j h1 h
              · rw [show j = k by omega]; exact hg)
            go_wp2
            exact ⟨⟨k + 1, by omega, by omega, rfl, HQ2, HG, HL⟩, by simp only [intOf]; omega⟩
        · have hk128 : k = 128 := by omega
          subst hk128
          have hv : Pf.right 32 ⟨a, (N : Int)⟩ = true := HR.out.2 (fun j h1 h2 => HQ.out j (by simpa using h1) h2)
          have HV := hide hv
          clear hv
          go_wp2
          go_ret
          exact ⟨by rw [HV.out]; rfl, HL.out⟩
    · go_enter Tryd.func13, Tryd.ntmps13
      simp only [Pf.val]
      go_wp2_with fail
      refine (hbits _).mono ?_
      rintro e w1 ⟨g, rfl, hg1, hb1, hl1⟩
      have HB1 := hide (HB.out.below hl1 HB.out.lt)
      have HL1 := hide (HL.out.trans (hl1.mono HL.out.size))
      have HG := hide hb1
      have d2 := HB1.out.cell 2
      simp only [Pf.cs, List.getElem?_toArray, List.getElem?_cons_zero, List.getElem?_cons_succ] at d2
      clear hb1 hl1 c0 c1 c2 hbits HB HL hg1
      go_wp2
      go_loopw [6] (fun i wr => ∃ k : Nat, k ≤ 128 ∧ N ≤ k ∧ i = .int .i64 (k : Int) ∧ Hid (∀ j, N ≤ j → j < k → a.b j = false) ∧ Hid (Blk wr g 4 (bitsL a.b).toArray) ∧ Hid (Below w.heap.size w wr)) (fun i _ => 128 - (intOf i).toNat)
      case atStart => exact ⟨N, hN, Nat.le_refl _, rfl, hide (fun j h1 h2 => absurd h2 (by omega)), HG, HL1⟩
      case round =>
        obtain ⟨k, hk, hNk, rfl, HQ, HG, HL⟩ := hrel
        clear HB1 HL1 d2
        by_cases hlt : k < 128
        · have hltI : (k : Int) < 128 := by omega
          have cb := HG.out.cell k
          rw [List.getElem?_toArray, bitsL_get _ _ hlt] at cb
          cases hg : a.b k with
          | true =>
            rw [hg] at cb
            have hv : Pf.right 128 ⟨a, (N : Int)⟩ = false := by
              rw [Bool.eq_false_iff]
              intro h
              have := HR.out.1 h k (by simpa using hNk) hlt
              rw [hg] at this; cases this
            have HV := hide hv
            clear hv
            go_wp2
            go_ret
            exact ⟨by rw [HV.out]; rfl, HL.out⟩
          | false =>
            rw [hg] at cb
            have HQ2 : Hid (∀ j, N ≤ j → j < k + 1 → a.b j = false) := hide (fun j h1 h2 => by
              rcases Nat.lt_or_ge j k with h | h
              · exact HQ.out j h1 h
              · rw [show j = k by omega]; exact hg)
            go_wp2
            exact ⟨⟨k + 1, by omega, by omega, rfl, HQ2, HG, HL⟩, by simp only [intOf]; omega⟩
        · have hk128 : k = 128 := by omega
          subst hk128
          have hv : Pf.right 128 ⟨a, (N : Int)⟩ = true := HR.out.2 (fun j h1 h2 => HQ.out j (by simpa using h1) h2)
          have HV := hide hv
          clear hv
          go_wp2
          go_ret
          exact ⟨by rw [HV.out]; rfl, HL.out⟩
  · have hv : Pf.right n ⟨a, z⟩ = false := Pf.right_false hf
    rw [hv]
    by_cases h32 : n = 32 ∨ n = 128
    · by_cases h0 : z < 0
      · rcases h32 with rfl | rfl
        all_goals
          go_enter Tryd.func13, Tryd.ntmps13
          simp only [Pf.val]
          go_wp2
          go_ret
          exact ⟨rfl, HL.out⟩
      · rcases h32 with rfl | rfl
        · have h1 : (32 : Int) < z := by
            have : ¬ (0 ≤ z ∧ z ≤ 32) := fun h => hf ⟨rfl, h⟩
            omega
          go_enter Tryd.func13, Tryd.ntmps13
          simp only [Pf.val]
          go_wp2
          go_ret
          exact ⟨rfl, HL.out⟩
        · have h1 : (128 : Int) < z := by
            have : ¬ (0 ≤ z ∧ z ≤ 128) := fun h => hf ⟨rfl, h⟩
            omega
          go_enter Tryd.func13, Tryd.ntmps13
          simp only [Pf.val]
          go_wp2
          go_ret
          exact ⟨rfl, HL.out⟩
    · have h1 : n ≠ 32 := fun h => h32 (.inl h)
      have h2 : n ≠ 128 := fun h => h32 (.inr h)
      clear h32
      go_enter Tryd.func13, Tryd.ntmps13
      simp only [Pf.val]
      go_wp2
      go_ret
      exact ⟨rfl, HL.out⟩
end Go.Proofs.YtaljphjcmkibkaaDoor
