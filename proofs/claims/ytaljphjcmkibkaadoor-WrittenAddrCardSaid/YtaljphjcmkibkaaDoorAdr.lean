/- The walk of the law WrittenAddr: it returns true, and below the heap of the call nothing has turned. Conditions: what the library asks of the world. -/
import Derived.Test.YtaljphjcmkibkaaDoorXG
namespace Go.Proofs.YtaljphjcmkibkaaDoor
open Go.RowKit Go.WideShapes Go.ChangeShapes

theorem right_self {n : Int} {a : Ad} (ha : a.Ok) (hf : fam n = true) : Pf.right n ⟨a, n⟩ = a.of n := by
  have hn := fam_le hf
  rw [Bool.eq_iff_iff, right_bits ha, of_bits ha]
  constructor
  · rintro ⟨_, _, _, h⟩; exact ⟨hf, h⟩
  · rintro ⟨_, h⟩; exact ⟨hf, by simp only; omega, by simp only; omega, h⟩
theorem of_not_fam {n : Int} {a : Ad} (h : fam n = false) : a.of n = false := by rw [Ad.of, h]; rfl
theorem parseA_nil32 : parseA 32 [] = (⟨0, 0⟩, 4) := by decide +kernel
theorem parseA_nil128 : parseA 128 [] = (⟨0, 0⟩, 4) := by decide +kernel

set_option maxRecDepth 8000 in
set_option maxHeartbeats 3200000 in
theorem writtenAddr_any (n : Int) (a : Ad) (ha : a.Ok) (w : World) (hw : WOK w) : Calls Tryd.prog 3 #[.int .i64 n, a.val] w fun e w' => e = .returned (.bool true) ∧ Below w.heap.size w w' := by
  have HB0 := hide (Blk.new w 24 a.cs)
  have HL0 := hide ((Below.refl w.heap.size w).alloc (Nat.le_refl _) (.cells a.cs 24))
  have c0 := HB0.out.cell 0
  have c1 := HB0.out.cell 1
  simp only [Ad.cs, List.getElem?_toArray, List.getElem?_cons_zero, List.getElem?_cons_succ] at c0 c1
  have HW := hide hw
  clear hw
  have h1 := fun w hw => addr_any n a ha w hw
  have q0 : ∀ w, (binOp .eql 24 (.agg #[.int .u64 0, .int .u64 0]) (.agg #[.int .u64 0, .int .u64 0])).run Tryd.prog w = .ok (.bool true) w := fun w => by
    have := eqlA ⟨0, 0⟩ ⟨0, 0⟩ w
    simpa [Ad.val] using this
  have q1 : ∀ w, (binOp .eql 24 (.agg #[.int .u64 (a.x : Int), .int .u64 (a.y : Int)]) (.agg #[.int .u64 (a.x : Int), .int .u64 (a.y : Int)])).run Tryd.prog w = .ok (.bool true) w := fun w => by
    have := eqlA a a w
    simpa [Ad.val] using this
  simp only [Ad.val] at h1
  by_cases hf : fam n = true
  · have h3 := fun w => refRight_any n ⟨a, n⟩ ha w
    rw [right_self ha hf] at h3
    simp only [Pf.val] at h3
    by_cases hof : a.of n = true
    · rw [hof] at h3
      have h2 := fun w hw => parseAddr_any n (addrS n a) (by have := addrS_len n a; omega) w hw
      have h4 := fun w => refAddr_any n a ha hof w
      rw [parse_write ha hof] at h2
      simp only [Ad.val] at h2 h4
      generalize addrS n a = s at h1 h2 h4
      have hbb : (s == s) = true := by simp
      simp only [str] at h1 h2 h4
      clear hof
      rcases fam_le hf with rfl | rfl
      · clear hf
        go_enter Tryd.func3, Tryd.ntmps3
        simp only [Ad.val]
        go_wp2_with fail
        refine (h1 _ (HW.out.later HL0.out)).mono ?_
        rintro e w1 ⟨rfl, hb1⟩
        have HB1 := hide (HB0.out.below hb1 HB0.out.lt)
        have HL1 := hide (HL0.out.trans (hb1.mono HL0.out.size))
        clear HB0 HL0 hb1 h1 c0 c1
        go_wp2_with fail
        refine (h2 _ (HW.out.later HL1.out)).mono ?_
        rintro e w2 ⟨rfl, hb1⟩
        have hA := ((Below.refl w2.heap.size w2).alloc (Nat.le_refl _) (.cells a.cs 24))
        have hb3 := hb1.trans (hA.mono hb1.size)
        have HL2 := hide (HL1.out.trans (hb3.mono HL1.out.size))
        have HB2 := hide (HB1.out.below hb3 HB1.out.lt)
        have HC2 := hide (Blk.new w2 24 a.cs)
        clear hb1 hb3 hA HL1 HB1 h2
        have c0 := HB2.out.cell 0
        have c1 := HB2.out.cell 1
        simp only [Ad.cs, List.getElem?_toArray, List.getElem?_cons_zero, List.getElem?_cons_succ] at c0 c1
        go_wp2_with fail
        refine (h3 _).mono ?_
        rintro e w3 ⟨rfl, hb1⟩
        have HL3 := hide (HL2.out.trans (hb1.mono HL2.out.size))
        have HB3 := hide (HB2.out.below hb1 HB2.out.lt)
        have HC3 := hide (HC2.out.below hb1 HC2.out.lt)
        clear hb1 HL2 HB2 HC2 h3 c0 c1
        have c0 := HB3.out.cell 0
        have c1 := HB3.out.cell 1
        simp only [Ad.cs, List.getElem?_toArray, List.getElem?_cons_zero, List.getElem?_cons_succ] at c0 c1
        go_wp2_with fail
        refine (h4 _).mono ?_
        rintro e w4 ⟨rfl, hb1⟩
        have HL4 := hide (HL3.out.trans (hb1.mono HL3.out.size))
        have HB4 := hide (HB3.out.below hb1 HB3.out.lt)
        have HC4 := hide (HC3.out.below hb1 HC3.out.lt)
        clear hb1 HL3 HB3 HC3 h4 c0 c1
        have c0 := HB4.out.cell 0
        have c1 := HB4.out.cell 1
        simp only [Ad.cs, List.getElem?_toArray, List.getElem?_cons_zero, List.getElem?_cons_succ] at c0 c1
        have d0 := HC4.out.cell 0
        have d1 := HC4.out.cell 1
        simp only [Ad.cs, List.getElem?_toArray, List.getElem?_cons_zero, List.getElem?_cons_succ] at d0 d1
        go_wp2_with fail
        refine (awake_any _ (HW.out.later HL4.out)).mono ?_
        rintro e w9 ⟨rfl, hb9⟩
        go_wp2
        go_ret
        exact ⟨rfl, HL4.out.trans (hb9.mono HL4.out.size)⟩
      · clear hf
        go_enter Tryd.func3, Tryd.ntmps3
        simp only [Ad.val]
        go_wp2_with fail
        refine (h1 _ (HW.out.later HL0.out)).mono ?_
        rintro e w1 ⟨rfl, hb1⟩
        have HB1 := hide (HB0.out.below hb1 HB0.out.lt)
        have HL1 := hide (HL0.out.trans (hb1.mono HL0.out.size))
        clear HB0 HL0 hb1 h1 c0 c1
        go_wp2_with fail
        refine (h2 _ (HW.out.later HL1.out)).mono ?_
        rintro e w2 ⟨rfl, hb1⟩
        have hA := ((Below.refl w2.heap.size w2).alloc (Nat.le_refl _) (.cells a.cs 24))
        have hb3 := hb1.trans (hA.mono hb1.size)
        have HL2 := hide (HL1.out.trans (hb3.mono HL1.out.size))
        have HB2 := hide (HB1.out.below hb3 HB1.out.lt)
        have HC2 := hide (Blk.new w2 24 a.cs)
        clear hb1 hb3 hA HL1 HB1 h2
        have c0 := HB2.out.cell 0
        have c1 := HB2.out.cell 1
        simp only [Ad.cs, List.getElem?_toArray, List.getElem?_cons_zero, List.getElem?_cons_succ] at c0 c1
        go_wp2_with fail
        refine (h3 _).mono ?_
        rintro e w3 ⟨rfl, hb1⟩
        have HL3 := hide (HL2.out.trans (hb1.mono HL2.out.size))
        have HB3 := hide (HB2.out.below hb1 HB2.out.lt)
        have HC3 := hide (HC2.out.below hb1 HC2.out.lt)
        clear hb1 HL2 HB2 HC2 h3 c0 c1
        have c0 := HB3.out.cell 0
        have c1 := HB3.out.cell 1
        simp only [Ad.cs, List.getElem?_toArray, List.getElem?_cons_zero, List.getElem?_cons_succ] at c0 c1
        go_wp2_with fail
        refine (h4 _).mono ?_
        rintro e w4 ⟨rfl, hb1⟩
        have HL4 := hide (HL3.out.trans (hb1.mono HL3.out.size))
        have HB4 := hide (HB3.out.below hb1 HB3.out.lt)
        have HC4 := hide (HC3.out.below hb1 HC3.out.lt)
        clear hb1 HL3 HB3 HC3 h4 c0 c1
        have c0 := HB4.out.cell 0
        have c1 := HB4.out.cell 1
        simp only [Ad.cs, List.getElem?_toArray, List.getElem?_cons_zero, List.getElem?_cons_succ] at c0 c1
        have d0 := HC4.out.cell 0
        have d1 := HC4.out.cell 1
        simp only [Ad.cs, List.getElem?_toArray, List.getElem?_cons_zero, List.getElem?_cons_succ] at d0 d1
        go_wp2_with fail
        refine (awake_any _ (HW.out.later HL4.out)).mono ?_
        rintro e w9 ⟨rfl, hb9⟩
        go_wp2
        go_ret
        exact ⟨rfl, HL4.out.trans (hb9.mono HL4.out.size)⟩
    · have hof : a.of n = false := by simpa using hof
      rw [hof] at h3
      have hs : addrS n a = [] := by rw [addrS, if_pos hof]
      rw [hs] at h1
      have h2 := fun w hw => parseAddr_any n [] (by simp) w hw
      simp only [str] at h1 h2
      clear hof hs
      rcases fam_le hf with rfl | rfl
      · rw [parseA_nil32] at h2
        simp only [Ad.val] at h2
        clear hf
        go_enter Tryd.func3, Tryd.ntmps3
        simp only [Ad.val]
        go_wp2_with fail
        refine (h1 _ (HW.out.later HL0.out)).mono ?_
        rintro e w1 ⟨rfl, hb1⟩
        have HB1 := hide (HB0.out.below hb1 HB0.out.lt)
        have HL1 := hide (HL0.out.trans (hb1.mono HL0.out.size))
        clear HB0 HL0 hb1 h1 c0 c1
        go_wp2_with fail
        refine (h2 _ (HW.out.later HL1.out)).mono ?_
        rintro e w2 ⟨rfl, hb1⟩
        have hA := ((Below.refl w2.heap.size w2).alloc (Nat.le_refl _) (.cells #[.int .u64 0, .int .u64 0] 24))
        have hb3 := hb1.trans (hA.mono hb1.size)
        have HL2 := hide (HL1.out.trans (hb3.mono HL1.out.size))
        have HB2 := hide (HB1.out.below hb3 HB1.out.lt)
        have HC2 := hide (Blk.new w2 24 #[.int .u64 0, .int .u64 0])
        clear hb1 hb3 hA HL1 HB1 h2
        have c0 := HB2.out.cell 0
        have c1 := HB2.out.cell 1
        simp only [Ad.cs, List.getElem?_toArray, List.getElem?_cons_zero, List.getElem?_cons_succ] at c0 c1
        go_wp2_with fail
        refine (h3 _).mono ?_
        rintro e w3 ⟨rfl, hb1⟩
        have HL3 := hide (HL2.out.trans (hb1.mono HL2.out.size))
        have HB3 := hide (HB2.out.below hb1 HB2.out.lt)
        have HC3 := hide (HC2.out.below hb1 HC2.out.lt)
        clear hb1 HL2 HB2 HC2 h3 c0 c1
        have d0 := HC3.out.cell 0
        have d1 := HC3.out.cell 1
        simp only [Ad.cs, List.getElem?_toArray, List.getElem?_cons_zero, List.getElem?_cons_succ] at d0 d1
        go_wp2_with fail
        refine (awake_any _ (HW.out.later HL3.out)).mono ?_
        rintro e w9 ⟨rfl, hb9⟩
        go_wp2
        go_ret
        exact ⟨rfl, HL3.out.trans (hb9.mono HL3.out.size)⟩
      · rw [parseA_nil128] at h2
        simp only [Ad.val] at h2
        clear hf
        go_enter Tryd.func3, Tryd.ntmps3
        simp only [Ad.val]
        go_wp2_with fail
        refine (h1 _ (HW.out.later HL0.out)).mono ?_
        rintro e w1 ⟨rfl, hb1⟩
        have HB1 := hide (HB0.out.below hb1 HB0.out.lt)
        have HL1 := hide (HL0.out.trans (hb1.mono HL0.out.size))
        clear HB0 HL0 hb1 h1 c0 c1
        go_wp2_with fail
        refine (h2 _ (HW.out.later HL1.out)).mono ?_
        rintro e w2 ⟨rfl, hb1⟩
        have hA := ((Below.refl w2.heap.size w2).alloc (Nat.le_refl _) (.cells #[.int .u64 0, .int .u64 0] 24))
        have hb3 := hb1.trans (hA.mono hb1.size)
        have HL2 := hide (HL1.out.trans (hb3.mono HL1.out.size))
        have HB2 := hide (HB1.out.below hb3 HB1.out.lt)
        have HC2 := hide (Blk.new w2 24 #[.int .u64 0, .int .u64 0])
        clear hb1 hb3 hA HL1 HB1 h2
        have c0 := HB2.out.cell 0
        have c1 := HB2.out.cell 1
        simp only [Ad.cs, List.getElem?_toArray, List.getElem?_cons_zero, List.getElem?_cons_succ] at c0 c1
        go_wp2_with fail
        refine (h3 _).mono ?_
        rintro e w3 ⟨rfl, hb1⟩
        have HL3 := hide (HL2.out.trans (hb1.mono HL2.out.size))
        have HB3 := hide (HB2.out.below hb1 HB2.out.lt)
        have HC3 := hide (HC2.out.below hb1 HC2.out.lt)
        clear hb1 HL2 HB2 HC2 h3 c0 c1
        have d0 := HC3.out.cell 0
        have d1 := HC3.out.cell 1
        simp only [Ad.cs, List.getElem?_toArray, List.getElem?_cons_zero, List.getElem?_cons_succ] at d0 d1
        go_wp2_with fail
        refine (awake_any _ (HW.out.later HL3.out)).mono ?_
        rintro e w9 ⟨rfl, hb9⟩
        go_wp2
        go_ret
        exact ⟨rfl, HL3.out.trans (hb9.mono HL3.out.size)⟩
  · have hf : fam n = false := by simpa using hf
    have hs : addrS n a = [] := by rw [addrS, if_pos (of_not_fam hf)]
    rw [hs] at h1
    have h2 := fun w hw => parseAddr_any n [] (by simp) w hw
    have hne : ¬ (n = 32) ∧ ¬ (n = 128) := by
      simp [fam] at hf
      exact hf
    rw [show parseA n [] = (⟨0, 0⟩, 1) by rw [parseA, if_neg hne.1, if_neg hne.2]] at h2
    simp only [str, Ad.val] at h1 h2
    have b1 : (n != 32) = true := by simpa using hne.1
    have b2 : (n != 128) = true := by simpa using hne.2
    have b3 : (n != 32 && n != 128) = true := by simp [b1, b2]
    clear hf hs hne
    go_enter Tryd.func3, Tryd.ntmps3
    simp only [Ad.val]
    go_wp2_with fail
    refine (h1 _ (HW.out.later HL0.out)).mono ?_
    rintro e w1 ⟨rfl, hb1⟩
    have HB1 := hide (HB0.out.below hb1 HB0.out.lt)
    have HL1 := hide (HL0.out.trans (hb1.mono HL0.out.size))
    clear HB0 HL0 hb1 h1 c0 c1
    go_wp2_with fail
    refine (h2 _ (HW.out.later HL1.out)).mono ?_
    rintro e w2 ⟨rfl, hb1⟩
    have hA := ((Below.refl w2.heap.size w2).alloc (Nat.le_refl _) (.cells #[.int .u64 0, .int .u64 0] 24))
    have hb3 := hb1.trans (hA.mono hb1.size)
    have HL2 := hide (HL1.out.trans (hb3.mono HL1.out.size))
    have HB2 := hide (HB1.out.below hb3 HB1.out.lt)
    have HC2 := hide (Blk.new w2 24 #[.int .u64 0, .int .u64 0])
    clear hb1 hb3 hA HL1 HB1 h2
    have d0 := HC2.out.cell 0
    have d1 := HC2.out.cell 1
    simp only [Ad.cs, List.getElem?_toArray, List.getElem?_cons_zero, List.getElem?_cons_succ] at d0 d1
    go_wp2_with fail
    · refine (awake_any _ (HW.out.later HL2.out)).mono ?_
      rintro e w9 ⟨rfl, hb9⟩
      go_wp2
      go_ret
      exact ⟨rfl, HL2.out.trans (hb9.mono HL2.out.size)⟩
    all_goals (rename_i hc; exact absurd b3 (by simpa using hc))
end Go.Proofs.YtaljphjcmkibkaaDoor
