/- The walk of the law WrittenPrefix: it returns true, and below the heap of the call nothing has turned. Conditions: what the library asks of the world. -/
import Derived.Test.YtaljphjcmkibkaaDoorWds
import Derived.Test.YtaljphjcmkibkaaDoorXG
namespace Go.Proofs.YtaljphjcmkibkaaDoor
open Go.RowKit Go.WideShapes Go.ChangeShapes

set_option maxRecDepth 8000 in
set_option maxHeartbeats 3200000 in
theorem writtenPrefix_any (n : Int) (p : Pf) (ha : p.a.Ok) (w : World) (hw : WOK w) : Calls Tryd.prog 4 #[.int .i64 n, p.val] w fun e w' => e = .returned (.bool true) ∧ Below w.heap.size w w' := by
  have HB0 := hide (Blk.new w 36 p.cs)
  have HL0 := hide ((Below.refl w.heap.size w).alloc (Nat.le_refl _) (.cells p.cs 36))
  have c0 := HB0.out.cell 0
  have c1 := HB0.out.cell 1
  have c2 := HB0.out.cell 2
  simp only [Pf.cs, List.getElem?_toArray, List.getElem?_cons_zero, List.getElem?_cons_succ] at c0 c1 c2
  have HW := hide hw
  clear hw
  have h1 := fun w hw => prefix_any n p ha w hw
  have hof := fun w => of_ref_any p w
  have h3 := fun w => refRight_any n p ha w
  have q1 : ∀ w, (binOp .eql 36 (.agg #[.int .u64 (p.a.x : Int), .int .u64 (p.a.y : Int), .int .i64 p.n]) (.agg #[.int .u64 (p.a.x : Int), .int .u64 (p.a.y : Int), .int .i64 p.n])).run Tryd.prog w = .ok (.bool true) w := fun w => by
    have := eqlP p p w
    simpa [Pf.val] using this
  simp only [Pf.val] at h1 hof h3
  by_cases hr : p.right n = true
  · rw [hr] at h3
    have h2 := fun w hw => parsePrefix_any n (prefixS n p) (by have := prefixS_len hr; omega) w hw
    have h4 := fun w => refPrefix_any n p ha hr w
    rw [parseP_write ha hr] at h2
    simp only [Pf.val] at h2 h4
    generalize prefixS n p = s at h1 h2 h4
    have hbb : (s == s) = true := by simp
    simp only [str] at h1 h2 h4
    clear hr
    go_enter Tryd.func4, Tryd.ntmps4
    simp only [Pf.val]
    go_wp2_with fail
    refine (h1 _ (HW.out.later HL0.out)).mono ?_
    rintro e w1 ⟨rfl, hb1⟩
    have HB1 := hide (HB0.out.below hb1 HB0.out.lt)
    have HL1 := hide (HL0.out.trans (hb1.mono HL0.out.size))
    clear HB0 HL0 hb1 h1 c0 c1 c2
    have c0 := HB1.out.cell 0
    have c1 := HB1.out.cell 1
    have c2 := HB1.out.cell 2
    simp only [Pf.cs, List.getElem?_toArray, List.getElem?_cons_zero, List.getElem?_cons_succ] at c0 c1 c2
    go_wp2_with fail
    refine (hof _).mono ?_
    rintro e w2 ⟨rfl, hb1⟩
    have HB2 := hide (HB1.out.below hb1 HB1.out.lt)
    have HL2 := hide (HL1.out.trans (hb1.mono HL1.out.size))
    clear HB1 HL1 hb1 c0 c1 c2
    go_wp2_with fail
    refine (h3 _).mono ?_
    rintro e w3 ⟨rfl, hb1⟩
    have HB3 := hide (HB2.out.below hb1 HB2.out.lt)
    have HL3 := hide (HL2.out.trans (hb1.mono HL2.out.size))
    clear HB2 HL2 hb1 h3
    go_wp2_with fail
    refine (h2 _ (HW.out.later HL3.out)).mono ?_
    rintro e w4 ⟨rfl, hb1⟩
    have hA := ((Below.refl w4.heap.size w4).alloc (Nat.le_refl _) (.cells p.cs 36))
    have hb3 := hb1.trans (hA.mono hb1.size)
    have HL4 := hide (HL3.out.trans (hb3.mono HL3.out.size))
    have HB4 := hide (HB3.out.below hb3 HB3.out.lt)
    have HC4 := hide (Blk.new w4 36 p.cs)
    clear hb1 hb3 hA HL3 HB3 h2
    have c0 := HB4.out.cell 0
    have c1 := HB4.out.cell 1
    have c2 := HB4.out.cell 2
    simp only [Pf.cs, List.getElem?_toArray, List.getElem?_cons_zero, List.getElem?_cons_succ] at c0 c1 c2
    go_wp2_with fail
    refine (hof _).mono ?_
    rintro e w5 ⟨rfl, hb1⟩
    have HL5 := hide (HL4.out.trans (hb1.mono HL4.out.size))
    have HB5 := hide (HB4.out.below hb1 HB4.out.lt)
    have HC5 := hide (HC4.out.below hb1 HC4.out.lt)
    clear hb1 HL4 HB4 HC4 c0 c1 c2
    go_wp2_with fail
    refine (h4 _).mono ?_
    rintro e w6 ⟨rfl, hb1⟩
    have HL6 := hide (HL5.out.trans (hb1.mono HL5.out.size))
    have HB6 := hide (HB5.out.below hb1 HB5.out.lt)
    have HC6 := hide (HC5.out.below hb1 HC5.out.lt)
    clear hb1 HL5 HB5 HC5 h4
    have c0 := HB6.out.cell 0
    have c1 := HB6.out.cell 1
    have c2 := HB6.out.cell 2
    simp only [Pf.cs, List.getElem?_toArray, List.getElem?_cons_zero, List.getElem?_cons_succ] at c0 c1 c2
    have d0 := HC6.out.cell 0
    have d1 := HC6.out.cell 1
    have d2 := HC6.out.cell 2
    simp only [Pf.cs, List.getElem?_toArray, List.getElem?_cons_zero, List.getElem?_cons_succ] at d0 d1 d2
    go_wp2_with fail
    refine (awake_any _ (HW.out.later HL6.out)).mono ?_
    rintro e w9 ⟨rfl, hb9⟩
    go_wp2
    go_ret
    exact ⟨rfl, HL6.out.trans (hb9.mono HL6.out.size)⟩
  · have hr : p.right n = false := by simpa using hr
    rw [hr] at h3
    have hs : prefixS n p = [] := by rw [prefixS, if_pos hr]
    rw [hs] at h1
    simp only [str] at h1
    clear hs hr
    go_enter Tryd.func4, Tryd.ntmps4
    simp only [Pf.val]
    go_wp2_with fail
    refine (h1 _ (HW.out.later HL0.out)).mono ?_
    rintro e w1 ⟨rfl, hb1⟩
    have HB1 := hide (HB0.out.below hb1 HB0.out.lt)
    have HL1 := hide (HL0.out.trans (hb1.mono HL0.out.size))
    clear HB0 HL0 hb1 h1 c0 c1 c2
    have c0 := HB1.out.cell 0
    have c1 := HB1.out.cell 1
    have c2 := HB1.out.cell 2
    simp only [Pf.cs, List.getElem?_toArray, List.getElem?_cons_zero, List.getElem?_cons_succ] at c0 c1 c2
    go_wp2_with fail
    refine (hof _).mono ?_
    rintro e w2 ⟨rfl, hb1⟩
    have HB2 := hide (HB1.out.below hb1 HB1.out.lt)
    have HL2 := hide (HL1.out.trans (hb1.mono HL1.out.size))
    clear HB1 HL1 hb1 c0 c1 c2
    go_wp2_with fail
    refine (h3 _).mono ?_
    rintro e w3 ⟨rfl, hb1⟩
    have HB3 := hide (HB2.out.below hb1 HB2.out.lt)
    have HL3 := hide (HL2.out.trans (hb1.mono HL2.out.size))
    clear HB2 HL2 hb1 h3
    go_wp2_with fail
    refine (awake_any _ (HW.out.later HL3.out)).mono ?_
    rintro e w9 ⟨rfl, hb9⟩
    go_wp2
    go_ret
    exact ⟨rfl, HL3.out.trans (hb9.mono HL3.out.size)⟩
end Go.Proofs.YtaljphjcmkibkaaDoor
