/- The walk of the law WrittenOnly: it returns true, and below the heap of the call nothing has turned. Conditions: what the library asks of the world. -/
import Derived.Test.YtaljphjcmkibkaaDoorWW
namespace Go.Proofs.YtaljphjcmkibkaaDoor
open Go.RowKit Go.WideShapes Go.ChangeShapes

theorem parseP_ok (n : Int) (l : List UInt8) : (parseP n l).1.a.Ok := by
  have h0 : zeroP.a.Ok := ⟨by decide, by decide⟩
  unfold parseP
  split
  · exact h0
  · split
    · exact h0
    · split
      · exact h0
      · exact parseA_ok _ _

set_option maxRecDepth 8000 in
set_option maxHeartbeats 1600000 in
theorem writtenOnly_any (l : List UInt8) (n : Int) (w : World) (hw : WOK w) : Calls Tryd.prog 6 #[.int .i64 n, str l] w fun e w' => e = .returned (.bool true) ∧ Below w.heap.size w w' := by
  have hlen := run_len l
  have hbb : (l == l) = true := by simp
  by_cases h200 : 200 < l.length
  · have hI : (200 : Int) < (l.length : Int) := by omega
    go_enter Tryd.func6, Tryd.ntmps6
    simp only [str]
    go_wp2_with (go_at_call 12; refine (awake_any _ hw).mono ?_; rintro e w1 ⟨rfl, hb⟩)
    go_ret
    exact ⟨rfl, hb⟩
  · have hI : ¬ (200 : Int) < (l.length : Int) := by omega
    have h1 := fun w hw => parsePrefix_any n l (by omega) w hw
    have h2 := fun w hw => parseAddr_any n l (by omega) w hw
    have k1 := fun (h : (parseP n l).2 = 0) => (write_parseP (Prod.ext (x := parseP n l) (y := ((parseP n l).1, 0)) rfl h)).1
    have k2 := fun (h : (parseA n l).2 = 0) => (write_parse (Prod.ext (x := parseA n l) (y := ((parseA n l).1, 0)) rfl h)).1
    have o1 := parseP_ok n l
    have o2 := parseA_ok n l
    generalize parseP n l = P at h1 k1 o1
    generalize parseA n l = A at h2 k2 o2
    obtain ⟨⟨⟨x, y⟩, z⟩, f⟩ := P
    obtain ⟨⟨u, v⟩, g⟩ := A
    simp only at k1 k2 o1 o2
    have h3 := fun w hw => prefix_any n ⟨⟨x, y⟩, z⟩ o1 w hw
    have h4 := fun w hw => addr_any n ⟨u, v⟩ o2 w hw
    simp only [str, Pf.val, Ad.val] at h1 h2 h3 h4
    have HW := hide hw
    clear hw
    by_cases hf : f = 0
    · rw [k1 hf] at h3
      clear k1
      subst hf
      by_cases hg : g = 0
      · rw [k2 hg] at h4
        clear k2
        subst hg
        go_enter Tryd.func6, Tryd.ntmps6
        simp only [str]
        go_wp2_with fail
        refine (h1 w HW.out).mono ?_
        rintro e w1 ⟨rfl, hb1⟩
        have hA := ((Below.refl w1.heap.size w1).alloc (Nat.le_refl _) (.cells (Pf.mk ⟨x, y⟩ z).cs 36))
        have HL1 := hide (hb1.trans (hA.mono hb1.size))
        have HW1 := hide (HW.out.later HL1.out)
        have HB1 := hide (Blk.new w1 36 (Pf.mk ⟨x, y⟩ z).cs)
        clear hb1 HW hA h1
        go_wp2_with fail
        refine (h2 _ HW1.out).mono ?_
        rintro e w2 ⟨rfl, hb2⟩
        have hA := ((Below.refl w2.heap.size w2).alloc (Nat.le_refl _) (.cells (Ad.mk u v).cs 24))
        have hb3 := hb2.trans (hA.mono hb2.size)
        have HL2 := hide (HL1.out.trans (hb3.mono HL1.out.size))
        have HW2 := hide (HW1.out.later hb3)
        have HB2 := hide (HB1.out.below hb3 HB1.out.lt)
        have HC2 := hide (Blk.new w2 24 (Ad.mk u v).cs)
        clear hb2 hb3 HW1 hA HL1 HB1 h2
        have c0 := HB2.out.cell 0
        have c1 := HB2.out.cell 1
        have c2 := HB2.out.cell 2
        simp only [Pf.cs, Ad.cs, List.getElem?_toArray, List.getElem?_cons_zero, List.getElem?_cons_succ] at c0 c1 c2
        go_wp2_with fail
        refine (h3 _ HW2.out).mono ?_
        rintro e w3 ⟨rfl, hb3⟩
        have HL3 := hide (HL2.out.trans (hb3.mono HL2.out.size))
        have HW3 := hide (HW2.out.later hb3)
        have HC3 := hide (HC2.out.below hb3 HC2.out.lt)
        clear hb3 HW2 HL2 HB2 HC2 h3 c0 c1 c2
        have c0 := HC3.out.cell 0
        have c1 := HC3.out.cell 1
        simp only [Pf.cs, Ad.cs, List.getElem?_toArray, List.getElem?_cons_zero, List.getElem?_cons_succ] at c0 c1
        go_wp2_with fail
        refine (h4 _ HW3.out).mono ?_
        rintro e w4 ⟨rfl, hb3⟩
        have HL4 := hide (HL3.out.trans (hb3.mono HL3.out.size))
        have HW4 := hide (HW3.out.later hb3)
        clear hb3 HW3 HL3 h4 c0 c1
        go_wp2_with fail
        refine (awake_any _ HW4.out).mono ?_
        rintro e w5 ⟨rfl, hb5⟩
        have HL5 := hide (HL4.out.trans (hb5.mono HL4.out.size))
        clear hb5 HL4
        go_wp2
        go_ret
        exact ⟨rfl, HL5.out⟩
      · clear k2
        go_enter Tryd.func6, Tryd.ntmps6
        simp only [str]
        go_wp2_with fail
        refine (h1 w HW.out).mono ?_
        rintro e w1 ⟨rfl, hb1⟩
        have hA := ((Below.refl w1.heap.size w1).alloc (Nat.le_refl _) (.cells (Pf.mk ⟨x, y⟩ z).cs 36))
        have HL1 := hide (hb1.trans (hA.mono hb1.size))
        have HW1 := hide (HW.out.later HL1.out)
        have HB1 := hide (Blk.new w1 36 (Pf.mk ⟨x, y⟩ z).cs)
        clear hb1 HW hA h1
        go_wp2_with fail
        refine (h2 _ HW1.out).mono ?_
        rintro e w2 ⟨rfl, hb2⟩
        have hA := ((Below.refl w2.heap.size w2).alloc (Nat.le_refl _) (.cells (Ad.mk u v).cs 24))
        have hb3 := hb2.trans (hA.mono hb2.size)
        have HL2 := hide (HL1.out.trans (hb3.mono HL1.out.size))
        have HW2 := hide (HW1.out.later hb3)
        have HB2 := hide (HB1.out.below hb3 HB1.out.lt)
        have HC2 := hide (Blk.new w2 24 (Ad.mk u v).cs)
        clear hb2 hb3 HW1 hA HL1 HB1 h2
        have c0 := HB2.out.cell 0
        have c1 := HB2.out.cell 1
        have c2 := HB2.out.cell 2
        simp only [Pf.cs, Ad.cs, List.getElem?_toArray, List.getElem?_cons_zero, List.getElem?_cons_succ] at c0 c1 c2
        go_wp2_with fail
        refine (h3 _ HW2.out).mono ?_
        rintro e w3 ⟨rfl, hb3⟩
        have HL3 := hide (HL2.out.trans (hb3.mono HL2.out.size))
        have HW3 := hide (HW2.out.later hb3)
        have HC3 := hide (HC2.out.below hb3 HC2.out.lt)
        clear hb3 HW2 HL2 HB2 HC2 h3 c0 c1 c2
        go_wp2_with fail
        refine (awake_any _ HW3.out).mono ?_
        rintro e w5 ⟨rfl, hb5⟩
        have HL5 := hide (HL3.out.trans (hb5.mono HL3.out.size))
        clear hb5 HL3
        go_wp2
        go_ret
        exact ⟨rfl, HL5.out⟩
    · clear k1
      by_cases hg : g = 0
      · rw [k2 hg] at h4
        clear k2
        subst hg
        go_enter Tryd.func6, Tryd.ntmps6
        simp only [str]
        go_wp2_with fail
        refine (h1 w HW.out).mono ?_
        rintro e w1 ⟨rfl, hb1⟩
        have hA := ((Below.refl w1.heap.size w1).alloc (Nat.le_refl _) (.cells (Pf.mk ⟨x, y⟩ z).cs 36))
        have HL1 := hide (hb1.trans (hA.mono hb1.size))
        have HW1 := hide (HW.out.later HL1.out)
        have HB1 := hide (Blk.new w1 36 (Pf.mk ⟨x, y⟩ z).cs)
        clear hb1 HW hA h1
        go_wp2_with fail
        refine (h2 _ HW1.out).mono ?_
        rintro e w2 ⟨rfl, hb2⟩
        have hA := ((Below.refl w2.heap.size w2).alloc (Nat.le_refl _) (.cells (Ad.mk u v).cs 24))
        have hb3 := hb2.trans (hA.mono hb2.size)
        have HL2 := hide (HL1.out.trans (hb3.mono HL1.out.size))
        have HW2 := hide (HW1.out.later hb3)
        have HB2 := hide (HB1.out.below hb3 HB1.out.lt)
        have HC2 := hide (Blk.new w2 24 (Ad.mk u v).cs)
        clear hb2 hb3 HW1 hA HL1 HB1 h2
        have c0 := HC2.out.cell 0
        have c1 := HC2.out.cell 1
        simp only [Pf.cs, Ad.cs, List.getElem?_toArray, List.getElem?_cons_zero, List.getElem?_cons_succ] at c0 c1
        go_wp2_with fail
        refine (h4 _ HW2.out).mono ?_
        rintro e w4 ⟨rfl, hb3⟩
        have HL4 := hide (HL2.out.trans (hb3.mono HL2.out.size))
        have HW4 := hide (HW2.out.later hb3)
        clear hb3 HW2 HL2 h4 c0 c1
        go_wp2_with fail
        refine (awake_any _ HW4.out).mono ?_
        rintro e w5 ⟨rfl, hb5⟩
        have HL5 := hide (HL4.out.trans (hb5.mono HL4.out.size))
        clear hb5 HL4
        go_wp2
        go_ret
        exact ⟨rfl, HL5.out⟩
      · clear k2
        go_enter Tryd.func6, Tryd.ntmps6
        simp only [str]
        go_wp2_with fail
        refine (h1 w HW.out).mono ?_
        rintro e w1 ⟨rfl, hb1⟩
        have hA := ((Below.refl w1.heap.size w1).alloc (Nat.le_refl _) (.cells (Pf.mk ⟨x, y⟩ z).cs 36))
        have HL1 := hide (hb1.trans (hA.mono hb1.size))
        have HW1 := hide (HW.out.later HL1.out)
        have HB1 := hide (Blk.new w1 36 (Pf.mk ⟨x, y⟩ z).cs)
        clear hb1 HW hA h1
        go_wp2_with fail
        refine (h2 _ HW1.out).mono ?_
        rintro e w2 ⟨rfl, hb2⟩
        have hA := ((Below.refl w2.heap.size w2).alloc (Nat.le_refl _) (.cells (Ad.mk u v).cs 24))
        have hb3 := hb2.trans (hA.mono hb2.size)
        have HL2 := hide (HL1.out.trans (hb3.mono HL1.out.size))
        have HW2 := hide (HW1.out.later hb3)
        have HB2 := hide (HB1.out.below hb3 HB1.out.lt)
        have HC2 := hide (Blk.new w2 24 (Ad.mk u v).cs)
        clear hb2 hb3 HW1 hA HL1 HB1 h2
        go_wp2_with fail
        refine (awake_any _ HW2.out).mono ?_
        rintro e w5 ⟨rfl, hb5⟩
        have HL5 := hide (HL2.out.trans (hb5.mono HL2.out.size))
        clear hb5 HL2
        go_wp2
        go_ret
        exact ⟨rfl, HL5.out⟩
end Go.Proofs.YtaljphjcmkibkaaDoor
