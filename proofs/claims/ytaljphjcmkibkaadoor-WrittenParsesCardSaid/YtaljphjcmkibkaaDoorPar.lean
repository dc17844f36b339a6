/- The walk of the law WrittenParses: it returns true, and below the heap of the call nothing has turned. Conditions: what the library asks of the world. -/
import Derived.Test.YtaljphjcmkibkaaDoorOnl
import Derived.Test.YtaljphjcmkibkaaDoorXG
namespace Go.Proofs.YtaljphjcmkibkaaDoor
open Go.RowKit Go.WideShapes Go.ChangeShapes

theorem foldF_errs (rd : List UInt8 → Nat × Bool) (wide : Nat) : ∀ (r : List (List UInt8)) (k : Nat) (a : Ad), (foldF rd wide k a r).2 = 0 ∨ (foldF rd wide k a r).2 = 4 := by
  intro r k a
  by_cases h : (foldF rd wide k a r).2 = 0
  · exact .inl h
  · rw [foldF_four rd wide r k a h]; exact .inr rfl
theorem parseA_errs (n : Int) (l : List UInt8) : (parseA n l).2 = 0 ∨ (parseA n l).2 = 4 ∨ (parseA n l).2 = 1 := by
  unfold parseA
  split
  · unfold fieldsV
    split
    · rcases foldF_errs rd4 8 (splitL 46 l) 0 ⟨0, 0⟩ with h | h
      · exact .inl h
      · exact .inr (.inl h)
    · exact .inr (.inl rfl)
  · split
    · unfold fieldsV
      split
      · rcases foldF_errs digits 16 (splitL 58 l) 0 ⟨0, 0⟩ with h | h
        · exact .inl h
        · exact .inr (.inl h)
      · exact .inr (.inl rfl)
    · exact .inr (.inr rfl)
theorem parseP_errs (n : Int) (l : List UInt8) : (parseP n l).2 = 0 ∨ (parseP n l).2 = 4 ∨ (parseP n l).2 = 1 := by
  unfold parseP
  split
  · exact parseA_errs _ _
  · split
    · exact .inr (.inl rfl)
    · split
      · exact .inr (.inr rfl)
      · exact .inl rfl

set_option maxRecDepth 8000 in
set_option maxHeartbeats 3200000 in
theorem writtenParses_any (n : Int) (l : List UInt8) (w : World) (hw : WOK w) : Calls Tryd.prog 5 #[.int .i64 n, str l] w fun e w' => e = .returned (.bool true) ∧ Below w.heap.size w w' := by
  have hlen := run_len l
  have HW := hide hw
  have HL0 := hide (Below.refl w.heap.size w)
  by_cases h200 : 200 < l.length
  · have hI : (200 : Int) < (l.length : Int) := by omega
    go_enter Tryd.func5, Tryd.ntmps5
    simp only [str]
    go_wp2_with (go_at_call 12; refine (awake_any _ hw).mono ?_; rintro e w1 ⟨rfl, hb⟩)
    go_ret
    exact ⟨rfl, hb⟩
  · have hI : ¬ (200 : Int) < (l.length : Int) := by omega
    have h1 := fun w hw => parseAddr_any n l (by omega) w hw
    have h2 := fun w => refParseAddr_any n l (by omega) w
    have h3 := fun w hw => parsePrefix_any n l (by omega) w hw
    have h4 := fun w => refParsePrefix_any n l (by omega) w
    have s1 := parseA_errs n l
    have s2 := parseP_errs n l
    generalize parseA n l = A at h1 h2 s1
    generalize parseP n l = P at h3 h4 s2
    obtain ⟨a, e1⟩ := A
    obtain ⟨p, e2⟩ := P
    simp only at s1 s2
    have hof := fun w => of_ref_any p w
    have q1 : ∀ w, (binOp .eql 24 (.agg #[.int .u64 (a.x : Int), .int .u64 (a.y : Int)]) (.agg #[.int .u64 (a.x : Int), .int .u64 (a.y : Int)])).run Tryd.prog w = .ok (.bool true) w := fun w => by
      have := eqlA a a w
      simpa [Ad.val] using this
    have q2 : ∀ w, (binOp .eql 32 (.agg #[.int .u64 (p.a.x : Int), .int .u64 (p.a.y : Int), .int .i64 p.n]) (.agg #[.int .u64 (p.a.x : Int), .int .u64 (p.a.y : Int), .int .i64 p.n])).run Tryd.prog w = .ok (.bool true) w := fun w => by
      have := eqlQ p p w
      simpa [Pf.val] using this
    simp only [str, Ad.val, Pf.val] at h1 h2 h3 h4 hof
    clear hw
    rcases s1 with rfl | rfl | rfl <;> rcases s2 with rfl | rfl | rfl
    all_goals
      go_enter Tryd.func5, Tryd.ntmps5
      simp only [str]
      go_wp2_with fail
      refine (h1 _ (HW.out.later HL0.out)).mono ?_
      rintro e w1 ⟨rfl, hb1⟩
      have hA := ((Below.refl w1.heap.size w1).alloc (Nat.le_refl _) (.cells a.cs 24))
      have hb3 := hb1.trans (hA.mono hb1.size)
      have HL1 := hide (HL0.out.trans (hb3.mono HL0.out.size))
      have HB11 := hide (Blk.new w1 24 a.cs)
      clear hb1 hb3 hA h1 HL0
      go_wp2_with fail
      refine (h2 _).mono ?_
      rintro e w2 ⟨rfl, hb1⟩
      have hA := ((Below.refl w2.heap.size w2).alloc (Nat.le_refl _) (.cells a.cs 23))
      have hb3 := hb1.trans (hA.mono hb1.size)
      have HL2 := hide (HL1.out.trans (hb3.mono HL1.out.size))
      have HB12 := hide (HB11.out.below hb3 HB11.out.lt)
      have HB22 := hide (Blk.new w2 23 a.cs)
      clear hb1 hb3 hA h2 HL1 HB11
      go_wp2_with fail
      refine (h3 _ (HW.out.later HL2.out)).mono ?_
      rintro e w3 ⟨rfl, hb1⟩
      have hA := ((Below.refl w3.heap.size w3).alloc (Nat.le_refl _) (.cells p.cs 36))
      have hb3 := hb1.trans (hA.mono hb1.size)
      have HL3 := hide (HL2.out.trans (hb3.mono HL2.out.size))
      have HB13 := hide (HB12.out.below hb3 HB12.out.lt)
      have HB23 := hide (HB22.out.below hb3 HB22.out.lt)
      have HB33 := hide (Blk.new w3 36 p.cs)
      clear hb1 hb3 hA h3 HL2 HB12 HB22
      go_wp2_with fail
      refine (h4 _).mono ?_
      rintro e w4 ⟨rfl, hb1⟩
      have hA := ((Below.refl w4.heap.size w4).alloc (Nat.le_refl _) (.cells p.cs 32))
      have hb3 := hb1.trans (hA.mono hb1.size)
      have HL4 := hide (HL3.out.trans (hb3.mono HL3.out.size))
      have HB14 := hide (HB13.out.below hb3 HB13.out.lt)
      have HB24 := hide (HB23.out.below hb3 HB23.out.lt)
      have HB34 := hide (HB33.out.below hb3 HB33.out.lt)
      have HB44 := hide (Blk.new w4 32 p.cs)
      clear hb1 hb3 hA h4 HL3 HB13 HB23 HB33
      have a0s : (w4.alloc (.cells p.cs 32)).drew.cell? ⟨w1.heap.size, 0, none⟩ = some (.int .u64 (a.x : Int)) := HB14.out.cell 0
      have a1s : (w4.alloc (.cells p.cs 32)).drew.cell? ⟨w1.heap.size, 1, none⟩ = some (.int .u64 (a.y : Int)) := HB14.out.cell 1
      have b0s : (w4.alloc (.cells p.cs 32)).drew.cell? ⟨w2.heap.size, 0, none⟩ = some (.int .u64 (a.x : Int)) := HB24.out.cell 0
      have b1s : (w4.alloc (.cells p.cs 32)).drew.cell? ⟨w2.heap.size, 1, none⟩ = some (.int .u64 (a.y : Int)) := HB24.out.cell 1
      have c0s : (w4.alloc (.cells p.cs 32)).drew.cell? ⟨w3.heap.size, 0, none⟩ = some (.int .u64 (p.a.x : Int)) := HB34.out.cell 0
      have c1s : (w4.alloc (.cells p.cs 32)).drew.cell? ⟨w3.heap.size, 1, none⟩ = some (.int .u64 (p.a.y : Int)) := HB34.out.cell 1
      have c2s : (w4.alloc (.cells p.cs 32)).drew.cell? ⟨w3.heap.size, 2, none⟩ = some (.int .i64 p.n) := HB34.out.cell 2
      have d0s : (w4.alloc (.cells p.cs 32)).drew.cell? ⟨w4.heap.size, 0, none⟩ = some (.int .u64 (p.a.x : Int)) := HB44.out.cell 0
      have d1s : (w4.alloc (.cells p.cs 32)).drew.cell? ⟨w4.heap.size, 1, none⟩ = some (.int .u64 (p.a.y : Int)) := HB44.out.cell 1
      have d2s : (w4.alloc (.cells p.cs 32)).drew.cell? ⟨w4.heap.size, 2, none⟩ = some (.int .i64 p.n) := HB44.out.cell 2
      have hs0 : Below w.heap.size w (w4.alloc (.cells p.cs 32)).drew := HL4.out.drew
      clear HB14 HB24 HB34 HB44 HL4
      go_wp2_with fail
      go_region_held3 (fun W => Below w.heap.size w W ∧ W.cell? ⟨w1.heap.size, 0, none⟩ = some (.int .u64 (a.x : Int)) ∧ W.cell? ⟨w1.heap.size, 1, none⟩ = some (.int .u64 (a.y : Int)) ∧ W.cell? ⟨w2.heap.size, 0, none⟩ = some (.int .u64 (a.x : Int)) ∧ W.cell? ⟨w2.heap.size, 1, none⟩ = some (.int .u64 (a.y : Int)) ∧ W.cell? ⟨w3.heap.size, 0, none⟩ = some (.int .u64 (p.a.x : Int)) ∧ W.cell? ⟨w3.heap.size, 1, none⟩ = some (.int .u64 (p.a.y : Int)) ∧ W.cell? ⟨w3.heap.size, 2, none⟩ = some (.int .i64 p.n) ∧ W.cell? ⟨w4.heap.size, 0, none⟩ = some (.int .u64 (p.a.x : Int)) ∧ W.cell? ⟨w4.heap.size, 1, none⟩ = some (.int .u64 (p.a.y : Int)) ∧ W.cell? ⟨w4.heap.size, 2, none⟩ = some (.int .i64 p.n)) (first | exact ⟨hs0, a0s, a1s, b0s, b1s, c0s, c1s, c2s, d0s, d1s, d2s⟩ | exact ⟨ht0, a0t, a1t, b0t, b1t, c0t, c1t, c2t, d0t, d1t, d2t⟩ | exact ⟨hu0, a0u, a1u, b0u, b1u, c0u, c1u, c2u, d0u, d1u, d2u⟩)
        (first
        | (go_at_call 16; refine (hof _).mono ?_; rintro e w5 ⟨rfl, hb⟩; have ht0 := hs0.trans (hb.mono hs0.size); have a0t := (hb.cell (p := ⟨w1.heap.size, 0, none⟩) (World.block_lt_of_cell? _ _ a0s)).trans a0s; have a1t := (hb.cell (p := ⟨w1.heap.size, 1, none⟩) (World.block_lt_of_cell? _ _ a1s)).trans a1s; have b0t := (hb.cell (p := ⟨w2.heap.size, 0, none⟩) (World.block_lt_of_cell? _ _ b0s)).trans b0s; have b1t := (hb.cell (p := ⟨w2.heap.size, 1, none⟩) (World.block_lt_of_cell? _ _ b1s)).trans b1s; have c0t := (hb.cell (p := ⟨w3.heap.size, 0, none⟩) (World.block_lt_of_cell? _ _ c0s)).trans c0s; have c1t := (hb.cell (p := ⟨w3.heap.size, 1, none⟩) (World.block_lt_of_cell? _ _ c1s)).trans c1s; have c2t := (hb.cell (p := ⟨w3.heap.size, 2, none⟩) (World.block_lt_of_cell? _ _ c2s)).trans c2s; have d0t := (hb.cell (p := ⟨w4.heap.size, 0, none⟩) (World.block_lt_of_cell? _ _ d0s)).trans d0s; have d1t := (hb.cell (p := ⟨w4.heap.size, 1, none⟩) (World.block_lt_of_cell? _ _ d1s)).trans d1s; have d2t := (hb.cell (p := ⟨w4.heap.size, 2, none⟩) (World.block_lt_of_cell? _ _ d2s)).trans d2s; clear hb)
        | (go_at_call 12; refine (awake_any _ (HW.out.later ht0)).mono ?_; rintro e w6 ⟨rfl, hb⟩; have hu0 := ht0.trans (hb.mono ht0.size); have a0u := (hb.cell (p := ⟨w1.heap.size, 0, none⟩) (World.block_lt_of_cell? _ _ a0t)).trans a0t; have a1u := (hb.cell (p := ⟨w1.heap.size, 1, none⟩) (World.block_lt_of_cell? _ _ a1t)).trans a1t; have b0u := (hb.cell (p := ⟨w2.heap.size, 0, none⟩) (World.block_lt_of_cell? _ _ b0t)).trans b0t; have b1u := (hb.cell (p := ⟨w2.heap.size, 1, none⟩) (World.block_lt_of_cell? _ _ b1t)).trans b1t; have c0u := (hb.cell (p := ⟨w3.heap.size, 0, none⟩) (World.block_lt_of_cell? _ _ c0t)).trans c0t; have c1u := (hb.cell (p := ⟨w3.heap.size, 1, none⟩) (World.block_lt_of_cell? _ _ c1t)).trans c1t; have c2u := (hb.cell (p := ⟨w3.heap.size, 2, none⟩) (World.block_lt_of_cell? _ _ c2t)).trans c2t; have d0u := (hb.cell (p := ⟨w4.heap.size, 0, none⟩) (World.block_lt_of_cell? _ _ d0t)).trans d0t; have d1u := (hb.cell (p := ⟨w4.heap.size, 1, none⟩) (World.block_lt_of_cell? _ _ d1t)).trans d1t; have d2u := (hb.cell (p := ⟨w4.heap.size, 2, none⟩) (World.block_lt_of_cell? _ _ d2t)).trans d2t; clear hb))
      all_goals
        go_wp2
        go_ret
        exact ⟨rfl, hu0⟩
end Go.Proofs.YtaljphjcmkibkaaDoor
