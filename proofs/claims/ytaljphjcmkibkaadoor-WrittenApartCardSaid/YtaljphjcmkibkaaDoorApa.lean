/- The walk of the law WrittenApart: it returns true, and below the heap of the call nothing has turned. Conditions: what the library asks of the world. -/
import Derived.Test.YtaljphjcmkibkaaDoorWW
namespace Go.Proofs.YtaljphjcmkibkaaDoor
open Go.RowKit Go.WideShapes Go.ChangeShapes

set_option maxRecDepth 8000 in
set_option maxHeartbeats 1600000 in
theorem writtenApart_any (n : Int) (p q : Pf) (hp : p.a.Ok) (hq : q.a.Ok) (w : World) (hw : WOK w) : Calls Tryd.prog 9 #[.int .i64 n, p.val, q.val] w fun e w' => e = .returned (.bool true) ∧ Below w.heap.size w w' := by
  have h1 := fun w => right_any n p hp w
  have h2 := fun w => right_any n q hq w
  have hA1 : Below w.heap.size w (w.alloc (.cells p.cs 36)) := (Below.refl _ _).alloc (Nat.le_refl _) _
  have hA2 : Below w.heap.size w ((w.alloc (.cells p.cs 36)).alloc (.cells q.cs 36)) := hA1.alloc (by simp) _
  have HP0 := hide ((Blk.new w 36 p.cs).alloc (.cells q.cs 36))
  have HQ0 := hide (Blk.newAt (w := w.alloc (.cells p.cs 36)) (B := w.heap.size + 1) 36 q.cs (by simp))
  have HL0 := hide hA2
  have HW0 := hide (hw.later hA2)
  have a0 := HP0.out.cell 0
  have a1 := HP0.out.cell 1
  have a2 := HP0.out.cell 2
  have b0 := HQ0.out.cell 0
  have b1 := HQ0.out.cell 1
  have b2 := HQ0.out.cell 2
  simp only [Pf.cs, List.getElem?_toArray, List.getElem?_cons_zero, List.getElem?_cons_succ] at a0 a1 a2 b0 b1 b2
  have HW := hide hw
  clear hA1 hA2 hw
  by_cases rp : p.right n = true
  · rw [rp] at h1
    by_cases rq : q.right n = true
    · rw [rq] at h2
      obtain ⟨op, _⟩ := right_of hp rp
      obtain ⟨oq, _⟩ := right_of hq rq
      have h3 := fun w hw => prefix_any n p hp w hw
      have h4 := fun w hw => prefix_any n q hq w hw
      have h5 := fun w hw => addr_any n p.a hp w hw
      have h6 := fun w hw => addr_any n q.a hq w hw
      have e1 := prefixS_inj hp hq rp rq
      have e2 := addrS_inj hp hq op oq
      have q1 := eqlP p q
      have q2 := eqlA p.a q.a
      generalize prefixS n p = s1 at h3 e1
      generalize prefixS n q = s2 at h4 e1
      generalize addrS n p.a = t1 at h5 e2
      generalize addrS n q.a = t2 at h6 e2
      generalize decide (p = q) = bp at e1 q1
      generalize decide (p.a = q.a) = ba at e2 q2
      clear op oq rp rq
      simp only [str, Pf.val, Ad.val] at h1 h2 h3 h4 h5 h6 q1 q2
      cases bp <;> cases ba
      all_goals
        go_enter Tryd.func9, Tryd.ntmps9
        simp only [Pf.val]
        go_wp2_with fail
        refine (h1 _).mono ?_
        rintro e w1 ⟨rfl, hb1⟩
        have HP1 := hide (HP0.out.below hb1 HP0.out.lt)
        have HQ1 := hide (HQ0.out.below hb1 HQ0.out.lt)
        have HL1 := hide (HL0.out.trans (hb1.mono HL0.out.size))
        have HW1 := hide (HW0.out.later hb1)
        clear a0 a1 a2 b0 b1 b2
        have b0 := HQ1.out.cell 0
        have b1 := HQ1.out.cell 1
        have b2 := HQ1.out.cell 2
        simp only [Pf.cs, List.getElem?_toArray, List.getElem?_cons_zero, List.getElem?_cons_succ] at b0 b1 b2
        clear HP0 HQ0 HL0 HW0 hb1 h1
        go_wp2_with fail
        refine (h2 _).mono ?_
        rintro e w2 ⟨rfl, hb1⟩
        have HP2 := hide (HP1.out.below hb1 HP1.out.lt)
        have HQ2 := hide (HQ1.out.below hb1 HQ1.out.lt)
        have HL2 := hide (HL1.out.trans (hb1.mono HL1.out.size))
        have HW2 := hide (HW1.out.later hb1)
        clear b0 b1 b2
        clear HP1 HQ1 HL1 HW1 hb1 h2
        have a0s : w2.drew.cell? ⟨w.heap.size, 0, none⟩ = some (.int .u64 (p.a.x : Int)) := HP2.out.cell 0
        have a1s : w2.drew.cell? ⟨w.heap.size, 1, none⟩ = some (.int .u64 (p.a.y : Int)) := HP2.out.cell 1
        have a2s : w2.drew.cell? ⟨w.heap.size, 2, none⟩ = some (.int .i64 p.n) := HP2.out.cell 2
        have b0s : w2.drew.cell? ⟨(w.heap.size + 1), 0, none⟩ = some (.int .u64 (q.a.x : Int)) := HQ2.out.cell 0
        have b1s : w2.drew.cell? ⟨(w.heap.size + 1), 1, none⟩ = some (.int .u64 (q.a.y : Int)) := HQ2.out.cell 1
        have b2s : w2.drew.cell? ⟨(w.heap.size + 1), 2, none⟩ = some (.int .i64 q.n) := HQ2.out.cell 2
        have hs0 : Below w.heap.size w w2.drew := HL2.out.drew
        clear HP2 HQ2 HL2 HW2
        go_wp2_with fail
        go_region_held3 (fun W => Below w.heap.size w W ∧ W.cell? ⟨w.heap.size, 0, none⟩ = some (.int .u64 (p.a.x : Int)) ∧ W.cell? ⟨w.heap.size, 1, none⟩ = some (.int .u64 (p.a.y : Int)) ∧ W.cell? ⟨w.heap.size, 2, none⟩ = some (.int .i64 p.n) ∧ W.cell? ⟨(w.heap.size + 1), 0, none⟩ = some (.int .u64 (q.a.x : Int)) ∧ W.cell? ⟨(w.heap.size + 1), 1, none⟩ = some (.int .u64 (q.a.y : Int)) ∧ W.cell? ⟨(w.heap.size + 1), 2, none⟩ = some (.int .i64 q.n)) (first | exact ⟨hs0, a0s, a1s, a2s, b0s, b1s, b2s⟩ | exact ⟨ht0, a0t, a1t, a2t, b0t, b1t, b2t⟩ | exact ⟨hu0, a0u, a1u, a2u, b0u, b1u, b2u⟩ | exact ⟨hv0, a0v, a1v, a2v, b0v, b1v, b2v⟩ | exact ⟨hx0, a0x, a1x, a2x, b0x, b1x, b2x⟩ | exact ⟨hy0, a0y, a1y, a2y, b0y, b1y, b2y⟩)
          (first
          | ((go_at_call_of 15 p); refine (h3 _ (HW.out.later hs0)).mono ?_; rintro e w3 ⟨rfl, hb3⟩; have ht0 := hs0.trans (hb3.mono hs0.size); have a0t := (hb3.cell (p := ⟨w.heap.size, 0, none⟩) (World.block_lt_of_cell? _ _ a0s)).trans a0s; have a1t := (hb3.cell (p := ⟨w.heap.size, 1, none⟩) (World.block_lt_of_cell? _ _ a1s)).trans a1s; have a2t := (hb3.cell (p := ⟨w.heap.size, 2, none⟩) (World.block_lt_of_cell? _ _ a2s)).trans a2s; have b0t := (hb3.cell (p := ⟨(w.heap.size + 1), 0, none⟩) (World.block_lt_of_cell? _ _ b0s)).trans b0s; have b1t := (hb3.cell (p := ⟨(w.heap.size + 1), 1, none⟩) (World.block_lt_of_cell? _ _ b1s)).trans b1s; have b2t := (hb3.cell (p := ⟨(w.heap.size + 1), 2, none⟩) (World.block_lt_of_cell? _ _ b2s)).trans b2s; clear hb3)
          | ((go_at_call_of 15 q); refine (h4 _ (HW.out.later ht0)).mono ?_; rintro e w4 ⟨rfl, hb4⟩; have hu0 := ht0.trans (hb4.mono ht0.size); have a0u := (hb4.cell (p := ⟨w.heap.size, 0, none⟩) (World.block_lt_of_cell? _ _ a0t)).trans a0t; have a1u := (hb4.cell (p := ⟨w.heap.size, 1, none⟩) (World.block_lt_of_cell? _ _ a1t)).trans a1t; have a2u := (hb4.cell (p := ⟨w.heap.size, 2, none⟩) (World.block_lt_of_cell? _ _ a2t)).trans a2t; have b0u := (hb4.cell (p := ⟨(w.heap.size + 1), 0, none⟩) (World.block_lt_of_cell? _ _ b0t)).trans b0t; have b1u := (hb4.cell (p := ⟨(w.heap.size + 1), 1, none⟩) (World.block_lt_of_cell? _ _ b1t)).trans b1t; have b2u := (hb4.cell (p := ⟨(w.heap.size + 1), 2, none⟩) (World.block_lt_of_cell? _ _ b2t)).trans b2t; clear hb4)
          | ((go_at_call_of 10 p); refine (h5 _ (HW.out.later hu0)).mono ?_; rintro e w5 ⟨rfl, hb5⟩; have hv0 := hu0.trans (hb5.mono hu0.size); have a0v := (hb5.cell (p := ⟨w.heap.size, 0, none⟩) (World.block_lt_of_cell? _ _ a0u)).trans a0u; have a1v := (hb5.cell (p := ⟨w.heap.size, 1, none⟩) (World.block_lt_of_cell? _ _ a1u)).trans a1u; have a2v := (hb5.cell (p := ⟨w.heap.size, 2, none⟩) (World.block_lt_of_cell? _ _ a2u)).trans a2u; have b0v := (hb5.cell (p := ⟨(w.heap.size + 1), 0, none⟩) (World.block_lt_of_cell? _ _ b0u)).trans b0u; have b1v := (hb5.cell (p := ⟨(w.heap.size + 1), 1, none⟩) (World.block_lt_of_cell? _ _ b1u)).trans b1u; have b2v := (hb5.cell (p := ⟨(w.heap.size + 1), 2, none⟩) (World.block_lt_of_cell? _ _ b2u)).trans b2u; clear hb5)
          | ((go_at_call_of 10 q); refine (h6 _ (HW.out.later hv0)).mono ?_; rintro e w6 ⟨rfl, hb6⟩; have hx0 := hv0.trans (hb6.mono hv0.size); have a0x := (hb6.cell (p := ⟨w.heap.size, 0, none⟩) (World.block_lt_of_cell? _ _ a0v)).trans a0v; have a1x := (hb6.cell (p := ⟨w.heap.size, 1, none⟩) (World.block_lt_of_cell? _ _ a1v)).trans a1v; have a2x := (hb6.cell (p := ⟨w.heap.size, 2, none⟩) (World.block_lt_of_cell? _ _ a2v)).trans a2v; have b0x := (hb6.cell (p := ⟨(w.heap.size + 1), 0, none⟩) (World.block_lt_of_cell? _ _ b0v)).trans b0v; have b1x := (hb6.cell (p := ⟨(w.heap.size + 1), 1, none⟩) (World.block_lt_of_cell? _ _ b1v)).trans b1v; have b2x := (hb6.cell (p := ⟨(w.heap.size + 1), 2, none⟩) (World.block_lt_of_cell? _ _ b2v)).trans b2v; clear hb6)
          | ((go_at_call 12); refine (awake_any _ (HW.out.later hx0)).mono ?_; rintro e w7 ⟨rfl, hb7⟩; have hy0 := hx0.trans (hb7.mono hx0.size); have a0y := (hb7.cell (p := ⟨w.heap.size, 0, none⟩) (World.block_lt_of_cell? _ _ a0x)).trans a0x; have a1y := (hb7.cell (p := ⟨w.heap.size, 1, none⟩) (World.block_lt_of_cell? _ _ a1x)).trans a1x; have a2y := (hb7.cell (p := ⟨w.heap.size, 2, none⟩) (World.block_lt_of_cell? _ _ a2x)).trans a2x; have b0y := (hb7.cell (p := ⟨(w.heap.size + 1), 0, none⟩) (World.block_lt_of_cell? _ _ b0x)).trans b0x; have b1y := (hb7.cell (p := ⟨(w.heap.size + 1), 1, none⟩) (World.block_lt_of_cell? _ _ b1x)).trans b1x; have b2y := (hb7.cell (p := ⟨(w.heap.size + 1), 2, none⟩) (World.block_lt_of_cell? _ _ b2x)).trans b2x; clear hb7))
        all_goals
          go_wp2
          go_ret
          exact ⟨rfl, hy0⟩
    · have rq : q.right n = false := by simpa using rq
      rw [rq] at h2
      simp only [Pf.val] at h1 h2
      go_enter Tryd.func9, Tryd.ntmps9
      simp only [Pf.val]
      go_wp2_with fail
      refine (h1 _).mono ?_
      rintro e w1 ⟨rfl, hb1⟩
      have HQ1 := hide (HQ0.out.below hb1 HQ0.out.lt)
      have HL1 := hide (HL0.out.trans (hb1.mono HL0.out.size))
      have HW1 := hide (HW0.out.later hb1)
      clear a0 a1 a2 b0 b1 b2
      have b0 := HQ1.out.cell 0
      have b1 := HQ1.out.cell 1
      have b2 := HQ1.out.cell 2
      simp only [Pf.cs, List.getElem?_toArray, List.getElem?_cons_zero, List.getElem?_cons_succ] at b0 b1 b2
      clear HP0 HQ0 HL0 HW0 hb1 h1
      go_wp2_with fail
      refine (h2 _).mono ?_
      rintro e w2 ⟨rfl, hb1⟩
      have HL2 := hide (HL1.out.trans (hb1.mono HL1.out.size))
      have HW2 := hide (HW1.out.later hb1)
      clear b0 b1 b2 HQ1 HL1 HW1 hb1 h2
      go_wp2_with fail
      refine (awake_any _ HW2.out).mono ?_
      rintro e w3 ⟨rfl, hb1⟩
      go_wp2
      go_ret
      exact ⟨rfl, HL2.out.trans (hb1.mono HL2.out.size)⟩
  · have rp : p.right n = false := by simpa using rp
    rw [rp] at h1
    simp only [Pf.val] at h1
    go_enter Tryd.func9, Tryd.ntmps9
    simp only [Pf.val]
    go_wp2_with fail
    refine (h1 _).mono ?_
    rintro e w1 ⟨rfl, hb1⟩
    have HL1 := hide (HL0.out.trans (hb1.mono HL0.out.size))
    have HW1 := hide (HW0.out.later hb1)
    clear a0 a1 a2 b0 b1 b2 HP0 HQ0 HL0 HW0 hb1 h1
    go_wp2_with fail
    refine (awake_any _ HW1.out).mono ?_
    rintro e w3 ⟨rfl, hb1⟩
    go_wp2
    go_ret
    exact ⟨rfl, HL1.out.trans (hb1.mono HL1.out.size)⟩
end Go.Proofs.YtaljphjcmkibkaaDoor
