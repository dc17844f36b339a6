/- The contract of written.fields at whatever reader meets its contract. Conditions: at most 2^20 bytes. -/
import Derived.Test.YtaljphjcmkibkaaDoorWK
namespace Go.Proofs.YtaljphjcmkibkaaDoor
open Go.RowKit Go.WideShapes Go.ChangeShapes

def foldF (rd : List UInt8 → Nat × Bool) (wide : Nat) : Nat → Ad → List (List UInt8) → Ad × Int
  | _, a, [] => (a, 0)
  | k, a, x :: r => if (rd x).2 then foldF rd wide (k + 1) (putV a (wide * k) wide (rd x).1 wide) r else (⟨0, 0⟩, 4)
def fieldsV (rd : List UInt8 → Nat × Bool) (c : UInt8) (many wide : Nat) (l : List UInt8) : Ad × Int :=
  if (splitL c l).length = many then foldF rd wide 0 ⟨0, 0⟩ (splitL c l) else (⟨0, 0⟩, 4)
theorem foldF_ok (rd : List UInt8 → Nat × Bool) (wide : Nat) : ∀ (r : List (List UInt8)) (k : Nat) (a : Ad), a.Ok → (foldF rd wide k a r).1.Ok := by
  intro r
  induction r with
  | nil => intro k a h; exact h
  | cons x r ih => intro k a h; rw [foldF]; split
                   · exact ih _ _ (putV_ok h _ _ _ _)
                   · exact ⟨by decide, by decide⟩
theorem fieldsV_ok (rd : List UInt8 → Nat × Bool) (c : UInt8) (many wide : Nat) (l : List UInt8) : (fieldsV rd c many wide l).1.Ok := by
  unfold fieldsV
  split
  · exact foldF_ok _ _ _ _ _ ⟨by decide, by decide⟩
  · exact ⟨by decide, by decide⟩

set_option maxRecDepth 4000 in
set_option maxHeartbeats 3200000 in
theorem fields_any (rd : List UInt8 → Nat × Bool) (f : Nat) (eg : ∀ args w, (callFunc f args).run Tryd.prog w = .ok (.enter f args) w)
    (hrd : ∀ x w, Calls Tryd.prog f #[str x] w fun e w' => e = .returned (.tuple #[.int .i64 ((rd x).1 : Int), .bool (rd x).2]) ∧ Below w.heap.size w w') (hrb : ∀ x, (rd x).1 < 4611686018427387904)
    (c : UInt8) (many wide : Nat) (l : List UInt8) (hl : l.length ≤ 1048576) (hmw : wide * many ≤ 128) (hw : wide ≤ 16) (hmany : many ≤ 128) (m : Int) (w : World) (hm : w.cell? ⟨0, 0, none⟩ = some (.int .i64 m)) (h0 : 0 < w.heap.size) :
    Calls Tryd.prog 30 #[.string ⟨l.toArray⟩, .string ⟨#[c]⟩, .int .i64 many, .int .i64 wide, .func (.func f) #[] #[]] w fun e w' => e = .returned (.tuple #[(fieldsV rd c many wide l).1.val, .int .i64 (fieldsV rd c many wide l).2]) ∧ Below w.heap.size w w' := by
  have hm1 : (w.alloc (.cells #[.int .u64 0, .int .u64 0] 24)).cell? ⟨0, 0, none⟩ = some (.int .i64 m) := (World.cell?_alloc_past _ _ _ h0).trans hm
  have HR := hide (Blk.new w 24 #[.int .u64 0, .int .u64 0])
  have HL := hide ((Below.refl w.heap.size w).alloc (Nat.le_refl _) (.cells #[.int .u64 0, .int .u64 0] 24))
  by_cases hlen : (splitL c l).length = many
  · have hv : fieldsV rd c many wide l = foldF rd wide 0 ⟨0, 0⟩ (splitL c l) := if_pos hlen
    have HV := hide hv
    have hsplit := split_any c l hl m _ hm1
    generalize splitL c l = ps at hlen HV hsplit
    subst hlen
    clear hv hm1 hm
    go_enter Tryd.func30, Tryd.ntmps30
    go_wp2_with fail
    refine hsplit.mono ?_
    rintro e w1 ⟨rfl, rfl⟩
    have HP := hide (Blk.newAt (w := w.alloc (.cells #[.int .u64 0, .int .u64 0] 24)) (B := w.heap.size + 1) 9 (ps.map str).toArray (by simp))
    have HR2 := hide (HR.out.alloc (.cells (ps.map str).toArray 9))
    have HL2 := hide (HL.out.alloc HL.out.size (.cells (ps.map str).toArray 9))
    clear hsplit HR HL
    go_wp2
    go_loopw [28] (fun i wr => ∃ (k : Nat) (a : Ad), k ≤ ps.length ∧ i = .int .i64 (k : Int) ∧ Hid (foldF rd wide 0 ⟨0, 0⟩ ps = foldF rd wide k a (ps.drop k)) ∧ Hid a.Ok ∧ Hid (Blk wr (w.heap.size + 1 + 1) 24 a.cs) ∧ Hid (Blk wr (w.heap.size + 1) 9 (ps.map str).toArray) ∧ Hid (Blk wr w.heap.size 24 #[.int .u64 0, .int .u64 0]) ∧ Hid (Below w.heap.size w wr)) (fun i _ => ps.length - (intOf i).toNat)
    case atStart => exact ⟨0, ⟨0, 0⟩, Nat.zero_le _, rfl, hide rfl, hide ⟨by decide, by decide⟩, hide (Blk.newAt _ _ (by simp)), hide (HP.out.alloc _), hide (HR2.out.alloc _), hide (HL2.out.alloc HL2.out.size _)⟩
    case round =>
      obtain ⟨k, a, hk, rfl, HF, HO, HA, HP, HR, HL⟩ := hrel
      clear HR2 HL2
      by_cases hlt : k < ps.length
      · have hltI : (k : Int) < (ps.length : Int) := by omega
        have hcell : wr.cell? ⟨w.heap.size + 1, k, none⟩ = some (str ps[k]) := by rw [HP.out.cell]; simp [hlt]
        have hF := HF.out
        rw [List.drop_eq_getElem_cons hlt, foldF] at hF
        generalize ps[k] = x at hcell hF
        have hb := hrb x
        have hcall := hrd x
        generalize hrdx : rd x = y at hF hb hcall
        obtain ⟨n, is⟩ := y
        simp only at hF hb hcall
        simp only [str] at hcell hcall
        clear HF hrdx
        cases is with
        | false =>
          rw [if_neg (by decide)] at hF
          have HFF := hide hF
          clear hF
          go_wp2_with fail
          refine (hcall wr).mono ?_
          rintro e w2 ⟨rfl, hb2⟩
          have HR3 := hide (HR.out.below hb2 HR.out.lt)
          have HL3 := hide (HL.out.trans (hb2.mono HL.out.size))
          have d0 := HR3.out.cell 0
          have d1 := HR3.out.cell 1
          have f0 := HR3.out.frozen 0
          have f1 := HR3.out.frozen 1
          simp at d0 d1
          clear hb2 HA HP HR HL
          go_wp2
          refine bodyPost_ret (results_blk_tmp (g := w.heap.size) (t := 24) (cs := (Ad.mk 0 0).cs) rfl rfl ((HR3.out.setL 0 _).setL 1 _) aA zA) rfl ⟨by rw [HV.out, HFF.out]; rfl, ?_⟩
          exact (HL3.out.setCell (Nat.le_refl _) _).setCell (Nat.le_refl _) _
        | true =>
          rw [if_pos rfl] at hF
          obtain ⟨g, hg⟩ : ∃ g : Nat, g = wide * k := ⟨_, rfl⟩
          have hgI : (wide : Int) * (k : Int) = (g : Int) := by rw [hg]; simp
          have hg128 : g + wide ≤ 128 := by
            have h1 : wide * (k + 1) ≤ wide * ps.length := Nat.mul_le_mul_left _ hlt
            rw [Nat.mul_succ] at h1
            omega
          have hgW : IntKind.i64.wrap ((wide : Int) * (k : Int)) = (g : Int) := by rw [hgI, IntKind.wrap_i64]; omega
          rw [← hg] at hF
          have HFF := hide hF
          have hput := put_any a HO.out g wide n (by omega) hw hb
          have hpo := putV_ok HO.out g wide n wide
          generalize putV a g wide n wide = a2 at HFF hput hpo
          have HO2 := hide hpo
          clear hF hg hpo
          go_wp2_with fail
          refine (hcall wr).mono ?_
          rintro e w2 ⟨rfl, hb2⟩
          have HA3 := hide (HA.out.below hb2 HA.out.lt)
          have HP3 := hide (HP.out.below hb2 HP.out.lt)
          have HR3 := hide (HR.out.below hb2 HR.out.lt)
          have HL3 := hide (HL.out.trans (hb2.mono HL.out.size))
          have d0 := HA3.out.cell 0
          have d1 := HA3.out.cell 1
          simp only [Ad.cs, List.getElem?_toArray, List.getElem?_cons_zero, List.getElem?_cons_succ] at d0 d1
          clear hb2 HA HP HR HL
          go_wp2_with fail
          refine (hput w2).mono ?_
          rintro e w3 ⟨rfl, hb3⟩
          have HA4 := hide (HA3.out.below hb3 HA3.out.lt)
          have HP4 := hide (HP3.out.below hb3 HP3.out.lt)
          have HR4 := hide (HR3.out.below hb3 HR3.out.lt)
          have HL4 := hide (HL3.out.trans (hb3.mono HL3.out.size))
          have c0 := HA4.out.cell 0
          have c1 := HA4.out.cell 1
          have f0 := HA4.out.frozen 0
          have f1 := HA4.out.frozen 1
          simp only [Ad.cs, List.getElem?_toArray, List.getElem?_cons_zero, List.getElem?_cons_succ] at c0 c1
          clear hb3 HA3 HP3 HR3 HL3 d0 d1
          simp only [Ad.val]
          go_wp2
          go_roundw
          case rel => exact ⟨k + 1, a2, by omega, by go_num, HFF, HO2, hide ((HA4.out.setL 0 _).setL 1 _), hide ((HP4.out.far (p := ⟨w.heap.size + 1 + 1, 0, none⟩) (Nat.ne_of_lt (Nat.lt_succ_self _)) _).far (p := ⟨w.heap.size + 1 + 1, 1, none⟩) (Nat.ne_of_lt (Nat.lt_succ_self _)) _),
            hide ((HR4.out.far (p := ⟨w.heap.size + 1 + 1, 0, none⟩) (show w.heap.size ≠ w.heap.size + 1 + 1 by omega) _).far (p := ⟨w.heap.size + 1 + 1, 1, none⟩) (show w.heap.size ≠ w.heap.size + 1 + 1 by omega) _),
            hide ((HL4.out.setCell (p := ⟨w.heap.size + 1 + 1, 0, none⟩) (show w.heap.size ≤ w.heap.size + 1 + 1 by omega) _).setCell (p := ⟨w.heap.size + 1 + 1, 1, none⟩) (show w.heap.size ≤ w.heap.size + 1 + 1 by omega) _)⟩
          case measure => simp [intOf]; omega
      · have hltI : ¬ (k : Int) < (ps.length : Int) := by omega
        have hF := HF.out
        rw [List.drop_eq_nil_of_le (by omega), foldF] at hF
        have HFF := hide hF
        have c0 := HA.out.cell 0
        have c1 := HA.out.cell 1
        simp only [Ad.cs, List.getElem?_toArray, List.getElem?_cons_zero, List.getElem?_cons_succ] at c0 c1
        have d0 := HR.out.cell 0
        have d1 := HR.out.cell 1
        have f0 := HR.out.frozen 0
        have f1 := HR.out.frozen 1
        simp at d0 d1
        clear hF HF
        go_wp2
        refine bodyPost_ret (results_blk_tmp (g := w.heap.size) (t := 24) (cs := a.cs) rfl rfl ((HR.out.setL 0 _).setL 1 _) aA zA) rfl ⟨by rw [HV.out, HFF.out]; rfl, ?_⟩
        exact (HL.out.setCell (Nat.le_refl _) _).setCell (Nat.le_refl _) _
  · have hv : fieldsV rd c many wide l = (⟨0, 0⟩, 4) := if_neg hlen
    rw [hv]
    have hsplit := split_any c l hl m _ hm1
    generalize splitL c l = ps at hlen hsplit
    have hlenI : ¬ (ps.length : Int) = (many : Int) := by omega
    have HR2 := hide (HR.out.alloc (.cells (ps.map str).toArray 9))
    have HL2 := hide (HL.out.alloc HL.out.size (.cells (ps.map str).toArray 9))
    have d0 := HR2.out.cell 0
    have d1 := HR2.out.cell 1
    have f0 := HR2.out.frozen 0
    have f1 := HR2.out.frozen 1
    simp at d0 d1
    clear hv hm1 hm
    go_enter Tryd.func30, Tryd.ntmps30
    go_wp2_with fail
    refine hsplit.mono ?_
    rintro e w1 ⟨rfl, rfl⟩
    go_wp2
    refine bodyPost_ret (results_blk_tmp (g := w.heap.size) (t := 24) (cs := (Ad.mk 0 0).cs) rfl rfl HR2.out aA zA) rfl ⟨rfl, ?_⟩
    exact HL2.out
end Go.Proofs.YtaljphjcmkibkaaDoor
