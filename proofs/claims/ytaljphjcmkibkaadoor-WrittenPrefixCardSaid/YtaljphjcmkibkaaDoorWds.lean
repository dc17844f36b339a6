/- The walk of the law WrittenWords: it returns true, and below the heap of the call nothing has turned. Conditions: what the library asks of the world. -/
import Derived.Test.YtaljphjcmkibkaaDoorWW
namespace Go.Proofs.YtaljphjcmkibkaaDoor
open Go.RowKit Go.WideShapes Go.ChangeShapes

theorem count_take (c : UInt8) (l : List UInt8) (k : Nat) (h : k < l.length) : (l.take (k + 1)).count c = (l.take k).count c + if l[k] = c then 1 else 0 := by
  rw [List.take_add_one, List.getElem?_eq_getElem h, Option.toList_some, List.count_append, List.count_singleton]
  by_cases e : l[k] = c <;> simp [e]
theorem make_right {n m : Int} {a : Ad} (ha : a.Ok) (hf : fam n = true) (h0 : 0 ≤ m) (h1 : m ≤ n) : (Pf.make a m).right n = true ∧ (Pf.make a m).a.Ok := by
  have hn := fam_le hf
  have e : (min (max m 0) 128).toNat = m.toNat := by omega
  have hm : Pf.make a m = ⟨a.cut m.toNat, m⟩ := by rw [Pf.make, e, Int.toNat_of_nonneg h0]
  rw [hm]
  refine ⟨(right_bits (ha.cut _)).2 ⟨hf, h0, h1, fun j hj hj2 => ?_⟩, ha.cut _⟩
  rw [b_cut a _ _ hj2]
  simp only at hj
  rw [decide_eq_false (by omega), Bool.and_false]
theorem prefixS_len {n : Int} {p : Pf} (h : p.right n = true) : (prefixS n p).length ≤ 2000 := by
  obtain ⟨h0, h1⟩ := right_n h
  obtain ⟨N, hN⟩ : ∃ N : Nat, p.n = N := ⟨p.n.toNat, by omega⟩
  have := itoa_len N (by omega)
  have := addrS_len n p.a
  rw [prefixS, h, if_neg (by decide), hN]
  simp
  omega

set_option maxRecDepth 16000 in
set_option maxHeartbeats 3200000 in
theorem writtenWords_any (n : Int) (a : Ad) (ha : a.Ok) (m : Int) (w : World) (hw : WOK w) : Calls Tryd.prog 8 #[.int .i64 n, a.val, .int .i64 m] w fun e w' => e = .returned (.bool true) ∧ Below w.heap.size w w' := by
  have h1 := fun w => of_any n a ha w
  have HB0 := hide (Blk.new w 24 a.cs)
  have HL0 := hide ((Below.refl w.heap.size w).alloc (Nat.le_refl _) (.cells a.cs 24))
  have c0 := HB0.out.cell 0
  have c1 := HB0.out.cell 1
  simp only [Ad.cs, List.getElem?_toArray, List.getElem?_cons_zero, List.getElem?_cons_succ] at c0 c1
  have HW := hide hw
  clear hw
  simp only [Ad.val] at h1
  by_cases hof : a.of n = true
  · rw [hof] at h1
    by_cases hm : 0 ≤ m ∧ m ≤ n
    · obtain ⟨hm0, hm1⟩ := hm
      have hf := ((of_bits ha).1 hof).1
      have hn := fam_le hf
      obtain ⟨hr, hqo⟩ := make_right ha hf hm0 hm1
      have h2 := fun w hw => addr_any n a ha w hw
      have h3 := fun w => make_any a ha m w
      have h4 := fun w hw => prefix_any n (Pf.make a m) hqo w hw
      have k47 := slash_one hqo hr
      have kw : (n = 32 → (addrS n a).count 46 = 3 ∧ (addrS n a).count 58 = 0) ∧ (n = 128 → (addrS n a).count 46 = 0 ∧ (addrS n a).count 58 = 7 ∧ (addrS n a).length = 39) := by
        constructor
        · rintro rfl; exact words_32 hof
        · rintro rfl; exact words_128 hof
      have l1 := addrS_len n a
      have l2 := prefixS_len hr
      generalize Pf.make a m = q at h3 h4 k47 l2
      generalize addrS n a = s at h2 kw l1
      generalize prefixS n q = t at h4 k47 l2
      obtain ⟨⟨x, y⟩, z⟩ := q
      have hlen1 := run_len s
      have hlen2 := run_len t
      simp only [str, Ad.val, Pf.val] at h2 h3 h4
      clear hr hqo hf hof
      rcases hn with rfl | rfl
      · obtain ⟨k46, k58⟩ := kw.1 rfl
        clear kw
        go_enter Tryd.func8, Tryd.ntmps8
        simp only [Ad.val]
        go_wp2_with fail
        refine (h1 _).mono ?_
        rintro e w1 ⟨rfl, hb1⟩
        have HB1 := hide (HB0.out.below hb1 HB0.out.lt)
        have HL1 := hide (HL0.out.trans (hb1.mono HL0.out.size))
        clear c0 c1
        have c0 := HB1.out.cell 0
        have c1 := HB1.out.cell 1
        simp only [Ad.cs, List.getElem?_toArray, List.getElem?_cons_zero, List.getElem?_cons_succ] at c0 c1
        clear HB0 HL0 hb1 h1
        go_wp2_with fail
        refine (h2 _ (HW.out.later HL1.out)).mono ?_
        rintro e w2 ⟨rfl, hb1⟩
        have HB2 := hide (HB1.out.below hb1 HB1.out.lt)
        have HL2 := hide (HL1.out.trans (hb1.mono HL1.out.size))
        clear c0 c1
        have c0 := HB2.out.cell 0
        have c1 := HB2.out.cell 1
        simp only [Ad.cs, List.getElem?_toArray, List.getElem?_cons_zero, List.getElem?_cons_succ] at c0 c1
        clear HB1 HL1 hb1 h2
        go_wp2_with fail
        refine (h3 _).mono ?_
        rintro e w3 ⟨rfl, hb1⟩
        have HL3 := hide (HL2.out.trans (hb1.mono HL2.out.size))
        clear HB2 HL2 hb1 h3 c0 c1
        go_wp2_with fail
        refine (h4 _ (HW.out.later HL3.out)).mono ?_
        rintro e w4 ⟨rfl, hb1⟩
        have HL4 := hide (HL3.out.trans (hb1.mono HL3.out.size))
        clear HL3 hb1 h4
        have HB := hide (Below.refl w4.heap.size w4)
        go_wp2
        go_loopw [9, 10, 38] (fun d c i wr => ∃ k dn cn : Nat, k ≤ s.length ∧ d = .int .i64 (dn : Int) ∧ c = .int .i64 (cn : Int) ∧ i = .int .i64 (k : Int) ∧ dn ≤ k ∧ cn ≤ k ∧ Hid (dn = (s.take k).count 46) ∧ Hid (cn = (s.take k).count 58) ∧ Hid (wr = w4)) (fun _ _ i _ => s.length - (intOf i).toNat)
        case atStart => exact ⟨0, 0, 0, Nat.zero_le _, rfl, rfl, rfl, Nat.le_refl _, Nat.le_refl _, hide (by simp), hide (by simp), hide rfl⟩
        case round =>
          obtain ⟨k, dn, cn, hk, rfl, rfl, rfl, hdn, hcn, HD, HC, HW4⟩ := hrel
          by_cases hlt : k < s.length
          · have hltI : (k : Int) < (s.length : Int) := by omega
            have hat := run_at s k hlt
            have sd := count_take 46 s k hlt
            have sc := count_take 58 s k hlt
            rw [← HD.out] at sd
            rw [← HC.out] at sc
            generalize s[k] = z at hat sd sc
            by_cases h46 : z = 46
            · subst h46
              rw [if_pos rfl] at sd
              rw [if_neg (by decide)] at sc
              have HSD := hide sd
              have HSC := hide sc
              simp at hat
              clear sd sc
              go_wp2
              exact ⟨⟨k + 1, dn + 1, cn, by omega, rfl, rfl, rfl, by omega, by omega, hide HSD.out.symm, hide HSC.out.symm, HW4⟩, by simp only [intOf]; omega⟩
            · by_cases h58 : z = 58
              · subst h58
                rw [if_pos rfl] at sc
                rw [if_neg (by decide)] at sd
                have HSD := hide sd
                have HSC := hide sc
                simp at hat
                clear sd sc
                go_wp2
                exact ⟨⟨k + 1, dn, cn + 1, by omega, rfl, rfl, rfl, by omega, by omega, hide HSD.out.symm, hide HSC.out.symm, HW4⟩, by simp only [intOf]; omega⟩
              · rw [if_neg h46] at sd
                rw [if_neg h58] at sc
                have HSD := hide sd
                have HSC := hide sc
                have m46 : z.toNat ≠ 46 := fun e => h46 (UInt8.toNat_inj.1 (e.trans rfl))
                have m58 : z.toNat ≠ 58 := fun e => h58 (UInt8.toNat_inj.1 (e.trans rfl))
                generalize z.toNat = zn at hat m46 m58
                have i46 : (zn : Int) ≠ 46 := by omega
                have i58 : (zn : Int) ≠ 58 := by omega
                clear sd sc m46 m58
                go_wp2
                exact ⟨⟨k + 1, dn, cn, by omega, rfl, rfl, rfl, by omega, by omega, hide HSD.out.symm, hide HSC.out.symm, HW4⟩, by simp only [intOf]; omega⟩
          · have hkl : k = s.length := by omega
            subst hkl
            have e1 := HD.out
            have e2 := HC.out
            rw [List.take_length] at e1 e2
            have g1 : dn = 3 := e1.trans k46
            have g2 : cn = 0 := e2.trans k58
            have HWE := HW4.out
            subst g1 g2 HWE
            clear hdn hcn HD HC HW4 e1 e2
            go_wp2
            go_loopw [11, 56] (fun d i wr => ∃ k dn : Nat, k ≤ t.length ∧ d = .int .i64 (dn : Int) ∧ i = .int .i64 (k : Int) ∧ dn ≤ k ∧ Hid (dn = (t.take k).count 47) ∧ Hid (Below w.heap.size w wr)) (fun _ i _ => t.length - (intOf i).toNat)
            case atStart => exact ⟨0, 0, Nat.zero_le _, rfl, rfl, Nat.le_refl _, hide (by simp), HL4⟩
            case round =>
              obtain ⟨k, dn, hk2, rfl, rfl, hdn, HD, HLX⟩ := hrel
              by_cases hlt2 : k < t.length
              · have hltI2 : (k : Int) < (t.length : Int) := by omega
                have hat := run_at t k hlt2
                have sd := count_take 47 t k hlt2
                rw [← HD.out] at sd
                generalize t[k] = z at hat sd
                by_cases h47 : z = 47
                · subst h47
                  rw [if_pos rfl] at sd
                  have HSD := hide sd
                  simp at hat
                  clear sd
                  go_wp2
                  exact ⟨⟨k + 1, dn + 1, by omega, rfl, rfl, by omega, hide HSD.out.symm, HLX⟩, by simp only [intOf]; omega⟩
                · rw [if_neg h47] at sd
                  have HSD := hide sd
                  have m47 : z.toNat ≠ 47 := fun e => h47 (UInt8.toNat_inj.1 (e.trans rfl))
                  generalize z.toNat = zn at hat m47
                  have i47 : (zn : Int) ≠ 47 := by omega
                  clear sd m47
                  go_wp2
                  exact ⟨⟨k + 1, dn, by omega, rfl, rfl, by omega, hide HSD.out.symm, HLX⟩, by simp only [intOf]; omega⟩
              · have hkl2 : k = t.length := by omega
                subst hkl2
                have e1 := HD.out
                rw [List.take_length] at e1
                have g1 : dn = 1 := e1.trans k47
                subst g1
                clear hdn HD e1
                go_wp2_with fail
                refine (awake_any _ (HW.out.later HLX.out)).mono ?_
                rintro e w6 ⟨rfl, hb6⟩
                go_wp2
                go_ret
                exact ⟨rfl, HLX.out.trans (hb6.mono HLX.out.size)⟩
      · obtain ⟨k46, k58, k39⟩ := kw.2 rfl
        have k39I : (s.length : Int) = 39 := by omega
        clear kw
        go_enter Tryd.func8, Tryd.ntmps8
        simp only [Ad.val]
        go_wp2_with fail
        refine (h1 _).mono ?_
        rintro e w1 ⟨rfl, hb1⟩
        have HB1 := hide (HB0.out.below hb1 HB0.out.lt)
        have HL1 := hide (HL0.out.trans (hb1.mono HL0.out.size))
        clear c0 c1
        have c0 := HB1.out.cell 0
        have c1 := HB1.out.cell 1
        simp only [Ad.cs, List.getElem?_toArray, List.getElem?_cons_zero, List.getElem?_cons_succ] at c0 c1
        clear HB0 HL0 hb1 h1
        go_wp2_with fail
        refine (h2 _ (HW.out.later HL1.out)).mono ?_
        rintro e w2 ⟨rfl, hb1⟩
        have HB2 := hide (HB1.out.below hb1 HB1.out.lt)
        have HL2 := hide (HL1.out.trans (hb1.mono HL1.out.size))
        clear c0 c1
        have c0 := HB2.out.cell 0
        have c1 := HB2.out.cell 1
        simp only [Ad.cs, List.getElem?_toArray, List.getElem?_cons_zero, List.getElem?_cons_succ] at c0 c1
        clear HB1 HL1 hb1 h2
        go_wp2_with fail
        refine (h3 _).mono ?_
        rintro e w3 ⟨rfl, hb1⟩
        have HL3 := hide (HL2.out.trans (hb1.mono HL2.out.size))
        clear HB2 HL2 hb1 h3 c0 c1
        go_wp2_with fail
        refine (h4 _ (HW.out.later HL3.out)).mono ?_
        rintro e w4 ⟨rfl, hb1⟩
        have HL4 := hide (HL3.out.trans (hb1.mono HL3.out.size))
        clear HL3 hb1 h4
        have HB := hide (Below.refl w4.heap.size w4)
        go_wp2
        go_loopw [9, 10, 38] (fun d c i wr => ∃ k dn cn : Nat, k ≤ s.length ∧ d = .int .i64 (dn : Int) ∧ c = .int .i64 (cn : Int) ∧ i = .int .i64 (k : Int) ∧ dn ≤ k ∧ cn ≤ k ∧ Hid (dn = (s.take k).count 46) ∧ Hid (cn = (s.take k).count 58) ∧ Hid (wr = w4)) (fun _ _ i _ => s.length - (intOf i).toNat)
        case atStart => exact ⟨0, 0, 0, Nat.zero_le _, rfl, rfl, rfl, Nat.le_refl _, Nat.le_refl _, hide (by simp), hide (by simp), hide rfl⟩
        case round =>
          obtain ⟨k, dn, cn, hk, rfl, rfl, rfl, hdn, hcn, HD, HC, HW4⟩ := hrel
          by_cases hlt : k < s.length
          · have hltI : (k : Int) < (s.length : Int) := by omega
            have hat := run_at s k hlt
            have sd := count_take 46 s k hlt
            have sc := count_take 58 s k hlt
            rw [← HD.out] at sd
            rw [← HC.out] at sc
            generalize s[k] = z at hat sd sc
            by_cases h46 : z = 46
            · subst h46
              rw [if_pos rfl] at sd
              rw [if_neg (by decide)] at sc
              have HSD := hide sd
              have HSC := hide sc
              simp at hat
              clear sd sc
              go_wp2
              exact ⟨⟨k + 1, dn + 1, cn, by omega, rfl, rfl, rfl, by omega, by omega, hide HSD.out.symm, hide HSC.out.symm, HW4⟩, by simp only [intOf]; omega⟩
            · by_cases h58 : z = 58
              · subst h58
                rw [if_pos rfl] at sc
                rw [if_neg (by decide)] at sd
                have HSD := hide sd
                have HSC := hide sc
                simp at hat
                clear sd sc
                go_wp2
                exact ⟨⟨k + 1, dn, cn + 1, by omega, rfl, rfl, rfl, by omega, by omega, hide HSD.out.symm, hide HSC.out.symm, HW4⟩, by simp only [intOf]; omega⟩
              · rw [if_neg h46] at sd
                rw [if_neg h58] at sc
                have HSD := hide sd
                have HSC := hide sc
                have m46 : z.toNat ≠ 46 := fun e => h46 (UInt8.toNat_inj.1 (e.trans rfl))
                have m58 : z.toNat ≠ 58 := fun e => h58 (UInt8.toNat_inj.1 (e.trans rfl))
                generalize z.toNat = zn at hat m46 m58
                have i46 : (zn : Int) ≠ 46 := by omega
                have i58 : (zn : Int) ≠ 58 := by omega
                clear sd sc m46 m58
                go_wp2
                exact ⟨⟨k + 1, dn, cn, by omega, rfl, rfl, rfl, by omega, by omega, hide HSD.out.symm, hide HSC.out.symm, HW4⟩, by simp only [intOf]; omega⟩
          · have hkl : k = s.length := by omega
            subst hkl
            have e1 := HD.out
            have e2 := HC.out
            rw [List.take_length] at e1 e2
            have g1 : dn = 0 := e1.trans k46
            have g2 : cn = 7 := e2.trans k58
            have HWE := HW4.out
            subst g1 g2 HWE
            clear hdn hcn HD HC HW4 e1 e2
            go_wp2
            go_loopw [11, 56] (fun d i wr => ∃ k dn : Nat, k ≤ t.length ∧ d = .int .i64 (dn : Int) ∧ i = .int .i64 (k : Int) ∧ dn ≤ k ∧ Hid (dn = (t.take k).count 47) ∧ Hid (Below w.heap.size w wr)) (fun _ i _ => t.length - (intOf i).toNat)
            case atStart => exact ⟨0, 0, Nat.zero_le _, rfl, rfl, Nat.le_refl _, hide (by simp), HL4⟩
            case round =>
              obtain ⟨k, dn, hk2, rfl, rfl, hdn, HD, HLX⟩ := hrel
              by_cases hlt2 : k < t.length
              · have hltI2 : (k : Int) < (t.length : Int) := by omega
                have hat := run_at t k hlt2
                have sd := count_take 47 t k hlt2
                rw [← HD.out] at sd
                generalize t[k] = z at hat sd
                by_cases h47 : z = 47
                · subst h47
                  rw [if_pos rfl] at sd
                  have HSD := hide sd
                  simp at hat
                  clear sd
                  go_wp2
                  exact ⟨⟨k + 1, dn + 1, by omega, rfl, rfl, by omega, hide HSD.out.symm, HLX⟩, by simp only [intOf]; omega⟩
                · rw [if_neg h47] at sd
                  have HSD := hide sd
                  have m47 : z.toNat ≠ 47 := fun e => h47 (UInt8.toNat_inj.1 (e.trans rfl))
                  generalize z.toNat = zn at hat m47
                  have i47 : (zn : Int) ≠ 47 := by omega
                  clear sd m47
                  go_wp2
                  exact ⟨⟨k + 1, dn, by omega, rfl, rfl, by omega, hide HSD.out.symm, HLX⟩, by simp only [intOf]; omega⟩
              · have hkl2 : k = t.length := by omega
                subst hkl2
                have e1 := HD.out
                rw [List.take_length] at e1
                have g1 : dn = 1 := e1.trans k47
                subst g1
                clear hdn HD e1
                go_wp2_with fail
                refine (awake_any _ (HW.out.later HLX.out)).mono ?_
                rintro e w6 ⟨rfl, hb6⟩
                go_wp2
                go_ret
                exact ⟨rfl, HLX.out.trans (hb6.mono HLX.out.size)⟩
    · by_cases hm0 : m < 0
      · go_enter Tryd.func8, Tryd.ntmps8
        simp only [Ad.val]
        go_wp2_with fail
        refine (h1 _).mono ?_
        rintro e w1 ⟨rfl, hb1⟩
        have HL1 := hide (HL0.out.trans (hb1.mono HL0.out.size))
        clear HB0 HL0 hb1 h1 c0 c1
        go_wp2_with fail
        refine (awake_any _ (HW.out.later HL1.out)).mono ?_
        rintro e w2 ⟨rfl, hb1⟩
        go_wp2
        go_ret
        exact ⟨rfl, HL1.out.trans (hb1.mono HL1.out.size)⟩
      · have hm1 : n < m := by
          have : ¬ (0 ≤ m ∧ m ≤ n) := hm
          omega
        clear hm
        go_enter Tryd.func8, Tryd.ntmps8
        simp only [Ad.val]
        go_wp2_with fail
        refine (h1 _).mono ?_
        rintro e w1 ⟨rfl, hb1⟩
        have HL1 := hide (HL0.out.trans (hb1.mono HL0.out.size))
        clear HB0 HL0 hb1 h1 c0 c1
        go_wp2_with fail
        refine (awake_any _ (HW.out.later HL1.out)).mono ?_
        rintro e w2 ⟨rfl, hb1⟩
        go_wp2
        go_ret
        exact ⟨rfl, HL1.out.trans (hb1.mono HL1.out.size)⟩
  · have hof : a.of n = false := by simpa using hof
    rw [hof] at h1
    go_enter Tryd.func8, Tryd.ntmps8
    simp only [Ad.val]
    go_wp2_with fail
    refine (h1 _).mono ?_
    rintro e w1 ⟨rfl, hb1⟩
    have HL1 := hide (HL0.out.trans (hb1.mono HL0.out.size))
    clear HB0 HL0 hb1 h1 c0 c1
    go_wp2_with fail
    refine (awake_any _ (HW.out.later HL1.out)).mono ?_
    rintro e w2 ⟨rfl, hb1⟩
    go_wp2
    go_ret
    exact ⟨rfl, HL1.out.trans (hb1.mono HL1.out.size)⟩
end Go.Proofs.YtaljphjcmkibkaaDoor
