/- The contract of the reference's Addr and Prefix. Conditions: the prefix may be. -/
import Derived.Test.YtaljphjcmkibkaaDoorXE
namespace Go.Proofs.YtaljphjcmkibkaaDoor
open Go.RowKit Go.WideShapes Go.ChangeShapes

/-- Parts with a sign between, one by one. -/
def jn (c : UInt8) (f : Nat → List UInt8) : Nat → List UInt8
  | 0 => []
  | k + 1 => (if k = 0 then jn c f k else jn c f k ++ [c]) ++ f k
theorem jn_succ (c : UInt8) (f : Nat → List UInt8) (k : Nat) : jn c f (k + 1) = (if k = 0 then jn c f k else jn c f k ++ [c]) ++ f k := rfl
theorem joinTail_snoc (s : List UInt8) (r : List (List UInt8)) (x : List UInt8) : Lib.joinTail s (r ++ [x]) = Lib.joinTail s r ++ (s ++ x) := by
  simp [Lib.joinTail]
theorem jn_join (c : UInt8) (f : Nat → List UInt8) : ∀ k, jn c f k = Lib.join ((List.range k).map f) [c]
  | 0 => rfl
  | k + 1 => by
    rw [jn_succ, jn_join c f k, List.range_succ, List.map_append]
    by_cases h : k = 0
    · subst h; rw [if_pos rfl]; simp [Lib.join_nil, Lib.join_one]
    · rw [if_neg h]
      obtain ⟨m, rfl⟩ : ∃ m, k = m + 1 := ⟨k - 1, by omega⟩
      rw [List.range_succ_eq_map, List.map_cons, List.cons_append, Lib.join_cons, Lib.join_cons, List.map_cons, List.map_nil, joinTail_snoc]
      simp
theorem jn_len (c : UInt8) (f : Nat → List UInt8) (b : Nat) (h : ∀ j, (f j).length ≤ b) : ∀ k, (jn c f k).length ≤ k * (b + 1)
  | 0 => by simp [jn]
  | k + 1 => by
    have ih := jn_len c f b h k
    have := h k
    rw [jn_succ, Nat.succ_mul]
    split <;> simp <;> omega
theorem pc4_len (a : Ad) (j : Nat) : (pc4 a j).length ≤ 12 := Nat.le_trans (itoa_len _ (getV_lt a (8 * j) 8)) (by decide)
theorem pc6_len (a : Ad) (j : Nat) : (pc6 a j).length ≤ 12 := by rw [pc6, hexL_length]; decide
/-- 4096, 256, 16, 1, 0. -/
def dvs (j : Nat) : Int := ((4096 / 16 ^ j : Nat) : Int)
theorem dvs_step (z j : Nat) (hj : j < 4) : ∃ d q : Nat, z / 2 ^ (4 * (3 - j)) % 16 = d ∧ d < 16 ∧ 0 < dvs j ∧ ((z : Int) / dvs j = (q : Int) ∧ q ≤ z ∧ q % 16 = d ∧ dvs (j + 1) = dvs j / 16) ∧ dvs j ≤ 4096 := by
  have h : j = 0 ∨ j = 1 ∨ j = 2 ∨ j = 3 := by omega
  refine ⟨_, z / 2 ^ (4 * (3 - j)), rfl, by omega, ?_⟩
  rcases h with rfl | rfl | rfl | rfl <;> simp [dvs] <;> omega

theorem q_facts {q d : Nat} (h : q % 16 = d) : (q : Int) % 16 = (d : Int) ∧ ((q : Int)).tmod 16 = (d : Int) := by
  have h1 : (q : Int) % 16 = (d : Int) := by omega
  exact ⟨h1, by rw [Int.tmod_eq_emod_of_nonneg (by omega)]; exact h1⟩
theorem q_wrap {q : Nat} (h : q < 65536) : wrap64 (q : Int) = (q : Int) := by unfold wrap64; omega
theorem run_hex_cut : ∀ (y : Fin 16) (w : World), (Instr.slice 9 (.string ⟨#[48, 49, 50, 51, 52, 53, 54, 55, 56, 57, 97, 98, 99, 100, 101, 102]⟩) (some (.int .i64 ((y.val : Nat) : Int))) (some (.int .i64 (((y.val : Nat) : Int) + 1))) none).run Tryd.prog w = .ok (.string ⟨#[hexd y.val]⟩) w := by
  intro y w
  rcases y with ⟨y, hy⟩
  rcases (by omega : y = 0 ∨ y = 1 ∨ y = 2 ∨ y = 3 ∨ y = 4 ∨ y = 5 ∨ y = 6 ∨ y = 7 ∨ y = 8 ∨ y = 9 ∨ y = 10 ∨ y = 11 ∨ y = 12 ∨ y = 13 ∨ y = 14 ∨ y = 15) with rfl | rfl | rfl | rfl | rfl | rfl | rfl | rfl | rfl | rfl | rfl | rfl | rfl | rfl | rfl | rfl <;> kernel_rfl

set_option maxRecDepth 16000 in
set_option maxHeartbeats 3200000 in
theorem refAddr_any (n : Int) (a : Ad) (ha : a.Ok) (hof : a.of n = true) (w : World) : Calls Tryd.prog 14 #[.int .i64 n, a.val] w fun e w' => e = .returned (str (addrS n a)) ∧ Below w.heap.size w w' := by
  have hf := ((of_bits ha).1 hof).1
  have hbits := fun w => bits_some a ha w
  have HL := hide ((Below.refl w.heap.size w).alloc (Nat.le_refl _) (.cells a.cs 23))
  have HB := hide (Blk.new w 23 a.cs)
  have c0 := HB.out.cell 0
  have c1 := HB.out.cell 1
  simp only [Ad.cs, List.getElem?_toArray, List.getElem?_cons_zero, List.getElem?_cons_succ] at c0 c1
  simp only [Ad.val] at hbits
  rcases fam_le hf with rfl | rfl
  · go_enter Tryd.func14, Tryd.ntmps14
    simp only [Ad.val]
    go_wp2_with fail
    refine (hbits _).mono ?_
    rintro e w1 ⟨g, rfl, hg1, hb1, hl1⟩
    have HG1 := hide hb1
    have HL1 := hide (HL.out.trans (hl1.mono HL.out.size))
    have hv : addrS 32 a = jn 46 (pc4 a) 4 := by
      rw [jn_join 46 (pc4 a) 4, addrS, hof, if_neg (by decide)]; rw [if_pos rfl]
    have HV := hide hv
    clear hb1 hl1 hg1 hbits HL hv hof c0 c1
    go_wp2
    go_loopw [6, 9] (fun o i wr => ∃ k : Nat, k ≤ 4 ∧ o = str (jn 46 (pc4 a) k) ∧ i = .int .i64 (k : Int) ∧ Hid (Blk wr g 4 (bitsL a.b).toArray) ∧ Hid (Below w.heap.size w wr)) (fun _ i _ => 4 - (intOf i).toNat)
    case atStart => exact ⟨0, by omega, rfl, rfl, HG1, HL1⟩
    case round =>
      obtain ⟨k, hk, rfl, rfl, HG, HL⟩ := hrel
      clear HG1 HL1
      by_cases hlt : k < 4
      · have hltI : (k : Int) < 4 := by omega
        have hjl := jn_len 46 (pc4 a) 12 (fun j => pc4_len a j) k
        have hjn := jn_succ 46 (pc4 a) k
        have hpl : (pc4 a k).length ≤ 12 := pc4_len a k
        have hpc : pc4 a k = Lib.decDigits (getV a (8 * k) 8) := itoa_nat _
        generalize jn 46 (pc4 a) k = o at hjl hjn
        generalize pc4 a k = pp at hjn hpl hpc
        have hol : o.length ≤ 300 := by omega
        obtain ⟨u, hu⟩ : ∃ u : Nat, u = 8 * k := ⟨_, rfl⟩
        have huI : (8 : Int) * (k : Int) = (u : Int) := by omega
        have hu128 : u + 8 ≤ 128 := by omega
        rw [← hu] at hpc
        have HJN := hide hjn
        clear hu hjl hjn
        simp only [str]
        go_wp2
        go_loopw [10, 11] (fun v i wr' => ∃ i' : Nat, i' ≤ 8 ∧ v = .int .i64 (getV a u i' : Int) ∧ i = .int .i64 (i' : Int) ∧ Hid (wr' = wr)) (fun _ i _ => 8 - (intOf i).toNat)
        case atStart => exact ⟨0, by omega, rfl, rfl, hide rfl⟩
        case round =>
          obtain ⟨i, hi, rfl, rfl, HW⟩ := hrel
          by_cases hlt2 : i < 8
          · have hlt2I : (i : Int) < 8 := by omega
            have hvl := getV_lt a u i
            have hp : (2 : Nat) ^ i ≤ 2 ^ 16 := Nat.pow_le_pow_right (by decide) (by omega)
            have hb : getV a u i < 65536 := by omega
            have hs : getV a u (i + 1) = getV a u i * 2 + if a.b (u + i) then 1 else 0 := by rw [getV, at_b]
            have cb := HG.out.cell (u + i)
            rw [List.getElem?_toArray, bitsL_get _ _ (by omega)] at cb
            have hwe := HW.out
            subst hwe
            obtain ⟨q, hq⟩ : ∃ q : Nat, q = u + i := ⟨_, rfl⟩
            have hqI : (u : Int) + (i : Int) = (q : Int) := by omega
            have hq128 : (q : Int) < 128 := by omega
            rw [← hq] at hs cb
            generalize getV a u i = z at hs hb hvl
            have HS := hide hs
            clear hs hvl hp hq
            cases hbit : a.b q with
            | true =>
              rw [hbit] at cb
              go_wp2
              refine ⟨⟨i + 1, by omega, ?_, by go_num, by first | exact hide rfl | exact hide trivial⟩, by simp only [intOf]; omega⟩
              rw [HS.out, hbit]; simp
            | false =>
              rw [hbit] at cb
              go_wp2
              refine ⟨⟨i + 1, by omega, ?_, by go_num, by first | exact hide rfl | exact hide trivial⟩, by simp only [intOf]; omega⟩
              rw [HS.out, hbit]; simp
          · obtain rfl : i = 8 := by omega
            have hwe := HW.out
            subst hwe
            have hvl : getV a u 8 < 256 := getV_lt a u 8
            generalize getV a u 8 = z at hpc hvl
            clear hi
            by_cases hk0 : k = 0
            · subst hk0
              have hk0I : ¬ (0 : Int) < ((0 : Nat) : Int) := by omega
              have hd := fun w => refDigits_any z (by omega) w
              rw [← hpc] at hd
              have HPC := hide hpc
              clear hpc
              have hcat := fun w => run_cat (P := Tryd.prog) o pp (by omega) (by omega) w

              go_wp2_with fail
              refine (hd _).mono ?_
              rintro e w5 ⟨rfl, rfl⟩
              go_wp2
              refine ⟨⟨0 + 1, by omega, ?_, rfl, HG, HL⟩, by simp only [intOf]; omega⟩
              rw [HJN.out]; simp [str]
            · have hk0I : (0 : Int) < (k : Int) := by omega
              have hd := fun w => refDigits_any z (by omega) w
              rw [← hpc] at hd
              have HPC := hide hpc
              clear hpc
              have hcat := fun w => run_cat (P := Tryd.prog) (o ++ [46]) pp (by simp; omega) (by omega) w
              have hcat0 := fun w => run_cat (P := Tryd.prog) o [46] (by omega) (by simp) w
              go_wp2_with fail
              refine (hd _).mono ?_
              rintro e w5 ⟨rfl, rfl⟩
              go_wp2
              refine ⟨⟨k + 1, by omega, ?_, by go_num, HG, HL⟩, by simp only [intOf]; omega⟩
              rw [HJN.out, if_neg hk0]; simp [str]
      · obtain rfl : k = 4 := by omega
        rw [← HV.out]
        go_wp2
        go_ret
        exact ⟨rfl, HL.out⟩
  · go_enter Tryd.func14, Tryd.ntmps14
    simp only [Ad.val]
    go_wp2_with fail
    refine (hbits _).mono ?_
    rintro e w1 ⟨g, rfl, hg1, hb1, hl1⟩
    have HG1 := hide hb1
    have HL1 := hide (HL.out.trans (hl1.mono HL.out.size))
    have hv : addrS 128 a = jn 58 (pc6 a) 8 := by
      rw [jn_join 58 (pc6 a) 8, addrS, hof, if_neg (by decide)]; rw [if_neg (by decide)]
    have HV := hide hv
    clear hb1 hl1 hg1 hbits HL hv hof c0 c1
    go_wp2
    go_loopw [6, 9] (fun o i wr => ∃ k : Nat, k ≤ 8 ∧ o = str (jn 58 (pc6 a) k) ∧ i = .int .i64 (k : Int) ∧ Hid (Blk wr g 4 (bitsL a.b).toArray) ∧ Hid (Below w.heap.size w wr)) (fun _ i _ => 8 - (intOf i).toNat)
    case atStart => exact ⟨0, by omega, rfl, rfl, HG1, HL1⟩
    case round =>
      obtain ⟨k, hk, rfl, rfl, HG, HL⟩ := hrel
      clear HG1 HL1
      by_cases hlt : k < 8
      · have hltI : (k : Int) < 8 := by omega
        have hjl := jn_len 58 (pc6 a) 12 (fun j => pc6_len a j) k
        have hjn := jn_succ 58 (pc6 a) k
        have hpl : (pc6 a k).length ≤ 12 := pc6_len a k
        have hpc : pc6 a k = hexL (getV a (16 * k) 16) 4 := rfl
        generalize jn 58 (pc6 a) k = o at hjl hjn
        generalize pc6 a k = pp at hjn hpl hpc
        have hol : o.length ≤ 300 := by omega
        obtain ⟨u, hu⟩ : ∃ u : Nat, u = 16 * k := ⟨_, rfl⟩
        have huI : (16 : Int) * (k : Int) = (u : Int) := by omega
        have hu128 : u + 16 ≤ 128 := by omega
        rw [← hu] at hpc
        have HJN := hide hjn
        clear hu hjl hjn
        simp only [str]
        go_wp2
        go_loopw [10, 11] (fun v i wr' => ∃ i' : Nat, i' ≤ 16 ∧ v = .int .i64 (getV a u i' : Int) ∧ i = .int .i64 (i' : Int) ∧ Hid (wr' = wr)) (fun _ i _ => 16 - (intOf i).toNat)
        case atStart => exact ⟨0, by omega, rfl, rfl, hide rfl⟩
        case round =>
          obtain ⟨i, hi, rfl, rfl, HW⟩ := hrel
          by_cases hlt2 : i < 16
          · have hlt2I : (i : Int) < 16 := by omega
            have hvl := getV_lt a u i
            have hp : (2 : Nat) ^ i ≤ 2 ^ 16 := Nat.pow_le_pow_right (by decide) (by omega)
            have hb : getV a u i < 65536 := by omega
            have hs : getV a u (i + 1) = getV a u i * 2 + if a.b (u + i) then 1 else 0 := by rw [getV, at_b]
            have cb := HG.out.cell (u + i)
            rw [List.getElem?_toArray, bitsL_get _ _ (by omega)] at cb
            have hwe := HW.out
            subst hwe
            obtain ⟨q, hq⟩ : ∃ q : Nat, q = u + i := ⟨_, rfl⟩
            have hqI : (u : Int) + (i : Int) = (q : Int) := by omega
            have hq128 : (q : Int) < 128 := by omega
            rw [← hq] at hs cb
            generalize getV a u i = z at hs hb hvl
            have HS := hide hs
            clear hs hvl hp hq
            cases hbit : a.b q with
            | true =>
              rw [hbit] at cb
              go_wp2
              refine ⟨⟨i + 1, by omega, ?_, by go_num, by first | exact hide rfl | exact hide trivial⟩, by simp only [intOf]; omega⟩
              rw [HS.out, hbit]; simp
            | false =>
              rw [hbit] at cb
              go_wp2
              refine ⟨⟨i + 1, by omega, ?_, by go_num, by first | exact hide rfl | exact hide trivial⟩, by simp only [intOf]; omega⟩
              rw [HS.out, hbit]; simp
          · obtain rfl : i = 16 := by omega
            have hwe := HW.out
            subst hwe
            have hvl : getV a u 16 < 65536 := getV_lt a u 16
            generalize getV a u 16 = z at hpc hvl
            clear hi
            by_cases hk0 : k = 0
            · subst hk0
              have hk0I : ¬ (0 : Int) < ((0 : Nat) : Int) := by omega

              go_wp2
              go_loopw [6, 13] (fun x dv wr' => ∃ j : Nat, j ≤ 4 ∧ x = str (o ++ hexL z j) ∧ dv = .int .i64 (dvs j) ∧ Hid (wr' = wr)) (fun _ dv _ => (intOf dv).toNat)
              case atStart => exact ⟨0, by omega, by simp [hexL, str], rfl, hide rfl⟩
              case round =>
                obtain ⟨j, hj, rfl, rfl, HW2⟩ := hrel
                have hwe := HW2.out
                subst hwe
                by_cases hj4 : j < 4
                · obtain ⟨d, q, hd, hd16, hdv0, hnx, hsm⟩ := dvs_step z j hj4
                  have hx : hexL z (j + 1) = hexL z j ++ [hexd d] := by rw [hexL, hd]
                  have hcut : ∀ w, (Instr.slice 9 (.string ⟨#[48, 49, 50, 51, 52, 53, 54, 55, 56, 57, 97, 98, 99, 100, 101, 102]⟩) (some (.int .i64 (d : Int))) (some (.int .i64 ((d : Int) + 1))) none).run Tryd.prog w = .ok (.string ⟨#[hexd d]⟩) w := fun w => run_hex_cut ⟨d, hd16⟩ w
                  have hxl := hexL_length z j
                  have hcat := fun w => run_cat (P := Tryd.prog) (o ++ hexL z j) [hexd d] (by simp; omega) (by simp) w
                  have hd16' : d < 16 := hd16
                  generalize hexL z j = hx0 at hx hcat hxl
                  have HX := hide hx
                  have HD := hide hd
                  simp only [str]
                  generalize dvs j = D at hdv0 hnx hsm ⊢
                  obtain ⟨e1, eq1, eq2, e2⟩ := hnx
                  have hqw := q_wrap (Nat.lt_of_le_of_lt eq1 hvl)
                  obtain ⟨hqm, hqt⟩ := q_facts eq2
                  have HE2 := hide e2
                  clear e2 eq2
                  clear hx hd hxl hd16
                  go_wp2
                  refine ⟨⟨j + 1, by omega, ?_, ?_, by first | exact hide rfl | exact hide trivial⟩, ?_⟩
                  · first | (rw [HX.out]; done) | (rw [HX.out]; simp)
                  · rw [HE2.out]
                  · simp only [intOf]; omega
                · obtain rfl : j = 4 := by omega
                  rw [← hpc]
                  simp only [str, dvs]
                  go_wp2
                  refine ⟨⟨0 + 1, by omega, ?_, rfl, HG, HL⟩, by simp only [intOf]; omega⟩
                  rw [HJN.out]; simp [str]
            · have hk0I : (0 : Int) < (k : Int) := by omega
              have hcat0 := fun w => run_cat (P := Tryd.prog) o [58] (by omega) (by simp) w
              obtain ⟨ob, hob⟩ : ∃ ob, ob = o ++ [58] := ⟨_, rfl⟩
              have hobl : ob.length ≤ 301 := by rw [hob]; simp; omega
              rw [← hob] at hcat0
              have HOB := hide hob
              clear hob
              go_wp2
              go_loopw [6, 13] (fun x dv wr' => ∃ j : Nat, j ≤ 4 ∧ x = str (ob ++ hexL z j) ∧ dv = .int .i64 (dvs j) ∧ Hid (wr' = wr)) (fun _ dv _ => (intOf dv).toNat)
              case atStart => exact ⟨0, by omega, by simp [hexL, str], rfl, hide rfl⟩
              case round =>
                obtain ⟨j, hj, rfl, rfl, HW2⟩ := hrel
                have hwe := HW2.out
                subst hwe
                by_cases hj4 : j < 4
                · obtain ⟨d, q, hd, hd16, hdv0, hnx, hsm⟩ := dvs_step z j hj4
                  have hx : hexL z (j + 1) = hexL z j ++ [hexd d] := by rw [hexL, hd]
                  have hcut : ∀ w, (Instr.slice 9 (.string ⟨#[48, 49, 50, 51, 52, 53, 54, 55, 56, 57, 97, 98, 99, 100, 101, 102]⟩) (some (.int .i64 (d : Int))) (some (.int .i64 ((d : Int) + 1))) none).run Tryd.prog w = .ok (.string ⟨#[hexd d]⟩) w := fun w => run_hex_cut ⟨d, hd16⟩ w
                  have hxl := hexL_length z j
                  have hcat := fun w => run_cat (P := Tryd.prog) (ob ++ hexL z j) [hexd d] (by simp; omega) (by simp) w
                  have hd16' : d < 16 := hd16
                  generalize hexL z j = hx0 at hx hcat hxl
                  have HX := hide hx
                  have HD := hide hd
                  simp only [str]
                  generalize dvs j = D at hdv0 hnx hsm ⊢
                  obtain ⟨e1, eq1, eq2, e2⟩ := hnx
                  have hqw := q_wrap (Nat.lt_of_le_of_lt eq1 hvl)
                  obtain ⟨hqm, hqt⟩ := q_facts eq2
                  have HE2 := hide e2
                  clear e2 eq2
                  clear hx hd hxl hd16 hcat0 hobl hol hpl huI hu128 hk0I hpc hk0 hk hlt hltI hj eq1
                  go_wp2
                  refine ⟨⟨j + 1, by omega, ?_, ?_, by first | exact hide rfl | exact hide trivial⟩, ?_⟩
                  · first | (rw [HX.out]; done) | (rw [HX.out]; simp)
                  · rw [HE2.out]
                  · simp only [intOf]; omega
                · obtain rfl : j = 4 := by omega
                  rw [← hpc]
                  simp only [str, dvs]
                  go_wp2
                  refine ⟨⟨k + 1, by omega, ?_, by go_num, HG, HL⟩, by simp only [intOf]; omega⟩
                  rw [HJN.out, if_neg hk0, HOB.out]
      · obtain rfl : k = 8 := by omega
        rw [← HV.out]
        go_wp2
        go_ret
        exact ⟨rfl, HL.out⟩

set_option maxRecDepth 8000 in
set_option maxHeartbeats 1600000 in
theorem refPrefix_any (n : Int) (p : Pf) (ha : p.a.Ok) (hf : p.right n = true) (w : World) : Calls Tryd.prog 18 #[.int .i64 n, p.val] w fun e w' => e = .returned (str (prefixS n p)) ∧ Below w.heap.size w w' := by
  have hB : Below w.heap.size w (w.alloc (.cells p.cs 32)) := (Below.refl _ _).alloc (Nat.le_refl _) _
  have HA := hide (Blk.new w 32 p.cs)
  obtain ⟨hof, _⟩ := right_of ha hf
  obtain ⟨hn0, hn1⟩ := right_n hf
  obtain ⟨k, hk⟩ : ∃ k : Nat, (k : Int) = p.n := ⟨p.n.toNat, by omega⟩
  have hv : prefixS n p = (addrS n p.a ++ [47]) ++ Lib.decDigits k := by rw [prefixS, hf, if_neg (by decide), ← hk, itoa_nat]
  have hkl : (Lib.decDigits k).length ≤ 3 := by rw [← itoa_nat]; exact itoa_len k (by omega)
  have hal := addrS_len n p.a
  have hadr := fun w => refAddr_any n p.a ha hof w
  have hit := fun w => refDigits_any k (by omega) w
  generalize addrS n p.a = s1 at hv hal hadr
  generalize Lib.decDigits k = s2 at hv hkl hit
  have HV := hide hv
  have hcat := fun w => run_cat (P := Tryd.prog) s1 [47] (by omega) (by simp) w
  have hcat2 := fun w => run_cat (P := Tryd.prog) (s1 ++ [47]) s2 (by simp; omega) (by omega) w
  simp only [Ad.val, str] at hadr
  simp only [Pf.val, str]
  clear hv hof hf
  have c0 : (w.alloc (.cells p.cs 32)).drew.cell? ⟨w.heap.size, 0, none⟩ = some (.int .u64 (p.a.x : Int)) := HA.out.cell 0
  have c1 : (w.alloc (.cells p.cs 32)).drew.cell? ⟨w.heap.size, 1, none⟩ = some (.int .u64 (p.a.y : Int)) := HA.out.cell 1
  have c2 : (w.alloc (.cells p.cs 32)).drew.cell? ⟨w.heap.size, 2, none⟩ = some (.int .i64 p.n) := HA.out.cell 2
  have h1 : Below w.heap.size w (w.alloc (.cells p.cs 32)).drew := hB.drew
  go_enter Tryd.func18, Tryd.ntmps18
  go_wp2_with fail
  go_region_held3 (fun W => Below w.heap.size w W ∧ W.cell? ⟨w.heap.size, 0, none⟩ = some (.int .u64 (p.a.x : Int)) ∧ W.cell? ⟨w.heap.size, 1, none⟩ = some (.int .u64 (p.a.y : Int)) ∧ W.cell? ⟨w.heap.size, 2, none⟩ = some (.int .i64 p.n)) (first | exact ⟨h1, c0, c1, c2⟩ | exact ⟨h2, d0, d1, d2⟩)
    (first
    | (go_at_call 14; refine (hadr _).mono ?_; rintro e w2 ⟨rfl, hb2⟩; have h2 := h1.trans (hb2.mono h1.size); have d0 := (hb2.cell (p := ⟨w.heap.size, 0, none⟩) HA.out.drew.lt).trans c0; have d1 := (hb2.cell (p := ⟨w.heap.size, 1, none⟩) HA.out.drew.lt).trans c1; have d2 := (hb2.cell (p := ⟨w.heap.size, 2, none⟩) HA.out.drew.lt).trans c2)
    | (go_at_call 34; rw [← hk]; refine (hit _).mono ?_; rintro e w3 ⟨rfl, rfl⟩))
  all_goals
    go_wp2
    go_ret
    exact ⟨by rw [HV.out, List.append_assoc]; rfl, h2⟩
end Go.Proofs.YtaljphjcmkibkaaDoor
