/- The contract of the reference's ParseAddr: it answers as written.ParseAddr does. Conditions: at most 2^20 bytes. -/
import Derived.Test.YtaljphjcmkibkaaDoorXD
namespace Go.Proofs.YtaljphjcmkibkaaDoor
open Go.RowKit Go.WideShapes Go.ChangeShapes

theorem bits_zero : bitsL (fun _ => false) = bitsL (⟨0, 0⟩ : Ad).b := bitsL_congr fun j _ => (b_zero j).symm
theorem ofB_self {a : Ad} (ha : a.Ok) : Ad.ofB a.b = a := Ad.ext_b (Ad.ofB_ok _) ha fun k hk => b_ofB _ k hk
/-- The bits when i of a number's are laid, from the right. -/
def pb (a : Ad) (u wide n i : Nat) : Nat → Bool := fun j => if u + wide ≤ j + i ∧ j < u + wide then (n / 2 ^ (wide - 1 - (j - u)) % 2 == 1) else a.b j
theorem pb_zero (a : Ad) (u wide n : Nat) : bitsL (pb a u wide n 0) = bitsL a.b := bitsL_congr fun j _ => by rw [pb, if_neg (by omega)]
theorem pb_full (a : Ad) (u wide n : Nat) (h : u + wide ≤ 128) : bitsL (pb a u wide n wide) = bitsL (putV a u wide n wide).b := bitsL_congr fun j hj => by
  rw [b_put a u wide n h wide (Nat.le_refl _) j hj, pb]
  by_cases hc : u ≤ j ∧ j < u + wide
  · rw [if_pos (by omega), if_pos hc]
  · rw [if_neg (by omega), if_neg hc]
theorem pb_step (a : Ad) (u wide n i : Nat) (hi : i < wide) : (bitsL (pb a u wide n i)).set (u + (wide - 1 - i)) (.bool (n / 2 ^ i % 2 == 1)) = bitsL (pb a u wide n (i + 1)) := by
  rw [bitsL_set]
  refine bitsL_congr fun j _ => ?_
  by_cases h : j = u + (wide - 1 - i)
  · rw [if_pos h, pb, if_pos (by omega), show wide - 1 - (j - u) = i by omega]
  · rw [if_neg h, pb, pb]
    by_cases hc : u + wide ≤ j + i ∧ j < u + wide
    · rw [if_pos hc, if_pos (by omega)]
    · rw [if_neg hc, if_neg (by omega)]
theorem int_odd (q : Nat) : (((q : Nat) : Int) % 2 == 1) = (q % 2 == 1) := by
  rw [Bool.eq_iff_iff]; simp; omega

set_option maxRecDepth 16000 in
set_option maxHeartbeats 3200000 in
theorem refParseAddr_any (n : Int) (l : List UInt8) (hl : l.length ≤ 1048576) (w : World) : Calls Tryd.prog 19 #[.int .i64 n, str l] w fun e w' => e = .returned (.tuple #[(parseA n l).1.val, .int .i64 (parseA n l).2]) ∧ Below w.heap.size w w' := by
  have HR := hide (Blk.new w 23 [.int .u64 0, .int .u64 0].toArray)
  have HL := hide ((Below.refl w.heap.size w).alloc (Nat.le_refl _) (.cells [.int .u64 0, .int .u64 0].toArray 23))
  by_cases h32 : n = 32
  · subst h32
    have hpv : parseA 32 l = fieldsV rd4 46 4 8 l := by rw [parseA, if_pos rfl]
    have hsp := fun w => refSplit_any 46 l hl w
    have hls := splitL_len_le 46 l
    have hfv : fieldsV rd4 46 4 8 l = if (splitL 46 l).length = 4 then foldF rd4 8 0 ⟨0, 0⟩ (splitL 46 l) else (⟨0, 0⟩, 4) := rfl
    rw [hfv] at hpv
    generalize splitL 46 l = ps at hpv hsp hls
    have HPV := hide hpv
    clear hpv hfv
    go_enter Tryd.func19, Tryd.ntmps19
    simp only [str]
    go_wp2_with fail
    refine (hsp _).mono ?_
    rintro e w1 ⟨gs, cp, rfl, hown, hb1⟩
    have HR1 := hide (HR.out.below hb1 HR.out.lt)
    have HL1 := hide (HL.out.trans (hb1.mono HL.out.size))
    have hgs : gs < w1.heap.size := by
      rcases hown.2 with ⟨h0, _⟩ | ⟨g', cap, cur, hv, hb, hg, _⟩
      · cases h0
      · injection hv with e1 _ _
        injection e1 with e1
        injection e1 with e1
        subst e1
        exact Blk.lt (t := 9) hg
    have hcap := own_cap hown
    have hcells : ∀ j x, ps[j]? = some x → w1.cell? ⟨gs, j, none⟩ = some (str x) := fun j x hx => by
      have := hown.cells (g := gs) rfl j (str x) (by rw [List.getElem?_map, hx]; rfl)
      simpa [Addr.add_lit] using this
    have HC := hide hcells
    have HG0 := hide (Blk.new w1 4 (bitsL (⟨0, 0⟩ : Ad).b).toArray)
    have HL2 := hide ((Below.refl w1.heap.size w1).alloc (Nat.le_refl _) (.cells (bitsL (⟨0, 0⟩ : Ad).b).toArray 4))
    have hmk := run_make_bits
    rw [bits_zero] at hmk
    obtain ⟨zs, hzs⟩ : ∃ zs, zs = (bitsL (⟨0, 0⟩ : Ad).b).toArray := ⟨_, rfl⟩
    rw [← hzs] at hmk HG0 HL2
    have HZ := hide hzs
    clear hb1 hown hcells hsp HR HL hzs
    by_cases hlen : ps.length = 4
    · have hpv := HPV.out
      rw [if_pos hlen] at hpv
      have HPV2 := hide hpv
      have hlenI : ((ps.length : Nat) : Int) = 4 := by omega
      clear hpv HPV
      go_wp2
      clear hmk
      go_loopw [10] (fun i wr => ∃ (k : Nat) (a : Ad), k ≤ 4 ∧ a.Ok ∧ i = .int .i64 (k : Int) ∧ Hid (foldF rd4 8 0 ⟨0, 0⟩ ps = foldF rd4 8 k a (ps.drop k)) ∧ Hid (Blk wr w1.heap.size 4 (bitsL a.b).toArray) ∧ Hid (Below w1.heap.size w1 wr)) (fun i _ => 4 - (intOf i).toNat)
      case atStart => exact ⟨0, ⟨0, 0⟩, Nat.zero_le _, ⟨by decide, by decide⟩, rfl, hide rfl, hide (HG0.out.of_eq HZ.out), HL2⟩
      case round =>
        obtain ⟨k, a, hk, ha, rfl, HF, HG, HB⟩ := hrel
        clear HG0 HL2
        by_cases hlt : k < 4
        · have hltI : (k : Int) < 4 := by omega
          have hltp : k < ps.length := by omega
          have hlt3 : (k : Int) < ((ps.length : Nat) : Int) := by omega
          have hdr := List.drop_eq_getElem_cons hltp
          have hxc := HC.out k _ (List.getElem?_eq_getElem hltp)
          have hxl := hls _ (List.getElem_mem hltp)
          generalize ps[k] = x at hdr hxc hxl
          have hcell := (HB.out.cell (p := ⟨gs, k, none⟩) hgs).trans hxc
          have hF := HF.out
          rw [hdr, foldF] at hF
          have hfour := fun w => four_any x w
          have hrb := rd4_lt x
          simp only [str] at hcell hfour
          clear hdr hxc HF
          obtain ⟨z, hzn, hz⟩ := number_nat x 255
          have hnum := fun w => refNumber_any x (by omega) 255 w
          have hr1 : (rd4 x).1 = z := by rw [rd4, hzn]; simp
          have hr2 : (rd4 x).2 = (number x 255).2 := rfl
          rw [hr1, hr2] at hF
          rw [hzn] at hnum
          generalize (number x 255).2 = ok at hnum hF
          generalize fourI x = y at hfour
          simp only [str] at hnum
          clear hr1 hr2 hzn hrb
          go_wp2_with fail
          refine (hfour wr).mono ?_
          rintro e w3 ⟨rfl, rfl⟩
          go_wp2_with fail
          refine (hnum _).mono ?_
          rintro e w4 ⟨rfl, rfl⟩
          clear hfour hnum
          cases ok with
          | true =>
            rw [if_pos rfl] at hF
            obtain ⟨u, hu⟩ : ∃ u : Nat, u = 8 * k := ⟨_, rfl⟩
            have huI : (8 : Int) * (k : Int) = (u : Int) := by omega
            have hu128 : u + 8 ≤ 128 := by omega
            rw [← hu] at hF
            have HF := hide hF
            have HG2 := hide (HG.out.of_eq (congrArg List.toArray (pb_zero a u 8 z).symm))
            clear hF hu HG hcell hxl
            go_wp2
            go_loopw [11, 14] (fun v i wr' => ∃ i' : Nat, i' ≤ 8 ∧ v = .int .i64 ((z / 2 ^ i' : Nat) : Int) ∧ i = .int .i64 (7 - (i' : Int)) ∧ Hid (Blk wr' w1.heap.size 4 (bitsL (pb a u 8 z i')).toArray) ∧ Hid (Below w1.heap.size w1 wr')) (fun _ i _ => (intOf i + 1).toNat)
            case atStart => exact ⟨0, by omega, by simp, rfl, HG2, HB⟩
            case round =>
              obtain ⟨i, hi, rfl, rfl, HG3, HB3⟩ := hrel
              clear HG2 HB
              by_cases hi2 : i < 8
              · have hset := pb_step a u 8 z i hi2
                have hc := HG3.out.cell (u + (7 - i))
                rw [List.getElem?_toArray, bitsL_get _ _ (by omega)] at hc
                have hf := HG3.out.frozen (u + (7 - i))
                obtain ⟨p, hp⟩ : ∃ p : Nat, p = u + (7 - i) := ⟨_, rfl⟩
                obtain ⟨d, hd⟩ : ∃ d : Int, d = 7 - (i : Int) := ⟨_, rfl⟩
                have hpI : (u : Int) + d = (p : Int) := by omega
                have hd0 : 0 ≤ d := by omega
                have hd15 : d ≤ 15 := by omega
                have hp128 : (p : Int) < 128 := by omega
                rw [show u + (8 - 1 - i) = p by omega] at hset
                rw [← hp] at hc hf
                have hq64 : z / 2 ^ i < 1000000000 := Nat.lt_of_le_of_lt (Nat.div_le_self _ _) hz
                have hhalf : z / 2 ^ (i + 1) = z / 2 ^ i / 2 := by rw [Nat.pow_succ, Nat.div_div_eq_div_mul]
                generalize z / 2 ^ i = q at hq64 hhalf hset
                obtain ⟨q2, hq2⟩ : ∃ q2 : Nat, q2 = q / 2 := ⟨_, rfl⟩
                have hqd : (q : Int) / 2 = (q2 : Int) := by omega
                have hqw : wrap64 (q2 : Int) = (q2 : Int) := by unfold wrap64; omega
                rw [← hq2] at hhalf
                have HH := hide hhalf
                have HS := hide hset
                have HD := hide hd
                have HV := hide (int_odd q)
                clear hhalf hset hq2 hp
                rw [← hd]
                have HI := hide hi2
                have HD0 := hide hd0
                clear hd hi2 hi hk hlt hltp hlt3 hlen hlenI hcap hgs hls hz
                go_wp2
                have hi2 := HI.out
                have hdd := HD.out
                refine ⟨⟨i + 1, hi2, ?_, ?_, hide ((HG3.out.setL p _).of_eq ?_), hide (HB3.out.setCell (Nat.le_refl _) _)⟩, ?_⟩
                · rw [HH.out]
                · rw [HD.out]; congr 1; omega
                · rw [HV.out, HS.out]
                · simp only [intOf]; omega
              · obtain rfl : i = 8 := by omega
                have hd : (7 : Int) - ((8 : Nat) : Int) = -1 := by omega
                rw [hd]
                go_wp2
                refine ⟨⟨k + 1, putV a u 8 z 8, by omega, putV_ok ha _ _ _ _, by go_num, HF, hide (HG3.out.of_eq ?_), HB3⟩, by simp only [intOf]; omega⟩
                rw [pb_full a u 8 z hu128]
          | false =>
            rw [if_neg (by decide)] at hF
            have hv : parseA 32 l = (⟨0, 0⟩, 4) := HPV2.out.trans hF
            have HV := hide hv
            have HRR := hide (HR1.out.below HB.out HR1.out.lt)
            have d0 := HRR.out.cell 0
            have d1 := HRR.out.cell 1
            have f0 := HRR.out.frozen 0
            have f1 := HRR.out.frozen 1
            simp at d0 d1
            clear hv hF hxl
            go_wp2
            refine bodyPost_ret (results_blk_tmp (g := w.heap.size) (t := 23) (cs := (Ad.mk 0 0).cs) rfl rfl ((HRR.out.setL 0 _).setL 1 _) aB zB) rfl ⟨by rw [HV.out]; rfl, ?_⟩
            exact ((HL1.out.trans (HB.out.mono HL1.out.size)).setCell (Nat.le_refl _) _).setCell (Nat.le_refl _) _
        · obtain rfl : k = 4 := by omega
          have hF := HF.out
          rw [← hlen, List.drop_length, foldF] at hF
          have hv : parseA 32 l = (a, 0) := HPV2.out.trans hF
          have HV := hide hv
          have hwd := words_any a.b w1.heap.size wr HG.out
          rw [ofB_self ha] at hwd
          have HRR := hide (HR1.out.below HB.out HR1.out.lt)
          simp only [Ad.val] at hwd
          clear hv hF HF
          go_wp2_with fail
          refine hwd.mono ?_
          rintro e w5 ⟨rfl, hb5⟩
          have HR5 := hide (HRR.out.below hb5 HRR.out.lt)
          have d0 := HR5.out.cell 0
          have d1 := HR5.out.cell 1
          have f0 := HR5.out.frozen 0
          have f1 := HR5.out.frozen 1
          simp at d0 d1
          have hb6 := HB.out.trans (hb5.mono HB.out.size)
          have HL6 := hide (HL1.out.trans (hb6.mono HL1.out.size))
          clear hb5 hb6 hwd
          go_wp2
          refine bodyPost_ret (results_blk_tmp (g := w.heap.size) (t := 23) (cs := a.cs) rfl rfl ((HR5.out.setL 0 _).setL 1 _) aB zB) rfl ⟨by rw [HV.out]; rfl, ?_⟩
          exact (HL6.out.setCell (Nat.le_refl _) _).setCell (Nat.le_refl _) _
    · have hpv := HPV.out
      rw [if_neg hlen] at hpv
      have HV := hide hpv
      have hlenI : ((ps.length : Nat) : Int) ≠ 4 := by omega
      have HRR := hide (HR1.out.below HL2.out HR1.out.lt)
      have d0 := HRR.out.cell 0
      have d1 := HRR.out.cell 1
      have f0 := HRR.out.frozen 0
      have f1 := HRR.out.frozen 1
      simp at d0 d1
      clear hpv HPV hlen
      go_wp2
      refine bodyPost_ret (results_blk_tmp (g := w.heap.size) (t := 23) (cs := (Ad.mk 0 0).cs) rfl rfl ((HRR.out.setL 0 _).setL 1 _) aB zB) rfl ⟨by rw [HV.out]; rfl, ?_⟩
      exact ((HL1.out.trans (HL2.out.mono HL1.out.size)).setCell (Nat.le_refl _) _).setCell (Nat.le_refl _) _
  · by_cases h128 : n = 128
    · subst h128
      clear h32
      have hpv : parseA 128 l = fieldsV digits 58 8 16 l := by rw [parseA, if_neg (by decide), if_pos rfl]
      have hsp := fun w => refSplit_any 58 l hl w
      have hls := splitL_len_le 58 l
      have hfv : fieldsV digits 58 8 16 l = if (splitL 58 l).length = 8 then foldF digits 16 0 ⟨0, 0⟩ (splitL 58 l) else (⟨0, 0⟩, 4) := rfl
      rw [hfv] at hpv
      generalize splitL 58 l = ps at hpv hsp hls
      have HPV := hide hpv
      clear hpv hfv
      go_enter Tryd.func19, Tryd.ntmps19
      simp only [str]
      go_wp2_with fail
      refine (hsp _).mono ?_
      rintro e w1 ⟨gs, cp, rfl, hown, hb1⟩
      have HR1 := hide (HR.out.below hb1 HR.out.lt)
      have HL1 := hide (HL.out.trans (hb1.mono HL.out.size))
      have hgs : gs < w1.heap.size := by
        rcases hown.2 with ⟨h0, _⟩ | ⟨g', cap, cur, hv, hb, hg, _⟩
        · cases h0
        · injection hv with e1 _ _
          injection e1 with e1
          injection e1 with e1
          subst e1
          exact Blk.lt (t := 9) hg
      have hcap := own_cap hown
      have hcells : ∀ j x, ps[j]? = some x → w1.cell? ⟨gs, j, none⟩ = some (str x) := fun j x hx => by
        have := hown.cells (g := gs) rfl j (str x) (by rw [List.getElem?_map, hx]; rfl)
        simpa [Addr.add_lit] using this
      have HC := hide hcells
      have HG0 := hide (Blk.new w1 4 (bitsL (⟨0, 0⟩ : Ad).b).toArray)
      have HL2 := hide ((Below.refl w1.heap.size w1).alloc (Nat.le_refl _) (.cells (bitsL (⟨0, 0⟩ : Ad).b).toArray 4))
      have hmk := run_make_bits
      rw [bits_zero] at hmk
      obtain ⟨zs, hzs⟩ : ∃ zs, zs = (bitsL (⟨0, 0⟩ : Ad).b).toArray := ⟨_, rfl⟩
      rw [← hzs] at hmk HG0 HL2
      have HZ := hide hzs
      clear hb1 hown hcells hsp HR HL hzs
      by_cases hlen : ps.length = 8
      · have hpv := HPV.out
        rw [if_pos hlen] at hpv
        have HPV2 := hide hpv
        have hlenI : ((ps.length : Nat) : Int) = 8 := by omega
        clear hpv HPV
        go_wp2
        clear hmk
        go_loopw [10] (fun i wr => ∃ (k : Nat) (a : Ad), k ≤ 8 ∧ a.Ok ∧ i = .int .i64 (k : Int) ∧ Hid (foldF digits 16 0 ⟨0, 0⟩ ps = foldF digits 16 k a (ps.drop k)) ∧ Hid (Blk wr w1.heap.size 4 (bitsL a.b).toArray) ∧ Hid (Below w1.heap.size w1 wr)) (fun i _ => 8 - (intOf i).toNat)
        case atStart => exact ⟨0, ⟨0, 0⟩, Nat.zero_le _, ⟨by decide, by decide⟩, rfl, hide rfl, hide (HG0.out.of_eq HZ.out), HL2⟩
        case round =>
          obtain ⟨k, a, hk, ha, rfl, HF, HG, HB⟩ := hrel
          clear HG0 HL2
          by_cases hlt : k < 8
          · have hltI : (k : Int) < 8 := by omega
            have hltp : k < ps.length := by omega
            have hlt3 : (k : Int) < ((ps.length : Nat) : Int) := by omega
            have hdr := List.drop_eq_getElem_cons hltp
            have hxc := HC.out k _ (List.getElem?_eq_getElem hltp)
            have hxl := hls _ (List.getElem_mem hltp)
            generalize ps[k] = x at hdr hxc hxl
            have hcell := (HB.out.cell (p := ⟨gs, k, none⟩) hgs).trans hxc
            have hF := HF.out
            rw [hdr, foldF] at hF
            have hfour := fun w => four_any x w
            have hrb := digits_lt x
            simp only [str] at hcell hfour
            clear hdr hxc HF
            have hfi : fourI x = if (digits x).2 then ((digits x).1 : Int) else -1 := rfl
            generalize (digits x).1 = z at hfi hF hrb
            have hz : z < 65536 := hrb
            generalize (digits x).2 = ok at hfi hF
            rw [hfi] at hfour
            clear hfi hrb
            cases ok with
            | true =>
              simp only [if_true] at hfour hF
              go_wp2_with fail
              refine (hfour wr).mono ?_
              rintro e w3 ⟨rfl, rfl⟩
              clear hfour
              obtain ⟨u, hu⟩ : ∃ u : Nat, u = 16 * k := ⟨_, rfl⟩
              have huI : (16 : Int) * (k : Int) = (u : Int) := by omega
              have hu128 : u + 16 ≤ 128 := by omega
              rw [← hu] at hF
              have HF := hide hF
              have HG2 := hide (HG.out.of_eq (congrArg List.toArray (pb_zero a u 16 z).symm))
              clear hF hu HG hcell hxl
              go_wp2
              go_loopw [11, 14] (fun v i wr' => ∃ i' : Nat, i' ≤ 16 ∧ v = .int .i64 ((z / 2 ^ i' : Nat) : Int) ∧ i = .int .i64 (15 - (i' : Int)) ∧ Hid (Blk wr' w1.heap.size 4 (bitsL (pb a u 16 z i')).toArray) ∧ Hid (Below w1.heap.size w1 wr')) (fun _ i _ => (intOf i + 1).toNat)
              case atStart => exact ⟨0, by omega, by simp, rfl, HG2, HB⟩
              case round =>
                obtain ⟨i, hi, rfl, rfl, HG3, HB3⟩ := hrel
                clear HG2 HB
                by_cases hi2 : i < 16
                · have hset := pb_step a u 16 z i hi2
                  have hc := HG3.out.cell (u + (15 - i))
                  rw [List.getElem?_toArray, bitsL_get _ _ (by omega)] at hc
                  have hf := HG3.out.frozen (u + (15 - i))
                  obtain ⟨p, hp⟩ : ∃ p : Nat, p = u + (15 - i) := ⟨_, rfl⟩
                  obtain ⟨d, hd⟩ : ∃ d : Int, d = 15 - (i : Int) := ⟨_, rfl⟩
                  have hpI : (u : Int) + d = (p : Int) := by omega
                  have hd0 : 0 ≤ d := by omega
                  have hd15 : d ≤ 15 := by omega
                  have hp128 : (p : Int) < 128 := by omega
                  rw [show u + (16 - 1 - i) = p by omega] at hset
                  rw [← hp] at hc hf
                  have hq64 : z / 2 ^ i < 65536 := Nat.lt_of_le_of_lt (Nat.div_le_self _ _) hz
                  have hhalf : z / 2 ^ (i + 1) = z / 2 ^ i / 2 := by rw [Nat.pow_succ, Nat.div_div_eq_div_mul]
                  generalize z / 2 ^ i = q at hq64 hhalf hset
                  obtain ⟨q2, hq2⟩ : ∃ q2 : Nat, q2 = q / 2 := ⟨_, rfl⟩
                  have hqd : (q : Int) / 2 = (q2 : Int) := by omega
                  have hqw : wrap64 (q2 : Int) = (q2 : Int) := by unfold wrap64; omega
                  rw [← hq2] at hhalf
                  have HH := hide hhalf
                  have HS := hide hset
                  have HD := hide hd
                  have HV := hide (int_odd q)
                  clear hhalf hset hq2 hp
                  rw [← hd]
                  have HI := hide hi2
                  have HD0 := hide hd0
                  clear hd hi2 hi hk hlt hltp hlt3 hlen hlenI hcap hgs hls hz
                  go_wp2
                  have hi2 := HI.out
                  have hdd := HD.out
                  refine ⟨⟨i + 1, hi2, ?_, ?_, hide ((HG3.out.setL p _).of_eq ?_), hide (HB3.out.setCell (Nat.le_refl _) _)⟩, ?_⟩
                  · rw [HH.out]
                  · rw [HD.out]; congr 1; omega
                  · rw [HV.out, HS.out]
                  · simp only [intOf]; omega
                · obtain rfl : i = 16 := by omega
                  have hd : (15 : Int) - ((16 : Nat) : Int) = -1 := by omega
                  rw [hd]
                  go_wp2
                  refine ⟨⟨k + 1, putV a u 16 z 16, by omega, putV_ok ha _ _ _ _, by go_num, HF, hide (HG3.out.of_eq ?_), HB3⟩, by simp only [intOf]; omega⟩
                  rw [pb_full a u 16 z hu128]
            | false =>
              simp only [Bool.false_eq_true, if_false] at hfour hF
              go_wp2_with fail
              refine (hfour wr).mono ?_
              rintro e w3 ⟨rfl, rfl⟩
              clear hfour
              have hv : parseA 128 l = (⟨0, 0⟩, 4) := HPV2.out.trans hF
              have HV := hide hv
              have HRR := hide (HR1.out.below HB.out HR1.out.lt)
              have d0 := HRR.out.cell 0
              have d1 := HRR.out.cell 1
              have f0 := HRR.out.frozen 0
              have f1 := HRR.out.frozen 1
              simp at d0 d1
              clear hv hF hxl
              go_wp2
              refine bodyPost_ret (results_blk_tmp (g := w.heap.size) (t := 23) (cs := (Ad.mk 0 0).cs) rfl rfl ((HRR.out.setL 0 _).setL 1 _) aB zB) rfl ⟨by rw [HV.out]; rfl, ?_⟩
              exact ((HL1.out.trans (HB.out.mono HL1.out.size)).setCell (Nat.le_refl _) _).setCell (Nat.le_refl _) _
          · obtain rfl : k = 8 := by omega
            have hF := HF.out
            rw [← hlen, List.drop_length, foldF] at hF
            have hv : parseA 128 l = (a, 0) := HPV2.out.trans hF
            have HV := hide hv
            have hwd := words_any a.b w1.heap.size wr HG.out
            rw [ofB_self ha] at hwd
            have HRR := hide (HR1.out.below HB.out HR1.out.lt)
            simp only [Ad.val] at hwd
            clear hv hF HF
            go_wp2_with fail
            refine hwd.mono ?_
            rintro e w5 ⟨rfl, hb5⟩
            have HR5 := hide (HRR.out.below hb5 HRR.out.lt)
            have d0 := HR5.out.cell 0
            have d1 := HR5.out.cell 1
            have f0 := HR5.out.frozen 0
            have f1 := HR5.out.frozen 1
            simp at d0 d1
            have hb6 := HB.out.trans (hb5.mono HB.out.size)
            have HL6 := hide (HL1.out.trans (hb6.mono HL1.out.size))
            clear hb5 hb6 hwd
            go_wp2
            refine bodyPost_ret (results_blk_tmp (g := w.heap.size) (t := 23) (cs := a.cs) rfl rfl ((HR5.out.setL 0 _).setL 1 _) aB zB) rfl ⟨by rw [HV.out]; rfl, ?_⟩
            exact (HL6.out.setCell (Nat.le_refl _) _).setCell (Nat.le_refl _) _
      · have hpv := HPV.out
        rw [if_neg hlen] at hpv
        have HV := hide hpv
        have hlenI : ((ps.length : Nat) : Int) ≠ 8 := by omega
        have HRR := hide (HR1.out.below HL2.out HR1.out.lt)
        have d0 := HRR.out.cell 0
        have d1 := HRR.out.cell 1
        have f0 := HRR.out.frozen 0
        have f1 := HRR.out.frozen 1
        simp at d0 d1
        clear hpv HPV hlen
        go_wp2
        refine bodyPost_ret (results_blk_tmp (g := w.heap.size) (t := 23) (cs := (Ad.mk 0 0).cs) rfl rfl ((HRR.out.setL 0 _).setL 1 _) aB zB) rfl ⟨by rw [HV.out]; rfl, ?_⟩
        exact ((HL1.out.trans (HL2.out.mono HL1.out.size)).setCell (Nat.le_refl _) _).setCell (Nat.le_refl _) _
    · have hv : parseA n l = (⟨0, 0⟩, 1) := by rw [parseA, if_neg h32, if_neg h128]
      have HV := hide hv
      have d0 := HR.out.cell 0
      have d1 := HR.out.cell 1
      have f0 := HR.out.frozen 0
      have f1 := HR.out.frozen 1
      simp at d0 d1
      have b1 : (n != 32) = true := by simpa using h32
      have b2 : (n != 128) = true := by simpa using h128
      have b3 : (n != 32 && n != 128) = true := by simp [b1, b2]
      clear hv d0 d1 f0 f1
      go_enter Tryd.func19, Tryd.ntmps19
      simp only [str]
      go_wp2_with fail
      · refine bodyPost_ret (results_blk_tmp (g := w.heap.size) (t := 23) (cs := (Ad.mk 0 0).cs) rfl rfl HR.out aB zB) rfl ⟨by rw [HV.out]; rfl, ?_⟩
        exact HL.out
      all_goals (rename_i hc; exact absurd b3 (by simpa using hc))
end Go.Proofs.YtaljphjcmkibkaaDoor
