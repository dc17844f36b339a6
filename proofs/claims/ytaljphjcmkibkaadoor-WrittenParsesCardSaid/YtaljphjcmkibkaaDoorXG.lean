/- The contract of the reference's ParsePrefix, and of law02.Of. Conditions: at most 2^20 bytes. -/
import Derived.Test.YtaljphjcmkibkaaDoorXF
namespace Go.Proofs.YtaljphjcmkibkaaDoor
open Go.RowKit Go.WideShapes Go.ChangeShapes

theorem run_upto (l : List UInt8) (k : Nat) (hk : k ≤ l.length) (w : World) : (Instr.slice 9 (.string ⟨l.toArray⟩) none (some (.int .i64 (k : Int))) none).run Tryd.prog w = .ok (.string ⟨(l.take k).toArray⟩) w := by
  rw [run_slice_string_h w 9 _ Tryd.underlying9 .i64 _ (by omega) (by simp [ByteArray.size]; omega), ByteArray.extract_mk]
  simp
theorem run_from (l : List UInt8) (k : Nat) (hk : k < l.length) (w : World) : (Instr.slice 9 (.string ⟨l.toArray⟩) (some (.int .i64 ((k : Int) + 1))) none none).run Tryd.prog w = .ok (.string ⟨(l.drop (k + 1)).toArray⟩) w := by
  rw [run_slice_string_l w 9 _ Tryd.underlying9 .i64 _ (by omega) (by simp [ByteArray.size]; omega), ByteArray.extract_mk]
  have : ((k : Int) + 1).toNat = k + 1 := by omega
  rw [this]
  congr 3
  exact congrArg List.toArray (List.take_of_length_le (by simp [ByteArray.size]))
theorem parseP_parts {n : Int} {l l1 l2 : List UInt8} {b : Bool} (h : Lib.cut l [47] = (l1, l2, b)) (hb : b = false → l2 = []) :
    parseP n l = if (parseA n l1).2 ≠ 0 then (zeroP, (parseA n l1).2) else if (number l2 128).2 = false then (zeroP, 4) else if Pf.right n ⟨(parseA n l1).1, (number l2 128).1⟩ = false then (zeroP, 1) else (⟨(parseA n l1).1, (number l2 128).1⟩, 0) := by
  unfold parseP
  rw [h]
  simp only
  cases b with
  | true => simp
  | false =>
    rw [hb rfl]
    have : (number [] 128).2 = false := rfl
    simp [this]

set_option maxRecDepth 16000 in
set_option maxHeartbeats 3200000 in
theorem refParsePrefix_any (n : Int) (l : List UInt8) (hl : l.length ≤ 1048576) (w : World) : Calls Tryd.prog 20 #[.int .i64 n, str l] w fun e w' => e = .returned (.tuple #[(parseP n l).1.val, .int .i64 (parseP n l).2]) ∧ Below w.heap.size w w' := by
  have hlen := run_len l
  have HR0 := hide (Blk.new w 32 [.int .u64 0, .int .u64 0, .int .i64 0].toArray)
  have HL0 := hide ((Below.refl w.heap.size w).alloc (Nat.le_refl _) (.cells [.int .u64 0, .int .u64 0, .int .i64 0].toArray 32))
  go_enter Tryd.func20, Tryd.ntmps20
  simp only [str]
  go_wp2
  go_loopw [6, 7, 8] (fun x y i wr => ∃ k : Nat, k ≤ l.length ∧ x = .string ⟨l.toArray⟩ ∧ y = .string ⟨#[]⟩ ∧ i = .int .i64 (k : Int) ∧ Hid (47 ∉ l.take k) ∧ Hid (Blk wr w.heap.size 32 [.int .u64 0, .int .u64 0, .int .i64 0].toArray) ∧ Hid (Below w.heap.size w wr)) (fun _ _ i _ => l.length - (intOf i).toNat)
  case atStart => exact ⟨0, Nat.zero_le _, rfl, rfl, rfl, hide (by simp), HR0, HL0⟩
  case round =>
    obtain ⟨k, hk, rfl, rfl, rfl, HN, HR, HL⟩ := hrel
    clear HR0 HL0
    by_cases hlt : k < l.length
    · have hltI : (k : Int) < (l.length : Int) := by omega
      have hat := run_at l k hlt
      have hup := run_upto l k hk
      have hfr := run_from l k hlt
      have htk : l.take (k + 1) = l.take k ++ [l[k]] := List.take_succ_eq_append_getElem hlt
      have hall : l = l.take k ++ l[k] :: l.drop (k + 1) := by rw [← List.drop_eq_getElem_cons hlt, List.take_append_drop]
      generalize l[k] = x at hat htk hall
      by_cases hx : x = 47
      · subst hx
        have hc := cut_app 47 (l.take k) (l.drop (k + 1)) HN.out
        rw [← hall] at hc
        have hpv := parseP_parts (n := n) hc (fun h => by cases h)
        have hl1 : (l.take k).length ≤ 1048576 := by rw [List.length_take]; omega
        have hl2 : (l.drop (k + 1)).length ≤ 1048576 := by rw [List.length_drop]; omega
        clear hall htk hc HN
        generalize l.take k = l1 at hup hpv hl1
        generalize l.drop (k + 1) = l2 at hfr hpv hl2
        have hpa := fun w => refParseAddr_any n l1 hl1 w
        have hao := parseA_ok n l1
        generalize parseA n l1 = r1 at hpa hpv hao
        obtain ⟨a, e1⟩ := r1
        have hnum := fun w => refNumber_any l2 hl2 128 w
        generalize number l2 128 = r2 at hnum hpv
        obtain ⟨v, has⟩ := r2
        simp only [str, Ad.val] at hpa hpv hnum hao
        have HPV := hide hpv
        simp at hat
        clear hpv hl1 hl2
        go_wp2_with fail
        refine (hpa _).mono ?_
        rintro e w2 ⟨rfl, hb2⟩
        have h22 : Below w2.heap.size w2 (w2.alloc (.cells a.cs 23)) := (Below.refl _ _).alloc (Nat.le_refl _) _
        have hb3 := hb2.trans (h22.mono hb2.size)
        have HR3 := hide (HR.out.below hb3 HR.out.lt)
        have HL3 := hide (HL.out.trans (hb3.mono HL.out.size))
        have HA3 := hide (Blk.new w2 23 a.cs)
        clear hb2 hb3 h22 HR HL hpa
        by_cases he : e1 = 0
        · subst he
          go_wp2_with fail
          refine (hnum _).mono ?_
          rintro e w3 ⟨rfl, rfl⟩
          clear hnum
          have d0 := HR3.out.cell 0
          have d1 := HR3.out.cell 1
          have d2 := HR3.out.cell 2
          have f0 := HR3.out.frozen 0
          have f1 := HR3.out.frozen 1
          have f2 := HR3.out.frozen 2
          simp [Ad.cs] at d0 d1 d2 f0 f1 f2
          cases has with
          | false =>
            have hv : parseP n l = (zeroP, 4) := by rw [HPV.out, if_neg (by decide), if_pos rfl]
            have HV := hide hv
            clear hv HPV
            go_wp2
            refine bodyPost_ret (results_blk_tmp (g := w.heap.size) (t := 32) (cs := zeroP.cs) rfl rfl (((HR3.out.setL 0 _).setL 1 _).setL 2 _) aQ zQ) rfl ⟨by rw [HV.out]; rfl, ?_⟩
            exact ((HL3.out.setCell (Nat.le_refl _) _).setCell (Nat.le_refl _) _).setCell (Nat.le_refl _) _
          | true =>
            have hv : parseP n l = if Pf.right n ⟨a, v⟩ = false then (zeroP, 1) else (⟨a, v⟩, 0) := by rw [HPV.out, if_neg (by decide), if_neg (by decide)]
            have hright := fun w => refRight_any n ⟨a, v⟩ hao w
            have c0 := HA3.out.cell 0
            have c1 := HA3.out.cell 1
            simp only [Ad.cs, List.getElem?_toArray, List.getElem?_cons_zero, List.getElem?_cons_succ] at c0 c1
            have h33 : Below (w2.alloc (.cells a.cs 23)).heap.size (w2.alloc (.cells a.cs 23)) ((w2.alloc (.cells a.cs 23)).alloc (.cells (Pf.mk a v).cs 32)) := (Below.refl _ _).alloc (Nat.le_refl _) _
            have HR5 := hide (HR3.out.alloc (.cells (Pf.mk a v).cs 32))
            have HL5 := hide (HL3.out.trans (h33.mono HL3.out.size))
            have HP5 := hide (Blk.new (w2.alloc (.cells a.cs 23)) 32 (Pf.mk a v).cs)
            generalize Pf.right n ⟨a, v⟩ = r at hright hv
            have HV0 := hide hv
            simp only [Pf.val] at hright
            clear h33 HL3 HR3 hv HPV d0 d1 d2 f0 f1 f2
            go_wp2_with fail
            refine (hright _).mono ?_
            rintro e w5 ⟨rfl, hb5⟩
            have HR6 := hide (HR5.out.below hb5 HR5.out.lt)
            have HP6 := hide (HP5.out.below hb5 HP5.out.lt)
            have HL6 := hide (HL5.out.trans (hb5.mono HL5.out.size))
            have d0 := HR6.out.cell 0
            have d1 := HR6.out.cell 1
            have d2 := HR6.out.cell 2
            have f0 := HR6.out.frozen 0
            have f1 := HR6.out.frozen 1
            have f2 := HR6.out.frozen 2
            have g0 := HP6.out.cell 0
            have g1 := HP6.out.cell 1
            have g2 := HP6.out.cell 2
            simp at d0 d1 d2
            simp [Pf.cs] at g0 g1 g2
            clear hb5 HR5 HL5 HP5 hright c0 c1
            cases r with
            | false =>
              have hv : parseP n l = (zeroP, 1) := by rw [HV0.out, if_pos rfl]
              have HV := hide hv
              clear hv HV0
              go_wp2
              refine bodyPost_ret (results_blk_tmp (g := w.heap.size) (t := 32) (cs := zeroP.cs) rfl rfl (((HR6.out.setL 0 _).setL 1 _).setL 2 _) aQ zQ) rfl ⟨by rw [HV.out]; rfl, ?_⟩
              exact ((HL6.out.setCell (Nat.le_refl _) _).setCell (Nat.le_refl _) _).setCell (Nat.le_refl _) _
            | true =>
              have hv : parseP n l = (⟨a, v⟩, 0) := by rw [HV0.out, if_neg (by decide)]
              have HV := hide hv
              clear hv HV0
              go_wp2
              refine bodyPost_ret (results_blk_tmp (g := w.heap.size) (t := 32) (cs := (Pf.mk a v).cs) rfl rfl (((HR6.out.setL 0 _).setL 1 _).setL 2 _) aQ zQ) rfl ⟨by rw [HV.out]; rfl, ?_⟩
              exact ((HL6.out.setCell (Nat.le_refl _) _).setCell (Nat.le_refl _) _).setCell (Nat.le_refl _) _
        · have hv : parseP n l = (zeroP, e1) := by rw [HPV.out, if_pos he]
          have HV := hide hv
          have d0 := HR3.out.cell 0
          have d1 := HR3.out.cell 1
          have d2 := HR3.out.cell 2
          have f0 := HR3.out.frozen 0
          have f1 := HR3.out.frozen 1
          have f2 := HR3.out.frozen 2
          simp [Ad.cs] at d0 d1 d2 f0 f1 f2
          clear hv HPV
          go_wp2
          refine bodyPost_ret (results_blk_tmp (g := w.heap.size) (t := 32) (cs := zeroP.cs) rfl rfl (((HR3.out.setL 0 _).setL 1 _).setL 2 _) aQ zQ) rfl ⟨by rw [HV.out]; rfl, ?_⟩
          exact ((HL3.out.setCell (Nat.le_refl _) _).setCell (Nat.le_refl _) _).setCell (Nat.le_refl _) _
      · have hxn : x.toNat ≠ 47 := fun e => hx (UInt8.toNat_inj.1 (e.trans rfl))
        have HN2 : Hid (47 ∉ l.take (k + 1)) := hide (by
          rw [htk]
          intro h
          rcases List.mem_append.1 h with h | h
          · exact HN.out h
          · exact hx (List.mem_singleton.1 h).symm)
        generalize x.toNat = xn at hat hxn
        have hxI : (xn : Int) ≠ 47 := by omega
        clear hall htk hxn hup hfr
        go_wp2
        go_roundw
        case rel => exact ⟨k + 1, by omega, rfl, rfl, by go_num, HN2, HR, HL⟩
        case measure => simp [intOf]; omega
    · have hltI : ¬ (k : Int) < (l.length : Int) := by omega
      have hN := HN.out
      rw [show k = l.length by omega, List.take_length] at hN
      have hpv := parseP_parts (n := n) (cut_none 47 l hN) (fun _ => rfl)
      have hpa := fun w => refParseAddr_any n l hl w
      have hao := parseA_ok n l
      generalize parseA n l = r1 at hpa hpv hao
      obtain ⟨a, e1⟩ := r1
      have hnum := fun w => refNumber_any [] (by simp) 128 w
      generalize number [] 128 = r2 at hnum hpv
      obtain ⟨v, has⟩ := r2
      simp only [str, Ad.val] at hpa hpv hnum hao
      have HPV := hide hpv
      clear hpv hN HN
      go_wp2_with fail
      refine (hpa _).mono ?_
      rintro e w2 ⟨rfl, hb2⟩
      have h22 : Below w2.heap.size w2 (w2.alloc (.cells a.cs 23)) := (Below.refl _ _).alloc (Nat.le_refl _) _
      have hb3 := hb2.trans (h22.mono hb2.size)
      have HR3 := hide (HR.out.below hb3 HR.out.lt)
      have HL3 := hide (HL.out.trans (hb3.mono HL.out.size))
      have HA3 := hide (Blk.new w2 23 a.cs)
      clear hb2 hb3 h22 HR HL hpa
      by_cases he : e1 = 0
      · subst he
        go_wp2_with fail
        refine (hnum _).mono ?_
        rintro e w3 ⟨rfl, rfl⟩
        clear hnum
        have d0 := HR3.out.cell 0
        have d1 := HR3.out.cell 1
        have d2 := HR3.out.cell 2
        have f0 := HR3.out.frozen 0
        have f1 := HR3.out.frozen 1
        have f2 := HR3.out.frozen 2
        simp [Ad.cs] at d0 d1 d2 f0 f1 f2
        cases has with
        | false =>
          have hv : parseP n l = (zeroP, 4) := by rw [HPV.out, if_neg (by decide), if_pos rfl]
          have HV := hide hv
          clear hv HPV
          go_wp2
          refine bodyPost_ret (results_blk_tmp (g := w.heap.size) (t := 32) (cs := zeroP.cs) rfl rfl (((HR3.out.setL 0 _).setL 1 _).setL 2 _) aQ zQ) rfl ⟨by rw [HV.out]; rfl, ?_⟩
          exact ((HL3.out.setCell (Nat.le_refl _) _).setCell (Nat.le_refl _) _).setCell (Nat.le_refl _) _
        | true =>
          have hv : parseP n l = if Pf.right n ⟨a, v⟩ = false then (zeroP, 1) else (⟨a, v⟩, 0) := by rw [HPV.out, if_neg (by decide), if_neg (by decide)]
          have hright := fun w => refRight_any n ⟨a, v⟩ hao w
          have c0 := HA3.out.cell 0
          have c1 := HA3.out.cell 1
          simp only [Ad.cs, List.getElem?_toArray, List.getElem?_cons_zero, List.getElem?_cons_succ] at c0 c1
          have h33 : Below (w2.alloc (.cells a.cs 23)).heap.size (w2.alloc (.cells a.cs 23)) ((w2.alloc (.cells a.cs 23)).alloc (.cells (Pf.mk a v).cs 32)) := (Below.refl _ _).alloc (Nat.le_refl _) _
          have HR5 := hide (HR3.out.alloc (.cells (Pf.mk a v).cs 32))
          have HL5 := hide (HL3.out.trans (h33.mono HL3.out.size))
          have HP5 := hide (Blk.new (w2.alloc (.cells a.cs 23)) 32 (Pf.mk a v).cs)
          generalize Pf.right n ⟨a, v⟩ = r at hright hv
          have HV0 := hide hv
          simp only [Pf.val] at hright
          clear h33 HL3 HR3 hv HPV d0 d1 d2 f0 f1 f2
          go_wp2_with fail
          refine (hright _).mono ?_
          rintro e w5 ⟨rfl, hb5⟩
          have HR6 := hide (HR5.out.below hb5 HR5.out.lt)
          have HP6 := hide (HP5.out.below hb5 HP5.out.lt)
          have HL6 := hide (HL5.out.trans (hb5.mono HL5.out.size))
          have d0 := HR6.out.cell 0
          have d1 := HR6.out.cell 1
          have d2 := HR6.out.cell 2
          have f0 := HR6.out.frozen 0
          have f1 := HR6.out.frozen 1
          have f2 := HR6.out.frozen 2
          have g0 := HP6.out.cell 0
          have g1 := HP6.out.cell 1
          have g2 := HP6.out.cell 2
          simp at d0 d1 d2
          simp [Pf.cs] at g0 g1 g2
          clear hb5 HR5 HL5 HP5 hright c0 c1
          cases r with
          | false =>
            have hv : parseP n l = (zeroP, 1) := by rw [HV0.out, if_pos rfl]
            have HV := hide hv
            clear hv HV0
            go_wp2
            refine bodyPost_ret (results_blk_tmp (g := w.heap.size) (t := 32) (cs := zeroP.cs) rfl rfl (((HR6.out.setL 0 _).setL 1 _).setL 2 _) aQ zQ) rfl ⟨by rw [HV.out]; rfl, ?_⟩
            exact ((HL6.out.setCell (Nat.le_refl _) _).setCell (Nat.le_refl _) _).setCell (Nat.le_refl _) _
          | true =>
            have hv : parseP n l = (⟨a, v⟩, 0) := by rw [HV0.out, if_neg (by decide)]
            have HV := hide hv
            clear hv HV0
            go_wp2
            refine bodyPost_ret (results_blk_tmp (g := w.heap.size) (t := 32) (cs := (Pf.mk a v).cs) rfl rfl (((HR6.out.setL 0 _).setL 1 _).setL 2 _) aQ zQ) rfl ⟨by rw [HV.out]; rfl, ?_⟩
            exact ((HL6.out.setCell (Nat.le_refl _) _).setCell (Nat.le_refl _) _).setCell (Nat.le_refl _) _
      · have hv : parseP n l = (zeroP, e1) := by rw [HPV.out, if_pos he]
        have HV := hide hv
        have d0 := HR3.out.cell 0
        have d1 := HR3.out.cell 1
        have d2 := HR3.out.cell 2
        have f0 := HR3.out.frozen 0
        have f1 := HR3.out.frozen 1
        have f2 := HR3.out.frozen 2
        simp [Ad.cs] at d0 d1 d2 f0 f1 f2
        clear hv HPV
        go_wp2
        refine bodyPost_ret (results_blk_tmp (g := w.heap.size) (t := 32) (cs := zeroP.cs) rfl rfl (((HR3.out.setL 0 _).setL 1 _).setL 2 _) aQ zQ) rfl ⟨by rw [HV.out]; rfl, ?_⟩
        exact ((HL3.out.setCell (Nat.le_refl _) _).setCell (Nat.le_refl _) _).setCell (Nat.le_refl _) _

set_option maxRecDepth 8000 in
set_option maxHeartbeats 1600000 in
theorem of_ref_any (p : Pf) (w : World) : Calls Tryd.prog 16 #[p.val] w fun e w' => e = .returned p.val ∧ Below w.heap.size w w' := by
  have HP := hide ((Blk.new w 36 p.cs).alloc (.cells #[.int .u64 0, .int .u64 0, .int .i64 0] 32))
  have HR := hide (Blk.newAt (w := w.alloc (.cells p.cs 36)) (B := w.heap.size + 1) 32 p.cs (by simp))
  have HL := hide (((Below.refl w.heap.size w).alloc (Nat.le_refl _) (.cells p.cs 36)).alloc (by simp) (.cells p.cs 32))
  have c0 := HP.out.cell 0
  have c1 := HP.out.cell 1
  have c2 := HP.out.cell 2
  simp only [Pf.cs, List.getElem?_toArray, List.getElem?_cons_zero, List.getElem?_cons_succ] at c0 c1 c2
  go_enter Tryd.func16, Tryd.ntmps16
  simp only [Pf.val]
  go_wp2
  refine bodyPost_ret (results_blk (g := w.heap.size + 1) (t := 32) (cs := p.cs) rfl rfl HR.out aQ zQ) rfl ⟨rfl, ?_⟩
  exact HL.out
end Go.Proofs.YtaljphjcmkibkaaDoor
