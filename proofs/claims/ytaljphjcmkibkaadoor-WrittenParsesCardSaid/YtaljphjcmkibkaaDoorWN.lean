/- The contract of written.ParsePrefix. Conditions: at most 2^20 bytes; what the library asks of the world. -/
import Derived.Test.YtaljphjcmkibkaaDoorWM
namespace Go.Proofs.YtaljphjcmkibkaaDoor
open Go.RowKit Go.WideShapes Go.ChangeShapes

theorem TabIs_later {n : String} {g : Nat} {k : IntKind} {zs : List Int} {w w' : World} (hg : Tryd.prog.globalNamed n = some g) (h : Lib.TabIs Tryd.prog w n k zs) (hb : Below w.heap.size w w') : Lib.TabIs Tryd.prog w' n k zs := by
  unfold Lib.TabIs World.var? at h ⊢
  rw [hg] at h ⊢
  simp only [Option.bind_some] at h ⊢
  have hlt : g < w.heap.size := by
    rcases Nat.lt_or_ge g w.heap.size with h' | h'
    · exact h'
    · rw [Array.getElem?_eq_none h'] at h; cases h
  rw [hb.block g hlt]
  exact h
theorem gPow : Tryd.prog.globalNamed "internal/strconv.uint64pow10" = some 3 := by kernel_rfl
theorem WOK.later {w W : World} (h : WOK w) (hb : Below w.heap.size w W) : WOK W := by
  obtain ⟨⟨m, hm⟩, h0, ht⟩ := h
  exact ⟨⟨m, (hb.cell (p := ⟨0, 0, none⟩) h0).trans hm⟩, Nat.lt_of_lt_of_le h0 hb.size, TabIs_later gPow ht hb⟩

theorem scut_any (c : UInt8) (l : List UInt8) (hl : l.length ≤ 1048576) (m : Int) (w : World) (hm : w.cell? ⟨0, 0, none⟩ = some (.int .i64 m)) :
    Calls Tryd.prog 35 #[.string ⟨l.toArray⟩, .string ⟨#[c]⟩] w fun e w' => e = .returned (.tuple #[.string ⟨(Lib.cut l [c]).1.toArray⟩, .string ⟨(Lib.cut l [c]).2.1.toArray⟩, .bool (Lib.cut l [c]).2.2]) ∧ ∃ n, w' = w.drewN n := by
  have h := Tryd.strings_Cut (bs l) (bs [c]) m w (by simp [bs, ByteArray.size]; omega) hm
  rw [show (bs [c]).data.toList = [c] by simp [bs], show (bs l).data.toList = l by simp [bs]] at h
  exact h
theorem cut_le (c : UInt8) (l : List UInt8) : (Lib.cut l [c]).1.length ≤ l.length ∧ (Lib.cut l [c]).2.1.length ≤ l.length := by
  unfold Lib.cut
  split <;> simp <;> omega

def zeroP : Pf := ⟨⟨0, 0⟩, 0⟩
def parseP (w : Int) (l : List UInt8) : Pf × Int :=
  if (parseA w (Lib.cut l [47]).1).2 ≠ 0 then (zeroP, (parseA w (Lib.cut l [47]).1).2)
  else if (Lib.cut l [47]).2.2 = false ∨ (number (Lib.cut l [47]).2.1 128).2 = false then (zeroP, 4)
  else if Pf.right w ⟨(parseA w (Lib.cut l [47]).1).1, (number (Lib.cut l [47]).2.1 128).1⟩ = false then (zeroP, 1)
  else (⟨(parseA w (Lib.cut l [47]).1).1, (number (Lib.cut l [47]).2.1 128).1⟩, 0)

set_option maxRecDepth 4000 in
set_option maxHeartbeats 3200000 in
theorem parsePrefix_any (n : Int) (l : List UInt8) (hl : l.length ≤ 1048576) (w : World) (hw : WOK w) :
    Calls Tryd.prog 17 #[.int .i64 n, str l] w fun e w' => e = .returned (.tuple #[(parseP n l).1.val, .int .i64 (parseP n l).2]) ∧ Below w.heap.size w w' := by
  have hA0 : Below w.heap.size w (w.alloc (.cells #[.int .u64 0, .int .u64 0, .int .i64 0] 36)) := (Below.refl w.heap.size w).alloc (Nat.le_refl _) _
  have HR := hide (Blk.new w 36 #[.int .u64 0, .int .u64 0, .int .i64 0])
  have HL := hide hA0
  have HW := hide (hw.later hA0)
  obtain ⟨m, hm1⟩ := (hw.later hA0).1
  obtain ⟨hl1, hl2⟩ := cut_le 47 l
  have hcut := scut_any 47 l hl m _ hm1
  have hpv : parseP n l = if (parseA n (Lib.cut l [47]).1).2 ≠ 0 then (zeroP, (parseA n (Lib.cut l [47]).1).2)
    else if (Lib.cut l [47]).2.2 = false ∨ (number (Lib.cut l [47]).2.1 128).2 = false then (zeroP, 4)
    else if Pf.right n ⟨(parseA n (Lib.cut l [47]).1).1, (number (Lib.cut l [47]).2.1 128).1⟩ = false then (zeroP, 1)
    else (⟨(parseA n (Lib.cut l [47]).1).1, (number (Lib.cut l [47]).2.1 128).1⟩, 0) := rfl
  generalize Lib.cut l [47] = ct at hcut hpv hl1 hl2
  obtain ⟨l1, l2, is⟩ := ct
  simp only at hcut hpv hl1 hl2
  have hpa := fun w hw => parseAddr_any n l1 (by omega) w hw
  have hao := parseA_ok n l1
  generalize parseA n l1 = r1 at hpa hpv hao
  obtain ⟨a, e1⟩ := r1
  have hnum := fun w => number_any l2 128 w
  generalize number l2 128 = r2 at hnum hpv
  obtain ⟨v, has⟩ := r2
  simp only at hpa hpv hnum hao
  have HPV := hide hpv
  clear hA0 hw hm1 hpv
  go_enter Tryd.func17, Tryd.ntmps17
  simp only [str]
  go_wp2_with fail
  refine hcut.mono ?_
  rintro e w1 ⟨rfl, q1, rfl⟩
  go_wp2_with fail
  have HW1 := hide (HW.out.later (below_drewN (Below.refl _ _) q1))
  have HR1 := hide (HR.out.drewN q1)
  have HL1 := hide (below_drewN HL.out q1)
  refine (hpa _ HW1.out).mono ?_
  rintro e w2 ⟨rfl, hb2⟩
  have HR2 := hide (HR1.out.below hb2 HR1.out.lt)
  have HL2 := hide (HL1.out.trans (hb2.mono HL1.out.size))
  clear hb2 HR HL HW HW1 HR1 HL1 hcut
  simp only [Ad.val]
  by_cases he : e1 = 0
  · subst he
    have h22 : Below w2.heap.size w2 (w2.alloc (.cells a.cs 24)) := (Below.refl _ _).alloc (Nat.le_refl _) _
    have HB2 := hide (Blk.new w2 24 a.cs)
    have HR3 := hide (HR2.out.alloc (.cells a.cs 24))
    have HL3 := hide (HL2.out.trans (h22.mono HL2.out.size))
    clear h22 HL2 HR2
    go_wp2_with fail
    refine (hnum _).mono ?_
    rintro e w3 ⟨rfl, hb3⟩
    have HB4 := hide (HB2.out.below hb3 HB2.out.lt)
    have HR4 := hide (HR3.out.below hb3 HR3.out.lt)
    have HL4 := hide (HL3.out.trans (hb3.mono HL3.out.size))
    have c0 := HB4.out.cell 0
    have c1 := HB4.out.cell 1
    simp only [Ad.cs, List.getElem?_toArray, List.getElem?_cons_zero, List.getElem?_cons_succ] at c0 c1
    have d0 := HR4.out.cell 0
    have d1 := HR4.out.cell 1
    have d2 := HR4.out.cell 2
    have f0 := HR4.out.frozen 0
    have f1 := HR4.out.frozen 1
    have f2 := HR4.out.frozen 2
    simp at d0 d1 d2
    have hlt := HR4.out.lt
    have hlt2 := HB4.out.lt
    clear hb3 HB2 HR3 HL3 hnum
    by_cases hio : is = false ∨ has = false
    · have hv : parseP n l = (zeroP, 4) := by rw [HPV.out, if_neg (by decide), if_pos hio]
      have HV := hide hv
      clear hv HPV
      rcases Bool.eq_false_or_eq_true is with rfl | rfl
      · have hh : has = false := by simpa using hio
        subst hh
        clear hio
        go_wp2
        refine bodyPost_ret (results_blk_tmp (g := w.heap.size) (t := 36) (cs := zeroP.cs) rfl rfl ((((HR4.out.setL 0 _).setL 1 _).setL 2 _).alloc _) aP zP) rfl ⟨by rw [HV.out]; rfl, ?_⟩
        refine Below.alloc ?_ ?_ _
        · exact ((HL4.out.setCell (Nat.le_refl _) _).setCell (Nat.le_refl _) _).setCell (Nat.le_refl _) _
        · simp; omega
      · clear hio
        go_wp2
        refine bodyPost_ret (results_blk_tmp (g := w.heap.size) (t := 36) (cs := zeroP.cs) rfl rfl ((((HR4.out.setL 0 _).setL 1 _).setL 2 _).alloc _) aP zP) rfl ⟨by rw [HV.out]; rfl, ?_⟩
        refine Below.alloc ?_ ?_ _
        · exact ((HL4.out.setCell (Nat.le_refl _) _).setCell (Nat.le_refl _) _).setCell (Nat.le_refl _) _
        · simp; omega
    · have hi : is = true := by cases is <;> simp_all
      have hh : has = true := by cases has <;> simp_all
      subst hi hh
      have h33 : Below w3.heap.size w3 (w3.alloc (.cells (Pf.mk a v).cs 36)) := (Below.refl _ _).alloc (Nat.le_refl _) _
      have HR5 := hide (HR4.out.alloc (.cells (Pf.mk a v).cs 36))
      have HL5 := hide (HL4.out.trans (h33.mono HL4.out.size))
      have HP5 := hide (Blk.new w3 36 (Pf.mk a v).cs)
      have hright := fun w => right_any n ⟨a, v⟩ hao w
      have hv : parseP n l = if Pf.right n ⟨a, v⟩ = false then (zeroP, 1) else (⟨a, v⟩, 0) := by rw [HPV.out, if_neg (by decide), if_neg hio]
      generalize Pf.right n ⟨a, v⟩ = r at hright hv
      have HV0 := hide hv
      simp only [Pf.val] at hright
      clear h33 HL4 HR4 hio hv HPV d0 d1 d2 f0 f1 f2
      go_wp2_with fail
      refine (hright _).mono ?_
      rintro e w5 ⟨rfl, hb5⟩
      have HR6 := hide (HR5.out.below hb5 HR5.out.lt)
      have HP6 := hide (HP5.out.below hb5 HP5.out.lt)
      have HL6 := hide (HL5.out.trans (hb5.mono HL5.out.size))
      have d0 := HR6.out.cell 0
      have d1 := HR6.out.cell 1
      have d2 := HR6.out.cell 2
      have f0 := HR6.out.frozen 0
      have f1 := HR6.out.frozen 1
      have f2 := HR6.out.frozen 2
      have p0 := HP6.out.cell 0
      have p1 := HP6.out.cell 1
      have p2 := HP6.out.cell 2
      simp at d0 d1 d2
      simp only [Pf.cs, List.getElem?_toArray, List.getElem?_cons_zero, List.getElem?_cons_succ] at p0 p1 p2
      clear hb5 HR5 HP5 HL5 HB4 c0 c1 hright
      cases r with
      | false =>
        have HV : Hid (parseP n l = (zeroP, 1)) := hide (by rw [HV0.out, if_pos rfl])
        clear HV0
        go_wp2
        refine bodyPost_ret (results_blk_tmp (g := w.heap.size) (t := 36) (cs := zeroP.cs) rfl rfl (((HR6.out.setL 0 _).setL 1 _).setL 2 _) aP zP) rfl ⟨by rw [HV.out]; rfl, ?_⟩
        exact ((HL6.out.setCell (Nat.le_refl _) _).setCell (Nat.le_refl _) _).setCell (Nat.le_refl _) _
      | true =>
        have HV : Hid (parseP n l = (⟨a, v⟩, 0)) := hide (by rw [HV0.out, if_neg (by decide)])
        clear HV0
        go_wp2
        refine bodyPost_ret (results_blk_tmp (g := w.heap.size) (t := 36) (cs := (Pf.mk a v).cs) rfl rfl (((HR6.out.setL 0 _).setL 1 _).setL 2 _) aP zP) rfl ⟨by rw [HV.out]; rfl, ?_⟩
        exact ((HL6.out.setCell (Nat.le_refl _) _).setCell (Nat.le_refl _) _).setCell (Nat.le_refl _) _
  · have hv : parseP n l = (zeroP, e1) := by rw [HPV.out, if_pos he]
    have HV := hide hv
    have d0 := HR2.out.cell 0
    have d1 := HR2.out.cell 1
    have d2 := HR2.out.cell 2
    have f0 := HR2.out.frozen 0
    have f1 := HR2.out.frozen 1
    have f2 := HR2.out.frozen 2
    simp at d0 d1 d2
    have hlt := HR2.out.lt
    clear hv HPV
    go_wp2
    refine bodyPost_ret (results_blk_tmp (g := w.heap.size) (t := 36) (cs := zeroP.cs) rfl rfl ((((HR2.out.setL 0 _).setL 1 _).setL 2 _).alloc _) aP zP) rfl ⟨by rw [HV.out]; rfl, ?_⟩
    refine Below.alloc ?_ ?_ _
    · exact ((HL2.out.setCell (Nat.le_refl _) _).setCell (Nat.le_refl _) _).setCell (Nat.le_refl _) _
    · simp; omega
end Go.Proofs.YtaljphjcmkibkaaDoor
