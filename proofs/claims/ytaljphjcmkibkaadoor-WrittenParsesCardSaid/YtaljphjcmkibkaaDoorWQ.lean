/- The law's helper awake returns true. Conditions: what the library asks of the world. -/
import Derived.Test.YtaljphjcmkibkaaDoorWP
namespace Go.Proofs.YtaljphjcmkibkaaDoor
open Go.RowKit Go.WideShapes Go.ChangeShapes

def txt1 : List UInt8 := [49, 48, 46, 49, 46, 48, 46, 48, 47, 49, 54]
def pf1 : Pf := ⟨⟨0x0a01000000000000, 0⟩, 16⟩
theorem aw_parse : parseP 32 txt1 = (pf1, 0) := by decide +kernel
theorem aw_p32 : prefixS 32 pf1 = txt1 := by decide +kernel
theorem aw_p128 : prefixS 128 pf1 = [48, 97, 48, 49, 58, 48, 48, 48, 48, 58, 48, 48, 48, 48, 58, 48, 48, 48, 48, 58, 48, 48, 48, 48, 58, 48, 48, 48, 48, 58, 48, 48, 48, 48, 58, 48, 48, 48, 48, 47, 49, 54] := by decide +kernel
theorem aw_a32 : addrS 32 pf1.a = [49, 48, 46, 49, 46, 48, 46, 48] := by decide +kernel
theorem pf1_ok : pf1.a.Ok := ⟨by decide, by decide⟩
set_option maxRecDepth 4000 in
set_option maxHeartbeats 1600000 in
theorem awake_any (w : World) (hw : WOK w) : Calls Tryd.prog 12 #[] w fun e w' => e = .returned (.bool true) ∧ Below w.heap.size w w' := by
  have h1 := fun w hw => aw_parse ▸ parsePrefix_any 32 txt1 (by decide) w hw
  have h2 := fun w hw => aw_p32 ▸ prefix_any 32 pf1 pf1_ok w hw
  have h3 := fun w hw => aw_p128 ▸ prefix_any 128 pf1 pf1_ok w hw
  have h4 := fun w hw => aw_a32 ▸ addr_any 32 pf1.a pf1_ok w hw
  simp only [Pf.val, Ad.val, pf1, str, txt1] at h1 h2 h3 h4
  go_enter Tryd.func12, Tryd.ntmps12
  go_wp2_with fail
  refine (h1 w hw).mono ?_
  rintro e w1 ⟨rfl, hb1⟩
  go_wp2_with fail
  have hB : Below w1.heap.size w1 (w1.alloc (.cells pf1.cs 36)) := (Below.refl _ _).alloc (Nat.le_refl _) _
  have HB := hide (Blk.new w1 36 pf1.cs)
  have HL := hide (hb1.trans (hB.mono hb1.size))
  clear hB hb1
  refine (h2 _ (hw.later HL.out)).mono ?_
  rintro e w2 ⟨rfl, hb2⟩
  have HB2 := hide (HB.out.below hb2 HB.out.lt)
  have HL2 := hide (HL.out.trans (hb2.mono HL.out.size))
  have c0 := HB2.out.cell 0
  have c1 := HB2.out.cell 1
  have c2 := HB2.out.cell 2
  simp [Pf.cs, pf1] at c0 c1 c2
  clear hb2 HB HL
  go_wp2_with fail
  refine (h3 _ (hw.later HL2.out)).mono ?_
  rintro e w3 ⟨rfl, hb3⟩
  have HB3 := hide (HB2.out.below hb3 HB2.out.lt)
  have HL3 := hide (HL2.out.trans (hb3.mono HL2.out.size))
  have d0 := HB3.out.cell 0
  have d1 := HB3.out.cell 1
  have d2 := HB3.out.cell 2
  simp [Pf.cs, pf1] at d0 d1 d2
  clear hb3 HB2 HL2 c0 c1 c2
  go_wp2_with fail
  refine (h4 _ (hw.later HL3.out)).mono ?_
  rintro e w4 ⟨rfl, hb4⟩
  go_wp2
  go_ret
  exact ⟨rfl, HL3.out.trans (hb4.mono HL3.out.size)⟩
end Go.Proofs.YtaljphjcmkibkaaDoor
