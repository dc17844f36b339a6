/- The law's helper awake returns true in whatever memory. Conditions: none. -/
import Derived.Test.YtggnkgddblpicaaJobE
namespace Go.Proofs.Ytggnkgddblpicaa
open Go.RowKit Go.WideShapes Go.ChangeShapes

theorem JobAt.later {w W : World} {B g n c d : Nat} {A : Option Addr} {xs : List Value} (h : JobAt w B g A n c xs d) (hb : Below w.heap.size w W) : JobAt W B g A n c xs d :=
  ⟨h.1.below hb h.1.lt, own_only h.2.1 (Only.of_below (S := fun _ => False) hb) (fun _ _ => not_false), h.2.2.1, h.2.2.2⟩

def okNext : Unit → Mv → Int × Unit := fun _ _ => (0, ())
theorem doOk (f : Nat) (h : ∀ (m : Mv) (w : World), Calls Try.prog f #[m.val] w fun e w' => e = .returned (.int .i64 0) ∧ Below w.heap.size w w') : DoSpec f #[] (fun _ => False) (fun _ => False) Unit (fun _ _ => True) okNext :=
  ⟨fun _ _ _ _ _ => trivial, fun _ m W _ => (h m W).mono fun _ _ ⟨he, hb⟩ => ⟨he, trivial, Only.of_below hb⟩⟩
theorem runs_ok_all (k : Nat) (l : List Mv) : runs okNext k () l = (min k l.length, 0, ()) := by
  induction k generalizing l with
  | zero => simp [runs]
  | succ k ih =>
    cases l with
    | nil => simp [runs]
    | cons m l => rw [runs_ok okNext k () m l rfl]; rw [show (okNext () m).2 = () from rfl, ih]; simp

theorem ok27 (m : Mv) (w : World) : Calls Try.prog 27 #[m.val] w fun e w' => e = .returned (.int .i64 0) ∧ Below w.heap.size w w' := by
  go_enter Try.func27, Try.ntmps27
  simp only [Mv.val]
  go_wp2
  go_ret
  exact ⟨rfl, by with_reducible (first | exact Below.refl _ _ | exact (Below.refl _ _).alloc (Nat.le_refl _) _)⟩
theorem eg27 : ∀ args w, (callFunc 27 args).run Try.prog w = .ok (.enter 27 args) w := enters_of Try.func27 (by kernel_rfl) rfl

def aw : List Mv := [⟨0, 0, false, 0, 0, 0, 0, 0, 0⟩, ⟨0, 1, false, 0, 0, 0, 0, 0, 0⟩, ⟨0, 2, false, 0, 0, 0, 0, 0, 0⟩]
def awm : List Mv := [⟨1, 0, false, 0, 0, 0, 0, 0, 0⟩, ⟨1, 1, false, 0, 0, 0, 0, 0, 0⟩, ⟨1, 2, false, 0, 0, 0, 0, 0, 0⟩]
theorem aw_at : (aw.flatMap fun m => (m.at 1).enc) = awm.flatMap Mv.enc := rfl

set_option maxHeartbeats 1600000 in
theorem awake_any (w : World) : Calls Try.prog 9 #[] w fun e w' => e = .returned (.bool true) ∧ Below w.heap.size w w' := by
  have E := eqlMv ⟨1, 2, false, 0, 0, 0, 0, 0, 0⟩ ⟨1, 2, false, 0, 0, 0, 0, 0, 0⟩
  simp only [Mv.val, show Mv.same ⟨1, 2, false, 0, 0, 0, 0, 0, 0⟩ ⟨1, 2, false, 0, 0, 0, 0, 0, 0⟩ = true from (Mv.same_iff _ _).2 rfl] at E
  go_enter Try.func9, Try.ntmps9
  go_wp2_with fail
  refine calls_at (fun W => Below w.heap.size w W ∧ Blk W w.heap.size 36 (aw.flatMap Mv.wenc).toArray) ⟨(Below.refl _ _).alloc (Nat.le_refl _) _, Blk.new _ _ _⟩ ?_
  intro W ⟨hb0, hk⟩
  have hr : Reads W W.heap.size 8 (some ⟨w.heap.size, 0, none⟩) 3 (aw.flatMap Mv.wenc) := by
    refine ⟨rfl, fun _ => ⟨_, rfl, hk.lt, fun j u hu => ?_⟩⟩
    rw [Addr.add_lit, Nat.zero_add, hk.cell]
    simpa using hu
  refine (of_any _ 3 3 1 aw W hr (by omega)).mono ?_
  rintro e w1 ⟨A1, c1, rfl, hown1, hb1⟩
  rw [aw_at] at hown1
  go_wp2_with fail
  refine (new_any A1 3 c1 (awm.flatMap Mv.enc) w1 (Reads.of_own hown1) (enc_oneCell _) (by omega)).mono ?_
  rintro e w2 ⟨g, A2, c2, rfl, hj2, hb2⟩
  have HJ2 := hide hj2
  have HB2 := hide ((hb0.trans (hb1.mono hb0.size)).trans (hb2.mono (by have := hb0.size; have := hb1.size; omega)))
  have hs2 : w.heap.size ≤ w1.heap.size := by have := hb0.size; have := hb1.size; omega
  clear hj2 hb2 hb1 hb0 hown1 hr hk
  go_wp2_with fail
  refine (run_any 27 #[] (fun _ => False) (fun _ => False) Unit (fun _ _ => True) okNext (doOk 27 ok27) eg27 g A2 c2 0 w1.heap.size awm () 2 w2 HJ2.out (by decide) (by omega) trivial not_false not_false (fun _ _ => not_false)).mono ?_
  rintro e w3 ⟨r, hr, rfl, _, hj3, hO3⟩
  rw [runs_ok_all, show (min 2 (awm.drop 0).length, (0 : Int), ()) = (2, 0, ()) from rfl] at hr
  subst hr
  have HJ3 := hide hj3
  have HB3 := hide (Below.only HB2.out hO3 HB2.out.size (fun k _ hk => hk.elim False.elim (fun e => by rw [e]; exact Nat.le_trans hs2 HJ2.out.2.2.1)))
  clear hj3 hO3
  go_wp2_with fail
  refine (peek_some g A2 c2 2 w1.heap.size awm w3 HJ3.out (by decide) (by decide)).mono ?_
  rintro e w4 ⟨rfl, hb4⟩
  simp only [Mv.val, awm, List.getElem_cons_succ, List.getElem_cons_zero]
  have HJ4 := hide (HJ3.out.later hb4)
  have HB4 := hide (HB3.out.trans (hb4.mono HB3.out.size))
  clear hb4
  go_wp2_with fail
  refine (left_any g A2 awm.length c2 2 _ (HJ4.out.1.alloc _) (by decide) (by decide)).mono ?_
  rintro e w5 ⟨rfl, q, rfl⟩
  rw [show ((awm.length : Nat) : Int) - ((2 : Nat) : Int) = 1 from rfl]
  go_wp2
  go_ret
  exact ⟨rfl, below_drewN (HB4.out.alloc HB4.out.size _) _⟩
end Go.Proofs.Ytggnkgddblpicaa
