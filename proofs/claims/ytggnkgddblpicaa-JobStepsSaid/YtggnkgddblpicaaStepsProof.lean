/- The statement JobSteps: for every input the law returns true and each argument reads as before. Conditions: none. -/
import Derived.Test.YtggnkgddblpicaaFrame
import Derived.Test.YtggnkgddblpicaaSteps
namespace Go.Proofs.Ytggnkgddblpicaa
open Go.ChangeShapes Go.WideShapes Go.ChangeAt Go.RowKit

theorem jobSteps_contract (H : Type) (enc : TypeId × Value → H) (W : World) (base : Nat) (args : Array Value) (ds gs : List (DataW H)) (before : List MemPlace)
    (hval : ∀ (j : Nat) t v, Try.f6.params[j]? = some t → args[j]? = some v → Value.okWide Try.prog W .any base t v)
    (hW : DataW.Whole enc Try.prog Try.f6.params.toList Rows.jobStepsSpec.vars false W args.toList ds gs before) :
    Calls Try.prog 6 args W fun e W' => ∃ v, e = .returned v ∧ Rows.jobStepsSpec.post enc Try.prog Try.f6 false true false false W args v W' := by
  have hW' := hW
  obtain ⟨p, q, hA0, hV, rfl, hfz, hnd⟩ := hW
  have hA : DataW.TrodAll enc Try.prog W 0 (fun _ => true) true Try.f6.params.toList args.toList ds p := hA0
  rw [Try.params6] at hA hval
  obtain ⟨v0, vs0, d0, ds0, p0, q0, hargs, rfl, rfl, h0, r0⟩ := trodAll_cons hA
  obtain ⟨v1, vs1, d1, ds1, p1, q1, rfl, rfl, rfl, h1, r1⟩ := trodAll_cons r0
  obtain ⟨v2, vs2, d2, ds2, p2, q2, rfl, rfl, rfl, h2, r2⟩ := trodAll_cons r1
  obtain ⟨rfl, rfl, rfl⟩ := trodAll_nil r2
  obtain rfl : args = #[v0, v1, v2] := by cases args; simp_all
  obtain ⟨rfl, rfl⟩ := trodVars_none hV
  obtain ⟨A0, n0, c0, ms0, rfl, hlen0, hr0, hnc0, hc0⟩ := open_moves (hval 0 22 v0 rfl rfl) h0
  obtain ⟨A1, n1, c1, xs1, rfl, hlen1, hbd1, hr1, hnc1, hc1⟩ := open_bytes (hval 1 54 v1 rfl rfl) h1
  obtain ⟨a2, rfl, rfl, rfl, w2⟩ := open_int Try.underlying5 (hval 2 5 v2 rfl rfl) h2
  have hx2 : 0 ≤ a2 ∧ a2 ≤ 255 := by simpa [Lit.wf, IntKind.min, IntKind.max, IntKind.signed, IntKind.bits] using w2
  obtain ⟨k2, rfl⟩ := Int.eq_ofNat_of_zero_le hx2.1
  clear hA0
  simp only [List.append_nil] at hW'
  have hlt := hW'.lt
  refine (jobSteps_any A0 n0 c0 ms0 A1 n1 c1 xs1 k2 W hr0 hnc0 hr1 hbd1 (by omega)).mono fun e W' ⟨he, hb⟩ => ?_
  subst he
  exact ⟨_, rfl, post_of_below (pa := p0 ++ (p1 ++ ([] ++ ([])))) (pv := []) hW' (fun _ _ _ => trodAll_mk1 (shut_bool Try.underlying4 _))
    (fun sp hsp => trodAll_cons_mk (again (by kernel_rfl) (of_decide_eq_true (by kernel_rfl)) h0 hb (before := p0 ++ p1) (fun x hx => hlt x (by simpa using hx)) (fun x hx => hsp x (by simpa using hx)) (fun x hx => by simp [hx])) (trodAll_cons_mk (again (by kernel_rfl) (of_decide_eq_true (by kernel_rfl)) h1 hb (before := p0 ++ p1) (fun x hx => hlt x (by simpa using hx)) (fun x hx => hsp x (by simpa using hx)) (fun x hx => by simp [hx])) (trodAll_cons_mk (shut_int Try.underlying5 w2) (trodAll_mk0))))
    (fun _ _ => rfl) (by simp) hb (ok_one (by kernel_rfl) rfl (okWide_bool_mk Try.underlying4 _))⟩

set_option maxRecDepth 100000 in
theorem jobSteps_lifted (os : Os) (started : os.Started) (H : Type) (enc : TypeId × Value → H) :
    ReturnsInHanded {} Try.checked os 6 .any (Rows.jobStepsSpec.pre6 enc Try.prog Try.f6 Rows.jobStepsRow.domain false) (Rows.jobStepsSpec.post enc Try.prog Try.f6 false true false false) := by
  refine returnsInHanded_of_change (C := Try.checked) own started (by kernel_rfl) Try.func6
    (ChangeSpec.witness6 (enc := enc) (C := Try.checked) false ⟨#[], #[.slice none 0 0, .slice none 0 0, .int .u8 0], []⟩ 8 (by kernel_rfl) (by kernel_rfl) (by kernel_rfl) (by kernel_rfl)) ?_
  intro W base args ds gs before hval hW _ _
  exact jobSteps_contract H enc W base args ds gs before hval hW

theorem jobSteps_holds : Rows.JobStepsSaid :=
  OpenClaim.holds_of_wide 6 Try.f6 rfl rfl rfl rfl rfl rfl rfl ⟨rfl, rfl, rfl, rfl, rfl⟩ rfl rfl rfl rfl rfl (by kernel_rfl) Try.func6 (by kernel_rfl)
    (of_decide_eq_true (by kernel_rfl)) (by unfold Func.isWrapper; first | (rw [if_pos (by decide +kernel)]; kernel_rfl) | (rw [if_neg (by decide +kernel)]; exact ⟨rfl, rfl⟩))
    (fun os started H enc _ => jobSteps_lifted os started H enc)
#print axioms jobSteps_holds
end Go.Proofs.Ytggnkgddblpicaa
