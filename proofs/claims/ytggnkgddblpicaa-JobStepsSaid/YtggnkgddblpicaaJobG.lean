/- The closures that say OK, a step with one of them, what Peek tells at any place, a job beside another one. Conditions: at most 2^20 moves. -/
import Derived.Test.YtggnkgddblpicaaJobF
namespace Go.Proofs.Ytggnkgddblpicaa
open Go.RowKit Go.WideShapes Go.ChangeShapes

theorem ok22 (m : Mv) (w : World) : Calls Try.prog 22 #[m.val] w fun e w' => e = .returned (.int .i64 0) ∧ Below w.heap.size w w' := by
  go_enter Try.func22, Try.ntmps22
  simp only [Mv.val]
  go_wp2
  go_ret
  exact ⟨rfl, by with_reducible (first | exact Below.refl _ _ | exact (Below.refl _ _).alloc (Nat.le_refl _) _)⟩
theorem eg22 : ∀ args w, (callFunc 22 args).run Try.prog w = .ok (.enter 22 args) w := enters_of Try.func22 (by kernel_rfl) rfl
theorem ok23 (m : Mv) (w : World) : Calls Try.prog 23 #[m.val] w fun e w' => e = .returned (.int .i64 0) ∧ Below w.heap.size w w' := by
  go_enter Try.func23, Try.ntmps23
  simp only [Mv.val]
  go_wp2
  go_ret
  exact ⟨rfl, by with_reducible (first | exact Below.refl _ _ | exact (Below.refl _ _).alloc (Nat.le_refl _) _)⟩
theorem eg23 : ∀ args w, (callFunc 23 args).run Try.prog w = .ok (.enter 23 args) w := enters_of Try.func23 (by kernel_rfl) rfl
theorem ok24 (m : Mv) (w : World) : Calls Try.prog 24 #[m.val] w fun e w' => e = .returned (.int .i64 0) ∧ Below w.heap.size w w' := by
  go_enter Try.func24, Try.ntmps24
  simp only [Mv.val]
  go_wp2
  go_ret
  exact ⟨rfl, by with_reducible (first | exact Below.refl _ _ | exact (Below.refl _ _).alloc (Nat.le_refl _) _)⟩
theorem eg24 : ∀ args w, (callFunc 24 args).run Try.prog w = .ok (.enter 24 args) w := enters_of Try.func24 (by kernel_rfl) rfl
theorem ok25 (m : Mv) (w : World) : Calls Try.prog 25 #[m.val] w fun e w' => e = .returned (.int .i64 0) ∧ Below w.heap.size w w' := by
  go_enter Try.func25, Try.ntmps25
  simp only [Mv.val]
  go_wp2
  go_ret
  exact ⟨rfl, by with_reducible (first | exact Below.refl _ _ | exact (Below.refl _ _).alloc (Nat.le_refl _) _)⟩
theorem eg25 : ∀ args w, (callFunc 25 args).run Try.prog w = .ok (.enter 25 args) w := enters_of Try.func25 (by kernel_rfl) rfl

/-- A job stands while another one is stepped. -/
theorem JobAt.other {w W : World} {B g g' n c d : Nat} {A : Option Addr} {xs : List Value} {cs : Array Value} (h : JobAt w B g A n c xs d) (hO : Only (fun k => False ∨ k = g') w W) (hne : g ≠ g') (hb : Blk w g' 61 cs) : JobAt W B g A n c xs d :=
  ⟨h.1.only hO (fun hk => hk.elim not_false (fun e => hne e)), own_only h.2.1 hO (fun k hk hk' => hk'.elim not_false (fun e => own_blk_ne h.2.1 hb (by decide) (by rw [hk, e]))), h.2.2.1, h.2.2.2⟩

/-- One more step of a job by a function that always says OK: the next move is done, or none is left. -/
theorem step_okAll (f : Nat) (hok : ∀ (m : Mv) (w : World), Calls Try.prog f #[m.val] w fun e w' => e = .returned (.int .i64 0) ∧ Below w.heap.size w w') (eg : ∀ args w, (callFunc f args).run Try.prog w = .ok (.enter f args) w)
    (g : Nat) (A : Option Addr) (c d B : Nat) (ms : List Mv) (w : World) (hj : JobAt w B g A ms.length c (ms.flatMap Mv.enc) d) (hn : ms.length ≤ 1048576) :
    Calls Try.prog 13 #[.pointer (some ⟨g, 0, none⟩), .func (.func f) #[] #[]] w fun e w' => (∃ v, e = .returned (.int .i64 v)) ∧ JobAt w' B g A ms.length c (ms.flatMap Mv.enc) (min ms.length (d + 1)) ∧ Only (fun k => False ∨ k = g) w w' := by
  by_cases hd : d < ms.length
  · refine (step_ok f #[] (fun _ => False) (fun _ => False) Unit (fun _ _ => True) okNext (doOk f hok) eg g A c d B ms () w hj hd hn trivial not_false not_false (fun _ _ => not_false) rfl).mono fun e w' h => ?_
    rw [Nat.min_eq_right (by omega)]
    exact ⟨⟨_, h.1⟩, h.2.2.1, h.2.2.2⟩
  · have he : d = ms.length := by have := hj.2.2.2; omega
    refine (step_none f #[] g A ms.length c d B _ w hj he hn).mono fun e w' h => ?_
    rw [Nat.min_eq_left (by omega), ← he]
    exact ⟨⟨_, h.1⟩, he ▸ hj.later h.2, Only.of_below h.2⟩

/-- What Peek tells. -/
def peekV (ms : List Mv) (d : Nat) : Mv := if h : d < ms.length then ms[d] else Mv.zero
def peekB (ms : List Mv) (d : Nat) : Bool := decide (d < ms.length)
theorem peek_any (g : Nat) (A : Option Addr) (c d B : Nat) (ms : List Mv) (w : World) (hj : JobAt w B g A ms.length c (ms.flatMap Mv.enc) d) (hn : ms.length ≤ 1048576) :
    Calls Try.prog 14 #[.pointer (some ⟨g, 0, none⟩)] w fun e w' => e = .returned (.tuple #[(peekV ms d).val, .bool (peekB ms d)]) ∧ Below w.heap.size w w' := by
  by_cases hd : d < ms.length
  · simp only [peekV, peekB, dif_pos hd, decide_eq_true hd]
    exact peek_some g A c d B ms w hj hd hn
  · simp only [peekV, peekB, dif_neg hd, decide_eq_false hd]
    exact peek_end g A ms.length c d w hj.1 (by have := hj.2.2.2; omega) hn
theorem peekV_drop (ms : List Mv) (d p : Nat) : peekV (ms.drop d) p = peekV ms (d + p) := by
  unfold peekV
  by_cases h : d + p < ms.length
  · rw [dif_pos (by rw [List.length_drop]; omega), dif_pos h]; simp
  · rw [dif_neg (by rw [List.length_drop]; omega), dif_neg h]
theorem peekB_drop (ms : List Mv) (d p : Nat) : peekB (ms.drop d) p = peekB ms (d + p) := by
  unfold peekB
  rw [List.length_drop]
  exact decide_eq_decide.2 (by omega)

end Go.Proofs.Ytggnkgddblpicaa
