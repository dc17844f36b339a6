/- Contracts of job.Rest and job.Copy. Conditions: at most 2^20 moves. -/
import Derived.Test.YtggnkgddblpicaaJobB
import Derived.Deep.RegionHeld3
import Derived.Deep.RegionWith
namespace Go.Proofs.Ytggnkgddblpicaa
open Go.RowKit Go.WideShapes Go.ChangeShapes

theorem enc_oneCell (ms : List Mv) : ∀ u ∈ ms.flatMap Mv.enc, u.oneCell' = true := by
  intro u hu
  rw [List.mem_flatMap] at hu
  obtain ⟨m, _, hm⟩ := hu
  simp only [Mv.enc, List.mem_cons, List.not_mem_nil, or_false] at hm
  rcases hm with rfl | rfl | rfl | rfl | rfl | rfl | rfl | rfl | rfl <;> rfl

theorem enc_length (ms : List Mv) : (ms.flatMap Mv.enc).length = ms.length * 9 := by
  induction ms with
  | nil => rfl
  | cons m ms ih => simp only [List.flatMap_cons, List.length_append, ih, List.length_cons, Nat.succ_mul]; simp [Mv.enc]; omega

theorem enc_drop (ms : List Mv) : ∀ d, (ms.flatMap Mv.enc).drop (d * 9) = (ms.drop d).flatMap Mv.enc := by
  induction ms with
  | nil => intro d; simp
  | cons m ms ih =>
    intro d
    cases d with
    | zero => simp
    | succ d =>
      have hl : m.enc.length = 9 := rfl
      simp only [List.flatMap_cons, List.drop_succ_cons, ← ih]
      rw [List.drop_append, List.drop_eq_nil_of_le (by omega), List.nil_append, hl, show (d + 1) * 9 - 9 = d * 9 by omega]

set_option maxHeartbeats 800000 in
theorem rest_any (g : Nat) (A : Option Addr) (c d B : Nat) (ms : List Mv) (w : World) (hj : JobAt w B g A ms.length c (ms.flatMap Mv.enc) d) (hn : ms.length ≤ 1048576) :
    Calls Try.prog 21 #[.pointer (some ⟨g, 0, none⟩)] w fun e w' => ∃ A' c', e = .returned (.slice A' (ms.length - d) c') ∧ w'.ownsRow w.heap.size 38 9 (.slice A' (ms.length - d) c') (ms.length - d) ((ms.drop d).flatMap Mv.enc) ∧ Below w.heap.size w w' := by
  obtain ⟨hb, hown, hB, hd⟩ := hj
  have c0 := hb.cell 0
  have c1 := hb.cell 1
  simp at c0 c1
  have hsl := fun w => run_slice_from Try.underlying22 zMv A ms.length c hd w
  go_enter Try.func21, Try.ntmps21
  go_wp2
  have hr : Reads w w.heap.size 9 (cutA A c d 9) (ms.length - d) ((ms.drop d).flatMap Mv.enc) := by
    rw [← enc_drop]
    exact (Reads.of_own hown).cutA hd (own_cap hown)
  go_region_with (go_at_call 28; refine (clone_any _ (ms.length - d) (c - d) _ _ hr.drew (enc_oneCell _) (by omega)).mono ?_; rintro e w1 ⟨A', c', rfl, hown', hb'⟩)
  all_goals
    go_wp2
    go_ret
    exact ⟨_, _, rfl, hown', ((Below.refl _ _).drew).trans hb'⟩

set_option maxHeartbeats 800000 in
theorem copy_any (g : Nat) (A : Option Addr) (c d B : Nat) (ms : List Mv) (w : World) (hj : JobAt w B g A ms.length c (ms.flatMap Mv.enc) d) (hn : ms.length ≤ 1048576) :
    Calls Try.prog 26 #[.pointer (some ⟨g, 0, none⟩)] w fun e w' => ∃ g' A' c', e = .returned (.pointer (some ⟨g', 0, none⟩)) ∧ JobAt w' w.heap.size g' A' ms.length c' (ms.flatMap Mv.enc) d ∧ Below w.heap.size w w' := by
  obtain ⟨hb, hown, hB, hd⟩ := hj
  have c0 := hb.cell 0
  have c1 := hb.cell 1
  have hlt := hb.lt
  have hr := Reads.of_own hown
  simp at c0 c1
  have hd0 : Below w.heap.size w w.drew := (Below.refl _ _).drew
  go_enter Try.func26, Try.ntmps26
  go_wp2
  go_region_held3 (fun W => Below w.heap.size w W ∧ W.cell? ⟨g, 0, none⟩ = some (Value.slice A ms.length c) ∧ W.cell? ⟨g, 1, none⟩ = some (.int .i64 d)) (first | exact ⟨hd0, c0, c1⟩ | exact ⟨h1, h2, h3⟩ | exact ⟨h1.alloc h1.size _, (World.cell?_alloc_past _ _ _ (Nat.lt_of_lt_of_le hlt h1.size)).trans h2, (World.cell?_alloc_past _ _ _ (Nat.lt_of_lt_of_le hlt h1.size)).trans h3⟩)
    (first | (go_at_call 28; rename_i hS _ _; refine (clone_any A ms.length c _ _ (hr.later hS.1) (enc_oneCell _) hn).mono ?_; rintro e w1 ⟨A', c', rfl, hown', hb'⟩; have h1 := hS.1.trans (hb'.mono hS.1.size); have h2 := (hb'.cell (p := ⟨g, 0, none⟩) (Nat.lt_of_lt_of_le hlt hS.1.size)).trans hS.2.1; have h3 := (hb'.cell (p := ⟨g, 1, none⟩) (Nat.lt_of_lt_of_le hlt hS.1.size)).trans hS.2.2))
  go_wp2
  go_ret
  exact ⟨_, _, _, rfl, ⟨Blk.new _ _ _, (own_base hown' hS.1.size).alloc _, h1.size, hd⟩, h1.alloc h1.size _⟩
end Go.Proofs.Ytggnkgddblpicaa
