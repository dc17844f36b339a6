/- The contract of written.Prefix. Conditions: the words are below 2^64; what the library asks of the world. -/
import Derived.Test.YtaljphjcmkibkaaDoorWO
namespace Go.Proofs.YtaljphjcmkibkaaDoor
open Go.RowKit Go.WideShapes Go.ChangeShapes

def prefixS (w : Int) (p : Pf) : List UInt8 := if p.right w = false then [] else (addrS w p.a ++ [47]) ++ Lib.itoa p.n
theorem right_n {w : Int} {p : Pf} (h : p.right w = true) : 0 ≤ p.n ∧ p.n ≤ 128 := by
  unfold Pf.right at h
  simp only [Bool.and_eq_true, decide_eq_true_eq] at h
  obtain ⟨⟨⟨h1, h2⟩, h3⟩, _⟩ := h
  unfold fam at h1
  simp at h1
  omega
theorem addrS_len (w : Int) (a : Ad) : (addrS w a).length ≤ 1000 := by
  unfold addrS
  split
  · simp
  · split
    · have h : ∀ k, (pc4 a k).length ≤ 3 := fun k => itoa_len _ (getV_lt a _ 8)
      have h0 := h 0; have h1 := h 1; have h2 := h 2; have h3 := h 3
      simp only [show List.range 4 = [0, 1, 2, 3] from rfl, List.map_cons, List.map_nil, Lib.join_cons, Lib.joinTail, List.flatten_cons, List.flatten_nil, List.length_append, List.length_cons, List.length_nil]
      omega
    · have h : ∀ k, (pc6 a k).length = 4 := fun k => hexL_length _ 4
      simp only [show List.range 8 = [0, 1, 2, 3, 4, 5, 6, 7] from rfl, List.map_cons, List.map_nil, Lib.join_cons, Lib.joinTail, List.flatten_cons, List.flatten_nil, List.length_append, List.length_cons, List.length_nil, h]
      omega
set_option maxHeartbeats 1600000 in
theorem prefix_any (n : Int) (p : Pf) (ha : p.a.Ok) (w : World) (hw : WOK w) : Calls Tryd.prog 15 #[.int .i64 n, p.val] w fun e w' => e = .returned (str (prefixS n p)) ∧ Below w.heap.size w w' := by
  have hB : Below w.heap.size w (w.alloc (.cells p.cs 36)) := (Below.refl _ _).alloc (Nat.le_refl _) _
  have HA := hide (Blk.new w 36 p.cs)
  have HL := hide hB
  have HW0 := hide hw
  clear hB hw
  have hright := fun w => right_any n p ha w
  by_cases hf : p.right n = true
  · rw [hf] at hright
    obtain ⟨hn0, hn1⟩ := right_n hf
    obtain ⟨k, hk⟩ : ∃ k : Nat, (k : Int) = p.n := ⟨p.n.toNat, by omega⟩
    have hv : prefixS n p = (addrS n p.a ++ [47]) ++ Lib.itoa (k : Int) := by rw [prefixS, hf, if_neg (by decide), hk]
    have hkl : (Lib.itoa (k : Int)).length ≤ 3 := itoa_len k (by omega)
    have hal := addrS_len n p.a
    have hadr := fun w hw => addr_any n p.a ha w hw
    have hit := fun w hw => itoa_any k (by omega) w hw
    generalize addrS n p.a = s1 at hv hal hadr
    generalize Lib.itoa (k : Int) = s2 at hv hkl hit
    have HV := hide hv
    have hcat := fun w => run_cat (P := Tryd.prog) s1 [47] (by omega) (by simp) w
    have hcat2 := fun w => run_cat (P := Tryd.prog) (s1 ++ [47]) s2 (by simp; omega) (by omega) w
    simp only [Ad.val, str] at hadr
    simp only [Pf.val, str] at hright ⊢
    clear hv
    go_enter Tryd.func15, Tryd.ntmps15
    go_wp2_with fail
    refine (hright _).mono ?_
    rintro e w1 ⟨rfl, hb1⟩
    have HA1 := hide (HA.out.below hb1 HA.out.lt)
    have HL1 := hide (HL.out.trans (hb1.mono HL.out.size))
    have c0 : w1.drew.cell? ⟨w.heap.size, 0, none⟩ = some (.int .u64 (p.a.x : Int)) := HA1.out.cell 0
    have c1 : w1.drew.cell? ⟨w.heap.size, 1, none⟩ = some (.int .u64 (p.a.y : Int)) := HA1.out.cell 1
    have c2 : w1.drew.cell? ⟨w.heap.size, 2, none⟩ = some (.int .i64 p.n) := HA1.out.cell 2
    have h1 : Below w.heap.size w w1.drew := HL1.out.drew
    clear hb1 HA HL hright
    go_wp2_with fail
    go_region_held3 (fun W => Below w.heap.size w W ∧ W.cell? ⟨w.heap.size, 0, none⟩ = some (.int .u64 (p.a.x : Int)) ∧ W.cell? ⟨w.heap.size, 1, none⟩ = some (.int .u64 (p.a.y : Int)) ∧ W.cell? ⟨w.heap.size, 2, none⟩ = some (.int .i64 p.n)) (first | exact ⟨h1, c0, c1, c2⟩ | exact ⟨h2, d0, d1, d2⟩ | exact ⟨h3, e0, e1, e2⟩)
      (first
      | (go_at_call 10; refine (hadr _ (HW0.out.later h1)).mono ?_; rintro e w2 ⟨rfl, hb2⟩; have h2 := h1.trans (hb2.mono h1.size); have d0 := (hb2.cell (p := ⟨w.heap.size, 0, none⟩) HA1.out.drew.lt).trans c0; have d1 := (hb2.cell (p := ⟨w.heap.size, 1, none⟩) HA1.out.drew.lt).trans c1; have d2 := (hb2.cell (p := ⟨w.heap.size, 2, none⟩) HA1.out.drew.lt).trans c2)
      | (go_at_call 26; rw [← hk]; refine (hit _ (HW0.out.later h2)).mono ?_; rintro e w3 ⟨rfl, hb3⟩; have h3 := h2.trans (hb3.mono h2.size); have e0 := (hb3.cell (p := ⟨w.heap.size, 0, none⟩) (World.block_lt_of_cell? _ _ d0)).trans d0; have e1 := (hb3.cell (p := ⟨w.heap.size, 1, none⟩) (World.block_lt_of_cell? _ _ d1)).trans d1; have e2 := (hb3.cell (p := ⟨w.heap.size, 2, none⟩) (World.block_lt_of_cell? _ _ d2)).trans d2))
    go_wp2
    go_ret
    exact ⟨by rw [HV.out, List.append_assoc]; rfl, h3⟩
  · have hf : p.right n = false := by simpa using hf
    have hv : prefixS n p = [] := by rw [prefixS, if_pos hf]
    rw [hf] at hright
    rw [hv]
    simp only [Pf.val] at hright ⊢
    clear hv
    go_enter Tryd.func15, Tryd.ntmps15
    go_wp2_with fail
    refine (hright _).mono ?_
    rintro e w1 ⟨rfl, hb1⟩
    go_wp2
    go_ret
    exact ⟨rfl, HL.out.trans (hb1.mono HL.out.size)⟩
end Go.Proofs.YtaljphjcmkibkaaDoor
