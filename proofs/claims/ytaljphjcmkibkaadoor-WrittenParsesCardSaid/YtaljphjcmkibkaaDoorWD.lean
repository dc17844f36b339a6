/- Prefixes as an address and a length, and the contracts of addr.Cut, prefix.Family, Make, Of and Right. Conditions: the words are below 2^64. -/
import Derived.Test.YtaljphjcmkibkaaDoorWC
namespace Go.Proofs.YtaljphjcmkibkaaDoor
open Go.RowKit Go.WideShapes Go.ChangeShapes

set_option maxHeartbeats 1600000 in
theorem cut_any (a : Ad) (ha : a.Ok) (n : Int) (N : Nat) (hN : (N : Int) = min (max n 0) 128) (w : World) : Calls Tryd.prog 43 #[a.val, .int .i64 n] w fun e w' => e = .returned (a.cut N).val ∧ Below w.heap.size w w' := by
  have hv : a.cut N = a.and (Ad.mask N) := rfl
  rw [hv]
  have h0 : Below w.heap.size w (((w.alloc (.cells a.cs 24)).alloc (.cells #[.int .u64 0, .int .u64 0] 24)).drew) := (((Below.refl _ _).alloc (Nat.le_refl _) _).alloc (by simp) _).drew
  have A0 : Blk (((w.alloc (.cells a.cs 24)).alloc (.cells #[.int .u64 0, .int .u64 0] 24)).drew) w.heap.size 24 a.cs := (Blk.new _ _ _).alloc _
  have hB : Blk (((w.alloc (.cells a.cs 24)).alloc (.cells #[.int .u64 0, .int .u64 0] 24)).drew) (w.heap.size + 1) 24 #[.int .u64 0, .int .u64 0] := Blk.newAt _ _ (by simp)
  have d0 : (((w.alloc (.cells a.cs 24)).alloc (.cells #[.int .u64 0, .int .u64 0] 24)).drew).cell? ⟨w.heap.size, 0, none⟩ = some (.int .u64 (a.x : Int)) := A0.cell 0
  have e0 : (((w.alloc (.cells a.cs 24)).alloc (.cells #[.int .u64 0, .int .u64 0] 24)).drew).cell? ⟨w.heap.size, 1, none⟩ = some (.int .u64 (a.y : Int)) := A0.cell 1
  generalize hb : Ad.mask N = b
  have hbo : b.Ok := hb ▸ Ad.mask_ok N
  go_enter Tryd.func43, Tryd.ntmps43
  simp only [Ad.val]
  go_wp2
  go_region_held3 (fun W => Below w.heap.size w W ∧ W.cell? ⟨w.heap.size, 0, none⟩ = some (.int .u64 (a.x : Int)) ∧ W.cell? ⟨w.heap.size, 1, none⟩ = some (.int .u64 (a.y : Int))) (first | exact ⟨h0, d0, e0⟩ | exact ⟨h1, d1, e1⟩ | exact ⟨h2, d2, e2⟩ | exact ⟨(h2.setCell (Nat.le_succ _) _).setCell (Nat.le_succ _) _, ((A2.far (p := ⟨w.heap.size + 1, 0, none⟩) (Nat.ne_of_lt (Nat.lt_succ_self _)) _).far (p := ⟨w.heap.size + 1, 1, none⟩) (Nat.ne_of_lt (Nat.lt_succ_self _)) _).cell 0, ((A2.far (p := ⟨w.heap.size + 1, 0, none⟩) (Nat.ne_of_lt (Nat.lt_succ_self _)) _).far (p := ⟨w.heap.size + 1, 1, none⟩) (Nat.ne_of_lt (Nat.lt_succ_self _)) _).cell 1⟩)
    (first
    | (go_at_call 57; refine (mask_any n N hN _).mono ?_; rintro e w1 ⟨rfl, hb1⟩; rw [hb]; simp only [Ad.val]; have h1 := h0.trans (hb1.mono h0.size); have A1 := A0.below hb1 A0.lt; have d1 := A1.cell 0; have e1 := A1.cell 1; simp only [Ad.cs, List.getElem?_toArray, List.getElem?_cons_zero, List.getElem?_cons_succ] at d1 e1)
    | (go_at_call 56; refine (and_any a b ha hbo _).mono ?_; rintro e w2 ⟨rfl, hb2⟩; simp only [Ad.val, Ad.and]; have h2 := h1.trans (hb2.mono h1.size); have A2 := A1.below hb2 A1.lt; have d2 := A2.cell 0; have e2 := A2.cell 1; have hB2 := (Blk.below (Blk.below hB hb1 (hB).lt) hb2 ((Blk.below hB hb1 (hB).lt)).lt); have z0 := hB2.cell 0; have z1 := hB2.cell 1; have y0 := hB2.frozen 0; have y1 := hB2.frozen 1; simp at z0 z1; simp only [Ad.cs, List.getElem?_toArray, List.getElem?_cons_zero, List.getElem?_cons_succ] at d2 e2))
  go_wp2
  refine bodyPost_ret (results_blk (g := w.heap.size + 1) (t := 24) (cs := (a.and b).cs) rfl rfl ((hB2.setL 0 _).setL 1 _) aA zA) rfl ⟨rfl, ?_⟩
  exact (h2.setCell (Nat.le_succ _) _).setCell (Nat.le_succ _) _

def fam (w : Int) : Bool := w == 32 || w == 128
theorem family_any (n : Int) (w : World) : Calls Tryd.prog 42 #[.int .i64 n] w fun e w' => e = .returned (.bool (fam n)) ∧ w' = w := by
  by_cases h : n = 32
  · subst h
    go_enter Tryd.func42, Tryd.ntmps42
    go_wp2
    go_ret
    exact ⟨rfl, rfl⟩
  · have hb : (n == 32) = false := by simpa using h
    have hf : fam n = (n == 128) := by rw [fam, hb]; rfl
    rw [hf]
    go_enter Tryd.func42, Tryd.ntmps42
    go_wp2
    go_ret
    exact ⟨rfl, rfl⟩

/-- A prefix. -/
structure Pf where
  a : Ad
  n : Int
deriving DecidableEq
def Pf.cs (p : Pf) : Array Value := #[.int .u64 (p.a.x : Int), .int .u64 (p.a.y : Int), .int .i64 p.n]
def Pf.enc (p : Pf) : List Value := [.int .u64 (p.a.x : Int), .int .u64 (p.a.y : Int), .int .i64 p.n]
def Pf.val (p : Pf) : Value := .agg #[.int .u64 (p.a.x : Int), .int .u64 (p.a.y : Int), .int .i64 p.n]
def F3 : List (Option IntKind) := [some .u64, some .u64, some .i64]
theorem flatP : flatOf Tryd.prog 20 36 = some F3 := by kernel_rfl
theorem flatQ : flatOf Tryd.prog 20 32 = some F3 := by kernel_rfl
theorem aP : ∀ w, (isAgg 36).run Tryd.prog w = .ok true w := fun _ => by kernel_rfl
theorem zP : ∀ w, (Go.sizeOf 36).run Tryd.prog w = .ok 3 w := fun _ => by kernel_rfl
theorem aQ : ∀ w, (isAgg 32).run Tryd.prog w = .ok true w := fun _ => by kernel_rfl
theorem zQ : ∀ w, (Go.sizeOf 32).run Tryd.prog w = .ok 3 w := fun _ => by kernel_rfl
theorem kindsP (p : Pf) : Kinds F3 p.enc := ⟨⟨_, rfl⟩, ⟨_, rfl⟩, ⟨_, rfl⟩, trivial⟩
theorem samePf (a b : Pf) : sameL a.enc b.enc = decide (a = b) := by
  rw [Bool.eq_iff_iff, sameL_iff (kindsP a) (kindsP b), decide_eq_true_iff]
  constructor
  · intro h
    obtain ⟨⟨ax, ay⟩, an⟩ := a
    obtain ⟨⟨bx, bY⟩, bn⟩ := b
    simp only [Pf.enc, List.cons.injEq, Value.int.injEq, true_and, and_true, Int.natCast_inj] at h
    obtain ⟨h0, h1, h2⟩ := h
    subst h0 h1 h2
    rfl
  · rintro rfl; rfl
theorem eqlP (a b : Pf) (w : World) : (binOp .eql 36 a.val b.val).run Tryd.prog w = .ok (.bool (decide (a = b))) w := by
  rw [← samePf]
  exact run_eql_flat w flatP (by omega) (.inl (by rw [Tryd.underlying36])) (kindsP a) (kindsP b)
theorem eqlQ (a b : Pf) (w : World) : (binOp .eql 32 a.val b.val).run Tryd.prog w = .ok (.bool (decide (a = b))) w := by
  rw [← samePf]
  exact run_eql_flat w flatQ (by omega) (.inl (by rw [Tryd.underlying32])) (kindsP a) (kindsP b)
theorem flatB : flatOf Tryd.prog 20 23 = some F2 := by kernel_rfl
theorem eqlB (a b : Ad) (w : World) : (binOp .eql 23 a.val b.val).run Tryd.prog w = .ok (.bool (decide (a = b))) w := by
  rw [← sameA]
  exact run_eql_flat w flatB (by omega) (.inr (by rw [Tryd.underlying23])) (kindsA a) (kindsA b)

def Pf.make (a : Ad) (n : Int) : Pf := ⟨a.cut (min (max n 0) 128).toNat, ((min (max n 0) 128).toNat : Nat)⟩
set_option maxHeartbeats 1600000 in
theorem make_any (a : Ad) (ha : a.Ok) (n : Int) (w : World) : Calls Tryd.prog 24 #[a.val, .int .i64 n] w fun e w' => e = .returned (Pf.make a n).val ∧ Below w.heap.size w w' := by
  obtain ⟨N, hN⟩ : ∃ N : Nat, N = (min (max n 0) 128).toNat := ⟨_, rfl⟩
  have hv : Pf.make a n = ⟨a.cut N, (N : Int)⟩ := by rw [Pf.make, hN]
  have hN1 : N ≤ 128 := by omega
  obtain ⟨M, hM⟩ : ∃ M : Int, (if n < 0 then (0 : Int) else n) = M := ⟨_, rfl⟩
  have hN2 : (if (128 : Int) < M then (128 : Int) else M) = (N : Int) := by subst hM; split <;> split <;> omega
  rw [hv]
  clear hv hN
  have hB : Blk ((w.alloc (.cells a.cs 24)).alloc (.cells #[.int .u64 0, .int .u64 0, .int .i64 0] 36)) (w.heap.size + 1) 36 #[.int .u64 0, .int .u64 0, .int .i64 0] := Blk.newAt _ _ (by simp)
  have h0 : Below w.heap.size w ((w.alloc (.cells a.cs 24)).alloc (.cells #[.int .u64 0, .int .u64 0, .int .i64 0] 36)) := ((Below.refl _ _).alloc (Nat.le_refl _) _).alloc (by simp) _
  go_enter Tryd.func24, Tryd.ntmps24
  simp only [Ad.val]
  go_wp2_with (go_at_call 43; refine (cut_any a ha (N : Int) N (by omega) _).mono ?_; rintro e w1 ⟨rfl, hb1⟩; simp only [Ad.val]; have hR := hB.below hb1 hB.lt; have z0 := hR.cell 0; have z1 := hR.cell 1; have z2 := hR.cell 2; have y0 := hR.frozen 0; have y1 := hR.frozen 1; have y2 := hR.frozen 2; simp at z0 z1 z2)
  refine bodyPost_ret (results_blk (g := w.heap.size + 1) (t := 36) (cs := (Pf.mk (a.cut N) N).cs) rfl rfl (((hR.setL 0 _).setL 1 _).setL 2 _) aP zP) rfl ⟨rfl, ?_⟩
  exact (((h0.trans (hb1.mono h0.size)).setCell (Nat.le_succ _) _).setCell (Nat.le_succ _) _).setCell (Nat.le_succ _) _

/-- Is an address of a family? -/
def Ad.of (w : Int) (a : Ad) : Bool := fam w && decide (a.cut (min (max w 0) 128).toNat = a)
set_option maxHeartbeats 1600000 in
theorem of_any (n : Int) (a : Ad) (ha : a.Ok) (w : World) : Calls Tryd.prog 23 #[.int .i64 n, a.val] w fun e w' => e = .returned (.bool (a.of n)) ∧ Below w.heap.size w w' := by
  have h0 : Below w.heap.size w ((w.alloc (.cells a.cs 24)).drew) := ((Below.refl _ _).alloc (Nat.le_refl _) _).drew
  have A0 : Blk ((w.alloc (.cells a.cs 24)).drew) w.heap.size 24 a.cs := Blk.new _ _ _
  have d0 : ((w.alloc (.cells a.cs 24)).drew).cell? ⟨w.heap.size, 0, none⟩ = some (.int .u64 (a.x : Int)) := A0.cell 0
  have e0 : ((w.alloc (.cells a.cs 24)).drew).cell? ⟨w.heap.size, 1, none⟩ = some (.int .u64 (a.y : Int)) := A0.cell 1
  by_cases hf : fam n = true
  · obtain ⟨N, hN⟩ : ∃ N : Nat, N = (min (max n 0) 128).toNat := ⟨_, rfl⟩
    have hv : a.of n = decide (a.cut N = a) := by rw [Ad.of, hf, hN]; rfl
    rw [hv]
    have hNN : (N : Int) = min (max n 0) 128 := by omega
    have HNN := hide hNN
    have E := eqlA (a.cut N) a
    generalize decide (a.cut N = a) = r at E
    generalize hc : a.cut N = c at E
    have HC := hide hc
    simp only [Ad.val] at E
    clear hv hN hNN hc
    go_enter Tryd.func23, Tryd.ntmps23
    simp only [Ad.val]
    go_wp2
    go_region_held3 (fun W => Below w.heap.size w W ∧ W.cell? ⟨w.heap.size, 0, none⟩ = some (.int .u64 (a.x : Int)) ∧ W.cell? ⟨w.heap.size, 1, none⟩ = some (.int .u64 (a.y : Int))) (first | exact ⟨h0, d0, e0⟩ | exact ⟨h1, d1, e1⟩)
      (first
      | (go_at_call 42; refine (family_any n _).mono ?_; rintro e w1 ⟨rfl, rfl⟩; rw [hf])
      | (go_at_call 43; refine (cut_any a ha n N HNN.out _).mono ?_; rintro e w1 ⟨rfl, hb1⟩; rw [HC.out]; simp only [Ad.val]; have h1 := h0.trans (hb1.mono h0.size); have A1 := A0.below hb1 A0.lt; have d1 := A1.cell 0; have e1 := A1.cell 1; simp only [Ad.cs, List.getElem?_toArray, List.getElem?_cons_zero, List.getElem?_cons_succ] at d1 e1))
    go_wp2
    go_ret
    exact ⟨rfl, h1⟩
  · have hf : fam n = false := by simpa using hf
    have hv : a.of n = false := by rw [Ad.of, hf]; rfl
    rw [hv]
    have hff : ∀ w, Calls Tryd.prog 42 #[.int .i64 n] w fun e w' => e = .returned (.bool false) ∧ w' = w := fun w => hf ▸ family_any n w
    clear d0 e0 h0 A0
    go_enter Tryd.func23, Tryd.ntmps23
    simp only [Ad.val]
    go_wp2_with fail
    go_quiet ((go_at_call 42; exact Calls.quiet_of_same (hff _)))
    go_wp2
    go_ret
    exact ⟨rfl, below_drewN ((Below.refl _ _).alloc (Nat.le_refl _) _) _⟩

/-- May a prefix be? -/
def Pf.right (w : Int) (p : Pf) : Bool := fam w && decide (0 ≤ p.n) && decide (p.n ≤ w) && decide (p = Pf.make p.a p.n)
theorem Pf.right_false {w : Int} {p : Pf} (h : ¬ (fam w = true ∧ 0 ≤ p.n ∧ p.n ≤ w)) : p.right w = false := by
  unfold Pf.right
  cases hf : fam w
  · rfl
  · by_cases h0 : 0 ≤ p.n
    · by_cases h1 : p.n ≤ w
      · exact absurd ⟨hf, h0, h1⟩ h
      · rw [decide_eq_false h1, Bool.and_false, Bool.false_and]
    · rw [decide_eq_false h0, Bool.and_false, Bool.false_and, Bool.false_and]
set_option maxHeartbeats 1600000 in
theorem right_any (n : Int) (p : Pf) (ha : p.a.Ok) (w : World) : Calls Tryd.prog 25 #[.int .i64 n, p.val] w fun e w' => e = .returned (.bool (p.right n)) ∧ Below w.heap.size w w' := by
  by_cases hf : fam n = true
  · have hff : ∀ w, Calls Tryd.prog 42 #[.int .i64 n] w fun e w' => e = .returned (.bool true) ∧ w' = w := fun w => hf ▸ family_any n w
    by_cases hn0 : 0 ≤ p.n
    · by_cases hn1 : p.n ≤ n
      · have hv : p.right n = decide (p = Pf.make p.a p.n) := by rw [Pf.right, hf, decide_eq_true hn0, decide_eq_true hn1]; rfl
        rw [hv]
        have E := eqlP p (Pf.make p.a p.n)
        generalize decide (p = Pf.make p.a p.n) = r at E
        generalize hc : Pf.make p.a p.n = c at E
        have HC := hide hc
        simp only [Pf.val] at E
        have h0 : Below w.heap.size w ((w.alloc (.cells p.cs 36)).drew) := ((Below.refl _ _).alloc (Nat.le_refl _) _).drew
        have A0 : Blk ((w.alloc (.cells p.cs 36)).drew) w.heap.size 36 p.cs := Blk.new _ _ _
        have d0 : ((w.alloc (.cells p.cs 36)).drew).cell? ⟨w.heap.size, 0, none⟩ = some (.int .u64 (p.a.x : Int)) := A0.cell 0
        have e0 : ((w.alloc (.cells p.cs 36)).drew).cell? ⟨w.heap.size, 1, none⟩ = some (.int .u64 (p.a.y : Int)) := A0.cell 1
        have g0 : ((w.alloc (.cells p.cs 36)).drew).cell? ⟨w.heap.size, 2, none⟩ = some (.int .i64 p.n) := A0.cell 2
        clear hv hc
        go_enter Tryd.func25, Tryd.ntmps25
        simp only [Pf.val]
        go_wp2
        go_region_held3 (fun W => Below w.heap.size w W ∧ W.cell? ⟨w.heap.size, 0, none⟩ = some (.int .u64 (p.a.x : Int)) ∧ W.cell? ⟨w.heap.size, 1, none⟩ = some (.int .u64 (p.a.y : Int)) ∧ W.cell? ⟨w.heap.size, 2, none⟩ = some (.int .i64 p.n)) (first | exact ⟨h0, d0, e0, g0⟩ | exact ⟨h1, d1, e1, g1⟩)
          (first
          | (go_at_call 42; refine (hff _).mono ?_; rintro e w1 ⟨rfl, rfl⟩)
          | (go_at_call 24; refine (make_any p.a ha p.n _).mono ?_; rintro e w1 ⟨rfl, hb1⟩; rw [HC.out]; simp only [Pf.val]; have h1 := h0.trans (hb1.mono h0.size); have A1 := A0.below hb1 A0.lt; have d1 := A1.cell 0; have e1 := A1.cell 1; have g1 := A1.cell 2; simp only [Pf.cs, List.getElem?_toArray, List.getElem?_cons_zero, List.getElem?_cons_succ] at d1 e1 g1))
        go_wp2
        go_ret
        exact ⟨rfl, h1⟩
      · rw [Pf.right_false (fun h => hn1 h.2.2)]
        have hd1 : decide (p.n ≤ n) = false := decide_eq_false hn1
        have hd2 : decide (0 ≤ p.n) = true := decide_eq_true hn0
        go_enter Tryd.func25, Tryd.ntmps25
        simp only [Pf.val]
        go_wp2_with fail
        go_quiet ((go_at_call 42; exact Calls.quiet_of_same (hff _)))
        go_wp2
        go_ret
        exact ⟨rfl, below_drewN ((Below.refl _ _).alloc (Nat.le_refl _) _) _⟩
    · rw [Pf.right_false (fun h => hn0 h.2.1)]
      have hd2 : decide (0 ≤ p.n) = false := decide_eq_false hn0
      go_enter Tryd.func25, Tryd.ntmps25
      simp only [Pf.val]
      go_wp2_with fail
      go_quiet ((go_at_call 42; exact Calls.quiet_of_same (hff _)))
      go_wp2
      go_ret
      exact ⟨rfl, below_drewN ((Below.refl _ _).alloc (Nat.le_refl _) _) _⟩
  · have hf : fam n = false := by simpa using hf
    have hff : ∀ w, Calls Tryd.prog 42 #[.int .i64 n] w fun e w' => e = .returned (.bool false) ∧ w' = w := fun w => hf ▸ family_any n w
    rw [Pf.right_false (fun h => by rw [hf] at h; cases h.1)]
    go_enter Tryd.func25, Tryd.ntmps25
    simp only [Pf.val]
    go_wp2_with fail
    go_quiet ((go_at_call 42; exact Calls.quiet_of_same (hff _)))
    go_wp2
    go_ret
    exact ⟨rfl, below_drewN ((Below.refl _ _).alloc (Nat.le_refl _) _) _⟩
end Go.Proofs.YtaljphjcmkibkaaDoor
