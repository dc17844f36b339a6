/- Equality of addresses, and the contracts of addr.Bit and With. Conditions: the words are below 2^64, the bit is one of 128. -/
import Derived.Test.YtaljphjcmkibkaaDoorWA
namespace Go.Proofs.YtaljphjcmkibkaaDoor
open Go.RowKit Go.WideShapes Go.ChangeShapes

def F2 : List (Option IntKind) := [some .u64, some .u64]
def Ad.enc (a : Ad) : List Value := [.int .u64 (a.x : Int), .int .u64 (a.y : Int)]
theorem flatA : flatOf Tryd.prog 20 24 = some F2 := by kernel_rfl
theorem kindsA (a : Ad) : Kinds F2 a.enc := ⟨⟨_, rfl⟩, ⟨_, rfl⟩, trivial⟩
theorem sameA (a b : Ad) : sameL a.enc b.enc = decide (a = b) := by
  rw [Bool.eq_iff_iff, sameL_iff (kindsA a) (kindsA b), decide_eq_true_iff]
  constructor
  · intro h
    cases a; cases b
    simp only [Ad.enc, List.cons.injEq, Value.int.injEq, true_and, and_true, Int.natCast_inj] at h
    obtain ⟨h0, h1⟩ := h
    subst h0 h1
    rfl
  · rintro rfl; rfl
theorem neqA (a b : Ad) (w : World) : (binOp .neq 24 a.val b.val).run Tryd.prog w = .ok (.bool (!decide (a = b))) w := by
  rw [← sameA]
  exact run_neq_flat w flatA (by omega) (.inr (by rw [Tryd.underlying24])) (kindsA a) (kindsA b)
theorem eqlA (a b : Ad) (w : World) : (binOp .eql 24 a.val b.val).run Tryd.prog w = .ok (.bool (decide (a = b))) w := by
  rw [← sameA]
  exact run_eql_flat w flatA (by omega) (.inr (by rw [Tryd.underlying24])) (kindsA a) (kindsA b)

/-- Is bit k set? -/
def Ad.at_ (a : Ad) (k : Nat) : Bool := decide (a.and (Ad.bit k) ≠ ⟨0, 0⟩)

set_option maxHeartbeats 1600000 in
theorem Bit_in (a : Ad) (ha : a.Ok) (k : Nat) (hk : k < 128) (w : World) : Calls Tryd.prog 45 #[a.val, .int .i64 k] w fun e w' => e = .returned (.bool (a.at_ k)) ∧ Below w.heap.size w w' := by
  have E := neqA (a.and (Ad.bit k)) ⟨0, 0⟩
  have hE : (!decide (a.and (Ad.bit k) = ⟨0, 0⟩)) = a.at_ k := by rw [Ad.at_, decide_not]
  rw [hE] at E
  have h0 : Below w.heap.size w ((w.alloc (.cells a.cs 24)).drew) := ((Below.refl _ _).alloc (Nat.le_refl _) _).drew
  have c0 : ((w.alloc (.cells a.cs 24)).drew).cell? ⟨w.heap.size, 0, none⟩ = some (.int .u64 (a.x : Int)) := (Blk.new w 24 a.cs).cell 0
  have c1 : ((w.alloc (.cells a.cs 24)).drew).cell? ⟨w.heap.size, 1, none⟩ = some (.int .u64 (a.y : Int)) := (Blk.new w 24 a.cs).cell 1
  have hlt : w.heap.size < ((w.alloc (.cells a.cs 24)).drew).heap.size := by simp
  generalize hb : Ad.bit k = b at E
  have hbo : b.Ok := hb ▸ Ad.bit_ok k
  generalize a.at_ k = r at E
  clear hE
  have E' : ∀ w, (binOp .neq 24 (.agg #[.int .u64 ((a.x &&& b.x : Nat) : Int), .int .u64 ((a.y &&& b.y : Nat) : Int)]) (.agg #[.int .u64 0, .int .u64 0])).run Tryd.prog w = .ok (.bool r) w := E
  clear E
  go_enter Tryd.func45, Tryd.ntmps45
  simp only [Ad.val]
  go_wp2
  go_region_held3 (fun W => Below w.heap.size w W ∧ W.cell? ⟨w.heap.size, 0, none⟩ = some (.int .u64 (a.x : Int)) ∧ W.cell? ⟨w.heap.size, 1, none⟩ = some (.int .u64 (a.y : Int))) (first | exact ⟨h0, c0, c1⟩ | exact ⟨h1, d0, d1⟩ | exact ⟨h2, e0, e1⟩)
    (first
    | (go_at_call 59; refine (is_in k (by omega) (by omega) _).mono ?_; rintro e w1 ⟨rfl, rfl⟩)
    | (go_at_call 60; refine (bit_any k hk _).mono ?_; rintro e w1 ⟨rfl, hb1⟩; rw [hb]; have h1 := h0.trans (hb1.mono h0.size); have d0 := (hb1.cell (p := ⟨w.heap.size, 0, none⟩) hlt).trans c0; have d1 := (hb1.cell (p := ⟨w.heap.size, 1, none⟩) hlt).trans c1; simp only [Ad.val])
    | (go_at_call 56; refine (and_any a b ha hbo _).mono ?_; rintro e w2 ⟨rfl, hb2⟩; simp only [Ad.val, Ad.and]; have h2 := h1.trans (hb2.mono h1.size); have e0 := (hb2.cell (p := ⟨w.heap.size, 0, none⟩) (Nat.lt_of_lt_of_le hlt hb1.size)).trans d0; have e1 := (hb2.cell (p := ⟨w.heap.size, 1, none⟩) (Nat.lt_of_lt_of_le hlt hb1.size)).trans d1))
  go_wp2
  go_ret
  exact ⟨rfl, h2⟩

/-- A bit set so. -/
def Ad.with_ (a : Ad) (k : Nat) (b : Bool) : Ad := if b then a.or (Ad.bit k) else a.and (Ad.bit k).not
theorem Ad.Ok.with_ {a : Ad} (ha : a.Ok) (k : Nat) (b : Bool) : (a.with_ k b).Ok := by
  unfold Ad.with_
  split
  · exact ha.or (Ad.bit_ok k)
  · exact ha.and (Ad.bit_ok k).not

set_option maxHeartbeats 1600000 in
theorem With_true (a : Ad) (ha : a.Ok) (k : Nat) (hk : k < 128) (w : World) : Calls Tryd.prog 64 #[a.val, .int .i64 k, .bool true] w fun e w' => e = .returned (a.with_ k true).val ∧ Below w.heap.size w w' := by
  have hv : a.with_ k true = a.or (Ad.bit k) := rfl
  rw [hv]
  have h0 : Below w.heap.size w (((w.alloc (.cells a.cs 24)).alloc (.cells #[.int .u64 0, .int .u64 0] 24)).drew) := (((Below.refl _ _).alloc (Nat.le_refl _) _).alloc (by simp) _).drew
  have A0 : Blk (((w.alloc (.cells a.cs 24)).alloc (.cells #[.int .u64 0, .int .u64 0] 24)).drew) w.heap.size 24 a.cs := (Blk.new _ _ _).alloc _
  have hB : Blk (((w.alloc (.cells a.cs 24)).alloc (.cells #[.int .u64 0, .int .u64 0] 24)).drew) (w.heap.size + 1) 24 #[.int .u64 0, .int .u64 0] := Blk.newAt _ _ (by simp)
  have d0 : (((w.alloc (.cells a.cs 24)).alloc (.cells #[.int .u64 0, .int .u64 0] 24)).drew).cell? ⟨w.heap.size, 0, none⟩ = some (.int .u64 (a.x : Int)) := A0.cell 0
  have e0 : (((w.alloc (.cells a.cs 24)).alloc (.cells #[.int .u64 0, .int .u64 0] 24)).drew).cell? ⟨w.heap.size, 1, none⟩ = some (.int .u64 (a.y : Int)) := A0.cell 1
  generalize hb : Ad.bit k = b
  have hbo : b.Ok := hb ▸ Ad.bit_ok k
  go_enter Tryd.func64, Tryd.ntmps64
  simp only [Ad.val]
  go_wp2_with (go_at_call 59; refine (is_in k (by omega) (by omega) _).mono ?_; rintro e w1 ⟨rfl, rfl⟩)
  go_region_held3 (fun W => Below w.heap.size w W ∧ W.cell? ⟨w.heap.size, 0, none⟩ = some (.int .u64 (a.x : Int)) ∧ W.cell? ⟨w.heap.size, 1, none⟩ = some (.int .u64 (a.y : Int))) (first | exact ⟨h0, d0, e0⟩ | exact ⟨h1, d1, e1⟩ | exact ⟨h2, d2, e2⟩ | exact ⟨(h2.setCell (Nat.le_succ _) _).setCell (Nat.le_succ _) _, ((A2.far (p := ⟨w.heap.size + 1, 0, none⟩) (Nat.ne_of_lt (Nat.lt_succ_self _)) _).far (p := ⟨w.heap.size + 1, 1, none⟩) (Nat.ne_of_lt (Nat.lt_succ_self _)) _).cell 0, ((A2.far (p := ⟨w.heap.size + 1, 0, none⟩) (Nat.ne_of_lt (Nat.lt_succ_self _)) _).far (p := ⟨w.heap.size + 1, 1, none⟩) (Nat.ne_of_lt (Nat.lt_succ_self _)) _).cell 1⟩)
    (first
    | (go_at_call 60; refine (bit_any k hk _).mono ?_; rintro e w1 ⟨rfl, hb1⟩; rw [hb]; simp only [Ad.val]; have h1 := h0.trans (hb1.mono h0.size); have A1 := A0.below hb1 A0.lt; have d1 := A1.cell 0; have e1 := A1.cell 1; simp only [Ad.cs, List.getElem?_toArray, List.getElem?_cons_zero, List.getElem?_cons_succ] at d1 e1)
    | (go_at_call 82; refine (or_any a b ha hbo _).mono ?_; rintro e w2 ⟨rfl, hb2⟩; simp only [Ad.val, Ad.or]; have h2 := h1.trans (hb2.mono h1.size); have A2 := A1.below hb2 A1.lt; have d2 := A2.cell 0; have e2 := A2.cell 1; have hB2 := (Blk.below (Blk.below hB hb1 (hB).lt) hb2 ((Blk.below hB hb1 (hB).lt)).lt); have z0 := hB2.cell 0; have z1 := hB2.cell 1; have y0 := hB2.frozen 0; have y1 := hB2.frozen 1; simp at z0 z1; simp only [Ad.cs, List.getElem?_toArray, List.getElem?_cons_zero, List.getElem?_cons_succ] at d2 e2))
  go_wp2
  refine bodyPost_ret (results_blk (g := w.heap.size + 1) (t := 24) (cs := (a.or b).cs) rfl rfl ((hB2.setL 0 _).setL 1 _) aA zA) rfl ⟨rfl, ?_⟩
  exact (h2.setCell (Nat.le_succ _) _).setCell (Nat.le_succ _) _

set_option maxHeartbeats 1600000 in
theorem With_false (a : Ad) (ha : a.Ok) (k : Nat) (hk : k < 128) (w : World) : Calls Tryd.prog 64 #[a.val, .int .i64 k, .bool false] w fun e w' => e = .returned (a.with_ k false).val ∧ Below w.heap.size w w' := by
  have hv : a.with_ k false = a.and (Ad.bit k).not := rfl
  rw [hv]
  have h0 : Below w.heap.size w (((w.alloc (.cells a.cs 24)).alloc (.cells #[.int .u64 0, .int .u64 0] 24)).drew) := (((Below.refl _ _).alloc (Nat.le_refl _) _).alloc (by simp) _).drew
  have A0 : Blk (((w.alloc (.cells a.cs 24)).alloc (.cells #[.int .u64 0, .int .u64 0] 24)).drew) w.heap.size 24 a.cs := (Blk.new _ _ _).alloc _
  have hB : Blk (((w.alloc (.cells a.cs 24)).alloc (.cells #[.int .u64 0, .int .u64 0] 24)).drew) (w.heap.size + 1) 24 #[.int .u64 0, .int .u64 0] := Blk.newAt _ _ (by simp)
  have d0 : (((w.alloc (.cells a.cs 24)).alloc (.cells #[.int .u64 0, .int .u64 0] 24)).drew).cell? ⟨w.heap.size, 0, none⟩ = some (.int .u64 (a.x : Int)) := A0.cell 0
  have e0 : (((w.alloc (.cells a.cs 24)).alloc (.cells #[.int .u64 0, .int .u64 0] 24)).drew).cell? ⟨w.heap.size, 1, none⟩ = some (.int .u64 (a.y : Int)) := A0.cell 1
  generalize hb : Ad.bit k = b
  have hbo : b.Ok := hb ▸ Ad.bit_ok k
  generalize hc : b.not = c
  have hco : c.Ok := hc ▸ hbo.not
  go_enter Tryd.func64, Tryd.ntmps64
  simp only [Ad.val]
  go_wp2_with (go_at_call 59; refine (is_in k (by omega) (by omega) _).mono ?_; rintro e w1 ⟨rfl, rfl⟩)
  go_region_held3 (fun W => Below w.heap.size w W ∧ W.cell? ⟨w.heap.size, 0, none⟩ = some (.int .u64 (a.x : Int)) ∧ W.cell? ⟨w.heap.size, 1, none⟩ = some (.int .u64 (a.y : Int))) (first | exact ⟨h0, d0, e0⟩ | exact ⟨h1, d1, e1⟩ | exact ⟨h2, d2, e2⟩ | exact ⟨h3, d3, e3⟩ | exact ⟨(h3.setCell (Nat.le_succ _) _).setCell (Nat.le_succ _) _, ((A3.far (p := ⟨w.heap.size + 1, 0, none⟩) (Nat.ne_of_lt (Nat.lt_succ_self _)) _).far (p := ⟨w.heap.size + 1, 1, none⟩) (Nat.ne_of_lt (Nat.lt_succ_self _)) _).cell 0, ((A3.far (p := ⟨w.heap.size + 1, 0, none⟩) (Nat.ne_of_lt (Nat.lt_succ_self _)) _).far (p := ⟨w.heap.size + 1, 1, none⟩) (Nat.ne_of_lt (Nat.lt_succ_self _)) _).cell 1⟩)
    (first
    | (go_at_call 60; refine (bit_any k hk _).mono ?_; rintro e w1 ⟨rfl, hb1⟩; rw [hb]; simp only [Ad.val]; have h1 := h0.trans (hb1.mono h0.size); have A1 := A0.below hb1 A0.lt; have d1 := A1.cell 0; have e1 := A1.cell 1; simp only [Ad.cs, List.getElem?_toArray, List.getElem?_cons_zero, List.getElem?_cons_succ] at d1 e1)
    | (go_at_call 83; refine (not_any b hbo _).mono ?_; rintro e w2 ⟨rfl, hb2⟩; rw [hc]; simp only [Ad.val]; have h2 := h1.trans (hb2.mono h1.size); have A2 := A1.below hb2 A1.lt; have d2 := A2.cell 0; have e2 := A2.cell 1; simp only [Ad.cs, List.getElem?_toArray, List.getElem?_cons_zero, List.getElem?_cons_succ] at d2 e2)
    | (go_at_call 56; refine (and_any a c ha hco _).mono ?_; rintro e w3 ⟨rfl, hb3⟩; simp only [Ad.val, Ad.and]; have h3 := h2.trans (hb3.mono h2.size); have A3 := A2.below hb3 A2.lt; have d3 := A3.cell 0; have e3 := A3.cell 1; have hB2 := (Blk.below (Blk.below (Blk.below hB hb1 (hB).lt) hb2 ((Blk.below hB hb1 (hB).lt)).lt) hb3 ((Blk.below (Blk.below hB hb1 (hB).lt) hb2 ((Blk.below hB hb1 (hB).lt)).lt)).lt); have z0 := hB2.cell 0; have z1 := hB2.cell 1; have y0 := hB2.frozen 0; have y1 := hB2.frozen 1; simp at z0 z1; simp only [Ad.cs, List.getElem?_toArray, List.getElem?_cons_zero, List.getElem?_cons_succ] at d3 e3))
  go_wp2
  refine bodyPost_ret (results_blk (g := w.heap.size + 1) (t := 24) (cs := (a.and c).cs) rfl rfl ((hB2.setL 0 _).setL 1 _) aA zA) rfl ⟨rfl, ?_⟩
  exact (h3.setCell (Nat.le_succ _) _).setCell (Nat.le_succ _) _

theorem With_any (a : Ad) (ha : a.Ok) (k : Nat) (hk : k < 128) (b : Bool) (w : World) : Calls Tryd.prog 64 #[a.val, .int .i64 k, .bool b] w fun e w' => e = .returned (a.with_ k b).val ∧ Below w.heap.size w w' := by
  cases b
  · exact With_false a ha k hk w
  · exact With_true a ha k hk w

/-- The first bits of a word. -/
def maskW (l : Nat) : Nat := 18446744073709551616 - 2 ^ (64 - l)
def Ad.mask (n : Nat) : Ad := ⟨maskW (min n 64), maskW (min (n - 64) 64)⟩
theorem maskW_lt (l : Nat) : maskW l < 18446744073709551616 := by
  have : 0 < 2 ^ (64 - l) := Nat.pow_pos (by decide)
  unfold maskW
  omega
theorem Ad.mask_ok (n : Nat) : (Ad.mask n).Ok := ⟨maskW_lt _, maskW_lt _⟩
def Ad.cut (a : Ad) (n : Nat) : Ad := a.and (Ad.mask n)
theorem Ad.Ok.cut {a : Ad} (ha : a.Ok) (n : Nat) : (a.cut n).Ok := ha.and (Ad.mask_ok n)

end Go.Proofs.YtaljphjcmkibkaaDoor
