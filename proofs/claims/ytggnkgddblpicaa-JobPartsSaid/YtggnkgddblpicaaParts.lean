/- The walk of the law JobParts: it returns true, and below the heap of the call nothing has turned. Conditions: the slices lie in memory as a slice reads; the counts are bytes. -/
import Derived.Test.YtggnkgddblpicaaJobI
namespace Go.Proofs.Ytggnkgddblpicaa
open Go.RowKit Go.WideShapes Go.ChangeShapes

theorem enc_take (ms : List Mv) : ∀ d, (ms.flatMap Mv.enc).take (d * 9) = (ms.take d).flatMap Mv.enc := by
  induction ms with
  | nil => intro d; simp
  | cons m ms ih =>
    intro d
    cases d with
    | zero => simp
    | succ d =>
      have hl : m.enc.length = 9 := rfl
      simp only [List.flatMap_cons, List.take_succ_cons, ← ih]
      rw [List.take_append, List.take_of_length_le (by omega), hl, show (d + 1) * 9 - 9 = d * 9 by omega]

set_option maxHeartbeats 3200000 in
theorem jobParts_any (A : Option Addr) (n c : Nat) (ms : List Mv) (at_ : Nat) (w : World) (hr : Reads w w.heap.size 9 A n (ms.flatMap Mv.enc)) (ha : at_ ≤ 255) (hc : n ≤ c) :
    Calls Try.prog 5 #[.slice A n c, .int .u8 at_] w fun e' w' => e' = .returned (.bool true) ∧ Below w.heap.size w w' := by
  by_cases hn : n ≤ 40
  · have hnI : ¬ (40 : Int) < (n : Int) := by omega
    have hl : ms.length = n := by have := hr.1; rw [enc_length] at this; omega
    subst hl
    obtain ⟨k, hk⟩ : ∃ k : Nat, k = min at_ ms.length := ⟨_, rfl⟩
    have hkn : k ≤ ms.length := by omega
    have hmin : min (at_ : Int) (ms.length : Int) = (k : Int) := by omega
    have hrt := hr.take hkn
    rw [enc_take] at hrt
    have hrd := hr.cutA hkn hc
    rw [enc_drop] at hrd
    have hl1 : (ms.take k).length = k := by rw [List.length_take]; omega
    have hl2 : (ms.drop k).length = ms.length - k := List.length_drop
    have hms : ms.take k ++ ms.drop k = ms := List.take_append_drop k ms
    generalize ms.take k = l1 at hl1 hms hrt
    generalize ms.drop k = l2 at hl2 hms hrd
    have HR := hide hr
    have HRT := hide hrt
    have HRD := hide hrd
    clear hr hk hrt hrd
    have hsl := fun w => run_slice_from Try.underlying22 zMv A ms.length c hkn w
    have hsu := fun w => run_slice_upto Try.underlying22 zMv A ms.length c (k := k) (by omega) w
    have hT0 : Two w.heap.size w.heap.size (w.heap.size + 1) [] [] ((w.alloc (.cells #[.slice none 0 0] 22)).alloc (.cells #[.slice none 0 0] 22)) :=
      ⟨none, 0, none, 0, (Blk.new _ _ _).alloc _, World.ownsRow_nil _ _ _ _, Blk.newAt _ _ (by simp), World.ownsRow_nil _ _ _ _, fun k hk => by simp [Value.ownBlock] at hk⟩
    have HT0 := hide hT0
    clear hT0
    go_enter Try.func5, Try.ntmps5
    go_wp2
    go_region
    go_wp2
    go_loopw [31] (fun i wr => (i = .int .i64 0 ∧ Hid (Two w.heap.size w.heap.size (w.heap.size + 1) [] [] wr) ∨ i = .int .i64 1 ∧ Hid (Two w.heap.size w.heap.size (w.heap.size + 1) ms [] wr) ∨
      i = .int .i64 2 ∧ Hid (Two w.heap.size w.heap.size (w.heap.size + 1) ms l1 wr) ∨ i = .int .i64 3 ∧ Hid (Two w.heap.size w.heap.size (w.heap.size + 1) ms ms wr)) ∧
      Hid (Blk wr (w.heap.size + 1 + 1) 22 #[.slice A ms.length c, .slice A k c, .slice (cutA A c k 9) (ms.length - k) (c - k)]) ∧ Hid (Below w.heap.size w wr)) (fun i _ => 3 - (intOf i).toNat)
    case atStart => exact ⟨.inl ⟨rfl, hide (HT0.out.later ((Below.refl _ _).alloc (Nat.le_refl _) _).drew)⟩, hide (Blk.newAt _ _ (by simp)).drew, hide (((((Below.refl _ _).alloc (Nat.le_refl _) _).alloc (by simp) _).alloc (by simp; omega) _).drew)⟩
    case round =>
    obtain ⟨hX, HK, HB⟩ := hrel
    clear HT0 hsl hsu
    rcases hX with ⟨rfl, HT⟩ | ⟨rfl, HT⟩ | ⟨rfl, HT⟩ | ⟨rfl, HT⟩
    · have HB0 := hide (HB.out.alloc HB.out.size (.cells #[.int .i64 0] 3))
      have HT0 := hide (HT.out.later ((Below.refl _ _).alloc (Nat.le_refl _) (.cells #[.int .i64 0] 3)))
      have HI0 := hide (Blk.new wr 3 #[.int .i64 0])
      have HK0 := hide (HK.out.alloc (.cells #[.int .i64 0] 3))
      have c0 := HK.out.cell 0
      simp at c0
      have hlen : ms.length = ms.length := rfl
      go_wp2_with fail
      refine (new_any A ms.length c ((ms).flatMap Mv.enc) _ (HR.out.later HB0.out) (enc_oneCell _) (by omega)).mono ?_
      rintro e1 w1 ⟨g, A1, c1, rfl, hj1, hb1⟩

      have HJ1 := hide hj1
      have HB1 := hide (HB0.out.trans (hb1.mono HB0.out.size))
      have HI1 := hide (HI0.out.below hb1 HI0.out.lt)
      have HK1 := hide (HK0.out.below hb1 HK0.out.lt)
      have HBB := hide hb1
      clear hj1 hb1 c0
      go_wp2_with fail
      refine (parts_run #[.pointer (some ⟨wr.heap.size, 0, none⟩), .pointer (some ⟨w.heap.size, 0, none⟩), .pointer (some ⟨w.heap.size + 1, 0, none⟩)] w.heap.size (w.heap.size + 1) wr.heap.size (w.heap.size + 1 + 1) w.heap.size 0 (fun S L h1 h2 h3 h4 => collect18_1 0 (by decide) S w.heap.size L wr.heap.size w.heap.size (w.heap.size + 1) h1 h2 h3 h4) g A1 c1 (ms) ([]) ([]) ms.length _ w1 HT0.out HBB.out HJ1.out (by omega) _ HI1.out HK1.out (by omega) HB0.out.size (by omega) (by first | omega | (simp; omega)) (by omega) (by omega)).mono ?_
      rintro e2 w2 ⟨rfl, hT, hK, hB⟩
      have HT2 := hide hT
      have HK2 := hide hK
      have HB2 := hide (HB1.out.trans hB)
      clear hT hK hB HT0 HI0 HK0 HB0 HJ1 HB1 HI1 HK1 HBB HT HK HB

      go_wp2
      go_roundw
      case rel => exact ⟨.inr (.inl ⟨rfl, HT2⟩), HK2, HB2⟩
      case measure => simp [intOf]
    · have HB0 := hide (HB.out.alloc HB.out.size (.cells #[.int .i64 1] 3))
      have HT0 := hide (HT.out.swap.later ((Below.refl _ _).alloc (Nat.le_refl _) (.cells #[.int .i64 1] 3)))
      have HI0 := hide (Blk.new wr 3 #[.int .i64 1])
      have HK0 := hide (HK.out.alloc (.cells #[.int .i64 1] 3))
      have c0 := HK.out.cell 1
      simp at c0
      have hlen : l1.length = k := hl1
      go_wp2_with fail
      refine (new_any A k c ((l1).flatMap Mv.enc) _ (HRT.out.later HB0.out) (enc_oneCell _) (by omega)).mono ?_
      rintro e1 w1 ⟨g, A1, c1, rfl, hj1, hb1⟩
      rw [← hlen] at hj1
      have HJ1 := hide hj1
      have HB1 := hide (HB0.out.trans (hb1.mono HB0.out.size))
      have HI1 := hide (HI0.out.below hb1 HI0.out.lt)
      have HK1 := hide (HK0.out.below hb1 HK0.out.lt)
      have HBB := hide hb1
      clear hj1 hb1 c0
      go_wp2_with fail
      refine (parts_run #[.pointer (some ⟨wr.heap.size, 0, none⟩), .pointer (some ⟨w.heap.size, 0, none⟩), .pointer (some ⟨w.heap.size + 1, 0, none⟩)] (w.heap.size + 1) w.heap.size wr.heap.size (w.heap.size + 1 + 1) w.heap.size 1 (fun S L h1 h2 h3 h4 => collect18_2 1 (by decide) S w.heap.size L wr.heap.size w.heap.size (w.heap.size + 1) h1 h2 h3 h4) g A1 c1 (l1) ([]) (ms) ms.length _ w1 HT0.out HBB.out HJ1.out (by omega) _ HI1.out HK1.out (by omega) HB0.out.size (by omega) (by first | omega | (simp; omega)) (by omega) (by omega)).mono ?_
      rintro e2 w2 ⟨rfl, hT, hK, hB⟩
      have HT2 := hide hT.swap
      have HK2 := hide hK
      have HB2 := hide (HB1.out.trans hB)
      clear hT hK hB HT0 HI0 HK0 HB0 HJ1 HB1 HI1 HK1 HBB HT HK HB
      rw [hlen]
      go_wp2
      go_roundw
      case rel => exact ⟨.inr (.inr (.inl ⟨rfl, HT2⟩)), HK2, HB2⟩
      case measure => simp [intOf]
    · have HB0 := hide (HB.out.alloc HB.out.size (.cells #[.int .i64 2] 3))
      have HT0 := hide (HT.out.swap.later ((Below.refl _ _).alloc (Nat.le_refl _) (.cells #[.int .i64 2] 3)))
      have HI0 := hide (Blk.new wr 3 #[.int .i64 2])
      have HK0 := hide (HK.out.alloc (.cells #[.int .i64 2] 3))
      have c0 := HK.out.cell 2
      simp at c0
      have hlen : l2.length = (ms.length - k) := hl2
      go_wp2_with fail
      refine (new_any (cutA A c k 9) (ms.length - k) (c - k) ((l2).flatMap Mv.enc) _ (HRD.out.later HB0.out) (enc_oneCell _) (by omega)).mono ?_
      rintro e1 w1 ⟨g, A1, c1, rfl, hj1, hb1⟩
      rw [← hlen] at hj1
      have HJ1 := hide hj1
      have HB1 := hide (HB0.out.trans (hb1.mono HB0.out.size))
      have HI1 := hide (HI0.out.below hb1 HI0.out.lt)
      have HK1 := hide (HK0.out.below hb1 HK0.out.lt)
      have HBB := hide hb1
      clear hj1 hb1 c0
      go_wp2_with fail
      refine (parts_run #[.pointer (some ⟨wr.heap.size, 0, none⟩), .pointer (some ⟨w.heap.size, 0, none⟩), .pointer (some ⟨w.heap.size + 1, 0, none⟩)] (w.heap.size + 1) w.heap.size wr.heap.size (w.heap.size + 1 + 1) w.heap.size 2 (fun S L h1 h2 h3 h4 => collect18_2 2 (by decide) S w.heap.size L wr.heap.size w.heap.size (w.heap.size + 1) h1 h2 h3 h4) g A1 c1 (l2) (l1) (ms) ms.length _ w1 HT0.out HBB.out HJ1.out (by omega) _ HI1.out HK1.out (by omega) HB0.out.size (by omega) (by first | omega | (simp; omega)) (by omega) (by omega)).mono ?_
      rintro e2 w2 ⟨rfl, hT, hK, hB⟩
      have HT2 := hide hT.swap
      have HK2 := hide hK
      have HB2 := hide (HB1.out.trans hB)
      clear hT hK hB HT0 HI0 HK0 HB0 HJ1 HB1 HI1 HK1 HBB HT HK HB
      rw [hlen]
      go_wp2
      go_roundw
      case rel => exact ⟨.inr (.inr (.inr (⟨rfl, hide (by have := HT2.out; rwa [hms] at this)⟩))), HK2, HB2⟩
      case measure => simp [intOf]
    · obtain ⟨A1, c1, A2, c2, h1, h2, h3, h4, h5⟩ := HT.out
      have e1 := h1.cell 0
      have e2 := h3.cell 0
      simp at e1 e2
      have HR1 := hide (Reads.of_own h2)
      have HR2 := hide (Reads.of_own h4)
      have HRA := hide (HR.out.later HB.out)
      clear h1 h2 h3 h4 h5 HT HK HR HRT HRD hl1 hl2 hms
      go_wp2_with fail
      refine (same_any A1 A2 ms.length c1 c2 wr.heap.size ms ms wr HR1.out HR2.out (by omega) true (by simp)).mono ?_
      rintro e3 w3 ⟨rfl, q3, rfl⟩
      have e1' : (wr.drewN q3).cell? ⟨w.heap.size, 0, none⟩ = some (.slice A1 ms.length c1) := e1
      go_wp2_with fail
      refine (same_any A1 A ms.length c1 c wr.heap.size ms ms _ (HR1.out.drewN q3) (HRA.out.drewN q3) (by omega) true (by simp)).mono ?_
      rintro e4 w4 ⟨rfl, q4, rfl⟩
      go_wp2_with fail
      refine (awake_any _).mono ?_
      rintro e5 w5 ⟨rfl, hb5⟩
      go_wp2
      go_ret
      exact ⟨rfl, (below_drewN HB.out _).trans (hb5.mono HB.out.size)⟩
  · have hnI : (40 : Int) < (n : Int) := by omega
    go_enter Try.func5, Try.ntmps5
    go_wp2_with (go_at_call 9; refine (awake_any _).mono ?_; rintro e w1 ⟨rfl, hb⟩)
    go_ret
    exact ⟨rfl, hb⟩
end Go.Proofs.Ytggnkgddblpicaa
