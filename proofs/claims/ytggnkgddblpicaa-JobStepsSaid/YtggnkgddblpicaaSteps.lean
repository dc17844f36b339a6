/- The walk of the law JobSteps: it returns true, and below the heap of the call nothing has turned. Conditions: the slices lie in memory as a slice reads; the counts are bytes. -/
import Derived.Test.YtggnkgddblpicaaJobJ
import Derived.BigQuiet
import Derived.Deep.RegionHeld3
import Derived.Deep.RegionWith
namespace Go.Proofs.Ytggnkgddblpicaa
open Go.RowKit Go.WideShapes Go.ChangeShapes

theorem take_clip {α : Type} (l : List α) (d x : Nat) : l.take (d + min x (l.length - d)) = l.take (d + x) := by
  by_cases h : x ≤ l.length - d
  · rw [Nat.min_eq_left h]
  · rw [Nat.min_eq_right (by omega), List.take_of_length_le (l := l) (i := d + x) (by omega), List.take_of_length_le (by omega)]

theorem encs_take (ms : List Mv) : ∀ d, (ms.flatMap Mv.enc).take (d * 9) = (ms.take d).flatMap Mv.enc := by
  induction ms with
  | nil => intro d; simp
  | cons m ms ih =>
    intro d
    cases d with
    | zero => simp
    | succ d =>
      have hl : m.enc.length = 9 := rfl
      simp only [List.flatMap_cons, List.take_succ_cons, ← ih]
      rw [List.take_append, List.take_of_length_le (by omega), hl, show (d + 1) * 9 - 9 = d * 9 by omega]

theorem St.drewN {base ba bf bs fails g : Nat} {Aj : Option Addr} {cj : Nat} {ms : List Mv} {d : Nat} {fl : Bool} {xs : List Mv} {B : Nat} {w : World} (h : St base ba bf bs fails g Aj cj ms d fl xs B w) (q : Nat) : St base ba bf bs fails g Aj cj ms d fl xs B (w.drewN q) :=
  h.later (below_drewN (Below.refl _ _) q)

set_option maxRecDepth 8000 in
set_option maxHeartbeats 3200000 in
theorem jobSteps_any (A : Option Addr) (n c : Nat) (ms : List Mv) (A' : Option Addr) (n' c' : Nat) (bs : List Nat) (fails : Nat) (w : World) (hr : Reads w w.heap.size 9 A n (ms.flatMap Mv.enc)) (hc : n ≤ c)
    (hr' : Reads w w.heap.size 1 A' n' (bs.map (fun x : Nat => Value.int .u8 (x : Int)))) (hb8 : ∀ x ∈ bs, x ≤ 255) (hf8 : fails ≤ 255) :
    Calls Try.prog 6 #[.slice A n c, .slice A' n' c', .int .u8 fails] w fun e' w' => e' = .returned (.bool true) ∧ Below w.heap.size w w' := by
  have hA0 : Below w.heap.size w (w.alloc (.cells #[.int .u8 fails] 5)) := (Below.refl _ _).alloc (Nat.le_refl _) _
  by_cases hn : n ≤ 40
  · by_cases hn' : n' ≤ 40
    · have hnI : ¬ (40 : Int) < (n : Int) := by omega
      have hnI' : ¬ (40 : Int) < (n' : Int) := by omega
      have hl : ms.length = n := by have := hr.1; rw [enc_length] at this; omega
      subst hl
      have hl' : bs.length = n' := by have := hr'.1; simpa using this
      subst hl'
      have HR := hide hr
      have HR' := hide hr'
      have HB8 := hide hb8
      have HI0 := hide (Blk.new w 5 #[.int .u8 (fails : Int)])
      have HA0 := hide hA0
      clear hr hr' hb8 hA0
      go_enter Try.func6, Try.ntmps6
      go_wp2_with fail
      refine (new_any A ms.length c (ms.flatMap Mv.enc) _ (HR.out.later HA0.out) (enc_oneCell _) (by omega)).mono ?_
      rintro e1 w1 ⟨g, Aj, cj, rfl, hj1, hb1⟩
      have hsz0 : (w.alloc (.cells #[.int .u8 (fails : Int)] 5)).heap.size = w.heap.size + 1 := by simp
      have hs1 : w.heap.size ≤ w1.heap.size := by have := hb1.size; omega
      have hS0 : St w.heap.size w1.heap.size (w1.heap.size + 1) w.heap.size fails g Aj cj ms 0 false [] (w.heap.size + 1) ((w1.alloc (.cells #[.slice none 0 0] 22)).alloc (.cells #[.bool false] 4)) :=
        ⟨(hsz0 ▸ hj1).later (((Below.refl _ _).alloc (Nat.le_refl _) _).alloc (by simp) _), Blk.newAt _ _ (by simp), (((HI0.out.below hb1 HI0.out.lt).alloc _).alloc _), none, 0, (Blk.new _ _ _).alloc _, World.ownsRow_nil _ _ _ _, fun k _ h => by simp [Value.ownBlock] at h⟩
      have HS0 := hide hS0
      have HB1 := hide (((HA0.out.trans (hb1.mono HA0.out.size)).alloc hs1 (.cells #[.slice none 0 0] 22)).alloc (by simp; omega) (.cells #[.bool false] 4))
      clear hj1 hb1 hS0 HA0 HI0
      go_wp2
      go_loopw [34] (fun i wr => ∃ (j d : Nat) (fl : Bool), j ≤ bs.length ∧ i = .int .i64 ((j : Nat) : Int) ∧ Hid (d ≤ ms.length) ∧ Hid (St w.heap.size w1.heap.size (w1.heap.size + 1) w.heap.size fails g Aj cj ms d fl (ms.take d) (w.heap.size + 1) wr) ∧ Hid (Below w.heap.size w wr)) (fun i _ => bs.length - (intOf i).toNat)
      case atStart => exact ⟨0, 0, false, Nat.zero_le _, rfl, hide (Nat.zero_le _), HS0, HB1⟩
      case round =>
      obtain ⟨j, d, fl, hj, rfl, hd, HS, HB⟩ := hrel
      clear HS0 HB1
      by_cases hlt : j < bs.length
      · have hltI : (j : Int) < (bs.length : Int) := by omega
        obtain ⟨ab, ao, hA', hab, hcc⟩ := HR'.out.form (by omega) (by omega)
        subst hA'
        have hx8 := HB8.out bs[j] (List.getElem_mem _)
        have hx := (HB.out.cell (p := ⟨ab, ao + j, none⟩) hab).trans (hcc j (.int .u8 (bs[j] : Int)) (by simp [hlt]))
        clear hcc
        generalize bs[j] = x at hx8 hx
        have hd0 := hd.out
        have hlt : (ms.take d).length = d := by rw [List.length_take]; omega
        have hld : (ms.drop d).length = ms.length - d := List.length_drop
        obtain ⟨mn, hmn⟩ : ∃ mn : Nat, mn = min x (ms.length - d) := ⟨_, rfl⟩
        have hmin : min (x : Int) ((ms.length : Int) - (d : Int)) = (mn : Int) := by omega
        have HMN := hide hmn
        have hmnx : mn ≤ x := by omega
        have hmnd : d + mn ≤ ms.length := by omega
        clear hmn
        have hwr : IntKind.i64.wrap ((ms.length : Int) - (d : Int)) = (ms.length : Int) - (d : Int) := by rw [IntKind.wrap_i64]; omega
        have hwr2 : IntKind.i64.wrap ((d : Int) + (mn : Int)) = (d : Int) + (mn : Int) := by rw [IntKind.wrap_i64]; omega
        obtain ⟨k1, k2, k3, Aa, ca, k4, k5, k6⟩ := HS.out
        have e1 := k4.cell 0
        have e2 := k2.cell 0
        have e3 := k3.cell 0
        simp at e1 e2 e3
        rw [Nat.min_eq_left hd0] at e1
        clear k1 k2 k3 k4 k5 k6
        rcases Bool.eq_false_or_eq_true fl with rfl | rfl
        · have hok : True := trivial
          have hfr : runs (stepNext fails) x (true, ms.take d) (ms.drop d) = (mn, 0, (true, ms.take (d + mn))) := by
            rw [runs_step, if_neg (by simp), hld]
            rw [← List.take_add, HMN.out, take_clip]
          go_wp2_with fail
          go_quiet (fail)
          go_wp2_with fail
          refine (steps_run w.heap.size w1.heap.size (w1.heap.size + 1) w.heap.size fails g Aj cj ms d true (ms.take d) (w.heap.size + 1) x _ (HS.out.drewN _) hf8 hd.out (by rw [hlt]; omega) (by omega) (by omega) hs1 (by omega)).mono ?_
          rintro e5 w5 ⟨r5, hr5, rfl, hS5, hB5⟩
          rw [hfr] at hr5
          subst hr5
          have hS6 : St w.heap.size w1.heap.size (w1.heap.size + 1) w.heap.size fails g Aj cj ms (d + mn) true (ms.take (d + mn)) (w.heap.size + 1) w5 := hS5
          have HB5 := hide ((below_drewN HB.out _).trans hB5)
          clear hS5 hB5 hfr HS HB hx e1 e2 e3 hwr hmin HMN HR' HB8 hlt hld
          obtain ⟨d2, hd2⟩ : ∃ d2 : Nat, d2 = d + mn := ⟨_, rfl⟩
          rw [← hd2] at hS6
          have hd2n : d2 ≤ ms.length := by omega
          have hadd : (d : Int) + (mn : Int) = (d2 : Int) := by omega
          have hwa : IntKind.i64.wrap (d2 : Int) = (d2 : Int) := by rw [IntKind.wrap_i64]; omega
          have hws : IntKind.i64.wrap ((ms.length : Int) - (d2 : Int)) = (ms.length : Int) - (d2 : Int) := by rw [IntKind.wrap_i64]; omega
          clear hd2
          have HS6 := hide hS6
          obtain ⟨k1, k2, k3, Ab, cb, k4, k5, k6⟩ := hS6
          have f1 := k4.cell 0
          have f2 := k2.cell 0
          simp at f1 f2
          rw [Nat.min_eq_left hd2n] at f1
          have HQ := hide (Reads.of_own k5)
          have HJ := hide k1
          have hab5 := k4.lt
          clear k1 k2 k3 k4 k5 k6
          have hltd : (ms.take d2).length = d2 := by rw [List.length_take]; omega
          rw [hltd] at HQ
          have HRT := hide ((HR.out.take hd2n).later HB5.out)
          have HRD := hide ((HR.out.cutA hd2n hc).later HB5.out)
          rw [encs_take] at HRT
          rw [enc_drop] at HRD
          clear hltd
          have hsl := fun w => run_slice_from Try.underlying22 zMv A ms.length c hd2n w
          have hsu := fun w => run_slice_upto Try.underlying22 zMv A ms.length c (k := d2) (by omega) w
          have hd9 : Below w5.heap.size w5 w5.drew := (Below.refl _ _).drew
          go_wp2
          go_region_held3 (fun W => Below w5.heap.size w5 W ∧ W.cell? ⟨w1.heap.size, 0, none⟩ = some (Value.slice Ab d2 cb)) (first | exact ⟨hd9, f1⟩ | exact ⟨hb6, f6⟩ | exact ⟨hb8', f8⟩ | exact ⟨hb9, f9⟩ | exact ⟨hb10, f10⟩)
            (first
            | (go_at_call 15; refine (left_any g Aj ms.length cj d2 _ (HJ.out.later hd9).1 hd2n (by omega)).mono ?_; rintro e6 w6 ⟨rfl, q6, hw6⟩; have hb6 := below_drewN hd9 q6; rw [← hw6] at hb6; clear hw6; have f6 := (hb6.cell (p := ⟨w1.heap.size, 0, none⟩) hab5).trans f1)
            | (go_at_call 21; refine (rest_any g Aj cj d2 _ ms _ (HJ.out.later hb6) (by omega)).mono ?_; rintro e8 w8 ⟨A8, c8, rfl, hown8, hbb8⟩; have hb8' := hb6.trans (hbb8.mono hb6.size); have HR8 := hide (Reads.of_own hown8); have f8 := (hb8'.cell (p := ⟨w1.heap.size, 0, none⟩) hab5).trans f1)
            | (go_at_call_of 19 A8; refine (same_any A8 (cutA A c d2 9) (ms.length - d2) c8 (c - d2) w8.heap.size (ms.drop d2) (ms.drop d2) w8 HR8.out (HRD.out.later hb8') (by omega) true (by simp)).mono ?_; rintro e9 w9 ⟨rfl, q9, hw9⟩; have hb9 := below_drewN hb8' q9; rw [← hw9] at hb9; clear hw9; have f9 := (hb9.cell (p := ⟨w1.heap.size, 0, none⟩) hab5).trans f1)
            | (go_at_call_of 19 Ab; refine (same_any Ab A d2 cb c w9.heap.size (ms.take d2) (ms.take d2) w9 (HQ.out.later hb9) (HRT.out.later hb9) (by omega) true (by simp)).mono ?_; rintro e10 w10 ⟨rfl, q10, hw10⟩; have hb10 := below_drewN hb9 q10; rw [← hw10] at hb10; clear hw10; have f10 := (hb10.cell (p := ⟨w1.heap.size, 0, none⟩) hab5).trans f1))
          clear hadd hwa hws hsl hsu hwr2 hb6 f6 hbb8 f8 hb9 f9 hown8 hd9 f1 f2 hok
          go_wp2
          go_roundw
          case rel => exact ⟨j + 1, d2, true, by omega, by go_num, hide hd2n, hide (HS6.out.later hb10), hide (HB5.out.trans (hb10.mono HB5.out.size))⟩
          case measure => simp [intOf]; omega
        · by_cases hgf : d ≤ fails
          · by_cases hsf : fails < d + mn
            · have hok : True := trivial
              have hgI : (d : Int) ≤ (fails : Int) := by omega
              have hsI : (fails : Int) < (d : Int) + (mn : Int) := by omega
              obtain ⟨q, hqn⟩ : ∃ q : Nat, q = fails - d := ⟨_, rfl⟩
              have hq : (fails : Int) - (d : Int) = (q : Int) := by omega
              have HQN := hide hqn
              have hqd : d + q ≤ ms.length := by omega
              clear hqn
              have hfr : runs (stepNext fails) x (false, ms.take d) (ms.drop d) = (q, 3, (true, ms.take (d + q))) := by
                rw [runs_step, if_pos ⟨rfl, by rw [hlt]; omega, by rw [hlt, hld, ← HMN.out]; omega⟩, hlt]
                rw [← HQN.out, ← List.take_add]
              go_wp2_with fail
              go_quiet (fail)
              go_wp2_with fail
              refine (steps_run w.heap.size w1.heap.size (w1.heap.size + 1) w.heap.size fails g Aj cj ms d false (ms.take d) (w.heap.size + 1) x _ (HS.out.drewN _) hf8 hd.out (by rw [hlt]; omega) (by omega) (by omega) hs1 (by omega)).mono ?_
              rintro e5 w5 ⟨r5, hr5, rfl, hS5, hB5⟩
              rw [hfr] at hr5
              subst hr5
              have hS6 : St w.heap.size w1.heap.size (w1.heap.size + 1) w.heap.size fails g Aj cj ms (d + q) true (ms.take (d + q)) (w.heap.size + 1) w5 := hS5
              have HB5 := hide ((below_drewN HB.out _).trans hB5)
              clear hS5 hB5 hfr HS HB hx e1 e2 e3 hwr hmin HMN HR' HB8 hlt hld HQN
              obtain ⟨d2, hd2⟩ : ∃ d2 : Nat, d2 = d + q := ⟨_, rfl⟩
              rw [← hd2] at hS6
              have hd2n : d2 ≤ ms.length := by omega
              have hadd : (d : Int) + (q : Int) = (d2 : Int) := by omega
              have hwa : IntKind.i64.wrap (d2 : Int) = (d2 : Int) := by rw [IntKind.wrap_i64]; omega
              have hws : IntKind.i64.wrap ((ms.length : Int) - (d2 : Int)) = (ms.length : Int) - (d2 : Int) := by rw [IntKind.wrap_i64]; omega
              clear hd2
              have HS6 := hide hS6
              obtain ⟨k1, k2, k3, Ab, cb, k4, k5, k6⟩ := hS6
              have f1 := k4.cell 0
              have f2 := k2.cell 0
              simp at f1 f2
              rw [Nat.min_eq_left hd2n] at f1
              have HQ := hide (Reads.of_own k5)
              have HJ := hide k1
              have hab5 := k4.lt
              clear k1 k2 k3 k4 k5 k6
              have hltd : (ms.take d2).length = d2 := by rw [List.length_take]; omega
              rw [hltd] at HQ
              have HRT := hide ((HR.out.take hd2n).later HB5.out)
              have HRD := hide ((HR.out.cutA hd2n hc).later HB5.out)
              rw [encs_take] at HRT
              rw [enc_drop] at HRD
              clear hltd
              have hsl := fun w => run_slice_from Try.underlying22 zMv A ms.length c hd2n w
              have hsu := fun w => run_slice_upto Try.underlying22 zMv A ms.length c (k := d2) (by omega) w
              have hd9 : Below w5.heap.size w5 w5.drew := (Below.refl _ _).drew
              go_wp2
              go_region_held3 (fun W => Below w5.heap.size w5 W ∧ W.cell? ⟨w1.heap.size, 0, none⟩ = some (Value.slice Ab d2 cb)) (first | exact ⟨hd9, f1⟩ | exact ⟨hb6, f6⟩ | exact ⟨hb8', f8⟩ | exact ⟨hb9, f9⟩ | exact ⟨hb10, f10⟩)
                (first
                | (go_at_call 15; refine (left_any g Aj ms.length cj d2 _ (HJ.out.later hd9).1 hd2n (by omega)).mono ?_; rintro e6 w6 ⟨rfl, q6, hw6⟩; have hb6 := below_drewN hd9 q6; rw [← hw6] at hb6; clear hw6; have f6 := (hb6.cell (p := ⟨w1.heap.size, 0, none⟩) hab5).trans f1)
                | (go_at_call 21; refine (rest_any g Aj cj d2 _ ms _ (HJ.out.later hb6) (by omega)).mono ?_; rintro e8 w8 ⟨A8, c8, rfl, hown8, hbb8⟩; have hb8' := hb6.trans (hbb8.mono hb6.size); have HR8 := hide (Reads.of_own hown8); have f8 := (hb8'.cell (p := ⟨w1.heap.size, 0, none⟩) hab5).trans f1)
                | (go_at_call_of 19 A8; refine (same_any A8 (cutA A c d2 9) (ms.length - d2) c8 (c - d2) w8.heap.size (ms.drop d2) (ms.drop d2) w8 HR8.out (HRD.out.later hb8') (by omega) true (by simp)).mono ?_; rintro e9 w9 ⟨rfl, q9, hw9⟩; have hb9 := below_drewN hb8' q9; rw [← hw9] at hb9; clear hw9; have f9 := (hb9.cell (p := ⟨w1.heap.size, 0, none⟩) hab5).trans f1)
                | (go_at_call_of 19 Ab; refine (same_any Ab A d2 cb c w9.heap.size (ms.take d2) (ms.take d2) w9 (HQ.out.later hb9) (HRT.out.later hb9) (by omega) true (by simp)).mono ?_; rintro e10 w10 ⟨rfl, q10, hw10⟩; have hb10 := below_drewN hb9 q10; rw [← hw10] at hb10; clear hw10; have f10 := (hb10.cell (p := ⟨w1.heap.size, 0, none⟩) hab5).trans f1))
              clear hadd hwa hws hsl hsu hwr2 hb6 f6 hbb8 f8 hb9 f9 hown8 hd9 f1 f2 hok
              go_wp2
              go_roundw
              case rel => exact ⟨j + 1, d2, true, by omega, by go_num, hide hd2n, hide (HS6.out.later hb10), hide (HB5.out.trans (hb10.mono HB5.out.size))⟩
              case measure => simp [intOf]; omega
            · have hok : True := trivial
              have hgI : (d : Int) ≤ (fails : Int) := by omega
              have hsI : ¬ (fails : Int) < (d : Int) + (mn : Int) := by omega
              have hfr : runs (stepNext fails) x (false, ms.take d) (ms.drop d) = (mn, 0, (false, ms.take (d + mn))) := by
                rw [runs_step, if_neg (fun h => by have := h.2.2; rw [hlt, hld, ← HMN.out] at this; omega), hld]
                rw [← List.take_add, HMN.out, take_clip]
              go_wp2_with fail
              go_quiet (fail)
              go_wp2_with fail
              refine (steps_run w.heap.size w1.heap.size (w1.heap.size + 1) w.heap.size fails g Aj cj ms d false (ms.take d) (w.heap.size + 1) x _ (HS.out.drewN _) hf8 hd.out (by rw [hlt]; omega) (by omega) (by omega) hs1 (by omega)).mono ?_
              rintro e5 w5 ⟨r5, hr5, rfl, hS5, hB5⟩
              rw [hfr] at hr5
              subst hr5
              have hS6 : St w.heap.size w1.heap.size (w1.heap.size + 1) w.heap.size fails g Aj cj ms (d + mn) false (ms.take (d + mn)) (w.heap.size + 1) w5 := hS5
              have HB5 := hide ((below_drewN HB.out _).trans hB5)
              clear hS5 hB5 hfr HS HB hx e1 e2 e3 hwr hmin HMN HR' HB8 hlt hld
              obtain ⟨d2, hd2⟩ : ∃ d2 : Nat, d2 = d + mn := ⟨_, rfl⟩
              rw [← hd2] at hS6
              have hd2n : d2 ≤ ms.length := by omega
              have hadd : (d : Int) + (mn : Int) = (d2 : Int) := by omega
              have hwa : IntKind.i64.wrap (d2 : Int) = (d2 : Int) := by rw [IntKind.wrap_i64]; omega
              have hws : IntKind.i64.wrap ((ms.length : Int) - (d2 : Int)) = (ms.length : Int) - (d2 : Int) := by rw [IntKind.wrap_i64]; omega
              clear hd2
              have HS6 := hide hS6
              obtain ⟨k1, k2, k3, Ab, cb, k4, k5, k6⟩ := hS6
              have f1 := k4.cell 0
              have f2 := k2.cell 0
              simp at f1 f2
              rw [Nat.min_eq_left hd2n] at f1
              have HQ := hide (Reads.of_own k5)
              have HJ := hide k1
              have hab5 := k4.lt
              clear k1 k2 k3 k4 k5 k6
              have hltd : (ms.take d2).length = d2 := by rw [List.length_take]; omega
              rw [hltd] at HQ
              have HRT := hide ((HR.out.take hd2n).later HB5.out)
              have HRD := hide ((HR.out.cutA hd2n hc).later HB5.out)
              rw [encs_take] at HRT
              rw [enc_drop] at HRD
              clear hltd
              have hsl := fun w => run_slice_from Try.underlying22 zMv A ms.length c hd2n w
              have hsu := fun w => run_slice_upto Try.underlying22 zMv A ms.length c (k := d2) (by omega) w
              have hd9 : Below w5.heap.size w5 w5.drew := (Below.refl _ _).drew
              go_wp2
              go_region_held3 (fun W => Below w5.heap.size w5 W ∧ W.cell? ⟨w1.heap.size, 0, none⟩ = some (Value.slice Ab d2 cb)) (first | exact ⟨hd9, f1⟩ | exact ⟨hb6, f6⟩ | exact ⟨hb8', f8⟩ | exact ⟨hb9, f9⟩ | exact ⟨hb10, f10⟩)
                (first
                | (go_at_call 15; refine (left_any g Aj ms.length cj d2 _ (HJ.out.later hd9).1 hd2n (by omega)).mono ?_; rintro e6 w6 ⟨rfl, q6, hw6⟩; have hb6 := below_drewN hd9 q6; rw [← hw6] at hb6; clear hw6; have f6 := (hb6.cell (p := ⟨w1.heap.size, 0, none⟩) hab5).trans f1)
                | (go_at_call 21; refine (rest_any g Aj cj d2 _ ms _ (HJ.out.later hb6) (by omega)).mono ?_; rintro e8 w8 ⟨A8, c8, rfl, hown8, hbb8⟩; have hb8' := hb6.trans (hbb8.mono hb6.size); have HR8 := hide (Reads.of_own hown8); have f8 := (hb8'.cell (p := ⟨w1.heap.size, 0, none⟩) hab5).trans f1)
                | (go_at_call_of 19 A8; refine (same_any A8 (cutA A c d2 9) (ms.length - d2) c8 (c - d2) w8.heap.size (ms.drop d2) (ms.drop d2) w8 HR8.out (HRD.out.later hb8') (by omega) true (by simp)).mono ?_; rintro e9 w9 ⟨rfl, q9, hw9⟩; have hb9 := below_drewN hb8' q9; rw [← hw9] at hb9; clear hw9; have f9 := (hb9.cell (p := ⟨w1.heap.size, 0, none⟩) hab5).trans f1)
                | (go_at_call_of 19 Ab; refine (same_any Ab A d2 cb c w9.heap.size (ms.take d2) (ms.take d2) w9 (HQ.out.later hb9) (HRT.out.later hb9) (by omega) true (by simp)).mono ?_; rintro e10 w10 ⟨rfl, q10, hw10⟩; have hb10 := below_drewN hb9 q10; rw [← hw10] at hb10; clear hw10; have f10 := (hb10.cell (p := ⟨w1.heap.size, 0, none⟩) hab5).trans f1))
              clear hadd hwa hws hsl hsu hwr2 hb6 f6 hbb8 f8 hb9 f9 hown8 hd9 f1 f2 hok
              go_wp2
              go_roundw
              case rel => exact ⟨j + 1, d2, false, by omega, by go_num, hide hd2n, hide (HS6.out.later hb10), hide (HB5.out.trans (hb10.mono HB5.out.size))⟩
              case measure => simp [intOf]; omega
          · have hok : True := trivial
            have hgI : ¬ (d : Int) ≤ (fails : Int) := by omega
            have hfr : runs (stepNext fails) x (false, ms.take d) (ms.drop d) = (mn, 0, (false, ms.take (d + mn))) := by
              rw [runs_step, if_neg (fun h => by have := h.2.1; rw [hlt] at this; omega), hld]
              rw [← List.take_add, HMN.out, take_clip]
            go_wp2_with fail
            go_quiet (fail)
            go_wp2_with fail
            refine (steps_run w.heap.size w1.heap.size (w1.heap.size + 1) w.heap.size fails g Aj cj ms d false (ms.take d) (w.heap.size + 1) x _ (HS.out.drewN _) hf8 hd.out (by rw [hlt]; omega) (by omega) (by omega) hs1 (by omega)).mono ?_
            rintro e5 w5 ⟨r5, hr5, rfl, hS5, hB5⟩
            rw [hfr] at hr5
            subst hr5
            have hS6 : St w.heap.size w1.heap.size (w1.heap.size + 1) w.heap.size fails g Aj cj ms (d + mn) false (ms.take (d + mn)) (w.heap.size + 1) w5 := hS5
            have HB5 := hide ((below_drewN HB.out _).trans hB5)
            clear hS5 hB5 hfr HS HB hx e1 e2 e3 hwr hmin HMN HR' HB8 hlt hld
            obtain ⟨d2, hd2⟩ : ∃ d2 : Nat, d2 = d + mn := ⟨_, rfl⟩
            rw [← hd2] at hS6
            have hd2n : d2 ≤ ms.length := by omega
            have hadd : (d : Int) + (mn : Int) = (d2 : Int) := by omega
            have hwa : IntKind.i64.wrap (d2 : Int) = (d2 : Int) := by rw [IntKind.wrap_i64]; omega
            have hws : IntKind.i64.wrap ((ms.length : Int) - (d2 : Int)) = (ms.length : Int) - (d2 : Int) := by rw [IntKind.wrap_i64]; omega
            clear hd2
            have HS6 := hide hS6
            obtain ⟨k1, k2, k3, Ab, cb, k4, k5, k6⟩ := hS6
            have f1 := k4.cell 0
            have f2 := k2.cell 0
            simp at f1 f2
            rw [Nat.min_eq_left hd2n] at f1
            have HQ := hide (Reads.of_own k5)
            have HJ := hide k1
            have hab5 := k4.lt
            clear k1 k2 k3 k4 k5 k6
            have hltd : (ms.take d2).length = d2 := by rw [List.length_take]; omega
            rw [hltd] at HQ
            have HRT := hide ((HR.out.take hd2n).later HB5.out)
            have HRD := hide ((HR.out.cutA hd2n hc).later HB5.out)
            rw [encs_take] at HRT
            rw [enc_drop] at HRD
            clear hltd
            have hsl := fun w => run_slice_from Try.underlying22 zMv A ms.length c hd2n w
            have hsu := fun w => run_slice_upto Try.underlying22 zMv A ms.length c (k := d2) (by omega) w
            have hd9 : Below w5.heap.size w5 w5.drew := (Below.refl _ _).drew
            go_wp2
            go_region_held3 (fun W => Below w5.heap.size w5 W ∧ W.cell? ⟨w1.heap.size, 0, none⟩ = some (Value.slice Ab d2 cb)) (first | exact ⟨hd9, f1⟩ | exact ⟨hb6, f6⟩ | exact ⟨hb8', f8⟩ | exact ⟨hb9, f9⟩ | exact ⟨hb10, f10⟩)
              (first
              | (go_at_call 15; refine (left_any g Aj ms.length cj d2 _ (HJ.out.later hd9).1 hd2n (by omega)).mono ?_; rintro e6 w6 ⟨rfl, q6, hw6⟩; have hb6 := below_drewN hd9 q6; rw [← hw6] at hb6; clear hw6; have f6 := (hb6.cell (p := ⟨w1.heap.size, 0, none⟩) hab5).trans f1)
              | (go_at_call 21; refine (rest_any g Aj cj d2 _ ms _ (HJ.out.later hb6) (by omega)).mono ?_; rintro e8 w8 ⟨A8, c8, rfl, hown8, hbb8⟩; have hb8' := hb6.trans (hbb8.mono hb6.size); have HR8 := hide (Reads.of_own hown8); have f8 := (hb8'.cell (p := ⟨w1.heap.size, 0, none⟩) hab5).trans f1)
              | (go_at_call_of 19 A8; refine (same_any A8 (cutA A c d2 9) (ms.length - d2) c8 (c - d2) w8.heap.size (ms.drop d2) (ms.drop d2) w8 HR8.out (HRD.out.later hb8') (by omega) true (by simp)).mono ?_; rintro e9 w9 ⟨rfl, q9, hw9⟩; have hb9 := below_drewN hb8' q9; rw [← hw9] at hb9; clear hw9; have f9 := (hb9.cell (p := ⟨w1.heap.size, 0, none⟩) hab5).trans f1)
              | (go_at_call_of 19 Ab; refine (same_any Ab A d2 cb c w9.heap.size (ms.take d2) (ms.take d2) w9 (HQ.out.later hb9) (HRT.out.later hb9) (by omega) true (by simp)).mono ?_; rintro e10 w10 ⟨rfl, q10, hw10⟩; have hb10 := below_drewN hb9 q10; rw [← hw10] at hb10; clear hw10; have f10 := (hb10.cell (p := ⟨w1.heap.size, 0, none⟩) hab5).trans f1))
            clear hadd hwa hws hsl hsu hwr2 hb6 f6 hbb8 f8 hb9 f9 hown8 hd9 f1 f2 hok
            go_wp2
            go_roundw
            case rel => exact ⟨j + 1, d2, false, by omega, by go_num, hide hd2n, hide (HS6.out.later hb10), hide (HB5.out.trans (hb10.mono HB5.out.size))⟩
            case measure => simp [intOf]; omega
      · have hltI : ¬ (j : Int) < (bs.length : Int) := by omega
        go_wp2_with (go_at_call 9; refine (awake_any _).mono ?_; rintro e w9 ⟨rfl, hb⟩)
        go_ret
        exact ⟨rfl, HB.out.trans (hb.mono HB.out.size)⟩
    · have hnI : ¬ (40 : Int) < (n : Int) := by omega
      have hnI' : (40 : Int) < (n' : Int) := by omega
      go_enter Try.func6, Try.ntmps6
      go_wp2_with (go_at_call 9; refine (awake_any _).mono ?_; rintro e w1 ⟨rfl, hb⟩)
      go_ret
      exact ⟨rfl, hA0.trans (hb.mono hA0.size)⟩
  · have hnI : (40 : Int) < (n : Int) := by omega
    go_enter Try.func6, Try.ntmps6
    go_wp2_with (go_at_call 9; refine (awake_any _).mono ?_; rintro e w1 ⟨rfl, hb⟩)
    go_ret
    exact ⟨rfl, hA0.trans (hb.mono hA0.size)⟩
end Go.Proofs.Ytggnkgddblpicaa
