/- The walk of the law JobOne: it returns true, and below the heap of the call nothing has turned. Conditions: the slices lie in memory as a slice reads; the counts are bytes. -/
import Derived.Test.YtggnkgddblpicaaJobF
namespace Go.Proofs.Ytggnkgddblpicaa
open Go.RowKit Go.WideShapes Go.ChangeShapes

theorem ok11 (m : Mv) (w : World) : Calls Try.prog 11 #[m.val] w fun e w' => e = .returned (.int .i64 0) ∧ Below w.heap.size w w' := by
  go_enter Try.func11, Try.ntmps11
  simp only [Mv.val]
  go_wp2
  go_ret
  exact ⟨rfl, by with_reducible (first | exact Below.refl _ _ | exact (Below.refl _ _).alloc (Nat.le_refl _) _)⟩
theorem eg11 : ∀ args w, (callFunc 11 args).run Try.prog w = .ok (.enter 11 args) w := enters_of Try.func11 (by kernel_rfl) rfl
theorem eg16 : ∀ args w, (callFunc 16 args).run Try.prog w = .ok (.enter 16 args) w := enters_of Try.func16 (by kernel_rfl) rfl

/-- The step's function of JobOne: another move than m: ErrOrder; else e. -/
def oneNext (m : Mv) (e : Int) : Unit → Mv → Int × Unit := fun _ x => (if x.same m then e else 7, ())
set_option maxHeartbeats 800000 in
theorem one16 (m x : Mv) (e : Int) (b c : Nat) (w : World) (hb : Blk w b 38 m.enc.toArray) (hc : Blk w c 3 #[.int .i64 e]) :
    Calls Try.prog 16 #[x.val, .pointer (some ⟨b, 0, none⟩), .pointer (some ⟨c, 0, none⟩)] w fun e' w' => e' = .returned (.int .i64 (if x.same m then e else 7)) ∧ Below w.heap.size w w' := by
  have E := neqMv x m
  simp only [Mv.val] at E
  have hbl := hb.lt
  have hcl := hc.lt
  have c0 : ∀ o, (w.alloc o).cell? ⟨c, 0, none⟩ = some (.int .i64 e) := fun o => (World.cell?_alloc_past _ _ _ hcl).trans (by rw [hc.cell]; rfl)
  have F : ∀ o, (w.alloc o).cell? ⟨b, 0, none⟩ = some (.int .i64 m.bank) ∧ (w.alloc o).cell? ⟨b, 1, none⟩ = some (.int .i64 m.pos) ∧ (w.alloc o).cell? ⟨b, 2, none⟩ = some (.bool m.valid) ∧
      (w.alloc o).cell? ⟨b, 3, none⟩ = some (.int .u64 m.v0) ∧ (w.alloc o).cell? ⟨b, 4, none⟩ = some (.int .u64 m.v1) ∧ (w.alloc o).cell? ⟨b, 5, none⟩ = some (.int .u64 m.m0) ∧
      (w.alloc o).cell? ⟨b, 6, none⟩ = some (.int .u64 m.m1) ∧ (w.alloc o).cell? ⟨b, 7, none⟩ = some (.int .i64 m.len) ∧ (w.alloc o).cell? ⟨b, 8, none⟩ = some (.int .i64 m.action) := fun o => by
    have e (j : Nat) : (w.alloc o).cell? ⟨b, j, none⟩ = m.enc.toArray[j]? := (World.cell?_alloc_past _ _ _ hbl).trans (hb.cell j)
    exact ⟨e 0, e 1, e 2, e 3, e 4, e 5, e 6, e 7, e 8⟩
  have f0 := fun o => (F o).1; have f1 := fun o => (F o).2.1; have f2 := fun o => (F o).2.2.1; have f3 := fun o => (F o).2.2.2.1; have f4 := fun o => (F o).2.2.2.2.1; have f5 := fun o => (F o).2.2.2.2.2.1
  have f6 := fun o => (F o).2.2.2.2.2.2.1; have f7 := fun o => (F o).2.2.2.2.2.2.2.1; have f8 := fun o => (F o).2.2.2.2.2.2.2.2
  clear F
  by_cases hs : x.same m = true
  · go_enter Try.func16, Try.ntmps16
    simp only [Mv.val]
    go_wp2
    go_ret
    exact ⟨rfl, (Below.refl _ _).alloc (Nat.le_refl _) _⟩
  · have hs' : x.same m = false := by simpa using hs
    go_enter Try.func16, Try.ntmps16
    simp only [Mv.val]
    go_wp2
    go_ret
    exact ⟨rfl, (Below.refl _ _).alloc (Nat.le_refl _) _⟩

theorem doOne (m : Mv) (e : Int) (b c : Nat) : DoSpec 16 #[.pointer (some ⟨b, 0, none⟩), .pointer (some ⟨c, 0, none⟩)] (fun _ => False) (fun k => k = b ∨ k = c) Unit (fun _ W => Blk W b 38 m.enc.toArray ∧ Blk W c 3 #[.int .i64 e]) (oneNext m e) :=
  ⟨fun _ _ _ h hO => ⟨h.1.only hO (fun hn => hn (.inl rfl)), h.2.only hO (fun hn => hn (.inr rfl))⟩,
   fun _ x W h => (one16 m x e b c W h.1 h.2).mono fun _ _ ⟨he, hb⟩ => ⟨he, ⟨h.1.below hb h.1.lt, h.2.below hb h.2.lt⟩, Only.of_below hb⟩⟩

set_option maxHeartbeats 3200000 in
theorem jobOne_any (A : Option Addr) (n c : Nat) (ms : List Mv) (ahead : Nat) (e : Int) (w : World) (hr : Reads w w.heap.size 9 A n (ms.flatMap Mv.enc)) (ha : ahead ≤ 255) :
    Calls Try.prog 3 #[.slice A n c, .int .u8 ahead, .int .i64 e] w fun e' w' => e' = .returned (.bool true) ∧ Below w.heap.size w w' := by
  have hl : Hid (ms.length = n) := by have := hr.1; rw [enc_length] at this; exact (by omega : ms.length = n)
  by_cases hn : n ≤ 40
  · have hnI : ¬ (40 : Int) < (n : Int) := by omega
    have HR0 := hide hr
    have HR := hide (hr.alloc (Nat.le_refl _) (.cells #[.int .i64 e] 3))
    clear hr
    have H0 := hide (Blk.new w 3 #[.int .i64 e])
    go_enter Try.func3, Try.ntmps3
    go_wp2_with fail
    refine (new_any A n c (ms.flatMap Mv.enc) _ (HR.out.more (by simp)) (enc_oneCell _) (by omega)).mono ?_
    rintro e1 w1 ⟨g, A1, c1, rfl, hj1, hb1⟩
    have HJ1 := hide hj1
    have HB1 := hide hb1
    clear hj1 hb1
    rw [World.size_alloc] at HJ1
    go_wp2_with fail
    have hl' := hl.out
    subst hl'
    refine (run_any 11 #[] (fun _ => False) (fun _ => False) Unit (fun _ _ => True) okNext (doOk 11 ok11) eg11 g A1 c1 0 _ ms () ahead w1 HJ1.out (by omega) (by omega) trivial not_false not_false (fun _ _ => not_false)).mono ?_
    rintro e2 w2 ⟨r, hr2, rfl, _, hj2, hO2⟩
    rw [runs_ok_all, List.drop_zero] at hr2
    generalize hk : min ahead ms.length = k at hr2
    subst hr2
    have HK := hide hk
    have hkn : k ≤ ms.length := by omega
    have hkb : ((k : Int) != min (ahead : Int) (ms.length : Int)) = false := by rw [bne_eq_false_iff_eq]; omega
    clear hk
    simp only [Nat.zero_add] at hj2
    have HJ2 := hide hj2
    have hsz1 : w.heap.size + 1 ≤ w1.heap.size := by have := HB1.out.size; simpa using this
    have HB2 := hide (Below.only (((Below.refl w.heap.size w).alloc (Nat.le_refl _) (.cells #[.int .i64 e] 3)).trans (HB1.out.mono (by simp))) hO2 (by omega) (fun k _ hk => hk.elim False.elim (fun e => by rw [e]; have := HJ1.out.2.2.1; omega)))
    have HX2 := hide ((H0.out.below HB1.out (by simp)).only hO2 (fun hk => hk.elim False.elim (fun e => by have := HJ1.out.2.2.1; omega)))
    clear hj2 hO2
    go_wp2_with (go_at_call 13; refine (step_nil g _).mono ?_; rintro e3 w3 ⟨rfl, rfl⟩)
    by_cases hke : k = ms.length
    · have hkeb : ((k : Int) == (ms.length : Int)) = true := by rw [beq_iff_eq]; omega
      have E := eqlMv Mv.zero Mv.zero
      simp only [Mv.val, Mv.zero, show Mv.same ⟨0, 0, false, 0, 0, 0, 0, 0, 0⟩ ⟨0, 0, false, 0, 0, 0, 0, 0, 0⟩ = true from (Mv.same_iff _ _).2 rfl] at E
      refine (peek_end g A1 ms.length c1 k w2 HJ2.out.1 hke (by omega)).mono ?_
      rintro e3 w3 ⟨rfl, hb3⟩
      simp only [Mv.val, Mv.zero]
      have HJ3 := hide (HJ2.out.later hb3)
      have HB3 := hide (HB2.out.trans (hb3.mono HB2.out.size))
      have HKE := hide hke
      clear hb3 hke
      go_wp2_with fail
      have hb0 : ∀ o, Below w3.heap.size w3 (w3.alloc o) := fun o => (Below.refl _ _).alloc (Nat.le_refl _) o
      refine (step_none 11 #[] g A1 ms.length c1 k _ _ _ (HJ3.out.later (hb0 _)) HKE.out (by omega)).mono ?_
      rintro e4 w4 ⟨rfl, hb4⟩
      have hb34 := (hb0 _).trans (hb4.mono (by simp))
      have HJ4 := hide (HJ3.out.later hb34)
      have HB4 := hide (HB3.out.trans (hb34.mono HB3.out.size))
      clear hb4 hb34 hb0
      go_wp2_with fail
      refine (left_any g A1 ms.length c1 k w4 HJ4.out.1 hkn (by omega)).mono ?_
      rintro e5 w5 ⟨rfl, q, rfl⟩
      have e0 : ((ms.length : Nat) : Int) - ((k : Nat) : Int) = 0 := by have := HKE.out; omega
      rw [e0]
      clear e0
      go_wp2_with fail
      refine (awake_any _).mono ?_
      rintro e6 w6 ⟨rfl, hb6⟩
      go_wp2
      go_ret
      exact ⟨rfl, (below_drewN HB4.out q).trans (hb6.mono (by have := HB4.out.size; exact this))⟩
    · have hkeb : ((k : Int) == (ms.length : Int)) = false := by rw [beq_eq_false_iff_ne]; omega
      have hlt : k < ms.length := by omega
      refine (peek_some g A1 c1 k _ ms w2 HJ2.out hlt (by omega)).mono ?_
      rintro e3 w3 ⟨rfl, hb3⟩
      generalize hm : ms[k] = m
      have HM := hide hm
      have HJ3 := hide (HJ2.out.later hb3)
      have HB3 := hide (HB2.out.trans (hb3.mono HB2.out.size))
      have HX3 := hide (HX2.out.below hb3 HX2.out.lt)
      clear hb3 hm
      simp only [Mv.val]
      have hmf : ∀ (fn : Fn) (first cap : Array Value) (w : World), (Instr.makeFunc fn first cap).run Try.prog w = .ok (.func fn first cap) w := fun _ _ _ _ => rfl
      go_wp2_with fail
      have HB3a := hide ((HB3.out.alloc HB3.out.size (.cells m.enc.toArray 38)))
      have HJ3a := hide (HJ3.out.later ((Below.refl _ _).alloc (Nat.le_refl _) (.cells m.enc.toArray 38)))
      have HX3a := hide (HX3.out.alloc (.cells m.enc.toArray 38))
      have HM3a := hide (Blk.new w3 38 m.enc.toArray)
      have hs3 : w.heap.size ≤ w3.heap.size := HB3.out.size
      have hgb : ¬ (g = w3.heap.size ∨ g = w.heap.size) := fun h => by
        have h1 := HJ3.out.1.lt; have h2 := HJ3.out.2.2.1; omega
      have hS : ∀ x, (¬ (fun _ : Nat => False) x) := fun _ => not_false
      by_cases he0 : e = 0
      · subst he0
        have hze : (oneNext m 0 () ms[k]).1 = 0 := by rw [HM.out]; simp [oneNext, (Mv.same_iff m m).2 rfl]
        refine (step_ok 16 _ (fun _ => False) (fun k => k = w3.heap.size ∨ k = w.heap.size) Unit _ (oneNext m 0) (doOne m 0 _ _) eg16 g A1 c1 k _ ms () _ HJ3a.out hlt (by omega) ⟨HM3a.out, HX3a.out⟩ not_false hgb (fun _ _ => not_false) hze).mono ?_
        rintro e4 w4 ⟨rfl, ⟨hm4, hx4⟩, hj4, hO4⟩
        have HJ4 := hide hj4
        have HM4 := hide hm4
        have HX4 := hide hx4
        have HB4 := hide (Below.only HB3a.out hO4 HB3a.out.size (fun k _ hk => hk.elim False.elim (fun e => by rw [e]; have := HJ3.out.2.2.1; omega)))
        clear hm4 hx4 hj4 hO4 hze
        have x4 : w4.cell? ⟨w.heap.size, 0, none⟩ = some (.int .i64 0) := by rw [HX4.out.cell]; rfl
        obtain ⟨bb, off, hA, hbb, hcc⟩ := HR0.out.form (by omega) (by omega)
        subst hA
        have F := mv_cells (w := w4) (fun j u hu => (HB4.out.cell (p := ⟨bb, off + j, none⟩) hbb).trans (hcc j u hu)) hlt
        rw [HM.out] at F
        clear hcc
        obtain ⟨f0, f1, f2, f3, f4, f5, f6, f7, f8⟩ := F
        have e' (j : Nat) : w4.cell? ⟨w3.heap.size, j, none⟩ = m.enc.toArray[j]? := HM4.out.cell j
        have g0 := e' 0; have g1 := e' 1; have g2 := e' 2; have g3 := e' 3; have g4 := e' 4; have g5 := e' 5; have g6 := e' 6; have g7 := e' 7; have g8 := e' 8
        simp only [Mv.enc, List.getElem?_toArray, List.getElem?_cons_zero, List.getElem?_cons_succ] at g0 g1 g2 g3 g4 g5 g6 g7 g8
        clear e'
        have E := eqlMv m m
        simp only [Mv.val, (Mv.same_iff m m).2 rfl] at E
        have hkl : (k : Int) < (ms.length : Int) := by omega
        go_wp2
        go_region_with (first
          | (go_at_call 15; refine (left_any g A1 ms.length c1 (k + 1) _ HJ4.out.1.drew (by omega) (by omega)).mono ?_; rintro e5 w5 ⟨rfl, q, rfl⟩; rw [show ((ms.length : Nat) : Int) - ((k + 1 : Nat) : Int) = (ms.length : Int) - (k : Int) - 1 by omega])
          | (go_at_call 9; refine (awake_any _).mono ?_; rintro e6 w6 ⟨rfl, hb6⟩))
        all_goals
          go_wp2
          go_ret
          exact ⟨rfl, (below_drewN HB4.out _).trans (hb6.mono HB4.out.size)⟩
      · have hne : (oneNext m e () ms[k]).1 ≠ 0 := by rw [HM.out]; simp [oneNext, (Mv.same_iff m m).2 rfl, he0]
        have heq : (oneNext m e () ms[k]).1 = e := by rw [HM.out]; simp [oneNext, (Mv.same_iff m m).2 rfl]
        refine (step_some 16 _ (fun _ => False) (fun k => k = w3.heap.size ∨ k = w.heap.size) Unit _ (oneNext m e) (doOne m e _ _) eg16 g A1 c1 k _ ms () _ HJ3a.out hlt (by omega) ⟨HM3a.out, HX3a.out⟩ not_false hgb (fun _ _ => not_false) hne).mono ?_
        rintro e4 w4 ⟨rfl, ⟨hm4, hx4⟩, hj4, hO4⟩
        rw [heq]
        have HJ4 := hide hj4
        have HM4 := hide hm4
        have HX4 := hide hx4
        have HB4 := hide (Below.only HB3a.out hO4 HB3a.out.size (fun _ _ h => h.elim))
        clear hm4 hx4 hj4 hO4 hne heq
        have he0b : (e == 0) = false := by simpa using he0
        have x4 : w4.cell? ⟨w.heap.size, 0, none⟩ = some (.int .i64 e) := by rw [HX4.out.cell]; rfl
        obtain ⟨bb, off, hA, hbb, hcc⟩ := HR0.out.form (by omega) (by omega)
        subst hA
        have F := mv_cells (w := w4) (fun j u hu => (HB4.out.cell (p := ⟨bb, off + j, none⟩) hbb).trans (hcc j u hu)) hlt
        rw [HM.out] at F
        clear hcc
        obtain ⟨f0, f1, f2, f3, f4, f5, f6, f7, f8⟩ := F
        have e' (j : Nat) : w4.cell? ⟨w3.heap.size, j, none⟩ = m.enc.toArray[j]? := HM4.out.cell j
        have g0 := e' 0; have g1 := e' 1; have g2 := e' 2; have g3 := e' 3; have g4 := e' 4; have g5 := e' 5; have g6 := e' 6; have g7 := e' 7; have g8 := e' 8
        simp only [Mv.enc, List.getElem?_toArray, List.getElem?_cons_zero, List.getElem?_cons_succ] at g0 g1 g2 g3 g4 g5 g6 g7 g8
        clear e'
        have E := eqlMv m m
        simp only [Mv.val, (Mv.same_iff m m).2 rfl] at E
        have hkl : (k : Int) < (ms.length : Int) := by omega
        go_wp2
        go_region_with (first
          | (go_at_call 15; refine (left_any g A1 ms.length c1 (k) _ HJ4.out.1.drew (by omega) (by omega)).mono ?_; rintro e5 w5 ⟨rfl, q, rfl⟩)
          | (go_at_call 9; refine (awake_any _).mono ?_; rintro e6 w6 ⟨rfl, hb6⟩))
        all_goals
          go_wp2
          go_ret
          exact ⟨rfl, (below_drewN HB4.out _).trans (hb6.mono HB4.out.size)⟩
  · have hnI : (40 : Int) < (n : Int) := by omega
    go_enter Try.func3, Try.ntmps3
    go_wp2_with (go_at_call 9; refine (awake_any _).mono ?_; rintro e w1 ⟨rfl, hb⟩)
    go_ret
    exact ⟨rfl, ((Below.refl _ _).alloc (Nat.le_refl _) _).trans (hb.mono (by simp))⟩
end Go.Proofs.Ytggnkgddblpicaa
