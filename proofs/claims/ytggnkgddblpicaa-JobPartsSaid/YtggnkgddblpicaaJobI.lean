/- The closure of JobParts that appends to one of two lists, and a run with it. Conditions: at most 2^20 moves; those of the theorems. -/
import Derived.Test.YtggnkgddblpicaaJobH
namespace Go.Proofs.Ytggnkgddblpicaa
open Go.RowKit Go.WideShapes Go.ChangeShapes

set_option maxHeartbeats 1600000 in
theorem collect18_1 (i : Int) (hi0 : i = 0) (S : Nat → Prop) (base L ib b1 b2 : Nat) (hSb : S b1) (hL : ∀ k, L ≤ k → S k) (hib : ¬ S ib) (hbL : base ≤ L) :
    DoSpecG 18 #[.pointer (some ⟨ib, 0, none⟩), .pointer (some ⟨b1, 0, none⟩), .pointer (some ⟨b2, 0, none⟩)] S (fun k => S k ∨ k = ib) (List Mv) (fun xs W => Kept S base b1 L xs W ∧ Blk W ib 3 #[.int .i64 i]) (fun xs m => (0, xs ++ [m]))
      (fun xs l => xs.length + l.length ≤ 1048576) := by
  refine ⟨?_, ?_, ?_⟩
  · intro xs W W' ⟨hk, hi⟩ hO
    exact ⟨hk.only hO (fun h => h (.inl hSb)) (fun k hk h => h (.inl hk)), hi.only hO (fun h => h (.inr rfl))⟩
  · intro xs m l W ⟨hk, hi⟩ hG
    obtain ⟨A, c, hb, hown, hS, hLW⟩ := hk
    obtain ⟨t0, ht0, hz0, hz1, hz2⟩ := infoMove'
    have hc := hb.cell 0
    have hf := hb.frozen 0
    have hic := hi.cell 0
    simp at hc hic
    have hlt := hb.lt
    have hilt := hi.lt
    have HO := hide hown
    have HB := hide hb
    have HI := hide hi
    have hne := own_blk_ne hown hb (by decide)
    have hni := own_blk_ne hown hi (by decide)
    have hm1 := enc_oneCell [m]
    have hbi : b1 ≠ ib := fun e => hib (e ▸ hSb)
    have hit : (i == 0) = true := by simp [hi0]
    have hGl : xs.length < 1048576 := by simp only [List.length_cons] at hG; omega
    clear hown hb hi
    go_enter Try.func18, Try.ntmps18
    simp only [Mv.val]
    go_wp2_with (at_builtin; refine wpList_append_any _ rfl (.tmp 8) (.tmp 10) _ rfl base 38 t0 _ 9 72 Try.underlying22 ht0 hz0 hz1 hz2 rfl (by omega) (.slice A xs.length c) xs.length _ rfl ((HO.out.alloc _).alloc _) (W.heap.size + 2) (some ⟨W.heap.size + 1, 0, none⟩) 1 1 m.enc rfl ?_ ?_ ?_ ?_ ?_ ?_)
    · refine ⟨rfl, fun _ => ⟨_, rfl, by simp, fun j u hu => ?_⟩⟩
      rw [Addr.add_lit, Nat.zero_add]
      have e := (Blk.new (W.alloc (.cells m.enc.toArray 38)) 38 m.enc.toArray).cell j
      rw [show (W.alloc (.cells m.enc.toArray 38)).heap.size = W.heap.size + 1 by simp] at e
      exact e.trans (by simpa using hu)
    · simpa using hm1
    · simp only [maxLen]; omega
    · omega
    · simp; omega
    · intro v' w2 hown2 hg2 hor
      obtain ⟨A2, c2, rfl⟩ := ownsRow_form hown2
      have hO1 : Only S W ((W.alloc (.cells m.enc.toArray 38)).alloc (.cells m.enc.toArray 38)) := ((Only.refl S W).alloc _).alloc _
      have hO2 : Only S W w2 := hO1.grown hg2 (fun g hg => .inl (hS g hg))
      have hB2 := ((HB.out.alloc (.cells m.enc.toArray 38)).alloc (.cells m.enc.toArray 38)).grown hg2 (fun e => hne e.symm)
      have hS2 : ∀ k, (Value.slice A2 (xs.length + 1) c2).ownBlock = some k → S k := by
        intro k hk
        rcases hor with hor | hor
        · exact hS k (hor ▸ hk)
        · rw [hor] at hk
          have hk := Option.some.inj hk
          subst hk
          refine hL _ ?_
          first | omega | (simp; omega)
      have hI2 := HI.out.only hO2 hib
      have HO2 := hide hO2
      have HB2 := hide hB2
      have HS2 := hide hS2
      have HI2 := hide hI2
      have HW2 := hide hown2
      have hc2 := hB2.cell 0
      have hf2 := hB2.frozen 0
      simp at hc2
      clear hO1 hO2 hB2 hS2 hI2 hown2 hg2 hor HO HB HI hc hf hic
      go_wp2
      go_ret
      have hs : Only S w2 (w2.setCell ⟨b1, 0, none⟩ (.slice A2 (xs.length + 1) c2)) := Only.setCell (Only.refl _ _) (.inl hSb) _
      refine ⟨rfl, ⟨⟨A2, c2, ?_, ?_, ?_, Nat.le_trans hLW (HO2.out.trans hs).size⟩, HI2.out.only hs hib⟩, HO2.out.trans hs⟩
      · rw [List.length_append]
        exact (HB2.out.setL 0 _).of_eq (by simp)
      · rw [List.length_append, List.flatMap_append]
        simp only [List.length_cons, List.length_nil, Nat.zero_add, List.flatMap_cons, List.flatMap_nil, List.append_nil]
        refine own_only HW2.out (S := fun k => k = b1) (Only.setCell (S := fun k => k = b1) (Only.refl _ _) (p := ⟨b1, 0, none⟩) (.inl rfl) _) (fun k hk e => ?_)
        exact own_blk_ne HW2.out HB2.out (by decide) (by rw [hk, e])
      · rw [List.length_append]
        exact HS2.out
  · intro xs m l h
    simp only [List.length_append, List.length_cons, List.length_nil] at h ⊢
    omega

set_option maxHeartbeats 1600000 in
theorem collect18_2 (i : Int) (hi0 : i ≠ 0) (S : Nat → Prop) (base L ib b1 b2 : Nat) (hSb : S b2) (hL : ∀ k, L ≤ k → S k) (hib : ¬ S ib) (hbL : base ≤ L) :
    DoSpecG 18 #[.pointer (some ⟨ib, 0, none⟩), .pointer (some ⟨b1, 0, none⟩), .pointer (some ⟨b2, 0, none⟩)] S (fun k => S k ∨ k = ib) (List Mv) (fun xs W => Kept S base b2 L xs W ∧ Blk W ib 3 #[.int .i64 i]) (fun xs m => (0, xs ++ [m]))
      (fun xs l => xs.length + l.length ≤ 1048576) := by
  refine ⟨?_, ?_, ?_⟩
  · intro xs W W' ⟨hk, hi⟩ hO
    exact ⟨hk.only hO (fun h => h (.inl hSb)) (fun k hk h => h (.inl hk)), hi.only hO (fun h => h (.inr rfl))⟩
  · intro xs m l W ⟨hk, hi⟩ hG
    obtain ⟨A, c, hb, hown, hS, hLW⟩ := hk
    obtain ⟨t0, ht0, hz0, hz1, hz2⟩ := infoMove'
    have hc := hb.cell 0
    have hf := hb.frozen 0
    have hic := hi.cell 0
    simp at hc hic
    have hlt := hb.lt
    have hilt := hi.lt
    have HO := hide hown
    have HB := hide hb
    have HI := hide hi
    have hne := own_blk_ne hown hb (by decide)
    have hni := own_blk_ne hown hi (by decide)
    have hm1 := enc_oneCell [m]
    have hbi : b2 ≠ ib := fun e => hib (e ▸ hSb)
    have hit : (i == 0) = false := by simpa using hi0
    have hGl : xs.length < 1048576 := by simp only [List.length_cons] at hG; omega
    clear hown hb hi
    go_enter Try.func18, Try.ntmps18
    simp only [Mv.val]
    go_wp2_with (at_builtin; refine wpList_append_any _ rfl (.tmp 12) (.tmp 14) _ rfl base 38 t0 _ 9 72 Try.underlying22 ht0 hz0 hz1 hz2 rfl (by omega) (.slice A xs.length c) xs.length _ rfl ((HO.out.alloc _).alloc _) (W.heap.size + 2) (some ⟨W.heap.size + 1, 0, none⟩) 1 1 m.enc rfl ?_ ?_ ?_ ?_ ?_ ?_)
    · refine ⟨rfl, fun _ => ⟨_, rfl, by simp, fun j u hu => ?_⟩⟩
      rw [Addr.add_lit, Nat.zero_add]
      have e := (Blk.new (W.alloc (.cells m.enc.toArray 38)) 38 m.enc.toArray).cell j
      rw [show (W.alloc (.cells m.enc.toArray 38)).heap.size = W.heap.size + 1 by simp] at e
      exact e.trans (by simpa using hu)
    · simpa using hm1
    · simp only [maxLen]; omega
    · omega
    · simp; omega
    · intro v' w2 hown2 hg2 hor
      obtain ⟨A2, c2, rfl⟩ := ownsRow_form hown2
      have hO1 : Only S W ((W.alloc (.cells m.enc.toArray 38)).alloc (.cells m.enc.toArray 38)) := ((Only.refl S W).alloc _).alloc _
      have hO2 : Only S W w2 := hO1.grown hg2 (fun g hg => .inl (hS g hg))
      have hB2 := ((HB.out.alloc (.cells m.enc.toArray 38)).alloc (.cells m.enc.toArray 38)).grown hg2 (fun e => hne e.symm)
      have hS2 : ∀ k, (Value.slice A2 (xs.length + 1) c2).ownBlock = some k → S k := by
        intro k hk
        rcases hor with hor | hor
        · exact hS k (hor ▸ hk)
        · rw [hor] at hk
          have hk := Option.some.inj hk
          subst hk
          refine hL _ ?_
          first | omega | (simp; omega)
      have hI2 := HI.out.only hO2 hib
      have HO2 := hide hO2
      have HB2 := hide hB2
      have HS2 := hide hS2
      have HI2 := hide hI2
      have HW2 := hide hown2
      have hc2 := hB2.cell 0
      have hf2 := hB2.frozen 0
      simp at hc2
      clear hO1 hO2 hB2 hS2 hI2 hown2 hg2 hor HO HB HI hc hf hic
      go_wp2
      go_ret
      have hs : Only S w2 (w2.setCell ⟨b2, 0, none⟩ (.slice A2 (xs.length + 1) c2)) := Only.setCell (Only.refl _ _) (.inl hSb) _
      refine ⟨rfl, ⟨⟨A2, c2, ?_, ?_, ?_, Nat.le_trans hLW (HO2.out.trans hs).size⟩, HI2.out.only hs hib⟩, HO2.out.trans hs⟩
      · rw [List.length_append]
        exact (HB2.out.setL 0 _).of_eq (by simp)
      · rw [List.length_append, List.flatMap_append]
        simp only [List.length_cons, List.length_nil, Nat.zero_add, List.flatMap_cons, List.flatMap_nil, List.append_nil]
        refine own_only HW2.out (S := fun k => k = b2) (Only.setCell (S := fun k => k = b2) (Only.refl _ _) (p := ⟨b2, 0, none⟩) (.inl rfl) _) (fun k hk e => ?_)
        exact own_blk_ne HW2.out HB2.out (by decide) (by rw [hk, e])
      · rw [List.length_append]
        exact HS2.out
  · intro xs m l h
    simp only [List.length_append, List.length_cons, List.length_nil] at h ⊢
    omega

theorem eg18 : ∀ args w, (callFunc 18 args).run Try.prog w = .ok (.enter 18 args) w := enters_of Try.func18 (by kernel_rfl) rfl
def collNext : List Mv → Mv → Int × List Mv := fun xs m => (0, xs ++ [m])
theorem runs_coll (k : Nat) (s l : List Mv) : runs collNext k s l = (min k l.length, 0, s ++ l.take k) := by
  induction k generalizing s l with
  | zero => simp [runs]
  | succ k ih =>
    cases l with
    | nil => simp [runs]
    | cons m l => rw [runs_ok collNext k s m l rfl, show (collNext s m).2 = s ++ [m] from rfl, ih]; simp

/-- Two variables, each with a list of moves of its own. -/
def Two (base b b' : Nat) (xs ys : List Mv) (W : World) : Prop :=
  ∃ A c A' c', Blk W b 22 #[.slice A xs.length c] ∧ W.ownsRow base 38 9 (.slice A xs.length c) xs.length (xs.flatMap Mv.enc) ∧ Blk W b' 22 #[.slice A' ys.length c'] ∧
    W.ownsRow base 38 9 (.slice A' ys.length c') ys.length (ys.flatMap Mv.enc) ∧ ∀ k, (Value.slice A xs.length c).ownBlock = some k → (Value.slice A' ys.length c').ownBlock ≠ some k
theorem Two.swap {base b b' : Nat} {xs ys : List Mv} {W : World} (h : Two base b b' xs ys W) : Two base b' b ys xs W := by
  obtain ⟨A, c, A', c', h1, h2, h3, h4, h5⟩ := h
  exact ⟨A', c', A, c, h3, h4, h1, h2, fun k hk hk' => h5 k hk' hk⟩
theorem Two.later {base b b' : Nat} {xs ys : List Mv} {w W : World} (h : Two base b b' xs ys w) (hb : Below w.heap.size w W) : Two base b b' xs ys W := by
  obtain ⟨A, c, A', c', h1, h2, h3, h4, h5⟩ := h
  have hO := Only.of_below (S := fun _ => False) hb
  exact ⟨A, c, A', c', h1.only hO not_false, own_only h2 hO (fun _ _ => not_false), h3.only hO not_false, own_only h4 hO (fun _ _ => not_false), h5⟩

/-- A run whose function value appends to one of two lists. The job was made in a world in which both lists stood. -/
theorem parts_run (caps : Array Value) (b b' ib tb base : Nat) (i : Int)
    (hdo : ∀ (S : Nat → Prop) (L : Nat), S b → (∀ k, L ≤ k → S k) → ¬ S ib → base ≤ L → DoSpecG 18 caps S (fun k => S k ∨ k = ib) (List Mv) (fun xs W => Kept S base b L xs W ∧ Blk W ib 3 #[.int .i64 i]) collNext (fun xs l => xs.length + l.length ≤ 1048576))
    (g : Nat) (A : Option Addr) (c : Nat) (ms xs ys : List Mv) (most : Nat) (w0 w : World) (h0 : Two base b b' xs ys w0) (hb0 : Below w0.heap.size w0 w) (hj : JobAt w w0.heap.size g A ms.length c (ms.flatMap Mv.enc) 0) (hbb : b ≠ b')
    (ti : Array Value) (hi : Blk w ib 3 #[.int .i64 i]) (ht : Blk w tb 22 ti) (htb : b ≠ tb) (hbase : base ≤ w0.heap.size) (hbb0 : base ≤ b) (hn : xs.length + ms.length ≤ 1048576) (hm : most ≤ 1048576) (hmost : ms.length ≤ most) :
    Calls Try.prog 12 #[.pointer (some ⟨g, 0, none⟩), .func (.func 18) #[] caps, .int .i64 most] w fun e W => e = .returned (.tuple #[.int .i64 ms.length, .int .i64 0]) ∧ Two base b b' (xs ++ ms) ys W ∧ Blk W tb 22 ti ∧ Below base w W := by
  obtain ⟨A1, c1, A2, c2, h1, h2, h3, h4, h5⟩ := h0
  have lt1 := h2.lt
  have lt2 := h4.lt
  have hO0 := Only.of_below (S := fun _ => False) hb0
  have k1 := h1.only hO0 not_false
  have k2 := own_only h2 hO0 (fun _ _ => not_false)
  have k3 := h3.only hO0 not_false
  have k4 := own_only h4 hO0 (fun _ _ => not_false)
  obtain ⟨S, hS⟩ : ∃ S : Nat → Prop, S = fun k => k = b ∨ (Value.slice A1 xs.length c1).ownBlock = some k ∨ w.heap.size ≤ k := ⟨_, rfl⟩
  have hSb : S b := by rw [hS]; exact .inl rfl
  have hSL : ∀ k, w.heap.size ≤ k → S k := fun k hk => by rw [hS]; exact .inr (.inr hk)
  have hSo : ∀ k, (Value.slice A1 xs.length c1).ownBlock = some k → S k := fun k hk => by rw [hS]; exact .inr (.inl hk)
  have hSn : ∀ k, k ≠ b → (Value.slice A1 xs.length c1).ownBlock ≠ some k → k < w.heap.size → ¬ S k := fun k e1 e2 e3 => by
    rw [hS]
    rintro (h | h | h)
    · exact e1 h
    · exact e2 h
    · omega
  have hSi : ¬ S ib := hSn ib (k1.ne_ hi (by decide)).symm (own_blk_ne k2 hi (by decide)) hi.lt
  have hsz := hb0.size
  have hd := hdo S w.heap.size hSb hSL hSi (by omega)
  refine (run_any_g 18 caps S _ (List Mv) _ collNext _ hd eg18 g A c 0 _ ms xs most w hj (by omega) hm ⟨⟨A1, c1, k1, k2, hSo, Nat.le_refl _⟩, hi⟩ (by simpa using hn) ?_ ?_ ?_).mono ?_
  · exact hSn g (k1.ne_ hj.1 (by decide)).symm (own_blk_ne k2 hj.1 (by decide)) hj.1.lt
  · rintro (h | h)
    · exact hSn g (k1.ne_ hj.1 (by decide)).symm (own_blk_ne k2 hj.1 (by decide)) hj.1.lt h
    · exact hj.1.ne_ hi (by decide) h
  · intro k hk
    have := hj.2.1.lt k hk
    exact hSn k (fun e => own_blk_ne hj.2.1 k1 (by decide) (e ▸ hk)) (fun e => by have := lt1 k e; omega) this.2
  · rintro e W ⟨r, hr, rfl, ⟨⟨A3, c3, q1, q2, q3, _⟩, _⟩, _, hO⟩
    rw [List.drop_zero, runs_coll, Nat.min_eq_right hmost, List.take_of_length_le hmost] at hr
    subst hr
    have hg0 := hj.2.2.1
    have hT : ∀ k, k ≠ b → (Value.slice A1 xs.length c1).ownBlock ≠ some k → k ≠ g → k < w.heap.size → ¬ (S k ∨ k = g) := fun k e1 e2 e3 e4 h => h.elim (hSn k e1 e2 e4) e3
    refine ⟨rfl, ⟨A3, c3, A2, c2, q1, q2, k3.only hO (hT b' hbb.symm (own_blk_ne k2 k3 (by decide)) (k3.ne_ hj.1 (by decide)) k3.lt), own_only k4 hO (fun k hk => hT k (fun e => own_blk_ne k4 k1 (by decide) (e ▸ hk)) (fun e => h5 k e hk) (fun e => own_blk_ne k4 hj.1 (by decide) (e ▸ hk)) (k4.lt k hk).2), ?_⟩,
      ht.only hO (hT tb htb.symm (own_blk_ne k2 ht (by decide)) (ht.ne_ hj.1 (by decide)) ht.lt), hO.to_below (by omega) ?_⟩
    · intro k hk hk2
      have hs := q3 k hk
      rw [hS] at hs
      rcases hs with h | h | h
      · exact own_blk_ne q2 q1 (by decide) (h ▸ hk)
      · exact h5 k h hk2
      · have := (k4.lt k hk2).2; omega
    · intro k _ hk
      rcases hk with h | h
      · rw [hS] at h
        rcases h with h | h | h
        · omega
        · exact (lt1 k h).1
        · omega
      · omega
end Go.Proofs.Ytggnkgddblpicaa
