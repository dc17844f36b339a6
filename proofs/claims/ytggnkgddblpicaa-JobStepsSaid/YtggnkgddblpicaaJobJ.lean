/- The closure of JobSteps, what a run with it tells, and what holds between two runs. Conditions: at most 2^20 moves; those of the theorems. -/
import Derived.Test.YtggnkgddblpicaaJobH
namespace Go.Proofs.Ytggnkgddblpicaa
open Go.RowKit Go.WideShapes Go.ChangeShapes

/-- What the function value of JobSteps does: failed, and the moves that were asked. -/
def stepNext (fails : Nat) : Bool × List Mv → Mv → Int × (Bool × List Mv) := fun s m => if s.1 = false ∧ s.2.length = fails then (3, (true, s.2)) else (0, (s.1, s.2 ++ [m]))

theorem runs_step (fails : Nat) : ∀ (k : Nat) (fl : Bool) (xs l : List Mv), runs (stepNext fails) k (fl, xs) l =
    if fl = false ∧ xs.length ≤ fails ∧ fails < xs.length + min k l.length then (fails - xs.length, 3, (true, xs ++ l.take (fails - xs.length))) else (min k l.length, 0, (fl, xs ++ l.take k)) := by
  intro k
  induction k with
  | zero => intro fl xs l; rw [if_neg (fun h => by have := h.2; omega)]; simp [runs]
  | succ k ih =>
    intro fl xs l
    cases l with
    | nil => rw [if_neg (fun h => by have := h.2; simp at this; omega)]; simp [runs]
    | cons m l =>
      by_cases h : fl = false ∧ xs.length = fails
      · rw [if_pos ⟨h.1, by omega, by simp; omega⟩, runs_fall _ _ _ _ _ (by simp [stepNext, h])]
        simp [stepNext, h]
      · have hz : (stepNext fails (fl, xs) m).1 = 0 := by simp [stepNext, h]
        rw [runs_ok _ _ _ _ _ hz, show (stepNext fails (fl, xs) m).2 = (fl, xs ++ [m]) by simp [stepNext, h], ih]
        by_cases h2 : fl = false ∧ xs.length ≤ fails ∧ fails < xs.length + min (k + 1) (m :: l).length
        · have h3 : xs.length ≠ fails := fun e => h ⟨h2.1, e⟩
          have h4 := h2.2.2
          simp only [List.length_cons] at h4
          rw [if_pos h2, if_pos ⟨h2.1, by simp only [List.length_append, List.length_cons, List.length_nil]; omega, by simp only [List.length_append, List.length_cons, List.length_nil]; omega⟩]
          have e : fails - xs.length = (fails - (xs ++ [m]).length) + 1 := by simp only [List.length_append, List.length_cons, List.length_nil]; omega
          rw [e]
          simp
        · rw [if_neg h2, if_neg (fun h3 => h2 ⟨h3.1, by have := h3.2.1; simp only [List.length_append, List.length_cons, List.length_nil] at this; omega, by have := h3.2.2; simp only [List.length_append, List.length_cons, List.length_nil] at this ⊢; omega⟩)]
          simp

set_option maxHeartbeats 1600000 in
theorem collect20 (fails : Nat) (S : Nat → Prop) (base L ba bf bs : Nat) (hSa : S ba) (hSf : S bf) (hL : ∀ k, L ≤ k → S k) (hbs : ¬ S bs) (hbL : base ≤ L) (hf8 : fails ≤ 255) :
    DoSpecG 20 #[.pointer (some ⟨bf, 0, none⟩), .pointer (some ⟨ba, 0, none⟩), .pointer (some ⟨bs, 0, none⟩)] S (fun k => S k ∨ k = bs) (Bool × List Mv)
      (fun s W => Kept S base ba L s.2 W ∧ Blk W bf 4 #[.bool s.1] ∧ Blk W bs 5 #[.int .u8 fails]) (stepNext fails) (fun s l => s.2.length + l.length ≤ 1048576) := by
  refine ⟨?_, ?_, ?_⟩
  · intro s W W' ⟨hk, hi, hs⟩ hO
    exact ⟨hk.only hO (fun h => h (.inl hSa)) (fun k hk h => h (.inl hk)), hi.only hO (fun h => h (.inl hSf)), hs.only hO (fun h => h (.inr rfl))⟩
  · rintro ⟨fl, xs⟩ m l W ⟨hk, hi, hs⟩ hG
    obtain ⟨A, c, hb, hown, hS, hLW⟩ := hk
    simp only at hb hown hS hi hs hG
    obtain ⟨t0, ht0, hz0, hz1, hz2⟩ := infoMove'
    have hc := hb.cell 0
    have hf := hb.frozen 0
    have hic := hi.cell 0
    have hif := hi.frozen 0
    have hsc := hs.cell 0
    simp at hc hic hsc
    have hlt := hb.lt
    have hilt := hi.lt
    have hslt := hs.lt
    have HO := hide hown
    have HB := hide hb
    have HI := hide hi
    have HS := hide hs
    have hne := own_blk_ne hown hb (by decide)
    have hni := own_blk_ne hown hi (by decide)
    have hm1 := enc_oneCell [m]
    have hbi : ba ≠ bf := hb.ne_ hi (by decide)
    have hGl : xs.length < 1048576 := by simp only [List.length_cons] at hG; omega
    clear hown hb hi hs
    by_cases hfa : fl = false ∧ xs.length = fails
    · obtain ⟨rfl, rfl⟩ := hfa
      go_enter Try.func20, Try.ntmps20
      simp only [Mv.val]
      go_wp2
      go_ret
      have hO : Only (fun k => k = bf) W ((W.setCell ⟨bf, 0, none⟩ (.bool true)).alloc (.cells m.enc.toArray 38)) := (Only.setCell (S := fun k => k = bf) (Only.refl _ _) (p := ⟨bf, 0, none⟩) (.inl rfl) (.bool true)).alloc _
      rw [show stepNext xs.length (false, xs) m = (3, (true, xs)) by simp [stepNext]]
      refine ⟨rfl, ⟨⟨A, c, HB.out.only hO hbi, own_only HO.out hO (fun k hk e => hni (by rw [hk, e])), hS, Nat.le_trans hLW hO.size⟩, ((HI.out.setL 0 (.bool true)).alloc _).of_eq (by simp), HS.out.only hO (fun e => hbs (e ▸ hSf))⟩, hO.mono fun k _ e => e ▸ hSf⟩
    · cases fl with
      | true =>
      · rw [show stepNext fails (true, xs) m = (0, (true, xs ++ [m])) by simp [stepNext]]
        go_enter Try.func20, Try.ntmps20
        simp only [Mv.val]
        go_wp2_with (at_builtin; refine wpList_append_any _ rfl (.tmp 15) (.tmp 17) _ rfl base 38 t0 _ 9 72 Try.underlying22 ht0 hz0 hz1 hz2 rfl (by omega) (.slice A xs.length c) xs.length _ rfl ((HO.out.alloc _).alloc _) (W.heap.size + 2) (some ⟨W.heap.size + 1, 0, none⟩) 1 1 m.enc rfl ?_ ?_ ?_ ?_ ?_ ?_)
        · refine ⟨rfl, fun _ => ⟨_, rfl, by simp, fun j u hu => ?_⟩⟩
          rw [Addr.add_lit, Nat.zero_add]
          have e := (Blk.new (W.alloc (.cells m.enc.toArray 38)) 38 m.enc.toArray).cell j
          rw [show (W.alloc (.cells m.enc.toArray 38)).heap.size = W.heap.size + 1 by simp] at e
          exact e.trans (by simpa using hu)
        · simpa using hm1
        · simp only [maxLen]; omega
        · omega
        · first | omega | (simp; omega)
        · intro v' w2 hown2 hg2 hor
          obtain ⟨A2, c2, rfl⟩ := ownsRow_form hown2
          have hO1 : Only S W ((W.alloc (.cells m.enc.toArray 38)).alloc (.cells m.enc.toArray 38)) := ((Only.refl S W).alloc _).alloc _
          have hO2 : Only S W w2 := hO1.grown hg2 (fun g hg => .inl (hS g hg))
          have hB2 := ((HB.out.alloc (.cells m.enc.toArray 38)).alloc (.cells m.enc.toArray 38)).grown hg2 (fun e => hne e.symm)
          have hI2 := ((HI.out.alloc (.cells m.enc.toArray 38)).alloc (.cells m.enc.toArray 38)).grown hg2 (fun e => hni e.symm)
          have hS2 : ∀ k, (Value.slice A2 (xs.length + 1) c2).ownBlock = some k → S k := by
            intro k hk
            rcases hor with hor | hor
            · exact hS k (hor ▸ hk)
            · rw [hor] at hk
              have hk := Option.some.inj hk
              subst hk
              refine hL _ ?_
              first | omega | (simp; omega)
          have HS3 := hide (HS.out.only hO2 hbs)
          have HO2 := hide hO2
          have HB2 := hide hB2
          have HI2 := hide hI2
          have HS2 := hide hS2
          have HW2 := hide hown2
          have hc2 := hB2.cell 0
          have hf2 := hB2.frozen 0
          simp at hc2
          clear hO1 hO2 hB2 hI2 hS2 hown2 hg2 hor HO HB HI HS hc hf hic hif hsc
          go_wp2
          go_ret
          have hs : Only S w2 (w2.setCell ⟨ba, 0, none⟩ (.slice A2 (xs.length + 1) c2)) := Only.setCell (Only.refl _ _) (.inl hSa) _
          have hs1 : Only (fun k => k = ba) w2 (w2.setCell ⟨ba, 0, none⟩ (.slice A2 (xs.length + 1) c2)) := Only.setCell (S := fun k => k = ba) (Only.refl _ _) (p := ⟨ba, 0, none⟩) (.inl rfl) _
          refine ⟨rfl, ⟨⟨A2, c2, ?_, ?_, ?_, Nat.le_trans hLW (HO2.out.trans hs).size⟩, HI2.out.only hs1 (fun e => hbi e.symm), HS3.out.only hs hbs⟩, HO2.out.trans hs⟩
          · simp only [List.length_append]
            exact (HB2.out.setL 0 _).of_eq (by simp)
          · simp only [List.length_append, List.flatMap_append, List.length_cons, List.length_nil, Nat.zero_add, List.flatMap_cons, List.flatMap_nil, List.append_nil]
            exact own_only HW2.out hs1 (fun k hk e => own_blk_ne HW2.out HB2.out (by decide) (by rw [hk, e]))
          · simp only [List.length_append]
            exact HS2.out
      | false =>
      · rw [show stepNext fails (false, xs) m = (0, (false, xs ++ [m])) by simp [stepNext]; exact fun h => hfa ⟨rfl, h⟩]
        have hnx : ((xs.length : Int) == (fails : Int)) = false := by have : xs.length ≠ fails := fun e => hfa ⟨rfl, e⟩; simp only [beq_eq_false_iff_ne, ne_eq]; omega
        go_enter Try.func20, Try.ntmps20
        simp only [Mv.val]
        go_wp2_with (at_builtin; refine wpList_append_any _ rfl (.tmp 15) (.tmp 17) _ rfl base 38 t0 _ 9 72 Try.underlying22 ht0 hz0 hz1 hz2 rfl (by omega) (.slice A xs.length c) xs.length _ rfl ((HO.out.alloc _).alloc _) (W.heap.size + 2) (some ⟨W.heap.size + 1, 0, none⟩) 1 1 m.enc rfl ?_ ?_ ?_ ?_ ?_ ?_)
        · refine ⟨rfl, fun _ => ⟨_, rfl, by simp, fun j u hu => ?_⟩⟩
          rw [Addr.add_lit, Nat.zero_add]
          have e := (Blk.new (W.alloc (.cells m.enc.toArray 38)) 38 m.enc.toArray).cell j
          rw [show (W.alloc (.cells m.enc.toArray 38)).heap.size = W.heap.size + 1 by simp] at e
          exact e.trans (by simpa using hu)
        · simpa using hm1
        · simp only [maxLen]; omega
        · omega
        · first | omega | (simp; omega)
        · intro v' w2 hown2 hg2 hor
          obtain ⟨A2, c2, rfl⟩ := ownsRow_form hown2
          have hO1 : Only S W ((W.alloc (.cells m.enc.toArray 38)).alloc (.cells m.enc.toArray 38)) := ((Only.refl S W).alloc _).alloc _
          have hO2 : Only S W w2 := hO1.grown hg2 (fun g hg => .inl (hS g hg))
          have hB2 := ((HB.out.alloc (.cells m.enc.toArray 38)).alloc (.cells m.enc.toArray 38)).grown hg2 (fun e => hne e.symm)
          have hI2 := ((HI.out.alloc (.cells m.enc.toArray 38)).alloc (.cells m.enc.toArray 38)).grown hg2 (fun e => hni e.symm)
          have hS2 : ∀ k, (Value.slice A2 (xs.length + 1) c2).ownBlock = some k → S k := by
            intro k hk
            rcases hor with hor | hor
            · exact hS k (hor ▸ hk)
            · rw [hor] at hk
              have hk := Option.some.inj hk
              subst hk
              refine hL _ ?_
              first | omega | (simp; omega)
          have HS3 := hide (HS.out.only hO2 hbs)
          have HO2 := hide hO2
          have HB2 := hide hB2
          have HI2 := hide hI2
          have HS2 := hide hS2
          have HW2 := hide hown2
          have hc2 := hB2.cell 0
          have hf2 := hB2.frozen 0
          simp at hc2
          clear hO1 hO2 hB2 hI2 hS2 hown2 hg2 hor HO HB HI HS hc hf hic hif hsc
          go_wp2
          go_ret
          have hs : Only S w2 (w2.setCell ⟨ba, 0, none⟩ (.slice A2 (xs.length + 1) c2)) := Only.setCell (Only.refl _ _) (.inl hSa) _
          have hs1 : Only (fun k => k = ba) w2 (w2.setCell ⟨ba, 0, none⟩ (.slice A2 (xs.length + 1) c2)) := Only.setCell (S := fun k => k = ba) (Only.refl _ _) (p := ⟨ba, 0, none⟩) (.inl rfl) _
          refine ⟨rfl, ⟨⟨A2, c2, ?_, ?_, ?_, Nat.le_trans hLW (HO2.out.trans hs).size⟩, HI2.out.only hs1 (fun e => hbi e.symm), HS3.out.only hs hbs⟩, HO2.out.trans hs⟩
          · simp only [List.length_append]
            exact (HB2.out.setL 0 _).of_eq (by simp)
          · simp only [List.length_append, List.flatMap_append, List.length_cons, List.length_nil, Nat.zero_add, List.flatMap_cons, List.flatMap_nil, List.append_nil]
            exact own_only HW2.out hs1 (fun k hk e => own_blk_ne HW2.out HB2.out (by decide) (by rw [hk, e]))
          · simp only [List.length_append]
            exact HS2.out
  · intro s m l h
    unfold stepNext
    split
    · simp only [List.length_cons] at h ⊢; omega
    · simp only [List.length_append, List.length_cons, List.length_nil] at h ⊢; omega

theorem eg20 : ∀ args w, (callFunc 20 args).run Try.prog w = .ok (.enter 20 args) w := enters_of Try.func20 (by kernel_rfl) rfl

/-- What holds between two runs of JobSteps. -/
def St (base ba bf bs fails g : Nat) (Aj : Option Addr) (cj : Nat) (ms : List Mv) (d : Nat) (fl : Bool) (xs : List Mv) (B : Nat) (W : World) : Prop :=
  JobAt W B g Aj ms.length cj (ms.flatMap Mv.enc) d ∧ Blk W bf 4 #[.bool fl] ∧ Blk W bs 5 #[.int .u8 fails] ∧ ∃ A c, Blk W ba 22 #[.slice A xs.length c] ∧ W.ownsRow base 38 9 (.slice A xs.length c) xs.length (xs.flatMap Mv.enc) ∧
    ∀ k, (Value.slice Aj ms.length cj).ownBlock = some k → (Value.slice A xs.length c).ownBlock ≠ some k
theorem St.later {base ba bf bs fails g : Nat} {Aj : Option Addr} {cj : Nat} {ms : List Mv} {d : Nat} {fl : Bool} {xs : List Mv} {B : Nat} {w W : World} (h : St base ba bf bs fails g Aj cj ms d fl xs B w) (hb : Below w.heap.size w W) : St base ba bf bs fails g Aj cj ms d fl xs B W := by
  obtain ⟨h1, h2, h3, A, c, h4, h5, h6⟩ := h
  have hO := Only.of_below (S := fun _ => False) hb
  exact ⟨h1.later hb, h2.only hO not_false, h3.only hO not_false, A, c, h4.only hO not_false, own_only h5 hO (fun _ _ => not_false), h6⟩

theorem steps_run (base ba bf bs fails g : Nat) (Aj : Option Addr) (cj : Nat) (ms : List Mv) (d : Nat) (fl : Bool) (xs : List Mv) (B most : Nat) (w : World) (h : St base ba bf bs fails g Aj cj ms d fl xs B w) (hf8 : fails ≤ 255) (hd : d ≤ ms.length)
    (hn : xs.length + ms.length ≤ 1048576) (hm : most ≤ 1048576) (hB : base ≤ B) (hba : base ≤ ba) (hbf : base ≤ bf) :
    Calls Try.prog 12 #[.pointer (some ⟨g, 0, none⟩), .func (.func 20) #[] #[.pointer (some ⟨bf, 0, none⟩), .pointer (some ⟨ba, 0, none⟩), .pointer (some ⟨bs, 0, none⟩)], .int .i64 most] w fun e W =>
      ∃ r, runs (stepNext fails) most (fl, xs) (ms.drop d) = r ∧ e = .returned (.tuple #[.int .i64 r.1, .int .i64 r.2.1]) ∧ St base ba bf bs fails g Aj cj ms (d + r.1) r.2.2.1 r.2.2.2 B W ∧ Below base w W := by
  obtain ⟨hj, hf, hs, A1, c1, k1, k2, h6⟩ := h
  obtain ⟨S, hS⟩ : ∃ S : Nat → Prop, S = fun k => k = ba ∨ k = bf ∨ (Value.slice A1 xs.length c1).ownBlock = some k ∨ w.heap.size ≤ k := ⟨_, rfl⟩
  have hSa : S ba := by rw [hS]; exact .inl rfl
  have hSf : S bf := by rw [hS]; exact .inr (.inl rfl)
  have hSL : ∀ k, w.heap.size ≤ k → S k := fun k hk => by rw [hS]; exact .inr (.inr (.inr hk))
  have hSo : ∀ k, (Value.slice A1 xs.length c1).ownBlock = some k → S k := fun k hk => by rw [hS]; exact .inr (.inr (.inl hk))
  have hSn : ∀ k, k ≠ ba → k ≠ bf → (Value.slice A1 xs.length c1).ownBlock ≠ some k → k < w.heap.size → ¬ S k := fun k e0 e1 e2 e3 => by
    rw [hS]
    rintro (h | h | h | h)
    · exact e0 h
    · exact e1 h
    · exact e2 h
    · omega
  have hSs : ¬ S bs := hSn bs (k1.ne_ hs (by decide)).symm (hf.ne_ hs (by decide)).symm (own_blk_ne k2 hs (by decide)) hs.lt
  have hSg : ¬ S g := hSn g (k1.ne_ hj.1 (by decide)).symm (hf.ne_ hj.1 (by decide)).symm (own_blk_ne k2 hj.1 (by decide)) hj.1.lt
  have hd' := collect20 fails S base w.heap.size ba bf bs hSa hSf hSL hSs (by have := hj.1.lt; have := hj.2.2.1; omega) hf8
  refine (run_any_g 20 _ S _ (Bool × List Mv) _ (stepNext fails) _ hd' eg20 g Aj cj d B ms (fl, xs) most w hj (by omega) hm ⟨⟨A1, c1, k1, k2, hSo, Nat.le_refl _⟩, hf, hs⟩ (by rw [List.length_drop]; show xs.length + _ ≤ _; omega) hSg ?_ ?_).mono ?_
  · rintro (h | h)
    · exact hSg h
    · exact hj.1.ne_ hs (by decide) h
  · intro k hk
    have := hj.2.1.lt k hk
    exact hSn k (fun e => own_blk_ne hj.2.1 k1 (by decide) (e ▸ hk)) (fun e => own_blk_ne hj.2.1 hf (by decide) (e ▸ hk)) (h6 k hk) this.2
  · rintro e W ⟨r, hr, rfl, ⟨⟨A3, c3, q1, q2, q3, _⟩, q4, q5⟩, q6, hO⟩
    have hg0 := hj.2.2.1
    refine ⟨r, hr, rfl, ⟨q6, q4, q5, A3, c3, q1, q2, ?_⟩, hO.to_below (by have := hj.1.lt; omega) ?_⟩
    · intro k hk hk2
      have hs := q3 k hk2
      rw [hS] at hs
      rcases hs with h | h | h | h
      · exact own_blk_ne q2 q1 (by decide) (h ▸ hk2)
      · exact own_blk_ne q2 q4 (by decide) (h ▸ hk2)
      · exact h6 k hk h
      · have := (hj.2.1.lt k hk).2; omega
    · intro k _ hk
      rcases hk with h | h
      · rw [hS] at h
        rcases h with h | h | h | h
        · omega
        · omega
        · exact (k2.lt k h).1
        · have := hj.1.lt; omega
      · omega
end Go.Proofs.Ytggnkgddblpicaa
