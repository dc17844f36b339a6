/- Words for the jobs whose function value keeps a list of its own. Conditions: at most 2^20 moves. -/
import Derived.Test.YtggnkgddblpicaaJobG
namespace Go.Proofs.Ytggnkgddblpicaa
open Go.RowKit Go.WideShapes Go.ChangeShapes

/-- DoSpec, where what the function value meets is known of the moves that are still to come: Good of a state and of those moves. -/
def DoSpecG (f : Nat) (caps : Array Value) (S R : Nat → Prop) (σ : Type) (I : σ → World → Prop) (next : σ → Mv → Int × σ) (Good : σ → List Mv → Prop) : Prop :=
  (∀ s W W', I s W → Only (fun k => ¬ R k) W W' → I s W') ∧
  (∀ s m l W, I s W → Good s (m :: l) → Calls Try.prog f (#[m.val] ++ caps) W fun e W' => e = .returned (.int .i64 (next s m).1) ∧ I (next s m).2 W' ∧ Only S W W') ∧
  ∀ s m l, Good s (m :: l) → Good (next s m).2 l

set_option maxHeartbeats 800000 in
theorem step_some_g (f : Nat) (caps : Array Value) (S R : Nat → Prop) (σ : Type) (I : σ → World → Prop) (next : σ → Mv → Int × σ) (Good : σ → List Mv → Prop) (hdo : DoSpecG f caps S R σ I next Good) (eg : ∀ args w, (callFunc f args).run Try.prog w = .ok (.enter f args) w)
    (g : Nat) (A : Option Addr) (c d B : Nat) (ms : List Mv) (s : σ) (w : World) (hj : JobAt w B g A ms.length c (ms.flatMap Mv.enc) d) (hd : d < ms.length) (hn : ms.length ≤ 1048576) (hI : I s w) (hgd : Good s (ms.drop d))
    (hSg : ¬ S g) (_hRg : ¬ R g) (hSA : ∀ k, (Value.slice A ms.length c).ownBlock = some k → ¬ S k) (hz : (next s ms[d]).1 ≠ 0) :
    Calls Try.prog 13 #[.pointer (some ⟨g, 0, none⟩), .func (.func f) #[] caps] w fun e w' => e = .returned (.int .i64 (next s ms[d]).1) ∧ I (next s ms[d]).2 w' ∧
      JobAt w' B g A ms.length c (ms.flatMap Mv.enc) d ∧ Only S w w' := by
  have qn := eqlFn
  go_enter Try.func13, Try.ntmps13
  go_wp2_with (go_at_call 14; refine (peek_some g A c d B ms w hj hd hn).mono ?_; rintro e w1 ⟨rfl, hb1⟩; simp only [Mv.val])
  refine calls_at (fun W => Below w.heap.size w W) ?_ ?_
  · repeat (with_reducible (first | refine Below.setCell ?_ ?_ _ | refine Below.alloc ?_ ?_ _ | exact hb1))
    all_goals exact hb1.size
  intro W hBW
  have hz' : ((next s ms[d]).1 == 0) = false := by simpa using hz
  refine (hdo.2.1 s ms[d] (ms.drop (d + 1)) W (hdo.1 _ _ _ hI (Only.of_below hBW)) (List.drop_eq_getElem_cons hd ▸ hgd)).mono ?_
  rintro e w2 ⟨rfl, hI2, hO⟩
  go_wp2
  go_ret
  obtain ⟨h1, h2, h3, h4⟩ := hj
  have hW : Only S w w2 := (Only.of_below hBW).trans hO
  exact ⟨rfl, hI2, ⟨h1.only hW hSg, own_only h2 hW hSA, h3, h4⟩, hW⟩

set_option maxHeartbeats 800000 in
theorem step_ok_g (f : Nat) (caps : Array Value) (S R : Nat → Prop) (σ : Type) (I : σ → World → Prop) (next : σ → Mv → Int × σ) (Good : σ → List Mv → Prop) (hdo : DoSpecG f caps S R σ I next Good) (eg : ∀ args w, (callFunc f args).run Try.prog w = .ok (.enter f args) w)
    (g : Nat) (A : Option Addr) (c d B : Nat) (ms : List Mv) (s : σ) (w : World) (hj : JobAt w B g A ms.length c (ms.flatMap Mv.enc) d) (hd : d < ms.length) (hn : ms.length ≤ 1048576) (hI : I s w) (hgd : Good s (ms.drop d))
    (hSg : ¬ S g) (hRg : ¬ R g) (hSA : ∀ k, (Value.slice A ms.length c).ownBlock = some k → ¬ S k) (hz : (next s ms[d]).1 = 0) :
    Calls Try.prog 13 #[.pointer (some ⟨g, 0, none⟩), .func (.func f) #[] caps] w fun e w' => e = .returned (.int .i64 0) ∧ I (next s ms[d]).2 w' ∧
      JobAt w' B g A ms.length c (ms.flatMap Mv.enc) (d + 1) ∧ Only (fun k => S k ∨ k = g) w w' := by
  have qn := eqlFn
  go_enter Try.func13, Try.ntmps13
  go_wp2_with (go_at_call 14; refine (peek_some g A c d B ms w hj hd hn).mono ?_; rintro e w1 ⟨rfl, hb1⟩; simp only [Mv.val])
  refine calls_at (fun W => Below w.heap.size w W) ?_ ?_
  · repeat (with_reducible (first | refine Below.setCell ?_ ?_ _ | refine Below.alloc ?_ ?_ _ | exact hb1))
    all_goals exact hb1.size
  intro W hBW
  have hc := hdo.2.1 s ms[d] (ms.drop (d + 1)) W (hdo.1 _ _ _ hI (Only.of_below hBW)) (List.drop_eq_getElem_cons hd ▸ hgd)
  rw [hz] at hc
  refine hc.mono ?_
  rintro e w2 ⟨rfl, hI2, hO⟩
  obtain ⟨h1, h2, h3, h4⟩ := hj
  have hW : Only S w w2 := (Only.of_below hBW).trans hO
  have k1 := h1.only hW hSg
  have c1 := k1.cell 1
  have f1 := k1.frozen 1
  simp at c1
  go_wp2
  go_ret
  have hne : ∀ k, (Value.slice A ms.length c).ownBlock = some k → ¬ k = g := fun k hk e => own_blk_ne h2 h1 (by decide) (by rw [hk, e])
  have hs : ∀ v, Only (fun k => k = g) w2 (w2.setCell ⟨g, 1, none⟩ v) := fun v => Only.setCell (S := fun k => k = g) (Only.refl _ _) (p := ⟨g, 1, none⟩) (.inl rfl) v
  refine ⟨rfl, hdo.1 _ _ _ hI2 ((hs _).mono fun k _ e => by rw [e]; exact hRg), ⟨(k1.setL 1 _).of_eq ?_, own_only (own_only h2 hW hSA) (hs _) hne, h3, by omega⟩, (hW.mono fun _ _ h => .inl h).trans ((hs _).mono fun _ _ h => .inr h)⟩
  simp

set_option maxHeartbeats 1600000 in
theorem run_any_g (f : Nat) (caps : Array Value) (S R : Nat → Prop) (σ : Type) (I : σ → World → Prop) (next : σ → Mv → Int × σ) (Good : σ → List Mv → Prop) (hdo : DoSpecG f caps S R σ I next Good) (eg : ∀ args w, (callFunc f args).run Try.prog w = .ok (.enter f args) w)
    (g : Nat) (A : Option Addr) (c d B : Nat) (ms : List Mv) (s : σ) (most : Nat) (w : World) (hj : JobAt w B g A ms.length c (ms.flatMap Mv.enc) d) (hn : ms.length ≤ 1048576) (hm : most ≤ 1048576) (hI : I s w) (hgd : Good s (ms.drop d))
    (hSg : ¬ S g) (hRg : ¬ R g) (hSA : ∀ k, (Value.slice A ms.length c).ownBlock = some k → ¬ S k) :
    Calls Try.prog 12 #[.pointer (some ⟨g, 0, none⟩), .func (.func f) #[] caps, .int .i64 most] w (RunPost S σ I next g A c d B ms s most w) := by
  have qn := eqlFn
  have HR := hide (Runs.start next most s ms d hj.2.2.2)
  have HJ := hide hj
  have HI := hide hI
  have HG := hide hgd
  clear hgd
  clear hI hj
  go_enter Try.func12, Try.ntmps12
  go_wp2
  go_loopw [8] (fun n wr => ∃ k s', n = .int .i64 ((k : Nat) : Int) ∧ Hid (Runs next most s ms d k s') ∧ Hid (I s' wr) ∧ Hid (Good s' (ms.drop (d + k))) ∧ Hid (JobAt wr B g A ms.length c (ms.flatMap Mv.enc) (d + k)) ∧ Hid (Only (fun k => S k ∨ k = g) w wr)) (fun n _ => most - (intOf n).toNat)
  case atStart => exact ⟨0, s, rfl, HR, HI, HG, HJ, hide (Only.refl _ _)⟩
  case round =>
    obtain ⟨k, s', rfl, hr, hI, hG, hj, hO⟩ := hrel
    clear HR HJ HI HG
    have hk1 := hr.out.1
    have hk2 := hr.out.2.1
    by_cases hlt : k < most
    · by_cases hl : d + k < ms.length
      · have hlI : (k : Int) < (most : Int) := by omega
        have hpos : (0 : Int) < (ms.length : Int) - ((d + k : Nat) : Int) := by omega
        by_cases hz : (next s' ms[d + k]).1 = 0
        · go_wp2_with fail
          refine (left_any g A ms.length c (d + k) wr hj.out.1 hk2 hn).mono ?_
          rintro e w1 ⟨rfl, q, rfl⟩
          go_wp2_with fail
          refine (step_ok_g f caps S R σ I next Good hdo eg g A c (d + k) B ms s' _ (hj.out.drewN q) hl hn (hdo.1 _ _ _ hI.out ((Only.refl _ _).drewN q)) hG.out hSg hRg hSA hz).mono ?_
          rintro e w2 ⟨rfl, hI2, hj2, hO2⟩
          have HI2 := hide hI2
          have HJ2 := hide hj2
          have HO2 := hide ((hO.out.drewN q).trans hO2)
          clear hI2 hj2 hO2
          go_wp2
          go_roundw
          case rel =>
            have HG2 := hdo.2.2 s' ms[d + k] (ms.drop (d + k + 1)) (List.drop_eq_getElem_cons hl ▸ hG.out)
            exact ⟨k + 1, _, by go_num, hide (hr.out.step hlt hl hz), HI2, hide HG2, HJ2, HO2⟩
          case measure => simp [intOf]; omega
        · have hzb : ((next s' ms[d + k]).1 != 0) = true := by simpa using hz
          go_wp2_with fail
          refine (left_any g A ms.length c (d + k) wr hj.out.1 hk2 hn).mono ?_
          rintro e w1 ⟨rfl, q, rfl⟩
          go_wp2_with fail
          refine (step_some_g f caps S R σ I next Good hdo eg g A c (d + k) B ms s' _ (hj.out.drewN q) hl hn (hdo.1 _ _ _ hI.out ((Only.refl _ _).drewN q)) hG.out hSg hRg hSA hz).mono ?_
          rintro e w2 ⟨rfl, hI2, hj2, hO2⟩
          have HI2 := hide hI2
          have HJ2 := hide hj2
          have HO2 := hide ((hO.out.drewN q).trans (hO2.mono fun _ _ h => .inl h))
          clear hI2 hj2 hO2
          go_wp2
          go_ret2
          exact ⟨_, hr.out.fall hlt hl hz, rfl, HI2.out, HJ2.out, HO2.out⟩
      · have hlI : (k : Int) < (most : Int) := by omega
        have hpos : ¬ (0 : Int) < (ms.length : Int) - ((d + k : Nat) : Int) := by omega
        go_wp2_with fail
        refine (left_any g A ms.length c (d + k) wr hj.out.1 hk2 hn).mono ?_
        rintro e w1 ⟨rfl, q, rfl⟩
        go_wp2
        go_ret2
        exact ⟨_, hr.out.stop (.inr (by omega)), rfl, hdo.1 _ _ _ hI.out ((Only.refl _ _).drewN q), hj.out.drewN q, hO.out.drewN q⟩
    · have hlI : ¬ (k : Int) < (most : Int) := by omega
      go_wp2
      go_ret2
      exact ⟨_, hr.out.stop (.inl (by omega)), rfl, hI.out, hj.out, hO.out⟩


theorem Only.grown {S : Nat → Prop} {a w w' : World} {row : Option Nat} (h : Only S a w) (hg : w.grownBy w' row) (hr : ∀ g, row = some g → S g ∨ a.heap.size ≤ g) : Only S a w' :=
  ⟨hg.os.trans h.os, hg.tape.trans h.tape, hg.output.trans h.output, Nat.le_trans h.size hg.size, fun i hi hn => (hg.block i (Nat.lt_of_lt_of_le hi h.size) (fun e => (hr i e.symm).elim hn (fun h2 => by omega))).trans (h.block i hi hn)⟩

/-- A variable that holds a list of moves of its own: the blocks of it are among S, whatever is made from L on is. -/
def Kept (S : Nat → Prop) (base b L : Nat) (xs : List Mv) (W : World) : Prop :=
  ∃ A c, Blk W b 22 #[.slice A xs.length c] ∧ W.ownsRow base 38 9 (.slice A xs.length c) xs.length (xs.flatMap Mv.enc) ∧ (∀ k, (Value.slice A xs.length c).ownBlock = some k → S k) ∧ L ≤ W.heap.size
theorem Kept.only {S T : Nat → Prop} {base b L : Nat} {xs : List Mv} {w W : World} (h : Kept S base b L xs w) (hO : Only T w W) (hb : ¬ T b) (hST : ∀ k, S k → ¬ T k) : Kept S base b L xs W := by
  obtain ⟨A, c, h1, h2, h3, h4⟩ := h
  exact ⟨A, c, h1.only hO hb, own_only h2 hO (fun k hk => hST k (h3 k hk)), h3, Nat.le_trans h4 hO.size⟩
end Go.Proofs.Ytggnkgddblpicaa
