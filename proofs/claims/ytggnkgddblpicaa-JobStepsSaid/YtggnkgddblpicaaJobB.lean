/- Contracts of job.Step and job.Run at whatever function value meets DoSpec. Conditions: those of DoSpec, and lengths of at most 2^20. -/
import Derived.Test.YtggnkgddblpicaaJobA
import Derived.Shelf.GgClosure.Gives
namespace Go.Proofs.Ytggnkgddblpicaa
open Go.RowKit Go.WideShapes Go.ChangeShapes

theorem own_block_of {w : World} {B n c : Nat} {A : Option Addr} {xs : List Value} (h : w.ownsRow B 38 9 (.slice A n c) n xs) (g : Nat) (hg : (Value.slice A n c).ownBlock = some g) : B ≤ g ∧ g < w.heap.size := h.lt g hg

/-- What a function value does with a move: f, with what it captured; I: what holds of its own state and the world; S: the blocks that it writes, R: those on which I hangs. -/
def DoSpec (f : Nat) (caps : Array Value) (S R : Nat → Prop) (σ : Type) (I : σ → World → Prop) (next : σ → Mv → Int × σ) : Prop :=
  (∀ s W W', I s W → Only (fun k => ¬ R k) W W' → I s W') ∧
  ∀ s m W, I s W → Calls Try.prog f (#[m.val] ++ caps) W fun e W' => e = .returned (.int .i64 (next s m).1) ∧ I (next s m).2 W' ∧ Only S W W'

theorem calls_at {P : Program} {f : Nat} {args : Array Value} {W : World} {R : Ending → World → Prop} (Q : World → Prop) (hQ : Q W) (h : ∀ W', Q W' → Calls P f args W' R) : Calls P f args W R := h W hQ

theorem JobAt.drewN {w : World} {B g n c d : Nat} {A : Option Addr} {xs : List Value} (h : JobAt w B g A n c xs d) (q : Nat) : JobAt (w.drewN q) B g A n c xs d := ⟨h.1.drewN q, own_only h.2.1 ((Only.refl (fun _ => False) _).drewN q) (fun _ _ => not_false), h.2.2.1, h.2.2.2⟩

theorem eqlFn (w : World) (fn : Fn) (a b : Array Value) : (binOp .eql 40 (.func fn a b) .nilFunc).run Try.prog w = .ok (.bool false) w := by kernel_rfl

set_option maxHeartbeats 800000 in
theorem step_some (f : Nat) (caps : Array Value) (S R : Nat → Prop) (σ : Type) (I : σ → World → Prop) (next : σ → Mv → Int × σ) (hdo : DoSpec f caps S R σ I next) (eg : ∀ args w, (callFunc f args).run Try.prog w = .ok (.enter f args) w)
    (g : Nat) (A : Option Addr) (c d B : Nat) (ms : List Mv) (s : σ) (w : World) (hj : JobAt w B g A ms.length c (ms.flatMap Mv.enc) d) (hd : d < ms.length) (hn : ms.length ≤ 1048576) (hI : I s w)
    (hSg : ¬ S g) (_hRg : ¬ R g) (hSA : ∀ k, (Value.slice A ms.length c).ownBlock = some k → ¬ S k) (hz : (next s ms[d]).1 ≠ 0) :
    Calls Try.prog 13 #[.pointer (some ⟨g, 0, none⟩), .func (.func f) #[] caps] w fun e w' => e = .returned (.int .i64 (next s ms[d]).1) ∧ I (next s ms[d]).2 w' ∧
      JobAt w' B g A ms.length c (ms.flatMap Mv.enc) d ∧ Only S w w' := by
  have qn := eqlFn
  go_enter Try.func13, Try.ntmps13
  go_wp2_with (go_at_call 14; refine (peek_some g A c d B ms w hj hd hn).mono ?_; rintro e w1 ⟨rfl, hb1⟩; simp only [Mv.val])
  refine calls_at (fun W => Below w.heap.size w W) ?_ ?_
  · repeat (with_reducible (first | refine Below.setCell ?_ ?_ _ | refine Below.alloc ?_ ?_ _ | exact hb1))
    all_goals exact hb1.size
  intro W hBW
  have hz' : ((next s ms[d]).1 == 0) = false := by simpa using hz
  refine (hdo.2 s ms[d] W (hdo.1 _ _ _ hI (Only.of_below hBW))).mono ?_
  rintro e w2 ⟨rfl, hI2, hO⟩
  go_wp2
  go_ret
  obtain ⟨h1, h2, h3, h4⟩ := hj
  have hW : Only S w w2 := (Only.of_below hBW).trans hO
  exact ⟨rfl, hI2, ⟨h1.only hW hSg, own_only h2 hW hSA, h3, h4⟩, hW⟩

set_option maxHeartbeats 800000 in
theorem step_ok (f : Nat) (caps : Array Value) (S R : Nat → Prop) (σ : Type) (I : σ → World → Prop) (next : σ → Mv → Int × σ) (hdo : DoSpec f caps S R σ I next) (eg : ∀ args w, (callFunc f args).run Try.prog w = .ok (.enter f args) w)
    (g : Nat) (A : Option Addr) (c d B : Nat) (ms : List Mv) (s : σ) (w : World) (hj : JobAt w B g A ms.length c (ms.flatMap Mv.enc) d) (hd : d < ms.length) (hn : ms.length ≤ 1048576) (hI : I s w)
    (hSg : ¬ S g) (hRg : ¬ R g) (hSA : ∀ k, (Value.slice A ms.length c).ownBlock = some k → ¬ S k) (hz : (next s ms[d]).1 = 0) :
    Calls Try.prog 13 #[.pointer (some ⟨g, 0, none⟩), .func (.func f) #[] caps] w fun e w' => e = .returned (.int .i64 0) ∧ I (next s ms[d]).2 w' ∧
      JobAt w' B g A ms.length c (ms.flatMap Mv.enc) (d + 1) ∧ Only (fun k => S k ∨ k = g) w w' := by
  have qn := eqlFn
  go_enter Try.func13, Try.ntmps13
  go_wp2_with (go_at_call 14; refine (peek_some g A c d B ms w hj hd hn).mono ?_; rintro e w1 ⟨rfl, hb1⟩; simp only [Mv.val])
  refine calls_at (fun W => Below w.heap.size w W) ?_ ?_
  · repeat (with_reducible (first | refine Below.setCell ?_ ?_ _ | refine Below.alloc ?_ ?_ _ | exact hb1))
    all_goals exact hb1.size
  intro W hBW
  have hc := hdo.2 s ms[d] W (hdo.1 _ _ _ hI (Only.of_below hBW))
  rw [hz] at hc
  refine hc.mono ?_
  rintro e w2 ⟨rfl, hI2, hO⟩
  obtain ⟨h1, h2, h3, h4⟩ := hj
  have hW : Only S w w2 := (Only.of_below hBW).trans hO
  have k1 := h1.only hW hSg
  have c1 := k1.cell 1
  have f1 := k1.frozen 1
  simp at c1
  go_wp2
  go_ret
  have hne : ∀ k, (Value.slice A ms.length c).ownBlock = some k → ¬ k = g := fun k hk e => own_blk_ne h2 h1 (by decide) (by rw [hk, e])
  have hs : ∀ v, Only (fun k => k = g) w2 (w2.setCell ⟨g, 1, none⟩ v) := fun v => Only.setCell (S := fun k => k = g) (Only.refl _ _) (p := ⟨g, 1, none⟩) (.inl rfl) v
  refine ⟨rfl, hdo.1 _ _ _ hI2 ((hs _).mono fun k _ e => by rw [e]; exact hRg), ⟨(k1.setL 1 _).of_eq ?_, own_only (own_only h2 hW hSA) (hs _) hne, h3, by omega⟩, (hW.mono fun _ _ h => .inl h).trans ((hs _).mono fun _ _ h => .inr h)⟩
  simp

theorem step_none (f : Nat) (caps : Array Value) (g : Nat) (A : Option Addr) (n c d B : Nat) (xs : List Value) (w : World) (hj : JobAt w B g A n c xs d) (hd : d = n) (hn : n ≤ 1048576) :
    Calls Try.prog 13 #[.pointer (some ⟨g, 0, none⟩), .func (.func f) #[] caps] w fun e w' => e = .returned (.int .i64 8) ∧ Below w.heap.size w w' := by
  have qn := eqlFn
  go_enter Try.func13, Try.ntmps13
  go_wp2_with (go_at_call 14; refine (peek_end g A n c d w hj.1 hd hn).mono ?_; rintro e w1 ⟨rfl, hb1⟩; simp only [Mv.val, Mv.zero])
  go_ret
  refine ⟨rfl, ?_⟩
  repeat (with_reducible (first | refine Below.setCell ?_ ?_ _ | refine Below.alloc ?_ ?_ _ | exact hb1))
  all_goals exact hb1.size

theorem eqlNil (w : World) : (binOp .eql 40 .nilFunc .nilFunc).run Try.prog w = .ok (.bool true) w := by kernel_rfl
theorem step_nil (g : Nat) (w : World) :
    Calls Try.prog 13 #[.pointer (some ⟨g, 0, none⟩), .nilFunc] w fun e w' => e = .returned (.int .i64 1) ∧ w = w' := by
  have qn := eqlNil
  go_enter Try.func13, Try.ntmps13
  go_wp2
  go_ret
  exact ⟨rfl, rfl⟩

/-- What a run asks: of the moves that are left, at most so many; told: how many were done, the error, the state behind it. -/
def runs {σ : Type} (next : σ → Mv → Int × σ) : Nat → σ → List Mv → Nat × Int × σ
  | 0, s, _ => (0, 0, s)
  | _, s, [] => (0, 0, s)
  | k + 1, s, m :: l => if (next s m).1 = 0 then ((runs next k (next s m).2 l).1 + 1, (runs next k (next s m).2 l).2) else (0, (next s m).1, (next s m).2)

theorem runs_le {σ : Type} (next : σ → Mv → Int × σ) : ∀ (k : Nat) (s : σ) (l : List Mv), (runs next k s l).1 ≤ l.length ∧ (runs next k s l).1 ≤ k := by
  intro k
  induction k with
  | zero => intro s l; simp [runs]
  | succ k ih =>
    intro s l
    cases l with
    | nil => simp [runs]
    | cons m l =>
      simp only [runs]
      have := ih (next s m).2 l
      split <;> simp <;> omega


theorem runs_stop {σ : Type} (next : σ → Mv → Int × σ) (k : Nat) (s : σ) (l : List Mv) (h : k = 0 ∨ l = []) : runs next k s l = (0, 0, s) := by
  cases k with
  | zero => rfl
  | succ k => rcases h with h | h
              · cases h
              · subst h; rfl
theorem runs_ok {σ : Type} (next : σ → Mv → Int × σ) (k : Nat) (s : σ) (m : Mv) (l : List Mv) (h : (next s m).1 = 0) : runs next (k + 1) s (m :: l) = ((runs next k (next s m).2 l).1 + 1, (runs next k (next s m).2 l).2) := by
  simp [runs, h]
theorem runs_fall {σ : Type} (next : σ → Mv → Int × σ) (k : Nat) (s : σ) (m : Mv) (l : List Mv) (h : (next s m).1 ≠ 0) : runs next (k + 1) s (m :: l) = (0, (next s m).1, (next s m).2) := by
  simp [runs, h]

/-- What holds at a round's head: k done of this call. -/
def Runs {σ : Type} (next : σ → Mv → Int × σ) (most : Nat) (s : σ) (ms : List Mv) (d k : Nat) (s' : σ) : Prop :=
  k ≤ most ∧ d + k ≤ ms.length ∧ runs next most s (ms.drop d) = (k + (runs next (most - k) s' (ms.drop (d + k))).1, (runs next (most - k) s' (ms.drop (d + k))).2)

theorem Runs.start {σ : Type} (next : σ → Mv → Int × σ) (most : Nat) (s : σ) (ms : List Mv) (d : Nat) (hd : d ≤ ms.length) : Runs next most s ms d 0 s := ⟨by omega, by omega, by simp⟩
theorem Runs.stop {σ : Type} {next : σ → Mv → Int × σ} {most : Nat} {s : σ} {ms : List Mv} {d k : Nat} {s' : σ} (h : Runs next most s ms d k s') (he : k = most ∨ d + k = ms.length) : runs next most s (ms.drop d) = (k, 0, s') := by
  rw [h.2.2, runs_stop next _ _ _ (by rcases he with he | he; · exact .inl (by omega)
                                      · exact .inr (List.drop_eq_nil_of_le (by omega)))]
  simp
theorem Runs.fall {σ : Type} {next : σ → Mv → Int × σ} {most : Nat} {s : σ} {ms : List Mv} {d k : Nat} {s' : σ} (h : Runs next most s ms d k s') (h1 : k < most) (h2 : d + k < ms.length) (hz : (next s' ms[d + k]).1 ≠ 0) :
    runs next most s (ms.drop d) = (k, (next s' ms[d + k]).1, (next s' ms[d + k]).2) := by
  rw [h.2.2, List.drop_eq_getElem_cons h2, show most - k = (most - k - 1) + 1 by omega, runs_fall next _ _ _ _ hz]
  simp
theorem Runs.step {σ : Type} {next : σ → Mv → Int × σ} {most : Nat} {s : σ} {ms : List Mv} {d k : Nat} {s' : σ} (h : Runs next most s ms d k s') (h1 : k < most) (h2 : d + k < ms.length) (hz : (next s' ms[d + k]).1 = 0) :
    Runs next most s ms d (k + 1) (next s' ms[d + k]).2 := by
  refine ⟨by omega, by omega, ?_⟩
  rw [h.2.2, List.drop_eq_getElem_cons h2, show most - k = (most - (k + 1)) + 1 by omega, runs_ok next _ _ _ _ hz]
  simp [Nat.add_assoc, Nat.add_comm 1]

/-- What a run leaves. -/
def RunPost (S : Nat → Prop) (σ : Type) (I : σ → World → Prop) (next : σ → Mv → Int × σ) (g : Nat) (A : Option Addr) (c d B : Nat) (ms : List Mv) (s : σ) (most : Nat) (w : World) (e : Ending) (w' : World) : Prop :=
  ∃ r, runs next most s (ms.drop d) = r ∧ e = .returned (.tuple #[.int .i64 r.1, .int .i64 r.2.1]) ∧ I r.2.2 w' ∧ JobAt w' B g A ms.length c (ms.flatMap Mv.enc) (d + r.1) ∧ Only (fun k => S k ∨ k = g) w w'

set_option maxHeartbeats 1600000 in
theorem run_any (f : Nat) (caps : Array Value) (S R : Nat → Prop) (σ : Type) (I : σ → World → Prop) (next : σ → Mv → Int × σ) (hdo : DoSpec f caps S R σ I next) (eg : ∀ args w, (callFunc f args).run Try.prog w = .ok (.enter f args) w)
    (g : Nat) (A : Option Addr) (c d B : Nat) (ms : List Mv) (s : σ) (most : Nat) (w : World) (hj : JobAt w B g A ms.length c (ms.flatMap Mv.enc) d) (hn : ms.length ≤ 1048576) (hm : most ≤ 1048576) (hI : I s w)
    (hSg : ¬ S g) (hRg : ¬ R g) (hSA : ∀ k, (Value.slice A ms.length c).ownBlock = some k → ¬ S k) :
    Calls Try.prog 12 #[.pointer (some ⟨g, 0, none⟩), .func (.func f) #[] caps, .int .i64 most] w (RunPost S σ I next g A c d B ms s most w) := by
  have qn := eqlFn
  have HR := hide (Runs.start next most s ms d hj.2.2.2)
  have HJ := hide hj
  have HI := hide hI
  clear hI hj
  go_enter Try.func12, Try.ntmps12
  go_wp2
  go_loopw [8] (fun n wr => ∃ k s', n = .int .i64 ((k : Nat) : Int) ∧ Hid (Runs next most s ms d k s') ∧ Hid (I s' wr) ∧ Hid (JobAt wr B g A ms.length c (ms.flatMap Mv.enc) (d + k)) ∧ Hid (Only (fun k => S k ∨ k = g) w wr)) (fun n _ => most - (intOf n).toNat)
  case atStart => exact ⟨0, s, rfl, HR, HI, HJ, hide (Only.refl _ _)⟩
  case round =>
    obtain ⟨k, s', rfl, hr, hI, hj, hO⟩ := hrel
    clear HR HJ HI
    have hk1 := hr.out.1
    have hk2 := hr.out.2.1
    by_cases hlt : k < most
    · by_cases hl : d + k < ms.length
      · have hlI : (k : Int) < (most : Int) := by omega
        have hpos : (0 : Int) < (ms.length : Int) - ((d + k : Nat) : Int) := by omega
        by_cases hz : (next s' ms[d + k]).1 = 0
        · go_wp2_with fail
          refine (left_any g A ms.length c (d + k) wr hj.out.1 hk2 hn).mono ?_
          rintro e w1 ⟨rfl, q, rfl⟩
          go_wp2_with fail
          refine (step_ok f caps S R σ I next hdo eg g A c (d + k) B ms s' _ (hj.out.drewN q) hl hn (hdo.1 _ _ _ hI.out ((Only.refl _ _).drewN q)) hSg hRg hSA hz).mono ?_
          rintro e w2 ⟨rfl, hI2, hj2, hO2⟩
          have HI2 := hide hI2
          have HJ2 := hide hj2
          have HO2 := hide ((hO.out.drewN q).trans hO2)
          clear hI2 hj2 hO2
          go_wp2
          go_roundw
          case rel => exact ⟨k + 1, _, by go_num, hide (hr.out.step hlt hl hz), HI2, HJ2, HO2⟩
          case measure => simp [intOf]; omega
        · have hzb : ((next s' ms[d + k]).1 != 0) = true := by simpa using hz
          go_wp2_with fail
          refine (left_any g A ms.length c (d + k) wr hj.out.1 hk2 hn).mono ?_
          rintro e w1 ⟨rfl, q, rfl⟩
          go_wp2_with fail
          refine (step_some f caps S R σ I next hdo eg g A c (d + k) B ms s' _ (hj.out.drewN q) hl hn (hdo.1 _ _ _ hI.out ((Only.refl _ _).drewN q)) hSg hRg hSA hz).mono ?_
          rintro e w2 ⟨rfl, hI2, hj2, hO2⟩
          have HI2 := hide hI2
          have HJ2 := hide hj2
          have HO2 := hide ((hO.out.drewN q).trans (hO2.mono fun _ _ h => .inl h))
          clear hI2 hj2 hO2
          go_wp2
          go_ret2
          exact ⟨_, hr.out.fall hlt hl hz, rfl, HI2.out, HJ2.out, HO2.out⟩
      · have hlI : (k : Int) < (most : Int) := by omega
        have hpos : ¬ (0 : Int) < (ms.length : Int) - ((d + k : Nat) : Int) := by omega
        go_wp2_with fail
        refine (left_any g A ms.length c (d + k) wr hj.out.1 hk2 hn).mono ?_
        rintro e w1 ⟨rfl, q, rfl⟩
        go_wp2
        go_ret2
        exact ⟨_, hr.out.stop (.inr (by omega)), rfl, hdo.1 _ _ _ hI.out ((Only.refl _ _).drewN q), hj.out.drewN q, hO.out.drewN q⟩
    · have hlI : ¬ (k : Int) < (most : Int) := by omega
      go_wp2
      go_ret2
      exact ⟨_, hr.out.stop (.inl (by omega)), rfl, hI.out, hj.out, hO.out⟩

theorem run_nil (g : Nat) (m : Int) (w : World) :
    Calls Try.prog 12 #[.pointer (some ⟨g, 0, none⟩), .nilFunc, .int .i64 m] w fun e w' => e = .returned (.tuple #[.int .i64 0, .int .i64 1]) ∧ w = w' := by
  have qn := eqlNil
  go_enter Try.func12, Try.ntmps12
  go_wp2
  go_ret2
  exact ⟨rfl, rfl⟩
end Go.Proofs.Ytggnkgddblpicaa
