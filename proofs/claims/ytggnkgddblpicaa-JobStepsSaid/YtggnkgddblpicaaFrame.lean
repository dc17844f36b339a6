/- What the proofs of the six rows share: an argument that is a slice of moves, of writes or of bytes, opened; an argument read again behind the call. Conditions: none. -/
import Derived.Test.YtggnkgddblpicaaRows
import Derived.Test.YtggnkgddblpicaaJobD
import Derived.ProofKit
import Derived.SizedLaws
import Derived.Carry
namespace Go.Proofs.Ytggnkgddblpicaa
open Go.ChangeShapes Go.WideShapes Go.ChangeAt Go.RowKit

theorem own : ownKnob Try.prog.godebug = none := by kernel_rfl
theorem laidOut : laidOutB Try.prog = true := by kernel_rfl

theorem fits_int {k : IntKind} {ks : List (Option IntKind)} {cs : List Value} (h : Fits (some k :: ks) cs) : ∃ n r, cs = .int k n :: r ∧ (Lit.int k n).wf = true ∧ Fits ks r := by
  cases cs with
  | nil => exact h.elim
  | cons c r => obtain ⟨⟨n, rfl, hw⟩, h2⟩ := h; exact ⟨n, r, rfl, hw, h2⟩
theorem fits_bool {ks : List (Option IntKind)} {cs : List Value} (h : Fits (none :: ks) cs) : ∃ b r, cs = .bool b :: r ∧ Fits ks r := by
  cases cs with
  | nil => exact h.elim
  | cons c r => obtain ⟨⟨b, rfl⟩, h2⟩ := h; exact ⟨b, r, rfl, h2⟩
theorem fits_nil {cs : List Value} (h : Fits [] cs) : cs = [] := by
  cases cs with
  | nil => rfl
  | cons c r => exact h.elim
theorem mv_of_fits {cs : List Value} (h : Fits M9 cs) : ∃ m : Mv, cs = m.enc := by
  obtain ⟨x0, r0, e0, _, h0⟩ := fits_int h
  obtain ⟨x1, r1, e1, _, h1⟩ := fits_int h0
  obtain ⟨x2, r2, e2, h2⟩ := fits_bool h1
  obtain ⟨x3, r3, e3, _, h3⟩ := fits_int h2
  obtain ⟨x4, r4, e4, _, h4⟩ := fits_int h3
  obtain ⟨x5, r5, e5, _, h5⟩ := fits_int h4
  obtain ⟨x6, r6, e6, _, h6⟩ := fits_int h5
  obtain ⟨x7, r7, e7, _, h7⟩ := fits_int h6
  obtain ⟨x8, r8, e8, _, h8⟩ := fits_int h7
  have e9 := fits_nil h8
  subst e9 e8 e7 e6 e5 e4 e3 e2 e1 e0
  exact ⟨⟨x0, x1, x2, x3, x4, x5, x6, x7, x8⟩, rfl⟩
theorem mvs_of {css : List (List Value)} (h : ∀ cs ∈ css, Fits M9 cs) : ∃ ms : List Mv, css.flatten = ms.flatMap Mv.enc ∧ css.length = ms.length := by
  induction css with
  | nil => exact ⟨[], rfl, rfl⟩
  | cons cs css ih =>
    obtain ⟨m, hm⟩ := mv_of_fits (h cs (by simp))
    obtain ⟨ms, h1, h2⟩ := ih (fun x hx => h x (by simp [hx]))
    exact ⟨m :: ms, by simp [hm, h1], by simp [h2]⟩

/-- A slice of moves among the arguments, opened. -/
theorem open_moves {H : Type} {enc : TypeId × Value → H} {w : World} {base b0 : Nat} {spare : Nat → Bool} {held : Bool} {r : Reach} {v : Value} {dd : DataW H} {p : List MemPlace}
    (hv : Value.okWide Try.prog w r b0 22 v) (h : DataW.Trod enc Try.prog w base spare held 22 v dd p) :
    ∃ (A : Option Addr) (n c : Nat) (ms : List Mv), v = .slice A n c ∧ ms.length = n ∧ Reads w w.heap.size 9 A n (ms.flatMap Mv.enc) ∧ n ≤ c ∧ c ≤ maxLen := by
  obtain ⟨A, n, c, css, rfl, hlen, hfit, hr, hnc, hc⟩ := reads_of_trod Try.underlying22 flatMove (by decide) hv h
  obtain ⟨ms, h1, h2⟩ := mvs_of hfit
  rw [h1] at hr
  exact ⟨A, n, c, ms, rfl, by omega, hr, hnc, hc⟩

theorem w_of_fits {cs : List Value} (h : Fits W8 cs) : ∃ m : Mv, cs = m.wenc := by
  obtain ⟨x0, r0, e0, _, h0⟩ := fits_int h
  obtain ⟨x1, r1, e1, h1⟩ := fits_bool h0
  obtain ⟨x2, r2, e2, _, h2⟩ := fits_int h1
  obtain ⟨x3, r3, e3, _, h3⟩ := fits_int h2
  obtain ⟨x4, r4, e4, _, h4⟩ := fits_int h3
  obtain ⟨x5, r5, e5, _, h5⟩ := fits_int h4
  obtain ⟨x6, r6, e6, _, h6⟩ := fits_int h5
  obtain ⟨x7, r7, e7, _, h7⟩ := fits_int h6
  have e8 := fits_nil h7
  subst e8 e7 e6 e5 e4 e3 e2 e1 e0
  exact ⟨⟨0, x0, x1, x2, x3, x4, x5, x6, x7⟩, rfl⟩
theorem ws_of {css : List (List Value)} (h : ∀ cs ∈ css, Fits W8 cs) : ∃ ms : List Mv, css.flatten = ms.flatMap Mv.wenc ∧ css.length = ms.length := by
  induction css with
  | nil => exact ⟨[], rfl, rfl⟩
  | cons cs css ih =>
    obtain ⟨m, hm⟩ := w_of_fits (h cs (by simp))
    obtain ⟨ms, h1, h2⟩ := ih (fun x hx => h x (by simp [hx]))
    exact ⟨m :: ms, by simp [hm, h1], by simp [h2]⟩
/-- A slice of writes among the arguments, opened. -/
theorem open_writes {H : Type} {enc : TypeId × Value → H} {w : World} {base b0 : Nat} {spare : Nat → Bool} {held : Bool} {r : Reach} {v : Value} {dd : DataW H} {p : List MemPlace}
    (hv : Value.okWide Try.prog w r b0 48 v) (h : DataW.Trod enc Try.prog w base spare held 48 v dd p) :
    ∃ (A : Option Addr) (n c : Nat) (ms : List Mv), v = .slice A n c ∧ ms.length = n ∧ Reads w w.heap.size 8 A n (ms.flatMap Mv.wenc) ∧ n ≤ c ∧ c ≤ maxLen := by
  obtain ⟨A, n, c, css, rfl, hlen, hfit, hr, hnc, hc⟩ := reads_of_trod Try.underlying48 flatWrite (by decide) hv h
  obtain ⟨ms, h1, h2⟩ := ws_of hfit
  rw [h1] at hr
  exact ⟨A, n, c, ms, rfl, by omega, hr, hnc, hc⟩
/-- A slice of bytes among the arguments, opened. -/
theorem flatByte : flatOf Try.prog 20 5 = some [some .u8] := by kernel_rfl
theorem bs_of {css : List (List Value)} (h : ∀ cs ∈ css, Fits [some .u8] cs) : ∃ xs : List Nat, css.flatten = xs.map (fun x : Nat => Value.int .u8 (x : Int)) ∧ css.length = xs.length ∧ ∀ x ∈ xs, x ≤ 255 := by
  induction css with
  | nil => exact ⟨[], rfl, rfl, by simp⟩
  | cons cs css ih =>
    obtain ⟨x, r, e, hw, h1⟩ := fits_int (h cs (by simp))
    have e1 := fits_nil h1
    subst e1; subst e
    have hx : 0 ≤ x ∧ x ≤ 255 := by simpa [Lit.wf, IntKind.min, IntKind.max, IntKind.signed, IntKind.bits] using hw
    obtain ⟨k, rfl⟩ := Int.eq_ofNat_of_zero_le hx.1
    obtain ⟨xs, h2, h3, h4⟩ := ih (fun y hy => h y (by simp [hy]))
    refine ⟨k :: xs, by simp [h2], by simp [h3], fun y hy => ?_⟩
    rcases List.mem_cons.1 hy with rfl | hy
    · omega
    · exact h4 y hy
theorem open_bytes {H : Type} {enc : TypeId × Value → H} {w : World} {base b0 : Nat} {spare : Nat → Bool} {held : Bool} {r : Reach} {v : Value} {dd : DataW H} {p : List MemPlace}
    (hv : Value.okWide Try.prog w r b0 54 v) (h : DataW.Trod enc Try.prog w base spare held 54 v dd p) :
    ∃ (A : Option Addr) (n c : Nat) (xs : List Nat), v = .slice A n c ∧ xs.length = n ∧ (∀ x ∈ xs, x ≤ 255) ∧ Reads w w.heap.size 1 A n (xs.map (fun x : Nat => Value.int .u8 (x : Int))) ∧ n ≤ c ∧ c ≤ maxLen := by
  obtain ⟨A, n, c, css, rfl, hlen, hfit, hr, hnc, hc⟩ := reads_of_trod Try.underlying54 flatByte (by decide) hv h
  obtain ⟨xs, h1, h2, h3⟩ := bs_of hfit
  rw [h1] at hr
  exact ⟨A, n, c, xs, rfl, by omega, h3, hr, hnc, hc⟩

/-- An argument reads behind the call as before. -/
theorem again {H : Type} {enc : TypeId × Value → H} {t : TypeId} (hr : Try.prog.readableRec t = true) (hrow : t < Try.prog.types.size) {W W' : World} {v : Value} {d : DataW H} {ps before : List MemPlace} {sp : Nat → Bool}
    (h : DataW.Trod enc Try.prog W 0 (fun _ => true) true t v d ps) (hb : Below W.heap.size W W') (hlt : ∀ x ∈ before, x.block < W.heap.size) (hsp : ∀ x ∈ before, sp x.block = true) (hsub : ∀ x ∈ ps, x ∈ before) :
    DataW.Trod enc Try.prog W' 0 sp true t v d ps :=
  WideElems.Trod_stays laidOut hr hrow h (fun x hx => hb.same (hlt x (hsub x hx))) (fun x hx => hsp x (hsub x hx))
end Go.Proofs.Ytggnkgddblpicaa
