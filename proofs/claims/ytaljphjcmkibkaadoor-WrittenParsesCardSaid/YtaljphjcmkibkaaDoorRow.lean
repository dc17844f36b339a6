/- What the proofs of the seven rows share: what the laid variables say of the world; an address and a prefix as arguments. Conditions: none. -/
import Derived.Test.YtaljphjcmkibkaaDoorTie
import Derived.Test.YtaljphjcmkibkaaDoorCards
import Derived.Test.YtaljphjcmkibkaaDoorWW
import Derived.ProofKit
import Derived.OpenShut
import Derived.LaidMore
import Derived.LaidSub
import Derived.Lay
import Derived.SevenTiedAt
import Derived.Stop.Joined
import Derived.ChangeMaps5
import Derived.Carry
namespace Go.Proofs.YtaljphjcmkibkaaDoor
open Go.ChangeShapes Go.WideShapes Go.ChangeAt Go.RowKit

theorem own : ownKnob Tryd.prog.godebug = none := by kernel_rfl
theorem laidOut : laidOutB Tryd.prog = true := by kernel_rfl
def laidL : List (String × DataW Unit) := Rows.writtenNumberRow.laid
theorem wok_of {W : World} (hs : W.ShapedOpen Tryd.prog) (h : laidMetH Tryd.prog laidL W) : WOK W := by
  have h1 := h.filter (fun x => x.1 == "internal/strconv.uint64pow10")
  have h2 : laidL.filter (fun x => x.1 == "internal/strconv.uint64pow10") = [("internal/strconv.uint64pow10", Lib.tabData .u64 Lib.pow10Tab)] := by kernel_rfl
  rw [h2, MakeChecks.laidMetH_plain _ _ _ (by kernel_rfl)] at h1
  obtain ⟨m, hm⟩ := Tryd.laysM145.s1_3 W hs
  refine ⟨⟨m, hm⟩, Nat.lt_of_le_of_lt (Nat.zero_le _) (World.block_lt_of_cell? _ _ hm), Lib.tabIs_of_head (g := 3) (t := 120) (e := 22) (n := 20) (by kernel_rfl) (by kernel_rfl) (by kernel_rfl) (by kernel_rfl) (by kernel_rfl) (by kernel_rfl) h1⟩

theorem fits_int {k : IntKind} {ks : List (Option IntKind)} {cs : List Value} (h : Fits (some k :: ks) cs) : ∃ n r, cs = .int k n :: r ∧ (Lit.int k n).wf = true ∧ Fits ks r := by
  cases cs with
  | nil => exact h.elim
  | cons c r => obtain ⟨⟨n, rfl, hw⟩, h2⟩ := h; exact ⟨n, r, rfl, hw, h2⟩
theorem fits_nil {cs : List Value} (h : Fits [] cs) : cs = [] := by
  cases cs with
  | nil => rfl
  | cons c r => exact h.elim
theorem u64_nat {x : Int} (hw : (Lit.int .u64 x).wf = true) : ∃ k : Nat, x = k ∧ k < 18446744073709551616 := by
  have hx : 0 ≤ x ∧ x ≤ 18446744073709551615 := by simpa [Lit.wf, IntKind.min, IntKind.max, IntKind.signed, IntKind.bits] using hw
  exact ⟨x.toNat, by omega, by omega⟩

set_option maxRecDepth 100000 in
theorem open_ad {H : Type} {enc : TypeId × Value → H} {w : World} {base b0 : Nat} {spare : Nat → Bool} {held : Bool} {r : Reach} {v : Value} {dd : DataW H} {p : List MemPlace}
    (hv : Value.okWide Tryd.prog w r b0 24 v) (h : DataW.Trod enc Tryd.prog w base spare held 24 v dd p) : ∃ a : Ad, v = a.val ∧ a.Ok := by
  have hc : ∃ cs, v = .agg cs := by
    simp only [Value.okWide, Tryd.underlying24] at hv
    obtain ⟨cs, h1, _⟩ := hv
    exact ⟨cs, h1⟩
  obtain ⟨cs, rfl⟩ := hc
  obtain ⟨fuel, hfu⟩ := h
  obtain ⟨x, r1, e1, wx, f1⟩ := fits_int (fits_of_trod 20 flatA hfu)
  obtain ⟨y, r2, e2, wy, f2⟩ := fits_int f1
  obtain ⟨x, rfl, hx⟩ := u64_nat wx
  obtain ⟨y, rfl, hy⟩ := u64_nat wy
  have e3 := fits_nil f2
  subst e3 e2
  refine ⟨⟨x, y⟩, ?_, hx, hy⟩
  simp only [Value.cells] at e1
  rw [Ad.val, show cs = #[Value.int .u64 (x : Int), Value.int .u64 (y : Int)] from Array.toList_inj.1 e1]

set_option maxRecDepth 100000 in
theorem open_pf {H : Type} {enc : TypeId × Value → H} {w : World} {base b0 : Nat} {spare : Nat → Bool} {held : Bool} {r : Reach} {v : Value} {dd : DataW H} {p : List MemPlace}
    (hv : Value.okWide Tryd.prog w r b0 36 v) (h : DataW.Trod enc Tryd.prog w base spare held 36 v dd p) : ∃ q : Pf, v = q.val ∧ q.a.Ok := by
  obtain ⟨cs, rfl, _⟩ := okWide_struct Tryd.underlying36 hv
  obtain ⟨fuel, hfu⟩ := h
  obtain ⟨x, r1, e1, wx, f1⟩ := fits_int (fits_of_trod 20 flatP hfu)
  obtain ⟨y, r2, e2, wy, f2⟩ := fits_int f1
  obtain ⟨z, r3, e3, _, f3⟩ := fits_int f2
  obtain ⟨x, rfl, hx⟩ := u64_nat wx
  obtain ⟨y, rfl, hy⟩ := u64_nat wy
  have e4 := fits_nil f3
  subst e4 e3 e2
  refine ⟨⟨⟨x, y⟩, z⟩, ?_, hx, hy⟩
  simp only [Value.cells] at e1
  rw [Pf.val, show cs = #[Value.int .u64 (x : Int), Value.int .u64 (y : Int), Value.int .i64 z] from Array.toList_inj.1 e1]
/-- An argument reads behind the call as before. -/
theorem again {H : Type} {enc : TypeId × Value → H} {t : TypeId} (hr : Tryd.prog.readableRec t = true) (hrow : t < Tryd.prog.types.size) {W W' : World} {v : Value} {d : DataW H} {ps before : List MemPlace} {sp : Nat → Bool}
    (h : DataW.Trod enc Tryd.prog W 0 (fun _ => true) true t v d ps) (hb : Below W.heap.size W W') (hlt : ∀ x ∈ before, x.block < W.heap.size) (hsp : ∀ x ∈ before, sp x.block = true) (hsub : ∀ x ∈ ps, x ∈ before) :
    DataW.Trod enc Tryd.prog W' 0 sp true t v d ps :=
  WideElems.Trod_stays laidOut hr hrow h (fun x hx => hb.same (hlt x (hsub x hx))) (fun x hx => hsp x (hsub x hx))
end Go.Proofs.YtaljphjcmkibkaaDoor
