/- The contract of job.Of. Conditions: at most 2^20 writes. -/
import Derived.Test.YtggnkgddblpicaaJobD
namespace Go.Proofs.Ytggnkgddblpicaa
open Go.RowKit Go.WideShapes Go.ChangeShapes

theorem wenc_at (ms : List Mv) (d : Nat) (hd : d < ms.length) (j : Nat) (hj : j < 8) : (ms.flatMap Mv.wenc)[d * 8 + j]? = (ms[d].wenc)[j]? := by
  induction ms generalizing d with
  | nil => simp at hd
  | cons m ms ih =>
    have hl : m.wenc.length = 8 := rfl
    cases d with
    | zero => simp only [List.flatMap_cons, Nat.zero_mul, Nat.zero_add]; rw [List.getElem?_append_left (by omega)]; rfl
    | succ d =>
      simp only [List.flatMap_cons]
      rw [List.getElem?_append_right (by omega), hl, show (d + 1) * 8 + j - 8 = d * 8 + j by omega, ih d (by simpa using hd)]
      simp
theorem wenc_length (ms : List Mv) : (ms.flatMap Mv.wenc).length = ms.length * 8 := by
  induction ms with
  | nil => rfl
  | cons m ms ih => simp only [List.flatMap_cons, List.length_append, ih, List.length_cons, Nat.succ_mul]; simp [Mv.wenc]; omega
theorem w_cells {w : World} {b off : Nat} {ms : List Mv} (h : ∀ j u, (ms.flatMap Mv.wenc)[j]? = some u → w.cell? ⟨b, off + j, none⟩ = some u) {k : Nat} (hk : k < ms.length) :
    w.cell? ⟨b, off + k * 8, none⟩ = some (.int .i64 ms[k].pos) ∧ w.cell? ⟨b, off + k * 8 + 1, none⟩ = some (.bool ms[k].valid) ∧
    w.cell? ⟨b, off + k * 8 + 2, none⟩ = some (.int .u64 ms[k].v0) ∧ w.cell? ⟨b, off + k * 8 + 3, none⟩ = some (.int .u64 ms[k].v1) ∧ w.cell? ⟨b, off + k * 8 + 4, none⟩ = some (.int .u64 ms[k].m0) ∧
    w.cell? ⟨b, off + k * 8 + 5, none⟩ = some (.int .u64 ms[k].m1) ∧ w.cell? ⟨b, off + k * 8 + 6, none⟩ = some (.int .i64 ms[k].len) ∧ w.cell? ⟨b, off + k * 8 + 7, none⟩ = some (.int .i64 ms[k].action) := by
  have e : ∀ j (hj : j < 8), w.cell? ⟨b, off + k * 8 + j, none⟩ = ms[k].wenc[j]? := fun j hj => by
    have h1 := wenc_at ms k hk j hj
    have h2 : ms[k].wenc[j]? = some (ms[k].wenc[j]'hj) := List.getElem?_eq_getElem _
    rw [h2] at h1 ⊢
    rw [Nat.add_assoc]
    exact h _ _ h1
  exact ⟨e 0 (by omega), e 1 (by omega), e 2 (by omega), e 3 (by omega), e 4 (by omega), e 5 (by omega), e 6 (by omega), e 7 (by omega)⟩

def Mv.at (b : Int) (m : Mv) : Mv := { m with bank := b }

set_option maxHeartbeats 1600000 in
theorem of_any (A : Option Addr) (n c : Nat) (at_ : Int) (ms : List Mv) (w : World) (hr : Reads w w.heap.size 8 A n (ms.flatMap Mv.wenc)) (hn : n ≤ 1048576) :
    Calls Try.prog 17 #[.int .i64 at_, .slice A n c] w fun e w' => ∃ A' c', e = .returned (.slice A' n c') ∧ w'.ownsRow (w.heap.size + 1) 38 9 (.slice A' n c') n (ms.flatMap fun m => (m.at at_).enc) ∧ Below w.heap.size w w' := by
  have hmf : ∀ (fn : Fn) (first cap : Array Value) (w : World), (Instr.makeFunc fn first cap).run Try.prog w = .ok (.func fn first cap) w := fun _ _ _ _ => rfl
  have hl : Hid (ms.length = n) := by have := hr.1; rw [wenc_length] at this; exact (by omega : ms.length = n)
  have HR := hide hr
  clear hr
  obtain ⟨i0, hi0, hz0, hz1, hz2⟩ := infoMove'
  go_enter Try.func17, Try.ntmps17
  go_wp2
  go_loopw [6, 12] (fun v i wr => ∃ (k : Nat) (A' : Option Addr) (c' : Nat), k ≤ n ∧ i = .int .i64 ((k : Nat) : Int) ∧ v = .slice A' k c' ∧ Hid (wr.ownsRow (w.heap.size + 1) 38 9 (.slice A' k c') k ((ms.take k).flatMap fun m => (m.at at_).enc)) ∧
    Hid (Blk wr w.heap.size 3 #[.int .i64 at_]) ∧ Hid (Below w.heap.size w wr)) (fun _ i _ => n - (intOf i).toNat)
  case atStart => exact ⟨0, none, 0, Nat.zero_le _, rfl, rfl, hide (World.ownsRow_nil _ _ _ _), hide (Blk.new _ _ _), hide ((Below.refl _ _).alloc (Nat.le_refl _) _)⟩
  case round =>
    obtain ⟨k, A', c', hk, rfl, rfl, hown, hbox, hbel⟩ := hrel
    by_cases hlt : k < n
    · have hltI : (k : Int) < (n : Int) := by omega
      obtain ⟨bb, off, rfl, hbB, hc⟩ := HR.out.form (by omega) (by omega)
      have hk1 : k < ms.length := by have := hl.out; omega
      have F := w_cells (w := wr) (fun j u hu => (hbel.out.cell (p := ⟨bb, off + j, none⟩) hbB).trans (hc j u hu)) hk1
      clear hc
      generalize hx : ms[k] = x at F
      have HX := hide hx
      clear hx
      obtain ⟨f0, f1, f2, f3, f4, f5, f6, f7⟩ := F
      go_wp2_with fail
      clear f0 f1 f2 f3 f4 f5 f6 f7
      refine (of1_any x at_ w.heap.size _ (hbox.out.alloc _)).mono ?_
      rintro e w1 ⟨rfl, hb1⟩
      simp only [Mv.val]
      have hs1 : wr.heap.size < w1.heap.size := by have := hb1.size; simp at this; omega
      have hbw : Below wr.heap.size wr w1 := ((Below.refl _ _).alloc (Nat.le_refl _) _).trans (hb1.mono (by simp))
      have HW := hide hbw
      have HO := hide (own_only hown.out (Only.of_below (S := fun _ => False) hbw) (fun _ _ => not_false))
      have HBx := hide (hbox.out.below hbw (hbox.out.lt))
      have HBel := hide (hbel.out.trans (hbw.mono hbel.out.size))
      clear hb1 hbw hown hbox hbel
      go_wp2_with (at_builtin; refine wpList_append_any _ rfl (.tmp 16) (.tmp 20) _ rfl (w.heap.size + 1) 38 i0 _ 9 72 Try.underlying22 hi0 hz0 hz1 hz2 rfl (by omega) (.slice A' k c') k _ rfl (HO.out.alloc _) (w1.heap.size + 1) (some ⟨w1.heap.size, 0, none⟩) 1 1 (x.at at_).enc rfl ?_ ?_ ?_ ?_ ?_ ?_)
      · refine ⟨rfl, fun _ => ⟨_, rfl, by simp, fun j u hu => ?_⟩⟩
        rw [Addr.add_lit, Nat.zero_add, (Blk.new w1 38 _).cell]
        simpa [Mv.enc, Mv.at] using hu
      · have := enc_oneCell [x.at at_]; simpa using this
      · simp only [maxLen]; omega
      · omega
      · have := HBx.out.lt; simp; omega
      · intro v' w2 hown2 hg2 _
        obtain ⟨A2, c2, rfl⟩ := ownsRow_form hown2
        have hne : some w.heap.size ≠ (Value.slice A' k c').ownBlock := fun e => by have := (HO.out.lt _ e.symm).1; omega
        have HBx2 := hide ((HBx.out.alloc (.cells (x.at at_).enc.toArray 38)).grown hg2 hne)
        have HBel2 := hide ((HBel.out.alloc HBel.out.size (.cells (x.at at_).enc.toArray 38)).grown hg2 (by have := HBx.out.lt; simp; omega) (fun g hg => by have := (HO.out.lt _ hg).1; omega))
        have HO2 := hide hown2
        clear hown2 hg2 hne
        go_wp2
        go_roundw
        case rel =>
          refine ⟨k + 1, A2, c2, by omega, by go_num, rfl, hide ?_, HBx2, HBel2⟩
          rw [List.take_succ_eq_append_getElem hk1, List.flatMap_append, HX.out]
          simpa using HO2.out
        case measure => simp [intOf]; omega
    · have hltI : ¬ (k : Int) < (n : Int) := by omega
      obtain rfl : k = n := by omega
      go_wp2
      go_ret
      have h1 := hown.out
      rw [List.take_of_length_le (by have := hl.out; omega)] at h1
      exact ⟨_, _, rfl, h1, hbel.out⟩
end Go.Proofs.Ytggnkgddblpicaa
