/- The law's helper same, and the closure of job.Of, with the equality of two moves. Conditions: at most 2^20 moves. -/
import Derived.Test.YtggnkgddblpicaaJobC
namespace Go.Proofs.Ytggnkgddblpicaa
open Go.RowKit Go.WideShapes Go.ChangeShapes

/-- A write: a move without its bank. -/
def Mv.wenc (m : Mv) : List Value := [.int .i64 m.pos, .bool m.valid, .int .u64 m.v0, .int .u64 m.v1, .int .u64 m.m0, .int .u64 m.m1, .int .i64 m.len, .int .i64 m.action]
def Mv.wval (m : Mv) : Value := .agg #[.int .i64 m.pos, .bool m.valid, .int .u64 m.v0, .int .u64 m.v1, .int .u64 m.m0, .int .u64 m.m1, .int .i64 m.len, .int .i64 m.action]

theorem kindsMv (m : Mv) : Kinds M9 m.enc := ⟨⟨_, rfl⟩, ⟨_, rfl⟩, ⟨_, rfl⟩, ⟨_, rfl⟩, ⟨_, rfl⟩, ⟨_, rfl⟩, ⟨_, rfl⟩, ⟨_, rfl⟩, ⟨_, rfl⟩, trivial⟩
def W8 : List (Option IntKind) := [some .i64, none, some .u64, some .u64, some .u64, some .u64, some .i64, some .i64]
theorem kindsW (m : Mv) : Kinds W8 m.wenc := ⟨⟨_, rfl⟩, ⟨_, rfl⟩, ⟨_, rfl⟩, ⟨_, rfl⟩, ⟨_, rfl⟩, ⟨_, rfl⟩, ⟨_, rfl⟩, ⟨_, rfl⟩, trivial⟩
theorem flatWrite : flatOf Try.prog 20 36 = some W8 := by kernel_rfl
def Mv.same (a b : Mv) : Bool := sameL a.enc b.enc
theorem Mv.same_iff (a b : Mv) : a.same b = true ↔ a = b := by
  rw [Mv.same, sameL_iff (kindsMv a) (kindsMv b)]
  constructor
  · intro h
    cases a; cases b
    simp only [Mv.enc, List.cons.injEq, Value.int.injEq, Value.bool.injEq, true_and, and_true] at h
    obtain ⟨h0, h1, h2, h3, h4, h5, h6, h7, h8⟩ := h
    subst h0 h1 h2 h3 h4 h5 h6 h7 h8
    rfl
  · rintro rfl; rfl
theorem aggMove : (Try.prog.underlying 38 matches some (.struct _)) = true := by kernel_rfl
theorem aggWrite : (Try.prog.underlying 36 matches some (.struct _)) = true := by kernel_rfl
theorem neqMv (a b : Mv) (w : World) : (binOp .neq 38 a.val b.val).run Try.prog w = .ok (.bool (!a.same b)) w := run_neq_flat w flatMove (by omega) (.inl aggMove) (kindsMv a) (kindsMv b)
theorem eqlMv (a b : Mv) (w : World) : (binOp .eql 38 a.val b.val).run Try.prog w = .ok (.bool (a.same b)) w := run_eql_flat w flatMove (by omega) (.inl aggMove) (kindsMv a) (kindsMv b)
theorem neqW (a b : Mv) (w : World) : (binOp .neq 36 a.wval b.wval).run Try.prog w = .ok (.bool (!sameL a.wenc b.wenc)) w := run_neq_flat w flatWrite (by omega) (.inl aggWrite) (kindsW a) (kindsW b)

theorem of1_any (m : Mv) (at_ : Int) (B : Nat) (w : World) (hb : Blk w B 3 #[.int .i64 at_]) :
    Calls Try.prog 29 #[m.wval, .pointer (some ⟨B, 0, none⟩)] w fun e w' => e = .returned ({ m with bank := at_ } : Mv).val ∧ Below w.heap.size w w' := by
  have c0 := hb.cell 0
  have hlt := hb.lt
  simp at c0
  have k0 : ∀ o o', ((w.alloc o).alloc o').cell? ⟨B, 0, none⟩ = some (.int .i64 at_) := fun o o' => by
    rw [World.cell?_alloc_past _ _ _ (by simp; omega), World.cell?_alloc_past _ _ _ hlt]; exact c0
  go_enter Try.func29, Try.ntmps29
  simp only [Mv.wval]
  go_wp2
  refine bodyPost_ret (results_blk (g := w.heap.size + 1) (t := 38) (cs := #[.int .i64 at_, .int .i64 m.pos, .bool m.valid, .int .u64 m.v0, .int .u64 m.v1, .int .u64 m.m0, .int .u64 m.m1, .int .i64 m.len, .int .i64 m.action]) rfl rfl ?_ aMv zMv) rfl ⟨rfl, ?_⟩
  · exact Blk.newAt 38 _ (by simp)
  · exact ((Below.refl _ _).alloc (Nat.le_refl _) _).alloc (by simp) _


theorem mv_cells {w : World} {b off : Nat} {ms : List Mv} (h : ∀ j u, (ms.flatMap Mv.enc)[j]? = some u → w.cell? ⟨b, off + j, none⟩ = some u) {k : Nat} (hk : k < ms.length) :
    w.cell? ⟨b, off + k * 9, none⟩ = some (.int .i64 ms[k].bank) ∧ w.cell? ⟨b, off + k * 9 + 1, none⟩ = some (.int .i64 ms[k].pos) ∧ w.cell? ⟨b, off + k * 9 + 2, none⟩ = some (.bool ms[k].valid) ∧
    w.cell? ⟨b, off + k * 9 + 3, none⟩ = some (.int .u64 ms[k].v0) ∧ w.cell? ⟨b, off + k * 9 + 4, none⟩ = some (.int .u64 ms[k].v1) ∧ w.cell? ⟨b, off + k * 9 + 5, none⟩ = some (.int .u64 ms[k].m0) ∧
    w.cell? ⟨b, off + k * 9 + 6, none⟩ = some (.int .u64 ms[k].m1) ∧ w.cell? ⟨b, off + k * 9 + 7, none⟩ = some (.int .i64 ms[k].len) ∧ w.cell? ⟨b, off + k * 9 + 8, none⟩ = some (.int .i64 ms[k].action) := by
  have e : ∀ j (hj : j < 9), w.cell? ⟨b, off + k * 9 + j, none⟩ = ms[k].enc[j]? := fun j hj => by
    have h1 := enc_at ms k hk j hj
    have h2 : ms[k].enc[j]? = some (ms[k].enc[j]'hj) := List.getElem?_eq_getElem _
    rw [h2] at h1 ⊢
    rw [Nat.add_assoc]
    exact h _ _ h1
  exact ⟨e 0 (by omega), e 1 (by omega), e 2 (by omega), e 3 (by omega), e 4 (by omega), e 5 (by omega), e 6 (by omega), e 7 (by omega), e 8 (by omega)⟩

theorem same_ne (A A' : Option Addr) (n n' c c' : Nat) (w : World) (hne : n ≠ n') :
    Calls Try.prog 19 #[.slice A n c, .slice A' n' c'] w fun e w' => e = .returned (.bool false) ∧ ∃ q, w' = w.drewN q := by
  have hne : ((n : Int) != (n' : Int)) = true := by rw [bne_iff_ne]; omega
  go_enter Try.func19, Try.ntmps19
  go_wp2
  go_ret
  exact ⟨rfl, 0, rfl⟩

set_option maxHeartbeats 1600000 in
theorem same_any (A A' : Option Addr) (n c c' B : Nat) (ms ms' : List Mv) (w : World) (hr : Reads w B 9 A n (ms.flatMap Mv.enc)) (hr' : Reads w B 9 A' n (ms'.flatMap Mv.enc)) (hn : n ≤ 1048576) (b : Bool) (hb : b = true ↔ ms = ms') :
    Calls Try.prog 19 #[.slice A n c, .slice A' n c'] w fun e w' => e = .returned (.bool b) ∧ ∃ q, w' = w.drewN q := by
  have hl : Hid (ms.length = n) := by have := hr.1; rw [enc_length] at this; exact (by omega : ms.length = n)
  have hl' : Hid (ms'.length = n) := by have := hr'.1; rw [enc_length] at this; exact (by omega : ms'.length = n)
  have HB := hide hb
  clear hb
  go_enter Try.func19, Try.ntmps19
  go_wp2
  go_loopw [13] (fun i wr => ∃ k : Nat, k ≤ n ∧ i = .int .i64 ((k : Nat) : Int) ∧ Hid (ms.take k = ms'.take k) ∧ Hid (∃ q, wr = w.drewN q)) (fun i _ => n - (intOf i).toNat)
  case atStart => exact ⟨0, Nat.zero_le _, rfl, hide rfl, hide ⟨0, rfl⟩⟩
  case round =>
    obtain ⟨k, hk, rfl, hp, hW⟩ := hrel
    by_cases hlt : k < n
    · have hltI : (k : Int) < (n : Int) := by omega
      obtain ⟨bb, off, rfl, hbB, hc⟩ := hr.form (by omega) (by omega)
      obtain ⟨bb', off', rfl, hbB', hc'⟩ := hr'.form (by omega) (by omega)
      obtain ⟨q, hq⟩ := hW.out
      have hk1 : k < ms.length := by have := hl.out; omega
      have hk2 : k < ms'.length := by have := hl'.out; omega
      have F := mv_cells (w := wr) (fun j u hu => by rw [hq]; exact hc j u hu) hk1
      have F' := mv_cells (w := wr) (fun j u hu => by rw [hq]; exact hc' j u hu) hk2
      have HQ := hide hq
      clear hc hc' hq hr hr' hW
      have E := neqMv ms[k] ms'[k]
      simp only [Mv.val] at E
      generalize hx : ms[k] = x at F E
      generalize hy : ms'[k] = y at F' E
      have HX := hide hx
      have HY := hide hy
      clear hx hy
      obtain ⟨f0, f1, f2, f3, f4, f5, f6, f7, f8⟩ := F
      obtain ⟨f0', f1', f2', f3', f4', f5', f6', f7', f8'⟩ := F'
      by_cases hs : x.same y = true
      · go_wp2
        go_quiet (fail)
        go_wp2
        go_roundw
        case rel =>
          refine ⟨k + 1, by omega, by go_num, hide ?_, hide ?_⟩
          · rw [List.take_succ_eq_append_getElem hk1, List.take_succ_eq_append_getElem hk2, hp.out, HX.out, HY.out, (Mv.same_iff x y).1 hs]
          · exact ⟨q + nq, by rw [HQ.out, World.drewN_drewN]⟩
        case measure => simp [intOf]; omega
      · have hs' : x.same y = false := by simpa using hs
        go_wp2
        go_quiet (fail)
        go_wp2
        go_ret
        refine ⟨?_, ⟨q + nq, by rw [HQ.out, World.drewN_drewN]⟩⟩
        have : b = false := by
          cases b with
          | false => rfl
          | true =>
            have := HB.out.1 rfl
            subst this
            exact absurd ((Mv.same_iff x y).2 (HX.out.symm.trans HY.out)) hs
        rw [this]; rfl
    · have hltI : ¬ (k : Int) < (n : Int) := by omega
      go_wp2
      go_ret
      refine ⟨?_, hW.out⟩
      have e : ms = ms' := by
        have h1 := hp.out
        rwa [List.take_of_length_le (by have := hl.out; omega), List.take_of_length_le (by have := hl'.out; omega)] at h1
      rw [HB.out.2 e]; rfl

end Go.Proofs.Ytggnkgddblpicaa
