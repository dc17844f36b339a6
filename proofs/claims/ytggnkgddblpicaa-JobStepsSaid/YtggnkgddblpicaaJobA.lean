/- Contracts of slices.Clone, job.New, Left and Peek over the words for memory. Conditions: the lengths are at most 2^20, the cells are those of moves. -/
import Derived.Test.YtggnkgddblpicaaProg
import Derived.Test.YtggnkgddblpicaaWords
import Derived.WalkSpells
import Derived.WalkLawsBesides
import Derived.Outline
import Derived.StillTailTactics
import Derived.Deep.QuietTactic
import Derived.BigQuiet
import Derived.Deep.RegionHeld3
import Derived.KernelRfl
import Derived.Lib.SliceRun
namespace Go.Proofs.Ytggnkgddblpicaa
open Go.RowKit Go.WideShapes Go.ChangeShapes

def M9 : List (Option IntKind) := [some .i64, some .i64, none, some .u64, some .u64, some .u64, some .u64, some .i64, some .i64]
theorem flatMove : flatOf Try.prog 20 38 = some M9 := by kernel_rfl
theorem infoMove : (Try.prog.info? 38).map (fun i => (i.size, i.bytes, i.zero.map (·.cells.size))) = some (9, 72, some 9) := by kernel_rfl

theorem infoMove' : ∃ i, Try.prog.info? 38 = some i ∧ i.zero = some (.agg #[.int .i64 0, .int .i64 0, .bool false, .int .u64 0, .int .u64 0, .int .u64 0, .int .u64 0, .int .i64 0, .int .i64 0]) ∧ i.size = 9 ∧ i.bytes = 72 := ⟨Try.t38, by kernel_rfl, by kernel_rfl, by kernel_rfl, by kernel_rfl⟩
set_option maxHeartbeats 400000 in
theorem clone_any (A : Option Addr) (n c : Nat) (xs : List Value) (w : World) (hr : Reads w w.heap.size 9 A n xs) (h1 : ∀ u ∈ xs, u.oneCell' = true) (hn : n ≤ 1048576) :
    Calls Try.prog 28 #[.slice A n c] w fun e w' => ∃ A' c', e = .returned (.slice A' n c') ∧ w'.ownsRow w.heap.size 38 9 (.slice A' n c') n xs ∧ Below w.heap.size w w' := by
  have qT : ∀ (w : World) (a : Option Addr) (n c n' c' : Nat), (binOp .eql 22 (.slice a n c) (.slice none n' c')).run Try.prog w = .ok (.bool a.isNone) w := fun w a n c n' c' => Lib.run_eql_slice_nil w _ _ a n c n' c' Try.underlying22
  go_enter Try.func28, Try.ntmps28
  obtain ⟨i0, hi0, hz0, hz1, hz2⟩ := infoMove'
  go_wp2_with (at_builtin; refine wpList_append_any _ rfl (.tmp 5) (.tmp 6) _ rfl w.heap.size 38 i0 _ 9 72 Try.underlying22 hi0 hz0 hz1 hz2 rfl (by omega) (.slice (some ⟨w.heap.size, 0, none⟩) 0 0) 0 [] rfl ?_ w.heap.size A n c xs rfl ?_ h1 ?_ ?_ ?_ ?_)
  · rename_i hnil
    go_ret
    have hn0 : n = 0 := by
      rcases Nat.eq_zero_or_pos n with h0 | h0
      · exact h0
      · obtain ⟨ad, e, _⟩ := hr.2 h0; subst e; simp at hnil
    subst hn0
    have hx : xs = [] := List.eq_nil_of_length_eq_zero (by simpa using hr.1)
    subst hx
    exact ⟨_, _, rfl, World.ownsRow_nil _ _ _ _, Below.refl _ _⟩
  · exact ⟨by simp, .inr ⟨w.heap.size, 0, #[], rfl, Nat.le_refl _, heap_alloc_new w _, Nat.le_refl _, Nat.zero_le _, rfl, rfl⟩⟩
  · exact hr.alloc (Nat.le_refl _) _
  · simp only [maxLen]; omega
  · omega
  · simp
  · intro v' w' hown hg _
    obtain ⟨A', c', rfl⟩ := ownsRow_form hown
    go_wp2
    go_ret
    exact ⟨_, _, rfl, hown, ((Below.refl _ _).alloc (Nat.le_refl _) _).grown hg (by simp) (fun k hk => by simp [Value.ownBlock] at hk; omega)⟩


/-- A job at block g: its moves' cells xs (9 a move, n of them), d of them done. -/
def JobAt (w : World) (B g : Nat) (A : Option Addr) (n c : Nat) (xs : List Value) (d : Nat) : Prop :=
  Blk w g 61 #[.slice A n c, .int .i64 d] ∧ w.ownsRow B 38 9 (.slice A n c) n xs ∧ B ≤ g ∧ d ≤ n

set_option maxHeartbeats 400000 in
theorem new_any (A : Option Addr) (n c : Nat) (xs : List Value) (w : World) (hr : Reads w w.heap.size 9 A n xs) (h1 : ∀ u ∈ xs, u.oneCell' = true) (hn : n ≤ 1048576) :
    Calls Try.prog 10 #[.slice A n c] w fun e w' => ∃ g A' c', e = .returned (.pointer (some ⟨g, 0, none⟩)) ∧ JobAt w' w.heap.size g A' n c' xs 0 ∧ Below w.heap.size w w' := by
  go_enter Try.func10, Try.ntmps10
  go_wp2_with (go_at_call 28; refine (clone_any A n c xs w hr h1 hn).mono ?_; rintro e w1 ⟨A', c', rfl, hown, hb⟩)
  go_ret
  exact ⟨w1.heap.size, A', c', rfl, ⟨Blk.new _ _ _, hown.alloc _, hb.size, Nat.zero_le _⟩, hb.alloc hb.size _⟩

set_option maxHeartbeats 400000 in
theorem left_any (g : Nat) (A : Option Addr) (n c d : Nat) (w : World) (hb : Blk w g 61 #[.slice A n c, .int .i64 d]) (hd : d ≤ n) (hn : n ≤ 1048576) :
    Calls Try.prog 15 #[.pointer (some ⟨g, 0, none⟩)] w fun e w' => e = .returned (.int .i64 ((n : Int) - d)) ∧ ∃ q, w' = w.drewN q := by
  have c0 := hb.cell 0
  have c1 := hb.cell 1
  simp at c0 c1
  go_enter Try.func15, Try.ntmps15
  go_wp2
  go_quiet (fail)
  go_wp2
  go_ret
  exact ⟨rfl, _, rfl⟩


/-- A move: nine cells. -/
structure Mv where
  bank : Int
  pos : Int
  valid : Bool
  v0 : Int
  v1 : Int
  m0 : Int
  m1 : Int
  len : Int
  action : Int

def Mv.enc (m : Mv) : List Value := [.int .i64 m.bank, .int .i64 m.pos, .bool m.valid, .int .u64 m.v0, .int .u64 m.v1, .int .u64 m.m0, .int .u64 m.m1, .int .i64 m.len, .int .i64 m.action]
def Mv.val (m : Mv) : Value := .agg #[.int .i64 m.bank, .int .i64 m.pos, .bool m.valid, .int .u64 m.v0, .int .u64 m.v1, .int .u64 m.m0, .int .u64 m.m1, .int .i64 m.len, .int .i64 m.action]
def Mv.zero : Mv := ⟨0, 0, false, 0, 0, 0, 0, 0, 0⟩

theorem chain9 {W : World} {B : Nat} {a0 a1 a2 a3 a4 a5 a6 a7 a8 : Value} (h : Blk W B 38 #[a0, a1, a2, a3, a4, a5, a6, a7, a8]) (v0 v1 v2 v3 v4 v5 v6 v7 v8 : Value) :
    Blk (((((((((W.setCell ⟨B, 0, none⟩ v0).setCell ⟨B, 1, none⟩ v1).setCell ⟨B, 2, none⟩ v2).setCell ⟨B, 3, none⟩ v3).setCell ⟨B, 4, none⟩ v4).setCell ⟨B, 5, none⟩ v5).setCell ⟨B, 6, none⟩ v6).setCell ⟨B, 7, none⟩ v7).setCell ⟨B, 8, none⟩ v8) B 38
      #[v0, v1, v2, v3, v4, v5, v6, v7, v8] :=
  ((((((((h.setL 0 v0).setL 1 v1).setL 2 v2).setL 3 v3).setL 4 v4).setL 5 v5).setL 6 v6).setL 7 v7).setL 8 v8

theorem aMv : ∀ w, (isAgg 38).run Try.prog w = .ok true w := fun _ => by kernel_rfl
theorem zMv : ∀ w, (Go.sizeOf 38).run Try.prog w = .ok 9 w := fun _ => by kernel_rfl

theorem own_cells {w : World} {B n c : Nat} {A : Option Addr} {xs : List Value} (h : w.ownsRow B 38 9 (.slice A n c) n xs) (hn : 0 < n) :
    ∃ g', A = some ⟨g', 0, none⟩ ∧ B ≤ g' ∧ g' < w.heap.size ∧ ∀ j u, xs[j]? = some u → w.cell? ⟨g', j, none⟩ = some u := by
  obtain ⟨g', cap, hv, hb, hlt⟩ := h.form hn
  have hA : A = some ⟨g', 0, none⟩ := by injection hv
  refine ⟨g', hA, hb, hlt, fun j u hu => ?_⟩
  subst hA
  have := h.cells (g := g') rfl j u hu
  rwa [Addr.add_lit, Nat.zero_add] at this

theorem enc_at (ms : List Mv) (d : Nat) (hd : d < ms.length) (j : Nat) (hj : j < 9) : (ms.flatMap Mv.enc)[d * 9 + j]? = (ms[d].enc)[j]? := by
  induction ms generalizing d with
  | nil => simp at hd
  | cons m ms ih =>
    have hl : m.enc.length = 9 := rfl
    cases d with
    | zero => simp only [List.flatMap_cons, Nat.zero_mul, Nat.zero_add]; rw [List.getElem?_append_left (by omega)]; rfl
    | succ d =>
      simp only [List.flatMap_cons]
      rw [List.getElem?_append_right (by omega), hl, show (d + 1) * 9 + j - 9 = d * 9 + j by omega, ih d (by simpa using hd)]
      simp

set_option maxHeartbeats 400000 in
theorem peek_some (g : Nat) (A : Option Addr) (c d B : Nat) (ms : List Mv) (w : World) (hj : JobAt w B g A ms.length c (ms.flatMap Mv.enc) d) (hd : d < ms.length) (hn : ms.length ≤ 1048576) :
    Calls Try.prog 14 #[.pointer (some ⟨g, 0, none⟩)] w fun e w' => e = .returned (.tuple #[ms[d].val, .bool true]) ∧ Below w.heap.size w w' := by
  obtain ⟨hb, hown, hB, _⟩ := hj
  obtain ⟨g', rfl, hBg, hlt, hc⟩ := own_cells hown (by omega)
  have hgw := hb.lt
  have k0 : ∀ o, (w.alloc o).cell? ⟨g, 0, none⟩ = some (.slice (some ⟨g', 0, none⟩) ms.length c) := fun o => (World.cell?_alloc_past _ _ _ hgw).trans (by rw [hb.cell]; rfl)
  have k1 : ∀ o, (w.alloc o).cell? ⟨g, 1, none⟩ = some (.int .i64 d) := fun o => (World.cell?_alloc_past _ _ _ hgw).trans (by rw [hb.cell]; rfl)
  have e (j : Nat) (hj : j < 9) (o : Obj) : (w.alloc o).cell? ⟨g', d * 9 + j, none⟩ = ms[d].enc[j]? := by
    rw [World.cell?_alloc_past _ _ _ (by exact hlt)]
    have h1 := enc_at ms d hd j hj
    have h2 : ms[d].enc[j]? = some (ms[d].enc[j]'hj) := List.getElem?_eq_getElem _
    rw [h2] at h1 ⊢
    exact hc _ _ h1
  have e0 := e 0 (by omega); have e1 := e 1 (by omega); have e2 := e 2 (by omega); have e3 := e 3 (by omega); have e4 := e 4 (by omega); have e5 := e 5 (by omega); have e6 := e 6 (by omega); have e7 := e 7 (by omega); have e8 := e 8 (by omega)
  simp only [Mv.enc, List.getElem?_cons_zero, List.getElem?_cons_succ, Nat.add_zero] at e0 e1 e2 e3 e4 e5 e6 e7 e8
  clear e hc
  go_enter Try.func14, Try.ntmps14
  go_wp2_with (go_at_call 15; refine (left_any g _ _ c d _ (hb.alloc _) (by omega) hn).mono ?_; rintro e w1 ⟨rfl, q, rfl⟩)
  go_region
  go_wp2
  refine bodyPost_ret (results_blk_tmp (g := w.heap.size) (t := 38) (cs := ms[d].enc.toArray) rfl rfl ?_ aMv zMv) rfl ⟨rfl, ?_⟩
  · exact chain9 ((Blk.new w 38 _).drewN _) _ _ _ _ _ _ _ _ _
  · repeat (with_reducible (first | refine Below.setCell ?_ ?_ _ | refine below_drewN ?_ _ | refine Below.alloc ?_ ?_ _ | exact Below.refl _ _))
    all_goals exact Nat.le_refl _

theorem peek_end (g : Nat) (A : Option Addr) (n c d : Nat) (w : World) (hb : Blk w g 61 #[.slice A n c, .int .i64 d]) (hd : d = n) (hn : n ≤ 1048576) :
    Calls Try.prog 14 #[.pointer (some ⟨g, 0, none⟩)] w fun e w' => e = .returned (.tuple #[Mv.zero.val, .bool false]) ∧ Below w.heap.size w w' := by
  go_enter Try.func14, Try.ntmps14
  go_wp2_with (go_at_call 15; refine (left_any g A n c d _ (hb.alloc _) (by omega) hn).mono ?_; rintro e w1 ⟨rfl, q, rfl⟩)
  refine bodyPost_ret (results_blk_tmp (g := w.heap.size) (t := 38) (cs := Mv.zero.enc.toArray) rfl rfl ?_ aMv zMv) rfl ⟨rfl, ?_⟩
  · exact chain9 ((Blk.new w 38 _).drewN _) _ _ _ _ _ _ _ _ _
  · repeat (with_reducible (first | refine Below.setCell ?_ ?_ _ | refine below_drewN ?_ _ | refine Below.alloc ?_ ?_ _ | exact Below.refl _ _))
    all_goals exact Nat.le_refl _
end Go.Proofs.Ytggnkgddblpicaa
