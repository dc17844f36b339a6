/- Words for memory: a slice that reads as a list of cells, a block known whole, an append from any source, frames; flat types (cells that are bools and integers alone): reading and equality. No condition: plain lemmas over any program. -/
import Derived.Below
import Derived.Laws.OwnMore
import Derived.Deep.AppendLies
import Derived.Deep.Draws
import Derived.Deep.OwnRows
import Derived.Laws.Rows
import Derived.Laws.AppendOwn
import Derived.Maps.AppendAt
import Derived.RegionTactic
import Derived.OwnWalk
import Derived.ChangeSame
import Derived.WalkKit
import Derived.OpenShut
import Derived.WideLaws
import Derived.DeepKeys
import Derived.Laws.MakeOwn
import Derived.Laws.Entries
import Derived.Laws.ResultCell
import Derived.Deep.Slices
import Derived.Laws.Append
namespace Go.Proofs.YtaljphjcmkibkaaDoor
open Go.RowKit Go.WideShapes Go.ChangeShapes

theorem hide {p : Prop} (h : p) : Hid p := h
theorem unhide {p : Prop} (h : Hid p) : p := h

theorem block_of_add (a : Addr) (n : Nat) : (a.add n).block = a.block := by unfold Addr.add; split <;> rfl
theorem add_of_add (a : Addr) (i j : Nat) : (a.add i).add j = a.add (i + j) := by
  unfold Addr.add
  by_cases hi : i = 0 <;> by_cases hj : j = 0 <;> simp [hi, hj, Nat.add_assoc]

def Reads (w : World) (B size : Nat) (A : Option Addr) (n : Nat) (xs : List Value) : Prop :=
  xs.length = n * size ∧ (0 < n → ∃ ad, A = some ad ∧ ad.block < B ∧ ∀ j u, xs[j]? = some u → w.cell? (ad.add j) = some u)

section
variable {w w' : World} {B B' size n : Nat} {A : Option Addr} {xs : List Value}
theorem Reads.none_ : Reads w B size A 0 [] := ⟨by simp, fun h => absurd h (by omega)⟩
theorem Reads.at_ {k : Nat} (h : Reads w B 1 A n xs) (hk : k < n) : ∃ ad u, A = some ad ∧ ad.block < B ∧ xs[k]? = some u ∧ w.cell? (ad.add k) = some u := by
  obtain ⟨ad, e, hb, hc⟩ := h.2 (by omega)
  have hl : k < xs.length := by have := h.1; omega
  exact ⟨ad, xs[k], e, hb, List.getElem?_eq_getElem hl, hc k _ (List.getElem?_eq_getElem hl)⟩
theorem Reads.keep (h : Reads w B size A n xs) (hk : ∀ p : Addr, p.block < B → w'.cell? p = w.cell? p) : Reads w' B size A n xs :=
  ⟨h.1, fun hn => by
    obtain ⟨ad, e, hb, hc⟩ := h.2 hn
    exact ⟨ad, e, hb, fun j u hu => (hk _ (by rw [block_of_add]; exact hb)).trans (hc j u hu)⟩⟩
theorem Reads.more (h : Reads w B size A n xs) (hB : B ≤ B') : Reads w B' size A n xs :=
  ⟨h.1, fun hn => by
    obtain ⟨ad, e, hb, hc⟩ := h.2 hn
    exact ⟨ad, e, by omega, hc⟩⟩
theorem Reads.below (h : Reads w B size A n xs) (hb : Below B w w') : Reads w' B size A n xs := h.keep fun _ hp => hb.cell hp
theorem Reads.drew (h : Reads w B size A n xs) : Reads w.drew B size A n xs := h
theorem Reads.drewN (h : Reads w B size A n xs) (k : Nat) : Reads (w.drewN k) B size A n xs := h
theorem Reads.alloc (h : Reads w B size A n xs) (hB : B ≤ w.heap.size) (o : Obj) : Reads (w.alloc o) B size A n xs := h.keep fun p hp => World.cell?_alloc_lt w o p (by omega)
theorem Reads.setCell (h : Reads w B size A n xs) {p : Addr} (hB : B ≤ p.block) (u : Value) : Reads (w.setCell p u) B size A n xs :=
  h.keep fun q hq => World.cell?_setCell_other w p q u (fun e => by subst e; omega)
theorem Reads.grown (h : Reads w B size A n xs) {row : Option Nat} (hg : w.grownBy w' row) (hB : B ≤ w.heap.size) (hr : ∀ g, row = some g → B ≤ g) : Reads w' B size A n xs :=
  h.keep fun p hp => World.cell?_of_block (hg.block p.block (by omega) (fun e => by have := hr _ e.symm; omega))
theorem Reads.cut (h : Reads w B size A n xs) {k cap : Nat} (hk : k ≤ n) (hc : n ≤ cap) :
    Reads w B size (if cap = k then A else A.map (·.add (k * size))) (n - k) (xs.drop (k * size)) := by
  refine ⟨by rw [List.length_drop, h.1, Nat.sub_mul], fun hn => ?_⟩
  obtain ⟨ad, rfl, hb, hcell⟩ := h.2 (by omega)
  rw [if_neg (by omega)]
  refine ⟨ad.add (k * size), rfl, by rw [block_of_add]; exact hb, fun j u hu => ?_⟩
  rw [add_of_add]
  exact hcell _ u (by rw [← hu, List.getElem?_drop])
theorem Reads.of_own {base : Nat} {e : TypeId} {c : Nat} (h : w.ownsRow base e size (.slice A n c) n xs) : Reads w w.heap.size size A n xs := by
  refine ⟨h.1, fun hn => ?_⟩
  obtain ⟨g, cap, hv, _, hlt⟩ := h.form hn
  have hA : A = some ⟨g, 0, none⟩ := by injection hv
  subst hA
  exact ⟨_, rfl, hlt, h.cells (g := g) rfl⟩
end

def Blk (w : World) (g : Nat) (t : TypeId) (cs : Array Value) : Prop := w.heap[g]? = some (.cells cs t (0, 0))

section
variable {w w' : World} {g : Nat} {t : TypeId} {cs : Array Value}
theorem Blk.lt (h : Blk w g t cs) : g < w.heap.size := by
  rcases Nat.lt_or_ge g w.heap.size with hlt | hge
  · exact hlt
  · unfold Blk at h; rw [Array.getElem?_eq_none hge] at h; cases h
theorem Blk.cell (h : Blk w g t cs) (i : Nat) : w.cell? ⟨g, i, none⟩ = cs[i]? := cell_of_row w g i cs t (0, 0) h
theorem Blk.frozen (h : Blk w g t cs) (i : Nat) : w.frozen? ⟨g, i, none⟩ = false := by
  unfold Blk at h
  simp [World.frozen?, h]
theorem Blk.new (w : World) (t : TypeId) (cs : Array Value) : Blk (w.alloc (.cells cs t)) w.heap.size t cs := heap_alloc_new w _
theorem Blk.drew (h : Blk w g t cs) : Blk w.drew g t cs := h
theorem Blk.drewN (h : Blk w g t cs) (n : Nat) : Blk (w.drewN n) g t cs := h
theorem Blk.alloc (h : Blk w g t cs) (o : Obj) : Blk (w.alloc o) g t cs := (Below.heap_alloc w o g h.lt).trans h
theorem Blk.set_ (h : Blk w g t cs) (i : Nat) (u : Value) : Blk (w.setCell ⟨g, i, none⟩ u) g t (cs.setIfInBounds i u) := by
  unfold Blk at h ⊢
  simp [World.setCell, Array.getElem?_modify, h]
theorem Blk.far (h : Blk w g t cs) {p : Addr} (hp : g ≠ p.block) (u : Value) : Blk (w.setCell p u) g t cs := (Below.heap_setCell w p u g hp).trans h
theorem Blk.below {B : Nat} (h : Blk w g t cs) (hb : Below B w w') (hg : g < B) : Blk w' g t cs := (hb.block g hg).trans h
theorem Blk.grown {row : Option Nat} (h : Blk w g t cs) (hb : w.grownBy w' row) (hg : some g ≠ row) : Blk w' g t cs := (hb.block g h.lt hg).trans h
theorem Blk.ne_ {g' : Nat} {t' : TypeId} {cs' : Array Value} (h : Blk w g t cs) (h' : Blk w g' t' cs') (hne : t ≠ t') : g ≠ g' := by
  rintro rfl
  unfold Blk at h h'
  rw [h] at h'
  injection h' with h'
  injection h' with _ ht
  exact hne ht
theorem own_blk_ne {base : Nat} {e : TypeId} {size n : Nat} {v : Value} {xs : List Value} (h : w.ownsRow base e size v n xs) (hg : Blk w g t cs) (hne : e ≠ t) : v.ownBlock ≠ some g := by
  rcases h.2 with ⟨rfl, _⟩ | ⟨g', cap, cur, rfl, _, hh, _⟩
  · simp [Value.ownBlock]
  · intro he
    have : g' = g := by simpa [Value.ownBlock] using he
    subst this
    exact Blk.ne_ (t := e) hh hg hne rfl
end

section
variable {P : Program} (w : World)

theorem run_append_of_nil (base : Nat) (t ty e : TypeId) (i : TypeInfo) (size : Nat) (ht : P.underlying t = some (.slice e)) (hi : P.info? e = some i)
    (v : Value) (n : Nat) (xs : List Value) (hown : w.ownsRow base e size v n xs) (c : Nat) : (Builtin.append_ #[t, t] ty #[v, .slice none 0 c]).run P w = .ok v w := by
  rcases hown.2 with ⟨rfl, rfl⟩ | ⟨g, cap, cur, rfl, _, _, hnc, _⟩
  · simp [Builtin.append_, run_underlying ht, sizeOf, typeInfo, hi, Builtin.lenOf, Builtin.firstCells]
  · simp [Builtin.append_, run_underlying ht, sizeOf, typeInfo, hi, Builtin.lenOf, Builtin.firstCells, hnc, storeCells]

theorem run_append_any (base : Nat) (t ty e : TypeId) (i : TypeInfo) (z : Value) (size bytes : Nat) (ht : P.underlying t = some (.slice e)) (hi : P.info? e = some i) (hz : i.zero = some z)
    (hsize : i.size = size) (hby : i.bytes = bytes) (hzs : z.cells.size = size) (hsz : 0 < size)
    (v : Value) (n : Nat) (xs : List Value) (hown : w.ownsRow base e size v n xs)
    (B : Nat) (A : Option Addr) (m c : Nat) (news : List Value) (hr : Reads w B size A m news) (h1 : ∀ u ∈ news, u.oneCell' = true)
    (h63 : n + m ≤ maxLen) (hbytes : (n + m) * bytes ≤ 140737488355328) (hbase : base ≤ w.heap.size) :
    ∃ v' w', (Builtin.append_ #[t, t] ty #[v, .slice A m c]).run P w = .ok v' w' ∧ w'.ownsRow base e size v' (n + m) (xs ++ news) ∧ w.grownBy w' v.ownBlock ∧
      (v'.ownBlock = v.ownBlock ∨ v'.ownBlock = some w.heap.size) := by
  rcases A with _ | ad
  · have hm : m = 0 := by
      rcases Nat.eq_zero_or_pos m with h0 | h0
      · exact h0
      · obtain ⟨ad, h, _⟩ := hr.2 h0
        cases h
    subst hm
    have hn : news = [] := List.eq_nil_of_length_eq_zero (by simpa using hr.1)
    subst hn
    exact ⟨v, w, run_append_of_nil w base t ty e i size ht hi v n xs hown c, by simpa using hown, World.grownBy.refl w _, .inl rfl⟩
  · have hcells : ∀ j u, news[j]? = some u → w.cell? (ad.add j) = some u := by
      intro j u hu
      rcases Nat.eq_zero_or_pos m with h0 | h0
      · subst h0
        have hn : news = [] := List.eq_nil_of_length_eq_zero (by simpa using hr.1)
        subst hn
        simp at hu
      · obtain ⟨ad', h, _, hc⟩ := hr.2 h0
        injection h with h
        subst h
        exact hc j u hu
    obtain ⟨v', w', hrun, h2, h3, _, h5⟩ := run_append_own_at (P := P) w base t ty e i z size bytes ht hi hz hsize hby hzs hsz v n xs hown ad m c news hr.1 hcells h1 h63 hbytes hbase
    exact ⟨v', w', hrun, h2, h3, h5⟩

theorem wp_append_any {o : Oper} {a : Act} {K : Act → World → Prop} {Q : Exit → Act → World → Prop} (s x : Operand) (t : TypeId)
    (ho : o.op = .call { callee := .builtin .append, args := #[s, x], argTypes := #[t, t] })
    (base : Nat) (e : TypeId) (i : TypeInfo) (z : Value) (size bytes : Nat) (ht : P.underlying t = some (.slice e)) (hi : P.info? e = some i) (hz : i.zero = some z)
    (hsize : i.size = size) (hby : i.bytes = bytes) (hzs : z.cells.size = size) (hsz : 0 < size)
    (v : Value) (n : Nat) (xs : List Value) (hs : a.eval s = v) (hown : w.ownsRow base e size v n xs)
    (B : Nat) (A : Option Addr) (m c : Nat) (news : List Value) (hx : a.eval x = .slice A m c) (hr : Reads w B size A m news) (h1 : ∀ u ∈ news, u.oneCell' = true)
    (h63 : n + m ≤ maxLen) (hbytes : (n + m) * bytes ≤ 140737488355328) (hbase : base ≤ w.heap.size)
    (h : ∀ v' w', w'.ownsRow base e size v' (n + m) (xs ++ news) → w.grownBy w' v.ownBlock → (v'.ownBlock = v.ownBlock ∨ v'.ownBlock = some w.heap.size) → K (a.put o.dst v') w') : o.wp P a w K Q := by
  obtain ⟨v', w', hrun, h2, h3, h4⟩ := run_append_any (P := P) w base t o.type e i z size bytes ht hi hz hsize hby hzs hsz v n xs hown B A m c news hr h1 h63 hbytes hbase
  unfold Oper.wp execOp
  simp only [ho, resolve, invoke, builtin, Sem.run_bind, Sem.run_pure, Result.andThen_ok, List.map_toArray, List.map_cons, List.map_nil, hs, hx, hrun]
  exact h v' w' h2 h3 h4

theorem wpList_append_any {ops : Array Oper} {rest : List Oper} {o : Oper} {a : Act} {Q : Exit → Act → World → Prop} (hgd : o.guard = none) (s x : Operand) (t : TypeId)
    (ho : o.op = .call { callee := .builtin .append, args := #[s, x], argTypes := #[t, t] })
    (base : Nat) (e : TypeId) (i : TypeInfo) (z : Value) (size bytes : Nat) (ht : P.underlying t = some (.slice e)) (hi : P.info? e = some i) (hz : i.zero = some z)
    (hsize : i.size = size) (hby : i.bytes = bytes) (hzs : z.cells.size = size) (hsz : 0 < size)
    (v : Value) (n : Nat) (xs : List Value) (hs : a.eval s = v) (hown : w.ownsRow base e size v n xs)
    (B : Nat) (A : Option Addr) (m c : Nat) (news : List Value) (hx : a.eval x = .slice A m c) (hr : Reads w B size A m news) (h1 : ∀ u ∈ news, u.oneCell' = true)
    (h63 : n + m ≤ maxLen) (hbytes : (n + m) * bytes ≤ 140737488355328) (hbase : base ≤ w.heap.size)
    (h : ∀ v' w', w'.ownsRow base e size v' (n + m) (xs ++ news) → w.grownBy w' v.ownBlock → (v'.ownBlock = v.ownBlock ∨ v'.ownBlock = some w.heap.size) → wpList P ops Q rest (a.put o.dst v') w') : wpList P ops Q (o :: rest) a w :=
  wpList_plain hgd fun _ hK => wp_append_any w s x t ho base e i z size bytes ht hi hz hsize hby hzs hsz v n xs hs hown B A m c news hx hr h1 h63 hbytes hbase fun v' w' h2 h3 h4 => hK _ _ (h v' w' h2 h3 h4)

theorem step_append_any {ops : Array Oper} {o : Oper} {a : Act} {K : Act → World → Prop} {Q : Exit → Act → World → Prop} {E : Prop} (hgd : o.guard = none) (s x : Operand) (t : TypeId)
    (ho : o.op = .call { callee := .builtin .append, args := #[s, x], argTypes := #[t, t] })
    (base : Nat) (e : TypeId) (i : TypeInfo) (z : Value) (size bytes : Nat) (ht : P.underlying t = some (.slice e)) (hi : P.info? e = some i) (hz : i.zero = some z)
    (hsize : i.size = size) (hby : i.bytes = bytes) (hzs : z.cells.size = size) (hsz : 0 < size)
    (v : Value) (n : Nat) (xs : List Value) (hs : a.eval s = v) (hown : w.ownsRow base e size v n xs)
    (B : Nat) (A : Option Addr) (m c : Nat) (news : List Value) (hx : a.eval x = .slice A m c) (hr : Reads w B size A m news) (h1 : ∀ u ∈ news, u.oneCell' = true)
    (h63 : n + m ≤ maxLen) (hbytes : (n + m) * bytes ≤ 140737488355328) (hbase : base ≤ w.heap.size)
    (h : ∀ v' w', w'.ownsRow base e size v' (n + m) (xs ++ news) → w.grownBy w' v.ownBlock → (v'.ownBlock = v.ownBlock ∨ v'.ownBlock = some w.heap.size) → K (a.put o.dst v') w') :
    if Region.wanted o (yielded ops a.tmps) = true then Oper.wp P o a w K Q else E := by
  have hw : Region.wanted o (yielded ops a.tmps) = true := by simp [Region.wanted, hgd]
  rw [if_pos hw]
  exact wp_append_any w s x t ho base e i z size bytes ht hi hz hsize hby hzs hsz v n xs hs hown B A m c news hx hr h1 h63 hbytes hbase h
end

theorem below_drewN {B : Nat} {a w : World} (h : Below B a w) (n : Nat) : Below B a (w.drewN n) := ⟨h.os, h.tape, h.output, h.size, h.block⟩
theorem rowIs_drewN {w : World} {b : Nat} {t : TypeId} {n : Nat} {f : Nat → Value} (h : w.rowIs b t n f) (k : Nat) : (w.drewN k).rowIs b t n f := h
theorem grown_trans {a b c : World} (h : Grown a b) (k : Grown b c) : Grown a c :=
  ⟨World.keptBut_trans h.1 k.1, fun x => (k.2.1 x).trans (h.2.1 x), Nat.le_trans h.2.2 k.2.2⟩

theorem only_drewN {a w : World} {row : Option Nat} (h : a.grownBy w row) (n : Nat) : a.grownBy (w.drewN n) row := ⟨h.os, h.tape, h.output, h.size, h.block⟩
theorem only_drew {a w : World} {row : Option Nat} (h : a.grownBy w row) : a.grownBy w.drew row := ⟨h.os, h.tape, h.output, h.size, h.block⟩
theorem only_alloc {a w : World} {row : Option Nat} (h : a.grownBy w row) (o : Obj) : a.grownBy (w.alloc o) row :=
  ⟨h.os, h.tape, h.output, Nat.le_trans h.size (by simp), fun i hi hne => (Below.heap_alloc w o i (Nat.lt_of_lt_of_le hi h.size)).trans (h.block i hi hne)⟩
theorem only_setCell {a w : World} {g : Nat} (h : a.grownBy w (some g)) {p : Addr} (hp : p.block = g ∨ a.heap.size ≤ p.block) (u : Value) : a.grownBy (w.setCell p u) (some g) :=
  ⟨h.os, h.tape, h.output, by simpa [World.setCell] using h.size, fun i hi hne => (Below.heap_setCell w p u i (by
    rintro rfl
    rcases hp with hp | hp
    · exact hne (by rw [hp])
    · omega)).trans (h.block i hi hne)⟩
theorem only_of_below {a w : World} (h : Below a.heap.size a w) (row : Option Nat) : a.grownBy w row := ⟨h.os, h.tape, h.output, h.size, fun i hi _ => h.block i hi⟩

theorem run_make_rowN {P : Program} (t e : TypeId) (i : TypeInfo) (z : Value) (ht : P.underlying t = some (.slice e)) (hi : P.info? e = some i) (hz : i.zero = some z)
    (kl kc : IntKind) (n c : Nat) (hnc : n ≤ c) (hbytes : i.bytes * c ≤ 281474976710656) (h63 : c ≤ 9223372036854775807) (w : World) :
    (Instr.makeSlice t (.int kl (n : Int)) (.int kc (c : Int))).run P w = .ok (.slice (some ⟨w.heap.size, 0, none⟩) n c) (w.alloc (.cells (madeCells z.cells (c * i.size)) e)) := by
  have hb : (i.bytes : Int) * (c : Int) ≤ 281474976710656 := by
    have h : ((i.bytes * c : Nat) : Int) ≤ 281474976710656 := by omega
    rwa [Int.natCast_mul] at h
  have hr := run_make (P := P) w t e i z ht hi hz kl kc n c (by omega) (by omega) hb (by omega)
  simp only [Int.toNat_natCast] at hr
  exact hr
theorem run_makeMap_hint {P : Program} (t k e : TypeId) (kd : IntKind) (n : Int) (ht : P.underlying t = some (.map k e)) (w : World) :
    (Instr.makeMap t (some (.int kd n))).run P w = .ok (.map (some w.heap.size)) (w.alloc (.map #[] 0)) := by
  simp [Instr.makeMap, run_underlying ht]; rfl

section
variable {H : Type} {enc : TypeId × Value → H} {P : Program}
theorem post_of_below {f : Func} {s : ChangeSpec} {apart fresh handsOn again : Bool} {W W' : World} {args : Array Value} {v : Value} {ds gs : List (DataW H)} {before pa pv : List MemPlace}
    (hW : DataW.Whole enc P f.params.toList s.vars apart W args.toList ds gs before)
    (hres : ∀ (b : Nat) (sp : Nat → Bool) (hd : Bool), DataW.TrodAll enc P W' b sp hd f.resultTypes.toList (v.resultList f.resultTypes.size) (s.fn H (ds ++ gs)).results [])
    (hargs : ∀ sp : Nat → Bool, (∀ p ∈ before, sp p.block = true) → DataW.TrodAll enc P W' 0 sp true f.params.toList args.toList (s.fn H (ds ++ gs)).args pa)
    (hvars : ∀ sp : Nat → Bool, (∀ p ∈ before, sp p.block = true) → DataW.TrodVars enc P W' sp s.vars (s.fn H (ds ++ gs)).vars pv)
    (hps : before = pa ++ pv) (hb : Below W.heap.size W W')
    (hok : ∀ (j : Nat) (t : TypeId) (r : Value), f.resultTypes[j]? = some t → (v.resultList f.resultTypes.size)[j]? = some r → Value.okWide P W' .any 0 t r) :
    s.post enc P f apart fresh handsOn again W args v W' := by
  have hlt : ∀ p ∈ before, p.block < W.heap.size := fun p hp => hW.lt p hp
  have hold : ∀ p ∈ before, (fun b => decide (b < W.heap.size)) p.block = true := fun p hp => by simpa using hlt p hp
  refine ⟨ds, gs, before, [], pa, pv, hW, hres _ _ _, hargs _ hold, hvars _ hold, World.keptBut_mono (fun p hp => ⟨hp, ?_⟩) (hb.frame (· ∈ before)), fun _ => ?_⟩
  · rw [hps, List.mem_append] at hp
    exact Or.inr hp
  · obtain ⟨_, _, _, _, _, hz, hn⟩ := hW
    refine ⟨hok, _, _, ([] ++ pa) ++ pv, ⟨[] ++ pa, pv, trodAll_append (hargs _ (fun _ _ => rfl)) (hres _ _ _), hvars _ (fun _ _ => rfl), rfl, ?_, ?_⟩, ?_⟩
    · intro b off hp
      have hin : MemPlace.cell b off ∈ before := by rw [hps]; simpa using hp
      rw [hb.frozen (hlt _ hin)]
      exact hz b off hin
    · intro ha
      have := hn ha
      rw [hps] at this
      simpa using this
    · intro p hp _
      rw [hps]
      simpa using hp
end

/-- A cell of a flat type: none: a bool; some k: an integer of kind k, in its range. -/
def fitsK : Option IntKind → Value → Prop
  | none, v => ∃ b, v = .bool b
  | some k, v => ∃ n, v = .int k n ∧ (Lit.int k n).wf = true

/-- Cells that fit kinds, one by one. -/
def Fits : List (Option IntKind) → List Value → Prop
  | [], [] => True
  | k :: ks, v :: vs => fitsK k v ∧ Fits ks vs
  | _, _ => False

/-- The same, but for the range. -/
def kindK : Option IntKind → Value → Prop
  | none, v => ∃ b, v = .bool b
  | some k, v => ∃ n, v = .int k n
def Kinds : List (Option IntKind) → List Value → Prop
  | [], [] => True
  | k :: ks, v :: vs => kindK k v ∧ Kinds ks vs
  | _, _ => False

/-- Are two cells the same? -/
def sameV : Value → Value → Bool
  | .bool a, .bool b => a == b
  | .int _ a, .int _ b => a == b
  | _, _ => false

def sameL : List Value → List Value → Bool
  | [], [] => true
  | v :: vs, u :: us => sameV v u && sameL vs us
  | _, _ => false

theorem Fits.length {ks : List (Option IntKind)} : ∀ {vs : List Value}, Fits ks vs → vs.length = ks.length := by
  induction ks with
  | nil => intro vs h; cases vs with | nil => rfl | cons => exact h.elim
  | cons k ks ih => intro vs h; cases vs with | nil => exact h.elim | cons v vs => simp [ih h.2]

theorem Fits.append {ks ks' : List (Option IntKind)} : ∀ {vs vs' : List Value}, Fits ks vs → Fits ks' vs' → Fits (ks ++ ks') (vs ++ vs') := by
  induction ks with
  | nil => intro vs vs' h h'; cases vs with | nil => exact h' | cons => exact h.elim
  | cons k ks ih => intro vs vs' h h'; cases vs with | nil => exact h.elim | cons v vs => exact ⟨h.1, ih h.2 h'⟩

theorem Fits.split {ks ks' : List (Option IntKind)} : ∀ {vs : List Value}, Fits (ks ++ ks') vs → Fits ks (vs.take ks.length) ∧ Fits ks' (vs.drop ks.length) := by
  induction ks with
  | nil => intro vs h; exact ⟨trivial, by simpa using h⟩
  | cons k ks ih =>
    intro vs h
    cases vs with
    | nil => exact h.elim
    | cons v vs => obtain ⟨h1, h2⟩ := ih h.2; exact ⟨⟨h.1, h1⟩, h2⟩

theorem Kinds.length {ks : List (Option IntKind)} : ∀ {vs : List Value}, Kinds ks vs → vs.length = ks.length := by
  induction ks with
  | nil => intro vs h; cases vs with | nil => rfl | cons => exact h.elim
  | cons k ks ih => intro vs h; cases vs with | nil => exact h.elim | cons v vs => simp [ih h.2]

theorem Kinds.append {ks ks' : List (Option IntKind)} : ∀ {vs vs' : List Value}, Kinds ks vs → Kinds ks' vs' → Kinds (ks ++ ks') (vs ++ vs') := by
  induction ks with
  | nil => intro vs vs' h h'; cases vs with | nil => exact h' | cons => exact h.elim
  | cons k ks ih => intro vs vs' h h'; cases vs with | nil => exact h.elim | cons v vs => exact ⟨h.1, ih h.2 h'⟩

theorem Kinds.split {ks ks' : List (Option IntKind)} : ∀ {vs : List Value}, Kinds (ks ++ ks') vs → Kinds ks (vs.take ks.length) ∧ Kinds ks' (vs.drop ks.length) := by
  induction ks with
  | nil => intro vs h; exact ⟨trivial, by simpa using h⟩
  | cons k ks ih =>
    intro vs h
    cases vs with
    | nil => exact h.elim
    | cons v vs => obtain ⟨h1, h2⟩ := ih h.2; exact ⟨⟨h.1, h1⟩, h2⟩

theorem Fits.kinds {ks : List (Option IntKind)} : ∀ {vs : List Value}, Fits ks vs → Kinds ks vs := by
  induction ks with
  | nil => intro vs h; cases vs with | nil => trivial | cons => exact h.elim
  | cons k ks ih =>
    intro vs h
    cases vs with
    | nil => exact h.elim
    | cons v vs =>
      refine ⟨?_, ih h.2⟩
      cases k with
      | none => exact h.1
      | some k => obtain ⟨n, hn, _⟩ := h.1; exact ⟨n, hn⟩

theorem sameV_iff {k : Option IntKind} {v u : Value} (h : kindK k v) (h' : kindK k u) : sameV v u = true ↔ v = u := by
  cases k with
  | none => obtain ⟨a, rfl⟩ := h; obtain ⟨b, rfl⟩ := h'; simp [sameV]
  | some k => obtain ⟨a, rfl⟩ := h; obtain ⟨b, rfl⟩ := h'; simp [sameV]

theorem sameL_iff {ks : List (Option IntKind)} : ∀ {vs us : List Value}, Kinds ks vs → Kinds ks us → (sameL vs us = true ↔ vs = us) := by
  induction ks with
  | nil => intro vs us h h'; cases vs <;> cases us <;> simp_all [Kinds, sameL]
  | cons k ks ih =>
    intro vs us h h'
    cases vs with
    | nil => exact h.elim
    | cons v vs =>
      cases us with
      | nil => exact h'.elim
      | cons u us =>
        have e1 := sameV_iff h.1 h'.1
        have e2 := ih h.2 h'.2
        simp only [sameL, Bool.and_eq_true, List.cons.injEq, e1, e2]

theorem sameL_append : ∀ {vs us : List Value}, vs.length = us.length → ∀ vs' us', sameL (vs ++ vs') (us ++ us') = (sameL vs us && sameL vs' us') := by
  intro vs
  induction vs with
  | nil => intro us h vs' us'; cases us with | nil => simp [sameL] | cons => simp at h
  | cons v vs ih =>
    intro us h vs' us'
    cases us with
    | nil => simp at h
    | cons u us => simp only [List.cons_append, sameL, ih (by simpa using h), Bool.and_assoc]

/-- The kinds of a flat type's cells, over the program's table; 'none': it is not flat. -/
def flatFields (sub : TypeId → Option (List (Option IntKind))) (cells : TypeId → Nat) : List Field → Nat → Option (List (Option IntKind))
  | [], _ => some []
  | f :: fs, off =>
    match sub f.type with
    | none => none
    | some ks =>
      if f.name ≠ "_" ∧ f.offset = off ∧ cells f.type = ks.length then
        match flatFields sub cells fs (off + ks.length) with
        | none => none
        | some r => some (ks ++ r)
      else none

def flatRep : Nat → List (Option IntKind) → List (Option IntKind)
  | 0, _ => []
  | n + 1, ks => ks ++ flatRep n ks

def flatOf (P : Program) : Nat → TypeId → Option (List (Option IntKind))
  | 0, _ => none
  | d + 1, t =>
    match P.underlying t with
    | some .bool => if P.cellsOf t = 1 then some [none] else none
    | some (.int k) => if P.cellsOf t = 1 then some [some k] else none
    | some (.struct fs) =>
      match flatFields (flatOf P d) P.cellsOf fs.toList 0 with
      | some ks => if P.cellsOf t = ks.length ∧ P.stoodInHeld t = false then some ks else none
      | none => none
    | some (.array n e) =>
      match flatOf P d e with
      | some ks => if P.cellsOf e = ks.length ∧ P.cellsOf t = n * ks.length then some (flatRep n ks) else none
      | none => none
    | _ => none

theorem flatRep_length (n : Nat) (ks : List (Option IntKind)) : (flatRep n ks).length = n * ks.length := by
  induction n with
  | zero => simp [flatRep]
  | succ n ih => simp [flatRep, ih, Nat.succ_mul, Nat.add_comm]

theorem flatOf_cells {P : Program} {d : Nat} {t : TypeId} {ks : List (Option IntKind)} (h : flatOf P d t = some ks) : P.cellsOf t = ks.length := by
  cases d with
  | zero => simp [flatOf] at h
  | succ d =>
    unfold flatOf at h
    split at h
    · split at h <;> simp_all
      subst h; simp
    · split at h <;> simp_all
      subst h; simp
    · split at h
      · split at h <;> simp_all
      · cases h
    · split at h
      · split at h
        · rename_i h1 h2
          cases h
          rw [h2.2, flatRep_length]
        · cases h
      · cases h
    · cases h

section
variable {H : Type} {enc : TypeId × Value → H} {P : Program} {w : World} {base : Nat} {spare : Nat → Bool} {held : Bool}

theorem fits_of_fields {sub : TypeId → Option (List (Option IntKind))} {cs : List Value} {n : Nat}
    (hsub : ∀ (f : TypeId) ks cs x, sub f = some ks → DataW.trod enc P w base spare held n f cs = some x → Fits ks cs) :
    ∀ (fs : List Field) (off : Nat) (ks : List (Option IntKind)) (xs : List (DataW H × List MemPlace)), flatFields sub P.cellsOf fs off = some ks → xs.length = fs.length →
      (∀ (i : Nat) (f : Field), fs[i]? = some f → DataW.trod enc P w base spare held n f.type ((cs.drop f.offset).take (P.cellsOf f.type)) = xs[i]?) → cs.length = off + ks.length →
      Fits ks (cs.drop off) := by
  intro fs
  induction fs with
  | nil =>
    intro off ks xs h _ _ hl
    simp only [flatFields, Option.some.injEq] at h
    subst h
    have : cs.drop off = [] := List.drop_eq_nil_of_le (by simp at hl; omega)
    rw [this]; trivial
  | cons f fs ih =>
    intro off ks xs h hx hat hl
    unfold flatFields at h
    split at h
    · cases h
    · rename_i ks1 h1
      split at h
      · rename_i hc
        obtain ⟨_, hoff, hcell⟩ := hc
        split at h
        · cases h
        · rename_i r hr
          cases h
          cases xs with
          | nil => simp at hx
          | cons x xs =>
            have h0 := hat 0 f rfl
            simp only [List.getElem?_cons_zero] at h0
            have F1 := hsub _ _ _ _ h1 h0
            have F2 := ih (off + ks1.length) r xs hr (by simpa using hx) (fun i g hg => by simpa using hat (i + 1) g (by simpa using hg)) (by simp at hl; omega)
            have e : cs.drop off = (cs.drop off).take ks1.length ++ cs.drop (off + ks1.length) := by
              rw [← List.drop_drop, List.take_append_drop]
            rw [e]
            rw [hoff, hcell] at F1
            exact F1.append F2
      · cases h

theorem fits_of_rep {cs : List Value} {ks : List (Option IntKind)} : ∀ (n off : Nat), (∀ i, i < n → Fits ks ((cs.drop (off + i * ks.length)).take ks.length)) → cs.length = off + n * ks.length → Fits (flatRep n ks) (cs.drop off) := by
  intro n
  induction n with
  | zero =>
    intro off _ hl
    have : cs.drop off = [] := List.drop_eq_nil_of_le (by omega)
    rw [this]; trivial
  | succ n ih =>
    intro off h hl
    have F1 := h 0 (by omega)
    have F2 := ih (off + ks.length) (fun i hi => by
      have := h (i + 1) (by omega)
      rwa [show off + (i + 1) * ks.length = off + ks.length + i * ks.length from by rw [Nat.succ_mul]; omega] at this) (by rw [Nat.succ_mul] at hl; omega)
    have e : cs.drop off = (cs.drop off).take ks.length ++ cs.drop (off + ks.length) := by
      rw [← List.drop_drop, List.take_append_drop]
    rw [e]
    simp only [Nat.zero_mul, Nat.add_zero] at F1
    exact F1.append F2

/-- What reads as data of a flat type fits the type's kinds. -/
theorem fits_of_trod : ∀ (d : Nat) {fuel : Nat} {t : TypeId} {ks : List (Option IntKind)} {cs : List Value} {x : DataW H × List MemPlace}, flatOf P d t = some ks →
    DataW.trod enc P w base spare held fuel t cs = some x → Fits ks cs := by
  intro d
  induction d with
  | zero => intro fuel t ks cs x h; simp [flatOf] at h
  | succ d ih =>
    intro fuel t ks cs x h hx
    unfold flatOf at h
    split at h
    · rename_i hu
      split at h
      · cases h
        obtain ⟨b, rfl, _⟩ := DataW.trod_bool hu hx
        exact ⟨⟨b, rfl⟩, trivial⟩
      · cases h
    · rename_i k hu
      split at h
      · cases h
        obtain ⟨n, rfl, _, hw⟩ := DataW.trod_int hu hx
        exact ⟨⟨n, rfl, hw⟩, trivial⟩
      · cases h
    · rename_i fs hu
      split at h
      · rename_i ks' hf
        split at h
        · rename_i hc
          cases h
          obtain ⟨xs, n, _, _, hlen, hxs, hat⟩ := DataW.trod_struct hu hx
          have := fits_of_fields (enc := enc) (P := P) (w := w) (base := base) (spare := spare) (held := held) (cs := cs) (n := n) (sub := flatOf P d) (fun f ks cs x h1 h2 => ih h1 h2) fs.toList 0 ks xs hf (by simpa using hxs) (fun i f hi => hat i f (by simpa using hi)) (by omega)
          simpa using this
        · cases h
      · cases h
    · rename_i n e hu
      split at h
      · rename_i ks' hf
        split at h
        · rename_i hc
          cases h
          obtain ⟨xs, m, _, _, hlen, hxs, hat⟩ := DataW.trod_array hu hx
          have := fits_of_rep (cs := cs) (ks := ks') n 0 (fun i hi => by
            have h1 := hat i hi
            have hv : xs[i]? = some (xs[i]'(by omega)) := List.getElem?_eq_getElem (by omega)
            rw [hv] at h1
            have := ih hf h1
            rw [hc.1] at this
            simpa using this) (by omega)
          simpa using this
        · cases h
      · cases h
    · cases h
end

/-- A value that is whole: an aggregate where the type is one, else a value of one cell. -/
theorem formed_agg {P : Program} {t : TypeId} {v : Value} (hv : v.formed P t = true) (hu : (∃ n e, P.underlying t = some (.array n e)) ∨ (∃ fs, P.underlying t = some (.struct fs))) : ∃ cs, v = .agg cs := by
  cases v <;> rcases hu with ⟨n, e, hu⟩ | ⟨fs, hu⟩ <;> simp [Value.formed, hu] at hv <;> exact ⟨_, rfl⟩
theorem formed_one {P : Program} {t : TypeId} {v : Value} {c : Value} (hv : v.formed P t = true) (hu : P.underlying t = some .bool ∨ ∃ k, P.underlying t = some (.int k)) (hc : v.cells.toList = [c]) : v = c := by
  cases v <;> rcases hu with hu | ⟨k, hu⟩ <;> simp [Value.formed, hu] at hv <;> simpa [Value.cells] using hc

theorem info_of_flat {P : Program} {d : Nat} {t : TypeId} {ks : List (Option IntKind)} (h : flatOf P d t = some ks) : ∃ i, P.info? t = some i := by
  cases d with
  | zero => simp [flatOf] at h
  | succ d =>
    unfold flatOf at h
    cases hu : P.underlying t with
    | none => simp [hu] at h
    | some k => exact info_of_underlying hu

section
variable {P : Program} (w : World)

/-- A part of an aggregate's cells, as a value. -/
theorem part_flat {d : Nat} {t : TypeId} {ks : List (Option IntKind)} (h : flatOf P d t = some ks) {xs : Array Value} {off : Nat} (hf : Kinds ks ((xs.toList.drop off).take ks.length)) :
    ∃ v, (part t xs off).run P w = .ok v w ∧ v.formed P t = true ∧ v.cells.toList = (xs.toList.drop off).take ks.length := by
  have hc := flatOf_cells h
  obtain ⟨i, hi⟩ := info_of_flat h
  have agg : ((∃ n e, P.underlying t = some (.array n e)) ∨ (∃ fs, P.underlying t = some (.struct fs))) → ∃ v, (part t xs off).run P w = .ok v w ∧ v.formed P t = true ∧ v.cells.toList = (xs.toList.drop off).take ks.length := by
    intro hk
    have hl : (xs.extract off (off + P.cellsOf t)).toList = (xs.toList.drop off).take ks.length := by
      rw [Array.toList_extract, hc]
      simp [List.extract]
    have hs : (xs.extract off (off + P.cellsOf t)).size = P.cellsOf t := by rw [← Array.length_toList, hl, hf.length, hc]
    refine ⟨.agg (xs.extract off (off + P.cellsOf t)), ?_, ?_, hl⟩
    · rcases hk with ⟨n, e, hu⟩ | ⟨fs, hu⟩ <;> simp [part, isAgg, run_underlying hu, run_sizeOf w hi]
    · rcases hk with ⟨n, e, hu⟩ | ⟨fs, hu⟩ <;> simp [Value.formed, hu, hs]
  have one : ks.length = 1 → (P.underlying t = some .bool ∨ ∃ k, P.underlying t = some (.int k)) → ∃ v, (part t xs off).run P w = .ok v w ∧ v.formed P t = true ∧ v.cells.toList = (xs.toList.drop off).take ks.length := by
    intro hks hk
    have hl := hf.length
    rw [hks] at hl hf ⊢
    match hm : (xs.toList.drop off).take 1, hl with
    | [c], _ =>
      have hg : xs[off]? = some c := by
        have : ((xs.toList.drop off).take 1)[0]? = some c := by rw [hm]; rfl
        rw [List.getElem?_take_of_lt (by omega), List.getElem?_drop] at this
        simpa using this
      have hcc : c.cells.toList = [c] ∧ c.formed P t = true := by
        rw [hm] at hf
        cases ks with
        | nil => simp at hks
        | cons k ks =>
          have h1 := hf.1
          cases k with
          | none => obtain ⟨b, rfl⟩ := h1; refine ⟨rfl, ?_⟩; rcases hk with hu | ⟨k, hu⟩ <;> simp [Value.formed, hu]
          | some k => obtain ⟨b, rfl⟩ := h1; refine ⟨rfl, ?_⟩; rcases hk with hu | ⟨k, hu⟩ <;> simp [Value.formed, hu]
      refine ⟨c, ?_, hcc.2, hcc.1⟩
      rcases hk with hu | ⟨k, hu⟩ <;> simp [part, isAgg, run_underlying hu, hg]
  cases d with
  | zero => simp [flatOf] at h
  | succ d =>
    unfold flatOf at h
    split at h
    · rename_i hu
      split at h
      · cases h; exact one rfl (.inl hu)
      · cases h
    · rename_i k hu
      split at h
      · cases h; exact one rfl (.inr ⟨k, hu⟩)
      · cases h
    · rename_i fs hu
      exact agg (.inr ⟨fs, hu⟩)
    · rename_i n e hu
      exact agg (.inl ⟨n, e, hu⟩)
    · cases h

def EqFlat (P : Program) (dd : Nat) (t : TypeId) (ks : List (Option IntKind)) : Prop :=
  ∀ (w : World) (x y : Value), x.formed P t = true → y.formed P t = true → Kinds ks x.cells.toList → Kinds ks y.cells.toList → (Op.equalIn dd t x y).run P w = .ok (sameL x.cells.toList y.cells.toList) w

theorem eqFields_flat {sub : TypeId → Option (List (Option IntKind))} {dd : Nat} {xs ys : Array Value}
    (hpart : ∀ f ks (zs : Array Value) off, sub f = some ks → Kinds ks ((zs.toList.drop off).take ks.length) → ∃ v, (part f zs off).run P w = .ok v w ∧ v.formed P f = true ∧ v.cells.toList = (zs.toList.drop off).take ks.length)
    (heq : ∀ f ks, sub f = some ks → EqFlat P dd f ks) :
    ∀ (fs : List Field) (off : Nat) (ks : List (Option IntKind)), flatFields sub P.cellsOf fs off = some ks → Kinds ks (xs.toList.drop off) → Kinds ks (ys.toList.drop off) →
      (Op.eqFields dd xs ys fs).run P w = .ok (sameL (xs.toList.drop off) (ys.toList.drop off)) w := by
  intro fs
  induction fs with
  | nil =>
    intro off ks h hx hy
    simp only [flatFields, Option.some.injEq] at h
    subst h
    have e1 : xs.toList.drop off = [] := List.eq_nil_of_length_eq_zero (by simpa using hx.length)
    have e2 : ys.toList.drop off = [] := List.eq_nil_of_length_eq_zero (by simpa using hy.length)
    simp [Op.eqFields, e1, e2, sameL]
  | cons f fs ih =>
    intro off ks h hx hy
    unfold flatFields at h
    split at h
    · cases h
    · rename_i ks1 h1
      split at h
      · rename_i hc
        obtain ⟨hname, hoff, hcell⟩ := hc
        split at h
        · cases h
        · rename_i r hr
          cases h
          obtain ⟨x1, x2⟩ := hx.split
          obtain ⟨y1, y2⟩ := hy.split
          rw [List.drop_drop] at x2 y2
          obtain ⟨v, hv, fv, cv⟩ := hpart _ _ xs off h1 x1
          obtain ⟨u, hu, fu, cu⟩ := hpart _ _ ys off h1 y1
          have hq := heq _ _ h1 w v u fv fu (by rw [cv]; exact x1) (by rw [cu]; exact y1)
          have hi := ih (off + ks1.length) r hr x2 y2
          have ex : xs.toList.drop off = (xs.toList.drop off).take ks1.length ++ xs.toList.drop (off + ks1.length) := by rw [← List.drop_drop, List.take_append_drop]
          have ey : ys.toList.drop off = (ys.toList.drop off).take ks1.length ++ ys.toList.drop (off + ks1.length) := by rw [← List.drop_drop, List.take_append_drop]
          rw [ex, ey, sameL_append (by rw [x1.length, y1.length])]
          rw [cv, cu] at hq
          simp only [Op.eqFields, hname, ne_eq, not_false_eq_true, if_true, Sem.run_bind, hoff, hv, hu, hq, Result.andThen_ok]
          cases hb : sameL ((xs.toList.drop off).take ks1.length) ((ys.toList.drop off).take ks1.length)
          · simp
          · simpa using hi
      · cases h

theorem eqItems_flat {e : TypeId} {ks : List (Option IntKind)} {dd : Nat} {xs ys : Array Value}
    (hpart : ∀ (zs : Array Value) off, Kinds ks ((zs.toList.drop off).take ks.length) → ∃ v, (part e zs off).run P w = .ok v w ∧ v.formed P e = true ∧ v.cells.toList = (zs.toList.drop off).take ks.length)
    (heq : EqFlat P dd e ks) :
    ∀ (n k : Nat), Kinds (flatRep n ks) (xs.toList.drop (k * ks.length)) → Kinds (flatRep n ks) (ys.toList.drop (k * ks.length)) →
      (Op.eqItems dd e ks.length xs ys (List.range' k n)).run P w = .ok (sameL (xs.toList.drop (k * ks.length)) (ys.toList.drop (k * ks.length))) w := by
  intro n
  induction n with
  | zero =>
    intro k hx hy
    have e1 : xs.toList.drop (k * ks.length) = [] := List.eq_nil_of_length_eq_zero (by simpa [flatRep] using hx.length)
    have e2 : ys.toList.drop (k * ks.length) = [] := List.eq_nil_of_length_eq_zero (by simpa [flatRep] using hy.length)
    simp [Op.eqItems, e1, e2, sameL]
  | succ n ih =>
    intro k hx hy
    obtain ⟨x1, x2⟩ := Kinds.split (ks := ks) (ks' := flatRep n ks) hx
    obtain ⟨y1, y2⟩ := Kinds.split (ks := ks) (ks' := flatRep n ks) hy
    rw [List.drop_drop, ← Nat.succ_mul] at x2 y2
    obtain ⟨v, hv, fv, cv⟩ := hpart xs _ x1
    obtain ⟨u, hu, fu, cu⟩ := hpart ys _ y1
    have hq := heq w v u fv fu (by rw [cv]; exact x1) (by rw [cu]; exact y1)
    have hi := ih (k + 1) x2 y2
    have ex : xs.toList.drop (k * ks.length) = (xs.toList.drop (k * ks.length)).take ks.length ++ xs.toList.drop ((k + 1) * ks.length) := by rw [Nat.succ_mul, ← List.drop_drop, List.take_append_drop]
    have ey : ys.toList.drop (k * ks.length) = (ys.toList.drop (k * ks.length)).take ks.length ++ ys.toList.drop ((k + 1) * ks.length) := by rw [Nat.succ_mul, ← List.drop_drop, List.take_append_drop]
    rw [ex, ey, sameL_append (by rw [x1.length, y1.length])]
    rw [cv, cu] at hq
    rw [List.range'_succ]
    simp only [Op.eqItems, Sem.run_bind, hv, hu, hq, Result.andThen_ok]
    cases hb : sameL ((xs.toList.drop (k * ks.length)).take ks.length) ((ys.toList.drop (k * ks.length)).take ks.length)
    · simp
    · simpa using hi

theorem equalIn_flat : ∀ (d dd : Nat) (t : TypeId) (ks : List (Option IntKind)), flatOf P d t = some ks → EqFlat P (dd + d) t ks := by
  intro d
  induction d with
  | zero => intro dd t ks h; simp [flatOf] at h
  | succ d ih =>
    intro dd t ks h w x y fx fy hx hy
    have h0 := h
    unfold flatOf at h
    split at h
    · rename_i hu
      split at h
      · cases h
        match hcx : x.cells.toList, hcy : y.cells.toList, hx, hy with
        | [c], [c'], hx, hy =>
          obtain rfl := formed_one fx (.inl hu) hcx
          obtain rfl := formed_one fy (.inl hu) hcy
          obtain ⟨a, rfl⟩ := hx.1
          obtain ⟨b, rfl⟩ := hy.1
          rw [show dd + (d + 1) = (dd + d) + 1 from rfl, run_equalIn_bool w _ t a b hu]
          simp [sameL, sameV]
      · cases h
    · rename_i k hu
      split at h
      · cases h
        match hcx : x.cells.toList, hcy : y.cells.toList, hx, hy with
        | [c], [c'], hx, hy =>
          obtain rfl := formed_one fx (.inr ⟨k, hu⟩) hcx
          obtain rfl := formed_one fy (.inr ⟨k, hu⟩) hcy
          obtain ⟨a, rfl⟩ := hx.1
          obtain ⟨b, rfl⟩ := hy.1
          rw [show dd + (d + 1) = (dd + d) + 1 from rfl, run_equalIn_int w _ t k k a b hu]
          simp [sameL, sameV]
      · cases h
    · rename_i fs hu
      split at h
      · rename_i ks' hf
        split at h
        · rename_i hc
          cases h
          obtain ⟨xs, rfl⟩ := formed_agg fx (.inr ⟨fs, hu⟩)
          obtain ⟨ys, rfl⟩ := formed_agg fy (.inr ⟨fs, hu⟩)
          have hfs : P.fieldsOf t = fs := by simp [Program.fieldsOf, hu]
          rw [show dd + (d + 1) = (dd + d) + 1 from rfl, run_equalIn_struct w (dd + d) t xs ys (by rw [hfs]; exact hu) hc.2, hfs]
          have := eqFields_flat w (dd := dd + d) (xs := xs) (ys := ys) (sub := flatOf P d) (fun f ks zs off h1 h2 => part_flat w h1 h2) (fun f ks h1 => ih dd f ks h1) fs.toList 0 ks hf (by simpa [Value.cells] using hx) (by simpa [Value.cells] using hy)
          simpa [Value.cells] using this
        · cases h
      · cases h
    · rename_i n e hu
      split at h
      · rename_i ks' hf
        split at h
        · rename_i hc
          cases h
          obtain ⟨xs, rfl⟩ := formed_agg fx (.inl ⟨n, e, hu⟩)
          obtain ⟨ys, rfl⟩ := formed_agg fy (.inl ⟨n, e, hu⟩)
          obtain ⟨i, hi⟩ := info_of_flat hf
          rw [show dd + (d + 1) = (dd + d) + 1 from rfl, run_equalIn_array w (dd + d) xs ys hu hi, hc.1, List.range_eq_range']
          have := eqItems_flat w (dd := dd + d) (xs := xs) (ys := ys) (e := e) (ks := ks') (fun zs off h2 => part_flat w hf h2) (ih dd e ks' hf) n 0 (by simpa [Value.cells] using hx) (by simpa [Value.cells] using hy)
          simpa [Value.cells] using this
        · cases h
      · cases h
    · cases h
end

/-- '==' and '!=' at a flat aggregate. -/
theorem run_eql_flat {P : Program} (w : World) {d : Nat} {t : TypeId} {ks : List (Option IntKind)} (h : flatOf P d t = some ks) (hd : d ≤ 10000) (hag : (P.underlying t matches some (.struct _)) = true ∨ (P.underlying t matches some (.array _ _)) = true)
    {xs ys : List Value} (hx : Kinds ks xs) (hy : Kinds ks ys) : (binOp .eql t (.agg xs.toArray) (.agg ys.toArray)).run P w = .ok (.bool (sameL xs ys)) w := by
  have hc := flatOf_cells h
  have fx : ∀ zs : List Value, Kinds ks zs → (Value.agg zs.toArray).formed P t = true := fun zs hz => by
    rcases hag with hag | hag <;> (split at hag <;> simp_all [Value.formed, hz.length])
  have := equalIn_flat d (10000 - d) t ks h w _ _ (fx xs hx) (fx ys hy) (by simpa [Value.cells] using hx) (by simpa [Value.cells] using hy)
  rw [show 10000 - d + d = 10000 by omega] at this
  rw [run_eql_struct, this]
  simp [Value.cells]
theorem run_neq_flat {P : Program} (w : World) {d : Nat} {t : TypeId} {ks : List (Option IntKind)} (h : flatOf P d t = some ks) (hd : d ≤ 10000) (hag : (P.underlying t matches some (.struct _)) = true ∨ (P.underlying t matches some (.array _ _)) = true)
    {xs ys : List Value} (hx : Kinds ks xs) (hy : Kinds ks ys) : (binOp .neq t (.agg xs.toArray) (.agg ys.toArray)).run P w = .ok (.bool (!sameL xs ys)) w := by
  have hc := flatOf_cells h
  have fx : ∀ zs : List Value, Kinds ks zs → (Value.agg zs.toArray).formed P t = true := fun zs hz => by
    rcases hag with hag | hag <;> (split at hag <;> simp_all [Value.formed, hz.length])
  have := equalIn_flat d (10000 - d) t ks h w _ _ (fx xs hx) (fx ys hy) (by simpa [Value.cells] using hx) (by simpa [Value.cells] using hy)
  rw [show 10000 - d + d = 10000 by omega] at this
  rw [run_neq_struct, this]
  simp [Value.cells]

/-! ### Structs behind addresses: a whole variable loaded; a struct among the results -/
section
variable {P : Program} {w : World}
theorem load_blk {g : Nat} {t ty : TypeId} {cs : Array Value} (hb : Blk w g t cs) (ha : ∀ w, (isAgg ty).run P w = .ok true w) (hz : ∀ w, (Go.sizeOf ty).run P w = .ok cs.size w) :
    (loadVar ty ⟨g, 0, none⟩).run P w = .ok (.agg cs) w := by
  have hl := run_loadCells_list (P := P) w ⟨g, 0, none⟩ cs.toList (fun j v hv => by
    rw [Addr.add_lit, Nat.zero_add, hb.cell]
    simpa using hv)
  simp only [Array.length_toList, Array.toArray_toList] at hl
  simp only [loadVar, Sem.run_bind, ha, Result.andThen_ok, if_true, hz, hl, Sem.run_pure]
theorem results_blk_tmp {fn : Func} {p u : Tmp} {ty : TypeId} (h : fn.results = #[.cell p ty, .tmp u]) {tmps : Array Value} {g : Nat} {t : TypeId} {cs : Array Value} (hp : tmps.getD p undef = .pointer (some ⟨g, 0, none⟩))
    (hb : Blk w g t cs) (ha : ∀ w, (isAgg ty).run P w = .ok true w) (hz : ∀ w, (Go.sizeOf ty).run P w = .ok cs.size w) : (results fn tmps).run P w = .ok (.tuple #[.agg cs, tmps.getD u undef]) w := by
  rw [results_cell_tmp h, hp]
  simp only [asAddr, Sem.run_pure, Result.andThen_ok, load_blk hb ha hz]
theorem results_blk {fn : Func} {p : Tmp} {ty : TypeId} (h : fn.results = #[.cell p ty]) {tmps : Array Value} {g : Nat} {t : TypeId} {cs : Array Value} (hp : tmps.getD p undef = .pointer (some ⟨g, 0, none⟩))
    (hb : Blk w g t cs) (ha : ∀ w, (isAgg ty).run P w = .ok true w) (hz : ∀ w, (Go.sizeOf ty).run P w = .ok cs.size w) : (results fn tmps).run P w = .ok (.agg cs) w := by
  have e : (results fn tmps).run P w = ((asAddr (tmps.getD p undef)).run P w).andThen fun a w₁ => (loadVar ty a).run P w₁ := by
    simp only [results, h]
    simp [Sem.run_bind, Result.andThen]
  rw [e, hp]
  simp only [asAddr, Sem.run_pure, Result.andThen_ok, load_blk hb ha hz]
end

/-! ### 'Only S': but for the blocks of S, and new ones, the world is as it was -/
structure Only (S : Nat → Prop) (w w' : World) : Prop where
  os : w'.os = w.os
  tape : w'.tape = w.tape
  output : w'.output = w.output
  size : w.heap.size ≤ w'.heap.size
  block : ∀ k, k < w.heap.size → ¬ S k → w'.heap[k]? = w.heap[k]?

section
variable {S S' : Nat → Prop} {a b w w' : World}
theorem Only.refl (S : Nat → Prop) (w : World) : Only S w w := ⟨rfl, rfl, rfl, Nat.le_refl _, fun _ _ _ => rfl⟩
theorem Only.trans (h : Only S a b) (k : Only S b w) : Only S a w :=
  ⟨k.os.trans h.os, k.tape.trans h.tape, k.output.trans h.output, Nat.le_trans h.size k.size, fun i hi hn => (k.block i (Nat.lt_of_lt_of_le hi h.size) hn).trans (h.block i hi hn)⟩
theorem Only.mono (h : Only S a b) (hs : ∀ k, k < a.heap.size → S k → S' k) : Only S' a b := ⟨h.os, h.tape, h.output, h.size, fun i hi hn => h.block i hi (fun hk => hn (hs i hi hk))⟩
theorem Only.drewN (h : Only S a w) (n : Nat) : Only S a (w.drewN n) := ⟨h.os, h.tape, h.output, h.size, h.block⟩
theorem Only.drew (h : Only S a w) : Only S a w.drew := ⟨h.os, h.tape, h.output, h.size, h.block⟩
theorem Only.alloc (h : Only S a w) (o : Obj) : Only S a (w.alloc o) :=
  ⟨h.os, h.tape, h.output, Nat.le_trans h.size (by simp), fun i hi hn => (Below.heap_alloc w o i (Nat.lt_of_lt_of_le hi h.size)).trans (h.block i hi hn)⟩
theorem Only.setCell (h : Only S a w) {p : Addr} (hp : S p.block ∨ a.heap.size ≤ p.block) (u : Value) : Only S a (w.setCell p u) :=
  ⟨h.os, h.tape, h.output, by simpa [World.setCell] using h.size, fun i hi hn => (Below.heap_setCell w p u i (by
    rintro rfl
    rcases hp with hp | hp
    · exact hn hp
    · omega)).trans (h.block i hi hn)⟩
theorem Only.of_below (h : Below a.heap.size a w) : Only S a w := ⟨h.os, h.tape, h.output, h.size, fun i hi _ => h.block i hi⟩
/-- Behind a later world's 'Below': what is new for it is new, or was new before. -/
theorem Only.below (h : Only S a b) (k : Below b.heap.size b w) : Only S a w := h.trans (Only.of_below k)
theorem Only.to_below (h : Only S a w) {B : Nat} (hB : B ≤ a.heap.size) (hs : ∀ k, k < a.heap.size → S k → B ≤ k) : Below B a w :=
  ⟨h.os, h.tape, h.output, h.size, fun i hi => h.block i (by omega) (fun hk => by have := hs i (by omega) hk; omega)⟩
theorem Below.only {B : Nat} (h : Below B a b) (k : Only S b w) (hB : B ≤ b.heap.size) (hs : ∀ k, k < b.heap.size → S k → B ≤ k) : Below B a w := h.trans (k.to_below hB hs)
theorem Only.cell (h : Only S a w) {p : Addr} (hp : p.block < a.heap.size) (hn : ¬ S p.block) : w.cell? p = a.cell? p := World.cell?_of_block (w := a) (h.block p.block hp hn)
theorem Blk.only {g : Nat} {t : TypeId} {cs : Array Value} (hb : Blk a g t cs) (h : Only S a w) (hn : ¬ S g) : Blk w g t cs := (h.block g hb.lt hn).trans hb
theorem own_only {base : Nat} {e : TypeId} {size n : Nat} {v : Value} {xs : List Value} (ho : a.ownsRow base e size v n xs) (h : Only S a w) (hn : ∀ g, v.ownBlock = some g → ¬ S g) : w.ownsRow base e size v n xs := by
  refine ⟨ho.1, ?_⟩
  rcases ho.2 with h0 | ⟨g, cap, cur, rfl, hb, hg, rest⟩
  · exact .inl h0
  · exact .inr ⟨g, cap, cur, rfl, hb, (h.block g (Array.getElem?_eq_some_iff.1 hg).1 (hn g rfl)).trans hg, rest⟩
theorem Reads.only {B size n : Nat} {A : Option Addr} {xs : List Value} (hr : Reads a B size A n xs) (h : Only S a w) (hB : B ≤ a.heap.size) (hn : ∀ k, k < B → ¬ S k) : Reads w B size A n xs :=
  hr.keep fun p hp => h.cell (by omega) (hn _ hp)
theorem own_base {base base' : Nat} {e : TypeId} {size n : Nat} {v : Value} {xs : List Value} (ho : a.ownsRow base e size v n xs) (h : base' ≤ base) : a.ownsRow base' e size v n xs := by
  refine ⟨ho.1, ?_⟩
  rcases ho.2 with h0 | ⟨g, cap, cur, rfl, hb, rest⟩
  · exact .inl h0
  · exact .inr ⟨g, cap, cur, rfl, Nat.le_trans h hb, rest⟩
end
theorem Blk.of_eq {w : World} {g : Nat} {t : TypeId} {cs cs' : Array Value} (h : Blk w g t cs) (e : cs = cs') : Blk w g t cs' := e ▸ h
theorem Blk.setL {w : World} {g : Nat} {t : TypeId} {l : List Value} (h : Blk w g t l.toArray) (i : Nat) (u : Value) : Blk (w.setCell ⟨g, i, none⟩ u) g t (l.set i u).toArray :=
  (h.set_ i u).of_eq (by simp)
theorem ownsRow_form {w : World} {base e size n : Nat} {v : Value} {xs : List Value} (h : w.ownsRow base e size v n xs) : ∃ A c, v = .slice A n c := by
  rcases h.2 with ⟨rfl, rfl⟩ | ⟨g, cap, cur, rfl, _⟩ <;> exact ⟨_, _, rfl⟩

/-! ### Slice expressions whose address stays closed: 'cutA' -/
/-- The address of 's[k:]' (the model keeps the old one where nothing is left of the capacity). -/
def cutA (A : Option Addr) (c k size : Nat) : Option Addr := if c = k then A else A.map (·.add (k * size))
theorem Reads.cutA {w : World} {B size n : Nat} {A : Option Addr} {xs : List Value} (h : Reads w B size A n xs) {k cap : Nat} (hk : k ≤ n) (hc : n ≤ cap) : Reads w B size (Proofs.YtaljphjcmkibkaaDoor.cutA A cap k size) (n - k) (xs.drop (k * size)) := h.cut hk hc
theorem Reads.take {w : World} {B size n : Nat} {A : Option Addr} {xs : List Value} (h : Reads w B size A n xs) {k : Nat} (hk : k ≤ n) : Reads w B size A k (xs.take (k * size)) := by
  refine ⟨by rw [List.length_take, h.1, Nat.min_eq_left (Nat.mul_le_mul_right _ hk)], fun h0 => ?_⟩
  obtain ⟨ad, e, hb, hc⟩ := h.2 (by omega)
  exact ⟨ad, e, hb, fun j u hu => hc j u (by
    rw [List.getElem?_take] at hu
    split at hu
    · exact hu
    · cases hu)⟩
theorem own_cap {w : World} {base e size n c : Nat} {A : Option Addr} {xs : List Value} (h : w.ownsRow base e size (.slice A n c) n xs) : n ≤ c := by
  rcases h.2 with ⟨h1, h2⟩ | ⟨g, cap, cur, hv, _, _, hc, _⟩
  · injection h1 with _ e1 e2; omega
  · injection hv with _ _ e2; omega
section
variable {P : Program} {t e : TypeId} {size : Nat} (ht : P.underlying t = some (.slice e)) (hs : ∀ w, (Go.sizeOf e).run P w = .ok size w) (A : Option Addr) (n c : Nat)
include ht hs
/-- 's[k:]', laid ahead of a walk as a hypothesis: the walk then takes it ahead of its own law, which leaves an 'if'. -/
theorem run_slice_from {k : Nat} (hk : k ≤ n) (w : World) : (Instr.slice t (.slice A n c) (some (.int .i64 (k : Int))) none none).run P w = .ok (.slice (cutA A c k size) (n - k) (c - k)) w := by
  have he : P.elem t = e := by simp [Program.elem, ht]
  rw [run_slice_l (w := w) t A n c (by rw [he]; exact ht) .i64 (k : Int) (by omega) (by omega), he, hs]
  simp [sliced, cutA]
theorem run_slice_both {l h : Nat} (hl : l ≤ h) (hh : h ≤ c) (w : World) : (Instr.slice t (.slice A n c) (some (.int .i64 (l : Int))) (some (.int .i64 (h : Int))) none).run P w = .ok (.slice (cutA A c l size) (h - l) (c - l)) w := by
  have he : P.elem t = e := by simp [Program.elem, ht]
  rw [run_slice_lh (w := w) t A n c (by rw [he]; exact ht) .i64 .i64 (l : Int) (h : Int) (by omega) (by omega) (by omega), he, hs]
  simp [sliced, cutA]
theorem run_slice_upto {k : Nat} (hk : k ≤ c) (w : World) : (Instr.slice t (.slice A n c) none (some (.int .i64 (k : Int))) none).run P w = .ok (.slice A k c) w := by
  have he : P.elem t = e := by simp [Program.elem, ht]
  rw [run_slice_h (w := w) t A n c (by rw [he]; exact ht) .i64 (k : Int) (by omega) (by omega), he, hs]
  simp only [Result.andThen_ok, sliced, Nat.zero_mul, Nat.sub_zero, Int.toNat_natCast]
  congr 2
  split
  · rfl
  · cases A <;> simp [Addr.add]
end

theorem Blk.newAt {w : World} {B : Nat} (t : TypeId) (cs : Array Value) (h : w.heap.size = B) : Blk (w.alloc (.cells cs t)) B t cs := h ▸ Blk.new w t cs
/-- A slice with an element lies in cells of a block. -/
theorem Reads.form {w : World} {B size n : Nat} {A : Option Addr} {xs : List Value} (h : Reads w B size A n xs) (hn : 0 < n) (hs : 0 < size) :
    ∃ b off, A = some ⟨b, off, none⟩ ∧ b < B ∧ ∀ j u, xs[j]? = some u → w.cell? ⟨b, off + j, none⟩ = some u := by
  obtain ⟨ad, e, hb, hc⟩ := h.2 hn
  obtain ⟨b, off, sp⟩ := ad
  have h0 : 0 < xs.length := by rw [h.1]; exact Nat.mul_pos hn hs
  have := hc 0 _ (List.getElem?_eq_getElem h0)
  cases sp with
  | some q => simp [World.cell?, Addr.add] at this; split at this <;> cases this
  | none => exact ⟨b, off, e, hb, fun j u hu => by have := hc j u hu; rwa [Addr.add_lit] at this⟩
theorem Reads.later {w W : World} {size n : Nat} {A : Option Addr} {xs : List Value} (h : Reads w w.heap.size size A n xs) (hb : Below w.heap.size w W) : Reads W W.heap.size size A n xs := (h.below hb).more hb.size

/-! ### An argument that is a slice of a flat type -/
theorem choose_list {α : Type} {n : Nat} {p : Nat → α → Prop} (h : ∀ i, i < n → ∃ x, p i x) : ∃ l : List α, l.length = n ∧ ∀ i x, l[i]? = some x → p i x := by
  induction n with
  | zero => exact ⟨[], rfl, fun i x hx => by simp at hx⟩
  | succ n ih =>
    obtain ⟨l, hl, hp⟩ := ih (fun i hi => h i (by omega))
    obtain ⟨x, hx⟩ := h n (by omega)
    refine ⟨l ++ [x], by simp [hl], fun i y hy => ?_⟩
    rcases Nat.lt_or_ge i n with hi | hi
    · rw [List.getElem?_append_left (by omega)] at hy; exact hp i y hy
    · have : i < (l ++ [x]).length := by
        rcases Nat.lt_or_ge i (l ++ [x]).length with h1 | h1
        · exact h1
        · rw [List.getElem?_eq_none h1] at hy; cases hy
      simp at this
      obtain rfl : i = n := by omega
      rw [List.getElem?_append_right (by omega), hl] at hy
      simp at hy; subst hy; exact hx
theorem flat_get {k : Nat} : ∀ (css : List (List Value)), (∀ cs ∈ css, cs.length = k) → ∀ j, 0 < k → css.flatten[j]? = (css[j / k]?).bind (fun cs => cs[j % k]?) := by
  intro css
  induction css with
  | nil => intro _ j _; simp
  | cons cs css ih =>
    intro hall j hk
    have hl := hall cs (by simp)
    have ih' := ih (fun x hx => hall x (by simp [hx]))
    simp only [List.flatten_cons]
    rcases Nat.lt_or_ge j k with hj | hj
    · rw [List.getElem?_append_left (by omega), Nat.div_eq_of_lt hj, Nat.mod_eq_of_lt hj]; simp
    · rw [List.getElem?_append_right (by omega), hl, ih' (j - k) hk]
      have e1 : j / k = (j - k) / k + 1 := by
        have h1 : j = (j - k) + k := by omega
        conv => lhs; rw [h1]
        rw [Nat.add_div_right _ hk]
      have e2 : j % k = (j - k) % k := by
        have h1 : j = (j - k) + k := by omega
        conv => lhs; rw [h1]
        rw [Nat.add_mod_right]
      rw [e1, e2, List.getElem?_cons_succ]
theorem flat_length {k : Nat} : ∀ (css : List (List Value)), (∀ cs ∈ css, cs.length = k) → css.flatten.length = css.length * k := by
  intro css
  induction css with
  | nil => intro _; simp
  | cons cs css ih => intro h; simp only [List.flatten_cons, List.length_append, List.length_cons, ih (fun x hx => h x (by simp [hx])), h cs (by simp), Nat.succ_mul]; omega
theorem reads_of_trod {H : Type} {enc : TypeId × Value → H} {P : Program} {w : World} {base : Nat} {spare : Nat → Bool} {held : Bool} {t e : TypeId} {d : Nat} {ks : List (Option IntKind)} {r : Reach} {b0 : Nat} {v : Value} {dd : DataW H} {p : List MemPlace}
    (ht : P.underlying t = some (.slice e)) (hf : flatOf P d e = some ks) (hks : 0 < ks.length) (hv : Value.okWide P w r b0 t v) (h : DataW.Trod enc P w base spare held t v dd p) :
    ∃ (A : Option Addr) (n c : Nat) (css : List (List Value)), v = .slice A n c ∧ css.length = n ∧ (∀ cs ∈ css, Fits ks cs) ∧ Reads w w.heap.size ks.length A n css.flatten ∧ n ≤ c ∧ c ≤ maxLen := by
  obtain ⟨a0, len, cap, rfl⟩ := okWide_slice ht hv
  obtain ⟨fuel, hfu⟩ := h
  rcases Go.Deep.open_slice ht hfu with ⟨hcs, _⟩ | ⟨a, len', cap', m, n, D, Pl, hcs, hb, hl, hm, hmm, _, hi⟩
  · obtain ⟨e1, e2, e3⟩ : a0 = none ∧ len = 0 ∧ cap = 0 := by simpa [Value.cells] using hcs
    subst e1; subst e2; subst e3
    exact ⟨none, 0, 0, [], rfl, rfl, by simp, Reads.none_, Nat.le_refl _, Nat.zero_le _⟩
  · obtain ⟨e1, e2, e3⟩ : a0 = some a ∧ len = len' ∧ cap = cap' := by simpa [Value.cells] using hcs
    subst e1; subst e2; subst e3
    have hc := flatOf_cells hf
    have hlm : len ≤ m := by rw [hmm]; split <;> omega
    obtain ⟨css, hlen, hcss⟩ := choose_list (n := len) (p := fun i cs' => w.cells? base (a.add (i * P.cellsOf e)) (P.cellsOf e) = some cs' ∧ DataW.trod enc P w base spare held n e cs' = some (D i, Pl i)) (fun i hil => hi i (by omega))
    have hfit : ∀ cs ∈ css, Fits ks cs := fun cs hcs => by
      obtain ⟨i, hi, rfl⟩ := List.getElem_of_mem hcs
      exact fits_of_trod d hf (hcss i _ (List.getElem?_eq_getElem hi)).2
    have hcell : ∀ j u, css.flatten[j]? = some u → w.cell? (a.add j) = some u := by
      intro j u hu
      rw [flat_get css (fun cs hcs => (hfit cs hcs).length) j hks] at hu
      obtain ⟨cs, h1, h2⟩ := Option.bind_eq_some_iff.1 hu
      obtain ⟨_, hl', hat⟩ := World.cells?_some (hcss _ _ h1).1
      rw [hc] at hat
      have := hat (j % ks.length) (Nat.mod_lt _ hks)
      rw [add_of_add, Nat.div_add_mod'] at this
      rw [this, h2]
    refine ⟨some a, len, cap, css, rfl, hlen, hfit, ⟨?_, fun hn => ?_⟩, hl, hm⟩
    · rw [flat_length css (fun cs hcs => (hfit cs hcs).length), hlen]
    · refine ⟨a, rfl, ?_, hcell⟩
      have h0 : 0 < css.flatten.length := by
        rw [flat_length css (fun cs hcs => (hfit cs hcs).length), hlen]; exact Nat.mul_pos hn hks
      have := World.block_lt_of_cell? w _ (hcell 0 _ (List.getElem?_eq_getElem h0))
      rwa [block_of_add] at this
end Go.Proofs.YtaljphjcmkibkaaDoor
