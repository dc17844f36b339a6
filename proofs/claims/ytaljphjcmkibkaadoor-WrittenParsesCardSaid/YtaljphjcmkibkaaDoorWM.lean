/- The contract of written.ParseAddr. Conditions: at most 2^20 bytes; what the library asks of the world. -/
import Derived.Test.YtaljphjcmkibkaaDoorWL
namespace Go.Proofs.YtaljphjcmkibkaaDoor
open Go.RowKit Go.WideShapes Go.ChangeShapes

/-- What the library's functions ask of the package-level variables. -/
def WOK (w : World) : Prop := (∃ m : Int, w.cell? ⟨0, 0, none⟩ = some (.int .i64 m)) ∧ 0 < w.heap.size ∧ Lib.TabIs Tryd.prog w "internal/strconv.uint64pow10" .u64 Lib.pow10Tab
theorem numV_nat {l : List UInt8} {n : Nat} (h : numV l = some n) : n < 1000000000 := by
  rw [numV] at h
  split at h
  · cases h
  · rename_i hn
    have hnd : l.any nd = false := by
      have : ¬ l.any nd = true := fun e => hn (.inr (.inr (.inl e)))
      simpa using this
    have h9 : l.length ≤ 9 := by
      have : ¬ 9 < l.length := fun e => hn (.inr (.inl e))
      omega
    obtain ⟨m, h1, h2⟩ := decFrom_some l 0 hnd
    rw [h1] at h
    cases h
    have : (10 : Nat) ^ l.length ≤ 10 ^ 9 := Nat.pow_le_pow_right (by decide) h9
    omega
theorem number_nat (l : List UInt8) (most : Int) : ∃ n : Nat, (number l most).1 = n ∧ n < 1000000000 := by
  rw [number]
  split
  · exact ⟨0, rfl, by decide⟩
  · rename_i n h
    split
    · exact ⟨0, rfl, by decide⟩
    · exact ⟨n, rfl, numV_nat h⟩
def rd4 (x : List UInt8) : Nat × Bool := ((number x 255).1.toNat, (number x 255).2)
theorem rd4_any (x : List UInt8) (w : World) : Calls Tryd.prog 31 #[str x] w fun e w' => e = .returned (.tuple #[.int .i64 ((rd4 x).1 : Int), .bool (rd4 x).2]) ∧ Below w.heap.size w w' := by
  obtain ⟨n, hn, hb⟩ := number_nat x 255
  have hr : rd4 x = (n, (number x 255).2) := by rw [rd4, hn]; rfl
  have hc := number_any x 255 w
  rw [hn] at hc
  rw [hr]
  generalize (number x 255).2 = b at hc
  simp only [str] at hc
  clear hn hr
  go_enter Tryd.func31, Tryd.ntmps31
  simp only [str]
  go_wp2_with (go_at_call 21; refine hc.mono ?_; rintro e w1 ⟨rfl, hb1⟩)
  go_ret2
  exact ⟨rfl, hb1⟩
theorem digF_lt : ∀ (l : List UInt8) (k n m : Nat), k ≤ 4 → n < 16 ^ k → digF k n l = some m → m < 65536 := by
  intro l
  induction l with
  | nil => intro k n m hk hn h; rw [digF] at h; cases h; exact Nat.lt_of_lt_of_le hn (Nat.pow_le_pow_right (by decide) hk)
  | cons c l ih =>
    intro k n m hk hn h
    rw [digF] at h
    split at h
    · cases h
    · split at h
      · cases h
      · rename_i h1 h2
        have := hexV_le c
        exact ih (k + 1) _ m (by omega) (by rw [Nat.pow_succ]; omega) h
theorem digits_lt (l : List UInt8) : (digits l).1 < 65536 := by
  rw [digits]
  split
  · decide
  · rename_i n h
    exact digF_lt l 0 0 n (by decide) (by decide) h
theorem rd4_lt (x : List UInt8) : (rd4 x).1 < 1000000000 := by
  obtain ⟨n, hn, hb⟩ := number_nat x 255
  rw [rd4, hn]
  simpa using hb

def parseA (w : Int) (l : List UInt8) : Ad × Int := if w = 32 then fieldsV rd4 46 4 8 l else if w = 128 then fieldsV digits 58 8 16 l else (⟨0, 0⟩, 1)
theorem parseA_ok (w : Int) (l : List UInt8) : (parseA w l).1.Ok := by
  unfold parseA
  split
  · exact fieldsV_ok _ _ _ _ _
  · split
    · exact fieldsV_ok _ _ _ _ _
    · exact ⟨by decide, by decide⟩
theorem eg31 : ∀ args w, (callFunc 31 args).run Tryd.prog w = .ok (.enter 31 args) w := enters_of Tryd.func31 (by kernel_rfl) rfl
theorem eg32 : ∀ args w, (callFunc 32 args).run Tryd.prog w = .ok (.enter 32 args) w := enters_of Tryd.func32 (by kernel_rfl) rfl

set_option maxHeartbeats 1600000 in
theorem parseAddr_any (n : Int) (l : List UInt8) (hl : l.length ≤ 1048576) (w : World) (hw : WOK w) :
    Calls Tryd.prog 11 #[.int .i64 n, str l] w fun e w' => e = .returned (.tuple #[(parseA n l).1.val, .int .i64 (parseA n l).2]) ∧ Below w.heap.size w w' := by
  obtain ⟨⟨m, hm⟩, h0, _⟩ := hw
  have hm1 : (w.alloc (.cells #[.int .u64 0, .int .u64 0] 24)).cell? ⟨0, 0, none⟩ = some (.int .i64 m) := (World.cell?_alloc_past _ _ _ h0).trans hm
  have HR := hide (Blk.new w 24 #[.int .u64 0, .int .u64 0])
  have HL := hide ((Below.refl w.heap.size w).alloc (Nat.le_refl _) (.cells #[.int .u64 0, .int .u64 0] 24))
  have h01 : 0 < (w.alloc (.cells #[.int .u64 0, .int .u64 0] 24)).heap.size := by simp
  by_cases h32 : n = 32
  · subst h32
    have hv : parseA 32 l = fieldsV rd4 46 4 8 l := rfl
    have hc := fields_any rd4 31 eg31 rd4_any (fun x => by have := rd4_lt x; omega) 46 4 8 l hl (by decide) (by decide) (by decide) m _ hm1 h01
    rw [hv]
    generalize fieldsV rd4 46 4 8 l = r at hc
    obtain ⟨a, e'⟩ := r
    clear hv hm hm1
    go_enter Tryd.func11, Tryd.ntmps11
    simp only [str]
    go_wp2_with fail
    refine hc.mono ?_
    rintro e w1 ⟨rfl, hb1⟩
    have HR1 := HR.out.below hb1 HR.out.lt
    have HL1 := HL.out.trans (hb1.mono HL.out.size)
    have d0 := HR1.cell 0
    have d1 := HR1.cell 1
    have f0 := HR1.frozen 0
    have f1 := HR1.frozen 1
    simp at d0 d1
    simp only [Ad.val]
    clear hb1
    go_wp2
    refine bodyPost_ret (results_blk_tmp (g := w.heap.size) (t := 24) (cs := a.cs) rfl rfl ((HR1.setL 0 _).setL 1 _) aA zA) rfl ⟨rfl, ?_⟩
    exact (HL1.setCell (Nat.le_refl _) _).setCell (Nat.le_refl _) _
  · by_cases h128 : n = 128
    · subst h128
      have hv : parseA 128 l = fieldsV digits 58 8 16 l := rfl
      have hc := fields_any digits 32 eg32 (fun x w => (digits_any x w).mono fun e w' ⟨h1, h2⟩ => ⟨h1, h2 ▸ Below.refl _ _⟩) (fun x => by have := digits_lt x; omega) 58 8 16 l hl (by decide) (by decide) (by decide) m _ hm1 h01
      rw [hv]
      generalize fieldsV digits 58 8 16 l = r at hc
      obtain ⟨a, e'⟩ := r
      clear hv hm hm1
      go_enter Tryd.func11, Tryd.ntmps11
      simp only [str]
      go_wp2_with fail
      refine hc.mono ?_
      rintro e w1 ⟨rfl, hb1⟩
      have HR1 := HR.out.below hb1 HR.out.lt
      have HL1 := HL.out.trans (hb1.mono HL.out.size)
      have d0 := HR1.cell 0
      have d1 := HR1.cell 1
      have f0 := HR1.frozen 0
      have f1 := HR1.frozen 1
      simp at d0 d1
      simp only [Ad.val]
      clear hb1
      go_wp2
      refine bodyPost_ret (results_blk_tmp (g := w.heap.size) (t := 24) (cs := a.cs) rfl rfl ((HR1.setL 0 _).setL 1 _) aA zA) rfl ⟨rfl, ?_⟩
      exact (HL1.setCell (Nat.le_refl _) _).setCell (Nat.le_refl _) _
    · have hv : parseA n l = (⟨0, 0⟩, 1) := by rw [parseA, if_neg h32, if_neg h128]
      rw [hv]
      go_enter Tryd.func11, Tryd.ntmps11
      simp only [str]
      go_wp2
      refine bodyPost_ret (results_blk_tmp (g := w.heap.size) (t := 24) (cs := (Ad.mk 0 0).cs) rfl rfl HR.out aA zA) rfl ⟨rfl, HL.out⟩
end Go.Proofs.YtaljphjcmkibkaaDoor
