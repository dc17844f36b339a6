/- The contract of written.Addr. Conditions: the words are below 2^64; what the library asks of the world. -/
import Derived.Test.YtaljphjcmkibkaaDoorWN
namespace Go.Proofs.YtaljphjcmkibkaaDoor
open Go.RowKit Go.WideShapes Go.ChangeShapes

theorem infoS : ∃ i, Tryd.prog.info? 9 = some i ∧ i.zero = some (.string ⟨#[]⟩) ∧ i.size = 1 ∧ i.bytes = 16 := ⟨Tryd.t9, by kernel_rfl, by kernel_rfl, by kernel_rfl, by kernel_rfl⟩
theorem itoa_any (n : Nat) (hn : n < 9223372036854775808) (w : World) (hw : WOK w) : Calls Tryd.prog 26 #[.int .i64 (n : Int)] w fun e w' => e = .returned (.string ⟨(Lib.itoa (n : Int)).toArray⟩) ∧ Below w.heap.size w w' := by
  refine (Tryd.strconv_Itoa (n : Int) (by omega) (by omega) w hw.2.2).mono fun e w' ⟨he, k, os, h⟩ => ⟨he, ?_⟩
  subst h
  exact ⟨rfl, rfl, rfl, by simp [Sort.grow], fun i hi => by simp only [Sort.grow]; exact Array.getElem?_append_left hi⟩

theorem itoa_len : ∀ n : Nat, n < 256 → (Lib.itoa (n : Int)).length ≤ 3 := by
  have h : ∀ n : Fin 256, (Lib.itoa ((n.val : Nat) : Int)).length ≤ 3 := by decide +kernel
  exact fun n hn => h ⟨n, hn⟩
def pc4 (a : Ad) (k : Nat) : List UInt8 := Lib.itoa (getV a (8 * k) 8 : Int)
def pc6 (a : Ad) (k : Nat) : List UInt8 := hexL (getV a (16 * k) 16) 4
def addrS (w : Int) (a : Ad) : List UInt8 :=
  if a.of w = false then [] else if w = 32 then Lib.join ((List.range 4).map (pc4 a)) [46] else Lib.join ((List.range 8).map (pc6 a)) [58]

theorem range_str (f : Nat → List UInt8) (k : Nat) : ((List.range (k + 1)).map fun j => str (f j)) = ((List.range k).map fun j => str (f j)) ++ [str (f k)] := by
  rw [List.range_succ, List.map_append]; rfl
theorem map_str_at (f : Nat → List UInt8) (n j : Nat) (x : List UInt8) (hx : ((List.range n).map f)[j]? = some x) : ((List.range n).map fun j => str (f j))[j]? = some (str x) := by
  rw [List.getElem?_map] at hx ⊢
  cases h : (List.range n)[j]? with
  | none => rw [h] at hx; cases hx
  | some q =>
    rw [h] at hx
    simp only [Option.map_some, Option.some.injEq] at hx ⊢
    rw [hx]
theorem str_one (ps : List (List UInt8)) : ∀ u ∈ ps.map str, u.oneCell' = true := by
  intro u hu
  rw [List.mem_map] at hu
  obtain ⟨p, _, rfl⟩ := hu
  rfl
theorem joinTail_len (sep : List UInt8) (b : Nat) : ∀ r : List (List UInt8), (∀ p ∈ r, p.length ≤ b) → (Lib.joinTail sep r).length ≤ r.length * (sep.length + b) := by
  intro r
  induction r with
  | nil => intro _; simp [Lib.joinTail]
  | cons p r ih =>
    intro h
    have h1 := ih (fun q hq => h q (by simp [hq]))
    have h2 := h p (by simp)
    simp only [Lib.joinTail, List.map_cons, List.flatten_cons, List.length_append, List.length_cons, Nat.succ_mul] at h1 ⊢
    omega
theorem join_any (g c : Nat) (ps : List (List UInt8)) (s : UInt8) (n : Nat) (hn : ps.length = n) (w : World) (hcells : ∀ (j : Nat) x, ps[j]? = some x → w.cell? ⟨g, 0 + j, none⟩ = some (str x)) (hg : g < w.heap.size) (hc : n ≤ c) (hlen : ∀ p ∈ ps, p.length ≤ 1000) (hn8 : n ≤ 100 := by decide) :
    Calls Tryd.prog 28 #[.slice (some ⟨g, 0, none⟩) n c, .string ⟨#[s]⟩] w fun e w' => e = .returned (.string ⟨(Lib.join ps [s]).toArray⟩) ∧ Below w.heap.size w w' := by
  subst hn
  have hm : ((ps.map bs).map (·.data.toList)) = ps := by
    rw [List.map_map]
    have : ((fun x : ByteArray => x.data.toList) ∘ bs) = id := by funext x; simp [bs]
    rw [this, List.map_id]
  have hl : (Lib.join ps [s]).length ≤ 1000000 := by
    cases ps with
    | nil => simp [Lib.join_nil]
    | cons p r =>
      rw [Lib.join_cons, List.length_append]
      have h1 := joinTail_len [s] 1000 r (fun q hq => hlen q (by simp [hq]))
      have h2 := hlen p (by simp)
      simp at h1 hn8
      omega
  have h := Tryd.strings_Join g 0 c (ps.map bs) (bs [s]) w (fun j x hx => by
    rw [List.getElem?_map] at hx
    cases hj : ps[j]? with
    | none => rw [hj] at hx; cases hx
    | some p => rw [hj] at hx; simp at hx; subst hx; exact hcells j p hj) hg (by simp; omega) (by simpa using hc) (by rw [hm, show (bs [s]).data.toList = [s] by simp [bs]]; omega)
  rw [hm, show (bs [s]).data.toList = [s] by simp [bs], List.length_map] at h
  exact h

set_option maxRecDepth 4000 in
set_option maxHeartbeats 3200000 in
theorem addr_any (n : Int) (a : Ad) (ha : a.Ok) (w : World) (hw : WOK w) : Calls Tryd.prog 10 #[.int .i64 n, a.val] w fun e w' => e = .returned (str (addrS n a)) ∧ Below w.heap.size w w' := by
  have hof := fun w => of_any n a ha w
  have hB : Below w.heap.size w (w.alloc (.cells a.cs 24)) := (Below.refl _ _).alloc (Nat.le_refl _) _
  have HA := hide (Blk.new w 24 a.cs)
  have HL := hide hB
  have HW0 := hide hw
  clear hB hw
  by_cases hf : a.of n = true
  · rw [hf] at hof
    by_cases h32 : n = 32
    · have hv : addrS n a = Lib.join ((List.range 4).map (pc4 a)) [46] := by rw [addrS, hf, if_neg (by decide), if_pos h32]
      have HV := hide hv
      subst h32
      obtain ⟨i0, hi0, hz0, hz1, hz2⟩ := infoS
      clear hv
      go_enter Tryd.func10, Tryd.ntmps10
      simp only [Ad.val]
      go_wp2_with fail
      refine (hof _).mono ?_
      rintro e w1 ⟨rfl, hb1⟩
      have HA1 := hide (HA.out.below hb1 HA.out.lt)
      have HL1 := hide (HL.out.trans (hb1.mono HL.out.size))
      clear hb1 HA HL
      go_wp2
      go_loopw [5, 14] (fun v i wr => ∃ (k : Nat) (A : Option Addr) (c : Nat), k ≤ 4 ∧ v = .slice A k c ∧ i = .int .i64 (k : Int) ∧ Hid (wr.ownsRow (w.heap.size + 1) 9 1 (.slice A k c) k ((List.range k).map fun j => str (pc4 a j))) ∧ Hid (Blk wr w.heap.size 24 a.cs) ∧ Hid (Below w.heap.size w wr)) (fun _ i _ => 4 - (intOf i).toNat)
      case atStart => exact ⟨0, none, 0, Nat.zero_le _, rfl, rfl, hide (World.ownsRow_nil _ _ _ _), HA1, HL1⟩
      case round =>
        obtain ⟨k, A, c, hk, rfl, rfl, HO, HA, HL⟩ := hrel
        clear HA1 HL1
        by_cases hlt : k < 4
        · have hltI : (k : Int) < 4 := by omega
          obtain ⟨g, hg⟩ : ∃ g : Nat, g = 8 * k := ⟨_, rfl⟩
          have hgI : (8 : Int) * (k : Int) = (g : Int) := by omega
          have hpc : pc4 a k = Lib.itoa (getV a g 8 : Int) := by rw [hg]; rfl
          have hget := fun w => get_any a ha g 8 (by omega) (by decide) w
          have hvl : getV a g 8 < 256 := getV_lt a g 8
          generalize getV a g 8 = z at hpc hget hvl
          have hit := fun w hw => itoa_any z (by omega) w hw
          have hpl := itoa_len z hvl
          rw [← hpc] at hit hpl
          have hr := range_str (pc4 a) k
          generalize pc4 a k = p at hit hpl hr
          have HRG := hide hr
          have hp1 := str_one [p]
          have c0 := HA.out.cell 0
          have c1 := HA.out.cell 1
          simp only [Ad.cs, List.getElem?_toArray, List.getElem?_cons_zero, List.getElem?_cons_succ] at c0 c1
          clear hpc hr hg
          go_wp2_with fail
          refine (hget wr).mono ?_
          rintro e w2 ⟨rfl, hb2⟩
          have HA2 := hide (HA.out.below hb2 HA.out.lt)
          have HL2 := hide (HL.out.trans (hb2.mono HL.out.size))
          have HO2 := hide (own_only HO.out (Only.of_below (S := fun _ => False) hb2) (fun _ _ => not_false))
          clear hb2 HA HL HO c0 c1
          go_wp2_with fail
          refine (hit w2 (HW0.out.later HL2.out)).mono ?_
          rintro e w3 ⟨rfl, hb3⟩

          have HA3 := hide (HA2.out.below hb3 HA2.out.lt)
          have HL3 := hide (HL2.out.trans (hb3.mono HL2.out.size))
          have HO3 := hide (own_only HO2.out (Only.of_below (S := fun _ => False) hb3) (fun _ _ => not_false))
          clear hb3 HA2 HL2 HO2 hget hit
          go_wp2_with (at_builtin; refine wpList_append_any _ rfl (.tmp 17) (.tmp 23) _ rfl (w.heap.size + 1) 9 i0 _ 1 16 Tryd.underlying54 hi0 hz0 hz1 hz2 rfl (by omega) (.slice A k c) k _ rfl (HO3.out.alloc _) (w3.heap.size + 1) (some ⟨w3.heap.size, 0, none⟩) 1 1 [str p] rfl ?_ ?_ ?_ ?_ ?_ ?_)
          · refine ⟨rfl, fun _ => ⟨_, rfl, by simp, fun j u hu => ?_⟩⟩
            rw [Addr.add_lit, Nat.zero_add]
            exact ((Blk.new w3 9 #[str p]).cell j).trans (by simpa using hu)
          · simpa using hp1
          · simp only [maxLen]; omega
          · omega
          · have := HL3.out.size; have := HA3.out.lt; simp; omega
          · intro v' w4 hown hgr hor
            obtain ⟨A4, c4, rfl⟩ := ownsRow_form hown
            have hne : some w.heap.size ≠ (Value.slice A k c).ownBlock := fun e => by have := (HO3.out.lt _ e.symm).1; omega
            have HA4 := hide ((HA3.out.alloc (.cells #[str p] 9)).grown hgr hne)
            have HL4 := hide ((HL3.out.alloc HL3.out.size (.cells #[str p] 9)).grown hgr (by have := HL3.out.size; simp; omega) (fun g hg => by have := (HO3.out.lt _ hg).1; omega))
            have HO4 := hide hown
            clear hown hgr hor hne HA3 HL3 HO3
            go_wp2
            go_roundw
            case rel => exact ⟨k + 1, A4, c4, by omega, rfl, by go_num, by rw [HRG.out]; exact HO4, HA4, HL4⟩
            case measure => simp [intOf]; omega
        · have hltI : ¬ (k : Int) < 4 := by omega
          obtain rfl : k = 4 := by omega
          obtain ⟨gb, cap, hAv, hgB, hglt⟩ := HO.out.form (by decide)
          obtain rfl : A = some ⟨gb, 0, none⟩ := by injection hAv
          have hcells := HO.out.cells (g := gb) rfl
          have hcap := own_cap HO.out
          have hjoin := join_any gb c ((List.range 4).map (pc4 a)) 46 4 (by simp) wr (fun j x hx => by
            have := hcells j (str x) (map_str_at _ _ _ _ hx)
            simpa [Addr.add_lit] using this) hglt hcap (by
              intro p hp
              rw [List.mem_map] at hp
              obtain ⟨j, _, rfl⟩ := hp
              exact Nat.le_trans (itoa_len _ (getV_lt a _ 8)) (by decide))
          have HJ := hide hjoin
          have HLL := HL
          clear hcells hjoin HO HA HL hgB hAv
          go_wp2_with (go_at_call 28; refine HJ.out.mono ?_; rintro e w6 ⟨rfl, hb6⟩)
          go_ret
          exact ⟨by rw [HV.out]; rfl, HLL.out.trans (hb6.mono HLL.out.size)⟩
    · have h128 : n = 128 := by
        rw [Ad.of, Bool.and_eq_true, fam] at hf
        have := hf.1
        simp at this
        omega
      have hv : addrS n a = Lib.join ((List.range 8).map (pc6 a)) [58] := by rw [addrS, hf, if_neg (by decide), if_neg h32]
      have HV := hide hv
      subst h128
      obtain ⟨i0, hi0, hz0, hz1, hz2⟩ := infoS
      clear hv
      go_enter Tryd.func10, Tryd.ntmps10
      simp only [Ad.val]
      go_wp2_with fail
      refine (hof _).mono ?_
      rintro e w1 ⟨rfl, hb1⟩
      have HA1 := hide (HA.out.below hb1 HA.out.lt)
      have HL1 := hide (HL.out.trans (hb1.mono HL.out.size))
      clear hb1 HA HL
      go_wp2
      go_loopw [5, 28] (fun v i wr => ∃ (k : Nat) (A : Option Addr) (c : Nat), k ≤ 8 ∧ v = .slice A k c ∧ i = .int .i64 (k : Int) ∧ Hid (wr.ownsRow (w.heap.size + 1) 9 1 (.slice A k c) k ((List.range k).map fun j => str (pc6 a j))) ∧ Hid (Blk wr w.heap.size 24 a.cs) ∧ Hid (Below w.heap.size w wr)) (fun _ i _ => 8 - (intOf i).toNat)
      case atStart => exact ⟨0, none, 0, Nat.zero_le _, rfl, rfl, hide (World.ownsRow_nil _ _ _ _), HA1, HL1⟩
      case round =>
        obtain ⟨k, A, c, hk, rfl, rfl, HO, HA, HL⟩ := hrel
        clear HA1 HL1
        by_cases hlt : k < 8
        · have hltI : (k : Int) < 8 := by omega
          obtain ⟨g, hg⟩ : ∃ g : Nat, g = 16 * k := ⟨_, rfl⟩
          have hgI : (16 : Int) * (k : Int) = (g : Int) := by omega
          have hpc : pc6 a k = hexL (getV a g 16) 4 := by rw [hg]; rfl
          have hget := fun w => get_any a ha g 16 (by omega) (by decide) w
          have hvl : getV a g 16 < 65536 := getV_lt a g 16
          generalize getV a g 16 = z at hpc hget hvl
          have hit := fun w => group_any z hvl w
          have hpl := hexL_length z 4
          rw [← hpc] at hit hpl
          simp only [str] at hit
          have hr := range_str (pc6 a) k
          generalize pc6 a k = p at hit hpl hr
          have HRG := hide hr
          have hp1 := str_one [p]
          have c0 := HA.out.cell 0
          have c1 := HA.out.cell 1
          simp only [Ad.cs, List.getElem?_toArray, List.getElem?_cons_zero, List.getElem?_cons_succ] at c0 c1
          clear hpc hr hg
          go_wp2_with fail
          refine (hget wr).mono ?_
          rintro e w2 ⟨rfl, hb2⟩
          have HA2 := hide (HA.out.below hb2 HA.out.lt)
          have HL2 := hide (HL.out.trans (hb2.mono HL.out.size))
          have HO2 := hide (own_only HO.out (Only.of_below (S := fun _ => False) hb2) (fun _ _ => not_false))
          clear hb2 HA HL HO c0 c1
          go_wp2_with fail
          refine (hit w2 ).mono ?_
          rintro e w3 ⟨rfl, hw3⟩
          have hb3 : Below w2.heap.size w2 w3 := hw3 ▸ Below.refl _ _
          have HA3 := hide (HA2.out.below hb3 HA2.out.lt)
          have HL3 := hide (HL2.out.trans (hb3.mono HL2.out.size))
          have HO3 := hide (own_only HO2.out (Only.of_below (S := fun _ => False) hb3) (fun _ _ => not_false))
          clear hb3 HA2 HL2 HO2 hget hit hw3
          go_wp2_with (at_builtin; refine wpList_append_any _ rfl (.tmp 31) (.tmp 37) _ rfl (w.heap.size + 1) 9 i0 _ 1 16 Tryd.underlying54 hi0 hz0 hz1 hz2 rfl (by omega) (.slice A k c) k _ rfl (HO3.out.alloc _) (w3.heap.size + 1) (some ⟨w3.heap.size, 0, none⟩) 1 1 [str p] rfl ?_ ?_ ?_ ?_ ?_ ?_)
          · refine ⟨rfl, fun _ => ⟨_, rfl, by simp, fun j u hu => ?_⟩⟩
            rw [Addr.add_lit, Nat.zero_add]
            exact ((Blk.new w3 9 #[str p]).cell j).trans (by simpa using hu)
          · simpa using hp1
          · simp only [maxLen]; omega
          · omega
          · have := HL3.out.size; have := HA3.out.lt; simp; omega
          · intro v' w4 hown hgr hor
            obtain ⟨A4, c4, rfl⟩ := ownsRow_form hown
            have hne : some w.heap.size ≠ (Value.slice A k c).ownBlock := fun e => by have := (HO3.out.lt _ e.symm).1; omega
            have HA4 := hide ((HA3.out.alloc (.cells #[str p] 9)).grown hgr hne)
            have HL4 := hide ((HL3.out.alloc HL3.out.size (.cells #[str p] 9)).grown hgr (by have := HL3.out.size; simp; omega) (fun g hg => by have := (HO3.out.lt _ hg).1; omega))
            have HO4 := hide hown
            clear hown hgr hor hne HA3 HL3 HO3
            go_wp2
            go_roundw
            case rel => exact ⟨k + 1, A4, c4, by omega, rfl, by go_num, by rw [HRG.out]; exact HO4, HA4, HL4⟩
            case measure => simp [intOf]; omega
        · have hltI : ¬ (k : Int) < 8 := by omega
          obtain rfl : k = 8 := by omega
          obtain ⟨gb, cap, hAv, hgB, hglt⟩ := HO.out.form (by decide)
          obtain rfl : A = some ⟨gb, 0, none⟩ := by injection hAv
          have hcells := HO.out.cells (g := gb) rfl
          have hcap := own_cap HO.out
          have hjoin := join_any gb c ((List.range 8).map (pc6 a)) 58 8 (by simp) wr (fun j x hx => by
            have := hcells j (str x) (map_str_at _ _ _ _ hx)
            simpa [Addr.add_lit] using this) hglt hcap (by
              intro p hp
              rw [List.mem_map] at hp
              obtain ⟨j, _, rfl⟩ := hp
              exact Nat.le_trans (Nat.le_of_eq (hexL_length _ 4)) (by decide))
          have HJ := hide hjoin
          have HLL := HL
          clear hcells hjoin HO HA HL hgB hAv
          go_wp2_with (go_at_call 28; refine HJ.out.mono ?_; rintro e w6 ⟨rfl, hb6⟩)
          go_ret
          exact ⟨by rw [HV.out]; rfl, HLL.out.trans (hb6.mono HLL.out.size)⟩
  · have hf : a.of n = false := by simpa using hf
    have hv : addrS n a = [] := by rw [addrS, if_pos hf]
    rw [hf] at hof
    rw [hv]
    clear hv
    go_enter Tryd.func10, Tryd.ntmps10
    simp only [Ad.val]
    go_wp2_with fail
    refine (hof _).mono ?_
    rintro e w1 ⟨rfl, hb1⟩
    go_wp2
    go_ret
    exact ⟨rfl, HL.out.trans (hb1.mono HL.out.size)⟩
end Go.Proofs.YtaljphjcmkibkaaDoor
