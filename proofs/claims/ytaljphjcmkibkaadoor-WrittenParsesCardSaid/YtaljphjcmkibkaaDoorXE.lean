/- The contracts of the reference's split and four. Conditions: at most 2^20 bytes. -/
import Derived.Test.YtaljphjcmkibkaaDoorWW
namespace Go.Proofs.YtaljphjcmkibkaaDoor
open Go.RowKit Go.WideShapes Go.ChangeShapes

/-! ### four -/
def hF : Nat → List UInt8 → Option Nat
  | n, [] => some n
  | n, c :: l => if hexV c < 0 then none else hF (16 * n + (hexV c).toNat) l
def fourI (l : List UInt8) : Int := if (digits l).2 then ((digits l).1 : Int) else -1
theorem hexV_cases : ∀ c : UInt8, hexV c = if 48 ≤ c.toNat ∧ c.toNat ≤ 57 then (c.toNat : Int) - 48 else if 97 ≤ c.toNat ∧ c.toNat ≤ 102 then (c.toNat : Int) - 87 else -1 := by
  have h : ∀ n : Fin 256, hexV (UInt8.ofNat n.val) = if 48 ≤ (UInt8.ofNat n.val).toNat ∧ (UInt8.ofNat n.val).toNat ≤ 57 then ((UInt8.ofNat n.val).toNat : Int) - 48 else if 97 ≤ (UInt8.ofNat n.val).toNat ∧ (UInt8.ofNat n.val).toNat ≤ 102 then ((UInt8.ofNat n.val).toNat : Int) - 87 else -1 := by decide +kernel
  intro c
  have := h ⟨c.toNat, c.toNat_lt⟩
  simpa using this
theorem hF_snoc (c : UInt8) : ∀ (l : List UInt8) (a n : Nat), hF a l = some n → hF a (l ++ [c]) = if hexV c < 0 then none else some (16 * n + (hexV c).toNat)
  | [], a, n, h => by injection h with h; subst h; rfl
  | x :: l, a, n, h => by
    rw [hF] at h
    rw [List.cons_append, hF]
    split at h
    · cases h
    · rename_i hx; rw [if_neg hx]; exact hF_snoc c l _ n h
theorem hF_bad {c : UInt8} (hc : hexV c < 0) : ∀ (l : List UInt8) (a : Nat), c ∈ l → hF a l = none
  | [], _, h => absurd h (by simp)
  | x :: l, a, h => by
    rw [hF]
    rcases List.mem_cons.1 h with e | e
    · rw [← e, if_pos hc]
    · split
      · rfl
      · exact hF_bad hc l _ e
theorem digF_hF : ∀ (l : List UInt8) (k n : Nat), l.length + k ≤ 4 → digF k n l = hF n l
  | [], _, _, _ => rfl
  | x :: l, k, n, h => by
    simp only [List.length_cons] at h
    rw [digF, hF]
    split
    · rfl
    · rw [if_neg (by omega), digF_hF l (k + 1) _ (by omega)]
theorem fourI_len {l : List UInt8} (h : l.length ≠ 4) : fourI l = -1 := by
  have : (digits l).2 = false := by
    unfold digits
    split
    · rfl
    · simp [h]
  rw [fourI, this]; rfl
theorem fourI_bad {l : List UInt8} {c : UInt8} (hm : c ∈ l) (hc : hexV c < 0) : fourI l = -1 := by
  by_cases h : l.length = 4
  · have hd : digF 0 0 l = none := by rw [digF_hF l 0 0 (by omega), hF_bad hc l 0 hm]
    have : (digits l).2 = false := by unfold digits; rw [hd]
    rw [fourI, this]; rfl
  · exact fourI_len h
theorem fourI_ok {l : List UInt8} {n : Nat} (h : l.length = 4) (hn : hF 0 l = some n) : fourI l = (n : Int) := by
  have hd : digF 0 0 l = some n := by rw [digF_hF l 0 0 (by omega), hn]
  have : digits l = (n, true) := by unfold digits; rw [hd]; simp [h]
  rw [fourI, this]; rfl

set_option maxRecDepth 8000 in
set_option maxHeartbeats 3200000 in
theorem four_any (l : List UInt8) (w : World) : Calls Tryd.prog 37 #[str l] w fun e w' => e = .returned (.int .i64 (fourI l)) ∧ w' = w := by
  have hlen := run_len l
  go_enter Tryd.func37, Tryd.ntmps37
  simp only [str]
  go_wp2
  go_loopw [3, 4] (fun v i wr => ∃ k n : Nat, k ≤ l.length ∧ k ≤ 5 ∧ v = .int .i64 (n : Int) ∧ i = .int .i64 (k : Int) ∧ n < 16 ^ k ∧ Hid (hF 0 (l.take k) = some n) ∧ Hid (wr = w)) (fun _ i _ => l.length - (intOf i).toNat)
  case atStart => exact ⟨0, 0, Nat.zero_le _, by decide, rfl, rfl, by decide, hide rfl, hide rfl⟩
  case round =>
    obtain ⟨k, n, hk, hk5, rfl, rfl, hn, HD, HW⟩ := hrel
    by_cases hlt : k < l.length
    · have hltI : (k : Int) < (l.length : Int) := by omega
      by_cases h5 : k < 5
      · have h5I : (k : Int) < 5 := by omega
        have hat := run_at l k hlt
        have htk : l.take (k + 1) = l.take k ++ [l[k]] := List.take_succ_eq_append_getElem hlt
        have hmem : l[k] ∈ l := List.getElem_mem _
        generalize l[k] = c at hat htk hmem
        have hx8 := c.toNat_lt
        have hcs := hexV_cases c
        have hsn := hF_snoc c (l.take k) 0 n HD.out
        rw [← htk] at hsn
        have hp : (16 : Nat) ^ k ≤ 16 ^ 4 := Nat.pow_le_pow_right (by decide) (by omega)
        have hn2 : n < 65536 := Nat.lt_of_lt_of_le hn hp
        have hps : (16 : Nat) ^ (k + 1) = 16 ^ k * 16 := Nat.pow_succ _ _
        have HPS := hide hps
        have HN := hide hn
        clear hps hn hp htk
        by_cases hA : c.toNat < 48
        · have hneg : hexV c < 0 := by rw [hcs, if_neg (by omega), if_neg (by omega)]; omega
          have HV := hide (fourI_bad hmem hneg)
          have i1 : ¬ (48 : Int) ≤ ((c.toNat : Nat) : Int) := by omega
          have i2 : ¬ (97 : Int) ≤ ((c.toNat : Nat) : Int) := by omega
          generalize c.toNat = x at hat i1 i2
          clear hcs hsn hx8 hA hneg hmem
          go_wp2
          go_ret
          exact ⟨by rw [HV.out]; rfl, HW.out⟩
        · by_cases hB : c.toNat ≤ 57
          · obtain ⟨d, hd⟩ : ∃ d : Nat, c.toNat = 48 + d := ⟨c.toNat - 48, by omega⟩
            have hv : hexV c = (d : Int) := by rw [hcs, if_pos ⟨by omega, hB⟩]; omega
            rw [hv, if_neg (by omega), Int.toNat_natCast] at hsn
            have HSN := hide hsn
            have i1 : (48 : Int) ≤ ((c.toNat : Nat) : Int) := by omega
            have i2 : ((c.toNat : Nat) : Int) ≤ 57 := by omega
            have i3 : ¬ (97 : Int) ≤ ((c.toNat : Nat) : Int) := by omega
            have i4 : ((c.toNat : Nat) : Int) - 48 = (d : Int) := by omega
            have hd9 : d ≤ 9 := by omega
            generalize c.toNat = x at hat i1 i2 i3 i4
            clear hcs hsn hx8 hA hB hmem hd hv
            go_wp2
            refine ⟨⟨k + 1, 16 * n + d, by omega, by omega, ?_, by go_num, ?_, HSN, HW⟩, ?_⟩
            · congr 1; omega
            · have := HPS.out; have := HN.out; omega
            · simp only [intOf]; omega
          · by_cases hC : c.toNat < 97
            · have hneg : hexV c < 0 := by rw [hcs, if_neg (by omega), if_neg (by omega)]; omega
              have HV := hide (fourI_bad hmem hneg)
              have i1 : (48 : Int) ≤ ((c.toNat : Nat) : Int) := by omega
              have i2 : ¬ ((c.toNat : Nat) : Int) ≤ 57 := by omega
              have i3 : ¬ (97 : Int) ≤ ((c.toNat : Nat) : Int) := by omega
              generalize c.toNat = x at hat i1 i2 i3
              clear hcs hsn hx8 hA hB hC hneg hmem
              go_wp2
              go_ret
              exact ⟨by rw [HV.out]; rfl, HW.out⟩
            · by_cases hD : c.toNat ≤ 102
              · obtain ⟨d, hd⟩ : ∃ d : Nat, c.toNat = 97 + d := ⟨c.toNat - 97, by omega⟩
                have hv : hexV c = ((d + 10 : Nat) : Int) := by rw [hcs, if_neg (by omega), if_pos ⟨by omega, hD⟩]; omega
                rw [hv, if_neg (by omega), Int.toNat_natCast] at hsn
                have HSN := hide hsn
                have i1 : (48 : Int) ≤ ((c.toNat : Nat) : Int) := by omega
                have i2 : ¬ ((c.toNat : Nat) : Int) ≤ 57 := by omega
                have i3 : (97 : Int) ≤ ((c.toNat : Nat) : Int) := by omega
                have i5 : ((c.toNat : Nat) : Int) ≤ 102 := by omega
                have i4 : ((c.toNat : Nat) : Int) - 97 = (d : Int) := by omega
                have hd9 : d ≤ 5 := by omega
                generalize c.toNat = x at hat i1 i2 i3 i4 i5
                clear hcs hsn hx8 hA hB hC hD hmem hd hv
                go_wp2
                refine ⟨⟨k + 1, 16 * n + (d + 10), by omega, by omega, ?_, by go_num, ?_, HSN, HW⟩, ?_⟩
                · congr 1; omega
                · have := HPS.out; have := HN.out; omega
                · simp only [intOf]; omega
              · have hneg : hexV c < 0 := by rw [hcs, if_neg (by omega), if_neg (by omega)]; omega
                have HV := hide (fourI_bad hmem hneg)
                have i1 : (48 : Int) ≤ ((c.toNat : Nat) : Int) := by omega
                have i2 : ¬ ((c.toNat : Nat) : Int) ≤ 57 := by omega
                have i3 : (97 : Int) ≤ ((c.toNat : Nat) : Int) := by omega
                have i4 : ¬ ((c.toNat : Nat) : Int) ≤ 102 := by omega
                generalize c.toNat = x at hat i1 i2 i3 i4
                clear hcs hsn hx8 hA hB hC hD hneg hmem
                go_wp2
                go_ret
                exact ⟨by rw [HV.out]; rfl, HW.out⟩
      · have h5I : ¬ (k : Int) < 5 := by omega
        have hne : ((l.length : Nat) : Int) ≠ 4 := by omega
        have HV := hide (fourI_len (l := l) (by omega))
        clear hk5 hn
        go_wp2
        go_ret
        exact ⟨by rw [HV.out]; rfl, HW.out⟩
    · have hltI : ¬ (k : Int) < (l.length : Int) := by omega
      have hkl : k = l.length := by omega
      by_cases h4 : l.length = 4
      · have h4I : ((l.length : Nat) : Int) = 4 := by omega
        have hd := HD.out
        rw [hkl, List.take_length] at hd
        have HV := hide (fourI_ok h4 hd)
        clear hn hd hkl
        go_wp2
        go_ret
        exact ⟨by rw [HV.out]; rfl, HW.out⟩
      · have hne : ((l.length : Nat) : Int) ≠ 4 := by omega
        have HV := hide (fourI_len (l := l) h4)
        clear hn hkl
        go_wp2
        go_ret
        exact ⟨by rw [HV.out]; rfl, HW.out⟩

/-! ### split -/
theorem own_new1 (w : World) (e : TypeId) (u : Value) (b : Nat) (hb : b ≤ w.heap.size) : (w.alloc (.cells #[u] e)).ownsRow b e 1 (.slice (some ⟨w.heap.size, 0, none⟩) 1 1) 1 [u] :=
  ⟨rfl, .inr ⟨w.heap.size, 1, #[u], rfl, hb, heap_alloc_new w _, Nat.le_refl _, by decide, rfl, rfl⟩⟩
theorem own_set {w : World} {b e n g c : Nat} {xs : List Value} (h : w.ownsRow b e 1 (.slice (some ⟨g, 0, none⟩) n c) n xs) (i : Nat) (u : Value) (hi : i < n) :
    (w.setCell ⟨g, i, none⟩ u).ownsRow b e 1 (.slice (some ⟨g, 0, none⟩) n c) n (xs.set i u) := by
  refine ⟨by rw [List.length_set]; exact h.1, .inr ?_⟩
  rcases h.2 with ⟨h0, _⟩ | ⟨g', cap, cur, hv, hb, hg, hc, hm, hs, ht⟩
  · cases h0
  · injection hv with e1 _ e2
    injection e1 with e1
    injection e1 with e1
    subst e1; subst e2
    have hbk : Blk w g e cur := hg
    refine ⟨g, c, cur.setIfInBounds i u, rfl, hb, hbk.set_ i u, hc, hm, by simpa using hs, ?_⟩
    rw [← ht]
    simp [List.take_set]
theorem splitL_snoc (c x : UInt8) : ∀ l : List UInt8, splitL c (l ++ [x]) = if x = c then splitL c l ++ [[]] else (splitL c l).set ((splitL c l).length - 1) ((splitL c l).getLastD [] ++ [x])
  | [] => by
    by_cases hx : x = c
    · simp [splitL, hx]
    · simp [splitL, hx]
  | y :: l => by
    have ih := splitL_snoc c x l
    have hne := splitL_ne c l
    rw [List.cons_append]
    by_cases hx : x = c
    · rw [if_pos hx] at ih ⊢
      by_cases hy : y = c
      · simp only [splitL, if_pos hy]
        rw [ih]; rfl
      · simp only [splitL, if_neg hy]
        rw [ih]
        cases hs : splitL c l with
        | nil => exact absurd hs hne
        | cons p ps => simp
    · rw [if_neg hx] at ih ⊢
      by_cases hy : y = c
      · simp only [splitL, if_pos hy]
        rw [ih]
        cases hs : splitL c l with
        | nil => exact absurd hs hne
        | cons p ps => simp
      · simp only [splitL, if_neg hy]
        rw [ih]
        cases hs : splitL c l with
        | nil => exact absurd hs hne
        | cons p ps =>
          cases ps with
          | nil => simp
          | cons q qs => simp
theorem run_cut1 (l : List UInt8) (k : Nat) (hk : k < l.length) (w : World) : (Instr.slice 9 (.string ⟨l.toArray⟩) (some (.int .i64 (k : Int))) (some (.int .i64 ((k : Int) + 1))) none).run Tryd.prog w = .ok (.string ⟨#[l[k]]⟩) w := by
  rw [run_slice_string w 9 _ .i64 .i64 _ _ Tryd.underlying9 (by omega) (by omega) (by simp [ByteArray.size]; omega), ByteArray.extract_mk]
  congr 3
  have : ((k : Int) + 1).toNat - (k : Int).toNat = 1 := by omega
  rw [this, Int.toNat_natCast, List.drop_eq_getElem_cons hk]
  rfl
theorem splitL_len_le (c : UInt8) : ∀ l : List UInt8, ∀ p ∈ splitL c l, p.length ≤ l.length
  | [], p, h => by simp [splitL] at h; simp [h]
  | x :: l, p, h => by
    have ih := splitL_len_le c l
    rw [splitL] at h
    split at h
    · rcases List.mem_cons.1 h with e | e
      · simp [e]
      · have := ih p e; simp; omega
    · cases hs : splitL c l with
      | nil => exact absurd hs (splitL_ne c l)
      | cons q qs =>
        rw [hs] at h ih
        rcases List.mem_cons.1 h with e | e
        · have := ih q (by simp); rw [e]; simp; omega
        · have := ih p (by simp [e]); simp; omega

set_option maxRecDepth 8000 in
set_option maxHeartbeats 3200000 in
theorem refSplit_any (c : UInt8) (l : List UInt8) (hl : l.length ≤ 1048576) (w : World) : Calls Tryd.prog 36 #[str l, .int .u8 ((c.toNat : Nat) : Int)] w fun e w' => ∃ g cp, e = .returned (.slice (some ⟨g, 0, none⟩) (splitL c l).length cp) ∧ w'.ownsRow w.heap.size 9 1 (.slice (some ⟨g, 0, none⟩) (splitL c l).length cp) (splitL c l).length ((splitL c l).map str) ∧ Below w.heap.size w w' := by
  have hlen := run_len l
  obtain ⟨i0, hi0, hz0, hz1, hz2⟩ := infoS
  have HN := hide (own_new1 w 9 (.string ⟨#[]⟩) w.heap.size (Nat.le_refl _))
  have HL := hide ((Below.refl w.heap.size w).alloc (Nat.le_refl _) (.cells #[.string ⟨#[]⟩] 9))
  go_enter Tryd.func36, Tryd.ntmps36
  simp only [str]
  go_wp2
  go_loopw [5, 6] (fun v i wr => ∃ k g n cp : Nat, k ≤ l.length ∧ v = .slice (some ⟨g, 0, none⟩) n cp ∧ i = .int .i64 (k : Int) ∧ 0 < n ∧ n ≤ k + 1 ∧ Hid (n = (splitL c (l.take k)).length) ∧ Hid (wr.ownsRow w.heap.size 9 1 (.slice (some ⟨g, 0, none⟩) n cp) n ((splitL c (l.take k)).map str)) ∧ Hid (Below w.heap.size w wr)) (fun _ i _ => l.length - (intOf i).toNat)
  case atStart => exact ⟨0, w.heap.size, 1, 1, Nat.zero_le _, rfl, rfl, by decide, by decide, hide rfl, HN, HL⟩
  case round =>
    obtain ⟨k, g, n, cp, hk, rfl, rfl, hn, hnk, HC, HO, HB⟩ := hrel
    clear HN HL
    by_cases hlt : k < l.length
    · have hltI : (k : Int) < (l.length : Int) := by omega
      have hat := run_at l k hlt
      have hcut := run_cut1 l k hlt
      have htk : l.take (k + 1) = l.take k ++ [l[k]] := List.take_succ_eq_append_getElem hlt
      generalize l[k] = x at hat htk hcut
      have hsn := splitL_snoc c x (l.take k)
      rw [← htk] at hsn
      by_cases hx : x = c
      · subst hx
        rw [if_pos rfl] at hsn
        have HS := hide hsn
        clear hsn htk hcut
        go_wp2_with (at_builtin; refine wpList_append_any _ rfl (.tmp 19) (.tmp 20) _ rfl w.heap.size 9 i0 _ 1 16 Tryd.underlying54 hi0 hz0 hz1 hz2 rfl (by omega) (.slice (some ⟨g, 0, none⟩) n cp) n _ rfl (HO.out.alloc _) (wr.heap.size + 1) (some ⟨wr.heap.size, 0, none⟩) 1 1 [str []] rfl ?_ ?_ ?_ ?_ ?_ ?_)
        · refine ⟨rfl, fun _ => ⟨_, rfl, by simp, fun j u hu => ?_⟩⟩
          rw [Addr.add_lit, Nat.zero_add]
          exact ((Blk.new wr 9 #[str []]).cell j).trans (by simpa using hu)
        · exact str_one [[]]
        · simp only [maxLen]; omega
        · omega
        · have := HB.out.size; simp; omega
        · intro v' w4 hown hgr hor
          obtain ⟨g4, c4, rfl, hg4, _⟩ := hown.form (by omega)
          have HB4 := hide ((HB.out.alloc HB.out.size (.cells #[str []] 9)).grown hgr (by have := HB.out.size; simp; omega) (fun q hq => by
            have h2 : g = q := by simpa [Value.ownBlock] using hq
            obtain ⟨g', c', e', hb', _⟩ := HO.out.form hn
            injection e' with e1 _ _
            injection e1 with e1
            injection e1 with e1
            omega))
          have HO4 := hide hown
          have hc4 : n + 1 = (splitL x (l.take (k + 1))).length := by rw [HS.out, List.length_append, ← HC.out]; rfl
          have HC4 := hide hc4
          clear hown hgr hor HB HO hc4 hg4
          go_wp2
          go_roundw
          case rel => exact ⟨k + 1, g4, n + 1, c4, by omega, rfl, by go_num, by omega, by omega, HC4, by rw [HS.out, List.map_append]; exact HO4, HB4⟩
          case measure => simp [intOf]; omega
      · rw [if_neg hx] at hsn
        obtain ⟨m, hm⟩ : ∃ m : Nat, n = m + 1 := ⟨n - 1, by omega⟩
        have hmI : (n : Int) - 1 = (m : Int) := by omega
        have hm0 : (m : Int) < (n : Int) := by omega
        have hxne : ((x.toNat : Nat) : Int) ≠ ((c.toNat : Nat) : Int) := fun e => hx (UInt8.toNat_inj.1 (by omega))
        have hle := splitL_len_le c (l.take k)
        have htl : (l.take k).length ≤ 1048576 := by rw [List.length_take]; omega
        have hC := HC.out
        have hlast : (splitL c (l.take k))[m]? = some ((splitL c (l.take k)).getLastD []) := by
          have h0 : splitL c (l.take k) ≠ [] := splitL_ne _ _
          rw [List.getLastD_eq_getLast?, List.getLast?_eq_getElem?, ← hC, show n - 1 = m by omega]
          rw [List.getElem?_eq_getElem (by omega)]; rfl
        have hll : ((splitL c (l.take k)).getLastD []).length ≤ 1048576 := Nat.le_trans (hle _ (List.mem_of_getElem? hlast)) htl
        have hcell := HO.out.cells (g := g) rfl m (str ((splitL c (l.take k)).getLastD [])) (by rw [List.getElem?_map, hlast]; rfl)
        have hset : ((splitL c (l.take k)).map str).set m (str ((splitL c (l.take k)).getLastD [] ++ [x])) = (splitL c (l.take (k + 1))).map str := by
          rw [hsn, ← hC, show n - 1 = m by omega, List.map_set]
        have hlen2 : n = (splitL c (l.take (k + 1))).length := by rw [hsn, List.length_set]; exact hC
        generalize (splitL c (l.take k)).getLastD [] = last at hcell hll hset
        have hcat := fun w => run_cat (P := Tryd.prog) last [x] (by omega) (by simp) w
        have hfz : wr.frozen? ⟨g, m, none⟩ = false := by
          rcases HO.out.2 with ⟨h0, _⟩ | ⟨g', cap, cur, hv, hb, hg, _⟩
          · cases h0
          · injection hv with e1 _ e2
            injection e1 with e1
            injection e1 with e1
            subst e1
            exact Blk.frozen (t := 9) hg m
        have hgB : w.heap.size ≤ g := by
          obtain ⟨g', c', e', hb', _⟩ := HO.out.form hn
          injection e' with e1 _ _
          injection e1 with e1
          injection e1 with e1
          omega
        have HSET := hide hset
        have HC2 := hide hlen2
        have HM := hide hm
        simp only [str, Addr.add_lit, Nat.zero_add] at hcell
        generalize x.toNat = xn at hat hxne
        generalize c.toNat = cn at hxne
        clear hset hlen2 hm hle htl hC hlast hsn htk hx
        go_wp2
        go_region
        go_wp2
        go_roundw
        case rel =>
          have h1 := own_set HO.out m (str (last ++ [x])) (by have := HM.out; omega)
          rw [HSET.out] at h1
          exact ⟨k + 1, g, n, cp, by omega, rfl, by go_num, hn, by omega, HC2, hide h1, hide (HB.out.setCell hgB _).drew⟩
        case measure => simp [intOf]; omega
    · have hltI : ¬ (k : Int) < (l.length : Int) := by omega
      have hkl : k = l.length := by omega
      have hC := HC.out
      rw [hkl, List.take_length] at hC
      have hO := HO.out
      rw [hkl, List.take_length] at hO
      subst hC
      clear HC HO hn hnk hkl
      have HO := hide hO
      clear hO
      go_wp2
      go_ret
      exact ⟨g, cp, rfl, HO.out, HB.out⟩
end Go.Proofs.YtaljphjcmkibkaaDoor
