/- What is written is read as it, and what is read, written, is the text: plain laws. Conditions: the words are below 2^64. -/
import Derived.Test.YtaljphjcmkibkaaDoorWV
namespace Go.Proofs.YtaljphjcmkibkaaDoor
open Go.RowKit Go.WideShapes Go.ChangeShapes

theorem of_bits {n : Int} {a : Ad} (ha : a.Ok) : a.of n = true ↔ fam n = true ∧ ∀ j, n.toNat ≤ j → j < 128 → a.b j = false := by
  unfold Ad.of
  simp only [Bool.and_eq_true, decide_eq_true_eq]
  constructor
  · rintro ⟨hf, h⟩
    have hn := fam_le hf
    rw [show (min (max n 0) 128).toNat = n.toNat by omega] at h
    exact ⟨hf, (cut_iff ha _).1 h⟩
  · rintro ⟨hf, h⟩
    have hn := fam_le hf
    rw [show (min (max n 0) 128).toNat = n.toNat by omega]
    exact ⟨hf, (cut_iff ha _).2 h⟩

section
variable (rd : List UInt8 → Nat × Bool) (wr : Nat → List UInt8) (c : UInt8) (many wide tot : Nat)
/-- An address as parts, each written so, with a sign between. -/
def addrG (a : Ad) : List UInt8 := Lib.join ((List.range many).map fun i => wr (getV a (wide * i) wide)) [c]
variable (h1 : ∀ v, v < 2 ^ wide → rd (wr v) = (v, true)) (h2 : ∀ v, v < 2 ^ wide → c ∉ wr v) (h3 : ∀ l v, rd l = (v, true) → wr v = l ∧ v < 2 ^ wide)
  (hw : 0 < wide) (hm : 0 < many) (ht : wide * tot = 128) (hmt : many ≤ tot)
include h1 h2 hw hm ht hmt in
theorem fields_round {a : Ad} (ha : a.Ok) (hb : ∀ j, wide * many ≤ j → j < 128 → a.b j = false) : fieldsV rd c many wide (addrG wr c many wide a) = (a, 0) := by
  have hs : splitL c (addrG wr c many wide a) = (List.range many).map fun i => wr (getV a (wide * i) wide) := by
    refine splitL_join c (by simp; omega) fun p hp => ?_
    obtain ⟨i, _, rfl⟩ := List.mem_map.1 hp
    exact h2 _ (getV_lt _ _ _)
  unfold fieldsV
  rw [hs, if_pos (by simp)]
  have hall : ∀ p ∈ (List.range many).map (fun i => wr (getV a (wide * i) wide)), (rd p).2 = true := by
    intro p hp
    obtain ⟨i, _, rfl⟩ := List.mem_map.1 hp
    rw [h1 _ (getV_lt _ _ _)]
  have e2 := (foldF_two rd wide _ 0 ⟨0, 0⟩).2 hall
  refine Prod.ext ?_ e2
  refine ext_get (foldF_ok _ _ _ _ _ ⟨by decide, by decide⟩) ha wide tot hw ht fun i hi => ?_
  rw [foldF_get rd wide tot (by omega) _ 0 _ (by simp; omega) hall i hi]
  by_cases hi2 : i < many
  · rw [if_pos ⟨Nat.zero_le _, by simpa using hi2⟩, Nat.sub_zero, List.getD_eq_getElem?_getD, List.getElem?_map, List.getElem?_range hi2]
    simp only [Option.map_some, Option.getD_some]
    rw [h1 _ (getV_lt _ _ _)]
    exact Nat.mod_eq_of_lt (getV_lt _ _ _)
  · rw [if_neg (by simp; omega), getV_zero]
    symm
    refine getV_none _ _ fun t ht2 => hb _ ?_ ?_
    · have := Nat.mul_le_mul_left wide (show many ≤ i by omega)
      omega
    · have := Nat.mul_le_mul_left wide (show i + 1 ≤ tot by omega)
      rw [Nat.mul_succ] at this
      omega
include h3 hw ht hmt in
theorem fields_back {a : Ad} {l : List UInt8} (h : fieldsV rd c many wide l = (a, 0)) : addrG wr c many wide a = l ∧ ∀ j, wide * many ≤ j → j < 128 → a.b j = false := by
  unfold fieldsV at h
  split at h
  · rename_i hlen
    have hall := (foldF_two rd wide _ 0 ⟨0, 0⟩).1 (congrArg Prod.snd h)
    have ha : (foldF rd wide 0 ⟨0, 0⟩ (splitL c l)).1 = a := congrArg Prod.fst h
    have hget := foldF_get rd wide tot (by omega) (splitL c l) 0 ⟨0, 0⟩ (by omega) hall
    rw [ha] at hget
    constructor
    · have hps : ((List.range many).map fun i => wr (getV a (wide * i) wide)) = splitL c l := by
        refine List.ext_getElem (by simp [hlen]) fun i hi1 hi2 => ?_
        simp only [List.getElem_map, List.getElem_range]
        have hi : i < many := by simpa using hi1
        rw [hget i (by omega), if_pos ⟨Nat.zero_le _, by omega⟩, Nat.sub_zero, List.getD_eq_getElem?_getD, List.getElem?_eq_getElem hi2, Option.getD_some]
        have hok := hall _ (List.getElem_mem hi2)
        obtain ⟨e1, e2⟩ := h3 (splitL c l)[i] (rd (splitL c l)[i]).1 (Prod.ext rfl hok)
        rw [Nat.mod_eq_of_lt e2, e1]
      rw [addrG, hps, join_splitL]
    · intro j hj hj2
      have hdm := Nat.div_add_mod j wide
      have hlt := Nat.mod_lt j hw
      have hge : many ≤ j / wide := by
        rcases Nat.lt_or_ge (j / wide) many with hl | hl
        · have := Nat.mul_le_mul_left wide (show j / wide + 1 ≤ many from hl)
          rw [Nat.mul_succ] at this
          omega
        · exact hl
      have hjt : j / wide < tot := by rw [Nat.div_lt_iff_lt_mul hw, Nat.mul_comm]; omega
      rw [← hdm]
      refine b_none (m := wide) ?_ _ hlt
      rw [hget _ hjt, if_neg (by omega), getV_zero]
  · injection h with _ h; cases h
end

theorem rd4_itoa (v : Nat) (h : v < 2 ^ 8) : rd4 (Lib.itoa ((v : Nat) : Int)) = (v, true) := by
  have := num_round ⟨v, h⟩
  simp only at this
  rw [rd4, this]; simp
theorem rd4_back (l : List UInt8) (v : Nat) (h : rd4 l = (v, true)) : Lib.itoa ((v : Nat) : Int) = l ∧ v < 2 ^ 8 := by
  unfold rd4 at h
  injection h with e1 e2
  obtain ⟨m, hm, _⟩ := number_nat l 255
  rw [hm, Int.toNat_natCast] at e1
  subst e1
  have := number_back (l := l) (most := 255) (n := m) (Prod.ext hm e2)
  exact ⟨this.1, by have := this.2; omega⟩

theorem addrS_32 {a : Ad} (h : a.of 32 = true) : addrS 32 a = addrG (fun v => Lib.itoa ((v : Nat) : Int)) 46 4 8 a := by
  rw [addrS, h, if_neg (by decide), if_pos rfl]; rfl
theorem addrS_128 {a : Ad} (h : a.of 128 = true) : addrS 128 a = addrG (fun v => hexL v 4) 58 8 16 a := by
  rw [addrS, h, if_neg (by decide), if_neg (by decide)]; rfl
/-- What is written, is read as it. -/
theorem parse_write {n : Int} {a : Ad} (ha : a.Ok) (h : a.of n = true) : parseA n (addrS n a) = (a, 0) := by
  have hb := (of_bits ha).1 h
  rcases fam_le hb.1 with rfl | rfl
  · rw [addrS_32 h, parseA, if_pos rfl]
    exact fields_round rd4 _ 46 4 8 16 rd4_itoa (fun v hv => itoa_free hv (by decide)) (by decide) (by decide) rfl (by decide) ha hb.2
  · rw [addrS_128 h, parseA, if_neg (by decide), if_pos rfl]
    exact fields_round digits _ 58 8 16 8 digits_hexL (fun v _ => hexL_free v (by simp)) (by decide) (by decide) rfl (by decide) ha hb.2
/-- What is read, written, is the text. -/
theorem write_parse {n : Int} {a : Ad} {l : List UInt8} (h : parseA n l = (a, 0)) : addrS n a = l ∧ a.of n = true := by
  have ha : a.Ok := by have := parseA_ok n l; rw [h] at this; exact this
  unfold parseA at h
  split at h
  · rename_i hn
    subst hn
    obtain ⟨e1, e2⟩ := fields_back rd4 (fun v => Lib.itoa ((v : Nat) : Int)) 46 4 8 16 rd4_back (by decide) rfl (by decide) h
    have hof : a.of 32 = true := (of_bits ha).2 ⟨rfl, e2⟩
    exact ⟨(addrS_32 hof).trans e1, hof⟩
  · split at h
    · rename_i _ hn
      subst hn
      obtain ⟨e1, e2⟩ := fields_back digits (fun v => hexL v 4) 58 8 16 8 (fun l v h => digits_back h) (by decide) rfl (by decide) h
      have hof : a.of 128 = true := (of_bits ha).2 ⟨rfl, e2⟩
      exact ⟨(addrS_128 hof).trans e1, hof⟩
    · injection h with _ h; cases h

/-! ### Prefixes -/
theorem right_of {n : Int} {p : Pf} (ha : p.a.Ok) (h : p.right n = true) : p.a.of n = true ∧ fam n = true ∧ 0 ≤ p.n ∧ p.n ≤ n := by
  obtain ⟨hf, h0, h1, h2⟩ := (right_bits ha).1 h
  exact ⟨(of_bits ha).2 ⟨hf, fun j hj hj2 => h2 j (by omega) hj2⟩, hf, h0, h1⟩
theorem indexByte_none (c : UInt8) : ∀ l : List UInt8, c ∉ l → Lib.indexByte l c = -1
  | [], _ => rfl
  | x :: l, h => by
    have hx : x ≠ c := fun e => h (by simp [e])
    have ih := indexByte_none c l (fun hm => h (by simp [hm]))
    rw [Lib.indexByte, ih]; simp [hx]
theorem indexByte_app (c : UInt8) (t : List UInt8) : ∀ l : List UInt8, c ∉ l → Lib.indexByte (l ++ c :: t) c = (l.length : Int)
  | [], _ => by rw [List.nil_append, Lib.indexByte]; simp
  | x :: l, h => by
    have hx : x ≠ c := fun e => h (by simp [e])
    have ih := indexByte_app c t l (fun hm => h (by simp [hm]))
    rw [List.cons_append, Lib.indexByte, ih]
    simp [hx]
theorem cut_app (c : UInt8) (l t : List UInt8) (h : c ∉ l) : Lib.cut (l ++ c :: t) [c] = (l, t, true) := by
  unfold Lib.cut
  rw [Lib.index_one, indexByte_app c t l h, if_pos (by omega)]
  simp
theorem cut_none (c : UInt8) (l : List UInt8) (h : c ∉ l) : Lib.cut l [c] = (l, [], false) := by
  unfold Lib.cut
  rw [Lib.index_one, indexByte_none c l h, if_neg (by decide)]
theorem mem_parts (c : UInt8) : ∀ l : List UInt8, c ∈ l → ∃ x y, l = x ++ c :: y ∧ c ∉ x
  | [], h => absurd h (by simp)
  | z :: l, h => by
    by_cases hz : z = c
    · exact ⟨[], l, by rw [hz]; rfl, by simp⟩
    · have hm : c ∈ l := by
        rcases List.mem_cons.1 h with e | e
        · exact absurd e.symm hz
        · exact e
      obtain ⟨x, y, e, hx⟩ := mem_parts c l hm
      refine ⟨z :: x, y, by rw [e]; rfl, ?_⟩
      intro h2
      rcases List.mem_cons.1 h2 with e | e
      · exact hz e.symm
      · exact hx e
theorem cut_back {c : UInt8} {l : List UInt8} (h : (Lib.cut l [c]).2.2 = true) : l = (Lib.cut l [c]).1 ++ c :: (Lib.cut l [c]).2.1 := by
  by_cases hm : c ∈ l
  · obtain ⟨x, y, rfl, hx⟩ := mem_parts c l hm
    rw [cut_app c x y hx]
  · rw [cut_none c l hm] at h; cases h

theorem mem_tail {c : UInt8} {sep : List UInt8} : ∀ r : List (List UInt8), c ∈ Lib.joinTail sep r → c ∈ sep ∨ ∃ p ∈ r, c ∈ p := by
  intro r h
  unfold Lib.joinTail at h
  obtain ⟨q, hq, hc⟩ := List.mem_flatten.1 h
  obtain ⟨p, hp, rfl⟩ := List.mem_map.1 hq
  rcases List.mem_append.1 hc with h | h
  · exact .inl h
  · exact .inr ⟨p, hp, h⟩
theorem mem_join {c : UInt8} {sep : List UInt8} {ps : List (List UInt8)} (h : c ∈ Lib.join ps sep) : c ∈ sep ∨ ∃ p ∈ ps, c ∈ p := by
  cases ps with
  | nil => rw [Lib.join_nil] at h; exact absurd h (by simp)
  | cons x r =>
    rw [Lib.join_cons] at h
    rcases List.mem_append.1 h with h | h
    · exact .inr ⟨x, by simp, h⟩
    · rcases mem_tail r h with h | ⟨p, hp, hc⟩
      · exact .inl h
      · exact .inr ⟨p, by simp [hp], hc⟩
theorem addrS_free {n : Int} {a : Ad} {c : UInt8} (hc : c = 47) : c ∉ addrS n a := by
  subst hc
  intro h
  unfold addrS at h
  split at h
  · exact absurd h (by simp)
  · split at h
    · rcases mem_join h with h | ⟨p, hp, hc⟩
      · simp at h
      · obtain ⟨i, _, rfl⟩ := List.mem_map.1 hp
        exact itoa_free (getV_lt a (8 * i) 8) (by decide) hc
    · rcases mem_join h with h | ⟨p, hp, hc⟩
      · simp at h
      · obtain ⟨i, _, rfl⟩ := List.mem_map.1 hp
        exact hexL_free _ (by simp) hc
/-- A prefix that may be, written, is read as it. -/
theorem parseP_write {n : Int} {p : Pf} (ha : p.a.Ok) (h : p.right n = true) : parseP n (prefixS n p) = (p, 0) := by
  obtain ⟨hof, hf, h0, h1⟩ := right_of ha h
  have hn := fam_le hf
  obtain ⟨N, hN⟩ : ∃ N : Nat, p.n = N := ⟨p.n.toNat, by omega⟩
  have hp : prefixS n p = addrS n p.a ++ 47 :: Lib.itoa p.n := by
    rw [prefixS, h, if_neg (by decide), List.append_assoc]; rfl
  have hr := num_round8 ⟨N, by omega⟩
  simp only at hr
  unfold parseP
  rw [hp, cut_app 47 _ _ (addrS_free rfl), parse_write ha hof]
  simp only [ne_eq, not_true, if_false]
  rw [hN, hr]
  have hpe : (⟨p.a, ((N : Nat) : Int)⟩ : Pf) = p := by rw [← hN]
  simp only [hpe, h]
  rw [if_neg (by simp), if_neg (by simp)]
/-- What is read as a prefix, written, is the text it was read from. -/
theorem write_parseP {n : Int} {p : Pf} {l : List UInt8} (h : parseP n l = (p, 0)) : prefixS n p = l ∧ p.right n = true := by
  unfold parseP at h
  split at h
  · rename_i hne; injection h with _ h; exact absurd h hne
  · rename_i he
    split at h
    · injection h with _ h; cases h
    · rename_i hno
      split at h
      · injection h with _ h; cases h
      · rename_i hr
        injection h with h _
        have h1 : (Lib.cut l [47]).2.2 = true := by cases hh : (Lib.cut l [47]).2.2 with
          | true => rfl
          | false => exact absurd (.inl hh) hno
        have h2 : (number (Lib.cut l [47]).2.1 128).2 = true := by cases hh : (number (Lib.cut l [47]).2.1 128).2 with
          | true => rfl
          | false => exact absurd (.inr hh) hno
        have he0 : (parseA n (Lib.cut l [47]).1).2 = 0 := by
          rcases Int.decEq (parseA n (Lib.cut l [47]).1).2 0 with h | h
          · exact absurd h he
          · exact h
        obtain ⟨m, hm, _⟩ := number_nat (Lib.cut l [47]).2.1 128
        have hb := number_back (l := (Lib.cut l [47]).2.1) (most := 128) (n := m) (Prod.ext hm h2)
        obtain ⟨e1, _⟩ := write_parse (n := n) (a := (parseA n (Lib.cut l [47]).1).1) (l := (Lib.cut l [47]).1) (Prod.ext rfl he0)
        have hr' : p.right n = true := by
          rw [h] at hr
          cases hh : p.right n with
          | true => rfl
          | false => exact absurd hh hr
        have hl := cut_back h1
        refine ⟨?_, hr'⟩
        rw [prefixS, hr', if_neg (by decide), ← h]
        simp only
        rw [e1, hm, hb.1, List.append_assoc, List.singleton_append]
        exact hl.symm
/-- Alike written just if they are the same. -/
theorem prefixS_inj {n : Int} {p q : Pf} (hp : p.a.Ok) (hq : q.a.Ok) (rp : p.right n = true) (rq : q.right n = true) : (prefixS n p == prefixS n q) = decide (p = q) := by
  rw [Bool.eq_iff_iff, beq_iff_eq, decide_eq_true_eq]
  constructor
  · intro h
    have h1 := parseP_write hp rp
    rw [h, parseP_write hq rq] at h1
    injection h1 with h1 _
    exact h1.symm
  · intro h; rw [h]
theorem addrS_inj {n : Int} {a c : Ad} (ha : a.Ok) (hc : c.Ok) (ra : a.of n = true) (rc : c.of n = true) : (addrS n a == addrS n c) = decide (a = c) := by
  rw [Bool.eq_iff_iff, beq_iff_eq, decide_eq_true_eq]
  constructor
  · intro h
    have h1 := parse_write ha ra
    rw [h, parse_write hc rc] at h1
    injection h1 with h1 _
    exact h1.symm
  · intro h; rw [h]

/-! ### Signs -/
theorem count_free {c : UInt8} {l : List UInt8} (h : c ∉ l) : l.count c = 0 := List.count_eq_zero.2 h
theorem count_parts {c : UInt8} {l : List UInt8} {ps : List (List UInt8)} (h : splitL c l = ps) : l.count c + 1 = ps.length := by rw [← h, splitL_length]
theorem join_len4 {x0 x1 x2 x3 x4 x5 x6 x7 : List UInt8} (s : UInt8) : (Lib.join [x0, x1, x2, x3, x4, x5, x6, x7] [s]).length = x0.length + x1.length + x2.length + x3.length + x4.length + x5.length + x6.length + x7.length + 7 := by
  rw [Lib.join_cons]; simp [Lib.joinTail]; omega
theorem words_32 {a : Ad} (h : a.of 32 = true) : (addrS 32 a).count 46 = 3 ∧ (addrS 32 a).count 58 = 0 := by
  rw [addrS_32 h]
  constructor
  · have := count_parts (l := addrG (fun v => Lib.itoa ((v : Nat) : Int)) 46 4 8 a) (splitL_join 46 (ps := (List.range 4).map fun i => Lib.itoa ((getV a (8 * i) 8 : Nat) : Int)) (by simp) (fun p hp => by
      obtain ⟨i, _, rfl⟩ := List.mem_map.1 hp
      exact itoa_free (getV_lt a (8 * i) 8) (by decide)))
    simpa using this
  · refine count_free fun hm => ?_
    rcases mem_join hm with h | ⟨p, hp, hc⟩
    · simp at h
    · obtain ⟨i, _, rfl⟩ := List.mem_map.1 hp
      exact itoa_free (getV_lt a (8 * i) 8) (by decide) hc
theorem words_128 {a : Ad} (h : a.of 128 = true) : (addrS 128 a).count 46 = 0 ∧ (addrS 128 a).count 58 = 7 ∧ (addrS 128 a).length = 39 := by
  rw [addrS_128 h]
  refine ⟨?_, ?_, ?_⟩
  · refine count_free fun hm => ?_
    rcases mem_join hm with h | ⟨p, hp, hc⟩
    · simp at h
    · obtain ⟨i, _, rfl⟩ := List.mem_map.1 hp
      exact hexL_free _ (by simp) hc
  · have := count_parts (l := addrG (fun v => hexL v 4) 58 8 16 a) (splitL_join 58 (ps := (List.range 8).map fun i => hexL (getV a (16 * i) 16) 4) (by simp) (fun p hp => by
      obtain ⟨i, _, rfl⟩ := List.mem_map.1 hp
      exact hexL_free _ (by simp)))
    simpa using this
  · unfold addrG
    rw [show List.range 8 = [0, 1, 2, 3, 4, 5, 6, 7] by decide]
    simp only [List.map_cons, List.map_nil]
    rw [join_len4]
    simp only [hexL_length]
theorem slash_one {n : Int} {p : Pf} (ha : p.a.Ok) (h : p.right n = true) : (prefixS n p).count 47 = 1 := by
  obtain ⟨_, hf, h0, h1⟩ := right_of ha h
  have hn := fam_le hf
  obtain ⟨N, hN⟩ : ∃ N : Nat, p.n = N := ⟨p.n.toNat, by omega⟩
  rw [prefixS, h, if_neg (by decide), List.count_append, List.count_append, count_free (addrS_free rfl), hN, count_free (itoa_free (by omega) (by decide))]
  rfl
end Go.Proofs.YtaljphjcmkibkaaDoor
